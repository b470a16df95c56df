/- What stands between two rounds of CacheFlush.
   CacheFlush: the walk.
   Arguments opened: ints; what the rows of the group lean on.
   An argument that is a slice of operations, opened.
   CacheFlush: its row and its card. -/
import Derived.Test.YthfidlhefkjpdaaGreatDoorRas
import Derived.BigQuiet
import Derived.Deep.RegionHeld3
import Derived.Deep.RegionLaw
import Derived.ProofKit
import Derived.OpenShut
import Derived.ChangeOld
import Derived.SizedLaws
import Derived.Deep.Slices
import Derived.Deep.Fields
import Derived.ChangeSame
import Derived.Lib.SmallJoins
import Derived.LaidMore
import Derived.Lay
import Derived.SevenTiedAt
import Derived.Stop.Joined
import Derived.Test.YthfidlhefkjpdaaGreatDoorRows
import Derived.Test.YthfidlhefkjpdaaGreatDoorTie
import Derived.Test.YthfidlhefkjpdaaGreatDoorCards
namespace Go.Proofs.YthfidlhefkjpdaaGreatDoor
open Go.RowKit Go.Maps

/-- The slices that CacheFlush wants read as the pages; they lie apart from the pool. -/
def Want (wr : World) (a : Ad) (P : Pl) (D : Dk) (gW count : Nat) : Prop :=
  ¬ aT a gW ∧ ∃ arr : Array Value, wr.heap[gW]? = some (.cells arr 43 (0, 0)) ∧ count ≤ arr.size ∧ ∀ i, i < count → ∃ b o c, arr[i]? = some (.slice (some ⟨b, o, none⟩) 512 c) ∧ RdB wr (some ⟨b, o, none⟩) 512 (lc P D i) ∧ ¬ aT a b ∧ b ≠ gW ∧ b < wr.heap.size

theorem Want.lt {wr : World} {a : Ad} {P : Pl} {D : Dk} {gW count : Nat} (h : Want wr a P D gW count) : gW < wr.heap.size := by
  obtain ⟨_, arr, h1, _⟩ := h
  exact (Array.getElem?_eq_some_iff.1 h1).1

/-- A call on the pool leaves them. -/
theorem Want.step {wr w' : World} {a a' : Ad} {P P' : Pl} {D D' : Dk} {gW count k : Nat} (h : Want wr a P D gW count) (hF : Fr (aT a) wr w') (hA : AdN wr a a' k) (hlc : ∀ M, M < count → lc P' D' M = lc P D M) : Want w' a' P' D' gW count := by
  have hgl := h.lt
  obtain ⟨h0, arr, h1, h2, h3⟩ := h
  refine ⟨fun hh => h0 (hA.foot gW hgl hh), arr, (hF.block gW hgl h0).trans h1, h2, fun i hi => ?_⟩
  obtain ⟨b, o, c, q1, q2, q3, q4, q5⟩ := h3 i hi
  refine ⟨b, o, c, q1, ?_, fun hh => q3 (hA.foot b q5 hh), q4, Nat.lt_of_lt_of_le q5 hF.size⟩
  rw [hlc i hi]
  exact q2.fr hF (fun b' o' _ e => by injection e with e; injection e with e; subst e; exact q3)

/-- One is laid anew. -/
theorem Want.put {wr : World} {a : Ad} {P P' : Pl} {D D' : Dk} {gW count N g' c' : Nat} {bs : List UInt8} (h : Want wr a P D gW count) (hN : N < count) (hR : RdB wr (some ⟨g', 0, none⟩) 512 bs) (hg : ¬ aT a g') (hne : g' ≠ gW) (hlt : g' < wr.heap.size)
    (hlc : ∀ M, M < count → lc P' D' M = if M = N then bs else lc P D M) : Want (wr.setCell ⟨gW, N, none⟩ (.slice (some ⟨g', 0, none⟩) 512 c')) a P' D' gW count := by
  have hgl := h.lt
  obtain ⟨h0, arr, h1, h2, h3⟩ := h
  have hFr : Fr (· = gW) wr (wr.setCell ⟨gW, N, none⟩ (.slice (some ⟨g', 0, none⟩) 512 c')) := fr_at (Fr.refl _ _) _ _
  have hB : Blk wr gW 43 arr := h1
  refine ⟨h0, _, hB.set_ N _, by simpa using h2, fun i hi => ?_⟩
  rw [Array.getElem?_setIfInBounds, hlc i hi]
  by_cases hiN : i = N
  · subst hiN
    rw [if_pos rfl, if_pos (by omega), if_pos rfl]
    exact ⟨g', 0, c', rfl, hR.fr hFr (fun b' o' _ e => by injection e with e; injection e with e; subst e; exact hne), hg, hne, Nat.lt_of_lt_of_le hlt hFr.size⟩
  · rw [if_neg (fun e => hiN e.symm), if_neg hiN]
    obtain ⟨b, o, c, q1, q2, q3, q4, q5⟩ := h3 i hi
    exact ⟨b, o, c, q1, q2.fr hFr (fun b' o' _ e => by injection e with e; injection e with e; subst e; exact q4), q3, q4, Nat.lt_of_lt_of_le q5 hFr.size⟩

structure WSt (w wr : World) (a : Ad) (P : Pl) (L : Lg) (D : Dk) (gW count gl gd gp k : Nat) : Prop where
  st : PSt wr a P L D
  inv : Inv P L D
  pins : PinsOk P k
  cnt : P.count = count
  base : P.base = 4
  old : L.old = false
  lcnt : L.count = 4
  run : L.run = 2
  nrec : 2 * L.nrec ≤ L.stream.length
  steps : D.steps ≤ 4 + 300000 * k
  gl : a.gl = gl
  gd : a.gd = gd
  gp : a.gp = gp
  ma : a.ma ≤ 4096
  mn : a.mn ≤ 4096
  below : Below w.heap.size w wr
  far : ∀ b, aT a b → w.heap.size ≤ b
  want : Want wr a P D gW count
  gw : w.heap.size ≤ gW

theorem AdN.far {w wr : World} {a a' : Ad} {k : Nat} (hA : AdN wr a a' k) (hz : w.heap.size ≤ wr.heap.size) (h : ∀ b, aT a b → w.heap.size ≤ b) : ∀ b, aT a' b → w.heap.size ≤ b := fun b hb => by
  by_cases hl : b < wr.heap.size
  · exact h b (hA.foot b hl hb)
  · omega

/-- A round with calls on the pool that leave the pages as they are. -/
theorem WSt.next {w wr w' : World} {a a' : Ad} {P P' : Pl} {L L' : Lg} {D D' : Dk} {gW count gl gd gp k k' j : Nat} (h : WSt w wr a P L D gW count gl gd gp k) (hP : PSt w' a' P' L' D') (hI : Inv P' L' D') (hp : PinsOk P' k') (hc : P'.count = P.count) (hb : P'.base = P.base)
    (ho : L'.old = L.old) (hlc' : L'.count = L.count) (hrun : L'.run = L.run) (hnr : 2 * L'.nrec ≤ L'.stream.length) (hs : D'.steps ≤ 4 + 300000 * k') (hF : Fr (aT a) wr w') (hA : AdN wr a a' j) (hlc : ∀ M, M < P.count → lc P' D' M = lc P D M) :
    WSt w w' { a' with ma := P'.count, mn := P'.count } P' L' D' gW count gl gd gp k' := by
  have hcc := hI.wf.count
  have hA' : AdN wr a' { a' with ma := P'.count, mn := P'.count } (P'.count + P'.count) := ⟨rfl, rfl, rfl, rfl, rfl, rfl, rfl, rfl, rfl, Nx.refl _ _, Nx.refl _ _, Nx.refl _ _, fun _ h => .inl h, by show P'.count ≤ _; omega, by show P'.count ≤ _; omega⟩
  have hA2 : AdN wr a { a' with ma := P'.count, mn := P'.count } (j + (P'.count + P'.count)) := hA.trans hA' (Nat.le_refl _)
  exact ⟨hP.tight hI.wf hp, hI, hp, hc.trans h.cnt, hb.trans h.base, ho.trans h.old, hlc'.trans h.lcnt, hrun.trans h.run, hnr, hs, hA.gl.trans h.gl, hA.gd.trans h.gd, hA.gp.trans h.gp, hcc, hcc, h.below.trans (hF.below h.below.size h.far), hA2.far h.below.size h.far,
    h.want.step hF hA2 (fun M hM => hlc M (by rw [h.cnt]; exact hM)), h.gw⟩

theorem WSt.kp {w wr w' : World} {a a' : Ad} {P P' : Pl} {L L' : Lg} {D D' : Dk} {gW count gl gd gp k j : Nat} (h : WSt w wr a P L D gW count gl gd gp k) (hP : PSt w' a' P' L' D') (hK : Kp P P' L L' D D') (hp : PinsOk P' (k + 1)) (hF : Fr (aT a) wr w') (hA : AdN wr a a' j) :
    WSt w w' { a' with ma := P'.count, mn := P'.count } P' L' D' gW count gl gd gp (k + 1) :=
  h.next hP hK.inv hp hK.count hK.base hK.old hK.cnt hK.run (by rw [hK.nrec, hK.stream]; exact h.nrec) (by have := hK.steps; have := h.steps; omega) hF hA hK.lc

theorem WSt.below' {w wr w' : World} {a : Ad} {P : Pl} {L : Lg} {D : Dk} {gW count gl gd gp k : Nat} (h : WSt w wr a P L D gW count gl gd gp k) (hb : Below wr.heap.size wr w') : WSt w w' a P L D gW count gl gd gp k :=
  ⟨h.st.below hb, h.inv, h.pins, h.cnt, h.base, h.old, h.lcnt, h.run, h.nrec, h.steps, h.gl, h.gd, h.gp, h.ma, h.mn, h.below.trans (hb.mono h.below.size), h.far, h.want.step (Fr.of_below hb _) (AdN.refl _ _ 0) (fun _ _ => rfl), h.gw⟩

theorem WSt.more {w wr : World} {a : Ad} {P : Pl} {L : Lg} {D : Dk} {gW count gl gd gp k : Nat} (h : WSt w wr a P L D gW count gl gd gp k) : WSt w wr a P L D gW count gl gd gp (k + 1) :=
  ⟨h.st, h.inv, fun j hj => by have := h.pins j hj; omega, h.cnt, h.base, h.old, h.lcnt, h.run, h.nrec, by have := h.steps; omega, h.gl, h.gd, h.gp, h.ma, h.mn, h.below, h.far, h.want, h.gw⟩

/-- A round that lays a page. -/
theorem WSt.laid {w w5 w9 : World} {a5 a7 : Ad} {P P7 : Pl} {L5 L7 : Lg} {D D7 : Dk} {gW cn gl gd gp j Nn g9 c' : Nat} {q : Pg} (h5 : WSt w w5 a5 P L5 D gW cn gl gd gp j) (hF : Fr (aT a5) w5 w9) (hA : AdN w5 a5 a7 1) (hP9 : PSt w9 a7 P7 L7 D7) (hR : PutR P P7 L5 L7 D D7 Nn q)
    (hN : Nn < cn) (hRd : RdB w9 (some ⟨g9, 0, none⟩) 512 (bytesP q)) (hg : ¬ aT a7 g9) (hg2 : w5.heap.size ≤ g9) (hg3 : g9 < w9.heap.size) :
    WSt w (w9.setCell ⟨gW, Nn, none⟩ (.slice (some ⟨g9, 0, none⟩) 512 c')) { a7 with ma := P7.count, mn := P7.count } P7 L7 D7 gW cn gl gd gp (j + 1) := by
  have hcc := hR.inv.wf.count
  have hst := hR.stay
  have hw9 : Want w9 a7 P D gW cn := h5.want.step hF hA (fun _ _ => rfl)
  have hgl := h5.want.lt
  have hput := hw9.put (P' := P7) (D' := D7) (c' := c') hN hRd hg (by omega) hg3 (fun M hM => hR.lc M (by rw [h5.cnt]; exact hM))
  obtain ⟨hnW, arr, hblk, _⟩ := hw9
  have hty : Ty w9 gW 43 := ⟨_, _, hblk⟩
  have hFr : Fr (· = gW) w9 (w9.setCell ⟨gW, Nn, none⟩ (.slice (some ⟨g9, 0, none⟩) 512 c')) := fr_at (Fr.refl _ _) _ _
  have hP10 := hP9.apart_fr hFr (fun b hb e => by have e' : b = gW := e; subst e'; exact hnW hb) (fun b hb e => by have e' : b = gW := e; subst e'; exact hb.ne hty (by decide)) (fun b hb e => by have e' : b = gW := e; subst e'; exact hb.ne hty (by decide))
  have hpk : PinsOk P7 (j + 1) := fun k hk => by
    rw [hR.pins] at hk ⊢
    rw [hst.count]
    have := h5.pins k hk
    omega
  have hA' : AdN w5 a7 { a7 with ma := P7.count, mn := P7.count } (P7.count + P7.count) := ⟨rfl, rfl, rfl, rfl, rfl, rfl, rfl, rfl, rfl, Nx.refl _ _, Nx.refl _ _, Nx.refl _ _, fun _ h => .inl h, by show P7.count ≤ _; omega, by show P7.count ≤ _; omega⟩
  have hz := hF.size
  refine ⟨hP10.tight hR.inv.wf hpk, hR.inv, hpk, hst.count.trans h5.cnt, hst.base.trans h5.base, hst.old.trans h5.old, hst.cnt.trans h5.lcnt, hst.run.trans h5.run, by rw [hst.nrec, hst.stream]; exact h5.nrec, ?_, hA.gl.trans h5.gl, hA.gd.trans h5.gd, hA.gp.trans h5.gp, hcc, hcc,
    (h5.below.trans (hF.below h5.below.size h5.far)).trans (hFr.below (by have := h5.below.size; omega) (fun b e => by have e' : b = gW := e; rw [e']; exact h5.gw)), (hA.trans hA' (Nat.le_refl _)).far h5.below.size h5.far, ?_, h5.gw⟩
  · have h1 := hst.steps
    have h2 := h5.steps
    have h3 := h5.lcnt
    omega
  · obtain ⟨x1, arr2, x2, x3, x4⟩ := hput
    exact ⟨x1, arr2, x2, x3, x4⟩

/-- The slice reads as operations. -/
def RdOps (w : World) (A : Option Addr) (n : Nat) : Prop :=
  0 < n → ∃ b o, A = some ⟨b, o, none⟩ ∧ b < w.heap.size ∧ ∀ i, i < n → ∃ (kd N : Int) (IA : Option Addr) (il ic : Nat) (FA : Option Addr) (fl fc : Nat) (bs : List UInt8),
    w.cell? ⟨b, o + i * 4, none⟩ = some (.int .i64 kd) ∧ w.cell? ⟨b, o + i * 4 + 1, none⟩ = some (.int .i64 N) ∧ w.cell? ⟨b, o + i * 4 + 2, none⟩ = some (.slice IA il ic) ∧ w.cell? ⟨b, o + i * 4 + 3, none⟩ = some (.slice FA fl fc) ∧ wf64 kd ∧ wf64 N ∧ RdB w IA il bs
end Go.Proofs.YthfidlhefkjpdaaGreatDoor

namespace Go.Proofs.YthfidlhefkjpdaaGreatDoor
open Go.RowKit Go.Maps Go.BigFrame

theorem infoSlB : (Tryz.prog.info? 43).map (fun i => (i.zero, i.size, i.bytes)) = some (some (.slice none 0 0), 1, 24) := by kernel_rfl

set_option maxRecDepth 100000 in
set_option maxHeartbeats 2000000 in
theorem cacheFlush_any (count frames : Int) (hcw : wf64 count) (A : Option Addr) (n c : Nat) (K : Option Addr) (kn kc : Nat) (ks : List Int) (w : World) (hO : RdOps w A n) (hn : n ≤ 2199023255552) (hk : RdZ w K kn ks) (hkn : kn ≤ 17592186044416) :
    Calls Tryz.prog 6 #[.int .i64 count, .int .i64 frames, .slice A n c, .slice K kn kc] w fun e w' => e = .returned (.bool true) ∧ Below w.heap.size w w' := by
  obtain ⟨most, hm⟩ : ∃ most : Nat, (most : Int) = min (max frames 1) 64 := ⟨(min (max frames 1) 64).toNat, by omega⟩
  have hal := alive_any w
  have HO := hid hO
  have HK := hid hk
  have hm1 : 1 ≤ most ∧ most ≤ 64 := by omega
  have HM : Aside ((most : Int) = min (max frames 1) 64 ∧ 1 ≤ most ∧ most ≤ 64) := ⟨hm, hm1⟩
  clear hO hk hm hm1
  by_cases hc1 : count < 1
  · have d1 : decide (count < 1) = true := by simpa using hc1
    clear hc1
    go_enter Tryz.func6, Tryz.ntmps6
    go_wp2_with fail
    refine hal.mono ?_
    rintro e w1 ⟨rfl, hb1⟩
    have S1 := hid hb1
    clear hb1 hal
    go_wp2_with fail
    go_ret
    exact ⟨rfl, S1.out⟩
  by_cases hc2 : 12 < count
  · have d1 : decide (count < 1) = false := by simpa using hc1
    have d2 : decide ((12 : Int) < count) = true := by simpa using hc2
    clear hc1 hc2
    go_enter Tryz.func6, Tryz.ntmps6
    go_wp2_with fail
    refine hal.mono ?_
    rintro e w1 ⟨rfl, hb1⟩
    have S1 := hid hb1
    clear hb1 hal
    go_wp2_with fail
    go_ret
    exact ⟨rfl, S1.out⟩
  obtain ⟨cn, rfl⟩ : ∃ cn : Nat, (cn : Int) = count := ⟨count.toNat, by omega⟩
  have hcn1 : 1 ≤ cn := by omega
  have hcn2 : cn ≤ 12 := by omega
  have d1 : decide ((cn : Int) < 1) = false := by simpa using hc1
  have d2 : decide ((12 : Int) < (cn : Int)) = false := by simpa using hc2
  have HC : Aside (1 ≤ cn ∧ cn ≤ 12) := ⟨hcn1, hcn2⟩
  clear hc1 hc2 hcw
  go_enter Tryz.func6, Tryz.ntmps6
  go_wp2_with fail
  refine hal.mono ?_
  rintro e w1 ⟨rfl, hb1⟩
  have S1 : Aside (Below w.heap.size w w1) := ⟨hb1⟩
  clear hb1 hal
  have hmd := lawmade_any none 0 0 [] cn frames most w1 (RdB.nil _ _) (by omega) (by omega) HM.out.1
  go_wp2_with fail
  refine hmd.mono ?_
  rintro e w2 ⟨a0, rfl, hP2, hfar2, hma2, hmn2, hb2⟩
  have hI2 := made_inv cn most (by omega) HM.out.2.1 HM.out.2.2
  have hst2 := (made_wf cn (by omega) [] (by simp)).2.2.2.2
  have hlc2 : ∀ M, M < cn → lc (madeP cn most) (madeD [] cn) M = zeros 512 := fun M hM => made_has cn (i := 4 + M) (by omega) (by omega)
  obtain ⟨P0, hP0⟩ : ∃ P0, madeP cn most = P0 := ⟨_, rfl⟩
  obtain ⟨D0, hD0⟩ : ∃ D0, madeD [] cn = D0 := ⟨_, rfl⟩
  have k0 : (P0.pins = fun _ => none) ∧ P0.count = cn ∧ P0.base = 4 := by rw [← hP0]; exact ⟨rfl, rfl, rfl⟩
  rw [hP0, hD0] at hP2 hI2 hlc2
  rw [hD0] at hst2
  have hL0 : madeL.stream = [] ∧ madeL.old = false ∧ madeL.count = 4 ∧ madeL.run = 2 ∧ madeL.nrec = 0 := ⟨rfl, rfl, rfl, rfl, rfl⟩
  obtain ⟨L0, hL0e⟩ : ∃ L0, madeL = L0 := ⟨_, rfl⟩
  rw [hL0e] at hP2 hI2 hL0
  have S2 : Aside (PSt w2 a0 P0 L0 D0 ∧ Inv P0 L0 D0 ∧ (∀ b, aT a0 b → w1.heap.size ≤ b) ∧ a0.ma = 0 ∧ a0.mn = 0 ∧ Below w1.heap.size w1 w2 ∧ D0.steps = 4 ∧ ((P0.pins = fun _ => none) ∧ P0.count = cn ∧ P0.base = 4) ∧ (L0.stream = [] ∧ L0.old = false ∧ L0.count = 4 ∧ L0.run = 2 ∧ L0.nrec = 0) ∧ (∀ M, M < cn → lc P0 D0 M = zeros 512)) := ⟨hP2, hI2, hfar2, hma2, hmn2, hb2, hst2, k0, hL0, hlc2⟩
  clear hP2 hI2 hfar2 hma2 hmn2 hb2 hst2 k0 hL0 hL0e hP0 hD0 hmd hlc2
  go_wp2_with fail
  obtain ⟨w3, hw3⟩ : ∃ w3, w2.alloc (.cells #[] 43) = w3 := ⟨_, rfl⟩
  rw [hw3]
  obtain ⟨B0, hB0⟩ : ∃ B0, w2.heap.size = B0 := ⟨_, rfl⟩
  have hz3 : w3.heap.size = B0 + 1 := by rw [← hw3, ← hB0]; simp
  have hb23 : Below w2.heap.size w2 w3 := by rw [← hw3]; exact bl_alloc (Below.refl _ _) _
  have hrow3 : w3.ownsRow B0 43 1 (.slice (some ⟨B0, 0, none⟩) 0 0) 0 [] := by
    rw [← hw3, ← hB0]
    exact own_blk (n := 0) (cap := 0) (cs := #[]) (alloc_new w2 _) (Nat.le_refl _) (by simp) rfl rfl (by unfold maxLen; omega)
  obtain ⟨i0, hi0, hz0, hz1, hz2⟩ := info_parts infoSlB
  have hmk := make512
  have S3 : Aside (w2.heap.size = B0 ∧ Below B0 w2 w3 ∧ B0 < w3.heap.size) := ⟨hB0, by rw [← hB0]; exact hb23, by omega⟩
  have R3 := hid hrow3
  rw [hB0]
  clear hw3 hB0 hz3 hb23 hrow3
  go_wp2_with fail
  go_loopg [12, 13] cn (fun q v i wr => ∃ (k : Nat) (bl : List Nat), k + q = cn ∧ i = .int .i64 (k : Nat) ∧ bl.length = k ∧ Hid (wr.ownsRow B0 43 1 v k (bl.map fun b => .slice (some ⟨b, 0, none⟩) 512 512) ∧ Below B0 w2 wr ∧ ∀ b ∈ bl, B0 ≤ b ∧ wr.heap[b]? = some (.cells (cellsB (zeros 512)) 5 (0, 0))))
  case atStart => exact ⟨0, [], by omega, rfl, rfl, R3.out, S3.out.2.1, by simp⟩
  case round =>
    obtain ⟨k, bl, hk, rfl, hbl, hI⟩ := hrel
    by_cases hlt : k < cn
    · have hlt2 : (k : Int) < (cn : Int) := by omega
      obtain ⟨oA, oc, rfl⟩ := own_form_n hI.out.1
      have HI := hid hI.out
      clear hI
      obtain ⟨vs, hvs⟩ : ∃ vs : List Value, (bl.map fun b => Value.slice (some ⟨b, 0, none⟩) 512 512) = vs := ⟨_, rfl⟩
      have hown := HI.out.1
      rw [hvs] at hown
      have HO' := hid hown
      have HV := hid hvs
      have hsz : B0 ≤ wr.heap.size := by have := HI.out.2.1.size; have := S3.out.1; omega
      clear hown hvs
      go_wp2_with (at_builtin
                   refine wpList_append_own _ rfl _ _ 47 rfl B0 43 i0 _ 1 24 Tryz.underlying47 hi0 hz0 hz1 hz2 rfl (by decide) (.slice oA k oc) k vs rfl ((HO'.out.alloc _).alloc _) ⟨wr.heap.size + 1, 0, none⟩ 1 1 [.slice (some ⟨wr.heap.size, 0, none⟩) 512 512] rfl rfl ?_ (by simp [Value.oneCell']) (by unfold maxLen; omega) (by omega) (by simp; omega) ?_
                   · exact news_blk (cs := #[_]) (t := 43) (fr := (0, 0)) (by have := alloc_new (wr.alloc (.cells (cellsB (zeros 512)) 5)) (.cells #[.slice (some ⟨wr.heap.size, 0, none⟩) 512 512] 43); rw [World.size_alloc] at this; exact this)
                   intro v' w1' hown' hgrow _
                   have A1 : Aside (w1'.ownsRow B0 43 1 v' (k + 1) (vs ++ [.slice (some ⟨wr.heap.size, 0, none⟩) 512 512]) ∧ ((wr.alloc (.cells (cellsB (zeros 512)) 5)).alloc (.cells #[.slice (some ⟨wr.heap.size, 0, none⟩) 512 512] 43)).grownBy w1' (Value.slice oA k oc).ownBlock) := ⟨hown', hgrow⟩
                   clear hown' hgrow)
      go_roundg (cn - 1 - k)
      case rel =>
        obtain ⟨hrw, hgr⟩ := A1.out
        have hF : Fr (fun b => (Value.slice oA k oc).ownBlock = some b) wr w1' := (((Fr.refl _ wr).alloc _).alloc _).trans ⟨hgr.os, hgr.tape, hgr.output, hgr.size, fun b hb hn => hgr.block b hb (fun e => hn e.symm)⟩ (fun _ _ h => h)
        have hnew : w1'.heap[wr.heap.size]? = some (.cells (cellsB (zeros 512)) 5 (0, 0)) := (hgr.block _ (by simp; omega) (fun e => by have := (HI.out.1.lt _ e.symm).2; omega)).trans ((Below.heap_alloc _ _ _ (by simp)).trans (alloc_new wr _))
        refine ⟨k + 1, bl ++ [wr.heap.size], by omega, by go_num, by simp [hbl], ?_, ?_, fun b hb => ?_⟩
        · rw [List.map_append, HV.out]
          exact hrw
        · exact HI.out.2.1.trans (hF.below hsz fun b hb => (HI.out.1.lt b hb).1)
        · rcases List.mem_append.1 hb with hb | hb
          · obtain ⟨h1, h2⟩ := HI.out.2.2 b hb
            exact ⟨h1, (hF.block b (Array.getElem?_eq_some_iff.1 h2).1 (fun e => (own_ty HI.out.1 e).ne ⟨_, _, h2⟩ (by decide))).trans h2⟩
          · rw [List.mem_singleton.1 hb]
            exact ⟨hsz, hnew⟩
      case measure => omega
    · have hkn : ¬ (k : Int) < (cn : Int) := by omega
      obtain rfl : k = cn := by omega
      obtain ⟨hl4, ⟨-, h0⟩ | ⟨gW, cap, cur, rfl, hg1, hg2, hg3, -, hg5, hg6⟩⟩ := hI.out.1
      · exact absurd h0 (by omega)
      have hW : WSt w wr a0 P0 L0 D0 gW k a0.gl a0.gd a0.gp 0 := by
        have hz1 := S1.out.size
        have hz2 := S2.out.2.2.2.2.2.1.size
        have hB := S3.out.1
        have hna : ∀ b, B0 ≤ b → ¬ aT a0 b := fun b hb hh => by have := S2.out.1.lt hh; omega
        have hPk := S2.out.2.2.2.2.2.2.2.1
        have hLk := S2.out.2.2.2.2.2.2.2.2.1
        have hbw : Below w.heap.size w wr := (S1.out.trans (S2.out.2.2.2.2.2.1.mono hz1)).trans (hI.out.2.1.mono (by omega))
        refine ⟨S2.out.1.below (by rw [hB]; exact hI.out.2.1), S2.out.2.1, (fun j hj => by rw [hPk.1] at hj; exact absurd hj (by simp)), hPk.2.1, hPk.2.2, hLk.2.1, hLk.2.2.1, hLk.2.2.2.1, by rw [hLk.2.2.2.2, hLk.1]; simp, by rw [S2.out.2.2.2.2.2.2.1]; omega, rfl, rfl, rfl, by rw [S2.out.2.2.2.1]; omega, by rw [S2.out.2.2.2.2.1]; omega, hbw, fun b hb => by have := S2.out.2.2.1 b hb; omega, ⟨hna gW hg1, cur, hg2, by omega, fun i hi => ?_⟩, by omega⟩
        have hil : i < bl.length := by omega
        obtain ⟨hb1, hb2⟩ := hI.out.2.2 bl[i] (List.getElem_mem hil)
        have hrd := rd_of_cells hb2
        rw [zeros_length] at hrd
        refine ⟨bl[i], 0, 512, ?_, by rw [S2.out.2.2.2.2.2.2.2.2.2 i hi]; exact hrd, hna _ hb1, fun e => ?_, (Array.getElem?_eq_some_iff.1 hb2).1⟩
        · have h1 : (cur.toList.take (k * 1))[i]? = some (.slice (some ⟨bl[i], 0, none⟩) 512 512) := by
            rw [hg6, List.getElem?_map, List.getElem?_eq_getElem hil]
            rfl
          rw [List.getElem?_take_of_lt (by omega)] at h1
          simpa using h1
        · rw [e, hg2] at hb2
          injection hb2 with hb2
          injection hb2 with _ ht
          exact absurd ht (by decide)
      have HW := hid hW
      clear hI hl4 hg1 hg2 hg3 hg5 hg6 hW hkn hlt hmk hi0 hz0 hz1 hz2 hbl
      go_wp2_with fail
      go_loopg [59] n (fun q i wx => ∃ j : Nat, j + q = n ∧ i = .int .i64 (j : Nat) ∧ Hid (∃ a P L D, WSt w wx a P L D gW k a0.gl a0.gd a0.gp j))
      case atStart => exact ⟨0, by omega, rfl, _, _, _, _, HW.out⟩
      case round =>
        obtain ⟨j, hj, rfl, hI⟩ := hrel
        obtain ⟨a, P, L, D, hS⟩ := hI.out
        have HS := hid hS
        by_cases hlt : j < n
        · have hlt2 : (j : Int) < (n : Int) := by omega
          obtain ⟨ob, oo, rfl, hob, hops⟩ := HO.out (by omega)
          obtain ⟨kd, N, IA, il, ic, FA, fl, fc, bs, q1, q2, q3, q4, hkw, hNw, hrd⟩ := hops j hlt
          have c1 := (hS.below.cell (p := ⟨ob, oo + j * 4, none⟩) hob).trans q1
          have c2 := (hS.below.cell (p := ⟨ob, oo + j * 4 + 1, none⟩) hob).trans q2
          have c3 := (hS.below.cell (p := ⟨ob, oo + j * 4 + 2, none⟩) hob).trans q3
          have c4 := (hS.below.cell (p := ⟨ob, oo + j * 4 + 3, none⟩) hob).trans q4
          have HR : Aside (RdB w IA il bs ∧ wf64 N) := ⟨hrd, hNw⟩
          clear hI hS hops hrd hNw q1 q2 q3 q4 hob
          by_cases hk2 : kd = 2
          · subst hk2
            have hS4 := HS.out.below' (bl_alloc (Below.refl _ _) (.cells #[.int .i64 2, .int .i64 N, .slice IA il ic, .slice FA fl fc] 57))
            have hb15 := alloc_new wr (.cells #[.int .i64 2, .int .i64 N, .slice IA il ic, .slice FA fl fc] 57)
            have hn15 : ∀ b, aT a b → b < wr.heap.size := fun b hb => HS.out.st.lt hb
            obtain ⟨g15, hg15⟩ : ∃ g15, wr.heap.size = g15 := ⟨_, rfl⟩
            obtain ⟨w4, hw4⟩ : ∃ w4, wr.alloc (.cells #[.int .i64 2, .int .i64 N, .slice IA il ic, .slice FA fl fc] 57) = w4 := ⟨_, rfl⟩
            rw [hw4] at hS4 hb15
            rw [hg15] at hb15 hn15
            have hap := lappend_st a P L D 1 none 0 0 [] w4 hS4.st hS4.inv.ok.lw hS4.old hS4.inv.ok.ld (by omega) (by omega) (RdB.nil _ _) (fun b o h0 => by omega) (by omega) (by
              have h1 := hS4.nrec; have h2 := hS4.inv.ok.lw.len; have h3 := hS4.lcnt; omega)
            rw [hS4.gl, show ((1 : Nat) : Int) = 1 from rfl] at hap
            have B15 : Aside (w4.heap[g15]? = some (.cells #[.int .i64 2, .int .i64 N, .slice IA il ic, .slice FA fl fc] 57 (0, 0)) ∧ (∀ b, aT a b → b < g15) ∧ wr.heap.size = g15) := ⟨hb15, hn15, hg15⟩
            have S4 := hid hS4
            clear hb15 hn15 hS4 hkw
            have HW4 := hid hw4
            clear hw4
            by_cases hfull : L.stream.length + (0 + 2) ≤ L.count * 498
            · obtain ⟨x, hx⟩ : ∃ x : Nat, (x : Int) = L.lsn L.stream.length := ⟨L.run * 16777216 + L.stream.length, rfl⟩
              rw [← hx] at hap
              go_wp2_with fail
              rw [HW4.out]
              clear HW4 hg15
              refine hap.mono ?_
              rintro e w5 ⟨hap1, -⟩
              obtain ⟨rfl, a5, hP5, hF5, hA5⟩ := hap1 hfull
              have hrl : (recL 1 0 []).length = 2 := rfl
              have hS5 := S4.out.next hP5 (S4.out.inv.appended (recL 1 0 []) (L.nrec + 1) (by rw [hrl]; exact hfull)) S4.out.pins rfl rfl rfl rfl rfl (by
                have h1 := S4.out.nrec
                show 2 * (L.nrec + 1) ≤ (L.stream ++ recL 1 0 []).length
                rw [List.length_append, hrl]; omega) S4.out.steps hF5 hA5 (fun _ _ => rfl)
              obtain ⟨L5, hL5⟩ : ∃ L5, ({ L with stream := L.stream ++ recL 1 0 [], nrec := L.nrec + 1 } : Lg) = L5 := ⟨_, rfl⟩
              obtain ⟨a6, ha6⟩ : ∃ a6, ({ a5 with ma := P.count, mn := P.count } : Ad) = a6 := ⟨_, rfl⟩
              rw [hL5, ha6] at hS5
              have hl15 : g15 < w4.heap.size := (Array.getElem?_eq_some_iff.1 B15.out.1).1
              have hn15 : ¬ aT a6 g15 := fun hh => by
                rw [← ha6] at hh
                have := B15.out.2.1 g15 (hA5.foot g15 hl15 hh)
                omega
              have hb15 := (hF5.block g15 hl15 (fun hh => by have := B15.out.2.1 g15 hh; omega)).trans B15.out.1
              have hx2 : x ≤ 9223372036854775807 := by
                have h1 := S4.out.run; have h2 := S4.out.inv.ok.lw.len; have h3 := S4.out.lcnt
                unfold Lg.lsn at hx
                rw [h1] at hx
                omega
              have S5 := hid hS5
              have C5 : Aside (w5.heap[g15]? = some (.cells #[.int .i64 2, .int .i64 N, .slice IA il ic, .slice FA fl fc] 57 (0, 0)) ∧ ¬ aT a6 g15 ∧ g15 < w5.heap.size ∧ x ≤ 9223372036854775807) := ⟨hb15, hn15, by have := hF5.size; omega, hx2⟩
              have c5 := (show Blk w5 g15 57 _ from hb15).cell 2
              simp only [List.getElem?_toArray, List.getElem?_cons_succ, List.getElem?_cons_zero] at c5
              have hone := one_any IA il ic bs w5 (HR.out.1.below hS5.below)
              clear hap hap1 hP5 hF5 hA5 hrl hL5 ha6 hl15 hn15 hb15 hx2 hS5 hx hfull c1 c2 c3 c4
              go_wp2_with fail
              refine hone.mono ?_
              rintro e w6 ⟨g6, rfl, hG6, hb6⟩
              have hS6 := S5.out.below' hb6
              have hb15 := (hb6.block g15 C5.out.2.2.1).trans C5.out.1
              have c6 := (show Blk w6 g15 57 _ from hb15).cell 1
              simp only [List.getElem?_toArray, List.getElem?_cons_succ, List.getElem?_cons_zero] at c6
              have hput := cput_all a6 P L5 D N w5.heap.size g6 x (oneP bs) w6 hS6.st hS6.inv (by have := hS6.ma; omega) (by have := hS6.steps; omega) hG6 (oneP_wf _) (fun b hb => S5.out.st.lt hb) C5.out.2.2.2
              rw [hS6.gp] at hput
              have S6 : Aside (WSt w w6 a6 P L5 D gW k a0.gl a0.gd a0.gp j ∧ Below w5.heap.size w5 w6 ∧ PageAt w6 w5.heap.size g6 (oneP bs)) := ⟨hS6, hb6, hG6⟩
              have C6 := hid hb15
              clear hS6 hb6 hG6 hone c5 hb15
              rcases hput with ⟨Nn, rfl, hNn, hc⟩ | ⟨e0, he0, hc⟩
              · go_wp2_with fail
                refine hc.mono ?_
                rintro e w7 ⟨rfl, a7, P7, L7, D7, hP7, hR7, hF7, hA7⟩
                have hF57 : Fr (aT a6) w5 w7 := (Fr.of_below S6.out.2.1 (aT a6)).trans hF7 (fun _ _ h => h)
                have hA57 : AdN w5 a6 a7 1 := ((AdN.refl w5 a6 0).trans hA7 S6.out.2.1.size).mono (by omega)
                have hG7 : PageAt w7 w5.heap.size g6 (oneP bs) := S6.out.2.2.far hF7 (fun b hb => S5.out.st.lt hb)
                have hb15 := (hF7.block g15 (by have := C5.out.2.2.1; have := S6.out.2.1.size; omega) C5.out.2.1).trans C6.out
                have hls := setLSN_any w5.heap.size g6 (oneP bs) (x : Int) w7 hG7 (by have := C5.out.2.2.2; omega)
                rw [show max (x : Int) 0 = (x : Int) by omega] at hls
                have hNk : Nn < k := by rw [← S6.out.1.cnt]; exact hNn
                have S7 : Aside (PSt w7 a7 P7 L7 D7 ∧ PutR P P7 L5 L7 D D7 Nn { oneP bs with lsn := (x : Int) } ∧ Fr (aT a6) w5 w7 ∧ AdN w5 a6 a7 1 ∧ Nn < k) := ⟨hP7, hR7, hF57, hA57, hNk⟩
                have hnP : ¬ aT a7 g6 := fun hh => by
                  have h1 := S5.out.st.lt (hA7.foot g6 (by obtain ⟨_, _, _, hB, _⟩ := S6.out.2.2; exact hB.lt) hh)
                  have h2 := S6.out.2.2.1
                  omega
                have C7 : Aside (w7.heap[g15]? = some (.cells #[.int .i64 2, .int .i64 (Nn : Int), .slice IA il ic, .slice FA fl fc] 57 (0, 0)) ∧ w5.heap.size ≤ g6 ∧ g6 < w7.heap.size ∧ ¬ aT a7 g6 ∧ Ty w7 g6 138) := ⟨hb15, hG7.1, by obtain ⟨_, _, _, hB, _⟩ := hG7; exact hB.lt, hnP, hG7.ty⟩
                clear hP7 hR7 hF7 hA7 hF57 hA57 hG7 hb15 hc c6 hNn hnP
                go_wp2_with fail
                refine hls.mono ?_
                rintro e w8 ⟨rfl, hG8, hg8⟩
                have hF8 : Fr (· = g6) w7 w8 := Fr.of_only hg8
                have hz5 := S7.out.2.2.1.size
                have hz7 := hF8.size
                have hb15 := (hF8.block g15 (by have := C5.out.2.2.1; omega) (fun e => by have := C5.out.2.2.1; have := C7.out.2.1; have e' : g15 = g6 := e; omega)).trans C7.out.1
                have hP8 := S7.out.1.apart_fr hF8 (fun b hb e => by have e' : b = g6 := e; subst e'; exact C7.out.2.2.2.1 hb) (fun b hb e => by have e' : b = g6 := e; subst e'; exact hb.ne C7.out.2.2.2.2 (by decide)) (fun b hb e => by have e' : b = g6 := e; subst e'; exact hb.ne C7.out.2.2.2.2 (by decide))
                have hF58 : Fr (aT a6) w5 w8 := S7.out.2.2.1.trans hF8 (fun b hb e => by have e' : b = g6 := e; have := C7.out.2.1; omega)
                have hqw : Pg.wf { oneP bs with lsn := (x : Int) } := by
                  have hw1 := oneP_wf bs
                  have := C5.out.2.2.2
                  exact ⟨by show (0 : Int) ≤ x; omega, by show (x : Int) ≤ _; omega, hw1.extra, hw1.slots, hw1.item, hw1.used⟩
                obtain ⟨q, hq⟩ : ∃ q, ({ oneP bs with lsn := (x : Int) } : Pg) = q := ⟨_, rfl⟩
                have hR7 := S7.out.2.1
                rw [hq] at hG8 hqw hR7
                have HB : Aside (∀ W, Below w8.heap.size w8 W → Calls Tryz.prog 27 #[.pointer (some ⟨g6, 0, none⟩)] W fun e w' => ∃ g9 cap, e = .returned (.slice (some ⟨g9, 0, none⟩) 512 cap) ∧ RdB w' (some ⟨g9, 0, none⟩) 512 (bytesP q) ∧ w8.heap.size ≤ g9 ∧ g9 < w'.heap.size ∧ Below w8.heap.size w8 w') := ⟨fun W hW => (bytes_any w5.heap.size g6 q W (hG8.below hW) hqw).mono fun e w' hr => by
                  obtain ⟨g9, cap9, e1, hown, hb⟩ := hr
                  have hl := hown.lt g9 rfl
                  have hz := hW.size
                  exact ⟨g9, cap9, e1, RdB.of_own hown, by omega, hl.2, hW.trans (hb.mono hz)⟩⟩
                have HE : Aside (∀ args w, (callFunc 27 args).run Tryz.prog w = .ok (.enter 27 args) w) := ⟨enters_of Tryz.func27 (by kernel_rfl) rfl⟩
                have S8 : Aside (PSt w8 a7 P7 L7 D7 ∧ PutR P P7 L5 L7 D D7 Nn q ∧ Fr (aT a6) w5 w8 ∧ AdN w5 a6 a7 1 ∧ w5.heap.size ≤ w8.heap.size) := ⟨hP8, hR7, hF58, S7.out.2.2.2.1, hF58.size⟩
                have C8 : Aside (w8.heap[g15]? = some (.cells #[.int .i64 2, .int .i64 (Nn : Int), .slice IA il ic, .slice FA fl fc] 57 (0, 0)) ∧ g15 < w8.heap.size) := ⟨hb15, (Array.getElem?_eq_some_iff.1 hb15).1⟩
                have c8 := (show Blk w8 g15 57 _ from hb15).cell 1
                simp only [List.getElem?_toArray, List.getElem?_cons_succ, List.getElem?_cons_zero] at c8
                have hNk := S7.out.2.2.2.2
                have hNk2 : (Nn : Int) < (k : Int) := by omega
                have tok1 : True := trivial
                clear hb15 hG8 hg8 hF8 hP8 hF58 hq hqw hR7 S7 C7 hls hz5 hz7
                go_wp2_with fail
                go_region_law (
                  (have _t := tok1
                   (refine step_call1 (o := ⟨some 92, _, _, _, _, _⟩) 27 (by rfl) _ _ (by rfl) HE.out (.pointer (some ⟨g6, 0, none⟩)) (by go_simp) (HB.out _ ?_) ?_)
                   · exact (by repeat (first | exact Below.refl _ _ | refine bl_drew ?_))
                   rintro e w9 ⟨g9, cap9, rfl, hRd9, hg91, hg92, hb9⟩
                   have S9 : Aside (RdB w9 (some ⟨g9, 0, none⟩) 512 (bytesP q) ∧ w8.heap.size ≤ g9 ∧ g9 < w9.heap.size ∧ Below w8.heap.size w8 w9) := ⟨hRd9, hg91, hg92, hb9⟩
                   have hb15 := (hb9.block g15 C8.out.2).trans C8.out.1
                   have c9 := (show Blk w9 g15 57 _ from hb15).cell 1
                   simp only [List.getElem?_toArray, List.getElem?_cons_succ, List.getElem?_cons_zero] at c9
                   have hW9 : Want w9 a7 P D gW k := S5.out.want.step (S8.out.2.2.1.trans (Fr.of_below hb9 (aT a6)) (fun _ _ h => h)) S8.out.2.2.2.1 (fun _ _ => rfl)
                   obtain ⟨-, arr9, hblk9, hsz9, -⟩ := hW9
                   have cW := (show Blk w9 gW 43 arr9 from hblk9).cell Nn
                   have fW := (show Blk w9 gW 43 arr9 from hblk9).frozen Nn
                   obtain ⟨vW, hvW⟩ : ∃ vW, arr9[Nn]? = some vW := ⟨_, Array.getElem?_eq_getElem (by omega)⟩
                   rw [hvW] at cW
                   clear hRd9 hg91 hg92 hb9 hb15 hblk9 hsz9 hvW tok1
                   refine ⟨_, rfl, ?_⟩))
                all_goals
                  go_wp2_with fail
                  go_roundg (n - 1 - j)
                  case rel => exact ⟨j + 1, by omega, by go_num, _, _, _, _, S5.out.laid (S8.out.2.2.1.trans (Fr.of_below S9.out.2.2.2 (aT a6)) (fun _ _ h => h)) S8.out.2.2.2.1 (S8.out.1.below S9.out.2.2.2) S8.out.2.1 hNk S9.out.1 (fun hh => by have := S8.out.1.lt hh; have := S9.out.2.1; omega) (by have := S8.out.2.2.2.2; have := S9.out.2.1; omega) S9.out.2.2.1⟩
                  case measure => omega
              · go_wp2_with fail
                refine hc.mono ?_
                rintro e w7 ⟨rfl, P7, hP7, hI7, hs7, hF7⟩
                have S7 := hid (S6.out.1.kp hP7 (Kp.of_same S6.out.1.inv hI7 hs7) (fun q hq => by
                  rw [hs7.pins] at hq ⊢
                  rw [hs7.stay.count]
                  have := S6.out.1.pins q hq
                  omega) hF7 (AdN.refl _ _ 0))
                clear hP7 hI7 hs7 hF7 hc
                go_wp2_with fail
                go_roundg (n - 1 - j)
                case rel => exact ⟨j + 1, by omega, by go_num, _, _, _, _, S7.out⟩
                case measure => omega
            · go_wp2_with fail
              rw [HW4.out]
              clear HW4 hg15
              refine hap.mono ?_
              rintro e w5 ⟨-, hap1⟩
              obtain ⟨rfl, hP5, hb5⟩ := hap1 hfull
              have hS5 := S4.out.below' hb5
              have hb15 := (hb5.block g15 (Array.getElem?_eq_some_iff.1 B15.out.1).1).trans B15.out.1
              have c5 := (show Blk w5 g15 57 _ from hb15).cell 2
              simp only [List.getElem?_toArray, List.getElem?_cons_succ, List.getElem?_cons_zero] at c5
              have hone := one_any IA il ic bs w5 (HR.out.1.below hS5.below)
              have S5 := hid hS5
              clear hap hap1 hP5 hb5 hS5 hfull hb15 c1 c2 c3 c4
              go_wp2_with fail
              refine hone.mono ?_
              rintro e w6 ⟨g6, rfl, -, hb6⟩
              have S6 := hid (S5.out.below' hb6).more
              clear hone hb6 c5
              go_wp2_with fail
              go_roundg (n - 1 - j)
              case rel => exact ⟨j + 1, by omega, by go_num, _, _, _, _, S6.out⟩
              case measure => omega
          · have e2 : (kd == 2) = false := by simpa using hk2
            by_cases hk7 : kd = 7
            · subst hk7
              clear hk2 hkw
              go_wp2_with fail
              go_roundg (n - 1 - j)
              case rel => exact ⟨j + 1, by omega, by go_num, _, _, _, _, (HS.out.below' (bl_alloc (Below.refl _ _) _)).more⟩
              case measure => omega
            · have e7 : (kd == 7) = false := by simpa using hk7
              clear hkw hk2 hk7
              go_wp2_with fail
              have hS4 := HS.out.below' (bl_alloc (Below.refl _ _) (.cells #[.int .i64 kd, .int .i64 N, .slice IA il ic, .slice FA fl fc] 57))
              have ha := asks_any a P L D (min (max kd 3) 6) N j _ hS4.st hS4.inv hS4.pins (by omega) (by have := hS4.ma; omega) (by have := hS4.mn; omega) (by have := hS4.steps; omega) (by omega) HR.out.2
              rw [hS4.gl, hS4.gp] at ha
              refine ha.mono ?_
              rintro e w5 ⟨⟨v, rfl⟩, a5, P5, L5, D5, h1, h2, h3, h4, h5⟩
              have S5 := hid (hS4.kp h1 h2 h3 h4 h5)
              clear h1 h2 h3 h4 h5 ha hS4
              go_wp2_with fail
              go_roundg (n - 1 - j)
              case rel => exact ⟨j + 1, by omega, by go_num, _, _, _, _, S5.out⟩
              case measure => omega
        · have hjn : ¬ (j : Int) < (n : Int) := by omega
          have hfl := cflush_kp a P L D j wr hS.st hS.inv hS.pins (by have := hS.ma; omega) (by have := hS.steps; omega)
          rw [hS.gp] at hfl
          clear hI hS hlt
          go_wp2_with fail
          refine hfl.mono ?_
          rintro e w5 ⟨rfl, P5, L5, D5, hP5, hFl, -, hF5⟩
          have hd := cDirty_any a P5 L5 D5 w5 hP5 hFl.inv.wf (by have := HS.out.ma; omega)
          rw [HS.out.gp] at hd
          have S5 : Aside (PSt w5 a P5 L5 D5 ∧ Flushed P P5 L L5 D D5 ∧ Fr (aT a) wr w5) := ⟨hP5, hFl, hF5⟩
          clear hP5 hFl hF5 hfl
          go_wp2_with fail
          refine hd.mono ?_
          rintro e w6 ⟨v6, ks6, rfl, -, hown6, hb6⟩
          rw [dirtyL_nil S5.out.2.1.inv.wf (clean_dty S5.out.2.1.clean)] at hown6
          obtain ⟨A6, n6, rfl⟩ := own_form_n hown6
          rw [show ([] : List (Int × Int)).length = 0 from rfl]
          have hP6 := S5.out.1.below hb6
          have hF6 : Fr (aT a) wr w6 := S5.out.2.2.trans (Fr.of_below hb6 (aT a)) (fun _ _ h => h)
          have hbw6 : Below w.heap.size w w6 := HS.out.below.trans (hF6.below HS.out.below.size HS.out.far)
          have hon := don_any a.gd a.gs a.gm D5 K kn kc ks w6 hP6.ld.disk S5.out.2.1.inv.ok.dw S5.out.2.1.inv.ok.doff S5.out.2.1.pend (HK.out.below hbw6) hkn (fun b o h0 e => by
            obtain ⟨b', o', e', hl, -⟩ := HK.out.2.2 h0
            rw [e] at e'
            injection e' with e'
            injection e' with e' _
            have := HS.out.far a.gs (.inl (.inl (.inr (.inl rfl))))
            omega)
          rw [HS.out.gd] at hon
          have S6 : Aside (PSt w6 a P5 L5 D5 ∧ Fr (aT a) wr w6 ∧ Below w.heap.size w w6) := ⟨hP6, hF6, hbw6⟩
          clear hP6 hF6 hbw6 hown6 hb6 hd
          go_wp2_with fail
          refine hon.mono ?_
          rintro e w7 ⟨rfl, hD7, hF7⟩
          have hF67 : Fr (aT a) w6 w7 := hF7.mono (fun b _ hb => .inl (.inl (by rw [← HS.out.gd] at hb; exact hb)))
          have hK5 := Kp.of_flushed S5.out.2.1
          have hW7 : Want w7 a P5 D5 gW k := HS.out.want.step (S6.out.2.1.trans hF67 (fun _ _ h => h)) (AdN.refl _ _ 0) (fun M hM => hK5.lc M (by rw [HS.out.cnt]; exact hM))
          have hlc7 : ∀ M, M < k → lc P5 D5 M = D5.has (4 + M) := fun M hM => by
            rw [hK5.lc M (by rw [HS.out.cnt]; exact hM), ← S5.out.2.1.lc M (by rw [HS.out.cnt]; exact hM), HS.out.base]
          have hsec : 4 + k ≤ D5.sec.length := by
            have h1 := S5.out.2.1.inv.ok.pb
            rw [S5.out.2.1.base, S5.out.2.1.count, HS.out.cnt, HS.out.base] at h1
            exact h1
          have S7 : Aside (DiskAt w7 a0.gd a.gs a.gm D5 ∧ Want w7 a P5 D5 gW k ∧ (∀ M, M < k → lc P5 D5 M = D5.has (4 + M)) ∧ 4 + k ≤ D5.sec.length ∧ Below w.heap.size w w7 ∧ D5.wf ∧ D5.off = false) := ⟨hD7, hW7, hlc7, hsec, S6.out.2.2.trans (hF67.below S6.out.2.2.size HS.out.far), S5.out.2.1.inv.ok.dw, S5.out.2.1.inv.ok.doff⟩
          clear hD7 hF7 hF67 hK5 hW7 hlc7 hsec hon
          go_wp2_with fail
          go_loopg [123] k (fun q i wx => ∃ m : Nat, m + q = k ∧ i = .int .i64 (m : Nat) ∧ Hid (Below w7.heap.size w7 wx))
          case atStart => exact ⟨0, by omega, rfl, Below.refl _ _⟩
          case round =>
            obtain ⟨m, hm, rfl, hI⟩ := hrel
            by_cases hlm : m < k
            · have hlm2 : (m : Int) < (k : Int) := by omega
              have hrd := read_any a0.gd a.gs a.gm D5 (4 + m) wr (S7.out.1.below hI.out) S7.out.2.2.2.2.2.1 S7.out.2.2.2.2.2.2 (by have := S7.out.2.2.2.1; omega)
              rw [show ((4 + m : Nat) : Int) = 4 + (m : Int) by omega] at hrd
              have HI := hid hI.out
              clear hI
              go_wp2_with fail
              refine hrd.mono ?_
              rintro e w8 ⟨g8, rfl, hg8, -, hb8⟩
              obtain ⟨hnW, arr, hblk, hsz, hel⟩ := S7.out.2.1
              obtain ⟨pb, po, pc, hp1, hp2, -, -, hp5⟩ := hel m hlm
              have hb78 : Below w7.heap.size w7 w8 := HI.out.trans (hb8.mono HI.out.size)
              have hr1 := rd_of_cells hg8
              rw [Dk.has_len S7.out.2.2.2.2.2.1 (by have := S7.out.2.2.2.1; omega)] at hr1
              have hr2 := hp2.below hb78
              rw [S7.out.2.2.1 m hlm] at hr2
              have hsm := same_any (some ⟨g8, 0, none⟩) (some ⟨pb, po, none⟩) 512 512 pc (D5.has (4 + m)) w8 hr1 hr2 (by omega)
              have cW := ((show Blk w7 gW 43 arr from hblk).below hb78 S7.out.2.1.lt).cell m
              rw [hp1] at cW
              have S8 := hid hb78
              clear hrd hnW hblk hsz hel hp1 hp2 hp5 hr1 hr2 hg8 hb8 hb78
              go_wp2_with fail
              refine hsm.mono ?_
              rintro e w9 ⟨rfl, hb9⟩
              have S9 := hid (S8.out.trans (hb9.mono S8.out.size))
              clear hsm hb9
              go_wp2_with fail
              go_roundg (k - 1 - m)
              case rel => exact ⟨m + 1, by omega, by go_num, S9.out⟩
              case measure => omega
            · have hmk : ¬ (m : Int) < (k : Int) := by omega
              have HI := hid (S7.out.2.2.2.2.1.trans (hI.out.mono S7.out.2.2.2.2.1.size))
              clear hI
              go_wp2_with fail
              go_ret
              exact ⟨rfl, HI.out⟩
end Go.Proofs.YthfidlhefkjpdaaGreatDoor

namespace Go.Proofs.YthfidlhefkjpdaaGreatDoor
open Go.ChangeShapes Go.WideShapes Go.ChangeAt Go.RowKit Go.Deep Go.Joins

theorem wf64_of {n : Int} (h : (Lit.int .i64 n).wf = true) : wf64 n := by
  simp only [Lit.wf, Bool.and_eq_true, decide_eq_true_eq] at h
  exact h
theorem plain_addr {W : World} {x : Addr} {u : Value} (h : W.cell? (x.add 0) = some u) : ∃ b off, x = ⟨b, off, none⟩ ∧ b < W.heap.size ∧ ∀ j, x.add j = ⟨b, off + j, none⟩ := by
  have h' : W.cell? x = some u := h
  obtain ⟨b, off, sp⟩ := x
  have hsp : sp = none := by
    cases sp with
    | none => rfl
    | some y =>
      exfalso
      unfold World.cell? at h'
      split at h'
      · simp at h'
      · cases h'
  subst hsp
  have hadd : ∀ j, (⟨b, off, none⟩ : Addr).add j = ⟨b, off + j, none⟩ := fun j => by unfold Addr.add; split <;> simp_all
  exact ⟨b, off, rfl, World.block_lt_of_cell? W _ h', hadd⟩

set_option maxRecDepth 100000 in
/-- an argument that is a slice of ints -/
theorem open_ints_arg {H : Type} {enc : TypeId × Value → H} {W : World} {r : Reach} {b0 : Nat} {v : Value} {d : DataW H} {p : List MemPlace} (hv : Value.okWide Tryz.prog W r b0 22 v)
    (h : DataW.Trod enc Tryz.prog W 0 (fun _ => true) true 22 v d p) (hw : (d.weights Tryz.prog 22).all (· ≤ reachBytes) = true) : ∃ A n c zs, v = .slice A n c ∧ RdZ W A n zs ∧ n ≤ 17592186044416 := by
  obtain ⟨A, n, c, rfl⟩ := okWide_slice Tryz.underlying22 hv
  obtain ⟨fuel, hf⟩ := h
  refine ⟨A, n, c, ?_⟩
  rcases open_ints Tryz.underlying22 Tryz.underlying3 (by kernel_rfl) hf with ⟨hcs, _⟩ | ⟨x, l, c', zs, hcs, _, hl, hm, hz, hx, hcell, hwz⟩
  · simp [Value.cells] at hcs
    obtain ⟨rfl, rfl, rfl⟩ := hcs
    exact ⟨[], rfl, ⟨rfl, (fun _ h => by cases h), fun h => absurd h (Nat.lt_irrefl 0)⟩, by omega⟩
  · simp [Value.cells] at hcs
    obtain ⟨rfl, rfl, rfl⟩ := hcs
    have hz' : zs.length = c := by simpa using hz
    have hsz : zs.length * 8 ≤ 140737488351232 := by
      have hd : d = .slice (lits .i64 (zs.take n)) (lits .i64 (zs.drop n)) := congrArg Prod.fst hx
      have hw2 : (DataW.weightsEach Tryz.prog [22] [d]).all (· ≤ reachBytes) = true := by
        simpa [DataW.weightsEach] using hw
      have := sized_slice hw2 (j := 0) (t := 22) (e := 3) rfl (by rw [hd]; rfl) Tryz.underlying22
      rw [show Tryz.prog.bytesOf 3 = 8 by kernel_rfl] at this
      simp only [lits, List.length_map, List.length_take, List.length_drop] at this
      unfold reachBytes at this
      omega
    have hll : (zs.take n).length = n := by simp; omega
    refine ⟨zs.take n, rfl, ⟨hll, fun z hz => wf64_of (hwz z (List.mem_of_mem_take hz)), fun h0 => ?_⟩, by omega⟩
    obtain ⟨b, off, rfl, hb, hadd⟩ := plain_addr (hcell 0 (by omega))
    refine ⟨b, off, rfl, hb, fun j hj => ?_⟩
    have h2 := hcell j (by omega)
    rw [hadd] at h2
    rw [h2, List.getElem_take, List.getD_eq_getElem?_getD, List.getElem?_eq_getElem (by omega)]
    rfl

end Go.Proofs.YthfidlhefkjpdaaGreatDoor

namespace Go.Proofs.YthfidlhefkjpdaaGreatDoor
open Go.ChangeShapes Go.WideShapes Go.ChangeAt Go.RowKit Go.Deep Go.Joins

section
variable {H : Type} {enc : TypeId × Value → H} {P : Program} {w : World} {base : Nat} {spare : Nat → Bool} {held : Bool}
theorem open_slice_fields {t e : TypeId} {fs : Array Field} {fuel : Nat} {cs : List Value} {x : DataW H × List MemPlace} (ht : P.underlying t = some (.slice e)) (he : P.underlying e = some (.struct fs))
    (hone : oneCellFields P fs = true) (hC : P.cellsOf e = fs.size) (h : DataW.trod enc P w base spare held fuel t cs = some x) :
    (cs = [.slice none 0 0] ∧ x = (.nil, [])) ∨
    ∃ (a : Addr) (len cap m : Nat) (D : Nat → DataW H) (Pl : Nat → List MemPlace), cs = [.slice (some a) len cap] ∧ base ≤ a.block ∧ len ≤ cap ∧ cap ≤ maxLen ∧ m = (if spare a.block then cap else len) ∧
      x = (.slice ((List.range len).map D) ((List.range (m - len)).map fun j => D (len + j)), MemPlace.row a (m * fs.size) ++ (List.range m).flatMap Pl) ∧
      ∀ i, i < m → ∃ (ys : List (DataW H × List MemPlace)) (n : Nat), D i = .agg (ys.map (·.1)) ∧ Pl i = ys.flatMap (·.2) ∧ ys.length = fs.size ∧
        ∀ (j : Nat) (f : Field), fs[j]? = some f → ∃ (v : Value) (y : DataW H × List MemPlace), w.cell? (a.add (i * fs.size + j)) = some v ∧ ys[j]? = some y ∧ DataW.trod enc P w base spare held n f.type [v] = some y := by
  rcases open_slice ht h with h0 | ⟨a, len, cap, m, n, D, Pl, hcs, hb, hl, hm, hmm, hx, hi⟩
  · exact .inl h0
  · refine .inr ⟨a, len, cap, m, D, Pl, hcs, hb, hl, hm, hmm, by rw [hC] at hx; exact hx, fun i him => ?_⟩
    obtain ⟨cs', hc, ht'⟩ := hi i him
    rw [hC] at hc
    obtain ⟨ys, n', hn', hy, hlen, hyl, hf⟩ := DataW.trod_struct he ht'
    obtain ⟨_, hcl, hat⟩ := World.cells?_some hc
    simp only [Prod.mk.injEq] at hy
    refine ⟨ys, n', hy.1, hy.2, hyl, fun j f hj => ?_⟩
    obtain ⟨ho, hk⟩ := hone_of hone j f hj
    have hjl : j < fs.size := (Array.getElem?_eq_some_iff.1 hj).1
    have hcell := hat j hjl
    have hv : cs'[j]? = some (cs'[j]'(by omega)) := List.getElem?_eq_getElem (by omega)
    have h1 := hf j f hj
    rw [ho, hk] at h1
    have hone' : (cs'.drop j).take 1 = [cs'[j]'(by omega)] := by
      rw [List.drop_eq_getElem_cons (by omega)]
      rfl
    rw [hone'] at h1
    have hys : ys[j]? = some (ys[j]'(by omega)) := List.getElem?_eq_getElem (by omega)
    refine ⟨_, _, ?_, hys, h1.trans hys⟩
    rw [← Go.Deep.add_add, hcell, hv]
end

set_option maxRecDepth 100000 in
/-- a slice of bytes among the data -/
theorem open_bytes_at {H : Type} {enc : TypeId × Value → H} {W : World} {n0 : Nat} {v : Value} {y : DataW H × List MemPlace} (h : DataW.trod enc Tryz.prog W 0 (fun _ => true) true n0 43 [v] = some y) : ∃ A n c bs, v = .slice A n c ∧ RdB W A n bs := by
  rcases open_ints Tryz.underlying43 Tryz.underlying5 (by kernel_rfl) h with ⟨hcs, _⟩ | ⟨x, l, c', zs, hcs, _, hl, hm, hz, hx, hcell, hwz⟩
  · simp only [List.cons.injEq, and_true] at hcs
    subst hcs
    exact ⟨none, 0, 0, [], rfl, RdB.nil _ _⟩
  · simp only [List.cons.injEq, and_true] at hcs
    subst hcs
    have hz' : zs.length = c' := by simpa using hz
    refine ⟨some x, l, c', (zs.take l).map (fun z => UInt8.ofNat z.toNat), rfl, by simp; omega, fun h0 => ?_⟩
    obtain ⟨b, off, rfl, hb, hadd⟩ := plain_addr (hcell 0 (by omega))
    refine ⟨b, off, rfl, hb, fun j hj => ?_⟩
    simp only [List.length_map, List.length_take] at hj
    have h2 := hcell j (by omega)
    rw [hadd] at h2
    have hjz : j < zs.length := by omega
    rw [h2, List.getElem_map, List.getElem_take, List.getD_eq_getElem?_getD, List.getElem?_eq_getElem hjz]
    have hw := hwz zs[j] (List.getElem_mem hjz)
    simp only [Lit.wf, Bool.and_eq_true, decide_eq_true_eq] at hw
    have hw' : (0 : Int) ≤ zs[j] ∧ zs[j] ≤ 255 := hw
    simp only [Option.getD_some, UInt8.toNat_ofNat']
    congr 2
    omega

set_option maxRecDepth 100000 in
/-- an argument that is a slice of operations -/
theorem open_ops_arg {H : Type} {enc : TypeId × Value → H} {W : World} {r : Reach} {b0 : Nat} {v : Value} {d : DataW H} {p : List MemPlace} (hv : Value.okWide Tryz.prog W r b0 44 v)
    (h : DataW.Trod enc Tryz.prog W 0 (fun _ => true) true 44 v d p) (hw : (d.weights Tryz.prog 44).all (· ≤ reachBytes) = true) : ∃ A n c, v = .slice A n c ∧ RdOps W A n ∧ n ≤ 2199023255552 := by
  obtain ⟨A, n, c, rfl⟩ := okWide_slice Tryz.underlying44 hv
  obtain ⟨fuel, hf⟩ := h
  refine ⟨A, n, c, rfl, ?_⟩
  rcases open_slice_fields Tryz.underlying44 Tryz.underlying57 (by kernel_rfl) (by kernel_rfl) hf with ⟨hcs, _⟩ | ⟨x, l, c', m, D, Pl, hcs, _, hl, hm, hmm, hx, hi⟩
  · simp [Value.cells] at hcs
    obtain ⟨rfl, rfl, rfl⟩ := hcs
    exact ⟨fun h => absurd h (Nat.lt_irrefl 0), by omega⟩
  · simp [Value.cells] at hcs
    obtain ⟨rfl, rfl, rfl⟩ := hcs
    have hmc : m = c := by simpa using hmm
    subst hmc
    have hsz : m * 64 ≤ 140737488351232 := by
      have hd : d = .slice ((List.range n).map D) ((List.range (m - n)).map fun j => D (n + j)) := congrArg Prod.fst hx
      have hw2 : (DataW.weightsEach Tryz.prog [44] [d]).all (· ≤ reachBytes) = true := by
        simpa [DataW.weightsEach] using hw
      have := sized_slice hw2 (j := 0) (t := 44) (e := 57) rfl (by rw [hd]; rfl) Tryz.underlying44
      rw [show Tryz.prog.bytesOf 57 = 64 by kernel_rfl] at this
      simp only [List.length_map, List.length_range] at this
      unfold reachBytes at this
      omega
    refine ⟨fun h0 => ?_, by omega⟩
    have hone : ∀ i, i < n → ∃ (kd N : Int) (IA : Option Addr) (il ic : Nat) (FA : Option Addr) (fl fc : Nat) (bs : List UInt8),
        W.cell? (x.add (i * 4 + 0)) = some (.int .i64 kd) ∧ W.cell? (x.add (i * 4 + 1)) = some (.int .i64 N) ∧ W.cell? (x.add (i * 4 + 2)) = some (.slice IA il ic) ∧ W.cell? (x.add (i * 4 + 3)) = some (.slice FA fl fc) ∧ wf64 kd ∧ wf64 N ∧ RdB W IA il bs := by
      intro i hil
      obtain ⟨ys, n', _, _, _, hf⟩ := hi i (by omega)
      obtain ⟨u0, z0, c0, _, q0⟩ := hf 0 _ rfl
      obtain ⟨u1, z1, c1, _, q1⟩ := hf 1 _ rfl
      obtain ⟨u2, z2, c2, _, q2⟩ := hf 2 _ rfl
      obtain ⟨u3, z3, c3, _, q3⟩ := hf 3 _ rfl
      obtain ⟨n0, e0, _, w0⟩ := DataW.trod_int Tryz.underlying3 q0
      obtain ⟨n1, e1, _, w1⟩ := DataW.trod_int Tryz.underlying3 q1
      simp only [List.cons.injEq, and_true] at e0 e1
      subst e0 e1
      obtain ⟨IA, il, ic, bs, rfl, hR⟩ := open_bytes_at q2
      obtain ⟨FA, fl, fc, rfl⟩ : ∃ FA fl fc, u3 = .slice FA fl fc := by
        rcases open_slice Tryz.underlying52 q3 with ⟨hcs, _⟩ | ⟨a, len, cap, _, _, _, _, hcs, _⟩
        · simp only [List.cons.injEq, and_true] at hcs
          exact ⟨_, _, _, hcs⟩
        · simp only [List.cons.injEq, and_true] at hcs
          exact ⟨_, _, _, hcs⟩
      exact ⟨n0, n1, IA, il, ic, FA, fl, fc, bs, c0, c1, c2, c3, wf64_of w0, wf64_of w1, hR⟩
    obtain ⟨_, _, _, _, _, _, _, _, _, c0, _⟩ := hone 0 h0
    obtain ⟨b, off, rfl, hb, hadd⟩ := plain_addr c0
    refine ⟨b, off, rfl, hb, fun i hi' => ?_⟩
    have := hone i hi'
    simp only [hadd] at this
    exact this
end Go.Proofs.YthfidlhefkjpdaaGreatDoor

namespace Go.Proofs.YthfidlhefkjpdaaGreatDoor
open Go.ChangeShapes Go.WideShapes Go.ChangeAt Go.RowKit Go.Deep Go.Joins

theorem own_cacheFlush : ownKnob Tryz.prog.godebug = none := by kernel_rfl
theorem laidOut_cacheFlush : laidOutB Tryz.prog = true := by kernel_rfl

set_option maxRecDepth 100000 in
theorem cacheFlush_lifted (os : Os) (started : os.Started) (H : Type) (enc : TypeId × Value → H) :
    ReturnsInHanded {} Tryz.checked os 6 .any (fun w args => (Rows.cacheFlushSpec.pre enc Tryz.prog Tryz.f6 Rows.cacheFlushRow.domain false w args ∧ laidMetH Tryz.prog Rows.cacheFlushRow.laid w) ∧ sizedMet enc Tryz.prog Tryz.f6 (OpenSpec.ofChange Rows.cacheFlushSpec) false w args)
      (Rows.cacheFlushSpec.post enc Tryz.prog Tryz.f6 false true false false) := by
  refine returnsInHanded_of_change_and (C := Tryz.checked) (X := fun w _ => laidMetH Tryz.prog Rows.cacheFlushRow.laid w) (fun _ _ _ hh h => h.of_heap hh) own_cacheFlush started (by kernel_rfl) Tryz.func6
    (ChangeSpec.witness_shaped (enc := enc) (C := Tryz.checked) (os := os) (X := fun w _ => laidMetH Tryz.prog Rows.cacheFlushRow.laid w) false (World.laidAll Tryz.prog os Rows.cacheFlushRow.laid) #[.int .i64 0, .int .i64 0, .slice none 0 0, .slice none 0 0] 8 (World.laidAll_os _ _ _)
      (World.shaped_of_ZipB (by kernel_rfl) (by kernel_rfl)) (by kernel_rfl) (by kernel_rfl) (by kernel_rfl)
      (by rw [MakeChecks.laidMetH_plain _ _ _ (by kernel_rfl)]; exact laidMet_laidAll _ (by kernel_rfl) (by kernel_rfl))) ?_
  intro W base args ds gs before hval0 hW hcnd hsz0 hL _
  have hsz : (DataW.weightsEach Tryz.prog (Tryz.f6.params.toList ++ Rows.cacheFlushSpec.plain.varTypes Tryz.prog) (ds ++ gs)).all (· ≤ reachBytes) = true := hsz0
  have hval : ∀ (j : Nat) t v, Tryz.f6.params[j]? = some t → args[j]? = some v → Value.okWide Tryz.prog W .any base t v := hval0
  have hW' := hW
  obtain ⟨p, q, hA0, hV, rfl, hfz, hnd⟩ := hW
  have hA : DataW.TrodAll enc Tryz.prog W 0 (fun _ => true) true Tryz.f6.params.toList args.toList ds p := hA0
  rw [Tryz.params6] at hA hval hsz
  obtain ⟨v0, vs0, d0, ds0, p0, q0, hargs, rfl, rfl, h0, r0⟩ := trodAll_cons hA
  obtain ⟨v1, vs1, d1, ds1, p1, q1, rfl, rfl, rfl, h1, r1⟩ := trodAll_cons r0
  obtain ⟨v2, vs2, d2, ds2, p2, q2, rfl, rfl, rfl, h2, r2⟩ := trodAll_cons r1
  obtain ⟨v3, vs3, d3, ds3, p3, q3, rfl, rfl, rfl, h3, r3⟩ := trodAll_cons r2
  obtain ⟨rfl, rfl, rfl⟩ := trodAll_nil r3
  obtain rfl : args = #[v0, v1, v2, v3] := by cases args; simp_all
  obtain ⟨rfl, rfl⟩ := trodVars_none hV
  have lt2 : ∀ x ∈ p2, x.block < W.heap.size := by obtain ⟨m, hm⟩ := h2; exact DataW.trod_lt m _ _ _ hm
  have lt3 : ∀ x ∈ p3, x.block < W.heap.size := by obtain ⟨m, hm⟩ := h3; exact DataW.trod_lt m _ _ _ hm
  have k2 := h2
  have k3 := h3
  have hw2 : (d2.weights Tryz.prog 44).all (· ≤ reachBytes) = true := by
    rw [List.all_eq_true] at hsz ⊢
    intro x hx
    exact hsz x (DataW.weights_mem_each (j := 2) rfl rfl x hx)
  have hw3 : (d3.weights Tryz.prog 22).all (· ≤ reachBytes) = true := by
    rw [List.all_eq_true] at hsz ⊢
    intro x hx
    exact hsz x (DataW.weights_mem_each (j := 3) rfl rfl x hx)
  obtain ⟨a0, rfl, rfl, rfl, w0⟩ := open_int Tryz.underlying3 (hval 0 3 v0 rfl rfl) h0
  obtain ⟨a1, rfl, rfl, rfl, w1⟩ := open_int Tryz.underlying3 (hval 1 3 v1 rfl rfl) h1
  obtain ⟨A, n, c, rfl, hR, hn⟩ := open_ops_arg (hval 2 44 v2 rfl rfl) h2 hw2
  obtain ⟨B, kn, kc, zs, rfl, hRz, hkn⟩ := open_ints_arg (hval 3 22 v3 rfl rfl) h3 hw3
  clear hA0 hval0 hsz0 hsz hL
  refine (cacheFlush_any a0 a1 (wf64_of w0) A n c B kn kc zs W hR hn hRz hkn).mono fun e W' ⟨he, bel⟩ => ?_
  subst he
  exact ⟨_, rfl, _, _, _, [], _, [], hW', trodAll_mk1 (shut_bool Tryz.underlying4 _), (trodAll_cons_mk (shut_int Tryz.underlying3 w0) (trodAll_cons_mk (shut_int Tryz.underlying3 w1) (trodAll_cons_mk (Below.trod laidOut_cacheFlush (by kernel_rfl) (of_decide_eq_true (by kernel_rfl)) k2 bel lt2) (trodAll_cons_mk (Below.trod laidOut_cacheFlush (by kernel_rfl) (of_decide_eq_true (by kernel_rfl)) k3 bel lt3) trodAll_mk0)))), rfl, bel.frame _, fun h => by cases h⟩

theorem cacheFlush_holds : Rows.CacheFlushSaid :=
  OpenClaim.holds_of_wide 6 Tryz.f6 rfl rfl rfl rfl rfl rfl rfl ⟨rfl, rfl, rfl, rfl, rfl⟩ rfl rfl rfl rfl rfl (by kernel_rfl) Tryz.func6 (by kernel_rfl)
    (of_decide_eq_true (by kernel_rfl)) (by unfold Func.isWrapper; first | (rw [if_pos (by decide +kernel)]; kernel_rfl) | (rw [if_neg (by decide +kernel)]; exact ⟨rfl, rfl⟩))
    (fun os started H enc _ => cacheFlush_lifted os started H enc)

theorem cacheFlush_card_holds : Rows.CacheFlushCardSaid :=
  Claim7.holds_tied_plain_at .later [] [.data, .pinned] true (true, "2810cbce2d18f1677c9ecd3f73b1fbdbeb35012674256c037e22ef2a8513aadf") false
    cacheFlush_holds (fun _ h => by cases h) (by kernel_rfl) (fun _ h => by cases h) cacheFlush_row_tie rfl ⟨rfl, rfl⟩ (by kernel_rfl) rfl
    (fun f fn hf hfn => by
      obtain rfl : f = 6 := Option.some.inj ((show Tryz.prog.funcNamed "skein/skeinlaw10.CacheFlush" = some 6 by kernel_rfl).symm.trans hf) |>.symm
      obtain rfl : fn = Tryz.f6 := (Option.some.inj (Tryz.func6.symm.trans hfn)).symm
      exact ⟨by kernel_rfl, fun j t ht => by
        rw [Tryz.params6] at ht
        have hm : t ∈ [3, 3, 44, 22] := by simpa using Array.mem_of_getElem? ht
        have hall : ([3, 3, 44, 22].all fun u => !Tryz.prog.wantsStandIn u) = true := by kernel_rfl
        exact (show Tryz.prog.wantsStandIn t = false by simpa using List.all_eq_true.1 hall t hm)⟩)
    (by kernel_rfl)
#print axioms cacheFlush_card_holds
end Go.Proofs.YthfidlhefkjpdaaGreatDoor
