/- What stands between two rounds of CacheFlush.
   CacheDies: what stands between two rounds; asks, any operation.
   A dead pool: all calls are refused, nothing is turned.
   disk.All: its slice lies in a new block.
   CacheDies: what stands between two rounds, and behind a call of asks.
   Arguments opened: ints; what the rows of the group lean on.
   An argument that is a slice of operations, opened.
   An argument that is a slice of operations: how long the items are. -/
import Derived.Test.YthfidlhefkjpdaaGreatDoorTbo
import Derived.Test.YthfidlhefkjpdaaGreatDoorTbx
import Derived.Test.YthfidlhefkjpdaaGreatDoorTbv
import Derived.Test.YthfidlhefkjpdaaGreatDoorTbw
import Derived.Test.YthfidlhefkjpdaaGreatDoorTbb
import Derived.Test.YthfidlhefkjpdaaGreatDoorTbn
import Derived.ProofKit
import Derived.OpenShut
import Derived.ChangeOld
import Derived.SizedLaws
import Derived.Deep.Slices
import Derived.Deep.Fields
import Derived.ChangeSame
import Derived.Lib.SmallJoins
import Derived.LaidMore
import Derived.Lay
import Derived.SevenTiedAt
import Derived.Stop.Joined
namespace Go.Proofs.YthfidlhefkjpdaaGreatDoor
open Go.RowKit Go.Maps

/-- The slices that CacheFlush wants read as the pages; they lie apart from the pool. -/
def Want (wr : World) (a : Ad) (P : Pl) (D : Dk) (gW count : Nat) : Prop :=
  ¬ aT a gW ∧ ∃ arr : Array Value, wr.heap[gW]? = some (.cells arr 43 (0, 0)) ∧ count ≤ arr.size ∧ ∀ i, i < count → ∃ b o c, arr[i]? = some (.slice (some ⟨b, o, none⟩) 512 c) ∧ RdB wr (some ⟨b, o, none⟩) 512 (lc P D i) ∧ ¬ aT a b ∧ b ≠ gW ∧ b < wr.heap.size

theorem Want.lt {wr : World} {a : Ad} {P : Pl} {D : Dk} {gW count : Nat} (h : Want wr a P D gW count) : gW < wr.heap.size := by
  obtain ⟨_, arr, h1, _⟩ := h
  exact (Array.getElem?_eq_some_iff.1 h1).1

/-- A call on the pool leaves them. -/
theorem Want.step {wr w' : World} {a a' : Ad} {P P' : Pl} {D D' : Dk} {gW count k : Nat} (h : Want wr a P D gW count) (hF : Fr (aT a) wr w') (hA : AdN wr a a' k) (hlc : ∀ M, M < count → lc P' D' M = lc P D M) : Want w' a' P' D' gW count := by
  have hgl := h.lt
  obtain ⟨h0, arr, h1, h2, h3⟩ := h
  refine ⟨fun hh => h0 (hA.foot gW hgl hh), arr, (hF.block gW hgl h0).trans h1, h2, fun i hi => ?_⟩
  obtain ⟨b, o, c, q1, q2, q3, q4, q5⟩ := h3 i hi
  refine ⟨b, o, c, q1, ?_, fun hh => q3 (hA.foot b q5 hh), q4, Nat.lt_of_lt_of_le q5 hF.size⟩
  rw [hlc i hi]
  exact q2.fr hF (fun b' o' _ e => by injection e with e; injection e with e; subst e; exact q3)

/-- One is laid anew. -/
theorem Want.put {wr : World} {a : Ad} {P P' : Pl} {D D' : Dk} {gW count N g' c' : Nat} {bs : List UInt8} (h : Want wr a P D gW count) (hN : N < count) (hR : RdB wr (some ⟨g', 0, none⟩) 512 bs) (hg : ¬ aT a g') (hne : g' ≠ gW) (hlt : g' < wr.heap.size)
    (hlc : ∀ M, M < count → lc P' D' M = if M = N then bs else lc P D M) : Want (wr.setCell ⟨gW, N, none⟩ (.slice (some ⟨g', 0, none⟩) 512 c')) a P' D' gW count := by
  have hgl := h.lt
  obtain ⟨h0, arr, h1, h2, h3⟩ := h
  have hFr : Fr (· = gW) wr (wr.setCell ⟨gW, N, none⟩ (.slice (some ⟨g', 0, none⟩) 512 c')) := fr_at (Fr.refl _ _) _ _
  have hB : Blk wr gW 43 arr := h1
  refine ⟨h0, _, hB.set_ N _, by simpa using h2, fun i hi => ?_⟩
  rw [Array.getElem?_setIfInBounds, hlc i hi]
  by_cases hiN : i = N
  · subst hiN
    rw [if_pos rfl, if_pos (by omega), if_pos rfl]
    exact ⟨g', 0, c', rfl, hR.fr hFr (fun b' o' _ e => by injection e with e; injection e with e; subst e; exact hne), hg, hne, Nat.lt_of_lt_of_le hlt hFr.size⟩
  · rw [if_neg (fun e => hiN e.symm), if_neg hiN]
    obtain ⟨b, o, c, q1, q2, q3, q4, q5⟩ := h3 i hi
    exact ⟨b, o, c, q1, q2.fr hFr (fun b' o' _ e => by injection e with e; injection e with e; subst e; exact q4), q3, q4, Nat.lt_of_lt_of_le q5 hFr.size⟩

structure WSt (w wr : World) (a : Ad) (P : Pl) (L : Lg) (D : Dk) (gW count gl gd gp k : Nat) : Prop where
  st : PSt wr a P L D
  inv : Inv P L D
  pins : PinsOk P k
  cnt : P.count = count
  base : P.base = 4
  old : L.old = false
  lcnt : L.count = 4
  run : L.run = 2
  nrec : 2 * L.nrec ≤ L.stream.length
  steps : D.steps ≤ 4 + 300000 * k
  gl : a.gl = gl
  gd : a.gd = gd
  gp : a.gp = gp
  ma : a.ma ≤ 4096
  mn : a.mn ≤ 4096
  below : Below w.heap.size w wr
  far : ∀ b, aT a b → w.heap.size ≤ b
  want : Want wr a P D gW count
  gw : w.heap.size ≤ gW

theorem AdN.far {w wr : World} {a a' : Ad} {k : Nat} (hA : AdN wr a a' k) (hz : w.heap.size ≤ wr.heap.size) (h : ∀ b, aT a b → w.heap.size ≤ b) : ∀ b, aT a' b → w.heap.size ≤ b := fun b hb => by
  by_cases hl : b < wr.heap.size
  · exact h b (hA.foot b hl hb)
  · omega

/-- A round with calls on the pool that leave the pages as they are. -/
theorem WSt.next {w wr w' : World} {a a' : Ad} {P P' : Pl} {L L' : Lg} {D D' : Dk} {gW count gl gd gp k k' j : Nat} (h : WSt w wr a P L D gW count gl gd gp k) (hP : PSt w' a' P' L' D') (hI : Inv P' L' D') (hp : PinsOk P' k') (hc : P'.count = P.count) (hb : P'.base = P.base)
    (ho : L'.old = L.old) (hlc' : L'.count = L.count) (hrun : L'.run = L.run) (hnr : 2 * L'.nrec ≤ L'.stream.length) (hs : D'.steps ≤ 4 + 300000 * k') (hF : Fr (aT a) wr w') (hA : AdN wr a a' j) (hlc : ∀ M, M < P.count → lc P' D' M = lc P D M) :
    WSt w w' { a' with ma := P'.count, mn := P'.count } P' L' D' gW count gl gd gp k' := by
  have hcc := hI.wf.count
  have hA' : AdN wr a' { a' with ma := P'.count, mn := P'.count } (P'.count + P'.count) := ⟨rfl, rfl, rfl, rfl, rfl, rfl, rfl, rfl, rfl, Nx.refl _ _, Nx.refl _ _, Nx.refl _ _, fun _ h => .inl h, by show P'.count ≤ _; omega, by show P'.count ≤ _; omega, rfl⟩
  have hA2 : AdN wr a { a' with ma := P'.count, mn := P'.count } (j + (P'.count + P'.count)) := hA.trans hA' (Nat.le_refl _)
  exact ⟨hP.tight hI.wf hp, hI, hp, hc.trans h.cnt, hb.trans h.base, ho.trans h.old, hlc'.trans h.lcnt, hrun.trans h.run, hnr, hs, hA.gl.trans h.gl, hA.gd.trans h.gd, hA.gp.trans h.gp, hcc, hcc, h.below.trans (hF.below h.below.size h.far), hA2.far h.below.size h.far,
    h.want.step hF hA2 (fun M hM => hlc M (by rw [h.cnt]; exact hM)), h.gw⟩

theorem WSt.kp {w wr w' : World} {a a' : Ad} {P P' : Pl} {L L' : Lg} {D D' : Dk} {gW count gl gd gp k j : Nat} (h : WSt w wr a P L D gW count gl gd gp k) (hP : PSt w' a' P' L' D') (hK : Kp P P' L L' D D') (hp : PinsOk P' (k + 1)) (hF : Fr (aT a) wr w') (hA : AdN wr a a' j) :
    WSt w w' { a' with ma := P'.count, mn := P'.count } P' L' D' gW count gl gd gp (k + 1) :=
  h.next hP hK.inv hp hK.count hK.base hK.old hK.cnt hK.run (by rw [hK.nrec, hK.stream]; exact h.nrec) (by have := hK.steps; have := h.steps; omega) hF hA hK.lc

theorem WSt.below' {w wr w' : World} {a : Ad} {P : Pl} {L : Lg} {D : Dk} {gW count gl gd gp k : Nat} (h : WSt w wr a P L D gW count gl gd gp k) (hb : Below wr.heap.size wr w') : WSt w w' a P L D gW count gl gd gp k :=
  ⟨h.st.below hb, h.inv, h.pins, h.cnt, h.base, h.old, h.lcnt, h.run, h.nrec, h.steps, h.gl, h.gd, h.gp, h.ma, h.mn, h.below.trans (hb.mono h.below.size), h.far, h.want.step (Fr.of_below hb _) (AdN.refl _ _ 0) (fun _ _ => rfl), h.gw⟩

theorem WSt.more {w wr : World} {a : Ad} {P : Pl} {L : Lg} {D : Dk} {gW count gl gd gp k : Nat} (h : WSt w wr a P L D gW count gl gd gp k) : WSt w wr a P L D gW count gl gd gp (k + 1) :=
  ⟨h.st, h.inv, fun j hj => by have := h.pins j hj; omega, h.cnt, h.base, h.old, h.lcnt, h.run, h.nrec, by have := h.steps; omega, h.gl, h.gd, h.gp, h.ma, h.mn, h.below, h.far, h.want, h.gw⟩

/-- A round that lays a page. -/
theorem WSt.laid {w w5 w9 : World} {a5 a7 : Ad} {P P7 : Pl} {L5 L7 : Lg} {D D7 : Dk} {gW cn gl gd gp j Nn g9 c' : Nat} {q : Pg} (h5 : WSt w w5 a5 P L5 D gW cn gl gd gp j) (hF : Fr (aT a5) w5 w9) (hA : AdN w5 a5 a7 1) (hP9 : PSt w9 a7 P7 L7 D7) (hR : PutR P P7 L5 L7 D D7 Nn q)
    (hN : Nn < cn) (hRd : RdB w9 (some ⟨g9, 0, none⟩) 512 (bytesP q)) (hg : ¬ aT a7 g9) (hg2 : w5.heap.size ≤ g9) (hg3 : g9 < w9.heap.size) :
    WSt w (w9.setCell ⟨gW, Nn, none⟩ (.slice (some ⟨g9, 0, none⟩) 512 c')) { a7 with ma := P7.count, mn := P7.count } P7 L7 D7 gW cn gl gd gp (j + 1) := by
  have hcc := hR.inv.wf.count
  have hst := hR.stay
  have hw9 : Want w9 a7 P D gW cn := h5.want.step hF hA (fun _ _ => rfl)
  have hgl := h5.want.lt
  have hput := hw9.put (P' := P7) (D' := D7) (c' := c') hN hRd hg (by omega) hg3 (fun M hM => hR.lc M (by rw [h5.cnt]; exact hM))
  obtain ⟨hnW, arr, hblk, _⟩ := hw9
  have hty : Ty w9 gW 43 := ⟨_, _, hblk⟩
  have hFr : Fr (· = gW) w9 (w9.setCell ⟨gW, Nn, none⟩ (.slice (some ⟨g9, 0, none⟩) 512 c')) := fr_at (Fr.refl _ _) _ _
  have hP10 := hP9.apart_fr hFr (fun b hb e => by have e' : b = gW := e; subst e'; exact hnW hb) (fun b hb e => by have e' : b = gW := e; subst e'; exact hb.ne hty (by decide)) (fun b hb e => by have e' : b = gW := e; subst e'; exact hb.ne hty (by decide))
  have hpk : PinsOk P7 (j + 1) := fun k hk => by
    rw [hR.pins] at hk ⊢
    rw [hst.count]
    have := h5.pins k hk
    omega
  have hA' : AdN w5 a7 { a7 with ma := P7.count, mn := P7.count } (P7.count + P7.count) := ⟨rfl, rfl, rfl, rfl, rfl, rfl, rfl, rfl, rfl, Nx.refl _ _, Nx.refl _ _, Nx.refl _ _, fun _ h => .inl h, by show P7.count ≤ _; omega, by show P7.count ≤ _; omega, rfl⟩
  have hz := hF.size
  refine ⟨hP10.tight hR.inv.wf hpk, hR.inv, hpk, hst.count.trans h5.cnt, hst.base.trans h5.base, hst.old.trans h5.old, hst.cnt.trans h5.lcnt, hst.run.trans h5.run, by rw [hst.nrec, hst.stream]; exact h5.nrec, ?_, hA.gl.trans h5.gl, hA.gd.trans h5.gd, hA.gp.trans h5.gp, hcc, hcc,
    (h5.below.trans (hF.below h5.below.size h5.far)).trans (hFr.below (by have := h5.below.size; omega) (fun b e => by have e' : b = gW := e; rw [e']; exact h5.gw)), (hA.trans hA' (Nat.le_refl _)).far h5.below.size h5.far, ?_, h5.gw⟩
  · have h1 := hst.steps
    have h2 := h5.steps
    have h3 := h5.lcnt
    omega
  · obtain ⟨x1, arr2, x2, x3, x4⟩ := hput
    exact ⟨x1, arr2, x2, x3, x4⟩

/-- The slice reads as operations. -/
def RdOps (w : World) (A : Option Addr) (n : Nat) : Prop :=
  0 < n → ∃ b o, A = some ⟨b, o, none⟩ ∧ b < w.heap.size ∧ ∀ i, i < n → ∃ (kd N : Int) (IA : Option Addr) (il ic : Nat) (FA : Option Addr) (fl fc : Nat) (bs : List UInt8),
    w.cell? ⟨b, o + i * 4, none⟩ = some (.int .i64 kd) ∧ w.cell? ⟨b, o + i * 4 + 1, none⟩ = some (.int .i64 N) ∧ w.cell? ⟨b, o + i * 4 + 2, none⟩ = some (.slice IA il ic) ∧ w.cell? ⟨b, o + i * 4 + 3, none⟩ = some (.slice FA fl fc) ∧ wf64 kd ∧ wf64 N ∧ RdB w IA il bs
end Go.Proofs.YthfidlhefkjpdaaGreatDoor

namespace Go.Proofs.YthfidlhefkjpdaaGreatDoor
open Go.RowKit Go.Maps

/-- No step was refused yet. -/
structure LivC (count : Nat) (nn : Int) (was : Nat → List UInt8) (m : Nat) (P : Pl) (L : Lg) (E : Dk) : Prop where
  inv : Inv P L E
  pins : PinsOk P m
  wal : Wal P L E was
  lt : E.steps < nn
  cnt : P.count = count
  base : P.base = 4
  old : L.old = false
  lcnt : L.count = 4
  run : L.run = 2
  nrec : 5 * L.nrec ≤ L.stream.length
  sec : E.sec.length = 4 + count

/-- One was refused. -/
structure GonC (count : Nat) (nn : Int) (was : Nat → List UInt8) (P : Pl) (L : Lg) (D : Dk) : Prop where
  dead : P.dead = true
  wf : D.wf
  sec : D.sec.length = 4 + count
  steps : D.steps = nn
  lw : L.wf
  pg : ∀ N, N < count → ∃ p : Pg, p.wf ∧ pageOf (D.has (4 + N)) = some p
  wal : ∀ N, N < count → D.has (4 + N) = was N ∨ ∃ p : Pg, p.wf ∧ pageOf (D.has (4 + N)) = some p ∧ p.lsn < L.lsn L.safe

def RR (pl : List (Int × Int)) (count : Nat) (nn : Int) (was : Nat → List UInt8) (m : Nat) (P : Pl) (L : Lg) (D : Dk) : Prop :=
  (∃ E, D = E.under pl ∧ LivC count nn was m P L E) ∨ GonC count nn was P L D

theorem LivC.more {count : Nat} {nn : Int} {was : Nat → List UInt8} {m : Nat} {P : Pl} {L : Lg} {E : Dk} (h : LivC count nn was m P L E) : LivC count nn was (m + 1) P L E :=
  ⟨h.inv, fun k hk => by have := h.pins k hk; omega, h.wal, h.lt, h.cnt, h.base, h.old, h.lcnt, h.run, h.nrec, h.sec⟩

theorem calm_lt {nn kd s t : Int} (hk : 1 ≤ kd ∧ kd ≤ 3) (h : Calm [(nn, kd)] s t) (hs : s < nn) : t < nn := by
  by_cases h1 : t < nn
  · exact h1
  · have := h nn hs (by omega)
    rw [kindOf_one, if_pos ⟨rfl, hk⟩] at this
    omega
theorem hit_eq {nn kd t : Int} (h : kindOf [(nn, kd)] t ≠ 0) : t = nn := by
  rw [kindOf_one] at h
  by_cases hc : nn = t ∧ 1 ≤ kd ∧ kd ≤ 3
  · exact hc.1.symm
  · rw [if_neg hc] at h
    exact absurd rfl h

theorem kw_liv {count : Nat} {nn kd : Int} {was : Nat → List UInt8} {m m' : Nat} {P P' : Pl} {L L' : Lg} {E E' : Dk} (hk : 1 ≤ kd ∧ kd ≤ 3) (h : LivC count nn was m P L E) (hK : Kw [(nn, kd)] P P' L L' E E') (hp : PinsOk P' m') : LivC count nn was m' P' L' E' :=
  ⟨hK.inv, hp, hK.wal was h.wal, calm_lt hk hK.calm h.lt, hK.count.trans h.cnt, hK.base.trans h.base, hK.old.trans h.old, hK.cnt.trans h.lcnt, hK.run.trans h.run, by rw [hK.nrec, hK.stream]; exact h.nrec, hK.sec.trans h.sec⟩
theorem gone_gon {count : Nat} {nn kd : Int} {was : Nat → List UInt8} {m : Nat} {P P' : Pl} {L L' : Lg} {E D' : Dk} (h : LivC count nn was m P L E) (hG : Gone [(nn, kd)] P L E P' L' D') : GonC count nn was P' L' D' :=
  ⟨hG.dead, hG.wf, hG.len.trans h.sec, hit_eq hG.hit, hG.lw, fun N hN => by have := hG.pg N (by rw [h.cnt]; exact hN); rwa [h.base] at this, fun N hN => by have := hG.wal was h.wal N (by rw [h.cnt]; exact hN); rwa [h.base] at this⟩
theorem out_rr {count : Nat} {nn kd : Int} {was : Nat → List UInt8} {m m' : Nat} {P P' : Pl} {L L' : Lg} {E D' : Dk} (hk : 1 ≤ kd ∧ kd ≤ 3) (h : LivC count nn was m P L E) (hO : Out [(nn, kd)] P L E m' P' L' D') : RR [(nn, kd)] count nn was m' P' L' D' := by
  rcases hO with ⟨E', e, hK, hp⟩ | hG
  · exact .inl ⟨E', e, kw_liv hk h hK hp⟩
  · exact .inr (gone_gon h hG)

theorem cflush_split (a : Ad) (P : Pl) (L : Lg) (D : Dk) (pl : List (Int × Int)) (m : Nat) (w : World) (h : PSt w a P L (D.under pl)) (hpl : pl.length ≤ 70368744175616) (hi : Inv P L D) (hp : PinsOk P m) (hma : a.ma ≤ 1099511627776) (hst : D.steps + 600000 ≤ 1152921504606846976) :
    (∀ W0, Below w.heap.size w W0 → ∀ W, Below W0.heap.size W0 W → Calls Tryz.prog 15 #[.pointer (some ⟨a.gp, 0, none⟩)] W fun e w' => e = .returned (.int .i64 0) ∧ Fr (aT a) W0 w' ∧ ∃ P' L' E, PSt w' a P' L' (E.under pl) ∧ Kw pl P P' L L' D E ∧ PinsOk P' m ∧ (∀ f ∈ P'.frames, f.dirty = false)) ∨
    (∀ W0, Below w.heap.size w W0 → ∀ W, Below W0.heap.size W0 W → Calls Tryz.prog 15 #[.pointer (some ⟨a.gp, 0, none⟩)] W fun e w' => ∃ er : Int, 0 < er ∧ e = .returned (.int .i64 er) ∧ Fr (aT a) W0 w' ∧ ∃ P' L' D', PSt w' a P' L' D' ∧ Gone pl P L D P' L' D') := by
  obtain ⟨ks, hks, -, -⟩ := h.pool.atm.keys Tryz.underlying3
  replace hks := keys_atm hks
  have hf := flush_law hi hks hst
  by_cases hc : Calm pl D.steps (flushR P L D ks).2.2.steps
  · refine .inl fun W0 h0 W hW => (cflush_two a P L D pl ks W ((h.below h0).below hW) hpl hi hks hma hst).mono ?_
    rintro e w' ⟨hF, ⟨rfl, h1, h2⟩ | ⟨er, P', L', D', rfl, her, h1, h2, h3, h4⟩⟩
    · exact ⟨rfl, (Fr.of_below hW _).trans hF (fun _ _ h => h), _, _, _, h1, ⟨hf.inv, hf.base, hf.count, hf.log.2.1, hf.log.2.2.1, hf.log.2.2.2.2.1, hf.log.2.2.2.2.2.1, hf.log.2.2.2.2.2.2.1, hf.steps, hf.sec, h2, hf.wal⟩, hp.same hf.pins hf.count, hf.clean⟩
    · exact absurd hc h3
  · refine .inr fun W0 h0 W hW => (cflush_two a P L D pl ks W ((h.below h0).below hW) hpl hi hks hma hst).mono ?_
    rintro e w' ⟨hF, ⟨rfl, h1, h2⟩ | ⟨er, P', L', D', rfl, her, h1, h2, h3, h4⟩⟩
    · exact absurd h2 hc
    · exact ⟨er, h4, rfl, (Fr.of_below hW _).trans hF (fun _ _ h => h), P', L', D', h1, h2⟩

/-- asks, any operation but those that the law leaves out. -/
theorem asks_dies (count : Nat) (nn kd : Int) (was : Nat → List UInt8) (m : Nat) (a : Ad) (P : Pl) (L : Lg) (E : Dk) (kk n : Int) (IA : Option Addr) (il ic : Nat) (FA : Option Addr) (fl fc : Nat) (bs : List UInt8) (w : World) (hkd : 1 ≤ kd ∧ kd ≤ 3) (hnn : nn ≤ 2000)
    (h : PSt w a P L (E.under [(nn, kd)])) (hL : LivC count nn was m P L E) (hm : m ≤ 4398046511104) (hma : a.ma ≤ 4096) (hmn : a.mn ≤ 4096) (hov : a.ov.ownBlock = none) (hn : wf64 n) (hk6 : kk ≠ 6) (hbs : RdB w IA il bs) (hil : il ≤ 140737488351232)
    (hsep : ∀ b o, 0 < il → IA = some ⟨b, o, none⟩ → ¬ aT a b) :
    Calls Tryz.prog 20 #[.pointer (some ⟨a.gl, 0, none⟩), .pointer (some ⟨a.gp, 0, none⟩), .agg #[.slice none 0 0, .slice none 0 0, .int .i64 0], .agg #[.int .i64 kk, .int .i64 n, .slice IA il ic, .slice FA fl fc]] w fun e w' => (∃ v, e = .returned v) ∧
      ∃ a' P' L' D', PSt w' a' P' L' D' ∧ RR [(nn, kd)] count nn was (m + 1) P' L' D' ∧ Fr (aT a) w w' ∧ AdN w a a' 2 := by
  have hlt := hL.lt
  have hlen : [(nn, kd)].length ≤ 70368744175616 := by simp
  have hR0 : RR [(nn, kd)] count nn was (m + 1) P L (E.under [(nn, kd)]) := .inl ⟨E, rfl, hL.more⟩
  by_cases h1 : kk = 1
  · subst h1
    refine asks_get a P L _ n IA il ic FA fl fc w _ h fun W hW => (cget_out a P L E [(nn, kd)] n (m + 1) W (h.below hW) hlen hL.inv hL.more.pins (by omega) (by omega)).mono ?_
    rintro e w' ⟨k1, k2, a', P', L', D', k3, k4, k5⟩
    exact ⟨k1, k2, a', P', L', D', k3.mono (by omega), k4, out_rr hkd hL k5⟩
  by_cases h2 : kk = 2
  · subst h2
    have hl1 := hL.inv.ok.lw.len
    have hl2 := hL.lcnt
    have hl3 := hL.run
    have hl4 := hL.nrec
    refine asks_put a P L _ n IA il ic FA fl fc w _ h hsep hov hL.inv.ok.lw hL.old hL.inv.ok.ld (by omega) bs hbs hil (by unfold Lg.lsn; omega) (fun _ => hR0) fun hfit W a1 base g hP1 hgp hm1 hm2 hG hfar => ?_
    have hrl : (recL 1 3 [112, 117, 116]).length = 5 := rfl
    have hL1 : LivC count nn was m P { L with stream := L.stream ++ recL 1 3 [112, 117, 116], nrec := L.nrec + 1 } E :=
      ⟨hL.inv.appended _ _ (by rw [hrl]; omega), hL.pins, hL.wal.appended _ _, hL.lt, hL.cnt, hL.base, hL.old, hL.lcnt, hL.run, by show 5 * (L.nrec + 1) ≤ (L.stream ++ _).length; rw [List.length_append, hrl]; omega, hL.sec⟩
    have hput := cput_out a1 P _ E [(nn, kd)] n (m + 1) base g (L.run * 16777216 + L.stream.length) (oneP bs) W hP1 hlen hL1.inv hL1.more.pins (by omega) (by omega) hG (oneP_wf _) hfar (by omega) (by
      show ((L.run * 16777216 + L.stream.length : Nat) : Int) < ((L.run * 16777216 + (L.stream ++ recL 1 3 [112, 117, 116]).length : Nat) : Int)
      rw [List.length_append, hrl]
      omega)
    rw [hgp] at hput
    refine Calls.mono hput ?_
    rintro e w' ⟨k1, k2, a', P', L', D', k3, k4, k5⟩
    exact ⟨k1, k2, a', P', L', D', k3, k4, out_rr hkd hL1 k5⟩
  by_cases h3 : kk = 3
  · subst h3
    refine asks_pin a P L _ n IA il ic FA fl fc w _ h fun W hW => (cpin_out a P L E [(nn, kd)] n m W (h.below hW) hlen hL.inv hL.pins hm (by omega) (by omega) (by omega)).mono ?_
    rintro e w' ⟨k1, k2, a', P', L', D', k3, k4, k5⟩
    exact ⟨k1, k2, a', P', L', D', k3, k4, out_rr hkd hL k5⟩
  by_cases h4 : kk = 4
  · subst h4
    refine asks_unpin a P L _ n IA il ic FA fl fc w _ h fun W hW => (cunpin_all a P L (E.under [(nn, kd)]) n m W (h.below hW) hn hL.pins hm (by omega)).mono ?_
    rintro e w' ⟨k1, a', x, k2, k3, k4, k5⟩
    exact ⟨k1, k4, a', _, L, _, k5, k2, .inl ⟨E, rfl, LivC.more ⟨hL.inv.pinned x, k3, hL.wal.pins x, hL.lt, hL.cnt, hL.base, hL.old, hL.lcnt, hL.run, hL.nrec, hL.sec⟩⟩⟩
  by_cases h5 : kk = 5
  · subst h5
    rcases cflush_split a P L E [(nn, kd)] (m + 1) w h hlen hL.inv hL.more.pins (by omega) (by omega) with hc | hc
    · refine asks_flush a P L _ n IA il ic FA fl fc w _ h (by omega) fun W0 h0 W hW => (hc W0 h0 W hW).mono ?_
      rintro e w' ⟨k1, k2, P', L', E', k3, k4, k5, k6⟩
      exact ⟨k1, k2, P', L', _, k3, .inl ⟨E', rfl, kw_liv hkd hL k4 k5⟩, k4.inv.wf, k6⟩
    · refine asks_flushE a P L _ n IA il ic FA fl fc w _ h fun W0 h0 W hW => (hc W0 h0 W hW).mono ?_
      rintro e w' ⟨er, k0, k1, k2, P', L', D', k3, k4⟩
      exact ⟨er, k0, k1, k2, P', L', D', k3, .inr (gone_gon hL k4)⟩
  exact asks_none a P L _ kk n IA il ic FA fl fc w _ h hR0 (by simpa using h1) (by simpa using h2) (by simpa using h3) (by simpa using h4) (by simpa using h5) (by simpa using hk6)
end Go.Proofs.YthfidlhefkjpdaaGreatDoor

namespace Go.Proofs.YthfidlhefkjpdaaGreatDoor
open Go.RowKit

set_option maxRecDepth 100000 in
theorem cget_dead (a : Ad) (P : Pl) (L : Lg) (D : Dk) (n : Int) (w : World) (h : PSt w a P L D) (hd : P.dead = true) :
    Calls Tryz.prog 25 #[.pointer (some ⟨a.gp, 0, none⟩), .int .i64 n] w fun e w' => e = .returned (.tuple #[.pointer none, .int .i64 91]) ∧ w = w' := by
  have hc := fetch_dead a P L D n w h hd
  clear h hd
  go_enter Tryz.func25, Tryz.ntmps25
  go_wp2_with fail
  refine hc.mono ?_
  rintro e w' ⟨rfl, rfl⟩
  clear hc
  go_wp2_with fail
  go_ret2
  exact ⟨rfl, rfl⟩

set_option maxRecDepth 100000 in
theorem cpin_dead (a : Ad) (P : Pl) (L : Lg) (D : Dk) (n : Int) (w : World) (h : PSt w a P L D) (hd : P.dead = true) :
    Calls Tryz.prog 33 #[.pointer (some ⟨a.gp, 0, none⟩), .int .i64 n] w fun e w' => e = .returned (.int .i64 91) ∧ w = w' := by
  have hc := fetch_dead a P L D n w h hd
  clear h hd
  go_enter Tryz.func33, Tryz.ntmps33
  go_wp2_with fail
  refine hc.mono ?_
  rintro e w' ⟨rfl, rfl⟩
  clear hc
  go_wp2_with fail
  go_ret
  exact ⟨rfl, rfl⟩

set_option maxRecDepth 100000 in
theorem cput_dead (a : Ad) (P : Pl) (L : Lg) (D : Dk) (n : Int) (vp vx : Value) (w : World) (h : PSt w a P L D) (hd : P.dead = true) :
    Calls Tryz.prog 12 #[.pointer (some ⟨a.gp, 0, none⟩), .int .i64 n, vp, vx] w fun e w' => e = .returned (.int .i64 91) ∧ w = w' := by
  have hc := fetch_dead a P L D n w h hd
  clear h hd
  go_enter Tryz.func12, Tryz.ntmps12
  go_wp2_with fail
  refine hc.mono ?_
  rintro e w' ⟨rfl, rfl⟩
  clear hc
  go_wp2_with fail
  go_ret
  exact ⟨rfl, rfl⟩

set_option maxRecDepth 100000 in
theorem cflush_dead (a : Ad) (P : Pl) (L : Lg) (D : Dk) (w : World) (h : PSt w a P L D) (hd : P.dead = true) :
    Calls Tryz.prog 15 #[.pointer (some ⟨a.gp, 0, none⟩)] w fun e w' => e = .returned (.int .i64 91) ∧ w = w' := by
  have c10 := h.pool.blk.cell 10
  simp [plCells] at c10
  rw [hd] at c10
  clear h hd
  go_enter Tryz.func15, Tryz.ntmps15
  go_wp2_with fail
  go_ret
  exact ⟨rfl, rfl⟩
end Go.Proofs.YthfidlhefkjpdaaGreatDoor

namespace Go.Proofs.YthfidlhefkjpdaaGreatDoor
open Go.RowKit Go.Maps

set_option maxRecDepth 100000 in
set_option maxHeartbeats 2000000 in
theorem dall_fresh (gd gs gm : Nat) (D : Dk) (w : World) (hD : DiskAt w gd gs gm D) (hw : D.wf) :
    Calls Tryz.prog 17 #[.pointer (some ⟨gd, 0, none⟩)] w fun e w' => ∃ A c, e = .returned (.slice A (D.sec.length * 512) c) ∧ RdB w' A (D.sec.length * 512) ((List.range D.sec.length).flatMap D.has) ∧ (D.sec.length * 512 ≤ c ∧ (0 < D.sec.length * 512 → ∃ g, A = some ⟨g, 0, none⟩ ∧ w.heap.size ≤ g ∧ g < w'.heap.size)) ∧ Below w.heap.size w w' := by
  have hhas : Aside (∀ (W : World) (i : Nat), DiskAt W gd gs gm D → i < D.sec.length → Calls Tryz.prog 55 #[.pointer (some ⟨gd, 0, none⟩), .int .i64 (i : Int)] W fun e w' => e = .returned (.agg (cellsB (D.has i))) ∧ Below W.heap.size W w') := ⟨fun W i h1 h2 => has_any gd gs gm D i W h1 hw h2⟩
  have hlen : Aside (∀ i, i < D.sec.length → (D.has i).length = 512) := ⟨fun i hi => D.has_len hw hi⟩
  have hnn := hw.n
  have HD := hid hD
  obtain ⟨pv, m, hB, _⟩ := hD
  have c0 := hB.cell 0
  simp only [List.getElem?_toArray, List.getElem?_cons_zero] at c0
  obtain ⟨ns, hns⟩ : ∃ ns, D.sec.length = ns := ⟨_, rfl⟩
  rw [hns] at c0 hnn
  have hns := hid hns
  clear hB hw
  go_enter Tryz.func17, Tryz.ntmps17
  go_wp2_with fail
  go_loopg [3, 11] ns (fun q v i wr => ∃ k : Nat, k + q = ns ∧ i = .int .i64 (k : Nat) ∧ Hid (wr.ownsRow w.heap.size 5 1 v (k * 512) (((List.range k).flatMap D.has).map u8) ∧ Below w.heap.size w wr))
  case atStart => exact ⟨0, by omega, rfl, World.ownsRow_nil _ _ _ _, Below.refl _ _⟩
  case round =>
    obtain ⟨k, hk, rfl, hI⟩ := hrel
    obtain ⟨A, cap, rfl⟩ := own_form_n hI.out.1
    have HI := hid hI.out
    clear hI
    by_cases hlt : k < ns
    · have hlt2 : (k : Int) < (ns : Int) := by omega
      have hc := hhas.out wr k (HD.out.below HI.out.2) (by rw [hns.out]; exact hlt)
      have hl := hlen.out k (by rw [hns.out]; exact hlt)
      obtain ⟨bs, hbs⟩ : ∃ bs, D.has k = bs := ⟨_, rfl⟩
      rw [hbs] at hc hl
      have hsz : (cellsB bs).size = 512 := by rw [cellsB_size, hl]
      have HL := hid hl
      have HB := hid hbs
      clear hl hbs
      go_wp2_with fail
      refine hc.mono ?_
      rintro e w1 ⟨rfl, hb1⟩
      have st1 := stNew w1 Tryz.zeroCells113 bs w1.heap.size rfl zc_size HL.out
      have hrow := own_fr HI.out.1 (Fr.of_below hb1 (fun _ => False)) (fun _ _ h => h)
      have B1 : Aside (Below w.heap.size w w1 ∧ w1.ownsRow w.heap.size 5 1 (.slice A (k * 512) cap) (k * 512) (((List.range k).flatMap D.has).map u8)) := ⟨HI.out.2.trans (hb1.mono HI.out.2.size), hrow⟩
      obtain ⟨xs, hxs⟩ : ∃ xs, (List.range k).flatMap D.has = xs := ⟨_, rfl⟩
      have HX := hid hxs
      clear hb1 hc hrow hxs
      go_wp2_with (at_builtin
                   refine wpList_app_bytes (by rfl) _ _ (by rfl) w.heap.size (.slice A (k * 512) cap) (k * 512) xs (by rfl) ?_ (some ⟨w1.heap.size, 0, none⟩) 512 512 bs (by rfl) ?_ (by omega) ?_ ?_
                   · have := B1.out.2; rw [HX.out] at this; exact this.alloc _
                   · have := rd_of_cells (alloc_new w1 (.cells (cellsB bs) 113)); rw [HL.out] at this; exact this
                   · have := B1.out.1.size; simp; omega
                   intro A2 cap2 w2 hown2 hgr2 _
                   have A2' : Aside (w2.ownsRow w.heap.size 5 1 (.slice A2 (k * 512 + 512) cap2) (k * 512 + 512) ((xs ++ bs).map u8) ∧ (w1.alloc (.cells (cellsB bs) 113)).grownBy w2 (Value.slice A (k * 512) cap).ownBlock) := ⟨hown2, hgr2⟩
                   clear hown2 hgr2)
      go_roundg (ns - 1 - k)
      case rel =>
        have hF : Fr (fun b => (Value.slice A (k * 512) cap).ownBlock = some b) w1 w2 := ((Fr.refl _ w1).alloc _).trans ⟨A2'.out.2.os, A2'.out.2.tape, A2'.out.2.output, A2'.out.2.size, fun b hb hn => A2'.out.2.block b hb (fun e => hn e.symm)⟩ (fun _ _ h => h)
        refine ⟨k + 1, by omega, by go_num, ?_, B1.out.1.trans (hF.below B1.out.1.size fun b hb => (B1.out.2.lt b hb).1)⟩
        rw [List.range_succ, List.flatMap_append, HX.out, show (k + 1) * 512 = k * 512 + 512 by omega]
        simp only [List.flatMap_cons, List.flatMap_nil, List.append_nil]
        rw [HB.out]
        exact A2'.out.1
      case measure => omega
    · have hkn : ¬ (k : Int) < (ns : Int) := by omega
      obtain rfl : k = ns := by omega
      go_wp2_with fail
      go_ret
      obtain ⟨A', cap', e', q1, -, q3⟩ := own_form HI.out.1
      injection e' with e1 _ e3
      subst e1 e3
      exact ⟨A, cap, rfl, RdB.of_own HI.out.1, ⟨q1, fun h0 => by obtain ⟨g, hg, hg1, hg2, -⟩ := q3 (by omega); exact ⟨g, hg, hg1, (HI.out.1.lt g (by rw [hg]; rfl)).2⟩⟩, HI.out.2⟩
end Go.Proofs.YthfidlhefkjpdaaGreatDoor

namespace Go.Proofs.YthfidlhefkjpdaaGreatDoor
open Go.RowKit Go.Maps

structure XSt (w : World) (count : Nat) (nn kd : Int) (D0 : Dk) (gl gd gp : Nat) (WA : Option Addr) (wr : World) (m : Nat) (a : Ad) (P : Pl) (L : Lg) (E : Dk) : Prop where
  st : PSt wr a P L (E.under [(nn, kd)])
  liv : LivC count nn (fun N => D0.has (4 + N)) m P L E
  gl : a.gl = gl
  gd : a.gd = gd
  gp : a.gp = gp
  ma : a.ma ≤ 4096
  mn : a.mn ≤ 4096
  ov : a.ov.ownBlock = none
  below : Below w.heap.size w wr
  far : ∀ b, aT a b → w.heap.size ≤ b
  rd : RdB wr WA ((4 + count) * 512) ((List.range (4 + count)).flatMap D0.has)
  gw : ∀ b o, WA = some ⟨b, o, none⟩ → ¬ aT a b ∧ b < wr.heap.size

theorem XSt.below' {w : World} {count : Nat} {nn kd : Int} {D0 : Dk} {gl gd gp : Nat} {WA : Option Addr} {wr w' : World} {m : Nat} {a : Ad} {P : Pl} {L : Lg} {E : Dk} (h : XSt w count nn kd D0 gl gd gp WA wr m a P L E) (hb : Below wr.heap.size wr w') : XSt w count nn kd D0 gl gd gp WA w' m a P L E :=
  ⟨h.st.below hb, h.liv, h.gl, h.gd, h.gp, h.ma, h.mn, h.ov, h.below.trans (hb.mono h.below.size), h.far, h.rd.below hb, fun b o e => ⟨(h.gw b o e).1, Nat.lt_of_lt_of_le (h.gw b o e).2 hb.size⟩⟩

theorem XSt.more {w : World} {count : Nat} {nn kd : Int} {D0 : Dk} {gl gd gp : Nat} {WA : Option Addr} {wr : World} {m : Nat} {a : Ad} {P : Pl} {L : Lg} {E : Dk} (h : XSt w count nn kd D0 gl gd gp WA wr m a P L E) : XSt w count nn kd D0 gl gd gp WA wr (m + 1) a P L E :=
  ⟨h.st, h.liv.more, h.gl, h.gd, h.gp, h.ma, h.mn, h.ov, h.below, h.far, h.rd, h.gw⟩

/-- Behind a call of asks. -/
structure Rnd (w : World) (count : Nat) (nn kd : Int) (D0 : Dk) (gl gd gp : Nat) (WA : Option Addr) (wr : World) (m : Nat) (a : Ad) (P : Pl) (L : Lg) (D : Dk) : Prop where
  st : PSt wr a P L D
  al : a.gl = gl
  ad : a.gd = gd
  ap : a.gp = gp
  below : Below w.heap.size w wr
  rd : RdB wr WA ((4 + count) * 512) ((List.range (4 + count)).flatMap D0.has)
  wf : D.wf
  lw : L.wf
  sec : D.sec.length = 4 + count
  pg : ∀ N, N < count → ∃ p : Pg, p.wf ∧ pageOf (D.has (4 + N)) = some p
  wal : ∀ N, N < count → D.has (4 + N) = D0.has (4 + N) ∨ ∃ p : Pg, p.wf ∧ pageOf (D.has (4 + N)) = some p ∧ p.lsn < L.lsn L.safe
  out : (D.steps < nn ∧ ∃ E, D = E.under [(nn, kd)] ∧ XSt w count nn kd D0 gl gd gp WA wr m a P L E) ∨ (P.dead = true ∧ D.steps = nn)

theorem Rnd.below' {w : World} {count : Nat} {nn kd : Int} {D0 : Dk} {gl gd gp : Nat} {WA : Option Addr} {wr w' : World} {m : Nat} {a : Ad} {P : Pl} {L : Lg} {D : Dk} (h : Rnd w count nn kd D0 gl gd gp WA wr m a P L D) (hb : Below wr.heap.size wr w') : Rnd w count nn kd D0 gl gd gp WA w' m a P L D :=
  ⟨h.st.below hb, h.al, h.ad, h.ap, h.below.trans (hb.mono h.below.size), h.rd.below hb, h.wf, h.lw, h.sec, h.pg, h.wal, by
    rcases h.out with ⟨h1, E, e, h2⟩ | h1
    · exact .inl ⟨h1, E, e, h2.below' hb⟩
    · exact .inr h1⟩

theorem XSt.round {w : World} {count : Nat} {nn kd : Int} {D0 : Dk} {gl gd gp : Nat} {WA : Option Addr} {wr w' : World} {m : Nat} {a a' : Ad} {P P' : Pl} {L L' : Lg} {E D' : Dk} (h : XSt w count nn kd D0 gl gd gp WA wr m a P L E) (hP : PSt w' a' P' L' D')
    (hR : RR [(nn, kd)] count nn (fun N => D0.has (4 + N)) (m + 1) P' L' D') (hF : Fr (aT a) wr w') (hA : AdN wr a a' 2) : ∃ a'', Rnd w count nn kd D0 gl gd gp WA w' (m + 1) a'' P' L' D' := by
  have hb : Below w.heap.size w w' := h.below.trans (hF.below h.below.size h.far)
  have hrd : RdB w' WA ((4 + count) * 512) ((List.range (4 + count)).flatMap D0.has) := h.rd.fr hF (fun b o _ e => (h.gw b o e).1)
  rcases hR with ⟨E', rfl, hl⟩ | hg
  · have hcc := hl.inv.wf.count
    have hT := (hP.tight hl.inv.wf hl.pins).unguard (v := .slice none 0 0) rfl
    have hw := hl.inv.ok.dw
    refine ⟨{ a' with ma := P'.count, mn := P'.count, ov := .slice none 0 0 }, hT, hA.gl.trans h.gl, hA.gd.trans h.gd, hA.gp.trans h.gp, hb, hrd, ⟨hw.n, hw.len, hw.plen, hw.pin, hw.s0, hw.s1⟩, hl.inv.ok.lw, hl.sec, fun N hN => ?_, fun N hN => ?_, .inl ⟨hl.lt, E', rfl, hT, hl, hA.gl.trans h.gl, hA.gd.trans h.gd, hA.gp.trans h.gp, hcc, hcc, rfl, hb, fun b hb' => ?_, hrd, fun b o e => ?_⟩⟩
    · have := hl.inv.pg N (by rw [hl.cnt]; exact hN)
      rw [hl.base] at this
      exact this
    · have := hl.wal.disk N (by rw [hl.cnt]; exact hN)
      rw [hl.base] at this
      exact this
    · exact hA.far h.below.size h.far b hb'
    · have h1 := h.gw b o e
      exact ⟨fun hh => h1.1 (hA.foot b h1.2 hh), Nat.lt_of_lt_of_le h1.2 hF.size⟩
  · exact ⟨a', hP, hA.gl.trans h.gl, hA.gd.trans h.gd, hA.gp.trans h.gp, hb, hrd, hg.wf, hg.lw, hg.sec, hg.pg, hg.wal, .inr ⟨hg.dead, hg.steps⟩⟩

theorem Rnd.ahead {w : World} {count : Nat} {nn kd : Int} {D0 : Dk} {gl gd gp : Nat} {WA : Option Addr} {wr : World} {m wc : Nat} {a : Ad} {P : Pl} {L : Lg} {D : Dk} (h : Rnd w count nn kd D0 gl gd gp WA wr m a P L D) (hc : count ≤ 12) (hw0 : D0.wf) (hn0 : D0.sec.length = 4 + count) :
    Calls Tryz.prog 24 #[.pointer (some ⟨gd, 0, none⟩), .pointer (some ⟨gl, 0, none⟩), .slice WA ((4 + count) * 512) wc, .int .i64 (count : Int)] wr fun e w' => e = .returned (.bool false) ∧ Below wr.heap.size wr w' := by
  have := ahead_any a P L D D0 count WA wc wr h.st h.wf h.lw h.sec hc hw0 hn0 h.rd h.pg h.wal
  rwa [h.al, h.ad] at this

theorem XSt.asks {w : World} {count : Nat} {nn kd : Int} {D0 : Dk} {gl gd gp : Nat} {WA : Option Addr} {wr : World} {m : Nat} {a : Ad} {P : Pl} {L : Lg} {E : Dk} (h : XSt w count nn kd D0 gl gd gp WA wr m a P L E) (kk n : Int) (IA : Option Addr) (il ic : Nat) (FA : Option Addr) (fl fc : Nat) (bs : List UInt8) (hkd : 1 ≤ kd ∧ kd ≤ 3) (hnn : nn ≤ 2000)
    (hm : m ≤ 4398046511104) (hn : wf64 n) (hk6 : kk ≠ 6) (hbs : RdB w IA il bs) (hil : il ≤ 140737488351232) :
    Calls Tryz.prog 20 #[.pointer (some ⟨gl, 0, none⟩), .pointer (some ⟨gp, 0, none⟩), .agg #[.slice none 0 0, .slice none 0 0, .int .i64 0], .agg #[.int .i64 kk, .int .i64 n, .slice IA il ic, .slice FA fl fc]] wr fun e w' => (∃ v, e = .returned v) ∧
      ∃ a' P' L' D', Rnd w count nn kd D0 gl gd gp WA w' (m + 1) a' P' L' D' := by
  have := asks_dies count nn kd (fun N => D0.has (4 + N)) m a P L E kk n IA il ic FA fl fc bs wr hkd hnn h.st h.liv hm h.ma h.mn h.ov hn hk6 (hbs.below h.below) hil (fun b o h0 e hh => by
    obtain ⟨b', o', e', hl, -⟩ := hbs.2 h0
    rw [e] at e'
    injection e' with e'
    injection e' with e' _
    have := h.far b hh
    omega)
  rw [h.gl, h.gp] at this
  refine this.mono ?_
  rintro e w' ⟨h1, a', P', L', D', h2, h3, h4, h5⟩
  obtain ⟨a'', h6⟩ := h.round h2 h3 h4 h5
  exact ⟨h1, a'', P', L', D', h6⟩
end Go.Proofs.YthfidlhefkjpdaaGreatDoor

namespace Go.Proofs.YthfidlhefkjpdaaGreatDoor
open Go.ChangeShapes Go.WideShapes Go.ChangeAt Go.RowKit Go.Deep Go.Joins

theorem wf64_of {n : Int} (h : (Lit.int .i64 n).wf = true) : wf64 n := by
  simp only [Lit.wf, Bool.and_eq_true, decide_eq_true_eq] at h
  exact h
theorem plain_addr {W : World} {x : Addr} {u : Value} (h : W.cell? (x.add 0) = some u) : ∃ b off, x = ⟨b, off, none⟩ ∧ b < W.heap.size ∧ ∀ j, x.add j = ⟨b, off + j, none⟩ := by
  have h' : W.cell? x = some u := h
  obtain ⟨b, off, sp⟩ := x
  have hsp : sp = none := by
    cases sp with
    | none => rfl
    | some y =>
      exfalso
      unfold World.cell? at h'
      split at h'
      · simp at h'
      · cases h'
  subst hsp
  have hadd : ∀ j, (⟨b, off, none⟩ : Addr).add j = ⟨b, off + j, none⟩ := fun j => by unfold Addr.add; split <;> simp_all
  exact ⟨b, off, rfl, World.block_lt_of_cell? W _ h', hadd⟩

set_option maxRecDepth 100000 in
/-- an argument that is a slice of ints -/
theorem open_ints_arg {H : Type} {enc : TypeId × Value → H} {W : World} {r : Reach} {b0 : Nat} {v : Value} {d : DataW H} {p : List MemPlace} (hv : Value.okWide Tryz.prog W r b0 22 v)
    (h : DataW.Trod enc Tryz.prog W 0 (fun _ => true) true 22 v d p) (hw : (d.weights Tryz.prog 22).all (· ≤ reachBytes) = true) : ∃ A n c zs, v = .slice A n c ∧ RdZ W A n zs ∧ n ≤ 17592186044416 := by
  obtain ⟨A, n, c, rfl⟩ := okWide_slice Tryz.underlying22 hv
  obtain ⟨fuel, hf⟩ := h
  refine ⟨A, n, c, ?_⟩
  rcases open_ints Tryz.underlying22 Tryz.underlying3 (by kernel_rfl) hf with ⟨hcs, _⟩ | ⟨x, l, c', zs, hcs, _, hl, hm, hz, hx, hcell, hwz⟩
  · simp [Value.cells] at hcs
    obtain ⟨rfl, rfl, rfl⟩ := hcs
    exact ⟨[], rfl, ⟨rfl, (fun _ h => by cases h), fun h => absurd h (Nat.lt_irrefl 0)⟩, by omega⟩
  · simp [Value.cells] at hcs
    obtain ⟨rfl, rfl, rfl⟩ := hcs
    have hz' : zs.length = c := by simpa using hz
    have hsz : zs.length * 8 ≤ 140737488351232 := by
      have hd : d = .slice (lits .i64 (zs.take n)) (lits .i64 (zs.drop n)) := congrArg Prod.fst hx
      have hw2 : (DataW.weightsEach Tryz.prog [22] [d]).all (· ≤ reachBytes) = true := by
        simpa [DataW.weightsEach] using hw
      have := sized_slice hw2 (j := 0) (t := 22) (e := 3) rfl (by rw [hd]; rfl) Tryz.underlying22
      rw [show Tryz.prog.bytesOf 3 = 8 by kernel_rfl] at this
      simp only [lits, List.length_map, List.length_take, List.length_drop] at this
      unfold reachBytes at this
      omega
    have hll : (zs.take n).length = n := by simp; omega
    refine ⟨zs.take n, rfl, ⟨hll, fun z hz => wf64_of (hwz z (List.mem_of_mem_take hz)), fun h0 => ?_⟩, by omega⟩
    obtain ⟨b, off, rfl, hb, hadd⟩ := plain_addr (hcell 0 (by omega))
    refine ⟨b, off, rfl, hb, fun j hj => ?_⟩
    have h2 := hcell j (by omega)
    rw [hadd] at h2
    rw [h2, List.getElem_take, List.getD_eq_getElem?_getD, List.getElem?_eq_getElem (by omega)]
    rfl

end Go.Proofs.YthfidlhefkjpdaaGreatDoor

namespace Go.Proofs.YthfidlhefkjpdaaGreatDoor
open Go.ChangeShapes Go.WideShapes Go.ChangeAt Go.RowKit Go.Deep Go.Joins

section
variable {H : Type} {enc : TypeId × Value → H} {P : Program} {w : World} {base : Nat} {spare : Nat → Bool} {held : Bool}
theorem open_slice_fields {t e : TypeId} {fs : Array Field} {fuel : Nat} {cs : List Value} {x : DataW H × List MemPlace} (ht : P.underlying t = some (.slice e)) (he : P.underlying e = some (.struct fs))
    (hone : oneCellFields P fs = true) (hC : P.cellsOf e = fs.size) (h : DataW.trod enc P w base spare held fuel t cs = some x) :
    (cs = [.slice none 0 0] ∧ x = (.nil, [])) ∨
    ∃ (a : Addr) (len cap m : Nat) (D : Nat → DataW H) (Pl : Nat → List MemPlace), cs = [.slice (some a) len cap] ∧ base ≤ a.block ∧ len ≤ cap ∧ cap ≤ maxLen ∧ m = (if spare a.block then cap else len) ∧
      x = (.slice ((List.range len).map D) ((List.range (m - len)).map fun j => D (len + j)), MemPlace.row a (m * fs.size) ++ (List.range m).flatMap Pl) ∧
      ∀ i, i < m → ∃ (ys : List (DataW H × List MemPlace)) (n : Nat), D i = .agg (ys.map (·.1)) ∧ Pl i = ys.flatMap (·.2) ∧ ys.length = fs.size ∧
        ∀ (j : Nat) (f : Field), fs[j]? = some f → ∃ (v : Value) (y : DataW H × List MemPlace), w.cell? (a.add (i * fs.size + j)) = some v ∧ ys[j]? = some y ∧ DataW.trod enc P w base spare held n f.type [v] = some y := by
  rcases open_slice ht h with h0 | ⟨a, len, cap, m, n, D, Pl, hcs, hb, hl, hm, hmm, hx, hi⟩
  · exact .inl h0
  · refine .inr ⟨a, len, cap, m, D, Pl, hcs, hb, hl, hm, hmm, by rw [hC] at hx; exact hx, fun i him => ?_⟩
    obtain ⟨cs', hc, ht'⟩ := hi i him
    rw [hC] at hc
    obtain ⟨ys, n', hn', hy, hlen, hyl, hf⟩ := DataW.trod_struct he ht'
    obtain ⟨_, hcl, hat⟩ := World.cells?_some hc
    simp only [Prod.mk.injEq] at hy
    refine ⟨ys, n', hy.1, hy.2, hyl, fun j f hj => ?_⟩
    obtain ⟨ho, hk⟩ := hone_of hone j f hj
    have hjl : j < fs.size := (Array.getElem?_eq_some_iff.1 hj).1
    have hcell := hat j hjl
    have hv : cs'[j]? = some (cs'[j]'(by omega)) := List.getElem?_eq_getElem (by omega)
    have h1 := hf j f hj
    rw [ho, hk] at h1
    have hone' : (cs'.drop j).take 1 = [cs'[j]'(by omega)] := by
      rw [List.drop_eq_getElem_cons (by omega)]
      rfl
    rw [hone'] at h1
    have hys : ys[j]? = some (ys[j]'(by omega)) := List.getElem?_eq_getElem (by omega)
    refine ⟨_, _, ?_, hys, h1.trans hys⟩
    rw [← Go.Deep.add_add, hcell, hv]
end

set_option maxRecDepth 100000 in
/-- a slice of bytes among the data -/
theorem open_bytes_at {H : Type} {enc : TypeId × Value → H} {W : World} {n0 : Nat} {v : Value} {y : DataW H × List MemPlace} (h : DataW.trod enc Tryz.prog W 0 (fun _ => true) true n0 43 [v] = some y) : ∃ A n c bs, v = .slice A n c ∧ RdB W A n bs := by
  rcases open_ints Tryz.underlying43 Tryz.underlying5 (by kernel_rfl) h with ⟨hcs, _⟩ | ⟨x, l, c', zs, hcs, _, hl, hm, hz, hx, hcell, hwz⟩
  · simp only [List.cons.injEq, and_true] at hcs
    subst hcs
    exact ⟨none, 0, 0, [], rfl, RdB.nil _ _⟩
  · simp only [List.cons.injEq, and_true] at hcs
    subst hcs
    have hz' : zs.length = c' := by simpa using hz
    refine ⟨some x, l, c', (zs.take l).map (fun z => UInt8.ofNat z.toNat), rfl, by simp; omega, fun h0 => ?_⟩
    obtain ⟨b, off, rfl, hb, hadd⟩ := plain_addr (hcell 0 (by omega))
    refine ⟨b, off, rfl, hb, fun j hj => ?_⟩
    simp only [List.length_map, List.length_take] at hj
    have h2 := hcell j (by omega)
    rw [hadd] at h2
    have hjz : j < zs.length := by omega
    rw [h2, List.getElem_map, List.getElem_take, List.getD_eq_getElem?_getD, List.getElem?_eq_getElem hjz]
    have hw := hwz zs[j] (List.getElem_mem hjz)
    simp only [Lit.wf, Bool.and_eq_true, decide_eq_true_eq] at hw
    have hw' : (0 : Int) ≤ zs[j] ∧ zs[j] ≤ 255 := hw
    simp only [Option.getD_some, UInt8.toNat_ofNat']
    congr 2
    omega

set_option maxRecDepth 100000 in
/-- an argument that is a slice of operations -/
theorem open_ops_arg {H : Type} {enc : TypeId × Value → H} {W : World} {r : Reach} {b0 : Nat} {v : Value} {d : DataW H} {p : List MemPlace} (hv : Value.okWide Tryz.prog W r b0 44 v)
    (h : DataW.Trod enc Tryz.prog W 0 (fun _ => true) true 44 v d p) (hw : (d.weights Tryz.prog 44).all (· ≤ reachBytes) = true) : ∃ A n c, v = .slice A n c ∧ RdOps W A n ∧ n ≤ 2199023255552 := by
  obtain ⟨A, n, c, rfl⟩ := okWide_slice Tryz.underlying44 hv
  obtain ⟨fuel, hf⟩ := h
  refine ⟨A, n, c, rfl, ?_⟩
  rcases open_slice_fields Tryz.underlying44 Tryz.underlying57 (by kernel_rfl) (by kernel_rfl) hf with ⟨hcs, _⟩ | ⟨x, l, c', m, D, Pl, hcs, _, hl, hm, hmm, hx, hi⟩
  · simp [Value.cells] at hcs
    obtain ⟨rfl, rfl, rfl⟩ := hcs
    exact ⟨fun h => absurd h (Nat.lt_irrefl 0), by omega⟩
  · simp [Value.cells] at hcs
    obtain ⟨rfl, rfl, rfl⟩ := hcs
    have hmc : m = c := by simpa using hmm
    subst hmc
    have hsz : m * 64 ≤ 140737488351232 := by
      have hd : d = .slice ((List.range n).map D) ((List.range (m - n)).map fun j => D (n + j)) := congrArg Prod.fst hx
      have hw2 : (DataW.weightsEach Tryz.prog [44] [d]).all (· ≤ reachBytes) = true := by
        simpa [DataW.weightsEach] using hw
      have := sized_slice hw2 (j := 0) (t := 44) (e := 57) rfl (by rw [hd]; rfl) Tryz.underlying44
      rw [show Tryz.prog.bytesOf 57 = 64 by kernel_rfl] at this
      simp only [List.length_map, List.length_range] at this
      unfold reachBytes at this
      omega
    refine ⟨fun h0 => ?_, by omega⟩
    have hone : ∀ i, i < n → ∃ (kd N : Int) (IA : Option Addr) (il ic : Nat) (FA : Option Addr) (fl fc : Nat) (bs : List UInt8),
        W.cell? (x.add (i * 4 + 0)) = some (.int .i64 kd) ∧ W.cell? (x.add (i * 4 + 1)) = some (.int .i64 N) ∧ W.cell? (x.add (i * 4 + 2)) = some (.slice IA il ic) ∧ W.cell? (x.add (i * 4 + 3)) = some (.slice FA fl fc) ∧ wf64 kd ∧ wf64 N ∧ RdB W IA il bs := by
      intro i hil
      obtain ⟨ys, n', _, _, _, hf⟩ := hi i (by omega)
      obtain ⟨u0, z0, c0, _, q0⟩ := hf 0 _ rfl
      obtain ⟨u1, z1, c1, _, q1⟩ := hf 1 _ rfl
      obtain ⟨u2, z2, c2, _, q2⟩ := hf 2 _ rfl
      obtain ⟨u3, z3, c3, _, q3⟩ := hf 3 _ rfl
      obtain ⟨n0, e0, _, w0⟩ := DataW.trod_int Tryz.underlying3 q0
      obtain ⟨n1, e1, _, w1⟩ := DataW.trod_int Tryz.underlying3 q1
      simp only [List.cons.injEq, and_true] at e0 e1
      subst e0 e1
      obtain ⟨IA, il, ic, bs, rfl, hR⟩ := open_bytes_at q2
      obtain ⟨FA, fl, fc, rfl⟩ : ∃ FA fl fc, u3 = .slice FA fl fc := by
        rcases open_slice Tryz.underlying52 q3 with ⟨hcs, _⟩ | ⟨a, len, cap, _, _, _, _, hcs, _⟩
        · simp only [List.cons.injEq, and_true] at hcs
          exact ⟨_, _, _, hcs⟩
        · simp only [List.cons.injEq, and_true] at hcs
          exact ⟨_, _, _, hcs⟩
      exact ⟨n0, n1, IA, il, ic, FA, fl, fc, bs, c0, c1, c2, c3, wf64_of w0, wf64_of w1, hR⟩
    obtain ⟨_, _, _, _, _, _, _, _, _, c0, _⟩ := hone 0 h0
    obtain ⟨b, off, rfl, hb, hadd⟩ := plain_addr c0
    refine ⟨b, off, rfl, hb, fun i hi' => ?_⟩
    have := hone i hi'
    simp only [hadd] at this
    exact this
end Go.Proofs.YthfidlhefkjpdaaGreatDoor

namespace Go.Proofs.YthfidlhefkjpdaaGreatDoor
open Go.ChangeShapes Go.WideShapes Go.ChangeAt Go.RowKit Go.Deep Go.Joins

/-- The operations' items are not longer than memory. -/
def OpsLen (w : World) (A : Option Addr) (n : Nat) : Prop :=
  ∀ b o, A = some ⟨b, o, none⟩ → ∀ i, i < n → ∀ IA il ic, w.cell? ⟨b, o + i * 4 + 2, none⟩ = some (.slice IA il ic) → il ≤ 140737488351232

theorem weights_all_mem {H : Type} {P : Program} {e : TypeId} {d : DataW H} {k : Nat} : ∀ {l : List (DataW H)}, d ∈ l → k ∈ d.weights P e → k ∈ DataW.weightsAll P e l
  | [], h, _ => by cases h
  | x :: r, h, hk => by
    simp only [DataW.weightsAll, List.mem_append]
    rcases List.mem_cons.1 h with rfl | h
    · exact .inl hk
    · exact .inr (weights_all_mem h hk)

set_option maxRecDepth 100000 in
theorem open_ops_len {H : Type} {enc : TypeId × Value → H} {W : World} {A : Option Addr} {n c : Nat} {d : DataW H} {p : List MemPlace}
    (h : DataW.Trod enc Tryz.prog W 0 (fun _ => true) true 44 (.slice A n c) d p) (hw : (d.weights Tryz.prog 44).all (· ≤ reachBytes) = true) : OpsLen W A n := by
  obtain ⟨fuel, hf⟩ := h
  intro b o hA i hin IA il ic hcell
  rcases open_slice_fields Tryz.underlying44 Tryz.underlying57 (by kernel_rfl) (by kernel_rfl) hf with ⟨hcs, _⟩ | ⟨x, l, c', m, D, Pl, hcs, _, hl, hm, hmm, hx, hi⟩
  · simp [Value.cells] at hcs
    obtain ⟨rfl, rfl, rfl⟩ := hcs
    cases hA
  · simp [Value.cells] at hcs
    obtain ⟨rfl, rfl, rfl⟩ := hcs
    cases hA
    have hmc : m = c := by simpa using hmm
    subst hmc
    have hd : d = .slice ((List.range n).map D) ((List.range (m - n)).map fun j => D (n + j)) := congrArg Prod.fst hx
    obtain ⟨ys, n', hDi, _, hyl, hf⟩ := hi i (by omega)
    obtain ⟨u2, z2, c2, hz2, q2⟩ := hf 2 _ rfl
    have e2 : W.cell? ((⟨b, o, none⟩ : Addr).add (i * 4 + 2)) = W.cell? ⟨b, o + i * 4 + 2, none⟩ := by
      show W.cell? ⟨b, o + (i * 4 + 2), none⟩ = _
      rw [Nat.add_assoc]
    have hu : u2 = .slice IA il ic := by
      have h1 : W.cell? ((⟨b, o, none⟩ : Addr).add (i * 4 + 2)) = some u2 := c2
      rw [e2, hcell] at h1
      exact (Option.some.inj h1).symm
    subst hu
    rcases open_ints Tryz.underlying43 Tryz.underlying5 (by kernel_rfl) q2 with ⟨hcs, _⟩ | ⟨x, l, c', zs, hcs, _, hl2, hm2, hz, hx2, _, _⟩
    · simp only [List.cons.injEq, and_true] at hcs
      cases hcs
      omega
    · simp only [List.cons.injEq, and_true] at hcs
      cases hcs
      have hz' : zs.length = ic := by simpa using hz
      have hk : zs.length * Tryz.prog.bytesOf 5 ∈ z2.1.weights Tryz.prog 43 := by
        rw [hx2]
        have e : zs.length = (lits IntKind.u8 (zs.take il) : List (DataW H)).length + (lits IntKind.u8 (zs.drop il) : List (DataW H)).length := by simp [lits]; omega
        rw [e]
        have hu := Tryz.underlying43
        simp [DataW.weights, hu]
      have hk2 : zs.length * Tryz.prog.bytesOf 5 ∈ (D i).weights Tryz.prog 57 := by
        rw [hDi]
        have hu := Tryz.underlying57
        simp only [DataW.weights, hu]
        exact DataW.weights_mem_each (j := 2) rfl (by rw [List.getElem?_map, hz2]; rfl) _ hk
      have hk3 : zs.length * Tryz.prog.bytesOf 5 ∈ d.weights Tryz.prog 44 := by
        rw [hd]
        have hu := Tryz.underlying44
        simp only [DataW.weights, hu]
        refine List.mem_cons_of_mem _ (List.mem_append_left _ (weights_all_mem (List.mem_map.2 ⟨i, List.mem_range.2 hin, rfl⟩) hk2))
      have := List.all_eq_true.1 hw _ hk3
      rw [show Tryz.prog.bytesOf 5 = 1 by kernel_rfl, hz'] at this
      unfold reachBytes at this
      simp at this
      omega
end Go.Proofs.YthfidlhefkjpdaaGreatDoor
