/- disk.On where nothing waits: the disk stays as it is.
   skeinref01.Same on slices that read alike.
   What stands between two rounds of CacheFlush.
   What CacheAlike keeps of each of its pools.
   The end of CacheAlike in plain words.
   CacheAlike: Put of one page in a pool of which Half speaks; a guarded call of four arguments. -/
import Derived.Test.YthfidlhefkjpdaaGreatDoorSal
import Derived.Test.YthfidlhefkjpdaaGreatDoorSbg
import Derived.Test.YthfidlhefkjpdaaGreatDoorSad
import Derived.Deep.RegionHeld3
import Derived.Test.YthfidlhefkjpdaaGreatDoorSbh
import Derived.Test.YthfidlhefkjpdaaGreatDoorSbe
import Derived.Deep.RegionLaw
namespace Go.Proofs.YthfidlhefkjpdaaGreatDoor
open Go.RowKit Go.Maps

set_option maxRecDepth 100000 in
set_option maxHeartbeats 2000000 in
theorem don_any (gd gs gm : Nat) (D : Dk) (A : Option Addr) (n c : Nat) (zs : List Int) (w : World) (hD : DiskAt w gd gs gm D) (hw : D.wf) (hoff : D.off = false) (hpend : ∀ k, D.pend k = none) (hz : RdZ w A n zs) (hn : n ≤ 17592186044416)
    (hfar : ∀ b o, 0 < n → A = some ⟨b, o, none⟩ → b ≠ gs) :
    Calls Tryz.prog 29 #[.pointer (some ⟨gd, 0, none⟩), .slice A n c] w fun e w' => e = .returned (.tuple #[]) ∧ DiskAt w' gd gs gm D ∧ Fr (fun b => b = gd ∨ (b = gs ∨ b = gm)) w w' := by
  have hset := fun W i (hW : DiskAt W gd gs gm D) hi => settle_any gd gs gm D i W hW hw hi
  have hsame : ∀ i, i < D.sec.length → D.sec.set i (D.has i) = D.sec := fun i hi => by
    unfold Dk.has
    rw [hpend]
    simp only [List.getD_eq_getElem?_getD, List.getElem?_eq_getElem hi, Option.getD_some]
    exact List.set_getElem_self hi
  obtain ⟨pv, m, hB, hS, hM, hms, hP⟩ := id hD
  have hgd := hB.lt
  have hgs := (Array.getElem?_eq_some_iff.1 hS).1
  have hgm := hM.lt
  have hmapne : ∀ b t, Ty w b t → gm ≠ b := by
    rintro b t ⟨cs, fr, h⟩ rfl
    obtain ⟨_, ⟨es, c', h1, _⟩, _⟩ := hM
    rw [h] at h1; cases h1
  have hgmd : gm ≠ gd := hmapne gd _ hB.ty
  have hgms : gm ≠ gs := hmapne gs _ ⟨_, _, hS⟩
  have hgsd : gs ≠ gd := fun e => by subst e; exact hB.ty.ne ⟨_, _, hS⟩ (by decide)
  have hPn : ∀ b, pv.ownBlock = some b → b ≠ gd ∧ b ≠ gs ∧ b ≠ gm := fun b hb =>
    ⟨fun e => by subst e; exact (own_ty hP hb).ne hB.ty (by decide), fun e => by subst e; exact (own_ty hP hb).ne ⟨_, _, hS⟩ (by decide), fun e => hmapne b _ (own_ty hP hb) e.symm⟩
  obtain ⟨ns, hns⟩ : ∃ ns, D.sec.length = ns := ⟨_, rfl⟩
  have H : Aside (DiskAt w gd gs gm D ∧ D.wf ∧ RdZ w A n zs ∧ (∀ b o, 0 < n → A = some ⟨b, o, none⟩ → b ≠ gs)) := ⟨hD, hw, hz, hfar⟩
  have HS : Aside ((∀ W i, DiskAt W gd gs gm D → i < D.sec.length → Calls Tryz.prog 73 #[.pointer (some ⟨gd, 0, none⟩), .int .i64 (i : Int)] W fun e w' => e = .returned (.tuple #[]) ∧
      w'.heap[gs]? = some (.cells (cellsB (flat (D.sec.set i (D.has i)))) 113 (0, 0)) ∧ Fr (· = gs) W w') ∧ (∀ i, i < D.sec.length → D.sec.set i (D.has i) = D.sec) ∧ D.sec.length = ns) := ⟨hset, hsame, hns⟩
  have N1 : Aside (gd < w.heap.size ∧ gs < w.heap.size ∧ gm < w.heap.size ∧ gm ≠ gd ∧ gm ≠ gs ∧ gs ≠ gd ∧ D.off = false ∧ (D.pend = fun _ => none) ∧ D.sec.length ≤ 4096) := ⟨hgd, hgs, hgm, hgmd, hgms, hgsd, hoff, funext hpend, hw.n⟩
  have same_gs : ∀ W W', DiskAt W gd gs gm D → Fr (· = gs) w W → Fr (· = gs) W W' → W'.heap[gs]? = some (.cells (cellsB (flat D.sec)) 113 (0, 0)) → DiskAt W' gd gs gm D := by
    intro W W' h1 hFw hF h2
    obtain ⟨pv', m', k1, k2, k3, k4, k5⟩ := h1
    have hz := hFw.size
    exact ⟨pv', m', k1.fr hF (fun e => hgsd e.symm), h2, k3.block (hF.block gm (by omega) hgms), k4, own_fr k5 hF (fun b hb e => by
      have e' : b = gs := e
      subst e'
      exact (own_ty k5 hb).ne (⟨_, _, k2⟩ : Ty W _ 113) (by decide))⟩
  have SG := hid same_gs
  have hnn : ns ≤ 4096 := by have := hw.n; omega
  clear hset hsame hB hS hM hms hP hD hw hz hfar hmapne hPn same_gs hns hoff hpend hgd hgs hgm hgmd hgms hgsd
  go_enter Tryz.func29, Tryz.ntmps29
  go_wp2_with fail
  go_loopg [8] n (fun q i wr => ∃ k : Nat, k + q = n ∧ i = .int .i64 (k : Nat) ∧ Hid (DiskAt wr gd gs gm D ∧ Fr (· = gs) w wr))
  case atStart => exact ⟨0, by omega, rfl, H.out.1, Fr.refl _ _⟩
  case round =>
    obtain ⟨k, hk, rfl, hI⟩ := hrel
    have HI := hid hI.out
    clear hI
    obtain ⟨pv2, m2, hB2, hS2, hM2, hms2, hP2⟩ := id HI.out.1
    have c0 := hB2.cell 0
    have c1 := hB2.cell 1
    have c4 := hB2.cell 4
    have f4 := hB2.frozen 4
    simp only [List.getElem?_toArray, List.getElem?_cons_succ, List.getElem?_cons_zero] at c0 c1 c4
    rw [HS.out.2.2] at c0
    by_cases hlt : k < n
    · have hlt2 : (k : Int) < (n : Int) := by omega
      obtain ⟨bz, oz, rfl, hbz, hcz⟩ := H.out.2.2.1.2.2 (by omega)
      have hkz : k < zs.length := by rw [H.out.2.2.1.1]; exact hlt
      obtain ⟨z, hz⟩ : ∃ z, zs[k] = z := ⟨_, rfl⟩
      have hcell : wr.cell? ⟨bz, oz + k, none⟩ = some (.int .i64 z) := by
        rw [World.cell?_of_block (w := w) (HI.out.2.block bz hbz (fun e => H.out.2.2.2 bz oz (by omega) rfl e)), ← hz]
        exact hcz k hkz
      clear hB2 hS2 hM2 hms2 hP2 hcz hbz hkz hz c1 c4 f4
      by_cases hz0 : 0 ≤ z
      · have d0 : decide ((0 : Int) ≤ z) = true := by simpa using hz0
        obtain ⟨i, rfl⟩ : ∃ i : Nat, (i : Int) = z := ⟨z.toNat, by omega⟩
        by_cases hi : i < ns
        · have d1 : decide ((i : Int) < (ns : Int)) = true := by simpa using hi
          have hc := HS.out.1 wr i HI.out.1 (by rw [HS.out.2.2]; exact hi)
          rw [HS.out.2.1 i (by rw [HS.out.2.2]; exact hi)] at hc
          go_wp2_with fail
          refine hc.mono ?_
          rintro e w2 ⟨rfl, hS2, hF2⟩
          have H2 : Aside (DiskAt w2 gd gs gm D ∧ Fr (· = gs) w w2) := ⟨SG.out wr w2 HI.out.1 HI.out.2 hF2 hS2, HI.out.2.trans hF2 (fun _ _ h => h)⟩
          clear hS2 hF2 hc hcell c0
          go_wp2_with fail
          go_roundg (n - 1 - k)
          case rel => exact ⟨k + 1, by omega, by go_num, H2.out⟩
          case measure => omega
        · have d1 : decide ((i : Int) < (ns : Int)) = false := by simpa using hi
          go_wp2_with fail
          go_roundg (n - 1 - k)
          case rel => exact ⟨k + 1, by omega, by go_num, HI.out⟩
          case measure => omega
      · have d0 : decide ((0 : Int) ≤ z) = false := by simpa using hz0
        go_wp2_with fail
        go_roundg (n - 1 - k)
        case rel => exact ⟨k + 1, by omega, by go_num, HI.out⟩
        case measure => omega
    · have hkn : ¬ (k : Int) < (n : Int) := by omega
      have HM := hid hM2
      have HB := hid hB2
      have HR : Aside (wr.heap[gs]? = some (.cells (cellsB (flat D.sec)) 113 (0, 0)) ∧ wr.ownsRow 0 76 2 pv2 D.plan.length (D.plan.flatMap encF) ∧ (m2 : Int) ≤ D.steps) := ⟨hS2, hP2, hms2⟩
      clear hB2 hS2 hM2 hms2 hP2
      go_wp2_with (refine wpList_clear (by rfl) (.tmp 30) 109 113 (by rfl) Tryz.underlying109 (by rfl) HM.out ?_
                   intro w2 hM2 hg2 hs2
                   have B2 : Aside (Blk w2 gd 111 #[.slice (some ⟨gs, 0, none⟩) D.sec.length D.sec.length, .map (some gm), pv2, .int .i64 D.steps, .bool D.off]) := ⟨HB.out.only hg2 (fun e => N1.out.2.2.2.1 (by injection e with e; exact e.symm))⟩
                   have C2 : Aside (MapAt Tryz.prog 3 w2 gm 0 (fun _ => none) ∧ wr.grownBy w2 (some gm)) := ⟨hM2, hg2⟩
                   have c42 := B2.out.cell 4
                   have f42 := B2.out.frozen 4
                   clear hM2 hg2 hs2 c0 c1 c4 f4)
      go_end0
      have hF2 : Fr (· = gm) wr w2 := Fr.of_only C2.out.2
      have hF3 : Fr (· = gd) w2 (w2.setCell ⟨gd, 4, none⟩ (.bool false)) := (Fr.refl (· = gd) w2).set (p := ⟨gd, 4, none⟩) (.inl rfl) _
      have hz1 := HI.out.2.size
      have hz2 := hF2.size
      obtain ⟨n1, n2, n3, n4, n5, n6, n7, n8, n9⟩ := N1.out
      have hS2 : w2.heap[gs]? = some (.cells (cellsB (flat D.sec)) 113 (0, 0)) := (hF2.block gs (by omega) (fun e => n5 e.symm)).trans HR.out.1
      have hR2 : w2.ownsRow 0 76 2 pv2 D.plan.length (D.plan.flatMap encF) := own_fr HR.out.2.1 hF2 (fun b hb e => by
        have e' : b = gm := e
        subst e'
        obtain ⟨_, ⟨es, c', h1, _⟩, _⟩ := HM.out
        obtain ⟨_, _, h2⟩ := own_ty HR.out.2.1 hb
        rw [h1] at h2; cases h2)
      refine ⟨rfl, ⟨pv2, 0, ?_, (hF3.block gs (by omega) n6).trans hS2, ?_, by have := H.out.2.1.s0; omega, own_fr hR2 hF3 (fun b hb e => by
        have e' : b = gd := e
        subst e'
        exact (own_ty hR2 hb).ne B2.out.ty (by decide))⟩, ?_⟩
      · have := B2.out.set_ 4 (.bool false)
        rw [n7]
        rw [n7] at this
        simpa using this
      · rw [n8]
        exact C2.out.1.block (hF3.block gm (by omega) n4)
      · exact ((HI.out.2.mono (fun b _ h => .inr (.inl h))).trans hF2 (fun b _ h => .inr (.inr h))).trans hF3 (fun b _ h => .inl h)
end Go.Proofs.YthfidlhefkjpdaaGreatDoor

namespace Go.Proofs.YthfidlhefkjpdaaGreatDoor
open Go.RowKit Go.Maps

set_option maxRecDepth 100000 in
set_option maxHeartbeats 2000000 in
theorem same_any (A B : Option Addr) (n ca cb : Nat) (bs : List UInt8) (w : World) (hA : RdB w A n bs) (hB : RdB w B n bs) (hn : n ≤ 140737488355328) :
    Calls Tryz.prog 26 #[.slice A n ca, .slice B n cb] w fun e w' => e = .returned (.bool true) ∧ Below w.heap.size w w' := by
  have HA := hid hA
  have HB := hid hB
  have dn : decide ((n : Int) = (n : Int)) = true := by simp
  clear hA hB
  go_enter Tryz.func26, Tryz.ntmps26
  go_wp2_with fail
  go_loopg [5] n (fun q i wr => ∃ k : Nat, k + q = n ∧ i = .int .i64 (k : Nat) ∧ Hid (Below w.heap.size w wr))
  case atStart => exact ⟨0, by omega, rfl, Below.refl _ _⟩
  case round =>
    obtain ⟨k, hk, rfl, hI⟩ := hrel
    by_cases hlt : k < n
    · have hlt2 : (k : Int) < (n : Int) := by omega
      obtain ⟨ba, oa, hAe, hxe, x, hca⟩ := HA.out.get hlt
      obtain ⟨bb, ob, hBe, hye, y, hcb⟩ := HB.out.get hlt
      subst hAe hBe
      obtain ⟨v, hv⟩ : ∃ v : Nat, bs[k].toNat = v := ⟨_, rfl⟩
      have c1 : wr.cell? ⟨ba, oa + k, none⟩ = some (.int .u8 (v : Int)) := by rw [← hv]; exact (hI.out.cell (p := ⟨ba, oa + k, none⟩) hxe).trans hca
      have c2 : wr.cell? ⟨bb, ob + k, none⟩ = some (.int .u8 (v : Int)) := by rw [← hv]; exact (hI.out.cell (p := ⟨bb, ob + k, none⟩) hye).trans hcb
      have S1 := hid hI.out
      clear hI hca hcb hv hxe hye
      go_wp2_with fail
      go_region_held3 (fun w' => w'.cell? ⟨ba, oa + k, none⟩ = some (.int .u8 (v : Int)) ∧ w'.cell? ⟨bb, ob + k, none⟩ = some (.int .u8 (v : Int))) (exact ⟨c1, c2⟩) (fail)
      go_wp2_with fail
      go_roundg (n - 1 - k)
      case rel => exact ⟨k + 1, by omega, by go_num, bl_drew S1.out⟩
      case measure => omega
    · have hkn : ¬ (k : Int) < (n : Int) := by omega
      go_wp2_with fail
      go_ret
      exact ⟨rfl, hI.out⟩
end Go.Proofs.YthfidlhefkjpdaaGreatDoor

namespace Go.Proofs.YthfidlhefkjpdaaGreatDoor
open Go.RowKit Go.Maps

/-- The slices that CacheFlush wants read as the pages; they lie apart from the pool. -/
def Want (wr : World) (a : Ad) (P : Pl) (D : Dk) (gW count : Nat) : Prop :=
  ¬ aT a gW ∧ ∃ arr : Array Value, wr.heap[gW]? = some (.cells arr 43 (0, 0)) ∧ count ≤ arr.size ∧ ∀ i, i < count → ∃ b o c, arr[i]? = some (.slice (some ⟨b, o, none⟩) 512 c) ∧ RdB wr (some ⟨b, o, none⟩) 512 (lc P D i) ∧ ¬ aT a b ∧ b ≠ gW ∧ b < wr.heap.size

theorem Want.lt {wr : World} {a : Ad} {P : Pl} {D : Dk} {gW count : Nat} (h : Want wr a P D gW count) : gW < wr.heap.size := by
  obtain ⟨_, arr, h1, _⟩ := h
  exact (Array.getElem?_eq_some_iff.1 h1).1

/-- A call on the pool leaves them. -/
theorem Want.step {wr w' : World} {a a' : Ad} {P P' : Pl} {D D' : Dk} {gW count k : Nat} (h : Want wr a P D gW count) (hF : Fr (aT a) wr w') (hA : AdN wr a a' k) (hlc : ∀ M, M < count → lc P' D' M = lc P D M) : Want w' a' P' D' gW count := by
  have hgl := h.lt
  obtain ⟨h0, arr, h1, h2, h3⟩ := h
  refine ⟨fun hh => h0 (hA.foot gW hgl hh), arr, (hF.block gW hgl h0).trans h1, h2, fun i hi => ?_⟩
  obtain ⟨b, o, c, q1, q2, q3, q4, q5⟩ := h3 i hi
  refine ⟨b, o, c, q1, ?_, fun hh => q3 (hA.foot b q5 hh), q4, Nat.lt_of_lt_of_le q5 hF.size⟩
  rw [hlc i hi]
  exact q2.fr hF (fun b' o' _ e => by injection e with e; injection e with e; subst e; exact q3)

/-- One is laid anew. -/
theorem Want.put {wr : World} {a : Ad} {P P' : Pl} {D D' : Dk} {gW count N g' c' : Nat} {bs : List UInt8} (h : Want wr a P D gW count) (hN : N < count) (hR : RdB wr (some ⟨g', 0, none⟩) 512 bs) (hg : ¬ aT a g') (hne : g' ≠ gW) (hlt : g' < wr.heap.size)
    (hlc : ∀ M, M < count → lc P' D' M = if M = N then bs else lc P D M) : Want (wr.setCell ⟨gW, N, none⟩ (.slice (some ⟨g', 0, none⟩) 512 c')) a P' D' gW count := by
  have hgl := h.lt
  obtain ⟨h0, arr, h1, h2, h3⟩ := h
  have hFr : Fr (· = gW) wr (wr.setCell ⟨gW, N, none⟩ (.slice (some ⟨g', 0, none⟩) 512 c')) := fr_at (Fr.refl _ _) _ _
  have hB : Blk wr gW 43 arr := h1
  refine ⟨h0, _, hB.set_ N _, by simpa using h2, fun i hi => ?_⟩
  rw [Array.getElem?_setIfInBounds, hlc i hi]
  by_cases hiN : i = N
  · subst hiN
    rw [if_pos rfl, if_pos (by omega), if_pos rfl]
    exact ⟨g', 0, c', rfl, hR.fr hFr (fun b' o' _ e => by injection e with e; injection e with e; subst e; exact hne), hg, hne, Nat.lt_of_lt_of_le hlt hFr.size⟩
  · rw [if_neg (fun e => hiN e.symm), if_neg hiN]
    obtain ⟨b, o, c, q1, q2, q3, q4, q5⟩ := h3 i hi
    exact ⟨b, o, c, q1, q2.fr hFr (fun b' o' _ e => by injection e with e; injection e with e; subst e; exact q4), q3, q4, Nat.lt_of_lt_of_le q5 hFr.size⟩

structure WSt (w wr : World) (a : Ad) (P : Pl) (L : Lg) (D : Dk) (gW count gl gd gp k : Nat) : Prop where
  st : PSt wr a P L D
  inv : Inv P L D
  pins : PinsOk P k
  cnt : P.count = count
  base : P.base = 4
  old : L.old = false
  lcnt : L.count = 4
  run : L.run = 2
  nrec : 2 * L.nrec ≤ L.stream.length
  steps : D.steps ≤ 4 + 300000 * k
  gl : a.gl = gl
  gd : a.gd = gd
  gp : a.gp = gp
  ma : a.ma ≤ 4096
  mn : a.mn ≤ 4096
  below : Below w.heap.size w wr
  far : ∀ b, aT a b → w.heap.size ≤ b
  want : Want wr a P D gW count
  gw : w.heap.size ≤ gW

theorem AdN.far {w wr : World} {a a' : Ad} {k : Nat} (hA : AdN wr a a' k) (hz : w.heap.size ≤ wr.heap.size) (h : ∀ b, aT a b → w.heap.size ≤ b) : ∀ b, aT a' b → w.heap.size ≤ b := fun b hb => by
  by_cases hl : b < wr.heap.size
  · exact h b (hA.foot b hl hb)
  · omega

/-- A round with calls on the pool that leave the pages as they are. -/
theorem WSt.next {w wr w' : World} {a a' : Ad} {P P' : Pl} {L L' : Lg} {D D' : Dk} {gW count gl gd gp k k' j : Nat} (h : WSt w wr a P L D gW count gl gd gp k) (hP : PSt w' a' P' L' D') (hI : Inv P' L' D') (hp : PinsOk P' k') (hc : P'.count = P.count) (hb : P'.base = P.base)
    (ho : L'.old = L.old) (hlc' : L'.count = L.count) (hrun : L'.run = L.run) (hnr : 2 * L'.nrec ≤ L'.stream.length) (hs : D'.steps ≤ 4 + 300000 * k') (hF : Fr (aT a) wr w') (hA : AdN wr a a' j) (hlc : ∀ M, M < P.count → lc P' D' M = lc P D M) :
    WSt w w' { a' with ma := P'.count, mn := P'.count } P' L' D' gW count gl gd gp k' := by
  have hcc := hI.wf.count
  have hA' : AdN wr a' { a' with ma := P'.count, mn := P'.count } (P'.count + P'.count) := ⟨rfl, rfl, rfl, rfl, rfl, rfl, rfl, rfl, rfl, Nx.refl _ _, Nx.refl _ _, Nx.refl _ _, fun _ h => .inl h, by show P'.count ≤ _; omega, by show P'.count ≤ _; omega, rfl⟩
  have hA2 : AdN wr a { a' with ma := P'.count, mn := P'.count } (j + (P'.count + P'.count)) := hA.trans hA' (Nat.le_refl _)
  exact ⟨hP.tight hI.wf hp, hI, hp, hc.trans h.cnt, hb.trans h.base, ho.trans h.old, hlc'.trans h.lcnt, hrun.trans h.run, hnr, hs, hA.gl.trans h.gl, hA.gd.trans h.gd, hA.gp.trans h.gp, hcc, hcc, h.below.trans (hF.below h.below.size h.far), hA2.far h.below.size h.far,
    h.want.step hF hA2 (fun M hM => hlc M (by rw [h.cnt]; exact hM)), h.gw⟩

theorem WSt.kp {w wr w' : World} {a a' : Ad} {P P' : Pl} {L L' : Lg} {D D' : Dk} {gW count gl gd gp k j : Nat} (h : WSt w wr a P L D gW count gl gd gp k) (hP : PSt w' a' P' L' D') (hK : Kp P P' L L' D D') (hp : PinsOk P' (k + 1)) (hF : Fr (aT a) wr w') (hA : AdN wr a a' j) :
    WSt w w' { a' with ma := P'.count, mn := P'.count } P' L' D' gW count gl gd gp (k + 1) :=
  h.next hP hK.inv hp hK.count hK.base hK.old hK.cnt hK.run (by rw [hK.nrec, hK.stream]; exact h.nrec) (by have := hK.steps; have := h.steps; omega) hF hA hK.lc

theorem WSt.below' {w wr w' : World} {a : Ad} {P : Pl} {L : Lg} {D : Dk} {gW count gl gd gp k : Nat} (h : WSt w wr a P L D gW count gl gd gp k) (hb : Below wr.heap.size wr w') : WSt w w' a P L D gW count gl gd gp k :=
  ⟨h.st.below hb, h.inv, h.pins, h.cnt, h.base, h.old, h.lcnt, h.run, h.nrec, h.steps, h.gl, h.gd, h.gp, h.ma, h.mn, h.below.trans (hb.mono h.below.size), h.far, h.want.step (Fr.of_below hb _) (AdN.refl _ _ 0) (fun _ _ => rfl), h.gw⟩

theorem WSt.more {w wr : World} {a : Ad} {P : Pl} {L : Lg} {D : Dk} {gW count gl gd gp k : Nat} (h : WSt w wr a P L D gW count gl gd gp k) : WSt w wr a P L D gW count gl gd gp (k + 1) :=
  ⟨h.st, h.inv, fun j hj => by have := h.pins j hj; omega, h.cnt, h.base, h.old, h.lcnt, h.run, h.nrec, by have := h.steps; omega, h.gl, h.gd, h.gp, h.ma, h.mn, h.below, h.far, h.want, h.gw⟩

/-- A round that lays a page. -/
theorem WSt.laid {w w5 w9 : World} {a5 a7 : Ad} {P P7 : Pl} {L5 L7 : Lg} {D D7 : Dk} {gW cn gl gd gp j Nn g9 c' : Nat} {q : Pg} (h5 : WSt w w5 a5 P L5 D gW cn gl gd gp j) (hF : Fr (aT a5) w5 w9) (hA : AdN w5 a5 a7 1) (hP9 : PSt w9 a7 P7 L7 D7) (hR : PutR P P7 L5 L7 D D7 Nn q)
    (hN : Nn < cn) (hRd : RdB w9 (some ⟨g9, 0, none⟩) 512 (bytesP q)) (hg : ¬ aT a7 g9) (hg2 : w5.heap.size ≤ g9) (hg3 : g9 < w9.heap.size) :
    WSt w (w9.setCell ⟨gW, Nn, none⟩ (.slice (some ⟨g9, 0, none⟩) 512 c')) { a7 with ma := P7.count, mn := P7.count } P7 L7 D7 gW cn gl gd gp (j + 1) := by
  have hcc := hR.inv.wf.count
  have hst := hR.stay
  have hw9 : Want w9 a7 P D gW cn := h5.want.step hF hA (fun _ _ => rfl)
  have hgl := h5.want.lt
  have hput := hw9.put (P' := P7) (D' := D7) (c' := c') hN hRd hg (by omega) hg3 (fun M hM => hR.lc M (by rw [h5.cnt]; exact hM))
  obtain ⟨hnW, arr, hblk, _⟩ := hw9
  have hty : Ty w9 gW 43 := ⟨_, _, hblk⟩
  have hFr : Fr (· = gW) w9 (w9.setCell ⟨gW, Nn, none⟩ (.slice (some ⟨g9, 0, none⟩) 512 c')) := fr_at (Fr.refl _ _) _ _
  have hP10 := hP9.apart_fr hFr (fun b hb e => by have e' : b = gW := e; subst e'; exact hnW hb) (fun b hb e => by have e' : b = gW := e; subst e'; exact hb.ne hty (by decide)) (fun b hb e => by have e' : b = gW := e; subst e'; exact hb.ne hty (by decide))
  have hpk : PinsOk P7 (j + 1) := fun k hk => by
    rw [hR.pins] at hk ⊢
    rw [hst.count]
    have := h5.pins k hk
    omega
  have hA' : AdN w5 a7 { a7 with ma := P7.count, mn := P7.count } (P7.count + P7.count) := ⟨rfl, rfl, rfl, rfl, rfl, rfl, rfl, rfl, rfl, Nx.refl _ _, Nx.refl _ _, Nx.refl _ _, fun _ h => .inl h, by show P7.count ≤ _; omega, by show P7.count ≤ _; omega, rfl⟩
  have hz := hF.size
  refine ⟨hP10.tight hR.inv.wf hpk, hR.inv, hpk, hst.count.trans h5.cnt, hst.base.trans h5.base, hst.old.trans h5.old, hst.cnt.trans h5.lcnt, hst.run.trans h5.run, by rw [hst.nrec, hst.stream]; exact h5.nrec, ?_, hA.gl.trans h5.gl, hA.gd.trans h5.gd, hA.gp.trans h5.gp, hcc, hcc,
    (h5.below.trans (hF.below h5.below.size h5.far)).trans (hFr.below (by have := h5.below.size; omega) (fun b e => by have e' : b = gW := e; rw [e']; exact h5.gw)), (hA.trans hA' (Nat.le_refl _)).far h5.below.size h5.far, ?_, h5.gw⟩
  · have h1 := hst.steps
    have h2 := h5.steps
    have h3 := h5.lcnt
    omega
  · obtain ⟨x1, arr2, x2, x3, x4⟩ := hput
    exact ⟨x1, arr2, x2, x3, x4⟩

/-- The slice reads as operations. -/
def RdOps (w : World) (A : Option Addr) (n : Nat) : Prop :=
  0 < n → ∃ b o, A = some ⟨b, o, none⟩ ∧ b < w.heap.size ∧ ∀ i, i < n → ∃ (kd N : Int) (IA : Option Addr) (il ic : Nat) (FA : Option Addr) (fl fc : Nat) (bs : List UInt8),
    w.cell? ⟨b, o + i * 4, none⟩ = some (.int .i64 kd) ∧ w.cell? ⟨b, o + i * 4 + 1, none⟩ = some (.int .i64 N) ∧ w.cell? ⟨b, o + i * 4 + 2, none⟩ = some (.slice IA il ic) ∧ w.cell? ⟨b, o + i * 4 + 3, none⟩ = some (.slice FA fl fc) ∧ wf64 kd ∧ wf64 N ∧ RdB w IA il bs
end Go.Proofs.YthfidlhefkjpdaaGreatDoor

namespace Go.Proofs.YthfidlhefkjpdaaGreatDoor
open Go.RowKit Go.Maps

/-- One pool of eight pages, nothing pinned, F its pages, x the length of its log's stream, k calls behind it; z: where its blocks begin at the lowest. -/
structure Half (z : Nat) (a : Ad) (P : Pl) (L : Lg) (D : Dk) (gl gd gp k x : Nat) (F : Nat → List UInt8) : Prop where
  inv : Inv P L D
  pins : P.pins = fun _ => none
  cnt : P.count = 8
  base : P.base = 4
  old : L.old = false
  lcnt : L.count = 4
  run : L.run = 2
  nrec : 2 * L.nrec ≤ L.stream.length
  len : L.stream.length = x
  lc : ∀ M, M < 8 → lc P D M = F M
  sec : D.sec.length = 12
  steps : D.steps ≤ 4 + 300000 * k
  ma : a.ma ≤ k
  gl : a.gl = gl
  gd : a.gd = gd
  gp : a.gp = gp
  far : ∀ b, aT a b → z ≤ b

section
variable {z : Nat} {w wr : World} {a a' : Ad} {P P' : Pl} {L L' : Lg} {D D' : Dk} {gl gd gp k x : Nat} {F : Nat → List UInt8}
theorem Half.nopin (h : Half z a P L D gl gd gp k x F) (j : Int) : (P.pins j).getD 0 ≤ 0 := by rw [h.pins]; simp
theorem Half.ov (h : Half z a P L D gl gd gp k x F) (v : Value) : Half z { a with ov := v } P L D gl gd gp k x F :=
  ⟨h.inv, h.pins, h.cnt, h.base, h.old, h.lcnt, h.run, h.nrec, h.len, h.lc, h.sec, h.steps, h.ma, h.gl, h.gd, h.gp, h.far⟩
theorem Half.more (h : Half z a P L D gl gd gp k x F) : Half z a P L D gl gd gp (k + 1) x F :=
  ⟨h.inv, h.pins, h.cnt, h.base, h.old, h.lcnt, h.run, h.nrec, h.len, h.lc, h.sec, by have := h.steps; omega, by have := h.ma; omega, h.gl, h.gd, h.gp, h.far⟩
theorem Half.kp {j : Nat} (h : Half z a P L D gl gd gp k x F) (hK : Kp P P' L L' D D') (hp : P'.pins = P.pins) (hA : AdN wr a a' j) (hj : j ≤ 1) (hz : z ≤ wr.heap.size) : Half z a' P' L' D' gl gd gp (k + 1) x F :=
  ⟨hK.inv, hp.trans h.pins, hK.count.trans h.cnt, hK.base.trans h.base, hK.old.trans h.old, hK.cnt.trans h.lcnt, hK.run.trans h.run, by rw [hK.nrec, hK.stream]; exact h.nrec, by rw [hK.stream]; exact h.len, fun M hM => by rw [hK.lc M (by rw [h.cnt]; exact hM)]; exact h.lc M hM, hK.sec.trans h.sec,
    by have := hK.steps; have := h.steps; omega, by have := hA.ma; have := h.ma; omega, hA.gl.trans h.gl, hA.gd.trans h.gd, hA.gp.trans h.gp, fun b hb => by
      by_cases hl : b < wr.heap.size
      · exact h.far b (hA.foot b hl hb)
      · omega⟩
theorem Half.put {j N : Nat} {q : Pg} (h : Half z a P L D gl gd gp k x F) (hR : PutR P P' L L' D D' N q) (hA : AdN wr a a' j) (hj : j ≤ 1) (hz : z ≤ wr.heap.size) : Half z a' P' L' D' gl gd gp (k + 1) x (fun M => if M = N then bytesP q else F M) :=
  ⟨hR.inv, hR.pins.trans h.pins, hR.stay.count.trans h.cnt, hR.stay.base.trans h.base, hR.stay.old.trans h.old, hR.stay.cnt.trans h.lcnt, hR.stay.run.trans h.run, by rw [hR.stay.nrec, hR.stay.stream]; exact h.nrec, by rw [hR.stay.stream]; exact h.len, fun M hM => by
      rw [hR.lc M (by rw [h.cnt]; exact hM)]
      split
      · rfl
      · exact h.lc M hM, hR.stay.sec.trans h.sec,
    by have := hR.stay.steps; have := h.steps; have := h.lcnt; omega, by have := hA.ma; have := h.ma; omega, hA.gl.trans h.gl, hA.gd.trans h.gd, hA.gp.trans h.gp, fun b hb => by
      by_cases hl : b < wr.heap.size
      · exact h.far b (hA.foot b hl hb)
      · omega⟩
theorem Half.append {j : Nat} (h : Half z a P L D gl gd gp k x F) (r : List UInt8) (hr : r.length = 2) (hfit : x + 2 ≤ 1992) (hA : AdN wr a a' j) (hj : j ≤ 1) (hz : z ≤ wr.heap.size) : Half z a' P { L with stream := L.stream ++ r, nrec := L.nrec + 1 } D gl gd gp (k + 1) (x + 2) F := by
  have hlen : (L.stream ++ r).length = x + 2 := by rw [List.length_append, h.len, hr]
  have hn := h.nrec
  rw [h.len] at hn
  refine ⟨h.inv.appended r _ (by rw [h.len, hr, h.lcnt]; omega), h.pins, h.cnt, h.base, h.old, h.lcnt, h.run, ?_, hlen, h.lc, h.sec, by have := h.steps; omega, by have := hA.ma; have := h.ma; omega, hA.gl.trans h.gl, hA.gd.trans h.gd, hA.gp.trans h.gp, fun b hb => ?_⟩
  · show 2 * (L.nrec + 1) ≤ (L.stream ++ r).length
    omega
  · by_cases hl : b < wr.heap.size
    · exact h.far b (hA.foot b hl hb)
    · omega
theorem Half.flushed (h : Half z a P L D gl gd gp k x F) (hf : Flushed P P' L L' D D') : Half z a P' L' D' gl gd gp (k + 1) x F := by
  have hK := Kp.of_flushed hf
  exact ⟨hK.inv, hf.pins.trans h.pins, hK.count.trans h.cnt, hK.base.trans h.base, hK.old.trans h.old, hK.cnt.trans h.lcnt, hK.run.trans h.run, by rw [hK.nrec, hK.stream]; exact h.nrec, by rw [hK.stream]; exact h.len, fun M hM => by rw [hK.lc M (by rw [h.cnt]; exact hM)]; exact h.lc M hM, hK.sec.trans h.sec,
    by have := hK.steps; have := h.steps; omega, by have := h.ma; omega, h.gl, h.gd, h.gp, h.far⟩
end

/-- A fresh pool of eight pages. -/
theorem half_made (most : Nat) (hm1 : 1 ≤ most) (hm2 : most ≤ 64) (a : Ad) (z : Nat) (hma : a.ma = 0) (hfar : ∀ b, aT a b → z ≤ b) : Half z a (madeP 8 most) madeL (madeD [] 8) a.gl a.gd a.gp 0 0 (fun _ => zeros 512) :=
  ⟨made_inv 8 most (by omega) hm1 hm2, rfl, rfl, rfl, rfl, rfl, rfl, by simp [madeL], rfl, fun M hM => made_has 8 (i := 4 + M) (by omega) (by omega), (made_wf 8 (by omega) [] (by simp)).2.2.2.1, by rw [(made_wf 8 (by omega) [] (by simp)).2.2.2.2]; omega, by rw [hma]; exact Nat.le_refl _, rfl, rfl, rfl, hfar⟩
end Go.Proofs.YthfidlhefkjpdaaGreatDoor

namespace Go.Proofs.YthfidlhefkjpdaaGreatDoor
open Go.RowKit Go.Maps

theorem all_drop (h F : Nat → List UInt8) (hl : ∀ i, i < 12 → (h i).length = 512) (hF : ∀ M, M < 8 → h (4 + M) = F M) : ((List.range 12).flatMap h).drop 2048 = (List.range 8).flatMap F := by
  have e12 : List.range 12 = [0, 1, 2, 3, 4, 5, 6, 7, 8, 9, 10, 11] := rfl
  have e8 : List.range 8 = [0, 1, 2, 3, 4, 5, 6, 7] := rfl
  rw [e12, e8]
  simp only [List.flatMap_cons, List.flatMap_nil, List.append_nil]
  have l0 := hl 0 (by omega)
  have l1 := hl 1 (by omega)
  have l2 := hl 2 (by omega)
  have l3 := hl 3 (by omega)
  rw [← List.append_assoc (h 0), ← List.append_assoc (h 0 ++ h 1), ← List.append_assoc (h 0 ++ h 1 ++ h 2)]
  rw [List.drop_left' (by simp only [List.length_append]; omega)]
  rw [← hF 0 (by omega), ← hF 1 (by omega), ← hF 2 (by omega), ← hF 3 (by omega), ← hF 4 (by omega), ← hF 5 (by omega), ← hF 6 (by omega), ← hF 7 (by omega)]

theorem from_big (g c : Nat) (hc : 6144 ≤ c) (W : World) :
    (Instr.sliceAt 43 (.slice (some ⟨g, 0, none⟩) 6144 c) (some (.int .i64 2048)) none none).run Tryz.prog W = .ok (.slice (some ⟨g, 2048, none⟩) 4096 (c - 2048)) W := by
  have h1 : (2048 : Int) ≤ (c : Int) := by omega
  have h2 : ¬ c = 2048 := by omega
  simp [go_sem, sliced, h1, h2, Addr.add_lit]

/-- disk.All behind a flush: the pages. -/
theorem all_half (gd gs gm : Nat) (D : Dk) (F : Nat → List UInt8) (W0 W : World) (hD : DiskAt W0 gd gs gm D) (hb : Below W0.heap.size W0 W) (hw : D.wf) (hs : D.sec.length = 12) (hF : ∀ M, M < 8 → D.has (4 + M) = F M) :
    Calls Tryz.prog 17 #[.pointer (some ⟨gd, 0, none⟩)] W fun e w' => ∃ g c, e = .returned (.slice (some ⟨g, 0, none⟩) 6144 c) ∧ 6144 ≤ c ∧ RdB w' (some ⟨g, 2048, none⟩) 4096 ((List.range 8).flatMap F) ∧ Below W0.heap.size W0 w' ∧ Below W.heap.size W w' := by
  refine (dall_any gd gs gm D W (hD.below hb) hw).mono ?_
  rintro e w' ⟨A, c, rfl, hR, ⟨hc, hA⟩, hb'⟩
  rw [hs] at hR hc hA
  obtain ⟨g, rfl⟩ := hA (by omega)
  have h2 := (hR.cut (k := 2048) (by omega)).at4
  rw [all_drop D.has F (fun i hi => D.has_len hw (by omega)) hF, Nat.zero_add] at h2
  rw [hs]
  exact ⟨g, c, rfl, hc, h2, hb.trans (hb'.mono hb.size), hb'⟩
end Go.Proofs.YthfidlhefkjpdaaGreatDoor

namespace Go.Proofs.YthfidlhefkjpdaaGreatDoor
open Go.RowKit Go.Maps

/-- What Put answers of a number of a page. -/
def rOf (N : Int) : Int := if 0 ≤ N ∧ N < 8 then 0 else 1
/-- The pages behind it. -/
def pagF (F : Nat → List UInt8) (N : Int) (bs : List UInt8) : Nat → List UInt8 := fun M => if (M : Int) = N then bs else F M

section
variable {P : Program} {ops : Array Oper} {o : Oper} {a : Act} {w : World} {K : Act → World → Prop} {Q : Exit → Act → World → Prop} {E : Prop}
/-- A call of a Go function as a guarded step of a region that draws. -/
theorem step_callg (f : FuncId) (hw : Region.wanted o (yielded ops a.tmps) = true) (args : Array Operand) (ts : Array TypeId) (ho : o.op = .call { callee := .value (.func f), args := args, argTypes := ts })
    (eF : ∀ args w, (callFunc f args).run P w = .ok (.enter f args) w) (vs : Array Value) (hvs : args.map a.eval = vs) {R : Ending → World → Prop} (hc : Calls P f vs w R)
    (h : ∀ e w', R e w' → ∃ v, e = .returned v ∧ K (a.put o.dst v) w') : if Region.wanted o (yielded ops a.tmps) = true then Oper.wp P o a w K Q else E := by
  rw [if_pos hw]
  have e : (execOp a.eval o).run P w = .ok (.enter f vs) w := by
    unfold execOp
    simp only [ho, resolve, Sem.run_bind, hvs]
    have : (Deferred.ofValue (a.eval (Operand.func f)) vs).run P w = .ok { target := .fn (.func f) #[], args := vs } w := by
      simp [Act.eval, Deferred.ofValue]
    rw [this]
    simp [invoke, eF]
  unfold Oper.wp
  rw [e, Oper.upon_enter]
  exact hc.mono fun e w' hr => by
    obtain ⟨v, rfl, hk⟩ := h e w' hr
    exact hk
theorem step_call4g (f : FuncId) (hw : Region.wanted o (yielded ops a.tmps) = true) (x y z u : Operand) (ts : Array TypeId) (ho : o.op = .call { callee := .value (.func f), args := #[x, y, z, u], argTypes := ts })
    (eF : ∀ args w, (callFunc f args).run P w = .ok (.enter f args) w) (v1 v2 v3 v4 : Value) (h1 : a.eval x = v1) (h2 : a.eval y = v2) (h3 : a.eval z = v3) (h4 : a.eval u = v4) {R : Ending → World → Prop} (hc : Calls P f #[v1, v2, v3, v4] w R)
    (h : ∀ e w', R e w' → ∃ v, e = .returned v ∧ K (a.put o.dst v) w') : if Region.wanted o (yielded ops a.tmps) = true then Oper.wp P o a w K Q else E :=
  step_callg f hw #[x, y, z, u] ts ho eF #[v1, v2, v3, v4] (by simp [h1, h2, h3, h4]) hc h
end

/-- Put of a page made of an item, whatever the number. -/
theorem hput {z : Nat} {a : Ad} {P : Pl} {L : Lg} {D : Dk} {gl gd gp k x : Nat} {F : Nat → List UInt8} (N : Int) (base g X : Nat) (bs : List UInt8) (w : World) (h : PSt w a P L D) (hH : Half z a P L D gl gd gp k x F)
    (hk : k ≤ 1000) (hq : PageAt w base g (oneP bs)) (hfar : ∀ b, aT a b → b < base) (hX : X ≤ 9223372036854775807) (hz : z ≤ w.heap.size) :
    Calls Tryz.prog 12 #[.pointer (some ⟨gp, 0, none⟩), .int .i64 N, .pointer (some ⟨g, 0, none⟩), .int .i64 (X : Int)] w fun e w' => e = .returned (.int .i64 (rOf N)) ∧
      ∃ a' P' L' D', PSt w' a' P' L' D' ∧ Half z a' P' L' D' gl gd gp (k + 1) x (pagF F N (bytesP { oneP bs with lsn := (X : Int) })) ∧ Fr (aT a) w w' ∧ AdN w a a' 1 := by
  have hgp := hH.gp
  subst hgp
  by_cases hn : 0 ≤ N ∧ N < 8
  · obtain ⟨M, rfl⟩ : ∃ M : Nat, (M : Int) = N := ⟨N.toNat, by omega⟩
    have hr : rOf (M : Int) = 0 := by unfold rOf; rw [if_pos hn]
    rw [hr]
    refine (cput_inv a P L D M base g X (oneP bs) w h hH.inv (by rw [hH.cnt]; omega) hH.nopin (by have := hH.ma; omega) (by have := hH.steps; omega) hq (oneP_wf bs) hfar hX).mono ?_
    rintro e w' ⟨rfl, a', P', L', D', h1, h2, h3, h4⟩
    refine ⟨rfl, a', P', L', D', h1, ?_, h3, h4⟩
    have := hH.put h2 h4 (by omega) hz
    have e : pagF F (M : Int) (bytesP { oneP bs with lsn := (X : Int) }) = fun K => if K = M then bytesP { oneP bs with lsn := (X : Int) } else F K := by
      funext K
      unfold pagF
      by_cases hK : K = M
      · rw [if_pos hK, if_pos (by omega)]
      · rw [if_neg hK, if_neg (by omega)]
    rw [e]
    exact this
  · have hr : rOf N = 1 := by unfold rOf; rw [if_neg hn]
    rw [hr]
    have hc := hH.cnt
    refine (cput_err a.gp N 1 _ _ w (fun w' => w = w') (by decide) (fetch_out a P L D N w h hH.inv.ok.pd (by omega))).mono ?_
    rintro e w' ⟨rfl, rfl⟩
    refine ⟨rfl, a, P, L, D, h, ?_, Fr.refl _ _, AdN.refl _ _ _⟩
    have hm := hH.more
    exact ⟨hm.inv, hm.pins, hm.cnt, hm.base, hm.old, hm.lcnt, hm.run, hm.nrec, hm.len, fun M hM => by
      unfold pagF
      rw [if_neg (by omega)]
      exact hm.lc M hM, hm.sec, hm.steps, hm.ma, hm.gl, hm.gd, hm.gp, hm.far⟩
end Go.Proofs.YthfidlhefkjpdaaGreatDoor
