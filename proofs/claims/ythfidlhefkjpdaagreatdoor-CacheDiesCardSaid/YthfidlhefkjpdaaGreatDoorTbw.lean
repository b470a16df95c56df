/- asks: Put. -/
import Derived.Test.YthfidlhefkjpdaaGreatDoorTbu
import Derived.Test.YthfidlhefkjpdaaGreatDoorTbm
import Derived.Lib.SmallJoins
namespace Go.Proofs.YthfidlhefkjpdaaGreatDoor
open Go.RowKit Go.Maps

set_option maxRecDepth 100000 in
set_option maxHeartbeats 2000000 in
theorem asks_put (a : Ad) (P : Pl) (L : Lg) (D : Dk) (n : Int) (IA : Option Addr) (il ic : Nat) (FA : Option Addr) (fl fc : Nat) (w : World) (R : Pl → Lg → Dk → Prop) (h : PSt w a P L D)
    (hsep : ∀ b o, 0 < il → IA = some ⟨b, o, none⟩ → ¬ aT a b) (hov : a.ov.ownBlock = none) (hlw : L.wf) (hold : L.old = false) (hld : L.dead = false) (hnr : L.nrec ≤ 1099511627776) (bs : List UInt8) (hbs : RdB w IA il bs) (hil : il ≤ 140737488351232) (hlx : 0 ≤ L.lsn L.stream.length)
    (hfull : ¬ L.stream.length + (3 + 2) ≤ L.count * 498 → R P L D)
    (hput : L.stream.length + (3 + 2) ≤ L.count * 498 → ∀ (W : World) (a1 : Ad) (base g : Nat), PSt W a1 P { L with stream := L.stream ++ recL 1 3 [112, 117, 116], nrec := L.nrec + 1 } D → a1.gp = a.gp → a1.ma ≤ a.ma → a1.mn ≤ a.mn → PageAt W base g (oneP bs) → (∀ b, aT a1 b → b < base) →
      Calls Tryz.prog 12 #[.pointer (some ⟨a.gp, 0, none⟩), .int .i64 n, .pointer (some ⟨g, 0, none⟩), .int .i64 (L.lsn L.stream.length)] W fun e w' => (∃ er, e = .returned (.int .i64 er)) ∧ Fr (aT a1) W w' ∧ ∃ a' P' L' D', AdN W a1 a' 1 ∧ PSt w' a' P' L' D' ∧ R P' L' D') :
    Calls Tryz.prog 20 #[.pointer (some ⟨a.gl, 0, none⟩), .pointer (some ⟨a.gp, 0, none⟩), .agg #[.slice none 0 0, .slice none 0 0, .int .i64 0], .agg #[.int .i64 2, .int .i64 n, .slice IA il ic, .slice FA fl fc]] w fun e w' => (∃ v, e = .returned v) ∧
      ∃ a' P' L' D', PSt w' a' P' L' D' ∧ R P' L' D' ∧ Fr (aT a) w w' ∧ AdN w a a' 2 := by
  obtain ⟨wA, hwA⟩ : ∃ wA, ((w.alloc (.cells #[.slice none 0 0, .slice none 0 0, .int .i64 0] 49)).alloc (.cells #[.int .i64 2, .int .i64 n, .slice IA il ic, .slice FA fl fc] 57)).alloc (.cells #[.slice none 0 0, .slice none 0 0, .int .i64 0] 49) = wA := ⟨_, rfl⟩
  have hbA : Below w.heap.size w wA := by rw [← hwA]; exact bl_alloc (bl_alloc (bl_alloc (Below.refl _ _) _) _) _
  have a0 : wA.heap[w.heap.size]? = some (.cells box0 49 (0, 0)) := by
    rw [← hwA]
    exact (Below.heap_alloc _ _ _ (by simp; omega)).trans ((Below.heap_alloc _ _ _ (by simp)).trans (alloc_new w _))
  have a1 : wA.heap[w.heap.size + 1]? = some (.cells #[.int .i64 2, .int .i64 n, .slice IA il ic, .slice FA fl fc] 57 (0, 0)) := by
    rw [← hwA]
    refine (Below.heap_alloc _ _ _ (by simp)).trans ?_
    have := alloc_new (w.alloc (.cells #[.slice none 0 0, .slice none 0 0, .int .i64 0] 49)) (.cells #[.int .i64 2, .int .i64 n, .slice IA il ic, .slice FA fl fc] 57)
    rw [World.size_alloc] at this
    exact this
  have a2 : wA.heap[w.heap.size + 1 + 1]? = some (.cells box0 49 (0, 0)) := by
    rw [← hwA]
    have := alloc_new ((w.alloc (.cells #[.slice none 0 0, .slice none 0 0, .int .i64 0] 49)).alloc (.cells #[.int .i64 2, .int .i64 n, .slice IA il ic, .slice FA fl fc] 57)) (.cells #[.slice none 0 0, .slice none 0 0, .int .i64 0] 49)
    rw [World.size_alloc, World.size_alloc] at this
    exact this
  have hPA := h.below hbA
  have HA : Aside (PSt w a P L D ∧ Below w.heap.size w wA ∧ wA.heap[w.heap.size]? = some (.cells box0 49 (0, 0)) ∧ wA.heap[w.heap.size + 1]? = some (.cells #[.int .i64 2, .int .i64 n, .slice IA il ic, .slice FA fl fc] 57 (0, 0)) ∧ wA.heap[w.heap.size + 1 + 1]? = some (.cells box0 49 (0, 0))) := ⟨h, hbA, a0, a1, a2⟩
  have HW := hid hwA
  clear hwA
  have hzA : wA.heap.size = w.heap.size + 1 + 1 + 1 := by rw [← HW.out]; simp
  have HK : Aside ((convert 43 43 (.slice (some ⟨w.heap.size + 1 + 1 + 1, 0, none⟩) 3 3)).run Tryz.prog (wA.alloc (.cells #[.int .u8 112, .int .u8 117, .int .u8 116] 5)) = .ok (.slice (some ⟨w.heap.size + 1 + 1 + 1, 0, none⟩) 3 3) (wA.alloc (.cells #[.int .u8 112, .int .u8 117, .int .u8 116] 5 (3, 4)))) := ⟨Joins.run_convert_bytes_const_at (P := Tryz.prog) wA 43 5 #[.int .u8 112, .int .u8 117, .int .u8 116] 3 3 (w.heap.size + 1 + 1 + 1) hzA.symm Tryz.underlying43 Tryz.underlying5⟩
  obtain ⟨wB, hwB⟩ : ∃ wB, wA.alloc (.cells #[.int .u8 112, .int .u8 117, .int .u8 116] 5 (3, 4)) = wB := ⟨_, rfl⟩
  have hbB : Below wA.heap.size wA wB := by rw [← hwB]; exact bl_alloc (Below.refl _ _) _
  have hrd : RdB wB (some ⟨w.heap.size + 1 + 1 + 1, 0, none⟩) 3 [112, 117, 116] := by rw [← hwB, ← hzA]; exact rd_marked wA [112, 117, 116] 3
  have hap := lappend_st a P L D 1 (some ⟨w.heap.size + 1 + 1 + 1, 0, none⟩) 3 3 [112, 117, 116] wB (hPA.below hbB) hlw hold hld (by omega) (by omega) hrd (fun b o _ e hh => by
    injection e with e; injection e with e1 _
    subst e1
    have := hPA.lt hh
    omega) (by omega) hnr
  rw [show ((1 : Nat) : Int) = 1 from rfl] at hap
  obtain ⟨X, hX⟩ : ∃ X, L.lsn L.stream.length = X := ⟨_, rfl⟩
  rw [hX] at hap hput hlx
  have HH : Aside ((∀ W, Below w.heap.size w W → RdB W IA il bs) ∧ Below wA.heap.size wA wB ∧ il ≤ 140737488351232) := ⟨fun W hW => hbs.below hW, hbB, hil⟩
  obtain ⟨o0, o1⟩ := op_cells a1
  have o2 : wA.cell? ⟨w.heap.size + 1, 2, none⟩ = some (.slice IA il ic) := by unfold World.cell?; rw [a1]; rfl
  obtain ⟨c0, c1, c2, -, -, -⟩ := box0_cells a0
  have HBx := hid hwB
  have HSep := hid hsep
  have HOv := hid hov
  clear hsep hov
  clear h hbA a0 a1 a2 hPA hlw hold hld hnr hbs hil hX hbB hrd hwB hzA
  by_cases hfit : L.stream.length + (3 + 2) ≤ L.count * 498
  · have hput := hput hfit
    clear hfull
    go_enter Tryz.func20, Tryz.ntmps20
    go_wp2_with fail
    rw [HW.out, HK.out]
    clear HW
    simp only [Result.andThen_ok]
    go_wp2_with fail
    try rw [HBx.out]
    refine hap.mono ?_
    rintro e w1 ⟨hap1, -⟩
    obtain ⟨rfl, a1, hP1, hF1, hA1⟩ := hap1 hfit
    have hF01 : Fr (aT a) wA w1 := (Fr.of_below HH.out.2.1 (aT a)).trans hF1 (fun _ _ h => h)
    have hft : ∀ x, x < wB.heap.size → aT a1 x → aT a x := fun x hx h => hA1.foot x hx h
    have hA01 : AdN w a a1 0 := (AdN.refl w a 0).trans hA1 (by have := HA.out.2.1.size; have := HH.out.2.1.size; omega)
    have hbx0 := box_after HA.out.1 hF01 (Nat.le_refl _) HA.out.2.2.1
    have hbx1 := box_after HA.out.1 hF01 (by omega) HA.out.2.2.2.1
    have hbx2 := box_after HA.out.1 hF01 (by omega) HA.out.2.2.2.2
    obtain ⟨L1, hL1⟩ : ∃ L1, ({ L with stream := L.stream ++ recL 1 3 [112, 117, 116], nrec := L.nrec + 1 } : Lg) = L1 := ⟨_, rfl⟩
    rw [hL1] at hP1 hput
    have hit1 : RdB w1 IA il bs := (HH.out.1 wA HA.out.2.1).fr hF01 HSep.out
    have S1 : Aside (PSt w1 a1 P L1 D ∧ Fr (aT a) wA w1 ∧ AdN w a a1 0 ∧ w1.heap[w.heap.size]? = some (.cells box0 49 (0, 0)) ∧ w1.heap[w.heap.size + 1]? = some (.cells #[.int .i64 2, .int .i64 n, .slice IA il ic, .slice FA fl fc] 57 (0, 0)) ∧ w1.heap[w.heap.size + 1 + 1]? = some (.cells box0 49 (0, 0)) ∧ RdB w1 IA il bs ∧ (∀ x, x < wB.heap.size → aT a1 x → aT a x)) := ⟨hP1, hF01, hA01, hbx0, hbx1, hbx2, hit1, hft⟩
    clear o0 o1 o2 c0 c1 c2 hap hap1 hP1 hF1 hA1 hF01 hA01 hL1 hit1 HBx hft
    obtain ⟨o0, o1⟩ := op_cells hbx1
    have o2 : w1.cell? ⟨w.heap.size + 1, 2, none⟩ = some (.slice IA il ic) := by unfold World.cell?; rw [hbx1]; rfl
    clear hbx0 hbx1 hbx2
    have hwd := wide_any IA il ic bs w1 S1.out.2.2.2.2.2.2.1 HH.out.2.2
    go_wp2_with fail
    refine hwd.mono ?_
    rintro e w2 ⟨gw, cw, rfl, hO2, hb2⟩
    obtain ⟨Aw, cw', ew, hcw1, hcw2, -⟩ := own_form hO2
    injection ew with ew1 ew2 ew3
    subst ew3
    have hgw := hO2.lt gw rfl
    have hS2 := S1.out.1.guard (v := .slice (some ⟨gw, 0, none⟩) (il + 64) cw) hb2 (fun b e => by
      have : gw = b := by simpa [Value.ownBlock] using e
      subst this
      exact hgw)
    obtain ⟨a2, ha2⟩ : ∃ a2, ({ a1 with ov := .slice (some ⟨gw, 0, none⟩) (il + 64) cw } : Ad) = a2 := ⟨_, rfl⟩
    rw [ha2] at hS2
    have hrd2 : RdB w2 (some ⟨gw, 0, none⟩) il bs := by
      have h1 := (RdB.of_own hO2).take (k := il) (by omega)
      have h2 : (bs ++ wideB).take il = bs := by
        have := S1.out.2.2.2.2.2.2.1.1
        rw [← this, List.take_left']
        rfl
      rw [h2] at h1
      exact h1
    have hon := one_any (some ⟨gw, 0, none⟩) il cw bs w2 hrd2
    have S2 : Aside (PSt w2 a2 P L1 D ∧ Below w1.heap.size w1 w2 ∧ w2.ownsRow w1.heap.size 5 1 (.slice (some ⟨gw, 0, none⟩) (il + 64) cw) (il + 64) ((bs ++ wideB).map Go.Proofs.YthfidlhefkjpdaaGreatDoor.u8) ∧ (w1.heap.size ≤ gw ∧ gw < w2.heap.size) ∧ { a1 with ov := .slice (some ⟨gw, 0, none⟩) (il + 64) cw } = a2) := ⟨hS2, hb2, hO2, hgw, ha2⟩
    have hbx1 := (hb2.block _ (Array.getElem?_eq_some_iff.1 S1.out.2.2.2.2.1).1).trans S1.out.2.2.2.2.1
    clear o0 o1 o2
    obtain ⟨o0, o1⟩ := op_cells hbx1
    have o2 : w2.cell? ⟨w.heap.size + 1, 2, none⟩ = some (.slice IA il ic) := by unfold World.cell?; rw [hbx1]; rfl
    have hic : (il : Int) ≤ (cw : Int) := by omega
    clear hbx1 hwd hS2 hb2 hO2 hrd2 ha2 ew1 ew2
    go_wp2_with fail
    refine hon.mono ?_
    rintro e w3 ⟨g, rfl, hG3, hb3⟩
    have b13 : Below w1.heap.size w1 w3 := S2.out.2.1.trans (hb3.mono S2.out.2.1.size)
    have hbx0 := (b13.block _ (Array.getElem?_eq_some_iff.1 S1.out.2.2.2.1).1).trans S1.out.2.2.2.1
    have hbx1 := (b13.block _ (Array.getElem?_eq_some_iff.1 S1.out.2.2.2.2.1).1).trans S1.out.2.2.2.2.1
    have hbx2 := (b13.block _ (Array.getElem?_eq_some_iff.1 S1.out.2.2.2.2.2.1).1).trans S1.out.2.2.2.2.2.1
    have hG3a := hG3
    have S3 : Aside (PSt w3 a2 P L1 D ∧ PageIn w3 w2.heap.size w3.heap.size g (oneP bs) ∧ Below w1.heap.size w1 w3 ∧ Below w2.heap.size w2 w3 ∧ w3.heap[w.heap.size]? = some (.cells box0 49 (0, 0)) ∧ w3.heap[w.heap.size + 1]? = some (.cells #[.int .i64 2, .int .i64 n, .slice IA il ic, .slice FA fl fc] 57 (0, 0)) ∧ w3.heap[w.heap.size + 1 + 1]? = some (.cells box0 49 (0, 0)) ∧ RdB w3 IA il bs ∧ w3.ownsRow w1.heap.size 5 1 (.slice (some ⟨gw, 0, none⟩) (il + 64) cw) (il + 64) ((bs ++ wideB).map Go.Proofs.YthfidlhefkjpdaaGreatDoor.u8)) :=
      ⟨S2.out.1.below hb3, hG3.inside, b13, hb3, hbx0, hbx1, hbx2, S1.out.2.2.2.2.2.2.1.below b13, own_fr S2.out.2.2.1 (Fr.of_below hb3 (fun _ => False)) (fun _ _ h => h)⟩
    have e2 := S2.out.2.2.2.2
    have hpt := hput w3 a2 w2.heap.size g S3.out.1 (by rw [← e2]; exact S1.out.2.2.1.gp) (by rw [← e2]; have := S1.out.2.2.1.ma; exact this) (by rw [← e2]; have := S1.out.2.2.1.mn; exact this) hG3 (fun b hb => S2.out.1.lt hb)
    clear o0 o1 o2 hon hput hG3 hG3a hb3 b13
    obtain ⟨o0, o1⟩ := op_cells hbx1
    have o2 : w3.cell? ⟨w.heap.size + 1, 2, none⟩ = some (.slice IA il ic) := by unfold World.cell?; rw [hbx1]; rfl
    clear hbx0 hbx1 hbx2 e2
    go_wp2_with fail
    refine hpt.mono ?_
    rintro e w4 ⟨⟨er, rfl⟩, hF4, a4, P', L', D', hA4, hP4, hR4⟩
    have hn2 : ∀ x, aT a2 x → aT a1 x := fun x hx => by rw [← S2.out.2.2.2.2] at hx; exact hx
    have hn4 : ∀ x, w.heap.size ≤ x → x < wB.heap.size → ¬ aT a2 x := fun x h1 h2 hx => by
      have := HA.out.1.lt (S1.out.2.2.2.2.2.2.2 x h2 (hn2 x hx))
      omega
    have hzB : w.heap.size + 1 + 1 < wB.heap.size := by have h1 := (Array.getElem?_eq_some_iff.1 HA.out.2.2.2.2).1; have := HH.out.2.1.size; omega
    have hbx0 := (hF4.block _ (Array.getElem?_eq_some_iff.1 S3.out.2.2.2.2.1).1 (hn4 _ (Nat.le_refl _) (by omega))).trans S3.out.2.2.2.2.1
    have hbx1 := (hF4.block _ (Array.getElem?_eq_some_iff.1 S3.out.2.2.2.2.2.1).1 (hn4 _ (by omega) (by omega))).trans S3.out.2.2.2.2.2.1
    have hbx2 := (hF4.block _ (Array.getElem?_eq_some_iff.1 S3.out.2.2.2.2.2.2.1).1 (hn4 _ (by omega) (by omega))).trans S3.out.2.2.2.2.2.2.1
    have hgn : ¬ aT a2 gw := fun hx => by
      have := S1.out.1.lt (hn2 _ hx)
      have := S2.out.2.2.2.1.1
      omega
    have S4 : Aside (PSt w4 a4 P' L' D' ∧ R P' L' D' ∧ AdN w3 a2 a4 1 ∧ Fr (aT a2) w3 w4 ∧ PageIn w4 w2.heap.size w3.heap.size g (oneP bs) ∧ w4.heap[w.heap.size]? = some (.cells box0 49 (0, 0)) ∧ w4.heap[w.heap.size + 1]? = some (.cells #[.int .i64 2, .int .i64 n, .slice IA il ic, .slice FA fl fc] 57 (0, 0)) ∧ w4.heap[w.heap.size + 1 + 1]? = some (.cells box0 49 (0, 0)) ∧ RdB w4 IA il bs ∧ w4.ownsRow w1.heap.size 5 1 (.slice (some ⟨gw, 0, none⟩) (il + 64) cw) (il + 64) ((bs ++ wideB).map Go.Proofs.YthfidlhefkjpdaaGreatDoor.u8)) := by
      refine ⟨hP4, hR4, hA4, hF4, S3.out.2.1.far hF4 (fun b hb => S2.out.1.lt hb), hbx0, hbx1, hbx2, S3.out.2.2.2.2.2.2.2.1.fr hF4 (fun b o h0 e hx => ?_), own_fr S3.out.2.2.2.2.2.2.2.2 hF4 (fun b hb hx => ?_)⟩
      · have hbw : b < w.heap.size := by
          obtain ⟨b', o', e', hl, _⟩ := (HH.out.1 w (Below.refl _ _)).2 h0
          rw [e] at e'
          cases e'
          exact hl
        exact HSep.out b o h0 e (S1.out.2.2.2.2.2.2.2 b (by omega) (hn2 b hx))
      · have : gw = b := by simpa [Value.ownBlock] using hb
        subst this
        exact hgn hx
    clear hP4 hR4 hA4 hF4 hn2 hn4 hzB hgn hpt o0 o1 o2
    obtain ⟨o0, o1⟩ := op_cells hbx1
    have o2 : w4.cell? ⟨w.heap.size + 1, 2, none⟩ = some (.slice IA il ic) := by unfold World.cell?; rw [hbx1]; rfl
    obtain ⟨c0, c1, c2, -, -, -⟩ := box0_cells hbx0
    have hl0 := (Array.getElem?_eq_some_iff.1 hbx0).1
    have hl1 := (Array.getElem?_eq_some_iff.1 hbx1).1
    clear hbx0 hbx1 hbx2
    have K4 : Aside (∀ W, Below w4.heap.size w4 W → W.cell? ⟨w.heap.size, 0, none⟩ = some (.slice none 0 0) ∧ W.cell? ⟨w.heap.size, 1, none⟩ = some (.slice none 0 0) ∧ W.cell? ⟨w.heap.size, 2, none⟩ = some (.int .i64 0) ∧ W.cell? ⟨w.heap.size + 1, 1, none⟩ = some (.int .i64 n) ∧ W.cell? ⟨w.heap.size + 1, 2, none⟩ = some (.slice IA il ic)) :=
      ⟨fun W hW => ⟨(hW.cell (p := ⟨w.heap.size, 0, none⟩) hl0).trans c0, (hW.cell (p := ⟨w.heap.size, 1, none⟩) hl0).trans c1, (hW.cell (p := ⟨w.heap.size, 2, none⟩) hl0).trans c2, (hW.cell (p := ⟨w.heap.size + 1, 1, none⟩) hl1).trans o1, (hW.cell (p := ⟨w.heap.size + 1, 2, none⟩) hl1).trans o2⟩⟩
    have HM : Aside (∀ W, Below w4.heap.size w4 W → Calls Tryz.prog 63 #[.slice IA il ic] W fun e w' => ∃ A' k c', e = .returned (.agg #[.int .i64 0, .int .u8 1, .int .u32 5, .slice A' k c']) ∧ Below w4.heap.size w4 w') := ⟨fun W hW => (model_any IA il ic bs W (S4.out.2.2.2.2.2.2.2.2.1.below hW)).mono fun e w' hr => by
      obtain ⟨A', k, c', e1, hb⟩ := hr
      exact ⟨A', k, c', e1, hW.trans (hb.mono hW.size)⟩⟩
    clear hl0 hl1 o0
    go_wp2_with fail
    go_region_held3 (fun W => W.cell? ⟨w.heap.size, 0, none⟩ = some (.slice none 0 0) ∧ W.cell? ⟨w.heap.size, 1, none⟩ = some (.slice none 0 0) ∧ W.cell? ⟨w.heap.size, 2, none⟩ = some (.int .i64 0) ∧ W.cell? ⟨w.heap.size + 1, 1, none⟩ = some (.int .i64 n) ∧ W.cell? ⟨w.heap.size + 1, 2, none⟩ = some (.slice IA il ic))
      (first | exact ⟨c0, c1, c2, o1, o2⟩ | exact K4.out _ (by repeat (first | exact S6.out | exact S5.out | exact Below.refl _ _ | refine bl_drew ?_ | refine bl_alloc ?_ _ | refine Below.setCell ?_ (by first | exact Nat.le_refl _ | exact S5.out.size | exact S6.out.size) _)))
      (first
       | (go_at_call 63
          (with_reducible refine Calls.mono (model_any IA il ic bs _ (S4.out.2.2.2.2.2.2.2.2.1.below ?_)) ?_)
          · exact (by repeat (first | exact Below.refl _ _ | refine bl_drew ?_ | refine bl_alloc ?_ _))
          rintro e w5 ⟨A5, k5, c5, rfl, hb5⟩
          have S5 : Aside (Below w4.heap.size w4 w5) := ⟨below_step (by repeat (first | exact Below.refl _ _ | refine bl_drew ?_ | refine bl_alloc ?_ _)) hb5 (Nat.le_refl _)⟩
          have hz5 : w4.heap.size ≤ w5.heap.size := S5.out.size
          try (have q5 := (hb5.block w4.heap.size (by simp)).trans (alloc_new _ _)
               have Q5 : Aside (w5.heap[w4.heap.size]? = some (.cells box0 49 (0, 0))) := ⟨q5⟩
               obtain ⟨x0, x1, x2, y0, y1, y2⟩ := box0_cells q5
               have xl := (Array.getElem?_eq_some_iff.1 q5).1
               clear q5)
          clear hb5)
       | (go_at_call 62
          (with_reducible refine Calls.mono (rput_empty n X A5 k5 c5 _) ?_)
          rintro e w6 ⟨rfl, hb6⟩
          have S6 : Aside (Below w4.heap.size w4 w6) := ⟨below_step (by repeat (first | exact S5.out | refine bl_drew ?_ | refine bl_alloc ?_ _)) hb6 (Nat.le_refl _)⟩
          have hz6 : w4.heap.size ≤ w6.heap.size := S6.out.size
          first
            | (have q6 := (hb6.block w4.heap.size xl).trans Q5.out
               clear x0 x1 x2 y0 y1 y2 xl
               obtain ⟨x0, x1, x2, y0, y1, y2⟩ := box0_cells q6
               have xl := (Array.getElem?_eq_some_iff.1 q6).1
               clear q6)
            | (have q6 := (hb6.block w5.heap.size (by simp)).trans (alloc_new _ _)
               have q6' : w6.heap[w5.heap.size]? = some (.cells box0 49 (0, 0)) := q6
               obtain ⟨x0, x1, x2, y0, y1, y2⟩ := box0_cells q6'
               have xl := (Array.getElem?_eq_some_iff.1 q6').1
               clear q6 q6')
            | skip
          clear hb6))
    all_goals
      go_wp2_with fail
      rw [Joins.run_convert_bytes_const_at (P := Tryz.prog) _ _ _ _ _ _ _ ?hg Tryz.underlying43 Tryz.underlying5]
      case hg => simp
      simp only [Result.andThen_ok]
      go_wp2_with fail
    all_goals
      have hT2 := S2.out.1
      have hz12 := S2.out.2.1.size
      have hz23 := S3.out.2.2.2.1.size
      have hz34 := S4.out.2.2.2.1.size
      refine (insert_front w2.heap.size w3.heap.size g (oneP bs) _ 4 4 [109, 105, 110, 101] _ (S4.out.2.2.2.2.1.below ?hB) (oneP_wf bs) ?hR (by omega) ?hZ).mono ?hC
      case hB => exact (by repeat (first | exact S6.out | refine bl_alloc ?_ _ | refine Below.setCell ?_ (by first | exact Nat.le_refl _ | exact S5.out.size | exact S6.out.size) _))
      case hR => exact rd_marked_at _ [109, 105, 110, 101] 4 _ (by simp)
      case hZ => simp; omega
      case hC =>
        rintro e w9 ⟨⟨er9, rfl⟩, hF9⟩
        have hz01 : w.heap.size + 1 + 1 < w1.heap.size := (Array.getElem?_eq_some_iff.1 S1.out.2.2.2.2.2.1).1
        have hgw1 := S2.out.2.2.2.1.1
        have hgw2 := S2.out.2.2.2.1.2
        have hTy2 : ∀ b, b < w3.heap.size → aT a4 b → aT a1 b := fun b hb h => by
          have h2 := S4.out.2.2.1.foot b hb h
          rw [← S2.out.2.2.2.2] at h2
          exact h2
        have hov4 : a4.ov = .slice (some ⟨gw, 0, none⟩) (il + 64) cw := S4.out.2.2.1.ov.trans (by rw [← S2.out.2.2.2.2])
        have hP9 : PSt w9 a4 P' L' D' := by
          refine PSt.waste (S4.out.1.below ?_) hF9 (fun b hb hT => ?_) (fun b hb hT => hT.2.2 hb) (fun b hb _ hT => hT.2.1 hb)
          · exact (by repeat (first | exact S6.out | refine bl_alloc ?_ _ | refine Below.setCell ?_ (by first | exact Nat.le_refl _ | exact S5.out.size | exact S6.out.size) _))
          · have := S1.out.1.lt (hTy2 b hT.1.2 hb)
            have := hT.1.1
            omega
        have hO9 : w9.ownsRow w1.heap.size 5 1 (.slice (some ⟨gw, 0, none⟩) (il + 64) cw) (il + 64) ((bs ++ wideB).map Go.Proofs.YthfidlhefkjpdaaGreatDoor.u8) := by
          refine own_fr (own_fr S4.out.2.2.2.2.2.2.2.2.2 (Fr.of_below ?_ (fun _ => False)) (fun _ _ h => h)) hF9 (fun b hb hT => ?_)
          · exact (by repeat (first | exact S6.out | refine bl_alloc ?_ _ | refine Below.setCell ?_ (by first | exact Nat.le_refl _ | exact S5.out.size | exact S6.out.size) _))
          · have : gw = b := by simpa [Value.ownBlock] using hb
            subst this
            have := hT.1.1
            omega
        have hbx9 : w9.heap[w.heap.size + 1 + 1]? = some (.cells box0 49 (0, 0)) := by
          refine (hF9.block _ ?_ (fun hT => ?_)).trans ((Below.block (B := w4.heap.size) (w := w4) ?_ _ ?_).trans S4.out.2.2.2.2.2.2.2.1)
          · simp; omega
          · have := hT.1.1
            omega
          · exact (by repeat (first | exact S6.out | refine bl_alloc ?_ _ | refine Below.setCell ?_ (by first | exact Nat.le_refl _ | exact S5.out.size | exact S6.out.size) _))
          · omega
        have hFr9 : Fr (fun b => w.heap.size ≤ b) w4 w9 := by
          refine (Fr.of_below ?_ (fun b => w.heap.size ≤ b)).trans (hF9.mono fun b _ hT => ?_) (fun _ _ h => h)
          · exact (by repeat (first | exact S6.out | refine bl_alloc ?_ _ | refine Below.setCell ?_ (by first | exact Nat.le_refl _ | exact S5.out.size | exact S6.out.size) _))
          · have := hT.1.1
            show w.heap.size ≤ b
            omega
        have hdx : ∃ bt, w9.cell? ⟨bt, 0, none⟩ = some (.slice none 0 0) ∧ True := ⟨w.heap.size + 1 + 1, (box0_cells hbx9).1, trivial⟩
        first
          | (have d0 : w9.cell? ⟨w4.heap.size, 0, none⟩ = some (.slice none 0 0) := by
               refine (World.cell?_of_block (hF9.block w4.heap.size ?_ (fun hT => by have := hT.1.2; omega))).trans ?_
               · simp; omega
               · go_simp
             have d1 : w9.cell? ⟨w4.heap.size, 1, none⟩ = some (.slice none 0 0) := by
               refine (World.cell?_of_block (hF9.block w4.heap.size ?_ (fun hT => by have := hT.1.2; omega))).trans ?_
               · simp; omega
               · go_simp
             have d2 : w9.cell? ⟨w4.heap.size, 2, none⟩ = some (.int .i64 0) := by
               refine (World.cell?_of_block (hF9.block w4.heap.size ?_ (fun hT => by have := hT.1.2; omega))).trans ?_
               · simp; omega
               · go_simp
             have hbtl : w4.heap.size < w9.heap.size := Nat.lt_of_lt_of_le (by simp; omega) hF9.size
             obtain ⟨bt, hbt⟩ : ∃ bt, w4.heap.size = bt := ⟨_, rfl⟩)
          | (have d0 : w9.cell? ⟨w5.heap.size, 0, none⟩ = some (.slice none 0 0) := by
               refine (World.cell?_of_block (hF9.block w5.heap.size ?_ (fun hT => by have := hT.1.2; omega))).trans ?_
               · simp; omega
               · go_simp
             have d1 : w9.cell? ⟨w5.heap.size, 1, none⟩ = some (.slice none 0 0) := by
               refine (World.cell?_of_block (hF9.block w5.heap.size ?_ (fun hT => by have := hT.1.2; omega))).trans ?_
               · simp; omega
               · go_simp
             have d2 : w9.cell? ⟨w5.heap.size, 2, none⟩ = some (.int .i64 0) := by
               refine (World.cell?_of_block (hF9.block w5.heap.size ?_ (fun hT => by have := hT.1.2; omega))).trans ?_
               · simp; omega
               · go_simp
             have hbtl : w5.heap.size < w9.heap.size := Nat.lt_of_lt_of_le (by simp; omega) hF9.size
             obtain ⟨bt, hbt⟩ : ∃ bt, w5.heap.size = bt := ⟨_, rfl⟩)
          | (have d0 : w9.cell? ⟨w6.heap.size, 0, none⟩ = some (.slice none 0 0) := by
               refine (World.cell?_of_block (hF9.block w6.heap.size ?_ (fun hT => by have := hT.1.2; omega))).trans ?_
               · simp; omega
               · go_simp
             have d1 : w9.cell? ⟨w6.heap.size, 1, none⟩ = some (.slice none 0 0) := by
               refine (World.cell?_of_block (hF9.block w6.heap.size ?_ (fun hT => by have := hT.1.2; omega))).trans ?_
               · simp; omega
               · go_simp
             have d2 : w9.cell? ⟨w6.heap.size, 2, none⟩ = some (.int .i64 0) := by
               refine (World.cell?_of_block (hF9.block w6.heap.size ?_ (fun hT => by have := hT.1.2; omega))).trans ?_
               · simp; omega
               · go_simp
             have hbtl : w6.heap.size < w9.heap.size := Nat.lt_of_lt_of_le (by simp; omega) hF9.size
             obtain ⟨bt, hbt⟩ : ∃ bt, w6.heap.size = bt := ⟨_, rfl⟩)
        clear hdx
        have hbt4 : w4.heap.size ≤ bt := by have := S5.out.size; have := S6.out.size; omega
        rw [hbt] at d0 d1 d2 hbtl
        have S9 : Aside (PSt w9 a4 P' L' D' ∧ w9.ownsRow w1.heap.size 5 1 (.slice (some ⟨gw, 0, none⟩) (il + 64) cw) (il + 64) ((bs ++ wideB).map Go.Proofs.YthfidlhefkjpdaaGreatDoor.u8) ∧ w9.heap[w.heap.size + 1 + 1]? = some (.cells box0 49 (0, 0)) ∧ Fr (fun b => w.heap.size ≤ b) w4 w9 ∧ (w9.cell? ⟨bt, 0, none⟩ = some (.slice none 0 0) ∧ w9.cell? ⟨bt, 1, none⟩ = some (.slice none 0 0) ∧ w9.cell? ⟨bt, 2, none⟩ = some (.int .i64 0)) ∧ (bt < w9.heap.size ∧ w4.heap.size ≤ bt)) := ⟨hP9, hO9, hbx9, hFr9, ⟨d0, d1, d2⟩, hbtl, hbt4⟩
        clear hP9 hO9 hbx9 hFr9 d0 d1 d2 hbtl hbt4 hF9 o1 o2
        try clear c0 c1 c2
        try clear x0 x1 x2 y0 y1 y2 xl
        have hsp := spoil_any gw (il + 64) cw w1.heap.size (bs ++ wideB) w9 S9.out.2.1 (by have := HH.out.2.2; omega)
        go_wp2_with fail
        try rw [hbt]
        refine hsp.mono ?_
        rintro e w10 ⟨⟨ve, rfl⟩, hF10⟩
        have hne1 : bt ≠ gw := by have := S9.out.2.2.2.2.2.2; omega
        have hne2 : w.heap.size + 1 + 1 ≠ gw := by omega
        have d0 := (World.cell?_of_block (a := ⟨bt, 0, none⟩) (hF10.block bt S9.out.2.2.2.2.2.1 hne1)).trans S9.out.2.2.2.2.1.1
        have d1 := (World.cell?_of_block (a := ⟨bt, 1, none⟩) (hF10.block bt S9.out.2.2.2.2.2.1 hne1)).trans S9.out.2.2.2.2.1.2.1
        have d2 := (World.cell?_of_block (a := ⟨bt, 2, none⟩) (hF10.block bt S9.out.2.2.2.2.2.1 hne1)).trans S9.out.2.2.2.2.1.2.2
        have hbx10 := (hF10.block _ (Array.getElem?_eq_some_iff.1 S9.out.2.2.1).1 hne2).trans S9.out.2.2.1
        obtain ⟨-, -, -, f0, f1, f2⟩ := box0_cells hbx10
        obtain ⟨z0, z1, z2, -, -, -⟩ := box0_cells hbx10
        have hl2 := (Array.getElem?_eq_some_iff.1 hbx10).1
        have hP10 : PSt w10 a4 P' L' D' := by
          refine PSt.waste S9.out.1 hF10 (fun b hb hT => ?_) (fun b hb hT => ?_) (fun b hb ho hT => ?_)
          · have e1 : b = gw := hT
            rw [e1] at hb
            have := S1.out.1.lt (hTy2 gw (by omega) hb)
            omega
          · have e1 : b = gw := hT
            rw [e1] at hb
            exact hb.ne (own_ty S9.out.2.1 rfl) (by decide)
          · have e1 : b = gw := hT
            rw [hov4, e1] at ho
            exact ho rfl
        have S10 : Aside (PSt w10 a4 P' L' D' ∧ Fr (fun b => w.heap.size ≤ b) w4 w10 ∧ w10.heap[w.heap.size + 1 + 1]? = some (.cells box0 49 (0, 0))) := ⟨hP10, S9.out.2.2.2.1.trans (hF10.mono fun b _ e => by have e1 : b = gw := e; show w.heap.size ≤ b; omega) (fun _ _ h => h), hbx10⟩
        clear hP10 hbx10 hF10 hsp hne1 hne2
        go_wp2_with fail
        (try simp only [Exit.inBlock, Exit.then])
        refine bodyPost_ret (v := .tuple #[.agg #[.slice none 0 0, .slice none 0 0, .int .i64 0], .bool (er == 1)]) ?_ rfl ⟨⟨_, rfl⟩, ?_⟩
        · rw [results_cell_tmp rfl]
          go_simp
        · refine (?_ : ∀ W, Fr (· = w.heap.size + 1 + 1) w10 W → ∃ a' P' L' D', PSt W a' P' L' D' ∧ R P' L' D' ∧ Fr (aT a) w W ∧ AdN w a a' 2) _ (by repeat (first | exact Fr.refl _ _ | refine fr_at ?_ _ _ | refine fr_new ?_ (by simp) _ | refine Fr.alloc ?_ _ | refine Fr.drew ?_))
          intro W hWf
          have hty : Ty w10 (w.heap.size + 1 + 1) 49 := ⟨_, _, S10.out.2.2⟩
          have hPW : PSt W a4 P' L' D' := S10.out.1.apart_fr hWf (fun b hb hT => by
            have e1 : b = w.heap.size + 1 + 1 := hT
            rw [e1] at hb
            have h1 := hTy2 _ (by omega) hb
            have hzB : w.heap.size + 1 + 1 < wB.heap.size := by have h1 := (Array.getElem?_eq_some_iff.1 HA.out.2.2.2.2).1; have := HH.out.2.1.size; omega
            have := HA.out.1.lt (S1.out.2.2.2.2.2.2.2 _ hzB h1)
            omega) (fun b hb e => by have e1 : b = w.heap.size + 1 + 1 := e; subst e1; exact hb.ne hty (by decide)) (fun b hb e => by have e1 : b = w.heap.size + 1 + 1 := e; subst e1; exact hb.ne hty (by decide))
          have hz1 := S1.out.2.1.size
          have hzA := HA.out.2.1.size
          have hAd : AdN w a { a4 with ov := a.ov } (0 + 1) := AdN.reov (w3 := w3) S1.out.2.2.1 rfl (by omega) (by rw [S2.out.2.2.2.2]; exact S4.out.2.2.1)
          refine ⟨{ a4 with ov := a.ov }, P', L', D', hPW.unguard HOv.out, S4.out.2.1, ?_, hAd.mono (by omega)⟩
          have q1 : Fr (aT a) w w1 := (Fr.of_below HA.out.2.1 (aT a)).trans S1.out.2.1 (fun _ _ h => h)
          have q2 : Fr (aT a) w w3 := q1.trans (Fr.of_below S3.out.2.2.1 (aT a)) (fun _ _ h => h)
          have q3 : Fr (aT a) w w4 := q2.trans S4.out.2.2.2.1 (fun b hb hT => by
            have h2 : aT a1 b := by rw [← S2.out.2.2.2.2] at hT; exact hT
            exact S1.out.2.2.1.foot b hb h2)
          have q4 : Fr (aT a) w w10 := q3.trans S10.out.2.1 (fun b hb hT => by have h1 : w.heap.size ≤ b := hT; omega)
          exact q4.trans hWf (fun b hb hT => by have h1 : b = w.heap.size + 1 + 1 := hT; omega)
  · have HR := hid (hfull hfit)
    clear hput hfull
    go_enter Tryz.func20, Tryz.ntmps20
    go_wp2_with fail
    rw [HW.out, HK.out]
    clear HW
    simp only [Result.andThen_ok]
    go_wp2_with fail
    try rw [HBx.out]
    refine hap.mono ?_
    rintro e w1 ⟨-, hap1⟩
    obtain ⟨rfl, hP1, hb1⟩ := hap1 hfit
    have hb01 : Below wA.heap.size wA w1 := HH.out.2.1.trans (hb1.mono HH.out.2.1.size)
    have hbx0 := (hb01.block _ (Array.getElem?_eq_some_iff.1 HA.out.2.2.1).1).trans HA.out.2.2.1
    have hbx2 := (hb01.block _ (Array.getElem?_eq_some_iff.1 HA.out.2.2.2.2).1).trans HA.out.2.2.2.2
    have S1 : Aside (PSt w1 a P L D ∧ Below wA.heap.size wA w1) := ⟨hP1, hb01⟩
    clear o0 o1 o2 c0 c1 c2 hap hap1 hP1 hb1 hb01 HBx
    obtain ⟨c0, c1, c2, -, -, -⟩ := box0_cells hbx0
    obtain ⟨-, -, -, f0, f1, f2⟩ := box0_cells hbx2
    obtain ⟨z0, z1, z2, -, -, -⟩ := box0_cells hbx2
    have hl2 := (Array.getElem?_eq_some_iff.1 hbx2).1
    clear hbx0 hbx2
    go_wp2_with fail
    (try simp only [Exit.inBlock, Exit.then])
    refine bodyPost_ret (v := .tuple #[.agg #[.slice none 0 0, .slice none 0 0, .int .i64 0], .bool true]) ?_ rfl ⟨⟨_, rfl⟩, ?_⟩
    · rw [results_cell_tmp rfl]
      go_simp
    · refine (?_ : ∀ W, Fr (· = w.heap.size + 1 + 1) w1 W → ∃ a' P' L' D', PSt W a' P' L' D' ∧ R P' L' D' ∧ Fr (aT a) w W ∧ AdN w a a' 2) _ (by repeat (first | exact Fr.refl _ _ | refine fr_at ?_ _ _ | refine fr_new ?_ (by simp) _ | refine Fr.alloc ?_ _ | refine Fr.drew ?_))
      intro W hWf
      obtain ⟨x1, x2, x3⟩ := asks_end (k := 2) (w1 := wA) (w2 := w1) (g := w.heap.size + 1 + 1) HA.out.1 HA.out.2.1 (HA.out.1.below HA.out.2.1) (Fr.refl _ _) (AdN.refl _ _ _) S1.out.2 (by omega) HA.out.2.2.2.2 (by decide) (by decide) hWf
      exact ⟨a, P, L, D, x1, HR.out, x2, x3⟩
end Go.Proofs.YthfidlhefkjpdaaGreatDoor
