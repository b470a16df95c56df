/- asks: Get and Flush. -/
import Derived.Test.YthfidlhefkjpdaaGreatDoorTbu
import Derived.Deep.RegionWith
namespace Go.Proofs.YthfidlhefkjpdaaGreatDoor
open Go.RowKit Go.Maps

set_option maxRecDepth 100000 in
set_option maxHeartbeats 2000000 in
theorem asks_get (a : Ad) (P : Pl) (L : Lg) (D : Dk) (n : Int) (IA : Option Addr) (il ic : Nat) (FA : Option Addr) (fl fc : Nat) (w : World) (R : Pl → Lg → Dk → Prop) (h : PSt w a P L D)
    (hcall : ∀ W, Below w.heap.size w W → Calls Tryz.prog 25 #[.pointer (some ⟨a.gp, 0, none⟩), .int .i64 n] W fun e w' => (∃ pv er, e = .returned (.tuple #[pv, .int .i64 er]) ∧ ((er = 0 ∧ ∃ g, pv = .pointer (some ⟨g, 0, none⟩)) ∨ ((er == 0) = false ∧ pv = .pointer none))) ∧
      Fr (aT a) W w' ∧ ∃ a' P' L' D', AdN W a a' 2 ∧ PSt w' a' P' L' D' ∧ R P' L' D') :
    Calls Tryz.prog 20 #[.pointer (some ⟨a.gl, 0, none⟩), .pointer (some ⟨a.gp, 0, none⟩), .agg #[.slice none 0 0, .slice none 0 0, .int .i64 0], .agg #[.int .i64 1, .int .i64 n, .slice IA il ic, .slice FA fl fc]] w fun e w' => (∃ v, e = .returned v) ∧
      ∃ a' P' L' D', PSt w' a' P' L' D' ∧ R P' L' D' ∧ Fr (aT a) w w' ∧ AdN w a a' 2 := by
  obtain ⟨wA, hwA⟩ : ∃ wA, ((w.alloc (.cells #[.slice none 0 0, .slice none 0 0, .int .i64 0] 49)).alloc (.cells #[.int .i64 1, .int .i64 n, .slice IA il ic, .slice FA fl fc] 57)).alloc (.cells #[.slice none 0 0, .slice none 0 0, .int .i64 0] 49) = wA := ⟨_, rfl⟩
  have hbA : Below w.heap.size w wA := by rw [← hwA]; exact bl_alloc (bl_alloc (bl_alloc (Below.refl _ _) _) _) _
  have a0 : wA.heap[w.heap.size]? = some (.cells box0 49 (0, 0)) := by
    rw [← hwA]
    exact (Below.heap_alloc _ _ _ (by simp; omega)).trans ((Below.heap_alloc _ _ _ (by simp)).trans (alloc_new w _))
  have a1 : wA.heap[w.heap.size + 1]? = some (.cells #[.int .i64 1, .int .i64 n, .slice IA il ic, .slice FA fl fc] 57 (0, 0)) := by
    rw [← hwA]
    refine (Below.heap_alloc _ _ _ (by simp)).trans ?_
    have := alloc_new (w.alloc (.cells #[.slice none 0 0, .slice none 0 0, .int .i64 0] 49)) (.cells #[.int .i64 1, .int .i64 n, .slice IA il ic, .slice FA fl fc] 57)
    rw [World.size_alloc] at this
    exact this
  have a2 : wA.heap[w.heap.size + 1 + 1]? = some (.cells box0 49 (0, 0)) := by
    rw [← hwA]
    have := alloc_new ((w.alloc (.cells #[.slice none 0 0, .slice none 0 0, .int .i64 0] 49)).alloc (.cells #[.int .i64 1, .int .i64 n, .slice IA il ic, .slice FA fl fc] 57)) (.cells #[.slice none 0 0, .slice none 0 0, .int .i64 0] 49)
    rw [World.size_alloc, World.size_alloc] at this
    exact this
  have hPA := h.below hbA
  have HA : Aside (PSt w a P L D ∧ Below w.heap.size w wA ∧ wA.heap[w.heap.size]? = some (.cells box0 49 (0, 0)) ∧ wA.heap[w.heap.size + 1]? = some (.cells #[.int .i64 1, .int .i64 n, .slice IA il ic, .slice FA fl fc] 57 (0, 0)) ∧ wA.heap[w.heap.size + 1 + 1]? = some (.cells box0 49 (0, 0))) := ⟨h, hbA, a0, a1, a2⟩
  have HW := hid hwA
  clear hwA
  have hc := hcall wA hbA
  clear h hbA a0 a1 a2 hPA hcall
  go_enter Tryz.func20, Tryz.ntmps20
  go_wp2_with fail
  rw [HW.out]
  clear HW
  refine hc.mono ?_
  rintro e w1 ⟨⟨pv, er, rfl, hpv⟩, hF1, a', P', L', D', hA1, hP1, hR1⟩
  have S1 : Aside (PSt w1 a' P' L' D' ∧ R P' L' D' ∧ Fr (aT a) wA w1 ∧ AdN wA a a' 2) := ⟨hP1, hR1, hF1, hA1⟩
  obtain ⟨c0, c1, c2, -, -, -⟩ := box0_cells (box_after HA.out.1 hF1 (Nat.le_refl _) HA.out.2.2.1)
  obtain ⟨d0, d1⟩ := op_cells (box_after HA.out.1 hF1 (by omega) HA.out.2.2.2.1)
  clear hP1 hR1 hF1 hA1 hc
  have hr := rreach_empty n w1
  go_wp2_with fail
  refine hr.mono ?_
  rintro e w2 ⟨rfl, hb2⟩
  clear c0 c1 c2 d0 d1
  obtain ⟨c0, c1, c2, -, -, -⟩ := box0_cells ((hb2.block _ (by have := (Array.getElem?_eq_some_iff.1 HA.out.2.2.1).1; have := S1.out.2.2.1.size; omega)).trans (box_after HA.out.1 S1.out.2.2.1 (Nat.le_refl _) HA.out.2.2.1))
  obtain ⟨z0, z1, z2, f0, f1, f2⟩ := box0_cells ((hb2.block _ (by have := (Array.getElem?_eq_some_iff.1 HA.out.2.2.2.2).1; have := S1.out.2.2.1.size; omega)).trans (box_after HA.out.1 S1.out.2.2.1 (by omega) HA.out.2.2.2.2))
  have hl2 : w.heap.size + 1 + 1 < w2.heap.size := by have := (Array.getElem?_eq_some_iff.1 HA.out.2.2.2.2).1; have := S1.out.2.2.1.size; have := hb2.size; omega
  have S2 := hid hb2
  clear hb2 hr
  by_cases h1 : er = 1
  · subst h1
    have hpn : pv = .pointer none := by
      rcases hpv with ⟨h, -⟩ | ⟨-, h⟩
      · omega
      · exact h
    subst hpn
    clear hpv
    go_wp2_with fail
    (try simp only [Exit.inBlock, Exit.then])
    refine bodyPost_ret (v := .tuple #[.agg #[.slice none 0 0, .slice none 0 0, .int .i64 0], .bool true]) ?_ rfl ⟨⟨_, rfl⟩, ?_⟩
    · rw [results_cell_tmp rfl]
      go_simp
    · refine (?_ : ∀ W, Fr (· = w.heap.size + 1 + 1) w2 W → ∃ a' P' L' D', PSt W a' P' L' D' ∧ R P' L' D' ∧ Fr (aT a) w W ∧ AdN w a a' 2) _ (by repeat (first | exact Fr.refl _ _ | refine fr_at ?_ _ _ | refine fr_new ?_ (by simp) _ | refine Fr.alloc ?_ _ | refine Fr.drew ?_))
      intro W hWf
      obtain ⟨x1, x2, x3⟩ := asks_end (k := 2) (g := w.heap.size + 1 + 1) HA.out.1 HA.out.2.1 S1.out.1 S1.out.2.2.1 S1.out.2.2.2 S2.out (by omega) HA.out.2.2.2.2 (by decide) (by decide) hWf
      exact ⟨a', P', L', D', x1, S1.out.2.1, x2, x3⟩
  · have e1 : (er != 1) = true := by simp [bne, h1]
    clear hpv h1
    go_wp2_with fail
    (try simp only [Exit.inBlock, Exit.then])
    refine bodyPost_ret (v := .tuple #[.agg #[.slice none 0 0, .slice none 0 0, .int .i64 0], .bool false]) ?_ rfl ⟨⟨_, rfl⟩, ?_⟩
    · rw [results_cell_tmp rfl]
      go_simp
    · refine (?_ : ∀ W, Fr (· = w.heap.size + 1 + 1) w2 W → ∃ a' P' L' D', PSt W a' P' L' D' ∧ R P' L' D' ∧ Fr (aT a) w W ∧ AdN w a a' 2) _ (by repeat (first | exact Fr.refl _ _ | refine fr_at ?_ _ _ | refine fr_new ?_ (by simp) _ | refine Fr.alloc ?_ _ | refine Fr.drew ?_))
      intro W hWf
      obtain ⟨x1, x2, x3⟩ := asks_end (k := 2) (g := w.heap.size + 1 + 1) HA.out.1 HA.out.2.1 S1.out.1 S1.out.2.2.1 S1.out.2.2.2 S2.out (by omega) HA.out.2.2.2.2 (by decide) (by decide) hWf
      exact ⟨a', P', L', D', x1, S1.out.2.1, x2, x3⟩

set_option maxRecDepth 100000 in
set_option maxHeartbeats 2000000 in
theorem asks_flush (a : Ad) (P : Pl) (L : Lg) (D : Dk) (n : Int) (IA : Option Addr) (il ic : Nat) (FA : Option Addr) (fl fc : Nat) (w : World) (R : Pl → Lg → Dk → Prop) (h : PSt w a P L D)
    (hma : a.ma ≤ 1099511627776) (hcall : ∀ W0, Below w.heap.size w W0 → ∀ W, Below W0.heap.size W0 W → Calls Tryz.prog 15 #[.pointer (some ⟨a.gp, 0, none⟩)] W fun e w' => e = .returned (.int .i64 0) ∧ Fr (aT a) W0 w' ∧ ∃ P' L' D', PSt w' a P' L' D' ∧ R P' L' D' ∧ PWf P' ∧ (∀ f ∈ P'.frames, f.dirty = false)) :
    Calls Tryz.prog 20 #[.pointer (some ⟨a.gl, 0, none⟩), .pointer (some ⟨a.gp, 0, none⟩), .agg #[.slice none 0 0, .slice none 0 0, .int .i64 0], .agg #[.int .i64 5, .int .i64 n, .slice IA il ic, .slice FA fl fc]] w fun e w' => (∃ v, e = .returned v) ∧
      ∃ a' P' L' D', PSt w' a' P' L' D' ∧ R P' L' D' ∧ Fr (aT a) w w' ∧ AdN w a a' 2 := by
  obtain ⟨wA, hwA⟩ : ∃ wA, ((w.alloc (.cells #[.slice none 0 0, .slice none 0 0, .int .i64 0] 49)).alloc (.cells #[.int .i64 5, .int .i64 n, .slice IA il ic, .slice FA fl fc] 57)).alloc (.cells #[.slice none 0 0, .slice none 0 0, .int .i64 0] 49) = wA := ⟨_, rfl⟩
  have hbA : Below w.heap.size w wA := by rw [← hwA]; exact bl_alloc (bl_alloc (bl_alloc (Below.refl _ _) _) _) _
  have a0 : wA.heap[w.heap.size]? = some (.cells box0 49 (0, 0)) := by
    rw [← hwA]
    exact (Below.heap_alloc _ _ _ (by simp; omega)).trans ((Below.heap_alloc _ _ _ (by simp)).trans (alloc_new w _))
  have a1 : wA.heap[w.heap.size + 1]? = some (.cells #[.int .i64 5, .int .i64 n, .slice IA il ic, .slice FA fl fc] 57 (0, 0)) := by
    rw [← hwA]
    refine (Below.heap_alloc _ _ _ (by simp)).trans ?_
    have := alloc_new (w.alloc (.cells #[.slice none 0 0, .slice none 0 0, .int .i64 0] 49)) (.cells #[.int .i64 5, .int .i64 n, .slice IA il ic, .slice FA fl fc] 57)
    rw [World.size_alloc] at this
    exact this
  have a2 : wA.heap[w.heap.size + 1 + 1]? = some (.cells box0 49 (0, 0)) := by
    rw [← hwA]
    have := alloc_new ((w.alloc (.cells #[.slice none 0 0, .slice none 0 0, .int .i64 0] 49)).alloc (.cells #[.int .i64 5, .int .i64 n, .slice IA il ic, .slice FA fl fc] 57)) (.cells #[.slice none 0 0, .slice none 0 0, .int .i64 0] 49)
    rw [World.size_alloc, World.size_alloc] at this
    exact this
  have hPA := h.below hbA
  have HA : Aside (PSt w a P L D ∧ Below w.heap.size w wA ∧ wA.heap[w.heap.size]? = some (.cells box0 49 (0, 0)) ∧ wA.heap[w.heap.size + 1]? = some (.cells #[.int .i64 5, .int .i64 n, .slice IA il ic, .slice FA fl fc] 57 (0, 0)) ∧ wA.heap[w.heap.size + 1 + 1]? = some (.cells box0 49 (0, 0))) := ⟨h, hbA, a0, a1, a2⟩
  have HW := hid hwA
  clear hwA
  have HCf : Aside (∀ W, Below wA.heap.size wA W → Calls Tryz.prog 15 #[.pointer (some ⟨a.gp, 0, none⟩)] W fun e w' => e = .returned (.int .i64 0) ∧
      ∃ P' L' D', PSt w' a P' L' D' ∧ R P' L' D' ∧ PWf P' ∧ (∀ f ∈ P'.frames, f.dirty = false) ∧ Fr (aT a) wA w') := ⟨fun W hW => (hcall wA hbA W hW).mono fun e w' hr => by
    obtain ⟨e1, h4, P', L', D', h1, h2, h3, h5⟩ := hr
    exact ⟨e1, P', L', D', h1, h2, h3, h5, h4⟩⟩
  have HCd : Aside (∀ (W : World) (P' : Pl) (L' : Lg) (D' : Dk), PSt W a P' L' D' → PWf P' → (∀ f ∈ P'.frames, f.dirty = false) → Calls Tryz.prog 11 #[.pointer (some ⟨a.gp, 0, none⟩)] W fun e w' => ∃ A c, e = .returned (.slice A 0 c) ∧ Below W.heap.size W w') := ⟨fun W P' L' D' h1 h2 h3 => (cDirty_any a P' L' D' W h1 h2 hma).mono fun e w' hr => by
    obtain ⟨v2, ks2, rfl, hks2, hown2, hb2⟩ := hr
    rw [dirtyL_nil h2 (clean_dty h3)] at hown2
    obtain ⟨A2, n2, rfl⟩ := own_form_n hown2
    exact ⟨A2, n2, rfl, hb2⟩⟩
  have HEf : Aside (∀ args w, (callFunc 15 args).run Tryz.prog w = .ok (.enter 15 args) w) := ⟨enters_of Tryz.func15 (by kernel_rfl) rfl⟩
  have HEd : Aside (∀ args w, (callFunc 11 args).run Tryz.prog w = .ok (.enter 11 args) w) := ⟨enters_of Tryz.func11 (by kernel_rfl) rfl⟩
  obtain ⟨c0, c1, c2, -, -, -⟩ := box0_cells a0
  have tok1 : True := trivial
  clear h hbA a0 a1 a2 hPA hma hcall
  go_enter Tryz.func20, Tryz.ntmps20
  go_wp2_with fail
  rw [HW.out]
  clear HW
  go_region_law (first
    | (have _t := tok1
       (refine step_call1 (o := ⟨some 167, _, _, _, _, _⟩) 15 (by rfl) _ _ (by rfl) HEf.out (.pointer (some ⟨a.gp, 0, none⟩)) (by go_simp) (HCf.out _ ?_) ?_)
       · exact (by repeat (first | exact Below.refl _ _ | refine bl_drew ?_))
       rintro e w1 ⟨rfl, P', L', D', hP1, hK1, hO1, hC1, hF1⟩
       have S1 : Aside (PSt w1 a P' L' D' ∧ R P' L' D' ∧ (PWf P' ∧ (∀ f ∈ P'.frames, f.dirty = false)) ∧ Fr (aT a) wA w1) := ⟨hP1, hK1, ⟨hO1, hC1⟩, hF1⟩
       clear c0 c1 c2
       obtain ⟨c0, c1, c2, -, -, -⟩ := box0_cells (box_after HA.out.1 hF1 (Nat.le_refl _) HA.out.2.2.1)
       have tok2 : True := trivial
       clear hP1 hK1 hO1 hC1 hF1 tok1
       refine ⟨_, rfl, ?_⟩)
    | (have _t := tok2
       have hq1 := S1.out.2.2.1.1
       have hq2 := S1.out.2.2.1.2
       have hq3 := fun W hW => HCd.out W P' L' D' hW hq1 hq2
       (refine step_call1g (o := ⟨some 171, _, _, _, _, _⟩) 11 (by go_simp) _ _ (by rfl) HEd.out (.pointer (some ⟨a.gp, 0, none⟩)) (by go_simp) (hq3 _ ?_) ?_)
       · exact S1.out.1.below (by repeat (first | exact Below.refl _ _ | refine bl_drew ?_))
       rintro e w2 ⟨A2, n2, rfl, hb2⟩
       replace hb2 : Below w1.heap.size w1 w2 := ⟨hb2.os, hb2.tape, hb2.output, hb2.size, hb2.block⟩
       clear c0 c1 c2
       obtain ⟨c0, c1, c2, -, -, -⟩ := box0_cells ((hb2.block _ (by have := (Array.getElem?_eq_some_iff.1 HA.out.2.2.1).1; have := S1.out.2.2.2.size; omega)).trans (box_after HA.out.1 S1.out.2.2.2 (Nat.le_refl _) HA.out.2.2.1))
       obtain ⟨d0, d1, d2, f0, f1, f2⟩ := box0_cells ((hb2.block _ (by have := (Array.getElem?_eq_some_iff.1 HA.out.2.2.2.2).1; have := S1.out.2.2.2.size; omega)).trans (box_after HA.out.1 S1.out.2.2.2 (by omega) HA.out.2.2.2.2))
       have S2 := hid hb2
       clear hb2 tok2
       refine ⟨_, rfl, ?_⟩))
  all_goals
    go_wp2_with fail
    (try simp only [Exit.inBlock, Exit.then])
    refine bodyPost_ret (v := .tuple #[.agg #[.slice none 0 0, .slice none 0 0, .int .i64 0], .bool true]) ?_ rfl ⟨⟨_, rfl⟩, ?_⟩
    · rw [results_cell_tmp rfl]
      go_simp
    · refine (?_ : ∀ W, Fr (· = w.heap.size + 1 + 1) w2 W → ∃ a' P' L' D', PSt W a' P' L' D' ∧ R P' L' D' ∧ Fr (aT a) w W ∧ AdN w a a' 2) _ (by repeat (first | exact Fr.refl _ _ | refine fr_at ?_ _ _ | refine fr_new ?_ (by simp) _ | refine Fr.alloc ?_ _ | refine Fr.drew ?_))
      intro W hWf
      obtain ⟨x1, x2, x3⟩ := asks_end (k := 2) (g := w.heap.size + 1 + 1) HA.out.1 HA.out.2.1 S1.out.1 S1.out.2.2.2 (AdN.refl _ _ _) S2.out (by omega) HA.out.2.2.2.2 (by decide) (by decide) hWf
      exact ⟨a, P', L', D', x1, S1.out.2.1, x2, x3⟩

set_option maxRecDepth 100000 in
set_option maxHeartbeats 2000000 in
theorem asks_flushE (a : Ad) (P : Pl) (L : Lg) (D : Dk) (n : Int) (IA : Option Addr) (il ic : Nat) (FA : Option Addr) (fl fc : Nat) (w : World) (R : Pl → Lg → Dk → Prop) (h : PSt w a P L D)
    (hcall : ∀ W0, Below w.heap.size w W0 → ∀ W, Below W0.heap.size W0 W → Calls Tryz.prog 15 #[.pointer (some ⟨a.gp, 0, none⟩)] W fun e w' => ∃ er : Int, 0 < er ∧ e = .returned (.int .i64 er) ∧ Fr (aT a) W0 w' ∧ ∃ P' L' D', PSt w' a P' L' D' ∧ R P' L' D') :
    Calls Tryz.prog 20 #[.pointer (some ⟨a.gl, 0, none⟩), .pointer (some ⟨a.gp, 0, none⟩), .agg #[.slice none 0 0, .slice none 0 0, .int .i64 0], .agg #[.int .i64 5, .int .i64 n, .slice IA il ic, .slice FA fl fc]] w fun e w' => (∃ v, e = .returned v) ∧
      ∃ a' P' L' D', PSt w' a' P' L' D' ∧ R P' L' D' ∧ Fr (aT a) w w' ∧ AdN w a a' 2 := by
  obtain ⟨wA, hwA⟩ : ∃ wA, ((w.alloc (.cells #[.slice none 0 0, .slice none 0 0, .int .i64 0] 49)).alloc (.cells #[.int .i64 5, .int .i64 n, .slice IA il ic, .slice FA fl fc] 57)).alloc (.cells #[.slice none 0 0, .slice none 0 0, .int .i64 0] 49) = wA := ⟨_, rfl⟩
  have hbA : Below w.heap.size w wA := by rw [← hwA]; exact bl_alloc (bl_alloc (bl_alloc (Below.refl _ _) _) _) _
  have a0 : wA.heap[w.heap.size]? = some (.cells box0 49 (0, 0)) := by
    rw [← hwA]
    exact (Below.heap_alloc _ _ _ (by simp; omega)).trans ((Below.heap_alloc _ _ _ (by simp)).trans (alloc_new w _))
  have a1 : wA.heap[w.heap.size + 1]? = some (.cells #[.int .i64 5, .int .i64 n, .slice IA il ic, .slice FA fl fc] 57 (0, 0)) := by
    rw [← hwA]
    refine (Below.heap_alloc _ _ _ (by simp)).trans ?_
    have := alloc_new (w.alloc (.cells #[.slice none 0 0, .slice none 0 0, .int .i64 0] 49)) (.cells #[.int .i64 5, .int .i64 n, .slice IA il ic, .slice FA fl fc] 57)
    rw [World.size_alloc] at this
    exact this
  have a2 : wA.heap[w.heap.size + 1 + 1]? = some (.cells box0 49 (0, 0)) := by
    rw [← hwA]
    have := alloc_new ((w.alloc (.cells #[.slice none 0 0, .slice none 0 0, .int .i64 0] 49)).alloc (.cells #[.int .i64 5, .int .i64 n, .slice IA il ic, .slice FA fl fc] 57)) (.cells #[.slice none 0 0, .slice none 0 0, .int .i64 0] 49)
    rw [World.size_alloc, World.size_alloc] at this
    exact this
  have hPA := h.below hbA
  have HA : Aside (PSt w a P L D ∧ Below w.heap.size w wA ∧ wA.heap[w.heap.size]? = some (.cells box0 49 (0, 0)) ∧ wA.heap[w.heap.size + 1]? = some (.cells #[.int .i64 5, .int .i64 n, .slice IA il ic, .slice FA fl fc] 57 (0, 0)) ∧ wA.heap[w.heap.size + 1 + 1]? = some (.cells box0 49 (0, 0))) := ⟨h, hbA, a0, a1, a2⟩
  have HW := hid hwA
  clear hwA
  have HCf : Aside (∀ W, Below wA.heap.size wA W → Calls Tryz.prog 15 #[.pointer (some ⟨a.gp, 0, none⟩)] W fun e w' => ∃ m : Nat, e = .returned (.int .i64 (Int.ofNat (m + 1))) ∧ Fr (aT a) wA w' ∧ ∃ P' L' D', PSt w' a P' L' D' ∧ R P' L' D') := ⟨fun W hW => (hcall wA hbA W hW).mono fun e w' hr => by
    obtain ⟨er, hpos, e1, hrest⟩ := hr
    have e2 : er = Int.ofNat ((er - 1).toNat + 1) := by show er = (((er - 1).toNat + 1 : Nat) : Int); omega
    exact ⟨(er - 1).toNat, by rw [← e2]; exact e1, hrest⟩⟩
  have HEf : Aside (∀ args w, (callFunc 15 args).run Tryz.prog w = .ok (.enter 15 args) w) := ⟨enters_of Tryz.func15 (by kernel_rfl) rfl⟩
  obtain ⟨c0, c1, c2, -, -, -⟩ := box0_cells a0
  have tok1 : True := trivial
  clear h hbA a0 a1 a2 hPA hcall
  go_enter Tryz.func20, Tryz.ntmps20
  go_wp2_with fail
  rw [HW.out]
  clear HW
  first | (go_region_law (
    (have _t := tok1
     (refine step_call1 (o := ⟨some 167, _, _, _, _, _⟩) 15 (by rfl) _ _ (by rfl) HEf.out (.pointer (some ⟨a.gp, 0, none⟩)) (by go_simp) (HCf.out _ ?_) ?_)
     · exact (by repeat (first | exact Below.refl _ _ | refine bl_drew ?_))
     rintro e w1 ⟨m, rfl, hF1, P', L', D', hP1, hR1⟩
     have S1 : Aside (PSt w1 a P' L' D' ∧ R P' L' D' ∧ Fr (aT a) wA w1) := ⟨hP1, hR1, hF1⟩
     clear c0 c1 c2
     obtain ⟨c0, c1, c2, -, -, -⟩ := box0_cells (box_after HA.out.1 hF1 (Nat.le_refl _) HA.out.2.2.1)
     obtain ⟨d0, d1, d2, f0, f1, f2⟩ := box0_cells (box_after HA.out.1 hF1 (by omega) HA.out.2.2.2.2)
     have hl2 : w.heap.size + 1 + 1 < w1.heap.size := by have := (Array.getElem?_eq_some_iff.1 HA.out.2.2.2.2).1; have := hF1.size; omega
     have hm0 : ¬ ((m : Int) + 1 = 0) := by omega
     clear hP1 hR1 hF1 tok1
     refine ⟨_, rfl, ?_⟩))) | fail
  all_goals
    go_wp2_with fail
    (try simp only [Exit.inBlock, Exit.then])
    refine bodyPost_ret (v := .tuple #[.agg #[.slice none 0 0, .slice none 0 0, .int .i64 0], .bool false]) ?_ rfl ⟨⟨_, rfl⟩, ?_⟩
    · rw [results_cell_tmp rfl]
      go_simp
    · refine (?_ : ∀ W, Fr (· = w.heap.size + 1 + 1) w1 W → ∃ a' P' L' D', PSt W a' P' L' D' ∧ R P' L' D' ∧ Fr (aT a) w W ∧ AdN w a a' 2) _ (by repeat (first | exact Fr.refl _ _ | refine fr_at ?_ _ _ | refine fr_new ?_ (by simp) _ | refine Fr.alloc ?_ _ | refine Fr.drew ?_))
      intro W hWf
      obtain ⟨x1, x2, x3⟩ := asks_end (k := 2) (g := w.heap.size + 1 + 1) HA.out.1 HA.out.2.1 S1.out.1 S1.out.2.2 (AdN.refl _ _ _) (Below.refl _ _) (by omega) HA.out.2.2.2.2 (by decide) (by decide) hWf
      exact ⟨a, P', L', D', x1, S1.out.2.1, x2, x3⟩

end Go.Proofs.YthfidlhefkjpdaaGreatDoor
