/- asks: one call, whatever the pool's call leaves. -/
import Derived.Test.YthfidlhefkjpdaaGreatDoorTbp
import Derived.Test.YthfidlhefkjpdaaGreatDoorTbr
import Derived.Test.YthfidlhefkjpdaaGreatDoorTbt
namespace Go.Proofs.YthfidlhefkjpdaaGreatDoor
open Go.RowKit Go.Maps


theorem below_step {n : Nat} {w X w' : World} (h1 : Below n w X) (h2 : Below X.heap.size X w') (hn : n ≤ w.heap.size) : Below n w w' := h1.trans (h2.mono (Nat.le_trans hn h1.size))
theorem rd_marked_at (w : World) (bs : List UInt8) (k g : Nat) (hg : g = w.heap.size) : RdB (w.alloc (.cells (cellsB bs) 5 (k, k + 1))) (some ⟨g, 0, none⟩) bs.length bs := by
  subst hg
  refine ⟨rfl, fun _ => ⟨w.heap.size, 0, rfl, by simp, fun i hi => ?_⟩⟩
  unfold World.cell?
  rw [Nat.zero_add]
  simp only [alloc_new]
  simp [cellsB, u8, hi]
theorem PSt.guard {w w2 : World} {a : Ad} {P : Pl} {L : Lg} {D : Dk} {v : Value} (h : PSt w a P L D) (hb : Below w.heap.size w w2) (hv : ∀ b, v.ownBlock = some b → w.heap.size ≤ b ∧ b < w2.heap.size) : PSt w2 { a with ov := v } P L D := by
  have h1 := h.below hb
  refine ⟨h1.ld, ⟨h1.pool.blk, h1.pool.row, h1.pool.blen, fun i hi => ?_, h1.pool.nodup, h1.pool.atm, h1.pool.pin, h1.pool.lp, h1.pool.la, h1.pool.ln, h1.pool.ne, fun x hx => (hv x hx).2⟩, h1.lb, h1.lg⟩
  obtain ⟨f1, bv, f2, f3, f4⟩ := h.pool.each i hi
  refine ⟨f1, bv, (hb.block _ f2.lt).trans f2, own_fr f3 (Fr.of_below hb (fun _ => False)) (fun _ _ h => h), fun x hx => ⟨(f4 x hx).1, fun e => ?_⟩⟩
  have k1 := (f3.lt x hx).2
  have k2 := (hv x e).1
  omega
theorem PSt.unguard {w : World} {a : Ad} {P : Pl} {L : Lg} {D : Dk} {v : Value} (h : PSt w a P L D) (hv : v.ownBlock = none) : PSt w { a with ov := v } P L D := by
  refine ⟨h.ld, ⟨h.pool.blk, h.pool.row, h.pool.blen, fun i hi => ?_, h.pool.nodup, h.pool.atm, h.pool.pin, h.pool.lp, h.pool.la, h.pool.ln, h.pool.ne, fun x hx => by rw [hv] at hx; cases hx⟩, h.lb, h.lg⟩
  obtain ⟨f1, bv, f2, f3, f4⟩ := h.pool.each i hi
  exact ⟨f1, bv, f2, f3, fun x hx => ⟨(f4 x hx).1, by show v.ownBlock ≠ _; rw [hv]; exact fun e => by cases e⟩⟩
theorem PSt.waste {w w' : World} {a : Ad} {P : Pl} {L : Lg} {D : Dk} {T : Nat → Prop} (h : PSt w a P L D) (hf : Fr T w w') (hT : ∀ b, aT a b → ¬ T b) (hF : ∀ b, Ty w b 76 → ¬ T b) (hu : ∀ b, Ty w b 5 → a.ov.ownBlock ≠ some b → ¬ T b) : PSt w' a P L D :=
  ⟨h.ld.fr hf (fun b hb => hT b (.inl hb)) hF, h.pool.fr hf (fun b hb => hT b (.inr hb)) (fun b hb _ h2 => hu b hb h2), h.lb, h.lg⟩
theorem AdN.reov {w w3 : World} {a a1 a' : Ad} {v u : Value} {j k : Nat} (h : AdN w a a1 j) (hu : u = a.ov) (hz : w.heap.size ≤ w3.heap.size) (h2 : AdN w3 { a1 with ov := v } a' k) : AdN w a { a' with ov := u } (j + k) :=
  ⟨h2.base.trans h.base, h2.gl.trans h.gl, h2.gd.trans h.gd, h2.gs.trans h.gs, h2.gm.trans h.gm, h2.pb.trans h.pb, h2.gp.trans h.gp, h2.ga.trans h.ga, h2.gn.trans h.gn, h.sv.trans h2.sv hz, h.rv.trans h2.rv hz, h.fv.trans h2.fv hz, fun x hx => by
    rcases h2.bk x hx with q | q
    · exact h.bk x q
    · exact .inr (by omega), by have h1 := h.ma; have h3 := h2.ma; dsimp only at h3; show a'.ma ≤ _; omega, by have h1 := h.mn; have h3 := h2.mn; dsimp only at h3; show a'.mn ≤ _; omega, hu⟩

set_option maxRecDepth 100000 in
set_option maxHeartbeats 2000000 in
theorem asks_pin (a : Ad) (P : Pl) (L : Lg) (D : Dk) (n : Int) (IA : Option Addr) (il ic : Nat) (FA : Option Addr) (fl fc : Nat) (w : World) (R : Pl → Lg → Dk → Prop) (h : PSt w a P L D)
    (hcall : ∀ W, Below w.heap.size w W → Calls Tryz.prog 33 #[.pointer (some ⟨a.gp, 0, none⟩), .int .i64 n] W fun e w' => (∃ v, e = .returned (.int .i64 v)) ∧ Fr (aT a) W w' ∧ ∃ a' P' L' D', AdN W a a' 2 ∧ PSt w' a' P' L' D' ∧ R P' L' D') :
    Calls Tryz.prog 20 #[.pointer (some ⟨a.gl, 0, none⟩), .pointer (some ⟨a.gp, 0, none⟩), .agg #[.slice none 0 0, .slice none 0 0, .int .i64 0], .agg #[.int .i64 3, .int .i64 n, .slice IA il ic, .slice FA fl fc]] w fun e w' => (∃ v, e = .returned v) ∧
      ∃ a' P' L' D', PSt w' a' P' L' D' ∧ R P' L' D' ∧ Fr (aT a) w w' ∧ AdN w a a' 2 := by
  obtain ⟨wA, hwA⟩ : ∃ wA, ((w.alloc (.cells #[.slice none 0 0, .slice none 0 0, .int .i64 0] 49)).alloc (.cells #[.int .i64 3, .int .i64 n, .slice IA il ic, .slice FA fl fc] 57)).alloc (.cells #[.slice none 0 0, .slice none 0 0, .int .i64 0] 49) = wA := ⟨_, rfl⟩
  have hbA : Below w.heap.size w wA := by rw [← hwA]; exact bl_alloc (bl_alloc (bl_alloc (Below.refl _ _) _) _) _
  have a0 : wA.heap[w.heap.size]? = some (.cells box0 49 (0, 0)) := by
    rw [← hwA]
    exact (Below.heap_alloc _ _ _ (by simp; omega)).trans ((Below.heap_alloc _ _ _ (by simp)).trans (alloc_new w _))
  have a1 : wA.heap[w.heap.size + 1]? = some (.cells #[.int .i64 3, .int .i64 n, .slice IA il ic, .slice FA fl fc] 57 (0, 0)) := by
    rw [← hwA]
    refine (Below.heap_alloc _ _ _ (by simp)).trans ?_
    have := alloc_new (w.alloc (.cells #[.slice none 0 0, .slice none 0 0, .int .i64 0] 49)) (.cells #[.int .i64 3, .int .i64 n, .slice IA il ic, .slice FA fl fc] 57)
    rw [World.size_alloc] at this
    exact this
  have a2 : wA.heap[w.heap.size + 1 + 1]? = some (.cells box0 49 (0, 0)) := by
    rw [← hwA]
    have := alloc_new ((w.alloc (.cells #[.slice none 0 0, .slice none 0 0, .int .i64 0] 49)).alloc (.cells #[.int .i64 3, .int .i64 n, .slice IA il ic, .slice FA fl fc] 57)) (.cells #[.slice none 0 0, .slice none 0 0, .int .i64 0] 49)
    rw [World.size_alloc, World.size_alloc] at this
    exact this
  have hPA := h.below hbA
  have HA : Aside (PSt w a P L D ∧ Below w.heap.size w wA ∧ wA.heap[w.heap.size]? = some (.cells box0 49 (0, 0)) ∧ wA.heap[w.heap.size + 1]? = some (.cells #[.int .i64 3, .int .i64 n, .slice IA il ic, .slice FA fl fc] 57 (0, 0)) ∧ wA.heap[w.heap.size + 1 + 1]? = some (.cells box0 49 (0, 0))) := ⟨h, hbA, a0, a1, a2⟩
  have HW := hid hwA
  clear hwA
  have hc := hcall wA hbA
  clear h hbA a0 a1 a2 hPA hcall
  go_enter Tryz.func20, Tryz.ntmps20
  go_wp2_with fail
  rw [HW.out]
  clear HW
  refine hc.mono ?_
  rintro e w1 ⟨⟨v, rfl⟩, hF1, a', P', L', D', hA1, hP1, hR1⟩
  have S1 : Aside (PSt w1 a' P' L' D' ∧ R P' L' D' ∧ True ∧ Fr (aT a) wA w1 ∧ AdN wA a a' 2) := ⟨hP1, hR1, trivial, hF1, hA1⟩
  obtain ⟨c0, c1, c2, -, -, -⟩ := box0_cells (box_after HA.out.1 hF1 (Nat.le_refl _) HA.out.2.2.1)
  obtain ⟨d0, d1⟩ := op_cells (box_after HA.out.1 hF1 (by omega) HA.out.2.2.2.1)
  clear hP1 hR1 hF1 hA1 hc
  have hr := rpin_empty n w1
  go_wp2_with fail
  refine hr.mono ?_
  rintro e w2 ⟨rfl, hb2⟩
  clear c0 c1 c2 d0 d1
  obtain ⟨c0, c1, c2, f0, f1, f2⟩ := box0_cells ((hb2.block _ (by have := (Array.getElem?_eq_some_iff.1 HA.out.2.2.2.2).1; have := S1.out.2.2.2.1.size; omega)).trans (box_after HA.out.1 S1.out.2.2.2.1 (by omega) HA.out.2.2.2.2))
  have hl2 : w.heap.size + 1 + 1 < w2.heap.size := by have := (Array.getElem?_eq_some_iff.1 HA.out.2.2.2.2).1; have := S1.out.2.2.2.1.size; have := hb2.size; omega
  have S2 := hid hb2
  clear hb2 hr
  go_wp2_with fail
  (try simp only [Exit.inBlock, Exit.then])
  refine bodyPost_ret (v := .tuple #[.agg #[.slice none 0 0, .slice none 0 0, .int .i64 0], .bool (v == 1)]) ?_ rfl ⟨⟨_, rfl⟩, ?_⟩
  · rw [results_cell_tmp rfl]
    go_simp
  · refine (?_ : ∀ W, Fr (· = w.heap.size + 1 + 1) w2 W → ∃ a' P' L' D', PSt W a' P' L' D' ∧ R P' L' D' ∧ Fr (aT a) w W ∧ AdN w a a' 2) _ (by repeat (first | exact Fr.refl _ _ | refine fr_at ?_ _ _ | refine fr_new ?_ (by simp) _ | refine Fr.alloc ?_ _ | refine Fr.drew ?_))
    intro W hWf
    obtain ⟨x1, x2, x3⟩ := asks_end (g := w.heap.size + 1 + 1) HA.out.1 HA.out.2.1 S1.out.1 S1.out.2.2.2.1 S1.out.2.2.2.2 S2.out (by omega) HA.out.2.2.2.2 (by decide) (by decide) hWf
    exact ⟨a', P', L', D', x1, S1.out.2.1, x2, x3⟩

set_option maxRecDepth 100000 in
set_option maxHeartbeats 2000000 in
theorem asks_unpin (a : Ad) (P : Pl) (L : Lg) (D : Dk) (n : Int) (IA : Option Addr) (il ic : Nat) (FA : Option Addr) (fl fc : Nat) (w : World) (R : Pl → Lg → Dk → Prop) (h : PSt w a P L D)
    (hcall : ∀ W, Below w.heap.size w W → Calls Tryz.prog 35 #[.pointer (some ⟨a.gp, 0, none⟩), .int .i64 n] W fun e w' => (∃ v, e = .returned (.int .i64 v)) ∧ Fr (aT a) W w' ∧ ∃ a' P' L' D', AdN W a a' 2 ∧ PSt w' a' P' L' D' ∧ R P' L' D') :
    Calls Tryz.prog 20 #[.pointer (some ⟨a.gl, 0, none⟩), .pointer (some ⟨a.gp, 0, none⟩), .agg #[.slice none 0 0, .slice none 0 0, .int .i64 0], .agg #[.int .i64 4, .int .i64 n, .slice IA il ic, .slice FA fl fc]] w fun e w' => (∃ v, e = .returned v) ∧
      ∃ a' P' L' D', PSt w' a' P' L' D' ∧ R P' L' D' ∧ Fr (aT a) w w' ∧ AdN w a a' 2 := by
  obtain ⟨wA, hwA⟩ : ∃ wA, ((w.alloc (.cells #[.slice none 0 0, .slice none 0 0, .int .i64 0] 49)).alloc (.cells #[.int .i64 4, .int .i64 n, .slice IA il ic, .slice FA fl fc] 57)).alloc (.cells #[.slice none 0 0, .slice none 0 0, .int .i64 0] 49) = wA := ⟨_, rfl⟩
  have hbA : Below w.heap.size w wA := by rw [← hwA]; exact bl_alloc (bl_alloc (bl_alloc (Below.refl _ _) _) _) _
  have a0 : wA.heap[w.heap.size]? = some (.cells box0 49 (0, 0)) := by
    rw [← hwA]
    exact (Below.heap_alloc _ _ _ (by simp; omega)).trans ((Below.heap_alloc _ _ _ (by simp)).trans (alloc_new w _))
  have a1 : wA.heap[w.heap.size + 1]? = some (.cells #[.int .i64 4, .int .i64 n, .slice IA il ic, .slice FA fl fc] 57 (0, 0)) := by
    rw [← hwA]
    refine (Below.heap_alloc _ _ _ (by simp)).trans ?_
    have := alloc_new (w.alloc (.cells #[.slice none 0 0, .slice none 0 0, .int .i64 0] 49)) (.cells #[.int .i64 4, .int .i64 n, .slice IA il ic, .slice FA fl fc] 57)
    rw [World.size_alloc] at this
    exact this
  have a2 : wA.heap[w.heap.size + 1 + 1]? = some (.cells box0 49 (0, 0)) := by
    rw [← hwA]
    have := alloc_new ((w.alloc (.cells #[.slice none 0 0, .slice none 0 0, .int .i64 0] 49)).alloc (.cells #[.int .i64 4, .int .i64 n, .slice IA il ic, .slice FA fl fc] 57)) (.cells #[.slice none 0 0, .slice none 0 0, .int .i64 0] 49)
    rw [World.size_alloc, World.size_alloc] at this
    exact this
  have hPA := h.below hbA
  have HA : Aside (PSt w a P L D ∧ Below w.heap.size w wA ∧ wA.heap[w.heap.size]? = some (.cells box0 49 (0, 0)) ∧ wA.heap[w.heap.size + 1]? = some (.cells #[.int .i64 4, .int .i64 n, .slice IA il ic, .slice FA fl fc] 57 (0, 0)) ∧ wA.heap[w.heap.size + 1 + 1]? = some (.cells box0 49 (0, 0))) := ⟨h, hbA, a0, a1, a2⟩
  have HW := hid hwA
  clear hwA
  have hc := hcall wA hbA
  clear h hbA a0 a1 a2 hPA hcall
  go_enter Tryz.func20, Tryz.ntmps20
  go_wp2_with fail
  rw [HW.out]
  clear HW
  refine hc.mono ?_
  rintro e w1 ⟨⟨v, rfl⟩, hF1, a', P', L', D', hA1, hP1, hR1⟩
  have S1 : Aside (PSt w1 a' P' L' D' ∧ R P' L' D' ∧ True ∧ Fr (aT a) wA w1 ∧ AdN wA a a' 2) := ⟨hP1, hR1, trivial, hF1, hA1⟩
  obtain ⟨c0, c1, c2, -, -, -⟩ := box0_cells (box_after HA.out.1 hF1 (Nat.le_refl _) HA.out.2.2.1)
  obtain ⟨d0, d1⟩ := op_cells (box_after HA.out.1 hF1 (by omega) HA.out.2.2.2.1)
  clear hP1 hR1 hF1 hA1 hc
  have hr := runpin_empty n w1
  go_wp2_with fail
  refine hr.mono ?_
  rintro e w2 ⟨rfl, hb2⟩
  clear c0 c1 c2 d0 d1
  obtain ⟨c0, c1, c2, f0, f1, f2⟩ := box0_cells ((hb2.block _ (by have := (Array.getElem?_eq_some_iff.1 HA.out.2.2.2.2).1; have := S1.out.2.2.2.1.size; omega)).trans (box_after HA.out.1 S1.out.2.2.2.1 (by omega) HA.out.2.2.2.2))
  have hl2 : w.heap.size + 1 + 1 < w2.heap.size := by have := (Array.getElem?_eq_some_iff.1 HA.out.2.2.2.2).1; have := S1.out.2.2.2.1.size; have := hb2.size; omega
  have S2 := hid hb2
  clear hb2 hr
  go_wp2_with fail
  (try simp only [Exit.inBlock, Exit.then])
  refine bodyPost_ret (v := .tuple #[.agg #[.slice none 0 0, .slice none 0 0, .int .i64 0], .bool (v == 101)]) ?_ rfl ⟨⟨_, rfl⟩, ?_⟩
  · rw [results_cell_tmp rfl]
    go_simp
  · refine (?_ : ∀ W, Fr (· = w.heap.size + 1 + 1) w2 W → ∃ a' P' L' D', PSt W a' P' L' D' ∧ R P' L' D' ∧ Fr (aT a) w W ∧ AdN w a a' 2) _ (by repeat (first | exact Fr.refl _ _ | refine fr_at ?_ _ _ | refine fr_new ?_ (by simp) _ | refine Fr.alloc ?_ _ | refine Fr.drew ?_))
    intro W hWf
    obtain ⟨x1, x2, x3⟩ := asks_end (g := w.heap.size + 1 + 1) HA.out.1 HA.out.2.1 S1.out.1 S1.out.2.2.2.1 S1.out.2.2.2.2 S2.out (by omega) HA.out.2.2.2.2 (by decide) (by decide) hWf
    exact ⟨a', P', L', D', x1, S1.out.2.1, x2, x3⟩

set_option maxRecDepth 100000 in
set_option maxHeartbeats 2000000 in
theorem asks_none (a : Ad) (P : Pl) (L : Lg) (D : Dk) (kk n : Int) (IA : Option Addr) (il ic : Nat) (FA : Option Addr) (fl fc : Nat) (w : World) (R : Pl → Lg → Dk → Prop) (h : PSt w a P L D)
    (hR : R P L D) (hk1 : (kk == 1) = false) (hk2 : (kk == 2) = false) (hk3 : (kk == 3) = false) (hk4 : (kk == 4) = false) (hk5 : (kk == 5) = false) (hk6 : (kk == 6) = false) :
    Calls Tryz.prog 20 #[.pointer (some ⟨a.gl, 0, none⟩), .pointer (some ⟨a.gp, 0, none⟩), .agg #[.slice none 0 0, .slice none 0 0, .int .i64 0], .agg #[.int .i64 kk, .int .i64 n, .slice IA il ic, .slice FA fl fc]] w fun e w' => (∃ v, e = .returned v) ∧
      ∃ a' P' L' D', PSt w' a' P' L' D' ∧ R P' L' D' ∧ Fr (aT a) w w' ∧ AdN w a a' 2 := by
  obtain ⟨wA, hwA⟩ : ∃ wA, ((w.alloc (.cells #[.slice none 0 0, .slice none 0 0, .int .i64 0] 49)).alloc (.cells #[.int .i64 kk, .int .i64 n, .slice IA il ic, .slice FA fl fc] 57)).alloc (.cells #[.slice none 0 0, .slice none 0 0, .int .i64 0] 49) = wA := ⟨_, rfl⟩
  have hbA : Below w.heap.size w wA := by rw [← hwA]; exact bl_alloc (bl_alloc (bl_alloc (Below.refl _ _) _) _) _
  have a0 : wA.heap[w.heap.size]? = some (.cells box0 49 (0, 0)) := by
    rw [← hwA]
    exact (Below.heap_alloc _ _ _ (by simp; omega)).trans ((Below.heap_alloc _ _ _ (by simp)).trans (alloc_new w _))
  have a1 : wA.heap[w.heap.size + 1]? = some (.cells #[.int .i64 kk, .int .i64 n, .slice IA il ic, .slice FA fl fc] 57 (0, 0)) := by
    rw [← hwA]
    refine (Below.heap_alloc _ _ _ (by simp)).trans ?_
    have := alloc_new (w.alloc (.cells #[.slice none 0 0, .slice none 0 0, .int .i64 0] 49)) (.cells #[.int .i64 kk, .int .i64 n, .slice IA il ic, .slice FA fl fc] 57)
    rw [World.size_alloc] at this
    exact this
  have a2 : wA.heap[w.heap.size + 1 + 1]? = some (.cells box0 49 (0, 0)) := by
    rw [← hwA]
    have := alloc_new ((w.alloc (.cells #[.slice none 0 0, .slice none 0 0, .int .i64 0] 49)).alloc (.cells #[.int .i64 kk, .int .i64 n, .slice IA il ic, .slice FA fl fc] 57)) (.cells #[.slice none 0 0, .slice none 0 0, .int .i64 0] 49)
    rw [World.size_alloc, World.size_alloc] at this
    exact this
  have hPA := h.below hbA
  have HA : Aside (PSt w a P L D ∧ Below w.heap.size w wA ∧ wA.heap[w.heap.size]? = some (.cells box0 49 (0, 0)) ∧ wA.heap[w.heap.size + 1]? = some (.cells #[.int .i64 kk, .int .i64 n, .slice IA il ic, .slice FA fl fc] 57 (0, 0)) ∧ wA.heap[w.heap.size + 1 + 1]? = some (.cells box0 49 (0, 0))) := ⟨h, hbA, a0, a1, a2⟩
  have HW := hid hwA
  clear hwA
  have HR := hid hR
  obtain ⟨c0, c1, c2, -, -, -⟩ := box0_cells a0
  obtain ⟨d0, d1, d2, f0, f1, f2⟩ := box0_cells a2
  obtain ⟨o0, o1⟩ := op_cells a1
  have hl2 : w.heap.size + 1 + 1 < wA.heap.size := (Array.getElem?_eq_some_iff.1 a2).1
  clear h hbA a0 a1 a2 hPA hR
  go_enter Tryz.func20, Tryz.ntmps20
  go_wp2_with fail
  rw [HW.out]
  clear HW
  go_wp2_with fail
  (try simp only [Exit.inBlock, Exit.then])
  refine bodyPost_ret (v := .tuple #[.agg #[.slice none 0 0, .slice none 0 0, .int .i64 0], .bool true]) ?_ rfl ⟨⟨_, rfl⟩, ?_⟩
  · rw [results_cell_tmp rfl]
    go_simp
  · refine (?_ : ∀ W, Fr (· = w.heap.size + 1 + 1) wA W → ∃ a' P' L' D', PSt W a' P' L' D' ∧ R P' L' D' ∧ Fr (aT a) w W ∧ AdN w a a' 2) _ (by repeat (first | exact Fr.refl _ _ | refine fr_at ?_ _ _ | refine fr_new ?_ (by simp) _ | refine Fr.alloc ?_ _ | refine Fr.drew ?_))
    intro W hWf
    obtain ⟨x1, x2, x3⟩ := asks_end (k := 2) (w1 := wA) (w2 := wA) (g := w.heap.size + 1 + 1) HA.out.1 HA.out.2.1 (HA.out.1.below HA.out.2.1) (Fr.refl _ _) (AdN.refl _ _ _) (Below.refl _ _) (by omega) HA.out.2.2.2.2 (by decide) (by decide) hWf
    exact ⟨a, P, L, D, x1, HR.out, x2, x3⟩

end Go.Proofs.YthfidlhefkjpdaaGreatDoor
