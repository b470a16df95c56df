/- skeinlaw10.asks where the reference's pool holds nothing: Pin, Unpin, the pool's flush, the log's. -/
import Derived.Test.YthfidlhefkjpdaaGreatDoorTbn
import Derived.Test.YthfidlhefkjpdaaGreatDoorTad
namespace Go.Proofs.YthfidlhefkjpdaaGreatDoor
open Go.RowKit Go.Maps

/-- Pin, its answer not asked. -/
theorem cpin_kp (a : Ad) (P : Pl) (L : Lg) (D : Dk) (n : Int) (m : Nat) (w : World) (h : PSt w a P L D) (hi : Inv P L D) (hp : PinsOk P m) (hm : m ≤ 4398046511104) (hma : a.ma ≤ 1099511627776) (hmn : a.mn ≤ 1099511627776) (hst : D.steps + 20000 ≤ 1152921504606846976) :
    Calls Tryz.prog 33 #[.pointer (some ⟨a.gp, 0, none⟩), .int .i64 n] w fun e w' => (∃ v, e = .returned (.int .i64 v)) ∧
      ∃ a' P' L' D', PSt w' a' P' L' D' ∧ Kp P P' L L' D D' ∧ PinsOk P' (m + 1) ∧ Fr (aT a) w w' ∧ AdN w a a' 2 := by
  rcases cpin_all a P L D n w h hi hma hmn hst (fun k => by have := hp.range k; omega) with ⟨N, rfl, hN, hc⟩ | ⟨e0, he, hc⟩
  · refine hc.mono ?_
    rintro e w' ⟨rfl, a', P', L', D', h1, h2, h3, h4, h5⟩
    refine ⟨⟨_, rfl⟩, a', _, L', D', h1, (Kp.of_same hi h2 h3).pinned _, fun k hk => ?_, h4, h5⟩
    show 0 ≤ k ∧ k < (P'.count : Int) ∧ 1 ≤ (if k = (N : Int) then some ((P.pins N).getD 0 + 1) else P.pins k).getD 0 ∧ (if k = (N : Int) then some ((P.pins N).getD 0 + 1) else P.pins k).getD 0 ≤ ((m + 1 : Nat) : Int)
    rw [h3.stay.count]
    by_cases hkN : k = (N : Int)
    · rw [if_pos hkN]
      have := hp.range (N : Int)
      simp only [Option.getD_some]
      omega
    · replace hk : (if k = (N : Int) then some ((P.pins N).getD 0 + 1) else P.pins k).isSome = true := hk
      rw [if_neg hkN] at hk ⊢
      have := hp k hk
      omega
  · refine hc.mono ?_
    rintro e w' ⟨rfl, P', h1, h2, h3, h4⟩
    refine ⟨⟨_, rfl⟩, a, P', L, D, h1, Kp.of_same hi h2 h3, fun k hk => ?_, h4, AdN.refl _ _ _⟩
    rw [h3.pins] at hk ⊢
    rw [h3.stay.count]
    have := hp k hk
    omega

/-- The pool's flush. -/
theorem cflush_kp (a : Ad) (P : Pl) (L : Lg) (D : Dk) (m : Nat) (w : World) (h : PSt w a P L D) (hi : Inv P L D) (hp : PinsOk P m) (hma : a.ma ≤ 1099511627776) (hst : D.steps + 600000 ≤ 1152921504606846976) :
    Calls Tryz.prog 15 #[.pointer (some ⟨a.gp, 0, none⟩)] w fun e w' => e = .returned (.int .i64 0) ∧
      ∃ P' L' D', PSt w' a P' L' D' ∧ Flushed P P' L L' D D' ∧ PinsOk P' m ∧ Fr (aT a) w w' := by
  obtain ⟨ks, hks, -, -⟩ := h.pool.atm.keys Tryz.underlying3
  replace hks := keys_atm hks
  have hf := flush_law hi hks hst
  refine (cflush_any a P L D ks w h hi.ok hi.wf hks hma hi.log hst).mono ?_
  rintro e w' ⟨rfl, h1, h2⟩
  refine ⟨rfl, _, _, _, h1, hf, fun k hk => ?_, h2⟩
  rw [hf.pins] at hk ⊢
  rw [hf.count]
  exact hp k hk

theorem clean_dty {P : Pl} (hc : ∀ f ∈ P.frames, f.dirty = false) (k : Int) : dty P k = none := by
  unfold dty frOf
  cases ha : P.atm k with
  | none => rfl
  | some i =>
    simp only [Option.bind_some]
    cases hf : P.frames[i]? with
    | none => rfl
    | some f =>
      simp only
      rw [if_neg (by rw [hc f (List.mem_of_getElem? hf)]; simp)]

/-- The boxes of a call of asks stand; its pool's calls have left the pool good. -/
theorem asks_end {w wA w1 w2 w' : World} {a a' : Ad} {P P' : Pl} {L L' : Lg} {D D' : Dk} {k : Nat} {cs : Array Value} {t : TypeId} {g : Nat} (h : PSt w a P L D) (hbA : Below w.heap.size w wA) (hP1 : PSt w1 a' P' L' D') (hF1 : Fr (aT a) wA w1) (hA1 : AdN wA a a' k)
    (hb2 : Below w1.heap.size w1 w2) (hg : w.heap.size ≤ g) (hg2 : wA.heap[g]? = some (.cells cs t (0, 0))) (ht1 : t ≠ 76) (ht2 : t ≠ 5) (hf : Fr (· = g) w2 w') : PSt w' a' P' L' D' ∧ Fr (aT a) w w' ∧ AdN w a a' k := by
  have hgl := (Array.getElem?_eq_some_iff.1 hg2).1
  have hna : ¬ aT a g := fun hh => by have := h.lt hh; omega
  have hz1 := hF1.size
  have hblk : w2.heap[g]? = some (.cells cs t (0, 0)) := (hb2.block g (by omega)).trans ((hF1.block g hgl hna).trans hg2)
  have hty : Ty w2 g t := ⟨_, _, hblk⟩
  refine ⟨(hP1.below hb2).apart_fr hf (fun b hb e => ?_) (fun b hb e => by subst e; exact hb.ne hty (Ne.symm ht1)) (fun b hb e => by subst e; exact hb.ne hty (Ne.symm ht2)), ?_, ?_⟩
  · have e' : b = g := e
    exact hna (hA1.foot g hgl (by rw [← e']; exact hb))
  · have h1 := ((Fr.of_below hbA (aT a)).trans hF1 (fun _ _ h => h)).trans (Fr.of_below hb2 (aT a)) (fun _ _ h => h)
    exact h1.trans hf (fun b hb e => by have e' : b = g := e; omega)
  · exact ((AdN.refl w a 0).trans hA1 hbA.size).mono (by omega)

theorem box_after {w wA w1 : World} {a : Ad} {P : Pl} {L : Lg} {D : Dk} {g : Nat} {o : Obj} (h : PSt w a P L D) (hF : Fr (aT a) wA w1) (hg : w.heap.size ≤ g) (ho : wA.heap[g]? = some o) : w1.heap[g]? = some o :=
  (hF.block g (Array.getElem?_eq_some_iff.1 ho).1 (fun hh => by have := h.lt hh; omega)).trans ho

theorem op_cells {w : World} {g : Nat} {t : TypeId} {k n : Int} {v3 v4 : Value} (h : w.heap[g]? = some (.cells #[.int .i64 k, .int .i64 n, v3, v4] t (0, 0))) :
    w.cell? ⟨g, 0, none⟩ = some (.int .i64 k) ∧ w.cell? ⟨g, 1, none⟩ = some (.int .i64 n) := by
  constructor <;> (unfold World.cell?; rw [h]; rfl)

theorem fr_at {a w : World} {g : Nat} (h : Fr (· = g) a w) (o : Nat) (u : Value) : Fr (· = g) a (w.setCell ⟨g, o, none⟩ u) := h.set (p := ⟨g, o, none⟩) (.inl rfl) u
theorem fr_new {a w : World} {T : Nat → Prop} {p : Addr} (h : Fr T a w) (hp : a.heap.size ≤ p.block) (u : Value) : Fr T a (w.setCell p u) := h.set (.inr hp) u

section
variable {P : Program} {ops : Array Oper} {o : Oper} {a : Act} {w : World} {K : Act → World → Prop} {Q : Exit → Act → World → Prop} {E : Prop}
/-- A call of a Go function of one argument as a guarded step of a region that draws. -/
theorem step_call1g (f : FuncId) (hw : Region.wanted o (yielded ops a.tmps) = true) (x : Operand) (ts : Array TypeId) (ho : o.op = .call { callee := .value (.func f), args := #[x], argTypes := ts })
    (eF : ∀ args w, (callFunc f args).run P w = .ok (.enter f args) w) (v : Value) (hv : a.eval x = v) {R : Ending → World → Prop} (hc : Calls P f #[v] w R)
    (h : ∀ e w', R e w' → ∃ v, e = .returned v ∧ K (a.put o.dst v) w') : if Region.wanted o (yielded ops a.tmps) = true then Oper.wp P o a w K Q else E := by
  rw [if_pos hw]
  have e : (execOp a.eval o).run P w = .ok (.enter f #[v]) w := by
    unfold execOp
    simp only [ho, resolve, Sem.run_bind]
    have : (Deferred.ofValue (a.eval (Operand.func f)) (#[x].map a.eval)).run P w = .ok { target := .fn (.func f) #[], args := #[v] } w := by
      rw [show (#[x].map a.eval) = #[v] by simp [hv]]
      simp [Act.eval, Deferred.ofValue]
    rw [this]
    simp [invoke, eF]
  unfold Oper.wp
  rw [e, Oper.upon_enter]
  exact hc.mono fun e w' hr => by
    obtain ⟨v, rfl, hk⟩ := h e w' hr
    exact hk
end

set_option maxRecDepth 100000 in
set_option maxHeartbeats 2000000 in
theorem asks_any (a : Ad) (P : Pl) (L : Lg) (D : Dk) (k n : Int) (m : Nat) (w : World) (h : PSt w a P L D) (hi : Inv P L D) (hp : PinsOk P m) (hm : m ≤ 4398046511104) (hma : a.ma ≤ 1099511627776) (hmn : a.mn ≤ 1099511627776) (hst : D.steps + 600000 ≤ 1152921504606846976)
    (hk : 3 ≤ k ∧ k ≤ 6) (hn : wf64 n) :
    Calls Tryz.prog 20 #[.pointer (some ⟨a.gl, 0, none⟩), .pointer (some ⟨a.gp, 0, none⟩), .agg #[.slice none 0 0, .slice none 0 0, .int .i64 0], .agg #[.int .i64 k, .int .i64 n, .slice none 0 0, .slice none 0 0]] w fun e w' => (∃ v, e = .returned v) ∧
      ∃ a' P' L' D', PSt w' a' P' L' D' ∧ Kp P P' L L' D D' ∧ PinsOk P' (m + 1) ∧ Fr (aT a) w w' ∧ AdN w a a' 2 := by
  obtain ⟨wA, hwA⟩ : ∃ wA, ((w.alloc (.cells #[.slice none 0 0, .slice none 0 0, .int .i64 0] 49)).alloc (.cells #[.int .i64 k, .int .i64 n, .slice none 0 0, .slice none 0 0] 57)).alloc (.cells #[.slice none 0 0, .slice none 0 0, .int .i64 0] 49) = wA := ⟨_, rfl⟩
  have hbA : Below w.heap.size w wA := by rw [← hwA]; exact bl_alloc (bl_alloc (bl_alloc (Below.refl _ _) _) _) _
  have a0 : wA.heap[w.heap.size]? = some (.cells box0 49 (0, 0)) := by
    rw [← hwA]
    exact (Below.heap_alloc _ _ _ (by simp; omega)).trans ((Below.heap_alloc _ _ _ (by simp)).trans (alloc_new w _))
  have a1 : wA.heap[w.heap.size + 1]? = some (.cells #[.int .i64 k, .int .i64 n, .slice none 0 0, .slice none 0 0] 57 (0, 0)) := by
    rw [← hwA]
    refine (Below.heap_alloc _ _ _ (by simp)).trans ?_
    have := alloc_new (w.alloc (.cells #[.slice none 0 0, .slice none 0 0, .int .i64 0] 49)) (.cells #[.int .i64 k, .int .i64 n, .slice none 0 0, .slice none 0 0] 57)
    rw [World.size_alloc] at this
    exact this
  have a2 : wA.heap[w.heap.size + 1 + 1]? = some (.cells box0 49 (0, 0)) := by
    rw [← hwA]
    have := alloc_new ((w.alloc (.cells #[.slice none 0 0, .slice none 0 0, .int .i64 0] 49)).alloc (.cells #[.int .i64 k, .int .i64 n, .slice none 0 0, .slice none 0 0] 57)) (.cells #[.slice none 0 0, .slice none 0 0, .int .i64 0] 49)
    rw [World.size_alloc, World.size_alloc] at this
    exact this
  have hPA := h.below hbA
  have HA : Aside (PSt w a P L D ∧ Below w.heap.size w wA ∧ wA.heap[w.heap.size]? = some (.cells box0 49 (0, 0)) ∧ wA.heap[w.heap.size + 1]? = some (.cells #[.int .i64 k, .int .i64 n, .slice none 0 0, .slice none 0 0] 57 (0, 0)) ∧ wA.heap[w.heap.size + 1 + 1]? = some (.cells box0 49 (0, 0))) := ⟨h, hbA, a0, a1, a2⟩
  have HI : Aside (Inv P L D ∧ PinsOk P m) := ⟨hi, hp⟩
  have HW := hid hwA
  clear hwA
  rcases (show k = 3 ∨ k = 4 ∨ k = 5 ∨ k = 6 by omega) with rfl | rfl | rfl | rfl
  · have hc := cpin_kp a P L D n m wA hPA hi hp hm hma hmn (by omega)
    clear h hbA a0 a1 a2 hPA hi hp hm hma hmn hst hk hn
    go_enter Tryz.func20, Tryz.ntmps20
    go_wp2_with fail
    rw [HW.out]
    clear HW
    refine hc.mono ?_
    rintro e w1 ⟨⟨v, rfl⟩, a', P', L', D', hP1, hK1, hO1, hF1, hA1⟩
    have S1 : Aside (PSt w1 a' P' L' D' ∧ Kp P P' L L' D D' ∧ PinsOk P' (m + 1) ∧ Fr (aT a) wA w1 ∧ AdN wA a a' 2) := ⟨hP1, hK1, hO1, hF1, hA1⟩
    obtain ⟨c0, c1, c2, -, -, -⟩ := box0_cells (box_after HA.out.1 hF1 (Nat.le_refl _) HA.out.2.2.1)
    obtain ⟨d0, d1⟩ := op_cells (box_after HA.out.1 hF1 (by omega) HA.out.2.2.2.1)
    clear hP1 hK1 hO1 hF1 hA1 hc
    have hr := rpin_empty n w1
    go_wp2_with fail
    refine hr.mono ?_
    rintro e w2 ⟨rfl, hb2⟩
    clear c0 c1 c2 d0 d1
    obtain ⟨c0, c1, c2, f0, f1, f2⟩ := box0_cells ((hb2.block _ (by have := (Array.getElem?_eq_some_iff.1 HA.out.2.2.2.2).1; have := S1.out.2.2.2.1.size; omega)).trans (box_after HA.out.1 S1.out.2.2.2.1 (by omega) HA.out.2.2.2.2))
    have hl2 : w.heap.size + 1 + 1 < w2.heap.size := by have := (Array.getElem?_eq_some_iff.1 HA.out.2.2.2.2).1; have := S1.out.2.2.2.1.size; have := hb2.size; omega
    have S2 := hid hb2
    clear hb2 hr
    go_wp2_with fail
    (try simp only [Exit.inBlock, Exit.then])
    refine bodyPost_ret (v := .tuple #[.agg #[.slice none 0 0, .slice none 0 0, .int .i64 0], .bool (v == 1)]) ?_ rfl ⟨⟨_, rfl⟩, ?_⟩
    · rw [results_cell_tmp rfl]
      go_simp
    · refine (?_ : ∀ W, Fr (· = w.heap.size + 1 + 1) w2 W → ∃ a' P' L' D', PSt W a' P' L' D' ∧ Kp P P' L L' D D' ∧ PinsOk P' (m + 1) ∧ Fr (aT a) w W ∧ AdN w a a' 2) _ (by repeat (first | exact Fr.refl _ _ | refine fr_at ?_ _ _ | refine fr_new ?_ (by simp) _ | refine Fr.alloc ?_ _ | refine Fr.drew ?_))
      intro W hWf
      obtain ⟨x1, x2, x3⟩ := asks_end (g := w.heap.size + 1 + 1) HA.out.1 HA.out.2.1 S1.out.1 S1.out.2.2.2.1 S1.out.2.2.2.2 S2.out (by omega) HA.out.2.2.2.2 (by decide) (by decide) hWf
      exact ⟨a', P', L', D', x1, S1.out.2.1, S1.out.2.2.1, x2, x3⟩
  · have hc := cunpin_all a P L D n m wA hPA hn hp hm hmn
    clear h hbA a0 a1 a2 hPA hi hp hm hma hmn hst hk hn
    go_enter Tryz.func20, Tryz.ntmps20
    go_wp2_with fail
    rw [HW.out]
    clear HW
    refine hc.mono ?_
    rintro e w1 ⟨⟨v, rfl⟩, a', x, hP1, hO1, hF1, hA1⟩
    have S1 : Aside (PSt w1 a' { P with pins := x } L D ∧ PinsOk { P with pins := x } m ∧ Fr (aT a) wA w1 ∧ AdN wA a a' 2) := ⟨hP1, hO1, hF1, hA1⟩
    obtain ⟨c0, c1, c2, -, -, -⟩ := box0_cells (box_after HA.out.1 hF1 (Nat.le_refl _) HA.out.2.2.1)
    obtain ⟨d0, d1⟩ := op_cells (box_after HA.out.1 hF1 (by omega) HA.out.2.2.2.1)
    clear hP1 hO1 hF1 hA1 hc
    have hr := runpin_empty n w1
    go_wp2_with fail
    refine hr.mono ?_
    rintro e w2 ⟨rfl, hb2⟩
    clear c0 c1 c2 d0 d1
    obtain ⟨c0, c1, c2, f0, f1, f2⟩ := box0_cells ((hb2.block _ (by have := (Array.getElem?_eq_some_iff.1 HA.out.2.2.2.2).1; have := S1.out.2.2.1.size; omega)).trans (box_after HA.out.1 S1.out.2.2.1 (by omega) HA.out.2.2.2.2))
    have hl2 : w.heap.size + 1 + 1 < w2.heap.size := by have := (Array.getElem?_eq_some_iff.1 HA.out.2.2.2.2).1; have := S1.out.2.2.1.size; have := hb2.size; omega
    have S2 := hid hb2
    clear hb2 hr
    go_wp2_with fail
    (try simp only [Exit.inBlock, Exit.then])
    refine bodyPost_ret (v := .tuple #[.agg #[.slice none 0 0, .slice none 0 0, .int .i64 0], .bool (v == 101)]) ?_ rfl ⟨⟨_, rfl⟩, ?_⟩
    · rw [results_cell_tmp rfl]
      go_simp
    · refine (?_ : ∀ W, Fr (· = w.heap.size + 1 + 1) w2 W → ∃ a' P' L' D', PSt W a' P' L' D' ∧ Kp P P' L L' D D' ∧ PinsOk P' (m + 1) ∧ Fr (aT a) w W ∧ AdN w a a' 2) _ (by repeat (first | exact Fr.refl _ _ | refine fr_at ?_ _ _ | refine fr_new ?_ (by simp) _ | refine Fr.alloc ?_ _ | refine Fr.drew ?_))
      intro W hWf
      obtain ⟨x1, x2, x3⟩ := asks_end (g := w.heap.size + 1 + 1) HA.out.1 HA.out.2.1 S1.out.1 S1.out.2.2.1 S1.out.2.2.2 S2.out (by omega) HA.out.2.2.2.2 (by decide) (by decide) hWf
      refine ⟨a', _, _, _, x1, (Kp.refl HI.out.1).pinned x, fun k hk => ?_, x2, x3⟩
      have := S1.out.2.1 k hk
      omega
  · have HCf : Aside (∀ W, Below wA.heap.size wA W → Calls Tryz.prog 15 #[.pointer (some ⟨a.gp, 0, none⟩)] W fun e w' => e = .returned (.int .i64 0) ∧
        ∃ P' L' D', PSt w' a P' L' D' ∧ Flushed P P' L L' D D' ∧ PinsOk P' m ∧ Fr (aT a) wA w') := ⟨fun W hW => (cflush_kp a P L D m W (hPA.below hW) hi hp hma hst).mono fun e w' hr => by
      obtain ⟨e1, P', L', D', h1, h2, h3, h4⟩ := hr
      exact ⟨e1, P', L', D', h1, h2, h3, (Fr.of_below hW (aT a)).trans h4 (fun _ _ h => h)⟩⟩
    have HCd : Aside (∀ (W : World) (P' : Pl) (L' : Lg) (D' : Dk), PSt W a P' L' D' → Inv P' L' D' → (∀ f ∈ P'.frames, f.dirty = false) → Calls Tryz.prog 11 #[.pointer (some ⟨a.gp, 0, none⟩)] W fun e w' => ∃ A c, e = .returned (.slice A 0 c) ∧ Below W.heap.size W w') := ⟨fun W P' L' D' h1 h2 h3 => (cDirty_any a P' L' D' W h1 h2.wf hma).mono fun e w' hr => by
      obtain ⟨v2, ks2, rfl, hks2, hown2, hb2⟩ := hr
      rw [dirtyL_nil h2.wf (clean_dty h3)] at hown2
      obtain ⟨A2, n2, rfl⟩ := own_form_n hown2
      exact ⟨A2, n2, rfl, hb2⟩⟩
    have HEf : Aside (∀ args w, (callFunc 15 args).run Tryz.prog w = .ok (.enter 15 args) w) := ⟨enters_of Tryz.func15 (by kernel_rfl) rfl⟩
    have HEd : Aside (∀ args w, (callFunc 11 args).run Tryz.prog w = .ok (.enter 11 args) w) := ⟨enters_of Tryz.func11 (by kernel_rfl) rfl⟩
    obtain ⟨c0, c1, c2, -, -, -⟩ := box0_cells a0
    have tok1 : True := trivial
    clear h hbA a0 a1 a2 hPA hi hp hm hmn hst hk hn hma
    go_enter Tryz.func20, Tryz.ntmps20
    go_wp2_with fail
    rw [HW.out]
    clear HW
    go_region_law (first
      | (have _t := tok1
         (refine step_call1 (o := ⟨some 167, _, _, _, _, _⟩) 15 (by rfl) _ _ (by rfl) HEf.out (.pointer (some ⟨a.gp, 0, none⟩)) (by go_simp) (HCf.out _ ?_) ?_)
         · exact (by repeat (first | exact Below.refl _ _ | refine bl_drew ?_))
         rintro e w1 ⟨rfl, P', L', D', hP1, hK1, hO1, hF1⟩
         have S1 : Aside (PSt w1 a P' L' D' ∧ Flushed P P' L L' D D' ∧ PinsOk P' m ∧ Fr (aT a) wA w1) := ⟨hP1, hK1, hO1, hF1⟩
         clear c0 c1 c2
         obtain ⟨c0, c1, c2, -, -, -⟩ := box0_cells (box_after HA.out.1 hF1 (Nat.le_refl _) HA.out.2.2.1)
         have tok2 : True := trivial
         clear hP1 hK1 hO1 hF1 tok1
         refine ⟨_, rfl, ?_⟩)
      | (have _t := tok2
         (refine step_call1g (o := ⟨some 171, _, _, _, _, _⟩) 11 (by go_simp) _ _ (by rfl) HEd.out (.pointer (some ⟨a.gp, 0, none⟩)) (by go_simp) (HCd.out _ _ _ _ ?_ S1.out.2.1.inv S1.out.2.1.clean) ?_)
         · exact S1.out.1.below (by repeat (first | exact Below.refl _ _ | refine bl_drew ?_))
         rintro e w2 ⟨A2, n2, rfl, hb2⟩
         replace hb2 : Below w1.heap.size w1 w2 := ⟨hb2.os, hb2.tape, hb2.output, hb2.size, hb2.block⟩
         clear c0 c1 c2
         obtain ⟨c0, c1, c2, -, -, -⟩ := box0_cells ((hb2.block _ (by have := (Array.getElem?_eq_some_iff.1 HA.out.2.2.1).1; have := S1.out.2.2.2.size; omega)).trans (box_after HA.out.1 S1.out.2.2.2 (Nat.le_refl _) HA.out.2.2.1))
         obtain ⟨d0, d1, d2, f0, f1, f2⟩ := box0_cells ((hb2.block _ (by have := (Array.getElem?_eq_some_iff.1 HA.out.2.2.2.2).1; have := S1.out.2.2.2.size; omega)).trans (box_after HA.out.1 S1.out.2.2.2 (by omega) HA.out.2.2.2.2))
         have S2 := hid hb2
         clear hb2 tok2
         refine ⟨_, rfl, ?_⟩))
    all_goals
      go_wp2_with fail
      (try simp only [Exit.inBlock, Exit.then])
      refine bodyPost_ret (v := .tuple #[.agg #[.slice none 0 0, .slice none 0 0, .int .i64 0], .bool true]) ?_ rfl ⟨⟨_, rfl⟩, ?_⟩
      · rw [results_cell_tmp rfl]
        go_simp
      · refine (?_ : ∀ W, Fr (· = w.heap.size + 1 + 1) w2 W → ∃ a' P' L' D', PSt W a' P' L' D' ∧ Kp P P' L L' D D' ∧ PinsOk P' (m + 1) ∧ Fr (aT a) w W ∧ AdN w a a' 2) _ (by repeat (first | exact Fr.refl _ _ | refine fr_at ?_ _ _ | refine fr_new ?_ (by simp) _ | refine Fr.alloc ?_ _ | refine Fr.drew ?_))
        intro W hWf
        obtain ⟨x1, x2, x3⟩ := asks_end (k := 2) (g := w.heap.size + 1 + 1) HA.out.1 HA.out.2.1 S1.out.1 S1.out.2.2.2 (AdN.refl _ _ _) S2.out (by omega) HA.out.2.2.2.2 (by decide) (by decide) hWf
        refine ⟨a, P', L', D', x1, Kp.of_flushed S1.out.2.1, fun k hk => ?_, x2, x3⟩
        have := S1.out.2.2.1 k hk
        omega
  · have HCf : Aside (∀ W, Below wA.heap.size wA W → Calls Tryz.prog 67 #[.pointer (some ⟨a.gl, 0, none⟩)] W fun e w' => e = .returned (.int .i64 0) ∧ PSt w' a P { L with safe := L.stream.length } (D.lflush L) ∧ Fr (aT a) wA w') := ⟨fun W hW => (lflush_st a P L D W (hPA.below hW) hi (by omega)).mono fun e w' hr => ⟨hr.1, hr.2.1, (Fr.of_below hW (aT a)).trans hr.2.2 (fun _ _ h => h)⟩⟩
    have HEf : Aside (∀ args w, (callFunc 67 args).run Tryz.prog w = .ok (.enter 67 args) w) := ⟨enters_of Tryz.func67 (by kernel_rfl) rfl⟩
    have hk6 := inv_lflush hi (by omega)
    have HK := hid hk6
    obtain ⟨c0, c1, c2, -, -, -⟩ := box0_cells a0
    have tok1 : True := trivial
    clear h hbA a0 a1 a2 hPA hi hp hm hmn hst hk hn hma hk6
    go_enter Tryz.func20, Tryz.ntmps20
    go_wp2_with fail
    rw [HW.out]
    clear HW
    go_region_law (
      (have _t := tok1
       (refine step_call1 (o := ⟨some 179, _, _, _, _, _⟩) 67 (by rfl) _ _ (by rfl) HEf.out (.pointer (some ⟨a.gl, 0, none⟩)) (by go_simp) (HCf.out _ ?_) ?_)
       · exact (by repeat (first | exact Below.refl _ _ | refine bl_drew ?_))
       rintro e w1 ⟨rfl, hP1, hF1⟩
       have S1 : Aside (PSt w1 a P { L with safe := L.stream.length } (D.lflush L) ∧ Fr (aT a) wA w1) := ⟨hP1, hF1⟩
       clear c0 c1 c2
       obtain ⟨c0, c1, c2, -, -, -⟩ := box0_cells (box_after HA.out.1 hF1 (Nat.le_refl _) HA.out.2.2.1)
       obtain ⟨d0, d1, d2, f0, f1, f2⟩ := box0_cells (box_after HA.out.1 hF1 (by omega) HA.out.2.2.2.2)
       clear hP1 hF1 tok1
       refine ⟨_, rfl, ?_⟩))
    all_goals
      go_wp2_with fail
      (try simp only [Exit.inBlock, Exit.then])
      refine bodyPost_ret (v := .tuple #[.agg #[.slice none 0 0, .slice none 0 0, .int .i64 0], .bool true]) ?_ rfl ⟨⟨_, rfl⟩, ?_⟩
      · rw [results_cell_tmp rfl]
        go_simp
      · refine (?_ : ∀ W, Fr (· = w.heap.size + 1 + 1) w1 W → ∃ a' P' L' D', PSt W a' P' L' D' ∧ Kp P P' L L' D D' ∧ PinsOk P' (m + 1) ∧ Fr (aT a) w W ∧ AdN w a a' 2) _ (by repeat (first | exact Fr.refl _ _ | refine fr_at ?_ _ _ | refine fr_new ?_ (by simp) _ | refine Fr.alloc ?_ _ | refine Fr.drew ?_))
        intro W hWf
        obtain ⟨x1, x2, x3⟩ := asks_end (k := 2) (g := w.heap.size + 1 + 1) HA.out.1 HA.out.2.1 S1.out.1 S1.out.2 (AdN.refl _ _ _) (Below.refl _ _) (by omega) HA.out.2.2.2.2 (by decide) (by decide) hWf
        refine ⟨a, P, _, _, x1, HK.out, fun k hk => ?_, x2, x3⟩
        have := HI.out.2 k hk
        omega
end Go.Proofs.YthfidlhefkjpdaaGreatDoor
