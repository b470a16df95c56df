/- The walks of the reference's Ahead and Edge, and of edgeOf. -/
import Derived.Test.YthidhdffiebbgaaGreatDoorPlQ
import Derived.Test.YthidhdffiebbgaaGreatDoorForestA
namespace Go.Proofs.YthidhdffiebbgaaGreatDoor
open Go.RowKit Go.Proofs.YthidhdffiebbgaaGreatDoor.Sk

/-- does an edge stand ahead of another one -/
def aheadB (x y : Edg) : Bool := decide (x.w < y.w ∨ x.w = y.w ∧ x.id < y.id)

set_option maxHeartbeats 1000000 in
theorem ahead_any (x y : Edg) (w : World) :
    Calls Tryz.prog 31 #[valE x, valE y] w fun e w' => e = .returned (.bool (aheadB x y)) ∧ w.grownBy w' none := by
  have fin : ∀ o1 o2, w.grownBy ((w.alloc o1).alloc o2) none := fun o1 o2 => ⟨rfl, rfl, rfl, by simp; omega, fun k hk _ => by rw [(World.grownBy_alloc _ _ none).block k (by simp; omega) (by simp), (World.grownBy_alloc _ _ none).block k hk (by simp)]⟩
  unfold valE
  by_cases h1 : x.w < y.w
  · have A : Aside (aheadB x y = true) := by simp [Aside, aheadB, h1]
    go_enter Tryz.func31, Tryz.ntmps31
    go_wp2
    go_ret
    exact ⟨by rw [A.out]; rfl, fin _ _⟩
  · by_cases h2 : x.w = y.w
    · by_cases h3 : x.id < y.id
      · have A : Aside (aheadB x y = true) := by simp [Aside, aheadB, h2, h3]
        have hb : (x.w == y.w) = true := by simp [h2]
        clear h2
        go_enter Tryz.func31, Tryz.ntmps31
        go_wp2
        go_ret
        exact ⟨by rw [A.out]; rfl, fin _ _⟩
      · have A : Aside (aheadB x y = false) := by simp [Aside, aheadB, h2]; omega
        have hb : (x.w == y.w) = true := by simp [h2]
        clear h2
        go_enter Tryz.func31, Tryz.ntmps31
        go_wp2
        go_ret
        exact ⟨by rw [A.out]; rfl, fin _ _⟩
    · have A : Aside (aheadB x y = false) := by simp [Aside, aheadB, h2]; omega
      have hb : (x.w == y.w) = false := by simp [h2]
      clear h2
      go_enter Tryz.func31, Tryz.ntmps31
      go_wp2
      go_ret
      exact ⟨by rw [A.out]; rfl, fin _ _⟩

/-- the edge of an id -/
def findE (E : List Edg) (id : Int) : Option Edg := E.find? fun e => e.id == id
theorem findE_some {E : List Edg} {id : Int} {k : Nat} (hk : k < E.length) (he : E[k].id = id) (hno : ∀ e ∈ E.take k, e.id ≠ id) : findE E id = some E[k] := by
  unfold findE
  rw [List.find?_eq_some_iff_getElem]
  refine ⟨by simp [he], k, hk, rfl, fun j hj => ?_⟩
  have := hno E[j] (by rw [List.mem_take_iff_getElem]; exact ⟨j, by omega, rfl⟩)
  simpa using this
theorem findE_none {E : List Edg} {id : Int} (hno : ∀ e ∈ E, e.id ≠ id) : findE E id = none := by
  unfold findE
  rw [List.find?_eq_none]
  intro e he
  simpa using hno e he

theorem results_edge (fn : Func) (h : fn.results = #[.cell 4 47, .tmp 5]) (tmps : Array Value) (w : World) (B : Nat) (m : Edg) (hp : tmps.getD 4 undef = .pointer (some ⟨B, 0, none⟩)) (hb : BoxE w B m) :
    (results fn tmps).run Tryz.prog w = .ok (.tuple #[valE m, tmps.getD 5 undef]) w := by
  rw [results_cell_tmp h, hp]
  simp [asAddr, run_loadVar_row w B 47 47 #[.int .i64 m.id, .int .i64 m.u, .int .i64 m.v, .int .i64 m.w] (0, 0) _ hb Tryz.underlying47 rfl (by kernel_rfl), Result.andThen, valE]

theorem BoxE.frozen {W : World} {B : Nat} {e : Edg} (h : BoxE W B e) : W.frozen? ⟨B, 0, none⟩ = false ∧ W.frozen? ⟨B, 1, none⟩ = false ∧ W.frozen? ⟨B, 2, none⟩ = false ∧ W.frozen? ⟨B, 3, none⟩ = false := by
  have h' : W.heap[B]? = _ := h
  simp [World.frozen?, h']

set_option maxRecDepth 100000 in
set_option maxHeartbeats 1000000 in
theorem edge_ref (vs es ps : Value) (E : List Edg) (id : Int) (w : World) (hE : RdE w es E) :
    Calls Tryz.prog 60 #[.agg #[vs, es, ps], .int .i64 id] w fun e w' => e = .returned (.tuple #[valE ((findE E id).getD zE), .bool (findE E id).isSome]) ∧ Below w.heap.size w w' := by
  have hE0 := hE
  obtain ⟨a, cap, rfl, _, hlen, _⟩ := hE0
  have hb0 : Below w.heap.size w ((w.alloc (.cells #[vs, .slice a E.length cap, ps] 120)).alloc (.cells #[.int .i64 0, .int .i64 0, .int .i64 0, .int .i64 0] 47)) := ((Below.refl _ _).alloc (Nat.le_refl _) _).alloc (by simp) _
  have hx0 : BoxE ((w.alloc (.cells #[vs, .slice a E.length cap, ps] 120)).alloc (.cells #[.int .i64 0, .int .i64 0, .int .i64 0, .int .i64 0] 47)) (w.heap.size + 1) zE := heap_alloc2_new _ _ _
  have A : Aside (Below w.heap.size w ((w.alloc (.cells #[vs, .slice a E.length cap, ps] 120)).alloc (.cells #[.int .i64 0, .int .i64 0, .int .i64 0, .int .i64 0] 47)) ∧ BoxE ((w.alloc (.cells #[vs, .slice a E.length cap, ps] 120)).alloc (.cells #[.int .i64 0, .int .i64 0, .int .i64 0, .int .i64 0] 47)) (w.heap.size + 1) zE ∧ RdE w (.slice a E.length cap) E) := ⟨hb0, hx0, hE⟩
  clear hb0 hx0 hE
  go_enter Tryz.func60, Tryz.ntmps60
  go_wp2_with fail
  obtain ⟨wo, hwo⟩ : ∃ wo, (w.alloc (.cells #[vs, .slice a E.length cap, ps] 120)).alloc (.cells #[.int .i64 0, .int .i64 0, .int .i64 0, .int .i64 0] 47) = wo := ⟨_, rfl⟩
  have c1 : wo.cell? ⟨w.heap.size, 1, none⟩ = some (.slice a E.length cap) := by rw [← hwo, World.cell?_alloc_past _ _ _ (by simp), World.cell?_alloc_at _ _ _ _ rfl]; rfl
  rw [hwo] at A ⊢
  clear hwo
  go_loopg [6] E.length (fun g i wr => ∃ k : Nat, k + g = E.length ∧ i = .int .i64 k ∧ (∀ e ∈ E.take k, e.id ≠ id) ∧ wr = wo)
  case atStart => exact ⟨0, by omega, rfl, by simp, rfl⟩
  case round =>
    obtain ⟨k, hk, rfl, hno, rfl⟩ := hrel
    obtain ⟨a1, a2, a3⟩ := A.out
    obtain ⟨f0, f1, f2, f3⟩ := a2.frozen
    obtain ⟨x0, x1, x2, x3⟩ := a2.cells
    by_cases hlt : k < E.length
    · obtain ⟨_, hew, b, off, rfl, hb, g0, g1, g2, g3⟩ := (a3.below a1).get hlt
      obtain ⟨e, hx⟩ : ∃ e, E[k] = e := ⟨_, rfl⟩
      rw [hx] at g0 g1 g2 g3 hew
      by_cases hid : e.id = id
      · have hf := findE_some hlt (by rw [hx]; exact hid) hno
        rw [hx] at hf
        have R : Aside (findE E id = some e ∧ Below w.heap.size w wr ∧ BoxE wr (w.heap.size + 1) zE) := ⟨hf, a1, a2⟩
        have hb1 : (e.id == id) = true := by simp [hid]
        clear hf a1 a2 a3 hno hx hid hew
        go_wp2_with fail
        obtain ⟨r1, r2, r3⟩ := R.out
        refine bodyPost_ret (results_edge _ rfl _ _ (w.heap.size + 1) e rfl (set4_box r3 e)) rfl ?_
        exact ⟨by rw [r1]; rfl, set4_below e r2 (by omega)⟩
      · have R : Aside (∀ e ∈ E.take (k + 1), e.id ≠ id) := by
          intro x hx'
          rw [List.take_succ_eq_append_getElem hlt, hx, List.mem_append, List.mem_singleton] at hx'
          rcases hx' with h | rfl
          · exact hno x h
          · exact hid
        have hb1 : (e.id == id) = false := by simp [hid]
        clear a1 a2 a3 hno hx hid hew
        go_wp2_with fail
        go_roundg (gk - 1)
        case rel => exact ⟨k + 1, by omega, by go_num, R.out, rfl⟩
        case measure => omega
    · have hkk : k = E.length := by omega
      subst hkk
      rw [List.take_length] at hno
      have R : Aside (findE E id = none ∧ Below w.heap.size w wr ∧ BoxE wr (w.heap.size + 1) zE) := ⟨findE_none hno, a1, a2⟩
      clear a1 a2 a3 hno
      go_wp2_with fail
      obtain ⟨r1, r2, r3⟩ := R.out
      refine bodyPost_ret (results_edge _ rfl _ _ (w.heap.size + 1) zE rfl (set4_box r3 zE)) rfl ?_
      exact ⟨by rw [r1]; rfl, set4_below zE r2 (by omega)⟩

/-- the edge of an id, zero if there is none -/
def edgeAt (E : List Edg) (id : Int) : Edg := (findE E id).getD zE

set_option maxRecDepth 100000 in
set_option maxHeartbeats 1000000 in
theorem edgeOf_any (n : Value) (V : List Int) (E : List Edg) (id : Int) (w : World) (hn : NetAt w n V E) :
    Calls Tryz.prog 29 #[n, .int .i64 id] w fun e w' => e = .returned (valE (edgeAt E id)) ∧ Below w.heap.size w w' := by
  obtain ⟨vs, es, rfl, hV, hE⟩ := hn.ex
  have hE0 := hE
  obtain ⟨ea, ecap, rfl, _, _, _⟩ := hE0
  have hb0 : Below w.heap.size w ((w.alloc (.cells #[vs, .slice ea E.length ecap] 25)).alloc (.cells #[.int .i64 0, .int .i64 0, .int .i64 0, .int .i64 0] 47)) := ((Below.refl _ _).alloc (Nat.le_refl _) _).alloc (by simp) _
  have hx0 : BoxE ((w.alloc (.cells #[vs, .slice ea E.length ecap] 25)).alloc (.cells #[.int .i64 0, .int .i64 0, .int .i64 0, .int .i64 0] 47)) (w.heap.size + 1) zE := heap_alloc2_new _ _ _
  have he := edge_ref (.slice none 0 0) (.slice ea E.length ecap) (.slice none 0 0) E id _ (hE.below hb0)
  have A : Aside (Below w.heap.size w ((w.alloc (.cells #[vs, .slice ea E.length ecap] 25)).alloc (.cells #[.int .i64 0, .int .i64 0, .int .i64 0, .int .i64 0] 47)) ∧ BoxE ((w.alloc (.cells #[vs, .slice ea E.length ecap] 25)).alloc (.cells #[.int .i64 0, .int .i64 0, .int .i64 0, .int .i64 0] 47)) (w.heap.size + 1) zE) := ⟨hb0, hx0⟩
  clear hn hV hE hb0 hx0
  go_enter Tryz.func29, Tryz.ntmps29
  go_wp2_with fail
  refine he.mono ?_
  rintro _ w1 ⟨rfl, hb1⟩
  obtain ⟨m, hm⟩ : ∃ m, (findE E id).getD zE = m := ⟨_, rfl⟩
  have M : Aside (edgeAt E id = m) := hm
  obtain ⟨ok, hok⟩ : ∃ ok, (findE E id).isSome = ok := ⟨_, rfl⟩
  rw [hm, hok]
  have hx1 : BoxE w1 (w.heap.size + 1) zE := (hb1.block _ (by simp)).trans A.out.2
  have hz1 : w.heap.size + 2 ≤ w1.heap.size := by have := hb1.size; simpa using this
  have hx2 : BoxE (w1.alloc (.cells #[.int .i64 m.id, .int .i64 m.u, .int .i64 m.v, .int .i64 m.w] 47)) (w.heap.size + 1) zE := ((World.grownBy_alloc _ _ none).block _ (by omega) (by simp)).trans hx1
  obtain ⟨x0, x1, x2, x3⟩ := hx2.cells
  obtain ⟨f0, f1, f2, f3⟩ := hx2.frozen
  have R : Aside (Below w.heap.size w (w1.alloc (.cells #[.int .i64 m.id, .int .i64 m.u, .int .i64 m.v, .int .i64 m.w] 47)) ∧ BoxE (w1.alloc (.cells #[.int .i64 m.id, .int .i64 m.u, .int .i64 m.v, .int .i64 m.w] 47)) (w.heap.size + 1) zE) :=
    ⟨(A.out.1.trans (hb1.mono (by simp; omega))).alloc (by omega) _, hx2⟩
  clear hb1 hx1 hx2 hm hok he
  unfold valE
  go_wp2_with fail
  refine bodyPost_ret (results_cell_row rfl _ _ (w.heap.size + 1) 47 #[.int .i64 m.id, .int .i64 m.u, .int .i64 m.v, .int .i64 m.w] (0, 0) _ rfl (set4_box R.out.2 m) Tryz.underlying47 rfl (by kernel_rfl)) rfl ?_
  exact ⟨by obtain rfl := M.out; rfl, set4_below m R.out.1 (by omega)⟩

end Go.Proofs.YthidhdffiebbgaaGreatDoor
