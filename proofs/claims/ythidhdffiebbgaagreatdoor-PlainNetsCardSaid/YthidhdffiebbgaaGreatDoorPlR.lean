/- The walks of a small net and of the smallest graph. -/
import Derived.Test.YthidhdffiebbgaaGreatDoorPlQ
namespace Go.Proofs.YthidhdffiebbgaaGreatDoor
open Go.RowKit Go.Proofs.YthidhdffiebbgaaGreatDoor.Sk

def smallV : List Int := [1, 2, 3, 4]
def smallE : List Edg := [⟨1, 1, 2, 5⟩, ⟨2, 2, 3, 4⟩, ⟨3, 1, 3, 4⟩]

set_option maxHeartbeats 1000000 in
theorem small_any (w : World) : Calls Tryz.prog 32 #[] w fun e w' => ∃ n, e = .returned n ∧ NetAt w' n smallV smallE ∧ Below w.heap.size w w' := by
  have hz2 : (w.alloc (.cells #[.slice none 0 0, .slice none 0 0] 25)).heap.size = w.heap.size + 1 := by simp
  go_enter Tryz.func32, Tryz.ntmps32
  go_wp2_with fail
  have hX : ∀ o1 o2 o3 : Obj, (((w.alloc o1).alloc o2).alloc o3).heap[w.heap.size]? = some o1 ∧ (((w.alloc o1).alloc o2).alloc o3).heap[w.heap.size + 1]? = some o2 ∧ (((w.alloc o1).alloc o2).alloc o3).heap[w.heap.size + 1 + 1]? = some o3 := fun o1 o2 o3 => by
    refine ⟨?_, ?_, ?_⟩
    · rw [(World.grownBy_alloc _ _ none).block _ (by simp; omega) (by simp), (World.grownBy_alloc _ _ none).block _ (by simp) (by simp), World.alloc_heap_new]
    · rw [(World.grownBy_alloc _ _ none).block _ (by simp) (by simp), heap_alloc2_new]
    · have := World.alloc_heap_new ((w.alloc o1).alloc o2) o3
      simpa using this
  refine bodyPost_ret (results_cell_row rfl _ _ w.heap.size 25 #[.slice (some ⟨w.heap.size + 1, 0, none⟩) 4 4, .slice (some ⟨w.heap.size + 1 + 1, 0, none⟩) 3 3] (0, 0) _ rfl (hX _ _ _).1 Tryz.underlying25 rfl (by kernel_rfl)) rfl ?_
  refine ⟨_, rfl, ⟨⟨_, _, rfl, ?_, ?_⟩⟩, (((Below.refl _ _).alloc (Nat.le_refl _) _).alloc (by simp) _).alloc (by simp; omega) _⟩
  · refine ⟨_, 4, rfl, ?_, by simp [smallV], fun _ => ⟨w.heap.size + 1, 0, rfl, by simp, fun j hj => ?_⟩⟩
    · intro x hx
      simp [smallV] at hx
      unfold wf64
      omega
    · have hb := (hX (.cells #[.slice (some ⟨w.heap.size + 1, 0, none⟩) 4 4, .slice (some ⟨w.heap.size + 1 + 1, 0, none⟩) 3 3] 25) (.cells #[.int .i64 1, .int .i64 2, .int .i64 3, .int .i64 4] 3) (.cells #[.int .i64 1, .int .i64 1, .int .i64 2, .int .i64 5, .int .i64 2, .int .i64 2, .int .i64 3, .int .i64 4, .int .i64 3, .int .i64 1, .int .i64 3, .int .i64 4] 47)).2.1
      simp only [World.cell?, hb]
      match j, hj with
      | 0, _ => rfl
      | 1, _ => rfl
      | 2, _ => rfl
      | 3, _ => rfl
  · refine ⟨_, 3, rfl, ?_, by simp [smallE], fun _ => ⟨w.heap.size + 1 + 1, 0, rfl, by simp, fun j hj => ?_⟩⟩
    · intro x hx
      simp only [smallE, List.mem_cons, List.mem_nil_iff, or_false] at hx
      rcases hx with rfl | rfl | rfl <;> simp [Edg.wf, wf64]
    · have hb := (hX (.cells #[.slice (some ⟨w.heap.size + 1, 0, none⟩) 4 4, .slice (some ⟨w.heap.size + 1 + 1, 0, none⟩) 3 3] 25) (.cells #[.int .i64 1, .int .i64 2, .int .i64 3, .int .i64 4] 3) (.cells #[.int .i64 1, .int .i64 1, .int .i64 2, .int .i64 5, .int .i64 2, .int .i64 2, .int .i64 3, .int .i64 4, .int .i64 3, .int .i64 1, .int .i64 3, .int .i64 4] 47)).2.2
      simp only [World.cell?, hb]
      match j, hj with
      | 0, _ => exact ⟨rfl, rfl, rfl, rfl⟩
      | 1, _ => exact ⟨rfl, rfl, rfl, rfl⟩
      | 2, _ => exact ⟨rfl, rfl, rfl, rfl⟩

theorem gbad_any (a : Int) (w : World) :
    Calls Tryz.prog 87 #[.int .i64 a] w fun e w' => e = .returned (.bool (!decide (okId a))) ∧ w = w' := by
  have A : Aside (okId a ↔ 1 ≤ a ∧ a ≤ 2147483647) := Iff.rfl
  by_cases h1 : a < 1
  · have hd : decide (okId a) = false := by rw [decide_eq_false_iff_not, A.out]; omega
    go_enter Tryz.func87, Tryz.ntmps87
    go_wp2
    go_ret
    exact ⟨by rw [hd]; rfl, rfl⟩
  · by_cases h2 : 2147483647 < a
    · have hd : decide (okId a) = false := by rw [decide_eq_false_iff_not, A.out]; omega
      go_enter Tryz.func87, Tryz.ntmps87
      go_wp2
      go_ret
      exact ⟨rfl, rfl⟩
    · have hd : decide (okId a) = true := by rw [decide_eq_true_iff, A.out]; omega
      go_enter Tryz.func87, Tryz.ntmps87
      go_wp2
      go_ret
      exact ⟨rfl, rfl⟩

/-- a graph: three maps; the map of vertices -/
structure GrAt (w : World) (gb mv n : Nat) (vs : Int → Option Value) : Prop where
  cells : ∃ me mp, w.heap[gb]? = some (.cells #[.map (some mv), .map (some me), .map (some mp)] 125 (0, 0))
  verts : MapAt Tryz.prog 3 w mv n vs

set_option maxHeartbeats 1000000 in
theorem new_any (w : World) : Calls Tryz.prog 33 #[] w fun e w' => e = .returned (.pointer (some ⟨w.heap.size + 3, 0, none⟩)) ∧ w' = (((w.alloc (.map #[] 0)).alloc (.map #[] 0)).alloc (.map #[] 0)).alloc (.cells #[.map (some w.heap.size), .map (some (w.heap.size + 1)), .map (some (w.heap.size + 2))] 125) := by
  have hmm := @run_makeMap Tryz.prog
  go_enter Tryz.func33, Tryz.ntmps33
  go_wp2_with fail
  go_ret
  exact ⟨rfl, rfl⟩


/-- the write that brings vertex 1 -/
def write1 : Value := .agg #[.int .i64 1, .int .i64 1, .int .i64 0, .int .i64 0, .int .i64 0, .bool false, .int .i64 0, .string ⟨#[]⟩, .int .i64 0, .int .i64 0, .complex .f64 0 0, .slice none 0 0]

/-- the graph without anything -/
def Gr0 (w : World) (gb mv me mp : Nat) : Prop := w.heap[gb]? = some (.cells #[.map (some mv), .map (some me), .map (some mp)] 125 (0, 0)) ∧ w.ownsMap Tryz.prog 3 heldV mv 0 (.map [])

theorem neq_map0 (w : World) : (binOp .neq 150 (.map none) (.map none)).run Tryz.prog w = .ok (.bool false) w := by kernel_rfl
theorem neq_map1 (b : Nat) (w : World) : (binOp .neq 150 (.map (some b)) (.map none)).run Tryz.prog w = .ok (.bool true) w := by kernel_rfl
attribute [local go_sem] neq_map0 neq_map1

theorem ownsMap_block {w w' : World} {b n : Nat} {D : DV} (h : w.ownsMap Tryz.prog 3 heldV b n D) (hb : w'.heap[b]? = w.heap[b]?) : w'.ownsMap Tryz.prog 3 heldV b n D := by
  obtain ⟨es, c, h1, h3⟩ := h
  exact ⟨es, c, hb.trans h1, h3⟩

theorem zero150 (w : World) : (zeroValue 150).run Tryz.prog w = .ok (.map none) w := by rw [Tryz.zeroValue150]

set_option maxRecDepth 100000 in
set_option maxHeartbeats 1000000 in
theorem addV_any (gb mv me mp : Nat) (w : World) (h : Gr0 w gb mv me mp) :
    Calls Tryz.prog 61 #[.pointer (some ⟨gb, 0, none⟩), write1] w fun e w' => e = .returned (.int .i64 0) ∧ (∃ mb, w'.heap[gb]? = w.heap[gb]? ∧ MapAt Tryz.prog 3 w' mv 1 (upd (fun _ => none) 1 (.map (some mb)))) ∧ Below (min gb mv) w w' := by
  obtain ⟨h1, h2⟩ := h
  have hc0 : w.cell? ⟨gb, 0, none⟩ = some (.map (some mv)) := by simp [World.cell?, h1]
  have hM : MapAt Tryz.prog 3 w mv 0 (fun _ => none) := ⟨.map [], h2, fun _ _ => rfl, fun _ => rfl⟩
  have hmm := @run_makeMap Tryz.prog
  have hlt : gb < w.heap.size := by
    rcases Nat.lt_or_ge gb w.heap.size with h | h
    · exact h
    · rw [Array.getElem?_eq_none h] at h1; cases h1
  have hok : decide (okId 1) = true := by decide
  unfold write1
  go_enter Tryz.func61, Tryz.ntmps61
  go_wp2_with (go_at_call 87; refine (gbad_any _ _).mono ?_; rintro _ _ ⟨rfl, rfl⟩; rw [hok])
  have hmv : mv < w.heap.size := hM.lt
  obtain ⟨wb, hwb⟩ : ∃ wb, w.alloc (.cells #[.int .i64 1, .int .i64 1, .int .i64 0, .int .i64 0, .int .i64 0, .bool false, .int .i64 0, .string ⟨#[]⟩, .int .i64 0, .int .i64 0, .complex .f64 0 0, .slice none 0 0] 81) = wb := ⟨_, rfl⟩
  have hs : wb.heap.size = w.heap.size + 1 := by rw [← hwb]; simp
  have hold : ∀ k, k < w.heap.size → wb.heap[k]? = w.heap[k]? := fun k hk => by rw [← hwb]; exact (World.grownBy_alloc _ _ none).block k hk (by simp)
  have hbel : Below w.heap.size w wb := by rw [← hwb]; exact (Below.refl _ _).alloc (Nat.le_refl _) _
  have q0 : wb.cell? ⟨gb, 0, none⟩ = some (.map (some mv)) := by simp only [World.cell?, hold gb hlt, h1]; rfl
  have q1 : wb.cell? ⟨w.heap.size, 1, none⟩ = some (.int .i64 1) := by rw [← hwb, World.cell?_alloc_at _ _ _ _ rfl]; rfl
  have hMb : MapAt Tryz.prog 3 wb.drew mv 0 (fun _ => none) := hM.block (hold mv hmv)
  have hol : wb.drew.ownsMap Tryz.prog 3 heldV mv 0 (.map []) := ownsMap_block h2 (hold mv hmv)
  have look := hMb.look Tryz.underlying3 Tryz.underlying121 (zero150 _) (by unfold wf64; omega : wf64 1)
  simp only [Option.getD_none] at look
  have hlen := fun ty => hol.len Tryz.underlying121 ty
  rw [show (Maps.size (DataW.map [] : DV) : Int) = 0 from rfl] at hlen
  obtain ⟨w5, upd5, hM5, hturn⟩ := ((hMb.alloc (.map #[] 0)).block (w' := (wb.alloc (.map #[] 0)).drew.drew) rfl).store Tryz.underlying3 Tryz.underlying121 (by unfold maxLen; omega) (by unfold wf64; omega : wf64 1) (.map (some (w.heap.size + 1)))
  rw [hwb]
  go_region_held3 (fun w' => w'.cell? ⟨gb, 0, none⟩ = some (.map (some mv)) ∧ w'.cell? ⟨w.heap.size, 1, none⟩ = some (.int .i64 1) ∧ (Instr.lookup 121 (.map (some mv)) (.int .i64 1) false).run Tryz.prog w' = .ok (.map none) w') (go_keep) (fail)
  rename_i hH
  clear hH
  go_wp2_with fail
  have hne1 : some gb ≠ some mv := fun h => by
    simp only [Option.some.injEq] at h
    subst h
    obtain ⟨es, c, h3, _⟩ := h2
    rw [h1] at h3
    cases h3
  have hne2 : some w.heap.size ≠ some mv := by simp; omega
  go_region_held3 (fun w' => w'.cell? ⟨gb, 0, none⟩ = some (.map (some mv)) ∧ w'.cell? ⟨w.heap.size, 1, none⟩ = some (.int .i64 1))
    (first
      | go_keep
      | (go_split_ands; refine ⟨hturn.grown.cell ?_ hne1, hturn.grown.cell ?_ hne2⟩ <;> assumption)) (fail)
  rename_i hH
  clear hH
  go_wp2_with fail
  go_ret
  have hg := hturn.grown
  refine ⟨rfl, ⟨w.heap.size + 1, ?_, hM5⟩, hg.os.trans hbel.os, hg.tape.trans hbel.tape, hg.output.trans hbel.output, ?_, fun k hk => ?_⟩
  · rw [hg.block gb (by simp; omega) hne1]
    show (wb.alloc _).heap[gb]? = _
    rw [(World.grownBy_alloc _ _ none).block gb (by omega) (by simp), hold gb hlt]
  · have := hg.size
    simp at this
    omega
  · have hk2 : k < w.heap.size := by omega
    have hkm : k < mv := by omega
    rw [hg.block k (by simp; omega) (by simp; omega)]
    show (wb.alloc _).heap[k]? = _
    rw [(World.grownBy_alloc _ _ none).block k (by omega) (by simp), hold k hk2]

set_option maxRecDepth 100000 in
set_option maxHeartbeats 1000000 in
/-- Do: the write that brings vertex 1 -/
theorem do_any (gb mv me mp : Nat) (w : World) (h : Gr0 w gb mv me mp) :
    Calls Tryz.prog 34 #[.pointer (some ⟨gb, 0, none⟩), write1] w fun e w' => e = .returned (.int .i64 0) ∧ (∃ mb, w'.heap[gb]? = w.heap[gb]? ∧ MapAt Tryz.prog 3 w' mv 1 (upd (fun _ => none) 1 (.map (some mb)))) ∧ Below (min gb mv) w w' := by
  have hlt : gb < w.heap.size := by
    rcases Nat.lt_or_ge gb w.heap.size with h' | h'
    · exact h'
    · have := h.1; rw [Array.getElem?_eq_none h'] at this; cases this
  have hmv : mv < w.heap.size := h.2.lt
  unfold write1
  have h' : Gr0 (w.alloc (.cells #[.int .i64 1, .int .i64 1, .int .i64 0, .int .i64 0, .int .i64 0, .bool false, .int .i64 0, .string ⟨#[]⟩, .int .i64 0, .int .i64 0, .complex .f64 0 0, .slice none 0 0] 81)) gb mv me mp :=
    ⟨((World.grownBy_alloc w _ none).block gb hlt (by simp)).trans h.1, ownsMap_block h.2 ((World.grownBy_alloc w _ none).block mv hmv (by simp))⟩
  have hadd := addV_any gb mv me mp _ h'
  unfold write1 at hadd
  have A : Aside (gb < w.heap.size ∧ mv < w.heap.size) := ⟨hlt, hmv⟩
  clear h h' hlt hmv
  go_enter Tryz.func34, Tryz.ntmps34
  go_wp2_with (go_at_call 61; refine hadd.mono ?_; rintro _ w3 ⟨rfl, ⟨mb, h1, h2⟩, h3⟩)
  clear hadd
  have B : Aside (w3.heap[gb]? = (w.alloc (.cells #[.int .i64 1, .int .i64 1, .int .i64 0, .int .i64 0, .int .i64 0, .bool false, .int .i64 0, .string ⟨#[]⟩, .int .i64 0, .int .i64 0, .complex .f64 0 0, .slice none 0 0] 81)).heap[gb]? ∧ MapAt Tryz.prog 3 w3 mv 1 (upd (fun _ => none) 1 (.map (some mb))) ∧ Below (min gb mv) (w.alloc (.cells #[.int .i64 1, .int .i64 1, .int .i64 0, .int .i64 0, .int .i64 0, .bool false, .int .i64 0, .string ⟨#[]⟩, .int .i64 0, .int .i64 0, .complex .f64 0 0, .slice none 0 0] 81)) w3) := ⟨h1, h2, h3⟩
  clear h1 h2 h3
  go_wp2_with fail
  go_ret
  obtain ⟨b1, b2, b3⟩ := B.out
  obtain ⟨a1, a2⟩ := A.out
  exact ⟨rfl, ⟨mb, b1.trans ((World.grownBy_alloc w _ none).block gb a1 (by simp)), b2⟩, ((Below.refl _ _).alloc (by omega) _).trans b3⟩

/-- the question whether vertex 1 is there -/
def query1 : Value := .agg #[.int .i64 1, .int .i64 1, .int .i64 0, .bool false, .int .i64 0, .string ⟨#[]⟩]
def ans1 : Value := .agg #[.int .i64 0, .bool true, .int .i64 0, .complex .f64 0 0, .int .i64 0, .int .i64 0, .int .i64 0, .int .i64 0, .slice none 0 0, .int .i64 0, .int .i64 0, .complex .f64 0 0, .slice none 0 0, .slice none 0 0, .slice none 0 0]

theorem hasV_any (gb mv me mp mb n : Nat) (w : World) (h : w.heap[gb]? = some (.cells #[.map (some mv), .map (some me), .map (some mp)] 125 (0, 0))) (hM : MapAt Tryz.prog 3 w mv n (upd (fun _ => none) 1 (.map (some mb)))) :
    Calls Tryz.prog 72 #[.pointer (some ⟨gb, 0, none⟩), .int .i64 1] w fun e w' => e = .returned (.bool true) ∧ w = w' := by
  have hc0 : w.cell? ⟨gb, 0, none⟩ = some (.map (some mv)) := by simp [World.cell?, h]
  have look := hM.look Tryz.underlying3 Tryz.underlying121 (zero150 _) (by unfold wf64; omega : wf64 1)
  simp only [upd, if_true, Option.getD_some] at look
  go_enter Tryz.func72, Tryz.ntmps72
  go_wp2_with fail
  go_ret
  exact ⟨rfl, rfl⟩


theorem run_store_complex' (P : Program) (w : World) (a : Addr) (m : Mode) (k : FloatKind) (x y : Nat) : (store a (.complex k x y) m).run P w = stored P w a (.complex k x y) m := run_store P w a _ m rfl
attribute [local go_sem] run_store_complex'

set_option maxRecDepth 100000 in
set_option maxHeartbeats 1000000 in
theorem ask_any (gb mv me mp mb n : Nat) (w : World) (h : w.heap[gb]? = some (.cells #[.map (some mv), .map (some me), .map (some mp)] 125 (0, 0))) (hM : MapAt Tryz.prog 3 w mv n (upd (fun _ => none) 1 (.map (some mb)))) :
    Calls Tryz.prog 35 #[.pointer (some ⟨gb, 0, none⟩), query1] w fun e w' => e = .returned ans1 ∧ Below w.heap.size w w' := by
  have hlt : gb < w.heap.size := by
    rcases Nat.lt_or_ge gb w.heap.size with h' | h'
    · exact h'
    · rw [Array.getElem?_eq_none h'] at h; cases h
  have hmv : mv < w.heap.size := hM.lt
  have hhas : ∀ o1 o2, Calls Tryz.prog 72 #[.pointer (some ⟨gb, 0, none⟩), .int .i64 1] ((w.alloc o1).alloc o2) fun e w' => e = .returned (.bool true) ∧ (w.alloc o1).alloc o2 = w' := fun o1 o2 =>
    hasV_any gb mv me mp mb n _ (by rw [(World.grownBy_alloc _ _ none).block gb (by simp; omega) (by simp), (World.grownBy_alloc _ _ none).block gb hlt (by simp)]; exact h) ((hM.alloc _).alloc _)
  have hok : decide (okId 1) = true := by decide
  unfold query1
  clear h hM
  go_enter Tryz.func35, Tryz.ntmps35
  go_wp2_with (first
    | (go_at_call 70; refine (badId_any _ _).mono ?_; rintro _ _ ⟨rfl, rfl⟩; rw [hok])
    | (go_at_call 72; refine (hhas _ _).mono ?_; rintro _ _ ⟨rfl, rfl⟩))
  all_goals (
    refine bodyPost_ret (results_cell_row rfl _ _ (w.heap.size + 1) 83 #[.int .i64 0, .bool true, .int .i64 0, .complex .f64 0 0, .int .i64 0, .int .i64 0, .int .i64 0, .int .i64 0, .slice none 0 0, .int .i64 0, .int .i64 0, .complex .f64 0 0, .slice none 0 0, .slice none 0 0, .slice none 0 0] (0, 0) _ rfl (by rw [heap_alloc2_new]) Tryz.underlying83 rfl (by kernel_rfl)) rfl ?_
    exact ⟨rfl, ((Below.refl _ _).alloc (Nat.le_refl _) _).alloc (by simp) _⟩)

end Go.Proofs.YthidhdffiebbgaaGreatDoor
