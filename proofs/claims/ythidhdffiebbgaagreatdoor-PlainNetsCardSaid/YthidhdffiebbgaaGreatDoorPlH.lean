/- The walks of the order of edges: cmp.Compare, cmp.Or, less. -/
import Derived.Test.YthidhdffiebbgaaGreatDoorPlB
import Derived.Deep.RegionHeld3
import Derived.Sort.Grow
namespace Go.Proofs.YthidhdffiebbgaaGreatDoor
open Go.RowKit Go.Proofs.YthidhdffiebbgaaGreatDoor.Sk Go.Sort

def cmpI (a b : Int) : Int := if a < b then -1 else if b < a then 1 else 0
theorem cmpI_lt {a b : Int} (h : a < b) : cmpI a b = -1 := if_pos h
theorem cmpI_gt {a b : Int} (h : b < a) : cmpI a b = 1 := by unfold cmpI; rw [if_neg (by omega), if_pos h]
theorem cmpI_eq {a b : Int} (h1 : ¬ a < b) (h2 : ¬ b < a) : cmpI a b = 0 := by unfold cmpI; rw [if_neg h1, if_neg h2]

theorem nan64_any (a : Int) (w : World) : Calls Tryz.prog 114 #[.int .i64 a] w fun e w' => e = .returned (.bool false) ∧ w = w' := by
  go_enter Tryz.func114, Tryz.ntmps114
  go_wp2
  go_ret
  exact ⟨by simp, rfl⟩

theorem nan_any (a : Int) (w : World) : Calls Tryz.prog 115 #[.int .i64 a] w fun e w' => e = .returned (.bool false) ∧ w = w' := by
  go_enter Tryz.func115, Tryz.ntmps115
  go_wp2
  go_ret
  exact ⟨by simp, rfl⟩

theorem cmp64_any (a b : Int) (w : World) : Calls Tryz.prog 85 #[.int .i64 a, .int .i64 b] w fun e w' => e = .returned (.int .i64 (cmpI a b)) ∧ w = w' := by
  by_cases h1 : a < b
  · have A : Aside (cmpI a b = -1) := cmpI_lt h1
    go_enter Tryz.func85, Tryz.ntmps85
    go_wp2_with (go_at_call 114; refine (nan64_any _ _).mono ?_; rintro e w' ⟨rfl, rfl⟩)
    go_ret
    exact ⟨by rw [A.out]; rfl, rfl⟩
  · by_cases h2 : b < a
    · have A : Aside (cmpI a b = 1) := cmpI_gt h2
      go_enter Tryz.func85, Tryz.ntmps85
      go_wp2_with (go_at_call 114; refine (nan64_any _ _).mono ?_; rintro e w' ⟨rfl, rfl⟩)
      go_ret
      exact ⟨by rw [A.out]; rfl, rfl⟩
    · have A : Aside (cmpI a b = 0) := cmpI_eq h1 h2
      go_enter Tryz.func85, Tryz.ntmps85
      go_wp2_with (go_at_call 114; refine (nan64_any _ _).mono ?_; rintro e w' ⟨rfl, rfl⟩)
      go_ret
      exact ⟨by rw [A.out]; rfl, rfl⟩

theorem cmp_any (a b : Int) (w : World) : Calls Tryz.prog 86 #[.int .i64 a, .int .i64 b] w fun e w' => e = .returned (.int .i64 (cmpI a b)) ∧ w = w' := by
  by_cases h1 : a < b
  · have A : Aside (cmpI a b = -1) := cmpI_lt h1
    go_enter Tryz.func86, Tryz.ntmps86
    go_wp2_with (go_at_call 115; refine (nan_any _ _).mono ?_; rintro e w' ⟨rfl, rfl⟩)
    go_ret
    exact ⟨by rw [A.out]; rfl, rfl⟩
  · by_cases h2 : b < a
    · have A : Aside (cmpI a b = 1) := cmpI_gt h2
      go_enter Tryz.func86, Tryz.ntmps86
      go_wp2_with (go_at_call 115; refine (nan_any _ _).mono ?_; rintro e w' ⟨rfl, rfl⟩)
      go_ret
      exact ⟨by rw [A.out]; rfl, rfl⟩
    · have A : Aside (cmpI a b = 0) := cmpI_eq h1 h2
      go_enter Tryz.func86, Tryz.ntmps86
      go_wp2_with (go_at_call 115; refine (nan_any _ _).mono ?_; rintro e w' ⟨rfl, rfl⟩)
      go_ret
      exact ⟨by rw [A.out]; rfl, rfl⟩

def orI (a b : Int) : Int := if a = 0 then b else a

set_option maxHeartbeats 400000 in
theorem or_any (a b : Int) (blk : Nat) (w : World) (h0 : w.cell? ⟨blk, 0, none⟩ = some (.int .i64 a)) (h1 : w.cell? ⟨blk, 1, none⟩ = some (.int .i64 b)) :
    Calls Tryz.prog 84 #[.slice (some ⟨blk, 0, none⟩) 2 2] w fun e w' => e = .returned (.int .i64 (orI a b)) ∧ w = w' := by
  by_cases ha : a = 0
  · have A : Aside (orI a b = b) := by unfold Aside orI; rw [if_pos ha]
    by_cases hb : b = 0
    · have B : Aside (b = 0) := hb
      subst ha hb
      go_enter Tryz.func84, Tryz.ntmps84
      go_wp2
      refine wp_loop_rounds 3 ?_
      rw [rounds_succ]
      go_wp2
      rw [rounds_succ]
      go_wp2
      rw [rounds_succ]
      go_wp2
      go_ret
      exact ⟨by rw [A.out]; rfl, rfl⟩
    · subst ha
      have hb' : (b != 0) = true := by simp [hb]
      clear hb
      go_enter Tryz.func84, Tryz.ntmps84
      go_wp2
      refine wp_loop_rounds 2 ?_
      rw [rounds_succ]
      go_wp2
      rw [rounds_succ]
      go_wp2
      go_ret
      exact ⟨by rw [A.out]; rfl, rfl⟩
  · have A : Aside (orI a b = a) := by unfold Aside orI; rw [if_neg ha]
    have ha' : (a != 0) = true := by simp [ha]
    clear ha
    go_enter Tryz.func84, Tryz.ntmps84
    go_wp2
    refine wp_loop_rounds 1 ?_
    rw [rounds_succ]
    go_wp2
    go_ret
    exact ⟨by rw [A.out]; rfl, rfl⟩

theorem cell_two_0 {W : World} {n : Nat} (a b : Value) (t : Nat) (hn : n = W.heap.size) : (W.alloc (.cells #[a, b] t)).drew.cell? ⟨n, 0, none⟩ = some a := by
  subst hn
  rw [World.cell?_drew, World.cell?_alloc_at _ _ _ _ rfl]; rfl
theorem cell_two_1 {W : World} {n : Nat} (a b : Value) (t : Nat) (hn : n = W.heap.size) : (W.alloc (.cells #[a, b] t)).drew.cell? ⟨n, 1, none⟩ = some b := by
  subst hn
  rw [World.cell?_drew, World.cell?_alloc_at _ _ _ _ rfl]; rfl

/-- the order of edges: by weight, then by id -/
def lessI (x y : Edg) : Int := orI (cmpI x.w y.w) (cmpI x.id y.id)

set_option maxRecDepth 100000 in
set_option maxHeartbeats 1000000 in
theorem less_any (x y : Edg) (w : World) :
    Calls Tryz.prog 54 #[.agg #[.int .i64 x.id, .int .i64 x.u, .int .i64 x.v, .int .i64 x.w], .agg #[.int .i64 y.id, .int .i64 y.u, .int .i64 y.v, .int .i64 y.w]] w fun e w' =>
      e = .returned (.int .i64 (lessI x y)) ∧ ∃ q os', w' = grow (w.drewN q) os' := by
  go_enter Tryz.func54, Tryz.ntmps54
  go_wp2_with fail
  go_region_held3 (fun w' => w'.cell? ⟨w.heap.size, 3, none⟩ = some (.int .i64 x.w) ∧ w'.cell? ⟨w.heap.size + 1, 3, none⟩ = some (.int .i64 y.w) ∧ w'.cell? ⟨w.heap.size, 0, none⟩ = some (.int .i64 x.id) ∧ w'.cell? ⟨w.heap.size + 1, 0, none⟩ = some (.int .i64 y.id)) (go_keep)
    (first | (go_at_call 85; refine (cmp64_any _ _ _).mono ?_; rintro e w' ⟨rfl, rfl⟩) | (go_at_call 86; refine (cmp_any _ _ _).mono ?_; rintro e w' ⟨rfl, rfl⟩) | (go_at_call 84; refine (or_any (cmpI x.w y.w) (cmpI x.id y.id) _ _ (cell_two_0 _ _ _ (by simp)) (cell_two_1 _ _ _ (by simp))).mono ?_; rintro e w' ⟨rfl, rfl⟩))
  all_goals (rename_i Q K hK hH; clear hH; change K _ _; apply hK; go_wp2; go_ret; exact ⟨rfl, 1, _, by rw [alloc_eq_grow, alloc_eq_grow, grow_grow, alloc_eq_grow, grow_grow]; rfl⟩)

end Go.Proofs.YthidhdffiebbgaaGreatDoor
