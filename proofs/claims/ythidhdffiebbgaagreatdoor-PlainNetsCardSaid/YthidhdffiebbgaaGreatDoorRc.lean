/- The walk of the reference's BadId. -/
import Derived.Test.YthidhdffiebbgaaGreatDoorPlB
namespace Go.Proofs.YthidhdffiebbgaaGreatDoor
open Go.RowKit Go.Proofs.YthidhdffiebbgaaGreatDoor.Sk

theorem rbad_any (a : Int) (w : World) :
    Calls Tryz.prog 38 #[.int .i64 a] w fun e w' => e = .returned (.bool (!decide (okId a))) ∧ w = w' := by
  have A : Aside (okId a ↔ 1 ≤ a ∧ a ≤ 2147483647) := Iff.rfl
  by_cases h1 : a < 1
  · have hd : decide (okId a) = false := by rw [decide_eq_false_iff_not, A.out]; omega
    go_enter Tryz.func38, Tryz.ntmps38
    go_wp2
    go_ret
    exact ⟨by first | rfl | (rw [hd]; rfl), rfl⟩
  · by_cases h2 : 2147483647 < a
    · have hd : decide (okId a) = false := by rw [decide_eq_false_iff_not, A.out]; omega
      go_enter Tryz.func38, Tryz.ntmps38
      go_wp2
      go_ret
      exact ⟨by first | rfl | (rw [hd]; rfl), rfl⟩
    · have hd : decide (okId a) = true := by rw [decide_eq_true_iff, A.out]; omega
      go_enter Tryz.func38, Tryz.ntmps38
      go_wp2
      go_ret
      exact ⟨by first | rfl | (rw [hd]; rfl), rfl⟩

end Go.Proofs.YthidhdffiebbgaaGreatDoor
