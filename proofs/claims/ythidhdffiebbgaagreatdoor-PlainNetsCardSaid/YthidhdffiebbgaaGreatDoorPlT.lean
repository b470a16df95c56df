/- The walk of the law PlainTrees. -/
import Derived.Test.YthidhdffiebbgaaGreatDoorPlS
import Derived.Test.YthidhdffiebbgaaGreatDoorTreesB
namespace Go.Proofs.YthidhdffiebbgaaGreatDoor
open Go.RowKit Go.Proofs.YthidhdffiebbgaaGreatDoor.Sk

set_option maxHeartbeats 1000000 in
theorem has_ref (v : Value) (zs : List Int) (x : Int) (w : World) (hI : RdI w v zs) :
    Calls Tryz.prog 30 #[v, .int .i64 x] w fun e w' => e = .returned (.bool (decide (x ∈ zs))) ∧ w = w' := by
  obtain ⟨a, cap, rfl, _, hlen, _⟩ := id hI
  have A : Aside (RdI w (.slice a zs.length cap) zs) := hI
  clear hI
  go_enter Tryz.func30, Tryz.ntmps30
  go_wp2_with fail
  go_loopg [5] zs.length (fun g i wr => ∃ k : Nat, k + g = zs.length ∧ i = .int .i64 k ∧ x ∉ zs.take k ∧ wr = w)
  case atStart => exact ⟨0, by omega, rfl, by simp, rfl⟩
  case round =>
    obtain ⟨k, hk, rfl, hno, rfl⟩ := hrel
    by_cases hlt : k < zs.length
    · obtain ⟨_, hwy, b, off, rfl, hb, g0⟩ := A.out.get hlt
      obtain ⟨y, hy⟩ : ∃ y, zs[k] = y := ⟨_, rfl⟩
      rw [hy] at g0
      have hsnoc : zs.take (k + 1) = zs.take k ++ [y] := by rw [List.take_succ_eq_append_getElem hlt, hy]
      have hmem : y ∈ zs := hy ▸ List.getElem_mem hlt
      by_cases hxy : y = x
      · subst hxy
        have B : Aside (decide (y ∈ zs) = true) := by simpa [Aside] using hmem
        clear hno hsnoc hmem hy
        go_wp2_with fail
        go_ret
        exact ⟨by rw [B.out]; rfl, rfl⟩
      · have B : Aside (x ∉ zs.take (k + 1)) := by
          show x ∉ zs.take (k + 1)
          rw [hsnoc]; simp [hno, Ne.symm hxy]
        clear hno hsnoc hmem hy
        go_wp2_with fail
        go_roundg (gk - 1)
        case rel => exact ⟨k + 1, by omega, by go_num, B.out, rfl⟩
        case measure => omega
    · have hkk : k = zs.length := by omega
      subst hkk
      rw [List.take_length] at hno
      have B : Aside (decide (x ∈ zs) = false) := by simpa [Aside] using hno
      clear hno
      go_wp2_with fail
      go_ret
      exact ⟨by rw [B.out]; rfl, rfl⟩

end Go.Proofs.YthidhdffiebbgaaGreatDoor
