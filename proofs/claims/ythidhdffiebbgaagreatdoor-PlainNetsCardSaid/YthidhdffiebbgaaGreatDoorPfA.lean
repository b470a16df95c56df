/- The walk of the reference's SameInts. -/
import Derived.Test.YthidhdffiebbgaaGreatDoorPlT
import Derived.Test.YthidhdffiebbgaaGreatDoorForestB
import Derived.Test.YthidhdffiebbgaaGreatDoorRc
namespace Go.Proofs.YthidhdffiebbgaaGreatDoor
open Go.RowKit Go.Proofs.YthidhdffiebbgaaGreatDoor.Sk

theorem rdI_same {w w' : World} {v : Value} {zs : List Int} (h : RdI w v zs) (hh : w'.heap = w.heap) : RdI w' v zs := by
  obtain ⟨a, cap, h1, h2, h3, h4⟩ := h
  refine ⟨a, cap, h1, h2, h3, fun h0 => ?_⟩
  obtain ⟨b, off, e, hlt, hc⟩ := h4 h0
  exact ⟨b, off, e, by rw [hh]; exact hlt, fun j hj => by
    have := hc j hj
    unfold World.cell? at this ⊢
    rw [hh]
    exact this⟩

set_option maxHeartbeats 1000000 in
theorem same_ref (v1 v2 : Value) (zs ys : List Int) (w : World) (h1 : RdI w v1 zs) (h2 : RdI w v2 ys) :
    Calls Tryz.prog 27 #[v1, v2] w fun e w' => e = .returned (.bool (decide (zs = ys))) ∧ ∃ q, w' = w.drewN q := by
  have h1' := h1
  have h2' := h2
  obtain ⟨a, cap, rfl, _, hlen, _⟩ := h1'
  obtain ⟨b, cbp, rfl, _, hlen2, _⟩ := h2'
  have A : Aside (RdI w (.slice a zs.length cap) zs ∧ RdI w (.slice b ys.length cbp) ys) := ⟨h1, h2⟩
  clear h1 h2
  by_cases hl : zs.length = ys.length
  · have hlb : ((zs.length : Int) != ys.length) = false := by simp [hl]
    have L : Aside (zs.length = ys.length) := hl
    clear hl
    go_enter Tryz.func27, Tryz.ntmps27
    go_wp2_with fail
    go_loopg [5] zs.length (fun g i wr => ∃ (k q : Nat), k + g = zs.length ∧ i = .int .i64 k ∧ zs.take k = ys.take k ∧ wr = w.drewN q)
    case atStart => exact ⟨0, 0, by omega, rfl, by simp, rfl⟩
    case round =>
      obtain ⟨k, q, hk, rfl, he, rfl⟩ := hrel
      by_cases hlt : k < zs.length
      · have hlt2 : k < ys.length := by rw [← L.out]; exact hlt
        obtain ⟨_, _, bb, off, rfl, _, g0⟩ := (rdI_same A.out.1 (w' := w.drewN q) rfl).get hlt
        obtain ⟨_, _, bb2, off2, rfl, _, c0⟩ := (rdI_same A.out.2 (w' := w.drewN q) rfl).get hlt2
        obtain ⟨x, hx⟩ : ∃ x, zs[k] = x := ⟨_, rfl⟩
        obtain ⟨y, hy⟩ : ∃ y, ys[k] = y := ⟨_, rfl⟩
        rw [hx] at g0
        rw [hy] at c0
        have hs1 : zs.take (k + 1) = zs.take k ++ [x] := by rw [List.take_succ_eq_append_getElem hlt, hx]
        have hs2 : ys.take (k + 1) = ys.take k ++ [y] := by rw [List.take_succ_eq_append_getElem hlt2, hy]
        have hxy : (x != y) = true ∨ (x != y) = false := by cases (x != y) <;> simp
        have Q : Aside (zs.take k = ys.take k ∧ zs.take (k + 1) = zs.take k ++ [x] ∧ ys.take (k + 1) = ys.take k ++ [y] ∧ zs[k]? = some x ∧ ys[k]? = some y) := ⟨he, hs1, hs2, by rw [List.getElem?_eq_getElem hlt, hx], by rw [List.getElem?_eq_getElem hlt2, hy]⟩
        clear he hs1 hs2 hx hy
        rcases hxy with hxy | hxy
        · go_wp2_with fail
          go_region_held3 (fun w' => w'.cell? ⟨bb, off + k, none⟩ = some (.int .i64 x) ∧ w'.cell? ⟨bb2, off2 + k, none⟩ = some (.int .i64 y)) (first | exact ⟨g0, c0⟩ | go_keep) (fail)
          rename_i hH
          clear hH
          go_wp2_with fail
          go_ret
          have hne : ¬ zs = ys := fun h => by
            obtain ⟨_, _, _, q4, q5⟩ := Q.out
            rw [h, q5] at q4
            simp at q4
            simp [q4] at hxy
          have D : decide (zs = ys) = false := by simp [hne]
          exact ⟨by rw [D]; rfl, q + 1, rfl⟩
        · go_wp2_with fail
          go_region_held3 (fun w' => w'.cell? ⟨bb, off + k, none⟩ = some (.int .i64 x) ∧ w'.cell? ⟨bb2, off2 + k, none⟩ = some (.int .i64 y)) (first | exact ⟨g0, c0⟩ | go_keep) (fail)
          rename_i hH
          clear hH
          go_wp2_with fail
          obtain ⟨q1, q2, q3, q4, q5⟩ := Q.out
          go_roundg (gk - 1)
          case rel => exact ⟨k + 1, q + 1, by omega, by go_num, by rw [q2, q3, q1]; simp at hxy; rw [hxy], rfl⟩
          case measure => omega
      · have hkk : k = zs.length := by omega
        subst hkk
        have hzy : zs = ys := by
          rw [List.take_length, L.out, List.take_length] at he
          exact he
        have D : Aside (decide (zs = ys) = true) := by simp [Aside, hzy]
        clear he hzy
        go_wp2_with fail
        go_ret
        exact ⟨by rw [D.out]; rfl, q, rfl⟩
  · have hlb : ((zs.length : Int) != ys.length) = true := by simp; omega
    have D : Aside (decide (zs = ys) = false) := by
      show decide (zs = ys) = false
      rw [decide_eq_false_iff_not]
      exact fun h => hl (by rw [h])
    clear hl
    go_enter Tryz.func27, Tryz.ntmps27
    go_wp2_with fail
    go_ret
    exact ⟨by rw [D.out]; rfl, 0, rfl⟩

end Go.Proofs.YthidhdffiebbgaaGreatDoor
