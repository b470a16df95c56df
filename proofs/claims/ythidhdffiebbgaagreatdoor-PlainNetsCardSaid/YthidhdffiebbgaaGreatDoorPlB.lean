/- The walks of package plain, second part: what a right net is. -/
import Derived.Test.YthidhdffiebbgaaGreatDoorProg
import Derived.Test.YthidhdffiebbgaaGreatDoorSkB
import Derived.WalkLawsBesides
import Derived.Deep.LoopGhost
import Derived.Test.YthidhdffiebbgaaGreatDoorShelf
namespace Go.Proofs.YthidhdffiebbgaaGreatDoor
open Go.RowKit Go.Proofs.YthidhdffiebbgaaGreatDoor.Sk

set_option maxRecDepth 100000 in
set_option maxHeartbeats 400000 in
theorem badId_any (a : Int) (w : World) :
    Calls Tryz.prog 70 #[.int .i64 a] w fun e w' => e = .returned (.bool (!decide (okId a))) ∧ w = w' := by
  have A : Aside (okId a ↔ 1 ≤ a ∧ a ≤ 2147483647) := Iff.rfl
  by_cases h1 : a < 1
  · go_enter Tryz.func70, Tryz.ntmps70
    go_wp2
    go_ret
    exact ⟨by rw [decide_eq_false (fun h => by have := A.out.1 h; omega)]; rfl, rfl⟩
  · by_cases h2 : 2147483647 < a
    · go_enter Tryz.func70, Tryz.ntmps70
      go_wp2
      go_ret
      exact ⟨by rw [decide_eq_false (fun h => by have := A.out.1 h; omega)]; rfl, rfl⟩
    · go_enter Tryz.func70, Tryz.ntmps70
      go_wp2
      go_ret
      exact ⟨by rw [decide_eq_true (A.out.2 ⟨by omega, by omega⟩)]; rfl, rfl⟩

set_option maxRecDepth 100000 in
set_option maxHeartbeats 400000 in
theorem rises_any (v : Value) (zs : List Int) (w : World) (hv : RdI w v zs) :
    Calls Tryz.prog 36 #[v] w fun e w' => e = .returned (.bool (decide (Rises zs))) ∧ w = w' := by
  obtain ⟨a, cap, rfl, hwf, hlen, hcs⟩ := hv
  have hlen' : zs.length ≤ 17592186043904 := by omega
  have A0 : Aside ((∀ x ∈ zs, wf64 x) ∧ (0 < zs.length → ∃ b off, a = some ⟨b, off, none⟩ ∧ b < w.heap.size ∧ ∀ j (h : j < zs.length), w.cell? ⟨b, off + j, none⟩ = some (.int .i64 zs[j]))) := ⟨hwf, hcs⟩
  clear hwf hcs hlen
  go_enter Tryz.func36, Tryz.ntmps36
  go_wp2
  go_loopg [7] zs.length (fun g i wr => ∃ k : Nat, k + g = zs.length ∧ i = .int .i64 k ∧ Rises (zs.take k) ∧ wr = w)
  case atStart => exact ⟨0, by omega, rfl, by simp [Rises], rfl⟩
  case round =>
    obtain ⟨k, hk, rfl, hr, rfl⟩ := hrel
    by_cases hlt : k < zs.length
    · obtain ⟨hwf, hcs⟩ := A0.out
      obtain ⟨b, off, rfl, hb, hc⟩ := hcs (by omega)
      have hck := hc k hlt
      obtain ⟨x, hx⟩ : ∃ x, zs[k] = x := ⟨_, rfl⟩
      rw [hx] at hck
      have hstep := rises_take_succ hlt hr
      rw [hx] at hstep
      by_cases hok : okId x
      · by_cases hk0 : k = 0
        · have hk1 : k ≤ 0 := by omega
          have B : Aside (Rises (zs.take (k + 1))) := hstep.2 ⟨hok, fun h0 => absurd h0 (by omega)⟩
          have hd : decide (okId x) = true := by simp [hok]
          clear hstep hr hwf hcs hc hok hb hx hk0
          go_wp2_with (go_at_call 70; refine (badId_any _ _).mono ?_; rintro e w' ⟨rfl, rfl⟩)
          go_roundg (gk - 1)
          case rel => exact ⟨k + 1, by omega, by go_num, B.out, rfl⟩
          case measure => omega
        · have hcp := hc (k - 1) (by omega)
          obtain ⟨y, hy⟩ : ∃ y, zs[k - 1]'(by omega) = y := ⟨_, rfl⟩
          rw [hy] at hcp
          have hy' : zs[k - 1]? = some y := by rw [← hy]; exact List.getElem?_eq_getElem _
          have hd : decide (okId x) = true := by simp [hok]
          have hpos : 0 < k := by omega
          by_cases hyx : y < x
          · have B : Aside (Rises (zs.take (k + 1))) := hstep.2 ⟨hok, fun _ z hz => by rw [hy'] at hz; cases hz; exact hyx⟩
            clear hstep hr hwf hcs hc hok hb hx hy hy'
            go_wp2_with (go_at_call 70; refine (badId_any _ _).mono ?_; rintro e w' ⟨rfl, rfl⟩)
            go_roundg (gk - 1)
            case rel => exact ⟨k + 1, by omega, by go_num, B.out, rfl⟩
            case measure => omega
          · have B : Aside (¬ Rises zs) := fun h => hyx ((hstep.1 (rises_of_take h)).2 hpos y hy')
            clear hstep hr hwf hcs hc hok hb hx hy hy'
            go_wp2_with (go_at_call 70; refine (badId_any _ _).mono ?_; rintro e w' ⟨rfl, rfl⟩)
            go_ret
            exact ⟨by simp [B.out], rfl⟩
      · have B : Aside (¬ Rises zs) := fun h => hok ((hstep.1 (rises_of_take h)).1)
        have hd : decide (okId x) = false := by simp [hok]
        clear hstep hr hwf hcs hc hok hb hx
        go_wp2_with (go_at_call 70; refine (badId_any _ _).mono ?_; rintro e w' ⟨rfl, rfl⟩)
        go_ret
        exact ⟨by simp [B.out], rfl⟩
    · have B : Aside (Rises zs) := by rw [List.take_of_length_le (by omega)] at hr; exact hr
      clear hr
      go_wp2_with fail
      go_ret
      exact ⟨by simp [B.out], rfl⟩

theorem bsearch_any (v : Value) (zs : List Int) (x : Int) (w : World) (hv : RdI w v zs) (hs : zs.Pairwise (· ≤ ·)) :
    Calls Tryz.prog 75 #[v, .int .i64 x] w fun e w' => (∃ n : Int, e = .returned (.tuple #[.int .i64 n, .bool (decide (x ∈ zs))])) ∧ Below w.heap.size w w' := by
  obtain ⟨a, cap, rfl, hwf, hlen, hcs⟩ := hv
  by_cases h0 : 0 < zs.length
  · obtain ⟨b, off, rfl, hb, hc⟩ := hcs h0
    refine (Go.Proofs.Tryz.slices_BinarySearch_int b off zs.length cap zs x w (Nat.le_refl _) (by omega) (fun j hj => by rw [hc j hj, List.getD_eq_getElem?_getD, List.getElem?_eq_getElem hj]; rfl) (by rw [List.take_length]; exact hs)).mono ?_
    rintro e w' ⟨rfl, q, rfl⟩
    refine ⟨⟨_, by rw [List.take_length, List.contains_eq_mem]⟩, ⟨rfl, rfl, rfl, Nat.le_refl _, fun _ _ => rfl⟩⟩
  · have : zs = [] := by cases zs with | nil => rfl | cons a l => simp at h0
    subst this
    refine (Go.Proofs.Tryz.slices_BinarySearch_int_empty a cap x w).mono ?_
    rintro e w' ⟨rfl, rfl⟩
    exact ⟨⟨0, by simp⟩, Below.refl _ _⟩

set_option maxRecDepth 100000 in
set_option maxHeartbeats 400000 in
theorem has_any (n : Value) (V : List Int) (E : List Edg) (x : Int) (w : World) (hn : NetAt w n V E) (hs : V.Pairwise (· ≤ ·)) :
    Calls Tryz.prog 37 #[n, .int .i64 x] w fun e w' => e = .returned (.bool (decide (x ∈ V))) ∧ Below w.heap.size w w' := by
  obtain ⟨vs, es, rfl, hV, hE⟩ := hn.ex
  have hb0 : Below w.heap.size w (w.alloc (.cells #[vs, es] 25)) := (Below.refl _ _).alloc (Nat.le_refl _) _
  go_enter Tryz.func37, Tryz.ntmps37
  go_wp2_with fail
  refine (bsearch_any vs V x _ (hV.below hb0) hs).mono ?_
  rintro e w' ⟨⟨n, rfl⟩, hb⟩
  have A : Aside (Below w.heap.size w w') := hb0.trans (hb.mono (by simp))
  clear hb hb0
  go_wp2_with fail
  go_ret
  exact ⟨rfl, A.out⟩

end Go.Proofs.YthidhdffiebbgaaGreatDoor
