/- The walks of package plain, first part: 'sets'. -/
import Derived.Test.YthidhdffiebbgaaGreatDoorProg
import Derived.Test.YthidhdffiebbgaaGreatDoorDsuA
import Derived.WalkLawsBesides
import Derived.Deep.LoopGhost
namespace Go.Proofs.YthidhdffiebbgaaGreatDoor
open Go.RowKit Go.Proofs.YthidhdffiebbgaaGreatDoor.Sk

theorem zero3 (w : World) : (zeroValue 3).run Tryz.prog w = .ok (.int .i64 0) w := by kernel_rfl

set_option maxRecDepth 100000 in
set_option maxHeartbeats 400000 in
theorem root_any (b n d : Nat) (M : Int → Option Int) (v r : Int) (w : World) (hM : MapAt Tryz.prog 3 w b n (encM M)) (hW : Wf M) (hv : wf64 v) (hr : Rt M d v r) (hn : n + d < maxLen) :
    Calls Tryz.prog 42 #[.map (some b), .int .i64 v] w fun e w' => e = .returned (.int .i64 r) ∧ ∃ M', MapAt Tryz.prog 3 w' b (n + d) (encM M') ∧ Wf M' ∧ Keeps M M' ∧ w.grownBy w' (some b) := by
  go_enter Tryz.func42, Tryz.ntmps42
  go_wp2
  go_loopg [1] d (fun k x wr => ∃ (y : Int) (N : Int → Option Int) (nn : Nat), x = .int .i64 y ∧ wf64 y ∧ Rt N k y r ∧ nn + k ≤ n + d ∧ MapAt Tryz.prog 3 wr b nn (encM N) ∧ Wf N ∧ Keeps M N ∧ w.grownBy wr (some b))
  case atStart => exact ⟨v, M, n, rfl, hv, hr, Nat.le_refl _, hM, hW, Keeps.refl _, World.grownBy.refl _ _⟩
  case round =>
    obtain ⟨y, N, nn, rfl, hy, hrt, hle, hN, hwN, hk, hg⟩ := hrel
    have look1 := hN.look_ok Tryz.underlying3 Tryz.underlying92 (zero3 wr) hy
    cases hrt with
    | here h =>
      simp only [encM, h, Option.map_none, Option.getD_none, Option.isSome_none] at look1
      have A : Aside (nn + 0 ≤ n + d ∧ MapAt Tryz.prog 3 wr b nn (encM N) ∧ Wf N ∧ Keeps M N ∧ w.grownBy wr (some b)) := ⟨hle, hN, hwN, hk, hg⟩
      clear hle hN hwN hk hg hM hW hr hn hy h hv
      go_wp2
      go_ret
      obtain ⟨h1, h2, h3, h4, h5⟩ := A.out
      exact ⟨rfl, N, h2.mono (by omega), h3, h4, h5⟩
    | @up k1 _ u _ h k =>
      have hu : wf64 u := hwN _ _ h
      have look2 := hN.look_ok Tryz.underlying3 Tryz.underlying92 (zero3 wr) hu
      simp only [encM, h, Option.map_some, Option.getD_some, Option.isSome_some] at look1
      cases hx : N u with
      | none =>
        simp only [encM, hx, Option.map_none, Option.getD_none, Option.isSome_none] at look2
        have A : Aside (nn + (k1 + 1) ≤ n + d ∧ MapAt Tryz.prog 3 wr b nn (encM N) ∧ Wf N ∧ Keeps M N ∧ w.grownBy wr (some b) ∧ wf64 u ∧ Rt N k1 u r) := ⟨hle, hN, hwN, hk, hg, hu, k⟩
        clear hle hN hwN hk hg hM hW hr hn hy h hv hx hu k
        go_wp2
        obtain ⟨h1, h2, h3, h4, h5, h6, h7⟩ := A.out
        go_roundg k1
        case rel => exact ⟨u, N, nn, rfl, h6, h7, by omega, h2, h3, h4, h5⟩
        case measure => omega
      | some x =>
        simp only [encM, hx, Option.map_some, Option.getD_some, Option.isSome_some] at look2
        obtain ⟨wr', upd3, hN', hturn⟩ := hN.store Tryz.underlying3 Tryz.underlying92 (by omega) hy (.int .i64 x)
        rw [encM_upd] at hN'
        have hkeep := Keeps.skip h hx
        obtain ⟨k2, hk2, hrt'⟩ := hkeep _ _ _ k
        have A : Aside (nn + (k1 + 1) ≤ n + d ∧ MapAt Tryz.prog 3 wr' b (nn + 1) (encM (updI N y x)) ∧ Wf (updI N y x) ∧ Keeps M (updI N y x) ∧ w.grownBy wr' (some b) ∧ wf64 u ∧ Rt (updI N y x) k2 u r ∧ k2 ≤ k1) :=
          ⟨hle, hN', hwN.upd (hwN _ _ hx), hk.trans hkeep, hg.trans hturn.grown, hu, hrt', hk2⟩
        clear hle hN hwN hk hg hM hW hr hn hy h hv hx hu k hN' hkeep hk2 hrt' hturn
        go_wp2
        obtain ⟨h1, h2, h3, h4, h5, h6, h7, h8⟩ := A.out
        go_roundg k2
        case rel => exact ⟨u, updI N y x, nn + 1, rfl, h6, h7, by omega, h2, h3, h4, h5⟩
        case measure => omega

set_option maxRecDepth 100000 in
set_option maxHeartbeats 400000 in
/-- 'join': the roots of u and v are made one; it tells whether they were two. -/
theorem join_any (b n d d' : Nat) (M : Int → Option Int) (u v r s : Int) (w : World) (hM : MapAt Tryz.prog 3 w b n (encM M)) (hW : Wf M) (hu : wf64 u) (hv : wf64 v) (hr : Rt M d u r) (hs : Rt M d' v s) (hn : n + d + d' + 1 < maxLen) :
    Calls Tryz.prog 41 #[.map (some b), .int .i64 u, .int .i64 v] w fun e w' => e = .returned (.bool (decide (r ≠ s))) ∧
      ∃ N M', MapAt Tryz.prog 3 w' b (n + d + d' + 1) (encM M') ∧ Wf M' ∧ Keeps M N ∧ M' = (if r = s then N else updI N r s) ∧ w.grownBy w' (some b) := by
  go_enter Tryz.func41, Tryz.ntmps41
  go_wp2_with fail
  refine (root_any b n d M u r _ hM hW hu hr (by omega)).mono ?_
  rintro e w1 ⟨rfl, M1, hM1, hW1, hk1, hg1⟩
  obtain ⟨d2, hd2, hs1⟩ := hk1 _ _ _ hs
  go_wp2_with fail
  refine (root_any b (n + d) d2 M1 v s _ hM1 hW1 hv hs1 (by omega)).mono ?_
  rintro e w2 ⟨rfl, M2, hM2, hW2, hk2, hg2⟩
  have hwr : wf64 r := hr.wf hW hu
  have hws : wf64 s := hs.wf hW hv
  by_cases hrs : r = s
  · have A : Aside (MapAt Tryz.prog 3 w2 b (n + d + d2) (encM M2) ∧ Wf M2 ∧ Keeps M M2 ∧ w.grownBy w2 (some b) ∧ d2 ≤ d') := ⟨hM2, hW2, hk1.trans hk2, hg1.trans hg2, hd2⟩
    clear hM hW hM1 hW1 hk1 hg1 hM2 hW2 hk2 hg2 hr hs hs1 hu hv hwr hws hn hd2
    subst hrs
    go_wp2_with fail
    go_ret
    obtain ⟨h1, h2, h3, h4, h5⟩ := A.out
    exact ⟨by simp, M2, M2, h1.mono (by omega), h2, h3, by simp, h4⟩
  · obtain ⟨w3, upd3, hM3, hturn⟩ := hM2.store Tryz.underlying3 Tryz.underlying92 (by omega) hwr (.int .i64 s)
    rw [encM_upd] at hM3
    have A : Aside (MapAt Tryz.prog 3 w3 b (n + d + d2 + 1) (encM (updI M2 r s)) ∧ Wf (updI M2 r s) ∧ Keeps M M2 ∧ w.grownBy w3 (some b) ∧ d2 ≤ d') := ⟨hM3, hW2.upd hws, hk1.trans hk2, (hg1.trans hg2).trans hturn.grown, hd2⟩
    clear hM hW hM1 hW1 hk1 hg1 hM2 hW2 hk2 hg2 hr hs hs1 hu hv hwr hws hn hd2 hM3 hturn
    have hne : (r == s) = false := by simp [hrs]
    go_wp2_with fail
    go_ret
    obtain ⟨h1, h2, h3, h4, h5⟩ := A.out
    exact ⟨by simp, M2, updI M2 r s, h1.mono (by omega), h2, h3, by simp, h4⟩

end Go.Proofs.YthidhdffiebbgaaGreatDoor
