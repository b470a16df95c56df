/- The walks of package plain, fifth part: Joined. -/
import Derived.Test.YthidhdffiebbgaaGreatDoorPlD
import Derived.Test.YthidhdffiebbgaaGreatDoorDsuB
namespace Go.Proofs.YthidhdffiebbgaaGreatDoor
open Go.RowKit Go.Proofs.YthidhdffiebbgaaGreatDoor.Sk

theorem rdI_two (w : World) (u v : Int) (hu : wf64 u) (hv : wf64 v) : RdI (w.alloc (.cells #[.int .i64 u, .int .i64 v] 3)) (.slice (some ⟨w.heap.size, 0, none⟩) 2 2) [u, v] := by
  refine ⟨_, 2, rfl, by simp [hu, hv], by simp, fun _ => ⟨_, 0, rfl, by simp, fun j hj => ?_⟩⟩
  rw [World.cell?_alloc_at _ _ _ _ rfl]
  match j, hj with
  | 0, _ => rfl
  | 1, _ => rfl

/-- 'join' over what the edges join -/
theorem join_dsu (b n k : Nat) (M : Int → Option Int) (E : List Edg) (e : Edg) (w : World) (hM : MapAt Tryz.prog 3 w b n (encM M)) (hD : Dsu M E k) (hu : wf64 e.u) (hv : wf64 e.v) (hn : n + 2 * k + 1 < maxLen) :
    Calls Tryz.prog 41 #[.map (some b), .int .i64 e.u, .int .i64 e.v] w fun r w' => r = .returned (.bool (!connB E e.u e.v)) ∧
      ∃ M', MapAt Tryz.prog 3 w' b (n + 2 * k + 1) (encM M') ∧ Dsu M' (E ++ [e]) (k + 1) ∧ w.grownBy w' (some b) := by
  obtain ⟨d, r, hr⟩ := hD.tot e.u
  obtain ⟨d', s, hs⟩ := hD.tot e.v
  have h1 := hD.deep _ _ _ hr
  have h2 := hD.deep _ _ _ hs
  refine (join_any b n d d' M e.u e.v r s w hM hD.wf hu hv hr hs (by omega)).mono ?_
  rintro x w' ⟨rfl, N, M', hM', hW', hk, hMN, hg⟩
  refine ⟨?_, M', hM'.mono (by omega), ?_, hg⟩
  · have := hD.test ⟨_, hr⟩ ⟨_, hs⟩
    rw [← this]
    by_cases hrs : r = s <;> simp [hrs]
  · rw [hMN] at hW' ⊢
    exact hD.join hk hW' ⟨_, hr⟩ ⟨_, hs⟩

theorem root_dsu (b n k : Nat) (M : Int → Option Int) (E : List Edg) (v r : Int) (w : World) (hM : MapAt Tryz.prog 3 w b n (encM M)) (hD : Dsu M E k) (hv : wf64 v) (hr : Root M v r) (hn : n + k < maxLen) :
    Calls Tryz.prog 42 #[.map (some b), .int .i64 v] w fun x w' => x = .returned (.int .i64 r) ∧
      ∃ M', MapAt Tryz.prog 3 w' b (n + k) (encM M') ∧ Dsu M' E k ∧ Keeps M M' ∧ w.grownBy w' (some b) := by
  obtain ⟨d, hr⟩ := hr
  have h1 := hD.deep _ _ _ hr
  refine (root_any b n d M v r w hM hD.wf hv hr (by omega)).mono ?_
  rintro x w' ⟨rfl, M', hM', hW', hk, hg⟩
  exact ⟨rfl, M', hM'.mono (by omega), hD.keeps hk hW', hk, hg⟩

noncomputable def joinedB (V : List Int) (E : List Edg) (u v : Int) : Bool := if checkA V E [u, v] = 0 then connB E u v else false

set_option maxRecDepth 100000 in
set_option maxHeartbeats 1000000 in
theorem joined_any (n : Value) (V : List Int) (E : List Edg) (u v : Int) (w : World) (hn : NetAt w n V E) (hu : wf64 u) (hv : wf64 v) :
    Calls Tryz.prog 12 #[n, .int .i64 u, .int .i64 v] w fun e w' => e = .returned (.tuple #[.bool (joinedB V E u v), .int .i64 (checkA V E [u, v])]) ∧ Below w.heap.size w w' := by
  obtain ⟨vs, es, rfl, hV, hE⟩ := hn.ex
  have hb0 : Below w.heap.size w ((w.alloc (.cells #[vs, es] 25)).alloc (.cells #[.int .i64 u, .int .i64 v] 3)) := ((Below.refl _ _).alloc (Nat.le_refl _) _).alloc (by simp) _
  have hn0 := hn.below hb0
  have hq := rdI_two (w.alloc (.cells #[vs, es] 25)) u v hu hv
  simp only [World.size_alloc] at hq
  have A : Aside (NetAt w (.agg #[vs, es]) V E ∧ RdE w es E) := ⟨hn, hE⟩
  have hmm := @run_makeMap Tryz.prog
  clear hn hV hE
  go_enter Tryz.func12, Tryz.ntmps12
  go_wp2_with fail
  refine (checkA_any _ _ V E [u, v] _ hn0 hq (by simp)).mono ?_
  rintro _ w1 ⟨rfl, hb1⟩
  have hB1 : Below w.heap.size w w1 := hb0.trans (hb1.mono (by simp; omega))
  by_cases hr : checkA V E [u, v] = 0
  · have hR : Right V E := by
      by_cases h : Right V E
      · exact h
      · rw [checkA_no h] at hr; omega
    have n1 : w1.cell? ⟨w.heap.size, 1, none⟩ = some es := by rw [bcell hb1 _ _ (by simp; omega), World.cell?_alloc_past _ _ _ (by simp), World.cell?_alloc_at _ _ _ _ rfl]; rfl
    have hz1 : w.heap.size + 2 ≤ w1.heap.size := by have := hb1.size; simpa using this
    have hz2 : w.heap.size < w1.heap.size := by omega
    obtain ⟨ea, ecap, rfl, _, _, _⟩ := A.out.2
    have B : Aside (Right V E ∧ Below w.heap.size w w1 ∧ w.heap.size + 2 ≤ w1.heap.size ∧ joinedB V E u v = connB E u v ∧ checkA V E [u, v] = 0 ∧ wf64 u ∧ wf64 v) := ⟨hR, hB1, hz1, by unfold joinedB; rw [if_pos hr], hr, hu, hv⟩
    rw [hr]
    clear hn0 hb0 hb1 hB1 hr hR hz1 hq hu hv
    go_wp2_with fail
    go_loopg [24] E.length (fun g i wr => ∃ (k nn : Nat) (M : Int → Option Int), k + g = E.length ∧ i = .int .i64 k ∧ Below w.heap.size w wr ∧ nn ≤ k * 5000 ∧ w1.heap.size + 1 ≤ wr.heap.size ∧
      MapAt Tryz.prog 3 wr w1.heap.size nn (encM M) ∧ Dsu M (E.take k) k)
    case atStart =>
      exact ⟨0, 0, fun _ => none, by omega, rfl, B.out.2.1.alloc B.out.2.1.size _, by omega, by simp, by rw [encM_none]; exact MapAt.made _ _ _, by simpa using Dsu.empty⟩
    case round =>
      obtain ⟨k, nn, M, hk, rfl, hbel, hnn, hsz, hM, hD⟩ := hrel
      have hE8 : E.length ≤ 2048 := B.out.1.2.1
      by_cases hlt : k < E.length
      · obtain ⟨_, hew, b, off, rfl, hb, g0, g1, g2, g3⟩ := (A.out.2.below hbel).get hlt
        obtain ⟨e, hx⟩ : ∃ e, E[k] = e := ⟨_, rfl⟩
        rw [hx] at g0 g1 g2 g3 hew
        have D : Aside (Below w.heap.size w wr ∧ k + gk = E.length ∧ nn ≤ k * 5000 ∧ MapAt Tryz.prog 3 wr w1.heap.size nn (encM M) ∧ Dsu M (E.take k) k ∧ e.wf ∧ E[k] = e ∧ w1.heap.size + 1 ≤ wr.heap.size ∧ E.length ≤ 2048) := ⟨hbel, hk, hnn, hM, hD, hew, hx, hsz, hE8⟩
        clear hbel hk hnn hM hD hew hx hsz hE8
        go_wp2_with fail
        obtain ⟨d1, d2, d3, d4, d5, d6, d7, d8, d9⟩ := D.out
        refine (join_dsu w1.heap.size nn k M (E.take k) e _ (d4.alloc _) d5 d6.2.1 d6.2.2.1 (by unfold maxLen; omega)).mono ?_
        rintro _ w2 ⟨rfl, M', hM', hD', hg⟩
        have F : Aside (Below w.heap.size w w2 ∧ MapAt Tryz.prog 3 w2 w1.heap.size (nn + 2 * k + 1) (encM M') ∧ Dsu M' (E.take k ++ [e]) (k + 1) ∧ w1.heap.size + 1 ≤ w2.heap.size) :=
          ⟨(d1.alloc d1.size _).grown hg (by have := d1.size; simp; omega) (fun j hj => by cases hj; exact B.out.2.1.size), hM', hD', by have := hg.size; simp at this; omega⟩
        clear d1 d2 d3 d4 d5 d6 d7 d8 d9 hM' hD' hg
        go_wp2_with fail
        obtain ⟨d1, d2, d3, d4, d5, d6, d7, d8, d9⟩ := D.out
        obtain ⟨f1, f2, f3, f4⟩ := F.out
        go_roundg (gk - 1)
        case rel => exact ⟨k + 1, _, M', by omega, by go_num, f1, by omega, f4, f2, by rw [List.take_succ_eq_append_getElem hlt, d7]; exact f3⟩
        case measure => omega
      · have hkk : k = E.length := by omega
        subst hkk
        rw [List.take_length] at hD
        obtain ⟨_, r, hr⟩ := hD.tot u
        obtain ⟨_, s, hs⟩ := hD.tot v
        have D : Aside (Below w.heap.size w wr ∧ nn ≤ E.length * 5000 ∧ MapAt Tryz.prog 3 wr w1.heap.size nn (encM M) ∧ Dsu M E E.length ∧ E.length ≤ 2048 ∧ Root M u r ∧ Root M v s) := ⟨hbel, hnn, hM, hD, hE8, ⟨_, hr⟩, ⟨_, hs⟩⟩
        clear hbel hnn hM hD hE8 hr hs
        go_wp2_with fail
        obtain ⟨d1, d2, d3, d4, d5, d6, d7⟩ := D.out
        refine (root_dsu w1.heap.size nn E.length M E u r _ d3 d4 B.out.2.2.2.2.2.1 d6 (by unfold maxLen; omega)).mono ?_
        rintro _ w2 ⟨rfl, M', hM', hD', hkp, hg⟩
        clear d1 d2 d3 d4 d5 d6 d7
        have F : Aside (MapAt Tryz.prog 3 w2 w1.heap.size (nn + E.length) (encM M') ∧ Dsu M' E E.length ∧ Keeps M M' ∧ wr.grownBy w2 (some w1.heap.size)) := ⟨hM', hD', hkp, hg⟩
        clear hM' hD' hkp hg
        go_wp2_with fail
        obtain ⟨d1, d2, d3, d4, d5, d6, d7⟩ := D.out
        obtain ⟨f1, f2, f3, f4⟩ := F.out
        refine (root_dsu w1.heap.size (nn + E.length) E.length M' E v s _ f1 f2 B.out.2.2.2.2.2.2 (f3.root d7) (by unfold maxLen; omega)).mono ?_
        rintro _ w3 ⟨rfl, M2, hM2, hD2, hkp2, hg2⟩
        have G : Aside (Below w.heap.size w w3 ∧ (r == s) = connB E u v) :=
          ⟨(d1.grown f4 d1.size (fun j hj => by cases hj; exact B.out.2.1.size)).grown hg2 (by have := f4.size; have := d1.size; omega) (fun j hj => by cases hj; exact B.out.2.1.size), d4.test d6 d7⟩
        clear d1 d2 d3 d4 d5 d6 d7 f1 f2 f3 f4 hM2 hD2 hkp2 hg2
        go_wp2_with fail
        go_ret2
        exact ⟨by rw [B.out.2.2.2.1, B.out.2.2.2.2.1, ← G.out.2]; rfl, G.out.1⟩
  · have B : Aside (Below w.heap.size w w1 ∧ joinedB V E u v = false) := ⟨hB1, by unfold joinedB; rw [if_neg hr]⟩
    obtain ⟨c, hc⟩ : ∃ c, checkA V E [u, v] = c := ⟨_, rfl⟩
    have B' : Aside (checkA V E [u, v] = c) := hc
    rw [hc]
    rw [hc] at hr
    have hne : (c != 0) = true := by simp [hr]
    clear hn0 hb0 hb1 hB1 hr hc hq
    go_wp2_with fail
    go_ret2
    exact ⟨by rw [B.out.2, B'.out]; rfl, B.out.1⟩

end Go.Proofs.YthidhdffiebbgaaGreatDoor
