/- The walks of package plain, third part: Check. -/
import Derived.Test.YthidhdffiebbgaaGreatDoorPlB
namespace Go.Proofs.YthidhdffiebbgaaGreatDoor
open Go.RowKit Go.Proofs.YthidhdffiebbgaaGreatDoor.Sk

theorem info3 : (Tryz.prog.info? 3).map (fun i => (i.zero, i.size, i.bytes)) = some (some (.int .i64 0), 1, 8) := by kernel_rfl

theorem make22 (n : Nat) (hn : n ≤ 2048) (w : World) : (Instr.makeSlice 22 (.int .i64 (n : Int)) (.int .i64 (n : Int))).run Tryz.prog w = .ok (.slice (some ⟨w.heap.size, 0, none⟩) n n) (w.alloc (.cells (madeCells #[.int .i64 0] n) 3)) := by
  obtain ⟨i0, hi, hz0, hz1, hz2⟩ := info_parts info3
  have := run_make (P := Tryz.prog) w 22 3 i0 (.int .i64 0) Tryz.underlying22 hi hz0 .i64 .i64 n n (by omega) (by omega) (by rw [hz2]; omega) (by omega)
  rw [this, hz1]
  simp [Value.cells]

/-- the ids that have been written, and the zeros behind them -/
def idRow (E : List Edg) (k : Nat) : List Value := (E.take k).map (fun e => Value.int .i64 e.id) ++ List.replicate (E.length - k) (.int .i64 0)

theorem idRow_step (E : List Edg) (k : Nat) (hk : k < E.length) : (idRow E k).set k (.int .i64 (E[k]).id) = idRow E (k + 1) := by
  unfold idRow
  have h1 : ((E.take k).map (fun e => Value.int .i64 e.id)).length = k := by simp; omega
  rw [List.set_append_right _ _ (by omega), h1, Nat.sub_self, List.take_succ_eq_append_getElem hk, List.map_append, List.append_assoc]
  congr 1
  obtain ⟨m, hm⟩ : ∃ m, E.length - k = m + 1 := ⟨E.length - k - 1, by omega⟩
  have hm' : E.length - (k + 1) = m := by omega
  rw [hm, hm', List.replicate_succ, List.set_cons_zero]
  rfl

theorem idRow_end (E : List Edg) : idRow E E.length = (E.map Edg.id).map (Value.int .i64) := by simp [idRow]

set_option maxRecDepth 100000 in
set_option maxHeartbeats 1000000 in
theorem check_any (n : Value) (V : List Int) (E : List Edg) (w : World) (hn : NetAt w n V E) :
    Calls Tryz.prog 9 #[n] w fun e w' => e = .returned (.int .i64 (checkN V E)) ∧ Below w.heap.size w w' := by
  obtain ⟨vs, es, rfl, hV, hE⟩ := hn.ex
  have hb0 : Below w.heap.size w (w.alloc (.cells #[vs, es] 25)) := (Below.refl _ _).alloc (Nat.le_refl _) _
  have hV0 := hV.below hb0
  have A0 : Aside (Below w.heap.size w (w.alloc (.cells #[vs, es] 25)) ∧ RdI w vs V ∧ RdE w es E) := ⟨hb0, hV, hE⟩
  obtain ⟨va, vcap, rfl, hVwf, hVlen, hVc⟩ := hV
  obtain ⟨ea, ecap, rfl, hEwf, hElen, hEc⟩ := hE
  clear hVwf hVc hEwf hEc
  by_cases hv : 2048 < V.length
  · have B : Aside (¬ Right V E) := fun h => by have := h.1; omega
    clear hb0 hV0
    go_enter Tryz.func9, Tryz.ntmps9
    go_wp2_with fail
    go_ret
    exact ⟨by rw [checkN_no B.out]; rfl, A0.out.1⟩
  by_cases he : 2048 < E.length
  · have B : Aside (¬ Right V E) := fun h => by have := h.2.1; omega
    clear hb0 hV0
    go_enter Tryz.func9, Tryz.ntmps9
    go_wp2_with fail
    go_ret
    exact ⟨by rw [checkN_no B.out]; rfl, A0.out.1⟩
  by_cases hr : Rises V
  · have hd : decide (Rises V) = true := by simp [hr]
    have hmk := make22 E.length (by omega)
    have C : Aside (Rises V) := hr
    clear hb0 hr hVlen hElen
    go_enter Tryz.func9, Tryz.ntmps9
    go_wp2_with (go_at_call 36; refine (rises_any _ V _ hV0).mono ?_; rintro e w' ⟨rfl, rfl⟩)
    have hmade : ((w.alloc (.cells #[.slice va V.length vcap, .slice ea E.length ecap] 25)).alloc (.cells (madeCells #[.int .i64 0] E.length) 3)).ownsRow w.heap.size 3 1 (.slice (some ⟨w.heap.size + 1, 0, none⟩) E.length E.length) E.length (idRow E 0) := by
      have h := World.ownsRow_lit (base := w.heap.size) (e := 3) (size := 1) (w.alloc (.cells #[.slice va V.length vcap, .slice ea E.length ecap] 25)) (madeCells #[.int .i64 0] E.length) E.length (by simp) (by unfold maxLen; omega) (by rw [size_madeCells]; omega)
      rw [toList_madeCells_one] at h
      simpa [idRow] using h
    go_loopg [29] E.length (fun g i wr => ∃ k : Nat, k + g = E.length ∧ i = .int .i64 k ∧ Below w.heap.size w wr ∧ w.heap.size + 2 ≤ wr.heap.size ∧
      wr.cell? ⟨w.heap.size, 0, none⟩ = some (.slice va V.length vcap) ∧ wr.cell? ⟨w.heap.size, 1, none⟩ = some (.slice ea E.length ecap) ∧
      wr.ownsRow w.heap.size 3 1 (.slice (some ⟨w.heap.size + 1, 0, none⟩) E.length E.length) E.length (idRow E k) ∧ ∀ e ∈ E.take k, okE V e)
    case atStart =>
      refine ⟨0, by omega, rfl, ((Below.refl _ _).alloc (Nat.le_refl _) _).alloc (by simp) _, by simp, ?_, ?_, hmade, by simp⟩
      · rw [World.cell?_alloc_past _ _ _ (by simp), World.cell?_alloc_at _ _ _ _ rfl]; rfl
      · rw [World.cell?_alloc_past _ _ _ (by simp), World.cell?_alloc_at _ _ _ _ rfl]; rfl
    case round =>
      obtain ⟨k, hk, rfl, hbel, hsz, hc0, hc1, hrow, hall⟩ := hrel
      by_cases hlt : k < E.length
      · have hcid := hrow.cellAt k (by omega)
        have hlen1 := hrow.1
        have hcid' : ∃ u, wr.cell? ⟨w.heap.size + 1, k, none⟩ = some u := ⟨_, by rw [hcid]; exact List.getElem?_eq_getElem (by omega)⟩
        obtain ⟨u0, hu0⟩ := hcid'
        have hfz := hrow.frozenAt k
        have hst := hrow.stored k (.int .i64 (E[k]).id)
        rw [idRow_step E k hlt] at hst
        obtain ⟨_, hV', hE'⟩ := A0.out
        obtain ⟨_, hew, b, off, rfl, hb, g0, g1, g2, g3⟩ := (hE'.below hbel).get hlt
        obtain ⟨e, hx⟩ : ∃ e, E[k] = e := ⟨_, rfl⟩
        have hs1 : w.heap.size + 1 < wr.heap.size := by omega
        have hs0 : w.heap.size < wr.heap.size := by omega
        rw [hx] at g0 g1 g2 g3 hst hew
        by_cases hok : okE V e
        · have B : Aside (∀ e ∈ E.take (k + 1), okE V e) := fun e' he' => by
            rw [List.take_succ_eq_append_getElem hlt, List.mem_append, List.mem_singleton] at he'
            rcases he' with he' | rfl
            · exact hall e' he'
            · rw [hx]; exact hok
          obtain ⟨k1, k2, k3, k4⟩ := hok
          have hd1 : decide (e.u ∈ V) = true := by simp [k3]
          have hd2 : decide (e.v ∈ V) = true := by simp [k4]
          have D : Aside (Rises V ∧ (wr.setCell ⟨w.heap.size + 1, k, none⟩ (.int .i64 e.id)).ownsRow w.heap.size 3 1 (.slice (some ⟨w.heap.size + 1, 0, none⟩) E.length E.length) E.length (idRow E (k + 1)) ∧ Below w.heap.size w (wr.setCell ⟨w.heap.size + 1, k, none⟩ (.int .i64 e.id)) ∧ k + gk = E.length) := ⟨C.out, hst.1, hbel.setCell (by simp) _, hk⟩
          have hc0' : (wr.setCell ⟨w.heap.size + 1, k, none⟩ (.int .i64 e.id)).cell? ⟨w.heap.size, 0, none⟩ = some (.slice va V.length vcap) := by rw [World.cell?_setCell_other _ _ _ _ (by simp)]; exact hc0
          have hc1' : (wr.setCell ⟨w.heap.size + 1, k, none⟩ (.int .i64 e.id)).cell? ⟨w.heap.size, 1, none⟩ = some (.slice (some ⟨b, off, none⟩) E.length ecap) := by rw [World.cell?_setCell_other _ _ _ _ (by simp)]; exact hc1
          clear hst hrow hall hlen1 hew hcid hbel hV' hE' hmade hV0 hx hk k3 k4
          go_wp2_with fail
          refine (has_any _ V E _ _ (hn.below (D.out.2.2.1.alloc (by simp; omega) _)) D.out.1.le).mono ?_
          rintro _ w1 ⟨rfl, hb1⟩
          have hB1 : Below w.heap.size w w1 := (D.out.2.2.1.alloc (by simp; omega) _).trans (hb1.mono (by simp; omega))
          have hz1 : wr.heap.size + 1 ≤ w1.heap.size := by have := hb1.size; simpa using this
          have n0 : w1.cell? ⟨w.heap.size, 0, none⟩ = some (.slice va V.length vcap) := by rw [bcell hb1 _ _ (by simp; omega), World.cell?_alloc_past _ _ _ (by simp; omega)]; exact hc0'
          have n1 : w1.cell? ⟨w.heap.size, 1, none⟩ = some (.slice (some ⟨b, off, none⟩) E.length ecap) := by rw [bcell hb1 _ _ (by simp; omega), World.cell?_alloc_past _ _ _ (by simp; omega)]; exact hc1'
          have m2 : w1.cell? ⟨wr.heap.size, 2, none⟩ = some (.int .i64 e.v) := by rw [bcell hb1 _ _ (by simp), World.cell?_alloc_at _ _ _ _ (by simp)]; rfl
          have hrow1 : Aside (w1.ownsRow w.heap.size 3 1 (.slice (some ⟨w.heap.size + 1, 0, none⟩) E.length E.length) E.length (idRow E (k + 1))) := (D.out.2.1.alloc _).kept (row := none) ⟨hb1.os, hb1.tape, hb1.output, hb1.size, fun j hj _ => hb1.block j hj⟩ (.inr (by simp [Value.ownBlock]))
          have HB1 : Aside (Below w.heap.size w w1) := hB1
          clear hb1 hB1 hc0' hc1'
          go_wp2_with fail
          refine (has_any _ V E _ _ (hn.below HB1.out) D.out.1.le).mono ?_
          rintro _ w2 ⟨rfl, hb2⟩
          have E2 : Aside (Below w.heap.size w w2 ∧ w.heap.size + 2 ≤ w2.heap.size ∧ w2.cell? ⟨w.heap.size, 0, none⟩ = some (.slice va V.length vcap) ∧ w2.cell? ⟨w.heap.size, 1, none⟩ = some (.slice (some ⟨b, off, none⟩) E.length ecap) ∧
              w2.ownsRow w.heap.size 3 1 (.slice (some ⟨w.heap.size + 1, 0, none⟩) E.length E.length) E.length (idRow E (k + 1))) :=
            ⟨HB1.out.trans (hb2.mono (by omega)), by have := hb2.size; omega, by rw [bcell hb2 _ _ (by omega)]; exact n0, by rw [bcell hb2 _ _ (by omega)]; exact n1,
              hrow1.out.kept (row := none) ⟨hb2.os, hb2.tape, hb2.output, hb2.size, fun j hj _ => hb2.block j hj⟩ (.inr (by simp [Value.ownBlock]))⟩
          clear hb2 n0 n1 m2
          go_wp2_with fail
          obtain ⟨e1, e2, e3, e4, e5⟩ := E2.out
          go_roundg (gk - 1)
          case rel => exact ⟨k + 1, by have := D.out.2.2.2; omega, by go_num, e1, e2, e3, e4, e5, B.out⟩
          case measure => have := D.out.2.2.2; omega
        · have B : Aside (¬ Right V E) := fun h => hok (hx ▸ h.2.2.2.1 _ (List.getElem_mem hlt))
          have D : Aside (Rises V ∧ (wr.setCell ⟨w.heap.size + 1, k, none⟩ (.int .i64 e.id)).ownsRow w.heap.size 3 1 (.slice (some ⟨w.heap.size + 1, 0, none⟩) E.length E.length) E.length (idRow E (k + 1)) ∧ Below w.heap.size w (wr.setCell ⟨w.heap.size + 1, k, none⟩ (.int .i64 e.id)) ∧ k + gk = E.length) := ⟨C.out, hst.1, hbel.setCell (by simp) _, hk⟩
          clear hst hrow hall hlen1 hew hcid hbel hV' hE' hmade hV0 hx hk
          by_cases q1 : e.w < 0
          · clear hok
            go_wp2_with fail
            go_ret
            exact ⟨by rw [checkN_no B.out]; rfl, D.out.2.2.1.alloc (by simp; omega) _⟩
          by_cases q2 : 1099511627776 < e.w
          · clear hok
            go_wp2_with fail
            go_ret
            exact ⟨by rw [checkN_no B.out]; rfl, D.out.2.2.1.alloc (by simp; omega) _⟩
          by_cases q3 : e.u ∈ V
          · have q4 : ¬ e.v ∈ V := fun q4 => hok ⟨by omega, by omega, q3, q4⟩
            have hd1 : decide (e.u ∈ V) = true := by simp [q3]
            have hd2 : decide (e.v ∈ V) = false := by simp [q4]
            have hc0' : (wr.setCell ⟨w.heap.size + 1, k, none⟩ (.int .i64 e.id)).cell? ⟨w.heap.size, 0, none⟩ = some (.slice va V.length vcap) := by rw [World.cell?_setCell_other _ _ _ _ (by simp)]; exact hc0
            have hc1' : (wr.setCell ⟨w.heap.size + 1, k, none⟩ (.int .i64 e.id)).cell? ⟨w.heap.size, 1, none⟩ = some (.slice (some ⟨b, off, none⟩) E.length ecap) := by rw [World.cell?_setCell_other _ _ _ _ (by simp)]; exact hc1
            clear hok q3 q4
            go_wp2_with fail
            refine (has_any _ V E _ _ (hn.below (D.out.2.2.1.alloc (by simp; omega) _)) D.out.1.le).mono ?_
            rintro _ w1 ⟨rfl, hb1⟩
            have hB1 : Below w.heap.size w w1 := (D.out.2.2.1.alloc (by simp; omega) _).trans (hb1.mono (by simp; omega))
            have n0 : w1.cell? ⟨w.heap.size, 0, none⟩ = some (.slice va V.length vcap) := by rw [bcell hb1 _ _ (by simp; omega), World.cell?_alloc_past _ _ _ (by simp; omega)]; exact hc0'
            have n1 : w1.cell? ⟨w.heap.size, 1, none⟩ = some (.slice (some ⟨b, off, none⟩) E.length ecap) := by rw [bcell hb1 _ _ (by simp; omega), World.cell?_alloc_past _ _ _ (by simp; omega)]; exact hc1'
            have m2 : w1.cell? ⟨wr.heap.size, 2, none⟩ = some (.int .i64 e.v) := by rw [bcell hb1 _ _ (by simp), World.cell?_alloc_at _ _ _ _ (by simp)]; rfl
            have HB1 : Aside (Below w.heap.size w w1) := hB1
            clear hb1 hB1 hc0' hc1'
            go_wp2_with fail
            refine (has_any _ V E _ _ (hn.below HB1.out) D.out.1.le).mono ?_
            rintro _ w2 ⟨rfl, hb2⟩
            have E2 : Aside (Below w.heap.size w w2) := HB1.out.trans (hb2.mono (by have := HB1.out.size; omega))
            clear hb2 n0 n1 m2
            go_wp2_with fail
            go_ret
            exact ⟨by rw [checkN_no B.out]; rfl, E2.out⟩
          · have hd1 : decide (e.u ∈ V) = false := by simp [q3]
            clear hok q3
            go_wp2_with fail
            refine (has_any _ V E _ _ (hn.below (D.out.2.2.1.alloc (by simp; omega) _)) D.out.1.le).mono ?_
            rintro _ w1 ⟨rfl, hb1⟩
            have HB1 : Aside (Below w.heap.size w w1) := (D.out.2.2.1.alloc (by simp; omega) _).trans (hb1.mono (by simp; omega))
            clear hb1
            go_wp2_with fail
            go_ret
            exact ⟨by rw [checkN_no B.out]; rfl, HB1.out⟩
      · have hkk : k = E.length := by omega
        subst hkk
        rw [List.take_length] at hall
        have hids : RdI wr (.slice (some ⟨w.heap.size + 1, 0, none⟩) E.length E.length) (E.map Edg.id) := by
          rw [idRow_end] at hrow
          refine rdI_of_owns hrow (fun x hx => ?_) (by omega)
          obtain ⟨e, he, rfl⟩ := List.mem_map.1 hx
          obtain ⟨_, _, _, hwf, _⟩ := A0.out.2.2
          exact (hwf e he).1
        have D : Aside (Below w.heap.size w wr) := hbel
        by_cases hri : Rises (E.map Edg.id)
        · have hd1 : decide (Rises (E.map Edg.id)) = true := by simp [hri]
          have B : Aside (Right V E) := ⟨by omega, by omega, C.out, hall, hri⟩
          clear hall hrow hbel hri hmade hV0
          go_wp2_with (go_at_call 36; refine (rises_any _ (E.map Edg.id) _ hids).mono ?_; rintro e w' ⟨rfl, rfl⟩)
          go_ret
          exact ⟨by rw [checkN_ok B.out]; rfl, D.out⟩
        · have hd1 : decide (Rises (E.map Edg.id)) = false := by simp [hri]
          have B : Aside (¬ Right V E) := fun h => hri h.2.2.2.2
          clear hall hrow hbel hri hmade hV0
          go_wp2_with (go_at_call 36; refine (rises_any _ (E.map Edg.id) _ hids).mono ?_; rintro e w' ⟨rfl, rfl⟩)
          go_ret
          exact ⟨by rw [checkN_no B.out]; rfl, D.out⟩
  · have B : Aside (¬ Right V E) := fun h => hr h.2.2.1
    have hd : decide (Rises V) = false := by simp [hr]
    clear hb0 hr
    go_enter Tryz.func9, Tryz.ntmps9
    go_wp2_with (go_at_call 36; refine (rises_any _ V _ hV0).mono ?_; rintro e w' ⟨rfl, rfl⟩)
    go_ret
    exact ⟨by rw [checkN_no B.out]; rfl, A0.out.1⟩

end Go.Proofs.YthidhdffiebbgaaGreatDoor
