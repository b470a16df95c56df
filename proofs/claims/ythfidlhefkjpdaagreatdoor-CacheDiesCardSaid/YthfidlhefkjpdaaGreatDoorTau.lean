/- wal.Flush under any plan. -/
import Derived.Test.YthfidlhefkjpdaaGreatDoorTat
namespace Go.Proofs.YthfidlhefkjpdaaGreatDoor
open Go.RowKit

set_option maxRecDepth 100000 in
set_option maxHeartbeats 2000000 in
theorem lflush_some2 (base gl gd gs gm : Nat) (sv rv : Value) (L : Lg) (D : Dk) (pl : List (Int × Int)) (w : World) (K : Nat) (h : LD w base gl gd gs gm sv rv L (D.under pl)) (hw : L.wf) (hd : L.dead = false) (hDw : D.wf) (hp : pl.length ≤ 70368744175616) (hoff : D.off = false)
    (hf : L.first + L.count ≤ D.sec.length) (hs : L.safe < L.stream.length) (hst : D.steps + 4098 ≤ 1152921504606846976) (hK : (L.safe / 498 + K) * 498 < L.stream.length + 498 ∧ L.stream.length ≤ (L.safe / 498 + K) * 498) :
    Calls Tryz.prog 67 #[.pointer (some ⟨gl, 0, none⟩)] w fun e w' => Fr (fun b => b = gl ∨ dT gd gs gm b) w w' ∧
      ((e = .returned (.int .i64 0) ∧ LD w' base gl gd gs gm sv rv { L with safe := L.stream.length } ((D.logged L.first L.run L.stream (L.safe / 498) K).sync.under pl) ∧ Calm pl D.steps (D.logged L.first L.run L.stream (L.safe / 498) K).sync.steps) ∨
       (∃ er D', e = .returned (.int .i64 er) ∧ (er == 0) = false ∧ LD w' base gl gd gs gm sv rv { L with dead := true } D' ∧ Fatal pl D D' L.first (L.first + L.count) (D.logged L.first L.run L.stream (L.safe / 498) K).sync.steps ∧ 0 < er)) := by
  obtain ⟨AS, capS, rfl, hcapS, hcapM⟩ := h.log.form
  have hown := h.log.2.2.1
  obtain ⟨A', cap', e', -, -, hA⟩ := own_form hown
  injection e' with e1 e2 e3
  subst e1 e3
  obtain ⟨gS, rfl, -, -, -⟩ := hA (by omega)
  clear hA hown
  have c5 := h.log.cells.2.2.2.2.2.1
  have c6 := h.log.cells.2.2.2.2.2.2.1
  have c9 := h.log.cells.2.2.2.2.2.2.2.2.2
  rw [hd] at c9
  have hgl := h.glt
  have hnle : L.stream.length ≤ 2039808 := by have := hw.len; have := hw.count; omega
  have hnc : L.stream.length ≤ L.count * 498 := hw.len
  obtain ⟨n, hnn⟩ : ∃ n, L.stream.length = n := ⟨_, rfl⟩
  obtain ⟨s, hss⟩ : ∃ s, L.safe = s := ⟨_, rfl⟩
  obtain ⟨i0, hi0⟩ : ∃ i0, s / 498 = i0 := ⟨_, rfl⟩
  have H : Aside (LD w base gl gd gs gm (.slice (some ⟨gS, 0, none⟩) L.stream.length capS) rv L (D.under pl) ∧ L.wf ∧ L.dead = false ∧ D.wf ∧ pl.length ≤ 70368744175616 ∧ D.off = false ∧ L.first + L.count ≤ D.sec.length ∧ D.steps + 4098 ≤ 1152921504606846976 ∧ L.stream.length = n ∧ L.safe = s ∧ s / 498 = i0) := ⟨h, hw, hd, hDw, hp, hoff, hf, hst, hnn, hss, hi0⟩
  rw [hss, hi0]
  rw [hnn] at c5 hs hK hcapS hnle hnc
  rw [hss] at c6 hs hK
  rw [hi0] at hK
  obtain ⟨hK1, hK2⟩ := hK
  have hKc : i0 + K ≤ L.count := by omega
  have hc4 := hw.count
  have dsn : ((s : Int) == (n : Int)) = false := by simp; omega
  have hq : (s : Int) / 498 = (i0 : Int) := by omega
  have hq2 : IntKind.i64.wrap (Int.tdiv (s : Int) 498) = (i0 : Int) := by rw [Int.tdiv_eq_ediv_of_nonneg (by omega), hq, wrap_nat (by omega) (by omega)]
  clear h hw hd hDw hp hoff hf hst hnn hss hi0
  go_enter Tryz.func67, Tryz.ntmps67
  go_wp2_with fail
  go_region_held3 (fun w' => w'.cell? ⟨gl, 5, none⟩ = some (.slice (some ⟨gS, 0, none⟩) n capS) ∧ w'.cell? ⟨gl, 6, none⟩ = some (.int .i64 (s : Int))) (exact ⟨c5, c6⟩) (fail)
  go_wp2_with fail
  obtain ⟨w1, hw1⟩ : ∃ w1, w.drew = w1 := ⟨_, rfl⟩
  have hb1 : Below w.heap.size w w1 := by rw [← hw1]; exact bl_drew (Below.refl _ _)
  have hI0 : LD w1 base gl gd gs gm (.slice (some ⟨gS, 0, none⟩) L.stream.length capS) rv L (D.under pl) := H.out.1.below hb1
  rw [hw1]
  clear hw1 c5 c6 c9 dsn hq hq2
  have HB1 : Aside (LD w1 base gl gd gs gm (.slice (some ⟨gS, 0, none⟩) L.stream.length capS) rv L (D.under pl) ∧ Below w.heap.size w w1) := ⟨hI0, hb1⟩
  clear hI0 hb1
  go_loopg [3] K (fun q i wr => ∃ k : Nat, k + q = K ∧ i = .int .i64 ((i0 + k : Nat) : Int) ∧ Hid (LD wr base gl gd gs gm (.slice (some ⟨gS, 0, none⟩) L.stream.length capS) rv L ((D.logged L.first L.run L.stream i0 k).under pl) ∧ Fr (fun b => b = gl ∨ dT gd gs gm b) w wr ∧ Calm pl D.steps (D.logged L.first L.run L.stream i0 k).steps))
  case atStart => exact ⟨0, by omega, rfl, HB1.out.1, Fr.of_below HB1.out.2 _, Calm.refl _ _⟩
  case round =>
    obtain ⟨k, hk, rfl, hI⟩ := hrel
    obtain ⟨j, hj⟩ : ∃ j, i0 + k = j := ⟨_, rfl⟩
    rw [hj]
    have c5 := hI.out.1.log.cells.2.2.2.2.2.1
    rw [H.out.2.2.2.2.2.2.2.2.1] at c5
    obtain ⟨P, hP⟩ : ∃ P, j * 498 = P := ⟨_, rfl⟩
    have hPw : IntKind.i64.wrap ((j : Int) * 498) = (P : Int) := by rw [wrap_nat (by omega) (by omega)]; omega
    by_cases hlt : k < K
    · have hPn : P < n := by omega
      have d1 : decide (P < n) = true := by simp; omega
      have d1' : decide ((P : Int) < (n : Int)) = true := by simp; omega
      obtain ⟨Q, hQ⟩ : ∃ Q, (j + 1) * 498 = Q := ⟨_, rfl⟩
      have hjw : IntKind.i64.wrap ((j : Int) + 1) = ((j + 1 : Nat) : Int) := by rw [wrap_nat (by omega) (by omega)]; omega
      obtain ⟨j1, hj1⟩ : ∃ j1, j + 1 = j1 := ⟨_, rfl⟩
      rw [hj1] at hjw
      have hQw : IntKind.i64.wrap ((j1 : Int) * 498) = (Q : Int) := by rw [wrap_nat (by omega) (by omega)]; omega
      have HJ : Aside (i0 + k = j ∧ j * 498 = P ∧ (j + 1) * 498 = Q ∧ j + 1 = j1 ∧ k < K) := ⟨hj, hP, hQ, hj1, hlt⟩
      have hPQ : P + 498 = Q := by omega
      have hP0 : (0 : Int) ≤ (P : Int) := by omega
      have hPc : ¬ capS = P := by omega
      clear hj hP hQ hj1 hlt
      go_wp2_with fail
      obtain ⟨E, hE⟩ : ∃ E, min Q n = E := ⟨_, rfl⟩
      have hmin : ∀ (a b : TypeId) (W : World), (Builtin.min_ #[a, b] 3 #[.int .i64 (Q : Int), .int .i64 (n : Int)]).run Tryz.prog W = .ok (.int .i64 (E : Int)) W := by
        intro a b W
        simp [Builtin.min_, Builtin.min2]
        split <;> omega
      have hPE : (P : Int) ≤ (E : Int) := by omega
      have hEc : (E : Int) ≤ (capS : Int) := by omega
      go_region_held3 (fun w' => w'.cell? ⟨gl, 5, none⟩ = some (.slice (some ⟨gS, 0, none⟩) n capS)) (exact c5) (fail)
      obtain ⟨wa, hwa⟩ : ∃ wa, wr.drew = wa := ⟨_, rfl⟩
      have ha : LD wa base gl gd gs gm (.slice (some ⟨gS, 0, none⟩) L.stream.length capS) rv L ((D.logged L.first L.run L.stream i0 k).under pl) ∧ Fr (fun b => b = gl ∨ dT gd gs gm b) w wa ∧ Calm pl D.steps (D.logged L.first L.run L.stream i0 k).steps := by
        rw [← hwa]; exact ⟨hI.out.1.below (bl_drew (Below.refl _ _)), hI.out.2.1.drew, hI.out.2.2⟩
      rw [hwa]
      clear hwa hI c5 hmin
      have HA := hid ha
      have hq := ha.1.log.2.2.1
      have hRs : RdB wa (some ⟨gS, P, none⟩) (E - P) ((L.stream.drop (j * 498)).take 498) := by
        have h1 := (((RdB.of_own hq).cut (k := P) (by rw [H.out.2.2.2.2.2.2.2.2.1]; omega)).take (k := E - P) (by rw [H.out.2.2.2.2.2.2.2.2.1]; omega)).at4
        rw [Nat.zero_add] at h1
        have e1 : (L.stream.drop P).take (E - P) = (L.stream.drop (j * 498)).take 498 := by
          rw [HJ.out.2.1]
          rcases Nat.lt_or_ge n Q with hm | hm
          · rw [List.take_of_length_le (by rw [List.length_drop, H.out.2.2.2.2.2.2.2.2.1]; omega), List.take_of_length_le (by rw [List.length_drop, H.out.2.2.2.2.2.2.2.2.1]; omega)]
          · rw [show E - P = 498 by omega]
        rw [e1] at h1
        exact h1
      obtain ⟨used, hused⟩ : ∃ used, (L.stream.drop (j * 498)).take 498 = used := ⟨_, rfl⟩
      rw [hused] at hRs
      have HU : Aside (RdB wa (some ⟨gS, P, none⟩) (E - P) used ∧ (L.stream.drop (j * 498)).take 498 = used) := ⟨hRs, hused⟩
      have hEP : E - P ≤ 498 := by omega
      clear hRs hused hq ha
      obtain ⟨F, hF⟩ : ∃ F, L.first = F := ⟨_, rfl⟩
      obtain ⟨R, hR⟩ : ∃ R, L.run = R := ⟨_, rfl⟩
      have hFl : F + j < D.sec.length := by have := H.out.2.2.2.2.2.2.1; rw [hF] at this; have := HJ.out.1; have := HJ.out.2.2.2.2; omega
      have hDn := H.out.2.2.2.1.n
      obtain ⟨G, hG⟩ : ∃ G, F + j = G := ⟨_, rfl⟩
      have hGw : IntKind.i64.wrap ((F : Int) + (j : Int)) = (G : Int) := by rw [wrap_nat (by omega) (by omega)]; omega
      have hkeep := logged_keep D L.first L.run L.stream i0 k
      have hcs : wa.cell? ⟨gl, 0, none⟩ = some (.pointer (some ⟨gd, 0, none⟩)) ∧ wa.cell? ⟨gl, 1, none⟩ = some (.int .i64 (F : Int)) ∧ wa.cell? ⟨gl, 3, none⟩ = some (.int .i64 (R : Int)) := by
        have := log_cells4 HA.out.1
        rw [hF, hR] at this
        exact this
      have hRb : R < 9223372036854775808 := by have := H.out.2.1.run; omega
      have HG : Aside (L.first = F ∧ L.run = R ∧ F + j = G ∧ G < D.sec.length ∧ (D.logged L.first L.run L.stream i0 k).wf ∧ (D.logged L.first L.run L.stream i0 k).steps + 1 ≤ 1152921504606846976 ∧ (D.logged L.first L.run L.stream i0 k).off = false ∧ G < (D.logged L.first L.run L.stream i0 k).sec.length) := by
        refine ⟨hF, hR, hG, by omega, logged_wf H.out.2.2.2.1 _ _ _ _ _ ?_ ?_, by rw [hkeep.2.2.2]; have := HJ.out.2.2.2.2; have := H.out.2.2.2.2.2.2.2.1; omega, hkeep.2.2.1.trans H.out.2.2.2.2.2.1, by rw [hkeep.1]; omega⟩
        · have := HJ.out.1; have := H.out.2.2.2.2.2.2.1; omega
        · have := HJ.out.2.2.2.2; have := H.out.2.2.2.2.2.2.2.1; omega
      clear hF hR hG hkeep hFl hDn
      have hgla : gl < wa.heap.size := HA.out.1.glt
      obtain ⟨c0, c1, c3⟩ := hcs
      have k0 : ∀ W, Below wa.heap.size wa W → W.cell? ⟨gl, 0, none⟩ = some (.pointer (some ⟨gd, 0, none⟩)) ∧ W.cell? ⟨gl, 1, none⟩ = some (.int .i64 (F : Int)) ∧ W.cell? ⟨gl, 3, none⟩ = some (.int .i64 (R : Int)) := fun W hW => ⟨(hW.cell (p := ⟨gl, 0, none⟩) hgla).trans c0, (hW.cell (p := ⟨gl, 1, none⟩) hgla).trans c1, (hW.cell (p := ⟨gl, 3, none⟩) hgla).trans c3⟩
      have k1 : ∀ W D', LD W base gl gd gs gm (.slice (some ⟨gS, 0, none⟩) L.stream.length capS) rv L D' → W.cell? ⟨gl, 0, none⟩ = some (.pointer (some ⟨gd, 0, none⟩)) ∧ W.cell? ⟨gl, 1, none⟩ = some (.int .i64 (F : Int)) ∧ W.cell? ⟨gl, 3, none⟩ = some (.int .i64 (R : Int)) := fun W D' hW => by
        have := log_cells4 hW
        rw [HG.out.1, HG.out.2.1] at this
        exact this
      have K0 := hid k0
      have K1 := hid k1
      clear k0 k1
      go_wp2_with fail
      go_region_held3 (fun w' => w'.cell? ⟨gl, 0, none⟩ = some (.pointer (some ⟨gd, 0, none⟩)) ∧ w'.cell? ⟨gl, 1, none⟩ = some (.int .i64 (F : Int)) ∧ w'.cell? ⟨gl, 3, none⟩ = some (.int .i64 (R : Int)))
        (first | exact ⟨c0, c1, c3⟩ | exact K1.out _ _ R2.out.1 | exact K0.out _ (by repeat (first | exact R1.out.2 | exact Below.refl _ _ | refine bl_drew ?_)))
        (first
         | (go_at_call 82
            (with_reducible refine Calls.mono (build_any R (some ⟨gS, P, none⟩) (E - P) (capS - P) used _ hRb ?_ hEP) ?_)
            · exact HU.out.1.below (by repeat (first | exact Below.refl _ _ | refine bl_drew ?_))
            rintro e w1 ⟨g, cap, rfl, hown, hb1⟩
            have R1 : Aside (RdB w1 (some ⟨g, 0, none⟩) 512 (sectorL R used) ∧ Below wa.heap.size wa w1) := ⟨RdB.of_own hown, bl_undrew hb1⟩
            clear hown hb1)
         | (go_at_call 81
            (with_reducible refine Calls.mono (write_two gd gs gm (D.logged L.first L.run L.stream i0 k) pl G 512 cap _ (sectorL R used) _ (HA.out.1.disk.below R1.out.2) HG.out.2.2.2.2.1 H.out.2.2.2.2.1 HG.out.2.2.2.2.2.2.1 HG.out.2.2.2.2.2.2.2 R1.out.1 (by omega) HG.out.2.2.2.2.2.1) ?_)
            rintro e w2 ⟨er, D', rfl, hD2, hF2, hcase⟩
            have R2 : Aside (LD w2 base gl gd gs gm (.slice (some ⟨gS, 0, none⟩) L.stream.length capS) rv L D' ∧ Fr (dT gd gs gm) wa w2) := ⟨(HA.out.1.below R1.out.2).onDisk (fr_dT hF2) hD2, (Fr.of_below R1.out.2 _).trans (fr_dT hF2) (fun _ _ h => h)⟩
            have HC := hid hcase
            clear hD2 hF2 hcase))
      go_wp2_with fail
      have H2 : Aside (Fr (fun b => b = gl ∨ dT gd gs gm b) w w2) := ⟨ld_frames HA.out.2.1 (.inr R2.out.2)⟩
      have h2 := R2.out.1
      rcases HC.out with ⟨her, hD', hk0⟩ | ⟨her, hfat, -, hpos⟩
      case' inr =>
        refine (lstep_any base gl gd _ rv L er w2 h2.log).mono ?_
        rintro e w3 ⟨rfl, h3, hF3⟩
        have hne : decide (er = 0) = false := by simpa using her
        rw [hne] at h3
        have hdd : (L.dead || !false) = true := by simp
        rw [hdd] at h3
        have H3 : Aside (LD w3 base gl gd gs gm (.slice (some ⟨gS, 0, none⟩) L.stream.length capS) rv { L with dead := true } D' ∧ Fr (fun b => b = gl ∨ dT gd gs gm b) w w3 ∧ Fatal pl D D' L.first (L.first + L.count) (D.logged L.first L.run L.stream i0 K).sync.steps) := by
          refine ⟨h2.onLog (fr_gl hF3) h3, ld_frames H2.out (.inl hF3), ?_⟩
          have hkk := logged_keep D L.first L.run L.stream i0 k
          have e1 := HJ.out.1
          have e2 := HJ.out.2.2.2.2
          have e3 := HG.out.1
          have e4 := HG.out.2.2.1
          have hcl : L.first ≤ G ∧ G + 1 ≤ L.first + L.count := by omega
          have hkK := logged_keep D L.first L.run L.stream i0 K
          refine (hfat.wide hcl.1 hcl.2 (top' := (D.logged L.first L.run L.stream i0 K).sync.steps) (by show _ ≤ (D.logged L.first L.run L.stream i0 K).steps + 1; rw [hkk.2.2.2, hkK.2.2.2]; omega)).after (by rw [hkk.1]) (by rw [hkk.2.2.2]; omega) HA.out.2.2 (fun j hj ho => ?_)
          have key : ∀ m, m ≤ k → (D.logged L.first L.run L.stream i0 m).has j = D.has j := by
            intro m
            induction m with
            | zero => intro _; rfl
            | succ m ih =>
              intro hm
              rw [Dk.logged, Dk.write_has, if_neg (by omega)]
              exact ih (by omega)
          exact key k (Nat.le_refl _)
        clear h2 h3 hF3 hfat HC hdd
        rw [hne]
        go_wp2_with fail
        go_ret
        exact ⟨H3.out.2.1, .inr ⟨er, D', rfl, her, by rw [← H.out.2.2.2.2.2.2.2.2.2.1]; exact H3.out.1, H3.out.2.2, hpos⟩⟩
      subst her hD'
      clear h2
      have R2b : Aside (LD w2 base gl gd gs gm (.slice (some ⟨gS, 0, none⟩) L.stream.length capS) rv L ((D.logged L.first L.run L.stream i0 (k + 1)).under pl) ∧ Calm pl D.steps (D.logged L.first L.run L.stream i0 (k + 1)).steps) := by
        refine ⟨?_, HA.out.2.2.trans (Calm.one hk0)⟩
        have := R2.out.1
        rw [Dk.logged, HJ.out.1, HU.out.2]
        rw [HG.out.1, HG.out.2.1, HG.out.2.2.1]
        rw [HG.out.1, HG.out.2.1] at this
        exact this
      clear HC hk0
      refine (lstep_ok base gl gd gs gm _ rv L _ w2 R2b.out.1 H.out.2.2.1).mono ?_
      rintro e w3 ⟨rfl, h3, hF3⟩
      have H3 : Aside (LD w3 base gl gd gs gm (.slice (some ⟨gS, 0, none⟩) L.stream.length capS) rv L ((D.logged L.first L.run L.stream i0 (k + 1)).under pl) ∧ Fr (fun b => b = gl ∨ dT gd gs gm b) w w3 ∧ Calm pl D.steps (D.logged L.first L.run L.stream i0 (k + 1)).steps) := ⟨h3, ld_frames H2.out (.inl hF3), R2b.out.2⟩
      clear h3 hF3
      go_wp2_with fail
      go_roundg (K - 1 - k)
      case rel =>
        refine ⟨k + 1, by have := HJ.out.2.2.2.2; omega, ?_, H3.out⟩
        have e1 := HJ.out.1
        have e2 := HJ.out.2.2.2.1
        rw [← e2, ← e1]
        rfl
      case measure => have := HJ.out.2.2.2.2; omega
    · obtain rfl : k = K := by omega
      obtain rfl : gk = 0 := by omega
      have d1 : decide (P < n) = false := by simp; omega
      have d1' : decide ((P : Int) < (n : Int)) = false := by simp; omega
      have c0 := hI.out.1.log.cells.1
      have HI := hid hI.out
      have hKl : k ≤ 4096 := by omega
      clear hI hj hP
      go_wp2_with fail
      have hkeep := logged_keep D L.first L.run L.stream i0 k
      refine (sync_two gd gs gm (D.logged L.first L.run L.stream i0 k) pl wr HI.out.1.disk (logged_wf H.out.2.2.2.1 _ _ _ _ _ (by have := H.out.2.2.2.2.2.2.1; omega) (by have := H.out.2.2.2.2.2.2.2.1; omega)) H.out.2.2.2.2.1 (hkeep.2.2.1.trans H.out.2.2.2.2.2.1) (by rw [hkeep.2.2.2]; have := H.out.2.2.2.2.2.2.2.1; omega)).mono ?_
      rintro e w4 ⟨er, D', rfl, hD4, hF4, hcase⟩
      have H4 : Aside (LD w4 base gl gd gs gm (.slice (some ⟨gS, 0, none⟩) L.stream.length capS) rv L D' ∧ Fr (fun b => b = gl ∨ dT gd gs gm b) w w4) := ⟨HI.out.1.onDisk hF4 hD4, ld_frames HI.out.2.1 (.inr hF4)⟩
      clear hD4 hF4 c0 hkeep
      go_wp2_with fail
      rcases hcase with ⟨rfl, rfl, hk0⟩ | ⟨her, hfat, hpos⟩
      case' inr =>
        refine (lstep_any base gl gd _ rv L er w4 H4.out.1.log).mono ?_
        rintro e w3 ⟨rfl, h3, hF3⟩
        have hne : decide (er = 0) = false := by simpa using her
        rw [hne] at h3
        have hdd : (L.dead || !false) = true := by simp
        rw [hdd] at h3
        have H3 : Aside (LD w3 base gl gd gs gm (.slice (some ⟨gS, 0, none⟩) L.stream.length capS) rv { L with dead := true } D' ∧ Fr (fun b => b = gl ∨ dT gd gs gm b) w w3 ∧ Fatal pl D D' L.first (L.first + L.count) (D.logged L.first L.run L.stream i0 k).sync.steps) := by
          refine ⟨H4.out.1.onLog (fr_gl hF3) h3, ld_frames H4.out.2 (.inl hF3), ?_⟩
          have hkk := logged_keep D L.first L.run L.stream i0 k
          have hf2 : Fatal pl (D.logged L.first L.run L.stream i0 k) D' L.first (L.first + L.count) (D.logged L.first L.run L.stream i0 k).sync.steps := ⟨hfat.le, hfat.len, hfat.wf, hfat.ge, hfat.hit, hfat.calm, fun j hj _ => hfat.has j hj (.inr (Nat.zero_le _))⟩
          refine hf2.after (by rw [hkk.1]) (by rw [hkk.2.2.2]; omega) HI.out.2.2 (fun j hj ho => ?_)
          have key : ∀ m, m ≤ k → (D.logged L.first L.run L.stream i0 m).has j = D.has j := by
            intro m
            induction m with
            | zero => intro _; rfl
            | succ m ih =>
              intro hm
              rw [Dk.logged, Dk.write_has, if_neg (by omega)]
              exact ih (by omega)
          exact key k (Nat.le_refl _)
        clear h3 hF3 hfat hdd
        rw [hne]
        go_wp2_with fail
        go_ret
        exact ⟨H3.out.2.1, .inr ⟨er, D', rfl, her, by rw [← H.out.2.2.2.2.2.2.2.2.2.1]; exact H3.out.1, H3.out.2.2, hpos⟩⟩
      have HC : Aside (Calm pl D.steps (D.logged L.first L.run L.stream i0 k).sync.steps) := ⟨HI.out.2.2.trans (Calm.one hk0)⟩
      clear hk0
      refine (lstep_ok base gl gd gs gm _ rv L _ w4 H4.out.1 H.out.2.2.1).mono ?_
      rintro e w5 ⟨rfl, h5, hF5⟩
      have H5 : Aside (LD w5 base gl gd gs gm (.slice (some ⟨gS, 0, none⟩) L.stream.length capS) rv L ((D.logged L.first L.run L.stream i0 k).sync.under pl) ∧ Fr (fun b => b = gl ∨ dT gd gs gm b) w w5) := ⟨h5, ld_frames H4.out.2 (.inl hF5)⟩
      have c55 := h5.log.cells.2.2.2.2.2.1
      have c65 := h5.log.cells.2.2.2.2.2.2.1
      have f65 := h5.log.1.frozen 6
      rw [H.out.2.2.2.2.2.2.2.2.1] at c55
      clear h5 hF5
      go_wp2_with fail
      go_ret
      have hfr : Fr (· = gl) w5 (w5.setCell ⟨gl, 6, none⟩ (.int .i64 (n : Int))) := (Fr.refl (· = gl) w5).set (p := ⟨gl, 6, none⟩) (.inl rfl) _
      obtain ⟨h1, h2, h3, xs, h4⟩ := H5.out.1.log
      refine ⟨ld_frames H5.out.2 (.inl hfr), .inl ⟨rfl, H5.out.1.onLog (fr_gl hfr) ⟨?_, h2, own_fr h3 hfr (fun b hb e => by subst e; exact (own_ty h3 hb).ne h1.ty (by decide)), xs, own_fr h4 hfr (fun b hb e => by subst e; exact (own_ty h4 hb).ne h1.ty (by decide))⟩, HC.out⟩⟩
      have := h1.set_ 6 (.int .i64 (n : Int))
      rw [H.out.2.2.2.2.2.2.2.2.1]
      rw [H.out.2.2.2.2.2.2.2.2.1] at this
      simpa [lgCells] using this

theorem lflush_two (base gl gd gs gm : Nat) (sv rv : Value) (L : Lg) (D : Dk) (pl : List (Int × Int)) (w : World) (h : LD w base gl gd gs gm sv rv L (D.under pl)) (hw : L.wf) (hd : L.dead = false) (hDw : D.wf) (hp : pl.length ≤ 70368744175616) (hoff : D.off = false)
    (hf : L.first + L.count ≤ D.sec.length) (hst : D.steps + 4098 ≤ 1152921504606846976) :
    Calls Tryz.prog 67 #[.pointer (some ⟨gl, 0, none⟩)] w fun e w' => Fr (fun b => b = gl ∨ dT gd gs gm b) w w' ∧
      ((e = .returned (.int .i64 0) ∧ LD w' base gl gd gs gm sv rv { L with safe := L.stream.length } ((D.lflush L).under pl) ∧ Calm pl D.steps (D.lflush L).steps) ∨
       (∃ er D', e = .returned (.int .i64 er) ∧ (er == 0) = false ∧ LD w' base gl gd gs gm sv rv { L with dead := true } D' ∧ Fatal pl D D' L.first (L.first + L.count) (D.lflush L).steps ∧ 0 < er)) := by
  have hsf := hw.safe
  by_cases hs : L.safe = L.stream.length
  · refine (lflush_none base gl gd gs gm sv rv L (D.under pl) w h hw hd hs).mono ?_
    rintro e w' ⟨rfl, hb⟩
    refine ⟨Fr.of_below hb _, .inl ⟨rfl, ?_, ?_⟩⟩
    · have e1 : ({ L with safe := L.stream.length } : Lg) = L := by rw [← hs]
      rw [e1, Dk.lflush, if_pos hs]
      exact h.below hb
    · rw [Dk.lflush, if_pos hs]
      exact Calm.refl _ _
  · refine (lflush_some2 base gl gd gs gm sv rv L D pl w ((L.stream.length + 497) / 498 - L.safe / 498) h hw hd hDw hp hoff hf (by omega) hst (by omega)).mono ?_
    rintro e w' ⟨h1, h2⟩
    rw [Dk.lflush, if_neg hs]
    exact ⟨h1, h2⟩
end Go.Proofs.YthfidlhefkjpdaaGreatDoor
