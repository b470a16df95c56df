/- The walk of the reference's Check: it answers checkN for every net. -/
import Derived.Test.YthidhdffiebbgaaGreatDoorPlT
import Derived.Test.YthidhdffiebbgaaGreatDoorRc
import Derived.BigQuiet
namespace Go.Proofs.YthidhdffiebbgaaGreatDoor
open Go.BigFrame Go.RowKit Go.Proofs.YthidhdffiebbgaaGreatDoor.Sk

theorem q_same {f : Nat} {args : Array Value} {W : World} {v : Value} {Q : World → Prop} (h : Calls Tryz.prog f args W fun e w' => e = .returned v ∧ W = w') (hq : Q W) : Calls Tryz.prog f args W fun e w' => e = .returned v ∧ Q w' :=
  h.mono fun _ _ ⟨h1, h2⟩ => ⟨h1, h2 ▸ hq⟩

theorem below_dr {B : Nat} {w w' : World} (h : Below B w w') (q : Nat) : Below B w (w'.drewN q) := ⟨h.os, h.tape, h.output, h.size, fun j hj => h.block j hj⟩

theorem rbad_t {a : Int} (h : okId a) (W : World) : Calls Tryz.prog 38 #[.int .i64 a] W fun e w' => e = .returned (.bool false) ∧ W = w' :=
  (rbad_any a _).mono fun _ _ ⟨h1, h2⟩ => ⟨by rw [h1, decide_eq_true h]; rfl, h2⟩
theorem rbad_f {a : Int} (h : ¬ okId a) (W : World) : Calls Tryz.prog 38 #[.int .i64 a] W fun e w' => e = .returned (.bool true) ∧ W = w' :=
  (rbad_any a _).mono fun _ _ ⟨h1, h2⟩ => ⟨by rw [h1, decide_eq_false h]; rfl, h2⟩

set_option maxRecDepth 100000 in
set_option maxHeartbeats 1000000 in
theorem rcheck_any (n : Value) (V : List Int) (E : List Edg) (w : World) (hn : NetAt w n V E) :
    Calls Tryz.prog 10 #[n] w fun e w' => e = .returned (.int .i64 (checkN V E)) ∧ Below w.heap.size w w' := by
  obtain ⟨vs, es, rfl, hV, hE⟩ := hn.ex
  have hV' := hV
  have hE' := hE
  obtain ⟨va, vcap, rfl, -, hv8, -⟩ := hV'
  obtain ⟨ea, ecap, rfl, -, he32, -⟩ := hE'
  have hb0 : Below w.heap.size w (w.alloc (.cells #[.slice va V.length vcap, .slice ea E.length ecap] 25)) := (Below.refl _ _).alloc (Nat.le_refl _) _
  have A : Aside (RdI w (.slice va V.length vcap) V ∧ RdE w (.slice ea E.length ecap) E ∧ Below w.heap.size w (w.alloc (.cells #[.slice va V.length vcap, .slice ea E.length ecap] 25))) := ⟨hV, hE, hb0⟩
  clear hn hV hE hb0
  by_cases h1 : (2048 : Int) < V.length
  · have B : Aside (checkN V E = 60) := checkN_no fun h => by have := h.1; omega
    go_enter Tryz.func10, Tryz.ntmps10
    go_wp2_with fail
    go_ret
    exact ⟨by rw [B.out]; rfl, A.out.2.2⟩
  by_cases h2 : (2048 : Int) < E.length
  · have B : Aside (checkN V E = 60) := checkN_no fun h => by have := h.2.1; omega
    go_enter Tryz.func10, Tryz.ntmps10
    go_wp2_with fail
    go_ret
    exact ⟨by rw [B.out]; rfl, A.out.2.2⟩
  go_enter Tryz.func10, Tryz.ntmps10
  go_wp2_with fail
  obtain ⟨wo, hwo⟩ : ∃ wo, w.alloc (.cells #[.slice va V.length vcap, .slice ea E.length ecap] 25) = wo := ⟨_, rfl⟩
  have c0 : wo.cell? ⟨w.heap.size, 0, none⟩ = some (.slice va V.length vcap) := by rw [← hwo, World.cell?_alloc_at _ _ _ _ rfl]; rfl
  have c1 : wo.cell? ⟨w.heap.size, 1, none⟩ = some (.slice ea E.length ecap) := by rw [← hwo, World.cell?_alloc_at _ _ _ _ rfl]; rfl
  rw [hwo] at A ⊢
  clear hwo
  have R : Aside (V.length ≤ 2048 ∧ E.length ≤ 2048) := ⟨by omega, by omega⟩
  go_loopg [3] V.length (fun g i wr => ∃ k : Nat, k + g = V.length ∧ i = .int .i64 k ∧ Rises (V.take k) ∧ ∃ q, wr = wo.drewN q)
  case atStart => exact ⟨0, by omega, rfl, by simp [Rises], 0, rfl⟩
  case round =>
    obtain ⟨k, hk, rfl, hr, q, rfl⟩ := hrel
    by_cases hlt : k < V.length
    · have hVr := A.out.1.below A.out.2.2
      obtain ⟨-, -, b, off, hva, hb, g0⟩ := hVr.get hlt
      subst hva
      obtain ⟨x, hx⟩ : ∃ x, V[k] = x := ⟨_, rfl⟩
      rw [hx] at g0
      have hstep := rises_take_succ hlt hr
      rw [hx] at hstep
      by_cases hok : okId x
      · have OK : Aside (okId x) := hok
        by_cases hk0 : k = 0
        · subst hk0
          have B : Aside (Rises (V.take (0 + 1)) ∧ 0 + gk = V.length) := ⟨hstep.2 ⟨hok, fun h0 => absurd h0 (by omega)⟩, hk⟩
          simp only [Nat.add_zero] at g0
          have hdd : decide ((0 : Int) < 0) = false := by decide
          clear hstep hr hok hx hVr hk
          go_wp2_with fail
          go_big_quiet ((go_at_call 38; exact q_same (rbad_t OK.out _) ⟨_, rfl⟩))
          go_wp2_with fail
          go_roundg (gk - 1)
          case rel => exact ⟨0 + 1, by have := B.out.2; omega, by go_num, B.out.1, _, rfl⟩
          case measure => have := B.out.2; omega
        · have gp0 := (A.out.1.below A.out.2.2)
          obtain ⟨-, -, b2, off2, hva2, -, gp⟩ := gp0.get (k := k - 1) (by omega)
          simp only [Option.some.injEq, Addr.mk.injEq] at hva2
          obtain ⟨rfl, rfl, -⟩ := hva2
          obtain ⟨y, hy⟩ : ∃ y, V[k - 1]'(by omega) = y := ⟨_, rfl⟩
          rw [hy] at gp
          have hy' : V[k - 1]? = some y := by rw [← hy]; exact List.getElem?_eq_getElem _
          have hpos : 0 < k := by omega
          have hdd : decide ((0 : Int) < (k : Int)) = true := by simp; omega
          have e1 : IntKind.i64.wrap ((k : Int) - 1) = ((k - 1 : Nat) : Int) := by rw [IntWalk.i64_in _ (by omega)]; omega
          have hk1 : k - 1 < V.length := by omega
          by_cases hyx : y < x
          · have hle : decide (x ≤ y) = false := by simp; omega
            have B : Aside (Rises (V.take (k + 1)) ∧ k + gk = V.length) := ⟨hstep.2 ⟨hok, fun _ z hz => by rw [hy'] at hz; cases hz; exact hyx⟩, hk⟩
            clear hstep hr hok hx hVr hk gp0 hy hy' hyx hk0
            go_wp2_with fail
            go_big_quiet ((go_at_call 38; exact q_same (rbad_t OK.out _) ⟨_, rfl⟩))
            clear e1
            go_wp2_with fail
            go_roundg (gk - 1)
            case rel => exact ⟨k + 1, by have := B.out.2; omega, by go_num, B.out.1, _, rfl⟩
            case measure => have := B.out.2; omega
          · have hle : decide (x ≤ y) = true := by simp; omega
            have B : Aside (checkN V E = 60) := checkN_no fun h => hyx ((hstep.1 (rises_of_take h.2.2.1)).2 hpos y hy')
            clear hstep hr hok hx hVr hk gp0 hy hy' hyx hk0
            go_wp2_with fail
            go_big_quiet ((go_at_call 38; exact q_same (rbad_t OK.out _) ⟨_, rfl⟩))
            clear e1
            go_wp2_with fail
            go_ret
            exact ⟨by rw [B.out]; rfl, below_dr (below_dr A.out.2.2 _) _⟩
      · have OK : Aside (¬ okId x) := hok
        have B : Aside (checkN V E = 60) := checkN_no fun h => hok ((hstep.1 (rises_of_take h.2.2.1)).1)
        clear hstep hr hok hx hVr hk
        go_wp2_with fail
        go_big_quiet ((go_at_call 38; exact q_same (rbad_f OK.out _) ⟨_, rfl⟩))
        go_wp2_with fail
        go_ret
        exact ⟨by rw [B.out]; rfl, below_dr (below_dr A.out.2.2 _) _⟩
    · have RV : Aside (Rises V) := by rw [List.take_of_length_le (by omega)] at hr; exact hr
      clear hr
      go_wp2_with fail
      have hwo : w.heap.size < wo.heap.size := by
        have h := c0
        unfold World.cell? at h
        exact World.block_lt_of_cell? wo _ c0
      go_loopg [4] E.length (fun g i wr => ∃ k : Nat, k + g = E.length ∧ i = .int .i64 k ∧ Rises ((E.map Edg.id).take k) ∧ (∀ e ∈ E.take k, okE V e) ∧ Below wo.heap.size wo wr)
      case atStart => exact ⟨0, by omega, rfl, by simp [Rises], by simp, below_dr (Below.refl _ _) _⟩
      case round =>
        obtain ⟨k, hk, rfl, hr, hall, hbel⟩ := hrel
        have n0 := (bcell hbel _ 0 hwo).trans c0
        have n1 := (bcell hbel _ 1 hwo).trans c1
        have BW : Aside (Below w.heap.size w wr ∧ RdI wr (.slice va V.length vcap) V ∧ RdE wr (.slice ea E.length ecap) E) := ⟨A.out.2.2.trans (hbel.mono A.out.2.2.size), A.out.1.below (A.out.2.2.trans (hbel.mono A.out.2.2.size)), A.out.2.1.below (A.out.2.2.trans (hbel.mono A.out.2.2.size))⟩
        by_cases hlt : k < E.length
        · obtain ⟨-, -, b, off, hea, hb, g0, g1, g2, g3⟩ := BW.out.2.2.get hlt
          subst hea
          obtain ⟨e, hx⟩ : ∃ e, E[k] = e := ⟨_, rfl⟩
          rw [hx] at g0 g1 g2 g3
          have hlt' : k < (E.map Edg.id).length := by simpa using hlt
          have hstep := rises_take_succ hlt' hr
          have hxi : (E.map Edg.id)[k] = e.id := by rw [List.getElem_map, hx]
          rw [hxi] at hstep
          have heE : e ∈ E := hx ▸ List.getElem_mem hlt
          go_wp2_with fail
          obtain ⟨W1, hW1⟩ : ∃ W1, wr.alloc (.cells #[.int .i64 e.id, .int .i64 e.u, .int .i64 e.v, .int .i64 e.w] 47) = W1 := ⟨_, rfl⟩
          have q0 : W1.cell? ⟨wr.heap.size, 0, none⟩ = some (.int .i64 e.id) := by rw [← hW1, World.cell?_alloc_at _ _ _ _ rfl]; rfl
          have q1 : W1.cell? ⟨wr.heap.size, 1, none⟩ = some (.int .i64 e.u) := by rw [← hW1, World.cell?_alloc_at _ _ _ _ rfl]; rfl
          have q2 : W1.cell? ⟨wr.heap.size, 2, none⟩ = some (.int .i64 e.v) := by rw [← hW1, World.cell?_alloc_at _ _ _ _ rfl]; rfl
          have q3 : W1.cell? ⟨wr.heap.size, 3, none⟩ = some (.int .i64 e.w) := by rw [← hW1, World.cell?_alloc_at _ _ _ _ rfl]; rfl
          rw [hW1]
          have hb1 : Below wr.heap.size wr W1 := hW1 ▸ (Below.refl _ _).alloc (Nat.le_refl _) _
          have hwr : w.heap.size < wr.heap.size := Nat.lt_of_lt_of_le hwo hbel.size
          have p0 := (bcell hb1 _ 0 hwr).trans n0
          have p1 := (bcell hb1 _ 1 hwr).trans n1
          have D : Aside (Below w.heap.size w W1 ∧ Below wo.heap.size wo W1 ∧ RdI W1 (.slice va V.length vcap) V ∧ k + gk = E.length ∧ ∀ e ∈ E.take k, okE V e) := ⟨BW.out.1.trans (hb1.mono BW.out.1.size), hbel.trans (hb1.mono hbel.size), BW.out.2.1.below hb1, hk, hall⟩
          by_cases hok : okId e.id
          · have OK : Aside (okId e.id) := hok
            have bad : ∀ P : Prop, (Right V E → P) → ¬ P → Aside (checkN V E = 60) := fun P h1 h2 => checkN_no fun h => h2 (h1 h)
            -- behind the region: the weights and the ends
            by_cases hk0 : k = 0
            · have hdd : (0 < k) = False := by simp [hk0]
              have RS : Aside (Rises ((E.map Edg.id).take (k + 1))) := hstep.2 ⟨hok, fun h => absurd h (by omega)⟩
              clear hstep hr hok hk0
              by_cases hw0 : e.w < 0
              · have B := bad (okE V e) (fun h => h.2.2.2.1 e heE) (fun h => by have := h.1; omega)
                have hwb : decide (e.w < 0) = true := by simp [hw0]
                clear hall hk hbel heE hx hxi bad hw0
                go_big_quiet ((go_at_call 38; exact q_same (rbad_t OK.out _) ⟨_, rfl⟩))
                try clear e1
                go_wp2_with fail
                go_ret
                exact ⟨by rw [B.out]; rfl, below_dr D.out.1 _⟩
              have hwb : decide (e.w < 0) = false := by simp; omega
              by_cases hw1 : 1099511627776 < e.w
              · have B := bad (okE V e) (fun h => h.2.2.2.1 e heE) (fun h => by have := h.2.1; omega)
                have hwc : decide (1099511627776 < e.w) = true := by simp [hw1]
                clear hall hk hbel heE hx hxi bad hw0 hw1
                go_big_quiet ((go_at_call 38; exact q_same (rbad_t OK.out _) ⟨_, rfl⟩))
                try clear e1
                go_wp2_with fail
                go_ret
                exact ⟨by rw [B.out]; rfl, below_dr D.out.1 _⟩
              have hwc : decide (1099511627776 < e.w) = false := by simp; omega
              by_cases hu : e.u ∈ V
              · have hub : decide (e.u ∈ V) = true := by simp [hu]
                by_cases hv : e.v ∈ V
                · have hvb : decide (e.v ∈ V) = true := by simp [hv]
                  have G : Aside (∀ x ∈ E.take (k + 1), okE V x) := fun x hx' => by
                    rw [List.take_succ_eq_append_getElem hlt, List.mem_append, List.mem_singleton] at hx'
                    rcases hx' with hx' | rfl
                    · exact hall x hx'
                    · rw [hx]; exact ⟨by omega, by omega, hu, hv⟩
                  clear hall hk hbel heE hx hxi bad hw0 hw1 hu hv
                  go_big_quiet ((go_at_call 38; exact q_same (rbad_t OK.out _) ⟨_, rfl⟩))
                  try clear e1
                  go_wp2_with (go_at_call 30; refine (has_ref _ V _ _ (D.out.2.2.1.below (below_dr (Below.refl _ _) _))).mono ?_; rintro _ _ ⟨rfl, rfl⟩)
                  go_roundg (gk - 1)
                  case rel => exact ⟨k + 1, by have := D.out.2.2.2.1; omega, by go_num, RS.out, G.out, below_dr D.out.2.1 _⟩
                  case measure => have := D.out.2.2.2.1; omega
                · have hvb : decide (e.v ∈ V) = false := by simp [hv]
                  have B := bad (okE V e) (fun h => h.2.2.2.1 e heE) (fun h => hv h.2.2.2)
                  clear hall hk hbel heE hx hxi bad hw0 hw1 hu hv
                  go_big_quiet ((go_at_call 38; exact q_same (rbad_t OK.out _) ⟨_, rfl⟩))
                  try clear e1
                  go_wp2_with (go_at_call 30; refine (has_ref _ V _ _ (D.out.2.2.1.below (below_dr (Below.refl _ _) _))).mono ?_; rintro _ _ ⟨rfl, rfl⟩)
                  go_ret
                  exact ⟨by rw [B.out]; rfl, below_dr D.out.1 _⟩
              · have hub : decide (e.u ∈ V) = false := by simp [hu]
                have B := bad (okE V e) (fun h => h.2.2.2.1 e heE) (fun h => hu h.2.2.1)
                clear hall hk hbel heE hx hxi bad hw0 hw1 hu
                go_big_quiet ((go_at_call 38; exact q_same (rbad_t OK.out _) ⟨_, rfl⟩))
                try clear e1
                go_wp2_with (go_at_call 30; refine (has_ref _ V _ _ (D.out.2.2.1.below (below_dr (Below.refl _ _) _))).mono ?_; rintro _ _ ⟨rfl, rfl⟩)
                go_ret
                exact ⟨by rw [B.out]; rfl, below_dr D.out.1 _⟩
            · have hdd : 0 < k := by omega
              obtain ⟨-, -, b2, off2, hea2, -, gp, -⟩ := BW.out.2.2.get (k := k - 1) (by omega)
              simp only [Option.some.injEq, Addr.mk.injEq] at hea2
              obtain ⟨rfl, rfl, -⟩ := hea2
              obtain ⟨y, hy⟩ : ∃ y, E[k - 1]'(by omega) = y := ⟨_, rfl⟩
              rw [hy] at gp
              have hy' : (E.map Edg.id)[k - 1]? = some y.id := by rw [← hy, List.getElem?_map, List.getElem?_eq_getElem (by omega)]; rfl
              replace gp := (bcell hb1 _ _ hb).trans gp
              have e1 : IntKind.i64.wrap ((k : Int) - 1) = ((k - 1 : Nat) : Int) := by rw [IntWalk.i64_in _ (by omega)]; omega
              have hk1 : k - 1 < E.length := by omega
              by_cases hyx : y.id < e.id
              · have hle : decide (e.id ≤ y.id) = false := by simp; omega
                have RS : Aside (Rises ((E.map Edg.id).take (k + 1))) := hstep.2 ⟨hok, fun _ z hz => by rw [hy'] at hz; cases hz; exact hyx⟩
                clear hstep hr hok hk0 hyx hy hy'
                by_cases hw0 : e.w < 0
                · have B := bad (okE V e) (fun h => h.2.2.2.1 e heE) (fun h => by have := h.1; omega)
                  have hwb : decide (e.w < 0) = true := by simp [hw0]
                  clear hall hk hbel heE hx hxi bad hw0
                  go_big_quiet ((go_at_call 38; exact q_same (rbad_t OK.out _) ⟨_, rfl⟩))
                  try clear e1
                  go_wp2_with fail
                  go_ret
                  exact ⟨by rw [B.out]; rfl, below_dr D.out.1 _⟩
                have hwb : decide (e.w < 0) = false := by simp; omega
                by_cases hw1 : 1099511627776 < e.w
                · have B := bad (okE V e) (fun h => h.2.2.2.1 e heE) (fun h => by have := h.2.1; omega)
                  have hwc : decide (1099511627776 < e.w) = true := by simp [hw1]
                  clear hall hk hbel heE hx hxi bad hw0 hw1
                  go_big_quiet ((go_at_call 38; exact q_same (rbad_t OK.out _) ⟨_, rfl⟩))
                  try clear e1
                  go_wp2_with fail
                  go_ret
                  exact ⟨by rw [B.out]; rfl, below_dr D.out.1 _⟩
                have hwc : decide (1099511627776 < e.w) = false := by simp; omega
                by_cases hu : e.u ∈ V
                · have hub : decide (e.u ∈ V) = true := by simp [hu]
                  by_cases hv : e.v ∈ V
                  · have hvb : decide (e.v ∈ V) = true := by simp [hv]
                    have G : Aside (∀ x ∈ E.take (k + 1), okE V x) := fun x hx' => by
                      rw [List.take_succ_eq_append_getElem hlt, List.mem_append, List.mem_singleton] at hx'
                      rcases hx' with hx' | rfl
                      · exact hall x hx'
                      · rw [hx]; exact ⟨by omega, by omega, hu, hv⟩
                    clear hall hk hbel heE hx hxi bad hw0 hw1 hu hv
                    go_big_quiet ((go_at_call 38; exact q_same (rbad_t OK.out _) ⟨_, rfl⟩))
                    try clear e1
                    go_wp2_with (go_at_call 30; refine (has_ref _ V _ _ (D.out.2.2.1.below (below_dr (Below.refl _ _) _))).mono ?_; rintro _ _ ⟨rfl, rfl⟩)
                    go_roundg (gk - 1)
                    case rel => exact ⟨k + 1, by have := D.out.2.2.2.1; omega, by go_num, RS.out, G.out, below_dr D.out.2.1 _⟩
                    case measure => have := D.out.2.2.2.1; omega
                  · have hvb : decide (e.v ∈ V) = false := by simp [hv]
                    have B := bad (okE V e) (fun h => h.2.2.2.1 e heE) (fun h => hv h.2.2.2)
                    clear hall hk hbel heE hx hxi bad hw0 hw1 hu hv
                    go_big_quiet ((go_at_call 38; exact q_same (rbad_t OK.out _) ⟨_, rfl⟩))
                    try clear e1
                    go_wp2_with (go_at_call 30; refine (has_ref _ V _ _ (D.out.2.2.1.below (below_dr (Below.refl _ _) _))).mono ?_; rintro _ _ ⟨rfl, rfl⟩)
                    go_ret
                    exact ⟨by rw [B.out]; rfl, below_dr D.out.1 _⟩
                · have hub : decide (e.u ∈ V) = false := by simp [hu]
                  have B := bad (okE V e) (fun h => h.2.2.2.1 e heE) (fun h => hu h.2.2.1)
                  clear hall hk hbel heE hx hxi bad hw0 hw1 hu
                  go_big_quiet ((go_at_call 38; exact q_same (rbad_t OK.out _) ⟨_, rfl⟩))
                  try clear e1
                  go_wp2_with (go_at_call 30; refine (has_ref _ V _ _ (D.out.2.2.1.below (below_dr (Below.refl _ _) _))).mono ?_; rintro _ _ ⟨rfl, rfl⟩)
                  go_ret
                  exact ⟨by rw [B.out]; rfl, below_dr D.out.1 _⟩
              · have hle : decide (e.id ≤ y.id) = true := by simp; omega
                have B : Aside (checkN V E = 60) := checkN_no fun h => hyx ((hstep.1 (rises_of_take h.2.2.2.2)).2 (by omega) y.id hy')
                clear hstep hr hall hk hbel hok heE hx hxi hy hy' hyx hk0 bad
                go_big_quiet ((go_at_call 38; exact q_same (rbad_t OK.out _) ⟨_, rfl⟩))
                clear e1
                go_wp2_with fail
                go_ret
                exact ⟨by rw [B.out]; rfl, below_dr D.out.1 _⟩
          · have B : Aside (checkN V E = 60) := checkN_no fun h => hok (h.2.2.2.2.1 _ (List.mem_map.2 ⟨e, heE, rfl⟩))
            have OK : Aside (¬ okId e.id) := hok
            clear hstep hr hall hk hbel hok heE hx hxi
            go_big_quiet ((go_at_call 38; exact q_same (rbad_f OK.out _) ⟨_, rfl⟩))
            go_wp2_with fail
            go_ret
            exact ⟨by rw [B.out]; rfl, below_dr D.out.1 _⟩
        · have hkk : k = E.length := by omega
          subst hkk
          have B : Aside (checkN V E = 0) := checkN_ok ⟨R.out.1, R.out.2, RV.out, by rw [List.take_length] at hall; exact hall, by rw [List.take_of_length_le (by simp)] at hr; exact hr⟩
          clear hr hall hk hbel
          go_wp2_with fail
          go_ret
          exact ⟨by rw [B.out]; rfl, BW.out.1⟩

end Go.Proofs.YthidhdffiebbgaaGreatDoor
