/- slices.Insert in front, at slices of bytes: the frame. -/
import Derived.Test.YthfidlhefkjpdaaGreatDoorTak
import Derived.Shelf.Spec.SlicesInsertGrow
import Derived.Deep.RegionLaw
namespace Go.Proofs.YthfidlhefkjpdaaGreatDoor
open Go.RowKit Go.Lib

theorem setCells_fr (b : Nat) : ∀ (vs : List Value) (o : Nat) (w : World), Fr (· = b) w (w.setCells b o vs)
  | [], _, _ => Fr.refl _ _
  | v :: r, o, w => by
    rw [World.setCells]
    exact ((Fr.refl (· = b) w).set (p := ⟨b, o, none⟩) (.inl rfl) v).trans (setCells_fr b r (o + 1) _) (fun _ _ h => h)

set_option maxRecDepth 100000 in
set_option maxHeartbeats 2000000 in
theorem insShift_any (b n c gv : Nat) (x : Value) (cs : List Value) (w : World) (hn : 0 < n) (hroom : n + 1 ≤ c) (hc63 : c ≤ 9223372036854775807) (hvb : gv ≠ b)
    (hcl : cs.length = n) (hcs : ∀ j v, cs[j]? = some v → w.cell? ⟨b, j, none⟩ = some v) (hsp : ∀ j, j < n + 1 → (w.cell? ⟨b, j, none⟩).isSome = true) (hfz : ∀ j, w.frozen? ⟨b, j, none⟩ = false)
    (hx : w.heap[gv]? = some (.cells #[x] 43 (0, 0))) (h1c : ∀ v ∈ cs, v.oneCell' = true) (h1v : x.oneCell' = true) (tB : TypeId) (kB : Nat) (hsb : w.shape? b = some (tB, kB)) (hkB : kB ≠ 0) :
    Calls Tryz.prog 94 #[.slice (some ⟨b, 0, none⟩) n c, .int .i64 0, .slice (some ⟨gv, 0, none⟩) 1 1] w fun e w' =>
      e = .returned (.slice (some ⟨b, 0, none⟩) (n + 1) c) ∧ Fr (· = b) w w' := by
  obtain ⟨i0, hi0, hz0, hzs, hzb⟩ := info_parts infoBS
  have hsz : (Tryz.prog.info? 43).map (·.size) = some 1 := by rw [hi0]; simp [hzs]
  have hsa : w.shape? gv = some (43, 1) := by simp [World.shape?, hx]
  have hfa : w.frozen? ⟨gv, 0, none⟩ = false := by simp [World.frozen?, hx]
  have hfe : w.frozen? ⟨gv, 1, none⟩ = false := by simp [World.frozen?, hx]
  have hxc : w.cell? ⟨gv, 0, none⟩ = some x := by simp [World.cell?, hx]
  have hz9 : ∀ w, (Go.sizeOf 43).run Tryz.prog w = .ok 1 w := fun w => by simp [sizeOf, typeInfo, hi0, hzs]
  have hov : ∀ lb cb, (callFunc 129 #[.slice (some ⟨gv, 0, none⟩) 1 1, .slice (some ⟨b, 1, none⟩) lb cb]).run Tryz.prog w = .ok (.value (.bool false)) w := fun lb cb => by
    rw [run_callFunc_extern Tryz.func129 (by kernel_rfl) (by kernel_rfl) (by kernel_rfl) (e := Extern.SlicesOverlaps.overlaps #[47, 47] #[4]) (by kernel_rfl),
      Lib.run_overlaps_apart w 47 4 43 Tryz.underlying47 1 hz9 ⟨gv, 0, none⟩ ⟨b, 1, none⟩ 1 1 lb cb hvb 43 tB 1 kB hsa hsb hkB hfa hfe]
    rfl
  have hcp1 : ∀ ty dc sc, (Builtin.copy_ #[47, 47] ty #[.slice (some ⟨b, 1, none⟩) n dc, .slice (some ⟨b, 0, none⟩) (n + 1) sc]).run Tryz.prog w.drew = .ok (goInt cs.length) (w.drew.setCells b 1 cs) := fun ty dc sc =>
    run_copy_cells w.drew _ _ ty 43 b 1 n dc ⟨b, 0, none⟩ (n + 1) sc cs Tryz.underlying47 hsz (by rw [hcl]; simp only [Nat.min_def]; split <;> omega)
      (fun j v hj => by rw [Addr.add_lit, Nat.zero_add]; exact hcs j v hj)
      (fun j hj => hsp _ (by omega)) (fun j hj => hfz _) h1c
  obtain ⟨W1, hW1⟩ : ∃ W1, W1 = w.drew.setCells b 1 cs := ⟨_, rfl⟩
  have hsp1 : (W1.cell? ⟨b, 0, none⟩).isSome = true := by
    rw [hW1]
    exact isSome_setCells b cs 1 w.drew (fun j hj => hsp (1 + j) (by omega)) 0 (hsp 0 (by omega))
  have hcp2 : ∀ (W : World), (∀ y, W.cell? y = W1.cell? y) → (∀ y, W.frozen? y = W1.frozen? y) → ∀ ty dc, (Builtin.copy_ #[47, 47] ty #[.slice (some ⟨b, 0, none⟩) (n + 1) dc, .slice (some ⟨gv, 0, none⟩) 1 1]).run Tryz.prog W = .ok (goInt [x].length) (W.setCells b 0 [x]) := fun W hWc hWf ty dc =>
    run_copy_cells W _ _ ty 43 b 0 (n + 1) dc ⟨gv, 0, none⟩ 1 1 [x] Tryz.underlying47 hsz (by simp only [Nat.min_def, List.length_cons, List.length_nil]; split <;> omega)
      (fun j v hj => by
        rw [Addr.add_lit, hWc, hW1, World.cell?_setCells_out b _ _ _ _ (fun h _ => absurd h hvb)]
        match j, hj with
        | 0, hj => simp at hj; subst hj; exact hxc)
      (fun j hj => by
        have : j = 0 := by simpa using hj
        subst this
        rw [hWc]; exact hsp1) (fun j hj => by rw [hWf, hW1, World.frozen?_setCells]; exact hfz _) (by simpa using h1v)
  have hF1 : Fr (· = b) w W1 := by rw [hW1]; exact ((Fr.refl (· = b) w).drew).trans (setCells_fr b _ _ _) (fun _ _ h => h)
  rw [← hW1] at hcp1
  have mixed : Tryz.prog.follows .mixedOrders = true := by kernel_rfl
  have hz1 : ¬ ((n : Int) = 0) := by omega
  have hw1 : IntKind.i64.wrap 1 = 1 := by decide
  have hb1 : (1 : Int) ≤ (n : Int) + 1 := by omega
  have hb0 : (0 : Int) ≤ (n : Int) + 1 := by omega
  have hb2 : ¬ (c = 1) := by omega
  have HF := hid hF1
  have hW1h := hid hW1
  clear hF1 hcs hsp hfz hx hsa hfa hfe hxc hsb hsp1 h1c h1v
  clear hW1
  go_enter Tryz.func94, Tryz.ntmps94
  go_wp2_with (simp only [hov])
  go_region_law (refine step_copy_runI rfl _ _ 47 47 rfl _ _ (by simp [Act.eval, Act.put]) (by simp [Act.eval, Act.put]) (hcp1 _ _ _) ?_)
  go_wp2_with (at_builtin; refine wpList_copy_runI _ rfl _ _ 47 47 rfl _ _ rfl rfl (hcp2 _ (fun _ => rfl) (fun _ => rfl) _ _) ?_)
  go_ret
  exact ⟨rfl, HF.out.trans (setCells_fr b _ _ _) (fun _ _ h => h)⟩

set_option maxRecDepth 100000 in
set_option maxHeartbeats 2000000 in
theorem insGrow_any (b n gv : Nat) (x : Value) (cs : List Value) (w : World) (hn : 0 < n) (hbig : (n + 1) * 24 ≤ 140737488355328)
    (hcl : cs.length = n) (hcs : ∀ j v, cs[j]? = some v → w.cell? ⟨b, j, none⟩ = some v)
    (hx : w.heap[gv]? = some (.cells #[x] 43 (0, 0))) (h1c : ∀ v ∈ cs, v.oneCell' = true) (h1v : x.oneCell' = true) :
    Calls Tryz.prog 94 #[.slice (some ⟨b, 0, none⟩) n n, .int .i64 0, .slice (some ⟨gv, 0, none⟩) 1 1] w fun e w' =>
      (∃ A' c', e = .returned (.slice (some A') (n + 1) c')) ∧ Below w.heap.size w w' := by
  obtain ⟨i0, hi0, hz0, hzs, hzb⟩ := info_parts infoBS
  have hsz : (Tryz.prog.info? 43).map (·.size) = some 1 := by rw [hi0]; simp [hzs]
  have hxc : w.cell? ⟨gv, 0, none⟩ = some x := by simp [World.cell?, hx]
  have hbw : b < w.heap.size := block_lt_of_cell (hcs 0 _ (List.getElem?_eq_getElem (by omega)))
  have hvw : gv < w.heap.size := block_lt_of_cell hxc
  have hrz : ∀ ty, (Builtin.append_ #[47, 3] ty #[.slice (some ⟨b, 0, none⟩) 0 n, .int .i64 ((n : Int) + 1)]).run Tryz.prog w =
      .ok (.slice (some ⟨w.heap.size, 0, none⟩) (n + 1) (grownCap w (n + 1) n 43)) (w.drew.alloc (.cells ((([] : List Value)).toArray ++ Builtin.zeroCells (Value.slice none 0 0).cells (n + 1) ++ Builtin.zeroCells (Value.slice none 0 0).cells (grownCap w (n + 1) n 43 - (n + 1))) 43)) := fun ty => by
    have hold : (Builtin.firstCells i0.size 0 (.slice (some ⟨b, 0, none⟩) 0 n)).run Tryz.prog w.drew = .ok (([] : List Value)).toArray w.drew := by
      rw [hzs]
      exact run_firstCells_some w.drew 1 0 ⟨b, 0, none⟩ 0 n [] rfl (fun j v hj => by simp at hj)
    have h := Lib.run_append_grow_zeros w 47 3 ty 43 i0 _ .i64 .i64 Tryz.underlying47 Tryz.underlying3 hi0 hz0 (some ⟨b, 0, none⟩) 0 n [] hold (n + 1) (by omega) (by omega) (by omega) (by omega) (by rw [hzb]; omega) (by rw [hzb]; exact growslice_fits (by omega) (by omega))
    rw [Nat.zero_add] at h
    exact h
  obtain ⟨G, hG⟩ : ∃ G, G = grownCap w (n + 1) n 43 := ⟨_, rfl⟩
  obtain ⟨ROW, hROW⟩ : ∃ ROW : Array Value, ROW = (([] : List Value)).toArray ++ Builtin.zeroCells (Value.slice none 0 0).cells (n + 1) ++ Builtin.zeroCells (Value.slice none 0 0).cells (G - (n + 1)) := ⟨_, rfl⟩
  rw [← hG] at hrz
  rw [← hROW] at hrz
  have hRl : n + 1 ≤ ROW.size := by
    rw [hROW]
    simp [Builtin.zeroCells, Value.cells]
  obtain ⟨W1, hW1⟩ : ∃ W1, W1 = w.drew.alloc (.cells ROW 43) := ⟨_, rfl⟩
  rw [← hW1] at hrz
  have hN : ∀ j, j < n + 1 → (W1.cell? ⟨w.heap.size, j, none⟩).isSome = true := fun j hj => by
    rw [hW1, World.cell?_alloc_at (w := w.drew) ROW _ w.heap.size j rfl, Array.getElem?_eq_getElem (by omega)]; rfl
  have hNf : ∀ j, W1.frozen? ⟨w.heap.size, j, none⟩ = false := fun j => by rw [hW1]; exact World.frozen?_alloc_at (w := w.drew) ROW _ w.heap.size j rfl
  have hOb : ∀ j v, w.cell? ⟨b, j, none⟩ = some v → W1.cell? ⟨b, j, none⟩ = some v := fun j v h => by rw [hW1, World.cell?_alloc_past (w := w.drew) _ b j hbw]; exact h
  have hOv : W1.cell? ⟨gv, 0, none⟩ = some x := by rw [hW1, World.cell?_alloc_past (w := w.drew) _ gv 0 hvw]; exact hxc
  have hcpA : ∀ (W : World), (∀ y, W.cell? y = W1.cell? y) → (∀ y, W.frozen? y = W1.frozen? y) → ∀ ty dc, (Builtin.copy_ #[47, 47] ty #[.slice (some ⟨w.heap.size, 0, none⟩) (n + 1) dc, .slice (some ⟨gv, 0, none⟩) 1 1]).run Tryz.prog W = .ok (goInt [x].length) (W.setCells w.heap.size 0 [x]) := fun W hWc hWf ty dc =>
    run_copy_cells W _ _ ty 43 w.heap.size 0 (n + 1) dc ⟨gv, 0, none⟩ 1 1 [x] Tryz.underlying47 hsz (by simp only [Nat.min_def, List.length_cons, List.length_nil]; split <;> omega)
      (fun j v hj => by
        rw [Addr.add_lit, hWc]
        match j, hj with
        | 0, hj => simp at hj; subst hj; exact hOv)
      (fun j hj => by
        have : j = 0 := by simpa using hj
        subst this
        rw [hWc]; exact hN _ (by omega)) (fun j hj => by rw [hWf]; exact hNf _) (by simpa using h1v)
  have hGn : n + 1 ≤ G := by rw [hG]; exact grownCap_ge w _ _ _
  have hG63 : G ≤ 9223372036854775807 := by
    have := grownCap_le_maxLen w (n + 1) n 43 (by unfold maxLen; omega)
    rw [← hG] at this
    unfold maxLen at this
    omega
  have hG0 : ¬ (G = 0) := by omega
  have hG1 : ¬ (G = 1) := by omega
  have hn0 : ¬ (n = 0) := by omega
  have hbN : b ≠ w.heap.size := by omega
  have hcpB : ∀ (W : World), (∀ y, W.cell? y = (W1.setCells w.heap.size 0 [x]).cell? y) → (∀ y, W.frozen? y = (W1.setCells w.heap.size 0 [x]).frozen? y) → ∀ ty dc sc, (Builtin.copy_ #[47, 47] ty #[.slice (some ⟨w.heap.size, 1, none⟩) n dc, .slice (some ⟨b, 0, none⟩) n sc]).run Tryz.prog W = .ok (goInt cs.length) (W.setCells w.heap.size 1 cs) := fun W hWc hWf ty dc sc =>
    run_copy_cells W _ _ ty 43 w.heap.size 1 n dc ⟨b, 0, none⟩ n sc cs Tryz.underlying47 hsz (by rw [hcl]; simp)
      (fun j v hj => by
        rw [Addr.add_lit, hWc, World.cell?_setCells_out _ _ _ _ _ (fun h _ => absurd h hbN), Nat.zero_add]
        exact hOb _ v (hcs j v hj))
      (fun j hj => by rw [hWc]; exact isSome_setCells _ _ _ _ (fun t ht => by
        have : t = 0 := by simpa using ht
        subst this
        exact hN _ (by omega)) _ (hN _ (by omega)))
      (fun j hj => by rw [hWf, World.frozen?_setCells]; exact hNf _) h1c
  have hbel : Below w.heap.size w (((W1.setCells w.heap.size 0 [x]).drew).setCells w.heap.size 1 cs) := by
    have h1 : Fr (· = w.heap.size) w (((W1.setCells w.heap.size 0 [x]).drew).setCells w.heap.size 1 cs) := by
      have k1 : Fr (· = w.heap.size) w W1 := by rw [hW1]; exact ((Fr.refl _ w).drew).alloc _
      have k2 := k1.trans (setCells_fr w.heap.size [x] 0 _) (fun _ _ h => h)
      exact (k2.drew).trans (setCells_fr w.heap.size cs 1 _) (fun _ _ h => h)
    exact h1.below (Nat.le_refl _) (fun y hy => by rw [hy]; exact Nat.le_refl _)
  have hw1 : IntKind.i64.wrap 1 = 1 := by decide
  have hb1 : (1 : Int) ≤ (n : Int) + 1 := by omega
  have hb0 : (0 : Int) ≤ (n : Int) + 1 := by omega
  have hz1 : ¬ ((n : Int) = 0) := by omega
  have mixed : Tryz.prog.follows .mixedOrders = true := by kernel_rfl
  have HB := hid hbel
  clear hROW hG hRl hbel hW1 hcs hx hxc h1c h1v hN hNf hOb hOv
  go_enter Tryz.func94, Tryz.ntmps94
  go_wp2_with (first
    | (at_builtin; refine Lib.wpList_append_run _ rfl _ _ _ _ rfl _ _ rfl rfl _ _ (hrz _) ?_)
    | (at_builtin; refine wpList_copy_runI _ rfl _ _ 47 47 rfl _ _ rfl rfl (hcpA _ (fun _ => rfl) (fun _ => rfl) _ _) ?_)
    | (at_builtin; refine wpList_copy_runI _ rfl _ _ 47 47 rfl _ _ rfl rfl (hcpB _ (fun _ => rfl) (fun _ => rfl) _ _ _) ?_))
  go_region_law (refine step_copy_runI rfl _ _ 47 47 rfl (.slice (some ⟨w.heap.size, 1, none⟩) n (G - 1)) (.slice (some ⟨b, 0, none⟩) n n) (by go_simp) (by go_simp) (hcpB ((W1.setCells w.heap.size 0 [x]).drew) (fun _ => rfl) (fun _ => rfl) _ _ _) ?_)
  go_wp2
  go_ret
  exact ⟨⟨_, _, rfl⟩, HB.out⟩

/-- slices.Insert in front, whatever room there is. -/
theorem insFront_any (base n gv : Nat) (v x : Value) (vs : List Value) (w : World) (hO : w.ownsRow base 43 1 v n vs) (hx : w.heap[gv]? = some (.cells #[x] 43 (0, 0))) (h1 : x.oneCell' = true) (hv1 : ∀ u ∈ vs, u.oneCell' = true) (hn0 : 0 < n) (hn : n ≤ 1000)
    (hne : v.ownBlock ≠ some gv) :
    Calls Tryz.prog 94 #[v, .int .i64 0, .slice (some ⟨gv, 0, none⟩) 1 1] w fun e w' => (∃ A' c', e = .returned (.slice (some A') (n + 1) c')) ∧ Fr (fun b => v.ownBlock = some b) w w' := by
  have hO2 := hO
  obtain ⟨hl, ⟨_, h0⟩ | ⟨g, cap, cur, rfl, hb, hg, hnc, hcm, hcs, ht⟩⟩ := hO
  · omega
  have hvl : vs.length = n := by simpa using hl
  have hcell : ∀ j u, vs[j]? = some u → w.cell? ⟨g, j, none⟩ = some u := fun j u hj => by
    have := (List.getElem?_eq_some_iff.1 hj).1
    rw [hO2.cellAt j (by omega)]
    exact hj
  rcases Nat.lt_or_ge n cap with hlt | hge
  · refine (insShift_any g n cap gv x vs w hn0 hlt (by unfold maxLen at hcm; omega) (fun e => hne (by rw [e]; rfl)) hvl hcell (fun j hj => ?_) (fun j => hO2.frozenAt j) hx hv1 h1 43 cur.size (by simp [World.shape?, hg]) (by omega)).mono ?_
    · have hjc : j < cur.size := by omega
      simp [World.cell?, hg, hjc]
    · rintro e w' ⟨rfl, hF⟩
      exact ⟨⟨_, _, rfl⟩, hF.mono fun b _ e => by rw [e]; rfl⟩
  · obtain rfl : cap = n := by omega
    refine (insGrow_any g cap gv x vs w hn0 (by omega) hvl hcell hx hv1 h1).mono ?_
    rintro e w' ⟨he, hB⟩
    exact ⟨he, Fr.of_below hB _⟩
end Go.Proofs.YthfidlhefkjpdaaGreatDoor
