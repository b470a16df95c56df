/- The walk of reach: a tree gone through from a vertex. -/
import Derived.Test.YthidhdffiebbgaaGreatDoorBfsA
import Derived.Deep.RegionHeld3
namespace Go.Proofs.YthidhdffiebbgaaGreatDoor
open Go.RowKit Go.Proofs.YthidhdffiebbgaaGreatDoor.Sk

theorem zero23 (w : World) : (zeroValue 23).run Tryz.prog w = .ok (.slice none 0 0) w := by rw [Tryz.zeroValue23]

theorem two_alloc_new (w : World) (o c : Obj) (n : Nat) (hn : n = w.heap.size + 1) : ((w.alloc o).alloc c).drew.heap[n]? = some c := by
  subst hn
  have := World.alloc_heap_new (w.alloc o) c
  rw [World.size_alloc] at this
  exact this
theorem one_alloc_new (w : World) (c : Obj) (n : Nat) (hn : n = w.heap.size) : (w.alloc c).drew.heap[n]? = some c := by
  subst hn
  exact World.alloc_heap_new w c

theorem arnd_push (F : List Edg) (e : Edg) (A4 : Int → List Edg) (h : A4 = fun x => if x = e.u then arnd F e.u ++ [e] else arnd F x) :
    arnd (F ++ [e]) = fun x => if x = e.v then A4 e.v ++ [e] else A4 x := by
  subst h
  funext x
  rw [arnd_snoc]
  by_cases h1 : e.u = x <;> by_cases h2 : e.v = x
  · subst h1; simp [h2]
  · subst h1; simp [h2, Ne.symm h2]
  · subst h2; simp [h1, Ne.symm h1]
  · simp [h1, h2, Ne.symm h1, Ne.symm h2]

/-- how a vertex was reached -/
def stepV (x : Edg × Int) : Value := .agg #[.int .i64 x.1.id, .int .i64 x.1.u, .int .i64 x.1.v, .int .i64 x.1.w, .int .i64 x.2]
def encS (M : Int → Option (Edg × Int)) : Int → Option Value := fun v => (M v).map stepV
theorem encS_upd (M : Int → Option (Edg × Int)) (v : Int) (x : Edg × Int) : upd (encS M) v (stepV x) = encS (updS M v x) := by
  funext y
  by_cases h : y = v <;> simp [upd, encS, updS, h]

/-- the loop over the order: what holds at its head -/
def ReachRel (w3 : World) (V : List Int) (F : List Edg) (r : Int) (g : Nat) (i o : Value) (wr : World) : Prop :=
  ∃ (k nn : Nat) (ord : List Int) (M : Int → Option (Edg × Int)) (D : Int → Nat), k + g = 2049 ∧ i = .int .i64 k ∧ k ≤ ord.length ∧ nn ≤ ord.length ∧ Below w3.heap.size w3 wr ∧ w3.heap.size < wr.heap.size ∧
    MapAt Tryz.prog 3 wr w3.heap.size nn (encS M) ∧ wr.ownsRow w3.heap.size 3 1 o ord.length (ord.map (Value.int .i64)) ∧ Bfs F r ord M D ∧ (∀ x ∈ ord, x ∈ V) ∧ ord.length ≤ 2048 ∧ (∀ x ∈ ord.take k, ∀ e ∈ arnd F x, e.u + e.v - x ∈ ord)

/-- the loop over what lies around u -/
def ReachIn (w3 : World) (V : List Int) (F : List Edg) (r : Int) (k : Nat) (ord0 : List Int) (u : Int) (g : Nat) (i o : Value) (wr : World) : Prop :=
  ∃ (k2 nn : Nat) (ord : List Int) (M : Int → Option (Edg × Int)) (D : Int → Nat), k2 + g = (arnd F u).length ∧ i = .int .i64 k2 ∧ (∃ tl, ord = ord0 ++ tl) ∧ nn ≤ ord.length ∧ Below w3.heap.size w3 wr ∧ w3.heap.size < wr.heap.size ∧
    MapAt Tryz.prog 3 wr w3.heap.size nn (encS M) ∧ wr.ownsRow w3.heap.size 3 1 o ord.length (ord.map (Value.int .i64)) ∧ Bfs F r ord M D ∧ (∀ x ∈ ord, x ∈ V) ∧ ord.length ≤ 2048 ∧ (∀ x ∈ ord.take k, ∀ e ∈ arnd F x, e.u + e.v - x ∈ ord) ∧
    (∀ e ∈ (arnd F u).take k2, e.u + e.v - u ∈ ord)

/-- the loop over the forest: what holds at its head -/
def AroundRel (w w2 : World) (F : List Edg) (mb g : Nat) (i : Value) (wr : World) : Prop :=
  ∃ (k nn : Nat) (vs : Int → Option Value), k + g = F.length ∧ i = .int .i64 k ∧ Below w.heap.size w wr ∧ nn ≤ 2 * k ∧ w2.heap.size ≤ wr.heap.size ∧
    (∀ j, j < w2.heap.size → j ≠ mb → wr.heap[j]? = w2.heap[j]?) ∧ Arnd wr w2.heap.size mb nn vs (arnd (F.take k))

theorem rdI_own {w : World} {base n : Nat} {v : Value} {zs : List Int} (h : w.ownsRow base 3 1 v n (zs.map (Value.int .i64))) (hwf : ∀ x ∈ zs, wf64 x) (hlen : n * 8 ≤ 140737488351232) : RdI w v zs := by
  have hl : zs.length = n := by simpa using h.1
  obtain ⟨a, cap, rfl, h1⟩ := owns_form h
  rcases Nat.eq_zero_or_pos n with h0 | h0
  · subst hl
    refine ⟨a, cap, rfl, hwf, hlen, fun h => by omega⟩
  · obtain ⟨gb, rfl⟩ := h1 h0
    exact rdI_of_owns h hwf hlen

theorem field142_1 (a b c d s : Int) (w : World) : (Instr.field 142 (.agg #[.int .i64 a, .int .i64 b, .int .i64 c, .int .i64 d, .int .i64 s]) 1).run Tryz.prog w = .ok (.int .i64 s) w := by
  kernel_rfl
theorem field142_0 (a b c d s : Int) (w : World) : (Instr.field 142 (.agg #[.int .i64 a, .int .i64 b, .int .i64 c, .int .i64 d, .int .i64 s]) 0).run Tryz.prog w = .ok (.agg #[.int .i64 a, .int .i64 b, .int .i64 c, .int .i64 d]) w := by
  kernel_rfl

theorem encS_none : encS (fun _ => none) = fun _ => none := rfl
theorem rises_ok {V : List Int} (h : Rises V) {x : Int} (hx : x ∈ V) : 1 ≤ x ∧ x ≤ 2147483647 := h.1 x hx

/-- what reach leaves -/
def ReachPost (w : World) (V : List Int) (F : List Edg) (r : Int) (e : Ending) (w' : World) : Prop :=
  ∃ (sb nn : Nat) (ov : Value) (ord : List Int) (M : Int → Option (Edg × Int)) (D : Int → Nat), e = .returned (.tuple #[.map (some sb), ov]) ∧ w.heap.size ≤ sb ∧ MapAt Tryz.prog 3 w' sb nn (encS M) ∧
    RdI w' ov ord ∧ Bfs F r ord M D ∧ Closed F ord ∧ (∀ x ∈ ord, x ∈ V) ∧ ord.length ≤ 2048 ∧ Below w.heap.size w w'

set_option maxRecDepth 100000 in
set_option maxHeartbeats 2000000 in
theorem reach_any (n : Value) (V : List Int) (E : List Edg) (root : Int) (w : World) (hn : NetAt w n V E) (hR : Right V E) (hf : root ∈ V) :
    Calls Tryz.prog 81 #[n, .int .i64 root] w (ReachPost w V (forestOf E) root) := by
  obtain ⟨vs, es, rfl, hV, hE⟩ := hn.ex
  have hmm := @run_makeMap Tryz.prog
  have hb0 : Below w.heap.size w ((w.alloc (.cells #[vs, es] 25)).alloc (.map #[] 0)) := ((Below.refl _ _).alloc (Nat.le_refl _) _).alloc (by simp) _
  have hwf : ∀ e ∈ E, e.wf := by obtain ⟨_, _, _, h, _⟩ := hE; exact h
  have hF := forest_of _ V E _ (hn.below hb0) hR
  have hMp0 := MapAt.made Tryz.prog 3 (w.alloc (.cells #[vs, es] 25))
  rw [World.size_alloc] at hMp0
  have hz0 : w.heap.size + 1 < ((w.alloc (.cells #[vs, es] 25)).alloc (.map #[] 0)).heap.size := by simp
  have A : Aside (NetAt w (.agg #[vs, es]) V E ∧ (∀ e ∈ E, e.wf) ∧ Right V E ∧ root ∈ V ∧ Below w.heap.size w ((w.alloc (.cells #[vs, es] 25)).alloc (.map #[] 0)) ∧
    MapAt Tryz.prog 3 ((w.alloc (.cells #[vs, es] 25)).alloc (.map #[] 0)) (w.heap.size + 1) 0 (fun _ => none)) := ⟨hn, hwf, hR, hf, hb0, hMp0⟩
  clear hn hV hE hwf hR hf hb0 hMp0
  go_enter Tryz.func81, Tryz.ntmps81
  go_wp2_with fail
  refine hF.mono ?_
  rintro _ w2 ⟨fv, rfl, hO, hb2⟩
  obtain ⟨a1, a2, a3, a4, a5, a6⟩ := A.out
  have hwfF := wf_sub a2
  have hRd := rdE_of_owns hO hwfF (by have := forestOf_le E; have := a3.2.1; omega)
  have hlen : (forestOf E).length ≤ 2048 := by have := forestOf_le E; have := a3.2.1; omega
  obtain ⟨F, hFe⟩ : ∃ F, forestOf E = F := ⟨_, rfl⟩
  have hok : ∀ e ∈ F, okE V e := fun e he => a3.2.2.2.1 e (forestOf_sub E e (hFe ▸ he))
  rw [hFe] at hRd hlen hO hwfF
  obtain ⟨fa, fcap, rfl, _⟩ := owns_form hO
  have hsz2 : w.heap.size + 2 ≤ w2.heap.size := by have := hb2.size; simpa using this
  have C : Aside (RdE w2 (.slice fa F.length fcap) F ∧ Below w.heap.size w w2 ∧ forestOf E = F ∧ (∀ e ∈ F, okE V e) ∧ MapAt Tryz.prog 3 w2 (w.heap.size + 1) 0 (fun _ => none)) :=
    ⟨hRd, a5.trans (hb2.mono (by simp; omega)), hFe, hok, a6.below hb2 (by simp)⟩
  clear hRd hb2 hFe hO hF hwfF hok a1 a2 a3 a4 a5 a6
  go_wp2_with fail
  go_loopg [22] F.length (fun g i wr => AroundRel w w2 F (w.heap.size + 1) g i wr)
  case atStart =>
    obtain ⟨c1, c2, c3, c4, c5⟩ := C.out
    exact ⟨0, 0, fun _ => none, by omega, rfl, c2, by omega, Nat.le_refl _, fun _ _ _ => rfl, c5, fun _ _ h => (by cases h), fun _ _ => rfl, fun _ _ _ _ _ _ h => (by cases h)⟩
  case round =>
    obtain ⟨k, nn, vs, hk, rfl, hbel, hnn, hsz, hsame, hA⟩ := hrel
    have hRd := rdE_but C.out.1 C.out.2.2.2.2 hsz hsame
    by_cases hlt : k < F.length
    · obtain ⟨_, hew, b, off, hfa, hb, g0, g1, g2, g3⟩ := hRd.get hlt
      subst hfa
      obtain ⟨e, hx⟩ : ∃ e, F[k] = e := ⟨_, rfl⟩
      rw [hx] at g0 g1 g2 g3 hew
      have hsnoc : F.take (k + 1) = F.take k ++ [e] := by rw [List.take_succ_eq_append_getElem hlt, hx]
      have hu : wf64 e.u := hew.2.1
      have hv : wf64 e.v := hew.2.2.1
      have hAl : ∀ x, (arnd (F.take k) x).length ≤ 4096 := fun x => by have := arnd_le (F.take k) x; simp at this; omega
      obtain ⟨i1, hi1, hy0, hy1, hy2⟩ := info_parts info47
      obtain ⟨A0, hA0⟩ : ∃ A0, arnd (F.take k) = A0 := ⟨_, rfl⟩
      rw [hA0] at hA hAl
      have hB1 := (hA.alloc (.cells #[.int .i64 e.id, .int .i64 e.u, .int .i64 e.v, .int .i64 e.w] 47)).drew
      have hB2 := ((hA.alloc (.cells #[.int .i64 e.id, .int .i64 e.u, .int .i64 e.v, .int .i64 e.w] 47)).alloc (.cells #[.int .i64 e.id, .int .i64 e.u, .int .i64 e.v, .int .i64 e.w] 47)).drew
      have hne1 : some wr.heap.size ≠ ((vs e.u).getD (.slice none 0 0)).ownBlock := fun h => by have := ((hA.row e.u).lt _ h.symm).2; omega
      have hnall : ∀ x b', ((vs x).getD (.slice none 0 0)).ownBlock = some b' → b' < wr.heap.size := fun x b' h => ((hA.row x).lt _ h).2
      have hne2 : some wr.heap.size ≠ some (w.heap.size + 1) := by simp; omega
      have hz3 : w.heap.size + 1 < wr.heap.size := by omega
      have look := hB1.map.look Tryz.underlying3 Tryz.underlying180 (zero23 _) hu
      have look2 := hB2.map.look Tryz.underlying3 Tryz.underlying180 (zero23 _) hu
      have hl1 := hAl e.u
      have D : Aside (Below w.heap.size w wr ∧ nn ≤ 2 * k ∧ w2.heap.size ≤ wr.heap.size ∧ (∀ j, j < w2.heap.size → j ≠ w.heap.size + 1 → wr.heap[j]? = w2.heap[j]?) ∧ F.take (k + 1) = F.take k ++ [e] ∧ arnd (F.take k) = A0 ∧ ∀ x, (A0 x).length ≤ 4096) :=
        ⟨hbel, hnn, hsz, hsame, hsnoc, hA0, hAl⟩
      clear hbel hRd hsame hx hsnoc hew hA0 hAl hA hB1
      go_wp2_with fail
      go_region_held3 (fun w' => w'.cell? ⟨wr.heap.size, 0, none⟩ = some (.int .i64 e.id) ∧ w'.cell? ⟨wr.heap.size, 1, none⟩ = some (.int .i64 e.u) ∧ w'.cell? ⟨wr.heap.size, 2, none⟩ = some (.int .i64 e.v) ∧ w'.cell? ⟨wr.heap.size, 3, none⟩ = some (.int .i64 e.w))
        (first
          | go_keep
          | (go_split_ands; refine ⟨hgrow.cell ?_ hne1, hgrow.cell ?_ hne1, hgrow.cell ?_ hne1, hgrow.cell ?_ hne1⟩ <;> assumption)
          | (go_split_ands; refine ⟨hturn.grown.cell ?_ hne2, hturn.grown.cell ?_ hne2, hturn.grown.cell ?_ hne2, hturn.grown.cell ?_ hne2⟩ <;> assumption))
        ((refine step_append_lies _ (by rfl) _ _ _ (by rfl) w2.heap.size 47 i1 _ 4 32 Tryz.underlying23 hi1 hy0 hy1 hy2 rfl (by omega) ((vs e.u).getD (.slice none 0 0)) (A0 e.u).length _ (by rfl) (hB2.row e.u) ⟨wr.heap.size + 1, 0, none⟩ 1 1 (encE e) (by rfl) (by rfl) (World.news_of_block (cs := #[.int .i64 e.id, .int .i64 e.u, .int .i64 e.v, .int .i64 e.w]) (t := 47) (fr := (0, 0)) (two_alloc_new _ _ _ _ rfl)) (encE_one e) (by omega) (by unfold maxLen; omega) (by omega) (by simp; omega) (wr.heap.size + 1 + 1) (by simp) ?_; intro gg cap w3 hown3 hgrow hat hlt3; obtain ⟨w4, upd4, hM4, hturn⟩ := (hB2.map.kept hgrow (owns_not_map hB2.map (hB2.row e.u)).symm).store Tryz.underlying3 Tryz.underlying180 (by unfold maxLen; omega) hu (.slice (some ⟨gg, 0, none⟩) ((A0 e.u).length + 1) cap)))
      all_goals (
        rename_i hH
        obtain ⟨q0, q1, q2, q3⟩ := hH
        clear g0 g1 g2 g3
        have hsz3 : wr.heap.size + 2 ≤ w4.heap.size := (by have := hgrow.size; have := hturn.grown.size; simp at *; omega)
        have hsame4 : ∀ j, j < w2.heap.size → j ≠ w.heap.size + 1 → w4.heap[j]? = wr.heap[j]? := (fun j hj hne => by
          rw [hturn.grown.block j (by have := hgrow.size; simp at this; omega) (by simpa using hne), hgrow.block j (by simp; omega) (fun h => by have := ((hB2.row e.u).lt _ h.symm).1; omega)]
          show ((wr.alloc _).alloc _).heap[j]? = _
          rw [(World.grownBy_alloc _ _ none).block j (by simp; omega) (by simp), (World.grownBy_alloc _ _ none).block j (by omega) (by simp)])
        have hbel4 : Below w.heap.size wr w4 := ⟨hturn.grown.os.trans hgrow.os, hturn.grown.tape.trans hgrow.tape, hturn.grown.output.trans hgrow.output, (by omega), (fun j hj => by
          rw [hturn.grown.block j (by have := hgrow.size; simp at this; omega) (by simp; omega), hgrow.block j (by simp; omega) (fun h => by have := ((hB2.row e.u).lt _ h.symm).1; omega)]
          show ((wr.alloc _).alloc _).heap[j]? = _
          rw [(World.grownBy_alloc _ _ none).block j (by simp; omega) (by simp), (World.grownBy_alloc _ _ none).block j (by omega) (by simp)])⟩
        have hA4 := hB2.push hown3 hgrow (hat.elim (fun h => .inl h.symm) (fun h => .inr (by simp [Value.ownBlock, h]))) hM4 hturn.grown
        have hne3 : some wr.heap.size ≠ (((upd vs e.u (.slice (some ⟨gg, 0, none⟩) ((A0 e.u).length + 1) cap)) e.v).getD (.slice none 0 0)).ownBlock := (by
          intro h
          unfold upd at h
          split at h
          · simp only [Option.getD_some, Value.ownBlock, Option.some.injEq] at h
            rcases hat with h1 | h1
            · have := hnall _ _ h1; omega
            · omega
          · have := hnall _ _ h.symm; omega)
        obtain ⟨vs4, hvs4⟩ : ∃ vs4, upd vs e.u (.slice (some ⟨gg, 0, none⟩) ((A0 e.u).length + 1) cap) = vs4 := ⟨_, rfl⟩
        obtain ⟨A4, hA4e⟩ : ∃ A4 : Int → List Edg, (fun x => if x = e.u then A0 e.u ++ [e] else A0 x) = A4 := ⟨_, rfl⟩
        rw [hvs4, hA4e] at hA4
        rw [hvs4] at hne3
        have hl4 : (A4 e.v).length ≤ 4097 := (by have := D.out.2.2.2.2.2.2; rw [← hA4e]; dsimp only; split; simp; have := this e.u; omega; have := this e.v; omega)
        have F1 : Aside (Below w.heap.size wr w4 ∧ (∀ j, j < w2.heap.size → j ≠ w.heap.size + 1 → w4.heap[j]? = wr.heap[j]?) ∧ wr.heap.size + 2 ≤ w4.heap.size ∧ (fun x => if x = e.u then A0 e.u ++ [e] else A0 x) = A4) := ⟨hbel4, hsame4, hsz3, hA4e⟩
        clear hnall hbel4 hsame4 hA4e hvs4 hB2 hne1 hM4 hturn upd4 hlt3 hat hgrow hown3 look look2 hl1
        have hC2 := (hA4.alloc (.cells #[.int .i64 e.id, .int .i64 e.u, .int .i64 e.v, .int .i64 e.w] 47)).drew
        have look3 := hA4.drew.map.look Tryz.underlying3 Tryz.underlying180 (zero23 _) hv
        have look4 := hC2.map.look Tryz.underlying3 Tryz.underlying180 (zero23 _) hv
        go_wp2_with fail
        go_region_held3 (fun w' => w'.cell? ⟨wr.heap.size, 0, none⟩ = some (.int .i64 e.id) ∧ w'.cell? ⟨wr.heap.size, 1, none⟩ = some (.int .i64 e.u) ∧ w'.cell? ⟨wr.heap.size, 2, none⟩ = some (.int .i64 e.v) ∧ w'.cell? ⟨wr.heap.size, 3, none⟩ = some (.int .i64 e.w))
          (first
            | go_keep
            | (go_split_ands; refine ⟨hgrow.cell ?_ hne3, hgrow.cell ?_ hne3, hgrow.cell ?_ hne3, hgrow.cell ?_ hne3⟩ <;> assumption)
            | (go_split_ands; refine ⟨hturn.grown.cell ?_ hne2, hturn.grown.cell ?_ hne2, hturn.grown.cell ?_ hne2, hturn.grown.cell ?_ hne2⟩ <;> assumption))
          ((refine step_append_lies _ (by rfl) _ _ _ (by rfl) w2.heap.size 47 i1 _ 4 32 Tryz.underlying23 hi1 hy0 hy1 hy2 rfl (by omega) ((vs4 e.v).getD (.slice none 0 0)) (A4 e.v).length _ (by rfl) (hC2.row e.v) ⟨w4.heap.size, 0, none⟩ 1 1 (encE e) (by rfl) (by rfl) (World.news_of_block (cs := #[.int .i64 e.id, .int .i64 e.u, .int .i64 e.v, .int .i64 e.w]) (t := 47) (fr := (0, 0)) (one_alloc_new _ _ _ rfl)) (encE_one e) (by omega) (by unfold maxLen; omega) (by omega) (by simp; omega) (w4.heap.size + 1) (by simp) ?_; intro gg5 cap5 w5 hown5 hgrow hat hlt5; obtain ⟨w6, upd6, hM6, hturn⟩ := (hC2.map.kept hgrow (owns_not_map hC2.map (hC2.row e.v)).symm).store Tryz.underlying3 Tryz.underlying180 (by unfold maxLen; omega) hv (.slice (some ⟨gg5, 0, none⟩) ((A4 e.v).length + 1) cap5)))
        all_goals (
          rename_i hH
          clear hH
          have hA6 := hC2.push hown5 hgrow (hat.elim (fun h => .inl h.symm) (fun h => .inr (by simp [Value.ownBlock, h]))) hM6 hturn.grown
          have hsz6 : w4.heap.size + 1 ≤ w6.heap.size := (by have := hgrow.size; have := hturn.grown.size; simp at *; omega)
          have hsame6 : ∀ j, j < w2.heap.size → j ≠ w.heap.size + 1 → w6.heap[j]? = w4.heap[j]? := (fun j hj hne => by
            rw [hturn.grown.block j (by have := hgrow.size; simp at this; omega) (by simpa using hne), hgrow.block j (by simp; omega) (fun h => by have := ((hC2.row e.v).lt _ h.symm).1; omega)]
            show (w4.alloc _).heap[j]? = _
            rw [(World.grownBy_alloc _ _ none).block j (by omega) (by simp)])
          have hbel6 : Below w.heap.size w4 w6 := ⟨hturn.grown.os.trans hgrow.os, hturn.grown.tape.trans hgrow.tape, hturn.grown.output.trans hgrow.output, (by omega), (fun j hj => by
            rw [hturn.grown.block j (by have := hgrow.size; simp at this; omega) (by simp; omega), hgrow.block j (by simp; omega) (fun h => by have := ((hC2.row e.v).lt _ h.symm).1; omega)]
            show (w4.alloc _).heap[j]? = _
            rw [(World.grownBy_alloc _ _ none).block j (by omega) (by simp)])⟩
          have G1 : Aside (Below w.heap.size w4 w6 ∧ (∀ j, j < w2.heap.size → j ≠ w.heap.size + 1 → w6.heap[j]? = w4.heap[j]?) ∧ w4.heap.size + 1 ≤ w6.heap.size ∧ Arnd w6 w2.heap.size (w.heap.size + 1) (nn + 1 + 1) _ _) := ⟨hbel6, hsame6, hsz6, hA6⟩
          clear hbel6 hsame6 hA6 hC2 hM6 hturn upd6 hlt5 hat hgrow hown5 look3 look4 hA4
          go_wp2_with fail
          obtain ⟨d1, d2, d3, d5, d6, d7, d8⟩ := D.out
          obtain ⟨f1, f2, f3, f4⟩ := F1.out
          obtain ⟨x1, x2, x3, x4⟩ := G1.out
          go_roundg (gk - 1)
          case rel =>
            refine ⟨k + 1, nn + 1 + 1, upd vs4 e.v (.slice (some ⟨gg5, 0, none⟩) ((A4 e.v).length + 1) cap5), by omega, by go_num, d1.trans (f1.trans x1), by omega, by omega, fun j hj hne => (x2 j hj hne).trans ((f2 j hj hne).trans (d5 j hj hne)), ?_⟩
            rw [d6, show arnd (F.take k ++ [e]) = (fun x => if x = e.v then A4 e.v ++ [e] else A4 x) from arnd_push _ _ _ (by rw [← f4, ← d7])]
            exact x4
          case measure => omega)
        )
    · have hkk : k = F.length := by omega
      subst hkk
      rw [List.take_length] at hA
      obtain ⟨c1, c2, c3, c4, c5⟩ := C.out
      obtain ⟨a1, a2, a3, a4, a5, a6⟩ := A.out
      have hrow : ∀ u, RdE wr ((vs u).getD (.slice none 0 0)) (arnd F u) := fun u => rdE_of_owns (hA.row u) (fun e he => by have := forestOf_sub E e (c3.symm ▸ (mem_arnd.1 he).1); exact a2 e this) (by have := arnd_le F u; omega)
      have hVr : Rises V := a3.2.2.1
      have hroot : okId root := hVr.1 _ a4
      have hw := hroot.wf
      obtain ⟨wo, rfl⟩ : ∃ wo : World, wo = wr := ⟨_, rfl⟩
      have hMs := MapAt.made Tryz.prog 3 wo
      obtain ⟨w4, upd4, hM4, hturn⟩ := hMs.store Tryz.underlying3 Tryz.underlying138 (by unfold maxLen; omega) hw (.agg #[.int .i64 0, .int .i64 0, .int .i64 0, .int .i64 0, .int .i64 0])
      have hMap : MapAt Tryz.prog 3 wo (w.heap.size + 1) nn vs := hA.map
      have hwo : w.heap.size + 1 < wo.heap.size := by omega
      have G : Aside (Below w.heap.size w wo ∧ (∀ u, RdE wo ((vs u).getD (.slice none 0 0)) (arnd F u)) ∧ MapAt Tryz.prog 3 wo (w.heap.size + 1) nn vs ∧ okId root ∧ w.heap.size + 2 ≤ wo.heap.size ∧ (∀ e ∈ F, okE V e) ∧ Right V E ∧ root ∈ V ∧
          MapAt Tryz.prog 3 w4 wo.heap.size 1 (upd (fun _ => none) root (.agg #[.int .i64 0, .int .i64 0, .int .i64 0, .int .i64 0, .int .i64 0])) ∧ (wo.alloc (.map #[] 0)).mapTurned w4 wo.heap.size ∧ forestOf E = F) :=
        ⟨hbel, hrow, hMap, hroot, by omega, c4, a3, a4, hM4, hturn, c3⟩
      clear hbel hsame hA hMap hVr hroot c1 c2 c3 c4 c5 a1 a2 a3 a4 a5 a6 hM4 hturn hMs hrow
      go_wp2_with fail
      go_loopg [11, 10] 2049 (fun g i o wr => ReachRel wo V F root g i o wr)
      case atStart =>
        obtain ⟨g1, g2, g3, g4, g5, g6, g7, g8, g9, g10, g11⟩ := G.out
        have hs4 := g10.grown.size
        simp only [World.size_alloc] at hs4
        have hb4 : Below wo.heap.size wo w4 := ((Below.refl _ _).alloc (Nat.le_refl _) _).grown g10.grown (by simp) (fun j hj => by cases hj; exact Nat.le_refl _)
        refine ⟨0, 1, [root], _, _, by omega, rfl, by simp, by simp, hb4.alloc (by omega) _, by simp; omega, ?_, ?_, Bfs.start F root, by simpa using g8, by simp, by simp⟩
        · rw [← encS_upd, encS_none]
          exact g9.alloc _
        · simpa using World.ownsRow_lit (base := wo.heap.size) (e := 3) (size := 1) w4 #[.int .i64 root] 1 (by omega) (by unfold maxLen; omega) rfl
      case round =>
        obtain ⟨k, mn, ord, M, D, hk, rfl, hko, hmn, hbo, hso, hM, hO, hBf, hVo, hol, hcl⟩ := hrel
        by_cases hlt : k < ord.length
        · obtain ⟨g1, g2, g3, g4, g5, g6, g7, g8, g9, g10, g11⟩ := G.out
          have hRI := rdI_own hO (fun x hx => (g7.2.2.1.1 x (hVo x hx)).wf) (by omega)
          obtain ⟨oa, ocap, hoa, _⟩ := owns_form hO
          subst hoa
          obtain ⟨_, hwx, b, off, hfa, hb, c0⟩ := hRI.get hlt
          subst hfa
          obtain ⟨u, hu⟩ : ∃ u, ord[k] = u := ⟨_, rfl⟩
          have huo : u ∈ ord := hu ▸ List.getElem_mem hlt
          rw [hu] at c0 hwx
          have hu12 := rises_ok g7.2.2.1 (hVo u huo)
          obtain ⟨⟨eu, su⟩, hMu⟩ := Option.ne_none_iff_exists'.1 ((hBf.dom u).2 huo)
          obtain ⟨ra, rcap, hrv, _⟩ := g2 u
          have look := (g3.below hbo hwo).look Tryz.underlying3 Tryz.underlying180 (zero23 _) hwx
          rw [hrv] at look
          have hRr := g2 u
          rw [hrv] at hRr
          have hrl : (arnd F u).length ≤ 4096 := by have := arnd_le F u; omega
          have H : Aside (Below wo.heap.size wo wr ∧ MapAt Tryz.prog 3 wr wo.heap.size mn (encS M) ∧ wr.ownsRow wo.heap.size 3 1 (.slice (some ⟨b, off, none⟩) ord.length ocap) ord.length (ord.map (Value.int .i64)) ∧ Bfs F root ord M D ∧ (∀ x ∈ ord, x ∈ V) ∧
              (∀ x ∈ ord.take k, ∀ e ∈ arnd F x, e.u + e.v - x ∈ ord) ∧ ord[k]? = some u ∧ M u = some (eu, su) ∧ RdE wo (.slice ra (arnd F u).length rcap) (arnd F u) ∧ mn ≤ ord.length) :=
            ⟨hbo, hM, hO, hBf, hVo, hcl, by rw [List.getElem?_eq_getElem hlt, hu], hMu, hRr, hmn⟩
          clear hbo hM hO hBf hVo hcl hu hMu hRr g1 g2 g3 g4 g5 g6 g7 g8 g9 g10 g11 hRI hrv
          obtain ⟨wp, rfl⟩ : ∃ wp : World, wp = wr := ⟨_, rfl⟩
          go_wp2_with fail
          go_loopg [67, 10] (arnd F u).length (fun g i o wr => ReachIn wo V F root k ord u g i o wr)
          case atStart =>
            obtain ⟨h1, h2, h3, h4, h5, h6, h7, h8, h9, h10⟩ := H.out
            exact ⟨0, mn, ord, M, D, by omega, rfl, ⟨[], by simp⟩, h10, h1, hso, h2, h3, h4, h5, hol, h6, by simp⟩
          case round =>
            obtain ⟨k2, mn2, ord2, M2, D2, hk2, rfl, htl, hmn2, hbo, hso2, hM, hO, hBf, hVo, hol2, hcl, hin⟩ := hrel
            by_cases hlt2 : k2 < (arnd F u).length
            · obtain ⟨h1, h2, h3, h4, h5, h6, h7, h8, h9, h10⟩ := H.out
              obtain ⟨g1, g2, g3, g4, g5, g6, g7, g8, g9, g10, g11⟩ := G.out
              obtain ⟨_, hew, b2, off2, hra, hb2, c0, c1, c2, c3⟩ := (h9.below hbo).get hlt2
              subst hra
              obtain ⟨e, he⟩ : ∃ e, (arnd F u)[k2] = e := ⟨_, rfl⟩
              have hem : e ∈ arnd F u := he ▸ List.getElem_mem hlt2
              rw [he] at c0 c1 c2 c3 hew
              obtain ⟨heF, hend⟩ := mem_arnd.1 hem
              obtain ⟨hw0, hw1, hu', hv'⟩ := g6 e heF
              have hu12' := rises_ok g7.2.2.1 hu'
              have hv12' := rises_ok g7.2.2.1 hv'
              obtain ⟨v, hv⟩ : ∃ v, e.u + e.v - u = v := ⟨_, rfl⟩
              have hvV : v ∈ V := by
                rcases hend with h | h
                · have : v = e.v := by omega
                  rw [this]; exact hv'
                · have : v = e.u := by omega
                  rw [this]; exact hu'
              have hv12 := rises_ok g7.2.2.1 hvV
              have hwv : wf64 v := by unfold wf64; omega
              obtain ⟨tl, rfl⟩ := htl
              have huo2 : u ∈ ord ++ tl := List.mem_append_left _ huo
              obtain ⟨⟨eu2, su2⟩, hMu2⟩ := Option.ne_none_iff_exists'.1 ((hBf.dom u).2 huo2)
              have hsum := hBf.sum g6 _ u eu2 su2 (Nat.le_refl _) hMu2
              have hdp := hBf.deep u huo2
              have hs1 : 0 ≤ su2 := hsum.1
              have hs2 : su2 ≤ 2251799813685248 := by omega
              have hM1 := hM.alloc (.cells #[.int .i64 e.id, .int .i64 e.u, .int .i64 e.v, .int .i64 e.w] 47)
              have look := hM1.look_ok Tryz.underlying3 Tryz.underlying138 (Tryz.zeroValue142 _) hwv
              have hsnoc : (arnd F u).take (k2 + 1) = (arnd F u).take k2 ++ [e] := by rw [List.take_succ_eq_append_getElem hlt2, he]
              have hsz4 : wo.heap.size ≤ wr.heap.size := by omega
              cases hMv : M2 v with
              | some x =>
                obtain ⟨ex, sx⟩ := x
                simp only [encS, hMv, Option.map_some, Option.getD_some, Option.isSome_some, stepV] at look
                have hvo : v ∈ ord ++ tl := (hBf.dom v).1 (by rw [hMv]; simp)
                have K2 : Aside (Below wo.heap.size wo wr ∧ MapAt Tryz.prog 3 wr wo.heap.size mn2 (encS M2) ∧ wr.ownsRow wo.heap.size 3 1 u10 (ord ++ tl).length ((ord ++ tl).map (Value.int .i64)) ∧ Bfs F root (ord ++ tl) M2 D2 ∧ (∀ x ∈ ord ++ tl, x ∈ V) ∧
                    (∀ x ∈ (ord ++ tl).take k, ∀ e ∈ arnd F x, e.u + e.v - x ∈ ord ++ tl) ∧ (∀ e ∈ (arnd F u).take k2, e.u + e.v - u ∈ ord ++ tl) ∧ e.u + e.v - u ∈ ord ++ tl ∧ (arnd F u).take (k2 + 1) = (arnd F u).take k2 ++ [e] ∧ (ord ++ tl).length ≤ 2048 ∧ mn2 ≤ (ord ++ tl).length) :=
                  ⟨hbo, hM, hO, hBf, hVo, hcl, hin, hv.symm ▸ hvo, hsnoc, hol2, hmn2⟩
                clear hbo hM hO hBf hVo hcl hin hsnoc hol2 hmn2 h1 h2 h3 h4 h5 h6 h7 h8 h9 h10 g1 g2 g3 g4 g5 g6 g7 g8 g9 g10 g11 hM1 hem he hew hend heF hsum hdp hMu2 huo2 hMv hvV hu' hv' hvo
                have hv1 : e.u + e.v - u = v := hv
                clear hv
                go_wp2_with fail
                obtain ⟨x1, x2, x3, x4, x5, x6, x7, x8, x9, x10, x11⟩ := K2.out
                go_roundg (gk - 1)
                case rel =>
                  refine ⟨k2 + 1, mn2, ord ++ tl, M2, D2, by omega, by go_num, ⟨tl, rfl⟩, x11, (x1.alloc (by omega) _).alloc (by simp; omega) _, by simp; omega, (x2.alloc _).alloc _, (x3.alloc _).alloc _, x4, x5, x10, x6, ?_⟩
                  intro y hy
                  rw [x9, List.mem_append, List.mem_singleton] at hy
                  rcases hy with hy | rfl
                  · exact x7 y hy
                  · exact x8
                case measure => omega
              | none =>
                have hM2' := hM1.alloc (.cells #[.int .i64 0, .int .i64 0, .int .i64 0, .int .i64 0, .int .i64 0] 142)
                have look2 := hM2'.look Tryz.underlying3 Tryz.underlying138 (Tryz.zeroValue142 _) hwx
                simp only [encS, hMv, Option.map_none, Option.getD_none, Option.isSome_none] at look
                simp only [encS, hMu2, Option.map_some, Option.getD_some, stepV] at look2
                have hBf2 := hBf.step heF hend hv.symm hMu2 hMv
                have hol3 : (ord ++ tl ++ [v]).length ≤ 2048 := by
                  refine Nat.le_trans (nodup_le hBf2.nodup (m := V) fun x hx => ?_) g7.1
                  rw [List.mem_append, List.mem_singleton] at hx
                  rcases hx with hx | rfl
                  · exact hVo x hx
                  · exact hvV
                have hol4 : (ord ++ tl).length ≤ 2047 := by simp only [List.length_append, List.length_cons, List.length_nil] at hol3 ⊢; omega
                obtain ⟨w5, upd5, hM5, hturn5⟩ := hM2'.store Tryz.underlying3 Tryz.underlying138 (by unfold maxLen; omega) hwv (.agg #[.int .i64 e.id, .int .i64 e.u, .int .i64 e.v, .int .i64 e.w, .int .i64 (su2 + e.w)])
                have hM6 : MapAt Tryz.prog 3 w5 wo.heap.size (mn2 + 1) (encS (updS M2 v (e, su2 + e.w))) := by rw [← encS_upd]; exact hM5
                have hg5 := hturn5.grown
                have hz5 : wr.heap.size + 2 ≤ w5.heap.size := by have := hg5.size; simpa using this
                have hO5 : w5.ownsRow wo.heap.size 3 1 u10 (ord ++ tl).length ((ord ++ tl).map (Value.int .i64)) := ((hO.alloc _).alloc _).kept hg5 (by
                  have := owns_not_map hM hO
                  cases hb : u10.ownBlock with | none => exact .inl rfl | some b => right; rw [hb] at this; exact this)
                have hb5 : Below wo.heap.size wo w5 := ((hbo.alloc (by omega) _).alloc (by simp; omega) _).grown hg5 (by simp; omega) (fun j hj => by cases hj; exact Nat.le_refl _)
                have q5 : w5.cell? ⟨wr.heap.size, 0, none⟩ = some (.int .i64 e.id) ∧ w5.cell? ⟨wr.heap.size, 1, none⟩ = some (.int .i64 e.u) := by
                  refine ⟨?_, ?_⟩ <;> exact hg5.cell (by rw [World.cell?_alloc_past _ _ _ (by simp), World.cell?_alloc_at _ _ _ _ rfl]; rfl) (by simp; omega)
                obtain ⟨i0, hi, hz0, hz1, hz2⟩ := info_parts info3
                obtain ⟨a10, cap10, hu10, _⟩ := owns_form hO5
                subst hu10
                have K2 : Aside (Below wo.heap.size wo w5 ∧ MapAt Tryz.prog 3 w5 wo.heap.size (mn2 + 1) (encS (updS M2 v (e, su2 + e.w))) ∧ w5.ownsRow wo.heap.size 3 1 (.slice a10 (ord ++ tl).length cap10) (ord ++ tl).length ((ord ++ tl).map (Value.int .i64)) ∧ Bfs F root (ord ++ tl ++ [v]) (updS M2 v (e, su2 + e.w)) (updD D2 v (D2 u + 1)) ∧ (∀ x ∈ ord ++ tl, x ∈ V) ∧
                    (∀ x ∈ (ord ++ tl).take k, ∀ e ∈ arnd F x, e.u + e.v - x ∈ ord ++ tl) ∧ (∀ e ∈ (arnd F u).take k2, e.u + e.v - u ∈ ord ++ tl) ∧ e.u + e.v - u = v ∧ (arnd F u).take (k2 + 1) = (arnd F u).take k2 ++ [e] ∧ (ord ++ tl ++ [v]).length ≤ 2048 ∧ mn2 ≤ (ord ++ tl).length ∧ v ∈ V ∧ k < ord.length) :=
                  ⟨hb5, hM6, hO5, hBf2, hVo, hcl, hin, hv, hsnoc, hol3, hmn2, hvV, hlt⟩
                clear hbo hM hO hBf hVo hcl hin hsnoc hol2 hmn2 h1 h2 h3 h4 h5 h6 h7 h8 h9 h10 g1 g2 g3 g4 g5 g6 g7 g8 g9 g10 g11 hM1 hem he hew hend heF hsum hdp hMu2 huo2 hMv hvV hu' hv' hBf2 hol3 hM2' hM5 hturn5 hM6 hg5 hO5 hb5
                have hv1 : e.u + e.v - u = v := hv
                clear hv
                have hfl := field142_1
                have hK3 := K2.out.2.2.1.alloc (.cells #[.int .i64 v] 3)
                have hz6 : wo.heap.size ≤ w5.heap.size := by omega
                go_wp2_with (first
                  | (at_builtin; refine wpList_append_own_at _ rfl (.tmp 97) (.tmp 99) 22 rfl wo.heap.size 3 i0 (.int .i64 0) 1 8 Tryz.underlying22 hi hz0 hz1 hz2 rfl (by decide) _ _ _ rfl hK3 ⟨w5.heap.size, 0, none⟩ 1 1 [.int .i64 v] rfl rfl (cell_one_new _ _ _) (ints_oneCell .i64 [v]) (by unfold maxLen; omega) (by omega) (by simp; omega) ?_; intro v' w6 hown' hgrow hnil hloc; obtain ⟨g', cap', rfl⟩ := owns_succ hown')
                  | fail)
                obtain ⟨x1, x2, x3, x4, x5, x6, x7, x8, x9, x10, x11, x12, x13⟩ := K2.out
                have hrow : ∀ b', (Value.slice a10 (ord ++ tl).length cap10).ownBlock = some b' → wo.heap.size ≤ b' := fun b' hb' => (x3.lt b' hb').1
                have hs6 := hgrow.size
                simp only [World.size_alloc] at hs6
                go_roundg (gk - 1)
                case rel =>
                  refine ⟨k2 + 1, mn2 + 1, ord ++ tl ++ [v], _, _, by omega, by go_num, ⟨tl ++ [v], by simp⟩, by simp only [List.length_append, List.length_cons, List.length_nil] at x11 ⊢; omega, (x1.alloc (by omega) _).grown hgrow (by simp; omega) hrow, by omega,
                    (x2.alloc _).kept hgrow (owns_not_map (x2.alloc (.cells #[.int .i64 v] 3)) hK3).symm, ?_, x4, ?_, x10, ?_, ?_⟩
                  · have : (ord ++ tl ++ [v]).length = (ord ++ tl).length + 1 := by rw [List.length_append]; rfl
                    rw [this]
                    simpa using hown'
                  · intro x hx
                    rw [List.mem_append, List.mem_singleton] at hx
                    rcases hx with hx | rfl
                    · exact x5 x hx
                    · exact x12
                  · intro x hx y hy
                    have hkl : k ≤ (ord ++ tl).length := by rw [List.length_append]; omega
                    rw [List.take_append_of_le_length hkl] at hx
                    exact List.mem_append_left _ (x6 x hx y hy)
                  · intro y hy
                    rw [x9, List.mem_append, List.mem_singleton] at hy
                    rcases hy with hy | rfl
                    · exact List.mem_append_left _ (x7 y hy)
                    · rw [x8]; simp
                case measure => omega
            · obtain ⟨tl, rfl⟩ := htl
              have hkk2 : k2 = (arnd F u).length := by omega
              subst hkk2
              rw [List.take_length] at hin
              have hku : (ord ++ tl).take (k + 1) = (ord ++ tl).take k ++ [u] := by
                have h7 := H.out.2.2.2.2.2.2.1
                obtain ⟨h8, h9⟩ := List.getElem?_eq_some_iff.1 h7
                rw [List.take_succ_eq_append_getElem (by simp; omega), List.getElem_append_left h8, h9]
              have K2 : Aside (Below wo.heap.size wo wr ∧ MapAt Tryz.prog 3 wr wo.heap.size mn2 (encS M2) ∧ wr.ownsRow wo.heap.size 3 1 u10 (ord ++ tl).length ((ord ++ tl).map (Value.int .i64)) ∧ Bfs F root (ord ++ tl) M2 D2 ∧ (∀ x ∈ ord ++ tl, x ∈ V) ∧
                    (∀ x ∈ (ord ++ tl).take (k + 1), ∀ e ∈ arnd F x, e.u + e.v - x ∈ ord ++ tl) ∧ (ord ++ tl).length ≤ 2048 ∧ mn2 ≤ (ord ++ tl).length ∧ k + 1 ≤ (ord ++ tl).length) :=
                ⟨hbo, hM, hO, hBf, hVo, fun x hx y hy => by
                  rw [hku, List.mem_append, List.mem_singleton] at hx
                  rcases hx with hx | rfl
                  · exact hcl x hx y hy
                  · exact hin y hy, hol2, hmn2, by simp; omega⟩
              clear hbo hM hO hBf hVo hcl hin hku
              go_wp2_with fail
              obtain ⟨x1, x2, x3, x4, x5, x6, x7, x8, x9⟩ := K2.out
              go_roundg (2049 - (k + 1))
              case rel => exact ⟨k + 1, mn2, ord ++ tl, M2, D2, by omega, by go_num, x9, x8, x1, hso2, x2, x3, x4, x5, x7, x6⟩
              case measure => omega
        · have hkk : k = ord.length := by omega
          subst hkk
          rw [List.take_length] at hcl
          obtain ⟨oa, ocap, hoa, _⟩ := owns_form hO
          subst hoa
          obtain ⟨g1, g2, g3, g4, g5, g6, g7, g8, g9, g10, g11⟩ := G.out
          have hRI := rdI_own hO (fun x hx => (g7.2.2.1.1 x (hVo x hx)).wf) (by omega)
          have K2 : Aside (ReachPost w V (forestOf E) root (.returned (.tuple #[.map (some wo.heap.size), .slice oa ord.length ocap])) wr) :=
            ⟨wo.heap.size, mn, _, ord, M, D, rfl, g1.size, hM, hRI, g11 ▸ hBf, g11 ▸ hcl, hVo, hol, g1.trans (hbo.mono g1.size)⟩
          clear hbo hM hO hBf hVo hcl hRI g1 g2 g3 g4 g5 g6 g7 g8 g9 g10 g11
          go_wp2_with fail
          go_ret2
          exact K2.out

end Go.Proofs.YthidhdffiebbgaaGreatDoor
