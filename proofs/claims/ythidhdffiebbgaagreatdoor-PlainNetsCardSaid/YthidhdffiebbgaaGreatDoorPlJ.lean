/- The walk of forest: the edges in order, each kept that joins two parts. -/
import Derived.Test.YthidhdffiebbgaaGreatDoorPlI
import Derived.Test.YthidhdffiebbgaaGreatDoorPlE
namespace Go.Proofs.YthidhdffiebbgaaGreatDoor
open Go.RowKit Go.Proofs.YthidhdffiebbgaaGreatDoor.Sk

/-- one step of Kruskal's way: what was gone through, what was kept -/
noncomputable def keepStep (p : List Edg × List Edg) (e : Edg) : List Edg × List Edg := (p.1 ++ [e], if connB p.1 e.u e.v then p.2 else p.2 ++ [e])
noncomputable def kept (S : List Edg) : List Edg := (S.foldl keepStep ([], [])).2
theorem keep_fst (S : List Edg) : ∀ p : List Edg × List Edg, (S.foldl keepStep p).1 = p.1 ++ S := by
  induction S with
  | nil => intro p; simp
  | cons e S ih => intro p; rw [List.foldl_cons, ih]; simp [keepStep]
theorem kept_nil : kept [] = [] := rfl
theorem kept_snoc (S : List Edg) (e : Edg) : kept (S ++ [e]) = if connB S e.u e.v then kept S else kept S ++ [e] := by
  unfold kept
  rw [List.foldl_append, List.foldl_cons, List.foldl_nil]
  have h := keep_fst S ([], [])
  generalize S.foldl keepStep ([], []) = p at h ⊢
  obtain ⟨p1, p2⟩ := p
  simp only [List.nil_append] at h
  subst h
  rfl
theorem snocE_ind {p : List Edg → Prop} (h0 : p []) (h1 : ∀ l x, p l → p (l ++ [x])) : ∀ l, p l := by
  intro l
  rw [← List.reverse_reverse l]
  induction l.reverse with
  | nil => exact h0
  | cons a l ih => rw [List.reverse_cons]; exact h1 _ _ ih
theorem kept_sub (S : List Edg) : (kept S).Sublist S := by
  revert S
  refine snocE_ind (p := fun S => (kept S).Sublist S) (by simp [kept_nil]) ?_
  intro l x ih
  rw [kept_snoc]
  split
  · exact ih.trans (List.sublist_append_left _ _)
  · exact ih.append (List.Sublist.refl _)
theorem kept_le (S : List Edg) : (kept S).length ≤ S.length := (kept_sub S).length_le

theorem rdE_but {w1 wr : World} {mb n : Nat} {m : Int → Option Value} {v : Value} {S : List Edg} (h : RdE w1 v S) (hm : MapAt Tryz.prog 3 w1 mb n m) (hs : w1.heap.size ≤ wr.heap.size)
    (hb : ∀ j, j < w1.heap.size → j ≠ mb → wr.heap[j]? = w1.heap[j]?) : RdE wr v S := by
  obtain ⟨a, cap, h1, h2, h3, h4⟩ := h
  refine ⟨a, cap, h1, h2, h3, fun h0 => ?_⟩
  obtain ⟨b, off, e, hlt, hc⟩ := h4 h0
  have hne : b ≠ mb := by
    rintro rfl
    have h5 := (hc 0 h0).1
    obtain ⟨D, ⟨es, c, hes, _⟩, _⟩ := hm
    simp [World.cell?, hes] at h5
  have hcell : ∀ o, wr.cell? ⟨b, o, none⟩ = w1.cell? ⟨b, o, none⟩ := fun o => by simp only [World.cell?, hb b hlt hne]
  exact ⟨b, off, e, Nat.lt_of_lt_of_le hlt hs, fun j hj => by simp only [hcell]; exact hc j hj⟩

theorem owns_mono {w : World} {base base' : Nat} {e : TypeId} {size n : Nat} {v : Value} {xs : List Value} (h : w.ownsRow base e size v n xs) (hb : base' ≤ base) : w.ownsRow base' e size v n xs := by
  obtain ⟨h1, h2⟩ := h
  refine ⟨h1, ?_⟩
  rcases h2 with h2 | ⟨g, cap, cur, h3, h4, h5⟩
  · exact .inl h2
  · exact .inr ⟨g, cap, cur, h3, Nat.le_trans hb h4, h5⟩

/-- what forest leaves -/
def ForestPost (w : World) (E : List Edg) (e : Ending) (W' : World) : Prop :=
  ∃ v S, e = .returned v ∧ S.Perm E ∧ InOrder S ∧ W'.ownsRow w.heap.size 47 4 v (kept S).length ((kept S).flatMap encE) ∧ (v = .slice none 0 0 ↔ kept S = []) ∧ Below w.heap.size w W'

set_option maxRecDepth 100000 in
set_option maxHeartbeats 1000000 in
theorem forest_any (n : Value) (V : List Int) (E : List Edg) (w : World) (hn : NetAt w n V E) (hR : Right V E) :
    Calls Tryz.prog 46 #[n] w (ForestPost w E) := by
  obtain ⟨vs, es, rfl, hV, hE⟩ := hn.ex
  obtain ⟨ea, ecap, rfl, hwf, hlen, _⟩ := id hE
  have hmm := @run_makeMap Tryz.prog
  have A : Aside (RdE w (.slice ea E.length ecap) E ∧ (∀ e ∈ E, e.wf) ∧ E.length ≤ 2048) := ⟨hE, hwf, hR.2.1⟩
  have hz : w.heap.size < ((w.alloc (.cells #[vs, .slice ea E.length ecap] 25)).alloc (.map #[] 0)).heap.size := by simp; omega
  have hb0 : Below w.heap.size w ((w.alloc (.cells #[vs, .slice ea E.length ecap] 25)).alloc (.map #[] 0)) := ((Below.refl _ _).alloc (Nat.le_refl _) _).alloc (by simp) _
  clear hn hV hE hwf hlen hR
  go_enter Tryz.func46, Tryz.ntmps46
  go_wp2_with fail
  refine (values_any _ _ _ _).mono ?_
  rintro _ _ ⟨rfl, rfl⟩
  go_wp2_with fail
  refine (sortedFunc_any (w.heap.size + 1 + 1) (.slice ea E.length ecap) E _ w A.out.1 (hb0.alloc (by omega) _) (by simp) (by rw [World.cell?_alloc_at _ _ _ _ (by simp)]; rfl)).mono ?_
  rintro _ w1 ⟨sv, S, rfl, hS, hp, ho, hb1⟩
  have hw1 : Below w.heap.size w w1 := (hb0.alloc (by omega) _).trans (hb1.mono (by simp; omega))
  have hM1 : MapAt Tryz.prog 3 w1 (w.heap.size + 1) 0 (encM fun _ => none) := by
    rw [encM_none]
    have h0 := MapAt.made Tryz.prog 3 (w.alloc (.cells #[vs, .slice ea E.length ecap] 25))
    rw [World.size_alloc] at h0
    exact (h0.alloc (.cells #[.slice ea E.length ecap] 23)).below hb1 (by simp)
  have hlen : S.length = E.length := hp.length_eq
  have hsz1 : w.heap.size + 2 ≤ w1.heap.size := by have := hb1.size; simp at this; omega
  obtain ⟨sa, scap, rfl, hSwf, hS32, _⟩ := id hS
  have B : Aside (RdE w1 (.slice sa S.length scap) S ∧ S.Perm E ∧ InOrder S ∧ Below w.heap.size w w1 ∧ MapAt Tryz.prog 3 w1 (w.heap.size + 1) 0 (encM fun _ => none) ∧ w.heap.size + 2 ≤ w1.heap.size ∧ S.length = E.length) := ⟨hS, hp, ho, hw1, hM1, hsz1, hlen⟩
  clear hS hp ho hw1 hM1 hsz1 hlen hb0 hb1 hSwf hz
  go_wp2_with fail
  go_loopg [13, 4] S.length (fun g i o wr => ∃ (k nn : Nat) (M : Int → Option Int), k + g = S.length ∧ i = .int .i64 k ∧ Below w.heap.size w wr ∧ nn ≤ k * 5000 ∧ w1.heap.size ≤ wr.heap.size ∧
      (∀ j, j < w1.heap.size → j ≠ w.heap.size + 1 → wr.heap[j]? = w1.heap[j]?) ∧ MapAt Tryz.prog 3 wr (w.heap.size + 1) nn (encM M) ∧ Dsu M (S.take k) k ∧ wr.ownsRow w1.heap.size 47 4 o (kept (S.take k)).length ((kept (S.take k)).flatMap encE) ∧ (o = .slice none 0 0 ↔ kept (S.take k) = []))
  case atStart =>
    obtain ⟨b1, b2, b3, b4, b5, b6, b7⟩ := B.out
    exact ⟨0, 0, fun _ => none, by omega, rfl, b4, by omega, Nat.le_refl _, fun _ _ _ => rfl, b5, by simpa using Dsu.empty, by simpa [kept_nil] using World.ownsRow_nil _ _ _ _, by simp [kept_nil]⟩
  case round =>
    obtain ⟨k, nn, M, hk, rfl, hbel, hnn, hsz, hsame, hM, hD, hO, hnil⟩ := hrel
    have hE8 : S.length ≤ 2048 := by rw [B.out.2.2.2.2.2.2]; exact A.out.2.2
    by_cases hlt : k < S.length
    · have hSr := rdE_but B.out.1 B.out.2.2.2.2.1 hsz hsame
      obtain ⟨_, hew, b, off, rfl, hb, g0, g1, g2, g3⟩ := hSr.get hlt
      obtain ⟨e, hx⟩ : ∃ e, S[k] = e := ⟨_, rfl⟩
      rw [hx] at g0 g1 g2 g3 hew
      have hz2 : w.heap.size + 2 ≤ wr.heap.size := by have := B.out.2.2.2.2.2.1; omega
      have hsnoc : S.take (k + 1) = S.take k ++ [e] := by rw [List.take_succ_eq_append_getElem hlt, hx]
      have hkl : (kept (S.take k)).length ≤ k := by have := kept_le (S.take k); simp at this; omega
      have D : Aside (Below w.heap.size w wr ∧ k + gk = S.length ∧ nn ≤ k * 5000 ∧ MapAt Tryz.prog 3 wr (w.heap.size + 1) nn (encM M) ∧ Dsu M (S.take k) k ∧ e.wf ∧ S.take (k + 1) = S.take k ++ [e] ∧ w1.heap.size ≤ wr.heap.size ∧ S.length ≤ 2048 ∧
          (∀ j, j < w1.heap.size → j ≠ w.heap.size + 1 → wr.heap[j]? = w1.heap[j]?) ∧ wr.ownsRow w1.heap.size 47 4 u4 (kept (S.take k)).length ((kept (S.take k)).flatMap encE) ∧ (u4 = .slice none 0 0 ↔ kept (S.take k) = []) ∧ (kept (S.take k)).length ≤ k) :=
        ⟨hbel, hk, hnn, hM, hD, hew, hsnoc, hsz, hE8, hsame, hO, hnil, hkl⟩
      have hgk : gk - 1 < gk := by omega
      clear hbel hk hnn hM hD hew hx hsz hE8 hsame hO hnil hsnoc hSr hkl
      go_wp2_with fail
      obtain ⟨d1, d2, d3, d4, d5, d6, d7, d8, d9, d10, d11, d12, d13⟩ := D.out
      refine (join_dsu (w.heap.size + 1) nn k M (S.take k) e _ (d4.alloc _) d5 d6.2.1 d6.2.2.1 (by unfold maxLen; omega)).mono ?_
      rintro _ w2 ⟨rfl, M', hM', hD', hg⟩
      have hg2 : wr.heap.size + 1 ≤ w2.heap.size := by have := hg.size; simpa using this
      have hsame2 : ∀ j, j < w1.heap.size → j ≠ w.heap.size + 1 → w2.heap[j]? = w1.heap[j]? := fun j hj hne => by
        rw [hg.block j (by simp; omega) (by simp; omega), (World.grownBy_alloc wr _ none).block j (by omega) (by simp)]
        exact d10 j hj hne
      have hO2 : w2.ownsRow w1.heap.size 47 4 u4 (kept (S.take k)).length ((kept (S.take k)).flatMap encE) := (d11.alloc _).kept hg (Or.inr fun h => by have := (d11.lt _ h).1; have := B.out.2.2.2.2.2.1; omega)
      have hB2 : Below w.heap.size w w2 := (d1.alloc d1.size _).grown hg (by have := d1.size; simp; omega) (fun j hj => by cases hj; omega)
      have c0 : w2.cell? ⟨wr.heap.size, 0, none⟩ = some (.int .i64 e.id) ∧ w2.cell? ⟨wr.heap.size, 1, none⟩ = some (.int .i64 e.u) ∧ w2.cell? ⟨wr.heap.size, 2, none⟩ = some (.int .i64 e.v) ∧ w2.cell? ⟨wr.heap.size, 3, none⟩ = some (.int .i64 e.w) := by
        refine ⟨?_, ?_, ?_, ?_⟩ <;> refine hg.cell (by rw [World.cell?_alloc_at _ _ _ _ rfl]; rfl) (by simp; omega)
      obtain ⟨c0, c1, c2, c3⟩ := c0
      have F : Aside (Below w.heap.size w w2 ∧ MapAt Tryz.prog 3 w2 (w.heap.size + 1) (nn + 2 * k + 1) (encM M') ∧ Dsu M' (S.take k ++ [e]) (k + 1) ∧ wr.heap.size + 1 ≤ w2.heap.size ∧ (∀ j, j < w1.heap.size → j ≠ w.heap.size + 1 → w2.heap[j]? = w1.heap[j]?) ∧
          w2.ownsRow w1.heap.size 47 4 u4 (kept (S.take k)).length ((kept (S.take k)).flatMap encE)) := ⟨hB2, hM', hD', hg2, hsame2, hO2⟩
      clear d1 d2 d3 d4 d5 d6 d7 d8 d9 d10 d11 d12 d13 hM' hD' hg hsame2 hO2 hB2 hg2
      cases hcb : connB (S.take k) e.u e.v with
      | true =>
        go_wp2_with fail
        obtain ⟨d1, d2, d3, d4, d5, d6, d7, d8, d9, d10, d11, d12, d13⟩ := D.out
        obtain ⟨f1, f2, f3, f4, f5, f6⟩ := F.out
        go_roundg (gk - 1)
        case rel => exact ⟨k + 1, _, M', by omega, by go_num, f1, by omega, by omega, f5, f2, by rw [d7]; exact f3, by rw [d7, kept_snoc, if_pos hcb]; exact f6, by rw [d7, kept_snoc, if_pos hcb]; exact d12⟩
        case measure => omega
      | false =>
        obtain ⟨i1, hi1, hy0, hy1, hy2⟩ := info_parts info47
        obtain ⟨a4, cap4, hu4, _⟩ := owns_form F.out.2.2.2.2.2
        subst hu4
        have hkl3 : (kept (S.take k)).length ≤ 2048 := by have := D.out.2.2.2.2.2.2.2.2.1; have := D.out.2.2.2.2.2.2.2.2.2.2.2.2; omega
        have hs12 : w1.heap.size ≤ w2.heap.size := by have := D.out.2.2.2.2.2.2.2.1; have := F.out.2.2.2.1; omega
        go_wp2_with (first
          | (at_builtin; refine wpList_append_own_at _ rfl (.tmp 23) (.tmp 25) 23 rfl w1.heap.size 47 i1 (.agg #[.int .i64 0, .int .i64 0, .int .i64 0, .int .i64 0]) 4 32 Tryz.underlying23 hi1 hy0 hy1 hy2 rfl (by decide) _ _ _ rfl (F.out.2.2.2.2.2.alloc _) ⟨w2.heap.size, 0, none⟩ 1 1 (encE e) rfl rfl (cell_four_new _ _) (encE_one e) (by unfold maxLen; omega) (by omega) (by simp; omega) ?_; intro v' w3 hown' hgrow hnil hloc; obtain ⟨g', cap', rfl⟩ := owns_succ hown')
          | fail)
        obtain ⟨d1, d2, d3, d4, d5, d6, d7, d8, d9, d10, d11, d12, d13⟩ := D.out
        obtain ⟨f1, f2, f3, f4, f5, f6⟩ := F.out
        have hrow : ∀ b', (Value.slice a4 (kept (S.take k)).length cap4).ownBlock = some b' → w1.heap.size ≤ b' := fun b' hb' => (f6.lt b' hb').1
        have hs1 := B.out.2.2.2.2.2.1
        have hs3 := hgrow.size
        simp only [World.size_alloc] at hs3
        go_roundg (gk - 1)
        case rel =>
          refine ⟨k + 1, _, M', by omega, by go_num, (f1.alloc (by omega) _).grown hgrow (by simp; omega) (fun j hj => by have := hrow j hj; omega), by omega, by omega, fun j hj hne => ?_, (f2.alloc _).kept hgrow (fun h => by have := hrow _ h.symm; omega), by rw [d7]; exact f3, ?_, ?_⟩
          · rw [hgrow.block j (by simp; omega) (fun h => by have := hrow _ h.symm; omega), (World.grownBy_alloc w2 _ none).block j (by omega) (by simp)]
            exact f5 j hj hne
          · rw [d7, kept_snoc, if_neg (by simp [hcb]), flat_snoc]
            simpa using hown'
          · rw [d7, kept_snoc, if_neg (by simp [hcb])]
            simp
        case measure => omega
    · have hkk : k = S.length := by omega
      subst hkk
      rw [List.take_length] at hO hnil
      have D : Aside (Below w.heap.size w wr ∧ wr.ownsRow w1.heap.size 47 4 u4 (kept S).length ((kept S).flatMap encE) ∧ (u4 = .slice none 0 0 ↔ kept S = [])) := ⟨hbel, hO, hnil⟩
      clear hbel hk hnn hM hD hsz hE8 hsame hO hnil
      go_wp2_with fail
      go_ret
      obtain ⟨b1, b2, b3, b4, b5, b6, b7⟩ := B.out
      obtain ⟨d1, d2, d3⟩ := D.out
      exact ⟨_, S, rfl, b2, b3, owns_mono d2 (by omega), d3, d1⟩

/-- the order by weight, then by id -/
def leE (x y : Edg) : Bool := decide (x.w < y.w ∨ x.w = y.w ∧ x.id ≤ y.id)
/-- the edges in order -/
def sortE (E : List Edg) : List Edg := E.mergeSort leE
theorem sortE_perm (E : List Edg) : (sortE E).Perm E := List.mergeSort_perm _ _
theorem sortE_order (E : List Edg) : InOrder (sortE E) := by
  have := List.pairwise_mergeSort (le := leE) (fun a b c h1 h2 => by simp [leE] at *; omega) (fun a b => by simp [leE]; omega) E
  refine this.imp fun h => ?_
  simpa [leE] using h

theorem id_inj {E : List Edg} (h : (E.map Edg.id).Pairwise (· < ·)) {a b : Edg} (ha : a ∈ E) (hb : b ∈ E) (hab : a.id = b.id) : a = b := by
  rw [List.pairwise_map, List.pairwise_iff_getElem] at h
  obtain ⟨i, hi, rfl⟩ := List.getElem_of_mem ha
  obtain ⟨j, hj, rfl⟩ := List.getElem_of_mem hb
  rcases Nat.lt_trichotomy i j with q | q | q
  · have := h i j hi hj q; omega
  · subst q; rfl
  · have := h j i hj hi q; omega

theorem order_one {E S : List Edg} (h : (E.map Edg.id).Pairwise (· < ·)) (hp : S.Perm E) (ho : InOrder S) : S = sortE E := by
  refine List.Perm.eq_of_pairwise (fun a b ha hb h1 h2 => ?_) ho (sortE_order E) (hp.trans (sortE_perm E).symm)
  refine id_inj h (hp.mem_iff.1 ha) ((sortE_perm E).mem_iff.1 hb) ?_
  omega

/-- the forest of least edges -/
noncomputable def forestOf (E : List Edg) : List Edg := kept (sortE E)
theorem forestOf_sub (E : List Edg) : ∀ e ∈ forestOf E, e ∈ E := fun _ he => (sortE_perm E).mem_iff.1 ((kept_sub _).mem he)
theorem forestOf_le (E : List Edg) : (forestOf E).length ≤ E.length := by
  have := kept_le (sortE E)
  rwa [(sortE_perm E).length_eq] at this

/-- what forest leaves -/
def ForestPost' (w : World) (E : List Edg) (e : Ending) (W' : World) : Prop :=
  ∃ v, e = .returned v ∧ W'.ownsRow w.heap.size 47 4 v (forestOf E).length ((forestOf E).flatMap encE) ∧ Below w.heap.size w W'

theorem forest_of (n : Value) (V : List Int) (E : List Edg) (w : World) (hn : NetAt w n V E) (hR : Right V E) :
    Calls Tryz.prog 46 #[n] w (ForestPost' w E) := by
  refine (forest_any n V E w hn hR).mono ?_
  rintro e w' ⟨v, S, rfl, hp, ho, h1, _, h2⟩
  obtain rfl := order_one hR.2.2.2.2.2 hp ho
  exact ⟨v, rfl, h1, h2⟩

end Go.Proofs.YthidhdffiebbgaaGreatDoor
