/- Plain law: the lists of joined vertices, one for the first vertex of each. -/
import Derived.Test.YthidhdffiebbgaaGreatDoorDsuB
namespace Go.Proofs.YthidhdffiebbgaaGreatDoor.Sk

/-- the first vertex of each set of joined ones -/
noncomputable def firsts (E : List Edg) (l : List Int) : List Int := l.foldl (fun fs x => if fs.any (fun y => connB E y x) then fs else fs ++ [x]) []
/-- the lists of joined vertices -/
noncomputable def treesOf (E : List Edg) (l : List Int) : List (List Int) := (firsts E l).map fun f => l.filter (connB E f)

theorem firsts_nil (E : List Edg) : firsts E [] = [] := rfl
theorem firsts_snoc (E : List Edg) (l : List Int) (x : Int) : firsts E (l ++ [x]) = if (firsts E l).any (fun y => connB E y x) then firsts E l else firsts E l ++ [x] := by
  simp only [firsts, List.foldl_append, List.foldl_cons, List.foldl_nil]
  rfl

/-- induction from the end -/
theorem snoc_ind {p : List Int → Prop} (h0 : p []) (h1 : ∀ l x, p l → p (l ++ [x])) : ∀ l, p l := by
  intro l
  have : ∀ n (l : List Int), l.length = n → p l := by
    intro n
    induction n with
    | zero => intro l hl; rw [List.length_eq_zero_iff.1 hl]; exact h0
    | succ n ih =>
      intro l hl
      have hne : l ≠ [] := by intro h; rw [h] at hl; simp at hl
      rw [← List.dropLast_concat_getLast hne]
      exact h1 _ _ (ih _ (by simp; omega))
  exact this _ l rfl

theorem firsts_sub (E : List Edg) : ∀ l, ∀ x ∈ firsts E l, x ∈ l := by
  refine snoc_ind (by simp [firsts_nil]) ?_
  intro l x ih y hy
  rw [firsts_snoc] at hy
  split at hy
  · exact List.mem_append_left _ (ih y hy)
  · rcases List.mem_append.1 hy with h | h
    · exact List.mem_append_left _ (ih y h)
    · exact List.mem_append_right _ h

/-- each vertex is joined to a first one -/
theorem firsts_cover (E : List Edg) : ∀ l, ∀ x ∈ l, ∃ f ∈ firsts E l, Conn E f x := by
  refine snoc_ind (by simp) ?_
  intro l x ih y hy
  rw [firsts_snoc]
  rcases List.mem_append.1 hy with h | h
  · obtain ⟨f, hf, c⟩ := ih y h
    refine ⟨f, ?_, c⟩
    split
    · exact hf
    · exact List.mem_append_left _ hf
  · rw [List.mem_singleton] at h
    subst h
    split
    · rename_i ha
      obtain ⟨f, hf, c⟩ := List.any_eq_true.1 ha
      exact ⟨f, hf, connB_iff.1 c⟩
    · exact ⟨y, List.mem_append_right _ (List.mem_singleton.2 rfl), .refl _⟩

/-- no two first ones are joined -/
theorem firsts_apart (E : List Edg) : ∀ l, (firsts E l).Pairwise fun f g => ¬ Conn E f g := by
  refine snoc_ind (by simp [firsts_nil]) ?_
  intro l x ih
  rw [firsts_snoc]
  split
  · exact ih
  · rename_i ha
    rw [List.pairwise_append]
    refine ⟨ih, List.pairwise_singleton _ _, fun f hf y hy => ?_⟩
    rw [List.mem_singleton.1 hy]
    intro c
    exact ha (List.any_eq_true.2 ⟨f, hf, connB_iff.2 c⟩)

theorem firsts_idx (E : List Edg) (l : List Int) {i j : Nat} (hi : i < (firsts E l).length) (hj : j < (firsts E l).length) (h : Conn E (firsts E l)[i] (firsts E l)[j]) : i = j := by
  have := firsts_apart E l
  rw [List.pairwise_iff_getElem] at this
  rcases Nat.lt_trichotomy i j with q | q | q
  · exact absurd h (this i j hi hj q)
  · exact q
  · exact absurd h.symm (this j i hj hi q)

theorem treesOf_length (E : List Edg) (l : List Int) : (treesOf E l).length = (firsts E l).length := by simp [treesOf]

/-- a vertex that comes to the list that it belongs to -/
theorem treesOf_old (E : List Edg) (l : List Int) (x : Int) {i : Nat} (hi : i < (firsts E l).length) (h : Conn E (firsts E l)[i] x) :
    firsts E (l ++ [x]) = firsts E l ∧ treesOf E (l ++ [x]) = (treesOf E l).set i ((treesOf E l)[i]'(by rw [treesOf_length]; exact hi) ++ [x]) := by
  have hf : firsts E (l ++ [x]) = firsts E l := by
    have ha : (firsts E l).any (fun y => connB E y x) = true := List.any_eq_true.2 ⟨_, List.getElem_mem hi, connB_iff.2 h⟩
    rw [firsts_snoc, if_pos ha]
  refine ⟨hf, ?_⟩
  apply List.ext_getElem
  · simp [treesOf, hf]
  · intro j h1 h2
    have hj : j < (firsts E l).length := by simpa [treesOf, hf] using h1
    rw [List.getElem_set]
    simp only [treesOf, hf, List.getElem_map, List.filter_append]
    by_cases hij : i = j
    · subst hij
      simp [connB_iff.2 h]
    · rw [if_neg hij]
      have : connB E (firsts E l)[j] x = false := by
        rw [Bool.eq_false_iff]
        intro c
        exact hij (firsts_idx E l hi hj (h.trans (connB_iff.1 c).symm))
      simp [this]

/-- a vertex that begins a list of its own -/
theorem treesOf_new (E : List Edg) (l : List Int) (x : Int) (h : ∀ f ∈ firsts E l, ¬ Conn E f x) :
    firsts E (l ++ [x]) = firsts E l ++ [x] ∧ treesOf E (l ++ [x]) = treesOf E l ++ [[x]] := by
  have hf : firsts E (l ++ [x]) = firsts E l ++ [x] := by
    rw [firsts_snoc, if_neg]
    intro ha
    obtain ⟨f, hf, c⟩ := List.any_eq_true.1 ha
    exact h f hf (connB_iff.1 c)
  refine ⟨hf, ?_⟩
  simp only [treesOf, hf, List.map_append, List.map_cons, List.map_nil, List.filter_append]
  congr 1
  · apply List.map_congr_left
    intro f hf'
    have : connB E f x = false := by
      rw [Bool.eq_false_iff]
      intro c
      exact h f hf' (connB_iff.1 c)
    simp [this]
  · have h1 : l.filter (connB E x) = [] := by
      rw [List.filter_eq_nil_iff]
      intro y hy c
      obtain ⟨f, hf', c'⟩ := firsts_cover E l y hy
      exact h f hf' (c'.trans (connB_iff.1 c).symm)
    have h2 : connB E x x = true := connB_iff.2 (.refl _)
    simp [h1, h2]

/-- 'place': the number of the list that a root has -/
structure Places (E : List Edg) (M P : Int → Option Int) (l : List Int) : Prop where
  of : ∀ r i, P r = some i → ∃ (j : Nat) (hj : j < (firsts E l).length), i = j ∧ Root M (firsts E l)[j] r
  at_ : ∀ (j : Nat) (hj : j < (firsts E l).length) r, Root M (firsts E l)[j] r → P r = some (j : Int)

theorem Places.empty (E : List Edg) (M : Int → Option Int) : Places E M (fun _ => none) [] := ⟨fun _ _ h => (by cases h), fun j hj _ _ => absurd hj (by simp [firsts_nil])⟩

theorem Places.keeps {E : List Edg} {M N P : Int → Option Int} {l : List Int} (h : Places E M P l) (t : Tot M) (hk : Keeps M N) : Places E N P l where
  of r i hp := by
    obtain ⟨j, hj, e, hr⟩ := h.of r i hp
    exact ⟨j, hj, e, hk.root hr⟩
  at_ j hj r hr := by
    obtain ⟨d, r0, h0⟩ := t (firsts E l)[j]
    have e : r = r0 := hr.fn (hk.root ⟨d, h0⟩)
    rw [e]
    exact h.at_ j hj r0 ⟨d, h0⟩

theorem Places.old {E : List Edg} {M P : Int → Option Int} {l : List Int} {k : Nat} {x r i : Int} (h : Places E M P l) (hD : Dsu M E k) (hr : Root M x r) (hp : P r = some i) :
    ∃ (j : Nat) (hj : j < (firsts E l).length), i = j ∧ Conn E (firsts E l)[j] x ∧ Places E M P (l ++ [x]) := by
  obtain ⟨j, hj, e, hr'⟩ := h.of r i hp
  have hc : Conn E (firsts E l)[j] x := (hD.conn _ _ _ _ hr' hr).1 rfl
  refine ⟨j, hj, e, hc, ?_⟩
  obtain ⟨e1, _⟩ := treesOf_old E l x hj hc
  exact ⟨fun r i hp => by rw [e1]; exact h.of r i hp, by rw [e1]; exact h.at_⟩

theorem Places.new {E : List Edg} {M P : Int → Option Int} {l : List Int} {k : Nat} {x r : Int} (h : Places E M P l) (hD : Dsu M E k) (hr : Root M x r) (hp : P r = none) :
    (∀ f ∈ firsts E l, ¬ Conn E f x) ∧ Places E M (updI P r (firsts E l).length) (l ++ [x]) := by
  have hno : ∀ f ∈ firsts E l, ¬ Conn E f x := fun f hf c => by
    obtain ⟨j, hj, rfl⟩ := List.getElem_of_mem hf
    obtain ⟨d, r0, h0⟩ := hD.tot (firsts E l)[j]
    have e := (hD.conn _ _ _ _ ⟨d, h0⟩ hr).2 c
    have := h.at_ j hj r0 ⟨d, h0⟩
    rw [e, hp] at this
    cases this
  refine ⟨hno, ?_⟩
  obtain ⟨e1, _⟩ := treesOf_new E l x hno
  constructor
  · intro r' i hp'
    simp only [updI] at hp'
    split at hp'
    · cases hp'
      rename_i e
      subst e
      exact ⟨(firsts E l).length, by rw [e1]; simp, rfl, by simp only [e1, List.getElem_concat_length]; exact hr⟩
    · obtain ⟨j, hj, e, hr'⟩ := h.of r' i hp'
      refine ⟨j, by rw [e1, List.length_append]; omega, e, ?_⟩
      simp only [e1, List.getElem_append_left hj]
      exact hr'
  · intro j hj r' hr'
    rw [e1, List.length_append, List.length_singleton] at hj
    by_cases hj' : j < (firsts E l).length
    · simp only [e1, List.getElem_append_left hj'] at hr'
      have h1 := h.at_ j hj' r' hr'
      have hne : r' ≠ r := fun e => by rw [e, hp] at h1; cases h1
      simp [updI, hne, h1]
    · have hjl : j = (firsts E l).length := by omega
      subst hjl
      simp only [e1, List.getElem_concat_length] at hr'
      rw [hr'.fn hr]
      simp [updI]

theorem firsts_le (E : List Edg) : ∀ l, (firsts E l).length ≤ l.length := by
  refine snoc_ind (by simp [firsts_nil]) ?_
  intro l x ih
  rw [firsts_snoc]
  split <;> simp <;> omega

theorem treesOf_le (E : List Edg) (l g : List Int) (i : Nat) (h : (treesOf E l)[i]? = some g) : g.length ≤ l.length := by
  obtain ⟨h1, rfl⟩ := List.getElem?_eq_some_iff.1 h
  simp only [treesOf, List.getElem_map]
  exact List.length_filter_le _ _

end Go.Proofs.YthidhdffiebbgaaGreatDoor.Sk
