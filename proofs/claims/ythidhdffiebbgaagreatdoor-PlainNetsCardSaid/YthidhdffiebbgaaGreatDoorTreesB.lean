/- The plain law of the lists of joined vertices. No program. -/
import Derived.Test.YthidhdffiebbgaaGreatDoorPlF
import Derived.Test.YthidhdffiebbgaaGreatDoorBfsA
namespace Go.Proofs.YthidhdffiebbgaaGreatDoor
open Go.Proofs.YthidhdffiebbgaaGreatDoor.Sk

theorem tr_mem {E : List Edg} {l : List Int} {i : Nat} {g : List Int} (h : (treesOf E l)[i]? = some g) : ∃ hi : i < (firsts E l).length, ∀ x, x ∈ g ↔ x ∈ l ∧ Conn E (firsts E l)[i] x := by
  obtain ⟨h1, rfl⟩ := List.getElem?_eq_some_iff.1 h
  have h2 : i < (firsts E l).length := by rw [← treesOf_length]; exact h1
  refine ⟨h2, fun x => ?_⟩
  simp only [treesOf, List.getElem_map, List.mem_filter, connB_iff]

theorem tr_sub {E : List Edg} {l : List Int} {i : Nat} {g : List Int} (h : (treesOf E l)[i]? = some g) : g.Sublist l := by
  obtain ⟨h1, rfl⟩ := List.getElem?_eq_some_iff.1 h
  simp only [treesOf, List.getElem_map]
  exact List.filter_sublist

theorem firsts_sublist (E : List Edg) : ∀ l, (firsts E l).Sublist l := by
  refine snoc_ind (by simp [firsts_nil]) ?_
  intro l x ih
  rw [firsts_snoc]
  split
  · exact ih.trans (List.sublist_append_left _ _)
  · exact ih.append (List.Sublist.refl _)

/-- each list begins with its first -/
theorem tr_head (E : List Edg) : ∀ (l : List Int) (i : Nat) (g : List Int), (treesOf E l)[i]? = some g → ∃ f t, (firsts E l)[i]? = some f ∧ g = f :: t := by
  refine snoc_ind (by simp [treesOf, firsts_nil]) ?_
  intro l x ih i g h
  by_cases hx : ∃ f ∈ firsts E l, Conn E f x
  · obtain ⟨f, hf, hc⟩ := hx
    obtain ⟨j, hj, rfl⟩ := List.getElem_of_mem hf
    obtain ⟨e1, e2⟩ := treesOf_old E l x hj hc
    rw [e2] at h
    rw [e1]
    by_cases hij : i = j
    · subst hij
      rw [List.getElem?_set_self (by rw [treesOf_length]; exact hj)] at h
      simp only [Option.some.injEq] at h
      obtain ⟨f, t, h1, h2⟩ := ih i _ (List.getElem?_eq_getElem (by rw [treesOf_length]; exact hj))
      exact ⟨f, t ++ [x], h1, by rw [← h, h2]; rfl⟩
    · rw [List.getElem?_set_ne (Ne.symm hij)] at h
      exact ih i g h
  · obtain ⟨e1, e2⟩ := treesOf_new E l x fun f hf hc => hx ⟨f, hf, hc⟩
    rw [e2] at h
    rw [e1]
    by_cases hi : i < (treesOf E l).length
    · rw [List.getElem?_append_left hi] at h
      obtain ⟨f, t, h1, h2⟩ := ih i g h
      exact ⟨f, t, by rw [List.getElem?_append_left (by rw [← treesOf_length]; exact hi)]; exact h1, h2⟩
    · rw [List.getElem?_append_right (by omega)] at h
      have hz : i - (treesOf E l).length = 0 := by
        rcases Nat.eq_zero_or_pos (i - (treesOf E l).length) with h0 | h0
        · exact h0
        · rw [List.getElem?_eq_none (by simp; omega)] at h; cases h
      rw [hz] at h
      simp at h
      refine ⟨x, [], ?_, h.symm⟩
      rw [List.getElem?_append_right (by rw [← treesOf_length]; omega), ← treesOf_length, hz]
      rfl

/-- the lengths of lists together -/
def lens : List (List Int) → Nat
  | [] => 0
  | g :: gs => g.length + lens gs
theorem lens_snoc (gs : List (List Int)) (g : List Int) : lens (gs ++ [g]) = lens gs + g.length := by
  induction gs with
  | nil => simp [lens]
  | cons a gs ih => simp only [List.cons_append, lens, ih]; omega
theorem lens_set : ∀ (gs : List (List Int)) (i : Nat) (h : i < gs.length) (x : Int), lens (gs.set i (gs[i] ++ [x])) = lens gs + 1
  | g :: gs, 0, _, x => by simp [lens]; omega
  | g :: gs, i + 1, h, x => by
    have := lens_set gs i (by simpa using h) x
    simp only [List.set_cons_succ, List.getElem_cons_succ, lens, this]
    omega
theorem lens_trees (E : List Edg) : ∀ l, lens (treesOf E l) = l.length := by
  refine snoc_ind (by simp [treesOf, firsts_nil, lens]) ?_
  intro l x ih
  by_cases hx : ∃ f ∈ firsts E l, Conn E f x
  · obtain ⟨f, hf, hc⟩ := hx
    obtain ⟨j, hj, rfl⟩ := List.getElem_of_mem hf
    obtain ⟨e1, e2⟩ := treesOf_old E l x hj hc
    rw [e2, lens_set, ih]
    simp
  · obtain ⟨e1, e2⟩ := treesOf_new E l x fun f hf hc => hx ⟨f, hf, hc⟩
    rw [e2, lens_snoc, ih]
    simp

/-- where a vertex has been met, among the lists before number k and in the beginning of that one -/
def Met (gs : List (List Int)) (u : Int) (a : Int) (k : Nat) (pre : List Int) : Prop :=
  (a = -1 ∧ (∀ i g, i < k → gs[i]? = some g → u ∉ g) ∧ u ∉ pre) ∨ (∃ (i : Nat) (g : List Int), a = (i : Int) ∧ gs[i]? = some g ∧ u ∈ g)

theorem Met.start (gs : List (List Int)) (u : Int) : Met gs u (-1) 0 [] := .inl ⟨rfl, by omega, by simp⟩
theorem Met.hit {gs : List (List Int)} {u : Int} {k : Nat} {g pre : List Int} (hg : gs[k]? = some g) (hu : u ∈ g) : Met gs u k k pre := .inr ⟨k, g, rfl, hg, hu⟩
theorem Met.miss {gs : List (List Int)} {u a x : Int} {k : Nat} {pre : List Int} (h : Met gs u a k pre) (hx : x ≠ u) : Met gs u a k (pre ++ [x]) := by
  rcases h with ⟨h1, h2, h3⟩ | h
  · exact .inl ⟨h1, h2, by simp [h3, Ne.symm hx]⟩
  · exact .inr h
theorem Met.next {gs : List (List Int)} {u a : Int} {k : Nat} {g : List Int} (hg : gs[k]? = some g) (h : Met gs u a k g) : Met gs u a (k + 1) [] := by
  rcases h with ⟨h1, h2, h3⟩ | h
  · refine .inl ⟨h1, fun i g' hi hg' => ?_, by simp⟩
    by_cases hik : i = k
    · subst hik
      rw [hg] at hg'
      simp at hg'
      exact hg' ▸ h3
    · exact h2 i g' (by omega) hg'
  · exact .inr h

theorem Met.out {E : List Edg} {V : List Int} {u a : Int} (h : Met (treesOf E V) u a (treesOf E V).length []) : (a = -1 ∧ u ∉ V) ∨ (∃ (i : Nat) (hi : i < (firsts E V).length), a = (i : Int) ∧ u ∈ V ∧ Conn E (firsts E V)[i] u) := by
  rcases h with ⟨h1, h2, _⟩ | ⟨i, g, h1, h2, h3⟩
  · refine .inl ⟨h1, fun hu => ?_⟩
    obtain ⟨f, hf, hc⟩ := firsts_cover E V u hu
    obtain ⟨j, hj, rfl⟩ := List.getElem_of_mem hf
    have hj' : j < (treesOf E V).length := by rw [treesOf_length]; exact hj
    have hg := List.getElem?_eq_getElem hj'
    obtain ⟨_, hm⟩ := tr_mem hg
    exact h2 j _ hj' hg ((hm u).2 ⟨hu, hc⟩)
  · obtain ⟨hi, hm⟩ := tr_mem h2
    obtain ⟨h4, h5⟩ := (hm u).1 h3
    exact .inr ⟨i, hi, h1, h4, h5⟩

/-- two vertices are joined just if they stand in one list -/
theorem met_same {E : List Edg} {V : List Int} {u v a b : Int} (hu : Met (treesOf E V) u a (treesOf E V).length []) (hv : Met (treesOf E V) v b (treesOf E V).length []) (ha : 0 ≤ a) (hb : 0 ≤ b) :
    u ∈ V ∧ v ∈ V ∧ connB E u v = (a == b) := by
  rcases hu.out with ⟨h, _⟩ | ⟨i, hi, rfl, hu1, hu2⟩
  · omega
  rcases hv.out with ⟨h, _⟩ | ⟨j, hj, rfl, hv1, hv2⟩
  · omega
  refine ⟨hu1, hv1, ?_⟩
  rw [Bool.eq_iff_iff, connB_iff, beq_iff_eq]
  constructor
  · intro h
    have := firsts_idx E V hi hj (hu2.trans (h.trans hv2.symm))
    omega
  · intro h
    have : i = j := by omega
    subst this
    exact hu2.symm.trans hv2
theorem met_none {E : List Edg} {V : List Int} {u a : Int} (hu : Met (treesOf E V) u a (treesOf E V).length []) (ha : a < 0) : u ∉ V := by
  rcases hu.out with ⟨_, h⟩ | ⟨i, hi, rfl, _⟩
  · exact h
  · omega

end Go.Proofs.YthidhdffiebbgaaGreatDoor
