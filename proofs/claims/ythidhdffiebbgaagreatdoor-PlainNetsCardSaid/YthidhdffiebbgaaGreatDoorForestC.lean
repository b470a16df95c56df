/- Of the forest's ids, put back into edges: they are a right net that joins what the whole net joins. No program. -/
import Derived.Test.YthidhdffiebbgaaGreatDoorForestB
namespace Go.Proofs.YthidhdffiebbgaaGreatDoor
open Go.Proofs.YthidhdffiebbgaaGreatDoor.Sk

theorem sumW_perm {E F : List Edg} (h : E.Perm F) : sumW E = sumW F := by
  induction h with
  | nil => rfl
  | cons x _ ih => rw [sumW_cons, sumW_cons, ih]
  | swap x y l => rw [sumW_cons, sumW_cons, sumW_cons, sumW_cons]; omega
  | trans _ _ i j => rw [i, j]

theorem edgeAt_id {E : List Edg} (h : (E.map Edg.id).Pairwise (· < ·)) {i : Int} (hi : i ∈ E.map Edg.id) : edgeAt E i ∈ E ∧ (edgeAt E i).id = i := by
  obtain ⟨e, he, rfl⟩ := List.mem_map.1 hi
  rw [edgeAt_in h he]
  exact ⟨he, rfl⟩

/-- the forest's edges, as the ids tell them -/
noncomputable def backE (V : List Int) (E : List Edg) : List Edg := (forestIds V E).map (edgeAt E)

theorem forestIds_perm {V : List Int} {E : List Edg} (hR : Right V E) : (forestIds V E).Perm ((forestOf E).map Edg.id) := by
  unfold forestIds
  rw [if_pos hR]
  exact sortI_perm _

theorem forestIds_mem {V : List Int} {E : List Edg} (hR : Right V E) {i : Int} (hi : i ∈ forestIds V E) : i ∈ E.map Edg.id := by
  have := (forestIds_perm hR).mem_iff.1 hi
  obtain ⟨e, he, rfl⟩ := List.mem_map.1 this
  exact List.mem_map.2 ⟨e, forestOf_sub E e he, rfl⟩

theorem backE_perm {V : List Int} {E : List Edg} (hR : Right V E) : (backE V E).Perm (forestOf E) := by
  have h := (forestIds_perm hR).map (edgeAt E)
  have e : ((forestOf E).map Edg.id).map (edgeAt E) = forestOf E := by
    rw [List.map_map]
    have : ∀ e ∈ forestOf E, (edgeAt E ∘ Edg.id) e = e := fun e he => edgeAt_in hR.2.2.2.2.2 (forestOf_sub E e he)
    exact (List.map_congr_left this).trans (by simp)
  rw [e] at h
  exact h

theorem sortI_le (zs : List Int) : (sortI zs).Pairwise (· ≤ ·) := by
  unfold sortI
  have h := List.pairwise_mergeSort (le := fun x y : Int => decide (x ≤ y)) (fun a b c h1 h2 => by simp only [decide_eq_true_eq] at *; omega) (fun a b => by simp only [Bool.or_eq_true, decide_eq_true_eq]; omega) zs
  exact h.imp (fun h => by simpa using h)

theorem forest_nodup (E : List Edg) (hid : (E.map Edg.id).Pairwise (· < ·)) : ((forestOf E).map Edg.id).Nodup := by
  have h1 : (E.map Edg.id).Nodup := hid.imp fun {a b} h (k : a = b) => by omega
  have h2 : ((sortE E).map Edg.id).Nodup := ((sortE_perm E).map Edg.id).nodup_iff.2 h1
  exact h2.sublist ((kept_sub (sortE E)).map Edg.id)

theorem forestIds_rises {V : List Int} {E : List Edg} (hR : Right V E) : Rises (forestIds V E) := by
  refine ⟨fun x hx => hR.2.2.2.2.1 x (forestIds_mem hR hx), ?_⟩
  have h1 : (forestIds V E).Pairwise (· ≤ ·) := by unfold forestIds; rw [if_pos hR]; exact sortI_le _
  have h2 : (forestIds V E).Nodup := (forestIds_perm hR).nodup_iff.2 (forest_nodup E hR.2.2.2.2.2)
  exact (h1.and h2).imp fun ⟨a, b⟩ => by
    have : ∀ {x y : Int}, x ≤ y → x ≠ y → x < y := fun {x y} h k => by omega
    exact this a b

theorem backE_ids {V : List Int} {E : List Edg} (hR : Right V E) : (backE V E).map Edg.id = forestIds V E := by
  unfold backE
  rw [List.map_map]
  have : ∀ i ∈ forestIds V E, (Edg.id ∘ edgeAt E) i = i := fun i hi => (edgeAt_id hR.2.2.2.2.2 (forestIds_mem hR hi)).2
  exact (List.map_congr_left this).trans (by simp)

theorem backE_mem {V : List Int} {E : List Edg} (hR : Right V E) : ∀ e ∈ backE V E, e ∈ E := fun e he => forestOf_sub E e ((backE_perm hR).mem_iff.1 he)

theorem backE_right {V : List Int} {E : List Edg} (hR : Right V E) : Right V (backE V E) := by
  refine ⟨hR.1, ?_, hR.2.2.1, fun e he => hR.2.2.2.1 e (backE_mem hR e he), ?_⟩
  · have h1 := (backE_perm hR).length_eq
    have h2 := forestOf_le E
    have h3 := hR.2.1
    omega
  · rw [backE_ids hR]
    exact forestIds_rises hR

theorem backE_conn {V : List Int} {E : List Edg} (hR : Right V E) (a b : Int) : Conn (backE V E) a b ↔ Conn E a b :=
  (conn_perm (backE_perm hR) a b).trans (forest_conn E a b)

theorem backE_trees {V : List Int} {E : List Edg} (hR : Right V E) : treesOf (backE V E) V = treesOf E V := treesOf_congr (backE_conn hR) V

theorem backE_sum {V : List Int} {E : List Edg} (hR : Right V E) : sumW (backE V E) = sumW (forestOf E) := sumW_perm (backE_perm hR)

theorem forestIds_count {V : List Int} {E : List Edg} (hR : Right V E) : (forestIds V E).length + (treesOf E V).length = V.length := by
  have h1 := (forestIds_perm hR).length_eq
  rw [List.length_map] at h1
  have h2 := forest_count hR
  omega

/-- what the law asks of each edge and of each edge of the way between its ends -/
theorem forest_way {V : List Int} {E : List Edg} (hR : Right V E) {x : Edg} (hx : x ∈ E) {L : List Edg} (hL : Trail (forestOf E) x.u L x.v) (hn : L.Nodup) : ∀ e ∈ L, e.id ∈ forestIds V E ∧ (x.id ∈ forestIds V E ∨ aheadB e x = true) := by
  intro e he
  have heF := hL.sub e he
  refine ⟨(forestIds_perm hR).mem_iff.2 (List.mem_map.2 ⟨e, heF, rfl⟩), ?_⟩
  by_cases h : x ∈ forestOf E
  · exact .inl ((forestIds_perm hR).mem_iff.2 (List.mem_map.2 ⟨x, h, rfl⟩))
  · obtain ⟨M, m1, m2, m3⟩ := forest_ahead hR.2.2.2.2.2 hx h
    have := trail_one (forest_acyc E) hL hn m1 m2
    subst this
    exact .inr (m3 e he)

theorem forest_joins {V : List Int} {E : List Edg} (hR : Right V E) {x : Edg} (hx : x ∈ E) : checkA V E [x.u, x.v] = 0 ∧ Conn E x.u x.v := by
  have := hR.2.2.2.1 x hx
  refine ⟨checkA_ok hR fun y hy => ?_, .edge hx⟩
  simp only [List.mem_cons, List.not_mem_nil, or_false] at hy
  rcases hy with rfl | rfl
  · exact this.2.2.1
  · exact this.2.2.2

end Go.Proofs.YthidhdffiebbgaaGreatDoor
