/- The plain law of PlainPaths. No program. -/
import Derived.Test.YthidhdffiebbgaaGreatDoorPpA
namespace Go.Proofs.YthidhdffiebbgaaGreatDoor
open Go.Proofs.YthidhdffiebbgaaGreatDoor.Sk

theorem trail_end {F : List Edg} : ∀ {L : List Edg} {a b c : Int}, Trail F a L b → Trail F a L c → b = c
  | [], _, _, _, h, k => (show _ = _ from h).symm.trans k
  | e :: L, a, b, c, ⟨_, h⟩, ⟨_, k⟩ => by
    rcases h with ⟨h1, h2⟩ | ⟨h1, h2⟩ <;> rcases k with ⟨k1, k2⟩ | ⟨k1, k2⟩
    · exact trail_end h2 k2
    · rw [h1.trans k1.symm] at k2
      exact trail_end h2 k2
    · rw [h1.trans k1.symm] at k2
      exact trail_end h2 k2
    · exact trail_end h2 k2

theorem checkA_swap (V : List Int) (E : List Edg) (u v : Int) : checkA V E [u, v] = checkA V E [v, u] := by
  unfold checkA
  have : (∀ x ∈ [u, v], x ∈ V) ↔ (∀ x ∈ [v, u], x ∈ V) := by simp [and_comm]
  simp only [this]

theorem pathA_one {V : List Int} {E : List Edg} {u v : Int} {L M : List Edg} {c d : Int} (h : PathA V E u v L c) (k : PathA V E u v M d) : L = M ∧ c = d := by
  by_cases hc : checkA V E [u, v] = 0
  · by_cases hj : Conn E u v
    · obtain ⟨h1, h2, h3⟩ := (h.1 hc).1 hj
      obtain ⟨k1, k2, k3⟩ := (k.1 hc).1 hj
      exact ⟨trail_one (forest_acyc E) h2 h3 k2 k3, by omega⟩
    · obtain ⟨h1, h2⟩ := (h.1 hc).2 hj
      obtain ⟨k1, k2⟩ := (k.1 hc).2 hj
      exact ⟨by rw [h2, k2], by omega⟩
  · obtain ⟨h1, h2⟩ := h.2 hc
    obtain ⟨k1, k2⟩ := k.2 hc
    exact ⟨by rw [h2, k2], by omega⟩

theorem pathA_back {V : List Int} {E : List Edg} {u v : Int} {L : List Edg} {c : Int} (h : PathA V E u v L c) : PathA V E v u L.reverse c := by
  refine ⟨fun hc => ⟨fun hj => ?_, fun hj => ?_⟩, fun hc => ?_⟩
  · obtain ⟨h1, h2, h3⟩ := (h.1 (by rw [checkA_swap]; exact hc)).1 hj.symm
    exact ⟨h1, h2.back, nodup_back h3⟩
  · obtain ⟨h1, h2⟩ := (h.1 (by rw [checkA_swap]; exact hc)).2 fun k => hj k.symm
    exact ⟨h1, by rw [h2]; rfl⟩
  · rw [checkA_swap] at hc
    obtain ⟨h1, h2⟩ := h.2 hc
    exact ⟨by rw [h1, checkA_swap], by rw [h2]; rfl⟩

/-- what a path that was told is: in range, and a way -/
theorem pathA_ok {V : List Int} {E : List Edg} {u v : Int} {L : List Edg} (h : PathA V E u v L 0) : checkA V E [u, v] = 0 ∧ Conn E u v ∧ Trail (forestOf E) u L v ∧ L.Nodup := by
  have hck : checkA V E [u, v] = 0 := Classical.byContradiction fun hc => by have := (h.2 hc).1; omega
  have hco : Conn E u v := Classical.byContradiction fun hc => by have := ((h.1 hck).2 hc).1; omega
  obtain ⟨_, h2, h3⟩ := (h.1 hck).1 hco
  exact ⟨hck, hco, h2, h3⟩
theorem pathA_no {V : List Int} {E : List Edg} {u v : Int} {L : List Edg} {c : Int} (h : PathA V E u v L c) (hc : c ≠ 0) : L = [] ∧ (checkA V E [u, v] = 0 → ¬ Conn E u v) := by
  by_cases hck : checkA V E [u, v] = 0
  · by_cases hj : Conn E u v
    · exact absurd ((h.1 hck).1 hj).1 hc
    · exact ⟨((h.1 hck).2 hj).2, fun _ => hj⟩
  · exact ⟨(h.2 hck).2, fun k => absurd k hck⟩

theorem edgeAt_in {E : List Edg} (h : (E.map Edg.id).Pairwise (· < ·)) {e : Edg} (he : e ∈ E) : edgeAt E e.id = e := by
  unfold edgeAt findE
  have hs : (E.find? fun x => x.id == e.id).isSome = true := by
    rw [List.find?_isSome]
    exact ⟨e, he, by simp⟩
  obtain ⟨x, hx⟩ := Option.isSome_iff_exists.1 hs
  rw [hx]
  have h1 := List.find?_some hx
  have h2 := List.mem_of_find?_eq_some hx
  simp only [beq_iff_eq] at h1
  exact id_inj h h2 he h1

theorem maxE_one (e : Edg) : maxE [e] = e := rfl
theorem max_ahead (m e : Edg) : maxStep m e = if aheadB m e then e else m := by
  unfold maxStep aheadB lessI orI cmpI
  have : (0 < (if (if e.w < m.w then (-1 : Int) else if m.w < e.w then 1 else 0) = 0 then (if e.id < m.id then (-1 : Int) else if m.id < e.id then 1 else 0) else (if e.w < m.w then (-1 : Int) else if m.w < e.w then 1 else 0))) ↔ (m.w < e.w ∨ m.w = e.w ∧ m.id < e.id) := by
    split <;> split <;> (try split) <;> (try split) <;> omega
  simp only [this, decide_eq_true_eq]

/-- one step along a path -/
theorem path_step {F : List Edg} {u v a : Int} {L : List Edg} {k : Nat} (h : Trail F u L v) (hk : k < L.length) (ha : Trail F u (L.take k) a) :
    (L[k].u = a ∨ L[k].v = a) ∧ Trail F u (L.take (k + 1)) (L[k].u + L[k].v - a) := by
  have e : L = L.take k ++ L[k] :: L.drop (k + 1) := by rw [← List.drop_eq_getElem_cons hk, List.take_append_drop]
  have h' := h
  rw [e] at h'
  obtain ⟨c, h1, h2⟩ := h'.split
  obtain rfl := trail_end h1 ha
  obtain ⟨h3, h4⟩ := h2
  have hsn : L.take (k + 1) = L.take k ++ [L[k]] := List.take_succ_eq_append_getElem hk
  rw [hsn]
  rcases h4 with ⟨h4, _⟩ | ⟨h4, _⟩
  · exact ⟨.inl h4, h1.snoc h3 (.inl ⟨h4, by omega⟩)⟩
  · exact ⟨.inr h4, h1.snoc h3 (.inr ⟨h4, by omega⟩)⟩

end Go.Proofs.YthidhdffiebbgaaGreatDoor
