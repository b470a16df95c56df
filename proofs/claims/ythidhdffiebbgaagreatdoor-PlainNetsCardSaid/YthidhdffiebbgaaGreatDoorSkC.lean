/- Own layer: a slice of slices of ints that the call itself makes. -/
import Derived.Test.YthidhdffiebbgaaGreatDoorSkB
import Derived.Deep.LoopGhost
namespace Go.Proofs.YthidhdffiebbgaaGreatDoor.Sk
open Go.RowKit

theorem aside' {p : Prop} (h : p) : Aside p := h

/-- outv owns the slices svs, which own the lists gs, all in blocks of their own from base on. -/
structure OwnsLL (w : World) (base : Nat) (outv : Value) (svs : List Value) (gs : List (List Int)) : Prop where
  outer : w.ownsRow base 22 1 outv gs.length svs
  len : svs.length = gs.length
  inner : ∀ (i : Nat) (s : Value) (g : List Int), svs[i]? = some s → gs[i]? = some g → w.ownsRow base 3 1 s g.length (g.map (Value.int .i64))
  apart : ∀ (i j : Nat) (s t : Value), i ≠ j → svs[i]? = some s → svs[j]? = some t → ∀ b, s.ownBlock = some b → t.ownBlock ≠ some b
  away : ∀ (i : Nat) (s : Value), svs[i]? = some s → ∀ b, outv.ownBlock = some b → s.ownBlock ≠ some b

theorem OwnsLL.nil (w : World) (base : Nat) : OwnsLL w base (.slice none 0 0) [] [] where
  outer := World.ownsRow_nil _ _ _ _
  len := rfl
  inner i s g h := by simp at h
  apart i j s t _ h := by simp at h
  away i s h := by simp at h

variable {w w' : World} {base : Nat} {outv : Value} {svs : List Value} {gs : List (List Int)}

theorem OwnsLL.kept {row : Option Nat} (h : OwnsLL w base outv svs gs) (hg : w.grownBy w' row) (ho : ∀ b, row = some b → outv.ownBlock ≠ some b) (hi : ∀ b s, row = some b → s ∈ svs → s.ownBlock ≠ some b) : OwnsLL w' base outv svs gs where
  outer := h.outer.kept hg (by
    cases row with
    | none => cases hb : outv.ownBlock <;> simp
    | some b => exact .inr (ho b rfl))
  len := h.len
  inner i s g hs hgi := (h.inner i s g hs hgi).kept hg (by
    cases row with
    | none => cases hb : s.ownBlock <;> simp
    | some b => exact .inr (hi b s rfl (List.mem_of_getElem? hs)))
  apart := h.apart
  away := h.away

theorem OwnsLL.alloc (h : OwnsLL w base outv svs gs) (o : Obj) : OwnsLL (w.alloc o) base outv svs gs :=
  h.kept (World.grownBy_alloc w o none) (fun b e => by cases e) (fun b s e => by cases e)

theorem owns_not_map {P : Program} {kt : TypeId} {b n : Nat} {m : Int → Option Value} {e : TypeId} {size k : Nat} {v : Value} {xs : List Value} (hm : MapAt P kt w b n m) (h : w.ownsRow base e size v k xs) : v.ownBlock ≠ some b := by
  obtain ⟨D, ⟨es, c, hb, _⟩, _⟩ := hm
  rcases h.2 with ⟨rfl, _⟩ | ⟨g, cap, cur, rfl, _, hg, _⟩
  · simp [Value.ownBlock]
  · simp only [Value.ownBlock, ne_eq, Option.some.injEq]
    rintro rfl
    rw [hb] at hg
    cases hg

/-- a map is written: the slices stay -/
theorem OwnsLL.mapKept {P : Program} {kt : TypeId} {b n : Nat} {m : Int → Option Value} (h : OwnsLL w base outv svs gs) (hm : MapAt P kt w b n m) (hg : w.grownBy w' (some b)) : OwnsLL w' base outv svs gs := by
  refine h.kept hg (fun c e => ?_) (fun c s e hs => ?_)
  · cases e; exact owns_not_map hm h.outer
  · cases e
    obtain ⟨i, hi⟩ := List.getElem?_of_mem hs
    have hlt : i < gs.length := by rw [← h.len]; exact (List.getElem?_eq_some_iff.1 hi).1
    exact owns_not_map hm (h.inner i s gs[i] hi (List.getElem?_eq_getElem hlt))

theorem OwnsLL.lt_out (h : OwnsLL w base outv svs gs) {b : Nat} (hb : outv.ownBlock = some b) : base ≤ b ∧ b < w.heap.size := h.outer.lt b hb
theorem OwnsLL.lt_in (h : OwnsLL w base outv svs gs) {i b : Nat} {s : Value} (hs : svs[i]? = some s) (hb : s.ownBlock = some b) : base ≤ b ∧ b < w.heap.size := by
  have hlt : i < gs.length := by rw [← h.len]; exact (List.getElem?_eq_some_iff.1 hs).1
  exact (h.inner i s gs[i] hs (List.getElem?_eq_getElem hlt)).lt b hb

/-- 'append(out, nil)' -/
theorem OwnsLL.push (h : OwnsLL w base outv svs gs) {v' : Value} (hv : w'.ownsRow base 22 1 v' (gs.length + 1) (svs ++ [.slice none 0 0])) (hg : w.grownBy w' outv.ownBlock) (hloc : v'.ownBlock = outv.ownBlock ∨ v'.ownBlock = some w.heap.size) :
    OwnsLL w' base v' (svs ++ [.slice none 0 0]) (gs ++ [[]]) := by
  have hk : ∀ (i : Nat) (s : Value) (g : List Int), svs[i]? = some s → gs[i]? = some g → w'.ownsRow base 3 1 s g.length (g.map (Value.int .i64)) := fun i s g hs hgi =>
    (h.inner i s g hs hgi).kept hg (by
      cases hb : s.ownBlock with
      | none => exact .inl rfl
      | some b => exact .inr (fun e => h.away i s hs b e.symm hb))
  refine ⟨by simpa using hv, by simp [h.len], ?_, ?_, ?_⟩
  · intro i s g hs hgi
    by_cases hi : i < svs.length
    · rw [List.getElem?_append_left hi] at hs
      rw [List.getElem?_append_left (by rw [← h.len]; exact hi)] at hgi
      exact hk i s g hs hgi
    · rw [List.getElem?_append_right (by omega)] at hs
      rw [List.getElem?_append_right (by rw [← h.len]; omega)] at hgi
      obtain ⟨h1, h2⟩ := List.getElem?_eq_some_iff.1 hs
      obtain ⟨h3, h4⟩ := List.getElem?_eq_some_iff.1 hgi
      simp at h2 h4
      subst h2 h4
      exact World.ownsRow_nil _ _ _ _
  · intro i j s t hij hs ht b hb
    by_cases hi : i < svs.length
    · rw [List.getElem?_append_left hi] at hs
      by_cases hj : j < svs.length
      · rw [List.getElem?_append_left hj] at ht
        exact h.apart i j s t hij hs ht b hb
      · rw [List.getElem?_append_right (by omega)] at ht
        obtain ⟨h1, h2⟩ := List.getElem?_eq_some_iff.1 ht
        simp at h2
        subst h2
        simp [Value.ownBlock]
    · rw [List.getElem?_append_right (by omega)] at hs
      obtain ⟨h1, h2⟩ := List.getElem?_eq_some_iff.1 hs
      simp at h2
      subst h2
      simp [Value.ownBlock] at hb
  · intro i s hs b hb
    by_cases hi : i < svs.length
    · rw [List.getElem?_append_left hi] at hs
      rcases hloc with e | e
      · exact h.away i s hs b (e ▸ hb)
      · intro hc
        have := (h.lt_in hs hc).2
        rw [e] at hb
        cases hb
        omega
    · rw [List.getElem?_append_right (by omega)] at hs
      obtain ⟨h1, h2⟩ := List.getElem?_eq_some_iff.1 hs
      simp at h2
      subst h2
      simp [Value.ownBlock]

/-- 'out[i] = append(out[i], x)' -/
theorem OwnsLL.put {gb n cap i : Nat} {s s' : Value} {g : List Int} {x : Int} (h : OwnsLL w base (.slice (some ⟨gb, 0, none⟩) n cap) svs gs) (hs : svs[i]? = some s) (_hgi : gs[i]? = some g)
    (hv : w'.ownsRow base 3 1 s' (g.length + 1) (g.map (Value.int .i64) ++ [.int .i64 x])) (hg : w.grownBy w' s.ownBlock) (hloc : s'.ownBlock = s.ownBlock ∨ s'.ownBlock = some w.heap.size) :
    OwnsLL (w'.setCell ⟨gb, i, none⟩ s') base (.slice (some ⟨gb, 0, none⟩) n cap) (svs.set i s') (gs.set i (g ++ [x])) ∧ w'.grownBy (w'.setCell ⟨gb, i, none⟩ s') (some gb) := by
  have hn : n = gs.length := by
    rcases h.outer.2 with ⟨e, _⟩ | ⟨_, _, _, e, _⟩
    · simp at e
    · simp only [Value.slice.injEq] at e; exact e.2.1.symm ▸ rfl
  subst hn
  have hilt : i < svs.length := (List.getElem?_eq_some_iff.1 hs).1
  have hgblt := (h.lt_out (b := gb) rfl).2
  -- the outer row in w'
  have ho : w'.ownsRow base 22 1 (.slice (some ⟨gb, 0, none⟩) gs.length cap) gs.length svs := h.outer.kept hg (by
    cases hb : s.ownBlock with
    | none => right; simp [Value.ownBlock]
    | some b => right; intro e; exact h.away i s hs b (by rw [e]) hb)
  obtain ⟨ho', hgr⟩ := ho.stored i s'
  have hs'b : ∀ b, s'.ownBlock = some b → b ≠ gb := fun b hb e => by
    subst e
    rcases hloc with q | q
    · rw [q] at hb; exact h.away i s hs b rfl hb
    · rw [q] at hb; cases hb; omega
  refine ⟨⟨by simpa using ho', by simp [h.len], ?_, ?_, ?_⟩, hgr⟩
  · intro j t gj ht hgj
    by_cases hij : i = j
    · subst hij
      rw [List.getElem?_set_self (by omega)] at ht
      rw [List.getElem?_set_self (by rw [← h.len]; omega)] at hgj
      cases ht
      cases hgj
      have := hv.kept hgr (by
        cases hb : s'.ownBlock with
        | none => exact .inl rfl
        | some b => exact .inr (fun e => hs'b b hb (by simpa using e)))
      simpa using this
    · rw [List.getElem?_set_ne hij] at ht hgj
      have h1 : w'.ownsRow base 3 1 t gj.length (gj.map (Value.int .i64)) := (h.inner j t gj ht hgj).kept hg (by
        cases hb : t.ownBlock with
        | none => exact .inl rfl
        | some b => exact .inr (fun e => h.apart i j s t hij hs ht b e.symm hb))
      exact h1.kept hgr (by
        cases hb : t.ownBlock with
        | none => exact .inl rfl
        | some b => exact .inr (fun e => h.away j t ht gb rfl (by rw [hb, ← e])))
  · intro j k t u hjk ht hu b hb
    by_cases hij : i = j
    · subst hij
      rw [List.getElem?_set_self (by omega)] at ht
      rw [List.getElem?_set_ne hjk] at hu
      cases ht
      rcases hloc with q | q
      · exact h.apart i k s u hjk hs hu b (q ▸ hb)
      · rw [q] at hb
        cases hb
        intro hc
        have := (h.lt_in hu hc).2
        omega
    · rw [List.getElem?_set_ne hij] at ht
      by_cases hik : i = k
      · subst hik
        rw [List.getElem?_set_self (by omega)] at hu
        cases hu
        rcases hloc with q | q
        · rw [q]
          exact h.apart j i t s hjk ht hs b hb
        · rw [q]
          intro hc
          cases hc
          have := (h.lt_in ht hb).2
          omega
      · rw [List.getElem?_set_ne hik] at hu
        exact h.apart j k t u hjk ht hu b hb
  · intro j t ht b hb
    simp only [Value.ownBlock, Option.some.injEq] at hb
    subst hb
    by_cases hij : i = j
    · subst hij
      rw [List.getElem?_set_self (by omega)] at ht
      cases ht
      intro hc
      exact hs'b gb hc rfl
    · rw [List.getElem?_set_ne hij] at ht
      exact h.away j t ht gb rfl

theorem owns_form {w : World} {base : Nat} {e : TypeId} {size n : Nat} {v : Value} {xs : List Value} (h : w.ownsRow base e size v n xs) : ∃ a cap, v = .slice a n cap ∧ (0 < n → ∃ gb, a = some ⟨gb, 0, none⟩) := by
  rcases h.2 with ⟨rfl, rfl⟩ | ⟨g, cap, cur, rfl, _⟩
  · exact ⟨none, 0, rfl, fun h => by omega⟩
  · exact ⟨_, cap, rfl, fun _ => ⟨g, rfl⟩⟩

/-- all that stands behind 'out[j] = append(out[j], x)' -/
theorem ll_tail {P : Program} {w wA w3 : World} {gb n cap j : Nat} {s s' : Value} {g : List Int} {x : Int} {svs : List Value} {gs : List (List Int)} {b1 n1 b2 n2 : Nat} {m1 m2 : Int → Option Value}
    (h : OwnsLL wA w.heap.size (.slice (some ⟨gb, 0, none⟩) n cap) svs gs) (hs : svs[j]? = some s) (hgi : gs[j]? = some g) (hb : Below w.heap.size w wA) (h1 : MapAt P 3 wA b1 n1 m1) (h2 : MapAt P 3 wA b2 n2 m2)
    (hv : w3.ownsRow w.heap.size 3 1 s' (g.length + 1) (g.map (Value.int .i64) ++ [.int .i64 x])) (hg : wA.grownBy w3 s.ownBlock) (hloc : s'.ownBlock = s.ownBlock ∨ s'.ownBlock = some wA.heap.size) :
    OwnsLL (w3.setCell ⟨gb, j, none⟩ s') w.heap.size (.slice (some ⟨gb, 0, none⟩) n cap) (svs.set j s') (gs.set j (g ++ [x])) ∧ MapAt P 3 (w3.setCell ⟨gb, j, none⟩ s') b1 n1 m1 ∧ MapAt P 3 (w3.setCell ⟨gb, j, none⟩ s') b2 n2 m2 ∧
    Below w.heap.size w (w3.setCell ⟨gb, j, none⟩ s') ∧ w3.cell? ⟨gb, j, none⟩ = some s ∧ w3.frozen? ⟨gb, j, none⟩ = false ∧ wA.heap.size ≤ (w3.setCell ⟨gb, j, none⟩ s').heap.size := by
  obtain ⟨hn, hgr⟩ := h.put hs hgi hv hg hloc
  have hlt : j < gs.length := (List.getElem?_eq_some_iff.1 hgi).1
  have hnl : n = gs.length := by
    rcases h.outer.2 with ⟨e, _⟩ | ⟨_, _, _, e, _⟩
    · simp at e
    · simp only [Value.slice.injEq] at e; exact e.2.1
  subst hnl
  have hin := h.inner j s g hs hgi
  have km : ∀ {b k m}, MapAt P 3 wA b k m → MapAt P 3 (w3.setCell ⟨gb, j, none⟩ s') b k m := fun {b k m} hm =>
    (hm.kept hg (fun e => owns_not_map hm hin e.symm)).kept hgr (fun e => owns_not_map hm h.outer (by simp only [Option.some.injEq] at e; simp [Value.ownBlock, e]))
  have ho : w3.ownsRow w.heap.size 22 1 (.slice (some ⟨gb, 0, none⟩) gs.length cap) gs.length svs := h.outer.kept hg (by
    cases hbl : s.ownBlock with
    | none => right; simp [Value.ownBlock]
    | some b => right; intro e; exact h.away j s hs b (by rw [e]) hbl)
  refine ⟨hn, km h1, km h2, ?_, ?_, ho.frozenAt j, ?_⟩
  · refine (hb.grown hg hb.size (fun b e => ?_)).setCell (h.lt_out (b := gb) rfl).1 _
    exact (h.lt_in hs e).1
  · rw [ho.cellAt j (by omega)]; exact hs
  · have := hg.size; have := hgr.size; omega

theorem owns_succ {w : World} {base : Nat} {e : TypeId} {size n : Nat} {v : Value} {xs : List Value} (h : w.ownsRow base e size v (n + 1) xs) : ∃ gb cap, v = .slice (some ⟨gb, 0, none⟩) (n + 1) cap := by
  obtain ⟨a, cap, rfl, h1⟩ := owns_form h
  obtain ⟨gb, rfl⟩ := h1 (by omega)
  exact ⟨gb, cap, rfl⟩

/-- all that stands behind 'out = append(out, nil)' -/
theorem ll_push {P : Program} {w wA w3 : World} {outv v' : Value} {svs : List Value} {gs : List (List Int)} {b1 n1 b2 n2 : Nat} {m1 m2 : Int → Option Value}
    (h : OwnsLL wA w.heap.size outv svs gs) (hb : Below w.heap.size w wA) (h1 : MapAt P 3 wA b1 n1 m1) (h2 : MapAt P 3 wA b2 n2 m2)
    (hv : w3.ownsRow w.heap.size 22 1 v' (gs.length + 1) (svs ++ [.slice none 0 0])) (hg : wA.grownBy w3 outv.ownBlock) (hloc : v'.ownBlock = outv.ownBlock ∨ v'.ownBlock = some wA.heap.size) :
    ∃ gb cap, v' = .slice (some ⟨gb, 0, none⟩) (gs.length + 1) cap ∧ OwnsLL w3 w.heap.size (.slice (some ⟨gb, 0, none⟩) (gs.length + 1) cap) (svs ++ [.slice none 0 0]) (gs ++ [[]]) ∧
      w3.cell? ⟨gb, gs.length, none⟩ = some (.slice none 0 0) ∧ MapAt P 3 w3 b1 n1 m1 ∧ MapAt P 3 w3 b2 n2 m2 ∧ Below w.heap.size w w3 ∧ gb < w3.heap.size ∧ wA.heap.size ≤ w3.heap.size := by
  have hp := h.push hv hg hloc
  obtain ⟨gb, cap, rfl⟩ := owns_succ hv
  have km : ∀ {b k m}, MapAt P 3 wA b k m → MapAt P 3 w3 b k m := fun {b k m} hm => hm.kept hg (fun e => owns_not_map hm h.outer e.symm)
  refine ⟨gb, cap, rfl, hp, ?_, km h1, km h2, hb.grown hg hb.size (fun b e => (h.lt_out e).1), (hp.lt_out (b := gb) rfl).2, hg.size⟩
  rw [hv.cellAt gs.length (by omega), List.getElem?_append_right (by rw [h.len]; omega), h.len]
  simp

end Go.Proofs.YthidhdffiebbgaaGreatDoor.Sk
