/- Maps from numbers to rows of edges; what lies around each vertex. -/
import Derived.Test.YthidhdffiebbgaaGreatDoorPlK
import Derived.Deep.AppendLies
namespace Go.Proofs.YthidhdffiebbgaaGreatDoor
open Go.RowKit Go.Proofs.YthidhdffiebbgaaGreatDoor.Sk

/-- what lies around a vertex -/
def arnd (F : List Edg) (k : Int) : List Edg := F.flatMap fun e => (if e.u = k then [e] else []) ++ (if e.v = k then [e] else [])
theorem arnd_snoc (F : List Edg) (e : Edg) (k : Int) : arnd (F ++ [e]) k = arnd F k ++ (if e.u = k then [e] else []) ++ (if e.v = k then [e] else []) := by
  simp [arnd]
theorem mem_arnd {F : List Edg} {e : Edg} {k : Int} : e ∈ arnd F k ↔ e ∈ F ∧ (e.u = k ∨ e.v = k) := by
  unfold arnd
  simp only [List.mem_flatMap, List.mem_append]
  constructor
  · rintro ⟨x, hx, h | h⟩
    · split at h
      · simp at h; subst h; exact ⟨hx, .inl ‹_›⟩
      · simp at h
    · split at h
      · simp at h; subst h; exact ⟨hx, .inr ‹_›⟩
      · simp at h
  · rintro ⟨h, k | k⟩
    · exact ⟨e, h, .inl (by simp [k])⟩
    · exact ⟨e, h, .inr (by simp [k])⟩
theorem arnd_le (F : List Edg) (k : Int) : (arnd F k).length ≤ 2 * F.length := by
  revert F
  refine snocE_ind (by simp [arnd]) ?_
  intro l x ih
  rw [arnd_snoc]
  simp only [List.length_append, List.length_cons, List.length_nil]
  split <;> split <;> simp <;> omega

/-- The map block mb holds for each number a row of edges of the call's own. -/
structure Arnd (w : World) (base mb n : Nat) (vs : Int → Option Value) (A : Int → List Edg) : Prop where
  map : MapAt Tryz.prog 3 w mb n vs
  own : ∀ k v, vs k = some v → w.ownsRow base 47 4 v (A k).length ((A k).flatMap encE)
  empty : ∀ k, vs k = none → A k = []
  apart : ∀ k l v u b, k ≠ l → vs k = some v → vs l = some u → v.ownBlock = some b → u.ownBlock ≠ some b

variable {w w' : World} {base mb n : Nat} {vs : Int → Option Value} {A : Int → List Edg}

theorem Arnd.row (h : Arnd w base mb n vs A) (k : Int) : w.ownsRow base 47 4 ((vs k).getD (.slice none 0 0)) (A k).length ((A k).flatMap encE) := by
  cases hk : vs k with
  | none => rw [h.empty k hk]; exact World.ownsRow_nil _ _ _ _
  | some v => exact h.own k v hk

theorem Arnd.alloc (h : Arnd w base mb n vs A) (o : Obj) : Arnd (w.alloc o) base mb n vs A :=
  ⟨h.map.alloc o, fun k v hv => (h.own k v hv).alloc o, h.empty, h.apart⟩

theorem Arnd.drew (h : Arnd w base mb n vs A) : Arnd w.drew base mb n vs A :=
  ⟨h.map.block (w' := w.drew) rfl, fun k v hv => (h.own k v hv).drew, h.empty, h.apart⟩

/-- 'm[k] = append(m[k], e)' -/
theorem Arnd.push (h : Arnd w base mb n vs A) {k : Int} {v' : Value} {e : Edg} {w1 w2 : World} (hv : w1.ownsRow base 47 4 v' ((A k).length + 1) ((A k).flatMap encE ++ encE e))
    (hg : w.grownBy w1 ((vs k).getD (.slice none 0 0)).ownBlock) (hloc : v'.ownBlock = ((vs k).getD (.slice none 0 0)).ownBlock ∨ v'.ownBlock = some w.heap.size)
    (hm : MapAt Tryz.prog 3 w2 mb (n + 1) (upd vs k v')) (ht : w1.grownBy w2 (some mb)) :
    Arnd w2 base mb (n + 1) (upd vs k v') (fun x => if x = k then A k ++ [e] else A x) := by
  have hnm : v'.ownBlock ≠ some mb := by
    rcases hloc with h1 | h1
    · rw [h1]; exact owns_not_map h.map (h.row k)
    · rw [h1]; intro e; have := h.map.lt; simp at e; omega
  have hother : ∀ l u, l ≠ k → vs l = some u → w1.ownsRow base 47 4 u (A l).length ((A l).flatMap encE) := fun l u hl hu => by
    refine (h.own l u hu).kept hg ?_
    cases hb : u.ownBlock with
    | none => exact .inl rfl
    | some b =>
      right
      intro hb2
      cases hk : vs k with
      | none => rw [hk] at hb2; simp [Value.ownBlock] at hb2
      | some v => rw [hk] at hb2; exact h.apart l k u v b hl hu hk hb hb2.symm
  refine ⟨hm, fun l u hl => ?_, fun l hl => ?_, fun l m u t b hne hu ht' hb => ?_⟩
  · by_cases hlk : l = k
    · subst hlk
      simp only [upd, if_true, Option.some.injEq] at hl
      subst hl
      simp only [if_true, flat_snoc, List.length_append, List.length_cons, List.length_nil]
      exact hv.kept ht (by cases hb : v'.ownBlock with | none => exact .inl rfl | some b => right; rw [hb] at hnm; exact hnm)
    · simp only [upd, if_neg hlk] at hl ⊢
      exact (hother l u hlk hl).kept ht (by
        have := owns_not_map h.map (h.own l u hl)
        cases hb : u.ownBlock with | none => exact .inl rfl | some b => right; rw [hb] at this; exact this)
  · by_cases hlk : l = k
    · subst hlk; simp [upd] at hl
    · simp only [upd, if_neg hlk] at hl ⊢
      exact h.empty l hl
  · have hfr : ∀ x t b, x ≠ k → vs x = some t → v'.ownBlock = some b → t.ownBlock ≠ some b := fun x t b hx hxt hbv e => by
      rcases hloc with h1 | h1
      · cases hk : vs k with
        | none => rw [h1, hk] at hbv; simp [Value.ownBlock] at hbv
        | some v => rw [h1, hk] at hbv; exact h.apart x k t v b hx hxt hk e hbv
      · rw [h1] at hbv
        have := ((h.own x t hxt).lt b e).2
        simp at hbv
        omega
    by_cases hlk : l = k
    · subst hlk
      have hml : m ≠ l := fun e => hne e.symm
      simp only [upd, if_true, Option.some.injEq] at hu
      subst hu
      simp only [upd, if_neg hml] at ht'
      exact hfr m t b hml ht' hb
    · simp only [upd, if_neg hlk] at hu
      by_cases hmk : m = k
      · subst hmk
        simp only [upd, if_true, Option.some.injEq] at ht'
        subst ht'
        exact fun e => hfr l u b hlk hu e hb
      · simp only [upd, if_neg hmk] at ht'
        exact h.apart l m u t b hne hu ht' hb

end Go.Proofs.YthidhdffiebbgaaGreatDoor
