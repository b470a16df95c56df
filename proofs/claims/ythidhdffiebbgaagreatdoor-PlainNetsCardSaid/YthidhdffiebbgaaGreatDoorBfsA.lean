/- The plain law of going through a tree: what has been seen, and how. No program. -/
import Derived.Test.YthidhdffiebbgaaGreatDoorPlL
namespace Go.Proofs.YthidhdffiebbgaaGreatDoor
open Go.Proofs.YthidhdffiebbgaaGreatDoor.Sk

def zE : Edg := ⟨0, 0, 0, 0⟩
def updS (M : Int → Option (Edg × Int)) (v : Int) (x : Edg × Int) : Int → Option (Edg × Int) := fun y => if y = v then some x else M y
def updD (D : Int → Nat) (v : Int) (x : Nat) : Int → Nat := fun y => if y = v then x else D y

/-- r: whence; ord: who was seen, in order; M: by which edge, and how far; D: how deep -/
structure Bfs (F : List Edg) (r : Int) (ord : List Int) (M : Int → Option (Edg × Int)) (D : Int → Nat) : Prop where
  nodup : ord.Nodup
  root : M r = some (zE, 0)
  dom : ∀ v, M v ≠ none ↔ v ∈ ord
  par : ∀ v e s, M v = some (e, s) → v ≠ r → e ∈ F ∧ ∃ p ep sp, M p = some (ep, sp) ∧ s = sp + e.w ∧ D v = D p + 1 ∧ (e.u = p ∧ e.v = v ∨ e.u = v ∧ e.v = p)
  deep : ∀ v ∈ ord, D v < ord.length

theorem Bfs.start (F : List Edg) (r : Int) : Bfs F r [r] (updS (fun _ => none) r (zE, 0)) (fun _ => 0) where
  nodup := by simp
  root := by simp [updS]
  dom v := by unfold updS; by_cases h : v = r <;> simp [h]
  par v e s h hv := by simp [updS, hv] at h
  deep v _ := by simp

theorem Bfs.step {F : List Edg} {r : Int} {ord : List Int} {M : Int → Option (Edg × Int)} {D : Int → Nat} (h : Bfs F r ord M D) {u v su : Int} {e eu : Edg} (he : e ∈ F) (hu : e.u = u ∨ e.v = u) (hv : v = e.u + e.v - u)
    (hM : M u = some (eu, su)) (hn : M v = none) : Bfs F r (ord ++ [v]) (updS M v (e, su + e.w)) (updD D v (D u + 1)) := by
  have hvo : v ∉ ord := fun hc => (h.dom v).2 hc hn
  have huo : u ∈ ord := (h.dom u).1 (by rw [hM]; simp)
  have hur : u ≠ v := fun hc => hvo (hc ▸ huo)
  have hrv : v ≠ r := fun hc => by rw [hc, h.root] at hn; cases hn
  refine ⟨?_, ?_, ?_, ?_, ?_⟩
  · rw [List.nodup_append]
    exact ⟨h.nodup, by simp, fun a ha b hb => by simp at hb; subst hb; exact fun hc => hvo (hc ▸ ha)⟩
  · simp [updS, Ne.symm hrv, h.root]
  · intro x
    by_cases hx : x = v
    · subst hx; simp [updS]
    · simp [updS, hx, h.dom x]
  · intro x ex s hx hxr
    by_cases hxv : x = v
    · subst hxv
      simp only [updS, if_true, Option.some.injEq, Prod.mk.injEq] at hx
      obtain ⟨rfl, rfl⟩ := hx
      refine ⟨he, u, eu, su, by simp [updS, hur, hM], rfl, by simp [updD, hur], ?_⟩
      rcases hu with h1 | h1
      · left; exact ⟨h1, by omega⟩
      · right; exact ⟨by omega, h1⟩
    · simp only [updS, if_neg hxv] at hx
      obtain ⟨h1, p, ep, sp, h2, h3, h4, h5⟩ := h.par x ex s hx hxr
      have hpv : p ≠ v := fun hc => by rw [hc, hn] at h2; cases h2
      exact ⟨h1, p, ep, sp, by simp [updS, hpv, h2], h3, by simp [updD, hxv, hpv, h4], h5⟩
  · intro x hx
    rw [List.mem_append, List.mem_singleton] at hx
    simp only [List.length_append, List.length_cons, List.length_nil, updD]
    split
    · have := h.deep u huo; omega
    · rcases hx with hx | hx
      · have := h.deep x hx; omega
      · contradiction

/-- all is seen that is joined with the root -/
def Closed (F : List Edg) (ord : List Int) : Prop := ∀ x ∈ ord, ∀ e ∈ arnd F x, e.u + e.v - x ∈ ord

theorem Bfs.conn {F : List Edg} {r : Int} {ord : List Int} {M : Int → Option (Edg × Int)} {D : Int → Nat} (h : Bfs F r ord M D) : ∀ n v, D v ≤ n → v ∈ ord → Conn F r v := by
  intro n
  induction n with
  | zero =>
    intro v hD hv
    by_cases hr : v = r
    · subst hr; exact .refl _
    · obtain ⟨⟨e, s⟩, hx⟩ := Option.ne_none_iff_exists'.1 ((h.dom v).2 hv)
      obtain ⟨_, p, _, _, _, _, h4, _⟩ := h.par v e s hx hr
      omega
  | succ n ih =>
    intro v hD hv
    by_cases hr : v = r
    · subst hr; exact .refl _
    · obtain ⟨⟨e, s⟩, hx⟩ := Option.ne_none_iff_exists'.1 ((h.dom v).2 hv)
      obtain ⟨h1, p, ep, sp, h2, _, h4, h5⟩ := h.par v e s hx hr
      have hp := ih p (by omega) ((h.dom p).1 (by rw [h2]; simp))
      rcases h5 with ⟨h5, h6⟩ | ⟨h5, h6⟩
      · exact hp.trans (h5 ▸ h6 ▸ .edge h1)
      · exact hp.trans (h5 ▸ h6 ▸ (Conn.edge h1).symm)

theorem Closed.conn {F : List Edg} {ord : List Int} (hc : Closed F ord) {a b : Int} (h : Conn F a b) : a ∈ ord ↔ b ∈ ord := by
  induction h with
  | refl => exact Iff.rfl
  | symm _ ih => exact ih.symm
  | trans _ _ ih1 ih2 => exact ih1.trans ih2
  | @edge e he =>
    constructor
    · intro h
      have := hc _ h e (mem_arnd.2 ⟨he, .inl rfl⟩)
      rwa [show e.u + e.v - e.u = e.v by omega] at this
    · intro h
      have := hc _ h e (mem_arnd.2 ⟨he, .inr rfl⟩)
      rwa [show e.u + e.v - e.v = e.u by omega] at this

theorem Bfs.all {F : List Edg} {r : Int} {ord : List Int} {M : Int → Option (Edg × Int)} {D : Int → Nat} (h : Bfs F r ord M D) (hc : Closed F ord) (v : Int) : v ∈ ord ↔ Conn F r v := by
  have hr : r ∈ ord := (h.dom r).1 (by rw [h.root]; simp)
  exact ⟨fun hv => h.conn _ v (Nat.le_refl _) hv, fun hv => (hc.conn hv).1 hr⟩

theorem Bfs.sub {F : List Edg} {r : Int} {ord : List Int} {M : Int → Option (Edg × Int)} {D : Int → Nat} {V : List Int} (h : Bfs F r ord M D) (hr : r ∈ V) (hF : ∀ e ∈ F, okE V e) : ∀ v ∈ ord, v ∈ V := by
  intro v hv
  by_cases hvr : v = r
  · subst hvr; exact hr
  · obtain ⟨⟨e, s⟩, hx⟩ := Option.ne_none_iff_exists'.1 ((h.dom v).2 hv)
    obtain ⟨h1, _, _, _, _, _, _, h5⟩ := h.par v e s hx hvr
    obtain ⟨_, _, h6, h7⟩ := hF e h1
    rcases h5 with ⟨_, h5⟩ | ⟨h5, _⟩
    · exact h5 ▸ h7
    · exact h5 ▸ h6

theorem nodup_le : ∀ {l m : List Int}, l.Nodup → (∀ x ∈ l, x ∈ m) → l.length ≤ m.length
  | [], _, _, _ => Nat.zero_le _
  | a :: l, m, hn, hs => by
    rw [List.nodup_cons] at hn
    have ha : a ∈ m := hs a (by simp)
    have h1 := nodup_le (m := m.erase a) hn.2 fun x hx => by
      have hne : x ≠ a := fun e => hn.1 (e ▸ hx)
      exact (List.mem_erase_of_ne hne).2 (hs x (by simp [hx]))
    rw [List.length_erase_of_mem ha] at h1
    have : 0 < m.length := List.length_pos_of_mem ha
    simp only [List.length_cons]
    omega

theorem Bfs.sum {F : List Edg} {r : Int} {ord : List Int} {M : Int → Option (Edg × Int)} {D : Int → Nat} {V : List Int} (h : Bfs F r ord M D) (hF : ∀ e ∈ F, okE V e) : ∀ n v e s, D v ≤ n → M v = some (e, s) → 0 ≤ s ∧ s ≤ D v * 1099511627776 := by
  intro n
  induction n with
  | zero =>
    intro v e s hD hx
    by_cases hr : v = r
    · subst hr; rw [h.root] at hx; simp at hx; omega
    · obtain ⟨_, p, _, _, _, _, h4, _⟩ := h.par v e s hx hr
      omega
  | succ n ih =>
    intro v e s hD hx
    by_cases hr : v = r
    · subst hr; rw [h.root] at hx; simp at hx; omega
    · obtain ⟨h1, p, ep, sp, h2, h3, h4, _⟩ := h.par v e s hx hr
      obtain ⟨h5, h6⟩ := ih p ep sp (by omega) h2
      obtain ⟨h7, h8, _⟩ := hF e h1
      omega

end Go.Proofs.YthidhdffiebbgaaGreatDoor
