/- Plain law: forests of parent pointers (the maps of package plain's 'sets'). -/
import Derived.Test.YthidhdffiebbgaaGreatDoorSkA
namespace Go.Proofs.YthidhdffiebbgaaGreatDoor.Sk

/-- d steps up from v lead to r, which has no parent. -/
inductive Rt (M : Int → Option Int) : Nat → Int → Int → Prop
  | here {v : Int} : M v = none → Rt M 0 v v
  | up {d : Nat} {v u r : Int} : M v = some u → Rt M d u r → Rt M (d + 1) v r

def updI (M : Int → Option Int) (k v : Int) : Int → Option Int := fun j => if j = k then some v else M j

theorem Rt.fn {M : Int → Option Int} : ∀ {d : Nat} {v r : Int}, Rt M d v r → ∀ {d' : Nat} {r' : Int}, Rt M d' v r' → d = d' ∧ r = r'
  | _, _, _, .here _, _, _, .here _ => ⟨rfl, rfl⟩
  | _, _, _, .here h, _, _, .up h' _ => by rw [h] at h'; cases h'
  | _, _, _, .up h _, _, _, .here h' => by rw [h] at h'; cases h'
  | _, _, _, .up h k, _, _, .up h' k' => by
    rw [h] at h'
    cases h'
    obtain ⟨h1, h2⟩ := k.fn k'
    exact ⟨by omega, h2⟩

theorem Rt.end {M : Int → Option Int} : ∀ {d : Nat} {v r : Int}, Rt M d v r → M r = none
  | _, _, _, .here h => h
  | _, _, _, .up _ k => k.end

/-- M' has the roots of M. -/
def Keeps (M N : Int → Option Int) : Prop := ∀ d v r, Rt M d v r → ∃ d', d' ≤ d ∧ Rt N d' v r
/-- every number has a root -/
def Tot (M : Int → Option Int) : Prop := ∀ v, ∃ d r, Rt M d v r

theorem Keeps.refl (M : Int → Option Int) : Keeps M M := fun d v r h => ⟨d, Nat.le_refl _, h⟩
theorem Keeps.trans {A B C : Int → Option Int} (h : Keeps A B) (k : Keeps B C) : Keeps A C := fun d v r hr => by
  obtain ⟨d1, h1, r1⟩ := h d v r hr
  obtain ⟨d2, h2, r2⟩ := k d1 v r r1
  exact ⟨d2, by omega, r2⟩
theorem Keeps.tot {A B : Int → Option Int} (h : Keeps A B) (t : Tot A) : Tot B := fun v => by
  obtain ⟨d, r, hr⟩ := t v
  obtain ⟨d', _, hr'⟩ := h d v r hr
  exact ⟨d', r, hr'⟩

/-- the shortcut past one parent keeps all roots -/
theorem Keeps.skip {M : Int → Option Int} {v u x : Int} (h1 : M v = some u) (h2 : M u = some x) : Keeps M (updI M v x) := by
  intro d
  induction d using Nat.strongRecOn with
  | _ d ih =>
    intro y r hr
    cases hr with
    | here h =>
      refine ⟨0, Nat.le_refl _, .here ?_⟩
      have : y ≠ v := fun e => by rw [e, h1] at h; cases h
      simp [updI, this, h]
    | @up d0 _ u0 _ h k =>
      by_cases hy : y = v
      · subst hy
        rw [h1] at h
        cases h
        cases k with
        | here h' => rw [h2] at h'; cases h'
        | @up d1 _ u1 _ h' k' =>
          rw [h2] at h'
          cases h'
          obtain ⟨d', hd, hr'⟩ := ih d1 (by omega) _ _ k'
          exact ⟨d' + 1, by omega, .up (by simp [updI]) hr'⟩
      · obtain ⟨d', hd, hr'⟩ := ih d0 (by omega) _ _ k
        exact ⟨d' + 1, by omega, .up (by simp [updI, hy, h]) hr'⟩

/-- two roots made one -/
theorem Rt.link {M : Int → Option Int} {a b : Int} (ha : M a = none) (hb : M b = none) (hne : a ≠ b) : ∀ {d : Nat} {v r : Int}, Rt M d v r → ∃ d', Rt (updI M a b) d' v (if r = a then b else r)
  | _, v, _, .here h => by
    by_cases hv : v = a
    · subst hv
      refine ⟨1, .up (u := b) (by simp [updI]) ?_⟩
      rw [if_pos rfl]
      exact .here (by simp [updI, Ne.symm hne, hb])
    · refine ⟨0, ?_⟩
      rw [if_neg hv]
      exact .here (by simp [updI, hv, h])
  | _, v, _, .up (u := u) h k => by
    obtain ⟨d', hr⟩ := k.link ha hb hne
    have hv : v ≠ a := fun e => by rw [e, ha] at h; cases h
    exact ⟨d' + 1, .up (by simp [updI, hv, h]) hr⟩

def encM (M : Int → Option Int) : Int → Option Value := fun k => (M k).map (Value.int .i64)
theorem encM_upd (M : Int → Option Int) (k v : Int) : upd (encM M) k (.int .i64 v) = encM (updI M k v) := by
  funext j
  simp only [upd, encM, updI]
  split <;> simp

theorem encM_none : encM (fun _ => none) = fun _ => none := rfl

/-- all parents are ids -/
def Wf (M : Int → Option Int) : Prop := ∀ k u, M k = some u → wf64 u
theorem Wf.upd {M : Int → Option Int} (h : Wf M) {k v : Int} (hv : wf64 v) : Wf (updI M k v) := by
  intro j u hj
  simp only [updI] at hj
  split at hj
  · cases hj; exact hv
  · exact h j u hj
theorem Rt.wf {M : Int → Option Int} (hM : Wf M) : ∀ {d : Nat} {v r : Int}, Rt M d v r → wf64 v → wf64 r
  | _, _, _, .here _, h => h
  | _, _, _, .up h k, _ => k.wf hM (hM _ _ h)

end Go.Proofs.YthidhdffiebbgaaGreatDoor.Sk
