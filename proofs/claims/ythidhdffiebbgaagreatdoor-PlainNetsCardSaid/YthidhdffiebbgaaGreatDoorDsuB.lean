/- Plain law: what is joined by edges; forests of parents that tell it. -/
import Derived.Test.YthidhdffiebbgaaGreatDoorDsuA
import Derived.Test.YthidhdffiebbgaaGreatDoorSkB
namespace Go.Proofs.YthidhdffiebbgaaGreatDoor.Sk

/-- joined by edges of a list -/
inductive Conn (E : List Edg) : Int → Int → Prop
  | refl (a : Int) : Conn E a a
  | edge {e : Edg} : e ∈ E → Conn E e.u e.v
  | symm {a b : Int} : Conn E a b → Conn E b a
  | trans {a b c : Int} : Conn E a b → Conn E b c → Conn E a c

theorem Conn.mono {E F : List Edg} (h : ∀ e ∈ E, e ∈ F) : ∀ {a b : Int}, Conn E a b → Conn F a b
  | _, _, .refl a => .refl a
  | _, _, .edge he => .edge (h _ he)
  | _, _, .symm k => (k.mono h).symm
  | _, _, .trans k l => (k.mono h).trans (l.mono h)

theorem conn_nil {a b : Int} (h : Conn [] a b) : a = b := by
  induction h with
  | refl => rfl
  | edge he => cases he
  | symm _ ih => exact ih.symm
  | trans _ _ ih1 ih2 => exact ih1.trans ih2

/-- one edge more -/
theorem conn_snoc {E : List Edg} {e : Edg} {a b : Int} : Conn (E ++ [e]) a b ↔ Conn E a b ∨ (Conn E a e.u ∧ Conn E e.v b) ∨ (Conn E a e.v ∧ Conn E e.u b) := by
  constructor
  · intro h
    induction h with
    | refl a => exact .inl (.refl a)
    | @edge f hf =>
      rcases List.mem_append.1 hf with hf | hf
      · exact .inl (.edge hf)
      · rw [List.mem_singleton] at hf
        subst hf
        exact .inr (.inl ⟨.refl _, .refl _⟩)
    | symm _ ih =>
      rcases ih with h | ⟨h, k⟩ | ⟨h, k⟩
      · exact .inl h.symm
      · exact .inr (.inr ⟨k.symm, h.symm⟩)
      · exact .inr (.inl ⟨k.symm, h.symm⟩)
    | trans _ _ ih1 ih2 =>
      rcases ih1 with h | ⟨h, k⟩ | ⟨h, k⟩ <;> rcases ih2 with h' | ⟨h', k'⟩ | ⟨h', k'⟩
      · exact .inl (h.trans h')
      · exact .inr (.inl ⟨h.trans h', k'⟩)
      · exact .inr (.inr ⟨h.trans h', k'⟩)
      · exact .inr (.inl ⟨h, k.trans h'⟩)
      · exact .inr (.inl ⟨h, k'⟩)
      · exact .inl (h.trans k')
      · exact .inr (.inr ⟨h, k.trans h'⟩)
      · exact .inl (h.trans k')
      · exact .inr (.inr ⟨h, k'⟩)
  · have m : ∀ f ∈ E, f ∈ E ++ [e] := fun f hf => List.mem_append_left _ hf
    have c : Conn (E ++ [e]) e.u e.v := .edge (by simp)
    rintro (h | ⟨h, k⟩ | ⟨h, k⟩)
    · exact h.mono m
    · exact (h.mono m).trans (c.trans (k.mono m))
    · exact (h.mono m).trans (c.symm.trans (k.mono m))

/-- r is v's root -/
def Root (M : Int → Option Int) (v r : Int) : Prop := ∃ d, Rt M d v r
theorem Root.fn {M : Int → Option Int} {v r s : Int} (h : Root M v r) (k : Root M v s) : r = s := by
  obtain ⟨d, h⟩ := h
  obtain ⟨d', k⟩ := k
  exact (h.fn k).2

/-- The forest of parents M tells what the edges join; no way up is longer than k. -/
structure Dsu (M : Int → Option Int) (E : List Edg) (k : Nat) : Prop where
  tot : Tot M
  wf : Wf M
  deep : ∀ d v r, Rt M d v r → d ≤ k
  conn : ∀ u v r s, Root M u r → Root M v s → (r = s ↔ Conn E u v)

theorem Keeps.root {M N : Int → Option Int} (h : Keeps M N) {v r : Int} (hr : Root M v r) : Root N v r := by
  obtain ⟨d, hr⟩ := hr
  obtain ⟨d', _, h'⟩ := h _ _ _ hr
  exact ⟨d', h'⟩

theorem rt_empty {d : Nat} {v r : Int} (h : Rt (fun _ => none) d v r) : d = 0 ∧ r = v := by
  cases h with
  | here _ => exact ⟨rfl, rfl⟩
  | up h _ => cases h

theorem Dsu.empty : Dsu (fun _ => none) [] 0 where
  tot v := ⟨0, v, .here rfl⟩
  wf k u h := by cases h
  deep d v r h := by rw [(rt_empty h).1]; exact Nat.le_refl _
  conn u v r s h k := by
    obtain ⟨_, h⟩ := h
    obtain ⟨_, k⟩ := k
    rw [(rt_empty h).2, (rt_empty k).2]
    exact ⟨fun e => e ▸ .refl _, conn_nil⟩

theorem Dsu.keeps {M N : Int → Option Int} {E : List Edg} {k : Nat} (h : Dsu M E k) (hk : Keeps M N) (hw : Wf N) : Dsu N E k where
  tot := hk.tot h.tot
  wf := hw
  deep d v r hr := by
    obtain ⟨d0, r0, h0⟩ := h.tot v
    obtain ⟨d', hd, h'⟩ := hk _ _ _ h0
    obtain ⟨e1, _⟩ := hr.fn h'
    have := h.deep _ _ _ h0
    omega
  conn u v r s hr hs := by
    obtain ⟨d1, r1, h1⟩ := h.tot u
    obtain ⟨d2, r2, h2⟩ := h.tot v
    obtain ⟨d1', _, h1'⟩ := hk _ _ _ h1
    obtain ⟨d2', _, h2'⟩ := hk _ _ _ h2
    have e1 : r = r1 := hr.fn ⟨_, h1'⟩
    have e2 : s = r2 := hs.fn ⟨_, h2'⟩
    rw [e1, e2]
    exact h.conn u v r1 r2 ⟨_, h1⟩ ⟨_, h2⟩

theorem Rt.link_deep {M : Int → Option Int} {a b : Int} (ha : M a = none) (hb : M b = none) (hne : a ≠ b) : ∀ {d : Nat} {v r : Int}, Rt M d v r → ∃ d', d' ≤ d + 1 ∧ Rt (updI M a b) d' v (if r = a then b else r)
  | _, v, _, .here h => by
    by_cases hv : v = a
    · subst hv
      refine ⟨1, by omega, .up (u := b) (by simp [updI]) ?_⟩
      rw [if_pos rfl]
      exact .here (by simp [updI, Ne.symm hne, hb])
    · refine ⟨0, by omega, ?_⟩
      rw [if_neg hv]
      exact .here (by simp [updI, hv, h])
  | _, v, _, .up (u := u) h k => by
    obtain ⟨d', hd, hr⟩ := k.link_deep ha hb hne
    have hv : v ≠ a := fun e => by rw [e, ha] at h; cases h
    exact ⟨d' + 1, by omega, .up (by simp [updI, hv, h]) hr⟩

/-- 'join' at an edge. -/
theorem Dsu.join {M N : Int → Option Int} {E : List Edg} {k : Nat} {e : Edg} {r s : Int} (h : Dsu M E k) (hk : Keeps M N) (hw : Wf (if r = s then N else updI N r s)) (hr : Root M e.u r) (hs : Root M e.v s) :
    Dsu (if r = s then N else updI N r s) (E ++ [e]) (k + 1) := by
  have keepR : ∀ {v x : Int}, Root M v x → Root N v x := fun ⟨d, hx⟩ => by obtain ⟨d', _, h'⟩ := hk _ _ _ hx; exact ⟨d', h'⟩
  by_cases hrs : r = s
  · rw [if_pos hrs] at hw ⊢
    have hN := h.keeps hk hw
    refine ⟨hN.tot, hw, fun d v x hx => by have := hN.deep _ _ _ hx; omega, fun u v x y hx hy => ?_⟩
    have huv : Conn E e.u e.v := (h.conn _ _ _ _ hr hs).1 hrs
    rw [hN.conn u v x y hx hy, conn_snoc]
    constructor
    · exact .inl
    · rintro (c | ⟨c, d⟩ | ⟨c, d⟩)
      · exact c
      · exact c.trans (huv.trans d)
      · exact c.trans (huv.symm.trans d)
  · rw [if_neg hrs] at hw ⊢
    have hwN : Wf N := fun j u hj => by
      by_cases hj' : j = r
      · obtain ⟨d, hd⟩ := keepR hr
        have := hd.end
        rw [hj', this] at hj
        cases hj
      · exact hw j u (by simp [updI, hj', hj])
    have hN := h.keeps hk hwN
    obtain ⟨_, hr1⟩ := keepR hr
    obtain ⟨_, hs1⟩ := keepR hs
    have er := hr1.end
    have es := hs1.end
    have link : ∀ {v x : Int}, Root N v x → Root (updI N r s) v (if x = r then s else x) := fun ⟨d, hx⟩ => by obtain ⟨d', _, h'⟩ := hx.link_deep er es hrs; exact ⟨d', h'⟩
    refine ⟨fun v => ?_, hw, fun d v x hx => ?_, fun u v x y hx hy => ?_⟩
    · obtain ⟨d, x, hx⟩ := hN.tot v
      obtain ⟨d', hx'⟩ := link ⟨d, hx⟩
      exact ⟨d', _, hx'⟩
    · obtain ⟨d0, x0, h0⟩ := hN.tot v
      obtain ⟨d', hd, h'⟩ := h0.link_deep er es hrs
      obtain ⟨e1, _⟩ := hx.fn h'
      have := hN.deep _ _ _ h0
      omega
    · obtain ⟨_, x0, hx0⟩ := hN.tot u
      obtain ⟨_, y0, hy0⟩ := hN.tot v
      have ex := hx.fn (link ⟨_, hx0⟩)
      have ey := hy.fn (link ⟨_, hy0⟩)
      have hc := hN.conn
      have c1 := hc u v x0 y0 ⟨_, hx0⟩ ⟨_, hy0⟩
      have c2 := hc u e.u x0 r ⟨_, hx0⟩ (keepR hr)
      have c3 := hc e.v v s y0 (keepR hs) ⟨_, hy0⟩
      have c4 := hc u e.v x0 s ⟨_, hx0⟩ (keepR hs)
      have c5 := hc e.u v r y0 (keepR hr) ⟨_, hy0⟩
      rw [conn_snoc, ← c1, ← c2, ← c3, ← c4, ← c5, ex, ey]
      constructor
      · intro hxy
        split at hxy <;> split at hxy
        · exact .inl (by omega)
        · exact .inr (.inl ⟨by omega, by omega⟩)
        · exact .inr (.inr ⟨by omega, by omega⟩)
        · exact .inl hxy
      · rintro (q | ⟨q1, q2⟩ | ⟨q1, q2⟩)
        · rw [q]
        · rw [if_pos q1]; split <;> omega
        · rw [if_neg (by omega), if_pos q2.symm]; omega

/-- the same, as a test -/
noncomputable def connB (E : List Edg) (u v : Int) : Bool := @decide (Conn E u v) (Classical.propDecidable _)
theorem connB_iff {E : List Edg} {u v : Int} : connB E u v = true ↔ Conn E u v := by unfold connB; exact @decide_eq_true_iff _ (Classical.propDecidable _)
theorem Dsu.test {M : Int → Option Int} {E : List Edg} {k : Nat} (h : Dsu M E k) {u v r s : Int} (hr : Root M u r) (hs : Root M v s) : (r == s) = connB E u v := by
  rw [Bool.eq_iff_iff, beq_iff_eq, connB_iff]
  exact h.conn u v r s hr hs

end Go.Proofs.YthidhdffiebbgaaGreatDoor.Sk
