/- The plain law of forests: no way round; two vertices have at most one way between them. No program. -/
import Derived.Test.YthidhdffiebbgaaGreatDoorPathA
namespace Go.Proofs.YthidhdffiebbgaaGreatDoor
open Go.Proofs.YthidhdffiebbgaaGreatDoor.Sk

/-- edges without a way round -/
inductive Acyc : List Edg → Prop
  | nil : Acyc []
  | snoc {F : List Edg} {e : Edg} : Acyc F → ¬ Conn F e.u e.v → Acyc (F ++ [e])

theorem kept_acyc : ∀ S, Acyc (kept S) := by
  refine snocE_ind (by rw [kept_nil]; exact .nil) ?_
  intro l x ih
  rw [kept_snoc]
  by_cases hx : Conn l x.u x.v
  · rw [if_pos (connB_iff.2 hx)]; exact ih
  · rw [if_neg (fun h => hx (connB_iff.1 h))]
    exact .snoc ih fun h => hx ((kept_conn l _ _).1 h)
theorem forest_acyc (E : List Edg) : Acyc (forestOf E) := kept_acyc _

theorem Trail.split {F : List Edg} {b : Int} {M : List Edg} : ∀ {L : List Edg} {a : Int}, Trail F a (L ++ M) b → ∃ c, Trail F a L c ∧ Trail F c M b
  | [], a, h => ⟨a, rfl, h⟩
  | e :: L, a, ⟨h1, h2⟩ => by
    rcases h2 with ⟨h2, h3⟩ | ⟨h2, h3⟩
    · obtain ⟨c, k1, k2⟩ := Trail.split (L := L) h3
      exact ⟨c, ⟨h1, .inl ⟨h2, k1⟩⟩, k2⟩
    · obtain ⟨c, k1, k2⟩ := Trail.split (L := L) h3
      exact ⟨c, ⟨h1, .inr ⟨h2, k1⟩⟩, k2⟩

theorem Trail.drop {F : List Edg} {e : Edg} {b : Int} : ∀ {L : List Edg} {a : Int}, Trail (F ++ [e]) a L b → e ∉ L → Trail F a L b
  | [], _, h, _ => h
  | x :: L, a, ⟨h1, h2⟩, hn => by
    have hx : x ≠ e := fun h => hn (by simp [h])
    have h1' : x ∈ F := by
      rw [List.mem_append, List.mem_singleton] at h1
      exact h1.resolve_right hx
    have hn' : e ∉ L := fun h => hn (by simp [h])
    exact ⟨h1', h2.imp (fun ⟨p, q⟩ => ⟨p, Trail.drop q hn'⟩) (fun ⟨p, q⟩ => ⟨p, Trail.drop q hn'⟩)⟩

/-- a way that uses the last edge uses it once -/
theorem Trail.through {F : List Edg} {e : Edg} {a b : Int} {L : List Edg} (h : Trail (F ++ [e]) a L b) (hn : L.Nodup) (he : e ∈ L) :
    ∃ L1 L2, L = L1 ++ e :: L2 ∧ L1.Nodup ∧ L2.Nodup ∧ ((Trail F a L1 e.u ∧ Trail F e.v L2 b) ∨ (Trail F a L1 e.v ∧ Trail F e.u L2 b)) := by
  obtain ⟨L1, L2, rfl⟩ := List.append_of_mem he
  rw [List.nodup_append] at hn
  obtain ⟨n1, n2, n3⟩ := hn
  rw [List.nodup_cons] at n2
  have e1 : e ∉ L1 := fun h => n3 e h e (by simp) rfl
  obtain ⟨c, k1, k2⟩ := h.split
  refine ⟨L1, L2, rfl, n1, n2.2, ?_⟩
  obtain ⟨_, k3⟩ := k2
  rcases k3 with ⟨k3, k4⟩ | ⟨k3, k4⟩
  · subst k3; exact .inl ⟨k1.drop e1, k4.drop n2.1⟩
  · subst k3; exact .inr ⟨k1.drop e1, k4.drop n2.1⟩

/-- two vertices have at most one way without a turning back -/
theorem trail_one {F : List Edg} (hF : Acyc F) : ∀ {a b : Int} {L M : List Edg}, Trail F a L b → L.Nodup → Trail F a M b → M.Nodup → L = M := by
  induction hF with
  | nil =>
    intro a b L M h _ k _
    cases L with
    | cons x L => exact absurd h.1 (by simp)
    | nil =>
      cases M with
      | cons x M => exact absurd k.1 (by simp)
      | nil => rfl
  | @snoc F e _ hne ih =>
    intro a b L M h hn k kn
    by_cases hL : e ∈ L
    · obtain ⟨L1, L2, rfl, p1, p2, p3⟩ := h.through hn hL
      by_cases hM : e ∈ M
      · obtain ⟨M1, M2, rfl, q1, q2, q3⟩ := k.through kn hM
        rcases p3 with ⟨x1, x2⟩ | ⟨x1, x2⟩ <;> rcases q3 with ⟨y1, y2⟩ | ⟨y1, y2⟩
        · rw [ih x1 p1 y1 q1, ih x2 p2 y2 q2]
        · exact absurd (x1.conn.symm.trans y1.conn) hne
        · exact absurd (y1.conn.symm.trans x1.conn) hne
        · rw [ih x1 p1 y1 q1, ih x2 p2 y2 q2]
      · exfalso
        have km := (k.drop hM).conn
        rcases p3 with ⟨x1, x2⟩ | ⟨x1, x2⟩
        · exact hne (x1.conn.symm.trans (km.trans x2.conn.symm))
        · exact hne (x2.conn.trans (km.symm.trans x1.conn))
    · by_cases hM : e ∈ M
      · exfalso
        obtain ⟨M1, M2, rfl, q1, q2, q3⟩ := k.through kn hM
        have km := (h.drop hL).conn
        rcases q3 with ⟨x1, x2⟩ | ⟨x1, x2⟩
        · exact hne (x1.conn.symm.trans (km.trans x2.conn.symm))
        · exact hne (x2.conn.trans (km.symm.trans x1.conn))
      · exact ih (h.drop hL) hn (k.drop hM) kn

end Go.Proofs.YthidhdffiebbgaaGreatDoor
