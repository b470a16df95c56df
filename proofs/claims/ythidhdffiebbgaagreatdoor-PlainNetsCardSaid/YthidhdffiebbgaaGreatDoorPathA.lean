/- The plain law of ways along edges; the forest joins what the edges join. No program. -/
import Derived.Test.YthidhdffiebbgaaGreatDoorBfsA
namespace Go.Proofs.YthidhdffiebbgaaGreatDoor
open Go.Proofs.YthidhdffiebbgaaGreatDoor.Sk

/-- a way along edges -/
def Trail (F : List Edg) : Int → List Edg → Int → Prop
  | a, [], b => a = b
  | a, e :: L, b => e ∈ F ∧ ((e.u = a ∧ Trail F e.v L b) ∨ (e.v = a ∧ Trail F e.u L b))

theorem Trail.append {F : List Edg} {b c : Int} {M : List Edg} : ∀ {L : List Edg} {a : Int}, Trail F a L b → Trail F b M c → Trail F a (L ++ M) c
  | [], _, h, k => by have h' : _ = _ := h; subst h'; exact k
  | _ :: _, _, ⟨h1, h2⟩, k => ⟨h1, h2.imp (fun ⟨x, y⟩ => ⟨x, Trail.append y k⟩) (fun ⟨x, y⟩ => ⟨x, Trail.append y k⟩)⟩

theorem Trail.one {F : List Edg} {e : Edg} {a b : Int} (he : e ∈ F) (h : e.u = a ∧ e.v = b ∨ e.v = a ∧ e.u = b) : Trail F a [e] b :=
  ⟨he, h⟩

theorem Trail.snoc {F : List Edg} {e : Edg} {L : List Edg} {a b c : Int} (h : Trail F a L b) (he : e ∈ F) (k : e.u = b ∧ e.v = c ∨ e.v = b ∧ e.u = c) : Trail F a (L ++ [e]) c :=
  h.append (Trail.one he k)

theorem Trail.back {F : List Edg} {b : Int} : ∀ {L : List Edg} {a : Int}, Trail F a L b → Trail F b L.reverse a
  | [], _, h => (show _ = _ from h).symm
  | e :: L, a, ⟨h1, h2⟩ => by
    rw [List.reverse_cons]
    rcases h2 with ⟨h2, h3⟩ | ⟨h2, h3⟩
    · exact h3.back.snoc h1 (.inr ⟨rfl, h2⟩)
    · exact h3.back.snoc h1 (.inl ⟨rfl, h2⟩)

theorem Trail.sub {F : List Edg} {b : Int} : ∀ {L : List Edg} {a : Int}, Trail F a L b → ∀ e ∈ L, e ∈ F
  | [], _, _ => by simp
  | x :: L, a, ⟨h1, h2⟩ => by
    intro e he
    rw [List.mem_cons] at he
    rcases he with rfl | he
    · exact h1
    · rcases h2 with ⟨_, h3⟩ | ⟨_, h3⟩
      · exact h3.sub e he
      · exact h3.sub e he

theorem Trail.conn {F : List Edg} {b : Int} : ∀ {L : List Edg} {a : Int}, Trail F a L b → Conn F a b
  | [], _, h => by have h' : _ = _ := h; subst h'; exact .refl _
  | e :: L, a, ⟨h1, h2⟩ => by
    rcases h2 with ⟨h2, h3⟩ | ⟨h2, h3⟩
    · subst h2; exact (Conn.edge h1).trans h3.conn
    · subst h2; exact (Conn.edge h1).symm.trans h3.conn

/-- the forest joins what the edges join -/
theorem kept_conn : ∀ (S : List Edg) (a b : Int), Conn (kept S) a b ↔ Conn S a b := by
  refine snocE_ind (by intro a b; rw [kept_nil]) ?_
  intro l x ih a b
  rw [kept_snoc]
  by_cases hx : Conn l x.u x.v
  · rw [if_pos (connB_iff.2 hx), ih, conn_snoc]
    constructor
    · exact .inl
    · rintro (h | ⟨h, k⟩ | ⟨h, k⟩)
      · exact h
      · exact h.trans (hx.trans k)
      · exact h.trans (hx.symm.trans k)
  · rw [if_neg (fun h => hx (connB_iff.1 h)), conn_snoc, conn_snoc]
    simp only [ih]

theorem conn_perm {E F : List Edg} (h : E.Perm F) (a b : Int) : Conn E a b ↔ Conn F a b :=
  ⟨Conn.mono fun _ he => h.mem_iff.1 he, Conn.mono fun _ he => h.mem_iff.2 he⟩

theorem forest_conn (E : List Edg) (a b : Int) : Conn (forestOf E) a b ↔ Conn E a b :=
  (kept_conn _ a b).trans (conn_perm (sortE_perm E) a b)

/-- what lies behind a way that was gone back along what was seen -/
structure Back (F : List Edg) (r : Int) (M : Int → Option (Edg × Int)) (D : Int → Nat) (v x : Int) (out : List Edg) : Prop where
  way : Trail F v out x
  deep : ∀ e ∈ out, ∃ y s, M y = some (e, s) ∧ y ≠ r ∧ D x < D y
  nodup : out.Nodup

theorem Back.start (F : List Edg) (r : Int) (M : Int → Option (Edg × Int)) (D : Int → Nat) (v : Int) : Back F r M D v v [] := ⟨rfl, by simp, by simp⟩

theorem Back.step {F : List Edg} {r : Int} {ord : List Int} {M : Int → Option (Edg × Int)} {D : Int → Nat} (hB : Bfs F r ord M D) {v x s : Int} {out : List Edg} {e : Edg} (h : Back F r M D v x out) (hx : M x = some (e, s)) (hr : x ≠ r) :
    Back F r M D v (e.u + e.v - x) (out ++ [e]) ∧ e.u + e.v - x ∈ ord ∧ D x = D (e.u + e.v - x) + 1 ∧ ∃ ep sp, M (e.u + e.v - x) = some (ep, sp) ∧ s = sp + e.w := by
  obtain ⟨h1, p, ep, sp, h2, h3, h4, h5⟩ := hB.par x e s hx hr
  have hp : e.u + e.v - x = p := by rcases h5 with ⟨a, b⟩ | ⟨a, b⟩ <;> omega
  rw [hp]
  refine ⟨⟨h.way.snoc h1 (by rcases h5 with ⟨a, b⟩ | ⟨a, b⟩; exact .inr ⟨b, a⟩; exact .inl ⟨a, b⟩), ?_, ?_⟩, (hB.dom p).1 (by rw [h2]; simp), h4, ep, sp, h2, h3⟩
  · intro f hf
    rw [List.mem_append, List.mem_singleton] at hf
    rcases hf with hf | rfl
    · obtain ⟨y, s', k1, k2, k3⟩ := h.deep f hf
      exact ⟨y, s', k1, k2, by omega⟩
    · exact ⟨x, s, hx, hr, by omega⟩
  · rw [List.nodup_append]
    refine ⟨h.nodup, by simp, fun a ha b hb => ?_⟩
    rw [List.mem_singleton] at hb
    subst hb
    rintro rfl
    obtain ⟨y, s', k1, k2, k3⟩ := h.deep a ha
    obtain ⟨_, p', _, _, _, _, k4, k5⟩ := hB.par y a s' k1 k2
    rcases h5 with ⟨a1, b1⟩ | ⟨a1, b1⟩ <;> rcases k5 with ⟨a2, b2⟩ | ⟨a2, b2⟩
    · have : x = y := by omega
      subst this; omega
    · have e1 : p = y := by omega
      have e2 : x = p' := by omega
      subst e1 e2; omega
    · have e1 : p = y := by omega
      have e2 : x = p' := by omega
      subst e1 e2; omega
    · have : x = y := by omega
      subst this; omega

theorem nodup_back {L : List Edg} (h : L.Nodup) : L.reverse.Nodup := by
  unfold List.Nodup at *
  rw [List.pairwise_reverse]
  exact h.imp fun h => Ne.symm h

theorem foldl_add (l : List Int) : ∀ a : Int, l.foldl (· + ·) a = a + l.foldl (· + ·) 0 := by
  induction l with
  | nil => intro a; simp
  | cons x l ih => intro a; rw [List.foldl_cons, List.foldl_cons, ih (a + x), ih (0 + x)]; omega
theorem sumW_cons (e : Edg) (L : List Edg) : sumW (e :: L) = e.w + sumW L := by
  unfold sumW
  rw [List.map_cons, List.foldl_cons, foldl_add]
  omega
theorem sumW_back (L : List Edg) : sumW L.reverse = sumW L := by
  induction L with
  | nil => rfl
  | cons e L ih => rw [List.reverse_cons, sumW_snoc, ih, sumW_cons]; omega

theorem Bfs.back {F : List Edg} {r : Int} {ord : List Int} {M : Int → Option (Edg × Int)} {D : Int → Nat} (hB : Bfs F r ord M D) {v : Int} : ∀ (n : Nat) (x : Int) (out : List Edg) (e : Edg) (s : Int), D x ≤ n → Back F r M D v x out → M x = some (e, s) →
    ∃ out2, Back F r M D v r out2 ∧ sumW out2 = sumW out + s := by
  intro n
  induction n with
  | zero =>
    intro x out e s hD h hx
    by_cases hr : x = r
    · subst hr
      rw [hB.root] at hx
      simp at hx
      exact ⟨out, h, by omega⟩
    · obtain ⟨_, _, h4, _⟩ := Back.step hB h hx hr
      omega
  | succ n ih =>
    intro x out e s hD h hx
    by_cases hr : x = r
    · subst hr
      rw [hB.root] at hx
      simp at hx
      exact ⟨out, h, by omega⟩
    · obtain ⟨h1, h2, h4, ep, sp, h5, h6⟩ := Back.step hB h hx hr
      obtain ⟨o2, k1, k2⟩ := ih _ _ ep sp (by omega) h1 h5
      exact ⟨o2, k1, by rw [k2, sumW_snoc, h6]; omega⟩

/-- what is told of a vertex that was seen: the way to it, and its length -/
theorem Bfs.told {F : List Edg} {r : Int} {ord : List Int} {M : Int → Option (Edg × Int)} {D : Int → Nat} (hB : Bfs F r ord M D) {v s : Int} {e : Edg} (hv : M v = some (e, s)) : ∃ L, Trail F r L v ∧ L.Nodup ∧ s = sumW L := by
  obtain ⟨o, h1, h2⟩ := hB.back (D v) v [] e s (Nat.le_refl _) (Back.start _ _ _ _ _) hv
  exact ⟨o.reverse, h1.way.back, nodup_back h1.nodup, by rw [sumW_back, h2, sumW_nil]; omega⟩

end Go.Proofs.YthidhdffiebbgaaGreatDoor
