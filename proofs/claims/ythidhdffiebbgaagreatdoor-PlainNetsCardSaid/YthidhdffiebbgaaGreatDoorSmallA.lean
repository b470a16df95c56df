/- The plain law of the small net: what each question to it answers. No program. -/
import Derived.Test.YthidhdffiebbgaaGreatDoorPlQ
import Derived.Test.YthidhdffiebbgaaGreatDoorPlF
namespace Go.Proofs.YthidhdffiebbgaaGreatDoor
open Go.Proofs.YthidhdffiebbgaaGreatDoor.Sk

def sV : List Int := [1, 2, 3, 4]
def s1 : Edg := ⟨1, 1, 2, 5⟩
def s2 : Edg := ⟨2, 2, 3, 4⟩
def s3 : Edg := ⟨3, 1, 3, 4⟩
def sE : List Edg := [s1, s2, s3]

theorem s_right : Right sV sE := by decide
theorem s_check : checkN sV sE = 0 := checkN_ok s_right

theorem s_sort : sortE sE = [s2, s3, s1] := by
  refine (order_one (E := sE) (S := [s2, s3, s1]) s_right.2.2.2.2.2 ?_ ?_).symm
  · decide
  · unfold InOrder
    decide

theorem nconn (E : List Edg) (p : Int → Prop) (h : ∀ e ∈ E, (p e.u ↔ p e.v)) {a b : Int} (k : Conn E a b) : p a ↔ p b := by
  induction k with
  | refl => exact Iff.rfl
  | edge he => exact h _ he
  | symm _ ih => exact ih.symm
  | trans _ _ ih1 ih2 => exact ih1.trans ih2

theorem s_forest : forestOf sE = [s2, s3] := by
  unfold forestOf
  rw [s_sort]
  rw [show [s2, s3, s1] = ([] ++ [s2] ++ [s3]) ++ [s1] from rfl, kept_snoc, kept_snoc, kept_snoc, kept_nil]
  have h1 : connB [] s2.u s2.v = false := by
    rw [Bool.eq_false_iff]
    intro h
    have := conn_nil (connB_iff.1 h)
    revert this
    decide
  have h2 : connB ([] ++ [s2]) s3.u s3.v = false := by
    rw [Bool.eq_false_iff]
    intro h
    have := nconn _ (fun x => x = 1) (by simp [s2]) (connB_iff.1 h)
    revert this
    simp [s3]
  have h3 : connB ([] ++ [s2] ++ [s3]) s1.u s1.v = true := by
    refine connB_iff.2 ?_
    have a : Conn ([] ++ [s2] ++ [s3]) 1 3 := .edge (e := s3) (by simp)
    have b : Conn ([] ++ [s2] ++ [s3]) 2 3 := .edge (e := s2) (by simp)
    exact a.trans b.symm
  rw [h1, h2, h3]
  simp

theorem s_ids : forestIds sV sE = [2, 3] := by
  unfold forestIds
  rw [if_pos s_right, s_forest]
  exact List.mergeSort_of_pairwise (by decide)

theorem s_weight : weightA sV sE = (8, 0) := by
  unfold weightA
  rw [if_pos s_right, s_forest]
  decide

theorem s_13 : Conn sE 1 3 := .edge (e := s3) (by decide)
theorem s_12 : Conn sE 1 2 := .edge (e := s1) (by decide)
theorem s_not4 {a : Int} (ha : a ≠ 4) : ¬ Conn sE a 4 := fun h => by
  have := nconn _ (fun x => x = 4) (by decide) h
  simp at this
  exact ha this

theorem s_way {L : List Edg} (h : Trail [s2, s3] 1 L 2) (hn : L.Nodup) : L = [s3, s2] := by
  match L, h with
  | [], h => exact absurd (show (1 : Int) = 2 from h) (by decide)
  | e :: L, ⟨he, h⟩ =>
    simp only [List.mem_cons, List.mem_nil_iff, or_false] at he
    rcases he with rfl | rfl
    · rcases h with ⟨h, _⟩ | ⟨h, _⟩
      · exact absurd h (by decide)
      · exact absurd h (by decide)
    · rcases h with ⟨_, h⟩ | ⟨h, _⟩
      · match L, h with
        | [], h => exact absurd (show (3 : Int) = 2 from h) (by decide)
        | e2 :: L2, ⟨he, h⟩ =>
          simp only [List.mem_cons, List.mem_nil_iff, or_false] at he
          rcases he with rfl | rfl
          · rcases h with ⟨h, _⟩ | ⟨_, h⟩
            · exact absurd h (by decide)
            · match L2, h with
              | [], _ => rfl
              | e3 :: L3, ⟨he, _⟩ =>
                simp only [List.mem_cons, List.mem_nil_iff, or_false] at he
                rcases he with rfl | rfl <;> simp at hn
          · simp at hn
      · exact absurd h (by decide)

theorem s_check12 : checkA sV sE [1, 2] = 0 := checkA_ok s_right (by decide)
theorem s_check14 : checkA sV sE [1, 4] = 0 := checkA_ok s_right (by decide)
theorem s_check13 : checkA sV sE [1, 3] = 0 := checkA_ok s_right (by decide)
theorem s_check1 : checkA sV sE [1] = 0 := checkA_ok s_right (by decide)

theorem s_path12 {L : List Edg} {c : Int} (h : PathA sV sE 1 2 L c) : L = [s3, s2] ∧ c = 0 := by
  obtain ⟨h1, h2, h3⟩ := (h.1 s_check12).1 s_12
  rw [s_forest] at h2
  exact ⟨s_way h2 h3, h1⟩
theorem s_path14 {L : List Edg} {c : Int} (h : PathA sV sE 1 4 L c) : L = [] ∧ c = 61 := by
  obtain ⟨h1, h2⟩ := (h.1 s_check14).2 (s_not4 (by decide))
  exact ⟨h2, h1⟩

theorem s_along12 : alongA [s3, s2] 0 = (cells5 s3 4620693217682128896 4611686018427387904, 0) := by
  unfold alongA
  rw [if_neg (by simp), if_neg (by decide)]
  kernel_rfl
theorem s_along14 : alongA [] 61 = (cells5 zE 0 0, 61) := by
  unfold alongA
  rw [if_pos (by simp)]

theorem s_joined : joinedB sV sE 1 3 = true := by
  unfold joinedB
  rw [if_pos s_check13]
  exact connB_iff.2 s_13

theorem s_trees : (treesOf sE sV).length = 2 := by
  rw [treesOf_length]
  have h : firsts sE ([] ++ [1] ++ [2] ++ [3] ++ [4]) = [1, 4] := by
    have e1 : firsts sE ([] ++ [1]) = [1] := by rw [firsts_snoc, firsts_nil]; rfl
    have e2 : firsts sE ([] ++ [1] ++ [2]) = [1] := by
      rw [firsts_snoc, e1, if_pos]
      simp [connB_iff.2 s_12]
    have e3 : firsts sE ([] ++ [1] ++ [2] ++ [3]) = [1] := by
      rw [firsts_snoc, e2, if_pos]
      simp [connB_iff.2 s_13]
    rw [firsts_snoc, e3, if_neg]
    · rfl
    · simp only [List.any_cons, List.any_nil, Bool.or_false]
      exact fun h => s_not4 (by decide) (connB_iff.1 h)
  rw [show sV = [] ++ [1] ++ [2] ++ [3] ++ [4] from rfl, h]
  rfl

/-- no way without a turning back is longer than 8 -/
theorem s_le {L : List Edg} (hs : ∀ e ∈ L, e ∈ [s2, s3]) (hn : L.Nodup) : sumW L ≤ 8 ∧ (sumW L = 8 → L.length = 2) := by
  have hw : ∀ (M : List Edg), (∀ e ∈ M, e ∈ [s2, s3]) → sumW M = 4 * M.length := by
    intro M
    induction M with
    | nil => intro _; rfl
    | cons e M ih =>
      intro h
      rw [sumW_cons, ih fun x hx => h x (by simp [hx])]
      have := h e (by simp)
      simp only [List.mem_cons, List.mem_nil_iff, or_false] at this
      rcases this with rfl | rfl <;> simp [s2, s3] <;> omega
  have hl : L.length ≤ 2 := List.Nodup.length_le_of_subset hn (l₂ := [s2, s3]) fun x hx => hs x hx
  rw [hw L hs]
  omega

theorem s_two {L : List Edg} {x : Int} (h : Trail [s2, s3] 1 L x) (hn : L.Nodup) (hl : L.length = 2) : x = 2 := by
  match L, h, hl with
  | [a, b], ⟨ha, h⟩, _ =>
    simp only [List.mem_cons, List.mem_nil_iff, or_false] at ha
    rcases ha with rfl | rfl
    · rcases h with ⟨h, _⟩ | ⟨h, _⟩
      · exact absurd h (by decide)
      · exact absurd h (by decide)
    · rcases h with ⟨_, hb, h⟩ | ⟨h, _⟩
      · simp only [List.mem_cons, List.mem_nil_iff, or_false] at hb
        rcases hb with rfl | rfl
        · rcases h with ⟨h, _⟩ | ⟨_, h⟩
          · exact absurd h (by decide)
          · exact (show (2 : Int) = x from h).symm
        · simp at hn
      · exact absurd h (by decide)

theorem s_span {s c : Int} (h : SpanA sV sE 1 s c) : s = 8 ∧ c = 0 := by
  obtain ⟨x, o1, M1, D1, y, o2, M2, D2, t1, t2, b1, c1, hx, ⟨f1, hm1⟩, hmax1, b2, c2, hy, ⟨f2, hm2⟩, hmax2, rfl, rfl⟩ := h.1 s_check1
  rw [s_forest] at b1 c1 b2 c2
  have hF : ∀ a b, Conn [s2, s3] a b ↔ Conn sE a b := fun a b => by rw [← s_forest]; exact forest_conn sE a b
  -- the first way
  have h2 : (2 : Int) ∈ o1 := (b1.all c1 2).2 ((hF 1 2).2 s_12)
  obtain ⟨⟨g, t⟩, hg⟩ := Option.ne_none_iff_exists'.1 ((b1.dom 2).2 h2)
  obtain ⟨L, k1, k2, k3⟩ := b1.told hg
  rw [s_way k1 k2] at k3
  have ht : t = 8 := by rw [k3]; decide
  have hge := hmax1 2 h2 g t hg
  obtain ⟨L1, p1, p2, p3⟩ := b1.told hm1
  have hle := s_le p1.sub p2
  rw [← p3] at hle
  have hx2 : x = 2 := s_two p1 p2 (hle.2 (by omega))
  subst hx2
  -- and back
  have h1 : (1 : Int) ∈ o2 := (b2.all c2 1).2 ((hF 2 1).2 s_12.symm)
  obtain ⟨⟨g', t'⟩, hg'⟩ := Option.ne_none_iff_exists'.1 ((b2.dom 1).2 h1)
  obtain ⟨L', q1, q2, q3⟩ := b2.told hg'
  have hL' := s_way q1.back (nodup_back q2)
  have : sumW L' = 8 := by rw [← sumW_back, hL']; decide
  have hge2 := hmax2 1 h1 g' t' hg'
  obtain ⟨L2, r1, r2, r3⟩ := b2.told hm2
  have hle2 := (s_le r1.sub r2).1
  rw [← r3] at hle2
  have ht2 : t2 = 8 := by omega
  subst ht2
  exact ⟨by decide, by decide⟩

end Go.Proofs.YthidhdffiebbgaaGreatDoor
