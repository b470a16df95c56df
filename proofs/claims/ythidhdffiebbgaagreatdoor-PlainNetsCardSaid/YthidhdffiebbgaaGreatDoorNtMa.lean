/- The reference's numbers of sets: what relabelling keeps; its lists of joined vertices; its order of edges. No program.
   The reference's way along tree edges: forward while an edge is left, else back. No program.
   The law of the reference's distances: out from the root, as long as an edge tells more. No program. -/
import Derived.Test.YthidhdffiebbgaaGreatDoorForestC
import Derived.Test.YthidhdffiebbgaaGreatDoorSpanB
namespace Go.Proofs.YthidhdffiebbgaaGreatDoor
open Go.Proofs.YthidhdffiebbgaaGreatDoor.Sk

/-- each place bears the number of its set -/
structure Lab (V : List Int) (E : List Edg) (S : List Int) : Prop where
  len : S.length = V.length
  same : ∀ (i j : Nat) (x y : Int), V[i]? = some x → V[j]? = some y → (S[i]? = S[j]? ↔ Conn E x y)
  rng : ∀ x ∈ S, 0 ≤ x ∧ x < V.length

def nums (n : Nat) : List Int := (List.range n).map Int.ofNat
theorem nums_succ (n : Nat) : nums (n + 1) = nums n ++ [(n : Int)] := by simp [nums, List.range_succ]
theorem nums_len (n : Nat) : (nums n).length = n := by simp [nums]
theorem nums_get {n i : Nat} (h : i < n) : (nums n)[i]? = some (i : Int) := by simp [nums, h]

theorem Lab.start {V : List Int} (hV : V.Nodup) : Lab V [] (nums V.length) where
  len := nums_len _
  same i j x y hx hy := by
    obtain ⟨hi, hi2⟩ := List.getElem?_eq_some_iff.1 hx
    obtain ⟨hj, hj2⟩ := List.getElem?_eq_some_iff.1 hy
    rw [nums_get hi, nums_get hj]
    constructor
    · intro h
      have hij : (i : Int) = j := by simpa using h
      have : i = j := by omega
      subst this
      rw [hx] at hy
      cases hy
      exact .refl _
    · intro h
      have := conn_nil h
      subst this
      have hij : i = j := by
        refine Classical.byContradiction fun hne => ?_
        rw [List.Nodup, List.pairwise_iff_getElem] at hV
        rcases Nat.lt_or_gt_of_ne hne with h | h
        · exact hV i j hi hj h (hi2.trans hj2.symm)
        · exact hV j i hj hi h (hj2.trans hi2.symm)
      rw [hij]
  rng x hx := by
    simp only [nums, List.mem_map, List.mem_range] at hx
    obtain ⟨i, hi, rfl⟩ := hx
    exact ⟨Int.natCast_nonneg _, by simpa using hi⟩

/-- b's places get a -/
def relab (S : List Int) (a b : Int) : List Int := S.map fun x => if x = b then a else x
theorem relab_len (S : List Int) (a b : Int) : (relab S a b).length = S.length := by simp [relab]
theorem relab_self (S : List Int) (a : Int) : relab S a a = S := by
  unfold relab
  have : ∀ x ∈ S, (fun x => if x = a then a else x) x = x := fun x _ => by
    dsimp only
    split
    · exact Eq.symm (by assumption)
    · rfl
  exact (List.map_congr_left this).trans (by simp)
theorem relab_get (S : List Int) (a b : Int) (i : Nat) : (relab S a b)[i]? = (S[i]?).map fun x => if x = b then a else x := by simp [relab]

theorem relab_one (p q a b : Int) : ((if p = b then a else p) = (if q = b then a else q)) ↔ (p = q ∨ (p = a ∧ q = b) ∨ (p = b ∧ q = a)) := by
  split <;> split <;> omega

theorem Lab.join {V : List Int} {E : List Edg} {S : List Int} {e : Edg} {iu iv : Nat} {a b : Int} (h : Lab V E S) (hu : V[iu]? = some e.u) (hv : V[iv]? = some e.v)
    (hab : S[iu]? = some a ∧ S[iv]? = some b ∨ S[iu]? = some b ∧ S[iv]? = some a) : Lab V (E ++ [e]) (relab S a b) where
  len := by rw [relab_len, h.len]
  same i j x y hx hy := by
    have hi : i < S.length := by rw [h.len]; exact (List.getElem?_eq_some_iff.1 hx).1
    have hj : j < S.length := by rw [h.len]; exact (List.getElem?_eq_some_iff.1 hy).1
    obtain ⟨p, hp⟩ : ∃ p, S[i]? = some p := ⟨_, List.getElem?_eq_getElem hi⟩
    obtain ⟨q, hq⟩ : ∃ q, S[j]? = some q := ⟨_, List.getElem?_eq_getElem hj⟩
    have h0 := h.same i j x y hx hy
    have h1 := h.same i iu x e.u hx hu
    have h2 := h.same i iv x e.v hx hv
    have h3 := h.same j iu y e.u hy hu
    have h4 := h.same j iv y e.v hy hv
    rw [relab_get, relab_get, conn_snoc, hp, hq]
    rw [hp] at h0 h1 h2
    rw [hq] at h0 h3 h4
    simp only [Option.map_some, Option.some.injEq] at h0 ⊢
    have k3 : Conn E e.u y ↔ Conn E y e.u := ⟨.symm, .symm⟩
    have k4 : Conn E e.v y ↔ Conn E y e.v := ⟨.symm, .symm⟩
    rw [k3, k4, ← h0, ← h1, ← h2, ← h3, ← h4]
    rw [relab_one]
    rcases hab with ⟨ha, hb⟩ | ⟨ha, hb⟩
    · rw [ha, hb]
      simp only [Option.some.injEq]
    · rw [ha, hb]
      simp only [Option.some.injEq]
      exact or_congr Iff.rfl Or.comm
  rng x hx := by
    have ha : a ∈ S := by
      rcases hab with ⟨ha, _⟩ | ⟨_, ha⟩ <;> exact List.mem_of_getElem? ha
    unfold relab at hx
    obtain ⟨y, hy, rfl⟩ := List.mem_map.1 hx
    split
    · exact h.rng a ha
    · exact h.rng y hy

/-- a set's number is its first place -/
def Low (S : List Int) : Prop := ∀ (i : Nat) (x : Int), S[i]? = some x → 0 ≤ x ∧ x ≤ i ∧ S[x.toNat]? = some x

theorem Low.start (n : Nat) : Low (nums n) := by
  intro i x hx
  have hi : i < n := by have := (List.getElem?_eq_some_iff.1 hx).1; rwa [nums_len] at this
  rw [nums_get hi] at hx
  cases hx
  exact ⟨by omega, by omega, by rw [Int.toNat_natCast]; exact nums_get hi⟩

theorem Low.join {S : List Int} {a b : Int} {ia ib : Nat} (h : Low S) (ha : S[ia]? = some a) (hb : S[ib]? = some b) (hab : a ≤ b) : Low (relab S a b) := by
  intro i x hx
  rw [relab_get] at hx
  obtain ⟨y, hy, hyx⟩ := Option.map_eq_some_iff.1 hx
  obtain ⟨a0, a1, a2⟩ := h ia a ha
  obtain ⟨y0, y1, y2⟩ := h i y hy
  obtain ⟨b0, b1, b2⟩ := h ib b hb
  by_cases e : y = b
  · rw [if_pos e] at hyx
    subst hyx
    refine ⟨a0, by omega, ?_⟩
    rw [relab_get, a2]
    simp
  · rw [if_neg e] at hyx
    subst hyx
    refine ⟨y0, y1, ?_⟩
    rw [relab_get, y2]
    simp [e]

/-- a place bears its own number just if no earlier one is joined with it -/
theorem low_own {V : List Int} {E : List Edg} {S : List Int} (h : Lab V E S) (hl : Low S) {i : Nat} {x : Int} (hx : V[i]? = some x) : S[i]? = some (i : Int) ↔ ¬ (firsts E (V.take i)).any (fun y => connB E y x) = true := by
  have hi : i < V.length := (List.getElem?_eq_some_iff.1 hx).1
  obtain ⟨p, hp⟩ : ∃ p, S[i]? = some p := ⟨_, List.getElem?_eq_getElem (by rw [h.len]; exact hi)⟩
  obtain ⟨p0, p1, p2⟩ := hl i p hp
  constructor
  · intro hs hany
    rw [List.any_eq_true] at hany
    obtain ⟨f, hf, hc⟩ := hany
    have hfV := firsts_sub E _ f hf
    obtain ⟨j, hj, hjf⟩ := List.getElem_of_mem hfV
    have hji : j < i := by rw [List.length_take] at hj; omega
    have hVj : V[j]? = some f := by
      rw [← hjf, List.getElem_take]
      exact List.getElem?_eq_getElem _
    have := (h.same j i f x hVj hx).2 (connB_iff.1 hc)
    rw [hs] at this
    have := (hl j _ this).2.1
    omega
  · intro hno
    refine Classical.byContradiction fun hne => hno ?_
    rw [hp] at hne
    have hlt : p.toNat < i := by
      have : p ≠ (i : Int) := fun e => hne (by rw [e])
      omega
    obtain ⟨f0, hf0⟩ : ∃ y, V[p.toNat]? = some y := ⟨_, List.getElem?_eq_getElem (by omega)⟩
    have hc := (h.same p.toNat i f0 x hf0 hx).1 (by rw [p2, hp])
    have hm : f0 ∈ V.take i := by
      rw [List.mem_take_iff_getElem]
      obtain ⟨q1, q2⟩ := List.getElem?_eq_some_iff.1 hf0
      exact ⟨p.toNat, by omega, q2⟩
    obtain ⟨f, hf, hcf⟩ := firsts_cover E _ f0 hm
    rw [List.any_eq_true]
    exact ⟨f, hf, connB_iff.2 (hcf.trans hc)⟩

/-- the lists that are told so far -/
noncomputable def treesTo (V : List Int) (E : List Edg) (i : Nat) : List (List Int) := (firsts E (V.take i)).map fun f => V.filter (connB E f)
theorem treesTo_all (V : List Int) (E : List Edg) : treesTo V E V.length = treesOf E V := by unfold treesTo treesOf; rw [List.take_length]
theorem treesTo_own {V : List Int} {E : List Edg} {S : List Int} (h : Lab V E S) (hl : Low S) {i : Nat} {x : Int} (hx : V[i]? = some x) (hs : S[i]? = some (i : Int)) : treesTo V E (i + 1) = treesTo V E i ++ [V.filter (connB E x)] := by
  obtain ⟨hi, hi2⟩ := List.getElem?_eq_some_iff.1 hx
  unfold treesTo
  rw [List.take_succ_eq_append_getElem hi, firsts_snoc, hi2, if_neg ((low_own h hl hx).1 hs), List.map_append]
  rfl
theorem treesTo_not {V : List Int} {E : List Edg} {S : List Int} (h : Lab V E S) (hl : Low S) {i : Nat} {x : Int} (hx : V[i]? = some x) (hs : S[i]? ≠ some (i : Int)) : treesTo V E (i + 1) = treesTo V E i := by
  obtain ⟨hi, hi2⟩ := List.getElem?_eq_some_iff.1 hx
  have : (firsts E (V.take i)).any (fun y => connB E y x) = true := Classical.byContradiction fun hc => hs ((low_own h hl hx).2 hc)
  unfold treesTo
  rw [List.take_succ_eq_append_getElem hi, firsts_snoc, hi2, if_pos this]

/-- from a set's first place on all its vertices stand -/
theorem filter_from {V : List Int} {E : List Edg} {S : List Int} (h : Lab V E S) (hl : Low S) {i : Nat} {x : Int} (hx : V[i]? = some x) (hs : S[i]? = some (i : Int)) : (V.drop i).filter (connB E x) = V.filter (connB E x) := by
  have hsp : V.filter (connB E x) = (V.take i).filter (connB E x) ++ (V.drop i).filter (connB E x) := by rw [← List.filter_append, List.take_append_drop]
  have hno : (V.take i).filter (connB E x) = [] := by
    rw [List.filter_eq_nil_iff]
    intro y hy hc
    have hm := firsts_cover E _ y hy
    obtain ⟨f, hf, hcf⟩ := hm
    exact (low_own h hl hx).1 hs (List.any_eq_true.2 ⟨f, hf, connB_iff.2 (hcf.trans (connB_iff.1 hc).symm)⟩)
  rw [hsp, hno, List.nil_append]

/-- an edge put in its place -/
def insE (x : Edg) : List Edg → List Edg
  | [] => [x]
  | y :: l => if aheadB x y then x :: y :: l else y :: insE x l
def sortedR (E : List Edg) : List Edg := E.foldl (fun l x => insE x l) []
theorem sortedR_snoc (E : List Edg) (x : Edg) : sortedR (E ++ [x]) = insE x (sortedR E) := by simp [sortedR]

theorem insE_perm (x : Edg) : ∀ l, (insE x l).Perm (x :: l)
  | [] => .refl _
  | y :: l => by
    unfold insE
    split
    · exact .refl _
    · exact ((insE_perm x l).cons y).trans (.swap x y l)
theorem sortedR_perm (E : List Edg) : (sortedR E).Perm E := by
  revert E
  refine snocE_ind (.refl _) fun l x ih => ?_
  rw [sortedR_snoc]
  exact (insE_perm x _).trans ((ih.cons x).trans (List.perm_append_comm (l₁ := [x]) (l₂ := l)))

theorem insE_order (x : Edg) : ∀ {l : List Edg}, InOrder l → InOrder (insE x l)
  | [], _ => by simp [insE, InOrder]
  | y :: l, h => by
    unfold InOrder at h ⊢
    obtain ⟨h1, h2⟩ := List.pairwise_cons.1 h
    unfold insE
    split
    · rename_i ha
      unfold aheadB at ha
      rw [decide_eq_true_iff] at ha
      refine List.pairwise_cons.2 ⟨fun z hz => ?_, h⟩
      rw [List.mem_cons] at hz
      rcases hz with rfl | hz
      · omega
      · have := h1 z hz
        omega
    · rename_i ha
      have ha' : aheadB x y = false := by simpa using ha
      unfold aheadB at ha'
      rw [decide_eq_false_iff_not] at ha'
      refine List.pairwise_cons.2 ⟨fun z hz => ?_, insE_order x h2⟩
      rw [(insE_perm x l).mem_iff, List.mem_cons] at hz
      rcases hz with rfl | hz
      · omega
      · exact h1 z hz
theorem sortedR_order (E : List Edg) : InOrder (sortedR E) := by
  revert E
  refine snocE_ind (by simp [sortedR, InOrder]) fun l x ih => ?_
  rw [sortedR_snoc]
  exact insE_order x ih
theorem sortedR_eq {E : List Edg} (h : (E.map Edg.id).Pairwise (· < ·)) : sortedR E = sortE E := order_one h (sortedR_perm E) (sortedR_order E)

/-- what stands ahead of the place, and where the place is -/
theorem insE_place (x : Edg) : ∀ (l : List Edg), ∃ k, k ≤ l.length ∧ (∀ y ∈ l.take k, aheadB x y = false) ∧ (∀ y, l[k]? = some y → aheadB x y = true) ∧ insE x l = l.take k ++ x :: l.drop k
  | [] => ⟨0, by simp, by simp, by simp, rfl⟩
  | y :: l => by
    by_cases h : aheadB x y = true
    · exact ⟨0, by simp, by simp, fun z hz => by simp at hz; rw [← hz]; exact h, by unfold insE; rw [if_pos h]; rfl⟩
    · obtain ⟨k, h1, h2, h3, h4⟩ := insE_place x l
      refine ⟨k + 1, by simpa using h1, fun z hz => ?_, fun z hz => h3 z (by simpa using hz), ?_⟩
      · rw [List.take_succ_cons, List.mem_cons] at hz
        rcases hz with rfl | hz
        · simpa using h
        · exact h2 z hz
      · unfold insE
        rw [if_neg h, h4]
        rfl

/-- numbers put in their place -/
def insI (x : Int) : List Int → List Int
  | [] => [x]
  | y :: l => if x < y then x :: y :: l else y :: insI x l
theorem insI_perm (x : Int) : ∀ l, (insI x l).Perm (x :: l)
  | [] => .refl _
  | y :: l => by
    unfold insI
    split
    · exact .refl _
    · exact ((insI_perm x l).cons y).trans (.swap x y l)
theorem insI_le (x : Int) : ∀ {l : List Int}, l.Pairwise (· ≤ ·) → (insI x l).Pairwise (· ≤ ·)
  | [], _ => by simp [insI]
  | y :: l, h => by
    obtain ⟨h1, h2⟩ := List.pairwise_cons.1 h
    unfold insI
    split
    · refine List.pairwise_cons.2 ⟨fun z hz => ?_, h⟩
      rw [List.mem_cons] at hz
      rcases hz with rfl | hz
      · omega
      · have := h1 z hz
        omega
    · refine List.pairwise_cons.2 ⟨fun z hz => ?_, insI_le x h2⟩
      rw [(insI_perm x l).mem_iff, List.mem_cons] at hz
      rcases hz with rfl | hz
      · omega
      · exact h1 z hz
def sortedI (zs : List Int) : List Int := zs.foldl (fun l x => insI x l) []
theorem sortedI_snoc (zs : List Int) (x : Int) : sortedI (zs ++ [x]) = insI x (sortedI zs) := by simp [sortedI]
theorem sortedI_both : ∀ zs, (sortedI zs).Perm zs ∧ (sortedI zs).Pairwise (· ≤ ·) := by
  refine snoc_ind ⟨.refl _, by simp [sortedI]⟩ fun l x ih => ?_
  rw [sortedI_snoc]
  exact ⟨(insI_perm x _).trans ((ih.1.cons x).trans (List.perm_append_comm (l₁ := [x]) (l₂ := l))), insI_le x ih.2⟩
theorem sortedI_eq (zs : List Int) : sortedI zs = sortI zs := by
  obtain ⟨h1, h2⟩ := sortedI_both zs
  refine List.Perm.eq_of_pairwise (le := (· ≤ ·)) ?_ h2 (sortI_le zs) (h1.trans (sortI_perm zs).symm)
  intro a b _ _ h k
  omega
theorem insI_place (x : Int) : ∀ (l : List Int), ∃ k, k ≤ l.length ∧ (∀ y ∈ l.take k, ¬ x < y) ∧ (∀ y, l[k]? = some y → x < y) ∧ insI x l = l.take k ++ x :: l.drop k
  | [] => ⟨0, by simp, by simp, by simp, rfl⟩
  | y :: l => by
    by_cases h : x < y
    · exact ⟨0, by simp, by simp, fun z hz => by simp at hz; rw [← hz]; exact h, by unfold insI; rw [if_pos h]; rfl⟩
    · obtain ⟨k, h1, h2, h3, h4⟩ := insI_place x l
      refine ⟨k + 1, by simpa using h1, fun z hz => ?_, fun z hz => h3 z (by simpa using hz), ?_⟩
      · rw [List.take_succ_cons, List.mem_cons] at hz
        rcases hz with rfl | hz
        · exact h
        · exact h2 z hz
      · unfold insI
        rw [if_neg h, h4]
        rfl

end Go.Proofs.YthidhdffiebbgaaGreatDoor

namespace Go.Proofs.YthidhdffiebbgaaGreatDoor
open Go.Proofs.YthidhdffiebbgaaGreatDoor.Sk

/-- all edges at x have been used -/
def Spent (F : List Edg) (used : List Int) (x : Int) : Prop := ∀ e ∈ F, e.u = x ∨ e.v = x → e.id ∈ used
/-- x stands on the way -/
def OnWay (F : List Edg) (u : Int) (L : List Edg) (x : Int) : Prop := ∃ L1 L2, L = L1 ++ L2 ∧ Trail F u L1 x

/-- what holds wherever the going stands -/
structure Walk (F : List Edg) (u v : Int) (L : List Edg) (used : List Int) (at' : Int) : Prop where
  trail : Trail F u L at'
  nodup : L.Nodup
  sub : ∀ e ∈ L, e.id ∈ used
  uniq : used.Nodup
  ids : ∀ i ∈ used, ∃ e ∈ F, e.id = i
  seen : ∀ e ∈ F, e.id ∈ used → ∀ x, x = e.u ∨ x = e.v → OnWay F u L x ∨ Spent F used x
  away : at' ≠ v → u ≠ v ∧ ∀ e ∈ F, e.id ∈ used → e.u ≠ v ∧ e.v ≠ v

theorem Walk.start (F : List Edg) (u v : Int) : Walk F u v [] [] u where
  trail := rfl
  nodup := by simp
  sub := by simp
  uniq := by simp
  ids := by simp
  seen := by simp
  away h := ⟨h, by simp⟩

/-- the other end of an edge -/
def otherE (e : Edg) (x : Int) : Int := if e.u = x then e.v else e.u

theorem other_ends {e : Edg} {x : Int} (h : e.u = x ∨ e.v = x) : e.u = x ∧ e.v = otherE e x ∨ e.v = x ∧ e.u = otherE e x := by
  unfold otherE
  by_cases hu : e.u = x
  · rw [if_pos hu]; exact .inl ⟨hu, rfl⟩
  · rw [if_neg hu]; exact .inr ⟨h.resolve_left hu, rfl⟩

theorem OnWay.more {F : List Edg} {u x : Int} {L M : List Edg} (h : OnWay F u L x) : OnWay F u (L ++ M) x := by
  obtain ⟨L1, L2, rfl, h1⟩ := h
  exact ⟨L1, L2 ++ M, by simp, h1⟩

theorem Walk.push {F : List Edg} {u v at' : Int} {L : List Edg} {used : List Int} {e : Edg} (h : Walk F u v L used at') (hne : at' ≠ v) (he : e ∈ F) (hat : e.u = at' ∨ e.v = at') (hno : e.id ∉ used) (hid : ∀ a ∈ F, ∀ b ∈ F, a.id = b.id → a = b) :
    Walk F u v (L ++ [e]) (used ++ [e.id]) (otherE e at') where
  trail := h.trail.snoc he (by
    rcases other_ends hat with ⟨a, b⟩ | ⟨a, b⟩
    · exact .inl ⟨a, b⟩
    · exact .inr ⟨a, b⟩)
  nodup := by
    rw [List.nodup_append]
    refine ⟨h.nodup, by simp, fun x hx y hy => ?_⟩
    rw [List.mem_singleton] at hy
    subst hy
    rintro rfl
    exact hno (h.sub _ hx)
  sub x hx := by
    rw [List.mem_append, List.mem_singleton] at hx
    rw [List.mem_append, List.mem_singleton]
    rcases hx with hx | rfl
    · exact .inl (h.sub x hx)
    · exact .inr rfl
  uniq := by
    rw [List.nodup_append]
    refine ⟨h.uniq, by simp, fun x hx y hy => ?_⟩
    rw [List.mem_singleton] at hy
    subst hy
    rintro rfl
    exact hno hx
  ids i hi := by
    rw [List.mem_append, List.mem_singleton] at hi
    rcases hi with hi | rfl
    · exact h.ids i hi
    · exact ⟨e, he, rfl⟩
  seen x hx hxu y hy := by
    rw [List.mem_append, List.mem_singleton] at hxu
    rcases hxu with hxu | hxu
    · rcases h.seen x hx hxu y hy with k | k
      · exact .inl k.more
      · exact .inr fun z hz hzy => List.mem_append_left _ (k z hz hzy)
    · have hxe := hid x hx e he hxu
      subst hxe
      left
      have hon : OnWay F u (L ++ [x]) at' := ⟨L, [x], rfl, h.trail⟩
      have hoff : OnWay F u (L ++ [x]) (otherE x at') := ⟨L ++ [x], [], by simp, h.trail.snoc he (by
        rcases other_ends hat with ⟨a, b⟩ | ⟨a, b⟩
        · exact .inl ⟨a, b⟩
        · exact .inr ⟨a, b⟩)⟩
      rcases other_ends hat with ⟨a, b⟩ | ⟨a, b⟩ <;> rcases hy with rfl | rfl
      · rw [a]; exact hon
      · rw [b]; exact hoff
      · rw [b]; exact hoff
      · rw [a]; exact hon
  away hv := by
    obtain ⟨h1, h2⟩ := h.away hne
    refine ⟨h1, fun x hx hxu => ?_⟩
    rw [List.mem_append, List.mem_singleton] at hxu
    rcases hxu with hxu | hxu
    · exact h2 x hx hxu
    · have hxe := hid x hx e he hxu
      subst hxe
      rcases other_ends hat with ⟨a, b⟩ | ⟨a, b⟩
      · exact ⟨by rw [a]; exact hne, by rw [b]; exact hv⟩
      · exact ⟨by rw [b]; exact hv, by rw [a]; exact hne⟩

theorem trail_last {F : List Edg} {e : Edg} {u at' : Int} {L : List Edg} (h : Trail F u (L ++ [e]) at') : e ∈ F ∧ Trail F u L (otherE e at') ∧ (e.u = at' ∨ e.v = at') := by
  obtain ⟨c, h1, h2⟩ := h.split
  obtain ⟨he, hc⟩ := h2
  refine ⟨he, ?_, ?_⟩
  · rcases hc with ⟨h3, h4⟩ | ⟨h3, h4⟩
    · have h5 : e.v = at' := h4
      unfold otherE
      by_cases k : e.u = at'
      · rw [if_pos k, h5, ← k, h3]; exact h1
      · rw [if_neg k, h3]; exact h1
    · have h5 : e.u = at' := h4
      unfold otherE
      rw [if_pos h5, h3]; exact h1
  · rcases hc with ⟨_, h4⟩ | ⟨_, h4⟩
    · exact .inr h4
    · exact .inl h4

theorem Walk.pop {F : List Edg} {u v at' : Int} {L : List Edg} {used : List Int} {e : Edg} (h : Walk F u v (L ++ [e]) used at') (hne : at' ≠ v) (hsp : Spent F used at') : Walk F u v L used (otherE e at') ∧ otherE e at' ≠ v := by
  obtain ⟨he, ht, hat⟩ := trail_last h.trail
  have heu : e.id ∈ used := h.sub e (by simp)
  have haw := (h.away hne).2 e he heu
  have hov : otherE e at' ≠ v := by
    rcases other_ends hat with ⟨_, b⟩ | ⟨_, b⟩
    · rw [← b]; exact haw.2
    · rw [← b]; exact haw.1
  refine ⟨⟨ht, (List.nodup_append.1 h.nodup).1, fun x hx => h.sub x (List.mem_append_left _ hx), h.uniq, h.ids, fun x hx hxu y hy => ?_, fun _ => h.away hne⟩, hov⟩
  rcases h.seen x hx hxu y hy with ⟨L1, L2, hL, hT⟩ | k
  · rcases List.eq_nil_or_concat L2 with rfl | ⟨M, z, rfl⟩
    · rw [List.append_nil] at hL
      subst hL
      have := trail_end hT h.trail
      subst this
      exact .inr hsp
    · rw [List.concat_eq_append, ← List.append_assoc] at hL
      obtain ⟨rfl, _⟩ := List.append_inj' hL rfl
      exact .inl ⟨L1, M, rfl, hT⟩
  · exact .inr k

/-- it ends where it began, and nothing is left: the other vertex is not joined -/
theorem Walk.lost {F : List Edg} {u v at' : Int} {used : List Int} (h : Walk F u v [] used at') (hne : at' ≠ v) (hsp : Spent F used at') : ¬ Conn F u v := by
  have hu : u = at' := h.trail
  subst hu
  obtain ⟨h1, h2⟩ := h.away hne
  have key : ∀ {a b : Int}, Conn F a b → ((a = u ∨ ∃ e ∈ F, e.id ∈ used ∧ (a = e.u ∨ a = e.v)) ↔ (b = u ∨ ∃ e ∈ F, e.id ∈ used ∧ (b = e.u ∨ b = e.v))) := by
    have spent : ∀ x, (x = u ∨ ∃ e ∈ F, e.id ∈ used ∧ (x = e.u ∨ x = e.v)) → Spent F used x := fun x hx => by
      rcases hx with rfl | ⟨e, he, heu, hx⟩
      · exact hsp
      · rcases h.seen e he heu x hx with ⟨L1, L2, hL, hT⟩ | k
        · obtain ⟨rfl, rfl⟩ := List.append_eq_nil_iff.1 hL.symm
          have : u = x := hT
          subst this
          exact hsp
        · exact k
    intro a b hc
    induction hc with
    | refl => exact Iff.rfl
    | @edge e he =>
      constructor
      · intro ha
        exact .inr ⟨e, he, spent _ ha e he (.inl rfl), .inr rfl⟩
      · intro hb
        exact .inr ⟨e, he, spent _ hb e he (.inr rfl), .inl rfl⟩
    | symm _ ih => exact ih.symm
    | trans _ _ i j => exact i.trans j
  intro hc
  rcases (key hc).1 (.inl rfl) with hv | ⟨e, he, heu, hv⟩
  · exact h1 hv.symm
  · obtain ⟨a, b⟩ := h2 e he heu
    rcases hv with hv | hv
    · exact a hv.symm
    · exact b hv.symm

/-- no more is used than there is -/
theorem Walk.count {F : List Edg} {u v at' : Int} {L : List Edg} {used : List Int} (h : Walk F u v L used at') (hid : ∀ a ∈ F, ∀ b ∈ F, a.id = b.id → a = b) : used.length ≤ F.length ∧ L.length ≤ used.length := by
  constructor
  · have := nodup_le h.uniq (m := F.map Edg.id) fun i hi => by
      obtain ⟨e, he, rfl⟩ := h.ids i hi
      exact List.mem_map.2 ⟨e, he, rfl⟩
    simpa using this
  · have hn : (L.map Edg.id).Nodup := by
      unfold List.Nodup
      rw [List.pairwise_map]
      refine List.Pairwise.imp_of_mem ?_ h.nodup
      intro a b ha hb hab heq
      exact hab (hid a (h.trail.sub a ha) b (h.trail.sub b hb) heq)
    have := nodup_le hn (m := used) fun i hi => by
      obtain ⟨e, he, rfl⟩ := List.mem_map.1 hi
      exact h.sub e he
    simpa using this

end Go.Proofs.YthidhdffiebbgaaGreatDoor

namespace Go.Proofs.YthidhdffiebbgaaGreatDoor
open Go.Proofs.YthidhdffiebbgaaGreatDoor.Sk

/-- y's distance is known -/
def Known (V S : List Int) (y : Int) : Prop := ∃ (j : Nat) (d : Int), V[j]? = some y ∧ S[j]? = some d ∧ 0 ≤ d

structure Dst (F : List Edg) (V : List Int) (r : Int) (S : List Int) : Prop where
  len : S.length = V.length
  root : Known V S r
  told : ∀ (i : Nat) (x d : Int), V[i]? = some x → S[i]? = some d → d = -1 ∨ (0 ≤ d ∧ ∃ L, Trail F r L x ∧ L.Nodup ∧ sumW L = d ∧ ∀ e ∈ L, Known V S e.u ∧ Known V S e.v)

def dist0 (V : List Int) (r : Int) : List Int := V.map fun x => if x = r then 0 else -1
theorem dist0_len (V : List Int) (r : Int) : (dist0 V r).length = V.length := by simp [dist0]

theorem Dst.start {F : List Edg} {V : List Int} {r : Int} (hr : r ∈ V) : Dst F V r (dist0 V r) where
  len := dist0_len V r
  root := by
    obtain ⟨j, hj⟩ := List.mem_iff_getElem?.1 hr
    exact ⟨j, 0, hj, by simp [dist0, hj], by omega⟩
  told := fun i x d hx hd => by
    simp only [dist0, List.getElem?_map, hx, Option.map_some, Option.some.injEq] at hd
    by_cases h : x = r
    · rw [if_pos h] at hd
      subst h
      exact .inr ⟨by omega, [], rfl, by simp, by simp [sumW_nil, ← hd], by simp⟩
    · rw [if_neg h] at hd
      exact .inl hd.symm

theorem nodup_idx {V : List Int} (hV : V.Nodup) {i j : Nat} {x : Int} (hi : V[i]? = some x) (hj : V[j]? = some x) : i = j := by
  obtain ⟨h1, h2⟩ := List.getElem?_eq_some_iff.1 hi
  obtain ⟨h3, h4⟩ := List.getElem?_eq_some_iff.1 hj
  exact (List.getElem_inj hV).1 (h2.trans h4.symm)

theorem Known.set {V S : List Int} {y z db : Int} {ib : Nat} (h : Known V S y) (hb : S[ib]? = some db) (hdb : db < 0) : Known V (S.set ib z) y := by
  obtain ⟨j, d, h1, h2, h3⟩ := h
  refine ⟨j, d, h1, ?_, h3⟩
  rw [List.getElem?_set_ne (fun h => by subst h; rw [hb] at h2; have := Option.some.inj h2; omega)]
  exact h2

theorem Dst.step {F : List Edg} {V S : List Int} {r a b da db : Int} {ia ib : Nat} {e : Edg} (h : Dst F V r S) (hV : V.Nodup) (he : e ∈ F) (hw : 0 ≤ e.w) (ho : e.u = a ∧ e.v = b ∨ e.v = a ∧ e.u = b)
    (ha : V[ia]? = some a) (hda : S[ia]? = some da) (ha0 : 0 ≤ da) (hb : V[ib]? = some b) (hdb : S[ib]? = some db) (hb0 : db < 0) : Dst F V r (S.set ib (da + e.w)) := by
  have hlt : ib < S.length := (List.getElem?_eq_some_iff.1 hdb).1
  have hset : (S.set ib (da + e.w))[ib]? = some (da + e.w) := by rw [List.getElem?_set_self hlt]
  have kb : Known V (S.set ib (da + e.w)) b := ⟨ib, da + e.w, hb, hset, by omega⟩
  have ka : Known V (S.set ib (da + e.w)) a := Known.set ⟨ia, da, ha, hda, ha0⟩ hdb hb0
  refine ⟨by rw [List.length_set]; exact h.len, h.root.set hdb hb0, fun i x d hx hd => ?_⟩
  by_cases hi : i = ib
  · subst hi
    rw [hset] at hd
    obtain rfl := Option.some.inj hd
    obtain rfl : x = b := Option.some.inj (hx.symm.trans hb)
    rcases h.told ia a da ha hda with h1 | ⟨_, L, l1, l2, l3, l4⟩
    · omega
    · refine .inr ⟨by omega, L ++ [e], ?_, ?_, by rw [sumW_snoc, l3], ?_⟩
      · exact l1.snoc he ho
      · rw [List.nodup_append]
        refine ⟨l2, by simp, fun y hy z hz hyz => ?_⟩
        rw [List.mem_singleton] at hz
        subst hz
        subst hyz
        have hk : Known V S x := by
          rcases ho with ⟨_, h2⟩ | ⟨_, h2⟩
          · exact h2 ▸ (l4 y hy).2
          · exact h2 ▸ (l4 y hy).1
        obtain ⟨j, d, k1, k2, k3⟩ := hk
        have := nodup_idx hV k1 hb
        subst this
        rw [hdb] at k2
        have := Option.some.inj k2
        omega
      · intro y hy
        rw [List.mem_append, List.mem_singleton] at hy
        rcases hy with hy | rfl
        · exact ⟨(l4 y hy).1.set hdb hb0, (l4 y hy).2.set hdb hb0⟩
        · rcases ho with ⟨h1, h2⟩ | ⟨h1, h2⟩
          · rw [h1, h2]; exact ⟨ka, kb⟩
          · rw [h1, h2]; exact ⟨kb, ka⟩
  · rw [List.getElem?_set_ne (fun h => hi h.symm)] at hd
    rcases h.told i x d hx hd with h1 | ⟨h0, L, l1, l2, l3, l4⟩
    · exact .inl h1
    · exact .inr ⟨h0, L, l1, l2, l3, fun y hy => ⟨(l4 y hy).1.set hdb hb0, (l4 y hy).2.set hdb hb0⟩⟩

/-- how many are not known -/
def cntN (S : List Int) : Nat := S.countP fun d => decide (d < 0)
theorem cntN_set {S : List Int} {ib : Nat} {db z : Int} (hb : S[ib]? = some db) (h : db < 0) (hz : 0 ≤ z) : cntN (S.set ib z) < cntN S := by
  obtain ⟨hlt, hg⟩ := List.getElem?_eq_some_iff.1 hb
  unfold cntN
  rw [List.countP_set hlt]
  have hp : 0 < S.countP fun d => decide (d < 0) := List.countP_pos_iff.2 ⟨S[ib], List.getElem_mem hlt, by simp [hg, h]⟩
  rw [if_pos (by simp [hg, h]), if_neg (by simp; omega)]
  omega
theorem cntN_le (S : List Int) : cntN S ≤ S.length := List.countP_le_length

theorem nodupE_le : ∀ {l m : List Edg}, l.Nodup → (∀ x ∈ l, x ∈ m) → l.length ≤ m.length
  | [], _, _, _ => Nat.zero_le _
  | a :: l, m, hn, hs => by
    rw [List.nodup_cons] at hn
    have ha : a ∈ m := hs a (by simp)
    have h1 := nodupE_le (m := m.erase a) hn.2 fun x hx => by
      have hne : x ≠ a := fun e => hn.1 (e ▸ hx)
      exact (List.mem_erase_of_ne hne).2 (hs x (by simp [hx]))
    rw [List.length_erase_of_mem ha] at h1
    have := List.length_pos_of_mem ha
    simp
    omega

theorem Dst.bound {F : List Edg} {V S : List Int} {r : Int} (h : Dst F V r S) (hok : ∀ e ∈ F, okE V e) (hl : F.length ≤ 2048) {i : Nat} {d : Int} (hd : S[i]? = some d) : -1 ≤ d ∧ d ≤ 2251799813685248 := by
  have hlt := (List.getElem?_eq_some_iff.1 hd).1
  obtain ⟨x, hx⟩ : ∃ x, V[i]? = some x := ⟨_, List.getElem?_eq_getElem (h.len ▸ hlt)⟩
  rcases h.told i x d hx hd with rfl | ⟨h0, L, l1, l2, l3, _⟩
  · omega
  · have hs := l1.sub
    have hb := sumW_bounds L fun e he => hok e (hs e he)
    have hn := nodupE_le l2 hs
    omega

theorem conn_keep {F : List Edg} {P : Int → Prop} (hP : ∀ e ∈ F, P e.u ↔ P e.v) {a b : Int} (h : Conn F a b) : P a ↔ P b := by
  induction h with
  | refl => exact Iff.rfl
  | @edge e he => exact hP e he
  | symm _ ih => exact ih.symm
  | trans _ _ i j => exact i.trans j

open Classical in
/-- the distances of all vertices -/
noncomputable def distRow (F : List Edg) (V : List Int) (r : Int) : List Int := V.map fun x => if Conn F r x then distF F r x else -1
theorem distRow_len (F : List Edg) (V : List Int) (r : Int) : (distRow F V r).length = V.length := by simp [distRow]

theorem Dst.done {F : List Edg} {V S : List Int} {r : Int} (h : Dst F V r S) (hV : V.Nodup) (hF : Acyc F) (hc : ∀ e ∈ F, Known V S e.u ↔ Known V S e.v) : S = distRow F V r := by
  refine List.ext_getElem? fun i => ?_
  by_cases hi : i < V.length
  · obtain ⟨x, hx⟩ : ∃ x, V[i]? = some x := ⟨_, List.getElem?_eq_getElem hi⟩
    obtain ⟨d, hd⟩ : ∃ d, S[i]? = some d := ⟨_, List.getElem?_eq_getElem (h.len.symm ▸ hi)⟩
    rw [hd, distRow, List.getElem?_map, hx, Option.map_some]
    congr 1
    by_cases hco : Conn F r x
    · rw [if_pos hco]
      obtain ⟨j, d', k1, k2, k3⟩ := (conn_keep hc hco).1 h.root
      have := nodup_idx hV k1 hx
      subst this
      obtain rfl : d' = d := Option.some.inj (k2.symm.trans hd)
      rcases h.told j x d' hx hd with h1 | ⟨_, L, l1, l2, l3, _⟩
      · omega
      · rw [dist_of hF l1 l2, l3]
    · rw [if_neg hco]
      rcases h.told i x d hx hd with h1 | ⟨_, L, l1, _⟩
      · exact h1
      · exact absurd l1.conn hco
  · rw [List.getElem?_eq_none (by rw [h.len]; omega), List.getElem?_eq_none (by rw [distRow_len]; omega)]

end Go.Proofs.YthidhdffiebbgaaGreatDoor
