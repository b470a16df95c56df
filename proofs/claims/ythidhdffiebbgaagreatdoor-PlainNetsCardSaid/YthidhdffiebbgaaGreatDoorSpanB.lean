/- Distances in a forest: four points, and what a sweep from the farthest vertex finds. No program. -/
import Derived.Test.YthidhdffiebbgaaGreatDoorForestC
namespace Go.Proofs.YthidhdffiebbgaaGreatDoor
open Go.Proofs.YthidhdffiebbgaaGreatDoor.Sk

theorem sumW_append (A B : List Edg) : sumW (A ++ B) = sumW A + sumW B := by
  induction A with
  | nil => simp [sumW_nil]
  | cons x A ih => rw [List.cons_append, sumW_cons, sumW_cons, ih]; omega

open Classical in
/-- how far two vertices of a forest are apart -/
noncomputable def distF (F : List Edg) (a b : Int) : Int := if h : ∃ L, Trail F a L b ∧ L.Nodup then sumW (Classical.choose h) else 0

theorem dist_of {F : List Edg} (hF : Acyc F) {a b : Int} {L : List Edg} (h : Trail F a L b) (hn : L.Nodup) : distF F a b = sumW L := by
  have hex : ∃ L, Trail F a L b ∧ L.Nodup := ⟨L, h, hn⟩
  unfold distF
  rw [dif_pos hex]
  have hs := Classical.choose_spec hex
  rw [trail_one hF hs.1 hs.2 h hn]

theorem dist_self {F : List Edg} (hF : Acyc F) (a : Int) : distF F a a = 0 := by
  rw [dist_of hF (L := []) rfl (by simp)]
  rfl

theorem dist_symm {F : List Edg} (hF : Acyc F) {a b : Int} (h : Conn F a b) : distF F a b = distF F b a := by
  obtain ⟨L, h1, h2⟩ := acyc_way hF h
  rw [dist_of hF h1 h2, dist_of hF h1.back (nodup_back h2), sumW_back]

theorem dist_same {F : List Edg} {e : Edg} (hF : Acyc F) (hF' : Acyc (F ++ [e])) {a b : Int} (h : Conn F a b) : distF (F ++ [e]) a b = distF F a b := by
  obtain ⟨L, h1, h2⟩ := acyc_way hF h
  rw [dist_of hF h1 h2, dist_of hF' (h1.mono fun _ h => List.mem_append_left _ h) h2]

theorem dist_cross {F : List Edg} {e : Edg} (hF : Acyc F) (hF' : Acyc (F ++ [e])) {a b p q : Int} (hpq : ¬ Conn F p q) (ho : e.u = p ∧ e.v = q ∨ e.v = p ∧ e.u = q) (ha : Conn F a p) (hb : Conn F q b) :
    distF (F ++ [e]) a b = distF F a p + e.w + distF F q b := by
  obtain ⟨L1, a1, a2⟩ := acyc_way hF ha
  obtain ⟨L2, b1, b2⟩ := acyc_way hF hb
  have hm : ∀ x ∈ F, x ∈ F ++ [e] := fun x hx => List.mem_append_left _ hx
  have ht : Trail (F ++ [e]) a (L1 ++ e :: L2) b := (a1.mono hm).append ⟨by simp, by
    rcases ho with ⟨o1, o2⟩ | ⟨o1, o2⟩
    · exact .inl ⟨o1, o2 ▸ b1.mono hm⟩
    · exact .inr ⟨o1, o2 ▸ b1.mono hm⟩⟩
  have heF : e ∉ F := fun h => hpq (by
    rcases ho with ⟨rfl, rfl⟩ | ⟨rfl, rfl⟩
    · exact .edge h
    · exact (Conn.edge h).symm)
  have hn : (L1 ++ e :: L2).Nodup := by
    rw [List.nodup_append]
    refine ⟨a2, ?_, ?_⟩
    · rw [List.nodup_cons]
      exact ⟨fun h => heF (b1.sub e h), b2⟩
    · intro x hx y hy hxy
      subst hxy
      rw [List.mem_cons] at hy
      rcases hy with rfl | hy
      · exact heF (a1.sub _ hx)
      · have c1 := a1.near x hx
        have c2 := b1.near x hy
        exact hpq (a1.conn.symm.trans (c1.trans c2.symm))
  rw [dist_of hF' ht hn, dist_of hF a1 a2, dist_of hF b1 b2, sumW_append, sumW_cons]
  omega

/-- of the three sums that pair four points the first is not above both others -/
def Four (d : Int → Int → Int) (p q r s : Int) : Prop := d p q + d r s ≤ max (d p r + d q s) (d p s + d q r)

/-- where a vertex stands to an edge that comes -/
theorem side_of {F : List Edg} {e : Edg} {z p : Int} (h : Conn (F ++ [e]) p z) : (Conn F p z) ∨ (Conn F e.u z ∧ Conn F e.v p) ∨ (Conn F e.v z ∧ Conn F e.u p) := by
  rcases conn_snoc.1 h with h | ⟨h, k⟩ | ⟨h, k⟩
  · exact .inl h
  · exact .inr (.inr ⟨k, h.symm⟩)
  · exact .inr (.inl ⟨k, h.symm⟩)

/-- four points that are joined -/
theorem four_all {F : List Edg} (hF : Acyc F) (hw : ∀ e ∈ F, 0 ≤ e.w) : ∀ {p q r s : Int}, Conn F p q → Conn F p r → Conn F p s → Four (distF F) p q r s := by
  induction hF with
  | nil =>
    intro p q r s h1 h2 h3
    have := conn_nil h1
    have := conn_nil h2
    have := conn_nil h3
    subst q r s
    have hd : distF [] p p = 0 := dist_self .nil p
    unfold Four
    omega
  | @snoc F e hF hne ih =>
    intro p q r s h1 h2 h3
    have hF' : Acyc (F ++ [e]) := .snoc hF hne
    have hw' : ∀ e ∈ F, 0 ≤ e.w := fun x hx => hw x (List.mem_append_left _ hx)
    have he0 : 0 ≤ e.w := hw e (by simp)
    replace ih := @ih hw'
    -- one whole part holds all four
    by_cases hall : Conn F p q ∧ Conn F p r ∧ Conn F p s
    · obtain ⟨k1, k2, k3⟩ := hall
      have := ih k1 k2 k3
      unfold Four at this ⊢
      rw [dist_same hF hF' k1, dist_same hF hF' (k2.symm.trans k3), dist_same hF hF' k2, dist_same hF hF' (k1.symm.trans k3), dist_same hF hF' k3, dist_same hF hF' (k1.symm.trans k2)]
      exact this
    · -- each stands on one side of e
      have hp : Conn F e.u p ∨ Conn F e.v p := by
        refine Classical.byContradiction fun hc => hall ?_
        have : ∀ z, Conn (F ++ [e]) p z → Conn F p z := fun z hz => by
          rcases side_of hz with h | ⟨_, h⟩ | ⟨_, h⟩
          · exact h
          · exact absurd (.inr h) hc
          · exact absurd (.inl h) hc
        exact ⟨this q h1, this r h2, this s h3⟩
      have hz : ∀ z, Conn (F ++ [e]) p z → Conn F e.u z ∨ Conn F e.v z := fun z hz => by
        rcases side_of hz with h | ⟨h, _⟩ | ⟨h, _⟩
        · exact hp.imp (fun k => k.trans h) (fun k => k.trans h)
        · exact .inl h
        · exact .inr h
      have hq := hz q h1
      have hr := hz r h2
      have hs := hz s h3
      have hself := fun a => dist_self hF a
      have UU : ∀ {a b}, Conn F e.u a → Conn F e.u b → distF (F ++ [e]) a b = distF F a b := fun h k => dist_same hF hF' (h.symm.trans k)
      have VV : ∀ {a b}, Conn F e.v a → Conn F e.v b → distF (F ++ [e]) a b = distF F a b := fun h k => dist_same hF hF' (h.symm.trans k)
      have UV : ∀ {a b}, Conn F e.u a → Conn F e.v b → distF (F ++ [e]) a b = distF F e.u a + e.w + distF F e.v b := fun h k => by
        rw [dist_cross hF hF' hne (.inl ⟨rfl, rfl⟩) h.symm k, dist_symm hF h]
      have VU : ∀ {a b}, Conn F e.v a → Conn F e.u b → distF (F ++ [e]) a b = distF F e.v a + e.w + distF F e.u b := fun h k => by
        rw [dist_cross hF hF' (fun c => hne c.symm) (.inr ⟨rfl, rfl⟩) h.symm k, dist_symm hF h]
      have tri : ∀ {o a b : Int}, Conn F o a → Conn F o b → distF F a b ≤ distF F o a + distF F o b := fun {o a b} h k => by
        have := ih (h.symm.trans k) h.symm h.symm
        unfold Four at this
        rw [hself, dist_symm hF h.symm, dist_symm hF k.symm] at this
        omega
      -- with the one end in the place of the one that stands beyond
      have three : ∀ {o p q r : Int}, Conn F o p → Conn F o q → Conn F o r → Four (distF F) p q r o ∧ Four (distF F) p q o r ∧ Four (distF F) p o q r ∧ Four (distF F) o p q r := fun h1 h2 h3 =>
        ⟨ih (h1.symm.trans h2) (h1.symm.trans h3) h1.symm, ih (h1.symm.trans h2) h1.symm (h1.symm.trans h3), ih h1.symm (h1.symm.trans h2) (h1.symm.trans h3), ih h1 h2 h3⟩
      unfold Four at *
      rcases hp with hp | hp <;> rcases hq with hq | hq <;> rcases hr with hr | hr <;> rcases hs with hs | hs
      · exact absurd ⟨hp.symm.trans hq, hp.symm.trans hr, hp.symm.trans hs⟩ hall
      · have := (three hp hq hr).1
        rw [UU hp hq, UV hr hs, UU hp hr, UV hq hs, UV hp hs, UU hq hr]
        rw [dist_symm hF hr.symm, dist_symm hF hp.symm, dist_symm hF hq.symm] at this
        omega
      · have := (three hp hq hs).2.1
        rw [UU hp hq, VU hr hs, UV hp hr, UU hq hs, UU hp hs, UV hq hr]
        rw [dist_symm hF hp.symm, dist_symm hF hq.symm] at this
        omega
      · have := tri hp hq
        have := tri hr hs
        rw [UU hp hq, VV hr hs, UV hp hr, UV hq hs, UV hp hs, UV hq hr]
        omega
      · have := (three hp hr hs).2.2.1
        rw [UV hp hq, UU hr hs, UU hp hr, VU hq hs, UU hp hs, VU hq hr]
        rw [dist_symm hF hp.symm] at this
        omega
      · rw [UV hp hq, UV hr hs, UU hp hr, VV hq hs, UV hp hs, VU hq hr]
        omega
      · rw [UV hp hq, VU hr hs, UV hp hr, VU hq hs, UU hp hs, VV hq hr]
        omega
      · have := (three hq hr hs).2.2.2
        rw [UV hp hq, VV hr hs, UV hp hr, VV hq hs, UV hp hs, VV hq hr]
        omega
      · have := (three hq hr hs).2.2.2
        rw [VU hp hq, UU hr hs, VU hp hr, UU hq hs, VU hp hs, UU hq hr]
        omega
      · rw [VU hp hq, UV hr hs, VU hp hr, UV hq hs, VV hp hs, UU hq hr]
        omega
      · rw [VU hp hq, VU hr hs, VV hp hr, UU hq hs, VU hp hs, UV hq hr]
        omega
      · have := (three hp hr hs).2.2.1
        rw [VU hp hq, VV hr hs, VV hp hr, UV hq hs, VV hp hs, UV hq hr]
        rw [dist_symm hF hp.symm] at this
        omega
      · have := tri hp hq
        have := tri hr hs
        rw [VV hp hq, UU hr hs, VU hp hr, VU hq hs, VU hp hs, VU hq hr]
        omega
      · have := (three hp hq hs).2.1
        rw [VV hp hq, UV hr hs, VU hp hr, VV hq hs, VV hp hs, VU hq hr]
        rw [dist_symm hF hp.symm, dist_symm hF hq.symm] at this
        omega
      · have := (three hp hq hr).1
        rw [VV hp hq, VU hr hs, VV hp hr, VU hq hs, VU hp hs, VV hq hr]
        rw [dist_symm hF hr.symm, dist_symm hF hp.symm, dist_symm hF hq.symm] at this
        omega
      · exact absurd ⟨hp.symm.trans hq, hp.symm.trans hr, hp.symm.trans hs⟩ hall

/-- what a span is: no two vertices of the tree are farther apart, and some two are as far -/
def Diam (F : List Edg) (u t : Int) : Prop := (∀ a b, Conn F u a → Conn F u b → distF F a b ≤ t) ∧ ∃ a b, Conn F u a ∧ Conn F u b ∧ distF F a b = t

theorem Diam.one {F : List Edg} {u v s t : Int} (h : Diam F u s) (k : Diam F v t) (c : Conn F u v) : s = t := by
  obtain ⟨a, b, a1, a2, a3⟩ := h.2
  obtain ⟨x, y, b1, b2, b3⟩ := k.2
  have h1 := h.1 x y (c.trans b1) (c.trans b2)
  have h2 := k.1 a b (c.symm.trans a1) (c.symm.trans a2)
  omega

/-- two sweeps -/
theorem two_sweeps {F : List Edg} (hF : Acyc F) (hw : ∀ e ∈ F, 0 ≤ e.w) {u x y t1 t2 : Int} (hx : Conn F u x) (ht1 : distF F u x = t1) (hm1 : ∀ z, Conn F u z → distF F u z ≤ t1)
    (hy : Conn F x y) (ht2 : distF F x y = t2) (hm2 : ∀ z, Conn F x z → distF F x z ≤ t2) : Diam F u t2 := by
  refine ⟨fun a b ha hb => ?_, x, y, hx, hx.trans hy, ht2⟩
  have h := four_all hF hw (p := u) (q := x) (r := a) (s := b) hx ha hb
  unfold Four at h
  have h1 := hm1 a ha
  have h2 := hm1 b hb
  have h3 := hm2 a (hx.symm.trans ha)
  have h4 := hm2 b (hx.symm.trans hb)
  omega

theorem bfs_dist {F : List Edg} (hF : Acyc F) {r : Int} {ord : List Int} {M : Int → Option (Edg × Int)} {D : Int → Nat} (hB : Bfs F r ord M D) {v s : Int} {e : Edg} (hv : M v = some (e, s)) : distF F r v = s := by
  obtain ⟨L, h1, h2, h3⟩ := hB.told hv
  rw [dist_of hF h1 h2, h3]

/-- what Span tells -/
theorem spanA_diam {V : List Int} {E : List Edg} {u s c : Int} (h : SpanA V E u s c) (hc : checkA V E [u] = 0) : ∃ t, Diam (forestOf E) u t ∧ s = bsum t ∧ c = berr t := by
  have hR := (checkA_in hc).1
  have hF := forest_acyc E
  have hw : ∀ e ∈ forestOf E, 0 ≤ e.w := fun e he => (hR.2.2.2.1 e (forestOf_sub E e he)).1
  obtain ⟨x, o1, M1, D1, y, o2, M2, D2, t1, t2, a1, a2, a3, ⟨f1, a4⟩, a5, b1, b2, b3, ⟨f2, b4⟩, b5, rfl, rfl⟩ := h.1 hc
  refine ⟨t2, two_sweeps hF hw ((a1.all a2 x).1 a3) (bfs_dist hF a1 a4) (fun z hz => ?_) ((b1.all b2 y).1 b3) (bfs_dist hF b1 b4) (fun z hz => ?_), rfl, rfl⟩
  · have hzo := (a1.all a2 z).2 hz
    obtain ⟨⟨f, t⟩, hM⟩ := Option.ne_none_iff_exists'.1 ((a1.dom z).2 hzo)
    rw [bfs_dist hF a1 hM]
    exact a5 z hzo f t hM
  · have hzo := (b1.all b2 z).2 hz
    obtain ⟨⟨f, t⟩, hM⟩ := Option.ne_none_iff_exists'.1 ((b1.dom z).2 hzo)
    rw [bfs_dist hF b1 hM]
    exact b5 z hzo f t hM

end Go.Proofs.YthidhdffiebbgaaGreatDoor
