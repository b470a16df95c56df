/- The plain law of PlainForest. No program. -/
import Derived.Test.YthidhdffiebbgaaGreatDoorPathB
import Derived.Test.YthidhdffiebbgaaGreatDoorTreesB
namespace Go.Proofs.YthidhdffiebbgaaGreatDoor
open Go.Proofs.YthidhdffiebbgaaGreatDoor.Sk

theorem Trail.mono {F G : List Edg} (h : ∀ e ∈ F, e ∈ G) {b : Int} : ∀ {L : List Edg} {a : Int}, Trail F a L b → Trail G a L b
  | [], _, k => k
  | _ :: _, _, ⟨k1, k2⟩ => ⟨h _ k1, k2.imp (fun ⟨x, y⟩ => ⟨x, Trail.mono h y⟩) (fun ⟨x, y⟩ => ⟨x, Trail.mono h y⟩)⟩

/-- both ends of an edge of a way are joined with its beginning -/
theorem Trail.near {F : List Edg} {b : Int} : ∀ {L : List Edg} {a : Int}, Trail F a L b → ∀ e ∈ L, Conn F a e.u
  | [], _, _, e, he => by simp at he
  | x :: L, a, ⟨h1, h2⟩, e, he => by
    rw [List.mem_cons] at he
    rcases h2 with ⟨h2, h3⟩ | ⟨h2, h3⟩
    · subst h2
      rcases he with rfl | he
      · exact .refl _
      · exact (Conn.edge h1).trans (h3.near e he)
    · subst h2
      rcases he with rfl | he
      · exact (Conn.edge h1).symm
      · exact (Conn.edge h1).symm.trans (h3.near e he)

/-- joined vertices of a forest have a way without a turning back -/
theorem acyc_way {F : List Edg} (hF : Acyc F) : ∀ {a b : Int}, Conn F a b → ∃ L, Trail F a L b ∧ L.Nodup := by
  induction hF with
  | nil =>
    intro a b h
    have := conn_nil h
    exact ⟨[], this, by simp⟩
  | @snoc F e hF hne ih =>
    intro a b h
    have hm : ∀ x ∈ F, x ∈ F ++ [e] := fun x hx => List.mem_append_left _ hx
    have he : ∀ {p q : Int} {L1 L2 : List Edg}, Trail F a L1 p → Trail F q L2 b → L1.Nodup → L2.Nodup → ¬ Conn F p q → (e.u = p ∧ e.v = q ∨ e.v = p ∧ e.u = q) → ∃ L, Trail (F ++ [e]) a L b ∧ L.Nodup := by
      intro p q L1 L2 k1 k2 n1 n2 hpq hor
      refine ⟨L1 ++ e :: L2, (k1.mono hm).append ⟨by simp, ?_⟩, ?_⟩
      · rcases hor with ⟨o1, o2⟩ | ⟨o1, o2⟩
        · exact .inl ⟨o1, o2 ▸ k2.mono hm⟩
        · exact .inr ⟨o1, o2 ▸ k2.mono hm⟩
      · have heF : e ∉ F := fun h => hne (.edge h)
        rw [List.nodup_append]
        refine ⟨n1, ?_, ?_⟩
        · rw [List.nodup_cons]
          exact ⟨fun h => heF (k2.sub e h), n2⟩
        · intro x hx y hy hxy
          subst hxy
          rw [List.mem_cons] at hy
          rcases hy with rfl | hy
          · exact heF (k1.sub _ hx)
          · have c1 := k1.near x hx
            have c2 := k2.near x hy
            exact hpq (k1.conn.symm.trans (c1.trans c2.symm))
    rcases conn_snoc.1 h with h | ⟨h, k⟩ | ⟨h, k⟩
    · obtain ⟨L, h1, h2⟩ := ih h
      exact ⟨L, h1.mono hm, h2⟩
    · obtain ⟨L1, a1, a2⟩ := ih h
      obtain ⟨L2, b1, b2⟩ := ih k
      exact he a1 b1 a2 b2 hne (.inl ⟨rfl, rfl⟩)
    · obtain ⟨L1, a1, a2⟩ := ih h
      obtain ⟨L2, b1, b2⟩ := ih k
      exact he a1 b1 a2 b2 (fun c => hne c.symm) (.inr ⟨rfl, rfl⟩)

/-- what was kept of a beginning stays -/
theorem kept_prefix (pre : List Edg) : ∀ post, ∃ t, kept (pre ++ post) = kept pre ++ t := by
  refine snocE_ind ⟨[], by simp⟩ ?_
  intro l x ⟨t, ht⟩
  rw [← List.append_assoc, kept_snoc, ht]
  split
  · exact ⟨t, rfl⟩
  · exact ⟨t ++ [x], by simp⟩

/-- an edge that is not in the forest stands behind each edge of a way in the forest between its ends -/
theorem forest_ahead {E : List Edg} (hid : (E.map Edg.id).Pairwise (· < ·)) {x : Edg} (hx : x ∈ E) (hn : x ∉ forestOf E) : ∃ L, Trail (forestOf E) x.u L x.v ∧ L.Nodup ∧ ∀ e ∈ L, aheadB e x = true := by
  have hxS : x ∈ sortE E := (sortE_perm E).mem_iff.2 hx
  obtain ⟨pre, post, hS⟩ := List.append_of_mem hxS
  have hf : forestOf E = kept (pre ++ x :: post) := by unfold forestOf; rw [hS]
  obtain ⟨t1, ht1⟩ := kept_prefix (pre ++ [x]) post
  rw [List.append_assoc, List.singleton_append] at ht1
  have hc : Conn pre x.u x.v := by
    refine Classical.byContradiction fun h => hn ?_
    rw [hf, ht1, kept_snoc, if_neg (fun k => h (connB_iff.1 k))]
    simp
  have hsub : ∀ e ∈ kept pre, e ∈ forestOf E := fun e he => by
    obtain ⟨t, ht⟩ := kept_prefix pre (x :: post)
    rw [hf, ht]
    exact List.mem_append_left _ he
  obtain ⟨L, h1, h2⟩ := acyc_way (kept_acyc pre) ((kept_conn pre _ _).2 hc)
  refine ⟨L, h1.mono hsub, h2, fun e he => ?_⟩
  have hek := h1.sub e he
  have hep : e ∈ pre := (kept_sub pre).mem hek
  have hord := sortE_order E
  rw [hS] at hord
  have hlt := (List.pairwise_append.1 hord).2.2 e hep x (by simp)
  have heE : e ∈ E := forestOf_sub E e (hsub e hek)
  have hne : e.id ≠ x.id := fun h => hn ((id_inj hid heE hx h) ▸ hsub e hek)
  unfold aheadB
  rw [decide_eq_true_iff]
  omega

/-- no more of those that are apart than of those that cover them -/
theorem reps_le {E : List Edg} {R R' : List Int} (h : R'.Pairwise fun a b => ¬ Conn E a b) (hc : ∀ x ∈ R', ∃ r ∈ R, Conn E r x) : R'.length ≤ R.length := by
  have hch : ∀ x, ∃ r, x ∈ R' → r ∈ R ∧ Conn E r x := fun x => by
    by_cases hx : x ∈ R'
    · obtain ⟨r, h1, h2⟩ := hc x hx
      exact ⟨r, fun _ => ⟨h1, h2⟩⟩
    · exact ⟨0, fun h => absurd h hx⟩
  have hf := fun x => Classical.choose_spec (hch x)
  have hnd : (R'.map fun x => Classical.choose (hch x)).Nodup := by
    unfold List.Nodup
    rw [List.pairwise_map]
    refine List.Pairwise.imp_of_mem ?_ h
    intro a b ha hb hab heq
    obtain ⟨_, h1⟩ := hf a ha
    obtain ⟨_, h2⟩ := hf b hb
    rw [heq] at h1
    exact hab (h1.symm.trans h2)
  have := nodup_le hnd (m := R) fun r hr => by
    obtain ⟨x, hx, rfl⟩ := List.mem_map.1 hr
    exact (hf x hx).1
  simpa using this

theorem firsts_reps {E : List Edg} {V R : List Int} (h : R.Pairwise fun a b => ¬ Conn E a b) (hs : ∀ x ∈ R, x ∈ V) (hc : ∀ x ∈ V, ∃ r ∈ R, Conn E r x) : (firsts E V).length = R.length := by
  refine Nat.le_antisymm (reps_le (firsts_apart E V) fun x hx => hc x (firsts_sub E V x hx)) (reps_le h fun x hx => firsts_cover E V x (hs x hx))

theorem firsts_join {E : List Edg} {V : List Int} {e : Edg} (hu : e.u ∈ V) (hv : e.v ∈ V) (hn : ¬ Conn E e.u e.v) : (firsts (E ++ [e]) V).length + 1 = (firsts E V).length := by
  obtain ⟨fu, fu1, fu2⟩ := firsts_cover E V e.u hu
  obtain ⟨fv, fv1, fv2⟩ := firsts_cover E V e.v hv
  have hne : fu ≠ fv := fun h => hn (fu2.symm.trans (h ▸ fv2))
  have hap := firsts_apart E V
  have hnd : (firsts E V).Nodup := hap.imp fun {a b} h (k : a = b) => h (by subst k; exact Conn.refl _)
  have huniq : ∀ a ∈ firsts E V, ∀ b ∈ firsts E V, Conn E a b → a = b := fun a ha b hb h => by
    obtain ⟨i, hi, rfl⟩ := List.getElem_of_mem ha
    obtain ⟨j, hj, rfl⟩ := List.getElem_of_mem hb
    have := firsts_idx E V hi hj h
    subst this
    rfl
  have h1 := firsts_reps (E := E ++ [e]) (V := V) (R := (firsts E V).erase fv) ?_ (fun x hx => firsts_sub E V x (List.mem_of_mem_erase hx)) ?_
  · rw [h1, List.length_erase_of_mem fv1]
    have := List.length_pos_of_mem fv1
    omega
  · refine List.Pairwise.imp_of_mem ?_ (hap.sublist List.erase_sublist)
    intro a b ha hb hab hc
    rw [hnd.mem_erase_iff] at ha hb
    rcases conn_snoc.1 hc with h | ⟨h, k⟩ | ⟨h, k⟩
    · exact hab h
    · exact hb.1 (huniq b hb.2 fv fv1 (k.symm.trans fv2.symm))
    · exact ha.1 (huniq a ha.2 fv fv1 (h.trans fv2.symm))
  · intro x hx
    obtain ⟨r, r1, r2⟩ := firsts_cover E V x hx
    by_cases hr : r = fv
    · subst hr
      refine ⟨fu, (hnd.mem_erase_iff).2 ⟨hne, fu1⟩, conn_snoc.2 (.inr (.inl ⟨fu2, fv2.symm.trans r2⟩))⟩
    · exact ⟨r, (hnd.mem_erase_iff).2 ⟨hr, r1⟩, conn_snoc.2 (.inl r2)⟩

theorem firsts_congr {E F : List Edg} (h : ∀ a b, Conn E a b ↔ Conn F a b) (l : List Int) : firsts E l = firsts F l := by
  have : connB E = connB F := by
    funext a b
    rw [Bool.eq_iff_iff, connB_iff, connB_iff, h]
  unfold firsts
  rw [this]
theorem treesOf_congr {E F : List Edg} (h : ∀ a b, Conn E a b ↔ Conn F a b) (l : List Int) : treesOf E l = treesOf F l := by
  have : connB E = connB F := by
    funext a b
    rw [Bool.eq_iff_iff, connB_iff, connB_iff, h]
  unfold treesOf
  rw [firsts_congr h, this]

/-- each edge that is kept takes one tree away -/
theorem kept_count {V : List Int} (hV : V.Nodup) : ∀ S, (∀ e ∈ S, e.u ∈ V ∧ e.v ∈ V) → (firsts S V).length + (kept S).length = V.length := by
  refine snocE_ind ?_ ?_
  · intro _
    rw [kept_nil, firsts_reps (R := V) (hV.imp fun h k => h (conn_nil k)) (fun _ h => h) (fun x hx => ⟨x, hx, .refl _⟩)]
    rfl
  · intro l x ih h
    have ih' := ih fun e he => h e (List.mem_append_left _ he)
    rw [kept_snoc]
    by_cases hc : Conn l x.u x.v
    · rw [if_pos (connB_iff.2 hc), firsts_congr (F := l) (fun a b => by
        rw [conn_snoc]
        exact ⟨fun h => by
          rcases h with h | ⟨h, k⟩ | ⟨h, k⟩
          · exact h
          · exact h.trans (hc.trans k)
          · exact h.trans (hc.symm.trans k), .inl⟩)]
      exact ih'
    · rw [if_neg (fun k => hc (connB_iff.1 k))]
      obtain ⟨h1, h2⟩ := h x (by simp)
      have := firsts_join h1 h2 hc
      simp only [List.length_append, List.length_cons, List.length_nil]
      omega

theorem forest_count {V : List Int} {E : List Edg} (hR : Right V E) : (treesOf E V).length + (forestOf E).length = V.length := by
  have hV : V.Nodup := hR.2.2.1.2.imp fun h k => by omega
  have := kept_count hV (sortE E) fun e he => (hR.2.2.2.1 e ((sortE_perm E).mem_iff.1 he)).2.2
  rw [treesOf_length, firsts_congr (fun a b => conn_perm (sortE_perm E).symm a b) V]
  exact this

end Go.Proofs.YthidhdffiebbgaaGreatDoor
