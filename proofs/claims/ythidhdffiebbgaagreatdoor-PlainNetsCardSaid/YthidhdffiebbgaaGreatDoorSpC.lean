/- The walk of the law PlainSpans. -/
import Derived.Test.YthidhdffiebbgaaGreatDoorSpanB
import Derived.Test.YthidhdffiebbgaaGreatDoorFloatB
import Derived.Test.YthidhdffiebbgaaGreatDoorPpB
import Derived.Laws.Cover3
namespace Go.Proofs.YthidhdffiebbgaaGreatDoor
open Go.RowKit Go.Proofs.YthidhdffiebbgaaGreatDoor.Sk

theorem bl_allocS {w0 W : World} {B : Nat} (h : Below B w0 W) (o : Obj) (hB : B ≤ w0.heap.size := by first | exact Nat.le_refl _ | omega) : Below B w0 (W.alloc o) := h.alloc (Nat.le_trans hB h.size) _

attribute [local go_sem] run_store_complex

theorem conn_in {V : List Int} {E : List Edg} (hE : ∀ e ∈ E, okE V e) : ∀ {a b : Int}, Conn E a b → (a ∈ V ↔ b ∈ V)
  | _, _, .refl _ => Iff.rfl
  | _, _, .edge h => ⟨fun _ => (hE _ h).2.2.2, fun _ => (hE _ h).2.2.1⟩
  | _, _, .symm h => (conn_in hE h).symm
  | _, _, .trans h k => (conn_in hE h).trans (conn_in hE k)

/-- what the loops keep of the greatest distance -/
def MostRel (V : List Int) (E : List Edg) (u t m sn : Int) (k : Nat) : Prop :=
  -1 ≤ m ∧ m ≤ 70368744177664 ∧ m ≤ t ∧ (sn ≤ 25 → ∀ a ∈ V.take k, Conn E u a → ∀ b ∈ V, Conn E u b → distF (forestOf E) a b ≤ 70368744177664 → distF (forestOf E) a b ≤ m)

theorem MostRel.done {V : List Int} {E : List Edg} {u t m sn : Int} (hR : Right V E) (huV : u ∈ V) (hD : Diam (forestOf E) u t) (ht : t ≤ 70368744177664) (h : MostRel V E u t m sn V.length) : m = t ∨ (25 < sn ∧ m ≤ t) := by
  obtain ⟨h1, h2, h3, h4⟩ := h
  by_cases hs : sn ≤ 25
  · left
    obtain ⟨a, b, ha, hb, hab⟩ := hD.2
    have ha' := (forest_conn E u a).1 ha
    have hb' := (forest_conn E u b).1 hb
    have := h4 hs a (by rw [List.take_length]; exact (conn_in hR.2.2.2.1 ha').1 huV) ha' b ((conn_in hR.2.2.2.1 hb').1 huV) hb' (by omega)
    omega
  · right
    exact ⟨by omega, h3⟩

theorem MostRel.skip {V : List Int} {E : List Edg} {u t m sn : Int} {k : Nat} (hk : k < V.length) (h : MostRel V E u t m sn k) (hn : ¬ Conn E u V[k] ∨ 25 < sn) : MostRel V E u t m sn (k + 1) := by
  obtain ⟨h1, h2, h3, h4⟩ := h
  refine ⟨h1, h2, h3, fun hs a ha hc => ?_⟩
  rw [List.take_succ_eq_append_getElem hk, List.mem_append, List.mem_singleton] at ha
  rcases ha with ha | rfl
  · exact h4 hs a ha hc
  · rcases hn with hn | hn
    · exact absurd hc hn
    · omega

/-- what the inner loop keeps -/
def MostIn (V : List Int) (E : List Edg) (u v t m m2 : Int) (k2 : Nat) : Prop :=
  m ≤ m2 ∧ m2 ≤ 70368744177664 ∧ m2 ≤ t ∧ ∀ b ∈ V.take k2, Conn E u b → distF (forestOf E) v b ≤ 70368744177664 → distF (forestOf E) v b ≤ m2

theorem MostIn.start {V : List Int} {E : List Edg} {u v t m sn : Int} {k : Nat} (h : MostRel V E u t m sn k) : MostIn V E u v t m m 0 :=
  ⟨Int.le_refl _, h.2.1, h.2.2.1, fun b hb => by simp at hb⟩

theorem MostIn.out {V : List Int} {E : List Edg} {u t m m2 sn : Int} {k : Nat} (hk : k < V.length) (h : MostRel V E u t m sn k) (hi : MostIn V E u V[k] t m m2 V.length) : MostRel V E u t m2 (sn + 1) (k + 1) := by
  obtain ⟨h1, h2, h3, h4⟩ := h
  obtain ⟨g1, g2, g3, g4⟩ := hi
  refine ⟨by omega, g2, g3, fun hs a ha hc b hb hcb hd => ?_⟩
  rw [List.take_succ_eq_append_getElem hk, List.mem_append, List.mem_singleton] at ha
  rcases ha with ha | rfl
  · have := h4 (by omega) a ha hc b hb hcb hd
    omega
  · exact g4 b (by rw [List.take_length]; exact hb) hcb hd

theorem MostIn.keep {V : List Int} {E : List Edg} {u v t m m2 : Int} {k2 : Nat} (hk : k2 < V.length) (h : MostIn V E u v t m m2 k2) (hn : Conn E u V[k2] → distF (forestOf E) v V[k2] ≤ 70368744177664 → distF (forestOf E) v V[k2] ≤ m2) : MostIn V E u v t m m2 (k2 + 1) := by
  obtain ⟨h1, h2, h3, h4⟩ := h
  refine ⟨h1, h2, h3, fun b hb => ?_⟩
  rw [List.take_succ_eq_append_getElem hk, List.mem_append, List.mem_singleton] at hb
  rcases hb with hb | rfl
  · exact h4 b hb
  · exact hn

theorem MostIn.more {V : List Int} {E : List Edg} {u v t m m2 s : Int} {k2 : Nat} (hk : k2 < V.length) (h : MostIn V E u v t m m2 k2) (hs : distF (forestOf E) v V[k2] = s) (hgt : m2 < s) (hle : s ≤ 70368744177664) (hst : s ≤ t) : MostIn V E u v t m s (k2 + 1) := by
  obtain ⟨h1, h2, h3, h4⟩ := h
  refine ⟨by omega, hle, hst, fun b hb hc hd => ?_⟩
  rw [List.take_succ_eq_append_getElem hk, List.mem_append, List.mem_singleton] at hb
  rcases hb with hb | rfl
  · have := h4 b hb hc hd
    omega
  · omega

theorem conv_back {n : Int} (h0 : 0 ≤ n) (h1 : n ≤ 70368744177664) (w : World) : (convert 69 2 (.float .f64 (floatOfInt .f64 n))).run Tryz.prog w = .ok (.int .i64 n) w :=
  run_convert_float_int w 69 2 .f64 .i64 _ n (by kernel_rfl) Tryz.underlying2 (float_back h0 h1)

/-- what Along tells of two vertices, by how far they are apart -/
theorem along_dist {V : List Int} {E : List Edg} {u v : Int} {L : List Edg} {c : Int} (hR : Right V E) (hu : u ∈ V) (hv : v ∈ V) (h : PathA V E u v L c) :
    ∃ (mx : Edg) (a b : Nat) (g : Int), alongA L c = (cells5 mx a b, g) ∧ ((¬ Conn E u v ∧ g = 61) ∨ (Conn E u v ∧ 0 ≤ distF (forestOf E) u v ∧ ((distF (forestOf E) u v ≤ 70368744177664 ∧ g = 0 ∧ a = floatOfInt .f64 (distF (forestOf E) u v)) ∨ (70368744177664 < distF (forestOf E) u v ∧ g = 62)))) := by
  have hck : checkA V E [u, v] = 0 := checkA_ok hR fun y hy => by
    simp only [List.mem_cons, List.not_mem_nil, or_false] at hy
    rcases hy with rfl | rfl
    · exact hu
    · exact hv
  by_cases hc : Conn E u v
  · obtain ⟨rfl, h1, h2⟩ := (h.1 hck).1 hc
    have hd := dist_of (forest_acyc E) h1 h2
    have h0 := (sumW_bounds (V := V) L fun y hy => hR.2.2.2.1 y (forestOf_sub E y (h1.sub y hy))).1
    obtain ⟨mx, a, b, g, k1, k2, k3⟩ := along0 L
    refine ⟨mx, a, b, g, k1, .inr ⟨hc, by omega, ?_⟩⟩
    by_cases hs : sumW L ≤ 70368744177664
    · obtain ⟨r1, _, r3, _⟩ := k2 hs
      exact .inl ⟨by omega, r1, by rw [hd]; exact r3⟩
    · exact .inr ⟨by omega, k3 hs⟩
  · obtain ⟨rfl, rfl⟩ := (h.1 hck).2 hc
    exact ⟨zE, 0, 0, 61, by unfold alongA; rw [if_pos (by simp)], .inl ⟨hc, rfl⟩⟩

set_option maxRecDepth 100000 in
set_option maxHeartbeats 4000000 in
theorem plainSpans_any (n : Value) (V : List Int) (E : List Edg) (u : Int) (w : World) (hn : NetAt w n V E) (hu : wf64 u) :
    Calls Tryz.prog 6 #[n, .int .i64 u] w fun e w' => e = .returned (.bool true) ∧ Below w.heap.size w w' := by
  obtain ⟨vs, es, rfl, hV, hE⟩ := hn.ex
  have hVr := hV
  obtain ⟨va, vcap, rfl, -, hv8, -⟩ := hV
  have hb0 : Below w.heap.size w (w.alloc (.cells #[.slice va V.length vcap, es] 25)) := (Below.refl _ _).alloc (Nat.le_refl _) _
  have A : Aside (NetAt w (.agg #[.slice va V.length vcap, es]) V E ∧ Below w.heap.size w (w.alloc (.cells #[.slice va V.length vcap, es] 25)) ∧ RdI w (.slice va V.length vcap) V) := ⟨hn, hb0, hVr⟩
  clear hn hVr hE hb0
  go_enter Tryz.func6, Tryz.ntmps6
  go_wp2_with fail
  refine (alive_any _).mono ?_
  rintro _ w1 ⟨rfl, hb1⟩
  have hB1 : Below w.heap.size w w1 := A.out.2.1.trans (hb1.mono (by simp))
  have n0 : w1.cell? ⟨w.heap.size, 0, none⟩ = some (.slice va V.length vcap) := by rw [bcell hb1 _ _ (by simp), World.cell?_alloc_at _ _ _ _ rfl]; rfl
  have n1 : w1.cell? ⟨w.heap.size, 1, none⟩ = some es := by rw [bcell hb1 _ _ (by simp), World.cell?_alloc_at _ _ _ _ rfl]; rfl
  have hz1 : w.heap.size < w1.heap.size := by have := hb1.size; simp at this; omega
  have B := aside' hB1
  clear hb1 hB1
  by_cases h150 : (150 : Int) < V.length
  · go_wp2_with fail
    go_ret
    exact ⟨rfl, B.out⟩
  go_wp2_with fail
  refine (span_any _ V E u w1 (A.out.1.below B.out) hu).mono ?_
  rintro _ w2 ⟨s, c, rfl, hSp, hb2⟩
  have m0 := (bcell hb2 _ 0 hz1).trans n0
  have m1 := (bcell hb2 _ 1 hz1).trans n1
  have hz2 : w.heap.size < w2.heap.size := Nat.lt_of_lt_of_le hz1 hb2.size
  have hB2 := B.out.trans (hb2.mono B.out.size)
  clear hb2 n0 n1 B hz1
  by_cases hck : checkA V E [u] = 0
  · obtain ⟨t, hD, hs, hc⟩ := spanA_diam hSp hck
    have hR := (checkA_in hck).1
    have huV := (checkA_in hck).2 u (by simp)
    have ht0 : 0 ≤ t := by
      have := hD.1 u u (.refl _) (.refl _)
      rw [dist_self (forest_acyc E)] at this
      exact this
    have C := aside' (And.intro hB2 (And.intro hD (And.intro hR huV)))
    have hsc : (t ≤ 70368744177664 ∧ t = s ∧ 0 = c) ∨ (70368744177664 < t ∧ 0 = s ∧ 62 = c) := by
      rw [hs, hc]
      unfold bsum berr
      by_cases h : 70368744177664 < t
      · exact .inr ⟨h, (if_pos h).symm, (if_pos h).symm⟩
      · exact .inl ⟨by omega, (if_neg h).symm, (if_neg h).symm⟩
    have SC := aside' (And.intro hs hc)
    clear hs hc hSp hck hB2 hD hR huV
    rcases hsc with ⟨hT, rfl, rfl⟩ | ⟨hT, rfl, rfl⟩
    all_goals (
      go_wp2_with fail
      go_loopg [42, 7, 8] V.length (fun g i mo se wr => ∃ (k : Nat) (m sn : Int), k + g = V.length ∧ i = .int .i64 k ∧ mo = .int .i64 m ∧ se = .int .i64 sn ∧ 0 ≤ sn ∧ sn ≤ 26 ∧ MostRel V E u t m sn k ∧ Below w2.heap.size w2 wr)
      case atStart => exact ⟨0, -1, 0, by omega, rfl, rfl, rfl, by omega, by omega, ⟨by omega, by omega, by omega, fun _ a ha => by simp at ha⟩, Below.refl _ _⟩
      case round =>
        obtain ⟨k, m, sn, hk, rfl, rfl, rfl, hs0, hs1, hrel, hbel⟩ := hrel
        obtain ⟨gk_outer, hgko⟩ : ∃ q, q = gk := ⟨_, rfl⟩
        rw [← hgko] at hk
        have n0 := (bcell hbel _ 0 hz2).trans m0
        have n1 := (bcell hbel _ 1 hz2).trans m1
        have hz3 : w.heap.size < wr.heap.size := Nat.lt_of_lt_of_le hz2 hbel.size
        have hbw := C.out.1.trans (hbel.mono C.out.1.size)
        by_cases hlt : k < V.length
        · obtain ⟨-, hvw, b, off, hva, hb, g0⟩ := (A.out.2.2.below hbw).get hlt
          subst hva
          obtain ⟨v, hv⟩ : ∃ v, V[k] = v := ⟨_, rfl⟩
          rw [hv] at g0 hvw
          have hvV : v ∈ V := hv ▸ List.getElem_mem hlt
          have hj := joined_any _ V E u v wr (A.out.1.below hbw) hu hvw
          have hck2 : checkA V E [u, v] = 0 := checkA_ok C.out.2.2.1 fun y hy => by
            simp only [List.mem_cons, List.not_mem_nil, or_false] at hy
            rcases hy with rfl | rfl
            · exact C.out.2.2.2
            · exact hvV
          have hjb : joinedB V E u v = connB E u v := by unfold joinedB; rw [if_pos hck2]
          rw [hjb, hck2] at hj
          clear hjb hck2
          have hskip : (¬ Conn E u v ∨ 25 < sn) → MostRel V E u t m sn (k + 1) := fun h => hrel.skip hlt (hv.symm ▸ h)
          by_cases hc : Conn E u v
          · have hcb : connB E u v = true := connB_iff.2 hc
            rw [hcb] at hj
            by_cases h25 : 25 < sn
            · have K := aside' (And.intro hbel (And.intro (hskip (.inr h25)) hk))
              clear hskip hrel hbel hbw hcb hc hvV hv hk
              go_wp2_with fail
              refine hj.mono ?_
              rintro _ w3 ⟨rfl, hb3⟩
              have K2 := aside' hb3
              clear hb3 hj
              go_wp2_with fail
              go_roundg (gk_outer - 1)
              case rel => exact ⟨k + 1, m, sn, by have := K.out.2.2; omega, by go_num, rfl, rfl, hs0, hs1, K.out.2.1, K.out.1.trans (K2.out.mono K.out.1.size)⟩
              case measure => have := K.out.2.2; omega
            · have K := aside' (And.intro hbel (And.intro hrel (And.intro hk (And.intro hc (And.intro hv (And.intro hvV hbw))))))
              have hs25 : sn ≤ 25 := by omega
              clear hskip hrel hbel hbw hcb hc hvV hv hk h25
              go_wp2_with fail
              refine hj.mono ?_
              rintro _ w3 ⟨rfl, hb3⟩
              have m0' := (bcell hb3 _ 0 hz3).trans n0
              have m1' := (bcell hb3 _ 1 hz3).trans n1
              have hz4 : w.heap.size < w3.heap.size := Nat.lt_of_lt_of_le hz3 hb3.size
              have K2 := aside' (And.intro (K.out.2.2.2.2.2.2.trans (hb3.mono K.out.2.2.2.2.2.2.size)) (K.out.1.trans (hb3.mono K.out.1.size)))
              clear hb3 hj n0 n1 hz3
              go_wp2_with fail
              refine (span_any _ V E v w3 (A.out.1.below K2.out.1) hvw).mono ?_
              rintro _ w4 ⟨s', c', rfl, hSp, hb4⟩
              obtain ⟨t', hD', hs', hc'⟩ := spanA_diam hSp (checkA_ok C.out.2.2.1 fun y hy => by
                simp only [List.mem_cons, List.not_mem_nil, or_false] at hy
                rw [hy]
                exact K.out.2.2.2.2.2.1)
              have htt := C.out.2.1.one hD' ((forest_conn E u v).2 K.out.2.2.2.1)
              rw [← htt] at hs' hc'
              have e1 := SC.out.1.trans hs'.symm
              have e2 := SC.out.2.trans hc'.symm
              subst e1
              subst e2
              clear hs' hc' htt hD' hSp
              have n0 := (bcell hb4 _ 0 hz4).trans m0'
              have n1 := (bcell hb4 _ 1 hz4).trans m1'
              have hz5 : w.heap.size < w4.heap.size := Nat.lt_of_lt_of_le hz4 hb4.size
              have K3 := aside' (And.intro (K2.out.1.trans (hb4.mono K2.out.1.size)) (K2.out.2.trans (hb4.mono K2.out.2.size)))
              clear hb4 m0' m1' hz4
              go_wp2_with fail
              go_loopg [78, 7] V.length (fun g i mo wx => ∃ (k2 : Nat) (m2 : Int), k2 + g = V.length ∧ i = .int .i64 k2 ∧ mo = .int .i64 m2 ∧ MostIn V E u v t m m2 k2 ∧ Below w4.heap.size w4 wx)
              case atStart => exact ⟨0, m, by omega, rfl, rfl, .start K.out.2.1, Below.refl _ _⟩
              case round =>
                obtain ⟨k2, m2, hk2, rfl, rfl, hin, hbx⟩ := hrel
                have x0 := (bcell hbx _ 0 hz5).trans n0
                have x1 := (bcell hbx _ 1 hz5).trans n1
                have hz6 : w.heap.size < wr.heap.size := Nat.lt_of_lt_of_le hz5 hbx.size
                have hbw := K3.out.1.trans (hbx.mono K3.out.1.size)
                by_cases hlt2 : k2 < V.length
                · obtain ⟨-, hyw, b2, off2, hva2, hb2, g1⟩ := (A.out.2.2.below hbw).get hlt2
                  simp only [Option.some.injEq, Addr.mk.injEq] at hva2
                  obtain ⟨rfl, rfl, -⟩ := hva2
                  obtain ⟨y, hy⟩ : ∃ y, V[k2] = y := ⟨_, rfl⟩
                  rw [hy] at g1 hyw
                  have hyV : y ∈ V := hy ▸ List.getElem_mem hlt2
                  have hal := along_any _ V E v y wr (A.out.1.below hbw) hvw hyw
                  have hkeep : (Conn E u y → distF (forestOf E) v y ≤ 70368744177664 → distF (forestOf E) v y ≤ m2) → MostIn V E u v t m m2 (k2 + 1) := fun h => hin.keep hlt2 (hy.symm ▸ h)
                  have hmore : ∀ d, distF (forestOf E) v y = d → m2 < d → d ≤ 70368744177664 → d ≤ t → MostIn V E u v t m d (k2 + 1) := fun d h => hin.more hlt2 (hy.symm ▸ h)
                  have Q := aside' (And.intro hkeep (And.intro hmore (And.intro hbx (And.intro hk2 (And.intro hyV hbw)))))
                  clear hkeep hmore hbx hyV hy hbw hk2 hin
                  go_wp2_with fail
                  refine hal.mono ?_
                  rintro _ w5 ⟨L, c2, hPA, -, rfl, hb5⟩
                  obtain ⟨mx, fa, fb, g, hale, hcs⟩ := along_dist C.out.2.2.1 K.out.2.2.2.2.2.1 Q.out.2.2.2.2.1 hPA
                  rw [hale]
                  have hbA : BoxA (w5.alloc (.cells (cells5 mx fa fb) 50)) w5.heap.size mx fa fb := World.alloc_heap_new _ _
                  obtain ⟨⟨-, -, -, -, x4⟩, -⟩ := hbA.cells
                  have Q2 := aside' (And.intro hb5 (Q.out.2.2.1.trans (hb5.mono Q.out.2.2.1.size)))
                  unfold cells5 at x4
                  unfold cells5
                  clear hal hale hPA hbA hb5
                  rcases hcs with ⟨hnc, rfl⟩ | ⟨hco, hd0, ⟨hd1, rfl, rfl⟩ | ⟨hd1, rfl⟩⟩
                  · have R := aside' (Q.out.1 fun h => absurd (K.out.2.2.2.1.symm.trans h) hnc)
                    clear hnc
                    go_wp2_with fail
                    go_roundg (gk - 1)
                    case rel => exact ⟨k2 + 1, m2, by have := Q.out.2.2.2.1; omega, by go_num, rfl, R.out, bl_allocS Q2.out.2 _⟩
                    case measure => have := Q.out.2.2.2.1; omega
                  · have hdt := C.out.2.1.1 v y ((forest_conn E u v).2 K.out.2.2.2.1) ((forest_conn E u y).2 (K.out.2.2.2.1.trans hco))
                    obtain ⟨d, hd⟩ : ∃ d, distF (forestOf E) v y = d := ⟨_, rfl⟩
                    have HD := aside' hd
                    rw [hd] at hd0 hd1 hdt x4 ⊢
                    have hcv := conv_back hd0 hd1
                    clear hd hco
                    by_cases hgt : m2 < d
                    · have R := aside' (Q.out.2.1 d HD.out hgt hd1 hdt)
                      go_wp2_with fail
                      go_roundg (gk - 1)
                      case rel => exact ⟨k2 + 1, d, by have := Q.out.2.2.2.1; omega, by go_num, rfl, R.out, bl_allocS Q2.out.2 _⟩
                      case measure => have := Q.out.2.2.2.1; omega
                    · have R := aside' (Q.out.1 fun _ _ => by rw [HD.out]; omega)
                      go_wp2_with fail
                      go_roundg (gk - 1)
                      case rel => exact ⟨k2 + 1, m2, by have := Q.out.2.2.2.1; omega, by go_num, rfl, R.out, bl_allocS Q2.out.2 _⟩
                      case measure => have := Q.out.2.2.2.1; omega
                  · have hdt := C.out.2.1.1 v y ((forest_conn E u v).2 K.out.2.2.2.1) ((forest_conn E u y).2 (K.out.2.2.2.1.trans hco))
                    first
                      | (exfalso; omega)
                      | (have R := aside' (Q.out.1 fun _ h => by omega)
                         clear hd1 hd0 hdt hco
                         go_wp2_with fail
                         go_roundg (gk - 1)
                         case rel => exact ⟨k2 + 1, m2, by have := Q.out.2.2.2.1; omega, by go_num, rfl, R.out, bl_allocS Q2.out.2 _⟩
                         case measure => have := Q.out.2.2.2.1; omega)
                · have hkk : k2 = V.length := by omega
                  subst hkk
                  have R := aside' (MostIn.out (sn := sn) hlt K.out.2.1 (by rw [K.out.2.2.2.2.1]; exact hin))
                  have R2 := aside' (K3.out.2.trans (hbx.mono K3.out.2.size))
                  clear hin hbx hbw
                  go_wp2_with fail
                  go_roundg (gk_outer - 1)
                  case rel => exact ⟨k + 1, m2, sn + 1, by have := K.out.2.2.1; omega, by go_num, rfl, rfl, by omega, by omega, R.out, R2.out⟩
                  case measure => have := K.out.2.2.1; omega
          · have hcb : connB E u v = false := by
              rw [Bool.eq_false_iff]
              exact fun h => hc (connB_iff.1 h)
            rw [hcb] at hj
            have K := aside' (And.intro hbel (And.intro (hskip (.inl hc)) hk))
            clear hskip hrel hbel hbw hcb hc hvV hv hk
            go_wp2_with fail
            refine hj.mono ?_
            rintro _ w3 ⟨rfl, hb3⟩
            have K2 := aside' hb3
            clear hb3 hj
            go_wp2_with fail
            go_roundg (gk_outer - 1)
            case rel => exact ⟨k + 1, m, sn, by have := K.out.2.2; omega, by go_num, rfl, rfl, hs0, hs1, K.out.2.1, K.out.1.trans (K2.out.mono K.out.1.size)⟩
            case measure => have := K.out.2.2; omega
        · have hkk : k = V.length := by omega
          subst hkk
          have K := aside' hbw
          first
            | (have hdone := hrel.done C.out.2.2.1 C.out.2.2.2 C.out.2.1 hT
               clear hrel hbel hbw
               rcases hdone with rfl | ⟨hsn, hmt⟩
               · go_wp2_with fail
                 go_ret
                 exact ⟨rfl, K.out⟩
               · by_cases hmm : m = t
                 · subst hmm
                   go_wp2_with fail
                   go_ret
                   exact ⟨rfl, K.out⟩
                 · have hmb : (m == t) = false := by simp [hmm]
                   clear hmm
                   go_wp2_with fail
                   go_ret
                   exact ⟨rfl, K.out⟩)
            | (clear hrel hbel hbw
               go_wp2_with fail
               go_ret
               exact ⟨rfl, K.out⟩))
  · obtain ⟨rfl, rfl⟩ := hSp.2 hck
    have C := aside' hB2
    obtain ⟨c, hce⟩ : ∃ c, checkA V E [u] = c := ⟨_, rfl⟩
    rw [hce] at hck ⊢
    have h62 : c ≠ 62 := by
      rw [← hce]
      unfold checkA
      split
      · split <;> decide
      · decide
    have b0 : (c != 0) = true := by simp [hck]
    have b1 : (c != 62) = true := by simp [h62]
    clear hSp hce hck h62 hB2
    go_wp2_with fail
    go_ret
    exact ⟨rfl, C.out⟩

end Go.Proofs.YthidhdffiebbgaaGreatDoor
