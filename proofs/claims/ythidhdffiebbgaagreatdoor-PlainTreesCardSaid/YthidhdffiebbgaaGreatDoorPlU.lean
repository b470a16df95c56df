/- The walk of the law PlainTrees. -/
import Derived.Test.YthidhdffiebbgaaGreatDoorPlT
namespace Go.Proofs.YthidhdffiebbgaaGreatDoor
open Go.RowKit Go.Proofs.YthidhdffiebbgaaGreatDoor.Sk

theorem lens_take_le : ∀ (gs : List (List Int)) (k : Nat), lens (gs.take k) ≤ lens gs
  | [], k => by simp [lens]
  | g :: gs, 0 => by simp [lens]
  | g :: gs, k + 1 => by simp only [List.take_succ_cons, lens]; have := lens_take_le gs k; omega

set_option maxRecDepth 100000 in
set_option maxHeartbeats 4000000 in
theorem plainTrees_any (n : Value) (V : List Int) (E : List Edg) (u v : Int) (w : World) (hn : NetAt w n V E) (hu : wf64 u) (hv : wf64 v) :
    Calls Tryz.prog 7 #[n, .int .i64 u, .int .i64 v] w fun e w' => e = .returned (.bool true) ∧ Below w.heap.size w w' := by
  obtain ⟨vs, es, rfl, hV, hE⟩ := hn.ex
  have hb0 : Below w.heap.size w (w.alloc (.cells #[vs, es] 25)) := (Below.refl _ _).alloc (Nat.le_refl _) _
  have A : Aside (NetAt w (.agg #[vs, es]) V E ∧ Below w.heap.size w (w.alloc (.cells #[vs, es] 25)) ∧ RdI w vs V) := ⟨hn, hb0, hV⟩
  clear hn hE hb0
  obtain ⟨va, vcap, rfl, _, hv32, _⟩ := hV
  go_enter Tryz.func7, Tryz.ntmps7
  go_wp2_with fail
  refine (alive_any _).mono ?_
  rintro _ w1 ⟨rfl, hb1⟩
  have hB1 : Below w.heap.size w w1 := A.out.2.1.trans (hb1.mono (by simp))
  have n0 : w1.cell? ⟨w.heap.size, 0, none⟩ = some (.slice va V.length vcap) := by rw [bcell hb1 _ _ (by simp), World.cell?_alloc_at _ _ _ _ rfl]; rfl
  have n1 : w1.cell? ⟨w.heap.size, 1, none⟩ = some es := by rw [bcell hb1 _ _ (by simp), World.cell?_alloc_at _ _ _ _ rfl]; rfl
  have hz1 : w.heap.size < w1.heap.size := by have := hb1.size; simp at this; omega
  have B : Aside (Below w.heap.size w w1) := hB1
  have htr := trees_any _ V E w1 (A.out.1.below hB1)
  clear hb1 hB1
  go_wp2_with fail
  refine htr.mono ?_
  rintro e w2 ⟨⟨outv, svs, rfl, hts⟩, hb2⟩
  clear htr
  have hB2 : Below w.heap.size w w2 := B.out.trans (hb2.mono B.out.size)
  by_cases hR : Right V E
  · rw [checkN_ok hR]
    rw [if_pos hR] at hts
    have m0 : w2.cell? ⟨w.heap.size, 0, none⟩ = some (.slice va V.length vcap) := (bcell hb2 _ _ hz1).trans n0
    have m1 : w2.cell? ⟨w.heap.size, 1, none⟩ = some es := (bcell hb2 _ _ hz1).trans n1
    have hj := joined_any _ V E u v w2 (A.out.1.below hB2) hu hv
    have hVr : RdI w2 (.slice va V.length vcap) V := A.out.2.2.below hB2
    obtain ⟨gs, hgs⟩ : ∃ gs, treesOf E V = gs := ⟨_, rfl⟩
    rw [hgs] at hts
    obtain ⟨oa, ocap, hoa, hgb⟩ := owns_form hts.outer
    subst hoa
    have hgl : gs.length ≤ 2048 := by rw [← hgs, treesOf_length]; exact Nat.le_trans (firsts_le E V) hR.1
    have C : Aside (Below w.heap.size w w2 ∧ OwnsLL w2 w1.heap.size (.slice oa gs.length ocap) svs gs ∧ treesOf E V = gs ∧ Right V E ∧ RdI w2 (.slice va V.length vcap) V) := ⟨hB2, hts, hgs, hR, hVr⟩
    clear hB2 hts hgs hR hVr n0 n1 hb2
    by_cases h100 : (100 : Int) < V.length
    · go_wp2_with fail
      go_ret
      exact ⟨rfl, C.out.1⟩
    · have hlens := lens_trees E V
      rw [C.out.2.2.1] at hlens
      have hLe : Aside (lens gs = V.length) := hlens
      clear hlens
      go_wp2_with fail
      go_loopg [40, 9, 10, 11] gs.length (fun g i c a b wr => ∃ (k : Nat) (ai bi : Int), k + g = gs.length ∧ i = .int .i64 k ∧ c = .int .i64 (lens (gs.take k)) ∧ a = .int .i64 ai ∧ b = .int .i64 bi ∧ Met gs u ai k [] ∧ Met gs v bi k [] ∧ wr = w2)
      case atStart => exact ⟨0, -1, -1, by omega, rfl, rfl, rfl, rfl, Met.start _ _, Met.start _ _, rfl⟩
      case round =>
        obtain ⟨k, ai, bi, hk, rfl, rfl, rfl, rfl, hma, hmb, rfl⟩ := hrel
        obtain ⟨gk_outer, hgko⟩ : ∃ q, q = gk := ⟨_, rfl⟩
        rw [← hgko] at hk
        by_cases hlt : k < gs.length
        · obtain ⟨c1, c2, c3, c4, c5⟩ := C.out
          obtain ⟨gb, hgbe⟩ := hgb (by omega)
          subst hgbe
          obtain ⟨g, hg⟩ : ∃ g, gs[k] = g := ⟨_, rfl⟩
          have hgk2 : gs[k]? = some g := by rw [List.getElem?_eq_getElem hlt, hg]
          have hsl : k < svs.length := by rw [c2.len]; exact hlt
          obtain ⟨s, hs⟩ : ∃ s, svs[k] = s := ⟨_, rfl⟩
          have hsk : svs[k]? = some s := by rw [List.getElem?_eq_getElem hsl, hs]
          have hown := c2.inner k s g hsk hgk2
          obtain ⟨sa, scap, rfl, _⟩ := owns_form hown
          have cellI : wr.cell? ⟨gb, k, none⟩ = some (.slice sa g.length scap) := by rw [c2.outer.cellAt k (by omega)]; exact hsk
          have hsub := tr_sub (E := E) (l := V) (i := k) (g := g) (by rw [c3]; exact hgk2)
          obtain ⟨f, t, hf, hgt⟩ := tr_head E V k g (by rw [c3]; exact hgk2)
          have hgV : g.length ≤ V.length := hsub.length_le
          have hpw : g.Pairwise (· < ·) := c4.2.2.1.2.sublist hsub
          have hRI := rdI_own hown (fun x hx => (c4.2.2.1.1 x (hsub.mem hx)).wf) (by omega)
          have hN : lens (gs.take k) ≤ 100 := by have := lens_take_le gs k; have := hLe.out; omega
          have hsn : lens (gs.take (k + 1)) = lens (gs.take k) + g.length := by rw [List.take_succ_eq_append_getElem hlt, lens_snoc, hg]
          obtain ⟨N, hNe⟩ : ∃ N, lens (gs.take k) = N := ⟨_, rfl⟩
          rw [hNe] at hN hsn ⊢
          have hprev : 0 < k → ∃ (sb : Nat) (pcap pl : Nat) (f' : Int), 0 < pl ∧ wr.cell? ⟨gb, k - 1, none⟩ = some (.slice (some ⟨sb, 0, none⟩) pl pcap) ∧ wr.cell? ⟨sb, 0, none⟩ = some (.int .i64 f') ∧ f' < f := by
            intro hk0
            have hlt1 : k - 1 < gs.length := by omega
            have hg1 : gs[k - 1]? = some gs[k - 1] := List.getElem?_eq_getElem hlt1
            have hs1l : k - 1 < svs.length := by rw [c2.len]; exact hlt1
            have hs1 : svs[k - 1]? = some svs[k - 1] := List.getElem?_eq_getElem hs1l
            have hown1 := c2.inner (k - 1) _ _ hs1 hg1
            obtain ⟨f', t', hf', hgt'⟩ := tr_head E V (k - 1) _ (by rw [c3]; exact hg1)
            have hpos : 0 < gs[k - 1].length := by rw [hgt']; simp
            obtain ⟨pa, pcap, hpe, hpa⟩ := owns_form hown1
            obtain ⟨sb, hsb⟩ := hpa hpos
            subst hsb
            rw [hpe] at hown1 hs1
            refine ⟨sb, pcap, gs[k - 1].length, f', hpos, ?_, ?_, ?_⟩
            · rw [c2.outer.cellAt (k - 1) (by omega)]; exact hs1
            · rw [hown1.cellAt 0 (by omega), hgt']; rfl
            · have hfp := c4.2.2.1.2.sublist (firsts_sublist E V)
              rw [List.pairwise_iff_getElem] at hfp
              obtain ⟨q1, q2⟩ := List.getElem?_eq_some_iff.1 hf
              obtain ⟨q3, q4⟩ := List.getElem?_eq_some_iff.1 hf'
              have := hfp (k - 1) k q3 q1 (by omega)
              rw [q2, q4] at this
              exact this
          have D : Aside (RdI wr (.slice sa g.length scap) g ∧ g.Pairwise (· < ·) ∧ (∀ x ∈ g, x ∈ V) ∧ gs[k]? = some g ∧ g = f :: t ∧ k + gk_outer = gs.length ∧ lens (gs.take (k + 1)) = N + g.length ∧ Met gs u ai k [] ∧ Met gs v bi k [] ∧ RdI wr (.slice va V.length vcap) V) :=
            ⟨hRI, hpw, fun x hx => hsub.mem hx, hgk2, hgt, hk, hsn, hma, hmb, c5⟩
          have hglen : 0 < g.length := by rw [hgt]; simp
          have hg0 : ((g.length : Int) == 0) = false := by rw [beq_eq_false_iff_ne]; omega
          clear hRI hpw hsub hgk2 hgt hk hsn hma hmb c1 c2 c3 c4 c5 hown hsk hs hg hf hNe
          go_wp2_with fail
          go_loopg [47, 9, 10, 11] g.length (fun gg i c a b wx => ∃ (k2 : Nat) (aj bj : Int), k2 + gg = g.length ∧ i = .int .i64 k2 ∧ c = .int .i64 ((N : Int) + k2) ∧ a = .int .i64 aj ∧ b = .int .i64 bj ∧ Met gs u aj k (g.take k2) ∧ Met gs v bj k (g.take k2) ∧ wx = wr)
          case atStart => exact ⟨0, ai, bi, by omega, rfl, by simp, rfl, rfl, D.out.2.2.2.2.2.2.2.1, D.out.2.2.2.2.2.2.2.2.1, rfl⟩
          case round =>
            obtain ⟨k2, aj, bj, hk2, rfl, rfl, rfl, rfl, hma, hmb, rfl⟩ := hrel
            by_cases hlt2 : k2 < g.length
            · obtain ⟨d1, d2, d3, d4, d5, d6, d7, d8, d9, d10⟩ := D.out
              have hd1 := d1
              obtain ⟨_, hwx, sbk, soff, hsa, _, g0⟩ := d1.get hlt2
              subst hsa
              obtain ⟨x, hx⟩ : ∃ x, g[k2] = x := ⟨_, rfl⟩
              rw [hx] at g0 hwx
              have hxg : x ∈ g := hx ▸ List.getElem_mem hlt2
              have hsnoc : g.take (k2 + 1) = g.take k2 ++ [x] := by rw [List.take_succ_eq_append_getElem hlt2, hx]
              have hxV : decide (x ∈ V) = true := by simp [d3 x hxg]
              have hhas := has_ref (.slice va V.length vcap) V x wr d10
              rw [hxV] at hhas
              have Q : Aside (k2 + gk = g.length ∧ Met gs u aj k (g.take k2) ∧ Met gs v bj k (g.take k2) ∧ g.take (k2 + 1) = g.take k2 ++ [x] ∧ gs[k]? = some g ∧ x ∈ g) := ⟨hk2, hma, hmb, hsnoc, d4, hxg⟩
              have hxu : (x == u) = true ∨ (x == u) = false := by cases (x == u) <;> simp
              have hxv : (x == v) = true ∨ (x == v) = false := by cases (x == v) <;> simp
              by_cases hk20 : k2 = 0
              · have hxf : x = f := by
                  subst hk20
                  rw [← hx]
                  simp [d5]
                subst hk20
                simp only [Nat.add_zero] at g0
                by_cases hk0 : k = 0
                · have hkb : ((0 : Int) < (k : Int)) = False := by apply eq_false; omega
                  have hkn : (0 < k) = False := by apply eq_false; omega
                  clear hma hmb hsnoc hxg d2 d3 d4 d5 d6 d7 d8 d9 d10 hd1 hxV hx hk2 d1 hprev hxf hk0
                  rcases hxu with hxu | hxu <;> rcases hxv with hxv | hxv
                  all_goals (
                    go_wp2_with (go_at_call 30; refine hhas.mono ?_; rintro _ _ ⟨rfl, rfl⟩)
                    obtain ⟨q1, q2, q3, q4, q5, q6⟩ := Q.out
                    go_roundg (gk - 1)
                    case rel =>
                      refine ⟨0 + 1, _, _, by omega, by go_num, by go_num, rfl, rfl, ?_, ?_, rfl⟩
                      · rw [q4]
                        first
                          | exact q2.miss (by simpa using hxu)
                          | exact Met.hit q5 ((show x = u by simpa using hxu) ▸ q6)
                      · rw [q4]
                        first
                          | exact q3.miss (by simpa using hxv)
                          | exact Met.hit q5 ((show x = v by simpa using hxv) ▸ q6)
                    case measure => omega)
                · have hpos : 0 < k := by omega
                  obtain ⟨sb, pcap, pl, f', hpl, y0, y1, y2⟩ := hprev hpos
                  rw [← hxf] at y2
                  clear hma hmb hsnoc hxg d2 d3 d4 d5 d6 d7 d8 d9 d10 hd1 hxV hx hk2 d1 hprev hxf
                  rcases hxu with hxu | hxu <;> rcases hxv with hxv | hxv
                  all_goals (
                    go_wp2_with (go_at_call 30; refine hhas.mono ?_; rintro _ _ ⟨rfl, rfl⟩)
                    obtain ⟨q1, q2, q3, q4, q5, q6⟩ := Q.out
                    go_roundg (gk - 1)
                    case rel =>
                      refine ⟨0 + 1, _, _, by omega, by go_num, by go_num, rfl, rfl, ?_, ?_, rfl⟩
                      · rw [q4]
                        first
                          | exact q2.miss (by simpa using hxu)
                          | exact Met.hit q5 ((show x = u by simpa using hxu) ▸ q6)
                      · rw [q4]
                        first
                          | exact q3.miss (by simpa using hxv)
                          | exact Met.hit q5 ((show x = v by simpa using hxv) ▸ q6)
                    case measure => omega)
              · have hpos2 : 0 < k2 := by omega
                have hb0 : ((k2 : Int) == 0) = false := by rw [beq_eq_false_iff_ne]; omega
                obtain ⟨-, -, sbk', soff', hsa', -, y0⟩ := hd1.get (k := k2 - 1) (by omega)
                simp only [Option.some.injEq, Addr.mk.injEq, and_true] at hsa'
                obtain ⟨rfl, rfl⟩ := hsa'
                obtain ⟨y, hy⟩ : ∃ y, g[k2 - 1]'(by omega) = y := ⟨_, rfl⟩
                rw [hy] at y0
                have hyx : y < x := by
                  have := d2
                  rw [List.pairwise_iff_getElem] at this
                  have := this (k2 - 1) k2 (by omega) hlt2 (by omega)
                  rw [hx, hy] at this
                  exact this
                by_cases hk0 : k = 0
                · have hkb : ((0 : Int) < (k : Int)) = False := by apply eq_false; omega
                  have hkn : (0 < k) = False := by apply eq_false; omega
                  clear hma hmb hsnoc hxg d2 d3 d4 d5 d6 d7 d8 d9 d10 hd1 hxV hx hk2 d1 hprev hy hk20 hk0
                  rcases hxu with hxu | hxu <;> rcases hxv with hxv | hxv
                  all_goals (
                    go_wp2_with (go_at_call 30; refine hhas.mono ?_; rintro _ _ ⟨rfl, rfl⟩)
                    obtain ⟨q1, q2, q3, q4, q5, q6⟩ := Q.out
                    go_roundg (gk - 1)
                    case rel =>
                      refine ⟨k2 + 1, _, _, by omega, by go_num, by go_num, rfl, rfl, ?_, ?_, rfl⟩
                      · rw [q4]
                        first
                          | exact q2.miss (by simpa using hxu)
                          | exact Met.hit q5 ((show x = u by simpa using hxu) ▸ q6)
                      · rw [q4]
                        first
                          | exact q3.miss (by simpa using hxv)
                          | exact Met.hit q5 ((show x = v by simpa using hxv) ▸ q6)
                    case measure => omega)
                · have hpos : 0 < k := by omega
                  clear hma hmb hsnoc hxg d2 d3 d4 d5 d6 d7 d8 d9 d10 hd1 hxV hx hk2 d1 hprev hy hk20 hk0
                  rcases hxu with hxu | hxu <;> rcases hxv with hxv | hxv
                  all_goals (
                    go_wp2_with (go_at_call 30; refine hhas.mono ?_; rintro _ _ ⟨rfl, rfl⟩)
                    obtain ⟨q1, q2, q3, q4, q5, q6⟩ := Q.out
                    go_roundg (gk - 1)
                    case rel =>
                      refine ⟨k2 + 1, _, _, by omega, by go_num, by go_num, rfl, rfl, ?_, ?_, rfl⟩
                      · rw [q4]
                        first
                          | exact q2.miss (by simpa using hxu)
                          | exact Met.hit q5 ((show x = u by simpa using hxu) ▸ q6)
                      · rw [q4]
                        first
                          | exact q3.miss (by simpa using hxv)
                          | exact Met.hit q5 ((show x = v by simpa using hxv) ▸ q6)
                    case measure => omega)
            · have hkk : k2 = g.length := by omega
              subst hkk
              rw [List.take_length] at hma hmb
              obtain ⟨d1, d2, d3, d4, d5, d6, d7, d8, d9, d10⟩ := D.out
              have Q : Aside (Met gs u aj (k + 1) [] ∧ Met gs v bj (k + 1) [] ∧ k + gk_outer = gs.length ∧ lens (gs.take (k + 1)) = N + g.length) := ⟨Met.next d4 hma, Met.next d4 hmb, d6, d7⟩
              clear hma hmb d1 d2 d3 d4 d5 d6 d7 d8 d9 d10
              go_wp2_with fail
              obtain ⟨q1, q2, q3, q4⟩ := Q.out
              go_roundg (gk_outer - 1)
              case rel =>
                exact ⟨k + 1, aj, bj, by omega, by go_num, by rw [q4]; go_num, rfl, rfl, q1, q2, rfl⟩
              case measure => omega
        · have hkk : k = gs.length := by omega
          subst hkk
          rw [List.take_length]
          obtain ⟨c1, c2, c3, c4, c5⟩ := C.out
          rw [← c3] at hma hmb
          rw [hLe.out]
          have hlens : (V.length : Int) = V.length := rfl
          have D : Aside (Below w.heap.size w wr) := c1
          by_cases ha : ai < 0
          · have hnu := met_none hma ha
            have hck : checkA V E [u, v] = 51 := checkA_out c4 (by simp [hnu])
            have hjb : joinedB V E u v = false := by unfold joinedB; rw [if_neg (by rw [hck]; omega)]
            rw [hck, hjb] at hj
            clear hma hmb c1 c2 c3 c4 c5 hck hjb hnu hlens
            go_wp2_with fail
            refine hj.mono ?_
            rintro _ w3 ⟨rfl, hb3⟩
            have F : Aside (Below w.heap.size w w3) := D.out.trans (hb3.mono D.out.size)
            have k0 : w3.cell? ⟨w.heap.size, 0, none⟩ = some (.slice va V.length vcap) := (bcell hb3 _ _ (World.block_lt_of_cell? _ _ m0)).trans m0
            have k1 : w3.cell? ⟨w.heap.size, 1, none⟩ = some es := (bcell hb3 _ _ (World.block_lt_of_cell? _ _ m0)).trans m1
            clear hb3 hj
            go_wp2_with fail
            go_ret
            exact ⟨rfl, F.out⟩
          · by_cases hb : bi < 0
            · have hnv := met_none hmb hb
              have hck : checkA V E [u, v] = 51 := checkA_out c4 (by simp [hnv])
              have hjb : joinedB V E u v = false := by unfold joinedB; rw [if_neg (by rw [hck]; omega)]
              rw [hck, hjb] at hj
              clear hma hmb c1 c2 c3 c4 c5 hck hjb hnv hlens
              go_wp2_with fail
              refine hj.mono ?_
              rintro _ w3 ⟨rfl, hb3⟩
              have F : Aside (Below w.heap.size w w3) := D.out.trans (hb3.mono D.out.size)
              have k0 : w3.cell? ⟨w.heap.size, 0, none⟩ = some (.slice va V.length vcap) := (bcell hb3 _ _ (World.block_lt_of_cell? _ _ m0)).trans m0
              have k1 : w3.cell? ⟨w.heap.size, 1, none⟩ = some es := (bcell hb3 _ _ (World.block_lt_of_cell? _ _ m0)).trans m1
              clear hb3 hj
              go_wp2_with fail
              go_ret
              exact ⟨rfl, F.out⟩
            · obtain ⟨huV, hvV, hcb⟩ := met_same hma hmb (by omega) (by omega)
              have hck : checkA V E [u, v] = 0 := checkA_ok c4 (by simp [huV, hvV])
              have hjb : joinedB V E u v = (ai == bi) := by unfold joinedB; rw [if_pos hck, hcb]
              rw [hck, hjb] at hj
              have hab : (ai == bi) = true ∨ (ai == bi) = false := by cases (ai == bi) <;> simp
              clear hma hmb c1 c2 c3 c4 c5 hck hjb huV hvV hcb hlens
              rcases hab with hab | hab
              all_goals (
                rw [hab] at hj
                go_wp2_with fail
                refine hj.mono ?_
                rintro _ w3 ⟨rfl, hb3⟩
                have F : Aside (Below w.heap.size w w3) := D.out.trans (hb3.mono D.out.size)
                have k0 : w3.cell? ⟨w.heap.size, 0, none⟩ = some (.slice va V.length vcap) := (bcell hb3 _ _ (World.block_lt_of_cell? _ _ m0)).trans m0
                have k1 : w3.cell? ⟨w.heap.size, 1, none⟩ = some es := (bcell hb3 _ _ (World.block_lt_of_cell? _ _ m0)).trans m1
                clear hb3 hj
                go_wp2_with fail
                go_ret
                exact ⟨rfl, F.out⟩)
  · rw [checkN_no hR]
    rw [if_neg hR] at hts
    obtain ⟨oa, ocap, hoa, _⟩ := owns_form hts.outer
    subst hoa
    have C : Aside (Below w.heap.size w w2) := hB2
    clear hB2 hts hR hb2
    go_wp2_with fail
    go_ret
    exact ⟨rfl, C.out⟩

end Go.Proofs.YthidhdffiebbgaaGreatDoor
