/- The walks of package plain, sixth part: Trees. -/
import Derived.Test.YthidhdffiebbgaaGreatDoorPlE
import Derived.Test.YthidhdffiebbgaaGreatDoorTreesA
import Derived.Test.YthidhdffiebbgaaGreatDoorSkC
namespace Go.Proofs.YthidhdffiebbgaaGreatDoor
open Go.RowKit Go.Proofs.YthidhdffiebbgaaGreatDoor.Sk

theorem info22 : (Tryz.prog.info? 22).map (fun i => (i.zero, i.size, i.bytes)) = some (some (.slice none 0 0), 1, 24) := by kernel_rfl

/-- the loop over the vertices: what holds at its head -/
def TreesRel (w w1 : World) (V : List Int) (E : List Edg) (pb g : Nat) (i o : Value) (wr : World) : Prop :=
  ∃ (k nn mm : Nat) (M P : Int → Option Int) (svs : List Value), k + g = V.length ∧ i = .int .i64 k ∧ Below w.heap.size w wr ∧ nn ≤ (E.length + k) * 5000 ∧ mm ≤ k ∧ w1.heap.size + 1 ≤ wr.heap.size ∧ w1.heap.size < pb ∧ pb < wr.heap.size ∧
      MapAt Tryz.prog 3 wr w1.heap.size nn (encM M) ∧ MapAt Tryz.prog 3 wr pb mm (encM P) ∧ Dsu M E E.length ∧ Places E M P (V.take k) ∧ OwnsLL wr w.heap.size o svs (treesOf E (V.take k))

/-- what Trees leaves -/
def TreesPost (w : World) (V : List Int) (E : List Edg) (e : Ending) (w' : World) : Prop :=
  (∃ outv svs, e = .returned (.tuple #[outv, .int .i64 (checkN V E)]) ∧ OwnsLL w' w.heap.size outv svs (if Right V E then treesOf E V else [])) ∧ Below w.heap.size w w'

set_option maxRecDepth 100000 in
set_option maxHeartbeats 1000000 in
theorem trees_any (n : Value) (V : List Int) (E : List Edg) (w : World) (hn : NetAt w n V E) :
    Calls Tryz.prog 25 #[n] w (TreesPost w V E) := by
  obtain ⟨vs, es, rfl, hV, hE⟩ := hn.ex
  have hb0 : Below w.heap.size w (w.alloc (.cells #[vs, es] 25)) := (Below.refl _ _).alloc (Nat.le_refl _) _
  have hn0 := hn.below hb0
  have A : Aside (NetAt w (.agg #[vs, es]) V E ∧ RdE w es E ∧ RdI w vs V) := ⟨hn, hE, hV⟩
  have hmm := @run_makeMap Tryz.prog
  clear hn hV hE
  go_enter Tryz.func25, Tryz.ntmps25
  go_wp2_with fail
  refine (checkA_any _ _ V E [] _ hn0 (RdI.nil _) (by simp)).mono ?_
  rintro _ w1 ⟨rfl, hb1⟩
  have hB1 : Below w.heap.size w w1 := hb0.trans (hb1.mono (by simp))
  by_cases hR : Right V E
  · rw [checkA_ok hR (by simp)]
    have n0 : w1.cell? ⟨w.heap.size, 0, none⟩ = some vs := by rw [bcell hb1 _ _ (by simp), World.cell?_alloc_at _ _ _ _ rfl]; rfl
    have n1 : w1.cell? ⟨w.heap.size, 1, none⟩ = some es := by rw [bcell hb1 _ _ (by simp), World.cell?_alloc_at _ _ _ _ rfl]; rfl
    have hz1 : w.heap.size + 1 ≤ w1.heap.size := by have := hb1.size; simpa using this
    have hz2 : w.heap.size < w1.heap.size := by omega
    obtain ⟨ea, ecap, rfl, _, _, _⟩ := A.out.2.1
    obtain ⟨va, vcap, rfl, _, _, _⟩ := A.out.2.2
    have B : Aside (Right V E ∧ Below w.heap.size w w1 ∧ w.heap.size + 1 ≤ w1.heap.size) := ⟨hR, hB1, hz1⟩
    clear hn0 hb0 hb1 hB1 hR hz1
    go_wp2_with fail
    go_loopg [24] E.length (fun g i wr => ∃ (k nn : Nat) (M : Int → Option Int), k + g = E.length ∧ i = .int .i64 k ∧ Below w.heap.size w wr ∧ nn ≤ k * 5000 ∧ w1.heap.size + 1 ≤ wr.heap.size ∧
      wr.cell? ⟨w.heap.size, 0, none⟩ = some (.slice va V.length vcap) ∧ MapAt Tryz.prog 3 wr w1.heap.size nn (encM M) ∧ Dsu M (E.take k) k)
    case atStart =>
      exact ⟨0, 0, fun _ => none, by omega, rfl, B.out.2.1.alloc B.out.2.1.size _, by omega, by simp, by rw [World.cell?_alloc_past _ _ _ hz2]; exact n0, by rw [encM_none]; exact MapAt.made _ _ _, by simpa using Dsu.empty⟩
    case round =>
      obtain ⟨k, nn, M, hk, rfl, hbel, hnn, hsz, hn0, hM, hD⟩ := hrel
      have hE8 : E.length ≤ 2048 := B.out.1.2.1
      by_cases hlt : k < E.length
      · obtain ⟨_, hew, b, off, rfl, hb, g0, g1, g2, g3⟩ := (A.out.2.1.below hbel).get hlt
        obtain ⟨e, hx⟩ : ∃ e, E[k] = e := ⟨_, rfl⟩
        rw [hx] at g0 g1 g2 g3 hew
        have D : Aside (Below w.heap.size w wr ∧ k + gk = E.length ∧ nn ≤ k * 5000 ∧ MapAt Tryz.prog 3 wr w1.heap.size nn (encM M) ∧ Dsu M (E.take k) k ∧ e.wf ∧ E[k] = e ∧ w1.heap.size + 1 ≤ wr.heap.size ∧ E.length ≤ 2048 ∧ wr.cell? ⟨w.heap.size, 0, none⟩ = some (.slice va V.length vcap)) := ⟨hbel, hk, hnn, hM, hD, hew, hx, hsz, hE8, hn0⟩
        clear hbel hk hnn hM hD hew hx hsz hE8 hn0
        go_wp2_with fail
        obtain ⟨d1, d2, d3, d4, d5, d6, d7, d8, d9, d10⟩ := D.out
        refine (join_dsu w1.heap.size nn k M (E.take k) e _ (d4.alloc _) d5 d6.2.1 d6.2.2.1 (by unfold maxLen; omega)).mono ?_
        rintro _ w2 ⟨rfl, M', hM', hD', hg⟩
        have F : Aside (Below w.heap.size w w2 ∧ MapAt Tryz.prog 3 w2 w1.heap.size (nn + 2 * k + 1) (encM M') ∧ Dsu M' (E.take k ++ [e]) (k + 1) ∧ w1.heap.size + 1 ≤ w2.heap.size ∧ w2.cell? ⟨w.heap.size, 0, none⟩ = some (.slice va V.length vcap)) :=
          ⟨(d1.alloc d1.size _).grown hg (by have := d1.size; simp; omega) (fun j hj => by cases hj; exact B.out.2.1.size), hM', hD', by have := hg.size; simp at this; omega,
            hg.cell (by rw [World.cell?_alloc_past _ _ _ (by omega)]; exact d10) (by simp; omega)⟩
        clear d1 d2 d3 d4 d5 d6 d7 d8 d9 d10 hM' hD' hg
        go_wp2_with fail
        obtain ⟨d1, d2, d3, d4, d5, d6, d7, d8, d9, d10⟩ := D.out
        obtain ⟨f1, f2, f3, f4, f5⟩ := F.out
        go_roundg (gk - 1)
        case rel => exact ⟨k + 1, _, M', by omega, by go_num, f1, by omega, f4, f5, f2, by rw [List.take_succ_eq_append_getElem hlt, d7]; exact f3⟩
        case measure => omega
      · have hkk : k = E.length := by omega
        subst hkk
        rw [List.take_length] at hD
        have D : Aside (Below w.heap.size w wr ∧ nn ≤ E.length * 5000 ∧ MapAt Tryz.prog 3 wr w1.heap.size nn (encM M) ∧ Dsu M E E.length ∧ E.length ≤ 2048 ∧ w1.heap.size + 1 ≤ wr.heap.size) := ⟨hbel, hnn, hM, hD, hE8, hsz⟩
        have hs0 : w.heap.size < wr.heap.size := by omega
        clear hbel hnn hM hD hE8
        obtain ⟨wo, rfl⟩ : ∃ wo : World, wo = wr := ⟨_, rfl⟩
        go_wp2_with fail
        go_loopg [39, 8] V.length (fun g i o wx => TreesRel w w1 V E wo.heap.size g i o wx)
        case atStart =>
          obtain ⟨d1, d2, d3, d4, d5, d6⟩ := D.out
          exact ⟨0, nn, 0, M, fun _ => none, [], by omega, rfl, d1.alloc d1.size _, by omega, by omega, by simp; omega, by omega, by simp, d3.alloc _, by rw [encM_none]; exact MapAt.made _ _ _, d4, by simpa using Places.empty E M, by simpa [treesOf, firsts_nil] using OwnsLL.nil _ _⟩
        case round =>
          obtain ⟨k, nn, mm, M, P, svs, hk, rfl, hbel, hnn, hmm', hsz, hpb, hpb', hM, hP, hD, hPl, hLL⟩ := hrel
          have hV8 : V.length ≤ 2048 := B.out.1.1
          have hE8 : E.length ≤ 2048 := B.out.1.2.1
          by_cases hlt : k < V.length
          · obtain ⟨_, hwx, b, off, rfl, hb, g0⟩ := (A.out.2.2.below hbel).get hlt
            obtain ⟨x, hx⟩ : ∃ x, V[k] = x := ⟨_, rfl⟩
            rw [hx] at g0 hwx
            obtain ⟨d0, r, hr⟩ := hD.tot x
            have hwr : wf64 r := hr.wf hD.wf hwx
            have hsnoc : V.take (k + 1) = V.take k ++ [x] := by rw [List.take_succ_eq_append_getElem hlt, hx]
            have hgl : (treesOf E (V.take k)).length ≤ k := by rw [treesOf_length]; have := firsts_le E (V.take k); simp at this; omega
            have F : Aside (Below w.heap.size w wr ∧ k + gk = V.length ∧ nn ≤ (E.length + k) * 5000 ∧ MapAt Tryz.prog 3 wr w1.heap.size nn (encM M) ∧ MapAt Tryz.prog 3 wr wo.heap.size mm (encM P) ∧ Dsu M E E.length ∧ Places E M P (V.take k) ∧ OwnsLL wr w.heap.size u8 svs (treesOf E (V.take k)) ∧ Root M x r ∧ wf64 x ∧ wf64 r ∧ V.take (k + 1) = V.take k ++ [x] ∧ mm ≤ k ∧ w1.heap.size + 1 ≤ wr.heap.size ∧ w1.heap.size < wo.heap.size) :=
              ⟨hbel, hk, hnn, hM, hP, hD, hPl, hLL, ⟨_, hr⟩, hwx, hwr, hsnoc, hmm', hsz, hpb⟩
            clear hbel hk hnn hM hP hD hPl hLL hr hwx hwr hsnoc hmm' hsz hpb hx
            go_wp2_with fail
            obtain ⟨f1, f2, f3, f4, f5, f6, f7, f8, f9, f10, f11, f12, f13, f14, f15⟩ := F.out
            refine (root_dsu w1.heap.size nn E.length M E x r _ f4 f6 f10 f9 (by unfold maxLen; omega)).mono ?_
            rintro _ w2 ⟨rfl, M2, hM2, hD2, hkp, hg⟩
            have hP2 := f5.kept hg (by simp; omega)
            have hL2 := f8.mapKept f4 hg
            have look := hP2.look_ok Tryz.underlying3 Tryz.underlying91 (zero3 w2) f11
            have hB2 : Below w.heap.size w w2 := f1.grown hg (by have := f1.size; omega) (fun j hj => by cases hj; exact B.out.2.1.size)
            have hs2 := hg.size
            have G : Aside (MapAt Tryz.prog 3 w2 w1.heap.size (nn + E.length) (encM M2) ∧ Dsu M2 E E.length ∧ Places E M2 P (V.take k) ∧ MapAt Tryz.prog 3 w2 wo.heap.size mm (encM P) ∧ OwnsLL w2 w.heap.size u8 svs (treesOf E (V.take k)) ∧ Below w.heap.size w w2 ∧ wr.heap.size ≤ w2.heap.size ∧ Root M2 x r) :=
              ⟨hM2, hD2, f7.keeps f6.tot hkp, hP2, hL2, hB2, hs2, hkp.root f9⟩
            clear hM2 hD2 hkp hg hL2 hB2 hs2 hP2 f1 f2 f3 f4 f5 f6 f7 f8 f9 f10 f11 f12 f13 f14 f15
            cases hp : P r with
            | none =>
              simp only [encM, hp, Option.map_none, Option.getD_none, Option.isSome_none] at look
              obtain ⟨g1, g2, g3, g4, g5, g6, g7, g8⟩ := G.out
              obtain ⟨f1, f2, f3, f4, f5, f6, f7, f8, f9, f10, f11, f12, f13, f14, f15⟩ := F.out
              obtain ⟨hno, hPn⟩ := g3.new g2 g8 hp
              obtain ⟨e1, e2⟩ := treesOf_new E (V.take k) x hno
              have hlen := treesOf_length E (V.take k)
              obtain ⟨gs, hgs⟩ : ∃ gs, treesOf E (V.take k) = gs := ⟨_, rfl⟩
              rw [hgs] at g5 hgl e2 hlen
              rw [← hlen] at hPn
              obtain ⟨a8, cap8, rfl, h8⟩ := owns_form g5.outer
              obtain ⟨w2', upd3, hP3, hturn⟩ := g4.store Tryz.underlying3 Tryz.underlying91 (by unfold maxLen; omega) f11 (.int .i64 (gs.length : Int))
              rw [encM_upd] at hP3
              have hgrown := hturn.grown
              have hsz2 := hgrown.size
              have hM3 := g1.kept hgrown (by simp; omega)
              have hB3 := g6.grown hgrown g6.size (fun j hj => by cases hj; omega)
              have hL3 := g5.mapKept g4 hgrown
              obtain ⟨i0, hi, hz0, hz1, hz2⟩ := info_parts info3
              obtain ⟨i1, hi1, hy0, hy1, hy2⟩ := info_parts info22
              have hsz3 : w.heap.size < w2'.heap.size := by omega
              have hgl3 : gs.length ≤ 2048 := by omega
              have T : Aside (MapAt Tryz.prog 3 w2' w1.heap.size (nn + E.length) (encM M2) ∧ MapAt Tryz.prog 3 w2' wo.heap.size (mm + 1) (encM (updI P r gs.length)) ∧ Below w.heap.size w w2' ∧ OwnsLL w2' w.heap.size (.slice a8 gs.length cap8) svs gs ∧
                  Places E M2 (updI P r gs.length) (V.take k ++ [x]) ∧ treesOf E (V.take k ++ [x]) = gs ++ [[x]] ∧ wr.heap.size ≤ w2'.heap.size) := ⟨hM3, hP3, hB3, hL3, hPn, e2, by omega⟩
              clear f1 f2 f3 f4 f5 f6 f7 f8 f9 f10 f11 f12 f13 f14 f15 e1 e2 hno hPn hlen g1 g2 g3 g4 g5 g6 g7 g8 hgs hM3 hP3 hB3 hL3 hturn hgrown hsz2 h8
              go_wp2_with (first
                | (at_builtin; refine wpList_append_own_at _ rfl (.tmp 59) (.tmp 60) 57 rfl w.heap.size 22 i1 (.slice none 0 0) 1 24 Tryz.underlying57 hi1 hy0 hy1 hy2 rfl (by decide) _ _ _ rfl (T.out.2.2.2.1.outer.alloc _) ⟨w2'.heap.size, 0, none⟩ 1 1 [.slice none 0 0] rfl rfl (cell_one_new _ _ _) (by intro u hu; simp at hu; subst hu; rfl) (by unfold maxLen; omega) (by omega) (by simp; omega) ?_; intro v' w3 hown' hgrow hnil hloc; obtain ⟨gb, cap', rfl, l1, cellI, l3, l4, l5, hgb, l7⟩ := ll_push (T.out.2.2.2.1.alloc _) (T.out.2.2.1.alloc (by omega) _) (T.out.1.alloc _) (T.out.2.1.alloc _) hown' hgrow hloc; have U := aside' (And.intro l1 (And.intro l3 (And.intro l4 (And.intro l5 l7)))); have hsz5 : w.heap.size < w3.heap.size := (by simp only [World.size_alloc] at l7; omega); clear l1 l3 l4 l5 l7 hown' hgrow hnil hloc)
                | (at_builtin; refine wpList_append_own_at _ rfl (.tmp 67) (.tmp 69) 22 rfl w.heap.size 3 i0 (.int .i64 0) 1 8 Tryz.underlying22 hi hz0 hz1 hz2 rfl (by decide) _ _ _ rfl (World.ownsRow_nil _ _ _ _) ⟨w3.heap.size, 0, none⟩ 1 1 [.int .i64 x] rfl rfl (cell_one_new _ _ _) (ints_oneCell .i64 [x]) (by unfold maxLen; omega) (by omega) (by simp; omega) ?_; intro v' w4 hown' hgrow hnil hloc; obtain ⟨g', cap2, rfl⟩ := owns_succ hown'; obtain ⟨q1, q2, q3, q4, q5, q6, q7⟩ := ll_tail (g := []) (U.out.1.alloc _) (j := gs.length) (s := .slice none 0 0) (by rw [← T.out.2.2.2.1.len]; simp) (by simp) (U.out.2.2.2.1.alloc (by omega) _) (U.out.2.1.alloc _) (U.out.2.2.1.alloc _) hown' hgrow hloc; have Q := aside' (And.intro q1 (And.intro q2 (And.intro q3 (And.intro q4 q7)))); clear q1 q2 q3 q4 q7 hown' hgrow hnil hloc))
              obtain ⟨q1, q2, q3, q4, q7⟩ := Q.out
              obtain ⟨g1, g2, g3, g4, g5, g6, g7, g8⟩ := G.out
              obtain ⟨f1, f2, f3, f4, f5, f6, f7, f8, f9, f10, f11, f12, f13, f14, f15⟩ := F.out
              go_roundg (gk - 1)
              case rel =>
                have u7 := U.out.2.2.2.2
                have t7 := T.out.2.2.2.2.2.2
                simp only [World.size_alloc] at u7
                exact ⟨k + 1, nn + E.length, mm + 1, M2, _, _, by omega, by go_num, q4, by omega, by omega, by simp at q7 ⊢; omega, by omega, by simp at q7 ⊢; omega, q2, q3, g2, by rw [f12]; exact T.out.2.2.2.2.1, by rw [f12, T.out.2.2.2.2.2.1]; simpa using q1⟩
              case measure => omega
            | some i =>
              simp only [encM, hp, Option.map_some, Option.getD_some, Option.isSome_some] at look
              obtain ⟨g1, g2, g3, g4, g5, g6, g7, g8⟩ := G.out
              obtain ⟨j, hj, rfl, hc, hPn⟩ := g3.old g2 g8 hp
              have hj' : j < (treesOf E (V.take k)).length := by rw [treesOf_length]; exact hj
              obtain ⟨e1, e2⟩ := treesOf_old E (V.take k) x hj hc
              obtain ⟨a8, cap8, rfl, h8⟩ := owns_form g5.outer
              obtain ⟨gb, rfl⟩ := h8 (by omega)
              have hs : svs[j]? = some (svs[j]'(by rw [g5.len]; exact hj')) := List.getElem?_eq_getElem _
              have hg : (treesOf E (V.take k))[j]? = some (treesOf E (V.take k))[j] := List.getElem?_eq_getElem _
              have hgle := treesOf_le E (V.take k) _ j hg
              obtain ⟨s, hse⟩ : ∃ s, svs[j]'(by rw [g5.len]; exact hj') = s := ⟨_, rfl⟩
              obtain ⟨g, hge⟩ : ∃ g, (treesOf E (V.take k))[j] = g := ⟨_, rfl⟩
              rw [hse] at hs
              rw [hge] at hg hgle e2
              have hin := g5.inner j s g hs hg
              obtain ⟨xa, xcap, rfl, _⟩ := owns_form hin
              have cellI : w2.cell? ⟨gb, j, none⟩ = some (.slice xa g.length xcap) := by rw [g5.outer.cellAt j (by omega)]; exact hs
              obtain ⟨i0, hi, hz0, hz1, hz2⟩ := info_parts info3
              have hgl2 : g.length ≤ 2048 := by simp at hgle; omega
              have hsz2 : w.heap.size < w2.heap.size := by omega
              have hgb : gb < w2.heap.size := (g5.lt_out (b := gb) rfl).2
              obtain ⟨gs, hgs⟩ : ∃ gs, treesOf E (V.take k) = gs := ⟨_, rfl⟩
              clear hse hge
              rw [hgs] at g5 hj' hgl hg e2
              have T : Aside (svs[j]? = some (.slice xa g.length xcap) ∧ gs[j]? = some g ∧ Places E M2 P (V.take k ++ [x]) ∧ treesOf E (V.take k ++ [x]) = gs.set j (g ++ [x]) ∧ OwnsLL w2 w.heap.size (.slice (some ⟨gb, 0, none⟩) gs.length cap8) svs gs ∧
                  Below w.heap.size w w2 ∧ MapAt Tryz.prog 3 w2 w1.heap.size (nn + E.length) (encM M2) ∧ MapAt Tryz.prog 3 w2 wo.heap.size mm (encM P)) := ⟨hs, hg, hPn, e2, g5, g6, g1, g4⟩
              rw [hgs]
              clear e1 e2 hs hg hPn hc h8 hgle g1 g2 g3 g4 g5 g6 g7 g8 hgs hj
              go_wp2_with (at_builtin; refine wpList_append_own_at _ rfl _ _ 22 rfl w.heap.size 3 i0 (.int .i64 0) 1 8 Tryz.underlying22 hi hz0 hz1 hz2 rfl (by decide) _ _ _ rfl (hin.alloc _) ⟨w2.heap.size, 0, none⟩ 1 1 [.int .i64 x] rfl rfl (cell_one_new _ _ _) (ints_oneCell .i64 [x]) (by unfold maxLen; omega) (by omega) (by simp; omega) ?_; intro v' w3 hown' hgrow hnil hloc; obtain ⟨g', cap', rfl⟩ := owns_succ hown'; obtain ⟨q1, q2, q3, q4, q5, q6, q7⟩ := ll_tail (T.out.2.2.2.2.1.alloc _) T.out.1 T.out.2.1 (T.out.2.2.2.2.2.1.alloc (by omega) _) (T.out.2.2.2.2.2.2.1.alloc _) (T.out.2.2.2.2.2.2.2.alloc _) hown' hgrow hloc; have Q := aside' (And.intro q1 (And.intro q2 (And.intro q3 (And.intro q4 q7)))); clear q1 q2 q3 q4 q7 hown' hgrow hnil hloc)
              obtain ⟨q1, q2, q3, q4, q7⟩ := Q.out
              obtain ⟨g1, g2, g3, g4, g5, g6, g7, g8⟩ := G.out
              obtain ⟨f1, f2, f3, f4, f5, f6, f7, f8, f9, f10, f11, f12, f13, f14, f15⟩ := F.out
              go_roundg (gk - 1)
              case rel => exact ⟨k + 1, nn + E.length, mm, M2, P, _, by omega, by go_num, q4, by omega, by omega, by simp at q7 ⊢; omega, by omega, by simp at q7 ⊢; omega, q2, q3, g2, by rw [f12]; exact T.out.2.2.1, by rw [f12, T.out.2.2.2.1]; exact q1⟩
              case measure => omega
          · have hkk : k = V.length := by omega
            subst hkk
            rw [List.take_length] at hLL
            have F : Aside (Below w.heap.size w wr ∧ OwnsLL wr w.heap.size u8 svs (treesOf E V)) := ⟨hbel, hLL⟩
            clear hbel hLL hM hP hD hPl
            go_wp2_with fail
            go_ret2
            exact ⟨⟨_, svs, by rw [checkN_ok B.out.1]; rfl, by rw [if_pos B.out.1]; exact F.out.2⟩, F.out.1⟩
  · rw [checkA_no hR]
    have B : Aside (Below w.heap.size w w1 ∧ ¬ Right V E) := ⟨hB1, hR⟩
    clear hn0 hb0 hb1 hB1 hR
    go_wp2_with fail
    go_ret2
    exact ⟨⟨_, [], by rw [checkN_no B.out.2]; rfl, by rw [if_neg B.out.2]; exact OwnsLL.nil _ _⟩, B.out.1⟩

end Go.Proofs.YthidhdffiebbgaaGreatDoor
