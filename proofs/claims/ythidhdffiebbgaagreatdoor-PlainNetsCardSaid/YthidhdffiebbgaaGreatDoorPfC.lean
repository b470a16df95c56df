/- The walk of the law PlainForest. -/
import Derived.Test.YthidhdffiebbgaaGreatDoorForestC
import Derived.Test.YthidhdffiebbgaaGreatDoorPfA
import Derived.Test.YthidhdffiebbgaaGreatDoorPfB
import Derived.Test.YthidhdffiebbgaaGreatDoorPpB
import Derived.Deep.RegionLaw
namespace Go.Proofs.YthidhdffiebbgaaGreatDoor
open Go.BigFrame Go.RowKit Go.Proofs.YthidhdffiebbgaaGreatDoor.Sk

theorem bl_alloc {w0 W : World} (h : Below w0.heap.size w0 W) (o : Obj) : Below w0.heap.size w0 (W.alloc o) := h.alloc h.size _
theorem bl_drew {B : Nat} {w0 W : World} (h : Below B w0 W) : Below B w0 W.drew := ⟨h.os, h.tape, h.output, h.size, fun j hj => h.block j hj⟩
theorem bl_alloc' {w0 W : World} {B : Nat} (h : Below B w0 W) (o : Obj) (hB : B ≤ w0.heap.size := by first | exact Nat.le_refl _ | omega) : Below B w0 (W.alloc o) := h.alloc (Nat.le_trans hB h.size) _
theorem bl_drewN {B : Nat} {w0 W : World} (h : Below B w0 W) (q : Nat) : Below B w0 (W.drewN q) := ⟨h.os, h.tape, h.output, h.size, fun j hj => h.block j hj⟩
theorem bl_trans {w0 W w8 : World} (h : Below w0.heap.size w0 W) (hb : Below W.heap.size W w8) : Below w0.heap.size w0 w8 := h.trans (hb.mono h.size)
theorem bl_none {w0 W w9 : World} (h : Below w0.heap.size w0 W) (hg : W.grownBy w9 none) : Below w0.heap.size w0 w9 := h.grown hg h.size (by simp)
theorem drew_new {w : World} {n : Nat} {c : Obj} (h : w.heap[n]? = some c) : w.drew.heap[n]? = some c := h

theorem after_grow {wr W w8 : World} {B : Nat} {row : Option Nat} {o : Obj} (hb : Below wr.heap.size wr W) (hg : W.grownBy w8 row) (hne : some B ≠ row) (hlt : B < wr.heap.size) (h : wr.heap[B]? = some o) : w8.heap[B]? = some o :=
  (hg.block B (Nat.lt_of_lt_of_le hlt hb.size) hne).trans ((hb.block B hlt).trans h)

theorem below_grow {wr W w8 : World} {B : Nat} {row : Option Nat} (hb : Below wr.heap.size wr W) (hg : W.grownBy w8 row) (hB : B ≤ wr.heap.size) (hrow : ∀ j, row = some j → B ≤ j) : Below B wr w8 :=
  (hb.mono hB).grown hg (Nat.le_trans hB hb.size) hrow
theorem grown_set (w : World) (b i : Nat) (v : Value) : w.grownBy (w.setCell ⟨b, i, none⟩ v) (some b) :=
  ⟨rfl, rfl, rfl, by simp [World.setCell], fun k _ hk => Below.heap_setCell _ _ _ _ (fun e => hk (by simp [e]))⟩

theorem field47_3 (a b c d : Int) (w : World) : (Instr.field 47 (.agg #[.int .i64 a, .int .i64 b, .int .i64 c, .int .i64 d]) 3).run Tryz.prog w = .ok (.int .i64 d) w := by
  kernel_rfl

theorem q_drew {f : Nat} {args : Array Value} {W : World} {v : Value} {Q : World → Prop} (h : Calls Tryz.prog f args W fun e w' => e = .returned v ∧ ∃ q, w' = W.drewN q) (hq : ∀ q, Q (W.drewN q)) : Calls Tryz.prog f args W fun e w' => e = .returned v ∧ Q w' :=
  h.mono fun _ _ ⟨h1, q, h2⟩ => ⟨h1, h2 ▸ hq q⟩

/-- what Forest leaves, as a row that is read -/
theorem fids_s {w w' : World} {V : List Int} {E : List Edg} {c : Int} {e : Ending} (h : IdsPost w (forestIds V E) c e w') (hE : ∀ e ∈ E, e.wf) (hlen : E.length * 32 ≤ 140737488351232) :
    ∃ a cap, e = .returned (.tuple #[.slice a (forestIds V E).length cap, .int .i64 c]) ∧ RdI w' (.slice a (forestIds V E).length cap) (forestIds V E) ∧ Below w.heap.size w w' := by
  obtain ⟨v, h1, h2, h3⟩ := h
  obtain ⟨a, cap, rfl, _⟩ := owns_form h2
  refine ⟨a, cap, h1, ?_, h3⟩
  refine rdI_own h2 (fun x hx => ?_) (by have := forestIds_len V E; omega)
  by_cases hR : Right V E
  · obtain ⟨e, he, rfl⟩ := List.mem_map.1 (forestIds_mem hR hx)
    exact (hE e he).1
  · unfold forestIds at hx
    rw [if_neg hR] at hx
    simp at hx

/-- the loop that puts the forest's edges together -/
def BareRel (w4 : World) (E : List Edg) (I : List Int) (vs : Value) (g : Nat) (i s : Value) (wr : World) : Prop :=
  ∃ (k : Nat) (o : Value), k + g = I.length ∧ i = .int .i64 k ∧ s = .int .i64 (sumW ((I.take k).map (edgeAt E))) ∧ Below w4.heap.size w4 wr ∧ w4.heap.size < wr.heap.size ∧
    wr.heap[w4.heap.size]? = some (.cells #[vs, o] 25 (0, 0)) ∧ wr.ownsRow (w4.heap.size + 1) 47 4 o k (((I.take k).map (edgeAt E)).flatMap encE)

set_option maxRecDepth 100000 in
set_option maxHeartbeats 4000000 in
theorem plainForest_any (n : Value) (V : List Int) (E : List Edg) (w : World) (hn : NetAt w n V E) :
    Calls Tryz.prog 4 #[n] w fun e w' => e = .returned (.bool true) ∧ Below w.heap.size w w' := by
  obtain ⟨vs, es, rfl, hV, hE⟩ := hn.ex
  have hwf : ∀ e ∈ E, e.wf := by obtain ⟨_, _, _, h, _⟩ := hE; exact h
  have hVr := hV
  have hEr := hE
  obtain ⟨va, vcap, rfl, -, hv8, -⟩ := hV
  obtain ⟨ea, ecap, rfl, -, he32, -⟩ := hE
  have hb0 : Below w.heap.size w (w.alloc (.cells #[.slice va V.length vcap, .slice ea E.length ecap] 25)) := (Below.refl _ _).alloc (Nat.le_refl _) _
  have A : Aside (NetAt w (.agg #[.slice va V.length vcap, .slice ea E.length ecap]) V E ∧ Below w.heap.size w (w.alloc (.cells #[.slice va V.length vcap, .slice ea E.length ecap] 25)) ∧ (∀ e ∈ E, e.wf) ∧ RdI w (.slice va V.length vcap) V ∧ RdE w (.slice ea E.length ecap) E) := ⟨hn, hb0, hwf, hVr, hEr⟩
  clear hn hVr hEr hb0 hwf
  go_enter Tryz.func4, Tryz.ntmps4
  go_wp2_with fail
  refine (alive_any _).mono ?_
  rintro _ w1 ⟨rfl, hb1⟩
  have hB1 : Below w.heap.size w w1 := A.out.2.1.trans (hb1.mono (by simp))
  have n0 : w1.cell? ⟨w.heap.size, 0, none⟩ = some (.slice va V.length vcap) := by rw [bcell hb1 _ _ (by simp), World.cell?_alloc_at _ _ _ _ rfl]; rfl
  have n1 : w1.cell? ⟨w.heap.size, 1, none⟩ = some (.slice ea E.length ecap) := by rw [bcell hb1 _ _ (by simp), World.cell?_alloc_at _ _ _ _ rfl]; rfl
  have hz1 : w.heap.size < w1.heap.size := by have := hb1.size; simp at this; omega
  have B := aside' hB1
  clear hb1 hB1
  go_wp2_with fail
  refine (forestIds_any _ V E w1 (A.out.1.below B.out)).mono ?_
  intro e w2 hp
  obtain ⟨pa, pcap, rfl, hpv, hb2⟩ := fids_s hp A.out.2.2.1 he32
  have m0 := (bcell hb2 _ 0 hz1).trans n0
  have m1 := (bcell hb2 _ 1 hz1).trans n1
  have hz2 : w.heap.size < w2.heap.size := Nat.lt_of_lt_of_le hz1 hb2.size
  have C := aside' (And.intro (B.out.trans (hb2.mono B.out.size)) hpv)
  clear hp hpv hb2 n0 n1 B hz1
  go_wp2_with fail
  refine (trees_any _ V E w2 (A.out.1.below C.out.1)).mono ?_
  rintro e w3 ⟨⟨outv, svs, rfl, hts⟩, hb3⟩
  have n0 := (bcell hb3 _ 0 hz2).trans m0
  have n1 := (bcell hb3 _ 1 hz2).trans m1
  have hz3 : w.heap.size < w3.heap.size := Nat.lt_of_lt_of_le hz2 hb3.size
  have D := aside' (And.intro (C.out.1.trans (hb3.mono C.out.1.size)) (And.intro (C.out.2.below hb3) C.out.1.size))
  clear hb3 m0 m1 C hz2
  have hck := rcheck_any _ V E w3 (A.out.1.below D.out.1)
  by_cases hR : Right V E
  · rw [if_pos hR] at hts
    rw [checkN_ok hR] at hck ⊢
    obtain ⟨gs, hgs⟩ : ∃ gs, treesOf E V = gs := ⟨_, rfl⟩
    rw [hgs] at hts
    obtain ⟨oa, ocap, hoa, hgb⟩ := owns_form hts.outer
    subst hoa
    have hgl : gs.length ≤ 2048 := by rw [← hgs, treesOf_length]; exact Nat.le_trans (firsts_le E V) hR.1
    obtain ⟨I, hI⟩ : ∃ I, forestIds V E = I := ⟨_, rfl⟩
    have hil : I.length ≤ 2048 := by have := forestIds_len V E; have := hR.2.1; rw [← hI]; omega
    have G := aside' (And.intro hR (And.intro hgs hI))
    have G2 := aside' hts
    rw [hI] at D ⊢
    clear hgs hts hR hI
    go_wp2_with fail
    refine hck.mono ?_
    rintro _ w4 ⟨rfl, hb4⟩
    have m0 := (bcell hb4 _ 0 hz3).trans n0
    have m1 := (bcell hb4 _ 1 hz3).trans n1
    have hz4 : w.heap.size < w4.heap.size := Nat.lt_of_lt_of_le hz3 hb4.size
    have F := aside' (And.intro (D.out.1.trans (hb4.mono D.out.1.size)) (And.intro (D.out.2.1.below hb4) hb4))
    clear hb4 hck n0 n1 hz3
    go_wp2_with fail
    go_loopg [58, 8] I.length (fun g i s wr => BareRel w4 E I (.slice va V.length vcap) g i s wr)
    case atStart => exact ⟨0, .slice none 0 0, by omega, rfl, rfl, (Below.refl _ _).alloc (Nat.le_refl _) _, by simp, World.alloc_heap_new _ _, by simpa using World.ownsRow_nil _ _ _ _⟩
    case round =>
      obtain ⟨k, o, hk, rfl, rfl, hbel, hsz, hbx, hrow⟩ := hrel
      have n0 := (bcell hbel _ 0 hz4).trans m0
      have n1 := (bcell hbel _ 1 hz4).trans m1
      have hz5 : w.heap.size < wr.heap.size := Nat.lt_trans hz4 hsz
      have x0 : wr.cell? ⟨w4.heap.size, 0, none⟩ = some (.slice va V.length vcap) := by simp [World.cell?, hbx]
      have x1 : wr.cell? ⟨w4.heap.size, 1, none⟩ = some o := by simp [World.cell?, hbx]
      by_cases hlt : k < I.length
      · obtain ⟨oa5, ocap5, rfl, -⟩ := owns_form hrow
        have hbw : Below w.heap.size w wr := F.out.1.trans (hbel.mono F.out.1.size)
        obtain ⟨-, -, ib, ioff, hia, hib, g0⟩ := (F.out.2.1.below hbel).get hlt
        subst hia
        obtain ⟨x, hx⟩ : ∃ x, I[k] = x := ⟨_, rfl⟩
        rw [hx] at g0
        have hxI : x ∈ I := hx ▸ List.getElem_mem hlt
        obtain ⟨y, hy⟩ : ∃ y, edgeAt E x = y := ⟨_, rfl⟩
        have hyE : y ∈ E := hy ▸ (edgeAt_id G.out.1.2.2.2.2.2 (forestIds_mem G.out.1 (G.out.2.2.symm ▸ hxI))).1
        have hok := G.out.1.2.2.2.1 y hyE
        have hsn : (I.take (k + 1)).map (edgeAt E) = (I.take k).map (edgeAt E) ++ [y] := by rw [List.take_succ_eq_append_getElem hlt, List.map_append, hx, List.map_cons, hy, List.map_nil]
        obtain ⟨S, hS⟩ : ∃ S, (I.take k).map (edgeAt E) = S := ⟨_, rfl⟩
        rw [hS] at hrow hsn ⊢
        have hSE : ∀ e ∈ S, e ∈ E := fun e he => by
          rw [← hS] at he
          obtain ⟨z, hz, rfl⟩ := List.mem_map.1 he
          exact (edgeAt_id G.out.1.2.2.2.2.2 (forestIds_mem G.out.1 (G.out.2.2.symm ▸ List.mem_of_mem_take hz))).1
        have hbd := sumW_bounds (V := V) S fun e he => G.out.1.2.2.2.1 e (hSE e he)
        have hSl : S.length = k := by rw [← hS, List.length_map, List.length_take]; omega
        have hs := sumW_snoc S y
        obtain ⟨t, ht⟩ : ∃ t, sumW S = t := ⟨_, rfl⟩
        rw [ht] at hbd hs ⊢
        have ht0 := hbd.1
        have ht1 : t ≤ 2251799813685248 := by have := hbd.2; omega
        have hw0 := hok.1
        have hw1 := hok.2.1
        have RW : Aside (∀ W, Below wr.heap.size wr W → W.ownsRow (w4.heap.size + 1) 47 4 (.slice oa5 k ocap5) k (S.flatMap encE)) := fun W hW => hrow.kept (row := none) ⟨hW.os, hW.tape, hW.output, hW.size, fun j hj _ => hW.block j hj⟩ (by cases (Value.slice oa5 k ocap5).ownBlock <;> simp)
        have HN : Aside (∀ W, Below wr.heap.size wr W → Calls Tryz.prog 29 #[.agg #[.slice va V.length vcap, .slice ea E.length ecap], .int .i64 x] W fun e w' => e = .returned (.agg #[.int .i64 y.id, .int .i64 y.u, .int .i64 y.v, .int .i64 y.w]) ∧ Below W.heap.size W w') := fun W hW => by
          have := edgeOf_any _ V E x W (A.out.1.below (hbw.trans (hW.mono hbw.size)))
          rw [hy] at this
          exact this
        have hge : ∀ j, (Value.slice oa5 k ocap5).ownBlock = some j → w4.heap.size ≤ j := fun j h => by have := (hrow.lt _ h).1; omega
        have hne1 : some w4.heap.size ≠ (Value.slice oa5 k ocap5).ownBlock := fun h => by have := (hrow.lt _ h.symm).1; omega
        have hne0 : some w.heap.size ≠ (Value.slice oa5 k ocap5).ownBlock := fun h => by have := (hrow.lt _ h.symm).1; omega
        have Q := aside' (And.intro hbel (And.intro hsn (And.intro hs (And.intro hk (And.intro hbx (And.intro hy hSl))))))
        obtain ⟨i1, hi1, hy0, hy1, hy2⟩ := info_parts info47
        clear hbel hsn hs hk hbx hS hSE hbd hok hyE hxI hx hbw hrow hSl ht hy
        go_wp2_with fail
        go_region_law (first
            | (go_simp; go_at_call 29; (with_reducible refine Calls.mono (HN.out _ ?_) ?_); (first | exact ⟨rfl, rfl, rfl, Nat.le_refl _, fun _ _ => rfl⟩); rintro _ w6 ⟨rfl, hb6⟩; have y1 := (bcell hb6 _ 1 hsz).trans x1; have hz6 : wr.heap.size ≤ w6.heap.size := hb6.size; have hz66 : w4.heap.size < w6.heap.size := Nat.lt_of_lt_of_le hsz hz6; have hb6w : Below wr.heap.size wr w6 := ⟨hb6.os, hb6.tape, hb6.output, hb6.size, fun j hj => hb6.block j hj⟩; go_wp2_with fail)
            | (refine step_append_lies _ (by rfl) _ _ _ (by rfl) (w4.heap.size + 1) 47 i1 _ 4 32 Tryz.underlying23 hi1 hy0 hy1 hy2 rfl (by omega) (.slice oa5 k ocap5) k _ (by rfl) (RW.out _ ?hbl) ⟨w6.heap.size, 0, none⟩ 1 1 (encE y) (by rfl) (by rfl) (World.news_of_block (cs := #[.int .i64 y.id, .int .i64 y.u, .int .i64 y.v, .int .i64 y.w]) (t := 47) (fr := (0, 0)) ?hnb) (encE_one _) (by omega) (by unfold maxLen; omega) (by omega) (by simp; omega) (w6.heap.size + 1) (by simp) ?_
               (case hbl => repeat (first | exact hb6w | refine bl_drew ?_ | refine bl_alloc ?_ _))
               (case hnb => repeat (first | exact World.alloc_heap_new _ _ | refine drew_new ?_))
               intro gg cap w8 hown8 hgrow hat hlt8
               have hbx8 := after_grow (by repeat (first | exact hb6w | refine bl_drew ?_ | refine bl_alloc ?_ _)) hgrow hne1 hsz Q.out.2.2.2.2.1
               have z1 : w8.cell? ⟨w4.heap.size, 1, none⟩ = some (.slice oa5 k ocap5) := (by simp [World.cell?, hbx8])
               have zf : w8.frozen? ⟨w4.heap.size, 1, none⟩ = false := (by simp [World.frozen?, hbx8])
               have HB8 := aside' hbx8
               have HC8 := aside' (below_grow (by repeat (first | exact hb6w | refine bl_drew ?_ | refine bl_alloc ?_ _)) hgrow (Nat.le_of_lt hsz) hge)
               clear hbx8)
            | fail)
        all_goals (
          obtain ⟨w9, hw9⟩ : ∃ w9, w8.setCell ⟨w4.heap.size, 1, none⟩ (.slice (some ⟨gg, 0, none⟩) (k + 1) cap) = w9 := ⟨_, rfl⟩
          have hb9 : Below w4.heap.size w4 w9 := hw9 ▸ (Q.out.1.trans HC8.out).setCell (p := ⟨w4.heap.size, 1, none⟩) (Nat.le_refl _) _
          have q0 := (bcell hb9 _ 0 hz4).trans m0
          have q1 := (bcell hb9 _ 1 hz4).trans m1
          have hx9 : w9.heap[w4.heap.size]? = some (.cells #[.slice va V.length vcap, .slice (some ⟨gg, 0, none⟩) (k + 1) cap] 25 (0, 0)) := hw9 ▸ heap_setCell_same w8 w4.heap.size 1 _ 25 _ HB8.out
          have ho9 : w9.ownsRow (w4.heap.size + 1) 47 4 (.slice (some ⟨gg, 0, none⟩) (k + 1) cap) (k + 1) (S.flatMap encE ++ encE y) := hw9 ▸ hown8.kept (grown_set w8 w4.heap.size 1 _) (.inr (fun h => by have := (hown8.lt _ h).1; omega))
          have hz9 : w4.heap.size < w9.heap.size := by
            have := HC8.out.size
            rw [← hw9]
            simp
            omega
          have he := edgeOf_any _ V E x w9 (A.out.1.below (F.out.1.trans (hb9.mono F.out.1.size)))
          rw [Q.out.2.2.2.2.2.1] at he
          have T := aside' (And.intro hb9 (And.intro hx9 ho9))
          rw [hw9]
          clear hb9 hx9 ho9 hw9 hown8 hgrow HB8 HC8 hat hlt8
          unfold valE at he
          go_wp2_with fail
          refine he.mono ?_
          rintro _ w10 ⟨rfl, hb10⟩
          have U := aside' hb10
          have hfl := field47_3 y.id y.u y.v y.w
          clear hb10 he
          go_wp2_with fail
          obtain ⟨r1, r2, r3, r4, r5, r6, r7⟩ := Q.out
          obtain ⟨t1, t2, t3⟩ := T.out
          go_roundg (gk - 1)
          case rel =>
            refine ⟨k + 1, .slice (some ⟨gg, 0, none⟩) (k + 1) cap, by omega, by go_num, by rw [r2, r3], t1.trans (U.out.mono t1.size), Nat.lt_of_lt_of_le hz9 U.out.size, (U.out.block _ hz9).trans t2, ?_⟩
            rw [r2, List.flatMap_append, show List.flatMap encE [y] = encE y from (by simp)]
            exact t3.kept (row := none) ⟨U.out.os, U.out.tape, U.out.output, U.out.size, fun j hj _ => U.out.block j hj⟩ (by cases (Value.slice (some ⟨gg, 0, none⟩) (k + 1) cap).ownBlock <;> simp)
          case measure => omega)
      · have hkk : k = I.length := by omega
        subst hkk
        rw [List.take_length] at hrow ⊢
        have hEb : backE V E = I.map (edgeAt E) := by unfold backE; rw [G.out.2.2]
        rw [← hEb] at hrow ⊢
        have hRb := backE_right G.out.1
        have hrd : RdE wr o (backE V E) := rdE_of_owns (by have : (backE V E).length = I.length := (by rw [hEb, List.length_map]); rw [this]; exact hrow) (fun e he => A.out.2.2.1 e (backE_mem G.out.1 e he)) (by have : (backE V E).length = I.length := (by rw [hEb, List.length_map]); omega)
        have hbw : Below w.heap.size w wr := F.out.1.trans (hbel.mono F.out.1.size)
        have htr := trees_any (.agg #[.slice va V.length vcap, o]) V (backE V E) wr ⟨⟨_, _, rfl, A.out.2.2.2.1.below hbw, hrd⟩⟩
        have hsum := backE_sum G.out.1
        have hbd := sumW_bounds (V := V) (forestOf E) fun e he => G.out.1.2.2.2.1 e (forestOf_sub E e he)
        have hfl := forestOf_le E
        have hEl := G.out.1.2.1
        obtain ⟨T, hT⟩ : ∃ T, sumW (forestOf E) = T := ⟨_, rfl⟩
        have hwt : weightA V E = (bsum T, berr T) := by unfold weightA; rw [if_pos G.out.1, hT]
        rw [hsum, hT]
        rw [hT] at hbd
        have hT0 := hbd.1
        have hT1 : T ≤ 2251799813685248 := by have := hbd.2; omega
        have hcnt := forestIds_count G.out.1
        rw [G.out.2.1, G.out.2.2] at hcnt
        have R := aside' (And.intro hbw (And.intro hbel hwt))
        have RB := aside' hRb
        clear hrow hEb hRb hrd hbw hbel hsum hbd hfl hEl hwt hbx hT hk
        go_wp2_with fail
        refine htr.mono ?_
        rintro e w5 ⟨⟨outv2, svs2, rfl, hts2⟩, hb5⟩
        rw [if_pos RB.out, backE_trees G.out.1, G.out.2.1] at hts2
        rw [checkN_ok RB.out]
        obtain ⟨oa2, ocap2, rfl, hgb2⟩ := owns_form hts2.outer
        have m0 := (bcell hb5 _ 0 hz5).trans n0
        have m1 := (bcell hb5 _ 1 hz5).trans n1
        have hz6 : w.heap.size < w5.heap.size := Nat.lt_of_lt_of_le hz5 hb5.size
        have hb5w := R.out.1.trans (hb5.mono R.out.1.size)
        have hwe := weight_any _ V E w5 (A.out.1.below hb5w)
        rw [R.out.2.2] at hwe
        have S := aside' (And.intro hb5w (And.intro hts2 (R.out.2.1.trans (hb5.mono R.out.2.1.size))))
        clear hts2 hb5 hb5w htr n0 n1 x0 x1
        go_wp2_with fail
        refine hwe.mono ?_
        rintro _ w6 ⟨rfl, hb6⟩
        have n0 := (bcell hb6 _ 0 hz6).trans m0
        have n1 := (bcell hb6 _ 1 hz6).trans m1
        have hz7 : w.heap.size < w6.heap.size := Nat.lt_of_lt_of_le hz6 hb6.size
        have Y := aside' (And.intro (S.out.1.trans (hb6.mono S.out.1.size)) (And.intro (S.out.2.2.trans (hb6.mono S.out.2.2.size)) hb6))
        have hbs : (T ≤ 70368744177664 ∧ bsum T = T ∧ berr T = 0) ∨ (70368744177664 < T ∧ bsum T = 0 ∧ berr T = 62) := by
          unfold bsum berr
          by_cases h : 70368744177664 < T
          · exact .inr ⟨h, if_pos h, if_pos h⟩
          · exact .inl ⟨by omega, if_neg h, if_neg h⟩
        have hcn : ((I.length : Int) != (V.length : Int) - (gs.length : Int)) = false := by simp; omega
        clear hb6 hwe m0 m1 hcnt
        rcases hbs with ⟨hTs, hb1, hb2⟩ | ⟨hTs, hb1, hb2⟩
        all_goals (
          rw [hb1, hb2]
          clear hb1 hb2
          go_wp2_with fail
          go_loopg [125] gs.length (fun g i wx => ∃ (k q : Nat), k + g = gs.length ∧ i = .int .i64 k ∧ wx = w6.drewN q)
          case atStart => exact ⟨0, 0, by omega, rfl, rfl⟩
          case round =>
            obtain ⟨k, q, hk, rfl, rfl⟩ := hrel
            by_cases hlt : k < gs.length
            · obtain ⟨gb, rfl⟩ := hgb (by omega)
              obtain ⟨gb2, rfl⟩ := hgb2 (by omega)
              have hts := G2.out
              have hts2 := S.out.2.1
              have b36 : Below w3.heap.size w3 w6 := F.out.2.2.trans (Y.out.2.1.mono F.out.2.2.size)
              obtain ⟨g, hg⟩ : ∃ g, gs[k]? = some g := ⟨_, List.getElem?_eq_getElem hlt⟩
              obtain ⟨s1, hs1⟩ : ∃ s, svs[k]? = some s := ⟨_, List.getElem?_eq_getElem (by rw [hts.len]; exact hlt)⟩
              obtain ⟨s2, hs2⟩ : ∃ s, svs2[k]? = some s := ⟨_, List.getElem?_eq_getElem (by rw [hts2.len]; exact hlt)⟩
              have g0 : w6.cell? ⟨gb, k, none⟩ = some s1 := (bcell b36 _ _ (hts.outer.lt gb rfl).2).trans ((hts.outer.cellAt k (by omega)).trans hs1)
              have g1 : w6.cell? ⟨gb2, k, none⟩ = some s2 := (bcell Y.out.2.2 _ _ (hts2.outer.lt gb2 rfl).2).trans ((hts2.outer.cellAt k (by omega)).trans hs2)
              have hgV : ∀ x ∈ g, x ∈ V := fun x hx => (tr_sub (E := E) (l := V) (i := k) (g := g) (by rw [G.out.2.1]; exact hg)).mem hx
              have hgl2 : g.length ≤ 2048 := Nat.le_trans (tr_sub (E := E) (l := V) (i := k) (g := g) (by rw [G.out.2.1]; exact hg)).length_le G.out.1.1
              have hgw : ∀ x ∈ g, wf64 x := fun x hx => (G.out.1.2.2.1.1 x (hgV x hx)).wf
              have r1 := (rdI_own (hts.inner k s1 g hs1 hg) hgw (by omega)).below b36
              have r2 := (rdI_own (hts2.inner k s2 g hs2 hg) hgw (by omega)).below Y.out.2.2
              have SR : Aside (∀ W, Below w6.heap.size w6 W → Calls Tryz.prog 27 #[s1, s2] W fun e w' => e = .returned (.bool true) ∧ ∃ q, w' = W.drewN q) := fun W hW => by
                refine (same_ref s1 s2 g g W (r1.below hW) (r2.below hW)).mono ?_
                rintro _ _ ⟨rfl, h⟩
                exact ⟨by simp, h⟩
              clear r1 r2 hgw hgl2 hgV hts hts2 b36 hg hs1 hs2
              go_wp2_with fail
              go_big_quiet ((go_at_call 27; refine q_drew (SR.out _ ?hw) ?_; (case hw => exact ⟨rfl, rfl, rfl, Nat.le_refl _, fun _ _ => rfl⟩); exact fun q2 => ⟨_, by rw [World.drewN_drewN, Nat.add_assoc]⟩))
              go_wp2_with fail
              go_roundg (gk - 1)
              case rel => exact ⟨k + 1, _, by omega, by go_num, rfl⟩
              case measure => omega
            · have hwd : Below w6.heap.size w6 (w6.drewN q) := ⟨rfl, rfl, rfl, Nat.le_refl _, fun _ _ => rfl⟩
              obtain ⟨wd, hwde⟩ : ∃ wd, w6.drewN q = wd := ⟨_, rfl⟩
              rw [hwde] at hwd ⊢
              have d0 := (bcell hwd _ 0 hz7).trans n0
              have d1 := (bcell hwd _ 1 hz7).trans n1
              have hz8 : w.heap.size < wd.heap.size := Nat.lt_of_lt_of_le hz7 hwd.size
              have Z := aside' (And.intro (Y.out.1.trans (hwd.mono Y.out.1.size)) ((F.out.2.1.below Y.out.2.1).below hwd))
              clear hwd hwde n0 n1
              go_wp2_with fail
              go_loopg [142] E.length (fun g i wx => ∃ (k : Nat), k + g = E.length ∧ i = .int .i64 k ∧ Below wd.heap.size wd wx)
              case atStart => exact ⟨0, by omega, rfl, Below.refl _ _⟩
              case round =>
                obtain ⟨k, hk, rfl, hbx⟩ := hrel
                obtain ⟨gk_outer, hgko⟩ : ∃ q, q = gk := ⟨_, rfl⟩
                rw [← hgko] at hk
                have n0 := (bcell hbx _ 0 hz8).trans d0
                have n1 := (bcell hbx _ 1 hz8).trans d1
                have hz9 : w.heap.size < wr.heap.size := Nat.lt_of_lt_of_le hz8 hbx.size
                have hbw := Z.out.1.trans (hbx.mono Z.out.1.size)
                by_cases hlt : k < E.length
                · obtain ⟨-, hew, eb, eoff, hea, heb, g0, g1, g2, g3⟩ := (A.out.2.2.2.2.below hbw).get hlt
                  subst hea
                  obtain ⟨e, he⟩ : ∃ e, E[k] = e := ⟨_, rfl⟩
                  rw [he] at g0 g1 g2 g3 hew
                  have heE : e ∈ E := he ▸ List.getElem_mem hlt
                  have hp := pathIds_any _ V E e.u e.v (wr.alloc (.cells #[.int .i64 e.id, .int .i64 e.u, .int .i64 e.v, .int .i64 e.w] 47)) (A.out.1.below (bl_alloc' hbw _)) hew.2.1 hew.2.2.1
                  have hbe : BoxE (wr.alloc (.cells #[.int .i64 e.id, .int .i64 e.u, .int .i64 e.v, .int .i64 e.w] 47)) wr.heap.size e := World.alloc_heap_new _ _
                  have hja := forest_joins G.out.1 heE
                  have hbwA := bl_alloc' hbw (.cells #[.int .i64 e.id, .int .i64 e.u, .int .i64 e.v, .int .i64 e.w] 47)
                  have hbxA := bl_alloc' hbx (.cells #[.int .i64 e.id, .int .i64 e.u, .int .i64 e.v, .int .i64 e.w] 47)
                  have K1 := aside' (And.intro hbwA (And.intro hbxA (And.intro hbe (And.intro hja heE))))
                  clear hbwA hbxA hbe hja heE hbx hbw hew he
                  go_wp2_with fail
                  refine hp.mono ?_
                  intro e' w7 hp'
                  obtain ⟨L, c, qa, qcap, hPA, hl, hcap, rfl, hpv, hb7⟩ := path_s hp' A.out.2.2.1
                  obtain ⟨rfl, htr, hnd⟩ := (hPA.1 K1.out.2.2.2.1.1).1 K1.out.2.2.2.1.2
                  have hfw := forest_way G.out.1 K1.out.2.2.2.2 htr hnd
                  rw [G.out.2.2] at hfw
                  have m0 := (bcell hb7 _ 0 (by simp; omega)).trans ((World.cell?_alloc_past _ _ _ hz9).trans n0)
                  have m1 := (bcell hb7 _ 1 (by simp; omega)).trans ((World.cell?_alloc_past _ _ _ hz9).trans n1)
                  have hs7 := hb7.size
                  simp only [World.size_alloc] at hs7
                  have hzA : w.heap.size < w7.heap.size := by omega
                  have hzB : wr.heap.size < w7.heap.size := by omega
                  have hbe7 : BoxE w7 wr.heap.size e := (hb7.block _ (by simp)).trans K1.out.2.2.1
                  obtain ⟨b0, b1, b2, b3⟩ := hbe7.cells
                  have hbw7 := K1.out.1.trans (hb7.mono K1.out.1.size)
                  have hbx7 := K1.out.2.1.trans (hb7.mono K1.out.2.1.size)
                  have hI7 : RdI w7 (.slice pa I.length pcap) I := (Z.out.2.below K1.out.2.1).below hb7
                  have HAS : Aside (∀ W, Below w7.heap.size w7 W → ∀ x b, decide (x ∈ I) = b → Calls Tryz.prog 30 #[.slice pa I.length pcap, .int .i64 x] W fun e w' => e = .returned (.bool b) ∧ W = w') := fun W hW x b hb => by
                    have := has_ref (.slice pa I.length pcap) I x W (hI7.below hW)
                    rw [hb] at this
                    exact this
                  have K2 := aside' (And.intro hbw7 (And.intro hbx7 (And.intro hpv (And.intro hfw (fun f hf => backE_mem G.out.1 f ((backE_perm G.out.1).mem_iff.2 (htr.sub f hf)))))))
                  obtain ⟨wp, rfl⟩ : ∃ wp, wp = wr := ⟨_, rfl⟩
                  clear hb7 hp hp' hPA htr hnd hfw hpv hbw7 hbx7 hI7 hbe7 n0 n1 hs7
                  go_wp2_with fail
                  go_loopg [159] L.length (fun g i wx => ∃ (k : Nat), k + g = L.length ∧ i = .int .i64 k ∧ Below w7.heap.size w7 wx)
                  case atStart => exact ⟨0, by omega, rfl, Below.refl _ _⟩
                  case round =>
                    obtain ⟨j, hj, rfl, hby⟩ := hrel
                    by_cases hlj : j < L.length
                    · have hbwy := K2.out.1.trans (hby.mono K2.out.1.size)
                      obtain ⟨f, hf⟩ : ∃ f, L[j] = f := ⟨_, rfl⟩
                      have hfL : f ∈ L := hf ▸ List.getElem_mem hlj
                      obtain ⟨-, -, pb, poff, hpe, hpb, p0⟩ := (K2.out.2.2.1.below hby).get (k := j) (by simpa using hlj)
                      subst hpe
                      rw [List.getElem_map, hf] at p0
                      have hway := K2.out.2.2.2.1 f hfL
                      have hfE := K2.out.2.2.2.2 f hfL
                      have y0 := (bcell hby _ 0 hzA).trans m0
                      have y1 := (bcell hby _ 1 hzA).trans m1
                      have x0 := (bcell hby _ 0 hzB).trans b0
                      have x1 := (bcell hby _ 1 hzB).trans b1
                      have x2 := (bcell hby _ 2 hzB).trans b2
                      have x3 := (bcell hby _ 3 hzB).trans b3
                      have hzA' := Nat.lt_of_lt_of_le hzA hby.size
                      have hzB' := Nat.lt_of_lt_of_le hzB hby.size
                      have hd1 : decide (f.id ∈ I) = true := by simp [hway.1]
                      have K3 := aside' (And.intro hby hfE)
                      by_cases hin : e.id ∈ I
                      · have hd2 : decide (e.id ∈ I) = true := by simp [hin]
                        clear hway hfE hbwy hf hfL hin hby
                        go_wp2_with fail
                        go_big_quiet ((go_at_call 30; refine q_same (HAS.out _ ?hw _ true ?hd) ?_; (case hw => exact ⟨K3.out.1.os, K3.out.1.tape, K3.out.1.output, K3.out.1.size, fun j hj => K3.out.1.block j hj⟩); (case hd => assumption); exact ⟨_, rfl⟩))
                        go_wp2_with fail
                        go_roundg (gk - 1)
                        case rel => exact ⟨j + 1, by omega, by go_num, bl_drewN K3.out.1 _⟩
                        case measure => omega
                      · have hd2 : decide (e.id ∈ I) = false := by simp [hin]
                        have hah : aheadB f e = true := hway.2.resolve_left hin
                        have EDG : Aside (∀ W, Below w7.heap.size w7 W → Calls Tryz.prog 29 #[.agg #[.slice va V.length vcap, .slice (some ⟨eb, eoff, none⟩) E.length ecap], .int .i64 f.id] W fun e w' => e = .returned (.agg #[.int .i64 f.id, .int .i64 f.u, .int .i64 f.v, .int .i64 f.w]) ∧ Below W.heap.size W w') := fun W hW => by
                          have := edgeOf_any _ V E f.id W (A.out.1.below (K2.out.1.trans (hW.mono K2.out.1.size)))
                          rw [edgeAt_in G.out.1.2.2.2.2.2 hfE] at this
                          exact this
                        have AH : Aside (∀ W, Calls Tryz.prog 31 #[.agg #[.int .i64 f.id, .int .i64 f.u, .int .i64 f.v, .int .i64 f.w], .agg #[.int .i64 e.id, .int .i64 e.u, .int .i64 e.v, .int .i64 e.w]] W fun e w' => e = .returned (.bool true) ∧ W.grownBy w' none) := fun W => by
                          have := ahead_any f e W
                          rw [hah] at this
                          exact this
                        clear hway hfE hbwy hf hfL hin hby hah
                        go_wp2_with fail
                        go_region_held3 (fun w' => w'.cell? ⟨w.heap.size, 0, none⟩ = some (.slice va V.length vcap) ∧ w'.cell? ⟨w.heap.size, 1, none⟩ = some (.slice (some ⟨eb, eoff, none⟩) E.length ecap) ∧ w'.cell? ⟨wp.heap.size, 0, none⟩ = some (.int .i64 e.id) ∧ w'.cell? ⟨wp.heap.size, 1, none⟩ = some (.int .i64 e.u) ∧ w'.cell? ⟨wp.heap.size, 2, none⟩ = some (.int .i64 e.v) ∧ w'.cell? ⟨wp.heap.size, 3, none⟩ = some (.int .i64 e.w))
                          (first
                            | go_keep
                            | (go_split_ands; refine ⟨(bcell hb8 _ _ hzA').trans ?_, (bcell hb8 _ _ hzA').trans ?_, (bcell hb8 _ _ hzB').trans ?_, (bcell hb8 _ _ hzB').trans ?_, (bcell hb8 _ _ hzB').trans ?_, (bcell hb8 _ _ hzB').trans ?_⟩ <;> assumption)
                            | (go_split_ands; refine ⟨hg9.cell ?_ (by simp), hg9.cell ?_ (by simp), hg9.cell ?_ (by simp), hg9.cell ?_ (by simp), hg9.cell ?_ (by simp), hg9.cell ?_ (by simp)⟩ <;> assumption))
                          (first
                            | ((go_at_call 30; (first | ((with_reducible refine Calls.mono (HAS.out _ ?_ f.id true hd1) ?_); (first | exact K3.out.1 | exact bl_drew K3.out.1)) | ((with_reducible refine Calls.mono (HAS.out _ ?_ e.id false hd2) ?_); (first | exact K3.out.1 | exact bl_drew K3.out.1))); rintro _ _ ⟨rfl, rfl⟩))
                            | (go_at_call 29; (with_reducible refine Calls.mono (EDG.out _ ?_) ?_); (first | exact K3.out.1 | exact bl_drew K3.out.1 | exact bl_drew (bl_drew K3.out.1)); rintro _ w8 ⟨rfl, hb8⟩; have HB8 := aside' (bl_trans (w0 := w7) (by repeat (first | exact K3.out.1 | refine bl_drew ?_ | refine bl_drewN ?_ _)) hb8))
                            | (go_at_call 31; (with_reducible refine Calls.mono (AH.out _) ?_); rintro _ w9 ⟨rfl, hg9⟩; have HB9 := aside' (bl_none (w0 := w7) (by repeat (first | exact HB8.out | refine bl_drew ?_ | refine bl_drewN ?_ _)) hg9)))
                        all_goals (
                          rename_i hH
                          clear hH
                          go_wp2_with fail
                          go_roundg (gk - 1)
                          case rel => exact ⟨j + 1, by omega, by go_num, by repeat (first | exact HB9.out | refine bl_drew ?_ | refine bl_drewN ?_ _)⟩
                          case measure => omega)
                    · go_wp2_with fail
                      go_roundg (gk_outer - 1)
                      case rel => exact ⟨k + 1, by omega, by go_num, K2.out.2.1.trans (hby.mono K2.out.2.1.size)⟩
                      case measure => omega
                · go_wp2_with fail
                  go_ret
                  exact ⟨rfl, hbw⟩)
  · rw [if_neg hR] at hts
    have hids : forestIds V E = [] := if_neg hR
    rw [checkN_no hR] at hck ⊢
    obtain ⟨oa, ocap, rfl, -⟩ := owns_form hts.outer
    rw [hids]
    clear hts hids hR
    go_wp2_with fail
    refine hck.mono ?_
    rintro _ w4 ⟨rfl, hb4⟩
    have F := aside' (D.out.1.trans (hb4.mono D.out.1.size))
    clear hb4 hck n0 n1 D
    go_wp2_with fail
    go_ret
    exact ⟨rfl, F.out⟩

end Go.Proofs.YthidhdffiebbgaaGreatDoor
