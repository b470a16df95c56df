/- The walks of Path, far and Span. -/
import Derived.Test.YthidhdffiebbgaaGreatDoorPlN
namespace Go.Proofs.YthidhdffiebbgaaGreatDoor
open Go.RowKit Go.Proofs.YthidhdffiebbgaaGreatDoor.Sk

def PathIdsPost (w : World) (V : List Int) (E : List Edg) (u v : Int) (e : Ending) (w' : World) : Prop :=
  ∃ L c, PathA V E u v L c ∧ L.length ≤ 2048 ∧ IdsPost w (L.map Edg.id) c e w'

set_option maxRecDepth 100000 in
set_option maxHeartbeats 1000000 in
theorem pathIds_any (n : Value) (V : List Int) (E : List Edg) (u v : Int) (w : World) (hn : NetAt w n V E) (hu : wf64 u) (hv : wf64 v) :
    Calls Tryz.prog 19 #[n, .int .i64 u, .int .i64 v] w (PathIdsPost w V E u v) := by
  obtain ⟨vs, es, rfl, hV, hE⟩ := hn.ex
  have hb0 : Below w.heap.size w (w.alloc (.cells #[vs, es] 25)) := (Below.refl _ _).alloc (Nat.le_refl _) _
  have hp := path_any _ V E u v _ (hn.below hb0) hu hv
  have A : Aside (Below w.heap.size w (w.alloc (.cells #[vs, es] 25))) := hb0
  clear hn hV hE hb0
  go_enter Tryz.func19, Tryz.ntmps19
  go_wp2_with fail
  refine hp.mono ?_
  rintro _ w2 ⟨pv, L, c, rfl, hL, hPA, hl, hb⟩
  obtain ⟨pa, pcap, rfl, _, _, _⟩ := id hL
  have hlen : L.length ≤ 2048 := hl
  have C : Aside (RdE w2 (.slice pa L.length pcap) L ∧ Below w.heap.size w w2 ∧ PathA V E u v L c) := ⟨hL, A.out.trans (hb.mono (by simp)), hPA⟩
  clear hL hb hPA hp hl
  go_wp2_with fail
  go_loopg [22, 10] L.length (fun g i o wr => ∃ k : Nat, k + g = L.length ∧ i = .int .i64 k ∧ wr.ownsRow w2.heap.size 3 1 o k (((L.take k).map Edg.id).map (Value.int .i64)) ∧ Below w2.heap.size w2 wr)
  case atStart => exact ⟨0, by omega, rfl, by simpa using World.ownsRow_nil _ _ _ _, Below.refl _ _⟩
  case round =>
    obtain ⟨k, hk, rfl, hO, hbel⟩ := hrel
    by_cases hlt : k < L.length
    · obtain ⟨_, hew, b, off, rfl, hb, g0, g1, g2, g3⟩ := (C.out.1.below hbel).get hlt
      obtain ⟨e, hx⟩ : ∃ e, L[k] = e := ⟨_, rfl⟩
      rw [hx] at g0 g1 g2 g3 hew
      have hsnoc : L.take (k + 1) = L.take k ++ [e] := by rw [List.take_succ_eq_append_getElem hlt, hx]
      obtain ⟨a5, cap5, hu5, _⟩ := owns_form hO
      subst hu5
      obtain ⟨i0, hi, hz0, hz1, hz2⟩ := info_parts info3
      have hbs := hbel.size
      have D : Aside (Below w2.heap.size w2 wr ∧ L.take (k + 1) = L.take k ++ [e]) := ⟨hbel, hsnoc⟩
      clear hbel hx hsnoc hew
      go_wp2_with (first
        | (at_builtin; refine wpList_append_own_at _ rfl (.tmp 26) (.tmp 29) 22 rfl w2.heap.size 3 i0 (.int .i64 0) 1 8 Tryz.underlying22 hi hz0 hz1 hz2 rfl (by decide) _ _ _ rfl ((hO.alloc _).alloc _) ⟨wr.heap.size + 1, 0, none⟩ 1 1 [.int .i64 e.id] rfl rfl (by simpa using cell_one_new (wr.alloc (.cells #[.int .i64 e.id, .int .i64 e.u, .int .i64 e.v, .int .i64 e.w] 47)) (.int .i64 e.id) 3) (ints_oneCell .i64 [e.id]) (by unfold maxLen; omega) (by omega) (by simp; omega) ?_; intro v' w3 hown' hgrow hnil hloc; obtain ⟨g', cap', rfl⟩ := owns_succ hown')
        | fail)
      obtain ⟨d1, d2⟩ := D.out
      go_roundg (gk - 1)
      case rel =>
        refine ⟨k + 1, by omega, by go_num, by rw [d2]; simpa using hown', ((d1.alloc hbs _).alloc (by simp; omega) _).grown hgrow (by simp; omega) fun j hj => (hO.lt j hj).1⟩
      case measure => omega
    · have hkk : k = L.length := by omega
      subst hkk
      rw [List.take_length] at hO
      have D : Aside (Below w2.heap.size w2 wr ∧ wr.ownsRow w2.heap.size 3 1 u10 L.length ((L.map Edg.id).map (Value.int .i64))) := ⟨hbel, hO⟩
      clear hbel hO
      go_wp2_with fail
      go_ret2
      obtain ⟨c1, c2, c3⟩ := C.out
      obtain ⟨d1, d2⟩ := D.out
      exact ⟨L, c, c3, hlen, u10, rfl, by rw [List.length_map]; exact owns_mono d2 c2.size, c2.trans (d1.mono c2.size)⟩

/-- what far answers -/
def FarPost (w : World) (V : List Int) (F : List Edg) (r : Int) (e : Ending) (w' : World) : Prop :=
  ∃ at' s ord M D, e = .returned (.tuple #[.int .i64 at', .int .i64 s]) ∧ Bfs F r ord M D ∧ Closed F ord ∧ (∀ x ∈ ord, x ∈ V) ∧ at' ∈ ord ∧ (∃ f, M at' = some (f, s)) ∧ (∀ x ∈ ord, ∀ f t, M x = some (f, t) → t ≤ s) ∧ 0 ≤ s ∧ s ≤ 2251799813685248 ∧ Below w.heap.size w w'

set_option maxRecDepth 100000 in
set_option maxHeartbeats 1000000 in
theorem far_any (n : Value) (V : List Int) (E : List Edg) (r : Int) (w : World) (hn : NetAt w n V E) (hR : Right V E) (hf : r ∈ V) :
    Calls Tryz.prog 57 #[n, .int .i64 r] w (FarPost w V (forestOf E) r) := by
  obtain ⟨vs, es, rfl, hV, hE⟩ := hn.ex
  have hb0 : Below w.heap.size w (w.alloc (.cells #[vs, es] 25)) := (Below.refl _ _).alloc (Nat.le_refl _) _
  have hre := reach_any _ V E r _ (hn.below hb0) hR hf
  have A : Aside (Below w.heap.size w (w.alloc (.cells #[vs, es] 25)) ∧ Right V E ∧ r ∈ V) := ⟨hb0, hR, hf⟩
  clear hn hV hE hb0 hR hf
  go_enter Tryz.func57, Tryz.ntmps57
  go_wp2_with fail
  refine hre.mono ?_
  rintro _ w2 ⟨sb, nn, ov, ord, M, D, rfl, hsb, hM, hO, hBf, hcl, hVo, hol, hb2⟩
  have hB2 : Below w.heap.size w w2 := A.out.1.trans (hb2.mono (by simp))
  obtain ⟨oa, ocap, rfl, _, _, _⟩ := id hO
  have hok : ∀ e ∈ forestOf E, okE V e := fun e he => A.out.2.1.2.2.2.1 e (forestOf_sub E e he)
  have hro : r ∈ ord := (hBf.dom r).1 (by rw [hBf.root]; simp)
  have hwV : ∀ x ∈ ord, wf64 x := fun x hx => (A.out.2.1.2.2.1.1 x (hVo x hx)).wf
  have hsb' : ∀ x f t, M x = some (f, t) → 0 ≤ t ∧ t ≤ 2251799813685248 := fun x f t h => by
    have h1 := hBf.sum hok _ x f t (Nat.le_refl _) h
    have h2 := hBf.deep x ((hBf.dom x).1 (by rw [h]; simp))
    omega
  have C : Aside (MapAt Tryz.prog 3 w2 sb nn (encS M) ∧ RdI w2 (.slice oa ord.length ocap) ord ∧ Bfs (forestOf E) r ord M D ∧ Closed (forestOf E) ord ∧ (∀ x ∈ ord, x ∈ V) ∧ Below w.heap.size w w2 ∧ r ∈ ord ∧ (∀ x ∈ ord, wf64 x) ∧ (∀ x f t, M x = some (f, t) → 0 ≤ t ∧ t ≤ 2251799813685248)) :=
    ⟨hM, hO, hBf, hcl, hVo, hB2, hro, hwV, hsb'⟩
  have hsbl : sb < w2.heap.size := hM.lt
  clear hM hO hBf hcl hVo hb2 hB2 hro hwV hok hsb hre hsb'
  go_wp2_with fail
  go_loopg [20, 8] ord.length (fun g i x wr => ∃ (k : Nat) (y : Int), k + g = ord.length ∧ i = .int .i64 k ∧ x = .int .i64 y ∧ y ∈ ord ∧ Below w2.heap.size w2 wr ∧ (∀ z ∈ ord.take k, ∀ f t g s, M z = some (f, t) → M y = some (g, s) → t ≤ s))
  case atStart => exact ⟨0, r, by omega, rfl, rfl, C.out.2.2.2.2.2.2.1, Below.refl _ _, by simp⟩
  case round =>
    obtain ⟨k, y, hk, rfl, rfl, hy, hbel, hmax⟩ := hrel
    obtain ⟨c1, c2, c3, c4, c5, c6, c7, c8, c9⟩ := C.out
    obtain ⟨⟨f, s⟩, hMy⟩ := Option.ne_none_iff_exists'.1 ((c3.dom y).2 hy)
    have hfl := field142_1
    have hs := c9 y f s hMy
    by_cases hlt : k < ord.length
    · obtain ⟨_, hwx, b, off, rfl, hb, g0⟩ := (c2.below hbel).get hlt
      obtain ⟨x, hx⟩ : ∃ x, ord[k] = x := ⟨_, rfl⟩
      have hxo : x ∈ ord := hx ▸ List.getElem_mem hlt
      rw [hx] at g0 hwx
      obtain ⟨⟨f2, s2⟩, hMx⟩ := Option.ne_none_iff_exists'.1 ((c3.dom x).2 hxo)
      have hs2 := c9 x f2 s2 hMx
      have look1 := (c1.below hbel hsbl).look Tryz.underlying3 Tryz.underlying138 (Tryz.zeroValue142 _) hwx
      have look2 := (c1.below hbel hsbl).look Tryz.underlying3 Tryz.underlying138 (Tryz.zeroValue142 _) (c8 y hy)
      simp only [encS, hMx, Option.map_some, Option.getD_some, stepV] at look1
      simp only [encS, hMy, Option.map_some, Option.getD_some, stepV] at look2
      have hsnoc : ord.take (k + 1) = ord.take k ++ [x] := by rw [List.take_succ_eq_append_getElem hlt, hx]
      have R : Aside (Below w2.heap.size w2 wr ∧ (∀ z ∈ ord.take k, ∀ f t g s, M z = some (f, t) → M y = some (g, s) → t ≤ s) ∧ ord.take (k + 1) = ord.take k ++ [x] ∧ M x = some (f2, s2) ∧ M y = some (f, s) ∧ x ∈ ord ∧ y ∈ ord) := ⟨hbel, hmax, hsnoc, hMx, hMy, hxo, hy⟩
      clear hbel hmax hsnoc hMx hMy hxo hy c1 c2 c3 c4 c5 c6 c7 c8 c9 hx
      by_cases hgt : s < s2
      · go_wp2_with fail
        obtain ⟨r1, r2, r3, r4, r5, r6, r7⟩ := R.out
        go_roundg (gk - 1)
        case rel =>
          refine ⟨k + 1, x, by omega, by go_num, rfl, r6, r1, fun z hz f' t g' s' h1 h2 => ?_⟩
          rw [r4] at h2
          simp only [Option.some.injEq, Prod.mk.injEq] at h2
          rw [r3, List.mem_append, List.mem_singleton] at hz
          rcases hz with hz | rfl
          · have := r2 z hz f' t _ _ h1 r5; omega
          · rw [r4] at h1; simp only [Option.some.injEq, Prod.mk.injEq] at h1; omega
        case measure => omega
      · go_wp2_with fail
        obtain ⟨r1, r2, r3, r4, r5, r6, r7⟩ := R.out
        go_roundg (gk - 1)
        case rel =>
          refine ⟨k + 1, y, by omega, by go_num, rfl, r7, r1, fun z hz f' t g' s' h1 h2 => ?_⟩
          rw [r5] at h2
          simp only [Option.some.injEq, Prod.mk.injEq] at h2
          rw [r3, List.mem_append, List.mem_singleton] at hz
          rcases hz with hz | rfl
          · have := r2 z hz f' t _ _ h1 r5; omega
          · rw [r4] at h1; simp only [Option.some.injEq, Prod.mk.injEq] at h1; omega
        case measure => omega
    · have hkk : k = ord.length := by omega
      subst hkk
      rw [List.take_length] at hmax
      have look1 := ((c1.below hbel hsbl).block (w' := wr.drew) rfl).look Tryz.underlying3 Tryz.underlying138 (Tryz.zeroValue142 _) (c8 y hy)
      simp only [encS, hMy, Option.map_some, Option.getD_some, stepV] at look1
      have R : Aside (FarPost w V (forestOf E) r (.returned (.tuple #[.int .i64 y, .int .i64 s])) wr.drew) := ⟨y, s, ord, M, D, rfl, c3, c4, c5, hy, ⟨f, hMy⟩, fun x hx f' t h => hmax x hx f' t f s h hMy, hs.1, hs.2, c6.trans ((show Below w2.heap.size w2 wr.drew from ⟨hbel.os, hbel.tape, hbel.output, hbel.size, hbel.block⟩).mono c6.size)⟩
      clear hbel hmax hMy hy c1 c2 c3 c4 c5 c6 c7 c8 c9
      go_wp2_with fail
      go_region_held3 (fun w' => (Instr.lookup 138 (.map (some sb)) (.int .i64 y) false).run Tryz.prog w' = .ok (.agg #[.int .i64 f.id, .int .i64 f.u, .int .i64 f.v, .int .i64 f.w, .int .i64 s]) w') (go_keep) (fail)
      rename_i hH
      clear hH
      go_wp2
      go_ret2
      exact R.out

/-- what Span answers -/
def SpanA (V : List Int) (E : List Edg) (u : Int) (s c : Int) : Prop :=
  (checkA V E [u] = 0 → ∃ x o1 M1 D1 y o2 M2 D2 t1 t2, Bfs (forestOf E) u o1 M1 D1 ∧ Closed (forestOf E) o1 ∧ x ∈ o1 ∧ (∃ f, M1 x = some (f, t1)) ∧ (∀ z ∈ o1, ∀ f t, M1 z = some (f, t) → t ≤ t1) ∧
    Bfs (forestOf E) x o2 M2 D2 ∧ Closed (forestOf E) o2 ∧ y ∈ o2 ∧ (∃ f, M2 y = some (f, t2)) ∧ (∀ z ∈ o2, ∀ f t, M2 z = some (f, t) → t ≤ t2) ∧ s = bsum t2 ∧ c = berr t2) ∧ (checkA V E [u] ≠ 0 → s = 0 ∧ c = checkA V E [u])

theorem rdI_one (w : World) (u : Int) (hu : wf64 u) : RdI (w.alloc (.cells #[.int .i64 u] 3)) (.slice (some ⟨w.heap.size, 0, none⟩) 1 1) [u] := by
  refine ⟨_, 1, rfl, by simp [hu], by simp, fun _ => ⟨_, 0, rfl, by simp, fun j hj => ?_⟩⟩
  rw [World.cell?_alloc_at _ _ _ _ rfl]
  match j, hj with
  | 0, _ => rfl

set_option maxRecDepth 100000 in
set_option maxHeartbeats 1000000 in
theorem span_any (n : Value) (V : List Int) (E : List Edg) (u : Int) (w : World) (hn : NetAt w n V E) (hu : wf64 u) :
    Calls Tryz.prog 23 #[n, .int .i64 u] w fun e w' => ∃ s c, e = .returned (.tuple #[.int .i64 s, .int .i64 c]) ∧ SpanA V E u s c ∧ Below w.heap.size w w' := by
  obtain ⟨vs, es, rfl, hV, hE⟩ := hn.ex
  have hb0 : Below w.heap.size w ((w.alloc (.cells #[vs, es] 25)).alloc (.cells #[.int .i64 u] 3)) := ((Below.refl _ _).alloc (Nat.le_refl _) _).alloc (by simp) _
  have hn0 := hn.below hb0
  have hq := rdI_one (w.alloc (.cells #[vs, es] 25)) u hu
  simp only [World.size_alloc] at hq
  have A : Aside (NetAt w (.agg #[vs, es]) V E) := hn
  clear hn hV hE
  go_enter Tryz.func23, Tryz.ntmps23
  go_wp2_with fail
  refine (checkA_any _ _ V E [u] _ hn0 hq (by simp)).mono ?_
  rintro _ w1 ⟨rfl, hb1⟩
  have hB1 : Below w.heap.size w w1 := hb0.trans (hb1.mono (by simp; omega))
  by_cases hr : checkA V E [u] = 0
  · obtain ⟨hR, hin⟩ := checkA_in hr
    have huV : u ∈ V := hin u (by simp)
    have n0 : w1.cell? ⟨w.heap.size, 0, none⟩ = some vs := by rw [bcell hb1 _ _ (by simp; omega), World.cell?_alloc_past _ _ _ (by simp), World.cell?_alloc_at _ _ _ _ rfl]; rfl
    have n1 : w1.cell? ⟨w.heap.size, 1, none⟩ = some es := by rw [bcell hb1 _ _ (by simp; omega), World.cell?_alloc_past _ _ _ (by simp), World.cell?_alloc_at _ _ _ _ rfl]; rfl
    have hz1 : w.heap.size + 2 ≤ w1.heap.size := by have := hb1.size; simpa using this
    have hfa := far_any _ V E u w1 (A.out.below hB1) hR huV
    have B : Aside (Right V E ∧ Below w.heap.size w w1 ∧ checkA V E [u] = 0 ∧ u ∈ V ∧ w1.cell? ⟨w.heap.size, 0, none⟩ = some vs ∧ w1.cell? ⟨w.heap.size, 1, none⟩ = some es) := ⟨hR, hB1, hr, huV, n0, n1⟩
    rw [hr]
    clear hn0 hb0 hb1 hB1 hr hR hq hin huV
    go_wp2_with fail
    refine hfa.mono ?_
    rintro _ w2 ⟨x, t1, o1, M1, D1, rfl, hBf, hcl, hVo, hx, hMx, hmx, _, _, hb2⟩
    have hB2 : Below w.heap.size w w2 := B.out.2.1.trans (hb2.mono B.out.2.1.size)
    have hfa2 := far_any _ V E x w2 (A.out.below hB2) B.out.1 (hVo x hx)
    have m0 : w2.cell? ⟨w.heap.size, 0, none⟩ = some vs := (bcell hb2 _ _ (by omega)).trans n0
    have m1 : w2.cell? ⟨w.heap.size, 1, none⟩ = some es := (bcell hb2 _ _ (by omega)).trans n1
    have C : Aside (Bfs (forestOf E) u o1 M1 D1 ∧ Closed (forestOf E) o1 ∧ x ∈ o1 ∧ (∃ f, M1 x = some (f, t1)) ∧ (∀ z ∈ o1, ∀ f t, M1 z = some (f, t) → t ≤ t1) ∧ Below w.heap.size w w2) := ⟨hBf, hcl, hx, hMx, hmx, hB2⟩
    clear hBf hcl hVo hx hMx hmx hb2 hB2 hfa n0 n1
    go_wp2_with fail
    refine hfa2.mono ?_
    rintro _ w3 ⟨y, t2, o2, M2, D2, rfl, hBf, hcl, hVo, hy, hMy, hmy, h0, h1, hb3⟩
    have R : Aside (SpanA V E u (bsum t2) (berr t2) ∧ Below w.heap.size w w3) := by
      obtain ⟨c1, c2, c3, c4, c5, c6⟩ := C.out
      exact ⟨⟨fun _ => ⟨x, o1, M1, D1, y, o2, M2, D2, t1, t2, c1, c2, c3, c4, c5, hBf, hcl, hy, hMy, hmy, rfl, rfl⟩, fun h => absurd B.out.2.2.1 h⟩, c6.trans (hb3.mono c6.size)⟩
    clear hBf hcl hVo hy hMy hmy hb3 hfa2 m0 m1
    go_wp2_with (go_at_call 50; refine (bounded_any _ _).mono ?_; rintro _ _ ⟨rfl, rfl⟩)
    go_ret2
    exact ⟨_, _, rfl, R.out.1, R.out.2⟩
  · have K2 : Aside (SpanA V E u 0 (checkA V E [u]) ∧ Below w.heap.size w w1) := ⟨⟨fun h => absurd h hr, fun _ => ⟨rfl, rfl⟩⟩, hB1⟩
    obtain ⟨c, hc⟩ : ∃ c, checkA V E [u] = c := ⟨_, rfl⟩
    have hcA : Aside (checkA V E [u] = c) := hc
    rw [hc]
    rw [hc] at hr
    have hne : (c != 0) = true := by simp [hr]
    clear hn0 hb0 hb1 hB1 hr hc hq
    go_wp2_with fail
    go_ret2
    exact ⟨_, c, rfl, hcA.out ▸ K2.out.1, K2.out.2⟩

end Go.Proofs.YthidhdffiebbgaaGreatDoor
