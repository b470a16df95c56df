/- The walks of Forest and Weight. -/
import Derived.Test.YthidhdffiebbgaaGreatDoorPlJ
import Derived.Test.YthidhdffiebbgaaGreatDoorShelf
import Derived.Shelf.Slices.In.SortNone
import Derived.Sort.OwnSortedInts
import Derived.Lib.OwnBridge
namespace Go.Proofs.YthidhdffiebbgaaGreatDoor
open Go.RowKit Go.Proofs.YthidhdffiebbgaaGreatDoor.Sk
open Go.Sort (grow)

/-- numbers in order -/
def sortI (zs : List Int) : List Int := zs.mergeSort fun x y => decide (x ≤ y)
theorem sortI_perm (zs : List Int) : (sortI zs).Perm zs := List.mergeSort_perm _ _
theorem sortI_len (zs : List Int) : (sortI zs).length = zs.length := (sortI_perm zs).length_eq

/-- slices.Sort over a row of the call's own -/
theorem sort_own (base n : Nat) (v : Value) (zs : List Int) (w : World) (h : w.ownsRow base 3 1 v n (zs.map (Value.int .i64))) (hn : n < 4611686018427387904) :
    Calls Tryz.prog 47 #[v] w fun e w' => e = .returned (.tuple #[]) ∧ w'.ownsRow base 3 1 v n ((sortI zs).map (Value.int .i64)) ∧ w.grownBy w' v.ownBlock := by
  have hl : zs.length = n := by simpa using h.1
  rcases h.2 with ⟨rfl, rfl⟩ | ⟨g, cap, cur, rfl, hb, hg, h1, h2, h3, h4⟩
  · obtain rfl : zs = [] := List.length_eq_zero_iff.1 hl
    refine (Any.slices_Sort_int_none Tryz.lays189 none 0 w).mono ?_
    rintro _ _ ⟨rfl, rfl⟩
    exact ⟨rfl, by simpa [sortI] using h, rfl, rfl, rfl, Nat.le_refl _, fun _ _ _ => rfl⟩
  · have hs : n ≠ 0 ∨ n = 0 := by omega
    obtain ⟨g', cap', e0, hb', hlt, _, _, _, hH⟩   := Go.Lib.holds_of_ownsRow h (by simp)
    simp only [Value.slice.injEq, Option.some.injEq, Addr.mk.injEq] at e0
    obtain ⟨⟨rfl, _⟩, _, rfl⟩ := e0
    subst hl
    refine (Tryz.slices_Sort_int g 0 cap zs w hH hlt hn).mono ?_
    rintro _ _ ⟨rfl, q, os, rfl⟩
    exact ⟨rfl, ownsRow_sortedI (sortI_len zs) hb hg h1 h2 h3, grownBy_sortedI _⟩

/-- a sum, unless it is too great -/
def bsum (s : Int) : Int := if 70368744177664 < s then 0 else s
def berr (s : Int) : Int := if 70368744177664 < s then 62 else 0

theorem bounded_any (s : Int) (w : World) :
    Calls Tryz.prog 50 #[.int .i64 s] w fun e w' => e = .returned (.tuple #[.int .i64 (bsum s), .int .i64 (berr s)]) ∧ w = w' := by
  by_cases h : 70368744177664 < s
  · have A : Aside (bsum s = 0 ∧ berr s = 62) := ⟨if_pos h, if_pos h⟩
    go_enter Tryz.func50, Tryz.ntmps50
    go_wp2
    go_ret2
    exact ⟨by rw [A.out.1, A.out.2]; rfl, rfl⟩
  · have A : Aside (bsum s = s ∧ berr s = 0) := ⟨if_neg h, if_neg h⟩
    go_enter Tryz.func50, Tryz.ntmps50
    go_wp2
    go_ret2
    exact ⟨by rw [A.out.1, A.out.2]; rfl, rfl⟩

/-- the sum of weights -/
def sumW (E : List Edg) : Int := (E.map Edg.w).foldl (· + ·) 0
theorem sumW_nil : sumW [] = 0 := rfl
theorem sumW_snoc (E : List Edg) (e : Edg) : sumW (E ++ [e]) = sumW E + e.w := by simp [sumW]
theorem sumW_bounds {V : List Int} (E : List Edg) : (∀ e ∈ E, okE V e) → 0 ≤ sumW E ∧ sumW E ≤ E.length * 1099511627776 := by
  revert E
  refine snocE_ind (by simp [sumW_nil]) ?_
  intro l x ih h
  obtain ⟨h1, h2⟩ := ih fun e he => h e (List.mem_append_left _ he)
  obtain ⟨h3, h4, _⟩ := h x (by simp)
  rw [sumW_snoc]
  simp
  omega

/-- what Weight answers -/
noncomputable def weightA (V : List Int) (E : List Edg) : Int × Int := if Right V E then (bsum (sumW (forestOf E)), berr (sumW (forestOf E))) else (0, 60)

theorem wf_sub {E : List Edg} (h : ∀ e ∈ E, e.wf) : ∀ e ∈ forestOf E, e.wf := fun e he => h e (forestOf_sub E e he)

set_option maxRecDepth 100000 in
set_option maxHeartbeats 1000000 in
theorem weight_any (n : Value) (V : List Int) (E : List Edg) (w : World) (hn : NetAt w n V E) :
    Calls Tryz.prog 16 #[n] w fun e w' => e = .returned (.tuple #[.int .i64 (weightA V E).1, .int .i64 (weightA V E).2]) ∧ Below w.heap.size w w' := by
  obtain ⟨vs, es, rfl, hV, hE⟩ := hn.ex
  have hb0 : Below w.heap.size w (w.alloc (.cells #[vs, es] 25)) := (Below.refl _ _).alloc (Nat.le_refl _) _
  have hn0 := hn.below hb0
  have hwf : ∀ e ∈ E, e.wf := by obtain ⟨_, _, _, h, _⟩ := hE; exact h
  have A : Aside (NetAt w (.agg #[vs, es]) V E ∧ ∀ e ∈ E, e.wf) := ⟨hn, hwf⟩
  clear hn hV hE hwf
  go_enter Tryz.func16, Tryz.ntmps16
  go_wp2_with fail
  refine (checkA_any _ _ V E [] _ hn0 (RdI.nil _) (by simp)).mono ?_
  rintro _ w1 ⟨rfl, hb1⟩
  have hB1 : Below w.heap.size w w1 := hb0.trans (hb1.mono (by simp))
  by_cases hR : Right V E
  · rw [checkA_ok hR (by simp)]
    have n0 : w1.cell? ⟨w.heap.size, 0, none⟩ = some vs := by rw [bcell hb1 _ _ (by simp), World.cell?_alloc_at _ _ _ _ rfl]; rfl
    have n1 : w1.cell? ⟨w.heap.size, 1, none⟩ = some es := by rw [bcell hb1 _ _ (by simp), World.cell?_alloc_at _ _ _ _ rfl]; rfl
    have hF := forest_of _ V E w1 (A.out.1.below hB1) hR
    have B : Aside (Right V E ∧ Below w.heap.size w w1 ∧ weightA V E = (bsum (sumW (forestOf E)), berr (sumW (forestOf E)))) := ⟨hR, hB1, if_pos hR⟩
    clear hn0 hb0 hb1 hB1 hR
    go_wp2_with fail
    refine hF.mono ?_
    rintro _ w2 ⟨fv, rfl, hO, hb2⟩
    have hwfF := wf_sub A.out.2
    have hRd := rdE_of_owns hO hwfF (by have := forestOf_le E; have := B.out.1.2.1; omega)
    have hlen : (forestOf E).length ≤ 2048 := by have := forestOf_le E; have := B.out.1.2.1; omega
    obtain ⟨F, hFe⟩ : ∃ F, forestOf E = F := ⟨_, rfl⟩
    have hok : ∀ e ∈ F, okE V e := fun e he => B.out.1.2.2.2.1 e (forestOf_sub E e (hFe ▸ he))
    rw [hFe] at hRd hlen hO
    obtain ⟨fa, fcap, rfl, _⟩ := owns_form hO
    have C : Aside (RdE w2 (.slice fa F.length fcap) F ∧ Below w.heap.size w w2 ∧ forestOf E = F ∧ ∀ e ∈ F, okE V e) := ⟨hRd, B.out.2.1.trans (hb2.mono B.out.2.1.size), hFe, hok⟩
    clear hRd hb2 hFe hO hF hwfF hok n0 n1
    go_wp2_with fail
    go_loopg [16, 5] F.length (fun g i s wr => ∃ k : Nat, k + g = F.length ∧ i = .int .i64 k ∧ s = .int .i64 (sumW (F.take k)) ∧ Below w2.heap.size w2 wr)
    case atStart => exact ⟨0, by omega, rfl, rfl, Below.refl _ _⟩
    case round =>
      obtain ⟨k, hk, rfl, rfl, hbel⟩ := hrel
      by_cases hlt : k < F.length
      · obtain ⟨_, hew, b, off, rfl, hb, g0, g1, g2, g3⟩ := (C.out.1.below hbel).get hlt
        obtain ⟨e, hx⟩ : ∃ e, F[k] = e := ⟨_, rfl⟩
        rw [hx] at g0 g1 g2 g3 hew
        have hsnoc : F.take (k + 1) = F.take k ++ [e] := by rw [List.take_succ_eq_append_getElem hlt, hx]
        have hs := sumW_snoc (F.take k) e
        rw [← hsnoc] at hs
        have hbd := sumW_bounds (V := V) (F.take (k + 1)) fun e he => C.out.2.2.2 e (List.mem_of_mem_take he)
        have hle : (F.take (k + 1)).length ≤ 2048 := by simp; omega
        obtain ⟨s, hse⟩ : ∃ s, sumW (F.take k) = s := ⟨_, rfl⟩
        rw [hse] at hs ⊢
        rw [hs] at hbd
        have hb2 : s + e.w ≤ 2251799813685248 := by omega
        have hb1 := hbd.1
        have D : Aside (Below w2.heap.size w2 wr ∧ sumW (F.take (k + 1)) = s + e.w) := ⟨hbel, hs⟩
        clear hbel hs hse hx hbd hsnoc hle hew
        go_wp2_with fail
        obtain ⟨d1, d2⟩ := D.out
        go_roundg (gk - 1)
        case rel => exact ⟨k + 1, by omega, by go_num, by rw [d2], d1.alloc d1.size _⟩
        case measure => omega
      · have hkk : k = F.length := by omega
        subst hkk
        rw [List.take_length]
        have D : Aside (Below w2.heap.size w2 wr) := hbel
        clear hbel
        go_wp2_with (go_at_call 50; refine (bounded_any _ _).mono ?_; rintro _ _ ⟨rfl, rfl⟩)
        go_ret2
        refine ⟨?_, C.out.2.1.trans (D.out.mono C.out.2.1.size)⟩
        rw [B.out.2.2, C.out.2.2.1]; rfl
  · have B : Aside (Below w.heap.size w w1 ∧ weightA V E = (0, 60)) := ⟨hB1, if_neg hR⟩
    rw [checkA_no hR]
    clear hn0 hb0 hb1 hB1 hR
    go_wp2_with fail
    go_ret2
    exact ⟨by rw [B.out.2]; rfl, B.out.1⟩

/-- what Forest answers -/
noncomputable def forestIds (V : List Int) (E : List Edg) : List Int := if Right V E then sortI ((forestOf E).map Edg.id) else []

theorem forestIds_len (V : List Int) (E : List Edg) : (forestIds V E).length ≤ E.length := by
  unfold forestIds
  split
  · rw [sortI_len]; simpa using forestOf_le E
  · simp

/-- what a call leaves that answers numbers and an error -/
def IdsPost (w : World) (zs : List Int) (c : Int) (e : Ending) (w' : World) : Prop :=
  ∃ v, e = .returned (.tuple #[v, .int .i64 c]) ∧ w'.ownsRow w.heap.size 3 1 v zs.length (zs.map (Value.int .i64)) ∧ Below w.heap.size w w'

set_option maxRecDepth 100000 in
set_option maxHeartbeats 1000000 in
theorem forestIds_any (n : Value) (V : List Int) (E : List Edg) (w : World) (hn : NetAt w n V E) :
    Calls Tryz.prog 14 #[n] w (IdsPost w (forestIds V E) (checkN V E)) := by
  obtain ⟨vs, es, rfl, hV, hE⟩ := hn.ex
  have hb0 : Below w.heap.size w (w.alloc (.cells #[vs, es] 25)) := (Below.refl _ _).alloc (Nat.le_refl _) _
  have hn0 := hn.below hb0
  have hwf : ∀ e ∈ E, e.wf := by obtain ⟨_, _, _, h, _⟩ := hE; exact h
  have A : Aside (NetAt w (.agg #[vs, es]) V E ∧ ∀ e ∈ E, e.wf) := ⟨hn, hwf⟩
  clear hn hV hE hwf
  go_enter Tryz.func14, Tryz.ntmps14
  go_wp2_with fail
  refine (checkA_any _ _ V E [] _ hn0 (RdI.nil _) (by simp)).mono ?_
  rintro _ w1 ⟨rfl, hb1⟩
  have hB1 : Below w.heap.size w w1 := hb0.trans (hb1.mono (by simp))
  by_cases hR : Right V E
  · rw [checkA_ok hR (by simp)]
    have n0 : w1.cell? ⟨w.heap.size, 0, none⟩ = some vs := by rw [bcell hb1 _ _ (by simp), World.cell?_alloc_at _ _ _ _ rfl]; rfl
    have n1 : w1.cell? ⟨w.heap.size, 1, none⟩ = some es := by rw [bcell hb1 _ _ (by simp), World.cell?_alloc_at _ _ _ _ rfl]; rfl
    have hF := forest_of _ V E w1 (A.out.1.below hB1) hR
    have B : Aside (Right V E ∧ Below w.heap.size w w1 ∧ forestIds V E = sortI ((forestOf E).map Edg.id) ∧ checkN V E = 0) := ⟨hR, hB1, if_pos hR, if_pos hR⟩
    clear hn0 hb0 hb1 hB1 hR
    go_wp2_with fail
    refine hF.mono ?_
    rintro _ w2 ⟨fv, rfl, hO, hb2⟩
    have hwfF := wf_sub A.out.2
    have hRd := rdE_of_owns hO hwfF (by have := forestOf_le E; have := B.out.1.2.1; omega)
    have hlen : (forestOf E).length ≤ 2048 := by have := forestOf_le E; have := B.out.1.2.1; omega
    obtain ⟨F, hFe⟩ : ∃ F, forestOf E = F := ⟨_, rfl⟩
    rw [hFe] at hRd hlen hO
    obtain ⟨fa, fcap, rfl, _⟩ := owns_form hO
    have C : Aside (RdE w2 (.slice fa F.length fcap) F ∧ Below w.heap.size w w2 ∧ forestOf E = F) := ⟨hRd, B.out.2.1.trans (hb2.mono B.out.2.1.size), hFe⟩
    clear hRd hb2 hFe hO hF hwfF n0 n1
    go_wp2_with fail
    go_loopg [16, 5] F.length (fun g i o wr => ∃ k : Nat, k + g = F.length ∧ i = .int .i64 k ∧ wr.ownsRow w2.heap.size 3 1 o k (((F.take k).map Edg.id).map (Value.int .i64)) ∧ Below w2.heap.size w2 wr)
    case atStart => exact ⟨0, by omega, rfl, by simpa using World.ownsRow_nil _ _ _ _, Below.refl _ _⟩
    case round =>
      obtain ⟨k, hk, rfl, hO, hbel⟩ := hrel
      by_cases hlt : k < F.length
      · obtain ⟨_, hew, b, off, rfl, hb, g0, g1, g2, g3⟩ := (C.out.1.below hbel).get hlt
        obtain ⟨e, hx⟩ : ∃ e, F[k] = e := ⟨_, rfl⟩
        rw [hx] at g0 g1 g2 g3 hew
        have hsnoc : F.take (k + 1) = F.take k ++ [e] := by rw [List.take_succ_eq_append_getElem hlt, hx]
        obtain ⟨a5, cap5, hu5, _⟩ := owns_form hO
        subst hu5
        obtain ⟨i0, hi, hz0, hz1, hz2⟩ := info_parts info3
        have hbs := hbel.size
        have D : Aside (Below w2.heap.size w2 wr ∧ F.take (k + 1) = F.take k ++ [e]) := ⟨hbel, hsnoc⟩
        clear hbel hx hsnoc hew
        go_wp2_with (first
          | (at_builtin; refine wpList_append_own_at _ rfl (.tmp 20) (.tmp 23) 22 rfl w2.heap.size 3 i0 (.int .i64 0) 1 8 Tryz.underlying22 hi hz0 hz1 hz2 rfl (by decide) _ _ _ rfl ((hO.alloc _).alloc _) ⟨wr.heap.size + 1, 0, none⟩ 1 1 [.int .i64 e.id] rfl rfl (by simpa using cell_one_new (wr.alloc (.cells #[.int .i64 e.id, .int .i64 e.u, .int .i64 e.v, .int .i64 e.w] 47)) (.int .i64 e.id) 3) (ints_oneCell .i64 [e.id]) (by unfold maxLen; omega) (by omega) (by simp; omega) ?_; intro v' w3 hown' hgrow hnil hloc; obtain ⟨g', cap', rfl⟩ := owns_succ hown')
          | fail)
        obtain ⟨d1, d2⟩ := D.out
        go_roundg (gk - 1)
        case rel =>
          refine ⟨k + 1, by omega, by go_num, by rw [d2]; simpa using hown', ((d1.alloc hbs _).alloc (by simp; omega) _).grown hgrow (by simp; omega) fun j hj => (hO.lt j hj).1⟩
        case measure => omega
      · have hkk : k = F.length := by omega
        subst hkk
        rw [List.take_length] at hO
        have hso := sort_own w2.heap.size F.length u5 (F.map Edg.id) wr hO (by omega)
        have D : Aside (Below w2.heap.size w2 wr ∧ ∀ b, u5.ownBlock = some b → w2.heap.size ≤ b) := ⟨hbel, fun b h => (hO.lt b h).1⟩
        clear hbel hO
        go_wp2_with fail
        refine hso.mono ?_
        rintro _ w3 ⟨rfl, hO3, hg3⟩
        have G : Aside (w3.ownsRow w2.heap.size 3 1 u5 F.length ((sortI (F.map Edg.id)).map (Value.int .i64)) ∧ wr.grownBy w3 u5.ownBlock) := ⟨hO3, hg3⟩
        clear hO3 hg3 hso
        go_wp2_with fail
        go_ret2
        obtain ⟨b1, b2, b3, b4⟩ := B.out
        obtain ⟨c1, c2, c3⟩ := C.out
        obtain ⟨d1, d2⟩ := D.out
        obtain ⟨g1, g2⟩ := G.out
        refine ⟨u5, by rw [b4]; rfl, ?_, c2.trans ((d1.grown g2 d1.size d2).mono c2.size)⟩
        have hl : (forestIds V E).length = F.length := by rw [b3, sortI_len, c3]; simp
        rw [hl, b3, c3]
        exact owns_mono g1 c2.size
  · have B : Aside (Below w.heap.size w w1 ∧ forestIds V E = [] ∧ checkN V E = 60) := ⟨hB1, if_neg hR, if_neg hR⟩
    rw [checkA_no hR]
    clear hn0 hb0 hb1 hB1 hR
    go_wp2_with fail
    go_ret2
    refine ⟨_, by rw [B.out.2.2]; rfl, ?_, B.out.1⟩
    rw [B.out.2.1]
    exact World.ownsRow_nil _ _ _ _

end Go.Proofs.YthidhdffiebbgaaGreatDoor
