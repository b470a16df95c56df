/- The reference's page with an item; Put on the pool that holds nothing. -/
import Derived.Test.YthfidlhefkjpdaaGreatDoorTbs
import Derived.Test.YthfidlhefkjpdaaGreatDoorTak
import Derived.Test.YthfidlhefkjpdaaGreatDoorTbn
namespace Go.Proofs.YthfidlhefkjpdaaGreatDoor
open Go.RowKit

theorem results_cell1 {fn : Func} {p : Tmp} {ty : TypeId} (h : fn.results = #[.cell p ty]) (tmps : Array Value) (P : Program) (w : World) :
    (results fn tmps).run P w = ((asAddr (tmps.getD p undef)).run P w).andThen fun a w₁ => (loadVar ty a).run P w₁ := by
  simp only [results, h]
  simp [Sem.run_bind, Result.andThen]
def m0 : Value := .agg #[.int .i64 0, .int .u8 1, .int .u32 5, .slice none 0 0]
def m0c : Array Value := #[.int .i64 0, .int .u8 1, .int .u32 5, .slice none 0 0]
theorem m0_cells {w : World} {g : Nat} {t : TypeId} {v : Value} (h : w.heap[g]? = some (.cells #[.int .i64 0, .int .u8 1, .int .u32 5, v] t (0, 0))) :
    (w.cell? ⟨g, 0, none⟩ = some (.int .i64 0) ∧ w.cell? ⟨g, 1, none⟩ = some (.int .u8 1) ∧ w.cell? ⟨g, 2, none⟩ = some (.int .u32 5) ∧ w.cell? ⟨g, 3, none⟩ = some v) ∧
    (∀ i, w.frozen? ⟨g, i, none⟩ = false) := by
  refine ⟨⟨?_, ?_, ?_, ?_⟩, fun i => ?_⟩
  all_goals first
    | (unfold World.cell?; rw [h]; rfl)
    | (unfold World.frozen?; rw [h]; simp)

set_option maxRecDepth 100000 in
theorem used_new (w : World) : Calls Tryz.prog 150 #[.agg #[.int .i64 0, .int .u8 1, .int .u32 5, .slice none 0 0]] w fun e w' => e = .returned (.int .i64 18) ∧ Below w.heap.size w w' := by
  go_enter Tryz.func150, Tryz.ntmps150
  go_wp2_with fail
  go_loopg [3, 4] 0 (fun q n i wr => q = 0 ∧ n = .int .i64 18 ∧ i = .int .i64 0 ∧ wr = w.alloc (.cells #[.int .i64 0, .int .u8 1, .int .u32 5, .slice none 0 0] 121))
  case atStart => exact ⟨rfl, rfl, rfl, rfl⟩
  case round =>
    obtain ⟨rfl, rfl, rfl, rfl⟩ := hrel
    go_wp2_with fail
    go_ret
    exact ⟨rfl, bl_alloc (Below.refl _ _) _⟩

set_option maxRecDepth 100000 in
theorem mroom_new (w : World) : Calls Tryz.prog 135 #[.agg #[.int .i64 0, .int .u8 1, .int .u32 5, .slice none 0 0]] w fun e w' => e = .returned (.int .i64 200) ∧ Below w.heap.size w w' := by
  have hu := fun W => used_new W
  go_enter Tryz.func135, Tryz.ntmps135
  go_wp2_with fail
  refine (hu _).mono ?_
  rintro e w1 ⟨rfl, h1⟩
  have b1 : w1.heap[w.heap.size]? = some (.cells #[.int .i64 0, .int .u8 1, .int .u32 5, .slice none 0 0] 121 (0, 0)) := (h1.block _ (by simp)).trans (alloc_new w _)
  obtain ⟨⟨c0, c1, c2, c3⟩, hf⟩ := m0_cells b1
  have HB : Aside (Below w.heap.size w w1) := ⟨(bl_alloc (Below.refl _ _) _).trans (h1.mono (by simp))⟩
  clear h1 b1 hf hu
  go_wp2_with fail
  go_ret
  exact ⟨rfl, HB.out⟩

set_option maxRecDepth 100000 in
set_option maxHeartbeats 1000000 in
theorem minsert_new (A : Option Addr) (n c : Nat) (bs : List UInt8) (w : World) (hR : RdB w A n bs) :
    Calls Tryz.prog 104 #[.agg #[.int .i64 0, .int .u8 1, .int .u32 5, .slice none 0 0], .int .i64 0, .slice A n c] w fun e w' => ∃ A' k c' er, e = .returned (.tuple #[.agg #[.int .i64 0, .int .u8 1, .int .u32 5, .slice A' k c'], .int .i64 er]) ∧ Below w.heap.size w w' := by
  by_cases hl : n ≤ 200
  · have d1 : decide ((200 : Int) < (n : Int)) = false := by simp; omega
    have hrm := fun W => mroom_new W
    have hcp := fun W (hW : Below w.heap.size w W) => copyB_any A n c bs W (hR.below hW) (by omega)
    obtain ⟨i0, hi0, hz0, hz1, hz2⟩ := info_parts infoBS
    have HC := hid hcp
    clear hR hcp
    go_enter Tryz.func104, Tryz.ntmps104
    go_wp2_with fail
    refine (hrm _).mono ?_
    rintro e w1 ⟨rfl, h1⟩
    obtain ⟨wA, hwA⟩ : ∃ wA, (w.alloc (.cells #[.int .i64 0, .int .u8 1, .int .u32 5, .slice none 0 0] 121)).alloc (.cells #[.int .i64 0, .int .u8 0, .int .u32 0, .slice none 0 0] 121) = wA := ⟨_, rfl⟩
    have hbA : Below w.heap.size w wA := by rw [← hwA]; exact bl_alloc (bl_alloc (Below.refl _ _) _ (Nat.le_refl _)) _ (by simp)
    have a0 : wA.heap[w.heap.size]? = some (.cells #[.int .i64 0, .int .u8 1, .int .u32 5, .slice none 0 0] 121 (0, 0)) := by
      rw [← hwA]
      exact (Below.heap_alloc _ _ _ (by simp)).trans (alloc_new w _)
    have a1 : wA.heap[w.heap.size + 1]? = some (.cells #[.int .i64 0, .int .u8 0, .int .u32 0, .slice none 0 0] 121 (0, 0)) := by
      rw [← hwA]
      have := alloc_new (w.alloc (.cells #[.int .i64 0, .int .u8 1, .int .u32 5, .slice none 0 0] 121)) (.cells #[.int .i64 0, .int .u8 0, .int .u32 0, .slice none 0 0] 121)
      rw [World.size_alloc] at this
      exact this
    rw [hwA] at h1
    have H1 : Aside (Below w.heap.size w w1 ∧ w1.heap[w.heap.size]? = some (.cells #[.int .i64 0, .int .u8 1, .int .u32 5, .slice none 0 0] 121 (0, 0)) ∧ w1.heap[w.heap.size + 1]? = some (.cells #[.int .i64 0, .int .u8 0, .int .u32 0, .slice none 0 0] 121 (0, 0))) :=
      ⟨hbA.trans (h1.mono hbA.size), (h1.block _ (Array.getElem?_eq_some_iff.1 a0).1).trans a0, (h1.block _ (Array.getElem?_eq_some_iff.1 a1).1).trans a1⟩
    have d2 : decide ((200 : Int) < (n : Int)) = false := d1
    clear h1 hwA hbA a0 a1 hrm
    go_wp2_with fail
    have H2 : Aside (Below w.heap.size w (w1.alloc (.cells #[] 43)) ∧ (w1.alloc (.cells #[] 43)).heap[w.heap.size]? = some (.cells #[.int .i64 0, .int .u8 1, .int .u32 5, .slice none 0 0] 121 (0, 0)) ∧ (w1.alloc (.cells #[] 43)).heap[w.heap.size + 1]? = some (.cells #[.int .i64 0, .int .u8 0, .int .u32 0, .slice none 0 0] 121 (0, 0))) := by
      refine ⟨bl_alloc H1.out.1 _, ?_, ?_⟩
      · exact (Below.heap_alloc _ _ _ (Array.getElem?_eq_some_iff.1 H1.out.2.1).1).trans H1.out.2.1
      · exact (Below.heap_alloc _ _ _ (Array.getElem?_eq_some_iff.1 H1.out.2.2).1).trans H1.out.2.2
    go_loopg [8, 9] 1 (fun q v i wr => ∃ k : Nat, k + q = 1 ∧ i = .int .i64 (k : Nat) ∧ Hid ((∃ vs, wr.ownsRow w.heap.size 43 1 v k vs) ∧ Below w.heap.size w wr ∧ wr.heap[w.heap.size]? = some (.cells #[.int .i64 0, .int .u8 1, .int .u32 5, .slice none 0 0] 121 (0, 0)) ∧ wr.heap[w.heap.size + 1]? = some (.cells #[.int .i64 0, .int .u8 0, .int .u32 0, .slice none 0 0] 121 (0, 0))))
    case atStart =>
      refine ⟨0, by omega, rfl, ⟨[], ?_⟩, H2.out⟩
      exact own_blk (n := 0) (cap := 0) (alloc_new w1 (.cells #[] 43)) H1.out.1.size rfl rfl rfl (by unfold maxLen; omega)
    case round =>
      obtain ⟨k, hk, rfl, hI⟩ := hrel
      obtain ⟨⟨vs, hO⟩, hB, b1, b2⟩ := hI.out
      obtain ⟨⟨c0, c1, c2, c3⟩, hf⟩ := m0_cells b1
      obtain ⟨A2, cc2, rfl, hc2, hc3, -⟩ := own_form hO
      have HI : Aside (wr.ownsRow w.heap.size 43 1 (.slice A2 k cc2) k vs ∧ Below w.heap.size w wr ∧ wr.heap[w.heap.size]? = some (.cells #[.int .i64 0, .int .u8 1, .int .u32 5, .slice none 0 0] 121 (0, 0)) ∧ wr.heap[w.heap.size + 1]? = some (.cells #[.int .i64 0, .int .u8 0, .int .u32 0, .slice none 0 0] 121 (0, 0))) := ⟨hO, hB, b1, b2⟩
      have hsz := hB.size
      clear hI hO hB hc2 hc3
      by_cases h0 : k = 0
      · subst h0
        have f3 := hf 3
        clear b1 b2 hf
        go_wp2_with fail
        refine (HC.out _ HI.out.2.1).mono ?_
        rintro e w3 ⟨u, rfl, hO3, hb3⟩
        obtain ⟨uA, uc, rfl, -, -, -⟩ := own_form hO3
        have k1 := (hb3.block _ (Array.getElem?_eq_some_iff.1 HI.out.2.2.1).1).trans HI.out.2.2.1
        have k2 := (hb3.block _ (Array.getElem?_eq_some_iff.1 HI.out.2.2.2).1).trans HI.out.2.2.2
        have H3 : Aside (w3.ownsRow w.heap.size 43 1 (.slice A2 0 cc2) 0 vs ∧ Below w.heap.size w w3 ∧ w3.heap[w.heap.size]? = some (.cells #[.int .i64 0, .int .u8 1, .int .u32 5, .slice none 0 0] 121 (0, 0)) ∧ w3.heap[w.heap.size + 1]? = some (.cells #[.int .i64 0, .int .u8 0, .int .u32 0, .slice none 0 0] 121 (0, 0))) :=
          ⟨own_fr HI.out.1 (Fr.of_below hb3 (fun _ => False)) (fun _ _ h => h), HI.out.2.1.trans (hb3.mono hsz), k1, k2⟩
        have hsz3 := H3.out.2.1.size
        have hxc : (w3.alloc (.cells #[.slice uA n uc] 43)).cell? ⟨w3.heap.size, 0, none⟩ = some (.slice uA n uc) := cell_new1 w3 _ _
        have C1 : Aside (∀ (j : Nat) (u : Value), [Value.slice uA n uc][j]? = some u → (w3.alloc (.cells #[.slice uA n uc] 43)).cell? ((⟨w3.heap.size, 0, none⟩ : Addr).add j) = some u) := ⟨fun j u hj => by match j, hj with | 0, hj => (simp at hj; subst hj; exact hxc)⟩
        have C2 : Aside (∀ u ∈ [Value.slice uA n uc], u.oneCell' = true) := ⟨by intro u hu; simp at hu; subst hu; rfl⟩
        clear hO3 hb3 k1 k2 hxc c0 c1 c2 c3 f3
        obtain ⟨⟨c0, c1, c2, c3⟩, hf⟩ := m0_cells H3.out.2.2.1
        clear hf
        go_wp2_with (
          (at_builtin
           refine wpList_append_own _ rfl _ _ 47 rfl w.heap.size 43 i0 _ 1 24 Tryz.underlying47 hi0 hz0 hz1 hz2 rfl (by decide) (.slice A2 0 cc2) 0 vs rfl (H3.out.1.alloc _) ⟨w3.heap.size, 0, none⟩ 1 1 [.slice uA n uc] rfl rfl C1.out C2.out (by unfold maxLen; omega) (by omega) (by simp; omega) ?_
           intro v' w4 hown4 hgrow4 _
           obtain ⟨A4, c4, rfl, -, -, -⟩ := own_form hown4
           have H4 : Aside (w4.ownsRow w.heap.size 43 1 (.slice A4 (0 + 1) c4) (0 + 1) (vs ++ [.slice uA n uc]) ∧ Below w.heap.size w w4 ∧ w4.heap[w.heap.size]? = some (.cells #[.int .i64 0, .int .u8 1, .int .u32 5, .slice none 0 0] 121 (0, 0)) ∧ w4.heap[w.heap.size + 1]? = some (.cells #[.int .i64 0, .int .u8 0, .int .u32 0, .slice none 0 0] 121 (0, 0))) := by
             have hz := (Array.getElem?_eq_some_iff.1 H3.out.2.2.1).1
             have hz2 := (Array.getElem?_eq_some_iff.1 H3.out.2.2.2).1
             refine ⟨hown4, (bl_alloc H3.out.2.1 _).trans (grown_below hgrow4 (H3.out.1.alloc _) (by simp; omega)), ?_, ?_⟩
             · exact (hgrow4.block _ (by simp; omega) (fun e => (own_ty H3.out.1 e.symm).ne ⟨_, _, H3.out.2.2.1⟩ (by decide))).trans ((Below.heap_alloc _ _ _ hz).trans H3.out.2.2.1)
             · exact (hgrow4.block _ (by simp; omega) (fun e => (own_ty H3.out.1 e.symm).ne ⟨_, _, H3.out.2.2.2⟩ (by decide))).trans ((Below.heap_alloc _ _ _ hz2).trans H3.out.2.2.2)
           obtain ⟨⟨e0, e1, e2, e3⟩, ef⟩ := m0_cells H4.out.2.2.1
           clear hown4 hgrow4 ef))
        go_roundg 0
        case rel => exact ⟨1, rfl, rfl, ⟨_, H4.out.1⟩, H4.out.2⟩
        case measure => omega
      · obtain rfl : k = 1 := by omega
        obtain ⟨⟨z0, z1, z2, z3⟩, zf⟩ : ((wr.cell? ⟨w.heap.size + 1, 0, none⟩ = some (.int .i64 0) ∧ wr.cell? ⟨w.heap.size + 1, 1, none⟩ = some (.int .u8 0) ∧ wr.cell? ⟨w.heap.size + 1, 2, none⟩ = some (.int .u32 0) ∧ wr.cell? ⟨w.heap.size + 1, 3, none⟩ = some (.slice none 0 0)) ∧ ∀ i, wr.frozen? ⟨w.heap.size + 1, i, none⟩ = false) := by
          refine ⟨⟨?_, ?_, ?_, ?_⟩, fun i => ?_⟩
          all_goals first
            | (unfold World.cell?; rw [b2]; rfl)
            | (unfold World.frozen?; rw [b2]; simp)
        have f3 := hf 3
        have y0 := zf 0
        have y1 := zf 1
        have y2 := zf 2
        have y3 := zf 3
        have hl1 := (Array.getElem?_eq_some_iff.1 b1).1
        have hl2 := (Array.getElem?_eq_some_iff.1 b2).1
        clear b1 b2 hf zf h0
        go_wp2_with fail
        (try simp only [Exit.inBlock, Exit.then])
        refine bodyPost_ret (v := .tuple #[.agg #[.int .i64 0, .int .u8 1, .int .u32 5, .slice A2 1 cc2], .int .i64 0]) ?_ rfl ⟨A2, 1, cc2, 0, rfl, ?_⟩
        · rw [results_cell_tmp rfl]
          go_simp
        · have := HI.out.2.1
          repeat (first | exact this | refine Below.setCell ?_ (by simp <;> omega) _ | refine bl_alloc ?_ _ (by simp <;> omega))
  · have d1 : decide ((200 : Int) < (n : Int)) = true := by simp; omega
    clear hR
    go_enter Tryz.func104, Tryz.ntmps104
    go_wp2_with fail
    (try simp only [Exit.inBlock, Exit.then])
    refine bodyPost_ret (v := .tuple #[.agg #[.int .i64 0, .int .u8 1, .int .u32 5, .slice none 0 0], .int .i64 4]) ?_ rfl ⟨none, 0, 0, 4, rfl, ?_⟩
    · rw [results_cell_tmp rfl]
      go_simp
    · repeat (first | exact Below.refl _ _ | refine Below.setCell ?_ (by simp <;> omega) _ | refine bl_alloc ?_ _ (by simp <;> omega))

set_option maxRecDepth 100000 in
theorem rput_empty (n x : Int) (A : Option Addr) (k c : Nat) (w : World) : Calls Tryz.prog 62 #[.agg #[.slice none 0 0, .slice none 0 0, .int .i64 0], .int .i64 n, .agg #[.int .i64 0, .int .u8 1, .int .u32 5, .slice A k c], .int .i64 x] w fun e w' => e = .returned (.tuple #[.agg #[.slice none 0 0, .slice none 0 0, .int .i64 0], .int .i64 1]) ∧ Below w.heap.size w w' := by
  have hre := fun W => rreach_empty n W
  go_enter Tryz.func62, Tryz.ntmps62
  go_wp2_with fail
  refine (hre _).mono ?_
  rintro e w1 ⟨rfl, h1⟩
  obtain ⟨wA, hwA⟩ : ∃ wA, ((w.alloc (.cells #[.slice none 0 0, .slice none 0 0, .int .i64 0] 49)).alloc (.cells #[.int .i64 0, .int .u8 1, .int .u32 5, .slice A k c] 121)).alloc (.cells #[.slice none 0 0, .slice none 0 0, .int .i64 0] 49) = wA := ⟨_, rfl⟩
  have hbA : Below w.heap.size w wA := by rw [← hwA]; exact bl_alloc (bl_alloc (bl_alloc (Below.refl _ _) _) _) _
  have a0 : wA.heap[w.heap.size]? = some (.cells box0 49 (0, 0)) := by
    rw [← hwA]
    exact (Below.heap_alloc _ _ _ (by simp; omega)).trans ((Below.heap_alloc _ _ _ (by simp)).trans (alloc_new w _))
  have a2 : wA.heap[w.heap.size + 1 + 1]? = some (.cells box0 49 (0, 0)) := by
    rw [← hwA]
    have := alloc_new ((w.alloc (.cells #[.slice none 0 0, .slice none 0 0, .int .i64 0] 49)).alloc (.cells #[.int .i64 0, .int .u8 1, .int .u32 5, .slice A k c] 121)) (.cells #[.slice none 0 0, .slice none 0 0, .int .i64 0] 49)
    rw [World.size_alloc, World.size_alloc] at this
    exact this
  rw [hwA] at h1
  have b1 := (h1.block _ (Array.getElem?_eq_some_iff.1 a0).1).trans a0
  have b2 := (h1.block _ (Array.getElem?_eq_some_iff.1 a2).1).trans a2
  have hb : Below w.heap.size w w1 := hbA.trans (h1.mono hbA.size)
  obtain ⟨c0, c1, c2, f0, f1, f2⟩ := box0_cells b1
  obtain ⟨d0, d1, d2, e0, e1, e2⟩ := box0_cells b2
  have HB := hid hb
  clear h1 b1 b2 hb hre hwA hbA a0 a2
  go_wp2_with fail
  (try simp only [Exit.inBlock, Exit.then])
  refine bodyPost_ret (v := .tuple #[.agg #[.slice none 0 0, .slice none 0 0, .int .i64 0], .int .i64 1]) ?_ rfl ?_
  · rename_i K aK
    clear aK K
    rw [results_cell_tmp rfl]
    go_simp
  · exact ⟨rfl, ((HB.out.setCell (by simp; omega) _).setCell (by simp; omega) _).setCell (by simp; omega) _⟩

set_option maxRecDepth 100000 in
theorem model_any (A : Option Addr) (n c : Nat) (bs : List UInt8) (w : World) (hR : RdB w A n bs) :
    Calls Tryz.prog 63 #[.slice A n c] w fun e w' => ∃ A' k c', e = .returned (.agg #[.int .i64 0, .int .u8 1, .int .u32 5, .slice A' k c']) ∧ Below w.heap.size w w' := by
  have hmi := fun W (hW : Below w.heap.size w W) => minsert_new A n c bs W (hR.below hW)
  clear hR
  go_enter Tryz.func63, Tryz.ntmps63
  go_wp2_with fail
  refine (hmi _ (bl_alloc (Below.refl _ _) _)).mono ?_
  rintro e w1 ⟨A', k, c', er, rfl, h1⟩
  have b1 : w1.heap[w.heap.size]? = some (.cells #[.int .i64 0, .int .u8 0, .int .u32 0, .slice none 0 0] 121 (0, 0)) := (h1.block _ (by simp)).trans (alloc_new w _)
  have q0 : ∀ i, w1.frozen? ⟨w.heap.size, i, none⟩ = false := fun i => by unfold World.frozen?; rw [b1]; simp
  have f0 := q0 0
  have f1 := q0 1
  have f2 := q0 2
  have f3 := q0 3
  have z0 : w1.cell? ⟨w.heap.size, 0, none⟩ = some (.int .i64 0) := by unfold World.cell?; rw [b1]; rfl
  have z1 : w1.cell? ⟨w.heap.size, 1, none⟩ = some (.int .u8 0) := by unfold World.cell?; rw [b1]; rfl
  have z2 : w1.cell? ⟨w.heap.size, 2, none⟩ = some (.int .u32 0) := by unfold World.cell?; rw [b1]; rfl
  have z3 : w1.cell? ⟨w.heap.size, 3, none⟩ = some (.slice none 0 0) := by unfold World.cell?; rw [b1]; rfl
  have hlt := (Array.getElem?_eq_some_iff.1 b1).1
  have HB : Aside (Below w.heap.size w w1) := ⟨(bl_alloc (Below.refl _ _) _).trans (h1.mono (by simp))⟩
  clear h1 b1 q0 hmi
  go_wp2_with fail
  (try simp only [Exit.inBlock, Exit.then])
  refine bodyPost_ret (v := .agg #[.int .i64 0, .int .u8 1, .int .u32 5, .slice A' k c']) ?_ rfl ⟨A', k, c', rfl, ?_⟩
  · rw [results_cell1 rfl]
    go_simp
  · have := HB.out
    repeat (first | exact this | refine Below.setCell ?_ (by simp <;> omega) _ | refine bl_alloc ?_ _)
end Go.Proofs.YthfidlhefkjpdaaGreatDoor
