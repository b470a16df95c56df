/- The walks of package crc: Open. -/
import Derived.Test.YthfidlhefkjpdaaGreatDoorTab
import Derived.Deep.RegionHeld3
import Derived.Laws.Cover3
import Derived.ChangeKeysEq
namespace Go.Proofs.YthfidlhefkjpdaaGreatDoor
open Go.RowKit

def opens (bs : List UInt8) : Bool := bs.take 4 == le4 (crcOf (bs.drop 4))

theorem cell_new1 (w : World) (x : Value) (t : TypeId) : (w.alloc (.cells #[x] t)).cell? ⟨w.heap.size, 0, none⟩ = some x := by
  unfold World.cell?
  rw [alloc_new]
  rfl

theorem arr4_at (b o n c : Nat) (hn : 4 ≤ n) (W : World) : (Instr.arrayAt 171 (.slice (some ⟨b, o, none⟩) n c)).run Tryz.prog W = .ok (.pointer (some ⟨b, o, none⟩)) W :=
  run_arrayAt (P := Tryz.prog) W 171 5 4 _ n c Tryz.underlying171 hn

theorem from4_at (b o n c : Nat) (hn : 4 < n) (hnc : n ≤ c) (_hc : c ≤ 9223372036854775807) (W : World) :
    (Instr.sliceAt 43 (.slice (some ⟨b, o, none⟩) n c) (some (.int .i64 4)) none none).run Tryz.prog W = .ok (.slice (some ⟨b, o + 4, none⟩) (n - 4) (c - 4)) W := by
  have hc4 : ¬ c = 4 := by omega
  simp [go_sem, sliced, hc4, Addr.add_lit]
  all_goals omega

theorem part5 (x0 x1 x2 x3 : Int) (W : World) : (part 5 #[.int .u8 x0, .int .u8 x1, .int .u8 x2, .int .u8 x3] 0).run Tryz.prog W = .ok (.int .u8 x0) W ∧
    (part 5 #[.int .u8 x0, .int .u8 x1, .int .u8 x2, .int .u8 x3] 1).run Tryz.prog W = .ok (.int .u8 x1) W ∧
    (part 5 #[.int .u8 x0, .int .u8 x1, .int .u8 x2, .int .u8 x3] 2).run Tryz.prog W = .ok (.int .u8 x2) W ∧
    (part 5 #[.int .u8 x0, .int .u8 x1, .int .u8 x2, .int .u8 x3] 3).run Tryz.prog W = .ok (.int .u8 x3) W :=
  ⟨by kernel_rfl, by kernel_rfl, by kernel_rfl, by kernel_rfl⟩

theorem eq4 (x0 x1 x2 x3 y0 y1 y2 y3 : Int) (W : World) : (Op.equalIn 10000 171 (.agg #[.int .u8 x0, .int .u8 x1, .int .u8 x2, .int .u8 x3]) (.agg #[.int .u8 y0, .int .u8 y1, .int .u8 y2, .int .u8 y3])).run Tryz.prog W =
    .ok (x0 == y0 && (x1 == y1 && (x2 == y2 && x3 == y3))) W := by
  obtain ⟨i0, hi0, hz0, hz1, hz2⟩ := info_parts info5
  have hc : Tryz.prog.cellsOf 5 = 1 := by kernel_rfl
  obtain ⟨p0, p1, p2, p3⟩ := part5 x0 x1 x2 x3 W
  obtain ⟨q0, q1, q2, q3⟩ := part5 y0 y1 y2 y3 W
  have e : ∀ a b : Int, (Op.equalIn 9999 5 (.int .u8 a) (.int .u8 b)).run Tryz.prog W = .ok (a == b) W := fun a b => run_equalIn_int W 9998 5 .u8 .u8 a b Tryz.underlying5
  rw [run_equalIn_array _ _ _ _ Tryz.underlying171 hi0, hc]
  rw [show List.range 4 = [0, 1, 2, 3] from rfl]
  simp only [Op.eqItems, Sem.run_bind, Nat.mul_one, p0, p1, p2, p3, q0, q1, q2, q3, e, Result.andThen_ok]
  cases h0 : (x0 == y0) <;> cases h1 : (x1 == y1) <;> cases h2 : (x2 == y2) <;> cases h3 : (x3 == y3) <;> simp [Op.eqItems, Sem.run_bind, p0, p1, p2, p3, q0, q1, q2, q3, e, Result.andThen, -beq_iff_eq, -beq_eq_false_iff_ne, h0, h1, h2, h3]

theorem opens_seal (bs : List UInt8) : opens (sealB bs) = true := by
  simp [opens, sealB, le4]

theorem drop_seal (bs : List UInt8) : (sealB bs).drop 4 = bs := by simp [sealB, le4]

theorem opens_eq (bs : List UInt8) (h4 : 4 < bs.length) {x0 x1 x2 x3 : Int} (e0 : (bs[0].toNat : Int) = x0) (e1 : (bs[1].toNat : Int) = x1) (e2 : (bs[2].toNat : Int) = x2) (e3 : (bs[3].toNat : Int) = x3) :
    (x0 == (crcOf (bs.drop 4) : Int) % 256 && (x1 == (crcOf (bs.drop 4) : Int) / 256 % 256 && (x2 == (crcOf (bs.drop 4) : Int) / 65536 % 256 && x3 == (crcOf (bs.drop 4) : Int) / 16777216))) = opens bs := by
  have hlt := crcOf_lt (bs.drop 4)
  have et : bs.take 4 = [bs[0], bs[1], bs[2], bs[3]] := by
    match bs, h4 with
    | a :: b :: c :: d :: r, _ => rfl
  unfold opens
  rw [et, Bool.eq_iff_iff]
  generalize crcOf (bs.drop 4) = s at hlt ⊢
  simp only [le4, Bool.and_eq_true, beq_iff_eq, List.cons.injEq, and_true, ← UInt8.toNat_inj, UInt8.toNat_ofNat', Nat.reducePow]
  rw [← e0, ← e1, ← e2, ← e3]
  constructor <;> rintro ⟨h0, h1, h2, h3⟩ <;> refine ⟨?_, ?_, ?_, ?_⟩ <;> omega

set_option maxRecDepth 100000 in
set_option maxHeartbeats 400000 in
theorem clone_any (A : Option Addr) (n c : Nat) (bs : List UInt8) (w : World) (hR : RdB w A n bs) (hn : n ≤ 140737488350000) :
    Calls Tryz.prog 47 #[.slice A n c] w fun e w' => ∃ v, e = .returned v ∧ w'.ownsRow w.heap.size 5 1 v n (bs.map u8) ∧ Below w.heap.size w w' := by
  have q22 : ∀ (w : World) (a : Option Addr) (n c n' c' : Nat), (binOp .eql 43 (.slice a n c) (.slice none n' c')).run Tryz.prog w = .ok (.bool a.isNone) w := fun w a n c n' c' => Lib.run_eql_slice_nil w _ _ a n c n' c' Tryz.underlying43
  obtain ⟨i0, hi0, hz0, hz1, hz2⟩ := info_parts info5
  have hl := hR.1
  cases A with
  | none =>
    have hn0 : n = 0 := by
      rcases Nat.eq_zero_or_pos n with h | h
      · exact h
      · obtain ⟨b, o, e, _⟩ := hR.2 h
        cases e
    subst hn0
    obtain rfl := List.eq_nil_of_length_eq_zero hl
    have hi : (none : Option Addr).isNone = true := rfl
    go_enter Tryz.func47, Tryz.ntmps47
    go_wp2
    go_ret
    exact ⟨_, rfl, World.ownsRow_nil _ _ _ _, Below.refl _ _⟩
  | some ad =>
    have hi : (some ad : Option Addr).isNone = false := rfl
    have hcells : ∀ w', Below w.heap.size w w' → ∀ (j : Nat) (u : Value), (bs.map u8)[j]? = some u → w'.cell? (ad.add j) = some u := by
      rcases Nat.eq_zero_or_pos n with h | h
      · subst h
        obtain rfl := List.eq_nil_of_length_eq_zero hl
        intro w' _ j u hu
        simp at hu
      · obtain ⟨ad', e, h1⟩ := hR.news h
        injection e with e
        subst e
        exact h1
    have hl := hid hl
    go_enter Tryz.func47, Tryz.ntmps47
    go_wp2_with (at_builtin
                 refine wpList_append_own _ rfl _ _ 43 rfl w.heap.size 5 i0 _ 1 1 Tryz.underlying43 hi0 hz0 hz1 hz2 rfl (by decide) (.slice (some ⟨w.heap.size, 0, none⟩) 0 0) 0 [] rfl (own_blk (cs := #[]) (alloc_new _ _) (Nat.le_refl _) rfl rfl rfl (Nat.zero_le _)) ad n c (bs.map u8) rfl ?c0 ?c1 ?c2 ?c3 ?c4 ?c5 ?_
                 (case c0 => rw [List.length_map, hl.out, Nat.mul_one])
                 (case c1 => exact hcells _ ((Below.refl _ _).alloc (Nat.le_refl _) _))
                 (case c2 => exact u8_one bs)
                 (case c3 => unfold maxLen; omega)
                 (case c4 => omega)
                 (case c5 => simp)
                 intro v' w1 hown' hgrow _
                 have HB : Aside (Below w.heap.size w w1) := ⟨((Below.refl _ w).alloc (Nat.le_refl _) _).grown hgrow (by simp) (by rintro k e; cases e; simp)⟩
                 rw [Nat.zero_add, List.nil_append] at hown')
    go_ret
    exact ⟨v', rfl, hown', HB.out⟩

set_option maxRecDepth 100000 in
set_option maxHeartbeats 400000 in
theorem open_bad (A : Option Addr) (n c : Nat) (bs : List UInt8) (w : World) (hR : RdB w A n bs) (hn : 4 < n) (hnn : n ≤ 140737488350000) (hnc : n ≤ c) (hc : c ≤ 9223372036854775807) (ho : opens bs = false) :
    Calls Tryz.prog 75 #[.slice A n c] w fun e w' => e = .returned (.tuple #[.slice none 0 0, .bool false]) ∧ Below w.heap.size w w' := by
  obtain ⟨b, o, rfl, hb, hcell⟩ := hR.2 (by omega)
  have hl := hR.1
  have h0 := hcell 0 (by omega)
  have h1 := hcell 1 (by omega)
  have h2 := hcell 2 (by omega)
  have h3 := hcell 3 (by omega)
  rw [Nat.add_zero] at h0
  obtain ⟨x0, e0⟩ : ∃ x : Int, (bs[0].toNat : Int) = x := ⟨_, rfl⟩
  obtain ⟨x1, e1⟩ : ∃ x : Int, (bs[1].toNat : Int) = x := ⟨_, rfl⟩
  obtain ⟨x2, e2⟩ : ∃ x : Int, (bs[2].toNat : Int) = x := ⟨_, rfl⟩
  obtain ⟨x3, e3⟩ : ∃ x : Int, (bs[3].toNat : Int) = x := ⟨_, rfl⟩
  rw [e0] at h0; rw [e1] at h1; rw [e2] at h2; rw [e3] at h3
  have HR4 : RdB w (some ⟨b, o + 4, none⟩) (n - 4) (bs.drop 4) := by
    have := hR.cut (k := 4) (by omega)
    simpa [Addr.add_lit] using this
  have hd : decide ((n : Int) < 4) = false := by simp; omega
  have hc4 : ¬ c = 4 := by omega
  have hcmp := opens_eq bs (by omega) e0 e1 e2 e3
  rw [ho] at hcmp
  have B : Aside ((bs[0].toNat : Int) = x0 ∧ (bs[1].toNat : Int) = x1 ∧ (bs[2].toNat : Int) = x2 ∧ (bs[3].toNat : Int) = x3) := ⟨e0, e1, e2, e3⟩
  clear e0 e1 e2 e3 hR hcell
  have hl := hid hl
  have HS : Aside (∀ W, Below w.heap.size w W → (W.cell? ⟨b, o, none⟩ = some (.int .u8 x0) ∧ W.cell? ⟨b, o + 1, none⟩ = some (.int .u8 x1) ∧ W.cell? ⟨b, o + 2, none⟩ = some (.int .u8 x2) ∧ W.cell? ⟨b, o + 3, none⟩ = some (.int .u8 x3))) :=
    ⟨fun W hB => ⟨((bcell hB).1 b _ hb).trans h0, ((bcell hB).1 b _ hb).trans h1, ((bcell hB).1 b _ hb).trans h2, ((bcell hB).1 b _ hb).trans h3⟩⟩
  have fe := eq4
  have fa := arr4_at b o n c (by omega)
  have fs := from4_at b o n c hn hnc (by omega)
  go_enter Tryz.func75, Tryz.ntmps75
  go_wp2_with fail
  go_region_held3 (fun w' => w'.cell? ⟨b, o, none⟩ = some (.int .u8 x0) ∧ w'.cell? ⟨b, o + 1, none⟩ = some (.int .u8 x1) ∧ w'.cell? ⟨b, o + 2, none⟩ = some (.int .u8 x2) ∧ w'.cell? ⟨b, o + 3, none⟩ = some (.int .u8 x3))
    (first | exact HS.out _ (by repeat (first | exact HB1.out | exact Below.refl _ _ | refine bl_drew ?_ | refine bl_alloc ?_ _)))
    (first
    | (go_at_call 110
       (with_reducible refine Calls.mono (sum_any w.heap.size (some ⟨b, o + 4, none⟩) (n - 4) (c - 4) (bs.drop 4) _ ?sa ?sb ?sc) ?_)
       (case sa => exact cell_new1 w _ _)
       (case sb => exact HR4.below (bl_drew (bl_alloc (Below.refl _ _) _)))
       (case sc => omega)
       rintro e w' ⟨rfl, rfl⟩)
    | (go_at_call 109
       (with_reducible refine Calls.mono (head_any _ _ (crcOf_lt _)) ?_)
       rintro e w1 ⟨rfl, hb1⟩
       have HB1 : Aside (Below w.heap.size w w1) := ⟨(bl_drew (bl_alloc (Below.refl _ _) _)).trans (hb1.mono (by simp))⟩
       clear hb1))
  all_goals go_wp2
  all_goals go_ret2
  all_goals exact ⟨rfl, HB1.out⟩

set_option maxRecDepth 100000 in
set_option maxHeartbeats 400000 in
theorem open_ok (A : Option Addr) (n c : Nat) (bs : List UInt8) (w : World) (hR : RdB w A n bs) (hn : 4 < n) (hnn : n ≤ 140737488350000) (hnc : n ≤ c) (hc : c ≤ 9223372036854775807) (ho : opens bs = true) :
    Calls Tryz.prog 75 #[.slice A n c] w fun e w' => ∃ v, e = .returned (.tuple #[v, .bool true]) ∧ w'.ownsRow w.heap.size 5 1 v (n - 4) ((bs.drop 4).map u8) ∧ Below w.heap.size w w' := by
  obtain ⟨b, o, rfl, hb, hcell⟩ := hR.2 (by omega)
  have hl := hR.1
  have h0 := hcell 0 (by omega)
  have h1 := hcell 1 (by omega)
  have h2 := hcell 2 (by omega)
  have h3 := hcell 3 (by omega)
  rw [Nat.add_zero] at h0
  obtain ⟨x0, e0⟩ : ∃ x : Int, (bs[0].toNat : Int) = x := ⟨_, rfl⟩
  obtain ⟨x1, e1⟩ : ∃ x : Int, (bs[1].toNat : Int) = x := ⟨_, rfl⟩
  obtain ⟨x2, e2⟩ : ∃ x : Int, (bs[2].toNat : Int) = x := ⟨_, rfl⟩
  obtain ⟨x3, e3⟩ : ∃ x : Int, (bs[3].toNat : Int) = x := ⟨_, rfl⟩
  rw [e0] at h0; rw [e1] at h1; rw [e2] at h2; rw [e3] at h3
  have HR4 : RdB w (some ⟨b, o + 4, none⟩) (n - 4) (bs.drop 4) := by
    have := hR.cut (k := 4) (by omega)
    simpa [Addr.add_lit] using this
  have hd : decide ((n : Int) < 4) = false := by simp; omega
  have hc4 : ¬ c = 4 := by omega
  have hcmp := opens_eq bs (by omega) e0 e1 e2 e3
  rw [ho] at hcmp
  have B : Aside ((bs[0].toNat : Int) = x0 ∧ (bs[1].toNat : Int) = x1 ∧ (bs[2].toNat : Int) = x2 ∧ (bs[3].toNat : Int) = x3) := ⟨e0, e1, e2, e3⟩
  clear e0 e1 e2 e3 hR hcell
  have hl := hid hl
  have HS : Aside (∀ W, Below w.heap.size w W → (W.cell? ⟨b, o, none⟩ = some (.int .u8 x0) ∧ W.cell? ⟨b, o + 1, none⟩ = some (.int .u8 x1) ∧ W.cell? ⟨b, o + 2, none⟩ = some (.int .u8 x2) ∧ W.cell? ⟨b, o + 3, none⟩ = some (.int .u8 x3))) :=
    ⟨fun W hB => ⟨((bcell hB).1 b _ hb).trans h0, ((bcell hB).1 b _ hb).trans h1, ((bcell hB).1 b _ hb).trans h2, ((bcell hB).1 b _ hb).trans h3⟩⟩
  have fe := eq4
  have fa := arr4_at b o n c (by omega)
  have fs := from4_at b o n c hn hnc (by omega)
  go_enter Tryz.func75, Tryz.ntmps75
  go_wp2_with fail
  go_region_held3 (fun w' => w'.cell? ⟨b, o, none⟩ = some (.int .u8 x0) ∧ w'.cell? ⟨b, o + 1, none⟩ = some (.int .u8 x1) ∧ w'.cell? ⟨b, o + 2, none⟩ = some (.int .u8 x2) ∧ w'.cell? ⟨b, o + 3, none⟩ = some (.int .u8 x3))
    (first | exact HS.out _ (by repeat (first | exact HB1.out | exact Below.refl _ _ | refine bl_drew ?_ | refine bl_alloc ?_ _)))
    (first
    | (go_at_call 110
       (with_reducible refine Calls.mono (sum_any w.heap.size (some ⟨b, o + 4, none⟩) (n - 4) (c - 4) (bs.drop 4) _ ?sa ?sb ?sc) ?_)
       (case sa => exact cell_new1 w _ _)
       (case sb => exact HR4.below (bl_drew (bl_alloc (Below.refl _ _) _)))
       (case sc => omega)
       rintro e w' ⟨rfl, rfl⟩)
    | (go_at_call 109
       (with_reducible refine Calls.mono (head_any _ _ (crcOf_lt _)) ?_)
       rintro e w1 ⟨rfl, hb1⟩
       have HB1 : Aside (Below w.heap.size w w1) := ⟨(bl_drew (bl_alloc (Below.refl _ _) _)).trans (hb1.mono (by simp))⟩
       clear hb1))
  all_goals
    go_wp2_with fail
    refine (clone_any (some ⟨b, o + 4, none⟩) (n - 4) (c - 4) (bs.drop 4) _ (HR4.below ?_) (by omega)).mono ?_
    · exact HB1.out
    rintro e w2 ⟨v, rfl, hown, hb2⟩
    go_wp2
    go_ret2
    exact ⟨v, rfl, own_mono hown HB1.out.size, HB1.out.trans (hb2.mono HB1.out.size)⟩
end Go.Proofs.YthfidlhefkjpdaaGreatDoor
