/- wal.build.
   slices.Backward over bytes: its contract; page.low.
   page.low: the number that bytes write. -/
import Derived.Test.YthfidlhefkjpdaaGreatDoorSad
import Derived.Test.YthfidlhefkjpdaaGreatDoorSab
import Derived.Outline
import Derived.Deep.LoopGhost
import Derived.RangeFuncNested
import Derived.RangeFuncBound
import Derived.RangeFuncCalls
import Derived.RangeFuncLeaves
import Derived.Shelf.Abstract
import Derived.Shelf.RegionOpen
import Derived.WalkKit
import Derived.OwnWalkIn
import Derived.TacticsInMore
import Derived.LoopNIn
import Derived.LoopIn
import Derived.RangeFuncBox
import Derived.Test.YthfidlhefkjpdaaGreatDoorSaa
import Derived.Test.YthfidlhefkjpdaaGreatDoorProg
namespace Go.Proofs.YthfidlhefkjpdaaGreatDoor
open Go.RowKit

def logBody (run : Nat) (used : List UInt8) : List UInt8 := leN 8 run ++ ([UInt8.ofNat used.length, UInt8.ofNat (used.length / 256)] ++ (used ++ zeros (498 - used.length)))
theorem logBody_length (run : Nat) (used : List UInt8) (h : used.length ≤ 498) : (logBody run used).length = 508 := by
  simp [logBody, leN_length, zeros_length]; omega
def sectorL (run : Nat) (used : List UInt8) : List UInt8 := sealB (logBody run used)
theorem sectorL_length (run : Nat) (used : List UInt8) (h : used.length ≤ 498) : (sectorL run used).length = 512 := by
  simp [sectorL, sealB, le4, logBody_length run used h]

theorem make508 (W : World) : (Instr.makeSlice 43 (.int .i64 508) (.int .i64 508)).run Tryz.prog W = .ok (.slice (some ⟨W.heap.size, 0, none⟩) 508 508) (W.alloc (.cells (cellsB (zeros 508)) 5)) := by
  obtain ⟨i0, hi0, hz0, hz1, hz2⟩ := info_parts info5
  have := run_make_two (P := Tryz.prog) 43 5 i0 _ Tryz.underlying43 hi0 hz0 hz1 508 508 508 508 rfl rfl (by omega) (by rw [hz2]; omega) (by omega) W
  rw [made_zeros] at this
  exact this

theorem shift_byte (run k : Nat) : (run : Int) / 2 ^ (8 * k) % 256 = ((run / 256 ^ k % 256 : Nat) : Int) := by
  have e : ((256 : Nat) ^ k) = 2 ^ (8 * k) := (congrArg (· ^ k) (by decide : (256 : Nat) = 2 ^ 8)).trans (Nat.pow_mul 2 8 k).symm
  have e2 : ((2 : Int) ^ (8 * k)) = ((2 ^ (8 * k) : Nat) : Int) := (Int.natCast_pow 2 (8 * k)).symm
  rw [e, e2]
  generalize 2 ^ (8 * k) = q
  rfl
theorem log_body_eq (run : Nat) (used : List UInt8) (h : used.length ≤ 498) :
    splice (((splice (zeros 508) 0 (leN 8 run)).set 8 (UInt8.ofNat used.length)).set 9 (UInt8.ofNat (used.length / 256))) 10 used = logBody run used := by
  obtain ⟨L, hL⟩ : ∃ L, leN 8 run = L := ⟨_, rfl⟩
  have hl : L.length = 8 := by rw [← hL, leN_length]
  obtain ⟨a, ha⟩ : ∃ a, UInt8.ofNat used.length = a := ⟨_, rfl⟩
  obtain ⟨b, hb⟩ : ∃ b, UInt8.ofNat (used.length / 256) = b := ⟨_, rfl⟩
  unfold logBody
  rw [hL, ha, hb]
  have h1 : splice (zeros 508) 0 L = L ++ (0 :: 0 :: zeros 498) := by
    unfold splice
    rw [List.take_zero, List.nil_append, Nat.zero_add, hl]
    rfl
  have h2 : (L ++ (0 :: 0 :: zeros 498)).set 8 a = L ++ (a :: 0 :: zeros 498) := by
    rw [List.set_append_right _ _ (by omega), hl]; rfl
  have h3 : (L ++ (a :: 0 :: zeros 498)).set 9 b = L ++ (a :: b :: zeros 498) := by
    rw [List.set_append_right _ _ (by omega), hl]; rfl
  rw [h1, h2, h3]
  unfold splice
  rw [show L ++ (a :: b :: zeros 498) = (L ++ [a, b]) ++ zeros 498 by simp, List.take_append_of_le_length (by simp [hl]), List.take_of_length_le (by simp [hl]), List.drop_append, List.drop_of_length_le (by simp [hl]),
    show (zeros 498).drop (10 + used.length - (L ++ [a, b]).length) = zeros (498 - used.length) by rw [show 10 + used.length - (L ++ [a, b]).length = used.length by simp [hl]]; exact List.drop_replicate ..]
  simp

set_option maxRecDepth 100000 in
set_option maxHeartbeats 1000000 in
theorem build_any (run : Nat) (A : Option Addr) (n c : Nat) (used : List UInt8) (w : World) (hr : run < 9223372036854775808) (hR : RdB w A n used) (hn : n ≤ 498) :
    Calls Tryz.prog 82 #[.int .i64 (run : Int), .slice A n c] w fun e w' => ∃ g cap, e = .returned (.slice (some ⟨g, 0, none⟩) 512 cap) ∧ w'.ownsRow w.heap.size 5 1 (.slice (some ⟨g, 0, none⟩) 512 cap) 512 ((sectorL run used).map u8) ∧ Below w.heap.size w w' := by
  have hl := hid hR.1
  have HR : Aside (∀ W, Below w.heap.size w W → RdB W A n used) := ⟨fun W hB => hR.below hB⟩
  have hmk := make508
  clear hR
  go_enter Tryz.func82, Tryz.ntmps82
  go_wp2_with fail
  clear hmk
  obtain ⟨W0, hW0⟩ : ∃ W0, w.alloc (.cells (cellsB (zeros 508)) 5) = W0 := ⟨_, rfl⟩
  have hb0 : Below w.heap.size w W0 := by rw [← hW0]; exact (Below.refl _ _).alloc (Nat.le_refl _) _
  have hY0 : Byt W0 w.heap.size (zeros 508) := by rw [← hW0]; exact Byt.new w _
  rw [hW0]
  clear hW0
  go_loopg [8] 8 (fun q i wr => ∃ k : Nat, k + q = 8 ∧ i = .int .i64 (k : Nat) ∧ Hid (Byt wr w.heap.size (splice (zeros 508) 0 (leN k run)) ∧ Below w.heap.size w wr))
  case atStart => exact ⟨0, by omega, rfl, by rw [leN, splice_nil]; exact hY0, hb0⟩
  case round =>
    obtain ⟨k, hk, rfl, hI⟩ := hrel
    by_cases hlt : k < 8
    · have hls : (splice (zeros 508) 0 (leN k run)).length = 508 := by rw [splice_length (by rw [leN_length, zeros_length]; omega), zeros_length]
      obtain ⟨v, hc⟩ := hI.out.1.some_ (i := k) (by omega)
      have hf := hI.out.1.frozen k
      have hls := hid hls
      go_wp2_with fail
      have hI' := hI.out
      go_roundg (7 - k)
      case rel =>
        refine ⟨k + 1, by omega, by go_num, ?_, hI'.2.setCell (p := ⟨w.heap.size, k, none⟩) (Nat.le_refl _) _⟩
        have h1 := hI'.1.set k (UInt8.ofNat (run / 256 ^ k))
        rw [leN]
        have h2 := splice_snoc (bs := zeros 508) (off := 0) (xs := leN k run) (UInt8.ofNat (run / 256 ^ k)) (by rw [leN_length, zeros_length]; omega)
        rw [leN_length, Nat.zero_add] at h2
        rw [← h2, ofNat_val _ (run / 256 ^ k) (shift_byte run k)]
        exact h1
      case measure => omega
    · obtain rfl : k = 8 := by omega
      obtain ⟨B1, hB1⟩ : ∃ B1, splice (zeros 508) 0 (leN 8 run) = B1 := ⟨_, rfl⟩
      have hls : B1.length = 508 := by rw [← hB1, splice_length (by rw [leN_length, zeros_length]; omega), zeros_length]
      rw [hB1] at hI
      have hB1 := hid hB1
      have hI' := hid hI.out
      clear hI
      obtain ⟨v8, k8⟩ := hI'.out.1.some_ (i := 8) (by omega)
      obtain ⟨v9, k9⟩ := hI'.out.1.some_ (i := 9) (by omega)
      have f8 := hI'.out.1.frozen 8
      have f9 := hI'.out.1.frozen 9
      have hls := hid hls
      have hRw := HR.out wr hI'.out.2
      have hul : used.length = n := hRw.1
      obtain ⟨a8, ha8⟩ : ∃ a8, UInt8.ofNat n = a8 := ⟨_, rfl⟩
      obtain ⟨a9, ha9⟩ : ∃ a9, UInt8.ofNat (n / 256) = a9 := ⟨_, rfl⟩
      obtain ⟨W8, hW8⟩ : ∃ W8, (wr.setCell ⟨w.heap.size, 8, none⟩ (.int .u8 ((n : Int) % 256))).setCell ⟨w.heap.size, 9, none⟩ (.int .u8 ((n : Int) / 256)) = W8 := ⟨_, rfl⟩
      have hY8 : Byt W8 w.heap.size ((B1.set 8 a8).set 9 a9) := by
        rw [← hW8, ofNat_val _ n (by omega), ofNat_val ((n : Int) / 256) (n / 256) (by omega), ha8, ha9]
        exact (hI'.out.1.set 8 a8).set 9 a9
      have hb8 : Below w.heap.size w W8 := by
        rw [← hW8]; exact (hI'.out.2.setCell (p := ⟨w.heap.size, 8, none⟩) (Nat.le_refl _) _).setCell (p := ⟨w.heap.size, 9, none⟩) (Nat.le_refl _) _
      have hR8 := HR.out W8 hb8
      have H8 : Aside (Byt W8 w.heap.size ((B1.set 8 a8).set 9 a9) ∧ Below w.heap.size w W8 ∧ RdB W8 A n used ∧ used.length = n ∧ ((B1.set 8 a8).set 9 a9).length = 508) := ⟨hY8, hb8, hR8, hul, by simpa using hls.out⟩
      have HBe : Aside (splice ((B1.set 8 a8).set 9 a9) 10 used = logBody run used) := ⟨by rw [← hB1.out, ← ha8, ← ha9, ← hul]; exact log_body_eq run used (by omega)⟩
      clear hY8 hb8 hR8 hul hRw
      have HG8 : Aside (W8.heap[w.heap.size]? = some (.cells (((B1.set 8 a8).set 9 a9).map u8).toArray 5 (0, 0))) := ⟨H8.out.1⟩
      have ha8 := hid ha8
      have ha9 := hid ha9
      go_wp2_with (
        ((with_reducible refine wpList_copy_splice (o := ⟨some 35, _, _, _, _, _⟩) rfl (.tmp 33) (.tmp 34) 43 43 rfl 5 Tryz.underlying43 size5 _ _ _ _ _ _ rfl rfl w.heap.size 10 (((B1.set 8 a8).set 9 a9).map u8) 5 HG8.out (used.map u8) ?_ ?_ ?_ (u8_one used) w.heap.size w H8.out.2.1 (Nat.le_refl _) ?_)
         · rw [List.length_map, H8.out.2.2.2.1]
           exact (Nat.min_eq_left (by omega)).symm
         · intro h0
           rw [List.length_map, H8.out.2.2.2.1] at h0
           obtain ⟨ad, had, hcs⟩ := H8.out.2.2.1.news h0
           exact ⟨rfl, ad, had, hcs W8 (Below.refl _ _)⟩
         · rw [List.length_map, List.length_map, H8.out.2.2.2.1, H8.out.2.2.2.2]; omega
         intro w4 HG4 hB4
         have hY4 : Byt w4 w.heap.size (logBody run used) := by
           have := HG4.out
           rw [splice_map, HBe.out] at this
           exact this
         have H4 : Aside (Byt w4 w.heap.size (logBody run used) ∧ Below w.heap.size w w4) := ⟨hY4, hB4⟩
         clear hY4 HG4 hB4))
      have hll := logBody_length run used (by rw [H8.out.2.2.2.1]; exact hn)
      have hRl : RdB w4 (some ⟨w.heap.size, 0, none⟩) 508 (logBody run used) := by
        have := H4.out.1.rd0
        rw [hll] at this
        exact this
      refine (seal_any _ 508 508 _ _ hRl (by omega) (by omega)).mono ?_
      rintro e w5 ⟨g5, cap5, rfl, hown5, hb5⟩
      go_wp2
      go_ret
      exact ⟨g5, cap5, rfl, own_mono hown5 H4.out.2.size, H4.out.2.trans (hb5.mono H4.out.2.size)⟩
end Go.Proofs.YthfidlhefkjpdaaGreatDoor

namespace Go.Proofs.YthfidlhefkjpdaaGreatDoor
open Go.RowKit Go.Shelf
attribute [local go_sem] Oper.semAt_some

/-- what Backward has told after k rounds -/
def backU (bs : List UInt8) (k : Nat) : List (Nat × UInt8) := (List.range k).map fun j => (bs.length - 1 - j, bs.getD (bs.length - 1 - j) 0)
theorem backU_succ (bs : List UInt8) (k : Nat) : backU bs (k + 1) = backU bs k ++ [(bs.length - 1 - k, bs.getD (bs.length - 1 - k) 0)] := by simp [backU, List.range_succ]
theorem backU_len (bs : List UInt8) (k : Nat) : (backU bs k).length = k := by simp [backU]
def encB (x : Nat × UInt8) : Array Value := #[.int .i64 (x.1 : Int), .int .u8 (x.2.toNat : Int)]

/-- What a round keeps: the blocks below n₀, and the cell of the captured slice. -/
structure KpB (n₀ Bs : Nat) (W W' : World) : Prop where
  below : Below n₀ W W'
  cell : ∀ u, W.cell? ⟨Bs, 0, none⟩ = some u → W'.cell? ⟨Bs, 0, none⟩ = some u

theorem KpB.trans {n₀ Bs : Nat} {A B C : World} (h : KpB n₀ Bs A B) (k : KpB n₀ Bs B C) : KpB n₀ Bs A C := ⟨h.below.trans k.below, fun u hu => k.cell u (h.cell u hu)⟩
theorem KpB.put {n₀ Bs : Nat} {w : World} (hn : n₀ ≤ w.heap.size) (W : World) (l : Nat) (o o' : Obj) (hl : w.heap.size ≤ l) (h : W.heap[l]? = some o) (hc : o.isCells = false) (hw : o.isWalk = false) : KpB n₀ Bs W (W.putObj l o') :=
  ⟨belowK_b hn W l o o' hl h hc hw, fun u hu => cell_kept hu (grownBy_putObj' _ l o') (fun r e => by cases e; exact ⟨_, h, hc⟩)⟩

set_option maxRecDepth 100000 in
set_option maxHeartbeats 2000000 in
theorem backB1_in (F : Fence) (n : Nat) (h7 : F.fn 142) (hro : F.round = none) (hn : 1 ≤ n) (l Bs n₀ cap : Nat) (A : Option Addr) (bs : List UInt8) (hreach : bs.length ≤ 140737488351232) (J Jx : List (Nat × UInt8) → World → Prop)
    (hY : ∀ pre x W, J pre W → pre.length < bs.length → YieldAt F (n - 1) Tryz.prog l (encB x) W fun e W' =>
      (e = .returned (.bool true) ∧ J (pre ++ [x]) W' ∧ KpB n₀ Bs W W') ∨ (e = .returned (.bool false) ∧ Jx (pre ++ [x]) W'))
    (W : World) (hBs : W.cell? ⟨Bs, 0, none⟩ = some (.slice A bs.length cap))
    (hcs : 0 < bs.length → ∃ b o, A = some ⟨b, o, none⟩ ∧ b < n₀ ∧ ∀ i (h : i < bs.length), W.cell? ⟨b, o + i, none⟩ = some (.int .u8 (bs[i].toNat : Int))) (h0 : J [] W) :
    CallsIn F n Tryz.prog 142 #[.func (.yield l) #[] #[], .pointer (some ⟨Bs, 0, none⟩)] W fun e W' => (∃ v, e = .returned v) ∧
      ((∃ ys, ys = backU bs bs.length ∧ J ys W') ∨ (∃ pre, (∃ k, k ≤ bs.length ∧ pre = backU bs k) ∧ Jx pre W')) := by
  have C := hid hcs
  have CB := hid hBs
  clear hcs
  refine callsIn_of_wp Tryz.func142 rfl h7 ?_ hro
  simp only [Tryz.ntmps142, List.size_toArray, List.length_cons, List.length_nil, Nat.reduceAdd, Nat.reduceSub, Array.replicate_succ, Array.replicate_zero, List.push_toArray, List.append_toArray, List.nil_append, List.cons_append]
  gi_wp2
  gi_loopw [3] (fun i wr => ∃ k : Nat, k ≤ bs.length ∧ i = .int .i64 ((bs.length : Int) - 1 - k) ∧ J (backU bs k) wr ∧ KpB n₀ Bs W wr)
    (fun i _ => (intOf i + 1).toNat)
  case atStart => exact ⟨0, Nat.zero_le _, by go_num, h0, Below.refl _ _, fun _ h => h⟩
  case round =>
    obtain ⟨k, hk, rfl, hJs, hnx⟩ := hrel
    by_cases hlt : k < bs.length
    · obtain ⟨b, off, rfl, hb, hc⟩ := C.out (by omega)
      obtain ⟨m, hm⟩ : ∃ m : Nat, (m : Int) = (bs.length : Int) - 1 - k := ⟨bs.length - 1 - k, by omega⟩
      have hmb : m < bs.length := by omega
      have hme : m = bs.length - 1 - k := by omega
      have g0 := (hnx.below.cell (p := ⟨b, off + m, none⟩) hb).trans (hc m hmb)
      have gB := hnx.cell _ CB.out
      obtain ⟨fn, tmps, assign, body, hy, hR⟩ := hY _ (m, bs[m]) _ hJs (by rw [backU_len]; omega)
      have hsnoc : backU bs (k + 1) = backU bs k ++ [(m, bs[m])] := by rw [backU_succ, ← hme]; simp [List.getD_eq_getElem?_getD, List.getElem?_eq_getElem hmb]
      have B : Aside (backU bs (k + 1) = backU bs k ++ [(m, bs[m])] ∧ KpB n₀ Bs W wr) := ⟨hsnoc, hnx⟩
      have hm0 : (0 : Int) ≤ m := by omega
      unfold encB at hy
      dsimp only at hy
      rw [← hm]
      have hM := hid hm
      clear hsnoc hJs hnx hc hm hme hBs
      gi_wp2
      refine hR.mono ?_
      rintro _ W3 (⟨rfl, hJ3, hk3⟩ | ⟨rfl, hJx3⟩)
      · gi_wp2
        go_roundw
        case rel => exact ⟨k + 1, by omega, by have := hM.out; go_num, by rw [B.out.1]; exact hJ3, B.out.2.trans hk3⟩
        case measure => simp [intOf]
      · gi_wp2
        refine bodyPost_ret (results_none rfl _ _ _) rfl ?_
        exact ⟨⟨_, rfl⟩, .inr ⟨_, ⟨k + 1, by omega, B.out.1.symm⟩, hJx3⟩⟩
    · obtain rfl : k = bs.length := by omega
      gi_wp2
      go_end0
      exact ⟨⟨_, rfl⟩, .inl ⟨_, rfl, hJs⟩⟩

theorem backB_in (F : Fence) (n : Nat) (h5 : F.fn 111) (hro : F.round = none) (A : Option Addr) (len cap : Nat) (w : World) :
    CallsIn F n Tryz.prog 111 #[.slice A len cap] w fun e w' => e = .returned (.func (.func 142) #[] #[.pointer (some ⟨w.heap.size, 0, none⟩)]) ∧ w' = w.alloc (.cells #[.slice A len cap] 43) := by
  have hmf : ∀ (fn : Fn) (first cap : Array Value) (w : World), (Instr.makeFunc fn first cap).run Tryz.prog w = .ok (.func fn first cap) w := fun _ _ _ _ => rfl
  refine callsIn_of_wp Tryz.func111 rfl h5 ?_ hro
  simp only [Tryz.ntmps111, List.size_toArray, List.length_cons, List.length_nil, Nat.reduceAdd, Nat.reduceSub, Array.replicate_succ, Array.replicate_zero, List.push_toArray, List.append_toArray, List.nil_append, List.cons_append]
  gi_wp2
  go_ret
  exact ⟨rfl, rfl⟩

/-- The contract of the iterator: w₀ the world in which the bytes are read, w the one in which the loop begins. -/
theorem backB_stops (F : Fence) (n : Nat) (h7 : F.fn 142) (hro : F.round = none) (hn : 1 ≤ n) (Bs n₀ nb cap : Nat) (A : Option Addr) (bs : List UInt8) (w : World) (hBs : Bs < w.heap.size)
    (hc : w.cell? ⟨Bs, 0, none⟩ = some (.slice A nb cap)) (w₀ : World) (hI : RdB w₀ A nb bs) (hw₀ : w₀.heap.size ≤ n₀) (hb : Below w₀.heap.size w₀ w) (hr : nb ≤ 140737488351232) :
    SeqStopsK F n Tryz.prog 142 #[.pointer (some ⟨Bs, 0, none⟩)] encB (KpB n₀ Bs) (fun ys => ys = backU bs bs.length) (fun pre => ∃ k, k ≤ bs.length ∧ pre = backU bs k) bs.length w := fun l J Jx W hW hJ _ hY h0 => by
  have hc' := (hW.cell (p := ⟨Bs, 0, none⟩) hBs).trans hc
  obtain ⟨hl, hcs⟩ := hI
  subst hl
  refine (backB1_in F n h7 hro hn l Bs n₀ cap A bs hr J Jx hY W hc' (fun h0 => ?_) h0).mono ?_
  · obtain ⟨b, off, e, hb1, hcc⟩ := hcs h0
    refine ⟨b, off, e, by omega, fun j hj => ?_⟩
    exact ((hW.cell (p := ⟨b, off + j, none⟩) (by show b < _; have := hb.size; omega)).trans (hb.cell (p := ⟨b, off + j, none⟩) hb1)).trans (hcc j hj)
  · rintro e W' h
    exact h

theorem boxed_own (B : Nat) (t : TypeId) {β : Type} (f : β → Value) : Own (fun (s : β) W => Boxed W B t (f s)) := fun s X Y row hs hg hrow =>
  hs.kept hg (fun e' => by obtain ⟨o, ho, hc⟩ := hrow B e'.symm; rw [show X.heap[B]? = _ from hs] at ho; cases ho; cases hc)

/-! ### low -/
def lowF : List (Nat × UInt8) → Nat
  | [] => 0
  | x :: r => x.2.toNat * 256 ^ r.length + lowF r
def lowN : List UInt8 → Nat
  | [] => 0
  | c :: r => c.toNat + 256 * lowN r
theorem lowN_lt : ∀ bs : List UInt8, lowN bs < 256 ^ bs.length
  | [] => by simp [lowN]
  | c :: r => by
    have := lowN_lt r
    have hc := c.toNat_lt
    simp only [lowN, List.length_cons, Nat.pow_succ]
    omega
/-- the number that the last k bytes write -/
def lowK (bs : List UInt8) (k : Nat) : Nat := lowN (bs.drop (bs.length - k))
theorem lowK_zero (bs : List UInt8) : lowK bs 0 = 0 := by simp [lowK, lowN]
theorem lowK_all (bs : List UInt8) : lowK bs bs.length = lowN bs := by simp [lowK]
theorem lowK_succ (bs : List UInt8) (k : Nat) (h : k < bs.length) : lowK bs (k + 1) = lowK bs k * 256 + (bs.getD (bs.length - 1 - k) 0).toNat := by
  have hlt : bs.length - 1 - k < bs.length := by omega
  have e : bs.drop (bs.length - (k + 1)) = bs[bs.length - 1 - k] :: bs.drop (bs.length - k) := by
    rw [show bs.length - (k + 1) = bs.length - 1 - k by omega, List.drop_eq_getElem_cons hlt, show bs.length - 1 - k + 1 = bs.length - k by omega]
  unfold lowK
  rw [e, lowN]
  simp [List.getD_eq_getElem?_getD, List.getElem?_eq_getElem hlt]
  omega
theorem lowK_lt (bs : List UInt8) (k : Nat) (h : k ≤ bs.length) : lowK bs k < 256 ^ k := by
  have := lowN_lt (bs.drop (bs.length - k))
  rw [List.length_drop, show bs.length - (bs.length - k) = k by omega] at this
  exact this
end Go.Proofs.YthfidlhefkjpdaaGreatDoor

namespace Go.Proofs.YthfidlhefkjpdaaGreatDoor
open Go.RowKit Go.Shelf
attribute [local go_sem] Oper.semAt_some

def stepL (u : Nat) (x : Nat × UInt8) : Nat := (u * 256 % 18446744073709551616) ||| x.2.toNat
theorem stepL_bits (u : Nat) (x : Nat × UInt8) : bits .or .u64 (IntKind.u64.wrap ((u : Int) * 256)) (x.2.toNat : Int) = (stepL u x : Int) := by
  have hx := x.2.toNat_lt
  have e : IntKind.u64.wrap ((u : Int) * 256) = ((u * 256 % 18446744073709551616 : Nat) : Int) := by
    simp [IntKind.wrap, IntKind.bits, IntKind.signed]
  rw [e, u64_or_nat _ _ (by omega) (by omega)]
  rfl
def lowP (pre : List (Nat × UInt8)) : Nat := pre.foldl stepL 0
theorem lowP_snoc (pre : List (Nat × UInt8)) (x : Nat × UInt8) : lowP (pre ++ [x]) = stepL (lowP pre) x := by simp [lowP, List.foldl_append]
theorem stepL_lt (u : Nat) (x : Nat × UInt8) : stepL u x < 18446744073709551616 := by
  unfold stepL
  have hc := x.2.toNat_lt
  exact Nat.or_lt_two_pow (n := 64) (by omega) (by omega)
theorem lowP_lt (pre : List (Nat × UInt8)) : lowP pre < 18446744073709551616 := by
  rcases List.eq_nil_or_concat pre with rfl | ⟨p, x, rfl⟩
  · simp [lowP]
  · rw [List.concat_eq_append, lowP_snoc]; exact stepL_lt _ _
theorem lowP_back (bs : List UInt8) (hb : bs.length ≤ 8) : ∀ k, k ≤ bs.length → lowP (backU bs k) = lowK bs k
  | 0, _ => by rw [lowK_zero]; rfl
  | k + 1, h => by
    have ih := lowP_back bs hb k (by omega)
    have hlt := lowK_lt bs k (by omega)
    have h7 : 256 ^ k ≤ 256 ^ 7 := Nat.pow_le_pow_right (by omega) (by omega)
    rw [backU_succ, lowP_snoc, ih, lowK_succ bs k (by omega), stepL]
    have hc := (bs.getD (bs.length - 1 - k) 0).toNat_lt
    simp only
    have e7 : 256 ^ 7 = 72057594037927936 := by decide
    rw [Nat.mod_eq_of_lt (by omega)]
    exact nat_join 8 _ _ (by omega) (by omega)

theorem lowP_all (bs : List UInt8) (hb : bs.length ≤ 8) : lowP (backU bs bs.length) = lowN bs := by rw [lowP_back bs hb _ (Nat.le_refl _), lowK_all]

set_option maxRecDepth 100000 in
set_option maxHeartbeats 1000000 in
theorem low_in (F : Fence) (n : Nat) (h3 : F.fn 76) (h5 : F.fn 111) (h6 : F.fn 142) (hro : F.round = none) (hn : 3 ≤ n) (A : Option Addr) (nb cap : Nat) (bs : List UInt8) (w : World) (hR : RdB w A nb bs) (hb8 : bs.length ≤ 8) :
    CallsIn F n Tryz.prog 76 #[.slice A nb cap] w fun e W' => e = .returned (.int .u64 (lowN bs : Int)) ∧ Below w.heap.size w W' := by
  have h1 : 1 ≤ n := by omega
  have hnb : nb ≤ 8 := by rw [← hR.1]; exact hb8
  refine callsIn_of_wp_marks Tryz.func76 rfl h3 ?_ hro
  simp only [Tryz.ntmps76, List.size_toArray, List.length_cons, List.length_nil, Nat.reduceAdd, Nat.reduceSub, Array.replicate_succ, Array.replicate_zero, List.push_toArray, List.append_toArray, List.nil_append, List.cons_append]
  gi_wp2_with (gi_at_call 111; refine (backB_in F (n - 1) h5 hro _ _ _ _).mono ?_; rintro e w' ⟨rfl, rfl⟩)
  have hs := Boxed.new w 136 (.int .u64 0)
  have hb := Boxed.new (w.alloc (.cells #[.int .u64 0] 136)) 43 (.slice A nb cap)
  rw [World.size_alloc] at hb
  have hB0 : Below w.heap.size w ((w.alloc (.cells #[.int .u64 0] 136)).alloc (.cells #[.slice A nb cap] 43)) := ((Below.refl _ w).alloc (Nat.le_refl _) _).alloc (by simp) _
  refine wpIn_rangeFunc_ownF hro h1 (gf := 142) (lb := #[.pointer (some ⟨w.heap.size + 1, 0, none⟩)]) rfl h6 (enters_of Tryz.func142 (by kernel_rfl) rfl)
    (backB_stops F (n - 1) h6 hro (by omega) (w.heap.size + 1) w.heap.size nb cap A bs _ (by simp) hb.cell w hR (Nat.le_refl _) hB0 (by omega)) KpB.trans (KpB.put (by simp; omega)) (Below.refl _ _) (fun _ => rfl)
    (fun pre W => Boxed W w.heap.size 136 (.int .u64 (lowP pre : Int)) ∧ Below w.heap.size w W)
    (fun _ _ _ => False)
    (OwnFrom.and (Own.from (boxed_own _ _ _) _) (ownFrom_below (Nat.le_refl _) (by simp; omega)))
    (fun _ _ _ _ _ hs _ _ => hs)
    ⟨hs.alloc _, hB0⟩
    (fun x => { tmps := #[.slice A nb cap, undef, .int .u64 0, .pointer (some ⟨w.heap.size, 0, none⟩), undef, .int .u8 (x.2.toNat : Int), .slice A nb cap, .func (.func 142) #[] #[.pointer (some ⟨w.heap.size + 1, 0, none⟩)], .int .i64 (x.1 : Int), .int .u8 (x.2.toNat : Int), undef, undef, undef, undef, undef, undef], defers := [] }) ?assign ?body ?done ?stop
  case assign =>
    intro l x W K hK
    unfold encB
    gi_wp2
    exact hK
  case body =>
    rintro l pre x W ⟨hc, hB⟩ _
    have c1 := hc.cell
    have c2 := hc.frozen
    have hp := lowP_lt pre
    have hx := x.2.toNat_lt
    have hor := hid (stepL_bits (lowP pre) x)
    gi_wp2
    rw [hor.out, ← lowP_snoc]
    exact ⟨KeepsOthers.setCell _ _ _, ⟨(Below.refl w.heap.size W).setCell (p := ⟨w.heap.size, 0, none⟩) (Nat.le_refl _) _, fun u hu => (World.cell?_setCell_other _ _ _ _ (fun h => by have := congrArg Addr.block h; simp at this)).trans hu⟩, hc.set _, hB.setCell (p := ⟨w.heap.size, 0, none⟩) (Nat.le_refl _) _⟩
  case done =>
    rintro D ys W hD rfl ⟨hc, hB⟩ hK
    have c1 := hc.cell
    gi_wp2
    refine ⟨by simp, .inl ⟨_, _, rfl, run_takeDeferred hK, ?_⟩⟩
    exact ⟨_, results_tmp rfl _ _ _, by rw [lowP_all bs hb8]; rfl, hB.trans (belowK_b (w := w) (Nat.le_refl _) W D _ _ (by simp at hD; omega) hK rfl rfl)⟩
  case stop =>
    rintro D c pre W _ _ h _
    exact h.elim

theorem low_any (A : Option Addr) (nb cap : Nat) (bs : List UInt8) (w : World) (hR : RdB w A nb bs) (hb8 : bs.length ≤ 8) :
    Calls Tryz.prog 76 #[.slice A nb cap] w fun e W' => e = .returned (.int .u64 (lowN bs : Int)) ∧ Below w.heap.size w W' :=
  callsIn_wide.1 (low_in Fence.wide 3 trivial trivial trivial rfl (Nat.le_refl _) A nb cap bs w hR hb8)

end Go.Proofs.YthfidlhefkjpdaaGreatDoor
