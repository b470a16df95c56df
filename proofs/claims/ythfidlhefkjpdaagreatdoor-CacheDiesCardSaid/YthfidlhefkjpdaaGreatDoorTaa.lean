/- Words for bytes in memory: a slice that reads as bytes; the sum of crc as a plain function.
   slices.Backward over bytes: its contract; page.low.
   Words for a block of bytes that is known whole.
   Words for a page in memory.
   The walks of package crc. -/
import Derived.WalkKit
import Derived.WalkSpells
import Derived.WalkLawsBesides
import Derived.Laws.BitsAllLaws
import Derived.Laws.BitsLemmas
import Derived.Below
import Derived.Maps.AppendAt
import Derived.Laws.MakeOwn
import Derived.Laws.Entries
import Derived.RangeFuncNested
import Derived.RangeFuncBound
import Derived.RangeFuncCalls
import Derived.RangeFuncLeaves
import Derived.Shelf.Abstract
import Derived.Shelf.RegionOpen
import Derived.OwnWalkIn
import Derived.TacticsInMore
import Derived.LoopNIn
import Derived.LoopIn
import Derived.RangeFuncBox
import Derived.Outline
import Derived.Deep.LoopGhost
import Derived.Test.YthfidlhefkjpdaaGreatDoorProg
import Derived.Laws.OwnMore
import Derived.Laws.CopyOwn
import Derived.Deep.Draws
namespace Go.Proofs.YthfidlhefkjpdaaGreatDoor
open Go.RowKit

/-- The fact kept from the walk. -/
theorem hid {p : Prop} (h : p) : Hid p := h

structure Aside (p : Prop) : Prop where
  intro ::
  out : p

def u8 (c : UInt8) : Value := .int .u8 (c.toNat : Int)

/-- The slice of address A and length n reads as the bytes bs. -/
def RdB (w : World) (A : Option Addr) (n : Nat) (bs : List UInt8) : Prop :=
  bs.length = n ∧ (0 < n → ∃ b o, A = some ⟨b, o, none⟩ ∧ b < w.heap.size ∧ ∀ i (h : i < bs.length), w.cell? ⟨b, o + i, none⟩ = some (.int .u8 (bs[i].toNat : Int)))

theorem RdB.nil (w : World) (A : Option Addr) : RdB w A 0 [] := ⟨rfl, fun h => absurd h (Nat.lt_irrefl 0)⟩

theorem RdB.keep {w w' : World} {A : Option Addr} {n : Nat} {bs : List UInt8} (h : RdB w A n bs) (hz : w.heap.size ≤ w'.heap.size) (hk : ∀ b o, A = some ⟨b, o, none⟩ → b < w.heap.size → w'.heap[b]? = w.heap[b]?) : RdB w' A n bs := by
  refine ⟨h.1, fun h0 => ?_⟩
  obtain ⟨b, o, rfl, hb, hc⟩ := h.2 h0
  refine ⟨b, o, rfl, Nat.lt_of_lt_of_le hb hz, fun i hi => ?_⟩
  rw [World.cell?_of_block (w := w) (hk b o rfl hb)]
  exact hc i hi

theorem RdB.below {w w' : World} {A : Option Addr} {n : Nat} {bs : List UInt8} (h : RdB w A n bs) (hb : Below w.heap.size w w') : RdB w' A n bs :=
  h.keep hb.size fun b _ _ hlt => hb.block b hlt

theorem RdB.get {w : World} {A : Option Addr} {n : Nat} {bs : List UInt8} (h : RdB w A n bs) {k : Nat} (hk : k < n) :
    ∃ b o, A = some ⟨b, o, none⟩ ∧ b < w.heap.size ∧ ∃ h : k < bs.length, w.cell? ⟨b, o + k, none⟩ = some (.int .u8 (bs[k].toNat : Int)) := by
  obtain ⟨h1, h2⟩ := h
  obtain ⟨b, o, rfl, hb, hc⟩ := h2 (by omega)
  exact ⟨b, o, rfl, hb, by omega, hc k (by omega)⟩

/-- What the walk wants of the cell: under its condition. -/
theorem RdB.cut {w : World} {A : Option Addr} {n : Nat} {bs : List UInt8} (h : RdB w A n bs) {k : Nat} (hk : k ≤ n) : RdB w (A.map (·.add k)) (n - k) (bs.drop k) := by
  obtain ⟨h1, h2⟩ := h
  refine ⟨by rw [List.length_drop, h1], fun h0 => ?_⟩
  obtain ⟨b, o, rfl, hb, hc⟩ := h2 (by omega)
  refine ⟨b, o + k, ?_, hb, fun i hi => ?_⟩
  · simp only [Option.map_some]
    unfold Addr.add
    split <;> simp_all
  · rw [List.length_drop] at hi
    rw [List.getElem_drop, Nat.add_assoc]
    exact hc (k + i) (by omega)

theorem RdB.take {w : World} {A : Option Addr} {n : Nat} {bs : List UInt8} (h : RdB w A n bs) {k : Nat} (hk : k ≤ n) : RdB w A k (bs.take k) := by
  obtain ⟨h1, h2⟩ := h
  refine ⟨by rw [List.length_take, h1]; omega, fun h0 => ?_⟩
  obtain ⟨b, o, rfl, hb, hc⟩ := h2 (by omega)
  refine ⟨b, o, rfl, hb, fun i hi => ?_⟩
  rw [List.length_take] at hi
  rw [List.getElem_take]
  exact hc i (by omega)

theorem RdB.at4 {w : World} {b o n : Nat} {bs : List UInt8} {k : Nat} (h : RdB w ((some (⟨b, o, none⟩ : Addr)).map (·.add k)) n bs) : RdB w (some ⟨b, o + k, none⟩) n bs := by
  simpa [Addr.add_lit] using h

theorem RdB.of_own {w : World} {base : Nat} {e : TypeId} {n c : Nat} {A : Option Addr} {bs : List UInt8} (h : w.ownsRow base e 1 (.slice A n c) n (bs.map u8)) : RdB w A n bs := by
  have hl : bs.length = n := by have := h.1; simpa using this
  refine ⟨hl, fun hn => ?_⟩
  have hh := h
  obtain ⟨_, ⟨_, hn0⟩ | ⟨g, cap, cur, hv, _, hb, _⟩⟩ := h
  · omega
  have hA : A = some ⟨g, 0, none⟩ := by injection hv
  subst hA
  refine ⟨g, 0, rfl, (Array.getElem?_eq_some_iff.1 hb).1, fun i hi => ?_⟩
  rw [Nat.zero_add, hh.cellAt i (by omega), List.getElem?_map, List.getElem?_eq_getElem hi]
  rfl

/-! ### The sum -/
def crcStep (s : Nat) : Nat := s / 2 ^^^ (if s % 2 = 1 then 3988292384 else 0)
def crcIter : Nat → Nat → Nat
  | 0, s => s
  | k + 1, s => crcStep (crcIter k s)
def crcByte (s : Nat) (c : UInt8) : Nat := crcIter 8 (s ^^^ c.toNat)
def crcFold (s : Nat) (bs : List UInt8) : Nat := bs.foldl crcByte s
def crcOf (bs : List UInt8) : Nat := 4294967295 ^^^ crcFold 4294967295 bs

theorem xor_lt32 {a b : Nat} (ha : a < 4294967296) (hb : b < 4294967296) : a ^^^ b < 4294967296 := Nat.xor_lt_two_pow (n := 32) ha hb
theorem crcStep_lt {s : Nat} (h : s < 4294967296) : crcStep s < 4294967296 := by
  unfold crcStep
  refine xor_lt32 (by omega) ?_
  split <;> omega
theorem crcIter_lt {s : Nat} (h : s < 4294967296) (k : Nat) : crcIter k s < 4294967296 := by
  induction k with
  | zero => exact h
  | succ k ih => exact crcStep_lt ih
theorem crcByte_lt {s : Nat} (h : s < 4294967296) (c : UInt8) : crcByte s c < 4294967296 :=
  crcIter_lt (xor_lt32 h (by have := c.toNat_lt; omega)) 8
theorem crcFold_lt {s : Nat} (h : s < 4294967296) (bs : List UInt8) : crcFold s bs < 4294967296 := by
  induction bs generalizing s with
  | nil => exact h
  | cons c r ih => exact ih (crcByte_lt h c)
theorem crcFold_snoc (s : Nat) (bs : List UInt8) (c : UInt8) : crcFold s (bs ++ [c]) = crcByte (crcFold s bs) c := by
  simp [crcFold, List.foldl_append]
theorem crcOf_lt (bs : List UInt8) : crcOf bs < 4294967296 := xor_lt32 (by omega) (crcFold_lt (by omega) bs)

theorem crcStep_bits (s : Nat) (h : s < 4294967296) :
    bits .xor .u32 ((s : Int) / 2) (bits .and .u32 3988292384 (-bits .and .u32 (s : Int) 1 % 4294967296)) = (crcStep s : Int) := by
  have e1 : bits .and .u32 (s : Int) 1 = ((s % 2 : Nat) : Int) := by
    have := u32_and_nat s 1 h (by omega)
    rw [show ((1 : Nat) : Int) = 1 from rfl] at this
    rw [this, Nat.and_one_is_mod]
  rw [e1]
  have e0 : ((s : Int) / 2) = ((s / 2 : Nat) : Int) := by omega
  rw [e0]
  unfold crcStep
  rcases Nat.mod_two_eq_zero_or_one s with h2 | h2
  · rw [h2]
    have : bits .and .u32 3988292384 (-((0 : Nat) : Int) % 4294967296) = ((0 : Nat) : Int) := by
      have := u32_and_nat 3988292384 0 (by omega) (by omega)
      simpa using this
    rw [this, u32_xor_nat _ _ (by omega) (by omega)]
    simp
  · rw [h2]
    have : bits .and .u32 3988292384 (-((1 : Nat) : Int) % 4294967296) = ((3988292384 : Nat) : Int) := by
      have := u32_and_nat 3988292384 4294967295 (by omega) (by omega)
      have e : (3988292384 &&& 4294967295 : Nat) = 3988292384 := by decide
      rw [e] at this
      exact this
    rw [this, u32_xor_nat _ _ (by omega) (by omega)]
    simp

theorem take_snoc {α : Type} (l : List α) (k : Nat) (h : k < l.length) : l.take (k + 1) = l.take k ++ [l[k]] := by
  rw [List.take_succ_eq_append_getElem h]

theorem alloc_new (w : World) (o : Obj) : (w.alloc o).heap[w.heap.size]? = some o := by
  show (w.heap.push o)[w.heap.size]? = _
  simp

theorem wrap_nat {a : Int} (h0 : -9223372036854775808 ≤ a) (h1 : a ≤ 9223372036854775807) : IntKind.i64.wrap a = a := by rw [IntKind.wrap_i64]; omega

/-- make of a row with a length and a capacity. -/
theorem run_make_two {P : Program} (t e : TypeId) (i : TypeInfo) (z : Value) (ht : P.underlying t = some (.slice e)) (hi : P.info? e = some i) (hz : i.zero = some z) (hs : i.size = 1)
    (n c : Nat) (nv cv : Int) (hnv : nv = (n : Int)) (hcv : cv = (c : Int)) (hnc : n ≤ c) (hbytes : i.bytes * c ≤ 281474976710656) (h63 : c ≤ 9223372036854775807) (w : World) :
    (Instr.makeSlice t (.int .i64 nv) (.int .i64 cv)).run P w = .ok (.slice (some ⟨w.heap.size, 0, none⟩) n c) (w.alloc (.cells (madeCells z.cells c) e)) := by
  subst hnv hcv
  have hb : (i.bytes : Int) * (c : Int) ≤ 281474976710656 := by
    have h : ((i.bytes * c : Nat) : Int) ≤ 281474976710656 := by omega
    rwa [Int.natCast_mul] at h
  have hr := run_make (P := P) w t e i z ht hi hz .i64 .i64 n c (by omega) (by omega) hb (by omega)
  simp only [Int.toNat_natCast, hs, Nat.mul_one] at hr
  exact hr

theorem heap_alloc' (w : World) (o : Obj) : (w.alloc o).heap = w.heap.push o := rfl
theorem heap_drew' (w : World) : w.drew.heap = w.heap := rfl
theorem heap_drewN' (w : World) (q : Nat) : (w.drewN q).heap = w.heap := rfl
theorem heap_at1 (w : World) (a b : Obj) : ((w.alloc a).alloc b).heap[w.heap.size + 1]? = some b := by
  have := alloc_new (w.alloc a) b
  rwa [World.size_alloc] at this
theorem heap_at0 (w : World) (a b : Obj) : ((w.alloc a).alloc b).heap[w.heap.size]? = some a :=
  (Below.heap_alloc _ _ _ (by rw [World.size_alloc]; omega)).trans (alloc_new w a)
theorem own_blk {w : World} {g cap n : Nat} {cs : Array Value} {e : TypeId} {base : Nat} {xs : List Value} (h : w.heap[g]? = some (.cells cs e)) (hb : base ≤ g) (hx : cs.toList.take n = xs) (hl : xs.length = n) (hcap : cs.size = cap) (hc : cap ≤ maxLen) :
    w.ownsRow base e 1 (.slice (some ⟨g, 0, none⟩) n cap) n xs := by
  have hn : n ≤ cap := by
    subst hx hcap
    rw [List.length_take, Array.length_toList] at hl
    omega
  exact ⟨by rw [hl, Nat.mul_one], Or.inr ⟨g, cap, _, rfl, hb, h, hn, hc, by rw [hcap, Nat.mul_one], by rw [Nat.mul_one]; exact hx⟩⟩

theorem own_mono {w : World} {base base' : Nat} {e : TypeId} {size n : Nat} {v : Value} {xs : List Value} (h : w.ownsRow base e size v n xs) (hb : base' ≤ base) : w.ownsRow base' e size v n xs := by
  obtain ⟨h1, h2⟩ := h
  refine ⟨h1, ?_⟩
  rcases h2 with h2 | ⟨g, cap, cur, hv, hg, r⟩
  · exact .inl h2
  · exact .inr ⟨g, cap, cur, hv, Nat.le_trans hb hg, r⟩

theorem own_drew {w : World} {base : Nat} {e : TypeId} {size n : Nat} {v : Value} {xs : List Value} (h : w.ownsRow base e size v n xs) : w.drew.ownsRow base e size v n xs := h
theorem own_drewN {w : World} {base : Nat} {e : TypeId} {size n : Nat} {v : Value} {xs : List Value} (h : w.ownsRow base e size v n xs) (q : Nat) : (w.drewN q).ownsRow base e size v n xs := h
theorem bl_alloc {w0 W : World} {B : Nat} (h : Below B w0 W) (o : Obj) (hB : B ≤ w0.heap.size := by first | exact Nat.le_refl _ | omega) : Below B w0 (W.alloc o) := h.alloc (Nat.le_trans hB h.size) _
theorem bl_drew {B : Nat} {w0 W : World} (h : Below B w0 W) : Below B w0 W.drew := ⟨h.os, h.tape, h.output, h.size, fun j hj => h.block j hj⟩
theorem bl_drewN {B : Nat} {w0 W : World} (h : Below B w0 W) (q : Nat) : Below B w0 (W.drewN q) := ⟨h.os, h.tape, h.output, h.size, fun j hj => h.block j hj⟩

end Go.Proofs.YthfidlhefkjpdaaGreatDoor

namespace Go.Proofs.YthfidlhefkjpdaaGreatDoor
open Go.RowKit Go.Shelf
attribute [local go_sem] Oper.semAt_some

/-- what Backward has told after k rounds -/
def backU (bs : List UInt8) (k : Nat) : List (Nat × UInt8) := (List.range k).map fun j => (bs.length - 1 - j, bs.getD (bs.length - 1 - j) 0)
theorem backU_succ (bs : List UInt8) (k : Nat) : backU bs (k + 1) = backU bs k ++ [(bs.length - 1 - k, bs.getD (bs.length - 1 - k) 0)] := by simp [backU, List.range_succ]
theorem backU_len (bs : List UInt8) (k : Nat) : (backU bs k).length = k := by simp [backU]
def encB (x : Nat × UInt8) : Array Value := #[.int .i64 (x.1 : Int), .int .u8 (x.2.toNat : Int)]

/-- What a round keeps: the blocks below n₀, and the cell of the captured slice. -/
structure KpB (n₀ Bs : Nat) (W W' : World) : Prop where
  below : Below n₀ W W'
  cell : ∀ u, W.cell? ⟨Bs, 0, none⟩ = some u → W'.cell? ⟨Bs, 0, none⟩ = some u

theorem KpB.trans {n₀ Bs : Nat} {A B C : World} (h : KpB n₀ Bs A B) (k : KpB n₀ Bs B C) : KpB n₀ Bs A C := ⟨h.below.trans k.below, fun u hu => k.cell u (h.cell u hu)⟩
theorem KpB.put {n₀ Bs : Nat} {w : World} (hn : n₀ ≤ w.heap.size) (W : World) (l : Nat) (o o' : Obj) (hl : w.heap.size ≤ l) (h : W.heap[l]? = some o) (hc : o.isCells = false) (hw : o.isWalk = false) : KpB n₀ Bs W (W.putObj l o') :=
  ⟨belowK_b hn W l o o' hl h hc hw, fun u hu => cell_kept hu (grownBy_putObj' _ l o') (fun r e => by cases e; exact ⟨_, h, hc⟩)⟩

set_option maxRecDepth 100000 in
set_option maxHeartbeats 2000000 in
theorem backB1_in (F : Fence) (n : Nat) (h7 : F.fn 142) (hro : F.round = none) (hn : 1 ≤ n) (l Bs n₀ cap : Nat) (A : Option Addr) (bs : List UInt8) (hreach : bs.length ≤ 140737488351232) (J Jx : List (Nat × UInt8) → World → Prop)
    (hY : ∀ pre x W, J pre W → pre.length < bs.length → YieldAt F (n - 1) Tryz.prog l (encB x) W fun e W' =>
      (e = .returned (.bool true) ∧ J (pre ++ [x]) W' ∧ KpB n₀ Bs W W') ∨ (e = .returned (.bool false) ∧ Jx (pre ++ [x]) W'))
    (W : World) (hBs : W.cell? ⟨Bs, 0, none⟩ = some (.slice A bs.length cap))
    (hcs : 0 < bs.length → ∃ b o, A = some ⟨b, o, none⟩ ∧ b < n₀ ∧ ∀ i (h : i < bs.length), W.cell? ⟨b, o + i, none⟩ = some (.int .u8 (bs[i].toNat : Int))) (h0 : J [] W) :
    CallsIn F n Tryz.prog 142 #[.func (.yield l) #[] #[], .pointer (some ⟨Bs, 0, none⟩)] W fun e W' => (∃ v, e = .returned v) ∧
      ((∃ ys, ys = backU bs bs.length ∧ J ys W') ∨ (∃ pre, (∃ k, k ≤ bs.length ∧ pre = backU bs k) ∧ Jx pre W')) := by
  have C := hid hcs
  have CB := hid hBs
  clear hcs
  refine callsIn_of_wp Tryz.func142 rfl h7 ?_ hro
  simp only [Tryz.ntmps142, List.size_toArray, List.length_cons, List.length_nil, Nat.reduceAdd, Nat.reduceSub, Array.replicate_succ, Array.replicate_zero, List.push_toArray, List.append_toArray, List.nil_append, List.cons_append]
  gi_wp2
  gi_loopw [3] (fun i wr => ∃ k : Nat, k ≤ bs.length ∧ i = .int .i64 ((bs.length : Int) - 1 - k) ∧ J (backU bs k) wr ∧ KpB n₀ Bs W wr)
    (fun i _ => (intOf i + 1).toNat)
  case atStart => exact ⟨0, Nat.zero_le _, by go_num, h0, Below.refl _ _, fun _ h => h⟩
  case round =>
    obtain ⟨k, hk, rfl, hJs, hnx⟩ := hrel
    by_cases hlt : k < bs.length
    · obtain ⟨b, off, rfl, hb, hc⟩ := C.out (by omega)
      obtain ⟨m, hm⟩ : ∃ m : Nat, (m : Int) = (bs.length : Int) - 1 - k := ⟨bs.length - 1 - k, by omega⟩
      have hmb : m < bs.length := by omega
      have hme : m = bs.length - 1 - k := by omega
      have g0 := (hnx.below.cell (p := ⟨b, off + m, none⟩) hb).trans (hc m hmb)
      have gB := hnx.cell _ CB.out
      obtain ⟨fn, tmps, assign, body, hy, hR⟩ := hY _ (m, bs[m]) _ hJs (by rw [backU_len]; omega)
      have hsnoc : backU bs (k + 1) = backU bs k ++ [(m, bs[m])] := by rw [backU_succ, ← hme]; simp [List.getD_eq_getElem?_getD, List.getElem?_eq_getElem hmb]
      have B : Aside (backU bs (k + 1) = backU bs k ++ [(m, bs[m])] ∧ KpB n₀ Bs W wr) := ⟨hsnoc, hnx⟩
      have hm0 : (0 : Int) ≤ m := by omega
      unfold encB at hy
      dsimp only at hy
      rw [← hm]
      have hM := hid hm
      clear hsnoc hJs hnx hc hm hme hBs
      gi_wp2
      refine hR.mono ?_
      rintro _ W3 (⟨rfl, hJ3, hk3⟩ | ⟨rfl, hJx3⟩)
      · gi_wp2
        go_roundw
        case rel => exact ⟨k + 1, by omega, by have := hM.out; go_num, by rw [B.out.1]; exact hJ3, B.out.2.trans hk3⟩
        case measure => simp [intOf]
      · gi_wp2
        refine bodyPost_ret (results_none rfl _ _ _) rfl ?_
        exact ⟨⟨_, rfl⟩, .inr ⟨_, ⟨k + 1, by omega, B.out.1.symm⟩, hJx3⟩⟩
    · obtain rfl : k = bs.length := by omega
      gi_wp2
      go_end0
      exact ⟨⟨_, rfl⟩, .inl ⟨_, rfl, hJs⟩⟩

theorem backB_in (F : Fence) (n : Nat) (h5 : F.fn 111) (hro : F.round = none) (A : Option Addr) (len cap : Nat) (w : World) :
    CallsIn F n Tryz.prog 111 #[.slice A len cap] w fun e w' => e = .returned (.func (.func 142) #[] #[.pointer (some ⟨w.heap.size, 0, none⟩)]) ∧ w' = w.alloc (.cells #[.slice A len cap] 43) := by
  have hmf : ∀ (fn : Fn) (first cap : Array Value) (w : World), (Instr.makeFunc fn first cap).run Tryz.prog w = .ok (.func fn first cap) w := fun _ _ _ _ => rfl
  refine callsIn_of_wp Tryz.func111 rfl h5 ?_ hro
  simp only [Tryz.ntmps111, List.size_toArray, List.length_cons, List.length_nil, Nat.reduceAdd, Nat.reduceSub, Array.replicate_succ, Array.replicate_zero, List.push_toArray, List.append_toArray, List.nil_append, List.cons_append]
  gi_wp2
  go_ret
  exact ⟨rfl, rfl⟩

/-- The contract of the iterator: w₀ the world in which the bytes are read, w the one in which the loop begins. -/
theorem backB_stops (F : Fence) (n : Nat) (h7 : F.fn 142) (hro : F.round = none) (hn : 1 ≤ n) (Bs n₀ nb cap : Nat) (A : Option Addr) (bs : List UInt8) (w : World) (hBs : Bs < w.heap.size)
    (hc : w.cell? ⟨Bs, 0, none⟩ = some (.slice A nb cap)) (w₀ : World) (hI : RdB w₀ A nb bs) (hw₀ : w₀.heap.size ≤ n₀) (hb : Below w₀.heap.size w₀ w) (hr : nb ≤ 140737488351232) :
    SeqStopsK F n Tryz.prog 142 #[.pointer (some ⟨Bs, 0, none⟩)] encB (KpB n₀ Bs) (fun ys => ys = backU bs bs.length) (fun pre => ∃ k, k ≤ bs.length ∧ pre = backU bs k) bs.length w := fun l J Jx W hW hJ _ hY h0 => by
  have hc' := (hW.cell (p := ⟨Bs, 0, none⟩) hBs).trans hc
  obtain ⟨hl, hcs⟩ := hI
  subst hl
  refine (backB1_in F n h7 hro hn l Bs n₀ cap A bs hr J Jx hY W hc' (fun h0 => ?_) h0).mono ?_
  · obtain ⟨b, off, e, hb1, hcc⟩ := hcs h0
    refine ⟨b, off, e, by omega, fun j hj => ?_⟩
    exact ((hW.cell (p := ⟨b, off + j, none⟩) (by show b < _; have := hb.size; omega)).trans (hb.cell (p := ⟨b, off + j, none⟩) hb1)).trans (hcc j hj)
  · rintro e W' h
    exact h

theorem boxed_own (B : Nat) (t : TypeId) {β : Type} (f : β → Value) : Own (fun (s : β) W => Boxed W B t (f s)) := fun s X Y row hs hg hrow =>
  hs.kept hg (fun e' => by obtain ⟨o, ho, hc⟩ := hrow B e'.symm; rw [show X.heap[B]? = _ from hs] at ho; cases ho; cases hc)

/-! ### low -/
def lowF : List (Nat × UInt8) → Nat
  | [] => 0
  | x :: r => x.2.toNat * 256 ^ r.length + lowF r
def lowN : List UInt8 → Nat
  | [] => 0
  | c :: r => c.toNat + 256 * lowN r
theorem lowN_lt : ∀ bs : List UInt8, lowN bs < 256 ^ bs.length
  | [] => by simp [lowN]
  | c :: r => by
    have := lowN_lt r
    have hc := c.toNat_lt
    simp only [lowN, List.length_cons, Nat.pow_succ]
    omega
/-- the number that the last k bytes write -/
def lowK (bs : List UInt8) (k : Nat) : Nat := lowN (bs.drop (bs.length - k))
theorem lowK_zero (bs : List UInt8) : lowK bs 0 = 0 := by simp [lowK, lowN]
theorem lowK_all (bs : List UInt8) : lowK bs bs.length = lowN bs := by simp [lowK]
theorem lowK_succ (bs : List UInt8) (k : Nat) (h : k < bs.length) : lowK bs (k + 1) = lowK bs k * 256 + (bs.getD (bs.length - 1 - k) 0).toNat := by
  have hlt : bs.length - 1 - k < bs.length := by omega
  have e : bs.drop (bs.length - (k + 1)) = bs[bs.length - 1 - k] :: bs.drop (bs.length - k) := by
    rw [show bs.length - (k + 1) = bs.length - 1 - k by omega, List.drop_eq_getElem_cons hlt, show bs.length - 1 - k + 1 = bs.length - k by omega]
  unfold lowK
  rw [e, lowN]
  simp [List.getD_eq_getElem?_getD, List.getElem?_eq_getElem hlt]
  omega
theorem lowK_lt (bs : List UInt8) (k : Nat) (h : k ≤ bs.length) : lowK bs k < 256 ^ k := by
  have := lowN_lt (bs.drop (bs.length - k))
  rw [List.length_drop, show bs.length - (bs.length - k) = k by omega] at this
  exact this
end Go.Proofs.YthfidlhefkjpdaaGreatDoor

namespace Go.Proofs.YthfidlhefkjpdaaGreatDoor
open Go.RowKit

def cellsB (bs : List UInt8) : Array Value := (bs.map u8).toArray
def Byt (w : World) (g : Nat) (bs : List UInt8) : Prop := w.heap[g]? = some (.cells (cellsB bs) 5 (0, 0))
def zeros (n : Nat) : List UInt8 := List.replicate n 0
theorem zeros_length (n : Nat) : (zeros n).length = n := by simp [zeros]
theorem made_zeros (n : Nat) : madeCells (Value.int .u8 0).cells n = cellsB (zeros n) := by
  apply Array.ext
  · simp [madeCells, cellsB, zeros]
  · intro i h1 h2
    simp [madeCells, cellsB, zeros, u8, Value.cells]
    rw [Nat.mod_one]
    rfl

theorem splice_length {bs : List UInt8} {off : Nat} {xs : List UInt8} (h : off + xs.length ≤ bs.length) : (splice bs off xs).length = bs.length := length_splice _ _ _ h
theorem splice_nil (bs : List UInt8) (off : Nat) : splice bs off [] = bs := by simp [splice]
theorem splice_snoc {bs : List UInt8} {off : Nat} {xs : List UInt8} (c : UInt8) (h : off + xs.length < bs.length) : (splice bs off xs).set (off + xs.length) c = splice bs off (xs ++ [c]) := by
  unfold splice
  rw [List.drop_eq_getElem_cons h, ← List.append_assoc]
  have h1 : (bs.take off ++ xs).length = off + xs.length := by simp; omega
  rw [List.set_append_right _ _ (by omega), h1, Nat.sub_self]
  simp [List.append_assoc, Nat.add_assoc]
theorem splice_map (bs : List UInt8) (off : Nat) (xs : List UInt8) : splice (bs.map u8) off (xs.map u8) = (splice bs off xs).map u8 := by
  simp [splice, List.map_take, List.map_drop]
theorem splice_mid (a m b x : List UInt8) (h : x.length = m.length) : splice (a ++ (m ++ b)) a.length x = a ++ (x ++ b) := by
  simp [splice, h]

section
variable {w w' : World} {g : Nat} {bs : List UInt8}
theorem Byt.lt (h : Byt w g bs) : g < w.heap.size := (Array.getElem?_eq_some_iff.1 h).1
theorem Byt.cell (h : Byt w g bs) {i : Nat} (hi : i < bs.length) : w.cell? ⟨g, i, none⟩ = some (.int .u8 (bs[i].toNat : Int)) := by
  unfold World.cell?
  rw [show w.heap[g]? = _ from h]
  simp [u8, hi, cellsB]
theorem Byt.some_ (h : Byt w g bs) {i : Nat} (hi : i < bs.length) : ∃ v, w.cell? ⟨g, i, none⟩ = some v := ⟨_, h.cell hi⟩
theorem Byt.frozen (h : Byt w g bs) (i : Nat) : w.frozen? ⟨g, i, none⟩ = false := by
  unfold World.frozen?
  rw [show w.heap[g]? = _ from h]
  simp
theorem Byt.new (w : World) (bs : List UInt8) : Byt (w.alloc (.cells (cellsB bs) 5)) w.heap.size bs := alloc_new w _
theorem Byt.set (h : Byt w g bs) (i : Nat) (c : UInt8) : Byt (w.setCell ⟨g, i, none⟩ (.int .u8 (c.toNat : Int))) g (bs.set i c) := by
  unfold Byt at h ⊢
  simp only [World.setCell, Array.getElem?_modify, h, if_true, Option.map_some]
  congr 2
  simp only [cellsB, List.setIfInBounds_toArray, List.map_set]
  rfl
theorem Byt.only (h : Byt w g bs) {row : Option Nat} (hg : w.grownBy w' row) (hne : some g ≠ row) : Byt w' g bs := (hg.block g h.lt hne).trans h
theorem Byt.below {B : Nat} (h : Byt w g bs) (hb : Below B w w') (hlt : g < B) : Byt w' g bs := (hb.block g hlt).trans h
theorem Byt.rd (h : Byt w g bs) {off n : Nat} (hn : off + n ≤ bs.length) : RdB w (some ⟨g, off, none⟩) n ((bs.drop off).take n) := by
  refine ⟨by simp; omega, fun _ => ⟨g, off, rfl, h.lt, fun i hi => ?_⟩⟩
  have hi' : off + i < bs.length := by simp at hi; omega
  rw [h.cell hi']
  simp
theorem Byt.rd0 (h : Byt w g bs) : RdB w (some ⟨g, 0, none⟩) bs.length bs := by
  have := h.rd (off := 0) (n := bs.length) (by omega)
  simpa using this
theorem Byt.own (h : Byt w g bs) {base : Nat} (hb : base ≤ g) (hl : bs.length ≤ maxLen) : w.ownsRow base 5 1 (.slice (some ⟨g, 0, none⟩) bs.length bs.length) bs.length (bs.map u8) :=
  own_blk h hb (by simp only [cellsB]; rw [List.take_of_length_le (by simp)]) (by simp) (by simp [cellsB]) hl
end

theorem gr_undrew {a w : World} {row : Option Nat} (h : a.drew.grownBy w row) : a.grownBy w row := ⟨h.os, h.tape, h.output, h.size, h.block⟩
theorem bl_undrew {B : Nat} {a w : World} (h : Below B a.drew w) : Below B a w := ⟨h.os, h.tape, h.output, h.size, h.block⟩
theorem only_drewN {a w : World} {row : Option Nat} (h : a.grownBy w row) (n : Nat) : a.grownBy (w.drewN n) row := ⟨h.os, h.tape, h.output, h.size, h.block⟩
theorem only_drew {a w : World} {row : Option Nat} (h : a.grownBy w row) : a.grownBy w.drew row := ⟨h.os, h.tape, h.output, h.size, h.block⟩
theorem only_alloc {a w : World} {row : Option Nat} (h : a.grownBy w row) (o : Obj) : a.grownBy (w.alloc o) row :=
  ⟨h.os, h.tape, h.output, Nat.le_trans h.size (by simp), fun i hi hne => (Below.heap_alloc w o i (Nat.lt_of_lt_of_le hi h.size)).trans (h.block i hi hne)⟩
theorem only_set {a w : World} {g : Nat} (h : a.grownBy w (some g)) {p : Addr} (hp : p.block = g ∨ a.heap.size ≤ p.block) (u : Value) : a.grownBy (w.setCell p u) (some g) :=
  ⟨h.os, h.tape, h.output, by simpa [World.setCell] using h.size, fun i hi hne => (Below.heap_setCell w p u i (by
    rintro rfl
    rcases hp with hp | hp
    · exact hne (by rw [hp])
    · omega)).trans (h.block i hi hne)⟩
theorem only_trans {a b c : World} {row : Option Nat} (h : a.grownBy b row) (k : b.grownBy c row) : a.grownBy c row :=
  ⟨k.os.trans h.os, k.tape.trans h.tape, k.output.trans h.output, Nat.le_trans h.size k.size, fun i hi hne => (k.block i (Nat.lt_of_lt_of_le hi h.size) hne).trans (h.block i hi hne)⟩
theorem only_of_below {a w : World} (h : Below a.heap.size a w) (row : Option Nat) : a.grownBy w row := ⟨h.os, h.tape, h.output, h.size, fun i hi _ => h.block i hi⟩
theorem below_of_only {a w : World} {g B : Nat} (h : a.grownBy w (some g)) (hg : B ≤ g) (hB : B ≤ a.heap.size) : Below B a w :=
  ⟨h.os, h.tape, h.output, h.size, fun i hi => h.block i (by omega) (fun e => by cases e; omega)⟩

/-! ### little-endian -/
def leN : Nat → Nat → List UInt8
  | 0, _ => []
  | k + 1, u => leN k u ++ [UInt8.ofNat (u / 256 ^ k)]
theorem leN_length (k u : Nat) : (leN k u).length = k := by
  induction k with
  | zero => rfl
  | succ k ih => simp [leN, ih]
theorem ofNat_val (x : Int) (n : Nat) (h : x = ((n % 256 : Nat) : Int)) : (.int .u8 x : Value) = .int .u8 ((UInt8.ofNat n).toNat : Int) := by
  subst h
  simp
end Go.Proofs.YthfidlhefkjpdaaGreatDoor

namespace Go.Proofs.YthfidlhefkjpdaaGreatDoor
open Go.RowKit

def Blk (w : World) (g : Nat) (t : TypeId) (cs : Array Value) : Prop := w.heap[g]? = some (.cells cs t (0, 0))
section
variable {w w' : World} {g : Nat} {t : TypeId} {cs : Array Value}
theorem Blk.lt (h : Blk w g t cs) : g < w.heap.size := (Array.getElem?_eq_some_iff.1 h).1
theorem Blk.cell (h : Blk w g t cs) (i : Nat) : w.cell? ⟨g, i, none⟩ = cs[i]? := by
  unfold World.cell?
  rw [show w.heap[g]? = _ from h]
  rfl
theorem Blk.frozen (h : Blk w g t cs) (i : Nat) : w.frozen? ⟨g, i, none⟩ = false := by
  unfold World.frozen?
  rw [show w.heap[g]? = _ from h]
  simp
theorem Blk.new (w : World) (t : TypeId) (cs : Array Value) : Blk (w.alloc (.cells cs t)) w.heap.size t cs := alloc_new w _
theorem Blk.set_ (h : Blk w g t cs) (i : Nat) (u : Value) : Blk (w.setCell ⟨g, i, none⟩ u) g t (cs.setIfInBounds i u) := by
  unfold Blk at h ⊢
  simp [World.setCell, Array.getElem?_modify, h]
theorem Blk.far (h : Blk w g t cs) {p : Addr} (hp : g ≠ p.block) (u : Value) : Blk (w.setCell p u) g t cs := (Below.heap_setCell w p u g hp).trans h
theorem Blk.below {B : Nat} (h : Blk w g t cs) (hb : Below B w w') (hg : g < B) : Blk w' g t cs := (hb.block g hg).trans h
theorem Blk.only {row : Option Nat} (h : Blk w g t cs) (hb : w.grownBy w' row) (hg : some g ≠ row) : Blk w' g t cs := (hb.block g h.lt hg).trans h
theorem Blk.ne_ {g' : Nat} {t' : TypeId} {cs' : Array Value} (h : Blk w g t cs) (h' : Blk w g' t' cs') (hne : t ≠ t') : g ≠ g' := by
  rintro rfl
  unfold Blk at h h'
  rw [h] at h'
  injection h' with h'
  injection h' with _ ht
  exact hne ht
theorem Blk.own_ne {base : Nat} {e : TypeId} {size n : Nat} {v : Value} {xs : List Value} (hg : Blk w g t cs) (h : w.ownsRow base e size v n xs) (hne : e ≠ t) : some g ≠ v.ownBlock := by
  rcases h.2 with ⟨rfl, _⟩ | ⟨g', cap, cur, rfl, _, hh, _⟩
  · simp [Value.ownBlock]
  · intro he
    have : g = g' := by simpa [Value.ownBlock] using he
    subst this
    exact Blk.ne_ (t := e) hh hg hne rfl
end

structure Pg where
  lsn : Int
  kind : UInt8
  extra : Nat
  items : List (List UInt8)

def tot (xs : List (List UInt8)) : Nat := (xs.map List.length).sum
theorem tot_nil : tot [] = 0 := rfl
theorem tot_cons (x : List UInt8) (r : List (List UInt8)) : tot (x :: r) = x.length + tot r := by simp [tot]
theorem tot_append (a b : List (List UInt8)) : tot (a ++ b) = tot a + tot b := by simp [tot]
theorem tot_snoc (a : List (List UInt8)) (x : List UInt8) : tot (a ++ [x]) = tot a + x.length := by simp [tot]
theorem tot_take_succ {xs : List (List UInt8)} {k : Nat} (h : k < xs.length) : tot (xs.take (k + 1)) = tot (xs.take k) + xs[k].length := by
  rw [take_snoc _ _ h, tot_snoc]
theorem tot_take_le (xs : List (List UInt8)) (k : Nat) : tot (xs.take k) ≤ tot xs := by
  have := tot_append (xs.take k) (xs.drop k)
  rw [List.take_append_drop] at this
  omega

structure Pg.wf (p : Pg) : Prop where
  lsn0 : 0 ≤ p.lsn
  lsn1 : p.lsn ≤ 9223372036854775807
  extra : p.extra < 4294967296
  slots : p.items.length ≤ 100
  item : ∀ x ∈ p.items, x.length ≤ 200
  used : 18 + 2 * p.items.length + tot p.items ≤ 512

/-- What a step may have turned: the blocks of T, and new ones. -/
structure Fr (T : Nat → Prop) (w w' : World) : Prop where
  os : w'.os = w.os
  tape : w'.tape = w.tape
  output : w'.output = w.output
  size : w.heap.size ≤ w'.heap.size
  block : ∀ b, b < w.heap.size → ¬ T b → w'.heap[b]? = w.heap[b]?

theorem Fr.refl (T : Nat → Prop) (w : World) : Fr T w w := ⟨rfl, rfl, rfl, Nat.le_refl _, fun _ _ _ => rfl⟩
theorem Fr.trans {T T' : Nat → Prop} {a b c : World} (h : Fr T a b) (k : Fr T' b c) (hT : ∀ x, x < a.heap.size → T' x → T x) : Fr T a c :=
  ⟨k.os.trans h.os, k.tape.trans h.tape, k.output.trans h.output, Nat.le_trans h.size k.size, fun x hx hn => (k.block x (Nat.lt_of_lt_of_le hx h.size) (fun ht => hn (hT x hx ht))).trans (h.block x hx hn)⟩
theorem Fr.mono {T T' : Nat → Prop} {a b : World} (h : Fr T a b) (hT : ∀ x, x < a.heap.size → T x → T' x) : Fr T' a b :=
  ⟨h.os, h.tape, h.output, h.size, fun x hx hn => h.block x hx (fun ht => hn (hT x hx ht))⟩
theorem Fr.of_only {w w' : World} {g : Nat} (h : w.grownBy w' (some g)) : Fr (· = g) w w' := ⟨h.os, h.tape, h.output, h.size, fun b hb hn => h.block b hb (fun e => hn (by injection e))⟩
theorem Fr.of_below {w w' : World} (h : Below w.heap.size w w') (T : Nat → Prop) : Fr T w w' := ⟨h.os, h.tape, h.output, h.size, fun b hb _ => h.block b hb⟩
theorem Fr.below {T : Nat → Prop} {w w' : World} {B : Nat} (h : Fr T w w') (hB : B ≤ w.heap.size) (hT : ∀ x, T x → B ≤ x) : Below B w w' :=
  ⟨h.os, h.tape, h.output, h.size, fun b hb => h.block b (by omega) (fun ht => by have := hT b ht; omega)⟩
theorem Fr.alloc {T : Nat → Prop} {a w : World} (h : Fr T a w) (o : Obj) : Fr T a (w.alloc o) :=
  ⟨h.os, h.tape, h.output, Nat.le_trans h.size (by simp), fun b hb hn => (Below.heap_alloc w o b (Nat.lt_of_lt_of_le hb h.size)).trans (h.block b hb hn)⟩
theorem Fr.drew {T : Nat → Prop} {a w : World} (h : Fr T a w) : Fr T a w.drew := ⟨h.os, h.tape, h.output, h.size, h.block⟩
theorem Fr.drewN {T : Nat → Prop} {a w : World} (h : Fr T a w) (n : Nat) : Fr T a (w.drewN n) := ⟨h.os, h.tape, h.output, h.size, h.block⟩
theorem Fr.set {T : Nat → Prop} {a w : World} (h : Fr T a w) {p : Addr} (hp : T p.block ∨ a.heap.size ≤ p.block) (u : Value) : Fr T a (w.setCell p u) :=
  ⟨h.os, h.tape, h.output, by simpa [World.setCell] using h.size, fun b hb hn => (Below.heap_setCell w p u b (by
    rintro rfl
    rcases hp with hp | hp
    · exact hn hp
    · omega)).trans (h.block b hb hn)⟩

theorem Blk.fr {w w' : World} {T : Nat → Prop} {g : Nat} {t : TypeId} {cs : Array Value} (h : Blk w g t cs) (hf : Fr T w w') (hg : ¬ T g) : Blk w' g t cs := (hf.block g h.lt hg).trans h
theorem Byt.fr {w w' : World} {T : Nat → Prop} {g : Nat} {bs : List UInt8} (h : Byt w g bs) (hf : Fr T w w') (hg : ¬ T g) : Byt w' g bs := (hf.block g h.lt hg).trans h
theorem own_fr {w w' : World} {T : Nat → Prop} {base size n : Nat} {e : TypeId} {v : Value} {xs : List Value} (h : w.ownsRow base e size v n xs) (hf : Fr T w w') (hg : ∀ g, v.ownBlock = some g → ¬ T g) : w'.ownsRow base e size v n xs := by
  obtain ⟨hl, h | ⟨g, cap, cur, rfl, hgb, hb, r⟩⟩ := h
  · exact ⟨hl, .inl h⟩
  · exact ⟨hl, .inr ⟨g, cap, cur, rfl, hgb, (hf.block g (Array.getElem?_eq_some_iff.1 hb).1 (hg g rfl)).trans hb, r⟩⟩

/-- The type of a block. -/
def Ty (w : World) (g : Nat) (t : TypeId) : Prop := ∃ cs fr, w.heap[g]? = some (.cells cs t fr)
theorem Blk.ty {w : World} {g : Nat} {t : TypeId} {cs : Array Value} (h : Blk w g t cs) : Ty w g t := ⟨_, _, h⟩
theorem Ty.ne {w : World} {g : Nat} {t t' : TypeId} (h : Ty w g t) (h' : Ty w g t') (hne : t ≠ t') : False := by
  obtain ⟨a, b, h⟩ := h
  obtain ⟨c, d, h'⟩ := h'
  rw [h] at h'
  injection h' with h'
  injection h' with _ ht
  exact hne ht
theorem own_ty {w : World} {base size n g : Nat} {e : TypeId} {v : Value} {xs : List Value} (h : w.ownsRow base e size v n xs) (hg : v.ownBlock = some g) : Ty w g e := by
  obtain ⟨_, ⟨rfl, _⟩ | ⟨g', cap, cur, rfl, _, hb, _⟩⟩ := h
  · cases hg
  · cases hg
    exact ⟨_, _, hb⟩

/-- The slices vs are rows that read as the texts. -/
def Rows (w : World) (base : Nat) (vs : List Value) (xs : List (List UInt8)) : Prop :=
  vs.length = xs.length ∧ ∀ i (h : i < xs.length), ∃ v, vs[i]? = some v ∧ w.ownsRow base 5 1 v xs[i].length (xs[i].map u8)

theorem Rows.nil (w : World) (base : Nat) : Rows w base [] [] := ⟨rfl, fun i h => absurd h (by simp)⟩
theorem Rows.fr {w w' : World} {base : Nat} {T : Nat → Prop} {vs : List Value} {xs : List (List UInt8)} (h : Rows w base vs xs) (hf : Fr T w w') (hT : ∀ g, base ≤ g → Ty w g 5 → ¬ T g) : Rows w' base vs xs :=
  ⟨h.1, fun i hi => by
    obtain ⟨v, h1, h2⟩ := h.2 i hi
    exact ⟨v, h1, own_fr h2 hf (fun g hg => hT g (h2.lt g hg).1 (own_ty h2 hg))⟩⟩
theorem Rows.below {w w' : World} {base : Nat} {vs : List Value} {xs : List (List UInt8)} (h : Rows w base vs xs) (hf : Below w.heap.size w w') : Rows w' base vs xs :=
  h.fr (Fr.of_below hf (fun _ => False)) (fun _ _ _ h => h)
theorem Rows.mono {w : World} {base b : Nat} {vs : List Value} {xs : List (List UInt8)} (h : Rows w base vs xs) (hb : b ≤ base) : Rows w b vs xs :=
  ⟨h.1, fun i hi => by
    obtain ⟨v, h1, h2⟩ := h.2 i hi
    exact ⟨v, h1, own_mono h2 hb⟩⟩
theorem Rows.snoc {w : World} {base : Nat} {vs : List Value} {xs : List (List UInt8)} (h : Rows w base vs xs) {v : Value} {x : List UInt8} (hR : w.ownsRow base 5 1 v x.length (x.map u8)) :
    Rows w base (vs ++ [v]) (xs ++ [x]) := by
  refine ⟨by simp [h.1], fun i hi => ?_⟩
  by_cases hlt : i < xs.length
  · obtain ⟨B, h1, h2⟩ := h.2 i hlt
    rw [List.getElem_append_left hlt]
    exact ⟨B, by rw [List.getElem?_append_left (by rw [h.1]; exact hlt)]; exact h1, h2⟩
  · have e : i = xs.length := by simp at hi; omega
    subst e
    refine ⟨v, ?_, ?_⟩
    · rw [List.getElem?_append_right (by rw [h.1]; exact Nat.le_refl _), h.1]; simp
    · simpa using hR

/-- Block g is a page; its blocks lie from base on. -/
def PageAt (w : World) (base g : Nat) (p : Pg) : Prop :=
  base ≤ g ∧ ∃ v vs, Blk w g 138 #[.int .i64 p.lsn, .int .u8 (p.kind.toNat : Int), .int .u32 (p.extra : Int), v] ∧ w.ownsRow base 43 1 v p.items.length vs ∧ Rows w base vs p.items

theorem own_form {w : World} {base n : Nat} {e : TypeId} {v : Value} {xs : List Value} (h : w.ownsRow base e 1 v n xs) :
    ∃ A cap, v = .slice A n cap ∧ n ≤ cap ∧ cap ≤ maxLen ∧ (0 < n → ∃ g, A = some ⟨g, 0, none⟩ ∧ base ≤ g ∧ g < w.heap.size ∧ ∀ i, i < n → w.cell? ⟨g, i, none⟩ = xs[i]?) := by
  have hh := h
  obtain ⟨hl, ⟨rfl, rfl⟩ | ⟨g, cap, cur, rfl, hg, hb, hn, hc, hs, ht⟩⟩ := h
  · exact ⟨none, 0, rfl, Nat.le_refl _, Nat.zero_le _, fun h => absurd h (Nat.lt_irrefl 0)⟩
  · refine ⟨_, cap, rfl, hn, hc, fun _ => ⟨g, rfl, hg, (Array.getElem?_eq_some_iff.1 hb).1, fun i hi => ?_⟩⟩
    rw [hh.cellAt i (by omega)]
theorem PageAt.fr {w w' : World} {T : Nat → Prop} {base g : Nat} {p : Pg} (h : PageAt w base g p) (hf : Fr T w w') (hg : ¬ T g) (h1 : ∀ b, Ty w b 43 → ¬ T b) (h2 : ∀ b, Ty w b 5 → ¬ T b) : PageAt w' base g p := by
  obtain ⟨hb, v, vs, hB, hO, hR⟩ := h
  exact ⟨hb, v, vs, hB.fr hf hg, own_fr hO hf (fun b hb => h1 b (own_ty hO hb)), hR.fr hf (fun b _ => h2 b)⟩
/-- What is turned lies below the page's blocks. -/
theorem PageAt.far {w w' : World} {T : Nat → Prop} {base g : Nat} {p : Pg} (h : PageAt w base g p) (hf : Fr T w w') (hT : ∀ b, T b → b < base) : PageAt w' base g p := by
  obtain ⟨hb, v, vs, hB, hO, hR⟩ := h
  exact ⟨hb, v, vs, hB.fr hf (fun h => by have := hT _ h; omega), own_fr hO hf (fun b hb h => by have := hT _ h; have := (hO.lt b hb).1; omega), hR.fr hf (fun b hb _ h => by have := hT _ h; omega)⟩
theorem PageAt.mono {w : World} {base b g : Nat} {p : Pg} (h : PageAt w base g p) (hb : b ≤ base) : PageAt w b g p := by
  obtain ⟨h1, v, vs, hB, hO, hR⟩ := h
  exact ⟨Nat.le_trans hb h1, v, vs, hB, own_mono hO hb, hR.mono hb⟩
theorem PageAt.below {w w' : World} {base g : Nat} {p : Pg} (h : PageAt w base g p) (hf : Below w.heap.size w w') : PageAt w' base g p :=
  h.fr (Fr.of_below hf (fun _ => False)) (fun h => h) (fun _ _ h => h) (fun _ _ h => h)
theorem PageAt.ty {w : World} {base g : Nat} {p : Pg} (h : PageAt w base g p) : Ty w g 138 := by
  obtain ⟨_, v, vs, hB, _⟩ := h
  exact hB.ty
end Go.Proofs.YthfidlhefkjpdaaGreatDoor

namespace Go.Proofs.YthfidlhefkjpdaaGreatDoor
open Go.RowKit

theorem step_any (s : Nat) (w : World) (h : s < 4294967296) : Calls Tryz.prog 141 #[.int .u32 (s : Int)] w fun e w' => e = .returned (.int .u32 (crcStep s : Int)) ∧ w = w' := by
  have hB := hid (crcStep_bits s h)
  go_enter Tryz.func141, Tryz.ntmps141
  go_wp2
  go_ret
  exact ⟨by rw [← hB.out]; rfl, rfl⟩

set_option maxRecDepth 100000 in
set_option maxHeartbeats 400000 in
theorem sum_any (g : Nat) (A : Option Addr) (n c : Nat) (bs : List UInt8) (w : World) (hg : w.cell? ⟨g, 0, none⟩ = some (.slice A n c)) (hR : RdB w A n bs) (hn : n ≤ 140737488355328) :
    Calls Tryz.prog 110 #[.slice (some ⟨g, 0, none⟩) 1 1] w fun e w' => e = .returned (.int .u32 (crcOf bs : Int)) ∧ w = w' := by
  have hl := hid hR.1
  go_enter Tryz.func110, Tryz.ntmps110
  go_wp2
  go_loopg [3, 10] 1 (fun q s i wr => wr = w ∧ ((i = .int .i64 0 ∧ q = 1 ∧ s = .int .u32 4294967295) ∨ (i = .int .i64 1 ∧ q = 0 ∧ s = .int .u32 (crcFold 4294967295 bs : Int))))
  case atStart => exact ⟨rfl, .inl ⟨rfl, rfl, rfl⟩⟩
  case round =>
    obtain ⟨rfl, ⟨rfl, hq, rfl⟩ | ⟨rfl, hq, rfl⟩⟩ := hrel
    · go_wp2
      go_loopg [3, 16] n (fun q s i wo => wo = wr ∧ ∃ k, k + q = n ∧ i = .int .i64 (k : Nat) ∧ s = .int .u32 (crcFold 4294967295 (bs.take k) : Int))
      case atStart => exact ⟨rfl, 0, by omega, rfl, by simp [crcFold]⟩
      case round =>
        obtain ⟨rfl, k, hk, rfl, rfl⟩ := hrel
        by_cases hkn : k < n
        · obtain ⟨b, o, rfl, hb, hkb, hcell⟩ := hR.get hkn
          have hF : crcFold 4294967295 (bs.take k) < 4294967296 := crcFold_lt (by omega) _
          have hx := u32_xor_nat _ bs[k].toNat hF (by have := bs[k].toNat_lt; omega)
          have hc256 : bs[k].toNat < 256 := bs[k].toNat_lt
          go_wp2
          go_loopg [3, 24] 8 (fun q s i wi => wi = wr ∧ ∃ j, j + q = 8 ∧ i = .int .i64 (j : Nat) ∧ s = .int .u32 (crcIter j (crcFold 4294967295 (bs.take k) ^^^ bs[k].toNat) : Int))
          case atStart => exact ⟨rfl, 0, by omega, rfl, rfl⟩
          case round =>
            obtain ⟨rfl, j, hj, rfl, rfl⟩ := hrel
            have hJ : crcIter j (crcFold 4294967295 (bs.take k) ^^^ bs[k].toNat) < 4294967296 := crcIter_lt (xor_lt32 hF (by omega)) j
            by_cases hj8 : j < 8
            · go_wp2_with fail
              refine (step_any _ _ hJ).mono ?_
              rintro e w' ⟨rfl, rfl⟩
              go_wp2
              go_roundg (7 - j)
              case rel => exact ⟨rfl, j + 1, by omega, by go_num, rfl⟩
              case measure => omega
            · obtain rfl : j = 8 := by omega
              go_wp2
              go_roundg (n - 1 - k)
              case rel => exact ⟨rfl, k + 1, by omega, by go_num, by rw [take_snoc _ _ hkb, crcFold_snoc]; rfl⟩
              case measure => omega
        · obtain rfl : k = n := by omega
          go_wp2
          go_roundg 0
          case rel => exact ⟨rfl, .inr ⟨rfl, rfl, by rw [List.take_of_length_le (by have := hl.out; omega)]⟩⟩
          case measure => omega
    · have hlt := crcFold_lt (by omega : 4294967295 < 4294967296) bs
      go_wp2
      go_ret
      refine ⟨?_, rfl⟩
      have := u32_xor_nat 4294967295 (crcFold 4294967295 bs) (by omega) hlt
      exact congrArg (fun x => Ending.returned (.int .u32 x)) this

def byteAt (s k : Nat) : Nat := s / 256 ^ k % 256
theorem head_any (s : Nat) (w : World) (h : s < 4294967296) : Calls Tryz.prog 109 #[.int .u32 (s : Int)] w fun e w' =>
    e = .returned (.agg #[.int .u8 (s % 256 : Nat), .int .u8 (s / 256 % 256 : Nat), .int .u8 (s / 65536 % 256 : Nat), .int .u8 (s / 16777216 : Nat)]) ∧ Below w.heap.size w w' := by
  go_enter Tryz.func109, Tryz.ntmps109
  go_wp2
  refine bodyPost_ret (v := .agg #[.int .u8 (s % 256 : Nat), .int .u8 (s / 256 % 256 : Nat), .int .u8 (s / 65536 % 256 : Nat), .int .u8 (s / 16777216 : Nat)]) (by simp [results, Tryz.results109, go_sem]) rfl ⟨rfl, ?_⟩
  exact ((Below.refl _ _).alloc (Nat.le_refl _) _)

end Go.Proofs.YthfidlhefkjpdaaGreatDoor
