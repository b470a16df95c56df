/- The walks of package crc: Seal.
   Sectors: the laws of a whole sector as a value.
   Own layer over the kit's maps: a map block keyed by an int, seen as a function from numbers to values, at every element type.
   A disk in memory.
   slices.Backward over no fates; disk.step where nothing is planned.
   A region that draws its order and only reads, in a round of a range over a function: one order serves all. -/
import Derived.Test.YthfidlhefkjpdaaGreatDoorTaa
import Derived.Deep.RegionLaw
import Derived.Deep.AppendLies
import Derived.Deep.WholeRow
import Derived.Deep.MidRow
import Derived.WalkKit
import Derived.WalkSpells
import Derived.Maps.OwnSet
import Derived.Maps.AppendAt
import Derived.OwnWalkIn
import Derived.Sort.BigQuietIn
import Derived.Shelf.RegionOpen
namespace Go.Proofs.YthfidlhefkjpdaaGreatDoor
open Go.RowKit

def le4 (s : Nat) : List UInt8 := [UInt8.ofNat s, UInt8.ofNat (s / 256), UInt8.ofNat (s / 65536), UInt8.ofNat (s / 16777216)]
def sealB (bs : List UInt8) : List UInt8 := le4 (crcOf bs) ++ bs

theorem info5 : (Tryz.prog.info? 5).map (fun i => (i.zero, i.size, i.bytes)) = some (some (.int .u8 0), 1, 1) := by kernel_rfl

theorem bcell {B : Nat} {W w1 : World} (hb : Below B W w1) : (∀ b o, b < B → w1.cell? ⟨b, o, none⟩ = W.cell? ⟨b, o, none⟩) ∧ (∀ b o, b < B → w1.frozen? ⟨b, o, none⟩ = W.frozen? ⟨b, o, none⟩) :=
  ⟨fun b o h => hb.cell (p := ⟨b, o, none⟩) h, fun b o h => hb.frozen (p := ⟨b, o, none⟩) h⟩

theorem le4_cells (s : Nat) (h : s < 4294967296) : (le4 s).map u8 = [.int .u8 ((s : Int) % 256), .int .u8 ((s : Int) / 256 % 256), .int .u8 ((s : Int) / 65536 % 256), .int .u8 ((s : Int) / 16777216)] := by
  simp only [le4, u8, List.map_cons, List.map_nil, UInt8.toNat_ofNat', Nat.reducePow]
  simp only [List.cons.injEq, Value.int.injEq, true_and, and_true]
  refine ⟨?_, ?_, ?_, ?_⟩ <;> omega

theorem news_blk {w : World} {g : Nat} {cs : Array Value} {t : TypeId} {fr : Nat × Nat} (h : w.heap[g]? = some (.cells cs t fr)) : ∀ (j : Nat) (u : Value), cs.toList[j]? = some u → w.cell? ((⟨g, 0, none⟩ : Addr).add j) = some u := by
  intro j u hu
  rw [Addr.add_lit, Nat.zero_add]
  simp [World.cell?, h]
  simpa using hu

theorem u8_one (bs : List UInt8) : ∀ u ∈ bs.map u8, u.oneCell' = true := by
  intro u hu
  rw [List.mem_map] at hu
  obtain ⟨c, _, rfl⟩ := hu
  rfl

theorem RdB.news {w : World} {A : Option Addr} {n : Nat} {bs : List UInt8} (h : RdB w A n bs) (hn : 0 < n) :
    ∃ ad, A = some ad ∧ ∀ w', Below w.heap.size w w' → ∀ (j : Nat) (u : Value), (bs.map u8)[j]? = some u → w'.cell? (ad.add j) = some u := by
  obtain ⟨b, o, rfl, hb, hc⟩ := h.2 hn
  refine ⟨_, rfl, fun w' hB j u hu => ?_⟩
  rw [List.getElem?_map] at hu
  have hj : j < bs.length := by
    rcases Nat.lt_or_ge j bs.length with h | h
    · exact h
    · rw [List.getElem?_eq_none h] at hu; cases hu
  rw [List.getElem?_eq_getElem hj] at hu
  cases hu
  rw [Addr.add_lit]
  exact (hB.cell (p := ⟨b, o + j, none⟩) hb).trans (hc j hj)

set_option maxRecDepth 100000 in
set_option maxHeartbeats 400000 in
theorem seal_any (A : Option Addr) (n c : Nat) (bs : List UInt8) (w : World) (hR : RdB w A n bs) (hn : n ≤ 140737488350000) (hn0 : 0 < n) :
    Calls Tryz.prog 72 #[.slice A n c] w fun e w' => ∃ g cap, e = .returned (.slice (some ⟨g, 0, none⟩) (n + 4) cap) ∧ w'.ownsRow w.heap.size 5 1 (.slice (some ⟨g, 0, none⟩) (n + 4) cap) (n + 4) ((sealB bs).map u8) ∧ Below w.heap.size w w' := by
  obtain ⟨ad, rfl, hcells⟩ := hR.news hn0
  have hl := hid hR.1
  obtain ⟨i0, hi0, hz0, hz1, hz2⟩ := info_parts info5
  go_enter Tryz.func72, Tryz.ntmps72
  go_wp2_with fail
  refine (sum_any w.heap.size _ n c bs _ (cell_one_new _ _ _ 0 _ rfl) (hR.below ((Below.refl _ _).alloc (Nat.le_refl _) _)) (by omega)).mono ?_
  rintro e w' ⟨rfl, rfl⟩
  go_wp2_with fail
  refine (head_any _ _ (crcOf_lt bs)).mono ?_
  rintro e w1 ⟨rfl, hb1⟩
  go_wp2_with fail
  have hmk := run_make_two (P := Tryz.prog) 43 5 i0 _ Tryz.underlying43 hi0 hz0 hz1 0 (n + 4) 0 (IntKind.i64.wrap ((n : Int) + 4)) rfl (by rw [wrap_nat (by omega) (by omega)]; rfl) (by omega) (by rw [hz2]; omega) (by omega)
  have L := hid (le4_cells (crcOf bs) (crcOf_lt bs))
  have hw1 : w.heap.size + 1 ≤ w1.heap.size := by have := hb1.size; simpa using this
  have HB : Aside (Below w.heap.size w w1) := ⟨(bl_alloc (Below.refl _ _) _).trans (hb1.mono (by simp))⟩
  clear hb1
  go_region_law (first
    | ((refine step_append_lies (o := ⟨some 13, _, _, _, _, _⟩) _ (by rfl) _ _ _ (by rfl) w.heap.size 5 i0 _ 1 1 Tryz.underlying43 hi0 hz0 hz1 hz2 rfl (by omega) (.slice (some ⟨w1.heap.size + 1, 0, none⟩) 0 (n + 4)) 0 [] (by rfl) ?hb ⟨w1.heap.size, 0, none⟩ 4 4 [.int .u8 ((crcOf bs : Int) % 256), .int .u8 ((crcOf bs : Int) / 256 % 256), .int .u8 ((crcOf bs : Int) / 65536 % 256), .int .u8 ((crcOf bs : Int) / 16777216)] (by rfl) (by rfl) ?hc ?hd (by omega) (by unfold maxLen; omega) (by omega) ?he (w1.heap.size + 2) ?hf ?_)
       (case hb => refine own_blk (cs := madeCells #[.int .u8 0] (n + 4)) (heap_at1 w1 _ _) (by omega) rfl rfl (size_madeCells _ _) (by unfold maxLen; omega))
       (case hc => refine news_blk (cs := #[_, _, _, _]) (t := 171) (fr := (0, 0)) (heap_at0 w1 _ _))
       (case hd => simp [Value.oneCell'])
       (case he => simp; omega)
       (case hf => simp)
       intro g2 cap2 w2 hown2 hgrow2 hat2 hlt2
       have HB2 : Aside (Below w.heap.size w w2) := ⟨(bl_drew (bl_alloc (bl_alloc HB.out _) _)).grown hgrow2 (by simp; omega) (by rintro k e; cases e; simp; omega)⟩
       have hsz2 : w.heap.size ≤ w2.heap.size := HB2.out.size
       clear hgrow2)
    | ((refine step_append_lies (o := ⟨some 15, _, _, _, _, _⟩) _ (by rfl) _ _ _ (by rfl) w.heap.size 5 i0 _ 1 1 Tryz.underlying43 hi0 hz0 hz1 hz2 rfl (by omega) _ 4 _ (by rfl) hown2 ad n c (bs.map u8) (by rfl) (by rw [List.length_map, hl.out, Nat.mul_one]) ?hc2 ?hd2 (by omega) (by unfold maxLen; omega) (by omega) (by omega) w2.heap.size (by rfl) ?_)
       (case hc2 => exact hcells _ HB2.out)
       (case hd2 => exact u8_one bs)
       intro g3 cap3 w3 hown3 hgrow3 hat3 hlt3
       have HB3 : Aside (Below w.heap.size w w3) := ⟨HB2.out.grown hgrow3 hsz2 (by rintro k e; cases e; exact (hown2.lt _ rfl).1)⟩
       clear hgrow3))
  go_wp2
  go_ret
  refine ⟨g3, cap3, ?_, ?_, HB3.out⟩
  · rw [Nat.add_comm n 4]; rfl
  · rw [Nat.add_comm n 4, sealB, List.map_append, L.out]
    exact hown3

end Go.Proofs.YthfidlhefkjpdaaGreatDoor

namespace Go.Proofs.YthfidlhefkjpdaaGreatDoor
open Go.RowKit

theorem infoSec : (Tryz.prog.info? 113).map (fun i => (i.zero, i.size, i.bytes)) = some (some (.agg (cellsB (zeros 512))), 512, 512) := by kernel_rfl
theorem sizeSec : (Tryz.prog.info? 113).map (·.size) = some 512 := by kernel_rfl

theorem zeroSec (W : World) : (zeroValue 113).run Tryz.prog W = .ok (.agg (cellsB (zeros 512))) W := by
  obtain ⟨i0, hi0, hz0, hz1, hz2⟩ := info_parts infoSec
  simp [zeroValue, typeInfo, hi0, hz0]

theorem zcSec : Tryz.zeroCells113 = cellsB (zeros 512) := by kernel_rfl

theorem cellsB_size (bs : List UInt8) : (cellsB bs).size = bs.length := by simp [cellsB]
theorem cellsB_one (bs : List UInt8) : (cellsB bs).all (·.oneCell') = true := by
  rw [Array.all_eq_true_iff_forall_mem]
  intro v hv
  simp only [cellsB, List.mem_toArray] at hv
  exact u8_one bs v hv

/-- A sector into a block of a sector. -/
theorem storeSec (W : World) (g : Nat) (c : Array Value) (bs : List UInt8) (h : W.heap[g]? = some (.cells c 113 (0, 0))) (hc : c.size = 512) (hb : bs.length = 512) :
    (Instr.storeAt 113 (.pointer (some ⟨g, 0, none⟩)) (.agg (cellsB bs))).run Tryz.prog W = .ok () (W.setRow g (cellsB bs)) := by
  simp only [Instr.storeAt, Instr.sureAddr, Sem.run_bind, Sem.run_pure, Result.andThen]
  exact run_storeVar_row _ _ _ _ c _ h (by rw [cellsB_size, hb]; exact sizeSec) (by rw [cellsB_size, hb]; exact hc) (cellsB_one bs)

theorem loadSec (W : World) (g : Nat) (bs : List UInt8) (h : W.heap[g]? = some (.cells (cellsB bs) 113 (0, 0))) (hb : bs.length = 512) :
    (Instr.loadAt 113 (.pointer (some ⟨g, 0, none⟩))).run Tryz.prog W = .ok (.agg (cellsB bs)) W := by
  simp only [Instr.loadAt, Instr.sureAddr, Sem.run_bind, Sem.run_pure, Result.andThen]
  exact run_loadVar_row _ _ _ _ _ (0, 0) _ h Tryz.underlying113 rfl (by rw [cellsB_size, hb]; exact sizeSec)

theorem zc_size : Tryz.zeroCells113.size = 512 := by rw [zcSec, cellsB_size, zeros_length]
/-- A sector into the block that was made last, as the walk leaves it. -/
theorem stNew (W : World) (c : Array Value) (bs : List UInt8) (g : Nat) (hg : W.heap.size = g) (hc : c.size = 512) (hb : bs.length = 512) :
    (storeCells ⟨g, 0, none⟩ (cellsB bs).toList).run Tryz.prog (W.alloc (.cells c 113)) = .ok () (W.alloc (.cells (cellsB bs) 113)) := by
  subst hg
  exact run_storeCells_new W _ c (cellsB bs) (by rw [cellsB_size, hb]; exact sizeSec) (by rw [cellsB_size, hb]; exact hc) (cellsB_one bs)
/-- A sector out of a block of one. -/
theorem ldC (W : World) (g : Nat) (bs : List UInt8) (h : W.heap[g]? = some (.cells (cellsB bs) 113 (0, 0))) (hb : bs.length = 512) :
    (loadCells ⟨g, 0, none⟩ 512).run Tryz.prog W = .ok (cellsB bs) W := by
  have := run_loadCells_list (P := Tryz.prog) W ⟨g, 0, none⟩ (cellsB bs).toList (fun j v hv => by
    rw [Addr.add_lit, cell_of_row _ _ _ _ _ _ h]
    simpa using hv)
  simpa [cellsB_size, hb] using this
/-- A sector out of the midst of a row of sectors. -/
theorem ldM (W : World) (g o : Nat) (bs : List UInt8) (h : W.rangeAt g o (bs.map u8)) (hb : bs.length = 512) :
    (loadCells ⟨g, o, none⟩ 512).run Tryz.prog W = .ok (cellsB bs) W := by
  have := run_loadCells_list (P := Tryz.prog) W ⟨g, o, none⟩ (bs.map u8) (fun j v hv => by rw [Addr.add_lit]; exact h j v hv)
  simpa [cellsB, hb] using this

section
variable {ops : Array Oper} {rest : List Oper} {op : Oper} {a : Act} {w : World} {Q : Exit → Act → World → Prop}
/-- 's' read, s a sector wherever it lies. -/
theorem wpList_loadSec (hgd : op.guard = none) (x : Operand) (ho : op.op = .load 113 x) (b o : Nat) (hx : a.eval x = .pointer (some ⟨b, o, none⟩)) (bs : List UInt8)
    (hc : w.rangeAt b o (bs.map u8)) (hb : bs.length = 512) (h : wpList Tryz.prog ops Q rest (a.put op.dst (.agg (cellsB bs))) w) : wpList Tryz.prog ops Q (op :: rest) a w :=
  wpList_load_mid hgd 113 x ho b o hx (bs.map u8) _ hc Tryz.underlying113 rfl (by rw [List.length_map, hb]; exact sizeSec) h

theorem range_of_cells {W : World} {g off : Nat} {t : TypeId} {L bs : List UInt8} (h : W.heap[g]? = some (.cells (cellsB L) t (0, 0))) (hb : (L.drop off).take bs.length = bs) : W.rangeAt g off (bs.map u8) := by
  intro j v hv
  rw [cell_of_row _ _ _ _ _ _ h]
  rw [← hb, List.getElem?_map, List.getElem?_take, List.getElem?_drop] at hv
  split at hv
  · simp only [cellsB, List.getElem?_toArray, List.getElem?_map]
    exact hv
  · cases hv

theorem setCells_row (g : Nat) (t : TypeId) (bs : List UInt8) : ∀ (L : List UInt8) (off : Nat) (W : World), W.heap[g]? = some (.cells (cellsB L) t (0, 0)) → off + bs.length ≤ L.length →
    (W.setCells g off (bs.map u8)).heap[g]? = some (.cells (cellsB (splice L off bs)) t (0, 0)) ∧ Fr (· = g) W (W.setCells g off (bs.map u8)) := by
  induction bs with
  | nil => intro L off W h _; exact ⟨by rw [splice_nil]; exact h, Fr.refl _ _⟩
  | cons c r ih =>
    intro L off W h hl
    simp only [List.map_cons, World.setCells]
    have hl' : off < L.length := by simp at hl; omega
    have h1 : (W.setCell ⟨g, off, none⟩ (u8 c)).heap[g]? = some (.cells (cellsB (L.set off c)) t (0, 0)) := by
      simp only [World.setCell, Array.getElem?_modify, h, if_true, Option.map_some]
      congr 2
      simp only [cellsB, List.setIfInBounds_toArray, List.map_set]
      rfl
    obtain ⟨h2, h3⟩ := ih (L.set off c) (off + 1) _ h1 (by simp at hl ⊢; omega)
    refine ⟨?_, (Fr.set (p := ⟨g, off, none⟩) (Fr.refl (· = g) W) (.inl rfl) (u8 c)).trans h3 (fun _ _ h => h)⟩
    rw [h2]
    have e : splice (L.set off c) (off + 1) r = splice L off (c :: r) := by
      unfold splice
      rw [List.take_set, List.drop_set_of_lt (by omega)]
      rw [List.take_succ_eq_append_getElem hl', List.set_append_right _ _ (by simp; omega)]
      simp [List.length_take, Nat.min_eq_left (Nat.le_of_lt hl')]
      congr 1
      omega
    rw [e]

/-- .. as the walk leaves it. -/
theorem stMid (W : World) (g off : Nat) (L bs : List UInt8) (hg : W.heap[g]? = some (.cells (cellsB L) 113 (0, 0))) (hl : off + 512 ≤ L.length) (hb : bs.length = 512) :
    (storeCells ⟨g, off, none⟩ (cellsB bs).toList).run Tryz.prog W = .ok () (W.setCells g off (bs.map u8)) := by
  have := run_storeCells_cells (P := Tryz.prog) g off (bs.map u8) 0 W
    (fun j hj => by
      rw [Nat.add_zero, cell_of_row _ _ _ _ _ _ hg]
      simp [cellsB] at hj ⊢
      omega)
    (fun j hj => by
      unfold World.frozen?
      rw [show W.heap[g]? = _ from hg]
      simp)
    (u8_one bs)
  simpa [cellsB] using this

/-- 's = ..', s a sector in the midst of a row of sectors. -/
theorem wpList_storeSec (hgd : op.guard = none) (x y : Operand) (ho : op.op = .store 113 x y) (g off : Nat) (hx : a.eval x = .pointer (some ⟨g, off, none⟩)) (L bs : List UInt8) (hy : a.eval y = .agg (cellsB bs))
    (hg : w.heap[g]? = some (.cells (cellsB L) 113 (0, 0))) (hl : off + 512 ≤ L.length) (hb : bs.length = 512)
    (h : ∀ w', w'.heap[g]? = some (.cells (cellsB (splice L off bs)) 113 (0, 0)) → Fr (· = g) w w' → wpList Tryz.prog ops Q rest (a.put op.dst undef) w') : wpList Tryz.prog ops Q (op :: rest) a w := by
  obtain ⟨h1, h2⟩ := setCells_row g 113 bs L off w hg (by omega)
  refine wpList_store_mid hgd 113 x y ho g off (cellsB bs) hx hy ?_ (by rw [cellsB_size, hb]; exact sizeSec) (cellsB_one bs) ?_
  · intro j hj
    rw [cellsB_size, hb] at hj
    refine ⟨?_, ?_⟩
    · rw [cell_of_row _ _ _ _ _ _ hg]
      simp [cellsB]
      omega
    · unfold World.frozen?
      rw [show w.heap[g]? = _ from hg]
      simp
  · exact h _ h1 h2
end
end Go.Proofs.YthfidlhefkjpdaaGreatDoor

namespace Go.Proofs.YthfidlhefkjpdaaGreatDoor
open Go.RowKit Go.Maps

abbrev DV := DataW Value
def heldV (v : Value) : Option (DV × List MemPlace) := some (.held v, [])
def valAt (D : DV) (k : Int) : Option Value := match D.atKey (.int .i64 k) .nil with | .held v => some v | _ => none
def upd (m : Int → Option Value) (k : Int) (v : Value) : Int → Option Value := fun j => if j = k then some v else m j
def wf64 (k : Int) : Prop := -9223372036854775808 ≤ k ∧ k ≤ 9223372036854775807
theorem wf64_lit {k : Int} (h : wf64 k) : (Lit.int .i64 k).wf = true := by
  obtain ⟨h1, h2⟩ := h
  simp only [Lit.wf, Bool.and_eq_true, decide_eq_true_eq]
  exact ⟨h1, h2⟩

/-- Block b of w is a map keyed by ints (type kt) of at most n entries that holds m. -/
def MapAt (P : Program) (kt : TypeId) (w : World) (b n : Nat) (m : Int → Option Value) : Prop :=
  ∃ D : DV, w.ownsMap P kt heldV b n D ∧ (∀ k z, D.atKey (.int .i64 k) z = match m k with | some v => .held v | none => z) ∧ (∀ k, Maps.has D (.int .i64 k) = (m k).isSome)

variable {P : Program} {kt : TypeId} {w w' : World} {b n : Nat} {m : Int → Option Value}

theorem MapAt.made (P : Program) (kt : TypeId) (w : World) : MapAt P kt (w.alloc (.map #[] 0)) w.heap.size 0 (fun _ => none) :=
  ⟨.map [], World.ownsMap_made _ _ _ _, fun _ _ => rfl, fun _ => rfl⟩

theorem MapAt.lt (h : MapAt P kt w b n m) : b < w.heap.size := by
  obtain ⟨D, h1, _⟩ := h
  exact h1.lt

theorem MapAt.mono {n' : Nat} (h : MapAt P kt w b n m) (hn : n ≤ n') : MapAt P kt w b n' m := by
  obtain ⟨D, h1, h2⟩ := h
  exact ⟨D, h1.mono hn, h2⟩

theorem MapAt.kept {row : Option Nat} (h : MapAt P kt w b n m) (hg : w.grownBy w' row) (hne : some b ≠ row) : MapAt P kt w' b n m := by
  obtain ⟨D, h1, h2⟩ := h
  exact ⟨D, h1.kept hg hne, h2⟩

theorem MapAt.block (h : MapAt P kt w b n m) (hb : w'.heap[b]? = w.heap[b]?) : MapAt P kt w' b n m := by
  obtain ⟨D, ⟨es, c, h1, h3⟩, h2⟩ := h
  exact ⟨D, ⟨es, c, hb.trans h1, h3⟩, h2⟩

theorem MapAt.below {B : Nat} (h : MapAt P kt w b n m) (hb : Below B w w') (hlt : b < B) : MapAt P kt w' b n m := h.block (hb.block b hlt)

theorem MapAt.alloc (h : MapAt P kt w b n m) (o : Obj) : MapAt P kt (w.alloc o) b n m := h.kept (World.grownBy_alloc w o none) (by simp)

theorem MapAt.look {t e : TypeId} (h : MapAt P kt w b n m) (hk : P.underlying kt = some (.int .i64)) (ht : P.underlying t = some (.map kt e)) {z : Value} (hz : (zeroValue e).run P w = .ok z w) {k : Int} (hwf : wf64 k) :
    (Instr.lookup t (.map (some b)) (.int .i64 k) false).run P w = .ok ((m k).getD z) w := by
  obtain ⟨D, h1, h2, h3⟩ := h
  obtain ⟨v, ps, hrun, hv⟩ := h1.lookup (int_keyed hk) ht hz (zd := .held z) (zp := []) rfl (keyOf_int_mk hk (wf64_lit hwf))
  rw [hrun]
  rw [h2] at hv
  simp only [heldV] at hv
  cases hm : m k <;> rw [hm] at hv <;> simp at hv <;> rw [hv.1] <;> rfl

theorem MapAt.look_ok {t e : TypeId} (h : MapAt P kt w b n m) (hk : P.underlying kt = some (.int .i64)) (ht : P.underlying t = some (.map kt e)) {z : Value} (hz : (zeroValue e).run P w = .ok z w) {k : Int} (hwf : wf64 k) :
    (Instr.lookup t (.map (some b)) (.int .i64 k) true).run P w = .ok (.tuple #[(m k).getD z, .bool (m k).isSome]) w := by
  obtain ⟨D, h1, h2, h3⟩ := h
  obtain ⟨v, ps, hrun, hv⟩ := h1.look_ok (int_keyed hk) ht hz (zd := .held z) (zp := []) rfl (keyOf_int_mk hk (wf64_lit hwf))
  rw [hrun]
  rw [h2] at hv
  simp only [heldV] at hv
  rw [h3]
  cases hm : m k <;> rw [hm] at hv <;> simp at hv <;> rw [hv.1] <;> rfl

theorem MapAt.store {t e : TypeId} (h : MapAt P kt w b n m) (hk : P.underlying kt = some (.int .i64)) (ht : P.underlying t = some (.map kt e)) (hn : n < maxLen) {k : Int} (hwf : wf64 k) (v : Value) :
    ∃ w', (Instr.mapUpdate t (.map (some b)) (.int .i64 k) v).run P w = .ok () w' ∧ MapAt P kt w' b (n + 1) (upd m k v) ∧ w.mapTurned w' b := by
  obtain ⟨D, h1, h2, h3⟩ := h
  obtain ⟨w', hrun, ho, ht'⟩ := h1.store (int_keyed hk) ht hn (keyOf_int_mk hk (wf64_lit hwf)) (val := v) (d := .held v) (ps := []) rfl
  have hi := h1.isMap
  refine ⟨w', hrun, ⟨_, ho, fun j z => ?_, fun j => ?_⟩, ht'⟩
  · by_cases hj : j = k
    · subst hj
      rw [atKey_put_same hi (show WideAt.IsKeyLit (.int .i64 j) from trivial)]
      simp [upd]
    · rw [atKey_put_other (by simp [hj]), h2]
      simp [upd, hj]
  · by_cases hj : j = k
    · subst hj
      rw [has_put_same hi (show WideAt.IsKeyLit (.int .i64 j) from trivial)]
      simp [upd]
    · rw [has_put_other (by simp [hj]), h3]
      simp [upd, hj]

section
variable {ops : Array Oper} {rest : List Oper} {o : Oper} {a : Act} {Q : Exit → Act → World → Prop}

/-- 'v, ok := m[k]' at the operation. -/
theorem wpList_look_ok (w : World) (hg : o.guard = none) (mo x : Operand) (t : TypeId) (hop : o.op = Op.lookup t mo x true) (kt e : TypeId) (hk : P.underlying kt = some (.int .i64)) (ht : P.underlying t = some (.map kt e))
    {z : Value} (hz : (zeroValue e).run P w = .ok z w) (b n : Nat) (m : Int → Option Value) (hm : a.eval mo = .map (some b)) (hown : MapAt P kt w b n m) (k : Int) (hx : a.eval x = .int .i64 k) (hwf : wf64 k)
    (hK : wpList P ops Q rest (a.put o.dst (.tuple #[(m k).getD z, .bool (m k).isSome])) w) : wpList P ops Q (o :: rest) a w := by
  refine wpList_plain hg fun K' hK' => ?_
  have hrun := hown.look_ok hk ht hz hwf
  unfold Oper.wp
  simp [execOp, hop, hm, hx, hrun, Result.andThen]
  exact hK' _ _ hK

theorem wpList_look (w : World) (hg : o.guard = none) (mo x : Operand) (t : TypeId) (hop : o.op = Op.lookup t mo x false) (kt e : TypeId) (hk : P.underlying kt = some (.int .i64)) (ht : P.underlying t = some (.map kt e))
    {z : Value} (hz : (zeroValue e).run P w = .ok z w) (b n : Nat) (m : Int → Option Value) (hm : a.eval mo = .map (some b)) (hown : MapAt P kt w b n m) (k : Int) (hx : a.eval x = .int .i64 k) (hwf : wf64 k)
    (hK : wpList P ops Q rest (a.put o.dst ((m k).getD z)) w) : wpList P ops Q (o :: rest) a w := by
  refine wpList_plain hg fun K' hK' => ?_
  have hrun := hown.look hk ht hz hwf
  unfold Oper.wp
  simp [execOp, hop, hm, hx, hrun, Result.andThen]
  exact hK' _ _ hK

/-- 'm[k] = v' at the operation. -/
theorem wpList_upd (w : World) (hg : o.guard = none) (mo x vo : Operand) (t : TypeId) (hop : o.op = Op.mapUpdate t mo x vo) (kt e : TypeId) (hk : P.underlying kt = some (.int .i64)) (ht : P.underlying t = some (.map kt e))
    (b n : Nat) (m : Int → Option Value) (hm : a.eval mo = .map (some b)) (hown : MapAt P kt w b n m) (hn : n < maxLen) (k : Int) (hx : a.eval x = .int .i64 k) (hwf : wf64 k) (v : Value) (hv : a.eval vo = v)
    (hK : ∀ w', MapAt P kt w' b (n + 1) (upd m k v) → w.mapTurned w' b → wpList P ops Q rest (a.put o.dst undef) w') : wpList P ops Q (o :: rest) a w := by
  refine wpList_plain hg fun K' hK' => ?_
  obtain ⟨w', hrun, r1, r2⟩ := hown.store hk ht hn hwf v
  unfold Oper.wp
  simp [execOp, hop, hm, hx, hv, hrun, Result.andThen]
  exact hK' _ _ (hK w' r1 r2)
end

end Go.Proofs.YthfidlhefkjpdaaGreatDoor

namespace Go.Proofs.YthfidlhefkjpdaaGreatDoor
open Go.RowKit

structure Dk where
  sec : List (List UInt8)
  pend : Int → Option (List UInt8)
  plan : List (Int × Int)
  steps : Int
  off : Bool

def flat (xs : List (List UInt8)) : List UInt8 := xs.flatten
def encF (x : Int × Int) : List Value := [.int .i64 x.1, .int .i64 x.2]
def encP (pend : Int → Option (List UInt8)) : Int → Option Value := fun k => (pend k).map fun bs => .agg (cellsB bs)

structure Dk.wf (D : Dk) : Prop where
  n : D.sec.length ≤ 4096
  len : ∀ x ∈ D.sec, x.length = 512
  plen : ∀ k bs, D.pend k = some bs → bs.length = 512
  pin : ∀ k, (D.pend k).isSome = true → 0 ≤ k ∧ k < D.sec.length
  s0 : 0 ≤ D.steps
  s1 : D.steps ≤ 1152921504606846976

/-- what a sector has -/
def Dk.has (D : Dk) (i : Nat) : List UInt8 := match D.pend i with | some bs => bs | none => D.sec.getD i []

def DiskAt (w : World) (gd gs gm : Nat) (D : Dk) : Prop :=
  ∃ pv m, Blk w gd 111 #[.slice (some ⟨gs, 0, none⟩) D.sec.length D.sec.length, .map (some gm), pv, .int .i64 D.steps, .bool D.off] ∧
    w.heap[gs]? = some (.cells (cellsB (flat D.sec)) 113 (0, 0)) ∧ MapAt Tryz.prog 3 w gm m (encP D.pend) ∧ (m : Int) ≤ D.steps ∧
    w.ownsRow 0 76 2 pv D.plan.length (D.plan.flatMap encF)
theorem flat_cons (x : List UInt8) (r : List (List UInt8)) : flat (x :: r) = x ++ flat r := by simp [flat]
theorem flat_length {xs : List (List UInt8)} (h : ∀ x ∈ xs, x.length = 512) : (flat xs).length = xs.length * 512 := by
  induction xs with
  | nil => rfl
  | cons x r ih =>
    rw [flat_cons, List.length_append, ih (fun y hy => h y (List.mem_cons_of_mem _ hy)), h x (List.mem_cons_self ..)]
    simp
    omega
theorem flat_piece {xs : List (List UInt8)} (h : ∀ x ∈ xs, x.length = 512) {i : Nat} (hi : i < xs.length) : ((flat xs).drop (i * 512)).take 512 = xs[i] := by
  induction xs generalizing i with
  | nil => simp at hi
  | cons x r ih =>
    have hx := h x (List.mem_cons_self ..)
    cases i with
    | zero => rw [flat_cons, Nat.zero_mul, List.drop_zero, List.take_append_of_le_length (by omega), List.take_of_length_le (by omega)]; rfl
    | succ i =>
      rw [flat_cons, List.drop_append, List.drop_of_length_le (by omega), List.nil_append, show (i + 1) * 512 - x.length = i * 512 by omega]
      exact ih (fun y hy => h y (List.mem_cons_of_mem _ hy)) (by simpa using hi)
theorem flat_set {xs : List (List UInt8)} (h : ∀ x ∈ xs, x.length = 512) {i : Nat} (hi : i < xs.length) {y : List UInt8} (hy : y.length = 512) : splice (flat xs) (i * 512) y = flat (xs.set i y) := by
  induction xs generalizing i with
  | nil => simp at hi
  | cons x r ih =>
    have hx := h x (List.mem_cons_self ..)
    cases i with
    | zero =>
      rw [flat_cons, List.set_cons_zero, flat_cons, splice]
      rw [Nat.zero_mul, List.take_zero, List.nil_append, Nat.zero_add, hy, List.drop_append, List.drop_of_length_le (by omega), List.nil_append, hx]
      simp
    | succ i =>
      rw [flat_cons, List.set_cons_succ, flat_cons, ← ih (fun y hy => h y (List.mem_cons_of_mem _ hy)) (by simpa using hi)]
      unfold splice
      rw [List.take_append, List.take_of_length_le (by omega), List.drop_append, List.drop_of_length_le (by omega), List.nil_append]
      rw [show (i + 1) * 512 - x.length = i * 512 by omega, show (i + 1) * 512 + y.length - x.length = i * 512 + y.length by omega]
      simp [List.append_assoc]
theorem Dk.has_len {D : Dk} (hw : D.wf) {i : Nat} (hi : i < D.sec.length) : (D.has i).length = 512 := by
  unfold Dk.has
  cases h : D.pend i with
  | some bs => exact hw.plen _ _ h
  | none =>
    simp only [List.getD_eq_getElem?_getD, List.getElem?_eq_getElem hi]
    exact hw.len _ (List.getElem_mem hi)
end Go.Proofs.YthfidlhefkjpdaaGreatDoor

namespace Go.Proofs.YthfidlhefkjpdaaGreatDoor
open Go.RowKit Go.Shelf
attribute [local go_sem] Oper.semAt_some

theorem backF_in (F : Fence) (n : Nat) (h5 : F.fn 131) (hro : F.round = none) (A : Option Addr) (len cap : Nat) (w : World) :
    CallsIn F n Tryz.prog 131 #[.slice A len cap] w fun e w' => e = .returned (.func (.func 149) #[] #[.pointer (some ⟨w.heap.size, 0, none⟩)]) ∧ w' = w.alloc (.cells #[.slice A len cap] 52) := by
  have hmf : ∀ (fn : Fn) (first cap : Array Value) (w : World), (Instr.makeFunc fn first cap).run Tryz.prog w = .ok (.func fn first cap) w := fun _ _ _ _ => rfl
  refine callsIn_of_wp Tryz.func131 rfl h5 ?_ hro
  simp only [Tryz.ntmps131, List.size_toArray, List.length_cons, List.length_nil, Nat.reduceAdd, Nat.reduceSub, Array.replicate_succ, Array.replicate_zero, List.push_toArray, List.append_toArray, List.nil_append, List.cons_append]
  gi_wp2
  go_ret
  exact ⟨rfl, rfl⟩

/-- The iterator's contract where there is nothing. -/
theorem backF_none (F : Fence) (n : Nat) (h7 : F.fn 149) (hro : F.round = none) (Bs cap : Nat) (A : Option Addr) (w : World) (hBs : Bs < w.heap.size) (hc : w.cell? ⟨Bs, 0, none⟩ = some (.slice A 0 cap)) :
    SeqStopsK F n Tryz.prog 149 #[.pointer (some ⟨Bs, 0, none⟩)] (fun x : Empty => nomatch x) (fun _ _ => True) (fun ys => ys = []) (fun _ => False) 0 w := fun l J Jx W hW hJ _ hY h0 => by
  have hc' := (hW.cell (p := ⟨Bs, 0, none⟩) hBs).trans hc
  refine CallsIn.mono (R := fun e W' => (∃ v, e = .returned v) ∧ J [] W') ?_ ?_
  · refine callsIn_of_wp Tryz.func149 rfl h7 ?_ hro
    simp only [Tryz.ntmps149, List.size_toArray, List.length_cons, List.length_nil, Nat.reduceAdd, Nat.reduceSub, Array.replicate_succ, Array.replicate_zero, List.push_toArray, List.append_toArray, List.nil_append, List.cons_append]
    gi_wp2
    gi_loopw [3] (fun i wr => i = .int .i64 (-1) ∧ wr = W) (fun i _ => 0)
    case atStart => exact ⟨rfl, rfl⟩
    case round =>
      obtain ⟨rfl, rfl⟩ := hrel
      gi_wp2
      go_end0
      exact ⟨⟨_, rfl⟩, h0⟩
  · rintro e W' ⟨he, hj⟩
    exact ⟨he, .inl ⟨[], rfl, hj⟩⟩

def diskCells (sf pm : Value) (pv : Value) (steps : Int) (off : Bool) : Array Value := #[sf, pm, pv, .int .i64 steps, .bool off]

set_option maxRecDepth 100000 in
set_option maxHeartbeats 2000000 in
/-- 'step' where nothing is planned: the step is counted, and done. -/
theorem dstep_none (gd fdo : Nat) (lb : Array Value) (sf pm : Value) (A : Option Addr) (cap : Nat) (steps : Int) (w : World) (T : Nat → Prop) (R : World → World → Prop)
    (hB : Blk w gd 111 #[sf, pm, .slice A 0 cap, .int .i64 steps, .bool false]) (hs0 : 0 ≤ steps) (hs1 : steps ≤ 1152921504606846976) (hT : ∀ b, T b → b < w.heap.size)
    (edo : ∀ args w, (callFunc fdo args).run Tryz.prog w = .ok (.enter fdo args) w)
    (hdo : ∀ W, Fr (· = gd) w W → Blk W gd 111 #[sf, pm, .slice A 0 cap, .int .i64 (steps + 1), .bool false] → Calls Tryz.prog fdo lb W fun e W' => e = .returned (.tuple #[]) ∧ R W W' ∧ Fr T W W' ) :
    Calls Tryz.prog 95 #[.pointer (some ⟨gd, 0, none⟩), .func (.func fdo) #[] lb] w fun e w' => e = .returned (.int .i64 0) ∧
      ∃ W W', Fr (· = gd) w W ∧ Blk W gd 111 #[sf, pm, .slice A 0 cap, .int .i64 (steps + 1), .bool false] ∧ R W W' ∧ Fr T W W' ∧ W.heap.size ≤ W'.heap.size ∧ Below w.heap.size W' w' ∧ W'.heap.size ≤ w'.heap.size := by
  refine (callsIn_wide (n := 4)).1 ?_
  refine callsIn_of_wp_marks Tryz.func95 rfl trivial ?_ rfl
  simp only [Tryz.ntmps95, List.size_toArray, List.length_cons, List.length_nil, Nat.reduceAdd, Nat.reduceSub, Array.replicate_succ, Array.replicate_zero, List.push_toArray, List.append_toArray, List.nil_append, List.cons_append]
  have c3 := hB.cell 3
  have c2 := hB.cell 2
  have f3 := hB.frozen 3
  simp at c2 c3
  have hgd := hB.lt
  gi_wp2_with (refine ⟨trivial, ?_⟩; gi_at_call 131; refine (backF_in Fence.wide _ trivial rfl _ _ _ _).mono ?_; rintro e w' ⟨rfl, rfl⟩)
  obtain ⟨W0, hW0⟩ : ∃ W0, ((((w.setCell ⟨gd, 3, none⟩ (.int .i64 (steps + 1))).alloc (.cells #[.pointer (some ⟨gd, 0, none⟩)] 24)).alloc (.cells #[.int .i64 0] 3)).alloc (.cells #[.slice A 0 cap] 52)) = W0 := ⟨_, rfl⟩
  have hz0 : W0.heap.size = w.heap.size + 3 := by rw [← hW0]; simp [World.setCell]
  have hF0 : Fr (· = gd) w W0 := by
    rw [← hW0]
    exact ((((Fr.refl (· = gd) w).set (p := ⟨gd, 3, none⟩) (.inl rfl) _).alloc _).alloc _).alloc _
  have hB0 : Blk W0 gd 111 #[sf, pm, .slice A 0 cap, .int .i64 (steps + 1), .bool false] := by
    rw [← hW0]
    have h1 : Blk (w.setCell ⟨gd, 3, none⟩ (.int .i64 (steps + 1))) gd 111 #[sf, pm, .slice A 0 cap, .int .i64 (steps + 1), .bool false] := hB.set_ 3 _
    exact ((h1.fr ((((Fr.refl (fun _ => False) _).alloc _).alloc _).alloc _) (fun h => h)))
  have b0 : Boxed W0 w.heap.size 24 (.pointer (some ⟨gd, 0, none⟩)) := by
    rw [← hW0]
    have := Boxed.new (w.setCell ⟨gd, 3, none⟩ (.int .i64 (steps + 1))) 24 (.pointer (some ⟨gd, 0, none⟩))
    rw [show (w.setCell ⟨gd, 3, none⟩ (.int .i64 (steps + 1))).heap.size = w.heap.size by simp [World.setCell]] at this
    exact (this.alloc _).alloc _
  have b1 : Boxed W0 (w.heap.size + 1) 3 (.int .i64 0) := by
    rw [← hW0]
    have := Boxed.new ((w.setCell ⟨gd, 3, none⟩ (.int .i64 (steps + 1))).alloc (.cells #[.pointer (some ⟨gd, 0, none⟩)] 24)) 3 (.int .i64 0)
    rw [show ((w.setCell ⟨gd, 3, none⟩ (.int .i64 (steps + 1))).alloc (.cells #[.pointer (some ⟨gd, 0, none⟩)] 24)).heap.size = w.heap.size + 1 by simp [World.setCell]] at this
    exact this.alloc _
  have b2 : Boxed W0 (w.heap.size + 1 + 1) 52 (.slice A 0 cap) := by
    rw [← hW0]
    have := Boxed.new (((w.setCell ⟨gd, 3, none⟩ (.int .i64 (steps + 1))).alloc (.cells #[.pointer (some ⟨gd, 0, none⟩)] 24)).alloc (.cells #[.int .i64 0] 3)) 52 (.slice A 0 cap)
    rw [show (((w.setCell ⟨gd, 3, none⟩ (.int .i64 (steps + 1))).alloc (.cells #[.pointer (some ⟨gd, 0, none⟩)] 24)).alloc (.cells #[.int .i64 0] 3)).heap.size = w.heap.size + 1 + 1 by simp [World.setCell]] at this
    exact this
  rw [hW0]
  clear hW0 c2 c3 f3 hB
  refine wpIn_rangeFunc_ownH (α := Empty) rfl (by omega) (gf := 149) (lb := #[.pointer (some ⟨w.heap.size + 1 + 1, 0, none⟩)]) rfl trivial (enters_of Tryz.func149 (by kernel_rfl) rfl)
    (backF_none Fence.wide _ trivial rfl (w.heap.size + 1 + 1) cap A W0 b2.lt b2.cell) (fun _ _ => trivial) (fun _ _ _ _ _ _ _ _ => trivial) (Below.refl _ _) (fun x => nomatch x)
    (fun pre W => Boxed W w.heap.size 24 (.pointer (some ⟨gd, 0, none⟩)) ∧ Boxed W (w.heap.size + 1) 3 (.int .i64 0) ∧ Blk W gd 111 #[sf, pm, .slice A 0 cap, .int .i64 (steps + 1), .bool false] ∧ Fr (· = gd) w W)
    (fun _ _ _ => False)
    ?own
    (fun _ _ _ _ _ hs _ _ => hs)
    ⟨b0, b1, hB0, hF0⟩
    (fun x _ _ => nomatch x) (fun x => nomatch x) (fun _ _ x => nomatch x) (fun _ _ x => nomatch x) ?done ?stop
  case own =>
    intro s X Y row hs hg hr
    obtain ⟨h1, h2, h3, h4⟩ := hs
    have key : ∀ (B : Nat) (cs : Array Value) (t : TypeId), X.heap[B]? = some (.cells cs t (0, 0)) → Y.heap[B]? = some (.cells cs t (0, 0)) := fun B cs t h =>
      (hg.block B (Array.getElem?_eq_some_iff.1 h).1 (fun e => by
        obtain ⟨_, o, ho, hc⟩ := hr B e.symm
        rw [h] at ho
        cases ho
        cases hc)).trans h
    refine ⟨key _ _ _ h1, key _ _ _ h2, key _ _ _ h3, ⟨hg.os.trans h4.os, hg.tape.trans h4.tape, hg.output.trans h4.output, Nat.le_trans h4.size hg.size, fun b hb hn => ?_⟩⟩
    exact (hg.block b (Nat.lt_of_lt_of_le hb h4.size) (fun e => by
      have := (hr b e.symm).1
      omega)).trans (h4.block b hb hn)
  case stop =>
    rintro D c pre W _ h _ _
    exact h.elim
  case done =>
    rintro D xs W hD rfl ⟨h1, h2, h3, h4⟩ hK
    have c5 := h2.cell
    have hcall := hdo W h4 h3
    gi_wp2
    refine ⟨trivial, (callsIn_wide.2 hcall).mono ?_⟩
    rintro e w' ⟨rfl, hR, hF⟩
    have hbx : Boxed w' (w.heap.size + 1) 3 (.int .i64 0) := (hF.block _ h2.lt (fun ht => by have := hT _ ht; omega)).trans h2
    have c5' := hbx.cell
    have hDl : D < W.heap.size := (Array.getElem?_eq_some_iff.1 hK).1
    have hK' : w'.heap[D]? = some (.deferred (some [])) := (hF.block _ hDl (fun ht => by have := hT _ ht; omega)).trans hK
    gi_wp2
    refine ⟨by simp, .inl ⟨_, _, rfl, run_takeDeferred hK', ?_⟩⟩
    refine ⟨_, results_tmp rfl _ _ _, rfl, W, w', h4, h3, hR, hF, hF.size, belowK_b (w := w) (Nat.le_refl _) w' D _ _ (by omega) hK' rfl rfl, ?_⟩
    simp [World.putObj]

end Go.Proofs.YthfidlhefkjpdaaGreatDoor

namespace Go.Proofs.YthfidlhefkjpdaaGreatDoor
open Go.RowKit Go.BigFrame

def noDefer (ops : Array Oper) : Bool := ops.toList.all fun o => match o.op with | .defer _ => false | _ => true
theorem noDefer_at {ops : Array Oper} (h : noDefer ops = true) {i : Nat} {o : Oper} (ho : ops[i]? = some o) : ∀ c, o.op ≠ .defer c := by
  intro c e
  have hm : o ∈ ops.toList := by
    rw [Array.mem_toList_iff]
    exact Array.mem_of_getElem? ho
  have := List.all_eq_true.1 h o hm
  rw [e] at this
  cases this

section
variable {F : Fence} {n : Nat} {P : Program} {ops : Array Oper} {C : World → Prop} {md : Region.Mode}
theorem op_of_quiet {o : Oper} {a : Act} {K : Act → Prop} {K' : Act → World → Prop} {Q' : Exit → Act → World → Prop} {w : World} (hnd : ∀ c, o.op ≠ .defer c) (hw : C w) (h : ∀ a w', C w' → K a → K' a w')
    (ha : o.askedIn F P a C) (hh : o.quietIn F n P a C K) : o.wpIn F n P a w K' Q' := by
  obtain ⟨v, h1, h2⟩ := hh
  have h3 := h1 w hw
  unfold Oper.quietAtIn at h3
  unfold Oper.wpIn
  refine ⟨ha w hw, ?_⟩
  rw [Oper.semAt_plain F _ o hnd]
  generalize (execOp a.eval o).run P w = r at *
  cases r with
  | ok x w' =>
    cases x <;> simp only [Oper.quietUponIn] at h3 <;> simp only [Oper.uponIn]
    case value u =>
      obtain ⟨e1, e2⟩ := h3
      rw [e1, e2]
      exact h _ _ hw h2
    case skip =>
      obtain ⟨e1, e2⟩ := h3
      rw [e1, ← e2]
      exact h _ _ hw h2
    case enter f args =>
      obtain ⟨e1, hd, hc⟩ := h3
      rw [e1]
      exact ⟨hd, hc.mono fun e w'' ⟨he, hw''⟩ => by subst he; exact h _ _ hw'' h2⟩
  | halt x w' => simp only [Oper.quietUponIn] at h3
theorem at_of_quiet {i : Nat} {a : Act} {K : Act → Prop} {K' : Act → World → Prop} {Q' : Exit → Act → World → Prop} {w : World} (hnd : noDefer ops = true) (hC : C w) (h : ∀ a w', C w' → K a → K' a w')
    (hh : qOpIn F n P ops C i K a) : wpOpIn F n P ops Q' i K' a w := by
  unfold qOpIn at hh
  unfold wpOpIn
  split
  · rename_i ho; simp only [ho] at hh; exact h _ _ hC hh
  · rename_i o ho
    simp only [ho] at hh
    obtain ⟨ha, hh⟩ := hh
    split
    · rename_i hw; simp only [hw, if_true] at hh; exact op_of_quiet (noDefer_at hnd ho) hC h ha hh
    · rename_i hw; simp only [hw] at hh; exact ⟨ha w hC, h _ _ hC hh⟩
theorem any_of_quiet {Q : Act → Prop} {Q' : Exit → Act → World → Prop} (hnd : noDefer ops = true) (hQ : ∀ a w, C w → Q a → Q' .normal a w) : ∀ (fuel : Nat) (listed : Array Bool) (a : Act) (w : World), C w →
    wpAnyQIn F n P md ops C Q fuel listed a → wpAnyIn F n P md ops Q' fuel listed a w
  | 0, _, _, _, hw, h => ⟨h.1, hQ _ _ hw h.2⟩
  | fuel + 1, _, _, _, hw, h => ⟨fun h0 => hQ _ _ hw (h.1 h0), fun i hi => at_of_quiet hnd hw (fun a' w' hw' => any_of_quiet hnd hQ fuel _ a' w' hw') (h.2 i hi)⟩
theorem region_quiet_round {id : Nat} {Q : Exit → Act → World → Prop} {a : Act} {w : World} {l : List Oper} (hnd : noDefer l.toArray = true) (hm : P.follows .mixedOrders = true) (hB : Region.lexB .any l.toArray = true)
    (h : wpQuietIn F n P l.toArray (fun w' => ∃ n, w' = w.drewN n) (fun a' => ∀ w', (∃ n, w' = w.drewN n) → Q .normal a' w') l a) : (Code.region id l.toArray true).wpIn F n P Q a w := by
  have hB' := hB
  simp only [Region.lexB, Bool.and_eq_true] at hB
  refine wpIn_region_any hm (any_of_quiet (C := fun w' => ∃ n, w' = w.drewN n) (Q := fun a' => ∀ w', (∃ n, w' = w.drewN n) → Q .normal a' w') hnd (fun _ w' hw' h => h w' hw') _ _ _ _ ⟨1, rfl⟩ ?_)
  have := wpAnyQIn_lex (F := F) (n := n) (C := fun w' => ∃ n, w' = w.drewN n) (md := .any) hB.1 l.toArray.toList 0 (Array.replicate l.toArray.size false) a (by simp) (by simpa using hB.2) h
  simpa using this
end

end Go.Proofs.YthfidlhefkjpdaaGreatDoor
