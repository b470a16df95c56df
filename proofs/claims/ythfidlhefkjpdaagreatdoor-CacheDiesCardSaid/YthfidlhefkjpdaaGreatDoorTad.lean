/- disk.has.
   A call of a Go function as one step of a region that draws its order, for go_region_law; bits at int.
   disk.Write.
   disk.Write where nothing is planned.
   disk.Write under any plan.
   disk.Read, Size. -/
import Derived.Test.YthfidlhefkjpdaaGreatDoorTab
import Derived.Outline
import Derived.Deep.RegionWith
import Derived.Test.YthfidlhefkjpdaaGreatDoorTaa
import Derived.Deep.RegionLaw
import Derived.Laws.CopyOwn
import Derived.RegionTactic
import Derived.Deep.RegionHeld3
import Derived.Test.YthfidlhefkjpdaaGreatDoorTac
namespace Go.Proofs.YthfidlhefkjpdaaGreatDoor
open Go.RowKit

set_option maxRecDepth 100000 in
set_option maxHeartbeats 1000000 in
theorem has_any (gd gs gm : Nat) (D : Dk) (i : Nat) (w : World) (hD : DiskAt w gd gs gm D) (hw : D.wf) (hi : i < D.sec.length) :
    Calls Tryz.prog 55 #[.pointer (some ⟨gd, 0, none⟩), .int .i64 (i : Int)] w fun e w' => e = .returned (.agg (cellsB (D.has i))) ∧ Below w.heap.size w w' := by
  obtain ⟨pv, m, hB, hS, hM, _, _⟩ := hD
  have c1 := hB.cell 1
  have c0 := hB.cell 0
  simp at c0 c1
  have hgd := hB.lt
  have hgs := (Array.getElem?_eq_some_iff.1 hS).1
  have hwf : wf64 (i : Int) := by have := hw.n; unfold wf64; omega
  have look := (hM.alloc (.cells Tryz.zeroCells113 113)).look_ok Tryz.underlying3 Tryz.underlying109 (zeroSec _) hwf
  have ze := zcSec
  cases hp : D.pend i with
  | some bs =>
    simp only [encP, hp, Option.map_some, Option.getD_some, Option.isSome_some] at look
    have hbl : bs.length = 512 := hw.plen _ _ hp
    have hsz : (cellsB bs).size = 512 := by rw [cellsB_size, hbl]
    have st1 := stNew (w.alloc (.cells Tryz.zeroCells113 113)) Tryz.zeroCells113 bs (w.heap.size + 1) (World.size_alloc _ _) zc_size hbl
    clear hM hS hB ze
    have hz0 : ((w.alloc (.cells Tryz.zeroCells113 113)).alloc (.cells (cellsB bs) 113)).heap[w.heap.size]? = some (.cells (cellsB (zeros 512)) 113 (0, 0)) := by rw [heap_at0, zcSec]
    have Z : Aside (((w.alloc (.cells Tryz.zeroCells113 113)).alloc (.cells (cellsB bs) 113)).heap[w.heap.size]? = some (.cells (cellsB (zeros 512)) 113 (0, 0)) ∧
      ((w.alloc (.cells Tryz.zeroCells113 113)).alloc (.cells (cellsB bs) 113)).rangeAt (w.heap.size + 1) 0 (bs.map u8) ∧ bs.length = 512 ∧ D.has i = bs) :=
      ⟨hz0, range_of_cells (heap_at1 _ _ _) (by rw [List.drop_zero, List.take_length]), hbl, by simp [Dk.has, hp]⟩
    clear hz0 hbl hp
    go_enter Tryz.func55, Tryz.ntmps55
    go_wp2_with (first
      | (refine wpList_loadSec (op := ⟨some 17, _, _, _, _, _⟩) (by rfl) (.tmp 5) (by rfl) (w.heap.size + 1) 0 (by rfl) bs Z.out.2.1 Z.out.2.2.1 ?_)
      | ((refine wpList_storeSec (by rfl) (.tmp 4) (.tmp 17) (by rfl) w.heap.size 0 (by rfl) (zeros 512) bs (by rfl) Z.out.1 ?_ Z.out.2.2.1 ?_)
         · rw [zeros_length]; omega
         intro w2 hg2 hf2
         have Z2 : Aside (w2.heap[w.heap.size]? = some (.cells (cellsB (splice (zeros 512) 0 bs)) 113 (0, 0)) ∧ Fr (· = w.heap.size) ((w.alloc (.cells Tryz.zeroCells113 113)).alloc (.cells (cellsB bs) 113)) w2) := ⟨hg2, hf2⟩
         clear hg2 hf2))
    have e : splice (zeros 512) 0 bs = bs := by
      have := Z.out.2.2.1
      simp [splice, zeros, this]
    have h2 := Z2.out.1
    rw [e] at h2
    refine bodyPost_ret (results_cell_row rfl _ _ w.heap.size 113 (cellsB bs) (0, 0) _ rfl h2 Tryz.underlying113 rfl (by rw [cellsB_size, Z.out.2.2.1]; exact sizeSec)) rfl ?_
    refine ⟨by rw [Z.out.2.2.2], ?_⟩
    exact ((bl_alloc (bl_alloc (Below.refl _ _) _) _)).trans (Z2.out.2.below (by rw [World.size_alloc, World.size_alloc]; omega) (fun x hx => by rw [hx]; exact Nat.le_refl _))
  | none =>
    simp only [encP, hp, Option.map_none, Option.getD_none, Option.isSome_none] at look
    have hsz : (cellsB (zeros 512)).size = 512 := by rw [cellsB_size, zeros_length]
    have st1 := stNew (w.alloc (.cells Tryz.zeroCells113 113)) Tryz.zeroCells113 (zeros 512) (w.heap.size + 1) (World.size_alloc _ _) zc_size (zeros_length _)
    have hz0 : ((w.alloc (.cells Tryz.zeroCells113 113)).alloc (.cells (cellsB (zeros 512)) 113)).heap[w.heap.size]? = some (.cells (cellsB (zeros 512)) 113 (0, 0)) := by rw [heap_at0, zcSec]
    have hrg : ((w.alloc (.cells Tryz.zeroCells113 113)).alloc (.cells (cellsB (zeros 512)) 113)).rangeAt gs (i * 512) (D.sec[i].map u8) := by
      refine range_of_cells (t := 113) (L := flat D.sec) ?_ ?_
      · exact ((bl_alloc (bl_alloc (Below.refl w.heap.size w) _) _).block gs hgs).trans hS
      · rw [hw.len _ (List.getElem_mem hi)]; exact flat_piece hw.len hi
    have Z : Aside (((w.alloc (.cells Tryz.zeroCells113 113)).alloc (.cells (cellsB (zeros 512)) 113)).heap[w.heap.size]? = some (.cells (cellsB (zeros 512)) 113 (0, 0)) ∧
      ((w.alloc (.cells Tryz.zeroCells113 113)).alloc (.cells (cellsB (zeros 512)) 113)).rangeAt gs (i * 512) (D.sec[i].map u8) ∧ D.sec[i].length = 512 ∧ D.has i = D.sec[i]) :=
      ⟨hz0, hrg, hw.len _ (List.getElem_mem hi), by simp [Dk.has, hp, List.getD_eq_getElem?_getD, List.getElem?_eq_getElem hi]⟩
    have hn := hw.n
    clear hz0 hp hrg hM hS hB hw ze
    obtain ⟨sb, hsb⟩ : ∃ sb, D.sec[i] = sb := ⟨_, rfl⟩
    rw [hsb] at Z
    obtain ⟨n, hnn⟩ : ∃ n, D.sec.length = n := ⟨_, rfl⟩
    rw [hnn] at c0 hn
    have hin : i < n := by omega
    clear hsb hnn
    go_enter Tryz.func55, Tryz.ntmps55
    go_wp2_with (first
      | (refine wpList_loadSec (op := ⟨some 24, _, _, _, _, _⟩) (by rfl) (.tmp 23) (by rfl) gs (i * 512) (by rfl) sb Z.out.2.1 Z.out.2.2.1 ?_)
      | ((refine wpList_storeSec (by rfl) (.tmp 4) (.tmp 24) (by rfl) w.heap.size 0 (by rfl) (zeros 512) sb (by rfl) Z.out.1 ?_ Z.out.2.2.1 ?_)
         · rw [zeros_length]; omega
         intro w2 hg2 hf2
         have Z2 : Aside (w2.heap[w.heap.size]? = some (.cells (cellsB (splice (zeros 512) 0 sb)) 113 (0, 0)) ∧ Fr (· = w.heap.size) ((w.alloc (.cells Tryz.zeroCells113 113)).alloc (.cells (cellsB (zeros 512)) 113)) w2) := ⟨hg2, hf2⟩
         clear hg2 hf2))
    have e : splice (zeros 512) 0 sb = sb := by
      have := Z.out.2.2.1
      simp [splice, zeros, this]
    have h2 := Z2.out.1
    rw [e] at h2
    refine bodyPost_ret (results_cell_row rfl _ _ w.heap.size 113 (cellsB sb) (0, 0) _ rfl h2 Tryz.underlying113 rfl (by rw [cellsB_size, Z.out.2.2.1]; exact sizeSec)) rfl ?_
    refine ⟨by rw [Z.out.2.2.2], ?_⟩
    exact ((bl_alloc (bl_alloc (Below.refl _ _) _) _)).trans (Z2.out.2.below (by rw [World.size_alloc, World.size_alloc]; omega) (fun x hx => by rw [hx]; exact Nat.le_refl _))

end Go.Proofs.YthfidlhefkjpdaaGreatDoor

namespace Go.Proofs.YthfidlhefkjpdaaGreatDoor
open Go.RowKit

section
variable {P : Program} {ops : Array Oper} {o : Oper} {a : Act} {w : World} {K : Act → World → Prop} {Q : Exit → Act → World → Prop} {E : Prop}
theorem step_call (f : FuncId) (hgd : o.guard = none) (args : Array Operand) (ts : Array TypeId) (ho : o.op = .call { callee := .value (.func f), args := args, argTypes := ts })
    (eF : ∀ args w, (callFunc f args).run P w = .ok (.enter f args) w) (vs : Array Value) (hvs : args.map a.eval = vs) {R : Ending → World → Prop} (hc : Calls P f vs w R)
    (h : ∀ e w', R e w' → ∃ v, e = .returned v ∧ K (a.put o.dst v) w') : if Region.wanted o (yielded ops a.tmps) = true then Oper.wp P o a w K Q else E := by
  have hw : Region.wanted o (yielded ops a.tmps) = true := by simp [Region.wanted, hgd]
  rw [if_pos hw]
  have e : (execOp a.eval o).run P w = .ok (.enter f vs) w := by
    unfold execOp
    simp only [ho, resolve, Sem.run_bind, hvs]
    have : (Deferred.ofValue (a.eval (Operand.func f)) vs).run P w = .ok { target := .fn (.func f) #[], args := vs } w := by
      simp [Act.eval, Deferred.ofValue]
    rw [this]
    simp [invoke, eF]
  unfold Oper.wp
  rw [e, Oper.upon_enter]
  exact hc.mono fun e w' hr => by
    obtain ⟨v, rfl, hk⟩ := h e w' hr
    exact hk
theorem step_call1 (f : FuncId) (hgd : o.guard = none) (x : Operand) (ts : Array TypeId) (ho : o.op = .call { callee := .value (.func f), args := #[x], argTypes := ts })
    (eF : ∀ args w, (callFunc f args).run P w = .ok (.enter f args) w) (v : Value) (hv : a.eval x = v) {R : Ending → World → Prop} (hc : Calls P f #[v] w R)
    (h : ∀ e w', R e w' → ∃ v, e = .returned v ∧ K (a.put o.dst v) w') : if Region.wanted o (yielded ops a.tmps) = true then Oper.wp P o a w K Q else E :=
  step_call f hgd #[x] ts ho eF #[v] (by simp [hv]) hc h
theorem step_call2 (f : FuncId) (hgd : o.guard = none) (x y : Operand) (ts : Array TypeId) (ho : o.op = .call { callee := .value (.func f), args := #[x, y], argTypes := ts })
    (eF : ∀ args w, (callFunc f args).run P w = .ok (.enter f args) w) (v u : Value) (hv : a.eval x = v) (hu : a.eval y = u) {R : Ending → World → Prop} (hc : Calls P f #[v, u] w R)
    (h : ∀ e w', R e w' → ∃ v, e = .returned v ∧ K (a.put o.dst v) w') : if Region.wanted o (yielded ops a.tmps) = true then Oper.wp P o a w K Q else E :=
  step_call f hgd #[x, y] ts ho eF #[v, u] (by simp [hv, hu]) hc h
theorem setRow_fr (w : World) (g : Nat) (cs : Array Value) : Fr (· = g) w (w.setRow g cs) :=
  ⟨rfl, rfl, rfl, by simp [World.setRow], fun k _ hk => setRow_other w g k cs (fun e => hk (by first | exact e | exact e.symm))⟩

/-- copy into the row of block g, as one step of a region: nothing else is turned. -/
theorem step_copy_fr (hgd : o.guard = none) (d s : Operand) (dT sT : TypeId)
    (ho : o.op = .call { callee := .builtin .copy, args := #[d, s], argTypes := #[dT, sT] }) (elem : TypeId) (hu : P.underlying dT = some (.slice elem)) (hsz : (P.info? elem).map (·.size) = some 1)
    (dp sp : Option Addr) (dLen dCap sLen sCap : Nat) (hd : a.eval d = .slice dp dLen dCap) (hs : a.eval s = .slice sp sLen sCap)
    (g off : Nat) (cur : List Value) (t : TypeId) (hg : w.heap[g]? = some (.cells cur.toArray t (0, 0))) (cs : List Value) (hn : cs.length = Nat.min sLen dLen)
    (hpos : 0 < cs.length → dp = some ⟨g, off, none⟩ ∧ ∃ ad, sp = some ad ∧ ∀ j v, cs[j]? = some v → w.cell? (ad.add j) = some v)
    (hfit : off + cs.length ≤ cur.length) (h1 : ∀ v ∈ cs, v.oneCell' = true)
    (h : ∀ w', RowKit.Hid (w'.heap[g]? = some (.cells (splice cur off cs).toArray t (0, 0))) → Fr (· = g) w w' → K (a.put o.dst (goInt cs.length)) w') :
    if Region.wanted o (yielded ops a.tmps) = true then Oper.wp P o a w K Q else E := by
  have hw : Region.wanted o (yielded ops a.tmps) = true := by simp [Region.wanted, hgd]
  rw [if_pos hw]
  by_cases h0 : cs.length = 0
  · obtain rfl : cs = [] := List.eq_nil_of_length_eq_zero h0
    have hrun := run_copy_none (P := P) w dT sT o.type elem dp sp dLen dCap sLen sCap hu hsz (by simpa using hn.symm)
    unfold Oper.wp
    simp [execOp, ho, resolve, invoke, builtin, hd, hs, hrun, Result.andThen]
    exact h w (show _ = _ by simpa [splice] using hg) (Fr.refl _ _)
  · obtain ⟨rfl, ad, rfl, hsrc⟩ := hpos (by omega)
    have hrun := run_copy_row (P := P) w dT sT o.type elem g off dLen dCap ad sLen sCap cur.toArray t cs hu hsz hg hn hsrc (by simpa using hfit) h1
    unfold Oper.wp
    simp [execOp, ho, resolve, invoke, builtin, hd, hs, hrun, Result.andThen]
    exact h _ (show _ = _ by simpa [splice] using setRow_heap w g _ _ t _ hg) (setRow_fr w g _)
end

theorem ofInt_i64 (a : Nat) (ha : a < 9223372036854775808) : (BitVec.ofInt 64 (a : Int)).toNat = a := by
  rw [BitVec.ofInt_natCast, BitVec.toNat_ofNat]; exact Nat.mod_eq_of_lt (by omega)
theorem i64_or_nat (a b : Nat) (ha : a < 9223372036854775808) (hb : b < 9223372036854775808) : bits .or .i64 (a : Int) (b : Int) = ((a ||| b : Nat) : Int) := by
  have hx : a ||| b < 2 ^ 63 := Nat.or_lt_two_pow (by omega) (by omega)
  show IntKind.i64.wrap ((BitVec.ofInt 64 (a : Int) ||| BitVec.ofInt 64 (b : Int)).toNat : Int) = _
  rw [BitVec.toNat_or, ofInt_i64 a ha, ofInt_i64 b hb, IntKind.wrap_i64]
  omega
theorem two_bytes (a b : Nat) (ha : a < 256) (hb : b < 256) : bits .or .i64 (a : Int) ((b : Int) * 256) = ((a + 256 * b : Nat) : Int) := by
  have := i64_or_nat a (b * 256) (by omega) (by omega)
  rw [Nat.or_comm, nat_join 8 (b * 256) a (by omega) (by omega)] at this
  rw [show ((b : Int) * 256) = ((b * 256 : Nat) : Int) by omega, this]
  congr 1
  omega
end Go.Proofs.YthfidlhefkjpdaaGreatDoor

namespace Go.Proofs.YthfidlhefkjpdaaGreatDoor
open Go.RowKit

theorem szU8 : (Tryz.prog.info? 5).map (·.size) = some 1 := by kernel_rfl

def fullS (bs : List UInt8) : List UInt8 := splice (zeros 512) 0 bs
theorem fullS_length {bs : List UInt8} (h : bs.length ≤ 512) : (fullS bs).length = 512 := by
  rw [fullS, splice_length (by rw [zeros_length]; omega), zeros_length]
theorem fullS_full {bs : List UInt8} (h : bs.length = 512) : fullS bs = bs := by
  unfold fullS splice
  rw [List.take_zero, List.nil_append, Nat.zero_add, List.drop_of_length_le (by rw [zeros_length]; omega), List.append_nil]

theorem encP_upd (pend : Int → Option (List UInt8)) (k : Int) (bs : List UInt8) : upd (encP pend) k (.agg (cellsB bs)) = encP (fun j => if j = k then some bs else pend j) := by
  funext j
  simp only [upd, encP]
  split <;> simp

theorem MapAt.ne_blk {P : Program} {kt : TypeId} {w : World} {b m g : Nat} {f : Int → Option Value} {t : TypeId} {v : Value} (h : MapAt P kt w b m f) (hg : Boxed w g t v) : b ≠ g := by
  rintro rfl
  obtain ⟨D, ⟨es, c, h1, _⟩, _⟩ := h
  rw [show w.heap[b]? = _ from hg] at h1
  cases h1
theorem MapAt.ne_cell {P : Program} {kt : TypeId} {w : World} {b m g o : Nat} {f : Int → Option Value} {v : Value} (h : MapAt P kt w b m f) (hg : w.cell? ⟨g, o, none⟩ = some v) : b ≠ g := by
  rintro rfl
  obtain ⟨D, ⟨es, c, h1, _⟩, _⟩ := h
  unfold World.cell? at hg
  rw [h1] at hg
  cases hg

set_option maxRecDepth 100000 in
set_option maxHeartbeats 2000000 in
theorem wdo_any (gd gm m b3 b4 b5 n c : Nat) (i : Int) (A : Option Addr) (bs : List UInt8) (pend : Int → Option (List UInt8)) (w : World)
    (h3 : Boxed w b3 24 (.pointer (some ⟨gd, 0, none⟩))) (h4 : Boxed w b4 3 (.int .i64 i)) (h5 : Boxed w b5 43 (.slice A n c)) (hd : w.cell? ⟨gd, 1, none⟩ = some (.map (some gm))) (hgd : gd < w.heap.size)
    (hM : MapAt Tryz.prog 3 w gm m (encP pend)) (hR : RdB w A n bs) (hn : n ≤ 512) (hi : wf64 i) (hm : m < maxLen) :
    Calls Tryz.prog 120 #[.pointer (some ⟨b5, 0, none⟩), .pointer (some ⟨b3, 0, none⟩), .pointer (some ⟨b4, 0, none⟩)] w fun e w' => e = .returned (.tuple #[]) ∧
      MapAt Tryz.prog 3 w' gm (m + 1) (encP (fun j => if j = i then some (fullS bs) else pend j)) ∧ Fr (· = gm) w w' := by
  have k3 := h3.cell
  have k4 := h4.cell
  have k5 := h5.cell
  have l3 := h3.lt
  have l4 := h4.lt
  have l5 := h5.lt
  have hl := hid hR.1
  have Q : Aside (MapAt Tryz.prog 3 w gm m (encP pend) ∧ RdB w A n bs) := ⟨hM, hR⟩
  have HG : Aside ((w.alloc (.cells Tryz.zeroCells113 113)).heap[w.heap.size]? = some (.cells ((zeros 512).map u8).toArray 113 (0, 0))) := ⟨by rw [alloc_new, zcSec]; rfl⟩
  have hgmn : Aside (gm ≠ b3 ∧ gm ≠ b4 ∧ gm ≠ gd) := ⟨hM.ne_blk h3, hM.ne_blk h4, hM.ne_cell hd⟩
  have hb5 := hM.lt
  clear hM hR h3 h4 h5
  go_enter Tryz.func120, Tryz.ntmps120
  go_wp2_with fail
  go_region_law (
    ((refine step_copy_splice (o := ⟨some 6, _, _, _, _, _⟩) (by rfl) (.tmp 4) (.tmp 5) 43 43 (by rfl) 5 Tryz.underlying43 szU8 (some ⟨w.heap.size, 0, none⟩) A 512 512 n c (by go_simp) (by go_simp) w.heap.size 0 ((zeros 512).map u8) 113 HG.out (bs.map u8) ?_ ?_ ?_ (u8_one bs) w.heap.size w ?_ (Nat.le_refl _) ?_)
     · rw [List.length_map, hl.out]; exact (Nat.min_eq_left hn).symm
     · intro h0
       rw [List.length_map, hl.out] at h0
       obtain ⟨ad, had, hcs⟩ := Q.out.2.news h0
       exact ⟨rfl, ad, had, hcs _ (bl_drew (bl_alloc (Below.refl _ _) _))⟩
     · rw [List.length_map, List.length_map, zeros_length, hl.out]; omega
     · exact bl_drew (bl_alloc (Below.refl _ _) _)
     intro W1 HG1 hB1
     have Q1 : Aside (W1.heap[w.heap.size]? = some (.cells (cellsB (fullS bs)) 113 (0, 0)) ∧ Below w.heap.size w W1) := ⟨by have := HG1.out; rw [splice_map] at this; exact this, hB1⟩
     clear HG1 hB1))
  go_wp2_with fail
  have hBd : Below w.heap.size w W1.drew := bl_drew Q1.out.2
  have hMd : MapAt Tryz.prog 3 W1.drew gm m (encP pend) := Q.out.1.below hBd hb5
  obtain ⟨W2, upd3, hM2, hturn⟩ := hMd.store Tryz.underlying3 Tryz.underlying109 hm hi (.agg (((fullS bs).map u8).toArray))
  have hfl : ((fullS bs).map u8).length = 512 := by rw [List.length_map, fullS_length (by rw [hl.out]; exact hn)]
  have hu := Tryz.underlying113
  have hinf : (Tryz.prog.info? 113).map (·.size) = some ((fullS bs).map u8).length := by rw [hfl]; exact sizeSec
  have hone := u8_one (fullS bs)
  have hrg : W1.rangeAt w.heap.size 0 ((fullS bs).map u8) := range_of_cells Q1.out.1 (by rw [List.drop_zero, List.take_length])
  have hG2 := hturn.grown
  have hz1 : w.heap.size < W1.heap.size := (Array.getElem?_eq_some_iff.1 Q1.out.1).1
  have hz2 : w.heap.size ≤ W1.heap.size := Q1.out.2.size
  have blkd : ∀ b, b < w.heap.size → W1.drew.heap[b]? = w.heap[b]? := fun b h => hBd.block b h
  have blk2 : ∀ b, b < W1.heap.size → b ≠ gm → W2.heap[b]? = W1.drew.heap[b]? := fun b h hne => hG2.block b h (fun e => hne (by injection e))
  have S1 : W1.drew.cell? ⟨b3, 0, none⟩ = some (.pointer (some ⟨gd, 0, none⟩)) ∧ W1.drew.cell? ⟨b4, 0, none⟩ = some (.int .i64 i) ∧ W1.drew.cell? ⟨gd, 1, none⟩ = some (.map (some gm)) ∧ W1.drew.rangeAt w.heap.size 0 ((fullS bs).map u8) :=
    ⟨(hBd.cell (p := ⟨b3, 0, none⟩) l3).trans k3, (hBd.cell (p := ⟨b4, 0, none⟩) l4).trans k4, (hBd.cell (p := ⟨gd, 1, none⟩) hgd).trans hd, hrg⟩
  have S2 : W2.cell? ⟨b3, 0, none⟩ = some (.pointer (some ⟨gd, 0, none⟩)) ∧ W2.cell? ⟨b4, 0, none⟩ = some (.int .i64 i) ∧ W2.cell? ⟨gd, 1, none⟩ = some (.map (some gm)) ∧ W2.rangeAt w.heap.size 0 ((fullS bs).map u8) := by
    obtain ⟨n1, n2, n3⟩ := hgmn.out
    refine ⟨(World.cell?_of_block (w := W1.drew) (a := ⟨b3, 0, none⟩) (blk2 b3 (Nat.lt_of_lt_of_le l3 hz2) (Ne.symm n1))).trans S1.1, (World.cell?_of_block (w := W1.drew) (a := ⟨b4, 0, none⟩) (blk2 b4 (Nat.lt_of_lt_of_le l4 hz2) (Ne.symm n2))).trans S1.2.1, (World.cell?_of_block (w := W1.drew) (a := ⟨gd, 1, none⟩) (blk2 gd (Nat.lt_of_lt_of_le hgd hz2) (Ne.symm n3))).trans S1.2.2.1, fun j v hv => ?_⟩
    exact (World.cell?_of_block (w := W1.drew) (a := ⟨w.heap.size, 0 + j, none⟩) (blk2 w.heap.size hz1 (by omega))).trans (S1.2.2.2 j v hv)
  have R2 : Aside (MapAt Tryz.prog 3 W2 gm (m + 1) (encP (fun j => if j = i then some (fullS bs) else pend j)) ∧ W1.drew.grownBy W2 (some gm)) := ⟨by rw [← encP_upd]; exact hM2, hG2⟩
  clear hM2 hG2 hturn hMd blkd blk2 hrg
  go_region_held3 (fun w' => w'.cell? ⟨b3, 0, none⟩ = some (.pointer (some ⟨gd, 0, none⟩)) ∧ w'.cell? ⟨b4, 0, none⟩ = some (.int .i64 i) ∧ w'.cell? ⟨gd, 1, none⟩ = some (.map (some gm)) ∧ w'.rangeAt w.heap.size 0 ((fullS bs).map u8))
    (first | exact S1 | exact S2) (fail)
  go_end0
  refine ⟨rfl, R2.out.1, ?_⟩
  exact (Fr.of_below Q1.out.2 (· = gm)).trans (Fr.of_only (gr_undrew R2.out.2)) (fun _ _ h => h)

end Go.Proofs.YthfidlhefkjpdaaGreatDoor

namespace Go.Proofs.YthfidlhefkjpdaaGreatDoor
open Go.RowKit

theorem RdB.fr {w w' : World} {T : Nat → Prop} {A : Option Addr} {n : Nat} {bs : List UInt8} (h : RdB w A n bs) (hf : Fr T w w') (hT : ∀ b o, 0 < n → A = some ⟨b, o, none⟩ → ¬ T b) : RdB w' A n bs := by
  refine ⟨h.1, fun h0 => ?_⟩
  obtain ⟨b, o, rfl, hb, hc⟩ := h.2 h0
  refine ⟨b, o, rfl, Nat.lt_of_lt_of_le hb hf.size, fun i hi => ?_⟩
  rw [World.cell?_of_block (w := w) (hf.block b hb (hT b o h0 rfl))]
  exact hc i hi

theorem rd_ne_disk {w : World} {A : Option Addr} {n gd : Nat} {bs : List UInt8} {a b c : Value} {s : Int} {x : Bool} (h : RdB w A n bs) (ha : ∀ k v, a ≠ .int k v) (hb : ∀ k v, b ≠ .int k v) (hc : ∀ k v, c ≠ .int k v)
    (hB : Blk w gd 111 #[a, b, c, .int .i64 s, .bool x]) : ∀ g o, 0 < n → A = some ⟨g, o, none⟩ → g ≠ gd := by
  rintro g o h0 rfl rfl
  obtain ⟨b', o', e, _, hcc⟩ := h.2 h0
  injection e with e
  injection e with e1 e2
  subst e1 e2
  have hl := h.1
  have hx := hcc 0 (by omega)
  rw [Nat.add_zero, hB.cell o] at hx
  obtain ⟨z, hx⟩ : ∃ z, (#[a, b, c, .int .i64 s, .bool x] : Array Value)[o]? = some (.int .u8 z) := ⟨_, hx⟩
  clear hcc h hB
  match o, hx with
  | 0, hx => simp at hx; exact ha _ _ hx
  | 1, hx => simp at hx; exact hb _ _ hx
  | 2, hx => simp at hx; exact hc _ _ hx
  | 3, hx => simp at hx
  | 4, hx => simp at hx
  | o + 5, hx => simp at hx

/-- the disk behind a write -/
def Dk.write (D : Dk) (i : Nat) (bs : List UInt8) : Dk := { D with pend := fun j => if j = (i : Int) then some (fullS bs) else D.pend j, steps := D.steps + 1 }

set_option maxRecDepth 100000 in
set_option maxHeartbeats 2000000 in
theorem write_any (gd gs gm : Nat) (D : Dk) (i n c : Nat) (A : Option Addr) (bs : List UInt8) (w : World) (hD : DiskAt w gd gs gm D) (hw : D.wf) (hp : D.plan = []) (hoff : D.off = false) (hi : i < D.sec.length)
    (hR : RdB w A n bs) (hn : n ≤ 512) :
    Calls Tryz.prog 81 #[.pointer (some ⟨gd, 0, none⟩), .int .i64 (i : Int), .slice A n c] w fun e w' => e = .returned (.int .i64 0) ∧
      DiskAt w' gd gs gm (D.write i bs) ∧ Fr (fun b => b = gd ∨ b = gm) w w' := by
  obtain ⟨pv, m, hB, hS, hM, hms, hP⟩ := hD
  rw [hp] at hP
  obtain ⟨PA, pc, rfl⟩ : ∃ PA pc, pv = .slice PA 0 pc := by
    obtain ⟨_, ⟨h, _⟩ | ⟨g, cap, cur, h, _⟩⟩ := hP
    · exact ⟨_, _, h⟩
    · exact ⟨_, _, h⟩
  rw [hoff] at hB
  have hwf : wf64 (i : Int) := by have := hw.n; unfold wf64; omega
  have hs0 := hw.s0
  have hs1 := hw.s1
  have hnn := hw.n
  have c0 := hB.cell 0
  have c4 := hB.cell 4
  simp only [List.getElem?_toArray, List.getElem?_cons_succ, List.getElem?_cons_zero] at c0 c4
  have hgd := hB.lt
  have l1 := hM.lt
  obtain ⟨W0, hW0⟩ : ∃ W0, (((w.alloc (.cells #[.pointer (some ⟨gd, 0, none⟩)] 24)).alloc (.cells #[.int .i64 (i : Int)] 3)).alloc (.cells #[.slice A n c] 43)) = W0 := ⟨_, rfl⟩
  have hb0 : Below w.heap.size w W0 := by rw [← hW0]; exact bl_alloc (bl_alloc (bl_alloc (Below.refl _ _) _) _) _
  have b3 : Boxed W0 w.heap.size 24 (.pointer (some ⟨gd, 0, none⟩)) := by
    rw [← hW0]; exact ((Boxed.new w 24 (.pointer (some ⟨gd, 0, none⟩))).alloc _).alloc _
  have b4 : Boxed W0 (w.heap.size + 1) 3 (.int .i64 (i : Int)) := by
    rw [← hW0]
    have := Boxed.new (w.alloc (.cells #[.pointer (some ⟨gd, 0, none⟩)] 24)) 3 (.int .i64 (i : Int))
    rw [World.size_alloc] at this
    exact this.alloc _
  have b5 : Boxed W0 (w.heap.size + 1 + 1) 43 (.slice A n c) := by
    rw [← hW0]
    have := Boxed.new ((w.alloc (.cells #[.pointer (some ⟨gd, 0, none⟩)] 24)).alloc (.cells #[.int .i64 (i : Int)] 3)) 43 (.slice A n c)
    rw [World.size_alloc, World.size_alloc] at this
    exact this
  have k3 := b3.cell
  have k4 := b4.cell
  have k5 := b5.cell
  have k0 := ((bcell hb0).1 gd 0 hgd).trans c0
  have kd := ((bcell hb0).1 gd 4 hgd).trans c4
  have HB : Aside (Blk w gd 111 #[.slice (some ⟨gs, 0, none⟩) D.sec.length D.sec.length, .map (some gm), .slice PA 0 pc, .int .i64 D.steps, .bool false] ∧ Below w.heap.size w W0 ∧
    Boxed W0 w.heap.size 24 (.pointer (some ⟨gd, 0, none⟩)) ∧ Boxed W0 (w.heap.size + 1) 3 (.int .i64 (i : Int)) ∧ Boxed W0 (w.heap.size + 1 + 1) 43 (.slice A n c)) := ⟨hB, hb0, b3, b4, b5⟩
  have h1 : decide ((i : Int) < 0) = false := by simp
  have h2 : decide (D.sec.length ≤ i) = false := by simp; omega
  have h3 : decide ((512 : Int) < (n : Int)) = false := by simp; omega
  have HH : Aside (D.wf ∧ w.heap[gs]? = some (.cells (cellsB (flat D.sec)) 113 (0, 0)) ∧ MapAt Tryz.prog 3 w gm m (encP D.pend) ∧ (m : Int) ≤ D.steps ∧ w.ownsRow 0 76 2 (.slice PA 0 pc) 0 [] ∧ RdB w A n bs ∧ D.plan = [] ∧ D.off = false ∧ i < D.sec.length) := ⟨hw, hS, hM, hms, hP, hR, hp, hoff, hi⟩
  clear hw hS hM hms hP hR hp hoff hB hb0 b3 b4 b5 c0 c4
  obtain ⟨ns, hns⟩ : ∃ ns, D.sec.length = ns := ⟨_, rfl⟩
  rw [hns] at k0 h2 hi hnn
  have hns := hid hns
  have hmf : ∀ (fn : Fn) (first cap : Array Value) (w : World), (Instr.makeFunc fn first cap).run Tryz.prog w = .ok (.func fn first cap) w := fun _ _ _ _ => rfl
  go_enter Tryz.func81, Tryz.ntmps81
  go_wp2_with fail
  try rw [hW0]
  clear hW0
  have S0 : W0.cell? ⟨w.heap.size, 0, none⟩ = some (.pointer (some ⟨gd, 0, none⟩)) ∧ W0.cell? ⟨w.heap.size + 1, 0, none⟩ = some (.int .i64 (i : Int)) ∧ W0.cell? ⟨w.heap.size + 1 + 1, 0, none⟩ = some (.slice A n c) ∧ W0.cell? ⟨gd, 0, none⟩ = some (.slice (some ⟨gs, 0, none⟩) ns ns) := ⟨k3, k4, k5, k0⟩
  go_region_held3 (fun w' => w'.cell? ⟨w.heap.size, 0, none⟩ = some (.pointer (some ⟨gd, 0, none⟩)) ∧ w'.cell? ⟨w.heap.size + 1, 0, none⟩ = some (.int .i64 (i : Int)) ∧ w'.cell? ⟨w.heap.size + 1 + 1, 0, none⟩ = some (.slice A n c) ∧ w'.cell? ⟨gd, 0, none⟩ = some (.slice (some ⟨gs, 0, none⟩) ns ns)) (exact S0) (fail)
  go_wp2_with fail
  obtain ⟨W1, hW1⟩ : ∃ W1, W0.drew = W1 := ⟨_, rfl⟩
  have hb1 : Below w.heap.size w W1 := by rw [← hW1]; exact bl_drew HB.out.2.1
  have b3 : Boxed W1 w.heap.size 24 (.pointer (some ⟨gd, 0, none⟩)) := by rw [← hW1]; exact HB.out.2.2.1
  have b4 : Boxed W1 (w.heap.size + 1) 3 (.int .i64 (i : Int)) := by rw [← hW1]; exact HB.out.2.2.2.1
  have b5 : Boxed W1 (w.heap.size + 1 + 1) 43 (.slice A n c) := by rw [← hW1]; exact HB.out.2.2.2.2
  rw [hW1]
  clear hW1 S0 k3 k4 k5 k0 kd
  obtain ⟨hwD, hS, hM, hms, hP, hR, hp, hoff, hi'⟩ := HH.out
  have hB1 := HB.out.1.below hb1 hgd
  have hM1 := hM.below hb1 l1
  have hR1 := hR.below hb1
  have hgmd : gm ≠ gd := by
    have := HB.out.1.cell 0
    exact hM.ne_cell this
  have hz := hb1.size
  have hdata := rd_ne_disk hR1 (fun _ _ h => by cases h) (fun _ _ h => by cases h) (fun _ _ h => by cases h) hB1
  refine (dstep_none gd 120 _ _ _ PA pc D.steps W1 (· = gm) (fun W W' => MapAt Tryz.prog 3 W' gm (m + 1) (encP (fun j => if j = (i : Int) then some (fullS bs) else D.pend j))) hB1 hwD.s0 hwD.s1 (fun b hb => by rw [hb]; exact hM1.lt) (enters_of Tryz.func120 (by kernel_rfl) rfl) ?_).mono ?_
  · intro W hF hBW
    have e3 : Boxed W w.heap.size 24 (.pointer (some ⟨gd, 0, none⟩)) := (hF.block _ b3.lt (by omega)).trans b3
    have e4 : Boxed W (w.heap.size + 1) 3 (.int .i64 (i : Int)) := (hF.block _ b4.lt (by omega)).trans b4
    have e5 : Boxed W (w.heap.size + 1 + 1) 43 (.slice A n c) := (hF.block _ b5.lt (by omega)).trans b5
    have hMW : MapAt Tryz.prog 3 W gm m (encP D.pend) := hM1.block (hF.block _ hM1.lt hgmd)
    have hc1 := hBW.cell 1
    simp only [List.getElem?_toArray, List.getElem?_cons_succ, List.getElem?_cons_zero] at hc1
    exact wdo_any gd gm m _ _ _ n c i A bs D.pend W e3 e4 e5 hc1 hBW.lt hMW (hR1.fr hF (fun b o h0 e => hdata b o h0 e)) hn hwf (by unfold maxLen; omega)
  · rintro e w' ⟨rfl, W, W', hF1, hBW, hM', hF2, hz2, hb3, hz3⟩
    have hgl1 : gd < W1.heap.size := hB1.lt
    have hF0 : Fr (fun b => b = gd ∨ b = gm) w W' := (Fr.of_below hb1 (fun b => b = gd ∨ b = gm)).trans ((hF1.mono (fun _ _ h => .inl h)).trans hF2 (fun _ _ h => .inr h)) (fun _ _ h => h)
    have hF : Fr (fun b => b = gd ∨ b = gm) w w' := ⟨hb3.os.trans hF0.os, hb3.tape.trans hF0.tape, hb3.output.trans hF0.output, Nat.le_trans hF0.size hz3, fun b hb hn => (hb3.block b (by omega)).trans (hF0.block b hb hn)⟩
    go_wp2
    go_ret
    refine ⟨rfl, ⟨.slice PA 0 pc, m + 1, ?_, ?_, ?_, ?_, ?_⟩, hF⟩
    · have h1 : Blk W' gd 111 #[.slice (some ⟨gs, 0, none⟩) D.sec.length D.sec.length, .map (some gm), .slice PA 0 pc, .int .i64 (D.steps + 1), .bool false] := hBW.fr hF2 (fun h => hgmd h.symm)
      have h2 := h1.below hb3 (by omega)
      rw [show (D.write i bs).off = false from hoff]
      exact h2
    · have hgs := (Array.getElem?_eq_some_iff.1 hS).1
      refine (hF.block gs hgs ?_).trans hS
      rintro (h | h)
      · subst h
        exact HB.out.1.ty.ne ⟨_, _, hS⟩ (by decide)
      · subst h
        obtain ⟨_, ⟨es, c', h1, _⟩, _⟩ := hM
        rw [hS] at h1
        cases h1
    · exact hM'.below hb3 (by have := hM'.lt; omega)
    · show ((m + 1 : Nat) : Int) ≤ D.steps + 1
      omega
    · show w'.ownsRow 0 76 2 (.slice PA 0 pc) D.plan.length (D.plan.flatMap encF)
      rw [hp]
      exact own_fr hP hF (fun b hb' => by
        have ht := own_ty hP hb'
        rintro (h | h)
        · subst h; exact ht.ne HB.out.1.ty (by decide)
        · subst h
          obtain ⟨_, ⟨es, c', h1, _⟩, _⟩ := hM
          obtain ⟨cs, fr, h2⟩ := ht
          rw [h1] at h2
          cases h2)

end Go.Proofs.YthfidlhefkjpdaaGreatDoor

namespace Go.Proofs.YthfidlhefkjpdaaGreatDoor
open Go.RowKit

/-- What a step answers under fate k. -/
def fateE (k : Int) : Int := if k = 1 then 71 else if k = 2 then 70 else if k = 3 then 70 else 0
/-- The disk behind a step under fate k: D before it, D1 where it was done. -/
def Dk.fated (D D1 : Dk) (k : Int) : Dk := if k = 1 then { D with steps := D.steps + 1 } else if k = 2 then { D with steps := D.steps + 1, off := true } else if k = 3 then { D1 with off := true } else D1
theorem fated_0 (D D1 : Dk) : D.fated D1 0 = D1 ∧ fateE 0 = 0 := ⟨rfl, rfl⟩

/-- Behind a turn of the disk's own block alone, from a world that the frame reaches. -/
theorem fr_back {T : Nat → Prop} {w W w' : World} {n : Nat} (h : Fr T w W) (hb : Below n W w') (hn : w.heap.size ≤ n) (hz : W.heap.size ≤ w'.heap.size) : Fr T w w' :=
  ⟨hb.os.trans h.os, hb.tape.trans h.tape, hb.output.trans h.output, Nat.le_trans h.size hz, fun b hb' hnT => (hb.block b (by omega)).trans (h.block b hb' hnT)⟩
theorem RdF.below {w w' : World} {A : Option Addr} {fs : List (Int × Int)} (h : RdF w A fs) (hb : Below w.heap.size w w') : RdF w' A fs := fun h0 => by
  obtain ⟨b, o, e, hl, hc⟩ := h h0
  refine ⟨b, o, e, Nat.lt_of_lt_of_le hl hb.size, fun i hi => ?_⟩
  exact ⟨(hb.cell (p := ⟨b, o + i * 2, none⟩) hl).trans (hc i hi).1, (hb.cell (p := ⟨b, o + i * 2 + 1, none⟩) hl).trans (hc i hi).2⟩
/-- The disk put together again behind a call. -/
theorem disk_back {w w' : World} {gd gs gm m' : Nat} {D D' : Dk} {PA : Option Addr} {pc : Nat} (hS : w.heap[gs]? = some (.cells (cellsB (flat D.sec)) 113 (0, 0)))
    (hP : w.ownsRow 0 76 2 (.slice PA D.plan.length pc) D.plan.length (D.plan.flatMap encF)) (hF : Fr (fun b => b = gd ∨ b = gm) w w') (hg1 : gs ≠ gd) (hg2 : gs ≠ gm) (hPn : ∀ b, (Value.slice PA D.plan.length pc).ownBlock = some b → b ≠ gd ∧ b ≠ gm)
    (hB' : Blk w' gd 111 #[.slice (some ⟨gs, 0, none⟩) D.sec.length D.sec.length, .map (some gm), .slice PA D.plan.length pc, .int .i64 D'.steps, .bool D'.off])
    (hM' : MapAt Tryz.prog 3 w' gm m' (encP D'.pend)) (hms : (m' : Int) ≤ D'.steps) (e1 : D'.sec = D.sec) (e2 : D'.plan = D.plan) : DiskAt w' gd gs gm D' := by
  refine ⟨.slice PA D.plan.length pc, m', by rw [e1]; exact hB', ?_, hM', hms, ?_⟩
  · rw [e1]
    exact (hF.block gs (Array.getElem?_eq_some_iff.1 hS).1 (fun h => by rcases h with h | h; exact hg1 h; exact hg2 h)).trans hS
  · rw [e2]
    exact own_fr hP hF (fun b hb h => by rcases h with h | h; exact (hPn b hb).1 h; exact (hPn b hb).2 h)

theorem blk_off {W : World} {gd : Nat} {a b c : Value} {s : Int} {x : Bool} (h : Blk W gd 111 #[a, b, c, .int .i64 s, .bool x]) : Blk (W.setCell ⟨gd, 4, none⟩ (.bool true)) gd 111 #[a, b, c, .int .i64 s, .bool true] := h.set_ 4 _

set_option maxRecDepth 100000 in
set_option maxHeartbeats 2000000 in
theorem write_plan (gd gs gm : Nat) (D : Dk) (i n c : Nat) (A : Option Addr) (bs : List UInt8) (w : World) (hD : DiskAt w gd gs gm D) (hw : D.wf) (hpl : D.plan.length ≤ 70368744175616) (hoff : D.off = false) (hi : i < D.sec.length)
    (hR : RdB w A n bs) (hn : n ≤ 512) :
    Calls Tryz.prog 81 #[.pointer (some ⟨gd, 0, none⟩), .int .i64 (i : Int), .slice A n c] w fun e w' => e = .returned (.int .i64 (fateE (kindOf D.plan (D.steps + 1)))) ∧
      DiskAt w' gd gs gm (D.fated (D.write i bs) (kindOf D.plan (D.steps + 1))) ∧ Fr (fun b => b = gd ∨ b = gm) w w' := by
  obtain ⟨pv, m, hB, hS, hM, hms, hP⟩ := hD
  obtain ⟨PA, pc, rfl⟩ : ∃ PA pc, pv = .slice PA D.plan.length pc := by
    obtain ⟨_, ⟨h, h0⟩ | ⟨g, cap, cur, h, _⟩⟩ := hP
    · exact ⟨none, 0, by rw [h, h0]⟩
    · exact ⟨_, _, h⟩
  rw [hoff] at hB
  obtain ⟨pn, hpn⟩ : ∃ pn, D.plan.length = pn := ⟨_, rfl⟩
  rw [hpn] at hB hP
  have HPN := hid hpn
  clear hpn
  have hwf : wf64 (i : Int) := by have := hw.n; unfold wf64; omega
  have hs0 := hw.s0
  have hs1 := hw.s1
  have hnn := hw.n
  have c0 := hB.cell 0
  have c4 := hB.cell 4
  simp only [List.getElem?_toArray, List.getElem?_cons_succ, List.getElem?_cons_zero] at c0 c4
  have hgd := hB.lt
  have l1 := hM.lt
  obtain ⟨W0, hW0⟩ : ∃ W0, (((w.alloc (.cells #[.pointer (some ⟨gd, 0, none⟩)] 24)).alloc (.cells #[.int .i64 (i : Int)] 3)).alloc (.cells #[.slice A n c] 43)) = W0 := ⟨_, rfl⟩
  have hb0 : Below w.heap.size w W0 := by rw [← hW0]; exact bl_alloc (bl_alloc (bl_alloc (Below.refl _ _) _) _) _
  have b3 : Boxed W0 w.heap.size 24 (.pointer (some ⟨gd, 0, none⟩)) := by
    rw [← hW0]; exact ((Boxed.new w 24 (.pointer (some ⟨gd, 0, none⟩))).alloc _).alloc _
  have b4 : Boxed W0 (w.heap.size + 1) 3 (.int .i64 (i : Int)) := by
    rw [← hW0]
    have := Boxed.new (w.alloc (.cells #[.pointer (some ⟨gd, 0, none⟩)] 24)) 3 (.int .i64 (i : Int))
    rw [World.size_alloc] at this
    exact this.alloc _
  have b5 : Boxed W0 (w.heap.size + 1 + 1) 43 (.slice A n c) := by
    rw [← hW0]
    have := Boxed.new ((w.alloc (.cells #[.pointer (some ⟨gd, 0, none⟩)] 24)).alloc (.cells #[.int .i64 (i : Int)] 3)) 43 (.slice A n c)
    rw [World.size_alloc, World.size_alloc] at this
    exact this
  have k3 := b3.cell
  have k4 := b4.cell
  have k5 := b5.cell
  have k0 := ((bcell hb0).1 gd 0 hgd).trans c0
  have kd := ((bcell hb0).1 gd 4 hgd).trans c4
  have HB : Aside (Blk w gd 111 #[.slice (some ⟨gs, 0, none⟩) D.sec.length D.sec.length, .map (some gm), .slice PA pn pc, .int .i64 D.steps, .bool false] ∧ Below w.heap.size w W0 ∧
    Boxed W0 w.heap.size 24 (.pointer (some ⟨gd, 0, none⟩)) ∧ Boxed W0 (w.heap.size + 1) 3 (.int .i64 (i : Int)) ∧ Boxed W0 (w.heap.size + 1 + 1) 43 (.slice A n c)) := ⟨hB, hb0, b3, b4, b5⟩
  have h1 : decide ((i : Int) < 0) = false := by simp
  have h2 : decide (D.sec.length ≤ i) = false := by simp; omega
  have h3 : decide ((512 : Int) < (n : Int)) = false := by simp; omega
  have HH : Aside (D.wf ∧ w.heap[gs]? = some (.cells (cellsB (flat D.sec)) 113 (0, 0)) ∧ MapAt Tryz.prog 3 w gm m (encP D.pend) ∧ (m : Int) ≤ D.steps ∧ w.ownsRow 0 76 2 (.slice PA pn pc) pn (D.plan.flatMap encF) ∧ RdB w A n bs ∧ D.plan.length ≤ 70368744175616 ∧ D.off = false ∧ i < D.sec.length) := ⟨hw, hS, hM, hms, hP, hR, hpl, hoff, hi⟩
  clear hw hS hM hms hP hR hpl hoff hB hb0 b3 b4 b5 c0 c4
  obtain ⟨ns, hns⟩ : ∃ ns, D.sec.length = ns := ⟨_, rfl⟩
  rw [hns] at k0 h2 hi hnn
  have hns := hid hns
  have hmf : ∀ (fn : Fn) (first cap : Array Value) (w : World), (Instr.makeFunc fn first cap).run Tryz.prog w = .ok (.func fn first cap) w := fun _ _ _ _ => rfl
  go_enter Tryz.func81, Tryz.ntmps81
  go_wp2_with fail
  try rw [hW0]
  clear hW0
  have S0 : W0.cell? ⟨w.heap.size, 0, none⟩ = some (.pointer (some ⟨gd, 0, none⟩)) ∧ W0.cell? ⟨w.heap.size + 1, 0, none⟩ = some (.int .i64 (i : Int)) ∧ W0.cell? ⟨w.heap.size + 1 + 1, 0, none⟩ = some (.slice A n c) ∧ W0.cell? ⟨gd, 0, none⟩ = some (.slice (some ⟨gs, 0, none⟩) ns ns) := ⟨k3, k4, k5, k0⟩
  go_region_held3 (fun w' => w'.cell? ⟨w.heap.size, 0, none⟩ = some (.pointer (some ⟨gd, 0, none⟩)) ∧ w'.cell? ⟨w.heap.size + 1, 0, none⟩ = some (.int .i64 (i : Int)) ∧ w'.cell? ⟨w.heap.size + 1 + 1, 0, none⟩ = some (.slice A n c) ∧ w'.cell? ⟨gd, 0, none⟩ = some (.slice (some ⟨gs, 0, none⟩) ns ns)) (exact S0) (fail)
  go_wp2_with fail
  obtain ⟨W1, hW1⟩ : ∃ W1, W0.drew = W1 := ⟨_, rfl⟩
  have hb1 : Below w.heap.size w W1 := by rw [← hW1]; exact bl_drew HB.out.2.1
  have b3 : Boxed W1 w.heap.size 24 (.pointer (some ⟨gd, 0, none⟩)) := by rw [← hW1]; exact HB.out.2.2.1
  have b4 : Boxed W1 (w.heap.size + 1) 3 (.int .i64 (i : Int)) := by rw [← hW1]; exact HB.out.2.2.2.1
  have b5 : Boxed W1 (w.heap.size + 1 + 1) 43 (.slice A n c) := by rw [← hW1]; exact HB.out.2.2.2.2
  rw [hW1]
  clear hW1 S0 k3 k4 k5 k0 kd
  obtain ⟨hwD, hS, hM, hms, hP, hR, hpl, hoff, hi'⟩ := HH.out
  have hB0 := HB.out.1
  have hPN := HPN.out
  subst hPN
  have hRF := (RdF.of_own hP).2
  have hB1 := hB0.below hb1 hgd
  have hM1 := hM.below hb1 l1
  have hR1 := hR.below hb1
  have hgmd : gm ≠ gd := by
    have := hB0.cell 0
    exact hM.ne_cell this
  have hgl := (Array.getElem?_eq_some_iff.1 hS).1
  have hgsd : gs ≠ gd := fun h => by
    subst h
    exact hB0.ty.ne ⟨_, _, hS⟩ (by decide)
  have hgsm : gs ≠ gm := fun h => by
    subst h
    obtain ⟨_, ⟨es, c', h1, _⟩, _⟩ := hM
    rw [hS] at h1
    cases h1
  have hPn : ∀ b, (Value.slice PA D.plan.length pc).ownBlock = some b → b ≠ gd ∧ b ≠ gm := fun b hb' => by
    have ht := own_ty hP hb'
    refine ⟨fun h => ?_, fun h => ?_⟩
    · subst h; exact ht.ne hB0.ty (by decide)
    · subst h
      obtain ⟨_, ⟨es, c', h1, _⟩, _⟩ := hM
      obtain ⟨cs, fr, h2⟩ := ht
      rw [h1] at h2
      cases h2
  have hPg : ∀ b o, PA = some ⟨b, o, none⟩ → 0 < D.plan.length → b ≠ gd := fun b o e h0 => by
    subst e
    exact (hPn b rfl).1
  have hz := hb1.size
  have hdata := rd_ne_disk hR1 (fun _ _ h => by cases h) (fun _ _ h => by cases h) (fun _ _ h => by cases h) hB1
  refine (dstep_plan gd 120 _ _ _ PA pc D.plan D.steps W1 (· = gm) (fun W W' => MapAt Tryz.prog 3 W' gm (m + 1) (encP (fun j => if j = (i : Int) then some (fullS bs) else D.pend j))) hB1 hwD.s0 hwD.s1 (fun b hb => by rw [hb]; exact hM1.lt) (fun e => hgmd e.symm) hpl (hRF.below hb1) hPg (enters_of Tryz.func120 (by kernel_rfl) rfl) ?_).mono ?_
  · intro W hF hBW
    have e3 : Boxed W w.heap.size 24 (.pointer (some ⟨gd, 0, none⟩)) := (hF.block _ b3.lt (by omega)).trans b3
    have e4 : Boxed W (w.heap.size + 1) 3 (.int .i64 (i : Int)) := (hF.block _ b4.lt (by omega)).trans b4
    have e5 : Boxed W (w.heap.size + 1 + 1) 43 (.slice A n c) := (hF.block _ b5.lt (by omega)).trans b5
    have hMW : MapAt Tryz.prog 3 W gm m (encP D.pend) := hM1.block (hF.block _ hM1.lt hgmd)
    have hc1 := hBW.cell 1
    simp only [List.getElem?_toArray, List.getElem?_cons_succ, List.getElem?_cons_zero] at hc1
    exact wdo_any gd gm m _ _ _ n c i A bs D.pend W e3 e4 e5 hc1 hBW.lt hMW (hR1.fr hF (fun b o h0 e => hdata b o h0 e)) hn hwf (by unfold maxLen; omega)
  · rintro e w' ⟨W, hF1, hBW, hcase⟩
    have hFW : Fr (fun b => b = gd ∨ b = gm) w W := (Fr.of_below hb1 (fun b => b = gd ∨ b = gm)).trans (hF1.mono (fun _ _ h => .inl h)) (fun _ _ h => h)
    have hMW : MapAt Tryz.prog 3 W gm m (encP D.pend) := hM1.block (hF1.block _ hM1.lt hgmd)
    have hgl1 : gd < W1.heap.size := hB1.lt
    have hglm : gm < W1.heap.size := hM1.lt
    have hmW := hMW.lt
    rcases hcase with ⟨hk, rfl, W', hM', hF2, hz2, hb3, hz3⟩ | ⟨hk, rfl, hb3, hz3⟩ | ⟨hk, rfl, hb3, hz3⟩ | ⟨hk, rfl, W', hM', hF2, hz2, hb3, hz3⟩
    · have hF := fr_back (hFW.trans hF2 (fun _ _ h => .inr h)) hb3 hz hz3
      have HK := hid hk
      clear hk
      go_wp2
      go_ret
      rw [HK.out]
      refine ⟨rfl, disk_back (D' := D.write i bs) (m' := m + 1) hS hP hF hgsd hgsm hPn ?_ (hM'.below hb3 (by have := hM'.lt; omega)) (by show ((m + 1 : Nat) : Int) ≤ D.steps + 1; omega) rfl rfl, hF⟩
      have h2 := (hBW.fr hF2 (fun h => hgmd h.symm)).below hb3 hgl1
      rw [show (D.write i bs).off = false from hoff]
      exact h2
    · have hF := fr_back hFW hb3 hz hz3
      have HK := hid hk
      clear hk
      go_wp2
      go_ret
      rw [HK.out]
      refine ⟨rfl, disk_back (D' := { D with steps := D.steps + 1 }) (m' := m) hS hP hF hgsd hgsm hPn ?_ (hMW.below hb3 hglm) (by show (m : Int) ≤ D.steps + 1; omega) rfl rfl, hF⟩
      rw [show ({ D with steps := D.steps + 1 } : Dk).off = false from hoff]
      exact hBW.below hb3 hgl1
    · have hF := fr_back (hFW.set (p := ⟨gd, 4, none⟩) (.inl (.inl rfl)) (.bool true)) hb3 hz (by simpa [World.setCell] using hz3)
      have HK := hid hk
      clear hk
      go_wp2
      go_ret
      rw [HK.out]
      refine ⟨rfl, disk_back (D' := { D with steps := D.steps + 1, off := true }) (m' := m) hS hP hF hgsd hgsm hPn ?_ ((hMW.block (Below.heap_setCell _ _ _ gm (fun h => hgmd h))).below hb3 hglm) (by show (m : Int) ≤ D.steps + 1; omega) rfl rfl, hF⟩
      exact (blk_off hBW).below hb3 hgl1
    · have hF := fr_back ((hFW.trans hF2 (fun _ _ h => .inr h)).set (p := ⟨gd, 4, none⟩) (.inl (.inl rfl)) (.bool true)) hb3 hz (by simpa [World.setCell] using hz3)
      have HK := hid hk
      clear hk
      go_wp2
      go_ret
      rw [HK.out]
      refine ⟨rfl, disk_back (D' := { D.write i bs with off := true }) (m' := m + 1) hS hP hF hgsd hgsm hPn ?_ ((hM'.block (Below.heap_setCell _ _ _ gm (fun h => hgmd h))).below hb3 hglm) (by show ((m + 1 : Nat) : Int) ≤ D.steps + 1; omega) rfl rfl, hF⟩
      exact (blk_off (hBW.fr hF2 (fun h => hgmd h.symm))).below hb3 hgl1
end Go.Proofs.YthfidlhefkjpdaaGreatDoor

namespace Go.Proofs.YthfidlhefkjpdaaGreatDoor
open Go.RowKit

theorem dsize_any (gd gs gm : Nat) (D : Dk) (w : World) (hD : DiskAt w gd gs gm D) :
    Calls Tryz.prog 119 #[.pointer (some ⟨gd, 0, none⟩)] w fun e w' => e = .returned (.int .i64 (D.sec.length : Int)) ∧ w = w' := by
  obtain ⟨pv, m, hB, _⟩ := hD
  have c0 := hB.cell 0
  simp only [List.getElem?_toArray, List.getElem?_cons_zero] at c0
  clear hB
  go_enter Tryz.func119, Tryz.ntmps119
  go_wp2
  go_ret
  exact ⟨rfl, rfl⟩

set_option maxRecDepth 100000 in
set_option maxHeartbeats 2000000 in
theorem read_any (gd gs gm : Nat) (D : Dk) (i : Nat) (w : World) (hD : DiskAt w gd gs gm D) (hw : D.wf) (hoff : D.off = false) (hi : i < D.sec.length) :
    Calls Tryz.prog 30 #[.pointer (some ⟨gd, 0, none⟩), .int .i64 (i : Int)] w fun e w' => ∃ g, e = .returned (.tuple #[.slice (some ⟨g, 0, none⟩) 512 512, .int .i64 0]) ∧
      w'.heap[g]? = some (.cells (cellsB (D.has i)) 113 (0, 0)) ∧ w.heap.size ≤ g ∧ Below w.heap.size w w' := by
  have hhas := has_any gd gs gm D i w hD hw hi
  have hlen := D.has_len hw hi
  have hnn := hw.n
  obtain ⟨pv, m, hB, _⟩ := hD
  have c0 := hB.cell 0
  have c4 := hB.cell 4
  simp only [List.getElem?_toArray, List.getElem?_cons_succ, List.getElem?_cons_zero] at c0 c4
  rw [hoff] at c4
  obtain ⟨ns, hns⟩ : ∃ ns, D.sec.length = ns := ⟨_, rfl⟩
  rw [hns] at c0 hi hnn
  have h1 : decide ((i : Int) < 0) = false := by simp
  have h2 : decide (ns ≤ i) = false := by simp; omega
  obtain ⟨bs, hbs⟩ : ∃ bs, D.has i = bs := ⟨_, rfl⟩
  rw [hbs] at hhas hlen ⊢
  have hH : Aside (Calls Tryz.prog 55 #[.pointer (some ⟨gd, 0, none⟩), .int .i64 (i : Int)] w fun e w' => e = .returned (.agg (cellsB bs)) ∧ Below w.heap.size w w') := ⟨hhas⟩
  have hsz : (cellsB bs).size = 512 := by rw [cellsB_size, hlen]
  have hl := hid hlen
  clear hhas hB hns hbs hoff hlen
  go_enter Tryz.func30, Tryz.ntmps30
  go_wp2_with fail
  refine hH.out.mono ?_
  rintro e w1 ⟨rfl, hb1⟩
  have st1 := stNew w1 Tryz.zeroCells113 bs w1.heap.size rfl zc_size hl.out
  have B1 : Aside (Below w.heap.size w w1) := ⟨hb1⟩
  clear hb1
  go_wp2_with fail
  go_ret2
  exact ⟨w1.heap.size, rfl, alloc_new w1 _, B1.out.size, bl_alloc B1.out _⟩

end Go.Proofs.YthfidlhefkjpdaaGreatDoor
