/- slices.Backward over no fates; disk.step where nothing is planned.
   disk.Write.
   disk.Write where nothing is planned.
   disk.Read, Size.
   clear(m), and the range over a map, with the maps of Mp.
   disk.settle. -/
import Derived.Test.YthfidlhefkjpdaaGreatDoorSae
import Derived.Test.YthfidlhefkjpdaaGreatDoorSaj
import Derived.Test.YthfidlhefkjpdaaGreatDoorSad
import Derived.Deep.RegionHeld3
import Derived.Maps.RangeWalk
import Derived.Maps.OwnSet
import Derived.Below
namespace Go.Proofs.YthfidlhefkjpdaaGreatDoor
open Go.RowKit Go.Shelf
attribute [local go_sem] Oper.semAt_some

theorem backF_in (F : Fence) (n : Nat) (h5 : F.fn 131) (hro : F.round = none) (A : Option Addr) (len cap : Nat) (w : World) :
    CallsIn F n Tryz.prog 131 #[.slice A len cap] w fun e w' => e = .returned (.func (.func 149) #[] #[.pointer (some ⟨w.heap.size, 0, none⟩)]) ∧ w' = w.alloc (.cells #[.slice A len cap] 52) := by
  have hmf : ∀ (fn : Fn) (first cap : Array Value) (w : World), (Instr.makeFunc fn first cap).run Tryz.prog w = .ok (.func fn first cap) w := fun _ _ _ _ => rfl
  refine callsIn_of_wp Tryz.func131 rfl h5 ?_ hro
  simp only [Tryz.ntmps131, List.size_toArray, List.length_cons, List.length_nil, Nat.reduceAdd, Nat.reduceSub, Array.replicate_succ, Array.replicate_zero, List.push_toArray, List.append_toArray, List.nil_append, List.cons_append]
  gi_wp2
  go_ret
  exact ⟨rfl, rfl⟩

/-- The iterator's contract where there is nothing. -/
theorem backF_none (F : Fence) (n : Nat) (h7 : F.fn 149) (hro : F.round = none) (Bs cap : Nat) (A : Option Addr) (w : World) (hBs : Bs < w.heap.size) (hc : w.cell? ⟨Bs, 0, none⟩ = some (.slice A 0 cap)) :
    SeqStopsK F n Tryz.prog 149 #[.pointer (some ⟨Bs, 0, none⟩)] (fun x : Empty => nomatch x) (fun _ _ => True) (fun ys => ys = []) (fun _ => False) 0 w := fun l J Jx W hW hJ _ hY h0 => by
  have hc' := (hW.cell (p := ⟨Bs, 0, none⟩) hBs).trans hc
  refine CallsIn.mono (R := fun e W' => (∃ v, e = .returned v) ∧ J [] W') ?_ ?_
  · refine callsIn_of_wp Tryz.func149 rfl h7 ?_ hro
    simp only [Tryz.ntmps149, List.size_toArray, List.length_cons, List.length_nil, Nat.reduceAdd, Nat.reduceSub, Array.replicate_succ, Array.replicate_zero, List.push_toArray, List.append_toArray, List.nil_append, List.cons_append]
    gi_wp2
    gi_loopw [3] (fun i wr => i = .int .i64 (-1) ∧ wr = W) (fun i _ => 0)
    case atStart => exact ⟨rfl, rfl⟩
    case round =>
      obtain ⟨rfl, rfl⟩ := hrel
      gi_wp2
      go_end0
      exact ⟨⟨_, rfl⟩, h0⟩
  · rintro e W' ⟨he, hj⟩
    exact ⟨he, .inl ⟨[], rfl, hj⟩⟩

def diskCells (sf pm : Value) (pv : Value) (steps : Int) (off : Bool) : Array Value := #[sf, pm, pv, .int .i64 steps, .bool off]

set_option maxRecDepth 100000 in
set_option maxHeartbeats 2000000 in
/-- 'step' where nothing is planned: the step is counted, and done. -/
theorem dstep_none (gd fdo : Nat) (lb : Array Value) (sf pm : Value) (A : Option Addr) (cap : Nat) (steps : Int) (w : World) (T : Nat → Prop) (R : World → World → Prop)
    (hB : Blk w gd 111 #[sf, pm, .slice A 0 cap, .int .i64 steps, .bool false]) (hs0 : 0 ≤ steps) (hs1 : steps ≤ 1152921504606846976) (hT : ∀ b, T b → b < w.heap.size)
    (edo : ∀ args w, (callFunc fdo args).run Tryz.prog w = .ok (.enter fdo args) w)
    (hdo : ∀ W, Fr (· = gd) w W → Blk W gd 111 #[sf, pm, .slice A 0 cap, .int .i64 (steps + 1), .bool false] → Calls Tryz.prog fdo lb W fun e W' => e = .returned (.tuple #[]) ∧ R W W' ∧ Fr T W W' ) :
    Calls Tryz.prog 95 #[.pointer (some ⟨gd, 0, none⟩), .func (.func fdo) #[] lb] w fun e w' => e = .returned (.int .i64 0) ∧
      ∃ W W', Fr (· = gd) w W ∧ Blk W gd 111 #[sf, pm, .slice A 0 cap, .int .i64 (steps + 1), .bool false] ∧ R W W' ∧ Fr T W W' ∧ W.heap.size ≤ W'.heap.size ∧ Below w.heap.size W' w' ∧ W'.heap.size ≤ w'.heap.size := by
  refine (callsIn_wide (n := 4)).1 ?_
  refine callsIn_of_wp_marks Tryz.func95 rfl trivial ?_ rfl
  simp only [Tryz.ntmps95, List.size_toArray, List.length_cons, List.length_nil, Nat.reduceAdd, Nat.reduceSub, Array.replicate_succ, Array.replicate_zero, List.push_toArray, List.append_toArray, List.nil_append, List.cons_append]
  have c3 := hB.cell 3
  have c2 := hB.cell 2
  have f3 := hB.frozen 3
  simp at c2 c3
  have hgd := hB.lt
  gi_wp2_with (refine ⟨trivial, ?_⟩; gi_at_call 131; refine (backF_in Fence.wide _ trivial rfl _ _ _ _).mono ?_; rintro e w' ⟨rfl, rfl⟩)
  obtain ⟨W0, hW0⟩ : ∃ W0, ((((w.setCell ⟨gd, 3, none⟩ (.int .i64 (steps + 1))).alloc (.cells #[.pointer (some ⟨gd, 0, none⟩)] 24)).alloc (.cells #[.int .i64 0] 3)).alloc (.cells #[.slice A 0 cap] 52)) = W0 := ⟨_, rfl⟩
  have hz0 : W0.heap.size = w.heap.size + 3 := by rw [← hW0]; simp [World.setCell]
  have hF0 : Fr (· = gd) w W0 := by
    rw [← hW0]
    exact ((((Fr.refl (· = gd) w).set (p := ⟨gd, 3, none⟩) (.inl rfl) _).alloc _).alloc _).alloc _
  have hB0 : Blk W0 gd 111 #[sf, pm, .slice A 0 cap, .int .i64 (steps + 1), .bool false] := by
    rw [← hW0]
    have h1 : Blk (w.setCell ⟨gd, 3, none⟩ (.int .i64 (steps + 1))) gd 111 #[sf, pm, .slice A 0 cap, .int .i64 (steps + 1), .bool false] := hB.set_ 3 _
    exact ((h1.fr ((((Fr.refl (fun _ => False) _).alloc _).alloc _).alloc _) (fun h => h)))
  have b0 : Boxed W0 w.heap.size 24 (.pointer (some ⟨gd, 0, none⟩)) := by
    rw [← hW0]
    have := Boxed.new (w.setCell ⟨gd, 3, none⟩ (.int .i64 (steps + 1))) 24 (.pointer (some ⟨gd, 0, none⟩))
    rw [show (w.setCell ⟨gd, 3, none⟩ (.int .i64 (steps + 1))).heap.size = w.heap.size by simp [World.setCell]] at this
    exact (this.alloc _).alloc _
  have b1 : Boxed W0 (w.heap.size + 1) 3 (.int .i64 0) := by
    rw [← hW0]
    have := Boxed.new ((w.setCell ⟨gd, 3, none⟩ (.int .i64 (steps + 1))).alloc (.cells #[.pointer (some ⟨gd, 0, none⟩)] 24)) 3 (.int .i64 0)
    rw [show ((w.setCell ⟨gd, 3, none⟩ (.int .i64 (steps + 1))).alloc (.cells #[.pointer (some ⟨gd, 0, none⟩)] 24)).heap.size = w.heap.size + 1 by simp [World.setCell]] at this
    exact this.alloc _
  have b2 : Boxed W0 (w.heap.size + 1 + 1) 52 (.slice A 0 cap) := by
    rw [← hW0]
    have := Boxed.new (((w.setCell ⟨gd, 3, none⟩ (.int .i64 (steps + 1))).alloc (.cells #[.pointer (some ⟨gd, 0, none⟩)] 24)).alloc (.cells #[.int .i64 0] 3)) 52 (.slice A 0 cap)
    rw [show (((w.setCell ⟨gd, 3, none⟩ (.int .i64 (steps + 1))).alloc (.cells #[.pointer (some ⟨gd, 0, none⟩)] 24)).alloc (.cells #[.int .i64 0] 3)).heap.size = w.heap.size + 1 + 1 by simp [World.setCell]] at this
    exact this
  rw [hW0]
  clear hW0 c2 c3 f3 hB
  refine wpIn_rangeFunc_ownH (α := Empty) rfl (by omega) (gf := 149) (lb := #[.pointer (some ⟨w.heap.size + 1 + 1, 0, none⟩)]) rfl trivial (enters_of Tryz.func149 (by kernel_rfl) rfl)
    (backF_none Fence.wide _ trivial rfl (w.heap.size + 1 + 1) cap A W0 b2.lt b2.cell) (fun _ _ => trivial) (fun _ _ _ _ _ _ _ _ => trivial) (Below.refl _ _) (fun x => nomatch x)
    (fun pre W => Boxed W w.heap.size 24 (.pointer (some ⟨gd, 0, none⟩)) ∧ Boxed W (w.heap.size + 1) 3 (.int .i64 0) ∧ Blk W gd 111 #[sf, pm, .slice A 0 cap, .int .i64 (steps + 1), .bool false] ∧ Fr (· = gd) w W)
    (fun _ _ _ => False)
    ?own
    (fun _ _ _ _ _ hs _ _ => hs)
    ⟨b0, b1, hB0, hF0⟩
    (fun x _ _ => nomatch x) (fun x => nomatch x) (fun _ _ x => nomatch x) (fun _ _ x => nomatch x) ?done ?stop
  case own =>
    intro s X Y row hs hg hr
    obtain ⟨h1, h2, h3, h4⟩ := hs
    have key : ∀ (B : Nat) (cs : Array Value) (t : TypeId), X.heap[B]? = some (.cells cs t (0, 0)) → Y.heap[B]? = some (.cells cs t (0, 0)) := fun B cs t h =>
      (hg.block B (Array.getElem?_eq_some_iff.1 h).1 (fun e => by
        obtain ⟨_, o, ho, hc⟩ := hr B e.symm
        rw [h] at ho
        cases ho
        cases hc)).trans h
    refine ⟨key _ _ _ h1, key _ _ _ h2, key _ _ _ h3, ⟨hg.os.trans h4.os, hg.tape.trans h4.tape, hg.output.trans h4.output, Nat.le_trans h4.size hg.size, fun b hb hn => ?_⟩⟩
    exact (hg.block b (Nat.lt_of_lt_of_le hb h4.size) (fun e => by
      have := (hr b e.symm).1
      omega)).trans (h4.block b hb hn)
  case stop =>
    rintro D c pre W _ h _ _
    exact h.elim
  case done =>
    rintro D xs W hD rfl ⟨h1, h2, h3, h4⟩ hK
    have c5 := h2.cell
    have hcall := hdo W h4 h3
    gi_wp2
    refine ⟨trivial, (callsIn_wide.2 hcall).mono ?_⟩
    rintro e w' ⟨rfl, hR, hF⟩
    have hbx : Boxed w' (w.heap.size + 1) 3 (.int .i64 0) := (hF.block _ h2.lt (fun ht => by have := hT _ ht; omega)).trans h2
    have c5' := hbx.cell
    have hDl : D < W.heap.size := (Array.getElem?_eq_some_iff.1 hK).1
    have hK' : w'.heap[D]? = some (.deferred (some [])) := (hF.block _ hDl (fun ht => by have := hT _ ht; omega)).trans hK
    gi_wp2
    refine ⟨by simp, .inl ⟨_, _, rfl, run_takeDeferred hK', ?_⟩⟩
    refine ⟨_, results_tmp rfl _ _ _, rfl, W, w', h4, h3, hR, hF, hF.size, belowK_b (w := w) (Nat.le_refl _) w' D _ _ (by omega) hK' rfl rfl, ?_⟩
    simp [World.putObj]

end Go.Proofs.YthfidlhefkjpdaaGreatDoor

namespace Go.Proofs.YthfidlhefkjpdaaGreatDoor
open Go.RowKit

theorem szU8 : (Tryz.prog.info? 5).map (·.size) = some 1 := by kernel_rfl

def fullS (bs : List UInt8) : List UInt8 := splice (zeros 512) 0 bs
theorem fullS_length {bs : List UInt8} (h : bs.length ≤ 512) : (fullS bs).length = 512 := by
  rw [fullS, splice_length (by rw [zeros_length]; omega), zeros_length]
theorem fullS_full {bs : List UInt8} (h : bs.length = 512) : fullS bs = bs := by
  unfold fullS splice
  rw [List.take_zero, List.nil_append, Nat.zero_add, List.drop_of_length_le (by rw [zeros_length]; omega), List.append_nil]

theorem encP_upd (pend : Int → Option (List UInt8)) (k : Int) (bs : List UInt8) : upd (encP pend) k (.agg (cellsB bs)) = encP (fun j => if j = k then some bs else pend j) := by
  funext j
  simp only [upd, encP]
  split <;> simp

theorem MapAt.ne_blk {P : Program} {kt : TypeId} {w : World} {b m g : Nat} {f : Int → Option Value} {t : TypeId} {v : Value} (h : MapAt P kt w b m f) (hg : Boxed w g t v) : b ≠ g := by
  rintro rfl
  obtain ⟨D, ⟨es, c, h1, _⟩, _⟩ := h
  rw [show w.heap[b]? = _ from hg] at h1
  cases h1
theorem MapAt.ne_cell {P : Program} {kt : TypeId} {w : World} {b m g o : Nat} {f : Int → Option Value} {v : Value} (h : MapAt P kt w b m f) (hg : w.cell? ⟨g, o, none⟩ = some v) : b ≠ g := by
  rintro rfl
  obtain ⟨D, ⟨es, c, h1, _⟩, _⟩ := h
  unfold World.cell? at hg
  rw [h1] at hg
  cases hg

set_option maxRecDepth 100000 in
set_option maxHeartbeats 2000000 in
theorem wdo_any (gd gm m b3 b4 b5 n c : Nat) (i : Int) (A : Option Addr) (bs : List UInt8) (pend : Int → Option (List UInt8)) (w : World)
    (h3 : Boxed w b3 24 (.pointer (some ⟨gd, 0, none⟩))) (h4 : Boxed w b4 3 (.int .i64 i)) (h5 : Boxed w b5 43 (.slice A n c)) (hd : w.cell? ⟨gd, 1, none⟩ = some (.map (some gm))) (hgd : gd < w.heap.size)
    (hM : MapAt Tryz.prog 3 w gm m (encP pend)) (hR : RdB w A n bs) (hn : n ≤ 512) (hi : wf64 i) (hm : m < maxLen) :
    Calls Tryz.prog 120 #[.pointer (some ⟨b5, 0, none⟩), .pointer (some ⟨b3, 0, none⟩), .pointer (some ⟨b4, 0, none⟩)] w fun e w' => e = .returned (.tuple #[]) ∧
      MapAt Tryz.prog 3 w' gm (m + 1) (encP (fun j => if j = i then some (fullS bs) else pend j)) ∧ Fr (· = gm) w w' := by
  have k3 := h3.cell
  have k4 := h4.cell
  have k5 := h5.cell
  have l3 := h3.lt
  have l4 := h4.lt
  have l5 := h5.lt
  have hl := hid hR.1
  have Q : Aside (MapAt Tryz.prog 3 w gm m (encP pend) ∧ RdB w A n bs) := ⟨hM, hR⟩
  have HG : Aside ((w.alloc (.cells Tryz.zeroCells113 113)).heap[w.heap.size]? = some (.cells ((zeros 512).map u8).toArray 113 (0, 0))) := ⟨by rw [alloc_new, zcSec]; rfl⟩
  have hgmn : Aside (gm ≠ b3 ∧ gm ≠ b4 ∧ gm ≠ gd) := ⟨hM.ne_blk h3, hM.ne_blk h4, hM.ne_cell hd⟩
  have hb5 := hM.lt
  clear hM hR h3 h4 h5
  go_enter Tryz.func120, Tryz.ntmps120
  go_wp2_with fail
  go_region_law (
    ((refine step_copy_splice (o := ⟨some 6, _, _, _, _, _⟩) (by rfl) (.tmp 4) (.tmp 5) 43 43 (by rfl) 5 Tryz.underlying43 szU8 (some ⟨w.heap.size, 0, none⟩) A 512 512 n c (by go_simp) (by go_simp) w.heap.size 0 ((zeros 512).map u8) 113 HG.out (bs.map u8) ?_ ?_ ?_ (u8_one bs) w.heap.size w ?_ (Nat.le_refl _) ?_)
     · rw [List.length_map, hl.out]; exact (Nat.min_eq_left hn).symm
     · intro h0
       rw [List.length_map, hl.out] at h0
       obtain ⟨ad, had, hcs⟩ := Q.out.2.news h0
       exact ⟨rfl, ad, had, hcs _ (bl_drew (bl_alloc (Below.refl _ _) _))⟩
     · rw [List.length_map, List.length_map, zeros_length, hl.out]; omega
     · exact bl_drew (bl_alloc (Below.refl _ _) _)
     intro W1 HG1 hB1
     have Q1 : Aside (W1.heap[w.heap.size]? = some (.cells (cellsB (fullS bs)) 113 (0, 0)) ∧ Below w.heap.size w W1) := ⟨by have := HG1.out; rw [splice_map] at this; exact this, hB1⟩
     clear HG1 hB1))
  go_wp2_with fail
  have hBd : Below w.heap.size w W1.drew := bl_drew Q1.out.2
  have hMd : MapAt Tryz.prog 3 W1.drew gm m (encP pend) := Q.out.1.below hBd hb5
  obtain ⟨W2, upd3, hM2, hturn⟩ := hMd.store Tryz.underlying3 Tryz.underlying109 hm hi (.agg (((fullS bs).map u8).toArray))
  have hfl : ((fullS bs).map u8).length = 512 := by rw [List.length_map, fullS_length (by rw [hl.out]; exact hn)]
  have hu := Tryz.underlying113
  have hinf : (Tryz.prog.info? 113).map (·.size) = some ((fullS bs).map u8).length := by rw [hfl]; exact sizeSec
  have hone := u8_one (fullS bs)
  have hrg : W1.rangeAt w.heap.size 0 ((fullS bs).map u8) := range_of_cells Q1.out.1 (by rw [List.drop_zero, List.take_length])
  have hG2 := hturn.grown
  have hz1 : w.heap.size < W1.heap.size := (Array.getElem?_eq_some_iff.1 Q1.out.1).1
  have hz2 : w.heap.size ≤ W1.heap.size := Q1.out.2.size
  have blkd : ∀ b, b < w.heap.size → W1.drew.heap[b]? = w.heap[b]? := fun b h => hBd.block b h
  have blk2 : ∀ b, b < W1.heap.size → b ≠ gm → W2.heap[b]? = W1.drew.heap[b]? := fun b h hne => hG2.block b h (fun e => hne (by injection e))
  have S1 : W1.drew.cell? ⟨b3, 0, none⟩ = some (.pointer (some ⟨gd, 0, none⟩)) ∧ W1.drew.cell? ⟨b4, 0, none⟩ = some (.int .i64 i) ∧ W1.drew.cell? ⟨gd, 1, none⟩ = some (.map (some gm)) ∧ W1.drew.rangeAt w.heap.size 0 ((fullS bs).map u8) :=
    ⟨(hBd.cell (p := ⟨b3, 0, none⟩) l3).trans k3, (hBd.cell (p := ⟨b4, 0, none⟩) l4).trans k4, (hBd.cell (p := ⟨gd, 1, none⟩) hgd).trans hd, hrg⟩
  have S2 : W2.cell? ⟨b3, 0, none⟩ = some (.pointer (some ⟨gd, 0, none⟩)) ∧ W2.cell? ⟨b4, 0, none⟩ = some (.int .i64 i) ∧ W2.cell? ⟨gd, 1, none⟩ = some (.map (some gm)) ∧ W2.rangeAt w.heap.size 0 ((fullS bs).map u8) := by
    obtain ⟨n1, n2, n3⟩ := hgmn.out
    refine ⟨(World.cell?_of_block (w := W1.drew) (a := ⟨b3, 0, none⟩) (blk2 b3 (Nat.lt_of_lt_of_le l3 hz2) (Ne.symm n1))).trans S1.1, (World.cell?_of_block (w := W1.drew) (a := ⟨b4, 0, none⟩) (blk2 b4 (Nat.lt_of_lt_of_le l4 hz2) (Ne.symm n2))).trans S1.2.1, (World.cell?_of_block (w := W1.drew) (a := ⟨gd, 1, none⟩) (blk2 gd (Nat.lt_of_lt_of_le hgd hz2) (Ne.symm n3))).trans S1.2.2.1, fun j v hv => ?_⟩
    exact (World.cell?_of_block (w := W1.drew) (a := ⟨w.heap.size, 0 + j, none⟩) (blk2 w.heap.size hz1 (by omega))).trans (S1.2.2.2 j v hv)
  have R2 : Aside (MapAt Tryz.prog 3 W2 gm (m + 1) (encP (fun j => if j = i then some (fullS bs) else pend j)) ∧ W1.drew.grownBy W2 (some gm)) := ⟨by rw [← encP_upd]; exact hM2, hG2⟩
  clear hM2 hG2 hturn hMd blkd blk2 hrg
  go_region_held3 (fun w' => w'.cell? ⟨b3, 0, none⟩ = some (.pointer (some ⟨gd, 0, none⟩)) ∧ w'.cell? ⟨b4, 0, none⟩ = some (.int .i64 i) ∧ w'.cell? ⟨gd, 1, none⟩ = some (.map (some gm)) ∧ w'.rangeAt w.heap.size 0 ((fullS bs).map u8))
    (first | exact S1 | exact S2) (fail)
  go_end0
  refine ⟨rfl, R2.out.1, ?_⟩
  exact (Fr.of_below Q1.out.2 (· = gm)).trans (Fr.of_only (gr_undrew R2.out.2)) (fun _ _ h => h)

end Go.Proofs.YthfidlhefkjpdaaGreatDoor

namespace Go.Proofs.YthfidlhefkjpdaaGreatDoor
open Go.RowKit

theorem RdB.fr {w w' : World} {T : Nat → Prop} {A : Option Addr} {n : Nat} {bs : List UInt8} (h : RdB w A n bs) (hf : Fr T w w') (hT : ∀ b o, 0 < n → A = some ⟨b, o, none⟩ → ¬ T b) : RdB w' A n bs := by
  refine ⟨h.1, fun h0 => ?_⟩
  obtain ⟨b, o, rfl, hb, hc⟩ := h.2 h0
  refine ⟨b, o, rfl, Nat.lt_of_lt_of_le hb hf.size, fun i hi => ?_⟩
  rw [World.cell?_of_block (w := w) (hf.block b hb (hT b o h0 rfl))]
  exact hc i hi

theorem rd_ne_disk {w : World} {A : Option Addr} {n gd : Nat} {bs : List UInt8} {a b c : Value} {s : Int} {x : Bool} (h : RdB w A n bs) (ha : ∀ k v, a ≠ .int k v) (hb : ∀ k v, b ≠ .int k v) (hc : ∀ k v, c ≠ .int k v)
    (hB : Blk w gd 111 #[a, b, c, .int .i64 s, .bool x]) : ∀ g o, 0 < n → A = some ⟨g, o, none⟩ → g ≠ gd := by
  rintro g o h0 rfl rfl
  obtain ⟨b', o', e, _, hcc⟩ := h.2 h0
  injection e with e
  injection e with e1 e2
  subst e1 e2
  have hl := h.1
  have hx := hcc 0 (by omega)
  rw [Nat.add_zero, hB.cell o] at hx
  obtain ⟨z, hx⟩ : ∃ z, (#[a, b, c, .int .i64 s, .bool x] : Array Value)[o]? = some (.int .u8 z) := ⟨_, hx⟩
  clear hcc h hB
  match o, hx with
  | 0, hx => simp at hx; exact ha _ _ hx
  | 1, hx => simp at hx; exact hb _ _ hx
  | 2, hx => simp at hx; exact hc _ _ hx
  | 3, hx => simp at hx
  | 4, hx => simp at hx
  | o + 5, hx => simp at hx

/-- the disk behind a write -/
def Dk.write (D : Dk) (i : Nat) (bs : List UInt8) : Dk := { D with pend := fun j => if j = (i : Int) then some (fullS bs) else D.pend j, steps := D.steps + 1 }

set_option maxRecDepth 100000 in
set_option maxHeartbeats 2000000 in
theorem write_any (gd gs gm : Nat) (D : Dk) (i n c : Nat) (A : Option Addr) (bs : List UInt8) (w : World) (hD : DiskAt w gd gs gm D) (hw : D.wf) (hp : D.plan = []) (hoff : D.off = false) (hi : i < D.sec.length)
    (hR : RdB w A n bs) (hn : n ≤ 512) :
    Calls Tryz.prog 81 #[.pointer (some ⟨gd, 0, none⟩), .int .i64 (i : Int), .slice A n c] w fun e w' => e = .returned (.int .i64 0) ∧
      DiskAt w' gd gs gm (D.write i bs) ∧ Fr (fun b => b = gd ∨ b = gm) w w' := by
  obtain ⟨pv, m, hB, hS, hM, hms, hP⟩ := hD
  rw [hp] at hP
  obtain ⟨PA, pc, rfl⟩ : ∃ PA pc, pv = .slice PA 0 pc := by
    obtain ⟨_, ⟨h, _⟩ | ⟨g, cap, cur, h, _⟩⟩ := hP
    · exact ⟨_, _, h⟩
    · exact ⟨_, _, h⟩
  rw [hoff] at hB
  have hwf : wf64 (i : Int) := by have := hw.n; unfold wf64; omega
  have hs0 := hw.s0
  have hs1 := hw.s1
  have hnn := hw.n
  have c0 := hB.cell 0
  have c4 := hB.cell 4
  simp only [List.getElem?_toArray, List.getElem?_cons_succ, List.getElem?_cons_zero] at c0 c4
  have hgd := hB.lt
  have l1 := hM.lt
  obtain ⟨W0, hW0⟩ : ∃ W0, (((w.alloc (.cells #[.pointer (some ⟨gd, 0, none⟩)] 24)).alloc (.cells #[.int .i64 (i : Int)] 3)).alloc (.cells #[.slice A n c] 43)) = W0 := ⟨_, rfl⟩
  have hb0 : Below w.heap.size w W0 := by rw [← hW0]; exact bl_alloc (bl_alloc (bl_alloc (Below.refl _ _) _) _) _
  have b3 : Boxed W0 w.heap.size 24 (.pointer (some ⟨gd, 0, none⟩)) := by
    rw [← hW0]; exact ((Boxed.new w 24 (.pointer (some ⟨gd, 0, none⟩))).alloc _).alloc _
  have b4 : Boxed W0 (w.heap.size + 1) 3 (.int .i64 (i : Int)) := by
    rw [← hW0]
    have := Boxed.new (w.alloc (.cells #[.pointer (some ⟨gd, 0, none⟩)] 24)) 3 (.int .i64 (i : Int))
    rw [World.size_alloc] at this
    exact this.alloc _
  have b5 : Boxed W0 (w.heap.size + 1 + 1) 43 (.slice A n c) := by
    rw [← hW0]
    have := Boxed.new ((w.alloc (.cells #[.pointer (some ⟨gd, 0, none⟩)] 24)).alloc (.cells #[.int .i64 (i : Int)] 3)) 43 (.slice A n c)
    rw [World.size_alloc, World.size_alloc] at this
    exact this
  have k3 := b3.cell
  have k4 := b4.cell
  have k5 := b5.cell
  have k0 := ((bcell hb0).1 gd 0 hgd).trans c0
  have kd := ((bcell hb0).1 gd 4 hgd).trans c4
  have HB : Aside (Blk w gd 111 #[.slice (some ⟨gs, 0, none⟩) D.sec.length D.sec.length, .map (some gm), .slice PA 0 pc, .int .i64 D.steps, .bool false] ∧ Below w.heap.size w W0 ∧
    Boxed W0 w.heap.size 24 (.pointer (some ⟨gd, 0, none⟩)) ∧ Boxed W0 (w.heap.size + 1) 3 (.int .i64 (i : Int)) ∧ Boxed W0 (w.heap.size + 1 + 1) 43 (.slice A n c)) := ⟨hB, hb0, b3, b4, b5⟩
  have h1 : decide ((i : Int) < 0) = false := by simp
  have h2 : decide (D.sec.length ≤ i) = false := by simp; omega
  have h3 : decide ((512 : Int) < (n : Int)) = false := by simp; omega
  have HH : Aside (D.wf ∧ w.heap[gs]? = some (.cells (cellsB (flat D.sec)) 113 (0, 0)) ∧ MapAt Tryz.prog 3 w gm m (encP D.pend) ∧ (m : Int) ≤ D.steps ∧ w.ownsRow 0 76 2 (.slice PA 0 pc) 0 [] ∧ RdB w A n bs ∧ D.plan = [] ∧ D.off = false ∧ i < D.sec.length) := ⟨hw, hS, hM, hms, hP, hR, hp, hoff, hi⟩
  clear hw hS hM hms hP hR hp hoff hB hb0 b3 b4 b5 c0 c4
  obtain ⟨ns, hns⟩ : ∃ ns, D.sec.length = ns := ⟨_, rfl⟩
  rw [hns] at k0 h2 hi hnn
  have hns := hid hns
  have hmf : ∀ (fn : Fn) (first cap : Array Value) (w : World), (Instr.makeFunc fn first cap).run Tryz.prog w = .ok (.func fn first cap) w := fun _ _ _ _ => rfl
  go_enter Tryz.func81, Tryz.ntmps81
  go_wp2_with fail
  try rw [hW0]
  clear hW0
  have S0 : W0.cell? ⟨w.heap.size, 0, none⟩ = some (.pointer (some ⟨gd, 0, none⟩)) ∧ W0.cell? ⟨w.heap.size + 1, 0, none⟩ = some (.int .i64 (i : Int)) ∧ W0.cell? ⟨w.heap.size + 1 + 1, 0, none⟩ = some (.slice A n c) ∧ W0.cell? ⟨gd, 0, none⟩ = some (.slice (some ⟨gs, 0, none⟩) ns ns) := ⟨k3, k4, k5, k0⟩
  go_region_held3 (fun w' => w'.cell? ⟨w.heap.size, 0, none⟩ = some (.pointer (some ⟨gd, 0, none⟩)) ∧ w'.cell? ⟨w.heap.size + 1, 0, none⟩ = some (.int .i64 (i : Int)) ∧ w'.cell? ⟨w.heap.size + 1 + 1, 0, none⟩ = some (.slice A n c) ∧ w'.cell? ⟨gd, 0, none⟩ = some (.slice (some ⟨gs, 0, none⟩) ns ns)) (exact S0) (fail)
  go_wp2_with fail
  obtain ⟨W1, hW1⟩ : ∃ W1, W0.drew = W1 := ⟨_, rfl⟩
  have hb1 : Below w.heap.size w W1 := by rw [← hW1]; exact bl_drew HB.out.2.1
  have b3 : Boxed W1 w.heap.size 24 (.pointer (some ⟨gd, 0, none⟩)) := by rw [← hW1]; exact HB.out.2.2.1
  have b4 : Boxed W1 (w.heap.size + 1) 3 (.int .i64 (i : Int)) := by rw [← hW1]; exact HB.out.2.2.2.1
  have b5 : Boxed W1 (w.heap.size + 1 + 1) 43 (.slice A n c) := by rw [← hW1]; exact HB.out.2.2.2.2
  rw [hW1]
  clear hW1 S0 k3 k4 k5 k0 kd
  obtain ⟨hwD, hS, hM, hms, hP, hR, hp, hoff, hi'⟩ := HH.out
  have hB1 := HB.out.1.below hb1 hgd
  have hM1 := hM.below hb1 l1
  have hR1 := hR.below hb1
  have hgmd : gm ≠ gd := by
    have := HB.out.1.cell 0
    exact hM.ne_cell this
  have hz := hb1.size
  have hdata := rd_ne_disk hR1 (fun _ _ h => by cases h) (fun _ _ h => by cases h) (fun _ _ h => by cases h) hB1
  refine (dstep_none gd 120 _ _ _ PA pc D.steps W1 (· = gm) (fun W W' => MapAt Tryz.prog 3 W' gm (m + 1) (encP (fun j => if j = (i : Int) then some (fullS bs) else D.pend j))) hB1 hwD.s0 hwD.s1 (fun b hb => by rw [hb]; exact hM1.lt) (enters_of Tryz.func120 (by kernel_rfl) rfl) ?_).mono ?_
  · intro W hF hBW
    have e3 : Boxed W w.heap.size 24 (.pointer (some ⟨gd, 0, none⟩)) := (hF.block _ b3.lt (by omega)).trans b3
    have e4 : Boxed W (w.heap.size + 1) 3 (.int .i64 (i : Int)) := (hF.block _ b4.lt (by omega)).trans b4
    have e5 : Boxed W (w.heap.size + 1 + 1) 43 (.slice A n c) := (hF.block _ b5.lt (by omega)).trans b5
    have hMW : MapAt Tryz.prog 3 W gm m (encP D.pend) := hM1.block (hF.block _ hM1.lt hgmd)
    have hc1 := hBW.cell 1
    simp only [List.getElem?_toArray, List.getElem?_cons_succ, List.getElem?_cons_zero] at hc1
    exact wdo_any gd gm m _ _ _ n c i A bs D.pend W e3 e4 e5 hc1 hBW.lt hMW (hR1.fr hF (fun b o h0 e => hdata b o h0 e)) hn hwf (by unfold maxLen; omega)
  · rintro e w' ⟨rfl, W, W', hF1, hBW, hM', hF2, hz2, hb3, hz3⟩
    have hgl1 : gd < W1.heap.size := hB1.lt
    have hF0 : Fr (fun b => b = gd ∨ b = gm) w W' := (Fr.of_below hb1 (fun b => b = gd ∨ b = gm)).trans ((hF1.mono (fun _ _ h => .inl h)).trans hF2 (fun _ _ h => .inr h)) (fun _ _ h => h)
    have hF : Fr (fun b => b = gd ∨ b = gm) w w' := ⟨hb3.os.trans hF0.os, hb3.tape.trans hF0.tape, hb3.output.trans hF0.output, Nat.le_trans hF0.size hz3, fun b hb hn => (hb3.block b (by omega)).trans (hF0.block b hb hn)⟩
    go_wp2
    go_ret
    refine ⟨rfl, ⟨.slice PA 0 pc, m + 1, ?_, ?_, ?_, ?_, ?_⟩, hF⟩
    · have h1 : Blk W' gd 111 #[.slice (some ⟨gs, 0, none⟩) D.sec.length D.sec.length, .map (some gm), .slice PA 0 pc, .int .i64 (D.steps + 1), .bool false] := hBW.fr hF2 (fun h => hgmd h.symm)
      have h2 := h1.below hb3 (by omega)
      rw [show (D.write i bs).off = false from hoff]
      exact h2
    · have hgs := (Array.getElem?_eq_some_iff.1 hS).1
      refine (hF.block gs hgs ?_).trans hS
      rintro (h | h)
      · subst h
        exact HB.out.1.ty.ne ⟨_, _, hS⟩ (by decide)
      · subst h
        obtain ⟨_, ⟨es, c', h1, _⟩, _⟩ := hM
        rw [hS] at h1
        cases h1
    · exact hM'.below hb3 (by have := hM'.lt; omega)
    · show ((m + 1 : Nat) : Int) ≤ D.steps + 1
      omega
    · show w'.ownsRow 0 76 2 (.slice PA 0 pc) D.plan.length (D.plan.flatMap encF)
      rw [hp]
      exact own_fr hP hF (fun b hb' => by
        have ht := own_ty hP hb'
        rintro (h | h)
        · subst h; exact ht.ne HB.out.1.ty (by decide)
        · subst h
          obtain ⟨_, ⟨es, c', h1, _⟩, _⟩ := hM
          obtain ⟨cs, fr, h2⟩ := ht
          rw [h1] at h2
          cases h2)

end Go.Proofs.YthfidlhefkjpdaaGreatDoor

namespace Go.Proofs.YthfidlhefkjpdaaGreatDoor
open Go.RowKit

theorem dsize_any (gd gs gm : Nat) (D : Dk) (w : World) (hD : DiskAt w gd gs gm D) :
    Calls Tryz.prog 119 #[.pointer (some ⟨gd, 0, none⟩)] w fun e w' => e = .returned (.int .i64 (D.sec.length : Int)) ∧ w = w' := by
  obtain ⟨pv, m, hB, _⟩ := hD
  have c0 := hB.cell 0
  simp only [List.getElem?_toArray, List.getElem?_cons_zero] at c0
  clear hB
  go_enter Tryz.func119, Tryz.ntmps119
  go_wp2
  go_ret
  exact ⟨rfl, rfl⟩

set_option maxRecDepth 100000 in
set_option maxHeartbeats 2000000 in
theorem read_any (gd gs gm : Nat) (D : Dk) (i : Nat) (w : World) (hD : DiskAt w gd gs gm D) (hw : D.wf) (hoff : D.off = false) (hi : i < D.sec.length) :
    Calls Tryz.prog 30 #[.pointer (some ⟨gd, 0, none⟩), .int .i64 (i : Int)] w fun e w' => ∃ g, e = .returned (.tuple #[.slice (some ⟨g, 0, none⟩) 512 512, .int .i64 0]) ∧
      w'.heap[g]? = some (.cells (cellsB (D.has i)) 113 (0, 0)) ∧ w.heap.size ≤ g ∧ Below w.heap.size w w' := by
  have hhas := has_any gd gs gm D i w hD hw hi
  have hlen := D.has_len hw hi
  have hnn := hw.n
  obtain ⟨pv, m, hB, _⟩ := hD
  have c0 := hB.cell 0
  have c4 := hB.cell 4
  simp only [List.getElem?_toArray, List.getElem?_cons_succ, List.getElem?_cons_zero] at c0 c4
  rw [hoff] at c4
  obtain ⟨ns, hns⟩ : ∃ ns, D.sec.length = ns := ⟨_, rfl⟩
  rw [hns] at c0 hi hnn
  have h1 : decide ((i : Int) < 0) = false := by simp
  have h2 : decide (ns ≤ i) = false := by simp; omega
  obtain ⟨bs, hbs⟩ : ∃ bs, D.has i = bs := ⟨_, rfl⟩
  rw [hbs] at hhas hlen ⊢
  have hH : Aside (Calls Tryz.prog 55 #[.pointer (some ⟨gd, 0, none⟩), .int .i64 (i : Int)] w fun e w' => e = .returned (.agg (cellsB bs)) ∧ Below w.heap.size w w') := ⟨hhas⟩
  have hsz : (cellsB bs).size = 512 := by rw [cellsB_size, hlen]
  have hl := hid hlen
  clear hhas hB hns hbs hoff hlen
  go_enter Tryz.func30, Tryz.ntmps30
  go_wp2_with fail
  refine hH.out.mono ?_
  rintro e w1 ⟨rfl, hb1⟩
  have st1 := stNew w1 Tryz.zeroCells113 bs w1.heap.size rfl zc_size hl.out
  have B1 : Aside (Below w.heap.size w w1) := ⟨hb1⟩
  clear hb1
  go_wp2_with fail
  go_ret2
  exact ⟨w1.heap.size, rfl, alloc_new w1 _, B1.out.size, bl_alloc B1.out _⟩

end Go.Proofs.YthfidlhefkjpdaaGreatDoor

namespace Go.Proofs.YthfidlhefkjpdaaGreatDoor
open Go.RowKit Go.Maps
open Go.ChangeMaps (setBlock)

section
variable {P : Program} {kt : TypeId} {w : World} {b n : Nat} {m : Int → Option Value}
theorem run_clear (t k e ty : TypeId) (ht : P.underlying t = some (.map k e)) (es : Array MapEntry) (clock : Nat) (h : w.heap[b]? = some (.map es clock)) :
    (Builtin.clear_ #[t] ty #[.map (some b)]).run P w = .ok (.tuple #[]) (setBlock w b (.map #[] clock)) := by
  simp [Builtin.clear_, run_underlying ht, getObj, setObj, Sem.run, h, setBlock, Result.andThen]

theorem wpList_clear {ops : Array Oper} {rest : List Oper} {o : Oper} {a : Act} {Q : Exit → Act → World → Prop} (hgd : o.guard = none) (x : Operand) (t e : TypeId)
    (ho : o.op = .call { callee := .builtin .clear, args := #[x], argTypes := #[t] }) (ht : P.underlying t = some (.map kt e)) (hx : a.eval x = .map (some b)) (hM : MapAt P kt w b n m)
    (hK : ∀ w', MapAt P kt w' b 0 (fun _ => none) → w.grownBy w' (some b) → w'.heap.size = w.heap.size → wpList P ops Q rest (a.put o.dst (.tuple #[])) w') : wpList P ops Q (o :: rest) a w := by
  obtain ⟨D, ⟨es, clock, h1, hfit, hn, hD⟩, h2, h3⟩ := hM
  refine wpList_plain hgd fun K' hK' => ?_
  have hrun := run_clear (P := P) t kt e o.type ht es clock h1
  unfold Oper.wp
  simp [execOp, ho, resolve, invoke, builtin, hx, hrun, Result.andThen]
  refine hK' _ _ (hK _ ?_ ?_ ?_)
  · have hh : (setBlock w b (.map #[] clock)).heap[b]? = some (.map #[] clock) := by
      have hlt := (Array.getElem?_eq_some_iff.1 h1).1
      simp [setBlock, Array.getElem?_setIfInBounds, hlt]
    exact ⟨.map [], ⟨#[], clock, hh, ⟨by simp, MapKept.stamped_empty clock, by simp⟩, Nat.le_refl _, rfl⟩, fun _ _ => rfl, fun _ => rfl⟩
  · refine ⟨rfl, rfl, rfl, by simp [setBlock], fun i _ hi => ?_⟩
    simp only [setBlock, Array.getElem?_setIfInBounds]
    rw [if_neg (fun e => hi (by rw [e]))]
  · simp [setBlock]

theorem ranges_fr {w' : World} {r : Nat} {R : Value → Option (DV × List MemPlace)} {D : DV} {left : Lit → Bool} {cnt : Nat} (h : w.ranges P kt R b r n D left cnt) (hb : w'.heap[b]? = w.heap[b]?) (hr : w'.heap[r]? = w.heap[r]?) :
    w'.ranges P kt R b r n D left cnt := by
  obtain ⟨es, clock, since, seen, c0, h1, h2, h3, h4, h5, h6⟩ := h
  exact ⟨es, clock, since, seen, c0, hb.trans h1, h2, h3, h4, hr.trans h5, h6⟩

/-- what comes out of the map is there -/
theorem held_there {D : DV} (hat : ∀ k z, D.atKey (.int .i64 k) z = match m k with | some v => .held v | none => z) {x : Int} {c : Value} (h : ∀ zd, D.atKey (.int .i64 x) zd = .held c) : m x = some c := by
  have h1 := h .nil
  rw [hat] at h1
  cases hm : m x with
  | none => rw [hm] at h1; cases h1
  | some v => rw [hm] at h1; cases h1; rfl

theorem strike_int (left : Lit → Bool) (x j : Int) : (fun z : Lit => left z && !z.sameKey (.int .i64 x)) (.int .i64 j) = (left (.int .i64 j) && !decide (j = x)) := by
  simp only [Lit.sameKey]
  by_cases h : j = x <;> simp [h]
end
end Go.Proofs.YthfidlhefkjpdaaGreatDoor

namespace Go.Proofs.YthfidlhefkjpdaaGreatDoor
open Go.RowKit

set_option maxRecDepth 100000 in
set_option maxHeartbeats 2000000 in
theorem settle_any (gd gs gm : Nat) (D : Dk) (i : Nat) (w : World) (hD : DiskAt w gd gs gm D) (hw : D.wf) (hi : i < D.sec.length) :
    Calls Tryz.prog 73 #[.pointer (some ⟨gd, 0, none⟩), .int .i64 (i : Int)] w fun e w' => e = .returned (.tuple #[]) ∧
      w'.heap[gs]? = some (.cells (cellsB (flat (D.sec.set i (D.has i)))) 113 (0, 0)) ∧ Fr (· = gs) w w' := by
  have hhas := fun W (hW : DiskAt W gd gs gm D) => has_any gd gs gm D i W hW hw hi
  have hlen := D.has_len hw hi
  have hnn := hw.n
  have hfl := flat_length hw.len
  have hset := flat_set hw.len hi hlen
  have hD' := hD
  obtain ⟨pv, m, hB, hS, hM, hms, hP⟩ := hD'
  have hgd := hB.lt
  have hgs := (Array.getElem?_eq_some_iff.1 hS).1
  have c0 := hB.cell 0
  simp only [List.getElem?_toArray, List.getElem?_cons_zero] at c0
  have HH : Aside (DiskAt w gd gs gm D ∧ w.heap[gs]? = some (.cells (cellsB (flat D.sec)) 113 (0, 0)) ∧ splice (flat D.sec) (i * 512) (D.has i) = flat (D.sec.set i (D.has i)) ∧ (D.has i).length = 512 ∧ (flat D.sec).length = D.sec.length * 512) := ⟨hD, hS, hset, hlen, hfl⟩
  have HC : Aside (∀ W, DiskAt W gd gs gm D → Calls Tryz.prog 55 #[.pointer (some ⟨gd, 0, none⟩), .int .i64 (i : Int)] W fun e w' => e = .returned (.agg (cellsB (D.has i))) ∧ Below W.heap.size W w') := ⟨hhas⟩
  obtain ⟨ns, hns⟩ : ∃ ns, D.sec.length = ns := ⟨_, rfl⟩
  rw [hns] at c0 hi hnn
  have hns := hid hns
  clear hD hB hS hM hms hP hset hfl hhas hw hlen
  have hsz : (cellsB (D.has i)).size = 512 := by rw [cellsB_size, HH.out.2.2.2.1]
  have hiI : (i : Int) < (ns : Int) := by omega
  have tok1 : True := trivial
  have HE : Aside (∀ args w, (callFunc 55 args).run Tryz.prog w = .ok (.enter 55 args) w) := ⟨enters_of Tryz.func55 (by kernel_rfl) rfl⟩
  go_enter Tryz.func73, Tryz.ntmps73
  go_region_law (
    (have _t := tok1
     (refine step_call2 (o := ⟨some 11, _, _, _, _, _⟩) 55 (by rfl) _ _ _ (by rfl) HE.out (.pointer (some ⟨gd, 0, none⟩)) (.int .i64 (i : Int)) (by go_simp) (by go_simp) (HC.out _ ?_) ?_)
     · exact HH.out.1
     rintro e w1 ⟨rfl, hb1⟩
     replace hb1 : Below w.heap.size w w1 := ⟨hb1.os, hb1.tape, hb1.output, hb1.size, hb1.block⟩
     have c01 := ((bcell hb1).1 gd 0 hgd).trans c0
     have st := stMid w1 gs (i * 512) (flat D.sec) (D.has i) ((hb1.block gs hgs).trans HH.out.2.1) (by rw [HH.out.2.2.2.2, hns.out]; omega) HH.out.2.2.2.1
     have B1 : Aside (Below w.heap.size w w1) := ⟨hb1⟩
     clear hb1 tok1
     refine ⟨_, rfl, ?_⟩))
  all_goals
    go_end0
    obtain ⟨h1, h2⟩ := setCells_row gs 113 (D.has i) (flat D.sec) (i * 512) w1 ((B1.out.block gs hgs).trans HH.out.2.1) (by rw [HH.out.2.2.2.1, HH.out.2.2.2.2, hns.out]; omega)
    exact ⟨rfl, by rw [← HH.out.2.2.1]; exact h1, (Fr.of_below B1.out (· = gs)).trans h2 (fun _ _ h => h)⟩

/-- the safe sectors while a Sync is under way: those that are through have what they had -/
structure Mid (D : Dk) (left : Int → Bool) (sec : List (List UInt8)) : Prop where
  len : sec.length = D.sec.length
  at_ : ∀ i : Nat, i < D.sec.length → sec.getD i [] = if left (i : Int) then D.sec.getD i [] else D.has i

theorem Mid.all {D : Dk} {sec : List (List UInt8)} (h : Mid D (fun _ => false) sec) : sec = (List.range D.sec.length).map D.has := by
  apply List.ext_getElem
  · simp [h.len]
  · intro i h1 h2
    have := h.at_ i (by rw [← h.len]; exact h1)
    simp only [List.getD_eq_getElem?_getD, List.getElem?_eq_getElem h1, Option.getD_some] at this
    simpa using this

/-- the disk behind a Sync -/
def Dk.sync (D : Dk) : Dk := { D with sec := (List.range D.sec.length).map D.has, pend := fun _ => none, steps := D.steps + 1 }

theorem Dk.write_wf {D : Dk} (hw : D.wf) {i : Nat} (hi : i < D.sec.length) {bs : List UInt8} (hb : bs.length ≤ 512) (hs : D.steps + 1 ≤ 1152921504606846976) : (D.write i bs).wf := by
  refine ⟨hw.n, hw.len, ?_, ?_, by have := hw.s0; show 0 ≤ D.steps + 1; omega, hs⟩
  · intro k b hk
    simp only [Dk.write] at hk
    split at hk
    · cases hk; exact fullS_length hb
    · exact hw.plen k b hk
  · intro k hk
    simp only [Dk.write] at hk
    split at hk
    · rename_i h; subst h; exact ⟨by omega, by show (i : Int) < (D.sec.length : Int); omega⟩
    · exact hw.pin k hk
theorem Dk.sync_wf {D : Dk} (hw : D.wf) (hs : D.steps + 1 ≤ 1152921504606846976) : D.sync.wf := by
  refine ⟨by simp [Dk.sync]; exact hw.n, ?_, ?_, ?_, by have := hw.s0; show 0 ≤ D.steps + 1; omega, hs⟩
  · intro x hx
    simp only [Dk.sync, List.mem_map, List.mem_range] at hx
    obtain ⟨i, hi, rfl⟩ := hx
    exact D.has_len hw hi
  · intro k b hk; cases hk
  · intro k hk; cases hk
theorem Dk.sync_has {D : Dk} {i : Nat} (hi : i < D.sec.length) : D.sync.has i = D.has i := by
  simp [Dk.sync, Dk.has, List.getD_eq_getElem?_getD, hi]
theorem Dk.write_has {D : Dk} {i j : Nat} {bs : List UInt8} : (D.write i bs).has j = if j = i then fullS bs else D.has j := by
  unfold Dk.has Dk.write
  by_cases h : j = i
  · subst h; simp
  · have : ¬ ((j : Int) = (i : Int)) := by omega
    simp [h, this]
end Go.Proofs.YthfidlhefkjpdaaGreatDoor
