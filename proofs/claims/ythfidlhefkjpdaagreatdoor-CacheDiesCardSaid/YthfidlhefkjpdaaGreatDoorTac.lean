/- slices.Backward over fates; disk.step under a plan.
   disk.step under any plan. -/
import Derived.Test.YthfidlhefkjpdaaGreatDoorTab
import Derived.BigRegionIn
import Derived.BigGuardIn
namespace Go.Proofs.YthfidlhefkjpdaaGreatDoor
open Go.RowKit Go.Shelf
attribute [local go_sem] Oper.semAt_some

def backG (fs : List (Int × Int)) (k : Nat) : List (Nat × (Int × Int)) := (List.range k).map fun j => (fs.length - 1 - j, fs.getD (fs.length - 1 - j) (0, 0))
theorem backG_succ (fs : List (Int × Int)) (k : Nat) : backG fs (k + 1) = backG fs k ++ [(fs.length - 1 - k, fs.getD (fs.length - 1 - k) (0, 0))] := by simp [backG, List.range_succ]
theorem backG_len (fs : List (Int × Int)) (k : Nat) : (backG fs k).length = k := by simp [backG]
def encG (x : Nat × (Int × Int)) : Array Value := #[.int .i64 (x.1 : Int), .agg #[.int .i64 x.2.1, .int .i64 x.2.2]]

/-- A slice of fates that is only read. -/
def RdF (w : World) (A : Option Addr) (fs : List (Int × Int)) : Prop :=
  0 < fs.length → ∃ b o, A = some ⟨b, o, none⟩ ∧ b < w.heap.size ∧ ∀ i (h : i < fs.length), w.cell? ⟨b, o + i * 2, none⟩ = some (.int .i64 fs[i].1) ∧ w.cell? ⟨b, o + i * 2 + 1, none⟩ = some (.int .i64 fs[i].2)

theorem flat_two (fs : List (Int × Int)) : ∀ i (h : i < fs.length), (fs.flatMap encF)[i * 2]? = some (.int .i64 fs[i].1) ∧ (fs.flatMap encF)[i * 2 + 1]? = some (.int .i64 fs[i].2) := by
  induction fs with
  | nil => intro i h; simp at h
  | cons x r ih =>
    intro i h
    match i, h with
    | 0, _ => exact ⟨rfl, rfl⟩
    | i + 1, h =>
      have := ih i (by simpa using h)
      rw [List.flatMap_cons, show (i + 1) * 2 = i * 2 + 2 by omega]
      simpa [encF] using this

theorem RdF.of_own {w : World} {base : Nat} {A : Option Addr} {n c : Nat} {fs : List (Int × Int)} (h : w.ownsRow base 76 2 (.slice A n c) fs.length (fs.flatMap encF)) : n = fs.length ∧ RdF w A fs := by
  have hh := h
  obtain ⟨_, ⟨h1, h0⟩ | ⟨g, cap, cur, hv, _, hb, _⟩⟩ := h
  · injection h1 with e1 e2
    refine ⟨by omega, fun hp => by omega⟩
  · injection hv with e1 e2
    subst e1
    refine ⟨e2, fun _ => ⟨g, 0, rfl, (Array.getElem?_eq_some_iff.1 hb).1, fun i hi => ?_⟩⟩
    subst e2
    obtain ⟨k1, k2⟩ := flat_two fs i hi
    rw [Nat.zero_add]
    exact ⟨by rw [hh.cellAt (i * 2) (by omega)]; exact k1, by rw [hh.cellAt (i * 2 + 1) (by omega)]; exact k2⟩

set_option maxRecDepth 100000 in
set_option maxHeartbeats 2000000 in
theorem backF1_in (F : Fence) (n : Nat) (h7 : F.fn 149) (hro : F.round = none) (hn : 1 ≤ n) (l Bs n₀ cap : Nat) (A : Option Addr) (fs : List (Int × Int)) (hreach : fs.length ≤ 70368744175616) (J Jx : List (Nat × (Int × Int)) → World → Prop)
    (hY : ∀ pre x W, J pre W → pre.length < fs.length → YieldAt F (n - 1) Tryz.prog l (encG x) W fun e W' =>
      (e = .returned (.bool true) ∧ J (pre ++ [x]) W' ∧ KpB n₀ Bs W W') ∨ (e = .returned (.bool false) ∧ Jx (pre ++ [x]) W'))
    (W : World) (hBs : W.cell? ⟨Bs, 0, none⟩ = some (.slice A fs.length cap))
    (hcs : 0 < fs.length → ∃ b o, A = some ⟨b, o, none⟩ ∧ b < n₀ ∧ ∀ i (h : i < fs.length), W.cell? ⟨b, o + i * 2, none⟩ = some (.int .i64 fs[i].1) ∧ W.cell? ⟨b, o + i * 2 + 1, none⟩ = some (.int .i64 fs[i].2)) (h0 : J [] W) :
    CallsIn F n Tryz.prog 149 #[.func (.yield l) #[] #[], .pointer (some ⟨Bs, 0, none⟩)] W fun e W' => (∃ v, e = .returned v) ∧
      ((∃ ys, ys = backG fs fs.length ∧ J ys W') ∨ (∃ pre, (∃ k, k ≤ fs.length ∧ pre = backG fs k) ∧ Jx pre W')) := by
  have C := hid hcs
  have CB := hid hBs
  clear hcs
  refine callsIn_of_wp Tryz.func149 rfl h7 ?_ hro
  simp only [Tryz.ntmps149, List.size_toArray, List.length_cons, List.length_nil, Nat.reduceAdd, Nat.reduceSub, Array.replicate_succ, Array.replicate_zero, List.push_toArray, List.append_toArray, List.nil_append, List.cons_append]
  gi_wp2
  gi_loopw [3] (fun i wr => ∃ k : Nat, k ≤ fs.length ∧ i = .int .i64 ((fs.length : Int) - 1 - k) ∧ J (backG fs k) wr ∧ KpB n₀ Bs W wr)
    (fun i _ => (intOf i + 1).toNat)
  case atStart => exact ⟨0, Nat.zero_le _, by go_num, h0, Below.refl _ _, fun _ h => h⟩
  case round =>
    obtain ⟨k, hk, rfl, hJs, hnx⟩ := hrel
    by_cases hlt : k < fs.length
    · obtain ⟨b, off, rfl, hb, hc⟩ := C.out (by omega)
      obtain ⟨m, hm⟩ : ∃ m : Nat, (m : Int) = (fs.length : Int) - 1 - k := ⟨fs.length - 1 - k, by omega⟩
      have hmb : m < fs.length := by omega
      have hme : m = fs.length - 1 - k := by omega
      obtain ⟨q0, q1⟩ := hc m hmb
      have g0 := (hnx.below.cell (p := ⟨b, off + m * 2, none⟩) hb).trans q0
      have g1 := (hnx.below.cell (p := ⟨b, off + m * 2 + 1, none⟩) hb).trans q1
      have gB := hnx.cell _ CB.out
      obtain ⟨fn, tmps, assign, body, hy, hR⟩ := hY _ (m, fs[m]) _ hJs (by rw [backG_len]; omega)
      have hsnoc : backG fs (k + 1) = backG fs k ++ [(m, fs[m])] := by rw [backG_succ, ← hme]; simp [List.getD_eq_getElem?_getD, List.getElem?_eq_getElem hmb]
      have B : Aside (backG fs (k + 1) = backG fs k ++ [(m, fs[m])] ∧ KpB n₀ Bs W wr) := ⟨hsnoc, hnx⟩
      have hm0 : (0 : Int) ≤ m := by omega
      unfold encG at hy
      dsimp only at hy
      rw [← hm]
      have hM := hid hm
      clear hsnoc hJs hnx hc hm hme hBs q0 q1
      gi_wp2
      refine hR.mono ?_
      rintro _ W3 (⟨rfl, hJ3, hk3⟩ | ⟨rfl, hJx3⟩)
      · gi_wp2
        go_roundw
        case rel => exact ⟨k + 1, by omega, by have := hM.out; go_num, by rw [B.out.1]; exact hJ3, B.out.2.trans hk3⟩
        case measure => simp [intOf]
      · gi_wp2
        refine bodyPost_ret (results_none rfl _ _ _) rfl ?_
        exact ⟨⟨_, rfl⟩, .inr ⟨_, ⟨k + 1, by omega, B.out.1.symm⟩, hJx3⟩⟩
    · obtain rfl : k = fs.length := by omega
      gi_wp2
      go_end0
      exact ⟨⟨_, rfl⟩, .inl ⟨_, rfl, hJs⟩⟩

theorem backF_stops (F : Fence) (n : Nat) (h7 : F.fn 149) (hro : F.round = none) (hn : 1 ≤ n) (Bs n₀ cap : Nat) (A : Option Addr) (fs : List (Int × Int)) (w : World) (hBs : Bs < w.heap.size)
    (hc : w.cell? ⟨Bs, 0, none⟩ = some (.slice A fs.length cap)) (w₀ : World) (hI : RdF w₀ A fs) (hw₀ : w₀.heap.size ≤ n₀) (hn0 : n₀ ≤ w.heap.size) (hb : ∀ b o, A = some ⟨b, o, none⟩ → 0 < fs.length → ∀ i, w.cell? ⟨b, i, none⟩ = w₀.cell? ⟨b, i, none⟩) (hr : fs.length ≤ 70368744175616) :
    SeqStopsK F n Tryz.prog 149 #[.pointer (some ⟨Bs, 0, none⟩)] encG (KpB n₀ Bs) (fun ys => ys = backG fs fs.length) (fun pre => ∃ k, k ≤ fs.length ∧ pre = backG fs k) fs.length w := fun l J Jx W hW hJ _ hY h0 => by
  have hc' := (hW.cell (p := ⟨Bs, 0, none⟩) hBs).trans hc
  refine (backF1_in F n h7 hro hn l Bs n₀ cap A fs hr J Jx hY W hc' (fun h0 => ?_) h0).mono ?_
  · obtain ⟨b, off, e, hb1, hcc⟩ := hI h0
    have hbe := hb b off e h0
    refine ⟨b, off, e, by omega, fun j hj => ?_⟩
    obtain ⟨k1, k2⟩ := hcc j hj
    exact ⟨((hW.cell (p := ⟨b, off + j * 2, none⟩) (by show b < _; omega)).trans (hbe _)).trans k1, ((hW.cell (p := ⟨b, off + j * 2 + 1, none⟩) (by show b < _; omega)).trans (hbe _)).trans k2⟩
  · rintro e W' h
    exact h

/-- What a step's fate is, by what Backward has told. -/
def kindG (S : Int) (pre : List (Nat × (Int × Int))) : Int := pre.foldl (fun k x => if x.2.1 = S ∧ 1 ≤ x.2.2 ∧ x.2.2 ≤ 3 then x.2.2 else k) 0
theorem kindG_snoc (S : Int) (pre : List (Nat × (Int × Int))) (x : Nat × (Int × Int)) : kindG S (pre ++ [x]) = if x.2.1 = S ∧ 1 ≤ x.2.2 ∧ x.2.2 ≤ 3 then x.2.2 else kindG S pre := by simp [kindG, List.foldl_append]
/-- The fate that a plan has for step S: 0 is none. -/
def kindOf (fs : List (Int × Int)) (S : Int) : Int := kindG S (backG fs fs.length)
theorem kindG_range (S : Int) (pre : List (Nat × (Int × Int))) : 0 ≤ kindG S pre ∧ kindG S pre ≤ 3 := by
  rcases List.eq_nil_or_concat pre with rfl | ⟨p, x, rfl⟩
  · simp [kindG]
  · rw [List.concat_eq_append, kindG_snoc]
    have ih := kindG_range S p
    split
    · omega
    · exact ih
termination_by pre.length
decreasing_by rename_i h; subst h; simp
theorem kindOf_nil (S : Int) : kindOf [] S = 0 := rfl
theorem kindOf_one (n k S : Int) : kindOf [(n, k)] S = if n = S ∧ 1 ≤ k ∧ k ≤ 3 then k else 0 := by simp [kindOf, kindG, backG]
end Go.Proofs.YthfidlhefkjpdaaGreatDoor

namespace Go.Proofs.YthfidlhefkjpdaaGreatDoor
open Go.RowKit Go.Shelf
attribute [local go_sem] Oper.semAt_some

theorem bel_drewQ {n : Nat} {w w' : World} (h : Below n w w') (q : Nat) : Below n w (w'.drewN q) := ⟨h.os, h.tape, h.output, h.size, h.block⟩

set_option maxRecDepth 100000 in
set_option maxHeartbeats 2000000 in
theorem dstep_plan (gd fdo : Nat) (lb : Array Value) (sf pm : Value) (A : Option Addr) (cap : Nat) (fs : List (Int × Int)) (steps : Int) (w : World) (T : Nat → Prop) (R : World → World → Prop)
    (hB : Blk w gd 111 #[sf, pm, .slice A fs.length cap, .int .i64 steps, .bool false]) (hs0 : 0 ≤ steps) (hs1 : steps ≤ 1152921504606846976) (hT : ∀ b, T b → b < w.heap.size) (hTg : ¬ T gd)
    (hfl : fs.length ≤ 70368744175616) (hPl : RdF w A fs) (hPn : ∀ b o, A = some ⟨b, o, none⟩ → 0 < fs.length → b ≠ gd)
    (edo : ∀ args w, (callFunc fdo args).run Tryz.prog w = .ok (.enter fdo args) w)
    (hdo : ∀ W, Fr (· = gd) w W → Blk W gd 111 #[sf, pm, .slice A fs.length cap, .int .i64 (steps + 1), .bool false] → Calls Tryz.prog fdo lb W fun e W' => e = .returned (.tuple #[]) ∧ R W W' ∧ Fr T W W' ) :
    Calls Tryz.prog 95 #[.pointer (some ⟨gd, 0, none⟩), .func (.func fdo) #[] lb] w fun e w' =>
      ∃ W, Fr (· = gd) w W ∧ Blk W gd 111 #[sf, pm, .slice A fs.length cap, .int .i64 (steps + 1), .bool false] ∧
        ((kindOf fs (steps + 1) = 0 ∧ e = .returned (.int .i64 0) ∧ ∃ W', R W W' ∧ Fr T W W' ∧ W.heap.size ≤ W'.heap.size ∧ Below w.heap.size W' w' ∧ W'.heap.size ≤ w'.heap.size) ∨
         (kindOf fs (steps + 1) = 1 ∧ e = .returned (.int .i64 71) ∧ Below w.heap.size W w' ∧ W.heap.size ≤ w'.heap.size) ∨
         (kindOf fs (steps + 1) = 2 ∧ e = .returned (.int .i64 70) ∧ Below w.heap.size (W.setCell ⟨gd, 4, none⟩ (.bool true)) w' ∧ W.heap.size ≤ w'.heap.size) ∨
         (kindOf fs (steps + 1) = 3 ∧ e = .returned (.int .i64 70) ∧ ∃ W', R W W' ∧ Fr T W W' ∧ W.heap.size ≤ W'.heap.size ∧ Below w.heap.size (W'.setCell ⟨gd, 4, none⟩ (.bool true)) w' ∧ W'.heap.size ≤ w'.heap.size)) := by
  refine (callsIn_wide (n := 4)).1 ?_
  refine callsIn_of_wp_marks Tryz.func95 rfl trivial ?_ rfl
  simp only [Tryz.ntmps95, List.size_toArray, List.length_cons, List.length_nil, Nat.reduceAdd, Nat.reduceSub, Array.replicate_succ, Array.replicate_zero, List.push_toArray, List.append_toArray, List.nil_append, List.cons_append]
  obtain ⟨fl, hfl'⟩ : ∃ fl, fs.length = fl := ⟨_, rfl⟩
  rw [hfl'] at hB
  have c3 := hB.cell 3
  have c2 := hB.cell 2
  have f3 := hB.frozen 3
  simp at c2 c3
  have hgd := hB.lt
  gi_wp2_with (refine ⟨trivial, ?_⟩; gi_at_call 131; refine (backF_in Fence.wide _ trivial rfl _ _ _ _).mono ?_; rintro e w' ⟨rfl, rfl⟩)
  obtain ⟨W0, hW0⟩ : ∃ W0, ((((w.setCell ⟨gd, 3, none⟩ (.int .i64 (steps + 1))).alloc (.cells #[.pointer (some ⟨gd, 0, none⟩)] 24)).alloc (.cells #[.int .i64 0] 3)).alloc (.cells #[.slice A fl cap] 52)) = W0 := ⟨_, rfl⟩
  have hz0 : W0.heap.size = w.heap.size + 3 := by rw [← hW0]; simp [World.setCell]
  have hF0 : Fr (· = gd) w W0 := by
    rw [← hW0]
    exact ((((Fr.refl (· = gd) w).set (p := ⟨gd, 3, none⟩) (.inl rfl) _).alloc _).alloc _).alloc _
  have hB0 : Blk W0 gd 111 #[sf, pm, .slice A fl cap, .int .i64 (steps + 1), .bool false] := by
    rw [← hW0]
    have h1 : Blk (w.setCell ⟨gd, 3, none⟩ (.int .i64 (steps + 1))) gd 111 #[sf, pm, .slice A fl cap, .int .i64 (steps + 1), .bool false] := hB.set_ 3 _
    exact ((h1.fr ((((Fr.refl (fun _ => False) _).alloc _).alloc _).alloc _) (fun h => h)))
  have b0 : Boxed W0 w.heap.size 24 (.pointer (some ⟨gd, 0, none⟩)) := by
    rw [← hW0]
    have := Boxed.new (w.setCell ⟨gd, 3, none⟩ (.int .i64 (steps + 1))) 24 (.pointer (some ⟨gd, 0, none⟩))
    rw [show (w.setCell ⟨gd, 3, none⟩ (.int .i64 (steps + 1))).heap.size = w.heap.size by simp [World.setCell]] at this
    exact (this.alloc _).alloc _
  have b1 : Boxed W0 (w.heap.size + 1) 3 (.int .i64 0) := by
    rw [← hW0]
    have := Boxed.new ((w.setCell ⟨gd, 3, none⟩ (.int .i64 (steps + 1))).alloc (.cells #[.pointer (some ⟨gd, 0, none⟩)] 24)) 3 (.int .i64 0)
    rw [show ((w.setCell ⟨gd, 3, none⟩ (.int .i64 (steps + 1))).alloc (.cells #[.pointer (some ⟨gd, 0, none⟩)] 24)).heap.size = w.heap.size + 1 by simp [World.setCell]] at this
    exact this.alloc _
  have b2 : Boxed W0 (w.heap.size + 1 + 1) 52 (.slice A fl cap) := by
    rw [← hW0]
    have := Boxed.new (((w.setCell ⟨gd, 3, none⟩ (.int .i64 (steps + 1))).alloc (.cells #[.pointer (some ⟨gd, 0, none⟩)] 24)).alloc (.cells #[.int .i64 0] 3)) 52 (.slice A fl cap)
    rw [show (((w.setCell ⟨gd, 3, none⟩ (.int .i64 (steps + 1))).alloc (.cells #[.pointer (some ⟨gd, 0, none⟩)] 24)).alloc (.cells #[.int .i64 0] 3)).heap.size = w.heap.size + 1 + 1 by simp [World.setCell]] at this
    exact this
  rw [hW0]
  clear hW0 c2 c3 f3 hB
  subst hfl'
  refine wpIn_rangeFunc_ownH (α := Nat × (Int × Int)) rfl (by omega) (gf := 149) (lb := #[.pointer (some ⟨w.heap.size + 1 + 1, 0, none⟩)]) rfl trivial (enters_of Tryz.func149 (by kernel_rfl) rfl)
    (backF_stops Fence.wide _ trivial rfl (by omega) (w.heap.size + 1 + 1) w.heap.size cap A fs W0 b2.lt b2.cell w hPl (Nat.le_refl _) (by omega) (fun b o e h0 i => World.cell?_of_block (hF0.block b (by obtain ⟨b', o', e', h, _⟩ := hPl h0; rw [e] at e'; cases e'; exact h) (hPn b o e h0))) hfl) (fun h k => KpB.trans h k) (KpB.put (by omega)) (Below.refl _ _) (fun x => rfl)
    (fun pre W => Boxed W w.heap.size 24 (.pointer (some ⟨gd, 0, none⟩)) ∧ Boxed W (w.heap.size + 1) 3 (.int .i64 (kindG (steps + 1) pre)) ∧ Blk W gd 111 #[sf, pm, .slice A fs.length cap, .int .i64 (steps + 1), .bool false] ∧ Fr (· = gd) w W ∧ w.heap.size + 3 ≤ W.heap.size)
    (fun _ _ _ => False)
    ?own
    (fun _ _ _ _ _ hs _ _ => hs)
    ⟨b0, b1, hB0, hF0, by omega⟩
    (fun x a' W => ∃ b, w.heap.size + 3 ≤ b ∧ W.heap[b]? = some (.cells #[.int .i64 x.2.1, .int .i64 x.2.2] 76 (0, 0)) ∧ a' = { tmps := #[.pointer (some ⟨gd, 0, none⟩), .func (.func fdo) #[] lb, .pointer (some ⟨w.heap.size, 0, none⟩), undef, .int .i64 0, .pointer (some ⟨w.heap.size + 1, 0, none⟩), undef, .pointer (some ⟨b, 0, none⟩), .pointer (some ⟨gd, 0, none⟩), .pointer (some ⟨gd, 0, none⟩), .pointer (some ⟨gd, 3, none⟩), .int .i64 steps, .int .i64 (steps + 1), .pointer (some ⟨gd, 0, none⟩), .pointer (some ⟨gd, 3, none⟩), .pointer (some ⟨gd, 0, none⟩), .pointer (some ⟨gd, 0, none⟩), .pointer (some ⟨gd, 2, none⟩), .slice A fs.length cap, .func (.func 149) #[] #[.pointer (some ⟨w.heap.size + 1 + 1, 0, none⟩)], .int .i64 (x.1 : Int), .agg #[.int .i64 x.2.1, .int .i64 x.2.2], undef, undef, undef, undef, undef, undef, undef, undef, undef, undef, undef, undef, undef, undef, undef, undef, undef, undef, undef, undef, undef, undef, undef, undef, undef, undef, undef, undef, undef, undef, undef, undef, undef, undef], defers := [] }) ?ownx ?assign ?body ?done ?stop
  case own =>
    intro s X Y row hs hg hr
    obtain ⟨h1, h2, h3, h4, h5⟩ := hs
    have key : ∀ (B : Nat) (cs : Array Value) (t : TypeId), X.heap[B]? = some (.cells cs t (0, 0)) → Y.heap[B]? = some (.cells cs t (0, 0)) := fun B cs t h =>
      (hg.block B (Array.getElem?_eq_some_iff.1 h).1 (fun e => by
        obtain ⟨_, o, ho, hc⟩ := hr B e.symm
        rw [h] at ho
        cases ho
        cases hc)).trans h
    refine ⟨key _ _ _ h1, key _ _ _ h2, key _ _ _ h3, ⟨hg.os.trans h4.os, hg.tape.trans h4.tape, hg.output.trans h4.output, Nat.le_trans h4.size hg.size, fun b hb hn => ?_⟩, Nat.le_trans h5 hg.size⟩
    exact (hg.block b (Nat.lt_of_lt_of_le hb h4.size) (fun e => by
      have := (hr b e.symm).1
      omega)).trans (h4.block b hb hn)
  case ownx =>
    rintro x a' s X Y row ⟨b, hb, h, rfl⟩ hg hr
    exact ⟨b, hb, (hg.block b (Array.getElem?_eq_some_iff.1 h).1 (fun e => by
        obtain ⟨_, o, ho, hc⟩ := hr b e.symm
        rw [h] at ho
        cases ho
        cases hc)).trans h, rfl⟩
  case assign =>
    intro l pre x W K ⟨h1, h2, h3, h4, h5⟩ hK
    have hz4 := h4.size
    unfold encG
    gi_wp2
    refine hK _ _ ?_ ?_ ?_ ?_
    · exact ⟨by simp, fun k o _ hk _ => (Below.heap_alloc _ _ _ (Array.getElem?_eq_some_iff.1 hk).1).trans hk⟩
    · exact ⟨(Below.refl _ W).alloc (by omega) _, fun u hu => cell_kept hu (World.grownBy_alloc W _ none) (fun r e => by cases e)⟩
    · exact ⟨h1.alloc _, h2.alloc _, h3.fr ((Fr.refl (fun _ => False) _).alloc _) (fun h => h), h4.alloc _, by simp; omega⟩
    · exact ⟨W.heap.size, by omega, alloc_new W _, rfl⟩
  case body =>
    rintro l pre ⟨xi, xs, xk⟩ a' W hl hL ⟨h1, h2, h3, h4, h5⟩ ⟨b, hb, hbx, rfl⟩ -
    dsimp only at hbx
    have k1 := h1.cell
    have k2 := h2.cell
    have f2 := h2.frozen
    have c3 := h3.cell 3
    simp at c3
    have x0 : W.cell? ⟨b, 0, none⟩ = some (.int .i64 xs) := by simp [World.cell?, hbx]
    have x1 : W.cell? ⟨b, 1, none⟩ = some (.int .i64 xk) := by simp [World.cell?, hbx]
    have hnot : ¬ (xs = steps + 1 ∧ 1 ≤ xk ∧ xk ≤ 3) → kindG (steps + 1) (pre ++ [(xi, xs, xk)]) = kindG (steps + 1) pre := fun h => by rw [kindG_snoc, if_neg h]
    have HN := hid hnot
    have hmx : Tryz.prog.follows .mixedOrders = true := by kernel_rfl
    have HH : Aside (Boxed W w.heap.size 24 (.pointer (some ⟨gd, 0, none⟩)) ∧ Boxed W (w.heap.size + 1) 3 (.int .i64 (kindG (steps + 1) pre)) ∧ Blk W gd 111 #[sf, pm, .slice A fs.length cap, .int .i64 (steps + 1), .bool false] ∧ Fr (· = gd) w W ∧ w.heap.size + 3 ≤ W.heap.size) := ⟨h1, h2, h3, h4, h5⟩
    clear hnot h1 h2 h3 h4
    by_cases hs : xs = steps + 1
    · have hs' : (xs == steps + 1) = true := by simpa using hs
      by_cases ha : 1 ≤ xk
      · have ha' : decide (1 ≤ xk) = true := by simpa using ha
        by_cases hb3 : xk ≤ 3
        · have hb' : decide (xk ≤ 3) = true := by simpa using hb3
          have hyes : kindG (steps + 1) (pre ++ [(xi, xs, xk)]) = xk := by rw [kindG_snoc, if_pos ⟨hs, ha, hb3⟩]
          have HY := hid hyes
          have hS := hid hs
          clear hyes hs
          gi_wp2
          refine region_quiet_round (by kernel_rfl) (by assumption) (by kernel_rfl) ?_
          repeat (gi_big_quiet_step (fail))
          refine wpQuietIn_nil ?_
          intro _ hw'
          obtain ⟨nq, hw''⟩ := hw'
          subst hw''
          gi_wp2
          refine ⟨KeepsFrom.trans (Y := W.drewN nq) ⟨Nat.le_refl _, fun _ _ _ hk _ => hk⟩ ((KeepsOthers.setCell _ _ _).from _), ⟨Below.setCell (p := ⟨w.heap.size + 1, 0, none⟩) (bel_drewQ (Below.refl _ _) _) (Nat.le_succ _) _, fun u hu => (World.cell?_setCell_other _ _ _ _ (fun h => by have := congrArg Addr.block h; simp at this)).trans hu⟩, ?_⟩
          obtain ⟨h1, h2, h3, h4, h5⟩ := HH.out
          rw [HY.out]
          have d1 : Boxed (W.drewN nq) w.heap.size 24 (.pointer (some ⟨gd, 0, none⟩)) := h1
          have d2 : Boxed (W.drewN nq) (w.heap.size + 1) 3 (.int .i64 (kindG (steps + 1) pre)) := h2
          have d3 : Fr (· = gd) w (W.drewN nq) := h4.drewN nq
          refine ⟨d1.other (by omega) _, d2.set _, ?_, d3.set (p := ⟨w.heap.size + 1, 0, none⟩) (.inr (by show w.heap.size ≤ w.heap.size + 1; omega)) _, by simp [World.setCell, World.drewN]; omega⟩
          exact (Below.heap_setCell _ _ _ gd (by simp; omega)).trans h3
        · have hb' : decide (xk ≤ 3) = false := by simpa using hb3
          have hS := hid hs
          clear hs
          gi_wp2
          refine region_quiet_round (by kernel_rfl) (by assumption) (by kernel_rfl) ?_
          repeat (gi_big_quiet_step (fail))
          refine wpQuietIn_nil ?_
          intro _ hw'
          obtain ⟨nq, hw''⟩ := hw'
          subst hw''
          gi_wp2
          exact ⟨⟨Nat.le_refl _, fun _ _ _ hk _ => hk⟩, ⟨bel_drewQ (Below.refl _ _) _, fun _ h => h⟩, HH.out.1, by rw [HN.out (by omega)]; exact HH.out.2.1, HH.out.2.2.1, HH.out.2.2.2.1.drewN nq, HH.out.2.2.2.2⟩
      · have ha' : decide (1 ≤ xk) = false := by simpa using ha
        have hS := hid hs
        clear hs
        gi_wp2
        refine region_quiet_round (by kernel_rfl) (by assumption) (by kernel_rfl) ?_
        repeat (gi_big_quiet_step (fail))
        refine wpQuietIn_nil ?_
        intro _ hw'
        obtain ⟨nq, hw''⟩ := hw'
        subst hw''
        gi_wp2
        exact ⟨⟨Nat.le_refl _, fun _ _ _ hk _ => hk⟩, ⟨bel_drewQ (Below.refl _ _) _, fun _ h => h⟩, HH.out.1, by rw [HN.out (by omega)]; exact HH.out.2.1, HH.out.2.2.1, HH.out.2.2.2.1.drewN nq, HH.out.2.2.2.2⟩
    · have hs' : (xs == steps + 1) = false := by simpa using hs
      gi_wp2
      refine region_quiet_round (by kernel_rfl) (by assumption) (by kernel_rfl) ?_
      repeat (gi_big_quiet_step (fail))
      refine wpQuietIn_nil ?_
      intro _ hw'
      obtain ⟨nq, hw''⟩ := hw'
      subst hw''
      gi_wp2
      exact ⟨⟨Nat.le_refl _, fun _ _ _ hk _ => hk⟩, ⟨bel_drewQ (Below.refl _ _) _, fun _ h => h⟩, HH.out.1, by rw [HN.out (fun h => hs h.1)]; exact HH.out.2.1, HH.out.2.2.1, HH.out.2.2.2.1.drewN nq, HH.out.2.2.2.2⟩
  case stop =>
    rintro D c pre W _ _ h _
    exact h.elim
  case done =>
    rintro D xs W hD rfl ⟨h1, h2, h3, h4, h5⟩ hK
    obtain ⟨kd, hkd⟩ : ∃ kd, kindG (steps + 1) (backG fs fs.length) = kd := ⟨_, rfl⟩
    have hko : kindOf fs (steps + 1) = kd := hkd
    have hr := kindG_range (steps + 1) (backG fs fs.length)
    rw [hkd] at h2 hr
    have HKo := hid hko
    clear hkd hko
    have c5 := h2.cell
    have c2 := h1.cell
    have c4 := h3.cell 4
    have f4 := h3.frozen 4
    simp at c4
    have hglt := h3.lt
    have hDl : D < W.heap.size := (Array.getElem?_eq_some_iff.1 hK).1
    have hcall := hdo W h4 h3
    by_cases h10 : kd = 1
    · subst h10
      gi_wp2
      refine ⟨by simp, .inl ⟨_, _, rfl, run_takeDeferred hK, ?_⟩⟩
      refine ⟨_, results_tmp rfl _ _ _, W, h4, h3, .inr (.inl ⟨HKo.out, rfl, belowK_b (w := w) (Nat.le_refl _) W D _ _ (by omega) hK rfl rfl, ?_⟩)⟩
      simp [World.putObj]
    by_cases h20 : kd = 2
    · subst h20
      gi_wp2
      have hK' : (W.setCell ⟨gd, 4, none⟩ (.bool true)).heap[D]? = some (.deferred (some [])) := (Below.heap_setCell _ _ _ D (by simp; omega)).trans hK
      refine ⟨by simp, .inl ⟨_, _, rfl, run_takeDeferred hK', ?_⟩⟩
      refine ⟨_, results_tmp rfl _ _ _, W, h4, h3, .inr (.inr (.inl ⟨HKo.out, rfl, belowK_b (w := w) (Nat.le_refl _) _ D _ _ (by omega) hK' rfl rfl, ?_⟩))⟩
      simp [World.putObj, World.setCell]
    have e1 : (kd == 1) = false := by simpa using h10
    have e2 : (kd == 2) = false := by simpa using h20
    clear c4 f4
    gi_wp2
    refine ⟨trivial, (callsIn_wide.2 hcall).mono ?_⟩
    rintro e w' ⟨rfl, hR, hF⟩
    have hne0 : ∀ b, w.heap.size ≤ b → ¬ T b := fun b hb ht => by have := hT b ht; omega
    have hbx : Boxed w' (w.heap.size + 1) 3 (.int .i64 kd) := (hF.block _ h2.lt (hne0 _ (by omega))).trans h2
    have hb0 : Boxed w' w.heap.size 24 (.pointer (some ⟨gd, 0, none⟩)) := (hF.block _ h1.lt (hne0 _ (Nat.le_refl _))).trans h1
    have hB' := h3.fr hF hTg
    have c5' := hbx.cell
    have c2' := hb0.cell
    have c4' := hB'.cell 4
    have f4' := hB'.frozen 4
    simp at c4'
    have hK' : w'.heap[D]? = some (.deferred (some [])) := (hF.block _ hDl (hne0 _ (by omega))).trans hK
    have hzF := hF.size
    have hlt' : gd < w'.heap.size := by omega
    by_cases h30 : kd = 3
    · subst h30
      gi_wp2
      have hK2 : (w'.setCell ⟨gd, 4, none⟩ (.bool true)).heap[D]? = some (.deferred (some [])) := (Below.heap_setCell _ _ _ D (by simp; omega)).trans hK'
      refine ⟨by simp, .inl ⟨_, _, rfl, run_takeDeferred hK2, ?_⟩⟩
      refine ⟨_, results_tmp rfl _ _ _, W, h4, h3, .inr (.inr (.inr ⟨HKo.out, rfl, w', hR, hF, hF.size, belowK_b (w := w) (Nat.le_refl _) _ D _ _ (by omega) hK2 rfl rfl, ?_⟩))⟩
      simp [World.putObj, World.setCell]
    · have e3 : (kd == 3) = false := by simpa using h30
      have hk0 : kd = 0 := by omega
      gi_wp2
      refine ⟨by simp, .inl ⟨_, _, rfl, run_takeDeferred hK', ?_⟩⟩
      refine ⟨_, results_tmp rfl _ _ _, W, h4, h3, .inl ⟨HKo.out.trans hk0, rfl, w', hR, hF, hF.size, belowK_b (w := w) (Nat.le_refl _) w' D _ _ (by omega) hK' rfl rfl, ?_⟩⟩
      simp [World.putObj]
end Go.Proofs.YthfidlhefkjpdaaGreatDoor
