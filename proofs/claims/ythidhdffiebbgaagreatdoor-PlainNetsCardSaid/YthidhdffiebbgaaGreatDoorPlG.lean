/- The walks of the library's iterators over a slice of edges: Values, AppendSeq, Collect. -/
import Derived.RangeFuncNested
import Derived.RangeFuncBound
import Derived.RangeFuncCalls
import Derived.RangeFuncLeaves
import Derived.Shelf.Abstract
import Derived.Shelf.RegionOpen
import Derived.WalkKit
import Derived.OwnWalkIn
import Derived.TacticsInMore
import Derived.LoopNIn
import Derived.LoopIn
import Derived.Maps.AppendAt
import Derived.Deep.LoopGhost
import Derived.Test.YthidhdffiebbgaaGreatDoorSkB
import Derived.Test.YthidhdffiebbgaaGreatDoorProg
namespace Go.Proofs.YthidhdffiebbgaaGreatDoor
open Go.RowKit Go.Shelf Go.Proofs.YthidhdffiebbgaaGreatDoor.Sk
attribute [local go_sem] Oper.semAt_some

theorem info47 : (Tryz.prog.info? 47).map (fun i => (i.zero, i.size, i.bytes)) = some (some (.agg #[.int .i64 0, .int .i64 0, .int .i64 0, .int .i64 0]), 4, 32) := by kernel_rfl

/-- an edge's value -/
def valE (e : Edg) : Value := .agg #[.int .i64 e.id, .int .i64 e.u, .int .i64 e.v, .int .i64 e.w]

set_option maxRecDepth 100000 in
set_option maxHeartbeats 2000000 in
theorem values1_in (F : Fence) (n : Nat) (h7 : F.fn 102) (hro : F.round = none) (hn : 1 ≤ n) (l Bs n₀ cap : Nat) (a : Option Addr) (E : List Edg) (hreach : E.length * 32 ≤ 140737488351232) (J Jx : List Edg → World → Prop)
    (hY : ∀ pre x W, J pre W → pre.length < E.length → YieldAt F (n - 1) Tryz.prog l #[valE x] W fun e W' =>
      (e = .returned (.bool true) ∧ J (pre ++ [x]) W' ∧ Below n₀ W W') ∨ (e = .returned (.bool false) ∧ Jx (pre ++ [x]) W'))
    (W : World) (hJ : AbidesFrom W.heap.size J) (hn₀ : n₀ ≤ W.heap.size) (hBs : W.cell? ⟨Bs, 0, none⟩ = some (.slice a E.length cap))
    (hcs : 0 < E.length → ∃ b off, a = some ⟨b, off, none⟩ ∧ b < n₀ ∧ ∀ j (h : j < E.length), W.cell? ⟨b, off + j * 4, none⟩ = some (.int .i64 E[j].id) ∧ W.cell? ⟨b, off + j * 4 + 1, none⟩ = some (.int .i64 E[j].u) ∧
      W.cell? ⟨b, off + j * 4 + 2, none⟩ = some (.int .i64 E[j].v) ∧ W.cell? ⟨b, off + j * 4 + 3, none⟩ = some (.int .i64 E[j].w)) (h0 : J [] W) :
    CallsIn F n Tryz.prog 102 #[.func (.yield l) #[] #[], .pointer (some ⟨Bs, 0, none⟩)] W fun e W' => (∃ v, e = .returned v) ∧
      ((∃ ys, ys = E ∧ J ys W') ∨ (∃ pre, (∃ k, k ≤ E.length ∧ pre = E.take k) ∧ Jx pre W')) := by
  have A : Aside (0 < E.length → ∃ b off, a = some ⟨b, off, none⟩ ∧ b < n₀ ∧ ∀ j (h : j < E.length), W.cell? ⟨b, off + j * 4, none⟩ = some (.int .i64 E[j].id) ∧ W.cell? ⟨b, off + j * 4 + 1, none⟩ = some (.int .i64 E[j].u) ∧
      W.cell? ⟨b, off + j * 4 + 2, none⟩ = some (.int .i64 E[j].v) ∧ W.cell? ⟨b, off + j * 4 + 3, none⟩ = some (.int .i64 E[j].w)) := hcs
  clear hcs
  refine callsIn_of_wp Tryz.func102 rfl h7 ?_ hro
  simp only [Tryz.ntmps102, List.size_toArray, List.length_cons, List.length_nil, Nat.reduceAdd, Nat.reduceSub, Array.replicate_succ, Array.replicate_zero, List.push_toArray, List.append_toArray, List.nil_append, List.cons_append]
  gi_wp2
  gi_loopw [7] (fun i wr => ∃ k : Nat, k ≤ E.length ∧ i = .int .i64 k ∧ J (E.take k) wr ∧ Below n₀ W wr)
    (fun i _ => E.length - (intOf i).toNat)
  case atStart => exact ⟨0, Nat.zero_le _, rfl, by simpa using h0, Below.refl _ _⟩
  case round =>
    obtain ⟨k, hk, rfl, hJs, hnx⟩ := hrel
    by_cases hlt : k < E.length
    · obtain ⟨b, off, rfl, hb, hc⟩ := A.out (by omega)
      obtain ⟨g0, g1, g2, g3⟩ := hc k hlt
      obtain ⟨e, hx⟩ : ∃ e, E[k] = e := ⟨_, rfl⟩
      have hsnoc : E.take (k + 1) = E.take k ++ [e] := by rw [List.take_succ_eq_append_getElem hlt, hx]
      rw [hx] at g0 g1 g2 g3
      replace g0 := (hnx.cell (p := ⟨b, off + k * 4, none⟩) hb).trans g0
      replace g1 := (hnx.cell (p := ⟨b, off + k * 4 + 1, none⟩) hb).trans g1
      replace g2 := (hnx.cell (p := ⟨b, off + k * 4 + 2, none⟩) hb).trans g2
      replace g3 := (hnx.cell (p := ⟨b, off + k * 4 + 3, none⟩) hb).trans g3
      have hJ1 : J (E.take k) (wr.alloc (.cells #[.int .i64 e.id, .int .i64 e.u, .int .i64 e.v, .int .i64 e.w] 47)) := hJ _ _ _ none hJs (World.grownBy_alloc _ _ _) (fun r e => by cases e)
      obtain ⟨fn, tmps, assign, body, hy, hR⟩ := hY _ e _ hJ1 (by rw [List.length_take]; omega)
      have hsz : n₀ ≤ wr.heap.size := by have := hnx.size; omega
      have hb1 : Below n₀ W (wr.alloc (.cells #[.int .i64 e.id, .int .i64 e.u, .int .i64 e.v, .int .i64 e.w] 47)) := hnx.alloc hsz _
      have B : Aside (E.take (k + 1) = E.take k ++ [e] ∧ Below n₀ W (wr.alloc (.cells #[.int .i64 e.id, .int .i64 e.u, .int .i64 e.v, .int .i64 e.w] 47))) := ⟨hsnoc, hb1⟩
      unfold valE at hy
      clear hx hsnoc hJ1 hJs hnx hb1 hc
      gi_wp2
      refine hR.mono ?_
      rintro _ W3 (⟨rfl, hJ3, hk3⟩ | ⟨rfl, hJx3⟩)
      · gi_wp2
        go_roundw
        case rel => exact ⟨k + 1, by omega, by go_num, by rw [B.out.1]; exact hJ3, B.out.2.trans hk3⟩
        case measure => simp [intOf]; omega
      · gi_wp2
        refine bodyPost_ret (results_none rfl _ _ _) rfl ?_
        exact ⟨⟨_, rfl⟩, .inr ⟨_, ⟨k + 1, by omega, B.out.1.symm⟩, hJx3⟩⟩
    · obtain rfl : k = E.length := by omega
      rw [List.take_length] at hJs
      gi_wp2
      go_end0
      exact ⟨⟨_, rfl⟩, .inl ⟨_, rfl, hJs⟩⟩

set_option maxHeartbeats 1000000 in
theorem values_any (a : Option Addr) (len cap : Nat) (w : World) :
    Calls Tryz.prog 77 #[.slice a len cap] w fun e w' => e = .returned (.func (.func 102) #[] #[.pointer (some ⟨w.heap.size, 0, none⟩)]) ∧ w' = w.alloc (.cells #[.slice a len cap] 23) := by
  have hmf : ∀ (fn : Fn) (first cap : Array Value) (w : World), (Instr.makeFunc fn first cap).run Tryz.prog w = .ok (.func fn first cap) w := fun _ _ _ _ => rfl
  go_enter Tryz.func77, Tryz.ntmps77
  go_wp2
  go_ret
  exact ⟨rfl, rfl⟩

theorem values_stops (F : Fence) (n : Nat) (h7 : F.fn 102) (hro : F.round = none) (hn : 1 ≤ n) (Bs n₀ : Nat) (sv : Value) (E : List Edg) (w : World) (hBs : Bs < w.heap.size) (hn₀ : n₀ ≤ w.heap.size)
    (hc : w.cell? ⟨Bs, 0, none⟩ = some sv) (w₀ : World) (hI : RdE w₀ sv E) (hw₀ : w₀.heap.size ≤ n₀) (hb : Below w₀.heap.size w₀ w) :
    SeqStopsK F n Tryz.prog 102 #[.pointer (some ⟨Bs, 0, none⟩)] (fun x : Edg => #[valE x]) (Below n₀) (fun ys => ys = E) (fun pre => pre <+: E) E.length w := fun l J Jx W hW hJ _ hY h0 => by
  have hc' := (hW.cell (p := ⟨Bs, 0, none⟩) hBs).trans hc
  obtain ⟨a, cap, rfl, _, hlen, hcs⟩ := hI
  refine (values1_in F n h7 hro hn l Bs n₀ cap a E hlen J Jx hY W hJ (Nat.le_trans hn₀ hW.size) hc' (fun h0 => ?_) h0).mono ?_
  · obtain ⟨b, off, e, hb1, hcc⟩ := hcs h0
    have k : ∀ o, W.cell? ⟨b, o, none⟩ = w₀.cell? ⟨b, o, none⟩ := fun o => (hW.cell (p := ⟨b, o, none⟩) (by show b < _; omega)).trans (hb.cell (p := ⟨b, o, none⟩) hb1)
    refine ⟨b, off, e, by omega, fun j hj => ?_⟩
    rw [k, k, k, k]
    exact hcc j hj
  · rintro e W' ⟨he, ⟨ys, rfl, hj⟩ | ⟨pre, ⟨k, hk, rfl⟩, hj⟩⟩
    · exact ⟨he, .inl ⟨_, rfl, hj⟩⟩
    · exact ⟨he, .inr ⟨_, List.take_prefix _ _, hj⟩⟩

/-- a block that holds an edge -/
def BoxE (W : World) (B : Nat) (e : Edg) : Prop := W.heap[B]? = some (.cells #[.int .i64 e.id, .int .i64 e.u, .int .i64 e.v, .int .i64 e.w] 47 (0, 0))

theorem boxE_own (B : Nat) (e : Edg) : Own (fun (_ : Unit) W => BoxE W B e) := fun s X Y row hs hg hrow =>
  (hg.block B (Array.getElem?_eq_some_iff.1 hs).1 (fun e' => by obtain ⟨o, ho, hc⟩ := hrow B e'.symm; rw [show X.heap[B]? = _ from hs] at ho; cases ho; cases hc)).trans hs

theorem BoxE.cells {W : World} {B : Nat} {e : Edg} (h : BoxE W B e) : W.cell? ⟨B, 0, none⟩ = some (.int .i64 e.id) ∧ W.cell? ⟨B, 1, none⟩ = some (.int .i64 e.u) ∧ W.cell? ⟨B, 2, none⟩ = some (.int .i64 e.v) ∧ W.cell? ⟨B, 3, none⟩ = some (.int .i64 e.w) := by
  have h' : W.heap[B]? = _ := h
  simp [World.cell?, h']

theorem flat_snoc (pre : List Edg) (e : Edg) : (pre ++ [e]).flatMap encE = pre.flatMap encE ++ encE e := by simp
theorem flat_len (l : List Edg) : (l.flatMap encE).length = l.length * 4 := by
  induction l with
  | nil => rfl
  | cons a l ih => simp [List.flatMap_cons, ih, encE]; omega

theorem cell_four_new (w : World) (e : Edg) : ∀ j u, (encE e)[j]? = some u → (w.alloc (.cells #[.int .i64 e.id, .int .i64 e.u, .int .i64 e.v, .int .i64 e.w] 47)).cell? ((⟨w.heap.size, 0, none⟩ : Addr).add j) = some u := by
  intro j u hj
  have : ∀ i, (w.alloc (.cells #[.int .i64 e.id, .int .i64 e.u, .int .i64 e.v, .int .i64 e.w] 47)).cell? ⟨w.heap.size, i, none⟩ = (#[Value.int .i64 e.id, .int .i64 e.u, .int .i64 e.v, .int .i64 e.w])[i]? := fun i => World.cell?_alloc_at _ _ _ _ rfl
  match j, hj with
  | 0, hj => simp [encE] at hj; subst hj; simp [Addr.add, this]
  | 1, hj => simp [encE] at hj; subst hj; simp [Addr.add, this]
  | 2, hj => simp [encE] at hj; subst hj; simp [Addr.add, this]
  | 3, hj => simp [encE] at hj; subst hj; simp [Addr.add, this]
  | j + 4, hj => simp [encE] at hj

theorem encE_one (e : Edg) : ∀ u ∈ encE e, u.oneCell' = true := by
  intro u hu
  simp [encE] at hu
  rcases hu with rfl | rfl | rfl | rfl <;> rfl

set_option maxRecDepth 100000 in
set_option maxHeartbeats 4000000 in
theorem appendSeq_in (F : Fence) (n : Nat) (h126 : F.fn 126) (h102 : F.fn 102) (hro : F.round = none) (hn : 3 ≤ n) (Bs : Nat) (sv : Value) (E : List Edg) (w w₀ : World) (hI : RdE w₀ sv E) (hb : Below w₀.heap.size w₀ w) (hBs : Bs < w.heap.size) (hc : w.cell? ⟨Bs, 0, none⟩ = some sv) :
    CallsIn F n Tryz.prog 126 #[.slice none 0 0, .func (.func 102) #[] #[.pointer (some ⟨Bs, 0, none⟩)]] w fun e W' => ∃ v, e = .returned v ∧ W'.ownsRow w.heap.size 47 4 v E.length (E.flatMap encE) ∧ (v = .slice none 0 0 ↔ E = []) ∧ Below w.heap.size w W' := by
  have h1 : 1 ≤ n := by omega
  obtain ⟨i0, hi, hz0, hz1, hz2⟩ := info_parts info47
  have hE32 : E.length * 32 ≤ 140737488351232 := by obtain ⟨_, _, _, _, h, _⟩ := hI; exact h
  refine callsIn_of_wp_marks Tryz.func126 rfl h126 ?_ hro
  simp only [Tryz.ntmps126, List.size_toArray, List.length_cons, List.length_nil, Nat.reduceAdd, Nat.reduceSub, Array.replicate_succ, Array.replicate_zero, List.push_toArray, List.append_toArray, List.nil_append, List.cons_append]
  gi_wp2
  have bO := Boxed.new w 23 (.slice none 0 0)
  have hB0 : Below w.heap.size w (w.alloc (.cells #[.slice none 0 0] 23)) := (Below.refl _ w).alloc (Nat.le_refl _) _
  have hsz : (w.alloc (.cells #[.slice none 0 0] 23)).heap.size = w.heap.size + 1 := by simp
  obtain ⟨W0, hW0⟩ : ∃ W0, w.alloc (.cells #[.slice none 0 0] 23) = W0 := ⟨_, rfl⟩
  rw [hW0] at bO hB0 hsz ⊢
  clear hW0
  have hc0 : W0.cell? ⟨Bs, 0, none⟩ = some sv := (hB0.cell (p := ⟨Bs, 0, none⟩) hBs).trans hc
  refine wpIn_rangeFunc_ownH hro h1 (gf := 102) (lb := #[.pointer (some ⟨Bs, 0, none⟩)]) rfl h102 (enters_of Tryz.func102 (by kernel_rfl) rfl)
    (values_stops F (n - 1) h102 hro (by omega) Bs w.heap.size sv E W0 (by omega) (by omega) hc0 w₀ hI hb.size (hb.trans (hB0.mono hb.size))) belowK_t (belowK_b (by omega)) (Below.refl _ _) (fun _ => rfl)
    (fun pre W => (∃ v, Boxed W w.heap.size 23 v ∧ W.ownsRow w.heap.size 47 4 v pre.length (pre.flatMap encE) ∧ (v = .slice none 0 0 ↔ pre = [])) ∧ Below w.heap.size w W)
    (fun _ _ _ => False)
    (OwnFrom.and (Own.from (holdsRow_own w.heap.size w.heap.size 23 47 4 (fun pre : List Edg => pre.length) (fun pre => pre.flatMap encE) (fun pre v => v = .slice none 0 0 ↔ pre = [])) _) (ownFrom_below (Nat.le_refl _) (by omega)))
    (fun _ _ _ _ _ hs _ _ => hs)
    ⟨⟨_, bO, World.ownsRow_nil _ _ _ _, by simp⟩, hB0⟩
    (fun x a' W => ∃ Bx, w.heap.size < Bx ∧ BoxE W Bx x ∧ a' = { tmps := #[.slice none 0 0, .func (.func 102) #[] #[.pointer (some ⟨Bs, 0, none⟩)], .pointer (some ⟨w.heap.size, 0, none⟩), undef, .slice none 0 0, .pointer (some ⟨Bx, 0, none⟩), .func (.func 102) #[] #[.pointer (some ⟨Bs, 0, none⟩)], valE x, undef, undef, undef, undef, undef], defers := [] })
    (fun x a' _ X Y row hs hg hr => by obtain ⟨Bx, h1, h2, h3⟩ := hs; exact ⟨Bx, h1, boxE_own Bx x () X Y row h2 hg (fun r e => (hr r e).2), h3⟩)
    ?assign ?body ?done ?stop
  case assign =>
    rintro l pre x W K ⟨⟨v, hv, hrow, hnil⟩, hB1⟩ hK
    unfold valE at hK ⊢
    gi_wp2
    refine hK _ _ ((KeepsOthers.alloc _ _).from _) ((Below.refl _ W).alloc hB1.size _) ⟨⟨v, hv.alloc _, hrow.alloc _, hnil⟩, hB1.alloc hB1.size _⟩ ⟨W.heap.size, hv.lt, World.alloc_heap_new W _, rfl⟩
  case body =>
    rintro l pre x a' W hl ⟨r, hr⟩ ⟨⟨v, hv, hrow, hnil⟩, hB1⟩ ⟨Bx, hBx, bX, rfl⟩ hlt
    have cB := hv.cell
    obtain ⟨x0, x1, x2, x3⟩ := bX.cells
    unfold valE
    gi_wp2_with (gi_at_builtin; refine wpListIn_append_own _ rfl _ _ 23 rfl w.heap.size 47 i0 (.agg #[.int .i64 0, .int .i64 0, .int .i64 0, .int .i64 0]) 4 32 Tryz.underlying23 hi hz0 hz1 hz2 rfl (by decide) _ _ _ rfl (hrow.alloc _) ⟨W.heap.size, 0, none⟩ 1 1 (encE x) rfl rfl (cell_four_new _ _) (encE_one x) (by unfold maxLen; omega) (by omega) (by have := hB1.size; simp; omega) ?_; intro v' w1 hown' hgrow _; obtain ⟨g', cap', rfl⟩ := ownsRow_succ hown'; obtain ⟨hv1, hv2, hr2, hk2, hb2⟩ := hv.appended (by decide) hrow hB1.size (Nat.le_refl _) hown' hgrow; have hc1 := hv1.cell; have hf1 := hv1.frozen)
    exact ⟨hk2.from _, hb2, ⟨_, hv2, by rw [flat_snoc]; simpa using hr2, by simp⟩, hB1.trans hb2⟩
  case done =>
    rintro D ys W hD rfl ⟨⟨v, hv, hrow, hnil⟩, hB⟩ hK
    have hc := hv.cell
    gi_wp2
    refine ⟨by simp, .inl ⟨_, _, rfl, run_takeDeferred hK, ?_⟩⟩
    exact ⟨_, results_tmp rfl _ _ _, v, rfl, ownsRow_putObj hrow _ hK rfl, hnil, hB.trans (belowK_b (w := w) (Nat.le_refl _) W D _ _ (by omega) hK rfl rfl)⟩
  case stop =>
    rintro D c pre W _ _ h _
    exact h.elim

set_option maxHeartbeats 1000000 in
theorem collect_any (Bs : Nat) (sv : Value) (E : List Edg) (w w₀ : World) (hI : RdE w₀ sv E) (hb : Below w₀.heap.size w₀ w) (hBs : Bs < w.heap.size) (hc : w.cell? ⟨Bs, 0, none⟩ = some sv) :
    Calls Tryz.prog 100 #[.func (.func 102) #[] #[.pointer (some ⟨Bs, 0, none⟩)]] w fun e W' => ∃ v, e = .returned v ∧ W'.ownsRow w.heap.size 47 4 v E.length (E.flatMap encE) ∧ (v = .slice none 0 0 ↔ E = []) ∧ Below w.heap.size w W' := by
  have hA := callsIn_wide.1 (appendSeq_in Fence.wide 3 trivial trivial rfl (Nat.le_refl _) Bs sv E w w₀ hI hb hBs hc)
  go_enter Tryz.func100, Tryz.ntmps100
  go_wp2_with fail
  refine hA.mono ?_
  rintro _ w1 ⟨v, rfl, h1, h2, h3⟩
  have B : Aside (w1.ownsRow w.heap.size 47 4 v E.length (E.flatMap encE) ∧ (v = .slice none 0 0 ↔ E = []) ∧ Below w.heap.size w w1) := ⟨h1, h2, h3⟩
  clear h1 h2 h3 hA
  go_wp2_with fail
  go_ret
  exact ⟨v, rfl, B.out⟩

end Go.Proofs.YthidhdffiebbgaaGreatDoor
