/- page.Bytes.
   A call of a Go function as one step of a region that draws its order, for go_region_law; bits at int.
   wal.build.
   slices.Backward over bytes: its contract; page.low.
   page.low: the number that bytes write. -/
import Derived.Test.YthfidlhefkjpdaaGreatDoorRab
import Derived.Deep.RegionWith
import Derived.Test.YthfidlhefkjpdaaGreatDoorRaa
import Derived.Deep.RegionLaw
import Derived.Laws.CopyOwn
import Derived.RegionTactic
import Derived.Outline
import Derived.Deep.LoopGhost
import Derived.RangeFuncNested
import Derived.RangeFuncBound
import Derived.RangeFuncCalls
import Derived.RangeFuncLeaves
import Derived.Shelf.Abstract
import Derived.Shelf.RegionOpen
import Derived.WalkKit
import Derived.OwnWalkIn
import Derived.TacticsInMore
import Derived.LoopNIn
import Derived.LoopIn
import Derived.RangeFuncBox
import Derived.Test.YthfidlhefkjpdaaGreatDoorProg
namespace Go.Proofs.YthfidlhefkjpdaaGreatDoor
open Go.RowKit

theorem size5 : (Tryz.prog.info? 5).map (·.size) = some 1 := by kernel_rfl

theorem from_at (b k : Nat) (hk : k ≤ 512) (W : World) :
    (Instr.sliceAt 43 (.slice (some ⟨b, 0, none⟩) 512 512) (some (.int .i64 (k : Int))) none none).run Tryz.prog W = .ok (.slice (if 512 = k then some ⟨b, 0, none⟩ else some ⟨b, k, none⟩) (512 - k) (512 - k)) W := by
  have h1 : (0 : Int) ≤ (k : Int) := by omega
  have h2 : (k : Int) ≤ 512 := by omega
  by_cases h : 512 = k
  · subst h
    simp [go_sem, sliced]
  · simp [go_sem, sliced, h, h2, Addr.add_lit]

theorem make512 (W : World) : (Instr.makeSlice 43 (.int .i64 512) (.int .i64 512)).run Tryz.prog W = .ok (.slice (some ⟨W.heap.size, 0, none⟩) 512 512) (W.alloc (.cells (cellsB (zeros 512)) 5)) := by
  obtain ⟨i0, hi0, hz0, hz1, hz2⟩ := info_parts info5
  have := run_make_two (P := Tryz.prog) 43 5 i0 _ Tryz.underlying43 hi0 hz0 hz1 512 512 512 512 rfl rfl (by omega) (by rw [hz2]; omega) (by omega) W
  rw [made_zeros] at this
  exact this

set_option maxRecDepth 100000 in
set_option maxHeartbeats 1000000 in
theorem bytes_any (base g : Nat) (p : Pg) (w : World) (hP : PageAt w base g p) (hw : p.wf) :
    Calls Tryz.prog 27 #[.pointer (some ⟨g, 0, none⟩)] w fun e w' => ∃ g' cap, e = .returned (.slice (some ⟨g', 0, none⟩) 512 cap) ∧ w'.ownsRow w.heap.size 5 1 (.slice (some ⟨g', 0, none⟩) 512 cap) 512 ((bytesP p).map u8) ∧ Below w.heap.size w w' := by
  have hmk := make512
  go_enter Tryz.func27, Tryz.ntmps27
  go_wp2_with fail
  clear hmk
  have Q0 : Aside (∀ w', Below w.heap.size w w' → PageAt w' base g p) := ⟨fun w' hb => hP.below hb⟩
  obtain ⟨A, cap, c3w, hcap, hI⟩ := page_items hP
  have hI := hid hI
  obtain ⟨hb, v, vs, hB, hO, hR⟩ := hP
  have hgl := hB.lt
  have c0 := hB.cell 0
  have c1 := hB.cell 1
  have c2 := hB.cell 2
  simp at c0 c1 c2
  clear hb hB hO hR v vs
  obtain ⟨L, hL⟩ : ∃ L : Nat, p.lsn = (L : Int) := ⟨p.lsn.toNat, by have := hw.lsn0; omega⟩
  have hL1 : L ≤ 9223372036854775807 := by have := hw.lsn1; omega
  have hX1 : p.extra < 4294967296 := hw.extra
  have hk1 := hw.slots
  rw [hL] at c0
  have hL := hid hL
  obtain ⟨X, hX⟩ : ∃ X, p.extra = X := ⟨_, rfl⟩
  rw [hX] at c2 hX1
  have hX := hid hX
  obtain ⟨W0, hW0⟩ : ∃ W0, w.alloc (.cells (cellsB (zeros 512)) 5) = W0 := ⟨_, rfl⟩
  have hb0 : Below w.heap.size w W0 := by rw [← hW0]; exact (Below.refl _ _).alloc (Nat.le_refl _) _
  have hY0 : Byt W0 w.heap.size (zeros 512) := by rw [← hW0]; exact Byt.new w _
  rw [hW0]
  clear hW0
  have c0' := ((bcell hb0).1 g 0 hgl).trans c0
  have R0 : Aside (Below w.heap.size w W0 ∧ Byt W0 w.heap.size (zeros 512)) := ⟨hb0, hY0⟩
  clear hb0 hY0
  have wL : IntKind.u64.wrap (L : Int) = (L : Int) := by simp [IntKind.wrap, IntKind.bits, IntKind.signed]; omega
  have wX : IntKind.u64.wrap (X : Int) = (X : Int) := by simp [IntKind.wrap, IntKind.bits, IntKind.signed]; omega
  go_region_with (
    (go_at_call 71
     (with_reducible refine Calls.mono (setLow_any w.heap.size 4 8 508 L (zeros 512) _ ?_ ?_ ?_ ?_) ?_)
     · exact R0.out.2
     · rw [zeros_length]; omega
     · omega
     · omega
     rintro e W1 ⟨rfl, hY1, hg1⟩
     have R1 : Aside (Below w.heap.size w W1 ∧ Byt W1 w.heap.size (splice (zeros 512) 4 (leN 8 L))) := ⟨R0.out.1.trans ((below_of_only (gr_undrew hg1) (Nat.le_refl _) R0.out.1.size)), hY1⟩
     clear hY1 hg1))
  obtain ⟨B1, hB1⟩ : ∃ B1, splice (zeros 512) 4 (leN 8 L) = B1 := ⟨_, rfl⟩
  have hB1l : B1.length = 512 := by rw [← hB1, splice_length (by rw [leN_length, zeros_length]; omega), zeros_length]
  rw [hB1] at R1
  have hB1 := hid hB1
  have c1' := ((bcell R1.out.1).1 g 1 hgl).trans c1
  obtain ⟨v1, k1⟩ := R1.out.2.some_ (i := 12) (by omega)
  have f1 := R1.out.2.frozen 12
  go_wp2_with fail
  obtain ⟨W2, hW2⟩ : ∃ W2, W1.setCell ⟨w.heap.size, 12, none⟩ (.int .u8 (p.kind.toNat : Int)) = W2 := ⟨_, rfl⟩
  have hb2 : Below w.heap.size w W2 := by rw [← hW2]; exact R1.out.1.setCell (p := ⟨w.heap.size, 12, none⟩) (Nat.le_refl _) _
  have hY2 : Byt W2 w.heap.size (B1.set 12 p.kind) := by rw [← hW2]; exact R1.out.2.set 12 p.kind
  rw [hW2]
  clear hW2
  have c2' := ((bcell hb2).1 g 2 hgl).trans c2
  have R2 : Aside (Below w.heap.size w W2 ∧ Byt W2 w.heap.size (B1.set 12 p.kind)) := ⟨hb2, hY2⟩
  clear hb2 hY2 f1 k1 c1'
  go_region_with (
    (go_at_call 71
     (with_reducible refine Calls.mono (setLow_any w.heap.size 13 4 499 X (B1.set 12 p.kind) _ ?_ ?_ ?_ ?_) ?_)
     · exact R2.out.2
     · rw [List.length_set]; omega
     · omega
     · omega
     rintro e W3 ⟨rfl, hY3, hg3⟩
     have R3 : Aside (Below w.heap.size w W3 ∧ Byt W3 w.heap.size (splice (B1.set 12 p.kind) 13 (leN 4 X))) := ⟨R2.out.1.trans ((below_of_only (gr_undrew hg3) (Nat.le_refl _) R2.out.1.size)), hY3⟩
     clear hY3 hg3))
  obtain ⟨B3, hB3⟩ : ∃ B3, splice (B1.set 12 p.kind) 13 (leN 4 X) = B3 := ⟨_, rfl⟩
  have hB3l : B3.length = 512 := by rw [← hB3, splice_length (by rw [leN_length, List.length_set]; omega), List.length_set, hB1l]
  rw [hB3] at R3
  have hB3 := hid hB3
  have c3' := ((bcell R3.out.1).1 g 3 hgl).trans c3w
  obtain ⟨v3, k3⟩ := R3.out.2.some_ (i := 17) (by omega)
  have f3 := R3.out.2.frozen 17
  go_wp2_with fail
  obtain ⟨W4, hW4⟩ : ∃ W4, W3.setCell ⟨w.heap.size, 17, none⟩ (.int .u8 (p.items.length : Int)) = W4 := ⟨_, rfl⟩
  have hb4 : Below w.heap.size w W4 := by rw [← hW4]; exact R3.out.1.setCell (p := ⟨w.heap.size, 17, none⟩) (Nat.le_refl _) _
  have hY4 : Byt W4 w.heap.size (bufK p 0) := by
    have := R3.out.2.set 17 (UInt8.ofNat p.items.length)
    rw [← ofNat_val (p.items.length : Int) p.items.length (by omega), hW4, ← hB3.out, ← hB1.out, ← hX.out] at this
    rw [← buf_start p, hL.out]
    exact this
  rw [hW4]
  clear hW4 f3 k3 c3' c2' c1 c2 c0 c0' c3w
  obtain ⟨n, hn⟩ : ∃ n, p.items.length = n := ⟨_, rfl⟩
  rw [hn] at hk1 hcap ⊢
  have hn := hid hn
  go_loopg [4, 43] n (fun q e i wr => ∃ k e0 : Nat, k + q = n ∧ i = .int .i64 (k : Nat) ∧ e = .int .i64 (e0 : Nat) ∧ e0 + tot (p.items.take k) = 512 ∧ Byt wr w.heap.size (bufK p k) ∧ Below w.heap.size w wr)
  case atStart => exact ⟨0, 512, by omega, rfl, rfl, by simp [tot], hY4, hb4⟩
  case round =>
    obtain ⟨k, e0, hk, rfl, rfl, he0, hY, hbw⟩ := hrel
    by_cases hlt : k < n
    · obtain ⟨gr, rfl, hgr, hc⟩ := hI.out (by have := hn.out; omega)
      obtain ⟨B, cb, hcell, hle, hRd⟩ := hc k (by have := hn.out; omega)
      have hki : k < p.items.length := by have := hn.out; omega
      have hr := room_take hw (k := k + 1) hki
      have ht := tot_take_succ hki
      have hcell := ((bcell hbw).1 gr k hgr).trans hcell
      have hRd := hRd.below (hbw)
      have hst := buf_step hw hki rfl
      have hbl := bufK_length p k (by omega) (by omega)
      obtain ⟨x, hx⟩ : ∃ x, p.items[k] = x := ⟨_, rfl⟩
      rw [hx] at hcell hRd hst ht hle
      obtain ⟨m, hm⟩ : ∃ m, x.length = m := ⟨_, rfl⟩
      rw [hm] at hcell hRd ht hle
      obtain ⟨E, hE⟩ : ∃ E, 512 - tot (p.items.take (k + 1)) = E := ⟨_, rfl⟩
      rw [hE] at hst
      have hE0 : (e0 : Int) - (m : Int) = (E : Int) := by omega
      have hE1 : 18 + 2 * k + 2 ≤ E := by omega
      have hE2 : E ≤ 512 := by omega
      have hme : m ≤ e0 := by omega
      have hEt : E + tot (p.items.take (k + 1)) = 512 := by omega
      have hEm : E + m ≤ 512 := by omega
      have he2 : e0 ≤ 512 := by omega
      have H : Aside (E + tot (p.items.take (k + 1)) = 512 ∧ x.length = m ∧ Byt wr w.heap.size (bufK p k) ∧ Below w.heap.size w wr ∧ RdB wr B m x ∧ (bufK p k).length = 512 ∧ ((splice (bufK p k) E x).set (18 + 2 * k) (UInt8.ofNat E)).set (18 + 2 * k + 1) (UInt8.ofNat (E / 256)) = bufK p (k + 1) ∧ E + m ≤ 512) := ⟨hEt, hm, hY, hbw, hRd, hbl, hst, hEm⟩
      clear hE he0 hm hx hr hc hst hbl hRd hbw hY hki ht hEt hEm
      obtain ⟨AD, hAD⟩ : ∃ AD, (if 512 = E then some (⟨w.heap.size, 0, none⟩ : Addr) else some ⟨w.heap.size, E, none⟩) = AD := ⟨_, rfl⟩
      have hsl := from_at w.heap.size E hE2
      rw [hAD] at hsl
      have hAD := hid hAD
      have HG : Aside (wr.heap[w.heap.size]? = some (.cells ((bufK p k).map u8).toArray 5 (0, 0))) := ⟨H.out.2.2.1⟩
      go_wp2_with (
                            (with_reducible refine wpList_copy_splice (o := ⟨some 56, _, _, _, _, _⟩) rfl (.tmp 54) (.tmp 55) 43 43 rfl 5 Tryz.underlying43 size5 _ _ _ _ _ _ rfl rfl w.heap.size E ((bufK p k).map u8) 5 HG.out (x.map u8) ?_ ?_ ?_ (u8_one x) w.heap.size w H.out.2.2.2.1 (Nat.le_refl _) ?_)
                            · rw [List.length_map, H.out.2.1]
                              exact (Nat.min_eq_left (by have := H.out.2.2.2.2.2.2.2; omega)).symm
                            · intro h0
                              rw [List.length_map, H.out.2.1] at h0
                              obtain ⟨ad, had, hcs⟩ := H.out.2.2.2.2.1.news h0
                              have hne : ¬ 512 = E := by have := H.out.2.2.2.2.2.2.2; omega
                              refine ⟨?_, ad, had, hcs wr (Below.refl _ _)⟩
                              rw [← hAD.out, if_neg hne]
                            · rw [List.length_map, List.length_map, H.out.2.1, H.out.2.2.2.2.2.1]; omega
                            intro w4 HG4 hB4
                            have hY4 : Byt w4 w.heap.size (splice (bufK p k) E x) := by
                              have := HG4.out
                              rw [splice_map] at this
                              exact this
                            have hs4 : (splice (bufK p k) E x).length = 512 := by rw [splice_length (by rw [H.out.2.1, H.out.2.2.2.2.2.1]; exact H.out.2.2.2.2.2.2.2), H.out.2.2.2.2.2.1]
                            obtain ⟨z1, k1⟩ := hY4.some_ (i := 18 + 2 * k) (by omega)
                            obtain ⟨z2, k2⟩ := hY4.some_ (i := 18 + 2 * k + 1) (by omega)
                            have f1 := hY4.frozen (18 + 2 * k)
                            have f2 := hY4.frozen (18 + 2 * k + 1)
                            have H4 : Aside (Byt w4 w.heap.size (splice (bufK p k) E x) ∧ Below w.heap.size w w4) := ⟨hY4, hB4⟩
                            clear hs4 hY4 HG4 hB4)
      obtain ⟨q1, q2, q3, q4, q5, q6, q7, q8⟩ := H.out
      go_roundg (n - 1 - k)
      case rel =>
        refine ⟨k + 1, E, by omega, by go_num, rfl, q1, ?_, (H4.out.2.setCell (p := ⟨w.heap.size, 18 + 2 * k, none⟩) (Nat.le_refl _) _).setCell (p := ⟨w.heap.size, 18 + 2 * k + 1, none⟩) (Nat.le_refl _) _⟩
        have h1 := (H4.out.1.set (18 + 2 * k) (UInt8.ofNat E)).set (18 + 2 * k + 1) (UInt8.ofNat (E / 256))
        rw [q7, ← ofNat_val ((E : Int) % 256) E (by omega), ← ofNat_val ((E : Int) / 256) (E / 256) (by omega)] at h1
        exact h1
      case measure => omega
    · obtain rfl : k = n := by omega
      have hYn : bufK p k = bufK p p.items.length := by rw [hn.out]
      rw [hYn] at hY
      have hbl := bufK_length p _ (Nat.le_refl _) (room_take hw (Nat.le_refl _))
      have hRd : RdB wr (some ⟨w.heap.size, 4, none⟩) 508 (bodyP p) := by
        have := hY.rd (off := 4) (n := 508) (by omega)
        rw [List.take_of_length_le (by rw [List.length_drop]; omega)] at this
        exact this
      have HE : Aside (Below w.heap.size w wr) := ⟨hbw⟩
      clear hYn hY hbw hbl
      go_wp2_with fail
      refine (seal_any _ 508 508 _ _ hRd (by omega) (by omega)).mono ?_
      rintro e w5 ⟨g5, cap5, rfl, hown5, hb5⟩
      go_wp2
      go_ret
      exact ⟨g5, cap5, rfl, own_mono hown5 HE.out.size, HE.out.trans (hb5.mono HE.out.size)⟩

end Go.Proofs.YthfidlhefkjpdaaGreatDoor

namespace Go.Proofs.YthfidlhefkjpdaaGreatDoor
open Go.RowKit

section
variable {P : Program} {ops : Array Oper} {o : Oper} {a : Act} {w : World} {K : Act → World → Prop} {Q : Exit → Act → World → Prop} {E : Prop}
theorem step_call (f : FuncId) (hgd : o.guard = none) (args : Array Operand) (ts : Array TypeId) (ho : o.op = .call { callee := .value (.func f), args := args, argTypes := ts })
    (eF : ∀ args w, (callFunc f args).run P w = .ok (.enter f args) w) (vs : Array Value) (hvs : args.map a.eval = vs) {R : Ending → World → Prop} (hc : Calls P f vs w R)
    (h : ∀ e w', R e w' → ∃ v, e = .returned v ∧ K (a.put o.dst v) w') : if Region.wanted o (yielded ops a.tmps) = true then Oper.wp P o a w K Q else E := by
  have hw : Region.wanted o (yielded ops a.tmps) = true := by simp [Region.wanted, hgd]
  rw [if_pos hw]
  have e : (execOp a.eval o).run P w = .ok (.enter f vs) w := by
    unfold execOp
    simp only [ho, resolve, Sem.run_bind, hvs]
    have : (Deferred.ofValue (a.eval (Operand.func f)) vs).run P w = .ok { target := .fn (.func f) #[], args := vs } w := by
      simp [Act.eval, Deferred.ofValue]
    rw [this]
    simp [invoke, eF]
  unfold Oper.wp
  rw [e, Oper.upon_enter]
  exact hc.mono fun e w' hr => by
    obtain ⟨v, rfl, hk⟩ := h e w' hr
    exact hk
theorem step_call1 (f : FuncId) (hgd : o.guard = none) (x : Operand) (ts : Array TypeId) (ho : o.op = .call { callee := .value (.func f), args := #[x], argTypes := ts })
    (eF : ∀ args w, (callFunc f args).run P w = .ok (.enter f args) w) (v : Value) (hv : a.eval x = v) {R : Ending → World → Prop} (hc : Calls P f #[v] w R)
    (h : ∀ e w', R e w' → ∃ v, e = .returned v ∧ K (a.put o.dst v) w') : if Region.wanted o (yielded ops a.tmps) = true then Oper.wp P o a w K Q else E :=
  step_call f hgd #[x] ts ho eF #[v] (by simp [hv]) hc h
theorem step_call2 (f : FuncId) (hgd : o.guard = none) (x y : Operand) (ts : Array TypeId) (ho : o.op = .call { callee := .value (.func f), args := #[x, y], argTypes := ts })
    (eF : ∀ args w, (callFunc f args).run P w = .ok (.enter f args) w) (v u : Value) (hv : a.eval x = v) (hu : a.eval y = u) {R : Ending → World → Prop} (hc : Calls P f #[v, u] w R)
    (h : ∀ e w', R e w' → ∃ v, e = .returned v ∧ K (a.put o.dst v) w') : if Region.wanted o (yielded ops a.tmps) = true then Oper.wp P o a w K Q else E :=
  step_call f hgd #[x, y] ts ho eF #[v, u] (by simp [hv, hu]) hc h
theorem setRow_fr (w : World) (g : Nat) (cs : Array Value) : Fr (· = g) w (w.setRow g cs) :=
  ⟨rfl, rfl, rfl, by simp [World.setRow], fun k _ hk => setRow_other w g k cs (fun e => hk (by first | exact e | exact e.symm))⟩

/-- copy into the row of block g, as one step of a region: nothing else is turned. -/
theorem step_copy_fr (hgd : o.guard = none) (d s : Operand) (dT sT : TypeId)
    (ho : o.op = .call { callee := .builtin .copy, args := #[d, s], argTypes := #[dT, sT] }) (elem : TypeId) (hu : P.underlying dT = some (.slice elem)) (hsz : (P.info? elem).map (·.size) = some 1)
    (dp sp : Option Addr) (dLen dCap sLen sCap : Nat) (hd : a.eval d = .slice dp dLen dCap) (hs : a.eval s = .slice sp sLen sCap)
    (g off : Nat) (cur : List Value) (t : TypeId) (hg : w.heap[g]? = some (.cells cur.toArray t (0, 0))) (cs : List Value) (hn : cs.length = Nat.min sLen dLen)
    (hpos : 0 < cs.length → dp = some ⟨g, off, none⟩ ∧ ∃ ad, sp = some ad ∧ ∀ j v, cs[j]? = some v → w.cell? (ad.add j) = some v)
    (hfit : off + cs.length ≤ cur.length) (h1 : ∀ v ∈ cs, v.oneCell' = true)
    (h : ∀ w', RowKit.Hid (w'.heap[g]? = some (.cells (splice cur off cs).toArray t (0, 0))) → Fr (· = g) w w' → K (a.put o.dst (goInt cs.length)) w') :
    if Region.wanted o (yielded ops a.tmps) = true then Oper.wp P o a w K Q else E := by
  have hw : Region.wanted o (yielded ops a.tmps) = true := by simp [Region.wanted, hgd]
  rw [if_pos hw]
  by_cases h0 : cs.length = 0
  · obtain rfl : cs = [] := List.eq_nil_of_length_eq_zero h0
    have hrun := run_copy_none (P := P) w dT sT o.type elem dp sp dLen dCap sLen sCap hu hsz (by simpa using hn.symm)
    unfold Oper.wp
    simp [execOp, ho, resolve, invoke, builtin, hd, hs, hrun, Result.andThen]
    exact h w (show _ = _ by simpa [splice] using hg) (Fr.refl _ _)
  · obtain ⟨rfl, ad, rfl, hsrc⟩ := hpos (by omega)
    have hrun := run_copy_row (P := P) w dT sT o.type elem g off dLen dCap ad sLen sCap cur.toArray t cs hu hsz hg hn hsrc (by simpa using hfit) h1
    unfold Oper.wp
    simp [execOp, ho, resolve, invoke, builtin, hd, hs, hrun, Result.andThen]
    exact h _ (show _ = _ by simpa [splice] using setRow_heap w g _ _ t _ hg) (setRow_fr w g _)
end

theorem ofInt_i64 (a : Nat) (ha : a < 9223372036854775808) : (BitVec.ofInt 64 (a : Int)).toNat = a := by
  rw [BitVec.ofInt_natCast, BitVec.toNat_ofNat]; exact Nat.mod_eq_of_lt (by omega)
theorem i64_or_nat (a b : Nat) (ha : a < 9223372036854775808) (hb : b < 9223372036854775808) : bits .or .i64 (a : Int) (b : Int) = ((a ||| b : Nat) : Int) := by
  have hx : a ||| b < 2 ^ 63 := Nat.or_lt_two_pow (by omega) (by omega)
  show IntKind.i64.wrap ((BitVec.ofInt 64 (a : Int) ||| BitVec.ofInt 64 (b : Int)).toNat : Int) = _
  rw [BitVec.toNat_or, ofInt_i64 a ha, ofInt_i64 b hb, IntKind.wrap_i64]
  omega
theorem two_bytes (a b : Nat) (ha : a < 256) (hb : b < 256) : bits .or .i64 (a : Int) ((b : Int) * 256) = ((a + 256 * b : Nat) : Int) := by
  have := i64_or_nat a (b * 256) (by omega) (by omega)
  rw [Nat.or_comm, nat_join 8 (b * 256) a (by omega) (by omega)] at this
  rw [show ((b : Int) * 256) = ((b * 256 : Nat) : Int) by omega, this]
  congr 1
  omega
end Go.Proofs.YthfidlhefkjpdaaGreatDoor

namespace Go.Proofs.YthfidlhefkjpdaaGreatDoor
open Go.RowKit

def logBody (run : Nat) (used : List UInt8) : List UInt8 := leN 8 run ++ ([UInt8.ofNat used.length, UInt8.ofNat (used.length / 256)] ++ (used ++ zeros (498 - used.length)))
theorem logBody_length (run : Nat) (used : List UInt8) (h : used.length ≤ 498) : (logBody run used).length = 508 := by
  simp [logBody, leN_length, zeros_length]; omega
def sectorL (run : Nat) (used : List UInt8) : List UInt8 := sealB (logBody run used)
theorem sectorL_length (run : Nat) (used : List UInt8) (h : used.length ≤ 498) : (sectorL run used).length = 512 := by
  simp [sectorL, sealB, le4, logBody_length run used h]

theorem make508 (W : World) : (Instr.makeSlice 43 (.int .i64 508) (.int .i64 508)).run Tryz.prog W = .ok (.slice (some ⟨W.heap.size, 0, none⟩) 508 508) (W.alloc (.cells (cellsB (zeros 508)) 5)) := by
  obtain ⟨i0, hi0, hz0, hz1, hz2⟩ := info_parts info5
  have := run_make_two (P := Tryz.prog) 43 5 i0 _ Tryz.underlying43 hi0 hz0 hz1 508 508 508 508 rfl rfl (by omega) (by rw [hz2]; omega) (by omega) W
  rw [made_zeros] at this
  exact this

theorem shift_byte (run k : Nat) : (run : Int) / 2 ^ (8 * k) % 256 = ((run / 256 ^ k % 256 : Nat) : Int) := by
  have e : ((256 : Nat) ^ k) = 2 ^ (8 * k) := (congrArg (· ^ k) (by decide : (256 : Nat) = 2 ^ 8)).trans (Nat.pow_mul 2 8 k).symm
  have e2 : ((2 : Int) ^ (8 * k)) = ((2 ^ (8 * k) : Nat) : Int) := (Int.natCast_pow 2 (8 * k)).symm
  rw [e, e2]
  generalize 2 ^ (8 * k) = q
  rfl
theorem log_body_eq (run : Nat) (used : List UInt8) (h : used.length ≤ 498) :
    splice (((splice (zeros 508) 0 (leN 8 run)).set 8 (UInt8.ofNat used.length)).set 9 (UInt8.ofNat (used.length / 256))) 10 used = logBody run used := by
  obtain ⟨L, hL⟩ : ∃ L, leN 8 run = L := ⟨_, rfl⟩
  have hl : L.length = 8 := by rw [← hL, leN_length]
  obtain ⟨a, ha⟩ : ∃ a, UInt8.ofNat used.length = a := ⟨_, rfl⟩
  obtain ⟨b, hb⟩ : ∃ b, UInt8.ofNat (used.length / 256) = b := ⟨_, rfl⟩
  unfold logBody
  rw [hL, ha, hb]
  have h1 : splice (zeros 508) 0 L = L ++ (0 :: 0 :: zeros 498) := by
    unfold splice
    rw [List.take_zero, List.nil_append, Nat.zero_add, hl]
    rfl
  have h2 : (L ++ (0 :: 0 :: zeros 498)).set 8 a = L ++ (a :: 0 :: zeros 498) := by
    rw [List.set_append_right _ _ (by omega), hl]; rfl
  have h3 : (L ++ (a :: 0 :: zeros 498)).set 9 b = L ++ (a :: b :: zeros 498) := by
    rw [List.set_append_right _ _ (by omega), hl]; rfl
  rw [h1, h2, h3]
  unfold splice
  rw [show L ++ (a :: b :: zeros 498) = (L ++ [a, b]) ++ zeros 498 by simp, List.take_append_of_le_length (by simp [hl]), List.take_of_length_le (by simp [hl]), List.drop_append, List.drop_of_length_le (by simp [hl]),
    show (zeros 498).drop (10 + used.length - (L ++ [a, b]).length) = zeros (498 - used.length) by rw [show 10 + used.length - (L ++ [a, b]).length = used.length by simp [hl]]; exact List.drop_replicate ..]
  simp

set_option maxRecDepth 100000 in
set_option maxHeartbeats 1000000 in
theorem build_any (run : Nat) (A : Option Addr) (n c : Nat) (used : List UInt8) (w : World) (hr : run < 9223372036854775808) (hR : RdB w A n used) (hn : n ≤ 498) :
    Calls Tryz.prog 82 #[.int .i64 (run : Int), .slice A n c] w fun e w' => ∃ g cap, e = .returned (.slice (some ⟨g, 0, none⟩) 512 cap) ∧ w'.ownsRow w.heap.size 5 1 (.slice (some ⟨g, 0, none⟩) 512 cap) 512 ((sectorL run used).map u8) ∧ Below w.heap.size w w' := by
  have hl := hid hR.1
  have HR : Aside (∀ W, Below w.heap.size w W → RdB W A n used) := ⟨fun W hB => hR.below hB⟩
  have hmk := make508
  clear hR
  go_enter Tryz.func82, Tryz.ntmps82
  go_wp2_with fail
  clear hmk
  obtain ⟨W0, hW0⟩ : ∃ W0, w.alloc (.cells (cellsB (zeros 508)) 5) = W0 := ⟨_, rfl⟩
  have hb0 : Below w.heap.size w W0 := by rw [← hW0]; exact (Below.refl _ _).alloc (Nat.le_refl _) _
  have hY0 : Byt W0 w.heap.size (zeros 508) := by rw [← hW0]; exact Byt.new w _
  rw [hW0]
  clear hW0
  go_loopg [8] 8 (fun q i wr => ∃ k : Nat, k + q = 8 ∧ i = .int .i64 (k : Nat) ∧ Hid (Byt wr w.heap.size (splice (zeros 508) 0 (leN k run)) ∧ Below w.heap.size w wr))
  case atStart => exact ⟨0, by omega, rfl, by rw [leN, splice_nil]; exact hY0, hb0⟩
  case round =>
    obtain ⟨k, hk, rfl, hI⟩ := hrel
    by_cases hlt : k < 8
    · have hls : (splice (zeros 508) 0 (leN k run)).length = 508 := by rw [splice_length (by rw [leN_length, zeros_length]; omega), zeros_length]
      obtain ⟨v, hc⟩ := hI.out.1.some_ (i := k) (by omega)
      have hf := hI.out.1.frozen k
      have hls := hid hls
      go_wp2_with fail
      have hI' := hI.out
      go_roundg (7 - k)
      case rel =>
        refine ⟨k + 1, by omega, by go_num, ?_, hI'.2.setCell (p := ⟨w.heap.size, k, none⟩) (Nat.le_refl _) _⟩
        have h1 := hI'.1.set k (UInt8.ofNat (run / 256 ^ k))
        rw [leN]
        have h2 := splice_snoc (bs := zeros 508) (off := 0) (xs := leN k run) (UInt8.ofNat (run / 256 ^ k)) (by rw [leN_length, zeros_length]; omega)
        rw [leN_length, Nat.zero_add] at h2
        rw [← h2, ofNat_val _ (run / 256 ^ k) (shift_byte run k)]
        exact h1
      case measure => omega
    · obtain rfl : k = 8 := by omega
      obtain ⟨B1, hB1⟩ : ∃ B1, splice (zeros 508) 0 (leN 8 run) = B1 := ⟨_, rfl⟩
      have hls : B1.length = 508 := by rw [← hB1, splice_length (by rw [leN_length, zeros_length]; omega), zeros_length]
      rw [hB1] at hI
      have hB1 := hid hB1
      have hI' := hid hI.out
      clear hI
      obtain ⟨v8, k8⟩ := hI'.out.1.some_ (i := 8) (by omega)
      obtain ⟨v9, k9⟩ := hI'.out.1.some_ (i := 9) (by omega)
      have f8 := hI'.out.1.frozen 8
      have f9 := hI'.out.1.frozen 9
      have hls := hid hls
      have hRw := HR.out wr hI'.out.2
      have hul : used.length = n := hRw.1
      obtain ⟨a8, ha8⟩ : ∃ a8, UInt8.ofNat n = a8 := ⟨_, rfl⟩
      obtain ⟨a9, ha9⟩ : ∃ a9, UInt8.ofNat (n / 256) = a9 := ⟨_, rfl⟩
      obtain ⟨W8, hW8⟩ : ∃ W8, (wr.setCell ⟨w.heap.size, 8, none⟩ (.int .u8 ((n : Int) % 256))).setCell ⟨w.heap.size, 9, none⟩ (.int .u8 ((n : Int) / 256)) = W8 := ⟨_, rfl⟩
      have hY8 : Byt W8 w.heap.size ((B1.set 8 a8).set 9 a9) := by
        rw [← hW8, ofNat_val _ n (by omega), ofNat_val ((n : Int) / 256) (n / 256) (by omega), ha8, ha9]
        exact (hI'.out.1.set 8 a8).set 9 a9
      have hb8 : Below w.heap.size w W8 := by
        rw [← hW8]; exact (hI'.out.2.setCell (p := ⟨w.heap.size, 8, none⟩) (Nat.le_refl _) _).setCell (p := ⟨w.heap.size, 9, none⟩) (Nat.le_refl _) _
      have hR8 := HR.out W8 hb8
      have H8 : Aside (Byt W8 w.heap.size ((B1.set 8 a8).set 9 a9) ∧ Below w.heap.size w W8 ∧ RdB W8 A n used ∧ used.length = n ∧ ((B1.set 8 a8).set 9 a9).length = 508) := ⟨hY8, hb8, hR8, hul, by simpa using hls.out⟩
      have HBe : Aside (splice ((B1.set 8 a8).set 9 a9) 10 used = logBody run used) := ⟨by rw [← hB1.out, ← ha8, ← ha9, ← hul]; exact log_body_eq run used (by omega)⟩
      clear hY8 hb8 hR8 hul hRw
      have HG8 : Aside (W8.heap[w.heap.size]? = some (.cells (((B1.set 8 a8).set 9 a9).map u8).toArray 5 (0, 0))) := ⟨H8.out.1⟩
      have ha8 := hid ha8
      have ha9 := hid ha9
      go_wp2_with (
        ((with_reducible refine wpList_copy_splice (o := ⟨some 35, _, _, _, _, _⟩) rfl (.tmp 33) (.tmp 34) 43 43 rfl 5 Tryz.underlying43 size5 _ _ _ _ _ _ rfl rfl w.heap.size 10 (((B1.set 8 a8).set 9 a9).map u8) 5 HG8.out (used.map u8) ?_ ?_ ?_ (u8_one used) w.heap.size w H8.out.2.1 (Nat.le_refl _) ?_)
         · rw [List.length_map, H8.out.2.2.2.1]
           exact (Nat.min_eq_left (by omega)).symm
         · intro h0
           rw [List.length_map, H8.out.2.2.2.1] at h0
           obtain ⟨ad, had, hcs⟩ := H8.out.2.2.1.news h0
           exact ⟨rfl, ad, had, hcs W8 (Below.refl _ _)⟩
         · rw [List.length_map, List.length_map, H8.out.2.2.2.1, H8.out.2.2.2.2]; omega
         intro w4 HG4 hB4
         have hY4 : Byt w4 w.heap.size (logBody run used) := by
           have := HG4.out
           rw [splice_map, HBe.out] at this
           exact this
         have H4 : Aside (Byt w4 w.heap.size (logBody run used) ∧ Below w.heap.size w w4) := ⟨hY4, hB4⟩
         clear hY4 HG4 hB4))
      have hll := logBody_length run used (by rw [H8.out.2.2.2.1]; exact hn)
      have hRl : RdB w4 (some ⟨w.heap.size, 0, none⟩) 508 (logBody run used) := by
        have := H4.out.1.rd0
        rw [hll] at this
        exact this
      refine (seal_any _ 508 508 _ _ hRl (by omega) (by omega)).mono ?_
      rintro e w5 ⟨g5, cap5, rfl, hown5, hb5⟩
      go_wp2
      go_ret
      exact ⟨g5, cap5, rfl, own_mono hown5 H4.out.2.size, H4.out.2.trans (hb5.mono H4.out.2.size)⟩
end Go.Proofs.YthfidlhefkjpdaaGreatDoor

namespace Go.Proofs.YthfidlhefkjpdaaGreatDoor
open Go.RowKit Go.Shelf
attribute [local go_sem] Oper.semAt_some

/-- what Backward has told after k rounds -/
def backU (bs : List UInt8) (k : Nat) : List (Nat × UInt8) := (List.range k).map fun j => (bs.length - 1 - j, bs.getD (bs.length - 1 - j) 0)
theorem backU_succ (bs : List UInt8) (k : Nat) : backU bs (k + 1) = backU bs k ++ [(bs.length - 1 - k, bs.getD (bs.length - 1 - k) 0)] := by simp [backU, List.range_succ]
theorem backU_len (bs : List UInt8) (k : Nat) : (backU bs k).length = k := by simp [backU]
def encB (x : Nat × UInt8) : Array Value := #[.int .i64 (x.1 : Int), .int .u8 (x.2.toNat : Int)]

/-- What a round keeps: the blocks below n₀, and the cell of the captured slice. -/
structure KpB (n₀ Bs : Nat) (W W' : World) : Prop where
  below : Below n₀ W W'
  cell : ∀ u, W.cell? ⟨Bs, 0, none⟩ = some u → W'.cell? ⟨Bs, 0, none⟩ = some u

theorem KpB.trans {n₀ Bs : Nat} {A B C : World} (h : KpB n₀ Bs A B) (k : KpB n₀ Bs B C) : KpB n₀ Bs A C := ⟨h.below.trans k.below, fun u hu => k.cell u (h.cell u hu)⟩
theorem KpB.put {n₀ Bs : Nat} {w : World} (hn : n₀ ≤ w.heap.size) (W : World) (l : Nat) (o o' : Obj) (hl : w.heap.size ≤ l) (h : W.heap[l]? = some o) (hc : o.isCells = false) (hw : o.isWalk = false) : KpB n₀ Bs W (W.putObj l o') :=
  ⟨belowK_b hn W l o o' hl h hc hw, fun u hu => cell_kept hu (grownBy_putObj' _ l o') (fun r e => by cases e; exact ⟨_, h, hc⟩)⟩

set_option maxRecDepth 100000 in
set_option maxHeartbeats 2000000 in
theorem backB1_in (F : Fence) (n : Nat) (h7 : F.fn 142) (hro : F.round = none) (hn : 1 ≤ n) (l Bs n₀ cap : Nat) (A : Option Addr) (bs : List UInt8) (hreach : bs.length ≤ 140737488351232) (J Jx : List (Nat × UInt8) → World → Prop)
    (hY : ∀ pre x W, J pre W → pre.length < bs.length → YieldAt F (n - 1) Tryz.prog l (encB x) W fun e W' =>
      (e = .returned (.bool true) ∧ J (pre ++ [x]) W' ∧ KpB n₀ Bs W W') ∨ (e = .returned (.bool false) ∧ Jx (pre ++ [x]) W'))
    (W : World) (hBs : W.cell? ⟨Bs, 0, none⟩ = some (.slice A bs.length cap))
    (hcs : 0 < bs.length → ∃ b o, A = some ⟨b, o, none⟩ ∧ b < n₀ ∧ ∀ i (h : i < bs.length), W.cell? ⟨b, o + i, none⟩ = some (.int .u8 (bs[i].toNat : Int))) (h0 : J [] W) :
    CallsIn F n Tryz.prog 142 #[.func (.yield l) #[] #[], .pointer (some ⟨Bs, 0, none⟩)] W fun e W' => (∃ v, e = .returned v) ∧
      ((∃ ys, ys = backU bs bs.length ∧ J ys W') ∨ (∃ pre, (∃ k, k ≤ bs.length ∧ pre = backU bs k) ∧ Jx pre W')) := by
  have C := hid hcs
  have CB := hid hBs
  clear hcs
  refine callsIn_of_wp Tryz.func142 rfl h7 ?_ hro
  simp only [Tryz.ntmps142, List.size_toArray, List.length_cons, List.length_nil, Nat.reduceAdd, Nat.reduceSub, Array.replicate_succ, Array.replicate_zero, List.push_toArray, List.append_toArray, List.nil_append, List.cons_append]
  gi_wp2
  gi_loopw [3] (fun i wr => ∃ k : Nat, k ≤ bs.length ∧ i = .int .i64 ((bs.length : Int) - 1 - k) ∧ J (backU bs k) wr ∧ KpB n₀ Bs W wr)
    (fun i _ => (intOf i + 1).toNat)
  case atStart => exact ⟨0, Nat.zero_le _, by go_num, h0, Below.refl _ _, fun _ h => h⟩
  case round =>
    obtain ⟨k, hk, rfl, hJs, hnx⟩ := hrel
    by_cases hlt : k < bs.length
    · obtain ⟨b, off, rfl, hb, hc⟩ := C.out (by omega)
      obtain ⟨m, hm⟩ : ∃ m : Nat, (m : Int) = (bs.length : Int) - 1 - k := ⟨bs.length - 1 - k, by omega⟩
      have hmb : m < bs.length := by omega
      have hme : m = bs.length - 1 - k := by omega
      have g0 := (hnx.below.cell (p := ⟨b, off + m, none⟩) hb).trans (hc m hmb)
      have gB := hnx.cell _ CB.out
      obtain ⟨fn, tmps, assign, body, hy, hR⟩ := hY _ (m, bs[m]) _ hJs (by rw [backU_len]; omega)
      have hsnoc : backU bs (k + 1) = backU bs k ++ [(m, bs[m])] := by rw [backU_succ, ← hme]; simp [List.getD_eq_getElem?_getD, List.getElem?_eq_getElem hmb]
      have B : Aside (backU bs (k + 1) = backU bs k ++ [(m, bs[m])] ∧ KpB n₀ Bs W wr) := ⟨hsnoc, hnx⟩
      have hm0 : (0 : Int) ≤ m := by omega
      unfold encB at hy
      dsimp only at hy
      rw [← hm]
      have hM := hid hm
      clear hsnoc hJs hnx hc hm hme hBs
      gi_wp2
      refine hR.mono ?_
      rintro _ W3 (⟨rfl, hJ3, hk3⟩ | ⟨rfl, hJx3⟩)
      · gi_wp2
        go_roundw
        case rel => exact ⟨k + 1, by omega, by have := hM.out; go_num, by rw [B.out.1]; exact hJ3, B.out.2.trans hk3⟩
        case measure => simp [intOf]
      · gi_wp2
        refine bodyPost_ret (results_none rfl _ _ _) rfl ?_
        exact ⟨⟨_, rfl⟩, .inr ⟨_, ⟨k + 1, by omega, B.out.1.symm⟩, hJx3⟩⟩
    · obtain rfl : k = bs.length := by omega
      gi_wp2
      go_end0
      exact ⟨⟨_, rfl⟩, .inl ⟨_, rfl, hJs⟩⟩

theorem backB_in (F : Fence) (n : Nat) (h5 : F.fn 111) (hro : F.round = none) (A : Option Addr) (len cap : Nat) (w : World) :
    CallsIn F n Tryz.prog 111 #[.slice A len cap] w fun e w' => e = .returned (.func (.func 142) #[] #[.pointer (some ⟨w.heap.size, 0, none⟩)]) ∧ w' = w.alloc (.cells #[.slice A len cap] 43) := by
  have hmf : ∀ (fn : Fn) (first cap : Array Value) (w : World), (Instr.makeFunc fn first cap).run Tryz.prog w = .ok (.func fn first cap) w := fun _ _ _ _ => rfl
  refine callsIn_of_wp Tryz.func111 rfl h5 ?_ hro
  simp only [Tryz.ntmps111, List.size_toArray, List.length_cons, List.length_nil, Nat.reduceAdd, Nat.reduceSub, Array.replicate_succ, Array.replicate_zero, List.push_toArray, List.append_toArray, List.nil_append, List.cons_append]
  gi_wp2
  go_ret
  exact ⟨rfl, rfl⟩

/-- The contract of the iterator: w₀ the world in which the bytes are read, w the one in which the loop begins. -/
theorem backB_stops (F : Fence) (n : Nat) (h7 : F.fn 142) (hro : F.round = none) (hn : 1 ≤ n) (Bs n₀ nb cap : Nat) (A : Option Addr) (bs : List UInt8) (w : World) (hBs : Bs < w.heap.size)
    (hc : w.cell? ⟨Bs, 0, none⟩ = some (.slice A nb cap)) (w₀ : World) (hI : RdB w₀ A nb bs) (hw₀ : w₀.heap.size ≤ n₀) (hb : Below w₀.heap.size w₀ w) (hr : nb ≤ 140737488351232) :
    SeqStopsK F n Tryz.prog 142 #[.pointer (some ⟨Bs, 0, none⟩)] encB (KpB n₀ Bs) (fun ys => ys = backU bs bs.length) (fun pre => ∃ k, k ≤ bs.length ∧ pre = backU bs k) bs.length w := fun l J Jx W hW hJ _ hY h0 => by
  have hc' := (hW.cell (p := ⟨Bs, 0, none⟩) hBs).trans hc
  obtain ⟨hl, hcs⟩ := hI
  subst hl
  refine (backB1_in F n h7 hro hn l Bs n₀ cap A bs hr J Jx hY W hc' (fun h0 => ?_) h0).mono ?_
  · obtain ⟨b, off, e, hb1, hcc⟩ := hcs h0
    refine ⟨b, off, e, by omega, fun j hj => ?_⟩
    exact ((hW.cell (p := ⟨b, off + j, none⟩) (by show b < _; have := hb.size; omega)).trans (hb.cell (p := ⟨b, off + j, none⟩) hb1)).trans (hcc j hj)
  · rintro e W' h
    exact h

theorem boxed_own (B : Nat) (t : TypeId) {β : Type} (f : β → Value) : Own (fun (s : β) W => Boxed W B t (f s)) := fun s X Y row hs hg hrow =>
  hs.kept hg (fun e' => by obtain ⟨o, ho, hc⟩ := hrow B e'.symm; rw [show X.heap[B]? = _ from hs] at ho; cases ho; cases hc)

/-! ### low -/
def lowF : List (Nat × UInt8) → Nat
  | [] => 0
  | x :: r => x.2.toNat * 256 ^ r.length + lowF r
def lowN : List UInt8 → Nat
  | [] => 0
  | c :: r => c.toNat + 256 * lowN r
theorem lowN_lt : ∀ bs : List UInt8, lowN bs < 256 ^ bs.length
  | [] => by simp [lowN]
  | c :: r => by
    have := lowN_lt r
    have hc := c.toNat_lt
    simp only [lowN, List.length_cons, Nat.pow_succ]
    omega
/-- the number that the last k bytes write -/
def lowK (bs : List UInt8) (k : Nat) : Nat := lowN (bs.drop (bs.length - k))
theorem lowK_zero (bs : List UInt8) : lowK bs 0 = 0 := by simp [lowK, lowN]
theorem lowK_all (bs : List UInt8) : lowK bs bs.length = lowN bs := by simp [lowK]
theorem lowK_succ (bs : List UInt8) (k : Nat) (h : k < bs.length) : lowK bs (k + 1) = lowK bs k * 256 + (bs.getD (bs.length - 1 - k) 0).toNat := by
  have hlt : bs.length - 1 - k < bs.length := by omega
  have e : bs.drop (bs.length - (k + 1)) = bs[bs.length - 1 - k] :: bs.drop (bs.length - k) := by
    rw [show bs.length - (k + 1) = bs.length - 1 - k by omega, List.drop_eq_getElem_cons hlt, show bs.length - 1 - k + 1 = bs.length - k by omega]
  unfold lowK
  rw [e, lowN]
  simp [List.getD_eq_getElem?_getD, List.getElem?_eq_getElem hlt]
  omega
theorem lowK_lt (bs : List UInt8) (k : Nat) (h : k ≤ bs.length) : lowK bs k < 256 ^ k := by
  have := lowN_lt (bs.drop (bs.length - k))
  rw [List.length_drop, show bs.length - (bs.length - k) = k by omega] at this
  exact this
end Go.Proofs.YthfidlhefkjpdaaGreatDoor

namespace Go.Proofs.YthfidlhefkjpdaaGreatDoor
open Go.RowKit Go.Shelf
attribute [local go_sem] Oper.semAt_some

def stepL (u : Nat) (x : Nat × UInt8) : Nat := (u * 256 % 18446744073709551616) ||| x.2.toNat
theorem stepL_bits (u : Nat) (x : Nat × UInt8) : bits .or .u64 (IntKind.u64.wrap ((u : Int) * 256)) (x.2.toNat : Int) = (stepL u x : Int) := by
  have hx := x.2.toNat_lt
  have e : IntKind.u64.wrap ((u : Int) * 256) = ((u * 256 % 18446744073709551616 : Nat) : Int) := by
    simp [IntKind.wrap, IntKind.bits, IntKind.signed]
  rw [e, u64_or_nat _ _ (by omega) (by omega)]
  rfl
def lowP (pre : List (Nat × UInt8)) : Nat := pre.foldl stepL 0
theorem lowP_snoc (pre : List (Nat × UInt8)) (x : Nat × UInt8) : lowP (pre ++ [x]) = stepL (lowP pre) x := by simp [lowP, List.foldl_append]
theorem stepL_lt (u : Nat) (x : Nat × UInt8) : stepL u x < 18446744073709551616 := by
  unfold stepL
  have hc := x.2.toNat_lt
  exact Nat.or_lt_two_pow (n := 64) (by omega) (by omega)
theorem lowP_lt (pre : List (Nat × UInt8)) : lowP pre < 18446744073709551616 := by
  rcases List.eq_nil_or_concat pre with rfl | ⟨p, x, rfl⟩
  · simp [lowP]
  · rw [List.concat_eq_append, lowP_snoc]; exact stepL_lt _ _
theorem lowP_back (bs : List UInt8) (hb : bs.length ≤ 8) : ∀ k, k ≤ bs.length → lowP (backU bs k) = lowK bs k
  | 0, _ => by rw [lowK_zero]; rfl
  | k + 1, h => by
    have ih := lowP_back bs hb k (by omega)
    have hlt := lowK_lt bs k (by omega)
    have h7 : 256 ^ k ≤ 256 ^ 7 := Nat.pow_le_pow_right (by omega) (by omega)
    rw [backU_succ, lowP_snoc, ih, lowK_succ bs k (by omega), stepL]
    have hc := (bs.getD (bs.length - 1 - k) 0).toNat_lt
    simp only
    have e7 : 256 ^ 7 = 72057594037927936 := by decide
    rw [Nat.mod_eq_of_lt (by omega)]
    exact nat_join 8 _ _ (by omega) (by omega)

theorem lowP_all (bs : List UInt8) (hb : bs.length ≤ 8) : lowP (backU bs bs.length) = lowN bs := by rw [lowP_back bs hb _ (Nat.le_refl _), lowK_all]

set_option maxRecDepth 100000 in
set_option maxHeartbeats 1000000 in
theorem low_in (F : Fence) (n : Nat) (h3 : F.fn 76) (h5 : F.fn 111) (h6 : F.fn 142) (hro : F.round = none) (hn : 3 ≤ n) (A : Option Addr) (nb cap : Nat) (bs : List UInt8) (w : World) (hR : RdB w A nb bs) (hb8 : bs.length ≤ 8) :
    CallsIn F n Tryz.prog 76 #[.slice A nb cap] w fun e W' => e = .returned (.int .u64 (lowN bs : Int)) ∧ Below w.heap.size w W' := by
  have h1 : 1 ≤ n := by omega
  have hnb : nb ≤ 8 := by rw [← hR.1]; exact hb8
  refine callsIn_of_wp_marks Tryz.func76 rfl h3 ?_ hro
  simp only [Tryz.ntmps76, List.size_toArray, List.length_cons, List.length_nil, Nat.reduceAdd, Nat.reduceSub, Array.replicate_succ, Array.replicate_zero, List.push_toArray, List.append_toArray, List.nil_append, List.cons_append]
  gi_wp2_with (gi_at_call 111; refine (backB_in F (n - 1) h5 hro _ _ _ _).mono ?_; rintro e w' ⟨rfl, rfl⟩)
  have hs := Boxed.new w 136 (.int .u64 0)
  have hb := Boxed.new (w.alloc (.cells #[.int .u64 0] 136)) 43 (.slice A nb cap)
  rw [World.size_alloc] at hb
  have hB0 : Below w.heap.size w ((w.alloc (.cells #[.int .u64 0] 136)).alloc (.cells #[.slice A nb cap] 43)) := ((Below.refl _ w).alloc (Nat.le_refl _) _).alloc (by simp) _
  refine wpIn_rangeFunc_ownF hro h1 (gf := 142) (lb := #[.pointer (some ⟨w.heap.size + 1, 0, none⟩)]) rfl h6 (enters_of Tryz.func142 (by kernel_rfl) rfl)
    (backB_stops F (n - 1) h6 hro (by omega) (w.heap.size + 1) w.heap.size nb cap A bs _ (by simp) hb.cell w hR (Nat.le_refl _) hB0 (by omega)) KpB.trans (KpB.put (by simp; omega)) (Below.refl _ _) (fun _ => rfl)
    (fun pre W => Boxed W w.heap.size 136 (.int .u64 (lowP pre : Int)) ∧ Below w.heap.size w W)
    (fun _ _ _ => False)
    (OwnFrom.and (Own.from (boxed_own _ _ _) _) (ownFrom_below (Nat.le_refl _) (by simp; omega)))
    (fun _ _ _ _ _ hs _ _ => hs)
    ⟨hs.alloc _, hB0⟩
    (fun x => { tmps := #[.slice A nb cap, undef, .int .u64 0, .pointer (some ⟨w.heap.size, 0, none⟩), undef, .int .u8 (x.2.toNat : Int), .slice A nb cap, .func (.func 142) #[] #[.pointer (some ⟨w.heap.size + 1, 0, none⟩)], .int .i64 (x.1 : Int), .int .u8 (x.2.toNat : Int), undef, undef, undef, undef, undef, undef], defers := [] }) ?assign ?body ?done ?stop
  case assign =>
    intro l x W K hK
    unfold encB
    gi_wp2
    exact hK
  case body =>
    rintro l pre x W ⟨hc, hB⟩ _
    have c1 := hc.cell
    have c2 := hc.frozen
    have hp := lowP_lt pre
    have hx := x.2.toNat_lt
    have hor := hid (stepL_bits (lowP pre) x)
    gi_wp2
    rw [hor.out, ← lowP_snoc]
    exact ⟨KeepsOthers.setCell _ _ _, ⟨(Below.refl w.heap.size W).setCell (p := ⟨w.heap.size, 0, none⟩) (Nat.le_refl _) _, fun u hu => (World.cell?_setCell_other _ _ _ _ (fun h => by have := congrArg Addr.block h; simp at this)).trans hu⟩, hc.set _, hB.setCell (p := ⟨w.heap.size, 0, none⟩) (Nat.le_refl _) _⟩
  case done =>
    rintro D ys W hD rfl ⟨hc, hB⟩ hK
    have c1 := hc.cell
    gi_wp2
    refine ⟨by simp, .inl ⟨_, _, rfl, run_takeDeferred hK, ?_⟩⟩
    exact ⟨_, results_tmp rfl _ _ _, by rw [lowP_all bs hb8]; rfl, hB.trans (belowK_b (w := w) (Nat.le_refl _) W D _ _ (by simp at hD; omega) hK rfl rfl)⟩
  case stop =>
    rintro D c pre W _ _ h _
    exact h.elim

theorem low_any (A : Option Addr) (nb cap : Nat) (bs : List UInt8) (w : World) (hR : RdB w A nb bs) (hb8 : bs.length ≤ 8) :
    Calls Tryz.prog 76 #[.slice A nb cap] w fun e W' => e = .returned (.int .u64 (lowN bs : Int)) ∧ Below w.heap.size w W' :=
  callsIn_wide.1 (low_in Fence.wide 3 trivial trivial trivial rfl (Nat.le_refl _) A nb cap bs w hR hb8)

end Go.Proofs.YthfidlhefkjpdaaGreatDoor
