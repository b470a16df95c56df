/- disk.Sync where nothing is planned.
   disk.Sync where nothing is planned.
   The frame of a disk; what every disk's law keeps.
   what a built log sector says; wal.outside; wal.Format.
   append of bytes, nil or not, onto bytes of one's own. -/
import Derived.Test.YthfidlhefkjpdaaGreatDoorSak
import Derived.Test.YthfidlhefkjpdaaGreatDoorSaj
import Derived.Test.YthfidlhefkjpdaaGreatDoorSaa
import Derived.Test.YthfidlhefkjpdaaGreatDoorSab
import Derived.Deep.RegionLaw
import Derived.RegionTactic
namespace Go.Proofs.YthfidlhefkjpdaaGreatDoor
open Go.RowKit Go.Maps

theorem lawInt : Keyed Tryz.prog 3 := int_keyed Tryz.underlying3

theorem mid_wf {D : Dk} (hw : D.wf) {left : Int → Bool} {sec : List (List UInt8)} (h : Mid D left sec) : ({ D with sec := sec } : Dk).wf := by
  refine ⟨by rw [show ({ D with sec := sec } : Dk).sec.length = D.sec.length from h.len]; exact hw.n, ?_, hw.plen, ?_, hw.s0, hw.s1⟩
  · intro x hx
    obtain ⟨i, hi, rfl⟩ := List.mem_iff_getElem.1 hx
    have hi' : i < D.sec.length := by rw [← h.len]; exact hi
    have := h.at_ i hi'
    simp only [List.getD_eq_getElem?_getD, List.getElem?_eq_getElem hi, Option.getD_some] at this
    rw [this]
    split
    · simp only [List.getElem?_eq_getElem hi', Option.getD_some]
      exact hw.len _ (List.getElem_mem hi')
    · exact D.has_len hw hi'
  · intro k hk
    have := hw.pin k hk
    show 0 ≤ k ∧ k < (sec.length : Int)
    rw [h.len]
    exact this

theorem mid_step {D : Dk} {left left' : Int → Bool} {sec : List (List UInt8)} {x : Nat} (h : Mid D left sec) (hx : x < D.sec.length) (hl : ∀ j : Int, left' j = (left j && !decide (j = (x : Int)))) : Mid D left' (sec.set x (D.has x)) := by
  refine ⟨by rw [List.length_set, h.len], fun i hi => ?_⟩
  rw [hl]
  by_cases e : i = x
  · subst e
    simp [List.getD_eq_getElem?_getD, List.getElem?_set, h.len, hi]
  · have : ¬ ((i : Int) = (x : Int)) := by omega
    simp only [this, decide_false, Bool.not_false, Bool.and_true]
    rw [← h.at_ i hi]
    simp [List.getD_eq_getElem?_getD, List.getElem?_set, Ne.symm e]

set_option maxRecDepth 100000 in
set_option maxHeartbeats 4000000 in
theorem sdo_any (gd gs gm bx : Nat) (D : Dk) (w : World) (hD : DiskAt w gd gs gm D) (hw : D.wf) (hx : Boxed w bx 24 (.pointer (some ⟨gd, 0, none⟩))) :
    Calls Tryz.prog 96 #[.pointer (some ⟨bx, 0, none⟩)] w fun e w' => e = .returned (.tuple #[]) ∧
      w'.heap[gs]? = some (.cells (cellsB (flat ((List.range D.sec.length).map D.has))) 113 (0, 0)) ∧ MapAt Tryz.prog 3 w' gm 0 (fun _ => none) ∧ Fr (fun b => b = gs ∨ b = gm) w w' := by
  obtain ⟨pv, m, hB, hS, hM, hms, hP⟩ := hD
  obtain ⟨DD, hown, hat, hhas⟩ := hM
  have hM : MapAt Tryz.prog 3 w gm m (encP D.pend) := ⟨DD, hown, hat, hhas⟩
  have hgd := hB.lt
  have hgs := (Array.getElem?_eq_some_iff.1 hS).1
  have hgm := hM.lt
  have lx := hx.lt
  have k0 := hx.cell
  have k1 := hB.cell 1
  simp only [List.getElem?_toArray, List.getElem?_cons_succ, List.getElem?_cons_zero] at k1
  have HH : Aside (Blk w gd 111 #[.slice (some ⟨gs, 0, none⟩) D.sec.length D.sec.length, .map (some gm), pv, .int .i64 D.steps, .bool D.off] ∧ w.heap[gs]? = some (.cells (cellsB (flat D.sec)) 113 (0, 0)) ∧ MapAt Tryz.prog 3 w gm m (encP D.pend) ∧ (m : Int) ≤ D.steps ∧ w.ownsRow 0 76 2 pv D.plan.length (D.plan.flatMap encF) ∧ D.wf ∧ Boxed w bx 24 (.pointer (some ⟨gd, 0, none⟩))) := ⟨hB, hS, hM, hms, hP, hw, hx⟩
  have N1 : Aside (gm ≠ gs ∧ gm ≠ gd ∧ gm ≠ bx ∧ gd ≠ gs ∧ bx ≠ gs ∧ (∀ b, pv.ownBlock = some b → b ≠ gs ∧ b ≠ gm)) := by
    have hmapne : ∀ b t, Ty w b t → gm ≠ b := by
      rintro b t ⟨cs, fr, h⟩ rfl
      obtain ⟨_, ⟨es, c', h1, _⟩, _⟩ := hM
      rw [h] at h1; cases h1
    refine ⟨hmapne gs _ ⟨_, _, hS⟩, hmapne gd _ hB.ty, hmapne bx _ ⟨_, _, hx⟩, fun e => ?_, fun e => ?_, fun b hb => ⟨fun e => ?_, fun e => ?_⟩⟩
    · subst e; exact hB.ty.ne ⟨_, _, hS⟩ (by decide)
    · subst e; exact Ty.ne (w := w) (g := bx) (t := 24) ⟨_, _, hx⟩ ⟨_, _, hS⟩ (by decide)
    · subst e; exact (own_ty hP hb).ne ⟨_, _, hS⟩ (by decide)
    · exact hmapne b _ (own_ty hP hb) e.symm
  have HAT : Aside ((∀ k z, DD.atKey (.int .i64 k) z = match encP D.pend k with | some v => .held v | none => z) ∧ (∀ k, Maps.has DD (.int .i64 k) = (encP D.pend k).isSome)) := ⟨hat, hhas⟩
  have HO := hid hown
  clear hB hS hM hms hP hx hat hhas hown hw
  go_enter Tryz.func96, Tryz.ntmps96
  go_wp2_with (at_range
               refine wpList_range_own _ rfl _ 109 rfl 3 113 lawInt Tryz.underlying109 _ gm m _ rfl HO.out ?_
               intro w0 hrg0 hg0 hs0)
  go_frame
  have hF0 : Fr (fun b => b = gs) w w0 := ⟨hg0.os, hg0.tape, hg0.output, hg0.size, fun b hb _ => hg0.block b hb (by simp)⟩
  go_loopw [1] (fun _ wr => ∃ (left : Lit → Bool) (cnt : Nat) (sec : List (List UInt8)), wr.ranges Tryz.prog 3 heldV gm w.heap.size m DD left cnt ∧ Fr (fun b => b = gs) w wr ∧
      wr.heap[gs]? = some (.cells (cellsB (flat sec)) 113 (0, 0)) ∧ Hid (Mid D (fun j => left (.int .i64 j)) sec))
    (fun _ wr => wr.rangeLeft gm w.heap.size)
  case atStart =>
    refine ⟨_, _, D.sec, hrg0, hF0, (hg0.block gs hgs (by simp)).trans HH.out.2.1, ⟨rfl, fun i hi => ?_⟩⟩
    simp only [HAT.out.2]
    split
    · rfl
    · rename_i h
      simp only [encP, Option.isSome_map, Bool.not_eq_true, Option.isSome_eq_false_iff, Option.isNone_iff_eq_none] at h
      simp [Dk.has, h]
  case round =>
    obtain ⟨left, cnt, sec, hrg, hF, hS, hMid⟩ := hrel
    have j0 := (World.cell?_of_block (w := w) (a := ⟨bx, 0, none⟩) (hF.block bx lx N1.out.2.2.2.2.1)).trans k0
    have j1 := (World.cell?_of_block (w := w) (a := ⟨gd, 1, none⟩) (hF.block gd hgd N1.out.2.2.2.1)).trans k1
    go_wp2_with (at_next
                 refine wpList_next_ranges (α := Value) (β := Value) _ rfl _ rfl 3 lawInt heldV id id (fun key kl _ => ⟨key, rfl⟩) (fun v y _ => ⟨v, rfl⟩) gm w.heap.size m _ _ _ rfl hrg ?_ ?_)
    · intro _ hl0
      have hMw : MapAt Tryz.prog 3 wr gm m (encP D.pend) := ⟨DD, hrg.owns, HAT.out.1, HAT.out.2⟩
      have E : Aside (Mid D (fun _ => false) sec ∧ wr.heap[gs]? = some (.cells (cellsB (flat sec)) 113 (0, 0)) ∧ Fr (fun b => b = gs) w wr) := ⟨by
        have h := hMid.out
        rw [show (fun j : Int => left (.int .i64 j)) = (fun _ => false) from funext fun j => hl0 _] at h
        exact h, hS, hF⟩
      have HMw := hid hMw
      clear hMw hMid hS hF hrg hl0 hg0 hrg0
      go_wp2_with (refine wpList_clear (by rfl) (.tmp 17) 109 113 (by rfl) Tryz.underlying109 (by rfl) HMw.out ?_
                   intro w2 hM2 hg2 hs2
                   have C2 : Aside (MapAt Tryz.prog 3 w2 gm 0 (fun _ => none) ∧ wr.grownBy w2 (some gm)) := ⟨hM2, hg2⟩
                   clear hM2 hg2 hs2)
      go_end0
      refine ⟨rfl, ?_, C2.out.1, (E.out.2.2.mono (fun b _ h => .inl h)).trans (Fr.of_only C2.out.2) (fun b _ h => .inr h)⟩
      have hgl : gs < wr.heap.size := (Array.getElem?_eq_some_iff.1 E.out.2.1).1
      rw [← E.out.1.all]
      exact (C2.out.2.block gs hgl (fun e => N1.out.1 (by injection e with e; exact e.symm))).trans E.out.2.1
    · intro x c kl y y2 w1 cnt1 hkey hlk hR hat hrg1 hlt hg1 hs1 hen
      obtain ⟨xi, hxe, rfl, hwx⟩ := Maps.keyOf_int_inv Tryz.underlying3 hkey
      subst hxe
      have hy1 : ∀ zd, DD.atKey (.int .i64 xi) zd = .held c := by
        intro zd
        rw [hat]
        simp only [heldV, Option.some.injEq] at hR
        injection hR with e1 e2
        exact e1.symm
      have hpx := held_there HAT.out.1 hy1
      have hpi : (D.pend xi).isSome = true := by
        simp only [encP, Option.map_eq_some_iff] at hpx
        obtain ⟨bs, h, _⟩ := hpx
        rw [h]; rfl
      have hb := HH.out.2.2.2.2.2.1.pin xi hpi
      obtain ⟨i, rfl⟩ : ∃ i : Nat, xi = (i : Int) := ⟨xi.toNat, by omega⟩
      have hi : i < D.sec.length := by omega
      have hrw : w.heap.size < wr.heap.size := by
        obtain ⟨_, _, _, _, _, _, _, _, _, h5, _⟩ := hrg
        exact (Array.getElem?_eq_some_iff.1 h5).1
      have hF1 : Fr (fun b => b = gs) w w1 := hF.trans (Fr.of_only hg1) (fun b hb e => by have e' : b = w.heap.size := e; omega)
      have hS1 : w1.heap[gs]? = some (.cells (cellsB (flat sec)) 113 (0, 0)) := (hg1.block gs (Array.getElem?_eq_some_iff.1 hS).1 (fun e => by injection e with e; omega)).trans hS
      have hD1 : DiskAt w1 gd gs gm { D with sec := sec } := by
        refine ⟨pv, m, ?_, hS1, ⟨DD, hrg1.owns, HAT.out.1, HAT.out.2⟩, HH.out.2.2.2.1, own_fr HH.out.2.2.2.2.1 hF1 (fun b hb => (N1.out.2.2.2.2.2 b hb).1)⟩
        have := HH.out.1.fr hF1 N1.out.2.2.2.1
        rw [show ({ D with sec := sec } : Dk).sec.length = D.sec.length from hMid.out.len]
        exact this
      have hwf1 := mid_wf HH.out.2.2.2.2.2.1 hMid.out
      have hhas : ({ D with sec := sec } : Dk).has i = D.has i := by
        cases hp : D.pend i with
        | none => rw [hp] at hpi; cases hpi
        | some bs => simp [Dk.has, hp]
      have hset := settle_any gd gs gm { D with sec := sec } i w1 hD1 hwf1 (by show i < sec.length; rw [hMid.out.len]; exact hi)
      rw [hhas] at hset
      have j0' := (World.cell?_of_block (w := w) (a := ⟨bx, 0, none⟩) (hF1.block bx lx N1.out.2.2.2.2.1)).trans k0
      have E : Aside (Mid D (fun j => left (.int .i64 j)) sec ∧ Fr (fun b => b = gs) w w1 ∧ w1.ranges Tryz.prog 3 heldV gm w.heap.size m DD (fun z => left z && !z.sameKey (.int .i64 (i : Int))) cnt1 ∧ wr.ranges Tryz.prog 3 heldV gm w.heap.size m DD left cnt ∧ cnt1 < cnt ∧ w.heap.size < w1.heap.size) := ⟨hMid.out, hF1, hrg1, hrg, hlt, by omega⟩
      have HS : Aside (Calls Tryz.prog 73 #[.pointer (some ⟨gd, 0, none⟩), .int .i64 (i : Int)] w1 fun e w' => e = .returned (.tuple #[]) ∧ w'.heap[gs]? = some (.cells (cellsB (flat (sec.set i (D.has i)))) 113 (0, 0)) ∧ Fr (· = gs) w1 w') := ⟨hset⟩
      clear hset hhas hwf1 hD1 hS1 hF1 hpx hy1 hat hkey hR hpi hb hwx hMid hS hF hrg hrg1 hlt hg1 hs1 hlk j0 j1 hg0 hrg0
      go_wp2_with fail
      refine HS.out.mono ?_
      rintro e w2 ⟨rfl, hS2, hF2⟩
      have E2 : Aside (w2.heap[gs]? = some (.cells (cellsB (flat (sec.set i (D.has i)))) 113 (0, 0)) ∧ Fr (· = gs) w1 w2) := ⟨hS2, hF2⟩
      clear hS2 hF2
      go_wp2_with fail
      obtain ⟨e1, e2, e3, e4, e5, e6⟩ := E.out
      have hrg2 := ranges_fr e3 (E2.out.2.block gm (by omega) N1.out.1) (E2.out.2.block w.heap.size e6 (by omega))
      go_roundw
      case rel =>
        refine ⟨_, cnt1, sec.set i (D.has i), hrg2, e2.trans E2.out.2 (fun b _ h => h), E2.out.1, mid_step e1 hi (fun j => strike_int left i j)⟩
      case measure => rw [hrg2.left_eq, e4.left_eq]; exact e5

end Go.Proofs.YthfidlhefkjpdaaGreatDoor

namespace Go.Proofs.YthfidlhefkjpdaaGreatDoor
open Go.RowKit

set_option maxRecDepth 100000 in
set_option maxHeartbeats 2000000 in
theorem sync_any (gd gs gm : Nat) (D : Dk) (w : World) (hD : DiskAt w gd gs gm D) (hw : D.wf) (hp : D.plan = []) (hoff : D.off = false) (hst : D.steps + 1 ≤ 1152921504606846976) :
    Calls Tryz.prog 54 #[.pointer (some ⟨gd, 0, none⟩)] w fun e w' => e = .returned (.int .i64 0) ∧
      DiskAt w' gd gs gm D.sync ∧ Fr (fun b => b = gd ∨ (b = gs ∨ b = gm)) w w' := by
  obtain ⟨pv, m, hB, hS, hM, hms, hP⟩ := hD
  rw [hp] at hP
  obtain ⟨PA, pc, rfl⟩ : ∃ PA pc, pv = .slice PA 0 pc := by
    obtain ⟨_, ⟨h, _⟩ | ⟨g, cap, cur, h, _⟩⟩ := hP
    · exact ⟨_, _, h⟩
    · exact ⟨_, _, h⟩
  have c4 := hB.cell 4
  simp only [List.getElem?_toArray, List.getElem?_cons_succ, List.getElem?_cons_zero] at c4
  rw [hoff] at c4 hB
  have hgd := hB.lt
  have hgs := (Array.getElem?_eq_some_iff.1 hS).1
  have hgm := hM.lt
  have hmapne : ∀ b t, Ty w b t → gm ≠ b := by
    rintro b t ⟨cs, fr, h⟩ rfl
    obtain ⟨_, ⟨es, c', h1, _⟩, _⟩ := hM
    rw [h] at h1; cases h1
  have hgmd : gm ≠ gd := hmapne gd _ hB.ty
  have hgsd : gs ≠ gd := fun e => by subst e; exact hB.ty.ne ⟨_, _, hS⟩ (by decide)
  have hPn : ∀ b, (Value.slice PA 0 pc).ownBlock = some b → b ≠ gd ∧ b ≠ gs ∧ b ≠ gm := fun b hb =>
    ⟨fun e => by subst e; exact (own_ty hP hb).ne hB.ty (by decide), fun e => by subst e; exact (own_ty hP hb).ne ⟨_, _, hS⟩ (by decide), fun e => hmapne b _ (own_ty hP hb) e.symm⟩
  have hb0 : Below w.heap.size w (w.alloc (.cells #[.pointer (some ⟨gd, 0, none⟩)] 24)) := bl_alloc (Below.refl _ _) _
  have b1 := Boxed.new w 24 (.pointer (some ⟨gd, 0, none⟩))
  obtain ⟨W1, hW1⟩ : ∃ W1, w.alloc (.cells #[.pointer (some ⟨gd, 0, none⟩)] 24) = W1 := ⟨_, rfl⟩
  rw [hW1] at hb0 b1
  have k1 := b1.cell
  have k4 := ((bcell hb0).1 gd 4 hgd).trans c4
  have HH : Aside (Blk w gd 111 #[.slice (some ⟨gs, 0, none⟩) D.sec.length D.sec.length, .map (some gm), .slice PA 0 pc, .int .i64 D.steps, .bool false] ∧ w.heap[gs]? = some (.cells (cellsB (flat D.sec)) 113 (0, 0)) ∧ MapAt Tryz.prog 3 w gm m (encP D.pend) ∧ (m : Int) ≤ D.steps ∧ w.ownsRow 0 76 2 (.slice PA 0 pc) 0 [] ∧ Below w.heap.size w W1 ∧ Boxed W1 w.heap.size 24 (.pointer (some ⟨gd, 0, none⟩))) := ⟨hB, hS, hM, hms, hP, hb0, b1⟩
  clear hB hS hM hms hP hb0 b1 c4 hmapne
  have hmf : ∀ (fn : Fn) (first cap : Array Value) (w : World), (Instr.makeFunc fn first cap).run Tryz.prog w = .ok (.func fn first cap) w := fun _ _ _ _ => rfl
  go_enter Tryz.func54, Tryz.ntmps54
  go_wp2_with fail
  try rw [hW1]
  clear hW1
  obtain ⟨hB, hS, hM, hms, hP, hb1, b1⟩ := HH.out
  have hB1 := hB.below hb1 hgd
  have hM1 := hM.below hb1 hgm
  have hz := hb1.size
  have hS1 : W1.heap[gs]? = some (.cells (cellsB (flat D.sec)) 113 (0, 0)) := (hb1.block gs hgs).trans hS
  refine (dstep_none gd 96 _ _ _ PA pc D.steps W1 (fun b => b = gs ∨ b = gm) (fun W W' => W'.heap[gs]? = some (.cells (cellsB (flat ((List.range D.sec.length).map D.has))) 113 (0, 0)) ∧ MapAt Tryz.prog 3 W' gm 0 (fun _ => none)) hB1 hw.s0 hw.s1 (fun b hb => by rcases hb with rfl | rfl <;> omega) (enters_of Tryz.func96 (by kernel_rfl) rfl) ?_).mono ?_
  · intro W hF hBW
    have e1 : Boxed W w.heap.size 24 (.pointer (some ⟨gd, 0, none⟩)) := (hF.block _ b1.lt (by omega)).trans b1
    have hMW : MapAt Tryz.prog 3 W gm m (encP D.pend) := hM1.block (hF.block _ hM1.lt hgmd)
    have hDW : DiskAt W gd gs gm { D with steps := D.steps + 1 } := by
      refine ⟨.slice PA 0 pc, m, ?_, (hF.block gs (by omega) hgsd).trans hS1, hMW, by show (m : Int) ≤ D.steps + 1; omega, ?_⟩
      · show Blk W gd 111 #[.slice (some ⟨gs, 0, none⟩) D.sec.length D.sec.length, .map (some gm), .slice PA 0 pc, .int .i64 (D.steps + 1), .bool D.off]
        rw [hoff]; exact hBW
      · show W.ownsRow 0 76 2 (.slice PA 0 pc) D.plan.length (D.plan.flatMap encF)
        rw [hp]
        exact own_fr (own_fr hP (Fr.of_below hb1 (fun _ => False)) (fun _ _ h => h)) hF (fun b hb => (hPn b hb).1)
    have hwf : ({ D with steps := D.steps + 1 } : Dk).wf := ⟨hw.n, hw.len, hw.plen, hw.pin, by have := hw.s0; show 0 ≤ D.steps + 1; omega, hst⟩
    refine (sdo_any gd gs gm w.heap.size { D with steps := D.steps + 1 } W hDW hwf e1).mono ?_
    rintro e w' ⟨rfl, h1, h2, h3⟩
    exact ⟨rfl, ⟨h1, h2⟩, h3⟩
  · rintro e w' ⟨rfl, W, W', hF1, hBW, ⟨hS', hM'⟩, hF2, hz2, hb3, hz3⟩
    have hF0 : Fr (fun b => b = gd ∨ (b = gs ∨ b = gm)) w W' := (Fr.of_below hb1 (fun b => b = gd ∨ (b = gs ∨ b = gm))).trans ((hF1.mono (fun _ _ h => .inl h)).trans hF2 (fun _ _ h => .inr h)) (fun _ _ h => h)
    have hF : Fr (fun b => b = gd ∨ (b = gs ∨ b = gm)) w w' := ⟨hb3.os.trans hF0.os, hb3.tape.trans hF0.tape, hb3.output.trans hF0.output, Nat.le_trans hF0.size hz3, fun b hb hn => (hb3.block b (by omega)).trans (hF0.block b hb hn)⟩
    go_wp2
    go_ret
    refine ⟨rfl, ⟨.slice PA 0 pc, 0, ?_, (hb3.block gs (by omega)).trans hS', hM'.below hb3 (by omega), by have := hw.s0; show ((0 : Nat) : Int) ≤ D.steps + 1; omega, ?_⟩, hF⟩
    · have h1 : Blk W' gd 111 #[.slice (some ⟨gs, 0, none⟩) D.sec.length D.sec.length, .map (some gm), .slice PA 0 pc, .int .i64 (D.steps + 1), .bool false] := hBW.fr hF2 (fun h => by rcases h with h | h <;> omega)
      have h2 := h1.below hb3 (by omega)
      show Blk w' gd 111 #[.slice (some ⟨gs, 0, none⟩) ((List.range D.sec.length).map D.has).length ((List.range D.sec.length).map D.has).length, .map (some gm), .slice PA 0 pc, .int .i64 (D.steps + 1), .bool D.off]
      rw [hoff, show ((List.range D.sec.length).map D.has).length = D.sec.length by simp]
      exact h2
    · show w'.ownsRow 0 76 2 (.slice PA 0 pc) D.plan.length (D.plan.flatMap encF)
      rw [hp]
      exact own_fr hP hF (fun b hb h => by
        obtain ⟨h1, h2, h3⟩ := hPn b hb
        rcases h with h | h | h
        · exact h1 h
        · exact h2 h
        · exact h3 h)

end Go.Proofs.YthfidlhefkjpdaaGreatDoor

namespace Go.Proofs.YthfidlhefkjpdaaGreatDoor
open Go.RowKit

theorem DiskAt.fr {w w' : World} {gd gs gm : Nat} {D : Dk} {T : Nat → Prop} (h : DiskAt w gd gs gm D) (hf : Fr T w w') (hT : ∀ b, T b → b ≠ gd ∧ b ≠ gs ∧ b ≠ gm) (hF : ∀ b, Ty w b 76 → ¬ T b) : DiskAt w' gd gs gm D := by
  obtain ⟨pv, m, hB, hS, hM, hms, hP⟩ := h
  have hgs := (Array.getElem?_eq_some_iff.1 hS).1
  exact ⟨pv, m, hB.fr hf (fun h => (hT _ h).1 rfl), (hf.block gs hgs (fun h => (hT _ h).2.1 rfl)).trans hS, hM.block (hf.block gm hM.lt (fun h => (hT _ h).2.2 rfl)), hms, own_fr hP hf (fun b hb => hF b (own_ty hP hb))⟩
theorem DiskAt.below {w w' : World} {gd gs gm : Nat} {D : Dk} (h : DiskAt w gd gs gm D) (hb : Below w.heap.size w w') : DiskAt w' gd gs gm D :=
  h.fr (Fr.of_below hb (fun _ => False)) (fun _ h => h.elim) (fun _ _ h => h)
theorem DiskAt.lt {w : World} {gd gs gm : Nat} {D : Dk} (h : DiskAt w gd gs gm D) : gd < w.heap.size ∧ gs < w.heap.size ∧ gm < w.heap.size := by
  obtain ⟨pv, m, hB, hS, hM, _⟩ := h
  exact ⟨hB.lt, (Array.getElem?_eq_some_iff.1 hS).1, hM.lt⟩
/-- A block of one of the disk's kinds. -/
theorem DiskAt.ne {w : World} {gd gs gm b : Nat} {D : Dk} {t : TypeId} (h : DiskAt w gd gs gm D) (hb : Ty w b t) (h1 : t ≠ 111) (h2 : t ≠ 113) : b ≠ gd ∧ b ≠ gs ∧ b ≠ gm := by
  obtain ⟨pv, m, hB, hS, hM, _⟩ := h
  refine ⟨fun e => ?_, fun e => ?_, fun e => ?_⟩
  · subst e; exact hb.ne hB.ty h1
  · subst e; exact hb.ne ⟨_, _, hS⟩ h2
  · subst e
    obtain ⟨cs, fr, hh⟩ := hb
    obtain ⟨_, ⟨es, c', h1, _⟩, _⟩ := hM
    rw [hh] at h1; cases h1
/-- The blocks of a disk. -/
def dT (gd gs gm : Nat) : Nat → Prop := fun b => b = gd ∨ (b = gs ∨ b = gm)
end Go.Proofs.YthfidlhefkjpdaaGreatDoor

namespace Go.Proofs.YthfidlhefkjpdaaGreatDoor
open Go.RowKit

theorem parse_sector (run : Nat) (used : List UInt8) (h1 : 1 ≤ run) (h2 : run ≤ 274877906944) (hu : used.length ≤ 498) : parseL (sectorL run used) = some (run, used) := by
  have hd : (sectorL run used).drop 4 = logBody run used := drop_seal _
  obtain ⟨L, hL⟩ : ∃ L, leN 8 run = L := ⟨_, rfl⟩
  have hl : L.length = 8 := by rw [← hL, leN_length]
  have hlow : lowN L = run := by rw [← hL]; exact lowN_leN 8 run (by omega)
  obtain ⟨n, hn⟩ : ∃ n, used.length = n := ⟨_, rfl⟩
  rw [hn] at hu
  have hb : logBody run used = L ++ (UInt8.ofNat n :: UInt8.ofNat (n / 256) :: (used ++ zeros (498 - n))) := by
    unfold logBody
    rw [hL, hn]
    rfl
  have h8 : (logBody run used).take 8 = L := by
    rw [hb, List.take_append_of_le_length (by omega), List.take_of_length_le (by omega)]
  have e8 : ((logBody run used).getD 8 0).toNat = n % 256 := by
    rw [hb, List.getD_eq_getElem?_getD, List.getElem?_append_right (by omega), hl]
    simp
  have e9 : ((logBody run used).getD 9 0).toNat = n / 256 := by
    rw [hb, List.getD_eq_getElem?_getD, List.getElem?_append_right (by omega), hl]
    simp
    omega
  have h10 : (logBody run used).drop 10 = used ++ zeros (498 - n) := by
    rw [hb, List.drop_append, List.drop_of_length_le (by omega), hl]
    simp
  have hdn : (logBody run used).drop (10 + n) = zeros (498 - n) := by
    rw [← List.drop_drop, h10, List.drop_append, List.drop_of_length_le (by omega), hn]
    simp
  unfold parseL
  rw [hd, h8, e8, e9, show n % 256 + 256 * (n / 256) = n by omega, hlow, hdn, allZ_zeros, if_pos ⟨opens_seal _, h1, h2, hu, rfl⟩, h10, List.take_append_of_le_length (by omega), List.take_of_length_le (by omega)]
theorem lowN_zeros : ∀ k, lowN (zeros k) = 0
  | 0 => rfl
  | k + 1 => by
    show (0 : UInt8).toNat + 256 * lowN (zeros k) = 0
    rw [lowN_zeros k]; rfl
theorem parse_zero : parseL (zeros 512) = none := by
  unfold parseL
  rw [if_neg]
  rintro ⟨-, h, -⟩
  have e : ((zeros 512).drop 4).take 8 = zeros 8 := by
    show List.take 8 (List.drop 4 (List.replicate 512 0)) = _
    rw [List.drop_replicate, List.take_replicate]
    rfl
  rw [e, lowN_zeros] at h
  omega

theorem outside_ok (gd gs gm : Nat) (D : Dk) (first count : Nat) (w : World) (hD : DiskAt w gd gs gm D) (hn : D.sec.length ≤ 4096) (hc : 1 ≤ count) (hf : first + count ≤ D.sec.length) :
    Calls Tryz.prog 80 #[.pointer (some ⟨gd, 0, none⟩), .int .i64 (first : Int), .int .i64 (count : Int)] w fun e w' => e = .returned (.bool false) ∧ w = w' := by
  have hsz := dsize_any gd gs gm D w hD
  obtain ⟨n, hN⟩ : ∃ n, D.sec.length = n := ⟨_, rfl⟩
  rw [hN] at hsz hf hn
  have d1 : decide ((first : Int) < 0) = false := by simp
  have d2 : decide ((count : Int) < 1) = false := by simp; omega
  have d3 : decide (n < count) = false := by simp; omega
  have d4 : decide ((n : Int) - (count : Int) < (first : Int)) = false := by simp; omega
  clear hD
  go_enter Tryz.func80, Tryz.ntmps80
  go_wp2_with (go_at_call 119; refine hsz.mono ?_; rintro e w' ⟨rfl, rfl⟩)
  go_ret
  exact ⟨rfl, rfl⟩

set_option maxRecDepth 100000 in
set_option maxHeartbeats 1000000 in
theorem format_any (gd gs gm : Nat) (D : Dk) (count : Nat) (w : World) (hD : DiskAt w gd gs gm D) (hw : D.wf) (hp : D.plan = []) (hoff : D.off = false) (hc : 1 ≤ count) (hf : count ≤ D.sec.length) (hst : D.steps + 2 ≤ 1152921504606846976) :
    Calls Tryz.prog 40 #[.pointer (some ⟨gd, 0, none⟩), .int .i64 0, .int .i64 (count : Int)] w fun e w' => e = .returned (.int .i64 0) ∧
      DiskAt w' gd gs gm (D.write 0 (sectorL 1 [])).sync ∧ Fr (fun b => b = gd ∨ (b = gs ∨ b = gm)) w w' := by
  have hs0 := hw.s0
  have H : Aside (DiskAt w gd gs gm D ∧ D.wf ∧ D.plan = [] ∧ D.off = false ∧ 1 ≤ count ∧ count ≤ D.sec.length ∧ D.steps + 2 ≤ 1152921504606846976) := ⟨hD, hw, hp, hoff, hc, hf, hst⟩
  clear hD hw hp hoff hc hf hst hs0
  go_enter Tryz.func40, Tryz.ntmps40
  go_wp2_with fail
  refine (outside_ok gd gs gm D 0 count w H.out.1 H.out.2.1.n H.out.2.2.2.2.1 (by have := H.out.2.2.2.2.2.1; omega)).mono ?_
  rintro e w1 ⟨rfl, rfl⟩
  go_wp2_with fail
  refine (build_any 1 none 0 0 [] w (by omega) (RdB.nil _ _) (by omega)).mono ?_
  rintro e w1 ⟨g, cap, rfl, hown, hb1⟩
  have hD1 : DiskAt w1 gd gs gm D := H.out.1.below hb1
  have hR1 : RdB w1 (some ⟨g, 0, none⟩) 512 (sectorL 1 []) := RdB.of_own hown
  go_wp2_with fail
  refine (write_any gd gs gm D 0 512 cap _ (sectorL 1 []) w1 hD1 H.out.2.1 H.out.2.2.1 H.out.2.2.2.1 (by have := H.out.2.2.2.2; omega) hR1 (by omega)).mono ?_
  rintro e w2 ⟨rfl, hD2, hF2⟩
  go_wp2_with fail
  have hst := H.out.2.2.2.2.2.2
  refine (sync_any gd gs gm (D.write 0 (sectorL 1 [])) w2 hD2 (Dk.write_wf H.out.2.1 (by have := H.out.2.2.2.2; omega) (by rw [sectorL_length _ _ (by simp)]; omega) (by omega)) H.out.2.2.1 H.out.2.2.2.1 (by show D.steps + 1 + 1 ≤ _; omega)).mono ?_
  rintro e w3 ⟨rfl, hD3, hF3⟩
  go_wp2_with fail
  go_ret
  refine ⟨rfl, hD3, ((Fr.of_below hb1 _).trans (hF2.mono fun _ _ h => ?_) (fun _ _ h => h)).trans hF3 (fun _ _ h => h)⟩
  rcases h with h | h
  · exact .inl h
  · exact .inr (.inr h)

end Go.Proofs.YthfidlhefkjpdaaGreatDoor

namespace Go.Proofs.YthfidlhefkjpdaaGreatDoor
open Go.RowKit

theorem run_append_of_nil (w : World) (base t ty e : TypeId) (i : TypeInfo) (size : Nat) (ht : Tryz.prog.underlying t = some (.slice e)) (hi : Tryz.prog.info? e = some i)
    (v : Value) (n : Nat) (xs : List Value) (hown : w.ownsRow base e size v n xs) (c : Nat) : (Builtin.append_ #[t, t] ty #[v, .slice none 0 c]).run Tryz.prog w = .ok v w := by
  rcases hown.2 with ⟨rfl, rfl⟩ | ⟨g, cap, cur, rfl, _, _, hnc, _⟩
  · simp [Builtin.append_, run_underlying ht, sizeOf, typeInfo, hi, Builtin.lenOf, Builtin.firstCells]
  · simp [Builtin.append_, run_underlying ht, sizeOf, typeInfo, hi, Builtin.lenOf, Builtin.firstCells, hnc, storeCells]

theorem run_app_bytes (w : World) (base ty : Nat) (v : Value) (n : Nat) (xs : List UInt8) (hown : w.ownsRow base 5 1 v n (xs.map u8))
    (A : Option Addr) (m c : Nat) (bs : List UInt8) (hr : RdB w A m bs) (hnm : n + m ≤ 140737488355328) (hbase : base ≤ w.heap.size) :
    ∃ A' cap w', (Builtin.append_ #[43, 43] ty #[v, .slice A m c]).run Tryz.prog w = .ok (.slice A' (n + m) cap) w' ∧ w'.ownsRow base 5 1 (.slice A' (n + m) cap) (n + m) ((xs ++ bs).map u8) ∧ w.grownBy w' v.ownBlock ∧
      ((Value.slice A' (n + m) cap).ownBlock = v.ownBlock ∨ (Value.slice A' (n + m) cap).ownBlock = some w.heap.size) := by
  obtain ⟨i0, hi0, hz0, hz1, hz2⟩ := info_parts info5
  cases A with
  | none =>
    have hm : m = 0 := by
      rcases Nat.eq_zero_or_pos m with h | h
      · exact h
      · obtain ⟨b, o, e, _⟩ := hr.2 h; cases e
    subst hm
    obtain rfl := List.eq_nil_of_length_eq_zero hr.1
    have h := run_append_of_nil w base 43 ty 5 i0 1 Tryz.underlying43 hi0 v n _ hown c
    have hown' := hown
    obtain ⟨A', cap, rfl, _⟩ := own_form hown
    exact ⟨A', cap, w, h, by rw [List.append_nil]; exact hown', World.grownBy.refl _ _, .inl rfl⟩
  | some ad =>
    have hcells : ∀ (j : Nat) (u : Value), (bs.map u8)[j]? = some u → w.cell? (ad.add j) = some u := by
      rcases Nat.eq_zero_or_pos m with h | h
      · subst h
        obtain rfl := List.eq_nil_of_length_eq_zero hr.1
        intro j u hu
        simp at hu
      · obtain ⟨ad', e, h1⟩ := hr.news h
        injection e with e
        subst e
        exact h1 w (Below.refl _ _)
    obtain ⟨v', w', hrun, h2, h3, _, h5⟩ := run_append_own_at (P := Tryz.prog) w base 43 ty 5 i0 _ 1 1 Tryz.underlying43 hi0 hz0 hz1 hz2 rfl (by omega) v n _ hown ad m c (bs.map u8) (by rw [List.length_map, hr.1, Nat.mul_one]) hcells (u8_one bs) (by unfold maxLen; omega) (by omega) hbase
    obtain ⟨A', cap, rfl, _⟩ := own_form h2
    exact ⟨A', cap, w', hrun, by rw [List.map_append]; exact h2, h3, h5⟩

section
variable {ops : Array Oper} {rest : List Oper} {o : Oper} {a : Act} {w : World} {K : Act → World → Prop} {Q : Exit → Act → World → Prop} {E : Prop}
theorem wpList_app_bytes (hgd : o.guard = none) (s x : Operand) (ho : o.op = .call { callee := .builtin .append, args := #[s, x], argTypes := #[43, 43] })
    (base : Nat) (v : Value) (n : Nat) (xs : List UInt8) (hs : a.eval s = v) (hown : w.ownsRow base 5 1 v n (xs.map u8))
    (A : Option Addr) (m c : Nat) (bs : List UInt8) (hx : a.eval x = .slice A m c) (hr : RdB w A m bs) (hnm : n + m ≤ 140737488355328) (hbase : base ≤ w.heap.size)
    (h : ∀ A' cap w', w'.ownsRow base 5 1 (.slice A' (n + m) cap) (n + m) ((xs ++ bs).map u8) → w.grownBy w' v.ownBlock → ((Value.slice A' (n + m) cap).ownBlock = v.ownBlock ∨ (Value.slice A' (n + m) cap).ownBlock = some w.heap.size) →
      wpList Tryz.prog ops Q rest (a.put o.dst (.slice A' (n + m) cap)) w') : wpList Tryz.prog ops Q (o :: rest) a w := by
  refine wpList_plain hgd fun K' hK' => ?_
  obtain ⟨A', cap, w', hrun, h1, h2, h3⟩ := run_app_bytes w base o.type v n xs hown A m c bs hr hnm hbase
  unfold Oper.wp
  simp [execOp, ho, resolve, invoke, builtin, hs, hx, hrun, Result.andThen]
  exact hK' _ _ (h A' cap w' h1 h2 h3)
theorem step_app_bytes (hgd : o.guard = none) (s x : Operand) (ho : o.op = .call { callee := .builtin .append, args := #[s, x], argTypes := #[43, 43] })
    (base : Nat) (v : Value) (n : Nat) (xs : List UInt8) (hs : a.eval s = v) (hown : w.ownsRow base 5 1 v n (xs.map u8))
    (A : Option Addr) (m c : Nat) (bs : List UInt8) (hx : a.eval x = .slice A m c) (hr : RdB w A m bs) (hnm : n + m ≤ 140737488355328) (hbase : base ≤ w.heap.size)
    (h : ∀ A' cap w', w'.ownsRow base 5 1 (.slice A' (n + m) cap) (n + m) ((xs ++ bs).map u8) → w.grownBy w' v.ownBlock → ((Value.slice A' (n + m) cap).ownBlock = v.ownBlock ∨ (Value.slice A' (n + m) cap).ownBlock = some w.heap.size) →
      K (a.put o.dst (.slice A' (n + m) cap)) w') : if Region.wanted o (yielded ops a.tmps) = true then Oper.wp Tryz.prog o a w K Q else E := by
  have hw : Region.wanted o (yielded ops a.tmps) = true := by simp [Region.wanted, hgd]
  rw [if_pos hw]
  obtain ⟨A', cap, w', hrun, h1, h2, h3⟩ := run_app_bytes w base o.type v n xs hown A m c bs hr hnm hbase
  unfold Oper.wp
  simp [execOp, ho, resolve, invoke, builtin, hs, hx, hrun, Result.andThen]
  exact h A' cap w' h1 h2 h3
end

theorem grown_below {w w' : World} {v : Value} {base : Nat} {e : TypeId} {size n : Nat} {xs : List Value} (hg : w.grownBy w' v.ownBlock) (hown : w.ownsRow base e size v n xs) (hb : base ≤ w.heap.size) : Below base w w' :=
  ⟨hg.os, hg.tape, hg.output, hg.size, fun b hlt => hg.block b (by omega) (fun e => by have := (hown.lt b e.symm).1; omega)⟩
end Go.Proofs.YthfidlhefkjpdaaGreatDoor
