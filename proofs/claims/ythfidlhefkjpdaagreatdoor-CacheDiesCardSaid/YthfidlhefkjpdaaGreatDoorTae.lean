/- clear(m), and the range over a map, with the maps of Mp.
   disk.settle.
   disk.Sync where nothing is planned.
   disk.Sync where nothing is planned.
   disk.Sync under any plan.
   The bytes of a page, as a plain function.
   page.setLow. -/
import Derived.Test.YthfidlhefkjpdaaGreatDoorTab
import Derived.Maps.RangeWalk
import Derived.Maps.OwnSet
import Derived.Below
import Derived.Test.YthfidlhefkjpdaaGreatDoorTad
import Derived.Test.YthfidlhefkjpdaaGreatDoorTaa
import Derived.Outline
import Derived.Deep.LoopGhost
namespace Go.Proofs.YthfidlhefkjpdaaGreatDoor
open Go.RowKit Go.Maps
open Go.ChangeMaps (setBlock)

section
variable {P : Program} {kt : TypeId} {w : World} {b n : Nat} {m : Int → Option Value}
theorem run_clear (t k e ty : TypeId) (ht : P.underlying t = some (.map k e)) (es : Array MapEntry) (clock : Nat) (h : w.heap[b]? = some (.map es clock)) :
    (Builtin.clear_ #[t] ty #[.map (some b)]).run P w = .ok (.tuple #[]) (setBlock w b (.map #[] clock)) := by
  simp [Builtin.clear_, run_underlying ht, getObj, setObj, Sem.run, h, setBlock, Result.andThen]

theorem wpList_clear {ops : Array Oper} {rest : List Oper} {o : Oper} {a : Act} {Q : Exit → Act → World → Prop} (hgd : o.guard = none) (x : Operand) (t e : TypeId)
    (ho : o.op = .call { callee := .builtin .clear, args := #[x], argTypes := #[t] }) (ht : P.underlying t = some (.map kt e)) (hx : a.eval x = .map (some b)) (hM : MapAt P kt w b n m)
    (hK : ∀ w', MapAt P kt w' b 0 (fun _ => none) → w.grownBy w' (some b) → w'.heap.size = w.heap.size → wpList P ops Q rest (a.put o.dst (.tuple #[])) w') : wpList P ops Q (o :: rest) a w := by
  obtain ⟨D, ⟨es, clock, h1, hfit, hn, hD⟩, h2, h3⟩ := hM
  refine wpList_plain hgd fun K' hK' => ?_
  have hrun := run_clear (P := P) t kt e o.type ht es clock h1
  unfold Oper.wp
  simp [execOp, ho, resolve, invoke, builtin, hx, hrun, Result.andThen]
  refine hK' _ _ (hK _ ?_ ?_ ?_)
  · have hh : (setBlock w b (.map #[] clock)).heap[b]? = some (.map #[] clock) := by
      have hlt := (Array.getElem?_eq_some_iff.1 h1).1
      simp [setBlock, Array.getElem?_setIfInBounds, hlt]
    exact ⟨.map [], ⟨#[], clock, hh, ⟨by simp, MapKept.stamped_empty clock, by simp⟩, Nat.le_refl _, rfl⟩, fun _ _ => rfl, fun _ => rfl⟩
  · refine ⟨rfl, rfl, rfl, by simp [setBlock], fun i _ hi => ?_⟩
    simp only [setBlock, Array.getElem?_setIfInBounds]
    rw [if_neg (fun e => hi (by rw [e]))]
  · simp [setBlock]

theorem ranges_fr {w' : World} {r : Nat} {R : Value → Option (DV × List MemPlace)} {D : DV} {left : Lit → Bool} {cnt : Nat} (h : w.ranges P kt R b r n D left cnt) (hb : w'.heap[b]? = w.heap[b]?) (hr : w'.heap[r]? = w.heap[r]?) :
    w'.ranges P kt R b r n D left cnt := by
  obtain ⟨es, clock, since, seen, c0, h1, h2, h3, h4, h5, h6⟩ := h
  exact ⟨es, clock, since, seen, c0, hb.trans h1, h2, h3, h4, hr.trans h5, h6⟩

/-- what comes out of the map is there -/
theorem held_there {D : DV} (hat : ∀ k z, D.atKey (.int .i64 k) z = match m k with | some v => .held v | none => z) {x : Int} {c : Value} (h : ∀ zd, D.atKey (.int .i64 x) zd = .held c) : m x = some c := by
  have h1 := h .nil
  rw [hat] at h1
  cases hm : m x with
  | none => rw [hm] at h1; cases h1
  | some v => rw [hm] at h1; cases h1; rfl

theorem strike_int (left : Lit → Bool) (x j : Int) : (fun z : Lit => left z && !z.sameKey (.int .i64 x)) (.int .i64 j) = (left (.int .i64 j) && !decide (j = x)) := by
  simp only [Lit.sameKey]
  by_cases h : j = x <;> simp [h]
end
end Go.Proofs.YthfidlhefkjpdaaGreatDoor

namespace Go.Proofs.YthfidlhefkjpdaaGreatDoor
open Go.RowKit

set_option maxRecDepth 100000 in
set_option maxHeartbeats 2000000 in
theorem settle_any (gd gs gm : Nat) (D : Dk) (i : Nat) (w : World) (hD : DiskAt w gd gs gm D) (hw : D.wf) (hi : i < D.sec.length) :
    Calls Tryz.prog 73 #[.pointer (some ⟨gd, 0, none⟩), .int .i64 (i : Int)] w fun e w' => e = .returned (.tuple #[]) ∧
      w'.heap[gs]? = some (.cells (cellsB (flat (D.sec.set i (D.has i)))) 113 (0, 0)) ∧ Fr (· = gs) w w' := by
  have hhas := fun W (hW : DiskAt W gd gs gm D) => has_any gd gs gm D i W hW hw hi
  have hlen := D.has_len hw hi
  have hnn := hw.n
  have hfl := flat_length hw.len
  have hset := flat_set hw.len hi hlen
  have hD' := hD
  obtain ⟨pv, m, hB, hS, hM, hms, hP⟩ := hD'
  have hgd := hB.lt
  have hgs := (Array.getElem?_eq_some_iff.1 hS).1
  have c0 := hB.cell 0
  simp only [List.getElem?_toArray, List.getElem?_cons_zero] at c0
  have HH : Aside (DiskAt w gd gs gm D ∧ w.heap[gs]? = some (.cells (cellsB (flat D.sec)) 113 (0, 0)) ∧ splice (flat D.sec) (i * 512) (D.has i) = flat (D.sec.set i (D.has i)) ∧ (D.has i).length = 512 ∧ (flat D.sec).length = D.sec.length * 512) := ⟨hD, hS, hset, hlen, hfl⟩
  have HC : Aside (∀ W, DiskAt W gd gs gm D → Calls Tryz.prog 55 #[.pointer (some ⟨gd, 0, none⟩), .int .i64 (i : Int)] W fun e w' => e = .returned (.agg (cellsB (D.has i))) ∧ Below W.heap.size W w') := ⟨hhas⟩
  obtain ⟨ns, hns⟩ : ∃ ns, D.sec.length = ns := ⟨_, rfl⟩
  rw [hns] at c0 hi hnn
  have hns := hid hns
  clear hD hB hS hM hms hP hset hfl hhas hw hlen
  have hsz : (cellsB (D.has i)).size = 512 := by rw [cellsB_size, HH.out.2.2.2.1]
  have hiI : (i : Int) < (ns : Int) := by omega
  have tok1 : True := trivial
  have HE : Aside (∀ args w, (callFunc 55 args).run Tryz.prog w = .ok (.enter 55 args) w) := ⟨enters_of Tryz.func55 (by kernel_rfl) rfl⟩
  go_enter Tryz.func73, Tryz.ntmps73
  go_region_law (
    (have _t := tok1
     (refine step_call2 (o := ⟨some 11, _, _, _, _, _⟩) 55 (by rfl) _ _ _ (by rfl) HE.out (.pointer (some ⟨gd, 0, none⟩)) (.int .i64 (i : Int)) (by go_simp) (by go_simp) (HC.out _ ?_) ?_)
     · exact HH.out.1
     rintro e w1 ⟨rfl, hb1⟩
     replace hb1 : Below w.heap.size w w1 := ⟨hb1.os, hb1.tape, hb1.output, hb1.size, hb1.block⟩
     have c01 := ((bcell hb1).1 gd 0 hgd).trans c0
     have st := stMid w1 gs (i * 512) (flat D.sec) (D.has i) ((hb1.block gs hgs).trans HH.out.2.1) (by rw [HH.out.2.2.2.2, hns.out]; omega) HH.out.2.2.2.1
     have B1 : Aside (Below w.heap.size w w1) := ⟨hb1⟩
     clear hb1 tok1
     refine ⟨_, rfl, ?_⟩))
  all_goals
    go_end0
    obtain ⟨h1, h2⟩ := setCells_row gs 113 (D.has i) (flat D.sec) (i * 512) w1 ((B1.out.block gs hgs).trans HH.out.2.1) (by rw [HH.out.2.2.2.1, HH.out.2.2.2.2, hns.out]; omega)
    exact ⟨rfl, by rw [← HH.out.2.2.1]; exact h1, (Fr.of_below B1.out (· = gs)).trans h2 (fun _ _ h => h)⟩

/-- the safe sectors while a Sync is under way: those that are through have what they had -/
structure Mid (D : Dk) (left : Int → Bool) (sec : List (List UInt8)) : Prop where
  len : sec.length = D.sec.length
  at_ : ∀ i : Nat, i < D.sec.length → sec.getD i [] = if left (i : Int) then D.sec.getD i [] else D.has i

theorem Mid.all {D : Dk} {sec : List (List UInt8)} (h : Mid D (fun _ => false) sec) : sec = (List.range D.sec.length).map D.has := by
  apply List.ext_getElem
  · simp [h.len]
  · intro i h1 h2
    have := h.at_ i (by rw [← h.len]; exact h1)
    simp only [List.getD_eq_getElem?_getD, List.getElem?_eq_getElem h1, Option.getD_some] at this
    simpa using this

/-- the disk behind a Sync -/
def Dk.sync (D : Dk) : Dk := { D with sec := (List.range D.sec.length).map D.has, pend := fun _ => none, steps := D.steps + 1 }

theorem Dk.write_wf {D : Dk} (hw : D.wf) {i : Nat} (hi : i < D.sec.length) {bs : List UInt8} (hb : bs.length ≤ 512) (hs : D.steps + 1 ≤ 1152921504606846976) : (D.write i bs).wf := by
  refine ⟨hw.n, hw.len, ?_, ?_, by have := hw.s0; show 0 ≤ D.steps + 1; omega, hs⟩
  · intro k b hk
    simp only [Dk.write] at hk
    split at hk
    · cases hk; exact fullS_length hb
    · exact hw.plen k b hk
  · intro k hk
    simp only [Dk.write] at hk
    split at hk
    · rename_i h; subst h; exact ⟨by omega, by show (i : Int) < (D.sec.length : Int); omega⟩
    · exact hw.pin k hk
theorem Dk.sync_wf {D : Dk} (hw : D.wf) (hs : D.steps + 1 ≤ 1152921504606846976) : D.sync.wf := by
  refine ⟨by simp [Dk.sync]; exact hw.n, ?_, ?_, ?_, by have := hw.s0; show 0 ≤ D.steps + 1; omega, hs⟩
  · intro x hx
    simp only [Dk.sync, List.mem_map, List.mem_range] at hx
    obtain ⟨i, hi, rfl⟩ := hx
    exact D.has_len hw hi
  · intro k b hk; cases hk
  · intro k hk; cases hk
theorem Dk.sync_has {D : Dk} {i : Nat} (hi : i < D.sec.length) : D.sync.has i = D.has i := by
  simp [Dk.sync, Dk.has, List.getD_eq_getElem?_getD, hi]
theorem Dk.write_has {D : Dk} {i j : Nat} {bs : List UInt8} : (D.write i bs).has j = if j = i then fullS bs else D.has j := by
  unfold Dk.has Dk.write
  by_cases h : j = i
  · subst h; simp
  · have : ¬ ((j : Int) = (i : Int)) := by omega
    simp [h, this]
end Go.Proofs.YthfidlhefkjpdaaGreatDoor

namespace Go.Proofs.YthfidlhefkjpdaaGreatDoor
open Go.RowKit Go.Maps

theorem lawInt : Keyed Tryz.prog 3 := int_keyed Tryz.underlying3

theorem mid_wf {D : Dk} (hw : D.wf) {left : Int → Bool} {sec : List (List UInt8)} (h : Mid D left sec) : ({ D with sec := sec } : Dk).wf := by
  refine ⟨by rw [show ({ D with sec := sec } : Dk).sec.length = D.sec.length from h.len]; exact hw.n, ?_, hw.plen, ?_, hw.s0, hw.s1⟩
  · intro x hx
    obtain ⟨i, hi, rfl⟩ := List.mem_iff_getElem.1 hx
    have hi' : i < D.sec.length := by rw [← h.len]; exact hi
    have := h.at_ i hi'
    simp only [List.getD_eq_getElem?_getD, List.getElem?_eq_getElem hi, Option.getD_some] at this
    rw [this]
    split
    · simp only [List.getElem?_eq_getElem hi', Option.getD_some]
      exact hw.len _ (List.getElem_mem hi')
    · exact D.has_len hw hi'
  · intro k hk
    have := hw.pin k hk
    show 0 ≤ k ∧ k < (sec.length : Int)
    rw [h.len]
    exact this

theorem mid_step {D : Dk} {left left' : Int → Bool} {sec : List (List UInt8)} {x : Nat} (h : Mid D left sec) (hx : x < D.sec.length) (hl : ∀ j : Int, left' j = (left j && !decide (j = (x : Int)))) : Mid D left' (sec.set x (D.has x)) := by
  refine ⟨by rw [List.length_set, h.len], fun i hi => ?_⟩
  rw [hl]
  by_cases e : i = x
  · subst e
    simp [List.getD_eq_getElem?_getD, List.getElem?_set, h.len, hi]
  · have : ¬ ((i : Int) = (x : Int)) := by omega
    simp only [this, decide_false, Bool.not_false, Bool.and_true]
    rw [← h.at_ i hi]
    simp [List.getD_eq_getElem?_getD, List.getElem?_set, Ne.symm e]

set_option maxRecDepth 100000 in
set_option maxHeartbeats 4000000 in
theorem sdo_any (gd gs gm bx : Nat) (D : Dk) (w : World) (hD : DiskAt w gd gs gm D) (hw : D.wf) (hx : Boxed w bx 24 (.pointer (some ⟨gd, 0, none⟩))) :
    Calls Tryz.prog 96 #[.pointer (some ⟨bx, 0, none⟩)] w fun e w' => e = .returned (.tuple #[]) ∧
      w'.heap[gs]? = some (.cells (cellsB (flat ((List.range D.sec.length).map D.has))) 113 (0, 0)) ∧ MapAt Tryz.prog 3 w' gm 0 (fun _ => none) ∧ Fr (fun b => b = gs ∨ b = gm) w w' := by
  obtain ⟨pv, m, hB, hS, hM, hms, hP⟩ := hD
  obtain ⟨DD, hown, hat, hhas⟩ := hM
  have hM : MapAt Tryz.prog 3 w gm m (encP D.pend) := ⟨DD, hown, hat, hhas⟩
  have hgd := hB.lt
  have hgs := (Array.getElem?_eq_some_iff.1 hS).1
  have hgm := hM.lt
  have lx := hx.lt
  have k0 := hx.cell
  have k1 := hB.cell 1
  simp only [List.getElem?_toArray, List.getElem?_cons_succ, List.getElem?_cons_zero] at k1
  have HH : Aside (Blk w gd 111 #[.slice (some ⟨gs, 0, none⟩) D.sec.length D.sec.length, .map (some gm), pv, .int .i64 D.steps, .bool D.off] ∧ w.heap[gs]? = some (.cells (cellsB (flat D.sec)) 113 (0, 0)) ∧ MapAt Tryz.prog 3 w gm m (encP D.pend) ∧ (m : Int) ≤ D.steps ∧ w.ownsRow 0 76 2 pv D.plan.length (D.plan.flatMap encF) ∧ D.wf ∧ Boxed w bx 24 (.pointer (some ⟨gd, 0, none⟩))) := ⟨hB, hS, hM, hms, hP, hw, hx⟩
  have N1 : Aside (gm ≠ gs ∧ gm ≠ gd ∧ gm ≠ bx ∧ gd ≠ gs ∧ bx ≠ gs ∧ (∀ b, pv.ownBlock = some b → b ≠ gs ∧ b ≠ gm)) := by
    have hmapne : ∀ b t, Ty w b t → gm ≠ b := by
      rintro b t ⟨cs, fr, h⟩ rfl
      obtain ⟨_, ⟨es, c', h1, _⟩, _⟩ := hM
      rw [h] at h1; cases h1
    refine ⟨hmapne gs _ ⟨_, _, hS⟩, hmapne gd _ hB.ty, hmapne bx _ ⟨_, _, hx⟩, fun e => ?_, fun e => ?_, fun b hb => ⟨fun e => ?_, fun e => ?_⟩⟩
    · subst e; exact hB.ty.ne ⟨_, _, hS⟩ (by decide)
    · subst e; exact Ty.ne (w := w) (g := bx) (t := 24) ⟨_, _, hx⟩ ⟨_, _, hS⟩ (by decide)
    · subst e; exact (own_ty hP hb).ne ⟨_, _, hS⟩ (by decide)
    · exact hmapne b _ (own_ty hP hb) e.symm
  have HAT : Aside ((∀ k z, DD.atKey (.int .i64 k) z = match encP D.pend k with | some v => .held v | none => z) ∧ (∀ k, Maps.has DD (.int .i64 k) = (encP D.pend k).isSome)) := ⟨hat, hhas⟩
  have HO := hid hown
  clear hB hS hM hms hP hx hat hhas hown hw
  go_enter Tryz.func96, Tryz.ntmps96
  go_wp2_with (at_range
               refine wpList_range_own _ rfl _ 109 rfl 3 113 lawInt Tryz.underlying109 _ gm m _ rfl HO.out ?_
               intro w0 hrg0 hg0 hs0)
  go_frame
  have hF0 : Fr (fun b => b = gs) w w0 := ⟨hg0.os, hg0.tape, hg0.output, hg0.size, fun b hb _ => hg0.block b hb (by simp)⟩
  go_loopw [1] (fun _ wr => ∃ (left : Lit → Bool) (cnt : Nat) (sec : List (List UInt8)), wr.ranges Tryz.prog 3 heldV gm w.heap.size m DD left cnt ∧ Fr (fun b => b = gs) w wr ∧
      wr.heap[gs]? = some (.cells (cellsB (flat sec)) 113 (0, 0)) ∧ Hid (Mid D (fun j => left (.int .i64 j)) sec))
    (fun _ wr => wr.rangeLeft gm w.heap.size)
  case atStart =>
    refine ⟨_, _, D.sec, hrg0, hF0, (hg0.block gs hgs (by simp)).trans HH.out.2.1, ⟨rfl, fun i hi => ?_⟩⟩
    simp only [HAT.out.2]
    split
    · rfl
    · rename_i h
      simp only [encP, Option.isSome_map, Bool.not_eq_true, Option.isSome_eq_false_iff, Option.isNone_iff_eq_none] at h
      simp [Dk.has, h]
  case round =>
    obtain ⟨left, cnt, sec, hrg, hF, hS, hMid⟩ := hrel
    have j0 := (World.cell?_of_block (w := w) (a := ⟨bx, 0, none⟩) (hF.block bx lx N1.out.2.2.2.2.1)).trans k0
    have j1 := (World.cell?_of_block (w := w) (a := ⟨gd, 1, none⟩) (hF.block gd hgd N1.out.2.2.2.1)).trans k1
    go_wp2_with (at_next
                 refine wpList_next_ranges (α := Value) (β := Value) _ rfl _ rfl 3 lawInt heldV id id (fun key kl _ => ⟨key, rfl⟩) (fun v y _ => ⟨v, rfl⟩) gm w.heap.size m _ _ _ rfl hrg ?_ ?_)
    · intro _ hl0
      have hMw : MapAt Tryz.prog 3 wr gm m (encP D.pend) := ⟨DD, hrg.owns, HAT.out.1, HAT.out.2⟩
      have E : Aside (Mid D (fun _ => false) sec ∧ wr.heap[gs]? = some (.cells (cellsB (flat sec)) 113 (0, 0)) ∧ Fr (fun b => b = gs) w wr) := ⟨by
        have h := hMid.out
        rw [show (fun j : Int => left (.int .i64 j)) = (fun _ => false) from funext fun j => hl0 _] at h
        exact h, hS, hF⟩
      have HMw := hid hMw
      clear hMw hMid hS hF hrg hl0 hg0 hrg0
      go_wp2_with (refine wpList_clear (by rfl) (.tmp 17) 109 113 (by rfl) Tryz.underlying109 (by rfl) HMw.out ?_
                   intro w2 hM2 hg2 hs2
                   have C2 : Aside (MapAt Tryz.prog 3 w2 gm 0 (fun _ => none) ∧ wr.grownBy w2 (some gm)) := ⟨hM2, hg2⟩
                   clear hM2 hg2 hs2)
      go_end0
      refine ⟨rfl, ?_, C2.out.1, (E.out.2.2.mono (fun b _ h => .inl h)).trans (Fr.of_only C2.out.2) (fun b _ h => .inr h)⟩
      have hgl : gs < wr.heap.size := (Array.getElem?_eq_some_iff.1 E.out.2.1).1
      rw [← E.out.1.all]
      exact (C2.out.2.block gs hgl (fun e => N1.out.1 (by injection e with e; exact e.symm))).trans E.out.2.1
    · intro x c kl y y2 w1 cnt1 hkey hlk hR hat hrg1 hlt hg1 hs1 hen
      obtain ⟨xi, hxe, rfl, hwx⟩ := Maps.keyOf_int_inv Tryz.underlying3 hkey
      subst hxe
      have hy1 : ∀ zd, DD.atKey (.int .i64 xi) zd = .held c := by
        intro zd
        rw [hat]
        simp only [heldV, Option.some.injEq] at hR
        injection hR with e1 e2
        exact e1.symm
      have hpx := held_there HAT.out.1 hy1
      have hpi : (D.pend xi).isSome = true := by
        simp only [encP, Option.map_eq_some_iff] at hpx
        obtain ⟨bs, h, _⟩ := hpx
        rw [h]; rfl
      have hb := HH.out.2.2.2.2.2.1.pin xi hpi
      obtain ⟨i, rfl⟩ : ∃ i : Nat, xi = (i : Int) := ⟨xi.toNat, by omega⟩
      have hi : i < D.sec.length := by omega
      have hrw : w.heap.size < wr.heap.size := by
        obtain ⟨_, _, _, _, _, _, _, _, _, h5, _⟩ := hrg
        exact (Array.getElem?_eq_some_iff.1 h5).1
      have hF1 : Fr (fun b => b = gs) w w1 := hF.trans (Fr.of_only hg1) (fun b hb e => by have e' : b = w.heap.size := e; omega)
      have hS1 : w1.heap[gs]? = some (.cells (cellsB (flat sec)) 113 (0, 0)) := (hg1.block gs (Array.getElem?_eq_some_iff.1 hS).1 (fun e => by injection e with e; omega)).trans hS
      have hD1 : DiskAt w1 gd gs gm { D with sec := sec } := by
        refine ⟨pv, m, ?_, hS1, ⟨DD, hrg1.owns, HAT.out.1, HAT.out.2⟩, HH.out.2.2.2.1, own_fr HH.out.2.2.2.2.1 hF1 (fun b hb => (N1.out.2.2.2.2.2 b hb).1)⟩
        have := HH.out.1.fr hF1 N1.out.2.2.2.1
        rw [show ({ D with sec := sec } : Dk).sec.length = D.sec.length from hMid.out.len]
        exact this
      have hwf1 := mid_wf HH.out.2.2.2.2.2.1 hMid.out
      have hhas : ({ D with sec := sec } : Dk).has i = D.has i := by
        cases hp : D.pend i with
        | none => rw [hp] at hpi; cases hpi
        | some bs => simp [Dk.has, hp]
      have hset := settle_any gd gs gm { D with sec := sec } i w1 hD1 hwf1 (by show i < sec.length; rw [hMid.out.len]; exact hi)
      rw [hhas] at hset
      have j0' := (World.cell?_of_block (w := w) (a := ⟨bx, 0, none⟩) (hF1.block bx lx N1.out.2.2.2.2.1)).trans k0
      have E : Aside (Mid D (fun j => left (.int .i64 j)) sec ∧ Fr (fun b => b = gs) w w1 ∧ w1.ranges Tryz.prog 3 heldV gm w.heap.size m DD (fun z => left z && !z.sameKey (.int .i64 (i : Int))) cnt1 ∧ wr.ranges Tryz.prog 3 heldV gm w.heap.size m DD left cnt ∧ cnt1 < cnt ∧ w.heap.size < w1.heap.size) := ⟨hMid.out, hF1, hrg1, hrg, hlt, by omega⟩
      have HS : Aside (Calls Tryz.prog 73 #[.pointer (some ⟨gd, 0, none⟩), .int .i64 (i : Int)] w1 fun e w' => e = .returned (.tuple #[]) ∧ w'.heap[gs]? = some (.cells (cellsB (flat (sec.set i (D.has i)))) 113 (0, 0)) ∧ Fr (· = gs) w1 w') := ⟨hset⟩
      clear hset hhas hwf1 hD1 hS1 hF1 hpx hy1 hat hkey hR hpi hb hwx hMid hS hF hrg hrg1 hlt hg1 hs1 hlk j0 j1 hg0 hrg0
      go_wp2_with fail
      refine HS.out.mono ?_
      rintro e w2 ⟨rfl, hS2, hF2⟩
      have E2 : Aside (w2.heap[gs]? = some (.cells (cellsB (flat (sec.set i (D.has i)))) 113 (0, 0)) ∧ Fr (· = gs) w1 w2) := ⟨hS2, hF2⟩
      clear hS2 hF2
      go_wp2_with fail
      obtain ⟨e1, e2, e3, e4, e5, e6⟩ := E.out
      have hrg2 := ranges_fr e3 (E2.out.2.block gm (by omega) N1.out.1) (E2.out.2.block w.heap.size e6 (by omega))
      go_roundw
      case rel =>
        refine ⟨_, cnt1, sec.set i (D.has i), hrg2, e2.trans E2.out.2 (fun b _ h => h), E2.out.1, mid_step e1 hi (fun j => strike_int left i j)⟩
      case measure => rw [hrg2.left_eq, e4.left_eq]; exact e5

end Go.Proofs.YthfidlhefkjpdaaGreatDoor

namespace Go.Proofs.YthfidlhefkjpdaaGreatDoor
open Go.RowKit

set_option maxRecDepth 100000 in
set_option maxHeartbeats 2000000 in
theorem sync_any (gd gs gm : Nat) (D : Dk) (w : World) (hD : DiskAt w gd gs gm D) (hw : D.wf) (hp : D.plan = []) (hoff : D.off = false) (hst : D.steps + 1 ≤ 1152921504606846976) :
    Calls Tryz.prog 54 #[.pointer (some ⟨gd, 0, none⟩)] w fun e w' => e = .returned (.int .i64 0) ∧
      DiskAt w' gd gs gm D.sync ∧ Fr (fun b => b = gd ∨ (b = gs ∨ b = gm)) w w' := by
  obtain ⟨pv, m, hB, hS, hM, hms, hP⟩ := hD
  rw [hp] at hP
  obtain ⟨PA, pc, rfl⟩ : ∃ PA pc, pv = .slice PA 0 pc := by
    obtain ⟨_, ⟨h, _⟩ | ⟨g, cap, cur, h, _⟩⟩ := hP
    · exact ⟨_, _, h⟩
    · exact ⟨_, _, h⟩
  have c4 := hB.cell 4
  simp only [List.getElem?_toArray, List.getElem?_cons_succ, List.getElem?_cons_zero] at c4
  rw [hoff] at c4 hB
  have hgd := hB.lt
  have hgs := (Array.getElem?_eq_some_iff.1 hS).1
  have hgm := hM.lt
  have hmapne : ∀ b t, Ty w b t → gm ≠ b := by
    rintro b t ⟨cs, fr, h⟩ rfl
    obtain ⟨_, ⟨es, c', h1, _⟩, _⟩ := hM
    rw [h] at h1; cases h1
  have hgmd : gm ≠ gd := hmapne gd _ hB.ty
  have hgsd : gs ≠ gd := fun e => by subst e; exact hB.ty.ne ⟨_, _, hS⟩ (by decide)
  have hPn : ∀ b, (Value.slice PA 0 pc).ownBlock = some b → b ≠ gd ∧ b ≠ gs ∧ b ≠ gm := fun b hb =>
    ⟨fun e => by subst e; exact (own_ty hP hb).ne hB.ty (by decide), fun e => by subst e; exact (own_ty hP hb).ne ⟨_, _, hS⟩ (by decide), fun e => hmapne b _ (own_ty hP hb) e.symm⟩
  have hb0 : Below w.heap.size w (w.alloc (.cells #[.pointer (some ⟨gd, 0, none⟩)] 24)) := bl_alloc (Below.refl _ _) _
  have b1 := Boxed.new w 24 (.pointer (some ⟨gd, 0, none⟩))
  obtain ⟨W1, hW1⟩ : ∃ W1, w.alloc (.cells #[.pointer (some ⟨gd, 0, none⟩)] 24) = W1 := ⟨_, rfl⟩
  rw [hW1] at hb0 b1
  have k1 := b1.cell
  have k4 := ((bcell hb0).1 gd 4 hgd).trans c4
  have HH : Aside (Blk w gd 111 #[.slice (some ⟨gs, 0, none⟩) D.sec.length D.sec.length, .map (some gm), .slice PA 0 pc, .int .i64 D.steps, .bool false] ∧ w.heap[gs]? = some (.cells (cellsB (flat D.sec)) 113 (0, 0)) ∧ MapAt Tryz.prog 3 w gm m (encP D.pend) ∧ (m : Int) ≤ D.steps ∧ w.ownsRow 0 76 2 (.slice PA 0 pc) 0 [] ∧ Below w.heap.size w W1 ∧ Boxed W1 w.heap.size 24 (.pointer (some ⟨gd, 0, none⟩))) := ⟨hB, hS, hM, hms, hP, hb0, b1⟩
  clear hB hS hM hms hP hb0 b1 c4 hmapne
  have hmf : ∀ (fn : Fn) (first cap : Array Value) (w : World), (Instr.makeFunc fn first cap).run Tryz.prog w = .ok (.func fn first cap) w := fun _ _ _ _ => rfl
  go_enter Tryz.func54, Tryz.ntmps54
  go_wp2_with fail
  try rw [hW1]
  clear hW1
  obtain ⟨hB, hS, hM, hms, hP, hb1, b1⟩ := HH.out
  have hB1 := hB.below hb1 hgd
  have hM1 := hM.below hb1 hgm
  have hz := hb1.size
  have hS1 : W1.heap[gs]? = some (.cells (cellsB (flat D.sec)) 113 (0, 0)) := (hb1.block gs hgs).trans hS
  refine (dstep_none gd 96 _ _ _ PA pc D.steps W1 (fun b => b = gs ∨ b = gm) (fun W W' => W'.heap[gs]? = some (.cells (cellsB (flat ((List.range D.sec.length).map D.has))) 113 (0, 0)) ∧ MapAt Tryz.prog 3 W' gm 0 (fun _ => none)) hB1 hw.s0 hw.s1 (fun b hb => by rcases hb with rfl | rfl <;> omega) (enters_of Tryz.func96 (by kernel_rfl) rfl) ?_).mono ?_
  · intro W hF hBW
    have e1 : Boxed W w.heap.size 24 (.pointer (some ⟨gd, 0, none⟩)) := (hF.block _ b1.lt (by omega)).trans b1
    have hMW : MapAt Tryz.prog 3 W gm m (encP D.pend) := hM1.block (hF.block _ hM1.lt hgmd)
    have hDW : DiskAt W gd gs gm { D with steps := D.steps + 1 } := by
      refine ⟨.slice PA 0 pc, m, ?_, (hF.block gs (by omega) hgsd).trans hS1, hMW, by show (m : Int) ≤ D.steps + 1; omega, ?_⟩
      · show Blk W gd 111 #[.slice (some ⟨gs, 0, none⟩) D.sec.length D.sec.length, .map (some gm), .slice PA 0 pc, .int .i64 (D.steps + 1), .bool D.off]
        rw [hoff]; exact hBW
      · show W.ownsRow 0 76 2 (.slice PA 0 pc) D.plan.length (D.plan.flatMap encF)
        rw [hp]
        exact own_fr (own_fr hP (Fr.of_below hb1 (fun _ => False)) (fun _ _ h => h)) hF (fun b hb => (hPn b hb).1)
    have hwf : ({ D with steps := D.steps + 1 } : Dk).wf := ⟨hw.n, hw.len, hw.plen, hw.pin, by have := hw.s0; show 0 ≤ D.steps + 1; omega, hst⟩
    refine (sdo_any gd gs gm w.heap.size { D with steps := D.steps + 1 } W hDW hwf e1).mono ?_
    rintro e w' ⟨rfl, h1, h2, h3⟩
    exact ⟨rfl, ⟨h1, h2⟩, h3⟩
  · rintro e w' ⟨rfl, W, W', hF1, hBW, ⟨hS', hM'⟩, hF2, hz2, hb3, hz3⟩
    have hF0 : Fr (fun b => b = gd ∨ (b = gs ∨ b = gm)) w W' := (Fr.of_below hb1 (fun b => b = gd ∨ (b = gs ∨ b = gm))).trans ((hF1.mono (fun _ _ h => .inl h)).trans hF2 (fun _ _ h => .inr h)) (fun _ _ h => h)
    have hF : Fr (fun b => b = gd ∨ (b = gs ∨ b = gm)) w w' := ⟨hb3.os.trans hF0.os, hb3.tape.trans hF0.tape, hb3.output.trans hF0.output, Nat.le_trans hF0.size hz3, fun b hb hn => (hb3.block b (by omega)).trans (hF0.block b hb hn)⟩
    go_wp2
    go_ret
    refine ⟨rfl, ⟨.slice PA 0 pc, 0, ?_, (hb3.block gs (by omega)).trans hS', hM'.below hb3 (by omega), by have := hw.s0; show ((0 : Nat) : Int) ≤ D.steps + 1; omega, ?_⟩, hF⟩
    · have h1 : Blk W' gd 111 #[.slice (some ⟨gs, 0, none⟩) D.sec.length D.sec.length, .map (some gm), .slice PA 0 pc, .int .i64 (D.steps + 1), .bool false] := hBW.fr hF2 (fun h => by rcases h with h | h <;> omega)
      have h2 := h1.below hb3 (by omega)
      show Blk w' gd 111 #[.slice (some ⟨gs, 0, none⟩) ((List.range D.sec.length).map D.has).length ((List.range D.sec.length).map D.has).length, .map (some gm), .slice PA 0 pc, .int .i64 (D.steps + 1), .bool D.off]
      rw [hoff, show ((List.range D.sec.length).map D.has).length = D.sec.length by simp]
      exact h2
    · show w'.ownsRow 0 76 2 (.slice PA 0 pc) D.plan.length (D.plan.flatMap encF)
      rw [hp]
      exact own_fr hP hF (fun b hb h => by
        obtain ⟨h1, h2, h3⟩ := hPn b hb
        rcases h with h | h | h
        · exact h1 h
        · exact h2 h
        · exact h3 h)

end Go.Proofs.YthfidlhefkjpdaaGreatDoor

namespace Go.Proofs.YthfidlhefkjpdaaGreatDoor
open Go.RowKit

set_option maxRecDepth 100000 in
set_option maxHeartbeats 2000000 in
theorem sync_plan (gd gs gm : Nat) (D : Dk) (w : World) (hD : DiskAt w gd gs gm D) (hw : D.wf) (hpl : D.plan.length ≤ 70368744175616) (hoff : D.off = false) (hst : D.steps + 1 ≤ 1152921504606846976) :
    Calls Tryz.prog 54 #[.pointer (some ⟨gd, 0, none⟩)] w fun e w' => e = .returned (.int .i64 (fateE (kindOf D.plan (D.steps + 1)))) ∧
      DiskAt w' gd gs gm (D.fated D.sync (kindOf D.plan (D.steps + 1))) ∧ Fr (fun b => b = gd ∨ (b = gs ∨ b = gm)) w w' := by
  obtain ⟨pv, m, hB, hS, hM, hms, hP⟩ := hD
  obtain ⟨PA, pc, rfl⟩ : ∃ PA pc, pv = .slice PA D.plan.length pc := by
    obtain ⟨_, ⟨h, h0⟩ | ⟨g, cap, cur, h, _⟩⟩ := hP
    · exact ⟨none, 0, by rw [h, h0]⟩
    · exact ⟨_, _, h⟩
  have c4 := hB.cell 4
  simp only [List.getElem?_toArray, List.getElem?_cons_succ, List.getElem?_cons_zero] at c4
  rw [hoff] at c4 hB
  obtain ⟨pn, hpn⟩ : ∃ pn, D.plan.length = pn := ⟨_, rfl⟩
  rw [hpn] at hB hP
  have HPN := hid hpn
  clear hpn
  have hgd := hB.lt
  have hgs := (Array.getElem?_eq_some_iff.1 hS).1
  have hgm := hM.lt
  have hmapne : ∀ b t, Ty w b t → gm ≠ b := by
    rintro b t ⟨cs, fr, h⟩ rfl
    obtain ⟨_, ⟨es, c', h1, _⟩, _⟩ := hM
    rw [h] at h1; cases h1
  have hgmd : gm ≠ gd := hmapne gd _ hB.ty
  have hgsd : gs ≠ gd := fun e => by subst e; exact hB.ty.ne ⟨_, _, hS⟩ (by decide)
  have hPn : ∀ b, (Value.slice PA pn pc).ownBlock = some b → b ≠ gd ∧ b ≠ gs ∧ b ≠ gm := fun b hb =>
    ⟨fun e => by subst e; exact (own_ty hP hb).ne hB.ty (by decide), fun e => by subst e; exact (own_ty hP hb).ne ⟨_, _, hS⟩ (by decide), fun e => hmapne b _ (own_ty hP hb) e.symm⟩
  have hb0 : Below w.heap.size w (w.alloc (.cells #[.pointer (some ⟨gd, 0, none⟩)] 24)) := bl_alloc (Below.refl _ _) _
  have b1 := Boxed.new w 24 (.pointer (some ⟨gd, 0, none⟩))
  obtain ⟨W1, hW1⟩ : ∃ W1, w.alloc (.cells #[.pointer (some ⟨gd, 0, none⟩)] 24) = W1 := ⟨_, rfl⟩
  rw [hW1] at hb0 b1
  have k1 := b1.cell
  have k4 := ((bcell hb0).1 gd 4 hgd).trans c4
  have HH : Aside (Blk w gd 111 #[.slice (some ⟨gs, 0, none⟩) D.sec.length D.sec.length, .map (some gm), .slice PA pn pc, .int .i64 D.steps, .bool false] ∧ w.heap[gs]? = some (.cells (cellsB (flat D.sec)) 113 (0, 0)) ∧ MapAt Tryz.prog 3 w gm m (encP D.pend) ∧ (m : Int) ≤ D.steps ∧ w.ownsRow 0 76 2 (.slice PA pn pc) pn (D.plan.flatMap encF) ∧ Below w.heap.size w W1 ∧ Boxed W1 w.heap.size 24 (.pointer (some ⟨gd, 0, none⟩))) := ⟨hB, hS, hM, hms, hP, hb0, b1⟩
  clear hB hS hM hms hP hb0 b1 c4 hmapne
  have hmf : ∀ (fn : Fn) (first cap : Array Value) (w : World), (Instr.makeFunc fn first cap).run Tryz.prog w = .ok (.func fn first cap) w := fun _ _ _ _ => rfl
  go_enter Tryz.func54, Tryz.ntmps54
  go_wp2_with fail
  try rw [hW1]
  clear hW1
  obtain ⟨hB, hS, hM, hms, hP, hb1, b1⟩ := HH.out
  have hPN := HPN.out
  subst hPN
  have hRF := (RdF.of_own hP).2
  have hB1 := hB.below hb1 hgd
  have hM1 := hM.below hb1 hgm
  have hz := hb1.size
  have hS1 : W1.heap[gs]? = some (.cells (cellsB (flat D.sec)) 113 (0, 0)) := (hb1.block gs hgs).trans hS
  have hPg : ∀ b o, PA = some ⟨b, o, none⟩ → 0 < D.plan.length → b ≠ gd := fun b o e h0 => by
    subst e
    exact (hPn b rfl).1
  refine (dstep_plan gd 96 _ _ _ PA pc D.plan D.steps W1 (fun b => b = gs ∨ b = gm) (fun W W' => W'.heap[gs]? = some (.cells (cellsB (flat ((List.range D.sec.length).map D.has))) 113 (0, 0)) ∧ MapAt Tryz.prog 3 W' gm 0 (fun _ => none)) hB1 hw.s0 hw.s1 (fun b hb => by rcases hb with rfl | rfl <;> omega) (fun h => by rcases h with h | h; exact hgsd h.symm; exact hgmd h.symm) hpl (hRF.below hb1) hPg (enters_of Tryz.func96 (by kernel_rfl) rfl) ?_).mono ?_
  · intro W hF hBW
    have e1 : Boxed W w.heap.size 24 (.pointer (some ⟨gd, 0, none⟩)) := (hF.block _ b1.lt (by omega)).trans b1
    have hMW : MapAt Tryz.prog 3 W gm m (encP D.pend) := hM1.block (hF.block _ hM1.lt hgmd)
    have hDW : DiskAt W gd gs gm { D with steps := D.steps + 1 } := by
      refine ⟨.slice PA D.plan.length pc, m, ?_, (hF.block gs (by omega) hgsd).trans hS1, hMW, by show (m : Int) ≤ D.steps + 1; omega, ?_⟩
      · show Blk W gd 111 #[.slice (some ⟨gs, 0, none⟩) D.sec.length D.sec.length, .map (some gm), .slice PA D.plan.length pc, .int .i64 (D.steps + 1), .bool D.off]
        rw [hoff]; exact hBW
      · exact own_fr (own_fr hP (Fr.of_below hb1 (fun _ => False)) (fun _ _ h => h)) hF (fun b hb => (hPn b hb).1)
    have hwf : ({ D with steps := D.steps + 1 } : Dk).wf := ⟨hw.n, hw.len, hw.plen, hw.pin, by have := hw.s0; show 0 ≤ D.steps + 1; omega, hst⟩
    refine (sdo_any gd gs gm w.heap.size { D with steps := D.steps + 1 } W hDW hwf e1).mono ?_
    rintro e w' ⟨rfl, h1, h2, h3⟩
    exact ⟨rfl, ⟨h1, h2⟩, h3⟩
  · rintro e w' ⟨W, hF1, hBW, hcase⟩
    have hFW : Fr (fun b => b = gd ∨ b = gm) w W := (Fr.of_below hb1 (fun b => b = gd ∨ b = gm)).trans (hF1.mono (fun _ _ h => .inl h)) (fun _ _ h => h)
    have up : ∀ {x y : World}, Fr (fun b => b = gd ∨ b = gm) x y → Fr (fun b => b = gd ∨ (b = gs ∨ b = gm)) x y := fun h => h.mono fun _ _ e => by rcases e with e | e; exact .inl e; exact .inr (.inr e)
    have hMW : MapAt Tryz.prog 3 W gm m (encP D.pend) := hM1.block (hF1.block _ hM1.lt hgmd)
    have hgl1 : gd < W1.heap.size := hB1.lt
    have hglm : gm < W1.heap.size := hM1.lt
    have hgls : gs < W1.heap.size := by omega
    have hgsm : gs ≠ gm := fun h => by
      subst h
      obtain ⟨_, ⟨es, c', h1, _⟩, _⟩ := hM
      rw [hS] at h1
      cases h1
    have hPn2 : ∀ b, (Value.slice PA D.plan.length pc).ownBlock = some b → b ≠ gd ∧ b ≠ gm := fun b hb => ⟨(hPn b hb).1, (hPn b hb).2.2⟩
    have hnT : ¬ (gd = gs ∨ gd = gm) := fun h => by rcases h with h | h; exact hgsd h.symm; exact hgmd h.symm
    have hs0 := hw.s0
    have hlen : ((List.range D.sec.length).map D.has).length = D.sec.length := by simp
    rcases hcase with ⟨hk, rfl, W', ⟨hS', hM'⟩, hF2, hz2, hb3, hz3⟩ | ⟨hk, rfl, hb3, hz3⟩ | ⟨hk, rfl, hb3, hz3⟩ | ⟨hk, rfl, W', ⟨hS', hM'⟩, hF2, hz2, hb3, hz3⟩
    · have hF := fr_back ((up hFW).trans hF2 (fun _ _ h => .inr h)) hb3 hz hz3
      have HK := hid hk
      clear hk
      go_wp2
      go_ret
      rw [HK.out]
      refine ⟨rfl, ⟨.slice PA D.plan.length pc, 0, ?_, (hb3.block gs (by omega)).trans hS', hM'.below hb3 (by omega), by show ((0 : Nat) : Int) ≤ D.steps + 1; omega, own_fr hP hF (fun b hb h => by
        obtain ⟨h1, h2, h3⟩ := hPn b hb
        rcases h with h | h | h
        · exact h1 h
        · exact h2 h
        · exact h3 h)⟩, hF⟩
      show Blk w' gd 111 #[.slice (some ⟨gs, 0, none⟩) ((List.range D.sec.length).map D.has).length ((List.range D.sec.length).map D.has).length, .map (some gm), .slice PA D.plan.length pc, .int .i64 (D.steps + 1), .bool D.off]
      rw [hoff, hlen]
      exact (hBW.fr hF2 hnT).below hb3 hgl1
    · have hF := fr_back hFW hb3 hz hz3
      have HK := hid hk
      clear hk
      go_wp2
      go_ret
      rw [HK.out]
      refine ⟨rfl, disk_back (D' := { D with steps := D.steps + 1 }) (m' := m) hS hP hF hgsd hgsm hPn2 ?_ (hMW.below hb3 hglm) (by show (m : Int) ≤ D.steps + 1; omega) rfl rfl, up hF⟩
      rw [show ({ D with steps := D.steps + 1 } : Dk).off = false from hoff]
      exact hBW.below hb3 hgl1
    · have hF := fr_back (hFW.set (p := ⟨gd, 4, none⟩) (.inl (.inl rfl)) (.bool true)) hb3 hz (by simpa [World.setCell] using hz3)
      have HK := hid hk
      clear hk
      go_wp2
      go_ret
      rw [HK.out]
      refine ⟨rfl, disk_back (D' := { D with steps := D.steps + 1, off := true }) (m' := m) hS hP hF hgsd hgsm hPn2 ?_ ((hMW.block (Below.heap_setCell _ _ _ gm (fun h => hgmd h))).below hb3 hglm) (by show (m : Int) ≤ D.steps + 1; omega) rfl rfl, up hF⟩
      exact (blk_off hBW).below hb3 hgl1
    · have hF := fr_back (((up hFW).trans hF2 (fun _ _ h => .inr h)).set (p := ⟨gd, 4, none⟩) (.inl (.inl rfl)) (.bool true)) hb3 hz (by simpa [World.setCell] using hz3)
      have HK := hid hk
      clear hk
      go_wp2
      go_ret
      rw [HK.out]
      refine ⟨rfl, ⟨.slice PA D.plan.length pc, 0, ?_, (hb3.block gs (by omega)).trans ((Below.heap_setCell _ _ _ gs (fun h => hgsd h)).trans hS'), (hM'.block (Below.heap_setCell _ _ _ gm (fun h => hgmd h))).below hb3 (by omega), by show ((0 : Nat) : Int) ≤ D.steps + 1; omega, own_fr hP hF (fun b hb h => by
        obtain ⟨h1, h2, h3⟩ := hPn b hb
        rcases h with h | h | h
        · exact h1 h
        · exact h2 h
        · exact h3 h)⟩, hF⟩
      show Blk w' gd 111 #[.slice (some ⟨gs, 0, none⟩) ((List.range D.sec.length).map D.has).length ((List.range D.sec.length).map D.has).length, .map (some gm), .slice PA D.plan.length pc, .int .i64 (D.steps + 1), .bool true]
      rw [hlen]
      exact (blk_off (hBW.fr hF2 hnT)).below hb3 hgl1
end Go.Proofs.YthfidlhefkjpdaaGreatDoor

namespace Go.Proofs.YthfidlhefkjpdaaGreatDoor

theorem zeros_add (a b : Nat) : zeros (a + b) = zeros a ++ zeros b := by simp [zeros, List.replicate_append_replicate]
theorem zeros_two (n : Nat) : zeros (n + 2) = 0 :: 0 :: zeros n := by simp [zeros, List.replicate_succ]
theorem zeros_one : zeros 1 = [0] := rfl
theorem set_mid (a b : List UInt8) (y c : UInt8) : (a ++ (y :: b)).set a.length c = a ++ (c :: b) := by
  rw [List.set_append_right _ _ (Nat.le_refl _), Nat.sub_self]
  rfl
theorem set_at (a b : List UInt8) (y c : UInt8) (i : Nat) (h : a.length = i) : (a ++ (y :: b)).set i c = a ++ (c :: b) := by subst h; exact set_mid a b y c
theorem splice_at (a m b x : List UInt8) (i : Nat) (hi : a.length = i) (h : x.length = m.length) : splice (a ++ (m ++ b)) i x = a ++ (x ++ b) := by subst hi; exact splice_mid a m b x h

def hdr (p : Pg) : List UInt8 := zeros 4 ++ (leN 8 p.lsn.toNat ++ (p.kind :: (leN 4 p.extra ++ [UInt8.ofNat p.items.length])))
def slots (xs : List (List UInt8)) : Nat → List UInt8
  | 0 => []
  | k + 1 => slots xs k ++ [UInt8.ofNat (512 - tot (xs.take (k + 1))), UInt8.ofNat ((512 - tot (xs.take (k + 1))) / 256)]
def tails (xs : List (List UInt8)) : Nat → List UInt8
  | 0 => []
  | k + 1 => xs.getD k [] ++ tails xs k
def bufK (p : Pg) (k : Nat) : List UInt8 := hdr p ++ (slots p.items k ++ (zeros (512 - tot (p.items.take k) - (18 + 2 * k)) ++ tails p.items k))
def bodyP (p : Pg) : List UInt8 := (bufK p p.items.length).drop 4
def bytesP (p : Pg) : List UInt8 := sealB (bodyP p)

theorem hdr_length (p : Pg) : (hdr p).length = 18 := by simp [hdr, zeros_length, leN_length]
theorem slots_length (xs : List (List UInt8)) (k : Nat) : (slots xs k).length = 2 * k := by
  induction k with
  | zero => rfl
  | succ k ih => simp [slots, ih]; omega
theorem tails_length (xs : List (List UInt8)) (k : Nat) (h : k ≤ xs.length) : (tails xs k).length = tot (xs.take k) := by
  induction k with
  | zero => rfl
  | succ k ih =>
    have hlt : k < xs.length := h
    rw [tot_take_succ hlt, tails, List.length_append, ih (by omega)]
    simp [List.getD_eq_getElem?_getD, List.getElem?_eq_getElem hlt]
    omega
theorem bufK_length (p : Pg) (k : Nat) (h : k ≤ p.items.length) (hu : 18 + 2 * k + tot (p.items.take k) ≤ 512) : (bufK p k).length = 512 := by
  simp [bufK, hdr_length, slots_length, tails_length _ _ h, zeros_length]
  omega
theorem room_take {p : Pg} (hw : p.wf) {k : Nat} (h : k ≤ p.items.length) : 18 + 2 * k + tot (p.items.take k) ≤ 512 := by
  have := hw.used
  have := tot_take_le p.items k
  omega
theorem bodyP_length {p : Pg} (hw : p.wf) : (bodyP p).length = 508 := by
  rw [bodyP, List.length_drop, bufK_length p _ (Nat.le_refl _) (room_take hw (Nat.le_refl _))]
theorem bytesP_length {p : Pg} (hw : p.wf) : (bytesP p).length = 512 := by
  simp [bytesP, sealB, le4, bodyP_length hw]

theorem buf_start (p : Pg) : ((splice (((splice (zeros 512) 4 (leN 8 p.lsn.toNat))).set 12 p.kind) 13 (leN 4 p.extra)).set 17 (UInt8.ofNat p.items.length)) = bufK p 0 := by
  have e : zeros 512 = zeros 4 ++ (zeros 8 ++ (0 :: (zeros 4 ++ (0 :: zeros 494)))) := by
    have h1 : ∀ n, (0 : UInt8) :: zeros n = zeros (n + 1) := fun n => by simp [zeros, List.replicate_succ]
    rw [h1, ← zeros_add, h1, ← zeros_add, ← zeros_add]
  rw [e, splice_at _ _ _ _ 4 (zeros_length 4) (by rw [leN_length, zeros_length])]
  have e2 : zeros 4 ++ (leN 8 p.lsn.toNat ++ (0 :: (zeros 4 ++ (0 :: zeros 494)))) = (zeros 4 ++ leN 8 p.lsn.toNat) ++ (0 :: (zeros 4 ++ (0 :: zeros 494))) := by simp
  rw [e2, set_at _ _ _ _ 12 (by simp [zeros_length, leN_length])]
  have e3 : (zeros 4 ++ leN 8 p.lsn.toNat) ++ (p.kind :: (zeros 4 ++ (0 :: zeros 494))) = ((zeros 4 ++ leN 8 p.lsn.toNat) ++ [p.kind]) ++ (zeros 4 ++ (0 :: zeros 494)) := by simp
  rw [e3, splice_at _ _ _ _ 13 (by simp [zeros_length, leN_length]) (by rw [leN_length, zeros_length])]
  have e4 : ((zeros 4 ++ leN 8 p.lsn.toNat) ++ [p.kind]) ++ (leN 4 p.extra ++ (0 :: zeros 494)) = (((zeros 4 ++ leN 8 p.lsn.toNat) ++ [p.kind]) ++ leN 4 p.extra) ++ (0 :: zeros 494) := by simp
  rw [e4, set_at _ _ _ _ 17 (by simp [zeros_length, leN_length])]
  simp [bufK, hdr, slots, tails, tot]

theorem buf_step {p : Pg} (hw : p.wf) {k e : Nat} (hk : k < p.items.length) (he : e = 512 - tot (p.items.take (k + 1))) :
    ((splice (bufK p k) e p.items[k]).set (18 + 2 * k) (UInt8.ofNat e)).set (18 + 2 * k + 1) (UInt8.ofNat (e / 256)) = bufK p (k + 1) := by
  have hr := room_take hw (k := k + 1) hk
  have ht := tot_take_succ hk
  subst he
  obtain ⟨x, hx⟩ : ∃ x, p.items[k] = x := ⟨_, rfl⟩
  have htl : tails p.items (k + 1) = x ++ tails p.items k := by
    simp [tails, List.getD_eq_getElem?_getD, List.getElem?_eq_getElem hk, hx]
  rw [hx] at ht ⊢
  unfold bufK
  rw [htl, slots]
  obtain ⟨m, hm⟩ : ∃ m, 512 - tot (p.items.take (k + 1)) - (18 + 2 * (k + 1)) = m := ⟨_, rfl⟩
  have hz : zeros (512 - tot (p.items.take k) - (18 + 2 * k)) = 0 :: 0 :: (zeros m ++ zeros x.length) := by
    rw [← zeros_add, ← zeros_two]
    congr 1
    omega
  rw [hz, hm]
  have e1 : hdr p ++ (slots p.items k ++ ((0 :: 0 :: (zeros m ++ zeros x.length)) ++ tails p.items k)) = ((hdr p ++ slots p.items k) ++ (0 :: 0 :: zeros m)) ++ (zeros x.length ++ tails p.items k) := by simp
  rw [e1, splice_at _ _ _ _ _ (by simp [hdr_length, slots_length, zeros_length]; omega) (by rw [zeros_length])]
  have e2 : ((hdr p ++ slots p.items k) ++ (0 :: 0 :: zeros m)) ++ (x ++ tails p.items k) = (hdr p ++ slots p.items k) ++ (0 :: (0 :: zeros m ++ (x ++ tails p.items k))) := by simp
  rw [e2, set_at _ _ _ _ (18 + 2 * k) (by simp [hdr_length, slots_length])]
  have e3 : (hdr p ++ slots p.items k) ++ (UInt8.ofNat (512 - tot (p.items.take (k + 1))) :: (0 :: zeros m ++ (x ++ tails p.items k))) = ((hdr p ++ slots p.items k) ++ [UInt8.ofNat (512 - tot (p.items.take (k + 1)))]) ++ (0 :: (zeros m ++ (x ++ tails p.items k))) := by simp
  rw [e3, set_at _ _ _ _ (18 + 2 * k + 1) (by simp [hdr_length, slots_length]; omega)]
  simp

end Go.Proofs.YthfidlhefkjpdaaGreatDoor

namespace Go.Proofs.YthfidlhefkjpdaaGreatDoor
open Go.RowKit

set_option maxRecDepth 100000 in
set_option maxHeartbeats 400000 in
theorem setLow_any (g off n c u : Nat) (bs : List UInt8) (w : World) (hB : Byt w g bs) (hn : off + n ≤ bs.length) (hc : n ≤ 8) (hu : u < 18446744073709551616) :
    Calls Tryz.prog 71 #[.slice (some ⟨g, off, none⟩) n c, .int .u64 (u : Int)] w fun e w' => e = .returned (.tuple #[]) ∧ Byt w' g (splice bs off (leN n u)) ∧ w.grownBy w' (some g) := by
  go_enter Tryz.func71, Tryz.ntmps71
  go_wp2
  go_loopg [1, 7] n (fun q x i wr => ∃ k : Nat, k + q = n ∧ i = .int .i64 (k : Nat) ∧ x = .int .u64 ((u / 256 ^ k : Nat) : Int) ∧ Byt wr g (splice bs off (leN k u)) ∧ w.grownBy wr (some g))
  case atStart => exact ⟨0, by omega, rfl, by simp, by rw [leN, splice_nil]; exact hB, World.grownBy.refl _ _⟩
  case round =>
    obtain ⟨k, hk, rfl, rfl, hW, hG⟩ := hrel
    by_cases hlt : k < n
    · have hl := splice_length (bs := bs) (off := off) (xs := leN k u) (by rw [leN_length]; omega)
      obtain ⟨v, hcell⟩ := hW.some_ (i := off + k) (by omega)
      have hfr := hW.frozen (off + k)
      have hlb : u / 256 ^ k < 18446744073709551616 := Nat.lt_of_le_of_lt (Nat.div_le_self _ _) hu
      obtain ⟨y, hy⟩ : ∃ y, u / 256 ^ k = y := ⟨_, rfl⟩
      have A : Aside (u / 256 ^ k = y ∧ Byt wr g (splice bs off (leN k u)) ∧ w.grownBy wr (some g)) := ⟨hy, hW, hG⟩
      rw [hy] at hlb ⊢
      clear hy hW hG hl
      go_wp2
      obtain ⟨hy, hW, hG⟩ := A.out
      go_roundg (n - 1 - k)
      case rel =>
        refine ⟨k + 1, by omega, by go_num, ?_, ?_, only_set hG (.inl rfl) _⟩
        · rw [← hy, Nat.pow_succ, ← Nat.div_div_eq_div_mul]; simp
        · have hl := leN_length k u
          have := hW.set (off + k) (UInt8.ofNat (u / 256 ^ k))
          rw [hy] at this
          rw [leN, ← splice_snoc _ (by omega), hl, hy, ofNat_val _ y (by omega)]
          exact this
      case measure => omega
    · obtain rfl : k = n := by omega
      go_wp2
      go_end0
      exact ⟨rfl, hW, hG⟩
end Go.Proofs.YthfidlhefkjpdaaGreatDoor
