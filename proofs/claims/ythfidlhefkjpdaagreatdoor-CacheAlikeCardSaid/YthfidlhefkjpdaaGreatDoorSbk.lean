/- Arguments opened: ints; what the rows of the group lean on.
   An argument that is a slice of operations, opened. -/
import Derived.Test.YthfidlhefkjpdaaGreatDoorSbg
import Derived.ProofKit
import Derived.OpenShut
import Derived.ChangeOld
import Derived.SizedLaws
import Derived.Deep.Slices
import Derived.Deep.Fields
import Derived.ChangeSame
import Derived.Lib.SmallJoins
import Derived.LaidMore
import Derived.Lay
import Derived.SevenTiedAt
import Derived.Stop.Joined
import Derived.Test.YthfidlhefkjpdaaGreatDoorSbi
namespace Go.Proofs.YthfidlhefkjpdaaGreatDoor
open Go.ChangeShapes Go.WideShapes Go.ChangeAt Go.RowKit Go.Deep Go.Joins

theorem wf64_of {n : Int} (h : (Lit.int .i64 n).wf = true) : wf64 n := by
  simp only [Lit.wf, Bool.and_eq_true, decide_eq_true_eq] at h
  exact h
theorem plain_addr {W : World} {x : Addr} {u : Value} (h : W.cell? (x.add 0) = some u) : ∃ b off, x = ⟨b, off, none⟩ ∧ b < W.heap.size ∧ ∀ j, x.add j = ⟨b, off + j, none⟩ := by
  have h' : W.cell? x = some u := h
  obtain ⟨b, off, sp⟩ := x
  have hsp : sp = none := by
    cases sp with
    | none => rfl
    | some y =>
      exfalso
      unfold World.cell? at h'
      split at h'
      · simp at h'
      · cases h'
  subst hsp
  have hadd : ∀ j, (⟨b, off, none⟩ : Addr).add j = ⟨b, off + j, none⟩ := fun j => by unfold Addr.add; split <;> simp_all
  exact ⟨b, off, rfl, World.block_lt_of_cell? W _ h', hadd⟩

set_option maxRecDepth 100000 in
/-- an argument that is a slice of ints -/
theorem open_ints_arg {H : Type} {enc : TypeId × Value → H} {W : World} {r : Reach} {b0 : Nat} {v : Value} {d : DataW H} {p : List MemPlace} (hv : Value.okWide Tryz.prog W r b0 22 v)
    (h : DataW.Trod enc Tryz.prog W 0 (fun _ => true) true 22 v d p) (hw : (d.weights Tryz.prog 22).all (· ≤ reachBytes) = true) : ∃ A n c zs, v = .slice A n c ∧ RdZ W A n zs ∧ n ≤ 17592186044416 := by
  obtain ⟨A, n, c, rfl⟩ := okWide_slice Tryz.underlying22 hv
  obtain ⟨fuel, hf⟩ := h
  refine ⟨A, n, c, ?_⟩
  rcases open_ints Tryz.underlying22 Tryz.underlying3 (by kernel_rfl) hf with ⟨hcs, _⟩ | ⟨x, l, c', zs, hcs, _, hl, hm, hz, hx, hcell, hwz⟩
  · simp [Value.cells] at hcs
    obtain ⟨rfl, rfl, rfl⟩ := hcs
    exact ⟨[], rfl, ⟨rfl, (fun _ h => by cases h), fun h => absurd h (Nat.lt_irrefl 0)⟩, by omega⟩
  · simp [Value.cells] at hcs
    obtain ⟨rfl, rfl, rfl⟩ := hcs
    have hz' : zs.length = c := by simpa using hz
    have hsz : zs.length * 8 ≤ 140737488351232 := by
      have hd : d = .slice (lits .i64 (zs.take n)) (lits .i64 (zs.drop n)) := congrArg Prod.fst hx
      have hw2 : (DataW.weightsEach Tryz.prog [22] [d]).all (· ≤ reachBytes) = true := by
        simpa [DataW.weightsEach] using hw
      have := sized_slice hw2 (j := 0) (t := 22) (e := 3) rfl (by rw [hd]; rfl) Tryz.underlying22
      rw [show Tryz.prog.bytesOf 3 = 8 by kernel_rfl] at this
      simp only [lits, List.length_map, List.length_take, List.length_drop] at this
      unfold reachBytes at this
      omega
    have hll : (zs.take n).length = n := by simp; omega
    refine ⟨zs.take n, rfl, ⟨hll, fun z hz => wf64_of (hwz z (List.mem_of_mem_take hz)), fun h0 => ?_⟩, by omega⟩
    obtain ⟨b, off, rfl, hb, hadd⟩ := plain_addr (hcell 0 (by omega))
    refine ⟨b, off, rfl, hb, fun j hj => ?_⟩
    have h2 := hcell j (by omega)
    rw [hadd] at h2
    rw [h2, List.getElem_take, List.getD_eq_getElem?_getD, List.getElem?_eq_getElem (by omega)]
    rfl

end Go.Proofs.YthfidlhefkjpdaaGreatDoor

namespace Go.Proofs.YthfidlhefkjpdaaGreatDoor
open Go.ChangeShapes Go.WideShapes Go.ChangeAt Go.RowKit Go.Deep Go.Joins

section
variable {H : Type} {enc : TypeId × Value → H} {P : Program} {w : World} {base : Nat} {spare : Nat → Bool} {held : Bool}
theorem open_slice_fields {t e : TypeId} {fs : Array Field} {fuel : Nat} {cs : List Value} {x : DataW H × List MemPlace} (ht : P.underlying t = some (.slice e)) (he : P.underlying e = some (.struct fs))
    (hone : oneCellFields P fs = true) (hC : P.cellsOf e = fs.size) (h : DataW.trod enc P w base spare held fuel t cs = some x) :
    (cs = [.slice none 0 0] ∧ x = (.nil, [])) ∨
    ∃ (a : Addr) (len cap m : Nat) (D : Nat → DataW H) (Pl : Nat → List MemPlace), cs = [.slice (some a) len cap] ∧ base ≤ a.block ∧ len ≤ cap ∧ cap ≤ maxLen ∧ m = (if spare a.block then cap else len) ∧
      x = (.slice ((List.range len).map D) ((List.range (m - len)).map fun j => D (len + j)), MemPlace.row a (m * fs.size) ++ (List.range m).flatMap Pl) ∧
      ∀ i, i < m → ∃ (ys : List (DataW H × List MemPlace)) (n : Nat), D i = .agg (ys.map (·.1)) ∧ Pl i = ys.flatMap (·.2) ∧ ys.length = fs.size ∧
        ∀ (j : Nat) (f : Field), fs[j]? = some f → ∃ (v : Value) (y : DataW H × List MemPlace), w.cell? (a.add (i * fs.size + j)) = some v ∧ ys[j]? = some y ∧ DataW.trod enc P w base spare held n f.type [v] = some y := by
  rcases open_slice ht h with h0 | ⟨a, len, cap, m, n, D, Pl, hcs, hb, hl, hm, hmm, hx, hi⟩
  · exact .inl h0
  · refine .inr ⟨a, len, cap, m, D, Pl, hcs, hb, hl, hm, hmm, by rw [hC] at hx; exact hx, fun i him => ?_⟩
    obtain ⟨cs', hc, ht'⟩ := hi i him
    rw [hC] at hc
    obtain ⟨ys, n', hn', hy, hlen, hyl, hf⟩ := DataW.trod_struct he ht'
    obtain ⟨_, hcl, hat⟩ := World.cells?_some hc
    simp only [Prod.mk.injEq] at hy
    refine ⟨ys, n', hy.1, hy.2, hyl, fun j f hj => ?_⟩
    obtain ⟨ho, hk⟩ := hone_of hone j f hj
    have hjl : j < fs.size := (Array.getElem?_eq_some_iff.1 hj).1
    have hcell := hat j hjl
    have hv : cs'[j]? = some (cs'[j]'(by omega)) := List.getElem?_eq_getElem (by omega)
    have h1 := hf j f hj
    rw [ho, hk] at h1
    have hone' : (cs'.drop j).take 1 = [cs'[j]'(by omega)] := by
      rw [List.drop_eq_getElem_cons (by omega)]
      rfl
    rw [hone'] at h1
    have hys : ys[j]? = some (ys[j]'(by omega)) := List.getElem?_eq_getElem (by omega)
    refine ⟨_, _, ?_, hys, h1.trans hys⟩
    rw [← Go.Deep.add_add, hcell, hv]
end

set_option maxRecDepth 100000 in
/-- a slice of bytes among the data -/
theorem open_bytes_at {H : Type} {enc : TypeId × Value → H} {W : World} {n0 : Nat} {v : Value} {y : DataW H × List MemPlace} (h : DataW.trod enc Tryz.prog W 0 (fun _ => true) true n0 43 [v] = some y) : ∃ A n c bs, v = .slice A n c ∧ RdB W A n bs := by
  rcases open_ints Tryz.underlying43 Tryz.underlying5 (by kernel_rfl) h with ⟨hcs, _⟩ | ⟨x, l, c', zs, hcs, _, hl, hm, hz, hx, hcell, hwz⟩
  · simp only [List.cons.injEq, and_true] at hcs
    subst hcs
    exact ⟨none, 0, 0, [], rfl, RdB.nil _ _⟩
  · simp only [List.cons.injEq, and_true] at hcs
    subst hcs
    have hz' : zs.length = c' := by simpa using hz
    refine ⟨some x, l, c', (zs.take l).map (fun z => UInt8.ofNat z.toNat), rfl, by simp; omega, fun h0 => ?_⟩
    obtain ⟨b, off, rfl, hb, hadd⟩ := plain_addr (hcell 0 (by omega))
    refine ⟨b, off, rfl, hb, fun j hj => ?_⟩
    simp only [List.length_map, List.length_take] at hj
    have h2 := hcell j (by omega)
    rw [hadd] at h2
    have hjz : j < zs.length := by omega
    rw [h2, List.getElem_map, List.getElem_take, List.getD_eq_getElem?_getD, List.getElem?_eq_getElem hjz]
    have hw := hwz zs[j] (List.getElem_mem hjz)
    simp only [Lit.wf, Bool.and_eq_true, decide_eq_true_eq] at hw
    have hw' : (0 : Int) ≤ zs[j] ∧ zs[j] ≤ 255 := hw
    simp only [Option.getD_some, UInt8.toNat_ofNat']
    congr 2
    omega

set_option maxRecDepth 100000 in
/-- an argument that is a slice of operations -/
theorem open_ops_arg {H : Type} {enc : TypeId × Value → H} {W : World} {r : Reach} {b0 : Nat} {v : Value} {d : DataW H} {p : List MemPlace} (hv : Value.okWide Tryz.prog W r b0 44 v)
    (h : DataW.Trod enc Tryz.prog W 0 (fun _ => true) true 44 v d p) (hw : (d.weights Tryz.prog 44).all (· ≤ reachBytes) = true) : ∃ A n c, v = .slice A n c ∧ RdOps W A n ∧ n ≤ 2199023255552 := by
  obtain ⟨A, n, c, rfl⟩ := okWide_slice Tryz.underlying44 hv
  obtain ⟨fuel, hf⟩ := h
  refine ⟨A, n, c, rfl, ?_⟩
  rcases open_slice_fields Tryz.underlying44 Tryz.underlying57 (by kernel_rfl) (by kernel_rfl) hf with ⟨hcs, _⟩ | ⟨x, l, c', m, D, Pl, hcs, _, hl, hm, hmm, hx, hi⟩
  · simp [Value.cells] at hcs
    obtain ⟨rfl, rfl, rfl⟩ := hcs
    exact ⟨fun h => absurd h (Nat.lt_irrefl 0), by omega⟩
  · simp [Value.cells] at hcs
    obtain ⟨rfl, rfl, rfl⟩ := hcs
    have hmc : m = c := by simpa using hmm
    subst hmc
    have hsz : m * 64 ≤ 140737488351232 := by
      have hd : d = .slice ((List.range n).map D) ((List.range (m - n)).map fun j => D (n + j)) := congrArg Prod.fst hx
      have hw2 : (DataW.weightsEach Tryz.prog [44] [d]).all (· ≤ reachBytes) = true := by
        simpa [DataW.weightsEach] using hw
      have := sized_slice hw2 (j := 0) (t := 44) (e := 57) rfl (by rw [hd]; rfl) Tryz.underlying44
      rw [show Tryz.prog.bytesOf 57 = 64 by kernel_rfl] at this
      simp only [List.length_map, List.length_range] at this
      unfold reachBytes at this
      omega
    refine ⟨fun h0 => ?_, by omega⟩
    have hone : ∀ i, i < n → ∃ (kd N : Int) (IA : Option Addr) (il ic : Nat) (FA : Option Addr) (fl fc : Nat) (bs : List UInt8),
        W.cell? (x.add (i * 4 + 0)) = some (.int .i64 kd) ∧ W.cell? (x.add (i * 4 + 1)) = some (.int .i64 N) ∧ W.cell? (x.add (i * 4 + 2)) = some (.slice IA il ic) ∧ W.cell? (x.add (i * 4 + 3)) = some (.slice FA fl fc) ∧ wf64 kd ∧ wf64 N ∧ RdB W IA il bs := by
      intro i hil
      obtain ⟨ys, n', _, _, _, hf⟩ := hi i (by omega)
      obtain ⟨u0, z0, c0, _, q0⟩ := hf 0 _ rfl
      obtain ⟨u1, z1, c1, _, q1⟩ := hf 1 _ rfl
      obtain ⟨u2, z2, c2, _, q2⟩ := hf 2 _ rfl
      obtain ⟨u3, z3, c3, _, q3⟩ := hf 3 _ rfl
      obtain ⟨n0, e0, _, w0⟩ := DataW.trod_int Tryz.underlying3 q0
      obtain ⟨n1, e1, _, w1⟩ := DataW.trod_int Tryz.underlying3 q1
      simp only [List.cons.injEq, and_true] at e0 e1
      subst e0 e1
      obtain ⟨IA, il, ic, bs, rfl, hR⟩ := open_bytes_at q2
      obtain ⟨FA, fl, fc, rfl⟩ : ∃ FA fl fc, u3 = .slice FA fl fc := by
        rcases open_slice Tryz.underlying52 q3 with ⟨hcs, _⟩ | ⟨a, len, cap, _, _, _, _, hcs, _⟩
        · simp only [List.cons.injEq, and_true] at hcs
          exact ⟨_, _, _, hcs⟩
        · simp only [List.cons.injEq, and_true] at hcs
          exact ⟨_, _, _, hcs⟩
      exact ⟨n0, n1, IA, il, ic, FA, fl, fc, bs, c0, c1, c2, c3, wf64_of w0, wf64_of w1, hR⟩
    obtain ⟨_, _, _, _, _, _, _, _, _, c0, _⟩ := hone 0 h0
    obtain ⟨b, off, rfl, hb, hadd⟩ := plain_addr c0
    refine ⟨b, off, rfl, hb, fun i hi' => ?_⟩
    have := hone i hi'
    simp only [hadd] at this
    exact this
end Go.Proofs.YthfidlhefkjpdaaGreatDoor
