/- The law PlainTrees, for every net and every two vertices: its argument opened, its walk, its row. -/
import Derived.Test.YthidhdffiebbgaaGreatDoorRows
import Derived.Test.YthidhdffiebbgaaGreatDoorPlT
import Derived.ProofKit
import Derived.OpenShut
import Derived.ChangeOld
import Derived.SizedLaws
import Derived.Deep.Slices
import Derived.Deep.Fields
import Derived.ChangeSame
import Derived.Lib.SmallJoins
namespace Go.Proofs.YthidhdffiebbgaaGreatDoor
open Go.ChangeShapes Go.WideShapes Go.ChangeAt Go.RowKit Go.Deep Go.Joins Go.Proofs.YthidhdffiebbgaaGreatDoor.Sk

section
variable {H : Type} {enc : TypeId × Value → H} {P : Program} {w : World} {base : Nat} {spare : Nat → Bool} {held : Bool}
theorem open_slice_fields {t e : TypeId} {fs : Array Field} {fuel : Nat} {cs : List Value} {x : DataW H × List MemPlace} (ht : P.underlying t = some (.slice e)) (he : P.underlying e = some (.struct fs))
    (hone : oneCellFields P fs = true) (hC : P.cellsOf e = fs.size) (h : DataW.trod enc P w base spare held fuel t cs = some x) :
    (cs = [.slice none 0 0] ∧ x = (.nil, [])) ∨
    ∃ (a : Addr) (len cap m : Nat) (D : Nat → DataW H) (Pl : Nat → List MemPlace), cs = [.slice (some a) len cap] ∧ base ≤ a.block ∧ len ≤ cap ∧ cap ≤ maxLen ∧ m = (if spare a.block then cap else len) ∧
      x = (.slice ((List.range len).map D) ((List.range (m - len)).map fun j => D (len + j)), MemPlace.row a (m * fs.size) ++ (List.range m).flatMap Pl) ∧
      ∀ i, i < m → ∃ (ys : List (DataW H × List MemPlace)) (n : Nat), D i = .agg (ys.map (·.1)) ∧ Pl i = ys.flatMap (·.2) ∧ ys.length = fs.size ∧
        ∀ (j : Nat) (f : Field), fs[j]? = some f → ∃ (v : Value) (y : DataW H × List MemPlace), w.cell? (a.add (i * fs.size + j)) = some v ∧ ys[j]? = some y ∧ DataW.trod enc P w base spare held n f.type [v] = some y := by
  rcases open_slice ht h with h0 | ⟨a, len, cap, m, n, D, Pl, hcs, hb, hl, hm, hmm, hx, hi⟩
  · exact .inl h0
  · refine .inr ⟨a, len, cap, m, D, Pl, hcs, hb, hl, hm, hmm, by rw [hC] at hx; exact hx, fun i him => ?_⟩
    obtain ⟨cs', hc, ht'⟩ := hi i him
    rw [hC] at hc
    obtain ⟨ys, n', hn', hy, hlen, hyl, hf⟩ := DataW.trod_struct he ht'
    obtain ⟨_, hcl, hat⟩ := World.cells?_some hc
    simp only [Prod.mk.injEq] at hy
    refine ⟨ys, n', hy.1, hy.2, hyl, fun j f hj => ?_⟩
    obtain ⟨ho, hk⟩ := hone_of hone j f hj
    have hjl : j < fs.size := (Array.getElem?_eq_some_iff.1 hj).1
    have hcell := hat j hjl
    have hv : cs'[j]? = some (cs'[j]'(by omega)) := List.getElem?_eq_getElem (by omega)
    have h1 := hf j f hj
    rw [ho, hk] at h1
    have hone' : (cs'.drop j).take 1 = [cs'[j]'(by omega)] := by
      rw [List.drop_eq_getElem_cons (by omega)]
      rfl
    rw [hone'] at h1
    have hys : ys[j]? = some (ys[j]'(by omega)) := List.getElem?_eq_getElem (by omega)
    refine ⟨_, _, ?_, hys, h1.trans hys⟩
    rw [← Go.Deep.add_add, hcell, hv]
end

theorem list_of {n : Nat} {p : Nat → Edg → Prop} (h : ∀ i, i < n → ∃ e, p i e) : ∃ E : List Edg, E.length = n ∧ ∀ (i : Nat) (hi : i < E.length), p i E[i] := by
  induction n with
  | zero => exact ⟨[], rfl, fun i hi => absurd hi (by simp)⟩
  | succ n ih =>
    obtain ⟨E, h1, h2⟩ := ih fun i hi => h i (by omega)
    obtain ⟨e, he⟩ := h n (by omega)
    refine ⟨E ++ [e], by simp [h1], fun i hi => ?_⟩
    by_cases hin : i < E.length
    · rw [List.getElem_append_left hin]
      exact h2 i hin
    · have : i = n := by simp [h1] at hi hin; omega
      subst this
      rw [List.getElem_append_right (by omega)]
      simpa [h1] using he

theorem wf64_of {n : Int} (h : (Lit.int .i64 n).wf = true) : wf64 n := by
  simp only [Lit.wf, Bool.and_eq_true, decide_eq_true_eq] at h
  exact h

theorem plain_addr {W : World} {x : Addr} {u : Value} (h : W.cell? (x.add 0) = some u) : ∃ b off, x = ⟨b, off, none⟩ ∧ b < W.heap.size ∧ ∀ j, x.add j = ⟨b, off + j, none⟩ := by
  have h' : W.cell? x = some u := h
  obtain ⟨b, off, sp⟩ := x
  have hsp : sp = none := by
    cases sp with
    | none => rfl
    | some y =>
      exfalso
      unfold World.cell? at h'
      split at h'
      · simp at h'
      · cases h'
  subst hsp
  have hadd : ∀ j, (⟨b, off, none⟩ : Addr).add j = ⟨b, off + j, none⟩ := fun j => by unfold Addr.add; split <;> simp_all
  exact ⟨b, off, rfl, World.block_lt_of_cell? W _ h', hadd⟩

set_option maxRecDepth 100000 in
/-- an argument that is a net -/
theorem open_net {H : Type} {enc : TypeId × Value → H} {W : World} {r : Reach} {b0 : Nat} {v : Value} {d : DataW H} {p : List MemPlace} (hv : Value.okWide Tryz.prog W r b0 25 v)
    (h : DataW.Trod enc Tryz.prog W 0 (fun _ => true) true 25 v d p) (hw : (d.weights Tryz.prog 25).all (· ≤ reachBytes) = true) : ∃ V E, NetAt W v V E := by
  obtain ⟨v0, v1, y0, y1, n, rfl, rfl, rfl, t0, t1⟩ := open_agg2 Tryz.underlying25 (by kernel_rfl) (by kernel_rfl) hv h
  have hw2 : (DataW.weightsEach Tryz.prog [22, 23] [y0.1, y1.1]).all (· ≤ reachBytes) = true := by
    have e : DataW.weights Tryz.prog 25 (.agg [y0.1, y1.1]) = DataW.weightsEach Tryz.prog [22, 23] [y0.1, y1.1] := by
      simp [DataW.weights, Tryz.underlying25]
    rw [e] at hw
    exact hw
  have hV : ∃ V, RdI W v0 V := by
    rcases open_ints Tryz.underlying22 Tryz.underlying3 (by kernel_rfl) t0 with ⟨hcs, _⟩ | ⟨x, l, c, zs, hcs, _, hl, hm, hz, hx, hcell, hwz⟩
    · simp only [List.cons.injEq, and_true] at hcs
      subst hcs
      exact ⟨[], RdI.nil W⟩
    · simp only [List.cons.injEq, and_true] at hcs
      subst hcs
      have hz' : zs.length = c := by simpa using hz
      have hsz : zs.length * 8 ≤ 140737488351232 := by
        have hy : y0.1 = .slice (lits .i64 (zs.take l)) (lits .i64 (zs.drop l)) := by rw [hx]
        have := sized_slice hw2 (j := 0) (t := 22) (e := 3) rfl (by rw [hy]; rfl) Tryz.underlying22
        rw [show Tryz.prog.bytesOf 3 = 8 by kernel_rfl] at this
        simp only [lits, List.length_map, List.length_take, List.length_drop] at this
        unfold reachBytes at this
        omega
      have hll : (zs.take l).length = l := by simp; omega
      refine ⟨zs.take l, ⟨some x, c, by rw [hll], fun n hn => ?_, by rw [hll]; omega, fun h0 => ?_⟩⟩
      · exact wf64_of (hwz n (List.mem_of_mem_take hn))
      · have h1 := hcell 0 (by omega)
        obtain ⟨b, off, rfl, hb, hadd⟩ := plain_addr h1
        refine ⟨b, off, rfl, hb, fun j hj => ?_⟩
        have h2 := hcell j (by omega)
        rw [hadd] at h2
        rw [h2, List.getElem_take, List.getD_eq_getElem?_getD, List.getElem?_eq_getElem (by omega)]
        rfl
  have hE : ∃ E, RdE W v1 E := by
    rcases open_slice_fields Tryz.underlying23 Tryz.underlying47 (by kernel_rfl) (by kernel_rfl) t1 with ⟨hcs, _⟩ | ⟨x, l, c, m, D, Pl, hcs, _, hl, hm, hmm, hx, hi⟩
    · simp only [List.cons.injEq, and_true] at hcs
      subst hcs
      exact ⟨[], RdE.nil W⟩
    · simp only [List.cons.injEq, and_true] at hcs
      subst hcs
      have hmc : m = c := by simpa using hmm
      subst hmc
      have hsz : m * 32 ≤ 140737488351232 := by
        have hy : y1.1 = .slice ((List.range l).map D) ((List.range (m - l)).map fun j => D (l + j)) := by rw [hx]
        have := sized_slice hw2 (j := 1) (t := 23) (e := 47) rfl (by rw [← hy]; rfl) Tryz.underlying23
        rw [show Tryz.prog.bytesOf 47 = 32 by kernel_rfl] at this
        simp only [List.length_map, List.length_range] at this
        unfold reachBytes at this
        omega
      have hone : ∀ i, i < l → ∃ e : Edg, e.wf ∧ W.cell? (x.add (i * 4 + 0)) = some (.int .i64 e.id) ∧ W.cell? (x.add (i * 4 + 1)) = some (.int .i64 e.u) ∧ W.cell? (x.add (i * 4 + 2)) = some (.int .i64 e.v) ∧ W.cell? (x.add (i * 4 + 3)) = some (.int .i64 e.w) := by
        intro i hil
        obtain ⟨ys, n', _, _, _, hf⟩ := hi i (by omega)
        obtain ⟨u0, z0, c0, _, q0⟩ := hf 0 _ rfl
        obtain ⟨u1, z1, c1, _, q1⟩ := hf 1 _ rfl
        obtain ⟨u2, z2, c2, _, q2⟩ := hf 2 _ rfl
        obtain ⟨u3, z3, c3, _, q3⟩ := hf 3 _ rfl
        obtain ⟨n0, e0, _, w0⟩ := DataW.trod_int Tryz.underlying3 q0
        obtain ⟨n1, e1, _, w1⟩ := DataW.trod_int Tryz.underlying3 q1
        obtain ⟨n2, e2, _, w2⟩ := DataW.trod_int Tryz.underlying3 q2
        obtain ⟨n3, e3, _, w3⟩ := DataW.trod_int Tryz.underlying2 q3
        simp only [List.cons.injEq, and_true] at e0 e1 e2 e3
        subst e0 e1 e2 e3
        refine ⟨⟨n0, n1, n2, n3⟩, ⟨wf64_of w0, wf64_of w1, wf64_of w2, wf64_of w3⟩, c0, c1, c2, c3⟩
      obtain ⟨E, hEl, hE⟩ := list_of hone
      refine ⟨E, ⟨some x, m, by rw [hEl], fun e he => ?_, by rw [hEl]; omega, fun h0 => ?_⟩⟩
      · obtain ⟨i, hi', rfl⟩ := List.getElem_of_mem he
        exact (hE i hi').1
      · obtain ⟨_, c0, _⟩ := hE 0 h0
        obtain ⟨b, off, rfl, hb, hadd⟩ := plain_addr c0
        refine ⟨b, off, rfl, hb, fun j hj => ?_⟩
        obtain ⟨_, c0, c1, c2, c3⟩ := hE j hj
        rw [hadd] at c0 c1 c2 c3
        exact ⟨c0, c1, c2, c3⟩
  obtain ⟨V, hV⟩ := hV
  obtain ⟨E, hE⟩ := hE
  exact ⟨V, E, ⟨⟨_, _, rfl, hV, hE⟩⟩⟩

end Go.Proofs.YthidhdffiebbgaaGreatDoor
