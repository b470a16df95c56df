/- Own layer over the kit's maps: a map block keyed by an int, seen as a function from numbers to values, at every element type. -/
import Derived.WalkKit
import Derived.WalkSpells
import Derived.Maps.OwnSet
import Derived.Maps.AppendAt
namespace Go.Proofs.YthidhdffiebbgaaGreatDoor.Sk
open Go.RowKit Go.Maps

abbrev DV := DataW Value
def heldV (v : Value) : Option (DV × List MemPlace) := some (.held v, [])
def valAt (D : DV) (k : Int) : Option Value := match D.atKey (.int .i64 k) .nil with | .held v => some v | _ => none
def upd (m : Int → Option Value) (k : Int) (v : Value) : Int → Option Value := fun j => if j = k then some v else m j
def wf64 (k : Int) : Prop := -9223372036854775808 ≤ k ∧ k ≤ 9223372036854775807
theorem wf64_lit {k : Int} (h : wf64 k) : (Lit.int .i64 k).wf = true := by
  obtain ⟨h1, h2⟩ := h
  simp only [Lit.wf, Bool.and_eq_true, decide_eq_true_eq]
  exact ⟨h1, h2⟩

/-- Block b of w is a map keyed by ints (type kt) of at most n entries that holds m. -/
def MapAt (P : Program) (kt : TypeId) (w : World) (b n : Nat) (m : Int → Option Value) : Prop :=
  ∃ D : DV, w.ownsMap P kt heldV b n D ∧ (∀ k z, D.atKey (.int .i64 k) z = match m k with | some v => .held v | none => z) ∧ (∀ k, Maps.has D (.int .i64 k) = (m k).isSome)

variable {P : Program} {kt : TypeId} {w w' : World} {b n : Nat} {m : Int → Option Value}

theorem MapAt.made (P : Program) (kt : TypeId) (w : World) : MapAt P kt (w.alloc (.map #[] 0)) w.heap.size 0 (fun _ => none) :=
  ⟨.map [], World.ownsMap_made _ _ _ _, fun _ _ => rfl, fun _ => rfl⟩

theorem MapAt.lt (h : MapAt P kt w b n m) : b < w.heap.size := by
  obtain ⟨D, h1, _⟩ := h
  exact h1.lt

theorem MapAt.mono {n' : Nat} (h : MapAt P kt w b n m) (hn : n ≤ n') : MapAt P kt w b n' m := by
  obtain ⟨D, h1, h2⟩ := h
  exact ⟨D, h1.mono hn, h2⟩

theorem MapAt.kept {row : Option Nat} (h : MapAt P kt w b n m) (hg : w.grownBy w' row) (hne : some b ≠ row) : MapAt P kt w' b n m := by
  obtain ⟨D, h1, h2⟩ := h
  exact ⟨D, h1.kept hg hne, h2⟩

theorem MapAt.block (h : MapAt P kt w b n m) (hb : w'.heap[b]? = w.heap[b]?) : MapAt P kt w' b n m := by
  obtain ⟨D, ⟨es, c, h1, h3⟩, h2⟩ := h
  exact ⟨D, ⟨es, c, hb.trans h1, h3⟩, h2⟩

theorem MapAt.below {B : Nat} (h : MapAt P kt w b n m) (hb : Below B w w') (hlt : b < B) : MapAt P kt w' b n m := h.block (hb.block b hlt)

theorem MapAt.alloc (h : MapAt P kt w b n m) (o : Obj) : MapAt P kt (w.alloc o) b n m := h.kept (World.grownBy_alloc w o none) (by simp)

theorem MapAt.look {t e : TypeId} (h : MapAt P kt w b n m) (hk : P.underlying kt = some (.int .i64)) (ht : P.underlying t = some (.map kt e)) {z : Value} (hz : (zeroValue e).run P w = .ok z w) {k : Int} (hwf : wf64 k) :
    (Instr.lookup t (.map (some b)) (.int .i64 k) false).run P w = .ok ((m k).getD z) w := by
  obtain ⟨D, h1, h2, h3⟩ := h
  obtain ⟨v, ps, hrun, hv⟩ := h1.lookup (int_keyed hk) ht hz (zd := .held z) (zp := []) rfl (keyOf_int_mk hk (wf64_lit hwf))
  rw [hrun]
  rw [h2] at hv
  simp only [heldV] at hv
  cases hm : m k <;> rw [hm] at hv <;> simp at hv <;> rw [hv.1] <;> rfl

theorem MapAt.look_ok {t e : TypeId} (h : MapAt P kt w b n m) (hk : P.underlying kt = some (.int .i64)) (ht : P.underlying t = some (.map kt e)) {z : Value} (hz : (zeroValue e).run P w = .ok z w) {k : Int} (hwf : wf64 k) :
    (Instr.lookup t (.map (some b)) (.int .i64 k) true).run P w = .ok (.tuple #[(m k).getD z, .bool (m k).isSome]) w := by
  obtain ⟨D, h1, h2, h3⟩ := h
  obtain ⟨v, ps, hrun, hv⟩ := h1.look_ok (int_keyed hk) ht hz (zd := .held z) (zp := []) rfl (keyOf_int_mk hk (wf64_lit hwf))
  rw [hrun]
  rw [h2] at hv
  simp only [heldV] at hv
  rw [h3]
  cases hm : m k <;> rw [hm] at hv <;> simp at hv <;> rw [hv.1] <;> rfl

theorem MapAt.store {t e : TypeId} (h : MapAt P kt w b n m) (hk : P.underlying kt = some (.int .i64)) (ht : P.underlying t = some (.map kt e)) (hn : n < maxLen) {k : Int} (hwf : wf64 k) (v : Value) :
    ∃ w', (Instr.mapUpdate t (.map (some b)) (.int .i64 k) v).run P w = .ok () w' ∧ MapAt P kt w' b (n + 1) (upd m k v) ∧ w.mapTurned w' b := by
  obtain ⟨D, h1, h2, h3⟩ := h
  obtain ⟨w', hrun, ho, ht'⟩ := h1.store (int_keyed hk) ht hn (keyOf_int_mk hk (wf64_lit hwf)) (val := v) (d := .held v) (ps := []) rfl
  have hi := h1.isMap
  refine ⟨w', hrun, ⟨_, ho, fun j z => ?_, fun j => ?_⟩, ht'⟩
  · by_cases hj : j = k
    · subst hj
      rw [atKey_put_same hi (show WideAt.IsKeyLit (.int .i64 j) from trivial)]
      simp [upd]
    · rw [atKey_put_other (by simp [hj]), h2]
      simp [upd, hj]
  · by_cases hj : j = k
    · subst hj
      rw [has_put_same hi (show WideAt.IsKeyLit (.int .i64 j) from trivial)]
      simp [upd]
    · rw [has_put_other (by simp [hj]), h3]
      simp [upd, hj]

section
variable {ops : Array Oper} {rest : List Oper} {o : Oper} {a : Act} {Q : Exit → Act → World → Prop}

/-- 'v, ok := m[k]' at the operation. -/
theorem wpList_look_ok (w : World) (hg : o.guard = none) (mo x : Operand) (t : TypeId) (hop : o.op = Op.lookup t mo x true) (kt e : TypeId) (hk : P.underlying kt = some (.int .i64)) (ht : P.underlying t = some (.map kt e))
    {z : Value} (hz : (zeroValue e).run P w = .ok z w) (b n : Nat) (m : Int → Option Value) (hm : a.eval mo = .map (some b)) (hown : MapAt P kt w b n m) (k : Int) (hx : a.eval x = .int .i64 k) (hwf : wf64 k)
    (hK : wpList P ops Q rest (a.put o.dst (.tuple #[(m k).getD z, .bool (m k).isSome])) w) : wpList P ops Q (o :: rest) a w := by
  refine wpList_plain hg fun K' hK' => ?_
  have hrun := hown.look_ok hk ht hz hwf
  unfold Oper.wp
  simp [execOp, hop, hm, hx, hrun, Result.andThen]
  exact hK' _ _ hK

theorem wpList_look (w : World) (hg : o.guard = none) (mo x : Operand) (t : TypeId) (hop : o.op = Op.lookup t mo x false) (kt e : TypeId) (hk : P.underlying kt = some (.int .i64)) (ht : P.underlying t = some (.map kt e))
    {z : Value} (hz : (zeroValue e).run P w = .ok z w) (b n : Nat) (m : Int → Option Value) (hm : a.eval mo = .map (some b)) (hown : MapAt P kt w b n m) (k : Int) (hx : a.eval x = .int .i64 k) (hwf : wf64 k)
    (hK : wpList P ops Q rest (a.put o.dst ((m k).getD z)) w) : wpList P ops Q (o :: rest) a w := by
  refine wpList_plain hg fun K' hK' => ?_
  have hrun := hown.look hk ht hz hwf
  unfold Oper.wp
  simp [execOp, hop, hm, hx, hrun, Result.andThen]
  exact hK' _ _ hK

/-- 'm[k] = v' at the operation. -/
theorem wpList_upd (w : World) (hg : o.guard = none) (mo x vo : Operand) (t : TypeId) (hop : o.op = Op.mapUpdate t mo x vo) (kt e : TypeId) (hk : P.underlying kt = some (.int .i64)) (ht : P.underlying t = some (.map kt e))
    (b n : Nat) (m : Int → Option Value) (hm : a.eval mo = .map (some b)) (hown : MapAt P kt w b n m) (hn : n < maxLen) (k : Int) (hx : a.eval x = .int .i64 k) (hwf : wf64 k) (v : Value) (hv : a.eval vo = v)
    (hK : ∀ w', MapAt P kt w' b (n + 1) (upd m k v) → w.mapTurned w' b → wpList P ops Q rest (a.put o.dst undef) w') : wpList P ops Q (o :: rest) a w := by
  refine wpList_plain hg fun K' hK' => ?_
  obtain ⟨w', hrun, r1, r2⟩ := hown.store hk ht hn hwf v
  unfold Oper.wp
  simp [execOp, hop, hm, hx, hv, hrun, Result.andThen]
  exact hK' _ _ (hK w' r1 r2)
end

end Go.Proofs.YthidhdffiebbgaaGreatDoor.Sk
