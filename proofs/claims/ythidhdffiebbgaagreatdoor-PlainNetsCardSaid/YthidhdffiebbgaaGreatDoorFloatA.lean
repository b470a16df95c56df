/- Comparisons of structs and of complex numbers that the laws make. -/
import Derived.Test.YthidhdffiebbgaaGreatDoorPathB
import Derived.Laws.StructEq
namespace Go.Proofs.YthidhdffiebbgaaGreatDoor
open Go.RowKit Go.Proofs.YthidhdffiebbgaaGreatDoor.Sk

theorem datum_self (d : Ieee.Datum) (h : d.isNaN = false) : d.order d = some .eq := by
  cases d with
  | nan s t => simp [Ieee.Datum.isNaN] at h
  | infinity s => simp [Ieee.Datum.order]
  | number s m i => simp [Ieee.Datum.order]

theorem order_self (f : Ieee.Format) (r : Nat) (h : r ≤ f.infRung) : f.order r r = some .eq := by
  have h1 : r < f.signWeight := Nat.lt_of_le_of_lt h f.infRung_lt
  refine datum_self _ ?_
  unfold Ieee.Format.read
  rw [Nat.mod_eq_of_lt h1]
  dsimp only
  split
  · rfl
  · split
    · rfl
    · split
      · rfl
      · omega

theorem word_false (f : Ieee.Format) (r : Nat) : f.word false r = r := by simp [Ieee.Format.word]
theorem nearest_le (f : Ieee.Format) (mag : Nat) (place : Int) : f.nearest false mag place ≤ f.infRung := by
  unfold Ieee.Format.nearest
  dsimp only
  split
  · rw [word_false]; exact Nat.zero_le _
  · rw [word_false]; exact Nat.min_le_right _ _

/-- a whole number that is not below nought is a float that equals itself -/
theorem float_self {n : Int} (hn : 0 ≤ n) : FloatKind.f64.format.order (floatOfInt .f64 n) (floatOfInt .f64 n) = some .eq := by
  have hd : decide (n < 0) = false := by simp; omega
  have e : floatOfInt .f64 n = FloatKind.f64.format.nearest false n.natAbs 0 := by
    unfold floatOfInt FloatKind.nearest FloatKind.encode
    rw [hd]
    rfl
  rw [e]
  exact order_self _ _ (nearest_le _ _ _)

theorem eql48 {a b : Int} (ha : 0 ≤ a) (hb : 0 ≤ b) (w : World) :
    (binOp .eql 48 (.complex .f64 (floatOfInt .f64 a) (floatOfInt .f64 b)) (.complex .f64 (floatOfInt .f64 a) (floatOfInt .f64 b))).run Tryz.prog w = .ok (.bool true) w := by
  rw [run_eql_complex, float_self ha, float_self hb]
  rfl

theorem part3_0 (a b c d : Value) (w : World) : (part 3 #[a, b, c, d] 0).run Tryz.prog w = .ok a w := by kernel_rfl
theorem part3_1 (a b c d : Value) (w : World) : (part 3 #[a, b, c, d] 1).run Tryz.prog w = .ok b w := by kernel_rfl
theorem part3_2 (a b c d : Value) (w : World) : (part 3 #[a, b, c, d] 2).run Tryz.prog w = .ok c w := by kernel_rfl
theorem part2_3 (a b c d : Value) (w : World) : (part 2 #[a, b, c, d] 3).run Tryz.prog w = .ok d w := by kernel_rfl

theorem eql47 (x : Edg) (w : World) : (binOp .eql 47 (valE x) (valE x)).run Tryz.prog w = .ok (.bool true) w := by
  unfold valE
  have e3 : ∀ n : Int, (Op.equalIn 9999 3 (.int .i64 n) (.int .i64 n)).run Tryz.prog w = .ok true w := fun n => by
    rw [run_equalIn_int w 9998 3 .i64 .i64 n n Tryz.underlying3]; simp
  have e2 : ∀ n : Int, (Op.equalIn 9999 2 (.int .i64 n) (.int .i64 n)).run Tryz.prog w = .ok true w := fun n => by
    rw [run_equalIn_int w 9998 2 .i64 .i64 n n Tryz.underlying2]; simp
  rw [run_eql_struct, run_equalIn_struct _ _ _ _ _ (by kernel_rfl) (by kernel_rfl)]
  simp [Program.fieldsOf, Tryz.underlying47, Op.eqFields, Sem.run_bind, Result.andThen, part3_0, part3_1, part3_2, part2_3, e3, e2]

theorem eql50_zero (w : World) : (binOp .eql 50 (.agg (cells5 zE 0 0)) (.agg (cells5 zE 0 0))).run Tryz.prog w = .ok (.bool true) w := by
  kernel_rfl

end Go.Proofs.YthidhdffiebbgaaGreatDoor
