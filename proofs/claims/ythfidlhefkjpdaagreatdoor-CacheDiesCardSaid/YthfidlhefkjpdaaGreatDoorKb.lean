/-
  DERIVED: THE SHELF's CONTRACTS AT THIS DUMP, IN PLAIN WORDS (tools/lay-plain.mjs out of 'YthfidlhefkjpdaaGreatDoorKb.lean', which tools/lay-shelf.mjs wrote): THE SAME DECLARATIONS UNDER THE SAME NAMES: 'import', 'namespace', 'open', 'def', 'theorem' AND NOTHING ELSE: no command of the shelf's: FOR A HAND-IN. Each laying: the table of numbers ('.._ren') and one theorem, a field a fact of the dump's own or the kernel's comparison; each contract: ONE APPLICATION.
-/
import Derived.Shelf.Bits.Mul64
import Derived.Ground.NamesProg
import Derived.Test.YthfidlhefkjpdaaGreatDoorProg
namespace Go.Proofs
open Go.Shelf
def Tryz.laysMul_ren : Go.Shelf.Ren := ⟨fun | 212 => 108 | 263 => 139 | 264 => 140 | n => n, fun | 46 => 139 | 51 => 100 | 146 => 201 | 53 => 136 | 148 => 203 | n => n, fun | n => n⟩
theorem Tryz.laysMul : Go.Proofs.Lays.n212 Tryz.prog Tryz.laysMul_ren := {
  mixed := by kernel_rfl
  f212 := Tryz.func108.trans (congrArg some (by kernel_rfl))
  f263 := Tryz.func139.trans (congrArg some (by kernel_rfl))
  f264 := Tryz.func140.trans (congrArg some (by kernel_rfl))
  t46 := Tryz.underlying139
  a46 := Tryz.isAgg139
  z46 := Tryz.sizeOf139
  v46 := Tryz.zeroValue139
  t51 := Tryz.underlying100
  a51 := Tryz.isAgg100
  z51 := Tryz.sizeOf100
  v51 := Tryz.zeroValue100
  t53 := Tryz.underlying136
  a53 := Tryz.isAgg136
  z53 := Tryz.sizeOf136
  v53 := Tryz.zeroValue136
  t146 := Tryz.underlying201
  a146 := Tryz.isAgg201
  z146 := Tryz.sizeOf201
  v146 := Tryz.zeroValue201
  t148 := Tryz.underlying203
  a148 := Tryz.isAgg203
  z148 := Tryz.sizeOf203
  v148 := Tryz.zeroValue203 }
end Go.Proofs
