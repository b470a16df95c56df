/- The card of 'skeinlaw06.PlainTrees': the statement, with what it lists tied to the program's text. -/
import Derived.Test.YthidhdffiebbgaaGreatDoorPlV
import Derived.Test.YthidhdffiebbgaaGreatDoorTie
import Derived.Test.YthidhdffiebbgaaGreatDoorCards
import Derived.SevenTiedAt
namespace Go.Proofs.YthidhdffiebbgaaGreatDoor
open Go

theorem trees_card_holds : Rows.PlainTreesCardSaid :=
  Claim7.holds_tied_plain_at .later [] [.data, .pinned] true (true, "57904f3137111b3009df46ab03a737f2d06d3f98743b88a5906b1a51261afea5") false
    trees_holds (fun _ h => by cases h) (by kernel_rfl) (fun _ h => by cases h) plainTrees_row_tie rfl ⟨rfl, rfl⟩ (by kernel_rfl) rfl
    (fun f fn hf hfn => by
      obtain rfl : f = 7 := Option.some.inj ((show Tryz.prog.funcNamed "skein/skeinlaw06.PlainTrees" = some 7 by kernel_rfl).symm.trans hf) |>.symm
      obtain rfl : fn = Tryz.f7 := (Option.some.inj (Tryz.func7.symm.trans hfn)).symm
      exact ⟨by kernel_rfl, fun j t ht => by
        rw [Tryz.params7] at ht
        have hm : t ∈ [25, 3, 3] := by simpa using Array.mem_of_getElem? ht
        have hall : ([25, 3, 3].all fun u => !Tryz.prog.wantsStandIn u) = true := by kernel_rfl
        exact (show Tryz.prog.wantsStandIn t = false by simpa using List.all_eq_true.1 hall t hm)⟩)
    (by kernel_rfl)
#print axioms trees_card_holds
end Go.Proofs.YthidhdffiebbgaaGreatDoor
