/-
  The tied card of the statement Names: its row is proved, and what the row lists is tied to the program's text by the given tie. Condition: the listed package-level variables read as the text lays them, which the card ties.
-/
import Derived.Test.YtgfpadgjmkfmiaaDoorCards
import Derived.Test.YtgfpadgjmkfmiaaDoorTie
import Derived.Test.YtgfpadgjmkfmiaaDoorProof
import Derived.SevenTiedAt
namespace Go.Proofs.YtgfpadgjmkfmiaaDoor
open Go

theorem names_card_holds : Rows.NamesCardSaid :=
  Claim7.holds_tied_plain_at .later [] [.handle, .wider, .wider, .wider, .wider, .sentinel, .sentinel, .sentinel] true (true, "9efe183e31999fe3216dddb4327e7ce9b6d919ceb8584b5fa7af9bf347689b76") true
    names_holds (fun _ h => by cases h) (by kernel_rfl) (fun _ h => by cases h) names_row_tie rfl ⟨rfl, rfl⟩ (by kernel_rfl) rfl
    (fun f fn hf hfn => by
      obtain rfl : f = 3 := Option.some.inj ((show Tryd.prog.funcNamed "flowline/flowlinelaw.Names" = some 3 by kernel_rfl).symm.trans hf) |>.symm
      obtain rfl : fn = Tryd.f3 := (Option.some.inj (Tryd.func3.symm.trans hfn)).symm
      exact ⟨by kernel_rfl, fun j t ht => by
        rw [Tryd.params3] at ht
        simp at ht⟩)
    (by kernel_rfl)
#print axioms names_card_holds
end Go.Proofs.YtgfpadgjmkfmiaaDoor
