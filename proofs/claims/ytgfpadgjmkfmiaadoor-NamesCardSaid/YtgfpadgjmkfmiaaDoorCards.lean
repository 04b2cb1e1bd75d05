/-
  DERIVED. GIVEN WITH THE SEED: THE CARDS: each row of YtgfpadgjmkfmiaaDoorRows.lean that lists a variable, with what it lists TIED to the program's text (the seventh form; the later family's looks); each row that meets fmt, with fmt's text TOLD by the authors' own Lean function (tested against real Go, not proved from fmt's source: count such statements apart). THE CARD IS WHAT COUNTS. Prove the row's statement (the work); the ties are given (YtgfpadgjmkfmiaaDoorTie.lean); close each card by the builder's one call (the guide's Derived/Test/ToyasCard.lean, 'card_holds'). Laid BY PROGRAM, IN A SANDBOX (cutbox-door.mjs). By AI agents, Wed Nov 11 2026. No macro, syntax, notation, axiom, sorry.
-/
import Derived.Test.YtgfpadgjmkfmiaaDoorRows
import GoSem.ClaimSeven
namespace Go.Proofs.YtgfpadgjmkfmiaaDoor
namespace Rows

/-- THE TIED CARD OF 'flowlinelaw.Names'. -/
def namesCard : Claim7 := { stood := { row := namesRow, standIns := [], harness := (true, "9efe183e31999fe3216dddb4327e7ce9b6d919ceb8584b5fa7af9bf347689b76"), looks := true }, kinds := [], alts := [], laidByText := true, laidKinds := [.handle, .wider, .wider, .wider, .wider, .sentinel, .sentinel, .sentinel], laidTests := true, laidLooks := .later }
def NamesCardSaid : Prop := Claim7.holds Tryd.pinned (.plain (OpenSpec.ofChange namesSpec)) namesCard

/-- THE SECOND FORM's CARD OF 'flowlinelaw.Names'. -/
def namesUptoCard : Claim7 := { stood := { row := namesUptoRow, standIns := [], harness := (true, "9efe183e31999fe3216dddb4327e7ce9b6d919ceb8584b5fa7af9bf347689b76"), looks := true }, kinds := [], alts := [], laidByText := true, laidKinds := [.handle, .wider, .wider, .wider, .wider, .sentinel, .sentinel, .sentinel], laidTests := true, laidLooks := .later }
def NamesUptoCardSaid : Prop := Claim7.holds Tryd.pinned (.plain (OpenSpec.upto namesSpec)) namesUptoCard
end Rows
end Go.Proofs.YtgfpadgjmkfmiaaDoor
