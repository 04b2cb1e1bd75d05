/-
  DERIVED. GIVEN WITH THE SEED: THE PROGRAM's TIES (one call each: nine closed facts by the kernel) AND EACH ROW's TIE, after the 31st guide's Derived/Test/Toyas{Tie, Card}.lean. No idea stands in it: it is a product of the set-up. Laid BY PROGRAM, IN A SANDBOX (cutbox-door.mjs). By AI agents, Wed Nov 11 2026. No macro, syntax, notation, axiom, sorry.
-/
import Derived.Test.YtgfpadgjmkfmiaaDoorRows
import Derived.LaidByTextLater
import Derived.SevenTiedAt
import Derived.LaidSub
import Derived.LaidOnce
namespace Go.Proofs.YtgfpadgjmkfmiaaDoor
open Go
set_option maxRecDepth 100000
theorem seatTie1 : Tryd.prog.laidByTextLater [("errors.errorType", Rows.laid_errors_errorType), ("flowline/flow.ErrKind", Rows.laid_flowline_flow_ErrKind), ("flowline/flow.ErrBig", Rows.laid_flowline_flow_ErrBig), ("flowline/flow.ErrPanic", Rows.laid_flowline_flow_ErrPanic), ("flowline/flow.ErrNone", Rows.laid_flowline_flow_ErrNone), ("flowline/flow.ErrSyntax", Rows.laid_flowline_flow_ErrSyntax), ("flowline/flow.ErrLong", Rows.laid_flowline_flow_ErrLong), ("flowline/flow.ErrMany", Rows.laid_flowline_flow_ErrMany)] [.handle, .wider, .wider, .wider, .wider, .sentinel, .sentinel, .sentinel] true :=
  Program.laidByTextLater_by_one 169 8 2 (by kernel_rfl) (by kernel_rfl) (by kernel_rfl) (by kernel_rfl) (by kernel_rfl) (by kernel_rfl) (fun _ _ => by kernel_rfl)
theorem noOwnUnsafe : Tryd.pinned.checked.prog.headLifts.contains "ownunsafe" = false := by kernel_rfl
theorem tie : Tryd.prog.laidByTextLater [("errors.errorType", Rows.laid_errors_errorType), ("flowline/flow.ErrKind", Rows.laid_flowline_flow_ErrKind), ("flowline/flow.ErrBig", Rows.laid_flowline_flow_ErrBig), ("flowline/flow.ErrPanic", Rows.laid_flowline_flow_ErrPanic), ("flowline/flow.ErrNone", Rows.laid_flowline_flow_ErrNone), ("flowline/flow.ErrSyntax", Rows.laid_flowline_flow_ErrSyntax), ("flowline/flow.ErrLong", Rows.laid_flowline_flow_ErrLong), ("flowline/flow.ErrMany", Rows.laid_flowline_flow_ErrMany)] [.handle, .wider, .wider, .wider, .wider, .sentinel, .sentinel, .sentinel] true :=
  Program.laidByTextLater.sub seatTie1 ["errors.errorType", "flowline/flow.ErrKind", "flowline/flow.ErrBig", "flowline/flow.ErrPanic", "flowline/flow.ErrNone", "flowline/flow.ErrSyntax", "flowline/flow.ErrLong", "flowline/flow.ErrMany"] (by kernel_rfl) (by kernel_rfl)
theorem names_row_tie : Rows.namesRow.laidByTextAt .later Tryd.pinned [.handle, .wider, .wider, .wider, .wider, .sentinel, .sentinel, .sentinel] true :=
  OpenClaim.laidByTextAt_later rfl rfl tie noOwnUnsafe
theorem namesUpto_row_tie : Rows.namesUptoRow.laidByTextAt .later Tryd.pinned [.handle, .wider, .wider, .wider, .wider, .sentinel, .sentinel, .sentinel] true :=
  OpenClaim.laidByTextAt_later rfl rfl tie noOwnUnsafe
end Go.Proofs.YtgfpadgjmkfmiaaDoor
