/-
  NARROWER THAN 'FOR EVERY INPUT', by the rows' own cells (each row's printed sentence says how): Parses: calm, laid · Generics: calm.
  DERIVED. THE GIVEN ROWS OF THIS SEAT. 2 by the template 'for every input the law returns true; each argument reads behind the call as it read before'; 0 by the template 'total and deterministic' (their statements: YtgfpadgjmkfmiaaGreatDoorTotals.lean).
  GIVEN WITH THE SEED: the statements are not yours to turn. If you find one false, say at which input.
  Laid BY PROGRAM, IN A SANDBOX (cutbox-rows.mjs): the forced cells as the released guide's own fill.sh prints them over the translation c12318635860f4e5… (all of the seat's roots in one cut). By AI agents, Wed Nov 11 2026. No macro, syntax, notation, axiom, sorry.
-/
import Derived.Test.YtgfpadgjmkfmiaaGreatDoorChecked
import GoSem.Claim
import GoSem.ClaimJoined
import GoSem.ClaimMapViews
import Derived.JoinedTies
import Derived.KernelRfl
namespace Go.Proofs.YtgfpadgjmkfmiaaGreatDoor
/- THE CELL 'sum', in the pinned program and in every row, IS THE sha256 OF THE DUMP (.gsa) THAT YtgfpadgjmkfmiaaGreatDoorProg.lean LOADS. Nothing in Lean hashes anything: it is a label: what it is worth is what the hold of that sum in a sandbox is worth. -/
noncomputable def Tryz.pinned : Pinned := { name := "ytgfpadgjmkfmiaagreatdoor", sum := "c12318635860f4e5cfce62876020e891d4273c14a5ba46e3c934ce9e6d343a54", checked := Tryz.checked }
namespace Rows
def none {H : Type} : Left H := { results := [], args := [] }

/- WHAT THE LISTED PACKAGE-LEVEL VARIABLES READ AS WHEN THE CALL BEGINS. Each datum BY PROGRAM (the guide's laid-datum.mjs) off the statement by which the dump's own 'gosem.cut.vars' lays the variable. In a bare row this is a premise. The card (YtgfpadgjmkfmiaaGreatDoorCards.lean) ties it to the program's text. -/
def laid_errors_errorType {H : Type} : DataW H := .iface "internal/reflectlite.rtype" (.agg [.ptr (.lit (.string [101, 114, 114, 111, 114]))])
def laid_flowline_flow_ErrKind {H : Type} : DataW H := .iface "*errors.errorString" (.ptr (.agg [.lit (.string [97, 32, 118, 97, 108, 117, 101, 32, 111, 102, 32, 116, 104, 101, 32, 119, 114, 111, 110, 103, 32, 107, 105, 110, 100])]))
def laid_flowline_flow_ErrBig {H : Type} : DataW H := .iface "*errors.errorString" (.ptr (.agg [.lit (.string [97, 32, 119, 97, 118, 101, 32, 116, 104, 97, 116, 32, 105, 115, 32, 116, 111, 111, 32, 98, 105, 103])]))
def laid_flowline_flow_ErrPanic {H : Type} : DataW H := .iface "*errors.errorString" (.ptr (.agg [.lit (.string [97, 32, 102, 117, 110, 99, 116, 105, 111, 110, 32, 112, 97, 110, 105, 99, 107, 101, 100])]))
def laid_flowline_flow_ErrNone {H : Type} : DataW H := .iface "*errors.errorString" (.ptr (.agg [.lit (.string [110, 111, 32, 118, 97, 108, 117, 101])]))
def laid_flowline_flow_ErrSyntax {H : Type} : DataW H := .iface "*errors.errorString" (.ptr (.agg [.lit (.string [110, 111, 32, 108, 105, 110, 101])]))
def laid_flowline_flow_ErrLong {H : Type} : DataW H := .iface "*errors.errorString" (.ptr (.agg [.lit (.string [97, 32, 116, 101, 120, 116, 32, 116, 104, 97, 116, 32, 105, 115, 32, 116, 111, 111, 32, 108, 111, 110, 103])]))
def laid_flowline_flow_ErrMany {H : Type} : DataW H := .iface "*errors.errorString" (.ptr (.agg [.lit (.string [116, 111, 111, 32, 109, 97, 110, 121, 32, 115, 116, 97, 103, 101, 115])]))
def laid_flowline_flow_heads {H : Type} : DataW H := .slice [.agg [.lit (.string [97, 100, 100]), .lit (.int .i64 1), .lit (.int .i64 (-999)), .lit (.int .i64 999)], .agg [.lit (.string [109, 117, 108]), .lit (.int .i64 1), .lit (.int .i64 (-999)), .lit (.int .i64 999)], .agg [.lit (.string [101, 118, 101, 110]), .lit (.int .i64 0), .lit (.int .i64 0), .lit (.int .i64 0)], .agg [.lit (.string [105, 110, 116, 115]), .lit (.int .i64 0), .lit (.int .i64 0), .lit (.int .i64 0)], .agg [.lit (.string [119, 111, 114, 100, 115]), .lit (.int .i64 0), .lit (.int .i64 0), .lit (.int .i64 0)], .agg [.lit (.string [119, 97, 118, 101, 115]), .lit (.int .i64 0), .lit (.int .i64 0), .lit (.int .i64 0)], .agg [.lit (.string [116, 117, 114, 110]), .lit (.int .i64 0), .lit (.int .i64 0), .lit (.int .i64 0)], .agg [.lit (.string [108, 101, 110]), .lit (.int .i64 0), .lit (.int .i64 0), .lit (.int .i64 0)], .agg [.lit (.string [112, 97, 105, 114]), .lit (.int .i64 0), .lit (.int .i64 0), .lit (.int .i64 0)], .agg [.lit (.string [115, 112, 105, 110]), .lit (.int .i64 1), .lit (.int .i64 (-999)), .lit (.int .i64 999)], .agg [.lit (.string [110, 111, 114, 109]), .lit (.int .i64 0), .lit (.int .i64 0), .lit (.int .i64 0)], .agg [.lit (.string [100, 102, 116]), .lit (.int .i64 0), .lit (.int .i64 0), .lit (.int .i64 0)], .agg [.lit (.string [115, 117, 109]), .lit (.int .i64 1), .lit (.int .i64 1), .lit (.int .i64 9)], .agg [.lit (.string [102, 111, 108, 100]), .lit (.int .i64 4), .lit (.int .i64 0), .lit (.int .i64 0)], .agg [.lit (.string [115, 111, 114, 116]), .lit (.int .i64 0), .lit (.int .i64 0), .lit (.int .i64 0)], .agg [.lit (.string [99, 111, 117, 110, 116]), .lit (.int .i64 0), .lit (.int .i64 0), .lit (.int .i64 0)], .agg [.lit (.string [116, 97, 107, 101]), .lit (.int .i64 1), .lit (.int .i64 0), .lit (.int .i64 99)], .agg [.lit (.string [115, 107, 105, 112]), .lit (.int .i64 1), .lit (.int .i64 0), .lit (.int .i64 99)], .agg [.lit (.string [116, 119, 105, 99, 101]), .lit (.int .i64 0), .lit (.int .i64 0), .lit (.int .i64 0)], .agg [.lit (.string [98, 111, 116, 104]), .lit (.int .i64 3), .lit (.int .i64 0), .lit (.int .i64 0)], .agg [.lit (.string [112, 97, 114]), .lit (.int .i64 2), .lit (.int .i64 1), .lit (.int .i64 4)]] []

/-- 'flowlinelaw.Parses': WHATEVER THE INPUT: true; the input reads as it did. -/
def parsesSpec : ChangeSpec := { name := "parses", fn := fun _ => fun
  | [d] => { results := [.lit (.bool true)], args := [d] }
  | _ => none }
def parsesRow : OpenClaim := { program := "ytgfpadgjmkfmiaagreatdoor", sum := "c12318635860f4e5cfce62876020e891d4273c14a5ba46e3c934ce9e6d343a54", func := "flowline/flowlinelaw.Parses", spec := "parses", inPlace := ["internal/reflectlite.TypeOf", "internal/reflectlite.ValueOf", "(internal/reflectlite.Value).Type", "(internal/reflectlite.Value).IsNil", "(internal/reflectlite.Value).Elem", "(internal/reflectlite.Value).Set", "(*sync.WaitGroup).Add", "internal/race.ReleaseMerge", "internal/race.Disable", "internal/race.Enable", "internal/synctest.IsInBubble", "internal/synctest.Associate[sync.WaitGroup]", "sync.fatal", "sync/atomic.OrUint64", "sync/atomic.AddUint64", "internal/race.Read", "sync/atomic.LoadUint64", "sync/atomic.StoreUint64", "internal/synctest.Disassociate[sync.WaitGroup]", "sync.runtime_Semrelease", "(*sync.WaitGroup).Done", "(*sync.WaitGroup).Wait", "internal/race.Acquire", "internal/synctest.IsAssociated[sync.WaitGroup]", "sync/atomic.CompareAndSwapUint64", "internal/race.Write", "sync.runtime_SemacquireWaitGroup", "(*internal/sync.Mutex).Lock", "sync/atomic.CompareAndSwapInt32", "(*internal/sync.Mutex).lockSlow", "internal/sync.runtime_canSpin", "internal/sync.runtime_doSpin", "internal/sync.throw", "internal/sync.runtime_nanotime", "internal/sync.runtime_SemacquireMutex", "sync/atomic.AddInt32", "(*internal/sync.Mutex).Unlock", "(*internal/sync.Mutex).unlockSlow", "internal/sync.fatal", "internal/sync.runtime_Semrelease"], unfollowed := true, recurses := true, named := ["flowline/flow.ErrLong", "flowline/flow.ErrMany", "flowline/flow.heads", "flowline/stage.table", "flowline/flow.ErrSyntax", "flowline/flow.ErrKind", "flowline/flow.ErrBig", "flowline/flow.ErrPanic", "flowline/flow.ErrNone", "errors.errorType", "flowline/stage.ErrNone", "flowline/stage.ErrPanic"], plainKeys := false, leaving := true, apart := false, calm := true, outside := [.timePasses], laid := [("errors.errorType", laid_errors_errorType), ("flowline/flow.ErrKind", laid_flowline_flow_ErrKind), ("flowline/flow.ErrBig", laid_flowline_flow_ErrBig), ("flowline/flow.ErrPanic", laid_flowline_flow_ErrPanic), ("flowline/flow.ErrNone", laid_flowline_flow_ErrNone), ("flowline/flow.ErrSyntax", laid_flowline_flow_ErrSyntax), ("flowline/flow.ErrLong", laid_flowline_flow_ErrLong), ("flowline/flow.ErrMany", laid_flowline_flow_ErrMany), ("flowline/flow.heads", laid_flowline_flow_heads)] }
def ParsesSaid : Prop := parsesRow.holds Tryz.pinned (OpenSpec.ofChange parsesSpec)

/-- ITS FALSE NEIGHBOUR: 'it returns false'. Refute it at one input. -/
def parsesWrong : ChangeSpec := { name := "parses", fn := fun _ => fun
  | [d] => { results := [.lit (.bool false)], args := [d] }
  | _ => none }
def ParsesWrongFalsely : Prop := parsesRow.holds Tryz.pinned (OpenSpec.ofChange parsesWrong)

/-- 'flowlinelaw.Generics': WHATEVER THE INPUT: true; the input reads as it did. -/
def genericsSpec : ChangeSpec := { name := "generics", fn := fun _ => fun
  | [d] => { results := [.lit (.bool true)], args := [d] }
  | _ => none }
def genericsRow : OpenClaim := { program := "ytgfpadgjmkfmiaagreatdoor", sum := "c12318635860f4e5cfce62876020e891d4273c14a5ba46e3c934ce9e6d343a54", func := "flowline/flowlinelaw.Generics", spec := "generics", inPlace := ["internal/reflectlite.TypeOf", "internal/reflectlite.ValueOf", "(internal/reflectlite.Value).Type", "(internal/reflectlite.Value).IsNil", "(internal/reflectlite.Value).Elem", "(internal/reflectlite.Value).Set", "(*sync.WaitGroup).Add", "internal/race.ReleaseMerge", "internal/race.Disable", "internal/race.Enable", "internal/synctest.IsInBubble", "internal/synctest.Associate[sync.WaitGroup]", "sync.fatal", "sync/atomic.OrUint64", "sync/atomic.AddUint64", "internal/race.Read", "sync/atomic.LoadUint64", "sync/atomic.StoreUint64", "internal/synctest.Disassociate[sync.WaitGroup]", "sync.runtime_Semrelease", "(*sync.WaitGroup).Done", "(*sync.WaitGroup).Wait", "internal/race.Acquire", "internal/synctest.IsAssociated[sync.WaitGroup]", "sync/atomic.CompareAndSwapUint64", "internal/race.Write", "sync.runtime_SemacquireWaitGroup", "(*internal/sync.Mutex).Lock", "sync/atomic.CompareAndSwapInt32", "(*internal/sync.Mutex).lockSlow", "internal/sync.runtime_canSpin", "internal/sync.runtime_doSpin", "internal/sync.throw", "internal/sync.runtime_nanotime", "internal/sync.runtime_SemacquireMutex", "sync/atomic.AddInt32", "(*internal/sync.Mutex).Unlock", "(*internal/sync.Mutex).unlockSlow", "internal/sync.fatal", "internal/sync.runtime_Semrelease"], unfollowed := true, recurses := true, named := ["flowline/flow.ErrLong", "flowline/flow.ErrMany", "flowline/flow.heads", "flowline/stage.table", "flowline/flow.ErrSyntax", "flowline/flow.ErrKind", "flowline/flow.ErrBig", "flowline/flow.ErrPanic", "flowline/flow.ErrNone", "errors.errorType", "flowline/stage.ErrNone", "flowline/stage.ErrPanic"], plainKeys := false, leaving := true, apart := false, calm := true, outside := [.timePasses] }
def GenericsSaid : Prop := genericsRow.holds Tryz.pinned (OpenSpec.ofChange genericsSpec)

/-- ITS FALSE NEIGHBOUR: 'it returns false'. Refute it at one input. -/
def genericsWrong : ChangeSpec := { name := "generics", fn := fun _ => fun
  | [d] => { results := [.lit (.bool false)], args := [d] }
  | _ => none }
def GenericsWrongFalsely : Prop := genericsRow.holds Tryz.pinned (OpenSpec.ofChange genericsWrong)

/- THE SECOND FORM. 'bulk': how many values and letters a reading holds, each counted each time it is reached (what is shared counts as often as it is met; a slice's spare places count too). A statement '..UptoSaid' is the law's where the arguments, and the package variables that the reading takes, are together of bulk at most 1048576: NARROWER than '..Said'. Prove '..Said' where nothing that the law and all that it calls make is longer than what came in: it says more and counts as full. Else prove '..UptoSaid'. A law counts once. -/
mutual
def uptoBulk {H : Type} : DataW H → Nat
  | .lit (.string bytes) => bytes.length + 1
  | .lit _ => 1
  | .nil => 1
  | .ptr d => uptoBulk d + 1
  | .slice elems spare => uptoBulkAll elems + uptoBulkAll spare + 1
  | .agg parts => uptoBulkAll parts + 1
  | .iface _ d => uptoBulk d + 1
  | .map entries => uptoBulkEntries entries + 1
  | .held _ => 1
def uptoBulkAll {H : Type} : List (DataW H) → Nat
  | [] => 0
  | d :: r => uptoBulk d + uptoBulkAll r
def uptoBulkEntries {H : Type} : List (Lit × DataW H) → Nat
  | [] => 0
  | x :: r => uptoBulkEntry x + uptoBulkEntries r
def uptoBulkEntry {H : Type} : Lit × DataW H → Nat
  | (.string bytes, d) => bytes.length + uptoBulk d + 1
  | (_, d) => uptoBulk d + 1
 end
def uptoSmall : (H : Type) → List (DataW H) → Bool := fun _ ds => decide (uptoBulkAll ds ≤ 1048576)
def OpenSpec.upto (s : _root_.Go.ChangeSpec) : _root_.Go.OpenSpec := { _root_.Go.OpenSpec.ofChange s with cond := some uptoSmall }

/-- 'flowlinelaw.Generics', WHERE WHAT IT READS IS OF BULK AT MOST 1048576: true; the input reads as it did. -/
def genericsUptoRow : OpenClaim := { program := "ytgfpadgjmkfmiaagreatdoor", sum := "c12318635860f4e5cfce62876020e891d4273c14a5ba46e3c934ce9e6d343a54", func := "flowline/flowlinelaw.Generics", spec := "generics", inPlace := ["internal/reflectlite.TypeOf", "internal/reflectlite.ValueOf", "(internal/reflectlite.Value).Type", "(internal/reflectlite.Value).IsNil", "(internal/reflectlite.Value).Elem", "(internal/reflectlite.Value).Set", "(*sync.WaitGroup).Add", "internal/race.ReleaseMerge", "internal/race.Disable", "internal/race.Enable", "internal/synctest.IsInBubble", "internal/synctest.Associate[sync.WaitGroup]", "sync.fatal", "sync/atomic.OrUint64", "sync/atomic.AddUint64", "internal/race.Read", "sync/atomic.LoadUint64", "sync/atomic.StoreUint64", "internal/synctest.Disassociate[sync.WaitGroup]", "sync.runtime_Semrelease", "(*sync.WaitGroup).Done", "(*sync.WaitGroup).Wait", "internal/race.Acquire", "internal/synctest.IsAssociated[sync.WaitGroup]", "sync/atomic.CompareAndSwapUint64", "internal/race.Write", "sync.runtime_SemacquireWaitGroup", "(*internal/sync.Mutex).Lock", "sync/atomic.CompareAndSwapInt32", "(*internal/sync.Mutex).lockSlow", "internal/sync.runtime_canSpin", "internal/sync.runtime_doSpin", "internal/sync.throw", "internal/sync.runtime_nanotime", "internal/sync.runtime_SemacquireMutex", "sync/atomic.AddInt32", "(*internal/sync.Mutex).Unlock", "(*internal/sync.Mutex).unlockSlow", "internal/sync.fatal", "internal/sync.runtime_Semrelease"], unfollowed := true, recurses := true, named := ["flowline/flow.ErrLong", "flowline/flow.ErrMany", "flowline/flow.heads", "flowline/stage.table", "flowline/flow.ErrSyntax", "flowline/flow.ErrKind", "flowline/flow.ErrBig", "flowline/flow.ErrPanic", "flowline/flow.ErrNone", "errors.errorType", "flowline/stage.ErrNone", "flowline/stage.ErrPanic"], plainKeys := false, leaving := true, apart := false, calm := true, outside := [.timePasses], narrowed := true }
def GenericsUptoSaid : Prop := genericsUptoRow.holds Tryz.pinned (OpenSpec.upto genericsSpec)

end Rows
end Go.Proofs.YtgfpadgjmkfmiaaGreatDoor
