/-
  The statement Names: for every memory in which the listed variables read as the program's text lays them, Names returns true and nothing that was there turns; then the tied card round it.
-/
import Derived.Test.YtgfpadgjmkfmiaaDoorRows
import Derived.Test.YtgfpadgjmkfmiaaDoorWalk
import Derived.ChangeSame
import Derived.ChangeVars
import Derived.JoinedOf
import Derived.RowKit
import Derived.RowKitTokens
import Derived.LaidLaws
import Derived.LaidHandle
import Derived.Stop.Joined
import Derived.Stop.LaidErr
import Derived.ProofKit
import Derived.LaidMore
import Derived.LaidSub
namespace Go.Proofs.YtgfpadgjmkfmiaaDoor
open Go.ChangeShapes Go.WideShapes Go.ChangeAt Go.RowKit

/-- What the list gives of the sentinel at its head. -/
theorem laid_sent {P : Program} {n nm : String} {text : List UInt8} {r : List (String × DataW Unit)} {W : World} {g : Nat} {ti tp te ts : TypeId} {ms : Array (String × TypeId)} {f : Field}
    (h : laidMet P ((n, .iface nm (.ptr (.agg [.lit (.string text)]))) :: r) W)
    (hg : P.globalNamed n = some g) (ht : (P.globals[g]?).map (·.type) = some ti) (hi : P.underlying ti = some (.interface ms)) (hrow : ∀ u, P.typeName? 3 u = some nm → u = tp)
    (hp : P.underlying tp = some (.pointer te)) (he : P.underlying te = some (.struct #[f])) (hft : f.type = ts) (hfo : f.offset = 0) (hs : P.underlying ts = some .string) (hc : P.cellsOf te = 1) (hcs : P.cellsOf ts = 1) :
    ∃ (a : Addr) (s : ByteArray), W.cell? ⟨g, 0, none⟩ = some (.iface tp (.pointer (some a))) ∧ W.cell? a = some (.string s) ∧ s.data.toList = text ∧ ∃ c t, W.heap[a.block]? = some (.cells c t (0, 0)) := by
  obtain ⟨ps, ⟨g0, t0, cs0, f0, p0, q0, hg0, ht0, hv0, hd0, _, e0⟩, _, hrows⟩ := h
  obtain rfl := Option.some.inj (hg.symm.trans hg0)
  obtain rfl := Option.some.inj (ht.symm.trans ht0)
  subst e0
  obtain ⟨l0⟩ := cs0
  have ok0 : ∀ u v, l0 = [.iface u v] → Value.okWide P W .any 0 u v := fun u v e => by
    subst e
    exact (hrows g 0 (by simp [MemPlace.row])).2 u v (by simpa using World.var?_cell hg0 hv0 0)
  obtain ⟨a0, s0, rfl, hc0, hs0, hz0, rfl⟩ := errorString_of_trod hi hrow hp he hft hfo hs hc hcs hd0 ok0
  refine ⟨a0, s0, by simpa using World.var?_cell hg0 hv0 0, hc0, hs0, ?_⟩
  exact (hrows a0.block a0.off (by simp [MemPlace.row])).1

theorem own : ownKnob Tryd.prog.godebug = none := by kernel_rfl
theorem gEt : Tryd.prog.globalNamed "errors.errorType" = some 7 := by kernel_rfl
theorem rt : (Tryd.prog.cutTypes.find? (·.1 == "internal/reflectlite.rtype")).map (·.2) = some 55 := by kernel_rfl
theorem oneRow : ((List.range 103).filter fun t => Tryd.prog.rowNamed t [101, 114, 114, 111, 114]) = [24] := by kernel_rfl
theorem tsize : Tryd.prog.types.size = 103 := by kernel_rfl

theorem gN3 : Tryd.prog.globalNamed "flowline/flow.ErrKind" = some 3 := by kernel_rfl
theorem gT3 : (Tryd.prog.globals[3]?).map (·.type) = some 24 := by kernel_rfl
theorem gN4 : Tryd.prog.globalNamed "flowline/flow.ErrBig" = some 4 := by kernel_rfl
theorem gT4 : (Tryd.prog.globals[4]?).map (·.type) = some 24 := by kernel_rfl
theorem gN5 : Tryd.prog.globalNamed "flowline/flow.ErrPanic" = some 5 := by kernel_rfl
theorem gT5 : (Tryd.prog.globals[5]?).map (·.type) = some 24 := by kernel_rfl
theorem gN6 : Tryd.prog.globalNamed "flowline/flow.ErrNone" = some 6 := by kernel_rfl
theorem gT6 : (Tryd.prog.globals[6]?).map (·.type) = some 24 := by kernel_rfl
theorem gN0 : Tryd.prog.globalNamed "flowline/flow.ErrSyntax" = some 0 := by kernel_rfl
theorem gT0 : (Tryd.prog.globals[0]?).map (·.type) = some 24 := by kernel_rfl
theorem gN1 : Tryd.prog.globalNamed "flowline/flow.ErrLong" = some 1 := by kernel_rfl
theorem gT1 : (Tryd.prog.globals[1]?).map (·.type) = some 24 := by kernel_rfl
theorem gN2 : Tryd.prog.globalNamed "flowline/flow.ErrMany" = some 2 := by kernel_rfl
theorem gT2 : (Tryd.prog.globals[2]?).map (·.type) = some 24 := by kernel_rfl
theorem cells91 : Tryd.prog.cellsOf 91 = 1 := by kernel_rfl
theorem cells9 : Tryd.prog.cellsOf 9 = 1 := by kernel_rfl
theorem star : "*" ++ "errors.errorString" = "*errors.errorString" := by decide
theorem row69 (u : TypeId) (h : Tryd.prog.typeName? 3 u = some "*errors.errorString") : u = 69 :=
  typeName_ptr_named (nm := "errors.errorString") (by rw [star]; kernel_rfl) (by kernel_rfl) (by decide) u (by rw [star]; exact h)

/-- The pointers by their numbers. -/
def seven7 (a0 a1 a2 a3 a4 a5 a6 : Addr) : Nat → Addr
  | 0 => a0
  | 1 => a1
  | 2 => a2
  | 3 => a3
  | 4 => a4
  | 5 => a5
  | _ => a6

/-- The seven texts by their numbers. -/
def texts : Nat → List UInt8
  | 0 => [110, 111, 32, 108, 105, 110, 101]
  | 1 => [97, 32, 116, 101, 120, 116, 32, 116, 104, 97, 116, 32, 105, 115, 32, 116, 111, 111, 32, 108, 111, 110, 103]
  | 2 => [116, 111, 111, 32, 109, 97, 110, 121, 32, 115, 116, 97, 103, 101, 115]
  | 3 => [97, 32, 118, 97, 108, 117, 101, 32, 111, 102, 32, 116, 104, 101, 32, 119, 114, 111, 110, 103, 32, 107, 105, 110, 100]
  | 4 => [97, 32, 119, 97, 118, 101, 32, 116, 104, 97, 116, 32, 105, 115, 32, 116, 111, 111, 32, 98, 105, 103]
  | 5 => [97, 32, 102, 117, 110, 99, 116, 105, 111, 110, 32, 112, 97, 110, 105, 99, 107, 101, 100]
  | _ => [110, 111, 32, 118, 97, 108, 117, 101]

theorem texts_ne : ∀ i, i < 7 → ∀ j, j < 7 → i ≠ j → texts i ≠ texts j := by decide

theorem held_of_laid {W : World} (h : laidMetH Tryd.prog Rows.namesRow.laid W) : ∃ A : Nat → Addr, Held A W := by
  have h' : laidMet Tryd.prog (Rows.namesRow.laid.filter fun x => x.2.handleName?.isNone) W ∧ handlesMet Tryd.prog (Rows.namesRow.laid.filter fun x => x.2.handleName?.isSome) W := laidMetH_iff.1 h
  obtain ⟨hl, hh⟩ := h'
  have et : W.cell? ⟨7, 0, none⟩ = some (.iface 55 (.agg #[.pointer (some ⟨12, 24, none⟩)])) := by
    obtain ⟨name, u, ty, e1, e2, e3, e4, e5⟩ := hh ("errors.errorType", Rows.laid_errors_errorType) (by simp [Rows.namesRow, Rows.laid_errors_errorType, DataW.handleName?])
    have en : name = [101, 114, 114, 111, 114] := (Option.some.inj e1).symm
    subst en
    obtain rfl := Option.some.inj (rt.symm.trans e2)
    have hm : ty ∈ (List.range 103).filter fun t => Tryd.prog.rowNamed t [101, 114, 114, 111, 114] := List.mem_filter.2 ⟨List.mem_range.2 (by rw [← tsize]; exact e3), e4⟩
    rw [oneRow] at hm
    obtain rfl := List.mem_singleton.1 hm
    have ht : typeHandle Tryd.prog 24 = .pointer (some ⟨12, 24, none⟩) := by kernel_rfl
    rw [ht] at e5
    simpa using World.var?_cell gEt e5 0
  have el : (Rows.namesRow.laid.filter fun x => x.2.handleName?.isNone) = [("flowline/flow.ErrKind", Rows.laid_flowline_flow_ErrKind), ("flowline/flow.ErrBig", Rows.laid_flowline_flow_ErrBig), ("flowline/flow.ErrPanic", Rows.laid_flowline_flow_ErrPanic), ("flowline/flow.ErrNone", Rows.laid_flowline_flow_ErrNone), ("flowline/flow.ErrSyntax", Rows.laid_flowline_flow_ErrSyntax), ("flowline/flow.ErrLong", Rows.laid_flowline_flow_ErrLong), ("flowline/flow.ErrMany", Rows.laid_flowline_flow_ErrMany)] := by
    simp [Rows.namesRow, DataW.handleName?, Rows.laid_errors_errorType, Rows.laid_flowline_flow_ErrKind, Rows.laid_flowline_flow_ErrBig, Rows.laid_flowline_flow_ErrPanic, Rows.laid_flowline_flow_ErrNone, Rows.laid_flowline_flow_ErrSyntax, Rows.laid_flowline_flow_ErrLong, Rows.laid_flowline_flow_ErrMany]
  rw [el] at hl
  obtain ⟨a3, s3, g3, c3, x3, b3⟩ := laid_sent hl gN3 gT3 Tryd.underlying24 row69 Tryd.underlying69 Tryd.underlying91 rfl rfl Tryd.underlying9 cells91 cells9
  have l1 := hl.tail
  obtain ⟨a4, s4, g4, c4, x4, b4⟩ := laid_sent l1 gN4 gT4 Tryd.underlying24 row69 Tryd.underlying69 Tryd.underlying91 rfl rfl Tryd.underlying9 cells91 cells9
  have l2 := l1.tail
  obtain ⟨a5, s5, g5, c5, x5, b5⟩ := laid_sent l2 gN5 gT5 Tryd.underlying24 row69 Tryd.underlying69 Tryd.underlying91 rfl rfl Tryd.underlying9 cells91 cells9
  have l3 := l2.tail
  obtain ⟨a6, s6, g6, c6, x6, b6⟩ := laid_sent l3 gN6 gT6 Tryd.underlying24 row69 Tryd.underlying69 Tryd.underlying91 rfl rfl Tryd.underlying9 cells91 cells9
  have l4 := l3.tail
  obtain ⟨a0, s0, g0, c0, x0, b0⟩ := laid_sent l4 gN0 gT0 Tryd.underlying24 row69 Tryd.underlying69 Tryd.underlying91 rfl rfl Tryd.underlying9 cells91 cells9
  have l5 := l4.tail
  obtain ⟨a1, s1, g1, c1, x1, b1⟩ := laid_sent l5 gN1 gT1 Tryd.underlying24 row69 Tryd.underlying69 Tryd.underlying91 rfl rfl Tryd.underlying9 cells91 cells9
  have l6 := l5.tail
  obtain ⟨a2, s2, g2, c2, x2, b2⟩ := laid_sent l6 gN2 gT2 Tryd.underlying24 row69 Tryd.underlying69 Tryd.underlying91 rfl rfl Tryd.underlying9 cells91 cells9
  have hg : ∀ k, k < 7 → W.cell? ⟨k, 0, none⟩ = some (.iface 69 (.pointer (some (seven7 a0 a1 a2 a3 a4 a5 a6 k)))) := fun k hk => by
    match k, hk with
    | 0, _ => exact g0
    | 1, _ => exact g1
    | 2, _ => exact g2
    | 3, _ => exact g3
    | 4, _ => exact g4
    | 5, _ => exact g5
    | 6, _ => exact g6
  have hb : ∀ k, k < 7 → ∃ c t, W.heap[(seven7 a0 a1 a2 a3 a4 a5 a6 k).block]? = some (.cells c t (0, 0)) := fun k hk => by
    match k, hk with
    | 0, _ => exact b0
    | 1, _ => exact b1
    | 2, _ => exact b2
    | 3, _ => exact b3
    | 4, _ => exact b4
    | 5, _ => exact b5
    | 6, _ => exact b6
  have hs : ∀ k, k < 7 → ∃ s : ByteArray, W.cell? (seven7 a0 a1 a2 a3 a4 a5 a6 k) = some (.string s) ∧ s.data.toList = texts k := fun k hk => by
    match k, hk with
    | 0, _ => exact ⟨s0, c0, x0⟩
    | 1, _ => exact ⟨s1, c1, x1⟩
    | 2, _ => exact ⟨s2, c2, x2⟩
    | 3, _ => exact ⟨s3, c3, x3⟩
    | 4, _ => exact ⟨s4, c4, x4⟩
    | 5, _ => exact ⟨s5, c5, x5⟩
    | 6, _ => exact ⟨s6, c6, x6⟩
  refine ⟨seven7 a0 a1 a2 a3 a4 a5 a6, hg, et, hb, fun i j hi hj hij e => ?_⟩
  obtain ⟨si, ci, xi⟩ := hs i hi
  obtain ⟨sj, cj, xj⟩ := hs j hj
  rw [e, cj] at ci
  cases ci
  exact texts_ne i hi j hj hij (xi.symm.trans xj)

/-- The door's own heap meets the condition. -/
theorem door_met (os : Os) (args : Array Value) : laidMetH Tryd.prog Rows.namesRow.laid ((World.doorLaid Tryd.prog 169 os).forCall (fun _ _ => 0) ⟨#[], args, []⟩).memory :=
  laidMetH_of_parts3 (fuel := 8) (laidMet_of_run' 8 (by kernel_rfl) (by kernel_rfl)) (by kernel_rfl) (by kernel_rfl)

set_option maxRecDepth 100000 in
theorem names_lifted (os : Os) (started : os.Started) (H : Type) (enc : TypeId × Value → H) :
    ReturnsInHanded {} Tryd.checked os 3 .any (fun w args => (Rows.namesSpec.pre enc Tryd.prog Tryd.f3 [] false w args ∧ laidMetH Tryd.prog Rows.namesRow.laid w) ∧ sizedMet enc Tryd.prog Tryd.f3 (OpenSpec.ofChange Rows.namesSpec) false w args)
      (Rows.namesSpec.post enc Tryd.prog Tryd.f3 false true false false) := by
  refine returnsInHanded_of_change_and (C := Tryd.checked) (X := fun w _ => laidMetH Tryd.prog Rows.namesRow.laid w) (fun _ _ _ hh h => h.of_heap hh) own started (by kernel_rfl) Tryd.func3
    (ChangeSpec.witness_shaped (enc := enc) (C := Tryd.checked) (os := os) (X := fun w _ => laidMetH Tryd.prog Rows.namesRow.laid w) false (World.doorLaid Tryd.prog 169 os) #[] 8 rfl (World.shaped_of_RefB (by kernel_rfl) (by kernel_rfl)) (by kernel_rfl) (by kernel_rfl) (by kernel_rfl) (door_met os _)) ?_
  intro W base args ds gs before _ hW _ _ hL _
  have hW' := hW
  obtain ⟨p, q, hA0, hV, rfl, hfz, hnd⟩ := hW
  have hA : DataW.TrodAll enc Tryd.prog W 0 (fun _ => true) true Tryd.f3.params.toList args.toList ds p := hA0
  rw [Tryd.params3] at hA
  obtain ⟨rfl, rfl, rfl⟩ := trodAll_none hA
  obtain ⟨rfl, rfl⟩ := trodVars_none hV
  obtain ⟨A, hH⟩ := held_of_laid hL
  clear hA0
  simp only [List.append_nil] at hW'
  refine (names_at W hH).mono fun e W' ⟨he, hb⟩ => ?_
  subst he
  refine ⟨_, rfl, [], [], [], [], [], [], hW', ?_, ?_, ?_, hb.frame _, fun h => by cases h⟩
  · exact trodAll_mk1 (shut_bool Tryd.underlying4 _)
  · exact trodAll_mk0
  · rfl

theorem names_holds : Rows.NamesSaid :=
  OpenClaim.holds_of_wide 3 Tryd.f3 rfl rfl rfl rfl rfl rfl rfl ⟨rfl, rfl, rfl, rfl, rfl⟩ rfl rfl rfl rfl rfl (by kernel_rfl) Tryd.func3 (by kernel_rfl)
    (of_decide_eq_true (by kernel_rfl)) (by unfold Func.isWrapper; first | (rw [if_pos (by decide +kernel)]; kernel_rfl) | (rw [if_neg (by decide +kernel)]; exact ⟨rfl, rfl⟩))
    (fun os started H enc _ => names_lifted os started H enc)

end Go.Proofs.YtgfpadgjmkfmiaaDoor
