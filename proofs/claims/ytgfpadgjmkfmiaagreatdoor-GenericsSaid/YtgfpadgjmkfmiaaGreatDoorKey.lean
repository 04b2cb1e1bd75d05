/-
  An item as a map's key: it reads as a key, and two items that read as one key are one.
-/
import Derived.Test.YtgfpadgjmkfmiaaGreatDoorProg
import Derived.Test.YtgfpadgjmkfmiaaGreatDoorEq
import Derived.DeepKeys4
import Derived.Maps.Own
import Derived.Maps.OwnOps
import Derived.Maps.OwnSet
import Derived.WideKeyEntry
import Derived.KernelRfl
namespace Go.Proofs.YtgfpadgjmkfmiaaGreatDoor
open Go.RowKit Go.Maps

theorem Tryz.laidOut : laidOutB Tryz.prog = true := by kernel_rfl
theorem Tryz.row74 : (74 : TypeId) < Tryz.prog.types.size := of_decide_eq_true (by kernel_rfl)
theorem Tryz.deep74 : Tryz.prog.keyTypeAt 2 74 = true := by kernel_rfl
theorem law74 : WideMaps.KeyLaw Tryz.prog 74 := deep_law_laid Tryz.laidOut (m := 2) (by omega) Tryz.row74 Tryz.deep74 (by rw [Tryz.underlying74])
theorem keyed74 : Keyed Tryz.prog 74 := Keyed.of_law law74
theorem Tryz.keyType74 : Tryz.prog.keyType 74 = true := by kernel_rfl
theorem Tryz.cells74 : Tryz.prog.cellsOf 74 = 5 := by kernel_rfl
theorem Tryz.cells3 : Tryz.prog.cellsOf 3 = 1 := by kernel_rfl
theorem Tryz.cells21 : Tryz.prog.cellsOf 21 = 1 := by kernel_rfl
theorem Tryz.cells9 : Tryz.prog.cellsOf 9 = 1 := by kernel_rfl
theorem Tryz.cells2 : Tryz.prog.cellsOf 2 = 1 := by kernel_rfl

theorem Tryz.tsize : Tryz.prog.types.size + 1 = 379 + 2 := by kernel_rfl

/-- Its parts are of their kinds. -/
structure WF (x : It) : Prop where
  k : (Lit.int .i64 x.k).wf = true
  n : (Lit.int .i32 x.n).wf = true
  s : x.s.size ≤ maxLen
  re : (Lit.int .i64 x.re).wf = true
  im : (Lit.int .i64 x.im).wf = true

theorem formed74 (x : It) : (fv x).formed Tryz.prog 74 = true := by
  simp [fv, Value.formed, Tryz.underlying74, Tryz.cells74]

theorem lits74 (x : It) (h : WF x) (d : Nat) : Tryz.prog.keyLits (d + 2) 74 (fc x) = some [.int .i64 x.k, .int .i32 x.n, .string x.s.data.toList, .int .i64 x.re, .int .i64 x.im] := by
  obtain ⟨h1, h2, h3, h4, h5⟩ := h
  simp [Program.keyLits, Tryz.underlying74, Tryz.underlying3, Tryz.underlying21, Tryz.underlying9, Tryz.underlying2, Tryz.cells74, Tryz.cells3, Tryz.cells21, Tryz.cells9, Tryz.cells2, fc, h1, h2, h3, h4, h5]

/-- What it reads as. -/
def kl (x : It) : Lit := .string (keyBytes [.int .i64 x.k, .int .i32 x.n, .string x.s.data.toList, .int .i64 x.re, .int .i64 x.im])

theorem keyOf74 (x : It) (h : WF x) : keyOf Tryz.prog 74 (fv x) = some (kl x) := by
  have e : ∃ d, Tryz.prog.types.size + 1 = d + 2 := ⟨379, Tryz.tsize⟩
  obtain ⟨d, e⟩ := e
  unfold keyOf
  rw [Tryz.underlying74]
  simp only [Tryz.keyType74, formed74, Bool.and_self, if_true]
  rw [e]
  have hc : (fv x).cells.toList = fc x := rfl
  rw [hc, lits74 x h d]
  rfl

theorem kl_inj {x y : It} (hx : WF x) (hy : WF y) (e : kl x = kl y) : x = y := by
  have h1 := keyOf74 x hx
  have h2 := keyOf74 y hy
  rw [← e] at h2
  have h3 := law74.inj h1 h2
  unfold fv at h3
  cases x; cases y
  simp only [Value.agg.injEq, Array.mk.injEq, List.cons.injEq, Value.int.injEq, Value.string.injEq, true_and, and_true] at h3
  obtain ⟨rfl, rfl, rfl, rfl, rfl⟩ := h3
  rfl
end Go.Proofs.YtgfpadgjmkfmiaaGreatDoor
