/-
  The contract of errors.As at an error of errors.New's make and the two targets that Tell hands in: it answers false, and nothing that was there turns.
-/
import Derived.Test.YtgfpadgjmkfmiaaDoorIs
namespace Go.Proofs.YtgfpadgjmkfmiaaDoor
open Go.RowKit Go.Extern.Stop Go.Stop Go.Extern

def eValueOf : Array Value → Sem Value := fun args => ReflectliteValue.unpack (args.getD 0 (.tuple #[]))
def eType : Array Value → Sem Value := ReflectliteValue.methodAny (ReflectliteValue.valueError "reflectlite.Value.Type" 0) (fun t _ _ _ => ReflectliteType.toType t)
def eIsNil : Array Value → Sem Value := ReflectliteValue.method (ReflectliteValue.valueError "reflectlite.Value.IsNil" 0) ReflectliteValue.isNil
def eKind : Array Value → Sem Value := ReflectliteType.abiMethod fun t => do pure (.int .u8 (← Rtype.kind t))
def eElem : Array Value → Sem Value := ReflectliteType.method ReflectliteType.elem
def eImplements : Array Value → Sem Value := ReflectliteType.relation "Implements" ReflectliteType.implements_
def eAssignable : Array Value → Sem Value := ReflectliteType.relation "AssignableTo" ReflectliteType.assignableTo

theorem Tryd.methodKind (h : Value) (w : World) : (Go.method 203 55 (.agg #[h]) "Kind").run Tryd.prog w = .ok (31, h) w := by kernel_rfl
theorem Tryd.methodElem (h : Value) (w : World) : (Go.method 203 55 (.agg #[h]) "Elem").run Tryd.prog w = .ok (44, .agg #[h]) w := by kernel_rfl
theorem Tryd.methodImplements (h : Value) (w : World) : (Go.method 203 55 (.agg #[h]) "Implements").run Tryd.prog w = .ok (45, .agg #[h]) w := by kernel_rfl
theorem Tryd.methodAssignableTo (h : Value) (w : World) : (Go.method 203 55 (.agg #[h]) "AssignableTo").run Tryd.prog w = .ok (42, .agg #[h]) w := by kernel_rfl
theorem rlm (z : Sem Value) (f : TypeId → Addr → Nat → Nat → Sem Value) (v : Value) :
    ReflectliteValue.method z f #[v] = (do match ← ReflectliteValue.parts v with | none => z | some (t, a, fl) => f t a fl (fl % 32)) := rfl

theorem Tryd.valueOf34 (t : Addr) (w : World) : (eValueOf #[.iface 34 (.pointer (some t))]).run Tryd.prog w
    = .ok (.agg #[.pointer (some ⟨12, 34, none⟩), .pointer (some ⟨w.heap.size, 0, none⟩), .int .u64 150]) (w.alloc (.cells #[.pointer (some t)] 34)) := by kernel_rfl
theorem Tryd.type34 (a : Addr) (w : World) : (eType #[.agg #[.pointer (some ⟨12, 34, none⟩), .pointer (some a), .int .u64 150]]).run Tryd.prog w
    = .ok (.iface 55 (.agg #[.pointer (some ⟨12, 34, none⟩)])) w := by kernel_rfl
theorem Tryd.kind34 (w : World) : (eKind #[.pointer (some ⟨12, 34, none⟩)]).run Tryd.prog w = .ok (.int .u8 22) w := by kernel_rfl
theorem Tryd.kind31 (w : World) : (eKind #[.pointer (some ⟨12, 31, none⟩)]).run Tryd.prog w = .ok (.int .u8 22) w := by kernel_rfl
theorem Tryd.parts34 (a : Addr) (w : World) : (ReflectliteValue.parts (.agg #[.pointer (some ⟨12, 34, none⟩), .pointer (some a), .int .u64 150])).run Tryd.prog w = .ok (some (34, a, 150)) w := by kernel_rfl
theorem Tryd.isNil34 (a p : Addr) (W : World) (ha : W.cell? a = some (.pointer (some p))) :
    (eIsNil #[.agg #[.pointer (some ⟨12, 34, none⟩), .pointer (some a), .int .u64 150]]).run Tryd.prog W = .ok (.bool false) W := by
  unfold eIsNil
  rw [rlm]
  simp only [Sem.run_bind, Tryd.parts34, Result.andThen]
  simp [ReflectliteValue.isNil, loadVar, isAgg, underlying, Tryd.underlying34, ha, Result.andThen]
theorem Tryd.elem34 (w : World) : (eElem #[.agg #[.pointer (some ⟨12, 34, none⟩)]]).run Tryd.prog w = .ok (.iface 55 (.agg #[.pointer (some ⟨12, 31, none⟩)])) w := by kernel_rfl
theorem Tryd.implements31 (w : World) : (eImplements #[.agg #[.pointer (some ⟨12, 31, none⟩)], .iface 55 (.agg #[.pointer (some ⟨12, 24, none⟩)])]).run Tryd.prog w = .ok (.bool true) w := by kernel_rfl
theorem Tryd.assignable31 (w : World) : (eAssignable #[.agg #[.pointer (some ⟨12, 69, none⟩)], .iface 55 (.agg #[.pointer (some ⟨12, 31, none⟩)])]).run Tryd.prog w = .ok (.bool false) w := by kernel_rfl

set_option maxHeartbeats 4000000 in
theorem as_miss34 (e t : Addr) (w : World) (hg : w.cell? ⟨7, 0, none⟩ = some (.iface 55 (.agg #[.pointer (some ⟨12, 24, none⟩)]))) :
    Calls Tryd.prog 8 #[.iface 69 (.pointer (some e)), .iface 34 (.pointer (some t))] w fun ev w' => ev = .returned (.bool false) ∧ Below w.heap.size w w' := by
  have h11 := @run_callFunc_extern Tryd.prog 11 _ eValueOf Tryd.func11 (by kernel_rfl) (by kernel_rfl) (by kernel_rfl) (by kernel_rfl)
  have h12 := @run_callFunc_extern Tryd.prog 12 _ eType Tryd.func12 (by kernel_rfl) (by kernel_rfl) (by kernel_rfl) (by kernel_rfl)
  have h13 := @run_callFunc_extern Tryd.prog 13 _ eIsNil Tryd.func13 (by kernel_rfl) (by kernel_rfl) (by kernel_rfl) (by kernel_rfl)
  have h31 := @run_callFunc_extern Tryd.prog 31 _ eKind Tryd.func31 (by kernel_rfl) (by kernel_rfl) (by kernel_rfl) (by kernel_rfl)
  have h44 := @run_callFunc_extern Tryd.prog 44 _ eElem Tryd.func44 (by kernel_rfl) (by kernel_rfl) (by kernel_rfl) (by kernel_rfl)
  have h45 := @run_callFunc_extern Tryd.prog 45 _ eImplements Tryd.func45 (by kernel_rfl) (by kernel_rfl) (by kernel_rfl) (by kernel_rfl)
  have h9 := @run_callFunc_extern Tryd.prog 9 _ ReflectliteType.typeOf Tryd.func9 (by kernel_rfl) (by kernel_rfl) (by kernel_rfl) (by kernel_rfl)
  have h42 := @run_callFunc_extern Tryd.prog 42 _ eAssignable Tryd.func42 (by kernel_rfl) (by kernel_rfl) (by kernel_rfl) (by kernel_rfl)
  have tO := Tryd.isTypeOf
  have mA := Tryd.methodAssignableTo
  have a25 := Tryd.assignable31
  have f6 := Tryd.valueOf34
  have f7 := Tryd.type34
  have mK := Tryd.methodKind
  have mE := Tryd.methodElem
  have mI := Tryd.methodImplements
  have k27 := Tryd.kind34
  have k25 := Tryd.kind31
  have e27 := Tryd.elem34
  have i25 := Tryd.implements31
  have xE := Tryd.noAsE
  have uE := Tryd.noUnwrapE
  have vE := Tryd.noUnwrapsE
  have n8 := Tryd.isNil34 ⟨w.heap.size, 0, none⟩ t ((w.alloc (.cells #[.pointer (some t)] 34)).alloc (.cells #[.pointer (some ⟨12, 34, none⟩), .pointer (some ⟨w.heap.size, 0, none⟩), .int .u64 150] 47)) (by simp)
  have hlt : 7 < w.heap.size := by
    rcases Nat.lt_or_ge 7 w.heap.size with h | h
    · exact h
    · simp [World.cell?, Array.getElem?_eq_none h] at hg
  have hg2 : ((w.alloc (.cells #[.pointer (some t)] 34)).alloc (.cells #[.pointer (some ⟨12, 34, none⟩), .pointer (some ⟨w.heap.size, 0, none⟩), .int .u64 150] 47)).cell? ⟨7, 0, none⟩ = some (.iface 55 (.agg #[.pointer (some ⟨12, 24, none⟩)])) := by
    rw [World.cell?_alloc_lt _ _ ⟨7, 0, none⟩ (by simp; omega), World.cell?_alloc_lt _ _ ⟨7, 0, none⟩ hlt]; exact hg
  go_enter Tryd.func8, Tryd.ntmps8
  go_wp2
  refine wp_loop_rounds 1 ?_
  rw [rounds_succ]
  go_wp2
  go_ret
  exact ⟨rfl, (((Below.refl _ _).alloc (Nat.le_refl _) _).alloc (by simp) _).alloc (by simp; omega) _⟩

theorem Tryd.valueOf37 (t : Addr) (w : World) : (eValueOf #[.iface 37 (.pointer (some t))]).run Tryd.prog w
    = .ok (.agg #[.pointer (some ⟨12, 37, none⟩), .pointer (some ⟨w.heap.size, 0, none⟩), .int .u64 150]) (w.alloc (.cells #[.pointer (some t)] 37)) := by kernel_rfl
theorem Tryd.type37 (a : Addr) (w : World) : (eType #[.agg #[.pointer (some ⟨12, 37, none⟩), .pointer (some a), .int .u64 150]]).run Tryd.prog w
    = .ok (.iface 55 (.agg #[.pointer (some ⟨12, 37, none⟩)])) w := by kernel_rfl
theorem Tryd.kind37 (w : World) : (eKind #[.pointer (some ⟨12, 37, none⟩)]).run Tryd.prog w = .ok (.int .u8 22) w := by kernel_rfl
theorem Tryd.kind32 (w : World) : (eKind #[.pointer (some ⟨12, 32, none⟩)]).run Tryd.prog w = .ok (.int .u8 22) w := by kernel_rfl
theorem Tryd.parts37 (a : Addr) (w : World) : (ReflectliteValue.parts (.agg #[.pointer (some ⟨12, 37, none⟩), .pointer (some a), .int .u64 150])).run Tryd.prog w = .ok (some (37, a, 150)) w := by kernel_rfl
theorem Tryd.isNil37 (a p : Addr) (W : World) (ha : W.cell? a = some (.pointer (some p))) :
    (eIsNil #[.agg #[.pointer (some ⟨12, 37, none⟩), .pointer (some a), .int .u64 150]]).run Tryd.prog W = .ok (.bool false) W := by
  unfold eIsNil
  rw [rlm]
  simp only [Sem.run_bind, Tryd.parts37, Result.andThen]
  simp [ReflectliteValue.isNil, loadVar, isAgg, underlying, Tryd.underlying37, ha, Result.andThen]
theorem Tryd.elem37 (w : World) : (eElem #[.agg #[.pointer (some ⟨12, 37, none⟩)]]).run Tryd.prog w = .ok (.iface 55 (.agg #[.pointer (some ⟨12, 32, none⟩)])) w := by kernel_rfl
theorem Tryd.implements32 (w : World) : (eImplements #[.agg #[.pointer (some ⟨12, 32, none⟩)], .iface 55 (.agg #[.pointer (some ⟨12, 24, none⟩)])]).run Tryd.prog w = .ok (.bool true) w := by kernel_rfl
theorem Tryd.assignable32 (w : World) : (eAssignable #[.agg #[.pointer (some ⟨12, 69, none⟩)], .iface 55 (.agg #[.pointer (some ⟨12, 32, none⟩)])]).run Tryd.prog w = .ok (.bool false) w := by kernel_rfl

set_option maxHeartbeats 4000000 in
theorem as_miss37 (e t : Addr) (w : World) (hg : w.cell? ⟨7, 0, none⟩ = some (.iface 55 (.agg #[.pointer (some ⟨12, 24, none⟩)]))) :
    Calls Tryd.prog 8 #[.iface 69 (.pointer (some e)), .iface 37 (.pointer (some t))] w fun ev w' => ev = .returned (.bool false) ∧ Below w.heap.size w w' := by
  have h11 := @run_callFunc_extern Tryd.prog 11 _ eValueOf Tryd.func11 (by kernel_rfl) (by kernel_rfl) (by kernel_rfl) (by kernel_rfl)
  have h12 := @run_callFunc_extern Tryd.prog 12 _ eType Tryd.func12 (by kernel_rfl) (by kernel_rfl) (by kernel_rfl) (by kernel_rfl)
  have h13 := @run_callFunc_extern Tryd.prog 13 _ eIsNil Tryd.func13 (by kernel_rfl) (by kernel_rfl) (by kernel_rfl) (by kernel_rfl)
  have h31 := @run_callFunc_extern Tryd.prog 31 _ eKind Tryd.func31 (by kernel_rfl) (by kernel_rfl) (by kernel_rfl) (by kernel_rfl)
  have h44 := @run_callFunc_extern Tryd.prog 44 _ eElem Tryd.func44 (by kernel_rfl) (by kernel_rfl) (by kernel_rfl) (by kernel_rfl)
  have h45 := @run_callFunc_extern Tryd.prog 45 _ eImplements Tryd.func45 (by kernel_rfl) (by kernel_rfl) (by kernel_rfl) (by kernel_rfl)
  have h9 := @run_callFunc_extern Tryd.prog 9 _ ReflectliteType.typeOf Tryd.func9 (by kernel_rfl) (by kernel_rfl) (by kernel_rfl) (by kernel_rfl)
  have h42 := @run_callFunc_extern Tryd.prog 42 _ eAssignable Tryd.func42 (by kernel_rfl) (by kernel_rfl) (by kernel_rfl) (by kernel_rfl)
  have tO := Tryd.isTypeOf
  have mA := Tryd.methodAssignableTo
  have a25 := Tryd.assignable32
  have f6 := Tryd.valueOf37
  have f7 := Tryd.type37
  have mK := Tryd.methodKind
  have mE := Tryd.methodElem
  have mI := Tryd.methodImplements
  have k27 := Tryd.kind37
  have k25 := Tryd.kind32
  have e27 := Tryd.elem37
  have i25 := Tryd.implements32
  have xE := Tryd.noAsE
  have uE := Tryd.noUnwrapE
  have vE := Tryd.noUnwrapsE
  have n8 := Tryd.isNil37 ⟨w.heap.size, 0, none⟩ t ((w.alloc (.cells #[.pointer (some t)] 37)).alloc (.cells #[.pointer (some ⟨12, 37, none⟩), .pointer (some ⟨w.heap.size, 0, none⟩), .int .u64 150] 47)) (by simp)
  have hlt : 7 < w.heap.size := by
    rcases Nat.lt_or_ge 7 w.heap.size with h | h
    · exact h
    · simp [World.cell?, Array.getElem?_eq_none h] at hg
  have hg2 : ((w.alloc (.cells #[.pointer (some t)] 37)).alloc (.cells #[.pointer (some ⟨12, 37, none⟩), .pointer (some ⟨w.heap.size, 0, none⟩), .int .u64 150] 47)).cell? ⟨7, 0, none⟩ = some (.iface 55 (.agg #[.pointer (some ⟨12, 24, none⟩)])) := by
    rw [World.cell?_alloc_lt _ _ ⟨7, 0, none⟩ (by simp; omega), World.cell?_alloc_lt _ _ ⟨7, 0, none⟩ hlt]; exact hg
  go_enter Tryd.func8, Tryd.ntmps8
  go_wp2
  refine wp_loop_rounds 1 ?_
  rw [rounds_succ]
  go_wp2
  go_ret
  exact ⟨rfl, (((Below.refl _ _).alloc (Nat.le_refl _) _).alloc (by simp) _).alloc (by simp; omega) _⟩

end Go.Proofs.YtgfpadgjmkfmiaaDoor
