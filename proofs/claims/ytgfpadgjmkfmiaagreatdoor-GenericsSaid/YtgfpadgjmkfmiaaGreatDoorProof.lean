/-
  The statement Generics: for every script, in whatever memory within the form's own reach, Generics returns true and the script reads as it read before. Conditions: the row's own (calm, the clock may go on); nothing is asked of the package-level variables, which the run never reads.
-/
import Derived.Test.YtgfpadgjmkfmiaaGreatDoorRows
import Derived.Test.YtgfpadgjmkfmiaaGreatDoorOpen
import Derived.Test.YtgfpadgjmkfmiaaGreatDoorBridge
import Derived.ProofKit
import Derived.Carry
namespace Go.Proofs.YtgfpadgjmkfmiaaGreatDoor
open Go.ChangeShapes Go.WideShapes Go.ChangeAt Go.RowKit Go.ConcM

theorem own : ownKnob Tryz.prog.godebug = none := by kernel_rfl

theorem read22 : Tryz.prog.readableRec 22 = true := by kernel_rfl
theorem row22 : (22 : TypeId) < Tryz.prog.types.size := of_decide_eq_true (by kernel_rfl)

set_option maxRecDepth 100000 in
theorem generics_lifted (os : Os) (started : os.Started) (H : Type) (enc : TypeId × Value → H) (F : Stop.Interp) :
    ReturnsInLeavingWide Rows.genericsRow.assume Tryz.checked os 4 .any (Rows.genericsSpec.pre6 enc Tryz.prog Tryz.f4 Rows.genericsRow.domain false) ((OpenSpec.ofChange Rows.genericsSpec).postWith enc Tryz.prog Tryz.f4 F (outsideKept [.timePasses]) false true false) := by
  refine leaving_of_contract (C := Tryz.checked) own started (by kernel_rfl) Tryz.func4
    (ChangeSpec.witness6c (enc := enc) (C := Tryz.checked) ⟨#[], #[.slice none 0 0], []⟩ 8 (by kernel_rfl) (by kernel_rfl) (by kernel_rfl) (by kernel_rfl)) ?_
  intro W base args ds gs before hval0 hW hsz
  have hval : ∀ (j : Nat) t v, Tryz.f4.params[j]? = some t → args[j]? = some v → Value.okWide Tryz.prog W .any base t v := hval0
  have hW' := hW
  obtain ⟨p, q, hA0, hV, rfl, _, _⟩ := hW
  have hA : DataW.TrodAll enc Tryz.prog W 0 (fun _ => true) true Tryz.f4.params.toList args.toList ds p := hA0
  rw [Tryz.params4] at hA hval
  obtain ⟨v0, d0, rfl, rfl, h0⟩ := trodAll_one hA
  obtain ⟨rfl, rfl⟩ := trodVars_none hV
  have h0k := h0
  have hlt : ∀ x ∈ p, x.block < W.heap.size := fun x hx => by simpa using hW'.lt x (by simpa using hx)
  obtain ⟨fuel, hf⟩ := h0
  have hsl := okWide_slice Tryz.underlying22 (hval 0 22 v0 rfl rfl)
  obtain ⟨a, len, cap, rfl⟩ := hsl
  have hf' : DataW.trod enc Tryz.prog W 0 (fun _ => true) true fuel 22 [.slice a len cap] = some (d0, p) := hf
  obtain ⟨S, c, os', hv, hl, hS⟩ := open_script hf' (fun n hn => by
    have h1 := List.all_eq_true.1 hsz n (DataW.weights_mem_each (j := 0) (t := 22) (d := d0) rfl rfl n hn)
    simpa using h1)
  cases hv
  refine (generics_at _ _ os' W hl hS).mono fun e W' ⟨he, hb⟩ => ?_
  subst he
  refine ⟨_, rfl, ⟨_, _, _, [], p, [], hW', ?_, ?_, ?_, hb.frame _, fun h => by cases h⟩, hb.os⟩
  · exact trodAll_mk1 (shut_bool Tryz.underlying4 true)
  · exact trodAll_mk1 (Below.trod Tryz.laidOut read22 row22 h0k hb hlt)
  · rfl

theorem generics_holds : Rows.GenericsSaid :=
  OpenClaim.holds_of_wide_leaving_time 4 Tryz.f4 rfl rfl rfl rfl rfl rfl rfl ⟨rfl, rfl, rfl, rfl, rfl⟩ rfl rfl rfl rfl rfl (by kernel_rfl) Tryz.func4 (by kernel_rfl)
    (of_decide_eq_true (by kernel_rfl)) (by unfold Func.isWrapper; first | (rw [if_pos (by decide +kernel)]; kernel_rfl) | (rw [if_neg (by decide +kernel)]; exact ⟨rfl, rfl⟩))
    (fun os started H enc _ F => generics_lifted os started H enc F)
#print axioms generics_holds
end Go.Proofs.YtgfpadgjmkfmiaaGreatDoor
