/-
  The walks of named (two lists of words that are one list), of Kept and Keep, and of Folded and Fold.
-/
import Derived.Test.YtgfpadgjmkfmiaaGreatDoorProg
import Derived.Test.YtgfpadgjmkfmiaaGreatDoorWords
import Derived.Deep.QuietTactic
import Derived.BigQuiet
namespace Go.Proofs.YtgfpadgjmkfmiaaGreatDoor
open Go.RowKit

set_option maxHeartbeats 400000 in
theorem named_at (A B : Option Addr) (ca cb : Nat) (l : List ByteArray) (w : World) (hl : l.length ≤ 140737488355328) (hA : Rd w A (l.map .string)) (hB : Rd w B (l.map .string)) :
    Calls Tryz.prog 21 #[.slice A l.length ca, .slice B l.length cb] w fun e w' => e = .returned (.bool true) ∧ Below w.heap.size w w' := by
  have HA := Lib.hid hA
  have HB := Lib.hid hB
  clear hA hB
  go_enter Tryz.func21, Tryz.ntmps21
  go_wp2
  go_loopw [5] (fun i wr => ∃ k : Nat, k ≤ l.length ∧ i = .int .i64 k ∧ Below w.heap.size w wr) (fun i _ => l.length - (intOf i).toNat)
  case atStart => exact ⟨0, Nat.zero_le _, rfl, Below.refl _ _⟩
  case round =>
    obtain ⟨k, hk, rfl, hb⟩ := hrel
    by_cases hlt : k < l.length
    · have hx : (l.map Value.string)[k]? = some (.string l[k]) := by simp [hlt]
      obtain ⟨b1, o1, rfl, _, c1⟩ := (HA.out.below hb).one hx
      obtain ⟨b2, o2, rfl, _, c2⟩ := (HB.out.below hb).one hx
      have Hb := Lib.hid hb
      clear hb hx
      have i0 : (0 : Int) ≤ (k : Int) := by omega
      have i1 : (k : Int) < (l.length : Int) := by omega
      go_wp2
      go_quiet (fail)
      go_wp2
      go_roundw
      case rel => exact ⟨k + 1, by omega, by go_num, below_drewN Hb.out _⟩
      case measure => simp [intOf]; omega
    · go_wp2
      go_ret
      exact ⟨rfl, hb⟩
end Go.Proofs.YtgfpadgjmkfmiaaGreatDoor
