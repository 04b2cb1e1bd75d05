/-
  The walks of Folded and Fold.
-/
import Derived.Test.YtgfpadgjmkfmiaaGreatDoorProg
import Derived.Test.YtgfpadgjmkfmiaaGreatDoorWords
namespace Go.Proofs.YtgfpadgjmkfmiaaGreatDoor
open Go.RowKit

/-- The word of one byte that an int gives. -/
def by1 (n : Int) : ByteArray := strOfNums [n % 256]
theorem by1_size (n : Int) : (by1 n).size = 1 := strOfNums_size _

theorem add_one_byte {P : Program} (a : ByteArray) (h : a.size ≤ 140737488355328) (n : Int) (w : World) : (Op.stringOp .add a (by1 n)).run P w = .ok (.string (a ++ by1 n)) w :=
  run_string_add_sum w a (by1 n) (by rw [by1_size]; omega)

theorem conv_one_byte (n : Int) (w : World) :
    (convert 64 9 (.slice (some ⟨w.heap.size, 0, none⟩) 1 1)).run Tryz.prog (w.alloc (.cells #[.int .u8 (n % 256)] 5)) = .ok (.string (by1 n)) (w.alloc (.cells #[.int .u8 (n % 256)] 5)) :=
  run_convert_bytes_arg _ 64 5 Tryz.underlying64 Tryz.underlying5 w.heap.size 0 1 1 [n % 256] rfl (fun i hi => by
    obtain rfl : i = 0 := by omega
    simp) 9 Tryz.underlying9

/-- The words of one byte, one behind the other. -/
def jn (a : ByteArray) : List Int → ByteArray
  | [] => a
  | n :: r => jn (a ++ by1 n) r
theorem jn_snoc : ∀ (l : List Int) (a : ByteArray) (n : Int), jn a (l ++ [n]) = jn a l ++ by1 n
  | [], _, _ => rfl
  | _ :: r, _, _ => jn_snoc r _ _
theorem jn_size : ∀ (l : List Int) (a : ByteArray), (jn a l).size = a.size + l.length
  | [], _ => rfl
  | x :: r, a => by rw [jn, jn_size r, ByteArray.size_append, by1_size, List.length_cons]; omega

set_option maxRecDepth 100000 in
set_option maxHeartbeats 400000 in
theorem folded1_at (a : ByteArray) (n : Int) (w : World) (ha : a.size ≤ 140737488355328) :
    Calls Tryz.prog 46 #[.string a, .int .i64 n] w fun e w' => e = .returned (.string (a ++ by1 n)) ∧ Below w.heap.size w w' := by
  have hadd := add_one_byte (P := Tryz.prog) a ha n
  have hconv := conv_one_byte n
  clear ha
  go_enter Tryz.func46, Tryz.ntmps46
  go_wp2
  go_ret
  exact ⟨rfl, (Below.refl _ _).alloc (Nat.le_refl _) _⟩

set_option maxHeartbeats 400000 in
theorem fold_at (A : Option Addr) (c : Nat) (l : List Int) (w : World) (hl : l.length ≤ 140737488355328) (hA : Rd w A (l.map (Value.int .i64))) :
    Calls Tryz.prog 45 #[.slice A l.length c, .string ⟨#[]⟩, .func (.func 46) #[] #[]] w fun e w' => e = .returned (.string (jn ⟨#[]⟩ l)) ∧ Below w.heap.size w w' := by
  have HA := Lib.hid hA
  clear hA
  go_enter Tryz.func45, Tryz.ntmps45
  go_wp2
  go_loopw [1, 11] (fun a i wr => ∃ k : Nat, k ≤ l.length ∧ i = .int .i64 k ∧ a = .string (jn ⟨#[]⟩ (l.take k)) ∧ Below w.heap.size w wr) (fun _ i _ => l.length - (intOf i).toNat)
  case atStart => exact ⟨0, Nat.zero_le _, rfl, rfl, Below.refl _ _⟩
  case round =>
    obtain ⟨k, hk, rfl, rfl, hb⟩ := hrel
    by_cases hlt : k < l.length
    · have hx : (l.map (Value.int .i64))[k]? = some (.int .i64 l[k]) := by simp [hlt]
      obtain ⟨b1, o1, rfl, _, c1⟩ := (HA.out.below hb).one hx
      have ht : l.take (k + 1) = l.take k ++ [l[k]] := by rw [List.take_succ_eq_append_getElem hlt]
      have hj : jn ⟨#[]⟩ (l.take (k + 1)) = jn ⟨#[]⟩ (l.take k) ++ by1 l[k] := by rw [ht, jn_snoc]
      have hz : (jn ⟨#[]⟩ (l.take k)).size ≤ 140737488355328 := by
        rw [jn_size, List.length_take]
        show 0 + _ ≤ _
        omega
      have hcon := fun W => folded1_at (jn ⟨#[]⟩ (l.take k)) l[k] W hz
      have Hb := Lib.hid hb
      have Hj := Lib.hid hj
      have Hcon := Lib.hid hcon
      clear hb hx ht hj hz hcon
      have i0 : (0 : Int) ≤ (k : Int) := by omega
      have i1 : (k : Int) < (l.length : Int) := by omega
      go_wp2_with fail
      refine (Hcon.out _).mono ?_
      rintro e w1 ⟨rfl, hb1⟩
      have Hb1 := Lib.hid (Hb.out.trans (hb1.mono Hb.out.size))
      clear hb1
      go_wp2
      go_roundw
      case rel => exact ⟨k + 1, by omega, by go_num, by rw [Hj.out], Hb1.out⟩
      case measure => simp [intOf]; omega
    · obtain rfl : k = l.length := by omega
      rw [List.take_length]
      go_wp2
      go_ret
      exact ⟨rfl, hb⟩

set_option maxHeartbeats 400000 in
theorem folded_at (A : Option Addr) (c : Nat) (l : List Int) (w : World) (hl : l.length ≤ 140737488355328) (hA : Rd w A (l.map (Value.int .i64))) :
    Calls Tryz.prog 27 #[.slice A l.length c] w fun e w' => e = .returned (.string (jn ⟨#[]⟩ l)) ∧ Below w.heap.size w w' := by
  have HA := Lib.hid (fold_at A c l w hl hA)
  clear hA hl
  go_enter Tryz.func27, Tryz.ntmps27
  go_wp2_with fail
  refine HA.out.mono ?_
  rintro e w1 ⟨rfl, hb1⟩
  go_wp2
  go_ret
  exact ⟨rfl, hb1⟩
end Go.Proofs.YtgfpadgjmkfmiaaGreatDoor
