/-
  The walk of the statement Names: slices.Index finds each of the seven errors at its own place, and Different answers true.
-/
import Derived.Test.YtgfpadgjmkfmiaaDoorTell
namespace Go.Proofs.YtgfpadgjmkfmiaaDoor
open Go.RowKit

set_option maxHeartbeats 1000000 in
theorem idx_at {A : Nat → Addr} (k : Nat) (hk : k < 7) (B : Nat) (w : World) (h : Held A w) (hc : ∀ m, m < 7 → w.cell? ⟨B, m, none⟩ = some (.iface 69 (.pointer (some (A m))))) :
    Calls Tryd.prog 5 #[.slice (some ⟨B, 0, none⟩) 7 7, .iface 69 (.pointer (some (A k)))] w fun e w' => e = .returned (.int .i64 k) ∧ w = w' := by
  obtain ⟨i, hi, hcmp⟩ := Option.map_eq_some_iff.1 Tryd.isComp
  obtain ⟨j, hj, hjs⟩ := Option.map_eq_some_iff.1 Tryd.isSize
  have Hc := Lib.hid hc
  clear hc
  go_enter Tryd.func5, Tryd.ntmps5
  go_wp2
  go_loop [8] (fun i => ∃ m : Nat, m ≤ k ∧ i = .int .i64 m) (fun i => 7 - (intOf i).toNat)
  case atStart => exact ⟨0, by omega, rfl⟩
  case round =>
    obtain ⟨m, hm, rfl⟩ := hrel
    have h7 : m < 7 := by omega
    have hcm := Hc.out m h7
    by_cases he : m = k
    · subst he
      have heq := run_eql_iface_ptr_same (P := Tryd.prog) w (A m) Tryd.underlying24 Tryd.underlying69 hi hcmp hj
      go_wp2
      go_ret
      exact ⟨rfl, rfl⟩
    · obtain ⟨ca, ta, ea⟩ := h.row k hk
      obtain ⟨cb, tb, eb⟩ := h.row m h7
      have heq := run_eql_iface_ptr_other (P := Tryd.prog) w Tryd.underlying24 Tryd.underlying69 hi hcmp hj (by rw [hjs]; decide) (h.ne k m hk h7 (Ne.symm he)) ea eb
      clear ea eb
      go_wp2
      go_round
      case rel => exact ⟨m + 1, by omega, by go_num⟩
      case measure => simp [intOf]; omega

/-- The list's seven cells. -/
def seven (A : Nat → Addr) : Obj := .cells #[.iface 69 (.pointer (some (A 0))), .iface 69 (.pointer (some (A 1))), .iface 69 (.pointer (some (A 2))), .iface 69 (.pointer (some (A 3))), .iface 69 (.pointer (some (A 4))), .iface 69 (.pointer (some (A 5))), .iface 69 (.pointer (some (A 6)))] 24

theorem seven_cell (A : Nat → Addr) (w wr : World) (hb : Below (w.heap.size + 1) (w.alloc (seven A)) wr) (m : Nat) (hm : m < 7) :
    wr.cell? ⟨w.heap.size, m, none⟩ = some (.iface 69 (.pointer (some (A m)))) := by
  rw [hb.cell (p := ⟨w.heap.size, m, none⟩) (by simp)]
  unfold seven
  rw [World.cell?_alloc_at _ _ _ _ (by simp)]
  match m, hm with
  | 0, _ => rfl
  | 1, _ => rfl
  | 2, _ => rfl
  | 3, _ => rfl
  | 4, _ => rfl
  | 5, _ => rfl
  | 6, _ => rfl

set_option maxHeartbeats 1000000 in
theorem different_at {A : Nat → Addr} (w : World) (h : Held A w) :
    Calls Tryd.prog 4 #[] w fun e w' => e = .returned (.bool true) ∧ Below w.heap.size w w' := by
  have hs := h.size
  have g0 := h.glob 0 (by omega)
  have g1 := h.glob 1 (by omega)
  have g2 := h.glob 2 (by omega)
  have g3 := h.glob 3 (by omega)
  have g4 := h.glob 4 (by omega)
  have g5 := h.glob 5 (by omega)
  have g6 := h.glob 6 (by omega)
  go_enter Tryd.func4, Tryd.ntmps4
  go_wp2
  clear g0 g1 g2 g3 g4 g5 g6
  go_loopw [14] (fun i wr => ∃ m : Nat, m ≤ 7 ∧ i = .int .i64 m ∧ Below (w.heap.size + 1) (w.alloc (seven A)) wr) (fun i _ => 7 - (intOf i).toNat)
  case atStart => exact ⟨0, by omega, rfl, Below.refl _ _⟩
  case round =>
    obtain ⟨m, hm, rfl, hb⟩ := hrel
    have hW : Below w.heap.size w wr := ((Below.refl _ _).alloc (Nat.le_refl _) (seven A)).trans (hb.mono (by omega))
    have hH := h.mono hW
    by_cases h7 : m < 7
    · have hc := seven_cell A w wr hb m h7
      have hcs := seven_cell A w wr hb
      have Hcs := Lib.hid hcs
      have Hb := Lib.hid hb
      have HW := Lib.hid hW
      have HH := Lib.hid hH
      clear hcs hb hW hH
      go_wp2_with fail
      refine (idx_at m h7 _ _ HH.out Hcs.out).mono ?_
      rintro e w1 ⟨rfl, rfl⟩
      go_wp2_with fail
      refine (tell_at m h7 _ HH.out).mono ?_
      rintro e w1 ⟨rfl, hb1⟩
      have Hb1 := Lib.hid hb1
      clear hb1
      go_wp2
      go_roundw
      case rel => exact ⟨m + 1, by omega, by go_num, Hb.out.trans (Hb1.out.mono (by have := Hb.out.size; simp at this; omega))⟩
      case measure => simp [intOf]; omega
    · go_wp2
      go_ret
      exact ⟨rfl, hW⟩

theorem names_at {A : Nat → Addr} (w : World) (h : Held A w) :
    Calls Tryd.prog 3 #[] w fun e w' => e = .returned (.bool true) ∧ Below w.heap.size w w' := by
  go_enter Tryd.func3, Tryd.ntmps3
  go_wp2_with fail
  refine (different_at _ h).mono ?_
  rintro e w1 ⟨rfl, hb⟩
  go_wp2
  go_ret
  exact ⟨rfl, hb⟩

end Go.Proofs.YtgfpadgjmkfmiaaDoor
