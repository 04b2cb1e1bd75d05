/-
  Two items compared: the run of == at value.Item; slices.Index and slices.Contains over items.
-/
import Derived.Test.YtgfpadgjmkfmiaaGreatDoorProg
import Derived.Test.YtgfpadgjmkfmiaaGreatDoorWords
import Derived.Deep.QuietTactic
import Derived.BigQuiet
import Derived.KernelRfl
namespace Go.Proofs.YtgfpadgjmkfmiaaGreatDoor
open Go.RowKit

/-- Are they one item? -/
def eqB (x y : It) : Bool := x.k == y.k && (x.n == y.n && (x.s.toList == y.s.toList && (x.re == y.re && x.im == y.im)))

theorem eqB_iff (x y : It) : eqB x y = true ↔ x = y := by
  constructor
  · intro h
    simp only [eqB, Bool.and_eq_true, beq_iff_eq] at h
    obtain ⟨h1, h2, h3, h4, h5⟩ := h
    cases x; cases y
    simp only at h1 h2 h3 h4 h5
    rw [ByteArray.toList_eq, ByteArray.toList_eq] at h3
    subst h1 h2 h4 h5
    congr 1
    exact ByteArray.ext (Array.toList_inj.1 h3)
  · rintro rfl
    simp [eqB]

theorem Tryz.held74 : Tryz.prog.stoodInHeld 74 = false := by kernel_rfl
theorem Tryz.guard74 : Tryz.prog.eqGuardType Tryz.prog.depth 74 = false := by kernel_rfl
theorem Tryz.fields74 : Tryz.prog.underlying 74 = some (.struct (Tryz.prog.fieldsOf 74)) := by kernel_rfl

theorem run_eq_item (x y : It) (W : World) : (binOp .eql 74 (fv x) (fv y)).run Tryz.prog W = .ok (.bool (eqB x y)) W := by
  unfold fv
  rw [run_eql_struct, run_equalIn_agg W _ _ _ _ Tryz.fields74 Tryz.held74]
  unfold Program.fieldsOf
  rw [Tryz.underlying74]
  simp only [Op.eqFields]
  by_cases h1 : x.k = y.k <;> by_cases h2 : x.n = y.n <;> by_cases h3 : x.s.toList = y.s.toList <;> by_cases h4 : x.re = y.re <;> by_cases h5 : x.im = y.im <;>
    simp [go_sem, eqB, Tryz.underlying3, Tryz.underlying21, Tryz.underlying9, Tryz.underlying2, h1, h2, h3, h4, h5]

set_option maxHeartbeats 1000000 in
theorem index_no (A : Option Addr) (c : Nat) (l : List It) (x : It) (w : World) (hl : l.length ≤ 8796093022207) (hA : Rd w A (l.flatMap fc)) (hno : l.any (eqB x) = false) :
    Calls Tryz.prog 117 #[.slice A l.length c, fv x] w fun e w' => e = .returned (.int .i64 (-1)) ∧ Below w.heap.size w w' := by
  have HA := Lib.hid hA
  have Hno := Lib.hid hno
  clear hA hno
  unfold fv
  go_enter Tryz.func117, Tryz.ntmps117
  go_wp2
  go_loopw [8] (fun i wr => ∃ k : Nat, k ≤ l.length ∧ i = .int .i64 k ∧ Below (w.heap.size + 1) (w.alloc (.cells (fc x).toArray 74)) wr) (fun i _ => l.length - (intOf i).toNat)
  case atStart => exact ⟨0, Nat.zero_le _, rfl, Below.refl _ _⟩
  case round =>
    obtain ⟨k, hk, rfl, hb⟩ := hrel
    have hbw : Below w.heap.size w wr := ((Below.refl _ _).alloc (Nat.le_refl _) _).trans (hb.mono (by omega))
    by_cases hlt : k < l.length
    · obtain ⟨b1, o1, rfl, _, hc⟩ := (HA.out.below hbw).item fc_length (i := k) (x := l[k]) (by simp [hlt])
      have hc' : ∀ j, j < 5 → wr.cell? ⟨b1, (o1 + k * 5) + j, none⟩ = (fc l[k])[j]? := fun j hj => by rw [Nat.add_assoc]; exact hc j hj
      obtain ⟨y0, y1, y2, y3, y4⟩ := five hc' rfl
      have hx : ∀ j, j < 5 → wr.cell? ⟨w.heap.size, 0 + j, none⟩ = (fc x)[j]? := fun j hj => by
        rw [hb.cell (p := ⟨w.heap.size, 0 + j, none⟩) (by simp), World.cell?_alloc_at _ _ _ _ (by simp)]
        simp
      obtain ⟨x0, x1, x2, x3, x4⟩ := five hx rfl
      simp only [Nat.zero_add] at x0 x1 x2 x3 x4
      have heq : eqB x l[k] = false := by
        have := List.any_eq_false.1 Hno.out l[k] (List.getElem_mem hlt)
        simpa using this
      have hrun := run_eq_item x l[k]
      rw [heq] at hrun
      unfold fv at hrun
      have g74 := Tryz.guard74
      have Hb := Lib.hid hb
      have Hbw := Lib.hid hbw
      clear hb hc hc' hx heq hbw
      have i0 : (0 : Int) ≤ (k : Int) := by omega
      have i1 : (k : Int) < (l.length : Int) := by omega
      go_wp2
      go_quiet (fail)
      go_wp2
      go_roundw
      case rel => exact ⟨k + 1, by omega, by go_num, below_drewN Hb.out _⟩
      case measure => simp [intOf]; omega
    · go_wp2
      go_ret
      exact ⟨rfl, hbw⟩
set_option maxHeartbeats 1000000 in
theorem index_yes (A : Option Addr) (c : Nat) (l : List It) (x : It) (w : World) (hl : l.length ≤ 8796093022207) (hA : Rd w A (l.flatMap fc)) (hno : l.any (eqB x) = true) :
    Calls Tryz.prog 117 #[.slice A l.length c, fv x] w fun e w' => ∃ r : Nat, e = .returned (.int .i64 r) ∧ Below w.heap.size w w' := by
  have HA := Lib.hid hA
  have Hno := Lib.hid hno
  clear hA hno
  unfold fv
  go_enter Tryz.func117, Tryz.ntmps117
  go_wp2
  go_loopw [8] (fun i wr => ∃ k : Nat, k ≤ l.length ∧ i = .int .i64 k ∧ (l.take k).any (eqB x) = false ∧ Below (w.heap.size + 1) (w.alloc (.cells (fc x).toArray 74)) wr) (fun i _ => l.length - (intOf i).toNat)
  case atStart => exact ⟨0, Nat.zero_le _, rfl, rfl, Below.refl _ _⟩
  case round =>
    obtain ⟨k, hk, rfl, hno2, hb⟩ := hrel
    have Hno2 := Lib.hid hno2
    clear hno2
    have hbw : Below w.heap.size w wr := ((Below.refl _ _).alloc (Nat.le_refl _) _).trans (hb.mono (by omega))
    by_cases hlt : k < l.length
    · obtain ⟨b1, o1, rfl, _, hc⟩ := (HA.out.below hbw).item fc_length (i := k) (x := l[k]) (by simp [hlt])
      have hc' : ∀ j, j < 5 → wr.cell? ⟨b1, (o1 + k * 5) + j, none⟩ = (fc l[k])[j]? := fun j hj => by rw [Nat.add_assoc]; exact hc j hj
      obtain ⟨y0, y1, y2, y3, y4⟩ := five hc' rfl
      have hx : ∀ j, j < 5 → wr.cell? ⟨w.heap.size, 0 + j, none⟩ = (fc x)[j]? := fun j hj => by
        rw [hb.cell (p := ⟨w.heap.size, 0 + j, none⟩) (by simp), World.cell?_alloc_at _ _ _ _ (by simp)]
        simp
      obtain ⟨x0, x1, x2, x3, x4⟩ := five hx rfl
      simp only [Nat.zero_add] at x0 x1 x2 x3 x4
      have g74 := Tryz.guard74
      have Hb := Lib.hid hb
      have Hbw := Lib.hid hbw
      clear hb hc hc' hx hbw
      have i0 : (0 : Int) ≤ (k : Int) := by omega
      have i1 : (k : Int) < (l.length : Int) := by omega
      by_cases he : eqB x l[k] = true
      · have hrun := run_eq_item x l[k]
        rw [he] at hrun
        unfold fv at hrun
        clear he
        go_wp2
        go_quiet (fail)
        go_wp2
        go_ret
        exact ⟨k, rfl, below_drewN Hbw.out _⟩
      · have he' : eqB x l[k] = false := by simpa using he
        have hrun := run_eq_item x l[k]
        rw [he'] at hrun
        unfold fv at hrun
        have He := Lib.hid he'
        clear he he'
        go_wp2
        go_quiet (fail)
        go_wp2
        go_roundw
        case rel => exact ⟨k + 1, by omega, by go_num, by rw [List.take_succ_eq_append_getElem hlt, List.any_append, Hno2.out]; simp [He.out], below_drewN Hb.out _⟩
        case measure => simp [intOf]; omega
    · have h1 := Hno2.out
      rw [List.take_of_length_le (by omega)] at h1
      exact absurd Hno.out (by rw [h1]; decide)

/-- slices.Contains over items. -/
theorem contains_no (A : Option Addr) (c : Nat) (l : List It) (x : It) (w : World) (hl : l.length ≤ 8796093022207) (hA : Rd w A (l.flatMap fc)) (hno : l.any (eqB x) = false) :
    Calls Tryz.prog 74 #[.slice A l.length c, fv x] w fun e w' => e = .returned (.bool false) ∧ Below w.heap.size w w' := by
  have hb0 : Below w.heap.size w (w.alloc (.cells (fc x).toArray 74)) := (Below.refl _ _).alloc (Nat.le_refl _) _
  have Hcon := Lib.hid (index_no A c l x _ hl (hA.below hb0) hno)
  have Hb0 := Lib.hid hb0
  clear hA hno hl hb0
  unfold fv at Hcon ⊢
  go_enter Tryz.func74, Tryz.ntmps74
  go_wp2_with fail
  refine Hcon.out.mono ?_
  rintro e w1 ⟨rfl, hb1⟩
  have Hb1 := Lib.hid (Hb0.out.trans (hb1.mono Hb0.out.size))
  clear hb1
  go_wp2
  go_ret
  exact ⟨rfl, Hb1.out⟩

theorem contains_yes (A : Option Addr) (c : Nat) (l : List It) (x : It) (w : World) (hl : l.length ≤ 8796093022207) (hA : Rd w A (l.flatMap fc)) (hno : l.any (eqB x) = true) :
    Calls Tryz.prog 74 #[.slice A l.length c, fv x] w fun e w' => e = .returned (.bool true) ∧ Below w.heap.size w w' := by
  have hb0 : Below w.heap.size w (w.alloc (.cells (fc x).toArray 74)) := (Below.refl _ _).alloc (Nat.le_refl _) _
  have Hcon := Lib.hid (index_yes A c l x _ hl (hA.below hb0) hno)
  have Hb0 := Lib.hid hb0
  clear hA hno hl hb0
  unfold fv at Hcon ⊢
  go_enter Tryz.func74, Tryz.ntmps74
  go_wp2_with fail
  refine Hcon.out.mono ?_
  rintro e w1 ⟨r, rfl, hb1⟩
  have Hb1 := Lib.hid (Hb0.out.trans (hb1.mono Hb0.out.size))
  clear hb1
  have hr : (0 : Int) ≤ (r : Int) := by omega
  go_wp2
  go_ret
  exact ⟨rfl, Hb1.out⟩
end Go.Proofs.YtgfpadgjmkfmiaaGreatDoor
