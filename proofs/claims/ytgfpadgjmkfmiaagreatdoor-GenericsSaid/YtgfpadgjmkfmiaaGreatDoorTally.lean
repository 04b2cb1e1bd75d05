/-
  The walk of Tally at items.
-/
import Derived.Test.YtgfpadgjmkfmiaaGreatDoorEntry
import Derived.Carry
namespace Go.Proofs.YtgfpadgjmkfmiaaGreatDoor
open Go.RowKit Go.Maps

set_option maxRecDepth 100000 in
set_option maxHeartbeats 1000000 in
theorem tally_at (A : Option Addr) (c : Nat) (l : List It) (w : World) (hl : l.length ≤ 2932031007402) (hA : Rd w A (l.flatMap fc)) (hwf : ∀ x ∈ l, WF x) :
    Calls Tryz.prog 73 #[.slice A l.length c] w fun e w' => ∃ (B : Nat) (D : DataW Unit), e = .returned (.map (some B)) ∧ w'.ownsMap Tryz.prog 74 (plainElem Tryz.prog 3) B l.length D ∧ w.heap.size ≤ B ∧ Counts D l ∧ Below w.heap.size w w' := by
  have hmm := @run_makeMap Tryz.prog
  have HA := Lib.hid hA
  have Hwf := Lib.hid hwf
  clear hA hwf
  go_enter Tryz.func73, Tryz.ntmps73
  go_wp2
  go_loopw [9] (fun i wr => ∃ (k : Nat) (D : DataW Unit), k ≤ l.length ∧ i = .int .i64 k ∧ wr.ownsMap Tryz.prog 74 (plainElem Tryz.prog 3) w.heap.size k D ∧ Counts D (l.take k) ∧ Below w.heap.size w wr) (fun i _ => l.length - (intOf i).toNat)
  case atStart => exact ⟨0, _, Nat.zero_le _, rfl, World.ownsMap_made _ _ _ _, Counts.empty, (Below.refl _ _).alloc (Nat.le_refl _) _⟩
  case round =>
    obtain ⟨k, D, hk, rfl, hown, hcn, hb⟩ := hrel
    by_cases hlt : k < l.length
    · obtain ⟨b1, o1, rfl, hlt1, hc0⟩ := HA.out.item fc_length (i := k) (x := l[k]) (by simp [hlt])
      have hc : ∀ j, j < 5 → wr.cell? ⟨b1, (o1 + k * 5) + j, none⟩ = (fc l[k])[j]? := fun j hj => by
        rw [Nat.add_assoc]; exact (hb.cell (p := ⟨b1, o1 + (k * 5 + j), none⟩) hlt1).trans (hc0 j hj)
      obtain ⟨y0, y1, y2, y3, y4⟩ := five hc rfl
      have hwx : WF l[k] := Hwf.out _ (List.getElem_mem hlt)
      have hlt2 : (l.take k).length ≤ k := List.length_take_le _ _
      have hcl := cnt_le l[k] (l.take k)
      have hat := hcn.at_ l[k] hwx
      have hstep := hcn.step (hown.tidy keyed74) hwx
      obtain ⟨m, hm⟩ : ∃ m, m = cnt l[k] (l.take k) := ⟨_, rfl⟩
      rw [← hm] at hcl hat hstep
      have hw1 : (Lit.int .i64 ((m : Int) + 1)).wf = true := WalkArith.wf_i64 (by omega)
      obtain ⟨st, W1, W2, eM, eL0, eL1, eS, hown2, hgrow⟩ := raise_count (W := (wr.alloc (.cells #[.int .i64 l[k].k, .int .i32 l[k].n, .string l[k].s, .int .i64 l[k].re, .int .i64 l[k].im] 74)).drew) (hown.alloc _).drew (by unfold maxLen; omega) hwx hat hw1
      have hstep2 : Counts (D.put (kl l[k]) (.lit (.int .i64 ((m : Int) + 1)))) (l.take (k + 1)) := by rw [List.take_succ_eq_append_getElem hlt]; exact hstep
      have Hstep := Lib.hid hstep2
      have Hown2 := Lib.hid hown2
      have Hgrow := Lib.hid hgrow
      clear hm hstep hstep2 hown2 hgrow hat hw1 hwx
      unfold fv at eM eL0 eL1
      have hwr : IntKind.i64.wrap ((m : Int) + 1) = (m : Int) + 1 := IntWalk.i64_in _ (by omega)
      have Hown := Lib.hid hown
      have Hcn := Lib.hid hcn
      have Hb := Lib.hid hb
      clear hc hc0 hown hcn hb
      have i0 : (0 : Int) ≤ (k : Int) := by omega
      have i1 : (k : Int) < (l.length : Int) := by omega
      go_wp2
      go_region
      go_wp2
      go_roundw
      case rel => exact ⟨k + 1, _, by omega, by go_num, Hown2.out, Hstep.out, ((Hb.out.alloc Hb.out.size _).drew).grown Hgrow.out (by have := Hb.out.size; simp; omega) (fun j hj => by cases hj; exact Nat.le_refl _)⟩
      case measure => simp [intOf]; omega
    · obtain rfl : k = l.length := by omega
      rw [List.take_length] at hcn
      go_wp2
      go_ret
      exact ⟨_, D, rfl, hown, Nat.le_refl _, hcn, hb⟩
end Go.Proofs.YtgfpadgjmkfmiaaGreatDoor
