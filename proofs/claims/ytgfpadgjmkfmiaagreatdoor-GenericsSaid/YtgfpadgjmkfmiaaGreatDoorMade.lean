/-
  The walks of kept and given: a new list of items, made of a list that came in.
-/
import Derived.Test.YtgfpadgjmkfmiaaGreatDoorProg
import Derived.Test.YtgfpadgjmkfmiaaGreatDoorWords
import Derived.KernelRfl
import Derived.StillTailTactics
namespace Go.Proofs.YtgfpadgjmkfmiaaGreatDoor
open Go.RowKit

theorem Tryz.info45 : (Tryz.prog.info? 45).map (fun i => (i.zero, i.size, i.bytes)) = some (some (.agg #[.int .i64 0, .int .i64 0, .string ⟨#[]⟩, .int .i64 0, .int .i64 0]), 5, 48) := by kernel_rfl
theorem Tryz.info74 : (Tryz.prog.info? 74).map (fun i => (i.zero, i.size, i.bytes)) = some (some (.agg #[.int .i64 0, .int .i32 0, .string ⟨#[]⟩, .int .i64 0, .int .i64 0]), 5, 48) := by kernel_rfl

/-- An item whose N is a number of 32 bits. -/
def kp (x : It) : It := { x with n := wrap64 (wrap32 x.n) }
/-- .. and as the program's own item has it. -/
def gv (x : It) : It := { x with n := wrap32 x.n }

/-- The first k items of the row are written. -/
def Pre (f : It → List Value) (l : List It) (k : Nat) (xs : List Value) : Prop := xs.length = 5 * l.length ∧ ∀ i x j, i < k → l[i]? = some x → j < 5 → xs[i * 5 + j]? = (f x)[j]?

/-- One item written into the row, cell by cell. -/
def put5 (xs : List Value) (p : Nat) (v0 v1 v2 v3 v4 : Value) : List Value := ((((xs.set p v0).set (p + 1) v1).set (p + 2) v2).set (p + 3) v3).set (p + 4) v4
theorem put5_length (xs : List Value) (p : Nat) (v0 v1 v2 v3 v4 : Value) : (put5 xs p v0 v1 v2 v3 v4).length = xs.length := by simp [put5]
theorem put5_far (xs : List Value) (p : Nat) (v0 v1 v2 v3 v4 : Value) (q : Nat) (h : q < p ∨ p + 5 ≤ q) : (put5 xs p v0 v1 v2 v3 v4)[q]? = xs[q]? := by
  unfold put5
  rw [List.getElem?_set_ne (by omega), List.getElem?_set_ne (by omega), List.getElem?_set_ne (by omega), List.getElem?_set_ne (by omega), List.getElem?_set_ne (by omega)]
theorem put5_at (xs : List Value) (p : Nat) (v0 v1 v2 v3 v4 : Value) (h : p + 5 ≤ xs.length) (j : Nat) (hj : j < 5) : (put5 xs p v0 v1 v2 v3 v4)[p + j]? = [v0, v1, v2, v3, v4][j]? := by
  unfold put5
  match j, hj with
  | 0, _ => rw [List.getElem?_set_ne (by omega), List.getElem?_set_ne (by omega), List.getElem?_set_ne (by omega), List.getElem?_set_ne (by omega), Nat.add_zero, List.getElem?_set_self (by omega)]; rfl
  | 1, _ => rw [List.getElem?_set_ne (by omega), List.getElem?_set_ne (by omega), List.getElem?_set_ne (by omega), List.getElem?_set_self (by simp; omega)]; rfl
  | 2, _ => rw [List.getElem?_set_ne (by omega), List.getElem?_set_ne (by omega), List.getElem?_set_self (by simp; omega)]; rfl
  | 3, _ => rw [List.getElem?_set_ne (by omega), List.getElem?_set_self (by simp; omega)]; rfl
  | 4, _ => rw [List.getElem?_set_self (by simp; omega)]; rfl

theorem put5_again (xs : List Value) (p : Nat) (v0 v1 v2 v3 v4 u : Value) : (put5 xs p v0 v1 v2 v3 v4).set (p + 1) u = put5 xs p v0 u v2 v3 v4 := by
  unfold put5
  rw [List.set_comm _ _ (show p + 4 ≠ p + 1 by omega), List.set_comm _ _ (show p + 3 ≠ p + 1 by omega), List.set_comm _ _ (show p + 2 ≠ p + 1 by omega), List.set_set]

theorem Pre.step {f : It → List Value} {l : List It} {k : Nat} {xs : List Value} (h : Pre f l k xs) (hk : k < l.length) {v0 v1 v2 v3 v4 : Value} (hf : f l[k] = [v0, v1, v2, v3, v4]) : Pre f l (k + 1) (put5 xs (k * 5) v0 v1 v2 v3 v4) := by
  refine ⟨by rw [put5_length]; exact h.1, fun i x j hi hx hj => ?_⟩
  by_cases e : i = k
  · subst e
    have hx' : l[i] = x := by
      rw [List.getElem?_eq_getElem hk] at hx
      exact Option.some.inj hx
    rw [put5_at _ _ _ _ _ _ _ (by rw [h.1]; omega) j hj, ← hx', hf]
  · rw [put5_far _ _ _ _ _ _ _ _ (by omega)]
    exact h.2 i x j (by omega) hx hj

theorem Pre.whole {f : It → List Value} (hf : ∀ x, (f x).length = 5) {l : List It} {xs : List Value} (h : Pre f l l.length xs) : xs = l.flatMap f := by
  apply List.ext_getElem?
  intro q
  rcases Nat.lt_or_ge q (5 * l.length) with hq | hq
  · have hi : q / 5 < l.length := by omega
    have e : q = q / 5 * 5 + q % 5 := by omega
    rw [e, h.2 (q / 5) l[q / 5] (q % 5) hi (List.getElem?_eq_getElem hi) (by omega), flat_at hf l (q / 5) l[q / 5] (List.getElem?_eq_getElem hi) (q % 5) (by omega)]
  · rw [List.getElem?_eq_none (by rw [h.1]; exact hq), List.getElem?_eq_none (by rw [flat_length hf]; exact hq)]

theorem own_drew {w : World} {base e size n : Nat} {v : Value} {xs : List Value} (h : w.ownsRow base e size v n xs) : w.drew.ownsRow base e size v n xs := h

/-- The world behind the five stores. -/
theorem own_put5 {w : World} {base e g n cap : Nat} {xs : List Value} (h : w.ownsRow base e 5 (.slice (some ⟨g, 0, none⟩) n cap) n xs) (p : Nat) (v0 v1 v2 v3 v4 : Value) :
    (((((w.setCell ⟨g, p, none⟩ v0).setCell ⟨g, p + 1, none⟩ v1).setCell ⟨g, p + 2, none⟩ v2).setCell ⟨g, p + 3, none⟩ v3).setCell ⟨g, p + 4, none⟩ v4).ownsRow base e 5 (.slice (some ⟨g, 0, none⟩) n cap) n (put5 xs p v0 v1 v2 v3 v4) :=
  ((((((h.stored p v0).1).stored (p + 1) v1).1.stored (p + 2) v2).1.stored (p + 3) v3).1.stored (p + 4) v4).1

set_option maxRecDepth 100000 in
set_option maxHeartbeats 1000000 in
theorem kept_list (A : Option Addr) (c : Nat) (l : List It) (w : World) (hl : l.length ≤ 2932031007402) (hA : Rd w A (l.flatMap rc)) :
    Calls Tryz.prog 7 #[.slice A l.length c] w fun e w' => e = .returned (.slice (some ⟨w.heap.size, 0, none⟩) l.length l.length) ∧ Rd w' (some ⟨w.heap.size, 0, none⟩) ((l.map kp).flatMap rc) ∧ Below w.heap.size w w' := by
  obtain ⟨ti, hi, hz0, hz1, hz2⟩ := info_parts Tryz.info45
  obtain ⟨w1, hrun, hown, hg⟩ := run_make_full (P := Tryz.prog) w w.heap.size 25 45 ti _ 5 Tryz.underlying25 hi hz0 hz1 .i64 .i64 l.length (by rw [hz2]; omega) (by unfold maxLen; omega) (Nat.le_refl _)
  have HA := Lib.hid hA
  have Hown := Lib.hid hown
  have Hg := Lib.hid hg
  clear hA hown hg hi hz0 hz1 hz2
  go_enter Tryz.func7, Tryz.ntmps7
  go_wp2
  go_loopw [4] (fun i wr => ∃ (k : Nat) (xs : List Value), k ≤ l.length ∧ i = .int .i64 k ∧ wr.ownsRow w.heap.size 45 5 (.slice (some ⟨w.heap.size, 0, none⟩) l.length l.length) l.length xs ∧ Pre rc (l.map kp) k xs ∧ Below w.heap.size w wr) (fun i _ => l.length - (intOf i).toNat)
  case atStart => exact ⟨0, _, Nat.zero_le _, rfl, Hown.out, ⟨by rw [Array.length_toList, size_madeCells, List.length_map]; omega, fun i x j hi => absurd hi (by omega)⟩, (Below.refl _ _).grown Hg.out (Nat.le_refl _) (fun j hj => by cases hj)⟩
  case round =>
    obtain ⟨k, xs, hk, rfl, hown, hpre, hb⟩ := hrel
    by_cases hlt : k < l.length
    · obtain ⟨b1, o1, rfl, hlt1, hc0⟩ := HA.out.item rc_length (i := k) (x := l[k]) (by simp [hlt])
      have hc : ∀ j, j < 5 → wr.cell? ⟨b1, o1 + (k * 5 + j), none⟩ = (rc l[k])[j]? := fun j hj => (hb.cell (p := ⟨b1, o1 + (k * 5 + j), none⟩) hlt1).trans (hc0 j hj)
      have hne : ¬ b1 = w.heap.size := by omega
      have hne' : ¬ w.heap.size = b1 := by omega
      have hc' : ∀ j, j < 5 → wr.cell? ⟨b1, (o1 + k * 5) + j, none⟩ = (rc l[k])[j]? := fun j hj => by rw [Nat.add_assoc]; exact hc j hj
      obtain ⟨y0, y1, y2, y3, y4⟩ := five hc' rfl
      have hxl : xs.length = 5 * l.length := by rw [hpre.1, List.length_map]
      have hat : ∀ j, j < 5 → ∃ u, wr.cell? ⟨w.heap.size, k * 5 + j, none⟩ = some u := fun j hj => by
        rw [hown.cellAt (k * 5 + j) (by omega)]
        exact ⟨_, List.getElem?_eq_getElem (by omega)⟩
      have hfr := fun j => hown.frozenAt j
      obtain ⟨d0, z0⟩ := hat 0 (by omega)
      obtain ⟨d1, z1⟩ := hat 1 (by omega)
      obtain ⟨d2, z2⟩ := hat 2 (by omega)
      obtain ⟨d3, z3⟩ := hat 3 (by omega)
      obtain ⟨d4, z4⟩ := hat 4 (by omega)
      rw [Nat.add_zero] at z0
      have q0 := hfr (k * 5)
      have q1 := hfr (k * 5 + 1)
      have q2 := hfr (k * 5 + 2)
      have q3 := hfr (k * 5 + 3)
      have q4 := hfr (k * 5 + 4)
      have Hown := Lib.hid hown
      have Hpre := Lib.hid hpre
      have Hb := Lib.hid hb
      clear hc hc0 hc' hat hfr hown hpre hb hxl
      have i0 : (0 : Int) ≤ (k : Int) := by omega
      have i1 : (k : Int) < (l.length : Int) := by omega
      go_wp2
      go_roundw
      case rel =>
        have hkm : k < (l.map kp).length := by rw [List.length_map]; exact hlt
        refine ⟨k + 1, put5 xs (k * 5) (.int .i64 l[k].k) (.int .i64 (wrap64 (wrap32 l[k].n))) (.string l[k].s) (.int .i64 l[k].re) (.int .i64 l[k].im), by omega, by go_num, ?_, ?_, ?_⟩
        · rw [← put5_again xs (k * 5) (.int .i64 l[k].k) (.int .i64 l[k].n) (.string l[k].s) (.int .i64 l[k].re) (.int .i64 l[k].im)]
          exact ((own_put5 Hown.out (k * 5) (.int .i64 l[k].k) (.int .i64 l[k].n) (.string l[k].s) (.int .i64 l[k].re) (.int .i64 l[k].im)).stored (k * 5 + 1) _).1
        · exact Hpre.out.step hkm (by rw [List.getElem_map]; rfl)
        · exact (((((Hb.out.setCell (Nat.le_refl _) _).setCell (Nat.le_refl _) _).setCell (Nat.le_refl _) _).setCell (Nat.le_refl _) _).setCell (Nat.le_refl _) _).setCell (Nat.le_refl _) _
      case measure => simp [intOf]; omega
    · obtain rfl : k = l.length := by omega
      have hx := hpre
      rw [show l.length = (l.map kp).length by rw [List.length_map]] at hx
      have hw := hx.whole rc_length
      subst hw
      go_wp2
      go_ret
      exact ⟨rfl, Rd.of_own hown, hb⟩

set_option maxRecDepth 100000 in
set_option maxHeartbeats 1000000 in
theorem given_list (A : Option Addr) (c : Nat) (l : List It) (w : World) (hl : l.length ≤ 2932031007402) (hA : Rd w A (l.flatMap rc)) :
    Calls Tryz.prog 13 #[.slice A l.length c] w fun e w' => ∃ (B : Option Addr), e = .returned (.slice B l.length l.length) ∧ Rd w' B ((l.map gv).flatMap fc) ∧ Below w.heap.size w w' := by
  obtain ⟨ti, hi, hz0, hz1, hz2⟩ := info_parts Tryz.info74
  obtain ⟨w1, hrun, hown, hg⟩ := run_make_full (P := Tryz.prog) w w.heap.size 39 74 ti _ 5 Tryz.underlying39 hi hz0 hz1 .i64 .i64 l.length (by rw [hz2]; omega) (by unfold maxLen; omega) (Nat.le_refl _)
  have HA := Lib.hid hA
  have Hown := Lib.hid hown
  have Hg := Lib.hid hg
  clear hA hown hg hi hz0 hz1 hz2
  go_enter Tryz.func13, Tryz.ntmps13
  go_wp2
  go_loopw [4] (fun i wr => ∃ (k : Nat) (xs : List Value), k ≤ l.length ∧ i = .int .i64 k ∧ wr.ownsRow w.heap.size 74 5 (.slice (some ⟨w.heap.size, 0, none⟩) l.length l.length) l.length xs ∧ Pre fc (l.map gv) k xs ∧ Below w.heap.size w wr) (fun i _ => l.length - (intOf i).toNat)
  case atStart => exact ⟨0, _, Nat.zero_le _, rfl, Hown.out, ⟨by rw [Array.length_toList, size_madeCells, List.length_map]; omega, fun i x j hi => absurd hi (by omega)⟩, (Below.refl _ _).grown Hg.out (Nat.le_refl _) (fun j hj => by cases hj)⟩
  case round =>
    obtain ⟨k, xs, hk, rfl, hown, hpre, hb⟩ := hrel
    by_cases hlt : k < l.length
    · obtain ⟨b1, o1, rfl, hlt1, hc0⟩ := HA.out.item rc_length (i := k) (x := l[k]) (by simp [hlt])
      have hc : ∀ j, j < 5 → wr.cell? ⟨b1, o1 + (k * 5 + j), none⟩ = (rc l[k])[j]? := fun j hj => (hb.cell (p := ⟨b1, o1 + (k * 5 + j), none⟩) hlt1).trans (hc0 j hj)
      have hne : ¬ b1 = w.heap.size := by omega
      have hne' : ¬ w.heap.size = b1 := by omega
      have hc' : ∀ j, j < 5 → wr.cell? ⟨b1, (o1 + k * 5) + j, none⟩ = (rc l[k])[j]? := fun j hj => by rw [Nat.add_assoc]; exact hc j hj
      obtain ⟨y0, y1, y2, y3, y4⟩ := five hc' rfl
      have hxl : xs.length = 5 * l.length := by rw [hpre.1, List.length_map]
      have hat : ∀ j, j < 5 → ∃ u, wr.cell? ⟨w.heap.size, k * 5 + j, none⟩ = some u := fun j hj => by
        rw [hown.cellAt (k * 5 + j) (by omega)]
        exact ⟨_, List.getElem?_eq_getElem (by omega)⟩
      have hfr := fun j => hown.frozenAt j
      obtain ⟨d0, z0⟩ := hat 0 (by omega)
      obtain ⟨d1, z1⟩ := hat 1 (by omega)
      obtain ⟨d2, z2⟩ := hat 2 (by omega)
      obtain ⟨d3, z3⟩ := hat 3 (by omega)
      obtain ⟨d4, z4⟩ := hat 4 (by omega)
      rw [Nat.add_zero] at z0
      have q0 := hfr (k * 5)
      have q1 := hfr (k * 5 + 1)
      have q2 := hfr (k * 5 + 2)
      have q3 := hfr (k * 5 + 3)
      have q4 := hfr (k * 5 + 4)
      have Hown := Lib.hid hown
      have Hpre := Lib.hid hpre
      have Hb := Lib.hid hb
      clear hc hc0 hc' hat hfr hown hpre hb hxl
      have i0 : (0 : Int) ≤ (k : Int) := by omega
      have i1 : (k : Int) < (l.length : Int) := by omega
      go_wp2
      go_still_tail 30, (by kernel_rfl)
      go_wp2
      go_roundw
      case rel =>
        have hkm : k < (l.map gv).length := by rw [List.length_map]; exact hlt
        refine ⟨k + 1, put5 xs (k * 5) (.int .i64 l[k].k) (.int .i32 (wrap32 l[k].n)) (.string l[k].s) (.int .i64 l[k].re) (.int .i64 l[k].im), by omega, by go_num, ?_, ?_, ?_⟩
        · exact own_drew (own_put5 Hown.out (k * 5) (.int .i64 l[k].k) (.int .i32 (wrap32 l[k].n)) (.string l[k].s) (.int .i64 l[k].re) (.int .i64 l[k].im))
        · exact Hpre.out.step hkm (by rw [List.getElem_map]; rfl)
        · exact (((((Hb.out.setCell (Nat.le_refl _) _).setCell (Nat.le_refl _) _).setCell (Nat.le_refl _) _).setCell (Nat.le_refl _) _).setCell (Nat.le_refl _) _).drew
      case measure => simp [intOf]; omega
    · obtain rfl : k = l.length := by omega
      have hx := hpre
      rw [show l.length = (l.map gv).length by rw [List.length_map]] at hx
      have hw := hx.whole fc_length
      subst hw
      go_wp2
      go_ret
      exact ⟨_, rfl, Rd.of_own hown, hb⟩
end Go.Proofs.YtgfpadgjmkfmiaaGreatDoor
