/-
  The walk of tallied: each item as often as it stands in the list.
-/
import Derived.Test.YtgfpadgjmkfmiaaGreatDoorTallied
namespace Go.Proofs.YtgfpadgjmkfmiaaGreatDoor
open Go.RowKit Go.Maps

theorem tot_take_le (l : List It) (k : Nat) : tot ((dd l).take k) l ≤ l.length := by
  have h := tot_dd l
  have e : dd l = (dd l).take k ++ (dd l).drop k := (List.take_append_drop k (dd l)).symm
  have : tot (dd l) l = tot ((dd l).take k) l + tot ((dd l).drop k) l := by
    have e2 : tot ((dd l).take k ++ (dd l).drop k) l = tot ((dd l).take k) l + tot ((dd l).drop k) l := by
      unfold tot
      rw [List.map_append, List.sum_append]
    rw [← e] at e2
    exact e2
  omega

theorem dd_pos {l : List It} (h : l ≠ []) : 0 < (dd l).length := by
  rcases Nat.eq_zero_or_pos (dd l).length with h0 | h0
  · exfalso
    have e := List.eq_nil_of_length_eq_zero h0
    have h1 := tot_dd l
    rw [e] at h1
    exact h (List.eq_nil_of_length_eq_zero h1.symm)
  · exact h0

set_option maxRecDepth 100000 in
set_option maxHeartbeats 2000000 in
theorem tallied_at (A : Option Addr) (c : Nat) (l : List It) (w : World) (hl : l.length ≤ 2932031007402) (hA : Rd w A (l.flatMap fc)) (hwf : ∀ x ∈ l, WF x) :
    Calls Tryz.prog 29 #[.slice A l.length c] w fun e w' => e = .returned (.bool true) ∧ Below w.heap.size w w' := by
  have Htal := Lib.hid (tallied_list A c l w hl hA hwf)
  have HA := Lib.hid hA
  clear hA hwf
  by_cases hnil : l = []
  · subst hnil
    go_enter Tryz.func29, Tryz.ntmps29
    go_wp2_with fail
    refine Htal.out.mono ?_
    rintro e w1 ⟨B1, B2, c1, c2, rfl, _, _, hb1⟩
    have Hb1 := Lib.hid hb1
    clear hb1
    have e0 : dd [] = [] := rfl
    simp only [e0, List.length_nil]
    go_wp2
    refine wp_loop_rounds 1 ?_
    rw [rounds_succ]
    go_wp2
    go_ret
    exact ⟨rfl, Hb1.out⟩
  · have hp1 : 0 < l.length := List.length_pos_iff.2 hnil
    have hp2 : 0 < (dd l).length := dd_pos hnil
    clear hnil
    go_enter Tryz.func29, Tryz.ntmps29
    go_wp2_with fail
    refine Htal.out.mono ?_
    rintro e w1 ⟨B1, B2, c1, c2, rfl, hr1, hr2, hb1⟩
    have Hr1 := Lib.hid hr1
    have Hr2 := Lib.hid hr2
    have Hb1 := Lib.hid hb1
    clear hr1 hr2 hb1
    have hdl := dd_length_le l
    go_wp2
    have HA1 := Lib.hid (HA.out.below Hb1.out)
    go_loopw [5, 6] (fun s i wr => ∃ k : Nat, k ≤ (dd l).length ∧ i = .int .i64 k ∧ s = .int .i64 (tot ((dd l).take k) l) ∧ Below w1.heap.size w1 wr) (fun _ i _ => (dd l).length - (intOf i).toNat)
    case atStart => exact ⟨0, Nat.zero_le _, rfl, rfl, Below.refl _ _⟩
    case round =>
      obtain ⟨k, hk, rfl, rfl, hb⟩ := hrel
      by_cases hlt : k < (dd l).length
      · have Hb := Lib.hid hb
        clear hb
        have ht1 := tot_take_le l (k + 1)
        have ht2 : tot ((dd l).take (k + 1)) l = tot ((dd l).take k) l + cnt (dd l)[k] l := by rw [List.take_succ_eq_append_getElem hlt, tot_snoc]
        rw [ht2] at ht1
        have Ht2 := Lib.hid ht2
        clear ht2
        obtain ⟨x, hx⟩ : ∃ x, x = (dd l)[k] := ⟨_, rfl⟩
        rw [← hx] at ht1 Ht2
        have hxk : (dd l)[k]? = some x := by rw [hx]; simp [hlt]
        have hxc : (cv l (dd l))[k]? = some (.int .i64 (cnt x l)) := by rw [cv, List.getElem?_map, hxk]; rfl
        obtain ⟨b1, o1, rfl, hlt1, hc1⟩ := Hr1.out.item fc_length hxk
        obtain ⟨b2, o2, rfl, hlt2, hc2⟩ := Hr2.out.one hxc
        have Hc1 := Lib.hid hc1
        have Hc2 := Lib.hid hc2
        have i2 : (0 : Int) ≤ (k : Int) := by omega
        have i3 : (k : Int) < ((dd l).length : Int) := by omega
        clear hx hxk hxc hc1 hc2
        obtain ⟨wo, rfl⟩ : ∃ wo : World, wo = wr := ⟨_, rfl⟩
        go_wp2
        go_loopw [7, 8] (fun n j wr => ∃ m : Nat, m ≤ l.length ∧ j = .int .i64 m ∧ n = .int .i64 (cnt x (l.take m)) ∧ Below w1.heap.size w1 wr) (fun _ j _ => l.length - (intOf j).toNat)
        case atStart => exact ⟨0, Nat.zero_le _, rfl, rfl, Hb.out⟩
        case round =>
          obtain ⟨m, hm, rfl, rfl, hb⟩ := hrel
          by_cases hml : m < l.length
          · obtain ⟨b3, o3, rfl, hlt3, hc3⟩ := HA1.out.item fc_length (i := m) (x := l[m]) (by simp [hml])
            have hc4 : ∀ j, j < 5 → wr.cell? ⟨b3, (o3 + m * 5) + j, none⟩ = (fc l[m])[j]? := fun j hj => by
              rw [Nat.add_assoc]; exact (hb.cell (p := ⟨b3, o3 + (m * 5 + j), none⟩) hlt3).trans (hc3 j hj)
            have hc5 : ∀ j, j < 5 → wr.cell? ⟨b1, (o1 + k * 5) + j, none⟩ = (fc x)[j]? := fun j hj => by
              rw [Nat.add_assoc]; exact (hb.cell (p := ⟨b1, o1 + (k * 5 + j), none⟩) hlt1).trans (Hc1.out j hj)
            obtain ⟨y0, y1, y2, y3, y4⟩ := five hc4 rfl
            obtain ⟨x0, x1, x2, x3, x4⟩ := five hc5 rfl
            have Hb2 := Lib.hid hb
            have hcs : cnt x (l.take (m + 1)) = cnt x (l.take m) + if eqB x l[m] then 1 else 0 := by rw [List.take_succ_eq_append_getElem hml, cnt_snoc]
            have hcl := cnt_le x (l.take m)
            have hll : (l.take m).length ≤ m := List.length_take_le _ _
            have Hcs := Lib.hid hcs
            have g74 := Tryz.guard74
            have i0 : (0 : Int) ≤ (m : Int) := by omega
            have i1 : (m : Int) < (l.length : Int) := by omega
            have hrun := run_eq_item l[m] x
            unfold fv at hrun
            clear hc3 hc4 hc5 hb hcs
            by_cases he : eqB l[m] x = true
            · have he2 : eqB x l[m] = true := by rw [eqB_symm]; exact he
              have He := Lib.hid he2
              rw [he] at hrun
              clear he he2
              go_wp2
              go_quiet (fail)
              go_wp2
              go_roundw
              case rel => exact ⟨m + 1, by omega, by go_num, by rw [Hcs.out, if_pos He.out]; go_num, below_drewN Hb2.out _⟩
              case measure => simp [intOf]; omega
            · have he1 : eqB l[m] x = false := by simpa using he
              have he2 : ¬ eqB x l[m] = true := by rw [eqB_symm]; exact he
              have He := Lib.hid he2
              rw [he1] at hrun
              clear he he1 he2
              go_wp2
              go_quiet (fail)
              go_wp2
              go_roundw
              case rel => exact ⟨m + 1, by omega, by go_num, by rw [Hcs.out, if_neg He.out]; rfl, below_drewN Hb2.out _⟩
              case measure => simp [intOf]; omega
          · obtain rfl : m = l.length := by omega
            rw [List.take_length]
            have hcc : wr.cell? ⟨b2, o2 + k, none⟩ = some (.int .i64 (cnt x l)) := (hb.cell (p := ⟨b2, o2 + k, none⟩) hlt2).trans Hc2.out
            have Hb2 := Lib.hid hb
            clear hb
            go_wp2
            go_roundw
            case rel => exact ⟨k + 1, by omega, by go_num, by rw [Ht2.out]; go_num, Hb2.out⟩
            case measure => simp [intOf]; omega
      · obtain rfl : k = (dd l).length := by omega
        rw [List.take_length, tot_dd]
        go_wp2
        go_ret
        exact ⟨rfl, Hb1.out.trans (hb.mono Hb1.out.size)⟩
end Go.Proofs.YtgfpadgjmkfmiaaGreatDoor
