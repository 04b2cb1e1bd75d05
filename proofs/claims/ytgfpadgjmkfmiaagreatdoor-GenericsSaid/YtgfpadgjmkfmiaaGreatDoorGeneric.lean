/-
  The walk of generic: Fold, Keep and Tally over the numbers, the words and the items of one list.
-/
import Derived.Test.YtgfpadgjmkfmiaaGreatDoorSum
import Derived.Test.YtgfpadgjmkfmiaaGreatDoorNamed
import Derived.Test.YtgfpadgjmkfmiaaGreatDoorFolded
import Derived.Test.YtgfpadgjmkfmiaaGreatDoorKept
import Derived.Maps.AppendAt
namespace Go.Proofs.YtgfpadgjmkfmiaaGreatDoor
open Go.RowKit Go.Maps

/-- The numbers, the words of a list of items. -/
def nums (l : List It) : List Int := l.map (·.n)
def wrds (l : List It) : List ByteArray := l.map (·.s)
theorem nums_length (l : List It) : (nums l).length = l.length := List.length_map _
theorem wrds_length (l : List It) : (wrds l).length = l.length := List.length_map _
theorem nums_snoc (l : List It) (x : It) : nums (l ++ [x]) = nums l ++ [x.n] := by simp [nums]
theorem wrds_snoc (l : List It) (x : It) : wrds (l ++ [x]) = wrds l ++ [x.s] := by simp [wrds]

/-- A step of the law's own argument, as it lies in its box. -/
abbrev obox (w : World) (kd a bb : Int) (s t : ByteArray) (A : Option Addr) (n c : Nat) : World :=
  w.alloc (.cells #[.int .i64 kd, .int .i64 a, .int .i64 bb, .string s, .string t, .slice A n c] 27)

theorem obox_cells {w wX : World} {kd a bb : Int} {s t : ByteArray} {A : Option Addr} {n c : Nat} (h : Below (w.heap.size + 1) (obox w kd a bb s t A n c) wX) :
    wX.cell? ⟨w.heap.size, 1, none⟩ = some (.int .i64 a) ∧ wX.cell? ⟨w.heap.size, 5, none⟩ = some (.slice A n c) := by
  constructor
  · rw [h.cell (p := ⟨w.heap.size, 1, none⟩) (by simp), World.cell?_alloc_at _ _ _ _ (by simp)]; rfl
  · rw [h.cell (p := ⟨w.heap.size, 5, none⟩) (by simp), World.cell?_alloc_at _ _ _ _ (by simp)]; rfl

theorem obox_below {w wX : World} {kd a bb : Int} {s t : ByteArray} {A : Option Addr} {n c : Nat} (h : Below (w.heap.size + 1) (obox w kd a bb s t A n c) wX) : Below w.heap.size w wX :=
  ((Below.refl _ _).alloc (Nat.le_refl _) _).trans (h.mono (by omega))

/-- What holds at the head of the loop. -/
structure GR (W0 : World) (base : Nat) (a : Int) (l : List It) (k : Nat) (v3 v4 v6 : Value) (wr : World) : Prop where
  o3 : wr.ownsRow base 3 1 v3 (nums (l.take k)).length ((nums (l.take k)).map (Value.int .i64))
  o4 : wr.ownsRow base 9 1 v4 (wrds (l.take k)).length ((wrds (l.take k)).map Value.string)
  o6 : wr.ownsRow base 9 1 v6 (lw a (wrds (l.take k))).length ((lw a (wrds (l.take k))).map Value.string)
  ap : v6.ownBlock = none ∨ v6.ownBlock ≠ v4.ownBlock
  be : Below base W0 wr

set_option maxRecDepth 100000 in
set_option maxHeartbeats 4000000 in
theorem generic_at (kd a bb : Int) (s t : ByteArray) (A : Option Addr) (c : Nat) (l : List It) (w : World) (hl : l.length ≤ 2932031007402) (hA : Rd w A (l.flatMap rc)) (hwf : ∀ x ∈ l, WF (gv x)) :
    Calls Tryz.prog 10 #[.agg #[.int .i64 kd, .int .i64 a, .int .i64 bb, .string s, .string t, .slice A l.length c]] w fun e w' => e = .returned (.bool true) ∧ Below w.heap.size w w' := by
  obtain ⟨ti, hi, hz0, hz1, hz2⟩ := info_parts Tryz.info9
  obtain ⟨tj, hj, hy0, hy1, hy2⟩ := info_parts Tryz.info3
  have HA := Lib.hid hA
  have Hwf := Lib.hid hwf
  have Hi := Lib.hid hi
  have Hz0 := Lib.hid hz0
  have Hz1 := Lib.hid hz1
  have Hz2 := Lib.hid hz2
  have Hj := Lib.hid hj
  have Hy0 := Lib.hid hy0
  have Hy1 := Lib.hid hy1
  have Hy2 := Lib.hid hy2
  clear hA hwf hi hz0 hz1 hz2 hj hy0 hy1 hy2
  go_enter Tryz.func10, Tryz.ntmps10
  go_wp2
  go_loopw [3, 4, 5, 6, 7] (fun v3 v4 v5 v6 i wr => ∃ k : Nat, k ≤ l.length ∧ i = .int .i64 k ∧ v5 = .string (jn ⟨#[]⟩ (nums (l.take k))) ∧ GR (obox w kd a bb s t A l.length c) (w.heap.size + 1) a l k v3 v4 v6 wr) (fun _ _ _ _ i _ => l.length - (intOf i).toNat)
  case atStart => exact ⟨0, Nat.zero_le _, rfl, rfl, ⟨World.ownsRow_nil _ _ _ _, World.ownsRow_nil _ _ _ _, World.ownsRow_nil _ _ _ _, Or.inl rfl, Below.refl _ _⟩⟩
  case round =>
    obtain ⟨k, hk, rfl, rfl, hr⟩ := hrel
    obtain ⟨q1, q5⟩ := obox_cells hr.be
    by_cases hlt : k < l.length
    · obtain ⟨b1, o1, rfl, hlt1, hc0⟩ := HA.out.item rc_length (i := k) (x := l[k]) (by simp [hlt])
      have hc : ∀ wX, Below w.heap.size w wX → ∀ j, j < 5 → wX.cell? ⟨b1, (o1 + k * 5) + j, none⟩ = (rc l[k])[j]? := fun wX hX j hj => by
        rw [Nat.add_assoc]; exact (hX.cell (p := ⟨b1, o1 + (k * 5 + j), none⟩) hlt1).trans (hc0 j hj)
      obtain ⟨_, y1, y2, _, _⟩ := five (hc wr (obox_below hr.be)) rfl
      have Hc := Lib.hid hc
      have Hr := Lib.hid hr
      have hnl : (nums (l.take k)).length ≤ k := by rw [nums_length]; exact List.length_take_le _ _
      have hwl : (wrds (l.take k)).length ≤ k := by rw [wrds_length]; exact List.length_take_le _ _
      have hbw : w.heap.size + 1 ≤ wr.heap.size := by have := hr.be.size; simpa using this
      clear hc hc0 hr
      have i0 : (0 : Int) ≤ (k : Int) := by omega
      have i1 : (k : Int) < (l.length : Int) := by omega
      go_wp2_with (at_builtin; refine wpList_append_own_at _ rfl _ _ 63 rfl (w.heap.size + 1) 3 tj _ 1 8 Tryz.underlying63 Hj.out Hy0.out Hy1.out Hy2.out rfl (by decide) _ _ _ rfl (Hr.out.o3.alloc _) ⟨wr.heap.size, 0, none⟩ 1 1 [.int .i64 l[k].n] rfl rfl ?c1 ?c2 ?c3 ?c4 ?c5 ?_)
      case c1 => exact cell_one_new _ _ _
      case c2 => simp [Value.oneCell']
      case c3 => unfold maxLen; omega
      case c4 => omega
      case c5 => simp; omega
      intro v3' w1 ho3 hg3 _ _
      have ho41 := (Hr.out.o4.alloc _).kept hg3 (own_apart Hr.out.o3 Hr.out.o4 (by decide))
      have ho61 := (Hr.out.o6.alloc _).kept hg3 (own_apart Hr.out.o3 Hr.out.o6 (by decide))
      have hbe1 := (Hr.out.be.alloc hbw _).grown hg3 (by simp; omega) (fun j hj => (Hr.out.o3.lt j hj).1)
      have hbw1 : w.heap.size + 1 ≤ w1.heap.size := by have := hbe1.size; simpa using this
      have Ho3 := Lib.hid ho3
      have Ho41 := Lib.hid ho41
      have Ho61 := Lib.hid ho61
      have Hbe1 := Lib.hid hbe1
      clear ho3 ho41 ho61 hbe1 hg3 y1 y2 q1 q5
      go_wp2_with (at_builtin; refine wpList_append_own_at _ rfl _ _ 47 rfl (w.heap.size + 1) 9 ti _ 1 16 Tryz.underlying47 Hi.out Hz0.out Hz1.out Hz2.out rfl (by decide) _ _ _ rfl (Ho41.out.alloc _) ⟨w1.heap.size, 0, none⟩ 1 1 [.string l[k].s] rfl rfl ?d1 ?d2 ?d3 ?d4 ?d5 ?_)
      case d1 => exact cell_one_new _ _ _
      case d2 => simp [Value.oneCell']
      case d3 => unfold maxLen; omega
      case d4 => omega
      case d5 => simp; omega
      intro v4' w2 ho4 hg4 _ hloc4
      have ho32 := (Ho3.out.alloc _).kept hg4 (own_apart Ho41.out Ho3.out (by decide))
      have ho62 := (Ho61.out.alloc _).kept hg4 Hr.out.ap
      have hbe2 := (Hbe1.out.alloc hbw1 _).grown hg4 (by simp; omega) (fun j hj => (Ho41.out.lt j hj).1)
      have hap2 : u6.ownBlock = none ∨ u6.ownBlock ≠ v4'.ownBlock := by
        rcases hloc4 with h1 | h1
        · rw [h1]; exact Hr.out.ap
        · refine Or.inr fun he => ?_
          rw [h1] at he
          have := (Ho61.out.lt _ he).2
          omega
      have hbw2 : w.heap.size + 1 ≤ w2.heap.size := by have := hbe2.size; simpa using this
      have hws2 : w.heap.size < w2.heap.size := by omega
      obtain ⟨q1, q5⟩ := obox_cells hbe2
      have Ho32 := Lib.hid ho32
      have Ho4 := Lib.hid ho4
      have Ho62 := Lib.hid ho62
      have Hap2 := Lib.hid hap2
      have Hbe2 := Lib.hid hbe2
      have hjz : (jn ⟨#[]⟩ (nums (l.take k))).size ≤ 140737488355328 := by
        rw [jn_size]
        show 0 + _ ≤ _
        omega
      have hadd := add_one_byte (P := Tryz.prog) _ hjz l[k].n
      have hconv := conv_one_byte l[k].n
      have Hnu := Lib.hid (show nums (l.take (k + 1)) = nums (l.take k) ++ [l[k].n] by rw [List.take_succ_eq_append_getElem hlt, nums_snoc])
      have Hwo := Lib.hid (show wrds (l.take (k + 1)) = wrds (l.take k) ++ [l[k].s] by rw [List.take_succ_eq_append_getElem hlt, wrds_snoc])
      have hlwl := lw_length a (wrds (l.take k))
      clear ho32 ho4 ho62 hap2 hbe2 hg4 hloc4 hjz
      by_cases hg : gtB a l[k].s = true
      · have hgt : a < (l[k].s.size : Int) := by simpa [gtB] using hg
        have Hg := Lib.hid hg
        clear hg
        go_wp2_with (at_builtin; refine wpList_append_own_at _ rfl _ _ 47 rfl (w.heap.size + 1) 9 ti _ 1 16 Tryz.underlying47 Hi.out Hz0.out Hz1.out Hz2.out rfl (by decide) _ _ _ rfl ((Ho62.out.alloc _).alloc _) ⟨w2.heap.size + 1, 0, none⟩ 1 1 [.string l[k].s] rfl rfl ?e1 ?e2 ?e3 ?e4 ?e5 ?_)
        case e1 =>
          intro j u hu
          have h := cell_one_new (w2.alloc (.cells #[.int .u8 (l[k].n % 256)] 5)) (.string l[k].s) 9 j u hu
          simpa using h
        case e2 => simp [Value.oneCell']
        case e3 => unfold maxLen; omega
        case e4 => omega
        case e5 => simp; omega
        intro v6' w3 ho6 hg6 _ hloc6
        have ho33 := ((Ho32.out.alloc _).alloc _).kept hg6 (own_apart Ho62.out Ho32.out (by decide))
        have ho43 := ((Ho4.out.alloc _).alloc _).kept hg6 (by
          rcases Hap2.out with h1 | h1
          · rw [h1]
            cases h2 : v4'.ownBlock
            · exact Or.inl rfl
            · exact Or.inr (by simp)
          · exact Or.inr (fun he => h1 he.symm))
        have hap3 : v6'.ownBlock = none ∨ v6'.ownBlock ≠ v4'.ownBlock := by
          rcases hloc6 with h1 | h1
          · rw [h1]; exact Hap2.out
          · refine Or.inr fun he => ?_
            rw [h1] at he
            have := (Ho4.out.lt _ he.symm).2
            omega
        have hbe3 := ((Hbe2.out.alloc hbw2 (.cells #[.int .u8 (l[k].n % 256)] 5)).alloc (by simp; omega) _).grown hg6 (by simp; omega) (fun j hj => (Ho62.out.lt j hj).1)
        have Ho33 := Lib.hid ho33
        have Ho43 := Lib.hid ho43
        have Ho6 := Lib.hid ho6
        have Hap3 := Lib.hid hap3
        have Hbe3 := Lib.hid hbe3
        clear ho33 ho43 ho6 hap3 hbe3 hg6 hloc6
        go_wp2
        go_roundw
        case rel => exact ⟨k + 1, by omega, by go_num, by rw [Hnu.out, jn_snoc], ⟨by rw [Hnu.out]; simpa using Ho33.out, by rw [Hwo.out]; simpa using Ho43.out, by rw [Hwo.out, lw_snoc_yes Hg.out]; simpa using Ho6.out, Hap3.out, Hbe3.out⟩⟩
        case measure => simp [intOf]; omega
      · have hgt : ¬ a < (l[k].s.size : Int) := by simpa [gtB] using hg
        have hgf : gtB a l[k].s = false := by simpa using hg
        have Hg := Lib.hid hgf
        clear hg hgf
        go_wp2
        go_roundw
        case rel => exact ⟨k + 1, by omega, by go_num, by rw [Hnu.out, jn_snoc], ⟨by rw [Hnu.out]; simpa using Ho32.out.alloc _, by rw [Hwo.out]; simpa using Ho4.out.alloc _, by rw [Hwo.out, lw_snoc_no Hg.out]; exact Ho62.out.alloc _, Hap2.out, Hbe2.out.alloc hbw2 _⟩⟩
        case measure => simp [intOf]; omega
    · obtain rfl : k = l.length := by omega
      obtain ⟨ho3, ho4, ho6, _, hbe⟩ := hr
      rw [List.take_length] at ho3 ho4 ho6 ⊢
      obtain ⟨A3, c3, rfl⟩ := own_shape ho3
      obtain ⟨A4, c4, rfl⟩ := own_shape ho4
      obtain ⟨A6, c6, rfl⟩ := own_shape ho6
      have hnl := nums_length l
      have hwl := wrds_length l
      have Hf := Lib.hid (folded_at A3 c3 (nums l) wr (by omega) (Rd.of_own ho3))
      have R4 := Lib.hid (Rd.of_own ho4)
      have R6 := Lib.hid (Rd.of_own ho6)
      have Hbe := Lib.hid hbe
      have Hnl := Lib.hid hnl
      have Hwl := Lib.hid hwl
      clear ho3 ho4 ho6 hbe hnl hwl
      go_wp2_with fail
      refine Hf.out.mono ?_
      rintro e w1 ⟨rfl, hb1⟩
      have Hb1 := Lib.hid (Hbe.out.trans (hb1.mono (by have := Hbe.out.size; simpa using this)))
      have R41 := Lib.hid (R4.out.below hb1)
      have R61 := Lib.hid (R6.out.below hb1)
      clear hb1 q1 q5
      obtain ⟨q1, q5⟩ := obox_cells Hb1.out
      go_wp2_with fail
      refine (kept_at A4 c4 (wrds l) a w1 (by have := Hwl.out; omega) R41.out).mono ?_
      rintro e w2 ⟨B, cb, rfl, hrb, hb2⟩
      have Hb2 := Lib.hid (Hb1.out.trans (hb2.mono (by have := Hb1.out.size; simpa using this)))
      have RB := Lib.hid hrb
      have R62 := Lib.hid (R61.out.below hb2)
      clear hb2 hrb q1 q5
      obtain ⟨q1, q5⟩ := obox_cells Hb2.out
      go_wp2_with fail
      refine (given_list A c l w2 hl (HA.out.below (obox_below Hb2.out))).mono ?_
      rintro e w3 ⟨G, rfl, hrg, hb3⟩
      have Hb3 := Lib.hid (Hb2.out.trans (hb3.mono (by have := Hb2.out.size; simpa using this)))
      have RB3 := Lib.hid (RB.out.below hb3)
      have R63 := Lib.hid (R62.out.below hb3)
      have RG := Lib.hid hrg
      clear hb3 hrg q1 q5
      go_wp2_with fail
      refine (named_at B A6 cb c6 (lw a (wrds l)) w3 (by have h1 := lw_length a (wrds l); have h2 := Hwl.out; omega) RB3.out R63.out).mono ?_
      rintro e w4 ⟨rfl, hb4⟩
      have Hb4 := Lib.hid (Hb3.out.trans (hb4.mono (by have := Hb3.out.size; simpa using this)))
      have RG4 := Lib.hid (RG.out.below hb4)
      clear hb4
      have htl := tallied_at G l.length (l.map gv) w4 (by rw [List.length_map]; exact hl) RG4.out (fun x hx => by obtain ⟨y, hy, rfl⟩ := List.mem_map.1 hx; exact Hwf.out y hy)
      rw [List.length_map] at htl
      have Htl := Lib.hid htl
      clear htl
      go_wp2_with fail
      refine Htl.out.mono ?_
      rintro e w5 ⟨rfl, hb5⟩
      have Hb5 := Lib.hid (Hb4.out.trans (hb5.mono (by have := Hb4.out.size; simpa using this)))
      clear hb5
      go_wp2
      go_ret
      exact ⟨rfl, obox_below Hb5.out⟩
end Go.Proofs.YtgfpadgjmkfmiaaGreatDoor
