/-
  The walks of Kept, of its closure, and of Keep.
-/
import Derived.Test.YtgfpadgjmkfmiaaGreatDoorProg
import Derived.Test.YtgfpadgjmkfmiaaGreatDoorWords
import Derived.WalkSpells
namespace Go.Proofs.YtgfpadgjmkfmiaaGreatDoor
open Go.RowKit

/-- Is the word longer than n? -/
def gtB (n : Int) (s : ByteArray) : Bool := decide (n < (s.size : Int))
def lw (n : Int) (l : List ByteArray) : List ByteArray := l.filter (gtB n)
theorem lw_snoc_yes {n : Int} {l : List ByteArray} {s : ByteArray} (h : gtB n s = true) : lw n (l ++ [s]) = lw n l ++ [s] := by simp [lw, List.filter_append, h]
theorem lw_snoc_no {n : Int} {l : List ByteArray} {s : ByteArray} (h : gtB n s = false) : lw n (l ++ [s]) = lw n l := by simp [lw, List.filter_append, h]
theorem lw_length (n : Int) (l : List ByteArray) : (lw n l).length ≤ l.length := List.length_filter_le _ _

theorem Tryz.info9 : (Tryz.prog.info? 9).map (fun i => (i.zero, i.size, i.bytes)) = some (some (.string ⟨#[]⟩), 1, 16) := by kernel_rfl

theorem kept1_at (s : ByteArray) (n : Int) (a : Addr) (w : World) (ha : w.cell? a = some (.int .i64 n)) :
    Calls Tryz.prog 48 #[.string s, .pointer (some a)] w fun e w' => e = .returned (.bool (gtB n s)) ∧ w = w' := by
  go_enter Tryz.func48, Tryz.ntmps48
  go_wp2
  go_ret
  exact ⟨rfl, rfl⟩

set_option maxHeartbeats 400000 in
theorem keep_at (A : Option Addr) (c : Nat) (l : List ByteArray) (n : Int) (a : Addr) (w : World) (hl : l.length ≤ 8796093022207) (hA : Rd w A (l.map Value.string)) (ha : w.cell? a = some (.int .i64 n)) :
    Calls Tryz.prog 47 #[.slice A l.length c, .func (.func 48) #[] #[.pointer (some a)]] w fun e w' => ∃ (B : Option Addr) (cb : Nat), e = .returned (.slice B (lw n l).length cb) ∧ Rd w' B ((lw n l).map Value.string) ∧ Below w.heap.size w w' := by
  obtain ⟨ti, hi, hz0, hz1, hz2⟩ := info_parts Tryz.info9
  have HA := Lib.hid hA
  have Ha := Lib.hid ha
  have hab := World.block_lt_of_cell? w a ha
  clear hA ha
  go_enter Tryz.func47, Tryz.ntmps47
  go_wp2
  go_loopw [5, 11] (fun v i wr => ∃ k : Nat, k ≤ l.length ∧ i = .int .i64 k ∧ wr.ownsRow w.heap.size 9 1 v (lw n (l.take k)).length ((lw n (l.take k)).map Value.string) ∧ Below w.heap.size w wr) (fun _ i _ => l.length - (intOf i).toNat)
  case atStart => exact ⟨0, Nat.zero_le _, rfl, World.ownsRow_made _ _ 0 (Nat.le_refl _) (Nat.zero_le _) rfl, (Below.refl _ _).alloc (Nat.le_refl _) _⟩
  case round =>
    obtain ⟨k, hk, rfl, hown, hb⟩ := hrel
    by_cases hlt : k < l.length
    · have hx : (l.map Value.string)[k]? = some (.string l[k]) := by simp [hlt]
      obtain ⟨b1, o1, rfl, _, c1⟩ := (HA.out.below hb).one hx
      have ht : l.take (k + 1) = l.take k ++ [l[k]] := by rw [List.take_succ_eq_append_getElem hlt]
      have hca : wr.cell? a = some (.int .i64 n) := by rw [hb.cell hab]; exact Ha.out
      have hcon := kept1_at l[k] n a wr hca
      have hln := lw_length n (l.take k)
      have hlt2 : (l.take k).length ≤ k := List.length_take_le _ _
      have Hb := Lib.hid hb
      have Ht := Lib.hid ht
      have Hcon := Lib.hid hcon
      have Hown := Lib.hid hown
      clear hb hx ht hca hcon hown
      have i0 : (0 : Int) ≤ (k : Int) := by omega
      have i1 : (k : Int) < (l.length : Int) := by omega
      go_wp2_with fail
      refine Hcon.out.mono ?_
      rintro e w1 ⟨rfl, rfl⟩
      by_cases hg : gtB n l[k] = true
      · have hcon2 : gtB n l[k] = true := hg
        have hls : lw n (l.take (k + 1)) = lw n (l.take k) ++ [l[k]] := by rw [Ht.out]; exact lw_snoc_yes hg
        have Hls := Lib.hid hls
        clear hls hg
        have hbase : w.heap.size ≤ wr.heap.size := Hb.out.size
        go_wp2_with (at_builtin; go_loud (refine wpList_append_own _ rfl _ _ 47 rfl w.heap.size 9 ti (.string ⟨#[]⟩) 1 16 Tryz.underlying47 hi hz0 hz1 hz2 rfl (by decide) _ _ _ rfl (Hown.out.alloc _) ⟨wr.heap.size, 0, none⟩ 1 1 [.string l[k]] rfl rfl ?c1 ?c2 ?c3 ?c4 ?c5 ?_))
        case c1 => exact cell_one_new _ _ _
        case c2 => simp [Value.oneCell']
        case c3 => unfold maxLen; omega
        case c4 => omega
        case c5 => simp; omega
        intro v' w1 hown' hgrow _
        have Hown' := Lib.hid hown'
        have Hgrow := Lib.hid hgrow
        clear hown' hgrow
        go_wp2
        go_roundw
        case rel => exact ⟨k + 1, by omega, by go_num, by rw [Hls.out]; simpa using Hown'.out, (Hb.out.alloc Hb.out.size _).grown Hgrow.out (by simp; omega) (fun j hj => (Hown.out.lt j hj).1)⟩
        case measure => simp [intOf]; omega
      · have hcon2 : gtB n l[k] = false := by simpa using hg
        have hls : lw n (l.take (k + 1)) = lw n (l.take k) := by rw [Ht.out]; exact lw_snoc_no hcon2
        have Hls := Lib.hid hls
        clear hls hg
        go_wp2
        go_roundw
        case rel => exact ⟨k + 1, by omega, by go_num, by rw [Hls.out]; exact Hown.out, Hb.out⟩
        case measure => simp [intOf]; omega
    · obtain rfl : k = l.length := by omega
      rw [List.take_length] at hown
      obtain ⟨B, cb, rfl⟩ := own_shape hown
      go_wp2
      go_ret
      exact ⟨B, cb, rfl, Rd.of_own hown, hb⟩

set_option maxHeartbeats 400000 in
theorem kept_at (A : Option Addr) (c : Nat) (l : List ByteArray) (n : Int) (w : World) (hl : l.length ≤ 8796093022207) (hA : Rd w A (l.map Value.string)) :
    Calls Tryz.prog 28 #[.slice A l.length c, .int .i64 n] w fun e w' => ∃ (B : Option Addr) (cb : Nat), e = .returned (.slice B (lw n l).length cb) ∧ Rd w' B ((lw n l).map Value.string) ∧ Below w.heap.size w w' := by
  have hmf : ∀ (fn : Fn) (first cap : Array Value) (w : World), (Instr.makeFunc fn first cap).run Tryz.prog w = .ok (.func fn first cap) w := fun _ _ _ _ => rfl
  have hb0 : Below w.heap.size w (w.alloc (.cells #[.int .i64 n] 3)) := (Below.refl _ _).alloc (Nat.le_refl _) _
  have hcon := keep_at A c l n ⟨w.heap.size, 0, none⟩ (w.alloc (.cells #[.int .i64 n] 3)) hl (hA.below hb0) (by simp)
  have Hcon := Lib.hid hcon
  have Hb0 := Lib.hid hb0
  clear hcon hA hb0 hl
  go_enter Tryz.func28, Tryz.ntmps28
  go_wp2_with fail
  refine Hcon.out.mono ?_
  rintro e w1 ⟨B, cb, rfl, hr, hb1⟩
  have Hr := Lib.hid hr
  have Hb1 := Lib.hid hb1
  clear hr hb1
  go_wp2
  go_ret
  exact ⟨B, cb, rfl, Hr.out, Hb0.out.trans (Hb1.out.mono Hb0.out.size)⟩
end Go.Proofs.YtgfpadgjmkfmiaaGreatDoor
