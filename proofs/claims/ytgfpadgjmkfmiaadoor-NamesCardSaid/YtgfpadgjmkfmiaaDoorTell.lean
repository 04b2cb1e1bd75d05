/-
  The contract of Tell at each of the seven errors that stand by themselves.
-/
import Derived.Test.YtgfpadgjmkfmiaaDoorAs
import Derived.Lib.Hide
namespace Go.Proofs.YtgfpadgjmkfmiaaDoor
open Go.RowKit

/-- The seven errors as they lie: each variable's cell, the handle of the type error, the pointers' rows, no two alike. -/
structure Held (A : Nat → Addr) (w : World) : Prop where
  glob : ∀ k, k < 7 → w.cell? ⟨k, 0, none⟩ = some (.iface 69 (.pointer (some (A k))))
  et : w.cell? ⟨7, 0, none⟩ = some (.iface 55 (.agg #[.pointer (some ⟨12, 24, none⟩)]))
  row : ∀ k, k < 7 → ∃ c t, w.heap[(A k).block]? = some (.cells c t (0, 0))
  ne : ∀ i j, i < 7 → j < 7 → i ≠ j → A i ≠ A j

theorem Held.size {A : Nat → Addr} {w : World} (h : Held A w) : 7 < w.heap.size := by
  rcases Nat.lt_or_ge 7 w.heap.size with g | g
  · exact g
  · have := h.et
    simp [World.cell?, Array.getElem?_eq_none g] at this

theorem Held.block {A : Nat → Addr} {w : World} (h : Held A w) {k : Nat} (hk : k < 7) : (A k).block < w.heap.size := by
  obtain ⟨c, t, e⟩ := h.row k hk
  rcases Nat.lt_or_ge (A k).block w.heap.size with g | g
  · exact g
  · rw [Array.getElem?_eq_none g] at e; cases e

theorem Held.mono {A : Nat → Addr} {w w' : World} (h : Held A w) (hb : Below w.heap.size w w') : Held A w' where
  glob k hk := by rw [hb.cell (p := ⟨k, 0, none⟩) (by have := h.size; show k < _; omega)]; exact h.glob k hk
  et := by rw [hb.cell (p := ⟨7, 0, none⟩) h.size]; exact h.et
  row k hk := by obtain ⟨c, t, e⟩ := h.row k hk; exact ⟨c, t, by rw [hb.block _ (h.block hk)]; exact e⟩
  ne := h.ne

theorem is_yes {A : Nat → Addr} (i j : Nat) (w : World) (hij : i = j) :
    Calls Tryd.prog 7 #[.iface 69 (.pointer (some (A i))), .iface 69 (.pointer (some (A j)))] w fun e w' => e = .returned (.bool true) ∧ w = w' := by
  subst hij; exact is_same _ _

theorem is_no {A : Nat → Addr} (i j : Nat) (w : World) (h : Held A w) (hi : i < 7) (hj : j < 7) (hij : i ≠ j) :
    Calls Tryd.prog 7 #[.iface 69 (.pointer (some (A i))), .iface 69 (.pointer (some (A j)))] w fun e w' => e = .returned (.bool false) ∧ w = w' := by
  obtain ⟨ca, ta, ea⟩ := h.row i hi
  obtain ⟨cb, tb, eb⟩ := h.row j hj
  exact is_other _ _ ca cb ta tb w (h.ne i j hi hj hij) ea eb

/-- The world inside Tell's loop: the result's cells, f's cells (v: its E), the list's seven cells. -/
abbrev tw (A : Nat → Addr) (w : World) (v : Int) : World :=
  ((w.alloc (.cells #[.int .i64 0, .int .i64 0, .string ⟨#[]⟩] 28)).alloc (.cells #[.int .i64 v, .int .i64 0, .string ⟨#[]⟩] 28)).alloc
    (.cells #[.iface 69 (.pointer (some (A 0))), .iface 69 (.pointer (some (A 1))), .iface 69 (.pointer (some (A 2))), .iface 69 (.pointer (some (A 3))), .iface 69 (.pointer (some (A 4))), .iface 69 (.pointer (some (A 5))), .iface 69 (.pointer (some (A 6)))] 24)

theorem tw_below (A : Nat → Addr) (w : World) (v : Int) : Below w.heap.size w (tw A w v) :=
  (((Below.refl _ _).alloc (Nat.le_refl _) _).alloc (by simp) _).alloc (by simp; omega) _

theorem tw_cell (A : Nat → Addr) (w : World) (v : Int) (m : Nat) (hm : m < 7) :
    (tw A w v).cell? ⟨w.heap.size + 1 + 1, m, none⟩ = some (.iface 69 (.pointer (some (A m)))) := by
  unfold tw
  rw [World.cell?_alloc_at _ _ _ _ (by simp)]
  match m, hm with
  | 0, _ => rfl
  | 1, _ => rfl
  | 2, _ => rfl
  | 3, _ => rfl
  | 4, _ => rfl
  | 5, _ => rfl
  | 6, _ => rfl

theorem tw_end (A : Nat → Addr) (w : World) (v : Int) {w2 : World}
    (hq : Below (w.heap.size + 5) (((tw A w v).alloc (.cells #[.pointer none] 31)).alloc (.cells #[.pointer none] 32)) w2) :
    w2.cell? ⟨w.heap.size + 1, 0, none⟩ = some (.int .i64 v) ∧ w2.cell? ⟨w.heap.size + 1, 1, none⟩ = some (.int .i64 0) ∧ w2.cell? ⟨w.heap.size + 1, 2, none⟩ = some (.string ⟨#[]⟩) ∧
    w2.cell? ⟨w.heap.size, 0, none⟩ = some (.int .i64 0) ∧ w2.cell? ⟨w.heap.size, 1, none⟩ = some (.int .i64 0) ∧ w2.cell? ⟨w.heap.size, 2, none⟩ = some (.string ⟨#[]⟩) ∧
    w2.frozen? ⟨w.heap.size, 0, none⟩ = false ∧ w2.frozen? ⟨w.heap.size, 1, none⟩ = false ∧ w2.frozen? ⟨w.heap.size, 2, none⟩ = false := by
  have e1 : w2.heap[w.heap.size + 1]? = some (.cells #[.int .i64 v, .int .i64 0, .string ⟨#[]⟩] 28 (0, 0)) := by
    rw [hq.block _ (by omega)]
    show (((((w.heap.push _).push _).push _).push _).push _)[w.heap.size + 1]? = _
    rw [Array.getElem?_push_lt (by first | (simp; done) | (simp; omega)), Array.getElem_push_lt (by first | (simp; done) | (simp; omega)), Array.getElem_push_lt (by first | (simp; done) | (simp; omega))]
    simp [Array.getElem_push]
  have e0 : w2.heap[w.heap.size]? = some (.cells #[.int .i64 0, .int .i64 0, .string ⟨#[]⟩] 28 (0, 0)) := by
    rw [hq.block _ (by omega)]
    show (((((w.heap.push _).push _).push _).push _).push _)[w.heap.size]? = _
    rw [Array.getElem?_push_lt (by first | (simp; done) | (simp; omega)), Array.getElem_push_lt (by first | (simp; done) | (simp; omega)), Array.getElem_push_lt (by first | (simp; done) | (simp; omega)), Array.getElem_push_lt (by first | (simp; done) | (simp; omega))]
    simp
  refine ⟨?_, ?_, ?_, ?_, ?_, ?_, ?_, ?_, ?_⟩
  all_goals simp [World.cell?, World.frozen?, e0, e1]

def fv (k m : Nat) : Int := if m ≤ k then 8 else k + 1
theorem fv_le {k m : Nat} (h : m ≤ k) : fv k m = 8 := if_pos h
theorem fv_gt {k m : Nat} (h : ¬ m ≤ k) : fv k m = k + 1 := if_neg h

set_option maxHeartbeats 1000000 in
theorem tell_at {A : Nat → Addr} (k : Nat) (hk : k < 7) (w : World) (h : Held A w) :
    Calls Tryd.prog 6 #[.iface 69 (.pointer (some (A k)))] w fun e w' => e = .returned (.agg #[.int .i64 (k + 1), .int .i64 0, .string ⟨#[]⟩]) ∧ Below w.heap.size w w' := by
  have hs := h.size
  have g0 := h.glob 0 (by omega)
  have g1 := h.glob 1 (by omega)
  have g2 := h.glob 2 (by omega)
  have g3 := h.glob 3 (by omega)
  have g4 := h.glob 4 (by omega)
  have g5 := h.glob 5 (by omega)
  have g6 := h.glob 6 (by omega)
  have s0 : 0 < w.heap.size := by omega
  have s1 : 1 < w.heap.size := by omega
  have s2 : 2 < w.heap.size := by omega
  have s3 : 3 < w.heap.size := by omega
  have s4 : 4 < w.heap.size := by omega
  have s5 : 5 < w.heap.size := by omega
  have s6 : 6 < w.heap.size := by omega
  go_enter Tryd.func6, Tryd.ntmps6
  go_wp2
  clear g0 g1 g2 g3 g4 g5 g6 s0 s1 s2 s3 s4 s5 s6
  go_loopw [23] (fun i wr => ∃ m : Nat, m ≤ 7 ∧ i = .int .i64 m ∧ wr = tw A w (fv k m)) (fun i _ => 7 - (intOf i).toNat)
  case atStart => exact ⟨0, by omega, rfl, by rw [fv_le (Nat.zero_le _)]⟩
  case round =>
    obtain ⟨m, hm, rfl, rfl⟩ := hrel
    by_cases h7 : m < 7
    · have hc := tw_cell A w (fv k m) m h7
      have hH := h.mono (tw_below A w (fv k m))
      by_cases hmk : m ≤ k
      · rw [fv_le hmk] at hc hH ⊢
        have e0 : 0 ≤ m := by omega
        by_cases he : m = k
        · have hy := fun W => is_yes (A := A) k m W he.symm
          have hn : fv k (m + 1) = (m : Int) + 1 := by rw [fv_gt (by omega), he]
          have Hn := Lib.hid hn
          have He := Lib.hid he
          clear hn he hmk
          go_wp2_with (go_at_call 7; refine (hy _).mono ?_; rintro e w' ⟨rfl, rfl⟩)
          go_roundw
          case rel => exact ⟨m + 1, by omega, by go_num, by rw [Hn.out]⟩
          case measure => simp [intOf]; omega
        · have hn : fv k (m + 1) = 8 := fv_le (by omega)
          have hy := fun W (hW : Held A W) => is_no (A := A) k m W hW (by omega) h7 (by omega)
          have Hn := Lib.hid hn
          have Hh := Lib.hid hH
          clear hn he hmk hH
          go_wp2_with (go_at_call 7; refine (hy _ Hh.out).mono ?_; rintro e w' ⟨rfl, rfl⟩)
          go_roundw
          case rel => exact ⟨m + 1, by omega, by go_num, by rw [Hn.out]⟩
          case measure => simp [intOf]; omega
      · rw [fv_gt hmk] at hc hH ⊢
        have e8 : ((k : Int) + 1 == 8) = false := by simp; omega
        have hn : fv k (m + 1) = (k : Int) + 1 := fv_gt (by omega)
        have Hn := Lib.hid hn
        clear hn
        go_wp2
        go_roundw
        case rel => exact ⟨m + 1, by omega, by go_num, by rw [Hn.out]⟩
        case measure => simp [intOf]; omega
    · obtain rfl : m = 7 := by omega
      rw [fv_gt (by omega)]
      clear hm h7
      have hT := tw_below A w ((k : Int) + 1)
      have hgW : ∀ W, Below w.heap.size w W → W.cell? ⟨7, 0, none⟩ = some (.iface 55 (.agg #[.pointer (some ⟨12, 24, none⟩)])) := fun W hW => (h.mono hW).et
      have HG := Lib.hid hgW
      clear hgW
      go_wp2_with fail
      refine (as_miss34 _ _ _ (HG.out _ ((hT.alloc (by simp; omega) _).alloc (by simp; omega) _))).mono ?_
      rintro e w1 ⟨rfl, hb1⟩
      have hB1 := ((hT.alloc (by simp; omega) (.cells #[.pointer none] 31)).alloc (by simp; omega) (.cells #[.pointer none] 32)).trans (hb1.mono (by simp; omega))
      have HB1 := Lib.hid hb1
      clear hb1
      go_wp2_with fail
      refine (as_miss37 _ _ _ (HG.out _ hB1)).mono ?_
      rintro e w2 ⟨rfl, hb2⟩
      have hB2 := hB1.trans (hb2.mono hB1.size)
      have hz := HB1.out.size
      have hq : Below (w.heap.size + 5) (((tw A w ((k : Int) + 1)).alloc (.cells #[.pointer none] 31)).alloc (.cells #[.pointer none] 32)) w2 := (HB1.out.mono (by simp)).trans (hb2.mono (by simp at hz; omega))
      obtain ⟨c0, c1, c2, d0, d1, d2, f0, f1, f2⟩ := tw_end A w ((k : Int) + 1) hq
      have HB2 := Lib.hid hB2
      clear hB2 hB1 hT hb2 hz hq
      go_wp2
      exact bodyPost_ret (v := .agg #[.int .i64 ((k : Int) + 1), .int .i64 0, .string ⟨#[]⟩]) (by simp [results, Tryd.results6, go_sem, d0, d1, d2]) rfl ⟨rfl, ((HB2.out.setCell (Nat.le_refl _) _).setCell (Nat.le_refl _) _).setCell (Nat.le_refl _) _⟩
end Go.Proofs.YtgfpadgjmkfmiaaDoor
