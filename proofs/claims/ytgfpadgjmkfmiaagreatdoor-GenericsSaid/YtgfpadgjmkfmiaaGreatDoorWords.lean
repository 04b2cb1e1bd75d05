/-
  Words for the walks of the statement Generics: an item, its cells in either package's type, a slice that reads as a list of cells; plain lemmas on flat lists.
-/
import Derived.WalkKit
import Derived.Lib.Hide
import Derived.Deep.Draws
namespace Go.Proofs.YtgfpadgjmkfmiaaGreatDoor
open Go.RowKit

/-- An item's five parts. -/
structure It where
  k : Int
  n : Int
  s : ByteArray
  re : Int
  im : Int

/-- Its cells as a flowlineref.Item. -/
def rc (x : It) : List Value := [.int .i64 x.k, .int .i64 x.n, .string x.s, .int .i64 x.re, .int .i64 x.im]
/-- Its cells as a value.Item. -/
def fc (x : It) : List Value := [.int .i64 x.k, .int .i32 x.n, .string x.s, .int .i64 x.re, .int .i64 x.im]
/-- As one value. -/
def fv (x : It) : Value := .agg #[.int .i64 x.k, .int .i32 x.n, .string x.s, .int .i64 x.re, .int .i64 x.im]

theorem rc_length (x : It) : (rc x).length = 5 := rfl
theorem fc_length (x : It) : (fc x).length = 5 := rfl

theorem flat_length {f : It → List Value} (hf : ∀ x, (f x).length = 5) : ∀ l : List It, (l.flatMap f).length = 5 * l.length
  | [] => rfl
  | x :: r => by rw [List.flatMap_cons, List.length_append, hf, flat_length hf r, List.length_cons]; omega

theorem flat_at {f : It → List Value} (hf : ∀ x, (f x).length = 5) : ∀ (l : List It) (i : Nat) (x : It), l[i]? = some x → ∀ j, j < 5 → (l.flatMap f)[i * 5 + j]? = (f x)[j]?
  | [], i, x, h, j, hj => by simp at h
  | y :: r, 0, x, h, j, hj => by
    obtain rfl : y = x := by simpa using h
    rw [List.flatMap_cons, List.getElem?_append_left (by rw [hf]; omega)]
    simp
  | y :: r, i + 1, x, h, j, hj => by
    rw [List.flatMap_cons, List.getElem?_append_right (by rw [hf]; omega), hf]
    have e : (i + 1) * 5 + j - 5 = i * 5 + j := by omega
    rw [e]
    exact flat_at hf r i x (by simpa using h) j hj

/-- The slice value with address A reads, from its first cell on, as the cells xs. -/
def Rd (w : World) (A : Option Addr) (xs : List Value) : Prop :=
  xs ≠ [] → ∃ b off, A = some ⟨b, off, none⟩ ∧ b < w.heap.size ∧ ∀ j u, xs[j]? = some u → w.cell? ⟨b, off + j, none⟩ = some u

theorem Rd.none_ {w : World} {A : Option Addr} : Rd w A [] := fun h => absurd rfl h

theorem Rd.below {w w' : World} {A : Option Addr} {xs : List Value} (h : Rd w A xs) (hb : Below w.heap.size w w') : Rd w' A xs := fun hx => by
  obtain ⟨b, off, e, hlt, hc⟩ := h hx
  exact ⟨b, off, e, Nat.lt_of_lt_of_le hlt hb.size, fun j u hu => by rw [hb.cell (p := ⟨b, off + j, none⟩) hlt]; exact hc j u hu⟩

theorem Rd.of_own {w : World} {base : Nat} {e : TypeId} {size n c : Nat} {A : Option Addr} {xs : List Value} (h : w.ownsRow base e size (.slice A n c) n xs) : Rd w A xs := fun hx => by
  have h2 := h
  obtain ⟨hl, hr⟩ := h
  rcases hr with ⟨e1, e2⟩ | ⟨g, cap, cur, e1, hb, hg, hrest⟩
  · exact absurd (List.eq_nil_of_length_eq_zero (by rw [hl, e2, Nat.zero_mul])) hx
  · injection e1 with eA _ _
    subst eA
    refine ⟨g, 0, rfl, ?_, fun j u hu => ?_⟩
    · rcases Nat.lt_or_ge g w.heap.size with h3 | h3
      · exact h3
      · rw [Array.getElem?_eq_none h3] at hg; cases hg
    · have := h2.cells (g := g) rfl j u hu
      unfold Addr.add at this
      by_cases hj : j = 0
      · simp only [hj, if_true] at this ⊢; exact this
      · simp only [hj, if_false] at this; exact this

theorem below_drewN {B : Nat} {a w : World} (h : Below B a w) (n : Nat) : Below B a (w.drewN n) := ⟨h.os, h.tape, h.output, h.size, h.block⟩

/-- A row of the call's own is a slice of that length. -/
theorem own_shape {w : World} {base : Nat} {e : TypeId} {size n : Nat} {v : Value} {xs : List Value} (h : w.ownsRow base e size v n xs) : ∃ A c, v = .slice A n c := by
  obtain ⟨_, hr⟩ := h
  rcases hr with ⟨e1, e2⟩ | ⟨g, cap, cur, e1, _⟩
  · exact ⟨none, 0, by rw [e1, e2]⟩
  · exact ⟨_, _, e1⟩

/-- What a slice of items reads at an index. -/
theorem Rd.item {w : World} {A : Option Addr} {f : It → List Value} (hf : ∀ x, (f x).length = 5) {l : List It} (h : Rd w A (l.flatMap f)) {i : Nat} {x : It} (hi : l[i]? = some x) :
    ∃ b off, A = some ⟨b, off, none⟩ ∧ b < w.heap.size ∧ ∀ j, j < 5 → w.cell? ⟨b, off + (i * 5 + j), none⟩ = (f x)[j]? := by
  have hl : i < l.length := by
    rcases Nat.lt_or_ge i l.length with h | h
    · exact h
    · rw [List.getElem?_eq_none h] at hi; cases hi
  have hne : l.flatMap f ≠ [] := fun e => by
    have := flat_length hf l
    rw [e] at this; simp at this; omega
  obtain ⟨b, off, e, hb, hc⟩ := h hne
  refine ⟨b, off, e, hb, fun j hj => ?_⟩
  have e2 := flat_at hf l i x hi j hj
  have e3 : (f x)[j]? = some ((f x)[j]'(by rw [hf]; exact hj)) := List.getElem?_eq_getElem _
  rw [e3] at e2 ⊢
  exact hc _ _ e2

/-- The cells of an item at a place. -/
theorem five {w : World} {b o : Nat} {f : It → List Value} {x : It} (h : ∀ j, j < 5 → w.cell? ⟨b, o + j, none⟩ = (f x)[j]?) {v0 v1 v2 v3 v4 : Value} (hf : f x = [v0, v1, v2, v3, v4]) :
    w.cell? ⟨b, o, none⟩ = some v0 ∧ w.cell? ⟨b, o + 1, none⟩ = some v1 ∧ w.cell? ⟨b, o + 2, none⟩ = some v2 ∧ w.cell? ⟨b, o + 3, none⟩ = some v3 ∧ w.cell? ⟨b, o + 4, none⟩ = some v4 := by
  rw [hf] at h
  exact ⟨h 0 (by omega), h 1 (by omega), h 2 (by omega), h 3 (by omega), h 4 (by omega)⟩

/-- What a slice of one-cell elements reads at an index. -/
theorem Rd.one {w : World} {A : Option Addr} {xs : List Value} (h : Rd w A xs) {i : Nat} {u : Value} (hi : xs[i]? = some u) :
    ∃ b off, A = some ⟨b, off, none⟩ ∧ b < w.heap.size ∧ w.cell? ⟨b, off + i, none⟩ = some u := by
  have hne : xs ≠ [] := fun e => by rw [e] at hi; simp at hi
  obtain ⟨b, off, e, hb, hc⟩ := h hne
  exact ⟨b, off, e, hb, hc i u hi⟩

/-- A value returned, two spellings. -/
theorem ret_int {k : IntKind} {a b : Int} (h : a = b) : Ending.returned (.int k a) = .returned (.int k b) := by rw [h]
theorem ret_bool {a b : Bool} (h : a = b) : Ending.returned (.bool a) = .returned (.bool b) := by rw [h]

end Go.Proofs.YtgfpadgjmkfmiaaGreatDoor
