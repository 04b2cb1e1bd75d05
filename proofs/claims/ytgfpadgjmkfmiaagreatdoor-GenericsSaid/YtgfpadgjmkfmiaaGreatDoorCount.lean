/-
  The plain law of counting: how often an item stands in a list, the different items in the order of their first places, and what a map that counts them reads as.
-/
import Derived.Test.YtgfpadgjmkfmiaaGreatDoorKey
namespace Go.Proofs.YtgfpadgjmkfmiaaGreatDoor
open Go.RowKit Go.Maps

/-- How often x stands in l. -/
def cnt (x : It) (l : List It) : Nat := (l.filter (eqB x)).length
theorem cnt_nil (x : It) : cnt x [] = 0 := rfl
theorem cnt_snoc (x y : It) (l : List It) : cnt x (l ++ [y]) = cnt x l + if eqB x y then 1 else 0 := by
  unfold cnt
  rw [List.filter_append, List.length_append]
  by_cases h : eqB x y = true <;> simp [h]
theorem cnt_le (x : It) (l : List It) : cnt x l ≤ l.length := List.length_filter_le _ _
theorem eqB_self (x : It) : eqB x x = true := (eqB_iff x x).2 rfl
theorem eqB_symm (x y : It) : eqB x y = eqB y x := by
  by_cases h : x = y
  · subst h; rfl
  · have h1 : ¬ eqB x y = true := fun e => h ((eqB_iff x y).1 e)
    have h2 : ¬ eqB y x = true := fun e => h ((eqB_iff y x).1 e).symm
    simp only [Bool.not_eq_true] at h1 h2
    rw [h1, h2]

/-- One step: an item that is not there yet goes to the end. -/
def dstep (acc : List It) (x : It) : List It := if acc.any (eqB x) then acc else acc ++ [x]
/-- The different items of a list. -/
def dd (l : List It) : List It := l.foldl dstep []
theorem dd_snoc (l : List It) (x : It) : dd (l ++ [x]) = dstep (dd l) x := by simp [dd, List.foldl_append]

theorem any_dstep (x y : It) (acc : List It) : (dstep acc x).any (eqB y) = (eqB y x || acc.any (eqB y)) := by
  unfold dstep
  by_cases h : acc.any (eqB x) = true
  · rw [if_pos h]
    by_cases e : eqB y x = true
    · have := (eqB_iff y x).1 e
      subst this
      rw [h, e]; rfl
    · simp only [Bool.not_eq_true] at e
      rw [e, Bool.false_or]
  · rw [if_neg h, List.any_append]
    simp [Bool.or_comm]

/-- The different items are the items. -/
theorem any_dd (y : It) : ∀ (l : List It), (dd l).any (eqB y) = l.any (eqB y) := by
  intro l
  have : ∀ (l acc : List It), (l.foldl dstep acc).any (eqB y) = (acc.any (eqB y) || l.any (eqB y)) := by
    intro l
    induction l with
    | nil => intro acc; simp
    | cons x r ih =>
      intro acc
      rw [List.foldl_cons, ih, any_dstep, List.any_cons]
      cases eqB y x <;> cases acc.any (eqB y) <;> simp
  rw [dd, this]
  simp

theorem dd_length_le (l : List It) : (dd l).length ≤ l.length := by
  have : ∀ (l acc : List It), (l.foldl dstep acc).length ≤ acc.length + l.length := by
    intro l
    induction l with
    | nil => intro acc; simp
    | cons x r ih =>
      intro acc
      rw [List.foldl_cons]
      refine Nat.le_trans (ih _) ?_
      have h : (dstep acc x).length ≤ acc.length + 1 := by
        unfold dstep
        split <;> simp
      rw [List.length_cons]
      omega
  have := this l []
  simpa [dd] using this

/-- No two of them are one. -/
theorem dd_apart (l : List It) : (dd l).Pairwise (fun x y => eqB y x = false) := by
  have : ∀ (l acc : List It), acc.Pairwise (fun x y => eqB y x = false) → (l.foldl dstep acc).Pairwise (fun x y => eqB y x = false) := by
    intro l
    induction l with
    | nil => intro acc h; simpa using h
    | cons x r ih =>
      intro acc h
      rw [List.foldl_cons]
      refine ih _ ?_
      unfold dstep
      split
      · exact h
      · rename_i hn
        refine List.pairwise_append.2 ⟨h, List.pairwise_singleton _ _, fun a ha b hb => ?_⟩
        obtain rfl := List.mem_singleton.1 hb
        simp only [Bool.not_eq_true] at hn
        have := List.any_eq_false.1 hn a ha
        simpa using this
  exact this l [] List.Pairwise.nil

/-- The sum of the counts of a list of different items. -/
def tot (ks l : List It) : Nat := (ks.map fun x => cnt x l).sum
theorem tot_nil (ks : List It) : tot ks [] = 0 := by
  unfold tot
  induction ks with
  | nil => rfl
  | cons a r ih => rw [List.map_cons, List.sum_cons, ih]; rfl
theorem tot_cons (k : It) (ks l : List It) : tot (k :: ks) l = cnt k l + tot ks l := by simp [tot]
theorem tot_snoc (ks : List It) (k : It) (l : List It) : tot (ks ++ [k]) l = tot ks l + cnt k l := by simp [tot]

theorem tot_add (y : It) (l : List It) : ∀ (ks : List It), ks.Pairwise (fun x y => eqB y x = false) → tot ks (l ++ [y]) = tot ks l + if ks.any (eqB y) then 1 else 0
  | [], _ => by simp [tot]
  | k :: r, h => by
    obtain ⟨h1, h2⟩ := List.pairwise_cons.1 h
    rw [tot_cons, tot_cons, cnt_snoc, tot_add y l r h2, List.any_cons]
    by_cases e : eqB k y = true
    · have : k = y := (eqB_iff k y).1 e
      subst this
      have hr : r.any (eqB k) = false := by
        rw [List.any_eq_false]
        intro a ha
        have := h1 a ha
        rw [eqB_symm] at this
        simpa using this
      rw [hr, eqB_self]
      simp
      omega
    · have e2 : eqB y k = false := by rw [eqB_symm]; simpa using e
      simp only [Bool.not_eq_true] at e
      rw [e, e2]
      simp
      omega

theorem tot_all (ks : List It) (hp : ks.Pairwise (fun x y => eqB y x = false)) : ∀ (l : List It), (∀ x, l.any (eqB x) = true → ks.any (eqB x) = true) → tot ks l = l.length := by
  intro l
  have : ∀ (n : Nat) (l : List It), l.length = n → (∀ x, l.any (eqB x) = true → ks.any (eqB x) = true) → tot ks l = l.length := by
    intro n
    induction n with
    | zero =>
      intro l hl _
      obtain rfl := List.eq_nil_of_length_eq_zero hl
      rw [tot_nil]; rfl
    | succ n ih =>
      intro l hl h
      have hne : l ≠ [] := fun e => by rw [e] at hl; simp at hl
      obtain ⟨l', y, rfl⟩ : ∃ l' y, l = l' ++ [y] := ⟨l.dropLast, l.getLast hne, (List.dropLast_concat_getLast hne).symm⟩
      have hy : ks.any (eqB y) = true := h y (by rw [List.any_append]; simp [eqB_self])
      rw [tot_add y l' ks hp, hy, ih l' (by simpa using hl) (fun x hx => h x (by rw [List.any_append, hx]; rfl))]
      simp
  exact this l.length l rfl

/-- Every item is counted once. -/
theorem tot_dd (l : List It) : tot (dd l) l = l.length := tot_all (dd l) (dd_apart l) l fun x hx => by rw [any_dd]; exact hx

/-- What the map that counts reads as. -/
structure Counts (D : DataW Unit) (l : List It) : Prop where
  at_ : ∀ x, WF x → D.atKey (kl x) (.lit (.int .i64 0)) = .lit (.int .i64 (cnt x l))
  has_ : ∀ x, WF x → Maps.has D (kl x) = l.any (eqB x)
  size_ : Maps.size D = (dd l).length

theorem Counts.empty : Counts (.map []) [] where
  at_ _ _ := rfl
  has_ _ _ := rfl
  size_ := rfl

theorem kl_key {x : It} : WideAt.IsKeyLit (kl x) := trivial

theorem Counts.step {D : DataW Unit} {l : List It} (h : Counts D l) (hD : Tidy D) {x : It} (hx : WF x) : Counts (D.put (kl x) (.lit (.int .i64 ((cnt x l : Int) + 1)))) (l ++ [x]) where
  at_ y hy := by
    rw [cnt_snoc]
    by_cases e : y = x
    · subst e
      rw [atKey_put_same hD.isMap kl_key, eqB_self]
      simp
    · have he : eqB y x = false := by
        cases hb : eqB y x
        · rfl
        · exact absurd ((eqB_iff y x).1 hb) e
      rw [atKey_put_other (fun e' => e (kl_inj hy hx e')), h.at_ y hy, he]
      simp
  has_ y hy := by
    rw [List.any_append]
    by_cases e : y = x
    · subst e
      rw [has_put_same hD.isMap kl_key]
      simp [eqB_self]
    · have he : eqB y x = false := by
        cases hb : eqB y x
        · rfl
        · exact absurd ((eqB_iff y x).1 hb) e
      rw [has_put_other (fun e' => e (kl_inj hy hx e')), h.has_ y hy]
      simp [he]
  size_ := by
    rw [size_put hD, h.has_ x hx, h.size_, dd_snoc]
    unfold dstep
    rw [any_dd]
    split <;> simp
end Go.Proofs.YtgfpadgjmkfmiaaGreatDoor
