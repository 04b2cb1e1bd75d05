/-
  The argument opened: a reading of a script gives its steps, each with a list of items, all within the form's own reach.
-/
import Derived.Test.YtgfpadgjmkfmiaaGreatDoorPlays
import Derived.Deep.Slices
import Derived.Deep.Fields
import Derived.ChangeSame
import Derived.SizedLaws
import Derived.KernelRfl
namespace Go.Proofs.YtgfpadgjmkfmiaaGreatDoor
open Go.RowKit Go.Maps Go.ChangeShapes Go.WideShapes Go.Deep

section
variable {H : Type} {enc : TypeId × Value → H} {P : Program} {w : World} {base : Nat} {spare : Nat → Bool} {held : Bool}

/-- A slice of structs whose fields have one cell each: of each element and each field the cell and the field's own reading. -/
theorem open_rows {t e : TypeId} {fs : Array Field} {fuel : Nat} {cs : List Value} {x : DataW H × List MemPlace} (ht : P.underlying t = some (.slice e)) (he : P.underlying e = some (.struct fs))
    (hone : oneCellFields P fs = true) (hC : P.cellsOf e = fs.size) (h : DataW.trod enc P w base spare held fuel t cs = some x) :
    (cs = [.slice none 0 0] ∧ x.1 = .nil) ∨
    ∃ (a : Addr) (len cap : Nat) (D : Nat → DataW H) (sp : List (DataW H)), cs = [.slice (some a) len cap] ∧ x.1 = .slice ((List.range len).map D) sp ∧
      ∀ i, i < len → ∃ (ys : List (DataW H × List MemPlace)) (n : Nat), D i = .agg (ys.map (·.1)) ∧ ys.length = fs.size ∧
        ∀ (j : Nat) (f : Field), fs[j]? = some f → ∃ (v : Value) (y : DataW H × List MemPlace), w.cell? (a.add (i * fs.size + j)) = some v ∧ ys[j]? = some y ∧ DataW.trod enc P w base spare held n f.type [v] = some y := by
  rcases open_slice ht h with ⟨h0, h1⟩ | ⟨a, len, cap, m, n, D, Pl, hcs, hb, hl, hm, hmm, hx, hi⟩
  · exact .inl ⟨h0, by rw [h1]⟩
  · have hlm : len ≤ m := by rw [hmm]; split <;> omega
    refine .inr ⟨a, len, cap, D, _, hcs, by rw [hx], fun i him => ?_⟩
    obtain ⟨cs', hc, ht'⟩ := hi i (by omega)
    rw [hC] at hc
    obtain ⟨ys, n', hn', hy, hlen, hyl, hf⟩ := DataW.trod_struct he ht'
    obtain ⟨_, hcl, hat⟩ := World.cells?_some hc
    simp only [Prod.mk.injEq] at hy
    refine ⟨ys, n', hy.1, hyl, fun j f hj => ?_⟩
    obtain ⟨ho, hk⟩ := hone_of hone j f hj
    have hjl : j < fs.size := (Array.getElem?_eq_some_iff.1 hj).1
    have hcell := hat j hjl
    have hv : cs'[j]? = some (cs'[j]'(by omega)) := List.getElem?_eq_getElem (by omega)
    have h1 := hf j f hj
    rw [ho, hk] at h1
    have hone' : (cs'.drop j).take 1 = [cs'[j]'(by omega)] := by
      rw [List.drop_eq_getElem_cons (by omega)]
      rfl
    rw [hone'] at h1
    have hys : ys[j]? = some (ys[j]'(by omega)) := List.getElem?_eq_getElem (by omega)
    refine ⟨_, _, ?_, hys, h1.trans hys⟩
    rw [← Go.Deep.add_add, hcell, hv]
end

/-- What an element weighs the list weighs. -/
theorem weights_mem_all {H : Type} {P : Program} {e : TypeId} : ∀ {ds : List (DataW H)} {i : Nat} {d : DataW H}, ds[i]? = some d → ∀ n ∈ d.weights P e, n ∈ DataW.weightsAll P e ds
  | [], i, d, h, n, hn => by simp at h
  | x :: r, 0, d, h, n, hn => by
    obtain rfl : x = d := by simpa using h
    rw [DataW.weightsAll]
    exact List.mem_append_left _ hn
  | x :: r, i + 1, d, h, n, hn => by
    rw [DataW.weightsAll]
    exact List.mem_append_right _ (weights_mem_all (by simpa using h) n hn)

theorem Tryz.cells45 : Tryz.prog.cellsOf 45 = 5 := by kernel_rfl
theorem Tryz.cells27 : Tryz.prog.cellsOf 27 = 6 := by kernel_rfl
theorem Tryz.bytes45 : Tryz.prog.bytesOf 45 = 48 := by kernel_rfl
theorem Tryz.bytes27 : Tryz.prog.bytesOf 27 = 80 := by kernel_rfl
theorem Tryz.one45 : oneCellFields Tryz.prog #[{ name := "K", type := 3, offset := 0, embedded := false, tag := "", pkgPath := "", byteOffset := 0 }, { name := "N", type := 3, offset := 1, embedded := false, tag := "", pkgPath := "", byteOffset := 8 }, { name := "S", type := 9, offset := 2, embedded := false, tag := "", pkgPath := "", byteOffset := 16 }, { name := "Re", type := 3, offset := 3, embedded := false, tag := "", pkgPath := "", byteOffset := 32 }, { name := "Im", type := 3, offset := 4, embedded := false, tag := "", pkgPath := "", byteOffset := 40 }] = true := by kernel_rfl
theorem Tryz.one27 : oneCellFields Tryz.prog #[{ name := "Kind", type := 3, offset := 0, embedded := false, tag := "", pkgPath := "", byteOffset := 0 }, { name := "A", type := 3, offset := 1, embedded := false, tag := "", pkgPath := "", byteOffset := 8 }, { name := "B", type := 3, offset := 2, embedded := false, tag := "", pkgPath := "", byteOffset := 16 }, { name := "S", type := 9, offset := 3, embedded := false, tag := "", pkgPath := "", byteOffset := 24 }, { name := "T", type := 9, offset := 4, embedded := false, tag := "", pkgPath := "", byteOffset := 40 }, { name := "In", type := 25, offset := 5, embedded := false, tag := "", pkgPath := "", byteOffset := 56 }] = true := by kernel_rfl

/-- A place a number of cells on. -/
theorem add_plain {b off k : Nat} : (⟨b, off, none⟩ : Addr).add k = ⟨b, off + k, none⟩ := by
  unfold Addr.add
  by_cases h : k = 0 <;> simp [h]

theorem spot_plain {w : World} {a : Addr} {v : Value} (h : w.cell? (a.add 0) = some v) : a = ⟨a.block, a.off, none⟩ := by
  have e0 : a.add 0 = a := by unfold Addr.add; simp
  rw [e0] at h
  have := World.cell?_spot h
  obtain ⟨b, off, sp⟩ := a
  simp only at this
  subst this
  rfl

section
variable {H : Type} {enc : TypeId × Value → H} {w : World} {base : Nat} {spare : Nat → Bool} {held : Bool}

/-- A list of items, opened. -/
theorem open_items {fuel : Nat} {v : Value} {x : DataW H × List MemPlace} (h : DataW.trod enc Tryz.prog w base spare held fuel 25 [v] = some x) (hw : ∀ n ∈ x.1.weights Tryz.prog 25, n ≤ reachBytes) :
    ∃ (A : Option Addr) (c : Nat) (l : List It), v = .slice A l.length c ∧ Rd w A (l.flatMap rc) ∧ (∀ x ∈ l, WF0 x) ∧ l.length ≤ 2932031007402 := by
  rcases open_rows Tryz.underlying25 Tryz.underlying45 Tryz.one45 Tryz.cells45 h with ⟨h0, _⟩ | ⟨a, len, cap, D, sp, hcs, hx, hi⟩
  · refine ⟨none, 0, [], by simpa using h0, Rd.none_, (fun x hx => absurd hx (by simp)), Nat.zero_le _⟩
  · have hpt : ∀ i, ∃ it : It, i < len → WF0 it ∧ ∀ j, j < 5 → w.cell? (a.add (i * 5 + j)) = (rc it)[j]? := by
      intro i
      by_cases him : i < len
      · obtain ⟨ys, n, _, _, hf⟩ := hi i him
        obtain ⟨v0, z0, c0, _, t0⟩ := hf 0 _ rfl
        obtain ⟨v1, z1, c1, _, t1⟩ := hf 1 _ rfl
        obtain ⟨v2, z2, c2, _, t2⟩ := hf 2 _ rfl
        obtain ⟨v3, z3, c3, _, t3⟩ := hf 3 _ rfl
        obtain ⟨v4, z4, c4, _, t4⟩ := hf 4 _ rfl
        obtain ⟨n0, e0, _, w0⟩ := DataW.trod_int Tryz.underlying3 t0
        obtain ⟨n1, e1, _, w1⟩ := DataW.trod_int Tryz.underlying3 t1
        obtain ⟨s2, e2, _, w2⟩ := DataW.trod_string Tryz.underlying9 t2
        obtain ⟨n3, e3, _, w3⟩ := DataW.trod_int Tryz.underlying3 t3
        obtain ⟨n4, e4, _, w4⟩ := DataW.trod_int Tryz.underlying3 t4
        cases e0; cases e1; cases e2; cases e3; cases e4
        refine ⟨⟨n0, n1, s2, n3, n4⟩, fun _ => ⟨⟨w0, w2, w3, w4⟩, fun j hj => ?_⟩⟩
        match j, hj with
        | 0, _ => exact c0
        | 1, _ => exact c1
        | 2, _ => exact c2
        | 3, _ => exact c3
        | 4, _ => exact c4
      · exact ⟨⟨0, 0, ⟨#[]⟩, 0, 0⟩, fun h => absurd h him⟩
    obtain ⟨g, hg⟩ := Classical.axiomOfChoice hpt
    have hlen : ((List.range len).map g).length = len := by simp
    refine ⟨some a, cap, (List.range len).map g, ?_, ?_, ?_, ?_⟩
    · rw [hlen]; simpa using hcs
    · intro hne
      have hpos : 0 < len := by
        rcases Nat.eq_zero_or_pos len with h0 | h0
        · subst h0; exact absurd rfl hne
        · exact h0
      have hc0 := (hg 0 hpos).2 0 (by omega)
      have ea := spot_plain (hc0.trans rfl)
      have hb := World.block_lt_of_cell? w _ (hc0.trans rfl)
      obtain ⟨b, off, spt⟩ := a
      cases ea
      refine ⟨b, off, rfl, by rw [add_plain] at hb; exact hb, fun j u hu => ?_⟩
      have hj : j < 5 * len := by
        rcases Nat.lt_or_ge j (5 * len) with h1 | h1
        · exact h1
        · rw [List.getElem?_eq_none (by rw [flat_length rc_length, hlen]; exact h1)] at hu
          cases hu
      have hq : j / 5 < len := by omega
      have e : j = j / 5 * 5 + j % 5 := by omega
      rw [e, flat_at rc_length _ (j / 5) (g (j / 5)) (by simp [hq]) (j % 5) (by omega)] at hu
      have := (hg (j / 5) hq).2 (j % 5) (by omega)
      rw [add_plain] at this
      rw [e, this]
      exact hu
    · intro y hy
      obtain ⟨i, hi', rfl⟩ := List.mem_map.1 hy
      exact (hg i (List.mem_range.1 hi')).1
    · rw [hlen]
      have hwt := hw ((((List.range len).map D).length + sp.length) * Tryz.prog.bytesOf 45) (by rw [hx]; simp [DataW.weights, Tryz.underlying25])
      rw [Tryz.bytes45] at hwt
      simp [reachBytes] at hwt
      omega

/-- A script, opened. -/
theorem open_script {fuel : Nat} {v : Value} {x : DataW H × List MemPlace} (h : DataW.trod enc Tryz.prog w base spare held fuel 22 [v] = some x) (hw : ∀ n ∈ x.1.weights Tryz.prog 22, n ≤ reachBytes) :
    ∃ (S : Option Addr) (c : Nat) (os : List OpD), v = .slice S os.length c ∧ os.length ≤ 1759218604441 ∧ Script w S os := by
  rcases open_rows Tryz.underlying22 Tryz.underlying27 Tryz.one27 Tryz.cells27 h with ⟨h0, _⟩ | ⟨a, len, cap, D, sp, hcs, hx, hi⟩
  · exact ⟨none, 0, [], by simpa using h0, Nat.zero_le _, ⟨(fun i o h => absurd h (by simp)), (fun o h => absurd h (by simp)), (fun o h => absurd h (by simp)), (fun o h => absurd h (by simp))⟩⟩
  · have hpt : ∀ i, ∃ o : OpD, i < len → (Rd w o.A (o.l.flatMap rc) ∧ o.l.length ≤ 2932031007402 ∧ ∀ x ∈ o.l, WF0 x) ∧ ∀ j, j < 6 → w.cell? (a.add (i * 6 + j)) = (oc o)[j]? := by
      intro i
      by_cases him : i < len
      · obtain ⟨ys, n, hD, hyl, hf⟩ := hi i him
        obtain ⟨v0, z0, c0, _, t0⟩ := hf 0 _ rfl
        obtain ⟨v1, z1, c1, _, t1⟩ := hf 1 _ rfl
        obtain ⟨v2, z2, c2, _, t2⟩ := hf 2 _ rfl
        obtain ⟨v3, z3, c3, _, t3⟩ := hf 3 _ rfl
        obtain ⟨v4, z4, c4, _, t4⟩ := hf 4 _ rfl
        obtain ⟨v5, z5, c5, hy5, t5⟩ := hf 5 _ rfl
        obtain ⟨n0, e0, _, _⟩ := DataW.trod_int Tryz.underlying3 t0
        obtain ⟨n1, e1, _, _⟩ := DataW.trod_int Tryz.underlying3 t1
        obtain ⟨n2, e2, _, _⟩ := DataW.trod_int Tryz.underlying3 t2
        obtain ⟨s3, e3, _, _⟩ := DataW.trod_string Tryz.underlying9 t3
        obtain ⟨s4, e4, _, _⟩ := DataW.trod_string Tryz.underlying9 t4
        cases e0; cases e1; cases e2; cases e3; cases e4
        obtain ⟨A, c, l, e5, r5, wf5, l5⟩ := open_items t5 (fun n hn => hw n (by
          rw [hx]
          simp only [DataW.weights, Tryz.underlying22]
          refine List.mem_cons_of_mem _ (List.mem_append_left _ ?_)
          refine weights_mem_all (i := i) (d := D i) (by simp [him]) n ?_
          rw [hD]
          simp only [DataW.weights, Tryz.underlying27]
          exact DataW.weights_mem_each (j := 5) (t := 25) (d := z5.1) rfl (by simp [hy5]) n hn))
        subst e5
        refine ⟨⟨n0, n1, n2, s3, s4, A, c, l⟩, fun _ => ⟨⟨r5, l5, wf5⟩, fun j hj => ?_⟩⟩
        match j, hj with
        | 0, _ => exact c0
        | 1, _ => exact c1
        | 2, _ => exact c2
        | 3, _ => exact c3
        | 4, _ => exact c4
        | 5, _ => exact c5
      · exact ⟨⟨0, 0, 0, ⟨#[]⟩, ⟨#[]⟩, none, 0, []⟩, fun h => absurd h him⟩
    obtain ⟨g, hg⟩ := Classical.axiomOfChoice hpt
    have hlen : ((List.range len).map g).length = len := by simp
    have hmem : ∀ o ∈ (List.range len).map g, ∃ i, i < len ∧ o = g i := fun o ho => by
      obtain ⟨i, hi', rfl⟩ := List.mem_map.1 ho
      exact ⟨i, List.mem_range.1 hi', rfl⟩
    refine ⟨some a, cap, (List.range len).map g, by rw [hlen]; simpa using hcs, ?_, ⟨fun i o ho => ?_, fun o ho => ?_, fun o ho => ?_, fun o ho => ?_⟩⟩
    · rw [hlen]
      have hwt := hw ((((List.range len).map D).length + sp.length) * Tryz.prog.bytesOf 27) (by rw [hx]; simp [DataW.weights, Tryz.underlying22])
      rw [Tryz.bytes27] at hwt
      simp [reachBytes] at hwt
      omega
    · have hil : i < len := by
        rcases Nat.lt_or_ge i len with h1 | h1
        · exact h1
        · rw [List.getElem?_eq_none (by rw [hlen]; exact h1)] at ho; cases ho
      have hgo : g i = o := by simpa [hil] using ho
      subst hgo
      have hc0 := (hg 0 (by omega)).2 0 (by omega)
      have ea := spot_plain (hc0.trans rfl)
      have hb := World.block_lt_of_cell? w _ (hc0.trans rfl)
      obtain ⟨b, off, spt⟩ := a
      cases ea
      refine ⟨b, off, rfl, by rw [add_plain] at hb; exact hb, fun j hj => ?_⟩
      have := (hg i hil).2 j hj
      rw [add_plain] at this
      exact this
    · obtain ⟨i, hi', rfl⟩ := hmem o ho
      exact (hg i hi').1.1
    · obtain ⟨i, hi', rfl⟩ := hmem o ho
      exact (hg i hi').1.2.1
    · obtain ⟨i, hi', rfl⟩ := hmem o ho
      exact (hg i hi').1.2.2
end
end Go.Proofs.YtgfpadgjmkfmiaaGreatDoor
