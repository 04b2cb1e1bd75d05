/-
  One count raised in a map that the call owns: what the look-up, the entry and the store into it do, in whichever order the first two are taken.
-/
import Derived.Test.YtgfpadgjmkfmiaaGreatDoorCount
namespace Go.Proofs.YtgfpadgjmkfmiaaGreatDoor
open Go.RowKit Go.Maps Go.MapKept
open Go.ChangeMaps (setBlock)
open Go.WideElems (Fit rd_key)

theorem setBlock_self {w : World} {b : Nat} {o : Obj} (h : w.heap[b]? = some o) : setBlock w b o = w := by
  unfold setBlock
  have : w.heap.setIfInBounds b o = w.heap := by
    apply Array.ext_getElem?
    intro i
    rw [Array.getElem?_setIfInBounds]
    split
    · rename_i e
      subst e
      split
      · exact h.symm
      · rename_i hs
        rw [Array.getElem?_eq_none (by omega)]
    · rfl
  rw [this]

theorem setBlock_twice (w : World) (b : Nat) (o p : Obj) : setBlock (setBlock w b o) b p = setBlock w b p := by
  unfold setBlock
  simp

theorem setBlock_at {w : World} {b : Nat} {o : Obj} (h : b < w.heap.size) : (setBlock w b o).heap[b]? = some o := by
  unfold setBlock
  simp [h]

section
variable {H : Type} {P : Program} {w : World} {t k e : TypeId} {R : Value → Option (DataW H × List MemPlace)} {b : Nat} {es : Array MapEntry} {clock : Nat}

theorem entry_look (K : WideMaps.KeyLaw P k) (ht : P.underlying t = some (.map k e)) {z : Value} (hz : ∀ u : World, (zeroValue e).run P u = .ok z u) (hb : w.heap[b]? = some (.map es clock)) (F : Fit P k R es clock)
    {key : Value} {kk : Lit} (hkey : keyOf P k key = some kk) :
    ∃ (v0 : Value) (st : Nat) (o1 : Obj), (Instr.mapEntry t (.map (some b)) key).run P w = .ok (.tuple #[v0, goInt st]) (setBlock w b o1) ∧
      (Instr.lookup t (.map (some b)) key false).run P w = .ok v0 w ∧ (Instr.lookup t (.map (some b)) key false).run P (setBlock w b o1) = .ok v0 (setBlock w b o1) ∧
      ∀ (w2 : World) (val : Value), w2.heap[b]? = some o1 → ∃ o2, (Instr.entryStore t (.map (some b)) (goInt st) val).run P w2 = .ok () (setBlock w2 b o2) ∧
        (Instr.mapUpdate t (.map (some b)) key val).run P w = .ok () (setBlock w b o2) := by
  have hlt : b < w.heap.size := (Array.getElem?_eq_some_iff.1 hb).1
  obtain ⟨v1, st, es1, clock1, hM, hv, hS⟩ := WideElems.entry_then_store K ht hz hb F hkey
  rcases K.find w hkey es.toList F.keys with ⟨h1, h2⟩ | ⟨j, e0, h1, h2, h3⟩
  · have hL0 : (Instr.lookup t (.map (some b)) key false).run P w = .ok z w := by
      simp [Instr.lookup, run_underlying ht, MapKept.run_getObj_map hb, K.check w _ hkey, h1, hz, Result.andThen]
    have hM2 : (Instr.mapEntry t (.map (some b)) key).run P w = .ok (.tuple #[z, goInt clock]) (setBlock w b (.map (es.push ⟨key, z, clock⟩) (clock + 1))) := by
      simp [Instr.mapEntry, run_underlying ht, MapKept.run_getObj_map hb, K.check w false hkey, h1, hz, MapKept.run_setObj_map _ hb, Result.andThen, setBlock]
    have hb1 : (setBlock w b (.map (es.push ⟨key, z, clock⟩) (clock + 1))).heap[b]? = some (.map (es.push ⟨key, z, clock⟩) (clock + 1)) := setBlock_at hlt
    have hks : ∀ y ∈ (es.push ⟨key, z, clock⟩).toList, ∃ l, keyOf P k y.key = some l := fun y hy => by
      rw [Array.toList_push, List.mem_append] at hy
      rcases hy with hy | hy
      · exact F.keys y hy
      · rw [List.mem_singleton.1 hy]; exact ⟨kk, hkey⟩
    have hL1 : (Instr.lookup t (.map (some b)) key false).run P (setBlock w b (.map (es.push ⟨key, z, clock⟩) (clock + 1))) = .ok z (setBlock w b (.map (es.push ⟨key, z, clock⟩) (clock + 1))) := by
      rcases K.find (setBlock w b (.map (es.push ⟨key, z, clock⟩) (clock + 1))) hkey (es.push ⟨key, z, clock⟩).toList hks with ⟨g1, g2⟩ | ⟨j, e0, g1, g2, g3⟩
      · exact absurd rfl (g2 ⟨key, z, clock⟩ (by simp))
      · have hmem := List.mem_of_getElem? g2
        rw [Array.toList_push, List.mem_append] at hmem
        have he : e0 = ⟨key, z, clock⟩ := by
          rcases hmem with hy | hy
          · exact absurd g3 (h2 e0 hy)
          · exact List.mem_singleton.1 hy
        subst he
        simp only [Array.toList_push] at g1
        simp [Instr.lookup, run_underlying ht, MapKept.run_getObj_map hb1, K.check _ _ hkey, g1, Result.andThen]
    have hE := hM.symm.trans hM2
    injection hE with e1 e2
    injection e1 with e1
    have e3 : v1 = z ∧ goInt st = goInt clock := by simpa using e1
    have e4 : (Obj.map es1 clock1) = .map (es.push ⟨key, z, clock⟩) (clock + 1) := by
      have h5 := setBlock_at (w := w) (o := .map es1 clock1) hlt
      rw [e2, hb1] at h5
      exact (Option.some.inj h5).symm
    refine ⟨z, st, .map (es.push ⟨key, z, clock⟩) (clock + 1), by rw [hM, e2, e3.1], hL0, hL1, fun w2 val hw2 => ?_⟩
    obtain ⟨es', clock', r1, r2⟩ := hS w2 val (by rw [hw2, e4])
    exact ⟨_, r1, r2⟩
  · have hL0 : (Instr.lookup t (.map (some b)) key false).run P w = .ok e0.val w := by
      simp [Instr.lookup, run_underlying ht, MapKept.run_getObj_map hb, K.check w _ hkey, h1, Result.andThen]
    have hj : es[j]? = some e0 := by simpa using h2
    have hsame : es.modify j (fun e => { e with key := key }) = es := by
      apply Array.ext_getElem?
      intro i
      rw [Array.getElem?_modify]
      split
      · rename_i e
        subst e
        rw [hj]
        show some ({ e0 with key := key } : MapEntry) = some e0
        rw [← h3]
      · rfl
    have hM2 : (Instr.mapEntry t (.map (some b)) key).run P w = .ok (.tuple #[e0.val, goInt e0.born]) (setBlock w b (.map es clock)) := by
      simp [Instr.mapEntry, run_underlying ht, MapKept.run_getObj_map hb, K.check w false hkey, h1, hj, h3, K.stays w hkey, hsame, MapKept.run_setObj_map _ hb, Result.andThen, setBlock]
    have hW : setBlock w b (.map es clock) = w := setBlock_self hb
    have hE := hM.symm.trans hM2
    injection hE with e1 e2
    injection e1 with e1
    have e3 : v1 = e0.val ∧ goInt st = goInt e0.born := by simpa using e1
    have e4 : (Obj.map es1 clock1) = .map es clock := by
      have h5 := setBlock_at (w := w) (o := .map es1 clock1) hlt
      rw [e2, hW, hb] at h5
      exact (Option.some.inj h5).symm
    refine ⟨e0.val, st, .map es clock, by rw [hM, e2, e3.1], hL0, by rw [hW]; exact hL0, fun w2 val hw2 => ?_⟩
    obtain ⟨es', clock', r1, r2⟩ := hS w2 val (by rw [hw2, e4])
    exact ⟨_, r1, r2⟩
end

theorem Tryz.zero3 (w : World) : (zeroValue 3).run Tryz.prog w = .ok (.int .i64 0) w := by kernel_rfl

/-- The whole of 'm[x]++' on the call's own map. -/
theorem raise_count {W : World} {b n : Nat} {D : DataW Unit} (hown : W.ownsMap Tryz.prog 74 (plainElem Tryz.prog 3) b n D) (hn : n < maxLen) {x : It} (hx : WF x) {c : Int} (hat : D.atKey (kl x) (.lit (.int .i64 0)) = .lit (.int .i64 c)) (hw1 : (Lit.int .i64 (c + 1)).wf = true) :
    ∃ (st : Nat) (W1 W2 : World), (Instr.mapEntry 162 (.map (some b)) (fv x)).run Tryz.prog W = .ok (.tuple #[.int .i64 c, .int .i64 st]) W1 ∧
      (Instr.lookup 162 (.map (some b)) (fv x) false).run Tryz.prog W = .ok (.int .i64 c) W ∧ (Instr.lookup 162 (.map (some b)) (fv x) false).run Tryz.prog W1 = .ok (.int .i64 c) W1 ∧
      (Instr.entryStore 162 (.map (some b)) (.int .i64 st) (.int .i64 (c + 1))).run Tryz.prog W1 = .ok () W2 ∧
      W2.ownsMap Tryz.prog 74 (plainElem Tryz.prog 3) b (n + 1) (D.put (kl x) (.lit (.int .i64 (c + 1)))) ∧ W.grownBy W2 (some b) := by
  have hkey := keyOf74 x hx
  obtain ⟨c', hrun, hat', _⟩ := hown.lookup_int keyed74 Tryz.underlying162 Tryz.underlying3 (Tryz.zero3 W) hkey
  have hcc : c' = c := by
    rw [hat] at hat'
    simpa using hat'.symm
  subst hcc
  obtain ⟨W', hup, hown', hgrow⟩ := hown.update (e := 3) keyed74 Tryz.underlying162 hn hkey (plainElem_int Tryz.underlying3 hw1)
  have hown0 := hown
  obtain ⟨es, clock, hb, F, _, _⟩ := hown0
  have hlt : b < W.heap.size := (Array.getElem?_eq_some_iff.1 hb).1
  obtain ⟨v0, st, o1, hM, hL0, hL1, hS⟩ := entry_look law74 Tryz.underlying162 Tryz.zero3 hb F hkey
  have hv : v0 = .int .i64 c' := by
    have := hL0.symm.trans hrun
    injection this
  subst hv
  obtain ⟨o2, r1, r2⟩ := hS (setBlock W b o1) (.int .i64 (c' + 1)) (setBlock_at hlt)
  rw [setBlock_twice] at r1
  have hWW : W' = setBlock W b o2 := by
    have := hup.symm.trans r2
    injection this
  subst hWW
  exact ⟨st, setBlock W b o1, setBlock W b o2, hM, hL0, hL1, r1, hown', hgrow⟩
end Go.Proofs.YtgfpadgjmkfmiaaGreatDoor
