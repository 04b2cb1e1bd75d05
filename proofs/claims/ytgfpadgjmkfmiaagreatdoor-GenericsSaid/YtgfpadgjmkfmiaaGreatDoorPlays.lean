/-
  The walks of plays at a step of the kind 8, of UpTo from 8 to 8, and of the law itself.
-/
import Derived.Test.YtgfpadgjmkfmiaaGreatDoorGeneric
namespace Go.Proofs.YtgfpadgjmkfmiaaGreatDoor
open Go.RowKit Go.Maps

/-- An item as it comes in: its parts are of their kinds. -/
structure WF0 (x : It) : Prop where
  k : (Lit.int .i64 x.k).wf = true
  s : x.s.size ≤ maxLen
  re : (Lit.int .i64 x.re).wf = true
  im : (Lit.int .i64 x.im).wf = true

theorem WF0.gv {x : It} (h : WF0 x) : WF (gv x) := ⟨h.k, by
  show (Lit.int .i32 (wrap32 x.n)).wf = true
  exact wrap32_wf _, h.s, h.re, h.im⟩
theorem WF0.kp {x : It} (h : WF0 x) : WF0 (kp x) := ⟨h.k, h.s, h.re, h.im⟩

theorem rd_setCell {w : World} {b off : Nat} {xs : List Value} (h : Rd w (some ⟨b, off, none⟩) xs) {p : Addr} (hp : b ≠ p.block) (u : Value) : Rd (w.setCell p u) (some ⟨b, off, none⟩) xs := fun hx => by
  obtain ⟨b', off', e, hlt, hc⟩ := h hx
  cases e
  refine ⟨b, off, rfl, by simpa [World.setCell] using hlt, fun j v hv => ?_⟩
  rw [World.cell?_setCell_other _ _ _ _ (by intro e; subst e; exact hp rfl)]
  exact hc j v hv

set_option maxRecDepth 100000 in
set_option maxHeartbeats 1000000 in
theorem plays_at (a bb : Int) (s t : ByteArray) (A : Option Addr) (c : Nat) (l : List It) (w : World) (hl : l.length ≤ 2932031007402) (hA : Rd w A (l.flatMap rc)) (hwf : ∀ x ∈ l, WF0 x) :
    Calls Tryz.prog 6 #[.agg #[.int .i64 8, .int .i64 a, .int .i64 bb, .string s, .string t, .slice A l.length c]] w fun e w' => e = .returned (.bool true) ∧ Below w.heap.size w w' := by
  have HA := Lib.hid hA
  have Hwf := Lib.hid hwf
  clear hA hwf
  go_enter Tryz.func6, Tryz.ntmps6
  go_wp2_with fail
  refine (kept_list A c l _ hl (HA.out.below ((Below.refl _ _).alloc (Nat.le_refl _) _))).mono ?_
  rintro e w1 ⟨rfl, hrb, hb1⟩
  have hbx : w.heap.size < (w.alloc (.cells #[.int .i64 8, .int .i64 a, .int .i64 bb, .string s, .string t, .slice A l.length c] 27)).heap.size := by simp
  have hb2 : Below w.heap.size w w1 := ((Below.refl _ _).alloc (Nat.le_refl _) _).trans (hb1.mono (by simp))
  have p : ∀ j, w1.cell? ⟨w.heap.size, j, none⟩ = (#[.int .i64 8, .int .i64 a, .int .i64 bb, .string s, .string t, .slice A l.length c] : Array Value)[j]? := fun j => by
    rw [hb1.cell (p := ⟨w.heap.size, j, none⟩) hbx, World.cell?_alloc_at _ _ _ _ (by simp)]
  have f5 : w1.frozen? ⟨w.heap.size, 5, none⟩ = false := by
    rw [hb1.frozen (p := ⟨w.heap.size, 5, none⟩) hbx, World.frozen?_alloc_at _ _ _ _ (by simp)]
  have p0 : w1.cell? ⟨w.heap.size, 0, none⟩ = some (.int .i64 8) := p 0
  have p1 : w1.cell? ⟨w.heap.size, 1, none⟩ = some (.int .i64 a) := p 1
  have p2 : w1.cell? ⟨w.heap.size, 2, none⟩ = some (.int .i64 bb) := p 2
  have p3 : w1.cell? ⟨w.heap.size, 3, none⟩ = some (.string s) := p 3
  have p4 : w1.cell? ⟨w.heap.size, 4, none⟩ = some (.string t) := p 4
  have p5 : w1.cell? ⟨w.heap.size, 5, none⟩ = some (.slice A l.length c) := p 5
  have hz : (w.alloc (.cells #[.int .i64 8, .int .i64 a, .int .i64 bb, .string s, .string t, .slice A l.length c] 27)).heap.size = w.heap.size + 1 := by simp
  rw [hz] at hrb
  have hgen := generic_at 8 a bb s t (some ⟨w.heap.size + 1, 0, none⟩) l.length (l.map kp) (w1.setCell ⟨w.heap.size, 5, none⟩ (.slice (some ⟨w.heap.size + 1, 0, none⟩) l.length l.length)) (by rw [List.length_map]; exact hl)
    (rd_setCell hrb (by simp) _) (fun x hx => by obtain ⟨y, hy, rfl⟩ := List.mem_map.1 hx; exact (Hwf.out y hy).kp.gv)
  rw [List.length_map] at hgen
  have Hgen := Lib.hid hgen
  have Hb2 := Lib.hid hb2
  clear hb1 hb2 hrb hgen hbx p hz
  go_wp2_with fail
  refine Hgen.out.mono ?_
  rintro e w2 ⟨rfl, hb3⟩
  have Hb3 := Lib.hid ((Hb2.out.setCell (Nat.le_refl _) _).trans (hb3.mono (by have := Hb2.out.size; simpa [World.setCell] using this)))
  clear hb3
  go_wp2
  go_ret
  exact ⟨rfl, Hb3.out⟩

/-- A step of a script, as it lies in memory. -/
structure OpD where
  kd : Int
  a : Int
  b : Int
  s : ByteArray
  t : ByteArray
  A : Option Addr
  c : Nat
  l : List It
def oc (o : OpD) : List Value := [.int .i64 o.kd, .int .i64 o.a, .int .i64 o.b, .string o.s, .string o.t, .slice o.A o.l.length o.c]

/-- The script reads as the steps, each of them with a list of items. -/
structure Script (w : World) (S : Option Addr) (os : List OpD) : Prop where
  at_ : ∀ i o, os[i]? = some o → ∃ b off, S = some ⟨b, off, none⟩ ∧ b < w.heap.size ∧ ∀ j, j < 6 → w.cell? ⟨b, off + (i * 6 + j), none⟩ = (oc o)[j]?
  items : ∀ o ∈ os, Rd w o.A (o.l.flatMap rc)
  short : ∀ o ∈ os, o.l.length ≤ 2932031007402
  wf : ∀ o ∈ os, ∀ x ∈ o.l, WF0 x

set_option maxRecDepth 100000 in
set_option maxHeartbeats 1000000 in
theorem upTo_at (S : Option Addr) (c : Nat) (os : List OpD) (w : World) (hl : os.length ≤ 1759218604441) (hS : Script w S os) :
    Calls Tryz.prog 5 #[.slice S os.length c, .int .i64 8, .int .i64 8] w fun e w' => e = .returned (.int .i64 (-1)) ∧ Below w.heap.size w w' := by
  have HS := Lib.hid hS
  clear hS
  go_enter Tryz.func5, Tryz.ntmps5
  go_wp2
  go_loopw [7] (fun i wr => ∃ k : Nat, k ≤ os.length ∧ i = .int .i64 k ∧ Below w.heap.size w wr) (fun i _ => os.length - (intOf i).toNat)
  case atStart => exact ⟨0, Nat.zero_le _, rfl, Below.refl _ _⟩
  case round =>
    obtain ⟨k, hk, rfl, hb⟩ := hrel
    have hmx : (k : Int) < 1152921504606846976 := by omega
    by_cases hlt : k < os.length
    · have hget : os[k]? = some os[k] := by simp [hlt]
      obtain ⟨b1, o1, rfl, hlt1, hc0⟩ := HS.out.at_ k os[k] hget
      have hmem : os[k] ∈ os := List.getElem_mem hlt
      obtain ⟨o, ho⟩ : ∃ o, o = os[k] := ⟨_, rfl⟩
      rw [← ho] at hc0 hmem
      have hc : ∀ j, j < 6 → wr.cell? ⟨b1, (o1 + k * 6) + j, none⟩ = (oc o)[j]? := fun j hj => by
        rw [Nat.add_assoc]; exact (hb.cell (p := ⟨b1, o1 + (k * 6 + j), none⟩) hlt1).trans (hc0 j hj)
      have y0 : wr.cell? ⟨b1, o1 + k * 6, none⟩ = some (.int .i64 o.kd) := hc 0 (by omega)
      have y1 : wr.cell? ⟨b1, o1 + k * 6 + 1, none⟩ = some (.int .i64 o.a) := hc 1 (by omega)
      have y2 : wr.cell? ⟨b1, o1 + k * 6 + 2, none⟩ = some (.int .i64 o.b) := hc 2 (by omega)
      have y3 : wr.cell? ⟨b1, o1 + k * 6 + 3, none⟩ = some (.string o.s) := hc 3 (by omega)
      have y4 : wr.cell? ⟨b1, o1 + k * 6 + 4, none⟩ = some (.string o.t) := hc 4 (by omega)
      have y5 : wr.cell? ⟨b1, o1 + k * 6 + 5, none⟩ = some (.slice o.A o.l.length o.c) := hc 5 (by omega)
      have Hb := Lib.hid hb
      have Hmem := Lib.hid hmem
      clear hc hc0 hb ho hmem hget
      have i0 : (0 : Int) ≤ (k : Int) := by omega
      have i1 : (k : Int) < (os.length : Int) := by omega
      obtain ⟨kd, hkd⟩ : ∃ kd, kd = o.kd := ⟨_, rfl⟩
      rw [← hkd] at y0
      clear hkd
      by_cases h8 : kd = 8
      · subst h8
        have hpl := plays_at o.a o.b o.s o.t o.A o.c o.l (wr.alloc (.cells #[.int .i64 8, .int .i64 o.a, .int .i64 o.b, .string o.s, .string o.t, .slice o.A o.l.length o.c] 27)) (HS.out.short o Hmem.out)
          ((HS.out.items o Hmem.out).below (Hb.out.alloc Hb.out.size _)) (HS.out.wf o Hmem.out)
        have Hpl := Lib.hid hpl
        clear hpl
        go_wp2_with fail
        refine Hpl.out.mono ?_
        rintro e w2 ⟨rfl, hb3⟩
        have Hb3 := Lib.hid ((Hb.out.alloc Hb.out.size _).trans (hb3.mono (by have := Hb.out.size; simp; omega)))
        clear hb3
        go_wp2
        go_roundw
        case rel => exact ⟨k + 1, by omega, by go_num, Hb3.out⟩
        case measure => simp [intOf]; omega
      · have hor : kd < 8 ∨ 8 < kd := by omega
        clear h8
        rcases hor with h | h
        · have hd : ¬ (8 : Int) ≤ kd := by omega
          clear h
          go_wp2
          go_roundw
          case rel => exact ⟨k + 1, by omega, by go_num, Hb.out.alloc Hb.out.size _⟩
          case measure => simp [intOf]; omega
        · have hd : (8 : Int) ≤ kd := by omega
          have hd2 : ¬ kd ≤ (8 : Int) := by omega
          clear h
          go_wp2
          go_roundw
          case rel => exact ⟨k + 1, by omega, by go_num, Hb.out.alloc Hb.out.size _⟩
          case measure => simp [intOf]; omega
    · go_wp2
      go_ret
      exact ⟨rfl, hb⟩

theorem generics_at (S : Option Addr) (c : Nat) (os : List OpD) (w : World) (hl : os.length ≤ 1759218604441) (hS : Script w S os) :
    Calls Tryz.prog 4 #[.slice S os.length c] w fun e w' => e = .returned (.bool true) ∧ Below w.heap.size w w' := by
  have H := Lib.hid (upTo_at S c os w hl hS)
  clear hS hl
  go_enter Tryz.func4, Tryz.ntmps4
  go_wp2_with fail
  refine H.out.mono ?_
  rintro e w1 ⟨rfl, hb⟩
  have Hb := Lib.hid hb
  clear hb
  go_wp2
  go_ret
  exact ⟨rfl, Hb.out⟩
end Go.Proofs.YtgfpadgjmkfmiaaGreatDoor
