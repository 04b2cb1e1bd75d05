/-
  The walk of Tallied.
-/
import Derived.Test.YtgfpadgjmkfmiaaGreatDoorTally
import Derived.Test.YtgfpadgjmkfmiaaGreatDoorMade
import Derived.WalkSpells
namespace Go.Proofs.YtgfpadgjmkfmiaaGreatDoor
open Go.RowKit Go.Maps

theorem Tryz.info3 : (Tryz.prog.info? 3).map (fun i => (i.zero, i.size, i.bytes)) = some (some (.int .i64 0), 1, 8) := by kernel_rfl

section
variable {w w' : World} {base base' e e' size size' n n' : Nat} {v v' : Value} {xs xs' : List Value}

theorem own_below (h : w.ownsRow base e size v n xs) (hb : Below w.heap.size w w') : w'.ownsRow base e size v n xs := by
  obtain ⟨h1, h2⟩ := h
  refine ⟨h1, ?_⟩
  rcases h2 with h2 | ⟨g, cap, cur, e1, hg, hh, r⟩
  · exact Or.inl h2
  · have hlt : g < w.heap.size := (Array.getElem?_eq_some_iff.1 hh).1
    exact Or.inr ⟨g, cap, cur, e1, hg, (hb.block g hlt).trans hh, r⟩

/-- Two rows of different element types are two. -/
theorem own_apart (h : w.ownsRow base e size v n xs) (h' : w.ownsRow base' e' size' v' n' xs') (hne : e ≠ e') : v'.ownBlock = none ∨ v'.ownBlock ≠ v.ownBlock := by
  rcases h'.2 with ⟨rfl, _⟩ | ⟨g', cap', cur', rfl, _, hh', _⟩
  · exact Or.inl rfl
  · refine Or.inr fun he => ?_
    rcases h.2 with ⟨rfl, _⟩ | ⟨g, cap, cur, rfl, _, hh, _⟩
    · simp [Value.ownBlock] at he
    · have : g' = g := by simpa [Value.ownBlock] using he
      subst this
      rw [hh] at hh'
      injection hh' with hh'
      injection hh' with _ ht
      exact hne ht

/-- A row and a map are two. -/
theorem own_not_map {P : Program} {k : TypeId} {R : Value → Option (DataW Unit × List MemPlace)} {b m : Nat} {D : DataW Unit} (h : w.ownsRow base e size v n xs) (hm : w.ownsMap P k R b m D) : some b ≠ v.ownBlock := by
  intro he
  obtain ⟨es, clock, hb, _⟩ := hm
  rcases h.2 with ⟨rfl, _⟩ | ⟨g, cap, cur, rfl, _, hh, _⟩
  · simp [Value.ownBlock] at he
  · have : b = g := by simpa [Value.ownBlock] using he
    subst this
    rw [hh] at hb
    injection hb with hb
    cases hb

theorem map_below {P : Program} {k : TypeId} {R : Value → Option (DataW Unit × List MemPlace)} {b m : Nat} {D : DataW Unit} (hm : w.ownsMap P k R b m D) (hb : Below w.heap.size w w') : w'.ownsMap P k R b m D := by
  have hlt := hm.lt
  obtain ⟨es, clock, h1, h2⟩ := hm
  exact ⟨es, clock, (hb.block b hlt).trans h1, h2⟩
end

/-- A new block of one item reads as the item. -/
theorem item_new (w : World) (x : It) : ∀ j u, (fc x)[j]? = some u → (w.alloc (.cells #[.int .i64 x.k, .int .i32 x.n, .string x.s, .int .i64 x.re, .int .i64 x.im] 74)).cell? ((⟨w.heap.size, 0, none⟩ : Addr).add j) = some u :=
  (World.ownsRow_lit (base := 0) (e := 74) (size := 5) w #[.int .i64 x.k, .int .i32 x.n, .string x.s, .int .i64 x.re, .int .i64 x.im] 1 (Nat.zero_le _) (by unfold maxLen; omega) rfl).cells rfl

/-- The counts of the items ks in l, as cells. -/
def cv (l ks : List It) : List Value := ks.map fun x => .int .i64 (cnt x l)

set_option maxRecDepth 100000 in
set_option maxHeartbeats 2000000 in
theorem tallied_list (A : Option Addr) (c : Nat) (l : List It) (w : World) (hl : l.length ≤ 2932031007402) (hA : Rd w A (l.flatMap fc)) (hwf : ∀ x ∈ l, WF x) :
    Calls Tryz.prog 49 #[.slice A l.length c] w fun e w' => ∃ (B1 B2 : Option Addr) (c1 c2 : Nat), e = .returned (.tuple #[.slice B1 (dd l).length c1, .slice B2 (dd l).length c2]) ∧
      Rd w' B1 ((dd l).flatMap fc) ∧ Rd w' B2 (cv l (dd l)) ∧ Below w.heap.size w w' := by
  obtain ⟨ti, hi, hz0, hz1, hz2⟩ := info_parts Tryz.info74
  obtain ⟨tj, hj, hy0, hy1, hy2⟩ := info_parts Tryz.info3
  have Htal := Lib.hid (tally_at A c l w hl hA hwf)
  have HA := Lib.hid hA
  have Hwf := Lib.hid hwf
  have Hi := Lib.hid hi
  have Hz0 := Lib.hid hz0
  have Hz1 := Lib.hid hz1
  have Hz2 := Lib.hid hz2
  have Hj := Lib.hid hj
  have Hy0 := Lib.hid hy0
  have Hy1 := Lib.hid hy1
  have Hy2 := Lib.hid hy2
  clear hA hwf hi hz0 hz1 hz2 hj hy0 hy1 hy2
  go_enter Tryz.func49, Tryz.ntmps49
  go_wp2_with fail
  refine Htal.out.mono ?_
  rintro e w1 ⟨B, D, rfl, hown, hBw, hcn, hb1⟩
  have Hown := Lib.hid hown
  have Hcn := Lib.hid hcn
  have Hb1 := Lib.hid hb1
  clear hown hcn hb1
  go_wp2
  go_loopw [5, 6, 13] (fun v5 v6 i wr => ∃ k : Nat, k ≤ l.length ∧ i = .int .i64 k ∧ wr.ownsRow w.heap.size 74 5 v5 (dd (l.take k)).length ((dd (l.take k)).flatMap fc) ∧
    wr.ownsRow w.heap.size 3 1 v6 (dd (l.take k)).length (cv l (dd (l.take k))) ∧ wr.ownsMap Tryz.prog 74 (plainElem Tryz.prog 3) B l.length D ∧ Below w.heap.size w wr) (fun _ _ i _ => l.length - (intOf i).toNat)
  case atStart => exact ⟨0, Nat.zero_le _, rfl, World.ownsRow_nil _ _ _ _, World.ownsRow_nil _ _ _ _, Hown.out, Hb1.out⟩
  case round =>
    obtain ⟨k, hk, rfl, ho5, ho6, hom, hb⟩ := hrel
    by_cases hlt : k < l.length
    · obtain ⟨b1, o1, rfl, hlt1, hc0⟩ := HA.out.item fc_length (i := k) (x := l[k]) (by simp [hlt])
      have hc : ∀ j, j < 5 → wr.cell? ⟨b1, (o1 + k * 5) + j, none⟩ = (fc l[k])[j]? := fun j hj => by
        rw [Nat.add_assoc]; exact (hb.cell (p := ⟨b1, o1 + (k * 5 + j), none⟩) hlt1).trans (hc0 j hj)
      obtain ⟨y0, y1, y2, y3, y4⟩ := five hc rfl
      obtain ⟨B5, c5, rfl⟩ := own_shape ho5
      have hdl := dd_length_le (l.take k)
      have hlt2 : (l.take k).length ≤ k := List.length_take_le _ _
      have ht : dd (l.take (k + 1)) = dstep (dd (l.take k)) l[k] := by rw [List.take_succ_eq_append_getElem hlt, dd_snoc]
      have hba := (Below.refl wr.heap.size wr).alloc (Nat.le_refl _) (.cells #[.int .i64 l[k].k, .int .i32 l[k].n, .string l[k].s, .int .i64 l[k].re, .int .i64 l[k].im] 74)
      have Hba := Lib.hid hba
      have Ho5 := Lib.hid ho5
      have Ho6 := Lib.hid ho6
      have Hom := Lib.hid hom
      have Hb := Lib.hid hb
      have Ht := Lib.hid ht
      clear hc hc0 hba ho5 ho6 hom hb ht
      have i0 : (0 : Int) ≤ (k : Int) := by omega
      have i1 : (k : Int) < (l.length : Int) := by omega
      by_cases hany : (dd (l.take k)).any (eqB l[k]) = true
      · have Hany := Lib.hid hany
        clear hany
        go_wp2_with fail
        refine (contains_yes _ _ _ l[k] _ (by omega) ((Rd.of_own Ho5.out).below Hba.out) Hany.out).mono ?_
        rintro e w2 ⟨rfl, hb2⟩
        have Hb2 := Lib.hid (Hba.out.trans (hb2.mono Hba.out.size))
        clear hb2
        go_wp2
        go_roundw
        case rel => exact ⟨k + 1, by omega, by go_num, by rw [Ht.out, dstep, if_pos Hany.out]; exact own_below Ho5.out Hb2.out, by rw [Ht.out, dstep, if_pos Hany.out]; exact own_below Ho6.out Hb2.out, map_below Hom.out Hb2.out, Hb.out.trans (Hb2.out.mono Hb.out.size)⟩
        case measure => simp [intOf]; omega
      · have hno : (dd (l.take k)).any (eqB l[k]) = false := by simpa using hany
        have Hany := Lib.hid hno
        clear hany hno
        go_wp2_with fail
        refine (contains_no _ _ _ l[k] _ (by omega) ((Rd.of_own Ho5.out).below Hba.out) Hany.out).mono ?_
        rintro e w2 ⟨rfl, hb2⟩
        have hx : ∀ j, j < 5 → w2.cell? ⟨wr.heap.size, 0 + j, none⟩ = (fc l[k])[j]? := fun j hj => by
          rw [hb2.cell (p := ⟨wr.heap.size, 0 + j, none⟩) (by simp), World.cell?_alloc_at _ _ _ _ (by simp)]
          simp [fc]
        obtain ⟨x0, x1, x2, x3, x4⟩ := five hx rfl
        simp only [Nat.zero_add] at x0 x1 x2 x3 x4
        have Hx := Lib.hid hx
        have hsz2 : wr.heap.size < w2.heap.size := by have := hb2.size; simp at this; omega
        have Hb2 := Lib.hid (Hba.out.trans (hb2.mono Hba.out.size))
        have hbase : w.heap.size ≤ w2.heap.size := Nat.le_trans Hb.out.size Hb2.out.size
        have Ho5' := Lib.hid (own_below Ho5.out Hb2.out)
        have Ho6' := Lib.hid (own_below Ho6.out Hb2.out)
        have Hom' := Lib.hid (map_below Hom.out Hb2.out)
        clear hb2 hx
        go_wp2_with (at_builtin; refine wpList_append_own _ rfl _ _ 39 rfl w.heap.size 74 ti _ 5 48 Tryz.underlying39 Hi.out Hz0.out Hz1.out Hz2.out rfl (by decide) _ _ _ rfl (Ho5'.out.alloc _) ⟨w2.heap.size, 0, none⟩ 1 1 (fc l[k]) rfl rfl ?c1 ?c2 ?c3 ?c4 ?c5 ?_)
        case c1 =>
          exact item_new _ _
        case c2 => simp [fc, Value.oneCell']
        case c3 => unfold maxLen; omega
        case c4 => omega
        case c5 => simp; omega
        intro v5' w3 ho5n hg5 _
        have hne5 : some wr.heap.size ≠ (Value.slice B5 (dd (List.take k l)).length c5).ownBlock := fun he => absurd (Ho5.out.lt _ he.symm).2 (by omega)
        have hx3 : ∀ j, j < 5 → w3.cell? ⟨wr.heap.size, 0 + j, none⟩ = (fc l[k])[j]? := fun j hj => by
          rw [World.cell?_of_block (w := w2.alloc _) (a := ⟨wr.heap.size, 0 + j, none⟩) (hg5.block wr.heap.size (by simp; omega) hne5), World.cell?_alloc_lt _ _ ⟨wr.heap.size, 0 + j, none⟩ hsz2]
          exact Hx.out j hj
        have hk5 : ∀ j, (Value.slice B5 (dd (List.take k l)).length c5).ownBlock = some j → w.heap.size ≤ j := fun j hj => (Ho5.out.lt j hj).1
        have ho6n := (Ho6'.out.alloc _).kept hg5 (own_apart Ho5'.out Ho6'.out (by decide))
        have homn := (Hom'.out.alloc _).kept hg5 (own_not_map Ho5'.out Hom'.out)
        have hbn := ((Hb.out.trans (Hb2.out.mono Hb.out.size)).alloc hbase _).grown hg5 (by simp; omega) hk5
        obtain ⟨z0, z1, z2, z3, z4⟩ := five hx3 rfl
        simp only [Nat.zero_add] at z0 z1 z2 z3 z4
        have hb3 : w.heap.size ≤ w3.heap.size := hbn.size
        have Ho5n := Lib.hid ho5n
        have Ho6n := Lib.hid ho6n
        have Homn := Lib.hid homn
        have Hbn := Lib.hid hbn
        have hwx : WF l[k] := Hwf.out _ (List.getElem_mem hlt)
        have hkey := keyOf74 _ hwx
        unfold fv at hkey
        have Hkey := Lib.hid hkey
        have Hat := Lib.hid (Hcn.out.at_ _ hwx)
        clear ho5n hg5 hne5 hx3 hk5 ho6n homn hbn hkey hwx x0 x1 x2 x3 x4
        go_wp2_with (at_lookup; refine wpList_lookup_own_int _ rfl _ _ 162 rfl 74 3 .i64 keyed74 Tryz.underlying162 Tryz.underlying3 (Tryz.zero3 _) B l.length D rfl Homn.out _ _ rfl Hkey.out ?_)
        intro cc hat _
        have hcc : cc = (cnt l[k] l : Int) := by
          have h1 := hat
          rw [Hat.out] at h1
          simpa using h1.symm
        subst hcc
        clear hat
        go_wp2_with (at_builtin; refine wpList_append_own _ rfl _ _ 63 rfl w.heap.size 3 tj _ 1 8 Tryz.underlying63 Hj.out Hy0.out Hy1.out Hy2.out rfl (by decide) _ _ _ rfl (Ho6n.out.alloc _) ⟨w3.heap.size, 0, none⟩ 1 1 [.int .i64 (cnt l[k] l)] rfl rfl ?d1 ?d2 ?d3 ?d4 ?d5 ?_)
        case d1 => exact cell_one_new _ _ _
        case d2 => simp [Value.oneCell']
        case d3 => unfold maxLen; omega
        case d4 => omega
        case d5 => simp; omega
        intro v6' w4 ho6p hg6 _
        have ho5p := (Ho5n.out.alloc _).kept hg6 (own_apart Ho6n.out Ho5n.out (by decide))
        have homp := (Homn.out.alloc _).kept hg6 (own_not_map Ho6n.out Homn.out)
        have hk6 : ∀ j, u6.ownBlock = some j → w.heap.size ≤ j := fun j hj => (Ho6n.out.lt j hj).1
        have hbp := (Hbn.out.alloc hb3 _).grown hg6 (by simp; omega) hk6
        have Ho6p := Lib.hid ho6p
        have Ho5p := Lib.hid ho5p
        have Homp := Lib.hid homp
        have Hbp := Lib.hid hbp
        clear ho6p ho5p homp hbp hg6 hk6
        have hnd : dd (l.take (k + 1)) = dd (l.take k) ++ [l[k]] := by rw [Ht.out, dstep, if_neg (by rw [Hany.out]; decide)]
        have Hnd := Lib.hid hnd
        clear hnd
        go_wp2
        go_roundw
        case rel => exact ⟨k + 1, by omega, by go_num, by rw [Hnd.out, List.length_append, List.flatMap_append]; simpa using Ho5p.out, by rw [Hnd.out, List.length_append, cv, List.map_append]; simpa [cv] using Ho6p.out, Homp.out, Hbp.out⟩
        case measure => simp [intOf]; omega
    · obtain rfl : k = l.length := by omega
      rw [List.take_length] at ho5 ho6
      obtain ⟨B5, c5, rfl⟩ := own_shape ho5
      obtain ⟨B6, c6, rfl⟩ := own_shape ho6
      have Ho5 := Lib.hid ho5
      have Ho6 := Lib.hid ho6
      have Hb := Lib.hid hb
      have hsz := Hcn.out.size_
      clear ho5 ho6 hb
      go_wp2_with (at_len; refine wpList_len_own _ rfl _ 162 rfl 74 3 Tryz.underlying162 (plainElem Tryz.prog 3) B l.length D rfl hom ?_)
      go_ret2
      exact ⟨B5, B6, c5, c6, rfl, Rd.of_own Ho5.out, Rd.of_own Ho6.out, Hb.out⟩
end Go.Proofs.YtgfpadgjmkfmiaaGreatDoor
