/-
  A call of one goroutine that is proved by a contract also meets a row that lets other goroutines be only leaving, and the clock go on.
-/
import Derived.Conc.HoldsTime
import Derived.Handed
namespace Go.Proofs.YtgfpadgjmkfmiaaGreatDoor
open Go.ConcM

theorem onlyLeaving_of_quiet {P : Program} {m : Machine} (h : m.quiet) : m.OnlyLeaving P := by
  obtain ⟨h1, h2⟩ := h
  refine ⟨fun g hg => ⟨0, ?_⟩, h2⟩
  have h3 := List.all_eq_true.1 h1 g hg
  show g.status = .finished
  simpa using h3

theorem leaving_of_handed {a : Assume} {C : Checked} {os : Os} {f : FuncId} {r : Reach} {Pre : World → Array Value → Prop} {Post : World → Array Value → Value → World → Prop}
    (h : ReturnsInHanded a C os f r Pre Post) : ReturnsInLeavingWide a C os f r Pre Post := fun enter => by
  obtain ⟨g0, g1, g2, g3, all⟩ := h enter
  refine ⟨g0, g1, g2, g3, fun w tape i hf => ?_⟩
  obtain ⟨n, v, w', hn, hc, hr, hp, ⟨j, last, hj, hs, hq, hh, he⟩, ha⟩ := all w tape i hf
  exact ⟨n, v, w', hn, hc, hr, hp, ⟨j, last, hj, hs, hh, onlyLeaving_of_quiet hq, he⟩, ha⟩

section
variable {H : Type} {enc : TypeId × Value → H}

/-- The contract of one goroutine, at a row that speaks of the clock. -/
theorem leaving_of_contract {a : Assume} {C : Checked} {os : Os} {f : FuncId} {fn : Func} {s : ChangeSpec} {F : Stop.Interp} {conds : List PathCond} {apart fresh handsOn : Bool}
    (own : ownKnob C.prog.godebug = none) (started : os.Started) (noInit : C.prog.inits.idxOf? f = none) (hfn : C.prog.funcs[f]? = some fn)
    (witness : ∃ (w : World) (tape : Tape) (i : Input), w.os = os ∧ (w.forCall tape i).Shaped C.prog ∧ i.vars = [] ∧ Input.okWide C.prog (w.forCall tape i) .any w.heap.size f i ∧
      s.pre6 enc C.prog fn conds apart (w.forCall tape i).memory i.args ∧ a.holds C.prog (lone (Frame.enter C.prog f i.args .normal) [] (w.forCall tape i)))
    (contract : ∀ (W : World) (base : Nat) (args : Array Value) (ds gs : List (DataW H)) (before : List MemPlace),
      (∀ (j : Nat) t v, fn.params[j]? = some t → args[j]? = some v → Value.okWide C.prog W .any base t v) →
      DataW.Whole enc C.prog fn.params.toList s.vars apart W args.toList ds gs before →
      (DataW.weightsEach C.prog (fn.params.toList ++ s.plain.varTypes C.prog) (ds ++ gs)).all (· ≤ reachBytes) = true →
      Calls C.prog f args W fun e W' => ∃ v, e = .returned v ∧ s.post enc C.prog fn apart fresh handsOn false W args v W' ∧ W'.os = W.os) :
    ReturnsInLeavingWide a C os f .any (s.pre6 enc C.prog fn conds apart) ((OpenSpec.ofChange s).postWith enc C.prog fn F (outsideKept [.timePasses]) apart fresh handsOn) := by
  refine leaving_of_handed (returnsInHanded_of_calls own started noInit witness ?_)
  intro w tape i _ _ _ hok hpre _
  obtain ⟨_, _, _, fn', hfn', _, _, _, _, hval⟩ := hok
  have e : fn' = fn := Option.some.inj (hfn'.symm.trans hfn)
  subst e
  obtain ⟨⟨ds, gs, before, hw, hc⟩, hz⟩ := hpre
  have hw' := DataW.Whole.of_heap (w' := w.forCall tape i) (by rfl) hw
  refine (contract (w.forCall tape i) w.heap.size i.args ds gs before hval hw' (hz.weights hw)).mono fun e W' ⟨v, he, hp, hos⟩ => ?_
  subst he
  have hp2 : s.post enc C.prog fn' apart fresh handsOn false (w.forCall tape i) i.args v { W' with os := (w.forCall tape i).os } := by
    have e2 : ({ W' with os := (w.forCall tape i).os } : World) = W' := by rw [← hos]
    rw [e2]
    exact hp
  exact postWith_blind (postWith_of_post hp2 (by rw [hos]; exact OsLater.refl _))
end
end Go.Proofs.YtgfpadgjmkfmiaaGreatDoor
