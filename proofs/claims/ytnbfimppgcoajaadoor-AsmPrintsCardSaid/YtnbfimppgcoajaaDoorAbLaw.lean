/-
  A CALCULUS OVER ABSTRACT HEAPS: a call of a law, at arguments that hang on no memory.
-/
import Derived.Test.YtnbfimppgcoajaaDoorAbX
import GoSem.ClaimChange
import Derived.ChangeFn
namespace Go.Ab
set_option linter.unusedSimpArgs false
set_option linter.unusedVariables false
set_option linter.unusedSectionVars false
variable [Start]
variable {P : Program}
theorem rel_empty {w : World} (hg : Start.good w.heap.size w) : Rel w.heap.size w (fun _ => none) (fun _ => .none) w :=
  ⟨⟨0, fun _ _ => ⟨rfl, rfl⟩⟩, fun _ _ h => (by cases h), Nat.le_refl _, hg, fun _ _ => rfl, ⟨rfl, rfl⟩, fun _ _ h => (by cases h), fun _ _ h => (by cases h), fun _ _ _ h => (by cases h), fun _ _ _ _ h => (by cases h)⟩
omit [Go.Ab.Start] in
theorem kept_of {w w' : World} (ho : IoSame w w') (hb : ∀ b, b < w.heap.size → w'.heap[b]? = w.heap[b]?) (may : MemPlace → Prop) : w.keptBut w' may := by
  refine ⟨ho.1, ho.2, fun i hi => ?_⟩
  rw [hb i hi]
  split <;> simp_all
/-- From the calculus to a call of a law: plain arguments, a bool. -/
theorem law_calls {f : FuncId} {args : List Value} {w : World} (he : Enter P f) (hp : args.all plain = true) (hg : Start.good w.heap.size w) (h : ACalls P f args.toArray (fun _ => .none) fun v _ => v = .bool true) :
    Calls P f args.toArray w fun e w' => e = .returned (.bool true) ∧ ∀ may, w.keptBut w' may := by
  refine (acalls_calls h he (rel_empty hg) ⟨rfl, fun i hi hj => .of_plain _ (List.all_eq_true.1 hp _ (by simp))⟩).mono fun e w' hq => ?_
  obtain ⟨v', rfl, φ', H', v, s, r, hv, rfl⟩ := hq
  cases hv
  exact ⟨rfl, kept_of r.io fun b hb => s.conc b hb fun i e h _ => by cases h⟩
end Go.Ab
