/-
  A CALCULUS OVER ABSTRACT HEAPS: calls that answer at once; from a call over abstract heaps to a call.
-/
import Derived.Test.YtnbfimppgcoajaaDoorAbV
import Derived.Lib.Bytealg
namespace Go.Ab
set_option linter.unusedSimpArgs false
set_option linter.unusedVariables false
set_option linter.unusedSectionVars false
variable [Start]
variable {P : Program} {H : AHeap}
omit [Go.Ab.Start] in
theorem ArrR.plain_eq {φ : Emb} {a b : Array Value} (h : ArrR φ a b) (hp : a.toList.all plain = true) : b = a :=
  Array.ext h.1.symm fun i hi hj => (h.2 i hj hi).plain_eq (List.all_eq_true.1 hp _ (by simp))
/-- An entry of the model's that only computes. -/
theorem acalls_pure {f : FuncId} {args : List Value} {v : Value} {K : Value → AHeap → Prop} (ha : args.all plain = true) (hv : plain v = true) (hr : ∀ w, (callFunc f args.toArray).run P w = .ok (.value v) w) (hk : K v H) : ACalls P f args.toArray H K := by
  intro base w0 φ w cargs r h
  rw [h.plain_eq (by simpa using ha)]
  exact .inl ⟨v, w, hr w, Post.same r (.of_plain φ hv) hk⟩
theorem acalls_calls {f : FuncId} {args : Array Value} {K : Value → AHeap → Prop} (h : ACalls P f args H K) (he : Enter P f) {base : Nat} {w0 : World} {φ : Emb} {w : World} {cargs : Array Value} (r : Rel base w0 φ H w) (ha : ArrR φ args cargs) :
    Calls P f cargs w fun e w' => ∃ v', e = .returned v' ∧ Post base w0 φ H w K v' w' := by
  rcases h base w0 φ w cargs r ha with ⟨v', w', h1, _⟩ | ⟨w', h1, _⟩ | ⟨g, as, h1, h2⟩
  · rw [run_callFunc he] at h1; cases h1
  · rw [run_callFunc he] at h1; cases h1
  · rw [run_callFunc he] at h1; cases h1; exact h2
end Go.Ab
