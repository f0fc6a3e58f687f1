/-
  A CALCULUS OVER ABSTRACT HEAPS: a region whose order is drawn, in an order of one's own: its rules, one by one.
-/
import Derived.Test.YtnbfimppgcoajaaDoorAbS
namespace Go.Ab
set_option linter.unusedSimpArgs false
set_option linter.unusedVariables false
set_option linter.unusedSectionVars false
variable [Start]
variable {P : Program} {ops : Array Oper} {S : AHeap → Prop} {K : Env → AHeap → Prop} {l : List (Nat × Bool)} {env : Env} {H : AHeap} {i : Nat} {dst : Option Tmp} {op : Op} {ty : TypeId} {pos : String} {af : Array Edge}
theorem sq (v : Value) (ho : ops[i]? = some ⟨dst, op, ty, pos, af, none⟩) (hv : ∀ H', S H' → valA P env H' op = some v) (h : seqA P ops S K l (put env dst v) H) : seqA P ops S K ((i, true) :: l) env H := by
  unfold seqA; rw [ho]; exact ⟨v, fun H K hs hk => valA_sound (hv H hs) hk, h⟩
theorem sg (v : Value) {j : Nat} {want : Bool} (ho : ops[i]? = some ⟨dst, op, ty, pos, af, some (j, want)⟩) (hy : yieldA ops env j = some want) (hv : ∀ H', S H' → valA P env H' op = some v) (h : seqA P ops S K l (put env dst v) H) : seqA P ops S K ((i, true) :: l) env H := by
  unfold seqA; rw [ho]; exact ⟨v, .inl ⟨hy, fun H K hs hk => valA_sound (hv H hs) hk⟩, h⟩
theorem sp {j : Nat} {want : Bool} (ho : ops[i]? = some ⟨dst, op, ty, pos, af, some (j, want)⟩) (hy : yieldA ops env j ≠ some want) (h : seqA P ops S K l (put env dst undef) H) : seqA P ops S K ((i, true) :: l) env H := by
  unfold seqA; rw [ho]; exact ⟨undef, .inr ⟨hy, rfl⟩, h⟩
theorem sc (ho : ops[i]? = some ⟨dst, op, ty, pos, af, none⟩) (hs : S H) (h : opW P env H (fun v H' => seqA P ops S K l (put env dst v) H') op) : seqA P ops S K ((i, false) :: l) env H := by
  unfold seqA; rw [ho]; exact ⟨hs, h⟩
theorem scg {j : Nat} {want : Bool} (ho : ops[i]? = some ⟨dst, op, ty, pos, af, some (j, want)⟩) (hs : S H) (hy : yieldA ops env j = some want) (h : opW P env H (fun v H' => seqA P ops S K l (put env dst v) H') op) : seqA P ops S K ((i, false) :: l) env H := by
  unfold seqA; rw [ho]; refine ⟨hs, ?_⟩
  unfold operW
  simp only [hy]
  exact ⟨fun _ => h, fun hb => absurd rfl hb⟩
theorem call_q {g : FuncId} {args : List Operand} {ats : Array TypeId} {vs : List Value} {K : Value → AHeap → Prop} (hv : args.map (ev env) = vs) (h : ACalls P g vs.toArray H K) : opW P env H K (.call ⟨.value (.func g), List.toArray args, ats⟩) := by
  unfold opW callW
  simp only [ev]
  subst hv
  simpa using h
theorem sz (hs : S H) (h : K env H) : seqA P ops S K [] env H := ⟨hs, h⟩
end Go.Ab
