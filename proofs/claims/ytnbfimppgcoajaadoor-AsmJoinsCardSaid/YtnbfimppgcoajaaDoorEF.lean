/-
  A part of the proofs: EF.
-/
import Derived.Test.YtnbfimppgcoajaaDoorDT
import Derived.Test.YtnbfimppgcoajaaDoorAbS
import Derived.Test.YtnbfimppgcoajaaDoorPA
import Derived.Test.YtnbfimppgcoajaaDoorPB
namespace Go.Proofs
set_option linter.unusedSimpArgs false
set_option linter.unusedVariables false
set_option linter.unusedSectionVars false
open Go Go.Ab AsmM
variable [Go.Ab.Start]
set_option maxRecDepth 100000
set_option maxHeartbeats 1000000
def opsV (op : Int) : List Value := ((operands op ++ [0, 0, 0]).take 3).map (.int .i64 ·)
theorem opsV_rest (op : Int) (h : ¬ (op = 1 ∨ op = 13 ∨ op = 14 ∨ op = 12 ∨ op = 15 ∨ op = 22 ∨ op = 43 ∨ op = 45 ∨ op = 21 ∨ op = 32 ∨ (17 ≤ op ∧ op ≤ 20) ∨ op = 31)) : (fields op = (true, true, true, true) ∧ operands op = [1, 2, 4]) ∨ (fields op = (true, true, true, false) ∧ operands op = [1, 2, 3]) ∨ (fields op = (true, true, false, false) ∧ operands op = [1, 2]) ∨ (fields op = (true, false, false, false) ∧ operands op = [1]) ∨ (fields op = (false, false, false, false) ∧ operands op = []) := by
  have e : operands op = if 3 ≤ op ∧ op ≤ 11 then [1, 2, 4] else if (24 ≤ op ∧ op ≤ 27) ∨ op = 48 then [1, 2, 3] else if op = 2 ∨ op = 23 ∨ op = 49 ∨ op = 50 ∨ op = 47 ∨ op = 39 ∨ op = 54 then [1, 2] else if (28 ≤ op ∧ op ≤ 30) ∨ (34 ≤ op ∧ op ≤ 38) ∨ (40 ≤ op ∧ op ≤ 42) ∨ op = 44 ∨ op = 46 ∨ (51 ≤ op ∧ op ≤ 53) ∨ op = 57 then [1] else [] := by
    unfold operands
    rw [if_neg (by omega), if_neg (by omega), if_neg (by omega), if_neg (by omega), if_neg (by omega), if_neg (by omega), if_neg (by omega), if_neg (by omega)]
  rw [e]
  unfold fields
  by_cases h1 : 3 ≤ op ∧ op ≤ 11
  · rw [if_pos (by omega), if_pos h1]; simp
  rw [if_neg (by omega : ¬ ((3 ≤ op ∧ op ≤ 11) ∨ op = 21 ∨ op = 32)), if_neg h1]
  by_cases h2 : (24 ≤ op ∧ op ≤ 27) ∨ op = 48
  · rw [if_pos h2, if_pos h2]; simp
  rw [if_neg h2, if_neg h2]
  by_cases h3 : op = 2 ∨ op = 23 ∨ op = 49 ∨ op = 50 ∨ op = 47 ∨ op = 39 ∨ op = 54
  · rw [if_pos h3, if_pos h3]; simp
  rw [if_neg h3, if_neg h3, if_neg (by omega), if_neg (by omega), if_neg (by omega)]
  by_cases h4 : (28 ≤ op ∧ op ≤ 30) ∨ (34 ≤ op ∧ op ≤ 38) ∨ (40 ≤ op ∧ op ≤ 42) ∨ op = 44 ∨ op = 46 ∨ (51 ≤ op ∧ op ≤ 53) ∨ op = 57
  · rw [if_pos h4, if_pos h4]; simp
  rw [if_neg h4, if_neg h4]; simp
theorem operands27 (op : Int) (H : AHeap) (K : Value → AHeap → Prop) (hk : ∀ H', Grew H H' → K (.agg (List.toArray (opsV op))) H') : ACalls Tryd.prog 27 #[.int .i64 op] H K := by
  refine w_enter (args := [.int .i64 op]) Tryd.func27 rfl (by kernel_rfl) D.mixed (by kernel_rfl) (rs := [.cell 2 78]) rfl ?_
  repeat' (first
    | (simp (disch := first | omega | assumption) only [go_sem, ↓reduceIte, Nat.reduceEqDiff, reduceCtorEq, Nat.reduceAdd, Nat.reduceMul, Int.reduceToNat, Nat.reduceShiftRight, Nat.reduceAnd, Nat.reduceBNe, Nat.reduceBneDiff, Nat.reduceLT, Nat.reduceLeDiff, Int.reduceLT, Int.reduceLE, Int.reduceEq, Int.reduceAdd, Int.reduceSub, true_and])
    | (refine br_prop (fun hb => ?_) (fun hb => ?_) <;> try (exfalso; omega))
    | refine br_not ?_
    | (refine by_prop (fun hb => ?_) (fun hb => ?_) <;> try (exfalso; omega))
    | (refine by_prop' (fun hb => ?_) (fun hb => ?_) <;> try (exfalso; omega))
    | refine by_not ?_
    | refine w_drawn (by kernel_rfl) ?_
    | refine new_i' (by rfl) (fun j hj hn => ?_)
    | refine new_i (fun j hn => ?_)
    | refine br_bool (fun hb => ?_) (fun hb => ?_)
    | refine by_bool (fun hb => ?_) (fun hb => ?_)
    | refine by_bool' (fun hb => ?_) (fun hb => ?_))
  all_goals first
    | (subst_vars; exact hk _ (by repeat' (first | exact Grew.refl _ | refine Grew.set ?_ _ (by assumption) | assumption)))
    | refine call_i (fields46 _ _ _ ?_)
  rcases opsV_rest op (by omega) with ⟨h1, h2⟩ | ⟨h1, h2⟩ | ⟨h1, h2⟩ | ⟨h1, h2⟩ | ⟨h1, h2⟩
  all_goals
    rw [h1]
    have e : opsV op = ((operands op ++ [0, 0, 0]).take 3).map (.int .i64 ·) := rfl
    rw [h2] at e
    rw [e] at hk
    repeat' (first
      | (simp (disch := first | omega | assumption) only [go_sem, ↓reduceIte, Nat.reduceEqDiff, reduceCtorEq, Nat.reduceAdd, Nat.reduceMul, Int.reduceToNat, Nat.reduceShiftRight, Nat.reduceAnd, Nat.reduceBNe, Nat.reduceBneDiff, Nat.reduceLT, Nat.reduceLeDiff, Int.reduceLT, Int.reduceLE, Int.reduceEq, Int.reduceAdd, Int.reduceSub, *])
      | (refine br_prop (fun hb => ?_) (fun hb => ?_) <;> try (exfalso; omega))
      | refine br_not ?_
      | (refine by_prop (fun hb => ?_) (fun hb => ?_) <;> try (exfalso; omega))
      | (refine by_prop' (fun hb => ?_) (fun hb => ?_) <;> try (exfalso; omega))
      | refine by_not ?_
      | refine w_drawn (by kernel_rfl) ?_
      | refine new_i' (by rfl) (fun j hj hn => ?_)
      | refine new_i (fun j hn => ?_)
      | refine br_bool (fun hb => ?_) (fun hb => ?_)
      | refine by_bool (fun hb => ?_) (fun hb => ?_)
      | refine by_bool' (fun hb => ?_) (fun hb => ?_))
    exact hk _ (by repeat' (first | exact Grew.refl _ | refine Grew.set ?_ _ (by assumption) | assumption))
end Go.Proofs
