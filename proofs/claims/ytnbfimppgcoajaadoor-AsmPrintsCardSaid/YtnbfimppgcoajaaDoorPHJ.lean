/-
  A part of the proofs: HG HJ.
-/
import Derived.Test.YtnbfimppgcoajaaDoorDT
import Derived.Test.YtnbfimppgcoajaaDoorAbS
import Derived.Test.YtnbfimppgcoajaaDoorAbEq
import Derived.Test.YtnbfimppgcoajaaDoorPT
import Derived.Test.YtnbfimppgcoajaaDoorPA
import Derived.Test.YtnbfimppgcoajaaDoorPHF
import Derived.Test.YtnbfimppgcoajaaDoorPEF
namespace Go.Proofs
set_option linter.unusedSimpArgs false
set_option linter.unusedVariables false
set_option linter.unusedSectionVars false
open Go Go.Ab AsmM
variable [Go.Ab.Start]
set_option maxRecDepth 100000
set_option maxHeartbeats 1000000
/-- The document's numbers of the kinds of operands. -/
def kr (k : Int) : Int := if k = 1 then 0 else if k = 2 then 1 else if k = 3 then 2 else if k = 4 then 4 else if k = 5 then 3 else if k = 6 then 5 else if k = 7 then 7 else if k = 8 then 6 else 8
def opsR (op : Int) : List Value := (operands op).map fun k => .int .i64 (kr k)
def restB (op : Int) (f : Bool × Bool × Bool × Bool) (c n : Bool) (l : List Int) : Bool := decide (fields op = f) && (isCell op == c) && (lessC op == n) && decide (operands op = l)
def restAll (op : Int) : Bool := restB op (true, true, true, true) false true [1, 2, 4] || restB op (true, true, true, true) true false [1, 6, 3] || restB op (true, true, false, true) true false [1, 6] || restB op (true, true, true, false) false false [1, 2, 3] ||
  restB op (true, true, false, false) false false [1, 2] || restB op (true, false, false, false) false false [1] || restB op (false, false, false, false) false false []
theorem rest_all : ∀ k : Fin 58, decide (((k.val : Int) + 1) = 1 ∨ ((k.val : Int) + 1) = 12 ∨ ((k.val : Int) + 1) = 15 ∨ ((k.val : Int) + 1) = 13 ∨ ((k.val : Int) + 1) = 14 ∨ ((k.val : Int) + 1) = 22 ∨ ((k.val : Int) + 1) = 43 ∨ ((k.val : Int) + 1) = 45) = true ∨ restAll ((k.val : Int) + 1) = true := by decide +kernel
theorem rest50 (op : Int) (h : ¬ (op = 1 ∨ op = 12 ∨ op = 15 ∨ op = 13 ∨ op = 14 ∨ op = 22 ∨ op = 43 ∨ op = 45)) :
    (fields op = (true, true, true, true) ∧ isCell op = false ∧ lessC op = true ∧ operands op = [1, 2, 4]) ∨ (fields op = (true, true, true, true) ∧ isCell op = true ∧ lessC op = false ∧ operands op = [1, 6, 3]) ∨
    (fields op = (true, true, false, true) ∧ isCell op = true ∧ lessC op = false ∧ operands op = [1, 6]) ∨ (fields op = (true, true, true, false) ∧ isCell op = false ∧ lessC op = false ∧ operands op = [1, 2, 3]) ∨
    (fields op = (true, true, false, false) ∧ isCell op = false ∧ lessC op = false ∧ operands op = [1, 2]) ∨ (fields op = (true, false, false, false) ∧ isCell op = false ∧ lessC op = false ∧ operands op = [1]) ∨ (fields op = (false, false, false, false) ∧ isCell op = false ∧ lessC op = false ∧ operands op = []) := by
  by_cases hr : 1 ≤ op ∧ op ≤ 58
  · obtain ⟨k, hk1, hk2⟩ : ∃ k : Nat, k < 58 ∧ op = (k : Int) + 1 := ⟨(op - 1).toNat, by omega, by omega⟩
    have h1 := rest_all ⟨k, hk1⟩
    simp only at h1
    rw [← hk2] at h1
    rcases h1 with h1 | h1
    · exact absurd (of_decide_eq_true h1) h
    · simp only [restAll, restB, Bool.or_eq_true, Bool.and_eq_true, decide_eq_true_eq, beq_iff_eq, and_assoc, or_assoc] at h1
      exact h1
  · have e1 : fields op = (false, false, false, false) := by unfold fields; repeat' rw [if_neg (by omega)]
    have e2 : isCell op = false := decide_eq_false (by omega)
    have e3 : lessC op = false := decide_eq_false (by omega)
    have e4 : operands op = [] := by unfold operands; repeat' rw [if_neg (by omega)]
    exact .inr (.inr (.inr (.inr (.inr (.inr ⟨e1, e2, e3, e4⟩)))))
theorem app57 {s : Value} {n : Nat} {cs : List Value} {c : Int} {H0 H1 : AHeap} {j jx : Nat} {X : List Value} {K : Value → AHeap → Prop} (hn : H1 j = .none) (hx : H1 jx = .cells X) (hG : Grew H0 H1) (hO : Own H0 (fun k => k = jx) H1 1 s n cs) (hb : n ≤ 1000)
    (h : ∀ v' H', Grew H0 H' → H' jx = .cells X → Own H0 (fun k => k = jx) H' 1 v' (n + 1) (cs ++ [.int .i64 c]) → K v' H') : appendW Tryd.prog 57 57 s (.slice (some ⟨j, 0, none⟩) 1 1) (H1.set j (.cells [.int .i64 c])) K := by
  have hne : jx ≠ j := fun e => by subst e; rw [hn] at hx; cases hx
  refine app_own D.e57 (hG.new _ hn) (fun k hk => by subst hk; rw [AHeap.set_ne _ _ hne, hx]; simp) (hO.new _ hn) (news_one D.u57 (AHeap.set_same _ _ _) rfl) rfl (by omega) (by omega) fun v' H' g q o => h v' H' g ?_ o
  rw [q jx rfl, AHeap.set_ne _ _ hne, hx]
theorem operands50 (op : Int) (H : AHeap) (K : Value → AHeap → Prop) (hk : ∀ H' v, Grew H H' → SN H H' 1 v (operands op).length (opsR op) → K v H') : ACalls Tryd.prog 50 #[.int .i64 op] H K := by
  replace hk := Hd.mk hk
  refine w_enter (args := [.int .i64 op]) Tryd.func50 rfl (by kernel_rfl) D.mixed (by kernel_rfl) (rs := [.tmp 2]) rfl ?_
  repeat' (first
    | (simp (disch := first | omega | assumption) only [go_sem, ↓reduceIte, Nat.reduceEqDiff, reduceCtorEq, Nat.reduceAdd, Nat.reduceMul, Int.reduceToNat, Nat.reduceShiftRight, Nat.reduceAnd, Nat.reduceBNe, Nat.reduceBneDiff, Nat.reduceLT, Nat.reduceLeDiff, Int.reduceLT, Int.reduceLE, Int.reduceEq, Int.reduceAdd, Int.reduceSub, *])
    | (refine br_prop (fun hb => ?_) (fun hb => ?_) <;> try (exfalso; omega))
    | refine br_not ?_
    | (refine by_prop (fun hb => ?_) (fun hb => ?_) <;> try (exfalso; omega))
    | (refine by_prop' (fun hb => ?_) (fun hb => ?_) <;> try (exfalso; omega))
    | refine by_not ?_
    | refine w_drawn (by kernel_rfl) ?_
    | refine new_i' (by rfl) (fun j hj hn => ?_)
    | refine new_i (fun j hn => ?_)
    | refine br_bool (fun hb => ?_) (fun hb => ?_)
    | refine by_bool (fun hb => ?_) (fun hb => ?_)
    | refine by_bool' (fun hb => ?_) (fun hb => ?_))
  all_goals first
    | (subst_vars
       exact hk.go _ _ ((Grew.refl _).new _ hn) ⟨some j, ⟨_, [], rfl, by rw [AHeap.set_same]; rfl, rfl, rfl, Nat.le_refl _⟩, fun i hi => by cases hi; exact hn⟩)
    | skip
  refine call_i (of16 op _ _ fun H1 hg1 => ?_)
  unfold shapeV
  have h0 := rest50 op (by omega)
  rw [← or_assoc, ← or_assoc, ← or_assoc, ← or_assoc, ← or_assoc] at h0
  rcases h0 with h0 | ⟨h1, h2, h3, h4⟩
  · rw [or_assoc, or_assoc, or_assoc, or_assoc] at h0
    rcases h0 with ⟨h1, h2, h3, h4⟩ | ⟨h1, h2, h3, h4⟩ | ⟨h1, h2, h3, h4⟩ | ⟨h1, h2, h3, h4⟩ | ⟨h1, h2, h3, h4⟩ | ⟨h1, h2, h3, h4⟩
    all_goals
      rw [h1, h3]
      unfold opsR at hk
      rw [h4] at hk
      replace hg1 := Hd.mk hg1
      have hc := cell66 op
      rw [h2] at hc
      replace hc := Hd.mk hc
      clear h1 h2 h3 h4
      repeat' (first
        | (simp (disch := first | omega | assumption) only [go_sem, ↓reduceIte, Nat.reduceEqDiff, reduceCtorEq, Nat.reduceAdd, Nat.reduceMul, Int.reduceToNat, Nat.reduceShiftRight, Nat.reduceAnd, Nat.reduceBNe, Nat.reduceBneDiff, Nat.reduceLT, Nat.reduceLeDiff, Int.reduceLT, Int.reduceLE, Int.reduceEq, Int.reduceAdd, Int.reduceSub, *])
        | (refine br_prop (fun hb => ?_) (fun hb => ?_) <;> try (exfalso; omega))
        | refine br_not ?_
        | (refine by_prop (fun hb => ?_) (fun hb => ?_) <;> try (exfalso; omega))
        | (refine by_prop' (fun hb => ?_) (fun hb => ?_) <;> try (exfalso; omega))
        | refine by_not ?_
        | refine w_drawn (by kernel_rfl) ?_
        | refine new_i' (by rfl) (fun j hj hn => ?_)
        | refine new_i (fun j hn => ?_)
        | refine br_bool (fun hb => ?_) (fun hb => ?_)
        | refine by_bool (fun hb => ?_) (fun hb => ?_)
        | refine by_bool' (fun hb => ?_) (fun hb => ?_))
      rename_i jx hnx
      refine app_i (app57 (by rw [AHeap.set_ne _ _ hj]; exact hn) (AHeap.set_same _ _ _) (hg1.go.new _ hnx) (Own.nil _ _ _ _) (by omega) fun v H2 hG hx hO => ?_)
      replace hG := Hd.mk hG
      replace hO := Hd.mk hO
      clear hn hj hnx
      repeat' (first
        | (simp (disch := first | omega | assumption) only [go_sem, ↓reduceIte, Nat.reduceEqDiff, reduceCtorEq, Nat.reduceAdd, Nat.reduceMul, Int.reduceToNat, Nat.reduceShiftRight, Nat.reduceAnd, Nat.reduceBNe, Nat.reduceBneDiff, Nat.reduceLT, Nat.reduceLeDiff, Int.reduceLT, Int.reduceLE, Int.reduceEq, Int.reduceAdd, Int.reduceSub, *])
        | (refine br_prop (fun hb => ?_) (fun hb => ?_) <;> try (exfalso; omega))
        | refine br_not ?_
        | (refine by_prop (fun hb => ?_) (fun hb => ?_) <;> try (exfalso; omega))
        | (refine by_prop' (fun hb => ?_) (fun hb => ?_) <;> try (exfalso; omega))
        | refine by_not ?_
        | refine w_drawn (by kernel_rfl) ?_
        | refine new_i' (by rfl) (fun j hj hn => ?_)
        | refine new_i (fun j hn => ?_)
        | refine br_bool (fun hb => ?_) (fun hb => ?_)
        | refine by_bool (fun hb => ?_) (fun hb => ?_)
        | refine by_bool' (fun hb => ?_) (fun hb => ?_))
    all_goals
      refine call_i (hc.go _ _ ?_)
      repeat' (first
        | (simp (disch := first | omega | assumption) only [go_sem, ↓reduceIte, Nat.reduceEqDiff, reduceCtorEq, Nat.reduceAdd, Nat.reduceMul, Int.reduceToNat, Nat.reduceShiftRight, Nat.reduceAnd, Nat.reduceBNe, Nat.reduceBneDiff, Nat.reduceLT, Nat.reduceLeDiff, Int.reduceLT, Int.reduceLE, Int.reduceEq, Int.reduceAdd, Int.reduceSub, *])
        | (refine br_prop (fun hb => ?_) (fun hb => ?_) <;> try (exfalso; omega))
        | refine br_not ?_
        | (refine by_prop (fun hb => ?_) (fun hb => ?_) <;> try (exfalso; omega))
        | (refine by_prop' (fun hb => ?_) (fun hb => ?_) <;> try (exfalso; omega))
        | refine by_not ?_
        | refine w_drawn (by kernel_rfl) ?_
        | refine new_i' (by rfl) (fun j hj hn => ?_)
        | refine new_i (fun j hn => ?_)
        | refine br_bool (fun hb => ?_) (fun hb => ?_)
        | refine by_bool (fun hb => ?_) (fun hb => ?_)
        | refine by_bool' (fun hb => ?_) (fun hb => ?_))
    all_goals first
      | (refine app_i (app57 hn hx hG.go hO.go (by omega) fun v H3 hG3 hx3 hO3 => ?_)
         replace hG := Hd.mk hG3
         replace hO := Hd.mk hO3
         replace hx := hx3
         clear hn hG3 hO3 hx3)
      | skip
    all_goals
      repeat' (first
        | (simp (disch := first | omega | assumption) only [go_sem, ↓reduceIte, Nat.reduceEqDiff, reduceCtorEq, Nat.reduceAdd, Nat.reduceMul, Int.reduceToNat, Nat.reduceShiftRight, Nat.reduceAnd, Nat.reduceBNe, Nat.reduceBneDiff, Nat.reduceLT, Nat.reduceLeDiff, Int.reduceLT, Int.reduceLE, Int.reduceEq, Int.reduceAdd, Int.reduceSub, *])
        | (refine br_prop (fun hb => ?_) (fun hb => ?_) <;> try (exfalso; omega))
        | refine br_not ?_
        | (refine by_prop (fun hb => ?_) (fun hb => ?_) <;> try (exfalso; omega))
        | (refine by_prop' (fun hb => ?_) (fun hb => ?_) <;> try (exfalso; omega))
        | refine by_not ?_
        | refine w_drawn (by kernel_rfl) ?_
        | refine new_i' (by rfl) (fun j hj hn => ?_)
        | refine new_i (fun j hn => ?_)
        | refine br_bool (fun hb => ?_) (fun hb => ?_)
        | refine by_bool (fun hb => ?_) (fun hb => ?_)
        | refine by_bool' (fun hb => ?_) (fun hb => ?_))
    all_goals first
      | (refine app_i (app57 hn hx hG.go hO.go (by omega) fun v H3 hG3 hx3 hO3 => ?_)
         replace hG := Hd.mk hG3
         replace hO := Hd.mk hO3
         replace hx := hx3
         clear hn hG3 hO3 hx3)
      | skip
    all_goals
      repeat' (first
        | (simp (disch := first | omega | assumption) only [go_sem, ↓reduceIte, Nat.reduceEqDiff, reduceCtorEq, Nat.reduceAdd, Nat.reduceMul, Int.reduceToNat, Nat.reduceShiftRight, Nat.reduceAnd, Nat.reduceBNe, Nat.reduceBneDiff, Nat.reduceLT, Nat.reduceLeDiff, Int.reduceLT, Int.reduceLE, Int.reduceEq, Int.reduceAdd, Int.reduceSub, *])
        | (refine br_prop (fun hb => ?_) (fun hb => ?_) <;> try (exfalso; omega))
        | refine br_not ?_
        | (refine by_prop (fun hb => ?_) (fun hb => ?_) <;> try (exfalso; omega))
        | (refine by_prop' (fun hb => ?_) (fun hb => ?_) <;> try (exfalso; omega))
        | refine by_not ?_
        | refine w_drawn (by kernel_rfl) ?_
        | refine new_i' (by rfl) (fun j hj hn => ?_)
        | refine new_i (fun j hn => ?_)
        | refine br_bool (fun hb => ?_) (fun hb => ?_)
        | refine by_bool (fun hb => ?_) (fun hb => ?_)
        | refine by_bool' (fun hb => ?_) (fun hb => ?_))
    all_goals exact hk.go _ _ hG.go hO.go.sn
  · skip
    rw [h1, h3]
    unfold opsR at hk
    rw [h4] at hk
    replace hg1 := Hd.mk hg1
    have hc := cell66 op
    rw [h2] at hc
    replace hc := Hd.mk hc
    clear h1 h2 h3 h4
    repeat' (first
      | (simp (disch := first | omega | assumption) only [go_sem, ↓reduceIte, Nat.reduceEqDiff, reduceCtorEq, Nat.reduceAdd, Nat.reduceMul, Int.reduceToNat, Nat.reduceShiftRight, Nat.reduceAnd, Nat.reduceBNe, Nat.reduceBneDiff, Nat.reduceLT, Nat.reduceLeDiff, Int.reduceLT, Int.reduceLE, Int.reduceEq, Int.reduceAdd, Int.reduceSub, *])
      | (refine br_prop (fun hb => ?_) (fun hb => ?_) <;> try (exfalso; omega))
      | refine br_not ?_
      | (refine by_prop (fun hb => ?_) (fun hb => ?_) <;> try (exfalso; omega))
      | (refine by_prop' (fun hb => ?_) (fun hb => ?_) <;> try (exfalso; omega))
      | refine by_not ?_
      | refine w_drawn (by kernel_rfl) ?_
      | refine new_i' (by rfl) (fun j hj hn => ?_)
      | refine new_i (fun j hn => ?_)
      | refine br_bool (fun hb => ?_) (fun hb => ?_)
      | refine by_bool (fun hb => ?_) (fun hb => ?_)
      | refine by_bool' (fun hb => ?_) (fun hb => ?_))
    refine call_i (hc.go _ _ ?_)
    repeat' (first
      | (simp (disch := first | omega | assumption) only [go_sem, ↓reduceIte, Nat.reduceEqDiff, reduceCtorEq, Nat.reduceAdd, Nat.reduceMul, Int.reduceToNat, Nat.reduceShiftRight, Nat.reduceAnd, Nat.reduceBNe, Nat.reduceBneDiff, Nat.reduceLT, Nat.reduceLeDiff, Int.reduceLT, Int.reduceLE, Int.reduceEq, Int.reduceAdd, Int.reduceSub, *])
      | (refine br_prop (fun hb => ?_) (fun hb => ?_) <;> try (exfalso; omega))
      | refine br_not ?_
      | (refine by_prop (fun hb => ?_) (fun hb => ?_) <;> try (exfalso; omega))
      | (refine by_prop' (fun hb => ?_) (fun hb => ?_) <;> try (exfalso; omega))
      | refine by_not ?_
      | refine w_drawn (by kernel_rfl) ?_
      | refine new_i' (by rfl) (fun j hj hn => ?_)
      | refine new_i (fun j hn => ?_)
      | refine br_bool (fun hb => ?_) (fun hb => ?_)
      | refine by_bool (fun hb => ?_) (fun hb => ?_)
      | refine by_bool' (fun hb => ?_) (fun hb => ?_))
    rename_i jx hnx
    exact hk.go _ _ (hg1.go.new _ hn) (SN.nil _ _ _)
end Go.Proofs
namespace Go.Proofs
set_option linter.unusedSimpArgs false
set_option linter.unusedVariables false
set_option linter.unusedSectionVars false
open Go Go.Ab AsmM
variable [Go.Ab.Start]
set_option maxRecDepth 100000
set_option maxHeartbeats 1000000
def nameCells : List Value := nameList.map fun n => .string (bA n)
theorem names49 (H : AHeap) (K : Value → AHeap → Prop) (hk : ∀ j, H j = .none → K (.slice (some ⟨j, 0, none⟩) 58 58) (H.set j (.cells nameCells))) : ACalls Tryd.prog 49 #[] H K := by
  replace hk := Hd.mk hk
  refine w_enter (args := []) Tryd.func49 rfl (by kernel_rfl) D.mixed (by kernel_rfl) (rs := [.tmp 0]) rfl ?_
  repeat' (first
    | (simp (disch := first | omega | assumption) only [go_sem, ↓reduceIte, Nat.reduceEqDiff, reduceCtorEq, Nat.reduceAdd, Nat.reduceMul, Int.reduceToNat, Nat.reduceShiftRight, Nat.reduceAnd, Nat.reduceBNe, Nat.reduceBneDiff, Nat.reduceLT, Nat.reduceLeDiff, Int.reduceLT, Int.reduceLE, Int.reduceEq, Int.reduceAdd, Int.reduceSub, *])
    | (refine br_prop (fun hb => ?_) (fun hb => ?_) <;> try (exfalso; omega))
    | refine br_not ?_
    | (refine by_prop (fun hb => ?_) (fun hb => ?_) <;> try (exfalso; omega))
    | (refine by_prop' (fun hb => ?_) (fun hb => ?_) <;> try (exfalso; omega))
    | refine by_not ?_
    | refine w_drawn (by kernel_rfl) ?_
    | refine new_i' (by rfl) (fun j hj hn => ?_)
    | refine new_i (fun j hn => ?_)
    | refine br_bool (fun hb => ?_) (fun hb => ?_)
    | refine by_bool (fun hb => ?_) (fun hb => ?_)
    | refine by_bool' (fun hb => ?_) (fun hb => ?_))
  exact hk.go _ hn
end Go.Proofs
