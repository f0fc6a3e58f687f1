/-
  A part of the proofs: EQ.
-/
import Derived.Test.YtnbfimppgcoajaaDoorDT
import Derived.Test.YtnbfimppgcoajaaDoorAbS
import Derived.Test.YtnbfimppgcoajaaDoorAbEq
import Derived.Test.YtnbfimppgcoajaaDoorPA
import Derived.Test.YtnbfimppgcoajaaDoorEP
namespace Go.Proofs
set_option linter.unusedSimpArgs false
set_option linter.unusedVariables false
set_option linter.unusedSectionVars false
open Go Go.Ab AsmM
variable [Go.Ab.Start]
set_option maxRecDepth 100000
set_option maxHeartbeats 1000000
def awakeB : ByteArray := ⟨#[108,111,111,112,58,10,97,100,100,32,114,49,32,114,49,32,49,32,59,32,111,110,10,106,109,112,32,108,111,111,112,10,99,97,115,32,114,49,32,91,114,50,43,51,93,32,114,52,32,33,55,61,48]⟩
def awakeL : List Ins := [⟨3, 1, 1, -1, 1, 0, 0⟩, ⟨12, 0, 0, 0, 0, 0, 0⟩, ⟨21, 1, 2, 4, 3, 7, 1⟩]
theorem awake_parse : parse awakeB.data.toList = .ok (awakeL, [([108,111,111,112], 0)]) := by kernel_rfl
theorem awake9 (H : AHeap) (K : Value → AHeap → Prop) (hk : ∀ H', Grew H H' → K (.bool true) H') : ACalls Tryd.prog 9 #[] H K := by
  refine w_enter (args := []) Tryd.func9 rfl (by kernel_rfl) D.mixed (by kernel_rfl) (rs := [.tmp 0]) rfl ?_
  repeat' (first
    | (simp (disch := first | omega | assumption) only [go_sem, ↓reduceIte, Nat.reduceEqDiff, reduceCtorEq, Nat.reduceAdd, Nat.reduceMul, Int.reduceToNat, Nat.reduceShiftRight, Nat.reduceAnd, Nat.reduceBNe, Nat.reduceBneDiff, Nat.reduceLT, Nat.reduceLeDiff, Int.reduceLT, Int.reduceLE, Int.reduceEq, Int.reduceAdd, Int.reduceSub, true_and])
    | (refine br_prop (fun hb => ?_) (fun hb => ?_) <;> try (exfalso; omega))
    | refine br_not ?_
    | (refine by_prop (fun hb => ?_) (fun hb => ?_) <;> try (exfalso; omega))
    | (refine by_prop' (fun hb => ?_) (fun hb => ?_) <;> try (exfalso; omega))
    | refine by_not ?_
    | refine w_drawn (by kernel_rfl) ?_
    | refine new_i' (by rfl) (fun j hj hn => ?_)
    | refine new_i (fun j hn => ?_)
    | refine br_bool (fun hb => ?_) (fun hb => ?_)
    | refine by_bool (fun hb => ?_) (fun hb => ?_)
    | refine by_bool' (fun hb => ?_) (fun hb => ?_))
  refine call_i (parse10 awakeB _ _ (fun H' v1 v2 l labels o1 o2 hp h1 h2 h3 h4 hg => ?_) fun H' e er hp he hg => ?_)
  · rw [awake_parse] at hp
    injection hp with hp
    injection hp with hp1 hp2
    subst hp1
    subst hp2
    replace hk := hk _ hg
    obtain ⟨i1, rfl⟩ : ∃ i1, o1 = some i1 := by
      cases o1 with
      | none => obtain ⟨_, h, _⟩ := h1; cases h
      | some i2 => exact ⟨_, rfl⟩
    obtain ⟨i2, rfl⟩ : ∃ i2, o2 = some i2 := by
      cases o2 with
      | none => obtain ⟨_, h, _⟩ := h2; cases h
      | some i2 => exact ⟨_, rfl⟩
    obtain ⟨c1, d1, rfl, hH1, _⟩ := h1
    obtain ⟨c2, d2, rfl, hH2, _⟩ := h2
    have e1 : awakeL.flatMap encI ++ d1 = [.int .i64 3, .int .i64 1, .int .i64 1, .int .i64 (-1), .int .u64 1, .int .i64 0, .int .i64 0, .int .i64 12, .int .i64 0, .int .i64 0, .int .i64 0, .int .u64 0, .int .i64 0, .int .i64 0, .int .i64 21, .int .i64 1, .int .i64 2, .int .i64 4, .int .u64 3, .int .i64 7, .int .i64 1] ++ d1 := rfl
    rw [e1] at hH1
    have e2 : [(([108,111,111,112] : Bytes), (0 : Int))].flatMap encLab ++ d2 = .string ⟨#[108,111,111,112]⟩ :: .int .i64 0 :: d2 := rfl
    rw [e2] at hH2
    simp only [List.cons_append, List.nil_append] at hH1
    have l1 : awakeL.length = 3 := rfl
    repeat' (first
      | (simp (disch := first | omega | assumption) only [go_sem, ↓reduceIte, Nat.reduceEqDiff, reduceCtorEq, Nat.reduceAdd, Nat.reduceMul, Int.reduceToNat, Nat.reduceShiftRight, Nat.reduceAnd, Nat.reduceBNe, Nat.reduceBneDiff, Nat.reduceLT, Nat.reduceLeDiff, Int.reduceLT, Int.reduceLE, Int.reduceEq, Int.reduceAdd, Int.reduceSub, hH1, hH2, l1, hk])
      | (refine br_prop (fun hb => ?_) (fun hb => ?_) <;> try (exfalso; omega))
      | refine br_not ?_
      | (refine by_prop (fun hb => ?_) (fun hb => ?_) <;> try (exfalso; omega))
      | (refine by_prop' (fun hb => ?_) (fun hb => ?_) <;> try (exfalso; omega))
      | refine by_not ?_
      | refine w_drawn (by kernel_rfl) ?_
      | refine new_i' (by rfl) (fun j hj hn => ?_)
      | refine new_i (fun j hn => ?_)
      | refine br_bool (fun hb => ?_) (fun hb => ?_)
      | refine by_bool (fun hb => ?_) (fun hb => ?_)
      | refine by_bool' (fun hb => ?_) (fun hb => ?_))
    dsimp only [List.append]
    repeat' (first
      | (simp (disch := first | omega | assumption) only [go_sem, ↓reduceIte, Nat.reduceEqDiff, reduceCtorEq, Nat.reduceAdd, Nat.reduceMul, Int.reduceToNat, Nat.reduceShiftRight, Nat.reduceAnd, Nat.reduceBNe, Nat.reduceBneDiff, Nat.reduceLT, Nat.reduceLeDiff, Int.reduceLT, Int.reduceLE, Int.reduceEq, Int.reduceAdd, Int.reduceSub, hH1, hH2, l1, hk])
      | (refine br_prop (fun hb => ?_) (fun hb => ?_) <;> try (exfalso; omega))
      | refine br_not ?_
      | (refine by_prop (fun hb => ?_) (fun hb => ?_) <;> try (exfalso; omega))
      | (refine by_prop' (fun hb => ?_) (fun hb => ?_) <;> try (exfalso; omega))
      | refine by_not ?_
      | refine w_drawn (by kernel_rfl) ?_
      | refine new_i' (by rfl) (fun j hj hn => ?_)
      | refine new_i (fun j hn => ?_)
      | refine br_bool (fun hb => ?_) (fun hb => ?_)
      | refine by_bool (fun hb => ?_) (fun hb => ?_)
      | refine by_bool' (fun hb => ?_) (fun hb => ?_))
  · rw [awake_parse] at hp; cases hp

theorem within8 (v n : Int) (hn : n ≤ 1000000) (H : AHeap) (K : Value → AHeap → Prop) (hk : ∀ r : Int, 0 ≤ r → (n < 1 → r = 0) → (1 ≤ n → r < n) → K (.int .i64 r) H) : ACalls Tryd.prog 8 #[.int .i64 v, .int .i64 n] H K := by
  replace hk := Hd.mk hk
  refine w_enter (args := [.int .i64 v, .int .i64 n]) Tryd.func8 rfl (by kernel_rfl) D.mixed (by kernel_rfl) (rs := [.tmp 4]) rfl ?_
  by_cases h1 : n < 1
  · repeat' (first
      | (simp (disch := first | omega | assumption) only [go_sem, ↓reduceIte, Nat.reduceEqDiff, reduceCtorEq, Nat.reduceAdd, Nat.reduceMul, Int.reduceToNat, Nat.reduceShiftRight, Nat.reduceAnd, Nat.reduceBNe, Nat.reduceBneDiff, Nat.reduceLT, Nat.reduceLeDiff, Int.reduceLT, Int.reduceLE, Int.reduceEq, Int.reduceAdd, Int.reduceSub, *])
      | (refine br_prop (fun hb => ?_) (fun hb => ?_) <;> try (exfalso; omega))
      | refine br_not ?_
      | (refine by_prop (fun hb => ?_) (fun hb => ?_) <;> try (exfalso; omega))
      | (refine by_prop' (fun hb => ?_) (fun hb => ?_) <;> try (exfalso; omega))
      | refine by_not ?_
      | refine w_drawn (by kernel_rfl) ?_
      | refine new_i' (by rfl) (fun j hj hn => ?_)
      | refine new_i (fun j hn => ?_)
      | refine br_bool (fun hb => ?_) (fun hb => ?_)
      | refine by_bool (fun hb => ?_) (fun hb => ?_)
      | refine by_bool' (fun hb => ?_) (fun hb => ?_))
    exact hk.go 0 (by omega) (fun _ => rfl) (by omega)
  · have m1 : -n < v.tmod n := Int.lt_tmod_of_pos v (by omega)
    have m2 : v.tmod n < n := Int.tmod_lt_of_pos v (by omega)
    have hb : ¬ n = 0 := by omega
    repeat' (first
      | (simp (disch := first | omega | assumption) only [go_sem, ↓reduceIte, Nat.reduceEqDiff, reduceCtorEq, Nat.reduceAdd, Nat.reduceMul, Int.reduceToNat, Nat.reduceShiftRight, Nat.reduceAnd, Nat.reduceBNe, Nat.reduceBneDiff, Nat.reduceLT, Nat.reduceLeDiff, Int.reduceLT, Int.reduceLE, Int.reduceEq, Int.reduceAdd, Int.reduceSub, *])
      | (refine br_prop (fun hb => ?_) (fun hb => ?_) <;> try (exfalso; omega))
      | refine br_not ?_
      | (refine by_prop (fun hb => ?_) (fun hb => ?_) <;> try (exfalso; omega))
      | (refine by_prop' (fun hb => ?_) (fun hb => ?_) <;> try (exfalso; omega))
      | refine by_not ?_
      | refine w_drawn (by kernel_rfl) ?_
      | refine new_i' (by rfl) (fun j hj hn => ?_)
      | refine new_i (fun j hn => ?_)
      | refine br_bool (fun hb => ?_) (fun hb => ?_)
      | refine by_bool (fun hb => ?_) (fun hb => ?_)
      | refine by_bool' (fun hb => ?_) (fun hb => ?_))
    all_goals exact hk.go _ (by omega) (by omega) (by omega)
end Go.Proofs
