/-
  A part of the proofs: ED EE.
-/
import Derived.Test.YtnbfimppgcoajaaDoorDT
import Derived.Test.YtnbfimppgcoajaaDoorAbS
import Derived.Test.YtnbfimppgcoajaaDoorPA
import Derived.Test.YtnbfimppgcoajaaDoorER
import Derived.Test.YtnbfimppgcoajaaDoorPEB
namespace Go.Proofs
set_option linter.unusedSimpArgs false
set_option linter.unusedVariables false
set_option linter.unusedSectionVars false
open Go Go.Ab AsmM
variable [Go.Ab.Start]
set_option maxRecDepth 100000
set_option maxHeartbeats 1000000
/-- What an error value is. -/
def ErrR (H : AHeap) (v : Value) : Er → Prop
  | ⟨n, none, k⟩ => ∃ i, v = .iface 68 (.pointer (some ⟨i, 0, none⟩)) ∧ H i = .cells [.string asmB, .int .i64 n, .iface 41 (.int .i64 k)]
  | ⟨n, some m, k⟩ => ∃ i j, v = .iface 68 (.pointer (some ⟨i, 0, none⟩)) ∧ H i = .cells [.string asmB, .int .i64 n, .iface 68 (.pointer (some ⟨j, 0, none⟩))] ∧ H j = .cells [.string wordB, .int .i64 m, .iface 41 (.int .i64 k)]
theorem ErrR.grew {H H' : AHeap} {v : Value} : ∀ {e : Er}, ErrR H v e → Grew H H' → ErrR H' v e
  | ⟨n, none, k⟩, ⟨i, h1, h2⟩, g => ⟨i, h1, by rw [g i (by rw [h2]; simp)]; exact h2⟩
  | ⟨n, some m, k⟩, ⟨i, j, h1, h2, h3⟩, g => ⟨i, j, h1, by rw [g i (by rw [h2]; simp)]; exact h2, by rw [g j (by rw [h3]; simp)]; exact h3⟩
theorem ErrR.ptr {H : AHeap} {v : Value} : ∀ {e : Er}, ErrR H v e → ∃ i, v = .iface 68 (.pointer (some ⟨i, 0, none⟩))
  | ⟨n, none, k⟩, ⟨i, h1, _⟩ => ⟨i, h1⟩
  | ⟨n, some m, k⟩, ⟨i, _, h1, _⟩ => ⟨i, h1⟩
theorem afail_go (n k : Int) (H0 H : AHeap) (hg : Grew H0 H) (K : Value → AHeap → Prop) (hk : ∀ H' v, Grew H0 H' → ErrR H' v ⟨n, none, k⟩ → K v H') : ACalls Tryd.prog 19 #[.int .i64 n, .iface 41 (.int .i64 k)] H K :=
  afail _ _ _ _ _ fun i hi => hk _ _ (hg.new _ hi) ⟨i, rfl, AHeap.set_same _ _ _⟩
/-- One digit of a number: it is wrong here, or the number goes on. -/
theorem digits_case {b : Nat} (s : ByteArray) (i v m f : Nat) (h : i < s.size) {C : Prop} (h1 : (AsmM.digit (getB s i) b = none ∨ ∃ d, AsmM.digit (getB s i) b = some d ∧ (m ≤ i - f ∨ (2 ^ 64 - 1 - d) / b < v)) → digits b m f (s.data.toList.drop i) i v = .error i → C)
    (h2 : ∀ d, AsmM.digit (getB s i) b = some d → i - f < m → v ≤ (2 ^ 64 - 1 - d) / b → digits b m f (s.data.toList.drop i) i v = digits b m f (s.data.toList.drop (i + 1)) (i + 1) (v * b + d) → d < b → C) : C := by
  cases hq : AsmM.digit (getB s i) b with
  | none => exact h1 (.inl hq) (digits_bad s b m f i v h hq)
  | some d =>
    by_cases ho : m ≤ i - f ∨ (2 ^ 64 - 1 - d) / b < v
    · exact h1 (.inr ⟨d, hq, ho⟩) (digits_over s b m f i v d h hq ho)
    · refine h2 d hq (by omega) (by omega) (digits_next s b m f i v d h hq ho) ?_
      unfold AsmM.digit at hq
      simp only at hq
      generalize (if 48 ≤ getB s i ∧ getB s i ≤ 57 then _ else _ : Nat) = q at hq
      split at hq
      · rename_i hlt; cases hq; exact hlt
      · cases hq
theorem parse_walk (s : ByteArray) (hs : s.size < 140737488355328) (H : AHeap) (K : Value → AHeap → Prop)
    (hok : ∀ v : Nat, number s.data.toList = .ok v → v ≤ 18446744073709551615 → K (.tuple #[.int .u64 v, .nilIface]) H) (herr : ∀ n : Nat, number s.data.toList = .error n → ∀ i, H i = .none → K (.tuple #[.int .u64 0, .iface 68 (.pointer (some ⟨i, 0, none⟩))]) (H.set i (.cells [.string wordB, .int .i64 n, .iface 41 (.int .i64 6)]))) :
    ACalls Tryd.prog 72 #[.string s] H K := by
  by_cases hx : isHex s.data.toList = true
  · obtain ⟨g1, g2, g3⟩ := (isHex_iff s).1 hx
    refine w_enter (args := [.string s]) Tryd.func72 rfl (by kernel_rfl) D.mixed (by kernel_rfl) (rs := [.tmp 2, .tmp 3]) rfl ?_
    repeat' (first
      | (simp (disch := first | omega | assumption) only [go_sem, ↓reduceIte, Nat.reduceEqDiff, reduceCtorEq, Nat.reduceAdd, Nat.reduceMul, Int.reduceToNat, Nat.reduceShiftRight, Nat.reduceAnd, Nat.reduceBNe, Nat.reduceBneDiff, Nat.reduceLT, Nat.reduceLeDiff, Int.reduceLT, Int.reduceLE, Int.reduceEq, Int.reduceAdd, Int.reduceSub, *])
      | (refine br_prop (fun hb => ?_) (fun hb => ?_) <;> try (exfalso; omega))
      | refine br_not ?_
      | (refine by_prop (fun hb => ?_) (fun hb => ?_) <;> try (exfalso; omega))
      | (refine by_prop' (fun hb => ?_) (fun hb => ?_) <;> try (exfalso; omega))
      | refine by_not ?_
      | refine w_drawn (by kernel_rfl) ?_
      | refine new_i' (by rfl) (fun j hj hn => ?_)
      | refine new_i (fun j hn => ?_)
      | refine br_bool (fun hb => ?_) (fun hb => ?_)
      | refine by_bool (fun hb => ?_) (fun hb => ?_)
      | refine by_bool' (fun hb => ?_) (fun hb => ?_))
    refine W.loopF 18446744073675999116 (fun n e H1 => H1 = H ∧ ∃ i v : Nat, e 8 = .int .i64 i ∧ e 7 = .int .u64 v ∧ 2 ≤ i ∧ i ≤ s.size ∧ n = s.size - i ∧ v ≤ 18446744073709551615 ∧ digits 16 16 2 (s.data.toList.drop 2) 2 0 = digits 16 16 2 (s.data.toList.drop i) i v) (s.size - 2) (by kernel_rfl)
      ⟨rfl, 2, 0, by first | (simp (disch := first | omega | assumption) only [go_sem, ↓reduceIte, Nat.reduceEqDiff, reduceCtorEq, Nat.reduceAdd, Nat.reduceMul, Int.reduceToNat, Nat.reduceShiftRight, Nat.reduceAnd, Nat.reduceBNe, Nat.reduceBneDiff, Nat.reduceLT, Nat.reduceLeDiff, Int.reduceLT, Int.reduceLE, Int.reduceEq, Int.reduceAdd, Int.reduceSub, *]; done) | (simp (disch := first | omega | assumption) only [go_sem, ↓reduceIte, Nat.reduceEqDiff, reduceCtorEq, Nat.reduceAdd, Nat.reduceMul, Int.reduceToNat, Nat.reduceShiftRight, Nat.reduceAnd, Nat.reduceBNe, Nat.reduceBneDiff, Nat.reduceLT, Nat.reduceLeDiff, Int.reduceLT, Int.reduceLE, Int.reduceEq, Int.reduceAdd, Int.reduceSub, *]; rfl), by first | (simp (disch := first | omega | assumption) only [go_sem, ↓reduceIte, Nat.reduceEqDiff, reduceCtorEq, Nat.reduceAdd, Nat.reduceMul, Int.reduceToNat, Nat.reduceShiftRight, Nat.reduceAnd, Nat.reduceBNe, Nat.reduceBneDiff, Nat.reduceLT, Nat.reduceLeDiff, Int.reduceLT, Int.reduceLE, Int.reduceEq, Int.reduceAdd, Int.reduceSub, *]; done) | (simp (disch := first | omega | assumption) only [go_sem, ↓reduceIte, Nat.reduceEqDiff, reduceCtorEq, Nat.reduceAdd, Nat.reduceMul, Int.reduceToNat, Nat.reduceShiftRight, Nat.reduceAnd, Nat.reduceBNe, Nat.reduceBneDiff, Nat.reduceLT, Nat.reduceLeDiff, Int.reduceLT, Int.reduceLE, Int.reduceEq, Int.reduceAdd, Int.reduceSub, *]; rfl), by omega, by omega, rfl, by omega, rfl⟩ ?_
    rintro n e H1 J hJ ⟨rfl, i, v, h8, h7, hi1, hi2, rfl, hv, hd⟩
    by_cases hlt : i < s.size
    · refine digits_case (b := 16) s i v 16 2 hlt (fun hq he => ?_) fun d hq hlt' hle he hn => ?_
      · have hE := herr i (by rw [number_hex s hx, if_neg (by omega), hd, he])
        clear he hd herr hok
        rcases hq with hq | ⟨d, hq, hq2⟩
        · repeat' (first
            | (simp (disch := first | omega | assumption) only [go_sem, ↓reduceIte, Nat.reduceEqDiff, reduceCtorEq, Nat.reduceAdd, Nat.reduceMul, Int.reduceToNat, Nat.reduceShiftRight, Nat.reduceAnd, Nat.reduceBNe, Nat.reduceBneDiff, Nat.reduceLT, Nat.reduceLeDiff, Int.reduceLT, Int.reduceLE, Int.reduceEq, Int.reduceAdd, Int.reduceSub, *])
            | (refine br_prop (fun hb => ?_) (fun hb => ?_) <;> try (exfalso; omega))
            | refine br_not ?_
            | (refine by_prop (fun hb => ?_) (fun hb => ?_) <;> try (exfalso; omega))
            | (refine by_prop' (fun hb => ?_) (fun hb => ?_) <;> try (exfalso; omega))
            | refine by_not ?_
            | refine w_drawn (by kernel_rfl) ?_
            | refine new_i' (by rfl) (fun j hj hn => ?_)
            | refine new_i (fun j hn => ?_)
            | refine br_bool (fun hb => ?_) (fun hb => ?_)
            | refine by_bool (fun hb => ?_) (fun hb => ?_)
            | refine by_bool' (fun hb => ?_) (fun hb => ?_))
          refine call_i (digit16 _ _ _ fun d' ok hr h0 h99 => ?_)
          rw [hq] at hr
          subst hr
          repeat' (first
            | (simp (disch := first | omega | assumption) only [go_sem, ↓reduceIte, Nat.reduceEqDiff, reduceCtorEq, Nat.reduceAdd, Nat.reduceMul, Int.reduceToNat, Nat.reduceShiftRight, Nat.reduceAnd, Nat.reduceBNe, Nat.reduceBneDiff, Nat.reduceLT, Nat.reduceLeDiff, Int.reduceLT, Int.reduceLE, Int.reduceEq, Int.reduceAdd, Int.reduceSub, *])
            | (refine br_prop (fun hb => ?_) (fun hb => ?_) <;> try (exfalso; omega))
            | refine br_not ?_
            | (refine by_prop (fun hb => ?_) (fun hb => ?_) <;> try (exfalso; omega))
            | (refine by_prop' (fun hb => ?_) (fun hb => ?_) <;> try (exfalso; omega))
            | refine by_not ?_
            | refine w_drawn (by kernel_rfl) ?_
            | refine new_i' (by rfl) (fun j hj hn => ?_)
            | refine new_i (fun j hn => ?_)
            | refine br_bool (fun hb => ?_) (fun hb => ?_)
            | refine by_bool (fun hb => ?_) (fun hb => ?_)
            | refine by_bool' (fun hb => ?_) (fun hb => ?_))
          refine call_i (wfail _ _ _ _ _ fun j hn => ?_)
          repeat' (first
            | (simp (disch := first | omega | assumption) only [go_sem, ↓reduceIte, Nat.reduceEqDiff, reduceCtorEq, Nat.reduceAdd, Nat.reduceMul, Int.reduceToNat, Nat.reduceShiftRight, Nat.reduceAnd, Nat.reduceBNe, Nat.reduceBneDiff, Nat.reduceLT, Nat.reduceLeDiff, Int.reduceLT, Int.reduceLE, Int.reduceEq, Int.reduceAdd, Int.reduceSub, true_and])
            | (refine br_prop (fun hb => ?_) (fun hb => ?_) <;> try (exfalso; omega))
            | refine br_not ?_
            | (refine by_prop (fun hb => ?_) (fun hb => ?_) <;> try (exfalso; omega))
            | (refine by_prop' (fun hb => ?_) (fun hb => ?_) <;> try (exfalso; omega))
            | refine by_not ?_
            | refine w_drawn (by kernel_rfl) ?_
            | refine new_i' (by rfl) (fun j hj hn => ?_)
            | refine new_i (fun j hn => ?_)
            | refine br_bool (fun hb => ?_) (fun hb => ?_)
            | refine by_bool (fun hb => ?_) (fun hb => ?_)
            | refine by_bool' (fun hb => ?_) (fun hb => ?_))
          exact hE _ hn
        · repeat' (first
            | (simp (disch := first | omega | assumption) only [go_sem, ↓reduceIte, Nat.reduceEqDiff, reduceCtorEq, Nat.reduceAdd, Nat.reduceMul, Int.reduceToNat, Nat.reduceShiftRight, Nat.reduceAnd, Nat.reduceBNe, Nat.reduceBneDiff, Nat.reduceLT, Nat.reduceLeDiff, Int.reduceLT, Int.reduceLE, Int.reduceEq, Int.reduceAdd, Int.reduceSub, *])
            | (refine br_prop (fun hb => ?_) (fun hb => ?_) <;> try (exfalso; omega))
            | refine br_not ?_
            | (refine by_prop (fun hb => ?_) (fun hb => ?_) <;> try (exfalso; omega))
            | (refine by_prop' (fun hb => ?_) (fun hb => ?_) <;> try (exfalso; omega))
            | refine by_not ?_
            | refine w_drawn (by kernel_rfl) ?_
            | refine new_i' (by rfl) (fun j hj hn => ?_)
            | refine new_i (fun j hn => ?_)
            | refine br_bool (fun hb => ?_) (fun hb => ?_)
            | refine by_bool (fun hb => ?_) (fun hb => ?_)
            | refine by_bool' (fun hb => ?_) (fun hb => ?_))
          refine call_i (digit16 _ _ _ fun d' ok hr h0 h99 => ?_)
          rw [hq] at hr
          obtain ⟨rfl, rfl⟩ := hr
          repeat' (first
            | (simp (disch := first | omega | assumption) only [go_sem, ↓reduceIte, Nat.reduceEqDiff, reduceCtorEq, Nat.reduceAdd, Nat.reduceMul, Int.reduceToNat, Nat.reduceShiftRight, Nat.reduceAnd, Nat.reduceBNe, Nat.reduceBneDiff, Nat.reduceLT, Nat.reduceLeDiff, Int.reduceLT, Int.reduceLE, Int.reduceEq, Int.reduceAdd, Int.reduceSub, *])
            | (refine br_prop (fun hb => ?_) (fun hb => ?_) <;> try (exfalso; omega))
            | refine br_not ?_
            | (refine by_prop (fun hb => ?_) (fun hb => ?_) <;> try (exfalso; omega))
            | (refine by_prop' (fun hb => ?_) (fun hb => ?_) <;> try (exfalso; omega))
            | refine by_not ?_
            | refine w_drawn (by kernel_rfl) ?_
            | refine new_i' (by rfl) (fun j hj hn => ?_)
            | refine new_i (fun j hn => ?_)
            | refine br_bool (fun hb => ?_) (fun hb => ?_)
            | refine by_bool (fun hb => ?_) (fun hb => ?_)
            | refine by_bool' (fun hb => ?_) (fun hb => ?_))
          all_goals
            refine call_i (wfail _ _ _ _ _ fun j hn => ?_)
            repeat' (first
              | (simp (disch := first | omega | assumption) only [go_sem, ↓reduceIte, Nat.reduceEqDiff, reduceCtorEq, Nat.reduceAdd, Nat.reduceMul, Int.reduceToNat, Nat.reduceShiftRight, Nat.reduceAnd, Nat.reduceBNe, Nat.reduceBneDiff, Nat.reduceLT, Nat.reduceLeDiff, Int.reduceLT, Int.reduceLE, Int.reduceEq, Int.reduceAdd, Int.reduceSub, true_and])
              | (refine br_prop (fun hb => ?_) (fun hb => ?_) <;> try (exfalso; omega))
              | refine br_not ?_
              | (refine by_prop (fun hb => ?_) (fun hb => ?_) <;> try (exfalso; omega))
              | (refine by_prop' (fun hb => ?_) (fun hb => ?_) <;> try (exfalso; omega))
              | refine by_not ?_
              | refine w_drawn (by kernel_rfl) ?_
              | refine new_i' (by rfl) (fun j hj hn => ?_)
              | refine new_i (fun j hn => ?_)
              | refine br_bool (fun hb => ?_) (fun hb => ?_)
              | refine by_bool (fun hb => ?_) (fun hb => ?_)
              | refine by_bool' (fun hb => ?_) (fun hb => ?_))
            exact hE _ hn
      · clear herr hok
        repeat' (first
          | (simp (disch := first | omega | assumption) only [go_sem, ↓reduceIte, Nat.reduceEqDiff, reduceCtorEq, Nat.reduceAdd, Nat.reduceMul, Int.reduceToNat, Nat.reduceShiftRight, Nat.reduceAnd, Nat.reduceBNe, Nat.reduceBneDiff, Nat.reduceLT, Nat.reduceLeDiff, Int.reduceLT, Int.reduceLE, Int.reduceEq, Int.reduceAdd, Int.reduceSub, *])
          | (refine br_prop (fun hb => ?_) (fun hb => ?_) <;> try (exfalso; omega))
          | refine br_not ?_
          | (refine by_prop (fun hb => ?_) (fun hb => ?_) <;> try (exfalso; omega))
          | (refine by_prop' (fun hb => ?_) (fun hb => ?_) <;> try (exfalso; omega))
          | refine by_not ?_
          | refine w_drawn (by kernel_rfl) ?_
          | refine new_i' (by rfl) (fun j hj hn => ?_)
          | refine new_i (fun j hn => ?_)
          | refine br_bool (fun hb => ?_) (fun hb => ?_)
          | refine by_bool (fun hb => ?_) (fun hb => ?_)
          | refine by_bool' (fun hb => ?_) (fun hb => ?_))
        refine call_i (digit16 _ _ _ fun d' ok hr h0 h99 => ?_)
        rw [hq] at hr
        obtain ⟨rfl, rfl⟩ := hr
        repeat' (first
          | (simp (disch := first | omega | assumption) only [go_sem, ↓reduceIte, Nat.reduceEqDiff, reduceCtorEq, Nat.reduceAdd, Nat.reduceMul, Int.reduceToNat, Nat.reduceShiftRight, Nat.reduceAnd, Nat.reduceBNe, Nat.reduceBneDiff, Nat.reduceLT, Nat.reduceLeDiff, Int.reduceLT, Int.reduceLE, Int.reduceEq, Int.reduceAdd, Int.reduceSub, *])
          | (refine br_prop (fun hb => ?_) (fun hb => ?_) <;> try (exfalso; omega))
          | refine br_not ?_
          | (refine by_prop (fun hb => ?_) (fun hb => ?_) <;> try (exfalso; omega))
          | (refine by_prop' (fun hb => ?_) (fun hb => ?_) <;> try (exfalso; omega))
          | refine by_not ?_
          | refine w_drawn (by kernel_rfl) ?_
          | refine new_i' (by rfl) (fun j hj hn => ?_)
          | refine new_i (fun j hn => ?_)
          | refine br_bool (fun hb => ?_) (fun hb => ?_)
          | refine by_bool (fun hb => ?_) (fun hb => ?_)
          | refine by_bool' (fun hb => ?_) (fun hb => ?_))
        exact inv_i (hJ.go _ _ ⟨s.size - (i + 1), by omega, rfl, i + 1, v * 16 + d, rfl, rfl, by omega, by omega, rfl, by omega, hd.trans he⟩)
    · have hE : s.size ≠ 2 → K (.tuple #[.int .u64 v, .nilIface]) H1 := fun hne => hok v (by rw [number_hex s hx, if_neg hne, hd, digits_end s _ _ _ _ _ (by omega)]) hv
      have hF := fun hne : s.size = 2 => herr 2 (by rw [number_hex s hx, if_pos hne])
      clear hd herr hok
      repeat' (first
        | (simp (disch := first | omega | assumption) only [go_sem, ↓reduceIte, Nat.reduceEqDiff, reduceCtorEq, Nat.reduceAdd, Nat.reduceMul, Int.reduceToNat, Nat.reduceShiftRight, Nat.reduceAnd, Nat.reduceBNe, Nat.reduceBneDiff, Nat.reduceLT, Nat.reduceLeDiff, Int.reduceLT, Int.reduceLE, Int.reduceEq, Int.reduceAdd, Int.reduceSub, h7, h8])
        | (refine br_prop (fun hb => ?_) (fun hb => ?_) <;> try (exfalso; omega))
        | refine br_not ?_
        | (refine by_prop (fun hb => ?_) (fun hb => ?_) <;> try (exfalso; omega))
        | (refine by_prop' (fun hb => ?_) (fun hb => ?_) <;> try (exfalso; omega))
        | refine by_not ?_
        | refine w_drawn (by kernel_rfl) ?_
        | refine new_i' (by rfl) (fun j hj hn => ?_)
        | refine new_i (fun j hn => ?_)
        | refine br_bool (fun hb => ?_) (fun hb => ?_)
        | refine by_bool (fun hb => ?_) (fun hb => ?_)
        | refine by_bool' (fun hb => ?_) (fun hb => ?_))
      all_goals first | exact hE (by omega) | refine call_i (wfail _ _ _ _ _ fun j hn => ?_)
      all_goals
        repeat' (first
          | (simp (disch := first | omega | assumption) only [go_sem, ↓reduceIte, Nat.reduceEqDiff, reduceCtorEq, Nat.reduceAdd, Nat.reduceMul, Int.reduceToNat, Nat.reduceShiftRight, Nat.reduceAnd, Nat.reduceBNe, Nat.reduceBneDiff, Nat.reduceLT, Nat.reduceLeDiff, Int.reduceLT, Int.reduceLE, Int.reduceEq, Int.reduceAdd, Int.reduceSub, true_and])
          | (refine br_prop (fun hb => ?_) (fun hb => ?_) <;> try (exfalso; omega))
          | refine br_not ?_
          | (refine by_prop (fun hb => ?_) (fun hb => ?_) <;> try (exfalso; omega))
          | (refine by_prop' (fun hb => ?_) (fun hb => ?_) <;> try (exfalso; omega))
          | refine by_not ?_
          | refine w_drawn (by kernel_rfl) ?_
          | refine new_i' (by rfl) (fun j hj hn => ?_)
          | refine new_i (fun j hn => ?_)
          | refine br_bool (fun hb => ?_) (fun hb => ?_)
          | refine by_bool (fun hb => ?_) (fun hb => ?_)
          | refine by_bool' (fun hb => ?_) (fun hb => ?_))
        exact hF (by omega) _ hn
  · rw [Bool.not_eq_true] at hx
    have hc : s.size < 2 ∨ (getB s 0).toNat ≠ 48 ∨ (getB s 1).toNat ≠ 120 := by
      by_cases h : 2 ≤ s.size ∧ (getB s 0).toNat = 48 ∧ (getB s 1).toNat = 120
      · have := (isHex_iff s).2 h; rw [hx] at this; cases this
      · omega
    refine w_enter (args := [.string s]) Tryd.func72 rfl (by kernel_rfl) D.mixed (by kernel_rfl) (rs := [.tmp 2, .tmp 3]) rfl ?_
    repeat' (first
      | (simp (disch := first | omega | assumption) only [go_sem, ↓reduceIte, Nat.reduceEqDiff, reduceCtorEq, Nat.reduceAdd, Nat.reduceMul, Int.reduceToNat, Nat.reduceShiftRight, Nat.reduceAnd, Nat.reduceBNe, Nat.reduceBneDiff, Nat.reduceLT, Nat.reduceLeDiff, Int.reduceLT, Int.reduceLE, Int.reduceEq, Int.reduceAdd, Int.reduceSub, *])
      | (refine br_prop (fun hb => ?_) (fun hb => ?_) <;> try (exfalso; omega))
      | refine br_not ?_
      | (refine by_prop (fun hb => ?_) (fun hb => ?_) <;> try (exfalso; omega))
      | (refine by_prop' (fun hb => ?_) (fun hb => ?_) <;> try (exfalso; omega))
      | refine by_not ?_
      | refine w_drawn (by kernel_rfl) ?_
      | refine new_i' (by rfl) (fun j hj hn => ?_)
      | refine new_i (fun j hn => ?_)
      | refine br_bool (fun hb => ?_) (fun hb => ?_)
      | refine by_bool (fun hb => ?_) (fun hb => ?_)
      | refine by_bool' (fun hb => ?_) (fun hb => ?_))
    all_goals
      refine W.loopF 18446744073675999116 (fun n e H1 => H1 = H ∧ ∃ i v : Nat, e 8 = .int .i64 i ∧ e 7 = .int .u64 v ∧ 0 ≤ i ∧ i ≤ s.size ∧ n = s.size - i ∧ v ≤ 18446744073709551615 ∧ digits 10 20 0 (s.data.toList.drop 0) 0 0 = digits 10 20 0 (s.data.toList.drop i) i v) (s.size - 0) (by kernel_rfl)
        ⟨rfl, 0, 0, by first | (simp (disch := first | omega | assumption) only [go_sem, ↓reduceIte, Nat.reduceEqDiff, reduceCtorEq, Nat.reduceAdd, Nat.reduceMul, Int.reduceToNat, Nat.reduceShiftRight, Nat.reduceAnd, Nat.reduceBNe, Nat.reduceBneDiff, Nat.reduceLT, Nat.reduceLeDiff, Int.reduceLT, Int.reduceLE, Int.reduceEq, Int.reduceAdd, Int.reduceSub, *]; done) | (simp (disch := first | omega | assumption) only [go_sem, ↓reduceIte, Nat.reduceEqDiff, reduceCtorEq, Nat.reduceAdd, Nat.reduceMul, Int.reduceToNat, Nat.reduceShiftRight, Nat.reduceAnd, Nat.reduceBNe, Nat.reduceBneDiff, Nat.reduceLT, Nat.reduceLeDiff, Int.reduceLT, Int.reduceLE, Int.reduceEq, Int.reduceAdd, Int.reduceSub, *]; rfl), by first | (simp (disch := first | omega | assumption) only [go_sem, ↓reduceIte, Nat.reduceEqDiff, reduceCtorEq, Nat.reduceAdd, Nat.reduceMul, Int.reduceToNat, Nat.reduceShiftRight, Nat.reduceAnd, Nat.reduceBNe, Nat.reduceBneDiff, Nat.reduceLT, Nat.reduceLeDiff, Int.reduceLT, Int.reduceLE, Int.reduceEq, Int.reduceAdd, Int.reduceSub, *]; done) | (simp (disch := first | omega | assumption) only [go_sem, ↓reduceIte, Nat.reduceEqDiff, reduceCtorEq, Nat.reduceAdd, Nat.reduceMul, Int.reduceToNat, Nat.reduceShiftRight, Nat.reduceAnd, Nat.reduceBNe, Nat.reduceBneDiff, Nat.reduceLT, Nat.reduceLeDiff, Int.reduceLT, Int.reduceLE, Int.reduceEq, Int.reduceAdd, Int.reduceSub, *]; rfl), by omega, by omega, rfl, by omega, rfl⟩ ?_
      rintro n e H1 J hJ ⟨rfl, i, v, h8, h7, hi1, hi2, rfl, hv, hd⟩
      by_cases hlt : i < s.size
      · refine digits_case (b := 10) s i v 20 0 hlt (fun hq he => ?_) fun d hq hlt' hle he hn => ?_
        · have hE := herr i (by rw [number_dec s hx, if_neg (by omega), hd, he])
          clear he hd herr hok
          rcases hq with hq | ⟨d, hq, hq2⟩
          · repeat' (first
              | (simp (disch := first | omega | assumption) only [go_sem, ↓reduceIte, Nat.reduceEqDiff, reduceCtorEq, Nat.reduceAdd, Nat.reduceMul, Int.reduceToNat, Nat.reduceShiftRight, Nat.reduceAnd, Nat.reduceBNe, Nat.reduceBneDiff, Nat.reduceLT, Nat.reduceLeDiff, Int.reduceLT, Int.reduceLE, Int.reduceEq, Int.reduceAdd, Int.reduceSub, *])
              | (refine br_prop (fun hb => ?_) (fun hb => ?_) <;> try (exfalso; omega))
              | refine br_not ?_
              | (refine by_prop (fun hb => ?_) (fun hb => ?_) <;> try (exfalso; omega))
              | (refine by_prop' (fun hb => ?_) (fun hb => ?_) <;> try (exfalso; omega))
              | refine by_not ?_
              | refine w_drawn (by kernel_rfl) ?_
              | refine new_i' (by rfl) (fun j hj hn => ?_)
              | refine new_i (fun j hn => ?_)
              | refine br_bool (fun hb => ?_) (fun hb => ?_)
              | refine by_bool (fun hb => ?_) (fun hb => ?_)
              | refine by_bool' (fun hb => ?_) (fun hb => ?_))
            refine call_i (digit10 _ _ _ fun d' ok hr h0 h99 => ?_)
            rw [hq] at hr
            subst hr
            repeat' (first
              | (simp (disch := first | omega | assumption) only [go_sem, ↓reduceIte, Nat.reduceEqDiff, reduceCtorEq, Nat.reduceAdd, Nat.reduceMul, Int.reduceToNat, Nat.reduceShiftRight, Nat.reduceAnd, Nat.reduceBNe, Nat.reduceBneDiff, Nat.reduceLT, Nat.reduceLeDiff, Int.reduceLT, Int.reduceLE, Int.reduceEq, Int.reduceAdd, Int.reduceSub, *])
              | (refine br_prop (fun hb => ?_) (fun hb => ?_) <;> try (exfalso; omega))
              | refine br_not ?_
              | (refine by_prop (fun hb => ?_) (fun hb => ?_) <;> try (exfalso; omega))
              | (refine by_prop' (fun hb => ?_) (fun hb => ?_) <;> try (exfalso; omega))
              | refine by_not ?_
              | refine w_drawn (by kernel_rfl) ?_
              | refine new_i' (by rfl) (fun j hj hn => ?_)
              | refine new_i (fun j hn => ?_)
              | refine br_bool (fun hb => ?_) (fun hb => ?_)
              | refine by_bool (fun hb => ?_) (fun hb => ?_)
              | refine by_bool' (fun hb => ?_) (fun hb => ?_))
            refine call_i (wfail _ _ _ _ _ fun j hn => ?_)
            repeat' (first
              | (simp (disch := first | omega | assumption) only [go_sem, ↓reduceIte, Nat.reduceEqDiff, reduceCtorEq, Nat.reduceAdd, Nat.reduceMul, Int.reduceToNat, Nat.reduceShiftRight, Nat.reduceAnd, Nat.reduceBNe, Nat.reduceBneDiff, Nat.reduceLT, Nat.reduceLeDiff, Int.reduceLT, Int.reduceLE, Int.reduceEq, Int.reduceAdd, Int.reduceSub, true_and])
              | (refine br_prop (fun hb => ?_) (fun hb => ?_) <;> try (exfalso; omega))
              | refine br_not ?_
              | (refine by_prop (fun hb => ?_) (fun hb => ?_) <;> try (exfalso; omega))
              | (refine by_prop' (fun hb => ?_) (fun hb => ?_) <;> try (exfalso; omega))
              | refine by_not ?_
              | refine w_drawn (by kernel_rfl) ?_
              | refine new_i' (by rfl) (fun j hj hn => ?_)
              | refine new_i (fun j hn => ?_)
              | refine br_bool (fun hb => ?_) (fun hb => ?_)
              | refine by_bool (fun hb => ?_) (fun hb => ?_)
              | refine by_bool' (fun hb => ?_) (fun hb => ?_))
            exact hE _ hn
          · repeat' (first
              | (simp (disch := first | omega | assumption) only [go_sem, ↓reduceIte, Nat.reduceEqDiff, reduceCtorEq, Nat.reduceAdd, Nat.reduceMul, Int.reduceToNat, Nat.reduceShiftRight, Nat.reduceAnd, Nat.reduceBNe, Nat.reduceBneDiff, Nat.reduceLT, Nat.reduceLeDiff, Int.reduceLT, Int.reduceLE, Int.reduceEq, Int.reduceAdd, Int.reduceSub, *])
              | (refine br_prop (fun hb => ?_) (fun hb => ?_) <;> try (exfalso; omega))
              | refine br_not ?_
              | (refine by_prop (fun hb => ?_) (fun hb => ?_) <;> try (exfalso; omega))
              | (refine by_prop' (fun hb => ?_) (fun hb => ?_) <;> try (exfalso; omega))
              | refine by_not ?_
              | refine w_drawn (by kernel_rfl) ?_
              | refine new_i' (by rfl) (fun j hj hn => ?_)
              | refine new_i (fun j hn => ?_)
              | refine br_bool (fun hb => ?_) (fun hb => ?_)
              | refine by_bool (fun hb => ?_) (fun hb => ?_)
              | refine by_bool' (fun hb => ?_) (fun hb => ?_))
            refine call_i (digit10 _ _ _ fun d' ok hr h0 h99 => ?_)
            rw [hq] at hr
            obtain ⟨rfl, rfl⟩ := hr
            repeat' (first
              | (simp (disch := first | omega | assumption) only [go_sem, ↓reduceIte, Nat.reduceEqDiff, reduceCtorEq, Nat.reduceAdd, Nat.reduceMul, Int.reduceToNat, Nat.reduceShiftRight, Nat.reduceAnd, Nat.reduceBNe, Nat.reduceBneDiff, Nat.reduceLT, Nat.reduceLeDiff, Int.reduceLT, Int.reduceLE, Int.reduceEq, Int.reduceAdd, Int.reduceSub, *])
              | (refine br_prop (fun hb => ?_) (fun hb => ?_) <;> try (exfalso; omega))
              | refine br_not ?_
              | (refine by_prop (fun hb => ?_) (fun hb => ?_) <;> try (exfalso; omega))
              | (refine by_prop' (fun hb => ?_) (fun hb => ?_) <;> try (exfalso; omega))
              | refine by_not ?_
              | refine w_drawn (by kernel_rfl) ?_
              | refine new_i' (by rfl) (fun j hj hn => ?_)
              | refine new_i (fun j hn => ?_)
              | refine br_bool (fun hb => ?_) (fun hb => ?_)
              | refine by_bool (fun hb => ?_) (fun hb => ?_)
              | refine by_bool' (fun hb => ?_) (fun hb => ?_))
            all_goals
              refine call_i (wfail _ _ _ _ _ fun j hn => ?_)
              repeat' (first
                | (simp (disch := first | omega | assumption) only [go_sem, ↓reduceIte, Nat.reduceEqDiff, reduceCtorEq, Nat.reduceAdd, Nat.reduceMul, Int.reduceToNat, Nat.reduceShiftRight, Nat.reduceAnd, Nat.reduceBNe, Nat.reduceBneDiff, Nat.reduceLT, Nat.reduceLeDiff, Int.reduceLT, Int.reduceLE, Int.reduceEq, Int.reduceAdd, Int.reduceSub, true_and])
                | (refine br_prop (fun hb => ?_) (fun hb => ?_) <;> try (exfalso; omega))
                | refine br_not ?_
                | (refine by_prop (fun hb => ?_) (fun hb => ?_) <;> try (exfalso; omega))
                | (refine by_prop' (fun hb => ?_) (fun hb => ?_) <;> try (exfalso; omega))
                | refine by_not ?_
                | refine w_drawn (by kernel_rfl) ?_
                | refine new_i' (by rfl) (fun j hj hn => ?_)
                | refine new_i (fun j hn => ?_)
                | refine br_bool (fun hb => ?_) (fun hb => ?_)
                | refine by_bool (fun hb => ?_) (fun hb => ?_)
                | refine by_bool' (fun hb => ?_) (fun hb => ?_))
              exact hE _ hn
        · clear herr hok
          repeat' (first
            | (simp (disch := first | omega | assumption) only [go_sem, ↓reduceIte, Nat.reduceEqDiff, reduceCtorEq, Nat.reduceAdd, Nat.reduceMul, Int.reduceToNat, Nat.reduceShiftRight, Nat.reduceAnd, Nat.reduceBNe, Nat.reduceBneDiff, Nat.reduceLT, Nat.reduceLeDiff, Int.reduceLT, Int.reduceLE, Int.reduceEq, Int.reduceAdd, Int.reduceSub, *])
            | (refine br_prop (fun hb => ?_) (fun hb => ?_) <;> try (exfalso; omega))
            | refine br_not ?_
            | (refine by_prop (fun hb => ?_) (fun hb => ?_) <;> try (exfalso; omega))
            | (refine by_prop' (fun hb => ?_) (fun hb => ?_) <;> try (exfalso; omega))
            | refine by_not ?_
            | refine w_drawn (by kernel_rfl) ?_
            | refine new_i' (by rfl) (fun j hj hn => ?_)
            | refine new_i (fun j hn => ?_)
            | refine br_bool (fun hb => ?_) (fun hb => ?_)
            | refine by_bool (fun hb => ?_) (fun hb => ?_)
            | refine by_bool' (fun hb => ?_) (fun hb => ?_))
          refine call_i (digit10 _ _ _ fun d' ok hr h0 h99 => ?_)
          rw [hq] at hr
          obtain ⟨rfl, rfl⟩ := hr
          repeat' (first
            | (simp (disch := first | omega | assumption) only [go_sem, ↓reduceIte, Nat.reduceEqDiff, reduceCtorEq, Nat.reduceAdd, Nat.reduceMul, Int.reduceToNat, Nat.reduceShiftRight, Nat.reduceAnd, Nat.reduceBNe, Nat.reduceBneDiff, Nat.reduceLT, Nat.reduceLeDiff, Int.reduceLT, Int.reduceLE, Int.reduceEq, Int.reduceAdd, Int.reduceSub, *])
            | (refine br_prop (fun hb => ?_) (fun hb => ?_) <;> try (exfalso; omega))
            | refine br_not ?_
            | (refine by_prop (fun hb => ?_) (fun hb => ?_) <;> try (exfalso; omega))
            | (refine by_prop' (fun hb => ?_) (fun hb => ?_) <;> try (exfalso; omega))
            | refine by_not ?_
            | refine w_drawn (by kernel_rfl) ?_
            | refine new_i' (by rfl) (fun j hj hn => ?_)
            | refine new_i (fun j hn => ?_)
            | refine br_bool (fun hb => ?_) (fun hb => ?_)
            | refine by_bool (fun hb => ?_) (fun hb => ?_)
            | refine by_bool' (fun hb => ?_) (fun hb => ?_))
          exact inv_i (hJ.go _ _ ⟨s.size - (i + 1), by omega, rfl, i + 1, v * 10 + d, rfl, rfl, by omega, by omega, rfl, by omega, hd.trans he⟩)
      · have hE : s.size ≠ 0 → K (.tuple #[.int .u64 v, .nilIface]) H1 := fun hne => hok v (by rw [number_dec s hx, if_neg hne, hd, digits_end s _ _ _ _ _ (by omega)]) hv
        have hF := fun hne : s.size = 0 => herr 0 (by rw [number_dec s hx, if_pos hne])
        clear hd herr hok
        repeat' (first
          | (simp (disch := first | omega | assumption) only [go_sem, ↓reduceIte, Nat.reduceEqDiff, reduceCtorEq, Nat.reduceAdd, Nat.reduceMul, Int.reduceToNat, Nat.reduceShiftRight, Nat.reduceAnd, Nat.reduceBNe, Nat.reduceBneDiff, Nat.reduceLT, Nat.reduceLeDiff, Int.reduceLT, Int.reduceLE, Int.reduceEq, Int.reduceAdd, Int.reduceSub, h7, h8])
          | (refine br_prop (fun hb => ?_) (fun hb => ?_) <;> try (exfalso; omega))
          | refine br_not ?_
          | (refine by_prop (fun hb => ?_) (fun hb => ?_) <;> try (exfalso; omega))
          | (refine by_prop' (fun hb => ?_) (fun hb => ?_) <;> try (exfalso; omega))
          | refine by_not ?_
          | refine w_drawn (by kernel_rfl) ?_
          | refine new_i' (by rfl) (fun j hj hn => ?_)
          | refine new_i (fun j hn => ?_)
          | refine br_bool (fun hb => ?_) (fun hb => ?_)
          | refine by_bool (fun hb => ?_) (fun hb => ?_)
          | refine by_bool' (fun hb => ?_) (fun hb => ?_))
        all_goals first | exact hE (by omega) | refine call_i (wfail _ _ _ _ _ fun j hn => ?_)
        all_goals
          repeat' (first
            | (simp (disch := first | omega | assumption) only [go_sem, ↓reduceIte, Nat.reduceEqDiff, reduceCtorEq, Nat.reduceAdd, Nat.reduceMul, Int.reduceToNat, Nat.reduceShiftRight, Nat.reduceAnd, Nat.reduceBNe, Nat.reduceBneDiff, Nat.reduceLT, Nat.reduceLeDiff, Int.reduceLT, Int.reduceLE, Int.reduceEq, Int.reduceAdd, Int.reduceSub, true_and])
            | (refine br_prop (fun hb => ?_) (fun hb => ?_) <;> try (exfalso; omega))
            | refine br_not ?_
            | (refine by_prop (fun hb => ?_) (fun hb => ?_) <;> try (exfalso; omega))
            | (refine by_prop' (fun hb => ?_) (fun hb => ?_) <;> try (exfalso; omega))
            | refine by_not ?_
            | refine w_drawn (by kernel_rfl) ?_
            | refine new_i' (by rfl) (fun j hj hn => ?_)
            | refine new_i (fun j hn => ?_)
            | refine br_bool (fun hb => ?_) (fun hb => ?_)
            | refine by_bool (fun hb => ?_) (fun hb => ?_)
            | refine by_bool' (fun hb => ?_) (fun hb => ?_))
          exact hF (by omega) _ hn
theorem number57 (s : ByteArray) (line : Int) (hs : s.size < 140737488355328) (H0 H : AHeap) (hg : Grew H0 H) (K : Value → AHeap → Prop)
    (hok : ∀ v : Nat, num s.data.toList line = .ok (v : Int) → v ≤ 18446744073709551615 → K (.tuple #[.int .u64 v, .nilIface]) H)
    (herr : ∀ (H' : AHeap) (e : Value) (er : Er), num s.data.toList line = .error er → Grew H0 H' → ErrR H' e er → K (.tuple #[.int .u64 0, e]) H') :
    ACalls Tryd.prog 57 #[.string s, .int .i64 line] H K := by
  refine w_enter (args := [.string s, .int .i64 line]) Tryd.func57 rfl (by kernel_rfl) D.mixed (by kernel_rfl) (rs := [.tmp 4, .tmp 5]) rfl ?_
  repeat' (first
    | (simp (disch := first | omega | assumption) only [go_sem, ↓reduceIte, Nat.reduceEqDiff, reduceCtorEq, Nat.reduceAdd, Nat.reduceMul, Int.reduceToNat, Nat.reduceShiftRight, Nat.reduceAnd, Nat.reduceBNe, Nat.reduceBneDiff, Nat.reduceLT, Nat.reduceLeDiff, Int.reduceLT, Int.reduceLE, Int.reduceEq, Int.reduceAdd, Int.reduceSub, true_and])
    | (refine br_prop (fun hb => ?_) (fun hb => ?_) <;> try (exfalso; omega))
    | refine br_not ?_
    | (refine by_prop (fun hb => ?_) (fun hb => ?_) <;> try (exfalso; omega))
    | (refine by_prop' (fun hb => ?_) (fun hb => ?_) <;> try (exfalso; omega))
    | refine by_not ?_
    | refine w_drawn (by kernel_rfl) ?_
    | refine new_i' (by rfl) (fun j hj hn => ?_)
    | refine new_i (fun j hn => ?_)
    | refine br_bool (fun hb => ?_) (fun hb => ?_)
    | refine by_bool (fun hb => ?_) (fun hb => ?_)
    | refine by_bool' (fun hb => ?_) (fun hb => ?_))
  refine call_i (parse_walk _ hs _ _ (fun v hv hb => ?_) (fun n hn j hj => ?_))
  · repeat' (first
      | (simp (disch := first | omega | assumption) only [go_sem, ↓reduceIte, Nat.reduceEqDiff, reduceCtorEq, Nat.reduceAdd, Nat.reduceMul, Int.reduceToNat, Nat.reduceShiftRight, Nat.reduceAnd, Nat.reduceBNe, Nat.reduceBneDiff, Nat.reduceLT, Nat.reduceLeDiff, Int.reduceLT, Int.reduceLE, Int.reduceEq, Int.reduceAdd, Int.reduceSub, true_and])
      | (refine br_prop (fun hb => ?_) (fun hb => ?_) <;> try (exfalso; omega))
      | refine br_not ?_
      | (refine by_prop (fun hb => ?_) (fun hb => ?_) <;> try (exfalso; omega))
      | (refine by_prop' (fun hb => ?_) (fun hb => ?_) <;> try (exfalso; omega))
      | refine by_not ?_
      | refine w_drawn (by kernel_rfl) ?_
      | refine new_i' (by rfl) (fun j hj hn => ?_)
      | refine new_i (fun j hn => ?_)
      | refine br_bool (fun hb => ?_) (fun hb => ?_)
      | refine by_bool (fun hb => ?_) (fun hb => ?_)
      | refine by_bool' (fun hb => ?_) (fun hb => ?_))
    exact hok v (by unfold num; rw [hv]) hb
  · repeat' (first
      | (simp (disch := first | omega | assumption) only [go_sem, ↓reduceIte, Nat.reduceEqDiff, reduceCtorEq, Nat.reduceAdd, Nat.reduceMul, Int.reduceToNat, Nat.reduceShiftRight, Nat.reduceAnd, Nat.reduceBNe, Nat.reduceBneDiff, Nat.reduceLT, Nat.reduceLeDiff, Int.reduceLT, Int.reduceLE, Int.reduceEq, Int.reduceAdd, Int.reduceSub, true_and])
      | (refine br_prop (fun hb => ?_) (fun hb => ?_) <;> try (exfalso; omega))
      | refine br_not ?_
      | (refine by_prop (fun hb => ?_) (fun hb => ?_) <;> try (exfalso; omega))
      | (refine by_prop' (fun hb => ?_) (fun hb => ?_) <;> try (exfalso; omega))
      | refine by_not ?_
      | refine w_drawn (by kernel_rfl) ?_
      | refine new_i' (by rfl) (fun j hj hn => ?_)
      | refine new_i (fun j hn => ?_)
      | refine br_bool (fun hb => ?_) (fun hb => ?_)
      | refine by_bool (fun hb => ?_) (fun hb => ?_)
      | refine by_bool' (fun hb => ?_) (fun hb => ?_))
    refine call_i (afail _ _ _ _ _ fun i hi => ?_)
    repeat' (first
      | (simp (disch := first | omega | assumption) only [go_sem, ↓reduceIte, Nat.reduceEqDiff, reduceCtorEq, Nat.reduceAdd, Nat.reduceMul, Int.reduceToNat, Nat.reduceShiftRight, Nat.reduceAnd, Nat.reduceBNe, Nat.reduceBneDiff, Nat.reduceLT, Nat.reduceLeDiff, Int.reduceLT, Int.reduceLE, Int.reduceEq, Int.reduceAdd, Int.reduceSub, true_and])
      | (refine br_prop (fun hb => ?_) (fun hb => ?_) <;> try (exfalso; omega))
      | refine br_not ?_
      | (refine by_prop (fun hb => ?_) (fun hb => ?_) <;> try (exfalso; omega))
      | (refine by_prop' (fun hb => ?_) (fun hb => ?_) <;> try (exfalso; omega))
      | refine by_not ?_
      | refine w_drawn (by kernel_rfl) ?_
      | refine new_i' (by rfl) (fun j hj hn => ?_)
      | refine new_i (fun j hn => ?_)
      | refine br_bool (fun hb => ?_) (fun hb => ?_)
      | refine by_bool (fun hb => ?_) (fun hb => ?_)
      | refine by_bool' (fun hb => ?_) (fun hb => ?_))
    have hij : j ≠ i := fun e => by subst e; rw [AHeap.set_same] at hi; cases hi
    exact herr _ _ ⟨line, some n, 6⟩ (by unfold num; rw [hn]) ((hg.new _ hj).new _ hi) ⟨i, j, rfl, AHeap.set_same _ _ _, by rw [AHeap.set_ne _ _ hij, AHeap.set_same]⟩
end Go.Proofs
namespace Go.Proofs
set_option linter.unusedSimpArgs false
set_option linter.unusedVariables false
set_option linter.unusedSectionVars false
open Go Go.Ab AsmM
variable [Go.Ab.Start]
set_option maxRecDepth 100000
set_option maxHeartbeats 1000000
def encI (x : Ins) : List Value := [.int .i64 x.op, .int .i64 x.a, .int .i64 x.b, .int .i64 x.c, .int .u64 x.v, .int .i64 x.m, .int .i64 x.w]
theorem encI_len (x : Ins) : (encI x).length = 7 := rfl
theorem suffix73 (s t : ByteArray) (hs : s.size ≤ 1000000) (H : AHeap) (K : Value → AHeap → Prop) (hk : K (.bool (t.data.toList.isSuffixOf s.data.toList)) H) : ACalls Tryd.prog 73 #[.string s, .string t] H K := by
  have key : t.data.toList.isSuffixOf s.data.toList = decide (t.size ≤ s.size ∧ (s.extract (s.size - t.size) s.size).data.toList = t.data.toList) := by
    have e1 : s.data.toList.length = s.size := by simp
    have e2 : t.data.toList.length = t.size := by simp
    rw [Bool.eq_iff_iff, List.isSuffixOf_iff_suffix, List.suffix_iff_eq_drop, decide_eq_true_eq, extract_list, e1, e2, List.take_of_length_le (by rw [List.length_drop, e1]; omega)]
    constructor
    · intro h
      refine ⟨?_, h.symm⟩
      have := congrArg List.length h
      rw [List.length_drop, e1, e2] at this
      omega
    · exact fun h => h.2.symm
  rw [key] at hk
  refine w_enter (args := [.string s, .string t]) Tryd.func73 rfl (by kernel_rfl) D.mixed (by kernel_rfl) (rs := [.tmp 4]) rfl ?_
  by_cases h : t.size ≤ s.size
  · have e1 : ((s.size : Int) - t.size).toNat = s.size - t.size := by omega
    simp only [h, true_and] at hk
    repeat' (first
      | (simp (disch := first | omega | assumption) only [go_sem, ↓reduceIte, Nat.reduceEqDiff, reduceCtorEq, Nat.reduceAdd, Nat.reduceMul, Int.reduceToNat, Nat.reduceShiftRight, Nat.reduceAnd, Nat.reduceBNe, Nat.reduceBneDiff, Nat.reduceLT, Nat.reduceLeDiff, Int.reduceLT, Int.reduceLE, Int.reduceEq, Int.reduceAdd, Int.reduceSub, *])
      | (refine br_prop (fun hb => ?_) (fun hb => ?_) <;> try (exfalso; omega))
      | refine br_not ?_
      | (refine by_prop (fun hb => ?_) (fun hb => ?_) <;> try (exfalso; omega))
      | (refine by_prop' (fun hb => ?_) (fun hb => ?_) <;> try (exfalso; omega))
      | refine by_not ?_
      | refine w_drawn (by kernel_rfl) ?_
      | refine new_i' (by rfl) (fun j hj hn => ?_)
      | refine new_i (fun j hn => ?_)
      | refine br_bool (fun hb => ?_) (fun hb => ?_)
      | refine by_bool (fun hb => ?_) (fun hb => ?_)
      | refine by_bool' (fun hb => ?_) (fun hb => ?_))
    all_goals exact hk
  · rw [decide_eq_false (fun q => h q.1)] at hk
    repeat' (first
      | (simp (disch := first | omega | assumption) only [go_sem, ↓reduceIte, Nat.reduceEqDiff, reduceCtorEq, Nat.reduceAdd, Nat.reduceMul, Int.reduceToNat, Nat.reduceShiftRight, Nat.reduceAnd, Nat.reduceBNe, Nat.reduceBneDiff, Nat.reduceLT, Nat.reduceLeDiff, Int.reduceLT, Int.reduceLE, Int.reduceEq, Int.reduceAdd, Int.reduceSub, *])
      | (refine br_prop (fun hb => ?_) (fun hb => ?_) <;> try (exfalso; omega))
      | refine br_not ?_
      | (refine by_prop (fun hb => ?_) (fun hb => ?_) <;> try (exfalso; omega))
      | (refine by_prop' (fun hb => ?_) (fun hb => ?_) <;> try (exfalso; omega))
      | refine by_not ?_
      | refine w_drawn (by kernel_rfl) ?_
      | refine new_i' (by rfl) (fun j hj hn => ?_)
      | refine new_i (fun j hn => ?_)
      | refine br_bool (fun hb => ?_) (fun hb => ?_)
      | refine by_bool (fun hb => ?_) (fun hb => ?_)
      | refine by_bool' (fun hb => ?_) (fun hb => ?_))
    all_goals exact hk
theorem suffix59 (s t : ByteArray) (hs : s.size ≤ 1000000) (H : AHeap) (K : Value → AHeap → Prop) (hk : K (.bool (t.data.toList.isSuffixOf s.data.toList)) H) : ACalls Tryd.prog 59 #[.string s, .string t] H K := by
  refine w_enter (args := [.string s, .string t]) Tryd.func59 rfl (by kernel_rfl) D.mixed (by kernel_rfl) (rs := [.tmp 4]) rfl ?_
  repeat' (first
    | (simp (disch := first | omega | assumption) only [go_sem, ↓reduceIte, Nat.reduceEqDiff, reduceCtorEq, Nat.reduceAdd, Nat.reduceMul, Int.reduceToNat, Nat.reduceShiftRight, Nat.reduceAnd, Nat.reduceBNe, Nat.reduceBneDiff, Nat.reduceLT, Nat.reduceLeDiff, Int.reduceLT, Int.reduceLE, Int.reduceEq, Int.reduceAdd, Int.reduceSub, true_and])
    | (refine br_prop (fun hb => ?_) (fun hb => ?_) <;> try (exfalso; omega))
    | refine br_not ?_
    | (refine by_prop (fun hb => ?_) (fun hb => ?_) <;> try (exfalso; omega))
    | (refine by_prop' (fun hb => ?_) (fun hb => ?_) <;> try (exfalso; omega))
    | refine by_not ?_
    | refine w_drawn (by kernel_rfl) ?_
    | refine new_i' (by rfl) (fun j hj hn => ?_)
    | refine new_i (fun j hn => ?_)
    | refine br_bool (fun hb => ?_) (fun hb => ?_)
    | refine by_bool (fun hb => ?_) (fun hb => ?_)
    | refine by_bool' (fun hb => ?_) (fun hb => ?_))
  refine call_i (suffix73 _ _ hs _ _ ?_)
  repeat' (first
    | (simp (disch := first | omega | assumption) only [go_sem, ↓reduceIte, Nat.reduceEqDiff, reduceCtorEq, Nat.reduceAdd, Nat.reduceMul, Int.reduceToNat, Nat.reduceShiftRight, Nat.reduceAnd, Nat.reduceBNe, Nat.reduceBneDiff, Nat.reduceLT, Nat.reduceLeDiff, Int.reduceLT, Int.reduceLE, Int.reduceEq, Int.reduceAdd, Int.reduceSub, *])
    | (refine br_prop (fun hb => ?_) (fun hb => ?_) <;> try (exfalso; omega))
    | refine br_not ?_
    | (refine by_prop (fun hb => ?_) (fun hb => ?_) <;> try (exfalso; omega))
    | (refine by_prop' (fun hb => ?_) (fun hb => ?_) <;> try (exfalso; omega))
    | refine by_not ?_
    | refine w_drawn (by kernel_rfl) ?_
    | refine new_i' (by rfl) (fun j hj hn => ?_)
    | refine new_i (fun j hn => ?_)
    | refine br_bool (fun hb => ?_) (fun hb => ?_)
    | refine by_bool (fun hb => ?_) (fun hb => ?_)
    | refine by_bool' (fun hb => ?_) (fun hb => ?_))
theorem ErrR.set {H : AHeap} {v : Value} {q : Nat} {cs : List Value} (o : AObj) (hq : H q = .cells cs) (hc : cs.length ≠ 3) : ∀ {e : Er}, ErrR H v e → ErrR (H.set q o) v e
  | ⟨n, none, k⟩, ⟨i, h1, h2⟩ => ⟨i, h1, by rw [AHeap.set_ne _ _ fun e => by subst e; rw [h2] at hq; cases hq; exact hc rfl]; exact h2⟩
  | ⟨n, some m, k⟩, ⟨i, j, h1, h2, h3⟩ => ⟨i, j, h1, by rw [AHeap.set_ne _ _ fun e => by subst e; rw [h2] at hq; cases hq; exact hc rfl]; exact h2, by rw [AHeap.set_ne _ _ fun e => by subst e; rw [h3] at hq; cases hq; exact hc rfl]; exact h3⟩
theorem head_of (s : ByteArray) (h : 0 < s.size) : s.data.toList.head? = some (getB s 0) := by
  have hl : 0 < s.data.toList.length := by simpa using h
  cases hs : s.data.toList with
  | nil => rw [hs] at hl; simp at hl
  | cons a l => unfold getB; rw [hs]; rfl
theorem last_of (s : ByteArray) (h : 0 < s.size) : s.data.toList.getLast? = some (getB s (s.size - 1)) := by
  have e : s.data.toList.length = s.size := by simp
  rw [List.getLast?_eq_getElem?, e]
  unfold getB
  rw [List.getD_eq_getElem?_getD, List.getElem?_eq_getElem (by omega)]; rfl
theorem mid_of (s : ByteArray) : s.data.toList.tail.dropLast = (s.extract 1 (s.size - 1)).data.toList := by
  have e : s.data.toList.length = s.size := by simp
  rw [extract_list, List.dropLast_eq_take, List.length_tail, e, ← List.drop_one]
theorem size_ext (s : ByteArray) (a b : Nat) (h : a ≤ b) (h2 : b ≤ s.size) : (s.extract a b).size = b - a := by rw [ByteArray.size_extract]; omega
theorem indexByte_full (c : UInt8) : ∀ l : List UInt8, (Lib.indexByte l c = -1 ∧ l.contains c = false) ∨ (∃ k : Nat, k < l.length ∧ Lib.indexByte l c = k ∧ l.contains c = true ∧ l.takeWhile (· ≠ c) = l.take k ∧ (l.dropWhile (· ≠ c)).tail = l.drop (k + 1))
  | [] => .inl ⟨rfl, rfl⟩
  | b :: l => by
    by_cases hb : b = c
    · refine .inr ⟨0, by simp, by simp [Lib.indexByte, hb], by simp [hb], by simp [hb], by simp [hb]⟩
    · have hb' : (b == c) = false := by simpa using hb
      rcases indexByte_full c l with ⟨h1, h2⟩ | ⟨k, hk, h1, h2, h3, h4⟩
      · refine .inl ⟨by simp [Lib.indexByte, hb', h1], by rw [List.contains_cons, h2]; simpa using fun e => hb e.symm⟩
      · refine .inr ⟨k + 1, by simpa using hk, ?_, by rw [List.contains_cons, h2]; simp, by rw [List.takeWhile_cons, if_pos (by simpa using hb), h3]; rfl, by rw [List.dropWhile_cons, if_pos (by simpa using hb), h4]; rfl⟩
        have : ¬ ((k : Int) = -1) := by omega
        simp only [Lib.indexByte, hb', h1]
        simp [this]
theorem cellOf58 (q : Nat) (x : Ins) (s : ByteArray) (line : Int) (hs : s.size ≤ 1000000) (H : AHeap) (hq : H q = .cells (encI x)) (K : Value → AHeap → Prop) (hok : ∀ H' y, cellOf x s.data.toList line = .ok y → H' q = .cells (encI y) → Chg (· = q) H H' → K .nilIface H')
    (herr : ∀ H' e er, cellOf x s.data.toList line = .error er → ErrR H' e er → Chg (· = q) H H' → K e H') : ACalls Tryd.prog 58 #[.pointer (some ⟨q, 0, none⟩), .string s, .int .i64 line] H K := by
  have fin : ∀ (t : ByteArray) (y : Ins) (H1 : AHeap), H1 q = .cells (encI y) → Chg (· = q) H H1 → (∀ v, num t.data.toList line = .ok v → cellOf x s.data.toList line = .ok { y with v := v }) → (∀ e, num t.data.toList line = .error e → cellOf x s.data.toList line = .error e) → True := fun _ _ _ _ _ _ _ => trivial
  clear fin
  unfold encI at hq
  unfold cellOf at hok herr
  by_cases hbad : s.size < 2 ∨ (getB s 0).toNat ≠ 91 ∨ (getB s (s.size - 1)).toNat ≠ 93
  · have : s.data.toList.length < 2 ∨ s.data.toList.head? ≠ some 91 ∨ s.data.toList.getLast? ≠ some 93 := by
      have e : s.data.toList.length = s.size := by simp
      rcases Nat.lt_or_ge s.size 2 with h | h
      · exact .inl (by omega)
      · rcases hbad with h1 | h1 | h1
        · omega
        · exact .inr (.inl (by rw [head_of s (by omega)]; intro e; simp only [Option.some.injEq] at e; rw [e] at h1; exact h1 rfl))
        · exact .inr (.inr (by rw [last_of s (by omega)]; intro e; simp only [Option.some.injEq] at e; rw [e] at h1; exact h1 rfl))
    rw [if_pos this] at herr
    clear hok this
    have e1 : ((s.size : Int) - 1).toNat = s.size - 1 := by omega
    replace hbad : s.size < 2 ∨ (2 ≤ s.size ∧ (getB s 0).toNat ≠ 91) ∨ (2 ≤ s.size ∧ (getB s 0).toNat = 91 ∧ (getB s (s.size - 1)).toNat ≠ 93) := by omega
    refine w_enter (args := [.pointer (some ⟨q, 0, none⟩), .string s, .int .i64 line]) Tryd.func58 rfl (by kernel_rfl) D.mixed (by kernel_rfl) (rs := [.tmp 6]) rfl ?_
    rcases hbad with h1 | ⟨h1, h2⟩ | ⟨h1, h2, h3⟩
    all_goals
      repeat' (first
        | (simp (disch := first | omega | assumption) only [go_sem, ↓reduceIte, Nat.reduceEqDiff, reduceCtorEq, Nat.reduceAdd, Nat.reduceMul, Int.reduceToNat, Nat.reduceShiftRight, Nat.reduceAnd, Nat.reduceBNe, Nat.reduceBneDiff, Nat.reduceLT, Nat.reduceLeDiff, Int.reduceLT, Int.reduceLE, Int.reduceEq, Int.reduceAdd, Int.reduceSub, *])
        | (refine br_prop (fun hb => ?_) (fun hb => ?_) <;> try (exfalso; omega))
        | refine br_not ?_
        | (refine by_prop (fun hb => ?_) (fun hb => ?_) <;> try (exfalso; omega))
        | (refine by_prop' (fun hb => ?_) (fun hb => ?_) <;> try (exfalso; omega))
        | refine by_not ?_
        | refine w_drawn (by kernel_rfl) ?_
        | refine new_i' (by rfl) (fun j hj hn => ?_)
        | refine new_i (fun j hn => ?_)
        | refine br_bool (fun hb => ?_) (fun hb => ?_)
        | refine by_bool (fun hb => ?_) (fun hb => ?_)
        | refine by_bool' (fun hb => ?_) (fun hb => ?_))
      refine call_i (afail_go _ _ H _ (.refl _) _ fun H' v hg he => ?_)
      repeat' (first
        | (simp (disch := first | omega | assumption) only [go_sem, ↓reduceIte, Nat.reduceEqDiff, reduceCtorEq, Nat.reduceAdd, Nat.reduceMul, Int.reduceToNat, Nat.reduceShiftRight, Nat.reduceAnd, Nat.reduceBNe, Nat.reduceBneDiff, Nat.reduceLT, Nat.reduceLeDiff, Int.reduceLT, Int.reduceLE, Int.reduceEq, Int.reduceAdd, Int.reduceSub, true_and])
        | (refine br_prop (fun hb => ?_) (fun hb => ?_) <;> try (exfalso; omega))
        | refine br_not ?_
        | (refine by_prop (fun hb => ?_) (fun hb => ?_) <;> try (exfalso; omega))
        | (refine by_prop' (fun hb => ?_) (fun hb => ?_) <;> try (exfalso; omega))
        | refine by_not ?_
        | refine w_drawn (by kernel_rfl) ?_
        | refine new_i' (by rfl) (fun j hj hn => ?_)
        | refine new_i (fun j hn => ?_)
        | refine br_bool (fun hb => ?_) (fun hb => ?_)
        | refine by_bool (fun hb => ?_) (fun hb => ?_)
        | refine by_bool' (fun hb => ?_) (fun hb => ?_))
      exact herr _ _ _ rfl he (hg.chg _)
  · have : ¬ (s.data.toList.length < 2 ∨ s.data.toList.head? ≠ some 91 ∨ s.data.toList.getLast? ≠ some 93) := by
      have e : s.data.toList.length = s.size := by simp
      have c1 : getB s 0 = 91 := UInt8.toNat_inj.1 (show (getB s 0).toNat = 91 by omega)
      have c2 : getB s (s.size - 1) = 93 := UInt8.toNat_inj.1 (show (getB s (s.size - 1)).toNat = 93 by omega)
      rw [head_of s (by omega), last_of s (by omega), c1, c2]; simp; omega
    rw [if_neg this] at hok herr
    clear this
    have e1 : ((s.size : Int) - 1).toNat = s.size - 1 := by omega
    have b1 : 2 ≤ s.size := by omega
    have b2 : (getB s 0).toNat = 91 := by omega
    have b3 : (getB s (s.size - 1)).toNat = 93 := by omega
    clear hbad
    rw [mid_of] at hok herr
    have ht : (s.extract 1 (s.size - 1)).size = s.size - 2 := by rw [size_ext _ _ _ (by omega) (by omega)]; omega
    refine w_enter (args := [.pointer (some ⟨q, 0, none⟩), .string s, .int .i64 line]) Tryd.func58 rfl (by kernel_rfl) D.mixed (by kernel_rfl) (rs := [.tmp 6]) rfl ?_
    repeat' (first
      | (simp (disch := first | omega | assumption) only [go_sem, ↓reduceIte, Nat.reduceEqDiff, reduceCtorEq, Nat.reduceAdd, Nat.reduceMul, Int.reduceToNat, Nat.reduceShiftRight, Nat.reduceAnd, Nat.reduceBNe, Nat.reduceBneDiff, Nat.reduceLT, Nat.reduceLeDiff, Int.reduceLT, Int.reduceLE, Int.reduceEq, Int.reduceAdd, Int.reduceSub, *])
      | (refine br_prop (fun hb => ?_) (fun hb => ?_) <;> try (exfalso; omega))
      | refine br_not ?_
      | (refine by_prop (fun hb => ?_) (fun hb => ?_) <;> try (exfalso; omega))
      | (refine by_prop' (fun hb => ?_) (fun hb => ?_) <;> try (exfalso; omega))
      | refine by_not ?_
      | refine w_drawn (by kernel_rfl) ?_
      | refine new_i' (by rfl) (fun j hj hn => ?_)
      | refine new_i (fun j hn => ?_)
      | refine br_bool (fun hb => ?_) (fun hb => ?_)
      | refine by_bool (fun hb => ?_) (fun hb => ?_)
      | refine by_bool' (fun hb => ?_) (fun hb => ?_))
    generalize s.extract 1 (s.size - 1) = t at *
    have hts : t.size ≤ 1000000 := by omega
    clear ht hs e1 b1 b2 b3
    refine call_i (reg_spec _ _ _ fun v ok hr => ?_)
    simp only at hok herr
    cases hreg : register t.data.toList with
    | some n =>
      rw [hreg] at hr hok herr
      obtain ⟨rfl, rfl⟩ := hr
      repeat' (first
        | (simp (disch := first | omega | assumption) only [go_sem, ↓reduceIte, Nat.reduceEqDiff, reduceCtorEq, Nat.reduceAdd, Nat.reduceMul, Int.reduceToNat, Nat.reduceShiftRight, Nat.reduceAnd, Nat.reduceBNe, Nat.reduceBneDiff, Nat.reduceLT, Nat.reduceLeDiff, Int.reduceLT, Int.reduceLE, Int.reduceEq, Int.reduceAdd, Int.reduceSub, *])
        | (refine br_prop (fun hb => ?_) (fun hb => ?_) <;> try (exfalso; omega))
        | refine br_not ?_
        | (refine by_prop (fun hb => ?_) (fun hb => ?_) <;> try (exfalso; omega))
        | (refine by_prop' (fun hb => ?_) (fun hb => ?_) <;> try (exfalso; omega))
        | refine by_not ?_
        | refine w_drawn (by kernel_rfl) ?_
        | refine new_i' (by rfl) (fun j hj hn => ?_)
        | refine new_i (fun j hn => ?_)
        | refine br_bool (fun hb => ?_) (fun hb => ?_)
        | refine by_bool (fun hb => ?_) (fun hb => ?_)
        | refine by_bool' (fun hb => ?_) (fun hb => ?_))
      exact hok _ _ rfl (AHeap.set_same _ _ _) (by repeat' (first | exact Chg.refl _ _ | refine Chg.set ?_ _ (.inl rfl) | refine Chg.set ?_ _ (.inr (by assumption)) | refine Chg.grew ?_ (by assumption) | assumption))
    | none =>
      rw [hreg] at hr hok herr
      subst hr
      repeat' (first
        | (simp (disch := first | omega | assumption) only [go_sem, ↓reduceIte, Nat.reduceEqDiff, reduceCtorEq, Nat.reduceAdd, Nat.reduceMul, Int.reduceToNat, Nat.reduceShiftRight, Nat.reduceAnd, Nat.reduceBNe, Nat.reduceBneDiff, Nat.reduceLT, Nat.reduceLeDiff, Int.reduceLT, Int.reduceLE, Int.reduceEq, Int.reduceAdd, Int.reduceSub, *])
        | (refine br_prop (fun hb => ?_) (fun hb => ?_) <;> try (exfalso; omega))
        | refine br_not ?_
        | (refine by_prop (fun hb => ?_) (fun hb => ?_) <;> try (exfalso; omega))
        | (refine by_prop' (fun hb => ?_) (fun hb => ?_) <;> try (exfalso; omega))
        | refine by_not ?_
        | refine w_drawn (by kernel_rfl) ?_
        | refine new_i' (by rfl) (fun j hj hn => ?_)
        | refine new_i (fun j hn => ?_)
        | refine br_bool (fun hb => ?_) (fun hb => ?_)
        | refine by_bool (fun hb => ?_) (fun hb => ?_)
        | refine by_bool' (fun hb => ?_) (fun hb => ?_))
      refine call_i (ib55 _ _ _ _ ?_)
      have h43 : (Int.toNat 43).toUInt8 = 43 := rfl
      rw [h43]
      have hc1 : Chg (· = q) H (H.set q (.cells (encI { x with b := -1 }))) := (Chg.refl _ _).set _ (.inl rfl)
      rcases indexByte_full 43 t.data.toList with ⟨h1, h2⟩ | ⟨k, hk, h1, h2, h3, h4⟩
      · rw [h1]
        rw [h2] at hok herr
        repeat' (first
          | (simp (disch := first | omega | assumption) only [go_sem, ↓reduceIte, Nat.reduceEqDiff, reduceCtorEq, Nat.reduceAdd, Nat.reduceMul, Int.reduceToNat, Nat.reduceShiftRight, Nat.reduceAnd, Nat.reduceBNe, Nat.reduceBneDiff, Nat.reduceLT, Nat.reduceLeDiff, Int.reduceLT, Int.reduceLE, Int.reduceEq, Int.reduceAdd, Int.reduceSub, *])
          | (refine br_prop (fun hb => ?_) (fun hb => ?_) <;> try (exfalso; omega))
          | refine br_not ?_
          | (refine by_prop (fun hb => ?_) (fun hb => ?_) <;> try (exfalso; omega))
          | (refine by_prop' (fun hb => ?_) (fun hb => ?_) <;> try (exfalso; omega))
          | refine by_not ?_
          | refine w_drawn (by kernel_rfl) ?_
          | refine new_i' (by rfl) (fun j hj hn => ?_)
          | refine new_i (fun j hn => ?_)
          | refine br_bool (fun hb => ?_) (fun hb => ?_)
          | refine by_bool (fun hb => ?_) (fun hb => ?_)
          | refine by_bool' (fun hb => ?_) (fun hb => ?_))
        refine call_i (number57 _ _ (by first | omega | (rw [size_ext _ _ _ (by omega) (by omega)]; omega)) _ _ (.refl _) _ (fun v hv hb => ?_) fun H' e er hv hg he => ?_)
        · rw [hv] at hok
          repeat' (first
            | (simp (disch := first | omega | assumption) only [go_sem, ↓reduceIte, Nat.reduceEqDiff, reduceCtorEq, Nat.reduceAdd, Nat.reduceMul, Int.reduceToNat, Nat.reduceShiftRight, Nat.reduceAnd, Nat.reduceBNe, Nat.reduceBneDiff, Nat.reduceLT, Nat.reduceLeDiff, Int.reduceLT, Int.reduceLE, Int.reduceEq, Int.reduceAdd, Int.reduceSub, true_and, AHeap.set_same])
            | (refine br_prop (fun hb => ?_) (fun hb => ?_) <;> try (exfalso; omega))
            | refine br_not ?_
            | (refine by_prop (fun hb => ?_) (fun hb => ?_) <;> try (exfalso; omega))
            | (refine by_prop' (fun hb => ?_) (fun hb => ?_) <;> try (exfalso; omega))
            | refine by_not ?_
            | refine w_drawn (by kernel_rfl) ?_
            | refine new_i' (by rfl) (fun j hj hn => ?_)
            | refine new_i (fun j hn => ?_)
            | refine br_bool (fun hb => ?_) (fun hb => ?_)
            | refine by_bool (fun hb => ?_) (fun hb => ?_)
            | refine by_bool' (fun hb => ?_) (fun hb => ?_))
          exact hok _ _ rfl (AHeap.set_same _ _ _) (by repeat' (first | exact Chg.refl _ _ | refine Chg.set ?_ _ (.inl rfl) | refine Chg.set ?_ _ (.inr (by assumption)) | refine Chg.grew ?_ (by assumption) | assumption))
        · rw [hv] at herr
          have hq' := (hg.get (j := q) (by rw [AHeap.set_same]; rfl)).trans (AHeap.set_same _ _ _)
          repeat' (first
            | (simp (disch := first | omega | assumption) only [go_sem, ↓reduceIte, Nat.reduceEqDiff, reduceCtorEq, Nat.reduceAdd, Nat.reduceMul, Int.reduceToNat, Nat.reduceShiftRight, Nat.reduceAnd, Nat.reduceBNe, Nat.reduceBneDiff, Nat.reduceLT, Nat.reduceLeDiff, Int.reduceLT, Int.reduceLE, Int.reduceEq, Int.reduceAdd, Int.reduceSub, *])
            | (refine br_prop (fun hb => ?_) (fun hb => ?_) <;> try (exfalso; omega))
            | refine br_not ?_
            | (refine by_prop (fun hb => ?_) (fun hb => ?_) <;> try (exfalso; omega))
            | (refine by_prop' (fun hb => ?_) (fun hb => ?_) <;> try (exfalso; omega))
            | refine by_not ?_
            | refine w_drawn (by kernel_rfl) ?_
            | refine new_i' (by rfl) (fun j hj hn => ?_)
            | refine new_i (fun j hn => ?_)
            | refine br_bool (fun hb => ?_) (fun hb => ?_)
            | refine by_bool (fun hb => ?_) (fun hb => ?_)
            | refine by_bool' (fun hb => ?_) (fun hb => ?_))
          exact herr _ _ _ rfl (he.set _ hq' (by simp)) (by repeat' (first | exact Chg.refl _ _ | refine Chg.set ?_ _ (.inl rfl) | refine Chg.set ?_ _ (.inr (by assumption)) | refine Chg.grew ?_ (by assumption) | assumption))
      · have ek : (t.extract 0 k).data.toList = t.data.toList.take k := by rw [extract_list]; rfl
        have ek2 : (t.extract (k + 1) t.size).data.toList = t.data.toList.drop (k + 1) := by rw [extract_list, List.take_of_length_le (by simp)]
        have hk' : k < t.size := by simpa using hk
        rw [h1]
        rw [h2, h3, h4, ← ek, ← ek2] at hok herr
        simp only [if_true] at hok herr
        repeat' (first
          | (simp (disch := first | omega | assumption) only [go_sem, ↓reduceIte, Nat.reduceEqDiff, reduceCtorEq, Nat.reduceAdd, Nat.reduceMul, Int.reduceToNat, Nat.reduceShiftRight, Nat.reduceAnd, Nat.reduceBNe, Nat.reduceBneDiff, Nat.reduceLT, Nat.reduceLeDiff, Int.reduceLT, Int.reduceLE, Int.reduceEq, Int.reduceAdd, Int.reduceSub, *])
          | (refine br_prop (fun hb => ?_) (fun hb => ?_) <;> try (exfalso; omega))
          | refine br_not ?_
          | (refine by_prop (fun hb => ?_) (fun hb => ?_) <;> try (exfalso; omega))
          | (refine by_prop' (fun hb => ?_) (fun hb => ?_) <;> try (exfalso; omega))
          | refine by_not ?_
          | refine w_drawn (by kernel_rfl) ?_
          | refine new_i' (by rfl) (fun j hj hn => ?_)
          | refine new_i (fun j hn => ?_)
          | refine br_bool (fun hb => ?_) (fun hb => ?_)
          | refine by_bool (fun hb => ?_) (fun hb => ?_)
          | refine by_bool' (fun hb => ?_) (fun hb => ?_))
        refine call_i (reg_spec _ _ _ fun v ok hr => ?_)
        cases hreg2 : register (t.extract 0 k).data.toList with
        | none =>
          rw [hreg2] at hr hok herr
          subst hr
          repeat' (first
            | (simp (disch := first | omega | assumption) only [go_sem, ↓reduceIte, Nat.reduceEqDiff, reduceCtorEq, Nat.reduceAdd, Nat.reduceMul, Int.reduceToNat, Nat.reduceShiftRight, Nat.reduceAnd, Nat.reduceBNe, Nat.reduceBneDiff, Nat.reduceLT, Nat.reduceLeDiff, Int.reduceLT, Int.reduceLE, Int.reduceEq, Int.reduceAdd, Int.reduceSub, *])
            | (refine br_prop (fun hb => ?_) (fun hb => ?_) <;> try (exfalso; omega))
            | refine br_not ?_
            | (refine by_prop (fun hb => ?_) (fun hb => ?_) <;> try (exfalso; omega))
            | (refine by_prop' (fun hb => ?_) (fun hb => ?_) <;> try (exfalso; omega))
            | refine by_not ?_
            | refine w_drawn (by kernel_rfl) ?_
            | refine new_i' (by rfl) (fun j hj hn => ?_)
            | refine new_i (fun j hn => ?_)
            | refine br_bool (fun hb => ?_) (fun hb => ?_)
            | refine by_bool (fun hb => ?_) (fun hb => ?_)
            | refine by_bool' (fun hb => ?_) (fun hb => ?_))
          refine call_i (afail_go _ _ _ _ (.refl _) _ fun H' v hg he => ?_)
          repeat' (first
            | (simp (disch := first | omega | assumption) only [go_sem, ↓reduceIte, Nat.reduceEqDiff, reduceCtorEq, Nat.reduceAdd, Nat.reduceMul, Int.reduceToNat, Nat.reduceShiftRight, Nat.reduceAnd, Nat.reduceBNe, Nat.reduceBneDiff, Nat.reduceLT, Nat.reduceLeDiff, Int.reduceLT, Int.reduceLE, Int.reduceEq, Int.reduceAdd, Int.reduceSub, true_and])
            | (refine br_prop (fun hb => ?_) (fun hb => ?_) <;> try (exfalso; omega))
            | refine br_not ?_
            | (refine by_prop (fun hb => ?_) (fun hb => ?_) <;> try (exfalso; omega))
            | (refine by_prop' (fun hb => ?_) (fun hb => ?_) <;> try (exfalso; omega))
            | refine by_not ?_
            | refine w_drawn (by kernel_rfl) ?_
            | refine new_i' (by rfl) (fun j hj hn => ?_)
            | refine new_i (fun j hn => ?_)
            | refine br_bool (fun hb => ?_) (fun hb => ?_)
            | refine by_bool (fun hb => ?_) (fun hb => ?_)
            | refine by_bool' (fun hb => ?_) (fun hb => ?_))
          exact herr _ _ _ rfl he (by repeat' (first | exact Chg.refl _ _ | refine Chg.set ?_ _ (.inl rfl) | refine Chg.set ?_ _ (.inr (by assumption)) | refine Chg.grew ?_ (by assumption) | assumption))
        | some n =>
          rw [hreg2] at hr hok herr
          obtain ⟨rfl, rfl⟩ := hr
          repeat' (first
            | (simp (disch := first | omega | assumption) only [go_sem, ↓reduceIte, Nat.reduceEqDiff, reduceCtorEq, Nat.reduceAdd, Nat.reduceMul, Int.reduceToNat, Nat.reduceShiftRight, Nat.reduceAnd, Nat.reduceBNe, Nat.reduceBneDiff, Nat.reduceLT, Nat.reduceLeDiff, Int.reduceLT, Int.reduceLE, Int.reduceEq, Int.reduceAdd, Int.reduceSub, *])
            | (refine br_prop (fun hb => ?_) (fun hb => ?_) <;> try (exfalso; omega))
            | refine br_not ?_
            | (refine by_prop (fun hb => ?_) (fun hb => ?_) <;> try (exfalso; omega))
            | (refine by_prop' (fun hb => ?_) (fun hb => ?_) <;> try (exfalso; omega))
            | refine by_not ?_
            | refine w_drawn (by kernel_rfl) ?_
            | refine new_i' (by rfl) (fun j hj hn => ?_)
            | refine new_i (fun j hn => ?_)
            | refine br_bool (fun hb => ?_) (fun hb => ?_)
            | refine by_bool (fun hb => ?_) (fun hb => ?_)
            | refine by_bool' (fun hb => ?_) (fun hb => ?_))
          refine call_i (number57 _ _ (by first | omega | (rw [size_ext _ _ _ (by omega) (by omega)]; omega)) _ _ (.refl _) _ (fun v hv hb => ?_) fun H' e er hv hg he => ?_)
          · rw [hv] at hok
            repeat' (first
              | (simp (disch := first | omega | assumption) only [go_sem, ↓reduceIte, Nat.reduceEqDiff, reduceCtorEq, Nat.reduceAdd, Nat.reduceMul, Int.reduceToNat, Nat.reduceShiftRight, Nat.reduceAnd, Nat.reduceBNe, Nat.reduceBneDiff, Nat.reduceLT, Nat.reduceLeDiff, Int.reduceLT, Int.reduceLE, Int.reduceEq, Int.reduceAdd, Int.reduceSub, true_and, AHeap.set_same])
              | (refine br_prop (fun hb => ?_) (fun hb => ?_) <;> try (exfalso; omega))
              | refine br_not ?_
              | (refine by_prop (fun hb => ?_) (fun hb => ?_) <;> try (exfalso; omega))
              | (refine by_prop' (fun hb => ?_) (fun hb => ?_) <;> try (exfalso; omega))
              | refine by_not ?_
              | refine w_drawn (by kernel_rfl) ?_
              | refine new_i' (by rfl) (fun j hj hn => ?_)
              | refine new_i (fun j hn => ?_)
              | refine br_bool (fun hb => ?_) (fun hb => ?_)
              | refine by_bool (fun hb => ?_) (fun hb => ?_)
              | refine by_bool' (fun hb => ?_) (fun hb => ?_))
            exact hok _ _ rfl (AHeap.set_same _ _ _) (by repeat' (first | exact Chg.refl _ _ | refine Chg.set ?_ _ (.inl rfl) | refine Chg.set ?_ _ (.inr (by assumption)) | refine Chg.grew ?_ (by assumption) | assumption))
          · rw [hv] at herr
            have hq' := (hg.get (j := q) (by rw [AHeap.set_same]; rfl)).trans (AHeap.set_same _ _ _)
            repeat' (first
              | (simp (disch := first | omega | assumption) only [go_sem, ↓reduceIte, Nat.reduceEqDiff, reduceCtorEq, Nat.reduceAdd, Nat.reduceMul, Int.reduceToNat, Nat.reduceShiftRight, Nat.reduceAnd, Nat.reduceBNe, Nat.reduceBneDiff, Nat.reduceLT, Nat.reduceLeDiff, Int.reduceLT, Int.reduceLE, Int.reduceEq, Int.reduceAdd, Int.reduceSub, *])
              | (refine br_prop (fun hb => ?_) (fun hb => ?_) <;> try (exfalso; omega))
              | refine br_not ?_
              | (refine by_prop (fun hb => ?_) (fun hb => ?_) <;> try (exfalso; omega))
              | (refine by_prop' (fun hb => ?_) (fun hb => ?_) <;> try (exfalso; omega))
              | refine by_not ?_
              | refine w_drawn (by kernel_rfl) ?_
              | refine new_i' (by rfl) (fun j hj hn => ?_)
              | refine new_i (fun j hn => ?_)
              | refine br_bool (fun hb => ?_) (fun hb => ?_)
              | refine by_bool (fun hb => ?_) (fun hb => ?_)
              | refine by_bool' (fun hb => ?_) (fun hb => ?_))
            exact herr _ _ _ rfl (he.set _ hq' (by simp)) (by repeat' (first | exact Chg.refl _ _ | refine Chg.set ?_ _ (.inl rfl) | refine Chg.set ?_ _ (.inr (by assumption)) | refine Chg.grew ?_ (by assumption) | assumption))
theorem suf_len {a b : UInt8} {t : ByteArray} (h : ([a, b] : Bytes).isSuffixOf t.data.toList = true) : 2 ≤ t.size := by
  rw [List.isSuffixOf_iff_suffix] at h
  have := h.length_le
  simpa using this
theorem mark38 (q : Nat) (x : Ins) (s : ByteArray) (line : Int) (h1 : 1 ≤ s.size) (hs : s.size ≤ 1000000) (H : AHeap) (hq : H q = .cells (encI x)) (K : Value → AHeap → Prop) (hok : ∀ H' y, AsmM.mark x s.data.toList line = .ok y → H' q = .cells (encI y) → Chg (· = q) H H' → K .nilIface H')
    (herr : ∀ H' e er, AsmM.mark x s.data.toList line = .error er → ErrR H' e er → Chg (· = q) H H' → K e H') : ACalls Tryd.prog 38 #[.pointer (some ⟨q, 0, none⟩), .string s, .int .i64 line] H K := by
  have et : s.data.toList.tail = (s.extract 1 s.size).data.toList := by rw [extract_list, ← List.drop_one, List.take_of_length_le (by simp)]
  unfold AsmM.mark at hok herr
  rw [et] at hok herr
  unfold encI at hq
  have hts : (s.extract 1 s.size).size ≤ 1000000 := by rw [size_ext _ _ _ (by omega) (by omega)]; omega
  refine w_enter (args := [.pointer (some ⟨q, 0, none⟩), .string s, .int .i64 line]) Tryd.func38 rfl (by kernel_rfl) D.mixed (by kernel_rfl) (rs := [.tmp 6]) rfl ?_
  repeat' (first
    | (simp (disch := first | omega | assumption) only [go_sem, ↓reduceIte, Nat.reduceEqDiff, reduceCtorEq, Nat.reduceAdd, Nat.reduceMul, Int.reduceToNat, Nat.reduceShiftRight, Nat.reduceAnd, Nat.reduceBNe, Nat.reduceBneDiff, Nat.reduceLT, Nat.reduceLeDiff, Int.reduceLT, Int.reduceLE, Int.reduceEq, Int.reduceAdd, Int.reduceSub, *])
    | (refine br_prop (fun hb => ?_) (fun hb => ?_) <;> try (exfalso; omega))
    | refine br_not ?_
    | (refine by_prop (fun hb => ?_) (fun hb => ?_) <;> try (exfalso; omega))
    | (refine by_prop' (fun hb => ?_) (fun hb => ?_) <;> try (exfalso; omega))
    | refine by_not ?_
    | refine w_drawn (by kernel_rfl) ?_
    | refine new_i' (by rfl) (fun j hj hn => ?_)
    | refine new_i (fun j hn => ?_)
    | refine br_bool (fun hb => ?_) (fun hb => ?_)
    | refine by_bool (fun hb => ?_) (fun hb => ?_)
    | refine by_bool' (fun hb => ?_) (fun hb => ?_))
  generalize s.extract 1 s.size = t at *
  have el : t.data.toList.length = t.size := by simp
  refine call_i (suffix59 _ _ hts _ _ ?_)
  have c1 : (⟨#[61, 48]⟩ : ByteArray).data.toList = [61, 48] := rfl
  have c2 : (⟨#[62, 48]⟩ : ByteArray).data.toList = [62, 48] := rfl
  rw [c1]
  have fin : ∀ (u : ByteArray) (w : Int), ending t.data.toList x.w = (w, u.data.toList) → u.size ≤ 1000000 → True := fun _ _ _ _ => trivial
  have key : ([61, 48].isSuffixOf t.data.toList = true ∧ 2 ≤ t.size ∧ ending t.data.toList x.w = (1, (t.extract 0 (t.size - 2)).data.toList)) ∨ ([61, 48].isSuffixOf t.data.toList = false ∧ [62, 48].isSuffixOf t.data.toList = true ∧ 2 ≤ t.size ∧ ending t.data.toList x.w = (2, (t.extract 0 (t.size - 2)).data.toList)) ∨ ([61, 48].isSuffixOf t.data.toList = false ∧ [62, 48].isSuffixOf t.data.toList = false ∧ ending t.data.toList x.w = (x.w, t.data.toList)) := by
    have ee : (t.extract 0 (t.size - 2)).data.toList = t.data.toList.take (t.data.toList.length - 2) := by rw [extract_list, el]; rfl
    rw [ee]
    unfold ending
    by_cases ha : [61, 48].isSuffixOf t.data.toList = true
    · exact .inl ⟨ha, suf_len ha, by rw [if_pos ha]⟩
    · by_cases hb : [62, 48].isSuffixOf t.data.toList = true
      · exact .inr (.inl ⟨Bool.eq_false_iff.2 ha, hb, suf_len hb, by rw [if_neg ha, if_pos hb]⟩)
      · exact .inr (.inr ⟨Bool.eq_false_iff.2 ha, Bool.eq_false_iff.2 hb, by rw [if_neg ha, if_neg hb]⟩)
  clear fin
  rcases key with ⟨ha, h2, he⟩ | ⟨ha, hb, h2, he⟩ | ⟨ha, hb, he⟩
  all_goals
    rw [he] at hok herr
    clear he
    rw [ha]
    repeat' (first
      | (simp (disch := first | omega | assumption) only [go_sem, ↓reduceIte, Nat.reduceEqDiff, reduceCtorEq, Nat.reduceAdd, Nat.reduceMul, Int.reduceToNat, Nat.reduceShiftRight, Nat.reduceAnd, Nat.reduceBNe, Nat.reduceBneDiff, Nat.reduceLT, Nat.reduceLeDiff, Int.reduceLT, Int.reduceLE, Int.reduceEq, Int.reduceAdd, Int.reduceSub, *])
      | (refine br_prop (fun hb => ?_) (fun hb => ?_) <;> try (exfalso; omega))
      | refine br_not ?_
      | (refine by_prop (fun hb => ?_) (fun hb => ?_) <;> try (exfalso; omega))
      | (refine by_prop' (fun hb => ?_) (fun hb => ?_) <;> try (exfalso; omega))
      | refine by_not ?_
      | refine w_drawn (by kernel_rfl) ?_
      | refine new_i' (by rfl) (fun j hj hn => ?_)
      | refine new_i (fun j hn => ?_)
      | refine br_bool (fun hb => ?_) (fun hb => ?_)
      | refine by_bool (fun hb => ?_) (fun hb => ?_)
      | refine by_bool' (fun hb => ?_) (fun hb => ?_))
  all_goals try (refine call_i (suffix59 _ _ hts _ _ ?_); rw [c2, hb])
  all_goals
    repeat' (first
      | (simp (disch := first | omega | assumption) only [go_sem, ↓reduceIte, Nat.reduceEqDiff, reduceCtorEq, Nat.reduceAdd, Nat.reduceMul, Int.reduceToNat, Nat.reduceShiftRight, Nat.reduceAnd, Nat.reduceBNe, Nat.reduceBneDiff, Nat.reduceLT, Nat.reduceLeDiff, Int.reduceLT, Int.reduceLE, Int.reduceEq, Int.reduceAdd, Int.reduceSub, *])
      | (refine br_prop (fun hb => ?_) (fun hb => ?_) <;> try (exfalso; omega))
      | refine br_not ?_
      | (refine by_prop (fun hb => ?_) (fun hb => ?_) <;> try (exfalso; omega))
      | (refine by_prop' (fun hb => ?_) (fun hb => ?_) <;> try (exfalso; omega))
      | refine by_not ?_
      | refine w_drawn (by kernel_rfl) ?_
      | refine new_i' (by rfl) (fun j hj hn => ?_)
      | refine new_i (fun j hn => ?_)
      | refine br_bool (fun hb => ?_) (fun hb => ?_)
      | refine by_bool (fun hb => ?_) (fun hb => ?_)
      | refine by_bool' (fun hb => ?_) (fun hb => ?_))
    refine call_i (number57 _ _ (by first | omega | (rw [size_ext _ _ _ (by omega) (by omega)]; omega)) _ _ (.refl _) _ (fun v hv hb => ?_) fun H' e er hv hg he => ?_)
  all_goals rw [hv] at hok herr
  all_goals try obtain ⟨ie, rfl⟩ := he.ptr
  all_goals
    repeat' (first
      | (simp (disch := first | omega | assumption) only [go_sem, ↓reduceIte, Nat.reduceEqDiff, reduceCtorEq, Nat.reduceAdd, Nat.reduceMul, Int.reduceToNat, Nat.reduceShiftRight, Nat.reduceAnd, Nat.reduceBNe, Nat.reduceBneDiff, Nat.reduceLT, Nat.reduceLeDiff, Int.reduceLT, Int.reduceLE, Int.reduceEq, Int.reduceAdd, Int.reduceSub, *])
      | (refine br_prop (fun hb => ?_) (fun hb => ?_) <;> try (exfalso; omega))
      | refine br_not ?_
      | (refine by_prop (fun hb => ?_) (fun hb => ?_) <;> try (exfalso; omega))
      | (refine by_prop' (fun hb => ?_) (fun hb => ?_) <;> try (exfalso; omega))
      | refine by_not ?_
      | refine w_drawn (by kernel_rfl) ?_
      | refine new_i' (by rfl) (fun j hj hn => ?_)
      | refine new_i (fun j hn => ?_)
      | refine br_bool (fun hb => ?_) (fun hb => ?_)
      | refine by_bool (fun hb => ?_) (fun hb => ?_)
      | refine by_bool' (fun hb => ?_) (fun hb => ?_))
  all_goals first
    | exact hok _ _ (by show (if _ then _ else _) = _; rw [if_neg (by omega)]) (AHeap.set_same _ _ _) (by repeat' (first | exact Chg.refl _ _ | refine Chg.set ?_ _ (.inl rfl) | refine Chg.set ?_ _ (.inr (by assumption)) | refine Chg.grew ?_ (by assumption) | assumption))
    | exact herr _ _ _ rfl he (by repeat' (first | exact Chg.refl _ _ | refine Chg.set ?_ _ (.inl rfl) | refine Chg.set ?_ _ (.inr (by assumption)) | refine Chg.grew ?_ (by assumption) | assumption))
    | refine call_i (afail_go _ _ _ _ (.refl _) _ fun H' e hg he => ?_)
  all_goals
    repeat' (first
      | (simp (disch := first | omega | assumption) only [go_sem, ↓reduceIte, Nat.reduceEqDiff, reduceCtorEq, Nat.reduceAdd, Nat.reduceMul, Int.reduceToNat, Nat.reduceShiftRight, Nat.reduceAnd, Nat.reduceBNe, Nat.reduceBneDiff, Nat.reduceLT, Nat.reduceLeDiff, Int.reduceLT, Int.reduceLE, Int.reduceEq, Int.reduceAdd, Int.reduceSub, true_and])
      | (refine br_prop (fun hb => ?_) (fun hb => ?_) <;> try (exfalso; omega))
      | refine br_not ?_
      | (refine by_prop (fun hb => ?_) (fun hb => ?_) <;> try (exfalso; omega))
      | (refine by_prop' (fun hb => ?_) (fun hb => ?_) <;> try (exfalso; omega))
      | refine by_not ?_
      | refine w_drawn (by kernel_rfl) ?_
      | refine new_i' (by rfl) (fun j hj hn => ?_)
      | refine new_i (fun j hn => ?_)
      | refine br_bool (fun hb => ?_) (fun hb => ?_)
      | refine by_bool (fun hb => ?_) (fun hb => ?_)
      | refine by_bool' (fun hb => ?_) (fun hb => ?_))
    exact herr _ _ _ (by show (if _ then _ else _) = _; rw [if_pos (by omega)]; rfl) he (by repeat' (first | exact Chg.refl _ _ | refine Chg.set ?_ _ (.inl rfl) | refine Chg.set ?_ _ (.inr (by assumption)) | refine Chg.grew ?_ (by assumption) | assumption))
end Go.Proofs
