/-
  A part of the proofs: GC GD GE.
-/
import Derived.Test.YtnbfimppgcoajaaDoorDT
import Derived.Test.YtnbfimppgcoajaaDoorAbS
import Derived.Test.YtnbfimppgcoajaaDoorAbEq
import Derived.Test.YtnbfimppgcoajaaDoorPT
import Derived.Test.YtnbfimppgcoajaaDoorPA
import Derived.Test.YtnbfimppgcoajaaDoorPGA
import Derived.Test.YtnbfimppgcoajaaDoorEA
import Derived.Test.YtnbfimppgcoajaaDoorEC
namespace Go.Proofs
set_option linter.unusedSimpArgs false
set_option linter.unusedVariables false
set_option linter.unusedSectionVars false
open Go Go.Ab AsmM
variable [Go.Ab.Start]
set_option maxRecDepth 100000
set_option maxHeartbeats 1000000
theorem register74 (n : Int) (used less : Bool) (H : AHeap) (K : Value → AHeap → Prop) (hk : K (.bool (regOk n used less)) H) : ACalls Tryd.prog 74 #[.int .i64 n, .bool used, .bool less] H K := by
  replace hk := Hd.mk hk
  refine w_enter (args := [.int .i64 n, .bool used, .bool less]) Tryd.func74 rfl (by kernel_rfl) D.mixed (by kernel_rfl) (rs := [.tmp 6]) rfl ?_
  cases used <;> cases less
  all_goals
    repeat' (first
      | (simp (disch := first | omega | assumption) only [go_sem, ↓reduceIte, Nat.reduceEqDiff, reduceCtorEq, Nat.reduceAdd, Nat.reduceMul, Int.reduceToNat, Nat.reduceShiftRight, Nat.reduceAnd, Nat.reduceBNe, Nat.reduceBneDiff, Nat.reduceLT, Nat.reduceLeDiff, Int.reduceLT, Int.reduceLE, Int.reduceEq, Int.reduceAdd, Int.reduceSub, *])
      | (refine br_prop (fun hb => ?_) (fun hb => ?_) <;> try (exfalso; omega))
      | refine br_not ?_
      | (refine by_prop (fun hb => ?_) (fun hb => ?_) <;> try (exfalso; omega))
      | (refine by_prop' (fun hb => ?_) (fun hb => ?_) <;> try (exfalso; omega))
      | refine by_not ?_
      | refine w_drawn (by kernel_rfl) ?_
      | refine new_i' (by rfl) (fun j hj hn => ?_)
      | refine new_i (fun j hn => ?_)
      | refine br_bool (fun hb => ?_) (fun hb => ?_)
      | refine by_bool (fun hb => ?_) (fun hb => ?_)
      | refine by_bool' (fun hb => ?_) (fun hb => ?_))
  all_goals
    have kb : ∀ b : Bool, b = regOk n _ _ → K (.bool b) H := fun b hb => hb ▸ hk.go
    refine kb _ ?_
    unfold regOk
    rw [Bool.eq_iff_iff]
    simp only [Bool.true_and, Bool.false_and, Bool.not_true, Bool.not_false, Bool.or_false, Bool.false_or, Bool.or_eq_true, Bool.and_eq_true, decide_eq_true_eq, Bool.false_eq_true, false_iff, true_iff]
    try omega
theorem number75 (x : Ins) (used : Bool) (n : Int) (hv : 0 ≤ x.v ∧ x.v < 18446744073709551616) (hnn : 0 ≤ n ∧ n < 9223372036854775808) (H : AHeap) (K : Value → AHeap → Prop) (hk : ∀ H', Grew H H' → K (.bool (numOk x used n)) H') : ACalls Tryd.prog 75 #[insV x, .bool used, .int .i64 n] H K := by
  replace hk := Hd.mk hk
  unfold insV
  refine w_enter (args := [.agg #[.int .i64 x.op, .int .i64 x.a, .int .i64 x.b, .int .i64 x.c, .int .u64 x.v, .int .i64 x.m, .int .i64 x.w], .bool used, .int .i64 n]) Tryd.func75 rfl (by kernel_rfl) D.mixed (by kernel_rfl) (rs := [.tmp 6]) rfl ?_
  have hv0 := hv.1
  have hv1 := hv.2
  have hn0 := hnn.1
  have hn1 := hnn.2
  cases used
  all_goals
    repeat' (first
      | (simp (disch := first | omega | assumption) only [go_sem, ↓reduceIte, Nat.reduceEqDiff, reduceCtorEq, Nat.reduceAdd, Nat.reduceMul, Int.reduceToNat, Nat.reduceShiftRight, Nat.reduceAnd, Nat.reduceBNe, Nat.reduceBneDiff, Nat.reduceLT, Nat.reduceLeDiff, Int.reduceLT, Int.reduceLE, Int.reduceEq, Int.reduceAdd, Int.reduceSub, *])
      | (refine br_prop (fun hb => ?_) (fun hb => ?_) <;> try (exfalso; omega))
      | refine br_not ?_
      | (refine by_prop (fun hb => ?_) (fun hb => ?_) <;> try (exfalso; omega))
      | (refine by_prop' (fun hb => ?_) (fun hb => ?_) <;> try (exfalso; omega))
      | refine by_not ?_
      | refine w_drawn (by kernel_rfl) ?_
      | refine new_i' (by rfl) (fun j hj hn => ?_)
      | refine new_i (fun j hn => ?_)
      | refine br_bool (fun hb => ?_) (fun hb => ?_)
      | refine by_bool (fun hb => ?_) (fun hb => ?_)
      | refine by_bool' (fun hb => ?_) (fun hb => ?_))
  all_goals
    have kb : ∀ (b : Bool) (o : AObj), b = numOk x _ n → K (.bool b) (H.set j o) := fun b o hb => hb ▸ hk.go _ ((Grew.refl H).new _ hn)
    refine kb _ _ ?_
    unfold numOk
    repeat' (first | rw [if_pos (by omega)] | rw [if_neg (by omega)])
    all_goals first
      | rfl
      | (rw [Bool.eq_iff_iff]
         simp only [Bool.true_or, Bool.false_or, Bool.or_eq_true, decide_eq_true_eq, Bool.false_eq_true, false_iff, true_iff]
         omega)
end Go.Proofs
namespace Go.Proofs
set_option linter.unusedSimpArgs false
set_option linter.unusedVariables false
set_option linter.unusedSectionVars false
open Go Go.Ab AsmM
variable [Go.Ab.Start]
set_option maxRecDepth 100000
set_option maxHeartbeats 1000000
theorem may65 (x : Ins) (n : Int) (lb : Bool) (hv : 0 ≤ x.v ∧ x.v < 18446744073709551616) (hnn : 0 ≤ n ∧ n < 9223372036854775808) (H : AHeap) (K : Value → AHeap → Prop) (hk : ∀ H', Grew H H' → K (.bool (may x n lb)) H') : ACalls Tryd.prog 65 #[insV x, .int .i64 n, .bool lb] H K := by
  replace hk := Hd.mk hk
  unfold insV
  refine w_enter (args := [.agg #[.int .i64 x.op, .int .i64 x.a, .int .i64 x.b, .int .i64 x.c, .int .u64 x.v, .int .i64 x.m, .int .i64 x.w], .int .i64 n, .bool lb]) Tryd.func65 rfl (by kernel_rfl) D.mixed (by kernel_rfl) (rs := [.tmp 6]) rfl ?_
  replace hv := Hd.mk hv
  replace hnn := Hd.mk hnn
  have hmay : ∀ (b : Bool), b = may x n lb → ∀ H', Grew H H' → K (.bool b) H' := fun b hb H' hg => hb ▸ hk.go H' hg
  replace hmay := Hd.mk hmay
  obtain ⟨fl, hfl⟩ : ∃ fl, fl = fields x.op := ⟨_, rfl⟩
  obtain ⟨fa, fb, fc, fv⟩ := fl
  have hfe := fields46 x.op
  rw [← hfl] at hfe
  replace hfe := Hd.mk hfe
  replace hfl := Hd.mk hfl
  cases lb
  all_goals
    repeat' (first
      | (simp (disch := first | omega | assumption) only [go_sem, ↓reduceIte, Nat.reduceEqDiff, reduceCtorEq, Nat.reduceAdd, Nat.reduceMul, Int.reduceToNat, Nat.reduceShiftRight, Nat.reduceAnd, Nat.reduceBNe, Nat.reduceBneDiff, Nat.reduceLT, Nat.reduceLeDiff, Int.reduceLT, Int.reduceLE, Int.reduceEq, Int.reduceAdd, Int.reduceSub, *])
      | (refine br_prop (fun hb => ?_) (fun hb => ?_) <;> try (exfalso; omega))
      | refine br_not ?_
      | (refine by_prop (fun hb => ?_) (fun hb => ?_) <;> try (exfalso; omega))
      | (refine by_prop' (fun hb => ?_) (fun hb => ?_) <;> try (exfalso; omega))
      | refine by_not ?_
      | refine w_drawn (by kernel_rfl) ?_
      | refine new_i' (by rfl) (fun j hj hn => ?_)
      | refine new_i (fun j hn => ?_)
      | refine br_bool (fun hb => ?_) (fun hb => ?_)
      | refine by_bool (fun hb => ?_) (fun hb => ?_)
      | refine by_bool' (fun hb => ?_) (fun hb => ?_))
  all_goals first
    | refine call_i (hfe.go _ _ ?_)
    | (refine hmay.go false ?_ _ ((Grew.refl H).new _ hn)
       unfold may
       rw [if_pos (by simp only [true_and, and_true, false_and, or_false, Bool.false_eq_true, reduceCtorEq]; omega)])
  all_goals
    refine W.cutO (fun e H' => Grew H H' ∧ H' j = .cells [.int .i64 x.op, .int .i64 x.a, .int .i64 x.b, .int .i64 x.c, .int .u64 x.v, .int .i64 x.m, .int .i64 x.w] ∧ e 3 = .pointer (some ⟨j, 0, none⟩) ∧ e 1 = .int .i64 n ∧ e 7 = .bool fa ∧ e 8 = .bool fb ∧ e 9 = .bool fc ∧ e 10 = .bool fv) (fun J hJ => ?_) ?_
    · repeat' (first
        | (simp (disch := first | omega | assumption) only [go_sem, ↓reduceIte, Nat.reduceEqDiff, reduceCtorEq, Nat.reduceAdd, Nat.reduceMul, Int.reduceToNat, Nat.reduceShiftRight, Nat.reduceAnd, Nat.reduceBNe, Nat.reduceBneDiff, Nat.reduceLT, Nat.reduceLeDiff, Int.reduceLT, Int.reduceLE, Int.reduceEq, Int.reduceAdd, Int.reduceSub, *])
        | (refine br_prop (fun hb => ?_) (fun hb => ?_) <;> try (exfalso; omega))
        | refine br_not ?_
        | (refine by_prop (fun hb => ?_) (fun hb => ?_) <;> try (exfalso; omega))
        | (refine by_prop' (fun hb => ?_) (fun hb => ?_) <;> try (exfalso; omega))
        | refine by_not ?_
        | refine w_drawn (by kernel_rfl) ?_
        | refine new_i' (by rfl) (fun j hj hn => ?_)
        | refine new_i (fun j hn => ?_)
        | refine br_bool (fun hb => ?_) (fun hb => ?_)
        | refine by_bool (fun hb => ?_) (fun hb => ?_)
        | refine by_bool' (fun hb => ?_) (fun hb => ?_))
      exact inv_i (hJ.go _ _ ⟨(Grew.refl H).new _ hn, by first | exact AHeap.set_same _ _ _ | (rw [AHeap.set_same, show x.m = 0 by omega]), by first | rfl | assumption, by first | rfl | assumption, by first | rfl | assumption, by first | rfl | assumption, by first | rfl | assumption, by first | rfl | assumption⟩)
    clear hn
    rintro e Hc ⟨hG, hHj, e3, e1, e7, e8, e9, e10⟩
    replace hG := Hd.mk hG
    rw [w_seq]
    refine W.cutC (fun e H' => H' = Hc ∧ e 3 = .pointer (some ⟨j, 0, none⟩) ∧ e 1 = .int .i64 n ∧ e 7 = .bool fa ∧ e 8 = .bool fb ∧ e 9 = .bool fc ∧ e 10 = .bool fv ∧ e 11 = .bool false ∧ e 12 = .bool false) (fun J hJ => ?_) ?_
    · repeat' (first
        | (simp (disch := first | omega | assumption) only [go_sem, ↓reduceIte, Nat.reduceEqDiff, reduceCtorEq, Nat.reduceAdd, Nat.reduceMul, Int.reduceToNat, Nat.reduceShiftRight, Nat.reduceAnd, Nat.reduceBNe, Nat.reduceBneDiff, Nat.reduceLT, Nat.reduceLeDiff, Int.reduceLT, Int.reduceLE, Int.reduceEq, Int.reduceAdd, Int.reduceSub, *])
        | (refine br_prop (fun hb => ?_) (fun hb => ?_) <;> try (exfalso; omega))
        | refine br_not ?_
        | (refine by_prop (fun hb => ?_) (fun hb => ?_) <;> try (exfalso; omega))
        | (refine by_prop' (fun hb => ?_) (fun hb => ?_) <;> try (exfalso; omega))
        | refine by_not ?_
        | refine w_drawn (by kernel_rfl) ?_
        | refine new_i' (by rfl) (fun j hj hn => ?_)
        | refine new_i (fun j hn => ?_)
        | refine br_bool (fun hb => ?_) (fun hb => ?_)
        | refine by_bool (fun hb => ?_) (fun hb => ?_)
        | refine by_bool' (fun hb => ?_) (fun hb => ?_))
      exact inv_i (hJ.go _ _ ⟨rfl, by first | rfl | assumption, by first | rfl | assumption, by first | rfl | assumption, by first | rfl | assumption, by first | rfl | assumption, by first | rfl | assumption, by first | rfl | assumption, by first | rfl | assumption⟩)
    clear e3 e1 e7 e8 e9 e10
    rintro e Hc2 ⟨hHc, e3, e1, e7, e8, e9, e10, e11, e12⟩
    subst hHc
    rw [w_seq]
    refine W.cutC (fun e H' => H' = Hc2 ∧ e 3 = .pointer (some ⟨j, 0, none⟩) ∧ e 1 = .int .i64 n ∧ e 7 = .bool fa ∧ e 8 = .bool fb ∧ e 9 = .bool fc ∧ e 10 = .bool fv ∧ e 11 = .bool (lessB x.op) ∧ e 12 = .bool (lessC x.op)) (fun J hJ => ?_) ?_
    · repeat' (first
        | (simp (disch := first | omega | assumption) only [go_sem, ↓reduceIte, Nat.reduceEqDiff, reduceCtorEq, Nat.reduceAdd, Nat.reduceMul, Int.reduceToNat, Nat.reduceShiftRight, Nat.reduceAnd, Nat.reduceBNe, Nat.reduceBneDiff, Nat.reduceLT, Nat.reduceLeDiff, Int.reduceLT, Int.reduceLE, Int.reduceEq, Int.reduceAdd, Int.reduceSub, *])
        | (refine br_prop (fun hb => ?_) (fun hb => ?_) <;> try (exfalso; omega))
        | refine br_not ?_
        | (refine by_prop (fun hb => ?_) (fun hb => ?_) <;> try (exfalso; omega))
        | (refine by_prop' (fun hb => ?_) (fun hb => ?_) <;> try (exfalso; omega))
        | refine by_not ?_
        | refine w_drawn (by kernel_rfl) ?_
        | refine new_i' (by rfl) (fun j hj hn => ?_)
        | refine new_i (fun j hn => ?_)
        | refine br_bool (fun hb => ?_) (fun hb => ?_)
        | refine by_bool (fun hb => ?_) (fun hb => ?_)
        | refine by_bool' (fun hb => ?_) (fun hb => ?_))
      all_goals
        have hB : ∀ b : Bool, b = lessB x.op → Value.bool b = .bool (lessB x.op) := fun b hb => by rw [hb]
        have hC : ∀ b : Bool, b = lessC x.op → Value.bool b = .bool (lessC x.op) := fun b hb => by rw [hb]
        refine inv_i (hJ.go _ _ ⟨rfl, by first | rfl | assumption, by first | rfl | assumption, by first | rfl | assumption, by first | rfl | assumption, by first | rfl | assumption, by first | rfl | assumption, ?_, ?_⟩)
        · first | refine (show Value.bool _ = _ from hB _ ?_) | refine Eq.trans e11 (hB _ ?_)
          unfold lessB
          rw [Bool.eq_iff_iff]
          simp only [decide_eq_true_eq, Bool.false_eq_true, false_iff, true_iff]
          omega
        · first | refine (show Value.bool _ = _ from hC _ ?_) | refine Eq.trans e12 (hC _ ?_)
          unfold lessC
          rw [Bool.eq_iff_iff]
          simp only [decide_eq_true_eq, Bool.false_eq_true, false_iff, true_iff]
          omega
    clear e3 e1 e7 e8 e9 e10 e11 e12
    rintro e Hc3 ⟨hHc, e3, e1, e7, e8, e9, e10, e11, e12⟩
    subst hHc
    have hcond : ∀ l : Bool, ¬ (x.op < 1 ∨ 58 < x.op ∨ (l = true ∧ x.op = 22) ∨ (l = false ∧ (22 < x.op ∨ x.m ≠ 0))) → may x n l = (if (regOk x.a fa false && regOk x.b fb (lessB x.op) && regOk x.c fc (lessC x.op) && numOk x fv n) = false then false else decide (0 ≤ x.m) && decide (x.m ≤ 99) && decide (0 ≤ x.w) && decide (x.w ≤ 2) && (decide (x.w = 0) || (decide (0 < x.m) && fa))) := by
      intro l hl
      unfold may
      rw [if_neg hl, ← hfl.go]
    rw [hcond _ (by rintro (h | h | ⟨h, h2⟩ | ⟨h, h2 | h2⟩) <;> first | omega | (cases h; done))] at hmay
    clear hcond
    repeat' (first
      | (simp (disch := first | omega | assumption) only [go_sem, ↓reduceIte, Nat.reduceEqDiff, reduceCtorEq, Nat.reduceAdd, Nat.reduceMul, Int.reduceToNat, Nat.reduceShiftRight, Nat.reduceAnd, Nat.reduceBNe, Nat.reduceBneDiff, Nat.reduceLT, Nat.reduceLeDiff, Int.reduceLT, Int.reduceLE, Int.reduceEq, Int.reduceAdd, Int.reduceSub, *])
      | (refine br_prop (fun hb => ?_) (fun hb => ?_) <;> try (exfalso; omega))
      | refine br_not ?_
      | (refine by_prop (fun hb => ?_) (fun hb => ?_) <;> try (exfalso; omega))
      | (refine by_prop' (fun hb => ?_) (fun hb => ?_) <;> try (exfalso; omega))
      | refine by_not ?_
      | refine w_drawn (by kernel_rfl) ?_
      | refine new_i' (by rfl) (fun j hj hn => ?_)
      | refine new_i (fun j hn => ?_)
      | refine br_bool (fun hb => ?_) (fun hb => ?_)
      | refine by_bool (fun hb => ?_) (fun hb => ?_)
      | refine by_bool' (fun hb => ?_) (fun hb => ?_))
    refine call_i (register74 _ _ _ _ _ ?_)
    have hnb : ∀ (H' : AHeap), Grew Hc3 H' → Grew H H' := fun H' h => hG.go.trans h
    replace hnb := Hd.mk hnb
    have hfalse : ∀ H', Grew Hc3 H' → (regOk x.a fa false && regOk x.b fb (lessB x.op) && regOk x.c fc (lessC x.op) && numOk x fv n) = false → K (.bool false) H' := fun H' h hc => hmay.go false (by rw [if_pos hc]) H' (hnb.go H' h)
    have htrue : ∀ (b : Bool) H', Grew Hc3 H' → (regOk x.a fa false && regOk x.b fb (lessB x.op) && regOk x.c fc (lessC x.op) && numOk x fv n) = true → b = (decide (0 ≤ x.m) && decide (x.m ≤ 99) && decide (0 ≤ x.w) && decide (x.w ≤ 2) && (decide (x.w = 0) || (decide (0 < x.m) && fa))) → K (.bool b) H' := fun b H' h hc hb => hmay.go b (by rw [if_neg (by rw [hc]; simp)]; exact hb) H' (hnb.go H' h)
    replace hfalse := Hd.mk hfalse
    replace htrue := Hd.mk htrue
    cases ra : regOk x.a fa false with
    | false =>
      rw [ra] at hfalse
      repeat' (first
        | (simp (disch := first | omega | assumption) only [go_sem, ↓reduceIte, Nat.reduceEqDiff, reduceCtorEq, Nat.reduceAdd, Nat.reduceMul, Int.reduceToNat, Nat.reduceShiftRight, Nat.reduceAnd, Nat.reduceBNe, Nat.reduceBneDiff, Nat.reduceLT, Nat.reduceLeDiff, Int.reduceLT, Int.reduceLE, Int.reduceEq, Int.reduceAdd, Int.reduceSub, *])
        | (refine br_prop (fun hb => ?_) (fun hb => ?_) <;> try (exfalso; omega))
        | refine br_not ?_
        | (refine by_prop (fun hb => ?_) (fun hb => ?_) <;> try (exfalso; omega))
        | (refine by_prop' (fun hb => ?_) (fun hb => ?_) <;> try (exfalso; omega))
        | refine by_not ?_
        | refine w_drawn (by kernel_rfl) ?_
        | refine new_i' (by rfl) (fun j hj hn => ?_)
        | refine new_i (fun j hn => ?_)
        | refine br_bool (fun hb => ?_) (fun hb => ?_)
        | refine by_bool (fun hb => ?_) (fun hb => ?_)
        | refine by_bool' (fun hb => ?_) (fun hb => ?_))
      exact hfalse.go _ (.refl _) rfl
    | true =>
      rw [ra] at hfalse htrue
      repeat' (first
        | (simp (disch := first | omega | assumption) only [go_sem, ↓reduceIte, Nat.reduceEqDiff, reduceCtorEq, Nat.reduceAdd, Nat.reduceMul, Int.reduceToNat, Nat.reduceShiftRight, Nat.reduceAnd, Nat.reduceBNe, Nat.reduceBneDiff, Nat.reduceLT, Nat.reduceLeDiff, Int.reduceLT, Int.reduceLE, Int.reduceEq, Int.reduceAdd, Int.reduceSub, *])
        | (refine br_prop (fun hb => ?_) (fun hb => ?_) <;> try (exfalso; omega))
        | refine br_not ?_
        | (refine by_prop (fun hb => ?_) (fun hb => ?_) <;> try (exfalso; omega))
        | (refine by_prop' (fun hb => ?_) (fun hb => ?_) <;> try (exfalso; omega))
        | refine by_not ?_
        | refine w_drawn (by kernel_rfl) ?_
        | refine new_i' (by rfl) (fun j hj hn => ?_)
        | refine new_i (fun j hn => ?_)
        | refine br_bool (fun hb => ?_) (fun hb => ?_)
        | refine by_bool (fun hb => ?_) (fun hb => ?_)
        | refine by_bool' (fun hb => ?_) (fun hb => ?_))
      refine call_i (register74 _ _ _ _ _ ?_)
      cases rb : regOk x.b fb (lessB x.op) with
      | false =>
        rw [rb] at hfalse
        repeat' (first
          | (simp (disch := first | omega | assumption) only [go_sem, ↓reduceIte, Nat.reduceEqDiff, reduceCtorEq, Nat.reduceAdd, Nat.reduceMul, Int.reduceToNat, Nat.reduceShiftRight, Nat.reduceAnd, Nat.reduceBNe, Nat.reduceBneDiff, Nat.reduceLT, Nat.reduceLeDiff, Int.reduceLT, Int.reduceLE, Int.reduceEq, Int.reduceAdd, Int.reduceSub, *])
          | (refine br_prop (fun hb => ?_) (fun hb => ?_) <;> try (exfalso; omega))
          | refine br_not ?_
          | (refine by_prop (fun hb => ?_) (fun hb => ?_) <;> try (exfalso; omega))
          | (refine by_prop' (fun hb => ?_) (fun hb => ?_) <;> try (exfalso; omega))
          | refine by_not ?_
          | refine w_drawn (by kernel_rfl) ?_
          | refine new_i' (by rfl) (fun j hj hn => ?_)
          | refine new_i (fun j hn => ?_)
          | refine br_bool (fun hb => ?_) (fun hb => ?_)
          | refine by_bool (fun hb => ?_) (fun hb => ?_)
          | refine by_bool' (fun hb => ?_) (fun hb => ?_))
        exact hfalse.go _ (.refl _) rfl
      | true =>
        rw [rb] at hfalse htrue
        repeat' (first
          | (simp (disch := first | omega | assumption) only [go_sem, ↓reduceIte, Nat.reduceEqDiff, reduceCtorEq, Nat.reduceAdd, Nat.reduceMul, Int.reduceToNat, Nat.reduceShiftRight, Nat.reduceAnd, Nat.reduceBNe, Nat.reduceBneDiff, Nat.reduceLT, Nat.reduceLeDiff, Int.reduceLT, Int.reduceLE, Int.reduceEq, Int.reduceAdd, Int.reduceSub, *])
          | (refine br_prop (fun hb => ?_) (fun hb => ?_) <;> try (exfalso; omega))
          | refine br_not ?_
          | (refine by_prop (fun hb => ?_) (fun hb => ?_) <;> try (exfalso; omega))
          | (refine by_prop' (fun hb => ?_) (fun hb => ?_) <;> try (exfalso; omega))
          | refine by_not ?_
          | refine w_drawn (by kernel_rfl) ?_
          | refine new_i' (by rfl) (fun j hj hn => ?_)
          | refine new_i (fun j hn => ?_)
          | refine br_bool (fun hb => ?_) (fun hb => ?_)
          | refine by_bool (fun hb => ?_) (fun hb => ?_)
          | refine by_bool' (fun hb => ?_) (fun hb => ?_))
        refine call_i (register74 _ _ _ _ _ ?_)
        cases rc : regOk x.c fc (lessC x.op) with
        | false =>
          rw [rc] at hfalse
          repeat' (first
            | (simp (disch := first | omega | assumption) only [go_sem, ↓reduceIte, Nat.reduceEqDiff, reduceCtorEq, Nat.reduceAdd, Nat.reduceMul, Int.reduceToNat, Nat.reduceShiftRight, Nat.reduceAnd, Nat.reduceBNe, Nat.reduceBneDiff, Nat.reduceLT, Nat.reduceLeDiff, Int.reduceLT, Int.reduceLE, Int.reduceEq, Int.reduceAdd, Int.reduceSub, *])
            | (refine br_prop (fun hb => ?_) (fun hb => ?_) <;> try (exfalso; omega))
            | refine br_not ?_
            | (refine by_prop (fun hb => ?_) (fun hb => ?_) <;> try (exfalso; omega))
            | (refine by_prop' (fun hb => ?_) (fun hb => ?_) <;> try (exfalso; omega))
            | refine by_not ?_
            | refine w_drawn (by kernel_rfl) ?_
            | refine new_i' (by rfl) (fun j hj hn => ?_)
            | refine new_i (fun j hn => ?_)
            | refine br_bool (fun hb => ?_) (fun hb => ?_)
            | refine by_bool (fun hb => ?_) (fun hb => ?_)
            | refine by_bool' (fun hb => ?_) (fun hb => ?_))
          exact hfalse.go _ (.refl _) rfl
        | true =>
          rw [rc] at hfalse htrue
          repeat' (first
            | (simp (disch := first | omega | assumption) only [go_sem, ↓reduceIte, Nat.reduceEqDiff, reduceCtorEq, Nat.reduceAdd, Nat.reduceMul, Int.reduceToNat, Nat.reduceShiftRight, Nat.reduceAnd, Nat.reduceBNe, Nat.reduceBneDiff, Nat.reduceLT, Nat.reduceLeDiff, Int.reduceLT, Int.reduceLE, Int.reduceEq, Int.reduceAdd, Int.reduceSub, *])
            | (refine br_prop (fun hb => ?_) (fun hb => ?_) <;> try (exfalso; omega))
            | refine br_not ?_
            | (refine by_prop (fun hb => ?_) (fun hb => ?_) <;> try (exfalso; omega))
            | (refine by_prop' (fun hb => ?_) (fun hb => ?_) <;> try (exfalso; omega))
            | refine by_not ?_
            | refine w_drawn (by kernel_rfl) ?_
            | refine new_i' (by rfl) (fun j hj hn => ?_)
            | refine new_i (fun j hn => ?_)
            | refine br_bool (fun hb => ?_) (fun hb => ?_)
            | refine by_bool (fun hb => ?_) (fun hb => ?_)
            | refine by_bool' (fun hb => ?_) (fun hb => ?_))
          have hN := number75 x fv n hv.go hnn.go
          unfold insV at hN
          first
            | refine call_i (hN _ _ fun H7 hg7 => ?_)
            | (rw [show x.m = 0 by omega] at hN
               refine call_i (hN _ _ fun H7 hg7 => ?_))
          clear hN
          have hH7 := (hg7 j (by rw [hHj]; simp)).trans hHj
          clear hHj
          replace hg7 := Hd.mk hg7
          cases rd : numOk x fv n with
          | false =>
            rw [rd] at hfalse
            repeat' (first
              | (simp (disch := first | omega | assumption) only [go_sem, ↓reduceIte, Nat.reduceEqDiff, reduceCtorEq, Nat.reduceAdd, Nat.reduceMul, Int.reduceToNat, Nat.reduceShiftRight, Nat.reduceAnd, Nat.reduceBNe, Nat.reduceBneDiff, Nat.reduceLT, Nat.reduceLeDiff, Int.reduceLT, Int.reduceLE, Int.reduceEq, Int.reduceAdd, Int.reduceSub, *])
              | (refine br_prop (fun hb => ?_) (fun hb => ?_) <;> try (exfalso; omega))
              | refine br_not ?_
              | (refine by_prop (fun hb => ?_) (fun hb => ?_) <;> try (exfalso; omega))
              | (refine by_prop' (fun hb => ?_) (fun hb => ?_) <;> try (exfalso; omega))
              | refine by_not ?_
              | refine w_drawn (by kernel_rfl) ?_
              | refine new_i' (by rfl) (fun j hj hn => ?_)
              | refine new_i (fun j hn => ?_)
              | refine br_bool (fun hb => ?_) (fun hb => ?_)
              | refine by_bool (fun hb => ?_) (fun hb => ?_)
              | refine by_bool' (fun hb => ?_) (fun hb => ?_))
            exact hfalse.go _ hg7.go rfl
          | true =>
            rw [rd] at htrue
            repeat' (first
              | (simp (disch := first | omega | assumption) only [go_sem, ↓reduceIte, Nat.reduceEqDiff, reduceCtorEq, Nat.reduceAdd, Nat.reduceMul, Int.reduceToNat, Nat.reduceShiftRight, Nat.reduceAnd, Nat.reduceBNe, Nat.reduceBneDiff, Nat.reduceLT, Nat.reduceLeDiff, Int.reduceLT, Int.reduceLE, Int.reduceEq, Int.reduceAdd, Int.reduceSub, *])
              | (refine br_prop (fun hb => ?_) (fun hb => ?_) <;> try (exfalso; omega))
              | refine br_not ?_
              | (refine by_prop (fun hb => ?_) (fun hb => ?_) <;> try (exfalso; omega))
              | (refine by_prop' (fun hb => ?_) (fun hb => ?_) <;> try (exfalso; omega))
              | refine by_not ?_
              | refine w_drawn (by kernel_rfl) ?_
              | refine new_i' (by rfl) (fun j hj hn => ?_)
              | refine new_i (fun j hn => ?_)
              | refine br_bool (fun hb => ?_) (fun hb => ?_)
              | refine by_bool (fun hb => ?_) (fun hb => ?_)
              | refine by_bool' (fun hb => ?_) (fun hb => ?_))
            all_goals
              refine htrue.go _ _ hg7.go rfl ?_
              rw [Bool.eq_iff_iff]
              simp only [Bool.and_eq_true, Bool.or_eq_true, decide_eq_true_eq, Bool.false_eq_true, false_iff, true_iff]
            all_goals
              rcases Bool.eq_false_or_eq_true fa with hfa | hfa
              all_goals
                simp only [hfa, Bool.false_eq_true, and_false, or_false, and_true, false_iff, true_iff]
                omega
end Go.Proofs
namespace Go.Proofs
set_option linter.unusedSimpArgs false
set_option linter.unusedVariables false
set_option linter.unusedSectionVars false
open Go Go.Ab AsmM
variable [Go.Ab.Start]
set_option maxRecDepth 100000
set_option maxHeartbeats 1000000
def badM (n : Int) (lb : Bool) : List Ins → Nat → Option Nat
  | [], _ => none
  | x :: r, i => if may x n lb = true then badM n lb r (i + 1) else some i
def CodeE (H : AHeap) (v : Value) (n k : Int) : Prop := ∃ i, v = .iface 68 (.pointer (some ⟨i, 0, none⟩)) ∧ H i = .cells [.string codeB, .int .i64 n, .iface 41 (.int .i64 k)]
def vOk (l : List Ins) : Prop := ∀ x ∈ l, 0 ≤ x.v ∧ x.v < 18446744073709551616
theorem check44 (v : Value) (l : List Ins) (o : Option Nat) (lb : Bool) (H : AHeap) (hsl : SL H 7 v l.length (l.flatMap encI) o) (hv : vOk l) (hlen : l.length ≤ 100000000) (K : Value → AHeap → Prop)
    (hok : ∀ H', l.length ≤ 2048 → badM l.length lb l 0 = none → Grew H H' → K .nilIface H')
    (hbig : ∀ H' e, 2048 < l.length → CodeE H' e 0 3 → Grew H H' → K e H')
    (hbad : ∀ H' e i, l.length ≤ 2048 → badM l.length lb l 0 = some i → CodeE H' e i 5 → Grew H H' → K e H') : ACalls Tryd.prog 44 #[v, .bool lb] H K := by
  replace hok := Hd.mk hok
  replace hbig := Hd.mk hbig
  replace hbad := Hd.mk hbad
  replace hv := Hd.mk hv
  obtain ⟨a, c, rfl⟩ := hsl.val
  refine w_enter (args := [.slice a l.length c, .bool lb]) Tryd.func44 rfl (by kernel_rfl) D.mixed (by kernel_rfl) (rs := [.tmp 4]) rfl ?_
  replace hsl := Hd.mk hsl
  repeat' (first
    | (simp (disch := first | omega | assumption) only [go_sem, ↓reduceIte, Nat.reduceEqDiff, reduceCtorEq, Nat.reduceAdd, Nat.reduceMul, Int.reduceToNat, Nat.reduceShiftRight, Nat.reduceAnd, Nat.reduceBNe, Nat.reduceBneDiff, Nat.reduceLT, Nat.reduceLeDiff, Int.reduceLT, Int.reduceLE, Int.reduceEq, Int.reduceAdd, Int.reduceSub, *])
    | (refine br_prop (fun hb => ?_) (fun hb => ?_) <;> try (exfalso; omega))
    | refine br_not ?_
    | (refine by_prop (fun hb => ?_) (fun hb => ?_) <;> try (exfalso; omega))
    | (refine by_prop' (fun hb => ?_) (fun hb => ?_) <;> try (exfalso; omega))
    | refine by_not ?_
    | refine w_drawn (by kernel_rfl) ?_
    | refine new_i' (by rfl) (fun j hj hn => ?_)
    | refine new_i (fun j hn => ?_)
    | refine br_bool (fun hb => ?_) (fun hb => ?_)
    | refine by_bool (fun hb => ?_) (fun hb => ?_)
    | refine by_bool' (fun hb => ?_) (fun hb => ?_))
  · refine call_i (cfail _ _ _ _ _ fun i hi => ?_)
    repeat' (first
      | (simp (disch := first | omega | assumption) only [go_sem, ↓reduceIte, Nat.reduceEqDiff, reduceCtorEq, Nat.reduceAdd, Nat.reduceMul, Int.reduceToNat, Nat.reduceShiftRight, Nat.reduceAnd, Nat.reduceBNe, Nat.reduceBneDiff, Nat.reduceLT, Nat.reduceLeDiff, Int.reduceLT, Int.reduceLE, Int.reduceEq, Int.reduceAdd, Int.reduceSub, true_and])
      | (refine br_prop (fun hb => ?_) (fun hb => ?_) <;> try (exfalso; omega))
      | refine br_not ?_
      | (refine by_prop (fun hb => ?_) (fun hb => ?_) <;> try (exfalso; omega))
      | (refine by_prop' (fun hb => ?_) (fun hb => ?_) <;> try (exfalso; omega))
      | refine by_not ?_
      | refine w_drawn (by kernel_rfl) ?_
      | refine new_i' (by rfl) (fun j hj hn => ?_)
      | refine new_i (fun j hn => ?_)
      | refine br_bool (fun hb => ?_) (fun hb => ?_)
      | refine by_bool (fun hb => ?_) (fun hb => ?_)
      | refine by_bool' (fun hb => ?_) (fun hb => ?_))
    exact hbig.go _ _ (by omega) ⟨i, rfl, AHeap.set_same _ _ _⟩ ((Grew.refl _).new _ hi)
  refine W.loopF 536854640 (fun m e H' => Grew H H' ∧ ∃ i : Nat, e 14 = .int .i64 i ∧ i ≤ l.length ∧ m = l.length - i ∧ badM l.length lb l 0 = badM l.length lb (l.drop i) i) l.length (by kernel_rfl) ?_ ?_
  · exact ⟨.refl _, 0, by simp (disch := first | omega | assumption) only [go_sem, ↓reduceIte, Nat.reduceEqDiff, reduceCtorEq, Nat.reduceAdd, Nat.reduceMul, Int.reduceToNat, Nat.reduceShiftRight, Nat.reduceAnd, Nat.reduceBNe, Nat.reduceBneDiff, Nat.reduceLT, Nat.reduceLeDiff, Int.reduceLT, Int.reduceLE, Int.reduceEq, Int.reduceAdd, Int.reduceSub, *]; try rfl, by omega, by omega, rfl⟩
  rintro m e Hc J hJ ⟨hg, i, he, h0, rfl, hM⟩
  replace hM := Hd.mk hM
  repeat' (first
    | (simp (disch := first | omega | assumption) only [go_sem, ↓reduceIte, Nat.reduceEqDiff, reduceCtorEq, Nat.reduceAdd, Nat.reduceMul, Int.reduceToNat, Nat.reduceShiftRight, Nat.reduceAnd, Nat.reduceBNe, Nat.reduceBneDiff, Nat.reduceLT, Nat.reduceLeDiff, Int.reduceLT, Int.reduceLE, Int.reduceEq, Int.reduceAdd, Int.reduceSub, *])
    | (refine br_prop (fun hb => ?_) (fun hb => ?_) <;> try (exfalso; omega))
    | refine br_not ?_
    | (refine by_prop (fun hb => ?_) (fun hb => ?_) <;> try (exfalso; omega))
    | (refine by_prop' (fun hb => ?_) (fun hb => ?_) <;> try (exfalso; omega))
    | refine by_not ?_
    | refine w_drawn (by kernel_rfl) ?_
    | refine new_i' (by rfl) (fun j hj hn => ?_)
    | refine new_i (fun j hn => ?_)
    | refine br_bool (fun hb => ?_) (fun hb => ?_)
    | refine by_bool (fun hb => ?_) (fun hb => ?_)
    | refine by_bool' (fun hb => ?_) (fun hb => ?_))
  · obtain ⟨q, rfl⟩ : ∃ q, o = some q := by
      cases o with
      | none => obtain ⟨_, h, _⟩ := hsl.go; omega
      | some q => exact ⟨_, rfl⟩
    obtain ⟨c', d, e1, hH, _, _, _⟩ := hsl.go
    injection e1 with e1a e1b e1c
    subst e1a
    clear e1b e1c
    have hi : i < l.length := by omega
    obtain ⟨x, hx⟩ : ∃ x, x = l.getD i Ins.zero := ⟨_, rfl⟩
    have hxm : x ∈ l := by rw [hx, List.getD_eq_getElem?_getD, List.getElem?_eq_getElem hi]; exact List.getElem_mem hi
    have hxd : Hd (l.drop i = x :: l.drop (i + 1)) := ⟨by rw [List.drop_eq_getElem_cons hi, hx, List.getD_eq_getElem?_getD, List.getElem?_eq_getElem hi]; rfl⟩
    have hq : Hc q = H q := hg q (by rw [hH]; simp)
    have hr1 : readA (H q) (i * 7) (some 7) = some (.agg #[.int .i64 x.op, .int .i64 x.a, .int .i64 x.b, .int .i64 x.c, .int .u64 x.v, .int .i64 x.m, .int .i64 x.w]) := by
      rw [hH, flat_read (enc := encI) (fun _ => rfl) Ins.zero hi, ← hx]; rfl
    replace hg := Hd.mk hg
    clear hH hx
    repeat' (first
      | (simp (disch := first | omega | assumption) only [go_sem, ↓reduceIte, Nat.reduceEqDiff, reduceCtorEq, Nat.reduceAdd, Nat.reduceMul, Int.reduceToNat, Nat.reduceShiftRight, Nat.reduceAnd, Nat.reduceBNe, Nat.reduceBneDiff, Nat.reduceLT, Nat.reduceLeDiff, Int.reduceLT, Int.reduceLE, Int.reduceEq, Int.reduceAdd, Int.reduceSub, *])
      | (refine br_prop (fun hb => ?_) (fun hb => ?_) <;> try (exfalso; omega))
      | refine br_not ?_
      | (refine by_prop (fun hb => ?_) (fun hb => ?_) <;> try (exfalso; omega))
      | (refine by_prop' (fun hb => ?_) (fun hb => ?_) <;> try (exfalso; omega))
      | refine by_not ?_
      | refine w_drawn (by kernel_rfl) ?_
      | refine new_i' (by rfl) (fun j hj hn => ?_)
      | refine new_i (fun j hn => ?_)
      | refine br_bool (fun hb => ?_) (fun hb => ?_)
      | refine by_bool (fun hb => ?_) (fun hb => ?_)
      | refine by_bool' (fun hb => ?_) (fun hb => ?_))
    refine call_i (may65 x l.length lb (hv.go x hxm) ⟨by omega, by omega⟩ _ _ fun H3 hg3 => ?_)
    have hG3 : Hd (Grew H H3) := ⟨(hg.go.new _ hn).trans hg3⟩
    replace hg3 := Hd.mk hg3
    cases hmy : may x l.length lb with
    | true =>
      repeat' (first
        | (simp (disch := first | omega | assumption) only [go_sem, ↓reduceIte, Nat.reduceEqDiff, reduceCtorEq, Nat.reduceAdd, Nat.reduceMul, Int.reduceToNat, Nat.reduceShiftRight, Nat.reduceAnd, Nat.reduceBNe, Nat.reduceBneDiff, Nat.reduceLT, Nat.reduceLeDiff, Int.reduceLT, Int.reduceLE, Int.reduceEq, Int.reduceAdd, Int.reduceSub, *])
        | (refine br_prop (fun hb => ?_) (fun hb => ?_) <;> try (exfalso; omega))
        | refine br_not ?_
        | (refine by_prop (fun hb => ?_) (fun hb => ?_) <;> try (exfalso; omega))
        | (refine by_prop' (fun hb => ?_) (fun hb => ?_) <;> try (exfalso; omega))
        | refine by_not ?_
        | refine w_drawn (by kernel_rfl) ?_
        | refine new_i' (by rfl) (fun j hj hn => ?_)
        | refine new_i (fun j hn => ?_)
        | refine br_bool (fun hb => ?_) (fun hb => ?_)
        | refine by_bool (fun hb => ?_) (fun hb => ?_)
        | refine by_bool' (fun hb => ?_) (fun hb => ?_))
      exact inv_i (hJ.go _ _ ⟨_, by omega, hG3.go, i + 1, rfl, by omega, rfl, by rw [hM.go, hxd.go, badM, if_pos hmy]⟩)
    | false =>
      repeat' (first
        | (simp (disch := first | omega | assumption) only [go_sem, ↓reduceIte, Nat.reduceEqDiff, reduceCtorEq, Nat.reduceAdd, Nat.reduceMul, Int.reduceToNat, Nat.reduceShiftRight, Nat.reduceAnd, Nat.reduceBNe, Nat.reduceBneDiff, Nat.reduceLT, Nat.reduceLeDiff, Int.reduceLT, Int.reduceLE, Int.reduceEq, Int.reduceAdd, Int.reduceSub, *])
        | (refine br_prop (fun hb => ?_) (fun hb => ?_) <;> try (exfalso; omega))
        | refine br_not ?_
        | (refine by_prop (fun hb => ?_) (fun hb => ?_) <;> try (exfalso; omega))
        | (refine by_prop' (fun hb => ?_) (fun hb => ?_) <;> try (exfalso; omega))
        | refine by_not ?_
        | refine w_drawn (by kernel_rfl) ?_
        | refine new_i' (by rfl) (fun j hj hn => ?_)
        | refine new_i (fun j hn => ?_)
        | refine br_bool (fun hb => ?_) (fun hb => ?_)
        | refine by_bool (fun hb => ?_) (fun hb => ?_)
        | refine by_bool' (fun hb => ?_) (fun hb => ?_))
      refine call_i (cfail _ _ _ _ _ fun k hk => ?_)
      repeat' (first
        | (simp (disch := first | omega | assumption) only [go_sem, ↓reduceIte, Nat.reduceEqDiff, reduceCtorEq, Nat.reduceAdd, Nat.reduceMul, Int.reduceToNat, Nat.reduceShiftRight, Nat.reduceAnd, Nat.reduceBNe, Nat.reduceBneDiff, Nat.reduceLT, Nat.reduceLeDiff, Int.reduceLT, Int.reduceLE, Int.reduceEq, Int.reduceAdd, Int.reduceSub, true_and])
        | (refine br_prop (fun hb => ?_) (fun hb => ?_) <;> try (exfalso; omega))
        | refine br_not ?_
        | (refine by_prop (fun hb => ?_) (fun hb => ?_) <;> try (exfalso; omega))
        | (refine by_prop' (fun hb => ?_) (fun hb => ?_) <;> try (exfalso; omega))
        | refine by_not ?_
        | refine w_drawn (by kernel_rfl) ?_
        | refine new_i' (by rfl) (fun j hj hn => ?_)
        | refine new_i (fun j hn => ?_)
        | refine br_bool (fun hb => ?_) (fun hb => ?_)
        | refine by_bool (fun hb => ?_) (fun hb => ?_)
        | refine by_bool' (fun hb => ?_) (fun hb => ?_))
      exact hbad.go _ _ i (by omega) (by rw [hM.go, hxd.go, badM, if_neg (by rw [hmy]; simp)]) ⟨k, rfl, AHeap.set_same _ _ _⟩ (hG3.go.new _ hk)
  · exact hok.go _ (by omega) (by rw [hM.go, List.drop_eq_nil_of_le (by omega)]; rfl) hg
end Go.Proofs
