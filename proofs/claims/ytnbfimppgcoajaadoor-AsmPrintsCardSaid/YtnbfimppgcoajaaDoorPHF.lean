/-
  A part of the proofs: HF HH HI.
-/
import Derived.Test.YtnbfimppgcoajaaDoorDT
import Derived.Test.YtnbfimppgcoajaaDoorAbS
import Derived.Test.YtnbfimppgcoajaaDoorAbEq
import Derived.Test.YtnbfimppgcoajaaDoorPT
import Derived.Test.YtnbfimppgcoajaaDoorPA
import Derived.Test.YtnbfimppgcoajaaDoorPHC
import Derived.Test.YtnbfimppgcoajaaDoorPGA
import Derived.Test.YtnbfimppgcoajaaDoorPEB
namespace Go.Proofs
set_option linter.unusedSimpArgs false
set_option linter.unusedVariables false
set_option linter.unusedSectionVars false
open Go Go.Ab AsmM
variable [Go.Ab.Start]
set_option maxRecDepth 100000
set_option maxHeartbeats 1000000
def digB : ByteArray := ⟨#[48, 49, 50, 51, 52, 53, 54, 55, 56, 57]⟩
theorem dig_ext (d : Nat) (h : d < 10) : digB.extract d (d + 1) = bA [UInt8.ofNat (48 + d)] := by
  rcases (show d = 0 ∨ d = 1 ∨ d = 2 ∨ d = 3 ∨ d = 4 ∨ d = 5 ∨ d = 6 ∨ d = 7 ∨ d = 8 ∨ d = 9 by omega) with rfl | rfl | rfl | rfl | rfl | rfl | rfl | rfl | rfl | rfl <;> rfl
theorem dig_slice (d : Nat) (h : d < 10) : sliceA Tryd.prog 9 (.string digB) (some (.int .u64 d)) (some (.int .u64 (d + 1))) none = some (.string (bA [UInt8.ofNat (48 + d)])) := by
  have hs : digB.size = 10 := rfl
  rw [slice_string D.u9 (by omega) (by omega) (by rw [hs]; omega), ← dig_ext d h]
  congr 3 <;> omega
theorem ref31 (v : Nat) (hv : v < 18446744073709551616) (H : AHeap) (K : Value → AHeap → Prop) (hk : K (.string (bA (dec v))) H) : ACalls Tryd.prog 31 #[.int .u64 v] H K := by
  replace hk := Hd.mk hk
  have hl := dec_len20 v hv
  refine w_enter (args := [.int .u64 v]) Tryd.func31 rfl (by kernel_rfl) D.mixed (by kernel_rfl) (rs := [.tmp 2]) rfl ?_
  repeat' (first
    | (simp (disch := first | omega | assumption) only [go_sem, ↓reduceIte, Nat.reduceEqDiff, reduceCtorEq, Nat.reduceAdd, Nat.reduceMul, Int.reduceToNat, Nat.reduceShiftRight, Nat.reduceAnd, Nat.reduceBNe, Nat.reduceBneDiff, Nat.reduceLT, Nat.reduceLeDiff, Int.reduceLT, Int.reduceLE, Int.reduceEq, Int.reduceAdd, Int.reduceSub, *])
    | (refine br_prop (fun hb => ?_) (fun hb => ?_) <;> try (exfalso; omega))
    | refine br_not ?_
    | (refine by_prop (fun hb => ?_) (fun hb => ?_) <;> try (exfalso; omega))
    | (refine by_prop' (fun hb => ?_) (fun hb => ?_) <;> try (exfalso; omega))
    | refine by_not ?_
    | refine w_drawn (by kernel_rfl) ?_
    | refine new_i' (by rfl) (fun j hj hn => ?_)
    | refine new_i (fun j hn => ?_)
    | refine br_bool (fun hb => ?_) (fun hb => ?_)
    | refine by_bool (fun hb => ?_) (fun hb => ?_)
    | refine by_bool' (fun hb => ?_) (fun hb => ?_))
  refine W.loopF 262141 (fun m e H' => H' = H ∧ ∃ (x : Nat) (T : Bytes), e 0 = .int .u64 x ∧ e 3 = .string (bA T) ∧ m = x ∧ x < 18446744073709551616 ∧ dec v = dec x ++ T ∧ T.length ≤ 20) v (by kernel_rfl) ?_ ?_
  · exact ⟨rfl, v, [], by simp (disch := first | omega | assumption) only [go_sem, ↓reduceIte, Nat.reduceEqDiff, reduceCtorEq, Nat.reduceAdd, Nat.reduceMul, Int.reduceToNat, Nat.reduceShiftRight, Nat.reduceAnd, Nat.reduceBNe, Nat.reduceBneDiff, Nat.reduceLT, Nat.reduceLeDiff, Int.reduceLT, Int.reduceLE, Int.reduceEq, Int.reduceAdd, Int.reduceSub, *]; try rfl, by simp (disch := first | omega | assumption) only [go_sem, ↓reduceIte, Nat.reduceEqDiff, reduceCtorEq, Nat.reduceAdd, Nat.reduceMul, Int.reduceToNat, Nat.reduceShiftRight, Nat.reduceAnd, Nat.reduceBNe, Nat.reduceBneDiff, Nat.reduceLT, Nat.reduceLeDiff, Int.reduceLT, Int.reduceLE, Int.reduceEq, Int.reduceAdd, Int.reduceSub, *]; try rfl, rfl, hv, by simp, by simp⟩
  rintro m e Hc J hJ ⟨hHc, x, T, he0, he3, hx, hx1, hd, hT⟩
  subst hHc
  subst hx
  have hd0 := hd
  replace hd := Hd.mk hd
  have hsl := dig_slice (m % 10) (by omega)
  have hTl : T.length < 20 := by
    have h1 := congrArg List.length hd0
    rw [List.length_append] at h1
    have h2 : 1 ≤ (dec m).length := by rw [dec_step]; simp
    omega
  have hcat : binS .add (bA [UInt8.ofNat (48 + m % 10)]) (bA T) = some (.string (bA (UInt8.ofNat (48 + m % 10) :: T))) := cat [UInt8.ofNat (48 + m % 10)] T (by simp; omega)
  clear hd0 hl
  unfold digB at hsl
  have hm10 : (m : Int) % 10 = (m % 10 : Nat) := by omega
  repeat' (first
    | (simp (disch := first | omega | assumption) only [go_sem, ↓reduceIte, Nat.reduceEqDiff, reduceCtorEq, Nat.reduceAdd, Nat.reduceMul, Int.reduceToNat, Nat.reduceShiftRight, Nat.reduceAnd, Nat.reduceBNe, Nat.reduceBneDiff, Nat.reduceLT, Nat.reduceLeDiff, Int.reduceLT, Int.reduceLE, Int.reduceEq, Int.reduceAdd, Int.reduceSub, *])
    | (refine br_prop (fun hb => ?_) (fun hb => ?_) <;> try (exfalso; omega))
    | refine br_not ?_
    | (refine by_prop (fun hb => ?_) (fun hb => ?_) <;> try (exfalso; omega))
    | (refine by_prop' (fun hb => ?_) (fun hb => ?_) <;> try (exfalso; omega))
    | refine by_not ?_
    | refine w_drawn (by kernel_rfl) ?_
    | refine new_i' (by rfl) (fun j hj hn => ?_)
    | refine new_i (fun j hn => ?_)
    | refine br_bool (fun hb => ?_) (fun hb => ?_)
    | refine by_bool (fun hb => ?_) (fun hb => ?_)
    | refine by_bool' (fun hb => ?_) (fun hb => ?_))
  · rename_i hb
    have hdv : dec v = UInt8.ofNat (48 + m % 10) :: T := by rw [hd.go, dec_step m, if_pos (by omega)]; rfl
    have h := hk.go
    rw [hdv] at h
    exact h
  · refine inv_i (hJ.go _ _ ⟨m / 10, by omega, rfl, m / 10, UInt8.ofNat (48 + m % 10) :: T, by first | rfl | (show Value.int .u64 _ = _; congr 1), rfl, rfl, by omega, ?_, by simp; omega⟩)
    rw [hd.go, dec_step m, if_neg (by omega), List.append_assoc]; rfl
theorem reg48 (n : Int) (H : AHeap) (K : Value → AHeap → Prop) (hk : K (.bool (decide (0 ≤ n ∧ n < 32))) H) : ACalls Tryd.prog 48 #[.int .i64 n] H K := by
  replace hk := Hd.mk hk
  refine w_enter (args := [.int .i64 n]) Tryd.func48 rfl (by kernel_rfl) D.mixed (by kernel_rfl) (rs := [.tmp 2]) rfl ?_
  repeat' (first
    | (simp (disch := first | omega | assumption) only [go_sem, ↓reduceIte, Nat.reduceEqDiff, reduceCtorEq, Nat.reduceAdd, Nat.reduceMul, Int.reduceToNat, Nat.reduceShiftRight, Nat.reduceAnd, Nat.reduceBNe, Nat.reduceBneDiff, Nat.reduceLT, Nat.reduceLeDiff, Int.reduceLT, Int.reduceLE, Int.reduceEq, Int.reduceAdd, Int.reduceSub, *])
    | (refine br_prop (fun hb => ?_) (fun hb => ?_) <;> try (exfalso; omega))
    | refine br_not ?_
    | (refine by_prop (fun hb => ?_) (fun hb => ?_) <;> try (exfalso; omega))
    | (refine by_prop' (fun hb => ?_) (fun hb => ?_) <;> try (exfalso; omega))
    | refine by_not ?_
    | refine w_drawn (by kernel_rfl) ?_
    | refine new_i' (by rfl) (fun j hj hn => ?_)
    | refine new_i (fun j hn => ?_)
    | refine br_bool (fun hb => ?_) (fun hb => ?_)
    | refine by_bool (fun hb => ?_) (fun hb => ?_)
    | refine by_bool' (fun hb => ?_) (fun hb => ?_))
  all_goals
    have e : ∀ b : Bool, b = decide (0 ≤ n ∧ n < 32) → K (.bool b) H := fun b hb => by rw [hb]; exact hk.go
    refine e _ ?_
    first
      | (symm; rw [decide_eq_true_iff]; omega)
      | (symm; rw [decide_eq_false_iff_not]; omega)
      | (rw [decide_eq_decide]; omega)
def isCell (op : Int) : Bool := decide ((17 ≤ op ∧ op ≤ 21) ∨ op = 31 ∨ op = 32)
theorem cell66 (op : Int) (H : AHeap) (K : Value → AHeap → Prop) (hk : K (.bool (isCell op)) H) : ACalls Tryd.prog 66 #[.int .i64 op] H K := by
  replace hk := Hd.mk hk
  refine w_enter (args := [.int .i64 op]) Tryd.func66 rfl (by kernel_rfl) D.mixed (by kernel_rfl) (rs := [.tmp 2]) rfl ?_
  repeat' (first
    | (simp (disch := first | omega | assumption) only [go_sem, ↓reduceIte, Nat.reduceEqDiff, reduceCtorEq, Nat.reduceAdd, Nat.reduceMul, Int.reduceToNat, Nat.reduceShiftRight, Nat.reduceAnd, Nat.reduceBNe, Nat.reduceBneDiff, Nat.reduceLT, Nat.reduceLeDiff, Int.reduceLT, Int.reduceLE, Int.reduceEq, Int.reduceAdd, Int.reduceSub, *])
    | (refine br_prop (fun hb => ?_) (fun hb => ?_) <;> try (exfalso; omega))
    | refine br_not ?_
    | (refine by_prop (fun hb => ?_) (fun hb => ?_) <;> try (exfalso; omega))
    | (refine by_prop' (fun hb => ?_) (fun hb => ?_) <;> try (exfalso; omega))
    | refine by_not ?_
    | refine w_drawn (by kernel_rfl) ?_
    | refine new_i' (by rfl) (fun j hj hn => ?_)
    | refine new_i (fun j hn => ?_)
    | refine br_bool (fun hb => ?_) (fun hb => ?_)
    | refine by_bool (fun hb => ?_) (fun hb => ?_)
    | refine by_bool' (fun hb => ?_) (fun hb => ?_))
  all_goals
    have e : ∀ b : Bool, b = isCell op → K (.bool b) H := fun b hb => by rw [hb]; exact hk.go
    refine e _ ?_
    unfold isCell
    first
      | (symm; rw [decide_eq_true_iff]; omega)
      | (symm; rw [decide_eq_false_iff_not]; omega)
      | (rw [decide_eq_decide]; omega)
theorem ref51 (n : Int) (h0 : 0 ≤ n) (h1 : n < 9223372036854775808) (H : AHeap) (K : Value → AHeap → Prop) (hk : K (.string (bA (AsmM.reg n))) H) : ACalls Tryd.prog 51 #[.int .i64 n] H K := by
  replace hk := Hd.mk hk
  obtain ⟨m, rfl⟩ : ∃ m : Nat, n = m := ⟨n.toNat, by omega⟩
  refine w_enter (args := [.int .i64 m]) Tryd.func51 rfl (by kernel_rfl) D.mixed (by kernel_rfl) (rs := [.tmp 2]) rfl ?_
  repeat' (first
    | (simp (disch := first | omega | assumption) only [go_sem, ↓reduceIte, Nat.reduceEqDiff, reduceCtorEq, Nat.reduceAdd, Nat.reduceMul, Int.reduceToNat, Nat.reduceShiftRight, Nat.reduceAnd, Nat.reduceBNe, Nat.reduceBneDiff, Nat.reduceLT, Nat.reduceLeDiff, Int.reduceLT, Int.reduceLE, Int.reduceEq, Int.reduceAdd, Int.reduceSub, *])
    | (refine br_prop (fun hb => ?_) (fun hb => ?_) <;> try (exfalso; omega))
    | refine br_not ?_
    | (refine by_prop (fun hb => ?_) (fun hb => ?_) <;> try (exfalso; omega))
    | (refine by_prop' (fun hb => ?_) (fun hb => ?_) <;> try (exfalso; omega))
    | refine by_not ?_
    | refine w_drawn (by kernel_rfl) ?_
    | refine new_i' (by rfl) (fun j hj hn => ?_)
    | refine new_i (fun j hn => ?_)
    | refine br_bool (fun hb => ?_) (fun hb => ?_)
    | refine by_bool (fun hb => ?_) (fun hb => ?_)
    | refine by_bool' (fun hb => ?_) (fun hb => ?_))
  refine call_i (ref31 m (by omega) _ _ ?_)
  have hl := dec_len20 m (by omega)
  have hc : binS .add (ByteArray.mk #[114]) (bA (dec m)) = some (.string (bA (114 :: dec m))) := cat [114] (dec m) (by simp; omega)
  repeat' (first
    | (simp (disch := first | omega | assumption) only [go_sem, ↓reduceIte, Nat.reduceEqDiff, reduceCtorEq, Nat.reduceAdd, Nat.reduceMul, Int.reduceToNat, Nat.reduceShiftRight, Nat.reduceAnd, Nat.reduceBNe, Nat.reduceBneDiff, Nat.reduceLT, Nat.reduceLeDiff, Int.reduceLT, Int.reduceLE, Int.reduceEq, Int.reduceAdd, Int.reduceSub, *])
    | (refine br_prop (fun hb => ?_) (fun hb => ?_) <;> try (exfalso; omega))
    | refine br_not ?_
    | (refine by_prop (fun hb => ?_) (fun hb => ?_) <;> try (exfalso; omega))
    | (refine by_prop' (fun hb => ?_) (fun hb => ?_) <;> try (exfalso; omega))
    | refine by_not ?_
    | refine w_drawn (by kernel_rfl) ?_
    | refine new_i' (by rfl) (fun j hj hn => ?_)
    | refine new_i (fun j hn => ?_)
    | refine br_bool (fun hb => ?_) (fun hb => ?_)
    | refine by_bool (fun hb => ?_) (fun hb => ?_)
    | refine by_bool' (fun hb => ?_) (fun hb => ?_))
  exact hk.go
theorem reg48q (n : Int) (H : AHeap) (K : Value → AHeap → Prop) (hk : ∀ r : Bool, Hd (r = decide (0 ≤ n ∧ n < 32)) → K (.bool r) H) : ACalls Tryd.prog 48 #[.int .i64 n] H K :=
  reg48 n H K (hk _ ⟨rfl⟩)
end Go.Proofs
namespace Go.Proofs
set_option linter.unusedSimpArgs false
set_option linter.unusedVariables false
set_option linter.unusedSectionVars false
open Go Go.Ab AsmM
variable [Go.Ab.Start]
set_option maxRecDepth 100000
set_option maxHeartbeats 1000000
def rightM (x : Ins) (n : Int) (lb : Bool) : Bool := decide (
  ¬ (¬ (1 ≤ x.op ∧ x.op ≤ 58) ∨ (lb = false ∧ (22 < x.op ∨ x.m ≠ 0)) ∨ (lb = true ∧ x.op = 22)) ∧
  ¬ (x.m < 0 ∨ 99 < x.m ∨ x.w < 0 ∨ 2 < x.w ∨ (x.m = 0 ∧ x.w ≠ 0) ∨ (x.w ≠ 0 ∧ (fields x.op).1 = false)) ∧
  ¬ (((fields x.op).1 = true ∧ ¬ (0 ≤ x.a ∧ x.a < 32)) ∨ ((fields x.op).1 = false ∧ x.a ≠ 0)) ∧
  ¬ (((fields x.op).2.1 = false ∧ x.b ≠ 0) ∨ ((fields x.op).2.1 = true ∧ ¬ (0 ≤ x.b ∧ x.b < 32) ∧ ¬ (lessB x.op = true ∧ x.b = -1))) ∧
  ¬ (((fields x.op).2.2.1 = false ∧ x.c ≠ 0) ∨ ((fields x.op).2.2.1 = true ∧ ¬ (0 ≤ x.c ∧ x.c < 32) ∧ ¬ (lessC x.op = true ∧ x.c = -1))) ∧
  ¬ ((((fields x.op).2.2.2 = false ∨ (x.op = 43 ∧ x.b ≠ -1) ∨ (lessC x.op = true ∧ x.c ≠ -1)) ∧ x.v ≠ 0) ∨ (isJump x.op = true ∧ n ≤ x.v) ∨ (x.op = 22 ∧ 1000 ≤ x.v)))
theorem right30 (x : Ins) (n : Int) (lb : Bool) (hv : 0 ≤ x.v ∧ x.v < 18446744073709551616) (hnn : 0 ≤ n ∧ n < 9223372036854775808) (H : AHeap) (K : Value → AHeap → Prop) (hk : ∀ H', Grew H H' → K (.bool (rightM x n lb)) H') : ACalls Tryd.prog 30 #[insV x, .int .i64 n, .bool lb] H K := by
  replace hk := Hd.mk hk
  unfold insV
  refine w_enter (args := [.agg #[.int .i64 x.op, .int .i64 x.a, .int .i64 x.b, .int .i64 x.c, .int .u64 x.v, .int .i64 x.m, .int .i64 x.w], .int .i64 n, .bool lb]) Tryd.func30 rfl (by kernel_rfl) D.mixed (by kernel_rfl) (rs := [.tmp 6]) rfl ?_
  repeat' (first
    | (simp (disch := first | omega | assumption) only [go_sem, ↓reduceIte, Nat.reduceEqDiff, reduceCtorEq, Nat.reduceAdd, Nat.reduceMul, Int.reduceToNat, Nat.reduceShiftRight, Nat.reduceAnd, Nat.reduceBNe, Nat.reduceBneDiff, Nat.reduceLT, Nat.reduceLeDiff, Int.reduceLT, Int.reduceLE, Int.reduceEq, Int.reduceAdd, Int.reduceSub, *])
    | (refine br_prop (fun hb => ?_) (fun hb => ?_) <;> try (exfalso; omega))
    | refine br_not ?_
    | (refine by_prop (fun hb => ?_) (fun hb => ?_) <;> try (exfalso; omega))
    | (refine by_prop' (fun hb => ?_) (fun hb => ?_) <;> try (exfalso; omega))
    | refine by_not ?_
    | refine w_drawn (by kernel_rfl) ?_
    | refine new_i' (by rfl) (fun j hj hn => ?_)
    | refine new_i (fun j hn => ?_)
    | refine br_bool (fun hb => ?_) (fun hb => ?_)
    | refine by_bool (fun hb => ?_) (fun hb => ?_)
    | refine by_bool' (fun hb => ?_) (fun hb => ?_))
  refine call_i (of16 x.op _ _ fun H1 hg1 => ?_)
  unfold shapeV
  have hk2 : ∀ H' r, r = rightM x n lb → Grew H H' → K (.bool r) H' := fun H' r e g => by rw [e]; exact hk.go H' g
  replace hk2 := Hd.mk hk2
  clear hk
  unfold rightM at hk2
  revert hk2
  generalize (fields x.op).1 = fa
  generalize (fields x.op).2.1 = fb
  generalize (fields x.op).2.2.1 = fc
  generalize (fields x.op).2.2.2 = fv
  generalize lessB x.op = nb
  generalize lessC x.op = nc
  generalize isJump x.op = pl
  obtain ⟨is, his⟩ : ∃ is : Bool, is = decide (1 ≤ x.op ∧ x.op ≤ 58) := ⟨_, rfl⟩
  rw [← his]
  intro hk2
  replace his := Hd.mk his
  refine W.cutO (fun e H' => Grew H H' ∧ ∃ jx js, H' jx = (.cells [.int .i64 x.op, .int .i64 x.a, .int .i64 x.b, .int .i64 x.c, .int .u64 x.v, .int .i64 x.m, .int .i64 x.w]) ∧ H' js = (.cells [.bool fa, .bool fb, .bool fc, .bool fv, .bool nb, .bool nc, .bool pl, .bool is]) ∧ e 1 = .int .i64 n ∧ e 2 = .bool lb ∧ e 3 = .pointer (some ⟨jx, 0, none⟩) ∧ e 7 = .pointer (some ⟨js, 0, none⟩)) (fun J hJ => ?_) ?_
  · have hx1 : H1 j = (.cells [.int .i64 x.op, .int .i64 x.a, .int .i64 x.b, .int .i64 x.c, .int .u64 x.v, .int .i64 x.m, .int .i64 x.w]) := by rw [hg1 j (by rw [AHeap.set_same]; simp), AHeap.set_same]
    have hg2 := Hd.mk (((Grew.refl H).new _ hn).trans hg1)
    replace hg1 := 0
    clear hn
    obtain ⟨jx, rfl⟩ : ∃ q, q = j := ⟨_, rfl⟩
    repeat' (first
      | (simp (disch := first | omega | assumption) only [go_sem, ↓reduceIte, Nat.reduceEqDiff, reduceCtorEq, Nat.reduceAdd, Nat.reduceMul, Int.reduceToNat, Nat.reduceShiftRight, Nat.reduceAnd, Nat.reduceBNe, Nat.reduceBneDiff, Nat.reduceLT, Nat.reduceLeDiff, Int.reduceLT, Int.reduceLE, Int.reduceEq, Int.reduceAdd, Int.reduceSub, *])
      | (refine br_prop (fun hb => ?_) (fun hb => ?_) <;> try (exfalso; omega))
      | refine br_not ?_
      | (refine by_prop (fun hb => ?_) (fun hb => ?_) <;> try (exfalso; omega))
      | (refine by_prop' (fun hb => ?_) (fun hb => ?_) <;> try (exfalso; omega))
      | refine by_not ?_
      | refine w_drawn (by kernel_rfl) ?_
      | refine new_i' (by rfl) (fun j hj hn => ?_)
      | refine new_i (fun j hn => ?_)
      | refine br_bool (fun hb => ?_) (fun hb => ?_)
      | refine by_bool (fun hb => ?_) (fun hb => ?_)
      | refine by_bool' (fun hb => ?_) (fun hb => ?_))
    have hne : jx ≠ j := fun e => by subst e; rw [hn] at hx1; cases hx1
    exact inv_i (hJ.go _ _ ⟨hg2.go.new _ hn, jx, j, by rw [AHeap.set_ne _ _ hne]; exact hx1, AHeap.set_same _ _ _, rfl, rfl, rfl, rfl⟩)
  clear hg1 hn
  rintro e Hc ⟨hg, jx, js, hx, hs, e1, e2, e3, e7⟩
  replace hg := Hd.mk hg
  rw [w_seq]
  refine W.cutC (fun e H' => H' = Hc ∧ e 1 = .int .i64 n ∧ e 2 = .bool lb ∧ e 3 = .pointer (some ⟨jx, 0, none⟩) ∧ e 7 = .pointer (some ⟨js, 0, none⟩) ∧ Hd (¬ (is = false ∨ (lb = false ∧ (22 < x.op ∨ x.m ≠ 0)) ∨ (lb = true ∧ x.op = 22)))) (fun J hJ => ?_) ?_
  · repeat' (first
      | (simp (disch := first | omega | assumption) only [go_sem, ↓reduceIte, Nat.reduceEqDiff, reduceCtorEq, Nat.reduceAdd, Nat.reduceMul, Int.reduceToNat, Nat.reduceShiftRight, Nat.reduceAnd, Nat.reduceBNe, Nat.reduceBneDiff, Nat.reduceLT, Nat.reduceLeDiff, Int.reduceLT, Int.reduceLE, Int.reduceEq, Int.reduceAdd, Int.reduceSub, *])
      | (refine br_prop (fun hb => ?_) (fun hb => ?_) <;> try (exfalso; omega))
      | refine br_not ?_
      | (refine by_prop (fun hb => ?_) (fun hb => ?_) <;> try (exfalso; omega))
      | (refine by_prop' (fun hb => ?_) (fun hb => ?_) <;> try (exfalso; omega))
      | refine by_not ?_
      | refine w_drawn (by kernel_rfl) ?_
      | refine new_i' (by rfl) (fun j hj hn => ?_)
      | refine new_i (fun j hn => ?_)
      | refine br_bool (fun hb => ?_) (fun hb => ?_)
      | refine by_bool (fun hb => ?_) (fun hb => ?_)
      | refine by_bool' (fun hb => ?_) (fun hb => ?_))
    all_goals first
      | refine call_i (reg48q _ _ _ fun r hr => ?_)
      | skip
    all_goals
      repeat' (first
        | (simp (disch := first | omega | assumption) only [go_sem, ↓reduceIte, Nat.reduceEqDiff, reduceCtorEq, Nat.reduceAdd, Nat.reduceMul, Int.reduceToNat, Nat.reduceShiftRight, Nat.reduceAnd, Nat.reduceBNe, Nat.reduceBneDiff, Nat.reduceLT, Nat.reduceLeDiff, Int.reduceLT, Int.reduceLE, Int.reduceEq, Int.reduceAdd, Int.reduceSub, *])
        | (refine br_prop (fun hb => ?_) (fun hb => ?_) <;> try (exfalso; omega))
        | refine br_not ?_
        | (refine by_prop (fun hb => ?_) (fun hb => ?_) <;> try (exfalso; omega))
        | (refine by_prop' (fun hb => ?_) (fun hb => ?_) <;> try (exfalso; omega))
        | refine by_not ?_
        | refine w_drawn (by kernel_rfl) ?_
        | refine new_i' (by rfl) (fun j hj hn => ?_)
        | refine new_i (fun j hn => ?_)
        | refine br_bool (fun hb => ?_) (fun hb => ?_)
        | refine by_bool (fun hb => ?_) (fun hb => ?_)
        | refine by_bool' (fun hb => ?_) (fun hb => ?_))
    all_goals first
      | refine hk2.go _ false ?_ hg.go
      | refine inv_i (hJ.go _ _ ⟨rfl, by first | rfl | assumption, by first | rfl | assumption, by first | rfl | assumption, by first | rfl | assumption, ⟨?_⟩⟩)
    all_goals first
      | replace hr := hr.go
      | skip
    all_goals clear hk2 hJ hx hs e1 e2 e3 e7
    all_goals first
      | (symm
         rw [decide_eq_false_iff_not]
         refine fun h => h.1 ?_
         clear h)
      | skip
    all_goals first
      | omega
      | (simp_all; done)
      | (simp_all; omega)
      | (refine Or.inl (fun hh => ?_)
         have h9 := his.go
         rw [decide_eq_true hh] at h9
         simp_all)
      | skip
  clear e1 e2 e3 e7
  rintro e Hc2 ⟨hHc, e1, e2, e3, e7, c1⟩
  subst Hc2
  rw [w_seq]
  refine W.cutC (fun e H' => H' = Hc ∧ e 1 = .int .i64 n ∧ e 2 = .bool lb ∧ e 3 = .pointer (some ⟨jx, 0, none⟩) ∧ e 7 = .pointer (some ⟨js, 0, none⟩) ∧ Hd (¬ (x.m < 0 ∨ 99 < x.m ∨ x.w < 0 ∨ 2 < x.w ∨ (x.m = 0 ∧ x.w ≠ 0) ∨ (x.w ≠ 0 ∧ fa = false)))) (fun J hJ => ?_) ?_
  · repeat' (first
      | (simp (disch := first | omega | assumption) only [go_sem, ↓reduceIte, Nat.reduceEqDiff, reduceCtorEq, Nat.reduceAdd, Nat.reduceMul, Int.reduceToNat, Nat.reduceShiftRight, Nat.reduceAnd, Nat.reduceBNe, Nat.reduceBneDiff, Nat.reduceLT, Nat.reduceLeDiff, Int.reduceLT, Int.reduceLE, Int.reduceEq, Int.reduceAdd, Int.reduceSub, *])
      | (refine br_prop (fun hb => ?_) (fun hb => ?_) <;> try (exfalso; omega))
      | refine br_not ?_
      | (refine by_prop (fun hb => ?_) (fun hb => ?_) <;> try (exfalso; omega))
      | (refine by_prop' (fun hb => ?_) (fun hb => ?_) <;> try (exfalso; omega))
      | refine by_not ?_
      | refine w_drawn (by kernel_rfl) ?_
      | refine new_i' (by rfl) (fun j hj hn => ?_)
      | refine new_i (fun j hn => ?_)
      | refine br_bool (fun hb => ?_) (fun hb => ?_)
      | refine by_bool (fun hb => ?_) (fun hb => ?_)
      | refine by_bool' (fun hb => ?_) (fun hb => ?_))
    all_goals first
      | refine call_i (reg48q _ _ _ fun r hr => ?_)
      | skip
    all_goals
      repeat' (first
        | (simp (disch := first | omega | assumption) only [go_sem, ↓reduceIte, Nat.reduceEqDiff, reduceCtorEq, Nat.reduceAdd, Nat.reduceMul, Int.reduceToNat, Nat.reduceShiftRight, Nat.reduceAnd, Nat.reduceBNe, Nat.reduceBneDiff, Nat.reduceLT, Nat.reduceLeDiff, Int.reduceLT, Int.reduceLE, Int.reduceEq, Int.reduceAdd, Int.reduceSub, *])
        | (refine br_prop (fun hb => ?_) (fun hb => ?_) <;> try (exfalso; omega))
        | refine br_not ?_
        | (refine by_prop (fun hb => ?_) (fun hb => ?_) <;> try (exfalso; omega))
        | (refine by_prop' (fun hb => ?_) (fun hb => ?_) <;> try (exfalso; omega))
        | refine by_not ?_
        | refine w_drawn (by kernel_rfl) ?_
        | refine new_i' (by rfl) (fun j hj hn => ?_)
        | refine new_i (fun j hn => ?_)
        | refine br_bool (fun hb => ?_) (fun hb => ?_)
        | refine by_bool (fun hb => ?_) (fun hb => ?_)
        | refine by_bool' (fun hb => ?_) (fun hb => ?_))
    all_goals first
      | refine hk2.go _ false ?_ hg.go
      | refine inv_i (hJ.go _ _ ⟨rfl, by first | rfl | assumption, by first | rfl | assumption, by first | rfl | assumption, by first | rfl | assumption, ⟨?_⟩⟩)
    all_goals first
      | replace hr := hr.go
      | skip
    all_goals clear hk2 hJ hx hs e1 e2 e3 e7
    all_goals first
      | (symm
         rw [decide_eq_false_iff_not]
         refine fun h => h.2.1 ?_
         clear h)
      | skip
    all_goals first
      | omega
      | (simp_all; done)
      | (simp_all; omega)
      | (refine Or.inl (fun hh => ?_)
         have h9 := his.go
         rw [decide_eq_true hh] at h9
         simp_all)
      | skip
  clear e1 e2 e3 e7
  rintro e Hc2 ⟨hHc, e1, e2, e3, e7, c2⟩
  subst Hc2
  rw [w_seq]
  refine W.cutC (fun e H' => H' = Hc ∧ e 1 = .int .i64 n ∧ e 2 = .bool lb ∧ e 3 = .pointer (some ⟨jx, 0, none⟩) ∧ e 7 = .pointer (some ⟨js, 0, none⟩) ∧ Hd (¬ ((fa = true ∧ ¬ (0 ≤ x.a ∧ x.a < 32)) ∨ (fa = false ∧ x.a ≠ 0)))) (fun J hJ => ?_) ?_
  · repeat' (first
      | (simp (disch := first | omega | assumption) only [go_sem, ↓reduceIte, Nat.reduceEqDiff, reduceCtorEq, Nat.reduceAdd, Nat.reduceMul, Int.reduceToNat, Nat.reduceShiftRight, Nat.reduceAnd, Nat.reduceBNe, Nat.reduceBneDiff, Nat.reduceLT, Nat.reduceLeDiff, Int.reduceLT, Int.reduceLE, Int.reduceEq, Int.reduceAdd, Int.reduceSub, *])
      | (refine br_prop (fun hb => ?_) (fun hb => ?_) <;> try (exfalso; omega))
      | refine br_not ?_
      | (refine by_prop (fun hb => ?_) (fun hb => ?_) <;> try (exfalso; omega))
      | (refine by_prop' (fun hb => ?_) (fun hb => ?_) <;> try (exfalso; omega))
      | refine by_not ?_
      | refine w_drawn (by kernel_rfl) ?_
      | refine new_i' (by rfl) (fun j hj hn => ?_)
      | refine new_i (fun j hn => ?_)
      | refine br_bool (fun hb => ?_) (fun hb => ?_)
      | refine by_bool (fun hb => ?_) (fun hb => ?_)
      | refine by_bool' (fun hb => ?_) (fun hb => ?_))
    all_goals first
      | refine call_i (reg48q _ _ _ fun r hr => ?_)
      | skip
    all_goals
      repeat' (first
        | (simp (disch := first | omega | assumption) only [go_sem, ↓reduceIte, Nat.reduceEqDiff, reduceCtorEq, Nat.reduceAdd, Nat.reduceMul, Int.reduceToNat, Nat.reduceShiftRight, Nat.reduceAnd, Nat.reduceBNe, Nat.reduceBneDiff, Nat.reduceLT, Nat.reduceLeDiff, Int.reduceLT, Int.reduceLE, Int.reduceEq, Int.reduceAdd, Int.reduceSub, *])
        | (refine br_prop (fun hb => ?_) (fun hb => ?_) <;> try (exfalso; omega))
        | refine br_not ?_
        | (refine by_prop (fun hb => ?_) (fun hb => ?_) <;> try (exfalso; omega))
        | (refine by_prop' (fun hb => ?_) (fun hb => ?_) <;> try (exfalso; omega))
        | refine by_not ?_
        | refine w_drawn (by kernel_rfl) ?_
        | refine new_i' (by rfl) (fun j hj hn => ?_)
        | refine new_i (fun j hn => ?_)
        | refine br_bool (fun hb => ?_) (fun hb => ?_)
        | refine by_bool (fun hb => ?_) (fun hb => ?_)
        | refine by_bool' (fun hb => ?_) (fun hb => ?_))
    all_goals first
      | refine hk2.go _ false ?_ hg.go
      | refine inv_i (hJ.go _ _ ⟨rfl, by first | rfl | assumption, by first | rfl | assumption, by first | rfl | assumption, by first | rfl | assumption, ⟨?_⟩⟩)
    all_goals first
      | replace hr := hr.go
      | skip
    all_goals clear hk2 hJ hx hs e1 e2 e3 e7
    all_goals first
      | (symm
         rw [decide_eq_false_iff_not]
         refine fun h => h.2.2.1 ?_
         clear h)
      | skip
    all_goals first
      | omega
      | (simp_all; done)
      | (simp_all; omega)
      | (refine Or.inl (fun hh => ?_)
         have h9 := his.go
         rw [decide_eq_true hh] at h9
         simp_all)
      | skip
  clear e1 e2 e3 e7
  rintro e Hc2 ⟨hHc, e1, e2, e3, e7, c3⟩
  subst Hc2
  rw [w_seq]
  refine W.cutC (fun e H' => H' = Hc ∧ e 1 = .int .i64 n ∧ e 2 = .bool lb ∧ e 3 = .pointer (some ⟨jx, 0, none⟩) ∧ e 7 = .pointer (some ⟨js, 0, none⟩) ∧ e 8 = .bool fv) (fun J hJ => ?_) ?_
  · repeat' (first
      | (simp (disch := first | omega | assumption) only [go_sem, ↓reduceIte, Nat.reduceEqDiff, reduceCtorEq, Nat.reduceAdd, Nat.reduceMul, Int.reduceToNat, Nat.reduceShiftRight, Nat.reduceAnd, Nat.reduceBNe, Nat.reduceBneDiff, Nat.reduceLT, Nat.reduceLeDiff, Int.reduceLT, Int.reduceLE, Int.reduceEq, Int.reduceAdd, Int.reduceSub, *])
      | (refine br_prop (fun hb => ?_) (fun hb => ?_) <;> try (exfalso; omega))
      | refine br_not ?_
      | (refine by_prop (fun hb => ?_) (fun hb => ?_) <;> try (exfalso; omega))
      | (refine by_prop' (fun hb => ?_) (fun hb => ?_) <;> try (exfalso; omega))
      | refine by_not ?_
      | refine w_drawn (by kernel_rfl) ?_
      | refine new_i' (by rfl) (fun j hj hn => ?_)
      | refine new_i (fun j hn => ?_)
      | refine br_bool (fun hb => ?_) (fun hb => ?_)
      | refine by_bool (fun hb => ?_) (fun hb => ?_)
      | refine by_bool' (fun hb => ?_) (fun hb => ?_))
    exact inv_i (hJ.go _ _ ⟨rfl, by first | rfl | assumption, by first | rfl | assumption, by first | rfl | assumption, by first | rfl | assumption, by first | rfl | assumption⟩)
  clear e1 e2 e3 e7
  rintro e Hc2 ⟨hHc, e1, e2, e3, e7, e8⟩
  subst Hc2
  rw [w_seq]
  refine W.cutC (fun e H' => H' = Hc ∧ e 1 = .int .i64 n ∧ e 2 = .bool lb ∧ e 3 = .pointer (some ⟨jx, 0, none⟩) ∧ e 7 = .pointer (some ⟨js, 0, none⟩) ∧ (∃ v1, e 8 = .bool v1 ∧ (v1 = false ↔ (fv = false ∨ (x.op = 43 ∧ x.b ≠ -1)))) ∧ Hd (¬ ((fb = false ∧ x.b ≠ 0) ∨ (fb = true ∧ ¬ (0 ≤ x.b ∧ x.b < 32) ∧ ¬ (nb = true ∧ x.b = -1))))) (fun J hJ => ?_) ?_
  · repeat' (first
      | (simp (disch := first | omega | assumption) only [go_sem, ↓reduceIte, Nat.reduceEqDiff, reduceCtorEq, Nat.reduceAdd, Nat.reduceMul, Int.reduceToNat, Nat.reduceShiftRight, Nat.reduceAnd, Nat.reduceBNe, Nat.reduceBneDiff, Nat.reduceLT, Nat.reduceLeDiff, Int.reduceLT, Int.reduceLE, Int.reduceEq, Int.reduceAdd, Int.reduceSub, *])
      | (refine br_prop (fun hb => ?_) (fun hb => ?_) <;> try (exfalso; omega))
      | refine br_not ?_
      | (refine by_prop (fun hb => ?_) (fun hb => ?_) <;> try (exfalso; omega))
      | (refine by_prop' (fun hb => ?_) (fun hb => ?_) <;> try (exfalso; omega))
      | refine by_not ?_
      | refine w_drawn (by kernel_rfl) ?_
      | refine new_i' (by rfl) (fun j hj hn => ?_)
      | refine new_i (fun j hn => ?_)
      | refine br_bool (fun hb => ?_) (fun hb => ?_)
      | refine by_bool (fun hb => ?_) (fun hb => ?_)
      | refine by_bool' (fun hb => ?_) (fun hb => ?_))
    all_goals first
      | refine call_i (reg48q _ _ _ fun r hr => ?_)
      | skip
    all_goals
      repeat' (first
        | (simp (disch := first | omega | assumption) only [go_sem, ↓reduceIte, Nat.reduceEqDiff, reduceCtorEq, Nat.reduceAdd, Nat.reduceMul, Int.reduceToNat, Nat.reduceShiftRight, Nat.reduceAnd, Nat.reduceBNe, Nat.reduceBneDiff, Nat.reduceLT, Nat.reduceLeDiff, Int.reduceLT, Int.reduceLE, Int.reduceEq, Int.reduceAdd, Int.reduceSub, *])
        | (refine br_prop (fun hb => ?_) (fun hb => ?_) <;> try (exfalso; omega))
        | refine br_not ?_
        | (refine by_prop (fun hb => ?_) (fun hb => ?_) <;> try (exfalso; omega))
        | (refine by_prop' (fun hb => ?_) (fun hb => ?_) <;> try (exfalso; omega))
        | refine by_not ?_
        | refine w_drawn (by kernel_rfl) ?_
        | refine new_i' (by rfl) (fun j hj hn => ?_)
        | refine new_i (fun j hn => ?_)
        | refine br_bool (fun hb => ?_) (fun hb => ?_)
        | refine by_bool (fun hb => ?_) (fun hb => ?_)
        | refine by_bool' (fun hb => ?_) (fun hb => ?_))
    all_goals first
      | refine hk2.go _ false ?_ hg.go
      | refine inv_i (hJ.go _ _ ⟨rfl, by first | rfl | assumption, by first | rfl | assumption, by first | rfl | assumption, by first | rfl | assumption, ⟨_, by first | rfl | assumption, ?_⟩, ⟨?_⟩⟩)
    all_goals first
      | replace hr := hr.go
      | skip
    all_goals clear hk2 hJ hx hs e1 e2 e3 e7 e8
    all_goals first
      | (symm
         rw [decide_eq_false_iff_not]
         refine fun h => h.2.2.2.1 ?_
         clear h)
      | skip
    all_goals first
      | omega
      | (simp_all; done)
      | (simp_all; omega)
      | (refine Or.inl (fun hh => ?_)
         have h9 := his.go
         rw [decide_eq_true hh] at h9
         simp_all)
      | skip
  clear e1 e2 e3 e7 e8
  rintro e Hc2 ⟨hHc, e1, e2, e3, e7, ⟨v1, e8, hv1⟩, c4⟩
  subst Hc2
  replace hv1 := Hd.mk hv1
  rw [w_seq]
  refine W.cutC (fun e H' => H' = Hc ∧ e 1 = .int .i64 n ∧ e 2 = .bool lb ∧ e 3 = .pointer (some ⟨jx, 0, none⟩) ∧ e 7 = .pointer (some ⟨js, 0, none⟩) ∧ (∃ v2, e 8 = .bool v2 ∧ (v2 = false ↔ (v1 = false ∨ (nc = true ∧ x.c ≠ -1)))) ∧ Hd (¬ ((fc = false ∧ x.c ≠ 0) ∨ (fc = true ∧ ¬ (0 ≤ x.c ∧ x.c < 32) ∧ ¬ (nc = true ∧ x.c = -1))))) (fun J hJ => ?_) ?_
  · repeat' (first
      | (simp (disch := first | omega | assumption) only [go_sem, ↓reduceIte, Nat.reduceEqDiff, reduceCtorEq, Nat.reduceAdd, Nat.reduceMul, Int.reduceToNat, Nat.reduceShiftRight, Nat.reduceAnd, Nat.reduceBNe, Nat.reduceBneDiff, Nat.reduceLT, Nat.reduceLeDiff, Int.reduceLT, Int.reduceLE, Int.reduceEq, Int.reduceAdd, Int.reduceSub, *])
      | (refine br_prop (fun hb => ?_) (fun hb => ?_) <;> try (exfalso; omega))
      | refine br_not ?_
      | (refine by_prop (fun hb => ?_) (fun hb => ?_) <;> try (exfalso; omega))
      | (refine by_prop' (fun hb => ?_) (fun hb => ?_) <;> try (exfalso; omega))
      | refine by_not ?_
      | refine w_drawn (by kernel_rfl) ?_
      | refine new_i' (by rfl) (fun j hj hn => ?_)
      | refine new_i (fun j hn => ?_)
      | refine br_bool (fun hb => ?_) (fun hb => ?_)
      | refine by_bool (fun hb => ?_) (fun hb => ?_)
      | refine by_bool' (fun hb => ?_) (fun hb => ?_))
    all_goals first
      | refine call_i (reg48q _ _ _ fun r hr => ?_)
      | skip
    all_goals
      repeat' (first
        | (simp (disch := first | omega | assumption) only [go_sem, ↓reduceIte, Nat.reduceEqDiff, reduceCtorEq, Nat.reduceAdd, Nat.reduceMul, Int.reduceToNat, Nat.reduceShiftRight, Nat.reduceAnd, Nat.reduceBNe, Nat.reduceBneDiff, Nat.reduceLT, Nat.reduceLeDiff, Int.reduceLT, Int.reduceLE, Int.reduceEq, Int.reduceAdd, Int.reduceSub, *])
        | (refine br_prop (fun hb => ?_) (fun hb => ?_) <;> try (exfalso; omega))
        | refine br_not ?_
        | (refine by_prop (fun hb => ?_) (fun hb => ?_) <;> try (exfalso; omega))
        | (refine by_prop' (fun hb => ?_) (fun hb => ?_) <;> try (exfalso; omega))
        | refine by_not ?_
        | refine w_drawn (by kernel_rfl) ?_
        | refine new_i' (by rfl) (fun j hj hn => ?_)
        | refine new_i (fun j hn => ?_)
        | refine br_bool (fun hb => ?_) (fun hb => ?_)
        | refine by_bool (fun hb => ?_) (fun hb => ?_)
        | refine by_bool' (fun hb => ?_) (fun hb => ?_))
    all_goals first
      | refine hk2.go _ false ?_ hg.go
      | refine inv_i (hJ.go _ _ ⟨rfl, by first | rfl | assumption, by first | rfl | assumption, by first | rfl | assumption, by first | rfl | assumption, ⟨_, by first | rfl | assumption, ?_⟩, ⟨?_⟩⟩)
    all_goals first
      | replace hr := hr.go
      | skip
    all_goals clear hk2 hJ hx hs e1 e2 e3 e7 e8
    all_goals first
      | (symm
         rw [decide_eq_false_iff_not]
         refine fun h => h.2.2.2.2.1 ?_
         clear h)
      | skip
    all_goals first
      | omega
      | (simp_all; done)
      | (simp_all; omega)
      | (refine Or.inl (fun hh => ?_)
         have h9 := his.go
         rw [decide_eq_true hh] at h9
         simp_all)
      | skip
  clear e1 e2 e3 e7 e8
  rintro e Hc2 ⟨hHc, e1, e2, e3, e7, ⟨v2, e8, hv2⟩, c5⟩
  subst Hc2
  replace hv2 := Hd.mk hv2
  rw [w_seq]
  repeat' (first
    | (simp (disch := first | omega | assumption) only [go_sem, ↓reduceIte, Nat.reduceEqDiff, reduceCtorEq, Nat.reduceAdd, Nat.reduceMul, Int.reduceToNat, Nat.reduceShiftRight, Nat.reduceAnd, Nat.reduceBNe, Nat.reduceBneDiff, Nat.reduceLT, Nat.reduceLeDiff, Int.reduceLT, Int.reduceLE, Int.reduceEq, Int.reduceAdd, Int.reduceSub, *])
    | (refine br_prop (fun hb => ?_) (fun hb => ?_) <;> try (exfalso; omega))
    | refine br_not ?_
    | (refine by_prop (fun hb => ?_) (fun hb => ?_) <;> try (exfalso; omega))
    | (refine by_prop' (fun hb => ?_) (fun hb => ?_) <;> try (exfalso; omega))
    | refine by_not ?_
    | refine w_drawn (by kernel_rfl) ?_
    | refine new_i' (by rfl) (fun j hj hn => ?_)
    | refine new_i (fun j hn => ?_)
    | refine br_bool (fun hb => ?_) (fun hb => ?_)
    | refine by_bool (fun hb => ?_) (fun hb => ?_)
    | refine by_bool' (fun hb => ?_) (fun hb => ?_))
  all_goals first
    | refine hk2.go _ true ?_ hg.go
    | refine hk2.go _ false ?_ hg.go
  all_goals
    have hx2 : v2 = false ↔ (fv = false ∨ (x.op = 43 ∧ x.b ≠ -1) ∨ (nc = true ∧ x.c ≠ -1)) := by rw [hv2.go, hv1.go, or_assoc]
    clear hv1 hv2
    clear hk2 hx hs e1 e2 e3 e7 e8
  all_goals first
    | (symm
       rw [decide_eq_false_iff_not]
       refine fun h => h.2.2.2.2.2 ?_
       clear h c1 c2 c3 c4 c5)
    | (symm
       rw [decide_eq_true_iff]
       refine ⟨?_, c2.go, c3.go, c4.go, c5.go, ?_⟩
       · have h := c1.go
         rw [his.go] at h
         simpa using h
       clear c1 c2 c3 c4 c5)
  all_goals clear his
  all_goals rw [← hx2]
  all_goals clear hx2
  all_goals first
    | omega
    | (simp_all; done)
    | (simp_all; omega)
end Go.Proofs
namespace Go.Proofs
set_option linter.unusedSimpArgs false
set_option linter.unusedVariables false
set_option linter.unusedSectionVars false
open Go Go.Ab AsmM
variable [Go.Ab.Start]
set_option maxRecDepth 100000
set_option maxHeartbeats 1000000
theorem reg_iff (n : Int) (u l : Bool) : regOk n u l = true ↔ ¬ ((u = true ∧ ¬ (0 ≤ n ∧ n < 32) ∧ ¬ (l = true ∧ n = -1)) ∨ (u = false ∧ n ≠ 0)) := by
  unfold regOk
  cases u <;> cases l <;> simp <;> omega
theorem num_facts : ∀ k : Fin 58, ((isJump ((k.val : Int) + 1) = true → (fields ((k.val : Int) + 1)).2.2.2 = true ∧ lessC ((k.val : Int) + 1) = false) ∧ (lessC ((k.val : Int) + 1) = true → (fields ((k.val : Int) + 1)).2.2.2 = true)) ∧ (((k.val : Int) + 1) = 22 → (fields ((k.val : Int) + 1)).2.2.2 = true) ∧ (((k.val : Int) + 1) = 43 → (fields ((k.val : Int) + 1)).2.2.2 = true) := by decide +kernel
theorem num_iff (x : Ins) (n : Int) (h1 : 1 ≤ x.op) (h2 : x.op ≤ 58) : numOk x (fields x.op).2.2.2 n = true ↔ ¬ ((((fields x.op).2.2.2 = false ∨ (x.op = 43 ∧ x.b ≠ -1) ∨ (lessC x.op = true ∧ x.c ≠ -1)) ∧ x.v ≠ 0) ∨ (isJump x.op = true ∧ n ≤ x.v) ∨ (x.op = 22 ∧ 1000 ≤ x.v)) := by
  obtain ⟨k, hk1, hk2⟩ : ∃ k : Nat, k < 58 ∧ x.op = (k : Int) + 1 := ⟨(x.op - 1).toNat, by omega, by omega⟩
  have h := num_facts ⟨k, hk1⟩
  simp only at h
  rw [← hk2] at h
  obtain ⟨⟨f1, f2⟩, f3, f4⟩ := h
  have j1 : isJump x.op = true ↔ (x.op = 12 ∨ x.op = 13 ∨ x.op = 14 ∨ x.op = 15) := decide_eq_true_iff
  have c1 : lessC x.op = true ↔ (3 ≤ x.op ∧ x.op ≤ 11) := decide_eq_true_iff
  unfold numOk
  rw [j1] at f1
  rw [c1] at f2
  rw [j1, c1]
  by_cases q1 : x.op = 12 ∨ x.op = 13 ∨ x.op = 14 ∨ x.op = 15
  · rw [if_pos q1, (f1 q1).1, decide_eq_true_iff]
    simp only [reduceCtorEq, false_or]
    omega
  rw [if_neg q1]
  by_cases q2 : x.op = 22
  · rw [if_pos q2, f3 q2, decide_eq_true_iff]
    simp only [reduceCtorEq, false_or]
    omega
  rw [if_neg q2]
  by_cases q3 : 3 ≤ x.op ∧ x.op ≤ 11
  · rw [if_pos q3, f2 q3, Bool.or_eq_true, decide_eq_true_iff, decide_eq_true_iff]
    simp only [reduceCtorEq, false_or]
    omega
  rw [if_neg q3]
  by_cases q4 : x.op = 43
  · rw [if_pos q4, f4 q4, Bool.or_eq_true, decide_eq_true_iff, decide_eq_true_iff]
    simp only [reduceCtorEq, false_or]
    omega
  rw [if_neg q4, Bool.or_eq_true, decide_eq_true_iff]
  cases (fields x.op).2.2.2
  · simp only [reduceCtorEq, false_or, true_or, true_and, Bool.false_eq_true]
    omega
  · simp only [reduceCtorEq, false_or, true_or, true_and, true_iff]
    omega
theorem right_valid (x : Ins) (n : Int) : (rightM x n true = true ∨ rightM x n false = true) ↔ valid n x = true := by
  unfold rightM valid may
  rw [decide_eq_true_iff, decide_eq_true_iff]
  have hl : lib x = true ↔ (22 < x.op ∨ x.m ≠ 0) := decide_eq_true_iff
  by_cases hop : 1 ≤ x.op ∧ x.op ≤ 58
  · have hn := num_iff x n hop.1 hop.2
    have ha := reg_iff x.a (fields x.op).1 false
    have hb := reg_iff x.b (fields x.op).2.1 (lessB x.op)
    have hc := reg_iff x.c (fields x.op).2.2.1 (lessC x.op)
    have hF : fields x.op = ((fields x.op).1, (fields x.op).2.1, (fields x.op).2.2.1, (fields x.op).2.2.2) := rfl
    rw [hF]
    simp only
    generalize (fields x.op).1 = fa at *
    generalize (fields x.op).2.1 = fb at *
    generalize (fields x.op).2.2.1 = fc at *
    generalize (fields x.op).2.2.2 = fv at *
    generalize lessB x.op = nb at *
    generalize lessC x.op = nc at *
    generalize isJump x.op = pl at *
    generalize regOk x.a fa false = ra at *
    generalize regOk x.b fb nb = rb at *
    generalize regOk x.c fc nc = rc at *
    generalize numOk x fv n = rn at *
    generalize lib x = lb at *
    rw [← hn]
    have e1 : ¬ (fb = false ∧ x.b ≠ 0 ∨ fb = true ∧ ¬ (0 ≤ x.b ∧ x.b < 32) ∧ ¬ (nb = true ∧ x.b = -1)) ↔ rb = true := by rw [hb, or_comm]
    have e2 : ¬ (fc = false ∧ x.c ≠ 0 ∨ fc = true ∧ ¬ (0 ≤ x.c ∧ x.c < 32) ∧ ¬ (nc = true ∧ x.c = -1)) ↔ rc = true := by rw [hc, or_comm]
    have e3 : ¬ (fa = true ∧ ¬ (0 ≤ x.a ∧ x.a < 32) ∨ fa = false ∧ x.a ≠ 0) ↔ ra = true := by rw [ha]; simp
    rw [e1, e2, e3]
    clear hn ha hb hc hF e1 e2 e3
    by_cases hb0 : (x.op < 1 ∨ 58 < x.op ∨ lb = true ∧ x.op = 22 ∨ lb = false ∧ (22 < x.op ∨ x.m ≠ 0))
    · rw [if_pos hb0]
      simp only [Bool.false_eq_true, iff_false]
      cases lb <;> simp_all <;> omega
    · rw [if_neg hb0]
      cases ra <;> cases rb <;> cases rc <;> cases rn <;> simp only [Bool.and_true, Bool.and_false, Bool.false_and, Bool.true_and, if_true, Bool.false_eq_true, and_false, false_and, or_false, false_or, iff_false, not_false_eq_true, reduceCtorEq, if_false]
      cases fa <;> cases lb <;> simp_all <;> omega
  · have hx : x.op < 1 ∨ 58 < x.op := by omega
    rw [if_pos (by rcases hx with h | h; exact .inl h; exact .inr (.inl h))]
    simp only [Bool.false_eq_true, iff_false]
    simp [hop]
end Go.Proofs
