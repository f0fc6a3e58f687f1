/-
  A part of the proofs: EC.
-/
import Derived.Test.YtnbfimppgcoajaaDoorDT
import Derived.Test.YtnbfimppgcoajaaDoorAbS
import Derived.Test.YtnbfimppgcoajaaDoorPA
import Derived.Test.YtnbfimppgcoajaaDoorER
import Derived.Test.YtnbfimppgcoajaaDoorEB
namespace Go.Proofs
set_option linter.unusedSimpArgs false
set_option linter.unusedVariables false
set_option linter.unusedSectionVars false
open Go Go.Ab AsmM
variable [Go.Ab.Start]
set_option maxRecDepth 100000
set_option maxHeartbeats 1000000
theorem named_walk (s : ByteArray) (H : AHeap) (K : Value → AHeap → Prop) (hbad : (s.size < 1 ∨ 16 < s.size ∨ (getB s 0).toNat < 97 ∨ 122 < (getB s 0).toNat) → K (.bool false) H)
    (hbad2 : ∀ j, j < s.size → ((getB s j).toNat < 97 ∨ 122 < (getB s j).toNat) → ((getB s j).toNat < 48 ∨ 57 < (getB s j).toNat) → K (.bool false) H)
    (hfin : ∀ ok : Bool, 1 ≤ s.size → s.size ≤ 16 → 97 ≤ (getB s 0).toNat → (getB s 0).toNat ≤ 122 → (∀ j, j < s.size → (97 ≤ (getB s j).toNat ∧ (getB s j).toNat ≤ 122) ∨ (48 ≤ (getB s j).toNat ∧ (getB s j).toNat ≤ 57)) → ok = (AsmM.register s.data.toList).isSome → K (.bool (!ok)) H) :
    ACalls Tryd.prog 35 #[.string s] H K := by
  refine w_enter (args := [.string s]) Tryd.func35 rfl (by kernel_rfl) D.mixed (by kernel_rfl) (rs := [.tmp 2]) rfl ?_
  repeat' (first
    | (simp (disch := first | omega | assumption) only [go_sem, ↓reduceIte, Nat.reduceEqDiff, reduceCtorEq, Nat.reduceAdd, Nat.reduceMul, Int.reduceToNat, Nat.reduceShiftRight, Nat.reduceAnd, Nat.reduceBNe, Nat.reduceBneDiff, Nat.reduceLT, Nat.reduceLeDiff, Int.reduceLT, Int.reduceLE, Int.reduceEq, Int.reduceAdd, Int.reduceSub, *])
    | (refine br_prop (fun hb => ?_) (fun hb => ?_) <;> try (exfalso; omega))
    | refine br_not ?_
    | (refine by_prop (fun hb => ?_) (fun hb => ?_) <;> try (exfalso; omega))
    | (refine by_prop' (fun hb => ?_) (fun hb => ?_) <;> try (exfalso; omega))
    | refine by_not ?_
    | refine w_drawn (by kernel_rfl) ?_
    | refine new_i' (by rfl) (fun j hj hn => ?_)
    | refine new_i (fun j hn => ?_)
    | refine br_bool (fun hb => ?_) (fun hb => ?_)
    | refine by_bool (fun hb => ?_) (fun hb => ?_)
    | refine by_bool' (fun hb => ?_) (fun hb => ?_))
  all_goals first
    | exact hbad (by omega)
    | refine W.loopF 4503599610593292 (fun n e H' => H' = H ∧ ∃ i : Nat, e 3 = .int .i64 i ∧ i ≤ s.size ∧ n = s.size - i ∧ (∀ j, j < i → (97 ≤ (getB s j).toNat ∧ (getB s j).toNat ≤ 122) ∨ (48 ≤ (getB s j).toNat ∧ (getB s j).toNat ≤ 57))) s.size (by kernel_rfl) ⟨rfl, 0, by first | (simp (disch := first | omega | assumption) only [go_sem, ↓reduceIte, Nat.reduceEqDiff, reduceCtorEq, Nat.reduceAdd, Nat.reduceMul, Int.reduceToNat, Nat.reduceShiftRight, Nat.reduceAnd, Nat.reduceBNe, Nat.reduceBneDiff, Nat.reduceLT, Nat.reduceLeDiff, Int.reduceLT, Int.reduceLE, Int.reduceEq, Int.reduceAdd, Int.reduceSub, *]; done) | (simp (disch := first | omega | assumption) only [go_sem, ↓reduceIte, Nat.reduceEqDiff, reduceCtorEq, Nat.reduceAdd, Nat.reduceMul, Int.reduceToNat, Nat.reduceShiftRight, Nat.reduceAnd, Nat.reduceBNe, Nat.reduceBneDiff, Nat.reduceLT, Nat.reduceLeDiff, Int.reduceLT, Int.reduceLE, Int.reduceEq, Int.reduceAdd, Int.reduceSub, *]; rfl), by omega, by omega, fun j h => by omega⟩ ?_
  rintro n e _ J hJ ⟨rfl, i, h3, hi2, rfl, hall⟩
  repeat' (first
    | (simp (disch := first | omega | assumption) only [go_sem, ↓reduceIte, Nat.reduceEqDiff, reduceCtorEq, Nat.reduceAdd, Nat.reduceMul, Int.reduceToNat, Nat.reduceShiftRight, Nat.reduceAnd, Nat.reduceBNe, Nat.reduceBneDiff, Nat.reduceLT, Nat.reduceLeDiff, Int.reduceLT, Int.reduceLE, Int.reduceEq, Int.reduceAdd, Int.reduceSub, *])
    | (refine br_prop (fun hb => ?_) (fun hb => ?_) <;> try (exfalso; omega))
    | refine br_not ?_
    | (refine by_prop (fun hb => ?_) (fun hb => ?_) <;> try (exfalso; omega))
    | (refine by_prop' (fun hb => ?_) (fun hb => ?_) <;> try (exfalso; omega))
    | refine by_not ?_
    | refine w_drawn (by kernel_rfl) ?_
    | refine new_i' (by rfl) (fun j hj hn => ?_)
    | refine new_i (fun j hn => ?_)
    | refine br_bool (fun hb => ?_) (fun hb => ?_)
    | refine by_bool (fun hb => ?_) (fun hb => ?_)
    | refine by_bool' (fun hb => ?_) (fun hb => ?_))
  all_goals first
    | exact hbad2 i (by omega) (by omega) (by omega)
    | refine call_i (reg_spec _ _ _ fun v ok hr => ?_)
    | exact inv_i (hJ.go _ _ ⟨s.size - (i + 1), by omega, rfl, i + 1, rfl, by omega, rfl, fun j h => by by_cases hj : j = i; subst hj; omega; exact hall j (by omega)⟩)
  repeat' (first
    | (simp (disch := first | omega | assumption) only [go_sem, ↓reduceIte, Nat.reduceEqDiff, reduceCtorEq, Nat.reduceAdd, Nat.reduceMul, Int.reduceToNat, Nat.reduceShiftRight, Nat.reduceAnd, Nat.reduceBNe, Nat.reduceBneDiff, Nat.reduceLT, Nat.reduceLeDiff, Int.reduceLT, Int.reduceLE, Int.reduceEq, Int.reduceAdd, Int.reduceSub, hr])
    | (refine br_prop (fun hb => ?_) (fun hb => ?_) <;> try (exfalso; omega))
    | refine br_not ?_
    | (refine by_prop (fun hb => ?_) (fun hb => ?_) <;> try (exfalso; omega))
    | (refine by_prop' (fun hb => ?_) (fun hb => ?_) <;> try (exfalso; omega))
    | refine by_not ?_
    | refine w_drawn (by kernel_rfl) ?_
    | refine new_i' (by rfl) (fun j hj hn => ?_)
    | refine new_i (fun j hn => ?_)
    | refine br_bool (fun hb => ?_) (fun hb => ?_)
    | refine by_bool (fun hb => ?_) (fun hb => ?_)
    | refine by_bool' (fun hb => ?_) (fun hb => ?_))
  refine hfin ok (by omega) (by omega) (by omega) (by omega) (fun j h => hall j (by omega)) ?_
  cases hq : AsmM.register s.data.toList <;> rw [hq] at hr <;> simp_all
theorem isLow_iff (c : UInt8) : AsmM.isLow c = true ↔ 97 ≤ c.toNat ∧ c.toNat ≤ 122 := by
  simp only [AsmM.isLow, Bool.and_eq_true, decide_eq_true_eq, UInt8.le_iff_toNat_le]
  rfl
theorem isDig_iff (c : UInt8) : AsmM.isDig c = true ↔ 48 ≤ c.toNat ∧ c.toNat ≤ 57 := by
  simp only [AsmM.isDig, Bool.and_eq_true, decide_eq_true_eq, UInt8.le_iff_toNat_le]
  rfl
theorem named_iff (bs : List UInt8) : AsmM.named bs = true ↔ 1 ≤ bs.length ∧ bs.length ≤ 16 ∧ (97 ≤ (bs.getD 0 0).toNat ∧ (bs.getD 0 0).toNat ≤ 122) ∧ (∀ j, j < bs.length → (97 ≤ (bs.getD j 0).toNat ∧ (bs.getD j 0).toNat ≤ 122) ∨ (48 ≤ (bs.getD j 0).toNat ∧ (bs.getD j 0).toNat ≤ 57)) ∧ AsmM.register bs = none := by
  unfold AsmM.named
  simp only [Bool.and_eq_true, decide_eq_true_eq, Option.isNone_iff_eq_none, List.all_eq_true, Bool.or_eq_true, isLow_iff, isDig_iff]
  constructor
  · rintro ⟨⟨⟨⟨h1, h2⟩, h3⟩, h4⟩, h5⟩
    refine ⟨h1, h2, ?_, fun j hj => ?_, h5⟩
    · cases bs with
      | nil => simp at h1
      | cons c r => simpa [isLow_iff] using h3
    · rw [List.getD_eq_getElem?_getD, List.getElem?_eq_getElem hj]
      exact h4 _ (List.getElem_mem hj)
  · rintro ⟨h1, h2, h3, h4, h5⟩
    refine ⟨⟨⟨⟨h1, h2⟩, ?_⟩, ?_⟩, h5⟩
    · cases bs with
      | nil => simp at h1
      | cons c r => simpa [isLow_iff] using h3
    · intro c hc
      obtain ⟨j, hj, rfl⟩ := List.getElem_of_mem hc
      have := h4 j hj
      rw [List.getD_eq_getElem?_getD, List.getElem?_eq_getElem hj] at this
      exact this
theorem named_spec (s : ByteArray) (H : AHeap) (K : Value → AHeap → Prop) (hk : K (.bool (AsmM.named s.data.toList)) H) : ACalls Tryd.prog 35 #[.string s] H K := by
  have no : ¬ AsmM.named s.data.toList = true → K (.bool false) H := fun h => by
    rw [Bool.not_eq_true] at h; rw [h] at hk; exact hk
  refine named_walk s H K (fun h => no ?_) (fun j h1 h2 h3 => no ?_) fun ok h1 h2 h3 h4 h5 h6 => ?_
  · rw [named_iff, ← size_eq]
    rintro ⟨a, b, c, -⟩
    have c' : 97 ≤ (getB s 0).toNat ∧ (getB s 0).toNat ≤ 122 := c
    omega
  · rw [named_iff, ← size_eq]
    rintro ⟨a, b, c, d, -⟩
    have d' : (97 ≤ (getB s j).toNat ∧ (getB s j).toNat ≤ 122) ∨ (48 ≤ (getB s j).toNat ∧ (getB s j).toNat ≤ 57) := d j h1
    omega
  · cases hq : AsmM.register s.data.toList with
    | none =>
      have : AsmM.named s.data.toList = true := (named_iff _).2 ⟨by rw [← size_eq]; exact h1, by rw [← size_eq]; exact h2, ⟨h3, h4⟩, fun j hj => h5 j (by rw [size_eq]; exact hj), hq⟩
      rw [this] at hk
      rw [h6, hq]; exact hk
    | some n =>
      rw [h6, hq]
      exact no (by rw [named_iff]; rintro ⟨-, -, -, -, h⟩; rw [hq] at h; cases h)

def asmB : ByteArray := ⟨#[97, 115, 109]⟩
def wordB : ByteArray := ⟨#[119, 111, 114, 100]⟩
def codeB : ByteArray := ⟨#[99, 111, 100, 101]⟩
theorem wfail (n : Int) (t : TypeId) (v : Value) (H : AHeap) (K : Value → AHeap → Prop) (hk : ∀ i, H i = .none → K (.iface 68 (.pointer (some ⟨i, 0, none⟩))) (H.set i (.cells [.string wordB, .int .i64 n, .iface t v]))) : ACalls Tryd.prog 82 #[.int .i64 n, .iface t v] H K := by
  refine w_enter (args := [.int .i64 n, .iface t v]) Tryd.func82 rfl (by kernel_rfl) D.mixed (by kernel_rfl) (rs := [.tmp 4]) rfl ?_
  repeat' (first
    | (simp (disch := first | omega | assumption) only [go_sem, ↓reduceIte, Nat.reduceEqDiff, reduceCtorEq, Nat.reduceAdd, Nat.reduceMul, Int.reduceToNat, Nat.reduceShiftRight, Nat.reduceAnd, Nat.reduceBNe, Nat.reduceBneDiff, Nat.reduceLT, Nat.reduceLeDiff, Int.reduceLT, Int.reduceLE, Int.reduceEq, Int.reduceAdd, Int.reduceSub, true_and])
    | (refine br_prop (fun hb => ?_) (fun hb => ?_) <;> try (exfalso; omega))
    | refine br_not ?_
    | (refine by_prop (fun hb => ?_) (fun hb => ?_) <;> try (exfalso; omega))
    | (refine by_prop' (fun hb => ?_) (fun hb => ?_) <;> try (exfalso; omega))
    | refine by_not ?_
    | refine w_drawn (by kernel_rfl) ?_
    | refine new_i' (by rfl) (fun j hj hn => ?_)
    | refine new_i (fun j hn => ?_)
    | refine br_bool (fun hb => ?_) (fun hb => ?_)
    | refine by_bool (fun hb => ?_) (fun hb => ?_)
    | refine by_bool' (fun hb => ?_) (fun hb => ?_))
  exact hk j hn
theorem afail (n : Int) (t : TypeId) (v : Value) (H : AHeap) (K : Value → AHeap → Prop) (hk : ∀ i, H i = .none → K (.iface 68 (.pointer (some ⟨i, 0, none⟩))) (H.set i (.cells [.string asmB, .int .i64 n, .iface t v]))) : ACalls Tryd.prog 19 #[.int .i64 n, .iface t v] H K := by
  refine w_enter (args := [.int .i64 n, .iface t v]) Tryd.func19 rfl (by kernel_rfl) D.mixed (by kernel_rfl) (rs := [.tmp 4]) rfl ?_
  repeat' (first
    | (simp (disch := first | omega | assumption) only [go_sem, ↓reduceIte, Nat.reduceEqDiff, reduceCtorEq, Nat.reduceAdd, Nat.reduceMul, Int.reduceToNat, Nat.reduceShiftRight, Nat.reduceAnd, Nat.reduceBNe, Nat.reduceBneDiff, Nat.reduceLT, Nat.reduceLeDiff, Int.reduceLT, Int.reduceLE, Int.reduceEq, Int.reduceAdd, Int.reduceSub, true_and])
    | (refine br_prop (fun hb => ?_) (fun hb => ?_) <;> try (exfalso; omega))
    | refine br_not ?_
    | (refine by_prop (fun hb => ?_) (fun hb => ?_) <;> try (exfalso; omega))
    | (refine by_prop' (fun hb => ?_) (fun hb => ?_) <;> try (exfalso; omega))
    | refine by_not ?_
    | refine w_drawn (by kernel_rfl) ?_
    | refine new_i' (by rfl) (fun j hj hn => ?_)
    | refine new_i (fun j hn => ?_)
    | refine br_bool (fun hb => ?_) (fun hb => ?_)
    | refine by_bool (fun hb => ?_) (fun hb => ?_)
    | refine by_bool' (fun hb => ?_) (fun hb => ?_))
  exact hk j hn
theorem cfail (n : Int) (t : TypeId) (v : Value) (H : AHeap) (K : Value → AHeap → Prop) (hk : ∀ i, H i = .none → K (.iface 68 (.pointer (some ⟨i, 0, none⟩))) (H.set i (.cells [.string codeB, .int .i64 n, .iface t v]))) : ACalls Tryd.prog 64 #[.int .i64 n, .iface t v] H K := by
  refine w_enter (args := [.int .i64 n, .iface t v]) Tryd.func64 rfl (by kernel_rfl) D.mixed (by kernel_rfl) (rs := [.tmp 4]) rfl ?_
  repeat' (first
    | (simp (disch := first | omega | assumption) only [go_sem, ↓reduceIte, Nat.reduceEqDiff, reduceCtorEq, Nat.reduceAdd, Nat.reduceMul, Int.reduceToNat, Nat.reduceShiftRight, Nat.reduceAnd, Nat.reduceBNe, Nat.reduceBneDiff, Nat.reduceLT, Nat.reduceLeDiff, Int.reduceLT, Int.reduceLE, Int.reduceEq, Int.reduceAdd, Int.reduceSub, true_and])
    | (refine br_prop (fun hb => ?_) (fun hb => ?_) <;> try (exfalso; omega))
    | refine br_not ?_
    | (refine by_prop (fun hb => ?_) (fun hb => ?_) <;> try (exfalso; omega))
    | (refine by_prop' (fun hb => ?_) (fun hb => ?_) <;> try (exfalso; omega))
    | refine by_not ?_
    | refine w_drawn (by kernel_rfl) ?_
    | refine new_i' (by rfl) (fun j hj hn => ?_)
    | refine new_i (fun j hn => ?_)
    | refine br_bool (fun hb => ?_) (fun hb => ?_)
    | refine by_bool (fun hb => ?_) (fun hb => ?_)
    | refine by_bool' (fun hb => ?_) (fun hb => ?_))
  exact hk j hn
theorem digit_walk (c : UInt8) (base : Nat) (hb : base ≤ 16) (hb2 : 10 ≤ base) (H : AHeap) (K : Value → AHeap → Prop) (hk : ∀ v : Int, (48 ≤ c.toNat → c.toNat ≤ 57 → v = c.toNat - 48) → (97 ≤ c.toNat → c.toNat ≤ 102 → v = c.toNat - 87) → (65 ≤ c.toNat → c.toNat ≤ 70 → v = c.toNat - 55) →
      (c.toNat < 48 ∨ (57 < c.toNat ∧ c.toNat < 65) ∨ (70 < c.toNat ∧ c.toNat < 97) ∨ 102 < c.toNat → v = 99) → K (.tuple #[.int .u64 v, .bool (decide (v < base))]) H) : ACalls Tryd.prog 81 #[.int .u8 c.toNat, .int .u64 base] H K := by
  refine w_enter (args := [.int .u8 c.toNat, .int .u64 base]) Tryd.func81 rfl (by kernel_rfl) D.mixed (by kernel_rfl) (rs := [.tmp 4, .tmp 5]) rfl ?_
  have hc := c.toNat_lt
  repeat' (first
    | (simp (disch := first | omega | assumption) only [go_sem, ↓reduceIte, Nat.reduceEqDiff, reduceCtorEq, Nat.reduceAdd, Nat.reduceMul, Int.reduceToNat, Nat.reduceShiftRight, Nat.reduceAnd, Nat.reduceBNe, Nat.reduceBneDiff, Nat.reduceLT, Nat.reduceLeDiff, Int.reduceLT, Int.reduceLE, Int.reduceEq, Int.reduceAdd, Int.reduceSub, *])
    | (refine br_prop (fun hb => ?_) (fun hb => ?_) <;> try (exfalso; omega))
    | refine br_not ?_
    | (refine by_prop (fun hb => ?_) (fun hb => ?_) <;> try (exfalso; omega))
    | (refine by_prop' (fun hb => ?_) (fun hb => ?_) <;> try (exfalso; omega))
    | refine by_not ?_
    | refine w_drawn (by kernel_rfl) ?_
    | refine new_i' (by rfl) (fun j hj hn => ?_)
    | refine new_i (fun j hn => ?_)
    | refine br_bool (fun hb => ?_) (fun hb => ?_)
    | refine by_bool (fun hb => ?_) (fun hb => ?_)
    | refine by_bool' (fun hb => ?_) (fun hb => ?_))
  all_goals (refine hk _ ?_ ?_ ?_ ?_ <;> omega)
theorem digit_spec (c : UInt8) (base : Nat) (hb : base ≤ 16) (hb2 : 10 ≤ base) (H : AHeap) (K : Value → AHeap → Prop) (hk : ∀ (v : Int) (ok : Bool), (match AsmM.digit c base with | some d => ok = true ∧ v = d | none => ok = false) → 0 ≤ v → v ≤ 99 → K (.tuple #[.int .u64 v, .bool ok]) H) :
    ACalls Tryd.prog 81 #[.int .u8 c.toNat, .int .u64 base] H K := by
  refine digit_walk c base hb hb2 H K fun v h1 h2 h3 h4 => hk v _ ?_ ?_ ?_
  · unfold AsmM.digit
    simp only [UInt8.le_iff_toNat_le]
    have e1 : (48 : UInt8).toNat = 48 := rfl
    have e2 : (57 : UInt8).toNat = 57 := rfl
    have e3 : (97 : UInt8).toNat = 97 := rfl
    have e4 : (102 : UInt8).toNat = 102 := rfl
    have e5 : (65 : UInt8).toNat = 65 := rfl
    have e6 : (70 : UInt8).toNat = 70 := rfl
    have hc := c.toNat_lt
    rw [e1, e2, e3, e4, e5, e6]
    by_cases g1 : 48 ≤ c.toNat ∧ c.toNat ≤ 57
    · have := h1 g1.1 g1.2
      simp only [g1, and_self, if_true]
      split <;> rename_i hq <;> split at hq <;> first | (cases hq; done) | skip
      · cases hq; rename_i hlt; simp only [decide_eq_true_eq]; omega
      · simp only [decide_eq_false_iff_not]; omega
    · rw [if_neg g1]
      by_cases g2 : 97 ≤ c.toNat ∧ c.toNat ≤ 102
      · have := h2 g2.1 g2.2
        rw [if_pos g2]
        split <;> rename_i hq <;> split at hq <;> first | (cases hq; done) | skip
        · cases hq; rename_i hlt; simp only [decide_eq_true_eq]; omega
        · simp only [decide_eq_false_iff_not]; omega
      · rw [if_neg g2]
        by_cases g3 : 65 ≤ c.toNat ∧ c.toNat ≤ 70
        · have := h3 g3.1 g3.2
          rw [if_pos g3]
          split <;> rename_i hq <;> split at hq <;> first | (cases hq; done) | skip
          · cases hq; rename_i hlt; simp only [decide_eq_true_eq]; omega
          · simp only [decide_eq_false_iff_not]; omega
        · rw [if_neg g3]
          have := h4 (by omega)
          split <;> rename_i hq <;> split at hq <;> first | (cases hq; done) | skip
          · cases hq; rename_i hlt; omega
          · simp only [decide_eq_false_iff_not]; omega
  · have hc := c.toNat_lt
    omega
  · have hc := c.toNat_lt
    omega
theorem digit16 (c : UInt8) (H : AHeap) (K : Value → AHeap → Prop) (hk : ∀ (v : Int) (ok : Bool), (match AsmM.digit c 16 with | some d => ok = true ∧ v = d | none => ok = false) → 0 ≤ v → v ≤ 99 → K (.tuple #[.int .u64 v, .bool ok]) H) :
    ACalls Tryd.prog 81 #[.int .u8 c.toNat, .int .u64 16] H K := digit_spec c 16 (by omega) (by omega) H K hk
theorem digit10 (c : UInt8) (H : AHeap) (K : Value → AHeap → Prop) (hk : ∀ (v : Int) (ok : Bool), (match AsmM.digit c 10 with | some d => ok = true ∧ v = d | none => ok = false) → 0 ≤ v → v ≤ 99 → K (.tuple #[.int .u64 v, .bool ok]) H) :
    ACalls Tryd.prog 81 #[.int .u8 c.toNat, .int .u64 10] H K := digit_spec c 10 (by omega) (by omega) H K hk
theorem digits_bad (s : ByteArray) (b m f i v : Nat) (h : i < s.size) (hd : AsmM.digit (getB s i) b = none) : digits b m f (s.data.toList.drop i) i v = .error i := by
  rw [drop_at s i h]; simp only [digits, hd]
theorem digits_over (s : ByteArray) (b m f i v d : Nat) (h : i < s.size) (hd : AsmM.digit (getB s i) b = some d) (ho : m ≤ i - f ∨ (2 ^ 64 - 1 - d) / b < v) : digits b m f (s.data.toList.drop i) i v = .error i := by
  rw [drop_at s i h]; simp only [digits, hd]; rw [if_pos ho]
theorem digits_next (s : ByteArray) (b m f i v d : Nat) (h : i < s.size) (hd : AsmM.digit (getB s i) b = some d) (ho : ¬ (m ≤ i - f ∨ (2 ^ 64 - 1 - d) / b < v)) : digits b m f (s.data.toList.drop i) i v = digits b m f (s.data.toList.drop (i + 1)) (i + 1) (v * b + d) := by
  rw [drop_at s i h]; simp only [digits, hd]; rw [if_neg ho]
theorem digits_end (s : ByteArray) (b m f i v : Nat) (h : s.size ≤ i) : digits b m f (s.data.toList.drop i) i v = .ok v := by
  rw [List.drop_eq_nil_of_le (by rw [← size_eq]; exact h)]; rfl
theorem number_hex (s : ByteArray) (hx : isHex s.data.toList = true) : number s.data.toList = if s.size = 2 then .error 2 else digits 16 16 2 (s.data.toList.drop 2) 2 0 := by
  unfold number; rw [if_pos hx, ← size_eq]
theorem number_dec (s : ByteArray) (hx : isHex s.data.toList = false) : number s.data.toList = if s.size = 0 then .error 0 else digits 10 20 0 (s.data.toList.drop 0) 0 0 := by
  unfold number; rw [if_neg (by rw [hx]; decide), ← size_eq]; rfl
theorem isHex_iff (s : ByteArray) : isHex s.data.toList = true ↔ 2 ≤ s.size ∧ (getB s 0).toNat = 48 ∧ (getB s 1).toNat = 120 := by
  rw [size_eq]
  unfold getB
  generalize s.data.toList = bs
  match bs with
  | [] => simp [isHex]
  | [_] => simp [isHex]
  | a :: b :: r =>
    simp only [isHex, Bool.and_eq_true, decide_eq_true_eq, List.length_cons, List.getD_cons_zero, List.getD_cons_succ]
    constructor
    · rintro ⟨rfl, rfl⟩; exact ⟨by omega, rfl, rfl⟩
    · rintro ⟨-, h1, h2⟩; exact ⟨u8eq h1, u8eq h2⟩
theorem isHex_no (s : ByteArray) (h : s.size < 2 ∨ (getB s 0).toNat ≠ 48 ∨ (getB s 1).toNat ≠ 120) : isHex s.data.toList = false := by
  rw [← Bool.not_eq_true, isHex_iff]
  omega
end Go.Proofs
