/-
  A part of the proofs: ER.
-/
import Derived.Test.YtnbfimppgcoajaaDoorDT
import Derived.Test.YtnbfimppgcoajaaDoorPA
namespace Go.Proofs
set_option linter.unusedSimpArgs false
set_option linter.unusedVariables false
set_option linter.unusedSectionVars false
open Go Go.Ab AsmM
variable [Go.Ab.Start]
set_option maxRecDepth 100000
set_option maxHeartbeats 1000000
theorem u8eq {a b : UInt8} (h : a.toNat = b.toNat) : a = b := UInt8.toNat_inj.1 h
theorem size_eq (s : ByteArray) : s.size = s.data.toList.length := by simp
theorem register_iff (bs : List UInt8) (h : bs.length < 2 ∨ 3 < bs.length ∨ (bs.getD 0 0).toNat ≠ 114 ∨ (bs.length = 3 ∧ (bs.getD 1 0).toNat = 48)) : AsmM.register bs = none := by
  match bs with
  | [] => rfl
  | [_] => rfl
  | [r, d] =>
    simp at h
    simp only [AsmM.register]
    rw [if_neg]
    rintro ⟨h1, -⟩
    subst h1; exact h rfl
  | [r, d, e] =>
    simp at h
    simp only [AsmM.register]
    rw [if_neg]
    rintro ⟨h1, -, -, h4, -⟩
    subst h1
    rcases h with h | h
    · exact h rfl
    · exact h4 (u8eq h)
  | _ :: _ :: _ :: _ :: _ => rfl
theorem register_bad (bs : List UInt8) (j : Nat) (h1 : 1 ≤ j) (h2 : j < bs.length) (h : (bs.getD j 0).toNat < 48 ∨ 57 < (bs.getD j 0).toNat) : AsmM.register bs = none := by
  match bs with
  | [] => rfl
  | [_] => rfl
  | [r, d] =>
    have : j = 1 := by simp at h2; omega
    subst this
    simp at h
    simp only [AsmM.register]
    rw [if_neg]
    rintro ⟨-, h3⟩
    simp only [AsmM.isDig, Bool.and_eq_true, decide_eq_true_eq, UInt8.le_iff_toNat_le] at h3
    have e1 : (48 : UInt8).toNat = 48 := rfl
    have e2 : (57 : UInt8).toNat = 57 := rfl
    omega
  | [r, d, e] =>
    simp only [AsmM.register]
    rw [if_neg]
    rintro ⟨-, h3, h4, -⟩
    simp only [AsmM.isDig, Bool.and_eq_true, decide_eq_true_eq, UInt8.le_iff_toNat_le] at h3 h4
    have e1 : (48 : UInt8).toNat = 48 := rfl
    have e2 : (57 : UInt8).toNat = 57 := rfl
    have : j = 1 ∨ j = 2 := by simp at h2; omega
    rcases this with h | h <;> subst h <;> simp at h <;> omega
  | _ :: _ :: _ :: _ :: _ => rfl
theorem register_fin (bs : List UInt8) (v : Int) (h1 : 2 ≤ bs.length) (h2 : bs.length ≤ 3) (h3 : (bs.getD 0 0).toNat = 114) (h4 : ∀ j, 1 ≤ j → j < bs.length → 48 ≤ (bs.getD j 0).toNat ∧ (bs.getD j 0).toNat ≤ 57) (h5 : bs.length = 2 → v = (bs.getD 1 0).toNat - 48)
    (h6 : bs.length = 3 → (bs.getD 1 0).toNat ≠ 48 ∧ v = 10 * ((bs.getD 1 0).toNat - 48) + ((bs.getD 2 0).toNat - 48)) : match AsmM.register bs with | some n => decide (v < 32) = true ∧ v = n | none => decide (v < 32) = false := by
  have dig : ∀ c : UInt8, 48 ≤ c.toNat ∧ c.toNat ≤ 57 → AsmM.isDig c = true := fun c h => by
    simp only [AsmM.isDig, Bool.and_eq_true, decide_eq_true_eq, UInt8.le_iff_toNat_le]
    exact h
  match bs with
  | [] => simp at h1
  | [_] => simp at h1
  | [r, d] =>
    have hd := h4 1 (by omega) (by simp)
    have hv := h5 rfl
    simp at h3 hd hv
    have hr : r = 114 := u8eq h3
    subst hr
    simp only [AsmM.register, dig d hd, and_self, if_true]
    simp only [decide_eq_true_eq]
    omega
  | [r, d, e] =>
    have hd := h4 1 (by omega) (by simp)
    have he := h4 2 (by omega) (by simp)
    obtain ⟨h7, hv⟩ := h6 rfl
    simp at h3 hd he hv h7
    have hr : r = 114 := u8eq h3
    subst hr
    have hne : d ≠ 48 := fun hh => h7 (by subst hh; rfl)
    simp only [AsmM.register, dig d hd, dig e he, true_and, ne_eq, hne, not_false_eq_true]
    by_cases hlt : 10 * (d.toNat - 48) + (e.toNat - 48) < 32
    · rw [if_pos hlt]
      simp only [decide_eq_true_eq]
      omega
    · rw [if_neg hlt]
      simp only [decide_eq_false_iff_not]
      omega
  | _ :: _ :: _ :: _ :: _ => simp at h2
theorem reg_walk (s : ByteArray) (H : AHeap) (K : Value → AHeap → Prop) (hbad : (s.size < 2 ∨ 3 < s.size ∨ (getB s 0).toNat ≠ 114 ∨ (s.size = 3 ∧ (getB s 1).toNat = 48)) → K (.tuple #[.int .i64 0, .bool false]) H)
    (hbad2 : ∀ j, 1 ≤ j → j < s.size → (getB s j).toNat < 48 ∨ 57 < (getB s j).toNat → K (.tuple #[.int .i64 0, .bool false]) H)
    (hfin : ∀ v : Int, 2 ≤ s.size → s.size ≤ 3 → (getB s 0).toNat = 114 → (∀ j, 1 ≤ j → j < s.size → 48 ≤ (getB s j).toNat ∧ (getB s j).toNat ≤ 57) → (s.size = 2 → v = (getB s 1).toNat - 48) → (s.size = 3 → (getB s 1).toNat ≠ 48 ∧ v = 10 * ((getB s 1).toNat - 48) + ((getB s 2).toNat - 48)) → K (.tuple #[.int .i64 v, .bool (decide (v < 32))]) H) :
    ACalls Tryd.prog 56 #[.string s] H K := by
  refine w_enter (args := [.string s]) Tryd.func56 rfl (by kernel_rfl) D.mixed (by kernel_rfl) (rs := [.tmp 2, .tmp 3]) rfl ?_
  repeat' (first
    | (simp (disch := first | omega | assumption) only [go_sem, ↓reduceIte, Nat.reduceEqDiff, reduceCtorEq, Nat.reduceAdd, Nat.reduceMul, Int.reduceToNat, Nat.reduceShiftRight, Nat.reduceAnd, Nat.reduceBNe, Nat.reduceBneDiff, Nat.reduceLT, Nat.reduceLeDiff, Int.reduceLT, Int.reduceLE, Int.reduceEq, Int.reduceAdd, Int.reduceSub, *])
    | (refine br_prop (fun hb => ?_) (fun hb => ?_) <;> try (exfalso; omega))
    | refine br_not ?_
    | (refine by_prop (fun hb => ?_) (fun hb => ?_) <;> try (exfalso; omega))
    | (refine by_prop' (fun hb => ?_) (fun hb => ?_) <;> try (exfalso; omega))
    | refine by_not ?_
    | refine w_drawn (by kernel_rfl) ?_
    | refine new_i' (by rfl) (fun j hj hn => ?_)
    | refine new_i (fun j hn => ?_)
    | refine br_bool (fun hb => ?_) (fun hb => ?_)
    | refine by_bool (fun hb => ?_) (fun hb => ?_)
    | refine by_bool' (fun hb => ?_) (fun hb => ?_))
  all_goals first
    | exact hbad (by omega)
    | refine W.loopF 9007198717870140 (fun n e H1 => H1 = H ∧ ∃ (i : Nat) (acc : Int), e 5 = .int .i64 i ∧ e 4 = .int .i64 acc ∧ 1 ≤ i ∧ i ≤ s.size ∧ n = s.size - i ∧ (∀ j, 1 ≤ j → j < i → 48 ≤ (getB s j).toNat ∧ (getB s j).toNat ≤ 57) ∧ (i = 1 → acc = 0) ∧ (i = 2 → acc = (getB s 1).toNat - 48) ∧ (i = 3 → acc = 10 * ((getB s 1).toNat - 48) + ((getB s 2).toNat - 48)) ∧ 0 ≤ acc ∧ acc ≤ 10000) (s.size - 1) (by kernel_rfl)
        ⟨rfl, 1, 0, by first | (simp (disch := first | omega | assumption) only [go_sem, ↓reduceIte, Nat.reduceEqDiff, reduceCtorEq, Nat.reduceAdd, Nat.reduceMul, Int.reduceToNat, Nat.reduceShiftRight, Nat.reduceAnd, Nat.reduceBNe, Nat.reduceBneDiff, Nat.reduceLT, Nat.reduceLeDiff, Int.reduceLT, Int.reduceLE, Int.reduceEq, Int.reduceAdd, Int.reduceSub, *]; done) | (simp (disch := first | omega | assumption) only [go_sem, ↓reduceIte, Nat.reduceEqDiff, reduceCtorEq, Nat.reduceAdd, Nat.reduceMul, Int.reduceToNat, Nat.reduceShiftRight, Nat.reduceAnd, Nat.reduceBNe, Nat.reduceBneDiff, Nat.reduceLT, Nat.reduceLeDiff, Int.reduceLT, Int.reduceLE, Int.reduceEq, Int.reduceAdd, Int.reduceSub, *]; rfl), by simp (disch := first | omega | assumption) only [go_sem, ↓reduceIte, Nat.reduceEqDiff, reduceCtorEq, Nat.reduceAdd, Nat.reduceMul, Int.reduceToNat, Nat.reduceShiftRight, Nat.reduceAnd, Nat.reduceBNe, Nat.reduceBneDiff, Nat.reduceLT, Nat.reduceLeDiff, Int.reduceLT, Int.reduceLE, Int.reduceEq, Int.reduceAdd, Int.reduceSub, *], by omega, by omega, by omega, fun j _ _ => by omega, fun _ => rfl, fun h => by omega, fun h => by omega, by omega, by omega⟩ ?_
  all_goals
    rintro n e _ J hJ ⟨rfl, i, acc, h5, h4, hi1, hi2, rfl, hall, ha1, ha2, ha3, hb0, hb1⟩
    repeat' (first
      | (simp (disch := first | omega | assumption) only [go_sem, ↓reduceIte, Nat.reduceEqDiff, reduceCtorEq, Nat.reduceAdd, Nat.reduceMul, Int.reduceToNat, Nat.reduceShiftRight, Nat.reduceAnd, Nat.reduceBNe, Nat.reduceBneDiff, Nat.reduceLT, Nat.reduceLeDiff, Int.reduceLT, Int.reduceLE, Int.reduceEq, Int.reduceAdd, Int.reduceSub, *])
      | (refine br_prop (fun hb => ?_) (fun hb => ?_) <;> try (exfalso; omega))
      | refine br_not ?_
      | (refine by_prop (fun hb => ?_) (fun hb => ?_) <;> try (exfalso; omega))
      | (refine by_prop' (fun hb => ?_) (fun hb => ?_) <;> try (exfalso; omega))
      | refine by_not ?_
      | refine w_drawn (by kernel_rfl) ?_
      | refine new_i' (by rfl) (fun j hj hn => ?_)
      | refine new_i (fun j hn => ?_)
      | refine br_bool (fun hb => ?_) (fun hb => ?_)
      | refine by_bool (fun hb => ?_) (fun hb => ?_)
      | refine by_bool' (fun hb => ?_) (fun hb => ?_))
  all_goals first
    | exact hbad2 i hi1 (by omega) (by omega)
    | refine hfin _ (by omega) (by omega) (by omega) (fun j h1 h2 => hall j h1 (by omega)) (fun h => ?_) (fun h => ⟨by omega, ?_⟩) <;> first | omega | (have := ha2 (by omega); omega) | (have := ha3 (by omega); omega)
    | refine inv_i (hJ.go _ _ ⟨s.size - (i + 1), by omega, rfl, i + 1, _, rfl, rfl, by omega, by omega, rfl, fun j h1 h2 => ?_, fun h => ?_, fun h => ?_, fun h => ?_, ?_, ?_⟩) <;> first | omega | (by_cases hj : j = i; subst hj; omega; have := hall j h1 (by omega); omega) | (rcases (by omega : i = 1 ∨ i = 2) with rfl | rfl <;> first | omega | (have := ha1 rfl; omega) | (have := ha2 rfl; have := hall 1 (by omega) (by omega); omega))
theorem reg_spec (s : ByteArray) (H : AHeap) (K : Value → AHeap → Prop) (hk : ∀ (v : Int) (ok : Bool), (match AsmM.register s.data.toList with | some n => ok = true ∧ v = n | none => ok = false) → K (.tuple #[.int .i64 v, .bool ok]) H) : ACalls Tryd.prog 56 #[.string s] H K := by
  refine reg_walk s H K (fun h => hk _ _ ?_) (fun j h1 h2 h => hk _ _ ?_) fun v h1 h2 h3 h4 h5 h6 => hk _ _ ?_
  · rw [register_iff _ (by rw [← size_eq]; exact h)]
  · rw [register_bad _ j h1 (by rw [← size_eq]; exact h2) h]
  · exact register_fin _ v (by rw [← size_eq]; exact h1) (by rw [← size_eq]; exact h2) h3 (fun j a b => h4 j a (by rw [size_eq]; exact b)) (fun h => h5 (by rw [size_eq]; exact h)) (fun h => h6 (by rw [size_eq]; exact h))
end Go.Proofs
