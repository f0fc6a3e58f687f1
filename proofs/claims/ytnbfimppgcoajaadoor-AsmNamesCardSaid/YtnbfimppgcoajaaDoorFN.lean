/-
  A part of the proofs: FN.
-/
import Derived.Test.YtnbfimppgcoajaaDoorDT
import Derived.Test.YtnbfimppgcoajaaDoorAbS
import Derived.Test.YtnbfimppgcoajaaDoorAbSeq
import Derived.Test.YtnbfimppgcoajaaDoorAsmNames
import Derived.Test.YtnbfimppgcoajaaDoorFK
import Derived.Test.YtnbfimppgcoajaaDoorFM
import Derived.Test.YtnbfimppgcoajaaDoorPG
import Derived.Test.YtnbfimppgcoajaaDoorEO
namespace Go.Proofs
set_option linter.unusedSimpArgs false
set_option linter.unusedVariables false
set_option linter.unusedSectionVars false
open Go Go.Ab AsmM
variable [StartErr]
set_option maxRecDepth 100000
set_option maxHeartbeats 1000000
theorem names4 (s : ByteArray) (H : AHeap) (K : Value → AHeap → Prop) (hk : ∀ H', Grew H H' → K (.bool true) H') : ACalls Tryd.prog 4 #[.string s] H K := by
  replace hk := Hd.mk hk
  refine w_enter (args := [.string s]) Tryd.func4 rfl (by kernel_rfl) D.mixed (by kernel_rfl) (rs := [.tmp 2]) rfl ?_
  repeat' (first
    | (simp (disch := first | omega | assumption) only [go_sem, ↓reduceIte, Nat.reduceEqDiff, reduceCtorEq, Nat.reduceAdd, Nat.reduceMul, Int.reduceToNat, Nat.reduceShiftRight, Nat.reduceAnd, Nat.reduceBNe, Nat.reduceBneDiff, Nat.reduceLT, Nat.reduceLeDiff, Int.reduceLT, Int.reduceLE, Int.reduceEq, Int.reduceAdd, Int.reduceSub, *])
    | (refine br_prop (fun hb => ?_) (fun hb => ?_) <;> try (exfalso; omega))
    | refine br_not ?_
    | (refine by_prop (fun hb => ?_) (fun hb => ?_) <;> try (exfalso; omega))
    | (refine by_prop' (fun hb => ?_) (fun hb => ?_) <;> try (exfalso; omega))
    | refine by_not ?_
    | refine w_drawn (by kernel_rfl) ?_
    | refine new_i' (by rfl) (fun j hj hn => ?_)
    | refine new_i (fun j hn => ?_)
    | refine br_bool (fun hb => ?_) (fun hb => ?_)
    | refine by_bool (fun hb => ?_) (fun hb => ?_)
    | refine by_bool' (fun hb => ?_) (fun hb => ?_))
  · refine call_i (awake9 _ _ fun H' hg => ?_)
    repeat' (first
      | (simp (disch := first | omega | assumption) only [go_sem, ↓reduceIte, Nat.reduceEqDiff, reduceCtorEq, Nat.reduceAdd, Nat.reduceMul, Int.reduceToNat, Nat.reduceShiftRight, Nat.reduceAnd, Nat.reduceBNe, Nat.reduceBneDiff, Nat.reduceLT, Nat.reduceLeDiff, Int.reduceLT, Int.reduceLE, Int.reduceEq, Int.reduceAdd, Int.reduceSub, true_and])
      | (refine br_prop (fun hb => ?_) (fun hb => ?_) <;> try (exfalso; omega))
      | refine br_not ?_
      | (refine by_prop (fun hb => ?_) (fun hb => ?_) <;> try (exfalso; omega))
      | (refine by_prop' (fun hb => ?_) (fun hb => ?_) <;> try (exfalso; omega))
      | refine by_not ?_
      | refine w_drawn (by kernel_rfl) ?_
      | refine new_i' (by rfl) (fun j hj hn => ?_)
      | refine new_i (fun j hn => ?_)
      | refine br_bool (fun hb => ?_) (fun hb => ?_)
      | refine by_bool (fun hb => ?_) (fun hb => ?_)
      | refine by_bool' (fun hb => ?_) (fun hb => ?_))
    exact hk.go _ hg
  all_goals
    have hz1 : (s ++ (ByteArray.mk #[58, 10, 106, 109, 112, 32])).size = s.size + 6 := by rw [ByteArray.size_append]; rfl
    have hz2 : (s ++ (ByteArray.mk #[58, 10, 106, 109, 112, 32]) ++ s).size = s.size + 6 + s.size := by rw [ByteArray.size_append, hz1]
    have hcat1 : binS .add s (ByteArray.mk #[58, 10, 106, 109, 112, 32]) = some (.string (s ++ (ByteArray.mk #[58, 10, 106, 109, 112, 32]))) := if_pos (by show s.size + 6 ≤ _; omega)
    have hcat2 : binS .add (s ++ (ByteArray.mk #[58, 10, 106, 109, 112, 32])) s = some (.string (s ++ (ByteArray.mk #[58, 10, 106, 109, 112, 32]) ++ s)) := if_pos (by omega)
    have hcat3 : binS .add (s ++ (ByteArray.mk #[58, 10, 106, 109, 112, 32]) ++ s) (ByteArray.mk #[10]) = some (.string (s ++ (ByteArray.mk #[58, 10, 106, 109, 112, 32]) ++ s ++ (ByteArray.mk #[10]))) := if_pos (by show _ + 1 ≤ _; omega)
    have eu : Hd ((s ++ (ByteArray.mk #[58, 10, 106, 109, 112, 32]) ++ s ++ (ByteArray.mk #[10])).data.toList = s.data.toList ++ [58, 10, 106, 109, 112, 32] ++ s.data.toList ++ [10]) := ⟨by
      rw [ByteArray.data_append, Array.toList_append, ByteArray.data_append, Array.toList_append, ByteArray.data_append, Array.toList_append]⟩
    clear hz1 hz2
    refine W.loopF 73786976294836109372 (fun n e H' => H' = H ∧ ∃ i : Nat, e 4 = .int .i64 i ∧ e 3 = .bool (goodAt s i) ∧ i ≤ s.size ∧ n = s.size - i ∧ cleanTo s i) s.size (by kernel_rfl) ?_ ?_
    · refine ⟨rfl, 0, by simp (disch := first | omega | assumption) only [go_sem, ↓reduceIte, Nat.reduceEqDiff, reduceCtorEq, Nat.reduceAdd, Nat.reduceMul, Int.reduceToNat, Nat.reduceShiftRight, Nat.reduceAnd, Nat.reduceBNe, Nat.reduceBneDiff, Nat.reduceLT, Nat.reduceLeDiff, Int.reduceLT, Int.reduceLE, Int.reduceEq, Int.reduceAdd, Int.reduceSub, *]; try rfl, ?_, by omega, by omega, fun k hk => absurd hk (by omega)⟩
      have hg0 : ∀ b : Bool, (b = decide (1 ≤ s.size ∧ s.size ≤ 16)) → Value.bool b = .bool (goodAt s 0) := fun b hb => by rw [hb]; rfl
      simp (disch := first | omega | assumption) only [go_sem, ↓reduceIte, Nat.reduceEqDiff, reduceCtorEq, Nat.reduceAdd, Nat.reduceMul, Int.reduceToNat, Nat.reduceShiftRight, Nat.reduceAnd, Nat.reduceBNe, Nat.reduceBneDiff, Nat.reduceLT, Nat.reduceLeDiff, Int.reduceLT, Int.reduceLE, Int.reduceEq, Int.reduceAdd, Int.reduceSub, *]
      refine hg0 _ ?_
      first | (rw [decide_eq_decide]; omega) | (symm; rw [decide_eq_false_iff_not]; omega)
    rintro n e Hc J hJ ⟨hHc, i, he4, he3, h0, rfl, hC⟩
    subst hHc
    replace hC := Hd.mk hC
    cases hgi : goodAt s i
    case' true =>
      have hsz := ((goodAt_iff s i).1 hgi).1
      try (exfalso; omega)
    all_goals
      rw [hgi] at he3
      repeat' (first
        | (simp (disch := first | omega | assumption) only [go_sem, ↓reduceIte, Nat.reduceEqDiff, reduceCtorEq, Nat.reduceAdd, Nat.reduceMul, Int.reduceToNat, Nat.reduceShiftRight, Nat.reduceAnd, Nat.reduceBNe, Nat.reduceBneDiff, Nat.reduceLT, Nat.reduceLeDiff, Int.reduceLT, Int.reduceLE, Int.reduceEq, Int.reduceAdd, Int.reduceSub, *])
        | (refine br_prop (fun hb => ?_) (fun hb => ?_) <;> try (exfalso; omega))
        | refine br_not ?_
        | (refine by_prop (fun hb => ?_) (fun hb => ?_) <;> try (exfalso; omega))
        | (refine by_prop' (fun hb => ?_) (fun hb => ?_) <;> try (exfalso; omega))
        | refine by_not ?_
        | refine w_drawn (by kernel_rfl) ?_
        | refine new_i' (by rfl) (fun j hj hn => ?_)
        | refine new_i (fun j hn => ?_)
        | refine br_bool (fun hb => ?_) (fun hb => ?_)
        | refine by_bool (fun hb => ?_) (fun hb => ?_)
        | refine by_bool' (fun hb => ?_) (fun hb => ?_))
    all_goals first
      | (refine call_i (awake9 _ _ fun H' hg => ?_)
         repeat' (first
           | (simp (disch := first | omega | assumption) only [go_sem, ↓reduceIte, Nat.reduceEqDiff, reduceCtorEq, Nat.reduceAdd, Nat.reduceMul, Int.reduceToNat, Nat.reduceShiftRight, Nat.reduceAnd, Nat.reduceBNe, Nat.reduceBneDiff, Nat.reduceLT, Nat.reduceLeDiff, Int.reduceLT, Int.reduceLE, Int.reduceEq, Int.reduceAdd, Int.reduceSub, true_and])
           | (refine br_prop (fun hb => ?_) (fun hb => ?_) <;> try (exfalso; omega))
           | refine br_not ?_
           | (refine by_prop (fun hb => ?_) (fun hb => ?_) <;> try (exfalso; omega))
           | (refine by_prop' (fun hb => ?_) (fun hb => ?_) <;> try (exfalso; omega))
           | refine by_not ?_
           | refine w_drawn (by kernel_rfl) ?_
           | refine new_i' (by rfl) (fun j hj hn => ?_)
           | refine new_i (fun j hn => ?_)
           | refine br_bool (fun hb => ?_) (fun hb => ?_)
           | refine by_bool (fun hb => ?_) (fun hb => ?_)
           | refine by_bool' (fun hb => ?_) (fun hb => ?_))
         exact hk.go _ hg)
      | (refine inv_i (hJ.go _ _ ⟨_, by omega, rfl, i + 1, rfl, ?_, by omega, rfl, fun k hk' => ?_⟩)
         · have hg1 : ∀ b : Bool, b = goodAt s (i + 1) → Value.bool b = .bool (goodAt s (i + 1)) := fun b hb => by rw [hb]
           refine hg1 _ ?_
           unfold goodAt lowAt digAt
           rw [hgi]
           first
             | rfl
             | (rw [Bool.eq_iff_iff]; simp only [Bool.true_and, Bool.or_eq_true, Bool.and_eq_true, decide_eq_true_eq, Bool.false_eq_true, false_iff, true_iff, iff_true, iff_false]; omega)
         · rcases Nat.lt_succ_iff_lt_or_eq.1 hk' with h | h
           · exact hC.go k h
           · subst h; refine ⟨?_, ?_, ?_, ?_⟩ <;> omega)
      | skip
    all_goals
      obtain rfl : i = s.size := by omega
      have hgn := good_eq s
      rw [hgi] at hgn
      have hP := parse_names (clean_of s hC.go) (by simp; omega) (fun h => by
        have := regLike_of s h.2
        first | omega | (rw [hgn] at h; cases h.1))
      rw [hgn, ← eu.go] at hP
      simp only [if_true, if_false, Bool.false_eq_true] at hP
      replace hgn := Hd.mk hgn
      refine call_i (parse10 (s ++ (ByteArray.mk #[58, 10, 106, 109, 112, 32]) ++ s ++ (ByteArray.mk #[10])) _ _ (fun H2 v1 v2 l labels o1 o2 hp h1 h2 h3 h4 hg2 => ?_) fun H2 er1 er hp he hg2 => ?_)
    all_goals rw [hP] at hp
    all_goals first | (cases hp; done) | skip
    all_goals clear hcat1 hcat2 hcat3 eu hP hJ
    all_goals first
      | (injection hp with hp
         subst hp
         obtain ⟨ei, rfl, hE⟩ := he
         replace hg2 := Hd.mk hg2
         repeat' (first
           | (simp (disch := first | omega | assumption) only [go_sem, ↓reduceIte, Nat.reduceEqDiff, reduceCtorEq, Nat.reduceAdd, Nat.reduceMul, Int.reduceToNat, Nat.reduceShiftRight, Nat.reduceAnd, Nat.reduceBNe, Nat.reduceBneDiff, Nat.reduceLT, Nat.reduceLeDiff, Int.reduceLT, Int.reduceLE, Int.reduceEq, Int.reduceAdd, Int.reduceSub, *])
           | (refine br_prop (fun hb => ?_) (fun hb => ?_) <;> try (exfalso; omega))
           | refine br_not ?_
           | (refine by_prop (fun hb => ?_) (fun hb => ?_) <;> try (exfalso; omega))
           | (refine by_prop' (fun hb => ?_) (fun hb => ?_) <;> try (exfalso; omega))
           | refine by_not ?_
           | refine w_drawn (by kernel_rfl) ?_
           | refine new_i' (by rfl) (fun j hj hn => ?_)
           | refine new_i (fun j hn => ?_)
           | refine br_bool (fun hb => ?_) (fun hb => ?_)
           | refine by_bool (fun hb => ?_) (fun hb => ?_)
           | refine by_bool' (fun hb => ?_) (fun hb => ?_))
         refine call_i (no13 _ _ _ _ _ fun q1 q2 r hq1 hq2 hq3 hn1 hn2 hn3 => ?_)
         replace hE := Hd.mk hE
         repeat' (first
           | (simp (disch := first | omega | assumption) only [go_sem, ↓reduceIte, Nat.reduceEqDiff, reduceCtorEq, Nat.reduceAdd, Nat.reduceMul, Int.reduceToNat, Nat.reduceShiftRight, Nat.reduceAnd, Nat.reduceBNe, Nat.reduceBneDiff, Nat.reduceLT, Nat.reduceLeDiff, Int.reduceLT, Int.reduceLE, Int.reduceEq, Int.reduceAdd, Int.reduceSub, *])
           | (refine br_prop (fun hb => ?_) (fun hb => ?_) <;> try (exfalso; omega))
           | refine br_not ?_
           | (refine by_prop (fun hb => ?_) (fun hb => ?_) <;> try (exfalso; omega))
           | (refine by_prop' (fun hb => ?_) (fun hb => ?_) <;> try (exfalso; omega))
           | refine by_not ?_
           | refine w_drawn (by kernel_rfl) ?_
           | refine new_i' (by rfl) (fun j hj hn => ?_)
           | refine new_i (fun j hn => ?_)
           | refine br_bool (fun hb => ?_) (fun hb => ?_)
           | refine by_bool (fun hb => ?_) (fun hb => ?_)
           | refine by_bool' (fun hb => ?_) (fun hb => ?_))
         have ne1 : ei ≠ q1 := fun e => by have h := hE.go; rw [e, hn1] at h; cases h
         have ne2 : ei ≠ q2 := fun e => by have h := hE.go; rw [e, hn2] at h; cases h
         have ne3 : ei ≠ r := fun e => by have h := hE.go; rw [e, hn3] at h; cases h
         refine call_i (same12 ei r q1 q2 ⟨#[97, 115, 109]⟩ 0 6 1 1 [] [] _ ?_ ?_ ?_ ?_ (by decide) (by decide) _ fun H' hg3 => ?_)
         · rw [AHeap.set_ne _ _ ne3, AHeap.set_ne _ _ ne2, AHeap.set_ne _ _ ne1]; exact hE.go
         · exact AHeap.set_same _ _ _
         · rw [AHeap.set_ne _ _ hq2, AHeap.set_ne _ _ hq1, AHeap.set_same]
         · rw [AHeap.set_ne _ _ hq3, AHeap.set_same]
         replace hg3 := Hd.mk hg3
         repeat' (first
           | (simp (disch := first | omega | assumption) only [go_sem, ↓reduceIte, Nat.reduceEqDiff, reduceCtorEq, Nat.reduceAdd, Nat.reduceMul, Int.reduceToNat, Nat.reduceShiftRight, Nat.reduceAnd, Nat.reduceBNe, Nat.reduceBneDiff, Nat.reduceLT, Nat.reduceLeDiff, Int.reduceLT, Int.reduceLE, Int.reduceEq, Int.reduceAdd, Int.reduceSub, *])
           | (refine br_prop (fun hb => ?_) (fun hb => ?_) <;> try (exfalso; omega))
           | refine br_not ?_
           | (refine by_prop (fun hb => ?_) (fun hb => ?_) <;> try (exfalso; omega))
           | (refine by_prop' (fun hb => ?_) (fun hb => ?_) <;> try (exfalso; omega))
           | refine by_not ?_
           | refine w_drawn (by kernel_rfl) ?_
           | refine new_i' (by rfl) (fun j hj hn => ?_)
           | refine new_i (fun j hn => ?_)
           | refine br_bool (fun hb => ?_) (fun hb => ?_)
           | refine by_bool (fun hb => ?_) (fun hb => ?_)
           | refine by_bool' (fun hb => ?_) (fun hb => ?_))
         refine call_i (awake9 _ _ fun H4 hg4 => ?_)
         repeat' (first
           | (simp (disch := first | omega | assumption) only [go_sem, ↓reduceIte, Nat.reduceEqDiff, reduceCtorEq, Nat.reduceAdd, Nat.reduceMul, Int.reduceToNat, Nat.reduceShiftRight, Nat.reduceAnd, Nat.reduceBNe, Nat.reduceBneDiff, Nat.reduceLT, Nat.reduceLeDiff, Int.reduceLT, Int.reduceLE, Int.reduceEq, Int.reduceAdd, Int.reduceSub, true_and])
           | (refine br_prop (fun hb => ?_) (fun hb => ?_) <;> try (exfalso; omega))
           | refine br_not ?_
           | (refine by_prop (fun hb => ?_) (fun hb => ?_) <;> try (exfalso; omega))
           | (refine by_prop' (fun hb => ?_) (fun hb => ?_) <;> try (exfalso; omega))
           | refine by_not ?_
           | refine w_drawn (by kernel_rfl) ?_
           | refine new_i' (by rfl) (fun j hj hn => ?_)
           | refine new_i (fun j hn => ?_)
           | refine br_bool (fun hb => ?_) (fun hb => ?_)
           | refine by_bool (fun hb => ?_) (fun hb => ?_)
           | refine by_bool' (fun hb => ?_) (fun hb => ?_))
         refine hk.go _ (((((hg2.go.new _ hn1).new _ ?_).new _ ?_).trans hg3.go).trans hg4)
         · rw [AHeap.set_ne _ _ (Ne.symm hq1)]; exact hn2
         · rw [AHeap.set_ne _ _ (Ne.symm hq3), AHeap.set_ne _ _ (Ne.symm hq2)]; exact hn3)
      | (injection hp with hp
         injection hp with hp1 hp2
         subst hp1
         subst hp2
         obtain ⟨i1, rfl⟩ : ∃ i1, o1 = some i1 := by
           cases o1 with
           | none => obtain ⟨_, h, _⟩ := h1; cases h
           | some i2 => exact ⟨_, rfl⟩
         obtain ⟨i2, rfl⟩ : ∃ i2, o2 = some i2 := by
           cases o2 with
           | none => obtain ⟨_, h, _⟩ := h2; cases h
           | some i2 => exact ⟨_, rfl⟩
         obtain ⟨c1, d1, rfl, hH1, _⟩ := h1
         obtain ⟨c2, d2, rfl, hH2, _⟩ := h2
         have e1 : [({ Ins.zero with op := 12 } : Ins)].flatMap encI ++ d1 = [.int .i64 12, .int .i64 0, .int .i64 0, .int .i64 0, .int .u64 0, .int .i64 0, .int .i64 0] ++ d1 := rfl
         rw [e1] at hH1
         have e2 : [((s.data.toList : Bytes), (0 : Int))].flatMap encLab ++ d2 = .string (bA s.data.toList) :: .int .i64 0 :: d2 := rfl
         rw [e2, bA_of] at hH2
         simp only [List.cons_append, List.nil_append] at hH1
         clear e1 e2 h3 h4
         have l1 : ([({ Ins.zero with op := 12 } : Ins)]).length = 1 := rfl
         have l2 : ([((s.data.toList : Bytes), (0 : Int))]).length = 1 := rfl
         replace hg2 := Hd.mk hg2
         repeat' (first
           | (simp (disch := first | omega | assumption) only [go_sem, ↓reduceIte, Nat.reduceEqDiff, reduceCtorEq, Nat.reduceAdd, Nat.reduceMul, Int.reduceToNat, Nat.reduceShiftRight, Nat.reduceAnd, Nat.reduceBNe, Nat.reduceBneDiff, Nat.reduceLT, Nat.reduceLeDiff, Int.reduceLT, Int.reduceLE, Int.reduceEq, Int.reduceAdd, Int.reduceSub, *])
           | (refine br_prop (fun hb => ?_) (fun hb => ?_) <;> try (exfalso; omega))
           | refine br_not ?_
           | (refine by_prop (fun hb => ?_) (fun hb => ?_) <;> try (exfalso; omega))
           | (refine by_prop' (fun hb => ?_) (fun hb => ?_) <;> try (exfalso; omega))
           | refine by_not ?_
           | refine w_drawn (by kernel_rfl) ?_
           | refine new_i' (by rfl) (fun j hj hn => ?_)
           | refine new_i (fun j hn => ?_)
           | refine br_bool (fun hb => ?_) (fun hb => ?_)
           | refine by_bool (fun hb => ?_) (fun hb => ?_)
           | refine by_bool' (fun hb => ?_) (fun hb => ?_))
         refine call_i (awake9 _ _ fun H' hg => ?_)
         repeat' (first
           | (simp (disch := first | omega | assumption) only [go_sem, ↓reduceIte, Nat.reduceEqDiff, reduceCtorEq, Nat.reduceAdd, Nat.reduceMul, Int.reduceToNat, Nat.reduceShiftRight, Nat.reduceAnd, Nat.reduceBNe, Nat.reduceBneDiff, Nat.reduceLT, Nat.reduceLeDiff, Int.reduceLT, Int.reduceLE, Int.reduceEq, Int.reduceAdd, Int.reduceSub, true_and])
           | (refine br_prop (fun hb => ?_) (fun hb => ?_) <;> try (exfalso; omega))
           | refine br_not ?_
           | (refine by_prop (fun hb => ?_) (fun hb => ?_) <;> try (exfalso; omega))
           | (refine by_prop' (fun hb => ?_) (fun hb => ?_) <;> try (exfalso; omega))
           | refine by_not ?_
           | refine w_drawn (by kernel_rfl) ?_
           | refine new_i' (by rfl) (fun j hj hn => ?_)
           | refine new_i (fun j hn => ?_)
           | refine br_bool (fun hb => ?_) (fun hb => ?_)
           | refine by_bool (fun hb => ?_) (fun hb => ?_)
           | refine by_bool' (fun hb => ?_) (fun hb => ?_))
         exact hk.go _ (hg2.go.trans hg))
end Go.Proofs
