/-
  A part of the proofs over the assembler: ES.
-/
import Derived.Test.YtnbfimppgcoajaaDoorDT
import Derived.Test.YtnbfimppgcoajaaDoorAbS
import Derived.Test.YtnbfimppgcoajaaDoorAbEq
import Derived.Test.YtnbfimppgcoajaaDoorAsmSilent
import Derived.Test.YtnbfimppgcoajaaDoorEQ
namespace Go.Proofs
set_option linter.unusedSimpArgs false
set_option linter.unusedVariables false
open Go Go.Ab AsmM
variable [Go.Ab.Start]
set_option maxRecDepth 100000
set_option maxHeartbeats 1000000
omit [Go.Ab.Start] in
theorem runLines_labels : ∀ (ls : List Bytes) (n : Int) (st st' : St), StOk st → runLines ls n st = .ok st' → st'.labels.length ≤ st.labels.length + ls.length
  | [], n, st, st', _, h => by injection h with h; subst h; simp
  | s :: ls, n, st, st', hk, h => by
    have h : ((line st s n).bind fun st1 => runLines ls (n + 1) st1) = .ok st' := h
    cases hl : line st s n with
    | error e => rw [hl] at h; cases h
    | ok st1 =>
      rw [hl] at h
      obtain ⟨k1, _, k2, _⟩ := line_ok hl hk
      have := runLines_labels ls (n + 1) st1 st' k1 h
      simp only [List.length_cons]; omega
omit [Go.Ab.Start] in
theorem parse_len {t : Bytes} {l : List Ins} {labels : List (Bytes × Int)} (h : parse t = .ok (l, labels)) : l.length ≤ 2048 ∧ labels.length ≤ 65537 := by
  unfold parse at h
  split at h
  · cases h
  · rename_i ht
    have h : ((runLines (splitNl [] t) 0 ⟨[], [], [], []⟩).bind finish) = .ok (l, labels) := h
    cases hr : runLines (splitNl [] t) 0 ⟨[], [], [], []⟩ with
    | error e => rw [hr] at h; cases h
    | ok st =>
      rw [hr] at h
      have hl := runLines_labels _ _ _ _ StOk.nil hr
      have hc := splitNl_count t []
      have h : ((AsmM.resolve st.labels st.wants st.l).bind fun l => if l.length > 2048 then .error ⟨0, none, 3⟩ else (lastLabel l.length st.labels st.lines).bind fun _ => .ok (l, st.labels)) = .ok (l, labels) := h
      cases h1 : AsmM.resolve st.labels st.wants st.l with
      | error e => rw [h1] at h; cases h
      | ok l1 =>
        rw [h1] at h
        have h : (if l1.length > 2048 then (.error ⟨0, none, 3⟩ : Except Er (List Ins × List (Bytes × Int))) else (lastLabel l1.length st.labels st.lines).bind fun _ => .ok (l1, st.labels)) = .ok (l, labels) := h
        split at h
        · cases h
        · cases h2 : lastLabel l1.length st.labels st.lines with
          | error e => rw [h2] at h; cases h
          | ok u =>
            rw [h2] at h
            injection h with h; injection h with ha hb
            subst ha; subst hb
            simp only [List.length_nil, Nat.zero_add] at hl
            exact ⟨by omega, by omega⟩
def moreB (i : Nat) : ByteArray := bA (more i)
theorem silent3 (s : ByteArray) (at_ n : Int) (H : AHeap) (K : Value → AHeap → Prop) (hk : ∀ H', Grew H H' → K (.bool true) H') : ACalls Tryd.prog 3 #[.string s, .int .i64 at_, .int .i64 n] H K := by
  replace hk := Hd.mk hk
  refine w_enter (args := [.string s, .int .i64 at_, .int .i64 n]) Tryd.func3 rfl (by kernel_rfl) D.mixed (by kernel_rfl) (rs := [.tmp 6]) rfl ?_
  repeat' (first
    | (simp (disch := first | omega | assumption) only [go_sem, ↓reduceIte, Nat.reduceEqDiff, reduceCtorEq, Nat.reduceAdd, Nat.reduceMul, Int.reduceToNat, Nat.reduceShiftRight, Nat.reduceAnd, Nat.reduceBNe, Nat.reduceBneDiff, Nat.reduceLT, Nat.reduceLeDiff, Int.reduceLT, Int.reduceLE, Int.reduceEq, Int.reduceAdd, Int.reduceSub, *])
    | (refine br_prop (fun hb => ?_) (fun hb => ?_) <;> try (exfalso; omega))
    | refine br_not ?_
    | (refine by_prop (fun hb => ?_) (fun hb => ?_) <;> try (exfalso; omega))
    | (refine by_prop' (fun hb => ?_) (fun hb => ?_) <;> try (exfalso; omega))
    | refine by_not ?_
    | refine w_drawn (by kernel_rfl) ?_
    | refine new_i' (by rfl) (fun j hj hn => ?_)
    | refine new_i (fun j hn => ?_)
    | refine br_bool (fun hb => ?_) (fun hb => ?_)
    | refine by_bool (fun hb => ?_) (fun hb => ?_)
    | refine by_bool' (fun hb => ?_) (fun hb => ?_))
  refine call_i (within8 _ _ (by decide) _ _ fun N hN0 _ hN1 => ?_)
  replace hN1 := hN1 (by decide)
  repeat' (first
    | (simp (disch := first | omega | assumption) only [go_sem, ↓reduceIte, Nat.reduceEqDiff, reduceCtorEq, Nat.reduceAdd, Nat.reduceMul, Int.reduceToNat, Nat.reduceShiftRight, Nat.reduceAnd, Nat.reduceBNe, Nat.reduceBneDiff, Nat.reduceLT, Nat.reduceLeDiff, Int.reduceLT, Int.reduceLE, Int.reduceEq, Int.reduceAdd, Int.reduceSub, *])
    | (refine br_prop (fun hb => ?_) (fun hb => ?_) <;> try (exfalso; omega))
    | refine br_not ?_
    | (refine by_prop (fun hb => ?_) (fun hb => ?_) <;> try (exfalso; omega))
    | (refine by_prop' (fun hb => ?_) (fun hb => ?_) <;> try (exfalso; omega))
    | refine by_not ?_
    | refine w_drawn (by kernel_rfl) ?_
    | refine new_i' (by rfl) (fun j hj hn => ?_)
    | refine new_i (fun j hn => ?_)
    | refine br_bool (fun hb => ?_) (fun hb => ?_)
    | refine by_bool (fun hb => ?_) (fun hb => ?_)
    | refine by_bool' (fun hb => ?_) (fun hb => ?_))
  · refine call_i (awake9 _ _ fun H' hg => ?_)
    repeat' (first
      | (simp (disch := first | omega | assumption) only [go_sem, ↓reduceIte, Nat.reduceEqDiff, reduceCtorEq, Nat.reduceAdd, Nat.reduceMul, Int.reduceToNat, Nat.reduceShiftRight, Nat.reduceAnd, Nat.reduceBNe, Nat.reduceBneDiff, Nat.reduceLT, Nat.reduceLeDiff, Int.reduceLT, Int.reduceLE, Int.reduceEq, Int.reduceAdd, Int.reduceSub, true_and])
      | (refine br_prop (fun hb => ?_) (fun hb => ?_) <;> try (exfalso; omega))
      | refine br_not ?_
      | (refine by_prop (fun hb => ?_) (fun hb => ?_) <;> try (exfalso; omega))
      | (refine by_prop' (fun hb => ?_) (fun hb => ?_) <;> try (exfalso; omega))
      | refine by_not ?_
      | refine w_drawn (by kernel_rfl) ?_
      | refine new_i' (by rfl) (fun j hj hn => ?_)
      | refine new_i (fun j hn => ?_)
      | refine br_bool (fun hb => ?_) (fun hb => ?_)
      | refine by_bool (fun hb => ?_) (fun hb => ?_)
      | refine by_bool' (fun hb => ?_) (fun hb => ?_))
    exact hk.go _ hg
  refine call_i (within8 _ _ (by omega) _ _ fun k0 hk0 _ hk1 => ?_)
  replace hk1 := hk1 (by omega)
  repeat' (first
    | (simp (disch := first | omega | assumption) only [go_sem, ↓reduceIte, Nat.reduceEqDiff, reduceCtorEq, Nat.reduceAdd, Nat.reduceMul, Int.reduceToNat, Nat.reduceShiftRight, Nat.reduceAnd, Nat.reduceBNe, Nat.reduceBneDiff, Nat.reduceLT, Nat.reduceLeDiff, Int.reduceLT, Int.reduceLE, Int.reduceEq, Int.reduceAdd, Int.reduceSub, *])
    | (refine br_prop (fun hb => ?_) (fun hb => ?_) <;> try (exfalso; omega))
    | refine br_not ?_
    | (refine by_prop (fun hb => ?_) (fun hb => ?_) <;> try (exfalso; omega))
    | (refine by_prop' (fun hb => ?_) (fun hb => ?_) <;> try (exfalso; omega))
    | refine by_not ?_
    | refine w_drawn (by kernel_rfl) ?_
    | refine new_i' (by rfl) (fun j hj hn => ?_)
    | refine new_i (fun j hn => ?_)
    | refine br_bool (fun hb => ?_) (fun hb => ?_)
    | refine by_bool (fun hb => ?_) (fun hb => ?_)
    | refine by_bool' (fun hb => ?_) (fun hb => ?_))
  refine W.loopF 549487378560 (fun n e H' => H' = H ∧ ∃ k : Nat, e 7 = .int .i64 k ∧ k ≤ s.size ∧ n = k) k0.toNat (by kernel_rfl) ?_ ?_
  · exact ⟨rfl, k0.toNat, by simp (disch := first | omega | assumption) only [go_sem, ↓reduceIte, Nat.reduceEqDiff, reduceCtorEq, Nat.reduceAdd, Nat.reduceMul, Int.reduceToNat, Nat.reduceShiftRight, Nat.reduceAnd, Nat.reduceBNe, Nat.reduceBneDiff, Nat.reduceLT, Nat.reduceLeDiff, Int.reduceLT, Int.reduceLE, Int.reduceEq, Int.reduceAdd, Int.reduceSub, *]; rw [Int.toNat_of_nonneg hk0], by omega, rfl⟩
  clear hk0 hk1
  rintro k e Hc J hJ ⟨hHc, k', he, h0, rfl⟩
  subst hHc
  repeat' (first
    | (simp (disch := first | omega | assumption) only [go_sem, ↓reduceIte, Nat.reduceEqDiff, reduceCtorEq, Nat.reduceAdd, Nat.reduceMul, Int.reduceToNat, Nat.reduceShiftRight, Nat.reduceAnd, Nat.reduceBNe, Nat.reduceBneDiff, Nat.reduceLT, Nat.reduceLeDiff, Int.reduceLT, Int.reduceLE, Int.reduceEq, Int.reduceAdd, Int.reduceSub, *])
    | (refine br_prop (fun hb => ?_) (fun hb => ?_) <;> try (exfalso; omega))
    | refine br_not ?_
    | (refine by_prop (fun hb => ?_) (fun hb => ?_) <;> try (exfalso; omega))
    | (refine by_prop' (fun hb => ?_) (fun hb => ?_) <;> try (exfalso; omega))
    | refine by_not ?_
    | refine w_drawn (by kernel_rfl) ?_
    | refine new_i' (by rfl) (fun j hj hn => ?_)
    | refine new_i (fun j hn => ?_)
    | refine br_bool (fun hb => ?_) (fun hb => ?_)
    | refine by_bool (fun hb => ?_) (fun hb => ?_)
    | refine by_bool' (fun hb => ?_) (fun hb => ?_))
  all_goals first
    | exact inv_i (hJ.go _ _ ⟨k - 1, by omega, rfl, k - 1, by show Value.int .i64 ((k : Int) - 1) = _; rw [show ((k - 1 : Nat) : Int) = (k : Int) - 1 by omega], by omega, rfl⟩)
    | skip
  all_goals
    have hcut : Hd (s.data.toList.take k = [] ∨ (s.data.toList.take k).getLast? = some 10) := ⟨by
      first
        | (left; rw [show k = 0 by omega]; rfl)
        | (right
           have h10 : getB s (k - 1) = 10 := by
             apply UInt8.toNat_inj.1
             have e : ((k : Int) - 1).toNat = k - 1 := by omega
             simp only [e] at *
             show _ = 10
             omega
           have hlt : k - 1 < s.data.toList.length := by simp; omega
           have e2 : s.data.toList[k - 1]? = some (getB s (k - 1)) := by
             rw [List.getElem?_eq_getElem hlt]
             unfold getB
             rw [List.getD_eq_getElem?_getD, List.getElem?_eq_getElem hlt]; rfl
           rw [List.getLast?_eq_getElem?, List.length_take, Nat.min_eq_left (by simpa using h0), List.getElem?_take_of_lt (by omega), e2, h10])⟩
    replace hb := Hd.mk True.intro
    clear hJ hb
    refine W.loopF 1125350151029504 (fun n e H' => Grew Hc H' ∧ ∃ i : Nat, e 9 = .int .i64 i ∧ e 8 = .string (moreB i) ∧ i ≤ N ∧ n = N.toNat - i) N.toNat (by kernel_rfl) ?_ ?_
    · exact ⟨.refl _, 0, by simp (disch := first | omega | assumption) only [go_sem, ↓reduceIte, Nat.reduceEqDiff, reduceCtorEq, Nat.reduceAdd, Nat.reduceMul, Int.reduceToNat, Nat.reduceShiftRight, Nat.reduceAnd, Nat.reduceBNe, Nat.reduceBneDiff, Nat.reduceLT, Nat.reduceLeDiff, Int.reduceLT, Int.reduceLE, Int.reduceEq, Int.reduceAdd, Int.reduceSub, *]; try rfl, by simp (disch := first | omega | assumption) only [go_sem, ↓reduceIte, Nat.reduceEqDiff, reduceCtorEq, Nat.reduceAdd, Nat.reduceMul, Int.reduceToNat, Nat.reduceShiftRight, Nat.reduceAnd, Nat.reduceBNe, Nat.reduceBneDiff, Nat.reduceLT, Nat.reduceLeDiff, Int.reduceLT, Int.reduceLE, Int.reduceEq, Int.reduceAdd, Int.reduceSub, *]; try rfl, by omega, rfl⟩
    rintro n1 e1 H1 J hJ ⟨hg, i, he9, he8, hi, rfl⟩
    have hcs : (i : Int) < N → i = 0 ∨ i = 1 ∨ i = 2 ∨ i = 3 := by omega
    replace hg := Hd.mk hg
    replace hcs := Hd.mk hcs
    repeat' (first
      | (simp (disch := first | omega | assumption) only [go_sem, ↓reduceIte, Nat.reduceEqDiff, reduceCtorEq, Nat.reduceAdd, Nat.reduceMul, Int.reduceToNat, Nat.reduceShiftRight, Nat.reduceAnd, Nat.reduceBNe, Nat.reduceBneDiff, Nat.reduceLT, Nat.reduceLeDiff, Int.reduceLT, Int.reduceLE, Int.reduceEq, Int.reduceAdd, Int.reduceSub, *])
      | (refine br_prop (fun hb => ?_) (fun hb => ?_) <;> try (exfalso; omega))
      | refine br_not ?_
      | (refine by_prop (fun hb => ?_) (fun hb => ?_) <;> try (exfalso; omega))
      | (refine by_prop' (fun hb => ?_) (fun hb => ?_) <;> try (exfalso; omega))
      | refine by_not ?_
      | refine w_drawn (by kernel_rfl) ?_
      | refine new_i' (by rfl) (fun j hj hn => ?_)
      | refine new_i (fun j hn => ?_)
      | refine br_bool (fun hb => ?_) (fun hb => ?_)
      | refine by_bool (fun hb => ?_) (fun hb => ?_)
      | refine by_bool' (fun hb => ?_) (fun hb => ?_))
    · rcases hcs.go (by omega) with rfl | rfl | rfl | rfl
      · have hcat : binS .add (moreB 0) ⟨#[10]⟩ = some (.string (moreB 1)) := by kernel_rfl
        repeat' (first
          | (simp (disch := first | omega | assumption) only [go_sem, ↓reduceIte, Nat.reduceEqDiff, reduceCtorEq, Nat.reduceAdd, Nat.reduceMul, Int.reduceToNat, Nat.reduceShiftRight, Nat.reduceAnd, Nat.reduceBNe, Nat.reduceBneDiff, Nat.reduceLT, Nat.reduceLeDiff, Int.reduceLT, Int.reduceLE, Int.reduceEq, Int.reduceAdd, Int.reduceSub, *])
          | (refine br_prop (fun hb => ?_) (fun hb => ?_) <;> try (exfalso; omega))
          | refine br_not ?_
          | (refine by_prop (fun hb => ?_) (fun hb => ?_) <;> try (exfalso; omega))
          | (refine by_prop' (fun hb => ?_) (fun hb => ?_) <;> try (exfalso; omega))
          | refine by_not ?_
          | refine w_drawn (by kernel_rfl) ?_
          | refine new_i' (by rfl) (fun j hj hn => ?_)
          | refine new_i (fun j hn => ?_)
          | refine br_bool (fun hb => ?_) (fun hb => ?_)
          | refine by_bool (fun hb => ?_) (fun hb => ?_)
          | refine by_bool' (fun hb => ?_) (fun hb => ?_))
        exact inv_i (hJ.go _ _ ⟨_, by omega, hg.go.new _ (by assumption), 1, by rfl, by rfl, by omega, rfl⟩)
      · have hcat : binS .add (moreB 1) ⟨#[32, 32, 32, 10]⟩ = some (.string (moreB 2)) := by kernel_rfl
        repeat' (first
          | (simp (disch := first | omega | assumption) only [go_sem, ↓reduceIte, Nat.reduceEqDiff, reduceCtorEq, Nat.reduceAdd, Nat.reduceMul, Int.reduceToNat, Nat.reduceShiftRight, Nat.reduceAnd, Nat.reduceBNe, Nat.reduceBneDiff, Nat.reduceLT, Nat.reduceLeDiff, Int.reduceLT, Int.reduceLE, Int.reduceEq, Int.reduceAdd, Int.reduceSub, *])
          | (refine br_prop (fun hb => ?_) (fun hb => ?_) <;> try (exfalso; omega))
          | refine br_not ?_
          | (refine by_prop (fun hb => ?_) (fun hb => ?_) <;> try (exfalso; omega))
          | (refine by_prop' (fun hb => ?_) (fun hb => ?_) <;> try (exfalso; omega))
          | refine by_not ?_
          | refine w_drawn (by kernel_rfl) ?_
          | refine new_i' (by rfl) (fun j hj hn => ?_)
          | refine new_i (fun j hn => ?_)
          | refine br_bool (fun hb => ?_) (fun hb => ?_)
          | refine by_bool (fun hb => ?_) (fun hb => ?_)
          | refine by_bool' (fun hb => ?_) (fun hb => ?_))
        exact inv_i (hJ.go _ _ ⟨_, by omega, hg.go.new _ (by assumption), 2, by rfl, by rfl, by omega, rfl⟩)
      · have hcat : binS .add (moreB 2) ⟨#[59, 32, 106, 109, 112, 32, 110, 111, 119, 104, 101, 114, 101, 10]⟩ = some (.string (moreB 3)) := by kernel_rfl
        repeat' (first
          | (simp (disch := first | omega | assumption) only [go_sem, ↓reduceIte, Nat.reduceEqDiff, reduceCtorEq, Nat.reduceAdd, Nat.reduceMul, Int.reduceToNat, Nat.reduceShiftRight, Nat.reduceAnd, Nat.reduceBNe, Nat.reduceBneDiff, Nat.reduceLT, Nat.reduceLeDiff, Int.reduceLT, Int.reduceLE, Int.reduceEq, Int.reduceAdd, Int.reduceSub, *])
          | (refine br_prop (fun hb => ?_) (fun hb => ?_) <;> try (exfalso; omega))
          | refine br_not ?_
          | (refine by_prop (fun hb => ?_) (fun hb => ?_) <;> try (exfalso; omega))
          | (refine by_prop' (fun hb => ?_) (fun hb => ?_) <;> try (exfalso; omega))
          | refine by_not ?_
          | refine w_drawn (by kernel_rfl) ?_
          | refine new_i' (by rfl) (fun j hj hn => ?_)
          | refine new_i (fun j hn => ?_)
          | refine br_bool (fun hb => ?_) (fun hb => ?_)
          | refine by_bool (fun hb => ?_) (fun hb => ?_)
          | refine by_bool' (fun hb => ?_) (fun hb => ?_))
        exact inv_i (hJ.go _ _ ⟨_, by omega, hg.go.new _ (by assumption), 3, by rfl, by rfl, by omega, rfl⟩)
      · have hcat : binS .add (moreB 3) ⟨#[32, 32, 59, 10]⟩ = some (.string (moreB 4)) := by kernel_rfl
        repeat' (first
          | (simp (disch := first | omega | assumption) only [go_sem, ↓reduceIte, Nat.reduceEqDiff, reduceCtorEq, Nat.reduceAdd, Nat.reduceMul, Int.reduceToNat, Nat.reduceShiftRight, Nat.reduceAnd, Nat.reduceBNe, Nat.reduceBneDiff, Nat.reduceLT, Nat.reduceLeDiff, Int.reduceLT, Int.reduceLE, Int.reduceEq, Int.reduceAdd, Int.reduceSub, *])
          | (refine br_prop (fun hb => ?_) (fun hb => ?_) <;> try (exfalso; omega))
          | refine br_not ?_
          | (refine by_prop (fun hb => ?_) (fun hb => ?_) <;> try (exfalso; omega))
          | (refine by_prop' (fun hb => ?_) (fun hb => ?_) <;> try (exfalso; omega))
          | refine by_not ?_
          | refine w_drawn (by kernel_rfl) ?_
          | refine new_i' (by rfl) (fun j hj hn => ?_)
          | refine new_i (fun j hn => ?_)
          | refine br_bool (fun hb => ?_) (fun hb => ?_)
          | refine by_bool (fun hb => ?_) (fun hb => ?_)
          | refine by_bool' (fun hb => ?_) (fun hb => ?_))
        exact inv_i (hJ.go _ _ ⟨_, by omega, hg.go.new _ (by assumption), 4, by rfl, by rfl, by omega, rfl⟩)
    · have hi4 : i ≤ 4 := by omega
      have hm : (moreB i).size ≤ 100 := by
        obtain rfl | rfl | rfl | rfl | rfl : i = 0 ∨ i = 1 ∨ i = 2 ∨ i = 3 ∨ i = 4 := by omega
        all_goals decide
      have hs1 : (s.extract 0 k).size = k := by rw [size_ext _ _ _ (by omega) (by omega)]; omega
      have hs2 : (s.extract k s.size).size = s.size - k := size_ext _ _ _ (by omega) (by omega)
      have hs12 : (s.extract 0 k ++ moreB i).size = k + (moreB i).size := by rw [ByteArray.size_append, hs1]
      have hs123 : (s.extract 0 k ++ moreB i ++ s.extract k s.size).size = s.size + (moreB i).size := by rw [ByteArray.size_append, hs12, hs2]; omega
      have eu : (s.extract 0 k ++ moreB i ++ s.extract k s.size).data.toList = s.data.toList.take k ++ more i ++ s.data.toList.drop k := by
        rw [ByteArray.data_append, Array.toList_append, ByteArray.data_append, Array.toList_append, extract_list, extract_list, List.drop_zero, Nat.sub_zero, List.take_of_length_le (l := s.data.toList.drop k) (by simp)]
        rfl
      have hB := parse_silent (s.data.toList.take k) (s.data.toList.drop k) i hcut.go (by rw [List.take_append_drop]; simp; omega) (by
        rw [← eu, Array.length_toList, ByteArray.size_data, hs123]; omega)
      rw [List.take_append_drop, ← eu] at hB
      replace hB := Hd.mk hB
      clear eu
      refine call_i (parse10 s _ _ (fun H2 v1 v2 l labels o1 o2 hp h1 h2 h3 h4 hg2 => ?_) fun H2 er1 er hp he hg2 => ?_)
      · obtain ⟨a1, c1, rfl⟩ := h1.val
        obtain ⟨a2, c2, rfl⟩ := h2.val
        replace h1 := Hd.mk h1
        replace h2 := Hd.mk h2
        replace h3 := Hd.mk h3
        replace h4 := Hd.mk h4
        repeat' (first
          | (simp (disch := first | omega | assumption) only [go_sem, ↓reduceIte, Nat.reduceEqDiff, reduceCtorEq, Nat.reduceAdd, Nat.reduceMul, Int.reduceToNat, Nat.reduceShiftRight, Nat.reduceAnd, Nat.reduceBNe, Nat.reduceBneDiff, Nat.reduceLT, Nat.reduceLeDiff, Int.reduceLT, Int.reduceLE, Int.reduceEq, Int.reduceAdd, Int.reduceSub, *])
          | (refine br_prop (fun hb => ?_) (fun hb => ?_) <;> try (exfalso; omega))
          | refine br_not ?_
          | (refine by_prop (fun hb => ?_) (fun hb => ?_) <;> try (exfalso; omega))
          | (refine by_prop' (fun hb => ?_) (fun hb => ?_) <;> try (exfalso; omega))
          | refine by_not ?_
          | refine w_drawn (by kernel_rfl) ?_
          | refine new_i' (by rfl) (fun j hj hn => ?_)
          | refine new_i (fun j hn => ?_)
          | refine br_bool (fun hb => ?_) (fun hb => ?_)
          | refine by_bool (fun hb => ?_) (fun hb => ?_)
          | refine by_bool' (fun hb => ?_) (fun hb => ?_))
        refine call_i (parse10 (s.extract 0 k ++ moreB i ++ s.extract k s.size) _ _ (fun H3 u1 u2 l' labels' o1' o2' hp' h1' h2' h3' h4' hg3 => ?_) fun H3 er1 er hp' he hg3 => ?_)
        · obtain ⟨a3, c3, rfl⟩ := h1'.val
          obtain ⟨a4, c4, rfl⟩ := h2'.val
          have hE : l' = l ∧ labels' = labels := by
            have h := hB.go
            rw [hp, hp'] at h
            cases h with | ok h => injection h with ha hb; exact ⟨ha.symm, hb.symm⟩
          obtain ⟨rfl, rfl⟩ := hE
          replace h1' := Hd.mk h1'
          replace h2' := Hd.mk h2'
          replace h3' := Hd.mk h3'
          replace h4' := Hd.mk h4'
          repeat' (first
            | (simp (disch := first | omega | assumption) only [go_sem, ↓reduceIte, Nat.reduceEqDiff, reduceCtorEq, Nat.reduceAdd, Nat.reduceMul, Int.reduceToNat, Nat.reduceShiftRight, Nat.reduceAnd, Nat.reduceBNe, Nat.reduceBneDiff, Nat.reduceLT, Nat.reduceLeDiff, Int.reduceLT, Int.reduceLE, Int.reduceEq, Int.reduceAdd, Int.reduceSub, *])
            | (refine br_prop (fun hb => ?_) (fun hb => ?_) <;> try (exfalso; omega))
            | refine br_not ?_
            | (refine by_prop (fun hb => ?_) (fun hb => ?_) <;> try (exfalso; omega))
            | (refine by_prop' (fun hb => ?_) (fun hb => ?_) <;> try (exfalso; omega))
            | refine by_not ?_
            | refine w_drawn (by kernel_rfl) ?_
            | refine new_i' (by rfl) (fun j hj hn => ?_)
            | refine new_i (fun j hn => ?_)
            | refine br_bool (fun hb => ?_) (fun hb => ?_)
            | refine by_bool (fun hb => ?_) (fun hb => ?_)
            | refine by_bool' (fun hb => ?_) (fun hb => ?_))
          have hlen := parse_len hp
          have g2 : SL H3 7 (.slice a1 l'.length c1) l'.length (l'.flatMap encI) o1 := h1.go.grew hg3
          refine call_i (code11 _ _ l' l' o1 o1' H3 g2 h1'.go (by omega) _ ?_)
          rw [decide_eq_true rfl]
          clear g2
          repeat' (first
            | (simp (disch := first | omega | assumption) only [go_sem, ↓reduceIte, Nat.reduceEqDiff, reduceCtorEq, Nat.reduceAdd, Nat.reduceMul, Int.reduceToNat, Nat.reduceShiftRight, Nat.reduceAnd, Nat.reduceBNe, Nat.reduceBneDiff, Nat.reduceLT, Nat.reduceLeDiff, Int.reduceLT, Int.reduceLE, Int.reduceEq, Int.reduceAdd, Int.reduceSub, *])
            | (refine br_prop (fun hb => ?_) (fun hb => ?_) <;> try (exfalso; omega))
            | refine br_not ?_
            | (refine by_prop (fun hb => ?_) (fun hb => ?_) <;> try (exfalso; omega))
            | (refine by_prop' (fun hb => ?_) (fun hb => ?_) <;> try (exfalso; omega))
            | refine by_not ?_
            | refine w_drawn (by kernel_rfl) ?_
            | refine new_i' (by rfl) (fun j hj hn => ?_)
            | refine new_i (fun j hn => ?_)
            | refine br_bool (fun hb => ?_) (fun hb => ?_)
            | refine by_bool (fun hb => ?_) (fun hb => ?_)
            | refine by_bool' (fun hb => ?_) (fun hb => ?_))
          refine W.loopF 2658374861931417139125918331555610688 (fun n e H' => H' = H3 ∧ ∃ i : Nat, e 16 = .int .i64 i ∧ i ≤ labels'.length ∧ n = labels'.length - i) labels'.length (by kernel_rfl) ?_ ?_
          · exact ⟨rfl, 0, by simp (disch := first | omega | assumption) only [go_sem, ↓reduceIte, Nat.reduceEqDiff, reduceCtorEq, Nat.reduceAdd, Nat.reduceMul, Int.reduceToNat, Nat.reduceShiftRight, Nat.reduceAnd, Nat.reduceBNe, Nat.reduceBneDiff, Nat.reduceLT, Nat.reduceLeDiff, Int.reduceLT, Int.reduceLE, Int.reduceEq, Int.reduceAdd, Int.reduceSub, *]; try rfl, by omega, by omega⟩
          clear hJ
          rintro n5 e5 Hd5 J hJ ⟨hHd, i5, he5, h05, rfl⟩
          subst hHd
          repeat' (first
            | (simp (disch := first | omega | assumption) only [go_sem, ↓reduceIte, Nat.reduceEqDiff, reduceCtorEq, Nat.reduceAdd, Nat.reduceMul, Int.reduceToNat, Nat.reduceShiftRight, Nat.reduceAnd, Nat.reduceBNe, Nat.reduceBneDiff, Nat.reduceLT, Nat.reduceLeDiff, Int.reduceLT, Int.reduceLE, Int.reduceEq, Int.reduceAdd, Int.reduceSub, *])
            | (refine br_prop (fun hb => ?_) (fun hb => ?_) <;> try (exfalso; omega))
            | refine br_not ?_
            | (refine by_prop (fun hb => ?_) (fun hb => ?_) <;> try (exfalso; omega))
            | (refine by_prop' (fun hb => ?_) (fun hb => ?_) <;> try (exfalso; omega))
            | refine by_not ?_
            | refine w_drawn (by kernel_rfl) ?_
            | refine new_i' (by rfl) (fun j hj hn => ?_)
            | refine new_i (fun j hn => ?_)
            | refine br_bool (fun hb => ?_) (fun hb => ?_)
            | refine by_bool (fun hb => ?_) (fun hb => ?_)
            | refine by_bool' (fun hb => ?_) (fun hb => ?_))
          · obtain ⟨q1, rfl⟩ : ∃ i2, o2 = some i2 := by
              cases o2 with
              | none => obtain ⟨_, h, _⟩ := h2.go; omega
              | some i2 => exact ⟨_, rfl⟩
            obtain ⟨c2', d2, e2, hH2, _, _, _⟩ := h2.go
            injection e2 with e2a e2b e2c
            subst e2a
            obtain ⟨q2, rfl⟩ : ∃ i2, o2' = some i2 := by
              cases o2' with
              | none => obtain ⟨_, h, _⟩ := h2'.go; omega
              | some i2 => exact ⟨_, rfl⟩
            obtain ⟨c4', d4, e4, hH4, _, _, _⟩ := h2'.go
            injection e4 with e4a e4b e4c
            subst e4a
            clear e2b e4b
            have hi5 : i5 < labels'.length := by omega
            obtain ⟨p, hp⟩ : ∃ p, p = labels'.getD i5 ([], 0) := ⟨_, rfl⟩
            have hr1 : readA (Hd5 q1) (i5 * 2) (some 2) = some (.agg #[.string (bA p.1), .int .i64 p.2]) := by
              rw [hg3 q1 (by rw [hH2]; simp), hH2, flat_read (enc := encLab) (fun _ => rfl) ([], 0) hi5, ← hp]; rfl
            have hr2 : readA (Hd5 q2) (i5 * 2) (some 2) = some (.agg #[.string (bA p.1), .int .i64 p.2]) := by
              rw [hH4, flat_read (enc := encLab) (fun _ => rfl) ([], 0) hi5, ← hp]; rfl
            have hq := eq33 Hd5 (.tmp 115) (.tmp 119) p p
            rw [decide_eq_true rfl] at hq
            clear hH2 hH4 hp
            repeat' (first
              | (simp (disch := first | omega | assumption) only [go_sem, ↓reduceIte, Nat.reduceEqDiff, reduceCtorEq, Nat.reduceAdd, Nat.reduceMul, Int.reduceToNat, Nat.reduceShiftRight, Nat.reduceAnd, Nat.reduceBNe, Nat.reduceBneDiff, Nat.reduceLT, Nat.reduceLeDiff, Int.reduceLT, Int.reduceLE, Int.reduceEq, Int.reduceAdd, Int.reduceSub, *])
              | (refine br_prop (fun hb => ?_) (fun hb => ?_) <;> try (exfalso; omega))
              | refine br_not ?_
              | (refine by_prop (fun hb => ?_) (fun hb => ?_) <;> try (exfalso; omega))
              | (refine by_prop' (fun hb => ?_) (fun hb => ?_) <;> try (exfalso; omega))
              | refine by_not ?_
              | refine w_drawn (by kernel_rfl) ?_
              | refine new_i' (by rfl) (fun j hj hn => ?_)
              | refine new_i (fun j hn => ?_)
              | refine br_bool (fun hb => ?_) (fun hb => ?_)
              | refine by_bool (fun hb => ?_) (fun hb => ?_)
              | refine by_bool' (fun hb => ?_) (fun hb => ?_))
            exact inv_i (hJ.go _ _ ⟨_, by omega, rfl, i5 + 1, rfl, by omega, rfl⟩)
          · refine call_i (awake9 _ _ fun H' hg4 => ?_)
            repeat' (first
              | (simp (disch := first | omega | assumption) only [go_sem, ↓reduceIte, Nat.reduceEqDiff, reduceCtorEq, Nat.reduceAdd, Nat.reduceMul, Int.reduceToNat, Nat.reduceShiftRight, Nat.reduceAnd, Nat.reduceBNe, Nat.reduceBneDiff, Nat.reduceLT, Nat.reduceLeDiff, Int.reduceLT, Int.reduceLE, Int.reduceEq, Int.reduceAdd, Int.reduceSub, true_and])
              | (refine br_prop (fun hb => ?_) (fun hb => ?_) <;> try (exfalso; omega))
              | refine br_not ?_
              | (refine by_prop (fun hb => ?_) (fun hb => ?_) <;> try (exfalso; omega))
              | (refine by_prop' (fun hb => ?_) (fun hb => ?_) <;> try (exfalso; omega))
              | refine by_not ?_
              | refine w_drawn (by kernel_rfl) ?_
              | refine new_i' (by rfl) (fun j hj hn => ?_)
              | refine new_i (fun j hn => ?_)
              | refine br_bool (fun hb => ?_) (fun hb => ?_)
              | refine by_bool (fun hb => ?_) (fun hb => ?_)
              | refine by_bool' (fun hb => ?_) (fun hb => ?_))
            exact hk.go _ (((hg.go.trans hg2).trans hg3).trans hg4)
        · exfalso
          have h := hB.go
          rw [hp, hp'] at h
          cases h
      · obtain ⟨ei, rfl⟩ := he.ptr
        repeat' (first
          | (simp (disch := first | omega | assumption) only [go_sem, ↓reduceIte, Nat.reduceEqDiff, reduceCtorEq, Nat.reduceAdd, Nat.reduceMul, Int.reduceToNat, Nat.reduceShiftRight, Nat.reduceAnd, Nat.reduceBNe, Nat.reduceBneDiff, Nat.reduceLT, Nat.reduceLeDiff, Int.reduceLT, Int.reduceLE, Int.reduceEq, Int.reduceAdd, Int.reduceSub, *])
          | (refine br_prop (fun hb => ?_) (fun hb => ?_) <;> try (exfalso; omega))
          | refine br_not ?_
          | (refine by_prop (fun hb => ?_) (fun hb => ?_) <;> try (exfalso; omega))
          | (refine by_prop' (fun hb => ?_) (fun hb => ?_) <;> try (exfalso; omega))
          | refine by_not ?_
          | refine w_drawn (by kernel_rfl) ?_
          | refine new_i' (by rfl) (fun j hj hn => ?_)
          | refine new_i (fun j hn => ?_)
          | refine br_bool (fun hb => ?_) (fun hb => ?_)
          | refine by_bool (fun hb => ?_) (fun hb => ?_)
          | refine by_bool' (fun hb => ?_) (fun hb => ?_))
        refine call_i (parse10 (s.extract 0 k ++ moreB i ++ s.extract k s.size) _ _ (fun H3 u1 u2 l' labels' o1' o2' hp' h1' h2' h3' h4' hg3 => ?_) fun H3 er2 er' hp' he' hg3 => ?_)
        · exfalso
          have h := hB.go
          rw [hp, hp'] at h
          cases h
        · obtain ⟨ej, rfl⟩ := he'.ptr
          repeat' (first
            | (simp (disch := first | omega | assumption) only [go_sem, ↓reduceIte, Nat.reduceEqDiff, reduceCtorEq, Nat.reduceAdd, Nat.reduceMul, Int.reduceToNat, Nat.reduceShiftRight, Nat.reduceAnd, Nat.reduceBNe, Nat.reduceBneDiff, Nat.reduceLT, Nat.reduceLeDiff, Int.reduceLT, Int.reduceLE, Int.reduceEq, Int.reduceAdd, Int.reduceSub, *])
            | (refine br_prop (fun hb => ?_) (fun hb => ?_) <;> try (exfalso; omega))
            | refine br_not ?_
            | (refine by_prop (fun hb => ?_) (fun hb => ?_) <;> try (exfalso; omega))
            | (refine by_prop' (fun hb => ?_) (fun hb => ?_) <;> try (exfalso; omega))
            | refine by_not ?_
            | refine w_drawn (by kernel_rfl) ?_
            | refine new_i' (by rfl) (fun j hj hn => ?_)
            | refine new_i (fun j hn => ?_)
            | refine br_bool (fun hb => ?_) (fun hb => ?_)
            | refine by_bool (fun hb => ?_) (fun hb => ?_)
            | refine by_bool' (fun hb => ?_) (fun hb => ?_))
          refine call_i (awake9 _ _ fun H' hg4 => ?_)
          repeat' (first
            | (simp (disch := first | omega | assumption) only [go_sem, ↓reduceIte, Nat.reduceEqDiff, reduceCtorEq, Nat.reduceAdd, Nat.reduceMul, Int.reduceToNat, Nat.reduceShiftRight, Nat.reduceAnd, Nat.reduceBNe, Nat.reduceBneDiff, Nat.reduceLT, Nat.reduceLeDiff, Int.reduceLT, Int.reduceLE, Int.reduceEq, Int.reduceAdd, Int.reduceSub, true_and])
            | (refine br_prop (fun hb => ?_) (fun hb => ?_) <;> try (exfalso; omega))
            | refine br_not ?_
            | (refine by_prop (fun hb => ?_) (fun hb => ?_) <;> try (exfalso; omega))
            | (refine by_prop' (fun hb => ?_) (fun hb => ?_) <;> try (exfalso; omega))
            | refine by_not ?_
            | refine w_drawn (by kernel_rfl) ?_
            | refine new_i' (by rfl) (fun j hj hn => ?_)
            | refine new_i (fun j hn => ?_)
            | refine br_bool (fun hb => ?_) (fun hb => ?_)
            | refine by_bool (fun hb => ?_) (fun hb => ?_)
            | refine by_bool' (fun hb => ?_) (fun hb => ?_))
          exact hk.go _ (((hg.go.trans hg2).trans hg3).trans hg4)
end Go.Proofs
