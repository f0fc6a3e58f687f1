/-
  A part of the proofs: EB.
-/
import Derived.Test.YtnbfimppgcoajaaDoorDT
import Derived.Test.YtnbfimppgcoajaaDoorAbS
import Derived.Test.YtnbfimppgcoajaaDoorPA
import Derived.Test.YtnbfimppgcoajaaDoorEA
namespace Go.Proofs
set_option linter.unusedSimpArgs false
set_option linter.unusedVariables false
set_option linter.unusedSectionVars false
open Go Go.Ab AsmM
variable [Go.Ab.Start]
set_option maxRecDepth 100000
set_option maxHeartbeats 1000000
theorem indexByte_strip (c : UInt8) : ∀ l : List UInt8, (Lib.indexByte l c = -1 ∧ l.takeWhile (· ≠ c) = l) ∨ (∃ k : Nat, k < l.length ∧ Lib.indexByte l c = k ∧ l.takeWhile (· ≠ c) = l.take k ∧ l.contains c = true)
  | [] => .inl ⟨rfl, rfl⟩
  | b :: l => by
    by_cases hb : b = c
    · refine .inr ⟨0, by simp, by simp [Lib.indexByte, hb], by simp [hb], by simp [hb]⟩
    · have hb' : (b == c) = false := by simpa using hb
      rcases indexByte_strip c l with ⟨h1, h2⟩ | ⟨k, hk, h1, h2, h3⟩
      · refine .inl ⟨by simp [Lib.indexByte, hb', h1], by rw [List.takeWhile_cons, if_pos (by simpa using hb), h2]⟩
      · refine .inr ⟨k + 1, by simpa using hk, ?_, by rw [List.takeWhile_cons, if_pos (by simpa using hb), h2]; rfl, by rw [List.contains_cons, h3]; simp⟩
        have : ¬ ((k : Int) = -1) := by omega
        simp only [Lib.indexByte, hb', h1]
        simp [this]
theorem drop_at (s : ByteArray) (i : Nat) (h : i < s.size) : s.data.toList.drop i = getB s i :: s.data.toList.drop (i + 1) := by
  have hl : i < s.data.toList.length := by simpa using h
  rw [List.drop_eq_getElem_cons hl]
  unfold getB
  rw [List.getD_eq_getElem?_getD, List.getElem?_eq_getElem hl]
  rfl
theorem ext_nil (s : ByteArray) (i : Nat) : (s.extract i i).data.toList = [] := by rw [extract_list]; simp
theorem ext_snoc (s : ByteArray) (a i : Nat) (h : a ≤ i) (hi : i < s.size) : (s.extract a (i + 1)).data.toList = (s.extract a i).data.toList ++ [getB s i] := by
  rw [extract_list, extract_list]
  have e : i + 1 - a = (i - a) + 1 := by omega
  have hl : i - a < (s.data.toList.drop a).length := by rw [List.length_drop]; have : s.data.toList.length = s.size := by simp
                                                        omega
  rw [e, List.take_succ_eq_append_getElem hl]
  congr 2
  rw [List.getElem_drop]
  unfold getB
  have h2 : i < s.data.toList.length := by simpa using hi
  rw [List.getD_eq_getElem?_getD, List.getElem?_eq_getElem h2]
  simp only [Option.getD_some]
  congr 1; omega
theorem ext_ne (s : ByteArray) (a i : Nat) (h : a < i) (hi : i ≤ s.size) : (s.extract a i).data.toList ≠ [] := by
  rw [extract_list]
  intro e
  have := congrArg List.length e
  rw [List.length_take, List.length_drop] at this
  have : s.data.toList.length = s.size := by simp
  simp at *; omega
theorem cut_next (cur r : Bytes) (c : UInt8) (h : c ≠ 32) : cut cur (c :: r) = cut (cur ++ [c]) r := by rw [cut, if_neg h]
theorem cut_blank (cur r : Bytes) : cut cur (32 :: r) = (if cur = [] then [] else [cur]) ++ cut [] r := by
  rw [cut, if_pos rfl]; split
  · rename_i h; rfl
  · rfl
theorem words34 (s : ByteArray) (hs : s.size ≤ 1000000) (H : AHeap) (K : Value → AHeap → Prop) (hk : ∀ (v : Value) (H' : AHeap) (ls : List ByteArray), Grew H H' → SN H H' 1 v ls.length (ls.map .string) → ls.map (·.data.toList) = words s.data.toList → K v H') : ACalls Tryd.prog 34 #[.string s] H K := by
  refine w_enter (args := [.string s]) Tryd.func34 rfl (by kernel_rfl) D.mixed (by kernel_rfl) (rs := [.tmp 2]) rfl ?_
  repeat' (first
    | (simp (disch := first | omega | assumption) only [go_sem, ↓reduceIte, Nat.reduceEqDiff, reduceCtorEq, Nat.reduceAdd, Nat.reduceMul, Int.reduceToNat, Nat.reduceShiftRight, Nat.reduceAnd, Nat.reduceBNe, Nat.reduceBneDiff, Nat.reduceLT, Nat.reduceLeDiff, Int.reduceLT, Int.reduceLE, Int.reduceEq, Int.reduceAdd, Int.reduceSub, true_and])
    | (refine br_prop (fun hb => ?_) (fun hb => ?_) <;> try (exfalso; omega))
    | refine br_not ?_
    | (refine by_prop (fun hb => ?_) (fun hb => ?_) <;> try (exfalso; omega))
    | (refine by_prop' (fun hb => ?_) (fun hb => ?_) <;> try (exfalso; omega))
    | refine by_not ?_
    | refine w_drawn (by kernel_rfl) ?_
    | refine new_i' (by rfl) (fun j hj hn => ?_)
    | refine new_i (fun j hn => ?_)
    | refine br_bool (fun hb => ?_) (fun hb => ?_)
    | refine by_bool (fun hb => ?_) (fun hb => ?_)
    | refine by_bool' (fun hb => ?_) (fun hb => ?_))
  refine call_i (ib55 _ _ _ _ ?_)
  have h59 : (Int.toNat 59).toUInt8 = 59 := rfl
  rw [h59]
  obtain ⟨t, hw, hts, hcase⟩ : ∃ t : ByteArray, words s.data.toList = cut [] t.data.toList ∧ t.size ≤ 1000000 ∧ ((Lib.indexByte s.data.toList 59 = -1 ∧ t = s) ∨ (∃ k : Nat, k ≤ s.size ∧ Lib.indexByte s.data.toList 59 = k ∧ t = s.extract 0 k)) := by
    rcases indexByte_strip 59 s.data.toList with ⟨h1, h2⟩ | ⟨k, hk, h1, h2, _⟩
    · exact ⟨s, by unfold words strip; rw [h2], hs, .inl ⟨h1, rfl⟩⟩
    · have hk' : k ≤ s.size := by have : s.data.toList.length = s.size := by simp
                                  omega
      exact ⟨s.extract 0 k, by unfold words strip; rw [h2, extract_list]; rfl, by rw [ByteArray.size_extract]; omega, .inr ⟨k, hk', h1, rfl⟩⟩
  rcases hcase with ⟨h1, rfl⟩ | ⟨k, hk1, h1, ht⟩
  all_goals
    rw [h1]
    repeat' (first
      | (simp (disch := first | omega | assumption) only [go_sem, ↓reduceIte, Nat.reduceEqDiff, reduceCtorEq, Nat.reduceAdd, Nat.reduceMul, Int.reduceToNat, Nat.reduceShiftRight, Nat.reduceAnd, Nat.reduceBNe, Nat.reduceBneDiff, Nat.reduceLT, Nat.reduceLeDiff, Int.reduceLT, Int.reduceLE, Int.reduceEq, Int.reduceAdd, Int.reduceSub, *])
      | (refine br_prop (fun hb => ?_) (fun hb => ?_) <;> try (exfalso; omega))
      | refine br_not ?_
      | (refine by_prop (fun hb => ?_) (fun hb => ?_) <;> try (exfalso; omega))
      | (refine by_prop' (fun hb => ?_) (fun hb => ?_) <;> try (exfalso; omega))
      | refine by_not ?_
      | refine w_drawn (by kernel_rfl) ?_
      | refine new_i' (by rfl) (fun j hj hn => ?_)
      | refine new_i (fun j hn => ?_)
      | refine br_bool (fun hb => ?_) (fun hb => ?_)
      | refine by_bool (fun hb => ?_) (fun hb => ?_)
      | refine by_bool' (fun hb => ?_) (fun hb => ?_))
    try rw [← ht]
    try clear ht
    clear h1
  all_goals
    refine W.loopF 4398046494832 (fun n e H1 => Grew H H1 ∧ ∃ (i a : Nat) (ls : List ByteArray), e 6 = .int .i64 i ∧ e 5 = .int .i64 a ∧ SN H H1 1 (e 4) ls.length (ls.map .string) ∧ i ≤ t.size + 1 ∧ a ≤ i ∧ n = t.size + 1 - i ∧ ls.length ≤ i ∧ (if i ≤ t.size then cut [] t.data.toList = ls.map (·.data.toList) ++ cut (t.extract a i).data.toList (t.data.toList.drop i) else cut [] t.data.toList = ls.map (·.data.toList))) (t.size + 1) (by kernel_rfl)
      ⟨.refl _, 0, 0, [], by first | (simp (disch := first | omega | assumption) only [go_sem, ↓reduceIte, Nat.reduceEqDiff, reduceCtorEq, Nat.reduceAdd, Nat.reduceMul, Int.reduceToNat, Nat.reduceShiftRight, Nat.reduceAnd, Nat.reduceBNe, Nat.reduceBneDiff, Nat.reduceLT, Nat.reduceLeDiff, Int.reduceLT, Int.reduceLE, Int.reduceEq, Int.reduceAdd, Int.reduceSub, *]; done) | (simp (disch := first | omega | assumption) only [go_sem, ↓reduceIte, Nat.reduceEqDiff, reduceCtorEq, Nat.reduceAdd, Nat.reduceMul, Int.reduceToNat, Nat.reduceShiftRight, Nat.reduceAnd, Nat.reduceBNe, Nat.reduceBneDiff, Nat.reduceLT, Nat.reduceLeDiff, Int.reduceLT, Int.reduceLE, Int.reduceEq, Int.reduceAdd, Int.reduceSub, *]; rfl), by first | (simp (disch := first | omega | assumption) only [go_sem, ↓reduceIte, Nat.reduceEqDiff, reduceCtorEq, Nat.reduceAdd, Nat.reduceMul, Int.reduceToNat, Nat.reduceShiftRight, Nat.reduceAnd, Nat.reduceBNe, Nat.reduceBneDiff, Nat.reduceLT, Nat.reduceLeDiff, Int.reduceLT, Int.reduceLE, Int.reduceEq, Int.reduceAdd, Int.reduceSub, *]; done) | (simp (disch := first | omega | assumption) only [go_sem, ↓reduceIte, Nat.reduceEqDiff, reduceCtorEq, Nat.reduceAdd, Nat.reduceMul, Int.reduceToNat, Nat.reduceShiftRight, Nat.reduceAnd, Nat.reduceBNe, Nat.reduceBneDiff, Nat.reduceLT, Nat.reduceLeDiff, Int.reduceLT, Int.reduceLE, Int.reduceEq, Int.reduceAdd, Int.reduceSub, *]; rfl), .nil _ _ _, by omega, by omega, rfl, by simp, by rw [if_pos (Nat.zero_le _)]; simp [ext_nil]⟩ ?_
    rintro n e H1 J hJ ⟨hg, i, a, ls, h6, h5, hsl, hi, ha, rfl, hls, hcut⟩
    by_cases hle : i ≤ t.size
    · rw [if_pos hle] at hcut
      by_cases hlt : i < t.size
      · rw [drop_at t i hlt] at hcut
        by_cases h32 : (getB t i).toNat = 32
        · have hc : getB t i = 32 := UInt8.toNat_inj.1 h32
          rw [hc, cut_blank] at hcut
          clear hc
          by_cases hia : a < i
          · rw [if_neg (ext_ne t a i hia hle)] at hcut
            repeat' (first
              | (simp (disch := first | omega | assumption) only [go_sem, ↓reduceIte, Nat.reduceEqDiff, reduceCtorEq, Nat.reduceAdd, Nat.reduceMul, Int.reduceToNat, Nat.reduceShiftRight, Nat.reduceAnd, Nat.reduceBNe, Nat.reduceBneDiff, Nat.reduceLT, Nat.reduceLeDiff, Int.reduceLT, Int.reduceLE, Int.reduceEq, Int.reduceAdd, Int.reduceSub, *])
              | (refine br_prop (fun hb => ?_) (fun hb => ?_) <;> try (exfalso; omega))
              | refine br_not ?_
              | (refine by_prop (fun hb => ?_) (fun hb => ?_) <;> try (exfalso; omega))
              | (refine by_prop' (fun hb => ?_) (fun hb => ?_) <;> try (exfalso; omega))
              | refine by_not ?_
              | refine w_drawn (by kernel_rfl) ?_
              | refine new_i' (by rfl) (fun j hj hn => ?_)
              | refine new_i (fun j hn => ?_)
              | refine br_bool (fun hb => ?_) (fun hb => ?_)
              | refine by_bool (fun hb => ?_) (fun hb => ?_)
              | refine by_bool' (fun hb => ?_) (fun hb => ?_))
            refine app_i (app_sn D.e24 (hg.new _ hn) (hsl.new _ hn) (news_one D.u24 (AHeap.set_same _ _ _) rfl) rfl (by omega) (by omega) (by omega) fun v' H' hg' hsl' => ?_)
            have hsl2 : SN H H' 1 v' (ls ++ [t.extract a i]).length ((ls ++ [t.extract a i]).map .string) := by simpa using hsl'
            repeat' (first
              | (simp (disch := first | omega | assumption) only [go_sem, ↓reduceIte, Nat.reduceEqDiff, reduceCtorEq, Nat.reduceAdd, Nat.reduceMul, Int.reduceToNat, Nat.reduceShiftRight, Nat.reduceAnd, Nat.reduceBNe, Nat.reduceBneDiff, Nat.reduceLT, Nat.reduceLeDiff, Int.reduceLT, Int.reduceLE, Int.reduceEq, Int.reduceAdd, Int.reduceSub, h5, h6])
              | (refine br_prop (fun hb => ?_) (fun hb => ?_) <;> try (exfalso; omega))
              | refine br_not ?_
              | (refine by_prop (fun hb => ?_) (fun hb => ?_) <;> try (exfalso; omega))
              | (refine by_prop' (fun hb => ?_) (fun hb => ?_) <;> try (exfalso; omega))
              | refine by_not ?_
              | refine w_drawn (by kernel_rfl) ?_
              | refine new_i' (by rfl) (fun j hj hn => ?_)
              | refine new_i (fun j hn => ?_)
              | refine br_bool (fun hb => ?_) (fun hb => ?_)
              | refine by_bool (fun hb => ?_) (fun hb => ?_)
              | refine by_bool' (fun hb => ?_) (fun hb => ?_))
            exact inv_i (hJ.go _ _ ⟨t.size + 1 - (i + 1), by omega, hg', i + 1, i + 1, ls ++ [t.extract a i], rfl, rfl, hsl2, by omega, by omega, rfl, by simp; omega, by rw [if_pos (by omega), hcut, ext_nil]; simp⟩)
          · obtain rfl : a = i := by omega
            rw [if_pos (ext_nil t a)] at hcut
            repeat' (first
              | (simp (disch := first | omega | assumption) only [go_sem, ↓reduceIte, Nat.reduceEqDiff, reduceCtorEq, Nat.reduceAdd, Nat.reduceMul, Int.reduceToNat, Nat.reduceShiftRight, Nat.reduceAnd, Nat.reduceBNe, Nat.reduceBneDiff, Nat.reduceLT, Nat.reduceLeDiff, Int.reduceLT, Int.reduceLE, Int.reduceEq, Int.reduceAdd, Int.reduceSub, *])
              | (refine br_prop (fun hb => ?_) (fun hb => ?_) <;> try (exfalso; omega))
              | refine br_not ?_
              | (refine by_prop (fun hb => ?_) (fun hb => ?_) <;> try (exfalso; omega))
              | (refine by_prop' (fun hb => ?_) (fun hb => ?_) <;> try (exfalso; omega))
              | refine by_not ?_
              | refine w_drawn (by kernel_rfl) ?_
              | refine new_i' (by rfl) (fun j hj hn => ?_)
              | refine new_i (fun j hn => ?_)
              | refine br_bool (fun hb => ?_) (fun hb => ?_)
              | refine by_bool (fun hb => ?_) (fun hb => ?_)
              | refine by_bool' (fun hb => ?_) (fun hb => ?_))
            exact inv_i (hJ.go _ _ ⟨t.size + 1 - (a + 1), by omega, hg, a + 1, a + 1, ls, rfl, rfl, hsl, by omega, by omega, rfl, by omega, by rw [if_pos (by omega), hcut, ext_nil]; rfl⟩)
        · rw [cut_next _ _ _ (fun hc => h32 (by rw [hc]; rfl)), ← ext_snoc t a i ha hlt] at hcut
          repeat' (first
            | (simp (disch := first | omega | assumption) only [go_sem, ↓reduceIte, Nat.reduceEqDiff, reduceCtorEq, Nat.reduceAdd, Nat.reduceMul, Int.reduceToNat, Nat.reduceShiftRight, Nat.reduceAnd, Nat.reduceBNe, Nat.reduceBneDiff, Nat.reduceLT, Nat.reduceLeDiff, Int.reduceLT, Int.reduceLE, Int.reduceEq, Int.reduceAdd, Int.reduceSub, *])
            | (refine br_prop (fun hb => ?_) (fun hb => ?_) <;> try (exfalso; omega))
            | refine br_not ?_
            | (refine by_prop (fun hb => ?_) (fun hb => ?_) <;> try (exfalso; omega))
            | (refine by_prop' (fun hb => ?_) (fun hb => ?_) <;> try (exfalso; omega))
            | refine by_not ?_
            | refine w_drawn (by kernel_rfl) ?_
            | refine new_i' (by rfl) (fun j hj hn => ?_)
            | refine new_i (fun j hn => ?_)
            | refine br_bool (fun hb => ?_) (fun hb => ?_)
            | refine by_bool (fun hb => ?_) (fun hb => ?_)
            | refine by_bool' (fun hb => ?_) (fun hb => ?_))
          exact inv_i (hJ.go _ _ ⟨t.size + 1 - (i + 1), by omega, hg, i + 1, a, ls, rfl, h5, hsl, by omega, by omega, rfl, by omega, by rw [if_pos (by omega)]; exact hcut⟩)
      · obtain rfl : i = t.size := by omega
        rw [List.drop_eq_nil_of_le (by simp)] at hcut
        by_cases hia : a < t.size
        · rw [cut, if_neg (ext_ne t a _ hia hle)] at hcut
          repeat' (first
            | (simp (disch := first | omega | assumption) only [go_sem, ↓reduceIte, Nat.reduceEqDiff, reduceCtorEq, Nat.reduceAdd, Nat.reduceMul, Int.reduceToNat, Nat.reduceShiftRight, Nat.reduceAnd, Nat.reduceBNe, Nat.reduceBneDiff, Nat.reduceLT, Nat.reduceLeDiff, Int.reduceLT, Int.reduceLE, Int.reduceEq, Int.reduceAdd, Int.reduceSub, *])
            | (refine br_prop (fun hb => ?_) (fun hb => ?_) <;> try (exfalso; omega))
            | refine br_not ?_
            | (refine by_prop (fun hb => ?_) (fun hb => ?_) <;> try (exfalso; omega))
            | (refine by_prop' (fun hb => ?_) (fun hb => ?_) <;> try (exfalso; omega))
            | refine by_not ?_
            | refine w_drawn (by kernel_rfl) ?_
            | refine new_i' (by rfl) (fun j hj hn => ?_)
            | refine new_i (fun j hn => ?_)
            | refine br_bool (fun hb => ?_) (fun hb => ?_)
            | refine by_bool (fun hb => ?_) (fun hb => ?_)
            | refine by_bool' (fun hb => ?_) (fun hb => ?_))
          refine app_i (app_sn D.e24 (hg.new _ hn) (hsl.new _ hn) (news_one D.u24 (AHeap.set_same _ _ _) rfl) rfl (by omega) (by omega) (by omega) fun v' H' hg' hsl' => ?_)
          have hsl2 : SN H H' 1 v' (ls ++ [t.extract a t.size]).length ((ls ++ [t.extract a t.size]).map .string) := by simpa using hsl'
          repeat' (first
            | (simp (disch := first | omega | assumption) only [go_sem, ↓reduceIte, Nat.reduceEqDiff, reduceCtorEq, Nat.reduceAdd, Nat.reduceMul, Int.reduceToNat, Nat.reduceShiftRight, Nat.reduceAnd, Nat.reduceBNe, Nat.reduceBneDiff, Nat.reduceLT, Nat.reduceLeDiff, Int.reduceLT, Int.reduceLE, Int.reduceEq, Int.reduceAdd, Int.reduceSub, h5, h6])
            | (refine br_prop (fun hb => ?_) (fun hb => ?_) <;> try (exfalso; omega))
            | refine br_not ?_
            | (refine by_prop (fun hb => ?_) (fun hb => ?_) <;> try (exfalso; omega))
            | (refine by_prop' (fun hb => ?_) (fun hb => ?_) <;> try (exfalso; omega))
            | refine by_not ?_
            | refine w_drawn (by kernel_rfl) ?_
            | refine new_i' (by rfl) (fun j hj hn => ?_)
            | refine new_i (fun j hn => ?_)
            | refine br_bool (fun hb => ?_) (fun hb => ?_)
            | refine by_bool (fun hb => ?_) (fun hb => ?_)
            | refine by_bool' (fun hb => ?_) (fun hb => ?_))
          exact inv_i (hJ.go _ _ ⟨t.size + 1 - (t.size + 1), by omega, hg', t.size + 1, t.size + 1, ls ++ [t.extract a t.size], rfl, rfl, hsl2, by omega, by omega, rfl, by simp; omega, by rw [if_neg (by omega), hcut]; simp⟩)
        · obtain rfl : a = t.size := by omega
          rw [cut, if_pos (ext_nil t _)] at hcut
          repeat' (first
            | (simp (disch := first | omega | assumption) only [go_sem, ↓reduceIte, Nat.reduceEqDiff, reduceCtorEq, Nat.reduceAdd, Nat.reduceMul, Int.reduceToNat, Nat.reduceShiftRight, Nat.reduceAnd, Nat.reduceBNe, Nat.reduceBneDiff, Nat.reduceLT, Nat.reduceLeDiff, Int.reduceLT, Int.reduceLE, Int.reduceEq, Int.reduceAdd, Int.reduceSub, *])
            | (refine br_prop (fun hb => ?_) (fun hb => ?_) <;> try (exfalso; omega))
            | refine br_not ?_
            | (refine by_prop (fun hb => ?_) (fun hb => ?_) <;> try (exfalso; omega))
            | (refine by_prop' (fun hb => ?_) (fun hb => ?_) <;> try (exfalso; omega))
            | refine by_not ?_
            | refine w_drawn (by kernel_rfl) ?_
            | refine new_i' (by rfl) (fun j hj hn => ?_)
            | refine new_i (fun j hn => ?_)
            | refine br_bool (fun hb => ?_) (fun hb => ?_)
            | refine by_bool (fun hb => ?_) (fun hb => ?_)
            | refine by_bool' (fun hb => ?_) (fun hb => ?_))
          exact inv_i (hJ.go _ _ ⟨t.size + 1 - (t.size + 1), by omega, hg, t.size + 1, t.size + 1, ls, rfl, rfl, hsl, by omega, by omega, rfl, by omega, by rw [if_neg (by omega), hcut]; simp⟩)
    · rw [if_neg hle] at hcut
      rw [hcut] at hw
      repeat' (first
        | (simp (disch := first | omega | assumption) only [go_sem, ↓reduceIte, Nat.reduceEqDiff, reduceCtorEq, Nat.reduceAdd, Nat.reduceMul, Int.reduceToNat, Nat.reduceShiftRight, Nat.reduceAnd, Nat.reduceBNe, Nat.reduceBneDiff, Nat.reduceLT, Nat.reduceLeDiff, Int.reduceLT, Int.reduceLE, Int.reduceEq, Int.reduceAdd, Int.reduceSub, hle, h6])
        | (refine br_prop (fun hb => ?_) (fun hb => ?_) <;> try (exfalso; omega))
        | refine br_not ?_
        | (refine by_prop (fun hb => ?_) (fun hb => ?_) <;> try (exfalso; omega))
        | (refine by_prop' (fun hb => ?_) (fun hb => ?_) <;> try (exfalso; omega))
        | refine by_not ?_
        | refine w_drawn (by kernel_rfl) ?_
        | refine new_i' (by rfl) (fun j hj hn => ?_)
        | refine new_i (fun j hn => ?_)
        | refine br_bool (fun hb => ?_) (fun hb => ?_)
        | refine by_bool (fun hb => ?_) (fun hb => ?_)
        | refine by_bool' (fun hb => ?_) (fun hb => ?_))
      exact hk _ _ ls hg hsl hw.symm
end Go.Proofs
