/-
  A part of the proofs: EB EC.
-/
import Derived.Test.YtnbfimppgcoajaaDoorDT
import Derived.Test.YtnbfimppgcoajaaDoorAbS
import Derived.Test.YtnbfimppgcoajaaDoorPA
import Derived.Test.YtnbfimppgcoajaaDoorEA
import Derived.Test.YtnbfimppgcoajaaDoorER
namespace Go.Proofs
set_option linter.unusedSimpArgs false
set_option linter.unusedVariables false
set_option linter.unusedSectionVars false
open Go Go.Ab AsmM
variable [Go.Ab.Start]
set_option maxRecDepth 100000
set_option maxHeartbeats 1000000
theorem indexByte_strip (c : UInt8) : ∀ l : List UInt8, (Lib.indexByte l c = -1 ∧ l.takeWhile (· ≠ c) = l) ∨ (∃ k : Nat, k < l.length ∧ Lib.indexByte l c = k ∧ l.takeWhile (· ≠ c) = l.take k ∧ l.contains c = true)
  | [] => .inl ⟨rfl, rfl⟩
  | b :: l => by
    by_cases hb : b = c
    · refine .inr ⟨0, by simp, by simp [Lib.indexByte, hb], by simp [hb], by simp [hb]⟩
    · have hb' : (b == c) = false := by simpa using hb
      rcases indexByte_strip c l with ⟨h1, h2⟩ | ⟨k, hk, h1, h2, h3⟩
      · refine .inl ⟨by simp [Lib.indexByte, hb', h1], by rw [List.takeWhile_cons, if_pos (by simpa using hb), h2]⟩
      · refine .inr ⟨k + 1, by simpa using hk, ?_, by rw [List.takeWhile_cons, if_pos (by simpa using hb), h2]; rfl, by rw [List.contains_cons, h3]; simp⟩
        have : ¬ ((k : Int) = -1) := by omega
        simp only [Lib.indexByte, hb', h1]
        simp [this]
theorem drop_at (s : ByteArray) (i : Nat) (h : i < s.size) : s.data.toList.drop i = getB s i :: s.data.toList.drop (i + 1) := by
  have hl : i < s.data.toList.length := by simpa using h
  rw [List.drop_eq_getElem_cons hl]
  unfold getB
  rw [List.getD_eq_getElem?_getD, List.getElem?_eq_getElem hl]
  rfl
theorem ext_nil (s : ByteArray) (i : Nat) : (s.extract i i).data.toList = [] := by rw [extract_list]; simp
theorem ext_snoc (s : ByteArray) (a i : Nat) (h : a ≤ i) (hi : i < s.size) : (s.extract a (i + 1)).data.toList = (s.extract a i).data.toList ++ [getB s i] := by
  rw [extract_list, extract_list]
  have e : i + 1 - a = (i - a) + 1 := by omega
  have hl : i - a < (s.data.toList.drop a).length := by rw [List.length_drop]; have : s.data.toList.length = s.size := by simp
                                                        omega
  rw [e, List.take_succ_eq_append_getElem hl]
  congr 2
  rw [List.getElem_drop]
  unfold getB
  have h2 : i < s.data.toList.length := by simpa using hi
  rw [List.getD_eq_getElem?_getD, List.getElem?_eq_getElem h2]
  simp only [Option.getD_some]
  congr 1; omega
theorem ext_ne (s : ByteArray) (a i : Nat) (h : a < i) (hi : i ≤ s.size) : (s.extract a i).data.toList ≠ [] := by
  rw [extract_list]
  intro e
  have := congrArg List.length e
  rw [List.length_take, List.length_drop] at this
  have : s.data.toList.length = s.size := by simp
  simp at *; omega
theorem cut_next (cur r : Bytes) (c : UInt8) (h : c ≠ 32) : cut cur (c :: r) = cut (cur ++ [c]) r := by rw [cut, if_neg h]
theorem cut_blank (cur r : Bytes) : cut cur (32 :: r) = (if cur = [] then [] else [cur]) ++ cut [] r := by
  rw [cut, if_pos rfl]; split
  · rename_i h; rfl
  · rfl
theorem words34 (s : ByteArray) (hs : s.size ≤ 1000000) (H : AHeap) (K : Value → AHeap → Prop) (hk : ∀ (v : Value) (H' : AHeap) (ls : List ByteArray), Grew H H' → SN H H' 1 v ls.length (ls.map .string) → ls.map (·.data.toList) = words s.data.toList → K v H') : ACalls Tryd.prog 34 #[.string s] H K := by
  refine w_enter (args := [.string s]) Tryd.func34 rfl (by kernel_rfl) D.mixed (by kernel_rfl) (rs := [.tmp 2]) rfl ?_
  repeat' (first
    | (simp (disch := first | omega | assumption) only [go_sem, ↓reduceIte, Nat.reduceEqDiff, reduceCtorEq, Nat.reduceAdd, Nat.reduceMul, Int.reduceToNat, Nat.reduceShiftRight, Nat.reduceAnd, Nat.reduceBNe, Nat.reduceBneDiff, Nat.reduceLT, Nat.reduceLeDiff, Int.reduceLT, Int.reduceLE, Int.reduceEq, Int.reduceAdd, Int.reduceSub, true_and])
    | (refine br_prop (fun hb => ?_) (fun hb => ?_) <;> try (exfalso; omega))
    | refine br_not ?_
    | (refine by_prop (fun hb => ?_) (fun hb => ?_) <;> try (exfalso; omega))
    | (refine by_prop' (fun hb => ?_) (fun hb => ?_) <;> try (exfalso; omega))
    | refine by_not ?_
    | refine w_drawn (by kernel_rfl) ?_
    | refine new_i' (by rfl) (fun j hj hn => ?_)
    | refine new_i (fun j hn => ?_)
    | refine br_bool (fun hb => ?_) (fun hb => ?_)
    | refine by_bool (fun hb => ?_) (fun hb => ?_)
    | refine by_bool' (fun hb => ?_) (fun hb => ?_))
  refine call_i (ib55 _ _ _ _ ?_)
  have h59 : (Int.toNat 59).toUInt8 = 59 := rfl
  rw [h59]
  obtain ⟨t, hw, hts, hcase⟩ : ∃ t : ByteArray, words s.data.toList = cut [] t.data.toList ∧ t.size ≤ 1000000 ∧ ((Lib.indexByte s.data.toList 59 = -1 ∧ t = s) ∨ (∃ k : Nat, k ≤ s.size ∧ Lib.indexByte s.data.toList 59 = k ∧ t = s.extract 0 k)) := by
    rcases indexByte_strip 59 s.data.toList with ⟨h1, h2⟩ | ⟨k, hk, h1, h2, _⟩
    · exact ⟨s, by unfold words strip; rw [h2], hs, .inl ⟨h1, rfl⟩⟩
    · have hk' : k ≤ s.size := by have : s.data.toList.length = s.size := by simp
                                  omega
      exact ⟨s.extract 0 k, by unfold words strip; rw [h2, extract_list]; rfl, by rw [ByteArray.size_extract]; omega, .inr ⟨k, hk', h1, rfl⟩⟩
  rcases hcase with ⟨h1, rfl⟩ | ⟨k, hk1, h1, ht⟩
  all_goals
    rw [h1]
    repeat' (first
      | (simp (disch := first | omega | assumption) only [go_sem, ↓reduceIte, Nat.reduceEqDiff, reduceCtorEq, Nat.reduceAdd, Nat.reduceMul, Int.reduceToNat, Nat.reduceShiftRight, Nat.reduceAnd, Nat.reduceBNe, Nat.reduceBneDiff, Nat.reduceLT, Nat.reduceLeDiff, Int.reduceLT, Int.reduceLE, Int.reduceEq, Int.reduceAdd, Int.reduceSub, *])
      | (refine br_prop (fun hb => ?_) (fun hb => ?_) <;> try (exfalso; omega))
      | refine br_not ?_
      | (refine by_prop (fun hb => ?_) (fun hb => ?_) <;> try (exfalso; omega))
      | (refine by_prop' (fun hb => ?_) (fun hb => ?_) <;> try (exfalso; omega))
      | refine by_not ?_
      | refine w_drawn (by kernel_rfl) ?_
      | refine new_i' (by rfl) (fun j hj hn => ?_)
      | refine new_i (fun j hn => ?_)
      | refine br_bool (fun hb => ?_) (fun hb => ?_)
      | refine by_bool (fun hb => ?_) (fun hb => ?_)
      | refine by_bool' (fun hb => ?_) (fun hb => ?_))
    try rw [← ht]
    try clear ht
    clear h1
  all_goals
    refine W.loopF 4398046494832 (fun n e H1 => Grew H H1 ∧ ∃ (i a : Nat) (ls : List ByteArray), e 6 = .int .i64 i ∧ e 5 = .int .i64 a ∧ SN H H1 1 (e 4) ls.length (ls.map .string) ∧ i ≤ t.size + 1 ∧ a ≤ i ∧ n = t.size + 1 - i ∧ ls.length ≤ i ∧ (if i ≤ t.size then cut [] t.data.toList = ls.map (·.data.toList) ++ cut (t.extract a i).data.toList (t.data.toList.drop i) else cut [] t.data.toList = ls.map (·.data.toList))) (t.size + 1) (by kernel_rfl)
      ⟨.refl _, 0, 0, [], by first | (simp (disch := first | omega | assumption) only [go_sem, ↓reduceIte, Nat.reduceEqDiff, reduceCtorEq, Nat.reduceAdd, Nat.reduceMul, Int.reduceToNat, Nat.reduceShiftRight, Nat.reduceAnd, Nat.reduceBNe, Nat.reduceBneDiff, Nat.reduceLT, Nat.reduceLeDiff, Int.reduceLT, Int.reduceLE, Int.reduceEq, Int.reduceAdd, Int.reduceSub, *]; done) | (simp (disch := first | omega | assumption) only [go_sem, ↓reduceIte, Nat.reduceEqDiff, reduceCtorEq, Nat.reduceAdd, Nat.reduceMul, Int.reduceToNat, Nat.reduceShiftRight, Nat.reduceAnd, Nat.reduceBNe, Nat.reduceBneDiff, Nat.reduceLT, Nat.reduceLeDiff, Int.reduceLT, Int.reduceLE, Int.reduceEq, Int.reduceAdd, Int.reduceSub, *]; rfl), by first | (simp (disch := first | omega | assumption) only [go_sem, ↓reduceIte, Nat.reduceEqDiff, reduceCtorEq, Nat.reduceAdd, Nat.reduceMul, Int.reduceToNat, Nat.reduceShiftRight, Nat.reduceAnd, Nat.reduceBNe, Nat.reduceBneDiff, Nat.reduceLT, Nat.reduceLeDiff, Int.reduceLT, Int.reduceLE, Int.reduceEq, Int.reduceAdd, Int.reduceSub, *]; done) | (simp (disch := first | omega | assumption) only [go_sem, ↓reduceIte, Nat.reduceEqDiff, reduceCtorEq, Nat.reduceAdd, Nat.reduceMul, Int.reduceToNat, Nat.reduceShiftRight, Nat.reduceAnd, Nat.reduceBNe, Nat.reduceBneDiff, Nat.reduceLT, Nat.reduceLeDiff, Int.reduceLT, Int.reduceLE, Int.reduceEq, Int.reduceAdd, Int.reduceSub, *]; rfl), .nil _ _ _, by omega, by omega, rfl, by simp, by rw [if_pos (Nat.zero_le _)]; simp [ext_nil]⟩ ?_
    rintro n e H1 J hJ ⟨hg, i, a, ls, h6, h5, hsl, hi, ha, rfl, hls, hcut⟩
    by_cases hle : i ≤ t.size
    · rw [if_pos hle] at hcut
      by_cases hlt : i < t.size
      · rw [drop_at t i hlt] at hcut
        by_cases h32 : (getB t i).toNat = 32
        · have hc : getB t i = 32 := UInt8.toNat_inj.1 h32
          rw [hc, cut_blank] at hcut
          clear hc
          by_cases hia : a < i
          · rw [if_neg (ext_ne t a i hia hle)] at hcut
            repeat' (first
              | (simp (disch := first | omega | assumption) only [go_sem, ↓reduceIte, Nat.reduceEqDiff, reduceCtorEq, Nat.reduceAdd, Nat.reduceMul, Int.reduceToNat, Nat.reduceShiftRight, Nat.reduceAnd, Nat.reduceBNe, Nat.reduceBneDiff, Nat.reduceLT, Nat.reduceLeDiff, Int.reduceLT, Int.reduceLE, Int.reduceEq, Int.reduceAdd, Int.reduceSub, *])
              | (refine br_prop (fun hb => ?_) (fun hb => ?_) <;> try (exfalso; omega))
              | refine br_not ?_
              | (refine by_prop (fun hb => ?_) (fun hb => ?_) <;> try (exfalso; omega))
              | (refine by_prop' (fun hb => ?_) (fun hb => ?_) <;> try (exfalso; omega))
              | refine by_not ?_
              | refine w_drawn (by kernel_rfl) ?_
              | refine new_i' (by rfl) (fun j hj hn => ?_)
              | refine new_i (fun j hn => ?_)
              | refine br_bool (fun hb => ?_) (fun hb => ?_)
              | refine by_bool (fun hb => ?_) (fun hb => ?_)
              | refine by_bool' (fun hb => ?_) (fun hb => ?_))
            refine app_i (app_sn D.e24 (hg.new _ hn) (hsl.new _ hn) (news_one D.u24 (AHeap.set_same _ _ _) rfl) rfl (by omega) (by omega) (by omega) fun v' H' hg' hsl' => ?_)
            have hsl2 : SN H H' 1 v' (ls ++ [t.extract a i]).length ((ls ++ [t.extract a i]).map .string) := by simpa using hsl'
            repeat' (first
              | (simp (disch := first | omega | assumption) only [go_sem, ↓reduceIte, Nat.reduceEqDiff, reduceCtorEq, Nat.reduceAdd, Nat.reduceMul, Int.reduceToNat, Nat.reduceShiftRight, Nat.reduceAnd, Nat.reduceBNe, Nat.reduceBneDiff, Nat.reduceLT, Nat.reduceLeDiff, Int.reduceLT, Int.reduceLE, Int.reduceEq, Int.reduceAdd, Int.reduceSub, h5, h6])
              | (refine br_prop (fun hb => ?_) (fun hb => ?_) <;> try (exfalso; omega))
              | refine br_not ?_
              | (refine by_prop (fun hb => ?_) (fun hb => ?_) <;> try (exfalso; omega))
              | (refine by_prop' (fun hb => ?_) (fun hb => ?_) <;> try (exfalso; omega))
              | refine by_not ?_
              | refine w_drawn (by kernel_rfl) ?_
              | refine new_i' (by rfl) (fun j hj hn => ?_)
              | refine new_i (fun j hn => ?_)
              | refine br_bool (fun hb => ?_) (fun hb => ?_)
              | refine by_bool (fun hb => ?_) (fun hb => ?_)
              | refine by_bool' (fun hb => ?_) (fun hb => ?_))
            exact inv_i (hJ.go _ _ ⟨t.size + 1 - (i + 1), by omega, hg', i + 1, i + 1, ls ++ [t.extract a i], rfl, rfl, hsl2, by omega, by omega, rfl, by simp; omega, by rw [if_pos (by omega), hcut, ext_nil]; simp⟩)
          · obtain rfl : a = i := by omega
            rw [if_pos (ext_nil t a)] at hcut
            repeat' (first
              | (simp (disch := first | omega | assumption) only [go_sem, ↓reduceIte, Nat.reduceEqDiff, reduceCtorEq, Nat.reduceAdd, Nat.reduceMul, Int.reduceToNat, Nat.reduceShiftRight, Nat.reduceAnd, Nat.reduceBNe, Nat.reduceBneDiff, Nat.reduceLT, Nat.reduceLeDiff, Int.reduceLT, Int.reduceLE, Int.reduceEq, Int.reduceAdd, Int.reduceSub, *])
              | (refine br_prop (fun hb => ?_) (fun hb => ?_) <;> try (exfalso; omega))
              | refine br_not ?_
              | (refine by_prop (fun hb => ?_) (fun hb => ?_) <;> try (exfalso; omega))
              | (refine by_prop' (fun hb => ?_) (fun hb => ?_) <;> try (exfalso; omega))
              | refine by_not ?_
              | refine w_drawn (by kernel_rfl) ?_
              | refine new_i' (by rfl) (fun j hj hn => ?_)
              | refine new_i (fun j hn => ?_)
              | refine br_bool (fun hb => ?_) (fun hb => ?_)
              | refine by_bool (fun hb => ?_) (fun hb => ?_)
              | refine by_bool' (fun hb => ?_) (fun hb => ?_))
            exact inv_i (hJ.go _ _ ⟨t.size + 1 - (a + 1), by omega, hg, a + 1, a + 1, ls, rfl, rfl, hsl, by omega, by omega, rfl, by omega, by rw [if_pos (by omega), hcut, ext_nil]; rfl⟩)
        · rw [cut_next _ _ _ (fun hc => h32 (by rw [hc]; rfl)), ← ext_snoc t a i ha hlt] at hcut
          repeat' (first
            | (simp (disch := first | omega | assumption) only [go_sem, ↓reduceIte, Nat.reduceEqDiff, reduceCtorEq, Nat.reduceAdd, Nat.reduceMul, Int.reduceToNat, Nat.reduceShiftRight, Nat.reduceAnd, Nat.reduceBNe, Nat.reduceBneDiff, Nat.reduceLT, Nat.reduceLeDiff, Int.reduceLT, Int.reduceLE, Int.reduceEq, Int.reduceAdd, Int.reduceSub, *])
            | (refine br_prop (fun hb => ?_) (fun hb => ?_) <;> try (exfalso; omega))
            | refine br_not ?_
            | (refine by_prop (fun hb => ?_) (fun hb => ?_) <;> try (exfalso; omega))
            | (refine by_prop' (fun hb => ?_) (fun hb => ?_) <;> try (exfalso; omega))
            | refine by_not ?_
            | refine w_drawn (by kernel_rfl) ?_
            | refine new_i' (by rfl) (fun j hj hn => ?_)
            | refine new_i (fun j hn => ?_)
            | refine br_bool (fun hb => ?_) (fun hb => ?_)
            | refine by_bool (fun hb => ?_) (fun hb => ?_)
            | refine by_bool' (fun hb => ?_) (fun hb => ?_))
          exact inv_i (hJ.go _ _ ⟨t.size + 1 - (i + 1), by omega, hg, i + 1, a, ls, rfl, h5, hsl, by omega, by omega, rfl, by omega, by rw [if_pos (by omega)]; exact hcut⟩)
      · obtain rfl : i = t.size := by omega
        rw [List.drop_eq_nil_of_le (by simp)] at hcut
        by_cases hia : a < t.size
        · rw [cut, if_neg (ext_ne t a _ hia hle)] at hcut
          repeat' (first
            | (simp (disch := first | omega | assumption) only [go_sem, ↓reduceIte, Nat.reduceEqDiff, reduceCtorEq, Nat.reduceAdd, Nat.reduceMul, Int.reduceToNat, Nat.reduceShiftRight, Nat.reduceAnd, Nat.reduceBNe, Nat.reduceBneDiff, Nat.reduceLT, Nat.reduceLeDiff, Int.reduceLT, Int.reduceLE, Int.reduceEq, Int.reduceAdd, Int.reduceSub, *])
            | (refine br_prop (fun hb => ?_) (fun hb => ?_) <;> try (exfalso; omega))
            | refine br_not ?_
            | (refine by_prop (fun hb => ?_) (fun hb => ?_) <;> try (exfalso; omega))
            | (refine by_prop' (fun hb => ?_) (fun hb => ?_) <;> try (exfalso; omega))
            | refine by_not ?_
            | refine w_drawn (by kernel_rfl) ?_
            | refine new_i' (by rfl) (fun j hj hn => ?_)
            | refine new_i (fun j hn => ?_)
            | refine br_bool (fun hb => ?_) (fun hb => ?_)
            | refine by_bool (fun hb => ?_) (fun hb => ?_)
            | refine by_bool' (fun hb => ?_) (fun hb => ?_))
          refine app_i (app_sn D.e24 (hg.new _ hn) (hsl.new _ hn) (news_one D.u24 (AHeap.set_same _ _ _) rfl) rfl (by omega) (by omega) (by omega) fun v' H' hg' hsl' => ?_)
          have hsl2 : SN H H' 1 v' (ls ++ [t.extract a t.size]).length ((ls ++ [t.extract a t.size]).map .string) := by simpa using hsl'
          repeat' (first
            | (simp (disch := first | omega | assumption) only [go_sem, ↓reduceIte, Nat.reduceEqDiff, reduceCtorEq, Nat.reduceAdd, Nat.reduceMul, Int.reduceToNat, Nat.reduceShiftRight, Nat.reduceAnd, Nat.reduceBNe, Nat.reduceBneDiff, Nat.reduceLT, Nat.reduceLeDiff, Int.reduceLT, Int.reduceLE, Int.reduceEq, Int.reduceAdd, Int.reduceSub, h5, h6])
            | (refine br_prop (fun hb => ?_) (fun hb => ?_) <;> try (exfalso; omega))
            | refine br_not ?_
            | (refine by_prop (fun hb => ?_) (fun hb => ?_) <;> try (exfalso; omega))
            | (refine by_prop' (fun hb => ?_) (fun hb => ?_) <;> try (exfalso; omega))
            | refine by_not ?_
            | refine w_drawn (by kernel_rfl) ?_
            | refine new_i' (by rfl) (fun j hj hn => ?_)
            | refine new_i (fun j hn => ?_)
            | refine br_bool (fun hb => ?_) (fun hb => ?_)
            | refine by_bool (fun hb => ?_) (fun hb => ?_)
            | refine by_bool' (fun hb => ?_) (fun hb => ?_))
          exact inv_i (hJ.go _ _ ⟨t.size + 1 - (t.size + 1), by omega, hg', t.size + 1, t.size + 1, ls ++ [t.extract a t.size], rfl, rfl, hsl2, by omega, by omega, rfl, by simp; omega, by rw [if_neg (by omega), hcut]; simp⟩)
        · obtain rfl : a = t.size := by omega
          rw [cut, if_pos (ext_nil t _)] at hcut
          repeat' (first
            | (simp (disch := first | omega | assumption) only [go_sem, ↓reduceIte, Nat.reduceEqDiff, reduceCtorEq, Nat.reduceAdd, Nat.reduceMul, Int.reduceToNat, Nat.reduceShiftRight, Nat.reduceAnd, Nat.reduceBNe, Nat.reduceBneDiff, Nat.reduceLT, Nat.reduceLeDiff, Int.reduceLT, Int.reduceLE, Int.reduceEq, Int.reduceAdd, Int.reduceSub, *])
            | (refine br_prop (fun hb => ?_) (fun hb => ?_) <;> try (exfalso; omega))
            | refine br_not ?_
            | (refine by_prop (fun hb => ?_) (fun hb => ?_) <;> try (exfalso; omega))
            | (refine by_prop' (fun hb => ?_) (fun hb => ?_) <;> try (exfalso; omega))
            | refine by_not ?_
            | refine w_drawn (by kernel_rfl) ?_
            | refine new_i' (by rfl) (fun j hj hn => ?_)
            | refine new_i (fun j hn => ?_)
            | refine br_bool (fun hb => ?_) (fun hb => ?_)
            | refine by_bool (fun hb => ?_) (fun hb => ?_)
            | refine by_bool' (fun hb => ?_) (fun hb => ?_))
          exact inv_i (hJ.go _ _ ⟨t.size + 1 - (t.size + 1), by omega, hg, t.size + 1, t.size + 1, ls, rfl, rfl, hsl, by omega, by omega, rfl, by omega, by rw [if_neg (by omega), hcut]; simp⟩)
    · rw [if_neg hle] at hcut
      rw [hcut] at hw
      repeat' (first
        | (simp (disch := first | omega | assumption) only [go_sem, ↓reduceIte, Nat.reduceEqDiff, reduceCtorEq, Nat.reduceAdd, Nat.reduceMul, Int.reduceToNat, Nat.reduceShiftRight, Nat.reduceAnd, Nat.reduceBNe, Nat.reduceBneDiff, Nat.reduceLT, Nat.reduceLeDiff, Int.reduceLT, Int.reduceLE, Int.reduceEq, Int.reduceAdd, Int.reduceSub, hle, h6])
        | (refine br_prop (fun hb => ?_) (fun hb => ?_) <;> try (exfalso; omega))
        | refine br_not ?_
        | (refine by_prop (fun hb => ?_) (fun hb => ?_) <;> try (exfalso; omega))
        | (refine by_prop' (fun hb => ?_) (fun hb => ?_) <;> try (exfalso; omega))
        | refine by_not ?_
        | refine w_drawn (by kernel_rfl) ?_
        | refine new_i' (by rfl) (fun j hj hn => ?_)
        | refine new_i (fun j hn => ?_)
        | refine br_bool (fun hb => ?_) (fun hb => ?_)
        | refine by_bool (fun hb => ?_) (fun hb => ?_)
        | refine by_bool' (fun hb => ?_) (fun hb => ?_))
      exact hk _ _ ls hg hsl hw.symm
end Go.Proofs
namespace Go.Proofs
set_option linter.unusedSimpArgs false
set_option linter.unusedVariables false
set_option linter.unusedSectionVars false
open Go Go.Ab AsmM
variable [Go.Ab.Start]
set_option maxRecDepth 100000
set_option maxHeartbeats 1000000
theorem named_walk (s : ByteArray) (H : AHeap) (K : Value → AHeap → Prop) (hbad : (s.size < 1 ∨ 16 < s.size ∨ (getB s 0).toNat < 97 ∨ 122 < (getB s 0).toNat) → K (.bool false) H)
    (hbad2 : ∀ j, j < s.size → ((getB s j).toNat < 97 ∨ 122 < (getB s j).toNat) → ((getB s j).toNat < 48 ∨ 57 < (getB s j).toNat) → K (.bool false) H)
    (hfin : ∀ ok : Bool, 1 ≤ s.size → s.size ≤ 16 → 97 ≤ (getB s 0).toNat → (getB s 0).toNat ≤ 122 → (∀ j, j < s.size → (97 ≤ (getB s j).toNat ∧ (getB s j).toNat ≤ 122) ∨ (48 ≤ (getB s j).toNat ∧ (getB s j).toNat ≤ 57)) → ok = (AsmM.register s.data.toList).isSome → K (.bool (!ok)) H) :
    ACalls Tryd.prog 35 #[.string s] H K := by
  refine w_enter (args := [.string s]) Tryd.func35 rfl (by kernel_rfl) D.mixed (by kernel_rfl) (rs := [.tmp 2]) rfl ?_
  repeat' (first
    | (simp (disch := first | omega | assumption) only [go_sem, ↓reduceIte, Nat.reduceEqDiff, reduceCtorEq, Nat.reduceAdd, Nat.reduceMul, Int.reduceToNat, Nat.reduceShiftRight, Nat.reduceAnd, Nat.reduceBNe, Nat.reduceBneDiff, Nat.reduceLT, Nat.reduceLeDiff, Int.reduceLT, Int.reduceLE, Int.reduceEq, Int.reduceAdd, Int.reduceSub, *])
    | (refine br_prop (fun hb => ?_) (fun hb => ?_) <;> try (exfalso; omega))
    | refine br_not ?_
    | (refine by_prop (fun hb => ?_) (fun hb => ?_) <;> try (exfalso; omega))
    | (refine by_prop' (fun hb => ?_) (fun hb => ?_) <;> try (exfalso; omega))
    | refine by_not ?_
    | refine w_drawn (by kernel_rfl) ?_
    | refine new_i' (by rfl) (fun j hj hn => ?_)
    | refine new_i (fun j hn => ?_)
    | refine br_bool (fun hb => ?_) (fun hb => ?_)
    | refine by_bool (fun hb => ?_) (fun hb => ?_)
    | refine by_bool' (fun hb => ?_) (fun hb => ?_))
  all_goals first
    | exact hbad (by omega)
    | refine W.loopF 4503599610593292 (fun n e H' => H' = H ∧ ∃ i : Nat, e 3 = .int .i64 i ∧ i ≤ s.size ∧ n = s.size - i ∧ (∀ j, j < i → (97 ≤ (getB s j).toNat ∧ (getB s j).toNat ≤ 122) ∨ (48 ≤ (getB s j).toNat ∧ (getB s j).toNat ≤ 57))) s.size (by kernel_rfl) ⟨rfl, 0, by first | (simp (disch := first | omega | assumption) only [go_sem, ↓reduceIte, Nat.reduceEqDiff, reduceCtorEq, Nat.reduceAdd, Nat.reduceMul, Int.reduceToNat, Nat.reduceShiftRight, Nat.reduceAnd, Nat.reduceBNe, Nat.reduceBneDiff, Nat.reduceLT, Nat.reduceLeDiff, Int.reduceLT, Int.reduceLE, Int.reduceEq, Int.reduceAdd, Int.reduceSub, *]; done) | (simp (disch := first | omega | assumption) only [go_sem, ↓reduceIte, Nat.reduceEqDiff, reduceCtorEq, Nat.reduceAdd, Nat.reduceMul, Int.reduceToNat, Nat.reduceShiftRight, Nat.reduceAnd, Nat.reduceBNe, Nat.reduceBneDiff, Nat.reduceLT, Nat.reduceLeDiff, Int.reduceLT, Int.reduceLE, Int.reduceEq, Int.reduceAdd, Int.reduceSub, *]; rfl), by omega, by omega, fun j h => by omega⟩ ?_
  rintro n e _ J hJ ⟨rfl, i, h3, hi2, rfl, hall⟩
  repeat' (first
    | (simp (disch := first | omega | assumption) only [go_sem, ↓reduceIte, Nat.reduceEqDiff, reduceCtorEq, Nat.reduceAdd, Nat.reduceMul, Int.reduceToNat, Nat.reduceShiftRight, Nat.reduceAnd, Nat.reduceBNe, Nat.reduceBneDiff, Nat.reduceLT, Nat.reduceLeDiff, Int.reduceLT, Int.reduceLE, Int.reduceEq, Int.reduceAdd, Int.reduceSub, *])
    | (refine br_prop (fun hb => ?_) (fun hb => ?_) <;> try (exfalso; omega))
    | refine br_not ?_
    | (refine by_prop (fun hb => ?_) (fun hb => ?_) <;> try (exfalso; omega))
    | (refine by_prop' (fun hb => ?_) (fun hb => ?_) <;> try (exfalso; omega))
    | refine by_not ?_
    | refine w_drawn (by kernel_rfl) ?_
    | refine new_i' (by rfl) (fun j hj hn => ?_)
    | refine new_i (fun j hn => ?_)
    | refine br_bool (fun hb => ?_) (fun hb => ?_)
    | refine by_bool (fun hb => ?_) (fun hb => ?_)
    | refine by_bool' (fun hb => ?_) (fun hb => ?_))
  all_goals first
    | exact hbad2 i (by omega) (by omega) (by omega)
    | refine call_i (reg_spec _ _ _ fun v ok hr => ?_)
    | exact inv_i (hJ.go _ _ ⟨s.size - (i + 1), by omega, rfl, i + 1, rfl, by omega, rfl, fun j h => by by_cases hj : j = i; subst hj; omega; exact hall j (by omega)⟩)
  repeat' (first
    | (simp (disch := first | omega | assumption) only [go_sem, ↓reduceIte, Nat.reduceEqDiff, reduceCtorEq, Nat.reduceAdd, Nat.reduceMul, Int.reduceToNat, Nat.reduceShiftRight, Nat.reduceAnd, Nat.reduceBNe, Nat.reduceBneDiff, Nat.reduceLT, Nat.reduceLeDiff, Int.reduceLT, Int.reduceLE, Int.reduceEq, Int.reduceAdd, Int.reduceSub, hr])
    | (refine br_prop (fun hb => ?_) (fun hb => ?_) <;> try (exfalso; omega))
    | refine br_not ?_
    | (refine by_prop (fun hb => ?_) (fun hb => ?_) <;> try (exfalso; omega))
    | (refine by_prop' (fun hb => ?_) (fun hb => ?_) <;> try (exfalso; omega))
    | refine by_not ?_
    | refine w_drawn (by kernel_rfl) ?_
    | refine new_i' (by rfl) (fun j hj hn => ?_)
    | refine new_i (fun j hn => ?_)
    | refine br_bool (fun hb => ?_) (fun hb => ?_)
    | refine by_bool (fun hb => ?_) (fun hb => ?_)
    | refine by_bool' (fun hb => ?_) (fun hb => ?_))
  refine hfin ok (by omega) (by omega) (by omega) (by omega) (fun j h => hall j (by omega)) ?_
  cases hq : AsmM.register s.data.toList <;> rw [hq] at hr <;> simp_all
theorem isLow_iff (c : UInt8) : AsmM.isLow c = true ↔ 97 ≤ c.toNat ∧ c.toNat ≤ 122 := by
  simp only [AsmM.isLow, Bool.and_eq_true, decide_eq_true_eq, UInt8.le_iff_toNat_le]
  rfl
theorem isDig_iff (c : UInt8) : AsmM.isDig c = true ↔ 48 ≤ c.toNat ∧ c.toNat ≤ 57 := by
  simp only [AsmM.isDig, Bool.and_eq_true, decide_eq_true_eq, UInt8.le_iff_toNat_le]
  rfl
theorem named_iff (bs : List UInt8) : AsmM.named bs = true ↔ 1 ≤ bs.length ∧ bs.length ≤ 16 ∧ (97 ≤ (bs.getD 0 0).toNat ∧ (bs.getD 0 0).toNat ≤ 122) ∧ (∀ j, j < bs.length → (97 ≤ (bs.getD j 0).toNat ∧ (bs.getD j 0).toNat ≤ 122) ∨ (48 ≤ (bs.getD j 0).toNat ∧ (bs.getD j 0).toNat ≤ 57)) ∧ AsmM.register bs = none := by
  unfold AsmM.named
  simp only [Bool.and_eq_true, decide_eq_true_eq, Option.isNone_iff_eq_none, List.all_eq_true, Bool.or_eq_true, isLow_iff, isDig_iff]
  constructor
  · rintro ⟨⟨⟨⟨h1, h2⟩, h3⟩, h4⟩, h5⟩
    refine ⟨h1, h2, ?_, fun j hj => ?_, h5⟩
    · cases bs with
      | nil => simp at h1
      | cons c r => simpa [isLow_iff] using h3
    · rw [List.getD_eq_getElem?_getD, List.getElem?_eq_getElem hj]
      exact h4 _ (List.getElem_mem hj)
  · rintro ⟨h1, h2, h3, h4, h5⟩
    refine ⟨⟨⟨⟨h1, h2⟩, ?_⟩, ?_⟩, h5⟩
    · cases bs with
      | nil => simp at h1
      | cons c r => simpa [isLow_iff] using h3
    · intro c hc
      obtain ⟨j, hj, rfl⟩ := List.getElem_of_mem hc
      have := h4 j hj
      rw [List.getD_eq_getElem?_getD, List.getElem?_eq_getElem hj] at this
      exact this
theorem named_spec (s : ByteArray) (H : AHeap) (K : Value → AHeap → Prop) (hk : K (.bool (AsmM.named s.data.toList)) H) : ACalls Tryd.prog 35 #[.string s] H K := by
  have no : ¬ AsmM.named s.data.toList = true → K (.bool false) H := fun h => by
    rw [Bool.not_eq_true] at h; rw [h] at hk; exact hk
  refine named_walk s H K (fun h => no ?_) (fun j h1 h2 h3 => no ?_) fun ok h1 h2 h3 h4 h5 h6 => ?_
  · rw [named_iff, ← size_eq]
    rintro ⟨a, b, c, -⟩
    have c' : 97 ≤ (getB s 0).toNat ∧ (getB s 0).toNat ≤ 122 := c
    omega
  · rw [named_iff, ← size_eq]
    rintro ⟨a, b, c, d, -⟩
    have d' : (97 ≤ (getB s j).toNat ∧ (getB s j).toNat ≤ 122) ∨ (48 ≤ (getB s j).toNat ∧ (getB s j).toNat ≤ 57) := d j h1
    omega
  · cases hq : AsmM.register s.data.toList with
    | none =>
      have : AsmM.named s.data.toList = true := (named_iff _).2 ⟨by rw [← size_eq]; exact h1, by rw [← size_eq]; exact h2, ⟨h3, h4⟩, fun j hj => h5 j (by rw [size_eq]; exact hj), hq⟩
      rw [this] at hk
      rw [h6, hq]; exact hk
    | some n =>
      rw [h6, hq]
      exact no (by rw [named_iff]; rintro ⟨-, -, -, -, h⟩; rw [hq] at h; cases h)

def asmB : ByteArray := ⟨#[97, 115, 109]⟩
def wordB : ByteArray := ⟨#[119, 111, 114, 100]⟩
def codeB : ByteArray := ⟨#[99, 111, 100, 101]⟩
theorem wfail (n : Int) (t : TypeId) (v : Value) (H : AHeap) (K : Value → AHeap → Prop) (hk : ∀ i, H i = .none → K (.iface 68 (.pointer (some ⟨i, 0, none⟩))) (H.set i (.cells [.string wordB, .int .i64 n, .iface t v]))) : ACalls Tryd.prog 82 #[.int .i64 n, .iface t v] H K := by
  refine w_enter (args := [.int .i64 n, .iface t v]) Tryd.func82 rfl (by kernel_rfl) D.mixed (by kernel_rfl) (rs := [.tmp 4]) rfl ?_
  repeat' (first
    | (simp (disch := first | omega | assumption) only [go_sem, ↓reduceIte, Nat.reduceEqDiff, reduceCtorEq, Nat.reduceAdd, Nat.reduceMul, Int.reduceToNat, Nat.reduceShiftRight, Nat.reduceAnd, Nat.reduceBNe, Nat.reduceBneDiff, Nat.reduceLT, Nat.reduceLeDiff, Int.reduceLT, Int.reduceLE, Int.reduceEq, Int.reduceAdd, Int.reduceSub, true_and])
    | (refine br_prop (fun hb => ?_) (fun hb => ?_) <;> try (exfalso; omega))
    | refine br_not ?_
    | (refine by_prop (fun hb => ?_) (fun hb => ?_) <;> try (exfalso; omega))
    | (refine by_prop' (fun hb => ?_) (fun hb => ?_) <;> try (exfalso; omega))
    | refine by_not ?_
    | refine w_drawn (by kernel_rfl) ?_
    | refine new_i' (by rfl) (fun j hj hn => ?_)
    | refine new_i (fun j hn => ?_)
    | refine br_bool (fun hb => ?_) (fun hb => ?_)
    | refine by_bool (fun hb => ?_) (fun hb => ?_)
    | refine by_bool' (fun hb => ?_) (fun hb => ?_))
  exact hk j hn
theorem afail (n : Int) (t : TypeId) (v : Value) (H : AHeap) (K : Value → AHeap → Prop) (hk : ∀ i, H i = .none → K (.iface 68 (.pointer (some ⟨i, 0, none⟩))) (H.set i (.cells [.string asmB, .int .i64 n, .iface t v]))) : ACalls Tryd.prog 19 #[.int .i64 n, .iface t v] H K := by
  refine w_enter (args := [.int .i64 n, .iface t v]) Tryd.func19 rfl (by kernel_rfl) D.mixed (by kernel_rfl) (rs := [.tmp 4]) rfl ?_
  repeat' (first
    | (simp (disch := first | omega | assumption) only [go_sem, ↓reduceIte, Nat.reduceEqDiff, reduceCtorEq, Nat.reduceAdd, Nat.reduceMul, Int.reduceToNat, Nat.reduceShiftRight, Nat.reduceAnd, Nat.reduceBNe, Nat.reduceBneDiff, Nat.reduceLT, Nat.reduceLeDiff, Int.reduceLT, Int.reduceLE, Int.reduceEq, Int.reduceAdd, Int.reduceSub, true_and])
    | (refine br_prop (fun hb => ?_) (fun hb => ?_) <;> try (exfalso; omega))
    | refine br_not ?_
    | (refine by_prop (fun hb => ?_) (fun hb => ?_) <;> try (exfalso; omega))
    | (refine by_prop' (fun hb => ?_) (fun hb => ?_) <;> try (exfalso; omega))
    | refine by_not ?_
    | refine w_drawn (by kernel_rfl) ?_
    | refine new_i' (by rfl) (fun j hj hn => ?_)
    | refine new_i (fun j hn => ?_)
    | refine br_bool (fun hb => ?_) (fun hb => ?_)
    | refine by_bool (fun hb => ?_) (fun hb => ?_)
    | refine by_bool' (fun hb => ?_) (fun hb => ?_))
  exact hk j hn
theorem cfail (n : Int) (t : TypeId) (v : Value) (H : AHeap) (K : Value → AHeap → Prop) (hk : ∀ i, H i = .none → K (.iface 68 (.pointer (some ⟨i, 0, none⟩))) (H.set i (.cells [.string codeB, .int .i64 n, .iface t v]))) : ACalls Tryd.prog 64 #[.int .i64 n, .iface t v] H K := by
  refine w_enter (args := [.int .i64 n, .iface t v]) Tryd.func64 rfl (by kernel_rfl) D.mixed (by kernel_rfl) (rs := [.tmp 4]) rfl ?_
  repeat' (first
    | (simp (disch := first | omega | assumption) only [go_sem, ↓reduceIte, Nat.reduceEqDiff, reduceCtorEq, Nat.reduceAdd, Nat.reduceMul, Int.reduceToNat, Nat.reduceShiftRight, Nat.reduceAnd, Nat.reduceBNe, Nat.reduceBneDiff, Nat.reduceLT, Nat.reduceLeDiff, Int.reduceLT, Int.reduceLE, Int.reduceEq, Int.reduceAdd, Int.reduceSub, true_and])
    | (refine br_prop (fun hb => ?_) (fun hb => ?_) <;> try (exfalso; omega))
    | refine br_not ?_
    | (refine by_prop (fun hb => ?_) (fun hb => ?_) <;> try (exfalso; omega))
    | (refine by_prop' (fun hb => ?_) (fun hb => ?_) <;> try (exfalso; omega))
    | refine by_not ?_
    | refine w_drawn (by kernel_rfl) ?_
    | refine new_i' (by rfl) (fun j hj hn => ?_)
    | refine new_i (fun j hn => ?_)
    | refine br_bool (fun hb => ?_) (fun hb => ?_)
    | refine by_bool (fun hb => ?_) (fun hb => ?_)
    | refine by_bool' (fun hb => ?_) (fun hb => ?_))
  exact hk j hn
theorem digit_walk (c : UInt8) (base : Nat) (hb : base ≤ 16) (hb2 : 10 ≤ base) (H : AHeap) (K : Value → AHeap → Prop) (hk : ∀ v : Int, (48 ≤ c.toNat → c.toNat ≤ 57 → v = c.toNat - 48) → (97 ≤ c.toNat → c.toNat ≤ 102 → v = c.toNat - 87) → (65 ≤ c.toNat → c.toNat ≤ 70 → v = c.toNat - 55) →
      (c.toNat < 48 ∨ (57 < c.toNat ∧ c.toNat < 65) ∨ (70 < c.toNat ∧ c.toNat < 97) ∨ 102 < c.toNat → v = 99) → K (.tuple #[.int .u64 v, .bool (decide (v < base))]) H) : ACalls Tryd.prog 81 #[.int .u8 c.toNat, .int .u64 base] H K := by
  refine w_enter (args := [.int .u8 c.toNat, .int .u64 base]) Tryd.func81 rfl (by kernel_rfl) D.mixed (by kernel_rfl) (rs := [.tmp 4, .tmp 5]) rfl ?_
  have hc := c.toNat_lt
  repeat' (first
    | (simp (disch := first | omega | assumption) only [go_sem, ↓reduceIte, Nat.reduceEqDiff, reduceCtorEq, Nat.reduceAdd, Nat.reduceMul, Int.reduceToNat, Nat.reduceShiftRight, Nat.reduceAnd, Nat.reduceBNe, Nat.reduceBneDiff, Nat.reduceLT, Nat.reduceLeDiff, Int.reduceLT, Int.reduceLE, Int.reduceEq, Int.reduceAdd, Int.reduceSub, *])
    | (refine br_prop (fun hb => ?_) (fun hb => ?_) <;> try (exfalso; omega))
    | refine br_not ?_
    | (refine by_prop (fun hb => ?_) (fun hb => ?_) <;> try (exfalso; omega))
    | (refine by_prop' (fun hb => ?_) (fun hb => ?_) <;> try (exfalso; omega))
    | refine by_not ?_
    | refine w_drawn (by kernel_rfl) ?_
    | refine new_i' (by rfl) (fun j hj hn => ?_)
    | refine new_i (fun j hn => ?_)
    | refine br_bool (fun hb => ?_) (fun hb => ?_)
    | refine by_bool (fun hb => ?_) (fun hb => ?_)
    | refine by_bool' (fun hb => ?_) (fun hb => ?_))
  all_goals (refine hk _ ?_ ?_ ?_ ?_ <;> omega)
theorem digit_spec (c : UInt8) (base : Nat) (hb : base ≤ 16) (hb2 : 10 ≤ base) (H : AHeap) (K : Value → AHeap → Prop) (hk : ∀ (v : Int) (ok : Bool), (match AsmM.digit c base with | some d => ok = true ∧ v = d | none => ok = false) → 0 ≤ v → v ≤ 99 → K (.tuple #[.int .u64 v, .bool ok]) H) :
    ACalls Tryd.prog 81 #[.int .u8 c.toNat, .int .u64 base] H K := by
  refine digit_walk c base hb hb2 H K fun v h1 h2 h3 h4 => hk v _ ?_ ?_ ?_
  · unfold AsmM.digit
    simp only [UInt8.le_iff_toNat_le]
    have e1 : (48 : UInt8).toNat = 48 := rfl
    have e2 : (57 : UInt8).toNat = 57 := rfl
    have e3 : (97 : UInt8).toNat = 97 := rfl
    have e4 : (102 : UInt8).toNat = 102 := rfl
    have e5 : (65 : UInt8).toNat = 65 := rfl
    have e6 : (70 : UInt8).toNat = 70 := rfl
    have hc := c.toNat_lt
    rw [e1, e2, e3, e4, e5, e6]
    by_cases g1 : 48 ≤ c.toNat ∧ c.toNat ≤ 57
    · have := h1 g1.1 g1.2
      simp only [g1, and_self, if_true]
      split <;> rename_i hq <;> split at hq <;> first | (cases hq; done) | skip
      · cases hq; rename_i hlt; simp only [decide_eq_true_eq]; omega
      · simp only [decide_eq_false_iff_not]; omega
    · rw [if_neg g1]
      by_cases g2 : 97 ≤ c.toNat ∧ c.toNat ≤ 102
      · have := h2 g2.1 g2.2
        rw [if_pos g2]
        split <;> rename_i hq <;> split at hq <;> first | (cases hq; done) | skip
        · cases hq; rename_i hlt; simp only [decide_eq_true_eq]; omega
        · simp only [decide_eq_false_iff_not]; omega
      · rw [if_neg g2]
        by_cases g3 : 65 ≤ c.toNat ∧ c.toNat ≤ 70
        · have := h3 g3.1 g3.2
          rw [if_pos g3]
          split <;> rename_i hq <;> split at hq <;> first | (cases hq; done) | skip
          · cases hq; rename_i hlt; simp only [decide_eq_true_eq]; omega
          · simp only [decide_eq_false_iff_not]; omega
        · rw [if_neg g3]
          have := h4 (by omega)
          split <;> rename_i hq <;> split at hq <;> first | (cases hq; done) | skip
          · cases hq; rename_i hlt; omega
          · simp only [decide_eq_false_iff_not]; omega
  · have hc := c.toNat_lt
    omega
  · have hc := c.toNat_lt
    omega
theorem digit16 (c : UInt8) (H : AHeap) (K : Value → AHeap → Prop) (hk : ∀ (v : Int) (ok : Bool), (match AsmM.digit c 16 with | some d => ok = true ∧ v = d | none => ok = false) → 0 ≤ v → v ≤ 99 → K (.tuple #[.int .u64 v, .bool ok]) H) :
    ACalls Tryd.prog 81 #[.int .u8 c.toNat, .int .u64 16] H K := digit_spec c 16 (by omega) (by omega) H K hk
theorem digit10 (c : UInt8) (H : AHeap) (K : Value → AHeap → Prop) (hk : ∀ (v : Int) (ok : Bool), (match AsmM.digit c 10 with | some d => ok = true ∧ v = d | none => ok = false) → 0 ≤ v → v ≤ 99 → K (.tuple #[.int .u64 v, .bool ok]) H) :
    ACalls Tryd.prog 81 #[.int .u8 c.toNat, .int .u64 10] H K := digit_spec c 10 (by omega) (by omega) H K hk
theorem digits_bad (s : ByteArray) (b m f i v : Nat) (h : i < s.size) (hd : AsmM.digit (getB s i) b = none) : digits b m f (s.data.toList.drop i) i v = .error i := by
  rw [drop_at s i h]; simp only [digits, hd]
theorem digits_over (s : ByteArray) (b m f i v d : Nat) (h : i < s.size) (hd : AsmM.digit (getB s i) b = some d) (ho : m ≤ i - f ∨ (2 ^ 64 - 1 - d) / b < v) : digits b m f (s.data.toList.drop i) i v = .error i := by
  rw [drop_at s i h]; simp only [digits, hd]; rw [if_pos ho]
theorem digits_next (s : ByteArray) (b m f i v d : Nat) (h : i < s.size) (hd : AsmM.digit (getB s i) b = some d) (ho : ¬ (m ≤ i - f ∨ (2 ^ 64 - 1 - d) / b < v)) : digits b m f (s.data.toList.drop i) i v = digits b m f (s.data.toList.drop (i + 1)) (i + 1) (v * b + d) := by
  rw [drop_at s i h]; simp only [digits, hd]; rw [if_neg ho]
theorem digits_end (s : ByteArray) (b m f i v : Nat) (h : s.size ≤ i) : digits b m f (s.data.toList.drop i) i v = .ok v := by
  rw [List.drop_eq_nil_of_le (by rw [← size_eq]; exact h)]; rfl
theorem number_hex (s : ByteArray) (hx : isHex s.data.toList = true) : number s.data.toList = if s.size = 2 then .error 2 else digits 16 16 2 (s.data.toList.drop 2) 2 0 := by
  unfold number; rw [if_pos hx, ← size_eq]
theorem number_dec (s : ByteArray) (hx : isHex s.data.toList = false) : number s.data.toList = if s.size = 0 then .error 0 else digits 10 20 0 (s.data.toList.drop 0) 0 0 := by
  unfold number; rw [if_neg (by rw [hx]; decide), ← size_eq]; rfl
theorem isHex_iff (s : ByteArray) : isHex s.data.toList = true ↔ 2 ≤ s.size ∧ (getB s 0).toNat = 48 ∧ (getB s 1).toNat = 120 := by
  rw [size_eq]
  unfold getB
  generalize s.data.toList = bs
  match bs with
  | [] => simp [isHex]
  | [_] => simp [isHex]
  | a :: b :: r =>
    simp only [isHex, Bool.and_eq_true, decide_eq_true_eq, List.length_cons, List.getD_cons_zero, List.getD_cons_succ]
    constructor
    · rintro ⟨rfl, rfl⟩; exact ⟨by omega, rfl, rfl⟩
    · rintro ⟨-, h1, h2⟩; exact ⟨u8eq h1, u8eq h2⟩
theorem isHex_no (s : ByteArray) (h : s.size < 2 ∨ (getB s 0).toNat ≠ 48 ∨ (getB s 1).toNat ≠ 120) : isHex s.data.toList = false := by
  rw [← Bool.not_eq_true, isHex_iff]
  omega
end Go.Proofs
