/-
  A part of the proofs: EA.
-/
import Derived.Test.YtnbfimppgcoajaaDoorDT
import Derived.Test.YtnbfimppgcoajaaDoorAbX
import Derived.Test.YtnbfimppgcoajaaDoorPA
namespace Go.Proofs
set_option linter.unusedSimpArgs false
set_option linter.unusedVariables false
set_option linter.unusedSectionVars false
open Go Go.Ab AsmM
variable [Go.Ab.Start]
set_option maxRecDepth 100000
set_option maxHeartbeats 1000000
/-! ### strings.IndexByte -/
theorem ext80 (s : ByteArray) (c : Int) (H : AHeap) (K : Value → AHeap → Prop) (hk : K (.int .i64 (Lib.indexByte s.data.toList c.toNat.toUInt8)) H) : ACalls Tryd.prog 80 #[.string s, .int .u8 c] H K :=
  acalls_pure (args := [.string s, .int .u8 c]) rfl rfl (fun w => by rw [run_callFunc_extern (e := Extern.BytealgIndexByte.indexByte) Tryd.func80 (by kernel_rfl) (by kernel_rfl) (by kernel_rfl) (by kernel_rfl), Lib.run_indexByteString]; rfl) hk
theorem ib71 (s : ByteArray) (c : Int) (H : AHeap) (K : Value → AHeap → Prop) (hk : K (.int .i64 (Lib.indexByte s.data.toList c.toNat.toUInt8)) H) : ACalls Tryd.prog 71 #[.string s, .int .u8 c] H K := by
  refine w_enter (args := [.string s, .int .u8 c]) Tryd.func71 rfl (by kernel_rfl) D.mixed (by kernel_rfl) (rs := [.tmp 4]) rfl ?_
  repeat' (first
    | (simp (disch := first | omega | assumption) only [go_sem, ↓reduceIte, Nat.reduceEqDiff, reduceCtorEq, Nat.reduceAdd, Nat.reduceMul, Int.reduceToNat, Nat.reduceShiftRight, Nat.reduceAnd, Nat.reduceBNe, Nat.reduceBneDiff, Nat.reduceLT, Nat.reduceLeDiff, Int.reduceLT, Int.reduceLE, Int.reduceEq, Int.reduceAdd, Int.reduceSub, hk])
    | (refine br_prop (fun hb => ?_) (fun hb => ?_) <;> try (exfalso; omega))
    | refine br_not ?_
    | (refine by_prop (fun hb => ?_) (fun hb => ?_) <;> try (exfalso; omega))
    | (refine by_prop' (fun hb => ?_) (fun hb => ?_) <;> try (exfalso; omega))
    | refine by_not ?_
    | refine w_drawn (by kernel_rfl) ?_
    | refine new_i' (by rfl) (fun j hj hn => ?_)
    | refine new_i (fun j hn => ?_)
    | refine br_bool (fun hb => ?_) (fun hb => ?_)
    | refine by_bool (fun hb => ?_) (fun hb => ?_)
    | refine by_bool' (fun hb => ?_) (fun hb => ?_))
  refine call_i (ext80 _ _ _ _ ?_)
  repeat' (first
    | (simp (disch := first | omega | assumption) only [go_sem, ↓reduceIte, Nat.reduceEqDiff, reduceCtorEq, Nat.reduceAdd, Nat.reduceMul, Int.reduceToNat, Nat.reduceShiftRight, Nat.reduceAnd, Nat.reduceBNe, Nat.reduceBneDiff, Nat.reduceLT, Nat.reduceLeDiff, Int.reduceLT, Int.reduceLE, Int.reduceEq, Int.reduceAdd, Int.reduceSub, hk])
    | (refine br_prop (fun hb => ?_) (fun hb => ?_) <;> try (exfalso; omega))
    | refine br_not ?_
    | (refine by_prop (fun hb => ?_) (fun hb => ?_) <;> try (exfalso; omega))
    | (refine by_prop' (fun hb => ?_) (fun hb => ?_) <;> try (exfalso; omega))
    | refine by_not ?_
    | refine w_drawn (by kernel_rfl) ?_
    | refine new_i' (by rfl) (fun j hj hn => ?_)
    | refine new_i (fun j hn => ?_)
    | refine br_bool (fun hb => ?_) (fun hb => ?_)
    | refine by_bool (fun hb => ?_) (fun hb => ?_)
    | refine by_bool' (fun hb => ?_) (fun hb => ?_))
theorem ib55 (s : ByteArray) (c : Int) (H : AHeap) (K : Value → AHeap → Prop) (hk : K (.int .i64 (Lib.indexByte s.data.toList c.toNat.toUInt8)) H) : ACalls Tryd.prog 55 #[.string s, .int .u8 c] H K := by
  refine w_enter (args := [.string s, .int .u8 c]) Tryd.func55 rfl (by kernel_rfl) D.mixed (by kernel_rfl) (rs := [.tmp 4]) rfl ?_
  repeat' (first
    | (simp (disch := first | omega | assumption) only [go_sem, ↓reduceIte, Nat.reduceEqDiff, reduceCtorEq, Nat.reduceAdd, Nat.reduceMul, Int.reduceToNat, Nat.reduceShiftRight, Nat.reduceAnd, Nat.reduceBNe, Nat.reduceBneDiff, Nat.reduceLT, Nat.reduceLeDiff, Int.reduceLT, Int.reduceLE, Int.reduceEq, Int.reduceAdd, Int.reduceSub, hk])
    | (refine br_prop (fun hb => ?_) (fun hb => ?_) <;> try (exfalso; omega))
    | refine br_not ?_
    | (refine by_prop (fun hb => ?_) (fun hb => ?_) <;> try (exfalso; omega))
    | (refine by_prop' (fun hb => ?_) (fun hb => ?_) <;> try (exfalso; omega))
    | refine by_not ?_
    | refine w_drawn (by kernel_rfl) ?_
    | refine new_i' (by rfl) (fun j hj hn => ?_)
    | refine new_i (fun j hn => ?_)
    | refine br_bool (fun hb => ?_) (fun hb => ?_)
    | refine by_bool (fun hb => ?_) (fun hb => ?_)
    | refine by_bool' (fun hb => ?_) (fun hb => ?_))
  refine call_i (ib71 _ _ _ _ ?_)
  repeat' (first
    | (simp (disch := first | omega | assumption) only [go_sem, ↓reduceIte, Nat.reduceEqDiff, reduceCtorEq, Nat.reduceAdd, Nat.reduceMul, Int.reduceToNat, Nat.reduceShiftRight, Nat.reduceAnd, Nat.reduceBNe, Nat.reduceBneDiff, Nat.reduceLT, Nat.reduceLeDiff, Int.reduceLT, Int.reduceLE, Int.reduceEq, Int.reduceAdd, Int.reduceSub, hk])
    | (refine br_prop (fun hb => ?_) (fun hb => ?_) <;> try (exfalso; omega))
    | refine br_not ?_
    | (refine by_prop (fun hb => ?_) (fun hb => ?_) <;> try (exfalso; omega))
    | (refine by_prop' (fun hb => ?_) (fun hb => ?_) <;> try (exfalso; omega))
    | refine by_not ?_
    | refine w_drawn (by kernel_rfl) ?_
    | refine new_i' (by rfl) (fun j hj hn => ?_)
    | refine new_i (fun j hn => ?_)
    | refine br_bool (fun hb => ?_) (fun hb => ?_)
    | refine by_bool (fun hb => ?_) (fun hb => ?_)
    | refine by_bool' (fun hb => ?_) (fun hb => ?_))
/-! ### code.Fields -/
theorem fields46 (op : Int) (H : AHeap) (K : Value → AHeap → Prop) (hk : K (.tuple #[.bool (fields op).1, .bool (fields op).2.1, .bool (fields op).2.2.1, .bool (fields op).2.2.2]) H) : ACalls Tryd.prog 46 #[.int .i64 op] H K := by
  refine w_enter (args := [.int .i64 op]) Tryd.func46 rfl (by kernel_rfl) D.mixed (by kernel_rfl) (rs := [.tmp 2, .tmp 3, .tmp 4, .tmp 5]) rfl ?_
  repeat' (first
    | (simp (disch := first | omega | assumption) only [go_sem, ↓reduceIte, Nat.reduceEqDiff, reduceCtorEq, Nat.reduceAdd, Nat.reduceMul, Int.reduceToNat, Nat.reduceShiftRight, Nat.reduceAnd, Nat.reduceBNe, Nat.reduceBneDiff, Nat.reduceLT, Nat.reduceLeDiff, Int.reduceLT, Int.reduceLE, Int.reduceEq, Int.reduceAdd, Int.reduceSub, true_and])
    | (refine br_prop (fun hb => ?_) (fun hb => ?_) <;> try (exfalso; omega))
    | refine br_not ?_
    | (refine by_prop (fun hb => ?_) (fun hb => ?_) <;> try (exfalso; omega))
    | (refine by_prop' (fun hb => ?_) (fun hb => ?_) <;> try (exfalso; omega))
    | refine by_not ?_
    | refine w_drawn (by kernel_rfl) ?_
    | refine new_i' (by rfl) (fun j hj hn => ?_)
    | refine new_i (fun j hn => ?_)
    | refine br_bool (fun hb => ?_) (fun hb => ?_)
    | refine by_bool (fun hb => ?_) (fun hb => ?_)
    | refine by_bool' (fun hb => ?_) (fun hb => ?_))
  all_goals first
    | (have : fields op = (false, false, false, false) := by
         unfold fields; repeat' rw [if_neg (by omega)]
       rw [this] at hk; exact hk)
    | (subst_vars; exact hk)
/-! ### asm.op, asm.name: the table of names -/
def namesB : ByteArray := ⟨#[115, 101, 116, 32, 109, 111, 118, 32, 97, 100, 100, 32, 115, 117, 98, 32, 97, 110, 100, 32, 111, 114, 32, 120, 111, 114, 32, 115, 104, 108, 32, 115, 104, 114, 32, 101, 113, 32, 108, 116, 32, 106, 109, 112, 32, 106, 122, 32, 106, 110, 122, 32, 106, 115, 114, 32, 114, 101, 116, 32, 108, 100, 32, 115, 116, 32, 115, 119, 112, 32, 102, 97, 100, 32, 99, 97, 115, 32, 99, 97, 108, 108, 32, 104, 115, 104, 32, 113, 112, 116, 32, 113, 116, 107, 32, 113, 109, 118, 32, 113, 104, 115, 32, 115, 108, 112, 32, 104, 110, 100, 32, 112, 105, 107, 32, 108, 97, 121, 32, 116, 97, 107, 32, 105, 110, 106, 32, 105, 106, 116, 32, 114, 117, 110, 32, 112, 114, 107, 32, 115, 108, 102, 32, 119, 114, 107, 32, 119, 107, 100, 32, 119, 107, 110, 32, 110, 111, 119, 32, 100, 114, 119, 32, 103, 101, 116, 32, 102, 114, 101, 32, 111, 98, 106, 32, 100, 101, 108, 32, 99, 107, 112, 32, 116, 110, 119, 32, 116, 115, 116, 32, 116, 104, 109, 32, 116, 106, 110, 32, 116, 100, 116, 32, 116, 101, 120, 32, 116, 114, 112, 32, 101, 110, 100, 32, 121, 108, 100, 32, 99, 98, 107, 32, 102, 105, 110, 32]⟩
/-- Where a name begins and its number, at each place of the text. -/
def scanN : Nat → Nat × Nat
  | 0 => (0, 1)
  | i + 1 => if (getB namesB i).toNat = 32 then (i + 1, (scanN i).2 + 1) else scanN i
/-- The same for all places at once. -/
def tabN : List UInt8 → Nat → Nat × Nat → List (Nat × Nat)
  | [], _, p => [p]
  | c :: l, i, p => p :: tabN l (i + 1) (if c.toNat = 32 then (i + 1, p.2 + 1) else p)
theorem tabN_get : ∀ (l : List UInt8) (i : Nat) (k : Nat), k ≤ l.length → namesB.data.toList.drop i = l → (tabN l i (scanN i))[k]? = some (scanN (i + k))
  | [], i, k, h, _ => by
    have : k = 0 := by simpa using h
    subst this; rfl
  | c :: l, i, 0, h, _ => rfl
  | c :: l, i, k + 1, h, hd => by
    have hc : getB namesB i = c := by
      unfold getB
      have : (namesB.data.toList.drop i)[0]? = some c := by rw [hd]; rfl
      rw [List.getElem?_drop] at this
      rw [List.getD_eq_getElem?_getD]
      simp only [Nat.add_zero] at this
      rw [this]; rfl
    have hs : scanN (i + 1) = if c.toNat = 32 then (i + 1, (scanN i).2 + 1) else scanN i := by
      show (if (getB namesB i).toNat = 32 then _ else _) = _
      rw [hc]
    have ih := tabN_get l (i + 1) k (by simpa using h) (by
      have : (namesB.data.toList.drop i).drop 1 = l := by rw [hd]; rfl
      rw [List.drop_drop] at this; exact this)
    rw [hs] at ih
    show (tabN l (i + 1) (if c.toNat = 32 then (i + 1, (scanN i).2 + 1) else scanN i))[k]? = _
    rw [ih]; congr 2; omega
def okN (p : Nat × Nat) (i : Nat) : Bool := p.1 ≤ i && 1 ≤ p.2 && p.2 ≤ 59 && (((namesB.data.toList.getD i 0).toNat == 32) == false || ((nameList[p.2 - 1]?) == some ((namesB.data.toList.drop p.1).take (i - p.1))))
theorem okN_all : (((tabN namesB.data.toList 0 (0, 1)).zipIdx).all fun (p, i) => okN p i) = true := by kernel_rfl
theorem scan_ok (i : Nat) (h : i ≤ 227) : okN (scanN i) i = true := by
  have h1 := tabN_get namesB.data.toList 0 i (by show i ≤ 227; exact h) rfl
  rw [Nat.zero_add] at h1
  have h2 := List.all_eq_true.1 okN_all (scanN i, i) (List.mem_iff_getElem?.2 ⟨i, by rw [List.getElem?_zipIdx, show (tabN namesB.data.toList 0 (0, 1))[i]? = some (scanN i) from h1]; simp⟩)
  exact h2
theorem scan_end : (scanN 227).2 = 59 := by
  have h1 := tabN_get namesB.data.toList 0 227 (Nat.le_refl _) rfl
  have h2 : ((tabN namesB.data.toList 0 (0, 1))[227]?).map (·.2) = some 59 := by kernel_rfl
  rw [show scanN 0 = (0, 1) from rfl] at h1
  rw [h1] at h2
  simpa using h2
theorem opIn_at (s : Bytes) : ∀ (l : List Bytes) (i k : Nat), (∀ m, m < k → l[m]? ≠ some s) → l[k]? = some s → opIn s l i = i + k
  | [], _, _, _, h => by simp at h
  | n :: l, i, 0, _, h => by
    have : n = s := by simpa using h
    simp [opIn, this]
  | n :: l, i, k + 1, h1, h => by
    have hn : n ≠ s := fun e => h1 0 (by omega) (by simp [e])
    simp only [opIn, if_neg hn]
    rw [opIn_at s l (i + 1) k (fun m hm => by have := h1 (m + 1) (by omega); simpa using this) (by simpa using h)]
    omega
theorem opIn_no (s : Bytes) : ∀ (l : List Bytes) (i : Nat), (∀ m : Nat, l[m]? ≠ some s) → opIn s l i = 0
  | [], _, _ => rfl
  | n :: l, i, h => by
    have hn : n ≠ s := fun e => h 0 (by simp [e])
    simp only [opIn, if_neg hn]
    exact opIn_no s l (i + 1) fun m => by have := h (m + 1); simpa using this
theorem extract_list (s : ByteArray) (a b : Nat) : (s.extract a b).data.toList = (s.data.toList.drop a).take (b - a) := by
  rw [ByteArray.data_extract, Array.toList_extract, List.extract_eq_take_drop]
theorem scan_next (i : Nat) : scanN (i + 1) = if (getB namesB i).toNat = 32 then (i + 1, (scanN i).2 + 1) else scanN i := rfl
theorem namesB_size : namesB.size = 227 := rfl
theorem scan_facts (i : Nat) (h : i < 227) : (scanN i).1 ≤ i ∧ 1 ≤ (scanN i).2 ∧ (scanN i).2 ≤ 59 ∧ ((getB namesB i).toNat = 32 → nameList[(scanN i).2 - 1]? = some ((namesB.extract (scanN i).1 i).data.toList)) := by
  have h0 := scan_ok i (by omega)
  unfold okN at h0
  simp only [Bool.and_eq_true, decide_eq_true_eq, Bool.or_eq_true, beq_iff_eq, beq_eq_false_iff_ne] at h0
  refine ⟨h0.1.1.1, h0.1.1.2, h0.1.2, fun h32 => ?_⟩
  rw [extract_list]
  rcases h0.2 with h1 | h1
  · exact absurd h32 h1
  · exact h1
theorem op36 (s : ByteArray) (H : AHeap) (K : Value → AHeap → Prop) (hk : K (.int .i64 (opOf s.data.toList : Nat)) H) : ACalls Tryd.prog 36 #[.string s] H K := by
  refine w_enter (args := [.string s]) Tryd.func36 rfl (by kernel_rfl) D.mixed (by kernel_rfl) (rs := [.tmp 2]) rfl ?_
  repeat' (first
    | (simp (disch := first | omega | assumption) only [go_sem, ↓reduceIte, Nat.reduceEqDiff, reduceCtorEq, Nat.reduceAdd, Nat.reduceMul, Int.reduceToNat, Nat.reduceShiftRight, Nat.reduceAnd, Nat.reduceBNe, Nat.reduceBneDiff, Nat.reduceLT, Nat.reduceLeDiff, Int.reduceLT, Int.reduceLE, Int.reduceEq, Int.reduceAdd, Int.reduceSub, true_and])
    | (refine br_prop (fun hb => ?_) (fun hb => ?_) <;> try (exfalso; omega))
    | refine br_not ?_
    | (refine by_prop (fun hb => ?_) (fun hb => ?_) <;> try (exfalso; omega))
    | (refine by_prop' (fun hb => ?_) (fun hb => ?_) <;> try (exfalso; omega))
    | refine by_not ?_
    | refine w_drawn (by kernel_rfl) ?_
    | refine new_i' (by rfl) (fun j hj hn => ?_)
    | refine new_i (fun j hn => ?_)
    | refine br_bool (fun hb => ?_) (fun hb => ?_)
    | refine by_bool (fun hb => ?_) (fun hb => ?_)
    | refine by_bool' (fun hb => ?_) (fun hb => ?_))
  generalize hB : ByteArray.mk (List.toArray (List.append _ _)) = B
  obtain rfl : B = namesB := hB.symm
  clear hB
  refine W.loopF 8388604 (fun n e H1 => H1 = H ∧ ∃ i : Nat, e 5 = .int .i64 i ∧ e 3 = .int .i64 (scanN i).1 ∧ e 4 = .int .i64 (scanN i).2 ∧ i ≤ 227 ∧ n = 227 - i ∧ ∀ m, m + 1 < (scanN i).2 → nameList[m]? ≠ some s.data.toList) 227 (by kernel_rfl) ⟨rfl, 0, by first | (simp (disch := first | omega | assumption) only [go_sem, ↓reduceIte, Nat.reduceEqDiff, reduceCtorEq, Nat.reduceAdd, Nat.reduceMul, Int.reduceToNat, Nat.reduceShiftRight, Nat.reduceAnd, Nat.reduceBNe, Nat.reduceBneDiff, Nat.reduceLT, Nat.reduceLeDiff, Int.reduceLT, Int.reduceLE, Int.reduceEq, Int.reduceAdd, Int.reduceSub, *]; done) | (simp (disch := first | omega | assumption) only [go_sem, ↓reduceIte, Nat.reduceEqDiff, reduceCtorEq, Nat.reduceAdd, Nat.reduceMul, Int.reduceToNat, Nat.reduceShiftRight, Nat.reduceAnd, Nat.reduceBNe, Nat.reduceBneDiff, Nat.reduceLT, Nat.reduceLeDiff, Int.reduceLT, Int.reduceLE, Int.reduceEq, Int.reduceAdd, Int.reduceSub, *]; rfl), by first | (simp (disch := first | omega | assumption) only [go_sem, ↓reduceIte, Nat.reduceEqDiff, reduceCtorEq, Nat.reduceAdd, Nat.reduceMul, Int.reduceToNat, Nat.reduceShiftRight, Nat.reduceAnd, Nat.reduceBNe, Nat.reduceBneDiff, Nat.reduceLT, Nat.reduceLeDiff, Int.reduceLT, Int.reduceLE, Int.reduceEq, Int.reduceAdd, Int.reduceSub, *]; done) | (simp (disch := first | omega | assumption) only [go_sem, ↓reduceIte, Nat.reduceEqDiff, reduceCtorEq, Nat.reduceAdd, Nat.reduceMul, Int.reduceToNat, Nat.reduceShiftRight, Nat.reduceAnd, Nat.reduceBNe, Nat.reduceBneDiff, Nat.reduceLT, Nat.reduceLeDiff, Int.reduceLT, Int.reduceLE, Int.reduceEq, Int.reduceAdd, Int.reduceSub, *]; rfl), by first | (simp (disch := first | omega | assumption) only [go_sem, ↓reduceIte, Nat.reduceEqDiff, reduceCtorEq, Nat.reduceAdd, Nat.reduceMul, Int.reduceToNat, Nat.reduceShiftRight, Nat.reduceAnd, Nat.reduceBNe, Nat.reduceBneDiff, Nat.reduceLT, Nat.reduceLeDiff, Int.reduceLT, Int.reduceLE, Int.reduceEq, Int.reduceAdd, Int.reduceSub, *]; done) | (simp (disch := first | omega | assumption) only [go_sem, ↓reduceIte, Nat.reduceEqDiff, reduceCtorEq, Nat.reduceAdd, Nat.reduceMul, Int.reduceToNat, Nat.reduceShiftRight, Nat.reduceAnd, Nat.reduceBNe, Nat.reduceBneDiff, Nat.reduceLT, Nat.reduceLeDiff, Int.reduceLT, Int.reduceLE, Int.reduceEq, Int.reduceAdd, Int.reduceSub, *]; rfl), by omega, rfl, fun m hm => absurd hm (by show ¬ m + 1 < 1; omega)⟩ ?_
  rintro n e _ J hJ ⟨rfl, i, h5, h3, h4, hi, rfl, hno⟩
  have hsz := namesB_size
  by_cases hlt : i < 227
  · obtain ⟨f1, f2, f3, f4⟩ := scan_facts i hlt
    have hn := scan_next i
    by_cases h32 : (getB namesB i).toNat = 32
    · have f5 := f4 h32
      rw [if_pos h32] at hn
      by_cases hs : (namesB.extract (scanN i).1 i).data.toList = s.data.toList
      · rw [hs] at f5
        have := opIn_at s.data.toList nameList 1 ((scanN i).2 - 1) (fun m hm => hno m (by omega)) f5
        have e3 : (opOf s.data.toList) = (scanN i).2 := by unfold opOf; rw [this]; omega
        rw [e3] at hk
        clear hno f4 f5 this hn
        repeat' (first
          | (simp (disch := first | omega | assumption) only [go_sem, ↓reduceIte, Nat.reduceEqDiff, reduceCtorEq, Nat.reduceAdd, Nat.reduceMul, Int.reduceToNat, Nat.reduceShiftRight, Nat.reduceAnd, Nat.reduceBNe, Nat.reduceBneDiff, Nat.reduceLT, Nat.reduceLeDiff, Int.reduceLT, Int.reduceLE, Int.reduceEq, Int.reduceAdd, Int.reduceSub, hlt, f1, h32, hs, h5, h3, h4, hsz])
          | (refine br_prop (fun hb => ?_) (fun hb => ?_) <;> try (exfalso; omega))
          | refine br_not ?_
          | (refine by_prop (fun hb => ?_) (fun hb => ?_) <;> try (exfalso; omega))
          | (refine by_prop' (fun hb => ?_) (fun hb => ?_) <;> try (exfalso; omega))
          | refine by_not ?_
          | refine w_drawn (by kernel_rfl) ?_
          | refine new_i' (by rfl) (fun j hj hn => ?_)
          | refine new_i (fun j hn => ?_)
          | refine br_bool (fun hb => ?_) (fun hb => ?_)
          | refine by_bool (fun hb => ?_) (fun hb => ?_)
          | refine by_bool' (fun hb => ?_) (fun hb => ?_))
        exact hk
      · have hno' : ∀ m, m + 1 < (scanN (i + 1)).2 → nameList[m]? ≠ some s.data.toList := by
          rw [hn]; intro m hm
          by_cases hm2 : m + 1 < (scanN i).2
          · exact hno m hm2
          · have : m = (scanN i).2 - 1 := by simp only at hm; omega
            rw [this, f5]; simpa using hs
        clear hno f4 f5
        repeat' (first
          | (simp (disch := first | omega | assumption) only [go_sem, ↓reduceIte, Nat.reduceEqDiff, reduceCtorEq, Nat.reduceAdd, Nat.reduceMul, Int.reduceToNat, Nat.reduceShiftRight, Nat.reduceAnd, Nat.reduceBNe, Nat.reduceBneDiff, Nat.reduceLT, Nat.reduceLeDiff, Int.reduceLT, Int.reduceLE, Int.reduceEq, Int.reduceAdd, Int.reduceSub, hlt, f1, h32, hs, h5, h3, h4, hsz])
          | (refine br_prop (fun hb => ?_) (fun hb => ?_) <;> try (exfalso; omega))
          | refine br_not ?_
          | (refine by_prop (fun hb => ?_) (fun hb => ?_) <;> try (exfalso; omega))
          | (refine by_prop' (fun hb => ?_) (fun hb => ?_) <;> try (exfalso; omega))
          | refine by_not ?_
          | refine w_drawn (by kernel_rfl) ?_
          | refine new_i' (by rfl) (fun j hj hn => ?_)
          | refine new_i (fun j hn => ?_)
          | refine br_bool (fun hb => ?_) (fun hb => ?_)
          | refine by_bool (fun hb => ?_) (fun hb => ?_)
          | refine by_bool' (fun hb => ?_) (fun hb => ?_))
        exact inv_i (hJ.go _ _ ⟨227 - (i + 1), by omega, rfl, i + 1, rfl, by rw [hn]; rfl, by rw [hn]; rfl, by omega, rfl, hno'⟩)
    · rw [if_neg h32] at hn
      rw [← hn] at hno
      have hb : ((getB namesB i).toNat : Int) ≠ 32 := by omega
      repeat' (first
        | (simp (disch := first | omega | assumption) only [go_sem, ↓reduceIte, Nat.reduceEqDiff, reduceCtorEq, Nat.reduceAdd, Nat.reduceMul, Int.reduceToNat, Nat.reduceShiftRight, Nat.reduceAnd, Nat.reduceBNe, Nat.reduceBneDiff, Nat.reduceLT, Nat.reduceLeDiff, Int.reduceLT, Int.reduceLE, Int.reduceEq, Int.reduceAdd, Int.reduceSub, hlt, h5, h3, h4, hb])
        | (refine br_prop (fun hb => ?_) (fun hb => ?_) <;> try (exfalso; omega))
        | refine br_not ?_
        | (refine by_prop (fun hb => ?_) (fun hb => ?_) <;> try (exfalso; omega))
        | (refine by_prop' (fun hb => ?_) (fun hb => ?_) <;> try (exfalso; omega))
        | refine by_not ?_
        | refine w_drawn (by kernel_rfl) ?_
        | refine new_i' (by rfl) (fun j hj hn => ?_)
        | refine new_i (fun j hn => ?_)
        | refine br_bool (fun hb => ?_) (fun hb => ?_)
        | refine by_bool (fun hb => ?_) (fun hb => ?_)
        | refine by_bool' (fun hb => ?_) (fun hb => ?_))
      exact inv_i (hJ.go _ _ ⟨227 - (i + 1), by omega, rfl, i + 1, rfl, by rw [hn]; exact h3, by rw [hn]; exact h4, by omega, rfl, hno⟩)
  · obtain rfl : i = 227 := by omega
    have : opOf s.data.toList = 0 := opIn_no _ _ _ fun m => by
      by_cases hm : m + 1 < 59
      · exact hno m (by rw [scan_end]; exact hm)
      · rw [List.getElem?_eq_none (by show 58 ≤ m; omega)]; simp
    rw [this] at hk
    clear hno
    repeat' (first
      | (simp (disch := first | omega | assumption) only [go_sem, ↓reduceIte, Nat.reduceEqDiff, reduceCtorEq, Nat.reduceAdd, Nat.reduceMul, Int.reduceToNat, Nat.reduceShiftRight, Nat.reduceAnd, Nat.reduceBNe, Nat.reduceBneDiff, Nat.reduceLT, Nat.reduceLeDiff, Int.reduceLT, Int.reduceLE, Int.reduceEq, Int.reduceAdd, Int.reduceSub, h5, h3, h4])
      | (refine br_prop (fun hb => ?_) (fun hb => ?_) <;> try (exfalso; omega))
      | refine br_not ?_
      | (refine by_prop (fun hb => ?_) (fun hb => ?_) <;> try (exfalso; omega))
      | (refine by_prop' (fun hb => ?_) (fun hb => ?_) <;> try (exfalso; omega))
      | refine by_not ?_
      | refine w_drawn (by kernel_rfl) ?_
      | refine new_i' (by rfl) (fun j hj hn => ?_)
      | refine new_i (fun j hn => ?_)
      | refine br_bool (fun hb => ?_) (fun hb => ?_)
      | refine by_bool (fun hb => ?_) (fun hb => ?_)
      | refine by_bool' (fun hb => ?_) (fun hb => ?_))
    all_goals first | exact hk | (exfalso; omega)
theorem name26 (op : Int) (h1 : 1 ≤ op) (h2 : op ≤ 58) (H : AHeap) (K : Value → AHeap → Prop) (hk : ∀ s : ByteArray, s.data.toList = nameOf op → K (.string s) H) : ACalls Tryd.prog 26 #[.int .i64 op] H K := by
  refine w_enter (args := [.int .i64 op]) Tryd.func26 rfl (by kernel_rfl) D.mixed (by kernel_rfl) (rs := [.tmp 2]) rfl ?_
  repeat' (first
    | (simp (disch := first | omega | assumption) only [go_sem, ↓reduceIte, Nat.reduceEqDiff, reduceCtorEq, Nat.reduceAdd, Nat.reduceMul, Int.reduceToNat, Nat.reduceShiftRight, Nat.reduceAnd, Nat.reduceBNe, Nat.reduceBneDiff, Nat.reduceLT, Nat.reduceLeDiff, Int.reduceLT, Int.reduceLE, Int.reduceEq, Int.reduceAdd, Int.reduceSub, true_and])
    | (refine br_prop (fun hb => ?_) (fun hb => ?_) <;> try (exfalso; omega))
    | refine br_not ?_
    | (refine by_prop (fun hb => ?_) (fun hb => ?_) <;> try (exfalso; omega))
    | (refine by_prop' (fun hb => ?_) (fun hb => ?_) <;> try (exfalso; omega))
    | refine by_not ?_
    | refine w_drawn (by kernel_rfl) ?_
    | refine new_i' (by rfl) (fun j hj hn => ?_)
    | refine new_i (fun j hn => ?_)
    | refine br_bool (fun hb => ?_) (fun hb => ?_)
    | refine by_bool (fun hb => ?_) (fun hb => ?_)
    | refine by_bool' (fun hb => ?_) (fun hb => ?_))
  generalize hB : ByteArray.mk (List.toArray (List.append _ _)) = B
  obtain rfl : B = namesB := hB.symm
  clear hB
  refine W.loopF 8388604 (fun n e H1 => H1 = H ∧ ∃ i : Nat, e 5 = .int .i64 i ∧ e 3 = .int .i64 (scanN i).1 ∧ e 4 = .int .i64 (scanN i).2 ∧ i ≤ 227 ∧ n = 227 - i ∧ ((scanN i).2 : Int) ≤ op) 227 (by kernel_rfl) ⟨rfl, 0, by first | (simp (disch := first | omega | assumption) only [go_sem, ↓reduceIte, Nat.reduceEqDiff, reduceCtorEq, Nat.reduceAdd, Nat.reduceMul, Int.reduceToNat, Nat.reduceShiftRight, Nat.reduceAnd, Nat.reduceBNe, Nat.reduceBneDiff, Nat.reduceLT, Nat.reduceLeDiff, Int.reduceLT, Int.reduceLE, Int.reduceEq, Int.reduceAdd, Int.reduceSub, *]; done) | (simp (disch := first | omega | assumption) only [go_sem, ↓reduceIte, Nat.reduceEqDiff, reduceCtorEq, Nat.reduceAdd, Nat.reduceMul, Int.reduceToNat, Nat.reduceShiftRight, Nat.reduceAnd, Nat.reduceBNe, Nat.reduceBneDiff, Nat.reduceLT, Nat.reduceLeDiff, Int.reduceLT, Int.reduceLE, Int.reduceEq, Int.reduceAdd, Int.reduceSub, *]; rfl), by first | (simp (disch := first | omega | assumption) only [go_sem, ↓reduceIte, Nat.reduceEqDiff, reduceCtorEq, Nat.reduceAdd, Nat.reduceMul, Int.reduceToNat, Nat.reduceShiftRight, Nat.reduceAnd, Nat.reduceBNe, Nat.reduceBneDiff, Nat.reduceLT, Nat.reduceLeDiff, Int.reduceLT, Int.reduceLE, Int.reduceEq, Int.reduceAdd, Int.reduceSub, *]; done) | (simp (disch := first | omega | assumption) only [go_sem, ↓reduceIte, Nat.reduceEqDiff, reduceCtorEq, Nat.reduceAdd, Nat.reduceMul, Int.reduceToNat, Nat.reduceShiftRight, Nat.reduceAnd, Nat.reduceBNe, Nat.reduceBneDiff, Nat.reduceLT, Nat.reduceLeDiff, Int.reduceLT, Int.reduceLE, Int.reduceEq, Int.reduceAdd, Int.reduceSub, *]; rfl), by first | (simp (disch := first | omega | assumption) only [go_sem, ↓reduceIte, Nat.reduceEqDiff, reduceCtorEq, Nat.reduceAdd, Nat.reduceMul, Int.reduceToNat, Nat.reduceShiftRight, Nat.reduceAnd, Nat.reduceBNe, Nat.reduceBneDiff, Nat.reduceLT, Nat.reduceLeDiff, Int.reduceLT, Int.reduceLE, Int.reduceEq, Int.reduceAdd, Int.reduceSub, *]; done) | (simp (disch := first | omega | assumption) only [go_sem, ↓reduceIte, Nat.reduceEqDiff, reduceCtorEq, Nat.reduceAdd, Nat.reduceMul, Int.reduceToNat, Nat.reduceShiftRight, Nat.reduceAnd, Nat.reduceBNe, Nat.reduceBneDiff, Nat.reduceLT, Nat.reduceLeDiff, Int.reduceLT, Int.reduceLE, Int.reduceEq, Int.reduceAdd, Int.reduceSub, *]; rfl), by omega, rfl, h1⟩ ?_
  rintro n e _ J hJ ⟨rfl, i, h5, h3, h4, hi, rfl, hle⟩
  have hsz := namesB_size
  by_cases hlt : i < 227
  · obtain ⟨f1, f2, f3, f4⟩ := scan_facts i hlt
    have hn := scan_next i
    by_cases h32 : (getB namesB i).toNat = 32
    · have f5 := f4 h32
      rw [if_pos h32] at hn
      by_cases he : ((scanN i).2 : Int) = op
      · clear hle f4 hn
        repeat' (first
          | (simp (disch := first | omega | assumption) only [go_sem, ↓reduceIte, Nat.reduceEqDiff, reduceCtorEq, Nat.reduceAdd, Nat.reduceMul, Int.reduceToNat, Nat.reduceShiftRight, Nat.reduceAnd, Nat.reduceBNe, Nat.reduceBneDiff, Nat.reduceLT, Nat.reduceLeDiff, Int.reduceLT, Int.reduceLE, Int.reduceEq, Int.reduceAdd, Int.reduceSub, hlt, f1, h32, he, h5, h3, h4, hsz])
          | (refine br_prop (fun hb => ?_) (fun hb => ?_) <;> try (exfalso; omega))
          | refine br_not ?_
          | (refine by_prop (fun hb => ?_) (fun hb => ?_) <;> try (exfalso; omega))
          | (refine by_prop' (fun hb => ?_) (fun hb => ?_) <;> try (exfalso; omega))
          | refine by_not ?_
          | refine w_drawn (by kernel_rfl) ?_
          | refine new_i' (by rfl) (fun j hj hn => ?_)
          | refine new_i (fun j hn => ?_)
          | refine br_bool (fun hb => ?_) (fun hb => ?_)
          | refine by_bool (fun hb => ?_) (fun hb => ?_)
          | refine by_bool' (fun hb => ?_) (fun hb => ?_))
        refine hk _ ?_
        unfold nameOf
        rw [if_pos h1, List.getD_eq_getElem?_getD, show op.toNat - 1 = (scanN i).2 - 1 by omega, f5]; rfl
      · clear f4 f5
        repeat' (first
          | (simp (disch := first | omega | assumption) only [go_sem, ↓reduceIte, Nat.reduceEqDiff, reduceCtorEq, Nat.reduceAdd, Nat.reduceMul, Int.reduceToNat, Nat.reduceShiftRight, Nat.reduceAnd, Nat.reduceBNe, Nat.reduceBneDiff, Nat.reduceLT, Nat.reduceLeDiff, Int.reduceLT, Int.reduceLE, Int.reduceEq, Int.reduceAdd, Int.reduceSub, hlt, f1, h32, he, h5, h3, h4, hsz])
          | (refine br_prop (fun hb => ?_) (fun hb => ?_) <;> try (exfalso; omega))
          | refine br_not ?_
          | (refine by_prop (fun hb => ?_) (fun hb => ?_) <;> try (exfalso; omega))
          | (refine by_prop' (fun hb => ?_) (fun hb => ?_) <;> try (exfalso; omega))
          | refine by_not ?_
          | refine w_drawn (by kernel_rfl) ?_
          | refine new_i' (by rfl) (fun j hj hn => ?_)
          | refine new_i (fun j hn => ?_)
          | refine br_bool (fun hb => ?_) (fun hb => ?_)
          | refine by_bool (fun hb => ?_) (fun hb => ?_)
          | refine by_bool' (fun hb => ?_) (fun hb => ?_))
        exact inv_i (hJ.go _ _ ⟨227 - (i + 1), by omega, rfl, i + 1, rfl, by rw [hn]; rfl, by rw [hn]; rfl, by omega, rfl, by rw [hn]; show (((scanN i).2 + 1 : Nat) : Int) ≤ op; omega⟩)
    · rw [if_neg h32] at hn
      have hb : ((getB namesB i).toNat : Int) ≠ 32 := by omega
      clear f4
      repeat' (first
        | (simp (disch := first | omega | assumption) only [go_sem, ↓reduceIte, Nat.reduceEqDiff, reduceCtorEq, Nat.reduceAdd, Nat.reduceMul, Int.reduceToNat, Nat.reduceShiftRight, Nat.reduceAnd, Nat.reduceBNe, Nat.reduceBneDiff, Nat.reduceLT, Nat.reduceLeDiff, Int.reduceLT, Int.reduceLE, Int.reduceEq, Int.reduceAdd, Int.reduceSub, hlt, h5, h3, h4, hb, hsz])
        | (refine br_prop (fun hb => ?_) (fun hb => ?_) <;> try (exfalso; omega))
        | refine br_not ?_
        | (refine by_prop (fun hb => ?_) (fun hb => ?_) <;> try (exfalso; omega))
        | (refine by_prop' (fun hb => ?_) (fun hb => ?_) <;> try (exfalso; omega))
        | refine by_not ?_
        | refine w_drawn (by kernel_rfl) ?_
        | refine new_i' (by rfl) (fun j hj hn => ?_)
        | refine new_i (fun j hn => ?_)
        | refine br_bool (fun hb => ?_) (fun hb => ?_)
        | refine by_bool (fun hb => ?_) (fun hb => ?_)
        | refine by_bool' (fun hb => ?_) (fun hb => ?_))
      exact inv_i (hJ.go _ _ ⟨227 - (i + 1), by omega, rfl, i + 1, rfl, by rw [hn]; exact h3, by rw [hn]; exact h4, by omega, rfl, by rw [hn]; exact hle⟩)
  · obtain rfl : i = 227 := by omega
    rw [scan_end] at hle
    exfalso; omega
end Go.Proofs
