/-
  A part of the proofs: GI.
-/
import Derived.Test.YtnbfimppgcoajaaDoorDT
import Derived.Test.YtnbfimppgcoajaaDoorAbS
import Derived.Test.YtnbfimppgcoajaaDoorAbEq
import Derived.Test.YtnbfimppgcoajaaDoorPT
import Derived.Test.YtnbfimppgcoajaaDoorPA
import Derived.Test.YtnbfimppgcoajaaDoorPGA
import Derived.Test.YtnbfimppgcoajaaDoorPGG
import Derived.Test.YtnbfimppgcoajaaDoorPEN
import Derived.Test.YtnbfimppgcoajaaDoorFL
namespace Go.Proofs
set_option linter.unusedSimpArgs false
set_option linter.unusedVariables false
set_option linter.unusedSectionVars false
open Go Go.Ab AsmM
variable [StartErr]
set_option maxRecDepth 100000
set_option maxHeartbeats 1000000
/-- errors.As at nil. -/
theorem as23_nil (v : Value) (H : AHeap) (K : Value → AHeap → Prop) (hk : K (.bool false) H) : ACalls Tryd.prog 23 #[.nilIface, v] H K := by
  intro base w0 φ w cargs r ha
  obtain ⟨a, b, rfl, hva, hvb⟩ := arr_two ha
  cases hva
  refine .inr (.inr ⟨23, _, enter_fact Enter23 _ w, (as_nil b w).mono fun ev w' ⟨h1, h2⟩ => ⟨.bool false, h1, ?_⟩⟩)
  rw [h2]
  exact ⟨φ, H, .bool false, .refl _ _ _, r, .bool _, hk⟩
def retI : Ins := { Ins.zero with op := 16 }
def cliF (x : Ins) : Ins := if lib x then retI else x
def libF (x : Ins) : Ins := if lib x then x else retI
theorem badM_ge (n : Int) (lb : Bool) : ∀ (l : List Ins) (i j : Nat), badM n lb l i = some j → i ≤ j ∧ j < i + l.length
  | [], i, j, h => by cases h
  | x :: r, i, j, h => by
    unfold badM at h
    split at h
    · have := badM_ge n lb r (i + 1) j h; simp; omega
    · cases h; simp
def stepF (f : Int) : Option Nat → Int
  | none => f
  | some j => if f < 0 ∨ (j : Int) < f then j else f
theorem may_ret (n : Int) (hn : 0 ≤ n) (lb : Bool) : may retI n lb = true := by
  cases lb <;> rfl
theorem first_bad (n : Int) (hn : 0 ≤ n) : ∀ (l : List Ins) (i : Nat), stepF (stepF (-1) (badM n false (l.map cliF) i)) (badM n true (l.map libF) i) = (firstBad n l i).getD (-1)
  | [], i => rfl
  | x :: r, i => by
    have ih := first_bad n hn r (i + 1)
    have g1 := badM_ge n false (r.map cliF) (i + 1)
    have g2 := badM_ge n true (r.map libF) (i + 1)
    simp only [List.map_cons, badM, firstBad]
    have hv : valid n x = may x n (lib x) := rfl
    cases hl : lib x with
    | true =>
      rw [hl] at hv
      have e1 : cliF x = retI := by unfold cliF; rw [hl]; rfl
      have e2 : libF x = x := by unfold libF; rw [hl]; rfl
      rw [e1, e2, hv, may_ret n hn, if_pos rfl]
      cases hm : may x n true with
      | true => simp only [if_true]; exact_mod_cast ih
      | false =>
        simp only [Bool.false_eq_true, if_false]
        cases h1 : badM n false (r.map cliF) (i + 1) with
        | none => simp [stepF]
        | some j => have := g1 j h1; simp [stepF]; omega
    | false =>
      rw [hl] at hv
      have e1 : cliF x = x := by unfold cliF; rw [hl]; rfl
      have e2 : libF x = retI := by unfold libF; rw [hl]; rfl
      rw [e1, e2, hv, may_ret n hn, if_pos rfl]
      cases hm : may x n false with
      | true => simp only [if_true]; exact_mod_cast ih
      | false =>
        simp only [Bool.false_eq_true, if_false]
        cases h1 : badM n true (r.map libF) (i + 1) with
        | none => simp [stepF]
        | some j => have := g2 j h1; simp [stepF]; omega
def encL (l : List Ins) : List Value := l.flatMap encI
theorem encL_set (y : Ins) : ∀ (l : List Ins) (k : Nat), k < l.length → putL (encL l) (k * 7) (encI y) = encL (l.set k y)
  | [], k, h => by simp at h
  | x :: l, 0, _ => by simp [encL, encI, putL]
  | x :: l, k + 1, h => by
    have ih := encL_set y l k (by simpa using h)
    have e : ∀ (vs : List Value) (j : Nat), putL (encI x ++ encL l) ((encI x).length + j) vs = encI x ++ putL (encL l) j vs := by
      intro vs
      have gen : ∀ (vs : List Value) (a b : List Value) (j : Nat), putL (a ++ b) (a.length + j) vs = a ++ putL b j vs := by
        intro vs
        induction vs with
        | nil => intros; rfl
        | cons v vs ih => intro a b j; show putL ((a ++ b).set (a.length + j) v) (a.length + j + 1) vs = a ++ putL (b.set j v) (j + 1) vs; rw [List.set_append_right _ _ (by omega), Nat.add_sub_cancel_left, Nat.add_assoc, ih]
      exact fun j => gen vs _ _ j
    have e1 : (k + 1) * 7 = (encI x).length + k * 7 := by rw [encI_len]; omega
    have e2 : encL (x :: l) = encI x ++ encL l := rfl
    rw [e1, e2, e, ih]; rfl
theorem encL_op : ∀ (l : List Ins) (k : Nat) (v : Int), k < l.length → (encL l).set (k * 7) (.int .i64 v) = encL (l.set k { l.getD k Ins.zero with op := v })
  | [], k, v, h => by simp at h
  | x :: l, 0, v, _ => by simp [encL, encI]
  | x :: l, k + 1, v, h => by
    have ih := encL_op l k v (by simpa using h)
    have e1 : (k + 1) * 7 = (encI x).length + k * 7 := by rw [encI_len]; omega
    have e2 : encL (x :: l) = encI x ++ encL l := rfl
    rw [e1, e2, List.set_append_right _ _ (by omega), Nat.add_sub_cancel_left, ih]; rfl
theorem encL_len (l : List Ins) : (encL l).length = l.length * 7 := flat_len encI 7 (fun _ => rfl) l
/-- What stands in a half when the first i instructions are laid. -/
def part (f : Ins → Ins) (l : List Ins) (i : Nat) : List Ins := (l.take i).map f ++ List.replicate (l.length - i) Ins.zero
theorem part_len (f : Ins → Ins) (l : List Ins) (i : Nat) (h : i ≤ l.length) : (part f l i).length = l.length := by unfold part; simp; omega
theorem part_get (f : Ins → Ins) (l : List Ins) (i : Nat) (h : i < l.length) : (part f l i).getD i Ins.zero = Ins.zero := by
  unfold part
  rw [List.getD_eq_getElem?_getD, List.getElem?_append_right (by simp; omega)]
  simp only [List.length_map, List.length_take]
  rw [Nat.min_eq_left (by omega), Nat.sub_self, List.getElem?_replicate]
  split <;> rfl
theorem part_set (f : Ins → Ins) (l : List Ins) (i : Nat) (h : i < l.length) : (part f l i).set i (f (l.getD i Ins.zero)) = part f l (i + 1) := by
  unfold part
  rw [List.set_append_right _ _ (by simp; omega)]
  simp only [List.length_map, List.length_take]
  rw [Nat.min_eq_left (by omega), Nat.sub_self]
  obtain ⟨m, hm⟩ : ∃ m, l.length - i = m + 1 := ⟨l.length - i - 1, by omega⟩
  have hm' : l.length - (i + 1) = m := by omega
  rw [hm, hm', List.replicate_succ, List.set_cons_zero, List.take_succ_eq_append_getElem h, List.map_append, List.append_assoc]
  simp only [List.getD_eq_getElem?_getD, List.getElem?_eq_getElem h]
  rfl
theorem part_end (f : Ins → Ins) (l : List Ins) : part f l l.length = l.map f := by unfold part; simp
theorem part_zero (f : Ins → Ins) (l : List Ins) : part f l 0 = List.replicate l.length Ins.zero := by unfold part; simp
theorem make_ins (n : Nat) (h : n ≤ 2048) : makeSliceA Tryd.prog 25 (.int .i64 n) (.int .i64 n) = some (encL (List.replicate n Ins.zero), n, n) := by
  unfold makeSliceA
  rw [D.e25]
  simp only [Option.bind_some]
  rw [show zeroA Tryd.prog 37 = some (.agg #[.int .i64 0, .int .i64 0, .int .i64 0, .int .i64 0, .int .u64 0, .int .i64 0, .int .i64 0]) by kernel_rfl]
  simp only [Option.bind_some]
  rw [if_pos ⟨by rfl, by omega, by omega, by omega, by omega⟩]
  simp only [Int.toNat_natCast]
  congr 1
  congr 1
  induction n with
  | zero => rfl
  | succ n ih => rw [List.replicate_succ, List.replicate_succ, List.flatten_cons, ih (by omega)]; rfl
def CErr (H : AHeap) (er : Value) : Option Nat → Prop
  | none => er = .nilIface
  | some k => CodeE H er k 5
theorem CErr.grew {H H' : AHeap} {er : Value} {r : Option Nat} (h : CErr H er r) (hg : Grew H H') : CErr H' er r := by
  cases r with
  | none => exact h
  | some k => obtain ⟨i, h1, h2⟩ := h; exact ⟨i, h1, by rw [hg i (by rw [h2]; simp)]; exact h2⟩
theorem check44' (v : Value) (l : List Ins) (o : Option Nat) (lb : Bool) (H : AHeap) (hsl : SL H 7 v l.length (l.flatMap encI) o) (hv : vOk l) (hlen : l.length ≤ 2048) (K : Value → AHeap → Prop)
    (hk : ∀ H' er, CErr H' er (badM l.length lb l 0) → Grew H H' → K er H') : ACalls Tryd.prog 44 #[v, .bool lb] H K :=
  check44 v l o lb H hsl hv (by omega) K (fun H' _ h hg => hk H' _ (by rw [h]; rfl) hg) (fun _ _ h _ _ => absurd h (by omega)) (fun H' e i _ h hE hg => hk H' e (by rw [h]; exact hE) hg)
theorem so_nn : sliceObj Tryd.prog 103 2 [(0, .nilIface), (1, .nilIface)] = some (.cells [.nilIface, .nilIface]) := by kernel_rfl
theorem so_np (i : Nat) : sliceObj Tryd.prog 103 2 [(0, .nilIface), (1, .iface 68 (.pointer (some ⟨i, 0, none⟩)))] = some (.cells [.nilIface, .iface 68 (.pointer (some ⟨i, 0, none⟩))]) := by kernel_rfl
theorem so_pn (i : Nat) : sliceObj Tryd.prog 103 2 [(0, .iface 68 (.pointer (some ⟨i, 0, none⟩))), (1, .nilIface)] = some (.cells [.iface 68 (.pointer (some ⟨i, 0, none⟩)), .nilIface]) := by kernel_rfl
theorem so_pp (i k : Nat) : sliceObj Tryd.prog 103 2 [(0, .iface 68 (.pointer (some ⟨i, 0, none⟩))), (1, .iface 68 (.pointer (some ⟨k, 0, none⟩)))] = some (.cells [.iface 68 (.pointer (some ⟨i, 0, none⟩)), .iface 68 (.pointer (some ⟨k, 0, none⟩))]) := by kernel_rfl
theorem bad24 (v : Value) (l : List Ins) (o : Option Nat) (H : AHeap) (hsl : SLr H 7 v l.length (l.flatMap encI) o) (hv : vOk l) (hlen : l.length ≤ 2048) (K : Value → AHeap → Prop)
    (hk : ∀ H', Grew H H' → K (.int .i64 ((firstBad l.length l 0).getD (-1))) H') : ACalls Tryd.prog 24 #[v] H K := by
  replace hk := Hd.mk hk
  replace hv := Hd.mk hv
  obtain ⟨a, c, rfl⟩ := hsl.val
  refine w_enter (args := [.slice a l.length c]) Tryd.func24 rfl (by kernel_rfl) D.mixed (by kernel_rfl) (rs := [.tmp 2]) rfl ?_
  replace hsl := Hd.mk hsl
  have hmk := make_ins l.length hlen
  replace hmk := Hd.mk hmk
  repeat' (first
    | (simp (disch := first | omega | assumption) only [go_sem, ↓reduceIte, Nat.reduceEqDiff, reduceCtorEq, Nat.reduceAdd, Nat.reduceMul, Int.reduceToNat, Nat.reduceShiftRight, Nat.reduceAnd, Nat.reduceBNe, Nat.reduceBneDiff, Nat.reduceLT, Nat.reduceLeDiff, Int.reduceLT, Int.reduceLE, Int.reduceEq, Int.reduceAdd, Int.reduceSub, *])
    | (refine br_prop (fun hb => ?_) (fun hb => ?_) <;> try (exfalso; omega))
    | refine br_not ?_
    | (refine by_prop (fun hb => ?_) (fun hb => ?_) <;> try (exfalso; omega))
    | (refine by_prop' (fun hb => ?_) (fun hb => ?_) <;> try (exfalso; omega))
    | refine by_not ?_
    | refine new_i' (by rfl) (fun j hj hn => ?_)
    | refine new_i (fun j hn => ?_)
    | refine br_bool (fun hb => ?_) (fun hb => ?_)
    | refine by_bool (fun hb => ?_) (fun hb => ?_)
    | refine by_bool' (fun hb => ?_) (fun hb => ?_))
  refine W.tree (.q 0 (.q 1 (.q 3 (.q 4 (.two 2 (.q 6 (.one 5 (.q 7 .done))) 5 (.one 2 (.q 6 (.q 7 .done)))))))) (fun _ => True)
    (fun e H' => ∃ i1 i2, i1 ≠ i2 ∧ H i1 = .none ∧ H i2 = .none ∧ H' = (H.set i1 (.cells (encL (List.replicate l.length Ins.zero)))).set i2 (.cells (encL (List.replicate l.length Ins.zero))) ∧ e 0 = .slice a l.length c ∧ e 3 = .slice (some ⟨i1, 0, none⟩) l.length l.length ∧ e 4 = .slice (some ⟨i2, 0, none⟩) l.length l.length) (by kernel_rfl) ?_ ?_
  · refine tq (.slice a l.length c) rfl (fun H' hH' => by clear hH'; first | rfl | (simp (disch := first | omega | assumption) only [valA, go_sem, ↓reduceIte, Nat.reduceEqDiff, reduceCtorEq, Nat.reduceAdd, Nat.reduceMul, Int.reduceToNat, Nat.reduceShiftRight, Nat.reduceAnd, Nat.reduceBNe, Nat.reduceBneDiff, Nat.reduceLT, Nat.reduceLeDiff, Int.reduceLT, Int.reduceLE, Int.reduceEq, Int.reduceAdd, Int.reduceSub, *]; done) | (simp (disch := first | omega | assumption) only [valA, go_sem, ↓reduceIte, Nat.reduceEqDiff, reduceCtorEq, Nat.reduceAdd, Nat.reduceMul, Int.reduceToNat, Nat.reduceShiftRight, Nat.reduceAnd, Nat.reduceBNe, Nat.reduceBneDiff, Nat.reduceLT, Nat.reduceLeDiff, Int.reduceLT, Int.reduceLE, Int.reduceEq, Int.reduceAdd, Int.reduceSub, *]; rfl)) ?_
    refine tq (.int .i64 l.length) rfl (fun H' hH' => by clear hH'; first | rfl | (simp (disch := first | omega | assumption) only [valA, go_sem, ↓reduceIte, Nat.reduceEqDiff, reduceCtorEq, Nat.reduceAdd, Nat.reduceMul, Int.reduceToNat, Nat.reduceShiftRight, Nat.reduceAnd, Nat.reduceBNe, Nat.reduceBneDiff, Nat.reduceLT, Nat.reduceLeDiff, Int.reduceLT, Int.reduceLE, Int.reduceEq, Int.reduceAdd, Int.reduceSub, *]; done) | (simp (disch := first | omega | assumption) only [valA, go_sem, ↓reduceIte, Nat.reduceEqDiff, reduceCtorEq, Nat.reduceAdd, Nat.reduceMul, Int.reduceToNat, Nat.reduceShiftRight, Nat.reduceAnd, Nat.reduceBNe, Nat.reduceBneDiff, Nat.reduceLT, Nat.reduceLeDiff, Int.reduceLT, Int.reduceLE, Int.reduceEq, Int.reduceAdd, Int.reduceSub, *]; rfl)) ?_
    refine tq (.slice a l.length c) rfl (fun H' hH' => by clear hH'; first | rfl | (simp (disch := first | omega | assumption) only [valA, go_sem, ↓reduceIte, Nat.reduceEqDiff, reduceCtorEq, Nat.reduceAdd, Nat.reduceMul, Int.reduceToNat, Nat.reduceShiftRight, Nat.reduceAnd, Nat.reduceBNe, Nat.reduceBneDiff, Nat.reduceLT, Nat.reduceLeDiff, Int.reduceLT, Int.reduceLE, Int.reduceEq, Int.reduceAdd, Int.reduceSub, *]; done) | (simp (disch := first | omega | assumption) only [valA, go_sem, ↓reduceIte, Nat.reduceEqDiff, reduceCtorEq, Nat.reduceAdd, Nat.reduceMul, Int.reduceToNat, Nat.reduceShiftRight, Nat.reduceAnd, Nat.reduceBNe, Nat.reduceBneDiff, Nat.reduceLT, Nat.reduceLeDiff, Int.reduceLT, Int.reduceLE, Int.reduceEq, Int.reduceAdd, Int.reduceSub, *]; rfl)) ?_
    refine tq (.int .i64 l.length) rfl (fun H' hH' => by clear hH'; first | rfl | (simp (disch := first | omega | assumption) only [valA, go_sem, ↓reduceIte, Nat.reduceEqDiff, reduceCtorEq, Nat.reduceAdd, Nat.reduceMul, Int.reduceToNat, Nat.reduceShiftRight, Nat.reduceAnd, Nat.reduceBNe, Nat.reduceBneDiff, Nat.reduceLT, Nat.reduceLeDiff, Int.reduceLT, Int.reduceLE, Int.reduceEq, Int.reduceAdd, Int.reduceSub, *]; done) | (simp (disch := first | omega | assumption) only [valA, go_sem, ↓reduceIte, Nat.reduceEqDiff, reduceCtorEq, Nat.reduceAdd, Nat.reduceMul, Int.reduceToNat, Nat.reduceShiftRight, Nat.reduceAnd, Nat.reduceBNe, Nat.reduceBneDiff, Nat.reduceLT, Nat.reduceLeDiff, Int.reduceLT, Int.reduceLE, Int.reduceEq, Int.reduceAdd, Int.reduceSub, *]; rfl)) ?_
    refine ⟨trivial, to rfl (make_q hmk.go fun i1 h1 => ?_), to rfl (make_q hmk.go fun i2 h2 => ⟨trivial, to rfl (make_q hmk.go fun i1 h1 => ?_)⟩)⟩
    · refine tq (.slice (some ⟨i1, 0, none⟩) l.length l.length) rfl (fun H' hH' => by clear hH'; first | rfl | (simp (disch := first | omega | assumption) only [valA, go_sem, ↓reduceIte, Nat.reduceEqDiff, reduceCtorEq, Nat.reduceAdd, Nat.reduceMul, Int.reduceToNat, Nat.reduceShiftRight, Nat.reduceAnd, Nat.reduceBNe, Nat.reduceBneDiff, Nat.reduceLT, Nat.reduceLeDiff, Int.reduceLT, Int.reduceLE, Int.reduceEq, Int.reduceAdd, Int.reduceSub, *]; done) | (simp (disch := first | omega | assumption) only [valA, go_sem, ↓reduceIte, Nat.reduceEqDiff, reduceCtorEq, Nat.reduceAdd, Nat.reduceMul, Int.reduceToNat, Nat.reduceShiftRight, Nat.reduceAnd, Nat.reduceBNe, Nat.reduceBneDiff, Nat.reduceLT, Nat.reduceLeDiff, Int.reduceLT, Int.reduceLE, Int.reduceEq, Int.reduceAdd, Int.reduceSub, *]; rfl)) ?_
      refine ⟨trivial, to rfl (make_q hmk.go fun i2 h2 => ?_)⟩
      have hne : i2 ≠ i1 := fun e => by rw [e, AHeap.set_same] at h2; cases h2
      rw [AHeap.set_ne _ _ hne] at h2
      refine tq (.slice (some ⟨i2, 0, none⟩) l.length l.length) rfl (fun H' hH' => by clear hH'; first | rfl | (simp (disch := first | omega | assumption) only [valA, go_sem, ↓reduceIte, Nat.reduceEqDiff, reduceCtorEq, Nat.reduceAdd, Nat.reduceMul, Int.reduceToNat, Nat.reduceShiftRight, Nat.reduceAnd, Nat.reduceBNe, Nat.reduceBneDiff, Nat.reduceLT, Nat.reduceLeDiff, Int.reduceLT, Int.reduceLE, Int.reduceEq, Int.reduceAdd, Int.reduceSub, *]; done) | (simp (disch := first | omega | assumption) only [valA, go_sem, ↓reduceIte, Nat.reduceEqDiff, reduceCtorEq, Nat.reduceAdd, Nat.reduceMul, Int.reduceToNat, Nat.reduceShiftRight, Nat.reduceAnd, Nat.reduceBNe, Nat.reduceBneDiff, Nat.reduceLT, Nat.reduceLeDiff, Int.reduceLT, Int.reduceLE, Int.reduceEq, Int.reduceAdd, Int.reduceSub, *]; rfl)) ?_
      exact ⟨trivial, i1, i2, hne.symm, h1, h2, rfl, rfl, rfl, rfl⟩
    · have hne : i1 ≠ i2 := fun e => by rw [e, AHeap.set_same] at h1; cases h1
      rw [AHeap.set_ne _ _ hne] at h1
      refine tq (.slice (some ⟨i1, 0, none⟩) l.length l.length) rfl (fun H' hH' => by clear hH'; first | rfl | (simp (disch := first | omega | assumption) only [valA, go_sem, ↓reduceIte, Nat.reduceEqDiff, reduceCtorEq, Nat.reduceAdd, Nat.reduceMul, Int.reduceToNat, Nat.reduceShiftRight, Nat.reduceAnd, Nat.reduceBNe, Nat.reduceBneDiff, Nat.reduceLT, Nat.reduceLeDiff, Int.reduceLT, Int.reduceLE, Int.reduceEq, Int.reduceAdd, Int.reduceSub, *]; done) | (simp (disch := first | omega | assumption) only [valA, go_sem, ↓reduceIte, Nat.reduceEqDiff, reduceCtorEq, Nat.reduceAdd, Nat.reduceMul, Int.reduceToNat, Nat.reduceShiftRight, Nat.reduceAnd, Nat.reduceBNe, Nat.reduceBneDiff, Nat.reduceLT, Nat.reduceLeDiff, Int.reduceLT, Int.reduceLE, Int.reduceEq, Int.reduceAdd, Int.reduceSub, *]; rfl)) ?_
      refine tq (.slice (some ⟨i2, 0, none⟩) l.length l.length) rfl (fun H' hH' => by clear hH'; first | rfl | (simp (disch := first | omega | assumption) only [valA, go_sem, ↓reduceIte, Nat.reduceEqDiff, reduceCtorEq, Nat.reduceAdd, Nat.reduceMul, Int.reduceToNat, Nat.reduceShiftRight, Nat.reduceAnd, Nat.reduceBNe, Nat.reduceBneDiff, Nat.reduceLT, Nat.reduceLeDiff, Int.reduceLT, Int.reduceLE, Int.reduceEq, Int.reduceAdd, Int.reduceSub, *]; done) | (simp (disch := first | omega | assumption) only [valA, go_sem, ↓reduceIte, Nat.reduceEqDiff, reduceCtorEq, Nat.reduceAdd, Nat.reduceMul, Int.reduceToNat, Nat.reduceShiftRight, Nat.reduceAnd, Nat.reduceBNe, Nat.reduceBneDiff, Nat.reduceLT, Nat.reduceLeDiff, Int.reduceLT, Int.reduceLE, Int.reduceEq, Int.reduceAdd, Int.reduceSub, *]; rfl)) ?_
      refine ⟨trivial, i1, i2, hne, h1, h2, ?_, rfl, rfl, rfl⟩
      funext j
      simp only [AHeap.set_apply]
      by_cases hj : j = i1
      · subst hj; rw [if_pos rfl, if_neg hne, if_pos rfl]
      · rw [if_neg hj]; split <;> simp_all
  rintro e H0 ⟨i1, i2, hne, hi1, hi2, rfl, h0, h3, h4⟩
  have hG : Grew H ((H.set i1 (.cells (encL (List.replicate l.length Ins.zero)))).set i2 (.cells (encL (List.replicate l.length Ins.zero)))) := ((Grew.refl H).new _ hi1).set _ hi2
  have hA : ((H.set i1 (.cells (encL (List.replicate l.length Ins.zero)))).set i2 (.cells (encL (List.replicate l.length Ins.zero)))) i1 = .cells (encL (part cliF l 0)) := by rw [AHeap.set_ne _ _ hne, AHeap.set_same, part_zero]
  have hB : ((H.set i1 (.cells (encL (List.replicate l.length Ins.zero)))).set i2 (.cells (encL (List.replicate l.length Ins.zero)))) i2 = .cells (encL (part libF l 0)) := by rw [AHeap.set_same, part_zero]
  revert hG hA hB
  generalize ((H.set i1 (.cells (encL (List.replicate l.length Ins.zero)))).set i2 (.cells (encL (List.replicate l.length Ins.zero)))) = H1
  intro hG hA hB
  replace hi1 := Hd.mk hi1
  replace hi2 := Hd.mk hi2
  replace hG := Hd.mk hG
  replace hA := Hd.mk hA
  replace hB := Hd.mk hB
  replace hmk := 0
  clear hmk
  repeat' (first
    | (simp (disch := first | omega | assumption) only [go_sem, ↓reduceIte, Nat.reduceEqDiff, reduceCtorEq, Nat.reduceAdd, Nat.reduceMul, Int.reduceToNat, Nat.reduceShiftRight, Nat.reduceAnd, Nat.reduceBNe, Nat.reduceBneDiff, Nat.reduceLT, Nat.reduceLeDiff, Int.reduceLT, Int.reduceLE, Int.reduceEq, Int.reduceAdd, Int.reduceSub, *])
    | (refine br_prop (fun hb => ?_) (fun hb => ?_) <;> try (exfalso; omega))
    | refine br_not ?_
    | (refine by_prop (fun hb => ?_) (fun hb => ?_) <;> try (exfalso; omega))
    | (refine by_prop' (fun hb => ?_) (fun hb => ?_) <;> try (exfalso; omega))
    | refine by_not ?_
    | refine w_drawn (by kernel_rfl) ?_
    | refine new_i' (by rfl) (fun j hj hn => ?_)
    | refine new_i (fun j hn => ?_)
    | refine br_bool (fun hb => ?_) (fun hb => ?_)
    | refine by_bool (fun hb => ?_) (fun hb => ?_)
    | refine by_bool' (fun hb => ?_) (fun hb => ?_))
  refine W.loopF 562949952897120 (fun m e H' => Grew H H' ∧ ∃ i : Nat, e 19 = .int .i64 i ∧ i ≤ l.length ∧ m = l.length - i ∧ H' i1 = .cells (encL (part cliF l i)) ∧ H' i2 = .cells (encL (part libF l i))) l.length (by kernel_rfl) ?_ ?_
  · exact ⟨hG.go, 0, by simp (disch := first | omega | assumption) only [go_sem, ↓reduceIte, Nat.reduceEqDiff, reduceCtorEq, Nat.reduceAdd, Nat.reduceMul, Int.reduceToNat, Nat.reduceShiftRight, Nat.reduceAnd, Nat.reduceBNe, Nat.reduceBneDiff, Nat.reduceLT, Nat.reduceLeDiff, Int.reduceLT, Int.reduceLE, Int.reduceEq, Int.reduceAdd, Int.reduceSub, *]; try rfl, by omega, by omega, hA.go, hB.go⟩
  rintro m e1 Hc J hJ ⟨hg, i, he, hil, rfl, hc1, hc2⟩
  replace hg := Hd.mk hg
  replace hc1 := Hd.mk hc1
  replace hc2 := Hd.mk hc2
  repeat' (first
    | (simp (disch := first | omega | assumption) only [go_sem, ↓reduceIte, Nat.reduceEqDiff, reduceCtorEq, Nat.reduceAdd, Nat.reduceMul, Int.reduceToNat, Nat.reduceShiftRight, Nat.reduceAnd, Nat.reduceBNe, Nat.reduceBneDiff, Nat.reduceLT, Nat.reduceLeDiff, Int.reduceLT, Int.reduceLE, Int.reduceEq, Int.reduceAdd, Int.reduceSub, *])
    | (refine br_prop (fun hb => ?_) (fun hb => ?_) <;> try (exfalso; omega))
    | refine br_not ?_
    | (refine by_prop (fun hb => ?_) (fun hb => ?_) <;> try (exfalso; omega))
    | (refine by_prop' (fun hb => ?_) (fun hb => ?_) <;> try (exfalso; omega))
    | refine by_not ?_
    | refine w_drawn (by kernel_rfl) ?_
    | refine new_i' (by rfl) (fun j hj hn => ?_)
    | refine new_i (fun j hn => ?_)
    | refine br_bool (fun hb => ?_) (fun hb => ?_)
    | refine by_bool (fun hb => ?_) (fun hb => ?_)
    | refine by_bool' (fun hb => ?_) (fun hb => ?_))
  · obtain ⟨q, rfl⟩ : ∃ q, o = some q := by
      cases o with
      | none => obtain ⟨_, _, h, _⟩ := hsl.go; omega
      | some q => exact ⟨_, rfl⟩
    obtain ⟨c', d, e1, hH, _⟩ := hsl.go
    injection e1 with e1a e1b e1c
    subst e1a
    clear e1b e1c
    have hi : i < l.length := by omega
    obtain ⟨x, hx⟩ : ∃ x, x = l.getD i Ins.zero := ⟨_, rfl⟩
    have hq : Hc q = H q := hg.go q (by intro h; rw [h] at hH; cases hH)
    have hr1 : readA (Hc q) (i * 7) (some 7) = some (.agg #[.int .i64 x.op, .int .i64 x.a, .int .i64 x.b, .int .i64 x.c, .int .u64 x.v, .int .i64 x.m, .int .i64 x.w]) := by
      rw [hq, readA_of hH, flat_read (enc := encI) (fun _ => rfl) Ins.zero hi, ← hx]; rfl
    have hqn : (Hc q).isNone = false := by
      cases hz : Hc q <;> first | rfl | (rw [hz] at hr1; cases hr1)
    have n1 : (Hc i1).isNone = false := by rw [hc1.go]; rfl
    have n2 : (Hc i2).isNone = false := by rw [hc2.go]; rfl
    have wr : ∀ (f : Ins → Ins), writeA (.cells (encL (part f l i))) (i * 7) [.int .i64 16] = some (.cells (encL ((part f l i).set i retI))) := fun f => by
      have hl := part_len f l i hil
      rw [write_one (by rw [encL_len, hl]; omega) rfl, encL_op _ _ _ (by omega), part_get f l i hi]; rfl
    have hp : ∀ (f : Ins → Ins) (y : Ins), f x = y → encL ((part f l i).set i y) = encL (part f l (i + 1)) := fun f y e => by
      rw [← part_set f l i hi, ← hx, e]
    have wx : ∀ (f : Ins → Ins), writeA (.cells (encL ((part f l i).set i retI))) (i * 7) [.int .i64 x.op, .int .i64 x.a, .int .i64 x.b, .int .i64 x.c, .int .u64 x.v, .int .i64 x.m, .int .i64 x.w] = some (.cells (encL ((part f l i).set i x))) := fun f => by
      have hl := part_len f l i hil
      rw [write_all (by rw [encL_len, List.length_set, hl]; simp; omega) rfl, show ([.int .i64 x.op, .int .i64 x.a, .int .i64 x.b, .int .i64 x.c, .int .u64 x.v, .int .i64 x.m, .int .i64 x.w] : List Value) = encI x from rfl, encL_set _ _ _ (by rw [List.length_set, hl]; omega), List.set_set]
    obtain ⟨cl1, hy1⟩ : ∃ cl1, cl1 = (part cliF l i).set i retI := ⟨_, rfl⟩
    have w1 := wr cliF
    have w2 := wr libF
    have w3 := wx cliF
    have w4 := wx libF
    rw [← hy1] at w1 w3
    have w3z : x.m = 0 → writeA (.cells (encL cl1)) (i * 7) [.int .i64 x.op, .int .i64 x.a, .int .i64 x.b, .int .i64 x.c, .int .u64 x.v, .int .i64 0, .int .i64 x.w] = some (.cells (encL ((part cliF l i).set i x))) := fun e => by rw [← e]; have h := wx cliF; rw [← hy1] at h; exact h
    replace hy1 := Hd.mk hy1
    have p1 := hp cliF
    have p2 := hp libF
    replace p1 := Hd.mk p1
    replace p2 := Hd.mk p2
    clear wr wx hp hq hH hil
    replace hc1' := hc1.go
    replace hc2' := hc2.go
    replace hx := Hd.mk hx
    repeat' (first
      | (simp (disch := first | omega | assumption) only [go_sem, ↓reduceIte, Nat.reduceEqDiff, reduceCtorEq, Nat.reduceAdd, Nat.reduceMul, Int.reduceToNat, Nat.reduceShiftRight, Nat.reduceAnd, Nat.reduceBNe, Nat.reduceBneDiff, Nat.reduceLT, Nat.reduceLeDiff, Int.reduceLT, Int.reduceLE, Int.reduceEq, Int.reduceAdd, Int.reduceSub, *])
      | (refine br_prop (fun hb => ?_) (fun hb => ?_) <;> try (exfalso; omega))
      | refine br_not ?_
      | (refine by_prop (fun hb => ?_) (fun hb => ?_) <;> try (exfalso; omega))
      | (refine by_prop' (fun hb => ?_) (fun hb => ?_) <;> try (exfalso; omega))
      | refine by_not ?_
      | refine w_drawn (by kernel_rfl) ?_
      | refine new_i' (by rfl) (fun j hj hn => ?_)
      | refine new_i (fun j hn => ?_)
      | refine br_bool (fun hb => ?_) (fun hb => ?_)
      | refine by_bool (fun hb => ?_) (fun hb => ?_)
      | refine by_bool' (fun hb => ?_) (fun hb => ?_))
    have hj1 : j ≠ i1 := fun e => by rw [e] at hn; rw [hn] at n1; cases n1
    have hj2 : j ≠ i2 := fun e => by rw [e] at hn; rw [hn] at n2; cases n2
    have hne' := hne.symm
    have hj1' := hj1.symm
    have hj2' := hj2.symm
    repeat' (first
      | (simp (disch := first | omega | assumption) only [go_sem, ↓reduceIte, Nat.reduceEqDiff, reduceCtorEq, Nat.reduceAdd, Nat.reduceMul, Int.reduceToNat, Nat.reduceShiftRight, Nat.reduceAnd, Nat.reduceBNe, Nat.reduceBneDiff, Nat.reduceLT, Nat.reduceLeDiff, Int.reduceLT, Int.reduceLE, Int.reduceEq, Int.reduceAdd, Int.reduceSub, *])
      | (refine br_prop (fun hb => ?_) (fun hb => ?_) <;> try (exfalso; omega))
      | refine br_not ?_
      | (refine by_prop (fun hb => ?_) (fun hb => ?_) <;> try (exfalso; omega))
      | (refine by_prop' (fun hb => ?_) (fun hb => ?_) <;> try (exfalso; omega))
      | refine by_not ?_
      | refine w_drawn (by kernel_rfl) ?_
      | refine new_i' (by rfl) (fun j hj hn => ?_)
      | refine new_i (fun j hn => ?_)
      | refine br_bool (fun hb => ?_) (fun hb => ?_)
      | refine by_bool (fun hb => ?_) (fun hb => ?_)
      | refine by_bool' (fun hb => ?_) (fun hb => ?_))
    all_goals
      have hhn := Grew.none hg.go hn
      refine inv_i (hJ.go _ _ ⟨_, by omega, by repeat' (first | exact hg.go | refine Grew.set ?_ _ (by first | exact hi1.go | exact hi2.go | exact hhn)), i + 1, rfl, by omega, rfl, ?_, ?_⟩)
    all_goals
      simp only [AHeap.set_apply, hne, hne', hj1, hj2, hj1', hj2', if_true, if_false]
      congr 1
    · exact p1.go x (by unfold cliF lib; rw [if_neg (by simp; omega)])
    · exact p2.go retI (by unfold libF lib; rw [if_neg (by simp; omega)])
    · rw [hy1.go]; exact p1.go retI (by unfold cliF lib; rw [if_pos (by simp; omega)])
    · exact p2.go x (by unfold libF lib; rw [if_pos (by simp; omega)])
    · rw [hy1.go]; exact p1.go retI (by unfold cliF lib; rw [if_pos (by simp; omega)])
    · exact p2.go x (by unfold libF lib; rw [if_pos (by simp; omega)])
  · have hil' : i = l.length := by omega
    subst hil'
    rw [part_end] at hc1 hc2
    have hvc : vOk (l.map cliF) := fun y hy => by
      obtain ⟨x, hx, rfl⟩ := List.mem_map.1 hy
      unfold cliF; split
      · exact ⟨by decide, by decide⟩
      · exact hv.go x hx
    have hvl : vOk (l.map libF) := fun y hy => by
      obtain ⟨x, hx, rfl⟩ := List.mem_map.1 hy
      unfold libF; split
      · exact hv.go x hx
      · exact ⟨by decide, by decide⟩
    replace hvc := Hd.mk hvc
    replace hvl := Hd.mk hvl
    have hlc : (l.map cliF).length = l.length := List.length_map ..
    have hll : (l.map libF).length = l.length := List.length_map ..
    have hfb := Hd.mk (first_bad l.length (by omega) l 0)
    have hs1 : SL Hc 7 (.slice (some ⟨i1, 0, none⟩) l.length l.length) (l.map cliF).length ((l.map cliF).flatMap encI) (some i1) := ⟨l.length, [], by rw [hlc], by rw [List.append_nil]; exact hc1.go, by rw [List.append_nil, flat_len encI 7 (fun _ => rfl), hlc], flat_len encI 7 (fun _ => rfl) _, by omega⟩
    have hs2 : SL Hc 7 (.slice (some ⟨i2, 0, none⟩) l.length l.length) (l.map libF).length ((l.map libF).flatMap encI) (some i2) := ⟨l.length, [], by rw [hll], by rw [List.append_nil]; exact hc2.go, by rw [List.append_nil, flat_len encI 7 (fun _ => rfl), hll], flat_len encI 7 (fun _ => rfl) _, by omega⟩
    refine call_i (check44' _ (l.map cliF) (some i1) false _ hs1 hvc.go (by omega) _ fun H2 er1 hr1 hg2 => ?_)
    rw [hlc] at hr1
    replace hs2 := Hd.mk (hs2.grew hg2)
    replace hg2 := Hd.mk (hg.go.trans hg2)
    clear hs1 hc1 hc2 hvc hg hA hB hG hi1 hi2 hJ
    replace hr1 := Hd.mk hr1
    repeat' (first
      | (simp (disch := first | omega | assumption) only [go_sem, ↓reduceIte, Nat.reduceEqDiff, reduceCtorEq, Nat.reduceAdd, Nat.reduceMul, Int.reduceToNat, Nat.reduceShiftRight, Nat.reduceAnd, Nat.reduceBNe, Nat.reduceBneDiff, Nat.reduceLT, Nat.reduceLeDiff, Int.reduceLT, Int.reduceLE, Int.reduceEq, Int.reduceAdd, Int.reduceSub, *])
      | (refine br_prop (fun hb => ?_) (fun hb => ?_) <;> try (exfalso; omega))
      | refine br_not ?_
      | (refine by_prop (fun hb => ?_) (fun hb => ?_) <;> try (exfalso; omega))
      | (refine by_prop' (fun hb => ?_) (fun hb => ?_) <;> try (exfalso; omega))
      | refine by_not ?_
      | refine w_drawn (by kernel_rfl) ?_
      | refine new_i' (by rfl) (fun j hj hn => ?_)
      | refine new_i (fun j hn => ?_)
      | refine br_bool (fun hb => ?_) (fun hb => ?_)
      | refine by_bool (fun hb => ?_) (fun hb => ?_)
      | refine by_bool' (fun hb => ?_) (fun hb => ?_))
    refine call_i (check44' _ (l.map libF) (some i2) true _ hs2.go hvl.go (by omega) _ fun H3 er2 hr2 hg3 => ?_)
    rw [hll] at hr2
    replace hr1 := Hd.mk (hr1.go.grew hg3)
    replace hr2 := Hd.mk hr2
    replace hg3 := Hd.mk (hg2.go.trans hg3)
    clear hs2 hg2 hvl
    generalize badM l.length false (l.map cliF) 0 = r1 at *
    generalize badM l.length true (l.map libF) 0 = r2 at *
    have hso : sliceObj Tryd.prog 103 2 [(0, er1), (1, er2)] = some (.cells [er1, er2]) := by
      have h1 := hr1.go
      have h2 := hr2.go
      cases r1 with
      | none =>
        cases h1
        cases r2 with
        | none => cases h2; exact so_nn
        | some k => obtain ⟨i, rfl, _⟩ := h2; exact so_np _
      | some j =>
        obtain ⟨i, rfl, _⟩ := h1
        cases r2 with
        | none => cases h2; exact so_pn _
        | some k => obtain ⟨i, rfl, _⟩ := h2; exact so_pp _ _
    repeat' (first
      | (simp (disch := first | omega | assumption) only [go_sem, ↓reduceIte, Nat.reduceEqDiff, reduceCtorEq, Nat.reduceAdd, Nat.reduceMul, Int.reduceToNat, Nat.reduceShiftRight, Nat.reduceAnd, Nat.reduceBNe, Nat.reduceBneDiff, Nat.reduceLT, Nat.reduceLeDiff, Int.reduceLT, Int.reduceLE, Int.reduceEq, Int.reduceAdd, Int.reduceSub, *])
      | (refine br_prop (fun hb => ?_) (fun hb => ?_) <;> try (exfalso; omega))
      | refine br_not ?_
      | (refine by_prop (fun hb => ?_) (fun hb => ?_) <;> try (exfalso; omega))
      | (refine by_prop' (fun hb => ?_) (fun hb => ?_) <;> try (exfalso; omega))
      | refine by_not ?_
      | refine w_drawn (by kernel_rfl) ?_
      | refine new_i' (by rfl) (fun j hj hn => ?_)
      | refine new_i (fun j hn => ?_)
      | refine br_bool (fun hb => ?_) (fun hb => ?_)
      | refine by_bool (fun hb => ?_) (fun hb => ?_)
      | refine by_bool' (fun hb => ?_) (fun hb => ?_))
    revert j; intro jq hn
    have hg4 := Hd.mk (hg3.go.new (.cells [er1, er2]) hn)
    have hA : (H3.set jq (.cells [er1, er2])) jq = .cells [er1, er2] := AHeap.set_same _ _ _
    have hgx : Grew H3 (H3.set jq (.cells [er1, er2])) := (Grew.refl _).new _ hn
    replace hr1 := Hd.mk (hr1.go.grew hgx)
    replace hr2 := Hd.mk (hr2.go.grew hgx)
    clear hgx hso hg3 hn
    generalize H3.set jq (.cells [er1, er2]) = H4 at *
    refine W.loopF 604462873778517568390784 (fun m e H' => Grew H4 H' ∧ ∃ i : Nat, e 55 = .int .i64 i ∧ i ≤ 2 ∧ m = 2 - i ∧ e 7 = .int .i64 (if i = 0 then -1 else if i = 1 then stepF (-1) r1 else stepF (stepF (-1) r1) r2)) 2 (by kernel_rfl) ?_ ?_
    · exact ⟨.refl _, 0, by simp (disch := first | omega | assumption) only [go_sem, ↓reduceIte, Nat.reduceEqDiff, reduceCtorEq, Nat.reduceAdd, Nat.reduceMul, Int.reduceToNat, Nat.reduceShiftRight, Nat.reduceAnd, Nat.reduceBNe, Nat.reduceBneDiff, Nat.reduceLT, Nat.reduceLeDiff, Int.reduceLT, Int.reduceLE, Int.reduceEq, Int.reduceAdd, Int.reduceSub, *]; try rfl, by omega, by omega, by simp (disch := first | omega | assumption) only [go_sem, ↓reduceIte, Nat.reduceEqDiff, reduceCtorEq, Nat.reduceAdd, Nat.reduceMul, Int.reduceToNat, Nat.reduceShiftRight, Nat.reduceAnd, Nat.reduceBNe, Nat.reduceBneDiff, Nat.reduceLT, Nat.reduceLeDiff, Int.reduceLT, Int.reduceLE, Int.reduceEq, Int.reduceAdd, Int.reduceSub, *]; try rfl⟩
    rintro m e5 Hc5 J5 hJ5 ⟨hg5, i, he55, hil5, rfl, he7⟩
    have hA5 : Hc5 jq = .cells [er1, er2] := by rw [hg5 jq (by rw [hA]; simp), hA]
    obtain ⟨f, hf⟩ : ∃ f : Int, f = (if i = 0 then -1 else if i = 1 then stepF (-1) r1 else stepF (stepF (-1) r1) r2) := ⟨_, rfl⟩
    rw [← hf] at he7
    replace hg5 := Hd.mk hg5
    replace hf := Hd.mk hf
    rcases (show i = 0 ∨ i = 1 ∨ i = 2 by omega) with rfl | rfl | rfl
    · have hA0 : readA (Hc5 jq) 0 none = some er1 := by rw [hA5]; rfl
      replace hA5 := Hd.mk hA5
      have hf0 : f = -1 := hf.go
      subst hf0
      replace hr1 := Hd.mk (hr1.go.grew hg5.go)
      repeat' (first
        | (simp (disch := first | omega | assumption) only [go_sem, ↓reduceIte, Nat.reduceEqDiff, reduceCtorEq, Nat.reduceAdd, Nat.reduceMul, Int.reduceToNat, Nat.reduceShiftRight, Nat.reduceAnd, Nat.reduceBNe, Nat.reduceBneDiff, Nat.reduceLT, Nat.reduceLeDiff, Int.reduceLT, Int.reduceLE, Int.reduceEq, Int.reduceAdd, Int.reduceSub, *])
        | (refine br_prop (fun hb => ?_) (fun hb => ?_) <;> try (exfalso; omega))
        | refine br_not ?_
        | (refine by_prop (fun hb => ?_) (fun hb => ?_) <;> try (exfalso; omega))
        | (refine by_prop' (fun hb => ?_) (fun hb => ?_) <;> try (exfalso; omega))
        | refine by_not ?_
        | refine w_drawn (by kernel_rfl) ?_
        | refine new_i' (by rfl) (fun j hj hn => ?_)
        | refine new_i (fun j hn => ?_)
        | refine br_bool (fun hb => ?_) (fun hb => ?_)
        | refine by_bool (fun hb => ?_) (fun hb => ?_)
        | refine by_bool' (fun hb => ?_) (fun hb => ?_))
      have hgk := hg5.go.none hn
      cases r1 with
      | none =>
        obtain rfl : er1 = .nilIface := hr1.go
        refine call_i (as23_nil _ _ _ ?_)
        repeat' (first
          | (simp (disch := first | omega | assumption) only [go_sem, ↓reduceIte, Nat.reduceEqDiff, reduceCtorEq, Nat.reduceAdd, Nat.reduceMul, Int.reduceToNat, Nat.reduceShiftRight, Nat.reduceAnd, Nat.reduceBNe, Nat.reduceBneDiff, Nat.reduceLT, Nat.reduceLeDiff, Int.reduceLT, Int.reduceLE, Int.reduceEq, Int.reduceAdd, Int.reduceSub, *])
          | (refine br_prop (fun hb => ?_) (fun hb => ?_) <;> try (exfalso; omega))
          | refine br_not ?_
          | (refine by_prop (fun hb => ?_) (fun hb => ?_) <;> try (exfalso; omega))
          | (refine by_prop' (fun hb => ?_) (fun hb => ?_) <;> try (exfalso; omega))
          | refine by_not ?_
          | refine w_drawn (by kernel_rfl) ?_
          | refine new_i' (by rfl) (fun j hj hn => ?_)
          | refine new_i (fun j hn => ?_)
          | refine br_bool (fun hb => ?_) (fun hb => ?_)
          | refine by_bool (fun hb => ?_) (fun hb => ?_)
          | refine by_bool' (fun hb => ?_) (fun hb => ?_))
        exact inv_i (hJ5.go _ _ ⟨_, by omega, hg5.go.new _ hn, 1, rfl, by omega, rfl, by simp (disch := first | omega | assumption) only [go_sem, ↓reduceIte, Nat.reduceEqDiff, reduceCtorEq, Nat.reduceAdd, Nat.reduceMul, Int.reduceToNat, Nat.reduceShiftRight, Nat.reduceAnd, Nat.reduceBNe, Nat.reduceBneDiff, Nat.reduceLT, Nat.reduceLeDiff, Int.reduceLT, Int.reduceLE, Int.reduceEq, Int.reduceAdd, Int.reduceSub, *]; try rfl⟩)
      | some j1 =>
        obtain ⟨i9, rfl, hE⟩ := hr1.go
        have n9 : (Hc5 i9).isNone = false := by rw [hE]; rfl
        refine call_i (as23_hit _ _ _ _ (AHeap.set_same _ _ _) _ ?_)
        repeat' (first
          | (simp (disch := first | omega | assumption) only [go_sem, ↓reduceIte, Nat.reduceEqDiff, reduceCtorEq, Nat.reduceAdd, Nat.reduceMul, Int.reduceToNat, Nat.reduceShiftRight, Nat.reduceAnd, Nat.reduceBNe, Nat.reduceBneDiff, Nat.reduceLT, Nat.reduceLeDiff, Int.reduceLT, Int.reduceLE, Int.reduceEq, Int.reduceAdd, Int.reduceSub, *])
          | (refine br_prop (fun hb => ?_) (fun hb => ?_) <;> try (exfalso; omega))
          | refine br_not ?_
          | (refine by_prop (fun hb => ?_) (fun hb => ?_) <;> try (exfalso; omega))
          | (refine by_prop' (fun hb => ?_) (fun hb => ?_) <;> try (exfalso; omega))
          | refine by_not ?_
          | refine w_drawn (by kernel_rfl) ?_
          | refine new_i' (by rfl) (fun j hj hn => ?_)
          | refine new_i (fun j hn => ?_)
          | refine br_bool (fun hb => ?_) (fun hb => ?_)
          | refine by_bool (fun hb => ?_) (fun hb => ?_)
          | refine by_bool' (fun hb => ?_) (fun hb => ?_))
        refine inv_i (hJ5.go _ _ ⟨_, by omega, ?_, 1, ?_, by omega, rfl, ?_⟩)
        · first | exact hg5.go.new _ hn | exact (hg5.go.new _ hn).set _ hgk
        · rfl
        · have e : (if (1 : Nat) = 0 then (-1 : Int) else if (1 : Nat) = 1 then stepF (-1) (some j1) else stepF (stepF (-1) (some j1)) r2) = (j1 : Int) := by simp [stepF]
          rw [e]
          rfl
    · have hA0 : readA (Hc5 jq) 1 none = some er2 := by rw [hA5]; rfl
      replace hA5 := Hd.mk hA5
      have hf0 : f = stepF (-1) r1 := hf.go
      have hf1 := Hd.mk hf0
      clear hf0
      replace hr2 := Hd.mk (hr2.go.grew hg5.go)
      repeat' (first
        | (simp (disch := first | omega | assumption) only [go_sem, ↓reduceIte, Nat.reduceEqDiff, reduceCtorEq, Nat.reduceAdd, Nat.reduceMul, Int.reduceToNat, Nat.reduceShiftRight, Nat.reduceAnd, Nat.reduceBNe, Nat.reduceBneDiff, Nat.reduceLT, Nat.reduceLeDiff, Int.reduceLT, Int.reduceLE, Int.reduceEq, Int.reduceAdd, Int.reduceSub, *])
        | (refine br_prop (fun hb => ?_) (fun hb => ?_) <;> try (exfalso; omega))
        | refine br_not ?_
        | (refine by_prop (fun hb => ?_) (fun hb => ?_) <;> try (exfalso; omega))
        | (refine by_prop' (fun hb => ?_) (fun hb => ?_) <;> try (exfalso; omega))
        | refine by_not ?_
        | refine w_drawn (by kernel_rfl) ?_
        | refine new_i' (by rfl) (fun j hj hn => ?_)
        | refine new_i (fun j hn => ?_)
        | refine br_bool (fun hb => ?_) (fun hb => ?_)
        | refine by_bool (fun hb => ?_) (fun hb => ?_)
        | refine by_bool' (fun hb => ?_) (fun hb => ?_))
      have hgk := hg5.go.none hn
      cases r2 with
      | none =>
        obtain rfl : er2 = .nilIface := hr2.go
        refine call_i (as23_nil _ _ _ ?_)
        repeat' (first
          | (simp (disch := first | omega | assumption) only [go_sem, ↓reduceIte, Nat.reduceEqDiff, reduceCtorEq, Nat.reduceAdd, Nat.reduceMul, Int.reduceToNat, Nat.reduceShiftRight, Nat.reduceAnd, Nat.reduceBNe, Nat.reduceBneDiff, Nat.reduceLT, Nat.reduceLeDiff, Int.reduceLT, Int.reduceLE, Int.reduceEq, Int.reduceAdd, Int.reduceSub, *])
          | (refine br_prop (fun hb => ?_) (fun hb => ?_) <;> try (exfalso; omega))
          | refine br_not ?_
          | (refine by_prop (fun hb => ?_) (fun hb => ?_) <;> try (exfalso; omega))
          | (refine by_prop' (fun hb => ?_) (fun hb => ?_) <;> try (exfalso; omega))
          | refine by_not ?_
          | refine w_drawn (by kernel_rfl) ?_
          | refine new_i' (by rfl) (fun j hj hn => ?_)
          | refine new_i (fun j hn => ?_)
          | refine br_bool (fun hb => ?_) (fun hb => ?_)
          | refine by_bool (fun hb => ?_) (fun hb => ?_)
          | refine by_bool' (fun hb => ?_) (fun hb => ?_))
        refine inv_i (hJ5.go _ _ ⟨_, by omega, hg5.go.new _ hn, 2, rfl, by omega, rfl, ?_⟩)
        rw [if_neg (by omega), if_neg (by omega), ← hf1.go]
        simp (disch := first | omega | assumption) only [go_sem, ↓reduceIte, Nat.reduceEqDiff, reduceCtorEq, Nat.reduceAdd, Nat.reduceMul, Int.reduceToNat, Nat.reduceShiftRight, Nat.reduceAnd, Nat.reduceBNe, Nat.reduceBneDiff, Nat.reduceLT, Nat.reduceLeDiff, Int.reduceLT, Int.reduceLE, Int.reduceEq, Int.reduceAdd, Int.reduceSub, *]; try rfl
      | some j1 =>
        obtain ⟨i9, rfl, hE⟩ := hr2.go
        have n9 : (Hc5 i9).isNone = false := by rw [hE]; rfl
        refine call_i (as23_hit _ _ _ _ (AHeap.set_same _ _ _) _ ?_)
        repeat' (first
          | (simp (disch := first | omega | assumption) only [go_sem, ↓reduceIte, Nat.reduceEqDiff, reduceCtorEq, Nat.reduceAdd, Nat.reduceMul, Int.reduceToNat, Nat.reduceShiftRight, Nat.reduceAnd, Nat.reduceBNe, Nat.reduceBneDiff, Nat.reduceLT, Nat.reduceLeDiff, Int.reduceLT, Int.reduceLE, Int.reduceEq, Int.reduceAdd, Int.reduceSub, *])
          | (refine br_prop (fun hb => ?_) (fun hb => ?_) <;> try (exfalso; omega))
          | refine br_not ?_
          | (refine by_prop (fun hb => ?_) (fun hb => ?_) <;> try (exfalso; omega))
          | (refine by_prop' (fun hb => ?_) (fun hb => ?_) <;> try (exfalso; omega))
          | refine by_not ?_
          | refine w_drawn (by kernel_rfl) ?_
          | refine new_i' (by rfl) (fun j hj hn => ?_)
          | refine new_i (fun j hn => ?_)
          | refine br_bool (fun hb => ?_) (fun hb => ?_)
          | refine by_bool (fun hb => ?_) (fun hb => ?_)
          | refine by_bool' (fun hb => ?_) (fun hb => ?_))
        all_goals
          refine inv_i (hJ5.go _ _ ⟨_, by omega, ?_, 2, ?_, by omega, rfl, ?_⟩)
          · first | exact hg5.go.new _ hn | exact (hg5.go.new _ hn).set _ hgk
          · rfl
          rw [if_neg (by omega), if_neg (by omega), ← hf1.go]
          simp only [stepF]
          first | rw [if_pos (by omega)] | rw [if_neg (by omega)]
          simp (disch := first | omega | assumption) only [go_sem, ↓reduceIte, Nat.reduceEqDiff, reduceCtorEq, Nat.reduceAdd, Nat.reduceMul, Int.reduceToNat, Nat.reduceShiftRight, Nat.reduceAnd, Nat.reduceBNe, Nat.reduceBneDiff, Nat.reduceLT, Nat.reduceLeDiff, Int.reduceLT, Int.reduceLE, Int.reduceEq, Int.reduceAdd, Int.reduceSub, *]; try rfl
    · have hf0 : f = stepF (stepF (-1) r1) r2 := hf.go
      rw [hfb.go] at hf0
      replace hf0 := Hd.mk hf0
      replace hA5 := Hd.mk hA5
      repeat' (first
        | (simp (disch := first | omega | assumption) only [go_sem, ↓reduceIte, Nat.reduceEqDiff, reduceCtorEq, Nat.reduceAdd, Nat.reduceMul, Int.reduceToNat, Nat.reduceShiftRight, Nat.reduceAnd, Nat.reduceBNe, Nat.reduceBneDiff, Nat.reduceLT, Nat.reduceLeDiff, Int.reduceLT, Int.reduceLE, Int.reduceEq, Int.reduceAdd, Int.reduceSub, *])
        | (refine br_prop (fun hb => ?_) (fun hb => ?_) <;> try (exfalso; omega))
        | refine br_not ?_
        | (refine by_prop (fun hb => ?_) (fun hb => ?_) <;> try (exfalso; omega))
        | (refine by_prop' (fun hb => ?_) (fun hb => ?_) <;> try (exfalso; omega))
        | refine by_not ?_
        | refine w_drawn (by kernel_rfl) ?_
        | refine new_i' (by rfl) (fun j hj hn => ?_)
        | refine new_i (fun j hn => ?_)
        | refine br_bool (fun hb => ?_) (fun hb => ?_)
        | refine by_bool (fun hb => ?_) (fun hb => ?_)
        | refine by_bool' (fun hb => ?_) (fun hb => ?_))
      have h := hk.go _ (hg4.go.trans hg5.go)
      rw [← hf0.go.symm.trans rfl] 
      exact h
end Go.Proofs
