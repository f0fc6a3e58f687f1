/-
  A part of the proofs: HC HD HE.
-/
import Derived.Test.YtnbfimppgcoajaaDoorDT
import Derived.Test.YtnbfimppgcoajaaDoorAbS
import Derived.Test.YtnbfimppgcoajaaDoorAbEq
import Derived.Test.YtnbfimppgcoajaaDoorPT
import Derived.Test.YtnbfimppgcoajaaDoorPA
import Derived.Test.YtnbfimppgcoajaaDoorPHA
import Derived.Test.YtnbfimppgcoajaaDoorPGG
import Derived.Test.YtnbfimppgcoajaaDoorEQ
import Derived.Test.YtnbfimppgcoajaaDoorPEB
namespace Go.Proofs
set_option linter.unusedSimpArgs false
set_option linter.unusedVariables false
set_option linter.unusedSectionVars false
open Go Go.Ab AsmM
variable [StartErr]
set_option maxRecDepth 100000
set_option maxHeartbeats 1000000
theorem SLr.grew {H H' : AHeap} {es : Nat} {v : Value} {n : Nat} {cs : List Value} {o : Option Nat} (h : SLr H es v n cs o) (hg : Grew H H') : SLr H' es v n cs o := by
  cases o with
  | none => exact h
  | some i =>
    obtain ⟨c, ds, h1, h2, h3⟩ := h
    exact ⟨c, ds, h1, by rw [hg i (by intro e; rw [e] at h2; cases h2)]; exact h2, h3⟩
theorem back6 (v : Value) (l : List Ins) (o : Option Nat) (H : AHeap) (hsl : SLr H 7 v l.length (l.flatMap encI) o) (hv : vOk l) (hlen : l.length ≤ 2513169434843) (K : Value → AHeap → Prop)
    (hk : ∀ H', Grew H H' → K (.bool true) H') : ACalls Tryd.prog 6 #[v] H K := by
  replace hk := Hd.mk hk
  obtain ⟨a, c, rfl⟩ := hsl.val
  refine w_enter (args := [.slice a l.length c]) Tryd.func6 rfl (by kernel_rfl) D.mixed (by kernel_rfl) (rs := [.tmp 2]) rfl ?_
  replace hsl := Hd.mk hsl
  replace hv := Hd.mk hv
  repeat' (first
    | (simp (disch := first | omega | assumption) only [go_sem, ↓reduceIte, Nat.reduceEqDiff, reduceCtorEq, Nat.reduceAdd, Nat.reduceMul, Int.reduceToNat, Nat.reduceShiftRight, Nat.reduceAnd, Nat.reduceBNe, Nat.reduceBneDiff, Nat.reduceLT, Nat.reduceLeDiff, Int.reduceLT, Int.reduceLE, Int.reduceEq, Int.reduceAdd, Int.reduceSub, *])
    | (refine br_prop (fun hb => ?_) (fun hb => ?_) <;> try (exfalso; omega))
    | refine br_not ?_
    | (refine by_prop (fun hb => ?_) (fun hb => ?_) <;> try (exfalso; omega))
    | (refine by_prop' (fun hb => ?_) (fun hb => ?_) <;> try (exfalso; omega))
    | refine by_not ?_
    | refine w_drawn (by kernel_rfl) ?_
    | refine new_i' (by rfl) (fun j hj hn => ?_)
    | refine new_i (fun j hn => ?_)
    | refine br_bool (fun hb => ?_) (fun hb => ?_)
    | refine by_bool (fun hb => ?_) (fun hb => ?_)
    | refine by_bool' (fun hb => ?_) (fun hb => ?_))
  refine call_i (copy15 _ l o _ hsl.go hlen _ fun v1 H1 o1 hg1 hs1 _ => ?_)
  replace hg1 := Hd.mk hg1
  replace hs1 := Hd.mk hs1
  repeat' (first
    | (simp (disch := first | omega | assumption) only [go_sem, ↓reduceIte, Nat.reduceEqDiff, reduceCtorEq, Nat.reduceAdd, Nat.reduceMul, Int.reduceToNat, Nat.reduceShiftRight, Nat.reduceAnd, Nat.reduceBNe, Nat.reduceBneDiff, Nat.reduceLT, Nat.reduceLeDiff, Int.reduceLT, Int.reduceLE, Int.reduceEq, Int.reduceAdd, Int.reduceSub, *])
    | (refine br_prop (fun hb => ?_) (fun hb => ?_) <;> try (exfalso; omega))
    | refine br_not ?_
    | (refine by_prop (fun hb => ?_) (fun hb => ?_) <;> try (exfalso; omega))
    | (refine by_prop' (fun hb => ?_) (fun hb => ?_) <;> try (exfalso; omega))
    | refine by_not ?_
    | refine w_drawn (by kernel_rfl) ?_
    | refine new_i' (by rfl) (fun j hj hn => ?_)
    | refine new_i (fun j hn => ?_)
    | refine br_bool (fun hb => ?_) (fun hb => ?_)
    | refine by_bool (fun hb => ?_) (fun hb => ?_)
    | refine by_bool' (fun hb => ?_) (fun hb => ?_))
  refine call_i (print14 _ l o1 _ (SL.toR hs1.go) hv.go hlen _ (fun H2 s hp hg2 => ?_) fun H2 er e hp he hg2 => ?_)
  · replace hg2 := Hd.mk (hg1.go.trans hg2)
    replace hp := Hd.mk hp
    clear hs1 hg1
    have hsz := bA_size s
    repeat' (first
      | (simp (disch := first | omega | assumption) only [go_sem, ↓reduceIte, Nat.reduceEqDiff, reduceCtorEq, Nat.reduceAdd, Nat.reduceMul, Int.reduceToNat, Nat.reduceShiftRight, Nat.reduceAnd, Nat.reduceBNe, Nat.reduceBneDiff, Nat.reduceLT, Nat.reduceLeDiff, Int.reduceLT, Int.reduceLE, Int.reduceEq, Int.reduceAdd, Int.reduceSub, *])
      | (refine br_prop (fun hb => ?_) (fun hb => ?_) <;> try (exfalso; omega))
      | refine br_not ?_
      | (refine by_prop (fun hb => ?_) (fun hb => ?_) <;> try (exfalso; omega))
      | (refine by_prop' (fun hb => ?_) (fun hb => ?_) <;> try (exfalso; omega))
      | refine by_not ?_
      | refine w_drawn (by kernel_rfl) ?_
      | refine new_i' (by rfl) (fun j hj hn => ?_)
      | refine new_i (fun j hn => ?_)
      | refine br_bool (fun hb => ?_) (fun hb => ?_)
      | refine by_bool (fun hb => ?_) (fun hb => ?_)
      | refine by_bool' (fun hb => ?_) (fun hb => ?_))
    · refine call_i (awake9 _ _ fun H3 hg3 => ?_)
      repeat' (first
        | (simp (disch := first | omega | assumption) only [go_sem, ↓reduceIte, Nat.reduceEqDiff, reduceCtorEq, Nat.reduceAdd, Nat.reduceMul, Int.reduceToNat, Nat.reduceShiftRight, Nat.reduceAnd, Nat.reduceBNe, Nat.reduceBneDiff, Nat.reduceLT, Nat.reduceLeDiff, Int.reduceLT, Int.reduceLE, Int.reduceEq, Int.reduceAdd, Int.reduceSub, true_and])
        | (refine br_prop (fun hb => ?_) (fun hb => ?_) <;> try (exfalso; omega))
        | refine br_not ?_
        | (refine by_prop (fun hb => ?_) (fun hb => ?_) <;> try (exfalso; omega))
        | (refine by_prop' (fun hb => ?_) (fun hb => ?_) <;> try (exfalso; omega))
        | refine by_not ?_
        | refine w_drawn (by kernel_rfl) ?_
        | refine new_i' (by rfl) (fun j hj hn => ?_)
        | refine new_i (fun j hn => ?_)
        | refine br_bool (fun hb => ?_) (fun hb => ?_)
        | refine by_bool (fun hb => ?_) (fun hb => ?_)
        | refine by_bool' (fun hb => ?_) (fun hb => ?_))
      exact hk.go _ (hg2.go.trans hg3)
    have hb6 : s.length ≤ 65536 := by omega
    obtain ⟨hb1, hb2⟩ := back hv.go hp.go hb6
    have hpl := print_ok hv.go hp.go
    have hll := hpl.1
    replace hb2 := Hd.mk hb2
    refine call_i (parse10 (bA s) _ _ (fun H3 w1 w2 l' labels o3 o4 hq h1 h2 h3 h4 hg3 => ?_) fun H3 e er hq he hg3 => ?_)
    · rw [show (bA s).data.toList = s by simp [bA], hb1] at hq
      injection hq with hq
      injection hq with hq1 hq2
      subst hq1
      replace hg3 := Hd.mk (hg2.go.trans hg3)
      rw [hq2] at hb2
      have hlab : labels.length ≤ 2048 := by rw [← hq2]; have := labs_len 112 0 l l 0; omega
      clear hq2 h3 h4 hb1 hpl hg2
      replace h1 := Hd.mk h1
      replace h2 := Hd.mk h2
      repeat' (first
        | (simp (disch := first | omega | assumption) only [go_sem, ↓reduceIte, Nat.reduceEqDiff, reduceCtorEq, Nat.reduceAdd, Nat.reduceMul, Int.reduceToNat, Nat.reduceShiftRight, Nat.reduceAnd, Nat.reduceBNe, Nat.reduceBneDiff, Nat.reduceLT, Nat.reduceLeDiff, Int.reduceLT, Int.reduceLE, Int.reduceEq, Int.reduceAdd, Int.reduceSub, *])
        | (refine br_prop (fun hb => ?_) (fun hb => ?_) <;> try (exfalso; omega))
        | refine br_not ?_
        | (refine by_prop (fun hb => ?_) (fun hb => ?_) <;> try (exfalso; omega))
        | (refine by_prop' (fun hb => ?_) (fun hb => ?_) <;> try (exfalso; omega))
        | refine by_not ?_
        | refine w_drawn (by kernel_rfl) ?_
        | refine new_i' (by rfl) (fun j hj hn => ?_)
        | refine new_i (fun j hn => ?_)
        | refine br_bool (fun hb => ?_) (fun hb => ?_)
        | refine by_bool (fun hb => ?_) (fun hb => ?_)
        | refine by_bool' (fun hb => ?_) (fun hb => ?_))
      refine call_i (code11r _ _ l l o o3 _ (hsl.go.grew hg3.go) (SL.toR h1.go) hlen _ ?_)
      rw [decide_eq_true rfl]
      obtain ⟨a2, c2, rfl⟩ := h2.go.val
      repeat' (first
        | (simp (disch := first | omega | assumption) only [go_sem, ↓reduceIte, Nat.reduceEqDiff, reduceCtorEq, Nat.reduceAdd, Nat.reduceMul, Int.reduceToNat, Nat.reduceShiftRight, Nat.reduceAnd, Nat.reduceBNe, Nat.reduceBneDiff, Nat.reduceLT, Nat.reduceLeDiff, Int.reduceLT, Int.reduceLE, Int.reduceEq, Int.reduceAdd, Int.reduceSub, *])
        | (refine br_prop (fun hb => ?_) (fun hb => ?_) <;> try (exfalso; omega))
        | refine br_not ?_
        | (refine by_prop (fun hb => ?_) (fun hb => ?_) <;> try (exfalso; omega))
        | (refine by_prop' (fun hb => ?_) (fun hb => ?_) <;> try (exfalso; omega))
        | refine by_not ?_
        | refine w_drawn (by kernel_rfl) ?_
        | refine new_i' (by rfl) (fun j hj hn => ?_)
        | refine new_i (fun j hn => ?_)
        | refine br_bool (fun hb => ?_) (fun hb => ?_)
        | refine by_bool (fun hb => ?_) (fun hb => ?_)
        | refine by_bool' (fun hb => ?_) (fun hb => ?_))
      refine W.loopF 302231454901458270421892 (fun m e H' => Grew H3 H' ∧ ∃ i : Nat, e 7 = .int .i64 i ∧ i ≤ labels.length ∧ m = labels.length - i) labels.length (by kernel_rfl) ?_ ?_
      · exact ⟨.refl _, 0, by simp (disch := first | omega | assumption) only [go_sem, ↓reduceIte, Nat.reduceEqDiff, reduceCtorEq, Nat.reduceAdd, Nat.reduceMul, Int.reduceToNat, Nat.reduceShiftRight, Nat.reduceAnd, Nat.reduceBNe, Nat.reduceBneDiff, Nat.reduceLT, Nat.reduceLeDiff, Int.reduceLT, Int.reduceLE, Int.reduceEq, Int.reduceAdd, Int.reduceSub, *]; try rfl, by omega, by omega⟩
      rintro m e5 Hc J hJ ⟨hg, i, he, hil, rfl⟩
      replace hg := Hd.mk hg
      by_cases hi : i < labels.length
      · obtain ⟨q, rfl⟩ : ∃ q, o4 = some q := by
          cases o4 with
          | none => obtain ⟨_, h, _⟩ := h2.go; omega
          | some q => exact ⟨_, rfl⟩
        obtain ⟨c', d, e1, hH, _⟩ := h2.go
        injection e1 with e1a e1b e1c
        subst e1a
        have hq : Hc q = H3 q := hg.go q (by rw [hH]; simp)
        have hr0 : readA (Hc q) (i * 2) none = some (.string (bA (labels.getD i ([], 0)).1)) := by
          have h := flat_cell (enc := encLab) (ds := d) (es := 2) (j := 0) (fun _ => rfl) ([], 0) hi (by omega)
          rw [hq, hH]; exact h
        have hr1 : readA (Hc q) (i * 2 + 1) none = some (.int .i64 (labels.getD i ([], 0)).2) := by
          have h := flat_cell (enc := encLab) (ds := d) (es := 2) (j := 1) (fun _ => rfl) ([], 0) hi (by omega)
          rw [hq, hH]; exact h
        have hqn : (Hc q).isNone = false := by rw [hq, hH]; rfl
        obtain ⟨f1, f2, f3⟩ := hb2.go (labels.getD i ([], 0)) (by rw [List.getD_eq_getElem?_getD, List.getElem?_eq_getElem hi]; exact List.getElem_mem hi)
        generalize labels.getD i ([], 0) = p at *
        clear hH hq e1b e1c
        replace f1 := Hd.mk f1
        repeat' (first
          | (simp (disch := first | omega | assumption) only [go_sem, ↓reduceIte, Nat.reduceEqDiff, reduceCtorEq, Nat.reduceAdd, Nat.reduceMul, Int.reduceToNat, Nat.reduceShiftRight, Nat.reduceAnd, Nat.reduceBNe, Nat.reduceBneDiff, Nat.reduceLT, Nat.reduceLeDiff, Int.reduceLT, Int.reduceLE, Int.reduceEq, Int.reduceAdd, Int.reduceSub, *])
          | (refine br_prop (fun hb => ?_) (fun hb => ?_) <;> try (exfalso; omega))
          | refine br_not ?_
          | (refine by_prop (fun hb => ?_) (fun hb => ?_) <;> try (exfalso; omega))
          | (refine by_prop' (fun hb => ?_) (fun hb => ?_) <;> try (exfalso; omega))
          | refine by_not ?_
          | refine w_drawn (by kernel_rfl) ?_
          | refine new_i' (by rfl) (fun j hj hn => ?_)
          | refine new_i (fun j hn => ?_)
          | refine br_bool (fun hb => ?_) (fun hb => ?_)
          | refine by_bool (fun hb => ?_) (fun hb => ?_)
          | refine by_bool' (fun hb => ?_) (fun hb => ?_))
        refine call_i (find17 _ labels (some q) _ _ ((h2.go).grew hg.go) (by omega) _ fun H5 hg5 => ?_)
        rw [show (bA p.1).data.toList = p.1 by simp [bA], f1.go]
        simp only [Option.getD_some, Option.isSome_some]
        have hr1' : readA (H5 q) (i * 2 + 1) none = some (.int .i64 p.2) := by rw [hg5 q (by intro e; rw [e] at hqn; cases hqn)]; exact hr1
        replace hg5 := Hd.mk (hg.go.trans hg5)
        repeat' (first
          | (simp (disch := first | omega | assumption) only [go_sem, ↓reduceIte, Nat.reduceEqDiff, reduceCtorEq, Nat.reduceAdd, Nat.reduceMul, Int.reduceToNat, Nat.reduceShiftRight, Nat.reduceAnd, Nat.reduceBNe, Nat.reduceBneDiff, Nat.reduceLT, Nat.reduceLeDiff, Int.reduceLT, Int.reduceLE, Int.reduceEq, Int.reduceAdd, Int.reduceSub, *])
          | (refine br_prop (fun hb => ?_) (fun hb => ?_) <;> try (exfalso; omega))
          | refine br_not ?_
          | (refine by_prop (fun hb => ?_) (fun hb => ?_) <;> try (exfalso; omega))
          | (refine by_prop' (fun hb => ?_) (fun hb => ?_) <;> try (exfalso; omega))
          | refine by_not ?_
          | refine w_drawn (by kernel_rfl) ?_
          | refine new_i' (by rfl) (fun j hj hn => ?_)
          | refine new_i (fun j hn => ?_)
          | refine br_bool (fun hb => ?_) (fun hb => ?_)
          | refine by_bool (fun hb => ?_) (fun hb => ?_)
          | refine by_bool' (fun hb => ?_) (fun hb => ?_))
        exact inv_i (hJ.go _ _ ⟨_, by omega, hg5.go, i + 1, rfl, by omega, rfl⟩)
      · repeat' (first
          | (simp (disch := first | omega | assumption) only [go_sem, ↓reduceIte, Nat.reduceEqDiff, reduceCtorEq, Nat.reduceAdd, Nat.reduceMul, Int.reduceToNat, Nat.reduceShiftRight, Nat.reduceAnd, Nat.reduceBNe, Nat.reduceBneDiff, Nat.reduceLT, Nat.reduceLeDiff, Int.reduceLT, Int.reduceLE, Int.reduceEq, Int.reduceAdd, Int.reduceSub, *])
          | (refine br_prop (fun hb => ?_) (fun hb => ?_) <;> try (exfalso; omega))
          | refine br_not ?_
          | (refine by_prop (fun hb => ?_) (fun hb => ?_) <;> try (exfalso; omega))
          | (refine by_prop' (fun hb => ?_) (fun hb => ?_) <;> try (exfalso; omega))
          | refine by_not ?_
          | refine w_drawn (by kernel_rfl) ?_
          | refine new_i' (by rfl) (fun j hj hn => ?_)
          | refine new_i (fun j hn => ?_)
          | refine br_bool (fun hb => ?_) (fun hb => ?_)
          | refine by_bool (fun hb => ?_) (fun hb => ?_)
          | refine by_bool' (fun hb => ?_) (fun hb => ?_))
        refine call_i (awake9 _ _ fun H5 hg5 => ?_)
        repeat' (first
          | (simp (disch := first | omega | assumption) only [go_sem, ↓reduceIte, Nat.reduceEqDiff, reduceCtorEq, Nat.reduceAdd, Nat.reduceMul, Int.reduceToNat, Nat.reduceShiftRight, Nat.reduceAnd, Nat.reduceBNe, Nat.reduceBneDiff, Nat.reduceLT, Nat.reduceLeDiff, Int.reduceLT, Int.reduceLE, Int.reduceEq, Int.reduceAdd, Int.reduceSub, true_and])
          | (refine br_prop (fun hb => ?_) (fun hb => ?_) <;> try (exfalso; omega))
          | refine br_not ?_
          | (refine by_prop (fun hb => ?_) (fun hb => ?_) <;> try (exfalso; omega))
          | (refine by_prop' (fun hb => ?_) (fun hb => ?_) <;> try (exfalso; omega))
          | refine by_not ?_
          | refine w_drawn (by kernel_rfl) ?_
          | refine new_i' (by rfl) (fun j hj hn => ?_)
          | refine new_i (fun j hn => ?_)
          | refine br_bool (fun hb => ?_) (fun hb => ?_)
          | refine by_bool (fun hb => ?_) (fun hb => ?_)
          | refine by_bool' (fun hb => ?_) (fun hb => ?_))
        exact hk.go _ ((hg3.go.trans hg.go).trans hg5)
    · exfalso
      rw [show (bA s).data.toList = s by simp [bA], hb1] at hq
      cases hq
  · obtain ⟨ei, rfl⟩ := ErrR.ptr he
    replace he := Hd.mk he
    replace hg2 := Hd.mk (hg1.go.trans hg2)
    repeat' (first
      | (simp (disch := first | omega | assumption) only [go_sem, ↓reduceIte, Nat.reduceEqDiff, reduceCtorEq, Nat.reduceAdd, Nat.reduceMul, Int.reduceToNat, Nat.reduceShiftRight, Nat.reduceAnd, Nat.reduceBNe, Nat.reduceBneDiff, Nat.reduceLT, Nat.reduceLeDiff, Int.reduceLT, Int.reduceLE, Int.reduceEq, Int.reduceAdd, Int.reduceSub, *])
      | (refine br_prop (fun hb => ?_) (fun hb => ?_) <;> try (exfalso; omega))
      | refine br_not ?_
      | (refine by_prop (fun hb => ?_) (fun hb => ?_) <;> try (exfalso; omega))
      | (refine by_prop' (fun hb => ?_) (fun hb => ?_) <;> try (exfalso; omega))
      | refine by_not ?_
      | refine w_drawn (by kernel_rfl) ?_
      | refine new_i' (by rfl) (fun j hj hn => ?_)
      | refine new_i (fun j hn => ?_)
      | refine br_bool (fun hb => ?_) (fun hb => ?_)
      | refine by_bool (fun hb => ?_) (fun hb => ?_)
      | refine by_bool' (fun hb => ?_) (fun hb => ?_))
    · refine call_i (awake9 _ _ fun H3 hg3 => ?_)
      repeat' (first
        | (simp (disch := first | omega | assumption) only [go_sem, ↓reduceIte, Nat.reduceEqDiff, reduceCtorEq, Nat.reduceAdd, Nat.reduceMul, Int.reduceToNat, Nat.reduceShiftRight, Nat.reduceAnd, Nat.reduceBNe, Nat.reduceBneDiff, Nat.reduceLT, Nat.reduceLeDiff, Int.reduceLT, Int.reduceLE, Int.reduceEq, Int.reduceAdd, Int.reduceSub, true_and])
        | (refine br_prop (fun hb => ?_) (fun hb => ?_) <;> try (exfalso; omega))
        | refine br_not ?_
        | (refine by_prop (fun hb => ?_) (fun hb => ?_) <;> try (exfalso; omega))
        | (refine by_prop' (fun hb => ?_) (fun hb => ?_) <;> try (exfalso; omega))
        | refine by_not ?_
        | refine w_drawn (by kernel_rfl) ?_
        | refine new_i' (by rfl) (fun j hj hn => ?_)
        | refine new_i (fun j hn => ?_)
        | refine br_bool (fun hb => ?_) (fun hb => ?_)
        | refine by_bool (fun hb => ?_) (fun hb => ?_)
        | refine by_bool' (fun hb => ?_) (fun hb => ?_))
      exact hk.go _ (hg2.go.trans hg3)
    · rename_i hb
      exact absurd rfl hb
end Go.Proofs
namespace Go.Proofs
set_option linter.unusedSimpArgs false
set_option linter.unusedVariables false
set_option linter.unusedSectionVars false
open Go Go.Ab AsmM
variable [Go.Ab.Start]
set_option maxRecDepth 100000
set_option maxHeartbeats 1000000
/-- The row of an op: A, B, C, V, whether B and C may be -1, whether V is a place, whether it is one. -/
def shapeV (op : Int) : List Value := [.bool (fields op).1, .bool (fields op).2.1, .bool (fields op).2.2.1, .bool (fields op).2.2.2, .bool (lessB op), .bool (lessC op), .bool (isJump op), .bool (decide (1 ≤ op ∧ op ≤ 58))]
theorem shape_none {op : Int} (h : op < 1 ∨ 58 < op) : shapeV op = [.bool false, .bool false, .bool false, .bool false, .bool false, .bool false, .bool false, .bool false] := by
  have e1 : fields op = (false, false, false, false) := by unfold fields; repeat' rw [if_neg (by omega)]
  have e2 : lessB op = false := decide_eq_false (by omega)
  have e3 : lessC op = false := decide_eq_false (by omega)
  have e4 : isJump op = false := decide_eq_false (by omega)
  have e5 : decide (1 ≤ op ∧ op ≤ 58) = false := decide_eq_false (by omega)
  unfold shapeV
  rw [e1, e2, e3, e4, e5]
theorem of16 (op : Int) (H : AHeap) (K : Value → AHeap → Prop) (hk : ∀ H', Grew H H' → K (.agg (List.toArray (shapeV op))) H') : ACalls Tryd.prog 16 #[.int .i64 op] H K := by
  replace hk := Hd.mk hk
  refine w_enter (args := [.int .i64 op]) Tryd.func16 rfl (by kernel_rfl) D.mixed (by kernel_rfl) (rs := [.cell 2 47]) rfl ?_
  repeat' (first
    | (simp (disch := first | omega | assumption) only [go_sem, ↓reduceIte, Nat.reduceEqDiff, reduceCtorEq, Nat.reduceAdd, Nat.reduceMul, Int.reduceToNat, Nat.reduceShiftRight, Nat.reduceAnd, Nat.reduceBNe, Nat.reduceBneDiff, Nat.reduceLT, Nat.reduceLeDiff, Int.reduceLT, Int.reduceLE, Int.reduceEq, Int.reduceAdd, Int.reduceSub, *])
    | (refine br_prop (fun hb => ?_) (fun hb => ?_) <;> try (exfalso; omega))
    | refine br_not ?_
    | (refine by_prop (fun hb => ?_) (fun hb => ?_) <;> try (exfalso; omega))
    | (refine by_prop' (fun hb => ?_) (fun hb => ?_) <;> try (exfalso; omega))
    | refine by_not ?_
    | refine w_drawn (by kernel_rfl) ?_
    | refine new_i' (by rfl) (fun j hj hn => ?_)
    | refine new_i (fun j hn => ?_)
    | refine br_bool (fun hb => ?_) (fun hb => ?_)
    | refine by_bool (fun hb => ?_) (fun hb => ?_)
    | refine by_bool' (fun hb => ?_) (fun hb => ?_))
  all_goals first
    | (subst_vars; exact hk.go _ (by repeat' (first | exact Grew.refl _ | refine Grew.set ?_ _ (by assumption) | assumption)))
    | (have h := hk.go
       rw [shape_none (op := op) (by omega)] at h
       exact h _ (by repeat' (first | exact Grew.refl _ | refine Grew.set ?_ _ (by assumption) | assumption)))
end Go.Proofs
namespace Go.Proofs
set_option linter.unusedSimpArgs false
set_option linter.unusedVariables false
set_option linter.unusedSectionVars false
open Go Go.Ab AsmM
variable [StartErr]
set_option maxRecDepth 100000
set_option maxHeartbeats 1000000
/-- Where a word may begin: at the text's begin, behind a line's end, behind a blank. -/
def flagAt (t : Bytes) (i : Nat) : Bool := decide (i = 0 ∨ t.getD (i - 1) 0 = 10 ∨ t.getD (i - 1) 0 = 32)
/-- The byte that is laid for the one at a place. -/
def renAt (t : Bytes) (i : Nat) : UInt8 := if t.getD i 0 = 112 ∧ flagAt t i = true ∧ (i + 1 < t.length ∧ 48 ≤ (t.getD (i + 1) 0) ∧ (t.getD (i + 1) 0) ≤ 57) then 113 else t.getD i 0
theorem ren_drop (t : Bytes) (i : Nat) (h : i < t.length) : ren (flagAt t i) (t.drop i) = renAt t i :: ren (flagAt t (i + 1)) (t.drop (i + 1)) := by
  rw [List.drop_eq_getElem_cons h, ren]
  have e0 : t.getD i 0 = t[i] := by rw [List.getD_eq_getElem?_getD, List.getElem?_eq_getElem h]; rfl
  have e1 : flagAt t (i + 1) = decide (t[i] = 10 ∨ t[i] = 32) := by
    unfold flagAt
    rw [decide_eq_decide, Nat.add_sub_cancel, e0]
    simp
  have e2 : ((t.drop (i + 1)).head?.map isDig).getD false = decide (i + 1 < t.length ∧ 48 ≤ (t.getD (i + 1) 0) ∧ (t.getD (i + 1) 0) ≤ 57) := by
    by_cases h1 : i + 1 < t.length
    · rw [List.drop_eq_getElem_cons h1, List.getD_eq_getElem?_getD, List.getElem?_eq_getElem h1]
      simp [isDig, h1]
    · rw [List.drop_eq_nil_of_le (by omega)]
      simp [h1]
  rw [e1, e2]
  congr 1
  unfold renAt
  rw [e0]
  simp only [decide_eq_true_eq]
theorem getB_list (t : Bytes) (i : Nat) : getB (bA t) i = t.getD i 0 := by unfold getB bA; simp
theorem renAt_nat (t : Bytes) (i : Nat) : renAt t i = if (getB (bA t) i).toNat = 112 ∧ (i = 0 ∨ (getB (bA t) (i - 1)).toNat = 10 ∨ (getB (bA t) (i - 1)).toNat = 32) ∧ i + 1 < t.length ∧ 48 ≤ (getB (bA t) (i + 1)).toNat ∧ (getB (bA t) (i + 1)).toNat ≤ 57 then 113 else t.getD i 0 := by
  simp only [getB_list]
  unfold renAt flagAt
  simp only [decide_eq_true_eq, UInt8.le_iff_toNat_le, ← UInt8.toNat_inj]
  rfl
theorem ext_one (t : Bytes) (i : Nat) (h : i < t.length) : (bA t).extract i (i + 1) = bA [t.getD i 0] := by
  have e : ((bA t).extract i (i + 1)).data.toList = [t.getD i 0] := by
    rw [extract_list, show (bA t).data.toList = t by simp [bA], List.drop_eq_getElem_cons h, Nat.add_sub_cancel_left, List.getD_eq_getElem?_getD, List.getElem?_eq_getElem h]; rfl
  rw [← bA_of ((bA t).extract i (i + 1)), e]
theorem fld47_6 (a b c d e f g h : Bool) : fieldValA Tryd.prog 47 (.agg #[.bool a, .bool b, .bool c, .bool d, .bool e, .bool f, .bool g, .bool h]) 6 = some (.bool g) := by kernel_rfl
theorem eq37_same (H : AHeap) (x y : Operand) (o a b c v m w : Int) : binV Tryd.prog H .neq 37 x y (.agg #[.int .i64 o, .int .i64 a, .int .i64 b, .int .i64 c, .int .u64 v, .int .i64 m, .int .i64 w]) (.agg #[.int .i64 o, .int .i64 a, .int .i64 b, .int .i64 c, .int .u64 v, .int .i64 m, .int .i64 w]) = some (.bool false) := by
  have h := eq37 H x y ⟨o, a, b, c, v, m, w⟩ ⟨o, a, b, c, v, m, w⟩
  rw [decide_eq_true rfl] at h
  exact h
theorem joins5 (v1 v2 : Value) (a b : List Ins) (o1 o2 : Option Nat) (H : AHeap) (h1 : SLr H 7 v1 a.length (a.flatMap encI) o1) (h2 : SLr H 7 v2 b.length (b.flatMap encI) o2) (ha : vOk a) (hb0 : vOk b) (K : Value → AHeap → Prop)
    (hk : ∀ H', Grew H H' → K (.bool true) H') : ACalls Tryd.prog 5 #[v1, v2] H K := by
  replace hk := Hd.mk hk
  obtain ⟨a1, c1, rfl⟩ := h1.val
  obtain ⟨a2, c2, rfl⟩ := h2.val
  refine w_enter (args := [.slice a1 a.length c1, .slice a2 b.length c2]) Tryd.func5 rfl (by kernel_rfl) D.mixed (by kernel_rfl) (rs := [.tmp 4]) rfl ?_
  replace h1 := Hd.mk h1
  replace h2 := Hd.mk h2
  replace ha := Hd.mk ha
  replace hb0 := Hd.mk hb0
  repeat' (first
    | (simp (disch := first | omega | assumption) only [go_sem, ↓reduceIte, Nat.reduceEqDiff, reduceCtorEq, Nat.reduceAdd, Nat.reduceMul, Int.reduceToNat, Nat.reduceShiftRight, Nat.reduceAnd, Nat.reduceBNe, Nat.reduceBneDiff, Nat.reduceLT, Nat.reduceLeDiff, Int.reduceLT, Int.reduceLE, Int.reduceEq, Int.reduceAdd, Int.reduceSub, *])
    | (refine br_prop (fun hb => ?_) (fun hb => ?_) <;> try (exfalso; omega))
    | refine br_not ?_
    | (refine by_prop (fun hb => ?_) (fun hb => ?_) <;> try (exfalso; omega))
    | (refine by_prop' (fun hb => ?_) (fun hb => ?_) <;> try (exfalso; omega))
    | refine by_not ?_
    | refine w_drawn (by kernel_rfl) ?_
    | refine new_i' (by rfl) (fun j hj hn => ?_)
    | refine new_i (fun j hn => ?_)
    | refine br_bool (fun hb => ?_) (fun hb => ?_)
    | refine by_bool (fun hb => ?_) (fun hb => ?_)
    | refine by_bool' (fun hb => ?_) (fun hb => ?_))
  all_goals first
    | (refine call_i (awake9 _ _ fun H3 hg3 => ?_)
       repeat' (first
         | (simp (disch := first | omega | assumption) only [go_sem, ↓reduceIte, Nat.reduceEqDiff, reduceCtorEq, Nat.reduceAdd, Nat.reduceMul, Int.reduceToNat, Nat.reduceShiftRight, Nat.reduceAnd, Nat.reduceBNe, Nat.reduceBneDiff, Nat.reduceLT, Nat.reduceLeDiff, Int.reduceLT, Int.reduceLE, Int.reduceEq, Int.reduceAdd, Int.reduceSub, true_and])
         | (refine br_prop (fun hb => ?_) (fun hb => ?_) <;> try (exfalso; omega))
         | refine br_not ?_
         | (refine by_prop (fun hb => ?_) (fun hb => ?_) <;> try (exfalso; omega))
         | (refine by_prop' (fun hb => ?_) (fun hb => ?_) <;> try (exfalso; omega))
         | refine by_not ?_
         | refine w_drawn (by kernel_rfl) ?_
         | refine new_i' (by rfl) (fun j hj hn => ?_)
         | refine new_i (fun j hn => ?_)
         | refine br_bool (fun hb => ?_) (fun hb => ?_)
         | refine by_bool (fun hb => ?_) (fun hb => ?_)
         | refine by_bool' (fun hb => ?_) (fun hb => ?_))
       exact hk.go _ hg3)
    | skip
  have hla : a.length ≤ 40 := by omega
  have hlb : b.length ≤ 40 := by omega
  refine call_i (copy15 _ a o1 _ h1.go (by omega) _ fun w1 H1 p1 hg1 hs1 _ => ?_)
  replace hg1 := Hd.mk hg1
  replace hs1 := Hd.mk hs1
  repeat' (first
    | (simp (disch := first | omega | assumption) only [go_sem, ↓reduceIte, Nat.reduceEqDiff, reduceCtorEq, Nat.reduceAdd, Nat.reduceMul, Int.reduceToNat, Nat.reduceShiftRight, Nat.reduceAnd, Nat.reduceBNe, Nat.reduceBneDiff, Nat.reduceLT, Nat.reduceLeDiff, Int.reduceLT, Int.reduceLE, Int.reduceEq, Int.reduceAdd, Int.reduceSub, *])
    | (refine br_prop (fun hb => ?_) (fun hb => ?_) <;> try (exfalso; omega))
    | refine br_not ?_
    | (refine by_prop (fun hb => ?_) (fun hb => ?_) <;> try (exfalso; omega))
    | (refine by_prop' (fun hb => ?_) (fun hb => ?_) <;> try (exfalso; omega))
    | refine by_not ?_
    | refine w_drawn (by kernel_rfl) ?_
    | refine new_i' (by rfl) (fun j hj hn => ?_)
    | refine new_i (fun j hn => ?_)
    | refine br_bool (fun hb => ?_) (fun hb => ?_)
    | refine by_bool (fun hb => ?_) (fun hb => ?_)
    | refine by_bool' (fun hb => ?_) (fun hb => ?_))
  refine call_i (print14 _ a p1 _ (SL.toR hs1.go) ha.go (by omega) _ (fun H2 s hp hg2 => ?_) fun H2 er e hp he hg2 => ?_)
  all_goals
    replace hg2 := Hd.mk (hg1.go.trans hg2)
    clear hs1 hg1
  case' refine_2 =>
    obtain ⟨ei, rfl⟩ := ErrR.ptr he
    replace he := Hd.mk he
  all_goals
    replace hp := Hd.mk hp
    repeat' (first
      | (simp (disch := first | omega | assumption) only [go_sem, ↓reduceIte, Nat.reduceEqDiff, reduceCtorEq, Nat.reduceAdd, Nat.reduceMul, Int.reduceToNat, Nat.reduceShiftRight, Nat.reduceAnd, Nat.reduceBNe, Nat.reduceBneDiff, Nat.reduceLT, Nat.reduceLeDiff, Int.reduceLT, Int.reduceLE, Int.reduceEq, Int.reduceAdd, Int.reduceSub, *])
      | (refine br_prop (fun hb => ?_) (fun hb => ?_) <;> try (exfalso; omega))
      | refine br_not ?_
      | (refine by_prop (fun hb => ?_) (fun hb => ?_) <;> try (exfalso; omega))
      | (refine by_prop' (fun hb => ?_) (fun hb => ?_) <;> try (exfalso; omega))
      | refine by_not ?_
      | refine w_drawn (by kernel_rfl) ?_
      | refine new_i' (by rfl) (fun j hj hn => ?_)
      | refine new_i (fun j hn => ?_)
      | refine br_bool (fun hb => ?_) (fun hb => ?_)
      | refine by_bool (fun hb => ?_) (fun hb => ?_)
      | refine by_bool' (fun hb => ?_) (fun hb => ?_))
    refine call_i (copy15 _ b o2 _ (h2.go.grew hg2.go) (by omega) _ fun w2 H3 p2 hg3 hs3 _ => ?_)
    replace hg3 := Hd.mk (hg2.go.trans hg3)
    replace hs3 := Hd.mk hs3
    repeat' (first
      | (simp (disch := first | omega | assumption) only [go_sem, ↓reduceIte, Nat.reduceEqDiff, reduceCtorEq, Nat.reduceAdd, Nat.reduceMul, Int.reduceToNat, Nat.reduceShiftRight, Nat.reduceAnd, Nat.reduceBNe, Nat.reduceBneDiff, Nat.reduceLT, Nat.reduceLeDiff, Int.reduceLT, Int.reduceLE, Int.reduceEq, Int.reduceAdd, Int.reduceSub, *])
      | (refine br_prop (fun hb => ?_) (fun hb => ?_) <;> try (exfalso; omega))
      | refine br_not ?_
      | (refine by_prop (fun hb => ?_) (fun hb => ?_) <;> try (exfalso; omega))
      | (refine by_prop' (fun hb => ?_) (fun hb => ?_) <;> try (exfalso; omega))
      | refine by_not ?_
      | refine w_drawn (by kernel_rfl) ?_
      | refine new_i' (by rfl) (fun j hj hn => ?_)
      | refine new_i (fun j hn => ?_)
      | refine br_bool (fun hb => ?_) (fun hb => ?_)
      | refine by_bool (fun hb => ?_) (fun hb => ?_)
      | refine by_bool' (fun hb => ?_) (fun hb => ?_))
    refine call_i (print14 _ b p2 _ (SL.toR hs3.go) hb0.go (by omega) _ (fun H4 t hp2 hg4 => ?_) fun H4 er2 e2 hp2 he2 hg4 => ?_)
  all_goals
    replace hg4 := Hd.mk (hg3.go.trans hg4)
    replace hp2 := Hd.mk hp2
    clear hs3 hg3
    first
      | (obtain ⟨ei2, rfl⟩ := ErrR.ptr he2
         replace he2 := Hd.mk he2)
      | skip
    repeat' (first
      | (simp (disch := first | omega | assumption) only [go_sem, ↓reduceIte, Nat.reduceEqDiff, reduceCtorEq, Nat.reduceAdd, Nat.reduceMul, Int.reduceToNat, Nat.reduceShiftRight, Nat.reduceAnd, Nat.reduceBNe, Nat.reduceBneDiff, Nat.reduceLT, Nat.reduceLeDiff, Int.reduceLT, Int.reduceLE, Int.reduceEq, Int.reduceAdd, Int.reduceSub, *])
      | (refine br_prop (fun hb => ?_) (fun hb => ?_) <;> try (exfalso; omega))
      | refine br_not ?_
      | (refine by_prop (fun hb => ?_) (fun hb => ?_) <;> try (exfalso; omega))
      | (refine by_prop' (fun hb => ?_) (fun hb => ?_) <;> try (exfalso; omega))
      | refine by_not ?_
      | refine w_drawn (by kernel_rfl) ?_
      | refine new_i' (by rfl) (fun j hj hn => ?_)
      | refine new_i (fun j hn => ?_)
      | refine br_bool (fun hb => ?_) (fun hb => ?_)
      | refine by_bool (fun hb => ?_) (fun hb => ?_)
      | refine by_bool' (fun hb => ?_) (fun hb => ?_))
  all_goals first
    | (refine call_i (awake9 _ _ fun H5 hg5 => ?_)
       repeat' (first
         | (simp (disch := first | omega | assumption) only [go_sem, ↓reduceIte, Nat.reduceEqDiff, reduceCtorEq, Nat.reduceAdd, Nat.reduceMul, Int.reduceToNat, Nat.reduceShiftRight, Nat.reduceAnd, Nat.reduceBNe, Nat.reduceBneDiff, Nat.reduceLT, Nat.reduceLeDiff, Int.reduceLT, Int.reduceLE, Int.reduceEq, Int.reduceAdd, Int.reduceSub, true_and])
         | (refine br_prop (fun hb => ?_) (fun hb => ?_) <;> try (exfalso; omega))
         | refine br_not ?_
         | (refine by_prop (fun hb => ?_) (fun hb => ?_) <;> try (exfalso; omega))
         | (refine by_prop' (fun hb => ?_) (fun hb => ?_) <;> try (exfalso; omega))
         | refine by_not ?_
         | refine w_drawn (by kernel_rfl) ?_
         | refine new_i' (by rfl) (fun j hj hn => ?_)
         | refine new_i (fun j hn => ?_)
         | refine br_bool (fun hb => ?_) (fun hb => ?_)
         | refine by_bool (fun hb => ?_) (fun hb => ?_)
         | refine by_bool' (fun hb => ?_) (fun hb => ?_))
       exact hk.go _ (hg4.go.trans hg5))
    | skip
  have hlt : t.length ≤ 16000 := by
    obtain ⟨_, fb, rfl⟩ := print_ok hb0.go hp2.go
    have := code_len (by omega) 112 b 0 b fb (by omega)
    omega
  have hls : s.length ≤ 16000 := by
    obtain ⟨_, fa, rfl⟩ := print_ok ha.go hp.go
    have := code_len (by omega) 112 a 0 a fa (by omega)
    omega
  have hts := bA_size t
  refine W.loopF 5192296858534827610516097819739648 (fun m e H' => Grew H4 H' ∧ ∃ (i : Nat) (us : Bytes), e 10 = .int .i64 i ∧ i ≤ t.length ∧ m = t.length - i ∧ e 9 = .string (bA us) ∧ us.length = i ∧ ren true t = us ++ ren (flagAt t i) (t.drop i)) t.length (by kernel_rfl) ?_ ?_
  · exact ⟨.refl _, 0, [], by simp (disch := first | omega | assumption) only [go_sem, ↓reduceIte, Nat.reduceEqDiff, reduceCtorEq, Nat.reduceAdd, Nat.reduceMul, Int.reduceToNat, Nat.reduceShiftRight, Nat.reduceAnd, Nat.reduceBNe, Nat.reduceBneDiff, Nat.reduceLT, Nat.reduceLeDiff, Int.reduceLT, Int.reduceLE, Int.reduceEq, Int.reduceAdd, Int.reduceSub, *]; try rfl, by omega, by omega, by simp (disch := first | omega | assumption) only [go_sem, ↓reduceIte, Nat.reduceEqDiff, reduceCtorEq, Nat.reduceAdd, Nat.reduceMul, Int.reduceToNat, Nat.reduceShiftRight, Nat.reduceAnd, Nat.reduceBNe, Nat.reduceBneDiff, Nat.reduceLT, Nat.reduceLeDiff, Int.reduceLT, Int.reduceLE, Int.reduceEq, Int.reduceAdd, Int.reduceSub, *]; try rfl, rfl, rfl⟩
  rintro m e5 Hc J hJ ⟨hg, i, us, he10, hil, rfl, he9, hul, hren⟩
  replace hg := Hd.mk hg
  replace hren := Hd.mk hren
  by_cases hi : i < t.length
  · have e1 : ((i : Int) + 1).toNat = i + 1 := by omega
    have e3 : i ≠ 0 → ((i : Int) - 1).toNat = i - 1 := fun _ => by omega
    have hx1 := ext_one t i hi
    have hc1 : binS .add (bA us) (ByteArray.mk #[113]) = some (.string (bA (us ++ [113]))) := cat us [113] (by simp; omega)
    have hc2 : binS .add (bA us) (bA [t.getD i 0]) = some (.string (bA (us ++ [t.getD i 0]))) := cat us [t.getD i 0] (by simp; omega)
    have hrn := Hd.mk (renAt_nat t i)
    have hrd := Hd.mk (ren_drop t i hi)
    repeat' (first
      | (simp (disch := first | omega | assumption) only [go_sem, ↓reduceIte, Nat.reduceEqDiff, reduceCtorEq, Nat.reduceAdd, Nat.reduceMul, Int.reduceToNat, Nat.reduceShiftRight, Nat.reduceAnd, Nat.reduceBNe, Nat.reduceBneDiff, Nat.reduceLT, Nat.reduceLeDiff, Int.reduceLT, Int.reduceLE, Int.reduceEq, Int.reduceAdd, Int.reduceSub, *])
      | (refine br_prop (fun hb => ?_) (fun hb => ?_) <;> try (exfalso; omega))
      | refine br_not ?_
      | (refine by_prop (fun hb => ?_) (fun hb => ?_) <;> try (exfalso; omega))
      | (refine by_prop' (fun hb => ?_) (fun hb => ?_) <;> try (exfalso; omega))
      | refine by_not ?_
      | refine w_drawn (by kernel_rfl) ?_
      | refine new_i' (by rfl) (fun j hj hn => ?_)
      | refine new_i (fun j hn => ?_)
      | refine br_bool (fun hb => ?_) (fun hb => ?_)
      | refine by_bool (fun hb => ?_) (fun hb => ?_)
      | refine by_bool' (fun hb => ?_) (fun hb => ?_))
    all_goals
      refine inv_i (hJ.go _ _ ⟨_, by omega, hg.go, i + 1, us ++ [renAt t i], ?_, by omega, rfl, ?_, by rw [List.length_append, hul]; rfl, by rw [hren.go, hrd.go, List.append_assoc]; rfl⟩)
      · first | rfl | (obtain rfl : i = 0 := by omega
                       rfl)
      · rw [hrn.go]
        first
          | rw [if_pos (by omega)]
          | rw [if_neg (by omega)]
        rfl
  · obtain rfl : i = t.length := by omega
    have hru : us = ren true t := by
      have h := hren.go
      rw [List.drop_eq_nil_of_le (Nat.le_refl _)] at h
      rw [h]
      cases flagAt t t.length <;> simp [ren]
    subst hru
    have hcat := cat s (ren true t) (by omega)
    obtain ⟨hj1, hj2⟩ := joins ha.go hb0.go hp.go hp2.go hla hlb
    replace hj1 := Hd.mk hj1
    replace hj2 := Hd.mk hj2
    generalize hU : ren true t = U at *
    repeat' (first
      | (simp (disch := first | omega | assumption) only [go_sem, ↓reduceIte, Nat.reduceEqDiff, reduceCtorEq, Nat.reduceAdd, Nat.reduceMul, Int.reduceToNat, Nat.reduceShiftRight, Nat.reduceAnd, Nat.reduceBNe, Nat.reduceBneDiff, Nat.reduceLT, Nat.reduceLeDiff, Int.reduceLT, Int.reduceLE, Int.reduceEq, Int.reduceAdd, Int.reduceSub, *])
      | (refine br_prop (fun hb => ?_) (fun hb => ?_) <;> try (exfalso; omega))
      | refine br_not ?_
      | (refine by_prop (fun hb => ?_) (fun hb => ?_) <;> try (exfalso; omega))
      | (refine by_prop' (fun hb => ?_) (fun hb => ?_) <;> try (exfalso; omega))
      | refine by_not ?_
      | refine w_drawn (by kernel_rfl) ?_
      | refine new_i' (by rfl) (fun j hj hn => ?_)
      | refine new_i (fun j hn => ?_)
      | refine br_bool (fun hb => ?_) (fun hb => ?_)
      | refine by_bool (fun hb => ?_) (fun hb => ?_)
      | refine by_bool' (fun hb => ?_) (fun hb => ?_))
    refine call_i (parse10 (bA (s ++ U)) _ _ (fun H6 u1 u2 l' labels q3 q4 hq f1 f2 f3 f4 hg6 => ?_) fun H6 e er hq he hg6 => ?_)
    · rw [show (bA (s ++ U)).data.toList = s ++ U by simp [bA], hj1.go] at hq
      injection hq with hq
      injection hq with hq1 hq2
      subst hq1
      have hlab : labels.length < 90 := by rw [← hq2]; exact hj2.go
      have hl2 : (a ++ b.map (shift a.length)).length = a.length + b.length := by simp
      replace hg6 := Hd.mk ((hg4.go.trans hg.go).trans hg6)
      clear hq2 f3 f4 hj1 hj2 hcat hren hJ hU
      rw [hl2] at f1
      obtain ⟨x6, y6, hx6⟩ := f2.val
      replace f2 := Hd.mk f2
      obtain ⟨q3, rfl⟩ : ∃ q, q3 = some q := by
        cases q3 with
        | none => obtain ⟨_, h, _⟩ := f1; omega
        | some q => exact ⟨_, rfl⟩
      obtain ⟨cc, dd, rfl, hHq, hcd1, hcd2, hcc⟩ := f1
      rw [List.flatMap_append, List.append_assoc] at hHq
      have hsa : SLr H6 7 (.slice (some ⟨q3, 0, none⟩) a.length cc) a.length (a.flatMap encI) (some q3) := ⟨cc, _, rfl, by rw [hHq]; rfl, Go.Ab.flat_len encI 7 (fun _ => rfl) a⟩
      subst hx6
      replace hHq := Hd.mk hHq
      replace hsa := Hd.mk hsa
      repeat' (first
        | (simp (disch := first | omega | assumption) only [go_sem, ↓reduceIte, Nat.reduceEqDiff, reduceCtorEq, Nat.reduceAdd, Nat.reduceMul, Int.reduceToNat, Nat.reduceShiftRight, Nat.reduceAnd, Nat.reduceBNe, Nat.reduceBneDiff, Nat.reduceLT, Nat.reduceLeDiff, Int.reduceLT, Int.reduceLE, Int.reduceEq, Int.reduceAdd, Int.reduceSub, *])
        | (refine br_prop (fun hb => ?_) (fun hb => ?_) <;> try (exfalso; omega))
        | refine br_not ?_
        | (refine by_prop (fun hb => ?_) (fun hb => ?_) <;> try (exfalso; omega))
        | (refine by_prop' (fun hb => ?_) (fun hb => ?_) <;> try (exfalso; omega))
        | refine by_not ?_
        | refine w_drawn (by kernel_rfl) ?_
        | refine new_i' (by rfl) (fun j hj hn => ?_)
        | refine new_i (fun j hn => ?_)
        | refine br_bool (fun hb => ?_) (fun hb => ?_)
        | refine by_bool (fun hb => ?_) (fun hb => ?_)
        | refine by_bool' (fun hb => ?_) (fun hb => ?_))
      refine call_i (code11r _ _ a a (some q3) o1 _ hsa.go (h1.go.grew hg6.go) (by omega) _ ?_)
      rw [decide_eq_true rfl]
      repeat' (first
        | (simp (disch := first | omega | assumption) only [go_sem, ↓reduceIte, Nat.reduceEqDiff, reduceCtorEq, Nat.reduceAdd, Nat.reduceMul, Int.reduceToNat, Nat.reduceShiftRight, Nat.reduceAnd, Nat.reduceBNe, Nat.reduceBneDiff, Nat.reduceLT, Nat.reduceLeDiff, Int.reduceLT, Int.reduceLE, Int.reduceEq, Int.reduceAdd, Int.reduceSub, *])
        | (refine br_prop (fun hb => ?_) (fun hb => ?_) <;> try (exfalso; omega))
        | refine br_not ?_
        | (refine by_prop (fun hb => ?_) (fun hb => ?_) <;> try (exfalso; omega))
        | (refine by_prop' (fun hb => ?_) (fun hb => ?_) <;> try (exfalso; omega))
        | refine by_not ?_
        | refine w_drawn (by kernel_rfl) ?_
        | refine new_i' (by rfl) (fun j hj hn => ?_)
        | refine new_i (fun j hn => ?_)
        | refine br_bool (fun hb => ?_) (fun hb => ?_)
        | refine by_bool (fun hb => ?_) (fun hb => ?_)
        | refine by_bool' (fun hb => ?_) (fun hb => ?_))
      refine W.loopF 2993155350466096026664818644710982840174304659816464 (fun m e H' => Grew H6 H' ∧ ∃ i : Nat, e 14 = .int .i64 i ∧ i ≤ b.length ∧ m = b.length - i) b.length (by kernel_rfl) ?_ ?_
      · exact ⟨.refl _, 0, by simp (disch := first | omega | assumption) only [go_sem, ↓reduceIte, Nat.reduceEqDiff, reduceCtorEq, Nat.reduceAdd, Nat.reduceMul, Int.reduceToNat, Nat.reduceShiftRight, Nat.reduceAnd, Nat.reduceBNe, Nat.reduceBneDiff, Nat.reduceLT, Nat.reduceLeDiff, Int.reduceLT, Int.reduceLE, Int.reduceEq, Int.reduceAdd, Int.reduceSub, *]; try rfl, by omega, by omega⟩
      rintro m e7 H7 J7 hJ7 ⟨hg7, i, he14, hib, rfl⟩
      replace hg7 := Hd.mk hg7
      by_cases hi : i < b.length
      · obtain ⟨q2, rfl⟩ : ∃ q, o2 = some q := by
          cases o2 with
          | none => obtain ⟨_, _, h, _⟩ := h2.go; omega
          | some q => exact ⟨_, rfl⟩
        obtain ⟨c7, d7, e71, hH7, _⟩ := h2.go
        injection e71 with e1a e1b e1c
        subst e1a
        have hG7 := hg6.go.trans hg7.go
        have hqq : H7 q2 = H q2 := hG7 q2 (by intro h; rw [h] at hH7; cases hH7)
        have hr1 : readA (H7 q2) (i * 7) (some 7) = some (.agg #[.int .i64 (b.getD i Ins.zero).op, .int .i64 (b.getD i Ins.zero).a, .int .i64 (b.getD i Ins.zero).b, .int .i64 (b.getD i Ins.zero).c, .int .u64 (b.getD i Ins.zero).v, .int .i64 (b.getD i Ins.zero).m, .int .i64 (b.getD i Ins.zero).w]) := by
          rw [hqq, readA_of hH7, flat_read (enc := encI) (fun _ => rfl) Ins.zero hi]; rfl
        have hq3 : H7 q3 = H6 q3 := hg7.go q3 (by rw [hHq.go]; simp)
        have hr3 : readA (H7 q3) ((a.length + i) * 7) (some 7) = some (insV (shift a.length (b.getD i Ins.zero))) := by
          have h := flat_read (enc := encI) (es := 7) (xs := a ++ b.map (shift a.length)) (ds := dd) (k := a.length + i) (fun _ => rfl) Ins.zero (by simp; omega)
          rw [hq3, hHq.go, ← List.append_assoc, ← List.flatMap_append, h]
          have e : (a ++ b.map (shift a.length)).getD (a.length + i) Ins.zero = shift a.length (b.getD i Ins.zero) := by
            simp [List.getD_eq_getElem?_getD, hi]
          rw [e]; rfl
        have hvx := hb0.go (b.getD i Ins.zero) (by rw [List.getD_eq_getElem?_getD, List.getElem?_eq_getElem hi]; exact List.getElem_mem hi)
        obtain ⟨_, hfb, _⟩ := print_ok hb0.go hp2.go
        have hfx := (hfb (b.getD i Ins.zero) (by rw [List.getD_eq_getElem?_getD, List.getElem?_eq_getElem hi]; exact List.getElem_mem hi)).1
        have hxj := Hd.mk (fine_jump hfx)
        have n1 : (H7 q2).isNone = false := by
          cases hz : H7 q2 <;> first | rfl | (rw [hz] at hr1; cases hr1)
        have n3 : (H7 q3).isNone = false := by rw [hq3, hHq.go]; rfl
        generalize b.getD i Ins.zero = x at *
        clear hqq hH7 hfb hfx e1b e1c hq3 hG7
        have hff := fun g => fld47_6 (fields x.op).1 (fields x.op).2.1 (fields x.op).2.2.1 (fields x.op).2.2.2 (lessB x.op) (lessC x.op) g (decide (1 ≤ x.op ∧ x.op ≤ 58))
        replace hff := Hd.mk (hff (isJump x.op))
        repeat' (first
          | (simp (disch := first | omega | assumption) only [go_sem, ↓reduceIte, Nat.reduceEqDiff, reduceCtorEq, Nat.reduceAdd, Nat.reduceMul, Int.reduceToNat, Nat.reduceShiftRight, Nat.reduceAnd, Nat.reduceBNe, Nat.reduceBneDiff, Nat.reduceLT, Nat.reduceLeDiff, Int.reduceLT, Int.reduceLE, Int.reduceEq, Int.reduceAdd, Int.reduceSub, *])
          | (refine br_prop (fun hb => ?_) (fun hb => ?_) <;> try (exfalso; omega))
          | refine br_not ?_
          | (refine by_prop (fun hb => ?_) (fun hb => ?_) <;> try (exfalso; omega))
          | (refine by_prop' (fun hb => ?_) (fun hb => ?_) <;> try (exfalso; omega))
          | refine by_not ?_
          | refine w_drawn (by kernel_rfl) ?_
          | refine new_i' (by rfl) (fun j hj hn => ?_)
          | refine new_i (fun j hn => ?_)
          | refine br_bool (fun hb => ?_) (fun hb => ?_)
          | refine by_bool (fun hb => ?_) (fun hb => ?_)
          | refine by_bool' (fun hb => ?_) (fun hb => ?_))
        refine call_i (of16 x.op _ _ fun H8 hg8 => ?_)
        unfold shapeV
        cases hj : isJump x.op
        all_goals
          have hf := hff.go
          rw [hj] at hf
        case' true =>
          have hvlt := hxj.go hj
          have hr3' : readA (H7 q3) ((a.length + i) * 7) (some 7) = some (.agg #[.int .i64 x.op, .int .i64 x.a, .int .i64 x.b, .int .i64 x.c, .int .u64 (x.v + a.length), .int .i64 x.m, .int .i64 x.w]) := by
            rw [hr3]; unfold shift insV; rw [hj, Int.add_comm]; rfl
        case' false =>
          have hr3' : readA (H7 q3) ((a.length + i) * 7) (some 7) = some (.agg #[.int .i64 x.op, .int .i64 x.a, .int .i64 x.b, .int .i64 x.c, .int .u64 x.v, .int .i64 x.m, .int .i64 x.w]) := by
            rw [hr3]; unfold shift; rw [hj]; rfl
        all_goals
          have hjx : H8 j = .cells [.int .i64 x.op, .int .i64 x.a, .int .i64 x.b, .int .i64 x.c, .int .u64 x.v, .int .i64 x.m, .int .i64 x.w] := by rw [hg8 j (by rw [AHeap.set_same]; simp), AHeap.set_same]
          have hne : q3 ≠ j := fun e => by subst e; rw [hn] at n3; cases n3
          have h83 : H8 q3 = H7 q3 := by rw [hg8 q3 (by rw [AHeap.set_ne _ _ hne]; intro e; rw [e] at n3; cases n3), AHeap.set_ne _ _ hne]
          rw [← h83] at hr3' n3
          have hg9 := Hd.mk ((hg7.go.new _ hn).trans hg8)
          have hh7 := hg7.go.none hn
          have he := fun H => eq37_same H (.tmp 168) (.tmp 169)
          have hix : ((a.length : Int) + i).toNat = a.length + i := by omega
          clear hg8 hr3 hr1 n1 h83 hff hj
          repeat' (first
            | (simp (disch := first | omega | assumption) only [go_sem, ↓reduceIte, Nat.reduceEqDiff, reduceCtorEq, Nat.reduceAdd, Nat.reduceMul, Int.reduceToNat, Nat.reduceShiftRight, Nat.reduceAnd, Nat.reduceBNe, Nat.reduceBneDiff, Nat.reduceLT, Nat.reduceLeDiff, Int.reduceLT, Int.reduceLE, Int.reduceEq, Int.reduceAdd, Int.reduceSub, *])
            | (refine br_prop (fun hb => ?_) (fun hb => ?_) <;> try (exfalso; omega))
            | refine br_not ?_
            | (refine by_prop (fun hb => ?_) (fun hb => ?_) <;> try (exfalso; omega))
            | (refine by_prop' (fun hb => ?_) (fun hb => ?_) <;> try (exfalso; omega))
            | refine by_not ?_
            | refine w_drawn (by kernel_rfl) ?_
            | refine new_i' (by rfl) (fun j hj hn => ?_)
            | refine new_i (fun j hn => ?_)
            | refine br_bool (fun hb => ?_) (fun hb => ?_)
            | refine by_bool (fun hb => ?_) (fun hb => ?_)
            | refine by_bool' (fun hb => ?_) (fun hb => ?_))
          exact inv_i (hJ7.go _ _ ⟨_, by omega, by first | exact hg9.go | exact hg9.go.set _ hh7, i + 1, rfl, by omega, rfl⟩)
      · repeat' (first
          | (simp (disch := first | omega | assumption) only [go_sem, ↓reduceIte, Nat.reduceEqDiff, reduceCtorEq, Nat.reduceAdd, Nat.reduceMul, Int.reduceToNat, Nat.reduceShiftRight, Nat.reduceAnd, Nat.reduceBNe, Nat.reduceBneDiff, Nat.reduceLT, Nat.reduceLeDiff, Int.reduceLT, Int.reduceLE, Int.reduceEq, Int.reduceAdd, Int.reduceSub, *])
          | (refine br_prop (fun hb => ?_) (fun hb => ?_) <;> try (exfalso; omega))
          | refine br_not ?_
          | (refine by_prop (fun hb => ?_) (fun hb => ?_) <;> try (exfalso; omega))
          | (refine by_prop' (fun hb => ?_) (fun hb => ?_) <;> try (exfalso; omega))
          | refine by_not ?_
          | refine w_drawn (by kernel_rfl) ?_
          | refine new_i' (by rfl) (fun j hj hn => ?_)
          | refine new_i (fun j hn => ?_)
          | refine br_bool (fun hb => ?_) (fun hb => ?_)
          | refine by_bool (fun hb => ?_) (fun hb => ?_)
          | refine by_bool' (fun hb => ?_) (fun hb => ?_))
        refine call_i (awake9 _ _ fun H8 hg8 => ?_)
        repeat' (first
          | (simp (disch := first | omega | assumption) only [go_sem, ↓reduceIte, Nat.reduceEqDiff, reduceCtorEq, Nat.reduceAdd, Nat.reduceMul, Int.reduceToNat, Nat.reduceShiftRight, Nat.reduceAnd, Nat.reduceBNe, Nat.reduceBneDiff, Nat.reduceLT, Nat.reduceLeDiff, Int.reduceLT, Int.reduceLE, Int.reduceEq, Int.reduceAdd, Int.reduceSub, true_and])
          | (refine br_prop (fun hb => ?_) (fun hb => ?_) <;> try (exfalso; omega))
          | refine br_not ?_
          | (refine by_prop (fun hb => ?_) (fun hb => ?_) <;> try (exfalso; omega))
          | (refine by_prop' (fun hb => ?_) (fun hb => ?_) <;> try (exfalso; omega))
          | refine by_not ?_
          | refine w_drawn (by kernel_rfl) ?_
          | refine new_i' (by rfl) (fun j hj hn => ?_)
          | refine new_i (fun j hn => ?_)
          | refine br_bool (fun hb => ?_) (fun hb => ?_)
          | refine by_bool (fun hb => ?_) (fun hb => ?_)
          | refine by_bool' (fun hb => ?_) (fun hb => ?_))
        exact hk.go _ ((hg6.go.trans hg7.go).trans hg8)
    · exfalso
      rw [show (bA (s ++ U)).data.toList = s ++ U by simp [bA], hj1.go] at hq
      cases hq
end Go.Proofs
