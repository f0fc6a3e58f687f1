/-
  A part of the proofs: HL HM.
-/
import Derived.Test.YtnbfimppgcoajaaDoorDT
import Derived.Test.YtnbfimppgcoajaaDoorAbS
import Derived.Test.YtnbfimppgcoajaaDoorAbEq
import Derived.Test.YtnbfimppgcoajaaDoorPT
import Derived.Test.YtnbfimppgcoajaaDoorPA
import Derived.Test.YtnbfimppgcoajaaDoorPHA
import Derived.Test.YtnbfimppgcoajaaDoorPHC
import Derived.Test.YtnbfimppgcoajaaDoorHK
import Derived.Test.YtnbfimppgcoajaaDoorFK
import Derived.Test.YtnbfimppgcoajaaDoorEQ
namespace Go.Proofs
set_option linter.unusedSimpArgs false
set_option linter.unusedVariables false
set_option linter.unusedSectionVars false
open Go Go.Ab AsmM
variable [StartErr]
set_option maxRecDepth 100000
set_option maxHeartbeats 1000000
/-- A failure of the document's: one layer, one place, a kind. -/
def FailR (H : AHeap) (v : Value) (l : ByteArray) (n k : Int) : Prop := ∃ r i1 i2, v = .pointer (some ⟨r, 0, none⟩) ∧ H r = .cells [.slice (some ⟨i1, 0, none⟩) 1 1, .slice (some ⟨i2, 0, none⟩) 1 1, .int .i64 k] ∧ H i1 = .cells [.string l] ∧ H i2 = .cells [.int .i64 n]
theorem FailR.grew {H H' : AHeap} {v : Value} {l : ByteArray} {n k : Int} (h : FailR H v l n k) (hg : Grew H H') : FailR H' v l n k := by
  obtain ⟨r, i1, i2, h1, h2, h3, h4⟩ := h
  exact ⟨r, i1, i2, h1, by rw [hg r (by rw [h2]; simp)]; exact h2, by rw [hg i1 (by rw [h3]; simp)]; exact h3, by rw [hg i2 (by rw [h4]; simp)]; exact h4⟩
theorem no13q (l : ByteArray) (n k : Int) (H : AHeap) (K : Value → AHeap → Prop) (hk : ∀ H' v, Grew H H' → FailR H' v l n k → K v H') : ACalls Tryd.prog 13 #[.string l, .int .i64 n, .int .i64 k] H K := by
  refine no13 l n k H K fun i1 i2 r h12 h1r h2r hn1 hn2 hnr => hk _ _ ?_ ⟨r, i1, i2, rfl, AHeap.set_same _ _ _, ?_, ?_⟩
  · exact (((Grew.refl H).set _ hn1).set _ hn2).set _ hnr
  · rw [AHeap.set_ne _ _ h1r, AHeap.set_ne _ _ h12, AHeap.set_same]
  · rw [AHeap.set_ne _ _ h2r, AHeap.set_same]
theorem firstBad_step (l : List Ins) (n : Int) (i : Nat) (h : i < l.length) : firstBad n (l.drop i) i = if valid n (l.getD i Ins.zero) = true then firstBad n (l.drop (i + 1)) ((i + 1 : Nat) : Int) else some (i : Int) := by
  rw [List.drop_eq_getElem_cons h, firstBad, List.getD_eq_getElem?_getD, List.getElem?_eq_getElem h, Option.getD_some]
  rfl
theorem lineT_ins (x : Ins) : insText x = lineT x ++ [10] := rfl
theorem lineT_len {n : Int} {x : Ins} (hx : AsmM.Fine n x) (hv : x.v < 18446744073709551616) : (lineT x).length ≤ 300 := by
  have h1 := name_len hx.op1 hx.op2
  have h2 := marked_len hx
  have h3 := AsmM.flat_len 50 ((operands x.op).map (shown x)) (by
    intro w hw
    obtain ⟨k, _, rfl⟩ := List.mem_map.1 hw
    exact shown_len1 hx hv k)
  have h4 := (ops_facts hx.op1 hx.op2).2.1
  rw [List.length_map, List.flatMap_map] at h3
  unfold lineT
  rw [List.length_append, List.length_append]
  have := Nat.mul_le_mul_right 51 h4
  omega
theorem print18 (v : Value) (l : List Ins) (o : Option Nat) (H : AHeap) (hsl : SLr H 7 v l.length (l.flatMap encI) o) (hv : vOk l) (hlen : l.length ≤ 2513169434843) (K : Value → AHeap → Prop)
    (hok : ∀ H' s, print l = .ok s → Grew H H' → K (.tuple #[.string (bA s), .pointer none]) H')
    (herr : ∀ H' e n k, print l = .error ⟨n, none, k⟩ → FailR H' e asmB n k → Grew H H' → K (.tuple #[.string ByteArray.empty, e]) H') : ACalls Tryd.prog 18 #[v] H K := by
  replace hok := Hd.mk hok
  replace herr := Hd.mk herr
  replace hv := Hd.mk hv
  obtain ⟨a, c, rfl⟩ := hsl.val
  refine w_enter (args := [.slice a l.length c]) Tryd.func18 rfl (by kernel_rfl) D.mixed (by kernel_rfl) (rs := [.tmp 2, .tmp 3]) rfl ?_
  replace hsl := Hd.mk hsl
  repeat' (first
    | (simp (disch := first | omega | assumption) only [go_sem, ↓reduceIte, Nat.reduceEqDiff, reduceCtorEq, Nat.reduceAdd, Nat.reduceMul, Int.reduceToNat, Nat.reduceShiftRight, Nat.reduceAnd, Nat.reduceBNe, Nat.reduceBneDiff, Nat.reduceLT, Nat.reduceLeDiff, Int.reduceLT, Int.reduceLE, Int.reduceEq, Int.reduceAdd, Int.reduceSub, *])
    | (refine br_prop (fun hb => ?_) (fun hb => ?_) <;> try (exfalso; omega))
    | refine br_not ?_
    | (refine by_prop (fun hb => ?_) (fun hb => ?_) <;> try (exfalso; omega))
    | (refine by_prop' (fun hb => ?_) (fun hb => ?_) <;> try (exfalso; omega))
    | refine by_not ?_
    | refine w_drawn (by kernel_rfl) ?_
    | refine new_i' (by rfl) (fun j hj hn => ?_)
    | refine new_i (fun j hn => ?_)
    | refine br_bool (fun hb => ?_) (fun hb => ?_)
    | refine by_bool (fun hb => ?_) (fun hb => ?_)
    | refine by_bool' (fun hb => ?_) (fun hb => ?_))
  · refine call_i (no13q _ _ _ _ _ fun H' e hg he => ?_)
    repeat' (first
      | (simp (disch := first | omega | assumption) only [go_sem, ↓reduceIte, Nat.reduceEqDiff, reduceCtorEq, Nat.reduceAdd, Nat.reduceMul, Int.reduceToNat, Nat.reduceShiftRight, Nat.reduceAnd, Nat.reduceBNe, Nat.reduceBneDiff, Nat.reduceLT, Nat.reduceLeDiff, Int.reduceLT, Int.reduceLE, Int.reduceEq, Int.reduceAdd, Int.reduceSub, true_and])
      | (refine br_prop (fun hb => ?_) (fun hb => ?_) <;> try (exfalso; omega))
      | refine br_not ?_
      | (refine by_prop (fun hb => ?_) (fun hb => ?_) <;> try (exfalso; omega))
      | (refine by_prop' (fun hb => ?_) (fun hb => ?_) <;> try (exfalso; omega))
      | refine by_not ?_
      | refine w_drawn (by kernel_rfl) ?_
      | refine new_i' (by rfl) (fun j hj hn => ?_)
      | refine new_i (fun j hn => ?_)
      | refine br_bool (fun hb => ?_) (fun hb => ?_)
      | refine by_bool (fun hb => ?_) (fun hb => ?_)
      | refine by_bool' (fun hb => ?_) (fun hb => ?_))
    exact herr.go _ _ _ _ (by unfold print; rw [if_pos (by omega)]) he hg
  have hl2 : l.length ≤ 2048 := by omega
  have hmk := make_bool l.length (by omega)
  repeat' (first
    | (simp (disch := first | omega | assumption) only [go_sem, ↓reduceIte, Nat.reduceEqDiff, reduceCtorEq, Nat.reduceAdd, Nat.reduceMul, Int.reduceToNat, Nat.reduceShiftRight, Nat.reduceAnd, Nat.reduceBNe, Nat.reduceBneDiff, Nat.reduceLT, Nat.reduceLeDiff, Int.reduceLT, Int.reduceLE, Int.reduceEq, Int.reduceAdd, Int.reduceSub, *])
    | (refine br_prop (fun hb => ?_) (fun hb => ?_) <;> try (exfalso; omega))
    | refine br_not ?_
    | (refine by_prop (fun hb => ?_) (fun hb => ?_) <;> try (exfalso; omega))
    | (refine by_prop' (fun hb => ?_) (fun hb => ?_) <;> try (exfalso; omega))
    | refine by_not ?_
    | refine w_drawn (by kernel_rfl) ?_
    | refine new_i' (by rfl) (fun j hj hn => ?_)
    | refine new_i (fun j hn => ?_)
    | refine br_bool (fun hb => ?_) (fun hb => ?_)
    | refine by_bool (fun hb => ?_) (fun hb => ?_)
    | refine by_bool' (fun hb => ?_) (fun hb => ?_))
  revert j; intro jg hn
  have hG2 : Hd (Grew H (H.set jg (.cells (List.replicate l.length (.bool false))))) := ⟨(Grew.refl _).new _ hn⟩
  have hA2 : Hd ((H.set jg (.cells (List.replicate l.length (.bool false)))) jg = .cells (goalC l 0)) := ⟨by rw [AHeap.set_same, goalC_zero]⟩
  have hjH := Hd.mk hn
  clear hmk hn
  generalize H.set jg (.cells (List.replicate l.length (.bool false))) = H2 at *
  have hread : ∀ Hc, Grew H Hc → ∀ i, i < l.length → ∃ q c', o = some q ∧ a = some ⟨q, 0, none⟩ ∧ (Hc q).isNone = false ∧ readA (Hc q) (i * 7) (some 7) = some (.agg #[.int .i64 (l.getD i Ins.zero).op, .int .i64 (l.getD i Ins.zero).a, .int .i64 (l.getD i Ins.zero).b, .int .i64 (l.getD i Ins.zero).c, .int .u64 (l.getD i Ins.zero).v, .int .i64 (l.getD i Ins.zero).m, .int .i64 (l.getD i Ins.zero).w]) ∧ c' = c ∧ readA (Hc q) (i * 7) none = some (.int .i64 (l.getD i Ins.zero).op) ∧ readA (Hc q) (i * 7 + 4) none = some (.int .u64 (l.getD i Ins.zero).v) := by
    intro Hc hg i hi
    obtain ⟨q, rfl⟩ : ∃ q, o = some q := by
      cases o with
      | none => obtain ⟨_, _, h, _⟩ := hsl.go; omega
      | some q => exact ⟨_, rfl⟩
    obtain ⟨c', d, e1, hH, _⟩ := hsl.go
    injection e1 with e1a e1b e1c
    have hq : Hc q = H q := hg q (by intro h; rw [h] at hH; cases hH)
    have hr1 : readA (Hc q) (i * 7) (some 7) = some (.agg #[.int .i64 (l.getD i Ins.zero).op, .int .i64 (l.getD i Ins.zero).a, .int .i64 (l.getD i Ins.zero).b, .int .i64 (l.getD i Ins.zero).c, .int .u64 (l.getD i Ins.zero).v, .int .i64 (l.getD i Ins.zero).m, .int .i64 (l.getD i Ins.zero).w]) := by
      rw [hq, readA_of hH, flat_read (enc := encI) (fun _ => rfl) Ins.zero hi]; rfl
    have hr2 : readA (Hc q) (i * 7) none = some (.int .i64 (l.getD i Ins.zero).op) := by
      rw [hq, readA_of hH]; exact flat_cell (enc := encI) (es := 7) (ds := d) (j := 0) (fun _ => rfl) Ins.zero hi (by omega)
    have hr3 : readA (Hc q) (i * 7 + 4) none = some (.int .u64 (l.getD i Ins.zero).v) := by
      rw [hq, readA_of hH]; exact flat_cell (enc := encI) (es := 7) (ds := d) (j := 4) (fun _ => rfl) Ins.zero hi (by omega)
    refine ⟨q, c, rfl, e1a, ?_, hr1, rfl, hr2, hr3⟩
    cases hz : Hc q <;> first | rfl | (rw [hz] at hr1; cases hr1)
  replace hread := Hd.mk hread
  refine W.loopF 36028797018931244 (fun m e H' => Grew H H' ∧ ∃ i : Nat, e 5 = .int .i64 i ∧ i ≤ l.length ∧ m = l.length - i ∧ H' jg = .cells (goalC l i) ∧ firstBad l.length l 0 = firstBad l.length (l.drop i) i) l.length (by kernel_rfl) ?_ ?_
  · exact ⟨hG2.go, 0, by simp (disch := first | omega | assumption) only [go_sem, ↓reduceIte, Nat.reduceEqDiff, reduceCtorEq, Nat.reduceAdd, Nat.reduceMul, Int.reduceToNat, Nat.reduceShiftRight, Nat.reduceAnd, Nat.reduceBNe, Nat.reduceBneDiff, Nat.reduceLT, Nat.reduceLeDiff, Int.reduceLT, Int.reduceLE, Int.reduceEq, Int.reduceAdd, Int.reduceSub, *]; try rfl, by omega, by omega, hA2.go, rfl⟩
  rintro m e1 Hc J hJ ⟨hg, i, he, hil, rfl, hc1, hfb⟩
  replace hg := Hd.mk hg
  replace hfb := Hd.mk hfb
  by_cases hi : i < l.length
  · obtain ⟨q, _, _, ha, n1, hr1, _, hr2, hr3⟩ := hread.go Hc hg.go i hi
    subst ha
    have n2 : (Hc jg).isNone = false := by rw [hc1]; rfl
    have hstep := Hd.mk (firstBad_step l l.length i hi)
    have hxv := hv.go (l.getD i Ins.zero) (by rw [List.getD_eq_getElem?_getD, List.getElem?_eq_getElem hi]; exact List.getElem_mem hi)
    have hskip := Hd.mk (goalC_skip l i hi)
    have hset := Hd.mk (goalC_set l i hi)
    generalize l.getD i Ins.zero = x at *
    replace hxv := Hd.mk hxv
    have hrv := Hd.mk (right_valid x l.length)
    have tr : ∀ H', Grew Hc H' → H' jg = .cells (goalC l i) ∧ readA (H' q) (i * 7) (some 7) = some (.agg #[.int .i64 x.op, .int .i64 x.a, .int .i64 x.b, .int .i64 x.c, .int .u64 x.v, .int .i64 x.m, .int .i64 x.w]) ∧ (H' q).isNone = false ∧ (H' jg).isNone = false ∧ Grew H H' ∧ readA (H' q) (i * 7) none = some (.int .i64 x.op) ∧ readA (H' q) (i * 7 + 4) none = some (.int .u64 x.v) := fun H' g => by
      have e1 : H' jg = .cells (goalC l i) := by rw [g jg (by rw [hc1]; simp), hc1]
      have e2 : H' q = Hc q := g q (by intro e; rw [e] at n1; cases n1)
      exact ⟨e1, by rw [e2]; exact hr1, by rw [e2]; exact n1, by rw [e1]; rfl, hg.go.trans g, by rw [e2]; exact hr2, by rw [e2]; exact hr3⟩
    replace tr := Hd.mk tr
    repeat' (first
      | (simp (disch := first | omega | assumption) only [go_sem, ↓reduceIte, Nat.reduceEqDiff, reduceCtorEq, Nat.reduceAdd, Nat.reduceMul, Int.reduceToNat, Nat.reduceShiftRight, Nat.reduceAnd, Nat.reduceBNe, Nat.reduceBneDiff, Nat.reduceLT, Nat.reduceLeDiff, Int.reduceLT, Int.reduceLE, Int.reduceEq, Int.reduceAdd, Int.reduceSub, *])
      | (refine br_prop (fun hb => ?_) (fun hb => ?_) <;> try (exfalso; omega))
      | refine br_not ?_
      | (refine by_prop (fun hb => ?_) (fun hb => ?_) <;> try (exfalso; omega))
      | (refine by_prop' (fun hb => ?_) (fun hb => ?_) <;> try (exfalso; omega))
      | refine by_not ?_
      | refine w_drawn (by kernel_rfl) ?_
      | refine new_i' (by rfl) (fun j hj hn => ?_)
      | refine new_i (fun j hn => ?_)
      | refine br_bool (fun hb => ?_) (fun hb => ?_)
      | refine by_bool (fun hb => ?_) (fun hb => ?_)
      | refine by_bool' (fun hb => ?_) (fun hb => ?_))
    refine call_i (right30 x l.length true hxv.go ⟨by omega, by omega⟩ _ _ fun H3 hg3 => ?_)
    obtain ⟨hc1, hr1, n1, n2, hgH, hr2, hr3⟩ := tr.go H3 hg3
    replace hgH := Hd.mk hgH
    replace hg3 := Hd.mk hg3
    cases hq1 : rightM x l.length true
    case' false =>
      repeat' (first
        | (simp (disch := first | omega | assumption) only [go_sem, ↓reduceIte, Nat.reduceEqDiff, reduceCtorEq, Nat.reduceAdd, Nat.reduceMul, Int.reduceToNat, Nat.reduceShiftRight, Nat.reduceAnd, Nat.reduceBNe, Nat.reduceBneDiff, Nat.reduceLT, Nat.reduceLeDiff, Int.reduceLT, Int.reduceLE, Int.reduceEq, Int.reduceAdd, Int.reduceSub, *])
        | (refine br_prop (fun hb => ?_) (fun hb => ?_) <;> try (exfalso; omega))
        | refine br_not ?_
        | (refine by_prop (fun hb => ?_) (fun hb => ?_) <;> try (exfalso; omega))
        | (refine by_prop' (fun hb => ?_) (fun hb => ?_) <;> try (exfalso; omega))
        | refine by_not ?_
        | refine w_drawn (by kernel_rfl) ?_
        | refine new_i' (by rfl) (fun j hj hn => ?_)
        | refine new_i (fun j hn => ?_)
        | refine br_bool (fun hb => ?_) (fun hb => ?_)
        | refine by_bool (fun hb => ?_) (fun hb => ?_)
        | refine by_bool' (fun hb => ?_) (fun hb => ?_))
      refine call_i (right30 x l.length false hxv.go ⟨by omega, by omega⟩ _ _ fun H4 hg4 => ?_)
      replace hg3 := Hd.mk (hg3.go.trans hg4)
      clear hg4
      obtain ⟨hc1, hr1, n1, n2, hgH, hr2, hr3⟩ := tr.go H4 hg3.go
      replace hgH := Hd.mk hgH
      cases hq2 : rightM x l.length false
      case' false =>
        have hval : ¬ valid l.length x = true := fun e => by
          rcases hrv.go.2 e with h | h
          · rw [hq1] at h; cases h
          · rw [hq2] at h; cases h
        have hfb2 := hfb.go
        rw [hstep.go, if_neg hval] at hfb2
        replace hfb2 := Hd.mk hfb2
        clear hval
        repeat' (first
          | (simp (disch := first | omega | assumption) only [go_sem, ↓reduceIte, Nat.reduceEqDiff, reduceCtorEq, Nat.reduceAdd, Nat.reduceMul, Int.reduceToNat, Nat.reduceShiftRight, Nat.reduceAnd, Nat.reduceBNe, Nat.reduceBneDiff, Nat.reduceLT, Nat.reduceLeDiff, Int.reduceLT, Int.reduceLE, Int.reduceEq, Int.reduceAdd, Int.reduceSub, *])
          | (refine br_prop (fun hb => ?_) (fun hb => ?_) <;> try (exfalso; omega))
          | refine br_not ?_
          | (refine by_prop (fun hb => ?_) (fun hb => ?_) <;> try (exfalso; omega))
          | (refine by_prop' (fun hb => ?_) (fun hb => ?_) <;> try (exfalso; omega))
          | refine by_not ?_
          | refine w_drawn (by kernel_rfl) ?_
          | refine new_i' (by rfl) (fun j hj hn => ?_)
          | refine new_i (fun j hn => ?_)
          | refine br_bool (fun hb => ?_) (fun hb => ?_)
          | refine by_bool (fun hb => ?_) (fun hb => ?_)
          | refine by_bool' (fun hb => ?_) (fun hb => ?_))
        refine call_i (no13q _ _ _ _ _ fun H5 e hg5 he5 => ?_)
        repeat' (first
          | (simp (disch := first | omega | assumption) only [go_sem, ↓reduceIte, Nat.reduceEqDiff, reduceCtorEq, Nat.reduceAdd, Nat.reduceMul, Int.reduceToNat, Nat.reduceShiftRight, Nat.reduceAnd, Nat.reduceBNe, Nat.reduceBneDiff, Nat.reduceLT, Nat.reduceLeDiff, Int.reduceLT, Int.reduceLE, Int.reduceEq, Int.reduceAdd, Int.reduceSub, true_and])
          | (refine br_prop (fun hb => ?_) (fun hb => ?_) <;> try (exfalso; omega))
          | refine br_not ?_
          | (refine by_prop (fun hb => ?_) (fun hb => ?_) <;> try (exfalso; omega))
          | (refine by_prop' (fun hb => ?_) (fun hb => ?_) <;> try (exfalso; omega))
          | refine by_not ?_
          | refine w_drawn (by kernel_rfl) ?_
          | refine new_i' (by rfl) (fun j hj hn => ?_)
          | refine new_i (fun j hn => ?_)
          | refine br_bool (fun hb => ?_) (fun hb => ?_)
          | refine by_bool (fun hb => ?_) (fun hb => ?_)
          | refine by_bool' (fun hb => ?_) (fun hb => ?_))
        exact herr.go _ _ _ _ (by unfold print; rw [if_neg (by omega), hfb2.go]) he5 (hgH.go.trans hg5)
    case' true =>
      obtain ⟨H4, rfl⟩ : ∃ q, q = H3 := ⟨_, rfl⟩
    all_goals
      have hval : valid l.length x = true := hrv.go.1 (by first | exact .inl hq1 | exact .inr hq2)
      have hfb2 := hfb.go
      rw [hstep.go, if_pos hval] at hfb2
      replace hfb2 := Hd.mk hfb2
      have hxf := Hd.mk (fine_of_valid hval)
      clear hrv hval
      obtain ⟨vn, hvn⟩ : ∃ vn : Nat, x.v = vn := ⟨x.v.toNat, by have := hxv.go.1; omega⟩
      have hff := fun g => fld47_6 (fields x.op).1 (fields x.op).2.1 (fields x.op).2.2.1 (fields x.op).2.2.2 (lessB x.op) (lessC x.op) g (decide (1 ≤ x.op ∧ x.op ≤ 58))
      replace hff := Hd.mk (hff (isJump x.op))
      have hxj : isJump x.op = true → x.v < l.length := fine_jump hxf.go
      have hwr : isJump x.op = true → writeA (.cells (goalC l i)) vn [.bool true] = some (.cells (goalC l (i + 1))) := fun hj => by
        have := hxj hj
        rw [write_one (by rw [goalC_len]; omega) rfl, hset.go hj vn hvn (by omega)]
      have hxl : isJump x.op = true → vn < l.length := fun hj => by have := hxj hj; omega
      replace hxj := Hd.mk hxj
      replace hwr := Hd.mk hwr
      replace hxl := Hd.mk hxl
      repeat' (first
        | (simp (disch := first | omega | assumption) only [go_sem, ↓reduceIte, Nat.reduceEqDiff, reduceCtorEq, Nat.reduceAdd, Nat.reduceMul, Int.reduceToNat, Nat.reduceShiftRight, Nat.reduceAnd, Nat.reduceBNe, Nat.reduceBneDiff, Nat.reduceLT, Nat.reduceLeDiff, Int.reduceLT, Int.reduceLE, Int.reduceEq, Int.reduceAdd, Int.reduceSub, *])
        | (refine br_prop (fun hb => ?_) (fun hb => ?_) <;> try (exfalso; omega))
        | refine br_not ?_
        | (refine by_prop (fun hb => ?_) (fun hb => ?_) <;> try (exfalso; omega))
        | (refine by_prop' (fun hb => ?_) (fun hb => ?_) <;> try (exfalso; omega))
        | refine by_not ?_
        | refine w_drawn (by kernel_rfl) ?_
        | refine new_i' (by rfl) (fun j hj hn => ?_)
        | refine new_i (fun j hn => ?_)
        | refine br_bool (fun hb => ?_) (fun hb => ?_)
        | refine by_bool (fun hb => ?_) (fun hb => ?_)
        | refine by_bool' (fun hb => ?_) (fun hb => ?_))
      refine call_i (of16 x.op _ _ fun H6 hg6 => ?_)
      unfold shapeV
      obtain ⟨hc1, hr1, n1, n2, hgH, hr2, hr3⟩ := tr.go H6 (hg3.go.trans hg6)
      replace hgH := Hd.mk hgH
      clear hg6
      cases hj : isJump x.op
      all_goals
        have hf := hff.go
        rw [hj] at hf
      case' true =>
        have hw := hwr.go hj
        have hlt := hxl.go hj
      case' false =>
        have hs := Hd.mk (hskip.go hj)
      all_goals clear hff hj
      all_goals
        repeat' (first
          | (simp (disch := first | omega | assumption) only [go_sem, ↓reduceIte, Nat.reduceEqDiff, reduceCtorEq, Nat.reduceAdd, Nat.reduceMul, Int.reduceToNat, Nat.reduceShiftRight, Nat.reduceAnd, Nat.reduceBNe, Nat.reduceBneDiff, Nat.reduceLT, Nat.reduceLeDiff, Int.reduceLT, Int.reduceLE, Int.reduceEq, Int.reduceAdd, Int.reduceSub, *])
          | (refine br_prop (fun hb => ?_) (fun hb => ?_) <;> try (exfalso; omega))
          | refine br_not ?_
          | (refine by_prop (fun hb => ?_) (fun hb => ?_) <;> try (exfalso; omega))
          | (refine by_prop' (fun hb => ?_) (fun hb => ?_) <;> try (exfalso; omega))
          | refine by_not ?_
          | refine w_drawn (by kernel_rfl) ?_
          | refine new_i' (by rfl) (fun j hj hn => ?_)
          | refine new_i (fun j hn => ?_)
          | refine br_bool (fun hb => ?_) (fun hb => ?_)
          | refine by_bool (fun hb => ?_) (fun hb => ?_)
          | refine by_bool' (fun hb => ?_) (fun hb => ?_))
      all_goals
        refine inv_i (hJ.go _ _ ⟨_, by omega, by first | exact hgH.go | exact hgH.go.set _ hjH.go, i + 1, rfl, by omega, rfl, by first | exact AHeap.set_same _ _ _ | (rw [hc1, hs.go]), hfb2.go⟩)
  · obtain rfl : i = l.length := by omega
    have hfn : firstBad l.length l 0 = none := by
      have h := hfb.go
      rw [List.drop_eq_nil_of_le (Nat.le_refl _)] at h
      exact h
    have hprint : Hd (print l = .ok (codeText l 0 l)) := ⟨by unfold print; rw [if_neg (by omega), hfn]⟩
    have hfine : Hd (AllFine l.length l) := ⟨fun x hx => ⟨fine_of_valid (firstBad_none hfn x hx), hv.go x hx⟩⟩
    replace hc1 := Hd.mk hc1
    clear hjH hA2 hG2 hJ hfn hfb herr
    repeat' (first
      | (simp (disch := first | omega | assumption) only [go_sem, ↓reduceIte, Nat.reduceEqDiff, reduceCtorEq, Nat.reduceAdd, Nat.reduceMul, Int.reduceToNat, Nat.reduceShiftRight, Nat.reduceAnd, Nat.reduceBNe, Nat.reduceBneDiff, Nat.reduceLT, Nat.reduceLeDiff, Int.reduceLT, Int.reduceLE, Int.reduceEq, Int.reduceAdd, Int.reduceSub, *])
      | (refine br_prop (fun hb => ?_) (fun hb => ?_) <;> try (exfalso; omega))
      | refine br_not ?_
      | (refine by_prop (fun hb => ?_) (fun hb => ?_) <;> try (exfalso; omega))
      | (refine by_prop' (fun hb => ?_) (fun hb => ?_) <;> try (exfalso; omega))
      | refine by_not ?_
      | refine w_drawn (by kernel_rfl) ?_
      | refine new_i' (by rfl) (fun j hj hn => ?_)
      | refine new_i (fun j hn => ?_)
      | refine br_bool (fun hb => ?_) (fun hb => ?_)
      | refine by_bool (fun hb => ?_) (fun hb => ?_)
      | refine by_bool' (fun hb => ?_) (fun hb => ?_))
    refine W.loopF 1208925783585832155742400 (fun m e H' => Grew Hc H' ∧ ∃ (i : Nat) (bs : Bytes), e 7 = .int .i64 i ∧ i ≤ l.length ∧ m = l.length - i ∧ e 6 = .string (bA bs) ∧ bs.length ≤ i * 400 ∧ codeText l 0 l = bs ++ codeText l i (l.drop i)) l.length (by kernel_rfl) ?_ ?_
    · exact ⟨.refl _, 0, [], by simp (disch := first | omega | assumption) only [go_sem, ↓reduceIte, Nat.reduceEqDiff, reduceCtorEq, Nat.reduceAdd, Nat.reduceMul, Int.reduceToNat, Nat.reduceShiftRight, Nat.reduceAnd, Nat.reduceBNe, Nat.reduceBneDiff, Nat.reduceLT, Nat.reduceLeDiff, Int.reduceLT, Int.reduceLE, Int.reduceEq, Int.reduceAdd, Int.reduceSub, *]; try rfl, by omega, by omega, by simp (disch := first | omega | assumption) only [go_sem, ↓reduceIte, Nat.reduceEqDiff, reduceCtorEq, Nat.reduceAdd, Nat.reduceMul, Int.reduceToNat, Nat.reduceShiftRight, Nat.reduceAnd, Nat.reduceBNe, Nat.reduceBneDiff, Nat.reduceLT, Nat.reduceLeDiff, Int.reduceLT, Int.reduceLE, Int.reduceEq, Int.reduceAdd, Int.reduceSub, *]; try rfl, by simp, by simp⟩
    rintro m e2 H3 J hJ ⟨hg3, i, bs, he7, hil, rfl, he6, hbl, htx⟩
    replace htx := Hd.mk htx
    have hjg := hc1.go
    rw [← hg3 jg (by rw [hjg]; simp)] at hjg
    by_cases hi : i < l.length
    · obtain ⟨q, _, _, ha, n1, hr1, _, _, _⟩ := hread.go H3 (hg.go.trans hg3) i hi
      subst ha
      have hgr : readA (H3 jg) i none = some (.bool (goal l i)) := by rw [hjg]; exact goalC_get l i hi
      have n2 : (H3 jg).isNone = false := by rw [hjg]; rfl
      obtain ⟨hxf, hxv⟩ := hfine.go (l.getD i Ins.zero) (by rw [List.getD_eq_getElem?_getD, List.getElem?_eq_getElem hi]; exact List.getElem_mem hi)
      have hcd := Hd.mk (codeText_drop l i hi)
      generalize l.getD i Ins.zero = x at *
      have hll := lineT_len hxf hxv.2
      replace hxf := Hd.mk hxf
      replace hxv := Hd.mk hxv
      replace hg3 := Hd.mk hg3
      replace hjg := Hd.mk hjg
      have hc10 := cat (lineT x) [10] (by simp only [List.length_cons, List.length_nil]; omega)
      have hc10' : binS .add (bA (lineT x)) (ByteArray.mk #[10]) = some (.string (bA (lineT x ++ [10]))) := hc10
      clear hc10
      cases hgl : goal l i
      all_goals
        rw [hgl] at hgr hcd
        clear hgl
      case' true =>
        have hsl6 : (dec i).length ≤ 20 := dec_len20 i (by omega)
        have hd1 : binS .add (ByteArray.mk #[112]) (bA (dec i)) = some (.string (bA ([112] ++ dec i))) := cat [112] (dec i) (by simp only [List.length_cons, List.length_nil]; omega)
        have hd2 : binS .add (bA ([112] ++ dec i)) (ByteArray.mk #[58, 10]) = some (.string (bA ([112] ++ dec i ++ [58, 10]))) := cat ([112] ++ dec i) [58, 10] (by simp only [List.length_append, List.length_cons, List.length_nil]; omega)
        have hd3 := cat bs ([112] ++ dec i ++ [58, 10]) (by simp only [List.length_append, List.length_cons, List.length_nil]; omega)
        have hbl4 : (bs ++ ([112] ++ dec i ++ [58, 10])).length ≤ i * 400 + 30 := by simp only [List.length_append, List.length_cons, List.length_nil]; omega
        have htx4 : Hd (codeText l 0 l = (bs ++ ([112] ++ dec i ++ [58, 10])) ++ (lineT x ++ [10] ++ codeText l ((i + 1 : Nat) : Int) (l.drop (i + 1)))) := ⟨by rw [htx.go, hcd.go, lineT_ins]; simp [spell, decI]⟩
        have hd4 := cat (bs ++ ([112] ++ dec i ++ [58, 10])) (lineT x ++ [10]) (by simp only [List.length_append, List.length_cons, List.length_nil] at hbl4 ⊢; omega)
        clear htx hcd
        repeat' (first
          | (simp (disch := first | omega | assumption) only [go_sem, ↓reduceIte, Nat.reduceEqDiff, reduceCtorEq, Nat.reduceAdd, Nat.reduceMul, Int.reduceToNat, Nat.reduceShiftRight, Nat.reduceAnd, Nat.reduceBNe, Nat.reduceBneDiff, Nat.reduceLT, Nat.reduceLeDiff, Int.reduceLT, Int.reduceLE, Int.reduceEq, Int.reduceAdd, Int.reduceSub, *])
          | (refine br_prop (fun hb => ?_) (fun hb => ?_) <;> try (exfalso; omega))
          | refine br_not ?_
          | (refine by_prop (fun hb => ?_) (fun hb => ?_) <;> try (exfalso; omega))
          | (refine by_prop' (fun hb => ?_) (fun hb => ?_) <;> try (exfalso; omega))
          | refine by_not ?_
          | refine w_drawn (by kernel_rfl) ?_
          | refine new_i' (by rfl) (fun j hj hn => ?_)
          | refine new_i (fun j hn => ?_)
          | refine br_bool (fun hb => ?_) (fun hb => ?_)
          | refine by_bool (fun hb => ?_) (fun hb => ?_)
          | refine by_bool' (fun hb => ?_) (fun hb => ?_))
        refine call_i (ref31 i (by omega) _ _ ?_)
        repeat' (first
          | (simp (disch := first | omega | assumption) only [go_sem, ↓reduceIte, Nat.reduceEqDiff, reduceCtorEq, Nat.reduceAdd, Nat.reduceMul, Int.reduceToNat, Nat.reduceShiftRight, Nat.reduceAnd, Nat.reduceBNe, Nat.reduceBneDiff, Nat.reduceLT, Nat.reduceLeDiff, Int.reduceLT, Int.reduceLE, Int.reduceEq, Int.reduceAdd, Int.reduceSub, *])
          | (refine br_prop (fun hb => ?_) (fun hb => ?_) <;> try (exfalso; omega))
          | refine br_not ?_
          | (refine by_prop (fun hb => ?_) (fun hb => ?_) <;> try (exfalso; omega))
          | (refine by_prop' (fun hb => ?_) (fun hb => ?_) <;> try (exfalso; omega))
          | refine by_not ?_
          | refine w_drawn (by kernel_rfl) ?_
          | refine new_i' (by rfl) (fun j hj hn => ?_)
          | refine new_i (fun j hn => ?_)
          | refine br_bool (fun hb => ?_) (fun hb => ?_)
          | refine by_bool (fun hb => ?_) (fun hb => ?_)
          | refine by_bool' (fun hb => ?_) (fun hb => ?_))
      case' false =>
        have hbl4 : bs.length ≤ i * 400 + 30 := by omega
        have htx4 : Hd (codeText l 0 l = bs ++ (lineT x ++ [10] ++ codeText l ((i + 1 : Nat) : Int) (l.drop (i + 1)))) := ⟨by rw [htx.go, hcd.go, lineT_ins]; simp⟩
        have hd4 := cat bs (lineT x ++ [10]) (by simp only [List.length_append, List.length_cons, List.length_nil] at hbl4 ⊢; omega)
        clear htx hcd
        repeat' (first
          | (simp (disch := first | omega | assumption) only [go_sem, ↓reduceIte, Nat.reduceEqDiff, reduceCtorEq, Nat.reduceAdd, Nat.reduceMul, Int.reduceToNat, Nat.reduceShiftRight, Nat.reduceAnd, Nat.reduceBNe, Nat.reduceBneDiff, Nat.reduceLT, Nat.reduceLeDiff, Int.reduceLT, Int.reduceLE, Int.reduceEq, Int.reduceAdd, Int.reduceSub, *])
          | (refine br_prop (fun hb => ?_) (fun hb => ?_) <;> try (exfalso; omega))
          | refine br_not ?_
          | (refine by_prop (fun hb => ?_) (fun hb => ?_) <;> try (exfalso; omega))
          | (refine by_prop' (fun hb => ?_) (fun hb => ?_) <;> try (exfalso; omega))
          | refine by_not ?_
          | refine w_drawn (by kernel_rfl) ?_
          | refine new_i' (by rfl) (fun j hj hn => ?_)
          | refine new_i (fun j hn => ?_)
          | refine br_bool (fun hb => ?_) (fun hb => ?_)
          | refine by_bool (fun hb => ?_) (fun hb => ?_)
          | refine by_bool' (fun hb => ?_) (fun hb => ?_))
      all_goals
        refine call_i (line32 x l.length hxf.go hxv.go _ _ fun H5 hg5 => ?_)
        replace hg5 := Hd.mk (hg3.go.trans hg5)
        repeat' (first
          | (simp (disch := first | omega | assumption) only [go_sem, ↓reduceIte, Nat.reduceEqDiff, reduceCtorEq, Nat.reduceAdd, Nat.reduceMul, Int.reduceToNat, Nat.reduceShiftRight, Nat.reduceAnd, Nat.reduceBNe, Nat.reduceBneDiff, Nat.reduceLT, Nat.reduceLeDiff, Int.reduceLT, Int.reduceLE, Int.reduceEq, Int.reduceAdd, Int.reduceSub, *])
          | (refine br_prop (fun hb => ?_) (fun hb => ?_) <;> try (exfalso; omega))
          | refine br_not ?_
          | (refine by_prop (fun hb => ?_) (fun hb => ?_) <;> try (exfalso; omega))
          | (refine by_prop' (fun hb => ?_) (fun hb => ?_) <;> try (exfalso; omega))
          | refine by_not ?_
          | refine w_drawn (by kernel_rfl) ?_
          | refine new_i' (by rfl) (fun j hj hn => ?_)
          | refine new_i (fun j hn => ?_)
          | refine br_bool (fun hb => ?_) (fun hb => ?_)
          | refine by_bool (fun hb => ?_) (fun hb => ?_)
          | refine by_bool' (fun hb => ?_) (fun hb => ?_))
        refine inv_i (hJ.go _ _ ⟨_, by omega, hg5.go, i + 1, _, rfl, by omega, rfl, rfl, ?_, by rw [htx4.go]; simp only [List.append_assoc]⟩)
        simp only [List.length_append, List.length_cons, List.length_nil] at hbl4 ⊢
        omega
    · obtain rfl : i = l.length := by omega
      rw [List.drop_eq_nil_of_le (Nat.le_refl _)] at htx
      have e9 : codeText l 0 l = bs := by have h := htx.go; rw [show codeText l (l.length : Int) [] = [] from rfl, List.append_nil] at h; exact h
      have hfin := hok.go _ _ hprint.go (hg.go.trans hg3)
      rw [e9] at hfin
      replace hfin := Hd.mk hfin
      clear htx e9 hprint
      repeat' (first
        | (simp (disch := first | omega | assumption) only [go_sem, ↓reduceIte, Nat.reduceEqDiff, reduceCtorEq, Nat.reduceAdd, Nat.reduceMul, Int.reduceToNat, Nat.reduceShiftRight, Nat.reduceAnd, Nat.reduceBNe, Nat.reduceBneDiff, Nat.reduceLT, Nat.reduceLeDiff, Int.reduceLT, Int.reduceLE, Int.reduceEq, Int.reduceAdd, Int.reduceSub, *])
        | (refine br_prop (fun hb => ?_) (fun hb => ?_) <;> try (exfalso; omega))
        | refine br_not ?_
        | (refine by_prop (fun hb => ?_) (fun hb => ?_) <;> try (exfalso; omega))
        | (refine by_prop' (fun hb => ?_) (fun hb => ?_) <;> try (exfalso; omega))
        | refine by_not ?_
        | refine w_drawn (by kernel_rfl) ?_
        | refine new_i' (by rfl) (fun j hj hn => ?_)
        | refine new_i (fun j hn => ?_)
        | refine br_bool (fun hb => ?_) (fun hb => ?_)
        | refine by_bool (fun hb => ?_) (fun hb => ?_)
        | refine by_bool' (fun hb => ?_) (fun hb => ?_))
      exact hfin.go
end Go.Proofs
namespace Go.Proofs
set_option linter.unusedSimpArgs false
set_option linter.unusedVariables false
set_option linter.unusedSectionVars false
open Go Go.Ab AsmM
variable [StartErr]
set_option maxRecDepth 100000
set_option maxHeartbeats 1000000
theorem same_nil (H : AHeap) (K : Value → AHeap → Prop) (hk : K (.bool true) H) : ACalls Tryd.prog 12 #[.nilIface, .pointer none] H K := by
  replace hk := Hd.mk hk
  refine w_enter (args := [.nilIface, .pointer none]) Tryd.func12 rfl (by kernel_rfl) D.mixed (by kernel_rfl) (rs := [.tmp 4]) rfl ?_
  repeat' (first
    | (simp (disch := first | omega | assumption) only [go_sem, ↓reduceIte, Nat.reduceEqDiff, reduceCtorEq, Nat.reduceAdd, Nat.reduceMul, Int.reduceToNat, Nat.reduceShiftRight, Nat.reduceAnd, Nat.reduceBNe, Nat.reduceBneDiff, Nat.reduceLT, Nat.reduceLeDiff, Int.reduceLT, Int.reduceLE, Int.reduceEq, Int.reduceAdd, Int.reduceSub, *])
    | (refine br_prop (fun hb => ?_) (fun hb => ?_) <;> try (exfalso; omega))
    | refine br_not ?_
    | (refine by_prop (fun hb => ?_) (fun hb => ?_) <;> try (exfalso; omega))
    | (refine by_prop' (fun hb => ?_) (fun hb => ?_) <;> try (exfalso; omega))
    | refine by_not ?_
    | refine new_i' (by rfl) (fun j hj hn => ?_)
    | refine new_i (fun j hn => ?_)
    | refine br_bool (fun hb => ?_) (fun hb => ?_)
    | refine by_bool (fun hb => ?_) (fun hb => ?_)
    | refine by_bool' (fun hb => ?_) (fun hb => ?_))
  exact hk.go
theorem print_err {l : List Ins} {er : Er} (h : print l = .error er) : ∃ n k, er = ⟨n, none, k⟩ ∧ (k = 3 ∨ k = 5) := by
  unfold print at h
  split at h
  · cases h; exact ⟨_, _, rfl, .inl rfl⟩
  · split at h
    · cases h; exact ⟨_, _, rfl, .inr rfl⟩
    · cases h
theorem prints7 (v : Value) (l : List Ins) (o : Option Nat) (H : AHeap) (hsl : SLr H 7 v l.length (l.flatMap encI) o) (hv : vOk l) (hlen : l.length ≤ 2513169434843) (K : Value → AHeap → Prop)
    (hk : ∀ H', Grew H H' → K (.bool true) H') : ACalls Tryd.prog 7 #[v] H K := by
  replace hk := Hd.mk hk
  obtain ⟨a, c, rfl⟩ := hsl.val
  refine w_enter (args := [.slice a l.length c]) Tryd.func7 rfl (by kernel_rfl) D.mixed (by kernel_rfl) (rs := [.tmp 2]) rfl ?_
  replace hsl := Hd.mk hsl
  replace hv := Hd.mk hv
  repeat' (first
    | (simp (disch := first | omega | assumption) only [go_sem, ↓reduceIte, Nat.reduceEqDiff, reduceCtorEq, Nat.reduceAdd, Nat.reduceMul, Int.reduceToNat, Nat.reduceShiftRight, Nat.reduceAnd, Nat.reduceBNe, Nat.reduceBneDiff, Nat.reduceLT, Nat.reduceLeDiff, Int.reduceLT, Int.reduceLE, Int.reduceEq, Int.reduceAdd, Int.reduceSub, *])
    | (refine br_prop (fun hb => ?_) (fun hb => ?_) <;> try (exfalso; omega))
    | refine br_not ?_
    | (refine by_prop (fun hb => ?_) (fun hb => ?_) <;> try (exfalso; omega))
    | (refine by_prop' (fun hb => ?_) (fun hb => ?_) <;> try (exfalso; omega))
    | refine by_not ?_
    | refine w_drawn (by kernel_rfl) ?_
    | refine new_i' (by rfl) (fun j hj hn => ?_)
    | refine new_i (fun j hn => ?_)
    | refine br_bool (fun hb => ?_) (fun hb => ?_)
    | refine by_bool (fun hb => ?_) (fun hb => ?_)
    | refine by_bool' (fun hb => ?_) (fun hb => ?_))
  refine call_i (copy15 _ l o _ hsl.go hlen _ fun v1 H1 o1 hg1 hs1 _ => ?_)
  replace hg1 := Hd.mk hg1
  replace hs1 := Hd.mk hs1
  obtain ⟨a1, c1, rfl⟩ := hs1.go.val
  repeat' (first
    | (simp (disch := first | omega | assumption) only [go_sem, ↓reduceIte, Nat.reduceEqDiff, reduceCtorEq, Nat.reduceAdd, Nat.reduceMul, Int.reduceToNat, Nat.reduceShiftRight, Nat.reduceAnd, Nat.reduceBNe, Nat.reduceBneDiff, Nat.reduceLT, Nat.reduceLeDiff, Int.reduceLT, Int.reduceLE, Int.reduceEq, Int.reduceAdd, Int.reduceSub, *])
    | (refine br_prop (fun hb => ?_) (fun hb => ?_) <;> try (exfalso; omega))
    | refine br_not ?_
    | (refine by_prop (fun hb => ?_) (fun hb => ?_) <;> try (exfalso; omega))
    | (refine by_prop' (fun hb => ?_) (fun hb => ?_) <;> try (exfalso; omega))
    | refine by_not ?_
    | refine w_drawn (by kernel_rfl) ?_
    | refine new_i' (by rfl) (fun j hj hn => ?_)
    | refine new_i (fun j hn => ?_)
    | refine br_bool (fun hb => ?_) (fun hb => ?_)
    | refine by_bool (fun hb => ?_) (fun hb => ?_)
    | refine by_bool' (fun hb => ?_) (fun hb => ?_))
  refine call_i (print14 _ l o1 _ (SL.toR hs1.go) hv.go hlen _ (fun H2 s hp hg2 => ?_) fun H2 er e hp he hg2 => ?_)
  · replace hs1 := Hd.mk (hs1.go.grew hg2)
    replace hg2 := Hd.mk (hg1.go.trans hg2)
    replace hp := Hd.mk hp
    clear hg1
    repeat' (first
      | (simp (disch := first | omega | assumption) only [go_sem, ↓reduceIte, Nat.reduceEqDiff, reduceCtorEq, Nat.reduceAdd, Nat.reduceMul, Int.reduceToNat, Nat.reduceShiftRight, Nat.reduceAnd, Nat.reduceBNe, Nat.reduceBneDiff, Nat.reduceLT, Nat.reduceLeDiff, Int.reduceLT, Int.reduceLE, Int.reduceEq, Int.reduceAdd, Int.reduceSub, *])
      | (refine br_prop (fun hb => ?_) (fun hb => ?_) <;> try (exfalso; omega))
      | refine br_not ?_
      | (refine by_prop (fun hb => ?_) (fun hb => ?_) <;> try (exfalso; omega))
      | (refine by_prop' (fun hb => ?_) (fun hb => ?_) <;> try (exfalso; omega))
      | refine by_not ?_
      | refine w_drawn (by kernel_rfl) ?_
      | refine new_i' (by rfl) (fun j hj hn => ?_)
      | refine new_i (fun j hn => ?_)
      | refine br_bool (fun hb => ?_) (fun hb => ?_)
      | refine by_bool (fun hb => ?_) (fun hb => ?_)
      | refine by_bool' (fun hb => ?_) (fun hb => ?_))
    refine call_i (print18 _ l o _ (hsl.go.grew hg2.go) hv.go hlen _ (fun H3 s' hp' hg3 => ?_) fun H3 e n k hp' he hg3 => ?_)
    · have h9 := hp'
      rw [hp.go] at h9
      injection h9 with h9
      subst h9
      replace hs1 := Hd.mk (hs1.go.grew hg3)
      replace hg3 := Hd.mk (hg2.go.trans hg3)
      clear hg2 hp'
      repeat' (first
        | (simp (disch := first | omega | assumption) only [go_sem, ↓reduceIte, Nat.reduceEqDiff, reduceCtorEq, Nat.reduceAdd, Nat.reduceMul, Int.reduceToNat, Nat.reduceShiftRight, Nat.reduceAnd, Nat.reduceBNe, Nat.reduceBneDiff, Nat.reduceLT, Nat.reduceLeDiff, Int.reduceLT, Int.reduceLE, Int.reduceEq, Int.reduceAdd, Int.reduceSub, *])
        | (refine br_prop (fun hb => ?_) (fun hb => ?_) <;> try (exfalso; omega))
        | refine br_not ?_
        | (refine by_prop (fun hb => ?_) (fun hb => ?_) <;> try (exfalso; omega))
        | (refine by_prop' (fun hb => ?_) (fun hb => ?_) <;> try (exfalso; omega))
        | refine by_not ?_
        | refine w_drawn (by kernel_rfl) ?_
        | refine new_i' (by rfl) (fun j hj hn => ?_)
        | refine new_i (fun j hn => ?_)
        | refine br_bool (fun hb => ?_) (fun hb => ?_)
        | refine by_bool (fun hb => ?_) (fun hb => ?_)
        | refine by_bool' (fun hb => ?_) (fun hb => ?_))
      refine call_i (same_nil _ _ ?_)
      repeat' (first
        | (simp (disch := first | omega | assumption) only [go_sem, ↓reduceIte, Nat.reduceEqDiff, reduceCtorEq, Nat.reduceAdd, Nat.reduceMul, Int.reduceToNat, Nat.reduceShiftRight, Nat.reduceAnd, Nat.reduceBNe, Nat.reduceBneDiff, Nat.reduceLT, Nat.reduceLeDiff, Int.reduceLT, Int.reduceLE, Int.reduceEq, Int.reduceAdd, Int.reduceSub, *])
        | (refine br_prop (fun hb => ?_) (fun hb => ?_) <;> try (exfalso; omega))
        | refine br_not ?_
        | (refine by_prop (fun hb => ?_) (fun hb => ?_) <;> try (exfalso; omega))
        | (refine by_prop' (fun hb => ?_) (fun hb => ?_) <;> try (exfalso; omega))
        | refine by_not ?_
        | refine w_drawn (by kernel_rfl) ?_
        | refine new_i' (by rfl) (fun j hj hn => ?_)
        | refine new_i (fun j hn => ?_)
        | refine br_bool (fun hb => ?_) (fun hb => ?_)
        | refine by_bool (fun hb => ?_) (fun hb => ?_)
        | refine by_bool' (fun hb => ?_) (fun hb => ?_))
      refine call_i (code11r _ _ l l o o1 _ (hsl.go.grew hg3.go) (SL.toR hs1.go) hlen _ ?_)
      rw [decide_eq_true rfl]
      repeat' (first
        | (simp (disch := first | omega | assumption) only [go_sem, ↓reduceIte, Nat.reduceEqDiff, reduceCtorEq, Nat.reduceAdd, Nat.reduceMul, Int.reduceToNat, Nat.reduceShiftRight, Nat.reduceAnd, Nat.reduceBNe, Nat.reduceBneDiff, Nat.reduceLT, Nat.reduceLeDiff, Int.reduceLT, Int.reduceLE, Int.reduceEq, Int.reduceAdd, Int.reduceSub, *])
        | (refine br_prop (fun hb => ?_) (fun hb => ?_) <;> try (exfalso; omega))
        | refine br_not ?_
        | (refine by_prop (fun hb => ?_) (fun hb => ?_) <;> try (exfalso; omega))
        | (refine by_prop' (fun hb => ?_) (fun hb => ?_) <;> try (exfalso; omega))
        | refine by_not ?_
        | refine w_drawn (by kernel_rfl) ?_
        | refine new_i' (by rfl) (fun j hj hn => ?_)
        | refine new_i (fun j hn => ?_)
        | refine br_bool (fun hb => ?_) (fun hb => ?_)
        | refine by_bool (fun hb => ?_) (fun hb => ?_)
        | refine by_bool' (fun hb => ?_) (fun hb => ?_))
      refine call_i (awake9 _ _ fun H8 hg8 => ?_)
      repeat' (first
        | (simp (disch := first | omega | assumption) only [go_sem, ↓reduceIte, Nat.reduceEqDiff, reduceCtorEq, Nat.reduceAdd, Nat.reduceMul, Int.reduceToNat, Nat.reduceShiftRight, Nat.reduceAnd, Nat.reduceBNe, Nat.reduceBneDiff, Nat.reduceLT, Nat.reduceLeDiff, Int.reduceLT, Int.reduceLE, Int.reduceEq, Int.reduceAdd, Int.reduceSub, true_and])
        | (refine br_prop (fun hb => ?_) (fun hb => ?_) <;> try (exfalso; omega))
        | refine br_not ?_
        | (refine by_prop (fun hb => ?_) (fun hb => ?_) <;> try (exfalso; omega))
        | (refine by_prop' (fun hb => ?_) (fun hb => ?_) <;> try (exfalso; omega))
        | refine by_not ?_
        | refine w_drawn (by kernel_rfl) ?_
        | refine new_i' (by rfl) (fun j hj hn => ?_)
        | refine new_i (fun j hn => ?_)
        | refine br_bool (fun hb => ?_) (fun hb => ?_)
        | refine by_bool (fun hb => ?_) (fun hb => ?_)
        | refine by_bool' (fun hb => ?_) (fun hb => ?_))
      exact hk.go _ (hg3.go.trans hg8)
    · rw [hp.go] at hp'; cases hp'
  · replace hs1 := Hd.mk (hs1.go.grew hg2)
    replace hg2 := Hd.mk (hg1.go.trans hg2)
    replace hp := Hd.mk hp
    clear hg1
    obtain ⟨n, k, rfl, hkk⟩ := print_err hp.go
    obtain ⟨ei, rfl⟩ := ErrR.ptr he
    replace he := Hd.mk he
    repeat' (first
      | (simp (disch := first | omega | assumption) only [go_sem, ↓reduceIte, Nat.reduceEqDiff, reduceCtorEq, Nat.reduceAdd, Nat.reduceMul, Int.reduceToNat, Nat.reduceShiftRight, Nat.reduceAnd, Nat.reduceBNe, Nat.reduceBneDiff, Nat.reduceLT, Nat.reduceLeDiff, Int.reduceLT, Int.reduceLE, Int.reduceEq, Int.reduceAdd, Int.reduceSub, *])
      | (refine br_prop (fun hb => ?_) (fun hb => ?_) <;> try (exfalso; omega))
      | refine br_not ?_
      | (refine by_prop (fun hb => ?_) (fun hb => ?_) <;> try (exfalso; omega))
      | (refine by_prop' (fun hb => ?_) (fun hb => ?_) <;> try (exfalso; omega))
      | refine by_not ?_
      | refine w_drawn (by kernel_rfl) ?_
      | refine new_i' (by rfl) (fun j hj hn => ?_)
      | refine new_i (fun j hn => ?_)
      | refine br_bool (fun hb => ?_) (fun hb => ?_)
      | refine by_bool (fun hb => ?_) (fun hb => ?_)
      | refine by_bool' (fun hb => ?_) (fun hb => ?_))
    refine call_i (print18 _ l o _ (hsl.go.grew hg2.go) hv.go hlen _ (fun H3 s' hp' hg3 => ?_) fun H3 e' n' k' hp' he' hg3 => ?_)
    · rw [hp.go] at hp'; cases hp'
    · have h9 := hp'
      rw [hp.go] at h9
      injection h9 with h9
      injection h9 with h9a h9b h9c
      subst h9a
      subst h9c
      replace hs1 := Hd.mk (hs1.go.grew hg3)
      have he3 := ErrR.grew he.go hg3
      replace hg3 := Hd.mk (hg2.go.trans hg3)
      obtain ⟨r, i1, i2, rfl, f1, f2, f3⟩ := he'
      obtain ⟨ei', hei, f4⟩ := he3
      injection hei with _ hei
      injection hei with hei
      injection hei with hei
      injection hei with hei
      subst hei
      replace f1 := Hd.mk f1
      replace f2 := Hd.mk f2
      replace f3 := Hd.mk f3
      replace f4 := Hd.mk f4
      clear hg2 hp' h9b he
      repeat' (first
        | (simp (disch := first | omega | assumption) only [go_sem, ↓reduceIte, Nat.reduceEqDiff, reduceCtorEq, Nat.reduceAdd, Nat.reduceMul, Int.reduceToNat, Nat.reduceShiftRight, Nat.reduceAnd, Nat.reduceBNe, Nat.reduceBneDiff, Nat.reduceLT, Nat.reduceLeDiff, Int.reduceLT, Int.reduceLE, Int.reduceEq, Int.reduceAdd, Int.reduceSub, *])
        | (refine br_prop (fun hb => ?_) (fun hb => ?_) <;> try (exfalso; omega))
        | refine br_not ?_
        | (refine by_prop (fun hb => ?_) (fun hb => ?_) <;> try (exfalso; omega))
        | (refine by_prop' (fun hb => ?_) (fun hb => ?_) <;> try (exfalso; omega))
        | refine by_not ?_
        | refine w_drawn (by kernel_rfl) ?_
        | refine new_i' (by rfl) (fun j hj hn => ?_)
        | refine new_i (fun j hn => ?_)
        | refine br_bool (fun hb => ?_) (fun hb => ?_)
        | refine by_bool (fun hb => ?_) (fun hb => ?_)
        | refine by_bool' (fun hb => ?_) (fun hb => ?_))
      refine call_i (same12 ei r i1 i2 asmB n k 1 1 [] [] _ f4.go f1.go f2.go f3.go (by omega) (by omega) _ fun H5 hg5 => ?_)
      replace hs1 := Hd.mk (hs1.go.grew hg5)
      replace hg3 := Hd.mk (hg3.go.trans hg5)
      clear f1 f2 f3 f4
      repeat' (first
        | (simp (disch := first | omega | assumption) only [go_sem, ↓reduceIte, Nat.reduceEqDiff, reduceCtorEq, Nat.reduceAdd, Nat.reduceMul, Int.reduceToNat, Nat.reduceShiftRight, Nat.reduceAnd, Nat.reduceBNe, Nat.reduceBneDiff, Nat.reduceLT, Nat.reduceLeDiff, Int.reduceLT, Int.reduceLE, Int.reduceEq, Int.reduceAdd, Int.reduceSub, *])
        | (refine br_prop (fun hb => ?_) (fun hb => ?_) <;> try (exfalso; omega))
        | refine br_not ?_
        | (refine by_prop (fun hb => ?_) (fun hb => ?_) <;> try (exfalso; omega))
        | (refine by_prop' (fun hb => ?_) (fun hb => ?_) <;> try (exfalso; omega))
        | refine by_not ?_
        | refine w_drawn (by kernel_rfl) ?_
        | refine new_i' (by rfl) (fun j hj hn => ?_)
        | refine new_i (fun j hn => ?_)
        | refine br_bool (fun hb => ?_) (fun hb => ?_)
        | refine by_bool (fun hb => ?_) (fun hb => ?_)
        | refine by_bool' (fun hb => ?_) (fun hb => ?_))
      refine call_i (code11r _ _ l l o o1 _ (hsl.go.grew hg3.go) (SL.toR hs1.go) hlen _ ?_)
      rw [decide_eq_true rfl]
      repeat' (first
        | (simp (disch := first | omega | assumption) only [go_sem, ↓reduceIte, Nat.reduceEqDiff, reduceCtorEq, Nat.reduceAdd, Nat.reduceMul, Int.reduceToNat, Nat.reduceShiftRight, Nat.reduceAnd, Nat.reduceBNe, Nat.reduceBneDiff, Nat.reduceLT, Nat.reduceLeDiff, Int.reduceLT, Int.reduceLE, Int.reduceEq, Int.reduceAdd, Int.reduceSub, *])
        | (refine br_prop (fun hb => ?_) (fun hb => ?_) <;> try (exfalso; omega))
        | refine br_not ?_
        | (refine by_prop (fun hb => ?_) (fun hb => ?_) <;> try (exfalso; omega))
        | (refine by_prop' (fun hb => ?_) (fun hb => ?_) <;> try (exfalso; omega))
        | refine by_not ?_
        | refine w_drawn (by kernel_rfl) ?_
        | refine new_i' (by rfl) (fun j hj hn => ?_)
        | refine new_i (fun j hn => ?_)
        | refine br_bool (fun hb => ?_) (fun hb => ?_)
        | refine by_bool (fun hb => ?_) (fun hb => ?_)
        | refine by_bool' (fun hb => ?_) (fun hb => ?_))
      refine call_i (awake9 _ _ fun H8 hg8 => ?_)
      repeat' (first
        | (simp (disch := first | omega | assumption) only [go_sem, ↓reduceIte, Nat.reduceEqDiff, reduceCtorEq, Nat.reduceAdd, Nat.reduceMul, Int.reduceToNat, Nat.reduceShiftRight, Nat.reduceAnd, Nat.reduceBNe, Nat.reduceBneDiff, Nat.reduceLT, Nat.reduceLeDiff, Int.reduceLT, Int.reduceLE, Int.reduceEq, Int.reduceAdd, Int.reduceSub, true_and])
        | (refine br_prop (fun hb => ?_) (fun hb => ?_) <;> try (exfalso; omega))
        | refine br_not ?_
        | (refine by_prop (fun hb => ?_) (fun hb => ?_) <;> try (exfalso; omega))
        | (refine by_prop' (fun hb => ?_) (fun hb => ?_) <;> try (exfalso; omega))
        | refine by_not ?_
        | refine w_drawn (by kernel_rfl) ?_
        | refine new_i' (by rfl) (fun j hj hn => ?_)
        | refine new_i (fun j hn => ?_)
        | refine br_bool (fun hb => ?_) (fun hb => ?_)
        | refine by_bool (fun hb => ?_) (fun hb => ?_)
        | refine by_bool' (fun hb => ?_) (fun hb => ?_))
      exact hk.go _ (hg3.go.trans hg8)
end Go.Proofs
