/-
  A part of the proofs: EH EI.
-/
import Derived.Test.YtnbfimppgcoajaaDoorDT
import Derived.Test.YtnbfimppgcoajaaDoorAbS
import Derived.Test.YtnbfimppgcoajaaDoorPA
import Derived.Test.YtnbfimppgcoajaaDoorPEF
namespace Go.Proofs
set_option linter.unusedSimpArgs false
set_option linter.unusedVariables false
set_option linter.unusedSectionVars false
open Go Go.Ab AsmM
variable [Go.Ab.Start]
set_option maxRecDepth 100000
set_option maxHeartbeats 1000000
theorem opd_reg {x : Ins} {kind : Int} {s : Bytes} {line : Int} {n : Nat} (h : kind = 1 ∨ kind = 2 ∨ kind = 3 ∨ kind = 4 ∨ kind = 5) (hr : register s = some n) : operand x kind s line = .ok (if kind = 1 then { x with a := n } else if kind = 2 ∨ kind = 5 then { x with b := n } else { x with c := n }, false) := by
  unfold operand; rw [if_pos h, hr]
theorem opd_bad {x : Ins} {kind : Int} {s : Bytes} {line : Int} (h : kind = 1 ∨ kind = 2 ∨ kind = 3) (hr : register s = none) : operand x kind s line = .error (bad line) := by
  unfold operand; rw [if_pos (by omega), hr]; simp only; rw [if_pos h]
theorem opd_num {x : Ins} {kind : Int} {s : Bytes} {line : Int} (h : kind = 4 ∨ kind = 5) (hr : register s = none) : operand x kind s line = (num s line).bind fun v => .ok (if kind = 5 then { x with b := -1, v := v } else { x with c := -1, v := v }, false) := by
  unfold operand; rw [if_pos (by omega), hr]; simp only; rw [if_neg (by omega)]; rfl
theorem opd_7 {x : Ins} {s : Bytes} {line : Int} : operand x 7 s line = (num s line).bind fun v => .ok ({ x with v := v }, false) := by
  unfold operand; rw [if_neg (by omega), if_pos rfl]; rfl
theorem opd_6 {x : Ins} {s : Bytes} {line : Int} : operand x 6 s line = (cellOf x s line).bind fun y => .ok (y, false) := by
  unfold operand; rw [if_neg (by omega), if_neg (by omega), if_pos rfl]; rfl
theorem opd_name {x : Ins} {kind : Int} {s : Bytes} {line : Int} (h : ¬ (kind = 1 ∨ kind = 2 ∨ kind = 3 ∨ kind = 4 ∨ kind = 5 ∨ kind = 7 ∨ kind = 6)) (hn : named s = true) : operand x kind s line = .ok (x, true) := by
  unfold operand; rw [if_neg (by omega), if_neg (by omega), if_neg (by omega), if_pos hn]
theorem opd_8 {x : Ins} {s : Bytes} {line : Int} (hn : named s = false) : operand x 8 s line = .error (bad line) := by
  unfold operand; rw [if_neg (by omega), if_neg (by omega), if_neg (by omega), if_neg (by rw [hn]; simp), if_pos rfl]
theorem opd_9 {x : Ins} {kind : Int} {s : Bytes} {line : Int} (h : ¬ (kind = 1 ∨ kind = 2 ∨ kind = 3 ∨ kind = 4 ∨ kind = 5 ∨ kind = 7 ∨ kind = 6 ∨ kind = 8)) (hn : named s = false) : operand x kind s line = (num s line).bind fun v => .ok ({ x with v := v }, false) := by
  unfold operand; rw [if_neg (by omega), if_neg (by omega), if_neg (by omega), if_neg (by rw [hn]; simp), if_neg (by omega)]; rfl
theorem operand37 (r q mp : Nat) (x : Ins) (kind : Int) (s : ByteArray) (line : Int) (hs : s.size ≤ 1000000) (H : AHeap) (st : St) (ms : List (Bytes × Int)) (o1 o2 o3 o4 : Option Nat) (hR : RdR H r st ms mp o1 o2 o3 o4) (hq : H q = .cells (encI x)) (hqF : ¬ FR r mp o1 o2 o3 o4 q) (hl1 : st.wants.length ≤ 1000000) (hl2 : st.l.length ≤ 1000000) (K : Value → AHeap → Prop)
    (hok : ∀ H' y w, operand x kind s.data.toList line = .ok (y, w) → (∃ o4', RdR H' r (if w then { st with wants := st.wants ++ [⟨st.l.length, line, s.data.toList⟩] } else st) ms mp o1 o2 o3 o4' ∧ ∀ j, FR r mp o1 o2 o3 o4' j → FR r mp o1 o2 o3 o4 j ∨ H j = .none) → H' q = .cells (encI y) → Chg (fun j => j = q ∨ FR r mp o1 o2 o3 o4 j) H H' → K .nilIface H')
    (herr : ∀ H' e er, operand x kind s.data.toList line = .error er → ErrR H' e er → Chg (fun j => j = q ∨ FR r mp o1 o2 o3 o4 j) H H' → K e H') : ACalls Tryd.prog 37 #[.pointer (some ⟨r, 0, none⟩), .pointer (some ⟨q, 0, none⟩), .int .i64 kind, .string s, .int .i64 line] H K := by
  have hq0 := hq
  unfold encI at hq
  have okq : ∀ H' y, operand x kind s.data.toList line = .ok (y, false) → H' q = .cells (encI y) → Chg (· = q) H H' → K .nilIface H' := fun H' y h1 h2 h3 =>
    hok H' y false h1 ⟨o4, hR.chg h3 fun j hj e => hqF (by rw [← e]; exact hj), fun j hj => .inl hj⟩ h2 (h3.wide fun j e => .inl e)
  have erq : ∀ H' e er, operand x kind s.data.toList line = .error er → ErrR H' e er → Chg (· = q) H H' → K e H' := fun H' e er h1 h2 h3 => herr H' e er h1 h2 (h3.wide fun j e => .inl e)
  have hok2 : Hd _ := ⟨hok⟩
  clear hok herr
  refine w_enter (args := [.pointer (some ⟨r, 0, none⟩), .pointer (some ⟨q, 0, none⟩), .int .i64 kind, .string s, .int .i64 line]) Tryd.func37 rfl (by kernel_rfl) D.mixed (by kernel_rfl) (rs := [.tmp 10]) rfl ?_
  repeat' (first
    | (simp (disch := first | omega | assumption) only [go_sem, ↓reduceIte, Nat.reduceEqDiff, reduceCtorEq, Nat.reduceAdd, Nat.reduceMul, Int.reduceToNat, Nat.reduceShiftRight, Nat.reduceAnd, Nat.reduceBNe, Nat.reduceBneDiff, Nat.reduceLT, Nat.reduceLeDiff, Int.reduceLT, Int.reduceLE, Int.reduceEq, Int.reduceAdd, Int.reduceSub, *])
    | (refine br_prop (fun hb => ?_) (fun hb => ?_) <;> try (exfalso; omega))
    | refine br_not ?_
    | (refine by_prop (fun hb => ?_) (fun hb => ?_) <;> try (exfalso; omega))
    | (refine by_prop' (fun hb => ?_) (fun hb => ?_) <;> try (exfalso; omega))
    | refine by_not ?_
    | refine w_drawn (by kernel_rfl) ?_
    | refine new_i' (by rfl) (fun j hj hn => ?_)
    | refine new_i (fun j hn => ?_)
    | refine br_bool (fun hb => ?_) (fun hb => ?_)
    | refine by_bool (fun hb => ?_) (fun hb => ?_)
    | refine by_bool' (fun hb => ?_) (fun hb => ?_))
  refine call_i (reg_spec _ _ _ fun v ok hr => ?_)
  have done : ∀ n, ok = true ∧ v = n → ok = true := fun _ h => h.1
  clear done
  cases hreg : register s.data.toList
  all_goals
    rw [hreg] at hr
  case' none => subst hr
  case' some n => obtain ⟨rfl, rfl⟩ := hr
  all_goals
    repeat' (first
      | (simp (disch := first | omega | assumption) only [go_sem, ↓reduceIte, Nat.reduceEqDiff, reduceCtorEq, Nat.reduceAdd, Nat.reduceMul, Int.reduceToNat, Nat.reduceShiftRight, Nat.reduceAnd, Nat.reduceBNe, Nat.reduceBneDiff, Nat.reduceLT, Nat.reduceLeDiff, Int.reduceLT, Int.reduceLE, Int.reduceEq, Int.reduceAdd, Int.reduceSub, *])
      | (refine br_prop (fun hb => ?_) (fun hb => ?_) <;> try (exfalso; omega))
      | refine br_not ?_
      | (refine by_prop (fun hb => ?_) (fun hb => ?_) <;> try (exfalso; omega))
      | (refine by_prop' (fun hb => ?_) (fun hb => ?_) <;> try (exfalso; omega))
      | refine by_not ?_
      | refine w_drawn (by kernel_rfl) ?_
      | refine new_i' (by rfl) (fun j hj hn => ?_)
      | refine new_i (fun j hn => ?_)
      | refine br_bool (fun hb => ?_) (fun hb => ?_)
      | refine by_bool (fun hb => ?_) (fun hb => ?_)
      | refine by_bool' (fun hb => ?_) (fun hb => ?_))
  all_goals try subst_vars
  all_goals first
    | exact okq _ _ (opd_reg (by omega) hreg) (AHeap.set_same _ _ _) (by repeat' (first | exact Chg.refl _ _ | refine Chg.set ?_ _ (.inl rfl) | refine Chg.set ?_ _ (.inr (by assumption)) | refine Chg.grew ?_ (by assumption) | assumption))
    | refine call_i (number57 _ _ (by omega) _ _ (.refl _) _ (fun v hv hb => ?_) fun H' e er hv hg he => ?_)
    | refine call_i (cellOf58 _ x _ _ hs _ hq0 _ (fun H' y hv hy hc => ?_) fun H' e er hv he hc => ?_)
    | refine call_i (named_spec _ _ _ ?_)
    | refine call_i (afail_go _ _ _ _ (.refl _) _ fun H' e hg he => ?_)
  all_goals try have hq' := (hg.get (j := q) (by first | (rw [AHeap.set_same]; rfl) | (rw [hq]; rfl))).trans (by first | exact AHeap.set_same _ _ _ | exact hq)
  all_goals try (cases hnm : named s.data.toList)
  all_goals
    repeat' (first
      | (simp (disch := first | omega | assumption) only [go_sem, ↓reduceIte, Nat.reduceEqDiff, reduceCtorEq, Nat.reduceAdd, Nat.reduceMul, Int.reduceToNat, Nat.reduceShiftRight, Nat.reduceAnd, Nat.reduceBNe, Nat.reduceBneDiff, Nat.reduceLT, Nat.reduceLeDiff, Int.reduceLT, Int.reduceLE, Int.reduceEq, Int.reduceAdd, Int.reduceSub, *])
      | (refine br_prop (fun hb => ?_) (fun hb => ?_) <;> try (exfalso; omega))
      | refine br_not ?_
      | (refine by_prop (fun hb => ?_) (fun hb => ?_) <;> try (exfalso; omega))
      | (refine by_prop' (fun hb => ?_) (fun hb => ?_) <;> try (exfalso; omega))
      | refine by_not ?_
      | refine w_drawn (by kernel_rfl) ?_
      | refine new_i' (by rfl) (fun j hj hn => ?_)
      | refine new_i (fun j hn => ?_)
      | refine br_bool (fun hb => ?_) (fun hb => ?_)
      | refine by_bool (fun hb => ?_) (fun hb => ?_)
      | refine by_bool' (fun hb => ?_) (fun hb => ?_))
  all_goals first
    | exact okq _ _ (by first | (rw [opd_7, hv]; rfl) | (rw [opd_num (by omega) hreg, hv]; rfl)) (AHeap.set_same _ _ _) (by repeat' (first | exact Chg.refl _ _ | refine Chg.set ?_ _ (.inl rfl) | refine Chg.set ?_ _ (.inr (by assumption)) | refine Chg.grew ?_ (by assumption) | assumption))
    | exact erq _ _ _ (by first | (rw [opd_7, hv]; rfl) | (rw [opd_num (by omega) hreg, hv]; rfl)) (he.set _ hq' (by simp)) (by repeat' (first | exact Chg.refl _ _ | refine Chg.set ?_ _ (.inl rfl) | refine Chg.set ?_ _ (.inr (by assumption)) | refine Chg.grew ?_ (by assumption) | assumption))
    | exact okq _ _ (by rw [opd_6, hv]; rfl) hy hc
    | exact erq _ _ _ (by rw [opd_6, hv]; rfl) he hc
    | exact erq _ _ _ (opd_bad (by omega) hreg) he (by repeat' (first | exact Chg.refl _ _ | refine Chg.set ?_ _ (.inl rfl) | refine Chg.set ?_ _ (.inr (by assumption)) | refine Chg.grew ?_ (by assumption) | assumption))
    | refine call_i (number57 _ _ (by omega) _ _ (.refl _) _ (fun v hv hb => ?_) fun H' e er hv hg he => ?_)
    | refine call_i (afail_go _ _ _ _ (.refl _) _ fun H' e hg he => ?_)
    | skip
  all_goals try have hq' := (hg.get (j := q) (by rw [hq]; rfl)).trans hq
  all_goals
    repeat' (first
      | (simp (disch := first | omega | assumption) only [go_sem, ↓reduceIte, Nat.reduceEqDiff, reduceCtorEq, Nat.reduceAdd, Nat.reduceMul, Int.reduceToNat, Nat.reduceShiftRight, Nat.reduceAnd, Nat.reduceBNe, Nat.reduceBneDiff, Nat.reduceLT, Nat.reduceLeDiff, Int.reduceLT, Int.reduceLE, Int.reduceEq, Int.reduceAdd, Int.reduceSub, *])
      | (refine br_prop (fun hb => ?_) (fun hb => ?_) <;> try (exfalso; omega))
      | refine br_not ?_
      | (refine by_prop (fun hb => ?_) (fun hb => ?_) <;> try (exfalso; omega))
      | (refine by_prop' (fun hb => ?_) (fun hb => ?_) <;> try (exfalso; omega))
      | refine by_not ?_
      | refine w_drawn (by kernel_rfl) ?_
      | refine new_i' (by rfl) (fun j hj hn => ?_)
      | refine new_i (fun j hn => ?_)
      | refine br_bool (fun hb => ?_) (fun hb => ?_)
      | refine by_bool (fun hb => ?_) (fun hb => ?_)
      | refine by_bool' (fun hb => ?_) (fun hb => ?_))
  all_goals first
    | exact okq _ _ (by rw [opd_9 (by omega) hnm, hv]; rfl) (AHeap.set_same _ _ _) (by repeat' (first | exact Chg.refl _ _ | refine Chg.set ?_ _ (.inl rfl) | refine Chg.set ?_ _ (.inr (by assumption)) | refine Chg.grew ?_ (by assumption) | assumption))
    | exact erq _ _ _ (by rw [opd_9 (by omega) hnm, hv]; rfl) (he.set _ hq' (by simp)) (by repeat' (first | exact Chg.refl _ _ | refine Chg.set ?_ _ (.inl rfl) | refine Chg.set ?_ _ (.inr (by assumption)) | refine Chg.grew ?_ (by assumption) | assumption))
    | (subst_vars; exact erq _ _ _ (opd_8 hnm) he (by repeat' (first | exact Chg.refl _ _ | refine Chg.set ?_ _ (.inl rfl) | refine Chg.set ?_ _ (.inr (by assumption)) | refine Chg.grew ?_ (by assumption) | assumption)))
    | skip
  all_goals
    clear okq erq
    obtain ⟨v1, v2, v3, v4, hr, h1, h2, h3, h4⟩ := hR.obj
    obtain ⟨a1, c1, rfl⟩ := h1.val
    repeat' (first
      | (simp (disch := first | omega | assumption) only [go_sem, ↓reduceIte, Nat.reduceEqDiff, reduceCtorEq, Nat.reduceAdd, Nat.reduceMul, Int.reduceToNat, Nat.reduceShiftRight, Nat.reduceAnd, Nat.reduceBNe, Nat.reduceBneDiff, Nat.reduceLT, Nat.reduceLeDiff, Int.reduceLT, Int.reduceLE, Int.reduceEq, Int.reduceAdd, Int.reduceSub, *])
      | (refine br_prop (fun hb => ?_) (fun hb => ?_) <;> try (exfalso; omega))
      | refine br_not ?_
      | (refine by_prop (fun hb => ?_) (fun hb => ?_) <;> try (exfalso; omega))
      | (refine by_prop' (fun hb => ?_) (fun hb => ?_) <;> try (exfalso; omega))
      | refine by_not ?_
      | refine w_drawn (by kernel_rfl) ?_
      | refine new_i' (by rfl) (fun j hj hn => ?_)
      | refine new_i (fun j hn => ?_)
      | refine br_bool (fun hb => ?_) (fun hb => ?_)
      | refine by_bool (fun hb => ?_) (fun hb => ?_)
      | refine by_bool' (fun hb => ?_) (fun hb => ?_))
    have R1 : RdR (H.set j (.cells [.int .i64 st.l.length, .int .i64 line, .string s])) r st ms mp o1 o2 o3 o4 := hR.frame fun k hk => AHeap.set_ne _ _ fun e => hR.some_ne k hk (by rw [e]; exact hn)
    have hr1 : (H.set j (.cells [.int .i64 st.l.length, .int .i64 line, .string s])) r = .cells [.slice a1 st.l.length c1, v2, v3, .map (some mp), v4] := by rw [set_new hn (by rw [hr]; rfl)]; exact hr
    have dd := hR.dj.facts
    refine app_i (app_go D.e58 (h4.grew (Grew.set (.refl _) _ hn)) (news_one D.u58 (AHeap.set_same _ _ _) rfl) rfl (by omega) (by omega) (by omega) fun v' H' i hs' hf hi => ?_)
    obtain ⟨a', c', rfl⟩ := hs'.val
    have hr2 := (hf r (by rw [hr1]; simp) dd.2.2.2.2.1).trans hr1
    repeat' (first
      | (simp (disch := first | omega | assumption) only [go_sem, ↓reduceIte, Nat.reduceEqDiff, reduceCtorEq, Nat.reduceAdd, Nat.reduceMul, Int.reduceToNat, Nat.reduceShiftRight, Nat.reduceAnd, Nat.reduceBNe, Nat.reduceBneDiff, Nat.reduceLT, Nat.reduceLeDiff, Int.reduceLT, Int.reduceLE, Int.reduceEq, Int.reduceAdd, Int.reduceSub, hr2])
      | (refine br_prop (fun hb => ?_) (fun hb => ?_) <;> try (exfalso; omega))
      | refine br_not ?_
      | (refine by_prop (fun hb => ?_) (fun hb => ?_) <;> try (exfalso; omega))
      | (refine by_prop' (fun hb => ?_) (fun hb => ?_) <;> try (exfalso; omega))
      | refine by_not ?_
      | refine w_drawn (by kernel_rfl) ?_
      | refine new_i' (by rfl) (fun j hj hn => ?_)
      | refine new_i (fun j hn => ?_)
      | refine br_bool (fun hb => ?_) (fun hb => ?_)
      | refine by_bool (fun hb => ?_) (fun hb => ?_)
      | refine by_bool' (fun hb => ?_) (fun hb => ?_))
    obtain ⟨w1, w2⟩ := R1.want (w := ⟨st.l.length, line, s.data.toList⟩) hr1 (by rw [show encW ⟨st.l.length, line, s.data.toList⟩ = [.int .i64 st.l.length, .int .i64 line, .string s] by unfold encW; rw [bA_of]]; exact hs') hf hi
    have n1 : ∀ k, FR r mp o1 o2 o3 (some i) k → FR r mp o1 o2 o3 o4 k ∨ H k = .none := fun k hk => (w2 k hk).imp id fun e => (Grew.set (.refl _) _ hn).none e
    have c2 : Chg (fun k => k = q ∨ FR r mp o1 o2 o3 o4 k) H (H'.set r (.cells [.slice a1 st.l.length c1, v2, v3, .map (some mp), .slice a' (st.wants.length + 1) c'])) := by
      refine Chg.set (fun k hk hkF => ?_) _ (.inl (.inr (.inl rfl)))
      rw [hf k (by rw [set_new hn (by cases hh : H k <;> first | rfl | exact absurd hh hk)]; exact hk) (fun e => hkF (.inr (by unfold FR; simp [e])))]
      exact Grew.set (.refl _) _ hn k hk
    refine hok2.go _ x true (opd_name (by omega) hnm) ⟨some i, w1, n1⟩ ?_ c2
    have hrq : q ≠ r := fun e => hqF (.inl e)
    rw [AHeap.set_ne _ _ hrq, hf q (by rw [set_new hn (by rw [hq]; rfl), hq]; simp) (fun e => hqF (by unfold FR; simp [e])), set_new hn (by rw [hq]; rfl)]
    exact hq0
end Go.Proofs
namespace Go.Proofs
set_option linter.unusedSimpArgs false
set_option linter.unusedVariables false
set_option linter.unusedSectionVars false
open Go Go.Ab AsmM
variable [Go.Ab.Start]
set_option maxRecDepth 100000
set_option maxHeartbeats 1000000
theorem same_string (a b : ByteArray) : Instr.sameNow .string (.string a) (.string b) = some (decide (a.data.toList = b.data.toList)) := by
  have e : Instr.sameNow .string (.string a) (.string b) = some (a.data == b.data) := rfl
  rw [e, Option.some.injEq, Bool.eq_iff_iff, decide_eq_true_eq, beq_iff_eq]
  exact ⟨fun h => by rw [h], fun h => Array.toList_inj.1 h⟩
theorem find_mapE (s : ByteArray) : ∀ (ms : List (Bytes × Int)) (k i0 : Nat), findA .string (.string s) ((ms.zipIdx k).map fun p => (.string (bA p.1.1), .int .i64 (p.2 : Nat))) i0 = some ((ms.findIdx? (fun p => decide (s.data.toList = p.1))).map fun j => (i0 + j, .int .i64 ((k + j : Nat) : Int)))
  | [], k, i0 => rfl
  | p :: ms, k, i0 => by
    rw [List.zipIdx_cons, List.map_cons]
    simp only [findA, same_string, bA_data]
    rw [List.findIdx?_cons]
    by_cases h : s.data.toList = p.1
    · simp [h]
    · simp only [h, decide_false]
      rw [find_mapE s ms (k + 1) (i0 + 1)]
      simp only [Bool.false_eq_true, if_false, Option.map_map]
      congr 1
      cases ms.findIdx? (fun p => decide (s.data.toList = p.1)) with
      | none => rfl
      | some j => simp; omega
theorem look56 {H : AHeap} {mp : Nat} {ms : List (Bytes × Int)} (h : H mp = .map (mapE ms)) (s : ByteArray) : lookV Tryd.prog H 56 (.map (some mp)) (.string s) true = some (match ms.findIdx? (fun p => decide (s.data.toList = p.1)) with | some j => .tuple (List.toArray [.int .i64 (j : Nat), .bool true]) | none => .tuple (List.toArray [.int .i64 0, .bool false])) := by
  unfold lookV lookupA
  rw [if_pos (show scalar (.string s) = true from rfl), D.m56]
  simp only [Option.bind_some, findIn, h, mapE]
  rw [find_mapE s ms 0 0]
  cases ms.findIdx? (fun p => decide (s.data.toList = p.1)) with
  | none => simp only [Option.map_none, Option.bind_some, show zeroA Tryd.prog 3 = some (.int .i64 0) by kernel_rfl]; rfl
  | some j => simp
theorem upd56 {H : AHeap} {mp : Nat} {ms : List (Bytes × Int)} (h : H mp = .map (mapE ms)) (s : ByteArray) (hn : ms.findIdx? (fun p => decide (s.data.toList = p.1)) = none) (at_ : Int) : updH Tryd.prog H 56 (.map (some mp)) (.string s) (.int .i64 (ms.length : Nat)) = some (H.set mp (.map (mapE (ms ++ [(s.data.toList, at_)])))) := by
  unfold updH updateA
  rw [if_pos (show scalar (.string s) = true from rfl), D.m56]
  simp only [Option.bind_some, h]
  have := find_mapE s ms 0 0
  rw [hn] at this
  have e : mapE ms = (ms.zipIdx 0).map fun p => (.string (bA p.1.1), .int .i64 (p.2 : Nat)) := rfl
  rw [e, this]
  simp only [Option.map_some, Option.map_none]
  congr 3
  unfold mapE
  rw [List.zipIdx_append, List.map_append]
  simp [bA_of]
theorem cut_ne : ∀ (r cur : Bytes) (w : Bytes), w ∈ cut cur r → w ≠ []
  | [], cur, w, h => by
    unfold cut at h
    split at h
    · simp at h
    · rename_i hc; rw [List.mem_singleton.1 h]; exact hc
  | c :: r, cur, w, h => by
    unfold cut at h
    split at h
    · split at h
      · exact cut_ne r [] w h
      · rename_i hc
        rcases List.mem_cons.1 h with h | h
        · rw [h]; exact hc
        · exact cut_ne r [] w h
    · exact cut_ne r _ w h
theorem cut_len : ∀ (r cur : Bytes) (w : Bytes), w ∈ cut cur r → w.length ≤ cur.length + r.length
  | [], cur, w, h => by
    unfold cut at h
    split at h
    · simp at h
    · rw [List.mem_singleton.1 h]; simp
  | c :: r, cur, w, h => by
    unfold cut at h
    split at h
    · split at h
      · have := cut_len r [] w h; simp at this ⊢; omega
      · rcases List.mem_cons.1 h with h | h
        · rw [h]; omega
        · have := cut_len r [] w h; simp at this ⊢; omega
    · have := cut_len r _ w h; simp at this ⊢; omega
end Go.Proofs
