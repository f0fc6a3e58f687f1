/-
  A part of the proofs: GF GG GH.
-/
import Derived.Test.YtnbfimppgcoajaaDoorDT
import Derived.Test.YtnbfimppgcoajaaDoorAbS
import Derived.Test.YtnbfimppgcoajaaDoorAbEq
import Derived.Test.YtnbfimppgcoajaaDoorPA
import Derived.Test.YtnbfimppgcoajaaDoorPEN
import Derived.Test.YtnbfimppgcoajaaDoorEP
namespace Go.Proofs
set_option linter.unusedSimpArgs false
set_option linter.unusedVariables false
set_option linter.unusedSectionVars false
open Go Go.Ab AsmM
variable [Go.Ab.Start]
set_option maxRecDepth 100000
set_option maxHeartbeats 1000000
theorem find17 (v : Value) (l : List (Bytes × Int)) (o : Option Nat) (s : ByteArray) (H : AHeap) (hsl : SL H 2 v l.length (l.flatMap encLab) o) (hlen : l.length ≤ 100000000) (K : Value → AHeap → Prop)
    (hk : ∀ H', Grew H H' → K (.tuple #[.int .i64 ((find l s.data.toList).getD 0), .bool (find l s.data.toList).isSome]) H') : ACalls Tryd.prog 17 #[v, .string s] H K := by
  replace hk := Hd.mk hk
  obtain ⟨a, c, rfl⟩ := hsl.val
  refine w_enter (args := [.slice a l.length c, .string s]) Tryd.func17 rfl (by kernel_rfl) D.mixed (by kernel_rfl) (rs := [.tmp 4, .tmp 5]) rfl ?_
  replace hsl := Hd.mk hsl
  repeat' (first
    | (simp (disch := first | omega | assumption) only [go_sem, ↓reduceIte, Nat.reduceEqDiff, reduceCtorEq, Nat.reduceAdd, Nat.reduceMul, Int.reduceToNat, Nat.reduceShiftRight, Nat.reduceAnd, Nat.reduceBNe, Nat.reduceBneDiff, Nat.reduceLT, Nat.reduceLeDiff, Int.reduceLT, Int.reduceLE, Int.reduceEq, Int.reduceAdd, Int.reduceSub, *])
    | (refine br_prop (fun hb => ?_) (fun hb => ?_) <;> try (exfalso; omega))
    | refine br_not ?_
    | (refine by_prop (fun hb => ?_) (fun hb => ?_) <;> try (exfalso; omega))
    | (refine by_prop' (fun hb => ?_) (fun hb => ?_) <;> try (exfalso; omega))
    | refine by_not ?_
    | refine w_drawn (by kernel_rfl) ?_
    | refine new_i' (by rfl) (fun j hj hn => ?_)
    | refine new_i (fun j hn => ?_)
    | refine br_bool (fun hb => ?_) (fun hb => ?_)
    | refine by_bool (fun hb => ?_) (fun hb => ?_)
    | refine by_bool' (fun hb => ?_) (fun hb => ?_))
  refine W.loopF 2096304 (fun m e H' => Grew H H' ∧ ∃ i : Nat, e 10 = .int .i64 i ∧ i ≤ l.length ∧ m = l.length - i ∧ find l s.data.toList = find (l.drop i) s.data.toList) l.length (by kernel_rfl) ?_ ?_
  · exact ⟨.refl _, 0, by simp (disch := first | omega | assumption) only [go_sem, ↓reduceIte, Nat.reduceEqDiff, reduceCtorEq, Nat.reduceAdd, Nat.reduceMul, Int.reduceToNat, Nat.reduceShiftRight, Nat.reduceAnd, Nat.reduceBNe, Nat.reduceBneDiff, Nat.reduceLT, Nat.reduceLeDiff, Int.reduceLT, Int.reduceLE, Int.reduceEq, Int.reduceAdd, Int.reduceSub, *]; try rfl, by omega, by omega, rfl⟩
  rintro m e Hc J hJ ⟨hg, i, he, h0, rfl, hM⟩
  replace hM := Hd.mk hM
  repeat' (first
    | (simp (disch := first | omega | assumption) only [go_sem, ↓reduceIte, Nat.reduceEqDiff, reduceCtorEq, Nat.reduceAdd, Nat.reduceMul, Int.reduceToNat, Nat.reduceShiftRight, Nat.reduceAnd, Nat.reduceBNe, Nat.reduceBneDiff, Nat.reduceLT, Nat.reduceLeDiff, Int.reduceLT, Int.reduceLE, Int.reduceEq, Int.reduceAdd, Int.reduceSub, *])
    | (refine br_prop (fun hb => ?_) (fun hb => ?_) <;> try (exfalso; omega))
    | refine br_not ?_
    | (refine by_prop (fun hb => ?_) (fun hb => ?_) <;> try (exfalso; omega))
    | (refine by_prop' (fun hb => ?_) (fun hb => ?_) <;> try (exfalso; omega))
    | refine by_not ?_
    | refine w_drawn (by kernel_rfl) ?_
    | refine new_i' (by rfl) (fun j hj hn => ?_)
    | refine new_i (fun j hn => ?_)
    | refine br_bool (fun hb => ?_) (fun hb => ?_)
    | refine by_bool (fun hb => ?_) (fun hb => ?_)
    | refine by_bool' (fun hb => ?_) (fun hb => ?_))
  · obtain ⟨q, rfl⟩ : ∃ q, o = some q := by
      cases o with
      | none => obtain ⟨_, h, _⟩ := hsl.go; omega
      | some q => exact ⟨_, rfl⟩
    obtain ⟨c', d, e1, hH, _, _, _⟩ := hsl.go
    injection e1 with e1a e1b e1c
    subst e1a
    clear e1b e1c
    have hi : i < l.length := by omega
    obtain ⟨p, hp⟩ : ∃ p, p = l.getD i ([], 0) := ⟨_, rfl⟩
    have hxd : Hd (l.drop i = p :: l.drop (i + 1)) := ⟨by rw [List.drop_eq_getElem_cons hi, hp, List.getD_eq_getElem?_getD, List.getElem?_eq_getElem hi]; rfl⟩
    have hq : Hc q = H q := hg q (by rw [hH]; simp)
    have hr1 : readA (H q) (i * 2) (some 2) = some (.agg #[.string (bA p.1), .int .i64 p.2]) := by
      rw [hH, flat_read (enc := encLab) (fun _ => rfl) ([], 0) hi, ← hp]; rfl
    replace hg := Hd.mk hg
    clear hH hp
    repeat' (first
      | (simp (disch := first | omega | assumption) only [go_sem, ↓reduceIte, Nat.reduceEqDiff, reduceCtorEq, Nat.reduceAdd, Nat.reduceMul, Int.reduceToNat, Nat.reduceShiftRight, Nat.reduceAnd, Nat.reduceBNe, Nat.reduceBneDiff, Nat.reduceLT, Nat.reduceLeDiff, Int.reduceLT, Int.reduceLE, Int.reduceEq, Int.reduceAdd, Int.reduceSub, *])
      | (refine br_prop (fun hb => ?_) (fun hb => ?_) <;> try (exfalso; omega))
      | refine br_not ?_
      | (refine by_prop (fun hb => ?_) (fun hb => ?_) <;> try (exfalso; omega))
      | (refine by_prop' (fun hb => ?_) (fun hb => ?_) <;> try (exfalso; omega))
      | refine by_not ?_
      | refine w_drawn (by kernel_rfl) ?_
      | refine new_i' (by rfl) (fun j hj hn => ?_)
      | refine new_i (fun j hn => ?_)
      | refine br_bool (fun hb => ?_) (fun hb => ?_)
      | refine by_bool (fun hb => ?_) (fun hb => ?_)
      | refine by_bool' (fun hb => ?_) (fun hb => ?_))
    · rename_i hb
      have h := hk.go _ (hg.go.new (.cells [.string (bA p.1), .int .i64 p.2]) hn)
      have e : find l s.data.toList = some p.2 := by
        rw [hM.go, hxd.go]
        unfold find
        rw [List.find?_cons, decide_eq_true (show p.1 = s.data.toList from hb)]
        rfl
      rw [e] at h
      exact h
    · rename_i hb
      refine inv_i (hJ.go _ _ ⟨_, by omega, hg.go.new _ hn, i + 1, rfl, by omega, rfl, ?_⟩)
      rw [hM.go, hxd.go]
      unfold find
      rw [List.find?_cons, decide_eq_false (show ¬ p.1 = s.data.toList from hb)]
  · have h := hk.go _ hg
    have e : find l s.data.toList = none := by rw [hM.go, List.drop_eq_nil_of_le (by omega)]; rfl
    rw [e] at h
    exact h
end Go.Proofs
namespace Go.Proofs
set_option linter.unusedSimpArgs false
set_option linter.unusedVariables false
set_option linter.unusedSectionVars false
open Go Go.Ab AsmM
variable [Go.Ab.Start]
set_option maxRecDepth 100000
set_option maxHeartbeats 1000000
/-- A slice that is only read: its object may be one that nobody may write. -/
def SLr (H : AHeap) (es : Nat) (v : Value) (n : Nat) (cs : List Value) : Option Nat → Prop
  | none => ∃ c, v = .slice none n c ∧ n = 0 ∧ cs = []
  | some i => ∃ c ds, v = .slice (some ⟨i, 0, none⟩) n c ∧ cellsOf (H i) = some (cs ++ ds) ∧ cs.length = n * es
theorem SL.toR {H : AHeap} {es : Nat} {v : Value} {n : Nat} {cs : List Value} {o : Option Nat} (h : SL H es v n cs o) : SLr H es v n cs o := by
  cases o with
  | none => obtain ⟨rfl, rfl, rfl⟩ := h; exact ⟨0, rfl, rfl, rfl⟩
  | some i => obtain ⟨c, ds, h1, h2, _, h3, _⟩ := h; exact ⟨c, ds, h1, by rw [h2]; rfl, h3⟩
theorem SLr.val {H : AHeap} {es : Nat} {v : Value} {n : Nat} {cs : List Value} {o : Option Nat} (h : SLr H es v n cs o) : ∃ a c, v = .slice a n c := by
  cases o with
  | none => obtain ⟨c, rfl, _⟩ := h; exact ⟨_, _, rfl⟩
  | some i => obtain ⟨c, ds, h, _⟩ := h; exact ⟨_, _, h⟩
theorem SLr.news {H : AHeap} {v : Value} {l : List Ins} {o : Option Nat} (h : SLr H 7 v l.length (l.flatMap encI) o) : newsA Tryd.prog H 7 25 v = some (l.flatMap encI, l.length) := by
  cases o with
  | none =>
    obtain ⟨c, rfl, h0, h1⟩ := h
    rw [h0, h1]
    unfold newsA
    rw [D.u25]
    rfl
  | some i =>
    obtain ⟨c, ds, rfl, h1, h2⟩ := h
    unfold newsA
    rw [D.u25]
    simp only [h1, Option.bind_some]
    rw [if_pos (by rw [List.length_append, h2]; omega), List.drop_zero, List.take_append_of_le_length (by rw [h2]; exact Nat.le_refl _), List.take_of_length_le (by rw [h2]; exact Nat.le_refl _)]
theorem copy15 (v : Value) (l : List Ins) (o : Option Nat) (H : AHeap) (hsl : SLr H 7 v l.length (l.flatMap encI) o) (hlen : l.length ≤ 2513169434843) (K : Value → AHeap → Prop)
    (hk : ∀ v' H' o', Grew H H' → SL H' 7 v' l.length (l.flatMap encI) o' → (∀ i, o' = some i → H i = .none) → K v' H') : ACalls Tryd.prog 15 #[v] H K := by
  replace hk := Hd.mk hk
  have hN := hsl.news
  obtain ⟨a, c, rfl⟩ := hsl.val
  refine w_enter (args := [.slice a l.length c]) Tryd.func15 rfl (by kernel_rfl) D.mixed (by kernel_rfl) (rs := [.tmp 2]) rfl ?_
  replace hsl := Hd.mk hsl
  replace hN := Hd.mk hN
  repeat' (first
    | (simp (disch := first | omega | assumption) only [go_sem, ↓reduceIte, Nat.reduceEqDiff, reduceCtorEq, Nat.reduceAdd, Nat.reduceMul, Int.reduceToNat, Nat.reduceShiftRight, Nat.reduceAnd, Nat.reduceBNe, Nat.reduceBneDiff, Nat.reduceLT, Nat.reduceLeDiff, Int.reduceLT, Int.reduceLE, Int.reduceEq, Int.reduceAdd, Int.reduceSub, *])
    | (refine br_prop (fun hb => ?_) (fun hb => ?_) <;> try (exfalso; omega))
    | refine br_not ?_
    | (refine by_prop (fun hb => ?_) (fun hb => ?_) <;> try (exfalso; omega))
    | (refine by_prop' (fun hb => ?_) (fun hb => ?_) <;> try (exfalso; omega))
    | refine by_not ?_
    | refine w_drawn (by kernel_rfl) ?_
    | refine new_i' (by rfl) (fun j hj hn => ?_)
    | refine new_i (fun j hn => ?_)
    | refine br_bool (fun hb => ?_) (fun hb => ?_)
    | refine by_bool (fun hb => ?_) (fun hb => ?_)
    | refine by_bool' (fun hb => ?_) (fun hb => ?_))
  by_cases h0 : l.length = 0
  · have hl : l = [] := List.length_eq_zero_iff.1 h0
    refine app_i ?_
    unfold appendW
    simp only [D.e25, hN.go]
    rw [if_pos h0]
    subst hl
    repeat' (first
      | (simp (disch := first | omega | assumption) only [go_sem, ↓reduceIte, Nat.reduceEqDiff, reduceCtorEq, Nat.reduceAdd, Nat.reduceMul, Int.reduceToNat, Nat.reduceShiftRight, Nat.reduceAnd, Nat.reduceBNe, Nat.reduceBneDiff, Nat.reduceLT, Nat.reduceLeDiff, Int.reduceLT, Int.reduceLE, Int.reduceEq, Int.reduceAdd, Int.reduceSub, *])
      | (refine br_prop (fun hb => ?_) (fun hb => ?_) <;> try (exfalso; omega))
      | refine br_not ?_
      | (refine by_prop (fun hb => ?_) (fun hb => ?_) <;> try (exfalso; omega))
      | (refine by_prop' (fun hb => ?_) (fun hb => ?_) <;> try (exfalso; omega))
      | refine by_not ?_
      | refine w_drawn (by kernel_rfl) ?_
      | refine new_i' (by rfl) (fun j hj hn => ?_)
      | refine new_i (fun j hn => ?_)
      | refine br_bool (fun hb => ?_) (fun hb => ?_)
      | refine by_bool (fun hb => ?_) (fun hb => ?_)
      | refine by_bool' (fun hb => ?_) (fun hb => ?_))
    exact hk.go _ _ none (.refl _) (SL.nil _ _) (fun _ h => by cases h)
  · refine app_i (app_go D.e25 (SL.nil H 7) (m := l.length) (news := l.flatMap encI) hN.go (flat_len encI 7 (fun _ => rfl) l) (by omega) (by omega) (by omega) fun v' H' i hs hf hi => ?_)
    rw [Nat.zero_add, List.nil_append] at hs
    have hg : Hd (Grew H H') := ⟨fun j hj => hf j hj (by simp)⟩
    replace hf := Hd.mk hf
    obtain ⟨a', c', rfl⟩ := hs.val
    replace hs := Hd.mk hs
    replace hi := Hd.mk hi
    repeat' (first
      | (simp (disch := first | omega | assumption) only [go_sem, ↓reduceIte, Nat.reduceEqDiff, reduceCtorEq, Nat.reduceAdd, Nat.reduceMul, Int.reduceToNat, Nat.reduceShiftRight, Nat.reduceAnd, Nat.reduceBNe, Nat.reduceBneDiff, Nat.reduceLT, Nat.reduceLeDiff, Int.reduceLT, Int.reduceLE, Int.reduceEq, Int.reduceAdd, Int.reduceSub, *])
      | (refine br_prop (fun hb => ?_) (fun hb => ?_) <;> try (exfalso; omega))
      | refine br_not ?_
      | (refine by_prop (fun hb => ?_) (fun hb => ?_) <;> try (exfalso; omega))
      | (refine by_prop' (fun hb => ?_) (fun hb => ?_) <;> try (exfalso; omega))
      | refine by_not ?_
      | refine w_drawn (by kernel_rfl) ?_
      | refine new_i' (by rfl) (fun j hj hn => ?_)
      | refine new_i (fun j hn => ?_)
      | refine br_bool (fun hb => ?_) (fun hb => ?_)
      | refine by_bool (fun hb => ?_) (fun hb => ?_)
      | refine by_bool' (fun hb => ?_) (fun hb => ?_))
    refine hk.go _ _ (some i) hg.go hs.go fun k hk' => ?_
    injection hk' with hk'
    subst hk'
    exact hi.go.resolve_left (by simp)
end Go.Proofs
namespace Go.Proofs
set_option linter.unusedSimpArgs false
set_option linter.unusedVariables false
set_option linter.unusedSectionVars false
open Go Go.Ab AsmM
variable [Go.Ab.Start]
set_option maxRecDepth 100000
set_option maxHeartbeats 1000000
theorem readA_of {o : AObj} {cs : List Value} (h : cellsOf o = some cs) (k : Nat) (n : Option Nat) : readA o k n = readA (.cells cs) k n := by
  cases n <;> (unfold readA; rw [h]; rfl)
theorem code11r (v1 v2 : Value) (l1 l2 : List Ins) (o1 o2 : Option Nat) (H : AHeap) (h1 : SLr H 7 v1 l1.length (l1.flatMap encI) o1) (h2 : SLr H 7 v2 l2.length (l2.flatMap encI) o2) (hl : l1.length ≤ 2513169434843) (K : Value → AHeap → Prop) (hk : K (.bool (decide (l1 = l2))) H) : ACalls Tryd.prog 11 #[v1, v2] H K := by
  have hk0 := Hd.mk hk
  clear hk
  obtain ⟨a1, c1, rfl⟩ := h1.val
  obtain ⟨a2, c2, rfl⟩ := h2.val
  refine w_enter (args := [.slice a1 l1.length c1, .slice a2 l2.length c2]) Tryd.func11 rfl (by kernel_rfl) D.mixed (by kernel_rfl) (rs := [.tmp 4]) rfl ?_
  replace h1 := Hd.mk h1
  replace h2 := Hd.mk h2
  repeat' (first
    | (simp (disch := first | omega | assumption) only [go_sem, ↓reduceIte, Nat.reduceEqDiff, reduceCtorEq, Nat.reduceAdd, Nat.reduceMul, Int.reduceToNat, Nat.reduceShiftRight, Nat.reduceAnd, Nat.reduceBNe, Nat.reduceBneDiff, Nat.reduceLT, Nat.reduceLeDiff, Int.reduceLT, Int.reduceLE, Int.reduceEq, Int.reduceAdd, Int.reduceSub, *])
    | (refine br_prop (fun hb => ?_) (fun hb => ?_) <;> try (exfalso; omega))
    | refine br_not ?_
    | (refine by_prop (fun hb => ?_) (fun hb => ?_) <;> try (exfalso; omega))
    | (refine by_prop' (fun hb => ?_) (fun hb => ?_) <;> try (exfalso; omega))
    | refine by_not ?_
    | refine w_drawn (by kernel_rfl) ?_
    | refine new_i' (by rfl) (fun j hj hn => ?_)
    | refine new_i (fun j hn => ?_)
    | refine br_bool (fun hb => ?_) (fun hb => ?_)
    | refine by_bool (fun hb => ?_) (fun hb => ?_)
    | refine by_bool' (fun hb => ?_) (fun hb => ?_))
  rotate_left
  · have : ¬ l1 = l2 := fun e => by subst e; omega
    have hk := hk0.go
    rw [decide_eq_false this] at hk
    exact hk
  have hll : l1.length = l2.length := by omega
  refine W.loopF 67106864 (fun n e H' => H' = H ∧ ∃ i : Nat, e 5 = .int .i64 i ∧ i ≤ l1.length ∧ n = l1.length - i ∧ l1.take i = l2.take i) l1.length (by kernel_rfl) ?_ ?_
  · exact ⟨rfl, 0, by simp (disch := first | omega | assumption) only [go_sem, ↓reduceIte, Nat.reduceEqDiff, reduceCtorEq, Nat.reduceAdd, Nat.reduceMul, Int.reduceToNat, Nat.reduceShiftRight, Nat.reduceAnd, Nat.reduceBNe, Nat.reduceBneDiff, Nat.reduceLT, Nat.reduceLeDiff, Int.reduceLT, Int.reduceLE, Int.reduceEq, Int.reduceAdd, Int.reduceSub, *]; try rfl, by omega, by omega, rfl⟩
  rintro n e Hc J hJ ⟨hHc, i, he, h0, rfl, hT⟩
  subst hHc
  replace hT := Hd.mk hT
  replace hll := Hd.mk hll
  repeat' (first
    | (simp (disch := first | omega | assumption) only [go_sem, ↓reduceIte, Nat.reduceEqDiff, reduceCtorEq, Nat.reduceAdd, Nat.reduceMul, Int.reduceToNat, Nat.reduceShiftRight, Nat.reduceAnd, Nat.reduceBNe, Nat.reduceBneDiff, Nat.reduceLT, Nat.reduceLeDiff, Int.reduceLT, Int.reduceLE, Int.reduceEq, Int.reduceAdd, Int.reduceSub, *])
    | (refine br_prop (fun hb => ?_) (fun hb => ?_) <;> try (exfalso; omega))
    | refine br_not ?_
    | (refine by_prop (fun hb => ?_) (fun hb => ?_) <;> try (exfalso; omega))
    | (refine by_prop' (fun hb => ?_) (fun hb => ?_) <;> try (exfalso; omega))
    | refine by_not ?_
    | refine w_drawn (by kernel_rfl) ?_
    | refine new_i' (by rfl) (fun j hj hn => ?_)
    | refine new_i (fun j hn => ?_)
    | refine br_bool (fun hb => ?_) (fun hb => ?_)
    | refine by_bool (fun hb => ?_) (fun hb => ?_)
    | refine by_bool' (fun hb => ?_) (fun hb => ?_))
  · have hll := hll.go
    obtain ⟨i1, rfl⟩ : ∃ i1, o1 = some i1 := by
      cases o1 with
      | none => obtain ⟨_, _, h, _⟩ := h1.go; omega
      | some i2 => exact ⟨_, rfl⟩
    obtain ⟨i2, rfl⟩ : ∃ i2, o2 = some i2 := by
      cases o2 with
      | none => obtain ⟨_, _, h, _⟩ := h2.go; omega
      | some i2 => exact ⟨_, rfl⟩
    obtain ⟨c1', d1, e1, hH1, _⟩ := h1.go
    injection e1 with e1a e1b e1c
    subst e1a
    obtain ⟨c2', d2, e2, hH2, _⟩ := h2.go
    injection e2 with e2a e2b e2c
    subst e2a
    obtain ⟨x, hx⟩ : ∃ x, x = l1.getD i Ins.zero := ⟨_, rfl⟩
    obtain ⟨y, hy⟩ : ∃ y, y = l2.getD i Ins.zero := ⟨_, rfl⟩
    have hr1 : readA (Hc i1) (i * 7) (some 7) = some (.agg #[.int .i64 x.op, .int .i64 x.a, .int .i64 x.b, .int .i64 x.c, .int .u64 x.v, .int .i64 x.m, .int .i64 x.w]) := by
      rw [readA_of hH1, flat_read (enc := encI) (fun _ => rfl) Ins.zero (by omega), hx]; rfl
    have hr2 : readA (Hc i2) (i * 7) (some 7) = some (.agg #[.int .i64 y.op, .int .i64 y.a, .int .i64 y.b, .int .i64 y.c, .int .u64 y.v, .int .i64 y.m, .int .i64 y.w]) := by
      rw [readA_of hH2, flat_read (enc := encI) (fun _ => rfl) Ins.zero (by omega), hy]; rfl
    replace hx := Hd.mk hx
    replace hy := Hd.mk hy
    have hq := eq37 Hc (.tmp 20) (.tmp 24) x y
    clear e1b e2b hH1 hH2 hll
    replace hll : Hd (l1.length = l2.length) := by assumption
    repeat' (first
      | (simp (disch := first | omega | assumption) only [go_sem, ↓reduceIte, Nat.reduceEqDiff, reduceCtorEq, Nat.reduceAdd, Nat.reduceMul, Int.reduceToNat, Nat.reduceShiftRight, Nat.reduceAnd, Nat.reduceBNe, Nat.reduceBneDiff, Nat.reduceLT, Nat.reduceLeDiff, Int.reduceLT, Int.reduceLE, Int.reduceEq, Int.reduceAdd, Int.reduceSub, *])
      | (refine br_prop (fun hb => ?_) (fun hb => ?_) <;> try (exfalso; omega))
      | refine br_not ?_
      | (refine by_prop (fun hb => ?_) (fun hb => ?_) <;> try (exfalso; omega))
      | (refine by_prop' (fun hb => ?_) (fun hb => ?_) <;> try (exfalso; omega))
      | refine by_not ?_
      | refine w_drawn (by kernel_rfl) ?_
      | refine new_i' (by rfl) (fun j hj hn => ?_)
      | refine new_i (fun j hn => ?_)
      | refine br_bool (fun hb => ?_) (fun hb => ?_)
      | refine by_bool (fun hb => ?_) (fun hb => ?_)
      | refine by_bool' (fun hb => ?_) (fun hb => ?_))
    · rename_i hb
      have hxy : x = y := of_decide_eq_true (by simpa using hb)
      refine inv_i (hJ.go _ _ ⟨_, by omega, rfl, i + 1, rfl, by omega, rfl, ?_⟩)
      have hll := hll.go
      have e1 := hx.go
      have e2 := hy.go
      rw [List.getD_eq_getElem?_getD, List.getElem?_eq_getElem (by omega)] at e1
      rw [List.getD_eq_getElem?_getD, List.getElem?_eq_getElem (by omega)] at e2
      rw [List.take_succ_eq_append_getElem (by omega), List.take_succ_eq_append_getElem (by omega), hT.go]
      simp only [Option.getD_some] at e1 e2
      rw [← e1, ← e2, hxy]
    · rename_i hb
      have hxy : ¬ x = y := by simpa using hb
      have : ¬ l1 = l2 := fun e => hxy (by rw [hx.go, hy.go, e])
      have hk := hk0.go
      rw [decide_eq_false this] at hk
      exact hk
  · have : l1 = l2 := by
      have h := hT.go
      rw [List.take_of_length_le (by omega), List.take_of_length_le (by have := hll.go; omega)] at h
      exact h
    have hk := hk0.go
    rw [decide_eq_true this] at hk
    exact hk
end Go.Proofs
