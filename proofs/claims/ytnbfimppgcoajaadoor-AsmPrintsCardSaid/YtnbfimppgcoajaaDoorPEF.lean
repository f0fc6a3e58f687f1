/-
  A part of the proofs: EF EG.
-/
import Derived.Test.YtnbfimppgcoajaaDoorDT
import Derived.Test.YtnbfimppgcoajaaDoorAbS
import Derived.Test.YtnbfimppgcoajaaDoorPA
import Derived.Test.YtnbfimppgcoajaaDoorPB
namespace Go.Proofs
set_option linter.unusedSimpArgs false
set_option linter.unusedVariables false
set_option linter.unusedSectionVars false
open Go Go.Ab AsmM
variable [Go.Ab.Start]
set_option maxRecDepth 100000
set_option maxHeartbeats 1000000
def opsV (op : Int) : List Value := ((operands op ++ [0, 0, 0]).take 3).map (.int .i64 ·)
theorem opsV_rest (op : Int) (h : ¬ (op = 1 ∨ op = 13 ∨ op = 14 ∨ op = 12 ∨ op = 15 ∨ op = 22 ∨ op = 43 ∨ op = 45 ∨ op = 21 ∨ op = 32 ∨ (17 ≤ op ∧ op ≤ 20) ∨ op = 31)) : (fields op = (true, true, true, true) ∧ operands op = [1, 2, 4]) ∨ (fields op = (true, true, true, false) ∧ operands op = [1, 2, 3]) ∨ (fields op = (true, true, false, false) ∧ operands op = [1, 2]) ∨ (fields op = (true, false, false, false) ∧ operands op = [1]) ∨ (fields op = (false, false, false, false) ∧ operands op = []) := by
  have e : operands op = if 3 ≤ op ∧ op ≤ 11 then [1, 2, 4] else if (24 ≤ op ∧ op ≤ 27) ∨ op = 48 then [1, 2, 3] else if op = 2 ∨ op = 23 ∨ op = 49 ∨ op = 50 ∨ op = 47 ∨ op = 39 ∨ op = 54 then [1, 2] else if (28 ≤ op ∧ op ≤ 30) ∨ (34 ≤ op ∧ op ≤ 38) ∨ (40 ≤ op ∧ op ≤ 42) ∨ op = 44 ∨ op = 46 ∨ (51 ≤ op ∧ op ≤ 53) ∨ op = 57 then [1] else [] := by
    unfold operands
    rw [if_neg (by omega), if_neg (by omega), if_neg (by omega), if_neg (by omega), if_neg (by omega), if_neg (by omega), if_neg (by omega), if_neg (by omega)]
  rw [e]
  unfold fields
  by_cases h1 : 3 ≤ op ∧ op ≤ 11
  · rw [if_pos (by omega), if_pos h1]; simp
  rw [if_neg (by omega : ¬ ((3 ≤ op ∧ op ≤ 11) ∨ op = 21 ∨ op = 32)), if_neg h1]
  by_cases h2 : (24 ≤ op ∧ op ≤ 27) ∨ op = 48
  · rw [if_pos h2, if_pos h2]; simp
  rw [if_neg h2, if_neg h2]
  by_cases h3 : op = 2 ∨ op = 23 ∨ op = 49 ∨ op = 50 ∨ op = 47 ∨ op = 39 ∨ op = 54
  · rw [if_pos h3, if_pos h3]; simp
  rw [if_neg h3, if_neg h3, if_neg (by omega), if_neg (by omega), if_neg (by omega)]
  by_cases h4 : (28 ≤ op ∧ op ≤ 30) ∨ (34 ≤ op ∧ op ≤ 38) ∨ (40 ≤ op ∧ op ≤ 42) ∨ op = 44 ∨ op = 46 ∨ (51 ≤ op ∧ op ≤ 53) ∨ op = 57
  · rw [if_pos h4, if_pos h4]; simp
  rw [if_neg h4, if_neg h4]; simp
theorem operands27 (op : Int) (H : AHeap) (K : Value → AHeap → Prop) (hk : ∀ H', Grew H H' → K (.agg (List.toArray (opsV op))) H') : ACalls Tryd.prog 27 #[.int .i64 op] H K := by
  refine w_enter (args := [.int .i64 op]) Tryd.func27 rfl (by kernel_rfl) D.mixed (by kernel_rfl) (rs := [.cell 2 78]) rfl ?_
  repeat' (first
    | (simp (disch := first | omega | assumption) only [go_sem, ↓reduceIte, Nat.reduceEqDiff, reduceCtorEq, Nat.reduceAdd, Nat.reduceMul, Int.reduceToNat, Nat.reduceShiftRight, Nat.reduceAnd, Nat.reduceBNe, Nat.reduceBneDiff, Nat.reduceLT, Nat.reduceLeDiff, Int.reduceLT, Int.reduceLE, Int.reduceEq, Int.reduceAdd, Int.reduceSub, true_and])
    | (refine br_prop (fun hb => ?_) (fun hb => ?_) <;> try (exfalso; omega))
    | refine br_not ?_
    | (refine by_prop (fun hb => ?_) (fun hb => ?_) <;> try (exfalso; omega))
    | (refine by_prop' (fun hb => ?_) (fun hb => ?_) <;> try (exfalso; omega))
    | refine by_not ?_
    | refine w_drawn (by kernel_rfl) ?_
    | refine new_i' (by rfl) (fun j hj hn => ?_)
    | refine new_i (fun j hn => ?_)
    | refine br_bool (fun hb => ?_) (fun hb => ?_)
    | refine by_bool (fun hb => ?_) (fun hb => ?_)
    | refine by_bool' (fun hb => ?_) (fun hb => ?_))
  all_goals first
    | (subst_vars; exact hk _ (by repeat' (first | exact Grew.refl _ | refine Grew.set ?_ _ (by assumption) | assumption)))
    | refine call_i (fields46 _ _ _ ?_)
  rcases opsV_rest op (by omega) with ⟨h1, h2⟩ | ⟨h1, h2⟩ | ⟨h1, h2⟩ | ⟨h1, h2⟩ | ⟨h1, h2⟩
  all_goals
    rw [h1]
    have e : opsV op = ((operands op ++ [0, 0, 0]).take 3).map (.int .i64 ·) := rfl
    rw [h2] at e
    rw [e] at hk
    repeat' (first
      | (simp (disch := first | omega | assumption) only [go_sem, ↓reduceIte, Nat.reduceEqDiff, reduceCtorEq, Nat.reduceAdd, Nat.reduceMul, Int.reduceToNat, Nat.reduceShiftRight, Nat.reduceAnd, Nat.reduceBNe, Nat.reduceBneDiff, Nat.reduceLT, Nat.reduceLeDiff, Int.reduceLT, Int.reduceLE, Int.reduceEq, Int.reduceAdd, Int.reduceSub, *])
      | (refine br_prop (fun hb => ?_) (fun hb => ?_) <;> try (exfalso; omega))
      | refine br_not ?_
      | (refine by_prop (fun hb => ?_) (fun hb => ?_) <;> try (exfalso; omega))
      | (refine by_prop' (fun hb => ?_) (fun hb => ?_) <;> try (exfalso; omega))
      | refine by_not ?_
      | refine w_drawn (by kernel_rfl) ?_
      | refine new_i' (by rfl) (fun j hj hn => ?_)
      | refine new_i (fun j hn => ?_)
      | refine br_bool (fun hb => ?_) (fun hb => ?_)
      | refine by_bool (fun hb => ?_) (fun hb => ?_)
      | refine by_bool' (fun hb => ?_) (fun hb => ?_))
    exact hk _ (by repeat' (first | exact Grew.refl _ | refine Grew.set ?_ _ (by assumption) | assumption))
end Go.Proofs
namespace Go.Proofs
set_option linter.unusedSimpArgs false
set_option linter.unusedVariables false
set_option linter.unusedSectionVars false
open Go Go.Ab AsmM
variable [Go.Ab.Start]
set_option maxRecDepth 100000
set_option maxHeartbeats 1000000
def bA (l : Bytes) : ByteArray := ⟨l.toArray⟩
theorem bA_data (l : Bytes) : (bA l).data.toList = l := rfl
theorem bA_of (s : ByteArray) : bA s.data.toList = s := by cases s; rfl
theorem bA_inj {a b : Bytes} (h : bA a = bA b) : a = b := by rw [← bA_data a, h, bA_data]
def encLab (p : Bytes × Int) : List Value := [.string (bA p.1), .int .i64 p.2]
def encW (w : Want) : List Value := [.int .i64 w.ins, .int .i64 w.line, .string (bA w.name)]
def mapE (labels : List (Bytes × Int)) : List (Value × Value) := labels.zipIdx.map fun p => (.string (bA p.1.1), .int .i64 (p.2 : Nat))
def Dj (r mp : Nat) (o1 o2 o3 o4 : Option Nat) : Prop := (r :: mp :: (o1.toList ++ o2.toList ++ o3.toList ++ o4.toList)).Nodup
/-- The names of a reader's objects. -/
def FR (r mp : Nat) (o1 o2 o3 o4 : Option Nat) (j : Nat) : Prop := j = r ∨ j = mp ∨ o1 = some j ∨ o2 = some j ∨ o3 = some j ∨ o4 = some j
structure RdR (H : AHeap) (r : Nat) (st : St) (ms : List (Bytes × Int)) (mp : Nat) (o1 o2 o3 o4 : Option Nat) : Prop where
  obj : ∃ v1 v2 v3 v4, H r = .cells [v1, v2, v3, .map (some mp), v4] ∧ SL H 7 v1 st.l.length (st.l.flatMap encI) o1 ∧ SL H 2 v2 st.labels.length (st.labels.flatMap encLab) o2 ∧ SL H 1 v3 st.lines.length (st.lines.map (.int .i64 ·)) o3 ∧ SL H 3 v4 st.wants.length (st.wants.flatMap encW) o4
  map : H mp = .map (mapE ms)
  dj : Dj r mp o1 o2 o3 o4
theorem Dj.facts {r mp : Nat} {o1 o2 o3 o4 : Option Nat} (h : Dj r mp o1 o2 o3 o4) : r ≠ mp ∧ o1 ≠ some r ∧ o2 ≠ some r ∧ o3 ≠ some r ∧ o4 ≠ some r ∧ o1 ≠ some mp ∧ o2 ≠ some mp ∧ o3 ≠ some mp ∧ o4 ≠ some mp ∧ (∀ i, o1 = some i → o2 ≠ some i ∧ o3 ≠ some i ∧ o4 ≠ some i) ∧ (∀ i, o2 = some i → o3 ≠ some i ∧ o4 ≠ some i) ∧ (∀ i, o3 = some i → o4 ≠ some i) := by
  unfold Dj at h
  cases o1 <;> cases o2 <;> cases o3 <;> cases o4 <;> simp at h ⊢ <;> grind
theorem Dj.mk {r mp : Nat} {o1 o2 o3 o4 : Option Nat} (h : r ≠ mp ∧ o1 ≠ some r ∧ o2 ≠ some r ∧ o3 ≠ some r ∧ o4 ≠ some r ∧ o1 ≠ some mp ∧ o2 ≠ some mp ∧ o3 ≠ some mp ∧ o4 ≠ some mp ∧ (∀ i, o1 = some i → o2 ≠ some i ∧ o3 ≠ some i ∧ o4 ≠ some i) ∧ (∀ i, o2 = some i → o3 ≠ some i ∧ o4 ≠ some i) ∧ (∀ i, o3 = some i → o4 ≠ some i)) : Dj r mp o1 o2 o3 o4 := by
  unfold Dj
  cases o1 <;> cases o2 <;> cases o3 <;> cases o4 <;> simp at h ⊢ <;> grind
theorem RdR.some_ne {H : AHeap} {r mp : Nat} {st : St} {ms : List (Bytes × Int)} {o1 o2 o3 o4 : Option Nat} (h : RdR H r st ms mp o1 o2 o3 o4) (j : Nat) (hj : FR r mp o1 o2 o3 o4 j) : H j ≠ .none := by
  obtain ⟨v1, v2, v3, v4, h1, h2, h3, h4, h5⟩ := h.obj
  rcases hj with rfl | rfl | rfl | rfl | rfl | rfl
  · rw [h1]; simp
  · rw [h.map]; simp
  · exact h2.some_ne
  · exact h3.some_ne
  · exact h4.some_ne
  · exact h5.some_ne
/-- Where its objects are the same. -/
theorem RdR.frame {H H' : AHeap} {r mp : Nat} {st : St} {ms : List (Bytes × Int)} {o1 o2 o3 o4 : Option Nat} (h : RdR H r st ms mp o1 o2 o3 o4) (hf : ∀ j, FR r mp o1 o2 o3 o4 j → H' j = H j) : RdR H' r st ms mp o1 o2 o3 o4 := by
  obtain ⟨v1, v2, v3, v4, h1, h2, h3, h4, h5⟩ := h.obj
  refine ⟨⟨v1, v2, v3, v4, by rw [hf r (.inl rfl)]; exact h1, h2.frame fun i e => hf i ?_, h3.frame fun i e => hf i ?_, h4.frame fun i e => hf i ?_, h5.frame fun i e => hf i ?_⟩, by rw [hf mp (.inr (.inl rfl))]; exact h.map, h.dj⟩ <;> unfold FR <;> simp [e]
theorem RdR.chg {H H' : AHeap} {r mp : Nat} {st : St} {ms : List (Bytes × Int)} {o1 o2 o3 o4 : Option Nat} (h : RdR H r st ms mp o1 o2 o3 o4) {F : Nat → Prop} (hc : Chg F H H') (hf : ∀ j, FR r mp o1 o2 o3 o4 j → ¬ F j) : RdR H' r st ms mp o1 o2 o3 o4 :=
  h.frame fun j hj => hc j (h.some_ne j hj) (hf j hj)
/-- A slice of it with more cells. -/
theorem RdR.ins {H H' : AHeap} {r mp : Nat} {st : St} {ms : List (Bytes × Int)} {o1 o2 o3 o4 : Option Nat} {w : Ins} {v1 v2 v3 v4 v' : Value} {i : Nat} (h : RdR H r st ms mp o1 o2 o3 o4) (hr : H r = .cells [v1, v2, v3, .map (some mp), v4]) (hs : SL H' 7 v' (st.l.length + 1) (st.l.flatMap encI ++ encI w) (some i)) (hf : ∀ j, H j ≠ .none → o1 ≠ some j → H' j = H j) (hi : o1 = some i ∨ H i = .none) :
    RdR (H'.set r (.cells [v', v2, v3, .map (some mp), v4])) r { st with l := st.l ++ [w] } ms mp (some i) o2 o3 o4 ∧ ∀ j, FR r mp (some i) o2 o3 o4 j → FR r mp o1 o2 o3 o4 j ∨ H j = .none := by
  obtain ⟨w1, w2, w3, w4, h1, h2, h3, h4, h5⟩ := h.obj
  rw [hr] at h1
  simp only [AObj.cells.injEq, List.cons.injEq, and_true, true_and] at h1
  obtain ⟨rfl, rfl, rfl, rfl⟩ := h1
  have d := h.dj.facts
  have ne := h.some_ne
  have fresh : H i = .none → ∀ j, FR r mp o1 o2 o3 o4 j → j ≠ i := fun hn j hj e => ne j hj (by rw [e]; exact hn)
  have d' : Dj r mp (some i) o2 o3 o4 := by
    apply Dj.mk
    rcases hi with hi | hi
    · subst hi; exact d
    · have f1 := fresh hi r (.inl rfl)
      have f2 := fresh hi mp (.inr (.inl rfl))
      have g1 : o1 ≠ some i := fun e => fresh hi i (by unfold FR; simp [e]) rfl
      have g2 : o2 ≠ some i := fun e => fresh hi i (by unfold FR; simp [e]) rfl
      have g3 : o3 ≠ some i := fun e => fresh hi i (by unfold FR; simp [e]) rfl
      have g4 : o4 ≠ some i := fun e => fresh hi i (by unfold FR; simp [e]) rfl
      grind
  have dd := d'.facts
  refine ⟨⟨⟨v', v2, v3, v4, AHeap.set_same _ _ _, ?_, ?_, ?_, ?_⟩, ?_, d'⟩, ?_⟩
  · have hs' : SL H' 7 v' (st.l ++ [w]).length ((st.l ++ [w]).flatMap encI) (some i) := by simpa using hs
    exact hs'.frame fun k e => AHeap.set_ne _ _ (by grind)
  · exact h3.frame fun k e => by rw [AHeap.set_ne _ _ (by grind), hf k (ne k (by unfold FR; simp [e])) (by grind)]
  · exact h4.frame fun k e => by rw [AHeap.set_ne _ _ (by grind), hf k (ne k (by unfold FR; simp [e])) (by grind)]
  · exact h5.frame fun k e => by rw [AHeap.set_ne _ _ (by grind), hf k (ne k (by unfold FR; simp [e])) (by grind)]
  · rw [AHeap.set_ne _ _ (by grind), hf mp (ne mp (.inr (.inl rfl))) (by grind)]; exact h.map
  · intro j hj
    unfold FR at hj ⊢
    rcases hi with hi | hi
    · subst hi; exact .inl hj
    · rcases hj with h | h | h | h | h | h <;> first | (cases h; exact .inr hi) | (simp [h]; done)
/-- A slice of it with more cells. -/
theorem RdR.lab {H H' : AHeap} {r mp : Nat} {st : St} {ms : List (Bytes × Int)} {o1 o2 o3 o4 : Option Nat} {w : Bytes × Int} {v1 v2 v3 v4 v' : Value} {i : Nat} (h : RdR H r st ms mp o1 o2 o3 o4) (hr : H r = .cells [v1, v2, v3, .map (some mp), v4]) (hs : SL H' 2 v' (st.labels.length + 1) (st.labels.flatMap encLab ++ encLab w) (some i)) (hf : ∀ j, H j ≠ .none → o2 ≠ some j → H' j = H j) (hi : o2 = some i ∨ H i = .none) :
    RdR (H'.set r (.cells [v1, v', v3, .map (some mp), v4])) r { st with labels := st.labels ++ [w] } ms mp o1 (some i) o3 o4 ∧ ∀ j, FR r mp o1 (some i) o3 o4 j → FR r mp o1 o2 o3 o4 j ∨ H j = .none := by
  obtain ⟨w1, w2, w3, w4, h1, h2, h3, h4, h5⟩ := h.obj
  rw [hr] at h1
  simp only [AObj.cells.injEq, List.cons.injEq, and_true, true_and] at h1
  obtain ⟨rfl, rfl, rfl, rfl⟩ := h1
  have d := h.dj.facts
  have ne := h.some_ne
  have fresh : H i = .none → ∀ j, FR r mp o1 o2 o3 o4 j → j ≠ i := fun hn j hj e => ne j hj (by rw [e]; exact hn)
  have d' : Dj r mp o1 (some i) o3 o4 := by
    apply Dj.mk
    rcases hi with hi | hi
    · subst hi; exact d
    · have f1 := fresh hi r (.inl rfl)
      have f2 := fresh hi mp (.inr (.inl rfl))
      have g1 : o1 ≠ some i := fun e => fresh hi i (by unfold FR; simp [e]) rfl
      have g2 : o2 ≠ some i := fun e => fresh hi i (by unfold FR; simp [e]) rfl
      have g3 : o3 ≠ some i := fun e => fresh hi i (by unfold FR; simp [e]) rfl
      have g4 : o4 ≠ some i := fun e => fresh hi i (by unfold FR; simp [e]) rfl
      grind
  have dd := d'.facts
  refine ⟨⟨⟨v1, v', v3, v4, AHeap.set_same _ _ _, ?_, ?_, ?_, ?_⟩, ?_, d'⟩, ?_⟩
  · exact h2.frame fun k e => by rw [AHeap.set_ne _ _ (by grind), hf k (ne k (by unfold FR; simp [e])) (by grind)]
  · have hs' : SL H' 2 v' (st.labels ++ [w]).length ((st.labels ++ [w]).flatMap encLab) (some i) := by simpa using hs
    exact hs'.frame fun k e => AHeap.set_ne _ _ (by grind)
  · exact h4.frame fun k e => by rw [AHeap.set_ne _ _ (by grind), hf k (ne k (by unfold FR; simp [e])) (by grind)]
  · exact h5.frame fun k e => by rw [AHeap.set_ne _ _ (by grind), hf k (ne k (by unfold FR; simp [e])) (by grind)]
  · rw [AHeap.set_ne _ _ (by grind), hf mp (ne mp (.inr (.inl rfl))) (by grind)]; exact h.map
  · intro j hj
    unfold FR at hj ⊢
    rcases hi with hi | hi
    · subst hi; exact .inl hj
    · rcases hj with h | h | h | h | h | h <;> first | (cases h; exact .inr hi) | (simp [h]; done)
/-- A slice of it with more cells. -/
theorem RdR.lin {H H' : AHeap} {r mp : Nat} {st : St} {ms : List (Bytes × Int)} {o1 o2 o3 o4 : Option Nat} {w : Int} {v1 v2 v3 v4 v' : Value} {i : Nat} (h : RdR H r st ms mp o1 o2 o3 o4) (hr : H r = .cells [v1, v2, v3, .map (some mp), v4]) (hs : SL H' 1 v' (st.lines.length + 1) (st.lines.map (.int .i64 ·) ++ [.int .i64 w]) (some i)) (hf : ∀ j, H j ≠ .none → o3 ≠ some j → H' j = H j) (hi : o3 = some i ∨ H i = .none) :
    RdR (H'.set r (.cells [v1, v2, v', .map (some mp), v4])) r { st with lines := st.lines ++ [w] } ms mp o1 o2 (some i) o4 ∧ ∀ j, FR r mp o1 o2 (some i) o4 j → FR r mp o1 o2 o3 o4 j ∨ H j = .none := by
  obtain ⟨w1, w2, w3, w4, h1, h2, h3, h4, h5⟩ := h.obj
  rw [hr] at h1
  simp only [AObj.cells.injEq, List.cons.injEq, and_true, true_and] at h1
  obtain ⟨rfl, rfl, rfl, rfl⟩ := h1
  have d := h.dj.facts
  have ne := h.some_ne
  have fresh : H i = .none → ∀ j, FR r mp o1 o2 o3 o4 j → j ≠ i := fun hn j hj e => ne j hj (by rw [e]; exact hn)
  have d' : Dj r mp o1 o2 (some i) o4 := by
    apply Dj.mk
    rcases hi with hi | hi
    · subst hi; exact d
    · have f1 := fresh hi r (.inl rfl)
      have f2 := fresh hi mp (.inr (.inl rfl))
      have g1 : o1 ≠ some i := fun e => fresh hi i (by unfold FR; simp [e]) rfl
      have g2 : o2 ≠ some i := fun e => fresh hi i (by unfold FR; simp [e]) rfl
      have g3 : o3 ≠ some i := fun e => fresh hi i (by unfold FR; simp [e]) rfl
      have g4 : o4 ≠ some i := fun e => fresh hi i (by unfold FR; simp [e]) rfl
      grind
  have dd := d'.facts
  refine ⟨⟨⟨v1, v2, v', v4, AHeap.set_same _ _ _, ?_, ?_, ?_, ?_⟩, ?_, d'⟩, ?_⟩
  · exact h2.frame fun k e => by rw [AHeap.set_ne _ _ (by grind), hf k (ne k (by unfold FR; simp [e])) (by grind)]
  · exact h3.frame fun k e => by rw [AHeap.set_ne _ _ (by grind), hf k (ne k (by unfold FR; simp [e])) (by grind)]
  · have hs' : SL H' 1 v' (st.lines ++ [w]).length ((st.lines ++ [w]).map (.int .i64 ·)) (some i) := by simpa using hs
    exact hs'.frame fun k e => AHeap.set_ne _ _ (by grind)
  · exact h5.frame fun k e => by rw [AHeap.set_ne _ _ (by grind), hf k (ne k (by unfold FR; simp [e])) (by grind)]
  · rw [AHeap.set_ne _ _ (by grind), hf mp (ne mp (.inr (.inl rfl))) (by grind)]; exact h.map
  · intro j hj
    unfold FR at hj ⊢
    rcases hi with hi | hi
    · subst hi; exact .inl hj
    · rcases hj with h | h | h | h | h | h <;> first | (cases h; exact .inr hi) | (simp [h]; done)
/-- A slice of it with more cells. -/
theorem RdR.want {H H' : AHeap} {r mp : Nat} {st : St} {ms : List (Bytes × Int)} {o1 o2 o3 o4 : Option Nat} {w : Want} {v1 v2 v3 v4 v' : Value} {i : Nat} (h : RdR H r st ms mp o1 o2 o3 o4) (hr : H r = .cells [v1, v2, v3, .map (some mp), v4]) (hs : SL H' 3 v' (st.wants.length + 1) (st.wants.flatMap encW ++ encW w) (some i)) (hf : ∀ j, H j ≠ .none → o4 ≠ some j → H' j = H j) (hi : o4 = some i ∨ H i = .none) :
    RdR (H'.set r (.cells [v1, v2, v3, .map (some mp), v'])) r { st with wants := st.wants ++ [w] } ms mp o1 o2 o3 (some i) ∧ ∀ j, FR r mp o1 o2 o3 (some i) j → FR r mp o1 o2 o3 o4 j ∨ H j = .none := by
  obtain ⟨w1, w2, w3, w4, h1, h2, h3, h4, h5⟩ := h.obj
  rw [hr] at h1
  simp only [AObj.cells.injEq, List.cons.injEq, and_true, true_and] at h1
  obtain ⟨rfl, rfl, rfl, rfl⟩ := h1
  have d := h.dj.facts
  have ne := h.some_ne
  have fresh : H i = .none → ∀ j, FR r mp o1 o2 o3 o4 j → j ≠ i := fun hn j hj e => ne j hj (by rw [e]; exact hn)
  have d' : Dj r mp o1 o2 o3 (some i) := by
    apply Dj.mk
    rcases hi with hi | hi
    · subst hi; exact d
    · have f1 := fresh hi r (.inl rfl)
      have f2 := fresh hi mp (.inr (.inl rfl))
      have g1 : o1 ≠ some i := fun e => fresh hi i (by unfold FR; simp [e]) rfl
      have g2 : o2 ≠ some i := fun e => fresh hi i (by unfold FR; simp [e]) rfl
      have g3 : o3 ≠ some i := fun e => fresh hi i (by unfold FR; simp [e]) rfl
      have g4 : o4 ≠ some i := fun e => fresh hi i (by unfold FR; simp [e]) rfl
      grind
  have dd := d'.facts
  refine ⟨⟨⟨v1, v2, v3, v', AHeap.set_same _ _ _, ?_, ?_, ?_, ?_⟩, ?_, d'⟩, ?_⟩
  · exact h2.frame fun k e => by rw [AHeap.set_ne _ _ (by grind), hf k (ne k (by unfold FR; simp [e])) (by grind)]
  · exact h3.frame fun k e => by rw [AHeap.set_ne _ _ (by grind), hf k (ne k (by unfold FR; simp [e])) (by grind)]
  · exact h4.frame fun k e => by rw [AHeap.set_ne _ _ (by grind), hf k (ne k (by unfold FR; simp [e])) (by grind)]
  · have hs' : SL H' 3 v' (st.wants ++ [w]).length ((st.wants ++ [w]).flatMap encW) (some i) := by simpa using hs
    exact hs'.frame fun k e => AHeap.set_ne _ _ (by grind)
  · rw [AHeap.set_ne _ _ (by grind), hf mp (ne mp (.inr (.inl rfl))) (by grind)]; exact h.map
  · intro j hj
    unfold FR at hj ⊢
    rcases hi with hi | hi
    · subst hi; exact .inl hj
    · rcases hj with h | h | h | h | h | h <;> first | (cases h; exact .inr hi) | (simp [h]; done)
theorem RdR.mapu {H : AHeap} {r mp : Nat} {st : St} {ms ms' : List (Bytes × Int)} {o1 o2 o3 o4 : Option Nat} (h : RdR H r st ms mp o1 o2 o3 o4) : RdR (H.set mp (.map (mapE ms'))) r st ms' mp o1 o2 o3 o4 := by
  obtain ⟨v1, v2, v3, v4, h1, h2, h3, h4, h5⟩ := h.obj
  have d := h.dj.facts
  exact ⟨⟨v1, v2, v3, v4, by rw [AHeap.set_ne _ _ (by grind)]; exact h1, h2.frame fun k e => AHeap.set_ne _ _ (by grind), h3.frame fun k e => AHeap.set_ne _ _ (by grind), h4.frame fun k e => AHeap.set_ne _ _ (by grind), h5.frame fun k e => AHeap.set_ne _ _ (by grind)⟩, AHeap.set_same _ _ _, h.dj⟩
end Go.Proofs
