/-
  A part of the proofs: EP.
-/
import Derived.Test.YtnbfimppgcoajaaDoorDT
import Derived.Test.YtnbfimppgcoajaaDoorAbS
import Derived.Test.YtnbfimppgcoajaaDoorAbEq
import Derived.Test.YtnbfimppgcoajaaDoorPA
import Derived.Test.YtnbfimppgcoajaaDoorPEN
namespace Go.Proofs
set_option linter.unusedSimpArgs false
set_option linter.unusedVariables false
set_option linter.unusedSectionVars false
open Go Go.Ab AsmM
variable [Go.Ab.Start]
set_option maxRecDepth 100000
set_option maxHeartbeats 1000000
/-! ### Structs compared -/
def sameL (p q : Bytes × Int) : Bool := decide (p.1 = q.1) && (decide (p.2 = q.2) && true)
def sameI (x y : Ins) : Bool := decide (x.op = y.op) && (decide (x.a = y.a) && (decide (x.b = y.b) && (decide (x.c = y.c) && (decide (x.v = y.v) && (decide (x.m = y.m) && (decide (x.w = y.w) && true))))))
theorem sameI_eq (x y : Ins) : sameI x y = decide (x = y) := by
  cases x; cases y; simp [sameI]
theorem sameL_eq (x y : Bytes × Int) : sameL x y = decide (x = y) := by
  cases x; cases y; simp [sameL]
theorem eq37 (H : AHeap) (x y : Operand) (a b : Ins) : binV Tryd.prog H .neq 37 x y (.agg #[.int .i64 a.op, .int .i64 a.a, .int .i64 a.b, .int .i64 a.c, .int .u64 a.v, .int .i64 a.m, .int .i64 a.w]) (.agg #[.int .i64 b.op, .int .i64 b.a, .int .i64 b.b, .int .i64 b.c, .int .u64 b.v, .int .i64 b.m, .int .i64 b.w]) = some (.bool (!(decide (a = b)))) := by
  have h : eqFieldsA Tryd.prog #[.int .i64 a.op, .int .i64 a.a, .int .i64 a.b, .int .i64 a.c, .int .u64 a.v, .int .i64 a.m, .int .i64 a.w] #[.int .i64 b.op, .int .i64 b.a, .int .i64 b.b, .int .i64 b.c, .int .u64 b.v, .int .i64 b.m, .int .i64 b.w] (Tryd.prog.fieldsOf 37).toList = some (sameI a b) := by kernel_rfl
  rw [sameI_eq] at h
  exact (bin_struct (by kernel_rfl) (by kernel_rfl) (by kernel_rfl) rfl rfl h).2
theorem eq33 (H : AHeap) (x y : Operand) (a b : Bytes × Int) : binV Tryd.prog H .neq 33 x y (.agg #[.string (bA a.1), .int .i64 a.2]) (.agg #[.string (bA b.1), .int .i64 b.2]) = some (.bool (!(decide (a = b)))) := by
  have h : eqFieldsA Tryd.prog #[.string (bA a.1), .int .i64 a.2] #[.string (bA b.1), .int .i64 b.2] (Tryd.prog.fieldsOf 33).toList = some (sameL a b) := by kernel_rfl
  rw [sameL_eq] at h
  exact (bin_struct (by kernel_rfl) (by kernel_rfl) (by kernel_rfl) rfl rfl h).2
/-! ### Code -/
theorem code11 (v1 v2 : Value) (l1 l2 : List Ins) (o1 o2 : Option Nat) (H : AHeap) (h1 : SL H 7 v1 l1.length (l1.flatMap encI) o1) (h2 : SL H 7 v2 l2.length (l2.flatMap encI) o2) (hl : l1.length ≤ 1000000) (K : Value → AHeap → Prop) (hk : K (.bool (decide (l1 = l2))) H) : ACalls Tryd.prog 11 #[v1, v2] H K := by
  have hk0 := Hd.mk hk
  clear hk
  obtain ⟨a1, c1, rfl⟩ := h1.val
  obtain ⟨a2, c2, rfl⟩ := h2.val
  refine w_enter (args := [.slice a1 l1.length c1, .slice a2 l2.length c2]) Tryd.func11 rfl (by kernel_rfl) D.mixed (by kernel_rfl) (rs := [.tmp 4]) rfl ?_
  replace h1 := Hd.mk h1
  replace h2 := Hd.mk h2
  repeat' (first
    | (simp (disch := first | omega | assumption) only [go_sem, ↓reduceIte, Nat.reduceEqDiff, reduceCtorEq, Nat.reduceAdd, Nat.reduceMul, Int.reduceToNat, Nat.reduceShiftRight, Nat.reduceAnd, Nat.reduceBNe, Nat.reduceBneDiff, Nat.reduceLT, Nat.reduceLeDiff, Int.reduceLT, Int.reduceLE, Int.reduceEq, Int.reduceAdd, Int.reduceSub, *])
    | (refine br_prop (fun hb => ?_) (fun hb => ?_) <;> try (exfalso; omega))
    | refine br_not ?_
    | (refine by_prop (fun hb => ?_) (fun hb => ?_) <;> try (exfalso; omega))
    | (refine by_prop' (fun hb => ?_) (fun hb => ?_) <;> try (exfalso; omega))
    | refine by_not ?_
    | refine w_drawn (by kernel_rfl) ?_
    | refine new_i' (by rfl) (fun j hj hn => ?_)
    | refine new_i (fun j hn => ?_)
    | refine br_bool (fun hb => ?_) (fun hb => ?_)
    | refine by_bool (fun hb => ?_) (fun hb => ?_)
    | refine by_bool' (fun hb => ?_) (fun hb => ?_))
  rotate_left
  · have : ¬ l1 = l2 := fun e => by subst e; omega
    have hk := hk0.go
    rw [decide_eq_false this] at hk
    exact hk
  have hll : l1.length = l2.length := by omega
  refine W.loopF 67106864 (fun n e H' => H' = H ∧ ∃ i : Nat, e 5 = .int .i64 i ∧ i ≤ l1.length ∧ n = l1.length - i ∧ l1.take i = l2.take i) l1.length (by kernel_rfl) ?_ ?_
  · exact ⟨rfl, 0, by simp (disch := first | omega | assumption) only [go_sem, ↓reduceIte, Nat.reduceEqDiff, reduceCtorEq, Nat.reduceAdd, Nat.reduceMul, Int.reduceToNat, Nat.reduceShiftRight, Nat.reduceAnd, Nat.reduceBNe, Nat.reduceBneDiff, Nat.reduceLT, Nat.reduceLeDiff, Int.reduceLT, Int.reduceLE, Int.reduceEq, Int.reduceAdd, Int.reduceSub, *]; try rfl, by omega, by omega, rfl⟩
  rintro n e Hc J hJ ⟨hHc, i, he, h0, rfl, hT⟩
  subst hHc
  replace hT := Hd.mk hT
  replace hll := Hd.mk hll
  repeat' (first
    | (simp (disch := first | omega | assumption) only [go_sem, ↓reduceIte, Nat.reduceEqDiff, reduceCtorEq, Nat.reduceAdd, Nat.reduceMul, Int.reduceToNat, Nat.reduceShiftRight, Nat.reduceAnd, Nat.reduceBNe, Nat.reduceBneDiff, Nat.reduceLT, Nat.reduceLeDiff, Int.reduceLT, Int.reduceLE, Int.reduceEq, Int.reduceAdd, Int.reduceSub, *])
    | (refine br_prop (fun hb => ?_) (fun hb => ?_) <;> try (exfalso; omega))
    | refine br_not ?_
    | (refine by_prop (fun hb => ?_) (fun hb => ?_) <;> try (exfalso; omega))
    | (refine by_prop' (fun hb => ?_) (fun hb => ?_) <;> try (exfalso; omega))
    | refine by_not ?_
    | refine w_drawn (by kernel_rfl) ?_
    | refine new_i' (by rfl) (fun j hj hn => ?_)
    | refine new_i (fun j hn => ?_)
    | refine br_bool (fun hb => ?_) (fun hb => ?_)
    | refine by_bool (fun hb => ?_) (fun hb => ?_)
    | refine by_bool' (fun hb => ?_) (fun hb => ?_))
  · have hll := hll.go
    obtain ⟨i1, rfl⟩ : ∃ i1, o1 = some i1 := by
      cases o1 with
      | none => obtain ⟨_, h, _⟩ := h1.go; omega
      | some i2 => exact ⟨_, rfl⟩
    obtain ⟨i2, rfl⟩ : ∃ i2, o2 = some i2 := by
      cases o2 with
      | none => obtain ⟨_, h, _⟩ := h2.go; omega
      | some i2 => exact ⟨_, rfl⟩
    obtain ⟨c1', d1, e1, hH1, _, _, _⟩ := h1.go
    injection e1 with e1a e1b e1c
    subst e1a
    obtain ⟨c2', d2, e2, hH2, _, _, _⟩ := h2.go
    injection e2 with e2a e2b e2c
    subst e2a
    obtain ⟨x, hx⟩ : ∃ x, x = l1.getD i Ins.zero := ⟨_, rfl⟩
    obtain ⟨y, hy⟩ : ∃ y, y = l2.getD i Ins.zero := ⟨_, rfl⟩
    have hr1 : readA (Hc i1) (i * 7) (some 7) = some (.agg #[.int .i64 x.op, .int .i64 x.a, .int .i64 x.b, .int .i64 x.c, .int .u64 x.v, .int .i64 x.m, .int .i64 x.w]) := by
      rw [hH1, flat_read (enc := encI) (fun _ => rfl) Ins.zero (by omega), hx]; rfl
    have hr2 : readA (Hc i2) (i * 7) (some 7) = some (.agg #[.int .i64 y.op, .int .i64 y.a, .int .i64 y.b, .int .i64 y.c, .int .u64 y.v, .int .i64 y.m, .int .i64 y.w]) := by
      rw [hH2, flat_read (enc := encI) (fun _ => rfl) Ins.zero (by omega), hy]; rfl
    replace hx := Hd.mk hx
    replace hy := Hd.mk hy
    have hq := eq37 Hc (.tmp 20) (.tmp 24) x y
    clear e1b e2b hH1 hH2 hll
    replace hll : Hd (l1.length = l2.length) := by assumption
    repeat' (first
      | (simp (disch := first | omega | assumption) only [go_sem, ↓reduceIte, Nat.reduceEqDiff, reduceCtorEq, Nat.reduceAdd, Nat.reduceMul, Int.reduceToNat, Nat.reduceShiftRight, Nat.reduceAnd, Nat.reduceBNe, Nat.reduceBneDiff, Nat.reduceLT, Nat.reduceLeDiff, Int.reduceLT, Int.reduceLE, Int.reduceEq, Int.reduceAdd, Int.reduceSub, *])
      | (refine br_prop (fun hb => ?_) (fun hb => ?_) <;> try (exfalso; omega))
      | refine br_not ?_
      | (refine by_prop (fun hb => ?_) (fun hb => ?_) <;> try (exfalso; omega))
      | (refine by_prop' (fun hb => ?_) (fun hb => ?_) <;> try (exfalso; omega))
      | refine by_not ?_
      | refine w_drawn (by kernel_rfl) ?_
      | refine new_i' (by rfl) (fun j hj hn => ?_)
      | refine new_i (fun j hn => ?_)
      | refine br_bool (fun hb => ?_) (fun hb => ?_)
      | refine by_bool (fun hb => ?_) (fun hb => ?_)
      | refine by_bool' (fun hb => ?_) (fun hb => ?_))
    · rename_i hb
      have hxy : x = y := of_decide_eq_true (by simpa using hb)
      refine inv_i (hJ.go _ _ ⟨_, by omega, rfl, i + 1, rfl, by omega, rfl, ?_⟩)
      have hll := hll.go
      have e1 := hx.go
      have e2 := hy.go
      rw [List.getD_eq_getElem?_getD, List.getElem?_eq_getElem (by omega)] at e1
      rw [List.getD_eq_getElem?_getD, List.getElem?_eq_getElem (by omega)] at e2
      rw [List.take_succ_eq_append_getElem (by omega), List.take_succ_eq_append_getElem (by omega), hT.go]
      simp only [Option.getD_some] at e1 e2
      rw [← e1, ← e2, hxy]
    · rename_i hb
      have hxy : ¬ x = y := by simpa using hb
      have : ¬ l1 = l2 := fun e => hxy (by rw [hx.go, hy.go, e])
      have hk := hk0.go
      rw [decide_eq_false this] at hk
      exact hk
  · have : l1 = l2 := by
      have h := hT.go
      rw [List.take_of_length_le (by omega), List.take_of_length_le (by have := hll.go; omega)] at h
      exact h
    have hk := hk0.go
    rw [decide_eq_true this] at hk
    exact hk
end Go.Proofs
