/-
  A part of the proofs: GA GB GC GD GE.
-/
import Derived.Test.YtnbfimppgcoajaaDoorDT
import Derived.Test.YtnbfimppgcoajaaDoorAbS
import Derived.Test.YtnbfimppgcoajaaDoorAbEq
import Derived.Test.YtnbfimppgcoajaaDoorPA
import Derived.Test.YtnbfimppgcoajaaDoorPEF
import Derived.Test.YtnbfimppgcoajaaDoorPT
import Derived.Test.YtnbfimppgcoajaaDoorEA
import Derived.Test.YtnbfimppgcoajaaDoorPEB
namespace Go.Proofs
set_option linter.unusedSimpArgs false
set_option linter.unusedVariables false
set_option linter.unusedSectionVars false
open Go Go.Ab AsmM
variable [Go.Ab.Start]
set_option maxRecDepth 100000
set_option maxHeartbeats 1000000
def u8v (b : UInt8) : Value := .int .u8 (b.toNat : Int)
theorem bytesA_map : ∀ l : Bytes, bytesA (l.map u8v) = some (l.map fun b => (b.toNat : Int))
  | [] => rfl
  | b :: l => by
    rw [List.map_cons]
    unfold bytesA
    rw [bytesA_map l]
    rfl
theorem dec_step (v : Nat) : dec v = (if v < 10 then [] else dec (v / 10)) ++ [UInt8.ofNat (48 + v % 10)] := by
  rw [dec]
  split
  · rename_i h; rw [Nat.mod_eq_of_lt h]; rfl
  · rfl
theorem sl130 {i : Nat} {a : Int} (h0 : 0 ≤ a) (h1 : a < 20) : sliceA Tryd.prog 130 (.pointer (some ⟨i, 0, none⟩)) (some (.int .i64 a)) none none = some (.slice (some ⟨i, a.toNat, none⟩) (20 - a.toNat) (20 - a.toNat)) := by
  have h2 : a ≤ 20 := by omega
  have h3 : 20 ≠ a.toNat := by omega
  simp [sliceA, D.u130, D.s5, boundsA, boundA, h0, h2, h3]
theorem conv75 {H : AHeap} {i k n c : Nat} {cs : List Value} {xs : List Int} (hH : H i = .cells cs) (hb : bytesA ((cs.drop k).take n) = some xs) (hk : k + n ≤ cs.length) : convV Tryd.prog H 75 9 (.slice (some ⟨i, k, none⟩) n c) = some (.string (strOfNums xs)) := by
  have h1 : convA Tryd.prog 75 9 (.slice (some ⟨i, k, none⟩) n c) = none := by kernel_rfl
  have h2 : Tryd.prog.underlying 75 = some (.slice 5) := by kernel_rfl
  have h3 : isU8 (Tryd.prog.underlying 5) = true := by kernel_rfl
  unfold convV
  rw [h1]
  simp only [convBytesA, h2, D.u9, h3, if_true, hH, cellsOf, Option.bind_some, hk, hb, Option.map_some]
theorem print45 (v : Nat) (hv : v < 18446744073709551616) (H : AHeap) (K : Value → AHeap → Prop) (hk : ∀ H', Grew H H' → K (.string (bA (dec v))) H') : ACalls Tryd.prog 45 #[.int .u64 v] H K := by
  replace hk := Hd.mk hk
  refine w_enter (args := [.int .u64 v]) Tryd.func45 rfl (by kernel_rfl) D.mixed (by kernel_rfl) (rs := [.tmp 2]) rfl ?_
  repeat' (first
    | (simp (disch := first | omega | assumption) only [go_sem, ↓reduceIte, Nat.reduceEqDiff, reduceCtorEq, Nat.reduceAdd, Nat.reduceMul, Int.reduceToNat, Nat.reduceShiftRight, Nat.reduceAnd, Nat.reduceBNe, Nat.reduceBneDiff, Nat.reduceLT, Nat.reduceLeDiff, Int.reduceLT, Int.reduceLE, Int.reduceEq, Int.reduceAdd, Int.reduceSub, *])
    | (refine br_prop (fun hb => ?_) (fun hb => ?_) <;> try (exfalso; omega))
    | refine br_not ?_
    | (refine by_prop (fun hb => ?_) (fun hb => ?_) <;> try (exfalso; omega))
    | (refine by_prop' (fun hb => ?_) (fun hb => ?_) <;> try (exfalso; omega))
    | refine by_not ?_
    | refine w_drawn (by kernel_rfl) ?_
    | refine new_i' (by rfl) (fun j hj hn => ?_)
    | refine new_i (fun j hn => ?_)
    | refine br_bool (fun hb => ?_) (fun hb => ?_)
    | refine by_bool (fun hb => ?_) (fun hb => ?_)
    | refine by_bool' (fun hb => ?_) (fun hb => ?_))
  refine W.loopF 1048565 (fun n e Hc => ∃ (i : Nat) (x : Nat) (T : Bytes) (L : List Value), e 4 = .int .i64 i ∧ e 0 = .int .u64 x ∧ Hc = H.set j (.cells L) ∧ L.length = 20 ∧ 1 ≤ i ∧ i ≤ 20 ∧ n = i ∧ T.length = 20 - i ∧ L.drop i = T.map u8v ∧ dec v = dec x ++ T ∧ x < 10 ^ i ∧ x ≤ v) 20 (by kernel_rfl) ?_ ?_
  · exact ⟨20, v, [], _, by simp (disch := first | omega | assumption) only [go_sem, ↓reduceIte, Nat.reduceEqDiff, reduceCtorEq, Nat.reduceAdd, Nat.reduceMul, Int.reduceToNat, Nat.reduceShiftRight, Nat.reduceAnd, Nat.reduceBNe, Nat.reduceBneDiff, Nat.reduceLT, Nat.reduceLeDiff, Int.reduceLT, Int.reduceLE, Int.reduceEq, Int.reduceAdd, Int.reduceSub, *]; try rfl, by simp (disch := first | omega | assumption) only [go_sem, ↓reduceIte, Nat.reduceEqDiff, reduceCtorEq, Nat.reduceAdd, Nat.reduceMul, Int.reduceToNat, Nat.reduceShiftRight, Nat.reduceAnd, Nat.reduceBNe, Nat.reduceBneDiff, Nat.reduceLT, Nat.reduceLeDiff, Int.reduceLT, Int.reduceLE, Int.reduceEq, Int.reduceAdd, Int.reduceSub, *]; try rfl, rfl, rfl, by omega, by omega, rfl, rfl, rfl, by simp, by omega, Nat.le_refl _⟩
  rintro n e Hc J hJ ⟨i, x, T, L, he4, he0, rfl, hL, h1, h2, rfl, hT, hD, hd, hx, hxv⟩
  replace hD := Hd.mk hD
  replace hd := Hd.mk hd
  have hx2 : x < 18446744073709551616 := by omega
  replace hx := Hd.mk hx
  have hwr : ∀ (k : Nat) (v : Int), k < 20 → writeA (.cells L) k [.int .u8 v] = some (.cells (L.set k (.int .u8 v))) := fun k v hk => write_one (by omega) rfl
  have hdig : (.int .u8 (48 + (x : Int) % 10) : Value) = u8v (UInt8.ofNat (48 + x % 10)) := by
    unfold u8v
    rw [UInt8.toNat_ofNat']
    have : (48 + x % 10) % 2 ^ 8 = 48 + x % 10 := Nat.mod_eq_of_lt (by omega)
    rw [this]
    simp
  have hset : (L.set (n - 1) (u8v (UInt8.ofNat (48 + x % 10)))).drop (n - 1) = u8v (UInt8.ofNat (48 + x % 10)) :: L.drop n := by
    rw [List.drop_eq_getElem_cons (by rw [List.length_set]; omega), List.getElem_set_self, List.drop_set_of_lt (by omega), Nat.sub_add_cancel h1]
  replace hdig := Hd.mk hdig
  replace hset := Hd.mk hset
  have hsl : sliceA Tryd.prog 130 (.pointer (some ⟨j, 0, none⟩)) (some (.int .i64 ((n : Int) - 1))) none none = some (.slice (some ⟨j, n - 1, none⟩) (20 - (n - 1)) (20 - (n - 1))) := by
    have h := sl130 (i := j) (a := (n : Int) - 1) (by omega) (by omega)
    rw [show ((n : Int) - 1).toNat = n - 1 by omega] at h
    exact h
  have hcv : x / 10 = 0 → convV Tryd.prog (H.set j (.cells (L.set (n - 1) (.int .u8 (48 + (x : Int) % 10))))) 75 9 (.slice (some ⟨j, n - 1, none⟩) (20 - (n - 1)) (20 - (n - 1))) = some (.string (bA (dec v))) := by
    intro hx0
    have hdv : dec v = UInt8.ofNat (48 + x % 10) :: T := by
      rw [hd.go, dec_step x, if_pos (by omega)]; rfl
    have hb : bytesA (((L.set (n - 1) (.int .u8 (48 + (x : Int) % 10))).drop (n - 1)).take (20 - (n - 1))) = some ((dec v).map fun b => (b.toNat : Int)) := by
      rw [hdig.go, hset.go, hD.go, hdv, ← List.map_cons, List.take_of_length_le (by simp; omega)]
      exact bytesA_map _
    rw [conv75 (AHeap.set_same _ _ _) hb (by rw [List.length_set]; omega)]
    congr 1
    congr 1
    unfold strOfNums bA
    rw [List.map_map]
    congr 1
    congr 1
    conv => rhs; rw [← List.map_id (dec v)]
    refine List.map_congr_left fun b _ => ?_
    simp
  replace hcv := Hd.mk hcv
  repeat' (first
    | (simp (disch := first | omega | assumption) only [go_sem, ↓reduceIte, Nat.reduceEqDiff, reduceCtorEq, Nat.reduceAdd, Nat.reduceMul, Int.reduceToNat, Nat.reduceShiftRight, Nat.reduceAnd, Nat.reduceBNe, Nat.reduceBneDiff, Nat.reduceLT, Nat.reduceLeDiff, Int.reduceLT, Int.reduceLE, Int.reduceEq, Int.reduceAdd, Int.reduceSub, *])
    | (refine br_prop (fun hb => ?_) (fun hb => ?_) <;> try (exfalso; omega))
    | refine br_not ?_
    | (refine by_prop (fun hb => ?_) (fun hb => ?_) <;> try (exfalso; omega))
    | (refine by_prop' (fun hb => ?_) (fun hb => ?_) <;> try (exfalso; omega))
    | refine by_not ?_
    | refine w_drawn (by kernel_rfl) ?_
    | refine new_i' (by rfl) (fun j hj hn => ?_)
    | refine new_i (fun j hn => ?_)
    | refine br_bool (fun hb => ?_) (fun hb => ?_)
    | refine by_bool (fun hb => ?_) (fun hb => ?_)
    | refine by_bool' (fun hb => ?_) (fun hb => ?_))
  · have hc := hcv.go (by omega)
    clear hwr
    repeat' (first
      | (simp (disch := first | omega | assumption) only [go_sem, ↓reduceIte, Nat.reduceEqDiff, reduceCtorEq, Nat.reduceAdd, Nat.reduceMul, Int.reduceToNat, Nat.reduceShiftRight, Nat.reduceAnd, Nat.reduceBNe, Nat.reduceBneDiff, Nat.reduceLT, Nat.reduceLeDiff, Int.reduceLT, Int.reduceLE, Int.reduceEq, Int.reduceAdd, Int.reduceSub, *])
      | (refine br_prop (fun hb => ?_) (fun hb => ?_) <;> try (exfalso; omega))
      | refine br_not ?_
      | (refine by_prop (fun hb => ?_) (fun hb => ?_) <;> try (exfalso; omega))
      | (refine by_prop' (fun hb => ?_) (fun hb => ?_) <;> try (exfalso; omega))
      | refine by_not ?_
      | refine w_drawn (by kernel_rfl) ?_
      | refine new_i' (by rfl) (fun j hj hn => ?_)
      | refine new_i (fun j hn => ?_)
      | refine br_bool (fun hb => ?_) (fun hb => ?_)
      | refine by_bool (fun hb => ?_) (fun hb => ?_)
      | refine by_bool' (fun hb => ?_) (fun hb => ?_))
    exact hk.go _ ((Grew.refl _).set _ hn)
  · have hx10 : 10 ≤ x := by omega
    have hn2 : 2 ≤ n := by
      rcases Nat.lt_or_ge n 2 with h | h
      · have : n = 1 := by omega
        subst this
        have := hx.go
        omega
      · exact h
    refine inv_i (hJ.go _ _ ⟨n - 1, by omega, n - 1, x / 10, UInt8.ofNat (48 + x % 10) :: T, _, ?_, ?_, rfl, by rw [List.length_set]; exact hL, by omega, by omega, rfl, by simp; omega, ?_, ?_, ?_, by omega⟩)
    · show Value.int .i64 ((n : Int) - 1) = _
      rw [show ((n - 1 : Nat) : Int) = (n : Int) - 1 by omega]
    · rfl
    · rw [hdig.go, hset.go, hD.go]; rfl
    · rw [hd.go, dec_step x, if_neg (by omega), List.append_assoc]; rfl
    · have := hx.go
      rw [show n = (n - 1) + 1 by omega, Nat.pow_succ] at this
      omega
end Go.Proofs
namespace Go.Proofs
set_option linter.unusedSimpArgs false
set_option linter.unusedVariables false
set_option linter.unusedSectionVars false
open Go Go.Ab AsmM
variable [Go.Ab.Start]
set_option maxRecDepth 100000
set_option maxHeartbeats 1000000
theorem bA_size (l : Bytes) : (bA l).size = l.length := by simp [bA, ByteArray.size]
theorem bA_cat (a b : Bytes) : bA a ++ bA b = bA (a ++ b) := by
  have h : (bA a ++ bA b).data.toList = (bA (a ++ b)).data.toList := by rw [ByteArray.data_append, Array.toList_append]; rfl
  rw [← bA_of (bA a ++ bA b), h, bA_data]
theorem cat (a b : Bytes) (h : a.length + b.length ≤ 1000000) : binS .add (bA a) (bA b) = some (.string (bA (a ++ b))) := by
  unfold binS
  simp only [bA_size]
  rw [if_pos (by omega), bA_cat]
theorem dec_len : ∀ (k v : Nat), v < 10 ^ (k + 1) → (dec v).length ≤ k + 1
  | 0, v, h => by rw [dec_step, if_pos (by omega)]; simp
  | k + 1, v, h => by
    rw [dec_step]
    split
    · simp
    · have := dec_len k (v / 10) (by rw [Nat.pow_succ] at h; omega)
      simp; omega
theorem dec_len20 (v : Nat) (h : v < 18446744073709551616) : (dec v).length ≤ 20 := dec_len 19 v (by omega)
theorem spell25 (v : Nat) (hv : v < 18446744073709551616) (H : AHeap) (K : Value → AHeap → Prop) (hk : ∀ H', Grew H H' → K (.string (bA (spell v))) H') : ACalls Tryd.prog 25 #[.int .u64 v] H K := by
  replace hk := Hd.mk hk
  refine w_enter (args := [.int .u64 v]) Tryd.func25 rfl (by kernel_rfl) D.mixed (by kernel_rfl) (rs := [.tmp 2]) rfl ?_
  repeat' (first
    | (simp (disch := first | omega | assumption) only [go_sem, ↓reduceIte, Nat.reduceEqDiff, reduceCtorEq, Nat.reduceAdd, Nat.reduceMul, Int.reduceToNat, Nat.reduceShiftRight, Nat.reduceAnd, Nat.reduceBNe, Nat.reduceBneDiff, Nat.reduceLT, Nat.reduceLeDiff, Int.reduceLT, Int.reduceLE, Int.reduceEq, Int.reduceAdd, Int.reduceSub, *])
    | (refine br_prop (fun hb => ?_) (fun hb => ?_) <;> try (exfalso; omega))
    | refine br_not ?_
    | (refine by_prop (fun hb => ?_) (fun hb => ?_) <;> try (exfalso; omega))
    | (refine by_prop' (fun hb => ?_) (fun hb => ?_) <;> try (exfalso; omega))
    | refine by_not ?_
    | refine w_drawn (by kernel_rfl) ?_
    | refine new_i' (by rfl) (fun j hj hn => ?_)
    | refine new_i (fun j hn => ?_)
    | refine br_bool (fun hb => ?_) (fun hb => ?_)
    | refine by_bool (fun hb => ?_) (fun hb => ?_)
    | refine by_bool' (fun hb => ?_) (fun hb => ?_))
  refine call_i (print45 v hv _ _ fun H' hg => ?_)
  have hc : binS .add (ByteArray.mk #[112]) (bA (dec v)) = some (.string (bA (spell v))) := cat [112] (dec v) (by have := dec_len20 v hv; simp; omega)
  replace hg := Hd.mk hg
  repeat' (first
    | (simp (disch := first | omega | assumption) only [go_sem, ↓reduceIte, Nat.reduceEqDiff, reduceCtorEq, Nat.reduceAdd, Nat.reduceMul, Int.reduceToNat, Nat.reduceShiftRight, Nat.reduceAnd, Nat.reduceBNe, Nat.reduceBneDiff, Nat.reduceLT, Nat.reduceLeDiff, Int.reduceLT, Int.reduceLE, Int.reduceEq, Int.reduceAdd, Int.reduceSub, *])
    | (refine br_prop (fun hb => ?_) (fun hb => ?_) <;> try (exfalso; omega))
    | refine br_not ?_
    | (refine by_prop (fun hb => ?_) (fun hb => ?_) <;> try (exfalso; omega))
    | (refine by_prop' (fun hb => ?_) (fun hb => ?_) <;> try (exfalso; omega))
    | refine by_not ?_
    | refine w_drawn (by kernel_rfl) ?_
    | refine new_i' (by rfl) (fun j hj hn => ?_)
    | refine new_i (fun j hn => ?_)
    | refine br_bool (fun hb => ?_) (fun hb => ?_)
    | refine by_bool (fun hb => ?_) (fun hb => ?_)
    | refine by_bool' (fun hb => ?_) (fun hb => ?_))
  exact hk.go _ hg.go
theorem reg47 (n : Int) (h0 : 0 ≤ n) (h1 : n < 9223372036854775808) (H : AHeap) (K : Value → AHeap → Prop) (hk : ∀ H', Grew H H' → K (.string (bA (AsmM.reg n))) H') : ACalls Tryd.prog 47 #[.int .i64 n] H K := by
  replace hk := Hd.mk hk
  obtain ⟨v, rfl⟩ : ∃ v : Nat, n = v := ⟨n.toNat, by omega⟩
  refine w_enter (args := [.int .i64 v]) Tryd.func47 rfl (by kernel_rfl) D.mixed (by kernel_rfl) (rs := [.tmp 2]) rfl ?_
  repeat' (first
    | (simp (disch := first | omega | assumption) only [go_sem, ↓reduceIte, Nat.reduceEqDiff, reduceCtorEq, Nat.reduceAdd, Nat.reduceMul, Int.reduceToNat, Nat.reduceShiftRight, Nat.reduceAnd, Nat.reduceBNe, Nat.reduceBneDiff, Nat.reduceLT, Nat.reduceLeDiff, Int.reduceLT, Int.reduceLE, Int.reduceEq, Int.reduceAdd, Int.reduceSub, *])
    | (refine br_prop (fun hb => ?_) (fun hb => ?_) <;> try (exfalso; omega))
    | refine br_not ?_
    | (refine by_prop (fun hb => ?_) (fun hb => ?_) <;> try (exfalso; omega))
    | (refine by_prop' (fun hb => ?_) (fun hb => ?_) <;> try (exfalso; omega))
    | refine by_not ?_
    | refine w_drawn (by kernel_rfl) ?_
    | refine new_i' (by rfl) (fun j hj hn => ?_)
    | refine new_i (fun j hn => ?_)
    | refine br_bool (fun hb => ?_) (fun hb => ?_)
    | refine by_bool (fun hb => ?_) (fun hb => ?_)
    | refine by_bool' (fun hb => ?_) (fun hb => ?_))
  refine call_i (print45 v (by omega) _ _ fun H' hg => ?_)
  have hc : binS .add (ByteArray.mk #[114]) (bA (dec v)) = some (.string (bA (AsmM.reg v))) := cat [114] (dec v) (by have := dec_len20 v (by omega); simp; omega)
  replace hg := Hd.mk hg
  repeat' (first
    | (simp (disch := first | omega | assumption) only [go_sem, ↓reduceIte, Nat.reduceEqDiff, reduceCtorEq, Nat.reduceAdd, Nat.reduceMul, Int.reduceToNat, Nat.reduceShiftRight, Nat.reduceAnd, Nat.reduceBNe, Nat.reduceBneDiff, Nat.reduceLT, Nat.reduceLeDiff, Int.reduceLT, Int.reduceLE, Int.reduceEq, Int.reduceAdd, Int.reduceSub, *])
    | (refine br_prop (fun hb => ?_) (fun hb => ?_) <;> try (exfalso; omega))
    | refine br_not ?_
    | (refine by_prop (fun hb => ?_) (fun hb => ?_) <;> try (exfalso; omega))
    | (refine by_prop' (fun hb => ?_) (fun hb => ?_) <;> try (exfalso; omega))
    | refine by_not ?_
    | refine w_drawn (by kernel_rfl) ?_
    | refine new_i' (by rfl) (fun j hj hn => ?_)
    | refine new_i (fun j hn => ?_)
    | refine br_bool (fun hb => ?_) (fun hb => ?_)
    | refine by_bool (fun hb => ?_) (fun hb => ?_)
    | refine by_bool' (fun hb => ?_) (fun hb => ?_))
  exact hk.go _ hg.go
def insV (x : Ins) : Value := .agg #[.int .i64 x.op, .int .i64 x.a, .int .i64 x.b, .int .i64 x.c, .int .u64 x.v, .int .i64 x.m, .int .i64 x.w]
theorem marked29 (x : Ins) (h0 : 0 ≤ x.m) (h1 : x.m < 9223372036854775808) (H : AHeap) (K : Value → AHeap → Prop) (hk : ∀ H', Grew H H' → K (.string (bA (marked x))) H') : ACalls Tryd.prog 29 #[insV x] H K := by
  replace hk := Hd.mk hk
  obtain ⟨m, hm⟩ : ∃ m : Nat, x.m = m := ⟨x.m.toNat, by omega⟩
  have hl := dec_len20 m (by omega)
  have hmk : marked x = if x.m = 0 then [] else ([32, 33] ++ dec m) ++ tailW x.w := by
    unfold marked; rw [hm]; rfl
  unfold insV
  refine w_enter (args := [.agg #[.int .i64 x.op, .int .i64 x.a, .int .i64 x.b, .int .i64 x.c, .int .u64 x.v, .int .i64 x.m, .int .i64 x.w]]) Tryd.func29 rfl (by kernel_rfl) D.mixed (by kernel_rfl) (rs := [.tmp 2]) rfl ?_
  have hm1 : (m : Int) < 9223372036854775808 := by omega
  rw [hm] at hmk ⊢
  replace hm := Hd.mk hm
  clear h0 h1
  repeat' (first
    | (simp (disch := first | omega | assumption) only [go_sem, ↓reduceIte, Nat.reduceEqDiff, reduceCtorEq, Nat.reduceAdd, Nat.reduceMul, Int.reduceToNat, Nat.reduceShiftRight, Nat.reduceAnd, Nat.reduceBNe, Nat.reduceBneDiff, Nat.reduceLT, Nat.reduceLeDiff, Int.reduceLT, Int.reduceLE, Int.reduceEq, Int.reduceAdd, Int.reduceSub, *])
    | (refine br_prop (fun hb => ?_) (fun hb => ?_) <;> try (exfalso; omega))
    | refine br_not ?_
    | (refine by_prop (fun hb => ?_) (fun hb => ?_) <;> try (exfalso; omega))
    | (refine by_prop' (fun hb => ?_) (fun hb => ?_) <;> try (exfalso; omega))
    | refine by_not ?_
    | refine w_drawn (by kernel_rfl) ?_
    | refine new_i' (by rfl) (fun j hj hn => ?_)
    | refine new_i (fun j hn => ?_)
    | refine br_bool (fun hb => ?_) (fun hb => ?_)
    | refine by_bool (fun hb => ?_) (fun hb => ?_)
    | refine by_bool' (fun hb => ?_) (fun hb => ?_))
  · rw [if_pos (by omega)] at hmk
    have h := hk.go
    rw [hmk] at h
    exact h _ ((Grew.refl _).new _ hn)
  · refine call_i (print45 m (by omega) _ _ fun H' hg => ?_)
    rw [if_neg (by omega)] at hmk
    have hc : binS .add (ByteArray.mk #[32, 33]) (bA (dec m)) = some (.string (bA ([32, 33] ++ dec m))) := cat [32, 33] (dec m) (by simp; omega)
    have hc2 : binS .add (bA ([32, 33] ++ dec m)) (ByteArray.mk #[61, 48]) = some (.string (bA ([32, 33] ++ dec m ++ [61, 48]))) := cat _ [61, 48] (by simp; omega)
    have hc3 : binS .add (bA ([32, 33] ++ dec m)) (ByteArray.mk #[62, 48]) = some (.string (bA ([32, 33] ++ dec m ++ [62, 48]))) := cat _ [62, 48] (by simp; omega)
    have hG := (((Grew.refl H).new _ hn).trans hg)
    have hj : H' j = _ := (hg j (by rw [AHeap.set_same]; simp)).trans (AHeap.set_same _ _ _)
    replace hg := Hd.mk hg
    replace hmk := Hd.mk hmk
    replace hG := Hd.mk hG
    repeat' (first
      | (simp (disch := first | omega | assumption) only [go_sem, ↓reduceIte, Nat.reduceEqDiff, reduceCtorEq, Nat.reduceAdd, Nat.reduceMul, Int.reduceToNat, Nat.reduceShiftRight, Nat.reduceAnd, Nat.reduceBNe, Nat.reduceBneDiff, Nat.reduceLT, Nat.reduceLeDiff, Int.reduceLT, Int.reduceLE, Int.reduceEq, Int.reduceAdd, Int.reduceSub, *])
      | (refine br_prop (fun hb => ?_) (fun hb => ?_) <;> try (exfalso; omega))
      | refine br_not ?_
      | (refine by_prop (fun hb => ?_) (fun hb => ?_) <;> try (exfalso; omega))
      | (refine by_prop' (fun hb => ?_) (fun hb => ?_) <;> try (exfalso; omega))
      | refine by_not ?_
      | refine w_drawn (by kernel_rfl) ?_
      | refine new_i' (by rfl) (fun j hj hn => ?_)
      | refine new_i (fun j hn => ?_)
      | refine br_bool (fun hb => ?_) (fun hb => ?_)
      | refine by_bool (fun hb => ?_) (fun hb => ?_)
      | refine by_bool' (fun hb => ?_) (fun hb => ?_))
    all_goals
      have h := hk.go _ hG.go
      rw [hmk.go] at h
      unfold tailW at h
      first
        | (rw [if_pos (by omega)] at h; exact h)
        | (rw [if_neg (by omega), if_pos (by omega)] at h; exact h)
        | (rw [if_neg (by omega), if_neg (by omega), List.append_nil] at h; exact h)
structure Fit (x : Ins) : Prop where
  a0 : 0 ≤ x.a ∧ x.a < 9223372036854775808
  b0 : -1 ≤ x.b ∧ x.b < 9223372036854775808
  c0 : -1 ≤ x.c ∧ x.c < 9223372036854775808
  v0 : 0 ≤ x.v ∧ x.v < 18446744073709551616
theorem reg_len (n : Int) (h1 : n < 9223372036854775808) : (AsmM.reg n).length ≤ 21 := by
  unfold AsmM.reg decI
  have := dec_len20 n.toNat (by omega)
  simp; omega
theorem shown28 (x : Ins) (k : Int) (hf : Fit x) (h2 : k = 2 → 0 ≤ x.b) (h3 : k = 3 → 0 ≤ x.c) (H : AHeap) (K : Value → AHeap → Prop) (hk : ∀ H', Grew H H' → K (.string (bA (shown x k))) H') : ACalls Tryd.prog 28 #[insV x, .int .i64 k] H K := by
  replace hk := Hd.mk hk
  obtain ⟨v, hv⟩ : ∃ v : Nat, x.v = v := ⟨x.v.toNat, by have := hf.v0; omega⟩
  have hv1 : v < 18446744073709551616 := by have := hf.v0; omega
  have hl := dec_len20 v hv1
  have ha := hf.a0
  have hb0 := hf.b0
  have hc0 := hf.c0
  have hdv : decI x.v = dec v := by rw [hv]; rfl
  have hsh : Hd (shown x k = _) := ⟨by unfold shown; rw [hdv]⟩
  unfold insV
  refine w_enter (args := [.agg #[.int .i64 x.op, .int .i64 x.a, .int .i64 x.b, .int .i64 x.c, .int .u64 x.v, .int .i64 x.m, .int .i64 x.w], .int .i64 k]) Tryd.func28 rfl (by kernel_rfl) D.mixed (by kernel_rfl) (rs := [.tmp 4]) rfl ?_
  rw [hv]
  have hrl := reg_len x.b hb0.2
  have q1 : binS .add (ByteArray.mk #[91]) (bA (dec v)) = some (.string (bA ([91] ++ dec v))) := cat [91] (dec v) (by simp; omega)
  have q2 : binS .add (bA ([91] ++ dec v)) (ByteArray.mk #[93]) = some (.string (bA ([91] ++ dec v ++ [93]))) := cat _ [93] (by simp; omega)
  have q3 : binS .add (ByteArray.mk #[91]) (bA (AsmM.reg x.b)) = some (.string (bA ([91] ++ AsmM.reg x.b))) := cat [91] _ (by simp; omega)
  have q4 : binS .add (bA ([91] ++ AsmM.reg x.b)) (ByteArray.mk #[93]) = some (.string (bA ([91] ++ AsmM.reg x.b ++ [93]))) := cat _ [93] (by simp; omega)
  have q5 : binS .add (bA ([91] ++ AsmM.reg x.b)) (ByteArray.mk #[43]) = some (.string (bA ([91] ++ AsmM.reg x.b ++ [43]))) := cat _ [43] (by simp; omega)
  have q6 : binS .add (bA ([91] ++ AsmM.reg x.b ++ [43])) (bA (dec v)) = some (.string (bA ([91] ++ AsmM.reg x.b ++ [43] ++ dec v))) := cat _ _ (by simp; omega)
  have q7 : binS .add (bA ([91] ++ AsmM.reg x.b ++ [43] ++ dec v)) (ByteArray.mk #[93]) = some (.string (bA ([91] ++ AsmM.reg x.b ++ [43] ++ dec v ++ [93]))) := cat _ [93] (by simp; omega)
  replace hv := Hd.mk hv
  replace hdv := Hd.mk hdv
  replace h2 := Hd.mk h2
  replace h3 := Hd.mk h3
  replace hf := Hd.mk hf
  repeat' (first
    | (simp (disch := first | omega | assumption) only [go_sem, ↓reduceIte, Nat.reduceEqDiff, reduceCtorEq, Nat.reduceAdd, Nat.reduceMul, Int.reduceToNat, Nat.reduceShiftRight, Nat.reduceAnd, Nat.reduceBNe, Nat.reduceBneDiff, Nat.reduceLT, Nat.reduceLeDiff, Int.reduceLT, Int.reduceLE, Int.reduceEq, Int.reduceAdd, Int.reduceSub, *])
    | (refine br_prop (fun hb => ?_) (fun hb => ?_) <;> try (exfalso; omega))
    | refine br_not ?_
    | (refine by_prop (fun hb => ?_) (fun hb => ?_) <;> try (exfalso; omega))
    | (refine by_prop' (fun hb => ?_) (fun hb => ?_) <;> try (exfalso; omega))
    | refine by_not ?_
    | refine new_i' (by rfl) (fun j hj hn => ?_)
    | refine new_i (fun j hn => ?_)
    | refine br_bool (fun hb => ?_) (fun hb => ?_)
    | refine by_bool (fun hb => ?_) (fun hb => ?_)
    | refine by_bool' (fun hb => ?_) (fun hb => ?_))
  all_goals first
    | refine call_i (print45 v hv1 _ _ fun H' hg => ?_)
    | refine call_i (spell25 v hv1 _ _ fun H' hg => ?_)
    | refine call_i (reg47 x.a ha.1 ha.2 _ _ fun H' hg => ?_)
    | refine call_i (reg47 x.b (by first | omega | exact h2.go (by omega)) hb0.2 _ _ fun H' hg => ?_)
    | refine call_i (reg47 x.c (by first | omega | exact h3.go (by omega)) hc0.2 _ _ fun H' hg => ?_)
    | skip
  rotate_left 9
  · have hb1 : 0 ≤ x.b := by omega
    have hrd : ∀ H', Grew (H.set j (.cells [.int .i64 x.op, .int .i64 x.a, .int .i64 x.b, .int .i64 x.c, .int .u64 v, .int .i64 x.m, .int .i64 x.w])) H' → H' j = .cells [.int .i64 x.op, .int .i64 x.a, .int .i64 x.b, .int .i64 x.c, .int .u64 v, .int .i64 x.m, .int .i64 x.w] := fun H' hg => (hg j (by rw [AHeap.set_same]; simp)).trans (AHeap.set_same _ _ _)
    have hG0 := (Grew.refl H).new (.cells [.int .i64 x.op, .int .i64 x.a, .int .i64 x.b, .int .i64 x.c, .int .u64 v, .int .i64 x.m, .int .i64 x.w]) hn
    generalize H.set j (.cells [.int .i64 x.op, .int .i64 x.a, .int .i64 x.b, .int .i64 x.c, .int .u64 v, .int .i64 x.m, .int .i64 x.w]) = H1 at *
    replace hG0 := Hd.mk hG0
    refine W.order [(0, true), (1, true), (5, true), (6, true), (2, false), (3, true), (4, true), (7, false), (8, true), (9, true), (10, true)] (Grew H1) (fun e H' => Grew H1 H' ∧ e 4 = .string (bA ([91] ++ AsmM.reg x.b ++ [43] ++ dec v ++ [93]))) (by kernel_rfl) ?_ ?_
    · refine sq (.pointer (some ⟨j, 2, none⟩)) rfl (fun H' hH' => by have hj' := hrd H' hH'; first | rfl | (simp (disch := first | omega | assumption) only [valA, go_sem, ↓reduceIte, Nat.reduceEqDiff, reduceCtorEq, Nat.reduceAdd, Nat.reduceMul, Int.reduceToNat, Nat.reduceShiftRight, Nat.reduceAnd, Nat.reduceBNe, Nat.reduceBneDiff, Nat.reduceLT, Nat.reduceLeDiff, Int.reduceLT, Int.reduceLE, Int.reduceEq, Int.reduceAdd, Int.reduceSub, *]; done) | (simp (disch := first | omega | assumption) only [valA, go_sem, ↓reduceIte, Nat.reduceEqDiff, reduceCtorEq, Nat.reduceAdd, Nat.reduceMul, Int.reduceToNat, Nat.reduceShiftRight, Nat.reduceAnd, Nat.reduceBNe, Nat.reduceBneDiff, Nat.reduceLT, Nat.reduceLeDiff, Int.reduceLT, Int.reduceLE, Int.reduceEq, Int.reduceAdd, Int.reduceSub, *]; rfl)) ?_
      refine sq (.int .i64 x.b) rfl (fun H' hH' => by have hj' := hrd H' hH'; first | rfl | (simp (disch := first | omega | assumption) only [valA, go_sem, ↓reduceIte, Nat.reduceEqDiff, reduceCtorEq, Nat.reduceAdd, Nat.reduceMul, Int.reduceToNat, Nat.reduceShiftRight, Nat.reduceAnd, Nat.reduceBNe, Nat.reduceBneDiff, Nat.reduceLT, Nat.reduceLeDiff, Int.reduceLT, Int.reduceLE, Int.reduceEq, Int.reduceAdd, Int.reduceSub, *]; done) | (simp (disch := first | omega | assumption) only [valA, go_sem, ↓reduceIte, Nat.reduceEqDiff, reduceCtorEq, Nat.reduceAdd, Nat.reduceMul, Int.reduceToNat, Nat.reduceShiftRight, Nat.reduceAnd, Nat.reduceBNe, Nat.reduceBneDiff, Nat.reduceLT, Nat.reduceLeDiff, Int.reduceLT, Int.reduceLE, Int.reduceEq, Int.reduceAdd, Int.reduceSub, *]; rfl)) ?_
      refine sq (.pointer (some ⟨j, 4, none⟩)) rfl (fun H' hH' => by have hj' := hrd H' hH'; first | rfl | (simp (disch := first | omega | assumption) only [valA, go_sem, ↓reduceIte, Nat.reduceEqDiff, reduceCtorEq, Nat.reduceAdd, Nat.reduceMul, Int.reduceToNat, Nat.reduceShiftRight, Nat.reduceAnd, Nat.reduceBNe, Nat.reduceBneDiff, Nat.reduceLT, Nat.reduceLeDiff, Int.reduceLT, Int.reduceLE, Int.reduceEq, Int.reduceAdd, Int.reduceSub, *]; done) | (simp (disch := first | omega | assumption) only [valA, go_sem, ↓reduceIte, Nat.reduceEqDiff, reduceCtorEq, Nat.reduceAdd, Nat.reduceMul, Int.reduceToNat, Nat.reduceShiftRight, Nat.reduceAnd, Nat.reduceBNe, Nat.reduceBneDiff, Nat.reduceLT, Nat.reduceLeDiff, Int.reduceLT, Int.reduceLE, Int.reduceEq, Int.reduceAdd, Int.reduceSub, *]; rfl)) ?_
      refine sq (.int .u64 v) rfl (fun H' hH' => by have hj' := hrd H' hH'; first | rfl | (simp (disch := first | omega | assumption) only [valA, go_sem, ↓reduceIte, Nat.reduceEqDiff, reduceCtorEq, Nat.reduceAdd, Nat.reduceMul, Int.reduceToNat, Nat.reduceShiftRight, Nat.reduceAnd, Nat.reduceBNe, Nat.reduceBneDiff, Nat.reduceLT, Nat.reduceLeDiff, Int.reduceLT, Int.reduceLE, Int.reduceEq, Int.reduceAdd, Int.reduceSub, *]; done) | (simp (disch := first | omega | assumption) only [valA, go_sem, ↓reduceIte, Nat.reduceEqDiff, reduceCtorEq, Nat.reduceAdd, Nat.reduceMul, Int.reduceToNat, Nat.reduceShiftRight, Nat.reduceAnd, Nat.reduceBNe, Nat.reduceBneDiff, Nat.reduceLT, Nat.reduceLeDiff, Int.reduceLT, Int.reduceLE, Int.reduceEq, Int.reduceAdd, Int.reduceSub, *]; rfl)) ?_
      refine sc rfl (.refl _) ?_
      refine call_q (vs := [.int .i64 x.b]) (by simp (disch := first | omega | assumption) only [go_sem, ↓reduceIte, Nat.reduceEqDiff, reduceCtorEq, Nat.reduceAdd, Nat.reduceMul, Int.reduceToNat, Nat.reduceShiftRight, Nat.reduceAnd, Nat.reduceBNe, Nat.reduceBneDiff, Nat.reduceLT, Nat.reduceLeDiff, Int.reduceLT, Int.reduceLE, Int.reduceEq, Int.reduceAdd, Int.reduceSub, *]; try rfl) ?_
      refine reg47 x.b hb1 hb0.2 _ _ fun H2 hg2 => ?_
      refine sq (.string (bA ([91] ++ AsmM.reg x.b))) rfl (fun H' hH' => by have hj' := hrd H' hH'; first | rfl | (simp (disch := first | omega | assumption) only [valA, go_sem, ↓reduceIte, Nat.reduceEqDiff, reduceCtorEq, Nat.reduceAdd, Nat.reduceMul, Int.reduceToNat, Nat.reduceShiftRight, Nat.reduceAnd, Nat.reduceBNe, Nat.reduceBneDiff, Nat.reduceLT, Nat.reduceLeDiff, Int.reduceLT, Int.reduceLE, Int.reduceEq, Int.reduceAdd, Int.reduceSub, *]; done) | (simp (disch := first | omega | assumption) only [valA, go_sem, ↓reduceIte, Nat.reduceEqDiff, reduceCtorEq, Nat.reduceAdd, Nat.reduceMul, Int.reduceToNat, Nat.reduceShiftRight, Nat.reduceAnd, Nat.reduceBNe, Nat.reduceBneDiff, Nat.reduceLT, Nat.reduceLeDiff, Int.reduceLT, Int.reduceLE, Int.reduceEq, Int.reduceAdd, Int.reduceSub, *]; rfl)) ?_
      refine sq (.string (bA ([91] ++ AsmM.reg x.b ++ [43]))) rfl (fun H' hH' => by have hj' := hrd H' hH'; first | rfl | (simp (disch := first | omega | assumption) only [valA, go_sem, ↓reduceIte, Nat.reduceEqDiff, reduceCtorEq, Nat.reduceAdd, Nat.reduceMul, Int.reduceToNat, Nat.reduceShiftRight, Nat.reduceAnd, Nat.reduceBNe, Nat.reduceBneDiff, Nat.reduceLT, Nat.reduceLeDiff, Int.reduceLT, Int.reduceLE, Int.reduceEq, Int.reduceAdd, Int.reduceSub, *]; done) | (simp (disch := first | omega | assumption) only [valA, go_sem, ↓reduceIte, Nat.reduceEqDiff, reduceCtorEq, Nat.reduceAdd, Nat.reduceMul, Int.reduceToNat, Nat.reduceShiftRight, Nat.reduceAnd, Nat.reduceBNe, Nat.reduceBneDiff, Nat.reduceLT, Nat.reduceLeDiff, Int.reduceLT, Int.reduceLE, Int.reduceEq, Int.reduceAdd, Int.reduceSub, *]; rfl)) ?_
      refine sc rfl hg2 ?_
      refine call_q (vs := [.int .u64 v]) (by simp (disch := first | omega | assumption) only [go_sem, ↓reduceIte, Nat.reduceEqDiff, reduceCtorEq, Nat.reduceAdd, Nat.reduceMul, Int.reduceToNat, Nat.reduceShiftRight, Nat.reduceAnd, Nat.reduceBNe, Nat.reduceBneDiff, Nat.reduceLT, Nat.reduceLeDiff, Int.reduceLT, Int.reduceLE, Int.reduceEq, Int.reduceAdd, Int.reduceSub, *]; try rfl) ?_
      refine print45 v hv1 _ _ fun H3 hg3 => ?_
      refine sq (.string (bA ([91] ++ AsmM.reg x.b ++ [43] ++ dec v))) rfl (fun H' hH' => by have hj' := hrd H' hH'; first | rfl | (simp (disch := first | omega | assumption) only [valA, go_sem, ↓reduceIte, Nat.reduceEqDiff, reduceCtorEq, Nat.reduceAdd, Nat.reduceMul, Int.reduceToNat, Nat.reduceShiftRight, Nat.reduceAnd, Nat.reduceBNe, Nat.reduceBneDiff, Nat.reduceLT, Nat.reduceLeDiff, Int.reduceLT, Int.reduceLE, Int.reduceEq, Int.reduceAdd, Int.reduceSub, *]; done) | (simp (disch := first | omega | assumption) only [valA, go_sem, ↓reduceIte, Nat.reduceEqDiff, reduceCtorEq, Nat.reduceAdd, Nat.reduceMul, Int.reduceToNat, Nat.reduceShiftRight, Nat.reduceAnd, Nat.reduceBNe, Nat.reduceBneDiff, Nat.reduceLT, Nat.reduceLeDiff, Int.reduceLT, Int.reduceLE, Int.reduceEq, Int.reduceAdd, Int.reduceSub, *]; rfl)) ?_
      refine sq (.string (bA ([91] ++ AsmM.reg x.b ++ [43] ++ dec v ++ [93]))) rfl (fun H' hH' => by have hj' := hrd H' hH'; first | rfl | (simp (disch := first | omega | assumption) only [valA, go_sem, ↓reduceIte, Nat.reduceEqDiff, reduceCtorEq, Nat.reduceAdd, Nat.reduceMul, Int.reduceToNat, Nat.reduceShiftRight, Nat.reduceAnd, Nat.reduceBNe, Nat.reduceBneDiff, Nat.reduceLT, Nat.reduceLeDiff, Int.reduceLT, Int.reduceLE, Int.reduceEq, Int.reduceAdd, Int.reduceSub, *]; done) | (simp (disch := first | omega | assumption) only [valA, go_sem, ↓reduceIte, Nat.reduceEqDiff, reduceCtorEq, Nat.reduceAdd, Nat.reduceMul, Int.reduceToNat, Nat.reduceShiftRight, Nat.reduceAnd, Nat.reduceBNe, Nat.reduceBneDiff, Nat.reduceLT, Nat.reduceLeDiff, Int.reduceLT, Int.reduceLE, Int.reduceEq, Int.reduceAdd, Int.reduceSub, *]; rfl)) ?_
      refine sq (.string (bA ([91] ++ AsmM.reg x.b ++ [43] ++ dec v ++ [93]))) rfl (fun H' hH' => by have hj' := hrd H' hH'; first | rfl | (simp (disch := first | omega | assumption) only [valA, go_sem, ↓reduceIte, Nat.reduceEqDiff, reduceCtorEq, Nat.reduceAdd, Nat.reduceMul, Int.reduceToNat, Nat.reduceShiftRight, Nat.reduceAnd, Nat.reduceBNe, Nat.reduceBneDiff, Nat.reduceLT, Nat.reduceLeDiff, Int.reduceLT, Int.reduceLE, Int.reduceEq, Int.reduceAdd, Int.reduceSub, *]; done) | (simp (disch := first | omega | assumption) only [valA, go_sem, ↓reduceIte, Nat.reduceEqDiff, reduceCtorEq, Nat.reduceAdd, Nat.reduceMul, Int.reduceToNat, Nat.reduceShiftRight, Nat.reduceAnd, Nat.reduceBNe, Nat.reduceBneDiff, Nat.reduceLT, Nat.reduceLeDiff, Int.reduceLT, Int.reduceLE, Int.reduceEq, Int.reduceAdd, Int.reduceSub, *]; rfl)) ?_
      exact sz (hg2.trans hg3) ⟨hg2.trans hg3, by simp (disch := first | omega | assumption) only [go_sem, ↓reduceIte, Nat.reduceEqDiff, reduceCtorEq, Nat.reduceAdd, Nat.reduceMul, Int.reduceToNat, Nat.reduceShiftRight, Nat.reduceAnd, Nat.reduceBNe, Nat.reduceBneDiff, Nat.reduceLT, Nat.reduceLeDiff, Int.reduceLT, Int.reduceLE, Int.reduceEq, Int.reduceAdd, Int.reduceSub, *]; try rfl⟩
    rintro e Hc ⟨hgc, he4⟩
    replace hgc := Hd.mk hgc
    repeat' (first
      | (simp (disch := first | omega | assumption) only [go_sem, ↓reduceIte, Nat.reduceEqDiff, reduceCtorEq, Nat.reduceAdd, Nat.reduceMul, Int.reduceToNat, Nat.reduceShiftRight, Nat.reduceAnd, Nat.reduceBNe, Nat.reduceBneDiff, Nat.reduceLT, Nat.reduceLeDiff, Int.reduceLT, Int.reduceLE, Int.reduceEq, Int.reduceAdd, Int.reduceSub, *])
      | (refine br_prop (fun hb => ?_) (fun hb => ?_) <;> try (exfalso; omega))
      | refine br_not ?_
      | (refine by_prop (fun hb => ?_) (fun hb => ?_) <;> try (exfalso; omega))
      | (refine by_prop' (fun hb => ?_) (fun hb => ?_) <;> try (exfalso; omega))
      | refine by_not ?_
      | refine w_drawn (by kernel_rfl) ?_
      | refine new_i' (by rfl) (fun j hj hn => ?_)
      | refine new_i (fun j hn => ?_)
      | refine br_bool (fun hb => ?_) (fun hb => ?_)
      | refine by_bool (fun hb => ?_) (fun hb => ?_)
      | refine by_bool' (fun hb => ?_) (fun hb => ?_))
    have h := hk.go _ (hG0.go.trans hgc.go)
    rw [hsh.go] at h
    repeat' (first | rw [if_pos (by have := hv.go; omega)] at h | rw [if_neg (by have := hv.go; omega)] at h)
    simpa using h
  rotate_left 2
  all_goals
    have hG := Hd.mk (((Grew.refl H).new _ hn).trans hg)
    replace hg := Hd.mk hg
    repeat' (first
      | (simp (disch := first | omega | assumption) only [go_sem, ↓reduceIte, Nat.reduceEqDiff, reduceCtorEq, Nat.reduceAdd, Nat.reduceMul, Int.reduceToNat, Nat.reduceShiftRight, Nat.reduceAnd, Nat.reduceBNe, Nat.reduceBneDiff, Nat.reduceLT, Nat.reduceLeDiff, Int.reduceLT, Int.reduceLE, Int.reduceEq, Int.reduceAdd, Int.reduceSub, *])
      | (refine br_prop (fun hb => ?_) (fun hb => ?_) <;> try (exfalso; omega))
      | refine br_not ?_
      | (refine by_prop (fun hb => ?_) (fun hb => ?_) <;> try (exfalso; omega))
      | (refine by_prop' (fun hb => ?_) (fun hb => ?_) <;> try (exfalso; omega))
      | refine by_not ?_
      | refine w_drawn (by kernel_rfl) ?_
      | refine new_i' (by rfl) (fun j hj hn => ?_)
      | refine new_i (fun j hn => ?_)
      | refine br_bool (fun hb => ?_) (fun hb => ?_)
      | refine by_bool (fun hb => ?_) (fun hb => ?_)
      | refine by_bool' (fun hb => ?_) (fun hb => ?_))
    have h := hk.go _ hG.go
    rw [hsh.go] at h
    repeat' (first | rw [if_pos (by have := hv.go; omega)] at h | rw [if_neg (by have := hv.go; omega)] at h)
  all_goals first | exact h | (rw [hv.go] at h; exact h)
end Go.Proofs
namespace Go.Proofs
set_option linter.unusedSimpArgs false
set_option linter.unusedVariables false
set_option linter.unusedSectionVars false
open Go Go.Ab AsmM
variable [Go.Ab.Start]
set_option maxRecDepth 100000
set_option maxHeartbeats 1000000
theorem register74 (n : Int) (used less : Bool) (H : AHeap) (K : Value → AHeap → Prop) (hk : K (.bool (regOk n used less)) H) : ACalls Tryd.prog 74 #[.int .i64 n, .bool used, .bool less] H K := by
  replace hk := Hd.mk hk
  refine w_enter (args := [.int .i64 n, .bool used, .bool less]) Tryd.func74 rfl (by kernel_rfl) D.mixed (by kernel_rfl) (rs := [.tmp 6]) rfl ?_
  cases used <;> cases less
  all_goals
    repeat' (first
      | (simp (disch := first | omega | assumption) only [go_sem, ↓reduceIte, Nat.reduceEqDiff, reduceCtorEq, Nat.reduceAdd, Nat.reduceMul, Int.reduceToNat, Nat.reduceShiftRight, Nat.reduceAnd, Nat.reduceBNe, Nat.reduceBneDiff, Nat.reduceLT, Nat.reduceLeDiff, Int.reduceLT, Int.reduceLE, Int.reduceEq, Int.reduceAdd, Int.reduceSub, *])
      | (refine br_prop (fun hb => ?_) (fun hb => ?_) <;> try (exfalso; omega))
      | refine br_not ?_
      | (refine by_prop (fun hb => ?_) (fun hb => ?_) <;> try (exfalso; omega))
      | (refine by_prop' (fun hb => ?_) (fun hb => ?_) <;> try (exfalso; omega))
      | refine by_not ?_
      | refine w_drawn (by kernel_rfl) ?_
      | refine new_i' (by rfl) (fun j hj hn => ?_)
      | refine new_i (fun j hn => ?_)
      | refine br_bool (fun hb => ?_) (fun hb => ?_)
      | refine by_bool (fun hb => ?_) (fun hb => ?_)
      | refine by_bool' (fun hb => ?_) (fun hb => ?_))
  all_goals
    have kb : ∀ b : Bool, b = regOk n _ _ → K (.bool b) H := fun b hb => hb ▸ hk.go
    refine kb _ ?_
    unfold regOk
    rw [Bool.eq_iff_iff]
    simp only [Bool.true_and, Bool.false_and, Bool.not_true, Bool.not_false, Bool.or_false, Bool.false_or, Bool.or_eq_true, Bool.and_eq_true, decide_eq_true_eq, Bool.false_eq_true, false_iff, true_iff]
    try omega
theorem number75 (x : Ins) (used : Bool) (n : Int) (hv : 0 ≤ x.v ∧ x.v < 18446744073709551616) (hnn : 0 ≤ n ∧ n < 9223372036854775808) (H : AHeap) (K : Value → AHeap → Prop) (hk : ∀ H', Grew H H' → K (.bool (numOk x used n)) H') : ACalls Tryd.prog 75 #[insV x, .bool used, .int .i64 n] H K := by
  replace hk := Hd.mk hk
  unfold insV
  refine w_enter (args := [.agg #[.int .i64 x.op, .int .i64 x.a, .int .i64 x.b, .int .i64 x.c, .int .u64 x.v, .int .i64 x.m, .int .i64 x.w], .bool used, .int .i64 n]) Tryd.func75 rfl (by kernel_rfl) D.mixed (by kernel_rfl) (rs := [.tmp 6]) rfl ?_
  have hv0 := hv.1
  have hv1 := hv.2
  have hn0 := hnn.1
  have hn1 := hnn.2
  cases used
  all_goals
    repeat' (first
      | (simp (disch := first | omega | assumption) only [go_sem, ↓reduceIte, Nat.reduceEqDiff, reduceCtorEq, Nat.reduceAdd, Nat.reduceMul, Int.reduceToNat, Nat.reduceShiftRight, Nat.reduceAnd, Nat.reduceBNe, Nat.reduceBneDiff, Nat.reduceLT, Nat.reduceLeDiff, Int.reduceLT, Int.reduceLE, Int.reduceEq, Int.reduceAdd, Int.reduceSub, *])
      | (refine br_prop (fun hb => ?_) (fun hb => ?_) <;> try (exfalso; omega))
      | refine br_not ?_
      | (refine by_prop (fun hb => ?_) (fun hb => ?_) <;> try (exfalso; omega))
      | (refine by_prop' (fun hb => ?_) (fun hb => ?_) <;> try (exfalso; omega))
      | refine by_not ?_
      | refine w_drawn (by kernel_rfl) ?_
      | refine new_i' (by rfl) (fun j hj hn => ?_)
      | refine new_i (fun j hn => ?_)
      | refine br_bool (fun hb => ?_) (fun hb => ?_)
      | refine by_bool (fun hb => ?_) (fun hb => ?_)
      | refine by_bool' (fun hb => ?_) (fun hb => ?_))
  all_goals
    have kb : ∀ (b : Bool) (o : AObj), b = numOk x _ n → K (.bool b) (H.set j o) := fun b o hb => hb ▸ hk.go _ ((Grew.refl H).new _ hn)
    refine kb _ _ ?_
    unfold numOk
    repeat' (first | rw [if_pos (by omega)] | rw [if_neg (by omega)])
    all_goals first
      | rfl
      | (rw [Bool.eq_iff_iff]
         simp only [Bool.true_or, Bool.false_or, Bool.or_eq_true, decide_eq_true_eq, Bool.false_eq_true, false_iff, true_iff]
         omega)
end Go.Proofs
namespace Go.Proofs
set_option linter.unusedSimpArgs false
set_option linter.unusedVariables false
set_option linter.unusedSectionVars false
open Go Go.Ab AsmM
variable [Go.Ab.Start]
set_option maxRecDepth 100000
set_option maxHeartbeats 1000000
theorem may65 (x : Ins) (n : Int) (lb : Bool) (hv : 0 ≤ x.v ∧ x.v < 18446744073709551616) (hnn : 0 ≤ n ∧ n < 9223372036854775808) (H : AHeap) (K : Value → AHeap → Prop) (hk : ∀ H', Grew H H' → K (.bool (may x n lb)) H') : ACalls Tryd.prog 65 #[insV x, .int .i64 n, .bool lb] H K := by
  replace hk := Hd.mk hk
  unfold insV
  refine w_enter (args := [.agg #[.int .i64 x.op, .int .i64 x.a, .int .i64 x.b, .int .i64 x.c, .int .u64 x.v, .int .i64 x.m, .int .i64 x.w], .int .i64 n, .bool lb]) Tryd.func65 rfl (by kernel_rfl) D.mixed (by kernel_rfl) (rs := [.tmp 6]) rfl ?_
  replace hv := Hd.mk hv
  replace hnn := Hd.mk hnn
  have hmay : ∀ (b : Bool), b = may x n lb → ∀ H', Grew H H' → K (.bool b) H' := fun b hb H' hg => hb ▸ hk.go H' hg
  replace hmay := Hd.mk hmay
  obtain ⟨fl, hfl⟩ : ∃ fl, fl = fields x.op := ⟨_, rfl⟩
  obtain ⟨fa, fb, fc, fv⟩ := fl
  have hfe := fields46 x.op
  rw [← hfl] at hfe
  replace hfe := Hd.mk hfe
  replace hfl := Hd.mk hfl
  cases lb
  all_goals
    repeat' (first
      | (simp (disch := first | omega | assumption) only [go_sem, ↓reduceIte, Nat.reduceEqDiff, reduceCtorEq, Nat.reduceAdd, Nat.reduceMul, Int.reduceToNat, Nat.reduceShiftRight, Nat.reduceAnd, Nat.reduceBNe, Nat.reduceBneDiff, Nat.reduceLT, Nat.reduceLeDiff, Int.reduceLT, Int.reduceLE, Int.reduceEq, Int.reduceAdd, Int.reduceSub, *])
      | (refine br_prop (fun hb => ?_) (fun hb => ?_) <;> try (exfalso; omega))
      | refine br_not ?_
      | (refine by_prop (fun hb => ?_) (fun hb => ?_) <;> try (exfalso; omega))
      | (refine by_prop' (fun hb => ?_) (fun hb => ?_) <;> try (exfalso; omega))
      | refine by_not ?_
      | refine w_drawn (by kernel_rfl) ?_
      | refine new_i' (by rfl) (fun j hj hn => ?_)
      | refine new_i (fun j hn => ?_)
      | refine br_bool (fun hb => ?_) (fun hb => ?_)
      | refine by_bool (fun hb => ?_) (fun hb => ?_)
      | refine by_bool' (fun hb => ?_) (fun hb => ?_))
  all_goals first
    | refine call_i (hfe.go _ _ ?_)
    | (refine hmay.go false ?_ _ ((Grew.refl H).new _ hn)
       unfold may
       rw [if_pos (by simp only [true_and, and_true, false_and, or_false, Bool.false_eq_true, reduceCtorEq]; omega)])
  all_goals
    refine W.cutO (fun e H' => Grew H H' ∧ H' j = .cells [.int .i64 x.op, .int .i64 x.a, .int .i64 x.b, .int .i64 x.c, .int .u64 x.v, .int .i64 x.m, .int .i64 x.w] ∧ e 3 = .pointer (some ⟨j, 0, none⟩) ∧ e 1 = .int .i64 n ∧ e 7 = .bool fa ∧ e 8 = .bool fb ∧ e 9 = .bool fc ∧ e 10 = .bool fv) (fun J hJ => ?_) ?_
    · repeat' (first
        | (simp (disch := first | omega | assumption) only [go_sem, ↓reduceIte, Nat.reduceEqDiff, reduceCtorEq, Nat.reduceAdd, Nat.reduceMul, Int.reduceToNat, Nat.reduceShiftRight, Nat.reduceAnd, Nat.reduceBNe, Nat.reduceBneDiff, Nat.reduceLT, Nat.reduceLeDiff, Int.reduceLT, Int.reduceLE, Int.reduceEq, Int.reduceAdd, Int.reduceSub, *])
        | (refine br_prop (fun hb => ?_) (fun hb => ?_) <;> try (exfalso; omega))
        | refine br_not ?_
        | (refine by_prop (fun hb => ?_) (fun hb => ?_) <;> try (exfalso; omega))
        | (refine by_prop' (fun hb => ?_) (fun hb => ?_) <;> try (exfalso; omega))
        | refine by_not ?_
        | refine w_drawn (by kernel_rfl) ?_
        | refine new_i' (by rfl) (fun j hj hn => ?_)
        | refine new_i (fun j hn => ?_)
        | refine br_bool (fun hb => ?_) (fun hb => ?_)
        | refine by_bool (fun hb => ?_) (fun hb => ?_)
        | refine by_bool' (fun hb => ?_) (fun hb => ?_))
      exact inv_i (hJ.go _ _ ⟨(Grew.refl H).new _ hn, by first | exact AHeap.set_same _ _ _ | (rw [AHeap.set_same, show x.m = 0 by omega]), by first | rfl | assumption, by first | rfl | assumption, by first | rfl | assumption, by first | rfl | assumption, by first | rfl | assumption, by first | rfl | assumption⟩)
    clear hn
    rintro e Hc ⟨hG, hHj, e3, e1, e7, e8, e9, e10⟩
    replace hG := Hd.mk hG
    rw [w_seq]
    refine W.cutC (fun e H' => H' = Hc ∧ e 3 = .pointer (some ⟨j, 0, none⟩) ∧ e 1 = .int .i64 n ∧ e 7 = .bool fa ∧ e 8 = .bool fb ∧ e 9 = .bool fc ∧ e 10 = .bool fv ∧ e 11 = .bool false ∧ e 12 = .bool false) (fun J hJ => ?_) ?_
    · repeat' (first
        | (simp (disch := first | omega | assumption) only [go_sem, ↓reduceIte, Nat.reduceEqDiff, reduceCtorEq, Nat.reduceAdd, Nat.reduceMul, Int.reduceToNat, Nat.reduceShiftRight, Nat.reduceAnd, Nat.reduceBNe, Nat.reduceBneDiff, Nat.reduceLT, Nat.reduceLeDiff, Int.reduceLT, Int.reduceLE, Int.reduceEq, Int.reduceAdd, Int.reduceSub, *])
        | (refine br_prop (fun hb => ?_) (fun hb => ?_) <;> try (exfalso; omega))
        | refine br_not ?_
        | (refine by_prop (fun hb => ?_) (fun hb => ?_) <;> try (exfalso; omega))
        | (refine by_prop' (fun hb => ?_) (fun hb => ?_) <;> try (exfalso; omega))
        | refine by_not ?_
        | refine w_drawn (by kernel_rfl) ?_
        | refine new_i' (by rfl) (fun j hj hn => ?_)
        | refine new_i (fun j hn => ?_)
        | refine br_bool (fun hb => ?_) (fun hb => ?_)
        | refine by_bool (fun hb => ?_) (fun hb => ?_)
        | refine by_bool' (fun hb => ?_) (fun hb => ?_))
      exact inv_i (hJ.go _ _ ⟨rfl, by first | rfl | assumption, by first | rfl | assumption, by first | rfl | assumption, by first | rfl | assumption, by first | rfl | assumption, by first | rfl | assumption, by first | rfl | assumption, by first | rfl | assumption⟩)
    clear e3 e1 e7 e8 e9 e10
    rintro e Hc2 ⟨hHc, e3, e1, e7, e8, e9, e10, e11, e12⟩
    subst hHc
    rw [w_seq]
    refine W.cutC (fun e H' => H' = Hc2 ∧ e 3 = .pointer (some ⟨j, 0, none⟩) ∧ e 1 = .int .i64 n ∧ e 7 = .bool fa ∧ e 8 = .bool fb ∧ e 9 = .bool fc ∧ e 10 = .bool fv ∧ e 11 = .bool (lessB x.op) ∧ e 12 = .bool (lessC x.op)) (fun J hJ => ?_) ?_
    · repeat' (first
        | (simp (disch := first | omega | assumption) only [go_sem, ↓reduceIte, Nat.reduceEqDiff, reduceCtorEq, Nat.reduceAdd, Nat.reduceMul, Int.reduceToNat, Nat.reduceShiftRight, Nat.reduceAnd, Nat.reduceBNe, Nat.reduceBneDiff, Nat.reduceLT, Nat.reduceLeDiff, Int.reduceLT, Int.reduceLE, Int.reduceEq, Int.reduceAdd, Int.reduceSub, *])
        | (refine br_prop (fun hb => ?_) (fun hb => ?_) <;> try (exfalso; omega))
        | refine br_not ?_
        | (refine by_prop (fun hb => ?_) (fun hb => ?_) <;> try (exfalso; omega))
        | (refine by_prop' (fun hb => ?_) (fun hb => ?_) <;> try (exfalso; omega))
        | refine by_not ?_
        | refine w_drawn (by kernel_rfl) ?_
        | refine new_i' (by rfl) (fun j hj hn => ?_)
        | refine new_i (fun j hn => ?_)
        | refine br_bool (fun hb => ?_) (fun hb => ?_)
        | refine by_bool (fun hb => ?_) (fun hb => ?_)
        | refine by_bool' (fun hb => ?_) (fun hb => ?_))
      all_goals
        have hB : ∀ b : Bool, b = lessB x.op → Value.bool b = .bool (lessB x.op) := fun b hb => by rw [hb]
        have hC : ∀ b : Bool, b = lessC x.op → Value.bool b = .bool (lessC x.op) := fun b hb => by rw [hb]
        refine inv_i (hJ.go _ _ ⟨rfl, by first | rfl | assumption, by first | rfl | assumption, by first | rfl | assumption, by first | rfl | assumption, by first | rfl | assumption, by first | rfl | assumption, ?_, ?_⟩)
        · first | refine (show Value.bool _ = _ from hB _ ?_) | refine Eq.trans e11 (hB _ ?_)
          unfold lessB
          rw [Bool.eq_iff_iff]
          simp only [decide_eq_true_eq, Bool.false_eq_true, false_iff, true_iff]
          omega
        · first | refine (show Value.bool _ = _ from hC _ ?_) | refine Eq.trans e12 (hC _ ?_)
          unfold lessC
          rw [Bool.eq_iff_iff]
          simp only [decide_eq_true_eq, Bool.false_eq_true, false_iff, true_iff]
          omega
    clear e3 e1 e7 e8 e9 e10 e11 e12
    rintro e Hc3 ⟨hHc, e3, e1, e7, e8, e9, e10, e11, e12⟩
    subst hHc
    have hcond : ∀ l : Bool, ¬ (x.op < 1 ∨ 58 < x.op ∨ (l = true ∧ x.op = 22) ∨ (l = false ∧ (22 < x.op ∨ x.m ≠ 0))) → may x n l = (if (regOk x.a fa false && regOk x.b fb (lessB x.op) && regOk x.c fc (lessC x.op) && numOk x fv n) = false then false else decide (0 ≤ x.m) && decide (x.m ≤ 99) && decide (0 ≤ x.w) && decide (x.w ≤ 2) && (decide (x.w = 0) || (decide (0 < x.m) && fa))) := by
      intro l hl
      unfold may
      rw [if_neg hl, ← hfl.go]
    rw [hcond _ (by rintro (h | h | ⟨h, h2⟩ | ⟨h, h2 | h2⟩) <;> first | omega | (cases h; done))] at hmay
    clear hcond
    repeat' (first
      | (simp (disch := first | omega | assumption) only [go_sem, ↓reduceIte, Nat.reduceEqDiff, reduceCtorEq, Nat.reduceAdd, Nat.reduceMul, Int.reduceToNat, Nat.reduceShiftRight, Nat.reduceAnd, Nat.reduceBNe, Nat.reduceBneDiff, Nat.reduceLT, Nat.reduceLeDiff, Int.reduceLT, Int.reduceLE, Int.reduceEq, Int.reduceAdd, Int.reduceSub, *])
      | (refine br_prop (fun hb => ?_) (fun hb => ?_) <;> try (exfalso; omega))
      | refine br_not ?_
      | (refine by_prop (fun hb => ?_) (fun hb => ?_) <;> try (exfalso; omega))
      | (refine by_prop' (fun hb => ?_) (fun hb => ?_) <;> try (exfalso; omega))
      | refine by_not ?_
      | refine w_drawn (by kernel_rfl) ?_
      | refine new_i' (by rfl) (fun j hj hn => ?_)
      | refine new_i (fun j hn => ?_)
      | refine br_bool (fun hb => ?_) (fun hb => ?_)
      | refine by_bool (fun hb => ?_) (fun hb => ?_)
      | refine by_bool' (fun hb => ?_) (fun hb => ?_))
    refine call_i (register74 _ _ _ _ _ ?_)
    have hnb : ∀ (H' : AHeap), Grew Hc3 H' → Grew H H' := fun H' h => hG.go.trans h
    replace hnb := Hd.mk hnb
    have hfalse : ∀ H', Grew Hc3 H' → (regOk x.a fa false && regOk x.b fb (lessB x.op) && regOk x.c fc (lessC x.op) && numOk x fv n) = false → K (.bool false) H' := fun H' h hc => hmay.go false (by rw [if_pos hc]) H' (hnb.go H' h)
    have htrue : ∀ (b : Bool) H', Grew Hc3 H' → (regOk x.a fa false && regOk x.b fb (lessB x.op) && regOk x.c fc (lessC x.op) && numOk x fv n) = true → b = (decide (0 ≤ x.m) && decide (x.m ≤ 99) && decide (0 ≤ x.w) && decide (x.w ≤ 2) && (decide (x.w = 0) || (decide (0 < x.m) && fa))) → K (.bool b) H' := fun b H' h hc hb => hmay.go b (by rw [if_neg (by rw [hc]; simp)]; exact hb) H' (hnb.go H' h)
    replace hfalse := Hd.mk hfalse
    replace htrue := Hd.mk htrue
    cases ra : regOk x.a fa false with
    | false =>
      rw [ra] at hfalse
      repeat' (first
        | (simp (disch := first | omega | assumption) only [go_sem, ↓reduceIte, Nat.reduceEqDiff, reduceCtorEq, Nat.reduceAdd, Nat.reduceMul, Int.reduceToNat, Nat.reduceShiftRight, Nat.reduceAnd, Nat.reduceBNe, Nat.reduceBneDiff, Nat.reduceLT, Nat.reduceLeDiff, Int.reduceLT, Int.reduceLE, Int.reduceEq, Int.reduceAdd, Int.reduceSub, *])
        | (refine br_prop (fun hb => ?_) (fun hb => ?_) <;> try (exfalso; omega))
        | refine br_not ?_
        | (refine by_prop (fun hb => ?_) (fun hb => ?_) <;> try (exfalso; omega))
        | (refine by_prop' (fun hb => ?_) (fun hb => ?_) <;> try (exfalso; omega))
        | refine by_not ?_
        | refine w_drawn (by kernel_rfl) ?_
        | refine new_i' (by rfl) (fun j hj hn => ?_)
        | refine new_i (fun j hn => ?_)
        | refine br_bool (fun hb => ?_) (fun hb => ?_)
        | refine by_bool (fun hb => ?_) (fun hb => ?_)
        | refine by_bool' (fun hb => ?_) (fun hb => ?_))
      exact hfalse.go _ (.refl _) rfl
    | true =>
      rw [ra] at hfalse htrue
      repeat' (first
        | (simp (disch := first | omega | assumption) only [go_sem, ↓reduceIte, Nat.reduceEqDiff, reduceCtorEq, Nat.reduceAdd, Nat.reduceMul, Int.reduceToNat, Nat.reduceShiftRight, Nat.reduceAnd, Nat.reduceBNe, Nat.reduceBneDiff, Nat.reduceLT, Nat.reduceLeDiff, Int.reduceLT, Int.reduceLE, Int.reduceEq, Int.reduceAdd, Int.reduceSub, *])
        | (refine br_prop (fun hb => ?_) (fun hb => ?_) <;> try (exfalso; omega))
        | refine br_not ?_
        | (refine by_prop (fun hb => ?_) (fun hb => ?_) <;> try (exfalso; omega))
        | (refine by_prop' (fun hb => ?_) (fun hb => ?_) <;> try (exfalso; omega))
        | refine by_not ?_
        | refine w_drawn (by kernel_rfl) ?_
        | refine new_i' (by rfl) (fun j hj hn => ?_)
        | refine new_i (fun j hn => ?_)
        | refine br_bool (fun hb => ?_) (fun hb => ?_)
        | refine by_bool (fun hb => ?_) (fun hb => ?_)
        | refine by_bool' (fun hb => ?_) (fun hb => ?_))
      refine call_i (register74 _ _ _ _ _ ?_)
      cases rb : regOk x.b fb (lessB x.op) with
      | false =>
        rw [rb] at hfalse
        repeat' (first
          | (simp (disch := first | omega | assumption) only [go_sem, ↓reduceIte, Nat.reduceEqDiff, reduceCtorEq, Nat.reduceAdd, Nat.reduceMul, Int.reduceToNat, Nat.reduceShiftRight, Nat.reduceAnd, Nat.reduceBNe, Nat.reduceBneDiff, Nat.reduceLT, Nat.reduceLeDiff, Int.reduceLT, Int.reduceLE, Int.reduceEq, Int.reduceAdd, Int.reduceSub, *])
          | (refine br_prop (fun hb => ?_) (fun hb => ?_) <;> try (exfalso; omega))
          | refine br_not ?_
          | (refine by_prop (fun hb => ?_) (fun hb => ?_) <;> try (exfalso; omega))
          | (refine by_prop' (fun hb => ?_) (fun hb => ?_) <;> try (exfalso; omega))
          | refine by_not ?_
          | refine w_drawn (by kernel_rfl) ?_
          | refine new_i' (by rfl) (fun j hj hn => ?_)
          | refine new_i (fun j hn => ?_)
          | refine br_bool (fun hb => ?_) (fun hb => ?_)
          | refine by_bool (fun hb => ?_) (fun hb => ?_)
          | refine by_bool' (fun hb => ?_) (fun hb => ?_))
        exact hfalse.go _ (.refl _) rfl
      | true =>
        rw [rb] at hfalse htrue
        repeat' (first
          | (simp (disch := first | omega | assumption) only [go_sem, ↓reduceIte, Nat.reduceEqDiff, reduceCtorEq, Nat.reduceAdd, Nat.reduceMul, Int.reduceToNat, Nat.reduceShiftRight, Nat.reduceAnd, Nat.reduceBNe, Nat.reduceBneDiff, Nat.reduceLT, Nat.reduceLeDiff, Int.reduceLT, Int.reduceLE, Int.reduceEq, Int.reduceAdd, Int.reduceSub, *])
          | (refine br_prop (fun hb => ?_) (fun hb => ?_) <;> try (exfalso; omega))
          | refine br_not ?_
          | (refine by_prop (fun hb => ?_) (fun hb => ?_) <;> try (exfalso; omega))
          | (refine by_prop' (fun hb => ?_) (fun hb => ?_) <;> try (exfalso; omega))
          | refine by_not ?_
          | refine w_drawn (by kernel_rfl) ?_
          | refine new_i' (by rfl) (fun j hj hn => ?_)
          | refine new_i (fun j hn => ?_)
          | refine br_bool (fun hb => ?_) (fun hb => ?_)
          | refine by_bool (fun hb => ?_) (fun hb => ?_)
          | refine by_bool' (fun hb => ?_) (fun hb => ?_))
        refine call_i (register74 _ _ _ _ _ ?_)
        cases rc : regOk x.c fc (lessC x.op) with
        | false =>
          rw [rc] at hfalse
          repeat' (first
            | (simp (disch := first | omega | assumption) only [go_sem, ↓reduceIte, Nat.reduceEqDiff, reduceCtorEq, Nat.reduceAdd, Nat.reduceMul, Int.reduceToNat, Nat.reduceShiftRight, Nat.reduceAnd, Nat.reduceBNe, Nat.reduceBneDiff, Nat.reduceLT, Nat.reduceLeDiff, Int.reduceLT, Int.reduceLE, Int.reduceEq, Int.reduceAdd, Int.reduceSub, *])
            | (refine br_prop (fun hb => ?_) (fun hb => ?_) <;> try (exfalso; omega))
            | refine br_not ?_
            | (refine by_prop (fun hb => ?_) (fun hb => ?_) <;> try (exfalso; omega))
            | (refine by_prop' (fun hb => ?_) (fun hb => ?_) <;> try (exfalso; omega))
            | refine by_not ?_
            | refine w_drawn (by kernel_rfl) ?_
            | refine new_i' (by rfl) (fun j hj hn => ?_)
            | refine new_i (fun j hn => ?_)
            | refine br_bool (fun hb => ?_) (fun hb => ?_)
            | refine by_bool (fun hb => ?_) (fun hb => ?_)
            | refine by_bool' (fun hb => ?_) (fun hb => ?_))
          exact hfalse.go _ (.refl _) rfl
        | true =>
          rw [rc] at hfalse htrue
          repeat' (first
            | (simp (disch := first | omega | assumption) only [go_sem, ↓reduceIte, Nat.reduceEqDiff, reduceCtorEq, Nat.reduceAdd, Nat.reduceMul, Int.reduceToNat, Nat.reduceShiftRight, Nat.reduceAnd, Nat.reduceBNe, Nat.reduceBneDiff, Nat.reduceLT, Nat.reduceLeDiff, Int.reduceLT, Int.reduceLE, Int.reduceEq, Int.reduceAdd, Int.reduceSub, *])
            | (refine br_prop (fun hb => ?_) (fun hb => ?_) <;> try (exfalso; omega))
            | refine br_not ?_
            | (refine by_prop (fun hb => ?_) (fun hb => ?_) <;> try (exfalso; omega))
            | (refine by_prop' (fun hb => ?_) (fun hb => ?_) <;> try (exfalso; omega))
            | refine by_not ?_
            | refine w_drawn (by kernel_rfl) ?_
            | refine new_i' (by rfl) (fun j hj hn => ?_)
            | refine new_i (fun j hn => ?_)
            | refine br_bool (fun hb => ?_) (fun hb => ?_)
            | refine by_bool (fun hb => ?_) (fun hb => ?_)
            | refine by_bool' (fun hb => ?_) (fun hb => ?_))
          have hN := number75 x fv n hv.go hnn.go
          unfold insV at hN
          first
            | refine call_i (hN _ _ fun H7 hg7 => ?_)
            | (rw [show x.m = 0 by omega] at hN
               refine call_i (hN _ _ fun H7 hg7 => ?_))
          clear hN
          have hH7 := (hg7 j (by rw [hHj]; simp)).trans hHj
          clear hHj
          replace hg7 := Hd.mk hg7
          cases rd : numOk x fv n with
          | false =>
            rw [rd] at hfalse
            repeat' (first
              | (simp (disch := first | omega | assumption) only [go_sem, ↓reduceIte, Nat.reduceEqDiff, reduceCtorEq, Nat.reduceAdd, Nat.reduceMul, Int.reduceToNat, Nat.reduceShiftRight, Nat.reduceAnd, Nat.reduceBNe, Nat.reduceBneDiff, Nat.reduceLT, Nat.reduceLeDiff, Int.reduceLT, Int.reduceLE, Int.reduceEq, Int.reduceAdd, Int.reduceSub, *])
              | (refine br_prop (fun hb => ?_) (fun hb => ?_) <;> try (exfalso; omega))
              | refine br_not ?_
              | (refine by_prop (fun hb => ?_) (fun hb => ?_) <;> try (exfalso; omega))
              | (refine by_prop' (fun hb => ?_) (fun hb => ?_) <;> try (exfalso; omega))
              | refine by_not ?_
              | refine w_drawn (by kernel_rfl) ?_
              | refine new_i' (by rfl) (fun j hj hn => ?_)
              | refine new_i (fun j hn => ?_)
              | refine br_bool (fun hb => ?_) (fun hb => ?_)
              | refine by_bool (fun hb => ?_) (fun hb => ?_)
              | refine by_bool' (fun hb => ?_) (fun hb => ?_))
            exact hfalse.go _ hg7.go rfl
          | true =>
            rw [rd] at htrue
            repeat' (first
              | (simp (disch := first | omega | assumption) only [go_sem, ↓reduceIte, Nat.reduceEqDiff, reduceCtorEq, Nat.reduceAdd, Nat.reduceMul, Int.reduceToNat, Nat.reduceShiftRight, Nat.reduceAnd, Nat.reduceBNe, Nat.reduceBneDiff, Nat.reduceLT, Nat.reduceLeDiff, Int.reduceLT, Int.reduceLE, Int.reduceEq, Int.reduceAdd, Int.reduceSub, *])
              | (refine br_prop (fun hb => ?_) (fun hb => ?_) <;> try (exfalso; omega))
              | refine br_not ?_
              | (refine by_prop (fun hb => ?_) (fun hb => ?_) <;> try (exfalso; omega))
              | (refine by_prop' (fun hb => ?_) (fun hb => ?_) <;> try (exfalso; omega))
              | refine by_not ?_
              | refine w_drawn (by kernel_rfl) ?_
              | refine new_i' (by rfl) (fun j hj hn => ?_)
              | refine new_i (fun j hn => ?_)
              | refine br_bool (fun hb => ?_) (fun hb => ?_)
              | refine by_bool (fun hb => ?_) (fun hb => ?_)
              | refine by_bool' (fun hb => ?_) (fun hb => ?_))
            all_goals
              refine htrue.go _ _ hg7.go rfl ?_
              rw [Bool.eq_iff_iff]
              simp only [Bool.and_eq_true, Bool.or_eq_true, decide_eq_true_eq, Bool.false_eq_true, false_iff, true_iff]
            all_goals
              rcases Bool.eq_false_or_eq_true fa with hfa | hfa
              all_goals
                simp only [hfa, Bool.false_eq_true, and_false, or_false, and_true, false_iff, true_iff]
                omega
end Go.Proofs
namespace Go.Proofs
set_option linter.unusedSimpArgs false
set_option linter.unusedVariables false
set_option linter.unusedSectionVars false
open Go Go.Ab AsmM
variable [Go.Ab.Start]
set_option maxRecDepth 100000
set_option maxHeartbeats 1000000
def badM (n : Int) (lb : Bool) : List Ins → Nat → Option Nat
  | [], _ => none
  | x :: r, i => if may x n lb = true then badM n lb r (i + 1) else some i
def CodeE (H : AHeap) (v : Value) (n k : Int) : Prop := ∃ i, v = .iface 68 (.pointer (some ⟨i, 0, none⟩)) ∧ H i = .cells [.string codeB, .int .i64 n, .iface 41 (.int .i64 k)]
def vOk (l : List Ins) : Prop := ∀ x ∈ l, 0 ≤ x.v ∧ x.v < 18446744073709551616
theorem check44 (v : Value) (l : List Ins) (o : Option Nat) (lb : Bool) (H : AHeap) (hsl : SL H 7 v l.length (l.flatMap encI) o) (hv : vOk l) (hlen : l.length ≤ 100000000) (K : Value → AHeap → Prop)
    (hok : ∀ H', l.length ≤ 2048 → badM l.length lb l 0 = none → Grew H H' → K .nilIface H')
    (hbig : ∀ H' e, 2048 < l.length → CodeE H' e 0 3 → Grew H H' → K e H')
    (hbad : ∀ H' e i, l.length ≤ 2048 → badM l.length lb l 0 = some i → CodeE H' e i 5 → Grew H H' → K e H') : ACalls Tryd.prog 44 #[v, .bool lb] H K := by
  replace hok := Hd.mk hok
  replace hbig := Hd.mk hbig
  replace hbad := Hd.mk hbad
  replace hv := Hd.mk hv
  obtain ⟨a, c, rfl⟩ := hsl.val
  refine w_enter (args := [.slice a l.length c, .bool lb]) Tryd.func44 rfl (by kernel_rfl) D.mixed (by kernel_rfl) (rs := [.tmp 4]) rfl ?_
  replace hsl := Hd.mk hsl
  repeat' (first
    | (simp (disch := first | omega | assumption) only [go_sem, ↓reduceIte, Nat.reduceEqDiff, reduceCtorEq, Nat.reduceAdd, Nat.reduceMul, Int.reduceToNat, Nat.reduceShiftRight, Nat.reduceAnd, Nat.reduceBNe, Nat.reduceBneDiff, Nat.reduceLT, Nat.reduceLeDiff, Int.reduceLT, Int.reduceLE, Int.reduceEq, Int.reduceAdd, Int.reduceSub, *])
    | (refine br_prop (fun hb => ?_) (fun hb => ?_) <;> try (exfalso; omega))
    | refine br_not ?_
    | (refine by_prop (fun hb => ?_) (fun hb => ?_) <;> try (exfalso; omega))
    | (refine by_prop' (fun hb => ?_) (fun hb => ?_) <;> try (exfalso; omega))
    | refine by_not ?_
    | refine w_drawn (by kernel_rfl) ?_
    | refine new_i' (by rfl) (fun j hj hn => ?_)
    | refine new_i (fun j hn => ?_)
    | refine br_bool (fun hb => ?_) (fun hb => ?_)
    | refine by_bool (fun hb => ?_) (fun hb => ?_)
    | refine by_bool' (fun hb => ?_) (fun hb => ?_))
  · refine call_i (cfail _ _ _ _ _ fun i hi => ?_)
    repeat' (first
      | (simp (disch := first | omega | assumption) only [go_sem, ↓reduceIte, Nat.reduceEqDiff, reduceCtorEq, Nat.reduceAdd, Nat.reduceMul, Int.reduceToNat, Nat.reduceShiftRight, Nat.reduceAnd, Nat.reduceBNe, Nat.reduceBneDiff, Nat.reduceLT, Nat.reduceLeDiff, Int.reduceLT, Int.reduceLE, Int.reduceEq, Int.reduceAdd, Int.reduceSub, true_and])
      | (refine br_prop (fun hb => ?_) (fun hb => ?_) <;> try (exfalso; omega))
      | refine br_not ?_
      | (refine by_prop (fun hb => ?_) (fun hb => ?_) <;> try (exfalso; omega))
      | (refine by_prop' (fun hb => ?_) (fun hb => ?_) <;> try (exfalso; omega))
      | refine by_not ?_
      | refine w_drawn (by kernel_rfl) ?_
      | refine new_i' (by rfl) (fun j hj hn => ?_)
      | refine new_i (fun j hn => ?_)
      | refine br_bool (fun hb => ?_) (fun hb => ?_)
      | refine by_bool (fun hb => ?_) (fun hb => ?_)
      | refine by_bool' (fun hb => ?_) (fun hb => ?_))
    exact hbig.go _ _ (by omega) ⟨i, rfl, AHeap.set_same _ _ _⟩ ((Grew.refl _).new _ hi)
  refine W.loopF 536854640 (fun m e H' => Grew H H' ∧ ∃ i : Nat, e 14 = .int .i64 i ∧ i ≤ l.length ∧ m = l.length - i ∧ badM l.length lb l 0 = badM l.length lb (l.drop i) i) l.length (by kernel_rfl) ?_ ?_
  · exact ⟨.refl _, 0, by simp (disch := first | omega | assumption) only [go_sem, ↓reduceIte, Nat.reduceEqDiff, reduceCtorEq, Nat.reduceAdd, Nat.reduceMul, Int.reduceToNat, Nat.reduceShiftRight, Nat.reduceAnd, Nat.reduceBNe, Nat.reduceBneDiff, Nat.reduceLT, Nat.reduceLeDiff, Int.reduceLT, Int.reduceLE, Int.reduceEq, Int.reduceAdd, Int.reduceSub, *]; try rfl, by omega, by omega, rfl⟩
  rintro m e Hc J hJ ⟨hg, i, he, h0, rfl, hM⟩
  replace hM := Hd.mk hM
  repeat' (first
    | (simp (disch := first | omega | assumption) only [go_sem, ↓reduceIte, Nat.reduceEqDiff, reduceCtorEq, Nat.reduceAdd, Nat.reduceMul, Int.reduceToNat, Nat.reduceShiftRight, Nat.reduceAnd, Nat.reduceBNe, Nat.reduceBneDiff, Nat.reduceLT, Nat.reduceLeDiff, Int.reduceLT, Int.reduceLE, Int.reduceEq, Int.reduceAdd, Int.reduceSub, *])
    | (refine br_prop (fun hb => ?_) (fun hb => ?_) <;> try (exfalso; omega))
    | refine br_not ?_
    | (refine by_prop (fun hb => ?_) (fun hb => ?_) <;> try (exfalso; omega))
    | (refine by_prop' (fun hb => ?_) (fun hb => ?_) <;> try (exfalso; omega))
    | refine by_not ?_
    | refine w_drawn (by kernel_rfl) ?_
    | refine new_i' (by rfl) (fun j hj hn => ?_)
    | refine new_i (fun j hn => ?_)
    | refine br_bool (fun hb => ?_) (fun hb => ?_)
    | refine by_bool (fun hb => ?_) (fun hb => ?_)
    | refine by_bool' (fun hb => ?_) (fun hb => ?_))
  · obtain ⟨q, rfl⟩ : ∃ q, o = some q := by
      cases o with
      | none => obtain ⟨_, h, _⟩ := hsl.go; omega
      | some q => exact ⟨_, rfl⟩
    obtain ⟨c', d, e1, hH, _, _, _⟩ := hsl.go
    injection e1 with e1a e1b e1c
    subst e1a
    clear e1b e1c
    have hi : i < l.length := by omega
    obtain ⟨x, hx⟩ : ∃ x, x = l.getD i Ins.zero := ⟨_, rfl⟩
    have hxm : x ∈ l := by rw [hx, List.getD_eq_getElem?_getD, List.getElem?_eq_getElem hi]; exact List.getElem_mem hi
    have hxd : Hd (l.drop i = x :: l.drop (i + 1)) := ⟨by rw [List.drop_eq_getElem_cons hi, hx, List.getD_eq_getElem?_getD, List.getElem?_eq_getElem hi]; rfl⟩
    have hq : Hc q = H q := hg q (by rw [hH]; simp)
    have hr1 : readA (H q) (i * 7) (some 7) = some (.agg #[.int .i64 x.op, .int .i64 x.a, .int .i64 x.b, .int .i64 x.c, .int .u64 x.v, .int .i64 x.m, .int .i64 x.w]) := by
      rw [hH, flat_read (enc := encI) (fun _ => rfl) Ins.zero hi, ← hx]; rfl
    replace hg := Hd.mk hg
    clear hH hx
    repeat' (first
      | (simp (disch := first | omega | assumption) only [go_sem, ↓reduceIte, Nat.reduceEqDiff, reduceCtorEq, Nat.reduceAdd, Nat.reduceMul, Int.reduceToNat, Nat.reduceShiftRight, Nat.reduceAnd, Nat.reduceBNe, Nat.reduceBneDiff, Nat.reduceLT, Nat.reduceLeDiff, Int.reduceLT, Int.reduceLE, Int.reduceEq, Int.reduceAdd, Int.reduceSub, *])
      | (refine br_prop (fun hb => ?_) (fun hb => ?_) <;> try (exfalso; omega))
      | refine br_not ?_
      | (refine by_prop (fun hb => ?_) (fun hb => ?_) <;> try (exfalso; omega))
      | (refine by_prop' (fun hb => ?_) (fun hb => ?_) <;> try (exfalso; omega))
      | refine by_not ?_
      | refine w_drawn (by kernel_rfl) ?_
      | refine new_i' (by rfl) (fun j hj hn => ?_)
      | refine new_i (fun j hn => ?_)
      | refine br_bool (fun hb => ?_) (fun hb => ?_)
      | refine by_bool (fun hb => ?_) (fun hb => ?_)
      | refine by_bool' (fun hb => ?_) (fun hb => ?_))
    refine call_i (may65 x l.length lb (hv.go x hxm) ⟨by omega, by omega⟩ _ _ fun H3 hg3 => ?_)
    have hG3 : Hd (Grew H H3) := ⟨(hg.go.new _ hn).trans hg3⟩
    replace hg3 := Hd.mk hg3
    cases hmy : may x l.length lb with
    | true =>
      repeat' (first
        | (simp (disch := first | omega | assumption) only [go_sem, ↓reduceIte, Nat.reduceEqDiff, reduceCtorEq, Nat.reduceAdd, Nat.reduceMul, Int.reduceToNat, Nat.reduceShiftRight, Nat.reduceAnd, Nat.reduceBNe, Nat.reduceBneDiff, Nat.reduceLT, Nat.reduceLeDiff, Int.reduceLT, Int.reduceLE, Int.reduceEq, Int.reduceAdd, Int.reduceSub, *])
        | (refine br_prop (fun hb => ?_) (fun hb => ?_) <;> try (exfalso; omega))
        | refine br_not ?_
        | (refine by_prop (fun hb => ?_) (fun hb => ?_) <;> try (exfalso; omega))
        | (refine by_prop' (fun hb => ?_) (fun hb => ?_) <;> try (exfalso; omega))
        | refine by_not ?_
        | refine w_drawn (by kernel_rfl) ?_
        | refine new_i' (by rfl) (fun j hj hn => ?_)
        | refine new_i (fun j hn => ?_)
        | refine br_bool (fun hb => ?_) (fun hb => ?_)
        | refine by_bool (fun hb => ?_) (fun hb => ?_)
        | refine by_bool' (fun hb => ?_) (fun hb => ?_))
      exact inv_i (hJ.go _ _ ⟨_, by omega, hG3.go, i + 1, rfl, by omega, rfl, by rw [hM.go, hxd.go, badM, if_pos hmy]⟩)
    | false =>
      repeat' (first
        | (simp (disch := first | omega | assumption) only [go_sem, ↓reduceIte, Nat.reduceEqDiff, reduceCtorEq, Nat.reduceAdd, Nat.reduceMul, Int.reduceToNat, Nat.reduceShiftRight, Nat.reduceAnd, Nat.reduceBNe, Nat.reduceBneDiff, Nat.reduceLT, Nat.reduceLeDiff, Int.reduceLT, Int.reduceLE, Int.reduceEq, Int.reduceAdd, Int.reduceSub, *])
        | (refine br_prop (fun hb => ?_) (fun hb => ?_) <;> try (exfalso; omega))
        | refine br_not ?_
        | (refine by_prop (fun hb => ?_) (fun hb => ?_) <;> try (exfalso; omega))
        | (refine by_prop' (fun hb => ?_) (fun hb => ?_) <;> try (exfalso; omega))
        | refine by_not ?_
        | refine w_drawn (by kernel_rfl) ?_
        | refine new_i' (by rfl) (fun j hj hn => ?_)
        | refine new_i (fun j hn => ?_)
        | refine br_bool (fun hb => ?_) (fun hb => ?_)
        | refine by_bool (fun hb => ?_) (fun hb => ?_)
        | refine by_bool' (fun hb => ?_) (fun hb => ?_))
      refine call_i (cfail _ _ _ _ _ fun k hk => ?_)
      repeat' (first
        | (simp (disch := first | omega | assumption) only [go_sem, ↓reduceIte, Nat.reduceEqDiff, reduceCtorEq, Nat.reduceAdd, Nat.reduceMul, Int.reduceToNat, Nat.reduceShiftRight, Nat.reduceAnd, Nat.reduceBNe, Nat.reduceBneDiff, Nat.reduceLT, Nat.reduceLeDiff, Int.reduceLT, Int.reduceLE, Int.reduceEq, Int.reduceAdd, Int.reduceSub, true_and])
        | (refine br_prop (fun hb => ?_) (fun hb => ?_) <;> try (exfalso; omega))
        | refine br_not ?_
        | (refine by_prop (fun hb => ?_) (fun hb => ?_) <;> try (exfalso; omega))
        | (refine by_prop' (fun hb => ?_) (fun hb => ?_) <;> try (exfalso; omega))
        | refine by_not ?_
        | refine w_drawn (by kernel_rfl) ?_
        | refine new_i' (by rfl) (fun j hj hn => ?_)
        | refine new_i (fun j hn => ?_)
        | refine br_bool (fun hb => ?_) (fun hb => ?_)
        | refine by_bool (fun hb => ?_) (fun hb => ?_)
        | refine by_bool' (fun hb => ?_) (fun hb => ?_))
      exact hbad.go _ _ i (by omega) (by rw [hM.go, hxd.go, badM, if_neg (by rw [hmy]; simp)]) ⟨k, rfl, AHeap.set_same _ _ _⟩ (hG3.go.new _ hk)
  · exact hok.go _ (by omega) (by rw [hM.go, List.drop_eq_nil_of_le (by omega)]; rfl) hg
end Go.Proofs
