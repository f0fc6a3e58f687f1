/-
  A part of the proofs: HA HB.
-/
import Derived.Test.YtnbfimppgcoajaaDoorDT
import Derived.Test.YtnbfimppgcoajaaDoorAbS
import Derived.Test.YtnbfimppgcoajaaDoorAbEq
import Derived.Test.YtnbfimppgcoajaaDoorPT
import Derived.Test.YtnbfimppgcoajaaDoorPA
import Derived.Test.YtnbfimppgcoajaaDoorGI
import Derived.Test.YtnbfimppgcoajaaDoorPGA
import Derived.Test.YtnbfimppgcoajaaDoorEA
import Derived.Test.YtnbfimppgcoajaaDoorPEF
import Derived.Test.YtnbfimppgcoajaaDoorPEN
namespace Go.Proofs
set_option linter.unusedSimpArgs false
set_option linter.unusedVariables false
set_option linter.unusedSectionVars false
open Go Go.Ab AsmM
variable [StartErr]
set_option maxRecDepth 100000
set_option maxHeartbeats 1000000
/-- A slice of bytes that was built since H0, whose object is none of Q. -/
def BB (H0 : AHeap) (Q : Nat → Prop) (H : AHeap) (v : Value) (bs : Bytes) : Prop := ∃ o, SL H 1 v bs.length (bs.map u8v) o ∧ ∀ i, o = some i → H0 i = .none ∧ ¬ Q i
theorem BB.nil (H0 : AHeap) (Q : Nat → Prop) (H : AHeap) : BB H0 Q H (.slice none 0 0) [] := ⟨none, SL.nil _ _, fun _ h => by cases h⟩
theorem BB.grew {H0 H H' : AHeap} {Q : Nat → Prop} {v : Value} {bs : Bytes} (h : BB H0 Q H v bs) (hg : Grew H H') : BB H0 Q H' v bs := by obtain ⟨o, h1, h2⟩ := h; exact ⟨o, h1.grew hg, h2⟩
theorem BB.new {H0 H : AHeap} {Q : Nat → Prop} {v : Value} {bs : Bytes} (h : BB H0 Q H v bs) {i : Nat} (o : AObj) (hi : H i = .none) : BB H0 Q (H.set i o) v bs := h.grew ((Grew.refl _).new o hi)
/-- A new object is none of the slice's. -/
theorem BB.keep {H0 H : AHeap} {Q : Nat → Prop} {v : Value} {bs : Bytes} (h : BB H0 Q H v bs) {i : Nat} (hi : H i = .none) : BB H0 (fun k => k = i) H v bs := by
  obtain ⟨o, h1, h2⟩ := h
  refine ⟨o, h1, fun k hk => ⟨(h2 k hk).1, fun e => ?_⟩⟩
  subst e
  subst hk
  exact h1.some_ne hi
theorem BB.free {H0 H : AHeap} {Q : Nat → Prop} {v : Value} {bs : Bytes} (h : BB H0 Q H v bs) : BB H0 (fun _ => False) H v bs := by
  obtain ⟨o, h1, h2⟩ := h; exact ⟨o, h1, fun k hk => ⟨(h2 k hk).1, fun e => e⟩⟩
theorem BB.val {H0 H : AHeap} {Q : Nat → Prop} {v : Value} {bs : Bytes} (h : BB H0 Q H v bs) : ∃ a c, v = .slice a bs.length c := by obtain ⟨o, h, _⟩ := h; exact h.val
theorem str_cells (t : Bytes) : Lib.strCells (bA t) = t.map u8v := by
  unfold Lib.strCells bA
  simp [u8v]
theorem app_bytes {xt : TypeId} {x v : Value} {bs t : Bytes} {H0 H : AHeap} {Q : Nat → Prop} {K : Value → AHeap → Prop} (hn : newsA Tryd.prog H 1 xt x = some (t.map u8v, t.length)) (hg : Grew H0 H) (hq : ∀ k, Q k → H k ≠ .none) (hb : BB H0 Q H v bs) (hl : bs.length + t.length ≤ 100000000)
    (h : ∀ v' H', Grew H0 H' → (∀ k, Q k → H' k = H k) → BB H0 Q H' v' (bs ++ t) → K v' H') : appendW Tryd.prog 75 xt v x H K := by
  obtain ⟨o, hs, ho⟩ := hb
  by_cases ht : t = []
  · subst ht
    simp only [List.append_nil] at h
    have hn' : newsA Tryd.prog H 1 xt x = some ([], 0) := hn
    unfold appendW
    simp only [D.e75, hn']
    cases o with
    | none =>
      obtain ⟨e1, e2, e3⟩ := hs
      subst e1
      simp only [if_true]
      exact h _ _ hg (fun _ _ => rfl) ⟨none, ⟨rfl, e2, e3⟩, ho⟩
    | some i =>
      obtain ⟨c, ds, e1, e2, e3, e4, e5⟩ := hs
      subst e1
      simp only [e2, Nat.add_zero, if_pos e5]
      have hset : H.set i (.cells (putL (bs.map u8v ++ ds) (bs.length * 1) [])) = H := by
        funext j; unfold AHeap.set; split
        · rename_i hj; subst hj; rw [e2]; rfl
        · rfl
      rw [hset]
      refine ⟨by rw [e3]; exact Nat.mul_le_mul_right _ e5, h _ _ hg (fun _ _ => rfl) ⟨some i, ⟨c, ds, rfl, e2, e3, e4, e5⟩, ho⟩⟩
  · have hpos : 0 < t.length := List.length_pos_iff.2 ht
    refine app_go D.e75 hs hn (by simp) hpos (by omega) (by omega) fun v' H' i h1 h2 h3 => h v' H' (fun j hj => ?_) (fun k hk => ?_) ⟨some i, ?_, fun k hk => ?_⟩
    · rw [h2 j (by rw [hg j hj]; exact hj) (fun e => hj (ho j e).1), hg j hj]
    · exact h2 k (hq k hk) fun e => (ho k e).2 hk
    · rw [List.length_append, List.map_append]; exact h1
    · cases hk
      rcases h3 with h3 | h3
      · exact ho i h3
      · refine ⟨?_, fun e => hq i e h3⟩
        cases h0 : H0 i with
        | none => rfl
        | _ => have := hg i (by rw [h0]; simp); rw [h3, h0] at this; cases this
theorem app_str {v : Value} {bs t : Bytes} {H0 H : AHeap} {Q : Nat → Prop} {K : Value → AHeap → Prop} (hg : Grew H0 H) (hq : ∀ k, Q k → H k ≠ .none) (hb : BB H0 Q H v bs) (hl : bs.length + t.length ≤ 100000000)
    (h : ∀ v' H', Grew H0 H' → (∀ k, Q k → H' k = H k) → BB H0 Q H' v' (bs ++ t) → K v' H') : appendW Tryd.prog 75 9 v (.string (bA t)) H K :=
  app_bytes (by unfold newsA; simp only [D.u9, if_true, str_cells, bA_size]) hg hq hb hl h
theorem app_byte {v : Value} {bs : Bytes} {c : UInt8} {j : Nat} {H0 H : AHeap} {Q : Nat → Prop} {K : Value → AHeap → Prop} (hg : Grew H0 H) (hq : ∀ k, Q k → H k ≠ .none) (hb : BB H0 Q H v bs) (hj : H j = .cells [u8v c]) (hl : bs.length + 1 ≤ 100000000)
    (h : ∀ v' H', Grew H0 H' → (∀ k, Q k → H' k = H k) → BB H0 Q H' v' (bs ++ [c]) → K v' H') : appendW Tryd.prog 75 75 v (.slice (some ⟨j, 0, none⟩) 1 1) H K :=
  app_bytes (t := [c]) (news_one D.u75 hj rfl) hg hq hb hl h
theorem conv75_nil (H : AHeap) : convV Tryd.prog H 75 9 (.slice none 0 0) = some (.string (bA [])) := by kernel_rfl
theorem bb_str {H0 H : AHeap} {Q : Nat → Prop} {v : Value} {bs : Bytes} (h : BB H0 Q H v bs) : convV Tryd.prog H 75 9 v = some (.string (bA bs)) := by
  obtain ⟨o, hs, ho⟩ := h
  cases o with
  | none =>
    obtain ⟨e1, e2, e3⟩ := hs
    subst e1
    have : bs = [] := List.length_eq_zero_iff.1 e2
    subst this
    exact conv75_nil H
  | some i =>
    obtain ⟨c, ds, e1, e2, e3, e4, e5⟩ := hs
    subst e1
    rw [conv75 (xs := bs.map fun b => (b.toNat : Int)) e2 (by
      rw [List.drop_zero, List.take_append_of_le_length (by simp), List.take_of_length_le (by simp)]
      exact bytesA_map _) (by simp)]
    congr 1
    congr 1
    unfold strOfNums bA
    rw [List.map_map]
    congr 1
    congr 1
    conv => rhs; rw [← List.map_id bs]
    refine List.map_congr_left fun b _ => ?_
    simp
/-! ### What print needs of an instruction -/
theorem ops_ne : ∀ k : Fin 58, (∀ z ∈ operands ((k.val : Int) + 1), z ≠ 0) ∧ (operands ((k.val : Int) + 1)).length ≤ 3 ∧ (2 ∈ operands ((k.val : Int) + 1) → lessB ((k.val : Int) + 1) = false) ∧ (3 ∈ operands ((k.val : Int) + 1) → lessC ((k.val : Int) + 1) = false) := by decide +kernel
theorem ops_facts {op : Int} (h1 : 1 ≤ op) (h2 : op ≤ 58) : (∀ z ∈ operands op, z ≠ 0) ∧ (operands op).length ≤ 3 ∧ (2 ∈ operands op → lessB op = false) ∧ (3 ∈ operands op → lessC op = false) := by
  obtain ⟨k, rfl⟩ : ∃ k : Nat, op = (k : Int) + 1 := ⟨(op - 1).toNat, by omega⟩
  exact ops_ne ⟨k, by omega⟩
theorem regOk_ge {n : Int} {u l : Bool} (h : regOk n u l = true) : -1 ≤ n ∧ (l = false → 0 ≤ n) := by
  unfold regOk at h
  cases l <;> simp only [Bool.or_eq_true, Bool.and_eq_true, decide_eq_true_eq, Bool.and_false, Bool.false_and, Bool.false_eq_true, or_false, false_or] at h
  · omega
  · exact ⟨by omega, by simp⟩
theorem fine_fit {n : Int} {x : Ins} (h : Fine n x) (hv : 0 ≤ x.v ∧ x.v < 18446744073709551616) : Fit x := by
  have a1 := regOk_small h.a; have a2 := (regOk_ge h.a).2 rfl
  have b1 := regOk_small h.b; have b2 := (regOk_ge h.b).1
  have c1 := regOk_small h.c; have c2 := (regOk_ge h.c).1
  exact ⟨⟨a2, by omega⟩, ⟨b2, by omega⟩, ⟨c2, by omega⟩, hv⟩
theorem shown_len1 {n : Int} {x : Ins} (hx : Fine n x) (hv : x.v < 18446744073709551616) (k : Int) : (shown x k).length ≤ 50 := by
  have ha := AsmM.reg_len (regOk_small hx.a); have hb := AsmM.reg_len (regOk_small hx.b); have hc := AsmM.reg_len (regOk_small hx.c); have hd := decI_len hv
  unfold shown
  repeat' split
  all_goals simp [spell]
  all_goals omega
theorem marked_len {n : Int} {x : Ins} (hx : Fine n x) : (marked x).length ≤ 30 := by
  have h1 := decI_len (n := x.m) (by have := hx.m2; omega)
  have h2 : (tailW x.w).length ≤ 2 := by unfold tailW; (repeat' split) <;> simp
  unfold marked
  split
  · simp
  · simp only [List.length_cons, List.length_append]; omega
theorem codeText_drop (l : List Ins) (i : Nat) (h : i < l.length) : codeText l i (l.drop i) = ((if goal l i then spell i ++ [58, 10] else []) ++ insText (l.getD i Ins.zero)) ++ codeText l ((i + 1 : Nat) : Int) (l.drop (i + 1)) := by
  rw [List.drop_eq_getElem_cons h, codeText, List.getD_eq_getElem?_getD, List.getElem?_eq_getElem h, Option.getD_some]
  push_cast
  simp only [List.append_assoc]
theorem goal_take (l : List Ins) (i : Nat) (h : i < l.length) (j : Int) : goal (l.take (i + 1)) j = (goal (l.take i) j || (isJump (l.getD i Ins.zero).op && decide ((l.getD i Ins.zero).v = j))) := by
  unfold goal
  rw [List.take_succ_eq_append_getElem h, List.any_append, List.getD_eq_getElem?_getD, List.getElem?_eq_getElem h, Option.getD_some]
  simp
def goalC (l : List Ins) (i : Nat) : List Value := (List.range l.length).map fun j : Nat => .bool (goal (l.take i) (j : Int))
theorem goalC_len (l : List Ins) (i : Nat) : (goalC l i).length = l.length := by simp [goalC]
theorem goalC_set (l : List Ins) (i : Nat) (h : i < l.length) (hj : isJump (l.getD i Ins.zero).op = true) (v : Nat) (hv : (l.getD i Ins.zero).v = v) (hlt : v < l.length) : (goalC l i).set v (.bool true) = goalC l (i + 1) := by
  refine List.ext_getElem (by simp [goalC]) fun k h1 h2 => ?_
  rw [List.getElem_set]
  simp only [goalC, List.getElem_map, List.getElem_range]
  rw [goal_take l i h, hj, hv]
  by_cases hk : v = k
  · subst hk; simp
  · rw [if_neg hk]
    congr 1
    rw [decide_eq_false (by omega)]; simp
theorem goalC_skip (l : List Ins) (i : Nat) (h : i < l.length) (hj : isJump (l.getD i Ins.zero).op = false) : goalC l (i + 1) = goalC l i := by
  unfold goalC
  refine List.map_congr_left fun k _ => ?_
  rw [goal_take l i h, hj]; simp
theorem goalC_zero (l : List Ins) : goalC l 0 = List.replicate l.length (.bool false) := by
  refine List.ext_getElem (by simp [goalC]) fun k h1 h2 => ?_
  simp [goalC, goal]
theorem goalC_get (l : List Ins) (k : Nat) (h : k < l.length) : (goalC l l.length)[k]? = some (.bool (goal l k)) := by
  unfold goalC
  rw [List.getElem?_map, List.getElem?_range h, List.take_of_length_le (Nat.le_refl _)]; rfl
theorem make_bool (n : Nat) (h : n ≤ 2048) : makeSliceA Tryd.prog 74 (.int .i64 n) (.int .i64 n) = some (List.replicate n (.bool false), n, n) := by
  unfold makeSliceA
  rw [show elemA Tryd.prog 74 = some ⟨4, 1, 1⟩ by kernel_rfl]
  simp only [Option.bind_some]
  rw [show zeroA Tryd.prog 4 = some (.bool false) by kernel_rfl]
  simp only [Option.bind_some]
  rw [if_pos ⟨by rfl, by omega, by omega, by omega, by omega⟩]
  simp only [Int.toNat_natCast]
  congr 1
  congr 1
  induction n with
  | zero => rfl
  | succ n ih => rw [List.replicate_succ, List.replicate_succ, List.flatten_cons, ih (by omega)]; rfl
/-- One of the three kinds that are told of an instruction. -/
def kindAt (op : Int) (j : Nat) : Int := (operands op ++ [0, 0, 0]).getD j 0
theorem idx78 (op : Int) (j : Nat) (hj : j < 3) : indexA Tryd.prog 78 (.agg (List.toArray (opsV op))) (.int .i64 j) = some (.int .i64 (kindAt op j)) := by
  unfold opsV kindAt
  obtain ⟨a, b, c, r, h⟩ : ∃ a b c r, operands op ++ [0, 0, 0] = a :: b :: c :: r := by
    rcases operands op with _ | ⟨a, _ | ⟨b, _ | ⟨c, r⟩⟩⟩
    · exact ⟨_, _, _, _, rfl⟩
    · exact ⟨_, _, _, _, rfl⟩
    · exact ⟨_, _, _, _, rfl⟩
    · exact ⟨_, _, _, _, rfl⟩
  rw [h]
  have key : ∀ a b c : Int, indexA Tryd.prog 78 (.agg #[.int .i64 a, .int .i64 b, .int .i64 c]) (.int .i64 (0 : Nat)) = some (.int .i64 a) ∧ indexA Tryd.prog 78 (.agg #[.int .i64 a, .int .i64 b, .int .i64 c]) (.int .i64 (1 : Nat)) = some (.int .i64 b) ∧ indexA Tryd.prog 78 (.agg #[.int .i64 a, .int .i64 b, .int .i64 c]) (.int .i64 (2 : Nat)) = some (.int .i64 c) := fun a b c => ⟨by kernel_rfl, by kernel_rfl, by kernel_rfl⟩
  rcases (show j = 0 ∨ j = 1 ∨ j = 2 by omega) with rfl | rfl | rfl
  · exact (key a b c).1
  · exact (key a b c).2.1
  · exact (key a b c).2.2
theorem kind_lt {op : Int} {j : Nat} (h : j < (operands op).length) : kindAt op j = (operands op)[j] ∧ kindAt op j ∈ operands op := by
  have : kindAt op j = (operands op)[j] := by
    unfold kindAt
    rw [List.getD_eq_getElem?_getD, List.getElem?_append_left h, List.getElem?_eq_getElem h]; rfl
  exact ⟨this, by rw [this]; exact List.getElem_mem h⟩
theorem kind_end {op : Int} (h : (operands op).length < 3) : kindAt op (operands op).length = 0 := by
  unfold kindAt
  rw [List.getD_eq_getElem?_getD, List.getElem?_append_right (Nat.le_refl _), Nat.sub_self]; rfl
def opsText (x : Ins) (j : Nat) : Bytes := ((operands x.op).take j).flatMap fun k => 32 :: shown x k
theorem opsText_succ (x : Ins) (j : Nat) (h : j < (operands x.op).length) : opsText x (j + 1) = opsText x j ++ [32] ++ shown x (kindAt x.op j) := by
  unfold opsText
  rw [List.take_succ_eq_append_getElem h, List.flatMap_append, (kind_lt h).1]
  simp
theorem opsText_all (x : Ins) : opsText x (operands x.op).length = (operands x.op).flatMap fun k => 32 :: shown x k := by
  unfold opsText; rw [List.take_of_length_le (Nat.le_refl _)]
end Go.Proofs
namespace Go.Proofs
set_option linter.unusedSimpArgs false
set_option linter.unusedVariables false
set_option linter.unusedSectionVars false
open Go Go.Ab AsmM
variable [StartErr]
set_option maxRecDepth 100000
set_option maxHeartbeats 1000000
theorem firstBad_ge : ∀ (r : List Ins) (n k i : Int), 0 ≤ k → firstBad n r k = some i → 0 ≤ i
  | [], _, _, _, _, h => by cases h
  | y :: r, n, k, i, hk, h => by
    unfold firstBad at h
    split at h
    · exact firstBad_ge r n (k + 1) i (by omega) h
    · cases h; exact hk
theorem print14 (v : Value) (l : List Ins) (o : Option Nat) (H : AHeap) (hsl : SLr H 7 v l.length (l.flatMap encI) o) (hv : vOk l) (hlen : l.length ≤ 2513169434843) (K : Value → AHeap → Prop)
    (hok : ∀ H' s, print l = .ok s → Grew H H' → K (.tuple #[.string (bA s), .nilIface]) H')
    (herr : ∀ H' e er, print l = .error er → ErrR H' e er → Grew H H' → K (.tuple #[.string ByteArray.empty, e]) H') : ACalls Tryd.prog 14 #[v] H K := by
  replace hok := Hd.mk hok
  replace herr := Hd.mk herr
  replace hv := Hd.mk hv
  obtain ⟨a, c, rfl⟩ := hsl.val
  refine w_enter (args := [.slice a l.length c]) Tryd.func14 rfl (by kernel_rfl) D.mixed (by kernel_rfl) (rs := [.tmp 2, .tmp 3]) rfl ?_
  replace hsl := Hd.mk hsl
  repeat' (first
    | (simp (disch := first | omega | assumption) only [go_sem, ↓reduceIte, Nat.reduceEqDiff, reduceCtorEq, Nat.reduceAdd, Nat.reduceMul, Int.reduceToNat, Nat.reduceShiftRight, Nat.reduceAnd, Nat.reduceBNe, Nat.reduceBneDiff, Nat.reduceLT, Nat.reduceLeDiff, Int.reduceLT, Int.reduceLE, Int.reduceEq, Int.reduceAdd, Int.reduceSub, *])
    | (refine br_prop (fun hb => ?_) (fun hb => ?_) <;> try (exfalso; omega))
    | refine br_not ?_
    | (refine by_prop (fun hb => ?_) (fun hb => ?_) <;> try (exfalso; omega))
    | (refine by_prop' (fun hb => ?_) (fun hb => ?_) <;> try (exfalso; omega))
    | refine by_not ?_
    | refine w_drawn (by kernel_rfl) ?_
    | refine new_i' (by rfl) (fun j hj hn => ?_)
    | refine new_i (fun j hn => ?_)
    | refine br_bool (fun hb => ?_) (fun hb => ?_)
    | refine by_bool (fun hb => ?_) (fun hb => ?_)
    | refine by_bool' (fun hb => ?_) (fun hb => ?_))
  · refine call_i (afail_go _ _ _ _ (.refl _) _ fun H' e hg he => ?_)
    repeat' (first
      | (simp (disch := first | omega | assumption) only [go_sem, ↓reduceIte, Nat.reduceEqDiff, reduceCtorEq, Nat.reduceAdd, Nat.reduceMul, Int.reduceToNat, Nat.reduceShiftRight, Nat.reduceAnd, Nat.reduceBNe, Nat.reduceBneDiff, Nat.reduceLT, Nat.reduceLeDiff, Int.reduceLT, Int.reduceLE, Int.reduceEq, Int.reduceAdd, Int.reduceSub, true_and])
      | (refine br_prop (fun hb => ?_) (fun hb => ?_) <;> try (exfalso; omega))
      | refine br_not ?_
      | (refine by_prop (fun hb => ?_) (fun hb => ?_) <;> try (exfalso; omega))
      | (refine by_prop' (fun hb => ?_) (fun hb => ?_) <;> try (exfalso; omega))
      | refine by_not ?_
      | refine w_drawn (by kernel_rfl) ?_
      | refine new_i' (by rfl) (fun j hj hn => ?_)
      | refine new_i (fun j hn => ?_)
      | refine br_bool (fun hb => ?_) (fun hb => ?_)
      | refine by_bool (fun hb => ?_) (fun hb => ?_)
      | refine by_bool' (fun hb => ?_) (fun hb => ?_))
    exact herr.go _ _ _ (by unfold print; rw [if_pos (by omega)]) he hg
  refine call_i (bad24 _ l o _ hsl.go hv.go (by omega) _ fun H1 hg1 => ?_)
  obtain ⟨fb, hfb⟩ : ∃ fb : Int, fb = (firstBad l.length l 0).getD (-1) := ⟨_, rfl⟩
  rw [← hfb]
  replace hg1 := Hd.mk hg1
  replace hfb := Hd.mk hfb
  repeat' (first
    | (simp (disch := first | omega | assumption) only [go_sem, ↓reduceIte, Nat.reduceEqDiff, reduceCtorEq, Nat.reduceAdd, Nat.reduceMul, Int.reduceToNat, Nat.reduceShiftRight, Nat.reduceAnd, Nat.reduceBNe, Nat.reduceBneDiff, Nat.reduceLT, Nat.reduceLeDiff, Int.reduceLT, Int.reduceLE, Int.reduceEq, Int.reduceAdd, Int.reduceSub, *])
    | (refine br_prop (fun hb => ?_) (fun hb => ?_) <;> try (exfalso; omega))
    | refine br_not ?_
    | (refine by_prop (fun hb => ?_) (fun hb => ?_) <;> try (exfalso; omega))
    | (refine by_prop' (fun hb => ?_) (fun hb => ?_) <;> try (exfalso; omega))
    | refine by_not ?_
    | refine w_drawn (by kernel_rfl) ?_
    | refine new_i' (by rfl) (fun j hj hn => ?_)
    | refine new_i (fun j hn => ?_)
    | refine br_bool (fun hb => ?_) (fun hb => ?_)
    | refine by_bool (fun hb => ?_) (fun hb => ?_)
    | refine by_bool' (fun hb => ?_) (fun hb => ?_))
  · refine call_i (afail_go _ _ _ _ hg1.go _ fun H' e hg he => ?_)
    repeat' (first
      | (simp (disch := first | omega | assumption) only [go_sem, ↓reduceIte, Nat.reduceEqDiff, reduceCtorEq, Nat.reduceAdd, Nat.reduceMul, Int.reduceToNat, Nat.reduceShiftRight, Nat.reduceAnd, Nat.reduceBNe, Nat.reduceBneDiff, Nat.reduceLT, Nat.reduceLeDiff, Int.reduceLT, Int.reduceLE, Int.reduceEq, Int.reduceAdd, Int.reduceSub, true_and])
      | (refine br_prop (fun hb => ?_) (fun hb => ?_) <;> try (exfalso; omega))
      | refine br_not ?_
      | (refine by_prop (fun hb => ?_) (fun hb => ?_) <;> try (exfalso; omega))
      | (refine by_prop' (fun hb => ?_) (fun hb => ?_) <;> try (exfalso; omega))
      | refine by_not ?_
      | refine w_drawn (by kernel_rfl) ?_
      | refine new_i' (by rfl) (fun j hj hn => ?_)
      | refine new_i (fun j hn => ?_)
      | refine br_bool (fun hb => ?_) (fun hb => ?_)
      | refine by_bool (fun hb => ?_) (fun hb => ?_)
      | refine by_bool' (fun hb => ?_) (fun hb => ?_))
    refine herr.go _ _ _ ?_ he hg
    unfold print
    rw [if_neg (by omega)]
    have h := hfb.go
    cases hz : firstBad l.length l 0 with
    | none => rw [hz] at h; simp at h; omega
    | some i => rw [hz] at h; simp at h; rw [h]
  have hfn : firstBad l.length l 0 = none := by
    have h := hfb.go
    cases hz : firstBad l.length l 0 with
    | none => rfl
    | some i =>
      have : 0 ≤ i := firstBad_ge _ _ _ _ (by omega) hz
      rw [hz] at h; simp at h; omega
  have hprint : Hd (print l = .ok (codeText l 0 l)) := ⟨by unfold print; rw [if_neg (by omega), hfn]⟩
  have hfine : Hd (AllFine l.length l) := ⟨fun x hx => ⟨fine_of_valid (firstBad_none hfn x hx), hv.go x hx⟩⟩
  clear hfb hfn herr
  have hl2 : l.length ≤ 2048 := by omega
  have hmk := make_bool l.length (by omega)
  repeat' (first
    | (simp (disch := first | omega | assumption) only [go_sem, ↓reduceIte, Nat.reduceEqDiff, reduceCtorEq, Nat.reduceAdd, Nat.reduceMul, Int.reduceToNat, Nat.reduceShiftRight, Nat.reduceAnd, Nat.reduceBNe, Nat.reduceBneDiff, Nat.reduceLT, Nat.reduceLeDiff, Int.reduceLT, Int.reduceLE, Int.reduceEq, Int.reduceAdd, Int.reduceSub, *])
    | (refine br_prop (fun hb => ?_) (fun hb => ?_) <;> try (exfalso; omega))
    | refine br_not ?_
    | (refine by_prop (fun hb => ?_) (fun hb => ?_) <;> try (exfalso; omega))
    | (refine by_prop' (fun hb => ?_) (fun hb => ?_) <;> try (exfalso; omega))
    | refine by_not ?_
    | refine w_drawn (by kernel_rfl) ?_
    | refine new_i' (by rfl) (fun j hj hn => ?_)
    | refine new_i (fun j hn => ?_)
    | refine br_bool (fun hb => ?_) (fun hb => ?_)
    | refine by_bool (fun hb => ?_) (fun hb => ?_)
    | refine by_bool' (fun hb => ?_) (fun hb => ?_))
  revert j; intro jg hn
  have hG2 : Hd (Grew H (H1.set jg (.cells (List.replicate l.length (.bool false))))) := ⟨hg1.go.new _ hn⟩
  have hjH := hg1.go.none hn
  have hA2 : Hd ((H1.set jg (.cells (List.replicate l.length (.bool false)))) jg = .cells (goalC l 0)) := ⟨by rw [AHeap.set_same, goalC_zero]⟩
  clear hmk hg1 hn
  generalize H1.set jg (.cells (List.replicate l.length (.bool false))) = H2 at *
  have hread : ∀ Hc, Grew H Hc → ∀ i, i < l.length → ∃ q c', o = some q ∧ a = some ⟨q, 0, none⟩ ∧ (Hc q).isNone = false ∧ readA (Hc q) (i * 7) (some 7) = some (.agg #[.int .i64 (l.getD i Ins.zero).op, .int .i64 (l.getD i Ins.zero).a, .int .i64 (l.getD i Ins.zero).b, .int .i64 (l.getD i Ins.zero).c, .int .u64 (l.getD i Ins.zero).v, .int .i64 (l.getD i Ins.zero).m, .int .i64 (l.getD i Ins.zero).w]) ∧ c' = c := by
    intro Hc hg i hi
    obtain ⟨q, rfl⟩ : ∃ q, o = some q := by
      cases o with
      | none => obtain ⟨_, _, h, _⟩ := hsl.go; omega
      | some q => exact ⟨_, rfl⟩
    obtain ⟨c', d, e1, hH, _⟩ := hsl.go
    injection e1 with e1a e1b e1c
    have hq : Hc q = H q := hg q (by intro h; rw [h] at hH; cases hH)
    have hr1 : readA (Hc q) (i * 7) (some 7) = some (.agg #[.int .i64 (l.getD i Ins.zero).op, .int .i64 (l.getD i Ins.zero).a, .int .i64 (l.getD i Ins.zero).b, .int .i64 (l.getD i Ins.zero).c, .int .u64 (l.getD i Ins.zero).v, .int .i64 (l.getD i Ins.zero).m, .int .i64 (l.getD i Ins.zero).w]) := by
      rw [hq, readA_of hH, flat_read (enc := encI) (fun _ => rfl) Ins.zero hi]; rfl
    refine ⟨q, c, rfl, e1a, ?_, hr1, rfl⟩
    cases hz : Hc q <;> first | rfl | (rw [hz] at hr1; cases hr1)
  replace hread := Hd.mk hread
  refine W.loopF 70367670435968 (fun m e H' => Grew H H' ∧ ∃ i : Nat, e 30 = .int .i64 i ∧ i ≤ l.length ∧ m = l.length - i ∧ H' jg = .cells (goalC l i)) l.length (by kernel_rfl) ?_ ?_
  · exact ⟨hG2.go, 0, by simp (disch := first | omega | assumption) only [go_sem, ↓reduceIte, Nat.reduceEqDiff, reduceCtorEq, Nat.reduceAdd, Nat.reduceMul, Int.reduceToNat, Nat.reduceShiftRight, Nat.reduceAnd, Nat.reduceBNe, Nat.reduceBneDiff, Nat.reduceLT, Nat.reduceLeDiff, Int.reduceLT, Int.reduceLE, Int.reduceEq, Int.reduceAdd, Int.reduceSub, *]; try rfl, by omega, by omega, hA2.go⟩
  · rintro m e1 Hc J hJ ⟨hg, i, he, hil, rfl, hc1⟩
    replace hg := Hd.mk hg
    by_cases hi : i < l.length
    · obtain ⟨q, _, _, ha, n1, hr1, _⟩ := hread.go Hc hg.go i hi
      subst ha
      have n2 : (Hc jg).isNone = false := by rw [hc1]; rfl
      obtain ⟨hxf, hxv⟩ := hfine.go (l.getD i Ins.zero) (by rw [List.getD_eq_getElem?_getD, List.getElem?_eq_getElem hi]; exact List.getElem_mem hi)
      have hskip := goalC_skip l i hi
      have hset := goalC_set l i hi
      generalize l.getD i Ins.zero = x at *
      have hxj : isJump x.op = true → x.v < l.length := fine_jump hxf
      have hjdef : isJump x.op = decide (x.op = 12 ∨ x.op = 13 ∨ x.op = 14 ∨ x.op = 15) := rfl
      obtain ⟨vn, hvn⟩ : ∃ vn : Nat, x.v = vn := ⟨x.v.toNat, by omega⟩
      have hwr : isJump x.op = true → writeA (.cells (goalC l i)) vn [.bool true] = some (.cells (goalC l (i + 1))) := fun hj => by
        have := hxj hj
        rw [write_one (by rw [goalC_len]; omega) rfl, hset hj vn hvn (by omega)]
      rw [hvn] at hr1
      replace hset := Hd.mk hset
      replace hskip := Hd.mk hskip
      replace hxf := Hd.mk hxf
      replace hxj := Hd.mk hxj
      replace hwr := Hd.mk hwr
      replace hjdef := Hd.mk hjdef
      replace hvn := Hd.mk hvn
      clear hxv
      cases hj : isJump x.op with
      | true =>
        have hlt : vn < l.length := by have := hxj.go hj; have := hvn.go; omega
        have hw := hwr.go hj
        have hd : x.op = 12 ∨ x.op = 13 ∨ x.op = 14 ∨ x.op = 15 := by have h := hjdef.go; rw [hj] at h; exact of_decide_eq_true h.symm
        clear hj
        repeat' (first
          | (simp (disch := first | omega | assumption) only [go_sem, ↓reduceIte, Nat.reduceEqDiff, reduceCtorEq, Nat.reduceAdd, Nat.reduceMul, Int.reduceToNat, Nat.reduceShiftRight, Nat.reduceAnd, Nat.reduceBNe, Nat.reduceBneDiff, Nat.reduceLT, Nat.reduceLeDiff, Int.reduceLT, Int.reduceLE, Int.reduceEq, Int.reduceAdd, Int.reduceSub, *])
          | (refine br_prop (fun hb => ?_) (fun hb => ?_) <;> try (exfalso; omega))
          | refine br_not ?_
          | (refine by_prop (fun hb => ?_) (fun hb => ?_) <;> try (exfalso; omega))
          | (refine by_prop' (fun hb => ?_) (fun hb => ?_) <;> try (exfalso; omega))
          | refine by_not ?_
          | refine w_drawn (by kernel_rfl) ?_
          | refine new_i' (by rfl) (fun j hj hn => ?_)
          | refine new_i (fun j hn => ?_)
          | refine br_bool (fun hb => ?_) (fun hb => ?_)
          | refine by_bool (fun hb => ?_) (fun hb => ?_)
          | refine by_bool' (fun hb => ?_) (fun hb => ?_))
        all_goals
          have hh := hg.go.none hn
          have hne : jg ≠ j := fun e => by subst e; rw [hn] at hc1; cases hc1
          refine inv_i (hJ.go _ _ ⟨_, by omega, by repeat' (first | exact hg.go | refine Grew.set ?_ _ (by first | exact hjH | exact hh)), i + 1, rfl, by omega, rfl, ?_⟩)
          simp only [AHeap.set_apply, if_true]
      | false =>
        have hd : ¬ (x.op = 12 ∨ x.op = 13 ∨ x.op = 14 ∨ x.op = 15) := by have h := hjdef.go; rw [hj] at h; exact of_decide_eq_false h.symm
        have hs := hskip.go hj
        replace hs := Hd.mk hs
        clear hj
        repeat' (first
          | (simp (disch := first | omega | assumption) only [go_sem, ↓reduceIte, Nat.reduceEqDiff, reduceCtorEq, Nat.reduceAdd, Nat.reduceMul, Int.reduceToNat, Nat.reduceShiftRight, Nat.reduceAnd, Nat.reduceBNe, Nat.reduceBneDiff, Nat.reduceLT, Nat.reduceLeDiff, Int.reduceLT, Int.reduceLE, Int.reduceEq, Int.reduceAdd, Int.reduceSub, *])
          | (refine br_prop (fun hb => ?_) (fun hb => ?_) <;> try (exfalso; omega))
          | refine br_not ?_
          | (refine by_prop (fun hb => ?_) (fun hb => ?_) <;> try (exfalso; omega))
          | (refine by_prop' (fun hb => ?_) (fun hb => ?_) <;> try (exfalso; omega))
          | refine by_not ?_
          | refine w_drawn (by kernel_rfl) ?_
          | refine new_i' (by rfl) (fun j hj hn => ?_)
          | refine new_i (fun j hn => ?_)
          | refine br_bool (fun hb => ?_) (fun hb => ?_)
          | refine by_bool (fun hb => ?_) (fun hb => ?_)
          | refine by_bool' (fun hb => ?_) (fun hb => ?_))
        have hne : jg ≠ j := fun e => by subst e; rw [hn] at hc1; cases hc1
        refine inv_i (hJ.go _ _ ⟨_, by omega, hg.go.new _ hn, i + 1, rfl, by omega, rfl, ?_⟩)
        rw [AHeap.set_ne _ _ hne, hc1, hs.go]
    · obtain rfl : i = l.length := by omega
      replace hc1 := Hd.mk hc1
      clear hjH hA2 hG2 hJ
      repeat' (first
        | (simp (disch := first | omega | assumption) only [go_sem, ↓reduceIte, Nat.reduceEqDiff, reduceCtorEq, Nat.reduceAdd, Nat.reduceMul, Int.reduceToNat, Nat.reduceShiftRight, Nat.reduceAnd, Nat.reduceBNe, Nat.reduceBneDiff, Nat.reduceLT, Nat.reduceLeDiff, Int.reduceLT, Int.reduceLE, Int.reduceEq, Int.reduceAdd, Int.reduceSub, *])
        | (refine br_prop (fun hb => ?_) (fun hb => ?_) <;> try (exfalso; omega))
        | refine br_not ?_
        | (refine by_prop (fun hb => ?_) (fun hb => ?_) <;> try (exfalso; omega))
        | (refine by_prop' (fun hb => ?_) (fun hb => ?_) <;> try (exfalso; omega))
        | refine by_not ?_
        | refine w_drawn (by kernel_rfl) ?_
        | refine new_i' (by rfl) (fun j hj hn => ?_)
        | refine new_i (fun j hn => ?_)
        | refine br_bool (fun hb => ?_) (fun hb => ?_)
        | refine by_bool (fun hb => ?_) (fun hb => ?_)
        | refine by_bool' (fun hb => ?_) (fun hb => ?_))
      refine W.loopF 9903520314282760724216289024 (fun m e H' => Grew Hc H' ∧ ∃ (i : Nat) (bv : Value) (bs : Bytes), e 48 = .int .i64 i ∧ i ≤ l.length ∧ m = l.length - i ∧ e 8 = bv ∧ BB Hc (fun _ => False) H' bv bs ∧ bs.length ≤ i * 1000 ∧ codeText l 0 l = bs ++ codeText l i (l.drop i)) l.length (by kernel_rfl) ?_ ?_
      · exact ⟨.refl _, 0, .slice none 0 0, [], by simp (disch := first | omega | assumption) only [go_sem, ↓reduceIte, Nat.reduceEqDiff, reduceCtorEq, Nat.reduceAdd, Nat.reduceMul, Int.reduceToNat, Nat.reduceShiftRight, Nat.reduceAnd, Nat.reduceBNe, Nat.reduceBneDiff, Nat.reduceLT, Nat.reduceLeDiff, Int.reduceLT, Int.reduceLE, Int.reduceEq, Int.reduceAdd, Int.reduceSub, *]; try rfl, by omega, by omega, by simp (disch := first | omega | assumption) only [go_sem, ↓reduceIte, Nat.reduceEqDiff, reduceCtorEq, Nat.reduceAdd, Nat.reduceMul, Int.reduceToNat, Nat.reduceShiftRight, Nat.reduceAnd, Nat.reduceBNe, Nat.reduceBneDiff, Nat.reduceLT, Nat.reduceLeDiff, Int.reduceLT, Int.reduceLE, Int.reduceEq, Int.reduceAdd, Int.reduceSub, *]; try rfl, BB.nil _ _ _, by simp, by simp⟩
      rintro m e2 H3 J hJ ⟨hg3, i, bv, bs, he48, hil, rfl, he8, hbb, hbl, htx⟩
      replace htx := Hd.mk htx
      replace hbb := Hd.mk hbb
      have hjg := hc1.go
      rw [← hg3 jg (by rw [hjg]; simp)] at hjg
      by_cases hi : i < l.length
      · obtain ⟨q, _, _, ha, n1, hr1, _⟩ := hread.go H3 (hg.go.trans hg3) i hi
        subst ha
        have hgr : readA (H3 jg) i none = some (.bool (goal l i)) := by rw [hjg]; exact goalC_get l i hi
        have n2 : (H3 jg).isNone = false := by rw [hjg]; rfl
        obtain ⟨hxf, hxv⟩ := hfine.go (l.getD i Ins.zero) (by rw [List.getD_eq_getElem?_getD, List.getElem?_eq_getElem hi]; exact List.getElem_mem hi)
        have hcd := Hd.mk (codeText_drop l i hi)
        generalize l.getD i Ins.zero = x at *
        replace hxf := Hd.mk hxf
        replace hxv := Hd.mk hxv
        replace hg3 := Hd.mk hg3
        replace hjg := Hd.mk hjg
        cases hgl : goal l i
        all_goals
          rw [hgl] at hgr hcd
          clear hgl
          repeat' (first
            | (simp (disch := first | omega | assumption) only [go_sem, ↓reduceIte, Nat.reduceEqDiff, reduceCtorEq, Nat.reduceAdd, Nat.reduceMul, Int.reduceToNat, Nat.reduceShiftRight, Nat.reduceAnd, Nat.reduceBNe, Nat.reduceBneDiff, Nat.reduceLT, Nat.reduceLeDiff, Int.reduceLT, Int.reduceLE, Int.reduceEq, Int.reduceAdd, Int.reduceSub, *])
            | (refine br_prop (fun hb => ?_) (fun hb => ?_) <;> try (exfalso; omega))
            | refine br_not ?_
            | (refine by_prop (fun hb => ?_) (fun hb => ?_) <;> try (exfalso; omega))
            | (refine by_prop' (fun hb => ?_) (fun hb => ?_) <;> try (exfalso; omega))
            | refine by_not ?_
            | refine w_drawn (by kernel_rfl) ?_
            | refine new_i' (by rfl) (fun j hj hn => ?_)
            | refine new_i (fun j hn => ?_)
            | refine br_bool (fun hb => ?_) (fun hb => ?_)
            | refine by_bool (fun hb => ?_) (fun hb => ?_)
            | refine by_bool' (fun hb => ?_) (fun hb => ?_))
        case' pos.false.refine_1 =>
          have hG4 := hg3.go.new (.cells [.int .i64 x.op, .int .i64 x.a, .int .i64 x.b, .int .i64 x.c, .int .u64 x.v, .int .i64 x.m, .int .i64 x.w]) hn
          have hx4 : (H3.set j (.cells [.int .i64 x.op, .int .i64 x.a, .int .i64 x.b, .int .i64 x.c, .int .u64 x.v, .int .i64 x.m, .int .i64 x.w])) j = .cells [.int .i64 x.op, .int .i64 x.a, .int .i64 x.b, .int .i64 x.c, .int .u64 x.v, .int .i64 x.m, .int .i64 x.w] := AHeap.set_same _ _ _
          have hb4 := (hbb.go.keep hn).new (.cells [.int .i64 x.op, .int .i64 x.a, .int .i64 x.b, .int .i64 x.c, .int .u64 x.v, .int .i64 x.m, .int .i64 x.w]) hn
          generalize H3.set j (.cells [.int .i64 x.op, .int .i64 x.a, .int .i64 x.b, .int .i64 x.c, .int .u64 x.v, .int .i64 x.m, .int .i64 x.w]) = H4 at *
          have htx4 : Hd (codeText l 0 l = bs ++ (insText x ++ codeText l ((i + 1 : Nat) : Int) (l.drop (i + 1)))) := ⟨by rw [htx.go, hcd.go]; simp⟩
          replace hbl : bs.length ≤ i * 1000 + 40 := by omega
          obtain ⟨v4, rfl⟩ : ∃ v, v = bv := ⟨_, rfl⟩
          obtain ⟨bs4, rfl⟩ : ∃ v, v = bs := ⟨_, rfl⟩
          clear hbb hgr
          skip
        case' pos.true.refine_1 =>
          have hG5 := hg3.go.new (.cells [.int .i64 x.op, .int .i64 x.a, .int .i64 x.b, .int .i64 x.c, .int .u64 x.v, .int .i64 x.m, .int .i64 x.w]) hn
          have hx5 : (H3.set j (.cells [.int .i64 x.op, .int .i64 x.a, .int .i64 x.b, .int .i64 x.c, .int .u64 x.v, .int .i64 x.m, .int .i64 x.w])) j = (.cells [.int .i64 x.op, .int .i64 x.a, .int .i64 x.b, .int .i64 x.c, .int .u64 x.v, .int .i64 x.m, .int .i64 x.w]) := AHeap.set_same _ _ _
          have hb5 := (hbb.go.keep hn).new (.cells [.int .i64 x.op, .int .i64 x.a, .int .i64 x.b, .int .i64 x.c, .int .u64 x.v, .int .i64 x.m, .int .i64 x.w]) hn
          generalize H3.set j (.cells [.int .i64 x.op, .int .i64 x.a, .int .i64 x.b, .int .i64 x.c, .int .u64 x.v, .int .i64 x.m, .int .i64 x.w]) = H5 at *
          refine call_i (spell25 i (by omega) _ _ fun H6 hg6 => ?_)
          have hG6 := Hd.mk (hG5.trans hg6)
          have hx6 : H6 j = (.cells [.int .i64 x.op, .int .i64 x.a, .int .i64 x.b, .int .i64 x.c, .int .u64 x.v, .int .i64 x.m, .int .i64 x.w]) := by rw [hg6 j (by rw [hx5]; simp), hx5]
          replace hb5 := Hd.mk (hb5.grew hg6)
          have hsl6 : (spell i).length ≤ 30 := by have h := decI_len (n := i) (by omega); unfold spell; simp; omega
          have hcat : binS .add (bA (spell i)) (ByteArray.mk #[58, 10]) = some (.string (bA (spell i ++ [58, 10]))) := cat (spell i) [58, 10] (by simp; omega)
          clear hx5 hG5 hg6
          repeat' (first
            | (simp (disch := first | omega | assumption) only [go_sem, ↓reduceIte, Nat.reduceEqDiff, reduceCtorEq, Nat.reduceAdd, Nat.reduceMul, Int.reduceToNat, Nat.reduceShiftRight, Nat.reduceAnd, Nat.reduceBNe, Nat.reduceBneDiff, Nat.reduceLT, Nat.reduceLeDiff, Int.reduceLT, Int.reduceLE, Int.reduceEq, Int.reduceAdd, Int.reduceSub, *])
            | (refine br_prop (fun hb => ?_) (fun hb => ?_) <;> try (exfalso; omega))
            | refine br_not ?_
            | (refine by_prop (fun hb => ?_) (fun hb => ?_) <;> try (exfalso; omega))
            | (refine by_prop' (fun hb => ?_) (fun hb => ?_) <;> try (exfalso; omega))
            | refine by_not ?_
            | refine w_drawn (by kernel_rfl) ?_
            | refine new_i' (by rfl) (fun j hj hn => ?_)
            | refine new_i (fun j hn => ?_)
            | refine br_bool (fun hb => ?_) (fun hb => ?_)
            | refine by_bool (fun hb => ?_) (fun hb => ?_)
            | refine by_bool' (fun hb => ?_) (fun hb => ?_))
          refine app_i (app_str hG6.go (fun k (hk : k = j) => by subst hk; rw [hx6]; simp) hb5.go (by rw [List.length_append]; simp only [List.length_cons, List.length_nil]; omega) fun v4 H4 hG4 hq4 hb4 => ?_)
          have hx4 := (hq4 j rfl).trans hx6
          have htx4 : Hd (codeText l 0 l = (bs ++ (spell i ++ [58, 10])) ++ (insText x ++ codeText l ((i + 1 : Nat) : Int) (l.drop (i + 1)))) := ⟨by rw [htx.go, hcd.go]; simp⟩
          replace hbl : (bs ++ (spell i ++ [58, 10])).length ≤ i * 1000 + 40 := by simp; omega
          generalize bs ++ (spell i ++ [58, 10]) = bs4 at *
          clear hbb hgr hG6 hx6 hb5 hcat he8 hq4
          repeat' (first
            | (simp (disch := first | omega | assumption) only [go_sem, ↓reduceIte, Nat.reduceEqDiff, reduceCtorEq, Nat.reduceAdd, Nat.reduceMul, Int.reduceToNat, Nat.reduceShiftRight, Nat.reduceAnd, Nat.reduceBNe, Nat.reduceBneDiff, Nat.reduceLT, Nat.reduceLeDiff, Int.reduceLT, Int.reduceLE, Int.reduceEq, Int.reduceAdd, Int.reduceSub, *])
            | (refine br_prop (fun hb => ?_) (fun hb => ?_) <;> try (exfalso; omega))
            | refine br_not ?_
            | (refine by_prop (fun hb => ?_) (fun hb => ?_) <;> try (exfalso; omega))
            | (refine by_prop' (fun hb => ?_) (fun hb => ?_) <;> try (exfalso; omega))
            | refine by_not ?_
            | refine w_drawn (by kernel_rfl) ?_
            | refine new_i' (by rfl) (fun j hj hn => ?_)
            | refine new_i (fun j hn => ?_)
            | refine br_bool (fun hb => ?_) (fun hb => ?_)
            | refine by_bool (fun hb => ?_) (fun hb => ?_)
            | refine by_bool' (fun hb => ?_) (fun hb => ?_))
          skip
        all_goals
          obtain ⟨jx, rfl⟩ : ∃ q, q = j := ⟨_, rfl⟩
          replace hG4 := Hd.mk hG4
          replace hb4 := Hd.mk hb4
          clear htx hcd hjg n1 n2 hr1 hn
          refine call_i (name26 x.op hxf.go.op1 hxf.go.op2 _ _ fun s hs => ?_)
          obtain rfl : s = bA (nameOf x.op) := by rw [← hs, bA_of]
          have hnl := name_len hxf.go.op1 hxf.go.op2
          clear hs
          repeat' (first
            | (simp (disch := first | omega | assumption) only [go_sem, ↓reduceIte, Nat.reduceEqDiff, reduceCtorEq, Nat.reduceAdd, Nat.reduceMul, Int.reduceToNat, Nat.reduceShiftRight, Nat.reduceAnd, Nat.reduceBNe, Nat.reduceBneDiff, Nat.reduceLT, Nat.reduceLeDiff, Int.reduceLT, Int.reduceLE, Int.reduceEq, Int.reduceAdd, Int.reduceSub, *])
            | (refine br_prop (fun hb => ?_) (fun hb => ?_) <;> try (exfalso; omega))
            | refine br_not ?_
            | (refine by_prop (fun hb => ?_) (fun hb => ?_) <;> try (exfalso; omega))
            | (refine by_prop' (fun hb => ?_) (fun hb => ?_) <;> try (exfalso; omega))
            | refine by_not ?_
            | refine w_drawn (by kernel_rfl) ?_
            | refine new_i' (by rfl) (fun j hj hn => ?_)
            | refine new_i (fun j hn => ?_)
            | refine br_bool (fun hb => ?_) (fun hb => ?_)
            | refine by_bool (fun hb => ?_) (fun hb => ?_)
            | refine by_bool' (fun hb => ?_) (fun hb => ?_))
          refine app_i (app_str hG4.go (fun k (hk : k = jx) => by subst hk; rw [hx4]; simp) hb4.go (by omega) fun v5 H5 hG5 hq5 hb5 => ?_)
          have hx5 := (hq5 jx rfl).trans hx4
          clear hq5 hb4 hG4 hx4
          repeat' (first
            | (simp (disch := first | omega | assumption) only [go_sem, ↓reduceIte, Nat.reduceEqDiff, reduceCtorEq, Nat.reduceAdd, Nat.reduceMul, Int.reduceToNat, Nat.reduceShiftRight, Nat.reduceAnd, Nat.reduceBNe, Nat.reduceBneDiff, Nat.reduceLT, Nat.reduceLeDiff, Int.reduceLT, Int.reduceLE, Int.reduceEq, Int.reduceAdd, Int.reduceSub, *])
            | (refine br_prop (fun hb => ?_) (fun hb => ?_) <;> try (exfalso; omega))
            | refine br_not ?_
            | (refine by_prop (fun hb => ?_) (fun hb => ?_) <;> try (exfalso; omega))
            | (refine by_prop' (fun hb => ?_) (fun hb => ?_) <;> try (exfalso; omega))
            | refine by_not ?_
            | refine w_drawn (by kernel_rfl) ?_
            | refine new_i' (by rfl) (fun j hj hn => ?_)
            | refine new_i (fun j hn => ?_)
            | refine br_bool (fun hb => ?_) (fun hb => ?_)
            | refine by_bool (fun hb => ?_) (fun hb => ?_)
            | refine by_bool' (fun hb => ?_) (fun hb => ?_))
          refine call_i (operands27 x.op _ _ fun H6 hg6 => ?_)
          have hG6 := Hd.mk (hG5.trans hg6)
          have hx6 : H6 jx = (.cells [.int .i64 x.op, .int .i64 x.a, .int .i64 x.b, .int .i64 x.c, .int .u64 x.v, .int .i64 x.m, .int .i64 x.w]) := by rw [hg6 jx (by rw [hx5]; simp), hx5]
          replace hb5 := Hd.mk (hb5.grew hg6)
          clear hG5 hx5 hg6
          obtain ⟨f1, f2, f3, f4⟩ := ops_facts hxf.go.op1 hxf.go.op2
          replace f1 := Hd.mk f1
          replace f3 := Hd.mk f3
          replace f4 := Hd.mk f4
          have hlb : (bs4 ++ nameOf x.op).length ≤ i * 1000 + 50 := by rw [List.length_append]; omega
          have hfit := Hd.mk (fine_fit hxf.go hxv.go)
          have hsl := fun k => shown_len1 hxf.go hxv.go.2 k
          have hml := marked_len hxf.go
          have hrb := Hd.mk (regOk_ge hxf.go.b).2
          have hrc := Hd.mk (regOk_ge hxf.go.c).2
          replace hsl := Hd.mk hsl
          have hix := fun q (h : q < 3) => idx78 x.op q h
          replace hix := Hd.mk hix
          repeat' (first
            | (simp (disch := first | omega | assumption) only [go_sem, ↓reduceIte, Nat.reduceEqDiff, reduceCtorEq, Nat.reduceAdd, Nat.reduceMul, Int.reduceToNat, Nat.reduceShiftRight, Nat.reduceAnd, Nat.reduceBNe, Nat.reduceBneDiff, Nat.reduceLT, Nat.reduceLeDiff, Int.reduceLT, Int.reduceLE, Int.reduceEq, Int.reduceAdd, Int.reduceSub, *])
            | (refine br_prop (fun hb => ?_) (fun hb => ?_) <;> try (exfalso; omega))
            | refine br_not ?_
            | (refine by_prop (fun hb => ?_) (fun hb => ?_) <;> try (exfalso; omega))
            | (refine by_prop' (fun hb => ?_) (fun hb => ?_) <;> try (exfalso; omega))
            | refine by_not ?_
            | refine w_drawn (by kernel_rfl) ?_
            | refine new_i' (by rfl) (fun j hj hn => ?_)
            | refine new_i (fun j hn => ?_)
            | refine br_bool (fun hb => ?_) (fun hb => ?_)
            | refine by_bool (fun hb => ?_) (fun hb => ?_)
            | refine by_bool' (fun hb => ?_) (fun hb => ?_))
          refine W.loopF 38683265044426698767995136 (fun m e H' => Grew Hc H' ∧ ∃ (q : Nat) (vq : Value), e 71 = .int .i64 q ∧ q ≤ (operands x.op).length ∧ m = 3 - q ∧ e 8 = vq ∧ H' jx = (.cells [.int .i64 x.op, .int .i64 x.a, .int .i64 x.b, .int .i64 x.c, .int .u64 x.v, .int .i64 x.m, .int .i64 x.w]) ∧ BB Hc (fun k => k = jx) H' vq (bs4 ++ nameOf x.op ++ opsText x q) ∧ (bs4 ++ nameOf x.op ++ opsText x q).length ≤ i * 1000 + 50 + q * 60) 3 (by kernel_rfl) ?_ ?_
          · refine ⟨hG6.go, 0, v5, by simp (disch := first | omega | assumption) only [go_sem, ↓reduceIte, Nat.reduceEqDiff, reduceCtorEq, Nat.reduceAdd, Nat.reduceMul, Int.reduceToNat, Nat.reduceShiftRight, Nat.reduceAnd, Nat.reduceBNe, Nat.reduceBneDiff, Nat.reduceLT, Nat.reduceLeDiff, Int.reduceLT, Int.reduceLE, Int.reduceEq, Int.reduceAdd, Int.reduceSub, *]; try rfl, by omega, by omega, by simp (disch := first | omega | assumption) only [go_sem, ↓reduceIte, Nat.reduceEqDiff, reduceCtorEq, Nat.reduceAdd, Nat.reduceMul, Int.reduceToNat, Nat.reduceShiftRight, Nat.reduceAnd, Nat.reduceBNe, Nat.reduceBneDiff, Nat.reduceLT, Nat.reduceLeDiff, Int.reduceLT, Int.reduceLE, Int.reduceEq, Int.reduceAdd, Int.reduceSub, *]; try rfl, hx6, ?_, ?_⟩
            · rw [show opsText x 0 = [] from rfl, List.append_nil]; exact hb5.go
            · rw [show opsText x 0 = [] from rfl, List.append_nil]; omega
          rintro m e7 H7 J7 hJ7 ⟨hg7, q, v7, he71, hq, rfl, he78, hx7, hb7, hl7⟩
          replace hg7 := Hd.mk hg7
          replace hb7 := Hd.mk hb7
          by_cases hql : q < (operands x.op).length
          · have hiq := hix.go q (by omega)
            obtain ⟨k1, k2⟩ := kind_lt hql
            have hk0 : kindAt x.op q ≠ 0 := f1.go _ k2
            have ht7 := Hd.mk (opsText_succ x q hql)
            have hb2 : kindAt x.op q = 2 → 0 ≤ x.b := fun e => hrb.go (f3.go (by rw [← e]; exact k2))
            have hc2 : kindAt x.op q = 3 → 0 ≤ x.c := fun e => hrc.go (f4.go (by rw [← e]; exact k2))
            have hsq := hsl.go (kindAt x.op q)
            replace hb2 := Hd.mk hb2
            replace hc2 := Hd.mk hc2
            clear k1 k2
            generalize kindAt x.op q = kq at *
            have n7 : (H7 jx).isNone = false := by rw [hx7]; rfl
            repeat' (first
              | (simp (disch := first | omega | assumption) only [go_sem, ↓reduceIte, Nat.reduceEqDiff, reduceCtorEq, Nat.reduceAdd, Nat.reduceMul, Int.reduceToNat, Nat.reduceShiftRight, Nat.reduceAnd, Nat.reduceBNe, Nat.reduceBneDiff, Nat.reduceLT, Nat.reduceLeDiff, Int.reduceLT, Int.reduceLE, Int.reduceEq, Int.reduceAdd, Int.reduceSub, *])
              | (refine br_prop (fun hb => ?_) (fun hb => ?_) <;> try (exfalso; omega))
              | refine br_not ?_
              | (refine by_prop (fun hb => ?_) (fun hb => ?_) <;> try (exfalso; omega))
              | (refine by_prop' (fun hb => ?_) (fun hb => ?_) <;> try (exfalso; omega))
              | refine by_not ?_
              | refine w_drawn (by kernel_rfl) ?_
              | refine new_i' (by rfl) (fun j hj hn => ?_)
              | refine new_i (fun j hn => ?_)
              | refine br_bool (fun hb => ?_) (fun hb => ?_)
              | refine by_bool (fun hb => ?_) (fun hb => ?_)
              | refine by_bool' (fun hb => ?_) (fun hb => ?_))
            have hne : jx ≠ j := fun e => by subst e; rw [hn] at n7; cases n7
            refine app_i (app_byte (c := 32) (hg7.go.new _ hn) (fun k (hk : k = jx) => by subst hk; rw [AHeap.set_ne _ _ hne, hx7]; simp) (hb7.go.new _ hn) (AHeap.set_same _ _ _) (by omega) fun v8 H8 hG8 hq8 hb8 => ?_)
            have hx8 : H8 jx = (.cells [.int .i64 x.op, .int .i64 x.a, .int .i64 x.b, .int .i64 x.c, .int .u64 x.v, .int .i64 x.m, .int .i64 x.w]) := by rw [hq8 jx rfl, AHeap.set_ne _ _ hne, hx7]
            replace hG8 := Hd.mk hG8
            replace hb8 := Hd.mk hb8
            clear hq8 hb7 hg7 hx7 n7 hn hne
            repeat' (first
              | (simp (disch := first | omega | assumption) only [go_sem, ↓reduceIte, Nat.reduceEqDiff, reduceCtorEq, Nat.reduceAdd, Nat.reduceMul, Int.reduceToNat, Nat.reduceShiftRight, Nat.reduceAnd, Nat.reduceBNe, Nat.reduceBneDiff, Nat.reduceLT, Nat.reduceLeDiff, Int.reduceLT, Int.reduceLE, Int.reduceEq, Int.reduceAdd, Int.reduceSub, *])
              | (refine br_prop (fun hb => ?_) (fun hb => ?_) <;> try (exfalso; omega))
              | refine br_not ?_
              | (refine by_prop (fun hb => ?_) (fun hb => ?_) <;> try (exfalso; omega))
              | (refine by_prop' (fun hb => ?_) (fun hb => ?_) <;> try (exfalso; omega))
              | refine by_not ?_
              | refine w_drawn (by kernel_rfl) ?_
              | refine new_i' (by rfl) (fun j hj hn => ?_)
              | refine new_i (fun j hn => ?_)
              | refine br_bool (fun hb => ?_) (fun hb => ?_)
              | refine by_bool (fun hb => ?_) (fun hb => ?_)
              | refine by_bool' (fun hb => ?_) (fun hb => ?_))
            refine call_i (shown28 x kq hfit.go hb2.go hc2.go _ _ fun H9 hg9 => ?_)
            have hx9 : H9 jx = (.cells [.int .i64 x.op, .int .i64 x.a, .int .i64 x.b, .int .i64 x.c, .int .u64 x.v, .int .i64 x.m, .int .i64 x.w]) := by rw [hg9 jx (by rw [hx8]; simp), hx8]
            replace hb8 := Hd.mk (hb8.go.grew hg9)
            replace hG8 := Hd.mk (hG8.go.trans hg9)
            clear hg9 hx8
            repeat' (first
              | (simp (disch := first | omega | assumption) only [go_sem, ↓reduceIte, Nat.reduceEqDiff, reduceCtorEq, Nat.reduceAdd, Nat.reduceMul, Int.reduceToNat, Nat.reduceShiftRight, Nat.reduceAnd, Nat.reduceBNe, Nat.reduceBneDiff, Nat.reduceLT, Nat.reduceLeDiff, Int.reduceLT, Int.reduceLE, Int.reduceEq, Int.reduceAdd, Int.reduceSub, *])
              | (refine br_prop (fun hb => ?_) (fun hb => ?_) <;> try (exfalso; omega))
              | refine br_not ?_
              | (refine by_prop (fun hb => ?_) (fun hb => ?_) <;> try (exfalso; omega))
              | (refine by_prop' (fun hb => ?_) (fun hb => ?_) <;> try (exfalso; omega))
              | refine by_not ?_
              | refine w_drawn (by kernel_rfl) ?_
              | refine new_i' (by rfl) (fun j hj hn => ?_)
              | refine new_i (fun j hn => ?_)
              | refine br_bool (fun hb => ?_) (fun hb => ?_)
              | refine by_bool (fun hb => ?_) (fun hb => ?_)
              | refine by_bool' (fun hb => ?_) (fun hb => ?_))
            refine app_i (app_str hG8.go (fun k (hk : k = jx) => by subst hk; rw [hx9]; simp) hb8.go (by rw [List.length_append]; simp only [List.length_cons, List.length_nil]; omega) fun v9 H10 hG9 hq9 hb9 => ?_)
            have hx10 := (hq9 jx rfl).trans hx9
            have ee : bs4 ++ nameOf x.op ++ opsText x (q + 1) = bs4 ++ nameOf x.op ++ opsText x q ++ [32] ++ shown x kq := by rw [ht7.go]; simp only [List.append_assoc]
            rw [← ee] at hb9
            have hl9 : (bs4 ++ nameOf x.op ++ opsText x (q + 1)).length ≤ i * 1000 + 50 + (q + 1) * 60 := by rw [ee, List.length_append, List.length_append]; simp only [List.length_cons, List.length_nil]; omega
            replace hb9 := Hd.mk hb9
            clear hq9 ee hb8
            repeat' (first
              | (simp (disch := first | omega | assumption) only [go_sem, ↓reduceIte, Nat.reduceEqDiff, reduceCtorEq, Nat.reduceAdd, Nat.reduceMul, Int.reduceToNat, Nat.reduceShiftRight, Nat.reduceAnd, Nat.reduceBNe, Nat.reduceBneDiff, Nat.reduceLT, Nat.reduceLeDiff, Int.reduceLT, Int.reduceLE, Int.reduceEq, Int.reduceAdd, Int.reduceSub, *])
              | (refine br_prop (fun hb => ?_) (fun hb => ?_) <;> try (exfalso; omega))
              | refine br_not ?_
              | (refine by_prop (fun hb => ?_) (fun hb => ?_) <;> try (exfalso; omega))
              | (refine by_prop' (fun hb => ?_) (fun hb => ?_) <;> try (exfalso; omega))
              | refine by_not ?_
              | refine w_drawn (by kernel_rfl) ?_
              | refine new_i' (by rfl) (fun j hj hn => ?_)
              | refine new_i (fun j hn => ?_)
              | refine br_bool (fun hb => ?_) (fun hb => ?_)
              | refine by_bool (fun hb => ?_) (fun hb => ?_)
              | refine by_bool' (fun hb => ?_) (fun hb => ?_))
            exact inv_i (hJ7.go _ _ ⟨_, by omega, hG9, q + 1, v9, rfl, by omega, rfl, rfl, hx10, hb9.go, hl9⟩)
          · obtain rfl : q = (operands x.op).length := by omega
            rw [opsText_all] at hb7 hl7
            have hm0 := hxf.go.m1
            have hm1 := hxf.go.m2
            rcases Nat.lt_or_ge (operands x.op).length 3 with h3 | h3
            case' inl =>
              have hiq := hix.go _ h3
              rw [kind_end h3] at hiq
            all_goals
              generalize hQ : (operands x.op).length = Q at *
              have n7 : (H7 jx).isNone = false := by rw [hx7]; rfl
              repeat' (first
                | (simp (disch := first | omega | assumption) only [go_sem, ↓reduceIte, Nat.reduceEqDiff, reduceCtorEq, Nat.reduceAdd, Nat.reduceMul, Int.reduceToNat, Nat.reduceShiftRight, Nat.reduceAnd, Nat.reduceBNe, Nat.reduceBneDiff, Nat.reduceLT, Nat.reduceLeDiff, Int.reduceLT, Int.reduceLE, Int.reduceEq, Int.reduceAdd, Int.reduceSub, *])
                | (refine br_prop (fun hb => ?_) (fun hb => ?_) <;> try (exfalso; omega))
                | refine br_not ?_
                | (refine by_prop (fun hb => ?_) (fun hb => ?_) <;> try (exfalso; omega))
                | (refine by_prop' (fun hb => ?_) (fun hb => ?_) <;> try (exfalso; omega))
                | refine by_not ?_
                | refine w_drawn (by kernel_rfl) ?_
                | refine new_i' (by rfl) (fun j hj hn => ?_)
                | refine new_i (fun j hn => ?_)
                | refine br_bool (fun hb => ?_) (fun hb => ?_)
                | refine by_bool (fun hb => ?_) (fun hb => ?_)
                | refine by_bool' (fun hb => ?_) (fun hb => ?_))
              refine call_i (marked29 x hm0 (by omega) _ _ fun H8 hg8 => ?_)
              have hx8 : H8 jx = (.cells [.int .i64 x.op, .int .i64 x.a, .int .i64 x.b, .int .i64 x.c, .int .u64 x.v, .int .i64 x.m, .int .i64 x.w]) := by rw [hg8 jx (by rw [hx7]; simp), hx7]
              replace hb7 := Hd.mk (hb7.go.grew hg8)
              replace hg7 := Hd.mk (hg7.go.trans hg8)
              clear hg8 hx7 n7
              repeat' (first
                | (simp (disch := first | omega | assumption) only [go_sem, ↓reduceIte, Nat.reduceEqDiff, reduceCtorEq, Nat.reduceAdd, Nat.reduceMul, Int.reduceToNat, Nat.reduceShiftRight, Nat.reduceAnd, Nat.reduceBNe, Nat.reduceBneDiff, Nat.reduceLT, Nat.reduceLeDiff, Int.reduceLT, Int.reduceLE, Int.reduceEq, Int.reduceAdd, Int.reduceSub, *])
                | (refine br_prop (fun hb => ?_) (fun hb => ?_) <;> try (exfalso; omega))
                | refine br_not ?_
                | (refine by_prop (fun hb => ?_) (fun hb => ?_) <;> try (exfalso; omega))
                | (refine by_prop' (fun hb => ?_) (fun hb => ?_) <;> try (exfalso; omega))
                | refine by_not ?_
                | refine w_drawn (by kernel_rfl) ?_
                | refine new_i' (by rfl) (fun j hj hn => ?_)
                | refine new_i (fun j hn => ?_)
                | refine br_bool (fun hb => ?_) (fun hb => ?_)
                | refine by_bool (fun hb => ?_) (fun hb => ?_)
                | refine by_bool' (fun hb => ?_) (fun hb => ?_))
              refine app_i (app_str hg7.go (fun k (hk : k = jx) => by subst hk; rw [hx8]; simp) hb7.go (by omega) fun v9 H9 hG9 hq9 hb9 => ?_)
              replace hb9 := Hd.mk hb9.free
              replace hG9 := Hd.mk hG9
              clear hq9 hx8 hb7 hg7
              repeat' (first
                | (simp (disch := first | omega | assumption) only [go_sem, ↓reduceIte, Nat.reduceEqDiff, reduceCtorEq, Nat.reduceAdd, Nat.reduceMul, Int.reduceToNat, Nat.reduceShiftRight, Nat.reduceAnd, Nat.reduceBNe, Nat.reduceBneDiff, Nat.reduceLT, Nat.reduceLeDiff, Int.reduceLT, Int.reduceLE, Int.reduceEq, Int.reduceAdd, Int.reduceSub, *])
                | (refine br_prop (fun hb => ?_) (fun hb => ?_) <;> try (exfalso; omega))
                | refine br_not ?_
                | (refine by_prop (fun hb => ?_) (fun hb => ?_) <;> try (exfalso; omega))
                | (refine by_prop' (fun hb => ?_) (fun hb => ?_) <;> try (exfalso; omega))
                | refine by_not ?_
                | refine w_drawn (by kernel_rfl) ?_
                | refine new_i' (by rfl) (fun j hj hn => ?_)
                | refine new_i (fun j hn => ?_)
                | refine br_bool (fun hb => ?_) (fun hb => ?_)
                | refine by_bool (fun hb => ?_) (fun hb => ?_)
                | refine by_bool' (fun hb => ?_) (fun hb => ?_))
              refine app_i (app_byte (c := 10) (hG9.go.new _ hn) (fun k hk => hk.elim) (hb9.go.new _ hn) (AHeap.set_same _ _ _) (by rw [List.length_append]; omega) fun v10 H10 hG10 hq10 hb10 => ?_)
              have ee : bs4 ++ nameOf x.op ++ (operands x.op).flatMap (fun k => 32 :: shown x k) ++ marked x ++ [10] = bs4 ++ insText x := by unfold insText; simp only [List.append_assoc]
              rw [ee] at hb10
              have hl10 : (bs4 ++ insText x).length ≤ (i + 1) * 1000 := by
                rw [← ee, List.length_append, List.length_append]; simp only [List.length_cons, List.length_nil]; omega
              have hb11 := Hd.mk hb10
              clear ee hb9 hG9 hb10
              repeat' (first
                | (simp (disch := first | omega | assumption) only [go_sem, ↓reduceIte, Nat.reduceEqDiff, reduceCtorEq, Nat.reduceAdd, Nat.reduceMul, Int.reduceToNat, Nat.reduceShiftRight, Nat.reduceAnd, Nat.reduceBNe, Nat.reduceBneDiff, Nat.reduceLT, Nat.reduceLeDiff, Int.reduceLT, Int.reduceLE, Int.reduceEq, Int.reduceAdd, Int.reduceSub, *])
                | (refine br_prop (fun hb => ?_) (fun hb => ?_) <;> try (exfalso; omega))
                | refine br_not ?_
                | (refine by_prop (fun hb => ?_) (fun hb => ?_) <;> try (exfalso; omega))
                | (refine by_prop' (fun hb => ?_) (fun hb => ?_) <;> try (exfalso; omega))
                | refine by_not ?_
                | refine w_drawn (by kernel_rfl) ?_
                | refine new_i' (by rfl) (fun j hj hn => ?_)
                | refine new_i (fun j hn => ?_)
                | refine br_bool (fun hb => ?_) (fun hb => ?_)
                | refine by_bool (fun hb => ?_) (fun hb => ?_)
                | refine by_bool' (fun hb => ?_) (fun hb => ?_))
              exact inv_i (hJ.go _ _ ⟨_, by omega, hG10, i + 1, v10, _, rfl, by omega, rfl, rfl, hb11.go, hl10, by rw [htx4.go]; simp only [List.append_assoc]⟩)
      · obtain rfl : i = l.length := by omega
        rw [List.drop_eq_nil_of_le (Nat.le_refl _)] at htx
        have e9 : codeText l 0 l = bs := by have h := htx.go; rw [show codeText l (l.length : Int) [] = [] from rfl, List.append_nil] at h; exact h
        have hcv := bb_str hbb.go
        rw [← e9] at hcv
        have hfin := hok.go _ _ hprint.go (hg.go.trans hg3)
        replace hfin := Hd.mk hfin
        clear htx e9
        repeat' (first
          | (simp (disch := first | omega | assumption) only [go_sem, ↓reduceIte, Nat.reduceEqDiff, reduceCtorEq, Nat.reduceAdd, Nat.reduceMul, Int.reduceToNat, Nat.reduceShiftRight, Nat.reduceAnd, Nat.reduceBNe, Nat.reduceBneDiff, Nat.reduceLT, Nat.reduceLeDiff, Int.reduceLT, Int.reduceLE, Int.reduceEq, Int.reduceAdd, Int.reduceSub, *])
          | (refine br_prop (fun hb => ?_) (fun hb => ?_) <;> try (exfalso; omega))
          | refine br_not ?_
          | (refine by_prop (fun hb => ?_) (fun hb => ?_) <;> try (exfalso; omega))
          | (refine by_prop' (fun hb => ?_) (fun hb => ?_) <;> try (exfalso; omega))
          | refine by_not ?_
          | refine w_drawn (by kernel_rfl) ?_
          | refine new_i' (by rfl) (fun j hj hn => ?_)
          | refine new_i (fun j hn => ?_)
          | refine br_bool (fun hb => ?_) (fun hb => ?_)
          | refine by_bool (fun hb => ?_) (fun hb => ?_)
          | refine by_bool' (fun hb => ?_) (fun hb => ?_))
        exact hfin.go
end Go.Proofs
