/-
  A part of the proofs: EM.
-/
import Derived.Test.YtnbfimppgcoajaaDoorDT
import Derived.Shelf.Strings.Search3
import Derived.Test.YtnbfimppgcoajaaDoorAbS
import Derived.Test.YtnbfimppgcoajaaDoorPA
import Derived.Test.YtnbfimppgcoajaaDoorPB
namespace Go.Proofs
set_option linter.unusedSimpArgs false
set_option linter.unusedVariables false
set_option linter.unusedSectionVars false
open Go Go.Ab AsmM
variable [Go.Ab.Start]
set_option maxRecDepth 100000
set_option maxHeartbeats 1000000
open Go.Shelf Go.RowKit Go.Lib
theorem splitNl_cur (l : Bytes) : ∀ cur, splitNl cur l = (cur ++ (splitNl [] l).headD []) :: (splitNl [] l).tail := by
  induction l with
  | nil => intro cur; simp [splitNl]
  | cons b l ih =>
    intro cur
    by_cases h : b = 10
    · simp [splitNl, h]
    · simp only [splitNl, h, if_false]
      rw [ih (cur ++ [b]), ih ([] ++ [b])]
      simp
theorem splitNl_take : ∀ (l : Bytes), (Lib.indexByte l 10 = -1 ∧ splitNl [] l = [l] ∧ l.count 10 = 0) ∨ (∃ k : Nat, k < l.length ∧ Lib.indexByte l 10 = k ∧ splitNl [] l = l.take k :: splitNl [] (l.drop (k + 1)) ∧ l.count 10 = 1 + (l.drop (k + 1)).count 10)
  | [] => .inl ⟨rfl, rfl, rfl⟩
  | b :: l => by
    by_cases hb : b = 10
    · refine .inr ⟨0, by simp, by simp [Lib.indexByte, hb], by simp [splitNl, hb], by simp [hb]; omega⟩
    · have hb' : (b == 10) = false := by simpa using hb
      have e : splitNl [] (b :: l) = (b :: (splitNl [] l).headD []) :: (splitNl [] l).tail := by
        simp only [splitNl, hb, if_false]
        rw [splitNl_cur]; rfl
      rcases splitNl_take l with ⟨h1, h2, h3⟩ | ⟨k, hk, h1, h2, h3⟩
      · exact .inl ⟨by simp [Lib.indexByte, hb', h1], by rw [e, h2]; rfl, by rw [List.count_cons_of_ne (by simpa using hb), h3]⟩
      · refine .inr ⟨k + 1, by simpa using hk, ?_, by rw [e, h2]; rfl, by rw [List.count_cons_of_ne (by simpa using hb), h3]; rfl⟩
        simp only [Lib.indexByte, hb', h1]
        have : (k : Int) ≠ -1 := by omega
        simp
theorem ext69 (s : ByteArray) (c : Int) (H : AHeap) (K : Value → AHeap → Prop) (hk : K (.int .i64 (Lib.countByte s.data.toList c.toNat.toUInt8)) H) : ACalls Tryd.prog 69 #[.string s, .int .u8 c] H K :=
  acalls_pure (args := [.string s, .int .u8 c]) rfl rfl (fun w => by rw [run_callFunc_extern (e := Extern.BytealgCount.count) Tryd.func69 (by kernel_rfl) (by kernel_rfl) (by kernel_rfl) (by kernel_rfl), Lib.run_countString]; rfl) hk
def Tryd.lays143_ren : Go.Shelf.Ren := ⟨fun | 143 => 54 | 219 => 70 | 217 => 71 | 225 => 77 | 224 => 78 | 267 => 79 | 266 => 80 | 314 => 83 | n => n, fun | 9 => 9 | 3 => 3 | 4 => 4 | 5 => 5 | 46 => 140 | 146 => 148 | 51 => 147 | n => n, fun | 1 => 1 | n => n⟩
theorem Tryd.lays143 : Go.Proofs.Lays.n143 Tryd.prog Tryd.lays143_ren := {
  mixed := by kernel_rfl
  f143 := Tryd.func54.trans (congrArg some (by kernel_rfl))
  f217 := Tryd.func71.trans (congrArg some (by kernel_rfl))
  f219 := Tryd.func70.trans (congrArg some (by kernel_rfl))
  f224 := Tryd.func78.trans (congrArg some (by kernel_rfl))
  f225 := Tryd.func77.trans (congrArg some (by kernel_rfl))
  f266 := Tryd.func80.trans (congrArg some (by kernel_rfl))
  f267 := Tryd.func79.trans (congrArg some (by kernel_rfl))
  f314 := Tryd.func83.trans (congrArg some (by kernel_rfl))
  t3 := Tryd.underlying3
  a3 := Tryd.isAgg3
  z3 := Tryd.sizeOf3
  v3 := Tryd.zeroValue3
  t4 := Tryd.underlying4
  a4 := Tryd.isAgg4
  z4 := Tryd.sizeOf4
  v4 := Tryd.zeroValue4
  t5 := Tryd.underlying5
  a5 := Tryd.isAgg5
  z5 := Tryd.sizeOf5
  v5 := Tryd.zeroValue5
  t9 := Tryd.underlying9
  a9 := Tryd.isAgg9
  z9 := Tryd.sizeOf9
  v9 := Tryd.zeroValue9
  t46 := Tryd.underlying140
  a46 := Tryd.isAgg140
  z46 := Tryd.sizeOf140
  v46 := Tryd.zeroValue140
  t51 := Tryd.underlying147
  a51 := Tryd.isAgg147
  z51 := Tryd.sizeOf147
  v51 := Tryd.zeroValue147
  t146 := Tryd.underlying148
  a146 := Tryd.isAgg148
  z146 := Tryd.sizeOf148
  v146 := Tryd.zeroValue148
  g1 := by kernel_rfl }
theorem acalls_same {P : Program} {f : FuncId} {args : List Value} {v : Value} {H : AHeap} {K : Value → AHeap → Prop} (ha : args.all plain = true) (hv : plain v = true) (he : ∀ w, (callFunc f args.toArray).run P w = .ok (.enter f args.toArray) w) (hr : ∀ w, Calls P f args.toArray w fun e w' => e = .returned v ∧ w' = w) (hk : K v H) : ACalls P f args.toArray H K := by
  intro base w0 φ w cargs r h
  rw [h.plain_eq (by simpa using ha)]
  exact .inr (.inr ⟨f, args.toArray, he w, (hr w).mono fun e w' ⟨h1, h2⟩ => ⟨v, h1, by rw [h2]; exact Post.same r (.of_plain φ hv) hk⟩⟩)
theorem index54 (s t : ByteArray) (ht : t = ⟨#[10]⟩) (H : AHeap) (K : Value → AHeap → Prop) (hk : K (.int .i64 (Lib.indexByte s.data.toList 10)) H) : ACalls Tryd.prog 54 #[.string s, .string t] H K := by
  subst ht
  exact acalls_same (args := [.string s, .string ⟨#[10]⟩]) rfl rfl (fun w => enters_of Tryd.func54 (by kernel_rfl) rfl _ w) (fun w => Any.strings_Index_one Tryd.lays143 s 10 w) hk
theorem count53 (s t : ByteArray) (ht : t = ⟨#[10]⟩) (H : AHeap) (K : Value → AHeap → Prop) (hk : K (.int .i64 (s.data.toList.count 10 : Nat)) H) : ACalls Tryd.prog 53 #[.string s, .string t] H K := by
  have e : (Int.toNat ((UInt8.toNat 10 : Nat) : Int)).toUInt8 = (10 : UInt8) := rfl
  refine w_enter (args := [.string s, .string t]) Tryd.func53 rfl (by kernel_rfl) D.mixed (by kernel_rfl) (rs := [.tmp 4]) rfl ?_
  have ht1 : t.size = 1 := by rw [ht]; rfl
  have h10 : getB t 0 = 10 := by rw [ht]; rfl
  repeat' (first
    | (simp (disch := first | omega | assumption) only [go_sem, ↓reduceIte, Nat.reduceEqDiff, reduceCtorEq, Nat.reduceAdd, Nat.reduceMul, Int.reduceToNat, Nat.reduceShiftRight, Nat.reduceAnd, Nat.reduceBNe, Nat.reduceBneDiff, Nat.reduceLT, Nat.reduceLeDiff, Int.reduceLT, Int.reduceLE, Int.reduceEq, Int.reduceAdd, Int.reduceSub, ht1, h10])
    | (refine br_prop (fun hb => ?_) (fun hb => ?_) <;> try (exfalso; omega))
    | refine br_not ?_
    | (refine by_prop (fun hb => ?_) (fun hb => ?_) <;> try (exfalso; omega))
    | (refine by_prop' (fun hb => ?_) (fun hb => ?_) <;> try (exfalso; omega))
    | refine by_not ?_
    | refine w_drawn (by kernel_rfl) ?_
    | refine new_i' (by rfl) (fun j hj hn => ?_)
    | refine new_i (fun j hn => ?_)
    | refine br_bool (fun hb => ?_) (fun hb => ?_)
    | refine by_bool (fun hb => ?_) (fun hb => ?_)
    | refine by_bool' (fun hb => ?_) (fun hb => ?_))
  refine call_i (ext69 _ _ _ _ ?_)
  rw [e]
  unfold Lib.countByte
  repeat' (first
    | (simp (disch := first | omega | assumption) only [go_sem, ↓reduceIte, Nat.reduceEqDiff, reduceCtorEq, Nat.reduceAdd, Nat.reduceMul, Int.reduceToNat, Nat.reduceShiftRight, Nat.reduceAnd, Nat.reduceBNe, Nat.reduceBneDiff, Nat.reduceLT, Nat.reduceLeDiff, Int.reduceLT, Int.reduceLE, Int.reduceEq, Int.reduceAdd, Int.reduceSub, hk])
    | (refine br_prop (fun hb => ?_) (fun hb => ?_) <;> try (exfalso; omega))
    | refine br_not ?_
    | (refine by_prop (fun hb => ?_) (fun hb => ?_) <;> try (exfalso; omega))
    | (refine by_prop' (fun hb => ?_) (fun hb => ?_) <;> try (exfalso; omega))
    | refine by_not ?_
    | refine w_drawn (by kernel_rfl) ?_
    | refine new_i' (by rfl) (fun j hj hn => ?_)
    | refine new_i (fun j hn => ?_)
    | refine br_bool (fun hb => ?_) (fun hb => ?_)
    | refine by_bool (fun hb => ?_) (fun hb => ?_)
    | refine by_bool' (fun hb => ?_) (fun hb => ?_))
theorem split33 (s t : ByteArray) (hs : s.size ≤ 1000000) (ht : t = ⟨#[10]⟩) (H : AHeap) (K : Value → AHeap → Prop) (hk : ∀ (v : Value) (H' : AHeap) (ls : List ByteArray), Grew H H' → SN H H' 1 v ls.length (ls.map .string) → ls.map (·.data.toList) = splitNl [] s.data.toList → K v H') : ACalls Tryd.prog 33 #[.string s, .string t, .int .i64 0, .int .i64 (-1)] H K := by
  have hk0 := Hd.mk hk
  clear hk
  have hc : s.data.toList.count 10 ≤ s.size := by
    have := List.count_le_length (l := s.data.toList) (a := 10)
    simpa using this
  have hne : ¬ t.data.toList = [] := by rw [ht]; decide
  have hsz : t.size = 1 := by rw [ht]; rfl
  replace ht := Hd.mk ht
  refine w_enter (args := [.string s, .string t, .int .i64 0, .int .i64 (-1)]) Tryd.func33 rfl (by kernel_rfl) D.mixed (by kernel_rfl) (rs := [.tmp 8]) rfl ?_
  repeat' (first
    | (simp (disch := first | omega | assumption) only [go_sem, ↓reduceIte, Nat.reduceEqDiff, reduceCtorEq, Nat.reduceAdd, Nat.reduceMul, Int.reduceToNat, Nat.reduceShiftRight, Nat.reduceAnd, Nat.reduceBNe, Nat.reduceBneDiff, Nat.reduceLT, Nat.reduceLeDiff, Int.reduceLT, Int.reduceLE, Int.reduceEq, Int.reduceAdd, Int.reduceSub, *])
    | (refine br_prop (fun hb => ?_) (fun hb => ?_) <;> try (exfalso; omega))
    | refine br_not ?_
    | (refine by_prop (fun hb => ?_) (fun hb => ?_) <;> try (exfalso; omega))
    | (refine by_prop' (fun hb => ?_) (fun hb => ?_) <;> try (exfalso; omega))
    | refine by_not ?_
    | refine w_drawn (by kernel_rfl) ?_
    | refine new_i' (by rfl) (fun j hj hn => ?_)
    | refine new_i (fun j hn => ?_)
    | refine br_bool (fun hb => ?_) (fun hb => ?_)
    | refine by_bool (fun hb => ?_) (fun hb => ?_)
    | refine by_bool' (fun hb => ?_) (fun hb => ?_))
  refine call_i (count53 _ _ ht.go _ _ ?_)
  skip
  generalize hN : s.data.toList.count 10 = N at *
  have hms : makeSliceA Tryd.prog 24 (.int .i64 ((N : Int) + 1)) (.int .i64 ((N : Int) + 1)) = some (List.replicate (N + 1) (.string ByteArray.empty), N + 1, N + 1) := by
    unfold makeSliceA
    rw [D.e24]
    simp only [Option.bind_some]
    rw [show zeroA Tryd.prog 9 = some (.string ByteArray.empty) by kernel_rfl]
    simp only [Option.bind_some]
    rw [if_pos ⟨rfl, by omega, by omega, by omega, by omega⟩]
    have : ((N : Int) + 1).toNat = N + 1 := by omega
    rw [this]
    congr 1
    congr 1
    show (List.replicate (N + 1) [Value.string ByteArray.empty]).flatten = _
    exact List.flatten_replicate_singleton
  repeat' (first
    | (simp (disch := first | omega | assumption) only [go_sem, ↓reduceIte, Nat.reduceEqDiff, reduceCtorEq, Nat.reduceAdd, Nat.reduceMul, Int.reduceToNat, Nat.reduceShiftRight, Nat.reduceAnd, Nat.reduceBNe, Nat.reduceBneDiff, Nat.reduceLT, Nat.reduceLeDiff, Int.reduceLT, Int.reduceLE, Int.reduceEq, Int.reduceAdd, Int.reduceSub, *])
    | (refine br_prop (fun hb => ?_) (fun hb => ?_) <;> try (exfalso; omega))
    | refine br_not ?_
    | (refine by_prop (fun hb => ?_) (fun hb => ?_) <;> try (exfalso; omega))
    | (refine by_prop' (fun hb => ?_) (fun hb => ?_) <;> try (exfalso; omega))
    | refine by_not ?_
    | refine w_drawn (by kernel_rfl) ?_
    | refine new_i' (by rfl) (fun j hj hn => ?_)
    | refine new_i (fun j hn => ?_)
    | refine br_bool (fun hb => ?_) (fun hb => ?_)
    | refine by_bool (fun hb => ?_) (fun hb => ?_)
    | refine by_bool' (fun hb => ?_) (fun hb => ?_))
  have hL0 : (List.replicate (N + 1) (Value.string ByteArray.empty)).length = N + 1 := by simp
  clear hms
  refine W.loopF 288230358971845633 (fun n e Hc => ∃ (L : List Value) (ls : List ByteArray) (s' : ByteArray), e 10 = .int .i64 ls.length ∧ e 0 = .string s' ∧ Hc = H.set j (.cells L) ∧ L.length = N + 1 ∧ L = ls.map .string ++ List.replicate (N + 1 - ls.length) (.string ByteArray.empty) ∧ s'.size ≤ s.size ∧ n = N - ls.length ∧ ls.length ≤ N ∧ s'.data.toList.count 10 = N - ls.length ∧ splitNl [] s.data.toList = ls.map (·.data.toList) ++ splitNl [] s'.data.toList) N (by kernel_rfl) ?_ ?_
  · exact ⟨_, [], s, by simp (disch := first | omega | assumption) only [go_sem, ↓reduceIte, Nat.reduceEqDiff, reduceCtorEq, Nat.reduceAdd, Nat.reduceMul, Int.reduceToNat, Nat.reduceShiftRight, Nat.reduceAnd, Nat.reduceBNe, Nat.reduceBneDiff, Nat.reduceLT, Nat.reduceLeDiff, Int.reduceLT, Int.reduceLE, Int.reduceEq, Int.reduceAdd, Int.reduceSub, *]; try rfl, by simp (disch := first | omega | assumption) only [go_sem, ↓reduceIte, Nat.reduceEqDiff, reduceCtorEq, Nat.reduceAdd, Nat.reduceMul, Int.reduceToNat, Nat.reduceShiftRight, Nat.reduceAnd, Nat.reduceBNe, Nat.reduceBneDiff, Nat.reduceLT, Nat.reduceLeDiff, Int.reduceLT, Int.reduceLE, Int.reduceEq, Int.reduceAdd, Int.reduceSub, *]; try rfl, rfl, hL0, rfl, by omega, rfl, by simp, by simpa using hN, rfl⟩
  rintro n e Hc J hJ ⟨L, ls, s', he10, he0, rfl, hL, hLd, hs', rfl, hle, hcn, hsp⟩
  replace hLd := Hd.mk hLd
  replace hsp := Hd.mk hsp
  clear hN
  have hwr : ∀ (k : Nat) (v : ByteArray), k < N + 1 → writeA (.cells L) k [.string v] = some (.cells (L.set k (.string v))) := fun k v hk => write_one (by omega) rfl
  repeat' (first
    | (simp (disch := first | omega | assumption) only [go_sem, ↓reduceIte, Nat.reduceEqDiff, reduceCtorEq, Nat.reduceAdd, Nat.reduceMul, Int.reduceToNat, Nat.reduceShiftRight, Nat.reduceAnd, Nat.reduceBNe, Nat.reduceBneDiff, Nat.reduceLT, Nat.reduceLeDiff, Int.reduceLT, Int.reduceLE, Int.reduceEq, Int.reduceAdd, Int.reduceSub, *])
    | (refine br_prop (fun hb => ?_) (fun hb => ?_) <;> try (exfalso; omega))
    | refine br_not ?_
    | (refine by_prop (fun hb => ?_) (fun hb => ?_) <;> try (exfalso; omega))
    | (refine by_prop' (fun hb => ?_) (fun hb => ?_) <;> try (exfalso; omega))
    | refine by_not ?_
    | refine w_drawn (by kernel_rfl) ?_
    | refine new_i' (by rfl) (fun j hj hn => ?_)
    | refine new_i (fun j hn => ?_)
    | refine br_bool (fun hb => ?_) (fun hb => ?_)
    | refine by_bool (fun hb => ?_) (fun hb => ?_)
    | refine by_bool' (fun hb => ?_) (fun hb => ?_))
  · refine call_i (index54 _ _ ht.go _ _ ?_)
    rcases splitNl_take s'.data.toList with ⟨h1, h2, h3⟩ | ⟨k, hk, h1, h2, h3⟩
    · omega
    rw [h1]
    replace h2 := Hd.mk h2
    have hk' : k < s'.size := by simpa using hk
    clear hk
    repeat' (first
      | (simp (disch := first | omega | assumption) only [go_sem, ↓reduceIte, Nat.reduceEqDiff, reduceCtorEq, Nat.reduceAdd, Nat.reduceMul, Int.reduceToNat, Nat.reduceShiftRight, Nat.reduceAnd, Nat.reduceBNe, Nat.reduceBneDiff, Nat.reduceLT, Nat.reduceLeDiff, Int.reduceLT, Int.reduceLE, Int.reduceEq, Int.reduceAdd, Int.reduceSub, *])
      | (refine br_prop (fun hb => ?_) (fun hb => ?_) <;> try (exfalso; omega))
      | refine br_not ?_
      | (refine by_prop (fun hb => ?_) (fun hb => ?_) <;> try (exfalso; omega))
      | (refine by_prop' (fun hb => ?_) (fun hb => ?_) <;> try (exfalso; omega))
      | refine by_not ?_
      | refine w_drawn (by kernel_rfl) ?_
      | refine new_i' (by rfl) (fun j hj hn => ?_)
      | refine new_i (fun j hn => ?_)
      | refine br_bool (fun hb => ?_) (fun hb => ?_)
      | refine by_bool (fun hb => ?_) (fun hb => ?_)
      | refine by_bool' (fun hb => ?_) (fun hb => ?_))
    have e0 : ((k : Int) + 0).toNat = k := by omega
    rw [e0]
    have hsz' : (s'.extract (k + 1) s'.size).size = s'.size - (k + 1) := size_ext _ _ _ (by omega) (by omega)
    have hdr : (s'.extract (k + 1) s'.size).data.toList = s'.data.toList.drop (k + 1) := by rw [extract_list, List.take_of_length_le (by simp)]
    have htk : (s'.extract 0 k).data.toList = s'.data.toList.take k := by rw [extract_list]; simp
    refine inv_i (hJ.go _ _ ⟨_, ?_, _, ls ++ [s'.extract 0 k], s'.extract (k + 1) s'.size, ?_, rfl, rfl, by rw [List.length_set]; exact hL, ?_, by omega, rfl, by simp; omega, ?_, ?_⟩)
    · simp; omega
    · show Value.int .i64 ((ls.length : Int) + 1) = _
      simp
    · rw [hLd.go]
      have hr : N + 1 - ls.length = (N + 1 - (ls ++ [s'.extract 0 k]).length) + 1 := by simp; omega
      rw [hr, List.replicate_succ, List.set_append_right _ _ (by simp)]
      simp
    · rw [hdr]; simp; omega
    · rw [hsp.go, h2.go, hdr, List.map_append, List.append_assoc, List.map_cons, htk]; rfl
  · have hN' : N = ls.length := by omega
    have h0 : s'.data.toList.count 10 = 0 := by omega
    have hlast : splitNl [] s'.data.toList = [s'.data.toList] := by
      rcases splitNl_take s'.data.toList with ⟨h1, h2, h3⟩ | ⟨k, hk, h1, h2, h3⟩
      · exact h2
      · omega
    refine hk0.go _ _ (ls ++ [s']) ((Grew.refl _).set _ hn) ⟨some j, ⟨N + 1, [], ?_, ?_, ?_, ?_, ?_⟩, fun i hi => by injection hi with hi; subst hi; exact hn⟩ ?_
    · simp
    · rw [AHeap.set_same, hLd.go, hN']
      have hr : ls.length + 1 - ls.length = 0 + 1 := by omega
      rw [hr, List.replicate_succ, List.set_append_right _ _ (by simp)]
      simp
    · simp; omega
    · simp
    · simp; omega
    · rw [hsp.go, hlast]; simp
theorem split20 (s t : ByteArray) (hs : s.size ≤ 1000000) (ht : t = ⟨#[10]⟩) (H : AHeap) (K : Value → AHeap → Prop) (hk : ∀ (v : Value) (H' : AHeap) (ls : List ByteArray), Grew H H' → SN H H' 1 v ls.length (ls.map .string) → ls.map (·.data.toList) = splitNl [] s.data.toList → K v H') : ACalls Tryd.prog 20 #[.string s, .string t] H K := by
  refine w_enter (args := [.string s, .string t]) Tryd.func20 rfl (by kernel_rfl) D.mixed (by kernel_rfl) (rs := [.tmp 4]) rfl ?_
  repeat' (first
    | (simp (disch := first | omega | assumption) only [go_sem, ↓reduceIte, Nat.reduceEqDiff, reduceCtorEq, Nat.reduceAdd, Nat.reduceMul, Int.reduceToNat, Nat.reduceShiftRight, Nat.reduceAnd, Nat.reduceBNe, Nat.reduceBneDiff, Nat.reduceLT, Nat.reduceLeDiff, Int.reduceLT, Int.reduceLE, Int.reduceEq, Int.reduceAdd, Int.reduceSub, true_and])
    | (refine br_prop (fun hb => ?_) (fun hb => ?_) <;> try (exfalso; omega))
    | refine br_not ?_
    | (refine by_prop (fun hb => ?_) (fun hb => ?_) <;> try (exfalso; omega))
    | (refine by_prop' (fun hb => ?_) (fun hb => ?_) <;> try (exfalso; omega))
    | refine by_not ?_
    | refine w_drawn (by kernel_rfl) ?_
    | refine new_i' (by rfl) (fun j hj hn => ?_)
    | refine new_i (fun j hn => ?_)
    | refine br_bool (fun hb => ?_) (fun hb => ?_)
    | refine by_bool (fun hb => ?_) (fun hb => ?_)
    | refine by_bool' (fun hb => ?_) (fun hb => ?_))
  refine call_i (split33 _ _ hs ht _ _ fun v H' ls hg hsl hl => ?_)
  repeat' (first
    | (simp (disch := first | omega | assumption) only [go_sem, ↓reduceIte, Nat.reduceEqDiff, reduceCtorEq, Nat.reduceAdd, Nat.reduceMul, Int.reduceToNat, Nat.reduceShiftRight, Nat.reduceAnd, Nat.reduceBNe, Nat.reduceBneDiff, Nat.reduceLT, Nat.reduceLeDiff, Int.reduceLT, Int.reduceLE, Int.reduceEq, Int.reduceAdd, Int.reduceSub, true_and])
    | (refine br_prop (fun hb => ?_) (fun hb => ?_) <;> try (exfalso; omega))
    | refine br_not ?_
    | (refine by_prop (fun hb => ?_) (fun hb => ?_) <;> try (exfalso; omega))
    | (refine by_prop' (fun hb => ?_) (fun hb => ?_) <;> try (exfalso; omega))
    | refine by_not ?_
    | refine w_drawn (by kernel_rfl) ?_
    | refine new_i' (by rfl) (fun j hj hn => ?_)
    | refine new_i (fun j hn => ?_)
    | refine br_bool (fun hb => ?_) (fun hb => ?_)
    | refine by_bool (fun hb => ?_) (fun hb => ?_)
    | refine by_bool' (fun hb => ?_) (fun hb => ?_))
  exact hk _ _ _ hg hsl hl
end Go.Proofs
