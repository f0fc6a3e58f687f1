/-
  A part of the proofs over the assembler: EJ.
-/
import Derived.Test.YtnbfimppgcoajaaDoorDT
import Derived.Test.YtnbfimppgcoajaaDoorAbS
import Derived.Test.YtnbfimppgcoajaaDoorAsmModel
import Derived.Test.YtnbfimppgcoajaaDoorEI
namespace Go.Proofs
set_option linter.unusedSimpArgs false
set_option linter.unusedVariables false
open Go Go.Ab AsmM
variable [Go.Ab.Start]
set_option maxRecDepth 100000
set_option maxHeartbeats 1000000
omit [Go.Ab.Start] in
theorem words_ne (s : Bytes) (w : Bytes) (h : w ∈ words s) : w ≠ [] := cut_ne _ _ _ h
omit [Go.Ab.Start] in
theorem takeWhile_len {α : Type} (p : α → Bool) : ∀ l : List α, (l.takeWhile p).length ≤ l.length
  | [] => by simp
  | a :: l => by
    rw [List.takeWhile_cons]
    split
    · have := takeWhile_len p l; simp; omega
    · simp
omit [Go.Ab.Start] in
theorem words_len (s : Bytes) (w : Bytes) (h : w ∈ words s) : w.length ≤ s.length := by
  have h1 := cut_len _ _ _ h
  have h2 : (strip s).length ≤ s.length := takeWhile_len _ s
  simp at h1; omega
omit [Go.Ab.Start] in
theorem any_idx (ms : List (Bytes × Int)) (nm : Bytes) : (ms.any (·.1 = nm)) = (ms.findIdx? (fun p => decide (nm = p.1))).isSome := by
  rw [List.findIdx?_isSome]
  congr 1
  funext p
  rw [decide_eq_decide]; exact eq_comm
omit [Go.Ab.Start] in
theorem last_eq (w : ByteArray) (h : 1 ≤ w.size) : (w.data.toList.getLast? = some 58) ↔ (getB w (w.size - 1)).toNat = 58 := by
  rw [last_of w (by omega), Option.some.injEq]
  exact ⟨fun h => by rw [h]; rfl, fun h => UInt8.toNat_inj.1 h⟩
omit [Go.Ab.Start] in
theorem dropLast_of (w : ByteArray) : w.data.toList.dropLast = (w.extract 0 (w.size - 1)).data.toList := by
  rw [extract_list, List.dropLast_eq_take]; simp
omit [Go.Ab.Start] in
theorem none_set {H : AHeap} {i j : Nat} (o : AObj) (h : j ≠ i) (hn : H j = .none) : (H.set i o) j = .none := by rw [AHeap.set_ne _ _ h]; exact hn
omit [Go.Ab.Start] in
theorem RdR.new {H : AHeap} {r mp : Nat} {st : St} {ms : List (Bytes × Int)} {o1 o2 o3 o4 : Option Nat} (h : RdR H r st ms mp o1 o2 o3 o4) {i : Nat} (o : AObj) (hi : H i = .none) : RdR (H.set i o) r st ms mp o1 o2 o3 o4 :=
  h.frame fun k hk => AHeap.set_ne _ _ fun e => h.some_ne k hk (e ▸ hi)
theorem line21_lab (r mp : Nat) (s : ByteArray) (line_ : Int) (hs : s.size ≤ 1000000) (H : AHeap) (st : St) (o1 o2 o3 o4 : Option Nat) (hR : RdR H r st st.labels mp o1 o2 o3 o4) (hl1 : st.wants.length ≤ 900000) (hl2 : st.l.length ≤ 900000) (hl3 : st.labels.length ≤ 900000) (hl4 : st.lines.length ≤ 900000) (hC : ∀ w ws, words s.data.toList = w :: ws → ws = [] ∧ w.getLast? = some 58) (K : Value → AHeap → Prop)
    (hok : ∀ H' st' p1 p2 p3 p4, line st s.data.toList line_ = .ok st' → RdR H' r st' st'.labels mp p1 p2 p3 p4 → (∀ j, FR r mp p1 p2 p3 p4 j → FR r mp o1 o2 o3 o4 j ∨ H j = .none) → Chg (FR r mp o1 o2 o3 o4) H H' → K .nilIface H')
    (herr : ∀ H' e er, line st s.data.toList line_ = .error er → ErrR H' e er → Chg (FR r mp o1 o2 o3 o4) H H' → K e H') : ACalls Tryd.prog 21 #[.pointer (some ⟨r, 0, none⟩), .string s, .int .i64 line_] H K := by
  replace hok := Hd.mk hok
  replace herr := Hd.mk herr
  refine w_enter (args := [.pointer (some ⟨r, 0, none⟩), .string s, .int .i64 line_]) Tryd.func21 rfl (by kernel_rfl) D.mixed (by kernel_rfl) (rs := [.tmp 6]) rfl ?_
  repeat' (first
    | (simp (disch := omega) only [go_sem, ↓reduceIte, Nat.reduceEqDiff, reduceCtorEq, Nat.reduceAdd, Nat.reduceMul, Int.reduceToNat, Nat.reduceShiftRight, Nat.reduceAnd, Nat.reduceBNe, Nat.reduceBneDiff, Nat.reduceLT, Nat.reduceLeDiff, Int.reduceLT, Int.reduceLE, Int.reduceEq, Int.reduceAdd, Int.reduceSub, *])
    | (refine br_prop (fun hb => ?_) (fun hb => ?_) <;> try (exfalso; omega))
    | refine br_not ?_
    | (refine by_prop (fun hb => ?_) (fun hb => ?_) <;> try (exfalso; omega))
    | (refine by_prop' (fun hb => ?_) (fun hb => ?_) <;> try (exfalso; omega))
    | refine by_not ?_
    | refine w_drawn (by kernel_rfl) ?_
    | refine new_i' (by rfl) (fun j hj hn => ?_)
    | refine new_i (fun j hn => ?_)
    | refine br_bool (fun hb => ?_) (fun hb => ?_)
    | refine by_bool (fun hb => ?_) (fun hb => ?_)
    | refine by_bool' (fun hb => ?_) (fun hb => ?_))
  refine call_i (words34 s hs _ _ fun v H1 ls hg hsl hw => ?_)
  obtain ⟨wo, hsl, hwo⟩ := hsl
  have R1 : RdR H1 r st st.labels mp o1 o2 o3 o4 := hR.chg (hg.chg (fun _ => False)) (fun _ _ h => h)
  cases ls with
  | nil =>
    obtain ⟨a, c, rfl⟩ := hsl.val
    repeat' (first
      | (simp (disch := omega) only [go_sem, ↓reduceIte, Nat.reduceEqDiff, reduceCtorEq, Nat.reduceAdd, Nat.reduceMul, Int.reduceToNat, Nat.reduceShiftRight, Nat.reduceAnd, Nat.reduceBNe, Nat.reduceBneDiff, Nat.reduceLT, Nat.reduceLeDiff, Int.reduceLT, Int.reduceLE, Int.reduceEq, Int.reduceAdd, Int.reduceSub, true_and])
      | (refine br_prop (fun hb => ?_) (fun hb => ?_) <;> try (exfalso; omega))
      | refine br_not ?_
      | (refine by_prop (fun hb => ?_) (fun hb => ?_) <;> try (exfalso; omega))
      | (refine by_prop' (fun hb => ?_) (fun hb => ?_) <;> try (exfalso; omega))
      | refine by_not ?_
      | refine w_drawn (by kernel_rfl) ?_
      | refine new_i' (by rfl) (fun j hj hn => ?_)
      | refine new_i (fun j hn => ?_)
      | refine br_bool (fun hb => ?_) (fun hb => ?_)
      | refine by_bool (fun hb => ?_) (fun hb => ?_)
      | refine by_bool' (fun hb => ?_) (fun hb => ?_))
    exact hok.go _ st _ _ _ _ (by unfold line; rw [← hw]; rfl) R1 (fun j hj => .inl hj) (hg.chg _)
  | cons w0 wr =>
    cases wo with
    | none => obtain ⟨_, h, _⟩ := hsl; simp at h
    | some wi =>
      have hwi := hwo wi rfl
      clear hwo
      obtain ⟨c, ds, rfl, hW, hc1, hc2, hc3⟩ := hsl
      have hne : w0.data.toList ≠ [] := words_ne s.data.toList _ (by rw [← hw]; simp)
      have h1s : 1 ≤ w0.size := by
        rcases Nat.eq_zero_or_pos w0.size with h | h
        · exact absurd (List.length_eq_zero_iff.1 (by simpa using h)) hne
        · exact h
      have h2s : w0.size ≤ 1000000 := by
        have := words_len s.data.toList w0.data.toList (by rw [← hw]; simp)
        simp at this; omega
      rw [List.map_cons, List.cons_append] at hW
      by_cases hlab : wr = [] ∧ (getB w0 (w0.size - 1)).toNat = 58
      · obtain ⟨rfl, h58⟩ := hlab
        have hline : line st s.data.toList line_ = (if (st.labels.any (·.1 = (w0.extract 0 (w0.size - 1)).data.toList)) ∨ named (w0.extract 0 (w0.size - 1)).data.toList = false then .error (bad line_) else .ok { st with labels := st.labels ++ [((w0.extract 0 (w0.size - 1)).data.toList, (st.l.length : Int))], lines := st.lines ++ [line_] }) := by
          unfold line
          rw [← hw]
          simp only [List.map_cons, List.map_nil]
          rw [if_pos ⟨trivial, (last_eq w0 h1s).2 h58⟩, dropLast_of]
        clear hw hne hc1 hc2 hc3
        have hmap := R1.map
        obtain ⟨v1, v2, v3, v4, hr, h1, h2, h3, h4⟩ := R1.obj
        obtain ⟨a1, c1, rfl⟩ := h1.val
        obtain ⟨a2, c2, rfl⟩ := h2.val
        have hlk := look56 hmap (w0.extract 0 (w0.size - 1))
        have hup := upd56 hmap (w0.extract 0 (w0.size - 1))
        rw [any_idx] at hline
        have h0 : ((([] : List ByteArray).length + 1 : Nat) : Int) = 1 := rfl
        have dd := R1.dj.facts
        have hrm := dd.1
        have hwm : wi ≠ mp := fun e => hR.some_ne mp (.inr (.inl rfl)) (e ▸ hwi)
        have hwr : wi ≠ r := fun e => hR.some_ne r (.inl rfl) (e ▸ hwi)
        generalize hnm : (w0.extract 0 (w0.size - 1)).data.toList = nm at *
        cases hidx : st.labels.findIdx? (fun p => decide (nm = p.1)) with
        | some k =>
          rw [hidx] at hlk hline
          simp only at hlk
          clear hup hmap dd
          repeat' (first
            | (simp (disch := omega) only [go_sem, ↓reduceIte, Nat.reduceEqDiff, reduceCtorEq, Nat.reduceAdd, Nat.reduceMul, Int.reduceToNat, Nat.reduceShiftRight, Nat.reduceAnd, Nat.reduceBNe, Nat.reduceBneDiff, Nat.reduceLT, Nat.reduceLeDiff, Int.reduceLT, Int.reduceLE, Int.reduceEq, Int.reduceAdd, Int.reduceSub, *])
            | (refine br_prop (fun hb => ?_) (fun hb => ?_) <;> try (exfalso; omega))
            | refine br_not ?_
            | (refine by_prop (fun hb => ?_) (fun hb => ?_) <;> try (exfalso; omega))
            | (refine by_prop' (fun hb => ?_) (fun hb => ?_) <;> try (exfalso; omega))
            | refine by_not ?_
            | refine w_drawn (by kernel_rfl) ?_
            | refine new_i' (by rfl) (fun j hj hn => ?_)
            | refine new_i (fun j hn => ?_)
            | refine br_bool (fun hb => ?_) (fun hb => ?_)
            | refine by_bool (fun hb => ?_) (fun hb => ?_)
            | refine by_bool' (fun hb => ?_) (fun hb => ?_))
          refine call_i (afail_go _ _ _ _ (.refl _) _ fun H' e hg2 he => ?_)
          repeat' (first
            | (simp (disch := omega) only [go_sem, ↓reduceIte, Nat.reduceEqDiff, reduceCtorEq, Nat.reduceAdd, Nat.reduceMul, Int.reduceToNat, Nat.reduceShiftRight, Nat.reduceAnd, Nat.reduceBNe, Nat.reduceBneDiff, Nat.reduceLT, Nat.reduceLeDiff, Int.reduceLT, Int.reduceLE, Int.reduceEq, Int.reduceAdd, Int.reduceSub, true_and])
            | (refine br_prop (fun hb => ?_) (fun hb => ?_) <;> try (exfalso; omega))
            | refine br_not ?_
            | (refine by_prop (fun hb => ?_) (fun hb => ?_) <;> try (exfalso; omega))
            | (refine by_prop' (fun hb => ?_) (fun hb => ?_) <;> try (exfalso; omega))
            | refine by_not ?_
            | refine w_drawn (by kernel_rfl) ?_
            | refine new_i' (by rfl) (fun j hj hn => ?_)
            | refine new_i (fun j hn => ?_)
            | refine br_bool (fun hb => ?_) (fun hb => ?_)
            | refine by_bool (fun hb => ?_) (fun hb => ?_)
            | refine by_bool' (fun hb => ?_) (fun hb => ?_))
          exact herr.go _ _ _ (by rw [hline, if_pos (.inl rfl)]; rfl) he ((hg.trans hg2).chg _)
        | none =>
          rw [hidx] at hlk hline
          simp only at hlk
          replace hup := hup hidx (st.l.length : Int)
          clear hmap
          repeat' (first
            | (simp (disch := omega) only [go_sem, ↓reduceIte, Nat.reduceEqDiff, reduceCtorEq, Nat.reduceAdd, Nat.reduceMul, Int.reduceToNat, Nat.reduceShiftRight, Nat.reduceAnd, Nat.reduceBNe, Nat.reduceBneDiff, Nat.reduceLT, Nat.reduceLeDiff, Int.reduceLT, Int.reduceLE, Int.reduceEq, Int.reduceAdd, Int.reduceSub, *])
            | (refine br_prop (fun hb => ?_) (fun hb => ?_) <;> try (exfalso; omega))
            | refine br_not ?_
            | (refine by_prop (fun hb => ?_) (fun hb => ?_) <;> try (exfalso; omega))
            | (refine by_prop' (fun hb => ?_) (fun hb => ?_) <;> try (exfalso; omega))
            | refine by_not ?_
            | refine w_drawn (by kernel_rfl) ?_
            | refine new_i' (by rfl) (fun j hj hn => ?_)
            | refine new_i (fun j hn => ?_)
            | refine br_bool (fun hb => ?_) (fun hb => ?_)
            | refine by_bool (fun hb => ?_) (fun hb => ?_)
            | refine by_bool' (fun hb => ?_) (fun hb => ?_))
          refine call_i (named_spec _ _ _ ?_)
          rw [hnm]
          cases hnd : named nm with
          | false =>
            rw [hnd] at hline
            clear hup
            repeat' (first
              | (simp (disch := omega) only [go_sem, ↓reduceIte, Nat.reduceEqDiff, reduceCtorEq, Nat.reduceAdd, Nat.reduceMul, Int.reduceToNat, Nat.reduceShiftRight, Nat.reduceAnd, Nat.reduceBNe, Nat.reduceBneDiff, Nat.reduceLT, Nat.reduceLeDiff, Int.reduceLT, Int.reduceLE, Int.reduceEq, Int.reduceAdd, Int.reduceSub, *])
              | (refine br_prop (fun hb => ?_) (fun hb => ?_) <;> try (exfalso; omega))
              | refine br_not ?_
              | (refine by_prop (fun hb => ?_) (fun hb => ?_) <;> try (exfalso; omega))
              | (refine by_prop' (fun hb => ?_) (fun hb => ?_) <;> try (exfalso; omega))
              | refine by_not ?_
              | refine w_drawn (by kernel_rfl) ?_
              | refine new_i' (by rfl) (fun j hj hn => ?_)
              | refine new_i (fun j hn => ?_)
              | refine br_bool (fun hb => ?_) (fun hb => ?_)
              | refine by_bool (fun hb => ?_) (fun hb => ?_)
              | refine by_bool' (fun hb => ?_) (fun hb => ?_))
            refine call_i (afail_go _ _ _ _ (.refl _) _ fun H' e hg2 he => ?_)
            repeat' (first
              | (simp (disch := omega) only [go_sem, ↓reduceIte, Nat.reduceEqDiff, reduceCtorEq, Nat.reduceAdd, Nat.reduceMul, Int.reduceToNat, Nat.reduceShiftRight, Nat.reduceAnd, Nat.reduceBNe, Nat.reduceBneDiff, Nat.reduceLT, Nat.reduceLeDiff, Int.reduceLT, Int.reduceLE, Int.reduceEq, Int.reduceAdd, Int.reduceSub, true_and])
              | (refine br_prop (fun hb => ?_) (fun hb => ?_) <;> try (exfalso; omega))
              | refine br_not ?_
              | (refine by_prop (fun hb => ?_) (fun hb => ?_) <;> try (exfalso; omega))
              | (refine by_prop' (fun hb => ?_) (fun hb => ?_) <;> try (exfalso; omega))
              | refine by_not ?_
              | refine w_drawn (by kernel_rfl) ?_
              | refine new_i' (by rfl) (fun j hj hn => ?_)
              | refine new_i (fun j hn => ?_)
              | refine br_bool (fun hb => ?_) (fun hb => ?_)
              | refine by_bool (fun hb => ?_) (fun hb => ?_)
              | refine by_bool' (fun hb => ?_) (fun hb => ?_))
            exact herr.go _ _ _ (by rw [hline, if_pos (.inr rfl)]; rfl) he ((hg.trans hg2).chg _)
          | true =>
            rw [hnd] at hline
            clear hidx hlk hnd
            repeat' (first
              | (simp (disch := omega) only [go_sem, ↓reduceIte, Nat.reduceEqDiff, reduceCtorEq, Nat.reduceAdd, Nat.reduceMul, Int.reduceToNat, Nat.reduceShiftRight, Nat.reduceAnd, Nat.reduceBNe, Nat.reduceBneDiff, Nat.reduceLT, Nat.reduceLeDiff, Int.reduceLT, Int.reduceLE, Int.reduceEq, Int.reduceAdd, Int.reduceSub, *])
              | (refine br_prop (fun hb => ?_) (fun hb => ?_) <;> try (exfalso; omega))
              | refine br_not ?_
              | (refine by_prop (fun hb => ?_) (fun hb => ?_) <;> try (exfalso; omega))
              | (refine by_prop' (fun hb => ?_) (fun hb => ?_) <;> try (exfalso; omega))
              | refine by_not ?_
              | refine w_drawn (by kernel_rfl) ?_
              | refine new_i' (by rfl) (fun j hj hn => ?_)
              | refine new_i (fun j hn => ?_)
              | refine br_bool (fun hb => ?_) (fun hb => ?_)
              | refine by_bool (fun hb => ?_) (fun hb => ?_)
              | refine by_bool' (fun hb => ?_) (fun hb => ?_))
            -- labels
            have R2 : RdR ((H1.set mp (.map (mapE (st.labels ++ [(nm, (st.l.length : Int))])))).set j (.cells [.string (w0.extract 0 (w0.size - 1)), .int .i64 st.l.length])) r st (st.labels ++ [(nm, (st.l.length : Int))]) mp o1 o2 o3 o4 :=
              R1.mapu.new _ (by rw [AHeap.set_ne _ _ hj]; exact hn)
            obtain ⟨u1, u2, u3, u4, g0, g1, g2, g3, g4⟩ := R2.obj
            have dd2 := R2.dj.facts
            have g0' : ((H1.set mp (.map (mapE (st.labels ++ [(nm, (st.l.length : Int))])))).set j (.cells [.string (w0.extract 0 (w0.size - 1)), .int .i64 st.l.length])) r = .cells [.slice a1 st.l.length c1, .slice a2 st.labels.length c2, v3, .map (some mp), v4] := by
              rw [AHeap.set_ne _ _ (fun e => by rw [← e, hr] at hn; cases hn), AHeap.set_ne _ _ hrm]; exact hr
            rw [g0'] at g0
            simp only [AObj.cells.injEq, List.cons.injEq, and_true, true_and] at g0
            obtain ⟨rfl, rfl, rfl, rfl⟩ := g0
            refine app_i (app_go D.e26 g2 (news_one D.u26 (AHeap.set_same _ _ _) rfl) rfl (by omega) (by omega) (by omega) fun v' H3 i3 hs3 hf3 hi3 => ?_)
            obtain ⟨a3, c3, rfl⟩ := hs3.val
            have hr3 := (hf3 r (by rw [g0']; simp) dd2.2.2.1).trans g0'
            obtain ⟨R3, n3⟩ := R2.lab (w := (nm, (st.l.length : Int))) g0' (by rw [show encLab (nm, (st.l.length : Int)) = [.string (w0.extract 0 (w0.size - 1)), .int .i64 st.l.length] by unfold encLab; rw [← hnm, bA_of]]; exact hs3) hf3 hi3
            have C2 : Chg (FR r mp o1 o2 o3 o4) H ((H1.set mp (.map (mapE (st.labels ++ [(nm, (st.l.length : Int))])))).set j (.cells [.string (w0.extract 0 (w0.size - 1)), .int .i64 st.l.length])) :=
              ((hg.chg _).set _ (.inl (.inr (.inl rfl)))).new _ (by rw [AHeap.set_ne _ _ hj]; exact hn)
            have C3 := (C2.app hf3 (fun k hk => by unfold FR; simp [hk])).set (i := r) (.cells [.slice a1 st.l.length c1, .slice a3 (st.labels.length + 1) c3, v3, .map (some mp), v4]) (.inl (.inl rfl))
            have N3 : ∀ k, FR r mp o1 (some i3) o3 o4 k → FR r mp o1 o2 o3 o4 k ∨ H k = .none := fun k hk => (n3 k hk).elim .inl C2.none
            clear R1 hW h1 h2 h3 h4 hr dd hwm hwr hup R2 dd2 g0' g1 g2 g3 g4 hf3 hi3 hs3 n3 C2 hn hj
            repeat' (first
              | (simp (disch := omega) only [go_sem, ↓reduceIte, Nat.reduceEqDiff, reduceCtorEq, Nat.reduceAdd, Nat.reduceMul, Int.reduceToNat, Nat.reduceShiftRight, Nat.reduceAnd, Nat.reduceBNe, Nat.reduceBneDiff, Nat.reduceLT, Nat.reduceLeDiff, Int.reduceLT, Int.reduceLE, Int.reduceEq, Int.reduceAdd, Int.reduceSub, hr3])
              | (refine br_prop (fun hb => ?_) (fun hb => ?_) <;> try (exfalso; omega))
              | refine br_not ?_
              | (refine by_prop (fun hb => ?_) (fun hb => ?_) <;> try (exfalso; omega))
              | (refine by_prop' (fun hb => ?_) (fun hb => ?_) <;> try (exfalso; omega))
              | refine by_not ?_
              | refine w_drawn (by kernel_rfl) ?_
              | refine new_i' (by rfl) (fun j hj hn => ?_)
              | refine new_i (fun j hn => ?_)
              | refine br_bool (fun hb => ?_) (fun hb => ?_)
              | refine by_bool (fun hb => ?_) (fun hb => ?_)
              | refine by_bool' (fun hb => ?_) (fun hb => ?_))
            have R4 := R3.new (.cells [.int .i64 line_]) (none_set _ hj hn)
            have C4 := C3.new (.cells [.int .i64 line_]) (none_set _ hj hn)
            obtain ⟨u1, u2, u3, u4, g0, g1, g2, g3, g4⟩ := R4.obj
            have dd4 := R4.dj.facts
            rw [AHeap.set_ne _ _ (Ne.symm hj), AHeap.set_same] at g0
            simp only [AObj.cells.injEq, List.cons.injEq, and_true, true_and] at g0
            obtain ⟨rfl, rfl, rfl, rfl⟩ := g0
            refine app_i (app_go (n := st.lines.length) D.e57 g3 (news_one D.u57 (AHeap.set_same _ _ _) rfl) rfl (by omega) (by omega) (by omega) fun v' H5 i5 hs5 hf5 hi5 => ?_)
            obtain ⟨a5, c5, rfl⟩ := hs5.val
            have g0' : ((H3.set r (.cells [.slice a1 st.l.length c1, .slice a3 (st.labels.length + 1) c3, v3, .map (some mp), v4])).set j (.cells [.int .i64 line_])) r = .cells [.slice a1 st.l.length c1, .slice a3 (st.labels.length + 1) c3, v3, .map (some mp), v4] := by
              rw [AHeap.set_ne _ _ (Ne.symm hj), AHeap.set_same]
            have hr5 := (hf5 r (by rw [g0']; simp) dd4.2.2.2.1).trans g0'
            obtain ⟨R5, n5⟩ := R4.lin (w := line_) g0' hs5 hf5 hi5
            have C5 := (C4.app hf5 (fun k hk => by unfold FR; simp [hk])).set (i := r) (.cells [.slice a1 st.l.length c1, .slice a3 (st.labels.length + 1) c3, .slice a5 (st.lines.length + 1) c5, .map (some mp), v4]) (.inl (.inl rfl))
            have N5 : ∀ k, FR r mp o1 (some i3) (some i5) o4 k → FR r mp o1 o2 o3 o4 k ∨ H k = .none := fun k hk => (n5 k hk).elim (N3 k) C4.none
            clear R3 R4 g1 g2 g3 g4 hf5 hi5 hs5 n5 C3 C4 hn hj dd4 g0' hr3
            repeat' (first
              | (simp (disch := omega) only [go_sem, ↓reduceIte, Nat.reduceEqDiff, reduceCtorEq, Nat.reduceAdd, Nat.reduceMul, Int.reduceToNat, Nat.reduceShiftRight, Nat.reduceAnd, Nat.reduceBNe, Nat.reduceBneDiff, Nat.reduceLT, Nat.reduceLeDiff, Int.reduceLT, Int.reduceLE, Int.reduceEq, Int.reduceAdd, Int.reduceSub, hr5])
              | (refine br_prop (fun hb => ?_) (fun hb => ?_) <;> try (exfalso; omega))
              | refine br_not ?_
              | (refine by_prop (fun hb => ?_) (fun hb => ?_) <;> try (exfalso; omega))
              | (refine by_prop' (fun hb => ?_) (fun hb => ?_) <;> try (exfalso; omega))
              | refine by_not ?_
              | refine w_drawn (by kernel_rfl) ?_
              | refine new_i' (by rfl) (fun j hj hn => ?_)
              | refine new_i (fun j hn => ?_)
              | refine br_bool (fun hb => ?_) (fun hb => ?_)
              | refine by_bool (fun hb => ?_) (fun hb => ?_)
              | refine by_bool' (fun hb => ?_) (fun hb => ?_))
            exact hok.go _ _ _ _ _ _ (by rw [hline, if_neg (by simp)]) R5 N5 C5
      · have := hC _ _ hw.symm
        exact absurd ⟨List.map_eq_nil_iff.1 this.1, (last_eq w0 h1s).1 this.2⟩ hlab
end Go.Proofs
