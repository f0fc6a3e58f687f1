/-
  A part of the proofs: EJ EK EL.
-/
import Derived.Test.YtnbfimppgcoajaaDoorDT
import Derived.Test.YtnbfimppgcoajaaDoorAbS
import Derived.Test.YtnbfimppgcoajaaDoorPA
import Derived.Test.YtnbfimppgcoajaaDoorPEH
namespace Go.Proofs
set_option linter.unusedSimpArgs false
set_option linter.unusedVariables false
set_option linter.unusedSectionVars false
open Go Go.Ab AsmM
variable [Go.Ab.Start]
set_option maxRecDepth 100000
set_option maxHeartbeats 1000000
theorem words_ne (s : Bytes) (w : Bytes) (h : w ∈ words s) : w ≠ [] := cut_ne _ _ _ h
theorem takeWhile_len {α : Type} (p : α → Bool) : ∀ l : List α, (l.takeWhile p).length ≤ l.length
  | [] => by simp
  | a :: l => by
    rw [List.takeWhile_cons]
    split
    · have := takeWhile_len p l; simp; omega
    · simp
theorem words_len (s : Bytes) (w : Bytes) (h : w ∈ words s) : w.length ≤ s.length := by
  have h1 := cut_len _ _ _ h
  have h2 : (strip s).length ≤ s.length := takeWhile_len _ s
  simp at h1; omega
theorem any_idx (ms : List (Bytes × Int)) (nm : Bytes) : (ms.any (·.1 = nm)) = (ms.findIdx? (fun p => decide (nm = p.1))).isSome := by
  rw [List.findIdx?_isSome]
  congr 1
  funext p
  rw [decide_eq_decide]; exact eq_comm
theorem last_eq (w : ByteArray) (h : 1 ≤ w.size) : (w.data.toList.getLast? = some 58) ↔ (getB w (w.size - 1)).toNat = 58 := by
  rw [last_of w (by omega), Option.some.injEq]
  exact ⟨fun h => by rw [h]; rfl, fun h => UInt8.toNat_inj.1 h⟩
theorem dropLast_of (w : ByteArray) : w.data.toList.dropLast = (w.extract 0 (w.size - 1)).data.toList := by
  rw [extract_list, List.dropLast_eq_take]; simp
theorem none_set {H : AHeap} {i j : Nat} (o : AObj) (h : j ≠ i) (hn : H j = .none) : (H.set i o) j = .none := by rw [AHeap.set_ne _ _ h]; exact hn
theorem RdR.new {H : AHeap} {r mp : Nat} {st : St} {ms : List (Bytes × Int)} {o1 o2 o3 o4 : Option Nat} (h : RdR H r st ms mp o1 o2 o3 o4) {i : Nat} (o : AObj) (hi : H i = .none) : RdR (H.set i o) r st ms mp o1 o2 o3 o4 :=
  h.frame fun k hk => AHeap.set_ne _ _ fun e => h.some_ne k hk (e ▸ hi)
theorem line21_lab (r mp : Nat) (s : ByteArray) (line_ : Int) (hs : s.size ≤ 1000000) (H : AHeap) (st : St) (o1 o2 o3 o4 : Option Nat) (hR : RdR H r st st.labels mp o1 o2 o3 o4) (hl1 : st.wants.length ≤ 900000) (hl2 : st.l.length ≤ 900000) (hl3 : st.labels.length ≤ 900000) (hl4 : st.lines.length ≤ 900000) (hC : ∀ w ws, words s.data.toList = w :: ws → ws = [] ∧ w.getLast? = some 58) (K : Value → AHeap → Prop)
    (hok : ∀ H' st' p1 p2 p3 p4, line st s.data.toList line_ = .ok st' → RdR H' r st' st'.labels mp p1 p2 p3 p4 → (∀ j, FR r mp p1 p2 p3 p4 j → FR r mp o1 o2 o3 o4 j ∨ H j = .none) → Chg (FR r mp o1 o2 o3 o4) H H' → K .nilIface H')
    (herr : ∀ H' e er, line st s.data.toList line_ = .error er → ErrR H' e er → Chg (FR r mp o1 o2 o3 o4) H H' → K e H') : ACalls Tryd.prog 21 #[.pointer (some ⟨r, 0, none⟩), .string s, .int .i64 line_] H K := by
  replace hok := Hd.mk hok
  replace herr := Hd.mk herr
  refine w_enter (args := [.pointer (some ⟨r, 0, none⟩), .string s, .int .i64 line_]) Tryd.func21 rfl (by kernel_rfl) D.mixed (by kernel_rfl) (rs := [.tmp 6]) rfl ?_
  repeat' (first
    | (simp (disch := first | omega | assumption) only [go_sem, ↓reduceIte, Nat.reduceEqDiff, reduceCtorEq, Nat.reduceAdd, Nat.reduceMul, Int.reduceToNat, Nat.reduceShiftRight, Nat.reduceAnd, Nat.reduceBNe, Nat.reduceBneDiff, Nat.reduceLT, Nat.reduceLeDiff, Int.reduceLT, Int.reduceLE, Int.reduceEq, Int.reduceAdd, Int.reduceSub, *])
    | (refine br_prop (fun hb => ?_) (fun hb => ?_) <;> try (exfalso; omega))
    | refine br_not ?_
    | (refine by_prop (fun hb => ?_) (fun hb => ?_) <;> try (exfalso; omega))
    | (refine by_prop' (fun hb => ?_) (fun hb => ?_) <;> try (exfalso; omega))
    | refine by_not ?_
    | refine w_drawn (by kernel_rfl) ?_
    | refine new_i' (by rfl) (fun j hj hn => ?_)
    | refine new_i (fun j hn => ?_)
    | refine br_bool (fun hb => ?_) (fun hb => ?_)
    | refine by_bool (fun hb => ?_) (fun hb => ?_)
    | refine by_bool' (fun hb => ?_) (fun hb => ?_))
  refine call_i (words34 s hs _ _ fun v H1 ls hg hsl hw => ?_)
  obtain ⟨wo, hsl, hwo⟩ := hsl
  have R1 : RdR H1 r st st.labels mp o1 o2 o3 o4 := hR.chg (hg.chg (fun _ => False)) (fun _ _ h => h)
  cases ls with
  | nil =>
    obtain ⟨a, c, rfl⟩ := hsl.val
    repeat' (first
      | (simp (disch := first | omega | assumption) only [go_sem, ↓reduceIte, Nat.reduceEqDiff, reduceCtorEq, Nat.reduceAdd, Nat.reduceMul, Int.reduceToNat, Nat.reduceShiftRight, Nat.reduceAnd, Nat.reduceBNe, Nat.reduceBneDiff, Nat.reduceLT, Nat.reduceLeDiff, Int.reduceLT, Int.reduceLE, Int.reduceEq, Int.reduceAdd, Int.reduceSub, true_and])
      | (refine br_prop (fun hb => ?_) (fun hb => ?_) <;> try (exfalso; omega))
      | refine br_not ?_
      | (refine by_prop (fun hb => ?_) (fun hb => ?_) <;> try (exfalso; omega))
      | (refine by_prop' (fun hb => ?_) (fun hb => ?_) <;> try (exfalso; omega))
      | refine by_not ?_
      | refine w_drawn (by kernel_rfl) ?_
      | refine new_i' (by rfl) (fun j hj hn => ?_)
      | refine new_i (fun j hn => ?_)
      | refine br_bool (fun hb => ?_) (fun hb => ?_)
      | refine by_bool (fun hb => ?_) (fun hb => ?_)
      | refine by_bool' (fun hb => ?_) (fun hb => ?_))
    exact hok.go _ st _ _ _ _ (by unfold line; rw [← hw]; rfl) R1 (fun j hj => .inl hj) (hg.chg _)
  | cons w0 wr =>
    cases wo with
    | none => obtain ⟨_, h, _⟩ := hsl; simp at h
    | some wi =>
      have hwi := hwo wi rfl
      clear hwo
      obtain ⟨c, ds, rfl, hW, hc1, hc2, hc3⟩ := hsl
      have hne : w0.data.toList ≠ [] := words_ne s.data.toList _ (by rw [← hw]; simp)
      have h1s : 1 ≤ w0.size := by
        rcases Nat.eq_zero_or_pos w0.size with h | h
        · exact absurd (List.length_eq_zero_iff.1 (by simpa using h)) hne
        · exact h
      have h2s : w0.size ≤ 1000000 := by
        have := words_len s.data.toList w0.data.toList (by rw [← hw]; simp)
        simp at this; omega
      rw [List.map_cons, List.cons_append] at hW
      by_cases hlab : wr = [] ∧ (getB w0 (w0.size - 1)).toNat = 58
      · obtain ⟨rfl, h58⟩ := hlab
        have hline : line st s.data.toList line_ = (if (st.labels.any (·.1 = (w0.extract 0 (w0.size - 1)).data.toList)) ∨ named (w0.extract 0 (w0.size - 1)).data.toList = false then .error (bad line_) else .ok { st with labels := st.labels ++ [((w0.extract 0 (w0.size - 1)).data.toList, (st.l.length : Int))], lines := st.lines ++ [line_] }) := by
          unfold line
          rw [← hw]
          simp only [List.map_cons, List.map_nil]
          rw [if_pos ⟨trivial, (last_eq w0 h1s).2 h58⟩, dropLast_of]
        clear hw hne hc1 hc2 hc3
        have hmap := R1.map
        obtain ⟨v1, v2, v3, v4, hr, h1, h2, h3, h4⟩ := R1.obj
        obtain ⟨a1, c1, rfl⟩ := h1.val
        obtain ⟨a2, c2, rfl⟩ := h2.val
        have hlk := look56 hmap (w0.extract 0 (w0.size - 1))
        have hup := upd56 hmap (w0.extract 0 (w0.size - 1))
        rw [any_idx] at hline
        have h0 : ((([] : List ByteArray).length + 1 : Nat) : Int) = 1 := rfl
        have dd := R1.dj.facts
        have hrm := dd.1
        have hwm : wi ≠ mp := fun e => hR.some_ne mp (.inr (.inl rfl)) (e ▸ hwi)
        have hwr : wi ≠ r := fun e => hR.some_ne r (.inl rfl) (e ▸ hwi)
        generalize hnm : (w0.extract 0 (w0.size - 1)).data.toList = nm at *
        cases hidx : st.labels.findIdx? (fun p => decide (nm = p.1)) with
        | some k =>
          rw [hidx] at hlk hline
          simp only at hlk
          clear hup hmap dd
          repeat' (first
            | (simp (disch := first | omega | assumption) only [go_sem, ↓reduceIte, Nat.reduceEqDiff, reduceCtorEq, Nat.reduceAdd, Nat.reduceMul, Int.reduceToNat, Nat.reduceShiftRight, Nat.reduceAnd, Nat.reduceBNe, Nat.reduceBneDiff, Nat.reduceLT, Nat.reduceLeDiff, Int.reduceLT, Int.reduceLE, Int.reduceEq, Int.reduceAdd, Int.reduceSub, *])
            | (refine br_prop (fun hb => ?_) (fun hb => ?_) <;> try (exfalso; omega))
            | refine br_not ?_
            | (refine by_prop (fun hb => ?_) (fun hb => ?_) <;> try (exfalso; omega))
            | (refine by_prop' (fun hb => ?_) (fun hb => ?_) <;> try (exfalso; omega))
            | refine by_not ?_
            | refine w_drawn (by kernel_rfl) ?_
            | refine new_i' (by rfl) (fun j hj hn => ?_)
            | refine new_i (fun j hn => ?_)
            | refine br_bool (fun hb => ?_) (fun hb => ?_)
            | refine by_bool (fun hb => ?_) (fun hb => ?_)
            | refine by_bool' (fun hb => ?_) (fun hb => ?_))
          refine call_i (afail_go _ _ _ _ (.refl _) _ fun H' e hg2 he => ?_)
          repeat' (first
            | (simp (disch := first | omega | assumption) only [go_sem, ↓reduceIte, Nat.reduceEqDiff, reduceCtorEq, Nat.reduceAdd, Nat.reduceMul, Int.reduceToNat, Nat.reduceShiftRight, Nat.reduceAnd, Nat.reduceBNe, Nat.reduceBneDiff, Nat.reduceLT, Nat.reduceLeDiff, Int.reduceLT, Int.reduceLE, Int.reduceEq, Int.reduceAdd, Int.reduceSub, true_and])
            | (refine br_prop (fun hb => ?_) (fun hb => ?_) <;> try (exfalso; omega))
            | refine br_not ?_
            | (refine by_prop (fun hb => ?_) (fun hb => ?_) <;> try (exfalso; omega))
            | (refine by_prop' (fun hb => ?_) (fun hb => ?_) <;> try (exfalso; omega))
            | refine by_not ?_
            | refine w_drawn (by kernel_rfl) ?_
            | refine new_i' (by rfl) (fun j hj hn => ?_)
            | refine new_i (fun j hn => ?_)
            | refine br_bool (fun hb => ?_) (fun hb => ?_)
            | refine by_bool (fun hb => ?_) (fun hb => ?_)
            | refine by_bool' (fun hb => ?_) (fun hb => ?_))
          exact herr.go _ _ _ (by rw [hline, if_pos (.inl rfl)]; rfl) he ((hg.trans hg2).chg _)
        | none =>
          rw [hidx] at hlk hline
          simp only at hlk
          replace hup := hup hidx (st.l.length : Int)
          clear hmap
          repeat' (first
            | (simp (disch := first | omega | assumption) only [go_sem, ↓reduceIte, Nat.reduceEqDiff, reduceCtorEq, Nat.reduceAdd, Nat.reduceMul, Int.reduceToNat, Nat.reduceShiftRight, Nat.reduceAnd, Nat.reduceBNe, Nat.reduceBneDiff, Nat.reduceLT, Nat.reduceLeDiff, Int.reduceLT, Int.reduceLE, Int.reduceEq, Int.reduceAdd, Int.reduceSub, *])
            | (refine br_prop (fun hb => ?_) (fun hb => ?_) <;> try (exfalso; omega))
            | refine br_not ?_
            | (refine by_prop (fun hb => ?_) (fun hb => ?_) <;> try (exfalso; omega))
            | (refine by_prop' (fun hb => ?_) (fun hb => ?_) <;> try (exfalso; omega))
            | refine by_not ?_
            | refine w_drawn (by kernel_rfl) ?_
            | refine new_i' (by rfl) (fun j hj hn => ?_)
            | refine new_i (fun j hn => ?_)
            | refine br_bool (fun hb => ?_) (fun hb => ?_)
            | refine by_bool (fun hb => ?_) (fun hb => ?_)
            | refine by_bool' (fun hb => ?_) (fun hb => ?_))
          refine call_i (named_spec _ _ _ ?_)
          rw [hnm]
          cases hnd : named nm with
          | false =>
            rw [hnd] at hline
            clear hup
            repeat' (first
              | (simp (disch := first | omega | assumption) only [go_sem, ↓reduceIte, Nat.reduceEqDiff, reduceCtorEq, Nat.reduceAdd, Nat.reduceMul, Int.reduceToNat, Nat.reduceShiftRight, Nat.reduceAnd, Nat.reduceBNe, Nat.reduceBneDiff, Nat.reduceLT, Nat.reduceLeDiff, Int.reduceLT, Int.reduceLE, Int.reduceEq, Int.reduceAdd, Int.reduceSub, *])
              | (refine br_prop (fun hb => ?_) (fun hb => ?_) <;> try (exfalso; omega))
              | refine br_not ?_
              | (refine by_prop (fun hb => ?_) (fun hb => ?_) <;> try (exfalso; omega))
              | (refine by_prop' (fun hb => ?_) (fun hb => ?_) <;> try (exfalso; omega))
              | refine by_not ?_
              | refine w_drawn (by kernel_rfl) ?_
              | refine new_i' (by rfl) (fun j hj hn => ?_)
              | refine new_i (fun j hn => ?_)
              | refine br_bool (fun hb => ?_) (fun hb => ?_)
              | refine by_bool (fun hb => ?_) (fun hb => ?_)
              | refine by_bool' (fun hb => ?_) (fun hb => ?_))
            refine call_i (afail_go _ _ _ _ (.refl _) _ fun H' e hg2 he => ?_)
            repeat' (first
              | (simp (disch := first | omega | assumption) only [go_sem, ↓reduceIte, Nat.reduceEqDiff, reduceCtorEq, Nat.reduceAdd, Nat.reduceMul, Int.reduceToNat, Nat.reduceShiftRight, Nat.reduceAnd, Nat.reduceBNe, Nat.reduceBneDiff, Nat.reduceLT, Nat.reduceLeDiff, Int.reduceLT, Int.reduceLE, Int.reduceEq, Int.reduceAdd, Int.reduceSub, true_and])
              | (refine br_prop (fun hb => ?_) (fun hb => ?_) <;> try (exfalso; omega))
              | refine br_not ?_
              | (refine by_prop (fun hb => ?_) (fun hb => ?_) <;> try (exfalso; omega))
              | (refine by_prop' (fun hb => ?_) (fun hb => ?_) <;> try (exfalso; omega))
              | refine by_not ?_
              | refine w_drawn (by kernel_rfl) ?_
              | refine new_i' (by rfl) (fun j hj hn => ?_)
              | refine new_i (fun j hn => ?_)
              | refine br_bool (fun hb => ?_) (fun hb => ?_)
              | refine by_bool (fun hb => ?_) (fun hb => ?_)
              | refine by_bool' (fun hb => ?_) (fun hb => ?_))
            exact herr.go _ _ _ (by rw [hline, if_pos (.inr rfl)]; rfl) he ((hg.trans hg2).chg _)
          | true =>
            rw [hnd] at hline
            clear hidx hlk hnd
            repeat' (first
              | (simp (disch := first | omega | assumption) only [go_sem, ↓reduceIte, Nat.reduceEqDiff, reduceCtorEq, Nat.reduceAdd, Nat.reduceMul, Int.reduceToNat, Nat.reduceShiftRight, Nat.reduceAnd, Nat.reduceBNe, Nat.reduceBneDiff, Nat.reduceLT, Nat.reduceLeDiff, Int.reduceLT, Int.reduceLE, Int.reduceEq, Int.reduceAdd, Int.reduceSub, *])
              | (refine br_prop (fun hb => ?_) (fun hb => ?_) <;> try (exfalso; omega))
              | refine br_not ?_
              | (refine by_prop (fun hb => ?_) (fun hb => ?_) <;> try (exfalso; omega))
              | (refine by_prop' (fun hb => ?_) (fun hb => ?_) <;> try (exfalso; omega))
              | refine by_not ?_
              | refine w_drawn (by kernel_rfl) ?_
              | refine new_i' (by rfl) (fun j hj hn => ?_)
              | refine new_i (fun j hn => ?_)
              | refine br_bool (fun hb => ?_) (fun hb => ?_)
              | refine by_bool (fun hb => ?_) (fun hb => ?_)
              | refine by_bool' (fun hb => ?_) (fun hb => ?_))
            -- labels
            have R2 : RdR ((H1.set mp (.map (mapE (st.labels ++ [(nm, (st.l.length : Int))])))).set j (.cells [.string (w0.extract 0 (w0.size - 1)), .int .i64 st.l.length])) r st (st.labels ++ [(nm, (st.l.length : Int))]) mp o1 o2 o3 o4 :=
              R1.mapu.new _ (by rw [AHeap.set_ne _ _ hj]; exact hn)
            obtain ⟨u1, u2, u3, u4, g0, g1, g2, g3, g4⟩ := R2.obj
            have dd2 := R2.dj.facts
            have g0' : ((H1.set mp (.map (mapE (st.labels ++ [(nm, (st.l.length : Int))])))).set j (.cells [.string (w0.extract 0 (w0.size - 1)), .int .i64 st.l.length])) r = .cells [.slice a1 st.l.length c1, .slice a2 st.labels.length c2, v3, .map (some mp), v4] := by
              rw [AHeap.set_ne _ _ (fun e => by rw [← e, hr] at hn; cases hn), AHeap.set_ne _ _ hrm]; exact hr
            rw [g0'] at g0
            simp only [AObj.cells.injEq, List.cons.injEq, and_true, true_and] at g0
            obtain ⟨rfl, rfl, rfl, rfl⟩ := g0
            refine app_i (app_go D.e26 g2 (news_one D.u26 (AHeap.set_same _ _ _) rfl) rfl (by omega) (by omega) (by omega) fun v' H3 i3 hs3 hf3 hi3 => ?_)
            obtain ⟨a3, c3, rfl⟩ := hs3.val
            have hr3 := (hf3 r (by rw [g0']; simp) dd2.2.2.1).trans g0'
            obtain ⟨R3, n3⟩ := R2.lab (w := (nm, (st.l.length : Int))) g0' (by rw [show encLab (nm, (st.l.length : Int)) = [.string (w0.extract 0 (w0.size - 1)), .int .i64 st.l.length] by unfold encLab; rw [← hnm, bA_of]]; exact hs3) hf3 hi3
            have C2 : Chg (FR r mp o1 o2 o3 o4) H ((H1.set mp (.map (mapE (st.labels ++ [(nm, (st.l.length : Int))])))).set j (.cells [.string (w0.extract 0 (w0.size - 1)), .int .i64 st.l.length])) :=
              ((hg.chg _).set _ (.inl (.inr (.inl rfl)))).new _ (by rw [AHeap.set_ne _ _ hj]; exact hn)
            have C3 := (C2.app hf3 (fun k hk => by unfold FR; simp [hk])).set (i := r) (.cells [.slice a1 st.l.length c1, .slice a3 (st.labels.length + 1) c3, v3, .map (some mp), v4]) (.inl (.inl rfl))
            have N3 : ∀ k, FR r mp o1 (some i3) o3 o4 k → FR r mp o1 o2 o3 o4 k ∨ H k = .none := fun k hk => (n3 k hk).elim .inl C2.none
            clear R1 hW h1 h2 h3 h4 hr dd hwm hwr hup R2 dd2 g0' g1 g2 g3 g4 hf3 hi3 hs3 n3 C2 hn hj
            repeat' (first
              | (simp (disch := first | omega | assumption) only [go_sem, ↓reduceIte, Nat.reduceEqDiff, reduceCtorEq, Nat.reduceAdd, Nat.reduceMul, Int.reduceToNat, Nat.reduceShiftRight, Nat.reduceAnd, Nat.reduceBNe, Nat.reduceBneDiff, Nat.reduceLT, Nat.reduceLeDiff, Int.reduceLT, Int.reduceLE, Int.reduceEq, Int.reduceAdd, Int.reduceSub, hr3])
              | (refine br_prop (fun hb => ?_) (fun hb => ?_) <;> try (exfalso; omega))
              | refine br_not ?_
              | (refine by_prop (fun hb => ?_) (fun hb => ?_) <;> try (exfalso; omega))
              | (refine by_prop' (fun hb => ?_) (fun hb => ?_) <;> try (exfalso; omega))
              | refine by_not ?_
              | refine w_drawn (by kernel_rfl) ?_
              | refine new_i' (by rfl) (fun j hj hn => ?_)
              | refine new_i (fun j hn => ?_)
              | refine br_bool (fun hb => ?_) (fun hb => ?_)
              | refine by_bool (fun hb => ?_) (fun hb => ?_)
              | refine by_bool' (fun hb => ?_) (fun hb => ?_))
            have R4 := R3.new (.cells [.int .i64 line_]) (none_set _ hj hn)
            have C4 := C3.new (.cells [.int .i64 line_]) (none_set _ hj hn)
            obtain ⟨u1, u2, u3, u4, g0, g1, g2, g3, g4⟩ := R4.obj
            have dd4 := R4.dj.facts
            rw [AHeap.set_ne _ _ (Ne.symm hj), AHeap.set_same] at g0
            simp only [AObj.cells.injEq, List.cons.injEq, and_true, true_and] at g0
            obtain ⟨rfl, rfl, rfl, rfl⟩ := g0
            refine app_i (app_go (n := st.lines.length) D.e57 g3 (news_one D.u57 (AHeap.set_same _ _ _) rfl) rfl (by omega) (by omega) (by omega) fun v' H5 i5 hs5 hf5 hi5 => ?_)
            obtain ⟨a5, c5, rfl⟩ := hs5.val
            have g0' : ((H3.set r (.cells [.slice a1 st.l.length c1, .slice a3 (st.labels.length + 1) c3, v3, .map (some mp), v4])).set j (.cells [.int .i64 line_])) r = .cells [.slice a1 st.l.length c1, .slice a3 (st.labels.length + 1) c3, v3, .map (some mp), v4] := by
              rw [AHeap.set_ne _ _ (Ne.symm hj), AHeap.set_same]
            have hr5 := (hf5 r (by rw [g0']; simp) dd4.2.2.2.1).trans g0'
            obtain ⟨R5, n5⟩ := R4.lin (w := line_) g0' hs5 hf5 hi5
            have C5 := (C4.app hf5 (fun k hk => by unfold FR; simp [hk])).set (i := r) (.cells [.slice a1 st.l.length c1, .slice a3 (st.labels.length + 1) c3, .slice a5 (st.lines.length + 1) c5, .map (some mp), v4]) (.inl (.inl rfl))
            have N5 : ∀ k, FR r mp o1 (some i3) (some i5) o4 k → FR r mp o1 o2 o3 o4 k ∨ H k = .none := fun k hk => (n5 k hk).elim (N3 k) C4.none
            clear R3 R4 g1 g2 g3 g4 hf5 hi5 hs5 n5 C3 C4 hn hj dd4 g0' hr3
            repeat' (first
              | (simp (disch := first | omega | assumption) only [go_sem, ↓reduceIte, Nat.reduceEqDiff, reduceCtorEq, Nat.reduceAdd, Nat.reduceMul, Int.reduceToNat, Nat.reduceShiftRight, Nat.reduceAnd, Nat.reduceBNe, Nat.reduceBneDiff, Nat.reduceLT, Nat.reduceLeDiff, Int.reduceLT, Int.reduceLE, Int.reduceEq, Int.reduceAdd, Int.reduceSub, hr5])
              | (refine br_prop (fun hb => ?_) (fun hb => ?_) <;> try (exfalso; omega))
              | refine br_not ?_
              | (refine by_prop (fun hb => ?_) (fun hb => ?_) <;> try (exfalso; omega))
              | (refine by_prop' (fun hb => ?_) (fun hb => ?_) <;> try (exfalso; omega))
              | refine by_not ?_
              | refine w_drawn (by kernel_rfl) ?_
              | refine new_i' (by rfl) (fun j hj hn => ?_)
              | refine new_i (fun j hn => ?_)
              | refine br_bool (fun hb => ?_) (fun hb => ?_)
              | refine by_bool (fun hb => ?_) (fun hb => ?_)
              | refine by_bool' (fun hb => ?_) (fun hb => ?_))
            exact hok.go _ _ _ _ _ _ (by rw [hline, if_neg (by simp)]) R5 N5 C5
      · have := hC _ _ hw.symm
        exact absurd ⟨List.map_eq_nil_iff.1 this.1, (last_eq w0 h1s).1 this.2⟩ hlab
end Go.Proofs
namespace Go.Proofs
set_option linter.unusedSimpArgs false
set_option linter.unusedVariables false
set_option linter.unusedSectionVars false
open Go Go.Ab AsmM
variable [Go.Ab.Start]
set_option maxRecDepth 100000
set_option maxHeartbeats 1000000
def insLine (st : St) (op : Nat) (ws : List Bytes) (n : Int) : Except Er St :=
  if op = 0 then .error (bad n) else
  if ws.length ≠ (operands op).length ∧ (ws.length ≠ (operands op).length + 1 ∨ (ws.getLast?.bind (·.head?)) ≠ some 33) then .error (bad n) else do
  let (x, wants) ← operandsOf st.l.length n { Ins.zero with op := op } st.wants (operands op) ws
  let y ← if (operands op).length < ws.length then AsmM.mark x ((ws.getLast?).getD []) n else .ok x
  .ok { st with l := st.l ++ [y], wants := wants }
theorem ite_p {α : Type} (p : α → Prop) {c : Prop} [Decidable c] {a b : α} (ha : p a) (hb : p b) : p (if c then a else b) := by split <;> assumption
theorem ops_all (op : Int) (p : List Int → Prop) (h0 : p []) (h1 : p [1, 9]) (h2 : p [1, 8]) (h3 : p [8]) (h4 : p [7]) (h5 : p [1, 5]) (h6 : p [1, 2, 7]) (h7 : p [1, 6, 3]) (h8 : p [1, 6]) (h9 : p [1, 2, 4]) (ha : p [1, 2, 3]) (hb : p [1, 2]) (hc : p [1]) : p (operands op) := by
  unfold operands
  exact ite_p p h1 (ite_p p h2 (ite_p p h3 (ite_p p h4 (ite_p p h5 (ite_p p h6 (ite_p p h7 (ite_p p h8 (ite_p p h9 (ite_p p ha (ite_p p hb (ite_p p hc h0)))))))))))
theorem ops_len (op : Int) : (operands op).length ≤ 3 := by apply ops_all op (fun l => l.length ≤ 3) <;> decide
theorem ops_pos (op : Int) : ∀ k ∈ operands op, k ≠ 0 := by apply ops_all op (fun l => ∀ k ∈ l, k ≠ 0) <;> decide
theorem sl24_1 (i n c : Nat) (hn : n + 1 ≤ c) : ∃ a b, sliceA Tryd.prog 24 (.slice (some ⟨i, 0, none⟩) (n + 1) c) (some (.int .i64 1)) none none = some (.slice a n b) ∧ (0 < n → a = some ⟨i, 1, none⟩) := by
  by_cases h : 1 < c
  · exact ⟨some ⟨i, 1, none⟩, c - 1, by rw [D.sl24f (by decide) (by omega) (by omega)]; simp, fun _ => rfl⟩
  · obtain rfl : n = 0 := by omega
    obtain rfl : c = 1 := by omega
    exact ⟨some ⟨i, 0, some 0⟩, 0, by simp [sliceA, D.u24, D.s9, boundsA, boundA], fun h => absurd h (by omega)⟩
theorem ops_read (op : Int) {cs : List Value} (h : cs = opsV op) (i : Nat) (hi : i < 3) : readA (.cells cs) i none = some (.int .i64 ((operands op).getD i 0)) := by
  subst h
  have hl := ops_len op
  unfold opsV
  show (((operands op ++ [0, 0, 0]).take 3).map (Value.int .i64 ·))[i]? = _
  rw [List.getElem?_map, List.getElem?_take_of_lt hi]
  by_cases h : i < (operands op).length
  · rw [List.getElem?_append_left h, List.getD_eq_getElem?_getD, List.getElem?_eq_getElem h]; rfl
  · rw [List.getElem?_append_right (by omega), List.getD_eq_getElem?_getD, List.getElem?_eq_none (by omega : (operands op).length ≤ i)]
    obtain h | h | h : i - (operands op).length = 0 ∨ i - (operands op).length = 1 ∨ i - (operands op).length = 2 := by omega
    all_goals rw [h]; rfl
theorem ops_z (op : Int) (i : Nat) : (operands op).getD i 0 = 0 ↔ (operands op).length ≤ i := by
  rw [List.getD_eq_getElem?_getD]
  constructor
  · intro h
    by_cases hi : i < (operands op).length
    · rw [List.getElem?_eq_getElem hi] at h
      exact absurd h (ops_pos op _ (List.getElem_mem hi))
    · omega
  · intro h; rw [List.getElem?_eq_none h]; rfl
theorem ops_cells (op : Int) : ∃ a b c : Int, opsV op = [.int .i64 a, .int .i64 b, .int .i64 c] := by
  unfold opsV
  have hl := ops_len op
  cases h : operands op with
  | nil => exact ⟨_, _, _, rfl⟩
  | cons a l => cases l with
    | nil => exact ⟨_, _, _, rfl⟩
    | cons b l => cases l with
      | nil => exact ⟨_, _, _, rfl⟩
      | cons c l => exact ⟨_, _, _, rfl⟩
theorem ins_bad {st : St} {op : Nat} {ws : List Bytes} {n : Int} (h0 : op ≠ 0) (h1 : ws.length ≠ (operands op).length) (h2 : ws.length ≠ (operands op).length + 1 ∨ (ws.getLast?.bind (·.head?)) ≠ some 33) : insLine st op ws n = .error (bad n) := by
  unfold insLine; rw [if_neg h0, if_pos ⟨h1, h2⟩]
def insCond (op : Nat) (ws : List Bytes) : Prop := ¬ (ws.length ≠ (operands op).length ∧ (ws.length ≠ (operands op).length + 1 ∨ (ws.getLast?.bind (·.head?)) ≠ some 33))
theorem ins_err {st : St} {op : Nat} {ws : List Bytes} {n : Int} {er : Er} (h0 : op ≠ 0) (h1 : insCond op ws) (h : operandsOf st.l.length n { Ins.zero with op := op } st.wants (operands op) ws = .error er) : insLine st op ws n = .error er := by
  unfold insLine; rw [if_neg h0, if_neg h1, h]; rfl
theorem ins_ok {st : St} {op : Nat} {ws : List Bytes} {n : Int} {x : Ins} {w : List Want} (h0 : op ≠ 0) (h1 : insCond op ws) (h : operandsOf st.l.length n { Ins.zero with op := op } st.wants (operands op) ws = .ok (x, w)) (hl : ¬ (operands op).length < ws.length) : insLine st op ws n = .ok { st with l := st.l ++ [x], wants := w } := by
  unfold insLine; rw [if_neg h0, if_neg h1, h]; simp only [hl, if_false]; rfl
theorem ins_mark {st : St} {op : Nat} {ws : List Bytes} {n : Int} {x : Ins} {w : List Want} (h0 : op ≠ 0) (h1 : insCond op ws) (h : operandsOf st.l.length n { Ins.zero with op := op } st.wants (operands op) ws = .ok (x, w)) (hl : (operands op).length < ws.length) {m : Bytes} (hm : ws.getLast? = some m) : insLine st op ws n = (AsmM.mark x m n).bind fun y => .ok { st with l := st.l ++ [y], wants := w } := by
  unfold insLine; rw [if_neg h0, if_neg h1, h, hm]; simp only [hl, if_true]; rfl
theorem ops_step {a l : Int} {x : Ins} {ws : List Want} (ks : List Int) (wr : List ByteArray) (i : Nat) (h : i < ks.length) (h' : i < wr.length) : operandsOf a l x ws (ks.drop i) ((wr.map (·.data.toList)).drop i) = (operand x (ks.getD i 0) (wr.getD i default).data.toList l).bind fun p => operandsOf a l p.1 (if p.2 then ws ++ [⟨a, l, (wr.getD i default).data.toList⟩] else ws) (ks.drop (i + 1)) ((wr.map (·.data.toList)).drop (i + 1)) := by
  rw [List.drop_eq_getElem_cons h, List.drop_eq_getElem_cons (l := wr.map _) (by simpa using h'), List.getD_eq_getElem?_getD, List.getD_eq_getElem?_getD, List.getElem?_eq_getElem h, List.getElem?_eq_getElem h', List.getElem_map]
  rfl
theorem ops_end {a l : Int} {x : Ins} {ws : List Want} (ks : List Int) (ss : List Bytes) (i : Nat) (h : ¬ i < ks.length) : operandsOf a l x ws (ks.drop i) ss = .ok (x, ws) := by
  rw [List.drop_eq_nil_of_le (by omega)]; cases ss <;> rfl
theorem last_at (wr : List ByteArray) (i : Nat) (h : wr.length = i + 1) : (wr.map (·.data.toList)).getLast? = some (wr.getD i default).data.toList := by
  rw [List.getLast?_map, List.getLast?_eq_getElem?, h, Nat.add_sub_cancel, List.getD_eq_getElem?_getD, List.getElem?_eq_getElem (by omega)]; rfl
theorem read_encI (x : Ins) : readA (.cells (encI x)) 0 (some 7) = some (.agg #[.int .i64 x.op, .int .i64 x.a, .int .i64 x.b, .int .i64 x.c, .int .u64 x.v, .int .i64 x.m, .int .i64 x.w]) := rfl
theorem line21_ins (r mp : Nat) (s : ByteArray) (line_ : Int) (hs : s.size ≤ 1000000) (H : AHeap) (st : St) (o1 o2 o3 o4 : Option Nat) (hR : RdR H r st st.labels mp o1 o2 o3 o4) (hl1 : st.wants.length ≤ 900000) (hl2 : st.l.length ≤ 900000) (hl3 : st.labels.length ≤ 900000) (hl4 : st.lines.length ≤ 900000) (hC : ∀ w ws, words s.data.toList = w :: ws → ¬ (ws = [] ∧ w.getLast? = some 58)) (hC2 : words s.data.toList ≠ []) (K : Value → AHeap → Prop)
    (hok : ∀ H' st' p1 p2 p3 p4, line st s.data.toList line_ = .ok st' → RdR H' r st' st'.labels mp p1 p2 p3 p4 → (∀ j, FR r mp p1 p2 p3 p4 j → FR r mp o1 o2 o3 o4 j ∨ H j = .none) → Chg (FR r mp o1 o2 o3 o4) H H' → K .nilIface H')
    (herr : ∀ H' e er, line st s.data.toList line_ = .error er → ErrR H' e er → Chg (FR r mp o1 o2 o3 o4) H H' → K e H') : ACalls Tryd.prog 21 #[.pointer (some ⟨r, 0, none⟩), .string s, .int .i64 line_] H K := by
  replace hok := Hd.mk hok
  replace herr := Hd.mk herr
  refine w_enter (args := [.pointer (some ⟨r, 0, none⟩), .string s, .int .i64 line_]) Tryd.func21 rfl (by kernel_rfl) D.mixed (by kernel_rfl) (rs := [.tmp 6]) rfl ?_
  repeat' (first
    | (simp (disch := first | omega | assumption) only [go_sem, ↓reduceIte, Nat.reduceEqDiff, reduceCtorEq, Nat.reduceAdd, Nat.reduceMul, Int.reduceToNat, Nat.reduceShiftRight, Nat.reduceAnd, Nat.reduceBNe, Nat.reduceBneDiff, Nat.reduceLT, Nat.reduceLeDiff, Int.reduceLT, Int.reduceLE, Int.reduceEq, Int.reduceAdd, Int.reduceSub, *])
    | (refine br_prop (fun hb => ?_) (fun hb => ?_) <;> try (exfalso; omega))
    | refine br_not ?_
    | (refine by_prop (fun hb => ?_) (fun hb => ?_) <;> try (exfalso; omega))
    | (refine by_prop' (fun hb => ?_) (fun hb => ?_) <;> try (exfalso; omega))
    | refine by_not ?_
    | refine w_drawn (by kernel_rfl) ?_
    | refine new_i' (by rfl) (fun j hj hn => ?_)
    | refine new_i (fun j hn => ?_)
    | refine br_bool (fun hb => ?_) (fun hb => ?_)
    | refine by_bool (fun hb => ?_) (fun hb => ?_)
    | refine by_bool' (fun hb => ?_) (fun hb => ?_))
  refine call_i (words34 s hs _ _ fun v H1 ls hg hsl hw => ?_)
  obtain ⟨wo, hsl, hwo⟩ := hsl
  have R1 : RdR H1 r st st.labels mp o1 o2 o3 o4 := hR.chg (hg.chg (fun _ => False)) (fun _ _ h => h)
  cases ls with
  | nil => exact absurd hw.symm hC2
  | cons w0 wr =>
    cases wo with
    | none => obtain ⟨_, h, _⟩ := hsl; simp at h
    | some wi =>
      have hwi := hwo wi rfl
      clear hwo
      obtain ⟨c, ds, rfl, hW, hc1, hc2, hc3⟩ := hsl
      have hne : w0.data.toList ≠ [] := words_ne s.data.toList _ (by rw [← hw]; simp)
      have h1s : 1 ≤ w0.size := by
        rcases Nat.eq_zero_or_pos w0.size with h | h
        · exact absurd (List.length_eq_zero_iff.1 (by simpa using h)) hne
        · exact h
      have h2s : w0.size ≤ 1000000 := by
        have := words_len s.data.toList w0.data.toList (by rw [← hw]; simp)
        simp at this; omega
      rw [List.map_cons, List.cons_append] at hW
      have hlab : ¬ (wr = [] ∧ (getB w0 (w0.size - 1)).toNat = 58) := fun ⟨h, h'⟩ => hC _ _ hw.symm ⟨by rw [h]; rfl, (last_eq w0 h1s).2 h'⟩
      have hline : line st s.data.toList line_ = insLine st (opOf w0.data.toList) (wr.map (·.data.toList)) line_ := by
        unfold line
        rw [← hw]
        simp only [List.map_cons]
        rw [if_neg (hC _ _ (by rw [← hw]; rfl))]
        rfl
      have hws : ∀ w ∈ wr, 1 ≤ w.size ∧ w.size ≤ 1000000 := by
        intro w hm
        have hm' : w.data.toList ∈ words s.data.toList := by rw [← hw]; simp; exact .inr ⟨w, hm, rfl⟩
        have h1 := words_ne s.data.toList _ hm'
        have h2 := words_len s.data.toList _ hm'
        simp only [Array.length_toList, ByteArray.size_data] at h2
        refine ⟨?_, by omega⟩
        rcases Nat.eq_zero_or_pos w.size with h | h
        · exact absurd (List.length_eq_zero_iff.1 (by simpa using h)) h1
        · exact h
      have hgd : ∀ i, i < wr.length → wr.getD i default ∈ wr := fun i h => by
        rw [List.getD_eq_getElem?_getD, List.getElem?_eq_getElem h]; exact List.getElem_mem h
      have hix0 : ∀ i, i < wr.length → indexA Tryd.prog 9 (.string (wr.getD i default)) (.int .i64 0) = some (.int .u8 (getB (wr.getD i default) 0).toNat) := fun i h => idx_string D.u9 (by decide) (by have := hws _ (hgd i h); omega)
      have hlast : ∀ i, wr.length = i + 1 → (((wr.map (·.data.toList)).getLast?.bind (·.head?)) = some 33 ↔ (getB (wr.getD i default) 0).toNat = 33) := by
        intro i hi
        rw [List.getLast?_map, List.getLast?_eq_getElem?, hi, Nat.add_sub_cancel, List.getD_eq_getElem?_getD]
        have h := hws _ (hgd i (by omega))
        rw [List.getD_eq_getElem?_getD] at h
        cases hg : wr[i]? with
        | none => simp at hg; omega
        | some w =>
          rw [hg] at h
          simp only [Option.map_some, Option.bind_some, Option.getD_some] at h ⊢
          rw [head_of w h.1]
          constructor
          · intro h; injection h with h; rw [h]; rfl
          · intro h; congr 1; exact UInt8.toNat_inj.1 h
      have hws2 : Hd (∀ w ∈ wr, 1 ≤ w.size ∧ w.size ≤ 1000000) := ⟨hws⟩
      have hgd2 := Hd.mk hgd
      have hlast2 := Hd.mk hlast
      clear hw hne hC hC2 hws hgd hlast
      replace hlab : ¬ ((wr.length + 1 : Nat) : Int) = 1 ∨ ¬ ((getB w0 (w0.size - 1)).toNat : Int) = 58 := by
        cases wr with
        | nil => exact .inr fun h => hlab ⟨rfl, by omega⟩
        | cons => exact .inl (by simp only [List.length_cons]; omega)
      obtain ⟨sa, sb, hsl, hsa⟩ := sl24_1 wi wr.length c (by simpa using hc3)
      repeat' (first
        | (simp (disch := first | omega | assumption) only [go_sem, ↓reduceIte, Nat.reduceEqDiff, reduceCtorEq, Nat.reduceAdd, Nat.reduceMul, Int.reduceToNat, Nat.reduceShiftRight, Nat.reduceAnd, Nat.reduceBNe, Nat.reduceBneDiff, Nat.reduceLT, Nat.reduceLeDiff, Int.reduceLT, Int.reduceLE, Int.reduceEq, Int.reduceAdd, Int.reduceSub, *])
        | (refine br_prop (fun hb => ?_) (fun hb => ?_) <;> try (exfalso; omega))
        | refine br_not ?_
        | (refine by_prop (fun hb => ?_) (fun hb => ?_) <;> try (exfalso; omega))
        | (refine by_prop' (fun hb => ?_) (fun hb => ?_) <;> try (exfalso; omega))
        | refine by_not ?_
        | refine w_drawn (by kernel_rfl) ?_
        | refine new_i' (by rfl) (fun j hj hn => ?_)
        | refine new_i (fun j hn => ?_)
        | refine br_bool (fun hb => ?_) (fun hb => ?_)
        | refine by_bool (fun hb => ?_) (fun hb => ?_)
        | refine by_bool' (fun hb => ?_) (fun hb => ?_))
      all_goals
        clear hlab
        refine call_i (op36 _ _ _ ?_)
        generalize opOf w0.data.toList = op at *
        repeat' (first
          | (simp (disch := first | omega | assumption) only [go_sem, ↓reduceIte, Nat.reduceEqDiff, reduceCtorEq, Nat.reduceAdd, Nat.reduceMul, Int.reduceToNat, Nat.reduceShiftRight, Nat.reduceAnd, Nat.reduceBNe, Nat.reduceBneDiff, Nat.reduceLT, Nat.reduceLeDiff, Int.reduceLT, Int.reduceLE, Int.reduceEq, Int.reduceAdd, Int.reduceSub, *])
          | (refine br_prop (fun hb => ?_) (fun hb => ?_) <;> try (exfalso; omega))
          | refine br_not ?_
          | (refine by_prop (fun hb => ?_) (fun hb => ?_) <;> try (exfalso; omega))
          | (refine by_prop' (fun hb => ?_) (fun hb => ?_) <;> try (exfalso; omega))
          | refine by_not ?_
          | refine w_drawn (by kernel_rfl) ?_
          | refine new_i' (by rfl) (fun j hj hn => ?_)
          | refine new_i (fun j hn => ?_)
          | refine br_bool (fun hb => ?_) (fun hb => ?_)
          | refine by_bool (fun hb => ?_) (fun hb => ?_)
          | refine by_bool' (fun hb => ?_) (fun hb => ?_))
        · refine call_i (afail_go _ _ _ _ (.refl _) _ fun H' e hg2 he => ?_)
          repeat' (first
            | (simp (disch := first | omega | assumption) only [go_sem, ↓reduceIte, Nat.reduceEqDiff, reduceCtorEq, Nat.reduceAdd, Nat.reduceMul, Int.reduceToNat, Nat.reduceShiftRight, Nat.reduceAnd, Nat.reduceBNe, Nat.reduceBneDiff, Nat.reduceLT, Nat.reduceLeDiff, Int.reduceLT, Int.reduceLE, Int.reduceEq, Int.reduceAdd, Int.reduceSub, true_and])
            | (refine br_prop (fun hb => ?_) (fun hb => ?_) <;> try (exfalso; omega))
            | refine br_not ?_
            | (refine by_prop (fun hb => ?_) (fun hb => ?_) <;> try (exfalso; omega))
            | (refine by_prop' (fun hb => ?_) (fun hb => ?_) <;> try (exfalso; omega))
            | refine by_not ?_
            | refine w_drawn (by kernel_rfl) ?_
            | refine new_i' (by rfl) (fun j hj hn => ?_)
            | refine new_i (fun j hn => ?_)
            | refine br_bool (fun hb => ?_) (fun hb => ?_)
            | refine by_bool (fun hb => ?_) (fun hb => ?_)
            | refine by_bool' (fun hb => ?_) (fun hb => ?_))
          exact herr.go _ _ _ (by rw [hline]; unfold insLine; rw [if_pos (by omega)]; rfl) he ((((hg.chg _).new _ hn).trans (hg2.chg (fun _ => False))) (fun _ h => h.elim))
        revert j; intro q hqn
        refine call_i (operands27 _ _ _ fun H2 hg2 => ?_)
        obtain ⟨k0, k1, k2, hok0⟩ := ops_cells op
        have hlr := ops_read op hok0.symm
        rw [hok0]
        repeat' (first
          | (simp (disch := first | omega | assumption) only [go_sem, ↓reduceIte, Nat.reduceEqDiff, reduceCtorEq, Nat.reduceAdd, Nat.reduceMul, Int.reduceToNat, Nat.reduceShiftRight, Nat.reduceAnd, Nat.reduceBNe, Nat.reduceBneDiff, Nat.reduceLT, Nat.reduceLeDiff, Int.reduceLT, Int.reduceLE, Int.reduceEq, Int.reduceAdd, Int.reduceSub, *])
          | (refine br_prop (fun hb => ?_) (fun hb => ?_) <;> try (exfalso; omega))
          | refine br_not ?_
          | (refine by_prop (fun hb => ?_) (fun hb => ?_) <;> try (exfalso; omega))
          | (refine by_prop' (fun hb => ?_) (fun hb => ?_) <;> try (exfalso; omega))
          | refine by_not ?_
          | refine w_drawn (by kernel_rfl) ?_
          | refine new_i' (by rfl) (fun j hj hn => ?_)
          | refine new_i (fun j hn => ?_)
          | refine br_bool (fun hb => ?_) (fun hb => ?_)
          | refine by_bool (fun hb => ?_) (fun hb => ?_)
          | refine by_bool' (fun hb => ?_) (fun hb => ?_))
        revert j; intro l0 hln
        have hq2 := (hg2 q (by rw [AHeap.set_same]; simp)).trans (AHeap.set_same _ _ _)
        have hW2 : H2 wi = _ := (hg2 wi (by rw [set_new hqn (by rw [hW]; rfl), hW]; simp)).trans ((set_new hqn (by rw [hW]; rfl)).trans hW)
        have R2 : RdR H2 r st st.labels mp o1 o2 o3 o4 := (R1.new _ hqn).chg (hg2.chg (fun _ => False)) (fun _ _ h => h)
        have C2 : Chg (FR r mp o1 o2 o3 o4) H H2 := ((hg.chg _).new _ hqn).trans (hg2.chg (fun _ => False)) (fun _ h => h.elim)
        have hW3 : (H2.set l0 (.cells [.int .i64 k0, .int .i64 k1, .int .i64 k2])) wi = _ := (set_new hln (by rw [hW2]; rfl)).trans hW2
        have hq3 : (H2.set l0 (.cells [.int .i64 k0, .int .i64 k1, .int .i64 k2])) q = .cells (encI { Ins.zero with op := op }) := (set_new hln (by rw [hq2]; rfl)).trans hq2
        have R3 : RdR (H2.set l0 (.cells [.int .i64 k0, .int .i64 k1, .int .i64 k2])) r st st.labels mp o1 o2 o3 o4 := R2.new _ hln
        have C3 : Chg (FR r mp o1 o2 o3 o4) H (H2.set l0 (.cells [.int .i64 k0, .int .i64 k1, .int .i64 k2])) := C2.new _ hln
        have hl3 : (H2.set l0 (.cells [.int .i64 k0, .int .i64 k1, .int .i64 k2])) l0 = .cells [.int .i64 k0, .int .i64 k1, .int .i64 k2] := AHeap.set_same _ _ _
        have hql : q ≠ l0 := fun e => by rw [e, hln] at hq2; cases hq2
        have hwl : wi ≠ l0 := fun e => by rw [e, hln] at hW2; cases hW2
        have hqw : q ≠ wi := fun e => by rw [e, hW] at hqn; cases hqn
        have hqH : H q = .none := hg.none hqn
        have hqF : ¬ FR r mp o1 o2 o3 o4 q := fun h => R1.some_ne q h hqn
        have hlF : ¬ FR r mp o1 o2 o3 o4 l0 := fun h => R2.some_ne l0 h hln
        have hwF : ¬ FR r mp o1 o2 o3 o4 wi := fun h => hR.some_ne wi h hwi
        have hln3 : (H2.set l0 (.cells [.int .i64 k0, .int .i64 k1, .int .i64 k2])) l0 ≠ .none := by rw [hl3]; simp
        have hwn3 : (H2.set l0 (.cells [.int .i64 k0, .int .i64 k1, .int .i64 k2])) wi ≠ .none := by rw [hW3]; simp
        have hwr : ∀ k, k < wr.length → readA ((H2.set l0 (.cells [.int .i64 k0, .int .i64 k1, .int .i64 k2])) wi) (1 + k) none = some (.string (wr.getD k default)) := by
          intro k hk
          rw [hW3]
          show (Value.string w0 :: (List.map Value.string wr ++ ds))[1 + k]? = _
          rw [Nat.add_comm, List.getElem?_cons_succ, List.getElem?_append_left (by simpa using hk), List.getElem?_map, List.getElem?_eq_getElem hk, List.getD_eq_getElem?_getD, List.getElem?_eq_getElem hk]; rfl
        rw [← hl3] at hlr
        have hix : ∀ i : Int, 0 ≤ i → i < wr.length → indexAddrA Tryd.prog 24 (.slice sa wr.length sb) (.int .i64 i) = some (.pointer (some ⟨wi, 1 + i.toNat, none⟩)) := by
          intro i h0 h1
          rw [hsa (by omega), D.ix24 h0 h1, Nat.mul_one]
        generalize H2.set l0 (.cells [.int .i64 k0, .int .i64 k1, .int .i64 k2]) = H3 at *
        clear hq2 hW2 R2 C2 hg2 hqn hln hW hg hsl hR R1 hl3 hW3 hc1 hc2 hc3 hok0 hsa
        have hz := ops_z op
        have hN := ops_len op
        refine W.loopF 21756803835007503007689513962668680028160 (fun n e Hc => Hc = H3 ∧ ∃ i : Nat, e 13 = .int .i64 i ∧ i ≤ (operands op).length ∧ n = (operands op).length - i) (operands op).length (by kernel_rfl) ?_ ?_
        · exact ⟨rfl, 0, by simp (disch := first | omega | assumption) only [go_sem, ↓reduceIte, Nat.reduceEqDiff, reduceCtorEq, Nat.reduceAdd, Nat.reduceMul, Int.reduceToNat, Nat.reduceShiftRight, Nat.reduceAnd, Nat.reduceBNe, Nat.reduceBneDiff, Nat.reduceLT, Nat.reduceLeDiff, Int.reduceLT, Int.reduceLE, Int.reduceEq, Int.reduceAdd, Int.reduceSub, *], by omega, by omega⟩
        rintro n e13 Hc J hJ ⟨hHc, i, he13, h0, rfl⟩
        replace hHc := hHc.symm
        subst hHc
        repeat' (first
          | (simp (disch := first | omega | assumption) only [go_sem, ↓reduceIte, Nat.reduceEqDiff, reduceCtorEq, Nat.reduceAdd, Nat.reduceMul, Int.reduceToNat, Nat.reduceShiftRight, Nat.reduceAnd, Nat.reduceBNe, Nat.reduceBneDiff, Nat.reduceLT, Nat.reduceLeDiff, Int.reduceLT, Int.reduceLE, Int.reduceEq, Int.reduceAdd, Int.reduceSub, *])
          | (refine br_prop (fun hb => ?_) (fun hb => ?_) <;> try (exfalso; omega))
          | refine br_not ?_
          | (refine by_prop (fun hb => ?_) (fun hb => ?_) <;> try (exfalso; omega))
          | (refine by_prop' (fun hb => ?_) (fun hb => ?_) <;> try (exfalso; omega))
          | refine by_not ?_
          | refine w_drawn (by kernel_rfl) ?_
          | refine new_i' (by rfl) (fun j hj hn => ?_)
          | refine new_i (fun j hn => ?_)
          | refine br_bool (fun hb => ?_) (fun hb => ?_)
          | refine by_bool (fun hb => ?_) (fun hb => ?_)
          | refine by_bool' (fun hb => ?_) (fun hb => ?_))
        all_goals first
          | exact inv_i (hJ.go _ _ ⟨_, by omega, rfl, i + 1, rfl, by omega, rfl⟩)
          | (refine call_i (afail_go _ _ _ _ (.refl _) _ fun H' e hg2 he => ?_)
             repeat' (first
               | (simp (disch := first | omega | assumption) only [go_sem, ↓reduceIte, Nat.reduceEqDiff, reduceCtorEq, Nat.reduceAdd, Nat.reduceMul, Int.reduceToNat, Nat.reduceShiftRight, Nat.reduceAnd, Nat.reduceBNe, Nat.reduceBneDiff, Nat.reduceLT, Nat.reduceLeDiff, Int.reduceLT, Int.reduceLE, Int.reduceEq, Int.reduceAdd, Int.reduceSub, true_and])
               | (refine br_prop (fun hb => ?_) (fun hb => ?_) <;> try (exfalso; omega))
               | refine br_not ?_
               | (refine by_prop (fun hb => ?_) (fun hb => ?_) <;> try (exfalso; omega))
               | (refine by_prop' (fun hb => ?_) (fun hb => ?_) <;> try (exfalso; omega))
               | refine by_not ?_
               | refine w_drawn (by kernel_rfl) ?_
               | refine new_i' (by rfl) (fun j hj hn => ?_)
               | refine new_i (fun j hn => ?_)
               | refine br_bool (fun hb => ?_) (fun hb => ?_)
               | refine by_bool (fun hb => ?_) (fun hb => ?_)
               | refine by_bool' (fun hb => ?_) (fun hb => ?_))
             refine herr.go _ _ _ (by rw [hline]; exact ins_bad (by omega) (by simp only [List.length_map]; omega) (by rw [List.length_map]; first | (left; omega) | exact .inr fun h => by have := (hlast2.go i (by omega)).1 h; omega)) he (C3.trans (hg2.chg (fun _ => False)) (fun _ h => h.elim)))
          | skip
        all_goals
          have hi : i = (operands op).length := by omega
          subst hi
          have hcond : Hd (insCond op (wr.map (·.data.toList))) := ⟨fun h => by
            rw [List.length_map] at h
            first | omega | (rcases h with ⟨_, h | h⟩ <;> first | omega | exact h ((hlast2.go (operands op).length (by omega)).2 (by omega)))⟩
          have hle : (operands op).length ≤ wr.length := by omega
          clear hJ h0
          refine W.loopF 23945060138324847048984396838619491458665341792600128 (fun n e Hc => ∃ (i : Nat) (x : Ins) (ws : List Want) (p4 : Option Nat), e 157 = .int .i64 i ∧ i ≤ (operands op).length ∧ n = (operands op).length - i ∧ RdR Hc r { st with wants := ws } st.labels mp o1 o2 o3 p4 ∧ (∀ j, FR r mp o1 o2 o3 p4 j → FR r mp o1 o2 o3 o4 j ∨ H j = .none) ∧ ¬ FR r mp o1 o2 o3 p4 q ∧ ¬ FR r mp o1 o2 o3 p4 l0 ∧ ¬ FR r mp o1 o2 o3 p4 wi ∧ Hc q = .cells (encI x) ∧ Chg (FR r mp o1 o2 o3 o4) H Hc ∧ Hc l0 = H3 l0 ∧ Hc wi = H3 wi ∧ ws.length ≤ 900000 + i ∧ operandsOf st.l.length line_ { Ins.zero with op := op } st.wants (operands op) (wr.map (·.data.toList)) = operandsOf st.l.length line_ x ws ((operands op).drop i) ((wr.map (·.data.toList)).drop i)) (operands op).length (by kernel_rfl) ?_ ?_
          · exact ⟨0, _, st.wants, o4, by simp (disch := first | omega | assumption) only [go_sem, ↓reduceIte, Nat.reduceEqDiff, reduceCtorEq, Nat.reduceAdd, Nat.reduceMul, Int.reduceToNat, Nat.reduceShiftRight, Nat.reduceAnd, Nat.reduceBNe, Nat.reduceBneDiff, Nat.reduceLT, Nat.reduceLeDiff, Int.reduceLT, Int.reduceLE, Int.reduceEq, Int.reduceAdd, Int.reduceSub, *], by omega, by omega, R3, fun j h => .inl h, hqF, hlF, hwF, hq3, C3, rfl, rfl, by omega, rfl⟩
          rintro n e Hc J hJ ⟨i, x, ws, p4, e157, h0, rfl, R5, N5, hq5, hl5, hw5, Hq5, C5, Hl5, Hw5, hl6, hM⟩
          replace hM := Hd.mk hM
          clear R3 hqF hlF hwF hq3 C3
          repeat' (first
            | (simp (disch := first | omega | assumption) only [go_sem, ↓reduceIte, Nat.reduceEqDiff, reduceCtorEq, Nat.reduceAdd, Nat.reduceMul, Int.reduceToNat, Nat.reduceShiftRight, Nat.reduceAnd, Nat.reduceBNe, Nat.reduceBneDiff, Nat.reduceLT, Nat.reduceLeDiff, Int.reduceLT, Int.reduceLE, Int.reduceEq, Int.reduceAdd, Int.reduceSub, *])
            | (refine br_prop (fun hb => ?_) (fun hb => ?_) <;> try (exfalso; omega))
            | refine br_not ?_
            | (refine by_prop (fun hb => ?_) (fun hb => ?_) <;> try (exfalso; omega))
            | (refine by_prop' (fun hb => ?_) (fun hb => ?_) <;> try (exfalso; omega))
            | refine by_not ?_
            | refine w_drawn (by kernel_rfl) ?_
            | refine new_i' (by rfl) (fun j hj hn => ?_)
            | refine new_i (fun j hn => ?_)
            | refine br_bool (fun hb => ?_) (fun hb => ?_)
            | refine by_bool (fun hb => ?_) (fun hb => ?_)
            | refine by_bool' (fun hb => ?_) (fun hb => ?_))
        all_goals first
          | (refine call_i (operand37 r q mp x ((operands op).getD i 0) (wr.getD i default) line_ (hws2.go _ (hgd2.go i (by omega))).2 Hc { st with wants := ws } st.labels o1 o2 o3 p4 R5 Hq5 hq5 (by simp only; omega) (by simp only; omega) _ (fun H' y w hv hR' hy' hc' => ?_) (fun H' e er hv he hc' => ?_)))
          | (refine call_i (mark38 q x (wr.getD (operands op).length default) line_ (hws2.go _ (hgd2.go _ (by omega))).1 (hws2.go _ (hgd2.go _ (by omega))).2 Hc Hq5 _ (fun H' y hv hy' hc' => ?_) (fun H' e er hv he hc' => ?_)))
          | skip
        all_goals try obtain ⟨_, rfl⟩ := he.ptr
        all_goals try obtain ⟨o5, hR6, hn6⟩ := hR'
        all_goals
          repeat' (first
            | (simp (disch := first | omega | assumption) only [go_sem, ↓reduceIte, Nat.reduceEqDiff, reduceCtorEq, Nat.reduceAdd, Nat.reduceMul, Int.reduceToNat, Nat.reduceShiftRight, Nat.reduceAnd, Nat.reduceBNe, Nat.reduceBneDiff, Nat.reduceLT, Nat.reduceLeDiff, Int.reduceLT, Int.reduceLE, Int.reduceEq, Int.reduceAdd, Int.reduceSub, *])
            | (refine br_prop (fun hb => ?_) (fun hb => ?_) <;> try (exfalso; omega))
            | refine br_not ?_
            | (refine by_prop (fun hb => ?_) (fun hb => ?_) <;> try (exfalso; omega))
            | (refine by_prop' (fun hb => ?_) (fun hb => ?_) <;> try (exfalso; omega))
            | refine by_not ?_
            | refine w_drawn (by kernel_rfl) ?_
            | refine new_i' (by rfl) (fun j hj hn => ?_)
            | refine new_i (fun j hn => ?_)
            | refine br_bool (fun hb => ?_) (fun hb => ?_)
            | refine by_bool (fun hb => ?_) (fun hb => ?_)
            | refine by_bool' (fun hb => ?_) (fun hb => ?_))
        all_goals first
          | (refine inv_i (hJ.go _ _ ⟨_, by omega, i + 1, y, (if w then ws ++ [⟨st.l.length, line_, (wr.getD i default).data.toList⟩] else ws), o5, rfl, by omega, rfl, by cases w <;> exact hR6, ?_, ?_, ?_, ?_, hy', ?_, ?_, ?_, ?_, ?_⟩)
             · exact fun j hj => (hn6 j hj).elim (N5 j) C5.none
             · exact fun h => (hn6 q h).elim hq5 (by rw [Hq5]; simp)
             · exact fun h => (hn6 l0 h).elim hl5 (by rw [Hl5]; exact hln3)
             · exact fun h => (hn6 wi h).elim hw5 (by rw [Hw5]; exact hwn3)
             · exact C5.trans hc' fun j hj => hj.elim (fun e => .inr (e ▸ hqH)) (N5 j)
             · exact (hc' l0 (by rw [Hl5]; exact hln3) (fun h => h.elim (fun e => hql e.symm) hl5)).trans Hl5
             · exact (hc' wi (by rw [Hw5]; exact hwn3) (fun h => h.elim (fun e => hqw e.symm) hw5)).trans Hw5
             · cases w <;> simp <;> omega
             · rw [hM.go, ops_step _ _ i (by omega) (by omega), hv]; rfl)
          | exact herr.go _ _ _ (by rw [hline]; exact ins_err (by omega) hcond.go (by rw [hM.go, ops_step _ _ i (by omega) (by omega), hv]; rfl)) he (C5.trans hc' fun j hj => hj.elim (fun e => .inr (e ▸ hqH)) (N5 j))
          | exact herr.go _ _ _ (by rw [hline, ins_mark (by omega) hcond.go (by rw [hM.go, ops_end _ _ i (by omega)]) (by rw [List.length_map]; omega) (last_at wr (operands op).length (by omega)), hv]; rfl) he (C5.trans hc' fun j hj => .inr (hj ▸ hqH))
          | skip
        all_goals first
          | (
             have RF : RdR H' r { st with wants := ws } st.labels mp o1 o2 o3 p4 := R5.chg hc' (fun j hj e => hq5 (e ▸ hj))
             have HqF : H' q = .cells (encI y) := hy'
             have CF : Chg (FR r mp o1 o2 o3 o4) H H' := C5.trans hc' fun j hj => .inr (hj ▸ hqH)
             have hlineF : line st s.data.toList line_ = .ok { st with l := st.l ++ [y], wants := ws } := by rw [hline, ins_mark (by omega) hcond.go (by rw [hM.go, ops_end _ _ i (by omega)]) (by rw [List.length_map]; omega) (last_at wr (operands op).length (by omega)), hv]; rfl
             have hrd := read_encI y
             obtain ⟨v1, v2, v3, v4, hr, h1, h2, h3, h4⟩ := RF.obj
             obtain ⟨a1, c1, rfl⟩ := h1.val
             clear Hq5 hy' hq5 hl5 hw5 Hl5 Hw5 hJ hcond hline hM hix hix0 hlr hwr C5 R5
             repeat' (first
               | (simp (disch := first | omega | assumption) only [go_sem, ↓reduceIte, Nat.reduceEqDiff, reduceCtorEq, Nat.reduceAdd, Nat.reduceMul, Int.reduceToNat, Nat.reduceShiftRight, Nat.reduceAnd, Nat.reduceBNe, Nat.reduceBneDiff, Nat.reduceLT, Nat.reduceLeDiff, Int.reduceLT, Int.reduceLE, Int.reduceEq, Int.reduceAdd, Int.reduceSub, *])
               | (refine br_prop (fun hb => ?_) (fun hb => ?_) <;> try (exfalso; omega))
               | refine br_not ?_
               | (refine by_prop (fun hb => ?_) (fun hb => ?_) <;> try (exfalso; omega))
               | (refine by_prop' (fun hb => ?_) (fun hb => ?_) <;> try (exfalso; omega))
               | refine by_not ?_
               | refine w_drawn (by kernel_rfl) ?_
               | refine new_i' (by rfl) (fun j hj hn => ?_)
               | refine new_i (fun j hn => ?_)
               | refine br_bool (fun hb => ?_) (fun hb => ?_)
               | refine by_bool (fun hb => ?_) (fun hb => ?_)
               | refine by_bool' (fun hb => ?_) (fun hb => ?_))
             have RG := RF.new (.cells (encI y)) hn
             have dd := RF.dj.facts
             have hr1 : (H'.set j (.cells (encI y))) r = _ := (set_new hn (by rw [hr]; rfl)).trans hr
             refine app_i (app_go (n := st.l.length) D.e25 (h1.grew (Grew.set (.refl _) _ hn)) (news_one (cs := encI y) D.u25 (AHeap.set_same _ _ _) rfl) rfl (by omega) (by omega) (by omega) fun v' H6 i6 hs6 hf6 hi6 => ?_)
             obtain ⟨a6, c6, rfl⟩ := hs6.val
             have hr6 := (hf6 r (by show (H'.set j (.cells (encI y))) r ≠ _; rw [hr1]; simp) dd.2.1).trans hr1
             clear hr
             repeat' (first
               | (simp (disch := first | omega | assumption) only [go_sem, ↓reduceIte, Nat.reduceEqDiff, reduceCtorEq, Nat.reduceAdd, Nat.reduceMul, Int.reduceToNat, Nat.reduceShiftRight, Nat.reduceAnd, Nat.reduceBNe, Nat.reduceBneDiff, Nat.reduceLT, Nat.reduceLeDiff, Int.reduceLT, Int.reduceLE, Int.reduceEq, Int.reduceAdd, Int.reduceSub, *])
               | (refine br_prop (fun hb => ?_) (fun hb => ?_) <;> try (exfalso; omega))
               | refine br_not ?_
               | (refine by_prop (fun hb => ?_) (fun hb => ?_) <;> try (exfalso; omega))
               | (refine by_prop' (fun hb => ?_) (fun hb => ?_) <;> try (exfalso; omega))
               | refine by_not ?_
               | refine w_drawn (by kernel_rfl) ?_
               | refine new_i' (by rfl) (fun j hj hn => ?_)
               | refine new_i (fun j hn => ?_)
               | refine br_bool (fun hb => ?_) (fun hb => ?_)
               | refine by_bool (fun hb => ?_) (fun hb => ?_)
               | refine by_bool' (fun hb => ?_) (fun hb => ?_))
             obtain ⟨R7, n7⟩ := RG.ins (w := y) hr1 hs6 hf6 hi6
             refine hok.go _ _ _ _ _ _ hlineF R7 (fun k hk => (n7 k hk).elim (N5 k) (CF.new _ hn).none) ?_
             exact ((CF.new _ hn).app hf6 (fun k hk => by unfold FR; simp [hk])).set _ (.inl (.inl rfl)))
          | (
             have RF : RdR Hc r { st with wants := ws } st.labels mp o1 o2 o3 p4 := R5
             have HqF : Hc q = .cells (encI x) := Hq5
             have CF : Chg (FR r mp o1 o2 o3 o4) H Hc := C5
             have hlineF : line st s.data.toList line_ = .ok { st with l := st.l ++ [x], wants := ws } := by rw [hline, ins_ok (by omega) hcond.go (by rw [hM.go, ops_end _ _ i (by omega)]) (by rw [List.length_map]; omega)]
             have hrd := read_encI x
             obtain ⟨v1, v2, v3, v4, hr, h1, h2, h3, h4⟩ := RF.obj
             obtain ⟨a1, c1, rfl⟩ := h1.val
             clear Hq5 hq5 hl5 hw5 Hl5 Hw5 hJ hcond hline hM hix hix0 hlr hwr C5 R5
             repeat' (first
               | (simp (disch := first | omega | assumption) only [go_sem, ↓reduceIte, Nat.reduceEqDiff, reduceCtorEq, Nat.reduceAdd, Nat.reduceMul, Int.reduceToNat, Nat.reduceShiftRight, Nat.reduceAnd, Nat.reduceBNe, Nat.reduceBneDiff, Nat.reduceLT, Nat.reduceLeDiff, Int.reduceLT, Int.reduceLE, Int.reduceEq, Int.reduceAdd, Int.reduceSub, *])
               | (refine br_prop (fun hb => ?_) (fun hb => ?_) <;> try (exfalso; omega))
               | refine br_not ?_
               | (refine by_prop (fun hb => ?_) (fun hb => ?_) <;> try (exfalso; omega))
               | (refine by_prop' (fun hb => ?_) (fun hb => ?_) <;> try (exfalso; omega))
               | refine by_not ?_
               | refine w_drawn (by kernel_rfl) ?_
               | refine new_i' (by rfl) (fun j hj hn => ?_)
               | refine new_i (fun j hn => ?_)
               | refine br_bool (fun hb => ?_) (fun hb => ?_)
               | refine by_bool (fun hb => ?_) (fun hb => ?_)
               | refine by_bool' (fun hb => ?_) (fun hb => ?_))
             have RG := RF.new (.cells (encI x)) hn
             have dd := RF.dj.facts
             have hr1 : (Hc.set j (.cells (encI x))) r = _ := (set_new hn (by rw [hr]; rfl)).trans hr
             refine app_i (app_go (n := st.l.length) D.e25 (h1.grew (Grew.set (.refl _) _ hn)) (news_one (cs := encI x) D.u25 (AHeap.set_same _ _ _) rfl) rfl (by omega) (by omega) (by omega) fun v' H6 i6 hs6 hf6 hi6 => ?_)
             obtain ⟨a6, c6, rfl⟩ := hs6.val
             have hr6 := (hf6 r (by show (Hc.set j (.cells (encI x))) r ≠ _; rw [hr1]; simp) dd.2.1).trans hr1
             clear hr
             repeat' (first
               | (simp (disch := first | omega | assumption) only [go_sem, ↓reduceIte, Nat.reduceEqDiff, reduceCtorEq, Nat.reduceAdd, Nat.reduceMul, Int.reduceToNat, Nat.reduceShiftRight, Nat.reduceAnd, Nat.reduceBNe, Nat.reduceBneDiff, Nat.reduceLT, Nat.reduceLeDiff, Int.reduceLT, Int.reduceLE, Int.reduceEq, Int.reduceAdd, Int.reduceSub, *])
               | (refine br_prop (fun hb => ?_) (fun hb => ?_) <;> try (exfalso; omega))
               | refine br_not ?_
               | (refine by_prop (fun hb => ?_) (fun hb => ?_) <;> try (exfalso; omega))
               | (refine by_prop' (fun hb => ?_) (fun hb => ?_) <;> try (exfalso; omega))
               | refine by_not ?_
               | refine w_drawn (by kernel_rfl) ?_
               | refine new_i' (by rfl) (fun j hj hn => ?_)
               | refine new_i (fun j hn => ?_)
               | refine br_bool (fun hb => ?_) (fun hb => ?_)
               | refine by_bool (fun hb => ?_) (fun hb => ?_)
               | refine by_bool' (fun hb => ?_) (fun hb => ?_))
             obtain ⟨R7, n7⟩ := RG.ins (w := x) hr1 hs6 hf6 hi6
             refine hok.go _ _ _ _ _ _ hlineF R7 (fun k hk => (n7 k hk).elim (N5 k) (CF.new _ hn).none) ?_
             exact ((CF.new _ hn).app hf6 (fun k hk => by unfold FR; simp [hk])).set _ (.inl (.inl rfl)))
end Go.Proofs
namespace Go.Proofs
set_option linter.unusedSimpArgs false
set_option linter.unusedVariables false
set_option linter.unusedSectionVars false
open Go Go.Ab AsmM
variable [Go.Ab.Start]
set_option maxRecDepth 100000
set_option maxHeartbeats 1000000
theorem line21 (r mp : Nat) (s : ByteArray) (line_ : Int) (hs : s.size ≤ 1000000) (H : AHeap) (st : St) (o1 o2 o3 o4 : Option Nat) (hR : RdR H r st st.labels mp o1 o2 o3 o4) (hl1 : st.wants.length ≤ 900000) (hl2 : st.l.length ≤ 900000) (hl3 : st.labels.length ≤ 900000) (hl4 : st.lines.length ≤ 900000) (K : Value → AHeap → Prop)
    (hok : ∀ H' st' p1 p2 p3 p4, line st s.data.toList line_ = .ok st' → RdR H' r st' st'.labels mp p1 p2 p3 p4 → (∀ j, FR r mp p1 p2 p3 p4 j → FR r mp o1 o2 o3 o4 j ∨ H j = .none) → Chg (FR r mp o1 o2 o3 o4) H H' → K .nilIface H')
    (herr : ∀ H' e er, line st s.data.toList line_ = .error er → ErrR H' e er → Chg (FR r mp o1 o2 o3 o4) H H' → K e H') : ACalls Tryd.prog 21 #[.pointer (some ⟨r, 0, none⟩), .string s, .int .i64 line_] H K := by
  by_cases hC : ∀ w ws, words s.data.toList = w :: ws → ws = [] ∧ w.getLast? = some 58
  · exact line21_lab r mp s line_ hs H st o1 o2 o3 o4 hR hl1 hl2 hl3 hl4 hC K hok herr
  · cases hw : words s.data.toList with
    | nil => exact absurd (fun w ws h => by rw [hw] at h; cases h) hC
    | cons w ws =>
      refine line21_ins r mp s line_ hs H st o1 o2 o3 o4 hR hl1 hl2 hl3 hl4 (fun w' ws' h => ?_) (by rw [hw]; simp) K hok herr
      intro h'
      exact hC fun w2 ws2 h2 => by rw [h] at h2; injection h2 with a b; subst a; subst b; exact h'
end Go.Proofs
