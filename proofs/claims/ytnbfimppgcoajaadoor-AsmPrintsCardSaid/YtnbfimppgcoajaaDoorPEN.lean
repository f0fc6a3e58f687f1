/-
  A part of the proofs: EN EO.
-/
import Derived.Test.YtnbfimppgcoajaaDoorDT
import Derived.Test.YtnbfimppgcoajaaDoorAbS
import Derived.Test.YtnbfimppgcoajaaDoorPA
import Derived.Test.YtnbfimppgcoajaaDoorPD
import Derived.Test.YtnbfimppgcoajaaDoorEM
namespace Go.Proofs
set_option linter.unusedSimpArgs false
set_option linter.unusedVariables false
set_option linter.unusedSectionVars false
open Go Go.Ab AsmM
variable [Go.Ab.Start]
set_option maxRecDepth 100000
set_option maxHeartbeats 1000000
structure StOk (st : St) : Prop where
  ll : st.labels.length = st.lines.length
  la : ∀ p ∈ st.labels, 0 ≤ p.2 ∧ p.2 ≤ st.l.length
  wa : ∀ w ∈ st.wants, 0 ≤ w.ins ∧ w.ins < st.l.length
theorem opsOf_more (a n : Int) : ∀ (ks : List Int) (ss : List Bytes) (x : Ins) (ws : List Want) (y : Ins) (ws' : List Want), operandsOf a n x ws ks ss = .ok (y, ws') → ∃ add, ws' = ws ++ add ∧ add.length ≤ ks.length ∧ ∀ w ∈ add, w.ins = a
  | [], ss, x, ws, y, ws', h => by
    have : operandsOf a n x ws [] ss = .ok (x, ws) := by cases ss <;> rfl
    rw [this] at h; injection h with h; injection h with _ h; subst h; exact ⟨[], by simp, by simp, fun _ h => by cases h⟩
  | k :: ks, [], x, ws, y, ws', h => by
    have h : Except.ok (x, ws) = Except.ok (ε := Er) (y, ws') := h
    injection h with h; injection h with _ h; subst h; exact ⟨[], by simp, by simp, fun _ h => by cases h⟩
  | k :: ks, s :: ss, x, ws, y, ws', h => by
    have h : ((operand x k s n).bind fun p => operandsOf a n p.1 (if p.2 then ws ++ [⟨a, n, s⟩] else ws) ks ss) = .ok (y, ws') := h
    cases ho : operand x k s n with
    | error e => rw [ho] at h; cases h
    | ok p =>
      rw [ho] at h
      obtain ⟨add, h1, h2, h3⟩ := opsOf_more a n ks ss _ _ y ws' h
      cases hp : p.2 with
      | true =>
        rw [hp] at h1
        refine ⟨⟨a, n, s⟩ :: add, by rw [h1]; simp, by simp; omega, fun w hw => ?_⟩
        rcases List.mem_cons.1 hw with rfl | hw
        · rfl
        · exact h3 w hw
      | false =>
        rw [hp] at h1
        exact ⟨add, by rw [h1]; rfl, by simp; omega, h3⟩
theorem line_ok {st st' : St} {s : Bytes} {n : Int} (h : line st s n = .ok st') (hk : StOk st) : StOk st' ∧ st'.l.length ≤ st.l.length + 1 ∧ st'.labels.length ≤ st.labels.length + 1 ∧ st'.lines.length ≤ st.lines.length + 1 ∧ st'.wants.length ≤ st.wants.length + 3 := by
  unfold line at h
  split at h
  · injection h with h; subst h; exact ⟨hk, by omega, by omega, by omega, by omega⟩
  · rename_i w ws _
    split at h
    · simp only at h
      split at h
      · cases h
      · injection h with h; subst h
        refine ⟨⟨by simp [hk.ll], fun p hp => ?_, hk.wa⟩, by simp, by simp, by simp, by simp⟩
        simp only [List.mem_append, List.mem_singleton] at hp
        rcases hp with hp | rfl
        · exact hk.la p hp
        · exact ⟨by omega, Int.le_refl _⟩
    · change insLine st (opOf w) ws n = .ok st' at h
      have h0 : opOf w ≠ 0 := fun e => by unfold insLine at h; rw [if_pos e] at h; cases h
      by_cases hc : insCond (opOf w) ws
      · cases ho : operandsOf st.l.length n { Ins.zero with op := opOf w } st.wants (operands (opOf w)) ws with
        | error er => rw [ins_err h0 hc ho] at h; cases h
        | ok p =>
          obtain ⟨x, wants⟩ := p
          obtain ⟨add, h1, h2, h3⟩ := opsOf_more _ _ _ _ _ _ _ _ ho
          have hl := ops_len (opOf w)
          have done : ∀ y, StOk { st with l := st.l ++ [y], wants := wants } ∧ (st.l ++ [y]).length ≤ st.l.length + 1 ∧ st.labels.length ≤ st.labels.length + 1 ∧ st.lines.length ≤ st.lines.length + 1 ∧ wants.length ≤ st.wants.length + 3 := by
            intro y
            refine ⟨⟨hk.ll, fun p hp => ?_, fun w hw => ?_⟩, by simp, by omega, by omega, by rw [h1, List.length_append]; omega⟩
            · have := hk.la p hp; simp only [List.length_append, List.length_singleton]; omega
            · simp only [List.length_append, List.length_singleton]
              simp only [h1, List.mem_append] at hw
              rcases hw with hw | hw
              · have := hk.wa w hw; omega
              · have := h3 w hw; omega
          by_cases hlt : (operands (opOf w)).length < ws.length
          · cases hl : ws.getLast? with
            | none => have := List.getLast?_eq_none_iff.1 hl; subst this; simp at hlt
            | some m =>
              rw [ins_mark h0 hc ho hlt hl] at h
              cases hm : AsmM.mark x m n with
              | error e => rw [hm] at h; cases h
              | ok y => rw [hm] at h; injection h with h; subst h; exact done y
          · rw [ins_ok h0 hc ho hlt] at h
            injection h with h; subst h; exact done x
      · unfold insLine at h
        rw [if_neg h0, if_pos (Classical.not_not.1 hc)] at h
        cases h
theorem splitNl_len (l : Bytes) : ∀ cur, ∀ x ∈ splitNl cur l, x.length ≤ cur.length + l.length := by
  induction l with
  | nil => intro cur x hx; simp [splitNl] at hx; subst hx; simp
  | cons b l ih =>
    intro cur x hx
    unfold splitNl at hx
    split at hx
    · rcases List.mem_cons.1 hx with rfl | hx
      · simp
      · have := ih [] x hx; simp at this ⊢; omega
    · have := ih _ x hx; simp at this ⊢; omega
theorem splitNl_count (l : Bytes) : ∀ cur, (splitNl cur l).length ≤ l.length + 1 := by
  induction l with
  | nil => intro cur; simp [splitNl]
  | cons b l ih =>
    intro cur
    unfold splitNl
    split
    · have := ih []; simp; omega
    · have := ih (cur ++ [b]); simp; omega
theorem find_idx (labels : List (Bytes × Int)) (nm : Bytes) : find labels nm = (labels.findIdx? (fun p => decide (nm = p.1))).map fun k => (labels.getD k ([], 0)).2 := by
  unfold find
  have e : (fun p : Bytes × Int => decide (p.1 = nm)) = fun p => decide (nm = p.1) := by
    funext p; rw [decide_eq_decide]; exact eq_comm
  rw [e]
  induction labels with
  | nil => rfl
  | cons p ps ih =>
    rw [List.find?_cons, List.findIdx?_cons]
    by_cases h : nm = p.1
    · simp [h]
    · simp only [h, decide_false]
      rw [ih]
      cases ps.findIdx? (fun p => decide (nm = p.1)) <;> rfl
theorem idx_lt {α : Type} {p : α → Bool} {l : List α} {k : Nat} (h : l.findIdx? p = some k) : k < l.length := by
  have := List.findIdx?_eq_some_iff_getElem.1 h
  exact this.1
theorem setV_len (l : List Ins) (i v : Int) : (setV l i v).length = l.length := by unfold setV; simp
theorem setV_flat (v : Int) (ds : List Value) : ∀ (l : List Ins) (k : Nat), k < l.length → (l.flatMap encI ++ ds).set (k * 7 + 4) (.int .u64 v) = (setV l k v).flatMap encI ++ ds
  | [], k, h => by simp at h
  | x :: l, 0, _ => by simp [setV, encI]
  | x :: l, k + 1, h => by
    have ih := setV_flat v ds l k (by simpa using h)
    have e : (k + 1) * 7 + 4 = (encI x).length + (k * 7 + 4) := by rw [encI_len]; omega
    have e2 : setV (x :: l) ((k + 1 : Nat) : Int) v = x :: setV l (k : Int) v := by unfold setV; simp
    rw [List.flatMap_cons, List.append_assoc, e, List.set_append_right _ _ (by omega), Nat.add_sub_cancel_left, ih, e2, List.flatMap_cons, List.append_assoc]
end Go.Proofs
namespace Go.Proofs
set_option linter.unusedSimpArgs false
set_option linter.unusedVariables false
set_option linter.unusedSectionVars false
open Go Go.Ab AsmM
variable [Go.Ab.Start]
set_option maxRecDepth 100000
set_option maxHeartbeats 1000000
/-- Its slices, as a result. -/
def CodeR (H : AHeap) (v : Value) (l : List Ins) (o : Option Nat) : Prop := SL H 7 v l.length (l.flatMap encI) o
theorem StOk.nil : StOk ⟨[], [], [], []⟩ := ⟨rfl, fun _ h => (by cases h), fun _ h => (by cases h)⟩
theorem grew_chg2 {H Hc H' : AHeap} {F : Nat → Prop} (h : Grew H Hc) (hc : Chg F Hc H') (hF : ∀ j, F j → H j = .none) : Grew H H' := fun j hj => by
  have e := h j hj
  rw [hc j (by rw [e]; exact hj) fun hf => hj (hF j hf), e]
theorem runLines_step (ls : List ByteArray) (i : Nat) (st : St) (h : i < ls.length) : runLines ((ls.map (·.data.toList)).drop i) i st = (line st (ls.getD i default).data.toList i).bind fun st' => runLines ((ls.map (·.data.toList)).drop (i + 1)) ((i + 1 : Nat) : Int) st' := by
  rw [List.drop_eq_getElem_cons (l := ls.map _) (by simpa using h), List.getElem_map, List.getD_eq_getElem?_getD, List.getElem?_eq_getElem h]
  rfl
theorem parse10 (s : ByteArray) (H : AHeap) (K : Value → AHeap → Prop)
    (hok : ∀ H' v1 v2 l labels o1 o2, parse s.data.toList = .ok (l, labels) → SL H' 7 v1 l.length (l.flatMap encI) o1 → SL H' 2 v2 labels.length (labels.flatMap encLab) o2 → (∀ i, o1 = some i → H i = .none ∧ o2 ≠ some i) → (∀ i, o2 = some i → H i = .none) → Grew H H' → K (.tuple #[v1, v2, .nilIface]) H')
    (herr : ∀ H' e er, parse s.data.toList = .error er → ErrR H' e er → Grew H H' → K (.tuple #[.slice none 0 0, .slice none 0 0, e]) H') : ACalls Tryd.prog 10 #[.string s] H K := by
  replace hok := Hd.mk hok
  replace herr := Hd.mk herr
  refine w_enter (args := [.string s]) Tryd.func10 rfl (by kernel_rfl) D.mixed (by kernel_rfl) (rs := [.tmp 2, .tmp 3, .tmp 4]) rfl ?_
  repeat' (first
    | (simp (disch := first | omega | assumption) only [go_sem, ↓reduceIte, Nat.reduceEqDiff, reduceCtorEq, Nat.reduceAdd, Nat.reduceMul, Int.reduceToNat, Nat.reduceShiftRight, Nat.reduceAnd, Nat.reduceBNe, Nat.reduceBneDiff, Nat.reduceLT, Nat.reduceLeDiff, Int.reduceLT, Int.reduceLE, Int.reduceEq, Int.reduceAdd, Int.reduceSub, *])
    | (refine br_prop (fun hb => ?_) (fun hb => ?_) <;> try (exfalso; omega))
    | refine br_not ?_
    | (refine by_prop (fun hb => ?_) (fun hb => ?_) <;> try (exfalso; omega))
    | (refine by_prop' (fun hb => ?_) (fun hb => ?_) <;> try (exfalso; omega))
    | refine by_not ?_
    | refine w_drawn (by kernel_rfl) ?_
    | refine new_i' (by rfl) (fun j hj hn => ?_)
    | refine new_i (fun j hn => ?_)
    | refine br_bool (fun hb => ?_) (fun hb => ?_)
    | refine by_bool (fun hb => ?_) (fun hb => ?_)
    | refine by_bool' (fun hb => ?_) (fun hb => ?_))
  · refine call_i (afail_go _ _ _ _ (.refl _) _ fun H' e hg he => ?_)
    repeat' (first
      | (simp (disch := first | omega | assumption) only [go_sem, ↓reduceIte, Nat.reduceEqDiff, reduceCtorEq, Nat.reduceAdd, Nat.reduceMul, Int.reduceToNat, Nat.reduceShiftRight, Nat.reduceAnd, Nat.reduceBNe, Nat.reduceBneDiff, Nat.reduceLT, Nat.reduceLeDiff, Int.reduceLT, Int.reduceLE, Int.reduceEq, Int.reduceAdd, Int.reduceSub, true_and])
      | (refine br_prop (fun hb => ?_) (fun hb => ?_) <;> try (exfalso; omega))
      | refine br_not ?_
      | (refine by_prop (fun hb => ?_) (fun hb => ?_) <;> try (exfalso; omega))
      | (refine by_prop' (fun hb => ?_) (fun hb => ?_) <;> try (exfalso; omega))
      | refine by_not ?_
      | refine w_drawn (by kernel_rfl) ?_
      | refine new_i' (by rfl) (fun j hj hn => ?_)
      | refine new_i (fun j hn => ?_)
      | refine br_bool (fun hb => ?_) (fun hb => ?_)
      | refine by_bool (fun hb => ?_) (fun hb => ?_)
      | refine by_bool' (fun hb => ?_) (fun hb => ?_))
    exact herr.go _ _ _ (by unfold parse; rw [if_pos (by simp; omega)]) he hg
  · rename_i mp hmp
    have hrmp := hj
    have hr := hn
    clear hj hn
    have hr0 : (H.set mp (.map [])) j = .none := by rw [AHeap.set_ne _ _ hrmp]; exact hr
    have R0 : RdR ((H.set mp (.map [])).set j (.cells [.slice none 0 0, .slice none 0 0, .slice none 0 0, .map (some mp), .slice none 0 0])) j ⟨[], [], [], []⟩ [] mp none none none none :=
      ⟨⟨_, _, _, _, AHeap.set_same _ _ _, SL.nil _ _, SL.nil _ _, SL.nil _ _, SL.nil _ _⟩, by rw [AHeap.set_ne _ _ (Ne.symm hrmp), AHeap.set_same]; rfl, Dj.mk ⟨hrmp, by simp⟩⟩
    have G0 : Grew H ((H.set mp (.map [])).set j (.cells [.slice none 0 0, .slice none 0 0, .slice none 0 0, .map (some mp), .slice none 0 0])) := ((Grew.refl _).new _ hmp).new _ hr0
    clear hr0
    generalize (H.set mp (.map [])).set j (.cells [.slice none 0 0, .slice none 0 0, .slice none 0 0, .map (some mp), .slice none 0 0]) = H2 at *
    revert j
    intro r hrmp hr R0
    refine call_i (split20 s _ (by omega) rfl _ _ fun v H1 ls hg hsl hls => ?_)
    obtain ⟨wo, hsl, hwo⟩ := hsl
    have hl0 : 1 ≤ ls.length := by
      have := congrArg List.length hls
      rw [List.length_map] at this
      rw [this, splitNl_cur]; simp
    have hl1 : ls.length ≤ 65537 := by
      have := congrArg List.length hls
      rw [List.length_map] at this
      have h2 := splitNl_count s.data.toList []
      simp at h2; omega
    have hlsz : ∀ k, k < ls.length → (ls.getD k default).size ≤ 1000000 := by
      intro k hk
      have h1 : (ls.getD k default).data.toList ∈ splitNl [] s.data.toList := by
        rw [← hls, List.getD_eq_getElem?_getD, List.getElem?_eq_getElem hk]
        exact List.mem_map.2 ⟨_, List.getElem_mem hk, rfl⟩
      have := splitNl_len _ _ _ h1
      simp only [List.length_nil, Array.length_toList, ByteArray.size_data] at this; omega
    cases wo with
    | none => obtain ⟨_, h, _⟩ := hsl; omega
    | some wi =>
      have hwi := hwo wi rfl
      clear hwo
      obtain ⟨c, ds, rfl, hW, hc1, hc2, hc3⟩ := hsl
      have hrd : ∀ k, k < ls.length → readA (H1 wi) k none = some (.string (ls.getD k default)) := by
        intro k hk
        rw [hW]
        show (List.map Value.string ls ++ ds)[k]? = _
        rw [List.getElem?_append_left (by simpa using hk), List.getElem?_map, List.getElem?_eq_getElem hk, List.getD_eq_getElem?_getD, List.getElem?_eq_getElem hk]; rfl
      have hwn : H1 wi ≠ .none := by rw [hW]; simp
      have R1 : RdR H1 r ⟨[], [], [], []⟩ [] mp none none none none := R0.chg (hg.chg (fun _ => False)) (fun _ _ h => h)
      have F1 : ∀ k, FR r mp none none none none k → H k = .none ∧ k ≠ wi := by
        intro k hk
        refine ⟨?_, fun e => R0.some_ne k hk (e ▸ hwi)⟩
        unfold FR at hk; simp at hk
        rcases hk with rfl | rfl <;> assumption
      have G1 := G0.trans hg
      have hP : parse s.data.toList = (runLines (ls.map (·.data.toList)) 0 ⟨[], [], [], []⟩).bind finish := by
        unfold parse; rw [if_neg (by simp; omega), hls]; rfl
      clear hW hls R0 G0 hg hwi hc1 hc2 hc3
      repeat' (first
        | (simp (disch := first | omega | assumption) only [go_sem, ↓reduceIte, Nat.reduceEqDiff, reduceCtorEq, Nat.reduceAdd, Nat.reduceMul, Int.reduceToNat, Nat.reduceShiftRight, Nat.reduceAnd, Nat.reduceBNe, Nat.reduceBneDiff, Nat.reduceLT, Nat.reduceLeDiff, Int.reduceLT, Int.reduceLE, Int.reduceEq, Int.reduceAdd, Int.reduceSub, *])
        | (refine br_prop (fun hb => ?_) (fun hb => ?_) <;> try (exfalso; omega))
        | refine br_not ?_
        | (refine by_prop (fun hb => ?_) (fun hb => ?_) <;> try (exfalso; omega))
        | (refine by_prop' (fun hb => ?_) (fun hb => ?_) <;> try (exfalso; omega))
        | refine by_not ?_
        | refine w_drawn (by kernel_rfl) ?_
        | refine new_i' (by rfl) (fun j hj hn => ?_)
        | refine new_i (fun j hn => ?_)
        | refine br_bool (fun hb => ?_) (fun hb => ?_)
        | refine by_bool (fun hb => ?_) (fun hb => ?_)
        | refine by_bool' (fun hb => ?_) (fun hb => ?_))
      refine W.loopF 2198754821020 (fun n e Hc => ∃ (i : Nat) (st : St) (o1 o2 o3 o4 : Option Nat), e 28 = .int .i64 i ∧ i ≤ ls.length ∧ n = ls.length - i ∧ RdR Hc r st st.labels mp o1 o2 o3 o4 ∧ (∀ j, FR r mp o1 o2 o3 o4 j → H j = .none ∧ j ≠ wi) ∧ Grew H Hc ∧ Hc wi = H1 wi ∧ StOk st ∧ st.l.length ≤ i ∧ st.labels.length ≤ i ∧ st.lines.length ≤ i ∧ st.wants.length ≤ 3 * i ∧ runLines (ls.map (·.data.toList)) 0 ⟨[], [], [], []⟩ = runLines ((ls.map (·.data.toList)).drop i) i st) ls.length (by kernel_rfl) ?_ ?_
      · exact ⟨0, _, none, none, none, none, by simp (disch := first | omega | assumption) only [go_sem, ↓reduceIte, Nat.reduceEqDiff, reduceCtorEq, Nat.reduceAdd, Nat.reduceMul, Int.reduceToNat, Nat.reduceShiftRight, Nat.reduceAnd, Nat.reduceBNe, Nat.reduceBneDiff, Nat.reduceLT, Nat.reduceLeDiff, Int.reduceLT, Int.reduceLE, Int.reduceEq, Int.reduceAdd, Int.reduceSub, *]; try rfl, by omega, by omega, R1, F1, G1, rfl, StOk.nil, by simp, by simp, by simp, by simp, rfl⟩
      rintro n e Hc J hJ ⟨i, st, o1, o2, o3, o4, he28, h0, rfl, R2, F2, G2, hW2, S2, k1, k2, k3, k4, hM⟩
      replace hM := Hd.mk hM
      replace hlsz := Hd.mk hlsz
      replace F2 := Hd.mk F2
      clear R1 F1 G1
      repeat' (first
        | (simp (disch := first | omega | assumption) only [go_sem, ↓reduceIte, Nat.reduceEqDiff, reduceCtorEq, Nat.reduceAdd, Nat.reduceMul, Int.reduceToNat, Nat.reduceShiftRight, Nat.reduceAnd, Nat.reduceBNe, Nat.reduceBneDiff, Nat.reduceLT, Nat.reduceLeDiff, Int.reduceLT, Int.reduceLE, Int.reduceEq, Int.reduceAdd, Int.reduceSub, *])
        | (refine br_prop (fun hb => ?_) (fun hb => ?_) <;> try (exfalso; omega))
        | refine br_not ?_
        | (refine by_prop (fun hb => ?_) (fun hb => ?_) <;> try (exfalso; omega))
        | (refine by_prop' (fun hb => ?_) (fun hb => ?_) <;> try (exfalso; omega))
        | refine by_not ?_
        | refine w_drawn (by kernel_rfl) ?_
        | refine new_i' (by rfl) (fun j hj hn => ?_)
        | refine new_i (fun j hn => ?_)
        | refine br_bool (fun hb => ?_) (fun hb => ?_)
        | refine by_bool (fun hb => ?_) (fun hb => ?_)
        | refine by_bool' (fun hb => ?_) (fun hb => ?_))
      · refine call_i (line21 r mp (ls.getD i default) i (hlsz.go i (by omega)) Hc st o1 o2 o3 o4 R2 (by omega) (by omega) (by omega) (by omega) _ (fun H' st' p1 p2 p3 p4 hv R3 N3 C3 => ?_) (fun H' e er hv he C3 => ?_))
        · obtain ⟨S3, m1, m2, m3, m4⟩ := line_ok hv S2
          repeat' (first
            | (simp (disch := first | omega | assumption) only [go_sem, ↓reduceIte, Nat.reduceEqDiff, reduceCtorEq, Nat.reduceAdd, Nat.reduceMul, Int.reduceToNat, Nat.reduceShiftRight, Nat.reduceAnd, Nat.reduceBNe, Nat.reduceBneDiff, Nat.reduceLT, Nat.reduceLeDiff, Int.reduceLT, Int.reduceLE, Int.reduceEq, Int.reduceAdd, Int.reduceSub, *])
            | (refine br_prop (fun hb => ?_) (fun hb => ?_) <;> try (exfalso; omega))
            | refine br_not ?_
            | (refine by_prop (fun hb => ?_) (fun hb => ?_) <;> try (exfalso; omega))
            | (refine by_prop' (fun hb => ?_) (fun hb => ?_) <;> try (exfalso; omega))
            | refine by_not ?_
            | refine w_drawn (by kernel_rfl) ?_
            | refine new_i' (by rfl) (fun j hj hn => ?_)
            | refine new_i (fun j hn => ?_)
            | refine br_bool (fun hb => ?_) (fun hb => ?_)
            | refine by_bool (fun hb => ?_) (fun hb => ?_)
            | refine by_bool' (fun hb => ?_) (fun hb => ?_))
          refine inv_i (hJ.go _ _ ⟨_, by omega, i + 1, st', p1, p2, p3, p4, rfl, by omega, rfl, R3, ?_, grew_chg2 G2 C3 (fun j hj => (F2.go j hj).1), ?_, S3, by omega, by omega, by omega, by omega, ?_⟩)
          · exact fun j hj => (N3 j hj).elim (F2.go j) fun hn => ⟨G2.none hn, fun e => by rw [e, hW2] at hn; exact hwn hn⟩
          · exact (C3 wi (by rw [hW2]; exact hwn) (fun h => (F2.go wi h).2 rfl)).trans hW2
          · rw [hM.go, runLines_step ls i st (by omega), hv]; rfl
        · obtain ⟨_, rfl⟩ := he.ptr
          repeat' (first
            | (simp (disch := first | omega | assumption) only [go_sem, ↓reduceIte, Nat.reduceEqDiff, reduceCtorEq, Nat.reduceAdd, Nat.reduceMul, Int.reduceToNat, Nat.reduceShiftRight, Nat.reduceAnd, Nat.reduceBNe, Nat.reduceBneDiff, Nat.reduceLT, Nat.reduceLeDiff, Int.reduceLT, Int.reduceLE, Int.reduceEq, Int.reduceAdd, Int.reduceSub, true_and])
            | (refine br_prop (fun hb => ?_) (fun hb => ?_) <;> try (exfalso; omega))
            | refine br_not ?_
            | (refine by_prop (fun hb => ?_) (fun hb => ?_) <;> try (exfalso; omega))
            | (refine by_prop' (fun hb => ?_) (fun hb => ?_) <;> try (exfalso; omega))
            | refine by_not ?_
            | refine w_drawn (by kernel_rfl) ?_
            | refine new_i' (by rfl) (fun j hj hn => ?_)
            | refine new_i (fun j hn => ?_)
            | refine br_bool (fun hb => ?_) (fun hb => ?_)
            | refine by_bool (fun hb => ?_) (fun hb => ?_)
            | refine by_bool' (fun hb => ?_) (fun hb => ?_))
          refine herr.go _ _ _ ?_ he (grew_chg2 G2 C3 (fun j hj => (F2.go j hj).1))
          rw [hP, hM.go, runLines_step ls i st (by omega), hv]; rfl
      · have hi : i = ls.length := by omega
        have hM2 : Hd (parse s.data.toList = finish st) := ⟨by
          rw [hP, hM.go, List.drop_eq_nil_of_le (by simp; omega)]; rfl⟩
        replace hP := hM2
        clear hM hM2 hJ hlsz hrd
        obtain ⟨v1, v2, v3, v4, hobj, l1, l2, l3, l4⟩ := R2.obj
        obtain ⟨a1, c1, rfl⟩ := l1.val
        obtain ⟨a2, c2, rfl⟩ := l2.val
        obtain ⟨a3, c3, rfl⟩ := l3.val
        obtain ⟨a4, c4, rfl⟩ := l4.val
        have hmap := R2.map
        repeat' (first
          | (simp (disch := first | omega | assumption) only [go_sem, ↓reduceIte, Nat.reduceEqDiff, reduceCtorEq, Nat.reduceAdd, Nat.reduceMul, Int.reduceToNat, Nat.reduceShiftRight, Nat.reduceAnd, Nat.reduceBNe, Nat.reduceBneDiff, Nat.reduceLT, Nat.reduceLeDiff, Int.reduceLT, Int.reduceLE, Int.reduceEq, Int.reduceAdd, Int.reduceSub, *])
          | (refine br_prop (fun hb => ?_) (fun hb => ?_) <;> try (exfalso; omega))
          | refine br_not ?_
          | (refine by_prop (fun hb => ?_) (fun hb => ?_) <;> try (exfalso; omega))
          | (refine by_prop' (fun hb => ?_) (fun hb => ?_) <;> try (exfalso; omega))
          | refine by_not ?_
          | refine w_drawn (by kernel_rfl) ?_
          | refine new_i' (by rfl) (fun j hj hn => ?_)
          | refine new_i (fun j hn => ?_)
          | refine br_bool (fun hb => ?_) (fun hb => ?_)
          | refine by_bool (fun hb => ?_) (fun hb => ?_)
          | refine by_bool' (fun hb => ?_) (fun hb => ?_))
        have dd := R2.dj.facts
        have k1' := k1
        replace S2 := Hd.mk S2
        obtain ⟨Hs, hHs⟩ : ∃ Hs, Hs = Hc := ⟨_, rfl⟩
        rw [← hHs] at hobj hmap l1 l2 l3 l4
        replace l1 := Hd.mk l1
        replace l2 := Hd.mk l2
        replace l3 := Hd.mk l3
        replace l4 := Hd.mk l4
        have hfind : ∀ nm, lookV Tryd.prog Hs 56 (.map (some mp)) (.string nm) true = some (match st.labels.findIdx? (fun p => decide (nm.data.toList = p.1)) with | some j => .tuple (List.toArray [.int .i64 (j : Nat), .bool true]) | none => .tuple (List.toArray [.int .i64 0, .bool false])) := look56 hmap
        replace hfind := Hd.mk hfind
        refine W.loopF 19342813113763698051135516 (fun n e Hc => ∃ (i : Nat) (l : List Ins), e 46 = .int .i64 i ∧ i ≤ st.wants.length ∧ n = st.wants.length - i ∧ Hc r = Hs r ∧ Hc mp = Hs mp ∧ (∀ j, FR r mp none o2 o3 o4 j → Hc j = Hs j) ∧ SL Hc 7 (.slice a1 st.l.length c1) l.length (l.flatMap encI) o1 ∧ l.length = st.l.length ∧ Grew H Hc ∧ Hc wi = Hs wi ∧ AsmM.resolve st.labels st.wants st.l = AsmM.resolve st.labels (st.wants.drop i) l) st.wants.length (by kernel_rfl) ?_ ?_
        · exact ⟨0, st.l, by simp (disch := first | omega | assumption) only [go_sem, ↓reduceIte, Nat.reduceEqDiff, reduceCtorEq, Nat.reduceAdd, Nat.reduceMul, Int.reduceToNat, Nat.reduceShiftRight, Nat.reduceAnd, Nat.reduceBNe, Nat.reduceBneDiff, Nat.reduceLT, Nat.reduceLeDiff, Int.reduceLT, Int.reduceLE, Int.reduceEq, Int.reduceAdd, Int.reduceSub, *]; try rfl, by omega, by omega, by rw [hHs], by rw [hHs], fun j _ => by rw [hHs], hHs ▸ l1.go, rfl, G2, by rw [hHs], rfl⟩
        have hsn : Hd (∀ j, FR r mp o1 o2 o3 o4 j → Hs j ≠ .none) := ⟨by rw [hHs]; exact R2.some_ne⟩
        have hsw : Hs wi ≠ .none := by rw [hHs, hW2]; exact hwn
        clear R2 hHs
        rintro n e Hd2 J hJ ⟨i, l, he46, h1, rfl, q1, q2, q3, q4, q5, q6, q7, hM⟩
        replace hM := Hd.mk hM
        replace q3 := Hd.mk q3
        replace q4 := Hd.mk q4
        repeat' (first
          | (simp (disch := first | omega | assumption) only [go_sem, ↓reduceIte, Nat.reduceEqDiff, reduceCtorEq, Nat.reduceAdd, Nat.reduceMul, Int.reduceToNat, Nat.reduceShiftRight, Nat.reduceAnd, Nat.reduceBNe, Nat.reduceBneDiff, Nat.reduceLT, Nat.reduceLeDiff, Int.reduceLT, Int.reduceLE, Int.reduceEq, Int.reduceAdd, Int.reduceSub, *])
          | (refine br_prop (fun hb => ?_) (fun hb => ?_) <;> try (exfalso; omega))
          | refine br_not ?_
          | (refine by_prop (fun hb => ?_) (fun hb => ?_) <;> try (exfalso; omega))
          | (refine by_prop' (fun hb => ?_) (fun hb => ?_) <;> try (exfalso; omega))
          | refine by_not ?_
          | refine w_drawn (by kernel_rfl) ?_
          | refine new_i' (by rfl) (fun j hj hn => ?_)
          | refine new_i (fun j hn => ?_)
          | refine br_bool (fun hb => ?_) (fun hb => ?_)
          | refine by_bool (fun hb => ?_) (fun hb => ?_)
          | refine by_bool' (fun hb => ?_) (fun hb => ?_))
        · obtain ⟨i4, rfl⟩ : ∃ i4, o4 = some i4 := by
            cases o4 with
            | none => obtain ⟨_, h, _⟩ := l4.go; omega
            | some i4 => exact ⟨_, rfl⟩
          obtain ⟨c4', d4, e4, hH4, _, _, _⟩ := l4.go
          injection e4 with e4a e4b e4c
          subst e4a
          have hi : i < st.wants.length := by omega
          obtain ⟨w, hwe⟩ : ∃ w, w = st.wants.getD i ⟨0, 0, []⟩ := ⟨_, rfl⟩
          have hwm : w ∈ st.wants := by rw [hwe, List.getD_eq_getElem?_getD, List.getElem?_eq_getElem hi]; exact List.getElem_mem hi
          have hwd : Hd (st.wants.drop i = w :: st.wants.drop (i + 1)) := ⟨by rw [List.drop_eq_getElem_cons hi, hwe, List.getD_eq_getElem?_getD, List.getElem?_eq_getElem hi]; rfl⟩
          have hwa := S2.go.wa w hwm
          have hrw : readA (Hs i4) (i * 3) (some 3) = some (.agg #[.int .i64 w.ins, .int .i64 w.line, .string (bA w.name)]) := by
            rw [hH4, flat_read (enc := encW) (fun _ => rfl) ⟨0, 0, []⟩ hi, ← hwe]; rfl
          have hq4 : Hd2 i4 = Hs i4 := q3.go i4 (by unfold FR; simp)
          have hlk : ∀ j o, Hd2 j = .none → lookV Tryd.prog (Hd2.set j o) 56 (.map (some mp)) (.string (bA w.name)) true = some (match st.labels.findIdx? (fun p => decide (w.name = p.1)) with | some j => .tuple (List.toArray [.int .i64 (j : Nat), .bool true]) | none => .tuple (List.toArray [.int .i64 0, .bool false])) := by
            intro j o hj
            have h := look56 (H := Hd2.set j o) (mp := mp) (ms := st.labels) (by rw [AHeap.set_ne _ _ (fun e => by rw [← e, q2, hmap] at hj; cases hj), q2]; exact hmap) (bA w.name)
            exact h
          have hri : (Hd2 r).isNone = false := by rw [q1, hobj]; rfl
          clear hwe hH4 hwm
          cases hf : st.labels.findIdx? (fun p => decide (w.name = p.1)) with
          | none =>
            rw [hf] at hlk
            simp only at hlk
            repeat' (first
              | (simp (disch := first | omega | assumption) only [go_sem, ↓reduceIte, Nat.reduceEqDiff, reduceCtorEq, Nat.reduceAdd, Nat.reduceMul, Int.reduceToNat, Nat.reduceShiftRight, Nat.reduceAnd, Nat.reduceBNe, Nat.reduceBneDiff, Nat.reduceLT, Nat.reduceLeDiff, Int.reduceLT, Int.reduceLE, Int.reduceEq, Int.reduceAdd, Int.reduceSub, *])
              | (refine br_prop (fun hb => ?_) (fun hb => ?_) <;> try (exfalso; omega))
              | refine br_not ?_
              | (refine by_prop (fun hb => ?_) (fun hb => ?_) <;> try (exfalso; omega))
              | (refine by_prop' (fun hb => ?_) (fun hb => ?_) <;> try (exfalso; omega))
              | refine by_not ?_
              | refine w_drawn (by kernel_rfl) ?_
              | refine new_i' (by rfl) (fun j hj hn => ?_)
              | refine new_i (fun j hn => ?_)
              | refine br_bool (fun hb => ?_) (fun hb => ?_)
              | refine by_bool (fun hb => ?_) (fun hb => ?_)
              | refine by_bool' (fun hb => ?_) (fun hb => ?_))
            refine call_i (afail_go _ _ _ _ (.refl _) _ fun H' e hg he => ?_)
            repeat' (first
              | (simp (disch := first | omega | assumption) only [go_sem, ↓reduceIte, Nat.reduceEqDiff, reduceCtorEq, Nat.reduceAdd, Nat.reduceMul, Int.reduceToNat, Nat.reduceShiftRight, Nat.reduceAnd, Nat.reduceBNe, Nat.reduceBneDiff, Nat.reduceLT, Nat.reduceLeDiff, Int.reduceLT, Int.reduceLE, Int.reduceEq, Int.reduceAdd, Int.reduceSub, true_and])
              | (refine br_prop (fun hb => ?_) (fun hb => ?_) <;> try (exfalso; omega))
              | refine br_not ?_
              | (refine by_prop (fun hb => ?_) (fun hb => ?_) <;> try (exfalso; omega))
              | (refine by_prop' (fun hb => ?_) (fun hb => ?_) <;> try (exfalso; omega))
              | refine by_not ?_
              | refine w_drawn (by kernel_rfl) ?_
              | refine new_i' (by rfl) (fun j hj hn => ?_)
              | refine new_i (fun j hn => ?_)
              | refine br_bool (fun hb => ?_) (fun hb => ?_)
              | refine by_bool (fun hb => ?_) (fun hb => ?_)
              | refine by_bool' (fun hb => ?_) (fun hb => ?_))
            refine herr.go _ _ _ ?_ he ((q6.new _ hn).trans hg)
            rw [hP.go]
            unfold finish
            rw [hM.go, hwd.go]
            show ((AsmM.resolve st.labels (w :: st.wants.drop (i + 1)) l).bind _) = _
            unfold AsmM.resolve
            rw [find_idx, hf]; rfl
          | some k =>
            rw [hf] at hlk
            simp only at hlk
            have hk := idx_lt hf
            obtain ⟨i2, rfl⟩ : ∃ i2, o2 = some i2 := by
              cases o2 with
              | none => obtain ⟨_, h, _⟩ := l2.go; omega
              | some i2 => exact ⟨_, rfl⟩
            obtain ⟨c2', d2, e2, hH2, _, _, _⟩ := l2.go
            injection e2 with e2a e2b e2c
            subst e2a
            obtain ⟨at_, hat⟩ : ∃ at_, at_ = (st.labels.getD k ([], 0)).2 := ⟨_, rfl⟩
            have hrl : readA (Hs i2) (k * 2 + 1) none = some (.int .i64 at_) := by
              rw [hH2, flat_cell (enc := encLab) (fun _ => rfl) ([], 0) hk (by decide), hat]; rfl
            have hal := S2.go.la (st.labels.getD k ([], 0)) (by rw [List.getD_eq_getElem?_getD, List.getElem?_eq_getElem hk]; exact List.getElem_mem hk)
            rw [← hat] at hal
            have hwrap : IntKind.wrap .u64 at_ = at_ := Int.emod_eq_of_lt hal.1 (by show at_ < 18446744073709551616; omega)
            have hq2 : Hd2 i2 = Hs i2 := q3.go i2 (by unfold FR; simp)
            obtain ⟨i1, rfl⟩ : ∃ i1, o1 = some i1 := by
              cases o1 with
              | none => obtain ⟨_, h, _⟩ := l1.go; omega
              | some i1 => exact ⟨_, rfl⟩
            obtain ⟨c1', d1, e1, hH1, z1, z2, z3⟩ := q4.go
            injection e1 with e1a e1b e1c
            subst e1a
            have hc1 : c1 = c1' := e1c
            clear e1b e1c
            replace hc1 := Hd.mk hc1
            have hLw : ∀ v : Int, writeA (.cells (l.flatMap encI ++ d1)) (w.ins.toNat * 7 + 4) [.int .u64 v] = some (.cells ((setV l w.ins v).flatMap encI ++ d1)) := by
              intro v
              have e := setV_flat v d1 l w.ins.toNat (by omega)
              have e' : setV l ((w.ins.toNat : Nat) : Int) v = setV l w.ins v := by rw [Int.toNat_of_nonneg hwa.1]
              rw [e'] at e
              rw [write_one _ rfl, e]
              rw [List.length_append, flat_len encI 7 (fun _ => rfl) l]
              omega
            replace hLw := hLw at_
            have n1 : (Hd2 i1).isNone = false := by rw [hH1]; rfl
            have n2 : (Hd2 i2).isNone = false := by rw [hq2, hH2]; rfl
            have dj1 : ∀ k, FR r mp none (some i2) o3 (some i4) k → k ≠ i1 := by
              intro k hk e
              subst e
              unfold FR at hk
              grind
            have n4 : Hd2 i4 ≠ .none := by rw [hq4]; intro e; rw [e] at hrw; simp [readA, cellsOf] at hrw
            have L' : ∀ o : AObj, Hd2 i1 = o → True := fun _ _ => trivial
            clear L' hH2
            obtain ⟨M1, hM1⟩ : ∃ M1, M1 = l.flatMap encI ++ d1 := ⟨_, rfl⟩
            obtain ⟨M2, hM2⟩ : ∃ M2, M2 = (setV l w.ins at_).flatMap encI ++ d1 := ⟨_, rfl⟩
            rw [← hM1] at hH1
            rw [← hM1, ← hM2] at hLw
            replace hM1 := Hd.mk hM1
            replace hM2 := Hd.mk hM2
            replace hat := Hd.mk hat
            replace z1 := Hd.mk z1
            replace z2 := Hd.mk z2
            replace dj1 := Hd.mk dj1
            repeat' (first
              | (simp (disch := first | omega | assumption) only [go_sem, ↓reduceIte, Nat.reduceEqDiff, reduceCtorEq, Nat.reduceAdd, Nat.reduceMul, Int.reduceToNat, Nat.reduceShiftRight, Nat.reduceAnd, Nat.reduceBNe, Nat.reduceBneDiff, Nat.reduceLT, Nat.reduceLeDiff, Int.reduceLT, Int.reduceLE, Int.reduceEq, Int.reduceAdd, Int.reduceSub, *])
              | (refine br_prop (fun hb => ?_) (fun hb => ?_) <;> try (exfalso; omega))
              | refine br_not ?_
              | (refine by_prop (fun hb => ?_) (fun hb => ?_) <;> try (exfalso; omega))
              | (refine by_prop' (fun hb => ?_) (fun hb => ?_) <;> try (exfalso; omega))
              | refine by_not ?_
              | refine w_drawn (by kernel_rfl) ?_
              | refine new_i' (by rfl) (fun j hj hn => ?_)
              | refine new_i (fun j hn => ?_)
              | refine br_bool (fun hb => ?_) (fun hb => ?_)
              | refine by_bool (fun hb => ?_) (fun hb => ?_)
              | refine by_bool' (fun hb => ?_) (fun hb => ?_))
            have hget : ∀ x, Hd2 x ≠ .none → x ≠ i1 → ((Hd2.set j (.cells [.int .i64 w.ins, .int .i64 w.line, .string (bA w.name)])).set i1 (.cells M2)) x = Hd2 x := fun x hx h1 => by
              rw [AHeap.set_ne _ _ h1, AHeap.set_ne _ _ (fun e => hx (by rw [e]; exact hn))]
            have hfr : ∀ k, FR r mp none (some i2) o3 (some i4) k → FR r mp (some i1) (some i2) o3 (some i4) k := fun k hk => by unfold FR at hk ⊢; grind
            have hkeep : ∀ k, FR r mp none (some i2) o3 (some i4) k → ((Hd2.set j (.cells [.int .i64 w.ins, .int .i64 w.line, .string (bA w.name)])).set i1 (.cells M2)) k = Hs k := fun k hk => by
              rw [hget k (by rw [q3.go k hk]; exact hsn.go k (hfr k hk)) (dj1.go k hk), q3.go k hk]
            refine inv_i (hJ.go _ _ ⟨_, by omega, i + 1, setV l w.ins at_, rfl, by omega, rfl, ?_, ?_, ?_, ?_, ?_, ?_, ?_, ?_⟩)
            · exact hkeep r (.inl rfl)
            · exact hkeep mp (.inr (.inl rfl))
            · exact hkeep
            · refine ⟨c1', d1, by rw [setV_len, q5, ← hc1.go], by rw [AHeap.set_same, hM2.go], ?_, ?_, by rw [setV_len]; exact z3⟩
              · have := z1.go
                rw [List.length_append, flat_len encI 7 (fun _ => rfl)] at this ⊢
                rw [setV_len]; exact this
              · exact flat_len encI 7 (fun _ => rfl) _
            · rw [setV_len]; exact q5
            · exact (q6.new _ hn).set _ (F2.go i1 (by unfold FR; simp)).1
            · rw [hget wi (by rw [q7]; exact hsw) (fun e => (F2.go i1 (by unfold FR; simp)).2 e.symm), q7]
            · rw [hM.go, hwd.go, hat.go]
              conv => lhs; unfold AsmM.resolve; rw [find_idx, hf]
              rfl
        · refine call_i (afail_go _ _ _ _ (.refl _) _ fun H' e hg he => ?_)
          repeat' (first
            | (simp (disch := first | omega | assumption) only [go_sem, ↓reduceIte, Nat.reduceEqDiff, reduceCtorEq, Nat.reduceAdd, Nat.reduceMul, Int.reduceToNat, Nat.reduceShiftRight, Nat.reduceAnd, Nat.reduceBNe, Nat.reduceBneDiff, Nat.reduceLT, Nat.reduceLeDiff, Int.reduceLT, Int.reduceLE, Int.reduceEq, Int.reduceAdd, Int.reduceSub, true_and])
            | (refine br_prop (fun hb => ?_) (fun hb => ?_) <;> try (exfalso; omega))
            | refine br_not ?_
            | (refine by_prop (fun hb => ?_) (fun hb => ?_) <;> try (exfalso; omega))
            | (refine by_prop' (fun hb => ?_) (fun hb => ?_) <;> try (exfalso; omega))
            | refine by_not ?_
            | refine w_drawn (by kernel_rfl) ?_
            | refine new_i' (by rfl) (fun j hj hn => ?_)
            | refine new_i (fun j hn => ?_)
            | refine br_bool (fun hb => ?_) (fun hb => ?_)
            | refine by_bool (fun hb => ?_) (fun hb => ?_)
            | refine by_bool' (fun hb => ?_) (fun hb => ?_))
          refine herr.go _ _ _ ?_ he (q6.trans hg)
          rw [hP.go]
          unfold finish
          rw [hM.go, List.drop_eq_nil_of_le (by omega)]
          show (if l.length > 2048 then Except.error (⟨0, none, 3⟩ : Er) else _) = _
          rw [if_pos (by omega)]
        · have hR : Hd (parse s.data.toList = (lastLabel l.length st.labels st.lines).bind fun _ => .ok (l, st.labels)) := ⟨by
            rw [hP.go]
            unfold finish
            rw [hM.go, List.drop_eq_nil_of_le (by omega)]
            show (if l.length > 2048 then Except.error (⟨0, none, 3⟩ : Er) else _) = _
            rw [if_neg (by omega)]; rfl⟩
          clear hM hP
          refine W.loopF 1329227837328590844375131873192493084 (fun n e Hc => ∃ (i : Nat), e 97 = .int .i64 i ∧ i ≤ st.labels.length ∧ n = st.labels.length - i ∧ Grew Hd2 Hc ∧ lastLabel l.length st.labels st.lines = lastLabel l.length (st.labels.drop i) (st.lines.drop i)) st.labels.length (by kernel_rfl) ?_ ?_
          · exact ⟨0, by simp (disch := first | omega | assumption) only [go_sem, ↓reduceIte, Nat.reduceEqDiff, reduceCtorEq, Nat.reduceAdd, Nat.reduceMul, Int.reduceToNat, Nat.reduceShiftRight, Nat.reduceAnd, Nat.reduceBNe, Nat.reduceBneDiff, Nat.reduceLT, Nat.reduceLeDiff, Int.reduceLT, Int.reduceLE, Int.reduceEq, Int.reduceAdd, Int.reduceSub, *]; try rfl, by omega, by omega, .refl _, rfl⟩
          clear hJ
          rintro n e3 Hc J hJ ⟨i3, he97, h3, rfl, g3, hM⟩
          replace hM := Hd.mk hM
          replace g3 := Hd.mk g3
          have hr3 : Hc r = _ := (g3.go r (by rw [q1, hobj]; simp)).trans (q1.trans hobj)
          repeat' (first
            | (simp (disch := first | omega | assumption) only [go_sem, ↓reduceIte, Nat.reduceEqDiff, reduceCtorEq, Nat.reduceAdd, Nat.reduceMul, Int.reduceToNat, Nat.reduceShiftRight, Nat.reduceAnd, Nat.reduceBNe, Nat.reduceBneDiff, Nat.reduceLT, Nat.reduceLeDiff, Int.reduceLT, Int.reduceLE, Int.reduceEq, Int.reduceAdd, Int.reduceSub, *])
            | (refine br_prop (fun hb => ?_) (fun hb => ?_) <;> try (exfalso; omega))
            | refine br_not ?_
            | (refine by_prop (fun hb => ?_) (fun hb => ?_) <;> try (exfalso; omega))
            | (refine by_prop' (fun hb => ?_) (fun hb => ?_) <;> try (exfalso; omega))
            | refine by_not ?_
            | refine w_drawn (by kernel_rfl) ?_
            | refine new_i' (by rfl) (fun j hj hn => ?_)
            | refine new_i (fun j hn => ?_)
            | refine br_bool (fun hb => ?_) (fun hb => ?_)
            | refine by_bool (fun hb => ?_) (fun hb => ?_)
            | refine by_bool' (fun hb => ?_) (fun hb => ?_))
          · obtain ⟨i2, rfl⟩ : ∃ i2, o2 = some i2 := by
              cases o2 with
              | none => obtain ⟨_, h, _⟩ := l2.go; omega
              | some i2 => exact ⟨_, rfl⟩
            obtain ⟨c2', d2, e2, hH2, _, _, _⟩ := l2.go
            injection e2 with e2a e2b e2c
            subst e2a
            have hll := S2.go.ll
            obtain ⟨i5, rfl⟩ : ∃ i5, o3 = some i5 := by
              cases o3 with
              | none => obtain ⟨_, h, _⟩ := l3.go; omega
              | some i5 => exact ⟨_, rfl⟩
            obtain ⟨c5', d5, e5, hH5, _, _, _⟩ := l3.go
            injection e5 with e5a e5b e5c
            subst e5a
            clear e5b e2b
            have hi : i3 < st.labels.length := by omega
            obtain ⟨p, hp⟩ : ∃ p, p = st.labels.getD i3 ([], 0) := ⟨_, rfl⟩
            obtain ⟨ln, hln⟩ : ∃ ln, ln = st.lines.getD i3 0 := ⟨_, rfl⟩
            have hrl : readA (Hs i2) (i3 * 2) (some 2) = some (.agg #[.string (bA p.1), .int .i64 p.2]) := by
              rw [hH2, flat_read (enc := encLab) (fun _ => rfl) ([], 0) hi, hp]; rfl
            have hr5 : readA (Hs i5) i3 none = some (.int .i64 ln) := by
              rw [hH5, hln]
              show (List.map (Value.int .i64 ·) st.lines ++ d5)[i3]? = _
              rw [List.getElem?_append_left (by simp; omega), List.getElem?_map, List.getElem?_eq_getElem (by omega), List.getD_eq_getElem?_getD, List.getElem?_eq_getElem (by omega)]; rfl
            have hst : Hd (lastLabel l.length (st.labels.drop i3) (st.lines.drop i3) = if p.2 = (l.length : Int) then .error (bad ln) else lastLabel l.length (st.labels.drop (i3 + 1)) (st.lines.drop (i3 + 1))) := ⟨by
              rw [List.drop_eq_getElem_cons hi, List.drop_eq_getElem_cons (l := st.lines) (by omega), hp, hln]
              simp only [List.getD_eq_getElem?_getD, List.getElem?_eq_getElem hi, List.getElem?_eq_getElem (show i3 < st.lines.length by omega), Option.getD_some]
              rfl⟩
            have n2 : Hd2 i2 ≠ .none := by rw [q3.go i2 (by unfold FR; simp), hH2]; simp
            have n5 : Hd2 i5 ≠ .none := by rw [q3.go i5 (by unfold FR; simp), hH5]; simp
            have g2 : Hc i2 = Hs i2 := (g3.go i2 n2).trans (q3.go i2 (by unfold FR; simp))
            have g5 : Hc i5 = Hs i5 := (g3.go i5 n5).trans (q3.go i5 (by unfold FR; simp))
            have y2 : (Hc i2).isNone = false := by rw [g2, hH2]; rfl
            have y5 : (Hc i5).isNone = false := by rw [g5, hH5]; rfl
            have y1 : (Hc r).isNone = false := by rw [hr3]; rfl
            clear hp hln n2 n5 hH2 hH5 q1 hobj
            repeat' (first
              | (simp (disch := first | omega | assumption) only [go_sem, ↓reduceIte, Nat.reduceEqDiff, reduceCtorEq, Nat.reduceAdd, Nat.reduceMul, Int.reduceToNat, Nat.reduceShiftRight, Nat.reduceAnd, Nat.reduceBNe, Nat.reduceBneDiff, Nat.reduceLT, Nat.reduceLeDiff, Int.reduceLT, Int.reduceLE, Int.reduceEq, Int.reduceAdd, Int.reduceSub, *])
              | (refine br_prop (fun hb => ?_) (fun hb => ?_) <;> try (exfalso; omega))
              | refine br_not ?_
              | (refine by_prop (fun hb => ?_) (fun hb => ?_) <;> try (exfalso; omega))
              | (refine by_prop' (fun hb => ?_) (fun hb => ?_) <;> try (exfalso; omega))
              | refine by_not ?_
              | refine w_drawn (by kernel_rfl) ?_
              | refine new_i' (by rfl) (fun j hj hn => ?_)
              | refine new_i (fun j hn => ?_)
              | refine br_bool (fun hb => ?_) (fun hb => ?_)
              | refine by_bool (fun hb => ?_) (fun hb => ?_)
              | refine by_bool' (fun hb => ?_) (fun hb => ?_))
            · refine call_i (afail_go _ _ _ _ (.refl _) _ fun H' e hg he => ?_)
              repeat' (first
                | (simp (disch := first | omega | assumption) only [go_sem, ↓reduceIte, Nat.reduceEqDiff, reduceCtorEq, Nat.reduceAdd, Nat.reduceMul, Int.reduceToNat, Nat.reduceShiftRight, Nat.reduceAnd, Nat.reduceBNe, Nat.reduceBneDiff, Nat.reduceLT, Nat.reduceLeDiff, Int.reduceLT, Int.reduceLE, Int.reduceEq, Int.reduceAdd, Int.reduceSub, true_and])
                | (refine br_prop (fun hb => ?_) (fun hb => ?_) <;> try (exfalso; omega))
                | refine br_not ?_
                | (refine by_prop (fun hb => ?_) (fun hb => ?_) <;> try (exfalso; omega))
                | (refine by_prop' (fun hb => ?_) (fun hb => ?_) <;> try (exfalso; omega))
                | refine by_not ?_
                | refine w_drawn (by kernel_rfl) ?_
                | refine new_i' (by rfl) (fun j hj hn => ?_)
                | refine new_i (fun j hn => ?_)
                | refine br_bool (fun hb => ?_) (fun hb => ?_)
                | refine by_bool (fun hb => ?_) (fun hb => ?_)
                | refine by_bool' (fun hb => ?_) (fun hb => ?_))
              refine herr.go _ _ _ ?_ he (q6.trans ((g3.go.new _ hn).trans hg))
              rw [hR.go, hM.go, hst.go, if_pos (by omega)]; rfl
            · refine inv_i (hJ.go _ _ ⟨_, by omega, i3 + 1, rfl, by omega, rfl, g3.go.new _ hn, ?_⟩)
              rw [hM.go, hst.go, if_neg (by omega)]
          · refine hok.go _ _ _ l st.labels o1 o2 ?_ ?_ ?_ ?_ ?_ (q6.trans g3.go)
            · rw [hR.go, hM.go, List.drop_eq_nil_of_le (by omega)]; rfl
            · exact q4.go.grew g3.go
            · refine (l2.go.frame fun k hk => q3.go k ?_).grew g3.go
              unfold FR; simp [hk]
            · intro k hk
              refine ⟨(F2.go k (by unfold FR; simp [hk])).1, (dd.2.2.2.2.2.2.2.2.2.1 k hk).1⟩
            · intro k hk
              exact (F2.go k (by unfold FR; simp [hk])).1
end Go.Proofs
