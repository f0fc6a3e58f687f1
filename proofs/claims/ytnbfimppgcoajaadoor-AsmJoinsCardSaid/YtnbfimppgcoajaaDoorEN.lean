/-
  A part of the proofs: EN.
-/
import Derived.Test.YtnbfimppgcoajaaDoorDT
import Derived.Test.YtnbfimppgcoajaaDoorAbS
import Derived.Test.YtnbfimppgcoajaaDoorPA
import Derived.Test.YtnbfimppgcoajaaDoorPD
namespace Go.Proofs
set_option linter.unusedSimpArgs false
set_option linter.unusedVariables false
set_option linter.unusedSectionVars false
open Go Go.Ab AsmM
variable [Go.Ab.Start]
set_option maxRecDepth 100000
set_option maxHeartbeats 1000000
structure StOk (st : St) : Prop where
  ll : st.labels.length = st.lines.length
  la : ∀ p ∈ st.labels, 0 ≤ p.2 ∧ p.2 ≤ st.l.length
  wa : ∀ w ∈ st.wants, 0 ≤ w.ins ∧ w.ins < st.l.length
theorem opsOf_more (a n : Int) : ∀ (ks : List Int) (ss : List Bytes) (x : Ins) (ws : List Want) (y : Ins) (ws' : List Want), operandsOf a n x ws ks ss = .ok (y, ws') → ∃ add, ws' = ws ++ add ∧ add.length ≤ ks.length ∧ ∀ w ∈ add, w.ins = a
  | [], ss, x, ws, y, ws', h => by
    have : operandsOf a n x ws [] ss = .ok (x, ws) := by cases ss <;> rfl
    rw [this] at h; injection h with h; injection h with _ h; subst h; exact ⟨[], by simp, by simp, fun _ h => by cases h⟩
  | k :: ks, [], x, ws, y, ws', h => by
    have h : Except.ok (x, ws) = Except.ok (ε := Er) (y, ws') := h
    injection h with h; injection h with _ h; subst h; exact ⟨[], by simp, by simp, fun _ h => by cases h⟩
  | k :: ks, s :: ss, x, ws, y, ws', h => by
    have h : ((operand x k s n).bind fun p => operandsOf a n p.1 (if p.2 then ws ++ [⟨a, n, s⟩] else ws) ks ss) = .ok (y, ws') := h
    cases ho : operand x k s n with
    | error e => rw [ho] at h; cases h
    | ok p =>
      rw [ho] at h
      obtain ⟨add, h1, h2, h3⟩ := opsOf_more a n ks ss _ _ y ws' h
      cases hp : p.2 with
      | true =>
        rw [hp] at h1
        refine ⟨⟨a, n, s⟩ :: add, by rw [h1]; simp, by simp; omega, fun w hw => ?_⟩
        rcases List.mem_cons.1 hw with rfl | hw
        · rfl
        · exact h3 w hw
      | false =>
        rw [hp] at h1
        exact ⟨add, by rw [h1]; rfl, by simp; omega, h3⟩
theorem line_ok {st st' : St} {s : Bytes} {n : Int} (h : line st s n = .ok st') (hk : StOk st) : StOk st' ∧ st'.l.length ≤ st.l.length + 1 ∧ st'.labels.length ≤ st.labels.length + 1 ∧ st'.lines.length ≤ st.lines.length + 1 ∧ st'.wants.length ≤ st.wants.length + 3 := by
  unfold line at h
  split at h
  · injection h with h; subst h; exact ⟨hk, by omega, by omega, by omega, by omega⟩
  · rename_i w ws _
    split at h
    · simp only at h
      split at h
      · cases h
      · injection h with h; subst h
        refine ⟨⟨by simp [hk.ll], fun p hp => ?_, hk.wa⟩, by simp, by simp, by simp, by simp⟩
        simp only [List.mem_append, List.mem_singleton] at hp
        rcases hp with hp | rfl
        · exact hk.la p hp
        · exact ⟨by omega, Int.le_refl _⟩
    · change insLine st (opOf w) ws n = .ok st' at h
      have h0 : opOf w ≠ 0 := fun e => by unfold insLine at h; rw [if_pos e] at h; cases h
      by_cases hc : insCond (opOf w) ws
      · cases ho : operandsOf st.l.length n { Ins.zero with op := opOf w } st.wants (operands (opOf w)) ws with
        | error er => rw [ins_err h0 hc ho] at h; cases h
        | ok p =>
          obtain ⟨x, wants⟩ := p
          obtain ⟨add, h1, h2, h3⟩ := opsOf_more _ _ _ _ _ _ _ _ ho
          have hl := ops_len (opOf w)
          have done : ∀ y, StOk { st with l := st.l ++ [y], wants := wants } ∧ (st.l ++ [y]).length ≤ st.l.length + 1 ∧ st.labels.length ≤ st.labels.length + 1 ∧ st.lines.length ≤ st.lines.length + 1 ∧ wants.length ≤ st.wants.length + 3 := by
            intro y
            refine ⟨⟨hk.ll, fun p hp => ?_, fun w hw => ?_⟩, by simp, by omega, by omega, by rw [h1, List.length_append]; omega⟩
            · have := hk.la p hp; simp only [List.length_append, List.length_singleton]; omega
            · simp only [List.length_append, List.length_singleton]
              simp only [h1, List.mem_append] at hw
              rcases hw with hw | hw
              · have := hk.wa w hw; omega
              · have := h3 w hw; omega
          by_cases hlt : (operands (opOf w)).length < ws.length
          · cases hl : ws.getLast? with
            | none => have := List.getLast?_eq_none_iff.1 hl; subst this; simp at hlt
            | some m =>
              rw [ins_mark h0 hc ho hlt hl] at h
              cases hm : AsmM.mark x m n with
              | error e => rw [hm] at h; cases h
              | ok y => rw [hm] at h; injection h with h; subst h; exact done y
          · rw [ins_ok h0 hc ho hlt] at h
            injection h with h; subst h; exact done x
      · unfold insLine at h
        rw [if_neg h0, if_pos (Classical.not_not.1 hc)] at h
        cases h
theorem splitNl_len (l : Bytes) : ∀ cur, ∀ x ∈ splitNl cur l, x.length ≤ cur.length + l.length := by
  induction l with
  | nil => intro cur x hx; simp [splitNl] at hx; subst hx; simp
  | cons b l ih =>
    intro cur x hx
    unfold splitNl at hx
    split at hx
    · rcases List.mem_cons.1 hx with rfl | hx
      · simp
      · have := ih [] x hx; simp at this ⊢; omega
    · have := ih _ x hx; simp at this ⊢; omega
theorem splitNl_count (l : Bytes) : ∀ cur, (splitNl cur l).length ≤ l.length + 1 := by
  induction l with
  | nil => intro cur; simp [splitNl]
  | cons b l ih =>
    intro cur
    unfold splitNl
    split
    · have := ih []; simp; omega
    · have := ih (cur ++ [b]); simp; omega
theorem find_idx (labels : List (Bytes × Int)) (nm : Bytes) : find labels nm = (labels.findIdx? (fun p => decide (nm = p.1))).map fun k => (labels.getD k ([], 0)).2 := by
  unfold find
  have e : (fun p : Bytes × Int => decide (p.1 = nm)) = fun p => decide (nm = p.1) := by
    funext p; rw [decide_eq_decide]; exact eq_comm
  rw [e]
  induction labels with
  | nil => rfl
  | cons p ps ih =>
    rw [List.find?_cons, List.findIdx?_cons]
    by_cases h : nm = p.1
    · simp [h]
    · simp only [h, decide_false]
      rw [ih]
      cases ps.findIdx? (fun p => decide (nm = p.1)) <;> rfl
theorem idx_lt {α : Type} {p : α → Bool} {l : List α} {k : Nat} (h : l.findIdx? p = some k) : k < l.length := by
  have := List.findIdx?_eq_some_iff_getElem.1 h
  exact this.1
theorem setV_len (l : List Ins) (i v : Int) : (setV l i v).length = l.length := by unfold setV; simp
theorem setV_flat (v : Int) (ds : List Value) : ∀ (l : List Ins) (k : Nat), k < l.length → (l.flatMap encI ++ ds).set (k * 7 + 4) (.int .u64 v) = (setV l k v).flatMap encI ++ ds
  | [], k, h => by simp at h
  | x :: l, 0, _ => by simp [setV, encI]
  | x :: l, k + 1, h => by
    have ih := setV_flat v ds l k (by simpa using h)
    have e : (k + 1) * 7 + 4 = (encI x).length + (k * 7 + 4) := by rw [encI_len]; omega
    have e2 : setV (x :: l) ((k + 1 : Nat) : Int) v = x :: setV l (k : Int) v := by unfold setV; simp
    rw [List.flatMap_cons, List.append_assoc, e, List.set_append_right _ _ (by omega), Nat.add_sub_cancel_left, ih, e2, List.flatMap_cons, List.append_assoc]
end Go.Proofs
