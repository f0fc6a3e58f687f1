/-
  A part of the proofs: AsmSilent.
-/
import Derived.Test.YtnbfimppgcoajaaDoorAsmModel
namespace AsmM
set_option linter.unusedSimpArgs false
set_option linter.unusedVariables false
set_option linter.unusedSectionVars false

/-- Both went through, related; or neither did. -/
inductive Both {α β : Type} (R : α → β → Prop) : Except Er α → Except Er β → Prop
  | ok {a : α} {b : β} (h : R a b) : Both R (.ok a) (.ok b)
  | err {e f : Er} : Both R (.error e) (.error f)

theorem Both.bind {α β γ δ : Type} {R : α → β → Prop} {S : γ → δ → Prop} {x : Except Er α} {y : Except Er β} {f : α → Except Er γ} {g : β → Except Er δ}
    (h : Both R x y) (hf : ∀ a b, R a b → Both S (f a) (g b)) : Both S (x >>= f) (y >>= g) := by
  cases h with
  | ok h => exact hf _ _ h
  | err => exact .err

theorem Both.mono {α β : Type} {R S : α → β → Prop} {x : Except Er α} {y : Except Er β} (h : Both R x y) (hs : ∀ a b, R a b → S a b) : Both S x y := by
  cases h with
  | ok h => exact .ok (hs _ _ h)
  | err => exact .err

/-! ### The number of a line says nothing but where an error is -/
theorem num_both (s : Bytes) (i j : Int) : Both Eq (num s i) (num s j) := by
  unfold num
  split
  · exact .ok rfl
  · exact .err

theorem cellOf_both (x : Ins) (s : Bytes) (i j : Int) : Both Eq (cellOf x s i) (cellOf x s j) := by
  unfold cellOf
  split
  · exact .err
  · dsimp only
    split
    · exact .ok rfl
    · split
      · split
        · exact .err
        · exact (num_both _ i j).bind fun a b h => by subst h; exact .ok rfl
      · exact (num_both _ i j).bind fun a b h => by subst h; exact .ok rfl

theorem mark_both (x : Ins) (s : Bytes) (i j : Int) : Both Eq (mark x s i) (mark x s j) := by
  unfold mark
  refine (num_both _ i j).bind fun a b h => ?_
  subst h
  split
  · exact .err
  · exact .ok rfl

theorem operand_both (x : Ins) (k : Int) (s : Bytes) (i j : Int) : Both Eq (operand x k s i) (operand x k s j) := by
  unfold operand
  split
  · split
    · exact .ok rfl
    · split
      · exact .err
      · exact (num_both _ i j).bind fun a b h => by subst h; exact .ok rfl
  · split
    · exact (num_both _ i j).bind fun a b h => by subst h; exact .ok rfl
    · split
      · exact (cellOf_both _ _ i j).bind fun a b h => by subst h; exact .ok rfl
      · split
        · exact .ok rfl
        · split
          · exact .err
          · exact (num_both _ i j).bind fun a b h => by subst h; exact .ok rfl

/-- What is wanted, but for the lines. -/
def Want.core (w : Want) : Int × Bytes := (w.ins, w.name)
structure Alike (a b : St) : Prop where
  l : a.l = b.l
  labels : a.labels = b.labels
  lines : a.lines.length = b.lines.length
  wants : a.wants.map Want.core = b.wants.map Want.core

theorem operandsOf_both (at_ i j : Int) : ∀ (ks : List Int) (ss : List Bytes) (x : Ins) (ws vs : List Want), ws.map Want.core = vs.map Want.core →
    Both (fun a b => a.1 = b.1 ∧ a.2.map Want.core = b.2.map Want.core) (operandsOf at_ i x ws ks ss) (operandsOf at_ j x vs ks ss)
  | [], _, x, ws, vs, h => by simp only [operandsOf]; exact .ok ⟨rfl, h⟩
  | _ :: _, [], x, ws, vs, h => by simp only [operandsOf]; exact .ok ⟨rfl, h⟩
  | k :: ks, s :: ss, x, ws, vs, h => by
    simp only [operandsOf]
    refine (operand_both x k s i j).bind fun a b e => ?_
    subst e
    obtain ⟨y, is⟩ := a
    dsimp only
    refine operandsOf_both at_ i j ks ss y _ _ ?_
    cases is
    · simpa using h
    · simp [h, Want.core]

theorem line_both {a b : St} (h : Alike a b) (s : Bytes) (i j : Int) : Both Alike (line a s i) (line b s j) := by
  obtain ⟨h1, h2, h3, h4⟩ := h
  unfold line
  split
  · exact .ok ⟨h1, h2, h3, h4⟩
  · rename_i w ws hw
    split
    · dsimp only
      rw [h2, h1]
      split
      · exact .err
      · exact .ok ⟨rfl, rfl, by simp [h3], h4⟩
    · dsimp only
      split
      · exact .err
      · split
        · exact .err
        · rw [h1]
          refine (operandsOf_both _ i j _ _ _ _ _ h4).bind fun x y hxy => ?_
          obtain ⟨x, vs⟩ := x
          obtain ⟨y, us⟩ := y
          obtain ⟨e1, e2⟩ := hxy
          simp only at e1 e2
          subst e1
          dsimp only
          split
          · refine (mark_both _ _ i j).bind fun p q e => ?_
            subst e
            exact .ok ⟨rfl, h2, h3, e2⟩
          · exact .ok ⟨rfl, h2, h3, e2⟩

theorem runLines_both : ∀ (ls : List Bytes) (i j : Int) {a b : St}, Alike a b → Both Alike (runLines ls i a) (runLines ls j b)
  | [], _, _, _, _, h => .ok h
  | s :: r, i, j, _, _, h => (line_both h s i j).bind fun _ _ h' => runLines_both r (i + 1) (j + 1) h'

theorem runLines_append (n : Int) (st : St) (a b : List Bytes) : runLines (a ++ b) n st = (runLines a n st >>= fun st' => runLines b (n + a.length) st') := by
  induction a generalizing n st with
  | nil => simp [runLines, bind, Except.bind]
  | cons s r ih =>
    simp only [List.cons_append, runLines]
    cases line st s n with
    | error e => rfl
    | ok st' =>
      simp only [bind, Except.bind]
      rw [ih]
      simp only [bind, Except.bind, List.length_cons]
      have : n + 1 + (r.length : Int) = n + ((r.length + 1 : Nat) : Int) := by omega
      rw [this]

/-- Lines without words: nothing happens. -/
theorem runLines_silent (n : Int) (st : St) : ∀ (ls : List Bytes) , (∀ s ∈ ls, words s = []) → runLines ls n st = .ok st := by
  intro ls
  induction ls generalizing n with
  | nil => intro _; rfl
  | cons s r ih =>
    intro h
    have h0 := h s (by simp)
    have : line st s n = .ok st := by unfold line; rw [h0]
    simp only [runLines, this]
    exact ih (n + 1) (fun s hs => h s (by simp [hs]))

theorem resolve_both (labels : List (Bytes × Int)) : ∀ (ws vs : List Want) (l : List Ins), ws.map Want.core = vs.map Want.core → Both Eq (resolve labels ws l) (resolve labels vs l)
  | [], [], l, _ => .ok rfl
  | [], _ :: _, l, h => by simp at h
  | _ :: _, [], l, h => by simp at h
  | w :: ws, v :: vs, l, h => by
    simp only [List.map_cons, List.cons.injEq, Want.core, Prod.mk.injEq] at h
    obtain ⟨⟨h1, h2⟩, h3⟩ := h
    simp only [resolve, h1, h2]
    split
    · exact .err
    · exact resolve_both labels ws vs _ h3

theorem lastLabel_both (n : Int) : ∀ (ls : List (Bytes × Int)) (a b : List Int), a.length = b.length → Both (fun _ _ => True) (lastLabel n ls a) (lastLabel n ls b)
  | [], a, b, _ => by simp only [lastLabel]; exact .ok trivial
  | _ :: _, [], [], _ => by simp only [lastLabel]; exact .ok trivial
  | _ :: _, [], _ :: _, h => by simp at h
  | _ :: _, _ :: _, [], h => by simp at h
  | (_, at_) :: r, i :: s, j :: t, h => by
    simp only [lastLabel]
    split
    · exact .err
    · exact lastLabel_both n r s t (by simpa using h)

theorem finish_both {a b : St} (h : Alike a b) : Both Eq (finish a) (finish b) := by
  obtain ⟨h1, h2, h3, h4⟩ := h
  unfold finish
  rw [h2, h1]
  refine (resolve_both _ _ _ _ h4).bind fun l l' e => ?_
  subst e
  split
  · exact .err
  · exact (lastLabel_both _ _ _ _ h3).bind fun _ _ _ => .ok rfl

/-! ### Splitting -/
theorem splitNl_ne (cur : Bytes) : ∀ l : Bytes, splitNl cur l ≠ []
  | [] => by simp [splitNl]
  | c :: r => by
    unfold splitNl
    split
    · simp
    · exact splitNl_ne _ r
theorem splitNl_line (cur a r : Bytes) : splitNl cur (a ++ 10 :: r) = (splitNl cur (a ++ [10])).dropLast ++ splitNl [] r := by
  induction a generalizing cur with
  | nil => simp [splitNl]
  | cons c a ih =>
    simp only [List.cons_append, splitNl]
    split
    · rw [ih]
      rw [List.dropLast_cons_of_ne_nil (splitNl_ne [] _)]; rfl
    · exact ih _

/-- A text that ends a line, and what stands behind it. -/
theorem splitNl_ends (cur a : Bytes) : ∃ ls, ∀ r, splitNl cur (a ++ 10 :: r) = ls ++ splitNl [] r := ⟨_, fun r => splitNl_line cur a r⟩

/-- 'a' is empty, or it ends with a line's end: its lines stand ahead of whatever comes. -/
def Whole (a : Bytes) (ls : List Bytes) : Prop := ∀ r, splitNl [] (a ++ r) = ls ++ splitNl [] r
theorem Whole.nil : Whole [] [] := fun _ => rfl
theorem Whole.append {a b : Bytes} {la lb : List Bytes} (ha : Whole a la) (hb : Whole b lb) : Whole (a ++ b) (la ++ lb) := fun r => by
  rw [List.append_assoc, ha, hb, List.append_assoc]
theorem whole_of_ends {a : Bytes} (h : a = [] ∨ a.getLast? = some 10) : ∃ ls, Whole a ls := by
  rcases h with rfl | h
  · exact ⟨[], Whole.nil⟩
  · obtain ⟨ys, rfl⟩ := List.getLast?_eq_some_iff.1 h
    obtain ⟨ls, hls⟩ := splitNl_ends [] ys
    exact ⟨ls, fun r => by simpa using hls r⟩

/-- The silent lines that are laid in between. -/
def silents : List (Bytes × Bytes) := [([], [10]), ([32, 32, 32], [32, 32, 32, 10]), ([59, 32, 106, 109, 112, 32, 110, 111, 119, 104, 101, 114, 101], [59, 32, 106, 109, 112, 32, 110, 111, 119, 104, 101, 114, 101, 10]),
  ([32, 32, 59], [32, 32, 59, 10]), ([32, 59, 32, 120, 58, 32], [32, 59, 32, 120, 58, 32, 10])]
theorem silents_whole : ∀ p ∈ silents, Whole p.2 [p.1] ∧ words p.1 = [] := by
  intro p hp
  simp only [silents, List.mem_cons, List.not_mem_nil, or_false] at hp
  rcases hp with rfl | rfl | rfl | rfl | rfl <;> exact ⟨fun r => by simp [splitNl], by decide⟩
def more (n : Nat) : Bytes := ((silents.take n).map (·.2)).flatten
theorem more_whole (l : List (Bytes × Bytes)) (h : ∀ p ∈ l, Whole p.2 [p.1]) : Whole ((l.map (·.2)).flatten) (l.map (·.1)) := by
  induction l with
  | nil => exact Whole.nil
  | cons p r ih =>
    have := (h p (by simp)).append (ih fun q hq => h q (by simp [hq]))
    simpa using this

/-- What AsmSilent asks: a text cut at a line's beginning, silent lines laid in between. -/
theorem parse_silent (a b : Bytes) (n : Nat) (ha : a = [] ∨ a.getLast? = some 10) (h1 : (a ++ b).length ≤ 65536) (h2 : (a ++ more n ++ b).length ≤ 65536) :
    Both Eq (parse (a ++ b)) (parse (a ++ more n ++ b)) := by
  obtain ⟨la, hla⟩ := whole_of_ends ha
  have hm : Whole (more n) ((silents.take n).map (·.1)) := more_whole _ fun p hp => (silents_whole p (List.mem_of_mem_take hp)).1
  have hs : ∀ s ∈ (silents.take n).map (·.1), words s = [] := by
    intro s hs
    obtain ⟨p, hp, rfl⟩ := List.mem_map.1 hs
    exact (silents_whole p (List.mem_of_mem_take hp)).2
  unfold parse
  rw [if_neg (by omega), if_neg (by omega), hla b, (hla.append hm) b, List.append_assoc]
  rw [runLines_append, runLines_append]
  have key : Both Alike (runLines la 0 ⟨[], [], [], []⟩ >>= fun st' => runLines (splitNl [] b) (0 + la.length) st')
      (runLines la 0 ⟨[], [], [], []⟩ >>= fun st' => runLines ((silents.take n).map (·.1) ++ splitNl [] b) (0 + la.length) st') := by
    refine Both.bind (R := Eq) ?_ fun s t e => ?_
    · cases runLines la 0 ⟨[], [], [], []⟩ with
      | ok s => exact .ok rfl
      | error e => exact .err
    · subst e
      rw [runLines_append, runLines_silent _ _ _ hs]
      exact runLines_both _ _ _ ⟨rfl, rfl, rfl, rfl⟩
  exact key.bind fun _ _ h => finish_both h
end AsmM
