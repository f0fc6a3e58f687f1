/-
  A part of the proofs: AsmNames.
-/
import Derived.Test.YtnbfimppgcoajaaDoorAsmSilent
namespace AsmM
set_option linter.unusedSimpArgs false
set_option linter.unusedVariables false
set_option linter.unusedSectionVars false

def goodName (name : Bytes) : Bool := 1 ≤ name.length && name.length ≤ 16 && (name.head?.map isLow).getD false && name.all (fun c => isLow c || isDig c)
def regLike (name : Bytes) : Bool := match name with
  | a :: b :: _ => a = 114 && isDig b
  | _ => false

theorem named_of_good {s : Bytes} (h : goodName s = true) (hr : regLike s = false) : named s = true := by
  unfold named
  have : register s = none := by
    unfold register
    split
    · rename_i r d
      simp only [regLike, Bool.and_eq_false_iff, decide_eq_false_iff_not] at hr
      rw [if_neg]
      rintro ⟨rfl, h2⟩
      rcases hr with hr | hr
      · exact hr rfl
      · rw [h2] at hr; cases hr
    · rename_i r d e
      simp only [regLike, Bool.and_eq_false_iff, decide_eq_false_iff_not] at hr
      rw [if_neg]
      rintro ⟨rfl, h2, _⟩
      rcases hr with hr | hr
      · exact hr rfl
      · rw [h2] at hr; cases hr
    · rfl
  unfold goodName at h
  rw [h, this]; rfl

theorem good_of_named {s : Bytes} (h : named s = true) : goodName s = true := by
  unfold named at h
  simp only [Bool.and_eq_true] at h
  unfold goodName
  simp only [Bool.and_eq_true]
  exact h.1

def clean (name : Bytes) : Prop := ∀ c ∈ name, c ≠ 10 ∧ c ≠ 32 ∧ c ≠ 59 ∧ c ≠ 58

theorem strip_clean {s : Bytes} (h : ∀ c ∈ s, c ≠ 59) : strip s = s := by
  unfold strip
  induction s with
  | nil => rfl
  | cons c r ih =>
    have hc := h c (by simp)
    rw [List.takeWhile_cons_of_pos (by simp [hc])]
    rw [ih fun d hd => h d (by simp [hd])]

theorem cut_word (cur : Bytes) : ∀ {s : Bytes}, (∀ c ∈ s, c ≠ 32) → cur ++ s ≠ [] → cut cur s = [cur ++ s] := by
  intro s
  induction s generalizing cur with
  | nil =>
    intro _ h
    rw [List.append_nil] at h
    simp [cut, h]
  | cons c r ih =>
    intro h _
    have hc := h c (by simp)
    unfold cut
    rw [if_neg hc, ih (cur ++ [c]) (fun d hd => h d (by simp [hd])) (by simp)]
    simp

theorem cut_word_then (cur : Bytes) (r : Bytes) : ∀ {s : Bytes}, (∀ c ∈ s, c ≠ 32) → cur ++ s ≠ [] → cut cur (s ++ 32 :: r) = (cur ++ s) :: cut [] r := by
  intro s
  induction s generalizing cur with
  | nil =>
    intro _ h
    rw [List.append_nil] at h
    simp [cut, h]
  | cons c t ih =>
    intro h _
    have hc := h c (by simp)
    rw [List.cons_append]
    rw [cut, if_neg hc, ih (cur ++ [c]) (fun d hd => h d (by simp [hd])) (by simp)]
    simp

theorem splitNl_word (cur r : Bytes) : ∀ {s : Bytes}, (∀ c ∈ s, c ≠ 10) → splitNl cur (s ++ 10 :: r) = (cur ++ s) :: splitNl [] r := by
  intro s
  induction s generalizing cur with
  | nil => intro _; simp [splitNl]
  | cons c t ih =>
    intro h
    have hc := h c (by simp)
    rw [List.cons_append]
    rw [splitNl, if_neg hc, ih (cur ++ [c]) (fun d hd => h d (by simp [hd]))]
    simp

theorem words_label {name : Bytes} (h : clean name) : words (name ++ [58]) = [name ++ [58]] := by
  unfold words
  rw [strip_clean (by intro c hc; simp at hc; rcases hc with hc | rfl; exact (h c hc).2.2.1; decide)]
  rw [cut_word [] (by intro c hc; simp at hc; rcases hc with hc | rfl; exact (h c hc).2.1; decide) (by simp)]
  rfl

theorem words_jmp {name : Bytes} (h : clean name) (h0 : name ≠ []) : words ([106, 109, 112, 32] ++ name) = [[106, 109, 112], name] := by
  unfold words
  rw [strip_clean (by intro c hc; simp at hc; rcases hc with rfl | rfl | rfl | rfl | hc; all_goals first | decide | exact (h c hc).2.2.1)]
  have := cut_word_then [] name (s := [106, 109, 112]) (by decide) (by simp)
  simp only [List.cons_append, List.nil_append] at this ⊢
  rw [this, cut_word [] (fun c hc => (h c hc).2.1) (by simpa using h0)]
  rfl

theorem parse_names {name : Bytes} (hc : clean name) (hl : name.length ≤ 100) (hr : ¬ (goodName name = true ∧ regLike name = true)) :
    parse (name ++ [58, 10, 106, 109, 112, 32] ++ name ++ [10]) =
      if goodName name then .ok ([{ Ins.zero with op := 12 }], [(name, 0)]) else .error ⟨0, none, 6⟩ := by
  have e : name ++ [58, 10, 106, 109, 112, 32] ++ name ++ [10] = (name ++ [58]) ++ 10 :: (([106, 109, 112, 32] ++ name) ++ 10 :: []) := by simp
  unfold parse
  rw [if_neg (by simp; omega), e]
  rw [splitNl_word [] _ (by intro c h; simp at h; rcases h with h | rfl; exact (hc c h).1; decide)]
  simp only [runLines]
  have hline : line ⟨[], [], [], []⟩ ([] ++ (name ++ [58])) 0 = if named name then .ok ⟨[], [(name, 0)], [0], []⟩ else .error (bad 0) := by
    unfold line
    rw [List.nil_append, words_label hc]
    dsimp only
    rw [if_pos (by simp), List.dropLast_concat]
    cases named name <;> simp
  rw [hline]
  by_cases hg : goodName name = true
  · have hr' : regLike name = false := by
      cases h : regLike name
      · rfl
      · exact (hr ⟨hg, h⟩).elim
    have hn := named_of_good hg hr'
    have h0 : name ≠ [] := by
      rintro rfl
      simp [goodName] at hg
    rw [if_pos hn, if_pos hg]
    simp only [bind, Except.bind]
    rw [splitNl_word [] _ (by intro c h; simp at h; rcases h with rfl | rfl | rfl | rfl | h; all_goals first | decide | exact (hc c h).1)]
    simp only [runLines, splitNl]
    have h1 : line ⟨[], [(name, 0)], [0], []⟩ ([] ++ ([106, 109, 112, 32] ++ name)) (0 + 1) = .ok ⟨[{ Ins.zero with op := 12 }], [(name, 0)], [0], [⟨0, 1, name⟩]⟩ := by
      unfold line
      rw [List.nil_append, words_jmp hc h0]
      dsimp only
      rw [if_neg (by simp)]
      have ho : opOf [106, 109, 112] = 12 := by decide
      rw [ho]
      have hop : ∀ x l, operand x 8 name l = .ok (x, true) := fun x l => by simp [operand, hn]
      simp [operands, bind, Except.bind, operandsOf, Ins.zero, hop]
    rw [h1]
    simp only [bind, Except.bind]
    have h2 : line ⟨[{ Ins.zero with op := 12 }], [(name, 0)], [0], [⟨0, 1, name⟩]⟩ [] (0 + 1 + 1) = .ok ⟨[{ Ins.zero with op := 12 }], [(name, 0)], [0], [⟨0, 1, name⟩]⟩ := by
      unfold line
      have : words [] = [] := by decide
      rw [this]
    rw [h2]
    simp [finish, resolve, find, setV, lastLabel, bind, Except.bind, Ins.zero]
  · have hn : named name = false := by
      cases h : named name
      · rfl
      · exact (hg (good_of_named h)).elim
    rw [if_neg hg, if_neg (by rw [hn]; decide)]
    rfl
end AsmM
