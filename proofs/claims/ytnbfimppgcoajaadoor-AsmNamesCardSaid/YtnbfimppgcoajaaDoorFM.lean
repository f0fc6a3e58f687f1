/-
  A part of the proofs: FM.
-/
import Derived.Test.YtnbfimppgcoajaaDoorDT
import Derived.Test.YtnbfimppgcoajaaDoorAbS
import Derived.Test.YtnbfimppgcoajaaDoorAsmNames
import Derived.Test.YtnbfimppgcoajaaDoorPB
namespace Go.Proofs
set_option linter.unusedSimpArgs false
set_option linter.unusedVariables false
set_option linter.unusedSectionVars false
open Go Go.Ab AsmM
variable [Go.Ab.Start]
set_option maxRecDepth 100000
set_option maxHeartbeats 1000000
def lowAt (s : ByteArray) (i : Nat) : Bool := decide (97 ≤ (getB s i).toNat ∧ (getB s i).toNat ≤ 122)
def digAt (s : ByteArray) (i : Nat) : Bool := decide (48 ≤ (getB s i).toNat ∧ (getB s i).toNat ≤ 57)
def goodAt (s : ByteArray) : Nat → Bool
  | 0 => decide (1 ≤ s.size ∧ s.size ≤ 16)
  | i + 1 => goodAt s i && (lowAt s i || (decide (0 < i) && digAt s i))
def cleanTo (s : ByteArray) (i : Nat) : Prop := ∀ k, k < i → (getB s k).toNat ≠ 10 ∧ (getB s k).toNat ≠ 32 ∧ (getB s k).toNat ≠ 59 ∧ (getB s k).toNat ≠ 58
theorem low_eq (s : ByteArray) (i : Nat) : isLow (getB s i) = lowAt s i := by
  unfold isLow lowAt
  rw [Bool.eq_iff_iff]
  simp [UInt8.le_iff_toNat_le]
theorem dig_eq (s : ByteArray) (i : Nat) : isDig (getB s i) = digAt s i := by
  unfold isDig digAt
  rw [Bool.eq_iff_iff]
  simp [UInt8.le_iff_toNat_le]
theorem goodAt_iff (s : ByteArray) : ∀ i, goodAt s i = true ↔ (1 ≤ s.size ∧ s.size ≤ 16) ∧ ∀ k, k < i → lowAt s k = true ∨ (0 < k ∧ digAt s k = true)
  | 0 => by simp [goodAt]
  | i + 1 => by
    unfold goodAt
    rw [Bool.and_eq_true, goodAt_iff s i, Bool.or_eq_true, Bool.and_eq_true, decide_eq_true_iff]
    constructor
    · rintro ⟨⟨h1, h2⟩, h3⟩
      refine ⟨h1, fun k hk => ?_⟩
      rcases Nat.lt_succ_iff_lt_or_eq.1 hk with h | h
      · exact h2 k h
      · subst h; exact h3
    · rintro ⟨h1, h2⟩
      exact ⟨⟨h1, fun k hk => h2 k (by omega)⟩, h2 i (by omega)⟩
theorem at_getB (s : ByteArray) (k : Nat) (h : k < s.size) : s.data.toList[k]? = some (getB s k) := by
  have hl : k < s.data.toList.length := by simpa using h
  rw [List.getElem?_eq_getElem hl]
  unfold getB
  rw [List.getD_eq_getElem?_getD, List.getElem?_eq_getElem hl]; rfl
theorem mem_getB (s : ByteArray) (c : UInt8) (h : c ∈ s.data.toList) : ∃ k, k < s.size ∧ getB s k = c := by
  obtain ⟨k, hk, he⟩ := List.mem_iff_getElem.1 h
  have h2 : k < s.size := by simpa using hk
  have := at_getB s k h2
  rw [List.getElem?_eq_getElem hk] at this
  injection this with this
  exact ⟨k, h2, by rw [← this, he]⟩
theorem good_eq (s : ByteArray) : goodName s.data.toList = goodAt s s.size := by
  rw [Bool.eq_iff_iff, goodAt_iff]
  unfold goodName
  simp only [Bool.and_eq_true, decide_eq_true_eq, List.all_eq_true, Bool.or_eq_true]
  have hl : s.data.toList.length = s.size := by simp
  rw [hl]
  constructor
  · rintro ⟨⟨⟨h1, h2⟩, h3⟩, h4⟩
    refine ⟨⟨h1, h2⟩, fun k hk => ?_⟩
    rcases h4 (getB s k) (List.mem_of_getElem? (at_getB s k hk)) with h | h
    · rw [low_eq] at h; exact .inl h
    · rw [dig_eq] at h
      rcases Nat.eq_zero_or_pos k with h0 | h0
      · subst h0
        rw [head_of s hk] at h3
        simp only [Option.map_some, Option.getD_some] at h3
        rw [low_eq] at h3; exact .inl h3
      · exact .inr ⟨h0, h⟩
  · rintro ⟨⟨h1, h2⟩, h3⟩
    refine ⟨⟨⟨h1, h2⟩, ?_⟩, fun c hc => ?_⟩
    · rw [head_of s h1]
      simp only [Option.map_some, Option.getD_some]
      rw [low_eq]
      rcases h3 0 h1 with h | h
      · exact h
      · omega
    · obtain ⟨k, hk, rfl⟩ := mem_getB s c hc
      rw [low_eq, dig_eq]
      rcases h3 k hk with h | h
      · exact .inl h
      · exact .inr h.2
theorem clean_of (s : ByteArray) (h : cleanTo s s.size) : clean s.data.toList := by
  intro c hc
  obtain ⟨k, hk, rfl⟩ := mem_getB s c hc
  obtain ⟨h1, h2, h3, h4⟩ := h k hk
  refine ⟨fun e => h1 (by rw [e]; rfl), fun e => h2 (by rw [e]; rfl), fun e => h3 (by rw [e]; rfl), fun e => h4 (by rw [e]; rfl)⟩
theorem regLike_of (s : ByteArray) (h : regLike s.data.toList = true) : 2 ≤ s.size ∧ (getB s 0).toNat = 114 ∧ 48 ≤ (getB s 1).toNat ∧ (getB s 1).toNat ≤ 57 := by
  have hl : s.data.toList.length = s.size := by simp
  match hd : s.data.toList with
  | [] => rw [hd] at h; cases h
  | [_] => rw [hd] at h; cases h
  | a :: b :: r =>
    rw [hd] at h hl
    have h2 : 2 ≤ s.size := by simp at hl; omega
    have g0 := at_getB s 0 (by omega)
    have g1 := at_getB s 1 (by omega)
    rw [hd] at g0 g1
    simp only [List.getElem?_cons_zero, List.getElem?_cons_succ, Option.some.injEq] at g0 g1
    simp only [regLike, Bool.and_eq_true, decide_eq_true_eq] at h
    have hd1 := dig_eq s 1
    rw [← g1, h.2] at hd1
    have hd2 := of_decide_eq_true hd1.symm
    exact ⟨h2, by rw [← g0, h.1]; rfl, hd2.1, hd2.2⟩
end Go.Proofs
