/-
  A part of the proofs over the assembler: EL.
-/
import Derived.Test.YtnbfimppgcoajaaDoorDT
import Derived.Test.YtnbfimppgcoajaaDoorAbS
import Derived.Test.YtnbfimppgcoajaaDoorAsmModel
import Derived.Test.YtnbfimppgcoajaaDoorEK
namespace Go.Proofs
set_option linter.unusedSimpArgs false
set_option linter.unusedVariables false
open Go Go.Ab AsmM
variable [Go.Ab.Start]
set_option maxRecDepth 100000
set_option maxHeartbeats 1000000
theorem line21 (r mp : Nat) (s : ByteArray) (line_ : Int) (hs : s.size ≤ 1000000) (H : AHeap) (st : St) (o1 o2 o3 o4 : Option Nat) (hR : RdR H r st st.labels mp o1 o2 o3 o4) (hl1 : st.wants.length ≤ 900000) (hl2 : st.l.length ≤ 900000) (hl3 : st.labels.length ≤ 900000) (hl4 : st.lines.length ≤ 900000) (K : Value → AHeap → Prop)
    (hok : ∀ H' st' p1 p2 p3 p4, line st s.data.toList line_ = .ok st' → RdR H' r st' st'.labels mp p1 p2 p3 p4 → (∀ j, FR r mp p1 p2 p3 p4 j → FR r mp o1 o2 o3 o4 j ∨ H j = .none) → Chg (FR r mp o1 o2 o3 o4) H H' → K .nilIface H')
    (herr : ∀ H' e er, line st s.data.toList line_ = .error er → ErrR H' e er → Chg (FR r mp o1 o2 o3 o4) H H' → K e H') : ACalls Tryd.prog 21 #[.pointer (some ⟨r, 0, none⟩), .string s, .int .i64 line_] H K := by
  by_cases hC : ∀ w ws, words s.data.toList = w :: ws → ws = [] ∧ w.getLast? = some 58
  · exact line21_lab r mp s line_ hs H st o1 o2 o3 o4 hR hl1 hl2 hl3 hl4 hC K hok herr
  · cases hw : words s.data.toList with
    | nil => exact absurd (fun w ws h => by rw [hw] at h; cases h) hC
    | cons w ws =>
      refine line21_ins r mp s line_ hs H st o1 o2 o3 o4 hR hl1 hl2 hl3 hl4 (fun w' ws' h => ?_) (by rw [hw]; simp) K hok herr
      intro h'
      exact hC fun w2 ws2 h2 => by rw [h] at h2; injection h2 with a b; subst a; subst b; exact h'
end Go.Proofs
