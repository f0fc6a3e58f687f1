/-
  A part of the proofs: EI.
-/
import Derived.Test.YtnbfimppgcoajaaDoorDT
import Derived.Test.YtnbfimppgcoajaaDoorAbS
import Derived.Test.YtnbfimppgcoajaaDoorPA
import Derived.Test.YtnbfimppgcoajaaDoorEH
namespace Go.Proofs
set_option linter.unusedSimpArgs false
set_option linter.unusedVariables false
set_option linter.unusedSectionVars false
open Go Go.Ab AsmM
variable [Go.Ab.Start]
set_option maxRecDepth 100000
set_option maxHeartbeats 1000000
theorem same_string (a b : ByteArray) : Instr.sameNow .string (.string a) (.string b) = some (decide (a.data.toList = b.data.toList)) := by
  have e : Instr.sameNow .string (.string a) (.string b) = some (a.data == b.data) := rfl
  rw [e, Option.some.injEq, Bool.eq_iff_iff, decide_eq_true_eq, beq_iff_eq]
  exact ⟨fun h => by rw [h], fun h => Array.toList_inj.1 h⟩
theorem find_mapE (s : ByteArray) : ∀ (ms : List (Bytes × Int)) (k i0 : Nat), findA .string (.string s) ((ms.zipIdx k).map fun p => (.string (bA p.1.1), .int .i64 (p.2 : Nat))) i0 = some ((ms.findIdx? (fun p => decide (s.data.toList = p.1))).map fun j => (i0 + j, .int .i64 ((k + j : Nat) : Int)))
  | [], k, i0 => rfl
  | p :: ms, k, i0 => by
    rw [List.zipIdx_cons, List.map_cons]
    simp only [findA, same_string, bA_data]
    rw [List.findIdx?_cons]
    by_cases h : s.data.toList = p.1
    · simp [h]
    · simp only [h, decide_false]
      rw [find_mapE s ms (k + 1) (i0 + 1)]
      simp only [Bool.false_eq_true, if_false, Option.map_map]
      congr 1
      cases ms.findIdx? (fun p => decide (s.data.toList = p.1)) with
      | none => rfl
      | some j => simp; omega
theorem look56 {H : AHeap} {mp : Nat} {ms : List (Bytes × Int)} (h : H mp = .map (mapE ms)) (s : ByteArray) : lookV Tryd.prog H 56 (.map (some mp)) (.string s) true = some (match ms.findIdx? (fun p => decide (s.data.toList = p.1)) with | some j => .tuple (List.toArray [.int .i64 (j : Nat), .bool true]) | none => .tuple (List.toArray [.int .i64 0, .bool false])) := by
  unfold lookV lookupA
  rw [if_pos (show scalar (.string s) = true from rfl), D.m56]
  simp only [Option.bind_some, findIn, h, mapE]
  rw [find_mapE s ms 0 0]
  cases ms.findIdx? (fun p => decide (s.data.toList = p.1)) with
  | none => simp only [Option.map_none, Option.bind_some, show zeroA Tryd.prog 3 = some (.int .i64 0) by kernel_rfl]; rfl
  | some j => simp
theorem upd56 {H : AHeap} {mp : Nat} {ms : List (Bytes × Int)} (h : H mp = .map (mapE ms)) (s : ByteArray) (hn : ms.findIdx? (fun p => decide (s.data.toList = p.1)) = none) (at_ : Int) : updH Tryd.prog H 56 (.map (some mp)) (.string s) (.int .i64 (ms.length : Nat)) = some (H.set mp (.map (mapE (ms ++ [(s.data.toList, at_)])))) := by
  unfold updH updateA
  rw [if_pos (show scalar (.string s) = true from rfl), D.m56]
  simp only [Option.bind_some, h]
  have := find_mapE s ms 0 0
  rw [hn] at this
  have e : mapE ms = (ms.zipIdx 0).map fun p => (.string (bA p.1.1), .int .i64 (p.2 : Nat)) := rfl
  rw [e, this]
  simp only [Option.map_some, Option.map_none]
  congr 3
  unfold mapE
  rw [List.zipIdx_append, List.map_append]
  simp [bA_of]
theorem cut_ne : ∀ (r cur : Bytes) (w : Bytes), w ∈ cut cur r → w ≠ []
  | [], cur, w, h => by
    unfold cut at h
    split at h
    · simp at h
    · rename_i hc; rw [List.mem_singleton.1 h]; exact hc
  | c :: r, cur, w, h => by
    unfold cut at h
    split at h
    · split at h
      · exact cut_ne r [] w h
      · rename_i hc
        rcases List.mem_cons.1 h with h | h
        · rw [h]; exact hc
        · exact cut_ne r [] w h
    · exact cut_ne r _ w h
theorem cut_len : ∀ (r cur : Bytes) (w : Bytes), w ∈ cut cur r → w.length ≤ cur.length + r.length
  | [], cur, w, h => by
    unfold cut at h
    split at h
    · simp at h
    · rw [List.mem_singleton.1 h]; simp
  | c :: r, cur, w, h => by
    unfold cut at h
    split at h
    · split at h
      · have := cut_len r [] w h; simp at this ⊢; omega
      · rcases List.mem_cons.1 h with h | h
        · rw [h]; omega
        · have := cut_len r [] w h; simp at this ⊢; omega
    · have := cut_len r _ w h; simp at this ⊢; omega
end Go.Proofs
