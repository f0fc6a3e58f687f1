/-
  A CALCULUS OVER ABSTRACT HEAPS: append. Over an abstract heap it stays where it is, where there is room for sure; else what was there is put by, and the whole lies under a new name: whether the model writes behind what was there, or makes a new row as large as the tape says.
-/
import Derived.Test.YtnbfimppgcoajaaDoorAbOps2
import Derived.Lib.AppendStr
namespace Go.Ab
set_option linter.unusedSimpArgs false
set_option linter.unusedVariables false
set_option linter.unusedSectionVars false
variable [Start]

def notInt : TypeDesc → Bool
  | .string | .slice _ => true
  | _ => false
section
variable {P : Program}
omit [Go.Ab.Start] in
theorem run_append_in (w : World) (t xt ty e : TypeId) (i : TypeInfo) {d : TypeDesc} (ht : P.underlying t = some (.slice e)) (hu : P.underlying xt = some d) (hd : notInt d = true) (hi : P.info? e = some i)
    (base : Option Addr) (sLen sCap : Nat) (x : Value) (m : Nat) (news : Array Value) (hl : (Builtin.lenOf x).run P w = .ok m w) (hf : (Builtin.firstCells i.size m x).run P w = .ok news w) (hroom : sLen + m ≤ sCap) :
    (Builtin.append_ #[t, xt] ty #[.slice base sLen sCap, x]).run P w =
      ((match base with | some a => storeCells (a.add (sLen * i.size)) news.toList | none => pure () : Sem Unit).run P w).andThen fun _ w' => .ok (.slice base (sLen + m) sCap) w' := by
  cases d <;> try (cases hd; done)
  all_goals cases base <;> simp [Builtin.append_, run_underlying ht, run_underlying hu, sizeOf, typeInfo, hi, hl, hroom, hf]
omit [Go.Ab.Start] in
theorem run_append_out (w : World) (t xt ty e : TypeId) (i : TypeInfo) (z : Value) {d : TypeDesc} (ht : P.underlying t = some (.slice e)) (hu : P.underlying xt = some d) (hd : notInt d = true) (hi : P.info? e = some i) (hz : i.zero = some z)
    (base : Option Addr) (sLen sCap : Nat) (x : Value) (m : Nat) (olds news : Array Value) (hl : (Builtin.lenOf x).run P w = .ok m w) (hfo : (Builtin.firstCells i.size sLen (.slice base sLen sCap)).run P w.drew = .ok olds w.drew)
    (hf : (Builtin.firstCells i.size m x).run P w.drew = .ok news w.drew)
    (hg : sCap < sLen + m) (h63 : sLen + m ≤ 9223372036854775807) (hbytes : (sLen + m) * i.bytes ≤ 140737488355328) :
    (Builtin.append_ #[t, xt] ty #[.slice base sLen sCap, x]).run P w =
      .ok (.slice (some ⟨w.heap.size, 0, none⟩) (sLen + m) (grownCap w (sLen + m) sCap e))
        (w.drew.alloc (.cells (olds ++ news ++ Builtin.zeroCells z.cells (grownCap w (sLen + m) sCap e - (sLen + m))) e)) := by
  have hn : ¬ (sLen + m ≤ sCap) := by omega
  have h63' : ¬ (9223372036854775807 < ((sLen : Int) + (m : Int))) := by omega
  have h48' : ¬ (281474976710656 < Builtin.nextslicecap (sLen + m) sCap * i.bytes) := by have := growslice_fits hg hbytes; omega
  cases d <;> try (cases hd; done)
  all_goals simp [Builtin.append_, run_underlying ht, run_underlying hu, sizeOf, typeInfo, zeroValue, hi, hz, hl, hn, h63', h48', Question.forced, hf, hfo, newRow, grownCap]
end

/-- What is appended: the cells, how many elements. -/
def newsA (P : Program) (H : AHeap) (size : Nat) (xt : TypeId) (x : Value) : Option (List Value × Nat) := match P.underlying xt, x with
  | some (.slice _), .slice none 0 _ => some ([], 0)
  | some (.slice _), .slice (some ⟨j, k, none⟩) m _ => (cellsOf (H j)).bind fun cs => if k + m * size ≤ cs.length then some ((cs.drop k).take (m * size), m) else none
  | some (.slice _), .slice (some ⟨_, _, some _⟩) 0 _ => some ([], 0)
  | some .string, .string s => if size = 1 then some (Lib.strCells s, s.size) else none
  | _, _ => none
def appendW (P : Program) (t xt : TypeId) (s x : Value) (H : AHeap) (K : Value → AHeap → Prop) : Prop := match elemA P t with
  | none => False
  | some e => match newsA P H e.size xt x with
    | none => False
    | some (news, m) => match s with
      | .slice none 0 0 => if m = 0 then K (.slice none 0 0) H else (m * e.bytes ≤ 140737488355328 ∧ m ≤ 9223372036854775807) ∧ ∀ j, H j = .none → K (.slice (some ⟨j, 0, none⟩) m m) (H.set j (.cells news))
      | .slice (some ⟨i, 0, none⟩) n c => match H i with
        | .cells cs => if n + m ≤ c then (n + m) * e.size ≤ cs.length ∧ K (.slice (some ⟨i, 0, none⟩) (n + m) c) (H.set i (.cells (putL cs (n * e.size) news)))
          else (cs.length = c * e.size ∧ n ≤ c ∧ (n + m) * e.bytes ≤ 140737488355328 ∧ n + m ≤ 9223372036854775807) ∧
            ∀ j, H j = .none → K (.slice (some ⟨j, 0, none⟩) (n + m) (n + m)) ((H.set i .dead).set j (.cells (cs.take (n * e.size) ++ news)))
        | _ => False
      | _ => False

/-- A block that nobody owns may turn. -/
theorem Rel.scribble {base : Nat} {w0 : World} {φ : Emb} {H : AHeap} {w w' : World} (r : Rel base w0 φ H w) {b : Nat} (hb : base ≤ b) (hno : ∀ i e, φ i = some e → (H i).live = true → e.blk ≠ b) (hs : w'.heap.size = w.heap.size)
    (hsame : ∀ k, k ≠ b → w'.heap[k]? = w.heap[k]?) (hio : IoSame w w') : Rel base w0 φ H w' := by
  refine ⟨r.fin, r.dom, by rw [hs]; exact r.size, r.good, fun k h => (hsame k (by omega)).trans (r.low k h), r.io.trans hio, fun i e h => ?_, r.own, r.rob, r.sep⟩
  cases ho : H i with
  | none => trivial
  | dead => trivial
  | ro cs =>
    have := r.obj i e h
    rw [ho] at this
    exact this.world (hsame _ (by have := r.rob i e cs h ho; omega))
  | cells cs =>
    have := r.obj i e h
    rw [ho] at this
    exact this.world (hsame _ (hno i e h (by rw [ho]; rfl)))
  | map es =>
    have := r.obj i e h
    rw [ho] at this
    exact this.world (hsame _ (hno i e h (by rw [ho]; rfl)))

omit [Go.Ab.Start] in
theorem strCells_rel (φ : Emb) (s : ByteArray) : ArrR φ (Lib.strCells s).toArray (Lib.strCells s).toArray :=
  ArrR.of_plain φ (by
    rw [List.all_eq_true]
    intro v hv
    simp only [Lib.strCells, List.mem_map] at hv
    obtain ⟨b, _, rfl⟩ := hv
    rfl)

/-- What is appended, in a world. -/
theorem news_run {P : Program} {base : Nat} {w0 : World} {φ : Emb} {H : AHeap} {w : World} (r : Rel base w0 φ H w) {size : Nat} {xt : TypeId} {x x' : Value} (hx : VR φ x x') {news : List Value} {m : Nat} (h : newsA P H size xt x = some (news, m)) :
    ∃ (ds : List Value) (d : TypeDesc), P.underlying xt = some d ∧ notInt d = true ∧ news.length = m * size ∧ (∀ v ∈ news, v.oneCell' = true) ∧ ArrR φ news.toArray ds.toArray ∧ (∀ u ∈ ds, u.oneCell' = true) ∧
      (Builtin.lenOf x').run P w = .ok m w ∧ (Builtin.firstCells size m x').run P w = .ok ds.toArray w ∧ (Builtin.firstCells size m x').run P w.drew = .ok ds.toArray w.drew := by
  unfold newsA at h
  cases hu : P.underlying xt with
  | none => rw [hu] at h; cases h
  | some d =>
    rw [hu] at h
    cases d with
    | string =>
      cases hx with
      | string s =>
        simp only at h
        split at h
        · rename_i h1
          simp only [Option.some.injEq, Prod.mk.injEq] at h
          obtain ⟨rfl, rfl⟩ := h
          subst h1
          exact ⟨Lib.strCells s, .string, rfl, rfl, by rw [Lib.strCells_length]; omega, Lib.strCells_oneCell s, strCells_rel φ s, Lib.strCells_oneCell s, rfl, Lib.run_firstCells_string w 1 s, Lib.run_firstCells_string w.drew 1 s⟩
        · cases h
      | _ => cases h
    | slice et =>
      cases hx with
      | sliceNil n c =>
        cases n with
        | zero =>
          simp only [Option.some.injEq, Prod.mk.injEq] at h
          obtain ⟨rfl, rfl⟩ := h
          exact ⟨[], .slice et, rfl, rfl, by simp, by simp, ⟨rfl, fun i h => by simp at h⟩, by simp, rfl, by simp [Builtin.firstCells], by simp [Builtin.firstCells]⟩
        | succ n => cases h
      | @slice j k n c c' e hj hc =>
        simp only at h
        cases hcs : cellsOf (H j) with
        | none => rw [hcs] at h; cases h
        | some cs =>
          rw [hcs] at h
          simp only [Option.bind_some] at h
          split at h
          · rename_i hle
            simp only [Option.some.injEq, Prod.mk.injEq] at h
            obtain ⟨rfl, rfl⟩ := h
            obtain ⟨ds, h1, h2, h3, h4⟩ := row_of r hj hcs k (n * size) hle
            obtain ⟨_, _, hone⟩ := cells_of r hj hcs
            have hf : ∀ w', (∀ a, w'.cell? a = w.cell? a) → (Builtin.firstCells size n (.slice (some ⟨e.blk, e.off + k, none⟩) n c')).run P w' = .ok ds.toArray w' := fun w' hw' =>
              run_firstCells_some w' size n _ n c' ds h1 (fun j v hv => by rw [add_off, hw']; exact h2 j v hv)
            refine ⟨ds, .slice et, rfl, rfl, by simp; omega, fun v hv => ?_, h4, h3, rfl, hf w fun _ => rfl, hf w.drew fun _ => rfl⟩
            obtain ⟨q, hq, rfl⟩ := List.getElem_of_mem hv
            rw [List.getElem_take, List.getElem_drop]
            have hq' : k + q < cs.length := by simp at hq; omega
            exact (hone (k + q) _ (List.getElem?_eq_getElem hq')).1
          · cases h
      | sliceEmpty a' c' =>
        simp only [Option.some.injEq, Prod.mk.injEq] at h
        obtain ⟨rfl, rfl⟩ := h
        exact ⟨[], .slice et, rfl, rfl, by simp, by simp, ⟨rfl, fun i h => by simp at h⟩, by simp, rfl, by simp [Builtin.firstCells, loadCells, loadCellsFrom], by simp [Builtin.firstCells, loadCells, loadCellsFrom]⟩
      | _ => cases h
    | _ => cases h
end Go.Ab
