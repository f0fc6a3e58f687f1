/-
  A part of the proofs: AbRo HO.
-/
import Derived.Test.YtnbfimppgcoajaaDoorAbLaw
import Derived.Test.YtnbfimppgcoajaaDoorAbS
import Derived.Test.YtnbfimppgcoajaaDoorPHC
import Derived.ProofKit
import Derived.ChangeMaps5
import Derived.SizedLaws
import Derived.Carry
namespace Go.Ab
set_option linter.unusedSimpArgs false
set_option linter.unusedVariables false
set_option linter.unusedSectionVars false
variable [Start]
variable {P : Program}
/-- A row of scalars in the world in which all begins. -/
structure RowAt (w : World) (e : Ent) (cs : List Value) : Prop where
  len : cs.length = e.n
  blk : ∃ C t fr, w.heap[e.blk]? = some (.cells C t fr)
  all : ∀ k v, cs[k]? = some v → scalar v = true ∧ w.cell? ⟨e.blk, e.off + k, none⟩ = some v
def roH (L : List (Ent × List Value)) : AHeap := fun i => match L[i]? with | some p => .ro p.2 | none => .none
def roE (L : List (Ent × List Value)) : Emb := fun i => (L[i]?).map (·.1)
omit [Go.Ab.Start] in
theorem one_of_scalar {v : Value} (h : scalar v = true) : v.oneCell' = true := by cases v <;> first | rfl | (simp [scalar] at h)
theorem rel_ro {w : World} {L : List (Ent × List Value)} (hg : Start.good w.heap.size w) (h : ∀ p ∈ L, RowAt w p.1 p.2) : Rel w.heap.size w (roE L) (roH L) w := by
  have get : ∀ i e, roE L i = some e → ∃ p, L[i]? = some p ∧ p.1 = e ∧ p ∈ L := fun i e hi => by
    unfold roE at hi
    cases hL : L[i]? with
    | none => rw [hL] at hi; cases hi
    | some p => rw [hL] at hi; cases hi; exact ⟨p, rfl, rfl, List.mem_of_getElem? hL⟩
  have getH : ∀ i p, L[i]? = some p → roH L i = .ro p.2 := fun i p hi => by unfold roH; rw [hi]
  refine ⟨⟨L.length, fun i hi => ?_⟩, fun i e hi => ?_, Nat.le_refl _, hg, fun _ _ => rfl, ⟨rfl, rfl⟩, fun i e hi => ?_, fun i e hi hl => ?_, fun i e cs hi hc => ?_, fun i j e d hi hj hl _ _ => ?_⟩
  · unfold roH roE; rw [List.getElem?_eq_none hi]; exact ⟨rfl, rfl⟩
  · obtain ⟨p, hp, _, _⟩ := get i e hi; rw [getH i p hp]; simp
  · obtain ⟨p, hp, rfl, hm⟩ := get i e hi
    rw [getH i p hp]
    have hr := h p hm
    exact ⟨hr.len, hr.blk, fun k v hv => ⟨one_of_scalar (hr.all k v hv).1, v, (hr.all k v hv).2, .of_scalar _ (hr.all k v hv).1⟩⟩
  · obtain ⟨p, hp, _, _⟩ := get i e hi; rw [getH i p hp] at hl; cases hl
  · obtain ⟨p, hp, rfl, hm⟩ := get i e hi
    obtain ⟨C, t, fr, hb⟩ := (h p hm).blk
    exact (Array.getElem?_eq_some_iff.1 hb).1
  · obtain ⟨p, hp, _, _⟩ := get i e hi; rw [getH i p hp] at hl; cases hl
/-- From the calculus to a call of a law whose arguments are only read. -/
theorem law_calls_ro {f : FuncId} {args cargs : List Value} {w : World} {L : List (Ent × List Value)} (he : Enter P f) (hg : Start.good w.heap.size w) (h : ∀ p ∈ L, RowAt w p.1 p.2) (ha : ArrR (roE L) args.toArray cargs.toArray)
    (hc : ACalls P f args.toArray (roH L) fun v _ => v = .bool true) :
    Calls P f cargs.toArray w fun e w' => e = .returned (.bool true) ∧ IoSame w w' ∧ w.heap.size ≤ w'.heap.size ∧ ∀ b, b < w.heap.size → w'.heap[b]? = w.heap[b]? := by
  refine (acalls_calls hc he (rel_ro hg h) ha).mono fun e w' hq => ?_
  obtain ⟨v', rfl, φ', H', v, s, r, hv, rfl⟩ := hq
  cases hv
  refine ⟨rfl, r.io, s.size, fun b hb => s.conc b hb fun i e hi hl => ?_⟩
  unfold roE at hi
  unfold roH at hl
  cases hL : L[i]? with
  | none => rw [hL] at hi; cases hi
  | some p => rw [hL] at hl; cases hl
end Go.Ab
namespace Go.Proofs
set_option linter.unusedSimpArgs false
set_option linter.unusedVariables false
set_option linter.unusedSectionVars false
open Go Go.Ab AsmM
set_option maxRecDepth 100000
theorem list_of {α : Type} (d : α) {Q : Nat → α → Prop} : ∀ n : Nat, (∀ i, i < n → ∃ x, Q i x) → ∃ l : List α, l.length = n ∧ ∀ i, i < n → Q i (l.getD i d)
  | 0, _ => ⟨[], rfl, fun i h => absurd h (by omega)⟩
  | n + 1, h => by
    obtain ⟨l, h1, h2⟩ := list_of d n fun i hi => h i (by omega)
    obtain ⟨x, hx⟩ := h n (by omega)
    refine ⟨l ++ [x], by simp [h1], fun i hi => ?_⟩
    by_cases hn : i < n
    · have := h2 i hn
      rw [List.getD_eq_getElem?_getD, List.getElem?_append_left (by omega), ← List.getD_eq_getElem?_getD]; exact this
    · obtain rfl : i = n := by omega
      rw [List.getD_eq_getElem?_getD, List.getElem?_append_right (by omega), h1, Nat.sub_self]; exact hx
theorem u37 : Tryd.prog.underlying 37 = some (.struct (Tryd.prog.fieldsOf 37)) := by kernel_rfl
theorem f37_0 : ((Tryd.prog.fieldsOf 37)[0]?).map (fun f => (f.type, f.offset)) = some (3, 0) := by kernel_rfl
theorem f37_1 : ((Tryd.prog.fieldsOf 37)[1]?).map (fun f => (f.type, f.offset)) = some (3, 1) := by kernel_rfl
theorem f37_2 : ((Tryd.prog.fieldsOf 37)[2]?).map (fun f => (f.type, f.offset)) = some (3, 2) := by kernel_rfl
theorem f37_3 : ((Tryd.prog.fieldsOf 37)[3]?).map (fun f => (f.type, f.offset)) = some (3, 3) := by kernel_rfl
theorem f37_4 : ((Tryd.prog.fieldsOf 37)[4]?).map (fun f => (f.type, f.offset)) = some (35, 4) := by kernel_rfl
theorem f37_5 : ((Tryd.prog.fieldsOf 37)[5]?).map (fun f => (f.type, f.offset)) = some (3, 5) := by kernel_rfl
theorem f37_6 : ((Tryd.prog.fieldsOf 37)[6]?).map (fun f => (f.type, f.offset)) = some (3, 6) := by kernel_rfl
theorem f37 (i : Nat) (h : i < 7) : ((Tryd.prog.fieldsOf 37)[i]?).map (fun f => (f.type, f.offset)) = some (if i = 4 then 35 else 3, i) := by
  rcases (show i = 0 ∨ i = 1 ∨ i = 2 ∨ i = 3 ∨ i = 4 ∨ i = 5 ∨ i = 6 by omega) with rfl | rfl | rfl | rfl | rfl | rfl | rfl
  · exact f37_0
  · exact f37_1
  · exact f37_2
  · exact f37_3
  · exact f37_4
  · exact f37_5
  · exact f37_6
theorem u3_ : Tryd.prog.underlying 3 = some (.int .i64) := by kernel_rfl
theorem u35_ : Tryd.prog.underlying 35 = some (.int .u64) := by kernel_rfl
theorem c37 : Tryd.prog.cellsOf 37 = 7 := by kernel_rfl
theorem c3 : Tryd.prog.cellsOf 3 = 1 := by kernel_rfl
theorem c35 : Tryd.prog.cellsOf 35 = 1 := by kernel_rfl
theorem bytes37 : Tryd.prog.bytesOf 37 = 56 := by kernel_rfl
theorem u25_ : Tryd.prog.underlying 25 = some (.slice 37) := by kernel_rfl
section
variable {H : Type} {enc : TypeId × Value → H} {W : World} {base : Nat} {sp : Nat → Bool} {held : Bool}
theorem struct_ins {fuel : Nat} {cs : List Value} {x : DataW H × List MemPlace} (h : DataW.trod enc Tryd.prog W base sp held fuel 37 cs = some x) : ∃ i : Ins, cs = encI i ∧ 0 ≤ i.v ∧ i.v < 18446744073709551616 := by
  obtain ⟨xs, n, _, _, hl, hx, hf⟩ := DataW.trod_struct u37 h
  rw [c37] at hl
  have hsz : (Tryd.prog.fieldsOf 37).size = 7 := by kernel_rfl
  rw [hsz] at hx
  have key : ∀ i, i < 7 → ∃ k : IntKind, ∃ m : Int, k = (if i = 4 then .u64 else .i64) ∧ (cs.drop i).take 1 = [.int k m] ∧ (Lit.int k m).wf = true := by
    intro i hi
    have h1 := f37 i hi
    cases hg : (Tryd.prog.fieldsOf 37)[i]? with
    | none => rw [hg] at h1; cases h1
    | some f =>
      rw [hg] at h1
      simp only [Option.map_some, Option.some.injEq, Prod.mk.injEq] at h1
      have h2 := hf i f hg
      have h3 : xs[i]? = some xs[i] := List.getElem?_eq_getElem (by omega)
      rw [h3, h1.1, h1.2] at h2
      by_cases h4 : i = 4
      · rw [if_pos h4, c35] at h2
        obtain ⟨m, e1, _, e3⟩ := DataW.trod_int (k := .u64) u35_ h2
        exact ⟨.u64, m, by rw [if_pos h4], e1, e3⟩
      · rw [if_neg h4, c3] at h2
        obtain ⟨m, e1, _, e3⟩ := DataW.trod_int (k := .i64) u3_ h2
        exact ⟨.i64, m, by rw [if_neg h4], e1, e3⟩
  match cs, hl with
  | [a0, a1, a2, a3, a4, a5, a6], _ =>
    obtain ⟨k0, m0, rfl, h0, _⟩ := key 0 (by omega)
    obtain ⟨k1, m1, rfl, h1, _⟩ := key 1 (by omega)
    obtain ⟨k2, m2, rfl, h2, _⟩ := key 2 (by omega)
    obtain ⟨k3, m3, rfl, h3, _⟩ := key 3 (by omega)
    obtain ⟨k4, m4, rfl, h4, w4⟩ := key 4 (by omega)
    obtain ⟨k5, m5, rfl, h5, _⟩ := key 5 (by omega)
    obtain ⟨k6, m6, rfl, h6, _⟩ := key 6 (by omega)
    simp at h0 h1 h2 h3 h4 h5 h6
    subst h0 h1 h2 h3 h4 h5 h6
    have e1 : IntKind.min .u64 = 0 := by decide
    have e2 : IntKind.max .u64 = 18446744073709551615 := by decide
    simp only [Lit.wf, if_true, e1, e2, Bool.and_eq_true, decide_eq_true_eq] at w4
    refine ⟨⟨m0, m1, m2, m3, m4, m5, m6⟩, rfl, ?_, ?_⟩ <;> simp only <;> omega
theorem open_ins {b0 : Nat} {v : Value} {d : DataW H} {ps : List MemPlace} (hval : Value.okWide Tryd.prog W .any b0 25 v) (h : DataW.Trod enc Tryd.prog W base sp held 25 v d ps) :
    (v = .slice none 0 0 ∧ d = .nil) ∨ ∃ (a : Addr) (c : Nat) (l : List Ins) (es sps : List (DataW H)), v = .slice (some a) l.length c ∧ d = .slice es sps ∧ es.length = l.length ∧ l.length ≤ c ∧ vOk l ∧ a.spot = none ∧ RowAt W ⟨a.block, a.off, l.length * 7, l.length * 7⟩ (l.flatMap encI) := by
  have hsh : v = .slice none 0 0 ∨ ∃ a len cap, v = .slice (some a) len cap ∧ a.spot = none ∧ ∃ row cells, W.shape? a.block = some (row, cells) := by
    unfold Value.okWide at hval
    rw [u25_] at hval
    unfold Cell.okWide at hval
    rw [u25_] at hval
    unfold Cell.ok at hval
    rw [u25_] at hval
    cases v <;> simp only [] at hval
    rename_i a n c
    cases a with
    | none =>
      left
      cases n <;> cases c <;> first | rfl | exact hval.elim
    | some a =>
      obtain ⟨_, _, _, h3, row, cells, h4, _⟩ := hval
      exact .inr ⟨a, n, c, rfl, h3, row, cells, h4⟩
  obtain ⟨fuel, h⟩ := h
  rcases hsh with rfl | ⟨a', len', cap', rfl, hsp, row, cells, hshape⟩
  · left
    rcases DataW.trod_slice u25_ h with ⟨h1, h2⟩ | ⟨a, len, cap, elems, rest, n, _, h1, h2, _⟩
    · exact ⟨rfl, by cases h2; rfl⟩
    · change [Value.slice none 0 0] = _ at h1; simp at h1
  right
  rcases DataW.trod_slice u25_ h with ⟨h1, h2⟩ | ⟨a, len, cap, elems, rest, n, _, h1, h2, _, hlc, _, hel, hget, _⟩
  · change [Value.slice (some a') len' cap'] = _ at h1; simp at h1
  change [Value.slice (some a') len' cap'] = _ at h1
  simp only [List.cons.injEq, Value.slice.injEq, Option.some.injEq, and_true] at h1
  obtain ⟨rfl, rfl, rfl⟩ := h1
  have hblk : ∃ C t fr, W.heap[a'.block]? = some (.cells C t fr) := by
    unfold World.shape? at hshape
    split at hshape
    · rename_i C t fr hb; exact ⟨C, t, fr, hb⟩
    · cases hshape
  have hx : ∀ i, i < len' → ∃ x : Ins, (0 ≤ x.v ∧ x.v < 18446744073709551616) ∧ ∀ j, j < 7 → W.cell? ((a'.add (i * 7)).add j) = (encI x)[j]? := by
    intro i hi
    have h3 := hget i hi
    have h4 : elems[i]? = some elems[i] := List.getElem?_eq_getElem (by omega)
    rw [h4, c37] at h3
    obtain ⟨cs, h5, h6⟩ := Option.bind_eq_some_iff.1 h3
    obtain ⟨x, rfl, hx⟩ := struct_ins h6
    exact ⟨x, hx, (World.cells?_some h5).2.2⟩
  obtain ⟨l, hl, hlx⟩ := list_of Ins.zero len' hx
  subst hl
  refine ⟨a', cap', l, elems.map (·.1), rest.map (·.1), rfl, by cases h2; rfl, by rw [List.length_map]; exact hel, hlc, fun x hx => ?_, hsp, ⟨Go.Ab.flat_len encI 7 (fun _ => rfl) l, hblk, fun k v hk => ?_⟩⟩
  · obtain ⟨i, hi, rfl⟩ := List.mem_iff_getElem.1 hx
    have h := (hlx i hi).1
    rwa [List.getD_eq_getElem?_getD, List.getElem?_eq_getElem hi] at h
  · have hlt : k < l.length * 7 := by
      have := (List.getElem?_eq_some_iff.1 hk).1
      rw [Go.Ab.flat_len encI 7 (fun _ => rfl) l] at this; exact this
    have hk1 : k / 7 < l.length := by omega
    have hkd : k = (k / 7) * 7 + k % 7 := by omega
    have hg := flat_get encI 7 (fun _ => rfl) Ins.zero [] l (k / 7) (k % 7) hk1 (by omega)
    rw [List.append_nil, ← hkd, hk] at hg
    have hc := (hlx (k / 7) hk1).2 (k % 7) (by omega)
    rw [← hg] at hc
    refine ⟨?_, ?_⟩
    · have hm := List.mem_of_getElem? hg.symm
      have : ∀ v ∈ encI (l.getD (k / 7) Ins.zero), scalar v = true := by
        intro v hv
        simp only [encI, List.mem_cons, List.not_mem_nil, or_false] at hv
        rcases hv with rfl | rfl | rfl | rfl | rfl | rfl | rfl <;> rfl
      exact this v hm
    · rw [← hc]
      obtain ⟨b, o, s⟩ := a'
      simp only at hsp
      subst hsp
      have e : ∀ m j : Nat, ((⟨b, o, none⟩ : Addr).add m).add j = ⟨b, o + (m + j), none⟩ := fun m j => by
        rw [Addr.add_lit, Addr.add_lit, Nat.add_assoc]
      rw [e, ← hkd]
end
end Go.Proofs
