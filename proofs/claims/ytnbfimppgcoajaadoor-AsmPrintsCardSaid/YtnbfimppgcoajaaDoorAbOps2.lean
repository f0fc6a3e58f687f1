/-
  A CALCULUS OVER ABSTRACT HEAPS: new objects, values that are put together, appends.
-/
import Derived.Test.YtnbfimppgcoajaaDoorAbOps
namespace Go.Ab
set_option linter.unusedSimpArgs false
set_option linter.unusedVariables false
set_option linter.unusedSectionVars false
variable [Start]

omit [Go.Ab.Start] in
theorem cells_alloc {w' : World} {C : Array Value} {t : TypeId} {b : Nat} (h : w'.heap[b]? = some (.cells C t)) (k : Nat) : w'.cell? ⟨b, 0 + k, none⟩ = C[k]? ∧ w'.frozen? ⟨b, 0 + k, none⟩ = false := by
  rw [Nat.zero_add]
  exact ⟨by simp [World.cell?, h], by simp [World.frozen?, h]⟩
/-- A new row. -/
theorem Rel.newRow {base : Nat} {w0 : World} {φ : Emb} {H : AHeap} {w : World} (r : Rel base w0 φ H w) {i : Nat} (hi : H i = .none) (t : TypeId) {cs ds : Array Value} (hr : ArrR φ cs ds) (h1 : cs.toList.all (·.oneCell') = true) :
    ∃ φ', Rel base w0 φ' (H.set i (.cells cs.toList)) (w.alloc (.cells ds t)) ∧ Step φ H w φ' (H.set i (.cells cs.toList)) (w.alloc (.cells ds t)) ∧ φ' i = some ⟨w.heap.size, 0, ds.size, ds.size⟩ := by
  have hx := embed_ext ⟨w.heap.size, 0, ds.size, ds.size⟩ (r.fresh hi)
  have := r.alloc hi (.cells cs.toList) rfl (.cells ds t) ds.size (fun w' hw => by
    refine ⟨by simpa using hr.1, Nat.le_refl _, ⟨ds, t, hw⟩, fun k v hk => ?_, fun k hk => ?_⟩
    · obtain ⟨hk1, hk2⟩ := List.getElem?_eq_some_iff.1 hk
      have hk1' : k < cs.size := by simpa using hk1
      refine ⟨List.all_eq_true.1 h1 v (by rw [← hk2]; exact List.getElem_mem hk1), ds[k]'(by rw [← hr.1]; exact hk1'), ?_, ?_⟩
      · rw [(cells_alloc hw k).1]; simp [← hr.1, hk1']
      · have := (hr.2 k hk1' (by rw [← hr.1]; exact hk1')).mono hx
        rw [← hk2, Array.getElem_toList]; exact this
    · refine ⟨?_, (cells_alloc hw k).2⟩
      rw [(cells_alloc hw k).1]
      simpa using hk)
  exact ⟨_, this.1, this.2, embed_same _ _ _⟩

/-! ### Structs and arrays put together -/
omit [Go.Ab.Start] in
theorem setAll_rel {φ : Emb} (off : Nat) : ∀ (l m : List (Value × Nat)) {cs ds : Array Value}, ArrR φ cs ds → l.length = m.length → (∀ j (h : j < l.length) (h' : j < m.length), VR φ l[j].1 m[j].1 ∧ l[j].2 = m[j].2) →
    ArrR φ (l.foldl (fun cs (x : Value × Nat) => cs.setIfInBounds (off + x.2) x.1) cs) (m.foldl (fun cs (x : Value × Nat) => cs.setIfInBounds (off + x.2) x.1) ds)
  | [], [], _, _, h, _, _ => h
  | [], _ :: _, _, _, _, h, _ => by simp at h
  | _ :: _, [], _, _, _, h, _ => by simp at h
  | x :: l, y :: m, cs, ds, h, hl, hr => by
    rw [List.foldl_cons, List.foldl_cons]
    have h0 : VR φ x.1 y.1 ∧ x.2 = y.2 := hr 0 (by simp) (by simp)
    refine setAll_rel off l m ?_ (by simpa using hl) (fun j a b => by have := hr (j + 1) (by simp; omega) (by simp; omega); simpa using this)
    rw [h0.2]
    refine ⟨by simpa using h.1, fun j a b => ?_⟩
    have a' : j < cs.size := by simpa using a
    have b' : j < ds.size := by simpa using b
    rw [Array.getElem_setIfInBounds a', Array.getElem_setIfInBounds b']
    split
    · exact h0.1
    · exact h.2 j a' b'
def PartsR (φ : Emb) : List (Nat × Value) → List (Nat × Value) → Prop
  | [], [] => True
  | x :: l, y :: m => x.1 = y.1 ∧ VR φ x.2 y.2 ∧ PartsR φ l m
  | _, _ => False
omit [Go.Ab.Start] in
theorem fill_rel {φ : Emb} (place : Nat → Option (Nat × Nat)) : ∀ (l m : List (Nat × Value)) {cs ds : Array Value}, ArrR φ cs ds → PartsR φ l m → ∀ {cs' : Array Value}, Instr.fill place cs l = some cs' → ∃ ds', Instr.fill place ds m = some ds' ∧ ArrR φ cs' ds'
  | [], [], cs, ds, h, _, cs', hc => by
    simp only [Instr.fill, Option.some.injEq] at hc
    subst hc
    exact ⟨ds, rfl, h⟩
  | [], _ :: _, _, _, _, h, _, _ => h.elim
  | _ :: _, [], _, _, _, h, _, _ => h.elim
  | (i, v) :: l, (j, u) :: m, cs, ds, h, hp, cs', hc => by
    obtain ⟨hp1, hp2, hp3⟩ := hp
    simp only at hp1 hp2
    subst hp1
    have hvc := hp2.cells
    unfold Instr.fill at hc ⊢
    cases hpl : place i with
    | none => rw [hpl] at hc; cases hc
    | some q =>
      obtain ⟨off, size⟩ := q
      rw [hpl] at hc
      simp only at hc ⊢
      rw [← hvc.1, ← h.1]
      split at hc
      · cases hc
      · rename_i hn
        rw [if_neg hn]
        refine fill_rel place l m ?_ hp3 hc
        have e : ∀ a b : Array (Value × Nat), a.size = b.size → a.toList.length = b.toList.length := fun a b h => by simpa using h
        rw [← Array.foldl_toList, ← Array.foldl_toList]
        refine setAll_rel off _ _ h (by simpa using hvc.1) (fun j a b => ?_)
        simp only [Array.getElem_toList, Array.getElem_zipIdx]
        exact ⟨hvc.2 j (by simpa using a) (by simpa using b), trivial⟩

omit [Go.Ab.Start] in
theorem parts_rel {φ : Emb} {env : Env} {a : Act} (h : EnvR φ env a.tmps) : ∀ (l : List (Nat × Operand)), (∀ p ∈ l, okOperand p.2 = true) → PartsR φ (l.map fun (i, x) => (i, ev env x)) (l.map fun (i, x) => (i, a.eval x))
  | [], _ => trivial
  | (i, x) :: l, hok => ⟨rfl, ev_rel h (hok (i, x) (by simp)), parts_rel h l fun p hp => hok p (by simp [hp])⟩

omit [Go.Ab.Start] in
theorem ArrR.of_plain (φ : Emb) {cs : Array Value} (h : cs.toList.all scalar = true) : ArrR φ cs cs :=
  ⟨rfl, fun i h1 _ => .of_scalar φ (List.all_eq_true.1 h _ (by simp))⟩

/-- P.built, at zero values without addresses. -/
def buildA (P : Program) (t : TypeId) (parts : List (Nat × Value)) : Option (Array Value) :=
  match P.info? t with
  | some it => match it.zero with
    | some z => if z.cells.toList.all scalar then P.built t parts else none
    | none => none
  | none => none
omit [Go.Ab.Start] in
theorem built_rel {P : Program} {φ : Emb} {t : TypeId} {l m : List (Nat × Value)} (hp : PartsR φ l m) {cs : Array Value} (h : buildA P t l = some cs) : ∃ ds, P.built t m = some ds ∧ ArrR φ cs ds := by
  unfold buildA at h
  cases hit : P.info? t with
  | none => rw [hit] at h; cases h
  | some it =>
    rw [hit] at h
    simp only at h
    cases hz : it.zero with
    | none => rw [hz] at h; cases h
    | some z =>
      rw [hz] at h
      simp only at h
      split at h
      · rename_i hs
        have hzr := ArrR.of_plain φ hs
        unfold Program.built at h ⊢
        rw [hit] at h ⊢
        cases hu : P.underlying t with
        | none => rw [hu] at h; cases h
        | some d =>
          rw [hu] at h
          cases d with
          | array n e =>
            simp only [hz] at h ⊢
            cases hie : P.info? e with
            | none => rw [hie] at h; cases h
            | some ie =>
              rw [hie] at h
              exact fill_rel _ l m hzr hp h
          | struct fields =>
            simp only [hz] at h ⊢
            cases hpl : fields.toList.mapM (fun f => (P.info? f.type).map fun i => (f.offset, i.size)) with
            | none => rw [hpl] at h; cases h
            | some places =>
              rw [hpl] at h
              exact fill_rel _ l m hzr hp h
          | _ => cases h
      · cases h

/-- The cells of a slice literal. -/
def buildSliceA (P : Program) (t : TypeId) (len : Nat) (parts : List (Nat × Value)) : Option (Array Value) :=
  match P.underlying t with
  | some (.slice e) => match P.info? e with
    | some i => match i.zero with
      | some z => if z.cells.toList.all scalar ∧ len * i.size ≤ 16777216 then
          Instr.fill (fun j => some (j * i.size, i.size)) ((Array.range (len * i.size)).map fun j => (if len * i.size = 0 then #[] else z.cells)[j % (if len * i.size = 0 then #[] else z.cells).size]!) parts
        else none
      | none => none
    | none => none
  | _ => none
omit [Go.Ab.Start] in
theorem default_scalar : scalar (default : Value) = true := rfl
omit [Go.Ab.Start] in
theorem range_plain (z : Array Value) (h : z.toList.all scalar = true) (n : Nat) : ((Array.range n).map fun j => z[j % z.size]!).toList.all scalar = true := by
  rw [List.all_eq_true]
  intro v hv
  simp only [Array.toList_map, List.mem_map] at hv
  obtain ⟨j, _, rfl⟩ := hv
  rcases Nat.lt_or_ge (j % z.size) z.size with hlt | hge
  · rw [getElem!_pos z (j % z.size) hlt]
    exact List.all_eq_true.1 h _ (by simp)
  · rw [getElem!_neg z (j % z.size) (by omega)]
    exact default_scalar
omit [Go.Ab.Start] in
theorem run_buildSlice_A {P : Program} {φ : Emb} {t : TypeId} {len : Nat} {l : List (Nat × Value)} {m : Array (Nat × Value)} (hp : PartsR φ l m.toList) {cs : Array Value} (h : buildSliceA P t len l = some cs) (w : World) :
    ∃ ds e, ArrR φ cs ds ∧ (Instr.buildSlice t len m).run P w = .ok (.slice (some ⟨w.heap.size, 0, none⟩) len len) (w.alloc (.cells ds e)) := by
  unfold buildSliceA at h
  cases hu : P.underlying t with
  | none => rw [hu] at h; cases h
  | some d =>
    rw [hu] at h
    cases d with
    | slice e =>
      simp only at h
      cases hi : P.info? e with
      | none => rw [hi] at h; cases h
      | some i =>
        rw [hi] at h
        simp only at h
        cases hz : i.zero with
        | none => rw [hz] at h; cases h
        | some z =>
          rw [hz] at h
          simp only at h
          split at h
          · rename_i hc
            have hpl : (if len * i.size = 0 then (#[] : Array Value) else z.cells).toList.all scalar = true := by split; rfl; exact hc.1
            obtain ⟨ds, h1, h2⟩ := fill_rel _ l m.toList (ArrR.of_plain φ (range_plain _ hpl (len * i.size))) hp h
            refine ⟨ds, e, h2, ?_⟩
            unfold Instr.buildSlice
            rw [Sem.run_bind, run_underlying hu w]
            simp only [Result.andThen_ok]
            rw [Sem.run_bind]
            have hs : (sizeOf e).run P w = .ok i.size w := by simp [sizeOf, typeInfo, hi]
            rw [hs]
            simp only [Result.andThen_ok]
            rw [if_neg (by omega)]
            by_cases h0 : len * i.size = 0
            · simp only [if_pos h0] at h1
              rw [if_pos h0]
              simp only [Sem.run_bind, Sem.run_pure, Result.andThen_ok]
              rw [h1]
              simp [newRow]
            · simp only [if_neg h0] at h1
              rw [if_neg h0]
              have hzv : (zeroValue e).run P w = .ok z w := by simp [zeroValue, typeInfo, hi, hz]
              simp only [Sem.run_bind, hzv, Sem.run_pure, Result.andThen_ok]
              rw [h1]
              simp [newRow]
          · cases h
    | _ => cases h
end Go.Ab
