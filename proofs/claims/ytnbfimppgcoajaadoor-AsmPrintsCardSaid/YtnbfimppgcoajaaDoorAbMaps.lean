/-
  A CALCULUS OVER ABSTRACT HEAPS: maps are made and written.
-/
import Derived.Test.YtnbfimppgcoajaaDoorAbOps4
namespace Go.Ab
set_option linter.unusedSimpArgs false
set_option linter.unusedVariables false
set_option linter.unusedSectionVars false
variable [Start]

omit [Go.Ab.Start] in
theorem beqBytes (a b : ByteArray) : (a == b) = true ↔ a = b := by
  cases a; cases b
  rename_i x y
  show (x == y) = true ↔ _
  rw [beq_iff_eq]
  exact ⟨fun h => by rw [h], fun h => by cases h; rfl⟩
omit [Go.Ab.Start] in
theorem sameNow_bits {kind : TypeDesc} {k old : Value} (h : Instr.sameNow kind k old = some true) : Instr.sameBits 10000 old k = true := by
  unfold Instr.sameNow at h
  split at h
  · rename_i k1 a k2 b
    split at h
    · rename_i hk
      subst hk
      simp only [Option.some.injEq, beq_iff_eq] at h
      subst h
      simp [Instr.sameBits]
    · cases h
  · rename_i a b
    simp only [Option.some.injEq] at h
    have : a = b := (beqBytes a b).1 h
    subst this
    simp only [Instr.sameBits]
    exact (beqBytes a a).2 rfl
  · rename_i a b
    simp only [Option.some.injEq, beq_iff_eq] at h
    subst h
    simp [Instr.sameBits]
  · cases h
omit [Go.Ab.Start] in
theorem MapR.length {φ : Emb} : ∀ {es : List (Value × Value)} {ds : List MapEntry}, MapR φ es ds → es.length = ds.length
  | [], [], _ => rfl
  | (_, _) :: es, _ :: ds, h => by simp [MapR.length h.2.2]
  | [], _ :: _, h => h.elim
  | _ :: _, [], h => h.elim
omit [Go.Ab.Start] in
theorem MapR.set {φ : Emb} {k v v' : Value} (hv : VR φ v v') : ∀ {es : List (Value × Value)} {ds : List MapEntry} (n : Nat), MapR φ es ds → MapR φ (es.set n (k, v)) (ds.modify n fun e => { e with key := k, val := v' })
  | [], [], n, _ => by cases n <;> exact trivial
  | (_, _) :: es, d :: ds, 0, h => ⟨rfl, hv, h.2.2⟩
  | (_, _) :: es, d :: ds, n + 1, h => ⟨h.1, h.2.1, MapR.set hv n h.2.2⟩
  | [], _ :: _, _, h => h.elim
  | _ :: _, [], _, h => h.elim
omit [Go.Ab.Start] in
theorem MapR.push {φ : Emb} {k v v' : Value} (hv : VR φ v v') (c : Nat) : ∀ {es : List (Value × Value)} {ds : List MapEntry}, MapR φ es ds → MapR φ (es ++ [(k, v)]) (ds ++ [{ key := k, val := v', born := c }])
  | [], [], _ => ⟨rfl, hv, trivial⟩
  | (_, _) :: es, d :: ds, h => ⟨h.1, h.2.1, MapR.push hv c h.2.2⟩
  | [], _ :: _, h => h.elim
  | _ :: _, [], h => h.elim
omit [Go.Ab.Start] in
theorem MapR.erase {φ : Emb} : ∀ {es : List (Value × Value)} {ds : List MapEntry} (n : Nat), MapR φ es ds → MapR φ (es.eraseIdx n) (ds.eraseIdx n)
  | [], [], _, _ => trivial
  | (_, _) :: es, d :: ds, 0, h => h.2.2
  | (_, _) :: es, d :: ds, n + 1, h => ⟨h.1, h.2.1, MapR.erase n h.2.2⟩
  | [], _ :: _, _, h => h.elim
  | _ :: _, [], _, h => h.elim

/-- The world with another object in a block. -/
def setBlk (w : World) (b : Nat) (o : Obj) : World := { w with heap := w.heap.setIfInBounds b o }
omit [Go.Ab.Start] in
theorem setBlk_size (w : World) (b : Nat) (o : Obj) : (setBlk w b o).heap.size = w.heap.size := by simp [setBlk]
omit [Go.Ab.Start] in
theorem setBlk_other (w : World) (b : Nat) (o : Obj) {k : Nat} (h : k ≠ b) : (setBlk w b o).heap[k]? = w.heap[k]? := by
  simp [setBlk, Array.getElem?_setIfInBounds, Ne.symm h]
omit [Go.Ab.Start] in
theorem setBlk_same (w : World) (b : Nat) (o : Obj) {x : Obj} (h : w.heap[b]? = some x) : (setBlk w b o).heap[b]? = some o := by
  have := (Array.getElem?_eq_some_iff.1 h).1
  simp [setBlk, Array.getElem?_setIfInBounds, this]
omit [Go.Ab.Start] in
theorem run_setObj_map {P : Program} {w : World} {b : Nat} {es : Array MapEntry} {c : Nat} (h : w.heap[b]? = some (.map es c)) (o : Obj) : (setObj b o).run P w = .ok () (setBlk w b o) := by
  simp [setObj, Sem.run, h, setBlk]
theorem Rel.setMap {base : Nat} {w0 : World} {φ : Emb} {H : AHeap} {w : World} (r : Rel base w0 φ H w) {i : Nat} {e : Ent} (hi : φ i = some e) {es : List (Value × Value)} (ho : H i = .map es) {ents ents' : Array MapEntry} {c c' : Nat} (hb : w.heap[e.blk]? = some (.map ents c))
    {es' : List (Value × Value)} (hr : MapR φ es' ents'.toList) : Rel base w0 φ (H.set i (.map es')) (setBlk w e.blk (.map ents' c')) ∧ Step φ H w φ (H.set i (.map es')) (setBlk w e.blk (.map ents' c')) := by
  have hl : (H i).live = true := by rw [ho]; rfl
  exact ⟨r.write hi hl rfl (setBlk_size _ _ _) (fun b h => setBlk_other _ _ _ h) ⟨ents', c', setBlk_same _ _ _ hb, hr⟩ ⟨rfl, rfl⟩, .write hi hl (setBlk_size _ _ _) (fun b h => setBlk_other _ _ _ h)⟩

def updateA (P : Program) (H : AHeap) (t : TypeId) (x k v : Value) : Option AHeap := (mapTyA P t).bind fun m => match x with
  | .map (some i) => match H i with
    | .map es => (findA m.kind k es 0).map fun q => match q with
      | some (n, _) => H.set i (.map (es.set n (k, v)))
      | none => H.set i (.map (es ++ [(k, v)]))
    | _ => none
  | _ => none
theorem run_update_A {P : Program} {base : Nat} {w0 : World} {φ : Emb} {H : AHeap} {w : World} (r : Rel base w0 φ H w) {t : TypeId} {x x' k v v' : Value} (hx : VR φ x x') (hv : VR φ v v') {H' : AHeap} (h : updateA P H t x k v = some H') :
    ∃ w', (Instr.mapUpdate t x' k v').run P w = .ok () w' ∧ Rel base w0 φ H' w' ∧ Step φ H w φ H' w' := by
  unfold updateA at h
  cases hm : mapTyA P t with
  | none => rw [hm] at h; cases h
  | some m =>
    rw [hm] at h
    simp only [Option.bind_some] at h
    obtain ⟨hu, hk, hkk⟩ := mapTyA_spec hm
    cases hx with
    | @map i e hi =>
      simp only at h
      cases ho : H i with
      | map es =>
        rw [ho] at h
        simp only at h
        obtain ⟨ents, clock, hb, hmr⟩ := map_of r hi ho
        have hck := run_checkKey (P := P) hk hkk false k w
        cases hf : findA m.kind k es 0 with
        | none => rw [hf] at h; cases h
        | some q =>
          rw [hf] at h
          simp only [Option.map_some, Option.some.injEq] at h
          obtain ⟨q', hq, hr⟩ := findNow_rel hmr hf
          cases q with
          | none =>
            cases q' with
            | some _ => exact hr.elim
            | none =>
              simp only at h
              subst h
              obtain ⟨r1, s1⟩ := r.setMap hi ho hb (ents' := ents.push { key := k, val := v', born := clock }) (c' := clock + 1) (es' := es ++ [(k, v)]) (by simpa using hmr.push hv clock)
              refine ⟨_, ?_, r1, s1⟩
              simp [Instr.mapUpdate, run_underlying hu, run_getMap hb, hck, Instr.findKey, run_underlying hk, hq, run_setObj_map hb]
          | some a =>
            cases q' with
            | none => exact hr.elim
            | some b =>
              obtain ⟨n, u⟩ := a
              obtain ⟨n', u'⟩ := b
              simp only at h hr
              subst h
              obtain ⟨rfl, _, _, hlt, hsame⟩ := hr
              obtain ⟨r1, s1⟩ := r.setMap hi ho hb (ents' := ents.modify n fun e => { e with key := k, val := v' }) (c' := clock) (es' := es.set n (k, v)) (by simpa using hmr.set hv n)
              refine ⟨_, ?_, r1, s1⟩
              have hlt' : n < ents.size := by have := hmr.length; simp at this hlt; omega
              have hst : Instr.sameBits 10000 (((ents[n]?).map (·.key)).getD k) k = true := by
                refine sameNow_bits (kind := m.kind) ?_
                simpa [hlt'] using hsame
              simp only [Instr.mapUpdate, Sem.run_bind, run_underlying hu, Result.andThen_ok, run_getMap hb, hck, Instr.findKey, run_underlying hk, hq, Sem.run_pure, Instr.keyThatStays, hst, if_true, run_setObj_map hb]
      | _ => rw [ho] at h; cases h
    | _ => cases h

theorem Rel.newMap {base : Nat} {w0 : World} {φ : Emb} {H : AHeap} {w : World} (r : Rel base w0 φ H w) {i : Nat} (hi : H i = .none) :
    ∃ φ', Rel base w0 φ' (H.set i (.map [])) (w.alloc (.map #[] 0)) ∧ Step φ H w φ' (H.set i (.map [])) (w.alloc (.map #[] 0)) ∧ φ' i = some ⟨w.heap.size, 0, 0, 0⟩ := by
  have := r.alloc hi (.map []) rfl (.map #[] 0) 0 (fun w' hw => ⟨#[], 0, hw, trivial⟩)
  exact ⟨_, this.1, this.2, embed_same _ _ _⟩
end Go.Ab
