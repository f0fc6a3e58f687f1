/-
  A CALCULUS OVER ABSTRACT HEAPS: the operations: what each does to an abstract heap ('opW'), and that the model's operation, in a world that the heap describes, does the like.
-/
import Derived.Test.YtnbfimppgcoajaaDoorAbBase
namespace Go.Ab
set_option linter.unusedSimpArgs false
set_option linter.unusedVariables false
set_option linter.unusedSectionVars false
variable [Start]

def Post (base : Nat) (w0 : World) (φ : Emb) (H : AHeap) (w : World) (K : Value → AHeap → Prop) (v' : Value) (w' : World) : Prop :=
  ∃ φ' H' v, Step φ H w φ' H' w' ∧ Rel base w0 φ' H' w' ∧ VR φ' v v' ∧ K v H'
def Enter (P : Program) (f : FuncId) : Prop := ∃ fn, P.funcs[f]? = some fn ∧ (fn.name == "runtime.NumGoroutine") = false ∧ fn.body.isNone = false
/-- A call over an abstract heap. -/
def OpOut (P : Program) (base : Nat) (w0 : World) (φ : Emb) (H : AHeap) (w : World) (K : Value → AHeap → Prop) (r : Result Next) : Prop :=
  (∃ v' w', r = .ok (.value v') w' ∧ Post base w0 φ H w K v' w') ∨ (∃ w', r = .ok .skip w' ∧ Post base w0 φ H w K undef w') ∨
  (∃ f args, r = .ok (.enter f args) w ∧ Calls P f args w fun e w' => ∃ v', e = .returned v' ∧ Post base w0 φ H w K v' w')
def ACalls (P : Program) (f : FuncId) (args : Array Value) (H : AHeap) (K : Value → AHeap → Prop) : Prop :=
  ∀ base w0 φ w cargs, Rel base w0 φ H w → ArrR φ args cargs → OpOut P base w0 φ H w K ((callFunc f cargs).run P w)

theorem Post.mono {base : Nat} {w0 : World} {φ : Emb} {H : AHeap} {w : World} {K K' : Value → AHeap → Prop} {v' : Value} {w' : World} (h : Post base w0 φ H w K v' w') (hk : ∀ v H, K v H → K' v H) : Post base w0 φ H w K' v' w' :=
  let ⟨φ', H', v, a, b, c, d⟩ := h; ⟨φ', H', v, a, b, c, hk _ _ d⟩
theorem OpOut.mono {P : Program} {base : Nat} {w0 : World} {φ : Emb} {H : AHeap} {w : World} {K K' : Value → AHeap → Prop} {r : Result Next} (h : OpOut P base w0 φ H w K r) (hk : ∀ v H, K v H → K' v H) : OpOut P base w0 φ H w K' r := by
  rcases h with ⟨v', w', h1, h2⟩ | ⟨w', h1, h2⟩ | ⟨f, args, h1, h2⟩
  · exact .inl ⟨v', w', h1, h2.mono hk⟩
  · exact .inr (.inl ⟨w', h1, h2.mono hk⟩)
  · exact .inr (.inr ⟨f, args, h1, h2.mono fun _ _ ⟨v', e, p⟩ => ⟨v', e, p.mono hk⟩⟩)
theorem ACalls.mono {P : Program} {f : FuncId} {args : Array Value} {H : AHeap} {K K' : Value → AHeap → Prop} (h : ACalls P f args H K) (hk : ∀ v H, K v H → K' v H) : ACalls P f args H K' :=
  fun base w0 φ w cargs r a => (h base w0 φ w cargs r a).mono hk

abbrev Env := Nat → Value
def upd (env : Env) (d : Nat) (v : Value) : Env := fun t => if t = d then v else env t
def put (env : Env) (dst : Option Tmp) (v : Value) : Env := match dst with
  | some d => upd env d v
  | none => env
def ev (env : Env) : Operand → Value
  | .tmp t => env t
  | .const v => v
  | .global g => .pointer (some ⟨g, 0, none⟩)
  | .func f => .func (.func f) #[] #[]
def EnvR (φ : Emb) (env : Env) (tmps : Array Value) : Prop := ∀ t, VR φ (env t) (tmps.getD t undef)
omit [Go.Ab.Start] in
theorem EnvR.mono {φ φ' : Emb} (hx : Ext φ φ') {env : Env} {tmps : Array Value} (h : EnvR φ env tmps) : EnvR φ' env tmps := fun t => (h t).mono hx
def okOperand : Operand → Bool
  | .const v => plain v
  | .global _ => false
  | _ => true
omit [Go.Ab.Start] in
theorem ev_rel {φ : Emb} {env : Env} {a : Act} (h : EnvR φ env a.tmps) {x : Operand} (hx : okOperand x = true) : VR φ (ev env x) (a.eval x) := by
  cases x with
  | tmp t => exact h t
  | const v => exact .of_plain φ hx
  | global g => cases hx
  | func f => exact .func rfl (fun i h => by simp at h) rfl (fun i h => by simp at h)
omit [Go.Ab.Start] in
theorem EnvR.put {φ : Emb} {env : Env} {a : Act} (h : EnvR φ env a.tmps) {dst : Option Tmp} (hd : dst.all (· < a.tmps.size) = true) {v v' : Value} (hv : VR φ v v') : EnvR φ (put env dst v) (a.put dst v').tmps := by
  intro t
  cases dst with
  | none => exact h t
  | some d =>
    have hlt : d < a.tmps.size := by simpa using hd
    simp only [Ab.put, upd, Act.put]
    by_cases ht : t = d
    · subst ht
      simp [hlt]
      exact hv
    · have := h t
      simp only [if_neg ht]
      simpa [Array.getElem?_setIfInBounds, Ne.symm ht] using this

/-! ### What the program's tables say -/
def sizeA (P : Program) (t : TypeId) : Option Nat := (P.info? t).map (·.size)
def zeroA (P : Program) (t : TypeId) : Option Value := (P.info? t).bind (·.zero)
/-- none: no such type; some none: one cell; some (some n): a struct or an array of n cells. -/
def aggA (P : Program) (t : TypeId) : Option (Option Nat) := match P.underlying t with
  | some (.struct _) | some (.array _ _) => (P.info? t).map fun i => some i.size
  | some _ => some none
  | none => none
def fieldA (P : Program) (t : TypeId) (f : Nat) : Option Nat := match P.underlying t with
  | some (.struct fields) => (fields[f]?).bind fun x => (P.info? x.type).bind fun i => if i.size = 0 then none else some x.offset
  | _ => none
/-- A slice type's element: its type, cells, bytes. -/
structure Elem where
  ty : TypeId
  size : Nat
  bytes : Nat
def elemA (P : Program) (t : TypeId) : Option Elem := match P.underlying t with
  | some (.slice e) => (P.info? e).bind fun i => i.zero.bind fun z => if z.cells.size = i.size ∧ 0 < i.size then some ⟨e, i.size, i.bytes⟩ else none
  | _ => none
omit [Go.Ab.Start] in
theorem elemA_spec {P : Program} {t : TypeId} {e : Elem} (h : elemA P t = some e) : P.underlying t = some (.slice e.ty) ∧ ∃ i z, P.info? e.ty = some i ∧ i.zero = some z ∧ i.size = e.size ∧ i.bytes = e.bytes ∧ z.cells.size = e.size ∧ 0 < e.size := by
  unfold elemA at h
  split at h
  · rename_i x hu
    cases hi : P.info? x with
    | none => rw [hi] at h; cases h
    | some i =>
      rw [hi] at h
      simp only [Option.bind_some] at h
      cases hz : i.zero with
      | none => rw [hz] at h; cases h
      | some z =>
        rw [hz] at h
        simp only [Option.bind_some] at h
        split at h
        · rename_i hs
          cases h
          exact ⟨hu, i, z, hi, hz, rfl, rfl, hs.1, hs.2⟩
        · cases h
  · cases h

/-! ### Objects -/
def cellsOf : AObj → Option (List Value)
  | .cells cs | .ro cs => some cs
  | _ => none
def readA (o : AObj) (k : Nat) : Option Nat → Option Value
  | none => (cellsOf o).bind (·[k]?)
  | some n => (cellsOf o).bind fun cs => if k + n ≤ cs.length then some (.agg ((cs.drop k).take n).toArray) else none
def putL (cs : List Value) : Nat → List Value → List Value
  | _, [] => cs
  | k, v :: vs => putL (cs.set k v) (k + 1) vs
def writeA (o : AObj) (k : Nat) (vs : List Value) : Option AObj := match o with
  | .cells cs => if k + vs.length ≤ cs.length ∧ vs.all (·.oneCell') = true then some (.cells (putL cs k vs)) else none
  | _ => none

/-- The cells of an object that is looked at. -/
theorem cells_of {base : Nat} {w0 : World} {φ : Emb} {H : AHeap} {w : World} (r : Rel base w0 φ H w) {i : Nat} {e : Ent} (hi : φ i = some e) {cs : List Value} (hc : cellsOf (H i) = some cs) :
    cs.length = e.n ∧ (∃ C t fr, w.heap[e.blk]? = some (.cells C t fr)) ∧ ∀ k v, cs[k]? = some v → v.oneCell' = true ∧ ∃ v', w.cell? ⟨e.blk, e.off + k, none⟩ = some v' ∧ VR φ v v' := by
  have ho := r.obj i e hi
  cases h : H i with
  | none => rw [h] at hc; cases hc
  | dead => rw [h] at hc; cases hc
  | map es => rw [h] at hc; cases hc
  | cells ds =>
    rw [h] at hc ho
    cases hc
    obtain ⟨C, t, hC⟩ := ho.2.2.1
    exact ⟨ho.1, ⟨C, t, _, hC⟩, ho.2.2.2.1⟩
  | ro ds =>
    rw [h] at hc ho
    cases hc
    exact ⟨ho.1, ho.2.1, ho.2.2⟩
/-- A row of cells of an object, as it lies in the world. -/
theorem row_of {base : Nat} {w0 : World} {φ : Emb} {H : AHeap} {w : World} (r : Rel base w0 φ H w) {i : Nat} {e : Ent} (hi : φ i = some e) {cs : List Value} (hc : cellsOf (H i) = some cs) (k n : Nat) (hn : k + n ≤ cs.length) :
    ∃ ds : List Value, ds.length = n ∧ (∀ j u, ds[j]? = some u → w.cell? ⟨e.blk, e.off + k + j, none⟩ = some u) ∧ (∀ u ∈ ds, u.oneCell' = true) ∧ ArrR φ ((cs.drop k).take n).toArray ds.toArray := by
  obtain ⟨_, _, h⟩ := cells_of r hi hc
  refine ⟨(List.range n).map fun j => (w.cell? ⟨e.blk, e.off + (k + j), none⟩).getD undef, by simp, ?_, ?_, ?_, ?_⟩
  · intro j u hu
    have hj : j < n := by have := (List.getElem?_eq_some_iff.1 hu).1; simpa using this
    obtain ⟨_, v', hv, _⟩ := h (k + j) cs[k + j] (List.getElem?_eq_getElem (by omega))
    rw [List.getElem?_map, List.getElem?_range hj] at hu
    simp only [Option.map_some, Option.some.injEq] at hu
    rw [← hu, Nat.add_assoc, hv]; rfl
  · intro u hu
    obtain ⟨j, hj, rfl⟩ := List.mem_map.1 hu
    have hj := List.mem_range.1 hj
    obtain ⟨h1, v', hv, hr⟩ := h (k + j) cs[k + j] (List.getElem?_eq_getElem (by omega))
    rw [hv]
    simp only [Option.getD_some]
    rw [hr.one]; exact h1
  · simp; omega
  · intro j h1 h2
    have hj : j < n := by simpa using h2
    obtain ⟨_, v', hv, hr⟩ := h (k + j) cs[k + j] (List.getElem?_eq_getElem (by omega))
    simp only [List.getElem_toArray, List.getElem_take, List.getElem_drop, List.getElem_map, List.getElem_range]
    rw [hv]; exact hr

omit [Go.Ab.Start] in
theorem add_off (b o k : Nat) : (⟨b, o, none⟩ : Addr).add k = ⟨b, o + k, none⟩ := Addr.add_lit b o k

def isAggD : TypeDesc → Bool
  | .struct _ | .array _ _ => true
  | _ => false
omit [Go.Ab.Start] in
theorem run_isAgg_A {P : Program} {t : TypeId} {d : TypeDesc} (hu : P.underlying t = some d) (w : World) : (isAgg t).run P w = .ok (isAggD d) w := by
  unfold isAgg
  rw [Sem.run_bind, run_underlying hu w]
  cases d <;> rfl
/-- A load. -/
theorem run_loadVar_A {P : Program} {base : Nat} {w0 : World} {φ : Emb} {H : AHeap} {w : World} (r : Rel base w0 φ H w) {t : TypeId} {i k : Nat} {n : Option Nat} {e : Ent} (hi : φ i = some e) (hn : aggA P t = some n) {v : Value}
    (hr : readA (H i) k n = some v) : ∃ v', (loadVar t ⟨e.blk, e.off + k, none⟩).run P w = .ok v' w ∧ VR φ v v' := by
  unfold aggA at hn
  cases hu : P.underlying t with
  | none => rw [hu] at hn; cases hn
  | some d =>
    have hagg := run_isAgg_A (P := P) hu w
    cases n with
    | none =>
      have hf : isAggD d = false := by
        rw [hu] at hn
        cases d <;> first | rfl | (cases hi2 : P.info? t <;> rw [hi2] at hn <;> cases hn)
      unfold readA at hr
      cases hc : cellsOf (H i) with
      | none => rw [hc] at hr; cases hr
      | some cs =>
        rw [hc] at hr
        obtain ⟨_, _, h⟩ := cells_of r hi hc
        obtain ⟨_, v', hv, hr'⟩ := h k v hr
        refine ⟨v', ?_, hr'⟩
        unfold loadVar
        rw [Sem.run_bind, hagg, hf]
        simp [hv]
    | some m =>
      have hf : isAggD d = true ∧ ∃ x, P.info? t = some x ∧ x.size = m := by
        rw [hu] at hn
        cases d <;> first | (cases hn; done) | (cases hi2 : P.info? t <;> rw [hi2] at hn <;> first | (cases hn; done) | (cases hn; exact ⟨rfl, _, rfl, rfl⟩))
      obtain ⟨hf, x, hx, hs⟩ := hf
      unfold readA at hr
      cases hc : cellsOf (H i) with
      | none => rw [hc] at hr; cases hr
      | some cs =>
        rw [hc] at hr
        simp only [Option.bind_some] at hr
        split at hr
        · rename_i hle
          cases hr
          obtain ⟨ds, h1, h2, _, h4⟩ := row_of r hi hc k m hle
          have hl := run_loadCells_list (P := P) w ⟨e.blk, e.off + k, none⟩ ds (fun j u hj => by rw [add_off]; exact h2 j u hj)
          refine ⟨.agg ds.toArray, ?_, .agg h4.1 h4.2⟩
          unfold loadVar
          rw [Sem.run_bind, hagg, hf]
          simp only [Result.andThen_ok, if_true, Sem.run_bind]
          have hsz : (sizeOf t).run P w = .ok m w := by simp [sizeOf, typeInfo, hx, hs]
          rw [hsz]
          simp only [Result.andThen_ok]
          rw [← h1, hl]
          rfl
        · cases hr

/-! ### Writing -/
omit [Go.Ab.Start] in
theorem putL_length (cs : List Value) : ∀ (vs : List Value) (k : Nat), (putL cs k vs).length = cs.length
  | [], _ => rfl
  | v :: vs, k => by rw [putL, putL_length (cs.set k v) vs (k + 1), List.length_set]
omit [Go.Ab.Start] in
theorem putL_get : ∀ (vs : List Value) (cs : List Value) (k j : Nat), k + vs.length ≤ cs.length → (putL cs k vs)[j]? = if k ≤ j ∧ j < k + vs.length then vs[j - k]? else cs[j]?
  | [], cs, k, j, _ => by rw [putL, if_neg (by simp only [List.length_nil]; omega)]
  | v :: vs, cs, k, j, h => by
    simp only [List.length_cons] at h
    rw [putL, putL_get vs (cs.set k v) (k + 1) j (by rw [List.length_set]; omega)]
    simp only [List.length_cons]
    by_cases h1 : k + 1 ≤ j ∧ j < k + 1 + vs.length
    · rw [if_pos h1, if_pos (by omega), show j - k = (j - (k + 1)) + 1 by omega, List.getElem?_cons_succ]
    · rw [if_neg h1]
      by_cases h2 : j = k
      · subst h2
        rw [if_pos (by omega), List.getElem?_set_self (by omega)]
        simp
      · rw [if_neg (by omega), List.getElem?_set_ne (by omega)]
omit [Go.Ab.Start] in
theorem heap_setCells (b : Nat) : ∀ (vs : List Value) (o : Nat) (w : World) (k : Nat), k ≠ b → (w.setCells b o vs).heap[k]? = w.heap[k]?
  | [], _, _, _, _ => rfl
  | v :: vs, o, w, k, h => by rw [World.setCells, heap_setCells b vs (o + 1) _ k h]; exact heap_setCell_other w _ k v h
omit [Go.Ab.Start] in
theorem io_setCell (w : World) (a : Addr) (v : Value) : IoSame w (w.setCell a v) := by
  unfold World.setCell
  split <;> exact ⟨rfl, rfl⟩
omit [Go.Ab.Start] in
theorem io_setCells (b : Nat) : ∀ (vs : List Value) (o : Nat) (w : World), IoSame w (w.setCells b o vs)
  | [], _, _ => ⟨rfl, rfl⟩
  | v :: vs, o, w => (io_setCell w _ v).trans (io_setCells b vs (o + 1) _)
omit [Go.Ab.Start] in
theorem size_setCells (b : Nat) : ∀ (vs : List Value) (o : Nat) (w : World), (w.setCells b o vs).heap.size = w.heap.size
  | [], _, _ => rfl
  | v :: vs, o, w => by rw [World.setCells, size_setCells b vs (o + 1), World.size_setCell]
omit [Go.Ab.Start] in
theorem shape_setCells (b : Nat) : ∀ (vs : List Value) (o : Nat) (w : World) , (∃ C t, w.heap[b]? = some (.cells C t (0, 0))) → ∃ C t, (w.setCells b o vs).heap[b]? = some (.cells C t (0, 0))
  | [], _, _, h => h
  | v :: vs, o, w, ⟨C, t, h⟩ => by
    rw [World.setCells]
    refine shape_setCells b vs (o + 1) _ ⟨C.setIfInBounds o v, t, ?_⟩
    rw [setCell_eq_setRow w b o C t (0, 0) v h]
    exact setRow_heap w b C _ t (0, 0) h
/-- Cells of an object are written. -/
theorem Rel.put {base : Nat} {w0 : World} {φ : Emb} {H : AHeap} {w : World} (r : Rel base w0 φ H w) {i k : Nat} {e : Ent} (hi : φ i = some e) {cs : List Value} (hc : H i = .cells cs) (vs us : List Value) (hle : k + vs.length ≤ cs.length)
    (h1 : ∀ v ∈ vs, v.oneCell' = true) (hr : ArrR φ vs.toArray us.toArray) : Rel base w0 φ (H.set i (.cells (putL cs k vs))) (w.setCells e.blk (e.off + k) us) ∧ Step φ H w φ (H.set i (.cells (putL cs k vs))) (w.setCells e.blk (e.off + k) us) ∧
      (∀ j, j < us.length → (w.cell? ⟨e.blk, e.off + k + j, none⟩).isSome = true ∧ w.frozen? ⟨e.blk, e.off + k + j, none⟩ = false) := by
  have hlen : vs.length = us.length := by simpa using hr.1
  have ho := r.obj i e hi
  rw [hc] at ho
  obtain ⟨o1, o2, o3, o4, o5⟩ := ho
  have hex : ∀ j, j < us.length → (w.cell? ⟨e.blk, e.off + k + j, none⟩).isSome = true ∧ w.frozen? ⟨e.blk, e.off + k + j, none⟩ = false := fun j hj => by
    have := o5 (k + j) (by omega)
    rwa [← Nat.add_assoc] at this
  have hl : (H i).live = true := by rw [hc]; rfl
  refine ⟨r.write hi hl rfl (size_setCells _ _ _ _) (fun b hb => heap_setCells _ _ _ _ b hb) ?_ (io_setCells _ _ _ _), .write hi hl (size_setCells _ _ _ _) (fun b hb => heap_setCells _ _ _ _ b hb), hex⟩
  refine ⟨by rw [putL_length]; exact o1, o2, shape_setCells _ _ _ _ o3, fun j v hj => ?_, fun j hj => ?_⟩
  · rw [putL_get vs cs k j hle] at hj
    by_cases hin : k ≤ j ∧ j < k + vs.length
    · rw [if_pos hin] at hj
      obtain ⟨hj1, hj2⟩ := List.getElem?_eq_some_iff.1 hj
      refine ⟨h1 v (by rw [← hj2]; exact List.getElem_mem hj1), us[j - k]'(by omega), ?_, ?_⟩
      · have := World.cell?_setCells_in e.blk us (e.off + k) w (fun j hj => (hex j hj).1) (j - k) (by omega)
        rw [← this]
        congr 2
        omega
      · have := hr.2 (j - k) (by simpa using hj1) (by simp; omega)
        simp only [List.getElem_toArray] at this
        rw [hj2] at this
        exact this
    · rw [if_neg hin] at hj
      obtain ⟨a, v', b, c⟩ := o4 j v hj
      refine ⟨a, v', ?_, c⟩
      rw [World.cell?_setCells_out]
      · exact b
      · intro _ _
        simp only
        omega
  · constructor
    · by_cases hin : k ≤ j ∧ j < k + us.length
      · have := World.cell?_setCells_in e.blk us (e.off + k) w (fun j hj => (hex j hj).1) (j - k) (by omega)
        rw [show e.off + k + (j - k) = e.off + j by omega] at this
        rw [this]; rfl
      · rw [World.cell?_setCells_out _ _ _ _ _ (fun _ _ => by simp only; omega)]
        exact (o5 j hj).1
    · rw [World.frozen?_setCells]
      exact (o5 j hj).2

omit [Go.Ab.Start] in
theorem VR.cells {φ : Emb} {v v' : Value} (h : VR φ v v') : ArrR φ v.cells v'.cells := by
  have one : ∀ {v v' : Value}, VR φ v v' → ArrR φ #[v] #[v'] := fun {v v'} h => ⟨rfl, fun i h1 h2 => by
    have : i = 0 := by simpa using h1
    subst this
    exact h⟩
  cases h with
  | agg h1 h2 => exact ⟨h1, h2⟩
  | bool b => exact one (.bool b)
  | int k n => exact one (.int k n)
  | float k n => exact one (.float k n)
  | complex k n m => exact one (.complex k n m)
  | string s => exact one (.string s)
  | ptrNil => exact one .ptrNil
  | ptr h => exact one (.ptr h)
  | sliceNil n c => exact one (.sliceNil n c)
  | slice h hc => exact one (.slice h hc)
  | sliceEmpty a' c' => exact one (.sliceEmpty a' c')
  | mapNil => exact one .mapNil
  | map h => exact one (.map h)
  | func h1 h2 h3 h4 => exact one (.func h1 h2 h3 h4)
  | nilFunc => exact one .nilFunc
  | iface t h => exact one (.iface t h)
  | nilIface => exact one .nilIface
  | tuple h1 h2 => exact one (.tuple h1 h2)
omit [Go.Ab.Start] in
theorem ArrR.one {φ : Emb} {cs ds : Array Value} (h : ArrR φ cs ds) (h1 : cs.toList.all (·.oneCell') = true) : ∀ u ∈ ds.toList, u.oneCell' = true := by
  intro u hu
  obtain ⟨j, hj, rfl⟩ := List.getElem_of_mem hu
  have hj' : j < ds.size := by simpa using hj
  have := (h.2 j (by rw [h.1]; exact hj') hj').one
  rw [Array.getElem_toList, this]
  exact List.all_eq_true.1 h1 _ (by simp)

/-- A store. -/
theorem run_storeVar_A {P : Program} {base : Nat} {w0 : World} {φ : Emb} {H : AHeap} {w : World} (r : Rel base w0 φ H w) {t : TypeId} {i k : Nat} {e : Ent} (hi : φ i = some e) {v v' : Value} (hv : VR φ v v') (hs : sizeA P t = some v.cells.size) {o : AObj}
    (ho : writeA (H i) k v.cells.toList = some o) : ∃ w', (storeVar t ⟨e.blk, e.off + k, none⟩ v').run P w = .ok () w' ∧ Rel base w0 φ (H.set i o) w' ∧ Step φ H w φ (H.set i o) w' := by
  have hcells := hv.cells
  unfold writeA at ho
  cases hc : H i with
  | none => rw [hc] at ho; cases ho
  | dead => rw [hc] at ho; cases ho
  | ro cs => rw [hc] at ho; cases ho
  | map es => rw [hc] at ho; cases ho
  | cells cs =>
    rw [hc] at ho
    simp only at ho
    split at ho
    · rename_i hle
      cases ho
      obtain ⟨r1, s1, hex⟩ := r.put hi hc v.cells.toList v'.cells.toList (k := k) hle.1 (fun u hu => List.all_eq_true.1 hle.2 u hu) (by simpa using hcells)
      refine ⟨_, ?_, r1, s1⟩
      have h1 := hcells.one hle.2
      have hst := run_storeCells_cells (P := P) e.blk (e.off + k) v'.cells.toList 0 w (fun j hj => by simpa using (hex j hj).1) (fun j hj => by simpa using (hex j hj).2) h1
      rw [Nat.add_zero] at hst
      unfold sizeA at hs
      cases hx : P.info? t with
      | none => rw [hx] at hs; cases hs
      | some x =>
        rw [hx] at hs
        have hs' : x.size = v'.cells.size := by have := Option.some.inj hs; rw [← hcells.1]; exact this
        unfold storeVar
        simp [sizeOf, typeInfo, hx, hs', hst]
    · cases ho
end Go.Ab
