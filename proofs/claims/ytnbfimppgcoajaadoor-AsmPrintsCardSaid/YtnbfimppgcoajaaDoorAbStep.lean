/-
  A CALCULUS OVER ABSTRACT HEAPS: one step at a time: the value of an operation that leaves the heap alone ('valA'), and a rule for each operation that does not.
-/
import Derived.Test.YtnbfimppgcoajaaDoorAbAny
namespace Go.Ab
set_option linter.unusedSimpArgs false
set_option linter.unusedVariables false
set_option linter.unusedSectionVars false
variable [Start]
variable {P : Program} {env : Env} {H : AHeap}

def binV (P : Program) (H : AHeap) (op : BinOp) (t : TypeId) (x y : Operand) (u v : Value) : Option Value := match u, v with
  | .int k a, .int k' b => binI op k a k' b
  | .string a, .string b => binS op a b
  | u, v => if plain u = true ∧ plain v = true then (match pureA P (do eqGuard op t x y u v; binOp op t u v) with | some r => if scalar r = true then some r else none | none => none)
    else match op with
      | .eql => (match eqNilA P t u v with | some b => some (.bool b) | none => (eqPtrA P H t u v).map .bool)
      | .neq => (match eqNilA P t u v with | some b => some (.bool !b) | none => (eqPtrA P H t u v).map fun b => .bool !b)
      | _ => none
def lenV (P : Program) (env : Env) (H : AHeap) (c : Call) : Option Value := match c.callee, c.argTypes.toList, c.args.toList with
  | .builtin .len, [t], [x] => (lenA P H t (ev env x)).map fun (n : Nat) => Value.int .i64 (n : Int)
  | _, _, _ => none
def convV (P : Program) (H : AHeap) (s t : TypeId) (x : Value) : Option Value := match convA P s t x with
  | some v => some v
  | none => convBytesA P H s t x
def valA (P : Program) (env : Env) (H : AHeap) : Op → Option Value
  | .move x | .assign x => some (ev env x)
  | .pick c x y => match ev env c with
    | .bool b => some (if b then ev env x else ev env y)
    | _ => none
  | .build t ps => (buildA P t (ps.toList.map fun (i, x) => (i, ev env x))).map .agg
  | .load t x => match aggA P t, ev env x with
    | some n, .pointer (some ⟨i, k, none⟩) => readA (H i) k n
    | _, _ => none
  | .nilCheck x => match ev env x with
    | .pointer (some a) => some (.pointer (some a))
    | .func (.func g) a b => some (.func (.func g) a b)
    | .iface t v => some (.iface t v)
    | _ => none
  | .binOp op t x y _ => binV P H op t x y (ev env x) (ev env y)
  | .unOp op _ x => unA op (ev env x)
  | .convert s t x => convV P H s t (ev env x)
  | .makeInterface t x => if P.concrete t = true then some (.iface t (ev env x)) else none
  | .makeFunc fn first captured => some (.func fn (first.map (ev env)) (captured.map (ev env)))
  | .slice t x lo hi mx => if (lo.all fun y => scalar (ev env y)) = true ∧ (hi.all fun y => scalar (ev env y)) = true ∧ (mx.all fun y => scalar (ev env y)) = true then sliceA P t (ev env x) (lo.map (ev env)) (hi.map (ev env)) (mx.map (ev env)) else none
  | .fieldAddr t x f => fieldAddrA P t (ev env x) f
  | .field t x f => fieldValA P t (ev env x) f
  | .indexAddr t x y => indexAddrA P t (ev env x) (ev env y)
  | .index t x y => indexA P t (ev env x) (ev env y)
  | .lookup t x k ok => if scalar (ev env k) = true then lookupA P H t (ev env x) (ev env k) ok else none
  | .extract x i => match ev env x with
    | .tuple vs => vs[i]?
    | _ => none
  | .call c => lenV P env H c
  | _ => none
omit [Go.Ab.Start] in
theorem binV_sound {op : BinOp} {t : TypeId} {x y : Operand} {u v r : Value} (h : binV P H op t x y u v = some r) {K : Value → AHeap → Prop} (hk : K r H) : binW P op t x y u v H K := by
  unfold binV at h
  unfold binW
  split at h
  · simp only [h]; exact hk
  · simp only [h]; exact hk
  · simp only
    split at h
    · rename_i hp
      rw [if_pos hp]
      split at h
      · rename_i r' hr
        split at h
        · rename_i hs; cases h; simp only [hr]; exact ⟨hs, hk⟩
        · cases h
      · cases h
    · rename_i hp
      rw [if_neg hp]
      split at h
      · split at h
        · cases h; rename_i hb; simp only [hb]; exact hk
        · rename_i hb
          simp only [hb]
          cases he : eqPtrA P H t u v with
          | none => rw [he] at h; cases h
          | some b => rw [he] at h; cases h; exact hk
      · split at h
        · cases h; rename_i hb; simp only [hb]; exact hk
        · rename_i hb
          simp only [hb]
          cases he : eqPtrA P H t u v with
          | none => rw [he] at h; cases h
          | some b => rw [he] at h; cases h; exact hk
      · cases h
theorem valA_sound {op : Op} {v : Value} (h : valA P env H op = some v) {K : Value → AHeap → Prop} (hk : K v H) : opW P env H K op := by
  cases op <;> unfold valA at h <;> unfold opW <;> simp only at h ⊢ <;> first
    | (cases h; done)
    | (cases h; exact hk)
    | exact binV_sound h hk
    | (rw [h]; exact hk)
    | skip
  case pick c x y =>
    split at h
    · rename_i hb; cases h; simp only [hb]; exact hk
    · cases h
  case load t x =>
    split at h
    · rename_i h1 h2; simp only [h1, h2, h]; exact hk
    · cases h
  case nilCheck x =>
    split at h
    · rename_i h1; cases h; simp only [h1]; exact hk
    · rename_i h1; cases h; simp only [h1]; exact hk
    · rename_i h1; cases h; simp only [h1]; exact hk
    · cases h
  case makeInterface t x =>
    split at h
    · rename_i h1; cases h; exact ⟨h1, hk⟩
    · cases h
  case slice t x lo hi mx =>
    split at h
    · rename_i h1; simp only [h]; exact ⟨h1.1, h1.2.1, h1.2.2, hk⟩
    · cases h
  case lookup t x k ok =>
    split at h
    · rename_i h1; simp only [h]; exact ⟨h1, hk⟩
    · cases h
  case extract x i =>
    split at h
    · rename_i h1; simp only [h1, h]; exact hk
    · cases h
  case call c =>
    unfold lenV at h
    obtain ⟨callee, args, argTypes⟩ := c
    unfold callW
    split at h
    · rename_i t x h1 h2 h3
      simp only at h1 h2 h3
      subst h1
      simp only [h2, h3]
      cases hl : lenA P H t (ev env x) with
      | none => rw [hl] at h; cases h
      | some n => rw [hl] at h; cases h; exact hk
    · cases h
  case build t ps =>
    cases hb : buildA P t (ps.toList.map fun (i, x) => (i, ev env x)) with
    | none => rw [hb] at h; cases h
    | some cs => rw [hb] at h; cases h; exact hk
  case convert s t x =>
    unfold convV at h
    unfold convW
    split at h
    · rename_i hc; cases h; simp only [hc]; exact hk
    · rename_i hc; simp only [hc, h]; exact hk

/-! ### Steps in a region -/
variable {ops : Array Oper} {K : Env → AHeap → Prop} {rest : List Oper} {N : Nat} {Q : AQ}

theorem ops_nil (h : K env H) : opsW P ops K [] env H := h
theorem ops_val {dst : Option Tmp} {op : Op} {ty : TypeId} {pos : String} {af : Array Edge} {v : Value} (hv : valA P env H op = some v) (h : opsW P ops K rest (put env dst v) H) : opsW P ops K (⟨dst, op, ty, pos, af, none⟩ :: rest) env H := by
  unfold opsW operW
  exact valA_sound hv h
/-- A guard that has not come true. -/
theorem ops_pass {dst : Option Tmp} {op : Op} {ty : TypeId} {pos : String} {af : Array Edge} {j : Nat} {want : Bool} (hy : yieldA ops env j = some (!want)) (h : opsW P ops K rest (put env dst undef) H) : opsW P ops K (⟨dst, op, ty, pos, af, some (j, want)⟩ :: rest) env H := by
  unfold opsW operW
  simp only
  rw [hy]
  exact ⟨fun hb => (by cases want <;> exact nomatch hb), fun _ => h⟩
theorem ops_pass' {dst : Option Tmp} {op : Op} {ty : TypeId} {pos : String} {af : Array Edge} {j : Nat} {want : Bool} (hy : yieldA ops env j = none) (h : opsW P ops K rest (put env dst undef) H) : opsW P ops K (⟨dst, op, ty, pos, af, some (j, want)⟩ :: rest) env H := by
  unfold opsW operW
  simp only [hy]
  exact h
/-- A guard that has come true. -/
theorem ops_on {dst : Option Tmp} {op : Op} {ty : TypeId} {pos : String} {af : Array Edge} {j : Nat} {want : Bool} (hy : yieldA ops env j = some want) (h : opsW P ops K (⟨dst, op, ty, pos, af, none⟩ :: rest) env H) : opsW P ops K (⟨dst, op, ty, pos, af, some (j, want)⟩ :: rest) env H := by
  unfold opsW operW at h ⊢
  simp only [hy]
  exact ⟨fun _ => h, fun hb => absurd rfl hb⟩
/-- A guard whose truth is not yet told. -/
theorem ops_if {dst : Option Tmp} {op : Op} {ty : TypeId} {pos : String} {af : Array Edge} {j : Nat} {want b : Bool} (hy : yieldA ops env j = some b) (h : b = want → opsW P ops K (⟨dst, op, ty, pos, af, none⟩ :: rest) env H) (h' : b = (!want) → opsW P ops K rest (put env dst undef) H) :
    opsW P ops K (⟨dst, op, ty, pos, af, some (j, want)⟩ :: rest) env H := by
  unfold opsW operW at h ⊢
  simp only [hy]
  exact ⟨fun hb => h hb, fun hb => h' (by cases b <;> cases want <;> first | rfl | exact absurd rfl hb)⟩
theorem ops_store {dst : Option Tmp} {t : TypeId} {x y : Operand} {ty : TypeId} {pos : String} {af : Array Edge} {i k : Nat} {o : AObj} (hx : ev env x = .pointer (some ⟨i, k, none⟩)) (hs : sizeA P t = some (ev env y).cells.size) (hw : writeA (H i) k (ev env y).cells.toList = some o)
    (h : opsW P ops K rest (put env dst undef) (H.set i o)) : opsW P ops K (⟨dst, .store t x y, ty, pos, af, none⟩ :: rest) env H := by
  unfold opsW operW
  simp only [opW, hx, hw]
  exact ⟨hs, h⟩
theorem ops_alloc {dst : Option Tmp} {t : TypeId} {ty : TypeId} {pos : String} {af : Array Edge} {z : Value} (hz : zeroA P t = some z) (hs : z.cells.toList.all scalar = true) (h1 : z.cells.toList.all (·.oneCell') = true)
    (h : ∀ i, H i = .none → opsW P ops K rest (put env dst (ptrTo i)) (H.set i (.cells z.cells.toList))) : opsW P ops K (⟨dst, .alloc t, ty, pos, af, none⟩ :: rest) env H := by
  unfold opsW operW
  simp only [opW, hz]
  exact ⟨hs, h1, h⟩
theorem ops_box {dst : Option Tmp} {t : TypeId} {x : Operand} {ty : TypeId} {pos : String} {af : Array Edge} {v : Value} (hx : ev env x = v) (h1 : v.cells.toList.all (·.oneCell') = true)
    (h : ∀ i, H i = .none → opsW P ops K rest (put env dst (ptrTo i)) (H.set i (.cells v.cells.toList))) : opsW P ops K (⟨dst, .box t x, ty, pos, af, none⟩ :: rest) env H := by
  unfold opsW operW
  simp only [opW, hx]
  exact ⟨h1, h⟩
theorem ops_buildSlice {dst : Option Tmp} {t : TypeId} {n : Nat} {ps : Array (Nat × Operand)} {ty : TypeId} {pos : String} {af : Array Edge} {cs : Array Value} (hb : buildSliceA P t n (ps.toList.map fun (i, x) => (i, ev env x)) = some cs) (h1 : cs.toList.all (·.oneCell') = true)
    (h : ∀ i, H i = .none → opsW P ops K rest (put env dst (.slice (some ⟨i, 0, none⟩) n n)) (H.set i (.cells cs.toList))) : opsW P ops K (⟨dst, .buildSlice t n ps, ty, pos, af, none⟩ :: rest) env H := by
  unfold opsW operW
  simp only [opW, hb]
  exact ⟨h1, h⟩
theorem ops_makeMap {dst : Option Tmp} {t : TypeId} {ty : TypeId} {pos : String} {af : Array Edge} (h : ∀ i, H i = .none → opsW P ops K rest (put env dst (.map (some i))) (H.set i (.map []))) : opsW P ops K (⟨dst, .makeMap t none, ty, pos, af, none⟩ :: rest) env H := h
theorem ops_makeSlice {dst : Option Tmp} {t : TypeId} {x y : Operand} {ty : TypeId} {pos : String} {af : Array Edge} {cs : List Value} {n m : Nat} (hm : makeSliceA P t (ev env x) (ev env y) = some (cs, n, m))
    (h : ∀ i, H i = .none → opsW P ops K rest (put env dst (.slice (some ⟨i, 0, none⟩) n m)) (H.set i (.cells cs))) : opsW P ops K (⟨dst, .makeSlice t x y, ty, pos, af, none⟩ :: rest) env H := by
  unfold opsW operW
  simp only [opW, hm]
  exact h
theorem ops_mapUpdate {dst : Option Tmp} {t : TypeId} {x k v : Operand} {ty : TypeId} {pos : String} {af : Array Edge} {H' : AHeap} (hk : scalar (ev env k) = true) (hu : updateA P H t (ev env x) (ev env k) (ev env v) = some H')
    (h : opsW P ops K rest (put env dst undef) H') : opsW P ops K (⟨dst, .mapUpdate t x k v, ty, pos, af, none⟩ :: rest) env H := by
  unfold opsW operW
  simp only [opW, hu]
  exact ⟨hk, h⟩
theorem ops_append {dst : Option Tmp} {t xt : TypeId} {s x : Operand} {ty : TypeId} {pos : String} {af : Array Edge} (h : appendW P t xt (ev env s) (ev env x) H fun v H' => opsW P ops K rest (put env dst v) H') :
    opsW P ops K (⟨dst, .call ⟨.builtin .append, #[s, x], #[t, xt]⟩, ty, pos, af, none⟩ :: rest) env H := h
theorem ops_call {dst : Option Tmp} {f : FuncId} {args : Array Operand} {ats : Array TypeId} {ty : TypeId} {pos : String} {af : Array Edge} {vs : Array Value} (hv : args.map (ev env) = vs) (h : ACalls P f vs H fun v H' => opsW P ops K rest (put env dst v) H') :
    opsW P ops K (⟨dst, .call ⟨.value (.func f), args, ats⟩, ty, pos, af, none⟩ :: rest) env H := by
  unfold opsW operW
  simp only [opW, callW, ev]
  rw [hv]
  simpa using h

/-! ### Steps in code -/
theorem code_cond {c : Operand} {x y : Code} (hok : okOperand c = true) {b : Bool} (hb : ev env c = .bool b) (h1 : b = true → ACode P N x Q env H) (h2 : b = false → ACode P N y Q env H) : ACode P N (.cond c x y) Q env H := ACode.cond hok hb h1 h2
end Go.Ab
namespace Go.Ab
variable [Start]
variable {P : Program} {env : Env} {H : AHeap} {N : Nat} {Q : AQ} {K : Env → AHeap → Prop}
omit [Go.Ab.Start] in
theorem then_normal (h : K env H) : thenQ K Q .normal env H := h
omit [Go.Ab.Start] in
theorem then_exit {id : Nat} (h : Q (.exit id) env H) : thenQ K Q (.exit id) env H := h
omit [Go.Ab.Start] in
theorem then_ret (h : Q .ret env H) : thenQ K Q .ret env H := h
omit [Go.Ab.Start] in
theorem block_normal {id : Nat} (h : Q .normal env H) : inBlockQ id Q .normal env H := h
omit [Go.Ab.Start] in
theorem block_ret {id : Nat} (h : Q .ret env H) : inBlockQ id Q .ret env H := h
omit [Go.Ab.Start] in
theorem block_exit {id : Nat} (h : Q .normal env H) : inBlockQ id Q (.exit id) env H := by simp only [inBlockQ, if_true]; exact h
omit [Go.Ab.Start] in
theorem block_exit' {id id' : Nat} (hne : (id' == id) = false) (h : Q (.exit id') env H) : inBlockQ id Q (.exit id') env H := by
  have : id' ≠ id := by simpa using hne
  simp only [inBlockQ, if_neg this]; exact h
theorem cond_true {c : Operand} {x y : Code} (hb : ev env c = .bool true) (hok : okOperand c = true) (h : ACode P N x Q env H) : ACode P N (.cond c x y) Q env H := ACode.cond hok hb (fun _ => h) (fun hf => nomatch hf)
theorem cond_false {c : Operand} {x y : Code} (hb : ev env c = .bool false) (hok : okOperand c = true) (h : ACode P N y Q env H) : ACode P N (.cond c x y) Q env H := ACode.cond hok hb (fun hf => nomatch hf) (fun _ => h)
omit [Go.Ab.Start] in
theorem ret_go {rs : List ResultVar} {K : Value → AHeap → Prop} {vs : List Value} (hr : resultsA P rs env H = some vs) (h : K (handed vs) H) : retQ P rs K .ret env H := by
  unfold retQ; simp only [hr]; exact h
omit [Go.Ab.Start] in
theorem ret_normal {rs : List ResultVar} {K : Value → AHeap → Prop} {vs : List Value} (hr : resultsA P rs env H = some vs) (h : K (handed vs) H) : retQ P rs K .normal env H := by
  unfold retQ; simp only [hr]; exact h
omit [Go.Ab.Start] in
theorem ev_tmp (env : Env) (t : Tmp) : ev env (.tmp t) = env t := rfl
omit [Go.Ab.Start] in
theorem ev_const (env : Env) (v : Value) : ev env (.const v) = v := rfl
omit [Go.Ab.Start] in
theorem ev_func (env : Env) (f : FuncId) : ev env (.func f) = .func (.func f) #[] #[] := rfl
omit [Go.Ab.Start] in
theorem env0_get (args : List Value) (t : Tmp) : env0 args.toArray t = args.getD t undef := by simp [env0]
omit [Go.Ab.Start] in
theorem put_get (env : Env) (d : Tmp) (v : Value) (t : Tmp) : put env (some d) v t = if t = d then v else env t := rfl
end Go.Ab
namespace Go.Ab
variable [Start]
variable {P : Program} {env : Env} {H : AHeap}
/-- A byte of a string. -/
def getB (s : ByteArray) (i : Nat) : UInt8 := s.data.toList.getD i 0
omit [Go.Ab.Start] in
theorem getB_of {s : ByteArray} {i : Nat} (h : i < s.size) : s[i]? = some (getB s i) := by
  unfold getB
  rw [getElem?_pos s i h]
  have hl : i < s.data.toList.length := by simpa using h
  have e : s[i] = s.data.toList[i] := rfl
  rw [e]
  rw [List.getD_eq_getElem?_getD, List.getElem?_eq_getElem hl]
  rfl
omit [Go.Ab.Start] in
theorem indexA_string {t : TypeId} {s : ByteArray} {k : IntKind} {i : Int} (hu : P.underlying t = some .string) (h0 : 0 ≤ i) (h : i < s.size) : indexA P t (.string s) (.int k i) = some (.int .u8 (getB s i.toNat).toNat) := by
  unfold indexA
  simp only [hu]
  rw [if_pos h0, getB_of (by omega)]
  rfl
omit [Go.Ab.Start] in
theorem wrap64 {x : Int} (h1 : -9223372036854775808 ≤ x) (h2 : x ≤ 9223372036854775807) : IntKind.i64.wrap x = x := IntWalk.i64_in x (by omega)
end Go.Ab
