/-
  A CALCULUS OVER ABSTRACT HEAPS: operations, regions, code: the conditions ('codeW') that a body of a function comes to, and that they suffice ('code_sound').
-/
import Derived.Test.YtnbfimppgcoajaaDoorAbMaps
namespace Go.Ab
set_option linter.unusedSimpArgs false
set_option linter.unusedVariables false
set_option linter.unusedSectionVars false
variable [Start]

def ptrTo (i : Nat) : Value := .pointer (some ⟨i, 0, none⟩)
def newW (v : Value) (H : AHeap) (K : Value → AHeap → Prop) : Prop := v.cells.toList.all (·.oneCell') = true ∧ ∀ i, H i = .none → K (ptrTo i) (H.set i (.cells v.cells.toList))
def binW (P : Program) (op : BinOp) (t : TypeId) (x y : Operand) (u v : Value) (H : AHeap) (K : Value → AHeap → Prop) : Prop := match u, v with
  | .int k a, .int k' b => match binI op k a k' b with | some r => K r H | none => False
  | .string a, .string b => match binS op a b with | some r => K r H | none => False
  | u, v => if plain u = true ∧ plain v = true then (match pureA P (do eqGuard op t x y u v; binOp op t u v) with | some r => scalar r = true ∧ K r H | none => False)
    else match op with
      | .eql => (match eqNilA P t u v with | some b => K (.bool b) H | none => match eqPtrA P H t u v with | some b => K (.bool b) H | none => False)
      | .neq => (match eqNilA P t u v with | some b => K (.bool !b) H | none => match eqPtrA P H t u v with | some b => K (.bool !b) H | none => False)
      | _ => False
def unA : UnOp → Value → Option Value
  | .not, .bool b => some (.bool !b)
  | .neg, .int k n => some (.int k (k.wrap (0 - n)))
  | _, _ => none
def convW (P : Program) (s t : TypeId) (x : Value) (H : AHeap) (K : Value → AHeap → Prop) : Prop := match convA P s t x with
  | some v => K v H
  | none => match convBytesA P H s t x with
    | some v => K v H
    | none => False
def lenA (P : Program) (H : AHeap) (t : TypeId) (x : Value) : Option Nat := match P.underlying t, x with
  | some .string, .string s => some s.size
  | some (.slice _), .slice _ n _ => some n
  | some (.map _ _), .map none => some 0
  | some (.map _ _), .map (some i) => match H i with | .map es => some es.length | _ => none
  | _, _ => none
def makeSliceA (P : Program) (t : TypeId) (l c : Value) : Option (List Value × Nat × Nat) := (elemA P t).bind fun e => (zeroA P e.ty).bind fun z => match l, c with
  | .int _ l, .int _ c => if z.cells.toList.all scalar = true ∧ 0 ≤ l ∧ l ≤ c ∧ c ≤ 9223372036854775807 ∧ c.toNat * e.bytes ≤ 140737488355328 then some ((List.replicate c.toNat z.cells.toList).flatten, l.toNat, c.toNat) else none
  | _, _ => none
/-- A method of a value in an interface, that lies as it is wanted. -/
def methodA (P : Program) (t : TypeId) (name : String) : Option FuncId := (P.info? t).bind fun i => (i.methods.find? (·.name == name)).bind fun m => if m.path.isEmpty then (match m.func, P.underlying t with
  | some (f, true), some (.pointer _) => some f
  | some (_, false), some (.pointer _) => none
  | some (f, false), some _ => some f
  | _, _ => none) else none
def callW (P : Program) (c : Call) (env : Env) (H : AHeap) (K : Value → AHeap → Prop) : Prop := match c.callee with
  | .value f => match ev env f with
    | .func (.func g) first captured => ACalls P g (first ++ c.args.map (ev env) ++ captured) H K
    | _ => False
  | .invoke r name => match ev env r with
    | .iface t v => match methodA P t name with
      | some g => ACalls P g (#[v] ++ c.args.map (ev env)) H K
      | none => False
    | _ => False
  | .builtin .len => match c.argTypes.toList, c.args.toList with
    | [t], [x] => match lenA P H t (ev env x) with
      | some n => K (.int .i64 n) H
      | none => False
    | _, _ => False
  | .builtin .append => match c.argTypes.toList, c.args.toList with
    | [t, xt], [s, x] => appendW P t xt (ev env s) (ev env x) H K
    | _, _ => False
  | .builtin .min => match c.args.toList with
    | [x, y] => match ev env x, ev env y with
      | .int k a, .int _ b => K (.int k (if b < a then b else a)) H
      | _, _ => False
    | _ => False
  | _ => False

def opW (P : Program) (env : Env) (H : AHeap) (K : Value → AHeap → Prop) : Op → Prop
  | .move x | .assign x => K (ev env x) H
  | .pick c x y => match ev env c with
    | .bool b => K (if b then ev env x else ev env y) H
    | _ => False
  | .alloc t => match zeroA P t with
    | some z => z.cells.toList.all scalar = true ∧ newW z H K
    | none => False
  | .box _ x => newW (ev env x) H K
  | .build t ps => match buildA P t (ps.toList.map fun (i, x) => (i, ev env x)) with
    | some cs => K (.agg cs) H
    | none => False
  | .buildSlice t n ps => match buildSliceA P t n (ps.toList.map fun (i, x) => (i, ev env x)) with
    | some cs => cs.toList.all (·.oneCell') = true ∧ ∀ i, H i = .none → K (.slice (some ⟨i, 0, none⟩) n n) (H.set i (.cells cs.toList))
    | none => False
  | .load t x => match aggA P t, ev env x with
    | some n, .pointer (some ⟨i, k, none⟩) => match readA (H i) k n with
      | some v => K v H
      | none => False
    | _, _ => False
  | .store t x y => match ev env x with
    | .pointer (some ⟨i, k, none⟩) => sizeA P t = some (ev env y).cells.size ∧ match writeA (H i) k (ev env y).cells.toList with
      | some o => K undef (H.set i o)
      | none => False
    | _ => False
  | .nilCheck x => match ev env x with
    | .pointer (some a) => K (.pointer (some a)) H
    | .func (.func g) a b => K (.func (.func g) a b) H
    | .iface t v => K (.iface t v) H
    | _ => False
  | .binOp op t x y _ => binW P op t x y (ev env x) (ev env y) H K
  | .unOp op _ x => match unA op (ev env x) with
    | some v => K v H
    | none => False
  | .convert s t x => convW P s t (ev env x) H K
  | .makeInterface t x => P.concrete t = true ∧ K (.iface t (ev env x)) H
  | .makeFunc fn first captured => K (.func fn (first.map (ev env)) (captured.map (ev env))) H
  | .makeMap _ none => ∀ i, H i = .none → K (.map (some i)) (H.set i (.map []))
  | .makeSlice t l c => match makeSliceA P t (ev env l) (ev env c) with
    | some (cs, n, m) => ∀ i, H i = .none → K (.slice (some ⟨i, 0, none⟩) n m) (H.set i (.cells cs))
    | none => False
  | .slice t x lo hi mx => match sliceA P t (ev env x) (lo.map (ev env)) (hi.map (ev env)) (mx.map (ev env)) with
    | some v => (lo.all fun y => scalar (ev env y)) = true ∧ (hi.all fun y => scalar (ev env y)) = true ∧ (mx.all fun y => scalar (ev env y)) = true ∧ K v H
    | none => False
  | .fieldAddr t x f => match fieldAddrA P t (ev env x) f with
    | some v => K v H
    | none => False
  | .field t x f => match fieldValA P t (ev env x) f with
    | some v => K v H
    | none => False
  | .indexAddr t x y => match indexAddrA P t (ev env x) (ev env y) with
    | some v => K v H
    | none => False
  | .index t x y => match indexA P t (ev env x) (ev env y) with
    | some v => K v H
    | none => False
  | .lookup t x k ok => scalar (ev env k) = true ∧ match lookupA P H t (ev env x) (ev env k) ok with
    | some v => K v H
    | none => False
  | .mapUpdate t x k v | .insert t x k v => scalar (ev env k) = true ∧ match updateA P H t (ev env x) (ev env k) (ev env v) with
    | some H' => K undef H'
    | none => False
  | .extract x i => match ev env x with
    | .tuple vs => match vs[i]? with
      | some v => K v H
      | none => False
    | _ => False
  | .call c => callW P c env H K
  | _ => False

def okOper (N : Nat) (o : Oper) : Bool := o.dst.all (· < N) && o.op.operands.toList.all okOperand

omit [Go.Ab.Start] in
theorem value_op {P : Program} {o : Oper} {a : Act} {w w' : World} {v : Value} {next : Act → World → Prop} {Q : Exit → Act → World → Prop} (h : (execOp a.eval o).run P w = .ok (.value v) w') (hn : next (a.put o.dst v) w') : o.wp P a w next Q := by
  unfold Oper.wp; rw [h]; exact hn
omit [Go.Ab.Start] in
theorem skip_op {P : Program} {o : Oper} {a : Act} {w w' : World} {next : Act → World → Prop} {Q : Exit → Act → World → Prop} (h : (execOp a.eval o).run P w = .ok .skip w') (hn : next (a.put o.dst undef) w') : o.wp P a w next Q := by
  unfold Oper.wp; rw [h]; exact hn
omit [Go.Ab.Start] in
theorem enter_op {P : Program} {o : Oper} {a : Act} {w : World} {f : FuncId} {args : Array Value} {next : Act → World → Prop} {Q : Exit → Act → World → Prop} (h : (execOp a.eval o).run P w = .ok (.enter f args) w)
    (hn : Calls P f args w fun e w' => ∃ v', e = .returned v' ∧ next (a.put o.dst v') w') : o.wp P a w next Q := by
  unfold Oper.wp; rw [h, Oper.upon_enter]
  exact hn.mono fun e w' ⟨v', he, hk⟩ => by subst he; exact hk
omit [Go.Ab.Start] in
theorem run_callFunc {P : Program} {f : FuncId} (h : Enter P f) (args : Array Value) (w : World) : (callFunc f args).run P w = .ok (.enter f args) w := by
  obtain ⟨fn, h1, h2, h3⟩ := h
  have h2' : fn.name ≠ "runtime.NumGoroutine" := by intro hh; rw [hh] at h2; simp at h2
  have h3' : fn.body ≠ none := by intro hh; rw [hh] at h3; simp at h3
  unfold callFunc
  simp [h1, h2', h3']
omit [Go.Ab.Start] in
theorem ArrR.map {φ : Emb} {env : Env} {a : Act} (he : EnvR φ env a.tmps) {xs : Array Operand} (h : xs.toList.all okOperand = true) : ArrR φ (xs.map (ev env)) (xs.map a.eval) :=
  ⟨by simp, fun i h1 h2 => by
    rw [Array.getElem_map, Array.getElem_map]
    exact ev_rel he (List.all_eq_true.1 h _ (by simp))⟩
theorem Rel.newVar {P : Program} {base : Nat} {w0 : World} {φ : Emb} {H : AHeap} {w : World} (r : Rel base w0 φ H w) {v v' : Value} (hv : VR φ v v') {K : Value → AHeap → Prop} (h : newW v H K) (t : TypeId) :
    (_root_.Go.newVar t v').run P w = .ok ⟨w.heap.size, 0, none⟩ (w.alloc (.cells v'.cells t)) ∧ Post base w0 φ H w K (.pointer (some ⟨w.heap.size, 0, none⟩)) (w.alloc (.cells v'.cells t)) := by
  refine ⟨by simp [_root_.Go.newVar, _root_.Go.newRow], ?_⟩
  obtain ⟨i, hi⟩ := r.someFresh
  obtain ⟨φ', r1, s1, h1⟩ := r.newRow hi t hv.cells h.1
  exact ⟨φ', _, ptrTo i, s1, r1, by have := VR.ptr (k := 0) h1; simpa [ptrTo] using this, h.2 i hi⟩
omit [Go.Ab.Start] in
theorem scalar_opt {φ : Emb} {env : Env} {a : Act} (he : EnvR φ env a.tmps) {o : Option Operand} (ho : o.toList.all okOperand = true) (h : (o.all fun y => scalar (ev env y)) = true) : o.map a.eval = o.map (ev env) := by
  cases o with
  | none => rfl
  | some x =>
    have hx := ev_rel he (x := x) (by simpa using ho)
    have := hx.scalar_eq (by simpa using h)
    simp [this]
omit [Go.Ab.Start] in
theorem flatten_get (z : List Value) (hz : 0 < z.length) : ∀ (n j : Nat), j < n * z.length → ((List.replicate n z).flatten)[j]? = z[j % z.length]?
  | 0, j, h => by simp at h
  | n + 1, j, h => by
    rw [List.replicate_succ, List.flatten_cons]
    by_cases hj : j < z.length
    · rw [List.getElem?_append_left hj, Nat.mod_eq_of_lt hj]
    · rw [List.getElem?_append_right (by omega), flatten_get z hz n (j - z.length) (by rw [Nat.add_mul] at h; omega), ← Nat.mod_eq_sub_mod (by omega)]
omit [Go.Ab.Start] in
theorem flatten_len (z : List Value) : ∀ n : Nat, ((List.replicate n z).flatten).length = n * z.length
  | 0 => by simp
  | n + 1 => by rw [List.replicate_succ, List.flatten_cons, List.length_append, flatten_len z n, Nat.add_mul]; omega
omit [Go.Ab.Start] in
theorem makeSlice_cells (z : Array Value) (hz : 0 < z.size) (n : Nat) : ((Array.range (n * z.size)).map fun j => z[j % z.size]!) = ((List.replicate n z.toList).flatten).toArray := by
  apply Array.ext'
  apply List.ext_getElem?
  intro j
  rw [List.toList_toArray]
  by_cases hj : j < n * z.size
  · rw [flatten_get z.toList (by simpa using hz) n j (by simpa using hj)]
    have hm : j % z.size < z.size := Nat.mod_lt _ hz
    simp [hj, hm]
  · rw [List.getElem?_eq_none (by simp; omega), List.getElem?_eq_none (by rw [flatten_len]; simp; omega)]
theorem run_makeSlice_A {P : Program} {base : Nat} {w0 : World} {φ : Emb} {H : AHeap} {w : World} (r : Rel base w0 φ H w) {t : TypeId} {l l' c c' : Value} (hl : VR φ l l') (hc : VR φ c c') {cs : List Value} {n m : Nat} (h : makeSliceA P t l c = some (cs, n, m)) {K : Value → AHeap → Prop}
    (hk : ∀ i, H i = .none → K (.slice (some ⟨i, 0, none⟩) n m) (H.set i (.cells cs))) : ∃ v' w', (Instr.makeSlice t l' c').run P w = .ok v' w' ∧ Post base w0 φ H w K v' w' := by
  unfold makeSliceA at h
  cases he : elemA P t with
  | none => rw [he] at h; cases h
  | some e =>
    rw [he] at h
    simp only [Option.bind_some] at h
    obtain ⟨hu, i, z, hi, hz, hs, hb, hz2, hpos⟩ := elemA_spec he
    have hz' : zeroA P e.ty = some z := by simp [zeroA, hi, hz]
    rw [hz'] at h
    simp only [Option.bind_some] at h
    cases hl with
    | int k1 x =>
      cases hc with
      | int k2 y =>
        simp only at h
        split at h
        · rename_i hcond
          obtain ⟨hsc, h0, hxy, hy, hbytes⟩ := hcond
          cases h
          have wx : IntKind.i64.wrap x = x := IntWalk.i64_in x (by omega)
          have wy : IntKind.i64.wrap y = y := IntWalk.i64_in y (by omega)
          obtain ⟨j, hj⟩ := r.someFresh
          have hcells := makeSlice_cells z.cells (by omega) y.toNat
          have harr : ArrR φ ((List.replicate y.toNat z.cells.toList).flatten).toArray ((List.replicate y.toNat z.cells.toList).flatten).toArray := ArrR.of_plain φ (by
            rw [List.all_eq_true]
            intro v hv
            simp only [List.toList_toArray] at hv
            obtain ⟨q, hq1, hq2⟩ := List.mem_flatten.1 hv
            rw [(List.mem_replicate.1 hq1).2] at hq2
            exact List.all_eq_true.1 hsc v hq2)
          have hone : ((List.replicate y.toNat z.cells.toList).flatten).toArray.toList.all (·.oneCell') = true := by
            rw [List.all_eq_true]
            intro v hv
            have h1 : scalar v = true := by
              simp only [List.toList_toArray] at hv
              obtain ⟨q, hq1, hq2⟩ := List.mem_flatten.1 hv
              rw [(List.mem_replicate.1 hq1).2] at hq2
              exact List.all_eq_true.1 hsc v hq2
            cases v <;> first | rfl | cases h1
          obtain ⟨φ', r1, s1, h1⟩ := r.newRow hj e.ty harr hone
          refine ⟨.slice (some ⟨w.heap.size, 0, none⟩) x.toNat y.toNat, _, ?_, φ', _, _, s1, r1, by have := VR.slice (k := 0) (n := x.toNat) (c := y.toNat) (c' := y.toNat) h1 (.inl rfl); simpa using this, by simpa using hk j hj⟩
          have hbig : ¬ (2 ^ 48 : Int) < (i.bytes : Int) * y := by
            have e1 : ((y.toNat * e.bytes : Nat) : Int) ≤ ((140737488355328 : Nat) : Int) := Int.ofNat_le.2 hbytes
            have e2 : (i.bytes : Int) * y = ((y.toNat * e.bytes : Nat) : Int) := by
              rw [hb, Int.mul_comm, Int.natCast_mul, Int.toNat_of_nonneg (by omega)]
            rw [e2]; omega
          have hty : (typeInfo e.ty).run P w = .ok i w := by simp [typeInfo, hi]
          have hsz : (sizeOf e.ty).run P w = .ok z.cells.size w := by simp [sizeOf, typeInfo, hi, hs, hz2]
          have hzv : (zeroValue e.ty).run P w = .ok z w := by simp [zeroValue, typeInfo, hi, hz]
          unfold Instr.makeSlice
          simp only [Sem.run_bind, run_underlying hu, Result.andThen_ok, asInt, asIntOf, Sem.run_pure, hty, wx, wy]
          have hno : (decide (y < 0) || decide ((i.bytes : Int) * y > 2 ^ 48) || decide (x < 0) || decide (x > y)) = false := by
            simp only [Bool.or_eq_false_iff, decide_eq_false_iff_not]
            exact ⟨⟨⟨by omega, hbig⟩, by omega⟩, by omega⟩
          simp only [hno, Bool.false_eq_true, if_false, Sem.run_bind, run_askRoom, Result.andThen_ok, hsz]
          by_cases hn0 : y.toNat * z.cells.size = 0
          · have hy0 : y.toNat = 0 := by
              rcases Nat.mul_eq_zero.1 hn0 with h | h
              · exact h
              · omega
            simp [hn0, hy0, newRow]
            simp only [show (Array.range 0) = #[] from rfl, List.map_toArray, List.map_nil]
          · rw [if_neg hn0]
            simp only [Sem.run_bind, hzv, Result.andThen_ok, Sem.run_pure, hcells, newRow, run_newObj, World.alloc_eq]
        · cases h
      | _ => cases h
    | _ => cases h
end Go.Ab
