/-
  A CALCULUS OVER ABSTRACT HEAPS: 'op_sound': an operation of a region, in a world that the heap describes, does what its condition says.
-/
import Derived.Test.YtnbfimppgcoajaaDoorAbOp
namespace Go.Ab
set_option linter.unusedSimpArgs false
set_option linter.unusedVariables false
set_option linter.unusedSectionVars false
variable [Start]
variable {P : Program} {base : Nat} {w0 : World} {φ : Emb} {H : AHeap} {w : World} {K : Value → AHeap → Prop}

omit [Go.Ab.Start] in
theorem ArrR.append2 {a b c d : Array Value} (h : ArrR φ a c) (h' : ArrR φ b d) : ArrR φ (a ++ b) (c ++ d) := h.append h'
omit [Go.Ab.Start] in
theorem arr1 {v v' : Value} (h : VR φ v v') : ArrR φ #[v] #[v'] := ⟨rfl, fun i h1 h2 => by
  have : i = 0 := by simpa using h1
  subst this; exact h⟩
omit [Go.Ab.Start] in
theorem list_one {α : Type} {a : Array α} {x : α} (h : a.toList = [x]) : a = #[x] := Array.toList_inj.1 (by simpa using h)
omit [Go.Ab.Start] in
theorem list_two {α : Type} {a : Array α} {x y : α} (h : a.toList = [x, y]) : a = #[x, y] := Array.toList_inj.1 (by simpa using h)
omit [Go.Ab.Start] in
theorem depth_pos (P : Program) : ∃ n, P.types.size + Made.depth = n + 1 := ⟨P.types.size + 99, by simp [Made.depth]⟩
theorem out_enter (r : Rel base w0 φ H w) {f : FuncId} {args cargs : Array Value} (hc : ACalls P f args H K) (ha : ArrR φ args cargs) : OpOut P base w0 φ H w K ((callFunc f cargs).run P w) :=
  hc base w0 φ w cargs r ha

theorem call_sound (r : Rel base w0 φ H w) {env : Env} {a : Act} (he : EnvR φ env a.tmps) (c : Call) (hok : c.operands.toList.all okOperand = true) (ty : TypeId) (h : callW P c env H K) :
    OpOut P base w0 φ H w K ((do let d ← resolve a.eval c ty; invoke d.target d.args : Sem Next).run P w) := by
  obtain ⟨callee, args, argTypes⟩ := c
  cases callee with
  | value f =>
    have hf : okOperand f = true := by
      have := List.all_eq_true.1 hok f (by simp [Call.operands])
      exact this
    have hargs : args.toList.all okOperand = true := by
      rw [List.all_eq_true]
      intro x hx
      exact List.all_eq_true.1 hok x (by simp [Call.operands]; exact .inr (by simpa using hx))
    have hv := ev_rel he hf
    unfold callW at h
    simp only at h
    cases hev : ev env f with
    | func fn first captured =>
      rw [hev] at h hv
      cases fn with
      | func g =>
        simp only at h
        generalize hq : a.eval f = u at hv
        cases hv with
        | func h1 h2 h3 h4 =>
          rename_i first' captured'
          have := out_enter r h ((ArrR.append2 (⟨h1, h2⟩ : ArrR φ first first') (ArrR.map he hargs)).append2 (⟨h3, h4⟩ : ArrR φ captured captured'))
          simpa [resolve, Deferred.ofValue, invoke, hq] using this
      | _ => exact h.elim
    | _ => rw [hev] at h; exact h.elim
  | invoke x name =>
    have hf : okOperand x = true := List.all_eq_true.1 hok x (by simp [Call.operands])
    have hargs : args.toList.all okOperand = true := by
      rw [List.all_eq_true]
      intro y hy
      exact List.all_eq_true.1 hok y (by simp [Call.operands]; exact .inr (by simpa using hy))
    have hv := ev_rel he hf
    unfold callW at h
    simp only at h
    cases hev : ev env x with
    | iface t v =>
      rw [hev] at h hv
      simp only at h
      cases hm : methodA P t name with
      | none => rw [hm] at h; exact h.elim
      | some g =>
        rw [hm] at h
        simp only at h
        generalize hq : a.eval x = u at hv
        cases hv with
        | iface _ h1 =>
          rename_i v'
          obtain ⟨n, hn⟩ := depth_pos P
          have := out_enter r h ((arr1 h1).append2 (ArrR.map he hargs))
          have hmm := method_plain (P := P) hm v' n w
          have e0 : (#[Value.iface t v'] ++ Array.map a.eval args)[0]? = some (Value.iface t v') := by simp [Array.getElem?_append]
          have e1 : (Array.map a.eval args).extract 0 args.size = Array.map a.eval args := by
            apply Array.ext'
            simp [List.take_of_length_le]
          simpa [resolve, invoke, callMethod, hn, hmm, hq, e0, e1] using this
    | _ => rw [hev] at h; exact h.elim
  | builtin b =>
    have hargs : args.toList.all okOperand = true := by
      rw [List.all_eq_true]
      intro y hy
      exact List.all_eq_true.1 hok y (by simp [Call.operands]; exact (by simpa using hy))
    unfold callW at h
    cases b <;> simp only at h <;> first | (exact h.elim) | skip
    · split at h
      · rename_i t xt s x h1 h2
        rw [list_two h1, list_two h2] 
        rw [list_two h2] at hargs
        have hs := ev_rel he (x := s) (List.all_eq_true.1 hargs s (by simp))
        have hx := ev_rel he (x := x) (List.all_eq_true.1 hargs x (by simp))
        obtain ⟨v', w', hr, hp⟩ := append_sound (ty := ty) r hs hx h
        simpa [resolve, invoke, builtin] using out_value hr hp
      · exact h.elim
    · split at h
      · rename_i t x h1 h2
        rw [list_one h1, list_one h2] 
        rw [list_one h2] at hargs
        have hx := ev_rel he (x := x) (List.all_eq_true.1 hargs x (by simp))
        split at h
        · rename_i n hl
          have hr := len_sound (ty := ty) r hx hl
          simpa [resolve, invoke, builtin] using out_value hr (.same r (.int _ _) h)
        · exact h.elim
      · exact h.elim
    · split at h
      · rename_i x y h2
        rw [list_two h2]
        rw [list_two h2] at hargs
        have hx := ev_rel he (x := x) (List.all_eq_true.1 hargs x (by simp))
        have hy := ev_rel he (x := y) (List.all_eq_true.1 hargs y (by simp))
        split at h
        · rename_i k a k' b e1 e2
          rw [e1] at hx
          rw [e2] at hy
          generalize hqx : Act.eval _ x = u at hx
          generalize hqy : Act.eval _ y = v at hy
          cases hx
          cases hy
          have hr : (Builtin.min_ argTypes ty #[Value.int k a, Value.int k' b]).run P w = .ok (.int k (if b < a then b else a)) w := by
            simp [Builtin.min_, Builtin.min2]
          simpa [resolve, invoke, builtin, hqx, hqy] using out_value hr (.same r (.int _ _) h)
        · exact h.elim
      · exact h.elim
end Go.Ab
