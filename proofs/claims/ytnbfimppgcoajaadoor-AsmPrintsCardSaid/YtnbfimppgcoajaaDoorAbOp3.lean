/-
  A CALCULUS OVER ABSTRACT HEAPS: 'op_sound': an operation of a region, in a world that the heap describes, does what its condition says.
-/
import Derived.Test.YtnbfimppgcoajaaDoorAbOp2
namespace Go.Ab
set_option linter.unusedSimpArgs false
set_option linter.unusedVariables false
set_option linter.unusedSectionVars false
variable [Start]
variable {P : Program} {base : Nat} {w0 : World} {φ : Emb} {H : AHeap} {w : World} {K : Value → AHeap → Prop}

omit [Go.Ab.Start] in
theorem ok_list {xs : List Operand} (h : xs.all okOperand = true) {x : Operand} (hx : x ∈ xs) : okOperand x = true := List.all_eq_true.1 h x hx
omit [Go.Ab.Start] in
theorem opt_ok {o : Option Operand} {xs : List Operand} (h : xs.all okOperand = true) (hx : ∀ x, o = some x → x ∈ xs) : o.toList.all okOperand = true := by
  cases o with
  | none => rfl
  | some x => simpa using ok_list h (hx x rfl)

theorem op_sound (r : Rel base w0 φ H w) {env : Env} {a : Act} (he : EnvR φ env a.tmps) (o : Oper) (hok : o.op.operands.toList.all okOperand = true) (h : opW P env H K o.op) :
    OpOut P base w0 φ H w K ((execOp a.eval o).run P w) := by
  obtain ⟨dst, op, type, pos, after, guard⟩ := o
  simp only at hok h
  cases op with
  | move x =>
    have hx := ev_rel he (ok_list hok (x := x) (by simp [Op.operands]))
    exact out_pure r hx h
  | assign x =>
    have hx := ev_rel he (ok_list hok (x := x) (by simp [Op.operands]))
    exact out_pure r hx h
  | pick c x y =>
    have hc := ev_rel he (ok_list hok (x := c) (by simp [Op.operands]))
    have hx := ev_rel he (ok_list hok (x := x) (by simp [Op.operands]))
    have hy := ev_rel he (ok_list hok (x := y) (by simp [Op.operands]))
    unfold opW at h
    simp only at h
    split at h
    · rename_i b hb
      rw [hb] at hc
      have hc' : a.eval c = .bool b := by generalize a.eval c = u at hc; cases hc; rfl
      refine .inl ⟨if b then a.eval x else a.eval y, w, by simp [execOp, hc', asBool], .same r ?_ h⟩
      cases b
      · exact hy
      · exact hx
    · exact h.elim
  | alloc t =>
    unfold opW at h
    simp only at h
    split at h
    · rename_i z hz
      have hi : (zeroValue t).run P w = .ok z w := by
        unfold zeroA at hz
        cases hi : P.info? t with
        | none => rw [hi] at hz; cases hz
        | some i => rw [hi] at hz; simp only [Option.bind_some] at hz; simp [zeroValue, typeInfo, hi, hz]
      have hv : VR φ (.agg z.cells) (.agg z.cells) := .of_plain φ h.1
      have hcells : ArrR φ z.cells z.cells := by cases hv with | agg h1 h2 => exact ⟨h1, h2⟩
      obtain ⟨i, hfi⟩ := r.someFresh
      obtain ⟨φ', r1, s1, h1⟩ := r.newRow hfi t hcells h.2.1
      refine out_value (v' := .pointer (some ⟨w.heap.size, 0, none⟩)) (w' := w.alloc (.cells z.cells t)) (by simp [Instr.alloc, hi, newVar, newRow]) ⟨φ', _, ptrTo i, s1, r1, by have := VR.ptr (k := 0) h1; simpa [ptrTo] using this, h.2.2 i hfi⟩
    · exact h.elim
  | box t x =>
    have hx := ev_rel he (ok_list hok (x := x) (by simp [Op.operands]))
    exact out_newVar r hx h t
  | build t ps =>
    have hp := parts_ok he (ps := ps) (by simpa [Op.operands] using hok)
    unfold opW at h
    simp only at h
    split at h
    · rename_i cs hb
      obtain ⟨ds, h1, h2⟩ := built_rel hp hb
      exact out_value (run_build w _ _ _ h1) (.same r (.agg h2.1 h2.2) h)
    · exact h.elim
  | buildSlice t n ps =>
    have hp := parts_ok he (ps := ps) (by simpa [Op.operands] using hok)
    unfold opW at h
    simp only at h
    split at h
    · rename_i cs hb
      obtain ⟨v', w', h1, h2⟩ := out_buildSlice (K := K) r hp hb h.1 h.2
      exact out_value h1 h2
    · exact h.elim
  | load t x =>
    have hx := ev_rel he (ok_list hok (x := x) (by simp [Op.operands]))
    unfold opW at h
    simp only at h
    split at h
    · rename_i n i k hn hev
      rw [hev] at hx
      split at h
      · rename_i v hv
        obtain ⟨v', w', h1, h2⟩ := out_load (K := K) r hx hn hv h
        exact out_value h1 h2
      · exact h.elim
    · exact h.elim
  | store t x y =>
    have hx := ev_rel he (ok_list hok (x := x) (by simp [Op.operands]))
    have hy := ev_rel he (ok_list hok (x := y) (by simp [Op.operands]))
    unfold opW at h
    simp only at h
    split at h
    · rename_i i k hev
      rw [hev] at hx
      obtain ⟨hs, h⟩ := h
      split at h
      · rename_i o ho
        obtain ⟨w', h1, h2⟩ := out_store (K := K) r hx hy hs ho h
        exact out_skip h1 h2
      · exact h.elim
    · exact h.elim
  | nilCheck x =>
    have hx := ev_rel he (ok_list hok (x := x) (by simp [Op.operands]))
    unfold opW at h
    simp only at h
    split at h
    · rename_i hev
      rw [hev] at hx
      generalize hq : a.eval x = u at hx
      cases hx with
      | ptr hi => exact .inl ⟨_, w, by simp [execOp, hq], .same r (.ptr hi) h⟩
    · rename_i hev
      rw [hev] at hx
      generalize hq : a.eval x = u at hx
      cases hx with
      | func h1 h2 h3 h4 => exact .inl ⟨_, w, by simp [execOp, hq], .same r (.func h1 h2 h3 h4) h⟩
    · rename_i hev
      rw [hev] at hx
      generalize hq : a.eval x = u at hx
      cases hx with
      | iface _ h1 => exact .inl ⟨_, w, by simp [execOp, hq], .same r (.iface _ h1) h⟩
    · exact h.elim
  | binOp op t x y yt =>
    have hx := ev_rel he (ok_list hok (x := x) (by simp [Op.operands]))
    have hy := ev_rel he (ok_list hok (x := y) (by simp [Op.operands]))
    obtain ⟨z, h1, h2, h3⟩ := bin_sound r hx hy h
    exact out_value h1 (.same r (.of_scalar φ h2) h3)
  | unOp op t x =>
    have hx := ev_rel he (ok_list hok (x := x) (by simp [Op.operands]))
    unfold opW at h
    simp only at h
    split at h
    · rename_i v hv
      obtain ⟨h1, h2⟩ := un_sound (P := P) hx hv w
      exact out_value h1 (.same r (.of_scalar φ h2) h)
    · exact h.elim
  | convert s t x =>
    have hx := ev_rel he (ok_list hok (x := x) (by simp [Op.operands]))
    obtain ⟨v, h1, h2, h3⟩ := conv_sound r hx h
    exact out_value h1 (.same r (.of_scalar φ h2) h3)
  | makeInterface t x =>
    have hx := ev_rel he (ok_list hok (x := x) (by simp [Op.operands]))
    refine out_value (v' := .iface t (a.eval x)) (w' := w) ?_ (.same r (.iface t hx) h.2)
    have hc := h.1
    unfold Program.concrete at hc
    cases hu : P.underlying t with
    | none => rw [hu] at hc; cases hc
    | some d =>
      rw [hu] at hc
      unfold Instr.makeInterface
      rw [Sem.run_bind, run_underlying hu, Result.andThen_ok]
      cases d <;> first | rfl | cases hc
  | makeFunc fn first captured =>
    have h1 := ArrR.map he (xs := first) (List.all_eq_true.2 fun x hx => ok_list hok (by simp [Op.operands]; exact .inl (by simpa using hx)))
    have h2 := ArrR.map he (xs := captured) (List.all_eq_true.2 fun x hx => ok_list hok (by simp [Op.operands]; exact .inr (by simpa using hx)))
    exact out_value (S := Instr.makeFunc fn _ _) rfl (.same r (.func h1.1 h1.2 h2.1 h2.2) h)
  | makeMap t rs =>
    cases rs with
    | some x => exact h.elim
    | none =>
      obtain ⟨i, hi⟩ := r.someFresh
      obtain ⟨φ', r1, s1, h1⟩ := r.newMap hi
      refine out_value (v' := .map (some w.heap.size)) (w' := w.alloc (.map #[] 0)) (by simp [Instr.makeMap]) ⟨φ', _, .map (some i), s1, r1, ?_, h i hi⟩
      have := VR.map h1
      simpa using this
  | makeSlice t x y =>
    have hx := ev_rel he (ok_list hok (x := x) (by simp [Op.operands]))
    have hy := ev_rel he (ok_list hok (x := y) (by simp [Op.operands]))
    unfold opW at h
    simp only at h
    split at h
    · rename_i cs n m hm
      obtain ⟨v', w', h1, h2⟩ := run_makeSlice_A r hx hy hm h
      exact out_value h1 h2
    · exact h.elim
  | slice t x lo hi mx =>
    have hx := ev_rel he (ok_list hok (x := x) (by simp [Op.operands]))
    unfold opW at h
    simp only at h
    split at h
    · rename_i v hv
      obtain ⟨h1, h2, h3, h4⟩ := h
      have e1 := scalar_opt he (opt_ok hok (o := lo) fun y hy => by simp [Op.operands, hy]) h1
      have e2 := scalar_opt he (opt_ok hok (o := hi) fun y hy => by simp [Op.operands, hy]) h2
      have e3 := scalar_opt he (opt_ok hok (o := mx) fun y hy => by simp [Op.operands, hy]) h3
      obtain ⟨v', h5, h6⟩ := run_sliceAt_A (P := P) hx hv w
      refine out_value (v' := v') (w' := w) ?_ (.same r h6 h4)
      rw [e1, e2, e3]; exact h5
    · exact h.elim
  | fieldAddr t x f =>
    have hx := ev_rel he (ok_list hok (x := x) (by simp [Op.operands]))
    unfold opW at h
    simp only at h
    split at h
    · rename_i v hv
      obtain ⟨v', h1, h2⟩ := run_fieldAt_A (P := P) hx hv w
      exact out_value h1 (.same r h2 h)
    · exact h.elim
  | field t x f =>
    have hx := ev_rel he (ok_list hok (x := x) (by simp [Op.operands]))
    unfold opW at h
    simp only at h
    split at h
    · rename_i v hv
      obtain ⟨v', h1, h2⟩ := run_field_A (P := P) hx hv w
      exact out_value h1 (.same r h2 h)
    · exact h.elim
  | indexAddr t x y =>
    have hx := ev_rel he (ok_list hok (x := x) (by simp [Op.operands]))
    have hy := ev_rel he (ok_list hok (x := y) (by simp [Op.operands]))
    unfold opW at h
    simp only at h
    split at h
    · rename_i v hv
      obtain ⟨v', h1, h2⟩ := run_indexAt_A (P := P) hx hy hv w
      exact out_value h1 (.same r h2 h)
    · exact h.elim
  | index t x y =>
    have hx := ev_rel he (ok_list hok (x := x) (by simp [Op.operands]))
    have hy := ev_rel he (ok_list hok (x := y) (by simp [Op.operands]))
    unfold opW at h
    simp only at h
    split at h
    · rename_i v hv
      obtain ⟨v', h1, h2⟩ := run_index_A (P := P) hx hy hv w
      exact out_value h1 (.same r h2 h)
    · exact h.elim
  | lookup t x k ok =>
    have hx := ev_rel he (ok_list hok (x := x) (by simp [Op.operands]))
    have hk := ev_rel he (ok_list hok (x := k) (by simp [Op.operands]))
    unfold opW at h
    simp only at h
    obtain ⟨hs, h⟩ := h
    have hk' := hk.scalar_eq hs
    split at h
    · rename_i v hv
      obtain ⟨v', h1, h2⟩ := run_lookup_A r hx hv
      refine out_value (v' := v') (w' := w) ?_ (.same r h2 h)
      rw [hk']; exact h1
    · exact h.elim
  | mapUpdate t x k v =>
    have hx := ev_rel he (ok_list hok (x := x) (by simp [Op.operands]))
    have hk := ev_rel he (ok_list hok (x := k) (by simp [Op.operands]))
    have hv := ev_rel he (ok_list hok (x := v) (by simp [Op.operands]))
    unfold opW at h
    simp only at h
    obtain ⟨hs, h⟩ := h
    have hk' := hk.scalar_eq hs
    split at h
    · rename_i H' hH
      obtain ⟨w', h1, h2, h3⟩ := run_update_A r hx hv hH
      refine out_skip (w' := w') ?_ ⟨φ, H', undef, h3, h2, .undef _, h⟩
      rw [hk']; exact h1
    · exact h.elim
  | insert t x k v =>
    have hx := ev_rel he (ok_list hok (x := x) (by simp [Op.operands]))
    have hk := ev_rel he (ok_list hok (x := k) (by simp [Op.operands]))
    have hv := ev_rel he (ok_list hok (x := v) (by simp [Op.operands]))
    unfold opW at h
    simp only at h
    obtain ⟨hs, h⟩ := h
    have hk' := hk.scalar_eq hs
    split at h
    · rename_i H' hH
      obtain ⟨w', h1, h2, h3⟩ := run_update_A r hx hv hH
      refine out_skip (w' := w') ?_ ⟨φ, H', undef, h3, h2, .undef _, h⟩
      rw [hk']; exact h1
    · exact h.elim
  | extract x i =>
    have hx := ev_rel he (ok_list hok (x := x) (by simp [Op.operands]))
    unfold opW at h
    simp only at h
    split at h
    · rename_i vs hev
      rw [hev] at hx
      split at h
      · rename_i v hv
        generalize hq : a.eval x = u at hx
        cases hx with
        | tuple h1 h2 =>
          rename_i ds
          obtain ⟨hlt, hvv⟩ := Array.getElem?_eq_some_iff.1 hv
          have h3 := h2 i hlt (by omega)
          rw [hvv] at h3
          have hd : ds[i]? = some (ds[i]'(by omega)) := Array.getElem?_eq_getElem _
          refine out_value (v' := ds[i]'(by omega)) (w' := w) ?_ (.same r h3 h)
          rw [hq]
          simp [Instr.extract, hd]
      · exact h.elim
    · exact h.elim
  | call c =>
    exact call_sound r he c (by simpa [Op.operands] using hok) type h
  | _ => exact h.elim
end Go.Ab
