/-
  A CALCULUS OVER ABSTRACT HEAPS: a condition is monotone ('opW_mono'), and it looks at its operands alone ('opW_congr').
-/
import Derived.Test.YtnbfimppgcoajaaDoorAbFunc
namespace Go.Ab
set_option linter.unusedSimpArgs false
set_option linter.unusedVariables false
set_option linter.unusedSectionVars false
variable [Start]
variable {P : Program} {H : AHeap} {K K' : Value → AHeap → Prop}

omit [Go.Ab.Start] in
theorem binW_mono {op : BinOp} {t : TypeId} {x y : Operand} {u v : Value} (hk : ∀ v H, K v H → K' v H) (h : binW P op t x y u v H K) : binW P op t x y u v H K' := by
  unfold binW at h ⊢
  split at h
  · split at h
    · exact hk _ _ h
    · exact h
  · split at h
    · exact hk _ _ h
    · exact h
  · split at h
    · rename_i hp
      rw [if_pos hp]
      split at h
      · exact ⟨h.1, hk _ _ h.2⟩
      · exact h
    · rename_i hp
      rw [if_neg hp]
      cases op <;> simp only at h ⊢ <;> first | exact h | skip
      all_goals
        split at h
        · exact hk _ _ h
        · split at h
          · exact hk _ _ h
          · exact h
omit [Go.Ab.Start] in
theorem convW_mono {s t : TypeId} {x : Value} (hk : ∀ v H, K v H → K' v H) (h : convW P s t x H K) : convW P s t x H K' := by
  unfold convW at h ⊢
  split at h
  · exact hk _ _ h
  · split at h
    · exact hk _ _ h
    · exact h
omit [Go.Ab.Start] in
theorem appendW_mono {t xt : TypeId} {s x : Value} (hk : ∀ v H, K v H → K' v H) (h : appendW P t xt s x H K) : appendW P t xt s x H K' := by
  unfold appendW at h ⊢
  cases he : elemA P t with
  | none => rw [he] at h; exact h
  | some e =>
    rw [he] at h
    simp only at h ⊢
    cases hn : newsA P H e.size xt x with
    | none => rw [hn] at h; exact h
    | some nm =>
      obtain ⟨news, m⟩ := nm
      rw [hn] at h
      simp only at h ⊢
      split at h
      · split at h
        · rename_i hm; rw [if_pos hm]; exact hk _ _ h
        · rename_i hm; rw [if_neg hm]; exact ⟨h.1, fun j hj => hk _ _ (h.2 j hj)⟩
      · split at h
        · split at h
          · rename_i hm; rw [if_pos hm]; exact ⟨h.1, hk _ _ h.2⟩
          · rename_i hm; rw [if_neg hm]; exact ⟨h.1, fun j hj => hk _ _ (h.2 j hj)⟩
        · exact h
      · exact h.elim
theorem callW_mono {c : Call} {env : Env} (hk : ∀ v H, K v H → K' v H) (h : callW P c env H K) : callW P c env H K' := by
  unfold callW at h ⊢
  split at h
  · split at h
    · exact ACalls.mono h hk
    · exact h
  · split at h
    · split at h
      · exact ACalls.mono h hk
      · exact h
    · exact h
  · split at h
    · split at h
      · exact hk _ _ h
      · exact h
    · exact h
  · split at h
    · exact appendW_mono hk h
    · exact h
  · split at h
    · split at h
      · exact hk _ _ h
      · exact h
    · exact h
  · exact h
omit [Go.Ab.Start] in
theorem newW_mono {v : Value} (hk : ∀ v H, K v H → K' v H) (h : newW v H K) : newW v H K' := ⟨h.1, fun i hi => hk _ _ (h.2 i hi)⟩
theorem opW_mono {op : Op} {env : Env} (hk : ∀ v H, K v H → K' v H) (h : opW P env H K op) : opW P env H K' op := by
  cases op <;> unfold opW at h ⊢ <;> simp only at h ⊢ <;> first
    | exact h
    | exact hk _ _ h
    | exact ⟨h.1, hk _ _ h.2⟩
    | exact newW_mono hk h
    | exact binW_mono hk h
    | exact convW_mono hk h
    | exact callW_mono hk h
    | (split at h <;> first | exact h | exact hk _ _ h | exact ⟨h.1, newW_mono hk h.2⟩ | exact ⟨h.1, fun i hi => hk _ _ (h.2 i hi)⟩ | exact fun i hi => hk _ _ (h i hi) | exact ⟨h.1, h.2.1, h.2.2.1, hk _ _ h.2.2.2⟩ | (split at h <;> first | exact h | exact hk _ _ h))
    | skip
  case store t x y =>
    split at h
    · refine ⟨h.1, ?_⟩
      have h2 := h.2
      split at h2
      · exact hk _ _ h2
      · exact h2
    · exact h
  case makeMap t r =>
    cases r with
    | none => exact fun i hi => hk _ _ (h i hi)
    | some x => exact h
  all_goals
    obtain ⟨h1, h⟩ := h
    refine ⟨h1, ?_⟩
    split at h
    · exact hk _ _ h
    · exact h
/-! ### A condition looks at its operands alone -/
omit [Go.Ab.Start] in
theorem map_congr {env env' : Env} {xs : Array Operand} (h : ∀ x ∈ xs, ev env x = ev env' x) : xs.map (ev env) = xs.map (ev env') := by
  apply Array.map_congr_left
  exact h
omit [Go.Ab.Start] in
theorem parts_congr {env env' : Env} {ps : Array (Nat × Operand)} (h : ∀ x ∈ (ps.toList.map (·.2)).toArray, ev env x = ev env' x) : (ps.toList.map fun (i, x) => (i, ev env x)) = ps.toList.map fun (i, x) => (i, ev env' x) := by
  apply List.map_congr_left
  intro p hp
  have := h p.2 (by simp; exact ⟨p.1, by simpa using hp⟩)
  simp only [this]
omit [Go.Ab.Start] in
theorem opt_congr {env env' : Env} {o : Option Operand} (h : ∀ x, o = some x → ev env x = ev env' x) : o.map (ev env) = o.map (ev env') := by
  cases o with
  | none => rfl
  | some x => simp [h x rfl]
theorem callW_congr {env env' : Env} {c : Call} (h : ∀ x ∈ c.operands, ev env x = ev env' x) : callW P c env H K = callW P c env' H K := by
  have ha : c.args.map (ev env) = c.args.map (ev env') := map_congr fun x hx => h x (by simp [Call.operands, hx])
  obtain ⟨callee, args, argTypes⟩ := c
  cases callee with
  | value f =>
    have hf := h f (by simp [Call.operands])
    simp only [callW, hf]
    simp only at ha
    rw [ha]
  | invoke x name =>
    have hf := h x (by simp [Call.operands])
    simp only [callW, hf]
    simp only at ha
    rw [ha]
  | builtin b =>
    have hx : ∀ x ∈ args, ev env x = ev env' x := fun x hx => h x (by simp [Call.operands, hx])
    cases b <;> first | rfl | skip
    · simp only [callW]
      split
      · rename_i h1 h2
        rw [hx _ (by rw [list_two h2]; simp), hx _ (by rw [list_two h2]; simp)]
      · rfl
    · simp only [callW]
      split
      · rename_i h1 h2
        rw [hx _ (by rw [list_one h2]; simp)]
      · rfl
    · simp only [callW]
      split
      · rename_i h2
        rw [hx _ (by rw [list_two h2]; simp), hx _ (by rw [list_two h2]; simp)]
      · rfl
theorem opW_congr {env env' : Env} {op : Op} (h : ∀ x ∈ op.operands, ev env x = ev env' x) : opW P env H K op = opW P env' H K op := by
  cases op with
  | call c => exact callW_congr (by simpa [Op.operands] using h)
  | build t ps => unfold opW; simp only; rw [parts_congr (by simpa [Op.operands] using h)]
  | buildSlice t n ps => unfold opW; simp only; rw [parts_congr (by simpa [Op.operands] using h)]
  | makeFunc fn first captured =>
    unfold opW
    simp only
    rw [map_congr (xs := first) fun x hx => h x (by simp [Op.operands, hx]), map_congr (xs := captured) fun x hx => h x (by simp [Op.operands, hx])]
  | slice t x lo hi mx =>
    have h0 := h x (by simp [Op.operands])
    have h1 : ∀ y, lo = some y → ev env y = ev env' y := fun y hy => h y (by simp [Op.operands, hy])
    have h2 : ∀ y, hi = some y → ev env y = ev env' y := fun y hy => h y (by simp [Op.operands, hy])
    have h3 : ∀ y, mx = some y → ev env y = ev env' y := fun y hy => h y (by simp [Op.operands, hy])
    have e1 : (lo.all fun y => scalar (ev env y)) = lo.all fun y => scalar (ev env' y) := by cases lo <;> simp [h1]
    have e2 : (hi.all fun y => scalar (ev env y)) = hi.all fun y => scalar (ev env' y) := by cases hi <;> simp [h2]
    have e3 : (mx.all fun y => scalar (ev env y)) = mx.all fun y => scalar (ev env' y) := by cases mx <;> simp [h3]
    unfold opW
    simp only
    rw [h0, opt_congr h1, opt_congr h2, opt_congr h3, e1, e2, e3]
  | pick c x y =>
    have h0 := h c (by simp [Op.operands]); have h1 := h x (by simp [Op.operands]); have h2 := h y (by simp [Op.operands])
    unfold opW; simp only; rw [h0, h1, h2]
  | mapUpdate t x k v =>
    have h0 := h x (by simp [Op.operands]); have h1 := h k (by simp [Op.operands]); have h2 := h v (by simp [Op.operands])
    unfold opW; simp only; rw [h0, h1, h2]
  | insert t x k v =>
    have h0 := h x (by simp [Op.operands]); have h1 := h k (by simp [Op.operands]); have h2 := h v (by simp [Op.operands])
    unfold opW; simp only; rw [h0, h1, h2]
  | store t x y | binOp _ t x y _ | makeSlice t x y | indexAddr t x y | index t x y | lookup t x y _ =>
    have h0 := h x (by simp [Op.operands]); have h1 := h y (by simp [Op.operands])
    unfold opW; simp only; rw [h0, h1]
  | move x | assign x | box _ x | load _ x | nilCheck x | unOp _ _ x | convert _ _ x | makeInterface _ x | fieldAddr _ x _ | field _ x _ | extract x _ =>
    have h0 := h x (by simp [Op.operands])
    unfold opW; simp only; rw [h0]
  | alloc t => rfl
  | makeMap t r => cases r <;> rfl
  | _ => rfl
end Go.Ab
