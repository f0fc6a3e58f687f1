/-
  A part of the proofs: AbSeq AbTree AbOwn.
-/
import Derived.Test.YtnbfimppgcoajaaDoorAbS
namespace Go.Ab
set_option linter.unusedSimpArgs false
set_option linter.unusedVariables false
set_option linter.unusedSectionVars false
variable [Start]
variable {P : Program} {ops : Array Oper} {S : AHeap → Prop} {K : Env → AHeap → Prop} {l : List (Nat × Bool)} {env : Env} {H : AHeap} {i : Nat} {dst : Option Tmp} {op : Op} {ty : TypeId} {pos : String} {af : Array Edge}
theorem sq (v : Value) (ho : ops[i]? = some ⟨dst, op, ty, pos, af, none⟩) (hv : ∀ H', S H' → valA P env H' op = some v) (h : seqA P ops S K l (put env dst v) H) : seqA P ops S K ((i, true) :: l) env H := by
  unfold seqA; rw [ho]; exact ⟨v, fun H K hs hk => valA_sound (hv H hs) hk, h⟩
theorem sg (v : Value) {j : Nat} {want : Bool} (ho : ops[i]? = some ⟨dst, op, ty, pos, af, some (j, want)⟩) (hy : yieldA ops env j = some want) (hv : ∀ H', S H' → valA P env H' op = some v) (h : seqA P ops S K l (put env dst v) H) : seqA P ops S K ((i, true) :: l) env H := by
  unfold seqA; rw [ho]; exact ⟨v, .inl ⟨hy, fun H K hs hk => valA_sound (hv H hs) hk⟩, h⟩
theorem sp {j : Nat} {want : Bool} (ho : ops[i]? = some ⟨dst, op, ty, pos, af, some (j, want)⟩) (hy : yieldA ops env j ≠ some want) (h : seqA P ops S K l (put env dst undef) H) : seqA P ops S K ((i, true) :: l) env H := by
  unfold seqA; rw [ho]; exact ⟨undef, .inr ⟨hy, rfl⟩, h⟩
theorem sc (ho : ops[i]? = some ⟨dst, op, ty, pos, af, none⟩) (hs : S H) (h : opW P env H (fun v H' => seqA P ops S K l (put env dst v) H') op) : seqA P ops S K ((i, false) :: l) env H := by
  unfold seqA; rw [ho]; exact ⟨hs, h⟩
theorem scg {j : Nat} {want : Bool} (ho : ops[i]? = some ⟨dst, op, ty, pos, af, some (j, want)⟩) (hs : S H) (hy : yieldA ops env j = some want) (h : opW P env H (fun v H' => seqA P ops S K l (put env dst v) H') op) : seqA P ops S K ((i, false) :: l) env H := by
  unfold seqA; rw [ho]; refine ⟨hs, ?_⟩
  unfold operW
  simp only [hy]
  exact ⟨fun _ => h, fun hb => absurd rfl hb⟩
theorem call_q {g : FuncId} {args : List Operand} {ats : Array TypeId} {vs : List Value} {K : Value → AHeap → Prop} (hv : args.map (ev env) = vs) (h : ACalls P g vs.toArray H K) : opW P env H K (.call ⟨.value (.func g), List.toArray args, ats⟩) := by
  unfold opW callW
  simp only [ev]
  subst hv
  simpa using h
theorem sz (hs : S H) (h : K env H) : seqA P ops S K [] env H := ⟨hs, h⟩
end Go.Ab
namespace Go.Ab
set_option linter.unusedSimpArgs false
set_option linter.unusedVariables false
set_option linter.unusedSectionVars false
variable [Start]
variable {P : Program} {ops : Array Oper} {S : AHeap → Prop} {K : Env → AHeap → Prop} {env : Env} {H : AHeap}
inductive OTree where
  | done
  | q (i : Nat) (t : OTree)
  | one (i : Nat) (t : OTree)
  | two (i : Nat) (t : OTree) (j : Nat) (u : OTree)
def treeA (P : Program) (ops : Array Oper) (S : AHeap → Prop) (K : Env → AHeap → Prop) : OTree → Env → AHeap → Prop
  | .done, env, H => S H ∧ K env H
  | .q i t, env, H => match ops[i]? with
    | some o => ∃ v, AQuiet P ops S o v env ∧ treeA P ops S K t (put env o.dst v) H
    | none => False
  | .one i t, env, H => S H ∧ aOp P ops i (treeA P ops S K t) env H
  | .two i t j u, env, H => S H ∧ aOp P ops i (treeA P ops S K t) env H ∧ aOp P ops j (treeA P ops S K u) env H
def treeOk (ops : Array Oper) : OTree → Nat → Array Bool → Bool
  | .done, _, listed => Region.ready .any ops listed == []
  | .q i t, n + 1, listed => Region.free .any ops listed i && (Region.ready .any ops listed).contains i && treeOk ops t n (listed.setIfInBounds i true)
  | .one i t, n + 1, listed => (Region.ready .any ops listed == [i]) && treeOk ops t n (listed.setIfInBounds i true)
  | .two i t j u, n + 1, listed => (Region.ready .any ops listed == [i, j]) && treeOk ops t n (listed.setIfInBounds i true) && treeOk ops u n (listed.setIfInBounds j true)
  | _, 0, _ => false
theorem aOp_mono {i : Nat} {K K' : Env → AHeap → Prop} (hk : ∀ env H, K env H → K' env H) (h : aOp P ops i K env H) : aOp P ops i K' env H := by
  unfold aOp at h ⊢
  split
  · rename_i ho; rw [ho] at h; exact hk _ _ h
  · rename_i o ho; rw [ho] at h; exact operW_mono hk h
theorem any_of_tree : ∀ (t : OTree) (n : Nat) (listed : Array Bool) (env : Env) (H : AHeap), treeOk ops t n listed = true → treeA P ops S K t env H → aAny P ops S K n listed env H
  | .done, n, listed, env, H, hok, h => aAny_done (by simpa [treeOk] using hok) h.1 h.2 n
  | .q i t, n + 1, listed, env, H, hok, h => by
    simp only [treeOk, Bool.and_eq_true] at hok
    unfold treeA at h
    split at h
    · rename_i o ho
      obtain ⟨v, h1, h2⟩ := h
      exact aAny_take ho hok.1.1 hok.1.2 h1 (any_of_tree t n _ _ _ hok.2 h2)
    · exact h.elim
  | .one i t, n + 1, listed, env, H, hok, h => by
    simp only [treeOk, Bool.and_eq_true, beq_iff_eq] at hok
    refine ⟨h.1, fun h0 => ?_, fun j hj => ?_⟩
    · rw [hok.1] at h0; cases h0
    rw [hok.1] at hj
    have : j = i := by simpa using hj
    subst this
    exact aOp_mono (fun env' H' q => any_of_tree t n _ env' H' hok.2 q) h.2
  | .two i t j u, n + 1, listed, env, H, hok, h => by
    simp only [treeOk, Bool.and_eq_true, beq_iff_eq] at hok
    refine ⟨h.1, fun h0 => ?_, fun k hk => ?_⟩
    · rw [hok.1.1] at h0; cases h0
    rw [hok.1.1] at hk
    have : k = i ∨ k = j := by simpa using hk
    rcases this with rfl | rfl
    · exact aOp_mono (fun env' H' q => any_of_tree t n _ env' H' hok.1.2 q) h.2.1
    · exact aOp_mono (fun env' H' q => any_of_tree u n _ env' H' hok.2 q) h.2.2
  | .q i t, 0, listed, env, H, hok, h => by simp [treeOk] at hok
  | .one i t, 0, listed, env, H, hok, h => by simp [treeOk] at hok
  | .two i t j u, 0, listed, env, H, hok, h => by simp [treeOk] at hok
theorem W.tree {id : Nat} {k : Kont} (t : OTree) (S : AHeap → Prop) (K' : Env → AHeap → Prop) (hl : treeOk ops t ops.size (Array.replicate ops.size false) = true) (h : treeA P ops S K' t env H) (hk : ∀ env H, K' env H → W P (.ex .normal k) env H) : W P (.co (.region id ops true) k) env H :=
  .anyR S K' (any_of_tree t _ _ env H hl h) hk
variable {i : Nat} {t : OTree} {dst : Option Tmp} {op : Op} {ty : TypeId} {pos : String} {af : Array Edge}
theorem tq (v : Value) (ho : ops[i]? = some ⟨dst, op, ty, pos, af, none⟩) (hv : ∀ H', S H' → valA P env H' op = some v) (h : treeA P ops S K t (put env dst v) H) : treeA P ops S K (.q i t) env H := by
  unfold treeA; rw [ho]; exact ⟨v, fun H K hs hk => valA_sound (hv H hs) hk, h⟩
theorem tg (v : Value) {j : Nat} {want : Bool} (ho : ops[i]? = some ⟨dst, op, ty, pos, af, some (j, want)⟩) (hy : yieldA ops env j = some want) (hv : ∀ H', S H' → valA P env H' op = some v) (h : treeA P ops S K t (put env dst v) H) : treeA P ops S K (.q i t) env H := by
  unfold treeA; rw [ho]; exact ⟨v, .inl ⟨hy, fun H K hs hk => valA_sound (hv H hs) hk⟩, h⟩
theorem tp {j : Nat} {want : Bool} (ho : ops[i]? = some ⟨dst, op, ty, pos, af, some (j, want)⟩) (hy : yieldA ops env j ≠ some want) (h : treeA P ops S K t (put env dst undef) H) : treeA P ops S K (.q i t) env H := by
  unfold treeA; rw [ho]; exact ⟨undef, .inr ⟨hy, rfl⟩, h⟩
/-- One operation, of those that are ready. -/
theorem to {K' : Env → AHeap → Prop} (ho : ops[i]? = some ⟨dst, op, ty, pos, af, none⟩) (h : opW P env H (fun v H' => K' (put env dst v) H') op) : aOp P ops i K' env H := by
  unfold aOp; rw [ho]; exact h
theorem tog {K' : Env → AHeap → Prop} {j : Nat} {want : Bool} (ho : ops[i]? = some ⟨dst, op, ty, pos, af, some (j, want)⟩) (hy : yieldA ops env j = some want) (h : opW P env H (fun v H' => K' (put env dst v) H') op) : aOp P ops i K' env H := by
  unfold aOp; rw [ho]
  show operW P ops _ K' env H
  unfold operW
  simp only [hy]
  exact ⟨fun _ => h, fun hb => absurd rfl hb⟩
theorem t1 (v : Value) (ho : ops[i]? = some ⟨dst, op, ty, pos, af, none⟩) (hs : S H) (hv : valA P env H op = some v) (h : treeA P ops S K t (put env dst v) H) : treeA P ops S K (.one i t) env H := ⟨hs, to ho (valA_sound hv h)⟩
theorem tc (ho : ops[i]? = some ⟨dst, op, ty, pos, af, none⟩) (hs : S H) (h : opW P env H (fun v H' => treeA P ops S K t (put env dst v) H') op) : treeA P ops S K (.one i t) env H := ⟨hs, to ho h⟩
theorem bs_q {t : TypeId} {n : Nat} {ps : List (Nat × Operand)} {o : AObj} {K : Value → AHeap → Prop} (hb : sliceObj P t n (ps.map fun (i, x) => (i, ev env x)) = some o) (h : ∀ i, H i = .none → K (.slice (some ⟨i, 0, none⟩) n n) (H.set i o)) : opW P env H K (.buildSlice t n (List.toArray ps)) := by
  unfold sliceObj at hb
  unfold opW
  split at hb
  · rename_i cs hc
    split at hb
    · rename_i ha
      injection hb with hb
      subst hb
      simp only
      rw [hc]
      exact ⟨ha, h⟩
    · cases hb
  · cases hb
theorem make_q {t : TypeId} {x y : Operand} {cs : List Value} {n m : Nat} {K : Value → AHeap → Prop} (hm : makeSliceA P t (ev env x) (ev env y) = some (cs, n, m)) (h : ∀ i, H i = .none → K (.slice (some ⟨i, 0, none⟩) n m) (H.set i (.cells cs))) : opW P env H K (.makeSlice t x y) := by
  unfold opW
  simp only [hm]
  exact h
end Go.Ab
namespace Go.Ab
set_option linter.unusedSimpArgs false
set_option linter.unusedVariables false
set_option linter.unusedSectionVars false
variable [Start]
variable {P : Program}
def Own (H0 : AHeap) (Q : Nat → Prop) (H : AHeap) (es : Nat) (v : Value) (n : Nat) (cs : List Value) : Prop := ∃ o, SL H es v n cs o ∧ ∀ i, o = some i → H0 i = .none ∧ ¬ Q i
section
variable {H0 H H' : AHeap} {Q : Nat → Prop} {es n : Nat} {v : Value} {cs : List Value}
omit [Go.Ab.Start]
theorem Own.nil (H0 : AHeap) (Q : Nat → Prop) (H : AHeap) (es : Nat) : Own H0 Q H es (.slice none 0 0) 0 [] := ⟨none, SL.nil _ _, fun _ h => by cases h⟩
theorem Own.grew (h : Own H0 Q H es v n cs) (hg : Grew H H') : Own H0 Q H' es v n cs := by obtain ⟨o, h1, h2⟩ := h; exact ⟨o, h1.grew hg, h2⟩
theorem Own.new (h : Own H0 Q H es v n cs) {i : Nat} (o : AObj) (hi : H i = .none) : Own H0 Q (H.set i o) es v n cs := h.grew ((Grew.refl _).new o hi)
/-- An object that was there is none of a nil slice's; a new object is none of the slice's. -/
theorem Own.keep (h : Own H0 Q H es v n cs) {i : Nat} (hi : H i = .none) : Own H0 (fun k => Q k ∨ k = i) H es v n cs := by
  obtain ⟨o, h1, h2⟩ := h
  refine ⟨o, h1, fun k hk => ⟨(h2 k hk).1, fun e => ?_⟩⟩
  rcases e with e | e
  · exact (h2 k hk).2 e
  · subst e
    subst hk
    exact h1.some_ne hi
theorem Own.weak {Q' : Nat → Prop} (h : Own H0 Q H es v n cs) (hq : ∀ k, Q' k → Q k) : Own H0 Q' H es v n cs := by
  obtain ⟨o, h1, h2⟩ := h; exact ⟨o, h1, fun k hk => ⟨(h2 k hk).1, fun e => (h2 k hk).2 (hq k e)⟩⟩
theorem Own.sn (h : Own H0 Q H es v n cs) : SN H0 H es v n cs := by obtain ⟨o, h1, h2⟩ := h; exact ⟨o, h1, fun k hk => (h2 k hk).1⟩
end
theorem app_own {t xt : TypeId} {s x : Value} {es bytes : Nat} {ety : TypeId} {n m : Nat} {cs news : List Value} {H0 H : AHeap} {Q : Nat → Prop} {K : Value → AHeap → Prop} (he : elemA P t = some ⟨ety, es, bytes⟩) (hg : Grew H0 H) (hq : ∀ k, Q k → H k ≠ .none) (hb : Own H0 Q H es s n cs)
    (hn : newsA P H es xt x = some (news, m)) (hl : news.length = m * es) (hb1 : (n + m) * bytes ≤ 140737488355328) (hb2 : n + m ≤ 9223372036854775807)
    (h : ∀ v' H', Grew H0 H' → (∀ k, Q k → H' k = H k) → Own H0 Q H' es v' (n + m) (cs ++ news) → K v' H') : appendW P t xt s x H K := by
  obtain ⟨o, hs, ho⟩ := hb
  by_cases hm : m = 0
  · subst hm
    have hnil : news = [] := List.length_eq_zero_iff.1 (by simpa using hl)
    subst hnil
    simp only [List.append_nil, Nat.add_zero] at h
    unfold appendW
    simp only [he, hn]
    cases o with
    | none =>
      obtain ⟨e1, e2, e3⟩ := hs
      subst e1
      simp only [if_true]
      exact h _ _ hg (fun _ _ => rfl) ⟨none, ⟨rfl, e2, e3⟩, ho⟩
    | some i =>
      obtain ⟨c, ds, e1, e2, e3, e4, e5⟩ := hs
      subst e1
      simp only [e2, Nat.add_zero, if_pos e5]
      have hset : H.set i (.cells (putL (cs ++ ds) (n * es) [])) = H := by
        funext j; unfold AHeap.set; split
        · rename_i hj; subst hj; rw [e2]; rfl
        · rfl
      rw [hset]
      exact ⟨by rw [e3]; exact Nat.mul_le_mul_right _ e5, h _ _ hg (fun _ _ => rfl) ⟨some i, ⟨c, ds, rfl, e2, e3, e4, e5⟩, ho⟩⟩
  · refine app_go he hs hn hl (by omega) hb1 hb2 fun v' H' i h1 h2 h3 => h v' H' (fun j hj => ?_) (fun k hk => ?_) ⟨some i, h1, fun k hk => ?_⟩
    · rw [h2 j (by rw [hg j hj]; exact hj) (fun e => hj (ho j e).1), hg j hj]
    · exact h2 k (hq k hk) fun e => (ho k e).2 hk
    · cases hk
      rcases h3 with h3 | h3
      · exact ho i h3
      · refine ⟨?_, fun e => hq i e h3⟩
        cases h0 : H0 i with
        | none => rfl
        | _ => have := hg i (by rw [h0]; simp); rw [h3, h0] at this; cases this
end Go.Ab
