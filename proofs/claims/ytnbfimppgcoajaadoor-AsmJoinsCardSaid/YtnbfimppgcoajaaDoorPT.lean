/-
  A part of the proofs: AbSeq AbTree.
-/
import Derived.Test.YtnbfimppgcoajaaDoorAbS
namespace Go.Ab
set_option linter.unusedSimpArgs false
set_option linter.unusedVariables false
set_option linter.unusedSectionVars false
variable [Start]
variable {P : Program} {ops : Array Oper} {S : AHeap → Prop} {K : Env → AHeap → Prop} {l : List (Nat × Bool)} {env : Env} {H : AHeap} {i : Nat} {dst : Option Tmp} {op : Op} {ty : TypeId} {pos : String} {af : Array Edge}
theorem sq (v : Value) (ho : ops[i]? = some ⟨dst, op, ty, pos, af, none⟩) (hv : ∀ H', S H' → valA P env H' op = some v) (h : seqA P ops S K l (put env dst v) H) : seqA P ops S K ((i, true) :: l) env H := by
  unfold seqA; rw [ho]; exact ⟨v, fun H K hs hk => valA_sound (hv H hs) hk, h⟩
theorem sg (v : Value) {j : Nat} {want : Bool} (ho : ops[i]? = some ⟨dst, op, ty, pos, af, some (j, want)⟩) (hy : yieldA ops env j = some want) (hv : ∀ H', S H' → valA P env H' op = some v) (h : seqA P ops S K l (put env dst v) H) : seqA P ops S K ((i, true) :: l) env H := by
  unfold seqA; rw [ho]; exact ⟨v, .inl ⟨hy, fun H K hs hk => valA_sound (hv H hs) hk⟩, h⟩
theorem sp {j : Nat} {want : Bool} (ho : ops[i]? = some ⟨dst, op, ty, pos, af, some (j, want)⟩) (hy : yieldA ops env j ≠ some want) (h : seqA P ops S K l (put env dst undef) H) : seqA P ops S K ((i, true) :: l) env H := by
  unfold seqA; rw [ho]; exact ⟨undef, .inr ⟨hy, rfl⟩, h⟩
theorem sc (ho : ops[i]? = some ⟨dst, op, ty, pos, af, none⟩) (hs : S H) (h : opW P env H (fun v H' => seqA P ops S K l (put env dst v) H') op) : seqA P ops S K ((i, false) :: l) env H := by
  unfold seqA; rw [ho]; exact ⟨hs, h⟩
theorem scg {j : Nat} {want : Bool} (ho : ops[i]? = some ⟨dst, op, ty, pos, af, some (j, want)⟩) (hs : S H) (hy : yieldA ops env j = some want) (h : opW P env H (fun v H' => seqA P ops S K l (put env dst v) H') op) : seqA P ops S K ((i, false) :: l) env H := by
  unfold seqA; rw [ho]; refine ⟨hs, ?_⟩
  unfold operW
  simp only [hy]
  exact ⟨fun _ => h, fun hb => absurd rfl hb⟩
theorem call_q {g : FuncId} {args : List Operand} {ats : Array TypeId} {vs : List Value} {K : Value → AHeap → Prop} (hv : args.map (ev env) = vs) (h : ACalls P g vs.toArray H K) : opW P env H K (.call ⟨.value (.func g), List.toArray args, ats⟩) := by
  unfold opW callW
  simp only [ev]
  subst hv
  simpa using h
theorem sz (hs : S H) (h : K env H) : seqA P ops S K [] env H := ⟨hs, h⟩
end Go.Ab
namespace Go.Ab
set_option linter.unusedSimpArgs false
set_option linter.unusedVariables false
set_option linter.unusedSectionVars false
variable [Start]
variable {P : Program} {ops : Array Oper} {S : AHeap → Prop} {K : Env → AHeap → Prop} {env : Env} {H : AHeap}
inductive OTree where
  | done
  | q (i : Nat) (t : OTree)
  | one (i : Nat) (t : OTree)
  | two (i : Nat) (t : OTree) (j : Nat) (u : OTree)
def treeA (P : Program) (ops : Array Oper) (S : AHeap → Prop) (K : Env → AHeap → Prop) : OTree → Env → AHeap → Prop
  | .done, env, H => S H ∧ K env H
  | .q i t, env, H => match ops[i]? with
    | some o => ∃ v, AQuiet P ops S o v env ∧ treeA P ops S K t (put env o.dst v) H
    | none => False
  | .one i t, env, H => S H ∧ aOp P ops i (treeA P ops S K t) env H
  | .two i t j u, env, H => S H ∧ aOp P ops i (treeA P ops S K t) env H ∧ aOp P ops j (treeA P ops S K u) env H
def treeOk (ops : Array Oper) : OTree → Nat → Array Bool → Bool
  | .done, _, listed => Region.ready .any ops listed == []
  | .q i t, n + 1, listed => Region.free .any ops listed i && (Region.ready .any ops listed).contains i && treeOk ops t n (listed.setIfInBounds i true)
  | .one i t, n + 1, listed => (Region.ready .any ops listed == [i]) && treeOk ops t n (listed.setIfInBounds i true)
  | .two i t j u, n + 1, listed => (Region.ready .any ops listed == [i, j]) && treeOk ops t n (listed.setIfInBounds i true) && treeOk ops u n (listed.setIfInBounds j true)
  | _, 0, _ => false
theorem aOp_mono {i : Nat} {K K' : Env → AHeap → Prop} (hk : ∀ env H, K env H → K' env H) (h : aOp P ops i K env H) : aOp P ops i K' env H := by
  unfold aOp at h ⊢
  split
  · rename_i ho; rw [ho] at h; exact hk _ _ h
  · rename_i o ho; rw [ho] at h; exact operW_mono hk h
theorem any_of_tree : ∀ (t : OTree) (n : Nat) (listed : Array Bool) (env : Env) (H : AHeap), treeOk ops t n listed = true → treeA P ops S K t env H → aAny P ops S K n listed env H
  | .done, n, listed, env, H, hok, h => aAny_done (by simpa [treeOk] using hok) h.1 h.2 n
  | .q i t, n + 1, listed, env, H, hok, h => by
    simp only [treeOk, Bool.and_eq_true] at hok
    unfold treeA at h
    split at h
    · rename_i o ho
      obtain ⟨v, h1, h2⟩ := h
      exact aAny_take ho hok.1.1 hok.1.2 h1 (any_of_tree t n _ _ _ hok.2 h2)
    · exact h.elim
  | .one i t, n + 1, listed, env, H, hok, h => by
    simp only [treeOk, Bool.and_eq_true, beq_iff_eq] at hok
    refine ⟨h.1, fun h0 => ?_, fun j hj => ?_⟩
    · rw [hok.1] at h0; cases h0
    rw [hok.1] at hj
    have : j = i := by simpa using hj
    subst this
    exact aOp_mono (fun env' H' q => any_of_tree t n _ env' H' hok.2 q) h.2
  | .two i t j u, n + 1, listed, env, H, hok, h => by
    simp only [treeOk, Bool.and_eq_true, beq_iff_eq] at hok
    refine ⟨h.1, fun h0 => ?_, fun k hk => ?_⟩
    · rw [hok.1.1] at h0; cases h0
    rw [hok.1.1] at hk
    have : k = i ∨ k = j := by simpa using hk
    rcases this with rfl | rfl
    · exact aOp_mono (fun env' H' q => any_of_tree t n _ env' H' hok.1.2 q) h.2.1
    · exact aOp_mono (fun env' H' q => any_of_tree u n _ env' H' hok.2 q) h.2.2
  | .q i t, 0, listed, env, H, hok, h => by simp [treeOk] at hok
  | .one i t, 0, listed, env, H, hok, h => by simp [treeOk] at hok
  | .two i t j u, 0, listed, env, H, hok, h => by simp [treeOk] at hok
theorem W.tree {id : Nat} {k : Kont} (t : OTree) (S : AHeap → Prop) (K' : Env → AHeap → Prop) (hl : treeOk ops t ops.size (Array.replicate ops.size false) = true) (h : treeA P ops S K' t env H) (hk : ∀ env H, K' env H → W P (.ex .normal k) env H) : W P (.co (.region id ops true) k) env H :=
  .anyR S K' (any_of_tree t _ _ env H hl h) hk
variable {i : Nat} {t : OTree} {dst : Option Tmp} {op : Op} {ty : TypeId} {pos : String} {af : Array Edge}
theorem tq (v : Value) (ho : ops[i]? = some ⟨dst, op, ty, pos, af, none⟩) (hv : ∀ H', S H' → valA P env H' op = some v) (h : treeA P ops S K t (put env dst v) H) : treeA P ops S K (.q i t) env H := by
  unfold treeA; rw [ho]; exact ⟨v, fun H K hs hk => valA_sound (hv H hs) hk, h⟩
theorem tg (v : Value) {j : Nat} {want : Bool} (ho : ops[i]? = some ⟨dst, op, ty, pos, af, some (j, want)⟩) (hy : yieldA ops env j = some want) (hv : ∀ H', S H' → valA P env H' op = some v) (h : treeA P ops S K t (put env dst v) H) : treeA P ops S K (.q i t) env H := by
  unfold treeA; rw [ho]; exact ⟨v, .inl ⟨hy, fun H K hs hk => valA_sound (hv H hs) hk⟩, h⟩
theorem tp {j : Nat} {want : Bool} (ho : ops[i]? = some ⟨dst, op, ty, pos, af, some (j, want)⟩) (hy : yieldA ops env j ≠ some want) (h : treeA P ops S K t (put env dst undef) H) : treeA P ops S K (.q i t) env H := by
  unfold treeA; rw [ho]; exact ⟨undef, .inr ⟨hy, rfl⟩, h⟩
/-- One operation, of those that are ready. -/
theorem to {K' : Env → AHeap → Prop} (ho : ops[i]? = some ⟨dst, op, ty, pos, af, none⟩) (h : opW P env H (fun v H' => K' (put env dst v) H') op) : aOp P ops i K' env H := by
  unfold aOp; rw [ho]; exact h
theorem tog {K' : Env → AHeap → Prop} {j : Nat} {want : Bool} (ho : ops[i]? = some ⟨dst, op, ty, pos, af, some (j, want)⟩) (hy : yieldA ops env j = some want) (h : opW P env H (fun v H' => K' (put env dst v) H') op) : aOp P ops i K' env H := by
  unfold aOp; rw [ho]
  show operW P ops _ K' env H
  unfold operW
  simp only [hy]
  exact ⟨fun _ => h, fun hb => absurd rfl hb⟩
theorem make_q {t : TypeId} {x y : Operand} {cs : List Value} {n m : Nat} {K : Value → AHeap → Prop} (hm : makeSliceA P t (ev env x) (ev env y) = some (cs, n, m)) (h : ∀ i, H i = .none → K (.slice (some ⟨i, 0, none⟩) n m) (H.set i (.cells cs))) : opW P env H K (.makeSlice t x y) := by
  unfold opW
  simp only [hm]
  exact h
end Go.Ab
