/-
  A CALCULUS OVER ABSTRACT HEAPS: each operation does what its condition says ('op_sound').
-/
import Derived.Test.YtnbfimppgcoajaaDoorAbCode
namespace Go.Ab
set_option linter.unusedSimpArgs false
set_option linter.unusedVariables false
set_option linter.unusedSectionVars false
variable [Start]

theorem Post.same {base : Nat} {w0 : World} {φ : Emb} {H : AHeap} {w : World} (r : Rel base w0 φ H w) {K : Value → AHeap → Prop} {v v' : Value} (hv : VR φ v v') (h : K v H) : Post base w0 φ H w K v' w := ⟨φ, H, v, .refl _ _ _, r, hv, h⟩

variable {P : Program} {base : Nat} {w0 : World} {φ : Emb} {H : AHeap} {w : World} {K : Value → AHeap → Prop}

theorem out_value {S : Sem Value} {v' : Value} {w' : World} (h : S.run P w = .ok v' w') (hp : Post base w0 φ H w K v' w') : OpOut P base w0 φ H w K ((do pure (.value (← S)) : Sem Next).run P w) :=
  .inl ⟨v', w', by simp [h], hp⟩
theorem out_skip {S : Sem Unit} {w' : World} (h : S.run P w = .ok () w') (hp : Post base w0 φ H w K undef w') : OpOut P base w0 φ H w K ((do S; pure .skip : Sem Next).run P w) :=
  .inr (.inl ⟨w', by simp [h], hp⟩)
theorem out_pure {v v' : Value} (r : Rel base w0 φ H w) (hv : VR φ v v') (h : K v H) : OpOut P base w0 φ H w K ((pure (.value v') : Sem Next).run P w) :=
  .inl ⟨v', w, by simp, .same r hv h⟩

def addrish : Value → Bool
  | .pointer _ | .slice .. | .map _ | .iface .. | .func .. | .nilFunc => true
  | _ => false
def addrNil : Value → Bool
  | .nilIface => true
  | v => addrish v
omit [Go.Ab.Start] in
theorem eq_at (op : BinOp) (t : TypeId) (x y : Operand) {a b : Value} (ha : addrNil a = true) (hb : addrNil b = true) (h : addrish a = true ∨ addrish b = true) (w : World) : (eqGuard op t x y a b).run P w = .ok () w ∧
    binOp .eql t a b = (do pure (.bool (← Op.equal t a b))) ∧ binOp .neq t a b = (do pure (.bool (!(← Op.equal t a b)))) := by
  refine ⟨?_, ?_, ?_⟩
  · cases a <;> first | (cases ha; done) | skip
    all_goals cases b <;> first | (cases hb; done) | skip
    all_goals first | (rcases h with h | h <;> cases h; done) | (cases op <;> rfl)
  · cases a <;> first | (cases ha; done) | skip
    all_goals cases b <;> first | (cases hb; done) | rfl
  · cases a <;> first | (cases ha; done) | skip
    all_goals cases b <;> first | (cases hb; done) | rfl
omit [Go.Ab.Start] in
theorem eqNil_shape {t : TypeId} {u v : Value} {b : Bool} (h : eqNilA P t u v = some b) : addrNil u = true ∧ addrNil v = true ∧ (addrish u = true ∨ addrish v = true) := by
  unfold eqNilA at h
  split at h <;> first | (cases h; done) | exact ⟨rfl, rfl, .inl rfl⟩ | exact ⟨rfl, rfl, .inr rfl⟩
omit [Go.Ab.Start] in
theorem eqPtr_shape {t : TypeId} {u v : Value} {b : Bool} (h : eqPtrA P H t u v = some b) : addrNil u = true ∧ addrNil v = true ∧ (addrish u = true ∨ addrish v = true) := by
  unfold eqPtrA at h
  split at h <;> first | (cases h; done) | exact ⟨rfl, rfl, .inl rfl⟩
omit [Go.Ab.Start] in
theorem VR.addrNil {v v' : Value} (h : VR φ v v') : Ab.addrNil v' = Ab.addrNil v := by cases h <;> rfl
omit [Go.Ab.Start] in
theorem VR.addrish {v v' : Value} (h : VR φ v v') : Ab.addrish v' = Ab.addrish v := by cases h <;> rfl

theorem eq_sound (r : Rel base w0 φ H w) (op : BinOp) (t : TypeId) (x y : Operand) {u u' v v' : Value} (hu : VR φ u u') (hv : VR φ v v') {b : Bool} (h : eqNilA P t u v = some b ∨ eqPtrA P H t u v = some b) :
    (eqGuard op t x y u' v').run P w = .ok () w ∧ (binOp .eql t u' v').run P w = .ok (.bool b) w ∧ (binOp .neq t u' v').run P w = .ok (.bool !b) w := by
  have hsh : addrNil u = true ∧ addrNil v = true ∧ (addrish u = true ∨ addrish v = true) := by
    rcases h with h | h
    · exact eqNil_shape h
    · exact eqPtr_shape h
  have he : (Op.equal t u' v').run P w = .ok b w := by
    rcases h with h | h
    · exact run_eqNil hu hv h w
    · exact run_eqPtr r hu hv h
  obtain ⟨h1, h2, h3⟩ := eq_at (P := P) op t x y (a := u') (b := v') (hu.addrNil.trans hsh.1) (hv.addrNil.trans hsh.2.1) (by rw [hu.addrish, hv.addrish]; exact hsh.2.2) w
  refine ⟨h1, ?_, ?_⟩
  · rw [h2]; simp [he]
  · rw [h3]; simp [he]

theorem bin_sound (r : Rel base w0 φ H w) {op : BinOp} {t : TypeId} {x y : Operand} {u u' v v' : Value} (hu : VR φ u u') (hv : VR φ v v') (h : binW P op t x y u v H K) :
    ∃ z, ((do eqGuard op t x y u' v'; binOp op t u' v') : Sem Value).run P w = .ok z w ∧ scalar z = true ∧ K z H := by
  unfold binW at h
  split at h
  · cases hu; cases hv
    split at h
    · rename_i hb
      have := run_binI (P := P) (t := t) hb x y w
      exact ⟨_, this.1, this.2, h⟩
    · exact h.elim
  · cases hu; cases hv
    split at h
    · rename_i hb
      have := run_binS (P := P) (t := t) hb x y w
      exact ⟨_, this.1, this.2, h⟩
    · exact h.elim
  · split at h
    · rename_i hp
      obtain rfl := hu.plain_eq hp.1
      obtain rfl := hv.plain_eq hp.2
      split at h
      · rename_i hr
        exact ⟨_, run_pureA _ hr w, h.1, h.2⟩
      · exact h.elim
    · split at h
      · split at h
        · rename_i hb
          obtain ⟨h1, h2, _⟩ := eq_sound r .eql t x y hu hv (.inl hb)
          exact ⟨_, by rw [Sem.run_bind, h1, Result.andThen_ok, h2], rfl, h⟩
        · split at h
          · rename_i hb
            obtain ⟨h1, h2, _⟩ := eq_sound r .eql t x y hu hv (.inr hb)
            exact ⟨_, by rw [Sem.run_bind, h1, Result.andThen_ok, h2], rfl, h⟩
          · exact h.elim
      · split at h
        · rename_i hb
          obtain ⟨h1, _, h2⟩ := eq_sound r .neq t x y hu hv (.inl hb)
          exact ⟨_, by rw [Sem.run_bind, h1, Result.andThen_ok, h2], rfl, h⟩
        · split at h
          · rename_i hb
            obtain ⟨h1, _, h2⟩ := eq_sound r .neq t x y hu hv (.inr hb)
            exact ⟨_, by rw [Sem.run_bind, h1, Result.andThen_ok, h2], rfl, h⟩
          · exact h.elim
      · exact h.elim
omit [Go.Ab.Start] in
theorem un_sound {op : UnOp} {x x' v : Value} (hx : VR φ x x') (h : unA op x = some v) (w : World) : (Op.unary op x').run P w = .ok v w ∧ scalar v = true := by
  unfold unA at h
  split at h
  · cases hx; cases h; exact ⟨rfl, rfl⟩
  · cases hx; cases h; exact ⟨by simp [Op.unary, Op.intArith], rfl⟩
  · cases h
theorem conv_sound (r : Rel base w0 φ H w) {s t : TypeId} {x x' : Value} (hx : VR φ x x') (h : convW P s t x H K) : ∃ v, (convert s t x').run P w = .ok v w ∧ scalar v = true ∧ K v H := by
  unfold convW at h
  split at h
  · rename_i hc
    have := run_convA hc w
    obtain rfl := hx.scalar_eq this.2.2
    exact ⟨_, this.1, this.2.1, h⟩
  · split at h
    · rename_i hc
      have := run_convBytes r hx hc
      exact ⟨_, this.1, this.2, h⟩
    · exact h.elim
theorem len_sound (r : Rel base w0 φ H w) {t ty : TypeId} {x x' : Value} (hx : VR φ x x') {n : Nat} (h : lenA P H t x = some n) : (Builtin.len_ #[t] ty #[x']).run P w = .ok (.int .i64 n) w := by
  unfold lenA at h
  split at h
  · rename_i hu
    cases hx; cases h
    simp [Builtin.len_, run_underlying hu, goInt]
  · rename_i hu
    cases h
    cases hx <;> simp [Builtin.len_, run_underlying hu, goInt]
  · rename_i hu
    cases h
    cases hx
    simp [Builtin.len_, run_underlying hu, goInt]
  · rename_i i hu
    cases hx with
    | @map i e hi =>
      cases ho : H i with
      | map es =>
        rw [ho] at h; cases h
        obtain ⟨ents, clock, hb, hm⟩ := map_of r hi ho
        have hl : ents.size = es.length := by
          have := hm.length
          simpa using this.symm
        simp [Builtin.len_, run_underlying hu, run_getMap hb, goInt, hl]
      | _ => rw [ho] at h; cases h
  · cases h
end Go.Ab
