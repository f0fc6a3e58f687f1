/-
  A CALCULUS OVER ABSTRACT HEAPS: 'op_sound': an operation of a region, in a world that the heap describes, does what its condition says.
-/
import Derived.Test.YtnbfimppgcoajaaDoorAbSound
namespace Go.Ab
set_option linter.unusedSimpArgs false
set_option linter.unusedVariables false
set_option linter.unusedSectionVars false
variable [Start]
variable {P : Program} {base : Nat} {w0 : World} {φ : Emb} {H : AHeap} {w : World} {K : Value → AHeap → Prop}

theorem out_newVar (r : Rel base w0 φ H w) {v v' : Value} (hv : VR φ v v') (h : newW v H K) (t : TypeId) : OpOut P base w0 φ H w K ((do pure (.value (← (do pure (.pointer (some (← _root_.Go.newVar t v'))) : Sem Value))) : Sem Next).run P w) := by
  obtain ⟨h1, h2⟩ := r.newVar (P := P) hv h t
  exact out_value (by simp [h1]) h2
omit [Go.Ab.Start] in
theorem parts_ok {env : Env} {a : Act} (he : EnvR φ env a.tmps) {ps : Array (Nat × Operand)} (hk : (ps.toList.map (·.2)).all okOperand = true) :
    PartsR φ (ps.toList.map fun (i, x) => (i, ev env x)) (ps.map fun (i, x) => (i, a.eval x)).toList := by
  rw [Array.toList_map]
  exact parts_rel he _ fun p hp => List.all_eq_true.1 hk _ (List.mem_map.2 ⟨p, hp, rfl⟩)
theorem out_buildSlice (r : Rel base w0 φ H w) {t : TypeId} {n : Nat} {l : List (Nat × Value)} {m : Array (Nat × Value)} (hp : PartsR φ l m.toList) {cs : Array Value} (h : buildSliceA P t n l = some cs) (h1 : cs.toList.all (·.oneCell') = true)
    (hk : ∀ i, H i = .none → K (.slice (some ⟨i, 0, none⟩) n n) (H.set i (.cells cs.toList))) : ∃ v' w', (Instr.buildSlice t n m).run P w = .ok v' w' ∧ Post base w0 φ H w K v' w' := by
  obtain ⟨ds, e, hr, hrun⟩ := run_buildSlice_A (P := P) hp h w
  obtain ⟨i, hi⟩ := r.someFresh
  obtain ⟨φ', r1, s1, hφ⟩ := r.newRow hi e hr h1
  refine ⟨_, _, hrun, φ', _, _, s1, r1, ?_, hk i hi⟩
  have := VR.slice (k := 0) (n := n) (c := n) (c' := n) hφ (.inl rfl)
  simpa using this
omit [Go.Ab.Start] in
theorem sure {a : Addr} (w : World) : (Instr.sureAddr (.pointer (some a))).run P w = .ok a w := rfl
theorem out_load (r : Rel base w0 φ H w) {t : TypeId} {i k : Nat} {n : Option Nat} {x' : Value} (hx : VR φ (.pointer (some ⟨i, k, none⟩)) x') (hn : aggA P t = some n) {v : Value} (hr : readA (H i) k n = some v) (hk : K v H) :
    ∃ v' w', (Instr.loadAt t x').run P w = .ok v' w' ∧ Post base w0 φ H w K v' w' := by
  cases hx with
  | ptr hi =>
    obtain ⟨v', h1, h2⟩ := run_loadVar_A r hi hn hr
    exact ⟨v', w, by unfold Instr.loadAt; rw [Sem.run_bind, sure, Result.andThen_ok, h1], .same r h2 hk⟩
theorem out_store (r : Rel base w0 φ H w) {t : TypeId} {i k : Nat} {x' : Value} (hx : VR φ (.pointer (some ⟨i, k, none⟩)) x') {v v' : Value} (hv : VR φ v v') (hs : sizeA P t = some v.cells.size) {o : AObj} (ho : writeA (H i) k v.cells.toList = some o) (hk : K undef (H.set i o)) :
    ∃ w', (Instr.storeAt t x' v').run P w = .ok () w' ∧ Post base w0 φ H w K undef w' := by
  cases hx with
  | ptr hi =>
    obtain ⟨w', h1, h2, h3⟩ := run_storeVar_A r hi hv hs ho
    exact ⟨w', by unfold Instr.storeAt; rw [Sem.run_bind, sure, Result.andThen_ok, h1], φ, _, undef, h3, h2, .undef _, hk⟩

omit [Go.Ab.Start] in
theorem method_plain {t : TypeId} {name : String} {g : FuncId} (h : methodA P t name = some g) (v : Value) (n : Nat) (w : World) : (Go.method (n + 1) t v name).run P w = .ok (g, v) w := by
  unfold methodA at h
  cases hi : P.info? t with
  | none => rw [hi] at h; cases h
  | some i =>
    rw [hi] at h
    simp only [Option.bind_some] at h
    cases hm : i.methods.find? (·.name == name) with
    | none => rw [hm] at h; cases h
    | some m =>
      rw [hm] at h
      simp only [Option.bind_some] at h
      split at h
      · rename_i hp
        have hp' : m.path.toList = [] := by
          have := Array.isEmpty_iff.1 hp
          simp [this]
        have hty : (typeInfo t).run P w = .ok i w := by simp [typeInfo, hi]
        unfold Go.method
        rw [Sem.run_bind, hty, Result.andThen_ok, hm]
        simp only [hp', follow]
        split at h
        · rename_i f el hf hu
          cases h
          rw [Sem.run_bind, Sem.run_pure, Result.andThen_ok]
          simp only [hf]
          rw [Sem.run_bind]
          unfold receiverAt
          rw [Sem.run_bind, run_underlying hu]
          rfl
        · cases h
        · rename_i f d hf hu hno
          cases h
          rw [Sem.run_bind, Sem.run_pure, Result.andThen_ok]
          simp only [hu]
          rw [Sem.run_bind]
          unfold receiverAt
          rw [Sem.run_bind, run_underlying hno]
          cases d <;> first | rfl | skip
          all_goals (exfalso; exact hf _ rfl)
        · cases h
      · cases h
end Go.Ab
