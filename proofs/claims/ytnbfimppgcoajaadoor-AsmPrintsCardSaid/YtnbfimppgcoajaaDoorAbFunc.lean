/-
  A CALCULUS OVER ABSTRACT HEAPS: functions: 'acalls_of_code'.
-/
import Derived.Test.YtnbfimppgcoajaaDoorAbWalk
namespace Go.Ab
set_option linter.unusedSimpArgs false
set_option linter.unusedVariables false
set_option linter.unusedSectionVars false
variable [Start]
variable {P : Program} {N : Nat} {Q : AQ} {env : Env} {H : AHeap}

theorem results_run {base : Nat} {w0 : World} {φ : Emb} {tmps : Array Value} {w : World} (r : Rel base w0 φ H w) (he : EnvR φ env tmps) (g : ResultVar → Sem Value) (g1 : ∀ t, g (.tmp t) = pure (tmps.getD t undef)) (g2 : ∀ a t, g (.cell a t) = (do loadVar t (← asAddr (tmps.getD a undef)))) :
    ∀ (rs : List ResultVar) (vs : List Value), resultsA P rs env H = some vs → ∃ us : List Value, (rs.mapM g).run P w = .ok us w ∧ ArrR φ vs.toArray us.toArray
  | [], vs, h => by cases h; exact ⟨[], by simp, rfl, fun i h => by simp at h⟩
  | .tmp t :: rs, vs, h => by
    unfold resultsA at h
    cases hr : resultsA P rs env H with
    | none => rw [hr] at h; cases h
    | some us =>
      rw [hr] at h; cases h
      obtain ⟨us', h1, h2⟩ := results_run r he g g1 g2 rs us hr
      refine ⟨tmps.getD t undef :: us', by rw [List.mapM_cons]; simp only [g1, Sem.run_bind, Sem.run_pure, Result.andThen_ok, h1], ?_⟩
      have := (arr1 (he t)).append2 h2
      simpa using this
  | .cell a t :: rs, vs, h => by
    unfold resultsA at h
    split at h
    · rename_i n i k hn hev
      split at h
      · rename_i v hv
        cases hr : resultsA P rs env H with
        | none => rw [hr] at h; cases h
        | some us =>
          rw [hr] at h; cases h
          obtain ⟨us', h1, h2⟩ := results_run r he g g1 g2 rs us hr
          have ha := he a
          rw [hev] at ha
          generalize hq : tmps.getD a undef = u at ha
          cases ha with
          | ptr hi =>
            obtain ⟨v', h3, h4⟩ := run_loadVar_A r hi hn hv
            refine ⟨v' :: us', ?_, ?_⟩
            · have hadd : ∀ (e : Addr), tmps.getD a undef = .pointer (some e) → (asAddr (tmps.getD a undef)).run P w = .ok e w := fun e he => by rw [he]; rfl
              rw [List.mapM_cons]
              simp only [g2, Sem.run_bind, hadd _ hq, Sem.run_pure, Result.andThen_ok, h3, h1]
            · have := (arr1 h4).append2 h2
              simpa using this
      · cases h
    · cases h
theorem results_sound {base : Nat} {w0 : World} {φ : Emb} {tmps : Array Value} {w : World} {fn : Func} (r : Rel base w0 φ H w) (he : EnvR φ env tmps) {vs : List Value} (h : resultsA P fn.results.toList env H = some vs) :
    ∃ v', (results fn tmps).run P w = .ok v' w ∧ VR φ (handed vs) v' := by
  obtain ⟨us, h1, h2⟩ := results_run r he (fun | .tmp t => pure (tmps.getD t undef) | .cell a t => do loadVar t (← asAddr (tmps.getD a undef))) (fun _ => rfl) (fun _ _ => rfl) _ _ h
  have hlen : vs.length = us.length := by simpa using h2.1
  unfold results
  rw [Array.mapM_eq_mapM_toList]
  refine ⟨if h : us.toArray.size = 1 then us.toArray[0] else .tuple us.toArray, ?_, ?_⟩
  · simp only [Sem.run_bind, Sem.run_map, Result.andThen_ok, Sem.run_pure]
    erw [h1]
    rfl
  · match vs, us, hlen, h2 with
    | [v], [u], _, h2 => exact h2.2 0 (by simp) (by simp)
    | [], [], _, h2 => exact .tuple h2.1 h2.2
    | v :: v2 :: vs, u :: u2 :: us, _, h2 =>
      simp only [handed, List.size_toArray, List.length_cons]
      rw [dif_neg (by omega)]
      exact .tuple h2.1 h2.2
omit [Go.Ab.Start] in
theorem env0_rel {φ : Emb} {args cargs : Array Value} (h : ArrR φ args cargs) (n : Nat) : EnvR φ (env0 args) (cargs ++ Array.replicate n undef) := by
  intro t
  unfold env0
  by_cases ht : t < args.size
  · have ht' : t < cargs.size := h.1 ▸ ht
    have := h.2 t ht ht'
    simp [ht, ht', Array.getElem?_append, Array.getD]
    rw [if_pos (by omega)]
    exact this
  · have ht' : ¬ t < cargs.size := h.1 ▸ ht
    have e1 : args.getD t undef = undef := by simp [ht]
    have e2 : (cargs ++ Array.replicate n undef).getD t undef = undef := by
      simp only [Array.getD_eq_getD_getElem?, Array.getElem?_append, if_neg ht', Array.getElem?_replicate]
      split <;> rfl
    rw [e1, e2]; exact .undef φ
theorem acalls_of_code {f : FuncId} {fn : Func} {c : Code} {args : Array Value} {K : Value → AHeap → Prop} (hf : P.funcs[f]? = some fn) (hb : fn.body = some c) (hname : (fn.name == "runtime.NumGoroutine") = false)
    (h : ACode P (args.size + (fn.ntmps - args.size)) c (retQ P fn.results.toList K) (env0 args) H) : ACalls P f args H K := by
  intro base w0 φ w cargs r ha
  refine .inr (.inr ⟨f, cargs, run_callFunc ⟨fn, hf, hname, by rw [hb]; rfl⟩ cargs w, ?_⟩)
  refine calls_of_wp hf hb (wp_mono (h base w0 φ { tmps := cargs ++ Array.replicate (fn.ntmps - cargs.size) undef, defers := [] } w r ?_ ?_ rfl) ?_)
  · exact env0_rel ha _
  · simp [ha.1]
  · rintro e a' w' ⟨ae, φ', env', H', rfl, h2, h3, h4, h5, h6, h7⟩
    have fin : (match resultsA P fn.results.toList env' H' with | some vs => K (handed vs) H' | none => False) → a'.defers = [] ∧ ∃ v, (results fn a'.tmps).run P w' = .ok v w' ∧ ∃ v', Ending.returned v = .returned v' ∧ Post base w0 φ H w K v' w' := by
      intro h
      split at h
      · rename_i vs hvs
        obtain ⟨v', g1, g2⟩ := results_sound (fn := fn) h3 h4 hvs
        exact ⟨h6, v', g1, v', rfl, φ', H', _, h2, h3, g2, h⟩
      · exact h.elim
    cases ae with
    | normal => exact fin h7
    | ret => exact fin h7
    | exit id => exact h7.elim
end Go.Ab
