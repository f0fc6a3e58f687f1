/-
  A CALCULUS OVER ABSTRACT HEAPS: code: 'ACode', its rules, and 'acalls_of_code'.
-/
import Derived.Test.YtnbfimppgcoajaaDoorAbOp3
import Derived.Deep.LoopGhost
namespace Go.Ab
set_option linter.unusedSimpArgs false
set_option linter.unusedVariables false
set_option linter.unusedSectionVars false
variable [Start]

inductive AExit where
  | normal
  | exit (id : Nat)
  | ret
def AExit.out : AExit → Exit
  | .normal => .normal
  | .exit id => .exit id
  | .ret => .ret
abbrev AQ := AExit → Env → AHeap → Prop

def CPost (N : Nat) (base : Nat) (w0 : World) (φ : Emb) (H : AHeap) (w : World) (Q : AQ) (e : Exit) (a' : Act) (w' : World) : Prop :=
  ∃ ae φ' env' H', e = ae.out ∧ Step φ H w φ' H' w' ∧ Rel base w0 φ' H' w' ∧ EnvR φ' env' a'.tmps ∧ a'.tmps.size = N ∧ a'.defers = [] ∧ Q ae env' H'
def NPost (N : Nat) (base : Nat) (w0 : World) (φ : Emb) (H : AHeap) (w : World) (K : Env → AHeap → Prop) (a' : Act) (w' : World) : Prop :=
  ∃ φ' env' H', Step φ H w φ' H' w' ∧ Rel base w0 φ' H' w' ∧ EnvR φ' env' a'.tmps ∧ a'.tmps.size = N ∧ a'.defers = [] ∧ K env' H'

/-- A piece of code, over an abstract heap: whatever the world that the heap describes, it comes to an end that 'Q' names. -/
def ACode (P : Program) (N : Nat) (c : Code) (Q : AQ) (env : Env) (H : AHeap) : Prop :=
  ∀ base w0 φ a w, Rel base w0 φ H w → EnvR φ env a.tmps → a.tmps.size = N → a.defers = [] → c.wp P (CPost N base w0 φ H w Q) a w

variable {P : Program} {N : Nat} {Q : AQ} {env : Env} {H : AHeap}

theorem CPost.mono {base : Nat} {w0 : World} {φ : Emb} {w : World} {Q' : AQ} {e : Exit} {a' : Act} {w' : World} (h : CPost N base w0 φ H w Q e a' w') (hq : ∀ e env H, Q e env H → Q' e env H) : CPost N base w0 φ H w Q' e a' w' :=
  let ⟨ae, φ', env', H', h1, h2, h3, h4, h5, h6, h7⟩ := h; ⟨ae, φ', env', H', h1, h2, h3, h4, h5, h6, hq _ _ _ h7⟩
theorem ACode.mono {c : Code} {Q' : AQ} (h : ACode P N c Q env H) (hq : ∀ e env H, Q e env H → Q' e env H) : ACode P N c Q' env H :=
  fun base w0 φ a w r he hn hd => wp_mono (h base w0 φ a w r he hn hd) fun _ _ _ q => q.mono hq
theorem ACode.skip (h : Q .normal env H) : ACode P N .skip Q env H :=
  fun _ _ _ _ _ r he hn hd => wp_skip ⟨.normal, _, _, _, rfl, .refl _ _ _, r, he, hn, hd, h⟩
theorem ACode.ret (h : Q .ret env H) : ACode P N .ret Q env H :=
  fun _ _ _ _ _ r he hn hd => wp_ret ⟨.ret, _, _, _, rfl, .refl _ _ _, r, he, hn, hd, h⟩
theorem ACode.exit {id : Nat} (h : Q (.exit id) env H) : ACode P N (.exit id) Q env H :=
  fun _ _ _ _ _ r he hn hd => wp_exit ⟨.exit id, _, _, _, rfl, .refl _ _ _, r, he, hn, hd, h⟩
def thenQ (K : Env → AHeap → Prop) (Q : AQ) : AQ
  | .normal, env, H => K env H
  | e, env, H => Q e env H
theorem ACode.seq {x y : Code} (h : ACode P N x (thenQ (ACode P N y Q) Q) env H) : ACode P N (.seq x y) Q env H := by
  intro base w0 φ a w r he hn hd
  refine wp_seq (wp_mono (h base w0 φ a w r he hn hd) ?_)
  rintro e a' w' ⟨ae, φ', env', H', rfl, h2, h3, h4, h5, h6, h7⟩
  cases ae with
  | normal => exact wp_mono (h7 base w0 φ' a' w' h3 h4 h5 h6) fun e2 a2 w2 ⟨ae, φ2, env2, H2, g1, g2, g3, g4, g5, g6, g7⟩ => ⟨ae, φ2, env2, H2, g1, h2.trans g2, g3, g4, g5, g6, g7⟩
  | exit id => exact ⟨.exit id, φ', env', H', rfl, h2, h3, h4, h5, h6, h7⟩
  | ret => exact ⟨.ret, φ', env', H', rfl, h2, h3, h4, h5, h6, h7⟩
/-- A seam: what holds between two pieces is said. -/
theorem ACode.seam {x y : Code} (R : Env → AHeap → Prop) (h : ACode P N x (thenQ R Q) env H) (h' : ∀ env H, R env H → ACode P N y Q env H) : ACode P N (.seq x y) Q env H :=
  ACode.seq (h.mono fun e env H q => by cases e <;> first | exact h' _ _ q | exact q)
theorem ACode.cond {c : Operand} {x y : Code} (hok : okOperand c = true) {b : Bool} (hb : ev env c = .bool b) (h1 : b = true → ACode P N x Q env H) (h2 : b = false → ACode P N y Q env H) : ACode P N (.cond c x y) Q env H := by
  intro base w0 φ a w r he hn hd
  have hc := ev_rel he hok
  rw [hb] at hc
  have hc' : a.eval c = .bool b := by generalize a.eval c = u at hc; cases hc; rfl
  exact wp_cond_split hc' (fun h => h1 h base w0 φ a w r he hn hd) (fun h => h2 h base w0 φ a w r he hn hd)
def inBlockQ (id : Nat) (Q : AQ) : AQ
  | .exit id', env, H => if id' = id then Q .normal env H else Q (.exit id') env H
  | e, env, H => Q e env H
theorem ACode.block {id : Nat} {c : Code} (h : ACode P N c (inBlockQ id Q) env H) : ACode P N (.block id c) Q env H := by
  intro base w0 φ a w r he hn hd
  refine wp_block (wp_mono (h base w0 φ a w r he hn hd) ?_)
  rintro e a' w' ⟨ae, φ', env', H', rfl, h2, h3, h4, h5, h6, h7⟩
  cases ae with
  | normal => exact ⟨.normal, φ', env', H', rfl, h2, h3, h4, h5, h6, h7⟩
  | ret => exact ⟨.ret, φ', env', H', rfl, h2, h3, h4, h5, h6, h7⟩
  | exit id' =>
    simp only [AExit.out, Exit.inBlock, inBlockQ] at h7 ⊢
    split
    · rename_i hid; rw [if_pos hid] at h7; exact ⟨.normal, φ', env', H', rfl, h2, h3, h4, h5, h6, h7⟩
    · rename_i hid; rw [if_neg hid] at h7; exact ⟨.exit id', φ', env', H', rfl, h2, h3, h4, h5, h6, h7⟩
/-- A loop: an invariant that bears a number, which every round lowers. -/
theorem ACode.loop {c : Code} (I : Nat → Env → AHeap → Prop) (n : Nat) (h0 : I n env H) (round : ∀ n env H, I n env H → ACode P N c (thenQ (fun env' H' => ∃ n', n' < n ∧ I n' env' H') Q) env H) : ACode P N (.loop c) Q env H := by
  intro base w0 φ a w r he hn hd
  refine wp_loop_ghost (fun n a' w' => ∃ φ' env' H', Step φ H w φ' H' w' ∧ Rel base w0 φ' H' w' ∧ EnvR φ' env' a'.tmps ∧ a'.tmps.size = N ∧ a'.defers = [] ∧ I n env' H') n ⟨φ, env, H, .refl _ _ _, r, he, hn, hd, h0⟩ ?_
  rintro n a1 w1 ⟨φ1, env1, H1, s1, r1, e1, n1, d1, i1⟩
  refine wp_mono (round n env1 H1 i1 base w0 φ1 a1 w1 r1 e1 n1 d1) ?_
  rintro e a2 w2 ⟨ae, φ2, env2, H2, rfl, h2, h3, h4, h5, h6, h7⟩
  cases ae with
  | normal =>
    obtain ⟨n', hlt, hi⟩ := h7
    exact ⟨n', hlt, φ2, env2, H2, s1.trans h2, h3, h4, h5, h6, hi⟩
  | exit id => exact ⟨.exit id, φ2, env2, H2, rfl, s1.trans h2, h3, h4, h5, h6, h7⟩
  | ret => exact ⟨.ret, φ2, env2, H2, rfl, s1.trans h2, h3, h4, h5, h6, h7⟩

/-! ### Regions in the order of the text -/
def yieldA (ops : Array Oper) (env : Env) (j : Nat) : Option Bool := match (ops[j]?).bind (·.dst) with
  | some d => (match env d with | .bool b => some b | _ => none)
  | none => none
def operW (P : Program) (ops : Array Oper) (o : Oper) (K : Env → AHeap → Prop) (env : Env) (H : AHeap) : Prop :=
  match o.guard with
  | none => opW P env H (fun v H' => K (put env o.dst v) H') o.op
  | some (j, want) => match yieldA ops env j with
    | some b => (b = want → opW P env H (fun v H' => K (put env o.dst v) H') o.op) ∧ (b ≠ want → K (put env o.dst undef) H)
    | none => K (put env o.dst undef) H
def opsW (P : Program) (ops : Array Oper) (K : Env → AHeap → Prop) : List Oper → Env → AHeap → Prop
  | [], env, H => K env H
  | o :: rest, env, H => operW P ops o (opsW P ops K rest) env H
omit [Go.Ab.Start] in
theorem yield_rel {φ : Emb} {a : Act} {ops : Array Oper} (he : EnvR φ env a.tmps) (hsz : a.tmps.size = N) (hops : ops.toList.all (okOper N) = true) (j : Nat) : yielded ops a.tmps j = yieldA ops env j := by
  unfold yielded yieldA
  cases hj : (ops[j]?).bind (·.dst) with
  | none => rfl
  | some d =>
    simp only [Option.bind_some]
    have hd : d < a.tmps.size := by
      cases ho : ops[j]? with
      | none => rw [ho] at hj; cases hj
      | some o =>
        rw [ho] at hj
        simp only [Option.bind_some] at hj
        have := List.all_eq_true.1 hops o (by simpa using Array.mem_of_getElem? ho)
        have h3 := (Bool.and_eq_true_iff.1 this).1
        rw [hj] at h3
        have h4 : d < N := by simpa using h3
        rw [hsz]; exact h4
    have h1 := he d
    rw [Array.getElem?_eq_getElem hd]
    have h2 : a.tmps.getD d undef = a.tmps[d] := by simp [hd]
    rw [h2] at h1
    generalize a.tmps[d] = u at h1
    generalize env d = v at h1
    cases h1 <;> rfl
theorem out_wp {base : Nat} {w0 : World} {φ : Emb} {a : Act} {w : World} {o : Oper} (he : EnvR φ env a.tmps) (hn : a.tmps.size = N) (hd : a.defers = []) (hok : okOper N o = true) {K : Env → AHeap → Prop} {W : Exit → Act → World → Prop}
    (h : OpOut P base w0 φ H w (fun v H' => K (put env o.dst v) H') ((execOp a.eval o).run P w)) : o.wp P a w (NPost N base w0 φ H w K) W := by
  have hdst : o.dst.all (· < a.tmps.size) = true := by
    unfold okOper at hok
    rw [hn]
    exact (Bool.and_eq_true_iff.1 hok).1
  have key : ∀ v' w', Post base w0 φ H w (fun v H' => K (put env o.dst v) H') v' w' → NPost N base w0 φ H w K (a.put o.dst v') w' := by
    rintro v' w' ⟨φ', H', v, s, r', hv, hk⟩
    refine ⟨φ', put env o.dst v, H', s, r', (he.mono s.ext).put hdst hv, ?_, ?_, hk⟩
    · cases o.dst <;> simp [Act.put, hn]
    · cases o.dst <;> simp [Act.put, hd]
  rcases h with ⟨v', w', hr, hp⟩ | ⟨w', hr, hp⟩ | ⟨f, args, hr, hc⟩
  · exact value_op hr (key _ _ hp)
  · exact skip_op hr (key _ _ hp)
  · exact enter_op hr (hc.mono fun e w' ⟨v', h1, h2⟩ => ⟨v', h1, key _ _ h2⟩)
theorem oper_wp {base : Nat} {w0 : World} {φ : Emb} {a : Act} {w : World} {ops : Array Oper} {o : Oper} (r : Rel base w0 φ H w) (he : EnvR φ env a.tmps) (hn : a.tmps.size = N) (hd : a.defers = []) (hops : ops.toList.all (okOper N) = true) (hok : okOper N o = true) {K : Env → AHeap → Prop}
    {W : Exit → Act → World → Prop} (h : operW P ops o K env H) :
    if Region.wanted o (yielded ops a.tmps) then o.wp P a w (NPost N base w0 φ H w K) W else NPost N base w0 φ H w K (a.put o.dst undef) w := by
  have hok2 : o.op.operands.toList.all okOperand = true := (Bool.and_eq_true_iff.1 hok).2
  have hdst : o.dst.all (· < a.tmps.size) = true := by
    rw [hn]
    exact (Bool.and_eq_true_iff.1 hok).1
  have hskip : K (put env o.dst undef) H → NPost N base w0 φ H w K (a.put o.dst undef) w := fun hk =>
    ⟨φ, put env o.dst undef, H, .refl _ _ _, r, he.put hdst (.undef φ), by cases o.dst <;> simp [Act.put, hn], by cases o.dst <;> simp [Act.put, hd], hk⟩
  unfold operW at h
  cases hg : o.guard with
  | none =>
    rw [hg] at h
    rw [if_pos (by simp [Region.wanted, hg])]
    exact out_wp he hn hd hok (op_sound r he o hok2 h)
  | some g =>
    obtain ⟨j, want⟩ := g
    rw [hg] at h
    simp only at h
    have hwant : Region.wanted o (yielded ops a.tmps) = (yieldA ops env j == some want) := by
      unfold Region.wanted
      rw [hg]
      simp only
      rw [yield_rel he hn hops]
    cases hy : yieldA ops env j with
    | none =>
      rw [hy] at h hwant
      rw [if_neg (by rw [hwant]; simp)]
      exact hskip h
    | some b =>
      rw [hy] at h hwant
      by_cases hb : b = want
      · rw [if_pos (by rw [hwant, hb]; simp)]
        exact out_wp he hn hd hok (op_sound r he o hok2 (h.1 hb))
      · rw [if_neg (by rw [hwant]; simpa using hb)]
        exact hskip (h.2 hb)
theorem NPost.trans {base : Nat} {w0 : World} {φ : Emb} {w : World} {φ' : Emb} {H' : AHeap} {w' : World} (s : Step φ H w φ' H' w') {K : Env → AHeap → Prop} {a : Act} {w2 : World} (h : NPost N base w0 φ' H' w' K a w2) : NPost N base w0 φ H w K a w2 :=
  let ⟨φ2, env2, H2, h1, h2, h3, h4, h5, h6⟩ := h; ⟨φ2, env2, H2, s.trans h1, h2, h3, h4, h5, h6⟩
theorem ops_wp {ops : Array Oper} (hops : ops.toList.all (okOper N) = true) {base : Nat} {w0 : World} {K : Env → AHeap → Prop} {Q' : Exit → Act → World → Prop} : ∀ (l : List Oper), l.all (okOper N) = true → ∀ (φ : Emb) (env : Env) (H : AHeap) (a : Act) (w : World),
    Rel base w0 φ H w → EnvR φ env a.tmps → a.tmps.size = N → a.defers = [] → opsW P ops K l env H → (∀ a' w', NPost N base w0 φ H w K a' w' → Q' .normal a' w') → wpList P ops Q' l a w
  | [], _, φ, env, H, a, w, r, he, hn, hd, h, hQ => hQ _ _ ⟨φ, env, H, .refl _ _ _, r, he, hn, hd, h⟩
  | o :: l, hl, φ, env, H, a, w, r, he, hn, hd, h, hQ => by
    simp only [List.all_cons, Bool.and_eq_true] at hl
    have h1 := oper_wp (W := Q') r he hn hd hops hl.1 h
    have next : ∀ a' w', NPost N base w0 φ H w (opsW P ops K l) a' w' → wpList P ops Q' l a' w' := by
      rintro a' w' ⟨φ', env', H', s, r', e', n', d', k'⟩
      exact ops_wp hops l hl.2 φ' env' H' a' w' r' e' n' d' k' fun a2 w2 q => hQ _ _ (q.trans s)
    unfold wpList
    split
    · rename_i hw
      rw [if_pos hw] at h1
      exact .inl (Oper.wp_mono next h1)
    · rename_i hw
      rw [if_neg hw] at h1
      exact next _ _ h1
theorem ACode.region {id : Nat} {ops : Array Oper} (hok : ops.toList.all (okOper N) = true) (h : opsW P ops (Q .normal) ops.toList env H) : ACode P N (.region id ops false) Q env H := by
  intro base w0 φ a w r he hn hd
  exact wp_region_list (ops_wp hok _ hok φ env H a w r he hn hd h fun a' w' ⟨φ', env', H', h1, h2, h3, h4, h5, h6⟩ => ⟨.normal, φ', env', H', rfl, h1, h2, h3, h4, h5, h6⟩)

/-! ### Functions -/
def env0 (args : Array Value) : Env := fun t => args.getD t undef
/-- What a function hands back. -/
def resultsA (P : Program) (rs : List ResultVar) (env : Env) (H : AHeap) : Option (List Value) := match rs with
  | [] => some []
  | .tmp t :: rs => (resultsA P rs env H).map (env t :: ·)
  | .cell a t :: rs => match aggA P t, env a with
    | some n, .pointer (some ⟨i, k, none⟩) => match readA (H i) k n with
      | some v => (resultsA P rs env H).map (v :: ·)
      | none => none
    | _, _ => none
def handed (vs : List Value) : Value := match vs with
  | [v] => v
  | vs => .tuple vs.toArray
def retQ (P : Program) (rs : List ResultVar) (K : Value → AHeap → Prop) : AQ
  | .exit _, _, _ => False
  | _, env, H => match resultsA P rs env H with
    | some vs => K (handed vs) H
    | none => False
def okResults (N : Nat) (rs : List ResultVar) : Bool := true
end Go.Ab
