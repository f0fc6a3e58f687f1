/-
  A CALCULUS OVER ABSTRACT HEAPS: a region whose order is drawn: every order is walked ('aAny'); an operation that yields the same whenever it is taken may be taken first ('aAny_take').
-/
import Derived.Test.YtnbfimppgcoajaaDoorAbMono
import Derived.Orders
namespace Go.Ab
set_option linter.unusedSimpArgs false
set_option linter.unusedVariables false
set_option linter.unusedSectionVars false
variable [Start]
variable {P : Program} {ops : Array Oper} {S : AHeap → Prop} {K : Env → AHeap → Prop} {N : Nat}

def aOp (P : Program) (ops : Array Oper) (i : Nat) (K : Env → AHeap → Prop) (env : Env) (H : AHeap) : Prop := match ops[i]? with
  | none => K env H
  | some o => operW P ops o K env H
def aAny (P : Program) (ops : Array Oper) (S : AHeap → Prop) (K : Env → AHeap → Prop) : Nat → Array Bool → Env → AHeap → Prop
  | 0, listed, env, H => S H ∧ Region.ready .any ops listed = [] ∧ K env H
  | fuel + 1, listed, env, H => S H ∧ (Region.ready .any ops listed = [] → K env H) ∧ ∀ i ∈ Region.ready .any ops listed, aOp P ops i (aAny P ops S K fuel (listed.setIfInBounds i true)) env H

theorem operW_mono {o : Oper} {K K' : Env → AHeap → Prop} {env : Env} {H : AHeap} (hk : ∀ env H, K env H → K' env H) (h : operW P ops o K env H) : operW P ops o K' env H := by
  unfold operW at h ⊢
  cases hg : o.guard with
  | none => rw [hg] at h; exact opW_mono (fun _ _ q => hk _ _ q) h
  | some g =>
    obtain ⟨j, want⟩ := g
    rw [hg] at h
    simp only at h ⊢
    split at h
    · exact ⟨fun hb => opW_mono (fun _ _ q => hk _ _ q) (h.1 hb), fun hb => hk _ _ (h.2 hb)⟩
    · exact hk _ _ h
theorem any_wp (hops : ops.toList.all (okOper N) = true) {base : Nat} {w0 : World} {Q' : Exit → Act → World → Prop} : ∀ (fuel : Nat) (listed : Array Bool) (φ : Emb) (env : Env) (H : AHeap) (a : Act) (w : World),
    Rel base w0 φ H w → EnvR φ env a.tmps → a.tmps.size = N → a.defers = [] → aAny P ops S K fuel listed env H → (∀ a' w', NPost N base w0 φ H w K a' w' → Q' .normal a' w') → wpAny P .any ops Q' fuel listed a w
  | 0, listed, φ, env, H, a, w, r, he, hn, hd, h, hQ => ⟨h.2.1, hQ _ _ ⟨φ, env, H, .refl _ _ _, r, he, hn, hd, h.2.2⟩⟩
  | fuel + 1, listed, φ, env, H, a, w, r, he, hn, hd, h, hQ => by
    refine ⟨fun hr => hQ _ _ ⟨φ, env, H, .refl _ _ _, r, he, hn, hd, h.2.1 hr⟩, fun i hi => ?_⟩
    have h1 := h.2.2 i hi
    unfold aOp at h1
    unfold wpOp
    have next : ∀ a' w', NPost N base w0 φ H w (aAny P ops S K fuel (listed.setIfInBounds i true)) a' w' → wpAny P .any ops Q' fuel (listed.setIfInBounds i true) a' w' := by
      rintro a' w' ⟨φ', env', H', s, r', e', n', d', k'⟩
      exact any_wp hops fuel _ φ' env' H' a' w' r' e' n' d' k' fun a2 w2 q => hQ _ _ (q.trans s)
    cases ho : ops[i]? with
    | none => rw [ho] at h1; exact next _ _ ⟨φ, env, H, .refl _ _ _, r, he, hn, hd, h1⟩
    | some o =>
      rw [ho] at h1
      have hok := List.all_eq_true.1 hops o (by simpa using Array.mem_of_getElem? ho)
      have h2 := oper_wp (W := Q') r he hn hd hops hok h1
      simp only
      split
      · rename_i hw; rw [if_pos hw] at h2; exact .inl (Oper.wp_mono next h2)
      · rename_i hw; rw [if_neg hw] at h2; exact next _ _ h2
theorem ACode.drawn {id : Nat} {Q : AQ} {env : Env} {H : AHeap} (hm : P.follows .mixedOrders = true) (hok : ops.toList.all (okOper N) = true) (S : AHeap → Prop) (h : aAny P ops S (Q .normal) ops.size (Array.replicate ops.size false) env H) : ACode P N (.region id ops true) Q env H := by
  intro base w0 φ a w r he hn hd
  have r' : Rel base w0 φ H { w with drawn := w.drawn + 1 } := r.world (Nat.le_refl _) (fun _ _ => rfl) ⟨rfl, rfl⟩
  have s' : Step φ H w φ H { w with drawn := w.drawn + 1 } := .world (Nat.le_refl _) fun _ _ => rfl
  exact wp_region_any hm (any_wp hok _ _ φ env H a _ r' he hn hd h fun a' w' ⟨φ', env', H', h1, h2, h3, h4, h5, h6⟩ => ⟨.normal, φ', env', H', rfl, s'.trans h1, h2, h3, h4, h5, h6⟩)

/-! ### What may be taken first -/
def AQuiet (P : Program) (ops : Array Oper) (S : AHeap → Prop) (o : Oper) (v : Value) (env : Env) : Prop := match o.guard with
  | none => ∀ H K, S H → K v H → opW P env H K o.op
  | some (j, want) => (yieldA ops env j = some want ∧ ∀ H K, S H → K v H → opW P env H K o.op) ∨ (yieldA ops env j ≠ some want ∧ v = undef)
omit [Go.Ab.Start] in
theorem ev_put {env : Env} {dst : Option Tmp} {v : Value} {x : Operand} (h : ∀ d, dst = some d → x ≠ .tmp d) : ev (put env dst v) x = ev env x := by
  cases dst with
  | none => rfl
  | some d =>
    cases x <;> first | rfl | skip
    rename_i t
    have : t ≠ d := fun hh => h d rfl (by rw [hh])
    simp [ev, put, upd, this]
omit [Go.Ab.Start] in
theorem looks_operand {o : Oper} {x : Operand} {d : Tmp} (hx : x ∈ o.op.operands) (h : x = .tmp d) : d ∈ o.looksAt ops := by
  subst h
  unfold Oper.looksAt
  rw [List.mem_append]
  refine .inl (List.mem_filterMap.2 ⟨.tmp d, by simpa using hx, rfl⟩)
theorem opW_put {o : Oper} {env : Env} {H : AHeap} {K : Value → AHeap → Prop} {dst : Option Tmp} {v : Value} (h : ∀ d, dst = some d → d ∉ o.looksAt ops) : opW P (put env dst v) H K o.op = opW P env H K o.op :=
  opW_congr fun x hx => ev_put fun d hd hxd => h d hd (looks_operand hx hxd)
omit [Go.Ab.Start] in
theorem yield_put {o : Oper} {env : Env} {dst : Option Tmp} {v : Value} (h : ∀ d, dst = some d → d ∉ o.looksAt ops) {j : Nat} {want : Bool} (hg : o.guard = some (j, want)) : yieldA ops (put env dst v) j = yieldA ops env j := by
  unfold yieldA
  cases hj : (ops[j]?).bind (·.dst) with
  | none => rfl
  | some d =>
    simp only
    have hmem : d ∈ o.looksAt ops := by
      unfold Oper.looksAt
      rw [List.mem_append]
      refine .inr ?_
      rw [hg]
      simp only [hj]
      simp
    cases dst with
    | none => rfl
    | some d' =>
      have : d ≠ d' := fun hh => h d' rfl (hh ▸ hmem)
      simp [put, upd, this]
omit [Go.Ab.Start] in
theorem put_comm {env : Env} {x y : Option Tmp} (v u : Value) (h : ∀ d, x = some d → y ≠ some d) : put (put env x v) y u = put (put env y u) x v := by
  cases x with
  | none => rfl
  | some d =>
    cases y with
    | none => rfl
    | some d' =>
      have hne : d ≠ d' := fun hh => h d rfl (by rw [hh])
      funext t
      simp only [put, upd]
      by_cases h1 : t = d
      · subst h1; simp [hne]
      · simp [h1]
theorem AQuiet.put {oi oj : Oper} (hap : oi.apart ops oj = true) {v u : Value} {env : Env} (h : AQuiet P ops S oi v env) : AQuiet P ops S oi v (Ab.put env oj.dst u) := by
  obtain ⟨_, _, h3⟩ := Oper.apart_spec hap
  unfold AQuiet at h ⊢
  cases hg : oi.guard with
  | none =>
    rw [hg] at h
    intro H K hs hk
    rw [opW_put h3]
    exact h H K hs hk
  | some g =>
    obtain ⟨j, want⟩ := g
    rw [hg] at h
    simp only at h ⊢
    rw [yield_put h3 hg]
    rcases h with h | h
    · exact .inl ⟨h.1, fun H K hs hk => by rw [opW_put h3]; exact h.2 H K hs hk⟩
    · exact .inr h
theorem AQuiet.operW {oi : Oper} {v : Value} {env : Env} (h : AQuiet P ops S oi v env) {H : AHeap} (hs : S H) (hk : K (Ab.put env oi.dst v) H) : operW P ops oi K env H := by
  unfold AQuiet at h
  unfold Ab.operW
  cases hg : oi.guard with
  | none => rw [hg] at h; exact h H _ hs hk
  | some g =>
    obtain ⟨j, want⟩ := g
    rw [hg] at h
    simp only at h ⊢
    rcases h with ⟨h1, h2⟩ | ⟨h1, h2⟩
    · rw [h1]
      exact ⟨fun _ => h2 H _ hs hk, fun hb => absurd rfl hb⟩
    · subst h2
      cases hy : yieldA ops env j with
      | none => exact hk
      | some b =>
        rw [hy] at h1
        exact ⟨fun hb => absurd (by rw [hb]) h1, fun _ => hk⟩
theorem operW_put {oi oj : Oper} (hap : oi.apart ops oj = true) {v : Value} {env : Env} {H : AHeap} (h : operW P ops oj K (put env oi.dst v) H) : operW P ops oj (fun env' H' => K (put env' oi.dst v) H') env H := by
  obtain ⟨h1, h2, _⟩ := Oper.apart_spec hap
  unfold operW at h ⊢
  cases hg : oj.guard with
  | none =>
    rw [hg] at h
    simp only at h ⊢
    rw [opW_put h1] at h
    exact opW_mono (fun u H' q => by rw [← put_comm v u h2]; exact q) h
  | some g =>
    obtain ⟨j, want⟩ := g
    rw [hg] at h
    simp only at h ⊢
    rw [yield_put h1 hg] at h
    split at h
    · refine ⟨fun hw => ?_, fun hw => ?_⟩
      · have := h.1 hw
        rw [opW_put h1] at this
        exact opW_mono (fun u H' q => by rw [← put_comm v u h2]; exact q) this
      · rw [← put_comm v undef h2]; exact h.2 hw
    · rw [← put_comm v undef h2]; exact h
theorem aAny_holds {fuel : Nat} {listed : Array Bool} {env : Env} {H : AHeap} (h : aAny P ops S K fuel listed env H) : S H := by
  cases fuel with
  | zero => exact h.1
  | succ n => exact h.1
theorem operW_mono2 {o : Oper} {K K' : Env → AHeap → Prop} {env : Env} {H : AHeap} (hk : ∀ u H, K (put env o.dst u) H → K' (put env o.dst u) H) (h : operW P ops o K env H) : operW P ops o K' env H := by
  unfold operW at h ⊢
  cases hg : o.guard with
  | none => rw [hg] at h; exact opW_mono (fun _ _ q => hk _ _ q) h
  | some g =>
    obtain ⟨j, want⟩ := g
    rw [hg] at h
    simp only at h ⊢
    split at h
    · exact ⟨fun hb => opW_mono (fun _ _ q => hk _ _ q) (h.1 hb), fun hb => hk _ _ (h.2 hb)⟩
    · exact hk _ _ h
theorem aAny_first {i : Nat} {oi : Oper} {v : Value} (hi : ops[i]? = some oi) : ∀ (fuel : Nat) (listed : Array Bool) (env : Env) (H : AHeap),
      (∀ j oj, ops[j]? = some oj → j ≠ i → listed.getD j true = false → (∀ e ∈ oj.after, Region.binds .any e = true → e.on ≠ i) → oi.apart ops oj = true) →
      i ∈ Region.ready .any ops listed → AQuiet P ops S oi v env → aAny P ops S K fuel (listed.setIfInBounds i true) (put env oi.dst v) H → aAny P ops S K (fuel + 1) listed env H := by
  intro fuel
  induction fuel with
  | zero =>
    intro listed env H _ hr hy h
    refine ⟨h.1, fun h0 => (by rw [h0] at hr; cases hr), fun j hj => ?_⟩
    by_cases hji : j = i
    · subst hji
      unfold aOp
      rw [hi]
      exact hy.operW h.1 h
    · have := ready_mono hj hji
      rw [h.2.1] at this
      cases this
  | succ fuel ih =>
    intro listed env H hfree hr hy h
    refine ⟨h.1, fun h0 => (by rw [h0] at hr; cases hr), fun j hj => ?_⟩
    by_cases hji : j = i
    · subst hji
      unfold aOp
      rw [hi]
      exact hy.operW h.1 h
    · have h1 := h.2.2 j (ready_mono hj hji)
      obtain ⟨hjun, oj, hoj, hall⟩ := mem_ready.1 hj
      have hnot : ∀ e ∈ oj.after, Region.binds .any e = true → e.on ≠ i := fun e he hb heq => by
        have h1 := hall e he hb
        have h0 := (mem_ready.1 hr).1
        rw [heq] at h1
        rcases Nat.lt_or_ge i listed.size with h' | h'
        · simp [h'] at h0 h1; rw [h0] at h1; cases h1
        · simp [Array.getElem?_eq_none h'] at h1
      unfold aOp at h1 ⊢
      rw [hoj] at h1 ⊢
      simp only at h1 ⊢
      have hap := hfree j oj hoj hji hjun hnot
      have hfree' : ∀ k ok, ops[k]? = some ok → k ≠ i → (listed.setIfInBounds j true).getD k true = false →
          (∀ e ∈ ok.after, Region.binds .any e = true → e.on ≠ i) → oi.apart ops ok = true := fun k ok hk hki hun hno => by
        refine hfree k ok hk hki ?_ hno
        by_cases hjk : j = k
        · subst hjk; exact hjun
        · rw [getD_set_ne true hjk] at hun; exact hun
      refine operW_mono2 (fun u H' q => ?_) (operW_put hap h1)
      refine ih (listed.setIfInBounds j true) _ H' hfree' (ready_mono hr (Ne.symm hji)) (hy.put hap) ?_
      rw [Array.setIfInBounds_comm _ _ hji]
      exact q
theorem aAny_take {i : Nat} {oi : Oper} {v : Value} {fuel : Nat} {listed : Array Bool} {env : Env} {H : AHeap} (hi : ops[i]? = some oi) (hf : Region.free .any ops listed i = true) (hr : (Region.ready .any ops listed).contains i = true)
    (hy : AQuiet P ops S oi v env) (h : aAny P ops S K fuel (listed.setIfInBounds i true) (put env oi.dst v) H) : aAny P ops S K (fuel + 1) listed env H :=
  aAny_first hi fuel listed env H (Region.free_spec hi hf) (by simpa using hr) hy h
theorem aAny_only {i : Nat} {oi : Oper} {fuel : Nat} {listed : Array Bool} {env : Env} {H : AHeap} (hr : Region.ready .any ops listed = [i]) (hi : ops[i]? = some oi) (hs : S H)
    (h : operW P ops oi (aAny P ops S K fuel (listed.setIfInBounds i true)) env H) : aAny P ops S K (fuel + 1) listed env H := by
  refine ⟨hs, fun h0 => ?_, fun j hj => ?_⟩
  · rw [hr] at h0; cases h0
  rw [hr] at hj
  have : j = i := by simpa using hj
  subst this
  unfold aOp
  rw [hi]
  exact h
theorem aAny_done {listed : Array Bool} {env : Env} {H : AHeap} (hr : Region.ready .any ops listed = []) (hs : S H) (h : K env H) : ∀ fuel, aAny P ops S K fuel listed env H
  | 0 => ⟨hs, hr, h⟩
  | _ + 1 => ⟨hs, fun _ => h, by rw [hr]; simp⟩

/-! ### The orders, by program: quiet operations first -/
/-- The operations in an order in which they may be taken: 'true': taken first, though others are ready; 'false': none other is ready. -/
def seqA (P : Program) (ops : Array Oper) (S : AHeap → Prop) (K : Env → AHeap → Prop) : List (Nat × Bool) → Env → AHeap → Prop
  | [], env, H => S H ∧ K env H
  | (i, true) :: l, env, H => match ops[i]? with
    | some o => ∃ v, AQuiet P ops S o v env ∧ seqA P ops S K l (put env o.dst v) H
    | none => False
  | (i, false) :: l, env, H => match ops[i]? with
    | some o => S H ∧ operW P ops o (seqA P ops S K l) env H
    | none => False
def seqOk (ops : Array Oper) : List (Nat × Bool) → Nat → Array Bool → Bool
  | [], _, listed => Region.ready .any ops listed == []
  | (i, true) :: l, n + 1, listed => Region.free .any ops listed i && (Region.ready .any ops listed).contains i && seqOk ops l n (listed.setIfInBounds i true)
  | (i, false) :: l, n + 1, listed => (Region.ready .any ops listed == [i]) && seqOk ops l n (listed.setIfInBounds i true)
  | _, 0, _ => false
theorem any_of_seq : ∀ (l : List (Nat × Bool)) (n : Nat) (listed : Array Bool) (env : Env) (H : AHeap), seqOk ops l n listed = true → seqA P ops S K l env H → aAny P ops S K n listed env H
  | [], n, listed, env, H, hok, h => aAny_done (by simpa [seqOk] using hok) h.1 h.2 n
  | (i, true) :: l, n + 1, listed, env, H, hok, h => by
    simp only [seqOk, Bool.and_eq_true] at hok
    unfold seqA at h
    split at h
    · rename_i o ho
      obtain ⟨v, h1, h2⟩ := h
      exact aAny_take ho hok.1.1 hok.1.2 h1 (any_of_seq l n _ _ _ hok.2 h2)
    · exact h.elim
  | (i, false) :: l, n + 1, listed, env, H, hok, h => by
    simp only [seqOk, Bool.and_eq_true, beq_iff_eq] at hok
    unfold seqA at h
    split at h
    · rename_i o ho
      exact aAny_only hok.1 ho h.1 (operW_mono (fun env' H' q => any_of_seq l n _ env' H' hok.2 q) h.2)
    · exact h.elim
  | (i, true) :: l, 0, listed, env, H, hok, h => by simp [seqOk] at hok
  | (i, false) :: l, 0, listed, env, H, hok, h => by simp [seqOk] at hok
theorem ACode.order {id : Nat} {Q : AQ} {env : Env} {H : AHeap} (l : List (Nat × Bool)) (S : AHeap → Prop) (hm : P.follows .mixedOrders = true) (hok : ops.toList.all (okOper N) = true) (hl : seqOk ops l ops.size (Array.replicate ops.size false) = true)
    (h : seqA P ops S (Q .normal) l env H) : ACode P N (.region id ops true) Q env H :=
  ACode.drawn hm hok S (any_of_seq l _ _ env H hl h)
end Go.Ab
namespace Go.Ab
variable [Start]
variable {P : Program} {N : Nat} {Q : AQ} {env : Env} {H : AHeap}
/-- What follows stands behind a variable. -/
theorem ACode.seqK {x y : Code} (h : ∀ R : Env → AHeap → Prop, (∀ env H, ACode P N y Q env H → R env H) → ACode P N x (thenQ R Q) env H) : ACode P N (.seq x y) Q env H :=
  ACode.seq (h _ fun _ _ q => q)
omit [Go.Ab.Start] in
theorem thenQ_normal (K : Env → AHeap → Prop) (Q : AQ) (env : Env) (H : AHeap) : thenQ K Q .normal env H = K env H := rfl
omit [Go.Ab.Start] in
theorem thenQ_exit (K : Env → AHeap → Prop) (Q : AQ) (id : Nat) (env : Env) (H : AHeap) : thenQ K Q (.exit id) env H = Q (.exit id) env H := rfl
omit [Go.Ab.Start] in
theorem thenQ_ret (K : Env → AHeap → Prop) (Q : AQ) (env : Env) (H : AHeap) : thenQ K Q .ret env H = Q .ret env H := rfl
omit [Go.Ab.Start] in
theorem inBlockQ_exit (id id' : Nat) (Q : AQ) (env : Env) (H : AHeap) : inBlockQ id Q (.exit id') env H = if id' = id then Q .normal env H else Q (.exit id') env H := rfl
omit [Go.Ab.Start] in
theorem inBlockQ_normal (id : Nat) (Q : AQ) (env : Env) (H : AHeap) : inBlockQ id Q .normal env H = Q .normal env H := rfl
omit [Go.Ab.Start] in
theorem inBlockQ_ret (id : Nat) (Q : AQ) (env : Env) (H : AHeap) : inBlockQ id Q .ret env H = Q .ret env H := rfl
omit [Go.Ab.Start] in
theorem retQ_ret (rs : List ResultVar) (K : Value → AHeap → Prop) (env : Env) (H : AHeap) : retQ P rs K .ret env H = (match resultsA P rs env H with | some vs => K (handed vs) H | none => False) := rfl
end Go.Ab
