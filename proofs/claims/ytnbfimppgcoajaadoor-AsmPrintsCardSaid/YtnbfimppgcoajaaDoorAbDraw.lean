/-
  A CALCULUS OVER ABSTRACT HEAPS: operations in two kinds: quiet ones (a value, by 'valA') and others; a region in the order of the text ('opsX'), and that a region whose order is drawn may be walked in the order of the text ('draw_sound'), if a closed check ('drawOk') says so.
-/
import Derived.Test.YtnbfimppgcoajaaDoorAbStep
namespace Go.Ab
set_option linter.unusedSimpArgs false
set_option linter.unusedVariables false
set_option linter.unusedSectionVars false
variable [Start]
variable {P : Program} {ops : Array Oper} {K : Env → AHeap → Prop} {N : Nat}

/-- An operation that leaves the heap alone: its value is 'valA'. -/
def quietOp : Op → Bool
  | .move _ | .assign _ | .pick .. | .build .. | .load .. | .nilCheck _ | .binOp .. | .unOp .. | .convert .. | .makeInterface .. | .makeFunc .. | .slice .. | .fieldAddr .. | .field .. | .indexAddr .. | .index .. | .lookup .. | .extract .. => true
  | .call ⟨.builtin .len, _, _⟩ => true
  | _ => false
/-- Of these the ones whose value does not hang on the heap. -/
def heapFree : Op → Bool
  | .move _ | .assign _ | .pick .. | .build .. | .nilCheck _ | .unOp .. | .makeInterface .. | .makeFunc .. | .slice .. | .fieldAddr .. | .field .. | .indexAddr .. | .index .. | .extract .. => true
  | _ => false
omit [Go.Ab.Start] in
theorem heapFree_val {env : Env} {op : Op} (h : heapFree op = true) (H H' : AHeap) : valA P env H op = valA P env H' op := by
  cases op <;> first | rfl | (cases h; done)
def opX (P : Program) (env : Env) (H : AHeap) (K : Value → AHeap → Prop) (op : Op) : Prop :=
  if quietOp op = true then ∃ v, valA P env H op = some v ∧ K v H else opW P env H K op
theorem opX_sound {env : Env} {H : AHeap} {K : Value → AHeap → Prop} {op : Op} (h : opX P env H K op) : opW P env H K op := by
  unfold opX at h
  split at h
  · obtain ⟨v, h1, h2⟩ := h; exact valA_sound h1 h2
  · exact h
theorem opX_mono {env : Env} {H : AHeap} {K K' : Value → AHeap → Prop} {op : Op} (hk : ∀ v H, K v H → K' v H) (h : opX P env H K op) : opX P env H K' op := by
  unfold opX at h ⊢
  split at h
  · rename_i hq
    rw [if_pos hq]
    obtain ⟨v, h1, h2⟩ := h; exact ⟨v, h1, hk _ _ h2⟩
  · rename_i hq
    rw [if_neg hq]
    exact opW_mono hk h
def operX (P : Program) (ops : Array Oper) (o : Oper) (K : Env → AHeap → Prop) (env : Env) (H : AHeap) : Prop :=
  match o.guard with
  | none => opX P env H (fun v H' => K (put env o.dst v) H') o.op
  | some (j, want) => match yieldA ops env j with
    | some b => (b = want → opX P env H (fun v H' => K (put env o.dst v) H') o.op) ∧ (b ≠ want → K (put env o.dst undef) H)
    | none => K (put env o.dst undef) H
def opsX (P : Program) (ops : Array Oper) (K : Env → AHeap → Prop) : List Oper → Env → AHeap → Prop
  | [], env, H => K env H
  | o :: rest, env, H => operX P ops o (opsX P ops K rest) env H
theorem operX_sound {o : Oper} {env : Env} {H : AHeap} (h : operX P ops o K env H) : operW P ops o K env H := by
  unfold operX at h
  unfold operW
  split at h
  · rename_i hg; rw [hg]; exact opX_sound h
  · rename_i j want hg
    rw [hg]
    simp only
    cases hy : yieldA ops env j with
    | none => rw [hy] at h; exact h
    | some b => rw [hy] at h; exact ⟨fun hb => opX_sound (h.1 hb), h.2⟩
theorem opsX_sound : ∀ {l : List Oper} {env : Env} {H : AHeap}, opsX P ops K l env H → opsW P ops K l env H
  | [], _, _, h => h
  | o :: l, _, _, h => operW_mono (fun _ _ q => opsX_sound q) (operX_sound h)

/-! ### Drawn regions -/
def bAny (P : Program) (ops : Array Oper) (S : Array Bool → AHeap → Prop) (K : Env → AHeap → Prop) : Nat → Array Bool → Env → AHeap → Prop
  | 0, listed, env, H => S listed H ∧ Region.ready .any ops listed = [] ∧ K env H
  | fuel + 1, listed, env, H => S listed H ∧ (Region.ready .any ops listed = [] → K env H) ∧ ∀ i ∈ Region.ready .any ops listed, aOp P ops i (bAny P ops S K fuel (listed.setIfInBounds i true)) env H
theorem bAny_aAny {S : Array Bool → AHeap → Prop} : ∀ (n : Nat) (listed : Array Bool) (env : Env) (H : AHeap), bAny P ops S K n listed env H → aAny P ops (fun _ => True) K n listed env H
  | 0, _, _, _, h => ⟨trivial, h.2⟩
  | n + 1, listed, env, H, h => by
    refine ⟨trivial, h.2.1, fun i hi => ?_⟩
    have h1 := h.2.2 i hi
    unfold aOp at h1 ⊢
    cases ho : ops[i]? with
    | none => rw [ho] at h1; exact bAny_aAny n _ _ _ h1
    | some o => rw [ho] at h1; exact operW_mono (fun _ _ q => bAny_aAny n _ _ _ q) h1
def Closed (ops : Array Oper) (L : Array Bool) : Prop := ∀ j oj, ops[j]? = some oj → L.getD j false = true → ∀ e ∈ oj.after, Region.binds .any e = true → L.getD e.on false = true
omit [Go.Ab.Start] in
theorem getD_set_self {L : Array Bool} {j : Nat} (h : j < L.size) (d : Bool) : (L.setIfInBounds j true).getD j d = true := by
  simp [Array.getD, h]
omit [Go.Ab.Start] in
theorem getD_set_true {L : Array Bool} {i j : Nat} (h : L.getD i false = true) : (L.setIfInBounds j true).getD i false = true := by
  by_cases hij : j = i
  · subst hij
    simp only [Array.getD] at h ⊢
    split at h
    · rename_i hl; simp [hl]
    · cases h
  · rw [getD_set_ne false hij]; exact h
omit [Go.Ab.Start] in
theorem Closed.set {L : Array Bool} (hc : Closed ops L) {i : Nat} (hr : i ∈ Region.ready .any ops L) : Closed ops (L.setIfInBounds i true) := by
  intro j oj hj hl e he hb
  refine getD_set_true ?_
  by_cases hij : i = j
  · subst hij
    obtain ⟨_, oj', hoj, hall⟩ := mem_ready.1 hr
    rw [hj] at hoj
    cases hoj
    exact hall e he hb
  · rw [getD_set_ne false hij] at hl
    exact hc j oj hj hl e he hb
theorem bAny_first {S : Array Bool → AHeap → Prop} {i : Nat} {oi : Oper} {v : Value} (hi : ops[i]? = some oi) (hS : ∀ L H, S (L.setIfInBounds i true) H → S L H) : ∀ (fuel : Nat) (listed : Array Bool) (env : Env) (H : AHeap),
      (∀ j oj, ops[j]? = some oj → j ≠ i → listed.getD j true = false → (∀ e ∈ oj.after, Region.binds .any e = true → e.on ≠ i) → oi.apart ops oj = true) →
      i ∈ Region.ready .any ops listed → Closed ops listed → (∀ L, Closed ops L → L.getD i true = false → AQuiet P ops (S L) oi v env) → bAny P ops S K fuel (listed.setIfInBounds i true) (put env oi.dst v) H → bAny P ops S K (fuel + 1) listed env H := by
  intro fuel
  induction fuel with
  | zero =>
    intro listed env H _ hr hc hy h
    have hun := (mem_ready.1 hr).1
    refine ⟨hS _ _ h.1, fun h0 => (by rw [h0] at hr; cases hr), fun j hj => ?_⟩
    by_cases hji : j = i
    · subst hji
      unfold aOp
      rw [hi]
      exact (hy listed hc hun).operW (hS _ _ h.1) h
    · have := ready_mono hj hji
      rw [h.2.1] at this
      cases this
  | succ fuel ih =>
    intro listed env H hfree hr hc hy h
    have hun0 := (mem_ready.1 hr).1
    refine ⟨hS _ _ h.1, fun h0 => (by rw [h0] at hr; cases hr), fun j hj => ?_⟩
    by_cases hji : j = i
    · subst hji
      unfold aOp
      rw [hi]
      exact (hy listed hc hun0).operW (hS _ _ h.1) h
    · have h1 := h.2.2 j (ready_mono hj hji)
      obtain ⟨hjun, oj, hoj, hall⟩ := mem_ready.1 hj
      have hnot : ∀ e ∈ oj.after, Region.binds .any e = true → e.on ≠ i := fun e he hb heq => by
        have h1 := hall e he hb
        rw [heq] at h1
        have h0 := hun0
        rcases Nat.lt_or_ge i listed.size with h' | h'
        · simp [h'] at h0 h1; rw [h0] at h1; cases h1
        · simp [Array.getElem?_eq_none h'] at h1
      unfold aOp at h1 ⊢
      rw [hoj] at h1 ⊢
      simp only at h1 ⊢
      have hap := hfree j oj hoj hji hjun hnot
      have hfree' : ∀ k ok, ops[k]? = some ok → k ≠ i → (listed.setIfInBounds j true).getD k true = false →
          (∀ e ∈ ok.after, Region.binds .any e = true → e.on ≠ i) → oi.apart ops ok = true := fun k ok hk hki hun hno => by
        refine hfree k ok hk hki ?_ hno
        by_cases hjk : j = k
        · subst hjk; exact hjun
        · rw [getD_set_ne true hjk] at hun; exact hun
      refine operW_mono2 (fun u H' q => ?_) (operW_put hap h1)
      refine ih (listed.setIfInBounds j true) _ H' hfree' (ready_mono hr (Ne.symm hji)) (hc.set hj) (fun L hL hLi => (hy L hL hLi).put hap) ?_
      rw [Array.setIfInBounds_comm _ _ hji]
      exact q
theorem bAny_only {S : Array Bool → AHeap → Prop} {i : Nat} {oi : Oper} {fuel : Nat} {listed : Array Bool} {env : Env} {H : AHeap} (hr : Region.ready .any ops listed = [i]) (hi : ops[i]? = some oi) (hs : S listed H)
    (h : operW P ops oi (bAny P ops S K fuel (listed.setIfInBounds i true)) env H) : bAny P ops S K (fuel + 1) listed env H := by
  refine ⟨hs, fun h0 => ?_, fun j hj => ?_⟩
  · rw [hr] at h0; cases h0
  rw [hr] at hj
  have : j = i := by simpa using hj
  subst this
  unfold aOp
  rw [hi]
  exact h
theorem bAny_weaken {S S' : Array Bool → AHeap → Prop} {i : Nat} (hS : ∀ L H, L.getD i false = true → S L H → S' L H) : ∀ (n : Nat) (L : Array Bool) (env : Env) (H : AHeap), L.getD i false = true → bAny P ops S K n L env H → bAny P ops S' K n L env H
  | 0, L, env, H, hl, h => ⟨hS _ _ hl h.1, h.2⟩
  | n + 1, L, env, H, hl, h => by
    refine ⟨hS _ _ hl h.1, h.2.1, fun j hj => ?_⟩
    have h1 := h.2.2 j hj
    unfold aOp at h1 ⊢
    cases ho : ops[j]? with
    | none => rw [ho] at h1; exact bAny_weaken hS n _ _ _ (getD_set_true hl) h1
    | some o => rw [ho] at h1; exact operW_mono (fun _ _ q => bAny_weaken hS n _ _ _ (getD_set_true hl) q) h1

/-! ### What lies new -/
/-- Nothing that lay there has turned. -/
def Grew (H H' : AHeap) : Prop := ∀ j, H j ≠ .none → H' j = H j
omit [Go.Ab.Start] in
theorem Grew.refl (H : AHeap) : Grew H H := fun _ _ => rfl
omit [Go.Ab.Start] in
theorem Grew.trans {H H' H'' : AHeap} (h : Grew H H') (h' : Grew H' H'') : Grew H H'' := fun j hj => by
  have e := h j hj
  rw [h' j (by rw [e]; exact hj), e]
omit [Go.Ab.Start] in
theorem Grew.set {H H' : AHeap} (h : Grew H H') {i : Nat} (o : AObj) (hi : H i = .none) : Grew H (H'.set i o) := fun j hj => by
  have : j ≠ i := fun e => hj (by rw [e, hi])
  rw [AHeap.set_ne _ _ this, h j hj]
def growOp : Op → Bool
  | .alloc _ | .box .. | .buildSlice .. | .makeMap _ none | .makeSlice .. => true
  | _ => false
theorem grow_opW {env : Env} {H : AHeap} {K : Value → AHeap → Prop} {op : Op} (hg : growOp op = true) (h : opW P env H K op) : opW P env H (fun v H' => K v H' ∧ Grew H H') op := by
  cases op with
  | alloc t =>
    simp only [opW] at h ⊢
    split at h
    · exact ⟨h.1, h.2.1, fun i hi => ⟨h.2.2 i hi, (Grew.refl _).set _ hi⟩⟩
    · exact h
  | box t x => exact ⟨h.1, fun i hi => ⟨h.2 i hi, (Grew.refl _).set _ hi⟩⟩
  | buildSlice t n ps =>
    simp only [opW] at h ⊢
    split at h
    · exact ⟨h.1, fun i hi => ⟨h.2 i hi, (Grew.refl _).set _ hi⟩⟩
    · exact h
  | makeMap t x =>
    cases x with
    | none => exact fun i hi => ⟨h i hi, (Grew.refl _).set _ hi⟩
    | some _ => cases hg
  | makeSlice t x y =>
    simp only [opW] at h ⊢
    split at h
    · exact fun i hi => ⟨h i hi, (Grew.refl _).set _ hi⟩
    · exact h
  | _ => cases hg
omit [Go.Ab.Start] in
theorem readA_some {o : AObj} {k : Nat} {n : Option Nat} {v : Value} (h : readA o k n = some v) : o ≠ .none := fun e => by subst e; cases n <;> cases h
omit [Go.Ab.Start] in
theorem valA_grew {env : Env} {H H' : AHeap} {op : Op} {v : Value} (hG : Grew H H') (h : valA P env H op = some v) : valA P env H' op = some v := by
  cases op <;> first | exact h | skip
  case load t x =>
    simp only [valA] at h ⊢
    split at h
    · rename_i n i k h1 h2
      rw [hG i (readA_some h)]; exact h
    · cases h
  case binOp op t x y yt =>
    simp only [valA] at h ⊢
    unfold binV at h ⊢
    have key : ∀ b, eqPtrA P H t (ev env x) (ev env y) = some b → eqPtrA P H' t (ev env x) (ev env y) = some b := by
      intro b hb
      unfold eqPtrA at hb ⊢
      split at hb
      · rename_i e i k j l hu h1 h2
        split at hb
        · rename_i cs ds m hi hj hs
          simp only [hG i (by rw [hi]; simp), hG j (by rw [hj]; simp), hi, hj, hs]
          exact hb
        · cases hb
      · cases hb
    split at h
    · exact h
    · exact h
    · split at h
      · rename_i hp; rw [if_pos hp]; exact h
      · rename_i hp
        rw [if_neg hp]
        split at h
        · split at h
          · exact h
          · cases he : eqPtrA P H t (ev env x) (ev env y) with
            | none => rw [he] at h; cases h
            | some b => rw [he] at h; rw [key b he]; exact h
        · split at h
          · exact h
          · cases he : eqPtrA P H t (ev env x) (ev env y) with
            | none => rw [he] at h; cases h
            | some b => rw [he] at h; rw [key b he]; exact h
        · cases h
  case convert s t x =>
    simp only [valA] at h ⊢
    unfold convV at h ⊢
    split at h
    · exact h
    · unfold convBytesA at h ⊢
      split at h
      · exact h
      · rename_i i k n c hu1 hu2 hu3
        split at h
        · rename_i hb
          simp only [hb, if_true]
          have : H i ≠ .none := fun e => by rw [e] at h; cases h
          rw [hG i this]; exact h
        · cases h
      · cases h
  case lookup t x k ok =>
    simp only [valA] at h ⊢
    split at h
    · rename_i hs
      rw [if_pos hs]
      unfold lookupA at h ⊢
      cases hm : mapTyA P t with
      | none => rw [hm] at h; cases h
      | some m =>
        rw [hm] at h
        simp only [Option.bind_some] at h ⊢
        have : findIn P H' m (ev env x) (ev env k) = findIn P H m (ev env x) (ev env k) := by
          unfold findIn at h ⊢
          split
          · rfl
          · rename_i i hx
            have : H i ≠ .none := fun e => by rw [hx] at h; simp only [e] at h; cases h
            rw [hG i this]
          · rfl
        rw [this]; exact h
    · cases h
  case call c =>
    simp only [valA] at h ⊢
    unfold lenV at h ⊢
    split at h
    · rename_i t x h1 h2 h3
      cases hl : lenA P H t (ev env x) with
      | none => rw [hl] at h; cases h
      | some n =>
        have : lenA P H' t (ev env x) = some n := by
          unfold lenA at hl ⊢
          split at hl
          · exact hl
          · exact hl
          · exact hl
          · rename_i k e i hu hx
            have hne : H i ≠ .none := fun e => by rw [e] at hl; cases hl
            rw [hG i hne]; exact hl
          · cases hl
        rw [this]; rw [hl] at h; exact h
    · cases h
/-! ### The check -/
def deps (ops : Array Oper) (j : Nat) : List Nat := match ops[j]? with
  | some o => (o.after.toList.filter (Region.binds .any)).map (·.on)
  | none => []
/-- Whatever an operation waits for, and what that waits for. -/
def anc (ops : Array Oper) : Nat → List Nat → List Nat
  | 0, need => need
  | j + 1, need => if need.contains j then anc ops j (need ++ deps ops j) else anc ops j need
omit [Go.Ab.Start] in
theorem anc_closed {L : Array Bool} (hc : Closed ops L) : ∀ (j : Nat) (need : List Nat), (∀ x ∈ need, L.getD x false = true) → ∀ x ∈ anc ops j need, L.getD x false = true
  | 0, need, h, x, hx => h x hx
  | j + 1, need, h, x, hx => by
    unfold anc at hx
    split at hx
    · rename_i hn
      refine anc_closed hc j _ (fun y hy => ?_) x hx
      rcases List.mem_append.1 hy with hy | hy
      · exact h y hy
      · unfold deps at hy
        split at hy
        · rename_i o ho
          obtain ⟨e, he, rfl⟩ := List.mem_map.1 hy
          obtain ⟨he1, he2⟩ := List.mem_filter.1 he
          exact hc j o ho (h j (by simpa using hn)) e (by simpa using he1) he2
        · cases hy
    · exact anc_closed hc j _ h x hx
def nextEff : List Oper → Nat → Option Nat
  | [], _ => none
  | o :: l, i => if quietOp o.op || growOp o.op then nextEff l (i + 1) else some i
def drawGo (ops : Array Oper) : List Oper → Nat → Array Bool → Bool
  | [], _, listed => Region.ready .any ops listed == []
  | o :: l, i, listed => (if quietOp o.op then Region.free .any ops listed i && (Region.ready .any ops listed).contains i && (heapFree o.op || match nextEff l (i + 1) with
      | some e => decide (i ≠ e) && (anc ops (e + 1) [e]).contains i
      | none => true)
    else Region.ready .any ops listed == [i] && decide (i < listed.size)) && drawGo ops l (i + 1) (listed.setIfInBounds i true)
def drawOk (ops : Array Oper) : Bool := drawGo ops ops.toList 0 (Array.replicate ops.size false)
def SE (e : Option Nat) (H : AHeap) (L : Array Bool) (H' : AHeap) : Prop := match e with
  | none => Grew H H'
  | some e => L.getD e false = false → Grew H H'
omit [Go.Ab.Start] in
theorem nextEff_ge : ∀ (l : List Oper) (i e : Nat), nextEff l i = some e → i ≤ e
  | [], _, _, h => by cases h
  | o :: l, i, e, h => by
    unfold nextEff at h
    split at h
    · have := nextEff_ge l (i + 1) e h; omega
    · cases h; omega
theorem quiet_val {op : Op} {env : Env} {H : AHeap} {K : Value → AHeap → Prop} (hq : quietOp op = true) (h : opX P env H K op) : ∃ v, valA P env H op = some v ∧ K v H := by
  unfold opX at h; rw [if_pos hq] at h; exact h
theorem any_of_ops : ∀ (l : List Oper) (i : Nat) (listed : Array Bool) (env : Env) (H : AHeap), ops.toList.drop i = l → Closed ops listed → drawGo ops l i listed = true → opsX P ops K l env H → bAny P ops (SE (nextEff l i) H) K l.length listed env H
  | [], i, listed, env, H, _, _, hok, h => ⟨Grew.refl _, by simpa [drawGo] using hok, h⟩
  | o :: l, i, listed, env, H, hl, hc, hok, h => by
    have hio : ops[i]? = some o := by
      have : (ops.toList.drop i)[0]? = some o := by rw [hl]; rfl
      simpa using this
    have hl' : ops.toList.drop (i + 1) = l := by
      have : (ops.toList.drop i).drop 1 = l := by rw [hl]; rfl
      rw [List.drop_drop] at this; exact this
    by_cases hq : quietOp o.op = true
    · unfold drawGo at hok
      rw [if_pos hq] at hok
      simp only [Bool.and_eq_true] at hok
      obtain ⟨⟨⟨hfree, hready⟩, hheap⟩, hrest⟩ := hok
      have hr : i ∈ Region.ready .any ops listed := by simpa using hready
      have hne : nextEff (o :: l) i = nextEff l (i + 1) := by rw [nextEff, if_pos (by rw [hq]; rfl)]
      rw [hne]
      -- the value
      have key : ∃ v, opsX P ops K l (put env o.dst v) H ∧ ∀ L, Closed ops L → L.getD i true = false → AQuiet P ops (SE (nextEff l (i + 1)) H L) o v env := by
        have same : ∀ v, valA P env H o.op = some v → ∀ L, Closed ops L → L.getD i true = false → ∀ H', SE (nextEff l (i + 1)) H L H' → valA P env H' o.op = some v := by
          intro v hv L hL hLi H' hs
          rcases Bool.or_eq_true_iff.1 hheap with hh | hh
          · rw [heapFree_val hh H' H]; exact hv
          · unfold SE at hs
            split at hs
            · exact valA_grew hs hv
            · rename_i e he
              rw [he] at hh
              simp only [Bool.and_eq_true, decide_eq_true_eq] at hh
              have : Grew H H' := hs (by
                cases hLe : L.getD e false with
                | false => rfl
                | true =>
                  exfalso
                  have h1 := anc_closed hL (e + 1) [e] (by intro x hx; rw [List.mem_singleton.1 hx]; exact hLe) i (by simpa using hh.2)
                  simp only [Array.getD] at h1 hLi
                  split at h1
                  · rename_i hlt; simp only [hlt, dite_true] at hLi; rw [hLi] at h1; cases h1
                  · cases h1)
              exact valA_grew this hv
        unfold opsX operX at h
        cases hg : o.guard with
        | none =>
          rw [hg] at h
          obtain ⟨v, hv, hk⟩ := quiet_val hq h
          refine ⟨v, hk, fun L hL hLi => ?_⟩
          unfold AQuiet
          rw [hg]
          exact fun H' K' hs hk' => valA_sound (same v hv L hL hLi H' hs) hk'
        | some g =>
          obtain ⟨j, want⟩ := g
          rw [hg] at h
          simp only at h
          cases hy : yieldA ops env j with
          | none =>
            rw [hy] at h
            refine ⟨undef, h, fun L hL hLi => ?_⟩
            unfold AQuiet
            rw [hg]
            exact .inr ⟨by rw [hy]; simp, rfl⟩
          | some b =>
            rw [hy] at h
            by_cases hb : b = want
            · obtain ⟨v, hv, hk⟩ := quiet_val hq (h.1 hb)
              refine ⟨v, hk, fun L hL hLi => ?_⟩
              unfold AQuiet
              rw [hg]
              exact .inl ⟨by rw [hy, hb], fun H' K' hs hk' => valA_sound (same v hv L hL hLi H' hs) hk'⟩
            · refine ⟨undef, h.2 hb, fun L hL hLi => ?_⟩
              unfold AQuiet
              rw [hg]
              exact .inr ⟨by rw [hy]; simpa using hb, rfl⟩
      obtain ⟨v, hk, hy⟩ := key
      refine bAny_first hio ?_ l.length listed env H (Region.free_spec hio hfree) hr hc hy (any_of_ops l (i + 1) _ _ H hl' (hc.set hr) hrest hk)
      intro L H' hs
      unfold SE at hs ⊢
      split at hs
      · exact hs
      · rename_i e he
        intro hLe
        have : i ≠ e := by have := nextEff_ge _ _ _ he; omega
        exact hs (by rw [getD_set_ne false this]; exact hLe)
    · unfold drawGo at hok
      rw [if_neg hq] at hok
      simp only [Bool.and_eq_true, beq_iff_eq, decide_eq_true_eq] at hok
      obtain ⟨⟨hr, hlt⟩, hrest⟩ := hok
      have hr' : i ∈ Region.ready .any ops listed := by rw [hr]; simp
      unfold opsX at h
      have ih : ∀ env' H', opsX P ops K l env' H' → _ := fun env' H' q => any_of_ops l (i + 1) _ env' H' hl' (hc.set hr') hrest q
      by_cases hg : growOp o.op = true
      · have hne : nextEff (o :: l) i = nextEff l (i + 1) := by rw [nextEff, if_pos (by rw [hg]; simp)]
        rw [hne]
        have hs : SE (nextEff l (i + 1)) H listed H := by
          unfold SE; split
          · exact Grew.refl _
          · exact fun _ => Grew.refl _
        have weak : ∀ env' H', Grew H H' → opsX P ops K l env' H' → bAny P ops (SE (nextEff l (i + 1)) H) K l.length (listed.setIfInBounds i true) env' H' := by
          intro env' H' hG q
          refine bAny_weaken (i := i) ?_ _ _ _ _ (getD_set_self hlt false) (ih env' H' q)
          intro L H2 _ h2
          unfold SE at h2 ⊢
          split at h2
          · exact hG.trans h2
          · exact fun hL => hG.trans (h2 hL)
        refine bAny_only hr hio hs ?_
        have h1 := operX_sound h
        unfold operW at h1 ⊢
        cases hgd : o.guard with
        | none =>
          rw [hgd] at h1
          exact opW_mono (fun v H' q => weak _ _ q.2 q.1) (grow_opW hg h1)
        | some g =>
          obtain ⟨j, want⟩ := g
          rw [hgd] at h1
          simp only at h1 ⊢
          cases hy : yieldA ops env j with
          | none => rw [hy] at h1; exact weak _ _ (Grew.refl _) h1
          | some b =>
            rw [hy] at h1
            exact ⟨fun hb => opW_mono (fun v H' q => weak _ _ q.2 q.1) (grow_opW hg (h1.1 hb)), fun hb => weak _ _ (Grew.refl _) (h1.2 hb)⟩
      · have hne : nextEff (o :: l) i = some i := by
          rw [nextEff, if_neg]
          simp only [Bool.or_eq_true, not_or]; exact ⟨hq, hg⟩
        rw [hne]
        refine bAny_only hr hio (fun _ => Grew.refl _) (operW_mono (fun env' H' q => ?_) (operX_sound h))
        refine bAny_weaken (i := i) ?_ _ _ _ _ (getD_set_self hlt false) (ih env' H' q)
        intro L H2 hLi _ hLi'
        rw [hLi] at hLi'
        cases hLi'
theorem draw_sound {id : Nat} {Q : AQ} {env : Env} {H : AHeap} (hm : P.follows .mixedOrders = true) (hok : ops.toList.all (okOper N) = true) (hd : drawOk ops = true) (h : opsX P ops (Q .normal) ops.toList env H) : ACode P N (.region id ops true) Q env H := by
  refine ACode.drawn hm hok (fun _ => True) ?_
  have hc : Closed ops (Array.replicate ops.size false) := by
    intro j oj _ hl
    simp [Array.getD] at hl
  have := any_of_ops ops.toList 0 (Array.replicate ops.size false) env H rfl hc hd h
  have h2 := bAny_aAny _ _ _ _ this
  simpa using h2
end Go.Ab
