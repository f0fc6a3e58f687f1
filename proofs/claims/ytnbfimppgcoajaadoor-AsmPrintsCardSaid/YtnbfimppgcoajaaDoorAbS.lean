/-
  A CALCULUS OVER ABSTRACT HEAPS: slices that hold a row of cells; append.
-/
import Derived.Test.YtnbfimppgcoajaaDoorAbX
namespace Go.Ab
set_option linter.unusedSimpArgs false
set_option linter.unusedVariables false
set_option linter.unusedSectionVars false
variable [Start]
variable {P : Program} {H : AHeap} {env : Env}
/-- A slice of n elements of 'es' cells each, whose cells are 'cs'; its object (none: nil). -/
def SL (H : AHeap) (es : Nat) (v : Value) (n : Nat) (cs : List Value) : Option Nat → Prop
  | none => v = .slice none 0 0 ∧ n = 0 ∧ cs = []
  | some i => ∃ c ds, v = .slice (some ⟨i, 0, none⟩) n c ∧ H i = .cells (cs ++ ds) ∧ (cs ++ ds).length = c * es ∧ cs.length = n * es ∧ n ≤ c
omit [Go.Ab.Start] in
theorem SL.val {es : Nat} {v : Value} {n : Nat} {cs : List Value} {o : Option Nat} (h : SL H es v n cs o) : ∃ a c, v = .slice a n c := by
  cases o with
  | none => obtain ⟨rfl, rfl, _⟩ := h; exact ⟨_, _, rfl⟩
  | some i => obtain ⟨c, ds, h, _⟩ := h; exact ⟨_, _, h⟩
omit [Go.Ab.Start] in
theorem SL.nil (H : AHeap) (es : Nat) : SL H es (.slice none 0 0) 0 [] none := ⟨rfl, rfl, rfl⟩
omit [Go.Ab.Start] in
theorem SL.len {es : Nat} {v : Value} {n : Nat} {cs : List Value} {o : Option Nat} (h : SL H es v n cs o) : cs.length = n * es := by
  cases o with
  | none => obtain ⟨_, rfl, rfl⟩ := h; simp
  | some i => obtain ⟨c, ds, _, _, _, h, _⟩ := h; exact h
omit [Go.Ab.Start] in
/-- Another heap, in which the object is the same. -/
theorem SL.frame {H' : AHeap} {es : Nat} {v : Value} {n : Nat} {cs : List Value} {o : Option Nat} (h : SL H es v n cs o) (hf : ∀ i, o = some i → H' i = H i) : SL H' es v n cs o := by
  cases o with
  | none => exact h
  | some i => obtain ⟨c, ds, h1, h2, h3⟩ := h; exact ⟨c, ds, h1, by rw [hf i rfl]; exact h2, h3⟩
omit [Go.Ab.Start] in
theorem SL.some_ne {es : Nat} {v : Value} {n : Nat} {cs : List Value} {i : Nat} (h : SL H es v n cs (some i)) : H i ≠ .none := by
  obtain ⟨c, ds, _, h2, _⟩ := h; rw [h2]; simp
omit [Go.Ab.Start] in
theorem SL.grew {H' : AHeap} {es : Nat} {v : Value} {n : Nat} {cs : List Value} {o : Option Nat} (h : SL H es v n cs o) (hg : Grew H H') : SL H' es v n cs o := h.frame fun i e => hg i (by subst e; exact h.some_ne)
omit [Go.Ab.Start] in
theorem putL_append : ∀ (vs cs ds : List Value), vs.length ≤ ds.length → putL (cs ++ ds) cs.length vs = cs ++ vs ++ ds.drop vs.length
  | [], cs, ds, _ => by simp [putL]
  | v :: vs, cs, [], h => by simp at h
  | v :: vs, cs, d :: ds, h => by
    unfold putL
    have e : (cs ++ d :: ds).set cs.length v = (cs ++ [v]) ++ ds := by
      rw [List.set_append_right _ _ (Nat.le_refl _)]; simp
    have l : cs.length + 1 = (cs ++ [v]).length := by simp
    rw [e, l, putL_append vs (cs ++ [v]) ds (by simpa using h)]
    simp
omit [Go.Ab.Start] in
/-- What an append comes to: the slice with more cells; its object the same one, or a new one; nothing else turns. -/
theorem app_go {t xt : TypeId} {s x : Value} {es bytes : Nat} {ety : TypeId} {n m : Nat} {cs news : List Value} {o : Option Nat} {K : Value → AHeap → Prop} (he : elemA P t = some ⟨ety, es, bytes⟩) (hs : SL H es s n cs o) (hn : newsA P H es xt x = some (news, m)) (hl : news.length = m * es) (hm : 0 < m)
    (hb : (n + m) * bytes ≤ 140737488355328) (hb2 : n + m ≤ 9223372036854775807)
    (h : ∀ v' H' i, SL H' es v' (n + m) (cs ++ news) (some i) → (∀ j, H j ≠ .none → o ≠ some j → H' j = H j) → (o = some i ∨ H i = .none) → K v' H') : appendW P t xt s x H K := by
  unfold appendW
  simp only [he, hn]
  cases o with
  | none =>
    obtain ⟨rfl, rfl, rfl⟩ := hs
    simp only
    rw [if_neg (by omega)]
    refine ⟨⟨by simpa using hb, by omega⟩, fun j hj => h _ _ j ⟨m, [], by simp, by simp [AHeap.set_same], by simp [hl], by simp [hl], by omega⟩ (fun k hk _ => AHeap.set_ne _ _ fun e => hk (by rw [e]; exact hj)) (.inr hj)⟩
  | some i =>
    obtain ⟨c, ds, rfl, hH, h1, h2, h3⟩ := hs
    simp only [hH]
    by_cases hc : n + m ≤ c
    · rw [if_pos hc]
      have hle : (n + m) * es ≤ c * es := Nat.mul_le_mul_right _ hc
      have hd : news.length ≤ ds.length := by
        rw [List.length_append] at h1
        rw [Nat.add_mul] at hle
        omega
      refine ⟨by rw [h1]; exact hle, h _ _ i ⟨c, ds.drop news.length, rfl, ?_, ?_, ?_, hc⟩ (fun k hk hki => AHeap.set_ne _ _ fun e => hki (by rw [e])) (.inl rfl)⟩
      · rw [AHeap.set_same, ← h2, putL_append news cs ds hd]
      · simp only [List.length_append, List.length_drop] at h1 ⊢; omega
      · rw [List.length_append, h2, hl, Nat.add_mul]
    · rw [if_neg hc]
      refine ⟨⟨h1, h3, hb, hb2⟩, fun j hj => ?_⟩
      have hji : j ≠ i := fun e => by subst e; rw [hH] at hj; cases hj
      refine h _ _ j ⟨n + m, [], rfl, ?_, ?_, ?_, Nat.le_refl _⟩ (fun k hk hki => ?_) (.inr hj)
      · rw [AHeap.set_same, ← h2]; simp
      · simp only [List.append_nil, List.length_append, h2, hl, Nat.add_mul]
      · simp only [List.length_append, h2, hl, Nat.add_mul]
      · rw [AHeap.set_ne _ _ fun e => hk (by rw [e]; exact hj), AHeap.set_ne _ _ fun e => hki (by rw [e])]
/-- Of a slice that was built since H0. -/
def SN (H0 H : AHeap) (es : Nat) (v : Value) (n : Nat) (cs : List Value) : Prop := ∃ o, SL H es v n cs o ∧ ∀ i, o = some i → H0 i = .none
omit [Go.Ab.Start] in
theorem SN.nil (H0 H : AHeap) (es : Nat) : SN H0 H es (.slice none 0 0) 0 [] := ⟨none, .nil _ _, fun _ h => nomatch h⟩
omit [Go.Ab.Start] in
theorem SN.new {H0 : AHeap} {es : Nat} {v : Value} {n : Nat} {cs : List Value} (h : SN H0 H es v n cs) {i : Nat} (o : AObj) (hi : H i = .none) : SN H0 (H.set i o) es v n cs := by
  obtain ⟨q, h, h'⟩ := h; exact ⟨q, h.grew ((Grew.refl _).set o hi), h'⟩
omit [Go.Ab.Start] in
theorem SN.len {H0 : AHeap} {es : Nat} {v : Value} {n : Nat} {cs : List Value} (h : SN H0 H es v n cs) : cs.length = n * es := by obtain ⟨o, h, _⟩ := h; exact h.len
omit [Go.Ab.Start] in
theorem SN.grew {H0 H' : AHeap} {es : Nat} {v : Value} {n : Nat} {cs : List Value} (h : SN H0 H es v n cs) (hg : Grew H H') : SN H0 H' es v n cs := by
  obtain ⟨o, h, h'⟩ := h; exact ⟨o, h.grew hg, h'⟩
omit [Go.Ab.Start] in
theorem app_sn {t xt : TypeId} {s x : Value} {es bytes : Nat} {ety : TypeId} {n m : Nat} {cs news : List Value} {H0 : AHeap} {K : Value → AHeap → Prop} (he : elemA P t = some ⟨ety, es, bytes⟩) (hg : Grew H0 H) (hs : SN H0 H es s n cs) (hn : newsA P H es xt x = some (news, m)) (hl : news.length = m * es) (hm : 0 < m)
    (hb : (n + m) * bytes ≤ 140737488355328) (hb2 : n + m ≤ 9223372036854775807) (h : ∀ v' H', Grew H0 H' → SN H0 H' es v' (n + m) (cs ++ news) → K v' H') : appendW P t xt s x H K := by
  obtain ⟨o, hs, ho⟩ := hs
  refine app_go he hs hn hl hm hb hb2 fun v' H' i h1 h2 h3 => h v' H' (fun j hj => ?_) ⟨some i, h1, fun k hk => ?_⟩
  · rw [h2 j (by rw [hg j hj]; exact hj) (fun e => hj (ho j e)), hg j hj]
  · cases hk
    rcases h3 with h3 | h3
    · exact ho i h3
    · cases h0 : H0 i with
      | none => rfl
      | _ => have := hg i (by rw [h0]; simp); rw [h3, h0] at this; cases this
/-! ### What may turn -/
def Chg (F : Nat → Prop) (H H' : AHeap) : Prop := ∀ j, H j ≠ .none → ¬ F j → H' j = H j
omit [Go.Ab.Start] in
theorem Chg.refl (F : Nat → Prop) (H : AHeap) : Chg F H H := fun _ _ _ => rfl
omit [Go.Ab.Start] in
theorem Chg.trans {F F' : Nat → Prop} {H H' H'' : AHeap} (h : Chg F H H') (h' : Chg F' H' H'') (hs : ∀ j, F' j → F j ∨ H j = .none) : Chg F H H'' := fun j hj hf => by
  have e := h j hj hf
  rw [h' j (by rw [e]; exact hj) (fun q => (hs j q).elim hf hj), e]
omit [Go.Ab.Start] in
theorem Chg.same {F : Nat → Prop} {H H' H'' : AHeap} (h : Chg F H H') (h' : Chg F H' H'') : Chg F H H'' := h.trans h' fun _ q => .inl q
omit [Go.Ab.Start] in
theorem Chg.set {F : Nat → Prop} {H H' : AHeap} (h : Chg F H H') {i : Nat} (o : AObj) (hi : F i ∨ H i = .none) : Chg F H (H'.set i o) := fun j hj hf => by
  rw [AHeap.set_ne _ _ fun e => by subst e; exact hi.elim hf hj]; exact h j hj hf
omit [Go.Ab.Start] in
theorem Chg.grew {F : Nat → Prop} {H H' H'' : AHeap} (h : Chg F H H') (g : Grew H' H'') : Chg F H H'' := fun j hj hf => by
  have e := h j hj hf
  rw [g j (by rw [e]; exact hj), e]
omit [Go.Ab.Start] in
theorem Grew.chg {H H' : AHeap} (g : Grew H H') (F : Nat → Prop) : Chg F H H' := fun j hj _ => g j hj
omit [Go.Ab.Start] in
theorem Chg.none {F : Nat → Prop} {H H' : AHeap} (h : Chg F H H') {i : Nat} (hi : H' i = .none) : F i ∨ H i = .none := by
  by_cases hf : F i
  · exact .inl hf
  · cases h0 : H i with
    | none => exact .inr rfl
    | _ => have := h i (by rw [h0]; simp) hf; rw [hi, h0] at this; cases this
omit [Go.Ab.Start] in
theorem Chg.new {F : Nat → Prop} {H H' : AHeap} (h : Chg F H H') {i : Nat} (o : AObj) (hi : H' i = .none) : Chg F H (H'.set i o) := h.set o (h.none hi)
omit [Go.Ab.Start] in
theorem Chg.app {F : Nat → Prop} {H H' H'' : AHeap} {o : Option Nat} (h : Chg F H H') (hf : ∀ j, H' j ≠ .none → o ≠ some j → H'' j = H' j) (ho : ∀ j, o = some j → F j) : Chg F H H'' := fun j hj hF => by
  have e := h j hj hF
  rw [hf j (by rw [e]; exact hj) (fun q => hF (ho j q)), e]
omit [Go.Ab.Start] in
theorem Chg.wide {F F' : Nat → Prop} {H H' : AHeap} (h : Chg F H H') (hs : ∀ j, F j → F' j) : Chg F' H H' := fun j hj hf => h j hj fun q => hf (hs j q)
omit [Go.Ab.Start] in
/-- A row of elements. -/
theorem flat_get {α : Type} (enc : α → List Value) (es : Nat) (hes : ∀ x, (enc x).length = es) (d : α) (ds : List Value) : ∀ (xs : List α) (k j : Nat), k < xs.length → j < es → (xs.flatMap enc ++ ds)[k * es + j]? = (enc (xs.getD k d))[j]?
  | [], k, j, h, _ => by simp at h
  | x :: xs, 0, j, _, hj => by
    rw [List.flatMap_cons, List.append_assoc, Nat.zero_mul, Nat.zero_add, List.getElem?_append_left (by rw [hes]; exact hj)]; rfl
  | x :: xs, k + 1, j, h, hj => by
    rw [List.flatMap_cons, List.append_assoc, List.getElem?_append_right (by rw [hes, Nat.add_mul]; omega), hes, Nat.add_mul, Nat.one_mul]
    have : k * es + es + j - es = k * es + j := by omega
    rw [this, flat_get enc es hes d ds xs k j (by simpa using h) hj]; rfl
omit [Go.Ab.Start] in
theorem flat_len {α : Type} (enc : α → List Value) (es : Nat) (hes : ∀ x, (enc x).length = es) : ∀ (xs : List α), (xs.flatMap enc).length = xs.length * es
  | [] => by simp
  | x :: xs => by rw [List.flatMap_cons, List.length_append, hes, flat_len enc es hes xs, List.length_cons, Nat.add_mul]; omega
omit [Go.Ab.Start] in
theorem flat_take {α : Type} (enc : α → List Value) (es : Nat) (hes : ∀ x, (enc x).length = es) (d : α) (ds : List Value) (xs : List α) (k : Nat) (h : k < xs.length) : ((xs.flatMap enc ++ ds).drop (k * es)).take es = enc (xs.getD k d) := by
  apply List.ext_getElem?
  intro j
  by_cases hj : j < es
  · rw [List.getElem?_take_of_lt hj, List.getElem?_drop, flat_get enc es hes d ds xs k j h hj]
  · rw [List.getElem?_eq_none (by rw [List.length_take]; omega), List.getElem?_eq_none (by rw [hes]; omega)]
omit [Go.Ab.Start] in
theorem flat_read {α : Type} {enc : α → List Value} {es : Nat} (hes : ∀ x, (enc x).length = es) (d : α) {ds : List Value} {xs : List α} {k : Nat} (h : k < xs.length) : readA (.cells (xs.flatMap enc ++ ds)) (k * es) (some es) = some (.agg (List.toArray (enc (xs.getD k d)))) := by
  have hl := flat_len enc es hes xs
  have h2 : (k + 1) * es ≤ xs.length * es := Nat.mul_le_mul_right _ h
  rw [Nat.add_mul] at h2
  rw [read_agg (by rw [List.length_append, hl]; omega), flat_take enc es hes d ds xs k h]
omit [Go.Ab.Start] in
theorem flat_read_ro {α : Type} {enc : α → List Value} {es : Nat} (hes : ∀ x, (enc x).length = es) (d : α) {ds : List Value} {xs : List α} {k : Nat} (h : k < xs.length) : readA (.ro (xs.flatMap enc ++ ds)) (k * es) (some es) = some (.agg (List.toArray (enc (xs.getD k d)))) := flat_read hes d h
omit [Go.Ab.Start] in
theorem flat_cell {α : Type} {enc : α → List Value} {es : Nat} (hes : ∀ x, (enc x).length = es) (d : α) {ds : List Value} {xs : List α} {k j : Nat} (h : k < xs.length) (hj : j < es) : readA (.cells (xs.flatMap enc ++ ds)) (k * es + j) none = (enc (xs.getD k d))[j]? := flat_get enc es hes d ds xs k j h hj
omit [Go.Ab.Start] in
/-- One element that was just built. -/
theorem news_one {es : Nat} {xt ex : TypeId} {i c : Nat} {cs : List Value} (hx : P.underlying xt = some (.slice ex)) (hH : H i = .cells cs) (hc : cs.length = 1 * es) : newsA P H es xt (.slice (some ⟨i, 0, none⟩) 1 c) = some (cs, 1) := by
  unfold newsA
  simp only [hx, hH, cellsOf, Option.bind_some]
  rw [if_pos (by omega)]
  simp [← hc]
end Go.Ab
