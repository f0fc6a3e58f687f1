/-
  PROVED: the tied card of AsmJoins: whatever the two codes, the call returns true and the arguments read as they did; the listed variables are tied to the program's text (the given tie).
-/
import Derived.Test.YtnbfimppgcoajaaDoorPHD
import Derived.Test.YtnbfimppgcoajaaDoorPHO
import Derived.Test.YtnbfimppgcoajaaDoorTie
import Derived.Test.YtnbfimppgcoajaaDoorCards
import Derived.ProofKit
import Derived.ChangeMaps5
import Derived.Lay
import Derived.LaidHandle
import Derived.LaidOnce
import Derived.SevenTiedAt
import Derived.Carry
import Derived.SizedLaws
namespace Go.Proofs.YtnbfimppgcoajaaDoor
set_option linter.unusedSimpArgs false
set_option linter.unusedVariables false
set_option linter.unusedSectionVars false
open Go Go.ChangeShapes Go.WideShapes Go.ChangeAt Go.RowKit Go.ChangeMaps
theorem laid2 : laidOutB Tryd.prog = true := by kernel_rfl
theorem own2 : ownKnob Tryd.prog.godebug = none := by kernel_rfl
def errV : Value := .iface 119 (.agg #[.pointer (some ⟨4, 28, none⟩)])
/-- The start at which errors.errorType is laid. -/
@[reducible] def errStart : StartErr where
  good := fun base w => 0 < base ∧ w.cell? ⟨0, 0, none⟩ = some errV
  err := fun _ _ h => h
theorem errNamed : Tryd.prog.globalNamed "errors.errorType" = some 0 := by kernel_rfl
theorem errRt : (Tryd.prog.cutTypes.find? (·.1 == "internal/reflectlite.rtype")).map (·.2) = some 119 := by kernel_rfl
theorem errOne : ((List.range 179).filter fun t => Tryd.prog.rowNamed t [101, 114, 114, 111, 114]) = [28] := by kernel_rfl
theorem errSize : Tryd.prog.types.size = 179 := by kernel_rfl
theorem err_handle {W : World} (h : handlesMet Tryd.prog [("errors.errorType", Rows.laid_errors_errorType)] W) : W.cell? ⟨0, 0, none⟩ = some errV := by
  obtain ⟨name, u, ty, e1, e2, e3, e4, e5⟩ := h _ (List.mem_singleton.2 rfl)
  have en : name = [101, 114, 114, 111, 114] := (Option.some.inj e1).symm
  subst en
  obtain rfl := Option.some.inj (errRt.symm.trans e2)
  have hm : ty ∈ (List.range 179).filter fun t => Tryd.prog.rowNamed t [101, 114, 114, 111, 114] := List.mem_filter.2 ⟨List.mem_range.2 (by rw [← errSize]; exact e3), e4⟩
  rw [errOne] at hm
  obtain rfl := List.mem_singleton.1 hm
  have hh : typeHandle Tryd.prog 28 = .pointer (some ⟨4, 28, none⟩) := by kernel_rfl
  rw [hh] at e5
  simpa [errV] using World.var?_cell errNamed e5 0
theorem cell_lt {W : World} {v : Value} (h : W.cell? ⟨0, 0, none⟩ = some v) : 0 < W.heap.size := by
  rcases Nat.eq_zero_or_pos W.heap.size with h0 | h1
  · simp [World.cell?, h0] at h
  · exact h1
def dataLaid : List (String × DataW Unit) := [("unicode/utf8.acceptRanges", Rows.laid_unicode_utf8_acceptRanges), ("unicode/utf8.first", Rows.laid_unicode_utf8_first)]
noncomputable def errWorld0 (os : Os) : World :=
  let w0 := World.holding Tryd.prog os ⟨#[], #[], []⟩
  { w0 with heap := w0.heap.modify 0 fun
      | .cells _ t frozen => .cells #[errV] t frozen
      | o => o }
/-- A world in which the listed variables are laid. -/
noncomputable def errWorld (os : Os) : World := (errWorld0 os).layVars Tryd.prog dataLaid
theorem errWorld_os (os : Os) : (errWorld os).os = os := World.layVars_os _ _ _
theorem errWorld_met (os : Os) (args : Array Value) : laidMetH Tryd.prog Rows.asmJoinsRow.laid ((errWorld os).forCall (fun _ _ => 0) ⟨#[], args, []⟩).memory := by
  refine laidMetH_of_parts ?_ (by kernel_rfl)
  have e0 : (Rows.asmJoinsRow.laid.filter fun x => x.2.handleName?.isNone) = dataLaid := by rfl
  rw [e0]
  have e1 : (dataLaid.filter fun x => (dataLaid.map (·.1)).contains x.1) = dataLaid := List.filter_eq_self.2 fun x hx => List.contains_iff_mem.2 (List.mem_map.2 ⟨x, hx, rfl⟩)
  have e2 : (dataLaid.filter fun x => !(dataLaid.map (·.1)).contains x.1) = [] := List.filter_eq_nil_iff.2 fun x hx => by rw [List.contains_iff_mem.2 (List.mem_map.2 ⟨x, hx, rfl⟩)]; simp
  have h : laidMet Tryd.prog dataLaid (errWorld os) := laidMet_layVars (w0 := errWorld0 os) (dataLaid.map (·.1)) [] (by rw [e1]; rfl) (by rw [e1]; kernel_rfl) (by rw [e1]; kernel_rfl) (by rw [e2]; exact LaidIn.none)
  exact h.of_heap (by simp [World.memory, World.forCall, Input.heap])
/-- An argument that is only read: what it is in the calculus, and where it lies. -/
structure ArgIn (W : World) (i : Nat) (v : Value) (l : List AsmM.Ins) (x : Value) (L : Option (Go.Ab.Ent × List Value)) : Prop where
  vr : ∀ φ : Go.Ab.Emb, (∀ p, L = some p → φ i = some p.1) → Go.Ab.VR φ x v
  row : ∀ p, L = some p → Go.Ab.RowAt W p.1 p.2
  sl : ∀ H : Go.Ab.AHeap, (∀ p, L = some p → H i = .ro p.2) → ∃ o, SLr H 7 x l.length (l.flatMap encI) o
  ok : vOk l
set_option maxRecDepth 100000 in
theorem arg_in {H : Type} {v : Value} {d : DataW H} {ps : List MemPlace} {W : World} {base : Nat} {enc : TypeId × Value → H} (i : Nat) (hval : Value.okWide Tryd.prog W .any base 25 v) (hd : DataW.Trod enc Tryd.prog W 0 (fun _ => true) true 25 v d ps) :
    ∃ l x L, ArgIn W i v l x L := by
  rcases open_ins hval hd with ⟨rfl, _⟩ | ⟨a, c, l, es, sps, rfl, rfl, hel, hlc, hv, hsp, hrow⟩
  · exact ⟨[], .slice none 0 0, none, ⟨fun φ _ => Go.Ab.VR.of_plain _ rfl, fun _ h => (by cases h), fun H _ => ⟨none, 0, rfl, rfl, rfl⟩, fun _ h => (by cases h)⟩⟩
  · obtain ⟨blk, off, spot⟩ := a
    simp only at hsp hrow
    subst hsp
    exact ⟨l, .slice (some ⟨i, 0, none⟩) l.length c, some (⟨blk, off, l.length * 7, l.length * 7⟩, l.flatMap encI), ⟨fun φ h => Go.Ab.VR.slice (e := ⟨blk, off, l.length * 7, l.length * 7⟩) (h _ rfl) (.inl rfl), fun p h => (by cases h; exact hrow),
      fun H h => ⟨some i, c, [], rfl, by rw [h _ rfl, List.append_nil]; rfl, Go.Ab.flat_len encI 7 (fun _ => rfl) l⟩, hv⟩⟩
def noRow : Go.Ab.Ent × List Value := (⟨0, 0, 0, 0⟩, [])
theorem cell_blk {W : World} {v : Value} (h : W.cell? ⟨0, 0, none⟩ = some v) : ∃ C t fr, W.heap[0]? = some (.cells C t fr) := by
  unfold World.cell? at h
  split at h
  · rename_i C t fr hb; exact ⟨C, t, fr, hb⟩
  · cases h
theorem no_row {W : World} {v : Value} (h : W.cell? ⟨0, 0, none⟩ = some v) : Go.Ab.RowAt W noRow.1 noRow.2 := ⟨rfl, cell_blk h, fun k v hk => by simp [noRow] at hk⟩
set_option maxRecDepth 100000 in
theorem joins_true {H : Type} {v1 v2 : Value} {d1 d2 : DataW H} {ps1 ps2 : List MemPlace} {W : World} {base : Nat} {enc : TypeId × Value → H} (hc : W.cell? ⟨0, 0, none⟩ = some errV) (hval1 : Value.okWide Tryd.prog W .any base 25 v1) (hd1 : DataW.Trod enc Tryd.prog W 0 (fun _ => true) true 25 v1 d1 ps1)
    (hval2 : Value.okWide Tryd.prog W .any base 25 v2) (hd2 : DataW.Trod enc Tryd.prog W 0 (fun _ => true) true 25 v2 d2 ps2) :
    Calls Tryd.prog 5 #[v1, v2] W fun e w' => e = .returned (.bool true) ∧ Go.Ab.IoSame W w' ∧ W.heap.size ≤ w'.heap.size ∧ ∀ b, b < W.heap.size → w'.heap[b]? = W.heap[b]? := by
  letI : StartErr := errStart
  have he : Go.Ab.Enter Tryd.prog 5 := ⟨_, Tryd.func5, by kernel_rfl, by kernel_rfl⟩
  obtain ⟨l1, x1, L1, A1⟩ := arg_in 0 hval1 hd1
  obtain ⟨l2, x2, L2, A2⟩ := arg_in 1 hval2 hd2
  obtain ⟨o1, s1⟩ := A1.sl (Go.Ab.roH [L1.getD noRow, L2.getD noRow]) (fun p h => by rw [h]; rfl)
  obtain ⟨o2, s2⟩ := A2.sl (Go.Ab.roH [L1.getD noRow, L2.getD noRow]) (fun p h => by rw [h]; rfl)
  refine Go.Ab.law_calls_ro (L := [L1.getD noRow, L2.getD noRow]) (args := [x1, x2]) (cargs := [v1, v2]) he ⟨cell_lt hc, hc⟩ (fun p hp => ?_) ⟨rfl, fun i h h' => ?_⟩
    (joins5 _ _ l1 l2 o1 o2 _ s1 s2 A1.ok A2.ok _ fun _ _ => rfl)
  · rcases List.mem_cons.1 hp with rfl | hp
    · cases hL : L1 with
      | none => exact no_row hc
      | some q => exact A1.row q hL
    · obtain rfl := List.mem_singleton.1 hp
      cases hL : L2 with
      | none => exact no_row hc
      | some q => exact A2.row q hL
  · have h2 : i < 2 := by simpa using h
    rcases (show i = 0 ∨ i = 1 by omega) with rfl | rfl
    · exact A1.vr _ fun p hp => by rw [hp]; rfl
    · exact A2.vr _ fun p hp => by rw [hp]; rfl
theorem below_of {W W' : World} (hh : ∀ b, b < W.heap.size → W'.heap[b]? = W.heap[b]?) (hs : W.heap.size ≤ W'.heap.size) : Below W.heap.size W { W with heap := W'.heap } := ⟨rfl, rfl, rfl, hs, hh⟩
set_option maxRecDepth 100000 in
theorem joins_lifted (os : Os) (started : os.Started) (H : Type) (enc : TypeId × Value → H) :
    ReturnsInHanded {} Tryd.checked os 5 .any (fun w args => (Rows.asmJoinsSpec.pre enc Tryd.prog Tryd.f5 [] false w args ∧ laidMetH Tryd.prog Rows.asmJoinsRow.laid w) ∧ sizedMet enc Tryd.prog Tryd.f5 (OpenSpec.ofChange Rows.asmJoinsSpec) false w args)
      (Rows.asmJoinsSpec.post enc Tryd.prog Tryd.f5 false true false false) := by
  refine returnsInHanded_of_change_and (C := Tryd.checked) (X := fun w _ => laidMetH Tryd.prog Rows.asmJoinsRow.laid w) (fun _ _ _ hh h => h.of_heap hh) own2 started (by kernel_rfl) Tryd.func5
    (ChangeSpec.witness_shaped (enc := enc) (C := Tryd.checked) (os := os) (X := fun w _ => laidMetH Tryd.prog Rows.asmJoinsRow.laid w) false (errWorld os) #[.slice none 0 0, .slice none 0 0] 8 (errWorld_os _)
      (World.shaped_of_ZipB (by kernel_rfl) (by kernel_rfl)) (by kernel_rfl) (by kernel_rfl) (by kernel_rfl) (errWorld_met os _)) ?_
  intro W base args ds gs before hval0 hW _ hsz hL _
  have hval : ∀ (j : Nat) t v, Tryd.f5.params[j]? = some t → args[j]? = some v → Value.okWide Tryd.prog W .any base t v := hval0
  have hW' := hW
  obtain ⟨p, q, hA0, hV, rfl, _, _⟩ := hW
  have hA : DataW.TrodAll enc Tryd.prog W 0 (fun _ => true) true Tryd.f5.params.toList args.toList ds p := hA0
  rw [Tryd.params5] at hA hval
  obtain ⟨v0, v1, d0, d1, p0, p1, rfl, rfl, rfl, h0, h1⟩ := trodAll_two hA
  obtain ⟨rfl, rfl⟩ := trodVars_none hV
  simp only [List.append_nil] at hW'
  have hL' : laidMet Tryd.prog dataLaid W ∧ handlesMet Tryd.prog [("errors.errorType", Rows.laid_errors_errorType)] W := hL
  have hlt : ∀ x ∈ p0 ++ p1, x.block < W.heap.size := fun x hx => hA.lt x hx
  refine (joins_true (err_handle hL'.2) (hval 0 25 v0 rfl rfl) h0 (hval 1 25 v1 rfl rfl) h1).mono fun e W' ⟨he, hio, hs, hb⟩ => ?_
  subst he
  have hd0 := DataW.Trod.of_heap (w := { W with heap := W'.heap }) (w' := W') rfl (Below.trod laid2 (by kernel_rfl) (of_decide_eq_true (by kernel_rfl)) h0 (below_of hb hs) fun x hx => hlt x (List.mem_append_left _ hx))
  have hd1 := DataW.Trod.of_heap (w := { W with heap := W'.heap }) (w' := W') rfl (Below.trod laid2 (by kernel_rfl) (of_decide_eq_true (by kernel_rfl)) h1 (below_of hb hs) fun x hx => hlt x (List.mem_append_right _ hx))
  exact ⟨_, rfl, _, _, _, [], _, [], hW', trodAll_mk1 (shut_bool Tryd.underlying4 _), trodAll_mk2 hd0 hd1, rfl, Go.Ab.kept_of hio hb _, fun h => by cases h⟩
theorem joins_holds : Rows.AsmJoinsSaid :=
  OpenClaim.holds_of_wide 5 Tryd.f5 rfl rfl rfl rfl rfl rfl rfl ⟨rfl, rfl, rfl, rfl, rfl⟩ rfl rfl rfl rfl rfl (by kernel_rfl) Tryd.func5 (by kernel_rfl)
    (of_decide_eq_true (by kernel_rfl)) (by unfold Func.isWrapper; first | (rw [if_pos (by decide +kernel)]; kernel_rfl) | (rw [if_neg (by decide +kernel)]; exact ⟨rfl, rfl⟩))
    (fun os started H enc _ => joins_lifted os started H enc)
theorem asmJoins_proved : Rows.AsmJoinsCardSaid :=
  Claim7.holds_tied_plain_at .later [] [.data, .handle, .pinned] true (true, "c08200f95f7856d9ce5d9836616d241a8489ad15d19ebedaea16ed19b9cfcb61") true joins_holds (fun _ h => by cases h) (by kernel_rfl) (fun _ h => by cases h) asmJoins_row_tie rfl ⟨rfl, rfl⟩ (by kernel_rfl) rfl
    (fun f fn hf hfn => by
      obtain rfl : f = 5 := Option.some.inj ((show Tryd.prog.funcNamed "distaff/distafflaw05.AsmJoins" = some 5 by kernel_rfl).symm.trans hf) |>.symm
      obtain rfl : fn = Tryd.f5 := (Option.some.inj (Tryd.func5.symm.trans hfn)).symm
      exact ⟨by kernel_rfl, fun j t ht => by
        rw [Tryd.params5] at ht
        have hm : t ∈ [25] := by
          have h2 : t ∈ [25, 25] := by simpa using Array.mem_of_getElem? ht
          simpa using h2
        have hall : ([25].all fun u => !Tryd.prog.wantsStandIn u) = true := by kernel_rfl
        exact (show Tryd.prog.wantsStandIn t = false by simpa using List.all_eq_true.1 hall t hm)⟩)
    (by kernel_rfl)
#print axioms asmJoins_proved
end Go.Proofs.YtnbfimppgcoajaaDoor
