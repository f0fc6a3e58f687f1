/-
  PROVED: the tied card of AsmPrints: whatever the instructions, the call returns true and the argument reads as it did; the listed variables are tied to the program's text (the given tie).
-/
import Derived.Test.YtnbfimppgcoajaaDoorPHL
import Derived.Test.YtnbfimppgcoajaaDoorPHO
import Derived.Test.YtnbfimppgcoajaaDoorTie
import Derived.Test.YtnbfimppgcoajaaDoorCards
import Derived.ProofKit
import Derived.ChangeMaps5
import Derived.Lay
import Derived.LaidHandle
import Derived.LaidOnce
import Derived.SevenTiedAt
import Derived.Carry
import Derived.SizedLaws
namespace Go.Proofs.YtnbfimppgcoajaaDoor
set_option linter.unusedSimpArgs false
set_option linter.unusedVariables false
set_option linter.unusedSectionVars false
open Go Go.ChangeShapes Go.WideShapes Go.ChangeAt Go.RowKit Go.ChangeMaps
theorem laid2 : laidOutB Tryd.prog = true := by kernel_rfl
theorem own2 : ownKnob Tryd.prog.godebug = none := by kernel_rfl
def errV : Value := .iface 119 (.agg #[.pointer (some ⟨4, 28, none⟩)])
/-- The start at which errors.errorType is laid. -/
@[reducible] def errStart : StartErr where
  good := fun base w => 0 < base ∧ w.cell? ⟨0, 0, none⟩ = some errV
  err := fun _ _ h => h
theorem errNamed : Tryd.prog.globalNamed "errors.errorType" = some 0 := by kernel_rfl
theorem errRt : (Tryd.prog.cutTypes.find? (·.1 == "internal/reflectlite.rtype")).map (·.2) = some 119 := by kernel_rfl
theorem errOne : ((List.range 179).filter fun t => Tryd.prog.rowNamed t [101, 114, 114, 111, 114]) = [28] := by kernel_rfl
theorem errSize : Tryd.prog.types.size = 179 := by kernel_rfl
theorem err_handle {W : World} (h : handlesMet Tryd.prog [("errors.errorType", Rows.laid_errors_errorType)] W) : W.cell? ⟨0, 0, none⟩ = some errV := by
  obtain ⟨name, u, ty, e1, e2, e3, e4, e5⟩ := h _ (List.mem_singleton.2 rfl)
  have en : name = [101, 114, 114, 111, 114] := (Option.some.inj e1).symm
  subst en
  obtain rfl := Option.some.inj (errRt.symm.trans e2)
  have hm : ty ∈ (List.range 179).filter fun t => Tryd.prog.rowNamed t [101, 114, 114, 111, 114] := List.mem_filter.2 ⟨List.mem_range.2 (by rw [← errSize]; exact e3), e4⟩
  rw [errOne] at hm
  obtain rfl := List.mem_singleton.1 hm
  have hh : typeHandle Tryd.prog 28 = .pointer (some ⟨4, 28, none⟩) := by kernel_rfl
  rw [hh] at e5
  simpa [errV] using World.var?_cell errNamed e5 0
theorem cell_lt {W : World} {v : Value} (h : W.cell? ⟨0, 0, none⟩ = some v) : 0 < W.heap.size := by
  rcases Nat.eq_zero_or_pos W.heap.size with h0 | h1
  · simp [World.cell?, h0] at h
  · exact h1
def dataLaid : List (String × DataW Unit) := [("unicode/utf8.acceptRanges", Rows.laid_unicode_utf8_acceptRanges), ("unicode/utf8.first", Rows.laid_unicode_utf8_first)]
noncomputable def errWorld0 (os : Os) : World :=
  let w0 := World.holding Tryd.prog os ⟨#[], #[], []⟩
  { w0 with heap := w0.heap.modify 0 fun
      | .cells _ t frozen => .cells #[errV] t frozen
      | o => o }
/-- A world in which the listed variables are laid. -/
noncomputable def errWorld (os : Os) : World := (errWorld0 os).layVars Tryd.prog dataLaid
theorem errWorld_os (os : Os) : (errWorld os).os = os := World.layVars_os _ _ _
theorem errWorld_met (os : Os) (args : Array Value) : laidMetH Tryd.prog Rows.asmPrintsRow.laid ((errWorld os).forCall (fun _ _ => 0) ⟨#[], args, []⟩).memory := by
  refine laidMetH_of_parts ?_ (by kernel_rfl)
  have e0 : (Rows.asmPrintsRow.laid.filter fun x => x.2.handleName?.isNone) = dataLaid := by rfl
  rw [e0]
  have e1 : (dataLaid.filter fun x => (dataLaid.map (·.1)).contains x.1) = dataLaid := List.filter_eq_self.2 fun x hx => List.contains_iff_mem.2 (List.mem_map.2 ⟨x, hx, rfl⟩)
  have e2 : (dataLaid.filter fun x => !(dataLaid.map (·.1)).contains x.1) = [] := List.filter_eq_nil_iff.2 fun x hx => by rw [List.contains_iff_mem.2 (List.mem_map.2 ⟨x, hx, rfl⟩)]; simp
  have h : laidMet Tryd.prog dataLaid (errWorld os) := laidMet_layVars (w0 := errWorld0 os) (dataLaid.map (·.1)) [] (by rw [e1]; rfl) (by rw [e1]; kernel_rfl) (by rw [e1]; kernel_rfl) (by rw [e2]; exact LaidIn.none)
  exact h.of_heap (by simp [World.memory, World.forCall, Input.heap])
theorem vr_nil (φ : Go.Ab.Emb) : Go.Ab.ArrR φ #[.slice none 0 0] #[.slice none 0 0] := ⟨rfl, fun i h h' => Go.Ab.VR.of_plain _ (by
  have : i = 0 := by simpa using h
  subst this; rfl)⟩
theorem prints_nil [Go.Proofs.StartErr] (H0 : Go.Ab.AHeap) : Go.Ab.ACalls Tryd.prog 7 #[.slice none 0 0] H0 fun v _ => v = .bool true :=
  prints7 _ [] none _ ⟨0, rfl, rfl, rfl⟩ (fun _ h => by cases h) (by rw [List.length_nil]; omega) _ fun _ _ => rfl
set_option maxRecDepth 100000 in
theorem prints_true {H : Type} {v : Value} {d : DataW H} {ps : List MemPlace} {W : World} {base : Nat} {enc : TypeId × Value → H} (hc : W.cell? ⟨0, 0, none⟩ = some errV) (hval : Value.okWide Tryd.prog W .any base 25 v) (hd : DataW.Trod enc Tryd.prog W 0 (fun _ => true) true 25 v d ps)
    (hsz : ∀ es sps, d = .slice es sps → (es.length + sps.length) * 56 ≤ reachBytes) :
    Calls Tryd.prog 7 #[v] W fun e w' => e = .returned (.bool true) ∧ Go.Ab.IoSame W w' ∧ W.heap.size ≤ w'.heap.size ∧ ∀ b, b < W.heap.size → w'.heap[b]? = W.heap[b]? := by
  letI : StartErr := errStart
  have he : Go.Ab.Enter Tryd.prog 7 := ⟨_, Tryd.func7, by kernel_rfl, by kernel_rfl⟩
  rcases open_ins hval hd with ⟨rfl, _⟩ | ⟨a, c, l, es, sps, rfl, rfl, hel, hlc, hv, hsp, hrow⟩
  · exact Go.Ab.law_calls_ro (L := []) (args := [.slice none 0 0]) (cargs := [.slice none 0 0]) he ⟨cell_lt hc, hc⟩ (fun _ h => by cases h) (vr_nil _)
      (prints_nil _)
  · have hb := hsz es sps rfl
    have hr : reachBytes = 140737488351232 := rfl
    have hlen : l.length ≤ 2513169434843 := by rw [hr, hel] at hb; omega
    obtain ⟨blk, off, spot⟩ := a
    simp only at hsp hrow
    subst hsp
    refine Go.Ab.law_calls_ro (L := [(⟨blk, off, l.length * 7, l.length * 7⟩, l.flatMap encI)]) (args := [.slice (some ⟨0, 0, none⟩) l.length c]) (cargs := [.slice (some ⟨blk, off, none⟩) l.length c]) he ⟨cell_lt hc, hc⟩ (fun p hp => ?_) ⟨rfl, fun i h h' => ?_⟩
      (prints7 _ l (some 0) _ ⟨c, [], rfl, by rw [List.append_nil]; rfl, Go.Ab.flat_len encI 7 (fun _ => rfl) l⟩ hv hlen _ fun _ _ => rfl)
    · obtain rfl := List.mem_singleton.1 hp
      exact hrow
    · have : i = 0 := by simpa using h
      subst this
      exact Go.Ab.VR.slice (e := ⟨blk, off, l.length * 7, l.length * 7⟩) rfl (.inl rfl)
theorem below_of {W W' : World} (hh : ∀ b, b < W.heap.size → W'.heap[b]? = W.heap[b]?) (hs : W.heap.size ≤ W'.heap.size) : Below W.heap.size W { W with heap := W'.heap } := ⟨rfl, rfl, rfl, hs, hh⟩
set_option maxRecDepth 100000 in
theorem prints_lifted (os : Os) (started : os.Started) (H : Type) (enc : TypeId × Value → H) :
    ReturnsInHanded {} Tryd.checked os 7 .any (fun w args => (Rows.asmPrintsSpec.pre enc Tryd.prog Tryd.f7 [] false w args ∧ laidMetH Tryd.prog Rows.asmPrintsRow.laid w) ∧ sizedMet enc Tryd.prog Tryd.f7 (OpenSpec.ofChange Rows.asmPrintsSpec) false w args)
      (Rows.asmPrintsSpec.post enc Tryd.prog Tryd.f7 false true false false) := by
  refine returnsInHanded_of_change_and (C := Tryd.checked) (X := fun w _ => laidMetH Tryd.prog Rows.asmPrintsRow.laid w) (fun _ _ _ hh h => h.of_heap hh) own2 started (by kernel_rfl) Tryd.func7
    (ChangeSpec.witness_shaped (enc := enc) (C := Tryd.checked) (os := os) (X := fun w _ => laidMetH Tryd.prog Rows.asmPrintsRow.laid w) false (errWorld os) #[.slice none 0 0] 8 (errWorld_os _)
      (World.shaped_of_ZipB (by kernel_rfl) (by kernel_rfl)) (by kernel_rfl) (by kernel_rfl) (by kernel_rfl) (errWorld_met os _)) ?_
  intro W base args ds gs before hval0 hW _ hsz hL _
  have hval : ∀ (j : Nat) t v, Tryd.f7.params[j]? = some t → args[j]? = some v → Value.okWide Tryd.prog W .any base t v := hval0
  have hW' := hW
  obtain ⟨p, q, hA0, hV, rfl, _, _⟩ := hW
  have hA : DataW.TrodAll enc Tryd.prog W 0 (fun _ => true) true Tryd.f7.params.toList args.toList ds p := hA0
  rw [Tryd.params7] at hA hval
  obtain ⟨v0, d0, rfl, rfl, h0⟩ := trodAll_one hA
  obtain ⟨rfl, rfl⟩ := trodVars_none hV
  simp only [List.append_nil] at hW'
  have hL' : laidMet Tryd.prog dataLaid W ∧ handlesMet Tryd.prog [("errors.errorType", Rows.laid_errors_errorType)] W := hL
  have hlt : ∀ x ∈ p, x.block < W.heap.size := fun x hx => hA.lt x (by simpa using hx)
  refine (prints_true (err_handle hL'.2) (hval 0 25 v0 rfl rfl) h0 fun es sps e => ?_).mono fun e W' ⟨he, hio, hs, hb⟩ => ?_
  · have h9 : (es.length + sps.length) * Tryd.prog.bytesOf 37 ≤ reachBytes := sized_slice hsz (j := 0) (t := 25) (e := 37) (elems := es) (spare := sps) (by rw [Tryd.params7]; rfl) (by rw [e]; rfl) u25_
    rwa [bytes37] at h9
  subst he
  have hd' := DataW.Trod.of_heap (w := { W with heap := W'.heap }) (w' := W') rfl (Below.trod laid2 (by kernel_rfl) (of_decide_eq_true (by kernel_rfl)) h0 (below_of hb hs) hlt)
  exact ⟨_, rfl, _, _, _, [], _, [], hW', trodAll_mk1 (shut_bool Tryd.underlying4 _), trodAll_mk1 hd', rfl, Go.Ab.kept_of hio hb _, fun h => by cases h⟩
theorem prints_holds : Rows.AsmPrintsSaid :=
  OpenClaim.holds_of_wide 7 Tryd.f7 rfl rfl rfl rfl rfl rfl rfl ⟨rfl, rfl, rfl, rfl, rfl⟩ rfl rfl rfl rfl rfl (by kernel_rfl) Tryd.func7 (by kernel_rfl)
    (of_decide_eq_true (by kernel_rfl)) (by unfold Func.isWrapper; first | (rw [if_pos (by decide +kernel)]; kernel_rfl) | (rw [if_neg (by decide +kernel)]; exact ⟨rfl, rfl⟩))
    (fun os started H enc _ => prints_lifted os started H enc)
theorem asmPrints_proved : Rows.AsmPrintsCardSaid :=
  Claim7.holds_tied_plain_at .later [] [.data, .handle, .pinned] true (true, "c08200f95f7856d9ce5d9836616d241a8489ad15d19ebedaea16ed19b9cfcb61") true prints_holds (fun _ h => by cases h) (by kernel_rfl) (fun _ h => by cases h) asmPrints_row_tie rfl ⟨rfl, rfl⟩ (by kernel_rfl) rfl
    (fun f fn hf hfn => by
      obtain rfl : f = 7 := Option.some.inj ((show Tryd.prog.funcNamed "distaff/distafflaw05.AsmPrints" = some 7 by kernel_rfl).symm.trans hf) |>.symm
      obtain rfl : fn = Tryd.f7 := (Option.some.inj (Tryd.func7.symm.trans hfn)).symm
      exact ⟨by kernel_rfl, fun j t ht => by
        rw [Tryd.params7] at ht
        have hm : t ∈ [25] := by simpa using Array.mem_of_getElem? ht
        have hall : ([25].all fun u => !Tryd.prog.wantsStandIn u) = true := by kernel_rfl
        exact (show Tryd.prog.wantsStandIn t = false by simpa using List.all_eq_true.1 hall t hm)⟩)
    (by kernel_rfl)
#print axioms asmPrints_proved
end Go.Proofs.YtnbfimppgcoajaaDoor
