/-
  A CALCULUS OVER ABSTRACT HEAPS: slices, indices, fields, maps.
-/
import Derived.Test.YtnbfimppgcoajaaDoorAbAppend2
namespace Go.Ab
set_option linter.unusedSimpArgs false
set_option linter.unusedVariables false
set_option linter.unusedSectionVars false
variable [Start]

/-! ### Slices -/
def boundA (y : Nat) : Value → Option Nat
  | .int _ n => if 0 ≤ n ∧ n ≤ y then some n.toNat else none
  | _ => none
def boundsA (len cap : Nat) (lo hi mx : Option Value) : Option (Nat × Nat × Nat) :=
  (match mx with | some v => boundA cap v | none => some cap).bind fun m =>
  (match hi, mx with | some v, _ => boundA m v | none, none => some len | none, some _ => none).bind fun h =>
  (match lo with | some v => boundA h v | none => some 0).map fun l => (l, h, m)
omit [Go.Ab.Start] in
theorem run_bound {P : Program} {y : Nat} {v : Value} {n : Nat} (h : boundA y v = some n) (code : BoundsCode) (w : World) : (Instr.sliceBound v y code).run P w = .ok n w := by
  unfold boundA at h
  cases v <;> first | (cases h; done) | skip
  rename_i k i
  simp only at h
  split at h
  · rename_i hc
    cases h
    simp [Instr.sliceBound, asIntOf, hc]
  · cases h
omit [Go.Ab.Start] in
theorem run_bounds {P : Program} {len cap : Nat} {lo hi mx : Option Value} {l h m : Nat} (hb : boundsA len cap lo hi mx = some (l, h, m)) (b : Bool) (w : World) : (Instr.sliceBounds b len cap lo hi mx).run P w = .ok (l, h, m) w := by
  unfold boundsA at hb
  cases mx with
  | some v =>
    cases hi with
    | none => cases hm : boundA cap v <;> simp [hm] at hb
    | some u =>
      cases hm : boundA cap v with
      | none => simp [hm] at hb
      | some m' =>
        cases hh : boundA m' u with
        | none => simp [hm, hh] at hb
        | some h' =>
          cases lo with
          | none =>
            simp [hm, hh] at hb
            obtain ⟨rfl, rfl, rfl⟩ := hb
            simp [Instr.sliceBounds, run_bound hm, run_bound hh]
          | some x =>
            cases hl : boundA h' x with
            | none => simp [hm, hh, hl] at hb
            | some l' =>
              simp [hm, hh, hl] at hb
              obtain ⟨rfl, rfl, rfl⟩ := hb
              simp [Instr.sliceBounds, run_bound hm, run_bound hh, run_bound hl]
  | none =>
    cases hi with
    | none =>
      cases lo with
      | none =>
        simp at hb
        obtain ⟨rfl, rfl, rfl⟩ := hb
        simp [Instr.sliceBounds]
      | some x =>
        cases hl : boundA len x with
        | none => simp [hl] at hb
        | some l' =>
          simp [hl] at hb
          obtain ⟨rfl, rfl, rfl⟩ := hb
          simp [Instr.sliceBounds, run_bound hl]
    | some u =>
      cases hh : boundA cap u with
      | none => simp [hh] at hb
      | some h' =>
        cases lo with
        | none =>
          simp [hh] at hb
          obtain ⟨rfl, rfl, rfl⟩ := hb
          simp [Instr.sliceBounds, run_bound hh]
        | some x =>
          cases hl : boundA h' x with
          | none => simp [hh, hl] at hb
          | some l' =>
            simp [hh, hl] at hb
            obtain ⟨rfl, rfl, rfl⟩ := hb
            simp [Instr.sliceBounds, run_bound hh, run_bound hl]
omit [Go.Ab.Start] in
theorem boundA_mono {y y' : Nat} (hy : y ≤ y') {v : Value} {n : Nat} (h : boundA y v = some n) : boundA y' v = some n := by
  unfold boundA at *
  cases v <;> first | (cases h; done) | skip
  simp only at h ⊢
  split at h
  · rename_i hc; rw [if_pos (by omega)]; exact h
  · cases h
omit [Go.Ab.Start] in
theorem boundA_le {y : Nat} {v : Value} {n : Nat} (h : boundA y v = some n) : n ≤ y := by
  unfold boundA at h
  cases v <;> first | (cases h; done) | skip
  simp only at h
  split at h
  · cases h; omega
  · cases h
omit [Go.Ab.Start] in
/-- With more room: the same bounds. -/
theorem boundsA_more {len cap cap' : Nat} (hc : cap ≤ cap') {lo hi mx : Option Value} {l h m : Nat} (hb : boundsA len cap lo hi mx = some (l, h, m)) :
    boundsA len cap' lo hi mx = some (l, h, if mx.isSome then m else cap') ∧ (mx = none → m = cap) ∧ l ≤ h ∧ (hi = none → h = len) ∧ (hi ≠ none → h ≤ m) := by
  unfold boundsA at *
  cases mx with
  | some v =>
    cases hi with
    | none => cases hm : boundA cap v <;> simp [hm] at hb
    | some u =>
      cases hm : boundA cap v with
      | none => simp [hm] at hb
      | some m' =>
        have hm' := boundA_mono hc hm
        cases hh : boundA m' u with
        | none => simp [hm, hh] at hb
        | some h' =>
          have := boundA_le hh
          cases lo with
          | none =>
            simp [hm, hh] at hb
            obtain ⟨rfl, rfl, rfl⟩ := hb
            simp [hm', hh, this]
          | some x =>
            cases hl : boundA h' x with
            | none => simp [hm, hh, hl] at hb
            | some l' =>
              have := boundA_le hl
              simp [hm, hh, hl] at hb
              obtain ⟨rfl, rfl, rfl⟩ := hb
              simp [hm', hh, hl, *]
  | none =>
    cases hi with
    | none =>
      cases lo with
      | none =>
        simp at hb
        obtain ⟨rfl, rfl, rfl⟩ := hb
        simp
      | some x =>
        cases hl : boundA len x with
        | none => simp [hl] at hb
        | some l' =>
          have := boundA_le hl
          simp [hl] at hb
          obtain ⟨rfl, rfl, rfl⟩ := hb
          simp [hl, this]
    | some u =>
      cases hh : boundA cap u with
      | none => simp [hh] at hb
      | some h' =>
        have hh' := boundA_mono hc hh
        have := boundA_le hh
        cases lo with
        | none =>
          simp [hh] at hb
          obtain ⟨rfl, rfl, rfl⟩ := hb
          simp [hh', this]
        | some x =>
          cases hl : boundA h' x with
          | none => simp [hh, hl] at hb
          | some l' =>
            have := boundA_le hl
            simp [hh, hl] at hb
            obtain ⟨rfl, rfl, rfl⟩ := hb
            simp [hh', hl, *]

/-- A slice expression's value. -/
def sliceA (P : Program) (t : TypeId) (x : Value) (lo hi mx : Option Value) : Option Value := match P.underlying t, x with
  | some .string, .string s => if mx.isSome then none else (boundsA s.size s.size lo hi none).map fun q => .string (s.extract q.1 q.2.1)
  | some (.slice e), .slice none n c => (sizeA P e).bind fun _ => (boundsA n c lo hi mx).map fun q => .slice none (q.2.1 - q.1) (q.2.2 - q.1)
  | some (.slice e), .slice (some ⟨i, k, none⟩) n c => (sizeA P e).bind fun es => (boundsA n c lo hi mx).bind fun q =>
      if mx.isSome then some (.slice (some ⟨i, if q.2.2 = q.1 then k else k + q.1 * es, none⟩) (q.2.1 - q.1) (q.2.2 - q.1))
      else if q.1 = 0 then some (.slice (some ⟨i, k, none⟩) q.2.1 c)
      else if q.1 < c then (if 0 < es then some (.slice (some ⟨i, k + q.1 * es, none⟩) (q.2.1 - q.1) (c - q.1)) else none)
      else if q.2.1 = q.1 then some (.slice (some ⟨i, k, some 0⟩) 0 0) else none
  | some (.array n e), .pointer (some ⟨i, k, none⟩) => (sizeA P e).bind fun es => (boundsA n n lo hi mx).map fun q => .slice (some ⟨i, if q.2.2 = q.1 then k else k + q.1 * es, none⟩) (q.2.1 - q.1) (q.2.2 - q.1)
  | _, _ => none

omit [Go.Ab.Start] in
theorem run_sizeOf_A {P : Program} {t : TypeId} {n : Nat} (h : sizeA P t = some n) (w : World) : (sizeOf t).run P w = .ok n w := by
  unfold sizeA at h
  cases hi : P.info? t with
  | none => rw [hi] at h; cases h
  | some i => rw [hi] at h; cases h; simp [sizeOf, typeInfo, hi]

omit [Go.Ab.Start] in
theorem run_sliceAt_A {P : Program} {φ : Emb} {t : TypeId} {x x' : Value} (hx : VR φ x x') {lo hi mx : Option Value} {v : Value} (h : sliceA P t x lo hi mx = some v) (w : World) :
    ∃ v', (Instr.sliceAt t x' lo hi mx).run P w = .ok v' w ∧ VR φ v v' := by
  unfold sliceA at h
  cases hu : P.underlying t with
  | none => rw [hu] at h; cases h
  | some d =>
    rw [hu] at h
    cases d with
    | string =>
      cases hx with
      | string s =>
        simp only at h
        split at h
        · cases h
        · rename_i hm
          cases mx with
          | some _ => exact (hm rfl).elim
          | none =>
            cases hb : boundsA s.size s.size lo hi none with
            | none => rw [hb] at h; cases h
            | some q =>
              obtain ⟨l, hh, m⟩ := q
              rw [hb] at h
              cases h
              refine ⟨_, ?_, .string _⟩
              simp [Instr.sliceAt, Instr.slice, run_underlying hu, run_bounds hb]
      | _ => cases h
    | slice e =>
      cases hx with
      | sliceNil n c =>
        simp only at h
        cases hs : sizeA P e with
        | none => rw [hs] at h; cases h
        | some es =>
          rw [hs] at h
          cases hb : boundsA n c lo hi mx with
          | none => rw [hb] at h; cases h
          | some q =>
            obtain ⟨l, hh, m⟩ := q
            rw [hb] at h
            cases h
            refine ⟨.slice none (hh - l) (m - l), ?_, .sliceNil _ _⟩
            simp [Instr.sliceAt, Instr.slice, run_underlying hu, run_bounds hb, run_sizeOf_A hs]
      | @slice i k n c c' ent hi' hc =>
        simp only at h
        cases hs : sizeA P e with
        | none => rw [hs] at h; cases h
        | some es =>
          rw [hs] at h
          simp only [Option.bind_some] at h
          cases hb : boundsA n c lo hi mx with
          | none => rw [hb] at h; cases h
          | some q =>
            obtain ⟨l, hh, m⟩ := q
            rw [hb] at h
            simp only [Option.bind_some] at h
            obtain ⟨hb', hm, hlh, hhi, hhm⟩ := boundsA_more hc.le hb
            have hrun := fun b => run_bounds (P := P) hb' b w
            split at h
            · rename_i hmx
              cases h
              rw [if_pos hmx] at hrun
              refine ⟨_, by simp only [Instr.sliceAt, Instr.slice, Sem.run_bind, run_underlying hu, Result.andThen_ok, hrun, run_sizeOf_A hs, Sem.run_pure]; rfl, ?_⟩
              by_cases hml : m = l
              · rw [if_pos hml]
                simp only [hml, if_true]
                exact .slice hi' (.inl rfl)
              · rw [if_neg hml]
                simp only [if_neg hml, Option.map_some, add_off, Nat.add_assoc]
                exact .slice hi' (.inl rfl)
            · rename_i hmx
              rw [if_neg hmx] at hrun
              have hmx' : mx = none := by cases mx with | none => rfl | some _ => exact (hmx rfl).elim
              subst hmx'
              have hmc := hm rfl
              subst hmc
              split at h
              · rename_i hl
                obtain rfl : l = 0 := hl
                cases h
                refine ⟨.slice (some ⟨ent.blk, ent.off + k, none⟩) hh c', by
                  simp only [Instr.sliceAt, Instr.slice, Sem.run_bind, run_underlying hu, Result.andThen_ok, hrun, run_sizeOf_A hs, Sem.run_pure]
                  simp [Addr.add], .slice hi' hc⟩
              · rename_i hl
                have hl : ¬ l = 0 := hl
                split at h
                · rename_i hlc
                  have hlc : l < m := hlc
                  split at h
                  · rename_i hes
                    cases h
                    have hne : ¬ c' = l := by have := hc.le; omega
                    refine ⟨.slice (some ⟨ent.blk, ent.off + (k + l * es), none⟩) (hh - l) (c' - l), by
                      simp only [Instr.sliceAt, Instr.slice, Sem.run_bind, run_underlying hu, Result.andThen_ok, hrun, run_sizeOf_A hs, Sem.run_pure, if_neg hne, Option.map_some, add_off, Nat.add_assoc], .slice hi' (.inr (.inr ⟨?_, ?_⟩))⟩
                    · have := Nat.mul_pos (show 0 < l by omega) hes; omega
                    · have := hc.le; omega
                  · cases h
                · split at h
                  · rename_i hhl
                    obtain rfl : hh = l := hhl
                    cases h
                    refine ⟨.slice (if c' = hh then some ⟨ent.blk, ent.off + k, none⟩ else some ⟨ent.blk, ent.off + k + hh * es, none⟩) 0 (c' - hh), by
                      simp only [Instr.sliceAt, Instr.slice, Sem.run_bind, run_underlying hu, Result.andThen_ok, hrun, run_sizeOf_A hs, Sem.run_pure, Option.map_some, add_off, Nat.sub_self], ?_⟩
                    split
                    · exact .sliceEmpty _ _
                    · exact .sliceEmpty _ _
                  · cases h
      | sliceEmpty a' c' => simp only at h; cases h
      | _ => cases h
    | array n e =>
      cases hx with
      | @ptr i k ent hi' =>
        simp only at h
        cases hs : sizeA P e with
        | none => rw [hs] at h; cases h
        | some es =>
          rw [hs] at h
          cases hb : boundsA n n lo hi mx with
          | none => rw [hb] at h; cases h
          | some q =>
            obtain ⟨l, hh, m⟩ := q
            rw [hb] at h
            cases h
            refine ⟨_, by simp only [Instr.sliceAt, Instr.sureAddr, Sem.run_bind, run_underlying hu, Result.andThen_ok, run_bounds hb, run_sizeOf_A hs, Sem.run_pure]; rfl, ?_⟩
            by_cases hml : m = l
            · simp only [hml, if_true]
              exact .slice hi' (.inl rfl)
            · simp only [if_neg hml, add_off, Nat.add_assoc]
              exact .slice hi' (.inl rfl)
      | _ => cases h
    | _ => cases h

/-! ### Addresses -/
def indexAddrA (P : Program) (t : TypeId) (x ix : Value) : Option Value := match P.underlying t, x, ix with
  | some (.slice e), .slice (some ⟨j, k, none⟩) n _, .int _ i => if 0 ≤ i ∧ i < n then (sizeA P e).map fun es => .pointer (some ⟨j, k + i.toNat * es, none⟩) else none
  | some (.array n e), .pointer (some ⟨j, k, none⟩), .int _ i => if 0 ≤ i ∧ i < n then (sizeA P e).map fun es => .pointer (some ⟨j, k + i.toNat * es, none⟩) else none
  | _, _, _ => none
omit [Go.Ab.Start] in
theorem run_indexAt_A {P : Program} {φ : Emb} {t : TypeId} {x x' ix ix' : Value} (hx : VR φ x x') (hix : VR φ ix ix') {v : Value} (h : indexAddrA P t x ix = some v) (w : World) : ∃ v', (Instr.indexAt t x' ix').run P w = .ok v' w ∧ VR φ v v' := by
  unfold indexAddrA at h
  cases hu : P.underlying t with
  | none => rw [hu] at h; cases h
  | some d =>
    rw [hu] at h
    cases hix with
    | int kd i =>
      cases d with
      | slice e =>
        cases hx with
        | @slice j k n c c' ent hj hc =>
          simp only at h
          split at h
          · rename_i hin
            cases hs : sizeA P e with
            | none => rw [hs] at h; cases h
            | some es =>
              rw [hs] at h
              cases h
              refine ⟨.pointer (some ⟨ent.blk, ent.off + (k + i.toNat * es), none⟩), ?_, .ptr hj⟩
              simp [Instr.indexAt, asIntOf, run_underlying hu, hin, run_sizeOf_A hs, add_off, Nat.add_assoc]
          · cases h
        | sliceEmpty a' c' => simp only at h; cases h
        | _ => cases h
      | array n e =>
        cases hx with
        | @ptr j k ent hj =>
          simp only at h
          split at h
          · rename_i hin
            cases hs : sizeA P e with
            | none => rw [hs] at h; cases h
            | some es =>
              rw [hs] at h
              cases h
              refine ⟨.pointer (some ⟨ent.blk, ent.off + (k + i.toNat * es), none⟩), ?_, .ptr hj⟩
              simp [Instr.indexAt, asIntOf, Instr.sureAddr, run_underlying hu, hin, run_sizeOf_A hs, add_off, Nat.add_assoc]
          · cases h
        | _ => cases h
      | _ => cases h
    | _ => cases d <;> cases hx <;> cases h

def fieldAddrA (P : Program) (t : TypeId) (x : Value) (f : Nat) : Option Value := match x with
  | .pointer (some ⟨i, k, none⟩) => (fieldA P t f).map fun off => .pointer (some ⟨i, k + off, none⟩)
  | _ => none
omit [Go.Ab.Start] in
theorem run_fieldAt_A {P : Program} {φ : Emb} {t : TypeId} {x x' : Value} (hx : VR φ x x') {f : Nat} {v : Value} (h : fieldAddrA P t x f = some v) (w : World) : ∃ v', (Instr.fieldAt t x' f).run P w = .ok v' w ∧ VR φ v v' := by
  unfold fieldAddrA at h
  cases hx with
  | @ptr i k ent hi =>
    simp only at h
    unfold fieldA at h
    cases hu : P.underlying t with
    | none => rw [hu] at h; cases h
    | some d =>
      rw [hu] at h
      cases d with
      | struct fields =>
        simp only at h
        cases hf : fields[f]? with
        | none => rw [hf] at h; cases h
        | some fl =>
          rw [hf] at h
          simp only [Option.bind_some] at h
          cases hin : P.info? fl.type with
          | none => rw [hin] at h; cases h
          | some i' =>
            rw [hin] at h
            simp only [Option.bind_some] at h
            split at h
            · cases h
            · rename_i h0
              cases h
              refine ⟨.pointer (some ⟨ent.blk, ent.off + (k + fl.offset), none⟩), ?_, .ptr hi⟩
              simp [Instr.fieldAt, run_underlying hu, hf, Instr.sureAddr, fieldPlace, sizeOf, typeInfo, hin, h0, add_off, Nat.add_assoc]
      | _ => cases h
  | _ => cases h

/-! ### Parts of values -/
def partA (P : Program) (t : TypeId) (cs : Array Value) (off : Nat) : Option Value := match aggA P t with
  | some none => cs[off]?
  | some (some n) => some (.agg (cs.extract off (off + n)))
  | none => none
omit [Go.Ab.Start] in
theorem run_part_A {P : Program} {φ : Emb} {t : TypeId} {cs ds : Array Value} (hr : ArrR φ cs ds) {off : Nat} {v : Value} (h : partA P t cs off = some v) (w : World) : ∃ v', (part t ds off).run P w = .ok v' w ∧ VR φ v v' := by
  unfold partA aggA at h
  cases hu : P.underlying t with
  | none => rw [hu] at h; cases h
  | some d =>
    rw [hu] at h
    have one : isAggD d = false → cs[off]? = some v → ∃ v', (part t ds off).run P w = .ok v' w ∧ VR φ v v' := fun hd hv => by
      obtain ⟨h1, h2⟩ := Array.getElem?_eq_some_iff.1 hv
      have h3 : off < ds.size := by rw [← hr.1]; exact h1
      refine ⟨ds[off], ?_, by rw [← h2]; exact hr.2 off h1 h3⟩
      unfold part
      rw [Sem.run_bind, run_isAgg_A hu, hd]
      simp [h3]
    have many : ∀ i, isAggD d = true → P.info? t = some i → v = .agg (cs.extract off (off + i.size)) → ∃ v', (part t ds off).run P w = .ok v' w ∧ VR φ v v' := fun i hd hi hv => by
      refine ⟨.agg (ds.extract off (off + i.size)), ?_, ?_⟩
      · unfold part
        rw [Sem.run_bind, run_isAgg_A hu, hd]
        simp [sizeOf, typeInfo, hi]
      · rw [hv]
        refine .agg (by simp [hr.1]) (fun j h1 h2 => ?_)
        simp only [Array.getElem_extract]
        exact hr.2 _ _ _
    cases d with
    | struct fs =>
      simp only at h
      cases hi : P.info? t with
      | none => rw [hi] at h; cases h
      | some i => rw [hi] at h; cases h; exact many i rfl hi rfl
    | array n e =>
      simp only at h
      cases hi : P.info? t with
      | none => rw [hi] at h; cases h
      | some i => rw [hi] at h; cases h; exact many i rfl hi rfl
    | _ => exact one rfl h
def fieldValA (P : Program) (t : TypeId) (x : Value) (f : Nat) : Option Value := match P.underlying t, x with
  | some (.struct fs), .agg cs => (fs[f]?).bind fun fl => partA P fl.type cs fl.offset
  | _, _ => none
omit [Go.Ab.Start] in
theorem run_field_A {P : Program} {φ : Emb} {t : TypeId} {x x' : Value} (hx : VR φ x x') {f : Nat} {v : Value} (h : fieldValA P t x f = some v) (w : World) : ∃ v', (Instr.field t x' f).run P w = .ok v' w ∧ VR φ v v' := by
  unfold fieldValA at h
  cases hu : P.underlying t with
  | none => rw [hu] at h; cases h
  | some d =>
    rw [hu] at h
    cases d with
    | struct fs =>
      cases hx with
      | @agg cs ds h1 h2 =>
        simp only at h
        cases hf : fs[f]? with
        | none => rw [hf] at h; cases h
        | some fl =>
          rw [hf] at h
          simp only [Option.bind_some] at h
          obtain ⟨v', hv, hr⟩ := run_part_A (P := P) ⟨h1, h2⟩ h w
          exact ⟨v', by simp [Instr.field, run_underlying hu, hf, asAgg, hv], hr⟩
      | _ => cases h
    | _ => cases h
def indexA (P : Program) (t : TypeId) (x ix : Value) : Option Value := match P.underlying t, x, ix with
  | some .string, .string s, .int _ i => if 0 ≤ i then (s[i.toNat]?).map fun b => .int .u8 b.toNat else none
  | some (.array n e), .agg cs, .int _ i => if 0 ≤ i ∧ i < n then (sizeA P e).bind fun es => partA P e cs (i.toNat * es) else none
  | _, _, _ => none
omit [Go.Ab.Start] in
theorem run_index_A {P : Program} {φ : Emb} {t : TypeId} {x x' ix ix' : Value} (hx : VR φ x x') (hix : VR φ ix ix') {v : Value} (h : indexA P t x ix = some v) (w : World) : ∃ v', (Instr.index t x' ix').run P w = .ok v' w ∧ VR φ v v' := by
  unfold indexA at h
  cases hu : P.underlying t with
  | none => rw [hu] at h; cases h
  | some d =>
    rw [hu] at h
    cases hix with
    | int kd i =>
      cases d with
      | string =>
        cases hx with
        | string s =>
          simp only at h
          split at h
          · rename_i h0
            cases hb : s[i.toNat]? with
            | none => rw [hb] at h; cases h
            | some b =>
              rw [hb] at h
              cases h
              exact ⟨_, by simp [Instr.index, asIntOf, run_underlying hu, h0, hb], .int _ _⟩
          · cases h
        | _ => cases h
      | array n e =>
        cases hx with
        | @agg cs ds h1 h2 =>
          simp only at h
          split at h
          · rename_i hin
            cases hs : sizeA P e with
            | none => rw [hs] at h; cases h
            | some es =>
              rw [hs] at h
              simp only [Option.bind_some] at h
              obtain ⟨v', hv, hr⟩ := run_part_A (P := P) ⟨h1, h2⟩ h w
              exact ⟨v', by simp [Instr.index, asIntOf, run_underlying hu, hin, run_sizeOf_A hs, hv], hr⟩
          · cases h
        | _ => cases h
      | _ => cases h
    | _ => cases d <;> cases hx <;> cases h
end Go.Ab
