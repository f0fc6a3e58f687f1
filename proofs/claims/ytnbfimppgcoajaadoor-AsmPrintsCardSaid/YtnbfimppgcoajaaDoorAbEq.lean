/-
  A CALCULUS OVER ABSTRACT HEAPS: two structs of plain fields, compared.
-/
import Derived.Test.YtnbfimppgcoajaaDoorAbS
import Derived.Laws.StructEq
namespace Go.Ab
set_option linter.unusedSimpArgs false
set_option linter.unusedVariables false
set_option linter.unusedSectionVars false
variable [Start]
variable {P : Program} {H : AHeap}
omit [Go.Ab.Start] in
theorem pureA_bind {α β : Type} (s : Sem α) (f : α → Sem β) : pureA P (s >>= f) = (pureA P s).bind fun a => pureA P (f a) := by
  show pureA P (Sem.bind s f) = _
  induction s with
  | pure a => rfl
  | program k ih => exact ih P
  | mark m k ih => exact ih
  | _ => rfl
omit [Go.Ab.Start] in
theorem pureA_pure {α : Type} (a : α) : pureA P (pure a : Sem α) = some a := rfl
/-- Are two plain values the same? -/
def eqScalA (P : Program) (t : TypeId) (x y : Value) : Option Bool := match P.underlying t, x, y with
  | some (.int _), .int k a, .int k' b => if k = k' then some (decide (a = b)) else none
  | some .string, .string a, .string b => some (decide (a.data.toList = b.data.toList))
  | some .bool, .bool a, .bool b => some (a == b)
  | _, _, _ => none
def eqFieldsA (P : Program) (xs ys : Array Value) : List Field → Option Bool
  | [] => some true
  | f :: fs => if f.name ≠ "_" ∧ aggA P f.type = some none then match xs[f.offset]?, ys[f.offset]? with
      | some a, some b => (eqScalA P f.type a b).bind fun r => (eqFieldsA P xs ys fs).map fun q => r && q
      | _, _ => none
    else none
omit [Go.Ab.Start] in
theorem pure_underlying {t : TypeId} {d : TypeDesc} (h : P.underlying t = some d) : pureA P (underlying t) = some d := by
  unfold underlying program
  rw [pureA_bind]
  simp only [pureA, Option.bind_some, h]
  rfl
omit [Go.Ab.Start] in
theorem pure_part {t : TypeId} {cs : Array Value} {off : Nat} {v : Value} (ha : aggA P t = some none) (hv : cs[off]? = some v) : pureA P (part t cs off) = some v := by
  unfold part isAgg
  unfold aggA at ha
  cases hu : P.underlying t with
  | none => rw [hu] at ha; cases ha
  | some d =>
    rw [hu] at ha
    rw [pureA_bind, pureA_bind, pure_underlying hu]
    cases d <;> first
      | (simp only [Option.bind_some, hv, Bool.false_eq_true, if_false, pureA]; rfl)
      | (simp only [Option.map_eq_some_iff] at ha; obtain ⟨_, _, h⟩ := ha; cases h)
omit [Go.Ab.Start] in
theorem pure_eqScal {d : Nat} {t : TypeId} {x y : Value} {r : Bool} (h : eqScalA P t x y = some r) : pureA P (Op.equalIn (d + 1) t x y) = some r := by
  unfold eqScalA at h
  unfold Op.equalIn
  cases hu : P.underlying t with
  | none => rw [hu] at h; cases h
  | some u =>
    rw [hu] at h
    rw [pureA_bind, pure_underlying hu]
    simp only [Option.bind_some]
    split at h
    · rename_i h1
      injection h1 with h1
      subst h1
      split at h
      · rename_i hk; subst hk
        injection h with h; subst h
        simp only [if_true]
        rfl
      · cases h
    · rename_i h1
      injection h1 with h1
      subst h1
      injection h with h; subst h
      simp only
      show some _ = _
      congr 1
      rename_i a b
      rw [beq_toListBytes, ByteArray.toList_eq, ByteArray.toList_eq]
      rw [Bool.eq_iff_iff, decide_eq_true_iff, beq_iff_eq]
    · rename_i h1
      injection h1 with h1
      subst h1
      injection h with h; subst h
      rfl
    · cases h
omit [Go.Ab.Start] in
theorem pure_eqFields {d : Nat} {xs ys : Array Value} : ∀ {fs : List Field} {r : Bool}, eqFieldsA P xs ys fs = some r → pureA P (Op.eqFields (d + 1) xs ys fs) = some r
  | [], r, h => by injection h with h; subst h; rfl
  | f :: fs, r, h => by
    unfold eqFieldsA at h
    split at h
    · rename_i hc
      unfold Op.eqFields
      rw [if_pos hc.1]
      split at h
      · rename_i a b ha hb
        cases hs : eqScalA P f.type a b with
        | none => rw [hs] at h; cases h
        | some q =>
          rw [hs] at h
          simp only [Option.bind_some, Option.map_eq_some_iff] at h
          obtain ⟨q2, h1, h2⟩ := h
          rw [pureA_bind, pure_part hc.2 ha, Option.bind_some, pureA_bind, pure_part hc.2 hb, Option.bind_some, pureA_bind, pure_eqScal hs, Option.bind_some]
          subst h2
          cases q with
          | false => rfl
          | true => simp only [Bool.not_true, Bool.false_eq_true, if_false, Bool.true_and]; exact pure_eqFields h1
      · cases h
    · cases h
omit [Go.Ab.Start] in
theorem pure_struct (d : Nat) (t : TypeId) (xs ys : Array Value) (ht : P.underlying t = some (.struct (P.fieldsOf t))) (hp : P.stoodInHeld t = false) :
    pureA P (Op.equalIn (d + 1) t (.agg xs) (.agg ys)) = pureA P (Op.eqFields d xs ys (P.fieldsOf t).toList) := by
  unfold Op.equalIn
  rw [pureA_bind, pure_underlying ht]
  simp only [Option.bind_some]
  rw [pureA_bind]
  unfold program
  simp only [pureA, Option.bind_some, hp, Bool.false_eq_true, if_false]
  rw [← Array.forIn_toList]
  generalize (P.fieldsOf t).toList = fs
  clear ht
  rw [pureA_bind]
  induction fs with
  | nil => rfl
  | cons f fs ih =>
    simp only [List.forIn_cons, Op.eqFields]
    split
    · simp only [pureA_bind]
      cases pureA P (part f.type xs f.offset) with
      | none => rfl
      | some u =>
        cases pureA P (part f.type ys f.offset) with
        | none => rfl
        | some v =>
          simp only [Option.bind_some]
          cases pureA P (Op.equalIn d f.type u v) with
          | none => rfl
          | some q =>
            cases q
            · rfl
            · simp only [Option.bind_some, Bool.not_true, Bool.false_eq_true, if_false, pureA_bind]
              exact ih
    · simp only [pureA_bind]
      exact ih
omit [Go.Ab.Start] in
@[go_sem] theorem i_rem {k : IntKind} {a b : Int} (h : b ≠ 0) : binI .rem k a k b = some (.int k (a.tmod b)) := by simp [binI, h]
omit [Go.Ab.Start] in
@[go_sem] theorem i_quo {k : IntKind} {a b : Int} (h : b ≠ 0) : binI .quo k a k b = some (.int k (k.wrap (a.tdiv b))) := by simp [binI, h]
omit [Go.Ab.Start] in
/-- Two structs of plain fields. -/
theorem bin_struct {t : TypeId} {x y : Operand} {xs ys : Array Value} {r : Bool} (hg : P.eqGuardType P.depth t = false) (ht : P.underlying t = some (.struct (P.fieldsOf t))) (hp : P.stoodInHeld t = false)
    (hx : plain (.agg xs) = true) (hy : plain (.agg ys) = true) (h : eqFieldsA P xs ys (P.fieldsOf t).toList = some r) : binV P H .eql t x y (.agg xs) (.agg ys) = some (.bool r) ∧ binV P H .neq t x y (.agg xs) (.agg ys) = some (.bool !r) := by
  have h0 : pureA P (Op.equalIn 10000 t (.agg xs) (.agg ys)) = some r := by rw [pure_struct 9999 t xs ys ht hp]; exact pure_eqFields (d := 9998) h
  have hgd : ∀ op, pureA P (eqGuard op t x y (.agg xs) (.agg ys)) = some () := by
    intro op
    unfold eqGuard program
    cases op <;> simp only [pureA_bind, pureA_pure, pureA, Option.bind_some, hg, Bool.not_true, Bool.not_false, if_true, Bool.false_eq_true, if_false]
  constructor
  · simp only [binV, hx, hy, and_self, if_true, pureA_bind, hgd, Option.bind_some, binOp, Op.equal, Op.maxDepth, h0, pureA, scalar]; rfl
  · simp only [binV, hx, hy, and_self, if_true, pureA_bind, hgd, Option.bind_some, binOp, Op.equal, Op.maxDepth, h0, pureA, scalar]; rfl
end Go.Ab
