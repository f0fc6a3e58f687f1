/-
  A CALCULUS OVER ABSTRACT HEAPS: numbers, strings, comparisons, conversions, maps.
-/
import Derived.Test.YtnbfimppgcoajaaDoorAbOps3
namespace Go.Ab
set_option linter.unusedSimpArgs false
set_option linter.unusedVariables false
set_option linter.unusedSectionVars false
variable [Start]

/-! ### What hangs on nothing but the program -/
def pureA (P : Program) {α : Type} : Sem α → Option α
  | .pure a => some a
  | .program k => pureA P (k P)
  | .mark _ k => pureA P k
  | _ => none
omit [Go.Ab.Start] in
theorem run_pureA {P : Program} {α : Type} (s : Sem α) {a : α} (h : pureA P s = some a) (w : World) : s.run P w = .ok a w := by
  induction s with
  | pure b => simp only [pureA, Option.some.injEq] at h; subst h; rfl
  | program k ih => exact ih P h
  | mark m k ih => exact ih h
  | _ => cases h

def binI (op : BinOp) (k : IntKind) (a : Int) (k' : IntKind) (b : Int) : Option Value := match op with
  | .shl => if 0 ≤ b then some (.int k (k.wrap (a * 2 ^ min b.toNat k.bits))) else none
  | .shr => if 0 ≤ b then some (.int k (a.fdiv (2 ^ min b.toNat k.bits))) else none
  | _ => if k = k' then (match op with
    | .add => some (.int k (k.wrap (a + b)))
    | .sub => some (.int k (k.wrap (a - b)))
    | .mul => some (.int k (k.wrap (a * b)))
    | .quo => if b = 0 then none else some (.int k (k.wrap (a.tdiv b)))
    | .rem => if b = 0 then none else some (.int k (a.tmod b))
    | .and => some (.int k (bits .and k a b))
    | .or => some (.int k (bits .or k a b))
    | .xor => some (.int k (bits .xor k a b))
    | .andNot => some (.int k (bits .andNot k a b))
    | .eql => some (.bool (a == b))
    | .neq => some (.bool (a != b))
    | .lss => some (.bool (a < b))
    | .leq => some (.bool (a ≤ b))
    | .gtr => some (.bool (a > b))
    | .geq => some (.bool (a ≥ b))
    | _ => none) else none
omit [Go.Ab.Start] in
theorem run_binI {P : Program} {op : BinOp} {t : TypeId} {k k' : IntKind} {a b : Int} {v : Value} (h : binI op k a k' b = some v) (x y : Operand) (w : World) :
    (do eqGuard op t x y (.int k a) (.int k' b); binOp op t (.int k a) (.int k' b) : Sem Value).run P w = .ok v w ∧ scalar v = true := by
  rw [eqGuard_at_int]
  unfold binI at h
  cases op <;> simp only at h <;> split at h <;> first | (cases h; done) | skip
  all_goals first
    | (rename_i hk; subst hk; cases h; refine ⟨?_, rfl⟩; simp [binOp, Op.intArith, Op.intCmp, intBits_and, intBits_or, intBits_xor, intBits_andNot]; done)
    | (rename_i hk; cases h; refine ⟨?_, rfl⟩; simp [binOp, Op.shift, show ¬ b < 0 by omega]; done)
    | (rename_i hk; subst hk; split at h <;> first | (cases h; done) | (rename_i h0; cases h; refine ⟨?_, rfl⟩; simp [binOp, Op.intDiv, h0]; done))

def binS (op : BinOp) (a b : ByteArray) : Option Value := match op with
  | .add => if a.size + b.size ≤ 9223372036854775807 then some (.string (a ++ b)) else none
  | .eql => some (.bool (a.toList == b.toList))
  | .neq => some (.bool (!(a.toList == b.toList)))
  | _ => none
omit [Go.Ab.Start] in
theorem run_binS {P : Program} {op : BinOp} {t : TypeId} {a b : ByteArray} {v : Value} (h : binS op a b = some v) (x y : Operand) (w : World) :
    (do eqGuard op t x y (.string a) (.string b); binOp op t (.string a) (.string b) : Sem Value).run P w = .ok v w ∧ scalar v = true := by
  rw [eqGuard_at_string]
  unfold binS at h
  cases op <;> simp only at h <;> first | (cases h; done) | skip
  · split at h
    · rename_i hs
      cases h
      refine ⟨?_, rfl⟩
      have : ¬ (9223372036854775807 < ((a.size : Int) + (b.size : Int))) := by omega
      simp [binOp, Op.stringOp, this]
    · cases h
  · cases h; exact ⟨by simp [binOp, Op.stringOp], rfl⟩
  · cases h; exact ⟨by simp [binOp, Op.stringOp], rfl⟩

/-- 'x == y' where one holds an address: against nil; an interface value against nil. -/
def eqNilA (P : Program) (t : TypeId) (x y : Value) : Option Bool := match P.underlying t, x, y with
  | some (.pointer _), .pointer none, .pointer b => some b.isNone
  | some (.pointer _), .pointer a, .pointer none => some a.isNone
  | some (.interface _), .iface _ _, .nilIface => some false
  | some (.interface _), .nilIface, .iface _ _ => some false
  | some (.slice _), .slice none _ _, .slice b _ _ => some b.isNone
  | some (.slice _), .slice (some _) _ _, .slice none _ _ => some false
  | some (.map _ _), .map none, .map b => some b.isNone
  | some (.map _ _), .map (some _), .map none => some false
  | some (.func _ _ _), .func _ _ _, .nilFunc => some false
  | _, _, _ => none
omit [Go.Ab.Start] in
theorem run_eqNil {P : Program} {φ : Emb} {t : TypeId} {x x' y y' : Value} (hx : VR φ x x') (hy : VR φ y y') {b : Bool} (h : eqNilA P t x y = some b) (w : World) : (Op.equal t x' y').run P w = .ok b w := by
  have key : ∀ n, (Op.equalIn (n + 1) t x' y').run P w = .ok b w := fun n => by
    unfold eqNilA at h
    split at h
    · rename_i hu
      cases hx
      cases hy <;> (cases h; simp [Op.equalIn, run_underlying hu])
    · rename_i hu
      cases hy
      cases hx <;> (cases h; simp [Op.equalIn, run_underlying hu])
    · rename_i hu
      cases hx; cases hy; cases h; simp [Op.equalIn, run_underlying hu]
    · rename_i hu
      cases hx; cases hy; cases h; simp [Op.equalIn, run_underlying hu]
    · rename_i hu
      cases hx
      cases hy <;> (cases h; simp [Op.equalIn, run_underlying hu])
    · rename_i hu
      cases hy
      cases hx <;> (cases h; simp [Op.equalIn, run_underlying hu])
    · rename_i hu
      cases hx
      cases hy <;> (cases h; simp [Op.equalIn, run_underlying hu])
    · rename_i hu
      cases hx; cases hy; cases h; simp [Op.equalIn, run_underlying hu]
    · rename_i hu
      cases hx; cases hy; cases h; simp [Op.equalIn, run_underlying hu]
    · cases h
  exact key 9999
/-- Two addresses of objects that are looked at. -/
def eqPtrA (P : Program) (H : AHeap) (t : TypeId) (x y : Value) : Option Bool := match P.underlying t, x, y with
  | some (.pointer e), .pointer (some ⟨i, k, none⟩), .pointer (some ⟨j, l, none⟩) => match H i, H j, sizeA P e with
    | .cells _, .cells _, some (_ + 1) => some (decide (i = j ∧ k = l))
    | _, _, _ => none
  | _, _, _ => none
theorem run_eqPtr {P : Program} {base : Nat} {w0 : World} {φ : Emb} {H : AHeap} {w : World} (r : Rel base w0 φ H w) {t : TypeId} {x x' y y' : Value} (hx : VR φ x x') (hy : VR φ y y') {b : Bool} (h : eqPtrA P H t x y = some b) : (Op.equal t x' y').run P w = .ok b w := by
  unfold eqPtrA at h
  cases hu : P.underlying t with
  | none => rw [hu] at h; cases hx <;> cases hy <;> cases h
  | some d =>
    rw [hu] at h
    cases hx with
    | @ptr i k e hi =>
      cases hy with
      | @ptr j l e' hj =>
        cases d <;> simp only at h <;> first | (cases h; done) | skip
        rename_i el
        cases ho : H i with
        | cells cs =>
          cases ho' : H j with
          | cells ds =>
            cases hs : sizeA P el with
            | none => rw [ho, ho', hs] at h; cases h
            | some n =>
              cases n with
              | zero => rw [ho, ho', hs] at h; cases h
              | succ n =>
                rw [ho, ho', hs] at h
                cases h
                have li : (H i).live = true := by rw [ho]; rfl
                have lj : (H j).live = true := by rw [ho']; rfl
                have oi := r.obj i e hi
                have oj := r.obj j e' hj
                rw [ho] at oi
                rw [ho'] at oj
                obtain ⟨_, _, ⟨C, ta, hC⟩, _⟩ := oi
                obtain ⟨_, _, ⟨D, tb, hD⟩, _⟩ := oj
                have hsz := run_sizeOf_A hs w
                have key : (sameAddr (⟨e.blk, e.off + k, none⟩ : Addr) ⟨e'.blk, e'.off + l, none⟩).run P w = .ok (decide (i = j ∧ k = l)) w := by
                  by_cases hij : i = j
                  · subst hij
                    rw [hi] at hj
                    cases hj
                    simp only [sameAddr, beq_self_eq_true, if_true, true_and]
                    have : ((⟨e.blk, e.off + k, none⟩ : Addr) == ⟨e.blk, e.off + l, none⟩) = decide (k = l) := by
                      rw [Bool.eq_iff_iff]; simp
                    rw [this]; rfl
                  · have hne : e.blk ≠ e'.blk := fun hb => hij (r.sep i j e e' hi hj li lj hb)
                    rw [run_sameAddr_other w (a := ⟨e.blk, e.off + k, none⟩) (b := ⟨e'.blk, e'.off + l, none⟩) (fun h => hne (congrArg Addr.block h)) hC hD]
                    simp [hij]
                have key' : ∀ n', (Op.equalIn (n' + 1) t (.pointer (some ⟨e.blk, e.off + k, none⟩)) (.pointer (some ⟨e'.blk, e'.off + l, none⟩))).run P w = .ok (decide (i = j ∧ k = l)) w := fun n' => by
                  simp [Op.equalIn, run_underlying hu, hsz, key]
                exact key' 9999
          | _ => rw [ho, ho'] at h; cases hs : sizeA P el <;> rw [hs] at h <;> cases h
        | _ => rw [ho] at h; cases ho' : H j <;> cases hs : sizeA P el <;> rw [ho', hs] at h <;> cases h
      | _ => cases d <;> cases h
    | _ => cases d <;> cases hy <;> cases h

/-! ### Conversions -/
def convA (P : Program) (s t : TypeId) (x : Value) : Option Value := match P.underlying s, P.underlying t, x with
  | some _, some (.int k), .int _ n => some (.int k (k.wrap n))
  | some .string, some .string, .string s => some (.string s)
  | _, _, _ => none
omit [Go.Ab.Start] in
theorem run_convA {P : Program} {s t : TypeId} {x v : Value} (h : convA P s t x = some v) (w : World) : (convert s t x).run P w = .ok v w ∧ scalar v = true ∧ scalar x = true := by
  unfold convA at h
  cases hs : P.underlying s with
  | none => rw [hs] at h; cases h
  | some ds =>
    cases ht : P.underlying t with
    | none => rw [hs, ht] at h; cases x <;> cases h
    | some dt =>
      rw [hs, ht] at h
      cases x <;> cases dt <;> cases ds <;> simp only at h <;> first | (cases h; done) | skip
      all_goals (cases h; refine ⟨?_, rfl, rfl⟩; simp [convert, run_underlying hs, run_underlying ht, Conv.intToInt])
/-- Bytes into a string. -/
def byteOfA : Value → Option Int
  | .int .u8 n => some n
  | _ => none
def bytesA : List Value → Option (List Int)
  | [] => some []
  | v :: vs => (byteOfA v).bind fun n => (bytesA vs).map (n :: ·)
def isU8 : Option TypeDesc → Bool
  | some (.int .u8) => true
  | _ => false
omit [Go.Ab.Start] in
theorem isU8_spec {d : Option TypeDesc} (h : isU8 d = true) : d = some (.int .u8) := by
  unfold isU8 at h
  split at h
  · rfl
  · cases h
def convBytesA (P : Program) (H : AHeap) (s t : TypeId) (x : Value) : Option Value := match P.underlying s, P.underlying t, x with
  | some (.slice e), some .string, .slice none 0 _ => if isU8 (P.underlying e) then some (.string ByteArray.empty) else none
  | some (.slice e), some .string, .slice (some ⟨i, k, none⟩) n _ => if isU8 (P.underlying e) then
      (cellsOf (H i)).bind fun cs => if k + n ≤ cs.length then (bytesA ((cs.drop k).take n)).map fun xs => .string (strOfNums xs) else none
    else none
  | _, _, _ => none
omit [Go.Ab.Start] in
theorem bytesA_spec : ∀ {vs : List Value} {xs : List Int}, bytesA vs = some xs → xs.length = vs.length ∧ ∀ i, i < vs.length → vs[i]? = some (.int .u8 (xs.getD i 0))
  | [], xs, h => by cases h; exact ⟨rfl, fun i h => by simp at h⟩
  | v :: vs, xs, h => by
    unfold bytesA at h
    cases hb : byteOfA v with
    | none => rw [hb] at h; cases h
    | some n =>
      rw [hb] at h
      simp only [Option.bind_some] at h
      cases hr : bytesA vs with
      | none => rw [hr] at h; cases h
      | some ys =>
        rw [hr] at h
        cases h
        obtain ⟨h1, h2⟩ := bytesA_spec hr
        refine ⟨by simp [h1], fun i hi => ?_⟩
        cases i with
        | zero =>
          have : v = .int .u8 n := by
            unfold byteOfA at hb
            split at hb
            · cases hb; rfl
            · cases hb
          subst this
          rfl
        | succ i =>
          have := h2 i (by simpa using hi)
          simpa using this
theorem run_convBytes {P : Program} {base : Nat} {w0 : World} {φ : Emb} {H : AHeap} {w : World} (r : Rel base w0 φ H w) {s t : TypeId} {x x' : Value} (hx : VR φ x x') {v : Value} (h : convBytesA P H s t x = some v) : (convert s t x').run P w = .ok v w ∧ scalar v = true := by
  unfold convBytesA at h
  cases hs : P.underlying s with
  | none => rw [hs] at h; cases hx <;> cases h
  | some ds =>
    cases ht : P.underlying t with
    | none => rw [hs, ht] at h; cases ds <;> cases hx <;> cases h
    | some dt =>
      rw [hs, ht] at h
      cases ds <;> first | (cases hx <;> cases h; done) | skip
      rename_i e
      cases dt <;> first | (cases hx <;> cases h; done) | skip
      cases hx with
      | sliceNil n c =>
        cases n with
        | succ n => cases h
        | zero =>
          simp only at h
          split at h
          · rename_i he
            cases h
            exact ⟨run_convert_bytes_nil w s e hs (isU8_spec he) 0 c t ht, rfl⟩
          · cases h
      | @slice i k n c c' ent hi hc =>
        simp only at h
        split at h
        · rename_i he
          cases hcs : cellsOf (H i) with
          | none => rw [hcs] at h; cases h
          | some cs =>
            rw [hcs] at h
            simp only [Option.bind_some] at h
            split at h
            · rename_i hle
              cases hb : bytesA ((cs.drop k).take n) with
              | none => rw [hb] at h; cases h
              | some xs =>
                rw [hb] at h
                cases h
                obtain ⟨b1, b2⟩ := bytesA_spec hb
                obtain ⟨_, _, hcell⟩ := cells_of r hi hcs
                have hlen : ((cs.drop k).take n).length = n := by simp; omega
                refine ⟨run_convert_bytes_arg w s e hs (isU8_spec he) ent.blk (ent.off + k) n c' xs (by rw [b1, hlen]) (fun q hq => ?_) t ht, rfl⟩
                have hq2 := b2 q (by rw [hlen]; exact hq)
                rw [List.getElem?_take_of_lt hq, List.getElem?_drop] at hq2
                obtain ⟨_, v', hv, hr⟩ := hcell (k + q) _ hq2
                cases hr
                rw [Nat.add_assoc]; exact hv
            · cases h
        · cases h
      | sliceEmpty a' c' => simp only at h; cases h
      | _ => cases h

/-! ### Maps -/
def findA (kind : TypeDesc) (k : Value) : List (Value × Value) → Nat → Option (Option (Nat × Value))
  | [], _ => some none
  | e :: es, i => match Instr.sameNow kind k e.1 with
    | some true => some (some (i, e.2))
    | some false => findA kind k es (i + 1)
    | none => none
omit [Go.Ab.Start] in
theorem findNow_rel {φ : Emb} {kind : TypeDesc} {k : Value} : ∀ {es : List (Value × Value)} {ds : List MapEntry} {i : Nat}, MapR φ es ds → ∀ {q : Option (Nat × Value)}, findA kind k es i = some q →
    ∃ q', Instr.findNow kind k ds i = some q' ∧ (match q, q' with | none, none => True | some a, some b => a.1 = b.1 ∧ VR φ a.2 b.2 ∧ i ≤ a.1 ∧ a.1 < i + es.length ∧ Instr.sameNow kind k ((ds[a.1 - i]?.map (·.key)).getD undef) = some true | _, _ => False)
  | [], [], i, _, q, h => by cases h; exact ⟨none, rfl, trivial⟩
  | [], _ :: _, _, h, _, _ => h.elim
  | _ :: _, [], _, h, _, _ => h.elim
  | (k', v) :: es, d :: ds, i, hm, q, h => by
    obtain ⟨h1, h2, h3⟩ := hm
    unfold findA at h
    unfold Instr.findNow
    simp only at h
    rw [h1]
    cases hs : Instr.sameNow kind k k' with
    | none => rw [hs] at h; cases h
    | some b =>
      rw [hs] at h
      cases b with
      | true =>
        cases h
        exact ⟨some (i, d.val), rfl, rfl, h2, Nat.le_refl _, by simp, by simp [h1, hs]⟩
      | false =>
        simp only at h ⊢
        obtain ⟨q', hq, hr⟩ := findNow_rel h3 h
        refine ⟨q', hq, ?_⟩
        cases q with
        | none => cases q' <;> exact hr
        | some a =>
          cases q' with
          | none => exact hr
          | some b =>
            obtain ⟨r1, r2, r3, r4, r5⟩ := hr
            refine ⟨r1, r2, by omega, by simp only [List.length_cons]; omega, ?_⟩
            rw [show a.1 - i = (a.1 - (i + 1)) + 1 by omega, List.getElem?_cons_succ]
            exact r5
def keyKind : TypeDesc → Bool
  | .int _ | .string | .bool => true
  | _ => false
omit [Go.Ab.Start] in
theorem run_checkKey {P : Program} {t : TypeId} {d : TypeDesc} (hu : P.underlying t = some d) (hd : keyKind d = true) (b : Bool) (v : Value) (w : World) : (Instr.checkKey b 10000 t v).run P w = .ok () w := by
  unfold Instr.checkKey
  rw [Sem.run_bind, run_underlying hu]
  cases d <;> first | (cases hd; done) | (cases v <;> rfl)
structure MapTy where
  key : TypeId
  kind : TypeDesc
  elem : TypeId
def mapTyA (P : Program) (t : TypeId) : Option MapTy := match P.underlying t with
  | some (.map k e) => (P.underlying k).bind fun d => if keyKind d then some ⟨k, d, e⟩ else none
  | _ => none
omit [Go.Ab.Start] in
theorem mapTyA_spec {P : Program} {t : TypeId} {m : MapTy} (h : mapTyA P t = some m) : P.underlying t = some (.map m.key m.elem) ∧ P.underlying m.key = some m.kind ∧ keyKind m.kind = true := by
  unfold mapTyA at h
  split at h
  · rename_i k e hu
    cases hd : P.underlying k with
    | none => rw [hd] at h; cases h
    | some d =>
      rw [hd] at h
      simp only [Option.bind_some] at h
      split at h
      · rename_i hk
        cases h
        exact ⟨hu, hd, hk⟩
      · cases h
  · cases h
/-- A look-up: the value, and whether there is one. -/
def findIn (P : Program) (H : AHeap) (m : MapTy) (x k : Value) : Option (Option (Nat × Value)) := match x with
  | .map none => some none
  | .map (some i) => match H i with
    | .map es => findA m.kind k es 0
    | _ => none
  | _ => none
def lookupA (P : Program) (H : AHeap) (t : TypeId) (x k : Value) (ok : Bool) : Option Value :=
  (mapTyA P t).bind fun m => (findIn P H m x k).bind fun q => match q with
    | some (_, v) => some (if ok then .tuple #[v, .bool true] else v)
    | none => (zeroA P m.elem).bind fun z => if plain z then some (if ok then .tuple #[z, .bool false] else z) else none
omit [Go.Ab.Start] in
theorem VR.pair {φ : Emb} {v v' : Value} (h : VR φ v v') (b : Bool) : VR φ (.tuple #[v, .bool b]) (.tuple #[v', .bool b]) := .tuple rfl fun i h1 h2 => by
  match i, h1 with
  | 0, _ => exact h
  | 1, _ => exact .bool b
  | n + 2, h1 => exact absurd h1 (by simp)
omit [Go.Ab.Start] in
theorem run_getMap {P : Program} {w : World} {b : Nat} {es : Array MapEntry} {clock : Nat} (h : w.heap[b]? = some (.map es clock)) : (getObj b).run P w = .ok (.map es clock) w := run_getObj_map w b es clock h
theorem map_of {base : Nat} {w0 : World} {φ : Emb} {H : AHeap} {w : World} (r : Rel base w0 φ H w) {i : Nat} {e : Ent} (hi : φ i = some e) {es : List (Value × Value)} (h : H i = .map es) :
    ∃ ents clock, w.heap[e.blk]? = some (.map ents clock) ∧ MapR φ es ents.toList := by
  have := r.obj i e hi
  rw [h] at this
  exact this
theorem run_lookup_A {P : Program} {base : Nat} {w0 : World} {φ : Emb} {H : AHeap} {w : World} (r : Rel base w0 φ H w) {t : TypeId} {x x' k : Value} (hx : VR φ x x') {ok : Bool} {v : Value} (h : lookupA P H t x k ok = some v) :
    ∃ v', (Instr.lookup t x' k ok).run P w = .ok v' w ∧ VR φ v v' := by
  unfold lookupA at h
  cases hm : mapTyA P t with
  | none => rw [hm] at h; cases h
  | some m =>
    rw [hm] at h
    simp only [Option.bind_some] at h
    obtain ⟨hu, hk, hkk⟩ := mapTyA_spec hm
    have zero : ∀ z, zeroA P m.elem = some z → (zeroValue m.elem).run P w = .ok z w := fun z hz => by
      unfold zeroA at hz
      cases hi : P.info? m.elem with
      | none => rw [hi] at hz; cases hz
      | some i => rw [hi] at hz; simp only [Option.bind_some] at hz; simp [zeroValue, typeInfo, hi, hz]
    cases hx with
    | mapNil =>
      unfold findIn at h
      simp only [Option.bind_some] at h
      cases hz : zeroA P m.elem with
      | none => rw [hz] at h; cases h
      | some z =>
        rw [hz] at h
        simp only [Option.bind_some] at h
        split at h
        · rename_i hp
          cases h
          have hck := run_checkKey (P := P) hk hkk true k w
          refine ⟨if ok then .tuple #[z, .bool false] else z, ?_, ?_⟩
          · simp [Instr.lookup, run_underlying hu, hck, Instr.findKey, run_underlying hk, Instr.findNow, zero z hz]
          · cases ok
            · exact .of_plain φ hp
            · exact (VR.of_plain φ hp).pair false
        · cases h
    | @map i e hi =>
      unfold findIn at h
      simp only at h
      cases ho : H i with
      | map es =>
        rw [ho] at h
        simp only at h
        obtain ⟨ents, clock, hb, hmr⟩ := map_of r hi ho
        have hck := fun b => run_checkKey (P := P) hk hkk b k w
        cases hf : findA m.kind k es 0 with
        | none => rw [hf] at h; cases h
        | some q =>
          rw [hf] at h
          simp only [Option.bind_some] at h
          obtain ⟨q', hq, hr⟩ := findNow_rel hmr hf
          cases q with
          | none =>
            cases q' with
            | some _ => exact hr.elim
            | none =>
              simp only at h
              cases hz : zeroA P m.elem with
              | none => rw [hz] at h; cases h
              | some z =>
                rw [hz] at h
                simp only [Option.bind_some] at h
                split at h
                · rename_i hp
                  cases h
                  refine ⟨if ok then .tuple #[z, .bool false] else z, ?_, ?_⟩
                  · simp [Instr.lookup, run_underlying hu, run_getMap hb, hck, Instr.findKey, run_underlying hk, hq, zero z hz]
                  · cases ok
                    · exact .of_plain φ hp
                    · exact (VR.of_plain φ hp).pair false
                · cases h
          | some a =>
            cases q' with
            | none => exact hr.elim
            | some b =>
              obtain ⟨n, u⟩ := a
              obtain ⟨n', u'⟩ := b
              simp only at h hr
              cases h
              refine ⟨if ok then .tuple #[u', .bool true] else u', ?_, ?_⟩
              · simp [Instr.lookup, run_underlying hu, run_getMap hb, hck, Instr.findKey, run_underlying hk, hq]
              · cases ok
                · exact hr.2.1
                · exact hr.2.1.pair true
      | _ => rw [ho] at h; cases h
    | _ => unfold findIn at h; simp only at h; cases h
end Go.Ab
