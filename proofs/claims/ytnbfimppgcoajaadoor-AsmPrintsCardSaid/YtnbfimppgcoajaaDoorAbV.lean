/-
  A CALCULUS OVER ABSTRACT HEAPS: values; the walk's set of equations.
-/
import Derived.Test.YtnbfimppgcoajaaDoorAbE
import Derived.WideShapes
namespace Go.Ab
set_option linter.unusedSimpArgs false
set_option linter.unusedVariables false
set_option linter.unusedSectionVars false
variable [Start]
variable {P : Program} {H : AHeap} {env : Env}
omit [Go.Ab.Start] in
theorem put_none (v : Value) : put env none v = env := rfl
omit [Go.Ab.Start] in
theorem over_get (m : Nat) (e env : Env) (t : Tmp) : over m e env t = if m.testBit t = true then e t else env t := rfl
omit [Go.Ab.Start] in
theorem env0_get' (args : List Value) (t : Tmp) : env0 (List.toArray args) t = args.getD t undef := by simp [env0]
def dstAt : List Oper → Nat → Option Tmp
  | [], _ => none
  | o :: _, 0 => o.dst
  | _ :: l, n + 1 => dstAt l n
def boolV : Value → Option Bool
  | .bool b => some b
  | _ => none
def boolAt (d : Option Tmp) (env : Env) : Option Bool := match d with
  | some d => boolV (env d)
  | none => none
omit [Go.Ab.Start] in
theorem dstAt_0 (dst : Option Tmp) (op : Op) (ty : TypeId) (pos : String) (af : Array Edge) (g : Option (Nat × Bool)) (l : List Oper) : dstAt (⟨dst, op, ty, pos, af, g⟩ :: l) 0 = dst := rfl
omit [Go.Ab.Start] in
theorem dstAt_s (o : Oper) (l : List Oper) (n : Nat) : dstAt (o :: l) (n + 1) = dstAt l n := rfl
omit [Go.Ab.Start] in
theorem boolAt_some (d : Tmp) (env : Env) : boolAt (some d) env = boolV (env d) := rfl
omit [Go.Ab.Start] in
theorem boolV_bool (b : Bool) : boolV (.bool b) = some b := rfl
omit [Go.Ab.Start] in
theorem boolV_undef : boolV undef = none := rfl
omit [Go.Ab.Start] in
theorem dstAt_get : ∀ (l : List Oper) (j : Nat), (l[j]?).bind (·.dst) = dstAt l j
  | [], _ => rfl
  | _ :: _, 0 => rfl
  | _ :: l, j + 1 => by simpa [dstAt] using dstAt_get l j
omit [Go.Ab.Start] in
theorem yield_get (l : List Oper) (j : Nat) : yieldA (List.toArray l) env j = boolAt (dstAt l j) env := by
  unfold yieldA boolAt
  rw [← dstAt_get]
  simp only [List.getElem?_toArray]
  split
  · rename_i d h; simp only [h]; rfl
  · rename_i h; simp only [h]
section
variable (k : IntKind) (a b : Int)
omit [Go.Ab.Start] in
theorem bi_add : binI .add k a k b = some (.int k (k.wrap (a + b))) := by simp [binI]
omit [Go.Ab.Start] in
theorem bi_sub : binI .sub k a k b = some (.int k (k.wrap (a - b))) := by simp [binI]
omit [Go.Ab.Start] in
theorem bi_mul : binI .mul k a k b = some (.int k (k.wrap (a * b))) := by simp [binI]
omit [Go.Ab.Start] in
theorem bi_eql : binI .eql k a k b = some (.bool (decide (a = b))) := by simp [binI]; try rfl
omit [Go.Ab.Start] in
theorem bi_neq : binI .neq k a k b = some (.bool (!decide (a = b))) := by simp [binI]; rfl
omit [Go.Ab.Start] in
theorem bi_lss : binI .lss k a k b = some (.bool (decide (a < b))) := by simp [binI]
omit [Go.Ab.Start] in
theorem bi_leq : binI .leq k a k b = some (.bool (decide (a ≤ b))) := by simp [binI]
omit [Go.Ab.Start] in
theorem bi_gtr : binI .gtr k a k b = some (.bool (decide (b < a))) := by simp [binI]
omit [Go.Ab.Start] in
theorem bi_geq : binI .geq k a k b = some (.bool (decide (b ≤ a))) := by simp [binI]
omit [Go.Ab.Start] in
theorem bi_and : binI .and k a k b = some (.int k (bits .and k a b)) := by simp [binI]
omit [Go.Ab.Start] in
theorem bi_or : binI .or k a k b = some (.int k (bits .or k a b)) := by simp [binI]
omit [Go.Ab.Start] in
theorem bi_xor : binI .xor k a k b = some (.int k (bits .xor k a b)) := by simp [binI]
omit [Go.Ab.Start] in
theorem bi_quo (h0 : 0 ≤ a) (h : 0 < b) : binI .quo k a k b = some (.int k (k.wrap (a / b))) := by
  have : b ≠ 0 := by omega
  simp [binI, this, Int.tdiv_eq_ediv_of_nonneg h0]
omit [Go.Ab.Start] in
theorem bi_rem (h0 : 0 ≤ a) (h : 0 < b) : binI .rem k a k b = some (.int k (a % b)) := by
  have : b ≠ 0 := by omega
  simp [binI, this, Int.tmod_eq_emod_of_nonneg h0]
end
omit [Go.Ab.Start] in
theorem bi_shl (k k' : IntKind) (a b : Int) (h : 0 ≤ b) : binI .shl k a k' b = some (.int k (k.wrap (a * 2 ^ min b.toNat k.bits))) := by simp [binI, h]
omit [Go.Ab.Start] in
theorem bi_shr (k k' : IntKind) (a b : Int) (h : 0 ≤ b) : binI .shr k a k' b = some (.int k (a.fdiv (2 ^ min b.toNat k.bits))) := by simp [binI, h]
omit [Go.Ab.Start] in
theorem str_eq (a b : ByteArray) : (a.toList == b.toList) = decide (a.data.toList = b.data.toList) := by
  have h (x : ByteArray) : x.toList = x.data.toList := ByteArray.toList_eq x
  rw [h, h, Bool.eq_iff_iff]; simp
omit [Go.Ab.Start] in
theorem bs_eql (a b : ByteArray) : binS .eql a b = some (.bool (decide (a.data.toList = b.data.toList))) := by rw [← str_eq]; rfl
omit [Go.Ab.Start] in
theorem bs_neq (a b : ByteArray) : binS .neq a b = some (.bool (!decide (a.data.toList = b.data.toList))) := by rw [← str_eq]; rfl
omit [Go.Ab.Start] in
theorem bs_add {a b : ByteArray} (h : a.size + b.size ≤ 9223372036854775807) : binS .add a b = some (.string (a ++ b)) := by simp only [binS]; rw [if_pos h]
omit [Go.Ab.Start] in
theorem bv_int (op : BinOp) (t : TypeId) (x y : Operand) (k k' : IntKind) (a b : Int) : binV P H op t x y (.int k a) (.int k' b) = binI op k a k' b := rfl
omit [Go.Ab.Start] in
theorem bv_string (op : BinOp) (t : TypeId) (x y : Operand) (a b : ByteArray) : binV P H op t x y (.string a) (.string b) = binS op a b := rfl
omit [Go.Ab.Start] in
theorem bv_ptr_eq (t : TypeId) (x y : Operand) (a : Addr) : binV P H .eql t x y (.pointer (some a)) (.pointer none) = match eqNilA P t (.pointer (some a)) (.pointer none) with | some b => some (.bool b) | none => (eqPtrA P H t (.pointer (some a)) (.pointer none)).map .bool := rfl
omit [Go.Ab.Start] in
theorem bv_ptr_ne (t : TypeId) (x y : Operand) (a : Addr) : binV P H .neq t x y (.pointer (some a)) (.pointer none) = match eqNilA P t (.pointer (some a)) (.pointer none) with | some b => some (.bool !b) | none => (eqPtrA P H t (.pointer (some a)) (.pointer none)).map fun b => .bool !b := rfl
omit [Go.Ab.Start] in
theorem un_not (b : Bool) : unA .not (.bool b) = some (.bool (!b)) := rfl
omit [Go.Ab.Start] in
theorem un_neg (k : IntKind) (n : Int) : unA .neg (.int k n) = some (.int k (k.wrap (0 - n))) := rfl
omit [Go.Ab.Start] in
/-- Both sides as bits: the walk's '&&' and '||' over what is known. -/
theorem pick_bool (b c d : Bool) : pickV (.bool b) (.bool c) (.bool d) = some (.bool (if b then c else d)) := by cases b <;> rfl
/-! ### Wraps -/
omit [Go.Ab.Start] in
theorem wrapS (k : IntKind) (hs : k.signed = true) {x : Int} (h1 : -2 ^ (k.bits - 1) ≤ x) (h2 : x < 2 ^ (k.bits - 1)) : k.wrap x = x := by
  unfold IntKind.wrap
  have hb : (2 : Int) ^ k.bits = 2 * 2 ^ (k.bits - 1) := by cases k <;> decide
  rw [hb, hs]
  have hp : (0 : Int) < 2 ^ (k.bits - 1) := by cases k <;> decide
  generalize (2 : Int) ^ (k.bits - 1) = p at *
  simp only [Bool.true_and, decide_eq_true_eq]
  by_cases hx : 0 ≤ x
  · rw [Int.emod_eq_of_lt hx (by omega)]
    rw [if_neg (by omega)]
  · have : x % (2 * p) = x + 2 * p := by
      rw [← Int.add_emod_right x (2 * p)]
      exact Int.emod_eq_of_lt (by omega) (by omega)
    rw [this, if_pos (by omega)]; omega
omit [Go.Ab.Start] in
theorem wrapU (k : IntKind) (hs : k.signed = false) {x : Int} (h1 : 0 ≤ x) (h2 : x < 2 ^ k.bits) : k.wrap x = x := by
  unfold IntKind.wrap
  rw [hs]
  simp only [Bool.false_and]
  exact Int.emod_eq_of_lt h1 h2
omit [Go.Ab.Start] in
theorem wrapI64 {x : Int} (h1 : -9223372036854775808 ≤ x) (h2 : x ≤ 9223372036854775807) : IntKind.i64.wrap x = x := wrapS .i64 rfl h1 (by show x < 9223372036854775808; omega)
omit [Go.Ab.Start] in
theorem wrapU64 {x : Int} (h1 : 0 ≤ x) (h2 : x ≤ 18446744073709551615) : IntKind.u64.wrap x = x := wrapU .u64 rfl h1 (by show x < 18446744073709551616; omega)
omit [Go.Ab.Start] in
theorem wrapU8 {x : Int} (h1 : 0 ≤ x) (h2 : x ≤ 255) : IntKind.u8.wrap x = x := wrapU .u8 rfl h1 (by show x < 256; omega)
omit [Go.Ab.Start] in
theorem wrapU32 {x : Int} (h1 : 0 ≤ x) (h2 : x ≤ 4294967295) : IntKind.u32.wrap x = x := wrapU .u32 rfl h1 (by show x < 4294967296; omega)
omit [Go.Ab.Start] in
theorem wrap_byte (b : UInt8) : IntKind.i64.wrap (b.toNat : Int) = b.toNat := wrapI64 (by omega) (by have := b.toNat_lt; omega)
omit [Go.Ab.Start] in
theorem wrap_byteU (b : UInt8) : IntKind.u64.wrap (b.toNat : Int) = b.toNat := wrapU64 (by omega) (by have := b.toNat_lt; omega)
omit [Go.Ab.Start] in
theorem wrap_byteB (b : UInt8) : IntKind.u8.wrap (b.toNat : Int) = b.toNat := wrapU8 (by omega) (by have := b.toNat_lt; omega)
omit [Go.Ab.Start] in
theorem tn_succ (k : Nat) : ((k : Int) + 1).toNat = k + 1 := by omega
omit [Go.Ab.Start] in
theorem tn_sub (a b : Nat) : ((a : Int) - (b : Int)).toNat = a - b := by omega
omit [Go.Ab.Start] in
theorem tn_sub1 (a : Nat) : ((a : Int) - 1).toNat = a - 1 := by omega
omit [Go.Ab.Start] in
theorem tn_sub2 (a : Nat) : ((a : Int) - 2).toNat = a - 2 := by omega
omit [Go.Ab.Start] in
theorem tn_add (a b : Nat) : ((a : Int) + (b : Int)).toNat = a + b := by omega
/-! ### Objects -/
omit [Go.Ab.Start] in
theorem load_none (i k : Nat) : loadV H (some none) (.pointer (some ⟨i, k, none⟩)) = readA (H i) k none := rfl
omit [Go.Ab.Start] in
theorem read_cell (cs : List Value) (k : Nat) : readA (.cells cs) k none = cs[k]? := rfl
omit [Go.Ab.Start] in
theorem read_ro (cs : List Value) (k : Nat) : readA (.ro cs) k none = cs[k]? := rfl
omit [Go.Ab.Start] in
theorem read_agg {cs : List Value} {k n : Nat} (h : k + n ≤ cs.length) : readA (.cells cs) k (some n) = some (.agg (List.toArray ((cs.drop k).take n))) := by simp only [readA, cellsOf, Option.bind_some, if_pos h]
omit [Go.Ab.Start] in
theorem read_agg_ro {cs : List Value} {k n : Nat} (h : k + n ≤ cs.length) : readA (.ro cs) k (some n) = some (.agg (List.toArray ((cs.drop k).take n))) := by simp only [readA, cellsOf, Option.bind_some, if_pos h]
omit [Go.Ab.Start] in
theorem read_agg_cons {a : Value} {cs : List Value} {k n : Nat} : readA (.cells (a :: cs)) k (some n) = if k + n ≤ (a :: cs).length then some (.agg (List.toArray (((a :: cs).drop k).take n))) else none := by simp only [readA, cellsOf, Option.bind_some]
omit [Go.Ab.Start] in
theorem set_set (H : AHeap) (i : Nat) (o o' : AObj) : (H.set i o).set i o' = H.set i o' := by
  funext j; simp only [AHeap.set]; split <;> rfl
omit [Go.Ab.Start] in
theorem store_go {t : TypeId} {i k : Nat} {v : Value} : storeH P H t (.pointer (some ⟨i, k, none⟩)) v = if sizeA P t = some v.cells.size then (writeA (H i) k v.cells.toList).map (H.set i) else none := rfl
omit [Go.Ab.Start] in
theorem write_one {cs : List Value} {k : Nat} {v : Value} (hk : k < cs.length) (h1 : v.oneCell' = true) : writeA (.cells cs) k [v] = some (.cells (cs.set k v)) := by
  unfold writeA
  simp only [List.length_cons, List.length_nil, List.all_cons, List.all_nil, h1, Bool.and_true]
  rw [if_pos ⟨by omega, trivial⟩]
  rfl
omit [Go.Ab.Start] in
theorem write_one_cons {a : Value} {cs : List Value} {k : Nat} {v : Value} : writeA (.cells (a :: cs)) k [v] = if k < (a :: cs).length then (if v.oneCell' = true then some (.cells ((a :: cs).set k v)) else none) else none := by
  by_cases hk : k < (a :: cs).length
  · by_cases h1 : v.oneCell' = true
    · rw [if_pos hk, if_pos h1, write_one hk h1]
    · rw [if_pos hk, if_neg h1]; simp [writeA, h1]
  · rw [if_neg hk]
    unfold writeA
    simp only [List.length_cons, List.length_nil] at hk ⊢
    rw [if_neg (by omega)]
omit [Go.Ab.Start] in
theorem write_all {cs vs : List Value} {k : Nat} (hk : k + vs.length ≤ cs.length) (h1 : vs.all (·.oneCell') = true) : writeA (.cells cs) k vs = some (.cells (putL cs k vs)) := by
  simp only [writeA]; rw [if_pos ⟨hk, h1⟩]
omit [Go.Ab.Start] in
theorem write_many {cs : List Value} {k : Nat} {a b : Value} {vs : List Value} : writeA (.cells cs) k (a :: b :: vs) = if k + (a :: b :: vs).length ≤ cs.length then (if (a :: b :: vs).all (·.oneCell') = true then some (.cells (putL cs k (a :: b :: vs))) else none) else none := by
  simp only [writeA]
  by_cases hk : k + (a :: b :: vs).length ≤ cs.length
  · by_cases h1 : (a :: b :: vs).all (·.oneCell') = true
    · rw [if_pos hk, if_pos h1, if_pos ⟨hk, h1⟩]
    · rw [if_pos hk, if_neg h1, if_neg fun h => h1 h.2]
  · rw [if_neg hk, if_neg fun h => hk h.1]
omit [Go.Ab.Start] in
theorem putL_nil (cs : List Value) (k : Nat) : putL cs k [] = cs := rfl
omit [Go.Ab.Start] in
theorem putL_cons (cs : List Value) (k : Nat) (v : Value) (vs : List Value) : putL cs k (v :: vs) = putL (cs.set k v) (k + 1) vs := rfl
omit [Go.Ab.Start] in
theorem box_go {v : Value} (h : v.cells.toList.all (·.oneCell') = true) : boxObj v = some (.cells v.cells.toList) := by unfold boxObj; rw [if_pos h]
omit [Go.Ab.Start] in
theorem cells_bool (b : Bool) : (Value.bool b).cells = #[.bool b] := rfl
omit [Go.Ab.Start] in
theorem cells_int (k : IntKind) (n : Int) : (Value.int k n).cells = #[.int k n] := rfl
omit [Go.Ab.Start] in
theorem cells_string (s : ByteArray) : (Value.string s).cells = #[.string s] := rfl
omit [Go.Ab.Start] in
theorem cells_pointer (a : Option Addr) : (Value.pointer a).cells = #[.pointer a] := rfl
omit [Go.Ab.Start] in
theorem cells_slice (a : Option Addr) (n c : Nat) : (Value.slice a n c).cells = #[.slice a n c] := rfl
omit [Go.Ab.Start] in
theorem cells_iface (t : TypeId) (v : Value) : (Value.iface t v).cells = #[.iface t v] := rfl
omit [Go.Ab.Start] in
theorem cells_nil : Value.nilIface.cells = #[.nilIface] := rfl
omit [Go.Ab.Start] in
theorem cells_nilF : Value.nilFunc.cells = #[.nilFunc] := rfl
omit [Go.Ab.Start] in
theorem cells_func (f : Fn) (a b : Array Value) : (Value.func f a b).cells = #[.func f a b] := rfl
omit [Go.Ab.Start] in
theorem cells_map (a : Option Nat) : (Value.map a).cells = #[.map a] := rfl
omit [Go.Ab.Start] in
theorem cells_agg (cs : Array Value) : (Value.agg cs).cells = cs := rfl
omit [Go.Ab.Start] in
theorem one_bool (b : Bool) : (Value.bool b).oneCell' = true := rfl
omit [Go.Ab.Start] in
theorem one_int (k : IntKind) (n : Int) : (Value.int k n).oneCell' = true := rfl
omit [Go.Ab.Start] in
theorem one_string (s : ByteArray) : (Value.string s).oneCell' = true := rfl
omit [Go.Ab.Start] in
theorem one_pointer (a : Option Addr) : (Value.pointer a).oneCell' = true := rfl
omit [Go.Ab.Start] in
theorem one_slice (a : Option Addr) (n c : Nat) : (Value.slice a n c).oneCell' = true := rfl
omit [Go.Ab.Start] in
theorem one_iface (t : TypeId) (v : Value) : (Value.iface t v).oneCell' = true := rfl
omit [Go.Ab.Start] in
theorem one_nil : Value.nilIface.oneCell' = true := rfl
omit [Go.Ab.Start] in
theorem one_nilF : Value.nilFunc.oneCell' = true := rfl
omit [Go.Ab.Start] in
theorem one_func (f : Fn) (a b : Array Value) : (Value.func f a b).oneCell' = true := rfl
omit [Go.Ab.Start] in
theorem one_map (a : Option Nat) : (Value.map a).oneCell' = true := rfl
omit [Go.Ab.Start] in
theorem scalar_int (k : IntKind) (n : Int) : scalar (.int k n) = true := rfl
omit [Go.Ab.Start] in
theorem scalar_string (s : ByteArray) : scalar (.string s) = true := rfl
omit [Go.Ab.Start] in
theorem ptr_val (i : Nat) : ptrTo i = .pointer (some ⟨i, 0, none⟩) := rfl
omit [Go.Ab.Start] in
theorem new_ptr (i : Nat) : NewK.val i .ptr = .pointer (some ⟨i, 0, none⟩) := rfl
omit [Go.Ab.Start] in
theorem new_slice (i n m : Nat) : NewK.val i (.slice n m) = .slice (some ⟨i, 0, none⟩) n m := rfl
omit [Go.Ab.Start] in
theorem new_map (i : Nat) : NewK.val i .map = .map (some i) := rfl
omit [Go.Ab.Start] in
theorem none_cells (cs : List Value) : (AObj.cells cs).isNone = false := rfl
omit [Go.Ab.Start] in
theorem none_ro (cs : List Value) : (AObj.ro cs).isNone = false := rfl
omit [Go.Ab.Start] in
theorem none_map (es : List (Value × Value)) : (AObj.map es).isNone = false := rfl
omit [Go.Ab.Start] in
/-- Another object than a new one. -/
theorem set_other {i j : Nat} {o : AObj} (h : j ≠ i) : H.set i o j = H j := AHeap.set_ne _ _ h
omit [Go.Ab.Start] in
theorem set_new {i j : Nat} {o : AObj} (hi : H i = .none) (hj : (H j).isNone = false) : H.set i o j = H j := AHeap.set_ne _ _ fun e => by subst e; rw [hi] at hj; cases hj
omit [Go.Ab.Start] in
theorem list_set_0 (v w : Value) (l : List Value) : (w :: l).set 0 v = v :: l := rfl
omit [Go.Ab.Start] in
theorem list_set_s (v w : Value) (l : List Value) (n : Nat) : (w :: l).set (n + 1) v = w :: l.set n v := rfl
/-! ### Strings, slices -/
omit [Go.Ab.Start] in
theorem len_string {t : TypeId} (hu : P.underlying t = some .string) (s : ByteArray) : lenVal P H t (.string s) = some (.int .i64 s.size) := by simp only [lenVal, lenA, hu]; rfl
omit [Go.Ab.Start] in
theorem len_slice {t e : TypeId} (hu : P.underlying t = some (.slice e)) (a : Option Addr) (n c : Nat) : lenVal P H t (.slice a n c) = some (.int .i64 n) := by simp only [lenVal, lenA, hu]; rfl
omit [Go.Ab.Start] in
theorem index_addr {t e : TypeId} {es : Nat} (hu : P.underlying t = some (.slice e)) (hs : sizeA P e = some es) {j q n c : Nat} {k : IntKind} {i : Int} (h0 : 0 ≤ i) (h : i < n) : indexAddrA P t (.slice (some ⟨j, q, none⟩) n c) (.int k i) = some (.pointer (some ⟨j, q + i.toNat * es, none⟩)) := by
  simp only [indexAddrA, hu, hs, h0, h, and_self, if_true, Option.map_some]
omit [Go.Ab.Start] in
theorem index_arr {t e : TypeId} {es m : Nat} (hu : P.underlying t = some (.array m e)) (hs : sizeA P e = some es) {j q : Nat} {k : IntKind} {i : Int} (h0 : 0 ≤ i) (h : i < m) : indexAddrA P t (.pointer (some ⟨j, q, none⟩)) (.int k i) = some (.pointer (some ⟨j, q + i.toNat * es, none⟩)) := by
  simp only [indexAddrA, hu, hs, h0, h, and_self, if_true, Option.map_some]
omit [Go.Ab.Start] in
theorem field_addr {t : TypeId} {f off : Nat} (h : fieldA P t f = some off) (i k : Nat) : fieldAddrA P t (.pointer (some ⟨i, k, none⟩)) f = some (.pointer (some ⟨i, k + off, none⟩)) := by simp only [fieldAddrA, h, Option.map_some]
omit [Go.Ab.Start] in
theorem conv_int {s t : TypeId} {k k' : IntKind} {d : TypeDesc} (hs : P.underlying s = some d) (ht : P.underlying t = some (.int k)) (n : Int) : convV P H s t (.int k' n) = some (.int k (k.wrap n)) := by simp only [convV, convA, hs, ht]
omit [Go.Ab.Start] in
theorem conv_string {s t : TypeId} (hs : P.underlying s = some .string) (ht : P.underlying t = some .string) (n : ByteArray) : convV P H s t (.string n) = some (.string n) := by simp only [convV, convA, hs, ht]
omit [Go.Ab.Start] in
theorem sliceA_int {t : TypeId} {x : Value} {k : IntKind} {a : Int} : sliceV P t x (some (.int k a)) none none = sliceA P t x (some (.int k a)) none none := rfl
omit [Go.Ab.Start] in
theorem sliceA_to {t : TypeId} {x : Value} {k : IntKind} {a : Int} : sliceV P t x none (some (.int k a)) none = sliceA P t x none (some (.int k a)) none := rfl
omit [Go.Ab.Start] in
theorem sliceA_both {t : TypeId} {x : Value} {k k' : IntKind} {a b : Int} : sliceV P t x (some (.int k a)) (some (.int k' b)) none = sliceA P t x (some (.int k a)) (some (.int k' b)) none := rfl
omit [Go.Ab.Start] in
theorem sliceA_all {t : TypeId} {x : Value} : sliceV P t x none none none = sliceA P t x none none none := rfl
omit [Go.Ab.Start] in
theorem slice_string {t : TypeId} (hu : P.underlying t = some .string) {s : ByteArray} {k k' : IntKind} {a b : Int} (h0 : 0 ≤ a) (h1 : a ≤ b) (h2 : b ≤ s.size) : sliceA P t (.string s) (some (.int k a)) (some (.int k' b)) none = some (.string (s.extract a.toNat b.toNat)) := by
  have h3 : 0 ≤ b := by omega
  have h4 : (b.toNat : Int) = b := Int.toNat_of_nonneg h3
  simp only [sliceA, hu, boundsA, boundA, Option.bind_some, h3, h2, and_self, if_true, h0, h4, h1, Option.map_some]
  rfl
omit [Go.Ab.Start] in
theorem slice_string_from {t : TypeId} (hu : P.underlying t = some .string) {s : ByteArray} {k : IntKind} {a : Int} (h0 : 0 ≤ a) (h2 : a ≤ s.size) : sliceA P t (.string s) (some (.int k a)) none none = some (.string (s.extract a.toNat s.size)) := by
  simp only [sliceA, hu, boundsA, boundA, Option.bind_some, h2, and_self, if_true, h0, Option.map_some]
  rfl
omit [Go.Ab.Start] in
theorem slice_string_to {t : TypeId} (hu : P.underlying t = some .string) {s : ByteArray} {k : IntKind} {b : Int} (h0 : 0 ≤ b) (h2 : b ≤ s.size) : sliceA P t (.string s) none (some (.int k b)) none = some (.string (s.extract 0 b.toNat)) := by
  simp only [sliceA, hu, boundsA, boundA, Option.bind_some, h2, and_self, if_true, h0, Option.map_some]
  rfl
section
variable {t e : TypeId} {es i q n c : Nat} (hu : P.underlying t = some (.slice e)) (hs : sizeA P e = some es)
include hu hs
omit [Go.Ab.Start] in
theorem slice_to {k : IntKind} {b : Int} (h0 : 0 ≤ b) (h : b ≤ c) : sliceA P t (.slice (some ⟨i, q, none⟩) n c) none (some (.int k b)) none = some (.slice (some ⟨i, q, none⟩) b.toNat c) := by
  simp only [sliceA, hu, hs, boundsA, boundA, Option.bind_some, h0, h, and_self, if_true, Option.map_some]
  rfl
omit [Go.Ab.Start] in
theorem slice_from {k : IntKind} {a : Int} (hes : 0 < es) (h0 : 0 ≤ a) (h1 : a ≤ n) (h2 : a < c) : sliceA P t (.slice (some ⟨i, q, none⟩) n c) (some (.int k a)) none none = some (if a = 0 then .slice (some ⟨i, q, none⟩) n c else .slice (some ⟨i, q + a.toNat * es, none⟩) (n - a.toNat) (c - a.toNat)) := by
  simp only [sliceA, hu, hs, boundsA, boundA, Option.bind_some, h0, h1, and_self, if_true, Option.map_some, Option.isSome_none, Bool.false_eq_true, if_false]
  by_cases ha : a = 0
  · subst ha; simp
  · have : a.toNat ≠ 0 := by omega
    have h3 : a.toNat < c := by omega
    simp only [if_neg this, if_neg ha, if_pos h3, if_pos hes]
end
omit [Go.Ab.Start] in
theorem idx_string {t : TypeId} {s : ByteArray} {k : IntKind} {i : Int} (hu : P.underlying t = some .string) (h0 : 0 ≤ i) (h : i < s.size) : indexA P t (.string s) (.int k i) = some (.int .u8 (getB s i.toNat).toNat) := indexA_string hu h0 h
omit [Go.Ab.Start] in
theorem sliceObj_agg {t : TypeId} {n : Nat} {ps : List (Nat × Value)} {cs : Array Value} (h : buildSliceA P t n ps = some cs) : sliceObj P t n ps = if cs.toList.all (·.oneCell') = true then some (.cells cs.toList) else none := by
  simp only [sliceObj, h]
/-- What holds behind a round, or at a seam, is reached. -/
theorem inv_i {k : Kont} {R : Env → AHeap → Prop} (h : R env H) : W P (.ex .normal (.inv R k)) env H := .eInv h
omit [Go.Ab.Start] in
theorem Grew.none {H H' : AHeap} (h : Grew H H') {i : Nat} (hi : H' i = .none) : H i = .none := by
  cases h0 : H i with
  | none => rfl
  | _ => have := h i (by rw [h0]; simp); rw [hi, h0] at this; cases this
omit [Go.Ab.Start] in
theorem Grew.new {H H' : AHeap} (h : Grew H H') {i : Nat} (o : AObj) (hi : H' i = .none) : Grew H (H'.set i o) := h.set o (h.none hi)
omit [Go.Ab.Start] in
theorem Grew.get {H H' : AHeap} (h : Grew H H') {j : Nat} (hj : (H j).isNone = false) : H' j = H j := h j fun e => by rw [e] at hj; cases hj
attribute [go_sem ↓] w_seq w_skip w_ret w_exit w_block w_region w_cond e_seq e_seq_exit e_seq_ret e_blk e_blk_ret e_blk_exit e_inv_exit e_inv_ret e_fin0 e_fin0' e_fin1 e_fin2 e_fin3 e_fin4 e_finC
  o_nil o_guard o_move o_assign o_pick o_build o_load o_nilCheck o_bin o_un o_convert o_makeInterface o_makeFunc o_slice o_fieldAddr o_field o_indexAddr o_index o_lookup o_extract o_len o_store o_alloc o_box o_buildSlice o_makeMap o_makeSlice o_mapUpdate o_append o_min min_le min_lt o_call o_invoke
  ev_tmp ev_const ev_func put_get put_none env0_get' over_get yield_get dstAt_0 dstAt_s List.set_cons_zero List.set_cons_succ List.getD_cons_zero List.getD_cons_succ List.getElem?_cons_zero List.getElem?_cons_succ
attribute [go_sem] onBool_true onBool_false onYield_none onYield_tt onYield_ff onYield_tf onYield_ft onV_some onH_some onMake_some pick_true pick_false pick_bool load_none load_cell nil_ptr nil_func nil_iface tuple_get
  bi_add bi_sub bi_mul bi_eql bi_neq bi_lss bi_leq bi_gtr bi_geq bi_and bi_or bi_xor bi_quo bi_rem bi_shl bi_shr bs_eql bs_neq bs_add bv_int bv_string un_not un_neg wrapI64 wrapU64 wrapU8 wrapU32 wrap_byte wrap_byteU wrap_byteB
  read_cell read_ro read_agg read_agg_ro read_agg_cons set_set store_go write_one write_one_cons write_many putL_nil putL_cons onK_some box_go cells_bool cells_int cells_string cells_pointer cells_slice cells_iface cells_nil cells_nilF cells_func cells_map cells_agg one_bool one_int one_string one_pointer one_slice one_iface one_nil one_nilF one_func one_map scalar_int scalar_string
  List.getElem?_toArray List.extract_toArray List.toList_toArray List.size_toArray List.map_toArray List.map_cons List.map_nil Option.map_some Option.map_none boolAt_some boolV_bool boolV_undef List.length_cons List.length_nil List.all_cons List.all_nil Option.bind_some Option.bind_none Bool.and_true Bool.true_and Bool.and_false Bool.false_and Bool.and_self Bool.or_true Bool.true_or Bool.or_false Bool.false_or Bool.not_true Bool.not_false Bool.not_not decide_true decide_false Bool.false_eq_true Bool.true_eq_false not_true_eq_false not_false_eq_true decide_eq_true_eq decide_eq_false_iff_not ite_true ite_false eq_self Int.toNat_natCast Int.toNat_zero Int.cast_ofNat_Int tn_succ tn_sub tn_sub1 tn_sub2 tn_add Nat.mul_one Nat.zero_add Nat.add_zero List.drop_zero List.drop_succ_cons List.take_succ_cons List.take_zero Nat.testBit ptr_val new_ptr new_slice new_map none_cells none_ro none_map AHeap.set_same set_other set_new sliceA_int sliceA_to sliceA_both sliceA_all
end Go.Ab
