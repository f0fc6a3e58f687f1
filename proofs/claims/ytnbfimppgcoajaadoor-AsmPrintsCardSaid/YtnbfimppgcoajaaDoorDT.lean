/-
  A part of the proofs: DT.
-/
import Derived.Test.YtnbfimppgcoajaaDoorAbV
import Derived.Test.YtnbfimppgcoajaaDoorProg
import Derived.KernelRfl
namespace Go.Proofs
set_option linter.unusedSimpArgs false
set_option linter.unusedVariables false
set_option linter.unusedSectionVars false
open Go Go.Ab
variable [Go.Ab.Start]
theorem D.mixed : Tryd.prog.follows .mixedOrders = true := by kernel_rfl
theorem D.u9 : Tryd.prog.underlying 9 = some .string := by kernel_rfl
theorem D.le9 (H : AHeap) (s : ByteArray) : lenVal Tryd.prog H 9 (.string s) = some (.int .i64 s.size) := len_string D.u9 s
theorem D.is9 {s : ByteArray} {k : IntKind} {i : Int} (h0 : 0 ≤ i) (h : i < s.size) : indexA Tryd.prog 9 (.string s) (.int k i) = some (.int .u8 (getB s i.toNat).toNat) := idx_string D.u9 h0 h
theorem D.u24 : Tryd.prog.underlying 24 = some (.slice 9) := by kernel_rfl
theorem D.bs24_5_0_1_2_3_4 (x0 : ByteArray) (x1 : ByteArray) (x2 : ByteArray) (x3 : ByteArray) (x4 : ByteArray) : sliceObj Tryd.prog 24 5 [(0, .string x0), (1, .string x1), (2, .string x2), (3, .string x3), (4, .string x4)] = some (.cells [.string x0, .string x1, .string x2, .string x3, .string x4]) := by kernel_rfl
theorem D.s9 : sizeA Tryd.prog 9 = some 1 := by kernel_rfl
theorem D.ix24 {j q n c : Nat} {k : IntKind} {i : Int} (h0 : 0 ≤ i) (h : i < n) : indexAddrA Tryd.prog 24 (.slice (some ⟨j, q, none⟩) n c) (.int k i) = some (.pointer (some ⟨j, q + i.toNat * 1, none⟩)) := index_addr D.u24 D.s9 h0 h
theorem D.a9 : aggA Tryd.prog 9 = some none := by kernel_rfl
theorem D.sl9t {s : ByteArray} {k : IntKind} {b : Int} (h0 : 0 ≤ b) (h2 : b ≤ s.size) : sliceA Tryd.prog 9 (.string s) none (some (.int k b)) none = some (.string (s.extract 0 b.toNat)) := slice_string_to D.u9 h0 h2
theorem D.sl9f {s : ByteArray} {k : IntKind} {a : Int} (h0 : 0 ≤ a) (h2 : a ≤ s.size) : sliceA Tryd.prog 9 (.string s) (some (.int k a)) none none = some (.string (s.extract a.toNat s.size)) := slice_string_from D.u9 h0 h2
theorem D.ineq28a (H : AHeap) (a : Operand) : binV Tryd.prog H .neq 28 a (.const .nilIface) .nilIface .nilIface = some (.bool false) := by cases a <;> kernel_rfl
theorem D.ineq28b (H : AHeap) (a b : Operand) (i : TypeId) (q : Addr) : binV Tryd.prog H .neq 28 a b (.iface i (.pointer (some q))) .nilIface = some (.bool true) := by kernel_rfl
theorem D.u25 : Tryd.prog.underlying 25 = some (.slice 37) := by kernel_rfl
theorem D.le25 (H : AHeap) (a : Option Addr) (n c : Nat) : lenVal Tryd.prog H 25 (.slice a n c) = some (.int .i64 n) := len_slice D.u25 a n c
theorem D.u26 : Tryd.prog.underlying 26 = some (.slice 33) := by kernel_rfl
theorem D.le26 (H : AHeap) (a : Option Addr) (n c : Nat) : lenVal Tryd.prog H 26 (.slice a n c) = some (.int .i64 n) := len_slice D.u26 a n c
theorem D.s33 : sizeA Tryd.prog 33 = some 2 := by kernel_rfl
theorem D.ix26 {j q n c : Nat} {k : IntKind} {i : Int} (h0 : 0 ≤ i) (h : i < n) : indexAddrA Tryd.prog 26 (.slice (some ⟨j, q, none⟩) n c) (.int k i) = some (.pointer (some ⟨j, q + i.toNat * 2, none⟩)) := index_addr D.u26 D.s33 h0 h
theorem D.a33 : aggA Tryd.prog 33 = some (some 2) := by kernel_rfl
theorem D.ieql28a (H : AHeap) (a : Operand) : binV Tryd.prog H .eql 28 a (.const .nilIface) .nilIface .nilIface = some (.bool true) := by cases a <;> kernel_rfl
theorem D.ieql28b (H : AHeap) (a b : Operand) (i : TypeId) (q : Addr) : binV Tryd.prog H .eql 28 a b (.iface i (.pointer (some q))) .nilIface = some (.bool false) := by kernel_rfl
theorem D.s37 : sizeA Tryd.prog 37 = some 7 := by kernel_rfl
theorem D.ix25 {j q n c : Nat} {k : IntKind} {i : Int} (h0 : 0 ≤ i) (h : i < n) : indexAddrA Tryd.prog 25 (.slice (some ⟨j, q, none⟩) n c) (.int k i) = some (.pointer (some ⟨j, q + i.toNat * 7, none⟩)) := index_addr D.u25 D.s37 h0 h
theorem D.fa37_4 (i k : Nat) : fieldAddrA Tryd.prog 37 (.pointer (some ⟨i, k, none⟩)) 4 = some (.pointer (some ⟨i, k + 4, none⟩)) := field_addr (by kernel_rfl) i k
theorem D.a35 : aggA Tryd.prog 35 = some none := by kernel_rfl
theorem D.fa33_0 (i k : Nat) : fieldAddrA Tryd.prog 33 (.pointer (some ⟨i, k, none⟩)) 0 = some (.pointer (some ⟨i, k + 0, none⟩)) := field_addr (by kernel_rfl) i k
theorem D.sl9b {s : ByteArray} {k k' : IntKind} {a b : Int} (h0 : 0 ≤ a) (h1 : a ≤ b) (h2 : b ≤ s.size) : sliceA Tryd.prog 9 (.string s) (some (.int k a)) (some (.int k' b)) none = some (.string (s.extract a.toNat b.toNat)) := slice_string D.u9 h0 h1 h2
theorem D.sl25t {i q n c : Nat} {k : IntKind} {b : Int} (h0 : 0 ≤ b) (h : b ≤ c) : sliceA Tryd.prog 25 (.slice (some ⟨i, q, none⟩) n c) none (some (.int k b)) none = some (.slice (some ⟨i, q, none⟩) b.toNat c) := slice_to D.u25 D.s37 h0 h
theorem D.a37 : aggA Tryd.prog 37 = some (some 7) := by kernel_rfl
theorem D.z37 : zeroObj Tryd.prog 37 = some (.cells [.int .i64 0, .int .i64 0, .int .i64 0, .int .i64 0, .int .u64 0, .int .i64 0, .int .i64 0]) := by kernel_rfl
theorem D.fa37_0 (i k : Nat) : fieldAddrA Tryd.prog 37 (.pointer (some ⟨i, k, none⟩)) 0 = some (.pointer (some ⟨i, k + 0, none⟩)) := field_addr (by kernel_rfl) i k
theorem D.a3 : aggA Tryd.prog 3 = some none := by kernel_rfl
theorem D.cv3_35 (H : AHeap) (k : IntKind) (n : Int) : convV Tryd.prog H 3 35 (.int k n) = some (.int .u64 (IntKind.wrap .u64 n)) := conv_int (k := .u64) (d := .int .i64) (by kernel_rfl) (by kernel_rfl) n
theorem D.s35 : sizeA Tryd.prog 35 = some 1 := by kernel_rfl
theorem D.fa33_1 (i k : Nat) : fieldAddrA Tryd.prog 33 (.pointer (some ⟨i, k, none⟩)) 1 = some (.pointer (some ⟨i, k + 1, none⟩)) := field_addr (by kernel_rfl) i k
theorem D.fa37_3 (i k : Nat) : fieldAddrA Tryd.prog 37 (.pointer (some ⟨i, k, none⟩)) 3 = some (.pointer (some ⟨i, k + 3, none⟩)) := field_addr (by kernel_rfl) i k
theorem D.fa37_5 (i k : Nat) : fieldAddrA Tryd.prog 37 (.pointer (some ⟨i, k, none⟩)) 5 = some (.pointer (some ⟨i, k + 5, none⟩)) := field_addr (by kernel_rfl) i k
theorem D.fa37_6 (i k : Nat) : fieldAddrA Tryd.prog 37 (.pointer (some ⟨i, k, none⟩)) 6 = some (.pointer (some ⟨i, k + 6, none⟩)) := field_addr (by kernel_rfl) i k
theorem D.co41 (v : Value) : mkIface Tryd.prog 41 v = some (.iface 41 v) := mkIface_of (by kernel_rfl) v
theorem D.b60_3 (x3 : Option Nat) : buildA Tryd.prog 60 [(3, .map x3)] = some #[.slice none 0 0, .slice none 0 0, .slice none 0 0, .map x3, .slice none 0 0] := by kernel_rfl
theorem D.le24 (H : AHeap) (a : Option Addr) (n c : Nat) : lenVal Tryd.prog H 24 (.slice a n c) = some (.int .i64 n) := len_slice D.u24 a n c
theorem D.fa60_4 (i k : Nat) : fieldAddrA Tryd.prog 60 (.pointer (some ⟨i, k, none⟩)) 4 = some (.pointer (some ⟨i, k + 4, none⟩)) := field_addr (by kernel_rfl) i k
theorem D.a58 : aggA Tryd.prog 58 = some none := by kernel_rfl
theorem D.u58 : Tryd.prog.underlying 58 = some (.slice 64) := by kernel_rfl
theorem D.le58 (H : AHeap) (a : Option Addr) (n c : Nat) : lenVal Tryd.prog H 58 (.slice a n c) = some (.int .i64 n) := len_slice D.u58 a n c
theorem D.s64 : sizeA Tryd.prog 64 = some 3 := by kernel_rfl
theorem D.ix58 {j q n c : Nat} {k : IntKind} {i : Int} (h0 : 0 ≤ i) (h : i < n) : indexAddrA Tryd.prog 58 (.slice (some ⟨j, q, none⟩) n c) (.int k i) = some (.pointer (some ⟨j, q + i.toNat * 3, none⟩)) := index_addr D.u58 D.s64 h0 h
theorem D.a64 : aggA Tryd.prog 64 = some (some 3) := by kernel_rfl
theorem D.z64 : zeroObj Tryd.prog 64 = some (.cells [.int .i64 0, .int .i64 0, .string ⟨#[]⟩]) := by kernel_rfl
theorem D.fa60_3 (i k : Nat) : fieldAddrA Tryd.prog 60 (.pointer (some ⟨i, k, none⟩)) 3 = some (.pointer (some ⟨i, k + 3, none⟩)) := field_addr (by kernel_rfl) i k
theorem D.a56 : aggA Tryd.prog 56 = some none := by kernel_rfl
theorem D.fa64_2 (i k : Nat) : fieldAddrA Tryd.prog 64 (.pointer (some ⟨i, k, none⟩)) 2 = some (.pointer (some ⟨i, k + 2, none⟩)) := field_addr (by kernel_rfl) i k
theorem D.m56 : mapTyA Tryd.prog 56 = some ⟨9, .string, 3⟩ := by kernel_rfl
theorem D.fa64_1 (i k : Nat) : fieldAddrA Tryd.prog 64 (.pointer (some ⟨i, k, none⟩)) 1 = some (.pointer (some ⟨i, k + 1, none⟩)) := field_addr (by kernel_rfl) i k
theorem D.fa60_0 (i k : Nat) : fieldAddrA Tryd.prog 60 (.pointer (some ⟨i, k, none⟩)) 0 = some (.pointer (some ⟨i, k + 0, none⟩)) := field_addr (by kernel_rfl) i k
theorem D.a25 : aggA Tryd.prog 25 = some none := by kernel_rfl
theorem D.fa64_0 (i k : Nat) : fieldAddrA Tryd.prog 64 (.pointer (some ⟨i, k, none⟩)) 0 = some (.pointer (some ⟨i, k + 0, none⟩)) := field_addr (by kernel_rfl) i k
theorem D.fa60_1 (i k : Nat) : fieldAddrA Tryd.prog 60 (.pointer (some ⟨i, k, none⟩)) 1 = some (.pointer (some ⟨i, k + 1, none⟩)) := field_addr (by kernel_rfl) i k
theorem D.a26 : aggA Tryd.prog 26 = some none := by kernel_rfl
theorem D.z33 : zeroObj Tryd.prog 33 = some (.cells [.string ⟨#[]⟩, .int .i64 0]) := by kernel_rfl
theorem D.fa60_2 (i k : Nat) : fieldAddrA Tryd.prog 60 (.pointer (some ⟨i, k, none⟩)) 2 = some (.pointer (some ⟨i, k + 2, none⟩)) := field_addr (by kernel_rfl) i k
theorem D.a57 : aggA Tryd.prog 57 = some none := by kernel_rfl
theorem D.u57 : Tryd.prog.underlying 57 = some (.slice 3) := by kernel_rfl
theorem D.s3 : sizeA Tryd.prog 3 = some 1 := by kernel_rfl
theorem D.ix57 {j q n c : Nat} {k : IntKind} {i : Int} (h0 : 0 ≤ i) (h : i < n) : indexAddrA Tryd.prog 57 (.slice (some ⟨j, q, none⟩) n c) (.int k i) = some (.pointer (some ⟨j, q + i.toNat * 1, none⟩)) := index_addr D.u57 D.s3 h0 h
theorem D.peql39a (H : AHeap) (a b : Operand) : binV Tryd.prog H .eql 39 a b (.pointer none) (.pointer none) = some (.bool true) := by kernel_rfl
theorem D.peql39b (H : AHeap) (a b : Operand) (q : Addr) : binV Tryd.prog H .eql 39 a b (.pointer (some q)) (.pointer none) = some (.bool false) := by kernel_rfl
theorem D.fa67_2 (i k : Nat) : fieldAddrA Tryd.prog 67 (.pointer (some ⟨i, k, none⟩)) 2 = some (.pointer (some ⟨i, k + 2, none⟩)) := field_addr (by kernel_rfl) i k
theorem D.a41 : aggA Tryd.prog 41 = some none := by kernel_rfl
theorem D.fa67_0 (i k : Nat) : fieldAddrA Tryd.prog 67 (.pointer (some ⟨i, k, none⟩)) 0 = some (.pointer (some ⟨i, k + 0, none⟩)) := field_addr (by kernel_rfl) i k
theorem D.a24 : aggA Tryd.prog 24 = some none := by kernel_rfl
theorem D.z68 : zeroObj Tryd.prog 68 = some (.cells [.pointer none]) := by kernel_rfl
theorem D.co70 (v : Value) : mkIface Tryd.prog 70 v = some (.iface 70 v) := mkIface_of (by kernel_rfl) v
theorem D.a68 : aggA Tryd.prog 68 = some none := by kernel_rfl
theorem D.peql68a (H : AHeap) (a b : Operand) : binV Tryd.prog H .eql 68 a b (.pointer none) (.pointer none) = some (.bool true) := by kernel_rfl
theorem D.peql68b (H : AHeap) (a b : Operand) (q : Addr) : binV Tryd.prog H .eql 68 a b (.pointer (some q)) (.pointer none) = some (.bool false) := by kernel_rfl
theorem D.fa72_0 (i k : Nat) : fieldAddrA Tryd.prog 72 (.pointer (some ⟨i, k, none⟩)) 0 = some (.pointer (some ⟨i, k + 0, none⟩)) := field_addr (by kernel_rfl) i k
theorem D.fa72_1 (i k : Nat) : fieldAddrA Tryd.prog 72 (.pointer (some ⟨i, k, none⟩)) 1 = some (.pointer (some ⟨i, k + 1, none⟩)) := field_addr (by kernel_rfl) i k
theorem D.fa67_1 (i k : Nat) : fieldAddrA Tryd.prog 67 (.pointer (some ⟨i, k, none⟩)) 1 = some (.pointer (some ⟨i, k + 1, none⟩)) := field_addr (by kernel_rfl) i k
theorem D.fa72_2 (i k : Nat) : fieldAddrA Tryd.prog 72 (.pointer (some ⟨i, k, none⟩)) 2 = some (.pointer (some ⟨i, k + 2, none⟩)) := field_addr (by kernel_rfl) i k
theorem D.a28 : aggA Tryd.prog 28 = some none := by kernel_rfl
theorem D.bs24_1_0 (x0 : ByteArray) : sliceObj Tryd.prog 24 1 [(0, .string x0)] = some (.cells [.string x0]) := by kernel_rfl
theorem D.bs57_1_0 (x0 : Int) : sliceObj Tryd.prog 57 1 [(0, .int .i64 x0)] = some (.cells [.int .i64 x0]) := by kernel_rfl
theorem D.b67_0_1_2 (x0 : Option Addr) (n0 c0 : Nat) (x1 : Option Addr) (n1 c1 : Nat) (x2 : Int) : buildA Tryd.prog 67 [(0, .slice x0 n0 c0), (1, .slice x1 n1 c1), (2, .int .i64 x2)] = some #[.slice x0 n0 c0, .slice x1 n1 c1, .int .i64 x2] := by kernel_rfl
theorem D.u74 : Tryd.prog.underlying 74 = some (.slice 4) := by kernel_rfl
theorem D.s4 : sizeA Tryd.prog 4 = some 1 := by kernel_rfl
theorem D.ix74 {j q n c : Nat} {k : IntKind} {i : Int} (h0 : 0 ≤ i) (h : i < n) : indexAddrA Tryd.prog 74 (.slice (some ⟨j, q, none⟩) n c) (.int k i) = some (.pointer (some ⟨j, q + i.toNat * 1, none⟩)) := index_addr D.u74 D.s4 h0 h
theorem D.a4 : aggA Tryd.prog 4 = some none := by kernel_rfl
theorem D.e75 : elemA Tryd.prog 75 = some ⟨5, 1, 1⟩ := by kernel_rfl
theorem D.u75 : Tryd.prog.underlying 75 = some (.slice 5) := by kernel_rfl
theorem D.bs75_1_0 (x0 : Int) : sliceObj Tryd.prog 75 1 [(0, .int .u8 x0)] = some (.cells [.int .u8 x0]) := by kernel_rfl
theorem D.e25 : elemA Tryd.prog 25 = some ⟨37, 7, 56⟩ := by kernel_rfl
theorem D.z47 : zeroObj Tryd.prog 47 = some (.cells [.bool false, .bool false, .bool false, .bool false, .bool false, .bool false, .bool false, .bool false]) := by kernel_rfl
theorem D.b47_7 (x7 : Bool) : buildA Tryd.prog 47 [(7, .bool x7)] = some #[.bool false, .bool false, .bool false, .bool false, .bool false, .bool false, .bool false, .bool x7] := by kernel_rfl
theorem D.s47 : sizeA Tryd.prog 47 = some 8 := by kernel_rfl
theorem D.fa47_0 (i k : Nat) : fieldAddrA Tryd.prog 47 (.pointer (some ⟨i, k, none⟩)) 0 = some (.pointer (some ⟨i, k + 0, none⟩)) := field_addr (by kernel_rfl) i k
theorem D.fa47_3 (i k : Nat) : fieldAddrA Tryd.prog 47 (.pointer (some ⟨i, k, none⟩)) 3 = some (.pointer (some ⟨i, k + 3, none⟩)) := field_addr (by kernel_rfl) i k
theorem D.fa47_1 (i k : Nat) : fieldAddrA Tryd.prog 47 (.pointer (some ⟨i, k, none⟩)) 1 = some (.pointer (some ⟨i, k + 1, none⟩)) := field_addr (by kernel_rfl) i k
theorem D.fa47_2 (i k : Nat) : fieldAddrA Tryd.prog 47 (.pointer (some ⟨i, k, none⟩)) 2 = some (.pointer (some ⟨i, k + 2, none⟩)) := field_addr (by kernel_rfl) i k
theorem D.fa47_5 (i k : Nat) : fieldAddrA Tryd.prog 47 (.pointer (some ⟨i, k, none⟩)) 5 = some (.pointer (some ⟨i, k + 5, none⟩)) := field_addr (by kernel_rfl) i k
theorem D.fa47_6 (i k : Nat) : fieldAddrA Tryd.prog 47 (.pointer (some ⟨i, k, none⟩)) 6 = some (.pointer (some ⟨i, k + 6, none⟩)) := field_addr (by kernel_rfl) i k
theorem D.fa47_4 (i k : Nat) : fieldAddrA Tryd.prog 47 (.pointer (some ⟨i, k, none⟩)) 4 = some (.pointer (some ⟨i, k + 4, none⟩)) := field_addr (by kernel_rfl) i k
theorem D.fa47_7 (i k : Nat) : fieldAddrA Tryd.prog 47 (.pointer (some ⟨i, k, none⟩)) 7 = some (.pointer (some ⟨i, k + 7, none⟩)) := field_addr (by kernel_rfl) i k
theorem D.a47 : aggA Tryd.prog 47 = some (some 8) := by kernel_rfl
theorem D.b72_0_1_2_0 (x0 : ByteArray) (x1 : Int) (t2 : TypeId) (x2 : Value) : buildA Tryd.prog 72 [(0, .string x0), (1, .int .i64 x1), (2, .iface t2 x2)] = some #[.string x0, .int .i64 x1, .iface t2 x2] := by kernel_rfl
theorem D.b72_0_1_2_1 (x0 : ByteArray) (x1 : Int)  : buildA Tryd.prog 72 [(0, .string x0), (1, .int .i64 x1), (2, .nilIface)] = some #[.string x0, .int .i64 x1, .nilIface] := by kernel_rfl
theorem D.co68 (v : Value) : mkIface Tryd.prog 68 v = some (.iface 68 v) := mkIface_of (by kernel_rfl) v
theorem D.b33_0_1 (x0 : ByteArray) (x1 : Int) : buildA Tryd.prog 33 [(0, .string x0), (1, .int .i64 x1)] = some #[.string x0, .int .i64 x1] := by kernel_rfl
theorem D.bs26_1_0 (y0_0 y0_1 : Value) : sliceObj Tryd.prog 26 1 [(0, .agg #[y0_0, y0_1])] = if [y0_0, y0_1].all (·.oneCell') = true then some (.cells [y0_0, y0_1]) else none := sliceObj_agg (cs := #[y0_0, y0_1]) (by kernel_rfl)
theorem D.e26 : elemA Tryd.prog 26 = some ⟨33, 2, 24⟩ := by kernel_rfl
theorem D.s26 : sizeA Tryd.prog 26 = some 1 := by kernel_rfl
theorem D.e57 : elemA Tryd.prog 57 = some ⟨3, 1, 8⟩ := by kernel_rfl
theorem D.s57 : sizeA Tryd.prog 57 = some 1 := by kernel_rfl
theorem D.b37_0 (x0 : Int) : buildA Tryd.prog 37 [(0, .int .i64 x0)] = some #[.int .i64 x0, .int .i64 0, .int .i64 0, .int .i64 0, .int .u64 0, .int .i64 0, .int .i64 0] := by kernel_rfl
theorem D.sl24f {i q n c : Nat} {k : IntKind} {a : Int} (h0 : 0 ≤ a) (h1 : a ≤ n) (h2 : a < c) : sliceA Tryd.prog 24 (.slice (some ⟨i, q, none⟩) n c) (some (.int k a)) none none = some (if a = 0 then .slice (some ⟨i, q, none⟩) n c else .slice (some ⟨i, q + a.toNat * 1, none⟩) (n - a.toNat) (c - a.toNat)) := slice_from D.u24 D.s9 (by decide) h0 h1 h2
theorem D.z78 : zeroObj Tryd.prog 78 = some (.cells [.int .i64 0, .int .i64 0, .int .i64 0]) := by kernel_rfl
theorem D.s78 : sizeA Tryd.prog 78 = some 3 := by kernel_rfl
theorem D.u78 : Tryd.prog.underlying 78 = some (.array 3 3) := by kernel_rfl
theorem D.ix78 {j q : Nat} {k : IntKind} {i : Int} (h0 : 0 ≤ i) (h : i < 3) : indexAddrA Tryd.prog 78 (.pointer (some ⟨j, q, none⟩)) (.int k i) = some (.pointer (some ⟨j, q + i.toNat * 1, none⟩)) := index_arr D.u78 D.s3 h0 h
theorem D.bs25_1_0 (y0_0 y0_1 y0_2 y0_3 y0_4 y0_5 y0_6 : Value) : sliceObj Tryd.prog 25 1 [(0, .agg #[y0_0, y0_1, y0_2, y0_3, y0_4, y0_5, y0_6])] = if [y0_0, y0_1, y0_2, y0_3, y0_4, y0_5, y0_6].all (·.oneCell') = true then some (.cells [y0_0, y0_1, y0_2, y0_3, y0_4, y0_5, y0_6]) else none := sliceObj_agg (cs := #[y0_0, y0_1, y0_2, y0_3, y0_4, y0_5, y0_6]) (by kernel_rfl)
theorem D.s25 : sizeA Tryd.prog 25 = some 1 := by kernel_rfl
theorem D.ieql20a (H : AHeap) (a : Operand) : binV Tryd.prog H .eql 20 a (.const .nilIface) .nilIface .nilIface = some (.bool true) := by cases a <;> kernel_rfl
theorem D.ieql20b (H : AHeap) (a b : Operand) (i : TypeId) (q : Addr) : binV Tryd.prog H .eql 20 a b (.iface i (.pointer (some q))) .nilIface = some (.bool false) := by kernel_rfl
theorem D.co9 (v : Value) : mkIface Tryd.prog 9 v = some (.iface 9 v) := mkIface_of (by kernel_rfl) v
theorem D.z93 : zeroObj Tryd.prog 93 = some (.cells [.pointer none, .pointer none, .int .u64 0]) := by kernel_rfl
theorem D.s93 : sizeA Tryd.prog 93 = some 3 := by kernel_rfl
theorem D.a93 : aggA Tryd.prog 93 = some (some 3) := by kernel_rfl
theorem D.a96 : aggA Tryd.prog 96 = some none := by kernel_rfl
theorem D.u103 : Tryd.prog.underlying 103 = some (.slice 28) := by kernel_rfl
theorem D.bs103_2_0_1_0 (t0 : TypeId) (x0 : Value) (t1 : TypeId) (x1 : Value) : sliceObj Tryd.prog 103 2 [(0, .iface t0 x0), (1, .iface t1 x1)] = some (.cells [.iface t0 x0, .iface t1 x1]) := by kernel_rfl
theorem D.bs103_2_0_1_1 (t0 : TypeId) (x0 : Value)  : sliceObj Tryd.prog 103 2 [(0, .iface t0 x0), (1, .nilIface)] = some (.cells [.iface t0 x0, .nilIface]) := by kernel_rfl
theorem D.bs103_2_0_1_2  (t1 : TypeId) (x1 : Value) : sliceObj Tryd.prog 103 2 [(0, .nilIface), (1, .iface t1 x1)] = some (.cells [.nilIface, .iface t1 x1]) := by kernel_rfl
theorem D.bs103_2_0_1_3   : sliceObj Tryd.prog 103 2 [(0, .nilIface), (1, .nilIface)] = some (.cells [.nilIface, .nilIface]) := by kernel_rfl
theorem D.le103 (H : AHeap) (a : Option Addr) (n c : Nat) : lenVal Tryd.prog H 103 (.slice a n c) = some (.int .i64 n) := len_slice D.u103 a n c
theorem D.s28 : sizeA Tryd.prog 28 = some 1 := by kernel_rfl
theorem D.ix103 {j q n c : Nat} {k : IntKind} {i : Int} (h0 : 0 ≤ i) (h : i < n) : indexAddrA Tryd.prog 103 (.slice (some ⟨j, q, none⟩) n c) (.int k i) = some (.pointer (some ⟨j, q + i.toNat * 1, none⟩)) := index_addr D.u103 D.s28 h0 h
theorem D.b78_0_1 (x0 : Int) (x1 : Int) : buildA Tryd.prog 78 [(0, .int .i64 x0), (1, .int .i64 x1)] = some #[.int .i64 x0, .int .i64 x1, .int .i64 0] := by kernel_rfl
theorem D.b78_0 (x0 : Int) : buildA Tryd.prog 78 [(0, .int .i64 x0)] = some #[.int .i64 x0, .int .i64 0, .int .i64 0] := by kernel_rfl
theorem D.b78_0_1_2 (x0 : Int) (x1 : Int) (x2 : Int) : buildA Tryd.prog 78 [(0, .int .i64 x0), (1, .int .i64 x1), (2, .int .i64 x2)] = some #[.int .i64 x0, .int .i64 x1, .int .i64 x2] := by kernel_rfl
theorem D.b78_  : buildA Tryd.prog 78 [] = some #[.int .i64 0, .int .i64 0, .int .i64 0] := by kernel_rfl
theorem D.a78 : aggA Tryd.prog 78 = some (some 3) := by kernel_rfl
theorem D.fa37_1 (i k : Nat) : fieldAddrA Tryd.prog 37 (.pointer (some ⟨i, k, none⟩)) 1 = some (.pointer (some ⟨i, k + 1, none⟩)) := field_addr (by kernel_rfl) i k
theorem D.fa37_2 (i k : Nat) : fieldAddrA Tryd.prog 37 (.pointer (some ⟨i, k, none⟩)) 2 = some (.pointer (some ⟨i, k + 2, none⟩)) := field_addr (by kernel_rfl) i k
theorem D.le57 (H : AHeap) (a : Option Addr) (n c : Nat) : lenVal Tryd.prog H 57 (.slice a n c) = some (.int .i64 n) := len_slice D.u57 a n c
theorem D.bs24_3_0_1_2 (x0 : ByteArray) (x1 : ByteArray) (x2 : ByteArray) : sliceObj Tryd.prog 24 3 [(0, .string x0), (1, .string x1), (2, .string x2)] = some (.cells [.string x0, .string x1, .string x2]) := by kernel_rfl
theorem D.sl24t {i q n c : Nat} {k : IntKind} {b : Int} (h0 : 0 ≤ b) (h : b ≤ c) : sliceA Tryd.prog 24 (.slice (some ⟨i, q, none⟩) n c) none (some (.int k b)) none = some (.slice (some ⟨i, q, none⟩) b.toNat c) := slice_to D.u24 D.s9 h0 h
theorem D.e24 : elemA Tryd.prog 24 = some ⟨9, 1, 16⟩ := by kernel_rfl
theorem D.b64_0_1_2 (x0 : Int) (x1 : Int) (x2 : ByteArray) : buildA Tryd.prog 64 [(0, .int .i64 x0), (1, .int .i64 x1), (2, .string x2)] = some #[.int .i64 x0, .int .i64 x1, .string x2] := by kernel_rfl
theorem D.bs58_1_0 (y0_0 y0_1 y0_2 : Value) : sliceObj Tryd.prog 58 1 [(0, .agg #[y0_0, y0_1, y0_2])] = if [y0_0, y0_1, y0_2].all (·.oneCell') = true then some (.cells [y0_0, y0_1, y0_2]) else none := sliceObj_agg (cs := #[y0_0, y0_1, y0_2]) (by kernel_rfl)
theorem D.e58 : elemA Tryd.prog 58 = some ⟨64, 3, 32⟩ := by kernel_rfl
theorem D.s58 : sizeA Tryd.prog 58 = some 1 := by kernel_rfl
theorem D.cv35_3 (H : AHeap) (k : IntKind) (n : Int) : convV Tryd.prog H 35 3 (.int k n) = some (.int .i64 (IntKind.wrap .i64 n)) := conv_int (k := .i64) (d := .int .u64) (by kernel_rfl) (by kernel_rfl) n
theorem D.z130 : zeroObj Tryd.prog 130 = some (.cells [.int .u8 0, .int .u8 0, .int .u8 0, .int .u8 0, .int .u8 0, .int .u8 0, .int .u8 0, .int .u8 0, .int .u8 0, .int .u8 0, .int .u8 0, .int .u8 0, .int .u8 0, .int .u8 0, .int .u8 0, .int .u8 0, .int .u8 0, .int .u8 0, .int .u8 0, .int .u8 0]) := by kernel_rfl
theorem D.cv35_5 (H : AHeap) (k : IntKind) (n : Int) : convV Tryd.prog H 35 5 (.int k n) = some (.int .u8 (IntKind.wrap .u8 n)) := conv_int (k := .u8) (d := .int .u64) (by kernel_rfl) (by kernel_rfl) n
theorem D.u130 : Tryd.prog.underlying 130 = some (.array 20 5) := by kernel_rfl
theorem D.s5 : sizeA Tryd.prog 5 = some 1 := by kernel_rfl
theorem D.ix130 {j q : Nat} {k : IntKind} {i : Int} (h0 : 0 ≤ i) (h : i < 20) : indexAddrA Tryd.prog 130 (.pointer (some ⟨j, q, none⟩)) (.int k i) = some (.pointer (some ⟨j, q + i.toNat * 1, none⟩)) := index_arr D.u130 D.s5 h0 h
theorem D.bs24_58_0_1_2_3_4_5_6_7_8_9_10_11_12_13_14_15_16_17_18_19_20_21_22_23_24_25_26_27_28_29_30_31_32_33_34_35_36_37_38_39_40_41_42_43_44_45_46_47_48_49_50_51_52_53_54_55_56_57 (x0 : ByteArray) (x1 : ByteArray) (x2 : ByteArray) (x3 : ByteArray) (x4 : ByteArray) (x5 : ByteArray) (x6 : ByteArray) (x7 : ByteArray) (x8 : ByteArray) (x9 : ByteArray) (x10 : ByteArray) (x11 : ByteArray) (x12 : ByteArray) (x13 : ByteArray) (x14 : ByteArray) (x15 : ByteArray) (x16 : ByteArray) (x17 : ByteArray) (x18 : ByteArray) (x19 : ByteArray) (x20 : ByteArray) (x21 : ByteArray) (x22 : ByteArray) (x23 : ByteArray) (x24 : ByteArray) (x25 : ByteArray) (x26 : ByteArray) (x27 : ByteArray) (x28 : ByteArray) (x29 : ByteArray) (x30 : ByteArray) (x31 : ByteArray) (x32 : ByteArray) (x33 : ByteArray) (x34 : ByteArray) (x35 : ByteArray) (x36 : ByteArray) (x37 : ByteArray) (x38 : ByteArray) (x39 : ByteArray) (x40 : ByteArray) (x41 : ByteArray) (x42 : ByteArray) (x43 : ByteArray) (x44 : ByteArray) (x45 : ByteArray) (x46 : ByteArray) (x47 : ByteArray) (x48 : ByteArray) (x49 : ByteArray) (x50 : ByteArray) (x51 : ByteArray) (x52 : ByteArray) (x53 : ByteArray) (x54 : ByteArray) (x55 : ByteArray) (x56 : ByteArray) (x57 : ByteArray) : sliceObj Tryd.prog 24 58 [(0, .string x0), (1, .string x1), (2, .string x2), (3, .string x3), (4, .string x4), (5, .string x5), (6, .string x6), (7, .string x7), (8, .string x8), (9, .string x9), (10, .string x10), (11, .string x11), (12, .string x12), (13, .string x13), (14, .string x14), (15, .string x15), (16, .string x16), (17, .string x17), (18, .string x18), (19, .string x19), (20, .string x20), (21, .string x21), (22, .string x22), (23, .string x23), (24, .string x24), (25, .string x25), (26, .string x26), (27, .string x27), (28, .string x28), (29, .string x29), (30, .string x30), (31, .string x31), (32, .string x32), (33, .string x33), (34, .string x34), (35, .string x35), (36, .string x36), (37, .string x37), (38, .string x38), (39, .string x39), (40, .string x40), (41, .string x41), (42, .string x42), (43, .string x43), (44, .string x44), (45, .string x45), (46, .string x46), (47, .string x47), (48, .string x48), (49, .string x49), (50, .string x50), (51, .string x51), (52, .string x52), (53, .string x53), (54, .string x54), (55, .string x55), (56, .string x56), (57, .string x57)] = some (.cells [.string x0, .string x1, .string x2, .string x3, .string x4, .string x5, .string x6, .string x7, .string x8, .string x9, .string x10, .string x11, .string x12, .string x13, .string x14, .string x15, .string x16, .string x17, .string x18, .string x19, .string x20, .string x21, .string x22, .string x23, .string x24, .string x25, .string x26, .string x27, .string x28, .string x29, .string x30, .string x31, .string x32, .string x33, .string x34, .string x35, .string x36, .string x37, .string x38, .string x39, .string x40, .string x41, .string x42, .string x43, .string x44, .string x45, .string x46, .string x47, .string x48, .string x49, .string x50, .string x51, .string x52, .string x53, .string x54, .string x55, .string x56, .string x57]) := by kernel_rfl
theorem D.bs57_2_0_1 (x0 : Int) (x1 : Int) : sliceObj Tryd.prog 57 2 [(0, .int .i64 x0), (1, .int .i64 x1)] = some (.cells [.int .i64 x0, .int .i64 x1]) := by kernel_rfl
theorem D.bs57_3_0_1_2 (x0 : Int) (x1 : Int) (x2 : Int) : sliceObj Tryd.prog 57 3 [(0, .int .i64 x0), (1, .int .i64 x1), (2, .int .i64 x2)] = some (.cells [.int .i64 x0, .int .i64 x1, .int .i64 x2]) := by kernel_rfl
theorem D.cv5_3 (H : AHeap) (k : IntKind) (n : Int) : convV Tryd.prog H 5 3 (.int k n) = some (.int .i64 (IntKind.wrap .i64 n)) := conv_int (k := .i64) (d := .int .u8) (by kernel_rfl) (by kernel_rfl) n
theorem D.cv5_21 (H : AHeap) (k : IntKind) (n : Int) : convV Tryd.prog H 5 21 (.int k n) = some (.int .i32 (IntKind.wrap .i32 n)) := conv_int (k := .i32) (d := .int .u8) (by kernel_rfl) (by kernel_rfl) n
theorem D.u143 : Tryd.prog.underlying 143 = some (.array 256 5) := by kernel_rfl
theorem D.ix143 {j q : Nat} {k : IntKind} {i : Int} (h0 : 0 ≤ i) (h : i < 256) : indexAddrA Tryd.prog 143 (.pointer (some ⟨j, q, none⟩)) (.int k i) = some (.pointer (some ⟨j, q + i.toNat * 1, none⟩)) := index_arr D.u143 D.s5 h0 h
theorem D.a5 : aggA Tryd.prog 5 = some none := by kernel_rfl
theorem D.u146 : Tryd.prog.underlying 146 = some (.array 16 145) := by kernel_rfl
theorem D.s145 : sizeA Tryd.prog 145 = some 2 := by kernel_rfl
theorem D.ix146 {j q : Nat} {k : IntKind} {i : Int} (h0 : 0 ≤ i) (h : i < 16) : indexAddrA Tryd.prog 146 (.pointer (some ⟨j, q, none⟩)) (.int k i) = some (.pointer (some ⟨j, q + i.toNat * 2, none⟩)) := index_arr D.u146 D.s145 h0 h
theorem D.a145 : aggA Tryd.prog 145 = some (some 2) := by kernel_rfl
theorem D.z145 : zeroObj Tryd.prog 145 = some (.cells [.int .u8 0, .int .u8 0]) := by kernel_rfl
theorem D.fa145_0 (i k : Nat) : fieldAddrA Tryd.prog 145 (.pointer (some ⟨i, k, none⟩)) 0 = some (.pointer (some ⟨i, k + 0, none⟩)) := field_addr (by kernel_rfl) i k
theorem D.fa145_1 (i k : Nat) : fieldAddrA Tryd.prog 145 (.pointer (some ⟨i, k, none⟩)) 1 = some (.pointer (some ⟨i, k + 1, none⟩)) := field_addr (by kernel_rfl) i k
theorem D.cv5_147 (H : AHeap) (k : IntKind) (n : Int) : convV Tryd.prog H 5 147 (.int k n) = some (.int .u32 (IntKind.wrap .u32 n)) := conv_int (k := .u32) (d := .int .u8) (by kernel_rfl) (by kernel_rfl) n
theorem D.cv5_35 (H : AHeap) (k : IntKind) (n : Int) : convV Tryd.prog H 5 35 (.int k n) = some (.int .u64 (IntKind.wrap .u64 n)) := conv_int (k := .u64) (d := .int .u8) (by kernel_rfl) (by kernel_rfl) n

attribute [go_sem] D.u9 D.le9 D.is9 D.u24 D.bs24_5_0_1_2_3_4 D.s9 D.ix24 D.a9 D.sl9t D.sl9f D.ineq28a D.ineq28b D.u25 D.le25 D.u26 D.le26 D.s33 D.ix26 D.a33 D.ieql28a D.ieql28b D.s37 D.ix25 D.fa37_4 D.a35 D.fa33_0 D.sl9b D.sl25t D.a37 D.z37 D.fa37_0 D.a3 D.cv3_35 D.s35 D.fa33_1 D.fa37_3 D.fa37_5 D.fa37_6 D.co41 D.b60_3 D.le24 D.fa60_4 D.a58 D.u58 D.le58 D.s64 D.ix58 D.a64 D.z64 D.fa60_3 D.a56 D.fa64_2 D.m56 D.fa64_1 D.fa60_0 D.a25 D.fa64_0 D.fa60_1 D.a26 D.z33 D.fa60_2 D.a57 D.u57 D.s3 D.ix57 D.peql39a D.peql39b D.fa67_2 D.a41 D.fa67_0 D.a24 D.z68 D.co70 D.a68 D.peql68a D.peql68b D.fa72_0 D.fa72_1 D.fa67_1 D.fa72_2 D.a28 D.bs24_1_0 D.bs57_1_0 D.b67_0_1_2 D.u74 D.s4 D.ix74 D.a4 D.e75 D.u75 D.bs75_1_0 D.e25 D.z47 D.b47_7 D.s47 D.fa47_0 D.fa47_3 D.fa47_1 D.fa47_2 D.fa47_5 D.fa47_6 D.fa47_4 D.fa47_7 D.a47 D.b72_0_1_2_0 D.b72_0_1_2_1 D.co68 D.b33_0_1 D.bs26_1_0 D.e26 D.s26 D.e57 D.s57 D.b37_0 D.sl24f D.z78 D.s78 D.u78 D.ix78 D.bs25_1_0 D.s25 D.ieql20a D.ieql20b D.co9 D.z93 D.s93 D.a93 D.a96 D.u103 D.bs103_2_0_1_0 D.bs103_2_0_1_1 D.bs103_2_0_1_2 D.bs103_2_0_1_3 D.le103 D.s28 D.ix103 D.b78_0_1 D.b78_0 D.b78_0_1_2 D.b78_ D.a78 D.fa37_1 D.fa37_2 D.le57 D.bs24_3_0_1_2 D.sl24t D.e24 D.b64_0_1_2 D.bs58_1_0 D.e58 D.s58 D.cv35_3 D.z130 D.cv35_5 D.u130 D.s5 D.ix130 D.bs24_58_0_1_2_3_4_5_6_7_8_9_10_11_12_13_14_15_16_17_18_19_20_21_22_23_24_25_26_27_28_29_30_31_32_33_34_35_36_37_38_39_40_41_42_43_44_45_46_47_48_49_50_51_52_53_54_55_56_57 D.bs57_2_0_1 D.bs57_3_0_1_2 D.cv5_3 D.cv5_21 D.u143 D.ix143 D.a5 D.u146 D.s145 D.ix146 D.a145 D.z145 D.fa145_0 D.fa145_1 D.cv5_147 D.cv5_35
end Go.Proofs
