/-
  errors.Is and errors.As over abstract heaps.
-/
import Derived.Test.YtnbfimppgcoajaaDoorPFA
import Derived.Test.YtnbfimppgcoajaaDoorAbLaw
import Derived.Test.YtnbfimppgcoajaaDoorAbS
namespace Go.Proofs
set_option linter.unusedSimpArgs false
set_option linter.unusedVariables false
set_option linter.unusedSectionVars false
open Go Go.Ab
/-- A start at which errors.errorType is laid. -/
class StartErr extends Go.Ab.Start where
  err : ∀ base w0, good base w0 → 0 < base ∧ w0.cell? ⟨0, 0, none⟩ = some (.iface 119 (.agg #[.pointer (some ⟨4, 28, none⟩)]))
theorem enter_fact {f : FuncId} (he : Enter Tryd.prog f) (args : Array Value) (w : World) : (callFunc f args).run Tryd.prog w = .ok (.enter f args) w := run_callFunc he args w
theorem Enter23 : Enter Tryd.prog 23 := ⟨_, Tryd.func23, by kernel_rfl, by kernel_rfl⟩
theorem Enter39 : Enter Tryd.prog 39 := ⟨_, Tryd.func39, by kernel_rfl, by kernel_rfl⟩
theorem arr_two {φ : Emb} {a b : Value} {cargs : Array Value} (h : ArrR φ #[a, b] cargs) : ∃ a' b', cargs = #[a', b'] ∧ VR φ a a' ∧ VR φ b b' := by
  obtain ⟨h1, h2⟩ := h
  match cargs, h1 with
  | ⟨[x, y]⟩, _ => exact ⟨x, y, rfl, h2 0 (by simp) (by simp), h2 1 (by simp) (by simp)⟩
theorem vr_ptr {φ : Emb} {i k : Nat} {v : Value} (h : VR φ (.pointer (some ⟨i, k, none⟩)) v) : ∃ e : Ent, φ i = some e ∧ v = .pointer (some ⟨e.blk, e.off + k, none⟩) := by
  cases h with
  | ptr h => exact ⟨_, h, rfl⟩
theorem vr_iface {φ : Emb} {t : TypeId} {u v : Value} (h : VR φ (.iface t u) v) : ∃ u', v = .iface t u' ∧ VR φ u u' := by
  cases h with
  | iface _ h => exact ⟨_, rfl, h⟩
theorem vr_int {φ : Emb} {k : IntKind} {n : Int} {v : Value} (h : VR φ (.int k n) v) : v = .int k n := by cases h; rfl
section
variable [StartErr]
theorem err_cell {base : Nat} {w0 : World} {φ : Emb} {H : AHeap} {w : World} (r : Rel base w0 φ H w) : w.cell? ⟨0, 0, none⟩ = some (.iface 119 (.agg #[.pointer (some ⟨4, 28, none⟩)])) := by
  obtain ⟨h1, h2⟩ := StartErr.err base w0 r.good
  have := r.low 0 h1
  unfold World.cell? at h2 ⊢
  simp only at h2 ⊢
  rw [this]; exact h2
theorem cell_of {base : Nat} {w0 : World} {φ : Emb} {H : AHeap} {w : World} (r : Rel base w0 φ H w) {i : Nat} {d : Ent} (hd : φ i = some d) {cs : List Value} (hc : H i = .cells cs) {k : Nat} {v : Value} (hk : cs[k]? = some v) :
    ∃ v', w.cell? ⟨d.blk, d.off + k, none⟩ = some v' ∧ VR φ v v' ∧ w.frozen? ⟨d.blk, d.off + k, none⟩ = false := by
  have ho := r.obj i d hd
  rw [hc] at ho
  obtain ⟨o1, o2, _, o4, o5⟩ := ho
  obtain ⟨_, v', h1, h2⟩ := o4 k v hk
  have hlt : k < cs.length := by
    rcases Nat.lt_or_ge k cs.length with h | h
    · exact h
    · rw [List.getElem?_eq_none h] at hk; cases hk
  exact ⟨v', h1, h2, (o5 k (by omega)).2⟩
theorem four_allocs {base : Nat} {w0 : World} {φ : Emb} {H : AHeap} {w : World} (r : Rel base w0 φ H w) (a : Obj) : Rel base w0 φ H (w.alloc a) ∧ Step φ H w φ H (w.alloc a) :=
  ⟨r.world (by simp) (fun b hb => heap_alloc_old w a hb) ⟨rfl, rfl⟩, .world (by simp) (fun b hb => heap_alloc_old w a hb)⟩
/-- errors.As at a *api.At. -/
theorem as23_hit (ei ti : Nat) (old : Value) (H : AHeap) (ht : H ti = .cells [old]) (K : Value → AHeap → Prop) (hk : K (.bool true) (H.set ti (.cells [.pointer (some ⟨ei, 0, none⟩)]))) :
    ACalls Tryd.prog 23 #[.iface 68 (.pointer (some ⟨ei, 0, none⟩)), .iface 70 (.pointer (some ⟨ti, 0, none⟩))] H K := by
  intro base w0 φ w cargs r ha
  obtain ⟨a, b, rfl, hva, hvb⟩ := arr_two ha
  obtain ⟨a, rfl, hvaQ⟩ := vr_iface hva
  obtain ⟨b, rfl, hvbQ⟩ := vr_iface hvb
  obtain ⟨e, he, rfl⟩ := vr_ptr hvaQ
  obtain ⟨d, hd, rfl⟩ := vr_ptr hvbQ
  obtain ⟨old', hc1, _, hf⟩ := cell_of r hd ht (k := 0) rfl
  refine .inr (.inr ⟨23, _, enter_fact Enter23 _ w, (as_hit ⟨e.blk, e.off + 0, none⟩ ⟨d.blk, d.off + 0, none⟩ old' w (err_cell r) hc1 hf).mono fun ev w' ⟨h1, h2⟩ => ⟨.bool true, h1, ?_⟩⟩)
  obtain ⟨r1, s1⟩ := four_allocs r (.cells #[.pointer (some ⟨d.blk, d.off + 0, none⟩)] 70)
  obtain ⟨r2, s2⟩ := four_allocs r1 (.cells #[.pointer (some ⟨4, 70, none⟩), .pointer (some ⟨w.heap.size, 0, none⟩), .int .u64 150] 93)
  obtain ⟨r3, s3⟩ := four_allocs r2 (.cells #[.pointer (some ⟨4, 70, none⟩), .pointer (some ⟨w.heap.size, 0, none⟩), .int .u64 150] 93)
  obtain ⟨r4, s4⟩ := four_allocs r3 (.cells #[.pointer (some ⟨e.blk, e.off + 0, none⟩)] 68)
  obtain ⟨r5, s5, _⟩ := r4.put hd ht (k := 0) [.pointer (some ⟨ei, 0, none⟩)] [.pointer (some ⟨e.blk, e.off + 0, none⟩)] (by simp) (by simp [Value.oneCell']) ⟨rfl, fun i hi hj => by
    have : i = 0 := by simpa using hi
    subst this
    exact .ptr he⟩
  rw [h2]
  exact ⟨φ, _, .bool true, (((s1.trans s2).trans s3).trans s4).trans s5, r5, .bool true, hk⟩
/-- errors.As at an api.Err. -/
theorem as23_err (k : Int) (ti : Nat) (old : Value) (H : AHeap) (ht : H ti = .cells [old]) (K : Value → AHeap → Prop) (hk : K (.bool false) H) :
    ACalls Tryd.prog 23 #[.iface 41 (.int .i64 k), .iface 70 (.pointer (some ⟨ti, 0, none⟩))] H K := by
  intro base w0 φ w cargs r ha
  obtain ⟨a, b, rfl, hva, hvb⟩ := arr_two ha
  obtain ⟨a, rfl, hvaQ⟩ := vr_iface hva
  obtain ⟨b, rfl, hvbQ⟩ := vr_iface hvb
  obtain rfl := vr_int hvaQ
  obtain ⟨d, hd, rfl⟩ := vr_ptr hvbQ
  obtain ⟨old', hc1, _, hf⟩ := cell_of r hd ht (k := 0) rfl
  refine .inr (.inr ⟨23, _, enter_fact Enter23 _ w, (as_err k ⟨d.blk, d.off + 0, none⟩ old' w (err_cell r) hc1 hf).mono fun ev w' ⟨h1, h2⟩ => ⟨.bool false, h1, ?_⟩⟩)
  obtain ⟨r1, s1⟩ := four_allocs r (.cells #[.pointer (some ⟨d.blk, d.off + 0, none⟩)] 70)
  obtain ⟨r2, s2⟩ := four_allocs r1 (.cells #[.pointer (some ⟨4, 70, none⟩), .pointer (some ⟨w.heap.size, 0, none⟩), .int .u64 150] 93)
  obtain ⟨r3, s3⟩ := four_allocs r2 (.cells #[.pointer (some ⟨4, 70, none⟩), .pointer (some ⟨w.heap.size, 0, none⟩), .int .u64 150] 93)
  rw [h2]
  exact ⟨φ, _, .bool false, (s1.trans s2).trans s3, r3, .bool false, hk⟩
/-- errors.Is at a *api.At around an api.Err. -/
theorem is39_at (ei : Nat) (a b : Int) (u v : Value) (H : AHeap) (ht : H ei = .cells [u, v, .iface 41 (.int .i64 a)]) (K : Value → AHeap → Prop) (hk : K (.bool (a == b)) H) :
    ACalls Tryd.prog 39 #[.iface 68 (.pointer (some ⟨ei, 0, none⟩)), .iface 41 (.int .i64 b)] H K := by
  intro base w0 φ w cargs r ha
  obtain ⟨x, y, rfl, hva, hvb⟩ := arr_two ha
  obtain ⟨x, rfl, hvaQ⟩ := vr_iface hva
  obtain ⟨y, rfl, hvbQ⟩ := vr_iface hvb
  obtain rfl := vr_int hvbQ
  obtain ⟨e, he, rfl⟩ := vr_ptr hvaQ
  obtain ⟨z, hc1, hz, _⟩ := cell_of r he ht (k := 2) rfl
  obtain ⟨z, rfl, hzQ⟩ := vr_iface hz
  obtain rfl := vr_int hzQ
  refine .inr (.inr ⟨39, _, enter_fact Enter39 _ w, (is_at e.blk (e.off + 0) a b w hc1).mono fun ev w' ⟨h1, h2⟩ => ⟨.bool (a == b), h1, ?_⟩⟩)
  rw [h2]
  exact ⟨φ, H, .bool (a == b), .refl _ _ _, r, .bool _, hk⟩
theorem is39_err (a b : Int) (H : AHeap) (K : Value → AHeap → Prop) (hk : K (.bool (a == b)) H) :
    ACalls Tryd.prog 39 #[.iface 41 (.int .i64 a), .iface 41 (.int .i64 b)] H K := by
  intro base w0 φ w cargs r ha
  obtain ⟨x, y, rfl, hva, hvb⟩ := arr_two ha
  obtain ⟨x, rfl, hvaQ⟩ := vr_iface hva
  obtain ⟨y, rfl, hvbQ⟩ := vr_iface hvb
  obtain rfl := vr_int hvbQ
  obtain rfl := vr_int hvaQ
  refine .inr (.inr ⟨39, _, enter_fact Enter39 _ w, (is_err a b w).mono fun ev w' ⟨h1, h2⟩ => ⟨.bool (a == b), h1, ?_⟩⟩)
  rw [h2]
  exact ⟨φ, H, .bool (a == b), .refl _ _ _, r, .bool _, hk⟩
end
end Go.Proofs
