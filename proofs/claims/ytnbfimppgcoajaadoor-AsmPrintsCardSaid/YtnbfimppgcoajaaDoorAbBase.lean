/-
  A CALCULUS OVER ABSTRACT HEAPS: the base. An abstract heap is a function from names to objects; an embedding tells where in the real world each named object lies. Values are related by renaming; of a slice's capacity only a lower bound is known. What is proved of a call over abstract heaps holds of the call in every world, on every tape.
-/
import Derived.WalkKit
import Derived.ArgAppend
import Derived.Orders
import Derived.LaidEql
import Derived.WideLaws
namespace Go.Ab
set_option linter.unusedSimpArgs false
set_option linter.unusedVariables false
set_option linter.unusedSectionVars false

/-- Where a named object lies: its block, its first cell, how many cells it has, how many of the block's cells are its own. -/
structure Ent where
  blk : Nat
  off : Nat
  n : Nat
  cap : Nat

abbrev Emb := Nat → Option Ent
def Ext (φ φ' : Emb) : Prop := ∀ i e, φ i = some e → φ' i = some e
theorem Ext.refl (φ : Emb) : Ext φ φ := fun _ _ h => h
theorem Ext.trans {φ ψ χ : Emb} (h : Ext φ ψ) (h' : Ext ψ χ) : Ext φ χ := fun i e hi => h' i e (h i e hi)

inductive AObj where
  | none
  | dead
  | cells (cs : List Value)
  | ro (cs : List Value)
  | map (es : List (Value × Value))

/-- It may be written. -/
def AObj.live : AObj → Bool
  | .cells _ | .map _ => true
  | _ => false

abbrev AHeap := Nat → AObj
def AHeap.set (H : AHeap) (i : Nat) (o : AObj) : AHeap := fun j => if j = i then o else H j
theorem AHeap.set_same (H : AHeap) (i : Nat) (o : AObj) : H.set i o i = o := by simp [AHeap.set]
theorem AHeap.set_ne (H : AHeap) {i j : Nat} (o : AObj) (h : j ≠ i) : H.set i o j = H j := by simp [AHeap.set, h]
theorem AHeap.set_apply (H : AHeap) (i : Nat) (o : AObj) (j : Nat) : H.set i o j = if j = i then o else H j := rfl

/-- A slice's capacity: as it is; or, at the head of a row, a lower bound; or, further behind, a lower bound of which no append makes use. -/
def CapR (e : Ent) (k c c' : Nat) : Prop := c = c' ∨ (k = 0 ∧ 0 < c ∧ c ≤ c' ∧ ∃ s, 0 < s ∧ e.n = c * s ∧ c' * s ≤ e.cap) ∨ (0 < k ∧ c ≤ c')
theorem CapR.le {e : Ent} {k c c' : Nat} (h : CapR e k c c') : c ≤ c' := by
  rcases h with h | ⟨_, _, h, _⟩ | ⟨_, h⟩ <;> omega

inductive VR (φ : Emb) : Value → Value → Prop
  | bool (b : Bool) : VR φ (.bool b) (.bool b)
  | int (k : IntKind) (n : Int) : VR φ (.int k n) (.int k n)
  | float (k : FloatKind) (n : Nat) : VR φ (.float k n) (.float k n)
  | complex (k : FloatKind) (n m : Nat) : VR φ (.complex k n m) (.complex k n m)
  | string (s : ByteArray) : VR φ (.string s) (.string s)
  | ptrNil : VR φ (.pointer none) (.pointer none)
  | ptr {i k : Nat} {e : Ent} (h : φ i = some e) : VR φ (.pointer (some ⟨i, k, none⟩)) (.pointer (some ⟨e.blk, e.off + k, none⟩))
  | sliceNil (n c : Nat) : VR φ (.slice none n c) (.slice none n c)
  | slice {i k n c c' : Nat} {e : Ent} (h : φ i = some e) (hc : CapR e k c c') : VR φ (.slice (some ⟨i, k, none⟩) n c) (.slice (some ⟨e.blk, e.off + k, none⟩) n c')
  | sliceEmpty {i k s : Nat} (a' : Addr) (c' : Nat) : VR φ (.slice (some ⟨i, k, some s⟩) 0 0) (.slice (some a') 0 c')
  | mapNil : VR φ (.map none) (.map none)
  | map {i : Nat} {e : Ent} (h : φ i = some e) : VR φ (.map (some i)) (.map (some e.blk))
  | func {fn : Fn} {a b c d : Array Value} (h1 : a.size = b.size) (h2 : ∀ i (h : i < a.size) (h' : i < b.size), VR φ a[i] b[i])
      (h3 : c.size = d.size) (h4 : ∀ i (h : i < c.size) (h' : i < d.size), VR φ c[i] d[i]) : VR φ (.func fn a c) (.func fn b d)
  | nilFunc : VR φ .nilFunc .nilFunc
  | iface (t : TypeId) {v v' : Value} (h : VR φ v v') : VR φ (.iface t v) (.iface t v')
  | nilIface : VR φ .nilIface .nilIface
  | agg {cs ds : Array Value} (h1 : cs.size = ds.size) (h2 : ∀ i (h : i < cs.size) (h' : i < ds.size), VR φ cs[i] ds[i]) : VR φ (.agg cs) (.agg ds)
  | tuple {cs ds : Array Value} (h1 : cs.size = ds.size) (h2 : ∀ i (h : i < cs.size) (h' : i < ds.size), VR φ cs[i] ds[i]) : VR φ (.tuple cs) (.tuple ds)

def ArrR (φ : Emb) (cs ds : Array Value) : Prop := cs.size = ds.size ∧ ∀ i (h : i < cs.size) (h' : i < ds.size), VR φ cs[i] ds[i]

theorem VR.mono {φ φ' : Emb} (hx : Ext φ φ') {v v' : Value} (h : VR φ v v') : VR φ' v v' := by
  induction h with
  | bool b => exact .bool b
  | int k n => exact .int k n
  | float k n => exact .float k n
  | complex k n m => exact .complex k n m
  | string s => exact .string s
  | ptrNil => exact .ptrNil
  | ptr h => exact .ptr (hx _ _ h)
  | sliceNil n c => exact .sliceNil n c
  | slice h hc => exact .slice (hx _ _ h) hc
  | sliceEmpty a' c' => exact .sliceEmpty a' c'
  | mapNil => exact .mapNil
  | map h => exact .map (hx _ _ h)
  | func h1 _ h3 _ ih2 ih4 => exact .func h1 ih2 h3 ih4
  | nilFunc => exact .nilFunc
  | iface t _ ih => exact .iface t ih
  | nilIface => exact .nilIface
  | agg h1 _ ih => exact .agg h1 ih
  | tuple h1 _ ih => exact .tuple h1 ih
theorem ArrR.mono {φ φ' : Emb} (hx : Ext φ φ') {cs ds : Array Value} (h : ArrR φ cs ds) : ArrR φ' cs ds := ⟨h.1, fun i a b => (h.2 i a b).mono hx⟩

theorem VR.undef (φ : Emb) : VR φ undef undef := .tuple rfl (fun i h => by simp at h)
theorem VR.one {φ : Emb} {v v' : Value} (h : VR φ v v') : v'.oneCell' = v.oneCell' := by cases h <;> rfl

/-- A value of one cell that holds no address. -/
def scalar : Value → Bool
  | .bool _ | .int _ _ | .float _ _ | .complex _ _ _ | .string _ | .pointer none | .slice none _ _ | .map none | .nilFunc | .nilIface => true
  | _ => false
/-- A value that holds no address. -/
def plain : Value → Bool
  | .agg cs => cs.toList.all scalar
  | .iface _ v => scalar v
  | .tuple cs => cs.toList.all scalar
  | v => scalar v
theorem VR.of_scalar (φ : Emb) : ∀ {v : Value}, scalar v = true → VR φ v v
  | .bool b, _ => .bool b
  | .int k n, _ => .int k n
  | .float k n, _ => .float k n
  | .complex k n m, _ => .complex k n m
  | .string s, _ => .string s
  | .pointer none, _ => .ptrNil
  | .slice none n c, _ => .sliceNil n c
  | .map none, _ => .mapNil
  | .nilFunc, _ => .nilFunc
  | .nilIface, _ => .nilIface
  | .pointer (some _), h => by cases h
  | .slice (some _) _ _, h => by cases h
  | .map (some _), h => by cases h
  | .chan _, h => by cases h
  | .func .., h => by cases h
  | .iface .., h => by cases h
  | .agg _, h => by cases h
  | .tuple _, h => by cases h
theorem VR.of_plain (φ : Emb) {v : Value} (h : plain v = true) : VR φ v v := by
  have all : ∀ cs : Array Value, cs.toList.all scalar = true → ∀ i (h : i < cs.size) (_ : i < cs.size), VR φ cs[i] cs[i] := fun cs hc i hi _ =>
    .of_scalar φ (List.all_eq_true.1 hc _ (by simp))
  cases v with
  | agg cs => exact .agg rfl (all cs h)
  | tuple cs => exact .tuple rfl (all cs h)
  | iface t v => exact .iface t (.of_scalar φ h)
  | _ => exact .of_scalar φ h
theorem VR.scalar_eq {φ : Emb} {v v' : Value} (h : VR φ v v') (hs : scalar v = true) : v' = v := by
  cases h <;> first | rfl | (simp [scalar] at hs; done)
theorem VR.plain_eq {φ : Emb} {v v' : Value} (h : VR φ v v') (hs : plain v = true) : v' = v := by
  have all : ∀ cs ds : Array Value, cs.size = ds.size → (∀ i (h : i < cs.size) (h' : i < ds.size), VR φ cs[i] ds[i]) → cs.toList.all scalar = true → ds = cs := fun cs ds h1 h2 hc =>
    Array.ext h1.symm fun i hi hj => (h2 i hj hi).scalar_eq (List.all_eq_true.1 hc _ (by simp))
  cases h with
  | agg h1 h2 => rw [all _ _ h1 h2 hs]
  | tuple h1 h2 => rw [all _ _ h1 h2 hs]
  | iface t h => rw [h.scalar_eq hs]
  | bool b => rfl
  | int k n => rfl
  | float k n => rfl
  | complex k n m => rfl
  | string s => rfl
  | ptrNil => rfl
  | ptr h => cases hs
  | sliceNil n c => rfl
  | slice h hc => cases hs
  | sliceEmpty a' c' => cases hs
  | mapNil => rfl
  | map h => cases hs
  | func => cases hs
  | nilFunc => rfl
  | nilIface => rfl

/-! ### Objects, worlds -/
/-- The entries of a map: the same keys, related values. -/
def MapR (φ : Emb) : List (Value × Value) → List MapEntry → Prop
  | [], [] => True
  | (k, v) :: es, d :: ds => d.key = k ∧ VR φ v d.val ∧ MapR φ es ds
  | _, _ => False
def ObjR (φ : Emb) (o : AObj) (e : Ent) (w : World) : Prop :=
  match o with
  | .cells cs => cs.length = e.n ∧ e.n ≤ e.cap ∧ (∃ C t, w.heap[e.blk]? = some (.cells C t (0, 0))) ∧
      (∀ k v, cs[k]? = some v → v.oneCell' = true ∧ ∃ v', w.cell? ⟨e.blk, e.off + k, none⟩ = some v' ∧ VR φ v v') ∧
      (∀ k, k < e.cap → (w.cell? ⟨e.blk, e.off + k, none⟩).isSome = true ∧ w.frozen? ⟨e.blk, e.off + k, none⟩ = false)
  | .ro cs => cs.length = e.n ∧ (∃ C t fr, w.heap[e.blk]? = some (.cells C t fr)) ∧
      (∀ k v, cs[k]? = some v → v.oneCell' = true ∧ ∃ v', w.cell? ⟨e.blk, e.off + k, none⟩ = some v' ∧ VR φ v v')
  | .map es => ∃ ents clock, w.heap[e.blk]? = some (.map ents clock) ∧ MapR φ es ents.toList
  | _ => True

theorem MapR.mono {φ φ' : Emb} (hx : Ext φ φ') : ∀ {es : List (Value × Value)} {ds : List MapEntry}, MapR φ es ds → MapR φ' es ds
  | [], [], _ => trivial
  | (_, _) :: _, _ :: _, h => ⟨h.1, h.2.1.mono hx, MapR.mono hx h.2.2⟩
  | [], _ :: _, h => h.elim
  | _ :: _, [], h => h.elim
theorem ObjR.mono {φ φ' : Emb} (hx : Ext φ φ') {o : AObj} {e : Ent} {w : World} (h : ObjR φ o e w) : ObjR φ' o e w := by
  cases o with
  | cells cs =>
    obtain ⟨h1, h2, h3, h4, h5⟩ := h
    exact ⟨h1, h2, h3, fun k v hk => let ⟨a, v', b, c⟩ := h4 k v hk; ⟨a, v', b, c.mono hx⟩, h5⟩
  | ro cs =>
    obtain ⟨h1, h3, h4⟩ := h
    exact ⟨h1, h3, fun k v hk => let ⟨a, v', b, c⟩ := h4 k v hk; ⟨a, v', b, c.mono hx⟩⟩
  | map es =>
    obtain ⟨ents, clock, h1, h2⟩ := h
    exact ⟨ents, clock, h1, h2.mono hx⟩
  | none => trivial
  | dead => trivial

theorem cell_of_heap {w w' : World} {b : Nat} (h : w'.heap[b]? = w.heap[b]?) (k : Nat) : w'.cell? ⟨b, k, none⟩ = w.cell? ⟨b, k, none⟩ := by
  unfold World.cell?; simp only [h]
theorem frozen_of_heap {w w' : World} {b : Nat} (h : w'.heap[b]? = w.heap[b]?) (k : Nat) : w'.frozen? ⟨b, k, none⟩ = w.frozen? ⟨b, k, none⟩ := by
  unfold World.frozen?; simp only [h]
theorem ObjR.world {φ : Emb} {o : AObj} {e : Ent} {w w' : World} (h : ObjR φ o e w) (hb : w'.heap[e.blk]? = w.heap[e.blk]?) : ObjR φ o e w' := by
  cases o with
  | cells cs =>
    obtain ⟨h1, h2, h3, h4, h5⟩ := h
    refine ⟨h1, h2, by rw [hb]; exact h3, fun k v hk => ?_, fun k hk => ?_⟩
    · rw [cell_of_heap hb]; exact h4 k v hk
    · rw [cell_of_heap hb, frozen_of_heap hb]; exact h5 k hk
  | ro cs =>
    obtain ⟨h1, h3, h4⟩ := h
    refine ⟨h1, by rw [hb]; exact h3, fun k v hk => ?_⟩
    rw [cell_of_heap hb]; exact h4 k v hk
  | map es =>
    obtain ⟨ents, clock, h1, h2⟩ := h
    exact ⟨ents, clock, by rw [hb]; exact h1, h2⟩
  | none => trivial
  | dead => trivial
/-- It is looked at. -/
def AObj.seen : AObj → Bool
  | .none | .dead => false
  | _ => true
theorem AObj.seen_of_live {o : AObj} (h : o.live = true) : o.seen = true := by cases o <;> first | rfl | cases h
theorem ObjR.blk_lt {φ : Emb} {o : AObj} {e : Ent} {w : World} (h : ObjR φ o e w) (hl : o.seen = true) : e.blk < w.heap.size := by
  have key : ∀ x, w.heap[e.blk]? = some x → e.blk < w.heap.size := fun x hx => (Array.getElem?_eq_some_iff.1 hx).1
  cases o with
  | cells cs => obtain ⟨_, _, ⟨C, t, h3⟩, _⟩ := h; exact key _ h3
  | ro cs => obtain ⟨_, ⟨C, t, fr, h3⟩, _⟩ := h; exact key _ h3
  | map es => obtain ⟨ents, clock, h1, _⟩ := h; exact key _ h1
  | none => cases hl
  | dead => cases hl

/-- What is known of the world in which all began (of package-level variables): a program's own. -/
class Start where
  good : Nat → World → Prop
variable [Start]
/-- The world outside the memory is as it was. -/
def IoSame (w w' : World) : Prop := w'.os = w.os ∧ w'.output = w.output
omit [Go.Ab.Start] in
theorem IoSame.trans {w w' w'' : World} (h : IoSame w w') (h' : IoSame w' w'') : IoSame w w'' := ⟨h'.1.trans h.1, h'.2.trans h.2⟩
structure Rel (base : Nat) (w0 : World) (φ : Emb) (H : AHeap) (w : World) : Prop where
  fin : ∃ N, ∀ i, N ≤ i → H i = .none ∧ φ i = none
  dom : ∀ i e, φ i = some e → H i ≠ .none
  size : base ≤ w.heap.size
  good : Start.good base w0
  low : ∀ b, b < base → w.heap[b]? = w0.heap[b]?
  io : IoSame w0 w
  obj : ∀ i e, φ i = some e → ObjR φ (H i) e w
  own : ∀ i e, φ i = some e → (H i).live = true → base ≤ e.blk
  rob : ∀ i e cs, φ i = some e → H i = .ro cs → e.blk < base
  sep : ∀ i j e d, φ i = some e → φ j = some d → (H i).live = true → (H j).live = true → e.blk = d.blk → i = j

/-- What a step may do. -/
structure Step (φ : Emb) (H : AHeap) (w : World) (φ' : Emb) (H' : AHeap) (w' : World) : Prop where
  ext : Ext φ φ'
  size : w.heap.size ≤ w'.heap.size
  new : ∀ i, φ i = none → H i ≠ .none → φ' i = none ∧ H' i = H i
  conc : ∀ b, b < w.heap.size → (∀ i e, φ i = some e → (H i).live = true → e.blk ≠ b) → w'.heap[b]? = w.heap[b]?
  own : ∀ i e, φ' i = some e → (H' i).live = true → e.blk < w.heap.size → ∃ j d, φ j = some d ∧ (H j).live = true ∧ d.blk = e.blk

omit [Go.Ab.Start] in
theorem Step.refl (φ : Emb) (H : AHeap) (w : World) : Step φ H w φ H w :=
  ⟨.refl φ, Nat.le_refl _, fun _ h _ => ⟨h, rfl⟩, fun _ _ _ => rfl, fun i e h hl _ => ⟨i, e, h, hl, rfl⟩⟩
omit [Go.Ab.Start] in
theorem Step.trans {φ : Emb} {H : AHeap} {w : World} {φ' : Emb} {H' : AHeap} {w' : World} {φ'' : Emb} {H'' : AHeap} {w'' : World}
    (h : Step φ H w φ' H' w') (h' : Step φ' H' w' φ'' H'' w'') : Step φ H w φ'' H'' w'' where
  ext := h.ext.trans h'.ext
  size := Nat.le_trans h.size h'.size
  new i h1 h2 := by
    obtain ⟨a, b⟩ := h.new i h1 h2
    obtain ⟨c, d⟩ := h'.new i a (by rw [b]; exact h2)
    exact ⟨c, d.trans b⟩
  conc b hb hno := by
    rw [h'.conc b (Nat.lt_of_lt_of_le hb h.size) fun i e h1 h2 h4 => by
      obtain ⟨j, d, a, b', f⟩ := h.own i e h1 h2 (by rw [h4]; exact hb)
      exact hno j d a b' (f.trans h4)]
    exact h.conc b hb hno
  own i e h1 h2 h4 := by
    obtain ⟨j, d, a, b, f⟩ := h'.own i e h1 h2 (Nat.lt_of_lt_of_le h4 h.size)
    obtain ⟨j', d', a', b', f'⟩ := h.own j d a b (by rw [f]; exact h4)
    exact ⟨j', d', a', b', f'.trans f⟩

/-- The world has turned, but no block that was there. -/
theorem Rel.world {base : Nat} {w0 : World} {φ : Emb} {H : AHeap} {w w' : World} (r : Rel base w0 φ H w) (hs : w.heap.size ≤ w'.heap.size) (hb : ∀ b, b < w.heap.size → w'.heap[b]? = w.heap[b]?) (hio : IoSame w w') : Rel base w0 φ H w' where
  fin := r.fin
  dom := r.dom
  size := Nat.le_trans r.size hs
  good := r.good
  low b h := (hb b (Nat.lt_of_lt_of_le h r.size)).trans (r.low b h)
  io := r.io.trans hio
  obj i e h := by
    cases hl : (H i).seen with
    | true => exact (r.obj i e h).world (hb _ ((r.obj i e h).blk_lt hl))
    | false => cases ho : H i <;> first | trivial | (rw [ho] at hl; cases hl)
  own := r.own
  rob := r.rob
  sep := r.sep
omit [Go.Ab.Start] in
theorem Step.world {φ : Emb} {H : AHeap} {w w' : World} (hs : w.heap.size ≤ w'.heap.size) (hb : ∀ b, b < w.heap.size → w'.heap[b]? = w.heap[b]?) : Step φ H w φ H w' :=
  ⟨.refl φ, hs, fun _ h _ => ⟨h, rfl⟩, fun b h _ => hb b h, fun i e h hl _ => ⟨i, e, h, hl, rfl⟩⟩

def embed (φ : Emb) (i : Nat) (e : Ent) : Emb := fun j => if j = i then some e else φ j
omit [Go.Ab.Start] in
theorem embed_same (φ : Emb) (i : Nat) (e : Ent) : embed φ i e i = some e := by simp [embed]
omit [Go.Ab.Start] in
theorem embed_ext {φ : Emb} {i : Nat} (e : Ent) (h : φ i = none) : Ext φ (embed φ i e) := fun j d hj => by
  unfold embed
  rw [if_neg (by rintro rfl; rw [h] at hj; cases hj)]
  exact hj
theorem Rel.fresh {base : Nat} {w0 : World} {φ : Emb} {H : AHeap} {w : World} (r : Rel base w0 φ H w) {i : Nat} (h : H i = .none) : φ i = none := by
  cases hp : φ i with
  | none => rfl
  | some e => exact (r.dom i e hp h).elim
theorem Rel.someFresh {base : Nat} {w0 : World} {φ : Emb} {H : AHeap} {w : World} (r : Rel base w0 φ H w) : ∃ i, H i = .none := by
  obtain ⟨N, h⟩ := r.fin
  exact ⟨N, (h N (Nat.le_refl _)).1⟩
/-- A new object, in a block of its own. -/
theorem Rel.extend {base : Nat} {w0 : World} {φ : Emb} {H : AHeap} {w : World} (r : Rel base w0 φ H w) {i : Nat} (hi : H i = .none) {e : Ent} {o : AObj} (hbase : base ≤ e.blk)
    (hnew : ∀ j d, φ j = some d → (H j).live = true → d.blk ≠ e.blk) (ho : ObjR (embed φ i e) o e w) (hon : o.live = true) : Rel base w0 (embed φ i e) (H.set i o) w := by
  have hx := embed_ext e (r.fresh hi)
  have hcase : ∀ j d, embed φ i e j = some d → (j = i ∧ d = e) ∨ (j ≠ i ∧ φ j = some d) := fun j d h => by
    unfold embed at h
    split at h
    · rename_i hj; exact .inl ⟨hj, (Option.some.inj h).symm⟩
    · rename_i hj; exact .inr ⟨hj, h⟩
  refine ⟨?_, ?_, r.size, r.good, r.low, r.io, ?_, ?_, ?_, ?_⟩
  · obtain ⟨N, hN⟩ := r.fin
    refine ⟨max N (i + 1), fun j hj => ?_⟩
    have h1 : j ≠ i := by omega
    have := hN j (by omega)
    rw [H.set_ne o h1]
    unfold embed
    rw [if_neg h1]
    exact this
  · intro j d h
    rcases hcase j d h with ⟨rfl, rfl⟩ | ⟨hj, h⟩
    · rw [H.set_same]; rintro rfl; cases hon
    · rw [H.set_ne o hj]; exact r.dom j d h
  · intro j d h
    rcases hcase j d h with ⟨rfl, rfl⟩ | ⟨hj, h⟩
    · rw [H.set_same]; exact ho
    · rw [H.set_ne o hj]; exact (r.obj j d h).mono hx
  · intro j d h hl
    rcases hcase j d h with ⟨rfl, rfl⟩ | ⟨hj, h⟩
    · exact hbase
    · rw [H.set_ne o hj] at hl; exact r.own j d h hl
  · intro j d cs h hc
    rcases hcase j d h with ⟨rfl, rfl⟩ | ⟨hj, h⟩
    · rw [H.set_same] at hc; rw [hc] at hon; cases hon
    · rw [H.set_ne o hj] at hc; exact r.rob j d cs h hc
  · intro j k d f hj hk lj lk hb
    rcases hcase j d hj with ⟨rfl, rfl⟩ | ⟨nj, hj'⟩ <;> rcases hcase k f hk with ⟨rfl, rfl⟩ | ⟨nk, hk'⟩
    · rfl
    · rw [H.set_ne o nk] at lk
      exact (hnew k f hk' lk hb.symm).elim
    · rw [H.set_ne o nj] at lj
      exact (hnew j d hj' lj hb).elim
    · rw [H.set_ne o nj] at lj
      rw [H.set_ne o nk] at lk
      exact r.sep j k d f hj' hk' lj lk hb

/-- An object is put by: it is not looked at again. -/
theorem Rel.kill {base : Nat} {w0 : World} {φ : Emb} {H : AHeap} {w : World} (r : Rel base w0 φ H w) (i : Nat) : Rel base w0 φ (H.set i .dead) w := by
  have lv : ∀ j, (H.set i .dead j).live = true → (H j).live = true := fun j h => by
    unfold AHeap.set at h
    split at h
    · cases h
    · exact h
  refine ⟨?_, ?_, r.size, r.good, r.low, r.io, ?_, fun j e h hl => r.own j e h (lv j hl), ?_, fun j k e d a b c f => r.sep j k e d a b (lv j c) (lv k f)⟩
  · obtain ⟨N, hN⟩ := r.fin
    refine ⟨max N (i + 1), fun j hj => ?_⟩
    rw [H.set_ne _ (show j ≠ i by omega)]
    exact hN j (by omega)
  · intro j e h
    unfold AHeap.set
    split
    · exact fun h => by cases h
    · exact r.dom j e h
  · intro j e h
    unfold AHeap.set
    split
    · trivial
    · exact r.obj j e h
  · intro j e cs h hc
    unfold AHeap.set at hc
    split at hc
    · cases hc
    · exact r.rob j e cs h hc
/-- An object's cells turn, and the block's with them. -/
theorem Rel.write {base : Nat} {w0 : World} {φ : Emb} {H : AHeap} {w w' : World} (r : Rel base w0 φ H w) {i : Nat} {e : Ent} {o : AObj} (hi : φ i = some e) (hl : (H i).live = true) (hol : o.live = true)
    (hs : w'.heap.size = w.heap.size) (hb : ∀ b, b ≠ e.blk → w'.heap[b]? = w.heap[b]?) (ho : ObjR φ o e w') (hio : IoSame w w') : Rel base w0 φ (H.set i o) w' := by
  have hbase : base ≤ e.blk := r.own i e hi hl
  have lv : ∀ j, (H.set i o j).live = true → (H j).live = true := fun j h => by
    unfold AHeap.set at h
    split at h
    · rename_i hj; rw [hj]; exact hl
    · exact h
  refine ⟨?_, ?_, by rw [hs]; exact r.size, r.good, fun b h => (hb b (by omega)).trans (r.low b h), r.io.trans hio, ?_, fun j e h hl => r.own j e h (lv j hl), ?_, fun j k e d a b c f => r.sep j k e d a b (lv j c) (lv k f)⟩
  · obtain ⟨N, hN⟩ := r.fin
    refine ⟨max N (i + 1), fun j hj => ?_⟩
    rw [H.set_ne _ (show j ≠ i by omega)]
    exact hN j (by omega)
  · intro j d h
    unfold AHeap.set
    split
    · intro h; rw [h] at hol; cases hol
    · exact r.dom j d h
  · intro j d h
    unfold AHeap.set
    split
    · rename_i hj; subst hj
      rw [hi] at h
      cases h
      exact ho
    · rename_i hj
      cases hlj : (H j).seen with
      | false => cases hoj : H j <;> first | trivial | (rw [hoj] at hlj; cases hlj)
      | true =>
        refine (r.obj j d h).world (hb _ ?_)
        intro he
        cases hoj : H j with
        | none => rw [hoj] at hlj; cases hlj
        | dead => rw [hoj] at hlj; cases hlj
        | ro cs => have := r.rob j d cs h hoj; omega
        | cells cs => exact hj (r.sep j i d e h hi (by rw [hoj]; rfl) hl he)
        | map es => exact hj (r.sep j i d e h hi (by rw [hoj]; rfl) hl he)
  · intro j d cs h hc
    unfold AHeap.set at hc
    split at hc
    · rw [hc] at hol; cases hol
    · exact r.rob j d cs h hc
omit [Go.Ab.Start] in
theorem Step.write {φ : Emb} {H : AHeap} {w w' : World} {i : Nat} {e : Ent} {o : AObj} (hi : φ i = some e) (hl : (H i).live = true)
    (hs : w'.heap.size = w.heap.size) (hb : ∀ b, b ≠ e.blk → w'.heap[b]? = w.heap[b]?) : Step φ H w φ (H.set i o) w' where
  ext := .refl φ
  size := by omega
  new j h1 _ := ⟨h1, H.set_ne o (by rintro rfl; rw [hi] at h1; cases h1)⟩
  conc b _ hno := hb b (fun h => hno i e hi hl h.symm)
  own j d h1 h2 _ := by
    unfold AHeap.set at h2
    split at h2
    · rename_i hj; subst hj
      rw [hi] at h1
      cases h1
      exact ⟨j, e, hi, hl, rfl⟩
    · exact ⟨j, d, h1, h2, rfl⟩
omit [Go.Ab.Start] in
theorem Step.extend {φ : Emb} {H : AHeap} {w w' : World} (hs : w.heap.size ≤ w'.heap.size) (hb : ∀ b, b < w.heap.size → w'.heap[b]? = w.heap[b]?) {i : Nat} {e : Ent} {o : AObj} (hi : H i = .none) (hf : φ i = none)
    (hown : e.blk < w.heap.size → ∃ j d, φ j = some d ∧ (H j).live = true ∧ d.blk = e.blk) : Step φ H w (embed φ i e) (H.set i o) w' where
  ext := embed_ext e hf
  size := hs
  new j h1 h2 := by
    have : j ≠ i := by rintro rfl; exact h2 hi
    refine ⟨?_, H.set_ne o this⟩
    unfold embed; rw [if_neg this]; exact h1
  conc b h _ := hb b h
  own j d h1 h2 h4 := by
    unfold embed at h1
    split at h1
    · cases h1; exact hown h4
    · rename_i hj
      rw [H.set_ne o hj] at h2
      exact ⟨j, d, h1, h2, rfl⟩
omit [Go.Ab.Start] in
theorem Step.kill {φ : Emb} {H : AHeap} {w : World} {i : Nat} {e : Ent} (hi : φ i = some e) : Step φ H w φ (H.set i .dead) w where
  ext := .refl φ
  size := Nat.le_refl _
  new j h1 _ := ⟨h1, H.set_ne _ (by rintro rfl; rw [hi] at h1; cases h1)⟩
  conc _ _ _ := rfl
  own j d h1 h2 _ := by
    unfold AHeap.set at h2
    split at h2
    · cases h2
    · exact ⟨j, d, h1, h2, rfl⟩
/-- A new object in a new block, at the world's end. -/
theorem Rel.alloc {base : Nat} {w0 : World} {φ : Emb} {H : AHeap} {w : World} (r : Rel base w0 φ H w) {i : Nat} (hi : H i = .none) (o : AObj) (hon : o.live = true) (O : Obj) (n : Nat)
    (ho : ∀ w', w'.heap[w.heap.size]? = some O → ObjR (embed φ i ⟨w.heap.size, 0, n, n⟩) o ⟨w.heap.size, 0, n, n⟩ w') :
    Rel base w0 (embed φ i ⟨w.heap.size, 0, n, n⟩) (H.set i o) (w.alloc O) ∧ Step φ H w (embed φ i ⟨w.heap.size, 0, n, n⟩) (H.set i o) (w.alloc O) := by
  have r' : Rel base w0 φ H (w.alloc O) := r.world (by simp) (fun b hb => heap_alloc_old w O hb) ⟨rfl, rfl⟩
  refine ⟨r'.extend hi r.size (fun j d h hl => ?_) (ho _ (heap_alloc_new w O)) hon, Step.extend (by simp) (fun b hb => heap_alloc_old w O hb) hi (r.fresh hi) fun h => ?_⟩
  · have := (r.obj j d h).blk_lt (AObj.seen_of_live hl)
    simp only; omega
  · exact (Nat.lt_irrefl _ h).elim
end Go.Ab
