/-
  A CALCULUS OVER ABSTRACT HEAPS: the equations of the walk.
-/
import Derived.Test.YtnbfimppgcoajaaDoorAbW
namespace Go.Ab
set_option linter.unusedSimpArgs false
set_option linter.unusedVariables false
set_option linter.unusedSectionVars false
variable [Start]
variable {P : Program} {k : Kont} {env : Env} {H : AHeap}

def AObj.isNone : AObj → Bool
  | .none => true
  | _ => false
/-! ### What the walk stands at -/
def onBool (P : Program) (v : Value) (t1 t2 : Task) (env : Env) (H : AHeap) : Prop := match v with
  | .bool b => (b = true → W P t1 env H) ∧ (b = false → W P t2 env H)
  | _ => False
def onYield (P : Program) (o : Option Bool) (want : Bool) (t1 t2 : Task) (dst : Option Tmp) (env : Env) (H : AHeap) : Prop := match o with
  | some b => (b = want → W P t1 env H) ∧ (b ≠ want → W P t2 (put env dst undef) H)
  | none => W P t2 (put env dst undef) H
def onV (P : Program) (o : Option Value) (t : Task) (dst : Option Tmp) (env : Env) (H : AHeap) : Prop := match o with
  | some v => W P t (put env dst v) H
  | none => False
def onH (P : Program) (o : Option AHeap) (t : Task) (dst : Option Tmp) (env : Env) : Prop := match o with
  | some H' => W P t (put env dst undef) H'
  | none => False
inductive NewK where
  | ptr
  | slice (n m : Nat)
  | map
def NewK.val (i : Nat) : NewK → Value
  | .ptr => ptrTo i
  | .slice n m => .slice (some ⟨i, 0, none⟩) n m
  | .map => .map (some i)
/-- A new object: whatever its name. -/
def onNew (P : Program) (o : Option AObj) (kd : NewK) (t : Task) (dst : Option Tmp) (env : Env) (H : AHeap) : Prop := match o with
  | some o => ∀ i, H i = .none → W P t (put env dst (kd.val i)) (H.set i o)
  | none => False
def onApp (P : Program) (e xe : TypeId) (s x : Value) (t : Task) (dst : Option Tmp) (env : Env) (H : AHeap) : Prop := appendW P e xe s x H fun v H' => W P t (put env dst v) H'
def onCall (P : Program) (f : Value) (vs : List Value) (t : Task) (dst : Option Tmp) (env : Env) (H : AHeap) : Prop := match f with
  | .func (.func g) first captured => ACalls P g (first ++ vs.toArray ++ captured) H fun v H' => W P t (put env dst v) H'
  | _ => False
def onMeth (P : Program) (r : Value) (name : String) (vs : List Value) (t : Task) (dst : Option Tmp) (env : Env) (H : AHeap) : Prop := match r with
  | .iface i v => match methodA P i name with
    | some g => ACalls P g (v :: vs).toArray H fun v H' => W P t (put env dst v) H'
    | none => False
  | _ => False
theorem onBool_congr {v v' : Value} {t1 t2 : Task} (h : v = v') : onBool P v t1 t2 env H = onBool P v' t1 t2 env H := by rw [h]
theorem onYield_congr {v v' : Option Bool} {w : Bool} {t1 t2 : Task} {dst : Option Tmp} (h : v = v') : onYield P v w t1 t2 dst env H = onYield P v' w t1 t2 dst env H := by rw [h]
theorem onV_congr {v v' : Option Value} {t : Task} {dst : Option Tmp} (h : v = v') : onV P v t dst env H = onV P v' t dst env H := by rw [h]
theorem onH_congr {v v' : Option AHeap} {t : Task} {dst : Option Tmp} (h : v = v') : onH P v t dst env = onH P v' t dst env := by rw [h]
theorem onNew_congr {v v' : Option AObj} {kd kd' : NewK} {t : Task} {dst : Option Tmp} (h : v = v') (h2 : kd = kd') : onNew P v kd t dst env H = onNew P v' kd' t dst env H := by rw [h, h2]
theorem onApp_congr {e xe : TypeId} {s s' x x' : Value} {t : Task} {dst : Option Tmp} (h : s = s') (h2 : x = x') : onApp P e xe s x t dst env H = onApp P e xe s' x' t dst env H := by rw [h, h2]
theorem onCall_congr {f f' : Value} {x x' : List Value} {t : Task} {dst : Option Tmp} (h : f = f') (h2 : x = x') : onCall P f x t dst env H = onCall P f' x' t dst env H := by rw [h, h2]
theorem onMeth_congr {f f' : Value} {n : String} {x x' : List Value} {t : Task} {dst : Option Tmp} (h : f = f') (h2 : x = x') : onMeth P f n x t dst env H = onMeth P f' n x' t dst env H := by rw [h, h2]
theorem W_congr {t : Task} {H H' : AHeap} (h : H = H') : W P t env H = W P t env H' := by rw [h]
attribute [congr] onBool_congr onYield_congr onV_congr onH_congr onNew_congr onApp_congr onCall_congr onMeth_congr W_congr
theorem onBool_true {t1 t2 : Task} : onBool P (.bool true) t1 t2 env H = W P t1 env H := by simp [onBool]
theorem onBool_false {t1 t2 : Task} : onBool P (.bool false) t1 t2 env H = W P t2 env H := by simp [onBool]
theorem onYield_none {w : Bool} {t1 t2 : Task} {dst : Option Tmp} : onYield P none w t1 t2 dst env H = W P t2 (put env dst undef) H := rfl
theorem onYield_tt {t1 t2 : Task} {dst : Option Tmp} : onYield P (some true) true t1 t2 dst env H = W P t1 env H := by simp [onYield]
theorem onYield_ff {t1 t2 : Task} {dst : Option Tmp} : onYield P (some false) false t1 t2 dst env H = W P t1 env H := by simp [onYield]
theorem onYield_tf {t1 t2 : Task} {dst : Option Tmp} : onYield P (some true) false t1 t2 dst env H = W P t2 (put env dst undef) H := by simp [onYield]
theorem onYield_ft {t1 t2 : Task} {dst : Option Tmp} : onYield P (some false) true t1 t2 dst env H = W P t2 (put env dst undef) H := by simp [onYield]
theorem onV_some {v : Value} {t : Task} {dst : Option Tmp} : onV P (some v) t dst env H = W P t (put env dst v) H := rfl
theorem onH_some {H' : AHeap} {t : Task} {dst : Option Tmp} : onH P (some H') t dst env = W P t (put env dst undef) H' := rfl
/-- Ways part. -/
theorem br_prop {p : Prop} [Decidable p] {t1 t2 : Task} (h : p → W P t1 env H) (h' : ¬ p → W P t2 env H) : onBool P (.bool (decide p)) t1 t2 env H := ⟨fun e => h (of_decide_eq_true e), fun e => h' (of_decide_eq_false e)⟩
theorem br_not {b : Bool} {t1 t2 : Task} (h : onBool P (.bool b) t2 t1 env H) : onBool P (.bool (!b)) t1 t2 env H := ⟨fun e => h.2 (by simpa using e), fun e => h.1 (by simpa using e)⟩
theorem br_bool {b : Bool} {t1 t2 : Task} (h : b = true → W P t1 env H) (h' : b = false → W P t2 env H) : onBool P (.bool b) t1 t2 env H := ⟨h, h'⟩
theorem by_prop {p : Prop} [Decidable p] {t1 t2 : Task} {dst : Option Tmp} (h : p → W P t1 env H) (h' : ¬ p → W P t2 (put env dst undef) H) : onYield P (some (decide p)) true t1 t2 dst env H := ⟨fun e => h (of_decide_eq_true e), fun e => h' (of_decide_eq_false (by simpa using e))⟩
theorem by_prop' {p : Prop} [Decidable p] {t1 t2 : Task} {dst : Option Tmp} (h : ¬ p → W P t1 env H) (h' : p → W P t2 (put env dst undef) H) : onYield P (some (decide p)) false t1 t2 dst env H := ⟨fun e => h (of_decide_eq_false e), fun e => h' (of_decide_eq_true (by simpa using e))⟩
theorem by_not {b w : Bool} {t1 t2 : Task} {dst : Option Tmp} (h : onYield P (some b) (!w) t1 t2 dst env H) : onYield P (some (!b)) w t1 t2 dst env H := ⟨fun e => h.1 (by rw [← e]; simp), fun e => h.2 (fun q => e (by rw [q]; simp))⟩
theorem by_bool {b : Bool} {t1 t2 : Task} {dst : Option Tmp} (h : b = true → W P t1 env H) (h' : b = false → W P t2 (put env dst undef) H) : onYield P (some b) true t1 t2 dst env H := ⟨h, fun e => h' (by simpa using e)⟩
theorem by_bool' {b : Bool} {t1 t2 : Task} {dst : Option Tmp} (h : b = false → W P t1 env H) (h' : b = true → W P t2 (put env dst undef) H) : onYield P (some b) false t1 t2 dst env H := ⟨h, fun e => h' (by simpa using e)⟩
theorem new_i {o : AObj} {kd : NewK} {t : Task} {dst : Option Tmp} (h : ∀ i, H i = .none → W P t (put env dst (kd.val i)) (H.set i o)) : onNew P (some o) kd t dst env H := h
theorem new_i' {o o' : AObj} {j : Nat} {kd : NewK} {t : Task} {dst : Option Tmp} (ho : o'.isNone = false) (h : ∀ i, i ≠ j → H i = .none → W P t (put env dst (kd.val i)) ((H.set j o').set i o)) : onNew P (some o) kd t dst env (H.set j o') := by
  intro i hi
  by_cases hij : i = j
  · subst hij; rw [AHeap.set_same] at hi; rw [hi] at ho; cases ho
  · rw [AHeap.set_ne _ _ hij] at hi; exact h i hij hi
theorem call_i {g : FuncId} {vs : List Value} {t : Task} {dst : Option Tmp} (h : ACalls P g vs.toArray H fun v H' => W P t (put env dst v) H') : onCall P (.func (.func g) #[] #[]) vs t dst env H := by
  unfold onCall; simpa using h
theorem call_c {g : FuncId} {vs : List Value} {cs : List Value} {t : Task} {dst : Option Tmp} (h : ACalls P g (vs ++ cs).toArray H fun v H' => W P t (put env dst v) H') : onCall P (.func (.func g) #[] cs.toArray) vs t dst env H := by
  unfold onCall; simpa using h
theorem meth_i {i : TypeId} {v : Value} {name : String} {vs : List Value} {g : FuncId} {t : Task} {dst : Option Tmp} (hm : methodA P i name = some g) (h : ACalls P g (v :: vs).toArray H fun v H' => W P t (put env dst v) H') : onMeth P (.iface i v) name vs t dst env H := by
  unfold onMeth; simpa [hm] using h
theorem app_i {e xe : TypeId} {s x : Value} {t : Task} {dst : Option Tmp} (h : appendW P e xe s x H fun v H' => W P t (put env dst v) H') : onApp P e xe s x t dst env H := h

/-! ### Code -/
theorem w_seq {x y : Code} : W P (.co (.seq x y) k) env H = W P (.co x (.seq y k)) env H := propext ⟨fun h => by cases h; assumption, .seq⟩
theorem w_skip : W P (.co .skip k) env H = W P (.ex .normal k) env H := propext ⟨fun h => by cases h; assumption, .skip⟩
theorem w_ret : W P (.co .ret k) env H = W P (.ex .ret k) env H := propext ⟨fun h => by cases h; assumption, .ret⟩
theorem w_exit {id : Nat} : W P (.co (.exit id) k) env H = W P (.ex (.exit id) k) env H := propext ⟨fun h => by cases h; assumption, .exit⟩
theorem w_block {id : Nat} {c : Code} : W P (.co (.block id c) k) env H = W P (.co c (.blk id k)) env H := propext ⟨fun h => by cases h; assumption, .block⟩
theorem w_region {id : Nat} {l : List Oper} : W P (.co (.region id (List.toArray l) false) k) env H = W P (.ops (List.toArray l) l k) env H := propext ⟨fun h => by cases h; assumption, fun h => .region h⟩
theorem w_drawn {id : Nat} {l : List Oper} (hd : drawOk (List.toArray l) = true) (h : W P (.ops (List.toArray l) l k) env H) : W P (.co (.region id (List.toArray l) true) k) env H := .drawn hd h
theorem w_cond {c : Operand} {x y : Code} : W P (.co (.cond c x y) k) env H = onBool P (ev env c) (.co x k) (.co y k) env H := propext ⟨fun h => by
  cases h with
  | cond hb h1 h2 => rw [hb]; exact ⟨h1, h2⟩, fun h => by
  unfold onBool at h
  split at h
  · rename_i b hb; exact .cond hb h.1 h.2
  · exact h.elim⟩
theorem e_seq {y : Code} : W P (.ex .normal (.seq y k)) env H = W P (.co y k) env H := propext ⟨fun h => by cases h; assumption, .eSeq⟩
theorem e_seq_exit {y : Code} {id : Nat} : W P (.ex (.exit id) (.seq y k)) env H = W P (.ex (.exit id) k) env H := propext ⟨fun h => by cases h; assumption, .eSeqExit⟩
theorem e_seq_ret {y : Code} : W P (.ex .ret (.seq y k)) env H = W P (.ex .ret k) env H := propext ⟨fun h => by cases h; assumption, .eSeqRet⟩
theorem e_blk {id : Nat} : W P (.ex .normal (.blk id k)) env H = W P (.ex .normal k) env H := propext ⟨fun h => by cases h; assumption, .eBlk⟩
theorem e_blk_ret {id : Nat} : W P (.ex .ret (.blk id k)) env H = W P (.ex .ret k) env H := propext ⟨fun h => by cases h; assumption, .eBlkRet⟩
theorem e_blk_exit {id id' : Nat} : W P (.ex (.exit id') (.blk id k)) env H = if id' = id then W P (.ex .normal k) env H else W P (.ex (.exit id') k) env H := by
  split
  · rename_i h0; exact propext ⟨fun h => by cases h with | eBlkExit h => rw [if_pos h0] at h; exact h, fun h => .eBlkExit (by rw [if_pos h0]; exact h)⟩
  · rename_i h0; exact propext ⟨fun h => by cases h with | eBlkExit h => rw [if_neg h0] at h; exact h, fun h => .eBlkExit (by rw [if_neg h0]; exact h)⟩
theorem e_inv {R : Env → AHeap → Prop} : W P (.ex .normal (.inv R k)) env H = R env H := propext ⟨fun h => by cases h; assumption, .eInv⟩
theorem e_inv_exit {R : Env → AHeap → Prop} {id : Nat} : W P (.ex (.exit id) (.inv R k)) env H = W P (.ex (.exit id) k) env H := propext ⟨fun h => by cases h; assumption, .eInvExit⟩
theorem e_inv_ret {R : Env → AHeap → Prop} : W P (.ex .ret (.inv R k)) env H = W P (.ex .ret k) env H := propext ⟨fun h => by cases h; assumption, .eInvRet⟩
theorem e_fin {rs : List ResultVar} {K : Value → AHeap → Prop} : W P (.ex .ret (.fin rs K)) env H = ∃ vs, resultsA P rs env H = some vs ∧ K (handed vs) H := propext ⟨fun h => by
  cases h with
  | eFin hr h => exact ⟨_, hr, h⟩, fun ⟨_, hr, h⟩ => .eFin hr h⟩
theorem e_fin0 {K : Value → AHeap → Prop} : W P (.ex .ret (.fin [] K)) env H = K (.tuple #[]) H := by rw [e_fin]; simp [resultsA, handed]
theorem e_fin0' {K : Value → AHeap → Prop} : W P (.ex .normal (.fin [] K)) env H = K (.tuple #[]) H := propext ⟨fun h => by
  cases h with
  | eFinN hr h => cases hr; exact h, fun h => .eFinN rfl h⟩
theorem e_fin1 {t : Tmp} {K : Value → AHeap → Prop} : W P (.ex .ret (.fin [.tmp t] K)) env H = K (env t) H := by rw [e_fin]; simp [resultsA, handed]
theorem e_fin2 {t u : Tmp} {K : Value → AHeap → Prop} : W P (.ex .ret (.fin [.tmp t, .tmp u] K)) env H = K (.tuple #[env t, env u]) H := by rw [e_fin]; simp [resultsA, handed]
theorem e_fin3 {t u v : Tmp} {K : Value → AHeap → Prop} : W P (.ex .ret (.fin [.tmp t, .tmp u, .tmp v] K)) env H = K (.tuple #[env t, env u, env v]) H := by rw [e_fin]; simp [resultsA, handed]
theorem e_fin4 {t u v w : Tmp} {K : Value → AHeap → Prop} : W P (.ex .ret (.fin [.tmp t, .tmp u, .tmp v, .tmp w] K)) env H = K (.tuple #[env t, env u, env v, env w]) H := by rw [e_fin]; simp [resultsA, handed]
/-! ### Operations -/
def loadV (H : AHeap) (n : Option (Option Nat)) (a : Value) : Option Value := match n, a with
  | some n, .pointer (some ⟨i, k, none⟩) => readA (H i) k n
  | _, _ => none
def onK (o : Option Value) (K : Value → AHeap → Prop) (H : AHeap) : Prop := match o with
  | some v => K v H
  | none => False
omit [Go.Ab.Start] in
theorem onK_some (v : Value) (K : Value → AHeap → Prop) (H : AHeap) : onK (some v) K H = K v H := rfl
theorem e_finC {a : Tmp} {t : TypeId} {K : Value → AHeap → Prop} : W P (.ex .ret (.fin [.cell a t] K)) env H = onK (loadV H (aggA P t) (env a)) K H := by
  rw [e_fin]
  have e : resultsA P [.cell a t] env H = (loadV H (aggA P t) (env a)).map fun v => [v] := by
    unfold resultsA loadV
    split
    · rename_i n i k h1 h2
      simp only [h1, h2]
      cases readA (H i) k n <;> rfl
    · rename_i hno
      split
      · rename_i h1 h2; exact absurd h2 (hno _ _ _ h1)
      · rfl
  rw [e]
  cases loadV H (aggA P t) (env a) with
  | none => simp [onK]
  | some v => simp [onK, handed]
variable {ops : Array Oper} {rest : List Oper} {dst : Option Tmp} {ty : TypeId} {pos : String} {af : Array Edge}
theorem o_nil : W P (.ops ops [] k) env H = W P (.ex .normal k) env H := propext ⟨fun h => by cases h; assumption, .nil⟩
theorem o_guard {op : Op} {j : Nat} {want : Bool} : W P (.ops ops (⟨dst, op, ty, pos, af, some (j, want)⟩ :: rest) k) env H = onYield P (yieldA ops env j) want (.ops ops (⟨dst, op, ty, pos, af, none⟩ :: rest) k) (.ops ops rest k) dst env H := propext ⟨fun h => by
  cases h with
  | oper K' ho => cases ho
  | guard hy h h' => rw [hy]; exact ⟨h, h'⟩
  | guardNo hy h => rw [hy]; exact h, fun h => by
  unfold onYield at h
  split at h
  · rename_i b hb; exact .guard hb h.1 h.2
  · rename_i hb; exact .guardNo hb h⟩
theorem o_quiet {op : Op} (hq : quietOp op = true) : W P (.ops ops (⟨dst, op, ty, pos, af, none⟩ :: rest) k) env H = onV P (valA P env H op) (.ops ops rest k) dst env H := propext ⟨fun h => by
  cases h with
  | oper K' ho h hk =>
    obtain ⟨v, h1, h2⟩ := quiet_val hq h
    unfold onV
    rw [show valA P env H op = some v from h1]
    exact hk _ _ h2, fun h => by
  unfold onV at h
  split at h
  · rename_i v hv
    exact .oper (fun v' H' => v' = v ∧ H' = H) rfl (by unfold opX; rw [if_pos hq]; exact ⟨v, hv, rfl, rfl⟩) fun v' H' e => by obtain ⟨rfl, rfl⟩ := e; exact h
  · exact h.elim⟩
theorem o_other {op : Op} (hq : quietOp op = false) : W P (.ops ops (⟨dst, op, ty, pos, af, none⟩ :: rest) k) env H = opW P env H (fun v H' => W P (.ops ops rest k) (put env dst v) H') op := propext ⟨fun h => by
  cases h with
  | oper K' ho h hk =>
    unfold opX at h
    simp only [hq] at h
    exact opW_mono hk h, fun h => .oper _ rfl (by unfold opX; simp only [hq]; exact h) fun _ _ q => q⟩
section
variable {x y : Operand} {t s : TypeId}
theorem o_move : W P (.ops ops (⟨dst, .move x, ty, pos, af, none⟩ :: rest) k) env H = onV P (some (ev env x)) (.ops ops rest k) dst env H := o_quiet rfl
theorem o_assign : W P (.ops ops (⟨dst, .assign x, ty, pos, af, none⟩ :: rest) k) env H = onV P (some (ev env x)) (.ops ops rest k) dst env H := o_quiet rfl
def pickV (c a b : Value) : Option Value := match c with
  | .bool b' => some (if b' then a else b)
  | _ => none
omit [Go.Ab.Start] in
theorem pick_true (a b : Value) : pickV (.bool true) a b = some a := rfl
omit [Go.Ab.Start] in
theorem pick_false (a b : Value) : pickV (.bool false) a b = some b := rfl
theorem o_pick {c : Operand} : W P (.ops ops (⟨dst, .pick c x y, ty, pos, af, none⟩ :: rest) k) env H = onV P (pickV (ev env c) (ev env x) (ev env y)) (.ops ops rest k) dst env H := o_quiet rfl
theorem o_build {ps : List (Nat × Operand)} : W P (.ops ops (⟨dst, .build t (List.toArray ps), ty, pos, af, none⟩ :: rest) k) env H = onV P ((buildA P t (ps.map fun (i, x) => (i, ev env x))).map .agg) (.ops ops rest k) dst env H := o_quiet rfl
omit [Go.Ab.Start] in
theorem load_cell (n : Option Nat) (i k : Nat) : loadV H (some n) (.pointer (some ⟨i, k, none⟩)) = readA (H i) k n := rfl
theorem o_load : W P (.ops ops (⟨dst, .load t x, ty, pos, af, none⟩ :: rest) k) env H = onV P (loadV H (aggA P t) (ev env x)) (.ops ops rest k) dst env H := o_quiet rfl
def nilV (a : Value) : Option Value := match a with
  | .pointer (some a) => some (.pointer (some a))
  | .func (.func g) a b => some (.func (.func g) a b)
  | .iface t v => some (.iface t v)
  | _ => none
omit [Go.Ab.Start] in
theorem nil_ptr (a : Addr) : nilV (.pointer (some a)) = some (.pointer (some a)) := rfl
omit [Go.Ab.Start] in
theorem nil_func (g : FuncId) (a b : Array Value) : nilV (.func (.func g) a b) = some (.func (.func g) a b) := rfl
omit [Go.Ab.Start] in
theorem nil_iface (t : TypeId) (v : Value) : nilV (.iface t v) = some (.iface t v) := rfl
theorem o_nilCheck : W P (.ops ops (⟨dst, .nilCheck x, ty, pos, af, none⟩ :: rest) k) env H = onV P (nilV (ev env x)) (.ops ops rest k) dst env H := o_quiet rfl
/-- A comparison, or a sum, of two values (the operands' forms matter where a nil is compared). -/
theorem o_bin {op : BinOp} {yt : TypeId} : W P (.ops ops (⟨dst, .binOp op t x y yt, ty, pos, af, none⟩ :: rest) k) env H = onV P (binV P H op t x y (ev env x) (ev env y)) (.ops ops rest k) dst env H := o_quiet rfl
theorem o_un {op : UnOp} {t : TypeId} : W P (.ops ops (⟨dst, .unOp op t x, ty, pos, af, none⟩ :: rest) k) env H = onV P (unA op (ev env x)) (.ops ops rest k) dst env H := o_quiet rfl
theorem o_convert : W P (.ops ops (⟨dst, .convert s t x, ty, pos, af, none⟩ :: rest) k) env H = onV P (convV P H s t (ev env x)) (.ops ops rest k) dst env H := o_quiet rfl
def mkIface (P : Program) (t : TypeId) (v : Value) : Option Value := if P.concrete t = true then some (.iface t v) else none
omit [Go.Ab.Start] in
theorem mkIface_of {t : TypeId} (h : P.concrete t = true) (v : Value) : mkIface P t v = some (.iface t v) := by unfold mkIface; rw [if_pos h]
theorem o_makeInterface : W P (.ops ops (⟨dst, .makeInterface t x, ty, pos, af, none⟩ :: rest) k) env H = onV P (mkIface P t (ev env x)) (.ops ops rest k) dst env H := o_quiet rfl
theorem o_makeFunc {fn : Fn} {first captured : List Operand} : W P (.ops ops (⟨dst, .makeFunc fn (List.toArray first) (List.toArray captured), ty, pos, af, none⟩ :: rest) k) env H = onV P (some (.func fn (first.map (ev env)).toArray (captured.map (ev env)).toArray)) (.ops ops rest k) dst env H := by
  rw [o_quiet rfl]; simp [valA]
def sliceV (P : Program) (t : TypeId) (x : Value) (lo hi mx : Option Value) : Option Value := if lo.all scalar = true ∧ hi.all scalar = true ∧ mx.all scalar = true then sliceA P t x lo hi mx else none
theorem o_slice {lo hi mx : Option Operand} : W P (.ops ops (⟨dst, .slice t x lo hi mx, ty, pos, af, none⟩ :: rest) k) env H = onV P (sliceV P t (ev env x) (lo.map (ev env)) (hi.map (ev env)) (mx.map (ev env))) (.ops ops rest k) dst env H := by
  rw [o_quiet rfl]; simp only [valA, sliceV, Option.all_map]
theorem o_fieldAddr {f : Nat} : W P (.ops ops (⟨dst, .fieldAddr t x f, ty, pos, af, none⟩ :: rest) k) env H = onV P (fieldAddrA P t (ev env x) f) (.ops ops rest k) dst env H := o_quiet rfl
theorem o_field {f : Nat} : W P (.ops ops (⟨dst, .field t x f, ty, pos, af, none⟩ :: rest) k) env H = onV P (fieldValA P t (ev env x) f) (.ops ops rest k) dst env H := o_quiet rfl
theorem o_indexAddr : W P (.ops ops (⟨dst, .indexAddr t x y, ty, pos, af, none⟩ :: rest) k) env H = onV P (indexAddrA P t (ev env x) (ev env y)) (.ops ops rest k) dst env H := o_quiet rfl
theorem o_index : W P (.ops ops (⟨dst, .index t x y, ty, pos, af, none⟩ :: rest) k) env H = onV P (indexA P t (ev env x) (ev env y)) (.ops ops rest k) dst env H := o_quiet rfl
def lookV (P : Program) (H : AHeap) (t : TypeId) (m k : Value) (ok : Bool) : Option Value := if scalar k = true then lookupA P H t m k ok else none
theorem o_lookup {ok : Bool} : W P (.ops ops (⟨dst, .lookup t x y ok, ty, pos, af, none⟩ :: rest) k) env H = onV P (lookV P H t (ev env x) (ev env y) ok) (.ops ops rest k) dst env H := o_quiet rfl
def tupleV (v : Value) (i : Nat) : Option Value := match v with
  | .tuple vs => vs[i]?
  | _ => none
omit [Go.Ab.Start] in
theorem tuple_get (vs : List Value) (i : Nat) : tupleV (.tuple (List.toArray vs)) i = vs[i]? := by simp [tupleV]
theorem o_extract {i : Nat} : W P (.ops ops (⟨dst, .extract x i, ty, pos, af, none⟩ :: rest) k) env H = onV P (tupleV (ev env x) i) (.ops ops rest k) dst env H := o_quiet rfl
def lenVal (P : Program) (H : AHeap) (t : TypeId) (x : Value) : Option Value := (lenA P H t x).map fun (n : Nat) => Value.int .i64 (n : Int)
theorem o_len : W P (.ops ops (⟨dst, .call ⟨.builtin .len, #[x], #[t]⟩, ty, pos, af, none⟩ :: rest) k) env H = onV P (lenVal P H t (ev env x)) (.ops ops rest k) dst env H := by
  rw [o_quiet rfl]; simp only [valA, lenV, lenVal]
def storeH (P : Program) (H : AHeap) (t : TypeId) (a v : Value) : Option AHeap := match a with
  | .pointer (some ⟨i, k, none⟩) => if sizeA P t = some v.cells.size then (writeA (H i) k v.cells.toList).map (H.set i) else none
  | _ => none
theorem o_store : W P (.ops ops (⟨dst, .store t x y, ty, pos, af, none⟩ :: rest) k) env H = onH P (storeH P H t (ev env x) (ev env y)) (.ops ops rest k) dst env := by
  rw [o_other rfl]
  simp only [opW, storeH, onH]
  generalize ev env x = u
  cases u <;> try rfl
  rename_i a
  cases a with
  | none => rfl
  | some a =>
    obtain ⟨i, k', sp⟩ := a
    cases sp with
    | some _ => rfl
    | none =>
      simp only
      by_cases hs : sizeA P t = some (ev env y).cells.size
      · simp only [hs, true_and, if_true]
        cases writeA (H i) k' (ev env y).cells.toList <;> rfl
      · simp [hs]
def zeroObj (P : Program) (t : TypeId) : Option AObj := match zeroA P t with
  | some z => if z.cells.toList.all scalar = true then (if z.cells.toList.all (·.oneCell') = true then some (.cells z.cells.toList) else none) else none
  | none => none
theorem o_alloc : W P (.ops ops (⟨dst, .alloc t, ty, pos, af, none⟩ :: rest) k) env H = onNew P (zeroObj P t) .ptr (.ops ops rest k) dst env H := by
  rw [o_other rfl]
  simp only [opW, zeroObj, onNew, newW]
  cases zeroA P t with
  | none => rfl
  | some z =>
    simp only
    by_cases h1 : z.cells.toList.all scalar = true
    · by_cases h2 : z.cells.toList.all (·.oneCell') = true
      · simp only [h1, h2, true_and, if_true]; rfl
      · simp only [h1, h2, true_and, if_true]; simp
    · simp only [h1]; simp
def boxObj (v : Value) : Option AObj := if v.cells.toList.all (·.oneCell') = true then some (.cells v.cells.toList) else none
theorem o_box : W P (.ops ops (⟨dst, .box t x, ty, pos, af, none⟩ :: rest) k) env H = onNew P (boxObj (ev env x)) .ptr (.ops ops rest k) dst env H := by
  rw [o_other rfl]
  simp only [opW, boxObj, onNew, newW]
  by_cases h2 : (ev env x).cells.toList.all (·.oneCell') = true
  · simp only [h2, true_and, if_true]; rfl
  · simp only [h2]; simp
def sliceObj (P : Program) (t : TypeId) (n : Nat) (ps : List (Nat × Value)) : Option AObj := match buildSliceA P t n ps with
  | some cs => if cs.toList.all (·.oneCell') = true then some (.cells cs.toList) else none
  | none => none
theorem o_buildSlice {n : Nat} {ps : List (Nat × Operand)} : W P (.ops ops (⟨dst, .buildSlice t n (List.toArray ps), ty, pos, af, none⟩ :: rest) k) env H = onNew P (sliceObj P t n (ps.map fun (i, x) => (i, ev env x))) (.slice n n) (.ops ops rest k) dst env H := by
  rw [o_other rfl]
  simp only [opW, sliceObj, onNew]
  split
  · rename_i cs hcs
    simp only [hcs]
    by_cases h2 : cs.toList.all (·.oneCell') = true
    · simp only [h2, true_and, if_true]; rfl
    · simp only [h2]; simp
  · rename_i hcs
    simp only [hcs]
theorem o_makeMap : W P (.ops ops (⟨dst, .makeMap t none, ty, pos, af, none⟩ :: rest) k) env H = onNew P (some (.map [])) .map (.ops ops rest k) dst env H := by
  rw [o_other rfl]; rfl
def onMake (P : Program) (o : Option (List Value × Nat × Nat)) (t : Task) (dst : Option Tmp) (env : Env) (H : AHeap) : Prop := match o with
  | some (cs, n, m) => onNew P (some (.cells cs)) (.slice n m) t dst env H
  | none => False
theorem onMake_congr {v v' : Option (List Value × Nat × Nat)} {t : Task} {dst : Option Tmp} (h : v = v') : onMake P v t dst env H = onMake P v' t dst env H := by rw [h]
attribute [congr] onMake_congr
theorem onMake_some {cs : List Value} {n m : Nat} {t : Task} {dst : Option Tmp} : onMake P (some (cs, n, m)) t dst env H = onNew P (some (.cells cs)) (.slice n m) t dst env H := rfl
theorem o_makeSlice : W P (.ops ops (⟨dst, .makeSlice t x y, ty, pos, af, none⟩ :: rest) k) env H = onMake P (makeSliceA P t (ev env x) (ev env y)) (.ops ops rest k) dst env H := by
  rw [o_other rfl]
  simp only [opW, onMake]
  split
  · rename_i h; simp only [h]; rfl
  · rename_i h; simp only [h]
def updH (P : Program) (H : AHeap) (t : TypeId) (m k v : Value) : Option AHeap := if scalar k = true then updateA P H t m k v else none
theorem o_mapUpdate {v : Operand} : W P (.ops ops (⟨dst, .mapUpdate t x y v, ty, pos, af, none⟩ :: rest) k) env H = onH P (updH P H t (ev env x) (ev env y) (ev env v)) (.ops ops rest k) dst env := by
  rw [o_other rfl]
  simp only [opW, updH, onH]
  by_cases h : scalar (ev env y) = true
  · simp only [h, true_and, if_true]
    split <;> rename_i h2 <;> simp only [h2]
  · simp only [h]; simp
theorem o_append : W P (.ops ops (⟨dst, .call ⟨.builtin .append, #[x, y], #[t, s]⟩, ty, pos, af, none⟩ :: rest) k) env H = onApp P t s (ev env x) (ev env y) (.ops ops rest k) dst env H := by
  rw [o_other rfl]; rfl
def minV (u v : Value) : Option Value := match u, v with
  | .int k a, .int _ b => some (.int k (if b < a then b else a))
  | _, _ => none
omit [Go.Ab.Start] in
theorem min_le {k k' : IntKind} {a b : Int} (h : a ≤ b) : minV (.int k a) (.int k' b) = some (.int k a) := by simp only [minV, if_neg (by omega : ¬ b < a)]
omit [Go.Ab.Start] in
theorem min_lt {k k' : IntKind} {a b : Int} (h : b < a) : minV (.int k a) (.int k' b) = some (.int k b) := by simp only [minV, if_pos h]
theorem o_min {ats : Array TypeId} : W P (.ops ops (⟨dst, .call ⟨.builtin .min, #[x, y], ats⟩, ty, pos, af, none⟩ :: rest) k) env H = onV P (minV (ev env x) (ev env y)) (.ops ops rest k) dst env H := by
  rw [o_other rfl]
  simp only [opW, callW, minV, onV]
  generalize ev env x = u
  generalize ev env y = v
  cases u <;> cases v <;> rfl
theorem o_call {args : List Operand} {ats : Array TypeId} : W P (.ops ops (⟨dst, .call ⟨.value x, List.toArray args, ats⟩, ty, pos, af, none⟩ :: rest) k) env H = onCall P (ev env x) (args.map (ev env)) (.ops ops rest k) dst env H := by
  rw [o_other rfl]
  simp only [opW, callW, onCall]
  simp only [List.map_toArray]
  split <;> rename_i h <;> simp only [h]
theorem o_invoke {args : List Operand} {ats : Array TypeId} {name : String} : W P (.ops ops (⟨dst, .call ⟨.invoke x name, List.toArray args, ats⟩, ty, pos, af, none⟩ :: rest) k) env H = onMeth P (ev env x) name (args.map (ev env)) (.ops ops rest k) dst env H := by
  rw [o_other rfl]
  simp only [opW, callW, onMeth]
  simp only [List.map_toArray]
  split
  · rename_i h
    simp only [h]
    split <;> rename_i h2 <;> simp only [h2]
    simp
  · rename_i h; simp only [h]
end
end Go.Ab
