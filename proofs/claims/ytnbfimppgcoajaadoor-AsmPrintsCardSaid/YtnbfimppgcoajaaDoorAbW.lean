/-
  A CALCULUS OVER ABSTRACT HEAPS: the walk as rewriting: what is to be run is a 'Task'; 'W P t env H' says that it comes to the end that its continuation names; rules as equations, for one simp call a stretch.
-/
import Derived.Test.YtnbfimppgcoajaaDoorAbDraw
namespace Go.Ab
set_option linter.unusedSimpArgs false
set_option linter.unusedVariables false
set_option linter.unusedSectionVars false
variable [Start]

inductive Kont where
  | fin (rs : List ResultVar) (K : Value → AHeap → Prop)
  | seq (y : Code) (k : Kont)
  | blk (id : Nat) (k : Kont)
  | inv (R : Env → AHeap → Prop) (k : Kont)
def Kont.den (P : Program) (N : Nat) : Kont → AQ
  | .fin rs K => retQ P rs K
  | .seq y k => thenQ (ACode P N y (k.den P N)) (k.den P N)
  | .blk id k => inBlockQ id (k.den P N)
  | .inv R k => thenQ R (k.den P N)
inductive Task where
  | co (c : Code) (k : Kont)
  | ex (e : AExit) (k : Kont)
  | ops (all : Array Oper) (rest : List Oper) (k : Kont)

inductive W (P : Program) : Task → Env → AHeap → Prop
  | seq {x y k env H} (h : W P (.co x (.seq y k)) env H) : W P (.co (.seq x y) k) env H
  | skip {k env H} (h : W P (.ex .normal k) env H) : W P (.co .skip k) env H
  | ret {k env H} (h : W P (.ex .ret k) env H) : W P (.co .ret k) env H
  | exit {id k env H} (h : W P (.ex (.exit id) k) env H) : W P (.co (.exit id) k) env H
  | block {id c k env H} (h : W P (.co c (.blk id k)) env H) : W P (.co (.block id c) k) env H
  | cond {c x y b k env H} (hb : ev env c = .bool b) (h1 : b = true → W P (.co x k) env H) (h2 : b = false → W P (.co y k) env H) : W P (.co (.cond c x y) k) env H
  | region {id ops k env H} (h : W P (.ops ops ops.toList k) env H) : W P (.co (.region id ops false) k) env H
  | drawn {id ops k env H} (hd : drawOk ops = true) (h : W P (.ops ops ops.toList k) env H) : W P (.co (.region id ops true) k) env H
  | order {id ops k env H} (l : List (Nat × Bool)) (S : AHeap → Prop) (K' : Env → AHeap → Prop) (hl : seqOk ops l ops.size (Array.replicate ops.size false) = true) (h : seqA P ops S K' l env H) (hk : ∀ env H, K' env H → W P (.ex .normal k) env H) : W P (.co (.region id ops true) k) env H
  | anyR {id ops k env H} (S : AHeap → Prop) (K' : Env → AHeap → Prop) (h : aAny P ops S K' ops.size (Array.replicate ops.size false) env H) (hk : ∀ env H, K' env H → W P (.ex .normal k) env H) : W P (.co (.region id ops true) k) env H
  | loop {c k env H} (I : Nat → Env → AHeap → Prop) (n : Nat) (h0 : I n env H) (hr : ∀ n env H, I n env H → W P (.co c (.inv (fun env' H' => ∃ n', n' < n ∧ I n' env' H') k)) env H) : W P (.co (.loop c) k) env H
  | eSeq {y k env H} (h : W P (.co y k) env H) : W P (.ex .normal (.seq y k)) env H
  | eSeqExit {y id k env H} (h : W P (.ex (.exit id) k) env H) : W P (.ex (.exit id) (.seq y k)) env H
  | eSeqRet {y k env H} (h : W P (.ex .ret k) env H) : W P (.ex .ret (.seq y k)) env H
  | eBlk {id k env H} (h : W P (.ex .normal k) env H) : W P (.ex .normal (.blk id k)) env H
  | eBlkRet {id k env H} (h : W P (.ex .ret k) env H) : W P (.ex .ret (.blk id k)) env H
  | eBlkExit {id id' k env H} (h : W P (.ex (if id' = id then .normal else .exit id') k) env H) : W P (.ex (.exit id') (.blk id k)) env H
  | eInv {R k env H} (h : R env H) : W P (.ex .normal (.inv R k)) env H
  | eInvExit {R id k env H} (h : W P (.ex (.exit id) k) env H) : W P (.ex (.exit id) (.inv R k)) env H
  | eInvRet {R k env H} (h : W P (.ex .ret k) env H) : W P (.ex .ret (.inv R k)) env H
  | eFin {rs K vs env H} (hr : resultsA P rs env H = some vs) (h : K (handed vs) H) : W P (.ex .ret (.fin rs K)) env H
  | eFinN {rs K vs env H} (hr : resultsA P rs env H = some vs) (h : K (handed vs) H) : W P (.ex .normal (.fin rs K)) env H
  | nil {ops k env H} (h : W P (.ex .normal k) env H) : W P (.ops ops [] k) env H
  | oper {ops o rest k env H} (K' : Value → AHeap → Prop) (ho : o.guard = none) (h : opX P env H K' o.op) (hk : ∀ v H', K' v H' → W P (.ops ops rest k) (put env o.dst v) H') : W P (.ops ops (o :: rest) k) env H
  | guard {ops dst op ty pos af j want b rest k env H} (hy : yieldA ops env j = some b) (h : b = want → W P (.ops ops (⟨dst, op, ty, pos, af, none⟩ :: rest) k) env H) (h' : b ≠ want → W P (.ops ops rest k) (put env dst undef) H) : W P (.ops ops (⟨dst, op, ty, pos, af, some (j, want)⟩ :: rest) k) env H
  | guardNo {ops dst op ty pos af j want rest k env H} (hy : yieldA ops env j = none) (h : W P (.ops ops rest k) (put env dst undef) H) : W P (.ops ops (⟨dst, op, ty, pos, af, some (j, want)⟩ :: rest) k) env H

variable {P : Program} {N : Nat} {k : Kont} {env : Env} {H : AHeap}

/-! ### It suffices -/
theorem seqA_mono {ops : Array Oper} {S : AHeap → Prop} {K K' : Env → AHeap → Prop} (hk : ∀ env H, K env H → K' env H) : ∀ (l : List (Nat × Bool)) (env : Env) (H : AHeap), seqA P ops S K l env H → seqA P ops S K' l env H
  | [], _, _, h => ⟨h.1, hk _ _ h.2⟩
  | (i, true) :: l, env, H, h => by
    unfold seqA at h ⊢
    split at h
    · obtain ⟨v, h1, h2⟩ := h; exact ⟨v, h1, seqA_mono hk l _ _ h2⟩
    · exact h.elim
  | (i, false) :: l, env, H, h => by
    unfold seqA at h ⊢
    split at h
    · exact ⟨h.1, operW_mono (fun _ _ q => seqA_mono hk l _ _ q) h.2⟩
    · exact h.elim
theorem any_mono {ops : Array Oper} {S : AHeap → Prop} {K K' : Env → AHeap → Prop} (hk : ∀ env H, K env H → K' env H) : ∀ (n : Nat) (listed : Array Bool) (env : Env) (H : AHeap), aAny P ops S K n listed env H → aAny P ops S K' n listed env H
  | 0, _, _, _, h => ⟨h.1, h.2.1, hk _ _ h.2.2⟩
  | n + 1, listed, env, H, h => by
    refine ⟨h.1, fun q => hk _ _ (h.2.1 q), fun i hi => ?_⟩
    have h1 := h.2.2 i hi
    cases ho : ops[i]? with
    | none => simp only [aOp, ho] at h1 ⊢; exact any_mono hk n _ _ _ h1
    | some o => simp only [aOp, ho] at h1 ⊢; exact operW_mono (fun _ _ q => any_mono hk n _ _ _ q) h1
def okCode (N : Nat) : Code → Bool
  | .skip | .ret | .exit _ => true
  | .seq x y => okCode N x && okCode N y
  | .cond c x y => okOperand c && okCode N x && okCode N y
  | .block _ c | .loop c => okCode N c
  | .region _ ops _ => ops.toList.all (okOper N)
  | _ => false
def okKont (N : Nat) : Kont → Bool
  | .fin _ _ => true
  | .seq y k => okCode N y && okKont N k
  | .blk _ k | .inv _ k => okKont N k
def okTask (N : Nat) : Task → Bool
  | .co c k => okCode N c && okKont N k
  | .ex _ k => okKont N k
  | .ops _ _ k => okKont N k
def Task.den (P : Program) (N : Nat) : Task → Env → AHeap → Prop
  | .co c k => ACode P N c (k.den P N)
  | .ex e k => k.den P N e
  | .ops all rest k => opsX P all (k.den P N .normal) rest
theorem W.sound (hm : P.follows .mixedOrders = true) {t : Task} {env : Env} {H : AHeap} (h : W P t env H) : okTask N t = true → t.den P N env H := by
  induction h with
  | seq h ih => intro ok; simp only [okTask, okCode, okKont, Bool.and_eq_true] at ok ih; exact ACode.seq (ih ⟨ok.1.1, ok.1.2, ok.2⟩)
  | skip h ih => intro ok; simp only [okTask, okCode, okKont, Bool.and_eq_true] at ok ih; exact ACode.skip (ih ok.2)
  | ret h ih => intro ok; simp only [okTask, okCode, okKont, Bool.and_eq_true] at ok ih; exact ACode.ret (ih ok.2)
  | exit h ih => intro ok; simp only [okTask, okCode, okKont, Bool.and_eq_true] at ok ih; exact ACode.exit (ih ok.2)
  | block h ih => intro ok; simp only [okTask, okCode, okKont, Bool.and_eq_true] at ok ih; exact ACode.block (ih ok)
  | cond hb h1 h2 ih1 ih2 =>
    intro ok
    simp only [okTask, okCode, okKont, Bool.and_eq_true] at ok ih1 ih2
    exact ACode.cond ok.1.1.1 hb (fun e => ih1 e ⟨ok.1.1.2, ok.2⟩) fun e => ih2 e ⟨ok.1.2, ok.2⟩
  | region h ih =>
    intro ok
    simp only [okTask, okCode, okKont, Bool.and_eq_true] at ok ih
    exact ACode.region ok.1 (opsX_sound (ih ok.2))
  | drawn hd h ih =>
    intro ok
    simp only [okTask, okCode, okKont, Bool.and_eq_true] at ok ih
    exact draw_sound hm ok.1 hd (ih ok.2)
  | order l S K' hl h hk ih =>
    intro ok
    simp only [okTask, okCode, okKont, Bool.and_eq_true] at ok ih
    exact ACode.order l S hm ok.1 hl (seqA_mono (fun env H q => ih env H q ok.2) _ _ _ h)
  | anyR S K' h hk ih =>
    intro ok
    simp only [okTask, okCode, okKont, Bool.and_eq_true] at ok ih
    exact ACode.drawn hm ok.1 S (any_mono (fun env H q => ih env H q ok.2) _ _ _ _ h)
  | loop I n h0 hr ih =>
    intro ok
    simp only [okTask, okCode, okKont, Bool.and_eq_true] at ok ih
    exact ACode.loop I n h0 fun n env H hi => ih n env H hi ok
  | eSeq h ih => intro ok; simp only [okTask, okKont, Bool.and_eq_true] at ok ih; exact ih ok
  | eSeqExit h ih => intro ok; simp only [okTask, okKont, Bool.and_eq_true] at ok ih; exact ih ok.2
  | eSeqRet h ih => intro ok; simp only [okTask, okKont, Bool.and_eq_true] at ok ih; exact ih ok.2
  | eBlk h ih => intro ok; exact ih ok
  | eBlkRet h ih => intro ok; exact ih ok
  | @eBlkExit id id' k env H h ih =>
    intro ok
    have := ih ok
    simp only [Task.den, Kont.den, inBlockQ] at this ⊢
    split
    · rename_i he; rw [if_pos he] at this; exact this
    · rename_i he; rw [if_neg he] at this; exact this
  | eInv h => intro ok; exact h
  | eInvExit h ih => intro ok; exact ih ok
  | eInvRet h ih => intro ok; exact ih ok
  | eFin hr h => intro ok; simp only [Task.den, Kont.den, retQ, hr]; exact h
  | eFinN hr h => intro ok; simp only [Task.den, Kont.den, retQ, hr]; exact h
  | nil h ih => intro ok; exact ih ok
  | oper K' ho h hk ih =>
    intro ok
    simp only [Task.den, opsX, operX, ho] at ih ⊢
    exact opX_mono (fun v H' q => ih v H' q ok) h
  | guard hy h h' ih ih' =>
    intro ok
    simp only [Task.den, opsX, operX, hy] at ih ih' ⊢
    exact ⟨fun hb => ih hb ok, fun hb => ih' hb ok⟩
  | guardNo hy h ih =>
    intro ok
    simp only [Task.den, opsX, operX, hy] at ih ⊢
    exact ih ok
theorem w_enter {f : FuncId} {fn : Func} {c : Code} {args : List Value} {H : AHeap} {K : Value → AHeap → Prop} {rs : List ResultVar} (hf : P.funcs[f]? = some fn) (hb : fn.body = some c) (hname : (fn.name == "runtime.NumGoroutine") = false) (hm : P.follows .mixedOrders = true)
    (hok : okCode (args.length + (fn.ntmps - args.length)) c = true) (hrs : fn.results.toList = rs) (h : W P (.co c (.fin rs K)) (env0 args.toArray) H) : ACalls P f args.toArray H K := by
  subst hrs
  have := h.sound (N := args.length + (fn.ntmps - args.length)) hm (by simp only [okTask, okKont, Bool.and_true]; exact hok)
  exact acalls_of_code hf hb hname (by simpa only [Task.den, Kont.den, List.size_toArray] using this)

/-! ### Seams -/
inductive KR (P : Program) : Kont → Kont → Prop
  | seam {R : Env → AHeap → Prop} {y k} (h : ∀ env H, R env H → W P (.co y k) env H) : KR P (.inv R k) (.seq y k)
  | seq {y a b} (h : KR P a b) : KR P (.seq y a) (.seq y b)
  | blk {id a b} (h : KR P a b) : KR P (.blk id a) (.blk id b)
  | inv {R a b} (h : KR P a b) : KR P (.inv R a) (.inv R b)
def TR (P : Program) : Task → Task → Prop
  | .co c a, .co c' b => c = c' ∧ KR P a b
  | .ex e a, .ex e' b => e = e' ∧ KR P a b
  | .ops x r a, .ops x' r' b => x = x' ∧ r = r' ∧ KR P a b
  | _, _ => False
theorem TR.co {c : Code} {a : Kont} {t : Task} (h : TR P (.co c a) t) : ∃ b, t = .co c b ∧ KR P a b := by
  cases t with
  | co c' b => obtain ⟨rfl, h⟩ := h; exact ⟨b, rfl, h⟩
  | ex => exact h.elim
  | ops => exact h.elim
theorem TR.ex {e : AExit} {a : Kont} {t : Task} (h : TR P (.ex e a) t) : ∃ b, t = .ex e b ∧ KR P a b := by
  cases t with
  | ex e' b => obtain ⟨rfl, h⟩ := h; exact ⟨b, rfl, h⟩
  | co => exact h.elim
  | ops => exact h.elim
theorem TR.ops {x : Array Oper} {r : List Oper} {a : Kont} {t : Task} (h : TR P (.ops x r a) t) : ∃ b, t = .ops x r b ∧ KR P a b := by
  cases t with
  | ops x' r' b => obtain ⟨rfl, rfl, h⟩ := h; exact ⟨b, rfl, h⟩
  | co => exact h.elim
  | ex => exact h.elim
theorem W.kr {t : Task} {env : Env} {H : AHeap} (h : W P t env H) : ∀ t', TR P t t' → W P t' env H := by
  induction h with
  | seq h ih => intro t ht; obtain ⟨b, rfl, hk⟩ := ht.co; exact .seq (ih _ ⟨rfl, .seq hk⟩)
  | skip h ih => intro t ht; obtain ⟨b, rfl, hk⟩ := ht.co; exact .skip (ih _ ⟨rfl, hk⟩)
  | ret h ih => intro t ht; obtain ⟨b, rfl, hk⟩ := ht.co; exact .ret (ih _ ⟨rfl, hk⟩)
  | exit h ih => intro t ht; obtain ⟨b, rfl, hk⟩ := ht.co; exact .exit (ih _ ⟨rfl, hk⟩)
  | block h ih => intro t ht; obtain ⟨b, rfl, hk⟩ := ht.co; exact .block (ih _ ⟨rfl, .blk hk⟩)
  | cond hb h1 h2 ih1 ih2 => intro t ht; obtain ⟨b, rfl, hk⟩ := ht.co; exact .cond hb (fun e => ih1 e _ ⟨rfl, hk⟩) fun e => ih2 e _ ⟨rfl, hk⟩
  | region h ih => intro t ht; obtain ⟨b, rfl, hk⟩ := ht.co; exact .region (ih _ ⟨rfl, rfl, hk⟩)
  | drawn hd h ih => intro t ht; obtain ⟨b, rfl, hk⟩ := ht.co; exact .drawn hd (ih _ ⟨rfl, rfl, hk⟩)
  | order l S K' hl h hk' ih => intro t ht; obtain ⟨b, rfl, hk⟩ := ht.co; exact .order l S K' hl h fun env H q => ih env H q _ ⟨rfl, hk⟩
  | anyR S K' h hk' ih => intro t ht; obtain ⟨b, rfl, hk⟩ := ht.co; exact .anyR S K' h fun env H q => ih env H q _ ⟨rfl, hk⟩
  | loop I n h0 hr ih => intro t ht; obtain ⟨b, rfl, hk⟩ := ht.co; exact .loop I n h0 fun n env H hi => ih n env H hi _ ⟨rfl, .inv hk⟩
  | eSeq h ih =>
    intro t ht; obtain ⟨b, rfl, hk⟩ := ht.ex
    cases hk with
    | seq hk => exact .eSeq (ih _ ⟨rfl, hk⟩)
  | eSeqExit h ih =>
    intro t ht; obtain ⟨b, rfl, hk⟩ := ht.ex
    cases hk with
    | seq hk => exact .eSeqExit (ih _ ⟨rfl, hk⟩)
  | eSeqRet h ih =>
    intro t ht; obtain ⟨b, rfl, hk⟩ := ht.ex
    cases hk with
    | seq hk => exact .eSeqRet (ih _ ⟨rfl, hk⟩)
  | eBlk h ih =>
    intro t ht; obtain ⟨b, rfl, hk⟩ := ht.ex
    cases hk with
    | blk hk => exact .eBlk (ih _ ⟨rfl, hk⟩)
  | eBlkRet h ih =>
    intro t ht; obtain ⟨b, rfl, hk⟩ := ht.ex
    cases hk with
    | blk hk => exact .eBlkRet (ih _ ⟨rfl, hk⟩)
  | eBlkExit h ih =>
    intro t ht; obtain ⟨b, rfl, hk⟩ := ht.ex
    cases hk with
    | blk hk => exact .eBlkExit (ih _ ⟨rfl, hk⟩)
  | eInv h =>
    intro t ht; obtain ⟨b, rfl, hk⟩ := ht.ex
    cases hk with
    | seam hs => exact .eSeq (hs _ _ h)
    | inv hk => exact .eInv h
  | eInvExit h ih =>
    intro t ht; obtain ⟨b, rfl, hk⟩ := ht.ex
    cases hk with
    | seam hs => exact .eSeqExit h
    | inv hk => exact .eInvExit (ih _ ⟨rfl, hk⟩)
  | eInvRet h ih =>
    intro t ht; obtain ⟨b, rfl, hk⟩ := ht.ex
    cases hk with
    | seam hs => exact .eSeqRet h
    | inv hk => exact .eInvRet (ih _ ⟨rfl, hk⟩)
  | eFin hr h => intro t ht; obtain ⟨b, rfl, hk⟩ := ht.ex; cases hk
  | eFinN hr h => intro t ht; obtain ⟨b, rfl, hk⟩ := ht.ex; cases hk
  | nil h ih => intro t ht; obtain ⟨b, rfl, hk⟩ := ht.ops; exact .nil (ih _ ⟨rfl, hk⟩)
  | oper K' ho h hk ih => intro t ht; obtain ⟨b, rfl, hk2⟩ := ht.ops; exact .oper K' ho h fun v H' q => ih v H' q _ ⟨rfl, rfl, hk2⟩
  | guard hy h h' ih ih' => intro t ht; obtain ⟨b, rfl, hk⟩ := ht.ops; exact .guard hy (fun e => ih e _ ⟨rfl, rfl, hk⟩) fun e => ih' e _ ⟨rfl, rfl, hk⟩
  | guardNo hy h ih => intro t ht; obtain ⟨b, rfl, hk⟩ := ht.ops; exact .guardNo hy (ih _ ⟨rfl, rfl, hk⟩)
/-- A seam: what holds between two pieces is said. -/
theorem W.seam {x y : Code} (R : Env → AHeap → Prop) (h : W P (.co x (.inv R k)) env H) (h' : ∀ env H, R env H → W P (.co y k) env H) : W P (.co (.seq x y) k) env H :=
  .seq (h.kr _ ⟨rfl, .seam h'⟩)

/-! ### Loops: what a loop does not write stays -/
def over (m : Nat) (e env : Env) : Env := fun t => if m.testBit t = true then e t else env t
def Agr (m : Nat) (env0 env : Env) : Prop := ∀ t, m.testBit t = false → env t = env0 t
omit [Go.Ab.Start] in
theorem Agr.over {m : Nat} {env0 env : Env} (h : Agr m env0 env) : over m env env0 = env := by
  funext t
  unfold Ab.over
  cases ht : m.testBit t with
  | true => rfl
  | false => simp [h t ht]
def opsIn (m : Nat) (l : List Oper) : Bool := l.all fun o => o.dst.all fun d => m.testBit d
def codeIn (m : Nat) : Code → Bool
  | .skip | .ret | .exit _ => true
  | .seq x y => codeIn m x && codeIn m y
  | .cond _ x y => codeIn m x && codeIn m y
  | .block _ c | .loop c => codeIn m c
  | .region _ ops _ => opsIn m ops.toList
  | _ => false
omit [Go.Ab.Start] in
theorem Agr.put {m : Nat} {env0 env : Env} (h : Agr m env0 env) {dst : Option Tmp} (hd : dst.all (fun d => m.testBit d) = true) (v : Value) : Agr m env0 (put env dst v) := by
  intro t ht
  cases dst with
  | none => exact h t ht
  | some d =>
    have : t ≠ d := fun e => by subst e; simp at hd; rw [hd] at ht; cases ht
    simp only [Ab.put, upd, if_neg this]
    exact h t ht
theorem operW_agr {ops : Array Oper} {m : Nat} {e0 : Env} {o : Oper} {K : Env → AHeap → Prop} {env : Env} {H : AHeap} (hd : o.dst.all (fun d => m.testBit d) = true) (ha : Agr m e0 env) (h : operW P ops o K env H) : operW P ops o (fun env H => K env H ∧ Agr m e0 env) env H := by
  unfold operW at h ⊢
  cases hg : o.guard with
  | none => rw [hg] at h; exact opW_mono (fun v H' q => ⟨q, ha.put hd v⟩) h
  | some g =>
    obtain ⟨j, want⟩ := g
    rw [hg] at h
    simp only at h ⊢
    split at h
    · exact ⟨fun hb => opW_mono (fun v H' q => ⟨q, ha.put hd v⟩) (h.1 hb), fun hb => ⟨h.2 hb, ha.put hd _⟩⟩
    · exact ⟨h, ha.put hd _⟩
theorem seqA_agr {ops : Array Oper} {S : AHeap → Prop} {K : Env → AHeap → Prop} {m : Nat} {e0 : Env} (hops : opsIn m ops.toList = true) : ∀ (l : List (Nat × Bool)) (env : Env) (H : AHeap), Agr m e0 env → seqA P ops S K l env H → seqA P ops S (fun env H => K env H ∧ Agr m e0 env) l env H
  | [], _, _, ha, h => ⟨h.1, h.2, ha⟩
  | (i, true) :: l, env, H, ha, h => by
    unfold seqA at h ⊢
    split at h
    · rename_i o ho
      have hd := List.all_eq_true.1 hops o (by simpa using Array.mem_of_getElem? ho)
      obtain ⟨v, h1, h2⟩ := h; exact ⟨v, h1, seqA_agr hops l _ _ (ha.put hd v) h2⟩
    · exact h.elim
  | (i, false) :: l, env, H, ha, h => by
    unfold seqA at h ⊢
    split at h
    · rename_i o ho
      have hd := List.all_eq_true.1 hops o (by simpa using Array.mem_of_getElem? ho)
      exact ⟨h.1, operW_mono (fun _ _ q => seqA_agr hops l _ _ q.2 q.1) (operW_agr hd ha h.2)⟩
    · exact h.elim
theorem any_agr {ops : Array Oper} {S : AHeap → Prop} {K : Env → AHeap → Prop} {m : Nat} {e0 : Env} (hops : opsIn m ops.toList = true) : ∀ (n : Nat) (listed : Array Bool) (env : Env) (H : AHeap), Agr m e0 env → aAny P ops S K n listed env H → aAny P ops S (fun env H => K env H ∧ Agr m e0 env) n listed env H
  | 0, _, _, _, ha, h => ⟨h.1, h.2.1, h.2.2, ha⟩
  | n + 1, listed, env, H, ha, h => by
    refine ⟨h.1, fun q => ⟨h.2.1 q, ha⟩, fun i hi => ?_⟩
    have h1 := h.2.2 i hi
    cases ho : ops[i]? with
    | none => simp only [aOp, ho] at h1 ⊢; exact any_agr hops n _ _ _ ha h1
    | some o =>
      simp only [aOp, ho] at h1 ⊢
      have hd := List.all_eq_true.1 hops o (by simpa using Array.mem_of_getElem? ho)
      exact operW_mono (fun _ _ q => any_agr hops n _ _ _ q.2 q.1) (operW_agr hd ha h1)
inductive KW (m : Nat) (env0 : Env) : Kont → Kont → Prop
  | base {R R' : Env → AHeap → Prop} {k} (h : ∀ env H, R env H → Agr m env0 env → R' env H) : KW m env0 (.inv R k) (.inv R' k)
  | seq {y a b} (hy : codeIn m y = true) (h : KW m env0 a b) : KW m env0 (.seq y a) (.seq y b)
  | blk {id a b} (h : KW m env0 a b) : KW m env0 (.blk id a) (.blk id b)
  | inv {R R' : Env → AHeap → Prop} {a b} (hR : ∀ env H, R env H → Agr m env0 env → R' env H) (h : KW m env0 a b) : KW m env0 (.inv R a) (.inv R' b)
def TW (m : Nat) (env0 : Env) : Task → Task → Prop
  | .co c a, .co c' b => c = c' ∧ codeIn m c = true ∧ KW m env0 a b
  | .ex e a, .ex e' b => e = e' ∧ KW m env0 a b
  | .ops x r a, .ops x' r' b => x = x' ∧ r = r' ∧ opsIn m r = true ∧ KW m env0 a b
  | _, _ => False
section
variable {m : Nat} {e0 : Env}
omit [Go.Ab.Start] in
theorem TW.co {c : Code} {a : Kont} {t : Task} (h : TW m e0 (.co c a) t) : ∃ b, t = .co c b ∧ codeIn m c = true ∧ KW m e0 a b := by
  cases t with
  | co c' b => obtain ⟨rfl, h⟩ := h; exact ⟨b, rfl, h⟩
  | ex => exact h.elim
  | ops => exact h.elim
omit [Go.Ab.Start] in
theorem TW.ex {e : AExit} {a : Kont} {t : Task} (h : TW m e0 (.ex e a) t) : ∃ b, t = .ex e b ∧ KW m e0 a b := by
  cases t with
  | ex e' b => obtain ⟨rfl, h⟩ := h; exact ⟨b, rfl, h⟩
  | co => exact h.elim
  | ops => exact h.elim
omit [Go.Ab.Start] in
theorem TW.ops {x : Array Oper} {r : List Oper} {a : Kont} {t : Task} (h : TW m e0 (.ops x r a) t) : ∃ b, t = .ops x r b ∧ opsIn m r = true ∧ KW m e0 a b := by
  cases t with
  | ops x' r' b => obtain ⟨rfl, rfl, h⟩ := h; exact ⟨b, rfl, h⟩
  | co => exact h.elim
  | ex => exact h.elim
theorem W.writes {t : Task} {env : Env} {H : AHeap} (h : W P t env H) : Agr m e0 env → ∀ t', TW m e0 t t' → W P t' env H := by
  induction h with
  | seq h ih => intro ha t ht; obtain ⟨b, rfl, hc, hk⟩ := ht.co; simp only [codeIn, Bool.and_eq_true] at hc; exact .seq (ih ha _ ⟨rfl, hc.1, .seq hc.2 hk⟩)
  | skip h ih => intro ha t ht; obtain ⟨b, rfl, hc, hk⟩ := ht.co; exact .skip (ih ha _ ⟨rfl, hk⟩)
  | ret h ih => intro ha t ht; obtain ⟨b, rfl, hc, hk⟩ := ht.co; exact .ret (ih ha _ ⟨rfl, hk⟩)
  | exit h ih => intro ha t ht; obtain ⟨b, rfl, hc, hk⟩ := ht.co; exact .exit (ih ha _ ⟨rfl, hk⟩)
  | block h ih => intro ha t ht; obtain ⟨b, rfl, hc, hk⟩ := ht.co; simp only [codeIn] at hc; exact .block (ih ha _ ⟨rfl, hc, .blk hk⟩)
  | cond hb h1 h2 ih1 ih2 => intro ha t ht; obtain ⟨b, rfl, hc, hk⟩ := ht.co; simp only [codeIn, Bool.and_eq_true] at hc; exact .cond hb (fun e => ih1 e ha _ ⟨rfl, hc.1, hk⟩) fun e => ih2 e ha _ ⟨rfl, hc.2, hk⟩
  | region h ih => intro ha t ht; obtain ⟨b, rfl, hc, hk⟩ := ht.co; simp only [codeIn] at hc; exact .region (ih ha _ ⟨rfl, rfl, hc, hk⟩)
  | drawn hd h ih => intro ha t ht; obtain ⟨b, rfl, hc, hk⟩ := ht.co; simp only [codeIn] at hc; exact .drawn hd (ih ha _ ⟨rfl, rfl, hc, hk⟩)
  | order l S K' hl h hk' ih =>
    intro ha t ht; obtain ⟨b, rfl, hc, hk⟩ := ht.co
    simp only [codeIn] at hc
    exact .order l S (fun env H => K' env H ∧ Agr m e0 env) hl (seqA_agr hc _ _ _ ha h) fun env H q => ih env H q.1 q.2 _ ⟨rfl, hk⟩
  | anyR S K' h hk' ih =>
    intro ha t ht; obtain ⟨b, rfl, hc, hk⟩ := ht.co
    simp only [codeIn] at hc
    exact .anyR S (fun env H => K' env H ∧ Agr m e0 env) (any_agr hc _ _ _ _ ha h) fun env H q => ih env H q.1 q.2 _ ⟨rfl, hk⟩
  | loop I n h0 hr ih =>
    intro ha t ht; obtain ⟨b, rfl, hc, hk⟩ := ht.co
    simp only [codeIn] at hc
    exact .loop (fun n env H => I n env H ∧ Agr m e0 env) n ⟨h0, ha⟩ fun n env H hi => ih n env H hi.1 hi.2 _ ⟨rfl, hc, .inv (fun env H ⟨n', hn, hI⟩ hA => ⟨n', hn, hI, hA⟩) hk⟩
  | eSeq h ih =>
    intro ha t ht; obtain ⟨b, rfl, hk⟩ := ht.ex
    cases hk with
    | seq hy hk => exact .eSeq (ih ha _ ⟨rfl, hy, hk⟩)
  | eSeqExit h ih =>
    intro ha t ht; obtain ⟨b, rfl, hk⟩ := ht.ex
    cases hk with
    | seq hy hk => exact .eSeqExit (ih ha _ ⟨rfl, hk⟩)
  | eSeqRet h ih =>
    intro ha t ht; obtain ⟨b, rfl, hk⟩ := ht.ex
    cases hk with
    | seq hy hk => exact .eSeqRet (ih ha _ ⟨rfl, hk⟩)
  | eBlk h ih =>
    intro ha t ht; obtain ⟨b, rfl, hk⟩ := ht.ex
    cases hk with
    | blk hk => exact .eBlk (ih ha _ ⟨rfl, hk⟩)
  | eBlkRet h ih =>
    intro ha t ht; obtain ⟨b, rfl, hk⟩ := ht.ex
    cases hk with
    | blk hk => exact .eBlkRet (ih ha _ ⟨rfl, hk⟩)
  | eBlkExit h ih =>
    intro ha t ht; obtain ⟨b, rfl, hk⟩ := ht.ex
    cases hk with
    | blk hk => exact .eBlkExit (ih ha _ ⟨rfl, hk⟩)
  | eInv h =>
    intro ha t ht; obtain ⟨b, rfl, hk⟩ := ht.ex
    cases hk with
    | base hs => exact .eInv (hs _ _ h ha)
    | inv hR hk => exact .eInv (hR _ _ h ha)
  | eInvExit h ih =>
    intro ha t ht; obtain ⟨b, rfl, hk⟩ := ht.ex
    cases hk with
    | base hs => exact .eInvExit h
    | inv hR hk => exact .eInvExit (ih ha _ ⟨rfl, hk⟩)
  | eInvRet h ih =>
    intro ha t ht; obtain ⟨b, rfl, hk⟩ := ht.ex
    cases hk with
    | base hs => exact .eInvRet h
    | inv hR hk => exact .eInvRet (ih ha _ ⟨rfl, hk⟩)
  | eFin hr h => intro ha t ht; obtain ⟨b, rfl, hk⟩ := ht.ex; cases hk
  | eFinN hr h => intro ha t ht; obtain ⟨b, rfl, hk⟩ := ht.ex; cases hk
  | nil h ih => intro ha t ht; obtain ⟨b, rfl, hc, hk⟩ := ht.ops; exact .nil (ih ha _ ⟨rfl, hk⟩)
  | oper K' ho h hk ih =>
    intro ha t ht; obtain ⟨b, rfl, hc, hk2⟩ := ht.ops
    simp only [opsIn, List.all_cons, Bool.and_eq_true] at hc
    exact .oper K' ho h fun v H' q => ih v H' q (ha.put hc.1 v) _ ⟨rfl, rfl, hc.2, hk2⟩
  | guard hy h h' ih ih' =>
    intro ha t ht; obtain ⟨b, rfl, hc, hk⟩ := ht.ops
    have hc0 := hc
    simp only [opsIn, List.all_cons, Bool.and_eq_true] at hc
    exact .guard hy (fun e => ih e ha _ ⟨rfl, rfl, by simp only [opsIn, List.all_cons, Bool.and_eq_true]; exact hc, hk⟩) fun e => ih' e (ha.put hc.1 _) _ ⟨rfl, rfl, hc.2, hk⟩
  | guardNo hy h ih =>
    intro ha t ht; obtain ⟨b, rfl, hc, hk⟩ := ht.ops
    simp only [opsIn, List.all_cons, Bool.and_eq_true] at hc
    exact .guardNo hy (ih (ha.put hc.1 _) _ ⟨rfl, rfl, hc.2, hk⟩)
end
/-- A fact that no rewriting takes up. -/
structure Hd (p : Prop) : Prop where
  go : p
/-- A loop: the invariant bears a number, which every round lowers; what the loop does not write ('m': a number whose digits tell the slots that it writes) is as it was. -/
theorem W.loopF {c : Code} (m : Nat) (I : Nat → Env → AHeap → Prop) (n : Nat) (hc : codeIn m c = true) (h0 : I n env H)
    (hr : ∀ n e H J, Hd (∀ e' H', (∃ n', n' < n ∧ I n' e' H') → J e' H') → I n e H → W P (.co c (.inv J k)) (over m e env) H) : W P (.co (.loop c) k) env H := by
  refine .loop (fun n e H => I n e H ∧ Agr m env e) n ⟨h0, fun _ _ => rfl⟩ fun n e H hi => ?_
  have h1 := hr n e H (fun e' H' => ∃ n', n' < n ∧ I n' e' H') ⟨fun _ _ h => h⟩ hi.1
  rw [hi.2.over] at h1
  exact h1.writes (m := m) (e0 := env) hi.2 _ ⟨rfl, hc, .base fun e' H' ⟨n', hn, hI⟩ hA => ⟨n', hn, hI, hA⟩⟩
/-- A seam, at any place: what holds between two pieces is said. -/
theorem W.cutO {all : Array Oper} {rest : List Oper} {y : Code} (R : Env → AHeap → Prop) (h : ∀ J, Hd (∀ e H, R e H → J e H) → W P (.ops all rest (.inv J k)) env H) (h' : ∀ env H, R env H → W P (.co y k) env H) : W P (.ops all rest (.seq y k)) env H :=
  (h R ⟨fun _ _ h => h⟩).kr _ ⟨rfl, rfl, .seam h'⟩
theorem W.cutC {x y : Code} (R : Env → AHeap → Prop) (h : ∀ J, Hd (∀ e H, R e H → J e H) → W P (.co x (.inv J k)) env H) (h' : ∀ env H, R env H → W P (.co y k) env H) : W P (.co x (.seq y k)) env H :=
  (h R ⟨fun _ _ h => h⟩).kr _ ⟨rfl, .seam h'⟩
end Go.Ab
