/-
  A part of the proofs: AsmModel AsmSilent AsmNames AsmRound AsmLine AsmCode AsmWhole AsmJoins.
-/
namespace AsmM
set_option linter.unusedSimpArgs false
set_option linter.unusedVariables false
set_option linter.unusedSectionVars false

abbrev Bytes := List UInt8

structure Ins where
  op : Int
  a : Int
  b : Int
  c : Int
  v : Int
  m : Int
  w : Int
deriving DecidableEq, Inhabited

def Ins.zero : Ins := ⟨0, 0, 0, 0, 0, 0, 0⟩

/-- An error: the place in asm, the place in word behind it (none: it is asm's own), the kind. -/
structure Er where
  at_ : Int
  word : Option Int
  kind : Int
deriving DecidableEq

def isDig (c : UInt8) : Bool := 48 ≤ c && c ≤ 57
def isLow (c : UInt8) : Bool := 97 ≤ c && c ≤ 122

/-- A register's word. -/
def register : Bytes → Option Nat
  | [r, d] => if r = 114 ∧ isDig d then some (d.toNat - 48) else none
  | [r, d, e] => if r = 114 ∧ isDig d ∧ isDig e ∧ d ≠ 48 ∧ 10 * (d.toNat - 48) + (e.toNat - 48) < 32 then some (10 * (d.toNat - 48) + (e.toNat - 48)) else none
  | _ => none

def named (s : Bytes) : Bool :=
  1 ≤ s.length && s.length ≤ 16 && (s.head?.map isLow).getD false && s.all (fun c => isLow c || isDig c) && (register s).isNone

def nameList : List Bytes := [
  [115,101,116], [109,111,118], [97,100,100], [115,117,98], [97,110,100], [111,114], [120,111,114], [115,104,108], [115,104,114], [101,113], [108,116], [106,109,112], [106,122], [106,110,122], [106,115,114], [114,101,116], [108,100], [115,116], [115,119,112], [102,97,100], [99,97,115], [99,97,108,108],
  [104,115,104], [113,112,116], [113,116,107], [113,109,118], [113,104,115], [115,108,112], [104,110,100], [112,105,107], [108,97,121], [116,97,107], [105,110,106], [105,106,116], [114,117,110], [112,114,107], [115,108,102], [119,114,107], [119,107,100], [119,107,110], [110,111,119], [100,114,119], [103,101,116], [102,114,101], [111,98,106], [100,101,108], [99,107,112], [116,110,119], [116,115,116], [116,104,109], [116,106,110], [116,100,116], [116,101,120], [116,114,112], [101,110,100], [121,108,100], [99,98,107], [102,105,110]]

def opIn (s : Bytes) : List Bytes → Nat → Nat
  | [], _ => 0
  | n :: r, i => if n = s then i else opIn s r (i + 1)
/-- The number of a name; 0: it is none. -/
def opOf (s : Bytes) : Nat := opIn s nameList 1
def nameOf (op : Int) : Bytes := if 1 ≤ op then nameList.getD (op.toNat - 1) [] else []

def plain3 (op : Int) : Bool := 3 ≤ op && op ≤ 11
/-- Fields: a, b, c, v. -/
def fields (op : Int) : Bool × Bool × Bool × Bool :=
  if (3 ≤ op ∧ op ≤ 11) ∨ op = 21 ∨ op = 32 then (true, true, true, true)
  else if (24 ≤ op ∧ op ≤ 27) ∨ op = 48 then (true, true, true, false)
  else if op = 2 ∨ op = 23 ∨ op = 49 ∨ op = 50 ∨ op = 47 ∨ op = 39 ∨ op = 54 then (true, true, false, false)
  else if (17 ≤ op ∧ op ≤ 20) ∨ op = 31 ∨ op = 43 ∨ op = 45 then (true, true, false, true)
  else if op = 1 ∨ op = 13 ∨ op = 14 then (true, false, false, true)
  else if op = 12 ∨ op = 15 ∨ op = 22 then (false, false, false, true)
  else if (28 ≤ op ∧ op ≤ 30) ∨ (34 ≤ op ∧ op ≤ 38) ∨ (40 ≤ op ∧ op ≤ 42) ∨ op = 44 ∨ op = 46 ∨ (51 ≤ op ∧ op ≤ 53) ∨ op = 57 then (true, false, false, false)
  else (false, false, false, false)

/-- Kinds of operands: 1 A, 2 B, 3 C, 4 C or a number, 5 B or a number, 6 a cell, 7 a number, 8 a place, 9 a place or a number. -/
def operands (op : Int) : List Int :=
  if op = 1 then [1, 9]
  else if op = 13 ∨ op = 14 then [1, 8]
  else if op = 12 ∨ op = 15 then [8]
  else if op = 22 then [7]
  else if op = 43 then [1, 5]
  else if op = 45 then [1, 2, 7]
  else if op = 21 ∨ op = 32 then [1, 6, 3]
  else if (17 ≤ op ∧ op ≤ 20) ∨ op = 31 then [1, 6]
  else if 3 ≤ op ∧ op ≤ 11 then [1, 2, 4]
  else if (24 ≤ op ∧ op ≤ 27) ∨ op = 48 then [1, 2, 3]
  else if op = 2 ∨ op = 23 ∨ op = 49 ∨ op = 50 ∨ op = 47 ∨ op = 39 ∨ op = 54 then [1, 2]
  else if (28 ≤ op ∧ op ≤ 30) ∨ (34 ≤ op ∧ op ≤ 38) ∨ (40 ≤ op ∧ op ≤ 42) ∨ op = 44 ∨ op = 46 ∨ (51 ≤ op ∧ op ≤ 53) ∨ op = 57 then [1]
  else []

/-! ### Numbers -/
def digit (c : UInt8) (base : Nat) : Option Nat :=
  let d := if 48 ≤ c ∧ c ≤ 57 then c.toNat - 48 else if 97 ≤ c ∧ c ≤ 102 then c.toNat - 97 + 10 else if 65 ≤ c ∧ c ≤ 70 then c.toNat - 65 + 10 else 99
  if d < base then some d else none
/-- The digits from a place on: the number, or the place that is wrong. -/
def digits (base most frm : Nat) : Bytes → Nat → Nat → Except Nat Nat
  | [], _, v => .ok v
  | c :: r, i, v => match digit c base with
    | none => .error i
    | some d => if most ≤ i - frm ∨ (2 ^ 64 - 1 - d) / base < v then .error i else digits base most frm r (i + 1) (v * base + d)
def isHex (s : Bytes) : Bool := match s with
  | a :: b :: _ => a = 48 && b = 120
  | _ => false
/-- word.Parse. -/
def number (s : Bytes) : Except Nat Nat :=
  if isHex s then (if s.length = 2 then .error 2 else digits 16 16 2 (s.drop 2) 2 0)
  else if s.length = 0 then .error 0 else digits 10 20 0 s 0 0
def num (s : Bytes) (line : Int) : Except Er Int := match number s with
  | .ok v => .ok (v : Int)
  | .error i => .error ⟨line, some i, 6⟩

/-! ### Lines -/
def strip (s : Bytes) : Bytes := s.takeWhile (· ≠ 59)
def cut : Bytes → Bytes → List Bytes
  | cur, [] => if cur = [] then [] else [cur]
  | cur, c :: r => if c = 32 then (if cur = [] then cut [] r else cur :: cut [] r) else cut (cur ++ [c]) r
def words (s : Bytes) : List Bytes := cut [] (strip s)

structure Want where
  ins : Int
  line : Int
  name : Bytes
deriving DecidableEq

structure St where
  l : List Ins
  labels : List (Bytes × Int)
  lines : List Int
  wants : List Want
deriving DecidableEq

def bad (line : Int) : Er := ⟨line, none, 6⟩

def cellOf (x : Ins) (s : Bytes) (line : Int) : Except Er Ins :=
  if s.length < 2 ∨ s.head? ≠ some 91 ∨ s.getLast? ≠ some 93 then .error (bad line) else
  let t := s.tail.dropLast
  match register t with
  | some n => .ok { x with b := n }
  | none =>
    if t.contains 43 then
      match register (t.takeWhile (· ≠ 43)) with
      | none => .error (bad line)
      | some n => do .ok { x with b := n, v := ← num ((t.dropWhile (· ≠ 43)).tail) line }
    else do .ok { x with b := -1, v := ← num t line }

/-- A mark's end: what is told when, and what is left. -/
def ending (t : Bytes) (w : Int) : Int × Bytes := if [61, 48].isSuffixOf t then (1, t.take (t.length - 2)) else if [62, 48].isSuffixOf t then (2, t.take (t.length - 2)) else (w, t)
def mark (x : Ins) (s : Bytes) (line : Int) : Except Er Ins := do
  let v ← num (ending s.tail x.w).2 line
  if v < 1 ∨ 99 < v then .error (bad line) else .ok { x with m := v, w := (ending s.tail x.w).1 }

/-- An operand: the instruction behind it, and whether a name is wanted. -/
def operand (x : Ins) (kind : Int) (s : Bytes) (line : Int) : Except Er (Ins × Bool) :=
  if kind = 1 ∨ kind = 2 ∨ kind = 3 ∨ kind = 4 ∨ kind = 5 then
    match register s with
    | some n => .ok (if kind = 1 then { x with a := n } else if kind = 2 ∨ kind = 5 then { x with b := n } else { x with c := n }, false)
    | none =>
      if kind = 1 ∨ kind = 2 ∨ kind = 3 then .error (bad line)
      else do
        let v ← num s line
        .ok (if kind = 5 then { x with b := -1, v := v } else { x with c := -1, v := v }, false)
  else if kind = 7 then do .ok ({ x with v := ← num s line }, false)
  else if kind = 6 then do .ok (← cellOf x s line, false)
  else if named s then .ok (x, true)
  else if kind = 8 then .error (bad line)
  else do .ok ({ x with v := ← num s line }, false)

/-- The operands in order: the instruction, and what is wanted. -/
def operandsOf (at_ line : Int) : Ins → List Want → List Int → List Bytes → Except Er (Ins × List Want)
  | x, ws, [], _ => .ok (x, ws)
  | x, ws, _ :: _, [] => .ok (x, ws)
  | x, ws, k :: ks, s :: ss => do
    let (y, is) ← operand x k s line
    operandsOf at_ line y (if is then ws ++ [⟨at_, line, s⟩] else ws) ks ss

def line (st : St) (s : Bytes) (n : Int) : Except Er St :=
  match words s with
  | [] => .ok st
  | w :: ws =>
    if ws = [] ∧ w.getLast? = some 58 then
      let nm := w.dropLast
      if (st.labels.any (·.1 = nm)) ∨ named nm = false then .error (bad n)
      else .ok { st with labels := st.labels ++ [(nm, (st.l.length : Int))], lines := st.lines ++ [n] }
    else
      let op := opOf w
      if op = 0 then .error (bad n) else
      let ks := operands op
      if ws.length ≠ ks.length ∧ (ws.length ≠ ks.length + 1 ∨ (ws.getLast?.bind (·.head?)) ≠ some 33) then .error (bad n) else do
      let (x, wants) ← operandsOf st.l.length n { Ins.zero with op := op } st.wants ks ws
      let y ← if ks.length < ws.length then mark x ((ws.getLast?).getD []) n else .ok x
      .ok { st with l := st.l ++ [y], wants := wants }

def runLines : List Bytes → Int → St → Except Er St
  | [], _, st => .ok st
  | s :: r, n, st => do runLines r (n + 1) (← line st s n)

def splitNl : Bytes → Bytes → List Bytes
  | cur, [] => [cur]
  | cur, c :: r => if c = 10 then cur :: splitNl [] r else splitNl (cur ++ [c]) r

def find (labels : List (Bytes × Int)) (name : Bytes) : Option Int := (labels.find? (·.1 = name)).map (·.2)

def setV (l : List Ins) (i : Int) (v : Int) : List Ins := l.modify i.toNat fun x => { x with v := v }
def resolve (labels : List (Bytes × Int)) : List Want → List Ins → Except Er (List Ins)
  | [], l => .ok l
  | w :: ws, l => match find labels w.name with
    | none => .error ⟨w.line, none, 7⟩
    | some at_ => resolve labels ws (setV l w.ins at_)

def lastLabel (n : Int) : List (Bytes × Int) → List Int → Except Er Unit
  | (_, at_) :: r, i :: s => if at_ = n then .error (bad i) else lastLabel n r s
  | _, _ => .ok ()

def finish (st : St) : Except Er (List Ins × List (Bytes × Int)) := do
  let l ← resolve st.labels st.wants st.l
  if l.length > 2048 then .error ⟨0, none, 3⟩ else do
  lastLabel l.length st.labels st.lines
  .ok (l, st.labels)

def parse (text : Bytes) : Except Er (List Ins × List (Bytes × Int)) :=
  if text.length > 65536 then .error ⟨0, none, 3⟩ else do finish (← runLines (splitNl [] text) 0 ⟨[], [], [], []⟩)

/-! ### Printing -/
def dec (n : Nat) : Bytes := if n < 10 then [UInt8.ofNat (48 + n)] else dec (n / 10) ++ [UInt8.ofNat (48 + n % 10)]
def decI (n : Int) : Bytes := dec n.toNat
def reg (n : Int) : Bytes := 114 :: decI n
def spell (n : Int) : Bytes := 112 :: decI n
def shown (x : Ins) (k : Int) : Bytes :=
  if k = 1 then reg x.a
  else if k = 2 then reg x.b
  else if k = 3 then reg x.c
  else if k = 5 then (if x.b = -1 then decI x.v else reg x.b)
  else if k = 4 then (if x.c = -1 then decI x.v else reg x.c)
  else if k = 6 then (if x.b = -1 then 91 :: decI x.v ++ [93] else if x.v = 0 then 91 :: reg x.b ++ [93] else 91 :: reg x.b ++ (43 :: decI x.v ++ [93]))
  else if k = 8 then spell x.v
  else decI x.v
def tailW (w : Int) : Bytes := if w = 1 then [61, 48] else if w = 2 then [62, 48] else []
def marked (x : Ins) : Bytes := if x.m = 0 then [] else 32 :: (33 :: decI x.m ++ tailW x.w)
def insText (x : Ins) : Bytes := nameOf x.op ++ (operands x.op).flatMap (fun k => 32 :: shown x k) ++ marked x ++ [10]

def regOk (n : Int) (used less : Bool) : Bool := (used && decide (0 ≤ n) && decide (n < 32)) || (used && less && decide (n = -1)) || (!used && decide (n = 0))
def numOk (x : Ins) (used : Bool) (n : Int) : Bool :=
  if x.op = 12 ∨ x.op = 13 ∨ x.op = 14 ∨ x.op = 15 then decide (x.v < n)
  else if x.op = 22 then decide (x.v < 1000)
  else if 3 ≤ x.op ∧ x.op ≤ 11 then decide (x.c = -1) || decide (x.v = 0)
  else if x.op = 43 then decide (x.b = -1) || decide (x.v = 0)
  else used || decide (x.v = 0)
def lessB (op : Int) : Bool := decide ((17 ≤ op ∧ op ≤ 21) ∨ op = 31 ∨ op = 32 ∨ op = 43)
def lessC (op : Int) : Bool := decide (3 ≤ op ∧ op ≤ 11)
def may (x : Ins) (n : Int) (library : Bool) : Bool :=
  if x.op < 1 ∨ 58 < x.op ∨ (library = true ∧ x.op = 22) ∨ (library = false ∧ (22 < x.op ∨ x.m ≠ 0)) then false else
  let (a, b, c, v) := fields x.op
  if (regOk x.a a false && regOk x.b b (lessB x.op) && regOk x.c c (lessC x.op) && numOk x v n) = false then false else
  decide (0 ≤ x.m) && decide (x.m ≤ 99) && decide (0 ≤ x.w) && decide (x.w ≤ 2) && (decide (x.w = 0) || (decide (0 < x.m) && a))
def lib (x : Ins) : Bool := decide (22 < x.op ∨ x.m ≠ 0)
def valid (n : Int) (x : Ins) : Bool := may x n (lib x)
def isJump (op : Int) : Bool := decide (op = 12 ∨ op = 13 ∨ op = 14 ∨ op = 15)
def goal (l : List Ins) (i : Int) : Bool := l.any fun x => isJump x.op && decide (x.v = i)
def codeText (l : List Ins) : Int → List Ins → Bytes
  | _, [] => []
  | i, x :: r => (if goal l i then spell i ++ [58, 10] else []) ++ insText x ++ codeText l (i + 1) r
def firstBad (n : Int) : List Ins → Int → Option Int
  | [], _ => none
  | x :: r, i => if valid n x then firstBad n r (i + 1) else some i
def print (l : List Ins) : Except Er Bytes :=
  if l.length > 2048 then .error ⟨0, none, 3⟩ else
  match firstBad l.length l 0 with
  | some i => .error ⟨i, none, 5⟩
  | none => .ok (codeText l 0 l)
end AsmM
namespace AsmM
set_option linter.unusedSimpArgs false
set_option linter.unusedVariables false
set_option linter.unusedSectionVars false

/-- Both went through, related; or neither did. -/
inductive Both {α β : Type} (R : α → β → Prop) : Except Er α → Except Er β → Prop
  | ok {a : α} {b : β} (h : R a b) : Both R (.ok a) (.ok b)
  | err {e f : Er} : Both R (.error e) (.error f)

theorem Both.bind {α β γ δ : Type} {R : α → β → Prop} {S : γ → δ → Prop} {x : Except Er α} {y : Except Er β} {f : α → Except Er γ} {g : β → Except Er δ}
    (h : Both R x y) (hf : ∀ a b, R a b → Both S (f a) (g b)) : Both S (x >>= f) (y >>= g) := by
  cases h with
  | ok h => exact hf _ _ h
  | err => exact .err

theorem Both.mono {α β : Type} {R S : α → β → Prop} {x : Except Er α} {y : Except Er β} (h : Both R x y) (hs : ∀ a b, R a b → S a b) : Both S x y := by
  cases h with
  | ok h => exact .ok (hs _ _ h)
  | err => exact .err

/-! ### The number of a line says nothing but where an error is -/
theorem num_both (s : Bytes) (i j : Int) : Both Eq (num s i) (num s j) := by
  unfold num
  split
  · exact .ok rfl
  · exact .err

theorem cellOf_both (x : Ins) (s : Bytes) (i j : Int) : Both Eq (cellOf x s i) (cellOf x s j) := by
  unfold cellOf
  split
  · exact .err
  · dsimp only
    split
    · exact .ok rfl
    · split
      · split
        · exact .err
        · exact (num_both _ i j).bind fun a b h => by subst h; exact .ok rfl
      · exact (num_both _ i j).bind fun a b h => by subst h; exact .ok rfl

theorem mark_both (x : Ins) (s : Bytes) (i j : Int) : Both Eq (mark x s i) (mark x s j) := by
  unfold mark
  refine (num_both _ i j).bind fun a b h => ?_
  subst h
  split
  · exact .err
  · exact .ok rfl

theorem operand_both (x : Ins) (k : Int) (s : Bytes) (i j : Int) : Both Eq (operand x k s i) (operand x k s j) := by
  unfold operand
  split
  · split
    · exact .ok rfl
    · split
      · exact .err
      · exact (num_both _ i j).bind fun a b h => by subst h; exact .ok rfl
  · split
    · exact (num_both _ i j).bind fun a b h => by subst h; exact .ok rfl
    · split
      · exact (cellOf_both _ _ i j).bind fun a b h => by subst h; exact .ok rfl
      · split
        · exact .ok rfl
        · split
          · exact .err
          · exact (num_both _ i j).bind fun a b h => by subst h; exact .ok rfl

/-- What is wanted, but for the lines. -/
def Want.core (w : Want) : Int × Bytes := (w.ins, w.name)
structure Alike (a b : St) : Prop where
  l : a.l = b.l
  labels : a.labels = b.labels
  lines : a.lines.length = b.lines.length
  wants : a.wants.map Want.core = b.wants.map Want.core

theorem operandsOf_both (at_ i j : Int) : ∀ (ks : List Int) (ss : List Bytes) (x : Ins) (ws vs : List Want), ws.map Want.core = vs.map Want.core →
    Both (fun a b => a.1 = b.1 ∧ a.2.map Want.core = b.2.map Want.core) (operandsOf at_ i x ws ks ss) (operandsOf at_ j x vs ks ss)
  | [], _, x, ws, vs, h => by simp only [operandsOf]; exact .ok ⟨rfl, h⟩
  | _ :: _, [], x, ws, vs, h => by simp only [operandsOf]; exact .ok ⟨rfl, h⟩
  | k :: ks, s :: ss, x, ws, vs, h => by
    simp only [operandsOf]
    refine (operand_both x k s i j).bind fun a b e => ?_
    subst e
    obtain ⟨y, is⟩ := a
    dsimp only
    refine operandsOf_both at_ i j ks ss y _ _ ?_
    cases is
    · simpa using h
    · simp [h, Want.core]

theorem line_both {a b : St} (h : Alike a b) (s : Bytes) (i j : Int) : Both Alike (line a s i) (line b s j) := by
  obtain ⟨h1, h2, h3, h4⟩ := h
  unfold line
  split
  · exact .ok ⟨h1, h2, h3, h4⟩
  · rename_i w ws hw
    split
    · dsimp only
      rw [h2, h1]
      split
      · exact .err
      · exact .ok ⟨rfl, rfl, by simp [h3], h4⟩
    · dsimp only
      split
      · exact .err
      · split
        · exact .err
        · rw [h1]
          refine (operandsOf_both _ i j _ _ _ _ _ h4).bind fun x y hxy => ?_
          obtain ⟨x, vs⟩ := x
          obtain ⟨y, us⟩ := y
          obtain ⟨e1, e2⟩ := hxy
          simp only at e1 e2
          subst e1
          dsimp only
          split
          · refine (mark_both _ _ i j).bind fun p q e => ?_
            subst e
            exact .ok ⟨rfl, h2, h3, e2⟩
          · exact .ok ⟨rfl, h2, h3, e2⟩

theorem runLines_both : ∀ (ls : List Bytes) (i j : Int) {a b : St}, Alike a b → Both Alike (runLines ls i a) (runLines ls j b)
  | [], _, _, _, _, h => .ok h
  | s :: r, i, j, _, _, h => (line_both h s i j).bind fun _ _ h' => runLines_both r (i + 1) (j + 1) h'

theorem runLines_append (n : Int) (st : St) (a b : List Bytes) : runLines (a ++ b) n st = (runLines a n st >>= fun st' => runLines b (n + a.length) st') := by
  induction a generalizing n st with
  | nil => simp [runLines, bind, Except.bind]
  | cons s r ih =>
    simp only [List.cons_append, runLines]
    cases line st s n with
    | error e => rfl
    | ok st' =>
      simp only [bind, Except.bind]
      rw [ih]
      simp only [bind, Except.bind, List.length_cons]
      have : n + 1 + (r.length : Int) = n + ((r.length + 1 : Nat) : Int) := by omega
      rw [this]

/-- Lines without words: nothing happens. -/
theorem runLines_silent (n : Int) (st : St) : ∀ (ls : List Bytes) , (∀ s ∈ ls, words s = []) → runLines ls n st = .ok st := by
  intro ls
  induction ls generalizing n with
  | nil => intro _; rfl
  | cons s r ih =>
    intro h
    have h0 := h s (by simp)
    have : line st s n = .ok st := by unfold line; rw [h0]
    simp only [runLines, this]
    exact ih (n + 1) (fun s hs => h s (by simp [hs]))

theorem resolve_both (labels : List (Bytes × Int)) : ∀ (ws vs : List Want) (l : List Ins), ws.map Want.core = vs.map Want.core → Both Eq (resolve labels ws l) (resolve labels vs l)
  | [], [], l, _ => .ok rfl
  | [], _ :: _, l, h => by simp at h
  | _ :: _, [], l, h => by simp at h
  | w :: ws, v :: vs, l, h => by
    simp only [List.map_cons, List.cons.injEq, Want.core, Prod.mk.injEq] at h
    obtain ⟨⟨h1, h2⟩, h3⟩ := h
    simp only [resolve, h1, h2]
    split
    · exact .err
    · exact resolve_both labels ws vs _ h3

theorem lastLabel_both (n : Int) : ∀ (ls : List (Bytes × Int)) (a b : List Int), a.length = b.length → Both (fun _ _ => True) (lastLabel n ls a) (lastLabel n ls b)
  | [], a, b, _ => by simp only [lastLabel]; exact .ok trivial
  | _ :: _, [], [], _ => by simp only [lastLabel]; exact .ok trivial
  | _ :: _, [], _ :: _, h => by simp at h
  | _ :: _, _ :: _, [], h => by simp at h
  | (_, at_) :: r, i :: s, j :: t, h => by
    simp only [lastLabel]
    split
    · exact .err
    · exact lastLabel_both n r s t (by simpa using h)

theorem finish_both {a b : St} (h : Alike a b) : Both Eq (finish a) (finish b) := by
  obtain ⟨h1, h2, h3, h4⟩ := h
  unfold finish
  rw [h2, h1]
  refine (resolve_both _ _ _ _ h4).bind fun l l' e => ?_
  subst e
  split
  · exact .err
  · exact (lastLabel_both _ _ _ _ h3).bind fun _ _ _ => .ok rfl

/-! ### Splitting -/
theorem splitNl_ne (cur : Bytes) : ∀ l : Bytes, splitNl cur l ≠ []
  | [] => by simp [splitNl]
  | c :: r => by
    unfold splitNl
    split
    · simp
    · exact splitNl_ne _ r
theorem splitNl_line (cur a r : Bytes) : splitNl cur (a ++ 10 :: r) = (splitNl cur (a ++ [10])).dropLast ++ splitNl [] r := by
  induction a generalizing cur with
  | nil => simp [splitNl]
  | cons c a ih =>
    simp only [List.cons_append, splitNl]
    split
    · rw [ih]
      rw [List.dropLast_cons_of_ne_nil (splitNl_ne [] _)]; rfl
    · exact ih _

/-- A text that ends a line, and what stands behind it. -/
theorem splitNl_ends (cur a : Bytes) : ∃ ls, ∀ r, splitNl cur (a ++ 10 :: r) = ls ++ splitNl [] r := ⟨_, fun r => splitNl_line cur a r⟩

/-- 'a' is empty, or it ends with a line's end: its lines stand ahead of whatever comes. -/
def Whole (a : Bytes) (ls : List Bytes) : Prop := ∀ r, splitNl [] (a ++ r) = ls ++ splitNl [] r
theorem Whole.nil : Whole [] [] := fun _ => rfl
theorem Whole.append {a b : Bytes} {la lb : List Bytes} (ha : Whole a la) (hb : Whole b lb) : Whole (a ++ b) (la ++ lb) := fun r => by
  rw [List.append_assoc, ha, hb, List.append_assoc]
theorem whole_of_ends {a : Bytes} (h : a = [] ∨ a.getLast? = some 10) : ∃ ls, Whole a ls := by
  rcases h with rfl | h
  · exact ⟨[], Whole.nil⟩
  · obtain ⟨ys, rfl⟩ := List.getLast?_eq_some_iff.1 h
    obtain ⟨ls, hls⟩ := splitNl_ends [] ys
    exact ⟨ls, fun r => by simpa using hls r⟩

/-- The silent lines that are laid in between. -/
def silents : List (Bytes × Bytes) := [([], [10]), ([32, 32, 32], [32, 32, 32, 10]), ([59, 32, 106, 109, 112, 32, 110, 111, 119, 104, 101, 114, 101], [59, 32, 106, 109, 112, 32, 110, 111, 119, 104, 101, 114, 101, 10]),
  ([32, 32, 59], [32, 32, 59, 10]), ([32, 59, 32, 120, 58, 32], [32, 59, 32, 120, 58, 32, 10])]
theorem silents_whole : ∀ p ∈ silents, Whole p.2 [p.1] ∧ words p.1 = [] := by
  intro p hp
  simp only [silents, List.mem_cons, List.not_mem_nil, or_false] at hp
  rcases hp with rfl | rfl | rfl | rfl | rfl <;> exact ⟨fun r => by simp [splitNl], by decide⟩
def more (n : Nat) : Bytes := ((silents.take n).map (·.2)).flatten
theorem more_whole (l : List (Bytes × Bytes)) (h : ∀ p ∈ l, Whole p.2 [p.1]) : Whole ((l.map (·.2)).flatten) (l.map (·.1)) := by
  induction l with
  | nil => exact Whole.nil
  | cons p r ih =>
    have := (h p (by simp)).append (ih fun q hq => h q (by simp [hq]))
    simpa using this

/-- What AsmSilent asks: a text cut at a line's beginning, silent lines laid in between. -/
theorem parse_silent (a b : Bytes) (n : Nat) (ha : a = [] ∨ a.getLast? = some 10) (h1 : (a ++ b).length ≤ 65536) (h2 : (a ++ more n ++ b).length ≤ 65536) :
    Both Eq (parse (a ++ b)) (parse (a ++ more n ++ b)) := by
  obtain ⟨la, hla⟩ := whole_of_ends ha
  have hm : Whole (more n) ((silents.take n).map (·.1)) := more_whole _ fun p hp => (silents_whole p (List.mem_of_mem_take hp)).1
  have hs : ∀ s ∈ (silents.take n).map (·.1), words s = [] := by
    intro s hs
    obtain ⟨p, hp, rfl⟩ := List.mem_map.1 hs
    exact (silents_whole p (List.mem_of_mem_take hp)).2
  unfold parse
  rw [if_neg (by omega), if_neg (by omega), hla b, (hla.append hm) b, List.append_assoc]
  rw [runLines_append, runLines_append]
  have key : Both Alike (runLines la 0 ⟨[], [], [], []⟩ >>= fun st' => runLines (splitNl [] b) (0 + la.length) st')
      (runLines la 0 ⟨[], [], [], []⟩ >>= fun st' => runLines ((silents.take n).map (·.1) ++ splitNl [] b) (0 + la.length) st') := by
    refine Both.bind (R := Eq) ?_ fun s t e => ?_
    · cases runLines la 0 ⟨[], [], [], []⟩ with
      | ok s => exact .ok rfl
      | error e => exact .err
    · subst e
      rw [runLines_append, runLines_silent _ _ _ hs]
      exact runLines_both _ _ _ ⟨rfl, rfl, rfl, rfl⟩
  exact key.bind fun _ _ h => finish_both h
end AsmM
namespace AsmM
set_option linter.unusedSimpArgs false
set_option linter.unusedVariables false
set_option linter.unusedSectionVars false

def goodName (name : Bytes) : Bool := 1 ≤ name.length && name.length ≤ 16 && (name.head?.map isLow).getD false && name.all (fun c => isLow c || isDig c)
def regLike (name : Bytes) : Bool := match name with
  | a :: b :: _ => a = 114 && isDig b
  | _ => false

theorem named_of_good {s : Bytes} (h : goodName s = true) (hr : regLike s = false) : named s = true := by
  unfold named
  have : register s = none := by
    unfold register
    split
    · rename_i r d
      simp only [regLike, Bool.and_eq_false_iff, decide_eq_false_iff_not] at hr
      rw [if_neg]
      rintro ⟨rfl, h2⟩
      rcases hr with hr | hr
      · exact hr rfl
      · rw [h2] at hr; cases hr
    · rename_i r d e
      simp only [regLike, Bool.and_eq_false_iff, decide_eq_false_iff_not] at hr
      rw [if_neg]
      rintro ⟨rfl, h2, _⟩
      rcases hr with hr | hr
      · exact hr rfl
      · rw [h2] at hr; cases hr
    · rfl
  unfold goodName at h
  rw [h, this]; rfl

theorem good_of_named {s : Bytes} (h : named s = true) : goodName s = true := by
  unfold named at h
  simp only [Bool.and_eq_true] at h
  unfold goodName
  simp only [Bool.and_eq_true]
  exact h.1

def clean (name : Bytes) : Prop := ∀ c ∈ name, c ≠ 10 ∧ c ≠ 32 ∧ c ≠ 59 ∧ c ≠ 58

theorem strip_clean {s : Bytes} (h : ∀ c ∈ s, c ≠ 59) : strip s = s := by
  unfold strip
  induction s with
  | nil => rfl
  | cons c r ih =>
    have hc := h c (by simp)
    rw [List.takeWhile_cons_of_pos (by simp [hc])]
    rw [ih fun d hd => h d (by simp [hd])]

theorem cut_word (cur : Bytes) : ∀ {s : Bytes}, (∀ c ∈ s, c ≠ 32) → cur ++ s ≠ [] → cut cur s = [cur ++ s] := by
  intro s
  induction s generalizing cur with
  | nil =>
    intro _ h
    rw [List.append_nil] at h
    simp [cut, h]
  | cons c r ih =>
    intro h _
    have hc := h c (by simp)
    unfold cut
    rw [if_neg hc, ih (cur ++ [c]) (fun d hd => h d (by simp [hd])) (by simp)]
    simp

theorem cut_word_then (cur : Bytes) (r : Bytes) : ∀ {s : Bytes}, (∀ c ∈ s, c ≠ 32) → cur ++ s ≠ [] → cut cur (s ++ 32 :: r) = (cur ++ s) :: cut [] r := by
  intro s
  induction s generalizing cur with
  | nil =>
    intro _ h
    rw [List.append_nil] at h
    simp [cut, h]
  | cons c t ih =>
    intro h _
    have hc := h c (by simp)
    rw [List.cons_append]
    rw [cut, if_neg hc, ih (cur ++ [c]) (fun d hd => h d (by simp [hd])) (by simp)]
    simp

theorem splitNl_word (cur r : Bytes) : ∀ {s : Bytes}, (∀ c ∈ s, c ≠ 10) → splitNl cur (s ++ 10 :: r) = (cur ++ s) :: splitNl [] r := by
  intro s
  induction s generalizing cur with
  | nil => intro _; simp [splitNl]
  | cons c t ih =>
    intro h
    have hc := h c (by simp)
    rw [List.cons_append]
    rw [splitNl, if_neg hc, ih (cur ++ [c]) (fun d hd => h d (by simp [hd]))]
    simp

theorem words_label {name : Bytes} (h : clean name) : words (name ++ [58]) = [name ++ [58]] := by
  unfold words
  rw [strip_clean (by intro c hc; simp at hc; rcases hc with hc | rfl; exact (h c hc).2.2.1; decide)]
  rw [cut_word [] (by intro c hc; simp at hc; rcases hc with hc | rfl; exact (h c hc).2.1; decide) (by simp)]
  rfl

theorem words_jmp {name : Bytes} (h : clean name) (h0 : name ≠ []) : words ([106, 109, 112, 32] ++ name) = [[106, 109, 112], name] := by
  unfold words
  rw [strip_clean (by intro c hc; simp at hc; rcases hc with rfl | rfl | rfl | rfl | hc; all_goals first | decide | exact (h c hc).2.2.1)]
  have := cut_word_then [] name (s := [106, 109, 112]) (by decide) (by simp)
  simp only [List.cons_append, List.nil_append] at this ⊢
  rw [this, cut_word [] (fun c hc => (h c hc).2.1) (by simpa using h0)]
  rfl

theorem parse_names {name : Bytes} (hc : clean name) (hl : name.length ≤ 100) (hr : ¬ (goodName name = true ∧ regLike name = true)) :
    parse (name ++ [58, 10, 106, 109, 112, 32] ++ name ++ [10]) =
      if goodName name then .ok ([{ Ins.zero with op := 12 }], [(name, 0)]) else .error ⟨0, none, 6⟩ := by
  have e : name ++ [58, 10, 106, 109, 112, 32] ++ name ++ [10] = (name ++ [58]) ++ 10 :: (([106, 109, 112, 32] ++ name) ++ 10 :: []) := by simp
  unfold parse
  rw [if_neg (by simp; omega), e]
  rw [splitNl_word [] _ (by intro c h; simp at h; rcases h with h | rfl; exact (hc c h).1; decide)]
  simp only [runLines]
  have hline : line ⟨[], [], [], []⟩ ([] ++ (name ++ [58])) 0 = if named name then .ok ⟨[], [(name, 0)], [0], []⟩ else .error (bad 0) := by
    unfold line
    rw [List.nil_append, words_label hc]
    dsimp only
    rw [if_pos (by simp), List.dropLast_concat]
    cases named name <;> simp
  rw [hline]
  by_cases hg : goodName name = true
  · have hr' : regLike name = false := by
      cases h : regLike name
      · rfl
      · exact (hr ⟨hg, h⟩).elim
    have hn := named_of_good hg hr'
    have h0 : name ≠ [] := by
      rintro rfl
      simp [goodName] at hg
    rw [if_pos hn, if_pos hg]
    simp only [bind, Except.bind]
    rw [splitNl_word [] _ (by intro c h; simp at h; rcases h with rfl | rfl | rfl | rfl | h; all_goals first | decide | exact (hc c h).1)]
    simp only [runLines, splitNl]
    have h1 : line ⟨[], [(name, 0)], [0], []⟩ ([] ++ ([106, 109, 112, 32] ++ name)) (0 + 1) = .ok ⟨[{ Ins.zero with op := 12 }], [(name, 0)], [0], [⟨0, 1, name⟩]⟩ := by
      unfold line
      rw [List.nil_append, words_jmp hc h0]
      dsimp only
      rw [if_neg (by simp)]
      have ho : opOf [106, 109, 112] = 12 := by decide
      rw [ho]
      have hop : ∀ x l, operand x 8 name l = .ok (x, true) := fun x l => by simp [operand, hn]
      simp [operands, bind, Except.bind, operandsOf, Ins.zero, hop]
    rw [h1]
    simp only [bind, Except.bind]
    have h2 : line ⟨[{ Ins.zero with op := 12 }], [(name, 0)], [0], [⟨0, 1, name⟩]⟩ [] (0 + 1 + 1) = .ok ⟨[{ Ins.zero with op := 12 }], [(name, 0)], [0], [⟨0, 1, name⟩]⟩ := by
      unfold line
      have : words [] = [] := by decide
      rw [this]
    rw [h2]
    simp [finish, resolve, find, setV, lastLabel, bind, Except.bind, Ins.zero]
  · have hn : named name = false := by
      cases h : named name
      · rfl
      · exact (hg (good_of_named h)).elim
    rw [if_neg hg, if_neg (by rw [hn]; decide)]
    rfl
end AsmM
namespace AsmM
set_option linter.unusedSimpArgs false
set_option linter.unusedVariables false
set_option linter.unusedSectionVars false

/-! ### Decimal digits -/
theorem dec_pos (n : Nat) : dec n ≠ [] := by
  unfold dec; split <;> simp
theorem toNat_ofNat_small {k : Nat} (h : k < 256) : (UInt8.ofNat k).toNat = k := by simp; omega
theorem isDig_mk {k : Nat} (h : k < 10) : isDig (UInt8.ofNat (48 + k)) = true := by
  have : k = 0 ∨ k = 1 ∨ k = 2 ∨ k = 3 ∨ k = 4 ∨ k = 5 ∨ k = 6 ∨ k = 7 ∨ k = 8 ∨ k = 9 := by omega
  rcases this with rfl | rfl | rfl | rfl | rfl | rfl | rfl | rfl | rfl | rfl <;> decide
theorem dec_dig (n : Nat) : ∀ c ∈ dec n, isDig c = true := by
  induction n using Nat.strongRecOn with
  | _ n ih =>
    unfold dec
    split
    · intro c hc
      rw [List.mem_singleton.1 hc]
      exact isDig_mk (by omega)
    · intro c hc
      rcases List.mem_append.1 hc with hc | hc
      · exact ih (n / 10) (by omega) c hc
      · rw [List.mem_singleton.1 hc]
        exact isDig_mk (by omega)
theorem dig_ne {c : UInt8} (h : isDig c = true) : c ≠ 32 ∧ c ≠ 59 ∧ c ≠ 10 ∧ c ≠ 58 ∧ c ≠ 33 ∧ c ≠ 91 ∧ c ≠ 93 ∧ c ≠ 43 ∧ c ≠ 61 ∧ c ≠ 62 ∧ c ≠ 114 ∧ c ≠ 112 ∧ c ≠ 113 ∧ c ≠ 120 := by
  refine ⟨?_, ?_, ?_, ?_, ?_, ?_, ?_, ?_, ?_, ?_, ?_, ?_, ?_, ?_⟩ <;> (rintro rfl; revert h; decide)
theorem dec_len (n k : Nat) (h : n < 10 ^ (k + 1)) : (dec n).length ≤ k + 1 := by
  induction k generalizing n with
  | zero => unfold dec; rw [if_pos (by omega)]; simp
  | succ k ih =>
    unfold dec
    split
    · simp
    · have := ih (n / 10) (by rw [Nat.div_lt_iff_lt_mul (by decide)]; rw [Nat.pow_succ] at h; exact h)
      simp; omega
theorem digit_mk {k : Nat} (h : k < 10) : digit (UInt8.ofNat (48 + k)) 10 = some k := by
  have : k = 0 ∨ k = 1 ∨ k = 2 ∨ k = 3 ∨ k = 4 ∨ k = 5 ∨ k = 6 ∨ k = 7 ∨ k = 8 ∨ k = 9 := by omega
  rcases this with rfl | rfl | rfl | rfl | rfl | rfl | rfl | rfl | rfl | rfl <;> decide
theorem digits_append (a b : Bytes) (i v : Nat) : digits 10 20 0 (a ++ b) i v = (digits 10 20 0 a i v >>= fun u => digits 10 20 0 b (i + a.length) u) := by
  induction a generalizing i v with
  | nil => simp [digits, bind, Except.bind]
  | cons c r ih =>
    simp only [List.cons_append, digits]
    split
    · rfl
    · split
      · rfl
      · rw [ih]
        have : i + 1 + r.length = i + (r.length + 1) := by omega
        simp only [List.length_cons, this]
theorem digits_dec (n : Nat) (h : n < 2 ^ 64) : digits 10 20 0 (dec n) 0 0 = .ok n := by
  induction n using Nat.strongRecOn with
  | _ n ih =>
    unfold dec
    split
    · rename_i hn
      simp only [digits, digit_mk hn]
      rw [if_neg (by omega)]
      simp
    · rename_i hn
      rw [digits_append, ih (n / 10) (by omega) (by omega)]
      simp only [bind, Except.bind, digits, digit_mk (show n % 10 < 10 by omega)]
      have hl : (dec (n / 10)).length ≤ 19 := dec_len _ 18 (by omega)
      rw [if_neg (by
        rintro (h1 | h1)
        · omega
        · have : n / 10 ≤ (2 ^ 64 - 1 - n % 10) / 10 := by
            rw [Nat.le_div_iff_mul_le (by decide)]; omega
          omega)]
      congr 1; omega
theorem dec_notHex (n : Nat) : isHex (dec n) = false := by
  have := dec_dig n
  unfold isHex
  split
  · rename_i a b r h
    have hb := (dig_ne (this b (by rw [h]; simp))).2.2.2.2.2.2.2.2.2.2.2.2.2
    simp [hb]
  · rfl
theorem num_dec {v : Int} (h0 : 0 ≤ v) (h : v < 18446744073709551616) (i : Int) : num (decI v) i = .ok v := by
  unfold num number decI
  rw [if_neg (by rw [dec_notHex]; decide), if_neg (by have := dec_pos v.toNat; simpa using this), digits_dec _ (by omega)]
  simp only
  congr 1; omega
theorem register_dec (n : Nat) : register (dec n) = none := by
  have hd := dec_dig n
  unfold register
  split
  · rename_i r d h
    rw [if_neg]; rintro ⟨rfl, _⟩
    exact (dig_ne (hd _ (by rw [h]; simp))).2.2.2.2.2.2.2.2.2.2.1 rfl
  · rename_i r d e h
    rw [if_neg]; rintro ⟨rfl, _⟩
    exact (dig_ne (hd _ (by rw [h]; simp))).2.2.2.2.2.2.2.2.2.2.1 rfl
  · rfl
theorem register_reg {n : Int} (h0 : 0 ≤ n) (h : n < 32) : register (reg n) = some n.toNat := by
  obtain ⟨k, rfl⟩ := Int.eq_ofNat_of_zero_le h0
  have hk : k < 32 := by omega
  have : ∀ k : Fin 32, register (reg ((k.val : Nat) : Int)) = some k.val := by decide +kernel
  simpa using this ⟨k, hk⟩
theorem named_dec (n : Nat) : named (dec n) = false := by
  have hd := dec_dig n
  have hp := dec_pos n
  unfold named
  cases h : dec n with
  | nil => exact (hp h).elim
  | cons c r =>
    have := hd c (by rw [h]; simp)
    have : isLow c = false := by
      unfold isDig at this; unfold isLow
      simp only [Bool.and_eq_true, decide_eq_true_eq, Bool.and_eq_false_iff, decide_eq_false_iff_not] at this ⊢
      left
      intro h2
      exact absurd (UInt8.le_trans h2 this.2) (by decide)
    simp [this]

/-! ### Operands -/
theorem operand_reg {x : Ins} {k n : Int} (hk : k = 1 ∨ k = 2 ∨ k = 3 ∨ k = 4 ∨ k = 5) (h0 : 0 ≤ n) (h : n < 32) (i : Int) :
    operand x k (reg n) i = .ok (if k = 1 then { x with a := n } else if k = 2 ∨ k = 5 then { x with b := n } else { x with c := n }, false) := by
  unfold operand
  rw [if_pos hk, register_reg h0 h]
  have : ((n.toNat : Nat) : Int) = n := by omega
  simp only [this]
theorem operand_num7 {x : Ins} {v : Int} (h0 : 0 ≤ v) (h : v < 18446744073709551616) (i : Int) : operand x 7 (decI v) i = .ok ({ x with v := v }, false) := by
  unfold operand
  rw [if_neg (by omega), if_pos rfl, num_dec h0 h]; rfl
theorem operand_num9 {x : Ins} {v : Int} (h0 : 0 ≤ v) (h : v < 18446744073709551616) (i : Int) : operand x 9 (decI v) i = .ok ({ x with v := v }, false) := by
  unfold operand
  rw [if_neg (by omega), if_neg (by omega), if_neg (by omega), if_neg (by unfold decI; rw [named_dec]; decide), if_neg (by omega), num_dec h0 h]; rfl
theorem operand_num5 {x : Ins} {v : Int} (h0 : 0 ≤ v) (h : v < 18446744073709551616) (i : Int) : operand x 5 (decI v) i = .ok ({ x with b := -1, v := v }, false) := by
  unfold operand
  rw [if_pos (by omega)]
  unfold decI at *
  rw [register_dec]
  simp only
  rw [if_neg (by omega), show num (dec v.toNat) i = .ok v from num_dec h0 h i]; rfl
theorem operand_num4 {x : Ins} {v : Int} (h0 : 0 ≤ v) (h : v < 18446744073709551616) (i : Int) : operand x 4 (decI v) i = .ok ({ x with c := -1, v := v }, false) := by
  unfold operand
  rw [if_pos (by omega)]
  unfold decI at *
  rw [register_dec]
  simp only
  rw [if_neg (by omega), show num (dec v.toNat) i = .ok v from num_dec h0 h i]; rfl
/-- A label's word: p or q, and digits. -/
def lab (p : UInt8) (n : Int) : Bytes := p :: decI n
theorem named_lab {p : UInt8} (hp : p = 112 ∨ p = 113) {n : Int} (h : n < 2048) : named (lab p n) = true := by
  have hl : (decI n).length ≤ 4 := dec_len _ 3 (by omega)
  have hd := dec_dig n.toNat
  refine named_of_good ?_ ?_
  · unfold goodName lab
    simp only [Bool.and_eq_true, decide_eq_true_eq]
    refine ⟨⟨⟨by simp, by simp; omega⟩, by rcases hp with rfl | rfl <;> rfl⟩, ?_⟩
    rw [List.all_eq_true]
    intro c hc
    rcases List.mem_cons.1 hc with rfl | hc
    · rcases hp with rfl | rfl <;> decide
    · rw [hd c hc]; simp
  · unfold regLike lab
    split
    · rename_i a b r h
      injection h with h1 h2
      subst h1
      rcases hp with rfl | rfl <;> simp
    · rfl
theorem operand_place {x : Ins} {k : Int} (hk : k = 8 ∨ k = 9) {p : UInt8} (hp : p = 112 ∨ p = 113) {n : Int} (h : n < 2048) (i : Int) :
    operand x k (lab p n) i = .ok (x, true) := by
  unfold operand
  rw [if_neg (by omega), if_neg (by omega), if_neg (by omega), if_pos (named_lab hp h)]

theorem takeWhile_plus {a r : Bytes} (h : ∀ c ∈ a, c ≠ 43) : (a ++ 43 :: r).takeWhile (· ≠ 43) = a ∧ (a ++ 43 :: r).dropWhile (· ≠ 43) = 43 :: r := by
  induction a with
  | nil => simp
  | cons c t ih =>
    have := h c (by simp)
    have ih' := ih fun d hd => h d (by simp [hd])
    constructor
    · rw [List.cons_append, List.takeWhile_cons_of_pos (by simpa using this), ih'.1]
    · rw [List.cons_append, List.dropWhile_cons_of_pos (by simpa using this), ih'.2]
theorem reg_noplus (n : Int) : ∀ c ∈ reg n, c ≠ 43 := by
  intro c hc
  rcases List.mem_cons.1 hc with rfl | hc
  · decide
  · exact (dig_ne (dec_dig _ c hc)).2.2.2.2.2.2.2.1
theorem bracket (t : Bytes) : ¬ ((91 :: t ++ [93]).length < 2 ∨ (91 :: t ++ [93]).head? ≠ some 91 ∨ (91 :: t ++ [93]).getLast? ≠ some 93) ∧ (91 :: t ++ [93]).tail.dropLast = t := by
  constructor
  · rintro (h | h | h)
    · simp at h; omega
    · simp at h
    · apply h
      rw [List.getLast?_append]; simp
  · simp
theorem cellOf_reg {x : Ins} {n : Int} (h0 : 0 ≤ n) (h : n < 32) (i : Int) : cellOf x (91 :: reg n ++ [93]) i = .ok { x with b := n } := by
  unfold cellOf
  rw [if_neg (bracket _).1, (bracket _).2]
  have : ((n.toNat : Nat) : Int) = n := by omega
  simp only [register_reg h0 h, this]
theorem register_plus (n : Int) (r : Bytes) : register (reg n ++ (43 :: r)) = none := by
  have hp := dec_pos n.toNat
  unfold reg decI
  cases h : dec n.toNat with
  | nil => exact (hp h).elim
  | cons c t =>
    unfold register
    split
    · rename_i a b e
      simp at e
    · rename_i a b d e
      simp only [List.cons_append] at e
      injection e with e1 e2
      injection e2 with e2 e3
      cases t with
      | nil =>
        simp at e3
        obtain ⟨rfl, _⟩ := e3
        rw [if_neg]; rintro ⟨_, _, h3, _⟩; revert h3; decide
      | cons _ _ => simp at e3
    · rfl
theorem cellOf_both' {x : Ins} {n v : Int} (h0 : 0 ≤ n) (h : n < 32) (hv0 : 0 ≤ v) (hv : v < 18446744073709551616) (i : Int) :
    cellOf x (91 :: reg n ++ (43 :: decI v ++ [93])) i = .ok { x with b := n, v := v } := by
  have e : (91 :: reg n ++ (43 :: decI v ++ [93]) : Bytes) = 91 :: (reg n ++ (43 :: decI v)) ++ [93] := by simp
  have tw := takeWhile_plus (a := reg n) (r := decI v) (reg_noplus n)
  unfold cellOf
  rw [e, if_neg (bracket _).1, (bracket _).2]
  simp only [register_plus]
  rw [if_pos (by simp)]
  have : ((n.toNat : Nat) : Int) = n := by omega
  rw [tw.1, register_reg h0 h, tw.2]
  simp only [List.tail_cons, num_dec hv0 hv, bind, Except.bind, this]
theorem cellOf_num {x : Ins} {v : Int} (hv0 : 0 ≤ v) (hv : v < 18446744073709551616) (i : Int) :
    cellOf x (91 :: decI v ++ [93]) i = .ok { x with b := -1, v := v } := by
  have hnp : ¬ (decI v).contains 43 = true := by
    simp only [List.contains_eq_mem, decide_eq_true_eq]
    intro h
    exact (dig_ne (dec_dig _ _ h)).2.2.2.2.2.2.2.1 rfl
  unfold cellOf
  rw [if_neg (bracket _).1, (bracket _).2]
  have hr : register (decI v) = none := register_dec _
  simp only [hr]
  rw [if_neg hnp]
  simp only [num_dec hv0 hv, bind, Except.bind]
theorem operand_cell {x : Ins} {s : Bytes} {i : Int} {y : Ins} (h : cellOf x s i = .ok y) : operand x 6 s i = .ok (y, false) := by
  unfold operand
  rw [if_neg (by omega), if_neg (by omega), if_pos rfl, h]; rfl

/-! ### Marks -/
theorem dec_noSuffix (n : Nat) (a : UInt8) (ha : isDig a = false) (b : UInt8) : [a, b].isSuffixOf (dec n) = false := by
  cases h : [a, b].isSuffixOf (dec n) with
  | false => rfl
  | true =>
    obtain ⟨t, ht⟩ := List.isSuffixOf_iff_suffix.1 h
    have := dec_dig n a (by rw [← ht]; simp)
    rw [ha] at this; cases this
theorem ending0 (m : Int) : ending (decI m) 0 = (0, decI m) := by
  have e1 : [61, 48].isSuffixOf (decI m) = false := dec_noSuffix _ _ (by decide) _
  have e2 : [62, 48].isSuffixOf (decI m) = false := dec_noSuffix _ _ (by decide) _
  unfold ending
  rw [e1, e2]; rfl
theorem ending1 (m : Int) : ending (decI m ++ [61, 48]) 0 = (1, decI m) := by
  have e1 : [61, 48].isSuffixOf (decI m ++ [61, 48]) = true := List.isSuffixOf_iff_suffix.2 ⟨_, rfl⟩
  have e3 : (decI m ++ [61, 48]).take ((decI m ++ [61, 48]).length - 2) = decI m := by simp
  unfold ending
  rw [if_pos e1, e3]
theorem ending2 (m : Int) : ending (decI m ++ [62, 48]) 0 = (2, decI m) := by
  have e1 : ¬ [61, 48].isSuffixOf (decI m ++ [62, 48]) = true := by
    intro h
    obtain ⟨t, ht⟩ := List.isSuffixOf_iff_suffix.1 h
    have := List.append_inj_right' ht (by simp)
    simp at this
  have e2 : [62, 48].isSuffixOf (decI m ++ [62, 48]) = true := List.isSuffixOf_iff_suffix.2 ⟨_, rfl⟩
  have e3 : (decI m ++ [62, 48]).take ((decI m ++ [62, 48]).length - 2) = decI m := by simp
  unfold ending
  rw [if_neg e1, if_pos e2, e3]
theorem ending_ok (m : Int) {w : Int} (hw : w = 0 ∨ w = 1 ∨ w = 2) : ending (decI m ++ tailW w) 0 = (w, decI m) := by
  rcases hw with rfl | rfl | rfl
  · rw [show tailW 0 = [] from rfl, List.append_nil]; exact ending0 m
  · exact ending1 m
  · exact ending2 m
theorem mark_ok {x : Ins} (hx : x.w = 0) {m w : Int} (h1 : 1 ≤ m) (h2 : m ≤ 99) (hw : w = 0 ∨ w = 1 ∨ w = 2) (i : Int) :
    mark x (33 :: decI m ++ tailW w) i = .ok { x with m := m, w := w } := by
  unfold mark
  rw [hx, List.cons_append, List.tail_cons, ending_ok m hw]
  simp only [num_dec (show 0 ≤ m by omega) (show m < 18446744073709551616 by omega), bind, Except.bind]
  rw [if_neg (by omega)]
end AsmM
namespace AsmM
set_option linter.unusedSimpArgs false
set_option linter.unusedVariables false
set_option linter.unusedSectionVars false

def shownP (p : UInt8) (x : Ins) (k : Int) : Bytes := if k = 8 then lab p x.v else shown x k
def toksP (p : UInt8) (x : Ins) : List Bytes := nameOf x.op :: ((operands x.op).map (shownP p x) ++ if x.m = 0 then [] else [33 :: decI x.m ++ tailW x.w])
def joinSp : List Bytes → Bytes
  | [] => []
  | w :: ws => w ++ ws.flatMap (32 :: ·)
def insLineP (p : UInt8) (x : Ins) : Bytes := joinSp (toksP p x)

theorem shownP_self (x : Ins) (k : Int) : shownP 112 x k = shown x k := by
  unfold shownP
  split
  · rename_i h; subst h; rfl
  · rfl
theorem insText_eq (x : Ins) : insText x = insLineP 112 x ++ [10] := by
  unfold insText insLineP toksP joinSp marked
  have : ∀ ks : List Int, ks.flatMap (fun k => 32 :: shown x k) = (ks.map (shownP 112 x)).flatMap (32 :: ·) := by
    intro ks
    induction ks with
    | nil => rfl
    | cons k ks ih => simp [ih, shownP_self]
  rw [this]
  split <;> simp

/-! ### What the kinds of instructions are like -/
abbrev Info := List Int × (Bool × Bool × Bool × Bool) × Bool × Bool × Bool × Bool × Bool × Bool
def info (op : Int) : Info := (operands op, fields op, lessB op, lessC op, isJump op, decide (op = 22), decide (3 ≤ op ∧ op ≤ 11), decide (op = 43))
def shapes : List Info := [
  ([1, 9], (true, false, false, true), false, false, false, false, false, false),
  ([1, 8], (true, false, false, true), false, false, true, false, false, false),
  ([8], (false, false, false, true), false, false, true, false, false, false),
  ([7], (false, false, false, true), false, false, false, true, false, false),
  ([1, 5], (true, true, false, true), true, false, false, false, false, true),
  ([1, 2, 7], (true, true, false, true), false, false, false, false, false, false),
  ([1, 6, 3], (true, true, true, true), true, false, false, false, false, false),
  ([1, 6], (true, true, false, true), true, false, false, false, false, false),
  ([1, 2, 4], (true, true, true, true), false, true, false, false, true, false),
  ([1, 2, 3], (true, true, true, false), false, false, false, false, false, false),
  ([1, 2], (true, true, false, false), false, false, false, false, false, false),
  ([1], (true, false, false, false), false, false, false, false, false, false),
  ([], (false, false, false, false), false, false, false, false, false, false)]
theorem info_shape {op : Int} (h1 : 1 ≤ op) (h2 : op ≤ 58) : info op ∈ shapes := by
  have : ∀ k : Fin 58, info ((k.val : Int) + 1) ∈ shapes := by decide +kernel
  obtain ⟨k, rfl⟩ : ∃ k : Nat, op = (k : Int) + 1 := ⟨(op - 1).toNat, by omega⟩
  exact this ⟨k, by omega⟩
theorem name_op {op : Int} (h1 : 1 ≤ op) (h2 : op ≤ 58) : (opOf (nameOf op) : Int) = op ∧ nameOf op ≠ [] ∧ (nameOf op).all isLow = true := by
  have : ∀ k : Fin 58, (opOf (nameOf ((k.val : Int) + 1)) : Int) = (k.val : Int) + 1 ∧ nameOf ((k.val : Int) + 1) ≠ [] ∧ (nameOf ((k.val : Int) + 1)).all isLow = true := by decide +kernel
  obtain ⟨k, rfl⟩ : ∃ k : Nat, op = (k : Int) + 1 := ⟨(op - 1).toNat, by omega⟩
  exact this ⟨k, by omega⟩

/-- What an instruction that may be is like. -/
structure Fine (n : Int) (x : Ins) : Prop where
  op1 : 1 ≤ x.op
  op2 : x.op ≤ 58
  a : regOk x.a (fields x.op).1 false = true
  b : regOk x.b (fields x.op).2.1 (lessB x.op) = true
  c : regOk x.c (fields x.op).2.2.1 (lessC x.op) = true
  v : numOk x (fields x.op).2.2.2 n = true
  m1 : 0 ≤ x.m
  m2 : x.m ≤ 99
  w : x.w = 0 ∨ (0 < x.m ∧ (x.w = 1 ∨ x.w = 2))
theorem fine_of_valid {n : Int} {x : Ins} (h : valid n x = true) : Fine n x := by
  unfold valid may at h
  split at h
  · cases h
  · rename_i h0
    dsimp only at h
    split at h
    · cases h
    · rename_i h1
      simp only [Bool.not_eq_false, Bool.and_eq_true] at h1
      simp only [Bool.and_eq_true, Bool.or_eq_true, decide_eq_true_eq] at h
      obtain ⟨⟨⟨⟨m1, m2⟩, w1⟩, w2⟩, hw⟩ := h
      refine ⟨by omega, by omega, h1.1.1.1, h1.1.1.2, h1.1.2, h1.2, m1, m2, ?_⟩
      rcases hw with hw | ⟨hw, _⟩
      · exact .inl hw
      · by_cases h3 : x.w = 0
        · exact .inl h3
        · exact .inr ⟨hw, by omega⟩

theorem regOk_used {n : Int} (h : regOk n true false = true) : 0 ≤ n ∧ n < 32 := by
  simpa [regOk] using h
theorem regOk_less {n : Int} (h : regOk n true true = true) : (0 ≤ n ∧ n < 32) ∨ n = -1 := by
  simpa [regOk] using h
theorem regOk_un {n : Int} {l : Bool} (h : regOk n false l = true) : n = 0 := by
  simpa [regOk] using h

/-- What is read of an instruction: a place is known later. -/
def open_ (x : Ins) : Ins := if isJump x.op then { x with v := 0 } else x
def wantsOf (p : UInt8) (A i : Int) (x : Ins) : List Want := if isJump x.op then [⟨A, i, lab p x.v⟩] else []

theorem num_flags {x : Ins} {n : Int} {u j c p g : Bool} (hj : isJump x.op = j) (hc : decide (x.op = 22) = c) (hp : decide (3 ≤ x.op ∧ x.op ≤ 11) = p) (hg : decide (x.op = 43) = g)
    (h : numOk x u n = true) :
    (j = true → x.v < n) ∧ (j = false → c = false → p = true → x.c = -1 ∨ x.v = 0) ∧ (j = false → c = false → p = false → g = true → x.b = -1 ∨ x.v = 0) ∧
    (j = false → c = false → p = false → g = false → u = true ∨ x.v = 0) := by
  subst hj hc hp hg
  unfold numOk at h
  unfold isJump
  simp only [decide_eq_true_eq, decide_eq_false_iff_not]
  split at h
  · rename_i h1
    exact ⟨fun _ => by simpa using h, fun h2 => (h2 h1).elim, fun h2 => (h2 h1).elim, fun h2 => (h2 h1).elim⟩
  · rename_i h1
    refine ⟨fun h2 => (h1 h2).elim, ?_, ?_, ?_⟩ <;> intro _ hc
    · rw [if_neg hc] at h
      intro hp
      rw [if_pos hp] at h
      simpa using h
    · rw [if_neg hc] at h
      intro hp
      rw [if_neg hp] at h
      intro hg
      rw [if_pos hg] at h
      simpa using h
    · rw [if_neg hc] at h
      intro hp
      rw [if_neg hp] at h
      intro hg
      rw [if_neg hg] at h
      simpa using h

theorem shown1 (p : UInt8) (x : Ins) : shownP p x 1 = reg x.a := by simp [shownP, shown]
theorem shown2 (p : UInt8) (x : Ins) : shownP p x 2 = reg x.b := by simp [shownP, shown]
theorem shown3 (p : UInt8) (x : Ins) : shownP p x 3 = reg x.c := by simp [shownP, shown]
theorem shown5 (p : UInt8) (x : Ins) : shownP p x 5 = if x.b = -1 then decI x.v else reg x.b := by simp [shownP, shown]
theorem shown4 (p : UInt8) (x : Ins) : shownP p x 4 = if x.c = -1 then decI x.v else reg x.c := by simp [shownP, shown]
theorem shown6 (p : UInt8) (x : Ins) : shownP p x 6 = if x.b = -1 then 91 :: decI x.v ++ [93] else if x.v = 0 then 91 :: reg x.b ++ [93] else 91 :: reg x.b ++ (43 :: decI x.v ++ [93]) := by simp [shownP, shown]
theorem shown7 (p : UInt8) (x : Ins) : shownP p x 7 = decI x.v := by simp [shownP, shown]
theorem shown8 (p : UInt8) (x : Ins) : shownP p x 8 = lab p x.v := by simp [shownP]
theorem shown9 (p : UInt8) (x : Ins) : shownP p x 9 = decI x.v := by simp [shownP, shown]

/-- An operand of a cell is read again. -/
theorem operand_cell_ok {y : Ins} (hy : y.v = 0) {b v : Int} (hb : (0 ≤ b ∧ b < 32) ∨ b = -1) (hv0 : 0 ≤ v) (hv : v < 18446744073709551616) (i : Int) :
    operand y 6 (if b = -1 then 91 :: decI v ++ [93] else if v = 0 then 91 :: reg b ++ [93] else 91 :: reg b ++ (43 :: decI v ++ [93])) i = .ok ({ y with b := b, v := v }, false) := by
  refine operand_cell ?_
  by_cases h1 : b = -1
  · subst h1
    rw [if_pos rfl]; exact cellOf_num hv0 hv i
  · rw [if_neg h1]
    by_cases h2 : v = 0
    · subst h2
      rw [if_pos rfl, cellOf_reg (by omega) (by omega)]
      rw [← hy]
    · rw [if_neg h2]
      exact cellOf_both' (by omega) (by omega) hv0 hv i

theorem operandsOf_ok {n : Int} {x : Ins} (hx : Fine n x) (hn : n ≤ 2048) (hv0 : 0 ≤ x.v) (hv : x.v < 18446744073709551616) {p : UInt8} (hp : p = 112 ∨ p = 113) (A i : Int) (ws : List Want) :
    operandsOf A i { Ins.zero with op := x.op } ws (operands x.op) ((operands x.op).map (shownP p x)) =
      .ok ({ open_ x with m := 0, w := 0 }, ws ++ wantsOf p A i x) := by
  obtain ⟨o1, o2, ha, hb, hc, hvv, _, _, _⟩ := hx
  have hs := info_shape o1 o2
  obtain ⟨op, a, b, c, v, m, w⟩ := x
  dsimp only at *
  simp only [shapes, List.mem_cons, List.not_mem_nil, or_false] at hs
  rcases hs with hs | hs | hs | hs | hs | hs | hs | hs | hs | hs | hs | hs | hs
  all_goals
    simp only [info, Prod.mk.injEq] at hs
    obtain ⟨e1, ef, e6, e7, e8, e9, e10, e11⟩ := hs
    rw [ef] at ha hb hc hvv
    rw [e6] at hb
    rw [e7] at hc
    dsimp only at ha hb hc hvv
    have hf := num_flags (x := ⟨op, a, b, c, v, m, w⟩) e8 e9 e10 e11 hvv
    simp only [e1, List.map_cons, List.map_nil, open_, wantsOf, e8, shown1, shown2, shown3, shown4, shown5, shown6, shown7, shown8, shown9]
    simp only [reduceCtorEq, false_implies, and_true, true_and, Bool.false_eq_true, if_true, if_false, false_or, true_or, forall_const] at hf ⊢
  · -- set
    have := regOk_used ha; have := regOk_un hb; have := regOk_un hc; subst b c
    simp only [operandsOf, operand_reg (Or.inl rfl) (by omega : 0 ≤ a) (by omega), operand_num9 hv0 hv, bind, Except.bind]
    simp [Ins.zero]
  · have := regOk_used ha; have := regOk_un hb; have := regOk_un hc; subst b c
    simp only [operandsOf, operand_reg (Or.inl rfl) (by omega : 0 ≤ a) (by omega), operand_place (Or.inl rfl) hp (by omega : v < 2048), bind, Except.bind]
    simp [Ins.zero]
  · have := regOk_un ha; have := regOk_un hb; have := regOk_un hc; subst a b c
    simp only [operandsOf, operand_place (Or.inl rfl) hp (by omega : v < 2048), bind, Except.bind]
    simp [Ins.zero]
  · have := regOk_un ha; have := regOk_un hb; have := regOk_un hc; subst a b c
    simp only [operandsOf, operand_num7 hv0 hv, bind, Except.bind]
    simp [Ins.zero]
  · have := regOk_used ha; have hb' := regOk_less hb; have := regOk_un hc; subst c
    simp only [operandsOf, operand_reg (Or.inl rfl) (by omega : 0 ≤ a) (by omega), bind, Except.bind]
    by_cases h1 : b = -1
    · subst h1
      simp only [if_true, operand_num5 hv0 hv, bind, Except.bind]
      simp [Ins.zero]
    · have : v = 0 := by omega
      subst this
      simp only [if_neg h1, operand_reg (k := 5) (by omega) (by omega : 0 ≤ b) (by omega), bind, Except.bind]
      simp [Ins.zero]
  · have := regOk_used ha; have := regOk_used hb; have := regOk_un hc; subst c
    simp only [operandsOf, operand_reg (Or.inl rfl) (by omega : 0 ≤ a) (by omega), operand_reg (k := 2) (by omega) (by omega : 0 ≤ b) (by omega), operand_num7 hv0 hv, bind, Except.bind]
    simp [Ins.zero]
  · have := regOk_used ha; have hb' := regOk_less hb; have := regOk_used hc
    simp only [operandsOf, operand_reg (Or.inl rfl) (by omega : 0 ≤ a) (by omega), operand_reg (k := 3) (by omega) (by omega : 0 ≤ c) (by omega), bind, Except.bind]
    rw [operand_cell_ok (by simp [Ins.zero]) hb' hv0 hv]
    simp [Ins.zero, operandsOf, operand_reg (k := 3) (by omega) (by omega : 0 ≤ c) (by omega), bind, Except.bind]
  · have := regOk_used ha; have hb' := regOk_less hb; have := regOk_un hc; subst c
    simp only [operandsOf, operand_reg (Or.inl rfl) (by omega : 0 ≤ a) (by omega), bind, Except.bind]
    rw [operand_cell_ok (by simp [Ins.zero]) hb' hv0 hv]
    simp [Ins.zero, operandsOf]
  · have := regOk_used ha; have := regOk_used hb; have hc' := regOk_less hc
    simp only [operandsOf, operand_reg (Or.inl rfl) (by omega : 0 ≤ a) (by omega), operand_reg (k := 2) (by omega) (by omega : 0 ≤ b) (by omega), bind, Except.bind]
    by_cases h1 : c = -1
    · subst h1
      simp only [if_true, operand_num4 hv0 hv, bind, Except.bind]
      simp [Ins.zero]
    · have : v = 0 := by omega
      subst this
      simp only [if_neg h1, operand_reg (k := 4) (by omega) (by omega : 0 ≤ c) (by omega), bind, Except.bind]
      simp [Ins.zero]
  · have := regOk_used ha; have := regOk_used hb; have := regOk_used hc; subst v
    simp only [operandsOf, operand_reg (Or.inl rfl) (by omega : 0 ≤ a) (by omega), operand_reg (k := 2) (by omega) (by omega : 0 ≤ b) (by omega), operand_reg (k := 3) (by omega) (by omega : 0 ≤ c) (by omega), bind, Except.bind]
    simp [Ins.zero]
  · have := regOk_used ha; have := regOk_used hb; have := regOk_un hc; subst c v
    simp only [operandsOf, operand_reg (Or.inl rfl) (by omega : 0 ≤ a) (by omega), operand_reg (k := 2) (by omega) (by omega : 0 ≤ b) (by omega), bind, Except.bind]
    simp [Ins.zero]
  · have := regOk_used ha; have := regOk_un hb; have := regOk_un hc; subst b c v
    simp only [operandsOf, operand_reg (Or.inl rfl) (by omega : 0 ≤ a) (by omega), bind, Except.bind]
    simp [Ins.zero]
  · have := regOk_un ha; have := regOk_un hb; have := regOk_un hc; subst a b c v
    simp only [operandsOf]
    simp [Ins.zero]
end AsmM
namespace AsmM
set_option linter.unusedSimpArgs false
set_option linter.unusedVariables false
set_option linter.unusedSectionVars false

/-- A word as it is printed. -/
def Tok (s : Bytes) : Prop := s ≠ [] ∧ ∀ c ∈ s, c ≠ 32 ∧ c ≠ 59 ∧ c ≠ 10
theorem tok_dec (v : Int) : Tok (decI v) := ⟨dec_pos _, fun c hc => have := dig_ne (dec_dig _ c hc); ⟨this.1, this.2.1, this.2.2.1⟩⟩
theorem Tok.cons {c : UInt8} {s : Bytes} (hc : c ≠ 32 ∧ c ≠ 59 ∧ c ≠ 10) (h : Tok s) : Tok (c :: s) := ⟨by simp, fun d hd => by
  rcases List.mem_cons.1 hd with rfl | hd
  · exact hc
  · exact h.2 d hd⟩
theorem Tok.append {s t : Bytes} (h : Tok s) (ht : ∀ c ∈ t, c ≠ 32 ∧ c ≠ 59 ∧ c ≠ 10) : Tok (s ++ t) := ⟨by simp [h.1], fun d hd => by
  rcases List.mem_append.1 hd with hd | hd
  · exact h.2 d hd
  · exact ht d hd⟩
theorem tok_lab {p : UInt8} (hp : p = 112 ∨ p = 113) (n : Int) : Tok (lab p n) := Tok.cons (by rcases hp with rfl | rfl <;> decide) (tok_dec _)
theorem tok_reg (n : Int) : Tok (reg n) := Tok.cons (by decide) (tok_dec _)
theorem tok_shown {p : UInt8} (hp : p = 112 ∨ p = 113) (x : Ins) (k : Int) : Tok (shownP p x k) := by
  unfold shownP shown
  split
  · exact tok_lab hp _
  · repeat' split
    all_goals first
      | exact tok_reg _
      | exact tok_dec _
      | exact Tok.cons (by decide) (Tok.append (tok_dec _) (by decide))
      | exact Tok.cons (by decide) (Tok.append (tok_reg _) (by decide))
      | exact Tok.cons (by decide) (Tok.append (tok_reg _) (Tok.cons (by decide) (Tok.append (tok_dec _) (by decide))).2)
      | exact tok_lab (Or.inl rfl) _
theorem tok_mark (x : Ins) : Tok (33 :: decI x.m ++ tailW x.w) := by
  refine Tok.cons (by decide) (Tok.append (tok_dec _) ?_)
  unfold tailW
  repeat' split
  all_goals decide
theorem low_ne {c : UInt8} (h : isLow c = true) : c ≠ 32 ∧ c ≠ 59 ∧ c ≠ 10 ∧ c ≠ 58 := by
  refine ⟨?_, ?_, ?_, ?_⟩ <;> (rintro rfl; revert h; decide)
theorem tok_name {op : Int} (h1 : 1 ≤ op) (h2 : op ≤ 58) : Tok (nameOf op) := by
  obtain ⟨_, h, ha⟩ := name_op h1 h2
  exact ⟨h, fun c hc => by have := low_ne (List.all_eq_true.1 ha c hc); exact ⟨this.1, this.2.1, this.2.2.1⟩⟩
theorem toks_tok {p : UInt8} (hp : p = 112 ∨ p = 113) {x : Ins} (h1 : 1 ≤ x.op) (h2 : x.op ≤ 58) : ∀ s ∈ toksP p x, Tok s := by
  intro s hs
  unfold toksP at hs
  rcases List.mem_cons.1 hs with rfl | hs
  · exact tok_name h1 h2
  · rcases List.mem_append.1 hs with hs | hs
    · obtain ⟨k, _, rfl⟩ := List.mem_map.1 hs
      exact tok_shown hp x k
    · split at hs
      · cases hs
      · rw [List.mem_singleton.1 hs]; exact tok_mark x

theorem joinSp_mem {ws : List Bytes} {c : UInt8} (h : c ∈ joinSp ws) : c = 32 ∨ ∃ w ∈ ws, c ∈ w := by
  cases ws with
  | nil => cases h
  | cons w ws =>
    unfold joinSp at h
    rcases List.mem_append.1 h with h | h
    · exact .inr ⟨w, by simp, h⟩
    · obtain ⟨v, hv, hc⟩ := List.mem_flatMap.1 h
      rcases List.mem_cons.1 hc with rfl | hc
      · exact .inl rfl
      · exact .inr ⟨v, by simp [hv], hc⟩
theorem cut_joinSp : ∀ (ws : List Bytes) (w : Bytes), (∀ s ∈ w :: ws, Tok s) → cut [] (joinSp (w :: ws)) = w :: ws
  | [], w, h => by
    have := h w (by simp)
    simp only [joinSp, List.flatMap_nil, List.append_nil]
    rw [cut_word [] (fun c hc => (this.2 c hc).1) (by simpa using this.1)]; rfl
  | v :: ws, w, h => by
    have := h w (by simp)
    have e : joinSp (w :: v :: ws) = w ++ 32 :: joinSp (v :: ws) := by simp [joinSp]
    rw [e, cut_word_then [] _ (fun c hc => (this.2 c hc).1) (by simpa using this.1), cut_joinSp ws v (fun s hs => h s (by simp [List.mem_cons.1 hs]))]
    rfl
theorem words_joinSp {w : Bytes} {ws : List Bytes} (h : ∀ s ∈ w :: ws, Tok s) : words (joinSp (w :: ws)) = w :: ws := by
  unfold words
  rw [strip_clean, cut_joinSp ws w h]
  intro c hc
  rcases joinSp_mem hc with rfl | ⟨v, hv, hc⟩
  · decide
  · exact ((h v hv).2 c hc).2.1

/-- An instruction's line. -/
theorem line_ins {n : Int} {x : Ins} (hx : Fine n x) (hn : n ≤ 2048) (hv0 : 0 ≤ x.v) (hv : x.v < 18446744073709551616) {p : UInt8} (hp : p = 112 ∨ p = 113) (st : St) (i : Int) :
    line st (insLineP p x) i = .ok { st with l := st.l ++ [open_ x], wants := st.wants ++ wantsOf p st.l.length i x } := by
  have hops := operandsOf_ok hx hn hv0 hv hp st.l.length i st.wants
  obtain ⟨o1, o2, _, _, _, _, m1, m2, hw⟩ := hx
  have ht := toks_tok hp o1 o2
  obtain ⟨hop, hne, hlow⟩ := name_op o1 o2
  have hwd : words (insLineP p x) = toksP p x := words_joinSp ht
  unfold line
  rw [hwd]
  unfold toksP
  dsimp only
  have hnot : ¬ ((operands x.op).map (shownP p x) ++ (if x.m = 0 then [] else [33 :: decI x.m ++ tailW x.w]) = [] ∧ (nameOf x.op).getLast? = some 58) := by
    rintro ⟨_, h⟩
    have := List.mem_of_getLast? h
    exact (low_ne (List.all_eq_true.1 hlow _ this)).2.2.2 rfl
  rw [if_neg hnot]
  have hop0 : ¬ opOf (nameOf x.op) = 0 := by omega
  rw [if_neg hop0, hop]
  by_cases hm : x.m = 0
  · have hw0 : x.w = 0 := by omega
    rw [if_pos hm, List.append_nil]
    rw [if_neg (by simp), hops]
    simp only [bind, Except.bind]
    rw [if_neg (by simp)]
    have : ({ open_ x with m := 0, w := 0 } : Ins) = open_ x := by
      obtain ⟨op, a, b, c, v, m, w⟩ := x
      dsimp only at hm hw0
      subst hm hw0
      unfold open_
      split <;> rfl
    rw [this]
  · rw [if_neg hm]
    rw [if_neg (by simp)]
    have hdrop : operandsOf st.l.length i { Ins.zero with op := x.op } st.wants (operands x.op) ((operands x.op).map (shownP p x) ++ [33 :: decI x.m ++ tailW x.w]) = operandsOf st.l.length i { Ins.zero with op := x.op } st.wants (operands x.op) ((operands x.op).map (shownP p x)) := by
      have : ∀ (ks : List Int) (ss t : List Bytes) (y : Ins) (ws : List Want), ss.length = ks.length → operandsOf st.l.length i y ws ks (ss ++ t) = operandsOf st.l.length i y ws ks ss := by
        intro ks
        induction ks with
        | nil => intro ss t y ws _; cases ss <;> cases t <;> simp [operandsOf]
        | cons k ks ih =>
          intro ss t y ws h
          cases ss with
          | nil => simp at h
          | cons s ss =>
            simp only [List.cons_append, operandsOf]
            congr 1
            funext r
            exact ih ss t _ _ (by simpa using h)
      exact this _ _ _ _ _ (by simp)
    rw [hdrop, hops]
    simp only [bind, Except.bind]
    rw [if_pos (by simp)]
    simp only [List.getLast?_append, List.getLast?_singleton, Option.some_or, Option.getD_some]
    rw [mark_ok (by rfl) (by omega) m2 (by omega)]
    simp only
    have : ({ open_ x with m := x.m, w := x.w } : Ins) = open_ x := by
      unfold open_
      split <;> rfl
    rw [this]

/-- A label's line. -/
theorem line_label {p : UInt8} (hp : p = 112 ∨ p = 113) {n : Int} (hn : n < 2048) (st : St) (i : Int) (hnew : ∀ q ∈ st.labels, q.1 ≠ lab p n) :
    line st (lab p n ++ [58]) i = .ok { st with labels := st.labels ++ [(lab p n, (st.l.length : Int))], lines := st.lines ++ [i] } := by
  have hw : words (lab p n ++ [58]) = [lab p n ++ [58]] := by
    have := words_joinSp (w := lab p n ++ [58]) (ws := []) (by
      intro s hs
      rw [List.mem_singleton.1 hs]
      exact (tok_lab hp n).append (by decide))
    simpa [joinSp] using this
  unfold line
  rw [hw]
  dsimp only
  rw [if_pos (by simp), List.dropLast_concat]
  rw [if_neg]
  rintro (h | h)
  · obtain ⟨q, hq, he⟩ := List.any_eq_true.1 h
    exact hnew q hq (by simpa using he)
  · rw [named_lab hp hn] at h; cases h
end AsmM
namespace AsmM
set_option linter.unusedSimpArgs false
set_option linter.unusedVariables false
set_option linter.unusedSectionVars false

/-! ### A whole code, printed with labels that begin with p (112) or q (113) -/
def codeTextP (p : UInt8) (L : List Ins) : Int → List Ins → Bytes
  | _, [] => []
  | i, x :: r => (if goal L i then lab p i ++ [58, 10] else []) ++ (insLineP p x ++ [10]) ++ codeTextP p L (i + 1) r
theorem codeText_eq (L : List Ins) : ∀ (i : Int) (r : List Ins), codeText L i r = codeTextP 112 L i r
  | _, [] => rfl
  | i, x :: r => by rw [codeText, codeTextP, insText_eq, codeText_eq L (i + 1) r]; rfl
def codeLines (p : UInt8) (L : List Ins) : Int → List Ins → List Bytes
  | _, [] => []
  | i, x :: r => (if goal L i then [lab p i ++ [58]] else []) ++ (insLineP p x :: codeLines p L (i + 1) r)
def labs (p : UInt8) (off : Int) (L : List Ins) : Int → List Ins → List (Bytes × Int)
  | _, [] => []
  | i, _ :: r => (if goal L i then [(lab p i, off + i)] else []) ++ labs p off L (i + 1) r
def cores (p : UInt8) (off : Int) : Int → List Ins → List (Int × Bytes)
  | _, [] => []
  | i, x :: r => (if isJump x.op then [(off + i, lab p x.v)] else []) ++ cores p off (i + 1) r

theorem whole_line {a : Bytes} (h : ∀ c ∈ a, c ≠ 10) : Whole (a ++ [10]) [a] := fun r => by
  rw [List.append_assoc]
  have := splitNl_word [] r h
  simpa using this
theorem insLine_no10 {p : UInt8} (hp : p = 112 ∨ p = 113) {x : Ins} (h1 : 1 ≤ x.op) (h2 : x.op ≤ 58) : ∀ c ∈ insLineP p x, c ≠ 10 := by
  intro c hc
  rcases joinSp_mem hc with rfl | ⟨w, hw, hc⟩
  · decide
  · exact ((toks_tok hp h1 h2 w hw).2 c hc).2.2
theorem code_whole {p : UInt8} (hp : p = 112 ∨ p = 113) (L : List Ins) : ∀ (i : Int) (r : List Ins), (∀ x ∈ r, 1 ≤ x.op ∧ x.op ≤ 58) → Whole (codeTextP p L i r) (codeLines p L i r)
  | _, [], _ => Whole.nil
  | i, x :: r, h => by
    have hx := h x (by simp)
    have h1 := whole_line (insLine_no10 hp hx.1 hx.2)
    have h2 := code_whole hp L (i + 1) r fun y hy => h y (by simp [hy])
    unfold codeTextP codeLines
    have e : (if goal L i then [lab p i ++ [58]] else []) ++ (insLineP p x :: codeLines p L (i + 1) r) = (if goal L i then [lab p i ++ [58]] else []) ++ [insLineP p x] ++ codeLines p L (i + 1) r := by simp
    rw [e]
    refine Whole.append (Whole.append ?_ h1) h2
    split
    · have := whole_line (a := lab p i ++ [58]) (fun c hc => (((tok_lab hp i).append (t := [58]) (by decide)).2 c hc).2.2)
      simpa using this
    · exact Whole.nil

theorem dec_inj {a b : Nat} (h : dec a = dec b) : a = b := by
  induction a using Nat.strongRecOn generalizing b with
  | _ a ih =>
    have da := h
    unfold dec at da
    have key : ∀ k, k < 10 → (UInt8.ofNat (48 + k)).toNat = 48 + k := fun k hk => by
      simp; omega
    split at da <;> split at da
    · rename_i h1 h2
      have := congrArg UInt8.toNat (List.singleton_inj.1 da)
      rw [key a h1, key b h2] at this; omega
    · have := congrArg List.length da
      have hp := List.length_pos_iff.2 (dec_pos (b / 10))
      rw [List.length_append, List.length_singleton, List.length_singleton] at this; omega
    · have := congrArg List.length da
      have hp := List.length_pos_iff.2 (dec_pos (a / 10))
      rw [List.length_append, List.length_singleton, List.length_singleton] at this; omega
    · have h1 := List.append_inj' da rfl
      have h2 := ih (a / 10) (by omega) h1.1
      have := congrArg UInt8.toNat (List.singleton_inj.1 h1.2)
      rw [key _ (by omega), key _ (by omega)] at this; omega
theorem lab_inj {p : UInt8} {a b : Int} (ha : 0 ≤ a) (hb : 0 ≤ b) (h : lab p a = lab p b) : a = b := by
  unfold lab decI at h
  injection h with _ h
  have := dec_inj h
  omega

/-- Every instruction is one that may be in a code of n, and its V is a word. -/
def AllFine (n : Int) (r : List Ins) : Prop := ∀ x ∈ r, Fine n x ∧ 0 ≤ x.v ∧ x.v < 18446744073709551616

theorem runLines_code {p : UInt8} (hp : p = 112 ∨ p = 113) {n : Int} (hn : n ≤ 2048) (off : Int) (L : List Ins) : ∀ (r : List Ins) (i : Int) (st : St) (k : Int),
    AllFine n r → 0 ≤ i → i + r.length ≤ n → (st.l.length : Int) = off + i → (∀ q ∈ st.labels, ∀ j : Int, i ≤ j → q.1 ≠ lab p j) →
    ∃ lines wants, runLines (codeLines p L i r) k st = .ok ⟨st.l ++ r.map open_, st.labels ++ labs p off L i r, lines, wants⟩ ∧
      lines.length = st.lines.length + (labs p off L i r).length ∧ wants.map Want.core = st.wants.map Want.core ++ cores p off i r
  | [], i, st, k, _, _, _, _, _ => ⟨st.lines, st.wants, by simp [codeLines, runLines, labs], by simp [labs], by simp [cores]⟩
  | x :: r, i, st, k, hf, hi, hlen, hl, hnew => by
    obtain ⟨hx, hv0, hv⟩ := hf x (by simp)
    have hr : AllFine n r := fun y hy => hf y (by simp [hy])
    simp only [List.length_cons] at hlen
    unfold codeLines
    by_cases hg : goal L i = true
    · rw [if_pos hg]
      simp only [List.cons_append, List.nil_append, runLines]
      rw [line_label hp (by omega) st k (fun q hq => hnew q hq i (by omega))]
      simp only [bind, Except.bind]
      rw [line_ins hx hn hv0 hv hp]
      simp only
      have ih := runLines_code hp hn off L r (i + 1) ⟨st.l ++ [open_ x], st.labels ++ [(lab p i, (st.l.length : Int))], st.lines ++ [k], st.wants ++ wantsOf p st.l.length (k + 1) x⟩ (k + 1 + 1) hr (by omega) (by omega) (by simp; omega)
        (by
          intro q hq j hj
          rcases List.mem_append.1 hq with hq | hq
          · exact hnew q hq j (by omega)
          · rw [List.mem_singleton.1 hq]
            intro e
            have := lab_inj (by omega) (by omega) e
            omega)
      obtain ⟨lines, wants, h1, h2, h3⟩ := ih
      refine ⟨lines, wants, ?_, ?_, ?_⟩
      · rw [h1, hl]
        simp [labs, hg]
      · rw [h2]; simp [labs, hg]; omega
      · rw [h3, hl]
        rw [cores]
        unfold wantsOf
        split <;> simp [Want.core]
    · rw [if_neg hg]
      simp only [List.nil_append, runLines]
      rw [line_ins hx hn hv0 hv hp]
      simp only [bind, Except.bind]
      have ih := runLines_code hp hn off L r (i + 1) ⟨st.l ++ [open_ x], st.labels, st.lines, st.wants ++ wantsOf p st.l.length k x⟩ (k + 1) hr (by omega) (by omega) (by simp; omega)
        (fun q hq j hj => hnew q hq j (by omega))
      obtain ⟨lines, wants, h1, h2, h3⟩ := ih
      refine ⟨lines, wants, ?_, ?_, ?_⟩
      · rw [h1]
        simp [labs, hg]
      · rw [h2]; simp [labs, hg]
      · rw [h3, hl]
        rw [cores]
        unfold wantsOf
        split <;> simp [Want.core]

/-! ### Places -/
theorem find_append (a b : List (Bytes × Int)) (nm : Bytes) : find (a ++ b) nm = (find a nm).or (find b nm) := by
  unfold find
  rw [List.find?_append]
  cases a.find? (fun q => decide (q.1 = nm)) <;> simp
theorem find_other {a : List (Bytes × Int)} {nm : Bytes} (h : ∀ q ∈ a, q.1 ≠ nm) : find a nm = none := by
  unfold find
  rw [List.find?_eq_none.2 (by intro q hq; simpa using h q hq)]; rfl
theorem labs_name {p : UInt8} {off : Int} {L : List Ins} : ∀ {r : List Ins} {i : Int} {q : Bytes × Int}, q ∈ labs p off L i r → ∃ j, i ≤ j ∧ j < i + r.length ∧ q = (lab p j, off + j) ∧ goal L j = true
  | [], _, _, h => by cases h
  | x :: r, i, q, h => by
    unfold labs at h
    rcases List.mem_append.1 h with h | h
    · split at h
      · rename_i hg
        rw [List.mem_singleton.1 h]
        exact ⟨i, by omega, by simp; omega, rfl, hg⟩
      · cases h
    · obtain ⟨j, h1, h2, h3, h4⟩ := labs_name h
      exact ⟨j, by omega, by simp; omega, h3, h4⟩
theorem find_labs {p : UInt8} {off : Int} {L : List Ins} : ∀ {r : List Ins} {i t : Int}, 0 ≤ i → i ≤ t → t < i + r.length → goal L t = true → find (labs p off L i r) (lab p t) = some (off + t)
  | [], _, _, _, h1, h2, _ => by simp at h2; omega
  | x :: r, i, t, h0, h1, h2, hg => by
    simp only [List.length_cons] at h2
    unfold labs
    rw [find_append]
    by_cases e : i = t
    · subst e
      rw [if_pos hg]
      simp [find]
    · have : find (if goal L i then [(lab p i, off + i)] else []) (lab p t) = none := by
        refine find_other fun q hq => ?_
        split at hq
        · rw [List.mem_singleton.1 hq]
          exact fun h => e (lab_inj h0 (by omega) h)
        · cases hq
      rw [this, Option.none_or]
      exact find_labs (by omega) (by omega) (by omega) hg

def shift (k : Int) (x : Ins) : Ins := if isJump x.op then { x with v := k + x.v } else x
def wantsAt (p : UInt8) (off i : Int) (r : List Ins) : List Want := (cores p off i r).map fun c => ⟨c.1, 0, c.2⟩
theorem wantsAt_core (p : UInt8) (off i : Int) (r : List Ins) : (wantsAt p off i r).map Want.core = cores p off i r := by
  unfold wantsAt
  rw [List.map_map]
  conv => rhs; rw [← List.map_id (cores p off i r)]
  rfl
theorem setV_at (pre : List Ins) (y : Ins) (post : List Ins) (v : Int) : setV (pre ++ y :: post) pre.length v = pre ++ { y with v := v } :: post := by
  unfold setV
  rw [Int.toNat_natCast]
  induction pre with
  | nil => rfl
  | cons z pre ih => simp only [List.cons_append, List.length_cons, List.modify_succ_cons, ih]
theorem resolve_append (labels : List (Bytes × Int)) : ∀ (a b : List Want) (l : List Ins), resolve labels (a ++ b) l = (resolve labels a l >>= fun l' => resolve labels b l')
  | [], b, l => rfl
  | w :: a, b, l => by
    simp only [List.cons_append, resolve]
    split
    · rfl
    · exact resolve_append labels a b _
theorem resolve_code {p : UInt8} {off : Int} {labels : List (Bytes × Int)} : ∀ (r : List Ins) (i : Int) (pre post : List Ins), (pre.length : Int) = off + i →
    (∀ x ∈ r, isJump x.op = true → find labels (lab p x.v) = some (off + x.v)) →
    resolve labels (wantsAt p off i r) (pre ++ r.map open_ ++ post) = .ok (pre ++ r.map (shift off) ++ post)
  | [], _, pre, post, _, _ => by simp [wantsAt, cores, resolve]
  | x :: r, i, pre, post, hl, hf => by
    have ih := fun pre' (h : (pre'.length : Int) = off + (i + 1)) => resolve_code r (i + 1) pre' post h fun y hy => hf y (by simp [hy])
    by_cases hj : isJump x.op = true
    · have h1 := hf x (by simp) hj
      have e : wantsAt p off i (x :: r) = ⟨off + i, 0, lab p x.v⟩ :: wantsAt p off (i + 1) r := by simp [wantsAt, cores, hj]
      rw [e, resolve, h1]
      simp only
      have e2 : pre ++ (x :: r).map open_ ++ post = pre ++ open_ x :: (r.map open_ ++ post) := by simp
      rw [e2, ← hl, setV_at]
      have e3 : ({ open_ x with v := off + x.v } : Ins) = shift off x := by simp [open_, shift, hj]
      rw [e3]
      have := ih (pre ++ [shift off x]) (by simp; omega)
      simpa using this
    · have e : wantsAt p off i (x :: r) = wantsAt p off (i + 1) r := by simp [wantsAt, cores, hj]
      have e3 : open_ x = shift off x := by simp [open_, shift, hj]
      rw [e]
      have := ih (pre ++ [shift off x]) (by simp; omega)
      simpa [e3] using this
theorem lastLabel_ok (n : Int) : ∀ (ls : List (Bytes × Int)) (lines : List Int), (∀ q ∈ ls, q.2 ≠ n) → lastLabel n ls lines = .ok ()
  | [], _, _ => by simp [lastLabel]
  | _ :: _, [], _ => by simp [lastLabel]
  | (a, b) :: r, i :: s, h => by
    simp only [lastLabel]
    rw [if_neg (h (a, b) (by simp))]
    exact lastLabel_ok n r s fun q hq => h q (by simp [hq])

theorem fine_jump {n : Int} {x : Ins} (h : Fine n x) (hj : isJump x.op = true) : x.v < n :=
  (num_flags (x := x) (j := true) hj rfl rfl rfl h.v).1 rfl
theorem goal_of_jump {L : List Ins} {x : Ins} (hx : x ∈ L) (hj : isJump x.op = true) : goal L x.v = true := by
  unfold goal
  rw [List.any_eq_true]
  exact ⟨x, hx, by simp [hj]⟩

/-- Two codes, printed one behind the other, the second one's labels with another letter: read again. -/
theorem parse_two {a b : List Ins} (ha : AllFine a.length a) (hb : AllFine b.length b) (hn : a.length + b.length ≤ 2048)
    (ht : (codeTextP 112 a 0 a ++ codeTextP 113 b 0 b).length ≤ 65536) :
    parse (codeTextP 112 a 0 a ++ codeTextP 113 b 0 b) = .ok (a ++ b.map (shift a.length), labs 112 0 a 0 a ++ labs 113 a.length b 0 b) := by
  have wa := code_whole (p := 112) (Or.inl rfl) a 0 a (fun x hx => ⟨(ha x hx).1.op1, (ha x hx).1.op2⟩)
  have wb := code_whole (p := 113) (Or.inr rfl) b 0 b (fun x hx => ⟨(hb x hx).1.op1, (hb x hx).1.op2⟩)
  have hs := (wa.append wb) []
  rw [List.append_nil] at hs
  obtain ⟨l1, w1, h1, h2, h3⟩ := runLines_code (p := 112) (Or.inl rfl) (n := a.length) (by omega) 0 a a 0 ⟨[], [], [], []⟩ 0 ha (by omega) (by omega) (by simp) (by simp)
  simp only [List.nil_append, List.length_nil, List.map_nil, Nat.zero_add] at h1 h2 h3
  obtain ⟨l2, w2, h4, h5, h6⟩ := runLines_code (p := 113) (Or.inr rfl) (n := b.length) (by omega) a.length b b 0 ⟨a.map open_, labs 112 0 a 0 a, l1, w1⟩ (0 + (codeLines 112 a 0 a).length) hb (by omega) (by omega) (by simp)
    (by
      intro q hq j _
      obtain ⟨k, _, _, rfl, _⟩ := labs_name hq
      intro e
      unfold lab at e
      injection e with e _
      revert e; decide)
  simp only at h4 h5 h6
  unfold parse
  rw [if_neg (by omega), hs, runLines_append, runLines_append, h1]
  simp only [bind, Except.bind]
  rw [h4]
  simp only [splitNl]
  have hnil : ∀ k st, runLines [[]] k st = .ok st := by
    intro k st
    have : line st [] k = .ok st := by
      unfold line
      have : words [] = [] := by decide
      rw [this]
    simp [runLines, this, bind, Except.bind]
  rw [hnil]
  simp only
  unfold finish
  simp only
  -- the places
  have hcore : w2.map Want.core = (wantsAt 112 0 0 a ++ wantsAt 113 a.length 0 b).map Want.core := by
    rw [List.map_append, wantsAt_core, wantsAt_core, h6, h3]
  have hfa : ∀ x ∈ a, isJump x.op = true → find (labs 112 0 a 0 a ++ labs 113 a.length b 0 b) (lab 112 x.v) = some (0 + x.v) := by
    intro x hx hj
    have := fine_jump (ha x hx).1 hj
    rw [find_append, find_labs (by omega) (ha x hx).2.1 (by omega) (goal_of_jump hx hj)]
    rfl
  have hfb : ∀ x ∈ b, isJump x.op = true → find (labs 112 0 a 0 a ++ labs 113 a.length b 0 b) (lab 113 x.v) = some (a.length + x.v) := by
    intro x hx hj
    have := fine_jump (hb x hx).1 hj
    rw [find_append, find_other, find_labs (by omega) (hb x hx).2.1 (by omega) (goal_of_jump hx hj)]
    · rfl
    · intro q hq
      obtain ⟨k, _, _, rfl, _⟩ := labs_name hq
      intro e
      unfold lab at e
      injection e with e _
      revert e; decide
  have hres : resolve (labs 112 0 a 0 a ++ labs 113 a.length b 0 b) (wantsAt 112 0 0 a ++ wantsAt 113 a.length 0 b) (a.map open_ ++ b.map open_) = .ok (a ++ b.map (shift a.length)) := by
    rw [resolve_append]
    have r1 := resolve_code (p := 112) (off := 0) (labels := labs 112 0 a 0 a ++ labs 113 a.length b 0 b) a 0 [] (b.map open_) (by simp) hfa
    have r2 := resolve_code (p := 113) (off := a.length) (labels := labs 112 0 a 0 a ++ labs 113 a.length b 0 b) b 0 a [] (by simp) hfb
    have e0 : a.map (shift 0) = a := by
      have : ∀ x ∈ a, shift 0 x = x := fun x _ => by
        unfold shift
        split
        · rw [Int.zero_add]
        · rfl
      conv => rhs; rw [← List.map_id a]
      exact List.map_congr_left this
    simp only [List.nil_append, e0] at r1
    simp only [List.append_nil] at r2
    rw [r1]
    simp only [bind, Except.bind]
    exact r2
  have hb2 := resolve_both (labs 112 0 a 0 a ++ labs 113 a.length b 0 b) _ _ (a.map open_ ++ b.map open_) hcore
  rw [hres] at hb2
  cases hr : resolve (labs 112 0 a 0 a ++ labs 113 a.length b 0 b) w2 (a.map open_ ++ b.map open_) with
  | error e => rw [hr] at hb2; cases hb2
  | ok l =>
    rw [hr] at hb2
    cases hb2 with
    | ok e =>
      subst e
      simp only [bind, Except.bind]
      rw [if_neg (by simp; omega), lastLabel_ok]
      intro q hq
      rcases List.mem_append.1 hq with hq | hq
      · obtain ⟨k, _, hk, rfl, _⟩ := labs_name hq
        simp; omega
      · obtain ⟨k, _, hk, rfl, _⟩ := labs_name hq
        simp; omega
end AsmM
namespace AsmM
set_option linter.unusedSimpArgs false
set_option linter.unusedVariables false
set_option linter.unusedSectionVars false

/-- The second text's labels begin with q. -/
def ren : Bool → Bytes → Bytes
  | _, [] => []
  | b, c :: r => (if c = 112 ∧ b = true ∧ (r.head?.map isDig).getD false = true then 113 else c) :: ren (decide (c = 10 ∨ c = 32)) r
def renTok : Bytes → Bytes
  | c :: d :: r => if c = 112 ∧ isDig d = true then 113 :: d :: r else c :: d :: r
  | s => s

theorem ren_false : ∀ (s t : Bytes), (∀ c ∈ s, c ≠ 32 ∧ c ≠ 10) → ren false (s ++ t) = s ++ ren false t
  | [], t, _ => rfl
  | c :: s, t, h => by
    have hc := h c (by simp)
    simp only [List.cons_append, ren]
    rw [if_neg (by simp), show decide (c = 10 ∨ c = 32) = false by simp [hc.1, hc.2], ren_false s t fun d hd => h d (by simp [hd])]
theorem ren_tok {s : Bytes} (h : Tok s) {e : UInt8} (he : e = 10 ∨ e = 32) (r : Bytes) : ren true (s ++ e :: r) = renTok s ++ e :: ren true r := by
  have hend : ∀ b, ren b (e :: r) = e :: ren true r := by
    intro b
    have h1 : e ≠ 112 := by rcases he with rfl | rfl <;> decide
    simp only [ren]
    rw [if_neg (by simp [h1]), show decide (e = 10 ∨ e = 32) = true by simpa using he]
  obtain ⟨h0, hc⟩ := h
  cases s with
  | nil => exact (h0 rfl).elim
  | cons c s =>
    have h1 := hc c (by simp)
    have hs : ∀ d ∈ s, d ≠ 32 ∧ d ≠ 10 := fun d hd => ⟨(hc d (by simp [hd])).1, (hc d (by simp [hd])).2.2⟩
    simp only [List.cons_append, ren]
    rw [show decide (c = 10 ∨ c = 32) = false by simp [h1.1, h1.2.2], ren_false s _ hs, hend]
    cases s with
    | nil =>
      have : isDig e = false := by rcases he with rfl | rfl <;> decide
      simp [renTok, this]
    | cons d s =>
      simp only [renTok, List.cons_append, List.head?_cons, Option.map_some, Option.getD_some, true_and]
      split <;> rfl
theorem ren_join : ∀ (ws : List Bytes) (w : Bytes) (r : Bytes), (∀ s ∈ w :: ws, Tok s) → ren true (joinSp (w :: ws) ++ 10 :: r) = joinSp ((w :: ws).map renTok) ++ 10 :: ren true r
  | [], w, r, h => by
    simp only [joinSp, List.flatMap_nil, List.append_nil, List.map_cons, List.map_nil]
    exact ren_tok (h w (by simp)) (Or.inl rfl) r
  | v :: ws, w, r, h => by
    have e : ∀ (a b : Bytes) (ls : List Bytes), joinSp (a :: b :: ls) = a ++ 32 :: joinSp (b :: ls) := fun a b ls => by simp [joinSp]
    rw [e, List.append_assoc, List.cons_append, ren_tok (h w (by simp)) (Or.inr rfl), ren_join ws v r (fun s hs => h s (by simp [List.mem_cons.1 hs]))]
    simp only [List.map_cons]
    rw [e]
    simp

theorem renTok_other {c : UInt8} {s : Bytes} (h : c ≠ 112) : renTok (c :: s) = c :: s := by
  cases s with
  | nil => rfl
  | cons d s => simp [renTok, h]
theorem renTok_lab (n : Int) : renTok (lab 112 n) = lab 113 n := by
  unfold lab decI
  cases h : dec n.toNat with
  | nil => exact (dec_pos _ h).elim
  | cons d s =>
    have := dec_dig n.toNat d (by rw [h]; simp)
    simp [renTok, this]
theorem renTok_dec (n : Int) : renTok (decI n) = decI n := by
  unfold decI
  cases h : dec n.toNat with
  | nil => rfl
  | cons d s =>
    have := dec_dig n.toNat d (by rw [h]; simp)
    exact renTok_other (dig_ne this).2.2.2.2.2.2.2.2.2.2.2.1
theorem renTok_name {op : Int} (h1 : 1 ≤ op) (h2 : op ≤ 58) : renTok (nameOf op) = nameOf op := by
  have : ∀ k : Fin 58, renTok (nameOf ((k.val : Int) + 1)) = nameOf ((k.val : Int) + 1) := by decide +kernel
  obtain ⟨k, rfl⟩ : ∃ k : Nat, op = (k : Int) + 1 := ⟨(op - 1).toNat, by omega⟩
  exact this ⟨k, by omega⟩
theorem renTok_shown (x : Ins) (k : Int) : renTok (shownP 112 x k) = shownP 113 x k := by
  unfold shownP
  split
  · exact renTok_lab _
  · rename_i hk
    unfold shown
    have hr : ∀ n, renTok (reg n) = reg n := fun n => renTok_other (by decide)
    have hb : ∀ s, renTok (91 :: s) = 91 :: s := fun s => renTok_other (by decide)
    repeat' split
    all_goals first
      | exact hr _
      | exact renTok_dec _
      | exact hb _
      | (rename_i h; exact (hk h).elim)
theorem renTok_toks {x : Ins} (h1 : 1 ≤ x.op) (h2 : x.op ≤ 58) : (toksP 112 x).map renTok = toksP 113 x := by
  unfold toksP
  rw [List.map_cons, renTok_name h1 h2, List.map_append, List.map_map]
  congr 2
  · exact List.map_congr_left fun k _ => renTok_shown x k
  · split
    · rfl
    · exact congrArg (fun s => [s]) (renTok_other (by decide))
theorem ren_code (L : List Ins) : ∀ (i : Int) (r : List Ins), (∀ x ∈ r, 1 ≤ x.op ∧ x.op ≤ 58) → ren true (codeTextP 112 L i r) = codeTextP 113 L i r
  | _, [], _ => rfl
  | i, x :: r, h => by
    have hx := h x (by simp)
    have ih := ren_code L (i + 1) r fun y hy => h y (by simp [hy])
    have hl : ∀ t, ren true (insLineP 112 x ++ 10 :: t) = insLineP 113 x ++ 10 :: ren true t := fun t => by
      unfold insLineP
      have := ren_join ((operands x.op).map (shownP 112 x) ++ if x.m = 0 then [] else [33 :: decI x.m ++ tailW x.w]) (nameOf x.op) t (toks_tok (Or.inl rfl) hx.1 hx.2)
      rw [show nameOf x.op :: ((operands x.op).map (shownP 112 x) ++ if x.m = 0 then [] else [33 :: decI x.m ++ tailW x.w]) = toksP 112 x from rfl, renTok_toks hx.1 hx.2] at this
      exact this
    unfold codeTextP
    split
    · have e : ∀ p : UInt8, lab p i ++ [58, 10] ++ (insLineP p x ++ [10]) ++ codeTextP p L (i + 1) r = (lab p i ++ [58]) ++ 10 :: (insLineP p x ++ 10 :: codeTextP p L (i + 1) r) := fun p => by simp
      rw [e, e, ren_tok ((tok_lab (Or.inl rfl) i).append (by decide)) (Or.inl rfl), hl, ih]
      congr 1
      unfold lab
      have := renTok_lab i
      unfold lab decI at *
      cases h : dec i.toNat with
      | nil => exact (dec_pos _ h).elim
      | cons d s =>
        have hd := dec_dig i.toNat d (by rw [h]; simp)
        simp [renTok, hd]
    · have e : ∀ p : UInt8, ([] : Bytes) ++ (insLineP p x ++ [10]) ++ codeTextP p L (i + 1) r = insLineP p x ++ 10 :: codeTextP p L (i + 1) r := fun p => by simp
      rw [e, e, hl, ih]

/-! ### How long a text is -/
theorem decI_len {n : Int} (h : n < 18446744073709551616) : (decI n).length ≤ 20 := dec_len _ 19 (by omega)
theorem regOk_small {n : Int} {u l : Bool} (h : regOk n u l = true) : n < 32 := by
  unfold regOk at h
  simp only [Bool.or_eq_true, Bool.and_eq_true, decide_eq_true_eq] at h
  omega
theorem reg_len {n : Int} (h : n < 32) : (reg n).length ≤ 21 := by
  unfold reg; have := decI_len (n := n) (by omega); simp; omega
theorem shown_len {n : Int} {x : Ins} (hx : Fine n x) (hv : x.v < 18446744073709551616) (p : UInt8) (k : Int) : (shownP p x k).length ≤ 50 := by
  have ha := reg_len (regOk_small hx.a); have hb := reg_len (regOk_small hx.b); have hc := reg_len (regOk_small hx.c); have hd := decI_len hv
  unfold shownP shown lab
  repeat' split
  all_goals simp [spell]
  all_goals omega
theorem name_len {op : Int} (h1 : 1 ≤ op) (h2 : op ≤ 58) : (nameOf op).length ≤ 4 := by
  have : ∀ k : Fin 58, (nameOf ((k.val : Int) + 1)).length ≤ 4 := by decide +kernel
  obtain ⟨k, rfl⟩ : ∃ k : Nat, op = (k : Int) + 1 := ⟨(op - 1).toNat, by omega⟩
  exact this ⟨k, by omega⟩
theorem flat_len (m : Nat) : ∀ ws : List Bytes, (∀ w ∈ ws, w.length ≤ m) → (ws.flatMap (32 :: ·)).length ≤ ws.length * (m + 1)
  | [], _ => by simp
  | w :: ws, h => by
    have h1 := h w (by simp)
    have h2 := flat_len m ws fun v hv => h v (by simp [hv])
    simp only [List.flatMap_cons, List.length_append, List.length_cons, Nat.add_mul]
    omega
theorem insLine_len {n : Int} {x : Ins} (hx : Fine n x) (hv : x.v < 18446744073709551616) (p : UInt8) : (insLineP p x).length ≤ 300 := by
  have hn := name_len hx.op1 hx.op2
  have hops : (operands x.op).length ≤ 3 := by
    have := info_shape hx.op1 hx.op2
    have key : ∀ s ∈ shapes, s.1.length ≤ 3 := by decide
    exact key _ this
  have hm : (33 :: decI x.m ++ tailW x.w).length ≤ 50 := by
    have h1 := decI_len (n := x.m) (by have := hx.m2; omega)
    have h2 : (tailW x.w).length ≤ 2 := by unfold tailW; (repeat' split) <;> simp
    simp only [List.cons_append, List.length_cons, List.length_append]; omega
  unfold insLineP toksP joinSp
  rw [List.length_append]
  have := flat_len 50 ((operands x.op).map (shownP p x) ++ if x.m = 0 then [] else [33 :: decI x.m ++ tailW x.w]) (by
    intro w hw
    rcases List.mem_append.1 hw with hw | hw
    · obtain ⟨k, _, rfl⟩ := List.mem_map.1 hw
      exact shown_len hx hv p k
    · split at hw
      · cases hw
      · rw [List.mem_singleton.1 hw]; exact hm)
  have hl : ((operands x.op).map (shownP p x) ++ if x.m = 0 then [] else [33 :: decI x.m ++ tailW x.w]).length ≤ 4 := by
    rw [List.length_append, List.length_map]
    split <;> simp <;> omega
  have := Nat.mul_le_mul_right 51 hl
  omega
theorem code_len {n : Int} (hn : n ≤ 2048) (p : UInt8) (L : List Ins) : ∀ (i : Int) (r : List Ins), AllFine n r → i + r.length ≤ n → (codeTextP p L i r).length ≤ r.length * 400
  | _, [], _, _ => by simp [codeTextP]
  | i, x :: r, h, hi => by
    obtain ⟨h1, _, h2⟩ := h x (by simp)
    simp only [List.length_cons] at hi
    have h3 := insLine_len h1 h2 p
    have h4 := code_len hn p L (i + 1) r (fun y hy => h y (by simp [hy])) (by omega)
    have h5 := decI_len (n := i) (by omega)
    unfold codeTextP
    simp only [List.length_append, List.length_cons, List.length_nil, Nat.add_mul]
    have h6 : (if goal L i then lab p i ++ [58, 10] else []).length ≤ 23 := by
      split
      · simp [lab]; omega
      · simp
    omega
theorem labs_len (p : UInt8) (off : Int) (L : List Ins) : ∀ (r : List Ins) (i : Int), (labs p off L i r).length ≤ r.length
  | [], _ => by simp [labs]
  | x :: r, i => by
    have := labs_len p off L r (i + 1)
    unfold labs
    simp only [List.length_append, List.length_cons]
    split <;> simp <;> omega

/-! ### What print gives -/
theorem firstBad_none {n : Int} : ∀ {l : List Ins} {i : Int}, firstBad n l i = none → ∀ x ∈ l, valid n x = true
  | [], _, _ => by simp
  | x :: r, i, h => by
    unfold firstBad at h
    split at h
    · rename_i hv
      intro y hy
      rcases List.mem_cons.1 hy with rfl | hy
      · exact hv
      · exact firstBad_none h y hy
    · cases h
def Word64 (l : List Ins) : Prop := ∀ x ∈ l, 0 ≤ x.v ∧ x.v < 18446744073709551616
theorem print_ok {l : List Ins} {s : Bytes} (hw : Word64 l) (h : print l = .ok s) : l.length ≤ 2048 ∧ AllFine l.length l ∧ s = codeTextP 112 l 0 l := by
  unfold print at h
  split at h
  · cases h
  · split at h
    · cases h
    · rename_i hb
      injection h with h
      exact ⟨by omega, fun x hx => ⟨fine_of_valid (firstBad_none hb x hx), hw x hx⟩, by rw [← h, codeText_eq]⟩

/-- AsmBack: what is printed is read as the same instructions, its labels each at its place. -/
theorem back {l : List Ins} {s : Bytes} (hw : Word64 l) (h : print l = .ok s) (hs : s.length ≤ 65536) :
    parse s = .ok (l, labs 112 0 l 0 l) ∧ ∀ q ∈ labs 112 0 l 0 l, find (labs 112 0 l 0 l) q.1 = some q.2 ∧ 0 ≤ q.2 ∧ q.2 < l.length := by
  obtain ⟨h1, h2, rfl⟩ := print_ok hw h
  constructor
  · have := parse_two (a := l) (b := []) h2 (by intro x hx; cases hx) (by simpa using h1) (by simpa [codeTextP] using hs)
    simpa [codeTextP, labs] using this
  · intro q hq
    obtain ⟨j, j1, j2, rfl, j3⟩ := labs_name hq
    have := find_labs (p := 112) (off := 0) (L := l) (r := l) (i := 0) (t := j) (by omega) j1 j2 j3
    simp only
    exact ⟨this, by omega, by omega⟩

/-- AsmJoins. -/
theorem joins {a b : List Ins} {s t : Bytes} (ha : Word64 a) (hb : Word64 b) (h1 : print a = .ok s) (h2 : print b = .ok t) (la : a.length ≤ 40) (lb : b.length ≤ 40) :
    parse (s ++ ren true t) = .ok (a ++ b.map (shift a.length), labs 112 0 a 0 a ++ labs 113 a.length b 0 b) ∧ (labs 112 0 a 0 a ++ labs 113 a.length b 0 b).length < 90 := by
  obtain ⟨_, fa, rfl⟩ := print_ok ha h1
  obtain ⟨_, fb, rfl⟩ := print_ok hb h2
  rw [ren_code b 0 b fun x hx => ⟨(fb x hx).1.op1, (fb x hx).1.op2⟩]
  have c1 := code_len (by omega) 112 a 0 a fa (by omega)
  have c2 := code_len (by omega) 113 b 0 b fb (by omega)
  refine ⟨parse_two fa fb (by omega) (by rw [List.length_append]; omega), ?_⟩
  have := labs_len 112 0 a a 0
  have := labs_len 113 a.length b b 0
  rw [List.length_append]; omega
end AsmM
