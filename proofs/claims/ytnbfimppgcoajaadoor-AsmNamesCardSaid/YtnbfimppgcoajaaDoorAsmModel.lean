/- The plain model of the assembler: what asm.Parse and asm.Print compute, over lists of bytes and whole numbers. No program in sight. -/
namespace AsmM
set_option linter.unusedSimpArgs false
set_option linter.unusedVariables false
set_option linter.unusedSectionVars false

abbrev Bytes := List UInt8

structure Ins where
  op : Int
  a : Int
  b : Int
  c : Int
  v : Int
  m : Int
  w : Int
deriving DecidableEq, Inhabited

def Ins.zero : Ins := ⟨0, 0, 0, 0, 0, 0, 0⟩

/-- An error: the place in asm, the place in word behind it (none: it is asm's own), the kind. -/
structure Er where
  at_ : Int
  word : Option Int
  kind : Int
deriving DecidableEq

def isDig (c : UInt8) : Bool := 48 ≤ c && c ≤ 57
def isLow (c : UInt8) : Bool := 97 ≤ c && c ≤ 122

/-- A register's word. -/
def register : Bytes → Option Nat
  | [r, d] => if r = 114 ∧ isDig d then some (d.toNat - 48) else none
  | [r, d, e] => if r = 114 ∧ isDig d ∧ isDig e ∧ d ≠ 48 ∧ 10 * (d.toNat - 48) + (e.toNat - 48) < 32 then some (10 * (d.toNat - 48) + (e.toNat - 48)) else none
  | _ => none

def named (s : Bytes) : Bool :=
  1 ≤ s.length && s.length ≤ 16 && (s.head?.map isLow).getD false && s.all (fun c => isLow c || isDig c) && (register s).isNone

def nameList : List Bytes := [
  [115,101,116], [109,111,118], [97,100,100], [115,117,98], [97,110,100], [111,114], [120,111,114], [115,104,108], [115,104,114], [101,113], [108,116], [106,109,112], [106,122], [106,110,122], [106,115,114], [114,101,116], [108,100], [115,116], [115,119,112], [102,97,100], [99,97,115], [99,97,108,108],
  [104,115,104], [113,112,116], [113,116,107], [113,109,118], [113,104,115], [115,108,112], [104,110,100], [112,105,107], [108,97,121], [116,97,107], [105,110,106], [105,106,116], [114,117,110], [112,114,107], [115,108,102], [119,114,107], [119,107,100], [119,107,110], [110,111,119], [100,114,119], [103,101,116], [102,114,101], [111,98,106], [100,101,108], [99,107,112], [116,110,119], [116,115,116], [116,104,109], [116,106,110], [116,100,116], [116,101,120], [116,114,112], [101,110,100], [121,108,100], [99,98,107], [102,105,110]]

def opIn (s : Bytes) : List Bytes → Nat → Nat
  | [], _ => 0
  | n :: r, i => if n = s then i else opIn s r (i + 1)
/-- The number of a name; 0: it is none. -/
def opOf (s : Bytes) : Nat := opIn s nameList 1
def nameOf (op : Int) : Bytes := if 1 ≤ op then nameList.getD (op.toNat - 1) [] else []

def plain3 (op : Int) : Bool := 3 ≤ op && op ≤ 11
/-- Fields: a, b, c, v. -/
def fields (op : Int) : Bool × Bool × Bool × Bool :=
  if (3 ≤ op ∧ op ≤ 11) ∨ op = 21 ∨ op = 32 then (true, true, true, true)
  else if (24 ≤ op ∧ op ≤ 27) ∨ op = 48 then (true, true, true, false)
  else if op = 2 ∨ op = 23 ∨ op = 49 ∨ op = 50 ∨ op = 47 ∨ op = 39 ∨ op = 54 then (true, true, false, false)
  else if (17 ≤ op ∧ op ≤ 20) ∨ op = 31 ∨ op = 43 ∨ op = 45 then (true, true, false, true)
  else if op = 1 ∨ op = 13 ∨ op = 14 then (true, false, false, true)
  else if op = 12 ∨ op = 15 ∨ op = 22 then (false, false, false, true)
  else if (28 ≤ op ∧ op ≤ 30) ∨ (34 ≤ op ∧ op ≤ 38) ∨ (40 ≤ op ∧ op ≤ 42) ∨ op = 44 ∨ op = 46 ∨ (51 ≤ op ∧ op ≤ 53) ∨ op = 57 then (true, false, false, false)
  else (false, false, false, false)

/-- Kinds of operands: 1 A, 2 B, 3 C, 4 C or a number, 5 B or a number, 6 a cell, 7 a number, 8 a place, 9 a place or a number. -/
def operands (op : Int) : List Int :=
  if op = 1 then [1, 9]
  else if op = 13 ∨ op = 14 then [1, 8]
  else if op = 12 ∨ op = 15 then [8]
  else if op = 22 then [7]
  else if op = 43 then [1, 5]
  else if op = 45 then [1, 2, 7]
  else if op = 21 ∨ op = 32 then [1, 6, 3]
  else if (17 ≤ op ∧ op ≤ 20) ∨ op = 31 then [1, 6]
  else if 3 ≤ op ∧ op ≤ 11 then [1, 2, 4]
  else if (24 ≤ op ∧ op ≤ 27) ∨ op = 48 then [1, 2, 3]
  else if op = 2 ∨ op = 23 ∨ op = 49 ∨ op = 50 ∨ op = 47 ∨ op = 39 ∨ op = 54 then [1, 2]
  else if (28 ≤ op ∧ op ≤ 30) ∨ (34 ≤ op ∧ op ≤ 38) ∨ (40 ≤ op ∧ op ≤ 42) ∨ op = 44 ∨ op = 46 ∨ (51 ≤ op ∧ op ≤ 53) ∨ op = 57 then [1]
  else []

/-! ### Numbers -/
def digit (c : UInt8) (base : Nat) : Option Nat :=
  let d := if 48 ≤ c ∧ c ≤ 57 then c.toNat - 48 else if 97 ≤ c ∧ c ≤ 102 then c.toNat - 97 + 10 else if 65 ≤ c ∧ c ≤ 70 then c.toNat - 65 + 10 else 99
  if d < base then some d else none
/-- The digits from a place on: the number, or the place that is wrong. -/
def digits (base most frm : Nat) : Bytes → Nat → Nat → Except Nat Nat
  | [], _, v => .ok v
  | c :: r, i, v => match digit c base with
    | none => .error i
    | some d => if most ≤ i - frm ∨ (2 ^ 64 - 1 - d) / base < v then .error i else digits base most frm r (i + 1) (v * base + d)
def isHex (s : Bytes) : Bool := match s with
  | a :: b :: _ => a = 48 && b = 120
  | _ => false
/-- word.Parse. -/
def number (s : Bytes) : Except Nat Nat :=
  if isHex s then (if s.length = 2 then .error 2 else digits 16 16 2 (s.drop 2) 2 0)
  else if s.length = 0 then .error 0 else digits 10 20 0 s 0 0
def num (s : Bytes) (line : Int) : Except Er Int := match number s with
  | .ok v => .ok (v : Int)
  | .error i => .error ⟨line, some i, 6⟩

/-! ### Lines -/
def strip (s : Bytes) : Bytes := s.takeWhile (· ≠ 59)
def cut : Bytes → Bytes → List Bytes
  | cur, [] => if cur = [] then [] else [cur]
  | cur, c :: r => if c = 32 then (if cur = [] then cut [] r else cur :: cut [] r) else cut (cur ++ [c]) r
def words (s : Bytes) : List Bytes := cut [] (strip s)

structure Want where
  ins : Int
  line : Int
  name : Bytes
deriving DecidableEq

structure St where
  l : List Ins
  labels : List (Bytes × Int)
  lines : List Int
  wants : List Want
deriving DecidableEq

def bad (line : Int) : Er := ⟨line, none, 6⟩

def cellOf (x : Ins) (s : Bytes) (line : Int) : Except Er Ins :=
  if s.length < 2 ∨ s.head? ≠ some 91 ∨ s.getLast? ≠ some 93 then .error (bad line) else
  let t := s.tail.dropLast
  match register t with
  | some n => .ok { x with b := n }
  | none =>
    if t.contains 43 then
      match register (t.takeWhile (· ≠ 43)) with
      | none => .error (bad line)
      | some n => do .ok { x with b := n, v := ← num ((t.dropWhile (· ≠ 43)).tail) line }
    else do .ok { x with b := -1, v := ← num t line }

/-- A mark's end: what is told when, and what is left. -/
def ending (t : Bytes) (w : Int) : Int × Bytes := if [61, 48].isSuffixOf t then (1, t.take (t.length - 2)) else if [62, 48].isSuffixOf t then (2, t.take (t.length - 2)) else (w, t)
def mark (x : Ins) (s : Bytes) (line : Int) : Except Er Ins := do
  let v ← num (ending s.tail x.w).2 line
  if v < 1 ∨ 99 < v then .error (bad line) else .ok { x with m := v, w := (ending s.tail x.w).1 }

/-- An operand: the instruction behind it, and whether a name is wanted. -/
def operand (x : Ins) (kind : Int) (s : Bytes) (line : Int) : Except Er (Ins × Bool) :=
  if kind = 1 ∨ kind = 2 ∨ kind = 3 ∨ kind = 4 ∨ kind = 5 then
    match register s with
    | some n => .ok (if kind = 1 then { x with a := n } else if kind = 2 ∨ kind = 5 then { x with b := n } else { x with c := n }, false)
    | none =>
      if kind = 1 ∨ kind = 2 ∨ kind = 3 then .error (bad line)
      else do
        let v ← num s line
        .ok (if kind = 5 then { x with b := -1, v := v } else { x with c := -1, v := v }, false)
  else if kind = 7 then do .ok ({ x with v := ← num s line }, false)
  else if kind = 6 then do .ok (← cellOf x s line, false)
  else if named s then .ok (x, true)
  else if kind = 8 then .error (bad line)
  else do .ok ({ x with v := ← num s line }, false)

/-- The operands in order: the instruction, and what is wanted. -/
def operandsOf (at_ line : Int) : Ins → List Want → List Int → List Bytes → Except Er (Ins × List Want)
  | x, ws, [], _ => .ok (x, ws)
  | x, ws, _ :: _, [] => .ok (x, ws)
  | x, ws, k :: ks, s :: ss => do
    let (y, is) ← operand x k s line
    operandsOf at_ line y (if is then ws ++ [⟨at_, line, s⟩] else ws) ks ss

def line (st : St) (s : Bytes) (n : Int) : Except Er St :=
  match words s with
  | [] => .ok st
  | w :: ws =>
    if ws = [] ∧ w.getLast? = some 58 then
      let nm := w.dropLast
      if (st.labels.any (·.1 = nm)) ∨ named nm = false then .error (bad n)
      else .ok { st with labels := st.labels ++ [(nm, (st.l.length : Int))], lines := st.lines ++ [n] }
    else
      let op := opOf w
      if op = 0 then .error (bad n) else
      let ks := operands op
      if ws.length ≠ ks.length ∧ (ws.length ≠ ks.length + 1 ∨ (ws.getLast?.bind (·.head?)) ≠ some 33) then .error (bad n) else do
      let (x, wants) ← operandsOf st.l.length n { Ins.zero with op := op } st.wants ks ws
      let y ← if ks.length < ws.length then mark x ((ws.getLast?).getD []) n else .ok x
      .ok { st with l := st.l ++ [y], wants := wants }

def runLines : List Bytes → Int → St → Except Er St
  | [], _, st => .ok st
  | s :: r, n, st => do runLines r (n + 1) (← line st s n)

def splitNl : Bytes → Bytes → List Bytes
  | cur, [] => [cur]
  | cur, c :: r => if c = 10 then cur :: splitNl [] r else splitNl (cur ++ [c]) r

def find (labels : List (Bytes × Int)) (name : Bytes) : Option Int := (labels.find? (·.1 = name)).map (·.2)

def setV (l : List Ins) (i : Int) (v : Int) : List Ins := l.modify i.toNat fun x => { x with v := v }
def resolve (labels : List (Bytes × Int)) : List Want → List Ins → Except Er (List Ins)
  | [], l => .ok l
  | w :: ws, l => match find labels w.name with
    | none => .error ⟨w.line, none, 7⟩
    | some at_ => resolve labels ws (setV l w.ins at_)

def lastLabel (n : Int) : List (Bytes × Int) → List Int → Except Er Unit
  | (_, at_) :: r, i :: s => if at_ = n then .error (bad i) else lastLabel n r s
  | _, _ => .ok ()

def finish (st : St) : Except Er (List Ins × List (Bytes × Int)) := do
  let l ← resolve st.labels st.wants st.l
  if l.length > 2048 then .error ⟨0, none, 3⟩ else do
  lastLabel l.length st.labels st.lines
  .ok (l, st.labels)

def parse (text : Bytes) : Except Er (List Ins × List (Bytes × Int)) :=
  if text.length > 65536 then .error ⟨0, none, 3⟩ else do finish (← runLines (splitNl [] text) 0 ⟨[], [], [], []⟩)

/-! ### Printing -/
def dec (n : Nat) : Bytes := if n < 10 then [UInt8.ofNat (48 + n)] else dec (n / 10) ++ [UInt8.ofNat (48 + n % 10)]
def decI (n : Int) : Bytes := dec n.toNat
def reg (n : Int) : Bytes := 114 :: decI n
def spell (n : Int) : Bytes := 112 :: decI n
def shown (x : Ins) (k : Int) : Bytes :=
  if k = 1 then reg x.a
  else if k = 2 then reg x.b
  else if k = 3 then reg x.c
  else if k = 5 then (if x.b = -1 then decI x.v else reg x.b)
  else if k = 4 then (if x.c = -1 then decI x.v else reg x.c)
  else if k = 6 then (if x.b = -1 then 91 :: decI x.v ++ [93] else if x.v = 0 then 91 :: reg x.b ++ [93] else 91 :: reg x.b ++ (43 :: decI x.v ++ [93]))
  else if k = 8 then spell x.v
  else decI x.v
def tailW (w : Int) : Bytes := if w = 1 then [61, 48] else if w = 2 then [62, 48] else []
def marked (x : Ins) : Bytes := if x.m = 0 then [] else 32 :: (33 :: decI x.m ++ tailW x.w)
def insText (x : Ins) : Bytes := nameOf x.op ++ (operands x.op).flatMap (fun k => 32 :: shown x k) ++ marked x ++ [10]

def regOk (n : Int) (used less : Bool) : Bool := (used && decide (0 ≤ n) && decide (n < 32)) || (used && less && decide (n = -1)) || (!used && decide (n = 0))
def numOk (x : Ins) (used : Bool) (n : Int) : Bool :=
  if x.op = 12 ∨ x.op = 13 ∨ x.op = 14 ∨ x.op = 15 then decide (x.v < n)
  else if x.op = 22 then decide (x.v < 1000)
  else if 3 ≤ x.op ∧ x.op ≤ 11 then decide (x.c = -1) || decide (x.v = 0)
  else if x.op = 43 then decide (x.b = -1) || decide (x.v = 0)
  else used || decide (x.v = 0)
def lessB (op : Int) : Bool := decide ((17 ≤ op ∧ op ≤ 21) ∨ op = 31 ∨ op = 32 ∨ op = 43)
def lessC (op : Int) : Bool := decide (3 ≤ op ∧ op ≤ 11)
def may (x : Ins) (n : Int) (library : Bool) : Bool :=
  if x.op < 1 ∨ 58 < x.op ∨ (library = true ∧ x.op = 22) ∨ (library = false ∧ (22 < x.op ∨ x.m ≠ 0)) then false else
  let (a, b, c, v) := fields x.op
  if (regOk x.a a false && regOk x.b b (lessB x.op) && regOk x.c c (lessC x.op) && numOk x v n) = false then false else
  decide (0 ≤ x.m) && decide (x.m ≤ 99) && decide (0 ≤ x.w) && decide (x.w ≤ 2) && (decide (x.w = 0) || (decide (0 < x.m) && a))
def lib (x : Ins) : Bool := decide (22 < x.op ∨ x.m ≠ 0)
def valid (n : Int) (x : Ins) : Bool := may x n (lib x)
def isJump (op : Int) : Bool := decide (op = 12 ∨ op = 13 ∨ op = 14 ∨ op = 15)
def goal (l : List Ins) (i : Int) : Bool := l.any fun x => isJump x.op && decide (x.v = i)
def codeText (l : List Ins) : Int → List Ins → Bytes
  | _, [] => []
  | i, x :: r => (if goal l i then spell i ++ [58, 10] else []) ++ insText x ++ codeText l (i + 1) r
def firstBad (n : Int) : List Ins → Int → Option Int
  | [], _ => none
  | x :: r, i => if valid n x then firstBad n r (i + 1) else some i
def print (l : List Ins) : Except Er Bytes :=
  if l.length > 2048 then .error ⟨0, none, 3⟩ else
  match firstBad l.length l 0 with
  | some i => .error ⟨i, none, 5⟩
  | none => .ok (codeText l 0 l)
end AsmM
