/- What package jot computes, in plain Lean: JSON read byte by byte by a machine with a stack (no program in sight). Conditions: none. -/
namespace Go.Proofs.YthgcnmdnjfajbaaGreatDoor.Jot

abbrev Bs := List UInt8

/-- A value as it is read. -/
inductive JV where
  | null
  | truth (b : Bool)
  | num (n : Int)
  | text (s : Bs)
  | list (l : List JV)
  | obj (l : List (Bs × JV))
  deriving Inhabited

/-- What can be wrong (the numbers of api.Errno). -/
abbrev Err := Nat
def eForm : Err := 40
def eDeep : Err := 41
def eName : Err := 42
def eValue : Err := 43
def eLong : Err := 44

def maxNumber : Nat := 9007199254740991
def maxDeep : Nat := 16
def maxJot : Nat := 4000

/-- What stands open around a value. -/
inductive Fr where
  | arr (items : List JV)
  | obj (mem : List (Bs × JV))
  | objv (mem : List (Bs × JV)) (name : Bs)

inductive TM where
  | plain
  | cont (lo hi more : Nat)
  | esc
  | hex (j n : Nat)
  | sur1 (n : Nat)
  | sur2 (n : Nat)
  | low (j n m : Nat)

inductive Mode where
  | val
  | arr0
  | obj0
  | key
  | colon
  | after (v : JV)
  | word (rest : Bs) (v : JV)
  | minus
  | num (neg : Bool) (n : Nat)
  | text (key : Bool) (t : TM) (acc : Bs)

structure St where
  mode : Mode
  stack : List Fr

inductive Step where
  | go (s : St)
  | bad (e : Err)

def isBlank (c : UInt8) : Bool := c == 32 || c == 9 || c == 10 || c == 13
def isDigit (c : UInt8) : Bool := 48 ≤ c && c ≤ 57
def dig (c : UInt8) : Nat := c.toNat - 48

def hexDigit (c : UInt8) : Option Nat :=
  if 48 ≤ c ∧ c ≤ 57 then some (c.toNat - 48)
  else if 97 ≤ c ∧ c ≤ 102 then some (c.toNat - 87)
  else if 65 ≤ c ∧ c ≤ 70 then some (c.toNat - 55)
  else none

/-- The bytes of the letter of a number. -/
def utf8 (n : Nat) : Bs :=
  if n < 0x80 then [UInt8.ofNat n]
  else if n < 0x800 then [UInt8.ofNat (0xc0 + n / 64), UInt8.ofNat (0x80 + n % 64)]
  else if n < 0x10000 then [UInt8.ofNat (0xe0 + n / 4096), UInt8.ofNat (0x80 + n / 64 % 64), UInt8.ofNat (0x80 + n % 64)]
  else [UInt8.ofNat (0xf0 + n / 262144), UInt8.ofNat (0x80 + n / 4096 % 64), UInt8.ofNat (0x80 + n / 64 % 64), UInt8.ofNat (0x80 + n % 64)]

/-- Behind a first byte: between which two bytes the second one stands, and how many stand behind that. -/
def lead (c : UInt8) : Option (Nat × Nat × Nat) :=
  if c < 0xc2 then none
  else if c < 0xe0 then some (0x80, 0xbf, 0)
  else if c = 0xe0 then some (0xa0, 0xbf, 1)
  else if c = 0xed then some (0x80, 0x9f, 1)
  else if c < 0xf0 then some (0x80, 0xbf, 1)
  else if c = 0xf0 then some (0x90, 0xbf, 2)
  else if c < 0xf4 then some (0x80, 0xbf, 2)
  else if c = 0xf4 then some (0x80, 0x8f, 2)
  else none

/-- Names compared as Go compares strings. -/
def bsLt : Bs → Bs → Bool
  | [], [] => false
  | [], _ :: _ => true
  | _ :: _, [] => false
  | a :: l, b :: r => if a < b then true else if b < a then false else bsLt l r

/-- A member put in its place among others. -/
def insMem (x : Bs × JV) : List (Bs × JV) → List (Bs × JV)
  | [] => [x]
  | y :: r => if bsLt y.1 x.1 then y :: insMem x r else x :: y :: r

def sortMem (l : List (Bs × JV)) : List (Bs × JV) := l.foldl (fun acc x => insMem x acc) []

def escByte (c : UInt8) : Option UInt8 :=
  if c = 34 ∨ c = 92 ∨ c = 47 then some c
  else if c = 98 then some 8
  else if c = 102 then some 12
  else if c = 110 then some 10
  else if c = 114 then some 13
  else if c = 116 then some 9
  else none

/-- The names that the object which stands open has. -/
def names : List Fr → List Bs
  | .obj m :: _ => m.map (·.1)
  | _ => []

/-- A whole value, and the byte behind it. -/
def dAfter (v : JV) (c : UInt8) (k : List Fr) : Step :=
  if isBlank c then .go ⟨.after v, k⟩
  else match k with
    | .arr items :: r =>
      if c = 44 then .go ⟨.val, .arr (items ++ [v]) :: r⟩
      else if c = 93 then .go ⟨.after (.list (items ++ [v])), r⟩
      else .bad eForm
    | .objv mem name :: r =>
      if c = 44 then .go ⟨.key, .obj (mem ++ [(name, v)]) :: r⟩
      else if c = 125 then .go ⟨.after (.obj (sortMem (mem ++ [(name, v)]))), r⟩
      else .bad eForm
    | _ => .bad eForm

def dVal (c : UInt8) (k : List Fr) : Step :=
  if isBlank c then .go ⟨.val, k⟩
  else if c = 110 then .go ⟨.word [117, 108, 108] .null, k⟩
  else if c = 102 then .go ⟨.word [97, 108, 115, 101] (.truth false), k⟩
  else if c = 116 then .go ⟨.word [114, 117, 101] (.truth true), k⟩
  else if c = 34 then .go ⟨.text false .plain [], k⟩
  else if c = 91 then (if k.length = maxDeep then .bad eDeep else .go ⟨.arr0, .arr [] :: k⟩)
  else if c = 123 then (if k.length = maxDeep then .bad eDeep else .go ⟨.obj0, .obj [] :: k⟩)
  else if c = 45 then .go ⟨.minus, k⟩
  else if c = 48 then .go ⟨.after (.num 0), k⟩
  else if isDigit c then .go ⟨.num false (dig c), k⟩
  else .bad eForm

def dText (key : Bool) (t : TM) (acc : Bs) (c : UInt8) (k : List Fr) : Step :=
  match t with
  | .plain =>
    if c = 34 then
      (if key then
        (match k with
          | .obj mem :: r => if acc ∈ mem.map (·.1) then .bad eName else .go ⟨.colon, .objv mem acc :: r⟩
          | _ => .bad eForm)
      else .go ⟨.after (.text acc), k⟩)
    else if c = 92 then .go ⟨.text key .esc acc, k⟩
    else if c < 32 then .bad eForm
    else if c < 128 then .go ⟨.text key .plain (acc ++ [c]), k⟩
    else match lead c with
      | some (lo, hi, more) => .go ⟨.text key (.cont lo hi more) (acc ++ [c]), k⟩
      | none => .bad eForm
  | .cont lo hi more =>
    if lo ≤ c.toNat ∧ c.toNat ≤ hi then
      (match more with
        | 0 => .go ⟨.text key .plain (acc ++ [c]), k⟩
        | m + 1 => .go ⟨.text key (.cont 0x80 0xbf m) (acc ++ [c]), k⟩)
    else .bad eForm
  | .esc =>
    if c = 117 then .go ⟨.text key (.hex 0 0) acc, k⟩
    else match escByte c with
      | some b => .go ⟨.text key .plain (acc ++ [b]), k⟩
      | none => .bad eForm
  | .hex j n =>
    match hexDigit c with
    | none => .bad eForm
    | some d =>
      if j = 1 ∧ n = 13 ∧ 12 ≤ d then .bad eForm
      else if j < 3 then .go ⟨.text key (.hex (j + 1) (16 * n + d)) acc, k⟩
      else if 0xd800 ≤ 16 * n + d ∧ 16 * n + d ≤ 0xdbff then .go ⟨.text key (.sur1 (16 * n + d)) acc, k⟩
      else .go ⟨.text key .plain (acc ++ utf8 (16 * n + d)), k⟩
  | .sur1 n => if c = 92 then .go ⟨.text key (.sur2 n) acc, k⟩ else .bad eForm
  | .sur2 n => if c = 117 then .go ⟨.text key (.low 0 n 0) acc, k⟩ else .bad eForm
  | .low j n m =>
    match hexDigit c with
    | none => .bad eForm
    | some d =>
      if (j = 0 ∧ d ≠ 13) ∨ (j = 1 ∧ d < 12) then .bad eForm
      else if j < 3 then .go ⟨.text key (.low (j + 1) n (16 * m + d)) acc, k⟩
      else .go ⟨.text key .plain (acc ++ utf8 (65536 + 1024 * (n - 0xd800) + (16 * m + d - 0xdc00))), k⟩

def signed (neg : Bool) (n : Nat) : Int := if neg then -(n : Int) else n

def δ (s : St) (c : UInt8) : Step :=
  match s.mode with
  | .val => dVal c s.stack
  | .arr0 =>
    if isBlank c then .go ⟨.arr0, s.stack⟩
    else if c = 93 then .go ⟨.after (.list []), s.stack.tail⟩
    else dVal c s.stack
  | .obj0 =>
    if isBlank c then .go ⟨.obj0, s.stack⟩
    else if c = 125 then .go ⟨.after (.obj []), s.stack.tail⟩
    else if c = 34 then .go ⟨.text true .plain [], s.stack⟩
    else .bad eForm
  | .key =>
    if isBlank c then .go ⟨.key, s.stack⟩
    else if c = 34 then .go ⟨.text true .plain [], s.stack⟩
    else .bad eForm
  | .colon =>
    if isBlank c then .go ⟨.colon, s.stack⟩
    else if c = 58 then .go ⟨.val, s.stack⟩
    else .bad eForm
  | .after v => dAfter v c s.stack
  | .word [] v => dAfter v c s.stack
  | .word (x :: r) v =>
    if c = x then (if r = [] then .go ⟨.after v, s.stack⟩ else .go ⟨.word r v, s.stack⟩) else .bad eForm
  | .minus =>
    if c = 48 then .go ⟨.after (.num 0), s.stack⟩
    else if isDigit c then .go ⟨.num true (dig c), s.stack⟩
    else .bad eForm
  | .num neg n =>
    if isDigit c then
      (if maxNumber < 10 * n + dig c then .bad eValue else .go ⟨.num neg (10 * n + dig c), s.stack⟩)
    else dAfter (.num (signed neg n)) c s.stack
  | .text key t acc => dText key t acc c s.stack

inductive Res where
  | ok (v : JV)
  | bad (e : Err) (at_ : Nat)
  deriving Inhabited

/-- The text ends here. -/
def eof (s : St) (p : Nat) : Res :=
  match s.mode, s.stack with
  | .after v, [] => .ok v
  | .word [] v, [] => .ok v
  | .num neg n, [] => .ok (.num (signed neg n))
  | _, _ => .bad eForm p

def run : St → Bs → Nat → Res
  | s, [], p => eof s p
  | s, c :: t, p =>
    match δ s c with
    | .go s' => run s' t (p + 1)
    | .bad e => .bad e p

/-- From the byte i of a text on. -/
def R (l : Bs) (i : Nat) (s : St) : Res := run s (l.drop i) i

def start : St := ⟨.val, []⟩

/-- What a text says, of any length. -/
def readS (l : Bs) : Res := R l 0 start

theorem R_at {l : Bs} {i : Nat} {c : UInt8} (h : l[i]? = some c) (s : St) :
    R l i s = match δ s c with | .go s' => R l (i + 1) s' | .bad e => .bad e i := by
  obtain ⟨hi, hc⟩ := List.getElem?_eq_some_iff.1 h
  unfold R
  rw [List.drop_eq_getElem_cons hi, hc]
  rfl

theorem R_end {l : Bs} {i : Nat} (h : l.length ≤ i) (s : St) : R l i s = eof s i := by
  unfold R
  rw [List.drop_eq_nil_of_le h]
  rfl

theorem R_go {l : Bs} {i : Nat} {c : UInt8} {s s' : St} (h : l[i]? = some c) (hd : δ s c = .go s') : R l i s = R l (i + 1) s' := by
  rw [R_at h, hd]

theorem R_bad {l : Bs} {i : Nat} {c : UInt8} {s : St} {e : Err} (h : l[i]? = some c) (hd : δ s c = .bad e) : R l i s = .bad e i := by
  rw [R_at h, hd]

end Go.Proofs.YthgcnmdnjfajbaaGreatDoor.Jot
