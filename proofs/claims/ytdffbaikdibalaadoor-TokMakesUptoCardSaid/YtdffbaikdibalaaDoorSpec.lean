/- What the functions of package tok compute, as plain Lean functions on lists of bytes. No program in sight. -/
import Derived.Lib.Index
import Derived.Lib.ParseIntB
namespace Go.Proofs.YtdffbaikdibalaaDoor.T
set_option linter.unusedVariables false
set_option linter.unusedSimpArgs false

abbrev Bs := List UInt8
def blankB (c : Int) : Bool := c == 9 || c == 13 || c == 32
def digitB (c : Int) : Bool := decide (48 ≤ c) && decide (c ≤ 57)
def wordB (c : Int) : Bool := (decide (97 ≤ c) && decide (c ≤ 122)) || (decide (65 ≤ c) && decide (c ≤ 90)) || digitB c || c == 45 || c == 95 || c == 46 || c == 58

/-- How many bytes stand ahead of the line's end. -/
def lineEnd : Bs → Nat
  | [] => 0
  | c :: r => if c = 10 then 0 else lineEnd r + 1

/-- How many bytes of blanks and remarks stand ahead; is a remark open there? -/
def skipL : Bs → Nat × Bool
  | [] => (0, false)
  | c :: r =>
    if blankB c.toNat then ((skipL r).1 + 1, (skipL r).2)
    else if Lib.hasPrefix (c :: r) [47, 47] then ((skipL (r.drop (lineEnd r))).1 + (lineEnd r + 1), (skipL (r.drop (lineEnd r))).2)
    else if Lib.hasPrefix (c :: r) [47, 42] then
      if Lib.index (r.drop 1) [42, 47] < 0 then (0, true)
      else ((skipL (r.drop ((Lib.index (r.drop 1) [42, 47]).toNat + 3))).1 + ((Lib.index (r.drop 1) [42, 47]).toNat + 4), (skipL (r.drop ((Lib.index (r.drop 1) [42, 47]).toNat + 3))).2)
    else (0, false)
  termination_by l => l.length
  decreasing_by all_goals (simp only [List.length_cons, List.length_drop]; omega)

/-- How a quoted text ends: the text and how many bytes it took, its last sign too; or a fault and where ('none': where it was opened). -/
inductive QR where
  | ok (t : Bs) (n : Nat)
  | bad (code : Nat) (at_ : Option Nat)
def QR.cons (e : UInt8) (n : Nat) : QR → QR
  | .ok t m => .ok (e :: t) (m + n)
  | .bad c (some k) => .bad c (some (k + n))
  | .bad c .none => .bad c .none
def escL (d : UInt8) : Option UInt8 := if d = 34 then some 34 else if d = 92 then some 92 else if d = 110 then some 10 else if d = 116 then some 9 else none
def quoteL : Bs → QR
  | [] => .bad 71 none
  | c :: r =>
    if c = 34 then .ok [] 1
    else if c = 92 then
      match r with
      | [] => .bad 71 none
      | d :: r' => match escL d with
        | none => .bad 72 (some 0)
        | some e => (quoteL r').cons e 2
    else if c.toNat < 32 ∨ c = 127 then .bad 70 (some 0)
    else (quoteL r).cons c 1

/-- How many bytes of a kind stand ahead. -/
def whileL (p : Int → Bool) : Bs → Nat
  | [] => 0
  | c :: r => if p c.toNat then whileL p r + 1 else 0
def headB (l : Bs) : Int := match l with | [] => 0 | c :: _ => c.toNat

/-- A token: its kind, text, number, and how many bytes it takes beyond the first; or a fault and how far from its first byte. -/
inductive TR where
  | ok (kind : Nat) (t : Bs) (v : Int) (m : Nat)
  | bad (code : Nat) (k : Nat)
def tokenL (c : UInt8) (r : Bs) : TR :=
  if c = 10 ∨ c = 59 then .ok 5 [c] 0 0
  else if c = 123 ∨ c = 125 ∨ c = 61 then .ok 4 [c] 0 0
  else if c = 34 then match quoteL r with
    | .ok t n => .ok 2 t 0 n
    | .bad code .none => .bad code 0
    | .bad code (some k) => .bad code (k + 1)
  else if digitB c.toNat || (c == 45 && digitB (headB r)) then
    match Lib.parseIntB 64 (c :: r.take (whileL digitB r)) with
    | .ok v => if wordB (headB (r.drop (whileL digitB r))) then .bad 73 0 else .ok 3 (c :: r.take (whileL digitB r)) v (whileL digitB r)
    | _ => .bad 73 0
  else if wordB c.toNat then .ok 1 (c :: r.take (whileL wordB r)) 0 (whileL wordB r)
  else .bad 70 0

structure Tok where
  kind : Int
  text : ByteArray
  int : Int
  at_ : Int
/-- A text's tokens, or the fault and its place. -/
def tokensL (at_ : Nat) (l : Bs) : Except (Nat × Nat) (List Tok) :=
  if (skipL l).2 then .error (71, at_ + (skipL l).1)
  else match h : l.drop (skipL l).1 with
    | [] => .ok []
    | c :: r => match tokenL c r with
      | .bad code k => .error (code, at_ + (skipL l).1 + k)
      | .ok kind t v m => match tokensL (at_ + (skipL l).1 + (m + 1)) (r.drop m) with
        | .error e => .error e
        | .ok ts => .ok (⟨kind, ⟨t.toArray⟩, v, (at_ + (skipL l).1 : Nat)⟩ :: ts)
  termination_by l.length
  decreasing_by
    have := congrArg List.length h
    simp only [List.length_drop, List.length_cons] at this
    simp only [List.length_drop]
    omega
end Go.Proofs.YtdffbaikdibalaaDoor.T
