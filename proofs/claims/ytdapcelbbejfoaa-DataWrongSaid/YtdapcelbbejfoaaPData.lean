/- Layers 12, 13 in plain Lean: declarations and scopes. -/
import Derived.Test.YtdapcelbbejfoaaPDef
set_option linter.unusedVariables false
namespace Go.Am.Ps

def sInt : Str := [73, 110, 116]
def sBool : Str := [66, 111, 111, 108]
def sComma : Str := [44]

/-- the first declaration of a name -/
def findD (s : Str) : List Da → Option Da
  | [] => none
  | d :: l => match eqS d.s s with | true => some d | false => findD s l

/-- how many kids a type's name has; below 0: there is none -/
def arity (l : List Da) (s : Str) : Int :=
  match eqS s sInt || eqS s sBool with
  | true => 0
  | false => match findD s l with
    | some d => (d.vs.length : Int)
    | none => -1

mutual
/-- is a type right, of so many variables? -/
def rightT (l : List Da) (v : Int) : Ty → Bool
  | .mk k n s ks => rightTs l v ks && rightH l v k n s ks.length
def rightTs (l : List Da) (v : Int) : List Ty → Bool
  | [] => true
  | t :: ts => rightT l v t && rightTs l v ts
def rightH (l : List Da) (v : Int) (k : Nat) (n : Int) (s : Str) (m : Nat) : Bool :=
  match Nat.beq k 1 with
  | true => Nat.beq m 0 && (decide (0 ≤ n) && decide (n < v))
  | false => match Nat.beq k 2 with
    | false => false
    | true => match eqS s sArr with
      | true => Nat.beq m 2
      | false => match eqS s sComma with
        | true => Nat.ble 2 m && Nat.ble m 8
        | false => decide ((m : Int) = arity l s)
end

/-- is a text twice among some? -/
def dupS : List Str → Bool
  | [] => false
  | s :: l => l.any (eqS s) || dupS l

abbrev Key := Str × Bool
def eqK (a b : Key) : Bool := eqS a.1 b.1 && (a.2 == b.2)
def memK (had : List Key) (k : Key) : Bool := had.any (eqK k)

/-- Cons: where one is wrong, or what has been seen -/
def chkC (l : List Da) (v : Int) (had : List Key) : List Cn → Except Nat (List Key)
  | [] => .ok had
  | c :: cs => match memK had (c.s, true) || !(rightTs l v c.as) with
    | true => .error c.a
    | false => chkC l v ((c.s, true) :: had) cs

def chkD (l : List Da) (had : List Key) : List Da → Option Nat
  | [] => none
  | d :: ds => match memK had (d.s, false) || dupS d.vs with
    | true => some d.a
    | false => match chkC l d.vs.length ((d.s, false) :: had) d.cs with
      | .error a => some a
      | .ok had => chkD l had ds

/-- what is wrong with declarations: where -/
def checkData (l : List Da) : Option Nat := chkD l [(sInt, false), (sBool, false)] l

/-- where the first Con of a name stands -/
def findC (s : Str) : Nat → List Cn → Option Nat
  | _, [] => none
  | i, c :: l => match eqS c.s s with | true => some i | false => findC s (i + 1) l
def findCon (s : Str) : Nat → List Da → Option (Nat × Nat)
  | _, [] => none
  | i, d :: l => match findC s 0 d.cs with | some k => some (i, k) | none => findCon s (i + 1) l

end Go.Am.Ps
