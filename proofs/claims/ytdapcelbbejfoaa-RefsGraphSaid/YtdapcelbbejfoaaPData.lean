/- Layers 12, 13 in plain Lean: declarations and scopes. -/
import Derived.Test.YtdapcelbbejfoaaPDef
set_option linter.unusedVariables false
namespace Go.Am.Ps
def sInt : Str := [73, 110, 116]
def sBool : Str := [66, 111, 111, 108]
def sComma : Str := [44]
def findD (s : Str) : List Da → Option Da
  | [] => none
  | d :: l => match eqS d.s s with | true => some d | false => findD s l
def arity (l : List Da) (s : Str) : Int :=
  match eqS s sInt || eqS s sBool with
  | true => 0
  | false => match findD s l with
    | some d => (d.vs.length : Int)
    | none => -1
mutual
def rightT (l : List Da) (v : Int) : Ty → Bool
  | .mk k n s ks => rightTs l v ks && rightH l v k n s ks.length
def rightTs (l : List Da) (v : Int) : List Ty → Bool
  | [] => true
  | t :: ts => rightT l v t && rightTs l v ts
def rightH (l : List Da) (v : Int) (k : Nat) (n : Int) (s : Str) (m : Nat) : Bool :=
  match Nat.beq k 1 with
  | true => Nat.beq m 0 && (decide (0 ≤ n) && decide (n < v))
  | false => match Nat.beq k 2 with
    | false => false
    | true => match eqS s sArr with
      | true => Nat.beq m 2
      | false => match eqS s sComma with
        | true => Nat.ble 2 m && Nat.ble m 8
        | false => decide ((m : Int) = arity l s)
end
def dupS : List Str → Bool
  | [] => false
  | s :: l => l.any (eqS s) || dupS l
abbrev Key := Str × Bool
def eqK (a b : Key) : Bool := eqS a.1 b.1 && (a.2 == b.2)
def memK (had : List Key) (k : Key) : Bool := had.any (eqK k)
def chkC (l : List Da) (v : Int) (had : List Key) : List Cn → Except Nat (List Key)
  | [] => .ok had
  | c :: cs => match memK had (c.s, true) || !(rightTs l v c.as) with
    | true => .error c.a
    | false => chkC l v ((c.s, true) :: had) cs
def chkD (l : List Da) (had : List Key) : List Da → Option Nat
  | [] => none
  | d :: ds => match memK had (d.s, false) || dupS d.vs with
    | true => some d.a
    | false => match chkC l d.vs.length ((d.s, false) :: had) d.cs with
      | .error a => some a
      | .ok had => chkD l had ds
def checkData (l : List Da) : Option Nat := chkD l [(sInt, false), (sBool, false)] l
def findC (s : Str) : Nat → List Cn → Option Nat
  | _, [] => none
  | i, c :: l => match eqS c.s s with | true => some i | false => findC s (i + 1) l
def findCon (s : Str) : Nat → List Da → Option (Nat × Nat)
  | _, [] => none
  | i, d :: l => match findC s 0 d.cs with | some k => some (i, k) | none => findCon s (i + 1) l
/-! ### scopes -/
def bindsK (k i : Nat) : Bool := Nat.beq k 6 || (Nat.beq k 7 && Nat.beq i 1)
def conN (ds : List Da) (s : Str) : Option Nat :=
  match findCon s 0 ds with
  | none => none
  | some (i, j) => match ds[i]? with
    | none => none
    | some d => match d.cs[j]? with
      | none => none
      | some c => some c.as.length
def headW (ds : List Da) (B : List Str) (k a : Nat) (s : Str) : Option Nat :=
  match Nat.beq k 1 with
  | true => match B.any (eqS s) with | true => none | false => some a
  | false => match Nat.beq k 2 with
    | true => match conN ds s with | some _ => none | none => some a
    | false => none
def altW (ds : List Da) (had : List Str) (c : Str) (ns : List Str) : Bool :=
  match conN ds c with
  | none => false
  | some n => Nat.beq n ns.length && (!dupS ns && !(had.any (eqS c)))
mutual
def wrE (ds : List Da) (B : List Str) : Ex → Option Nat
  | .mk k a s _ ks as => match headW ds B k a s with
    | some x => some x
    | none => match wrK ds k s 0 B ks with
      | some x => some x
      | none => wrA ds B [] as
def wrK (ds : List Da) (k : Nat) (s : Str) (i : Nat) (B : List Str) : List Ex → Option Nat
  | [] => none
  | e :: l => match (match bindsK k i with | true => wrE ds (s :: B) e | false => wrE ds B e) with
    | some x => some x
    | none => wrK ds k s (i + 1) B l
def wrA (ds : List Da) (B had : List Str) : List Al → Option Nat
  | [] => none
  | .mk a c ns b :: l => match altW ds had c ns with
    | false => some a
    | true => match wrE ds (ns ++ B) b with
      | some x => some x
      | none => wrA ds B (c :: had) l
end
def twiceB (had : List Str) : List Bi → Except Nat (List Str)
  | [] => .ok had
  | b :: l => match had.any (eqS b.s) with
    | true => .error b.a
    | false => twiceB (b.s :: had) l
def wrBs (ds : List Da) (B : List Str) : List Bi → Option Nat
  | [] => none
  | b :: l => match wrE ds B b.b with | some x => some x | none => wrBs ds B l
def checkScope (p : Pg) : Option (Nat × Nat) :=
  match checkData p.ds with
  | some a => some (6, a)
  | none => match twiceB [] p.bs with
    | .error a => some (7, a)
    | .ok B => match wrBs p.ds B p.bs with
      | some a => some (7, a)
      | none => none
end Go.Am.Ps
