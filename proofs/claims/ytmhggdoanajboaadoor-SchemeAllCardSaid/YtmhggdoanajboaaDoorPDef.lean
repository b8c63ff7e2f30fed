/- The reference's Lex and Parse as functions of plain Lean: definitions alone. -/
set_option linter.unusedVariables false
set_option maxRecDepth 100000
namespace Go.Am.Ps
def lowerB (c : UInt8) : Bool := Nat.ble 97 c.toNat && Nat.ble c.toNat 122
def upperB (c : UInt8) : Bool := Nat.ble 65 c.toNat && Nat.ble c.toNat 90
def digitB (c : UInt8) : Bool := Nat.ble 48 c.toNat && Nat.ble c.toNat 57
def restB (c : UInt8) : Bool := lowerB c || (upperB c || (digitB c || Nat.beq c.toNat 95))
abbrev Str := List UInt8
def eqS : Str → Str → Bool
  | [], [] => true
  | a :: l, b :: m => Nat.beq a.toNat b.toNat && eqS l m
  | _, _ => false
def sData : Str := [100, 97, 116, 97]
def sLet : Str := [108, 101, 116]
def sIn : Str := [105, 110]
def sIf : Str := [105, 102]
def sThen : Str := [116, 104, 101, 110]
def sElse : Str := [101, 108, 115, 101]
def sCase : Str := [99, 97, 115, 101]
def sOf : Str := [111, 102]
def sTrue : Str := [116, 114, 117, 101]
def sFalse : Str := [102, 97, 108, 115, 101]
def sArr : Str := [45, 62]
def sCom : Str := [44]
def sEq : Str := [61]
def sSemi : Str := [59]
def sBar : Str := [124]
def sOpen : Str := [40]
def sClose : Str := [41]
def sLam : Str := [92]
def sBrO : Str := [123]
def sBrC : Str := [125]
def words : List Str := [sData, sLet, sIn, sIf, sThen, sElse, sCase, sOf, sTrue, sFalse]
def isWord (s : Str) : Bool := words.any (eqS s)
def rowB (s : Str) : Bool := s.all restB && (!s.isEmpty && Nat.ble s.length 30)
def nameB (s : Str) : Bool := rowB s && ((match s with | c :: _ => lowerB c | [] => false) && !isWord s)
def conB (s : Str) : Bool := rowB s && (match s with | c :: _ => upperB c | [] => false)
def numL : Nat → Str → Option Nat
  | n, [] => some n
  | n, c :: l => let m := n * 10 + (c.toNat - 48); if Nat.ble m 2147483647 then numL m l else none
def numB (s : Str) : Option Nat :=
  match numL 0 s with
  | none => none
  | some n => match s with
    | c :: _ :: _ => if Nat.beq c.toNat 48 then none else some n
    | _ => some n
structure Tok where
  k : Nat
  at_ : Nat
  s : Str
  n : Nat
def spanB (p : UInt8 → Bool) : Str → Str × Str
  | [] => ([], [])
  | c :: l => match p c with
    | true => let (a, b) := spanB p l; (c :: a, b)
    | false => ([], c :: l)
def signB (c : UInt8) : Bool :=
  Nat.beq c.toNat 92 || (Nat.beq c.toNat 61 || (Nat.beq c.toNat 59 || (Nat.beq c.toNat 124 || (Nat.beq c.toNat 40 || (Nat.beq c.toNat 41 || (Nat.beq c.toNat 44 || (Nat.beq c.toNat 123 || Nat.beq c.toNat 125)))))))
inductive One1 where
  | skip (i : Nat) (r : Str)
  | tok (t : Tok) (i : Nat) (r : Str)
  | bad
def nextIs (k : Nat) : Str → Bool
  | [] => false
  | d :: _ => Nat.beq d.toNat k
def lex1 (i : Nat) (c : UInt8) (l : Str) : One1 :=
  if Nat.beq c.toNat 32 || (Nat.beq c.toNat 9 || Nat.beq c.toNat 10) then .skip (i + 1) l else
  if Nat.beq c.toNat 45 && nextIs 45 l then
    (let (a, b) := spanB (fun d => !Nat.beq d.toNat 10) (c :: l); .skip (i + a.length) b) else
  if lowerB c || upperB c then
    (let (a, b) := spanB restB (c :: l)
     if isWord a then .tok ⟨4, i, a, 0⟩ (i + a.length) b
     else if nameB a then .tok ⟨1, i, a, 0⟩ (i + a.length) b
     else if conB a then .tok ⟨2, i, a, 0⟩ (i + a.length) b
     else .bad) else
  if digitB c then
    (let (a, b) := spanB digitB (c :: l)
     match numB a with
     | some n => .tok ⟨3, i, [], n⟩ (i + a.length) b
     | none => .bad) else
  if Nat.beq c.toNat 45 && nextIs 62 l then .tok ⟨5, i, sArr, 0⟩ (i + 2) (l.drop 1) else
  if signB c then .tok ⟨5, i, [c], 0⟩ (i + 1) l else .bad
inductive Lexed where
  | ok (l : List Tok)
  | bad (e at_ : Nat)
def consT (t : Tok) : Lexed → Lexed
  | .ok l => .ok (t :: l)
  | x => x
def lexF : Nat → Nat → Str → Lexed
  | 0, i, _ => .bad 3 i
  | _ + 1, _, [] => .ok []
  | n + 1, i, c :: l => match lex1 i c l with
    | .skip i r => lexF n i r
    | .tok t i r => consT t (lexF n i r)
    | .bad => .bad 3 i
def lex (s : Str) : Lexed := if Nat.ble s.length 65536 then lexF (s.length + 1) 0 s else .bad 1 0
/-! ### what is parsed -/
inductive Ty where
  | mk (k : Nat) (n : Int) (s : Str) (ks : List Ty)
  deriving Inhabited
mutual
inductive Ex where
  | mk (k a : Nat) (s : Str) (n : Nat) (ks : List Ex) (as : List Al)
inductive Al where
  | mk (a : Nat) (c : Str) (ns : List Str) (b : Ex)
end
instance : Inhabited Ex := ⟨.mk 0 0 [] 0 [] []⟩
instance : Inhabited Al := ⟨.mk 0 [] [] default⟩
structure Cn where
  s : Str
  a : Nat
  as : List Ty
structure Da where
  s : Str
  a : Nat
  vs : List Str
  cs : List Cn
structure Bi where
  s : Str
  a : Nat
  b : Ex
structure Pg where
  ds : List Da
  bs : List Bi
structure PS where
  i : Nat
  r : List Tok
  bad : Bool
  at_ : Nat
variable (E : Nat)
def PS.fail (p : PS) : PS :=
  match p.bad with
  | true => p
  | false => { p with bad := true, at_ := match p.r with | [] => E | t :: _ => t.at_ }
def PS.peek (p : PS) (k : Nat) (s : Str) : Bool :=
  !p.bad && (match p.r with | [] => false | t :: _ => Nat.beq t.k k && (s.isEmpty || eqS t.s s))
def PS.next (p : PS) : PS := { p with i := p.i + 1, r := p.r.tail }
def tok0 : Tok := ⟨0, 0, [], 0⟩
def PS.eat (p : PS) (k : Nat) (s : Str) : Tok × PS :=
  match p.peek k s, p.r with
  | true, t :: _ => (t, p.next)
  | _, _ => (tok0, p.fail E)
def PS.sign (p : PS) (s : Str) : PS := (p.eat E 5 s).2
def PS.try_ (p : PS) (s : Str) : Bool × PS :=
  match p.peek 5 s with
  | true => (true, p.next)
  | false => (false, p)
def namesF : Nat → PS → List Tok × PS
  | 0, p => ([], p)
  | n + 1, p => match p.peek 1 [], p.r with
    | true, t :: _ => let (l, q) := namesF n p.next; (t :: l, q)
    | _, _ => ([], p)
def PS.names (p : PS) : List Tok × PS := namesF p.r.length p
def lams (a : Nat) : List Tok → Ex → Ex
  | [], b => b
  | t :: l, b => .mk 6 a t.s 0 [lams a l b] []
def PS.atomic (p : PS) : Bool :=
  p.peek 1 [] || (p.peek 2 [] || (p.peek 3 [] || (p.peek 4 sTrue || (p.peek 4 sFalse || p.peek 5 sOpen))))
def ex0 : Ex := .mk 0 0 [] 0 [] []
mutual
def expr : Nat → PS → Ex × PS
  | 0, p => (ex0, p)
  | n + 1, p =>
    match p.bad, p.r with
    | false, t :: _ =>
      if p.peek 5 sLam then
        let (x, p) := p.next.eat E 1 []
        let (l, p) := p.names
        let p := p.sign E sArr
        let (b, p) := expr n p
        (lams t.at_ (x :: l) b, p)
      else if p.peek 4 sLet then
        let (x, p) := p.next.eat E 1 []
        let (l, p) := p.names
        let p := p.sign E sEq
        let (d, p) := expr n p
        let p := (p.eat E 4 sIn).2
        let (b, p) := expr n p
        (.mk 7 t.at_ x.s 0 [lams x.at_ l d, b] [], p)
      else if p.peek 4 sIf then
        let (a, p) := expr n p.next
        let p := (p.eat E 4 sThen).2
        let (c, p) := expr n p
        let p := (p.eat E 4 sElse).2
        let (d, p) := expr n p
        (.mk 9 t.at_ [] 0 [a, c, d] [], p)
      else if p.peek 4 sCase then
        let (a, p) := expr n p.next
        let p := (p.eat E 4 sOf).2
        let p := p.sign E sBrO
        let (x, p) := alt n p
        let (l, p) := alts n p
        (.mk 10 t.at_ [] 0 [a] (x :: l), p.sign E sBrC)
      else
        let (e, p) := atom n p
        apps n e p
    | _, _ => (ex0, p.fail E)
def alt : Nat → PS → Al × PS
  | 0, p => (.mk 0 [] [] ex0, p)
  | n + 1, p =>
    let (c, p) := p.eat E 2 []
    let (l, p) := p.names
    let p := p.sign E sArr
    let (b, p) := expr n p
    (.mk c.at_ c.s (l.map (·.s)) b, p)
def alts : Nat → PS → List Al × PS
  | 0, p => ([], p)
  | n + 1, p => match p.peek 5 sSemi with
    | true => let (x, p) := alt n p.next; let (l, p) := alts n p; (x :: l, p)
    | false => ([], p)
def atom : Nat → PS → Ex × PS
  | 0, p => (ex0, p)
  | n + 1, p =>
    match p.atomic, p.r with
    | true, t :: _ =>
      match t.k with
      | 1 => (.mk 1 t.at_ t.s 0 [] [], p.next)
      | 2 => (.mk 2 t.at_ t.s 0 [] [], p.next)
      | 3 => (.mk 3 t.at_ [] t.n [] [], p.next)
      | 4 => (.mk 4 t.at_ [] (cond (eqS t.s sTrue) 1 0) [] [], p.next)
      | _ =>
        let (a, p) := expr n p.next
        match rest n 1 p with
        | (none, p) => (ex0, p)
        | (some [], p) => (a, p.sign E sClose)
        | (some l, p) => (.mk 8 t.at_ [] 0 (a :: l) [], p.sign E sClose)
    | _, _ => (ex0, p.fail E)
def rest : Nat → Nat → PS → Option (List Ex) × PS
  | 0, _, p => (some [], p)
  | n + 1, k, p => match p.peek 5 sCom with
    | true => if Nat.beq k 8 then (none, p.fail E) else
      let (a, p) := expr n p.next
      match rest n (k + 1) p with
      | (some l, p) => (some (a :: l), p)
      | (none, p) => (none, p)
    | false => (some [], p)
def apps : Nat → Ex → PS → Ex × PS
  | 0, e, p => (e, p)
  | n + 1, e, p => match p.atomic with
    | true =>
      let (a, p) := atom n p
      apps n (.mk 5 (match e with | .mk _ at_ _ _ _ _ => at_) [] 0 [e, a] []) p
    | false => (e, p)
end
def placeF : Nat → List Str → Str → Int
  | _, [], _ => -1
  | i, a :: l, s => if eqS a s then i else placeF (i + 1) l s
def place (l : List Str) (s : Str) : Int := placeF 0 l s
def PS.atypic (p : PS) : Bool := p.peek 1 [] || (p.peek 2 [] || p.peek 5 sOpen)
def ty0 : Ty := .mk 0 0 [] []
mutual
def atype (vs : List Str) : Nat → PS → Ty × PS
  | 0, p => (ty0, p)
  | n + 1, p =>
    match p.atypic, p.r with
    | true, t :: _ =>
      match t.k with
      | 1 => (match place vs t.s with
        | .ofNat k => .mk 1 k [] []
        | _ => .mk 1 (-1) t.s [], p.next)
      | 2 => (.mk 2 0 t.s [], p.next)
      | _ =>
        let (a, p) := typ vs n p.next
        match trest vs n 1 p with
        | (none, p) => (ty0, p)
        | (some [], p) => (a, p.sign E sClose)
        | (some l, p) => (.mk 2 0 sCom (a :: l), p.sign E sClose)
    | _, _ => (ty0, p.fail E)
def trest (vs : List Str) : Nat → Nat → PS → Option (List Ty) × PS
  | 0, _, p => (some [], p)
  | n + 1, k, p => match p.peek 5 sCom with
    | true => if Nat.beq k 8 then (none, p.fail E) else
      let (a, p) := typ vs n p.next
      match trest vs n (k + 1) p with
      | (some l, p) => (some (a :: l), p)
      | (none, p) => (none, p)
    | false => (some [], p)
def typ (vs : List Str) : Nat → PS → Ty × PS
  | 0, p => (ty0, p)
  | n + 1, p =>
    let con := p.peek 2 []
    let (t, p) := atype vs n p
    let (l, p) := match con with | true => targs vs n p | false => ([], p)
    let t := match t with | .mk k m s ks => Ty.mk k m s (ks ++ l)
    match p.try_ sArr with
    | (true, p) => let (u, p) := typ vs n p; (.mk 2 0 sArr [t, u], p)
    | (false, p) => (t, p)
def targs (vs : List Str) : Nat → PS → List Ty × PS
  | 0, p => ([], p)
  | n + 1, p => match p.atypic with
    | true => let (a, p) := atype vs n p; let (l, p) := targs vs n p; (a :: l, p)
    | false => ([], p)
end
def con (vs : List Str) (n : Nat) (p : PS) : Cn × PS :=
  let (t, p) := p.eat E 2 []
  let (l, p) := targs E vs n p
  (⟨t.s, t.at_, l⟩, p)
def cons (vs : List Str) (n : Nat) : Nat → PS → List Cn × PS
  | 0, p => ([], p)
  | m + 1, p => match p.peek 5 sBar with
    | true => let (c, p) := con E vs n p.next; let (l, p) := cons vs n m p; (c :: l, p)
    | false => ([], p)
def incI (n : Int) : Int := if n < 9223372036854775807 then n + 1 else -9223372036854775808
def maxI (a b : Int) : Int := if a < b then b else a
mutual
def deepE : Ex → Int
  | .mk _ _ _ _ ks as => incI (deepAs (deepEs 0 ks) as)
def deepEs : Int → List Ex → Int
  | n, [] => n
  | n, e :: l => deepEs (maxI n (deepE e)) l
def deepA : Al → Int
  | .mk _ _ _ b => deepE b
def deepAs : Int → List Al → Int
  | n, [] => n
  | n, e :: l => deepAs (maxI n (deepA e)) l
end
mutual
def deepT : Ty → Int
  | .mk _ _ _ ks => incI (deepTs 0 ks)
def deepTs : Int → List Ty → Int
  | n, [] => n
  | n, e :: l => deepTs (maxI n (deepT e)) l
end
def less (o : Option Nat) (a : Nat) : Option Nat :=
  match o with
  | none => some a
  | some b => if Nat.blt a b then some a else some b
def tooB (o : Option Nat) : List Bi → Option Nat
  | [] => o
  | b :: l => tooB (if 60 < deepE b.b then less o b.a else o) l
def tooT (a : Nat) (o : Option Nat) : List Ty → Option Nat
  | [] => o
  | t :: l => tooT a (if 60 < deepT t then less o a else o) l
def tooC (o : Option Nat) : List Cn → Option Nat
  | [] => o
  | c :: l => tooC (tooT c.a o c.as) l
def tooD (o : Option Nat) : List Da → Option Nat
  | [] => o
  | d :: l => tooD (tooC o d.cs) l
def tooDeep (p : Pg) : Option Nat := tooD (tooB none p.bs) p.ds
def decl (n : Nat) (out : Pg) (p : PS) : Pg × PS :=
  match p.peek 4 sData with
  | true =>
    let (c, p) := p.next.eat E 2 []
    let (l, p) := p.names
    let vs := l.map (·.s)
    let p := p.sign E sEq
    let (x, p) := con E vs n p
    let (xs, p) := cons E vs n n p
    ({ out with ds := out.ds ++ [⟨c.s, c.at_, vs, x :: xs⟩] }, p.sign E sSemi)
  | false =>
    let p := (p.eat E 4 sLet).2
    let (x, p) := p.eat E 1 []
    let (l, p) := p.names
    let p := p.sign E sEq
    let (b, p) := expr E n p
    ({ out with bs := out.bs ++ [⟨x.s, x.at_, lams x.at_ l b⟩] }, p.sign E sSemi)
def decls (n : Nat) : Nat → Pg → PS → Pg × PS
  | 0, out, p => (out, p)
  | m + 1, out, p => match p.bad, p.r with
    | false, _ :: _ => let (out, p) := decl E n out p; decls n m out p
    | _, _ => (out, p)
inductive Parsed where
  | ok (p : Pg)
  | bad (e at_ : Nat)
def parse (s : Str) : Parsed :=
  match lex s with
  | .bad e a => .bad e a
  | .ok l =>
    let n := 8 * l.length + 40
    match decls s.length n (l.length + 1) ⟨[], []⟩ ⟨0, l, false, 0⟩ with
    | (out, p) => match p.bad with
      | true => .bad 4 p.at_
      | false => match tooDeep out with
        | some a => .bad 5 a
        | none => .ok out
end Go.Am.Ps
