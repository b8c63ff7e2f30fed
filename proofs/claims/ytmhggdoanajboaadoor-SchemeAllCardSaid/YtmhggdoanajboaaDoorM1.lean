/- The abstract machine and the model, merged of its parts. -/
import Derived.Orders
import Derived.Below
import Derived.Test.YtmhggdoanajboaaDoorMTbl
import Derived.WalkKit
import Derived.ProofKit
import Derived.ChangeKeysEq
set_option linter.unusedVariables false
set_option linter.unusedSimpArgs false
/-! ## part Def -/
/- The abstract machine: values, memory, what operations tell. Definitions alone. -/
namespace Go.Am
inductive AV where
  | bool (b : Bool)
  | int (k : IntKind) (n : Int)
  | str (s : List UInt8)
  | agg (cs : List AV)
  | tup (vs : List AV)
  | nil
  | sl (sz : Nat) (xs : List AV)
  | adr (a : AV)
  | ptr (r v i off : Nat)
  | hs (r v o n sz : Nat)
  | map (r : Nat)
  | nilp | nilm | nilf
  | fn (f : Nat) (caps : List AV)
  deriving Inhabited
def AV.cells : AV → List AV
  | .agg cs => cs
  | a => [a]
inductive TK where
  | bool | int (k : IntKind) | str | ptr | slice (e : Nat) | arr (n e : Nat) | map (k e : Nat) | strct (fs : List (Nat × Nat)) | func | other
def TK.isAgg : TK → Bool
  | .arr .. | .strct _ => true
  | _ => false
structure TI where
  k : TK
  size : Nat
  bytes : Nat
  zero : AV
  eqk : List TK
inductive SV where
  | u
  | v (a : AV)
  | lp (d off : Nat)
  | bx (x : AV)
  | hb
structure SOp where
  dst : Option Nat
  op : Op
  type : Nat
inductive AOp where
  | op (o : SOp)
  | cnd (j c : Nat) (want : Bool) (body : List AOp) (pk : SOp)
inductive DK where
  | q
  | l (lo hi : Nat)
  | w
  | s
structure DOp where
  o : SOp
  guard : Option (Nat × Bool)
  aft : List Nat
  bef : List Nat
  k : DK
inductive ACode where
  | skip
  | reg (ops : List AOp)
  | drw (sd : List Nat) (ops : List DOp) (post : List DOp)
  | all (keep : List Nat) (ops : List DOp)
  | seq (a b : ACode)
  | cond (c : Operand) (thn els : ACode)
  | block (id : Nat) (body : ACode)
  | loop (keep : List Nat) (body : ACode)
  | exit (id : Nat)
  | ret
  | rng (t p q : Nat) (keep : List Nat) (asg body : ACode)
  | mlp (keep : List Nat) (o2 o3 o4 : SOp) (id1 id2 : Nat) (rest : List AOp) (body : ACode)
inductive RS where
  | tmp (t : Nat)
  | cell (a t : Nat)
structure FnI where
  code : ACode
  nt : Nat
  results : List RS
  hp : List Nat
  ip : List Nat
inductive HObj where
  | arr (fz : Bool) (sz : Nat) (xs : List AV)
  | map (es : List (AV × AV))
  | it (s : Option (Nat × Nat × List Nat))
abbrev H := List HObj
abbrev M (R : Type) := H → Option (R × H)
structure Ctx where
  types : List TI
  fns : List (Nat × FnI)
  prim : List (Nat × (List AV → M AV))
  alt : List (Nat × (FnI × FnI)) := []
  back : List (Nat × Nat) := []
section monad
variable {R α : Type}
def failM : M R := fun _ => none
def pureM (r : R) : M R := fun σ => some (r, σ)
def obind (o : Option α) (k : α → M R) : M R := fun σ => match o with | some a => k a σ | none => none
def bindM (m : M α) (k : α → M R) : M R := fun σ => match m σ with | some (a, σ') => k a σ' | none => none
end monad
def memN (d : Nat) : List Nat → Bool
  | [] => false
  | x :: l => if x = d then true else memN d l
structure Fr where
  sl : List (Nat × SV)
  lk : Bool
noncomputable def getS (l : List (Nat × SV)) (t : Nat) : SV := List.rec (motive := fun _ => SV) .u (fun p _ ih => Bool.rec (motive := fun _ => SV) ih p.2 (Nat.beq p.1 t)) l
theorem getS_nil (t : Nat) : getS [] t = .u := rfl
theorem getS_cons (i : Nat) (s : SV) (l : List (Nat × SV)) (t : Nat) : getS ((i, s) :: l) t = if i = t then s else getS l t := by
  have e : getS ((i, s) :: l) t = Bool.rec (motive := fun _ => SV) (getS l t) s (Nat.beq i t) := rfl
  rw [e]
  by_cases h : i = t
  · subst h
    have : Nat.beq i i = true := by simp
    rw [this, if_pos rfl]
  · have : Nat.beq i t = false := by
      cases hb : Nat.beq i t with
      | false => rfl
      | true => exact absurd (Nat.eq_of_beq_eq_true hb) h
    rw [this, if_neg h]
noncomputable section
def TK.known : TK → Bool
  | .other => false
  | _ => true
def Ctx.ti (C : Ctx) (t : Nat) : Option TI :=
  match C.types[t]? with
  | some ti => if ti.k.known = true then some ti else none
  | none => none
def look {α : Type} (f : Nat) : List (Nat × α) → Option α
  | [] => none
  | (g, a) :: l => if g = f then some a else look f l
def Ctx.fn (C : Ctx) (f : Nat) : Option FnI := look f C.fns
/-! ### plain helpers on values -/
def asB : AV → Option Bool | .bool b => some b | _ => none
def asI : AV → Option Int | .int _ n => some n | _ => none
def AV.leafAt (a : AV) (j : Nat) : Option AV := match a with | .agg cs => cs[j]? | _ => none
def AV.sub (a : AV) (o n : Nat) : Option AV := match a with | .agg cs => if o + n ≤ cs.length then some (.agg ((cs.drop o).take n)) else none | _ => none
def AV.fits (ti : TI) (a : AV) : Bool :=
  match a with
  | .agg cs => ti.k.isAgg && cs.length == ti.size
  | .tup _ => false
  | _ => !ti.k.isAgg && ti.size == 1
def part (ti : TI) (o : Nat) (a : AV) : Option AV :=
  match ti.k.isAgg with
  | true => a.sub o ti.size
  | false => a.leafAt o
def elemAt (ti : TI) (off : Nat) (x : AV) : Option AV :=
  if off = 0 ∧ x.fits ti = true then some x else part ti off x
def setCells : List AV → Nat → List AV → List AV
  | l, _, [] => l
  | l, o, c :: cs => setCells (l.set o c) (o + 1) cs
def putAt (ti : TI) (off : Nat) (x b : AV) : Option AV :=
  if b.fits ti = true then
    if off = 0 ∧ x.fits ti = true then some b
    else match x with
      | .agg cs => if off + ti.size ≤ cs.length then some (.agg (setCells cs off b.cells)) else none
      | _ => none
  else none
def fieldOf (C : Ctx) (s f : Nat) : Option (Nat × Nat) :=
  match C.ti s with
  | some ti => match ti.k with | .strct fs => fs[f]? | _ => none
  | none => none
def elemOf (C : Ctx) (t : Nat) : Option TI :=   -- of a slice type: the element's type
  match C.ti t with
  | some ti => match ti.k with | .slice e => C.ti e | _ => none
  | none => none
def constLeaf : Value → Option AV
  | .bool b => some (.bool b)
  | .int k n => some (.int k n)
  | .string s => some (.str s.data.toList)
  | .pointer none => some .nilp
  | .slice none 0 0 => some .nil
  | .map none => some .nilm
  | .nilFunc => some .nilf
  | _ => none
def constLeaves : List Value → Option (List AV)
  | [] => some []
  | v :: l => match constLeaf v, constLeaves l with
    | some a, some m => some (a :: m)
    | _, _ => none
def constA : Value → Option AV
  | .agg cs => match constLeaves cs.toList with | some l => some (.agg l) | none => none
  | v => constLeaf v
def ev (fr : Fr) : Operand → SV
  | .tmp t => match getS fr.sl t with
    | .bx _ => .lp t 0
    | .hb => .lp t 0
    | s => s
  | .const v => match constA v with | some a => .v a | none => .u
  | .func f => .v (.fn f [])
  | .global _ => .u
def av (fr : Fr) (x : Operand) : Option AV := match ev fr x with | .v a => some a | _ => none
def avs (fr : Fr) : List Operand → Option (List AV)
  | [] => some []
  | x :: l => match av fr x, avs fr l with
    | some a, some m => some (a :: m)
    | _, _ => none
/-! ### operations on values -/
def eqLeaf : TK → AV → AV → Option Bool
  | .bool, .bool a, .bool b => some (a == b)
  | .int q, .int j a, .int k b => if j = q ∧ k = q then some (a == b) else none
  | .str, .str a, .str b => some (a == b)
  | _, _, _ => none
def eqLeaves : List TK → List AV → List AV → Option Bool
  | [], [], [] => some true
  | k :: ks, x :: l, y :: m => match eqLeaf k x y, eqLeaves ks l m with
    | some a, some b => some (a && b)
    | _, _ => none
  | _, _, _ => none
def eqA (ks : List TK) (a b : AV) : Option Bool := eqLeaves ks a.cells b.cells
def intOp (op : BinOp) (k : IntKind) (x y : Int) : Option AV :=
  match op with
  | .add => some (.int k (k.wrap (x + y)))
  | .sub => some (.int k (k.wrap (x - y)))
  | .mul => some (.int k (k.wrap (x * y)))
  | .quo => if y = 0 then none else some (.int k (k.wrap (x.tdiv y)))
  | .rem => if y = 0 then none else some (.int k (x.tmod y))
  | .eql => some (.bool (x == y))
  | .neq => some (.bool (x != y))
  | .lss => some (.bool (decide (x < y)))
  | .leq => some (.bool (decide (x ≤ y)))
  | .gtr => some (.bool (decide (x > y)))
  | .geq => some (.bool (decide (x ≥ y)))
  | _ => none
def strOp (op : BinOp) (x y : List UInt8) : Option AV :=
  match op with
  | .add => if x.length + y.length < 2 ^ 62 then some (.str (x ++ y)) else none
  | .eql => some (.bool (x == y))
  | .neq => some (.bool (!(x == y)))
  | _ => none
def boolOp (op : BinOp) (x y : Bool) : Option AV :=
  match op with
  | .eql => some (.bool (x == y))
  | .neq => some (.bool (!(x == y)))
  | _ => none
def shiftOp (op : BinOp) (k : IntKind) (x y : Int) : Option AV :=
  if y < 0 then none else
  match op with
  | .shl => some (.int k (k.wrap (x * 2 ^ min y.toNat k.bits)))
  | _ => none
def aggOp (op : BinOp) (ks : List TK) (x y : List AV) : Option AV :=
  match op, eqLeaves ks x y with
  | .eql, some t => some (.bool t)
  | .neq, some t => some (.bool !t)
  | _, _ => none
def isShift : BinOp → Bool | .shl | .shr => true | _ => false
def nilEq : AV → AV → Option Bool
  | .nil, .nil => some true
  | .nil, .hs .. => some false
  | .hs .., .nil => some false
  | .nil, .sl _ _ => some false
  | .sl _ _, .nil => some false
  | _, _ => none
def nilOp (op : BinOp) (k : TK) (a b : AV) : Option AV :=
  match op, k, nilEq a b with
  | .eql, .slice _, some t => some (.bool t)
  | .neq, .slice _, some t => some (.bool !t)
  | _, _, _ => none
def binA (op : BinOp) (ti : TI) (a b : AV) : Option AV :=
  match a, b with
  | .int j x, .int k y => if isShift op = true then shiftOp op j x y else if j = k then intOp op j x y else none
  | .str x, .str y => strOp op x y
  | .bool x, .bool y => (match ti.k with | .bool => boolOp op x y | _ => none)
  | .agg x, .agg y => if (AV.agg x).fits ti = true ∧ (AV.agg y).fits ti = true ∧ ti.eqk ≠ [] then aggOp op ti.eqk x y else none
  | a, b => nilOp op ti.k a b
def unA (op : UnOp) (a : AV) : Option AV :=
  match op, a with
  | .not, .bool b => some (.bool !b)
  | .neg, .int k n => some (.int k (k.wrap (0 - n)))
  | _, _ => none
def bytesOf : List AV → Option (List UInt8)
  | [] => some []
  | .int .u8 n :: l => (match bytesOf l with | some m => some (UInt8.ofNat n.toNat :: m) | none => none)
  | _ => none
def ofBytes (l : List UInt8) : List AV := l.map fun b => .int .u8 b.toNat
def isByte (C : Ctx) (e : Nat) : Bool := match C.ti e with | some ti => (match ti.k with | .int .u8 => true | _ => false) | none => false
def idxN (n : Int) (len : Nat) : Option Nat := if 0 ≤ n ∧ n < len then some n.toNat else none
def strIdx (s : List UInt8) (n : Int) : Option AV :=
  match idxN n s.length with
  | some i => (match s[i]? with | some b => some (.int .u8 b.toNat) | none => none)
  | none => none
def bounds (lo hi : Option Int) (len : Nat) : Option (Nat × Nat) :=
  let h := hi.getD len
  let l := lo.getD 0
  if 0 ≤ l ∧ l ≤ h ∧ h ≤ len then some (l.toNat, h.toNat) else none
def sliceA (sz : Nat) (a : AV) (lo hi : Option Int) : Option AV :=
  match a with
  | .nil => (match bounds lo hi 0 with | some _ => some .nil | none => none)
  | .sl s xs => (match bounds lo hi xs.length with | some (l, h) => if s = sz then some (.sl s ((xs.take h).drop l)) else none | none => none)
  | .hs r v o n s => (match bounds lo hi n with | some (l, h) => if s = sz then some (.hs r v (o + l) (h - l) s) else none | none => none)
  | _ => none
def partPlace (C : Ctx) (t i : Nat) : Option (Nat × TI) :=
  match C.ti t with
  | none => none
  | some ti => match ti.k with
    | .strct fs => (match fs[i]? with
      | some (o, t) => (match C.ti t with | some ti => some (o, ti) | none => none)
      | none => none)
    | .arr n e => (match C.ti e with | some te => if i < n then some (i * te.size, te) else none | none => none)
    | _ => none
def buildA (C : Ctx) (t : Nat) : List Nat → List AV → List AV → Option (List AV)
  | [], [], cs => some cs
  | i :: is, a :: as, cs => match partPlace C t i with
    | some (o, ti) => if o + ti.size ≤ cs.length ∧ a.fits ti = true then buildA C t is as (setCells cs o a.cells) else none
    | none => none
  | _, _, _ => none
def rowA (te : TI) : List Nat → List AV → List AV → Option (List AV)
  | [], [], xs => some xs
  | i :: is, a :: as, xs => if i < xs.length ∧ a.fits te = true then rowA te is as (xs.set i a) else none
  | _, _, _ => none
def nzA : AV → Option AV
  | .adr a => some (.adr a)
  | .ptr r v i o => some (.ptr r v i o)
  | .fn f c => some (.fn f c)
  | _ => none
/-! ### the heap -/
def newM (o : HObj) : M Nat := fun σ => some (σ.length, σ ++ [o])
def arrAt (σ : H) (r v : Nat) : Option (Bool × Nat × List AV) :=
  match σ[r]? with
  | some (.arr fz sz xs) => if xs.length = v then some (fz, sz, xs) else none
  | _ => none
def loadA (ti : TI) (a : AV) : M AV := fun σ =>
  match a with
  | .adr x => if x.fits ti = true then some (x, σ) else none
  | .ptr r v i off => (match arrAt σ r v with
    | some (_, _, xs) => (match xs[i]? with
      | some x => (match elemAt ti off x with | some y => some (y, σ) | none => none)
      | none => none)
    | none => none)
  | _ => none
def storeA (ti : TI) (a b : AV) : M Unit := fun σ =>
  match a with
  | .ptr r v i off => (match arrAt σ r v with
    | some (false, sz, xs) => (match xs[i]? with
      | some x => (match putAt ti off x b with | some y => some ((), σ.set r (.arr false sz (xs.set i y))) | none => none)
      | none => none)
    | _ => none)
  | _ => none
def elemsM (te : TI) (a : AV) : M (List AV) := fun σ =>
  match a with
  | .nil => some ([], σ)
  | .sl s xs => if s = te.size then some (xs, σ) else none
  | .str s => if te.size = 1 then some (ofBytes s, σ) else none
  | .hs r v o n s => (match arrAt σ r v with
    | some (_, sz, xs) => if s = te.size ∧ sz = s ∧ o + n ≤ xs.length then some ((xs.drop o).take n, σ) else none
    | none => none)
  | _ => none
def fitAll (te : TI) : List AV → Bool
  | [] => true
  | x :: l => x.fits te && fitAll te l
def appendH (te : TI) (s : AV) (ys : List AV) : M AV := fun σ =>
  match s with
  | .nil => (match ys with
    | [] => some (.nil, σ)
    | _ :: _ => if ys.length * te.bytes ≤ 2 ^ 45 ∧ ys.length ≤ 2 ^ 45 ∧ fitAll te ys = true then some (.hs σ.length ys.length 0 ys.length te.size, σ ++ [.arr false te.size ys]) else none)
  | .hs r v o n s => (match arrAt σ r v with
    | some (false, sz, xs) =>
      if sz = s ∧ s = te.size ∧ o + n ≤ v ∧ (n + ys.length) * te.bytes ≤ 2 ^ 45 ∧ n + ys.length ≤ 2 ^ 45 ∧ fitAll te ys = true then
        if o + n + ys.length ≤ v then some (.hs r v o (n + ys.length) s, σ.set r (.arr false sz (setCells xs (o + n) ys)))
        else if o = 0 then some (.hs r (n + ys.length) 0 (n + ys.length) s, σ.set r (.arr false sz (xs.take n ++ ys)))
        else none
      else none
    | _ => none)
  | _ => none
def findIdx (tk : TI) (k : AV) : Nat → List (AV × AV) → Option (Option (Nat × AV))
  | _, [] => some none
  | i, (x, v) :: l => if x.fits tk = true then (match eqA tk.eqk k x with
    | some true => some (some (i, v))
    | some false => findIdx tk k (i + 1) l
    | none => none) else none
def mapOf (C : Ctx) (t : Nat) : Option (TI × TI) :=
  match C.ti t with
  | some ti => match ti.k with
    | .map kt e => (match C.ti kt, C.ti e with | some tk, some te => some (tk, te) | _, _ => none)
    | _ => none
  | none => none
def backA (te : TI) (ok : Bool) (r : Option (Nat × AV)) : AV :=
  match ok, r with
  | true, some (_, v) => .tup [v, .bool true]
  | true, none => .tup [te.zero, .bool false]
  | false, some (_, v) => v
  | false, none => te.zero
def keyOk (tk : TI) (k : AV) : Bool := !tk.eqk.isEmpty && k.fits tk
def lookupA (C : Ctx) (t : Nat) (m k : AV) (ok : Bool) : M AV := fun σ =>
  match mapOf C t with
  | some (tk, te) => if keyOk tk k = true then (match m with
      | .nilm => some (backA te ok none, σ)
      | .map r => (match σ[r]? with
        | some (.map es) => (match findIdx tk k 0 es with | some q => some (backA te ok q, σ) | none => none)
        | _ => none)
      | _ => none) else none
  | none => none
def updateA (C : Ctx) (t : Nat) (m k v : AV) : M Unit := fun σ =>
  match mapOf C t, m with
  | some (tk, te), .map r => (match σ[r]? with
    | some (.map es) => if keyOk tk k = true ∧ v.fits te = true then (match findIdx tk k 0 es with
      | some (some (i, _)) => some ((), σ.set r (.map (es.set i (k, v))))
      | some none => some ((), σ.set r (.map (es ++ [(k, v)])))
      | none => none) else none
    | _ => none)
  | _, _ => none
def entryA (C : Ctx) (t : Nat) (m k : AV) : M AV := fun σ =>
  match mapOf C t, m with
  | some (tk, te), .map r => (match σ[r]? with
    | some (.map es) => if keyOk tk k = true then (match findIdx tk k 0 es with
      | some (some (i, v)) => some (.tup [v, .int .i64 i], σ)
      | some none => some (.tup [te.zero, .int .i64 es.length], σ.set r (.map (es ++ [(k, te.zero)])))
      | none => none) else none
    | _ => none)
  | _, _ => none
def entryStoreA (C : Ctx) (t : Nat) (m i v : AV) : M Unit := fun σ =>
  match mapOf C t, m, i with
  | some (_, te), .map r, .int .i64 n => (match σ[r]? with
    | some (.map es) => (match idxN n es.length with
      | some j => (match es[j]? with | some (k, _) => if v.fits te = true then some ((), σ.set r (.map (es.set j (k, v)))) else none | none => none)
      | none => none)
    | _ => none)
  | _, _, _ => none
def lenM (a : AV) : M AV := fun σ =>
  match a with
  | .str s => some (.int .i64 s.length, σ)
  | .nil => some (.int .i64 0, σ)
  | .sl _ xs => some (.int .i64 xs.length, σ)
  | .hs _ _ _ n _ => some (.int .i64 n, σ)
  | .nilm => some (.int .i64 0, σ)
  | .map r => (match σ[r]? with | some (.map es) => some (.int .i64 es.length, σ) | _ => none)
  | _ => none
mutual
def AV.noRef : AV → Bool
  | .agg cs => AV.noRefs cs
  | .tup cs => AV.noRefs cs
  | .sl _ xs => AV.noRefs xs
  | .adr a => a.noRef
  | .fn _ cs => AV.noRefs cs
  | .ptr .. | .hs .. | .map _ => false
  | _ => true
def AV.noRefs : List AV → Bool
  | [] => true
  | a :: l => a.noRef && AV.noRefs l
end
mutual
def AV.same : AV → AV → Bool
  | .bool a, .bool b => a == b
  | .int j a, .int k b => decide (j = k) && a == b
  | .str a, .str b => a == b
  | .agg a, .agg b => AV.sames a b
  | .tup a, .tup b => AV.sames a b
  | .nil, .nil => true
  | .sl m a, .sl n b => m == n && AV.sames a b
  | .adr a, .adr b => a.same b
  | .nilp, .nilp => true
  | .nilm, .nilm => true
  | .nilf, .nilf => true
  | .map r, .map q => r == q
  | .ptr a b c d, .ptr e f g h => a == e && b == f && c == g && d == h
  | .hs a b c d e, .hs f g h i j => a == f && b == g && c == h && d == i && e == j
  | .fn f a, .fn g b => f == g && AV.sames a b
  | _, _ => false
def AV.sames : List AV → List AV → Bool
  | [], [] => true
  | a :: l, b :: m => a.same b && AV.sames l m
  | _, _ => false
end
def SV.alike : SV → SV → Bool
  | .u, .u => true
  | .v a, .v b => a.same b
  | .lp d o, .lp e q => Nat.beq d e && Nat.beq o q
  | .bx a, .bx b => a.same b
  | .hb, .hb => true
  | _, _ => false
def slsAlike : List (Nat × SV) → List (Nat × SV) → Bool
  | [], [] => true
  | (i, s) :: l, (j, t) :: m => Nat.beq i j && s.alike t && slsAlike l m
  | _, _ => false
def entsAlike : List (AV × AV) → List (AV × AV) → Bool
  | [], [] => true
  | (k, v) :: l, (q, u) :: m => k.same q && v.same u && entsAlike l m
  | _, _ => false
def natsAlike : List Nat → List Nat → Bool
  | [], [] => true
  | a :: l, b :: m => Nat.beq a b && natsAlike l m
  | _, _ => false
def HObj.alike : HObj → HObj → Bool
  | .arr f s xs, .arr g t ys => (cond f g (!g)) && Nat.beq s t && AV.sames xs ys
  | .map es, .map fs => entsAlike es fs
  | .it none, .it none => true
  | .it (some (a, b, l)), .it (some (c, d, m)) => Nat.beq a c && Nat.beq b d && natsAlike l m
  | _, _ => false
def heapsAlike : H → H → Bool
  | [], [] => true
  | a :: l, b :: m => a.alike b && heapsAlike l m
  | _, _ => false
def bothAlike (x y : Fr × H) : Bool := (cond x.1.lk y.1.lk (!y.1.lk)) && slsAlike x.1.sl y.1.sl && heapsAlike x.2 y.2
def allSame : List (Option (Fr × H)) → Option (Fr × H)
  | [] => none
  | x :: l => match l with
    | [] => x
    | _ :: _ => (match x, allSame l with
      | some a, some b => cond (bothAlike a b) (some b) none
      | _, _ => none)
end
end Go.Am
/-! ## part Run -/
/- The abstract machine: how code runs. Definitions alone. -/
namespace Go.Am
noncomputable section
structure Eff where
  r : SV := .u
  wr : Option (Nat × AV) := none
def Fr.put (fr : Fr) (d : Nat) (s : SV) : Fr := { fr with sl := (d, s) :: fr.sl }
def Fr.app (fr : Fr) (dst : Option Nat) (e : Eff) : Fr :=
  match e.wr, dst with
  | none, none => fr
  | none, some d => fr.put d e.r
  | some (b, x), none => fr.put b (.bx x)
  | some (b, x), some d => (fr.put b (.bx x)).put d e.r
def Fr.dstOk (fr : Fr) : Option Nat → Bool
  | none => true
  | some d => match getS fr.sl d with | .bx _ => false | .hb => false | _ => true
section ops
variable (C : Ctx) (fr : Fr) (rec : Nat → List AV → M AV) (hp ip : List Nat)
def retE (a : AV) : M Eff := pureM { r := .v a }
def retO (a : Option AV) : M Eff := obind a retE
def retM (m : M AV) : M Eff := bindM m retE
def newVarE (ti : TI) (d : Nat) (a : AV) : M Eff :=
  if a.fits ti = true then
    if memN d hp = true then bindM (newM (.arr false ti.size [a])) fun r => retE (.ptr r 1 0 0)
    else if memN d ip = true then retE (.adr a)
    else pureM { r := .bx a }
  else failM
def newRowE (te : TI) (d : Nat) (xs : List AV) : M Eff :=
  if fitAll te xs = true then
    if memN d hp = true then bindM (newM (.arr false te.size xs)) fun r => retE (.hs r xs.length 0 xs.length te.size)
    else retE (.sl te.size xs)
  else failM
def kMove (x : SV) : M Eff :=
  match x with
  | .v a => retE a
  | .lp d off => pureM { r := .lp d off }
  | _ => failM
def kPick (c a b : Operand) : M Eff :=
  match ev fr c with
  | .v (.bool t) => kMove (ev fr (cond t a b))
  | _ => failM
def kAlloc (t : Nat) (dst : Option Nat) : M Eff :=
  match C.ti t, dst with
  | some ti, some d => newVarE hp ip ti d ti.zero
  | _, _ => failM
def kBox (t : Nat) (x : Operand) (dst : Option Nat) : M Eff :=
  match C.ti t, dst, av fr x with
  | some ti, some d, some a => newVarE hp ip ti d a
  | _, _, _ => failM
def kBuild (t : Nat) (ps : List (Nat × Operand)) : M Eff :=
  match avs fr (ps.map (·.2)), C.ti t with
  | some l, some ti => if ti.k.isAgg = true then (match buildA C t (ps.map (·.1)) l ti.zero.cells with
    | some cs => retE (.agg cs)
    | none => failM) else failM
  | _, _ => failM
def kBuildSlice (t n : Nat) (ps : List (Nat × Operand)) (dst : Option Nat) : M Eff :=
  match elemOf C t, dst, avs fr (ps.map (·.2)) with
  | some te, some d, some l => if n * te.size ≤ 2 ^ 20 then (match rowA te (ps.map (·.1)) l (List.replicate n te.zero) with
    | some xs => newRowE hp te d xs
    | none => failM) else failM
  | _, _, _ => failM
def kMakeSlice (t : Nat) (l c : Operand) (dst : Option Nat) : M Eff :=
  match elemOf C t, dst, av fr l, av fr c with
  | some te, some d, some (.int _ l), some (.int _ c) =>
    if l = c ∧ 0 ≤ l ∧ l.toNat * te.bytes ≤ 2 ^ 45 ∧ l.toNat ≤ 2 ^ 45 then newRowE hp te d (List.replicate l.toNat te.zero) else failM
  | _, _, _, _ => failM
def boxAt (d : Nat) : Option AV := match getS fr.sl d with | .bx x => some x | _ => none
def kLoad (t : Nat) (a : Operand) : M Eff :=
  match C.ti t, ev fr a with
  | some ti, .lp d off => (match boxAt fr d with | some x => retO (elemAt ti off x) | none => failM)
  | some ti, .v a => retM (loadA ti a)
  | _, _ => failM
def kStore (t : Nat) (a x : Operand) : M Eff :=
  match C.ti t, ev fr a, av fr x with
  | some ti, .lp d off, some b => if fr.lk = true then failM else (match boxAt fr d with
    | some y => (match putAt ti off y b with | some z => pureM { wr := some (d, z) } | none => failM)
    | none => failM)
  | some ti, .v a, some b => bindM (storeA ti a b) fun _ => pureM {}
  | _, _, _ => failM
def kNil (x : Operand) : M Eff :=
  match ev fr x with
  | .lp d off => pureM { r := .lp d off }
  | .v a => retO (nzA a)
  | _ => failM
def kBin (op : BinOp) (t : Nat) (x y : Operand) : M Eff :=
  match C.ti t, av fr x, av fr y with
  | some ti, some a, some b => retO (binA op ti a b)
  | _, _, _ => failM
def kUn (op : UnOp) (x : Operand) : M Eff :=
  match av fr x with
  | some a => retO (unA op a)
  | none => failM
def byteRow (s : Nat) : Bool := match C.ti s with | some ti => (match ti.k with | .slice e => isByte C e | _ => false) | none => false
def kConv (s t : Nat) (x : Operand) (dst : Option Nat) : M Eff :=
  match C.ti t, av fr x with
  | some ti, some a => (match ti.k, a with
    | .int k, .int _ n => retE (.int k (k.wrap n))
    | .str, .str s => retE (.str s)
    | .str, .nil => if byteRow C s = true then retE (.str []) else failM
    | .str, .sl 1 xs => if byteRow C s = true then (match bytesOf xs with | some s => retE (.str s) | none => failM) else failM
    | .str, .hs r v o n 1 => if byteRow C s = true then bindM (elemsM ⟨.bool, 1, 1, .nil, []⟩ (.hs r v o n 1)) (fun xs => match bytesOf xs with | some s => retE (.str s) | none => failM) else failM
    | .slice e, .str (b :: s) => (match isByte C e, C.ti e, dst with
      | true, some te, some d => if memN d hp = true then failM else newRowE hp te d (ofBytes (b :: s))
      | _, _, _ => failM)
    | _, _ => failM)
  | _, _ => failM
def kFunc (f : Nat) (first : List Operand) (caps : List Operand) : M Eff :=
  match first, avs fr caps with
  | [], some l => retE (.fn f l)
  | _, _ => failM
def optA : Option Operand → Option (Option Int)
  | none => some none
  | some x => match av fr x with | some (.int _ n) => some (some n) | _ => none
def kSlice (t : Nat) (x : Operand) (lo hi mx : Option Operand) : M Eff :=
  match C.ti t, av fr x, optA fr lo, optA fr hi, mx with
  | some ti, some a, some lo, some hi, none => (match ti.k, a with
    | .str, .str s => (match bounds lo hi s.length with | some (l, h) => retE (.str ((s.take h).drop l)) | none => failM)
    | .slice e, a => (match C.ti e with | some te => retO (sliceA te.size a lo hi) | none => failM)
    | _, _ => failM)
  | _, _, _, _, _ => failM
def kFieldAddr (s f : Nat) (x : Operand) : M Eff :=
  match fieldOf C s f with
  | some (o, ft) => (match C.ti ft with
    | some ti => (match ev fr x with
      | .lp d off => pureM { r := .lp d (off + o) }
      | .v (.ptr r v i off) => retE (.ptr r v i (off + o))
      | .v (.adr a) => (match part ti o a with | some y => retE (.adr y) | none => failM)
      | _ => failM)
    | none => failM)
  | none => failM
def kField (s f : Nat) (x : Operand) : M Eff :=
  match av fr x, fieldOf C s f with
  | some a, some (o, ft) => (match C.ti ft with | some ti => retO (part ti o a) | none => failM)
  | _, _ => failM
def kIndexAddr (t : Nat) (x i : Operand) : M Eff :=
  match av fr i, C.ti t with
  | some (.int _ n), some ti => (match ti.k, ev fr x with
    | .slice e, .v (.sl s xs) => (match C.ti e, idxN n xs.length with
      | some te, some j => if s = te.size then (match xs[j]? with | some y => retE (.adr y) | none => failM) else failM
      | _, _ => failM)
    | .slice e, .v (.hs r v o len s) => (match C.ti e, idxN n len with
      | some te, some j => if s = te.size then retE (.ptr r v (o + j) 0) else failM
      | _, _ => failM)
    | .arr len e, .lp d off => (match C.ti e, idxN n len with
      | some te, some j => pureM { r := .lp d (off + j * te.size) }
      | _, _ => failM)
    | .arr len e, .v (.ptr r v q off) => (match C.ti e, idxN n len with
      | some te, some j => retE (.ptr r v q (off + j * te.size))
      | _, _ => failM)
    | .arr len e, .v (.adr a) => (match C.ti e, idxN n len with
      | some te, some j => (match part te (j * te.size) a with | some y => retE (.adr y) | none => failM)
      | _, _ => failM)
    | _, _ => failM)
  | _, _ => failM
def kIndex (t : Nat) (x i : Operand) : M Eff :=
  match av fr x, av fr i, C.ti t with
  | some a, some (.int _ n), some ti => (match ti.k, a with
    | .arr len e, a => (match C.ti e, idxN n len with
      | some te, some j => retO (part te (j * te.size) a)
      | _, _ => failM)
    | .str, .str s => retO (strIdx s n)
    | _, _ => failM)
  | _, _, _ => failM
def kLookup (t : Nat) (m q : Operand) (ok : Bool) : M Eff :=
  match av fr m, av fr q with
  | some m, some q => retM (lookupA C t m q ok)
  | _, _ => failM
def kUpdate (t : Nat) (m q x : Operand) : M Eff :=
  match av fr m, av fr q, av fr x with
  | some m, some q, some x => bindM (updateA C t m q x) fun _ => pureM {}
  | _, _, _ => failM
def kEntry (t : Nat) (m q : Operand) : M Eff :=
  match av fr m, av fr q with
  | some m, some q => retM (entryA C t m q)
  | _, _ => failM
def kEntryStore (t : Nat) (m i x : Operand) : M Eff :=
  match av fr m, av fr i, av fr x with
  | some m, some i, some x => bindM (entryStoreA C t m i x) fun _ => pureM {}
  | _, _, _ => failM
def tupAt (a : AV) (i : Nat) : Option AV := match a with | .tup vs => vs[i]? | _ => none
def kExtract (x : Operand) (i : Nat) : M Eff :=
  match av fr x with
  | some a => retO (tupAt a i)
  | none => failM
def mmA (op : BinOp) (a b : AV) : Option AV :=
  match op, a, b with
  | .gtr, .int j x, .int k y => if j = k then some (.int j (if y > x then y else x)) else none
  | .lss, .int j x, .int k y => if j = k then some (.int j (if y < x then y else x)) else none
  | _, _, _ => none
def rowOrText (t : Nat) : Bool := match C.ti t with | some ti => (match ti.k with | .slice _ => true | .str => true | _ => false) | none => false
def kAppend (ts : List Nat) (l : List AV) (dst : Option Nat) : M Eff :=
  match ts, dst, l with
  | [t, t'], some d, [x, y] => (match elemOf C t with
    | some te => if memN d hp = true ∧ rowOrText C t' = true then bindM (elemsM te y) fun ys => retM (appendH te x ys) else failM
    | none => failM)
  | _, _, _ => failM
def lenOk (k : TK) (a : AV) : Bool :=
  match k, a with
  | .str, .str _ => true
  | .slice _, .nil => true
  | .slice _, .sl _ _ => true
  | .slice _, .hs .. => true
  | .map _ _, .nilm => true
  | .map _ _, .map _ => true
  | _, _ => false
def kLen (ts : List Nat) (l : List AV) : M Eff :=
  match ts, l with
  | [t], [a] => (match C.ti t with | some ti => if lenOk ti.k a = true then retM (lenM a) else failM | none => failM)
  | _, _ => failM
def kCall (c : Call) (dst : Option Nat) : M Eff :=
  match avs fr c.args.toList with
  | none => failM
  | some l => match c.callee with
    | .value f => (match av fr f with | some (.fn g caps) => retM (rec g (l ++ caps)) | _ => failM)
    | .builtin .len => kLen C c.argTypes.toList l
    | .builtin .append => kAppend C hp c.argTypes.toList l dst
    | .builtin .max => (match l with | [a, b] => retO (mmA .gtr a b) | _ => failM)
    | .builtin .min => (match l with | [a, b] => retO (mmA .lss a b) | _ => failM)
    | _ => failM
def kRange (t : Nat) (x : Operand) : M Eff := fun σ =>
  match mapOf C t, av fr x with
  | some _, some (.map r) => (match σ[r]? with
    | some (.map es) => bindM (newM (.it (some (r, es.length, [])))) (fun q => retE (.ptr q 0 0 0)) σ
    | _ => none)
  | _, _ => none
def opE (o : SOp) : M Eff :=
  match o.op with
  | .move x => kMove (ev fr x)
  | .assign x => kMove (ev fr x)
  | .pick c a b => kPick fr c a b
  | .alloc t => kAlloc C hp ip t o.dst
  | .box t x => kBox C fr hp ip t x o.dst
  | .build t ps => kBuild C fr t ps.toList
  | .buildSlice t n ps => kBuildSlice C fr hp t n ps.toList o.dst
  | .makeSlice t l c => kMakeSlice C fr hp t l c o.dst
  | .load t a => kLoad C fr t a
  | .store t a x => kStore C fr t a x
  | .nilCheck x => kNil fr x
  | .binOp op t x y _ => kBin C fr op t x y
  | .unOp op _ x => kUn fr op x
  | .convert s t x => (match C.ti s with | some _ => kConv C fr hp s t x o.dst | none => failM)
  | .makeFunc (.func f) first caps => kFunc fr f first.toList caps.toList
  | .makeMap _ none => bindM (newM (.map [])) fun r => retE (.map r)
  | .slice t x lo hi mx => kSlice C fr t x lo hi mx
  | .fieldAddr s x f => kFieldAddr C fr s f x
  | .field s x f => kField C fr s f x
  | .indexAddr t x i => kIndexAddr C fr t x i
  | .index t x i => kIndex C fr t x i
  | .lookup t m q ok => kLookup C fr t m q ok
  | .mapUpdate t m q x => kUpdate C fr t m q x
  | .insert t m q x => kUpdate C fr t m q x
  | .mapEntry t m q => kEntry C fr t m q
  | .entryStore t m i x => kEntryStore C fr t m i x
  | .extract x i => kExtract fr x i
  | .range t x => kRange C fr t x
  | .call c => kCall C fr rec hp c o.dst
  | _ => failM
def stepE (o : SOp) : M Fr :=
  if fr.dstOk o.dst = true then bindM (opE C fr rec hp ip o) fun e => (if fr.lk = true ∧ e.wr.isSome = true then failM else pureM (fr.app o.dst e)) else failM
end ops
abbrev Gd := Option (Nat × Bool)
mutual
def flatOp (g : Gd) : AOp → List (SOp × Gd)
  | .op o => [(o, g)]
  | .cnd j _ want body pk => flatOps (some (j, want)) body ++ [(pk, g)]
def flatOps (g : Gd) : List AOp → List (SOp × Gd)
  | [] => []
  | a :: l => flatOp g a ++ flatOps g l
end
def dstsF : List (SOp × Gd) → List Nat
  | [] => []
  | (o, _) :: l => o.dst.toList ++ dstsF l
def Fr.drop (fr : Fr) : List Nat → Option Fr
  | [] => some fr
  | d :: l => if fr.dstOk (some d) = true then Fr.drop (fr.put d .u) l else none
inductive Ext where
  | nrm | ex (id : Nat) | ret
section run
variable (C : Ctx) (rec : Nat → List AV → M AV) (hp ip : List Nat)
def pkOps : Op → Option (Operand × Operand × Operand)
  | .pick c a b => some (c, a, b)
  | _ => none
mutual
def runOp : AOp → Fr → M Fr
  | .op o, fr => stepE C fr rec hp ip o
  | .cnd _ c want body pk, fr =>
    match getS fr.sl c, pkOps pk.op, fr.drop (dstsF (flatOps none body)), fr.dstOk pk.dst, pk.dst with
    | .v (.bool t), some (.tmp c', a, b), some fr0, true, some d =>
      if c' = c then
        bindM (if t = want then bindM (runOps body { fr with lk := true }) fun fr' => obind (av fr' (cond t a b)) pureM else obind (av fr0 (cond t a b)) pureM) fun x =>
        pureM (fr0.put d (.v x))
      else failM
    | _, _, _, _, _ => failM
def runOps : List AOp → Fr → M Fr
  | [], fr => pureM fr
  | a :: l, fr => bindM (runOp a fr) fun fr' => runOps l fr'
end
def runPost : List DOp → Fr → M Fr
  | [], fr => pureM fr
  | d :: l, fr => bindM (stepE C fr rec hp ip d.o) fun fr' => runPost l fr'
/-! ### a region whose order is open -/
abbrev Rs := List (Nat × SV)
def getR : Rs → Nat → Option SV
  | [], _ => none
  | (i, s) :: l, j => if i = j then some s else getR l j
def hideS (sd : List Nat) (t : Nat) (s : SV) : SV :=
  match s with
  | .bx x => if memN t sd = true then .hb else .bx x
  | s => s
def hideL (sd : List Nat) : List (Nat × SV) → List (Nat × SV)
  | [] => []
  | (t, s) :: l => (t, hideS sd t s) :: hideL sd l
def seeD (sd : List Nat) (base : Fr) (ops : List DOp) (rs : Rs) : List Nat → Option Fr
  | [] => some { base with sl := hideL sd base.sl }
  | i :: l => match seeD sd base ops rs l, ops[i]?, getR rs i with
    | some fr, some d, some s => (match d.o.dst with | some t => some (fr.put t (hideS sd t s)) | none => some fr)
    | _, _, _ => none
def endD (base : Fr) : List DOp → Rs → Fr
  | d :: l, (_, s) :: rs => match d.o.dst with | some t => (endD base l rs).put t s | none => endD base l rs
  | _, _ => base
def wantD (rs : Rs) : Option (Nat × Bool) → Option Bool
  | none => some true
  | some (j, w) => match getR rs j with | some (.v (.bool t)) => some (t == w) | some (.v (.tup [])) => some false | _ => none
def Eff.calm (e : Eff) : Option SV := match e.wr with | none => some e.r | some _ => none
def calmO (x : Option (Eff × H)) : Option (SV × H) :=
  match x with
  | some (e, σ) => (match e.calm with | some s => some (s, σ) | none => none)
  | none => none
def quietO (x : Option (Eff × H)) (σ : H) : Option (SV × H) :=
  match calmO x with
  | some (s, []) => some (s, σ)
  | _ => none
def looksOp : Op → Bool
  | .load _ _ => true
  | .lookup _ _ _ _ => true
  | _ => false
abbrev Wr := List (Nat × AV)
def getW : Wr → Nat → Option AV
  | [], _ => none
  | (i, s) :: l, j => if i = j then some s else getW l j
def quietOp (fr : Fr) : Op → Bool
  | .call c => (match c.callee with
    | .value f => (match avs fr c.args.toList, av fr f with | some l, some (.fn _ caps) => AV.noRefs l && AV.noRefs caps | _, _ => false)
    | .builtin .len => true
    | .builtin .max => true
    | .builtin .min => true
    | _ => false)
  | _ => true
def oneD (sd : List Nat) (base : Fr) (ops : List DOp) (rs : Rs) (d : DOp) (σ : H) : Option (SV × H) :=
  match wantD rs d.guard, seeD sd base ops rs d.bef with
  | some true, some fr => (match d.k with
    | .q => if quietOp fr d.o.op = true then quietO (opE C fr rec hp ip d.o []) σ else none
    | .l _ _ => if looksOp d.o.op = true then calmO (opE C fr rec hp ip d.o σ) else none
    | .w => calmO (opE C fr rec hp ip d.o σ)
    | .s => none)
  | some false, some _ => some (.v (.tup []), σ)
  | _, _ => none
def storeD (sd : List Nat) (base : Fr) (ops : List DOp) (rs : Rs) (fin : Fr) (d : DOp) : Option (Nat × AV) :=
  match d.guard, d.o.dst, d.o.op, seeD sd base ops rs d.bef with
  | none, none, .store t a x, some fr => (match ev fr a, av fr x, C.ti t with
    | .lp b off, some y, some ti => (match getS fr.sl b, memN b sd, boxAt fin b with
      | .hb, true, some z => (match putAt ti off z y with | some z' => some (b, z') | none => none)
      | _, _, _ => none)
    | _, _, _ => none)
  | _, _, _, _ => none
def DK.isS : DK → Bool
  | .s => true
  | _ => false
def DK.isW : DK → Bool
  | .w => true
  | _ => false
def allD (sd : List Nat) (base : Fr) (ops : List DOp) : Nat → List DOp → Rs → List H → Option (Rs × List H)
  | _, [], rs, hs => some (rs, hs)
  | i, d :: l, rs, hs => match d.k.isS, hs with
    | true, hs => allD sd base ops (i + 1) l ((i, .u) :: rs) hs
    | false, [] => none
    | false, σ :: hs => (match oneD C rec hp ip sd base ops rs d σ with
      | some (s, σ') => allD sd base ops (i + 1) l ((i, s) :: rs) (match d.k.isW with | true => σ' :: σ :: hs | false => σ :: hs)
      | none => none)
def putsD (sd : List Nat) (base : Fr) (ops : List DOp) (rs : Rs) (fin : Fr) : List DOp → Option Wr
  | [] => some []
  | d :: l => match d.k.isS, putsD sd base ops rs fin l with
    | false, ws => ws
    | true, some ws => (match storeD C sd base ops rs fin d with
      | some (b, z) => (match getW ws b with | none => some ((b, z) :: ws) | some _ => none)
      | none => none)
    | true, none => none
def SV.same : SV → SV → Bool
  | .v a, .v b => a.same b
  | .u, .u => true
  | _, _ => false
def sameD (sd : List Nat) (base : Fr) (ops : List DOp) (rs : Rs) (i : Nat) (d : DOp) : List H → Bool
  | [] => true
  | σ :: l => (match oneD C rec hp ip sd base ops rs d σ, getR rs i with | some (s, _), some s' => s.same s' | _, _ => false) && sameD sd base ops rs i d l
def between (lo hi : Nat) (hs : List H) : List H := (hs.drop lo).take (hi + 1 - lo)
def checkD (sd : List Nat) (base : Fr) (ops : List DOp) (rs : Rs) (hs : List H) : Nat → List DOp → Bool
  | _, [] => true
  | i, d :: l => (match d.k with
    | .l lo hi => lo == hi || sameD C rec hp ip sd base ops rs i d (between lo hi hs)
    | _ => true) && checkD sd base ops rs hs (i + 1) l
def putW (fr : Fr) : Wr → Fr
  | [] => fr
  | (b, z) :: l => (putW fr l).put b (.bx z)
def dstsD : List DOp → List Nat
  | [] => []
  | d :: l => d.o.dst.toList ++ dstsD l
def runD (sd : List Nat) (ops : List DOp) (fr : Fr) : M Fr := fun σ =>
  match fr.lk, fr.drop (dstsD ops) with
  | false, some base => (match allD C rec hp ip sd base ops 0 ops [] [σ] with
    | some (rs, σ' :: hs) => (match putsD C sd base ops rs (endD base ops.reverse rs) ops with
      | some ws => if checkD C rec hp ip sd base ops rs (σ' :: hs).reverse 0 ops = true then some (putW (endD base ops.reverse rs) ws, σ') else none
      | none => none)
    | _ => none)
  | _, _ => none
def keepS (sl : List (Nat × SV)) : List Nat → List (Nat × SV)
  | [] => []
  | t :: l => (t, getS sl t) :: keepS sl l
def refsIn (keep : List Nat) : List (Nat × SV) → Bool
  | [] => true
  | (_, .lp d _) :: l => memN d keep && refsIn keep l
  | _ :: l => refsIn keep l
def norm (keep : List Nat) (fr : Fr) : Option Fr :=
  if refsIn keep (keepS fr.sl keep) = true then some { fr with sl := keepS fr.sl keep } else none
def iter {R : Type} : Nat → ((Fr → M R) → Fr → M R) → Fr → M R
  | 0, _ => fun _ => failM
  | n + 1, F => F (iter n F)
def readyO (D : List DOp) (done : List Nat) : List Nat :=
  (List.range D.length).filter fun i => !memN i done && (match D[i]? with | some d => d.aft.all fun x => memN x done | none => false)
def extO (D : List DOp) : Nat → List Nat → List (List Nat)
  | 0, _ => [[]]
  | k + 1, done => (readyO D done).flatMap fun i => (extO D k (i :: done)).map fun q => i :: q
def seqD (D : List DOp) : List Nat → Fr → M Fr
  | [], fr => pureM fr
  | i :: l, fr => match D[i]? with
    | some d => bindM (stepE C fr rec hp ip d.o) fun fr' => seqD D l fr'
    | none => failM
def seqN (keep : List Nat) (D : List DOp) (q : List Nat) (fr : Fr) : M Fr := bindM (seqD C rec hp ip D q fr) fun fr' => match norm keep fr' with | some f => pureM f | none => failM
def allR (keep : List Nat) (D : List DOp) : List (List Nat) → Fr → M Fr
  | [], fr => failM
  | q :: qs, fr => fun σ => match qs with
    | [] => seqN C rec hp ip keep D q fr σ
    | _ :: _ => (match seqN C rec hp ip keep D q fr σ, allR keep D qs fr σ with
      | some a, some b => cond (bothAlike a b) (some a) none
      | _, _ => none)
/-! ### a loop over a function that goes through a row from its end on -/
def frzS : SV → SV
  | .v a => .v a
  | .bx x => .v (.adr x)
  | _ => .u
def frzSl : List (Nat × SV) → List (Nat × SV)
  | [] => []
  | (t, s) :: l => (t, frzS s) :: frzSl l
def Fr.frz (keep : List Nat) (fr : Fr) : Fr := { sl := frzSl (keepS fr.sl keep), lk := false }
def rowOfA (ti : TI) : AV → Option (List AV)
  | .nil => some []
  | .sl s xs => if s = ti.size ∧ fitAll ti xs = true ∧ xs.length ≤ 2 ^ 40 ∧ xs.length * ti.bytes ≤ 2 ^ 45 then some xs else none
  | _ => none
def rndL (one : Nat → AV → M Unit) : Nat → List AV → M Unit
  | _, [] => pureM ()
  | i, x :: l => bindM (rndL one (i + 1) l) fun _ => one i x
/-! ### a loop over a map: each order is run, and all must tell the same -/
def itSlot : Op → Option Nat
  | .next (.tmp d) false => some d
  | _ => none
def headOk (σ : H) (q m n : Nat) (sn : List Nat) : Bool :=
  match σ[q]?, σ[m]? with
  | some (.it (some (m', n', sn'))), some (.map es) => Nat.beq m' m && Nat.beq n' n && natsAlike sn' sn && Nat.beq es.length n
  | _, _ => false
def without (i : Nat) : List Nat → List Nat
  | [] => []
  | j :: l => cond (Nat.beq i j) (without i l) (j :: without i l)
def normM (keep : List Nat) (fr : Fr) : M Fr := match norm keep fr with | some f => pureM f | none => failM
def rndM (keep : List Nat) (q m n n1 n2 e1 id2 : Nat) (ops : Fr → M Fr) (body : Fr → M (Ext × Fr)) (i : Nat) (sn : List Nat) (fr : Fr) : M Fr := fun σ =>
  match σ[m]? with
  | some (.map es) => (match es[i]? with
    | some (k, v) => bindM (ops (((fr.put n1 (.v (.tup [.bool true, k, v]))).put n2 (.v (.bool true))).put e1 (.v (.tup [k, v])))) (fun f =>
        bindM (body f) fun p => match p.1 with
          | .nrm => normM keep p.2
          | .ex j => cond (Nat.beq j id2) (normM keep p.2) failM
          | .ret => failM) (σ.set q (.it (some (m, n, i :: sn))))
    | none => none)
  | _ => none
def slotsOk (d q n1 n2 e1 : Nat) (fr : Fr) : Bool :=
  match getS fr.sl d with
  | .v (.ptr q' 0 0 0) => Nat.beq q' q && fr.dstOk (some n1) && fr.dstOk (some n2) && fr.dstOk (some e1)
  | _ => false
def ordM (q m n n1 n2 : Nat) (tst : Fr → Bool) (rnd : Nat → List Nat → Fr → M Fr) : Nat → List Nat → List Nat → Fr → M Fr
  | 0, _, _, _ => failM
  | k + 1, sn, l, fr => fun σ => match tst fr && headOk σ q m n sn with
    | false => none
    | true => (match l with
      | [] => some (((fr.put n1 (.v (.tup [.bool false]))).put n2 (.v (.bool false))), σ.set q (.it none))
      | _ :: _ => allSame (l.map fun i => bindM (rnd i sn fr) (fun f => ordM q m n n1 n2 tst rnd k (i :: sn) (without i l) f) σ))
def mlpM (keep : List Nat) (o2 o3 o4 : SOp) (id2 : Nat) (ops : Fr → M Fr) (body : Fr → M (Ext × Fr)) (fr : Fr) : M Fr := fun σ =>
  match norm keep fr, itSlot o2.op, o2.dst, o3.dst, o4.dst with
  | some fr0, some d, some n1, some n2, some e1 => (match getS fr0.sl d with
    | .v (.ptr q 0 0 0) => (match σ[q]? with
      | some (.it (some (m, n, []))) => ordM q m n n1 n2 (slotsOk d q n1 n2 e1) (rndM keep q m n n1 n2 e1 id2 ops body) (n + 1) [] (List.range n) fr0 σ
      | _ => none)
    | _ => none)
  | _, _, _, _, _ => none
def den (n : Nat) : ACode → Fr → M (Ext × Fr)
  | .skip, fr => pureM (.nrm, fr)
  | .reg ops, fr => bindM (runOps C rec hp ip ops fr) fun fr' => pureM (.nrm, fr')
  | .drw sd ops post, fr => bindM (runD C rec hp ip sd ops fr) fun fr' => bindM (runPost C rec hp ip post fr') fun fr' => pureM (.nrm, fr')
  | .all keep ops, fr => bindM (allR C rec hp ip keep ops (extO ops ops.length []) fr) fun fr' => pureM (.nrm, fr')
  | .seq a b, fr => bindM (den n a fr) fun p => match p.1 with | .nrm => den n b p.2 | _ => pureM p
  | .cond c a b, fr => match ev fr c with
    | .v (.bool t) => cond t (den n a fr) (den n b fr)
    | _ => failM
  | .block id b, fr => bindM (den n b fr) fun p => match p.1 with | .ex i => if i = id then pureM (.nrm, p.2) else pureM p | _ => pureM p
  | .loop keep b, fr => iter n (fun self fr => match norm keep fr with
      | some fr0 => bindM (den n b fr0) fun p => match p.1 with | .nrm => self p.2 | _ => pureM p
      | none => failM) fr
  | .exit id, fr => pureM (.ex id, fr)
  | .ret, fr => pureM (.ret, fr)
  | .rng t p q keep asg b, fr => match getS fr.sl t with
    | .v (.fn f [.adr s]) => (match ((look f C.back).bind C.ti).bind fun ti => rowOfA ti s with
      | some xs => bindM (rndL (fun i x => bindM (den n asg (((fr.frz keep).put p (.v (.int .i64 i))).put q (.v x))) fun r => match r.1 with
          | .nrm => bindM (den n b r.2) fun r => match r.1 with
            | .nrm => pureM ()
            | _ => failM
          | _ => failM) 0 xs) fun _ => pureM (.nrm, fr.frz keep)
      | none => failM)
    | _ => failM
  | .mlp keep o2 o3 o4 id1 id2 rest b, fr => bindM (mlpM keep o2 o3 o4 id2 (runOps C rec hp ip rest) (den n b) fr) fun fr' => pureM (.ex id1, fr')
end run
def results (C : Ctx) (fr : Fr) : List RS → Option (List AV)
  | [] => some []
  | .tmp t :: l => match getS fr.sl t, results C fr l with
    | .v a, some as => some (a :: as)
    | _, _ => none
  | .cell t ty :: l => match getS fr.sl t, C.ti ty, results C fr l with
    | .bx a, some ti, some as => if a.fits ti = true then some (a :: as) else none
    | _, _, _ => none
def tupled : List AV → AV
  | [a] => a
  | l => .tup l
def argSlots : Nat → List AV → List (Nat × SV)
  | _, [] => []
  | i, a :: l => (i, .v a) :: argSlots (i + 1) l
def runFn (C : Ctx) (rec : Nat → List AV → M AV) (n : Nat) (fi : FnI) (args : List AV) : M AV :=
  if args.length ≤ fi.nt then bindM (den C rec fi.hp fi.ip n fi.code { sl := argSlots 0 args, lk := false }) fun p =>
    match p.1 with
    | .ex _ => failM
    | _ => (match results C p.2 fi.results with | some l => pureM (tupled l) | none => failM)
  else failM
/-! ### what lies in the heap, laid out -/
def mapO2 (f : AV → Option (AV × List Nat)) : List AV → Option (List AV × List Nat)
  | [] => some ([], [])
  | a :: l => match f a, mapO2 f l with
    | some (b, r), some (m, s) => some (b :: m, r ++ s)
    | _, _ => none
def snapA (σ : H) : Nat → AV → Option (AV × List Nat)
  | 0, a => if a.noRef = true then some (a, []) else none
  | n + 1, a => if a.noRef = true then some (a, []) else
    match a with
    | .agg cs => (match mapO2 (snapA σ n) cs with | some (l, rs) => some (.agg l, rs) | none => none)
    | .tup cs => (match mapO2 (snapA σ n) cs with | some (l, rs) => some (.tup l, rs) | none => none)
    | .sl s xs => (match mapO2 (snapA σ n) xs with | some (l, rs) => some (.sl s l, rs) | none => none)
    | .hs r v o len s => (match arrAt σ r v with
      | some (_, sz, xs) => if sz = s ∧ o + len ≤ xs.length then (match mapO2 (snapA σ n) ((xs.drop o).take len) with | some (l, rs) => some (.sl s l, r :: rs) | none => none) else none
      | none => none)
    | _ => none
def snapL (σ : H) (args : List AV) : Option (List AV × List Nat) := mapO2 (snapA σ 200) args
def frzH (σ : H) : List Nat → H
  | [] => σ
  | r :: rs => frzH (match σ[r]? with | some (.arr _ sz xs) => σ.set r (.arr true sz xs) | _ => σ) rs
def AV.scalar : AV → Bool
  | .bool _ | .int .. | .str _ => true
  | _ => false
def AV.scalars : AV → Bool
  | .tup vs => vs.all AV.scalar
  | a => a.scalar
def snapM (m : M AV) : M AV := fun σ =>
  match m σ with
  | some (r, σ1) => (match snapA σ1 200 r with | some (b, rs) => some (b, frzH σ1 rs) | none => none)
  | none => none
def ownM (m : M AV) : Option AV :=
  match m [] with
  | some (r, σ1) => (match snapA σ1 200 r with | some (b, _) => some b | none => none)
  | none => none
def isoM (args : List AV) (m : List AV → M AV) : M AV := fun σ =>
  match AV.noRefs args with
  | true => (match ownM (m args) with | some b => some (b, σ) | none => none)
  | false => match snapL σ args with
    | some (args', rs) => (match ownM (m args') with
      | some b => some (b, match b.scalars with | true => σ | false => frzH σ rs)
      | none => none)
    | none => snapM (m args) σ
def twoM (args : List AV) (ma mb : List AV → M AV) : M AV := fun σ =>
  match (match AV.noRefs args with | true => some args | false => (match snapL σ args with | some (args', _) => some args' | none => none)) with
  | some args' => (match ownM (ma args'), ownM (mb args') with
    | some b, some b' => if b.scalars = true ∧ b.same b' = true then some (b, σ) else none
    | _, _ => none)
  | none => none
def acallN (C : Ctx) (n : Nat) (rec : Nat → List AV → M AV) (f : Nat) (args : List AV) : M AV :=
  match look f C.alt with
  | some x => twoM args (fun as => runFn C rec n x.1 as) (fun as => runFn C rec n x.2 as)
  | none => match look f C.prim with
    | some p => p args
    | none => failM
def acall (C : Ctx) : Nat → Nat → List AV → M AV
  | 0 => fun _ _ => failM
  | n + 1 => fun f args => match C.fn f with
    | some fi => isoM args fun as => runFn C (acall C n) n fi as
    | none => acallN C n (acall C n) f args
end
end Go.Am
/-! ## part Prim -/
/- The abstract machine's primitives: what some of Go's library functions answer. -/
namespace Go.Am
def digitsN : Nat → Nat → List UInt8
  | 0, _ => []
  | k + 1, n => if n < 10 then [UInt8.ofNat (48 + n)] else digitsN k (n / 10) ++ [UInt8.ofNat (48 + n % 10)]
def itoa (n : Int) : List UInt8 := if n < 0 then 45 :: digitsN 20 n.natAbs else digitsN 20 n.toNat
def primItoa : List AV → M AV
  | [.int .i64 n] => pureM (.str (itoa n))
  | _ => failM
def primItoaS : List AV → M AV
  | [.int .i64 n] => if 0 ≤ n ∧ n < 100 then pureM (.str (itoa n)) else failM
  | _ => failM
def primItoaT : List AV → M AV
  | [.int .i64 n] => if -9223372036854775808 ≤ n ∧ n ≤ 9223372036854775807 then pureM (.str (itoa n)) else failM
  | _ => failM
noncomputable def primOf (ts : List TI) (fi : FnI) : List AV → M AV
  | [.nil] => runFn ⟨ts, [], [], [], []⟩ (fun _ _ => failM) 1 fi [.nil]
  | [.sl s xs] => runFn ⟨ts, [], [], [], []⟩ (fun _ _ => failM) 1 fi [.sl s xs]
  | [.hs r v o n s] => runFn ⟨ts, [], [], [], []⟩ (fun _ _ => failM) 1 fi [.hs r v o n s]
  | _ => failM
def cloneOf (sz : Nat) (xs : List AV) : M AV :=
  match xs with
  | [] => pureM (.sl sz [])
  | _ :: _ => bindM (newM (.arr false sz xs)) fun r => pureM (.hs r xs.length 0 xs.length sz)
def primClone (sz : Nat) : List AV → M AV
  | [.nil] => pureM .nil
  | [.sl s xs] => if s = sz then cloneOf sz xs else failM
  | [.hs r v o n s] => fun σ => (match arrAt σ r v with
    | some (_, sz', xs) => if s = sz ∧ sz' = sz ∧ o + n ≤ xs.length then cloneOf sz ((xs.drop o).take n) σ else none
    | none => none)
  | _ => failM
/-! ### rows, turned in place -/
def unS : AV → Option (List UInt8)
  | .str s => some s
  | _ => none
def unI : AV → Option Int
  | .int .i64 n => some n
  | _ => none
def unAll {α : Type} (un : AV → Option α) : List AV → Option (List α)
  | [] => some []
  | x :: l => match un x, unAll un l with
    | some a, some m => some (a :: m)
    | _, _ => none
def sortRow {α : Type} (un : AV → Option α) (mk : α → AV) (le : α → α → Bool) : List AV → M AV
  | [.nil] => pureM (.tup [])
  | [.sl _ []] => pureM (.tup [])
  | [.hs r v o n s] => fun σ => match arrAt σ r v with
    | some (false, sz, xs) => if sz = 1 ∧ s = 1 ∧ o + n ≤ xs.length ∧ n < 2 ^ 62 then (match unAll un ((xs.drop o).take n) with
      | some zs => some (.tup [], σ.set r (.arr false 1 (setCells xs o ((zs.mergeSort le).map mk))))
      | none => none) else none
    | _ => none
  | _ => failM
def squash {α : Type} [DecidableEq α] : List α → List α
  | [] => []
  | [a] => [a]
  | a :: b :: l => if a = b then squash (b :: l) else a :: squash (b :: l)
def compactRow {α : Type} [DecidableEq α] (un : AV → Option α) (mk : α → AV) (z : α) : List AV → M AV
  | [.nil] => pureM .nil
  | [.hs r v o n s] => fun σ => match arrAt σ r v with
    | some (false, sz, xs) => if sz = 1 ∧ s = 1 ∧ o + n ≤ xs.length ∧ n < 2 ^ 62 then (match unAll un ((xs.drop o).take n) with
      | some zs => some (.hs r v o (squash zs).length 1, σ.set r (.arr false 1 (setCells xs o ((squash zs ++ List.replicate (zs.length - (squash zs).length) z).map mk))))
      | none => none) else none
    | _ => none
  | _ => failM
def primSort : List AV → M AV := sortRow unS .str fun x y => decide (x ≤ y)
def primSortI : List AV → M AV := sortRow unI (.int .i64) fun x y => decide (x ≤ y)
def primCompact : List AV → M AV := compactRow unS .str []
def headA (σ : H) (r0 : Nat) : AV → Option Int
  | .hs r v o (_ + 1) 1 => if r = r0 then none else (match arrAt σ r v with
    | some (_, 1, xs) => (match xs[o]? with | some (.int .i64 h) => some h | _ => none)
    | _ => none)
  | .sl 1 (.int .i64 h :: _) => some h
  | _ => none
def sortH (xs : List AV) (hs : List Int) : List AV := ((xs.zip hs).mergeSort fun a b => decide (a.2 ≤ b.2)).map (·.1)
def primSortH (f : Nat) : List AV → M AV
  | [.nil, .fn f' []] => if f' = f then pureM (.tup []) else failM
  | [.hs r v o n s, .fn f' []] => fun σ => match arrAt σ r v with
    | some (false, sz, xs) => if f' = f ∧ sz = 1 ∧ s = 1 ∧ o + n ≤ xs.length ∧ n < 2 ^ 62 then (match unAll (headA σ r) ((xs.drop o).take n) with
      | some hs => if hs.Nodup then some (.tup [], σ.set r (.arr false 1 (setCells xs o (sortH ((xs.drop o).take n) hs)))) else none
      | none => none) else none
    | _ => none
  | _ => failM
end Go.Am
/-! ## part Rel -/
/- The abstract machine and the model: how values, memory and frames are one another's. -/
namespace Go.Am
structure G where
  im : Nat → Nat → Option Value
  loc : Nat → Nat → Option (Nat × Nat × Nat)
theorem AV.cells_size {x c : AV} (h : c ∈ x.cells) : SizeOf.sizeOf c ≤ SizeOf.sizeOf x := by
  cases x <;> simp only [AV.cells, List.mem_singleton] at h <;> first | (subst h; exact Nat.le_refl _) | skip
  have := List.sizeOf_lt_of_mem h
  simp; omega
def VR (g : G) : AV → Value → Prop
  | .bool b, v => v = .bool b
  | .int k n, v => v = .int k n
  | .str s, v => ∃ bs : ByteArray, v = .string bs ∧ bs.data.toList = s
  | .agg cs, v => ∃ vs : Array Value, v = .agg vs ∧ vs.size = cs.length ∧ ∀ (j : Nat) (c : AV), (h : cs[j]? = some c) → ∃ u, vs[j]? = some u ∧ u.oneCell' = true ∧ VR g c u
  | .tup cs, v => ∃ vs : Array Value, v = .tuple vs ∧ vs.size = cs.length ∧ ∀ (j : Nat) (c : AV), (h : cs[j]? = some c) → ∃ u, vs[j]? = some u ∧ VR g c u
  | .nil, v => v = .slice none 0 0
  | .sl sz xs, v => ∃ a cap, v = .slice (some a) xs.length cap ∧ xs.length ≤ cap ∧ (xs = [] ∨ ∃ b off, a = ⟨b, off, none⟩ ∧ ∀ (i : Nat) (x : AV), (h : xs[i]? = some x) → x.cells.length = sz ∧ ∀ (j : Nat) (c : AV), (h' : x.cells[j]? = some c) → ∃ u, g.im b (off + i * sz + j) = some u ∧ u.oneCell' = true ∧ VR g c u)
  | .adr a, v => ∃ b off, v = .pointer (some ⟨b, off, none⟩) ∧ ∀ (j : Nat) (c : AV), (h : a.cells[j]? = some c) → ∃ u, g.im b (off + j) = some u ∧ u.oneCell' = true ∧ VR g c u
  | .ptr r v' i off, v => ∃ b sz N, g.loc r v' = some (b, sz, N) ∧ v = .pointer (some ⟨b, i * sz + off, none⟩)
  | .hs r v' o n sz, v => ∃ b N a cap, g.loc r v' = some (b, sz, N) ∧ v = .slice (some a) n cap ∧ n ≤ cap ∧ ((a = ⟨b, o * sz, none⟩ ∧ v' ≤ o + cap ∧ (o + cap) * sz ≤ N) ∨ (n = 0 ∧ cap = 0 ∧ o ≠ 0 ∧ v' ≤ o))
  | .map r, v => ∃ b sz N, g.loc r 0 = some (b, sz, N) ∧ v = .map (some b)
  | .nilp, v => v = .pointer none
  | .nilm, v => v = .map none
  | .nilf, v => v = .nilFunc
  | .fn f caps, v => ∃ vs : Array Value, v = .func (.func f) #[] vs ∧ vs.size = caps.length ∧ ∀ (j : Nat) (c : AV), (h : caps[j]? = some c) → ∃ u, vs[j]? = some u ∧ VR g c u
termination_by a => SizeOf.sizeOf a
decreasing_by
  all_goals first
    | (have h1 := List.sizeOf_lt_of_mem (List.mem_of_getElem? h); have h2 := AV.cells_size (List.mem_of_getElem? h'); simp; omega)
    | (have h2 := AV.cells_size (List.mem_of_getElem? h); simp; omega)
    | (have h1 := List.sizeOf_lt_of_mem (List.mem_of_getElem? h); simp; omega)
def MemR (g : G) (rd : Nat → Option Value) (off : Nat) (x : AV) : Prop :=
  ∀ (j : Nat) (c : AV), x.cells[j]? = some c → ∃ u, rd (off + j) = some u ∧ u.oneCell' = true ∧ VR g c u
def VRs (g : G) (cs : List AV) (vs : Array Value) : Prop :=
  vs.size = cs.length ∧ ∀ (j : Nat) (c : AV), cs[j]? = some c → ∃ u, vs[j]? = some u ∧ VR g c u
theorem VR_bool {g : G} {b v} : VR g (.bool b) v ↔ v = .bool b := by rw [VR]
theorem VR_int {g : G} {k n v} : VR g (.int k n) v ↔ v = .int k n := by rw [VR]
theorem VR_str {g : G} {s v} : VR g (.str s) v ↔ ∃ bs : ByteArray, v = .string bs ∧ bs.data.toList = s := by rw [VR]
theorem VR_nil {g : G} {v} : VR g .nil v ↔ v = .slice none 0 0 := by rw [VR]
theorem VR_nilp {g : G} {v} : VR g .nilp v ↔ v = .pointer none := by rw [VR]
theorem VR_nilm {g : G} {v} : VR g .nilm v ↔ v = .map none := by rw [VR]
theorem VR_nilf {g : G} {v} : VR g .nilf v ↔ v = .nilFunc := by rw [VR]
theorem VR_agg {g : G} {cs v} : VR g (.agg cs) v ↔ ∃ vs : Array Value, v = .agg vs ∧ vs.size = cs.length ∧ ∀ (j : Nat) (c : AV), cs[j]? = some c → ∃ u, vs[j]? = some u ∧ u.oneCell' = true ∧ VR g c u := by rw [VR]
theorem VR_tup {g : G} {cs v} : VR g (.tup cs) v ↔ ∃ vs : Array Value, v = .tuple vs ∧ VRs g cs vs := by rw [VR]; rfl
theorem VR_fn {g : G} {f cs v} : VR g (.fn f cs) v ↔ ∃ vs : Array Value, v = .func (.func f) #[] vs ∧ VRs g cs vs := by rw [VR]; rfl
theorem VR_sl {g : G} {sz xs v} : VR g (.sl sz xs) v ↔ ∃ a cap, v = .slice (some a) xs.length cap ∧ xs.length ≤ cap ∧ (xs = [] ∨ ∃ b off, a = ⟨b, off, none⟩ ∧ ∀ (i : Nat) (x : AV), xs[i]? = some x → x.cells.length = sz ∧ MemR g (g.im b) (off + i * sz) x) := by rw [VR]; rfl
theorem VR_adr {g : G} {a v} : VR g (.adr a) v ↔ ∃ b off, v = .pointer (some ⟨b, off, none⟩) ∧ MemR g (g.im b) off a := by rw [VR]; rfl
theorem VR_ptr {g : G} {r v' i off v} : VR g (.ptr r v' i off) v ↔ ∃ b sz N, g.loc r v' = some (b, sz, N) ∧ v = .pointer (some ⟨b, i * sz + off, none⟩) := by rw [VR]
theorem VR_hs {g : G} {r v' o n sz v} : VR g (.hs r v' o n sz) v ↔ ∃ b N a cap, g.loc r v' = some (b, sz, N) ∧ v = .slice (some a) n cap ∧ n ≤ cap ∧ ((a = ⟨b, o * sz, none⟩ ∧ v' ≤ o + cap ∧ (o + cap) * sz ≤ N) ∨ (n = 0 ∧ cap = 0 ∧ o ≠ 0 ∧ v' ≤ o)) := by rw [VR]
theorem VR_map {g : G} {r v} : VR g (.map r) v ↔ ∃ b sz N, g.loc r 0 = some (b, sz, N) ∧ v = .map (some b) := by rw [VR]
structure G.le (g g' : G) : Prop where
  im : ∀ b o u, g.im b o = some u → g'.im b o = some u
  loc : ∀ r v p, g.loc r v = some p → g'.loc r v = some p
theorem G.le.refl (g : G) : g.le g := ⟨fun _ _ _ h => h, fun _ _ _ h => h⟩
theorem G.le.trans {a b c : G} (h : a.le b) (k : b.le c) : a.le c := ⟨fun _ _ _ x => k.im _ _ _ (h.im _ _ _ x), fun _ _ _ x => k.loc _ _ _ (h.loc _ _ _ x)⟩
theorem VR.mono' {g g' : G} (him : ∀ b o u, g.im b o = some u → g'.im b o = some u) :
    ∀ (n : Nat) (a : AV), SizeOf.sizeOf a ≤ n → (a.noRef = true ∨ ∀ r v p, g.loc r v = some p → g'.loc r v = some p) → ∀ v, VR g a v → VR g' a v := by
  intro n
  induction n with
  | zero => intro a ha; cases a <;> simp at ha <;> omega
  | succ n ih =>
    have nr : ∀ (cs : List AV), (AV.noRefs cs = true) → ∀ c ∈ cs, c.noRef = true := by
      intro cs
      induction cs with
      | nil => intro _ c hc; cases hc
      | cons x l ihl =>
        intro h c hc
        simp only [AV.noRefs, Bool.and_eq_true] at h
        rcases List.mem_cons.1 hc with rfl | hc
        · exact h.1
        · exact ihl h.2 c hc
    have nc : ∀ (x : AV), x.noRef = true → ∀ c ∈ x.cells, c.noRef = true := by
      intro x hx c hc
      cases x <;> simp only [AV.cells, List.mem_singleton] at hc <;> first | (subst hc; exact hx) | skip
      exact nr _ (by simpa [AV.noRef] using hx) c hc
    intro a ha hr v h
    cases a with
    | bool b => rw [VR_bool] at *; exact h
    | int k m => rw [VR_int] at *; exact h
    | str s => rw [VR_str] at *; exact h
    | nil => rw [VR_nil] at *; exact h
    | nilp => rw [VR_nilp] at *; exact h
    | nilm => rw [VR_nilm] at *; exact h
    | nilf => rw [VR_nilf] at *; exact h
    | agg cs =>
      rw [VR_agg] at *
      obtain ⟨vs, rfl, hs, hc⟩ := h
      refine ⟨vs, rfl, hs, fun j c hj => ?_⟩
      obtain ⟨u, h1, h2, h3⟩ := hc j c hj
      have hm := List.mem_of_getElem? hj
      have := List.sizeOf_lt_of_mem hm
      refine ⟨u, h1, h2, ih c (by simp at ha; omega) ?_ u h3⟩
      exact hr.imp (fun h => nr cs (by simpa [AV.noRef] using h) c hm) id
    | tup cs =>
      rw [VR_tup] at *
      obtain ⟨vs, rfl, hs, hc⟩ := h
      refine ⟨vs, rfl, hs, fun j c hj => ?_⟩
      obtain ⟨u, h1, h3⟩ := hc j c hj
      have hm := List.mem_of_getElem? hj
      have := List.sizeOf_lt_of_mem hm
      refine ⟨u, h1, ih c (by simp at ha; omega) ?_ u h3⟩
      exact hr.imp (fun h => nr cs (by simpa [AV.noRef] using h) c hm) id
    | fn f cs =>
      rw [VR_fn] at *
      obtain ⟨vs, rfl, hs, hc⟩ := h
      refine ⟨vs, rfl, hs, fun j c hj => ?_⟩
      obtain ⟨u, h1, h3⟩ := hc j c hj
      have hm := List.mem_of_getElem? hj
      have := List.sizeOf_lt_of_mem hm
      refine ⟨u, h1, ih c (by simp at ha; omega) ?_ u h3⟩
      exact hr.imp (fun h => nr cs (by simpa [AV.noRef] using h) c hm) id
    | sl sz xs =>
      rw [VR_sl] at *
      obtain ⟨a, cap, rfl, hl, hc⟩ := h
      refine ⟨a, cap, rfl, hl, hc.imp id ?_⟩
      rintro ⟨b, off, rfl, hx⟩
      refine ⟨b, off, rfl, fun i x hi => ?_⟩
      obtain ⟨h1, h2⟩ := hx i x hi
      refine ⟨h1, fun j c hj => ?_⟩
      obtain ⟨u, h3, h4, h5⟩ := h2 j c hj
      have hm := List.mem_of_getElem? hi
      have := List.sizeOf_lt_of_mem hm
      have hm' := List.mem_of_getElem? hj
      have := AV.cells_size hm'
      refine ⟨u, him _ _ _ h3, h4, ih c (by simp at ha; omega) ?_ u h5⟩
      exact hr.imp (fun h => nc x (nr xs (by simpa [AV.noRef] using h) x hm) c hm') id
    | adr a =>
      rw [VR_adr] at *
      obtain ⟨b, off, rfl, hx⟩ := h
      refine ⟨b, off, rfl, fun j c hj => ?_⟩
      obtain ⟨u, h3, h4, h5⟩ := hx j c hj
      have hm' := List.mem_of_getElem? hj
      have := AV.cells_size hm'
      refine ⟨u, him _ _ _ h3, h4, ih c (by simp at ha; omega) ?_ u h5⟩
      exact hr.imp (fun h => nc a (by simpa [AV.noRef] using h) c hm') id
    | ptr r v' i off =>
      rw [VR_ptr] at *
      obtain ⟨b, sz, N, h1, h2⟩ := h
      exact ⟨b, sz, N, (hr.resolve_left (by simp [AV.noRef])) _ _ _ h1, h2⟩
    | hs r v' o m sz =>
      rw [VR_hs] at *
      obtain ⟨b, N, a, cap, h1, h2⟩ := h
      exact ⟨b, N, a, cap, (hr.resolve_left (by simp [AV.noRef])) _ _ _ h1, h2⟩
    | map r =>
      rw [VR_map] at *
      obtain ⟨b, sz, N, h1, h2⟩ := h
      exact ⟨b, sz, N, (hr.resolve_left (by simp [AV.noRef])) _ _ _ h1, h2⟩
theorem VR.mono {g g' : G} (h : g.le g') {a : AV} {v : Value} (hv : VR g a v) : VR g' a v := VR.mono' h.im _ a (Nat.le_refl _) (.inr h.loc) v hv
theorem VR.noRef {g g' : G} (him : ∀ b o u, g.im b o = some u → g'.im b o = some u) {a : AV} (ha : a.noRef = true) {v : Value} (hv : VR g a v) : VR g' a v := VR.mono' him _ a (Nat.le_refl _) (.inl ha) v hv
theorem MemR.mono {g g' : G} (h : g.le g') {rd : Nat → Option Value} {o : Nat} {x : AV} (hv : MemR g rd o x) : MemR g' rd o x :=
  fun j c hj => let ⟨u, h1, h2, h3⟩ := hv j c hj; ⟨u, h1, h2, h3.mono h⟩
theorem VRs.mono {g g' : G} (h : g.le g') {cs : List AV} {vs : Array Value} (hv : VRs g cs vs) : VRs g' cs vs :=
  ⟨hv.1, fun j c hj => let ⟨u, h1, h3⟩ := hv.2 j c hj; ⟨u, h1, h3.mono h⟩⟩
/-! ### the heap -/
def HObj.ver : HObj → Nat
  | .it _ => 0
  | .arr _ _ xs => xs.length
  | .map _ => 0
def HObj.mut : HObj → Bool
  | .arr fz _ _ => !fz
  | .it _ => true
  | .map _ => true
def blk (g : G) (r : Nat) (o : HObj) : Option Nat := (g.loc r o.ver).map (·.1)
def Owned (g : G) (σ : H) (b : Nat) : Prop := ∃ r o, σ[r]? = some o ∧ o.mut = true ∧ blk g r o = some b
def OR (g : G) (w : World) (r : Nat) : HObj → Prop
  | .arr fz sz xs => ∃ b N cs el f, g.loc r xs.length = some (b, sz, N) ∧ w.heap[b]? = some (.cells cs el f) ∧ cs.size = N ∧ xs.length * sz ≤ N ∧
      (∀ i x, xs[i]? = some x → x.cells.length = sz ∧ MemR g (fun q => cs[q]?) (i * sz) x) ∧ (fz = false → f = (0, 0)) ∧ (fz = true → ∀ q, q < xs.length * sz → ∃ u, g.im b q = some u)
  | .map es => ∃ b en, g.loc r 0 = some (b, 0, 0) ∧ w.heap[b]? = some (.map en en.size) ∧ en.size = es.length ∧
      ∀ (i : Nat) k v, es[i]? = some (k, v) → ∃ e, en[i]? = some e ∧ e.born = i ∧ VR g k e.key ∧ VR g v e.val
  | .it s => ∃ b mp since seen c0, g.loc r 0 = some (b, 0, 0) ∧ w.heap[b]? = some (.mapIter mp since seen c0) ∧
      ∀ m n sn, s = some (m, n, sn) → ∃ mb, g.loc m 0 = some (mb, 0, 0) ∧ mp = some mb ∧ since = n ∧ n ≤ c0 ∧ ∀ i, seen.contains i = decide (i ∈ sn)
def TabAt (w : World) (x : Nat × Array Value) : Prop := ∃ el f, w.heap[x.1]? = some (.cells x.2 el f)
theorem TabAt.keep {w w' : World} {x : Nat × Array Value} (h : TabAt w x) (e : w'.heap[x.1]? = w.heap[x.1]?) : TabAt w' x := by
  obtain ⟨el, f, h⟩ := h
  exact ⟨el, f, e.trans h⟩
theorem TabAt.lt {w : World} {x : Nat × Array Value} (h : TabAt w x) : x.1 < w.heap.size := by
  obtain ⟨el, f, h⟩ := h
  exact (Array.getElem?_eq_some_iff.1 h).1
structure HR (g : G) (σ : H) (w : World) : Prop where
  im : ∀ b o u, g.im b o = some u → w.cell? ⟨b, o, none⟩ = some u
  ob : ∀ r o, σ[r]? = some o → OR g w r o
  inj : ∀ r r' o o' b, σ[r]? = some o → σ[r']? = some o' → blk g r o = some b → blk g r' o' = some b → r = r'
  free : ∀ b, Owned g σ b → ∀ q, g.im b q = none
  dom : ∀ r v p, g.loc r v = some p → r < σ.length
  top : ∀ r o v p, σ[r]? = some o → g.loc r v = some p → v ≤ o.ver
  tb : ∀ x ∈ TAB, TabAt w x ∧ ∃ u, g.im x.1 0 = some u
theorem OR.not_deferred {g : G} {w : World} {r : Nat} {o : HObj} (h : OR g w r o) {b : Nat} (hb : blk g r o = some b) {l : Option (List Deferred)} : ¬ w.heap[b]? = some (.deferred l) := fun k => by
  cases o with
  | arr fz sz xs =>
    obtain ⟨b', N, cs, el, f, h1, h2, _⟩ := h
    simp only [blk, HObj.ver, h1, Option.map_some, Option.some.injEq] at hb
    subst hb
    rw [k] at h2; cases h2
  | map es =>
    obtain ⟨b', en, h1, h2, _⟩ := h
    simp only [blk, HObj.ver, h1, Option.map_some, Option.some.injEq] at hb
    subst hb
    rw [k] at h2; cases h2
  | it s =>
    obtain ⟨b', mp, since, seen, c0, h1, h2, _⟩ := h
    simp only [blk, HObj.ver, h1, Option.map_some, Option.some.injEq] at hb
    subst hb
    rw [k] at h2; cases h2
theorem OR.not_other {g : G} {w : World} {r : Nat} {o : HObj} (h : OR g w r o) {b : Nat} (hb : blk g r o = some b) {x : Obj} (hx : w.heap[b]? = some x) (h1 : ∀ cs el f, x ≠ .cells cs el f) (h2 : ∀ en m, x ≠ .map en m) (h3 : ∀ m s sn c, x ≠ .mapIter m s sn c) : False := by
  cases o with
  | arr fz sz xs =>
    obtain ⟨b', N, cs, el, f, k1, k2, _⟩ := h
    simp only [blk, HObj.ver, k1, Option.map_some, Option.some.injEq] at hb
    subst hb
    rw [hx] at k2; cases k2; exact h1 _ _ _ rfl
  | map es =>
    obtain ⟨b', en, k1, k2, _⟩ := h
    simp only [blk, HObj.ver, k1, Option.map_some, Option.some.injEq] at hb
    subst hb
    rw [hx] at k2; cases k2; exact h2 _ _ rfl
  | it s =>
    obtain ⟨b', mp, since, seen, c0, k1, k2, _⟩ := h
    simp only [blk, HObj.ver, k1, Option.map_some, Option.some.injEq] at hb
    subst hb
    rw [hx] at k2; cases k2; exact h3 _ _ _ _ rfl
theorem OR.not_loop {g : G} {w : World} {r : Nat} {o : HObj} (h : OR g w r o) {b : Nat} (hb : blk g r o = some b) {x : Loop} (hx : w.heap[b]? = some (.loop x)) : False :=
  h.not_other hb hx (by intros; simp) (by intros; simp) (by intros; simp)
theorem OR.blk_lt {g : G} {w : World} {r : Nat} {o : HObj} (h : OR g w r o) : ∃ b, blk g r o = some b ∧ b < w.heap.size := by
  cases o with
  | arr fz sz xs =>
    obtain ⟨b, N, cs, el, f, h1, h2, _⟩ := h
    exact ⟨b, by simp [blk, HObj.ver, h1], by have := Array.getElem?_eq_some_iff.1 h2; exact this.1⟩
  | map es =>
    obtain ⟨b, en, h1, h2, _⟩ := h
    exact ⟨b, by simp [blk, HObj.ver, h1], by have := Array.getElem?_eq_some_iff.1 h2; exact this.1⟩
  | it s =>
    obtain ⟨b, mp, since, seen, c0, h1, h2, _⟩ := h
    exact ⟨b, by simp [blk, HObj.ver, h1], by have := Array.getElem?_eq_some_iff.1 h2; exact this.1⟩
theorem Owned.lt {g : G} {σ : H} {w : World} (hr : HR g σ w) {b : Nat} (h : Owned g σ b) : b < w.heap.size := by
  obtain ⟨r, o, h1, _, h3⟩ := h
  obtain ⟨b', h4, h5⟩ := (hr.ob r o h1).blk_lt
  rw [h3] at h4; cases h4; exact h5
structure Step (B : Nat) (g : G) (σ : H) (w : World) (g' : G) (σ' : H) (w' : World) : Prop where
  le : g.le g'
  size : w.heap.size ≤ w'.heap.size
  keep : ∀ b, b < B → ¬ Owned g σ b → w'.heap[b]? = w.heap[b]?
  own : ∀ b, Owned g' σ' b → Owned g σ b ∨ B ≤ b
  imn : ∀ b o u, g'.im b o = some u → g.im b o = some u ∨ Owned g σ b ∨ B ≤ b
  os : w'.os = w.os
  tape : w'.tape = w.tape
  output : w'.output = w.output
theorem Step.refl (B : Nat) (g : G) (σ : H) (w : World) : Step B g σ w g σ w :=
  ⟨.refl _, Nat.le_refl _, fun _ _ _ => rfl, fun _ h => .inl h, fun _ _ _ h => .inl h, rfl, rfl, rfl⟩
theorem Step.trans {B B' : Nat} {g g' g'' : G} {σ σ' σ'' : H} {w w' w'' : World} (h : Step B g σ w g' σ' w') (k : Step B' g' σ' w' g'' σ'' w'') (hB : B ≤ B') : Step B g σ w g'' σ'' w'' where
  le := h.le.trans k.le
  size := Nat.le_trans h.size k.size
  keep := fun b hb hn => (k.keep b (Nat.lt_of_lt_of_le hb hB) (fun ho => by rcases h.own b ho with h1 | h1; exact hn h1; omega)).trans (h.keep b hb hn)
  own := fun b hb => by
    rcases k.own b hb with h1 | h1
    · exact h.own b h1
    · exact .inr (by omega)
  imn := fun b o u hu => by
    rcases k.imn b o u hu with h1 | h1 | h1
    · exact h.imn b o u h1
    · exact .inr (h.own b h1)
    · exact .inr (.inr (by omega))
  os := k.os.trans h.os
  tape := k.tape.trans h.tape
  output := k.output.trans h.output
theorem Step.mono {B B' : Nat} {g g' : G} {σ σ' : H} {w w' : World} (h : Step B' g σ w g' σ' w') (hB : B ≤ B') : Step B g σ w g' σ' w' :=
  (Step.refl B g σ w).trans h hB
/-! ### frames -/
def SV.isBox : SV → Bool
  | .bx _ => true
  | .hb => true
  | _ => false
structure Priv (B : Nat) (g : G) (σ : H) (w : World) (b : Nat) (x : AV) : Prop where
  lo : B ≤ b
  own : ¬ Owned g σ b
  im : ∀ q, g.im b q = none
  mem : ∃ cs el, w.heap[b]? = some (.cells cs el (0, 0)) ∧ cs.size = x.cells.length ∧ MemR g (fun q => cs[q]?) 0 x
def SVR (B : Nat) (g : G) (σ : H) (fr : Fr) (a : Act) (w : World) (t : Nat) : SV → Prop
  | .u => True
  | .v x => ∃ v, a.tmps[t]? = some v ∧ VR g x v
  | .lp d off => (getS fr.sl d).isBox = true ∧ ∃ b, a.tmps[d]? = some (.pointer (some ⟨b, 0, none⟩)) ∧ a.tmps[t]? = some (.pointer (some ⟨b, off, none⟩))
  | .bx x => ∃ b, a.tmps[t]? = some (.pointer (some ⟨b, 0, none⟩)) ∧ Priv B g σ w b x
  | .hb => ∃ b, a.tmps[t]? = some (.pointer (some ⟨b, 0, none⟩))
def markD (D : Nat) : Deferred := { target := .collected D, args := #[] }
def Marks (B : Nat) (g : G) (σ : H) (w : World) (ds : List Deferred) : Prop :=
  ∃ Ds : List Nat, ds = Ds.map markD ∧ Ds.Nodup ∧ ∀ D ∈ Ds, B ≤ D ∧ w.heap[D]? = some (.deferred (some [])) ∧ ¬ Owned g σ D
theorem Marks.nil (B : Nat) (g : G) (σ : H) (w : World) : Marks B g σ w [] := ⟨[], rfl, List.nodup_nil, fun _ h => by cases h⟩
theorem Marks.heap {B : Nat} {g g' : G} {σ σ' : H} {w w' : World} {ds : List Deferred} (h : Marks B g σ w ds) (k : ∀ D, D < w.heap.size → w.heap[D]? = some (.deferred (some [])) → ¬ Owned g σ D → w'.heap[D]? = some (.deferred (some [])) ∧ ¬ Owned g' σ' D) : Marks B g' σ' w' ds := by
  obtain ⟨Ds, h1, h2, h3⟩ := h
  refine ⟨Ds, h1, h2, fun D hD => ?_⟩
  obtain ⟨a1, a2, a3⟩ := h3 D hD
  obtain ⟨b1, b2⟩ := k D (Array.getElem?_eq_some_iff.1 a2).1 a2 a3
  exact ⟨a1, b1, b2⟩
structure FR (B : Nat) (g : G) (σ : H) (fr : Fr) (a : Act) (w : World) : Prop where
  sv : ∀ t, SVR B g σ fr a w t (getS fr.sl t)
  inj : ∀ t t' x x' v, getS fr.sl t = .bx x → getS fr.sl t' = .bx x' → a.tmps[t]? = some v → a.tmps[t']? = some v → t = t'
  defers : Marks B g σ w a.defers
end Go.Am
/-! ## part Sem -/
/- The abstract machine and the model: types, and what the model's reading and writing of memory does. -/
namespace Go.Am
open Go
def TK.of : TypeDesc → TK
  | .bool => .bool
  | .int k => .int k
  | .string => .str
  | .pointer _ => .ptr
  | .slice e => .slice e
  | .array n e => .arr n e
  | .map k e => .map k e
  | .struct fs => .strct (fs.toList.map fun f => (f.offset, f.type))
  | .func _ _ _ => .func
  | _ => .other
def leafTK (P : Program) (t : Nat) : Option TK :=
  match P.underlying t with
  | some .bool => some .bool
  | some (.int k) => some (.int k)
  | some .string => some .str
  | _ => none
def eqTy (P : Program) (t : Nat) (ks : List TK) : Prop :=
  match P.underlying t with
  | some (.struct fs) => P.stoodInHeld t = false ∧ P.eqGuardType P.depth t = false ∧ (fs.toList.all fun f => f.name != "_") = true ∧ fs.toList.map (fun f => leafTK P f.type) = ks.map some ∧ fs.toList.map (·.offset) = List.range fs.size
  | some (.array n e) => P.eqGuardType P.depth t = false ∧ List.replicate n (leafTK P e) = ks.map some ∧ (P.info? e).map (·.size) = some 1
  | _ => [leafTK P t] = ks.map some
def fldOK (P : Program) (t : Nat) : Bool :=
  match P.underlying t with
  | some (.struct fs) => fs.toList.all fun f => (P.info? f.type).isSome
  | some (.array _ e) => (P.info? e).isSome
  | _ => true
structure TyOK (P : Program) (t : Nat) (ti : TI) : Prop where
  size : (P.info? t).map (·.size) = some ti.size
  bytes : (P.info? t).map (·.bytes) = some ti.bytes
  zero : ((P.info? t).bind (·.zero)).bind constA = some ti.zero
  und : (P.underlying t).map TK.of = some ti.k
  zfit : ti.zero.fits ti = true
  fld : fldOK P t = true
  pos : 1 ≤ ti.size
  eq : ti.eqk ≠ [] → eqTy P t ti.eqk
  eqn : ti.eqk ≠ [] → ti.eqk.length = ti.size
variable {P : Program} {g : G} {w : World} {t : Nat} {ti : TI}
theorem run_size (h : TyOK P t ti) : (Go.sizeOf t).run P w = .ok ti.size w := by
  have h1 := h.size
  cases hi : P.info? t with
  | none => simp [hi] at h1
  | some i => simp [hi] at h1; simp [Go.sizeOf, typeInfo, hi, h1]
theorem run_bytes (h : TyOK P t ti) : ∃ i, (typeInfo t).run P w = .ok i w ∧ i.bytes = ti.bytes := by
  have h1 := h.bytes
  cases hi : P.info? t with
  | none => simp [hi] at h1
  | some i => simp [hi] at h1; exact ⟨i, by simp [typeInfo, hi], h1⟩
theorem TyOK.desc (h : TyOK P t ti) : ∃ d, P.underlying t = some d ∧ TK.of d = ti.k := by
  have h1 := h.und
  cases hi : P.underlying t with
  | none => simp [hi] at h1
  | some d => simp [hi] at h1; exact ⟨d, rfl, h1⟩
theorem run_und (h : TyOK P t ti) : ∃ d, (underlying t).run P w = .ok d w ∧ TK.of d = ti.k ∧ P.underlying t = some d := by
  obtain ⟨d, h1, h2⟩ := h.desc
  exact ⟨d, by simp [underlying, h1], h2, h1⟩
theorem run_agg (h : TyOK P t ti) : (isAgg t).run P w = .ok ti.k.isAgg w := by
  obtain ⟨d, h1, h2, h3⟩ := run_und (w := w) h
  rw [← h2]
  simp only [isAgg, Sem.run_bind, h1, Result.andThen_ok]
  cases d <;> rfl
/-! ### constants -/
theorem constLeaf_VR {v : Value} {a : AV} (h : constLeaf v = some a) : VR g a v ∧ v.oneCell' = true := by
  unfold constLeaf at h
  split at h <;> simp at h <;> subst h
  · exact ⟨VR_bool.2 rfl, rfl⟩
  · exact ⟨VR_int.2 rfl, rfl⟩
  · exact ⟨VR_str.2 ⟨_, rfl, rfl⟩, rfl⟩
  · exact ⟨VR_nilp.2 rfl, rfl⟩
  · exact ⟨VR_nil.2 rfl, rfl⟩
  · exact ⟨VR_nilm.2 rfl, rfl⟩
  · exact ⟨VR_nilf.2 rfl, rfl⟩
theorem constLeaves_get : ∀ (vs : List Value) (l : List AV), constLeaves vs = some l → vs.length = l.length ∧ ∀ (j : Nat) c, l[j]? = some c → ∃ u, vs[j]? = some u ∧ constLeaf u = some c
  | [], l, h => by simp [constLeaves] at h; subst h; simp
  | v :: vs, l, h => by
    simp only [constLeaves] at h
    split at h <;> try (simp at h; done)
    rename_i a m h1 h2
    simp at h; subst h
    obtain ⟨ih1, ih2⟩ := constLeaves_get vs m h2
    refine ⟨by simp [ih1], fun j c hj => ?_⟩
    cases j with
    | zero => simp at hj; subst hj; exact ⟨v, by simp, h1⟩
    | succ j => simpa using ih2 j c (by simpa using hj)
theorem constA_VR {v : Value} {a : AV} (h : constA v = some a) : VR g a v := by
  unfold constA at h
  split at h
  · rename_i cs
    split at h <;> simp at h
    rename_i l hl
    subst h
    obtain ⟨h1, h2⟩ := constLeaves_get _ _ hl
    refine VR_agg.2 ⟨cs, rfl, by simpa using h1, fun j c hj => ?_⟩
    obtain ⟨u, hu, hc⟩ := h2 j c hj
    have := constLeaf_VR (g := g) hc
    exact ⟨u, by simpa using hu, this.2, this.1⟩
  · exact (constLeaf_VR h).1
theorem run_zero (h : TyOK P t ti) : ∃ z, (zeroValue t).run P w = .ok z w ∧ constA z = some ti.zero := by
  have h1 := h.zero
  cases hi : P.info? t with
  | none => simp [hi] at h1
  | some i =>
    simp [hi] at h1
    cases hz : i.zero with
    | none => simp [hz] at h1
    | some z => simp [hz] at h1; exact ⟨z, by simp [zeroValue, typeInfo, hi, hz], h1⟩
/-! ### one cell -/
theorem VR.leaf {a : AV} {v : Value} (h : VR g a v) (hv : v.oneCell' = true) : a.cells = [a] := by
  cases a <;> first | rfl | skip
  rw [VR_agg] at h
  obtain ⟨vs, rfl, _⟩ := h
  simp [Value.oneCell'] at hv
theorem VR.one {a : AV} {v : Value} (h : VR g a v) (ha : ∀ cs, a ≠ .agg cs) (hb : ∀ cs, a ≠ .tup cs) : v.oneCell' = true := by
  cases a
  case bool => rw [VR_bool] at h; subst h; rfl
  case int => rw [VR_int] at h; subst h; rfl
  case str => rw [VR_str] at h; obtain ⟨_, rfl, _⟩ := h; rfl
  case agg cs => exact absurd rfl (ha cs)
  case tup cs => exact absurd rfl (hb cs)
  case nil => rw [VR_nil] at h; subst h; rfl
  case sl => rw [VR_sl] at h; obtain ⟨_, _, rfl, _⟩ := h; rfl
  case adr => rw [VR_adr] at h; obtain ⟨_, _, rfl, _⟩ := h; rfl
  case ptr => rw [VR_ptr] at h; obtain ⟨_, _, _, _, rfl⟩ := h; rfl
  case hs => rw [VR_hs] at h; obtain ⟨_, _, _, _, _, rfl, _⟩ := h; rfl
  case map => rw [VR_map] at h; obtain ⟨_, _, _, _, rfl⟩ := h; rfl
  case nilp => rw [VR_nilp] at h; subst h; rfl
  case nilm => rw [VR_nilm] at h; subst h; rfl
  case nilf => rw [VR_nilf] at h; subst h; rfl
  case fn => rw [VR_fn] at h; obtain ⟨_, rfl, _⟩ := h; rfl
theorem VR.cells {a : AV} {v : Value} (h : VR g a v) (hf : a.fits ti = true) :
    v.cells.size = a.cells.length ∧ ∀ (j : Nat) c, a.cells[j]? = some c → ∃ u, v.cells[j]? = some u ∧ u.oneCell' = true ∧ VR g c u := by
  cases a
  case agg cs =>
    rw [VR_agg] at h
    obtain ⟨vs, rfl, h1, h2⟩ := h
    exact ⟨h1, h2⟩
  case tup cs => simp [AV.fits] at hf
  all_goals
    have h1 := h.one (by intro cs h; cases h) (by intro cs h; cases h)
    have hc : v.cells = #[v] := by cases v <;> first | rfl | (simp [Value.oneCell'] at h1)
    rw [hc]
    refine ⟨rfl, fun j c hj => ?_⟩
    cases j with
    | zero => simp [AV.cells] at hj; subst hj; exact ⟨v, rfl, h1, h⟩
    | succ j => simp [AV.cells] at hj
theorem fits_len {a : AV} (h : a.fits ti = true) : a.cells.length = ti.size := by
  cases a <;> simp [AV.fits] at h <;> simp [AV.cells, h]
theorem cells_add {b off n : Nat} : (⟨b, off, none⟩ : Addr).add n = ⟨b, off + n, none⟩ := by
  unfold Addr.add
  split
  · subst_vars; rfl
  · rfl
def Shp (ti : TI) (y : AV) : Prop := (ti.k.isAgg = true → ∃ cs, y = .agg cs ∧ cs.length = ti.size) ∧ (ti.k.isAgg = false → y.cells = [y])
theorem fits_shp {a : AV} (h : a.fits ti = true) : Shp ti a := by
  constructor
  · intro hk
    cases a <;> simp [AV.fits, hk] at h
    exact ⟨_, rfl, h⟩
  · intro hk
    cases a <;> simp [AV.fits, hk] at h <;> rfl
theorem MemR.part {rd : Nat → Option Value} {base off : Nat} {x y : AV} (h : MemR g rd base x) (hy : part ti off x = some y) : MemR g rd (base + off) y ∧ Shp ti y := by
  unfold Am.part at hy
  split at hy
  · rename_i hk
    unfold AV.sub at hy
    split at hy <;> try (simp at hy; done)
    rename_i cs
    split at hy <;> simp at hy
    rename_i hl
    subst hy
    refine ⟨fun j c hj => ?_, fun _ => ⟨_, rfl, by simp; omega⟩, fun h => by simp [hk] at h⟩
    simp only [AV.cells, List.getElem?_take, List.getElem?_drop] at hj
    split at hj <;> try (simp at hj; done)
    obtain ⟨u, h1, h2⟩ := h (off + j) c (by simpa [AV.cells] using hj)
    exact ⟨u, by rw [show base + off + j = base + (off + j) by omega]; exact h1, h2⟩
  · rename_i hk
    unfold AV.leafAt at hy
    split at hy <;> try (simp at hy; done)
    rename_i cs
    obtain ⟨u, h1, h2, h3⟩ := h off y (by simpa [AV.cells] using hy)
    have hl := h3.leaf h2
    refine ⟨fun j c hj => ?_, fun h => by simp [hk] at h, fun _ => hl⟩
    rw [hl] at hj
    cases j with
    | zero => simp at hj; subst hj; exact ⟨u, by simpa using h1, h2, h3⟩
    | succ j => simp at hj
theorem MemR.elem {rd : Nat → Option Value} {base off : Nat} {x y : AV} (h : MemR g rd base x) (hy : elemAt ti off x = some y) : MemR g rd (base + off) y ∧ Shp ti y := by
  unfold elemAt at hy
  split at hy
  · rename_i hc
    simp at hy; subst hy
    rw [hc.1]
    exact ⟨h, fits_shp hc.2⟩
  · exact h.part hy
theorem run_loadVar_mem (ht : TyOK P t ti) {b off : Nat} {y : AV} (hs : Shp ti y) (h : MemR g (fun q => w.cell? ⟨b, q, none⟩) off y) :
    ∃ v, (loadVar t ⟨b, off, none⟩).run P w = .ok v w ∧ VR g y v := by
  simp only [loadVar, Sem.run_bind, run_agg ht, Result.andThen_ok]
  cases hk : ti.k.isAgg with
  | true =>
    obtain ⟨cs, rfl, hl⟩ := hs.1 hk
    have hx : ∀ j, j < cs.length → ∃ u, w.cell? ⟨b, off + j, none⟩ = some u ∧ u.oneCell' = true ∧ ∀ c, cs[j]? = some c → VR g c u := by
      intro j hj
      obtain ⟨u, h1, h2, h3⟩ := h j cs[j] (by simp [AV.cells, hj])
      exact ⟨u, h1, h2, fun c hc => by rw [List.getElem?_eq_getElem hj] at hc; cases hc; exact h3⟩
    have hr := run_loadCells (P := P) w ⟨b, off, none⟩ ti.size (fun j => (w.cell? ⟨b, off + j, none⟩).getD undef) (fun j hj => by
      obtain ⟨u, h1, _⟩ := hx j (by omega)
      rw [cells_add, h1]; rfl)
    refine ⟨.agg ((List.range ti.size).map fun j => (w.cell? ⟨b, off + j, none⟩).getD undef).toArray, ?_, ?_⟩
    · simp [run_size ht, hr]
    · refine VR_agg.2 ⟨_, rfl, by simp [hl], fun j c hj => ?_⟩
      have hj' : j < cs.length := by
        rcases Nat.lt_or_ge j cs.length with h | h
        · exact h
        · rw [List.getElem?_eq_none h] at hj; cases hj
      obtain ⟨u, h1, h2, h3⟩ := hx j hj'
      refine ⟨u, ?_, h2, h3 c hj⟩
      have : j < ti.size := by omega
      simp [this, h1]
  | false =>
    have hl := hs.2 hk
    obtain ⟨u, h1, h2, h3⟩ := h 0 y (by rw [hl]; rfl)
    refine ⟨u, ?_, h3⟩
    simp only [Bool.false_eq_true, if_false]
    rw [run_load]
    simp only [Nat.add_zero] at h1
    rw [h1]
end Go.Am
/-! ## part Mem -/
/- The abstract machine and the model: what becomes of memory. -/
namespace Go.Am
open Go
variable {P : Program} {g g' : G} {σ σ' : H} {w w' : World}
theorem OR.keep {r : Nat} {o : HObj} (h : OR g w r o) (hle : g.le g') (hw : ∀ b, blk g r o = some b → w'.heap[b]? = w.heap[b]?) : OR g' w' r o := by
  cases o with
  | arr fz sz xs =>
    obtain ⟨b, N, cs, el, f, h1, h2, h3, h4, h5, h6, h7⟩ := h
    refine ⟨b, N, cs, el, f, hle.loc _ _ _ h1, ?_, h3, h4, fun i x hi => ⟨(h5 i x hi).1, (h5 i x hi).2.mono hle⟩, h6, fun hf q hq => ?_⟩
    · rw [hw b (by simp [blk, HObj.ver, h1])]; exact h2
    · obtain ⟨u, hu⟩ := h7 hf q hq
      exact ⟨u, hle.im _ _ _ hu⟩
  | map es =>
    obtain ⟨b, en, h1, h2, h3, h4⟩ := h
    refine ⟨b, en, hle.loc _ _ _ h1, ?_, h3, fun i k v hi => ?_⟩
    · rw [hw b (by simp [blk, HObj.ver, h1])]; exact h2
    · obtain ⟨e, h5, h6, h7, h8⟩ := h4 i k v hi
      exact ⟨e, h5, h6, h7.mono hle, h8.mono hle⟩
  | it s =>
    obtain ⟨b, mp, since, seen, c0, h1, h2, h3⟩ := h
    refine ⟨b, mp, since, seen, c0, hle.loc _ _ _ h1, ?_, fun m n sn hs => ?_⟩
    · rw [hw b (by simp [blk, HObj.ver, h1])]; exact h2
    · obtain ⟨mb, k1, k2⟩ := h3 m n sn hs
      exact ⟨mb, hle.loc _ _ _ k1, k2⟩
theorem blk_le {r : Nat} {o : HObj} {b : Nat} (hle : g.le g') (h : blk g r o = some b) : blk g' r o = some b := by
  unfold blk at *
  cases hl : g.loc r o.ver with
  | none => rw [hl] at h; cases h
  | some p => rw [hle.loc _ _ _ hl]; rw [hl] at h; exact h
theorem cell_of_heap {b o : Nat} (h : w'.heap[b]? = w.heap[b]?) : w'.cell? ⟨b, o, none⟩ = w.cell? ⟨b, o, none⟩ := by simp [World.cell?, h]
theorem cell_lt {b o : Nat} {u : Value} (h : w.cell? ⟨b, o, none⟩ = some u) : b < w.heap.size := by
  rcases Nat.lt_or_ge b w.heap.size with h' | h'
  · exact h'
  · simp [World.cell?, Array.getElem?_eq_none h'] at h
structure Grow (w w' : World) : Prop where
  size : w.heap.size ≤ w'.heap.size
  heap : ∀ b, b < w.heap.size → w'.heap[b]? = w.heap[b]?
  os : w'.os = w.os
  tape : w'.tape = w.tape
  output : w'.output = w.output
theorem Grow.refl (w : World) : Grow w w := ⟨Nat.le_refl _, fun _ _ => rfl, rfl, rfl, rfl⟩
theorem Grow.trans {a b c : World} (h : Grow a b) (k : Grow b c) : Grow a c :=
  ⟨Nat.le_trans h.size k.size, fun i hi => (k.heap i (Nat.lt_of_lt_of_le hi h.size)).trans (h.heap i hi), k.os.trans h.os, k.tape.trans h.tape, k.output.trans h.output⟩
theorem Grow.alloc (w : World) (o : Obj) : Grow w (w.alloc o) :=
  ⟨by show w.heap.size ≤ (w.heap.push o).size; simp, fun b hb => by show (w.heap.push o)[b]? = _; rw [Array.getElem?_push, if_neg (by omega)], rfl, rfl, rfl⟩
theorem Grow.drew (w : World) : Grow w w.drew := ⟨Nat.le_refl _, fun _ _ => rfl, rfl, rfl, rfl⟩
theorem heap_new (w : World) (o : Obj) : (w.alloc o).heap[w.heap.size]? = some o := by show (w.heap.push o)[w.heap.size]? = _; simp
theorem HR.grow (h : HR g σ w) (hle : g.le g') (hloc : g'.loc = g.loc)
    (he : Grow w w') (hi : ∀ b o u, g'.im b o = some u → g.im b o = some u ∨ (w.heap.size ≤ b ∧ w'.cell? ⟨b, o, none⟩ = some u)) :
    HR g' σ w' ∧ Step w.heap.size g σ w g' σ w' := by
  have hb : ∀ r o, σ[r]? = some o → blk g' r o = blk g r o := fun r o _ => by simp [blk, hloc]
  have hlt : ∀ r o b, σ[r]? = some o → blk g r o = some b → b < w.heap.size := fun r o b ho hb => by
    obtain ⟨b', h1, h2⟩ := (h.ob r o ho).blk_lt
    rw [hb] at h1; cases h1; exact h2
  have hown : ∀ b, Owned g' σ b → Owned g σ b := fun b ⟨r, o, h1, h2, h3⟩ => ⟨r, o, h1, h2, by rw [← hb r o h1]; exact h3⟩
  refine ⟨⟨fun b o u hu => ?_, fun r o ho => ?_, fun r r' o o' b h1 h2 h5 h6 => ?_, fun b hb' q => ?_, fun r v p hp => h.dom r v p (hloc ▸ hp), fun r o v p ho hp => h.top r o v p ho (hloc ▸ hp), fun x hx => let ⟨k1, u, k2⟩ := h.tb x hx; ⟨k1.keep (he.heap x.1 k1.lt), u, hle.im _ _ _ k2⟩⟩, ⟨hle, he.size, fun b hb' _ => he.heap b hb', fun b hb' => .inl (hown b hb'), fun b o u hu => ?_, he.os, he.tape, he.output⟩⟩
  · rcases hi b o u hu with h1 | h1
    · rw [cell_of_heap (he.heap b (cell_lt (h.im b o u h1)))]; exact h.im b o u h1
    · exact h1.2
  · exact (h.ob r o ho).keep hle fun b hbk => he.heap b (hlt r o b ho hbk)
  · exact h.inj r r' o o' b h1 h2 (by rw [← hb r o h1]; exact h5) (by rw [← hb r' o' h2]; exact h6)
  · cases hq : g'.im b q with
    | none => rfl
    | some u =>
      have ho := hown b hb'
      rcases hi b q u hq with h1 | h1
      · rw [h.free b ho q] at h1; cases h1
      · have := Owned.lt h ho; omega
  · rcases hi b o u hu with h1 | h1
    · exact .inl h1
    · exact .inr (.inr h1.1)
theorem HR.ext (h : HR g σ w) (he : Grow w w') : HR g σ w' ∧ Step w.heap.size g σ w g σ w' :=
  h.grow (.refl g) rfl he fun _ _ _ hu => .inl hu
def G.addIm (g : G) (b : Nat) (cs : Array Value) : G := { g with im := fun b' o => if b' = b then cs[o]? else g.im b' o }
theorem HR.newIm (h : HR g σ w) {cs : Array Value} {el : Nat} {f : Nat × Nat} (he : Grow w w') {b : Nat} (hb : w.heap.size ≤ b) (hw : w'.heap[b]? = some (.cells cs el f)) :
    HR (g.addIm b cs) σ w' ∧ Step w.heap.size g σ w (g.addIm b cs) σ w' ∧ ∀ o, (g.addIm b cs).im b o = cs[o]? := by
  have hle : g.le (g.addIm b cs) := ⟨fun b' o u hu => by
    have := cell_lt (h.im b' o u hu)
    simp only [G.addIm]; rw [if_neg (by omega)]; exact hu, fun _ _ _ h => h⟩
  obtain ⟨h1, h2⟩ := h.grow hle rfl he fun b' o u hu => by
    simp only [G.addIm] at hu
    split at hu
    · subst_vars; exact .inr ⟨hb, by simp [World.cell?, hw]; exact hu⟩
    · exact .inl hu
  exact ⟨h1, h2, fun o => by simp [G.addIm]⟩
theorem HR.upd {r : Nat} {o : HObj} {b : Nat} (h : HR g σ w) (hle : g.le g') (him : g'.im = g.im) (hq : ∀ q, q ≠ r → σ'[q]? = σ[q]?)
    (hr : σ'[r]? = some o) (hor : OR g' w' r o) (hm : o.mut = true) (hb : blk g' r o = some b)
    (hB : (∃ o0, σ[r]? = some o0 ∧ o0.mut = true ∧ blk g r o0 = some b) ∨ w.heap.size ≤ b)
    (hw : ∀ b', b' ≠ b → b' < w.heap.size → w'.heap[b']? = w.heap[b']?) (hs : w.heap.size ≤ w'.heap.size) (hdom : r < σ'.length) (hln : σ.length ≤ σ'.length) (htop : ∀ q v p, g'.loc q v = some p → g.loc q v = some p ∨ (q = r ∧ v = o.ver)) (hver : ∀ o0, σ[r]? = some o0 → o0.ver ≤ o.ver)
    (hos : w'.os = w.os) (htape : w'.tape = w.tape) (hout : w'.output = w.output) : HR g' σ' w' ∧ Step w.heap.size g σ w g' σ' w' := by
  have hlt : ∀ r o b, σ[r]? = some o → blk g r o = some b → b < w.heap.size := fun r o b ho hb => by
    obtain ⟨b', h1, h2⟩ := (h.ob r o ho).blk_lt
    rw [hb] at h1; cases h1; exact h2
  have hbk : ∀ q o, σ[q]? = some o → blk g' q o = blk g q o := fun q o ho => by
    obtain ⟨b', h1, _⟩ := (h.ob q o ho).blk_lt
    rw [blk_le hle h1, h1]
  have hoth : ∀ q o', q ≠ r → σ[q]? = some o' → blk g q o' ≠ some b := fun q o' hne ho' hbq => by
    rcases hB with ⟨o0, h1, h2, h3⟩ | h1
    · exact hne (h.inj q r o' o0 b ho' h1 hbq h3)
    · have := hlt q o' b ho' hbq; omega
  have himb : ∀ q, g.im b q = none := fun q => by
    cases hq : g.im b q with
    | none => rfl
    | some u =>
      rcases hB with ⟨o0, h1, h2, h3⟩ | h1
      · rw [h.free b ⟨r, o0, h1, h2, h3⟩ q] at hq; cases hq
      · have := cell_lt (h.im b q u hq); omega
  have hown : ∀ b', Owned g' σ' b' → b' = b ∨ Owned g σ b' := fun b' ⟨q, o', h1, h2, h3⟩ => by
    by_cases hqr : q = r
    · subst hqr; rw [hr] at h1; cases h1; rw [hb] at h3; cases h3; exact .inl rfl
    · rw [hq q hqr] at h1; exact .inr ⟨q, o', h1, h2, by rw [← hbk q o' h1]; exact h3⟩
  have hbo : Owned g σ b ∨ w.heap.size ≤ b := hB.imp (fun ⟨o0, h1, h2, h3⟩ => ⟨r, o0, h1, h2, h3⟩) id
  refine ⟨⟨fun b' q u hu => ?_, fun q o' ho' => ?_, fun q q' o1 o2 b' h1 h2 h3 h4 => ?_, fun b' hb' q => ?_, fun q v p hp => ?_, fun q o' v p ho' hp => ?_, fun x hx => ?_⟩, ⟨hle, hs, fun b' hb' hn => ?_, fun b' hb' => ?_, fun b' q u hu => ?_, hos, htape, hout⟩⟩
  · rw [him] at hu
    have hne : b' ≠ b := fun e => by subst e; rw [himb] at hu; cases hu
    have := h.im b' q u hu
    rw [cell_of_heap (hw b' hne (cell_lt this))]; exact this
  · by_cases hqr : q = r
    · subst hqr; rw [hr] at ho'; cases ho'; exact hor
    · rw [hq q hqr] at ho'
      exact (h.ob q o' ho').keep hle fun b' hb' => hw b' (fun e => by subst e; exact hoth q o' hqr ho' hb') (hlt q o' b' ho' hb')
  · by_cases hqr : q = r
    · by_cases hqr' : q' = r
      · rw [hqr, hqr']
      · subst hqr; rw [hr] at h1; cases h1; rw [hb] at h3; cases h3
        rw [hq q' hqr'] at h2; rw [hbk q' o2 h2] at h4
        exact absurd h4 (hoth q' o2 hqr' h2)
    · rw [hq q hqr] at h1; rw [hbk q o1 h1] at h3
      by_cases hqr' : q' = r
      · subst hqr'; rw [hr] at h2; cases h2; rw [hb] at h4; cases h4
        exact absurd h3 (hoth q o1 hqr h1)
      · rw [hq q' hqr'] at h2; rw [hbk q' o2 h2] at h4
        exact h.inj q q' o1 o2 b' h1 h2 h3 h4
  · rw [him]
    rcases hown b' hb' with rfl | h1
    · exact himb q
    · exact h.free b' h1 q
  · rcases htop q v p hp with h1 | ⟨rfl, _⟩
    · have := h.dom q v p h1; omega
    · exact hdom
  · by_cases hqr : q = r
    · subst hqr; rw [hr] at ho'; cases ho'
      rcases htop q v p hp with h1 | ⟨_, rfl⟩
      · cases hσ : σ[q]? with
        | none => have := h.dom q v p h1; rw [List.getElem?_eq_none_iff] at hσ; omega
        | some o0 => exact Nat.le_trans (h.top q o0 v p hσ h1) (hver o0 hσ)
      · exact Nat.le_refl _
    · rw [hq q hqr] at ho'
      rcases htop q v p hp with h1 | ⟨h1, _⟩
      · exact h.top q o' v p ho' h1
      · exact absurd h1 hqr
  · obtain ⟨k1, u, k2⟩ := h.tb x hx
    have hne : x.1 ≠ b := fun e => by rw [e, himb] at k2; cases k2
    exact ⟨k1.keep (hw x.1 hne k1.lt), u, hle.im _ _ _ k2⟩
  · refine hw b' (fun e => ?_) hb'
    subst e
    rcases hbo with h1 | h1
    · exact hn h1
    · omega
  · rcases hown b' hb' with rfl | h1
    · exact hbo
    · exact .inl h1
  · rw [him] at hu; exact .inl hu
/-! ### frames -/
theorem SVR.mono {B : Nat} {fr : Fr} {a : Act} {t : Nat} {s : SV} (h : SVR B g σ fr a w t s) (hle : g.le g')
    (hp : ∀ b x, Priv B g σ w b x → Priv B g' σ' w' b x) : SVR B g' σ' fr a w' t s := by
  cases s with
  | u => trivial
  | v x => obtain ⟨v, h1, h2⟩ := h; exact ⟨v, h1, h2.mono hle⟩
  | lp d off => exact h
  | bx x => obtain ⟨b, h1, h2⟩ := h; exact ⟨b, h1, hp b x h2⟩
  | hb => exact h
theorem Priv.step {B b : Nat} {x : AV} (h : Priv B g σ w b x) (hs : Step w.heap.size g σ w g' σ' w') : Priv B g' σ' w' b x := by
  obtain ⟨h1, h2, h3, cs, el, h4, h5, h6⟩ := h
  have hlt : b < w.heap.size := (Array.getElem?_eq_some_iff.1 h4).1
  refine ⟨h1, fun ho => ?_, fun q => ?_, cs, el, by rw [hs.keep b hlt h2]; exact h4, h5, h6.mono hs.le⟩
  · rcases hs.own b ho with h | h
    · exact h2 h
    · omega
  · cases hq : g'.im b q with
    | none => rfl
    | some u =>
      rcases hs.imn b q u hq with h | h | h
      · rw [h3 q] at h; cases h
      · exact absurd h h2
      · omega
theorem FR.step {B : Nat} {fr : Fr} {a : Act} (h : FR B g σ fr a w) (hs : Step w.heap.size g σ w g' σ' w') : FR B g' σ' fr a w' :=
  ⟨fun t => (h.sv t).mono hs.le fun _ _ hp => hp.step hs, h.inj, h.defers.heap fun D h1 h2 h3 => ⟨by rw [hs.keep D h1 h3]; exact h2, fun ho => by
    rcases hs.own D ho with k | k
    · exact h3 k
    · omega⟩⟩
end Go.Am
/-! ## part OpA -/
/- The abstract machine and the model: operations that only compute, and loads. -/
namespace Go.Am
open Go
def Tys (P : Program) (C : Ctx) : Prop := ∀ t ti, C.ti t = some ti → TyOK P t ti
def VSR (B : Nat) (g : G) (σ : H) (fr : Fr) (a : Act) (w : World) (n : Nat) (v : Value) : SV → Prop
  | .u => True
  | .v x => VR g x v
  | .lp d off => (getS fr.sl d).isBox = true ∧ ∃ b, a.tmps[d]? = some (.pointer (some ⟨b, 0, none⟩)) ∧ v = .pointer (some ⟨b, off, none⟩)
  | .bx x => ∃ b, v = .pointer (some ⟨b, 0, none⟩) ∧ Priv B g σ w b x ∧ n ≤ b
  | .hb => False
variable {P : Program} {C : Ctx} {B : Nat} {g : G} {σ σ' : H} {w : World} {fr : Fr} {a : Act}
theorem FR.get (h : FR B g σ fr a w) (t : Nat) {s : SV} (hs : getS fr.sl t = s) : SVR B g σ fr a w t s := hs ▸ h.sv t
theorem getD_of {α : Type} {xs : Array α} {t : Nat} {v d : α} (h : xs[t]? = some v) : xs.getD t d = v := by
  simp [Array.getD_eq_getD_getElem?, h]
theorem ev_v (h : FR B g σ fr a w) {x : Operand} {y : AV} (hx : ev fr x = .v y) : VR g y (a.eval x) := by
  cases x with
  | tmp t =>
    simp only [ev] at hx
    cases hs : getS fr.sl t <;> rw [hs] at hx <;> simp at hx
    subst hx
    obtain ⟨v, h1, h2⟩ := h.get t hs
    simp only [Act.eval, getD_of h1]; exact h2
  | const v =>
    simp only [ev] at hx
    split at hx <;> simp at hx
    rename_i hc
    subst hx; exact constA_VR hc
  | func f => simp only [ev] at hx; cases hx; exact VR_fn.2 ⟨#[], rfl, rfl, fun j c hj => by simp at hj⟩
  | global q => simp [ev] at hx
theorem ev_lp (h : FR B g σ fr a w) {x : Operand} {d off : Nat} (hx : ev fr x = .lp d off) :
    (getS fr.sl d).isBox = true ∧ ∃ b, a.tmps[d]? = some (.pointer (some ⟨b, 0, none⟩)) ∧ a.eval x = .pointer (some ⟨b, off, none⟩) := by
  cases x with
  | tmp t =>
    simp only [ev] at hx
    cases hs : getS fr.sl t <;> rw [hs] at hx <;> simp at hx
    · obtain ⟨rfl, rfl⟩ := hx
      obtain ⟨h0, b, h1, h2⟩ := h.get t hs
      exact ⟨h0, b, h1, by simp only [Act.eval, getD_of h2]⟩
    · obtain ⟨rfl, rfl⟩ := hx
      obtain ⟨b, h1, h2⟩ := h.get t hs
      exact ⟨by rw [hs]; rfl, b, h1, by simp only [Act.eval, getD_of h1]⟩
    · obtain ⟨rfl, rfl⟩ := hx
      obtain ⟨b, h1⟩ := h.get t hs
      exact ⟨by rw [hs]; rfl, b, h1, by simp only [Act.eval, getD_of h1]⟩
  | const v => simp only [ev] at hx; split at hx <;> simp at hx
  | func f => simp [ev] at hx
  | global q => simp [ev] at hx
theorem av_v (h : FR B g σ fr a w) {x : Operand} {y : AV} (hx : av fr x = some y) : VR g y (a.eval x) := by
  unfold av at hx
  split at hx <;> simp at hx
  rename_i z hz
  subst hx; exact ev_v h hz
theorem avs_v (h : FR B g σ fr a w) : ∀ (l : List Operand) (ys : List AV), avs fr l = some ys → ys.length = l.length ∧ ∀ (j : Nat) y, ys[j]? = some y → ∃ x, l[j]? = some x ∧ VR g y (a.eval x)
  | [], ys, hx => by simp [avs] at hx; subst hx; simp
  | x :: l, ys, hx => by
    simp only [avs] at hx
    split at hx <;> try (simp at hx; done)
    rename_i y m h1 h2
    simp at hx; subst hx
    obtain ⟨ih1, ih2⟩ := avs_v h l m h2
    refine ⟨by simp [ih1], fun j z hj => ?_⟩
    cases j with
    | zero => simp at hj; subst hj; exact ⟨x, by simp, av_v h h1⟩
    | succ j => simpa using ih2 j z (by simpa using hj)
theorem avs_VRs (h : FR B g σ fr a w) {l : List Operand} {ys : List AV} (hx : avs fr l = some ys) : VRs g ys (l.map a.eval).toArray := by
  obtain ⟨h1, h2⟩ := avs_v h l ys hx
  refine ⟨by simp [h1], fun j c hj => ?_⟩
  obtain ⟨x, h3, h4⟩ := h2 j c hj
  exact ⟨a.eval x, by simp [h3], h4⟩
/-! ### operations on values -/
theorem toList_data (s : ByteArray) : s.toList = s.data.toList := by rw [ByteArray.toList_eq]
theorem eqLeaf_run {k : TK} {x y : AV} {u v : Value} {b : Bool} {t : Nat} (d : Nat) (hk : leafTK P t = some k) (h : eqLeaf k x y = some b) (hx : VR g x u) (hy : VR g y v) :
    (Op.equalIn (d + 1) t u v).run P w = .ok b w ∧ Instr.sameNow ((P.underlying t).getD .invalid) u v = some b := by
  unfold leafTK at hk
  split at hk <;> simp at hk <;> subst hk
  · rename_i hu
    cases x <;> cases y <;> simp [eqLeaf] at h
    rw [VR_bool] at hx hy; subst hx; subst hy; subst h
    exact ⟨run_equalIn_bool' w d t _ _ hu, by simp [hu, Instr.sameNow]⟩
  · rename_i q hu
    cases x <;> cases y <;> simp [eqLeaf] at h
    rw [VR_int] at hx hy; subst hx; subst hy
    obtain ⟨⟨rfl, rfl⟩, rfl⟩ := h
    exact ⟨run_equalIn_int w d t _ _ _ _ hu, by simp [hu, Instr.sameNow]⟩
  · rename_i hu
    cases x <;> cases y <;> try (simp [eqLeaf] at h; done)
    rw [VR_str] at hx hy
    obtain ⟨p, rfl, rfl⟩ := hx
    obtain ⟨q, rfl, rfl⟩ := hy
    have h := Option.some.inj h
    subst h
    refine ⟨by rw [run_equalIn_string w d t _ _ hu, toList_data, toList_data], ?_⟩
    simp only [hu, Option.getD_some, Instr.sameNow]
    rw [beq_toListBytes, toList_data, toList_data]
theorem un_sound {op : UnOp} {x y : AV} {v : Value} (h : unA op x = some y) (hx : VR g x v) : ∃ u, (Op.unary op v).run P w = .ok u w ∧ VR g y u := by
  unfold unA at h
  split at h <;> simp at h <;> subst h
  · rw [VR_bool] at hx; subst hx; exact ⟨_, rfl, VR_bool.2 rfl⟩
  · rw [VR_int] at hx; subst hx
    exact ⟨_, rfl, VR_int.2 (by simp)⟩
theorem intOp_sound {op : BinOp} {k : IntKind} {m n : Int} {y : AV} {t : Nat} (hs : isShift op = false) (h : intOp op k m n = some y) :
    ∃ u, (binOp op t (.int k m) (.int k n)).run P w = .ok u w ∧ VR g y u := by
  cases op <;> simp [isShift] at hs <;> simp only [intOp] at h
  case quo =>
    split at h <;> simp at h
    rename_i hn; subst h
    exact ⟨_, by simp [binOp, Op.intDiv, hn], VR_int.2 rfl⟩
  case rem =>
    split at h <;> simp at h
    rename_i hn; subst h
    exact ⟨_, by simp [binOp, Op.intDiv, hn], VR_int.2 rfl⟩
  all_goals first
    | (cases h; done)
    | (cases h; first
        | exact ⟨.int k _, by simp only [binOp, ne_eq, not_true_eq_false, if_false, Op.intArith]; rfl, VR_int.2 rfl⟩
        | exact ⟨.bool _, by simp only [binOp, ne_eq, not_true_eq_false, if_false, Op.intCmp]; rfl, VR_bool.2 rfl⟩)
theorem shift_sound {op : BinOp} {j k : IntKind} {m n : Int} {y : AV} {t : Nat} (h : shiftOp op j m n = some y) :
    ∃ u, (binOp op t (.int j m) (.int k n)).run P w = .ok u w ∧ VR g y u := by
  unfold shiftOp at h
  split at h <;> try (simp at h; done)
  rename_i hn
  split at h <;> simp at h
  subst h
  exact ⟨_, by simp [binOp, Op.shift, hn], VR_int.2 rfl⟩
theorem str_sound {op : BinOp} {p q : ByteArray} {y : AV} {t : Nat} (h : strOp op p.data.toList q.data.toList = some y) :
    ∃ u, (binOp op t (.string p) (.string q)).run P w = .ok u w ∧ VR g y u := by
  unfold strOp at h
  split at h <;> try (simp at h; done)
  · split at h <;> simp at h
    rename_i hl
    subst h
    refine ⟨.string (p ++ q), ?_, VR_str.2 ⟨_, rfl, by simp [ByteArray.data_append]⟩⟩
    have e : ¬ (((p.size + q.size : Nat) : Int) > IntKind.i64.max) := by
      have hm : IntKind.i64.max = 9223372036854775807 := by decide
      rw [hm]
      have h1 : p.size = p.data.toList.length := (Array.length_toList).symm
      have h2 : q.size = q.data.toList.length := (Array.length_toList).symm
      rw [h1, h2]; omega
    simp only [binOp, Op.stringOp, if_neg e, Sem.run_pure]
  · have h := Option.some.inj h
    subst h
    exact ⟨_, by rw [binOp_string_eql]; rfl, VR_bool.2 (by rw [toList_data, toList_data])⟩
  · have h := Option.some.inj h
    subst h
    exact ⟨_, by rw [binOp_string_neq]; rfl, VR_bool.2 (by rw [toList_data, toList_data])⟩
end Go.Am
/-! ## part OpB -/
/- The abstract machine and the model: quiet operations, one by one. -/
namespace Go.Am
open Go
def Quiet (P : Program) (B : Nat) (g : G) (σ : H) (fr : Fr) (a : Act) (w : World) (o : Oper) (e : Eff) (σ' : H) : Prop :=
  e.wr = none ∧ σ' = σ ∧ ∃ v, (execOp a.eval o).run P w = .ok (.value v) w ∧ VSR B g σ fr a w w.heap.size v e.r
variable {P : Program} {C : Ctx} {B : Nat} {g : G} {σ σ' : H} {w : World} {fr : Fr} {a : Act} {o : Oper} {e : Eff}
theorem app_eq {R : Type} {m : M R} {r : R × H} (h : m σ = some r) : ∃ m', m' = m ∧ m' σ = some r := ⟨m, rfl, h⟩
theorem retE_eq {x : AV} (h : retE x σ = some (e, σ')) : e.wr = none ∧ σ' = σ ∧ e.r = .v x := by
  simp only [retE, pureM, Option.some.injEq, Prod.mk.injEq] at h
  obtain ⟨rfl, rfl⟩ := h
  exact ⟨rfl, rfl, rfl⟩
theorem retO_eq {x : Option AV} (h : retO x σ = some (e, σ')) : ∃ y, x = some y ∧ e.wr = none ∧ σ' = σ ∧ e.r = .v y := by
  unfold retO obind at h
  cases x with
  | none => simp at h
  | some y => exact ⟨y, rfl, retE_eq h⟩
theorem quiet_v {y : AV} {v : Value} (h : e.wr = none ∧ σ' = σ ∧ e.r = .v y) (hr : (execOp a.eval o).run P w = .ok (.value v) w) (hv : VR g y v) : Quiet P B g σ fr a w o e σ' :=
  ⟨h.1, h.2.1, v, hr, by rw [h.2.2]; exact hv⟩
theorem kMove_sound (hf : FR B g σ fr a w) {x : Operand} (hr : (execOp a.eval o).run P w = .ok (.value (a.eval x)) w) (h : kMove (ev fr x) σ = some (e, σ')) : Quiet P B g σ fr a w o e σ' := by
  unfold kMove at h
  cases hx : ev fr x <;> rw [hx] at h <;> simp only [failM] at h
  case v y => exact quiet_v (retE_eq h) hr (ev_v hf hx)
  case lp d off =>
    simp only [pureM, Option.some.injEq, Prod.mk.injEq] at h
    obtain ⟨rfl, rfl⟩ := h
    obtain ⟨h1, b, h2, h3⟩ := ev_lp hf hx
    exact ⟨rfl, rfl, _, hr, h1, b, h2, h3⟩
  all_goals cases h
theorem kPick_sound (hf : FR B g σ fr a w) {c x y : Operand} (ho : o.op = .pick c x y) (h : kPick fr c x y σ = some (e, σ')) : Quiet P B g σ fr a w o e σ' := by
  obtain ⟨m, hm, h⟩ := app_eq h
  unfold kPick at hm
  split at hm <;> subst hm <;> try (simp [failM] at h; done)
  rename_i t hc
  have hv := ev_v hf hc
  rw [VR_bool] at hv
  refine kMove_sound hf ?_ h
  cases t <;> simp [execOp, ho, hv, asBool]
theorem kNil_sound (hf : FR B g σ fr a w) {x : Operand} (ho : o.op = .nilCheck x) (h : kNil fr x σ = some (e, σ')) : Quiet P B g σ fr a w o e σ' := by
  obtain ⟨m, hm, h⟩ := app_eq h
  unfold kNil at hm
  split at hm <;> subst hm <;> try (simp [failM] at h; done)
  · rename_i d off hx
    simp only [pureM, Option.some.injEq, Prod.mk.injEq] at h
    obtain ⟨rfl, rfl⟩ := h
    obtain ⟨h1, b, h2, h3⟩ := ev_lp hf hx
    exact ⟨rfl, rfl, _, by simp only [execOp, ho, h3]; rfl, h1, b, h2, rfl⟩
  · rename_i y hx
    obtain ⟨z, hz, h'⟩ := retO_eq h
    have hv := ev_v hf hx
    unfold nzA at hz
    split at hz <;> simp at hz <;> subst hz
    · obtain ⟨b, off, h1, h2⟩ := VR_adr.1 hv
      exact quiet_v h' (by simp only [execOp, ho, h1]; rfl) (h1 ▸ hv)
    · obtain ⟨b, sz, N, h1, h2⟩ := VR_ptr.1 hv
      exact quiet_v h' (by simp only [execOp, ho, h2]; rfl) (h2 ▸ hv)
    · obtain ⟨vs, h1, h2⟩ := VR_fn.1 hv
      exact quiet_v h' (by simp only [execOp, ho, h1]; rfl) (h1 ▸ hv)
theorem kUn_sound (hf : FR B g σ fr a w) {op : UnOp} {t : Nat} {x : Operand} (ho : o.op = .unOp op t x) (h : kUn fr op x σ = some (e, σ')) : Quiet P B g σ fr a w o e σ' := by
  obtain ⟨m, hm, h⟩ := app_eq h
  unfold kUn at hm
  split at hm <;> subst hm <;> try (simp [failM] at h; done)
  rename_i y hy
  obtain ⟨z, hz, h'⟩ := retO_eq h
  obtain ⟨u, h1, h2⟩ := un_sound (P := P) (w := w) hz (av_v hf hy)
  exact quiet_v h' (by simp [execOp, ho, h1]) h2
theorem kExtract_sound (hf : FR B g σ fr a w) {x : Operand} {i : Nat} (ho : o.op = .extract x i) (h : kExtract fr x i σ = some (e, σ')) : Quiet P B g σ fr a w o e σ' := by
  obtain ⟨m, hm, h⟩ := app_eq h
  unfold kExtract at hm
  split at hm <;> subst hm <;> try (simp [failM] at h; done)
  rename_i y hy
  obtain ⟨z, hz, h'⟩ := retO_eq h
  have hv := av_v hf hy
  unfold tupAt at hz
  split at hz <;> try (simp at hz; done)
  obtain ⟨vs, h1, h2, h3⟩ := VR_tup.1 hv
  obtain ⟨u, h4, h5⟩ := h3 i z hz
  exact quiet_v h' (by simp [execOp, ho, h1, Instr.extract, h4]) h5
theorem kFunc_sound (hf : FR B g σ fr a w) {f : Nat} {first caps : Array Operand} (ho : o.op = .makeFunc (.func f) first caps) (h : kFunc fr f first.toList caps.toList σ = some (e, σ')) : Quiet P B g σ fr a w o e σ' := by
  obtain ⟨m, hm, h⟩ := app_eq h
  unfold kFunc at hm
  split at hm <;> subst hm <;> try (simp [failM] at h; done)
  rename_i l h1 h2
  have hfirst : first = #[] := by cases first; simp_all
  refine quiet_v (retE_eq h) (v := .func (.func f) #[] (caps.map a.eval)) (by simp [execOp, ho, Instr.makeFunc, hfirst]) (VR_fn.2 ⟨_, rfl, ?_⟩)
  have := avs_VRs hf h2
  have e : (caps.toList.map a.eval).toArray = caps.map a.eval := by apply Array.ext'; simp
  rwa [e] at this
theorem fieldOf_run (ht : Tys P C) {s f off ft : Nat} (h : fieldOf C s f = some (off, ft)) :
    ∃ fs fd, (underlying s).run P w = .ok (.struct fs) w ∧ fs[f]? = some fd ∧ fd.offset = off ∧ fd.type = ft := by
  unfold fieldOf at h
  split at h <;> try (cases h; done)
  rename_i ti hti
  split at h <;> try (cases h; done)
  rename_i l hk
  obtain ⟨d, h1, h2, hu⟩ := run_und (w := w) (ht s ti hti)
  rw [hk] at h2
  cases d <;> simp [TK.of] at h2
  rename_i fs
  subst h2
  simp at h
  obtain ⟨fd, h3, h4, h5⟩ := h
  exact ⟨fs, fd, h1, h3, h4, h5⟩
theorem part_run {t : Nat} {ti : TI} (ht : TyOK P t ti) {cs : List AV} {vs : Array Value} {off : Nat} {y : AV}
    (h1 : vs.size = cs.length) (h2 : ∀ (j : Nat) (c : AV), cs[j]? = some c → ∃ u, vs[j]? = some u ∧ u.oneCell' = true ∧ VR g c u) (hy : part ti off (.agg cs) = some y) :
    ∃ u, (Go.part t vs off).run P w = .ok u w ∧ VR g y u := by
  unfold part at hy
  simp only [Go.part, Sem.run_bind, run_agg ht, Result.andThen_ok]
  cases hk : ti.k.isAgg with
  | true =>
    rw [hk] at hy
    simp only [AV.sub] at hy
    split at hy <;> simp at hy
    rename_i hl
    subst hy
    refine ⟨.agg (vs.extract off (off + ti.size)), by simp [run_size ht], VR_agg.2 ⟨_, rfl, by simp; omega, fun j c hj => ?_⟩⟩
    simp only [List.getElem?_take, List.getElem?_drop] at hj
    split at hj <;> try (simp at hj; done)
    rename_i hjs
    obtain ⟨u, h3, h4⟩ := h2 (off + j) c hj
    refine ⟨u, ?_, h4⟩
    rw [Array.getElem?_extract]
    rw [if_pos (by omega)]; exact h3
  | false =>
    rw [hk] at hy
    simp only [AV.leafAt] at hy
    obtain ⟨u, h3, _, h4⟩ := h2 off y hy
    exact ⟨u, by simp [h3], h4⟩
theorem part_agg {ti : TI} {off : Nat} {x y : AV} (h : part ti off x = some y) : ∃ cs, x = .agg cs := by
  unfold part at h
  cases hk : ti.k.isAgg <;> rw [hk] at h <;> cases x <;> simp [AV.sub, AV.leafAt] at h <;> exact ⟨_, rfl⟩
theorem kField_sound (ht : Tys P C) (hf : FR B g σ fr a w) {s f : Nat} {x : Operand} (ho : o.op = .field s x f) (h : kField C fr s f x σ = some (e, σ')) : Quiet P B g σ fr a w o e σ' := by
  obtain ⟨m, hm, h⟩ := app_eq h
  unfold kField at hm
  split at hm <;> subst hm <;> try (simp [failM] at h; done)
  rename_i y off ft hy hfo
  obtain ⟨m, hm, h⟩ := app_eq h
  split at hm <;> subst hm <;> try (simp [failM] at h; done)
  rename_i ti hti
  obtain ⟨z, hz, h'⟩ := retO_eq h
  obtain ⟨cs, rfl⟩ := part_agg hz
  obtain ⟨vs, h1, h2, h3⟩ := VR_agg.1 (av_v hf hy)
  obtain ⟨fs, fd, h4, h5, h6, h7⟩ := fieldOf_run (w := w) ht hfo
  obtain ⟨u, h8, h9⟩ := part_run (w := w) (ht ft ti hti) h2 h3 hz
  refine quiet_v h' (v := u) ?_ h9
  simp [execOp, ho, h1, Instr.field, h4, h5, h6, h7, asAgg, h8]
theorem sizeOf_pos {t : Nat} {ti : TI} (ht : TyOK P t ti) : (Go.sizeOf t).run P w = .ok ti.size w ∧ ti.size ≠ 0 := ⟨run_size ht, by have := ht.pos; omega⟩
end Go.Am
/-! ## part OpC -/
/- The abstract machine and the model: addresses, parts, cuts, loads. -/
namespace Go.Am
open Go
variable {P : Program} {C : Ctx} {B : Nat} {g : G} {σ σ' : H} {w : World} {fr : Fr} {a : Act} {o : Oper} {e : Eff}
theorem kFieldAddr_sound (ht : Tys P C) (hf : FR B g σ fr a w) {s f : Nat} {x : Operand} (ho : o.op = .fieldAddr s x f) (h : kFieldAddr C fr s f x σ = some (e, σ')) : Quiet P B g σ fr a w o e σ' := by
  obtain ⟨m, hm, h⟩ := app_eq h
  unfold kFieldAddr at hm
  split at hm
  case h_2 => subst hm; simp [failM] at h
  rename_i off ft hfo
  obtain ⟨fs, fd, h4, h5, h6, h7⟩ := fieldOf_run (w := w) ht hfo
  split at hm
  case h_2 => subst hm; simp [failM] at h
  rename_i ti hti
  have hs := (ht ft ti hti)
  have hz : ti.size ≠ 0 := by have := hs.pos; omega
  have run : ∀ b q, a.eval x = .pointer (some ⟨b, q, none⟩) → (execOp a.eval o).run P w = .ok (.value (.pointer (some ⟨b, q + off, none⟩))) w := fun b q hq => by
    simp [execOp, ho, hq, Instr.fieldAt, Instr.sureAddr, h4, h5, fieldPlace, h7, run_size hs, hz, h6, cells_add]
  split at hm
  · rename_i d q hx
    subst hm
    simp only [pureM, Option.some.injEq, Prod.mk.injEq] at h
    obtain ⟨rfl, rfl⟩ := h
    obtain ⟨h1, b, h2, h3⟩ := ev_lp hf hx
    exact ⟨rfl, rfl, _, run b q h3, h1, b, h2, rfl⟩
  · rename_i r v' i q hx
    subst hm
    obtain ⟨b, sz, N, h1, h2⟩ := VR_ptr.1 (ev_v hf hx)
    exact quiet_v (retE_eq h) (run b _ h2) (VR_ptr.2 ⟨b, sz, N, h1, by rw [Nat.add_assoc]⟩)
  · rename_i y hx
    split at hm <;> subst hm <;> try (simp [failM] at h; done)
    rename_i z hz'
    obtain ⟨b, q, h1, h2⟩ := VR_adr.1 (ev_v hf hx)
    exact quiet_v (retE_eq h) (run b q h1) (VR_adr.2 ⟨b, q + off, rfl, (h2.part hz').1⟩)
  · subst hm; simp [failM] at h
theorem idxN_eq {n : Int} {len j : Nat} (h : idxN n len = some j) : 0 ≤ n ∧ n < len ∧ n.toNat = j ∧ j < len := by
  unfold idxN at h
  split at h <;> simp at h
  rename_i hc
  exact ⟨hc.1, hc.2, h, by omega⟩
theorem kIndexAddr_sound (ht : Tys P C) (hf : FR B g σ fr a w) {t : Nat} {x i : Operand} (ho : o.op = .indexAddr t x i) (h : kIndexAddr C fr t x i σ = some (e, σ')) : Quiet P B g σ fr a w o e σ' := by
  obtain ⟨m, hm, h⟩ := app_eq h
  unfold kIndexAddr at hm
  split at hm
  case h_2 => subst hm; simp [failM] at h
  rename_i k n ti hi hti
  have hvi := av_v hf hi
  rw [VR_int] at hvi
  obtain ⟨d, hu, hk, hu'⟩ := run_und (w := w) (ht t ti hti)
  split at hm
  · -- an element of a row that is never written
    rename_i el s xs hkk hx
    rw [hkk] at hk
    cases d <;> simp [TK.of] at hk
    subst hk
    split at hm
    case h_2 => subst hm; simp [failM] at h
    rename_i te j hte hj
    obtain ⟨hn0, hn1, hn2, hn3⟩ := idxN_eq hj
    split at hm
    case isFalse => subst hm; simp [failM] at h
    rename_i hsz
    split at hm <;> subst hm <;> try (simp [failM] at h; done)
    rename_i y hy
    obtain ⟨q, cap, h1, h2, h3⟩ := VR_sl.1 (ev_v hf hx)
    rcases h3 with rfl | ⟨b, off, rfl, h3⟩
    · simp at hn3
    obtain ⟨h4, h5⟩ := h3 j y hy
    refine quiet_v (retE_eq h) (v := .pointer (some ⟨b, off + j * s, none⟩)) ?_ (VR_adr.2 ⟨b, _, rfl, h5⟩)
    simp [execOp, ho, h1, hvi, Instr.indexAt, asIntOf, hu, hn0, hn1, run_size (ht _ te hte), hn2, hsz, cells_add]
  · -- an element of a row in the heap
    rename_i el r v' q len s hkk hx
    rw [hkk] at hk
    cases d <;> simp [TK.of] at hk
    subst hk
    split at hm
    case h_2 => subst hm; simp [failM] at h
    rename_i te j hte hj
    obtain ⟨hn0, hn1, hn2, hn3⟩ := idxN_eq hj
    split at hm <;> subst hm <;> try (simp [failM] at h; done)
    rename_i hsz
    obtain ⟨b, N, ad, cap, h1, h2, h3, h4⟩ := VR_hs.1 (ev_v hf hx)
    rcases h4 with ⟨rfl, h4, h5⟩ | ⟨h4, _⟩
    · refine quiet_v (retE_eq h) (v := .pointer (some ⟨b, (q + j) * s + 0, none⟩)) ?_ (VR_ptr.2 ⟨b, s, N, h1, rfl⟩)
      simp [execOp, ho, h2, hvi, Instr.indexAt, asIntOf, hu, hn0, hn1, run_size (ht _ te hte), hn2, hsz, cells_add, Nat.add_mul]
    · omega
  · rename_i len el d' off hkk hx
    rw [hkk] at hk
    cases d <;> simp [TK.of] at hk
    obtain ⟨rfl, rfl⟩ := hk
    split at hm
    case h_2 => subst hm; simp [failM] at h
    rename_i te j hte hj
    obtain ⟨hn0, hn1, hn2, hn3⟩ := idxN_eq hj
    subst hm
    simp only [pureM, Option.some.injEq, Prod.mk.injEq] at h
    obtain ⟨rfl, rfl⟩ := h
    obtain ⟨h1, b, h2, h3⟩ := ev_lp hf hx
    refine ⟨rfl, rfl, .pointer (some ⟨b, off + j * te.size, none⟩), ?_, h1, b, h2, rfl⟩
    simp [execOp, ho, h3, hvi, Instr.indexAt, Instr.sureAddr, asIntOf, hu, hn0, hn1, run_size (ht _ te hte), hn2, cells_add]
  · rename_i len el r v' q off hkk hx
    rw [hkk] at hk
    cases d <;> simp [TK.of] at hk
    obtain ⟨rfl, rfl⟩ := hk
    split at hm
    case h_2 => subst hm; simp [failM] at h
    rename_i te j hte hj
    obtain ⟨hn0, hn1, hn2, hn3⟩ := idxN_eq hj
    subst hm
    obtain ⟨b, sz, N, h1, h2⟩ := VR_ptr.1 (ev_v hf hx)
    refine quiet_v (retE_eq h) (v := .pointer (some ⟨b, q * sz + (off + j * te.size), none⟩)) ?_ (VR_ptr.2 ⟨b, sz, N, h1, rfl⟩)
    simp [execOp, ho, h2, hvi, Instr.indexAt, Instr.sureAddr, asIntOf, hu, hn0, hn1, run_size (ht _ te hte), hn2, cells_add, Nat.add_assoc]
  · rename_i len el y hkk hx
    rw [hkk] at hk
    cases d <;> simp [TK.of] at hk
    obtain ⟨rfl, rfl⟩ := hk
    split at hm
    case h_2 => subst hm; simp [failM] at h
    rename_i te j hte hj
    obtain ⟨hn0, hn1, hn2, hn3⟩ := idxN_eq hj
    split at hm <;> subst hm <;> try (simp [failM] at h; done)
    rename_i z hz
    obtain ⟨b, off, h1, h2⟩ := VR_adr.1 (ev_v hf hx)
    refine quiet_v (retE_eq h) (v := .pointer (some ⟨b, off + j * te.size, none⟩)) ?_ (VR_adr.2 ⟨b, _, rfl, (h2.part hz).1⟩)
    simp [execOp, ho, h1, hvi, Instr.indexAt, Instr.sureAddr, asIntOf, hu, hn0, hn1, run_size (ht _ te hte), hn2, cells_add]
  · subst hm; simp [failM] at h
theorem kIndex_sound (ht : Tys P C) (hf : FR B g σ fr a w) {t : Nat} {x i : Operand} (ho : o.op = .index t x i) (h : kIndex C fr t x i σ = some (e, σ')) : Quiet P B g σ fr a w o e σ' := by
  obtain ⟨m, hm, h⟩ := app_eq h
  unfold kIndex at hm
  split at hm
  case h_2 => subst hm; simp [failM] at h
  rename_i y k n ti hy hi hti
  have hvi := av_v hf hi
  rw [VR_int] at hvi
  have hvy := av_v hf hy
  obtain ⟨d, hu, hk, hu'⟩ := run_und (w := w) (ht t ti hti)
  split at hm
  · rename_i len el hkk
    rw [hkk] at hk
    cases d <;> simp [TK.of] at hk
    obtain ⟨rfl, rfl⟩ := hk
    split at hm
    case h_2 => subst hm; simp [failM] at h
    rename_i te j hte hj
    obtain ⟨hn0, hn1, hn2, hn3⟩ := idxN_eq hj
    subst hm
    obtain ⟨z, hz, h'⟩ := retO_eq h
    obtain ⟨cs, rfl⟩ := part_agg hz
    obtain ⟨vs, h1, h2, h3⟩ := VR_agg.1 hvy
    obtain ⟨u, h8, h9⟩ := part_run (w := w) (ht _ te hte) h2 h3 hz
    refine quiet_v h' (v := u) ?_ h9
    simp [execOp, ho, h1, hvi, Instr.index, asIntOf, hu, hn0, hn1, run_size (ht _ te hte), hn2, h8]
  · rename_i s hkk
    rw [hkk] at hk
    cases d <;> simp [TK.of] at hk
    subst hm
    obtain ⟨z, hz, h'⟩ := retO_eq h
    obtain ⟨bs, h1, h2⟩ := VR_str.1 hvy
    unfold strIdx at hz
    split at hz <;> try (simp at hz; done)
    rename_i j hj
    obtain ⟨hn0, hn1, hn2, hn3⟩ := idxN_eq hj
    split at hz <;> simp at hz
    rename_i c hc
    subst hz
    have hb : bs[n.toNat]? = some c := by
      rw [hn2]
      rw [← h2] at hc
      have hlt : j < bs.size := by
        have : bs.size = bs.data.toList.length := (Array.length_toList).symm
        rw [this, h2]; exact hn3
      rw [getElem?_pos bs j hlt]
      rw [Array.getElem?_toList] at hc
      have := Array.getElem?_eq_some_iff.1 hc
      obtain ⟨_, h3⟩ := this
      rw [← h3]; rfl
    refine quiet_v h' (v := .int .u8 c.toNat) ?_ (VR_int.2 rfl)
    simp [execOp, ho, h1, hvi, Instr.index, asIntOf, hu, hn0, hb]
  · subst hm; simp [failM] at h
end Go.Am
/-! ## part Eq -/
/- The abstract machine and the model: equality, keys of maps, operators on two values. -/
namespace Go.Am
open Go
variable {P : Program} {C : Ctx} {B : Nat} {g : G} {σ σ' : H} {w : World} {fr : Fr} {a : Act} {o : Oper} {e : Eff}
theorem leaf_part {t off : Nat} {k : TK} {xs : Array Value} {u : Value} (hk : leafTK P t = some k) (hx : xs[off]? = some u) : (Go.part t xs off).run P w = .ok u w := by
  unfold leafTK at hk
  cases hu : P.underlying t with
  | none => simp [hu] at hk
  | some d => cases d <;> simp [hu] at hk <;> simp [Go.part, isAgg, run_underlying hu, hx]
theorem eqFields_run (d : Nat) (xs ys : Array Value) : ∀ (fs : List Field) (k : Nat) (ks : List TK) (as bs : List AV) (b : Bool), fs.map (·.offset) = List.range' k fs.length →
    (fs.all fun f => f.name != "_") = true → fs.map (fun f => leafTK P f.type) = ks.map some →
    (∀ (j : Nat) c, as[j]? = some c → ∃ u, xs[k + j]? = some u ∧ VR g c u) → (∀ (j : Nat) c, bs[j]? = some c → ∃ u, ys[k + j]? = some u ∧ VR g c u) → eqLeaves ks as bs = some b →
    (Op.eqFields (d + 1) xs ys fs).run P w = .ok b w
  | [], k, ks, as, bs, b, _, _, hk, _, _, h => by
    simp at hk; subst hk
    cases as <;> cases bs <;> simp [eqLeaves] at h
    subst h
    simp [Op.eqFields]
  | f :: fs, k, ks, as, bs, b, ho, hn, hk, hx, hy, h => by
    cases ks with
    | nil => simp at hk
    | cons q ks =>
      simp at hk
      cases as with
      | nil => simp [eqLeaves] at h
      | cons x as =>
        cases bs with
        | nil => simp [eqLeaves] at h
        | cons y bs =>
          simp only [eqLeaves] at h
          split at h <;> simp at h
          rename_i p r hp hr
          subst h
          simp [List.range'] at ho
          simp at hn
          obtain ⟨u, hu, hu'⟩ := hx 0 x rfl
          obtain ⟨v, hv, hv'⟩ := hy 0 y rfl
          have h1 := leaf_part (P := P) (t := f.type) (off := f.offset) (xs := xs) (u := u) (w := w) hk.1 (by rw [ho.1]; simpa using hu)
          have h2 := leaf_part (P := P) (t := f.type) (off := f.offset) (xs := ys) (u := v) (w := w) hk.1 (by rw [ho.1]; simpa using hv)
          have h3 := (eqLeaf_run (w := w) d hk.1 hp hu' hv').1
          have ih := eqFields_run d xs ys fs (k + 1) ks as bs r ho.2 (by simpa using hn.2) (by simpa using hk.2)
            (fun j c hj => by have := hx (j + 1) c (by simpa using hj); rwa [show k + (j + 1) = k + 1 + j by omega] at this)
            (fun j c hj => by have := hy (j + 1) c (by simpa using hj); rwa [show k + (j + 1) = k + 1 + j by omega] at this) hr
          simp only [Op.eqFields, hn.1, ne_eq, not_false_eq_true, if_true, Sem.run_bind, h1, h2, h3, Result.andThen_ok]
          cases p <;> simp [ih]
theorem eqItems_run (d : Nat) {el : Nat} (xs ys : Array Value) : ∀ (n k : Nat) (ks : List TK) (as bs : List AV) (b : Bool),
    List.replicate n (leafTK P el) = ks.map some →
    (∀ (j : Nat) c, as[j]? = some c → ∃ u, xs[k + j]? = some u ∧ VR g c u) → (∀ (j : Nat) c, bs[j]? = some c → ∃ u, ys[k + j]? = some u ∧ VR g c u) → eqLeaves ks as bs = some b →
    (Op.eqItems (d + 1) el 1 xs ys (List.range' k n)).run P w = .ok b w
  | 0, k, ks, as, bs, b, hk, _, _, h => by
    simp at hk; subst hk
    cases as <;> cases bs <;> simp [eqLeaves] at h
    subst h
    simp [Op.eqItems]
  | n + 1, k, ks, as, bs, b, hk, hx, hy, h => by
    cases ks with
    | nil => simp [List.replicate] at hk
    | cons q ks =>
      simp [List.replicate] at hk
      cases as with
      | nil => simp [eqLeaves] at h
      | cons x as =>
        cases bs with
        | nil => simp [eqLeaves] at h
        | cons y bs =>
          simp only [eqLeaves] at h
          split at h <;> simp at h
          rename_i p r hp hr
          subst h
          obtain ⟨u, hu, hu'⟩ := hx 0 x rfl
          obtain ⟨v, hv, hv'⟩ := hy 0 y rfl
          have h1 := leaf_part (P := P) (t := el) (xs := xs) (u := u) (w := w) (off := k * 1) hk.1 (by simpa using hu)
          have h2 := leaf_part (P := P) (t := el) (xs := ys) (u := v) (w := w) (off := k * 1) hk.1 (by simpa using hv)
          have h3 := (eqLeaf_run (w := w) d hk.1 hp hu' hv').1
          have ih := eqItems_run d xs ys n (k + 1) ks as bs r (by simpa using hk.2)
            (fun j c hj => by have := hx (j + 1) c (by simpa using hj); rwa [show k + (j + 1) = k + 1 + j by omega] at this)
            (fun j c hj => by have := hy (j + 1) c (by simpa using hj); rwa [show k + (j + 1) = k + 1 + j by omega] at this) hr
          simp only [List.range', Op.eqItems, Sem.run_bind, h1, h2, h3, Result.andThen_ok]
          cases p <;> simp [ih]
theorem eqA_run {t : Nat} {ti : TI} (ht : TyOK P t ti) (hk : ti.eqk ≠ []) {x y : AV} {u v : Value} {b : Bool} (d : Nat) (h : eqA ti.eqk x y = some b)
    (fx : x.fits ti = true) (fy : y.fits ti = true) (hx : VR g x u) (hy : VR g y v) : (Op.equalIn (d + 2) t u v).run P w = .ok b w := by
  have he := ht.eq hk
  obtain ⟨dd, hu, hdd, hu'⟩ := run_und (w := w) ht
  unfold eqTy at he
  rw [hu'] at he
  have leaf : [leafTK P t] = ti.eqk.map some → (Op.equalIn (d + 2) t u v).run P w = .ok b w := by
    intro hl
    have hkk : ∃ k, ti.eqk = [k] ∧ leafTK P t = some k := by
      cases hq : ti.eqk with
      | nil => exact absurd hq hk
      | cons k l =>
        rw [hq] at hl
        simp at hl
        exact ⟨k, by rw [hl.2], hl.1⟩
    obtain ⟨k, hk1, hk2⟩ := hkk
    have na : ti.k.isAgg = false := by
      rw [← hdd]; unfold leafTK at hk2; rw [hu'] at hk2
      cases dd <;> simp at hk2 <;> rfl
    have cx := (fits_shp fx).2 na
    have cy := (fits_shp fy).2 na
    unfold eqA at h
    rw [hk1, cx, cy] at h
    simp only [eqLeaves] at h
    split at h <;> simp at h
    rename_i p r hp hr
    cases hr
    simp only [Bool.and_true] at h
    subst h
    exact (eqLeaf_run (w := w) (d + 1) hk2 hp hx hy).1
  have agg : ti.k.isAgg = true → ∃ xs ys : Array Value, u = .agg xs ∧ v = .agg ys ∧ (∀ (j : Nat) c, x.cells[j]? = some c → ∃ q, xs[j]? = some q ∧ VR g c q) ∧ (∀ (j : Nat) c, y.cells[j]? = some c → ∃ q, ys[j]? = some q ∧ VR g c q) := by
    intro hag
    obtain ⟨cs, rfl, _⟩ := (fits_shp fx).1 hag
    obtain ⟨ds, rfl, _⟩ := (fits_shp fy).1 hag
    obtain ⟨xs, rfl, _, h1⟩ := VR_agg.1 hx
    obtain ⟨ys, rfl, _, h2⟩ := VR_agg.1 hy
    exact ⟨xs, ys, rfl, rfl, fun j c hj => let ⟨q, q1, _, q2⟩ := h1 j c hj; ⟨q, q1, q2⟩, fun j c hj => let ⟨q, q1, _, q2⟩ := h2 j c hj; ⟨q, q1, q2⟩⟩
  cases dd with
  | struct fs =>
    simp only at he
    obtain ⟨h1, h2, h3, h4, h5⟩ := he
    obtain ⟨xs, ys, rfl, rfl, hxs, hys⟩ := agg (by rw [← hdd]; rfl)
    have hfs : P.fieldsOf t = fs := by simp [Program.fieldsOf, hu']
    rw [run_equalIn_struct w (d + 1) t xs ys (by rw [hfs]; exact hu') h1, hfs]
    exact eqFields_run d xs ys fs.toList 0 ti.eqk x.cells y.cells b (by rw [h5]; simp [List.range_eq_range']) h3 h4 (by simpa using hxs) (by simpa using hys) h
  | array n el =>
    simp only at he
    obtain ⟨h1, h2, h3⟩ := he
    obtain ⟨xs, ys, rfl, rfl, hxs, hys⟩ := agg (by rw [← hdd]; rfl)
    cases hi : P.info? el with
    | none => simp [hi] at h3
    | some i =>
      simp [hi] at h3
      rw [run_equalIn_array w (d + 1) xs ys hu' hi]
      have hc : P.cellsOf el = 1 := by simp [Program.cellsOf, hi, h3]
      rw [hc, List.range_eq_range']
      exact eqItems_run d xs ys n 0 ti.eqk x.cells y.cells b h2 (by simpa using hxs) (by simpa using hys) h
  | _ => exact leaf he
end Go.Am
/-! ## part OpD -/
/- The abstract machine and the model: operators, cuts, loads, what is looked up. -/
namespace Go.Am
open Go
variable {P : Program} {C : Ctx} {B : Nat} {g : G} {σ σ' : H} {w : World} {fr : Fr} {a : Act} {o : Oper} {e : Eff}
theorem nilEq_run {x y : AV} {b : Bool} {t el : Nat} {u v : Value} (hu : P.underlying t = some (.slice el)) (h : nilEq x y = some b) (hx : VR g x u) (hy : VR g y v) :
    (∀ d, (Op.equalIn (d + 1) t u v).run P w = .ok b w) ∧ (∃ p n m, u = .slice p n m) ∧ ∃ p n m, v = .slice p n m := by
  unfold nilEq at h
  split at h <;> simp at h <;> subst h
  · rw [VR_nil] at hx hy; subst hx; subst hy
    exact ⟨fun d => by simp [Op.equalIn, run_underlying hu], ⟨_, _, _, rfl⟩, ⟨_, _, _, rfl⟩⟩
  · rw [VR_nil] at hx; subst hx
    obtain ⟨_, _, _, _, _, rfl, _⟩ := VR_hs.1 hy
    exact ⟨fun d => by simp [Op.equalIn, run_underlying hu], ⟨_, _, _, rfl⟩, ⟨_, _, _, rfl⟩⟩
  · rw [VR_nil] at hy; subst hy
    obtain ⟨_, _, _, _, _, rfl, _⟩ := VR_hs.1 hx
    exact ⟨fun d => by simp [Op.equalIn, run_underlying hu], ⟨_, _, _, rfl⟩, ⟨_, _, _, rfl⟩⟩
  · rw [VR_nil] at hx; subst hx
    obtain ⟨_, _, rfl, _⟩ := VR_sl.1 hy
    exact ⟨fun d => by simp [Op.equalIn, run_underlying hu], ⟨_, _, _, rfl⟩, ⟨_, _, _, rfl⟩⟩
  · rw [VR_nil] at hy; subst hy
    obtain ⟨_, _, rfl, _⟩ := VR_sl.1 hx
    exact ⟨fun d => by simp [Op.equalIn, run_underlying hu], ⟨_, _, _, rfl⟩, ⟨_, _, _, rfl⟩⟩
theorem nilOp_run {op : BinOp} {t : Nat} {ti : TI} (ht : TyOK P t ti) {x y z : AV} {u v : Value} (xo yo : Operand) (h : nilOp op ti.k x y = some z) (hx : VR g x u) (hy : VR g y v) :
    ∃ r, (eqGuard op t xo yo u v).run P w = .ok () w ∧ (binOp op t u v).run P w = .ok r w ∧ VR g z r := by
  obtain ⟨d, _, hd, hu⟩ := run_und (w := w) ht
  unfold nilOp at h
  split at h <;> simp at h <;> subst h
  all_goals
    rename_i hk hq
    rw [hk] at hd
    cases d <;> simp [TK.of] at hd
    obtain ⟨h1, ⟨p, n, m, rfl⟩, ⟨p', n', m', rfl⟩⟩ := nilEq_run (w := w) hu hq hx hy
    have h2 : (Op.equalIn Op.maxDepth t (.slice p n m) (.slice p' n' m')).run P w = .ok _ w := h1 9999
    exact ⟨_, by unfold eqGuard; simp, by simp only [binOp, Sem.run_bind, Op.equal, h2, Result.andThen_ok, Sem.run_pure], VR_bool.2 rfl⟩
theorem bin_sound {op : BinOp} {t : Nat} {ti : TI} (ht : TyOK P t ti) {x y z : AV} {u v : Value} (xo yo : Operand) (h : binA op ti x y = some z) (hx : VR g x u) (hy : VR g y v) :
    ∃ r, (eqGuard op t xo yo u v).run P w = .ok () w ∧ (binOp op t u v).run P w = .ok r w ∧ VR g z r := by
  unfold binA at h
  split at h
  · rw [VR_int] at hx hy; subst hx; subst hy
    have hg : ∀ {j k : IntKind} {m n : Int}, (eqGuard op t xo yo (.int j m) (.int k n)).run P w = .ok () w := by
      intro j k m n; unfold eqGuard; cases op <;> simp
    split at h
    · obtain ⟨r, h1, h2⟩ := shift_sound (P := P) (g := g) (w := w) h
      exact ⟨r, hg, h1, h2⟩
    · rename_i hs
      split at h <;> try (simp at h; done)
      rename_i hjk; subst hjk
      obtain ⟨r, h1, h2⟩ := intOp_sound (P := P) (g := g) (w := w) (t := t) (by simpa using hs) h
      exact ⟨r, hg, h1, h2⟩
  · obtain ⟨p, rfl, rfl⟩ := VR_str.1 hx
    obtain ⟨q, rfl, rfl⟩ := VR_str.1 hy
    obtain ⟨r, h1, h2⟩ := str_sound (P := P) (g := g) (w := w) (t := t) h
    exact ⟨r, by unfold eqGuard; cases op <;> simp, h1, h2⟩
  · rw [VR_bool] at hx hy; subst hx; subst hy
    rename_i p q
    split at h <;> try (simp at h; done)
    rename_i hk
    obtain ⟨dd, _, hdd, hu'⟩ := run_und (w := w) ht
    rw [hk] at hdd
    cases dd <;> simp [TK.of] at hdd
    unfold boolOp at h
    split at h <;> simp at h <;> subst h
    · exact ⟨_, by unfold eqGuard; simp, run_eql_bool w t p q hu', VR_bool.2 rfl⟩
    · exact ⟨_, by unfold eqGuard; simp, run_neq_bool w t p q hu', VR_bool.2 (by simp)⟩
  · rename_i xs ys
    split at h <;> try (simp at h; done)
    rename_i hc
    obtain ⟨hfx, hfy, hne⟩ := hc
    have he := ht.eq hne
    have hgt : P.eqGuardType P.depth t = false := by
      have hag : ti.k.isAgg = true := by simp [AV.fits] at hfx; exact hfx.1
      obtain ⟨dd, _, hdd, hu'⟩ := run_und (w := w) ht
      unfold eqTy at he
      rw [hu'] at he
      rw [← hdd] at hag
      cases dd <;> simp [TK.of, TK.isAgg] at hag <;> simp only at he
      · exact he.1
      · exact he.2.1
    obtain ⟨us, rfl, h1, h2⟩ := VR_agg.1 hx
    obtain ⟨vs, rfl, h3, h4⟩ := VR_agg.1 hy
    unfold aggOp at h
    split at h <;> try (simp at h; done)
    · rename_i b hb
      simp at h; subst h
      have := eqA_run (w := w) ht hne 9998 (b := b) (by unfold eqA; exact hb) hfx hfy hx hy
      exact ⟨_, run_eqGuard_agg w _ t xo yo us vs hgt, by rw [run_eql_struct w t us vs, this]; rfl, VR_bool.2 rfl⟩
    · rename_i b hb
      simp at h; subst h
      have := eqA_run (w := w) ht hne 9998 (b := b) (by unfold eqA; exact hb) hfx hfy hx hy
      exact ⟨_, run_eqGuard_agg w _ t xo yo us vs hgt, by rw [run_neq_struct w t us vs, this]; rfl, VR_bool.2 rfl⟩
  · exact nilOp_run ht xo yo h hx hy
theorem kBin_sound (ht : Tys P C) (hf : FR B g σ fr a w) {op : BinOp} {t yt : Nat} {x y : Operand} (ho : o.op = .binOp op t x y yt) (h : kBin C fr op t x y σ = some (e, σ')) : Quiet P B g σ fr a w o e σ' := by
  obtain ⟨m, hm, h⟩ := app_eq h
  unfold kBin at hm
  split at hm <;> subst hm <;> try (simp [failM] at h; done)
  rename_i ti p q hti hp hq
  obtain ⟨z, hz, h'⟩ := retO_eq h
  obtain ⟨r, h1, h2, h3⟩ := bin_sound (w := w) (ht t ti hti) x y hz (av_v hf hp) (av_v hf hq)
  exact quiet_v h' (v := r) (by simp [execOp, ho, h1, h2]) h3
theorem optA_run (hf : FR B g σ fr a w) {x : Option Operand} {r : Option Int} (h : optA fr x = some r) : (x = none ∧ r = none) ∨ ∃ y k n, x = some y ∧ r = some n ∧ a.eval y = .int k n := by
  cases x with
  | none => simp [optA] at h; exact .inl ⟨rfl, h.symm⟩
  | some y =>
    simp only [optA] at h
    split at h <;> simp at h
    rename_i k n hy
    have := av_v hf hy
    rw [VR_int] at this
    exact .inr ⟨y, k, n, rfl, h.symm, this⟩
theorem bounds_run (hf : FR B g σ fr a w) {lo hi : Option Operand} {l h : Option Int} {len cap l' h' : Nat} {sl : Bool} (hl : optA fr lo = some l) (hh : optA fr hi = some h) (hb : bounds l h len = some (l', h')) (hc : len ≤ cap) :
    (Instr.sliceBounds sl len cap (lo.map a.eval) (hi.map a.eval) none).run P w = .ok (l', h', cap) w ∧ l' ≤ h' ∧ h' ≤ len := by
  unfold bounds at hb
  simp only at hb
  split at hb <;> simp at hb
  rename_i hcond
  obtain ⟨rfl, rfl⟩ := hb
  obtain ⟨c1, c2, c3⟩ := hcond
  have hlt : (l.getD 0).toNat ≤ (h.getD (len : Int)).toNat ∧ (h.getD (len : Int)).toNat ≤ len := by omega
  refine ⟨?_, hlt⟩
  rcases optA_run hf hl with ⟨rfl, rfl⟩ | ⟨y, k, n, rfl, rfl, hy⟩ <;> rcases optA_run hf hh with ⟨rfl, rfl⟩ | ⟨z, k', n', rfl, rfl, hz⟩
  · simp [Instr.sliceBounds]
  · simp only [Option.getD_some, Option.getD_none] at c1 c2 c3
    have := run_sliceBound (P := P) (w := w) k' n' cap (if sl then .sliceAcap else .sliceAlen) (by omega) (by omega)
    simp [Instr.sliceBounds, hz, this]
  · simp only [Option.getD_some, Option.getD_none] at c1 c2 c3
    have := run_sliceBound (P := P) (w := w) k n len .sliceB (by omega) (by omega)
    simp [Instr.sliceBounds, hy, this]
  · simp only [Option.getD_some] at c1 c2 c3
    have h1 := run_sliceBound (P := P) (w := w) k' n' cap (if sl then .sliceAcap else .sliceAlen) (by omega) (by omega)
    have h2 := run_sliceBound (P := P) (w := w) k n n'.toNat .sliceB (by omega) (by omega)
    simp [Instr.sliceBounds, hy, hz, h1, h2]
theorem extract_data {s : ByteArray} {l h : Nat} (hh : h ≤ s.data.toList.length) : (s.extract l h).data.toList = (s.data.toList.take h).drop l := by
  rw [ByteArray.data_extract]
  simp [List.extract, List.drop_take]
theorem kSlice_sound (ht : Tys P C) (hf : FR B g σ fr a w) {t : Nat} {x : Operand} {lo hi mx : Option Operand} (ho : o.op = .slice t x lo hi mx) (h : kSlice C fr t x lo hi mx σ = some (e, σ')) : Quiet P B g σ fr a w o e σ' := by
  obtain ⟨m, hm, h⟩ := app_eq h
  unfold kSlice at hm
  split at hm
  case h_2 => subst hm; simp [failM] at h
  rename_i ti y l hh hti hy hl hhh
  have hv := av_v hf hy
  obtain ⟨d, hu, hk, hu'⟩ := run_und (w := w) (ht t ti hti)
  split at hm
  · rename_i s hkk
    rw [hkk] at hk
    cases d <;> simp [TK.of] at hk
    split at hm <;> subst hm <;> try (simp [failM] at h; done)
    rename_i l' h' hb
    obtain ⟨bs, h1, h2⟩ := VR_str.1 hv
    have hsz : bs.size = s.length := by rw [← h2]; exact (Array.length_toList).symm
    obtain ⟨hrun, hb1, hb2⟩ := bounds_run (P := P) (w := w) (sl := false) hf hl hhh hb (Nat.le_refl _)
    refine quiet_v (retE_eq h) (v := .string (bs.extract l' h')) ?_ (VR_str.2 ⟨_, rfl, by rw [extract_data (by rw [h2]; exact hb2), h2]⟩)
    simp [execOp, ho, h1, Instr.sliceAt, Instr.slice, hu, hsz, hrun]
  · rename_i el hkk
    rw [hkk] at hk
    cases d <;> simp [TK.of] at hk
    subst hk
    split at hm
    case h_2 => subst hm; simp [failM] at h
    rename_i te hte
    subst hm
    obtain ⟨z, hz, h'⟩ := retO_eq h
    unfold sliceA at hz
    split at hz
    · split at hz <;> simp at hz
      rename_i lh hb
      obtain ⟨l', h''⟩ := lh
      subst hz
      rw [VR_nil] at hv
      obtain ⟨hrun, hb1, hb2⟩ := bounds_run (P := P) (w := w) (sl := true) hf hl hhh hb (Nat.le_refl _)
      obtain rfl : h'' = 0 := by omega
      obtain rfl : l' = 0 := by omega
      refine quiet_v h' (v := .slice none 0 0) ?_ (VR_nil.2 rfl)
      simp [execOp, ho, hv, Instr.sliceAt, Instr.slice, hu, hrun, run_size (ht _ te hte)]
    · rename_i s xs
      split at hz <;> try (simp at hz; done)
      rename_i l' h'' hb
      split at hz <;> simp at hz
      rename_i hs
      subst hz
      obtain ⟨ad, cap, h1, h2, h3⟩ := VR_sl.1 hv
      obtain ⟨hrun, hb1, hb2⟩ := bounds_run (P := P) (w := w) (sl := true) hf hl hhh hb h2
      have hlen : ((xs.take h'').drop l').length = h'' - l' := by rw [List.length_drop, List.length_take]; omega
      refine quiet_v h' (v := .slice (some (if cap = l' then ad else ad.add (l' * s))) (h'' - l') (cap - l')) ?_ (VR_sl.2 ⟨_, _, by rw [hlen], by rw [hlen]; omega, ?_⟩)
      · simp [execOp, ho, h1, Instr.sliceAt, Instr.slice, hu, hrun, run_size (ht _ te hte), hs]
        split <;> rfl
      · rcases h3 with rfl | ⟨b, off, rfl, h3⟩
        · exact .inl (by simp)
        · by_cases hz : (xs.take h'').drop l' = []
          · exact .inl hz
          · right
            have hlt : l' < h'' := by
              rcases Nat.lt_or_ge l' h'' with h | h
              · exact h
              · exact absurd (by simp; omega) hz
            refine ⟨b, off + l' * s, by rw [if_neg (by omega), cells_add], fun i x hi => ?_⟩
            rw [List.getElem?_drop, List.getElem?_take] at hi
            split at hi <;> try (simp at hi; done)
            obtain ⟨h4, h5⟩ := h3 (l' + i) x hi
            refine ⟨h4, ?_⟩
            rw [show off + l' * s + i * s = off + (l' + i) * s by rw [Nat.add_mul]; omega]
            exact h5
    · rename_i r v' q n s
      split at hz <;> try (simp at hz; done)
      rename_i l' h'' hb
      split at hz <;> simp at hz
      rename_i hs
      subst hz
      obtain ⟨b, N, ad, cap, h1, h2, h3, h4⟩ := VR_hs.1 hv
      obtain ⟨hrun, hb1, hb2⟩ := bounds_run (P := P) (w := w) (sl := true) hf hl hhh hb h3
      refine quiet_v h' (v := .slice (some (if cap = l' then ad else ad.add (l' * s))) (h'' - l') (cap - l')) ?_ (VR_hs.2 ⟨b, N, _, _, h1, rfl, by omega, ?_⟩)
      · simp [execOp, ho, h2, Instr.sliceAt, Instr.slice, hu, hrun, run_size (ht _ te hte), hs]
        split <;> rfl
      · rcases h4 with ⟨rfl, h4, h5⟩ | ⟨h4, h5, h6, h7⟩
        · by_cases hcl : cap = l'
          · by_cases hq : q + l' = 0
            · left
              obtain rfl : q = 0 := by omega
              obtain rfl : l' = 0 := by omega
              exact ⟨by rw [if_pos hcl], by omega, by rw [hcl]; simp⟩
            · exact .inr ⟨by omega, by omega, hq, by omega⟩
          · left
            refine ⟨by rw [if_neg hcl, cells_add, Nat.add_mul], by omega, ?_⟩
            rw [show q + l' + (cap - l') = q + cap by omega]; exact h5
        · exact .inr ⟨by omega, by omega, by omega, by omega⟩
    · simp at hz
  · subst hm; simp [failM] at h
end Go.Am
/-! ## part OpE -/
/- The abstract machine and the model: loads, look-ups, lengths. -/
namespace Go.Am
open Go
variable {P : Program} {C : Ctx} {B : Nat} {g : G} {σ σ' : H} {w : World} {fr : Fr} {a : Act} {o : Oper} {e : Eff}
theorem retM_eq {m : M AV} (h : retM m σ = some (e, σ')) : ∃ y, m σ = some (y, σ') ∧ e.wr = none ∧ e.r = .v y := by
  unfold retM bindM at h
  split at h <;> try (simp at h; done)
  rename_i y σ1 hy
  obtain ⟨h1, h2, h3⟩ := retE_eq h
  subst h2
  exact ⟨y, hy, h1, h3⟩
theorem arrAt_OR (hr : HR g σ w) {r v' : Nat} {fz : Bool} {sz : Nat} {xs : List AV} (h : arrAt σ r v' = some (fz, sz, xs)) :
    xs.length = v' ∧ σ[r]? = some (.arr fz sz xs) ∧ OR g w r (.arr fz sz xs) := by
  unfold arrAt at h
  split at h <;> try (simp at h; done)
  rename_i fz' sz' xs' hs
  split at h <;> simp at h
  obtain ⟨rfl, rfl, rfl⟩ := h
  rename_i hl
  exact ⟨hl, hs, hr.ob _ _ hs⟩
theorem cell_row {b q : Nat} {cs : Array Value} {el : Nat} {f : Nat × Nat} (h : w.heap[b]? = some (.cells cs el f)) : w.cell? ⟨b, q, none⟩ = cs[q]? := by
  simp [World.cell?, h]
theorem loadA_run {t : Nat} {ti : TI} (ht : TyOK P t ti) (hr : HR g σ w) {x y : AV} {v : Value} (hx : VR g x v) (h : loadA ti x σ = some (y, σ')) :
    σ' = σ ∧ ∃ u, (Instr.loadAt t v).run P w = .ok u w ∧ VR g y u := by
  unfold loadA at h
  split at h
  · split at h <;> simp at h
    rename_i z hfz
    obtain ⟨rfl, rfl⟩ := h
    obtain ⟨b, off, rfl, h1⟩ := VR_adr.1 hx
    have hm : MemR g (fun q => w.cell? ⟨b, q, none⟩) off z := fun j c hj => by
      obtain ⟨u, h2, h3⟩ := h1 j c hj
      exact ⟨u, hr.im _ _ _ h2, h3⟩
    obtain ⟨u, h2, h3⟩ := run_loadVar_mem ht (fits_shp hfz) hm
    exact ⟨rfl, u, by simp [Instr.loadAt, Instr.sureAddr, h2], h3⟩
  · rename_i r v' i off
    split at h <;> try (simp at h; done)
    rename_i fz sz xs ha
    obtain ⟨hl, hs, hor⟩ := arrAt_OR hr ha
    split at h <;> try (simp at h; done)
    rename_i z hz
    split at h <;> simp at h
    rename_i y' hy
    obtain ⟨rfl, rfl⟩ := h
    obtain ⟨b, N, cs, el, f, k1, k2, k3, k4, k5, k6, k7⟩ := hor
    obtain ⟨b', sz', N', h1, rfl⟩ := VR_ptr.1 hx
    rw [← hl, k1] at h1
    cases h1
    have hm : MemR g (fun q => w.cell? ⟨b, q, none⟩) (i * sz) z := fun j c hj => by
      obtain ⟨u, h2, h3⟩ := (k5 i z hz).2 j c hj
      exact ⟨u, (cell_row k2).trans h2, h3⟩
    obtain ⟨hm', hsh⟩ := hm.elem hy
    obtain ⟨u, h2, h3⟩ := run_loadVar_mem ht hsh hm'
    exact ⟨rfl, u, by simp [Instr.loadAt, Instr.sureAddr, h2], h3⟩
  · simp at h
theorem boxAt_Priv (hf : FR B g σ fr a w) {d : Nat} {x : AV} (h : boxAt fr d = some x) : ∃ b, a.tmps[d]? = some (.pointer (some ⟨b, 0, none⟩)) ∧ Priv B g σ w b x := by
  unfold boxAt at h
  split at h <;> simp at h
  rename_i hs
  subst h
  exact hf.get d hs
theorem kLoad_sound (ht : Tys P C) (hr : HR g σ w) (hf : FR B g σ fr a w) {t : Nat} {x : Operand} (ho : o.op = .load t x) (h : kLoad C fr t x σ = some (e, σ')) : Quiet P B g σ fr a w o e σ' := by
  obtain ⟨m, hm, h⟩ := app_eq h
  unfold kLoad at hm
  split at hm
  · rename_i ti d off hti hx
    split at hm <;> subst hm <;> try (simp [failM] at h; done)
    rename_i y hy
    obtain ⟨z, hz, h'⟩ := retO_eq h
    obtain ⟨_, b, h1, h2⟩ := ev_lp hf hx
    obtain ⟨b', h3, hp⟩ := boxAt_Priv hf hy
    rw [h1] at h3; cases h3
    obtain ⟨_, _, _, cs, el, k1, k2, k3⟩ := hp
    have hmm : MemR g (fun q => w.cell? ⟨b, q, none⟩) 0 y := fun j c hj => by
      obtain ⟨u, h5, h6⟩ := k3 j c hj
      exact ⟨u, (cell_row k1).trans h5, h6⟩
    obtain ⟨hm', hsh⟩ := hmm.elem hz
    rw [Nat.zero_add] at hm'
    obtain ⟨u, h5, h6⟩ := run_loadVar_mem (ht t ti hti) hsh hm'
    exact quiet_v h' (v := u) (by simp [execOp, ho, h2, Instr.loadAt, Instr.sureAddr, h5]) h6
  · rename_i ti y hti hx
    subst hm
    obtain ⟨z, hz, h1, h2⟩ := retM_eq h
    obtain ⟨rfl, u, h3, h4⟩ := loadA_run (ht t ti hti) hr (ev_v hf hx) hz
    exact quiet_v ⟨h1, rfl, h2⟩ (v := u) (by simp [execOp, ho, h3]) h4
  · subst hm; simp [failM] at h
/-! ### maps -/
theorem checkKey_leaf {t : Nat} {k : TK} (hk : leafTK P t = some k) (u : Value) (em : Bool) (n : Nat) : (Instr.checkKey em (n + 1) t u).run P w = .ok () w := by
  unfold leafTK at hk
  cases hu : P.underlying t with
  | none => simp [hu] at hk
  | some d => cases d <;> simp [hu] at hk <;> simp [Instr.checkKey, run_underlying hu]
theorem checkKey_run {t : Nat} {ti : TI} (ht : TyOK P t ti) (hk : ti.eqk ≠ []) {x : AV} {u : Value} (fx : x.fits ti = true) (hx : VR g x u) (em : Bool) (n : Nat) :
    (Instr.checkKey em (n + 2) t u).run P w = .ok () w := by
  have he := ht.eq hk
  have hn := ht.eqn hk
  obtain ⟨dd, hu, hdd, hu'⟩ := run_und (w := w) ht
  unfold eqTy at he
  rw [hu'] at he
  have leaf : [leafTK P t] = ti.eqk.map some → (Instr.checkKey em (n + 2) t u).run P w = .ok () w := by
    intro hl
    cases hq : ti.eqk with
    | nil => exact absurd hq hk
    | cons k l =>
      rw [hq] at hl
      simp at hl
      exact checkKey_leaf hl.1 u em (n + 1)
  have agg : ti.k.isAgg = true → ∃ xs : Array Value, u = .agg xs ∧ xs.size = ti.size := by
    intro hag
    obtain ⟨cs, rfl, hl⟩ := (fits_shp fx).1 hag
    obtain ⟨xs, rfl, h1, _⟩ := VR_agg.1 hx
    exact ⟨xs, rfl, by omega⟩
  cases dd with
  | struct fs =>
    simp only at he
    obtain ⟨h1, h2, h3, h4, h5⟩ := he
    obtain ⟨xs, rfl, hs⟩ := agg (by rw [← hdd]; rfl)
    have hfs : fs.size = xs.size := by
      have := congrArg List.length h4
      simp at this
      omega
    have hall : ∀ f ∈ fs.toList, f.name ≠ "_" ∧ (∃ k, leafTK P f.type = some k) ∧ f.offset < xs.size := by
      intro f hf
      refine ⟨by simpa using (List.all_eq_true.1 h3 f hf), ?_, ?_⟩
      · have : leafTK P f.type ∈ ti.eqk.map some := by rw [← h4]; exact List.mem_map_of_mem hf
        obtain ⟨k, _, hk⟩ := List.mem_map.1 this
        exact ⟨k, hk.symm⟩
      · have : f.offset ∈ List.range fs.size := by rw [← h5]; exact List.mem_map_of_mem hf
        rw [List.mem_range] at this
        omega
    unfold Instr.checkKey
    simp only [Sem.run_bind, hu, Result.andThen_ok]
    rw [← Array.forIn_toList]
    clear h3 h4 h5 hfs hs hu hu' hdd
    generalize fs.toList = l at hall
    induction l with
    | nil => simp
    | cons f l ih =>
      obtain ⟨hf1, ⟨k, hf2⟩, hf3⟩ := hall f (by simp)
      have hp := leaf_part (P := P) (t := f.type) (off := f.offset) (xs := xs) (u := xs[f.offset]) (w := w) hf2 (by simp [hf3])
      simp only [List.forIn_cons, hf1, ne_eq, not_false_eq_true, if_true, Sem.run_bind, hp, Result.andThen_ok, checkKey_leaf hf2, Sem.run_pure]
      exact ih (fun f hf => hall f (by simp [hf]))
  | array len el =>
    simp only at he
    obtain ⟨h1, h2, h3⟩ := he
    obtain ⟨xs, rfl, hs⟩ := agg (by rw [← hdd]; rfl)
    have hlen : len = xs.size := by
      have := congrArg List.length h2
      simp at this
      omega
    unfold Instr.checkKey
    simp only [Sem.run_bind, hu, Result.andThen_ok]
    simp only [Std.Legacy.Range.forIn_eq_forIn_range', Std.Legacy.Range.size, Nat.sub_zero, Nat.add_one_sub_one, Nat.div_one]
    have hsz : ∀ w, (Go.sizeOf el).run P w = .ok 1 w := by
      intro w
      cases hi : P.info? el with
      | none => simp [hi] at h3
      | some i => simp [hi] at h3; simp [Go.sizeOf, typeInfo, hi, h3]
    have hlf : len ≠ 0 → ∃ k, leafTK P el = some k := by
      intro h0
      cases len with
      | zero => exact absurd rfl h0
      | succ m =>
        cases hq : ti.eqk with
        | nil => exact absurd hq hk
        | cons k l => rw [hq] at h2; simp [List.replicate] at h2; exact ⟨k, h2.1⟩
    have hall : ∀ i ∈ List.range' 0 len, i < xs.size ∧ ∃ k, leafTK P el = some k := by
      intro i hi
      rw [List.mem_range'_1] at hi
      exact ⟨by omega, hlf (by omega)⟩
    generalize List.range' 0 len = l at hall
    induction l with
    | nil => simp
    | cons i l ih =>
      obtain ⟨hi1, k, hi2⟩ := hall i (by simp)
      have hp := leaf_part (P := P) (t := el) (off := i * 1) (xs := xs) (u := xs[i]) (w := w) hi2 (by simp [hi1])
      simp only [List.forIn_cons, Sem.run_bind, hsz, hp, Result.andThen_ok, checkKey_leaf hi2, Sem.run_pure]
      exact ih (fun i hi => hall i (by simp [hi]))
  | _ => exact leaf he
end Go.Am
/-! ## part Map -/
/- The abstract machine and the model: maps. -/
namespace Go.Am
open Go
variable {P : Program} {C : Ctx} {B : Nat} {g : G} {σ σ' : H} {w : World} {fr : Fr} {a : Act} {o : Oper} {e : Eff}
def Ents (g : G) (es : List (AV × AV)) (en : List MapEntry) : Prop :=
  en.length = es.length ∧ ∀ (i : Nat) k v, es[i]? = some (k, v) → ∃ e, en[i]? = some e ∧ VR g k e.key ∧ VR g v e.val
theorem Ents.tail {x : AV × AV} {es : List (AV × AV)} {y : MapEntry} {en : List MapEntry} (h : Ents g (x :: es) (y :: en)) : VR g x.1 y.key ∧ VR g x.2 y.val ∧ Ents g es en := by
  obtain ⟨h1, h2⟩ := h
  obtain ⟨e, h3, h4, h5⟩ := h2 0 x.1 x.2 rfl
  simp at h3; subst h3
  exact ⟨h4, h5, by simpa using h1, fun i k v hi => h2 (i + 1) k v (by simpa using hi)⟩
def Found (g : G) : Option (Nat × AV) → Option (Nat × Value) → Prop
  | none, none => True
  | some (i, v), some (j, u) => i = j ∧ VR g v u
  | _, _ => False
theorem findAsking_run {t : Nat} {ti : TI} (ht : TyOK P t ti) (hk : ti.eqk ≠ []) {x : AV} {u : Value} (fx : x.fits ti = true) (hx : VR g x u) :
    ∀ (es : List (AV × AV)) (en : List MapEntry) (i : Nat) (r : Option (Nat × AV)), Ents g es en → findIdx ti x i es = some r →
    ∃ r', (Instr.findAsking t u en i).run P w = .ok r' w ∧ Found g r r'
  | [], en, i, r, h, hf => by
    have : en = [] := by have := h.1; simpa using this
    subst this
    simp [findIdx] at hf; subst hf
    exact ⟨none, by simp [Instr.findAsking], trivial⟩
  | (k, v) :: es, en, i, r, h, hf => by
    cases en with
    | nil => have := h.1; simp at this
    | cons y en =>
      obtain ⟨h1, h2, h3⟩ := h.tail
      simp only [findIdx] at hf
      split at hf <;> try (simp at hf; done)
      rename_i hfk
      have he := fun b (hb : eqA ti.eqk x k = some b) => eqA_run (w := w) ht hk 9998 hb fx hfk hx h1
      split at hf
      · rename_i hb
        simp at hf; subst hf
        exact ⟨some (i, y.val), by simp [Instr.findAsking, Op.equal, Op.maxDepth, he _ hb], rfl, h2⟩
      · rename_i hb
        obtain ⟨r', h4, h5⟩ := findAsking_run ht hk fx hx es en (i + 1) r h3 hf
        exact ⟨r', by simp [Instr.findAsking, Op.equal, Op.maxDepth, he _ hb, h4], h5⟩
      · simp at hf
theorem findNow_run {t : Nat} {ti : TI} (ht : TyOK P t ti) (hk : ti.eqk ≠ []) (hna : ti.k.isAgg = false) {x : AV} {u : Value} (fx : x.fits ti = true) (hx : VR g x u) {d : TypeDesc} (hd : P.underlying t = some d) :
    ∀ (es : List (AV × AV)) (en : List MapEntry) (i : Nat) (r : Option (Nat × AV)), Ents g es en → findIdx ti x i es = some r →
    ∃ r', Instr.findNow d u en i = some r' ∧ Found g r r'
  | [], en, i, r, h, hf => by
    have : en = [] := by have := h.1; simpa using this
    subst this
    simp [findIdx] at hf; subst hf
    exact ⟨none, by simp [Instr.findNow], trivial⟩
  | (k, v) :: es, en, i, r, h, hf => by
    cases en with
    | nil => have := h.1; simp at this
    | cons y en =>
      obtain ⟨h1, h2, h3⟩ := h.tail
      simp only [findIdx] at hf
      split at hf <;> try (simp at hf; done)
      rename_i hfk
      have he : ∀ b, eqA ti.eqk x k = some b → Instr.sameNow d u y.key = some b := by
        intro b hb
        have hee := ht.eq hk
        unfold eqTy at hee
        rw [hd] at hee
        have hl : [leafTK P t] = ti.eqk.map some := by
          have hdk := ht.und
          rw [hd] at hdk
          simp at hdk
          cases d <;> first | exact hee | (rw [← hdk] at hna; simp [TK.of, TK.isAgg] at hna)
        cases hq : ti.eqk with
        | nil => exact absurd hq hk
        | cons q l =>
          rw [hq] at hl
          simp at hl
          obtain ⟨hl1, rfl⟩ := hl
          unfold eqA at hb
          rw [hq, (fits_shp fx).2 hna, (fits_shp hfk).2 hna] at hb
          simp only [eqLeaves] at hb
          split at hb <;> simp at hb
          rename_i p r' hp hr
          cases hr
          simp at hb; subst hb
          have := (eqLeaf_run (w := (default : World)) 0 hl1 hp hx h1).2
          rwa [hd] at this
      split at hf
      · rename_i hb
        simp at hf; subst hf
        exact ⟨some (i, y.val), by simp [Instr.findNow, he _ hb], rfl, h2⟩
      · rename_i hb
        obtain ⟨r', h4, h5⟩ := findNow_run ht hk hna fx hx hd es en (i + 1) r h3 hf
        exact ⟨r', by simp [Instr.findNow, he _ hb, h4], h5⟩
      · simp at hf
theorem findKey_run {t : Nat} {ti : TI} (ht : TyOK P t ti) {x : AV} {u : Value} (hkx : keyOk ti x = true) (hx : VR g x u) {es : List (AV × AV)} {en : List MapEntry} {r : Option (Nat × AV)} (h : Ents g es en) (hf : findIdx ti x 0 es = some r) :
    (∀ em w, (Instr.checkKey em 10000 t u).run P w = .ok () w) ∧ ∃ r', (Instr.findKey t u en).run P w = .ok r' w ∧ Found g r r' := by
  unfold keyOk at hkx
  simp only [Bool.and_eq_true, Bool.not_eq_true', List.isEmpty_eq_false_iff] at hkx
  obtain ⟨hk, fx⟩ := hkx
  refine ⟨fun em w => checkKey_run (w := w) ht hk fx hx em 9998, ?_⟩
  obtain ⟨d, hu, hdd, hd⟩ := run_und (w := w) ht
  unfold Instr.findKey
  simp only [Sem.run_bind, hu, Result.andThen_ok]
  cases hna : ti.k.isAgg with
  | false =>
    obtain ⟨r', h1, h2⟩ := findNow_run ht hk hna fx hx hd es en 0 r h hf
    exact ⟨r', by simp [h1], h2⟩
  | true =>
    cases en with
    | nil =>
      cases es with
      | nil => simp [findIdx] at hf; subst hf; exact ⟨none, by simp [Instr.findNow], trivial⟩
      | cons _ _ => have := h.1; simp at this
    | cons y en =>
      have hn : Instr.findNow d u (y :: en) 0 = none := by
        have : ∀ q, Instr.sameNow d u q = none := by
          intro q
          rw [← hdd] at hna
          cases d <;> simp [TK.of, TK.isAgg] at hna <;> simp [Instr.sameNow]
        simp [Instr.findNow, this]
      obtain ⟨r', h1, h2⟩ := findAsking_run (w := w) ht hk fx hx es (y :: en) 0 r h hf
      exact ⟨r', by simp [hn, h1], h2⟩
theorem mapOf_run (ht : Tys P C) {t : Nat} {tk te : TI} (h : mapOf C t = some (tk, te)) : ∃ kt et, (∀ w, (underlying t).run P w = .ok (.map kt et) w) ∧ TyOK P kt tk ∧ TyOK P et te := by
  unfold mapOf at h
  split at h <;> try (simp at h; done)
  rename_i ti hti
  split at h <;> try (simp at h; done)
  rename_i kt et hk
  split at h <;> simp at h
  rename_i h1 h2
  obtain ⟨rfl, rfl⟩ := h
  obtain ⟨d, hd1, hd2⟩ := (ht t ti hti).desc
  rw [hk] at hd2
  cases d <;> simp [TK.of] at hd2
  obtain ⟨rfl, rfl⟩ := hd2
  exact ⟨_, _, fun w => run_underlying hd1 w, ht _ _ h1, ht _ _ h2⟩
theorem map_OR (hr : HR g σ w) {r : Nat} {es : List (AV × AV)} (hs : σ[r]? = some (.map es)) {u : Value} (hu : VR g (.map r) u) :
    ∃ b en, u = .map (some b) ∧ g.loc r 0 = some (b, 0, 0) ∧ w.heap[b]? = some (.map en en.size) ∧ Ents g es en.toList ∧ ∀ (i : Nat) e, en[i]? = some e → e.born = i := by
  obtain ⟨b, sz, N, h1, rfl⟩ := VR_map.1 hu
  obtain ⟨b', en, h2, h3, h4, h5⟩ := hr.ob r _ hs
  rw [h1] at h2; cases h2
  refine ⟨b, en, rfl, h1, h3, ⟨by simp [h4], fun i k v hi => ?_⟩, fun i e hi => ?_⟩
  · obtain ⟨e, h6, h7, h8, h9⟩ := h5 i k v hi
    exact ⟨e, by simpa using h6, h8, h9⟩
  · have hlt : i < en.size := (Array.getElem?_eq_some_iff.1 hi).1
    have hlt' : i < es.length := by omega
    obtain ⟨e', h6, h7, _⟩ := h5 i es[i].1 es[i].2 (List.getElem?_eq_getElem hlt')
    rw [hi] at h6; cases h6; exact h7
theorem getObj_map {b : Nat} {en : Array MapEntry} {ck : Nat} (h : w.heap[b]? = some (.map en ck)) : (getObj b).run P w = .ok (.map en ck) w := by
  show (Sem.getObj b .pure).run P w = _
  simp only [Sem.run, h]
def elV (d : AV) : Option (Nat × AV) → AV
  | some (_, v) => v
  | none => d
def elU (d : Value) : Option (Nat × Value) → Value
  | some (_, v) => v
  | none => d
theorem kLookup_sound (ht : Tys P C) (hr : HR g σ w) (hf : FR B g σ fr a w) {t : Nat} {x y : Operand} {ok : Bool} (ho : o.op = .lookup t x y ok) (h : kLookup C fr t x y ok σ = some (e, σ')) : Quiet P B g σ fr a w o e σ' := by
  obtain ⟨m, hm, h⟩ := app_eq h
  unfold kLookup at hm
  split at hm <;> subst hm <;> try (simp [failM] at h; done)
  rename_i p q hp hq
  obtain ⟨z, hz, h1, h2⟩ := retM_eq h
  have hvp := av_v hf hp
  have hvq := av_v hf hq
  unfold lookupA at hz
  split at hz <;> try (simp at hz; done)
  rename_i tk te hmo
  split at hz <;> try (simp at hz; done)
  rename_i hkey
  obtain ⟨kt, et, hu, htk, hte⟩ := mapOf_run ht hmo
  obtain ⟨z0, hz0, hzc⟩ := run_zero (w := w) hte
  have back : ∀ (r : Option (Nat × AV)) (r' : Option (Nat × Value)), Found g r r' → VR g (backA te ok r) (if ok then .tuple #[elU z0 r', .bool r'.isSome] else elU z0 r') := by
    intro r r' hF
    have base : VR g (elV te.zero r) (elU z0 r') := by
      cases r with
      | none => cases r' with
        | none => exact constA_VR hzc
        | some _ => exact hF.elim
      | some p => cases r' with
        | none => exact hF.elim
        | some p' => exact hF.2
    have e1 : r.isSome = r'.isSome := by cases r <;> cases r' <;> first | rfl | exact hF.elim
    cases ok with
    | false =>
      have : backA te false r = elV te.zero r := by cases r <;> rfl
      rw [this]
      exact base
    | true =>
      have : backA te true r = .tup [elV te.zero r, .bool r.isSome] := by cases r <;> rfl
      rw [this]
      simp only [if_true]
      refine VR_tup.2 ⟨_, rfl, by simp, fun j c hj => ?_⟩
      match j with
      | 0 => simp at hj; subst hj; exact ⟨_, rfl, base⟩
      | 1 => simp at hj; subst hj; exact ⟨.bool r'.isSome, rfl, VR_bool.2 (congrArg Value.bool e1.symm)⟩
      | j + 2 => simp at hj
  split at hz
  · -- the nil map
    simp at hz
    obtain ⟨rfl, rfl⟩ := hz
    rw [VR_nilm] at hvp
    have hE : Ents g [] [] := ⟨rfl, fun i k v hi => by simp at hi⟩
    obtain ⟨hck, r', hfk, hF⟩ := findKey_run (w := w) htk hkey hvq hE (r := none) rfl
    have hr' : r' = none := by cases r' with | none => rfl | some _ => exact hF.elim
    subst hr'
    refine quiet_v ⟨h1, rfl, h2⟩ (v := _) ?_ (back none none trivial)
    simp [execOp, ho, hvp, Instr.lookup, hu, hck, hfk, hz0]
    cases ok <;> rfl
  · rename_i r
    split at hz <;> try (simp at hz; done)
    rename_i es hes
    split at hz <;> simp at hz
    rename_i rr hrr
    obtain ⟨rfl, rfl⟩ := hz
    obtain ⟨b, en, h3, h4, h5, h6, h7⟩ := map_OR hr hes hvp
    obtain ⟨hck, r', hfk, hF⟩ := findKey_run (w := w) htk hkey hvq h6 hrr
    refine quiet_v ⟨h1, rfl, h2⟩ (v := _) ?_ (back rr r' hF)
    cases r' with
    | none =>
      simp [execOp, ho, h3, Instr.lookup, hu, getObj_map h5, hck, hfk, hz0]
      cases ok <;> rfl
    | some p =>
      simp [execOp, ho, h3, Instr.lookup, hu, getObj_map h5, hck, hfk]
      cases ok <;> rfl
  · simp at hz
end Go.Am
/-! ## part New -/
/- The abstract machine and the model: new variables, new rows. -/
namespace Go.Am
open Go
def Made (P : Program) (B : Nat) (g : G) (σ : H) (fr : Fr) (a : Act) (w : World) (o : Oper) (e : Eff) (σ' : H) : Prop :=
  e.wr = none ∧ ∃ v w' g', (execOp a.eval o).run P w = .ok (.value v) w' ∧ HR g' σ' w' ∧ Step w.heap.size g σ w g' σ' w' ∧ VSR B g' σ' fr a w' w.heap.size v e.r
variable {P : Program} {C : Ctx} {B : Nat} {g : G} {σ σ' : H} {w w' : World} {fr : Fr} {a : Act} {o : Oper} {e : Eff}
theorem Quiet.made (hr : HR g σ w) (h : Quiet P B g σ fr a w o e σ') : Made P B g σ fr a w o e σ' := by
  obtain ⟨h1, rfl, v, h2, h3⟩ := h
  exact ⟨h1, v, w, g, h2, hr, .refl _ _ _ _, h3⟩
def G.addLoc (g : G) (r v' : Nat) (p : Nat × Nat × Nat) : G := { g with loc := fun r' v'' => if r' = r ∧ v'' = v' then some p else g.loc r' v'' }
theorem G.addLoc_le {r v' : Nat} {p : Nat × Nat × Nat} (h : g.loc r v' = none) : g.le (g.addLoc r v' p) :=
  ⟨fun _ _ _ h => h, fun r' v'' q hq => by
    simp only [G.addLoc]
    split
    · rename_i hc
      obtain ⟨rfl, rfl⟩ := hc
      rw [h] at hq; cases hq
    · exact hq⟩
theorem G.addLoc_self {r v' : Nat} {p : Nat × Nat × Nat} : (g.addLoc r v' p).loc r v' = some p := by simp [G.addLoc]
theorem HR.loc_new (hr : HR g σ w) (v' : Nat) : g.loc σ.length v' = none := by
  cases h : g.loc σ.length v' with
  | none => rfl
  | some p => have := hr.dom _ _ _ h; omega
theorem HR.newObj (hr : HR g σ w) {b N : Nat} {cs : Array Value} {el : Nat} {sz : Nat} {xs : List AV} (hw : Grow w w') (hb : w.heap.size ≤ b) (hcs : w'.heap[b]? = some (.cells cs el (0, 0))) (hN : cs.size = N) (hl : xs.length * sz ≤ N)
    (hm : ∀ (i : Nat) x, xs[i]? = some x → x.cells.length = sz ∧ MemR g (fun q => cs[q]?) (i * sz) x) :
    ∃ g', HR g' (σ ++ [.arr false sz xs]) w' ∧ Step w.heap.size g σ w g' (σ ++ [.arr false sz xs]) w' ∧ g'.loc σ.length xs.length = some (b, sz, N) := by
  have hle := G.addLoc_le (p := (b, sz, N)) (hr.loc_new xs.length)
  have hself := G.addLoc_self (g := g) (r := σ.length) (v' := xs.length) (p := (b, sz, N))
  have hor : OR (g.addLoc σ.length xs.length (b, sz, N)) w' σ.length (.arr false sz xs) :=
    ⟨b, N, cs, el, (0, 0), hself, hcs, hN, hl, fun i x hi => ⟨(hm i x hi).1, (hm i x hi).2.mono hle⟩, fun _ => rfl, fun h => by cases h⟩
  obtain ⟨h1, h2⟩ := hr.upd (σ' := σ ++ [.arr false sz xs]) (r := σ.length) (b := b) (w' := w') hle rfl
    (fun q hq => by
      rw [List.getElem?_append]
      split
      · rfl
      · rw [List.getElem?_eq_none (l := σ) (by omega), List.getElem?_eq_none (l := [_]) (by simp; omega)])
    (by simp) hor rfl (by simp [blk, HObj.ver, hself]) (.inr hb)
    (fun b' _ hb' => hw.heap b' hb') hw.size
    (by simp) (by simp) (fun q v' p hp => by
      simp only [G.addLoc] at hp
      split at hp
      · rename_i hc; exact .inr hc
      · exact .inl hp) (fun o0 h0 => by rw [List.getElem?_eq_none (Nat.le_refl _)] at h0; cases h0) hw.os hw.tape hw.output
  exact ⟨_, h1, h2, hself⟩
theorem cells_MemR {ti : TI} {x : AV} {v : Value} (h : VR g x v) (hf : x.fits ti = true) : MemR g (fun q => v.cells[q]?) 0 x := fun j c hj => by
  obtain ⟨u, h1, h2, h3⟩ := (h.cells hf).2 j c hj
  exact ⟨u, by simpa using h1, h2, h3⟩
theorem Priv.new {B : Nat} (hr : HR g σ w) (hB : B ≤ w.heap.size) {b : Nat} {x : AV} {cs : Array Value} {el : Nat} (hb : w.heap.size ≤ b) (hw : w'.heap[b]? = some (.cells cs el (0, 0))) (hs : cs.size = x.cells.length) (hm : MemR g (fun q => cs[q]?) 0 x) :
    Priv B g σ w' b x := by
  refine ⟨by omega, fun ho => ?_, fun q => ?_, cs, el, hw, hs, hm⟩
  · have := Owned.lt hr ho; omega
  · cases hq : g.im b q with
    | none => rfl
    | some u => have := cell_lt (hr.im _ _ _ hq); omega
theorem run_newRow (el : Nat) (cs : Array Value) : (newRow el cs).run P w = .ok ⟨w.heap.size, 0, none⟩ (w.alloc (.cells cs el)) := by
  simp only [newRow, Sem.run_bind, run_newObj, Result.andThen_ok, Sem.run_pure]
  rfl
theorem newVar_made (hr : HR g σ w) (hB : B ≤ w.heap.size) {ti : TI} {hp ip : List Nat} {d t : Nat} {x : AV} {v : Value} (hx : VR g x v)
    (hrun : (execOp a.eval o).run P w = .ok (.value (.pointer (some ⟨w.heap.size, 0, none⟩))) (w.alloc (.cells v.cells t))) (h : newVarE hp ip ti d x σ = some (e, σ')) : Made P B g σ fr a w o e σ' := by
  obtain ⟨m, hm, h⟩ := app_eq h
  unfold newVarE at hm
  split at hm
  case isFalse => subst hm; simp [failM] at h
  rename_i hfx
  have hn := heap_new w (.cells v.cells t)
  have hg := Grow.alloc w (.cells v.cells t)
  have hc := hx.cells hfx
  have hmm := cells_MemR hx hfx
  split at hm
  · subst hm
    simp only [bindM, newM, retE, pureM, Option.some.injEq, Prod.mk.injEq] at h
    obtain ⟨rfl, rfl⟩ := h
    obtain ⟨g', h1, h2, h3⟩ := hr.newObj (sz := ti.size) (xs := [x]) hg (Nat.le_refl _) hn rfl (by simp [hc.1, fits_len hfx]) (fun i y hi => by
      cases i with
      | zero => simp at hi; subst hi; exact ⟨fits_len hfx, by simpa using hmm⟩
      | succ i => simp at hi)
    exact ⟨rfl, _, _, g', hrun, h1, h2, VR_ptr.2 ⟨_, _, _, h3, by simp⟩⟩
  · split at hm
    · subst hm
      obtain ⟨h1, h2, h3⟩ := retE_eq h
      subst h2
      obtain ⟨k1, k2, k3⟩ := hr.newIm hg (Nat.le_refl _) hn
      refine ⟨h1, _, _, _, hrun, k1, k2, ?_⟩
      rw [h3]
      refine VR_adr.2 ⟨_, 0, rfl, fun j c hj => ?_⟩
      obtain ⟨u, h4, h5, h6⟩ := hmm j c hj
      exact ⟨u, by rw [k3]; exact h4, h5, h6.mono k2.le⟩
    · subst hm
      simp only [pureM, Option.some.injEq, Prod.mk.injEq] at h
      obtain ⟨rfl, rfl⟩ := h
      obtain ⟨k1, k2⟩ := hr.ext hg
      exact ⟨rfl, _, _, g, hrun, k1, k2, _, rfl, Priv.new hr hB (Nat.le_refl _) hn hc.1 hmm, Nat.le_refl _⟩
theorem kAlloc_made (ht : Tys P C) (hr : HR g σ w) (hB : B ≤ w.heap.size) {hp ip : List Nat} {t : Nat} (ho : o.op = .alloc t) (h : kAlloc C hp ip t o.dst σ = some (e, σ')) : Made P B g σ fr a w o e σ' := by
  obtain ⟨m, hm, h⟩ := app_eq h
  unfold kAlloc at hm
  split at hm <;> subst hm <;> try (simp [failM] at h; done)
  rename_i ti d hti hd
  obtain ⟨z, hz, hzc⟩ := run_zero (w := w) (ht t ti hti)
  refine newVar_made hr hB (t := t) (constA_VR hzc) ?_ h
  simp [execOp, ho, Instr.alloc, hz, newVar, run_newRow]
theorem kBox_made (ht : Tys P C) (hr : HR g σ w) (hf : FR B g σ fr a w) (hB : B ≤ w.heap.size) {hp ip : List Nat} {t : Nat} {x : Operand} (ho : o.op = .box t x) (h : kBox C fr hp ip t x o.dst σ = some (e, σ')) : Made P B g σ fr a w o e σ' := by
  obtain ⟨m, hm, h⟩ := app_eq h
  unfold kBox at hm
  split at hm <;> subst hm <;> try (simp [failM] at h; done)
  rename_i ti d y hti hd hy
  refine newVar_made hr hB (t := t) (av_v hf hy) ?_ h
  simp [execOp, ho, Instr.box, newVar, run_newRow]
def RowR (g : G) (sz : Nat) (xs : List AV) (cs : Array Value) : Prop :=
  xs.length * sz ≤ cs.size ∧ ∀ (i : Nat) x, xs[i]? = some x → x.cells.length = sz ∧ MemR g (fun q => cs[q]?) (i * sz) x
theorem newRow_made (hr : HR g σ w) {te : TI} {hp : List Nat} {d : Nat} {xs : List AV} {cs : Array Value} {el : Nat} {f : Nat × Nat} {cap : Nat} (hrow : RowR g te.size xs cs) (hcap : xs.length ≤ cap) (hcs : cap * te.size ≤ cs.size)
    (hg : Grow w w') {b : Nat} (hb : w.heap.size ≤ b) (hn : w'.heap[b]? = some (.cells cs el f)) (hfz : memN d hp = true → f = (0, 0))
    (hrun : (execOp a.eval o).run P w = .ok (.value (.slice (some ⟨b, 0, none⟩) xs.length cap)) w') (h : newRowE hp te d xs σ = some (e, σ')) : Made P B g σ fr a w o e σ' := by
  obtain ⟨m, hm, h⟩ := app_eq h
  unfold newRowE at hm
  split at hm
  case isFalse => subst hm; simp [failM] at h
  split at hm
  · rename_i hmem
    have hf0 := hfz hmem
    subst hf0
    subst hm
    simp only [bindM, newM, retE, pureM, Option.some.injEq, Prod.mk.injEq] at h
    obtain ⟨rfl, rfl⟩ := h
    obtain ⟨g', h1, h2, h3⟩ := hr.newObj (sz := te.size) (xs := xs) hg hb hn rfl hrow.1 hrow.2
    exact ⟨rfl, _, _, g', hrun, h1, h2, VR_hs.2 ⟨_, _, _, cap, h3, rfl, hcap, .inl ⟨by simp, by omega, by simpa using hcs⟩⟩⟩
  · subst hm
    obtain ⟨h1, h2, h3⟩ := retE_eq h
    subst h2
    obtain ⟨k1, k2, k3⟩ := hr.newIm hg hb hn
    refine ⟨h1, _, _, _, hrun, k1, k2, ?_⟩
    rw [h3]
    refine VR_sl.2 ⟨_, cap, rfl, hcap, .inr ⟨b, 0, rfl, fun i x hi => ⟨(hrow.2 i x hi).1, fun j c hj => ?_⟩⟩⟩
    obtain ⟨u, h4, h5, h6⟩ := (hrow.2 i x hi).2 j c hj
    exact ⟨u, by rw [k3, Nat.zero_add]; exact h4, h5, h6.mono k2.le⟩
end Go.Am
/-! ## part Build -/
/- The abstract machine and the model: structs, arrays and rows out of parts; other new memory. -/
namespace Go.Am
open Go
variable {P : Program} {C : Ctx} {B : Nat} {g : G} {σ σ' : H} {w w' : World} {fr : Fr} {a : Act} {o : Oper} {e : Eff}
theorem fill_list (off : Nat) : ∀ (l : List Value) (k : Nat) (cells : Array Value), off + k + l.length ≤ cells.size →
    let r := (l.zipIdx k).foldl (fun cs (p : Value × Nat) => cs.setIfInBounds (off + p.2) p.1) cells
    r.size = cells.size ∧ ∀ q : Nat, r[q]? = if off + k ≤ q ∧ q < off + k + l.length then l[q - (off + k)]? else cells[q]?
  | [], k, cells, h => by
    refine ⟨rfl, fun q => ?_⟩
    rw [if_neg (by simp only [List.length_nil]; omega)]; rfl
  | v :: l, k, cells, h => by
    have ih := fill_list off l (k + 1) (cells.setIfInBounds (off + k) v) (by simp at h ⊢; omega)
    simp only [List.zipIdx_cons, List.foldl_cons] at ih ⊢
    refine ⟨by rw [ih.1]; simp, fun q => ?_⟩
    rw [ih.2 q]
    simp only [List.length_cons] at h ⊢
    by_cases h1 : off + (k + 1) ≤ q ∧ q < off + (k + 1) + l.length
    · rw [if_pos h1, if_pos (by omega), show q - (off + k) = (q - (off + (k + 1))) + 1 by omega]; simp
    · rw [if_neg h1]
      by_cases h2 : q = off + k
      · subst h2
        rw [if_pos (by omega), Array.getElem?_setIfInBounds_self_of_lt (by omega)]; simp
      · rw [if_neg (by omega), Array.getElem?_setIfInBounds_ne (by omega)]
theorem fill_one (vs cells : Array Value) (off : Nat) (h : off + vs.size ≤ cells.size) :
    (vs.zipIdx.foldl (fun cs (c, j) => cs.setIfInBounds (off + j) c) cells).size = cells.size ∧ ∀ q : Nat, (vs.zipIdx.foldl (fun cs (c, j) => cs.setIfInBounds (off + j) c) cells)[q]? = if off ≤ q ∧ q < off + vs.size then vs[q - off]? else cells[q]? := by
  have h1 := fill_list off vs.toList 0 cells (by simpa using h)
  have e : vs.zipIdx.foldl (fun cs (c, j) => cs.setIfInBounds (off + j) c) cells = (vs.toList.zipIdx 0).foldl (fun cs (p : Value × Nat) => cs.setIfInBounds (off + p.2) p.1) cells := by
    rw [← Array.foldl_toList, Array.toList_zipIdx]
  rw [e]
  simpa using h1
theorem setCells_get : ∀ (cs l : List AV) (o : Nat), o + cs.length ≤ l.length → (setCells l o cs).length = l.length ∧ ∀ q : Nat, (setCells l o cs)[q]? = if o ≤ q ∧ q < o + cs.length then cs[q - o]? else l[q]?
  | [], l, o, h => by
    refine ⟨rfl, fun q => ?_⟩
    rw [if_neg (by simp only [List.length_nil]; omega)]; rfl
  | c :: cs, l, o, h => by
    have ih := setCells_get cs (l.set o c) (o + 1) (by simp at h ⊢; omega)
    simp only [setCells]
    refine ⟨by rw [ih.1]; simp, fun q => ?_⟩
    rw [ih.2 q]
    simp only [List.length_cons] at h ⊢
    by_cases h1 : o + 1 ≤ q ∧ q < o + 1 + cs.length
    · rw [if_pos h1, if_pos (by omega), show q - o = (q - (o + 1)) + 1 by omega]; simp
    · rw [if_neg h1]
      by_cases h2 : q = o
      · subst h2
        rw [if_pos (by omega), List.getElem?_set_self (by omega)]; simp
      · rw [if_neg (by omega), List.getElem?_set_ne (by omega)]
def CellsR (g : G) (cs : List AV) (arr : Array Value) : Prop :=
  arr.size = cs.length ∧ ∀ (j : Nat) c, cs[j]? = some c → ∃ u, arr[j]? = some u ∧ u.oneCell' = true ∧ VR g c u
theorem CellsR.set {cs ds : List AV} {arr vs : Array Value} {off : Nat} (h : CellsR g cs arr) (k : CellsR g ds vs) (hl : off + ds.length ≤ cs.length) :
    CellsR g (setCells cs off ds) (vs.zipIdx.foldl (fun cs (c, j) => cs.setIfInBounds (off + j) c) arr) := by
  have h1 := fill_one vs arr off (by rw [k.1, h.1]; exact hl)
  have h2 := setCells_get ds cs off hl
  refine ⟨by rw [h1.1, h2.1, h.1], fun j c hj => ?_⟩
  rw [h2.2] at hj
  rw [h1.2, k.1]
  split at hj
  · rename_i hc; rw [if_pos hc]; exact k.2 _ _ hj
  · rename_i hc; rw [if_neg hc]; exact h.2 _ _ hj
theorem fits_CellsR {ti : TI} {x : AV} {v : Value} (hx : VR g x v) (hf : x.fits ti = true) : CellsR g x.cells v.cells := hx.cells hf
theorem avs_pairs (hf : FR B g σ fr a w) : ∀ (ps : List (Nat × Operand)) (l : List AV), avs fr (ps.map (·.2)) = some l → l.length = ps.length ∧ ∀ (j : Nat) x, l[j]? = some x → ∃ p, ps[j]? = some p ∧ VR g x (a.eval p.2) := by
  intro ps l h
  obtain ⟨h1, h2⟩ := avs_v hf _ _ h
  refine ⟨by simpa using h1, fun j x hj => ?_⟩
  obtain ⟨y, h3, h4⟩ := h2 j x hj
  rw [List.getElem?_map] at h3
  cases hp : ps[j]? with
  | none => rw [hp] at h3; cases h3
  | some p => rw [hp] at h3; simp at h3; subst h3; exact ⟨p, rfl, h4⟩
theorem fill_sound (place : Nat → Option (Nat × Nat)) (pl : Nat → Option (Nat × TI)) (hpl : ∀ i o ti, pl i = some (o, ti) → place i = some (o, ti.size))
    (run : List Nat → List AV → List AV → Option (List AV)) (h0 : ∀ cs, run [] [] cs = some cs) (hn : ∀ is as cs r, run is as cs = some r → is.length = as.length)
    (hs : ∀ i is x as cs r, run (i :: is) (x :: as) cs = some r → ∃ o ti, pl i = some (o, ti) ∧ x.fits ti = true ∧ o + ti.size ≤ cs.length ∧ run is as (setCells cs o x.cells) = some r) :
    ∀ (ps : List (Nat × Value)) (as cs r : List AV) (arr : Array Value), run (ps.map (·.1)) as cs = some r → (∀ (j : Nat) x, as[j]? = some x → ∃ p, ps[j]? = some p ∧ VR g x p.2) → CellsR g cs arr →
    ∃ arr', Instr.fill place arr ps = some arr' ∧ CellsR g r arr'
  | [], as, cs, r, arr, h, _, hc => by
    have : as = [] := by have := hn _ _ _ _ h; simpa using this.symm
    subst this
    rw [List.map_nil, h0] at h
    cases h
    exact ⟨arr, rfl, hc⟩
  | (i, v) :: ps, as, cs, r, arr, h, hv, hc => by
    cases as with
    | nil => have := hn _ _ _ _ h; simp at this
    | cons x as =>
      obtain ⟨o, ti, h1, h2, h3, h4⟩ := hs _ _ _ _ _ _ h
      obtain ⟨p, hp, hx⟩ := hv 0 x rfl
      simp at hp; subst hp
      have hcx := fits_CellsR hx h2
      have hl := fits_len h2
      obtain ⟨arr', h5, h6⟩ := fill_sound place pl hpl run h0 hn hs ps as _ r _ h4 (fun j x hj => hv (j + 1) x (by simpa using hj)) (hc.set hcx (by rw [hl]; exact h3))
      refine ⟨arr', ?_, h6⟩
      simp only [Instr.fill, hpl _ _ _ h1]
      rw [if_neg]
      · exact h5
      · rw [hcx.1, hl, hc.1]
        simp; omega
theorem buildA_len (C : Ctx) (t : Nat) : ∀ is as cs r, buildA C t is as cs = some r → is.length = as.length
  | [], [], _, _, _ => rfl
  | [], _ :: _, _, _, h => by simp [buildA] at h
  | _ :: _, [], _, _, h => by simp [buildA] at h
  | i :: is, x :: as, cs, r, h => by
    simp only [buildA] at h
    split at h <;> try (simp at h; done)
    split at h <;> try (simp at h; done)
    simp [buildA_len C t is as _ r h]
theorem kBuild_sound (ht : Tys P C) (hf : FR B g σ fr a w) {t : Nat} {ps : Array (Nat × Operand)} (ho : o.op = .build t ps) (h : kBuild C fr t ps.toList σ = some (e, σ')) : Quiet P B g σ fr a w o e σ' := by
  obtain ⟨m, hm, h⟩ := app_eq h
  unfold kBuild at hm
  split at hm
  case h_2 => subst hm; simp [failM] at h
  rename_i l ti hl hti
  split at hm
  case isFalse => subst hm; simp [failM] at h
  rename_i hagg
  split at hm <;> subst hm <;> try (simp [failM] at h; done)
  rename_i cs hcs
  have hty := ht t ti hti
  obtain ⟨hlen, hvs⟩ := avs_pairs hf _ _ hl
  obtain ⟨d, hu, hk, hu'⟩ := run_und (w := w) hty
  obtain ⟨z, hz, hzc⟩ := run_zero (w := w) hty
  have hz0 := fits_CellsR (constA_VR (g := g) hzc) hty.zfit
  have hinfo : ∃ i, P.info? t = some i ∧ i.zero = some z := by
    cases hi : P.info? t with
    | none => simp [zeroValue, typeInfo, hi] at hz
    | some i =>
      refine ⟨i, rfl, ?_⟩
      simp [zeroValue, typeInfo, hi] at hz
      cases hzz : i.zero with
      | none => simp [hzz] at hz
      | some z' => simp [hzz] at hz; rw [hz]
  obtain ⟨it, hit, hiz⟩ := hinfo
  have key : ∀ place : Nat → Option (Nat × Nat), (∀ i o ti, partPlace C t i = some (o, ti) → place i = some (o, ti.size)) →
      ∃ arr', Instr.fill place z.cells ((ps.map fun (i, x) => (i, a.eval x)).toList) = some arr' ∧ CellsR g cs arr' := by
    intro place hpl
    refine fill_sound place (partPlace C t) hpl (buildA C t) (fun cs => rfl) (buildA_len C t) (fun i is x as cs r hr => ?_) _ l ti.zero.cells cs z.cells ?_ (fun j x hj => ?_) hz0
    · simp only [buildA] at hr
      split at hr <;> try (simp at hr; done)
      rename_i o' ti' hp
      split at hr <;> try (simp at hr; done)
      rename_i hc
      exact ⟨o', ti', hp, hc.2, hc.1, hr⟩
    · have : ((ps.map fun (i, x) => (i, a.eval x)).toList.map (·.1)) = ps.toList.map (·.1) := by simp
      rw [this]; exact hcs
    · obtain ⟨p, hp, hx⟩ := hvs j x hj
      exact ⟨(p.1, a.eval p.2), by simp at hp ⊢; exact ⟨p.1, p.2, hp, rfl, rfl⟩, hx⟩
  have done : ∀ arr', P.built t (ps.map fun (i, x) => (i, a.eval x)).toList = some arr' → CellsR g cs arr' → Quiet P B g σ fr a w o e σ' := by
    intro arr' hb hc
    refine quiet_v (retE_eq h) (v := .agg arr') ?_ (VR_agg.2 ⟨arr', rfl, hc⟩)
    simp [execOp, ho, run_build w t _ arr' hb]
  rw [← hk] at hagg
  cases d <;> simp [TK.of, TK.isAgg] at hagg
  · -- an array
    rename_i n el
    have hpp : ∀ i o' ti', partPlace C t i = some (o', ti') → ∃ te, C.ti el = some te ∧ o' = i * te.size ∧ ti' = te := by
      intro i o' ti' hp
      unfold partPlace at hp
      rw [hti] at hp
      simp only [← hk, TK.of] at hp
      split at hp <;> try (simp at hp; done)
      rename_i te hte
      split at hp <;> simp at hp
      exact ⟨te, hte, hp.1.symm, hp.2.symm⟩
    have hfl := hty.fld
    simp only [fldOK, hu'] at hfl
    cases hie : P.info? el with
    | none => rw [hie] at hfl; cases hfl
    | some ie =>
      obtain ⟨arr', h1, h2⟩ := key (fun i => some (i * ie.size, ie.size)) (fun i o' ti' hp => by
        obtain ⟨te, hte, rfl, rfl⟩ := hpp i o' ti' hp
        have := (ht el ti' hte).size
        rw [hie] at this; simp at this
        rw [this])
      exact done arr' (by simp only [Program.built, hit, hu', hiz, hie]; exact h1) h2
  · rename_i fs
    have hfl := hty.fld
    simp only [fldOK, hu'] at hfl
    have hmm : ∀ l : List Field, (l.all fun f => (P.info? f.type).isSome) = true → ∃ places, l.mapM (fun f => (P.info? f.type).map fun i => (f.offset, i.size)) = some places ∧ ∀ (i : Nat) f, l[i]? = some f → ∃ ie, P.info? f.type = some ie ∧ places[i]? = some (f.offset, ie.size) := by
      intro l
      induction l with
      | nil => intro _; exact ⟨[], rfl, fun i f hi => by simp at hi⟩
      | cons f l ih =>
        intro hall
        simp only [List.all_cons, Bool.and_eq_true] at hall
        obtain ⟨places, h1, h2⟩ := ih hall.2
        obtain ⟨ie, hie⟩ := Option.isSome_iff_exists.1 hall.1
        refine ⟨(f.offset, ie.size) :: places, by simp [List.mapM_cons, hie, h1], fun i f' hi => ?_⟩
        cases i with
        | zero => simp at hi; subst hi; exact ⟨ie, hie, rfl⟩
        | succ i => simpa using h2 i f' (by simpa using hi)
    obtain ⟨places, hpl, hpl'⟩ := hmm fs.toList hfl
    obtain ⟨arr', h1, h2⟩ := key (places.toArray[·]?) (fun i o' ti' hp => by
      unfold partPlace at hp
      rw [hti] at hp
      simp only [← hk, TK.of] at hp
      split at hp <;> try (simp at hp; done)
      rename_i o2 t2 hf2
      split at hp <;> simp at hp
      rename_i tf htf
      obtain ⟨rfl, rfl⟩ := hp
      rw [List.getElem?_map] at hf2
      cases hff : fs.toList[i]? with
      | none => rw [hff] at hf2; cases hf2
      | some f =>
        rw [hff] at hf2; simp at hf2
        obtain ⟨rfl, rfl⟩ := hf2
        obtain ⟨ie, h3, h4⟩ := hpl' i f hff
        have := (ht _ tf htf).size
        rw [h3] at this; simp at this
        simp [h4, this])
    exact done arr' (by simp only [Program.built, hit, hu', hiz, hpl]; exact h1) h2
end Go.Am
/-! ## part Row -/
/- The abstract machine and the model: rows, conversions, new maps. -/
namespace Go.Am
open Go
variable {P : Program} {C : Ctx} {B : Nat} {g : G} {σ σ' : H} {w w' : World} {fr : Fr} {a : Act} {o : Oper} {e : Eff}
def flat : List AV → List AV
  | [] => []
  | x :: l => x.cells ++ flat l
theorem fitAll_get {te : TI} : ∀ {xs : List AV}, fitAll te xs = true → ∀ (i : Nat) x, xs[i]? = some x → x.fits te = true
  | [], _, i, x, h => by simp at h
  | y :: xs, hf, i, x, h => by
    simp only [fitAll, Bool.and_eq_true] at hf
    cases i with
    | zero => simp at h; subst h; exact hf.1
    | succ i => exact fitAll_get hf.2 i x (by simpa using h)
structure RowC (g : G) (te : TI) (xs : List AV) (cs : Array Value) : Prop where
  size : cs.size = xs.length * te.size
  el : ∀ (i : Nat) x, xs[i]? = some x → x.cells.length = te.size ∧ ∀ (j : Nat) c, x.cells[j]? = some c → ∃ u, cs[i * te.size + j]? = some u ∧ u.oneCell' = true ∧ VR g c u
theorem RowC.row {te : TI} {xs : List AV} {cs : Array Value} (h : RowC g te xs cs) : RowR g te.size xs cs :=
  ⟨by rw [h.size]; exact Nat.le_refl _, h.el⟩
theorem RowC.set {te : TI} {xs : List AV} {cs : Array Value} {i : Nat} {x : AV} {v : Value} (h : RowC g te xs cs) (hi : i < xs.length) (hx : VR g x v) (hf : x.fits te = true) :
    RowC g te (xs.set i x) (v.cells.zipIdx.foldl (fun cs (c, j) => cs.setIfInBounds (i * te.size + j) c) cs) := by
  have hc := hx.cells hf
  have hl := fits_len hf
  have hb : i * te.size + v.cells.size ≤ cs.size := by
    rw [h.size, hc.1, hl, ← Nat.succ_mul]
    exact Nat.mul_le_mul_right _ hi
  have h1 := fill_one v.cells cs (i * te.size) hb
  refine ⟨by rw [h1.1, h.size]; simp, fun k y hk => ?_⟩
  by_cases hki : k = i
  · subst hki
    rw [List.getElem?_set_self hi] at hk
    cases hk
    refine ⟨hl, fun j c hj => ?_⟩
    obtain ⟨u, h2, h3⟩ := hc.2 j c hj
    refine ⟨u, ?_, h3⟩
    have hjl : j < x.cells.length := by
      rcases Nat.lt_or_ge j x.cells.length with h | h
      · exact h
      · rw [List.getElem?_eq_none h] at hj; cases hj
    rw [h1.2, if_pos (by omega), show k * te.size + j - k * te.size = j by omega]
    exact h2
  · rw [List.getElem?_set_ne (Ne.symm hki)] at hk
    obtain ⟨h2, h3⟩ := h.el k y hk
    refine ⟨h2, fun j c hj => ?_⟩
    obtain ⟨u, h4, h5⟩ := h3 j c hj
    refine ⟨u, ?_, h5⟩
    have hjl : j < te.size := by
      rw [← h2]
      rcases Nat.lt_or_ge j y.cells.length with h | h
      · exact h
      · rw [List.getElem?_eq_none h] at hj; cases hj
    rw [h1.2, if_neg]
    · exact h4
    · rw [hc.1, hl]
      intro hh
      rcases Nat.lt_or_gt_of_ne hki with hlt | hlt
      · have : (k + 1) * te.size ≤ i * te.size := Nat.mul_le_mul_right _ hlt
        rw [Nat.succ_mul] at this; omega
      · have : (i + 1) * te.size ≤ k * te.size := Nat.mul_le_mul_right _ hlt
        rw [Nat.succ_mul] at this; omega
theorem RowC.zeros {te : TI} {z : Value} (hz : VR g te.zero z) (hf : te.zero.fits te = true) (hp : 1 ≤ te.size) (n : Nat) : RowC g te (List.replicate n te.zero) ((Array.range (n * te.size)).map (z.cells[· % z.cells.size]!)) := by
  have hc := hz.cells hf
  have hl := fits_len hf
  have hs : z.cells.size = te.size := by rw [hc.1, hl]
  refine ⟨by simp, fun i x hi => ?_⟩
  rw [List.getElem?_replicate] at hi
  split at hi <;> simp at hi
  rename_i hin
  subst hi
  refine ⟨hl, fun j c hj => ?_⟩
  have hjl : j < te.size := by
    rw [← hl]
    rcases Nat.lt_or_ge j te.zero.cells.length with h | h
    · exact h
    · rw [List.getElem?_eq_none h] at hj; cases hj
  obtain ⟨u, h1, h2⟩ := hc.2 j c hj
  refine ⟨u, ?_, h2⟩
  have hlt : i * te.size + j < n * te.size := by
    have : (i + 1) * te.size ≤ n * te.size := Nat.mul_le_mul_right _ hin
    rw [Nat.succ_mul] at this; omega
  have hjs : j < z.cells.size := by omega
  have hmod : (i * te.size + j) % z.cells.size = j := by
    rw [hs, Nat.add_comm, Nat.add_mul_mod_self_right]; exact Nat.mod_eq_of_lt hjl
  rw [Array.getElem?_map, Array.getElem?_range, if_pos hlt]
  simp only [Option.map_some, hmod]
  rw [getElem!_pos z.cells j hjs]
  rw [Array.getElem?_eq_getElem hjs] at h1
  exact h1
theorem rowA_sound {te : TI} : ∀ (ps : List (Nat × Value)) (as xs r : List AV) (arr : Array Value), rowA te (ps.map (·.1)) as xs = some r → (∀ (j : Nat) x, as[j]? = some x → ∃ p, ps[j]? = some p ∧ VR g x p.2) → RowC g te xs arr →
    ∃ arr', Instr.fill (fun i => some (i * te.size, te.size)) arr ps = some arr' ∧ RowC g te r arr' ∧ r.length = xs.length
  | [], as, xs, r, arr, h, _, hc => by
    cases as with
    | nil => simp [rowA] at h; subst h; exact ⟨arr, rfl, hc, rfl⟩
    | cons _ _ => simp [rowA] at h
  | (i, v) :: ps, as, xs, r, arr, h, hv, hc => by
    cases as with
    | nil => simp [rowA] at h
    | cons x as =>
      simp only [List.map_cons, rowA] at h
      split at h <;> try (simp at h; done)
      rename_i hcond
      obtain ⟨p, hp, hx⟩ := hv 0 x rfl
      simp at hp; subst hp
      have hcx := hx.cells hcond.2
      have hl := fits_len hcond.2
      obtain ⟨arr', h5, h6, h7⟩ := rowA_sound ps as _ r _ h (fun j x hj => hv (j + 1) x (by simpa using hj)) (hc.set hcond.1 hx hcond.2)
      refine ⟨arr', ?_, h6, by rw [h7]; simp⟩
      simp only [Instr.fill]
      rw [if_neg]
      · exact h5
      · have : i * te.size + te.size ≤ arr.size := by
          rw [hc.size, ← Nat.succ_mul]
          exact Nat.mul_le_mul_right _ hcond.1
        rw [hcx.1, hl]
        simp; omega
theorem elemOf_run (ht : Tys P C) {t : Nat} {te : TI} (h : elemOf C t = some te) : ∃ el, (∀ w, (underlying t).run P w = .ok (.slice el) w) ∧ TyOK P el te ∧ P.underlying t = some (.slice el) := by
  unfold elemOf at h
  split at h <;> try (simp at h; done)
  rename_i ti hti
  split at h <;> try (simp at h; done)
  rename_i el hk
  obtain ⟨d, hd1, hd2⟩ := (ht t ti hti).desc
  rw [hk] at hd2
  cases d <;> simp [TK.of] at hd2
  subst hd2
  exact ⟨_, fun w => run_underlying hd1 w, ht _ _ h, hd1⟩
theorem range0 : Array.range 0 = #[] := by
  apply Array.ext'
  simp [Array.toList_range]
theorem kBuildSlice_made (ht : Tys P C) (hr : HR g σ w) (hf : FR B g σ fr a w) {hp : List Nat} {t n : Nat} {ps : Array (Nat × Operand)} (ho : o.op = .buildSlice t n ps) (h : kBuildSlice C fr hp t n ps.toList o.dst σ = some (e, σ')) : Made P B g σ fr a w o e σ' := by
  obtain ⟨m, hm, h⟩ := app_eq h
  unfold kBuildSlice at hm
  split at hm
  case h_2 => subst hm; simp [failM] at h
  rename_i te d l hel hd hl
  split at hm
  case isFalse => subst hm; simp [failM] at h
  rename_i hsz
  split at hm <;> subst hm <;> try (simp [failM] at h; done)
  rename_i xs hxs
  obtain ⟨el, hu, hte, _⟩ := elemOf_run ht hel
  obtain ⟨hlen, hvs⟩ := avs_pairs hf _ _ hl
  obtain ⟨z, hz, hzc⟩ := run_zero (w := w) hte
  have hz0 := constA_VR (g := g) hzc
  obtain ⟨arr', h1, h2, h3⟩ := rowA_sound (g := g) (te := te) ((ps.map fun (i, x) => (i, a.eval x)).toList) l (List.replicate n te.zero) xs ((Array.range (n * te.size)).map (z.cells[· % z.cells.size]!))
    (by
      have : ((ps.map fun (i, x) => (i, a.eval x)).toList.map (·.1)) = ps.toList.map (·.1) := by simp
      rw [this]; exact hxs)
    (fun j x hj => by
      obtain ⟨p, hp, hx⟩ := hvs j x hj
      exact ⟨(p.1, a.eval p.2), by simp at hp ⊢; exact ⟨p.1, p.2, hp, rfl, rfl⟩, hx⟩)
    (RowC.zeros hz0 hte.zfit hte.pos n)
  have hxl : xs.length = n := by rw [h3]; simp
  refine newRow_made hr (w' := w.alloc (.cells arr' el)) (b := w.heap.size) (cs := arr') (el := el) (f := (0, 0)) (cap := n) h2.row (by omega) (by rw [h2.size, hxl]; exact Nat.le_refl _) (.alloc w _) (Nat.le_refl _) (heap_new w _) (fun _ => rfl) ?_ h
  rw [hxl]
  have hsz' : ¬ n * te.size > 2 ^ 24 := by omega
  by_cases hn0 : n * te.size = 0
  · have hn : n = 0 := by
      rcases Nat.mul_eq_zero.1 hn0 with h | h
      · exact h
      · have := hte.pos; omega
    subst hn
    have hpe : ps.toList = [] := by
      have : l = [] := by
        cases l with
        | nil => rfl
        | cons x l =>
          cases hq : ps.toList with
          | nil => rw [hq] at hlen; simp at hlen
          | cons p q => rw [hq] at hxs; simp [rowA] at hxs
      subst this
      simpa using hlen.symm
    have hps : (ps.map fun (i, x) => (i, a.eval x)).toList = [] := by simp [hpe]
    have harr : arr' = #[] := by
      have := h2.size
      rw [hxl] at this
      simpa using this
    rw [hps] at h1
    simp [Instr.fill] at h1
    subst harr
    simp only [execOp, ho, Instr.buildSlice, Sem.run_bind, hu, Result.andThen_ok, run_size hte]
    simp [hpe, Instr.fill, run_newRow, range0]
  · simp only [execOp, ho, Instr.buildSlice, Sem.run_bind, hu, Result.andThen_ok, run_size hte]
    have e1 : (ps.map fun (i, x) => (i, a.eval x)).toList = ps.toList.map fun x => (x.1, a.eval x.2) := by simp
    rw [e1] at h1
    simp [hsz', hn0, hz, h1, run_newRow]
theorem kMakeSlice_made (ht : Tys P C) (hr : HR g σ w) (hf : FR B g σ fr a w) {hp : List Nat} {t : Nat} {x y : Operand} (ho : o.op = .makeSlice t x y) (h : kMakeSlice C fr hp t x y o.dst σ = some (e, σ')) : Made P B g σ fr a w o e σ' := by
  obtain ⟨m, hm, h⟩ := app_eq h
  unfold kMakeSlice at hm
  split at hm
  case h_2 => subst hm; simp [failM] at h
  rename_i te d k l k' c hel hd hl hc
  split at hm
  case isFalse => subst hm; simp [failM] at h
  rename_i hcond
  obtain ⟨rfl, h0, hb, hn⟩ := hcond
  subst hm
  obtain ⟨el, hu, hte, _⟩ := elemOf_run ht hel
  obtain ⟨z, hz, hzc⟩ := run_zero (w := w) hte
  have hz0 := constA_VR (g := g) hzc
  have hvl := av_v hf hl
  have hvc := av_v hf hc
  rw [VR_int] at hvl hvc
  have hrow := RowC.zeros (g := g) hz0 hte.zfit hte.pos l.toNat
  refine newRow_made hr (w' := w.alloc (.cells _ el)) (b := w.heap.size) (el := el) (f := (0, 0)) (cap := l.toNat) hrow.row (by simp) (by rw [hrow.size]; simp) (.alloc w _) (Nat.le_refl _) (heap_new w _) (fun _ => rfl) ?_ h
  obtain ⟨ii, hii, hib⟩ := run_bytes (w := w) hte
  have hw : IntKind.i64.wrap l = l := by
    have hm : l ≤ 2 ^ 45 := by omega
    unfold IntKind.wrap
    have e1 : IntKind.i64.bits = 64 := rfl
    have e2 : IntKind.i64.signed = true := rfl
    simp only [e1, e2]
    simp
    omega
  have htl : ¬ ((te.bytes : Int) * l > 2 ^ 48) := by
    have : (l.toNat * te.bytes : Nat) ≤ 2 ^ 45 := hb
    have e : ((l.toNat * te.bytes : Nat) : Int) = te.bytes * l := by
      rw [Int.natCast_mul, Int.toNat_of_nonneg h0, Int.mul_comm]
    omega
  have htl2 : ¬ ((281474976710656 : Int) < te.bytes * l) := by omega
  have hlen : (List.replicate l.toNat te.zero).length = l.toNat := by simp
  rw [hlen]
  simp only [execOp, ho, hvl, hvc, Instr.makeSlice, Sem.run_bind, hu, Result.andThen_ok, asInt, asIntOf, Sem.run_pure, hii, hib, hw]
  have hneg : ¬ l < 0 := by omega
  by_cases hn0 : l.toNat * te.size = 0
  · have hn : l.toNat = 0 := by
      rcases Nat.mul_eq_zero.1 hn0 with h | h
      · exact h
      · have := hte.pos; omega
    simp [hneg, htl2, run_size hte, hn, run_newRow, range0]
  · simp [hneg, htl2, run_size hte, hn0, hz, run_newRow]
theorem kMakeMap_made (hr : HR g σ w) {t : Nat} (ho : o.op = .makeMap t none) (h : (bindM (newM (.map [])) fun r => retE (.map r)) σ = some (e, σ')) : Made P B g σ fr a w o e σ' := by
  simp only [bindM, newM, retE, pureM, Option.some.injEq, Prod.mk.injEq] at h
  obtain ⟨rfl, rfl⟩ := h
  have hle := G.addLoc_le (p := (w.heap.size, 0, 0)) (hr.loc_new 0)
  have hself := G.addLoc_self (g := g) (r := σ.length) (v' := 0) (p := (w.heap.size, 0, 0))
  have hn := heap_new w (.map #[] 0)
  have hg := Grow.alloc w (.map #[] 0)
  obtain ⟨h1, h2⟩ := hr.upd (σ' := σ ++ [.map []]) (r := σ.length) (o := .map []) (b := w.heap.size) (w' := w.alloc (.map #[] 0)) hle rfl
    (fun q hq => by
      rw [List.getElem?_append]
      split
      · rfl
      · rw [List.getElem?_eq_none (l := σ) (by omega), List.getElem?_eq_none (l := [_]) (by simp; omega)])
    (by simp) ⟨w.heap.size, #[], hself, hn, rfl, fun i k v hi => by simp at hi⟩ rfl (by simp [blk, HObj.ver, hself]) (.inr (Nat.le_refl _))
    (fun b' _ hb' => hg.heap b' hb') hg.size
    (by simp) (by simp) (fun q v' p hp => by
      simp only [G.addLoc] at hp
      split at hp
      · rename_i hc; exact .inr hc
      · exact .inl hp) (fun o0 h0 => by rw [List.getElem?_eq_none (Nat.le_refl _)] at h0; cases h0) hg.os hg.tape hg.output
  refine ⟨rfl, .map (some w.heap.size), _, _, ?_, h1, h2, VR_map.2 ⟨_, _, _, hself, rfl⟩⟩
  simp [execOp, ho, Instr.makeMap]
theorem kRange_made (ht : Tys P C) (hr : HR g σ w) (hf : FR B g σ fr a w) {t : Nat} {x : Operand} (ho : o.op = .range t x) (h : kRange C fr t x σ = some (e, σ')) : Made P B g σ fr a w o e σ' := by
  unfold kRange at h
  split at h
  case h_2 => cases h
  rename_i kt r hm hx
  obtain ⟨kt1, et, hund, _⟩ := mapOf_run ht (tk := kt.1) (te := kt.2) hm
  split at h
  case h_2 => cases h
  rename_i es hs
  simp only [bindM, newM, retE, pureM, Option.some.injEq, Prod.mk.injEq] at h
  obtain ⟨rfl, rfl⟩ := h
  have hv := av_v hf hx
  obtain ⟨mb, sz, N, hl, hval⟩ := VR_map.1 hv
  obtain ⟨mb', en, h1, h2, h3, h4⟩ := hr.ob r _ hs
  rw [h1] at hl; cases hl
  have hle := G.addLoc_le (p := (w.heap.size, 0, 0)) (hr.loc_new 0)
  have hself := G.addLoc_self (g := g) (r := σ.length) (v' := 0) (p := (w.heap.size, 0, 0))
  have hn := heap_new w (.mapIter (some mb) en.size #[] en.size)
  have hg := Grow.alloc w (.mapIter (some mb) en.size #[] en.size)
  obtain ⟨h5, h6⟩ := hr.upd (σ' := σ ++ [.it (some (r, es.length, []))]) (r := σ.length) (o := .it (some (r, es.length, []))) (b := w.heap.size) (w' := w.alloc (.mapIter (some mb) en.size #[] en.size)) hle rfl
    (fun q hq => by
      rw [List.getElem?_append]
      split
      · rfl
      · rw [List.getElem?_eq_none (l := σ) (by omega), List.getElem?_eq_none (l := [_]) (by simp; omega)])
    (by simp) ⟨w.heap.size, some mb, en.size, #[], en.size, hself, hn, fun m n sn hsn => by
      simp only [Option.some.injEq, Prod.mk.injEq] at hsn
      obtain ⟨rfl, rfl, rfl⟩ := hsn
      exact ⟨mb, hle.loc _ _ _ h1, rfl, h3, by omega, fun i => by simp⟩⟩ rfl (by simp [blk, HObj.ver, hself]) (.inr (Nat.le_refl _))
    (fun b' _ hb' => hg.heap b' hb') hg.size
    (by simp) (by simp) (fun q v' p hp => by
      simp only [G.addLoc] at hp
      split at hp
      · rename_i hc; exact .inr hc
      · exact .inl hp) (fun o0 h0 => by rw [List.getElem?_eq_none (Nat.le_refl _)] at h0; cases h0) hg.os hg.tape hg.output
  refine ⟨rfl, .pointer (some ⟨w.heap.size, 0, none⟩), _, _, ?_, h5, h6, VR_ptr.2 ⟨_, _, _, hself, by simp⟩⟩
  simp [execOp, ho, hval, Instr.range, hund, getObj_map h2, Sem.run_bind, Result.andThen_ok]
end Go.Am
/-! ## part Conv -/
/- The abstract machine and the model: conversions, lengths, the greater and the lesser of two; rows of the heap, read. -/
namespace Go.Am
open Go
variable {P : Program} {C : Ctx} {B : Nat} {g : G} {σ σ' : H} {w w' : World} {fr : Fr} {a : Act} {o : Oper} {e : Eff}
theorem bytesOf_get : ∀ (xs : List AV) (s : List UInt8), bytesOf xs = some s → s.length = xs.length ∧ ∀ (i : Nat) x, xs[i]? = some x → ∃ n, x = .int .u8 n ∧ s[i]? = some (UInt8.ofNat n.toNat)
  | [], s, h => by simp [bytesOf] at h; subst h; simp
  | x :: xs, s, h => by
    cases x <;> try (simp [bytesOf] at h; done)
    rename_i k n
    cases k <;> try (simp [bytesOf] at h; done)
    simp only [bytesOf] at h
    split at h <;> simp at h
    rename_i m hm
    subst h
    obtain ⟨h1, h2⟩ := bytesOf_get xs m hm
    refine ⟨by simp [h1], fun i x hi => ?_⟩
    cases i with
    | zero => simp at hi; subst hi; exact ⟨n, rfl, rfl⟩
    | succ i => simpa using h2 i x (by simpa using hi)
theorem fm_congr {α β : Type} {f g : α → Option β} : ∀ (l : List α), (∀ x ∈ l, f x = g x) → l.filterMap f = l.filterMap g
  | [], _ => rfl
  | x :: l, h => by rw [List.filterMap_cons, List.filterMap_cons, h x (by simp), fm_congr l fun y hy => h y (by simp [hy])]
theorem bytes_run {b off len cap : Nat} {xs : List AV} {s : List UInt8} (hs : bytesOf xs = some s) (hl : xs.length = len)
    (hm : ∀ (i : Nat) x, xs[i]? = some x → ∃ u, w.cell? ⟨b, off + i, none⟩ = some u ∧ VR g x u) :
    ∃ bs : ByteArray, (Conv.bytesToString (.slice (some ⟨b, off, none⟩) len cap)).run P w = .ok (.string bs) w ∧ bs.data.toList = s := by
  obtain ⟨h1, h2⟩ := bytesOf_get xs s hs
  have hcell : ∀ j, j < len → ∃ n, w.cell? ⟨b, off + j, none⟩ = some (.int .u8 n) ∧ s[j]? = some (UInt8.ofNat n.toNat) := by
    intro j hj
    have hj' : j < xs.length := by omega
    obtain ⟨n, h3, h4⟩ := h2 j xs[j] (List.getElem?_eq_getElem hj')
    obtain ⟨u, h5, h6⟩ := hm j xs[j] (List.getElem?_eq_getElem hj')
    rw [h3, VR_int] at h6
    subst h6
    exact ⟨n, h5, h4⟩
  have hr := run_loadCells (P := P) w ⟨b, off, none⟩ len (fun j => (w.cell? ⟨b, off + j, none⟩).getD undef) (fun j hj => by
    obtain ⟨n, h3, _⟩ := hcell j hj
    rw [cells_add, h3]; rfl)
  unfold Conv.bytesToString
  simp only [Sem.run_bind, hr, Result.andThen_ok]
  have key : ∀ (f : Value → ByteArray → Sem (ForInStep ByteArray)), (∀ n s, f (.int .u8 n) s = pure (ForInStep.yield (s.push (UInt8.ofNat n.toNat)))) → ∀ (l : List Nat) (acc : ByteArray), (∀ j ∈ l, j < len) → ∃ bs : ByteArray,
      ((forIn (l.map fun j => (w.cell? ⟨b, off + j, none⟩).getD undef) acc f : Sem ByteArray).run P w) = .ok bs w ∧ bs.data.toList = acc.data.toList ++ l.filterMap (fun j => s[j]?) := by
    intro f hf l
    induction l with
    | nil => intro acc _; exact ⟨acc, by simp, by simp⟩
    | cons j l ih =>
      intro acc hall
      obtain ⟨n, h3, h4⟩ := hcell j (hall j (by simp))
      obtain ⟨bs, h5, h6⟩ := ih (acc.push (UInt8.ofNat n.toNat)) (fun j hj => hall j (by simp [hj]))
      refine ⟨bs, ?_, ?_⟩
      · simp only [List.map_cons, List.forIn_cons, h3, Option.getD_some, hf, Sem.run_bind, Sem.run_pure, Result.andThen_ok]
        exact h5
      · rw [h6]
        simp [h4, ByteArray.push]
  rw [← Array.forIn_toList]
  simp only [List.toList_toArray]
  obtain ⟨bs, h3, h4⟩ := key (fun (c : Value) (s : ByteArray) => (match c with
    | .int .u8 n => pure (ForInStep.yield (s.push (UInt8.ofNat n.toNat)))
    | _ => do
      let _ ← (stuck "bytesToString: byte expected" : Sem PUnit)
      pure (ForInStep.yield s) : Sem (ForInStep ByteArray))) (fun n s => rfl) (List.range len) .empty (fun j hj => List.mem_range.1 hj)
  refine ⟨bs, ?_, ?_⟩
  · exact (congrArg (fun r : Result ByteArray => r.andThen fun a w' => Sem.run P (pure (Value.string a)) w') h3)
  · rw [h4]
    have : ∀ (l : List UInt8) (k : Nat), (List.range' k l.length).filterMap (fun j => l[j - k]?) = l := by
      intro l
      induction l with
      | nil => intro k; rfl
      | cons x l ih =>
        intro k
        simp only [List.length_cons, List.range'_succ, List.filterMap_cons, Nat.sub_self, List.getElem?_cons_zero]
        congr 1
        have e : (List.range' (k + 1) l.length).filterMap (fun j => (x :: l)[j - k]?) = (List.range' (k + 1) l.length).filterMap (fun j => l[j - (k + 1)]?) := by
          apply fm_congr
          intro j hj
          rw [List.mem_range'_1] at hj
          rw [show j - k = (j - (k + 1)) + 1 by omega, List.getElem?_cons_succ]
        rw [e, ih]
    have h := this s 0
    simp only [Nat.sub_zero] at h
    rw [show len = s.length by omega, List.range_eq_range', h]
    rfl
theorem elems_mem (hr : HR g σ w) {te : TI} {x : AV} {v : Value} {ys : List AV} (hx : VR g x v) (h : elemsM te x σ = some (ys, σ')) :
    σ' = σ ∧ ((∃ bs : ByteArray, v = .string bs ∧ te.size = 1 ∧ ys = ofBytes bs.data.toList) ∨ (v = .slice none 0 0 ∧ ys = []) ∨
      ∃ ad cap, v = .slice ad ys.length cap ∧ ys.length ≤ cap ∧ (ys = [] ∨ ∃ b off, ad = some ⟨b, off, none⟩ ∧ ∀ (i : Nat) y, ys[i]? = some y → y.cells.length = te.size ∧ MemR g (fun q => w.cell? ⟨b, q, none⟩) (off + i * te.size) y)) := by
  unfold elemsM at h
  split at h
  · simp at h; obtain ⟨rfl, rfl⟩ := h
    rw [VR_nil] at hx
    exact ⟨rfl, .inr (.inl ⟨hx, rfl⟩)⟩
  · rename_i s xs
    split at h <;> simp at h
    rename_i hs
    obtain ⟨rfl, rfl⟩ := h
    subst hs
    obtain ⟨ad, cap, h1, h2, h3⟩ := VR_sl.1 hx
    refine ⟨rfl, .inr (.inr ⟨some ad, cap, h1, h2, h3.imp id ?_⟩)⟩
    rintro ⟨b, off, rfl, h4⟩
    refine ⟨b, off, rfl, fun i y hi => ⟨(h4 i y hi).1, fun j c hj => ?_⟩⟩
    obtain ⟨u, h5, h6⟩ := (h4 i y hi).2 j c hj
    exact ⟨u, hr.im _ _ _ h5, h6⟩
  · split at h <;> simp at h
    rename_i hs
    obtain ⟨rfl, rfl⟩ := h
    obtain ⟨bs, rfl, rfl⟩ := VR_str.1 hx
    exact ⟨rfl, .inl ⟨bs, rfl, hs, rfl⟩⟩
  · rename_i r v' q n s
    split at h <;> try (simp at h; done)
    rename_i fz sz xs ha
    obtain ⟨hl, hs, hor⟩ := arrAt_OR hr ha
    split at h <;> simp at h
    rename_i hc
    obtain ⟨rfl, rfl⟩ := h
    obtain ⟨rfl, rfl, hcl⟩ := hc
    obtain ⟨b, N, cs, el, f, k1, k2, k3, k4, k5, k6, k7⟩ := hor
    obtain ⟨b', N', ad, cap, h1, h2, h3, h4⟩ := VR_hs.1 hx
    rw [← hl, k1] at h1
    cases h1
    have hlen : ((xs.drop q).take n).length = n := by rw [List.length_take, List.length_drop]; omega
    refine ⟨rfl, .inr (.inr ⟨some ad, cap, by rw [hlen]; exact h2, by rw [hlen]; exact h3, ?_⟩)⟩
    rcases h4 with ⟨rfl, h4, h5⟩ | ⟨h4, _⟩
    · refine .inr ⟨b, q * te.size, rfl, fun i y hi => ?_⟩
      rw [List.getElem?_take] at hi
      split at hi <;> try (simp at hi; done)
      rw [List.getElem?_drop] at hi
      refine ⟨(k5 _ y hi).1, fun j c hj => ?_⟩
      obtain ⟨u, h6, h7⟩ := (k5 _ y hi).2 j c hj
      refine ⟨u, (cell_row k2).trans ?_, h7⟩
      rw [← Nat.add_mul]; exact h6
    · exact .inl (by apply List.eq_nil_of_length_eq_zero; omega)
  · simp at h
theorem ofBytes_get (l : List UInt8) (i : Nat) (x : AV) : (ofBytes l)[i]? = some x ↔ ∃ b, l[i]? = some b ∧ x = .int .u8 b.toNat := by
  unfold ofBytes
  rw [List.getElem?_map]
  cases l[i]? with
  | none => simp
  | some b => simp [eq_comm]
theorem byteRow_run (ht : Tys P C) {s : Nat} (h : byteRow C s = true) : ∃ el, (∀ w, (underlying s).run P w = .ok (.slice el) w) ∧ (∀ w, (underlying el).run P w = .ok (.int .u8) w) := by
  unfold byteRow at h
  split at h <;> try (simp at h; done)
  rename_i ti hti
  split at h <;> try (simp at h; done)
  rename_i el hk
  obtain ⟨d, hd1, hd2⟩ := (ht s ti hti).desc
  rw [hk] at hd2
  cases d <;> simp [TK.of] at hd2
  subst hd2
  unfold isByte at h
  split at h <;> try (simp at h; done)
  rename_i te hte
  split at h <;> try (simp at h; done)
  rename_i hk'
  obtain ⟨d', hd3, hd4⟩ := (ht _ te hte).desc
  rw [hk'] at hd4
  cases d' <;> simp [TK.of] at hd4
  subst hd4
  exact ⟨_, fun w => run_underlying hd1 w, fun w => run_underlying hd3 w⟩
theorem isByte_run (ht : Tys P C) {el : Nat} (h : isByte C el = true) : ∀ w, (underlying el).run P w = .ok (.int .u8) w := by
  unfold isByte at h
  split at h <;> try (simp at h; done)
  rename_i te hte
  split at h <;> try (simp at h; done)
  rename_i hk'
  obtain ⟨d', hd3, hd4⟩ := (ht _ te hte).desc
  rw [hk'] at hd4
  cases d' <;> simp [TK.of] at hd4
  subst hd4
  exact fun w => run_underlying hd3 w
theorem kConv_made (ht : Tys P C) (hr : HR g σ w) (hf : FR B g σ fr a w) {hp : List Nat} {s t : Nat} {x : Operand} (ho : o.op = .convert s t x) (hs : (P.underlying s).isSome = true) (h : kConv C fr hp s t x o.dst σ = some (e, σ')) : Made P B g σ fr a w o e σ' := by
  obtain ⟨m, hm, h⟩ := app_eq h
  unfold kConv at hm
  split at hm
  case h_2 => subst hm; simp [failM] at h
  rename_i ti y hti hy
  have hv := av_v hf hy
  obtain ⟨ds, hds⟩ := Option.isSome_iff_exists.1 hs
  have hus : ∀ w, (underlying s).run P w = .ok ds w := fun w => run_underlying hds w
  obtain ⟨d', hd1, hk⟩ := (ht t ti hti).desc
  have hut : ∀ w, (underlying t).run P w = .ok d' w := fun w => run_underlying hd1 w
  split at hm
  · rename_i k k' n hkk
    rw [hkk] at hk
    cases d' <;> simp [TK.of] at hk
    subst hk
    subst hm
    rw [VR_int] at hv
    refine Quiet.made hr (quiet_v (retE_eq h) (v := .int _ _) ?_ (VR_int.2 rfl))
    simp only [execOp, ho, hv, convert, Sem.run_bind, hus, hut, Result.andThen_ok]
    cases ds <;> simp [Conv.intToInt]
  · rename_i bs hkk
    rw [hkk] at hk
    cases d' <;> simp [TK.of] at hk
    subst hm
    have hv' := hv
    obtain ⟨q, hq1, hq2⟩ := VR_str.1 hv
    refine Quiet.made hr (quiet_v (retE_eq h) (v := .string q) ?_ (hq1 ▸ hv'))
    simp only [execOp, ho, hq1, convert, Sem.run_bind, hus, hut, Result.andThen_ok]
    cases ds <;> simp
  · rename_i hkk
    rw [hkk] at hk
    cases d' <;> simp [TK.of] at hk
    split at hm <;> subst hm <;> try (simp [failM] at h; done)
    rename_i hb
    obtain ⟨el, hb1, hb2⟩ := byteRow_run ht hb
    rw [VR_nil] at hv
    refine Quiet.made hr (quiet_v (retE_eq h) (v := .string .empty) ?_ (VR_str.2 ⟨_, rfl, rfl⟩))
    simp [execOp, ho, hv, convert, hb1, hut, hb2, Conv.bytesToString]
  · rename_i xs hkk
    rw [hkk] at hk
    cases d' <;> simp [TK.of] at hk
    split at hm
    case isFalse => subst hm; simp [failM] at h
    rename_i hb
    obtain ⟨el, hb1, hb2⟩ := byteRow_run ht hb
    split at hm <;> subst hm <;> try (simp [failM] at h; done)
    rename_i l hl
    obtain ⟨ad, cap, h1, h2, h3⟩ := VR_sl.1 hv
    rcases h3 with rfl | ⟨b, off, rfl, h3⟩
    · simp [bytesOf] at hl
      subst hl
      refine Quiet.made hr (quiet_v (retE_eq h) (v := .string .empty) ?_ (VR_str.2 ⟨_, rfl, rfl⟩))
      simp [execOp, ho, h1, convert, hb1, hut, hb2, Conv.bytesToString, loadCells, loadCellsFrom]
    · obtain ⟨bs, h4, h5⟩ := bytes_run (P := P) (g := g) (w := w) (b := b) (off := off) (cap := cap) hl rfl (fun i x hi => by
        obtain ⟨h6, h7⟩ := h3 i x hi
        obtain ⟨n, rfl, _⟩ := (bytesOf_get xs l hl).2 i x hi
        obtain ⟨u, h8, h9, h10⟩ := h7 0 (.int .u8 n) rfl
        refine ⟨u, ?_, h10⟩
        have := hr.im _ _ _ h8
        simpa using this)
      refine Quiet.made hr (quiet_v (retE_eq h) (v := .string bs) ?_ (VR_str.2 ⟨_, rfl, h5⟩))
      simp [execOp, ho, h1, convert, hb1, hut, hb2, h4]
  · rename_i r v' q n hkk
    rw [hkk] at hk
    cases d' <;> simp [TK.of] at hk
    split at hm
    case isFalse => subst hm; simp [failM] at h
    rename_i hb
    obtain ⟨el, hb1, hb2⟩ := byteRow_run ht hb
    subst hm
    unfold bindM at h
    split at h <;> try (simp at h; done)
    rename_i xs σ1 hel
    obtain ⟨m', hm', h9⟩ := app_eq h
    split at hm' <;> subst hm' <;> try (simp [failM] at h9; done)
    rename_i l hl
    obtain ⟨rfl, h3⟩ := elems_mem hr hv hel
    rcases h3 with ⟨bs, h1, _⟩ | ⟨h1, rfl⟩ | ⟨ad, cap, h1, h2, h3⟩
    · obtain ⟨_, _, _, _, _, h2, _⟩ := VR_hs.1 hv
      rw [h1] at h2; cases h2
    · obtain ⟨_, _, _, _, _, h2, _⟩ := VR_hs.1 hv
      rw [h1] at h2; cases h2
    · rcases h3 with rfl | ⟨b, off, rfl, h3⟩
      · simp [bytesOf] at hl
        subst hl
        refine Quiet.made hr (quiet_v (retE_eq h9) (v := .string .empty) ?_ (VR_str.2 ⟨_, rfl, rfl⟩))
        cases ad with
        | none => simp [execOp, ho, h1, convert, hb1, hut, hb2, Conv.bytesToString]
        | some ad => simp [execOp, ho, h1, convert, hb1, hut, hb2, Conv.bytesToString, loadCells, loadCellsFrom]
      · obtain ⟨bs, h4, h5⟩ := bytes_run (P := P) (g := g) (w := w) (b := b) (off := off) (cap := cap) hl rfl (fun i x hi => by
          obtain ⟨h6, h7⟩ := h3 i x hi
          obtain ⟨n, rfl, _⟩ := (bytesOf_get xs l hl).2 i x hi
          obtain ⟨u, h8, h9, h10⟩ := h7 0 (.int .u8 n) rfl
          exact ⟨u, by simpa using h8, h10⟩)
        refine Quiet.made hr (quiet_v (retE_eq h9) (v := .string bs) ?_ (VR_str.2 ⟨_, rfl, h5⟩))
        simp [execOp, ho, h1, convert, hb1, hut, hb2, h4]
  · rename_i el b l hkk
    rw [hkk] at hk
    cases d' <;> simp [TK.of] at hk
    rename_i el'
    obtain rfl : el = el' := hk.symm
    split at hm
    case h_2 => subst hm; simp [failM] at h
    rename_i te d hby hte hd
    split at hm
    case isTrue => subst hm; simp [failM] at h
    rename_i hmem
    subst hm
    have hb2 := isByte_run ht hby
    obtain ⟨bs, hq1, hq2⟩ := VR_str.1 hv
    have hte1 : te.size = 1 := by
      unfold newRowE at h
      obtain ⟨m, hm, h⟩ := app_eq h
      split at hm
      case isFalse => subst hm; simp [failM] at h
      rename_i hfit
      have := fitAll_get hfit 0 (.int .u8 b.toNat) (by simp [ofBytes])
      have := fits_len this
      simpa [AV.cells] using this.symm
    have hsz : bs.size = (b :: l).length := by rw [← hq2]; exact (Array.length_toList).symm
    have hnf : (Question.appendCap bs.size 0 el).forced = false := rfl
    obtain ⟨cap, hcap⟩ : ∃ cap, cap = (Question.appendCap bs.size 0 el).cut (w.tape w.drawn (Question.appendCap bs.size 0 el)) := ⟨_, rfl⟩
    have hcl : bs.size ≤ cap := by rw [hcap]; simp only [Question.cut]; omega
    obtain ⟨arr, harr⟩ : ∃ arr : Array Value, arr = (bs.data.map fun b => .int .u8 b.toNat) ++ Array.replicate (cap - bs.size) (.int .u8 0) := ⟨_, rfl⟩
    have hasz : arr.size = cap := by
      rw [harr, Array.size_append, Array.size_map, Array.size_replicate]
      have : bs.data.size = bs.size := rfl
      omega
    have hget : ∀ i, i < bs.size → arr[i]? = some (.int .u8 ((b :: l)[i]?.getD 0).toNat) := by
      intro i hi
      have hi' : i < bs.data.size := hi
      rw [harr, Array.getElem?_append_left (by simpa using hi'), Array.getElem?_map, Array.getElem?_eq_getElem hi']
      have : (b :: l)[i]? = some bs.data[i] := by rw [← hq2, Array.getElem?_toList, Array.getElem?_eq_getElem hi']
      rw [this]; rfl
    have hrow : RowR g te.size (ofBytes (b :: l)) arr := by
      rw [hte1]
      refine ⟨by simp only [ofBytes, List.length_map]; omega, fun i x hi => ?_⟩
      obtain ⟨c, h1, rfl⟩ := (ofBytes_get _ _ _).1 hi
      refine ⟨rfl, fun j c' hj => ?_⟩
      cases j with
      | succ j => simp [AV.cells] at hj
      | zero =>
        simp [AV.cells] at hj; subst hj
        have hlt : i < bs.size := by
          rw [hsz]
          rcases Nat.lt_or_ge i (b :: l).length with h | h
          · exact h
          · rw [List.getElem?_eq_none h] at h1; cases h1
        refine ⟨.int .u8 c.toNat, ?_, rfl, VR_int.2 rfl⟩
        simp only [Nat.mul_one, Nat.add_zero]
        rw [hget i hlt, h1]; rfl
    have hg0 : Grow w ((w.drew.alloc (.cells arr el)).freeze { block := w.heap.size, off := arr.size } 1) := by
      refine ⟨?_, fun q hq => ?_, ?_, ?_, ?_⟩ <;> simp only [World.freeze, Nat.one_ne_zero, if_false]
      · rw [Array.size_modify]; exact ((Grow.drew w).trans (.alloc w.drew _)).size
      · rw [Array.getElem?_modify, if_neg (by omega)]
        exact ((Grow.drew w).trans (.alloc w.drew _)).heap q hq
      all_goals rfl
    have hnn : ((w.drew.alloc (.cells arr el)).freeze { block := w.heap.size, off := arr.size } 1).heap[w.heap.size]? = some (.cells arr el (arr.size, arr.size + 1)) := by
      simp only [World.freeze, Nat.one_ne_zero, if_false]
      rw [Array.getElem?_modify, if_pos rfl]
      have := heap_new w.drew (.cells arr el)
      rw [show w.drew.heap.size = w.heap.size from rfl] at this
      rw [this]
      simp
    refine newRow_made hr (w' := _) (b := w.heap.size) (cs := arr) (el := el) (cap := cap) hrow (by simp only [ofBytes, List.length_map]; omega) (by rw [hte1]; omega) hg0 (Nat.le_refl _) hnn (fun h => absurd h hmem) ?_ h
    have hlen : (ofBytes (b :: l)).length = bs.size := by simp only [ofBytes, List.length_map]; omega
    rw [hlen]
    have hchoose : ∀ {w : World}, (choose (.appendCap bs.size 0 el)).run P w = .ok ((Question.appendCap bs.size 0 el).cut (w.tape w.drawn (Question.appendCap bs.size 0 el))) w.drew := by
      intro w; rw [run_choose, hnf]; rfl
    have hconv : (Conv.stringToBytes el bs).run P w = .ok (.slice (some ⟨w.heap.size, 0, none⟩) bs.size cap) ((w.drew.alloc (.cells arr el)).freeze { block := w.heap.size, off := arr.size } 1) := by
      unfold Conv.stringToBytes
      simp only [Sem.run_bind, hchoose, Result.andThen_ok, ← hcap, ← harr, run_newRow]
      have hsh : (w.drew.alloc (.cells arr el)).shape? w.heap.size = some (el, arr.size) := by
        have := heap_new w.drew (.cells arr el)
        rw [show w.drew.heap.size = w.heap.size from rfl] at this
        simp only [World.shape?]
        rw [this]
      simp [markStringish, show w.drew.heap.size = w.heap.size from rfl, hsh]
    simp only [execOp, ho, hq1, convert, Sem.run_bind, hus, Result.andThen_ok, run_underlying hd1, hb2]
    cases ds <;> simp [hconv]
  · subst hm; simp [failM] at h
end Go.Am
/-! ## part App -/
/- The abstract machine and the model: 'append'. -/
namespace Go.Am
open Go
variable {P : Program} {C : Ctx} {B : Nat} {g g' : G} {σ σ' : H} {w w' : World} {fr : Fr} {a : Act} {o : Oper} {e : Eff}
def splice (cs new : Array Value) (p : Nat) : Array Value := (cs.toList.take p ++ new.toList ++ cs.toList.drop (p + new.toList.length)).toArray
theorem splice_get {cs new : Array Value} {p : Nat} (h : p + new.size ≤ cs.size) :
    (splice cs new p).size = cs.size ∧ ∀ q : Nat, (splice cs new p)[q]? = if q < p then cs[q]? else if q < p + new.size then new[q - p]? else cs[q]? := by
  refine ⟨by simp [splice]; omega, fun q => ?_⟩
  simp only [splice, List.getElem?_toArray]
  have hl : (cs.toList.take p).length = p := by simp; omega
  by_cases h1 : q < p
  · rw [if_pos h1, List.append_assoc, List.getElem?_append_left (by omega), List.getElem?_take, if_pos h1]; simp
  · rw [if_neg h1]
    by_cases h2 : q < p + new.size
    · rw [if_pos h2, List.append_assoc, List.getElem?_append_right (by omega), hl, List.getElem?_append_left (by simp; omega)]; simp
    · rw [if_neg h2, List.getElem?_append_right (by simp; omega), List.getElem?_drop]
      simp only [List.length_append, hl, Array.length_toList]
      rw [show p + new.size + (q - (p + new.size)) = q by omega]
      simp
theorem RowR.mono {sz : Nat} {xs : List AV} {cs : Array Value} (h : RowR g sz xs cs) (hle : g.le g') : RowR g' sz xs cs :=
  ⟨h.1, fun i x hi => ⟨(h.2 i x hi).1, (h.2 i x hi).2.mono hle⟩⟩
theorem RowR.spl {te : TI} {xs ys : List AV} {cs new : Array Value} {p : Nat} (h : RowR g te.size xs cs) (k : RowC g te ys new) (hp : p ≤ xs.length) (hl : (p + ys.length) * te.size ≤ cs.size) :
    RowR g te.size (xs.take p ++ ys ++ xs.drop (p + ys.length)) (splice cs new (p * te.size)) := by
  have hn := k.size
  have hb : p * te.size + new.size ≤ cs.size := by rw [hn, ← Nat.add_mul]; exact hl
  obtain ⟨h1, h2⟩ := splice_get hb
  have hlen : (xs.take p ++ ys ++ xs.drop (p + ys.length)).length = max xs.length (p + ys.length) := by simp; omega
  refine ⟨?_, fun i x hi => ?_⟩
  · rw [h1, hlen]
    rcases Nat.le_total xs.length (p + ys.length) with h | h'
    · rw [Nat.max_eq_right h]; exact hl
    · rw [Nat.max_eq_left h']; exact h.1
  have hj : ∀ {z : AV} {j : Nat} {c : AV}, z.cells.length = te.size → z.cells[j]? = some c → j < te.size := by
    intro z j c hz hjc
    rw [← hz]
    rcases Nat.lt_or_ge j z.cells.length with h | h
    · exact h
    · rw [List.getElem?_eq_none h] at hjc; cases hjc
  by_cases c1 : i < p
  · rw [List.append_assoc, List.getElem?_append_left (by simp; omega), List.getElem?_take, if_pos c1] at hi
    obtain ⟨h3, h4⟩ := h.2 i x hi
    refine ⟨h3, fun j c hjc => ?_⟩
    obtain ⟨u, h5, h6⟩ := h4 j c hjc
    refine ⟨u, ?_, h6⟩
    have := hj h3 hjc
    have hm : (i + 1) * te.size ≤ p * te.size := Nat.mul_le_mul_right _ c1
    rw [Nat.succ_mul] at hm
    show (splice cs new (p * te.size))[i * te.size + j]? = some u
    rw [h2, if_pos (by omega)]; exact h5
  · by_cases c2 : i < p + ys.length
    · rw [List.append_assoc, List.getElem?_append_right (by simp; omega), List.getElem?_append_left (by simp; omega)] at hi
      have hpl : (xs.take p).length = p := by simp; omega
      rw [hpl] at hi
      obtain ⟨h3, h4⟩ := k.el _ x hi
      refine ⟨h3, fun j c hjc => ?_⟩
      obtain ⟨u, h5, h6⟩ := h4 j c hjc
      refine ⟨u, ?_, h6⟩
      have hjt := hj h3 hjc
      have hm1 : p * te.size ≤ i * te.size := Nat.mul_le_mul_right _ (by omega)
      have hm2 : (i + 1) * te.size ≤ (p + ys.length) * te.size := Nat.mul_le_mul_right _ c2
      rw [Nat.succ_mul] at hm2
      have hm3 : (p + ys.length) * te.size = p * te.size + new.size := by rw [hn, Nat.add_mul]
      have hm4 : (i - p) * te.size = i * te.size - p * te.size := Nat.sub_mul ..
      show (splice cs new (p * te.size))[i * te.size + j]? = some u
      rw [h2, if_neg (by omega), if_pos (by omega), ← h5, hm4]
      congr 1; omega
    · rw [List.getElem?_append_right (by simp; omega), List.getElem?_drop] at hi
      have hpl : (xs.take p ++ ys).length = p + ys.length := by simp; omega
      rw [hpl, show p + ys.length + (i - (p + ys.length)) = i by omega] at hi
      obtain ⟨h3, h4⟩ := h.2 i x hi
      refine ⟨h3, fun j c hjc => ?_⟩
      obtain ⟨u, h5, h6⟩ := h4 j c hjc
      refine ⟨u, ?_, h6⟩
      have hm2 : (p + ys.length) * te.size ≤ i * te.size := Nat.mul_le_mul_right _ (by omega)
      have hm3 : (p + ys.length) * te.size = p * te.size + new.size := by rw [hn, Nat.add_mul]
      show (splice cs new (p * te.size))[i * te.size + j]? = some u
      rw [h2, if_neg (by omega), if_neg (by omega)]; exact h5
theorem setCells_splice {xs ys : List AV} {p : Nat} (h : p + ys.length ≤ xs.length) : setCells xs p ys = xs.take p ++ ys ++ xs.drop (p + ys.length) := by
  obtain ⟨h1, h2⟩ := setCells_get ys xs p h
  apply List.ext_getElem?
  intro q
  rw [h2]
  have hl : (xs.take p).length = p := by simp; omega
  by_cases c1 : p ≤ q ∧ q < p + ys.length
  · rw [if_pos c1, List.append_assoc, List.getElem?_append_right (by omega), hl, List.getElem?_append_left (by omega)]
  · rw [if_neg c1]
    by_cases c2 : q < p
    · rw [List.append_assoc, List.getElem?_append_left (by omega), List.getElem?_take, if_pos c2]
    · rw [List.getElem?_append_right (by simp; omega), List.getElem?_drop]
      have hpl : (xs.take p ++ ys).length = p + ys.length := by simp; omega
      rw [hpl, show p + ys.length + (q - (p + ys.length)) = q by omega]
theorem load_row {te : TI} {b off : Nat} {ys : List AV} (hm : ∀ (i : Nat) y, ys[i]? = some y → y.cells.length = te.size ∧ MemR g (fun q => w.cell? ⟨b, q, none⟩) (off + i * te.size) y) :
    ∃ cs : Array Value, (∀ w1, Grow w w1 → (loadCells ⟨b, off, none⟩ (ys.length * te.size)).run P w1 = .ok cs w1) ∧ RowC g te ys cs ∧ ∀ v ∈ cs.toList, v.oneCell' = true := by
  have hc : ∀ q, q < ys.length * te.size → ∃ u, w.cell? ⟨b, off + q, none⟩ = some u ∧ u.oneCell' = true := by
    intro q hq
    have hpos : 0 < te.size := by
      rcases Nat.eq_zero_or_pos te.size with h | h
      · rw [h] at hq; simp at hq
      · exact h
    have hi : q / te.size < ys.length := Nat.div_lt_of_lt_mul (by rw [Nat.mul_comm]; exact hq)
    obtain ⟨h1, h2⟩ := hm (q / te.size) _ (List.getElem?_eq_getElem hi)
    have hjl : q % te.size < (ys[q / te.size]).cells.length := by rw [h1]; exact Nat.mod_lt _ hpos
    obtain ⟨u, h3, h4, _⟩ := h2 (q % te.size) _ (List.getElem?_eq_getElem hjl)
    refine ⟨u, ?_, h4⟩
    have := Nat.div_add_mod q te.size
    rw [show off + q = off + q / te.size * te.size + q % te.size by rw [Nat.mul_comm (q / te.size)]; omega]
    exact h3
  refine ⟨_, fun w1 hg1 => run_loadCells w1 ⟨b, off, none⟩ (ys.length * te.size) (fun j => (w.cell? ⟨b, off + j, none⟩).getD undef) (fun j hj => by
    obtain ⟨u, h1, _⟩ := hc j hj
    rw [cells_add, cell_of_heap (hg1.heap b (cell_lt h1)), h1]; rfl), ⟨by simp, fun i y hi => ?_⟩, fun v hv => ?_⟩
  · obtain ⟨h1, h2⟩ := hm i y hi
    refine ⟨h1, fun j c hj => ?_⟩
    obtain ⟨u, h3, h4⟩ := h2 j c hj
    refine ⟨u, ?_, h4⟩
    have hil : i < ys.length := by
      rcases Nat.lt_or_ge i ys.length with h | h
      · exact h
      · rw [List.getElem?_eq_none h] at hi; cases hi
    have hjl : j < te.size := by
      rw [← h1]
      rcases Nat.lt_or_ge j y.cells.length with h | h
      · exact h
      · rw [List.getElem?_eq_none h] at hj; cases hj
    have hlt : i * te.size + j < ys.length * te.size := by
      have : (i + 1) * te.size ≤ ys.length * te.size := Nat.mul_le_mul_right _ hil
      rw [Nat.succ_mul] at this; omega
    have h3' : w.cell? ⟨b, off + (i * te.size + j), none⟩ = some u := by rw [← Nat.add_assoc]; exact h3
    simp [hlt, h3']
  · simp only [List.mem_map, List.mem_range] at hv
    obtain ⟨q, hq, rfl⟩ := hv
    obtain ⟨u, h1, h2⟩ := hc q hq
    rw [h1]; exact h2
theorem first_run (hr : HR g σ w) {te : TI} (hp : 1 ≤ te.size) {x : AV} {v : Value} {ys : List AV} (hx : VR g x v) (h : elemsM te x σ = some (ys, σ')) :
    σ' = σ ∧ (Builtin.lenOf v).run P w = .ok ys.length w ∧ ∃ cs, (∀ w1, Grow w w1 → (Builtin.firstCells te.size ys.length v).run P w1 = .ok cs w1) ∧ RowC g te ys cs ∧ ∀ u ∈ cs.toList, u.oneCell' = true := by
  obtain ⟨h1, h2⟩ := elems_mem hr hx h
  refine ⟨h1, ?_⟩
  rcases h2 with ⟨bs, rfl, hs, rfl⟩ | ⟨rfl, rfl⟩ | ⟨ad, cap, rfl, hl, h2⟩
  · have hsz : bs.size = bs.data.toList.length := (Array.length_toList).symm
    have hlen : (ofBytes bs.data.toList).length = bs.size := by simp only [ofBytes, List.length_map]; omega
    refine ⟨by rw [hlen]; rfl, _, fun w1 _ => rfl, ⟨?_, fun i y hi => ?_⟩, fun u hu => ?_⟩
    · rw [hlen, hs]
      simp only [Array.size_map, Nat.mul_one]
      have : (bs.extract 0 bs.size) = bs := by apply ByteArray.ext; simp [ByteArray.data_extract]
      rw [this]; rfl
    · obtain ⟨c, h3, rfl⟩ := (ofBytes_get _ _ _).1 hi
      refine ⟨by rw [hs]; rfl, fun j c' hj => ?_⟩
      cases j with
      | succ j => simp [AV.cells] at hj
      | zero =>
        simp [AV.cells] at hj; subst hj
        refine ⟨.int .u8 c.toNat, ?_, rfl, VR_int.2 rfl⟩
        rw [hlen, hs]
        have : (bs.extract 0 bs.size) = bs := by apply ByteArray.ext; simp [ByteArray.data_extract]
        rw [this]
        simp only [Nat.mul_one, Nat.add_zero, Array.getElem?_map]
        rw [Array.getElem?_toList] at h3
        rw [h3]; rfl
    · simp only [Array.toList_map, List.mem_map] at hu
      obtain ⟨c, _, rfl⟩ := hu
      rfl
  · exact ⟨rfl, #[], fun w1 _ => rfl, ⟨by simp, fun i y hi => by simp at hi⟩, fun u hu => by simp at hu⟩
  · refine ⟨rfl, ?_⟩
    rcases h2 with rfl | ⟨b, off, rfl, h2⟩
    · cases ad with
      | none => exact ⟨#[], fun w1 _ => rfl, ⟨by simp, fun i y hi => by simp at hi⟩, fun u hu => by simp at hu⟩
      | some ad => exact ⟨#[], fun w1 _ => by simp [Builtin.firstCells, loadCells, loadCellsFrom], ⟨by simp, fun i y hi => by simp at hi⟩, fun u hu => by simp at hu⟩
    · obtain ⟨cs, h3, h4, h5⟩ := load_row (P := P) h2
      exact ⟨cs, h3, h4, h5⟩
theorem HR.grown (hr : HR g σ w) {r : Nat} {sz : Nat} {xs ys : List AV} {b b' N N' : Nat} {cs : Array Value} {el : Nat} (hs : σ[r]? = some (.arr false sz xs)) (hloc : g.loc r xs.length = some (b, sz, N))
    (hlt : xs.length < ys.length) (hnew : b' = b ∨ w.heap.size ≤ b') (hw : w'.heap[b']? = some (.cells cs el (0, 0))) (hN : cs.size = N') (hrow : RowR g sz ys cs)
    (hh : ∀ q, q ≠ b' → q < w.heap.size → w'.heap[q]? = w.heap[q]?) (hsz : w.heap.size ≤ w'.heap.size) (hos : w'.os = w.os) (htape : w'.tape = w.tape) (hout : w'.output = w.output) :
    ∃ g', HR g' (σ.set r (.arr false sz ys)) w' ∧ Step w.heap.size g σ w g' (σ.set r (.arr false sz ys)) w' ∧ g'.loc r ys.length = some (b', sz, N') := by
  have hrl : r < σ.length := (List.getElem?_eq_some_iff.1 hs).1
  have hstale : g.loc r ys.length = none := by
    cases h : g.loc r ys.length with
    | none => rfl
    | some p => have := hr.top r _ _ p hs h; simp only [HObj.ver] at this; omega
  have hle := G.addLoc_le (p := (b', sz, N')) hstale
  have hself := G.addLoc_self (g := g) (r := r) (v' := ys.length) (p := (b', sz, N'))
  obtain ⟨h1, h2⟩ := hr.upd (σ' := σ.set r (.arr false sz ys)) (o := .arr false sz ys) (r := r) (b := b') (w' := w') hle rfl
    (fun q hq => List.getElem?_set_ne (Ne.symm hq)) (by rw [List.getElem?_set_self hrl])
    ⟨b', N', cs, el, (0, 0), hself, hw, hN, by rw [← hN]; exact hrow.1, fun i x hi => ⟨(hrow.2 i x hi).1, (hrow.2 i x hi).2.mono hle⟩, fun _ => rfl, fun h => by cases h⟩ rfl (by simp [blk, HObj.ver, hself])
    (by
      rcases hnew with rfl | h
      · exact .inl ⟨_, hs, rfl, by simp [blk, HObj.ver, hloc]⟩
      · exact .inr h)
    hh hsz
    (by simpa using hrl) (by simp) (fun q v' p hp => by
      simp only [G.addLoc] at hp
      split at hp
      · rename_i hc; exact .inr hc
      · exact .inl hp) (fun o0 h0 => by rw [hs] at h0; cases h0; exact Nat.le_of_lt hlt) hos htape hout
  exact ⟨_, h1, h2, hself⟩
end Go.Am
