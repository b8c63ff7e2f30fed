/- E6h, W1, W2, W3, W4, W5, W6, W7, as one -/
import Derived.Test.YtdapcelbbejfoaaEA
import Derived.Test.YtdapcelbbejfoaaQA
import Derived.Test.YtdapcelbbejfoaaP24
import Derived.Test.YtdapcelbbejfoaaPData
import Derived.ProofKit
set_option linter.unusedVariables false
set_option maxRecDepth 100000
set_option linter.unusedSimpArgs false
namespace Go.Am.Try
open Go Go.Am.Ps
theorem heads_ans : Ans ctx 38 [] (.str headsS) := by
 refine Ans.of (σ' := []) fn38_ (by simp) (by simp) ⟨0, fun N hN => ?_⟩
 simp -implicitDefEqProofs [i38, c38, headsS]
end Go.Am.Try
namespace Go.Am.Ps
def begX : List Tok → Bool
 | [] => false
 | t :: _ => Nat.beq t.k 1 || (Nat.beq t.k 2 || (Nat.beq t.k 3 || ((Nat.beq t.k 4 && eqS t.s sTrue) || ((Nat.beq t.k 4 && eqS t.s sFalse) || (Nat.beq t.k 5 && eqS t.s sOpen)))))
theorem atomic_eq (j a : Nat) (r : List Tok) : (⟨j, r, false, a⟩ : PS).atomic = begX r := by
 cases r with
 | nil => rfl
 | cons t r => simp [PS.atomic, PS.peek, begX, sOpen, sTrue, sFalse]
theorem peek_kw (j a k : Nat) (t : Tok) (r : List Tok) (c : UInt8) (s : Str) : (⟨j, t :: r, false, a⟩ : PS).peek k (c :: s) = (Nat.beq t.k k && eqS t.s (c :: s)) := by
 simp [PS.peek]
theorem peek_k (j a k : Nat) (t : Tok) (r : List Tok) : (⟨j, t :: r, false, a⟩ : PS).peek k [] = Nat.beq t.k k := by
 simp [PS.peek]
theorem nx (j a : Nat) (t : Tok) (r : List Tok) : (⟨j, t :: r, false, a⟩ : PS).next = ⟨j + 1, r, false, a⟩ := rfl
theorem begX_no {t : Tok} {r : List Tok} (h : begX (t :: r) = true) (j a : Nat) : (⟨j, t :: r, false, a⟩ : PS).peek 5 sLam = false ∧ (⟨j, t :: r, false, a⟩ : PS).peek 4 sLet = false ∧ (⟨j, t :: r, false, a⟩ : PS).peek 4 sIf = false ∧ (⟨j, t :: r, false, a⟩ : PS).peek 4 sCase = false := by
 unfold sLam sLet sIf sCase
 rw [peek_kw, peek_kw, peek_kw, peek_kw]
 simp only [begX, Bool.or_eq_true, Bool.and_eq_true, Nat.beq_eq] at h
 have e : ∀ a b : Str, eqS a b = true → a = b := fun a b h => by rw [eqS_dec] at h; exact of_decide_eq_true h
 rcases h with h | h | h | ⟨h, h2⟩ | ⟨h, h2⟩ | ⟨h, h2⟩
 ·simp [h]
 ·simp [h]
 ·simp [h]
 ·rw [h, e _ _ h2]; decide
 ·rw [h, e _ _ h2]; decide
 ·rw [h, e _ _ h2]; decide
variable (E : Nat)
theorem expr_atoms (n j a : Nat) (t : Tok) (r : List Tok) (h : begX (t :: r) = true) : expr E (n + 1) ⟨j, t :: r, false, a⟩ = apps E n (atom E n ⟨j, t :: r, false, a⟩).1 (atom E n ⟨j, t :: r, false, a⟩).2 := by
 obtain ⟨h1, h2, h3, h4⟩ := begX_no h j a
 conv => lhs; unfold expr
 simp only [h1, h2, h3, h4, Bool.false_eq_true, if_false]
theorem apps_end (n j a : Nat) (e : Ex) (r : List Tok) (h : begX r = false) : apps E n e ⟨j, r, false, a⟩ = (e, ⟨j, r, false, a⟩) := by
 have ha : (⟨j, r, false, a⟩ : PS).atomic = false := by rw [atomic_eq]; exact h
 cases n with
 | zero => rfl
 | succ n => simp only [apps, ha]
theorem apps_more (n j a : Nat) (e : Ex) (r : List Tok) (h : begX r = true) {x : Ex} {p : PS} (hx : atom E n ⟨j, r, false, a⟩ = (x, p)) : ∃ b, apps E (n + 1) e ⟨j, r, false, a⟩ = apps E n (.mk 5 b [] 0 [e, x] []) p := by
 have ha : (⟨j, r, false, a⟩ : PS).atomic = true := by rw [atomic_eq]; exact h
 obtain ⟨k, b, s, m, ks, as⟩ := e
 refine ⟨b, ?_⟩
 conv => lhs; unfold apps
 simp only [ha, hx]
theorem atom_name (n j a : Nat) (t : Tok) (r : List Tok) (hk : t.k = 1) : atom E (n + 1) ⟨j, t :: r, false, a⟩ = (.mk 1 t.at_ t.s 0 [] [], ⟨j + 1, r, false, a⟩) := by
 have ha : (⟨j, t :: r, false, a⟩ : PS).atomic = true := by rw [atomic_eq]; simp [begX, hk]
 conv => lhs; unfold atom
 simp only [ha, hk, nx]
theorem atom_con (n j a : Nat) (t : Tok) (r : List Tok) (hk : t.k = 2) : atom E (n + 1) ⟨j, t :: r, false, a⟩ = (.mk 2 t.at_ t.s 0 [] [], ⟨j + 1, r, false, a⟩) := by
 have ha : (⟨j, t :: r, false, a⟩ : PS).atomic = true := by rw [atomic_eq]; simp [begX, hk]
 conv => lhs; unfold atom
 simp only [ha, hk, nx]
theorem atom_int (n j a : Nat) (t : Tok) (r : List Tok) (hk : t.k = 3) : atom E (n + 1) ⟨j, t :: r, false, a⟩ = (.mk 3 t.at_ [] t.n [] [], ⟨j + 1, r, false, a⟩) := by
 have ha : (⟨j, t :: r, false, a⟩ : PS).atomic = true := by rw [atomic_eq]; simp [begX, hk]
 conv => lhs; unfold atom
 simp only [ha, hk, nx]
theorem atom_bool (n j a : Nat) (t : Tok) (r : List Tok) (hk : t.k = 4) (hs : t.s = sTrue ∨ t.s = sFalse) : atom E (n + 1) ⟨j, t :: r, false, a⟩ = (.mk 4 t.at_ [] (cond (eqS t.s sTrue) 1 0) [] [], ⟨j + 1, r, false, a⟩) := by
 have ha : (⟨j, t :: r, false, a⟩ : PS).atomic = true := by
  rw [atomic_eq]
  rcases hs with h | h
  ·simp only [begX, hk, h]; decide
  ·simp only [begX, hk, h]; decide
 conv => lhs; unfold atom
 simp only [ha, hk, nx]
theorem rest_end (n k j a : Nat) (r : List Tok) (h : isSg sCom r = false) : rest E (n + 1) k ⟨j, r, false, a⟩ = (some [], ⟨j, r, false, a⟩) := by
 have hp : (⟨j, r, false, a⟩ : PS).peek 5 sCom = false := by unfold sCom at h ⊢; rw [peek_sg]; exact h
 simp only [rest, hp]
theorem rest_more (n k j a : Nat) (t : Tok) (r : List Tok) (h : isSg sCom (t :: r) = true) (hk : k ≠ 8) {x : Ex} {p : PS} (hx : expr E n ⟨j + 1, r, false, a⟩ = (x, p)) {l : List Ex} {q : PS} (hl : rest E n (k + 1) p = (some l, q)) : rest E (n + 1) k ⟨j, t :: r, false, a⟩ = (some (x :: l), q) := by
 have hp : (⟨j, t :: r, false, a⟩ : PS).peek 5 sCom = true := by unfold sCom at h ⊢; rw [peek_sg]; exact h
 have hk' : ¬ (Nat.beq k 8 = true) := by rw [Nat.beq_eq]; exact hk
 simp only [rest, hp, if_neg hk', nx, hx, hl]
theorem atom_open (n j a : Nat) (t : Tok) (r : List Tok) (hk : t.k = 5) (hs : t.s = sOpen) {x : Ex} {p : PS} (hx : expr E n ⟨j + 1, r, false, a⟩ = (x, p)) {l : List Ex} {j' : Nat} {u : Tok} {r' : List Tok} (hl : rest E n 1 p = (some l, ⟨j', u :: r', false, a⟩)) (hu : isSg sClose (u :: r') = true) :
  atom E (n + 1) ⟨j, t :: r, false, a⟩ = ((match l with | [] => x | _ => .mk 8 t.at_ [] 0 (x :: l) []), ⟨j' + 1, r', false, a⟩) := by
 have ha : (⟨j, t :: r, false, a⟩ : PS).atomic = true := by rw [atomic_eq]; simp only [begX, hk, hs]; decide
 conv => lhs; unfold atom
 cases l with
 | nil => simp only [ha, hk, nx, hx, hl, sign_close E j' a u r' hu]
 | cons y l => simp only [ha, hk, nx, hx, hl, sign_close E j' a u r' hu]
theorem eat_w (j a : Nat) (c : UInt8) (s : Str) (t : Tok) (r : List Tok) (hk : t.k = 4) (hs : t.s = c :: s) : (⟨j, t :: r, false, a⟩ : PS).eat E 4 (c :: s) = (t, ⟨j + 1, r, false, a⟩) := by
 have hp : (⟨j, t :: r, false, a⟩ : PS).peek 4 (c :: s) = true := by
  rw [peek_kw, hk, hs, eqS_dec]; simp
 simp only [PS.eat, hp]
 rfl
theorem expr_lam (n j a : Nat) (t x : Tok) (l : List Tok) (u : Tok) (r : List Tok) (hk : t.k = 5) (hs : t.s = sLam) (hx : x.k = 1) (hl : ∀ z ∈ l, z.k = 1) (hu : isSg sArr (u :: r) = true) {e : Ex} {p : PS} (he : expr E n ⟨j + 1 + 1 + l.length + 1, r, false, a⟩ = (e, p)) :
  expr E (n + 1) ⟨j, t :: (x :: (l ++ u :: r)), false, a⟩ = (lams t.at_ (x :: l) e, p) := by
 have h1 : (⟨j, t :: (x :: (l ++ u :: r)), false, a⟩ : PS).peek 5 sLam = true := by
  unfold sLam; rw [peek_kw, hk, hs]; decide
 have huk : u.k = 5 := by simp only [isSg, Bool.and_eq_true, Nat.beq_eq] at hu; exact hu.1
 have hnm := names_all a (j + 1 + 1) l (u :: r) hl (by simp only [huk]; decide)
 have hsg := sign_s E (j + 1 + 1 + l.length) a 45 [62] u r hu
 have heat := eat_k E (j + 1) a 1 x (l ++ u :: r) hx
 conv => lhs; unfold expr
 simp only [h1, if_true, nx, heat, hnm]
 simp only [sArr]
 simp only [hsg, he]
theorem expr_let (n j a : Nat) (t x : Tok) (l : List Tok) (u : Tok) (r : List Tok) (hk : t.k = 4) (hs : t.s = sLet) (hx : x.k = 1) (hl : ∀ z ∈ l, z.k = 1) (hu : isSg sEq (u :: r) = true) {d : Ex} {j1 : Nat} {v : Tok} {r1 : List Tok} (hd : expr E n ⟨j + 1 + 1 + l.length + 1, r, false, a⟩ = (d, ⟨j1, v :: r1, false, a⟩)) (hv : v.k = 4) (hvs : v.s = sIn) {b : Ex} {p : PS} (hb : expr E n ⟨j1 + 1, r1, false, a⟩ = (b, p)) :
  expr E (n + 1) ⟨j, t :: (x :: (l ++ u :: r)), false, a⟩ = (.mk 7 t.at_ x.s 0 [lams x.at_ l d, b] [], p) := by
 have h1 : (⟨j, t :: (x :: (l ++ u :: r)), false, a⟩ : PS).peek 5 sLam = false := by
  unfold sLam; rw [peek_kw, hk]; rfl
 have h2 : (⟨j, t :: (x :: (l ++ u :: r)), false, a⟩ : PS).peek 4 sLet = true := by
  unfold sLet; rw [peek_kw, hk, hs]; decide
 have huk : u.k = 5 := by simp only [isSg, Bool.and_eq_true, Nat.beq_eq] at hu; exact hu.1
 have hnm := names_all a (j + 1 + 1) l (u :: r) hl (by simp only [huk]; decide)
 have hsg := sign_s E (j + 1 + 1 + l.length) a 61 [] u r hu
 have heat := eat_k E (j + 1) a 1 x (l ++ u :: r) hx
 have hin := eat_w E j1 a 105 [110] v r1 hv hvs
 conv => lhs; unfold expr
 simp only [h1, h2, Bool.false_eq_true, if_false, if_true, nx, heat, hnm]
 simp only [sEq, sIn]
 simp only [hsg, hd, hin, hb]
theorem expr_if (n j a : Nat) (t : Tok) (r : List Tok) (hk : t.k = 4) (hs : t.s = sIf) {c : Ex} {j1 : Nat} {v : Tok} {r1 : List Tok} (hc : expr E n ⟨j + 1, r, false, a⟩ = (c, ⟨j1, v :: r1, false, a⟩)) (hv : v.k = 4) (hvs : v.s = sThen) {d : Ex} {j2 : Nat} {w : Tok} {r2 : List Tok} (hd : expr E n ⟨j1 + 1, r1, false, a⟩ = (d, ⟨j2, w :: r2, false, a⟩)) (hw : w.k = 4) (hws : w.s = sElse) {e : Ex} {p : PS} (he : expr E n ⟨j2 + 1, r2, false, a⟩ = (e, p)) :
  expr E (n + 1) ⟨j, t :: r, false, a⟩ = (.mk 9 t.at_ [] 0 [c, d, e] [], p) := by
 have h1 : (⟨j, t :: r, false, a⟩ : PS).peek 5 sLam = false := by unfold sLam; rw [peek_kw, hk]; rfl
 have h2 : (⟨j, t :: r, false, a⟩ : PS).peek 4 sLet = false := by unfold sLet; rw [peek_kw, hk, hs]; decide
 have h3 : (⟨j, t :: r, false, a⟩ : PS).peek 4 sIf = true := by unfold sIf; rw [peek_kw, hk, hs]; decide
 have q1 := eat_w E j1 a 116 [104, 101, 110] v r1 hv hvs
 have q2 := eat_w E j2 a 101 [108, 115, 101] w r2 hw hws
 conv => lhs; unfold expr
 simp only [h1, h2, h3, Bool.false_eq_true, if_false, if_true, nx, hc]
 simp only [sThen, sElse]
 simp only [q1, hd, q2, he]
theorem alt_of (n j a : Nat) (c : Tok) (l : List Tok) (u : Tok) (r : List Tok) (hc : c.k = 2) (hl : ∀ z ∈ l, z.k = 1) (hu : isSg sArr (u :: r) = true) {e : Ex} {p : PS} (he : expr E n ⟨j + 1 + l.length + 1, r, false, a⟩ = (e, p)) :
  alt E (n + 1) ⟨j, c :: (l ++ u :: r), false, a⟩ = (.mk c.at_ c.s (l.map (·.s)) e, p) := by
 have huk : u.k = 5 := by simp only [isSg, Bool.and_eq_true, Nat.beq_eq] at hu; exact hu.1
 have hnm := names_all a (j + 1) l (u :: r) hl (by simp only [huk]; decide)
 have hsg := sign_s E (j + 1 + l.length) a 45 [62] u r hu
 have heat := eat_k E j a 2 c (l ++ u :: r) hc
 conv => lhs; unfold alt
 simp only [heat, hnm]
 simp only [sArr]
 simp only [hsg, he]
theorem alts_end (n j a : Nat) (r : List Tok) (h : isSg sSemi r = false) : alts E n ⟨j, r, false, a⟩ = ([], ⟨j, r, false, a⟩) := by
 cases n with
 | zero => rfl
 | succ n =>
  have hp : (⟨j, r, false, a⟩ : PS).peek 5 sSemi = false := by unfold sSemi at h ⊢; rw [peek_sg]; exact h
  simp only [alts, hp]
theorem alts_more (n j a : Nat) (t : Tok) (r : List Tok) (h : isSg sSemi (t :: r) = true) {x : Al} {p : PS} (hx : alt E n ⟨j + 1, r, false, a⟩ = (x, p)) {l : List Al} {q : PS} (hl : alts E n p = (l, q)) : alts E (n + 1) ⟨j, t :: r, false, a⟩ = (x :: l, q) := by
 have hp : (⟨j, t :: r, false, a⟩ : PS).peek 5 sSemi = true := by unfold sSemi at h ⊢; rw [peek_sg]; exact h
 simp only [alts, hp, nx, hx, hl]
theorem expr_case (n j a : Nat) (t : Tok) (r : List Tok) (hk : t.k = 4) (hs : t.s = sCase) {c : Ex} {j1 : Nat} {v o : Tok} {r1 : List Tok} (hc : expr E n ⟨j + 1, r, false, a⟩ = (c, ⟨j1, v :: (o :: r1), false, a⟩)) (hv : v.k = 4) (hvs : v.s = sOf) (ho : isSg sBrO (o :: r1) = true) {x : Al} {p : PS} (hx : alt E n ⟨j1 + 1 + 1, r1, false, a⟩ = (x, p)) {l : List Al} {j2 : Nat} {w : Tok} {r2 : List Tok} (hl : alts E n p = (l, ⟨j2, w :: r2, false, a⟩)) (hw : isSg sBrC (w :: r2) = true) :
  expr E (n + 1) ⟨j, t :: r, false, a⟩ = (.mk 10 t.at_ [] 0 [c] (x :: l), ⟨j2 + 1, r2, false, a⟩) := by
 have h1 : (⟨j, t :: r, false, a⟩ : PS).peek 5 sLam = false := by unfold sLam; rw [peek_kw, hk]; rfl
 have h2 : (⟨j, t :: r, false, a⟩ : PS).peek 4 sLet = false := by unfold sLet; rw [peek_kw, hk, hs]; decide
 have h3 : (⟨j, t :: r, false, a⟩ : PS).peek 4 sIf = false := by unfold sIf; rw [peek_kw, hk, hs]; decide
 have h4 : (⟨j, t :: r, false, a⟩ : PS).peek 4 sCase = true := by unfold sCase; rw [peek_kw, hk, hs]; decide
 have q1 := eat_w E j1 a 111 [102] v (o :: r1) hv hvs
 have q2 := sign_s E (j1 + 1) a 123 [] o r1 ho
 have q3 := sign_s E j2 a 125 [] w r2 hw
 conv => lhs; unfold expr
 simp only [h1, h2, h3, h4, Bool.false_eq_true, if_false, if_true, nx, hc]
 simp only [sOf, sBrO, sBrC]
 simp only [q1, q2, hx, hl, q3]
theorem decl_let (n j a : Nat) (out : Pg) (t x : Tok) (l : List Tok) (u : Tok) (r : List Tok) (hk : t.k = 4) (hs : t.s = sLet) (hx : x.k = 1) (hl : ∀ z ∈ l, z.k = 1) (hu : isSg sEq (u :: r) = true) {d : Ex} {j1 : Nat} {v : Tok} {r1 : List Tok} (hd : expr E n ⟨j + 1 + 1 + l.length + 1, r, false, a⟩ = (d, ⟨j1, v :: r1, false, a⟩)) (hv : isSg sSemi (v :: r1) = true) :
  decl E n out ⟨j, t :: (x :: (l ++ u :: r)), false, a⟩ = ({ out with bs := out.bs ++ [⟨x.s, x.at_, lams x.at_ l d⟩] }, ⟨j1 + 1, r1, false, a⟩) := by
 have h1 : (⟨j, t :: (x :: (l ++ u :: r)), false, a⟩ : PS).peek 4 sData = false := by
  unfold sData; rw [peek_kw, hk, hs]; decide
 have huk : u.k = 5 := by simp only [isSg, Bool.and_eq_true, Nat.beq_eq] at hu; exact hu.1
 have hnm := names_all a (j + 1 + 1) l (u :: r) hl (by simp only [huk]; decide)
 have hsg := sign_s E (j + 1 + 1 + l.length) a 61 [] u r hu
 have heat := eat_k E (j + 1) a 1 x (l ++ u :: r) hx
 have hlet := eat_w E j a 108 [101, 116] t (x :: (l ++ u :: r)) hk hs
 have hse := sign_s E j1 a 59 [] v r1 hv
 unfold decl
 simp only [h1]
 simp only [sLet, sEq, sSemi]
 simp only [hlet, heat, hnm, hsg, hd, hse]
end Go.Am.Ps
namespace Go.Am.Ps
mutual
def bareE : Ex → Ex
 | .mk k _ s n ks as => .mk k 0 s n (bareEs ks) (bareAs as)
def bareEs : List Ex → List Ex
 | [] => []
 | e :: l => bareE e :: bareEs l
def bareAs : List Al → List Al
 | [] => []
 | .mk _ c ns b :: l => .mk 0 c ns (bareE b) :: bareAs l
end
def lamsB : List Str → Ex → Ex
 | [], b => b
 | s :: l, b => .mk 6 0 s 0 [lamsB l b] []
theorem bare_lams (a : Nat) : ∀ (l : List Tok) (e : Ex), bareE (lams a l e) = lamsB (l.map (·.s)) (bareE e)
 | [], e => rfl
 | t :: l, e => by
  rw [lams, bareE, bareEs, bare_lams a l e]
  rfl
theorem no_sg {u : Tok} {c : UInt8} (hk : u.k = 5) (hs : u.s = [c]) (h : c ≠ 40) (R : List Tok) : begX (u :: R) = false := by
 have : eqS [c] sOpen = false := by
  rw [eqS_dec]
  simp [sOpen, h]
 simp [begX, hk, hs, this]
 decide
theorem no_w {u : Tok} (hk : u.k = 4) (h1 : u.s ≠ sTrue) (h2 : u.s ≠ sFalse) (R : List Tok) : begX (u :: R) = false := by
 simp [begX, hk, eqS_dec, h1, h2]
 decide
theorem is_sg {u : Tok} {s : Str} (hk : u.k = 5) (hs : u.s = s) (R : List Tok) : isSg s (u :: R) = true := by
 simp [isSg, hk, hs, eqS_dec]
theorem not_sg {u : Tok} {s : Str} (hs : u.s ≠ s) (R : List Tok) : isSg s (u :: R) = false := by
 simp [isSg, hs, eqS_dec]
def XP (ts : List Tok) (X : Ex) : Prop := ∀ n, 8 * ts.length ≤ n → ∀ (E : Nat) (R : List Tok) (j a : Nat), begX R = false → ∃ e j', expr E n ⟨j, ts ++ R, false, a⟩ = (e, ⟨j', R, false, a⟩) ∧ bareE e = X
def YP (ts : List Tok) (X : Ex) : Prop := begX ts = true ∧ ∀ n, 8 * ts.length ≤ n + 4 → ∀ (E : Nat) (R : List Tok) (j a : Nat), ∃ e j', atom E n ⟨j, ts ++ R, false, a⟩ = (e, ⟨j', R, false, a⟩) ∧ bareE e = X
theorem begX_app {ts : List Tok} (h : begX ts = true) (R : List Tok) : begX (ts ++ R) = true := by
 cases ts with
 | nil => cases h
 | cons t ts => exact h
theorem begX_cons {ts : List Tok} (h : begX ts = true) : ∃ t r, ts = t :: r := by
 cases ts with
 | nil => cases h
 | cons t ts => exact ⟨t, ts, rfl⟩
theorem YP_name {t : Tok} (hk : t.k = 1) : YP [t] (.mk 1 0 t.s 0 [] []) := by
 refine ⟨by simp [begX, hk], fun n hn E R j a => ?_⟩
 obtain ⟨n, rfl⟩ : ∃ m, n = m + 1 := ⟨n - 1, by simp at hn; omega⟩
 exact ⟨_, _, atom_name E n j a t R hk, rfl⟩
theorem YP_con {t : Tok} (hk : t.k = 2) : YP [t] (.mk 2 0 t.s 0 [] []) := by
 refine ⟨by simp [begX, hk], fun n hn E R j a => ?_⟩
 obtain ⟨n, rfl⟩ : ∃ m, n = m + 1 := ⟨n - 1, by simp at hn; omega⟩
 exact ⟨_, _, atom_con E n j a t R hk, rfl⟩
theorem YP_int {t : Tok} (hk : t.k = 3) : YP [t] (.mk 3 0 [] t.n [] []) := by
 refine ⟨by simp [begX, hk], fun n hn E R j a => ?_⟩
 obtain ⟨n, rfl⟩ : ∃ m, n = m + 1 := ⟨n - 1, by simp at hn; omega⟩
 exact ⟨_, _, atom_int E n j a t R hk, rfl⟩
theorem YP_bool {t : Tok} (hk : t.k = 4) (hs : t.s = sTrue ∨ t.s = sFalse) : YP [t] (.mk 4 0 [] (cond (eqS t.s sTrue) 1 0) [] []) := by
 refine ⟨?_, fun n hn E R j a => ?_⟩
 ·rcases hs with h | h
  ·simp only [begX, hk, h]; decide
  ·simp only [begX, hk, h]; decide
 ·obtain ⟨n, rfl⟩ : ∃ m, n = m + 1 := ⟨n - 1, by simp at hn; omega⟩
  exact ⟨_, _, atom_bool E n j a t R hk hs, rfl⟩
theorem XP_of {ts : List Tok} {X : Ex} (h : YP ts X) : XP ts X := by
 obtain ⟨hb, h⟩ := h
 intro n hn E R j a hR
 obtain ⟨t, r, rfl⟩ := begX_cons hb
 obtain ⟨n, rfl⟩ : ∃ m, n = m + 1 := ⟨n - 1, by simp at hn; omega⟩
 obtain ⟨e, j1, h1, h2⟩ := h n (by simp at hn ⊢; omega) E R j a
 refine ⟨e, j1, ?_, h2⟩
 rw [List.cons_append] at h1 ⊢
 rw [expr_atoms E n j a t (r ++ R) hb, h1]
 exact apps_end E n j1 a e R hR
theorem XP_app2 {ts us : List Tok} {X Y : Ex} (h : YP ts X) (h' : YP us Y) : XP (ts ++ us) (.mk 5 0 [] 0 [X, Y] []) := by
 obtain ⟨hb, h⟩ := h
 obtain ⟨hb', h'⟩ := h'
 intro n hn E R j a hR
 obtain ⟨t, r, rfl⟩ := begX_cons hb
 obtain ⟨t', r', rfl⟩ := begX_cons hb'
 simp only [List.length_append, List.length_cons] at hn h h'
 obtain ⟨n, rfl⟩ : ∃ m, n = m + 2 := ⟨n - 2, by omega⟩
 obtain ⟨e, j1, h1, h2⟩ := h (n + 1) (by omega) E (t' :: r' ++ R) j a
 obtain ⟨e', j2, k1, k2⟩ := h' n (by omega) E R j1 a
 have e1 : t :: r ++ t' :: r' ++ R = t :: (r ++ (t' :: r' ++ R)) := by simp
 have h1 : atom E (n + 1) ⟨j, t :: (r ++ (t' :: r' ++ R)), false, a⟩ = (e, ⟨j1, t' :: r' ++ R, false, a⟩) := h1
 rw [e1]
 obtain ⟨b, q⟩ := apps_more E n j1 a e (t' :: r' ++ R) (begX_app hb' R) k1
 refine ⟨_, _, (expr_atoms E (n + 1) j a t (r ++ (t' :: r' ++ R)) hb).trans (by rw [h1]; exact q.trans (apps_end E n j2 a _ R hR)), ?_⟩
 simp only [bareE, bareEs, bareAs, h2, k2]
theorem XP_app3 {ts us ws : List Tok} {X Y Z : Ex} (h : YP ts X) (h' : YP us Y) (h'' : YP ws Z) : XP (ts ++ us ++ ws) (.mk 5 0 [] 0 [.mk 5 0 [] 0 [X, Y] [], Z] []) := by
 obtain ⟨hb, h⟩ := h
 obtain ⟨hb', h'⟩ := h'
 obtain ⟨hb'', h''⟩ := h''
 intro n hn E R j a hR
 obtain ⟨t, r, rfl⟩ := begX_cons hb
 obtain ⟨t', r', rfl⟩ := begX_cons hb'
 obtain ⟨t'', r'', rfl⟩ := begX_cons hb''
 simp only [List.length_append, List.length_cons] at hn h h' h''
 obtain ⟨n, rfl⟩ : ∃ m, n = m + 3 := ⟨n - 3, by omega⟩
 obtain ⟨e, j1, h1, h2⟩ := h (n + 2) (by omega) E (t' :: r' ++ (t'' :: r'' ++ R)) j a
 obtain ⟨e', j2, k1, k2⟩ := h' (n + 1) (by omega) E (t'' :: r'' ++ R) j1 a
 obtain ⟨e'', j3, l1, l2⟩ := h'' n (by omega) E R j2 a
 have e1 : t :: r ++ t' :: r' ++ t'' :: r'' ++ R = t :: (r ++ (t' :: r' ++ (t'' :: r'' ++ R))) := by simp
 have h1 : atom E (n + 2) ⟨j, t :: (r ++ (t' :: r' ++ (t'' :: r'' ++ R))), false, a⟩ = (e, ⟨j1, t' :: r' ++ (t'' :: r'' ++ R), false, a⟩) := h1
 rw [e1]
 obtain ⟨b, q⟩ := apps_more E (n + 1) j1 a e (t' :: r' ++ (t'' :: r'' ++ R)) (begX_app hb' _) k1
 obtain ⟨b', q'⟩ := apps_more E n j2 a (.mk 5 b [] 0 [e, e'] []) (t'' :: r'' ++ R) (begX_app hb'' _) l1
 refine ⟨_, _, (expr_atoms E (n + 2) j a t (r ++ (t' :: r' ++ (t'' :: r'' ++ R))) hb).trans (by rw [h1]; exact q.trans (q'.trans (apps_end E n j3 a _ R hR))), ?_⟩
 simp only [bareE, bareEs, bareAs, h2, k2, l2]
theorem YP_paren {o c : Tok} {ts : List Tok} {X : Ex} (hk : o.k = 5) (hs : o.s = sOpen) (h : XP ts X) (hc : c.k = 5) (hcs : c.s = sClose) : YP (o :: (ts ++ [c])) X := by
 refine ⟨by simp only [begX, hk, hs]; decide, fun n hn E R j a => ?_⟩
 simp only [List.length_cons, List.length_append, List.length_nil] at hn
 obtain ⟨n, rfl⟩ : ∃ m, n = m + 2 := ⟨n - 2, by omega⟩
 obtain ⟨e, j1, h1, h2⟩ := h (n + 1) (by omega) E (c :: R) (j + 1) a (no_sg hc hcs (by decide) R)
 have e1 : o :: (ts ++ [c]) ++ R = o :: (ts ++ c :: R) := by simp
 rw [e1]
 exact ⟨_, _, atom_open E (n + 1) j a o _ hk hs h1 (rest_end E n 1 j1 a (c :: R) (not_sg (by rw [hcs]; decide) R)) (is_sg hc hcs R), h2⟩
theorem YP_pair {o m c : Tok} {ts us : List Tok} {X Y : Ex} (hk : o.k = 5) (hs : o.s = sOpen) (h : XP ts X) (hm : m.k = 5) (hms : m.s = sCom) (h' : XP us Y) (hc : c.k = 5) (hcs : c.s = sClose) : YP (o :: (ts ++ m :: (us ++ [c]))) (.mk 8 0 [] 0 [X, Y] []) := by
 refine ⟨by simp only [begX, hk, hs]; decide, fun n hn E R j a => ?_⟩
 simp only [List.length_cons, List.length_append, List.length_nil] at hn
 obtain ⟨n, rfl⟩ : ∃ m, n = m + 3 := ⟨n - 3, by omega⟩
 obtain ⟨e, j1, h1, h2⟩ := h (n + 2) (by omega) E (m :: (us ++ c :: R)) (j + 1) a (no_sg hm hms (by decide) _)
 obtain ⟨e', j2, k1, k2⟩ := h' (n + 1) (by omega) E (c :: R) (j1 + 1) a (no_sg hc hcs (by decide) R)
 have e1 : o :: (ts ++ m :: (us ++ [c])) ++ R = o :: (ts ++ m :: (us ++ c :: R)) := by simp
 rw [e1]
 have hr := rest_more E (n + 1) 1 j1 a m (us ++ c :: R) (is_sg hm hms _) (by decide) k1 (rest_end E n 2 j2 a (c :: R) (not_sg (by rw [hcs]; decide) R))
 refine ⟨_, _, atom_open E (n + 2) j a o _ hk hs h1 hr (is_sg hc hcs R), ?_⟩
 simp only [bareE, bareEs, bareAs, h2, k2]
theorem YP_triple {o m m' c : Tok} {ts us ws : List Tok} {X Y Z : Ex} (hk : o.k = 5) (hs : o.s = sOpen) (h : XP ts X) (hm : m.k = 5) (hms : m.s = sCom) (h' : XP us Y) (hm' : m'.k = 5) (hms' : m'.s = sCom) (h'' : XP ws Z) (hc : c.k = 5) (hcs : c.s = sClose) : YP (o :: (ts ++ m :: (us ++ m' :: (ws ++ [c])))) (.mk 8 0 [] 0 [X, Y, Z] []) := by
 refine ⟨by simp only [begX, hk, hs]; decide, fun n hn E R j a => ?_⟩
 simp only [List.length_cons, List.length_append, List.length_nil] at hn
 obtain ⟨n, rfl⟩ : ∃ m, n = m + 4 := ⟨n - 4, by omega⟩
 obtain ⟨e, j1, h1, h2⟩ := h (n + 3) (by omega) E (m :: (us ++ m' :: (ws ++ c :: R))) (j + 1) a (no_sg hm hms (by decide) _)
 obtain ⟨e', j2, k1, k2⟩ := h' (n + 2) (by omega) E (m' :: (ws ++ c :: R)) (j1 + 1) a (no_sg hm' hms' (by decide) _)
 obtain ⟨e'', j3, l1, l2⟩ := h'' (n + 1) (by omega) E (c :: R) (j2 + 1) a (no_sg hc hcs (by decide) R)
 have e1 : o :: (ts ++ m :: (us ++ m' :: (ws ++ [c]))) ++ R = o :: (ts ++ m :: (us ++ m' :: (ws ++ c :: R))) := by simp
 rw [e1]
 have hr1 := rest_more E (n + 1) 2 j2 a m' (ws ++ c :: R) (is_sg hm' hms' _) (by decide) l1 (rest_end E n 3 j3 a (c :: R) (not_sg (by rw [hcs]; decide) R))
 have hr := rest_more E (n + 2) 1 j1 a m (us ++ m' :: (ws ++ c :: R)) (is_sg hm hms _) (by decide) k1 hr1
 refine ⟨_, _, atom_open E (n + 3) j a o _ hk hs h1 hr (is_sg hc hcs R), ?_⟩
 simp only [bareE, bareEs, bareAs, h2, k2, l2]
theorem XP_lam {t x : Tok} {l : List Tok} {u : Tok} {ts : List Tok} {X : Ex} (hk : t.k = 5) (hs : t.s = sLam) (hx : x.k = 1) (hl : ∀ z ∈ l, z.k = 1) (hu : u.k = 5) (hus : u.s = sArr) (h : XP ts X) : XP (t :: (x :: (l ++ u :: ts))) (lamsB ((x :: l).map (·.s)) X) := by
 intro n hn E R j a hR
 simp only [List.length_cons, List.length_append] at hn
 obtain ⟨n, rfl⟩ : ∃ m, n = m + 1 := ⟨n - 1, by omega⟩
 obtain ⟨e, j1, h1, h2⟩ := h n (by omega) E R (j + 1 + 1 + l.length + 1) a hR
 have e1 : t :: (x :: (l ++ u :: ts)) ++ R = t :: (x :: (l ++ u :: (ts ++ R))) := by simp
 rw [e1]
 exact ⟨_, _, expr_lam E n j a t x l u (ts ++ R) hk hs hx hl (is_sg hu hus _) h1, by rw [bare_lams, h2]⟩
theorem XP_let {t x : Tok} {l : List Tok} {u v : Tok} {ts us : List Tok} {X Y : Ex} (hk : t.k = 4) (hs : t.s = sLet) (hx : x.k = 1) (hl : ∀ z ∈ l, z.k = 1) (hu : u.k = 5) (hus : u.s = sEq) (h : XP ts X) (hv : v.k = 4) (hvs : v.s = sIn) (h' : XP us Y) : XP (t :: (x :: (l ++ u :: (ts ++ v :: us)))) (.mk 7 0 x.s 0 [lamsB (l.map (·.s)) X, Y] []) := by
 intro n hn E R j a hR
 simp only [List.length_cons, List.length_append] at hn
 obtain ⟨n, rfl⟩ : ∃ m, n = m + 1 := ⟨n - 1, by omega⟩
 obtain ⟨e, j1, h1, h2⟩ := h n (by omega) E (v :: (us ++ R)) (j + 1 + 1 + l.length + 1) a (no_w hv (by rw [hvs]; decide) (by rw [hvs]; decide) _)
 obtain ⟨e', j2, k1, k2⟩ := h' n (by omega) E R (j1 + 1) a hR
 have e1 : t :: (x :: (l ++ u :: (ts ++ v :: us))) ++ R = t :: (x :: (l ++ u :: (ts ++ v :: (us ++ R)))) := by simp
 rw [e1]
 refine ⟨_, _, expr_let E n j a t x l u _ hk hs hx hl (is_sg hu hus _) h1 hv hvs k1, ?_⟩
 simp only [bareE, bareEs, bareAs, bare_lams, h2, k2]
theorem XP_if {t v w : Tok} {ts us ws : List Tok} {X Y Z : Ex} (hk : t.k = 4) (hs : t.s = sIf) (h : XP ts X) (hv : v.k = 4) (hvs : v.s = sThen) (h' : XP us Y) (hw : w.k = 4) (hws : w.s = sElse) (h'' : XP ws Z) : XP (t :: (ts ++ v :: (us ++ w :: ws))) (.mk 9 0 [] 0 [X, Y, Z] []) := by
 intro n hn E R j a hR
 simp only [List.length_cons, List.length_append] at hn
 obtain ⟨n, rfl⟩ : ∃ m, n = m + 1 := ⟨n - 1, by omega⟩
 obtain ⟨e, j1, h1, h2⟩ := h n (by omega) E (v :: (us ++ w :: (ws ++ R))) (j + 1) a (no_w hv (by rw [hvs]; decide) (by rw [hvs]; decide) _)
 obtain ⟨e', j2, k1, k2⟩ := h' n (by omega) E (w :: (ws ++ R)) (j1 + 1) a (no_w hw (by rw [hws]; decide) (by rw [hws]; decide) _)
 obtain ⟨e'', j3, l1, l2⟩ := h'' n (by omega) E R (j2 + 1) a hR
 have e1 : t :: (ts ++ v :: (us ++ w :: ws)) ++ R = t :: (ts ++ v :: (us ++ w :: (ws ++ R))) := by simp
 rw [e1]
 refine ⟨_, _, expr_if E n j a t _ hk hs h1 hv hvs k1 hw hws l1, ?_⟩
 simp only [bareE, bareEs, bareAs, h2, k2, l2]
def LAP (ts : List Tok) (X : Al) : Prop := ∀ n, 8 * ts.length ≤ n → ∀ (E : Nat) (R : List Tok) (j a : Nat), begX R = false → ∃ y j', alt E n ⟨j, ts ++ R, false, a⟩ = (y, ⟨j', R, false, a⟩) ∧ bareAs [y] = [X]
theorem LAP_of {c : Tok} {l : List Tok} {u : Tok} {ts : List Tok} {X : Ex} (hc : c.k = 2) (hl : ∀ z ∈ l, z.k = 1) (hu : u.k = 5) (hus : u.s = sArr) (h : XP ts X) : LAP (c :: (l ++ u :: ts)) (.mk 0 c.s (l.map (·.s)) X) := by
 intro n hn E R j a hR
 simp only [List.length_cons, List.length_append] at hn
 obtain ⟨n, rfl⟩ : ∃ m, n = m + 1 := ⟨n - 1, by omega⟩
 obtain ⟨e, j1, h1, h2⟩ := h n (by omega) E R (j + 1 + l.length + 1) a hR
 have e1 : c :: (l ++ u :: ts) ++ R = c :: (l ++ u :: (ts ++ R)) := by simp
 rw [e1]
 refine ⟨_, _, alt_of E n j a c l u _ hc hl (is_sg hu hus _) h1, ?_⟩
 simp only [bareAs, h2]
theorem XP_case1 {t v o w : Tok} {ts us : List Tok} {X : Ex} {A : Al} (hk : t.k = 4) (hs : t.s = sCase) (h : XP ts X) (hv : v.k = 4) (hvs : v.s = sOf) (ho : o.k = 5) (hos : o.s = sBrO) (hA : LAP us A) (hw : w.k = 5) (hws : w.s = sBrC) : XP (t :: (ts ++ v :: (o :: (us ++ [w])))) (.mk 10 0 [] 0 [X] [A]) := by
 intro n hn E R j a hR
 simp only [List.length_cons, List.length_append, List.length_nil] at hn
 obtain ⟨n, rfl⟩ : ∃ m, n = m + 1 := ⟨n - 1, by omega⟩
 obtain ⟨e, j1, h1, h2⟩ := h n (by omega) E (v :: (o :: (us ++ w :: R))) (j + 1) a (no_w hv (by rw [hvs]; decide) (by rw [hvs]; decide) _)
 obtain ⟨y, j2, k1, k2⟩ := hA n (by omega) E (w :: R) (j1 + 1 + 1) a (no_sg hw hws (by decide) R)
 have e1 : t :: (ts ++ v :: (o :: (us ++ [w]))) ++ R = t :: (ts ++ v :: (o :: (us ++ w :: R))) := by simp
 rw [e1]
 refine ⟨_, _, expr_case E n j a t _ hk hs h1 hv hvs (is_sg ho hos _) k1 (alts_end E n j2 a (w :: R) (not_sg (by rw [hws]; decide) R)) (is_sg hw hws R), ?_⟩
 simp only [bareE, bareEs, h2, k2]
theorem XP_case2 {t v o w m : Tok} {ts us ws : List Tok} {X : Ex} {A B : Al} (hk : t.k = 4) (hs : t.s = sCase) (h : XP ts X) (hv : v.k = 4) (hvs : v.s = sOf) (ho : o.k = 5) (hos : o.s = sBrO) (hA : LAP us A) (hm : m.k = 5) (hms : m.s = sSemi) (hB : LAP ws B) (hw : w.k = 5) (hws : w.s = sBrC) : XP (t :: (ts ++ v :: (o :: (us ++ m :: (ws ++ [w]))))) (.mk 10 0 [] 0 [X] [A, B]) := by
 intro n hn E R j a hR
 simp only [List.length_cons, List.length_append, List.length_nil] at hn
 obtain ⟨n, rfl⟩ : ∃ m, n = m + 2 := ⟨n - 2, by omega⟩
 obtain ⟨e, j1, h1, h2⟩ := h (n + 1) (by omega) E (v :: (o :: (us ++ m :: (ws ++ w :: R)))) (j + 1) a (no_w hv (by rw [hvs]; decide) (by rw [hvs]; decide) _)
 obtain ⟨y, j2, k1, k2⟩ := hA (n + 1) (by omega) E (m :: (ws ++ w :: R)) (j1 + 1 + 1) a (no_sg hm hms (by decide) _)
 obtain ⟨z, j3, l1, l2⟩ := hB n (by omega) E (w :: R) (j2 + 1) a (no_sg hw hws (by decide) R)
 have e1 : t :: (ts ++ v :: (o :: (us ++ m :: (ws ++ [w])))) ++ R = t :: (ts ++ v :: (o :: (us ++ m :: (ws ++ w :: R)))) := by simp
 rw [e1]
 have hal := alts_more E n j2 a m (ws ++ w :: R) (is_sg hm hms _) l1 (alts_end E n j3 a (w :: R) (not_sg (by rw [hws]; decide) R))
 refine ⟨_, _, expr_case E (n + 1) j a t _ hk hs h1 hv hvs (is_sg ho hos _) k1 hal (is_sg hw hws R), ?_⟩
 obtain ⟨ya, yc, yn, yb⟩ := y
 obtain ⟨za, zc, zn, zb⟩ := z
 simp only [bareAs, List.cons.injEq, and_true] at k2 l2
 simp only [bareE, bareEs, bareAs, h2, k2, l2]
def BP (ts : List Tok) (s : Str) (X : Ex) : Prop := ts ≠ [] ∧ ∀ n, 8 * ts.length ≤ n → ∀ (E : Nat) (out : Pg) (R : List Tok) (j a : Nat), ∃ b j', decl E n out ⟨j, ts ++ R, false, a⟩ = ({ out with bs := out.bs ++ [b] }, ⟨j', R, false, a⟩) ∧ b.s = s ∧ bareE b.b = X
theorem BP_of {t x : Tok} {l : List Tok} {u v : Tok} {ts : List Tok} {X : Ex} (hk : t.k = 4) (hs : t.s = sLet) (hx : x.k = 1) (hl : ∀ z ∈ l, z.k = 1) (hu : u.k = 5) (hus : u.s = sEq) (h : XP ts X) (hv : v.k = 5) (hvs : v.s = sSemi) : BP (t :: (x :: (l ++ u :: (ts ++ [v])))) x.s (lamsB (l.map (·.s)) X) := by
 refine ⟨by simp, fun n hn E out R j a => ?_⟩
 simp only [List.length_cons, List.length_append, List.length_nil] at hn
 obtain ⟨e, j1, h1, h2⟩ := h n (by omega) E (v :: R) (j + 1 + 1 + l.length + 1) a (no_sg hv hvs (by decide) R)
 have e1 : t :: (x :: (l ++ u :: (ts ++ [v]))) ++ R = t :: (x :: (l ++ u :: (ts ++ v :: R))) := by simp
 rw [e1]
 exact ⟨_, _, decl_let E n j a out t x l u _ hk hs hx hl (is_sg hu hus _) h1 (is_sg hv hvs R), rfl, by rw [bare_lams, h2]⟩
end Go.Am.Ps
namespace Go.Am.Ps
open Go.Am.Try
def PX (P : List Pc) (X : Ex) : Prop := (∀ i, XP (toksP i P) X) ∧ ∀ y, notB restB y = true → okP P y = true
def PY (P : List Pc) (X : Ex) : Prop := (∀ i, YP (toksP i P) X) ∧ ∀ y, notB restB y = true → okP P y = true
def PN (P : List Pc) (l : List Str) : Prop := (∀ i, (∀ t ∈ toksP i P, t.k = 1) ∧ (toksP i P).map (·.s) = l) ∧ ∀ y, notB restB y = true → okP P y = true
def PA (P : List Pc) (A : Al) : Prop := (∀ i, LAP (toksP i P) A) ∧ ∀ y, notB restB y = true → okP P y = true
def WN (s : Str) (k : Nat) : Prop := wordK s = some k ∧ ∀ y, notB restB y = true → (Pc.w s).ok y = true
theorem WN_of {s : Str} {k : Nat} (h : wordK s = some k) (h1 : ((match s with | c :: _ => lowerB c || upperB c | [] => false) && s.all restB) = true) : WN s k := by
 refine ⟨h, fun y hy => ?_⟩
 cases s with
 | nil => simp at h1
 | cons c l =>
  simp only [Bool.and_eq_true] at h1
  simp only [Pc.ok, h, hy, h1.1, h1.2]
  rfl
theorem not32 (y : Str) : notB restB (32 :: y) = true := rfl
theorem not41 (y : Str) : notB restB (41 :: y) = true := rfl
theorem not44 (y : Str) : notB restB (44 :: y) = true := rfl
theorem not59 (y : Str) : notB restB (59 :: y) = true := rfl
theorem not125 (y : Str) : notB restB (125 :: y) = true := rfl
theorem not45 (y : Str) : notB restB (45 :: y) = true := rfl
theorem PY.x {P : List Pc} {X : Ex} (h : PY P X) : PX P X := ⟨fun i => XP_of (h.1 i), h.2⟩
theorem tok_w (i : Nat) {s : Str} {k : Nat} (h : WN s k) : (Pc.w s).tok i = some ⟨k, i, s, 0⟩ := by
 simp [Pc.tok, h.1]
theorem PY_name {s : Str} (h : WN s 1) : PY [.w s] (.mk 1 0 s 0 [] []) := by
 refine ⟨fun i => ?_, fun y hy => by simp [okP, textP, h.2 y hy]⟩
 simp only [toksP, tok_w i h, Option.toList_some, List.append_nil]
 exact YP_name rfl
theorem PY_con {s : Str} (h : WN s 2) : PY [.w s] (.mk 2 0 s 0 [] []) := by
 refine ⟨fun i => ?_, fun y hy => by simp [okP, textP, h.2 y hy]⟩
 simp only [toksP, tok_w i h, Option.toList_some, List.append_nil]
 exact YP_con rfl
theorem PY_bool {s : Str} (h : WN s 4) (hs : s = sTrue ∨ s = sFalse) : PY [.w s] (.mk 4 0 [] (cond (eqS s sTrue) 1 0) [] []) := by
 refine ⟨fun i => ?_, fun y hy => by simp [okP, textP, h.2 y hy]⟩
 simp only [toksP, tok_w i h, Option.toList_some, List.append_nil]
 exact YP_bool (t := ⟨4, i, s, 0⟩) rfl hs
theorem digit_rest {y : Str} (h : notB restB y = true) : notB digitB y = true := by
 cases y with
 | nil => rfl
 | cons c y =>
  simp only [notB, restB, Bool.not_eq_true', Bool.or_eq_false_iff] at h ⊢
  exact h.2.2.1
theorem PY_int {s : Str} (h : ((match s with | c :: _ => digitB c | [] => false) && (s.all digitB && (numB s).isSome)) = true) : PY [.nu s] (.mk 3 0 [] ((numB s).getD 0) [] []) := by
 simp only [Bool.and_eq_true] at h
 obtain ⟨h1, h2, h3⟩ := h
 refine ⟨fun i => ?_, fun y hy => ?_⟩
 ·simp only [toksP, Pc.tok, Option.toList_some, List.append_nil]
  exact YP_int (t := ⟨3, i, [], (numB s).getD 0⟩) rfl
 ·cases s with
  | nil => simp at h1
  | cons c l =>
   simp only at h1
   simp only [okP, textP, Pc.ok, h1, h2, h3, digit_rest hy]
   rfl
theorem PN_nil : PN [] [] := ⟨fun i => ⟨by simp [toksP], rfl⟩, fun y _ => rfl⟩
theorem PN_cons {s : Str} {P : List Pc} {l : List Str} (h : WN s 1) (h' : PN P l) (hP : P = [] ∨ ∃ Q, P = .sp 32 :: Q) : PN (.sp 32 :: .w s :: P) (s :: l) := by
 refine ⟨fun i => ?_, fun y hy => ?_⟩
 ·obtain ⟨a1, a2⟩ := h'.1 (i + 1 + s.length)
  have e : toksP i (.sp 32 :: .w s :: P) = ⟨1, i + 1, s, 0⟩ :: toksP (i + 1 + s.length) P := by
   simp only [toksP, h.1, Option.getD_some, Option.toList_some, Pc.tok, Option.toList_none, List.nil_append, Pc.str, List.length_singleton, List.singleton_append]
  rw [e]
  refine ⟨fun t ht => ?_, by simp [a2]⟩
  rcases List.mem_cons.1 ht with rfl | ht
  ·rfl
  ·exact a1 t ht
 ·have hn : notB restB (textP P y) = true := by
   rcases hP with rfl | ⟨Q, rfl⟩
   ·exact hy
   ·rfl
  simp only [okP, textP, h.2 _ hn, h'.2 y hy]
  rfl
theorem PX_app2 {P Q : List Pc} {X Y : Ex} (h : PY P X) (h' : PY Q Y) : PX (P ++ .sp 32 :: Q) (.mk 5 0 [] 0 [X, Y] []) := by
 refine ⟨fun i => ?_, fun y hy => ?_⟩
 ·rw [toksP_app]
  simp only [toksP, Pc.tok, Option.toList_none, List.nil_append]
  exact XP_app2 (h.1 _) (h'.1 _)
 ·rw [okP_app]
  simp only [okP, textP, h'.2 y hy, h.2 _ (not32 _), Pc.str, List.singleton_append]
  rfl
theorem PX_app3 {P Q R : List Pc} {X Y Z : Ex} (h : PY P X) (h' : PY Q Y) (h'' : PY R Z) : PX (P ++ .sp 32 :: (Q ++ .sp 32 :: R)) (.mk 5 0 [] 0 [.mk 5 0 [] 0 [X, Y] [], Z] []) := by
 refine ⟨fun i => ?_, fun y hy => ?_⟩
 ·rw [toksP_app]
  simp only [toksP, Pc.tok, Option.toList_none, List.nil_append]
  rw [toksP_app]
  simp only [toksP, Pc.tok, Option.toList_none, List.nil_append]
  rw [← List.append_assoc]
  exact XP_app3 (h.1 _) (h'.1 _) (h''.1 _)
 ·rw [okP_app]
  simp only [okP, textP, Pc.str, List.singleton_append]
  rw [okP_app]
  simp only [okP, textP, h''.2 y hy, h'.2 _ (not32 _), h.2 _ (not32 _), Pc.str, List.singleton_append]
  rfl
theorem PY_paren {P : List Pc} {X : Ex} (h : PX P X) : PY (.sg 40 :: (P ++ [.sg 41])) X := by
 refine ⟨fun i => ?_, fun y hy => ?_⟩
 ·simp only [toksP, toksP_app, Pc.tok, Option.toList_some, List.singleton_append, List.append_nil]
  exact YP_paren rfl rfl (h.1 _) rfl rfl
 ·simp only [okP, okP_app, textP, textP_app, Pc.str, List.singleton_append, h.2 _ (not41 _)]
  rfl
theorem PY_pair {P Q : List Pc} {X Y : Ex} (h : PX P X) (h' : PX Q Y) : PY (.sg 40 :: (P ++ .sg 44 :: .sp 32 :: (Q ++ [.sg 41]))) (.mk 8 0 [] 0 [X, Y] []) := by
 refine ⟨fun i => ?_, fun y hy => ?_⟩
 ·simp only [toksP, toksP_app, Pc.tok, Option.toList_some, Option.toList_none, List.nil_append, List.singleton_append, List.append_nil]
  exact YP_pair rfl rfl (h.1 _) rfl rfl (h'.1 _) rfl rfl
 ·simp only [okP, okP_app, textP, textP_app, Pc.str, List.singleton_append, h.2 _ (not44 _), h'.2 _ (not41 _)]
  rfl
theorem PX_lam {x : Str} {N P : List Pc} {l : List Str} {X : Ex} (hx : WN x 1) (hN : PN N l) (hN' : N = [] ∨ ∃ Q, N = .sp 32 :: Q) (h : PX P X) : PX (.sg 92 :: .w x :: (N ++ .sp 32 :: .ar :: .sp 32 :: P)) (lamsB (x :: l) X) := by
 refine ⟨fun i => ?_, fun y hy => ?_⟩
 ·simp only [toksP, toksP_app, hx.1, Option.getD_some, Pc.tok, Option.toList_some, Option.toList_none, List.nil_append, List.singleton_append]
  obtain ⟨a1, a2⟩ := hN.1 (i + (Pc.sg 92).str.length + (Pc.w x).str.length)
  have := XP_lam (t := ⟨5, i, [92], 0⟩) (x := ⟨1, i + (Pc.sg 92).str.length, x, 0⟩) (l := toksP (i + (Pc.sg 92).str.length + (Pc.w x).str.length) N) (u := ⟨5, i + (Pc.sg 92).str.length + (Pc.w x).str.length + lenP N + (Pc.sp 32).str.length, sArr, 0⟩) rfl rfl rfl a1 rfl rfl (h.1 (i + (Pc.sg 92).str.length + (Pc.w x).str.length + lenP N + (Pc.sp 32).str.length + Pc.ar.str.length + (Pc.sp 32).str.length))
  simp only [List.map_cons, a2] at this
  exact this
 ·have hn : notB restB (textP N (32 :: 45 :: 62 :: 32 :: textP P y)) = true := by
   rcases hN' with rfl | ⟨Q, rfl⟩
   ·rfl
   ·rfl
  simp only [okP, okP_app, textP, textP_app, Pc.str, List.singleton_append, List.cons_append, List.nil_append, h.2 y hy, hN.2 _ (not32 _), hx.2 _ hn]
  rfl
theorem wLet : WN [108, 101, 116] 4 := WN_of (by decide) (by decide)
theorem wIn : WN [105, 110] 4 := WN_of (by decide) (by decide)
theorem wIf : WN [105, 102] 4 := WN_of (by decide) (by decide)
theorem wThen : WN [116, 104, 101, 110] 4 := WN_of (by decide) (by decide)
theorem wElse : WN [101, 108, 115, 101] 4 := WN_of (by decide) (by decide)
theorem wCase : WN [99, 97, 115, 101] 4 := WN_of (by decide) (by decide)
theorem wOf : WN [111, 102] 4 := WN_of (by decide) (by decide)
theorem PX_let {x : Str} {N P Q : List Pc} {l : List Str} {X Y : Ex} (hx : WN x 1) (hN : PN N l) (hN' : N = [] ∨ ∃ Q, N = .sp 32 :: Q) (h : PX P X) (h' : PX Q Y) : PX (.w [108, 101, 116] :: .sp 32 :: .w x :: (N ++ .sp 32 :: .sg 61 :: .sp 32 :: (P ++ .sp 32 :: .w [105, 110] :: .sp 32 :: Q))) (.mk 7 0 x 0 [lamsB l X, Y] []) := by
 refine ⟨fun i => ?_, fun y hy => ?_⟩
 ·simp only [toksP, toksP_app, hx.1, Option.getD_some, wLet.1, Option.getD_some, wIn.1, Option.getD_some, Pc.tok, Option.toList_some, Option.toList_none, List.nil_append, List.singleton_append]
  obtain ⟨a1, a2⟩ := hN.1 (i + (Pc.w [108, 101, 116]).str.length + (Pc.sp 32).str.length + (Pc.w x).str.length)
  have := fun t u v p q => XP_let (t := ⟨4, i, [108, 101, 116], 0⟩) (x := ⟨1, t, x, 0⟩) (l := toksP (i + (Pc.w [108, 101, 116]).str.length + (Pc.sp 32).str.length + (Pc.w x).str.length) N) (u := ⟨5, u, [61], 0⟩) (v := ⟨4, v, [105, 110], 0⟩) rfl rfl rfl a1 rfl rfl (h.1 p) rfl rfl (h'.1 q)
  simp only [a2] at this
  exact this _ _ _ _ _
 ·have hn : notB restB (textP N (32 :: 61 :: 32 :: textP P (32 :: 105 :: 110 :: 32 :: textP Q y))) = true := by
   rcases hN' with rfl | ⟨Q, rfl⟩
   ·rfl
   ·rfl
  simp only [okP, okP_app, textP, textP_app, Pc.str, List.singleton_append, List.cons_append, List.nil_append, h.2 _ (not32 _), h'.2 y hy, hN.2 _ (not32 _), hx.2 _ hn, wLet.2 _ (not32 _), wIn.2 _ (not32 _)]
  rfl
theorem PX_if {P Q R : List Pc} {X Y Z : Ex} (h : PX P X) (h' : PX Q Y) (h'' : PX R Z) : PX (.w [105, 102] :: .sp 32 :: (P ++ .sp 32 :: .w [116, 104, 101, 110] :: .sp 32 :: (Q ++ .sp 32 :: .w [101, 108, 115, 101] :: .sp 32 :: R))) (.mk 9 0 [] 0 [X, Y, Z] []) := by
 refine ⟨fun i => ?_, fun y hy => ?_⟩
 ·simp only [toksP, toksP_app, wIf.1, Option.getD_some, wThen.1, Option.getD_some, wElse.1, Option.getD_some, Pc.tok, Option.toList_some, Option.toList_none, List.nil_append, List.singleton_append]
  exact XP_if rfl rfl (h.1 _) rfl rfl (h'.1 _) rfl rfl (h''.1 _)
 ·simp only [okP, okP_app, textP, textP_app, Pc.str, List.singleton_append, List.cons_append, List.nil_append, h.2 _ (not32 _), h'.2 _ (not32 _), h''.2 y hy, wIf.2 _ (not32 _), wThen.2 _ (not32 _), wElse.2 _ (not32 _)]
  rfl
theorem PA_of {c : Str} {N P : List Pc} {l : List Str} {X : Ex} (hc : WN c 2) (hN : PN N l) (hN' : N = [] ∨ ∃ Q, N = .sp 32 :: Q) (h : PX P X) : PA (.w c :: (N ++ .sp 32 :: .ar :: .sp 32 :: P)) (.mk 0 c l X) := by
 refine ⟨fun i => ?_, fun y hy => ?_⟩
 ·simp only [toksP, toksP_app, hc.1, Option.getD_some, Pc.tok, Option.toList_some, Option.toList_none, List.nil_append, List.singleton_append]
  obtain ⟨a1, a2⟩ := hN.1 (i + (Pc.w c).str.length)
  have := fun u p => LAP_of (c := ⟨2, i, c, 0⟩) (l := toksP (i + (Pc.w c).str.length) N) (u := ⟨5, u, sArr, 0⟩) rfl a1 rfl rfl (h.1 p)
  simp only [a2] at this
  exact this _ _
 ·have hn : notB restB (textP N (32 :: 45 :: 62 :: 32 :: textP P y)) = true := by
   rcases hN' with rfl | ⟨Q, rfl⟩
   ·rfl
   ·rfl
  simp only [okP, okP_app, textP, textP_app, Pc.str, List.singleton_append, List.cons_append, List.nil_append, h.2 y hy, hN.2 _ (not32 _), hc.2 _ hn]
  rfl
theorem PX_case1 {P A : List Pc} {X : Ex} {Y : Al} (h : PX P X) (hA : PA A Y) : PX (.w [99, 97, 115, 101] :: .sp 32 :: (P ++ .sp 32 :: .w [111, 102] :: .sp 32 :: .sg 123 :: (A ++ [.sg 125]))) (.mk 10 0 [] 0 [X] [Y]) := by
 refine ⟨fun i => ?_, fun y hy => ?_⟩
 ·simp only [toksP, toksP_app, wCase.1, Option.getD_some, wOf.1, Option.getD_some, Pc.tok, Option.toList_some, Option.toList_none, List.nil_append, List.singleton_append, List.append_nil]
  exact XP_case1 rfl rfl (h.1 _) rfl rfl rfl rfl (hA.1 _) rfl rfl
 ·simp only [okP, okP_app, textP, textP_app, Pc.str, List.singleton_append, List.cons_append, List.nil_append, h.2 _ (not32 _), hA.2 _ (not125 _), wCase.2 _ (not32 _), wOf.2 _ (not32 _)]
  rfl
theorem PX_case2 {P A B : List Pc} {X : Ex} {Y Z : Al} (h : PX P X) (hA : PA A Y) (hB : PA B Z) : PX (.w [99, 97, 115, 101] :: .sp 32 :: (P ++ .sp 32 :: .w [111, 102] :: .sp 32 :: .sg 123 :: (A ++ .sg 59 :: .sp 32 :: (B ++ [.sg 125])))) (.mk 10 0 [] 0 [X] [Y, Z]) := by
 refine ⟨fun i => ?_, fun y hy => ?_⟩
 ·simp only [toksP, toksP_app, wCase.1, Option.getD_some, wOf.1, Option.getD_some, Pc.tok, Option.toList_some, Option.toList_none, List.nil_append, List.singleton_append, List.append_nil]
  exact XP_case2 rfl rfl (h.1 _) rfl rfl rfl rfl (hA.1 _) rfl rfl (hB.1 _) rfl rfl
 ·simp only [okP, okP_app, textP, textP_app, Pc.str, List.singleton_append, List.cons_append, List.nil_append, h.2 _ (not32 _), hA.2 _ (not59 _), hB.2 _ (not125 _), wCase.2 _ (not32 _), wOf.2 _ (not32 _)]
  rfl
def PB (P : List Pc) (s : Str) (X : Ex) : Prop := (∀ i, BP (toksP i P) s X) ∧ ∀ y, okP P y = true
theorem PB_of {x : Str} {N P : List Pc} {l : List Str} {X : Ex} (hx : WN x 1) (hN : PN N l) (hN' : N = [] ∨ ∃ Q, N = .sp 32 :: Q) (h : PX P X) : PB (.w [108, 101, 116] :: .sp 32 :: .w x :: (N ++ .sp 32 :: .sg 61 :: .sp 32 :: (P ++ [.sg 59]))) x (lamsB l X) := by
 refine ⟨fun i => ?_, fun y => ?_⟩
 ·simp only [toksP, toksP_app, hx.1, Option.getD_some, wLet.1, Option.getD_some, Pc.tok, Option.toList_some, Option.toList_none, List.nil_append, List.singleton_append, List.append_nil]
  obtain ⟨a1, a2⟩ := hN.1 (i + (Pc.w [108, 101, 116]).str.length + (Pc.sp 32).str.length + (Pc.w x).str.length)
  have := fun t u v p => BP_of (t := ⟨4, i, [108, 101, 116], 0⟩) (x := ⟨1, t, x, 0⟩) (l := toksP (i + (Pc.w [108, 101, 116]).str.length + (Pc.sp 32).str.length + (Pc.w x).str.length) N) (u := ⟨5, u, [61], 0⟩) (v := ⟨5, v, [59], 0⟩) rfl rfl rfl a1 rfl rfl (h.1 p) rfl rfl
  simp only [a2] at this
  exact this _ _ _ _
 ·have hn : notB restB (textP N (32 :: 61 :: 32 :: textP P (59 :: y))) = true := by
   rcases hN' with rfl | ⟨Q, rfl⟩
   ·rfl
   ·rfl
  simp only [okP, okP_app, textP, textP_app, Pc.str, List.singleton_append, List.cons_append, List.nil_append, h.2 _ (not59 _), hN.2 _ (not32 _), hx.2 _ hn, wLet.2 _ (not32 _)]
  rfl
end Go.Am.Ps
namespace Go.Am.Ps
open Go.Am.Try
def nmN : Nat → List Pc
 | 0 => []
 | 1 => [.sp 32, .w [103]]
 | _ => [.sp 32, .w [120], .sp 32, .w [121]]
def nm3 : Nat → Str
 | 0 => [120]
 | 1 => [121]
 | _ => [102]
def nm5 : Nat → Str
 | 0 => [120]
 | 1 => [121]
 | 2 => [102]
 | 3 => [103]
 | _ => [105, 100]
def cn5 : Nat → Str
 | 0 => [78, 105, 108]
 | 1 => [67, 111, 110, 115]
 | 2 => [83, 111, 109, 101]
 | 3 => [78, 111, 110, 101]
 | _ => [79, 100, 100]
def ltN : Nat → Str × List Pc
 | 0 => ([105, 100], [.sp 32, .w [120]])
 | 1 => ([121], [])
 | _ => ([102], [.sp 32, .w [120], .sp 32, .w [121]])
def alN : Nat → Str × List Pc
 | 0 => ([67, 111, 110, 115], [.sp 32, .w [120], .sp 32, .w [121]])
 | 1 => ([83, 111, 109, 101], [.sp 32, .w [120]])
 | _ => ([78, 105, 108], [])
def alE : Nat → List Pc
 | 0 => []
 | 1 => [.sg 59, .sp 32, .w [78, 111, 110, 101], .sp 32, .ar, .sp 32, .w [121]]
 | _ => [.sg 59, .sp 32, .w [78, 105, 108], .sp 32, .ar, .sp 32, .w [102], .sp 32, .w [120]]
def atPB (ex at_ : List UInt8 → List Pc) (b : UInt8) (l : List UInt8) : List Pc :=
 let n := b.toNat
 match n % 8 with
 | 0 => [.w (nm5 (n / 8 % 5))]
 | 1 => [.w (nm5 (n / 8 % 5))]
 | 2 => [.w (cn5 (n / 8 % 5))]
 | 3 => [.nu (digS n)]
 | 4 => (match n / 8 % 2 with | 0 => [.w [116, 114, 117, 101]] | _ => [.w [102, 97, 108, 115, 101]])
 | 5 => .sg 40 :: (ex l ++ .sg 44 :: .sp 32 :: (at_ (halfL (b :: l)) ++ [.sg 41]))
 | _ => .sg 40 :: (ex l ++ [.sg 41])
mutual
def exP : Nat → List UInt8 → List Pc
 | 0, _ => [.w [120]]
 | _ + 1, [] => [.w [120]]
 | d + 1, b :: l =>
  let n := b.toNat
  match n % 10 with
  | 0 => .sg 92 :: .w (nm3 (n / 10 % 3)) :: (nmN (n / 30 % 3) ++ .sp 32 :: .ar :: .sp 32 :: exP d l)
  | 1 => .sg 92 :: .w (nm3 (n / 10 % 3)) :: (nmN (n / 30 % 3) ++ .sp 32 :: .ar :: .sp 32 :: exP d l)
  | 2 => .w [108, 101, 116] :: .sp 32 :: .w (ltN (n / 10 % 3)).1 :: ((ltN (n / 10 % 3)).2 ++ .sp 32 :: .sg 61 :: .sp 32 :: (exP d l ++ .sp 32 :: .w [105, 110] :: .sp 32 :: exP d (halfL (b :: l))))
  | 3 => .w [105, 102] :: .sp 32 :: (exP d l ++ .sp 32 :: .w [116, 104, 101, 110] :: .sp 32 :: (atP d (halfL (b :: l)) ++ .sp 32 :: .w [101, 108, 115, 101] :: .sp 32 :: exP d (halfL (b :: l))))
  | 4 => .w [99, 97, 115, 101] :: .sp 32 :: (exP d l ++ .sp 32 :: .w [111, 102] :: .sp 32 :: .sg 123 :: ((.w (alN (n / 10 % 3)).1 :: ((alN (n / 10 % 3)).2 ++ .sp 32 :: .ar :: .sp 32 :: exP d (halfL (b :: l)))) ++ (alE (n / 30 % 3) ++ [.sg 125])))
  | 5 => atP d l ++ .sp 32 :: atP d (halfL (b :: l))
  | 6 => atP d l ++ .sp 32 :: atP d (halfL (b :: l))
  | 7 => atP d l ++ .sp 32 :: (atP d (halfL (b :: l)) ++ .sp 32 :: atP d (halfL l))
  | _ => atPB (exP d) (atP d) b l
def atP : Nat → List UInt8 → List Pc
 | 0, _ => [.w [120]]
 | _ + 1, [] => [.w [120]]
 | d + 1, b :: l => atPB (exP d) (atP d) b l
end
theorem lt3 {k : Nat} (h : k < 3) : k = 0 ∨ k = 1 ∨ k = 2 := by omega
theorem lt5 {k : Nat} (h : k < 5) : k = 0 ∨ k = 1 ∨ k = 2 ∨ k = 3 ∨ k = 4 := by omega
theorem nmN_str {k : Nat} (h : k < 3) (y : Str) : textP (nmN k) y = pk [[], [32, 103], [32, 120, 32, 121]] k ++ y := by
 rcases lt3 h with rfl | rfl | rfl <;> rfl
theorem nm3_str {k : Nat} (h : k < 3) : nm3 k = pk [[120], [121], [102]] k := by
 rcases lt3 h with rfl | rfl | rfl <;> rfl
theorem nm5_str {k : Nat} (h : k < 5) : nm5 k = pk [[120], [121], [102], [103], [105, 100]] k := by
 rcases lt5 h with rfl | rfl | rfl | rfl | rfl <;> rfl
theorem cn5_str {k : Nat} (h : k < 5) : cn5 k = pk [[78, 105, 108], [67, 111, 110, 115], [83, 111, 109, 101], [78, 111, 110, 101], [79, 100, 100]] k := by
 rcases lt5 h with rfl | rfl | rfl | rfl | rfl <;> rfl
theorem ltN_str {k : Nat} (h : k < 3) (y : Str) : (ltN k).1 ++ textP (ltN k).2 y = pk [[105, 100, 32, 120], [121], [102, 32, 120, 32, 121]] k ++ y := by
 rcases lt3 h with rfl | rfl | rfl <;> rfl
theorem alN_str {k : Nat} (h : k < 3) (y : Str) : (alN k).1 ++ textP (alN k).2 (32 :: 45 :: 62 :: 32 :: y) = pk [[67, 111, 110, 115, 32, 120, 32, 121, 32, 45, 62, 32], [83, 111, 109, 101, 32, 120, 32, 45, 62, 32], [78, 105, 108, 32, 45, 62, 32]] k ++ y := by
 rcases lt3 h with rfl | rfl | rfl <;> rfl
theorem alE_str {k : Nat} (h : k < 3) (y : Str) : textP (alE k) y = pk [[], [59, 32, 78, 111, 110, 101, 32, 45, 62, 32, 121], [59, 32, 78, 105, 108, 32, 45, 62, 32, 102, 32, 120]] k ++ y := by
 rcases lt3 h with rfl | rfl | rfl <;> rfl
theorem atPB_str (d : Nat) (b : UInt8) (l : List UInt8) (h : ∀ l y, textP (exP d l) y = exS d l ++ y) (h' : ∀ l y, textP (atP d l) y = atS d l ++ y) (y : Str) : textP (atPB (exP d) (atP d) b l) y = atB (exS d) (atS d) b l ++ y := by
 unfold atPB atB
 simp only
 have h5 := nm5_str (k := b.toNat / 8 % 5) (Nat.mod_lt _ (by decide))
 have h5' := cn5_str (k := b.toNat / 8 % 5) (Nat.mod_lt _ (by decide))
 have h2 : b.toNat / 8 % 2 = 0 ∨ b.toNat / 8 % 2 = 1 := by omega
 generalize b.toNat % 8 = m
 rcases m with _ | _ | _ | _ | _ | _ | m
 ·simp [textP, Pc.str, h5]
 ·simp [textP, Pc.str, h5]
 ·simp [textP, Pc.str, h5']
 ·simp [textP, Pc.str]
 ·rcases h2 with e | e <;> rw [e] <;> rfl
 ·simp [textP, textP_app, Pc.str, h, h', List.append_assoc]
 ·simp [textP, textP_app, Pc.str, h, h', List.append_assoc]
theorem both_str : ∀ (d : Nat), (∀ l y, textP (exP d l) y = exS d l ++ y) ∧ (∀ l y, textP (atP d l) y = atS d l ++ y)
 | 0 => ⟨fun l y => by simp [exP, exS, textP, Pc.str], fun l y => by simp [atP, atS, textP, Pc.str]⟩
 | d + 1 => by
  obtain ⟨h, h'⟩ := both_str d
  refine ⟨fun l y => ?_, fun l y => ?_⟩
  ·cases l with
   | nil => simp [exP, exS, textP, Pc.str]
   | cons b l =>
    rw [exP, exS]
    have k1 := nm3_str (k := b.toNat / 10 % 3) (Nat.mod_lt _ (by decide))
    have k2 := nmN_str (k := b.toNat / 30 % 3) (Nat.mod_lt _ (by decide))
    have k3 := ltN_str (k := b.toNat / 10 % 3) (Nat.mod_lt _ (by decide))
    have k4 := alN_str (k := b.toNat / 10 % 3) (Nat.mod_lt _ (by decide))
    have k5 := alE_str (k := b.toNat / 30 % 3) (Nat.mod_lt _ (by decide))
    have k6 := atPB_str d b l h h' y
    generalize b.toNat / 10 % 3 = p at *
    generalize b.toNat / 30 % 3 = q at *
    generalize b.toNat % 10 = m
    rcases m with _ | _ | _ | _ | _ | _ | _ | _ | m
    ·simp [textP, textP_app, Pc.str, h, h', k1, k2, List.append_assoc]
    ·simp [textP, textP_app, Pc.str, h, h', k1, k2, List.append_assoc]
    ·simp [textP, textP_app, Pc.str, h, h', k3, List.append_assoc]
    ·simp [textP, textP_app, Pc.str, h, h', List.append_assoc]
    ·simp [textP, textP_app, Pc.str, h, h', k4, k5, List.append_assoc]
    ·simp [textP, textP_app, Pc.str, h, h', List.append_assoc]
    ·simp [textP, textP_app, Pc.str, h, h', List.append_assoc]
    ·simp [textP, textP_app, Pc.str, h, h', List.append_assoc]
    ·exact k6
  ·cases l with
   | nil => simp [atP, atS, textP, Pc.str]
   | cons b l =>
    rw [atP, atS]
    exact atPB_str d b l h h' y
theorem exP_str (d : Nat) (l : List UInt8) (y : Str) : textP (exP d l) y = exS d l ++ y := (both_str d).1 l y
/-! ### what they are parsed to -/
theorem w_x : WN [120] 1 := WN_of (by decide) (by decide)
theorem w_y : WN [121] 1 := WN_of (by decide) (by decide)
theorem w_f : WN [102] 1 := WN_of (by decide) (by decide)
theorem w_g : WN [103] 1 := WN_of (by decide) (by decide)
theorem w_id : WN [105, 100] 1 := WN_of (by decide) (by decide)
theorem w_Nil : WN [78, 105, 108] 2 := WN_of (by decide) (by decide)
theorem w_Cons : WN [67, 111, 110, 115] 2 := WN_of (by decide) (by decide)
theorem w_Some : WN [83, 111, 109, 101] 2 := WN_of (by decide) (by decide)
theorem w_None : WN [78, 111, 110, 101] 2 := WN_of (by decide) (by decide)
theorem w_Odd : WN [79, 100, 100] 2 := WN_of (by decide) (by decide)
theorem w_true : WN [116, 114, 117, 101] 4 := WN_of (by decide) (by decide)
theorem w_false : WN [102, 97, 108, 115, 101] 4 := WN_of (by decide) (by decide)
theorem nm3_w (k : Nat) : WN (nm3 k) 1 := by
 rcases k with _ | _ | k
 ·exact w_x
 ·exact w_y
 ·exact w_f
theorem nm5_w (k : Nat) : WN (nm5 k) 1 := by
 rcases k with _ | _ | _ | _ | k
 ·exact w_x
 ·exact w_y
 ·exact w_f
 ·exact w_g
 ·exact w_id
theorem cn5_w (k : Nat) : WN (cn5 k) 2 := by
 rcases k with _ | _ | _ | _ | k
 ·exact w_Nil
 ·exact w_Cons
 ·exact w_Some
 ·exact w_None
 ·exact w_Odd
theorem n_x : PN [.sp 32, .w [120]] [[120]] := PN_cons w_x PN_nil (.inl rfl)
theorem n_g : PN [.sp 32, .w [103]] [[103]] := PN_cons w_g PN_nil (.inl rfl)
theorem n_xy : PN [.sp 32, .w [120], .sp 32, .w [121]] [[120], [121]] := PN_cons w_x (PN_cons w_y PN_nil (.inl rfl)) (.inr ⟨_, rfl⟩)
theorem nmN_n (k : Nat) : ∃ l, PN (nmN k) l ∧ (nmN k = [] ∨ ∃ Q, nmN k = .sp 32 :: Q) := by
 rcases k with _ | _ | k
 ·exact ⟨_, PN_nil, .inl rfl⟩
 ·exact ⟨_, n_g, .inr ⟨_, rfl⟩⟩
 ·exact ⟨_, n_xy, .inr ⟨_, rfl⟩⟩
theorem ltN_n (k : Nat) : WN (ltN k).1 1 ∧ ∃ l, PN (ltN k).2 l ∧ ((ltN k).2 = [] ∨ ∃ Q, (ltN k).2 = .sp 32 :: Q) := by
 rcases k with _ | _ | k
 ·exact ⟨w_id, _, n_x, .inr ⟨_, rfl⟩⟩
 ·exact ⟨w_y, _, PN_nil, .inl rfl⟩
 ·exact ⟨w_f, _, n_xy, .inr ⟨_, rfl⟩⟩
theorem alN_n (k : Nat) : WN (alN k).1 2 ∧ ∃ l, PN (alN k).2 l ∧ ((alN k).2 = [] ∨ ∃ Q, (alN k).2 = .sp 32 :: Q) := by
 rcases k with _ | _ | k
 ·exact ⟨w_Cons, _, n_xy, .inr ⟨_, rfl⟩⟩
 ·exact ⟨w_Some, _, n_x, .inr ⟨_, rfl⟩⟩
 ·exact ⟨w_Nil, _, PN_nil, .inl rfl⟩
theorem alE_n (k : Nat) : alE k = [] ∨ ∃ B A, alE k = .sg 59 :: .sp 32 :: B ∧ PA B A := by
 rcases k with _ | _ | k
 ·exact .inl rfl
 ·exact .inr ⟨_, _, rfl, PA_of (N := []) w_None PN_nil (.inl rfl) (PY_name w_y).x⟩
 ·exact .inr ⟨_, _, rfl, PA_of (N := []) w_Nil PN_nil (.inl rfl) (PX_app2 (PY_name w_f) (PY_name w_x))⟩
def digC (s : Str) : Bool := (match s with | c :: _ => digitB c | [] => false) && (s.all digitB && (numB s).isSome)
theorem dig_ok : ∀ n, n < 256 → digC (digS n) = true := by
 have : (List.range 256).all (fun n => digC (digS n)) = true := by decide +kernel
 intro n hn
 exact List.all_eq_true.1 this n (List.mem_range.2 hn)
theorem atPB_y (d : Nat) (b : UInt8) (l : List UInt8) (h : ∀ l, ∃ X, PX (exP d l) X) (h' : ∀ l, ∃ X, PY (atP d l) X) : ∃ X, PY (atPB (exP d) (atP d) b l) X := by
 unfold atPB
 simp only
 have hb : b.toNat < 256 := b.toNat_lt
 obtain ⟨X, hX⟩ := h l
 obtain ⟨Y, hY⟩ := h' (halfL (b :: l))
 generalize b.toNat / 8 % 5 = p
 generalize b.toNat / 8 % 2 = q
 generalize b.toNat % 8 = m
 rcases m with _ | _ | _ | _ | _ | _ | m
 ·exact ⟨_, PY_name (nm5_w p)⟩
 ·exact ⟨_, PY_name (nm5_w p)⟩
 ·exact ⟨_, PY_con (cn5_w p)⟩
 ·exact ⟨_, PY_int (dig_ok _ hb)⟩
 ·rcases q with _ | q
  ·exact ⟨_, PY_bool w_true (.inl rfl)⟩
  ·exact ⟨_, PY_bool w_false (.inr rfl)⟩
 ·exact ⟨_, PY_pair hX hY.x⟩
 ·exact ⟨_, PY_paren hX⟩
theorem both_x : ∀ (d : Nat), (∀ l, ∃ X, PX (exP d l) X) ∧ (∀ l, ∃ X, PY (atP d l) X)
 | 0 => ⟨fun l => ⟨_, by rw [exP]; exact (PY_name w_x).x⟩, fun l => ⟨_, by rw [atP]; exact PY_name w_x⟩⟩
 | d + 1 => by
  obtain ⟨h, h'⟩ := both_x d
  refine ⟨fun l => ?_, fun l => ?_⟩
  ·cases l with
   | nil => exact ⟨_, by rw [exP]; exact (PY_name w_x).x⟩
   | cons b l =>
    rw [exP]
    obtain ⟨X, hX⟩ := h l
    obtain ⟨Y, hY⟩ := h (halfL (b :: l))
    obtain ⟨U, hU⟩ := h' l
    obtain ⟨V, hV⟩ := h' (halfL (b :: l))
    obtain ⟨W, hW⟩ := h' (halfL l)
    have h8 := atPB_y d b l h h'
    generalize b.toNat / 10 % 3 = p
    generalize b.toNat / 30 % 3 = q
    generalize b.toNat % 10 = m
    obtain ⟨l1, n1, n2⟩ := nmN_n q
    obtain ⟨n3, l2, n4, n5⟩ := ltN_n p
    obtain ⟨n6, l3, n7, n8⟩ := alN_n p
    rcases m with _ | _ | _ | _ | _ | _ | _ | _ | m
    ·exact ⟨_, PX_lam (nm3_w p) n1 n2 hX⟩
    ·exact ⟨_, PX_lam (nm3_w p) n1 n2 hX⟩
    ·exact ⟨_, PX_let n3 n4 n5 hX hY⟩
    ·exact ⟨_, PX_if hX hV.x hY⟩
    ·have hA := PA_of n6 n7 n8 hY
     rcases alE_n q with e | ⟨B, A, e, hB⟩
     ·rw [e, List.nil_append]
      exact ⟨_, PX_case1 hX hA⟩
     ·rw [e]
      exact ⟨_, PX_case2 hX hA hB⟩
    ·exact ⟨_, PX_app2 hU hV⟩
    ·exact ⟨_, PX_app2 hU hV⟩
    ·exact ⟨_, PX_app3 hU hV hW⟩
    ·obtain ⟨Z, hZ⟩ := h8
     exact ⟨Z, hZ.x⟩
  ·cases l with
   | nil => exact ⟨_, by rw [atP]; exact PY_name w_x⟩
   | cons b l =>
    rw [atP]
    exact atPB_y d b l h h'
theorem exP_x (d : Nat) (l : List UInt8) : ∃ X, PX (exP d l) X := (both_x d).1 l
end Go.Am.Ps
namespace Go.Am.Ps
mutual
theorem deep_bare : ∀ e : Ex, deepE (bareE e) = deepE e
 | .mk k a s n ks as => by
  rw [bareE, deepE, deepE, deeps_bare ks 0, deepA_bare as]
theorem deeps_bare : ∀ (l : List Ex) (m : Int), deepEs m (bareEs l) = deepEs m l
 | [], m => rfl
 | e :: l, m => by rw [bareEs, deepEs, deepEs, deep_bare e, deeps_bare l]
theorem deepA_bare : ∀ (l : List Al) (m : Int), deepAs m (bareAs l) = deepAs m l
 | [], m => rfl
 | .mk a c ns b :: l, m => by rw [bareAs, deepAs, deepAs, deepA, deepA, deep_bare b, deepA_bare l]
end
theorem none_iff {α : Type} {o p : Option α} (h : o.isNone = p.isNone) : o = none ↔ p = none := by
 cases o <;> cases p <;> simp at h ⊢
theorem any_cons {B B' : List Str} (h : ∀ x, B.any (eqS x) = B'.any (eqS x)) (s : Str) : ∀ x, (s :: B).any (eqS x) = (s :: B').any (eqS x) := fun x => by
 simp only [List.any_cons, h x]
theorem any_app {B B' : List Str} (h : ∀ x, B.any (eqS x) = B'.any (eqS x)) (l : List Str) : ∀ x, (l ++ B).any (eqS x) = (l ++ B').any (eqS x) := fun x => by
 simp only [List.any_append, h x]
theorem headW_bare (ds : List Da) {B B' : List Str} (h : ∀ x, B.any (eqS x) = B'.any (eqS x)) (k a a' : Nat) (s : Str) : (headW ds B k a s).isNone = (headW ds B' k a' s).isNone := by
 unfold headW
 rw [h s]
 cases Nat.beq k 1 with
 | true => cases B'.any (eqS s) <;> rfl
 | false =>
  cases Nat.beq k 2 with
  | true => cases conN ds s <;> rfl
  | false => rfl
mutual
theorem wr_bare (ds : List Da) : ∀ (e : Ex) (B B' : List Str), (∀ x, B.any (eqS x) = B'.any (eqS x)) → (wrE ds B e).isNone = (wrE ds B' (bareE e)).isNone
 | .mk k a s n ks as, B, B', h => by
  rw [bareE, wrE, wrE]
  have h1 := headW_bare ds h k a 0 s
  have h2 := wrK_bare ds ks k s 0 B B' h
  have h3 := wrA_bare ds as B B' [] h
  cases e1 : headW ds B k a s <;> cases e2 : headW ds B' k 0 s <;> rw [e1, e2] at h1 <;> simp at h1 ⊢
  cases e3 : wrK ds k s 0 B ks <;> cases e4 : wrK ds k s 0 B' (bareEs ks) <;> rw [e3, e4] at h2 <;> simp at h2 ⊢
  simpa using h3
theorem wrK_bare (ds : List Da) : ∀ (l : List Ex) (k : Nat) (s : Str) (i : Nat) (B B' : List Str), (∀ x, B.any (eqS x) = B'.any (eqS x)) → (wrK ds k s i B l).isNone = (wrK ds k s i B' (bareEs l)).isNone
 | [], k, s, i, B, B', h => rfl
 | e :: l, k, s, i, B, B', h => by
  rw [bareEs, wrK, wrK]
  have h1 := wr_bare ds e (s :: B) (s :: B') (any_cons h s)
  have h2 := wr_bare ds e B B' h
  have h3 := wrK_bare ds l k s (i + 1) B B' h
  cases bindsK k i with
  | true =>
   simp only
   cases e1 : wrE ds (s :: B) e <;> cases e2 : wrE ds (s :: B') (bareE e) <;> rw [e1, e2] at h1 <;> simp at h1 ⊢
   simpa using h3
  | false =>
   simp only
   cases e1 : wrE ds B e <;> cases e2 : wrE ds B' (bareE e) <;> rw [e1, e2] at h2 <;> simp at h2 ⊢
   simpa using h3
theorem wrA_bare (ds : List Da) : ∀ (l : List Al) (B B' had : List Str), (∀ x, B.any (eqS x) = B'.any (eqS x)) → (wrA ds B had l).isNone = (wrA ds B' had (bareAs l)).isNone
 | [], B, B', had, h => rfl
 | .mk a c ns b :: l, B, B', had, h => by
  rw [bareAs, wrA, wrA]
  have h1 := wr_bare ds b (ns ++ B) (ns ++ B') (any_app h ns)
  have h3 := wrA_bare ds l B B' (c :: had) h
  cases altW ds had c ns with
  | false => rfl
  | true =>
   simp only
   cases e1 : wrE ds (ns ++ B) b <;> cases e2 : wrE ds (ns ++ B') (bareE b) <;> rw [e1, e2] at h1 <;> simp at h1 ⊢
   simpa using h3
end
def bareB (b : Bi) : Str × Ex := (b.s, bareE b.b)
theorem twice_ok : ∀ (l : List Bi) (had : List Str), (∀ b ∈ l, b.s ∉ had) → (l.map (·.s)).Nodup → twiceB had l = .ok ((l.map (·.s)).reverse ++ had)
 | [], had, _, _ => rfl
 | b :: l, had, h, hn => by
  rw [List.map_cons, List.nodup_cons] at hn
  have h1 : had.any (eqS b.s) = false := by
   rw [List.any_eq_false]
   intro x hx
   rw [eqS_dec, decide_eq_true_iff]
   exact fun e => h b (by simp) (by rw [e]; exact hx)
  rw [twiceB, h1]
  simp only
  rw [twice_ok l (b.s :: had) (fun c hc => by
   rw [List.mem_cons]
   rintro (e | e)
   ·exact hn.1 (by rw [← e]; exact List.mem_map.2 ⟨c, hc, rfl⟩)
   ·exact h c (by simp [hc]) e) hn.2]
  simp
theorem wrBs_none (ds : List Da) (B : List Str) : ∀ l : List Bi, wrBs ds B l = none ↔ ∀ b ∈ l, wrE ds B b.b = none
 | [] => by simp [wrBs]
 | b :: l => by
  rw [wrBs]
  cases h : wrE ds B b.b with
  | some x => simp [h]
  | none => simp [h, wrBs_none ds B l]
theorem less_some (o : Option Nat) (a : Nat) : ∃ x, less o a = some x := by
 unfold less
 cases o with
 | none => exact ⟨a, rfl⟩
 | some b => simp only; split <;> exact ⟨_, rfl⟩
theorem tooB_some : ∀ (l : List Bi) (x : Nat), ∃ y, tooB (some x) l = some y
 | [], x => ⟨x, rfl⟩
 | b :: l, x => by
  rw [tooB]
  split
  ·obtain ⟨y, hy⟩ := less_some (some x) b.a
   rw [hy]; exact tooB_some l y
  ·exact tooB_some l x
theorem tooB_none : ∀ l : List Bi, tooB none l = none ↔ ∀ b ∈ l, ¬ 60 < deepE b.b
 | [] => ⟨(fun _ b hb => by cases hb), fun _ => rfl⟩
 | b :: l => by
  rw [tooB]
  by_cases h : 60 < deepE b.b
  ·obtain ⟨y, hy⟩ := less_some none b.a
   rw [if_pos h, hy]
   obtain ⟨z, hz⟩ := tooB_some l y
   rw [hz]
   exact ⟨(fun e => by cases e), fun k => absurd h (k b (by simp))⟩
  ·rw [if_neg h, tooB_none l]
   refine ⟨fun k c hc => ?_, fun k c hc => k c (by simp [hc])⟩
   rcases List.mem_cons.1 hc with rfl | hc
   ·exact h
   ·exact k c hc
def GoodB (ds : List Da) (S : List (Str × Ex)) : Prop := (∀ q ∈ S, ¬ 60 < deepE q.2) ∧ ∀ q ∈ S, wrE ds (S.map (·.1)) q.2 = none
theorem GoodB.perm {ds : List Da} {S S' : List (Str × Ex)} (h : GoodB ds S) (hp : S'.Perm S) (hb : ∀ q ∈ S, bareE q.2 = q.2) : GoodB ds S' := by
 refine ⟨fun q hq => h.1 q (hp.mem_iff.1 hq), fun q hq => ?_⟩
 have hq' := hp.mem_iff.1 hq
 have hany : ∀ x, (S'.map (·.1)).any (eqS x) = (S.map (·.1)).any (eqS x) := fun x => by
  rw [Bool.eq_iff_iff, List.any_eq_true, List.any_eq_true]
  constructor
  ·rintro ⟨y, hy, e⟩
   exact ⟨y, (hp.map _).mem_iff.1 hy, e⟩
  ·rintro ⟨y, hy, e⟩
   exact ⟨y, (hp.map _).mem_iff.2 hy, e⟩
 have := wr_bare ds q.2 _ _ hany
 rw [hb q hq'] at this
 exact (none_iff this).2 (h.2 q hq')
theorem goodB_of (ds : List Da) (hd : checkData ds = none) (bs : List Bi) (hn : (bs.map (·.s)).Nodup) : (tooB none bs = none ∧ checkScope ⟨ds, bs⟩ = none) ↔ GoodB ds (bs.map bareB) := by
 have ht := twice_ok bs [] (by simp) hn
 rw [List.append_nil] at ht
 have hB : (bs.map bareB).map (·.1) = bs.map (·.s) := by rw [List.map_map]; rfl
 have hany : ∀ x, ((bs.map (·.s)).reverse).any (eqS x) = (bs.map (·.s)).any (eqS x) := fun x => by
  rw [List.any_reverse]
 unfold checkScope GoodB
 simp only [hd, ht, hB]
 rw [tooB_none]
 constructor
 ·rintro ⟨h1, h2⟩
  refine ⟨fun q hq => ?_, fun q hq => ?_⟩
  ·obtain ⟨b, hb, rfl⟩ := List.mem_map.1 hq
   show ¬ 60 < deepE (bareE b.b)
   rw [deep_bare]; exact h1 b hb
  ·obtain ⟨b, hb, rfl⟩ := List.mem_map.1 hq
   have h3 : wrBs ds (bs.map (·.s)).reverse bs = none := by
    cases e : wrBs ds (bs.map (·.s)).reverse bs with
    | none => rfl
    | some x => rw [e] at h2; cases h2
   have h4 := (wrBs_none ds _ bs).1 h3 b hb
   exact (none_iff (wr_bare ds b.b _ _ hany)).1 h4
 ·rintro ⟨h1, h2⟩
  have h3 : wrBs ds (bs.map (·.s)).reverse bs = none := (wrBs_none ds _ bs).2 fun b hb =>
   (none_iff (wr_bare ds b.b _ _ hany)).2 (h2 (bareB b) (List.mem_map.2 ⟨b, hb, rfl⟩))
  refine ⟨fun b hb => ?_, by rw [h3]⟩
  have := h1 (bareB b) (List.mem_map.2 ⟨b, hb, rfl⟩)
  have e : deepE (bareB b).2 = deepE b.b := deep_bare b.b
  rw [e] at this; exact this
mutual
theorem bare_bare : ∀ e : Ex, bareE (bareE e) = bareE e
 | .mk k a s n ks as => by rw [bareE, bareE, bares_bare ks, bareA_bare as]
theorem bares_bare : ∀ l : List Ex, bareEs (bareEs l) = bareEs l
 | [] => rfl
 | e :: l => by rw [bareEs, bareEs, bare_bare e, bares_bare l]
theorem bareA_bare : ∀ l : List Al, bareAs (bareAs l) = bareAs l
 | [] => rfl
 | .mk a c ns b :: l => by rw [bareAs, bareAs, bare_bare b, bareA_bare l]
end
end Go.Am.Ps
namespace Go.Am.Ps
open Go.Am.Try
def headsP : List Pc := [.w [100, 97, 116, 97], .sp 32, .w [76, 105, 115, 116], .sp 32, .w [97], .sp 32, .sg 61, .sp 32, .w [78, 105, 108], .sp 32, .sg 124, .sp 32, .w [67, 111, 110, 115], .sp 32, .w [97], .sp 32, .sg 40, .w [76, 105, 115, 116], .sp 32, .w [97], .sg 41, .sg 59, .sp 10, .w [100, 97, 116, 97], .sp 32, .w [79, 112, 116], .sp 32, .w [97], .sp 32, .sg 61, .sp 32, .w [78, 111, 110, 101], .sp 32, .sg 124, .sp 32, .w [83, 111, 109, 101], .sp 32, .w [97], .sg 59, .sp 10, .w [100, 97, 116, 97], .sp 32, .w [70], .sp 32, .w [97], .sp 32, .w [98], .sp 32, .sg 61, .sp 32, .w [79, 100, 100], .sp 32, .sg 40, .w [97], .sp 32, .ar, .sp 32, .w [98], .sg 41, .sp 32, .sg 40, .w [97], .sg 44, .sp 32, .w [73, 110, 116], .sg 41, .sg 59, .sp 10]
theorem heads_str (y : Str) : textP headsP y = headsS ++ y := rfl
theorem heads_ok (y : Str) : okP headsP y = true := rfl
def headsT : List Tok := toksP 0 headsP
def headsD : List Da := (decls 0 60 4 ⟨[], []⟩ ⟨0, headsT, false, 0⟩).1.ds
theorem heads_decls (E n m : Nat) (R : List Tok) : decls E (n + 40) (m + 3) ⟨[], []⟩ ⟨0, headsT ++ R, false, 0⟩ = decls E (n + 40) m ⟨headsD, []⟩ ⟨headsT.length, R, false, 0⟩ := by kernel_rfl
theorem heads_deep (o : Option Nat) : tooD o headsD = o := rfl
theorem heads_data : checkData headsD = none := by kernel_rfl
def strP (P : List Pc) : Str := textP P []
theorem textP_str : ∀ (P : List Pc) (y : Str), textP P y = strP P ++ y
 | [], y => rfl
 | a :: P, y => by
  unfold strP
  rw [textP, textP, textP_str P y, textP_str P [], List.append_nil, List.append_assoc]
theorem strP_flat : ∀ L : List (List Pc), strP L.flatten = (L.map strP).flatten
 | [] => rfl
 | P :: L => by
  have := strP_flat L
  unfold strP at this ⊢
  rw [List.flatten_cons, textP_app, this]
  exact textP_str P _
theorem binds_all : ∀ (L : List (List Pc × Str × Ex)), (∀ q ∈ L, PB q.1 q.2.1 q.2.2) → ∀ (i n m E : Nat) (out : Pg) (j a : Nat), 8 * (toksL i (L.map (·.1))).flatten.length ≤ n → L.length ≤ m → ∃ bs j', decls E n m out ⟨j, (toksL i (L.map (·.1))).flatten, false, a⟩ = ({ out with bs := out.bs ++ bs }, ⟨j', [], false, a⟩) ∧ bs.map bareB = L.map (·.2)
 | [], h, i, n, m, E, out, j, a, hn, hm => by
  refine ⟨[], j, ?_, rfl⟩
  cases m with
  | zero => simp [decls, toksL]
  | succ m => simp [decls, toksL]
 | q :: L, h, i, n, m, E, out, j, a, hn, hm => by
  obtain ⟨m, rfl⟩ : ∃ k, m = k + 1 := ⟨m - 1, by simp at hm; omega⟩
  obtain ⟨hb, _⟩ := h q (by simp)
  obtain ⟨hne, hd⟩ := hb i
  simp only [List.map_cons, toksL, List.flatten_cons, List.length_append] at hn ⊢
  obtain ⟨b, j1, a1, a2, a3⟩ := hd n (by omega) E out (toksL (i + lenP q.1) (L.map (·.1))).flatten j a
  obtain ⟨bs, j2, b1, b2⟩ := binds_all L (fun x hx => h x (by simp [hx])) (i + lenP q.1) n m E { out with bs := out.bs ++ [b] } j1 a (by omega) (by simp at hm; omega)
  refine ⟨b :: bs, j2, ?_, by rw [List.map_cons, b2]; unfold bareB; rw [a2, a3]⟩
  cases hts : toksP i q.1 with
  | nil => exact absurd hts hne
  | cons t ts =>
   rw [hts] at a1
   simp only [List.cons_append] at a1 ⊢
   simp only [decls, a1, b1]
   simp
theorem check_of (L : List (List Pc × Str × Ex)) (h : ∀ q ∈ L, PB q.1 q.2.1 q.2.2) (hn : (L.map fun q => q.2.1).Nodup) : (checkS (headsS ++ (L.map fun q => strP q.1).flatten)).1 = 0 ↔ (headsS ++ (L.map fun q => strP q.1).flatten).length ≤ 65536 ∧ GoodB headsD (L.map (·.2)) := by
 have hT : headsS ++ (L.map fun q => strP q.1).flatten = textP (headsP ++ (L.map (·.1)).flatten) [] := by
  rw [textP_app, heads_str]
  congr 1
  have := strP_flat (L.map (·.1))
  unfold strP at this ⊢
  rw [this, List.map_map]
  rfl
 rw [hT]
 obtain ⟨P, hP⟩ : ∃ P, P = headsP ++ (L.map (·.1)).flatten := ⟨_, rfl⟩
 rw [← hP]
 have hok : okP P [] = true := by
  rw [hP, okP_app, heads_ok, ok_flat (L.map (·.1)) [] fun Q hQ y => by
   obtain ⟨q, hq, rfl⟩ := List.mem_map.1 hQ
   exact (h q hq).2 y]
  rfl
 by_cases hl : (textP P []).length ≤ 65536
 rotate_left
 ·have : lex (textP P []) = .bad 1 0 := by
   unfold lex
   rw [if_neg (by rw [Nat.ble_eq]; exact hl)]
  have h1 : parse (textP P []) = .bad 1 0 := by unfold parse; rw [this]
  have h2 : checkS (textP P []) = (-1, 0) := by unfold checkS; rw [h1]
  rw [h2]
  exact ⟨(fun e => by cases e), fun k => absurd k.1 hl⟩
 have hlex := lex_whole hok hl
 have htok : toksP 0 P = headsT ++ (toksL (lenP headsP) (L.map (·.1))).flatten := by
  rw [hP, toksP_app, Nat.zero_add, toksL_flat]
  rfl
 obtain ⟨R, hR⟩ : ∃ R, R = (toksL (lenP headsP) (L.map (·.1))).flatten := ⟨_, rfl⟩
 rw [← hR] at htok
 have hcount : L.length ≤ R.length := by
  have := flat_len (toksL (lenP headsP) (L.map (·.1))) (fun ts hts => by
   obtain ⟨Q, h1, k, rfl⟩ := toksL_mem _ _ ts hts
   obtain ⟨q, hq, rfl⟩ := List.mem_map.1 h1
   exact ((h q hq).1 k).1)
  rw [toksL_len, List.length_map] at this
  rw [hR]; exact this
 have hlen : (toksP 0 P).length = headsT.length + R.length := by rw [htok, List.length_append]
 have hh : 3 ≤ headsT.length := by decide
 obtain ⟨bs, j', e1, e2⟩ := binds_all L h (lenP headsP) (8 * (toksP 0 P).length + 40) ((toksP 0 P).length + 1 - 3) (textP P []).length ⟨headsD, []⟩ headsT.length 0 (by rw [← hR]; omega) (by omega)
 rw [← hR] at e1
 have e3 := heads_decls (textP P []).length (8 * (toksP 0 P).length) ((toksP 0 P).length + 1 - 3) R
 rw [show (toksP 0 P).length + 1 - 3 + 3 = (toksP 0 P).length + 1 by omega] at e3
 have hpar : parse (textP P []) = (match tooDeep ⟨headsD, bs⟩ with | some a => .bad 5 a | none => .ok ⟨headsD, bs⟩) := by
  unfold parse
  rw [hlex]
  simp only
  have e4 : decls (textP P []).length (8 * (toksP 0 P).length + 40) ((toksP 0 P).length + 1) ⟨[], []⟩ ⟨0, toksP 0 P, false, 0⟩ = (⟨headsD, [] ++ bs⟩, ⟨j', [], false, 0⟩) := by
   conv => lhs; rw [htok]
   rw [← htok]
   exact (by rw [htok] at e3 ⊢; exact e3.trans (by rw [← htok]; exact e1))
  rw [e4]
  rfl
 have hnd : (bs.map (·.s)).Nodup := by
  have : bs.map (·.s) = L.map fun q => q.2.1 := by
   have := congrArg (List.map (·.1)) e2
   rw [List.map_map, List.map_map] at this
   exact this
  rw [this]; exact hn
 have hg := goodB_of headsD heads_data bs hnd
 rw [e2] at hg
 rw [← hg]
 unfold checkS
 rw [hpar]
 have hd : tooDeep ⟨headsD, bs⟩ = tooB none bs := by
  unfold tooDeep
  exact heads_deep _
 rw [hd]
 cases ht : tooB none bs with
 | some x => exact ⟨(fun e => by cases e), fun k => by cases k.2.1⟩
 | none =>
  simp only
  cases hc : checkScope ⟨headsD, bs⟩ with
  | none => exact ⟨fun _ => ⟨hl, by simp⟩, fun _ => rfl⟩
  | some x =>
   refine ⟨fun e => ?_, fun k => by simp at k⟩
   exfalso
   have hx : x.1 = 6 ∨ x.1 = 7 := by
    unfold checkScope at hc
    split at hc
    ·left; simp at hc; rw [← hc]
    ·split at hc
     ·right; simp at hc; rw [← hc]
     ·split at hc
      ·right; simp at hc; rw [← hc]
      ·cases hc
   obtain ⟨x1, x2⟩ := x
   have e : ((x1 : Nat) : Int) = 0 := e
   have hx : x1 = 6 ∨ x1 = 7 := hx
   omega
theorem check_perm (L L' : List (List Pc × Str × Ex)) (h : ∀ q ∈ L, PB q.1 q.2.1 q.2.2) (hX : ∀ q ∈ L, bareE q.2.2 = q.2.2) (hn : (L.map fun q => q.2.1).Nodup) (hp : L'.Perm L) : (checkS (headsS ++ (L.map fun q => strP q.1).flatten)).1 = 0 ↔ (checkS (headsS ++ (L'.map fun q => strP q.1).flatten)).1 = 0 := by
 have h' : ∀ q ∈ L', PB q.1 q.2.1 q.2.2 := fun q hq => h q (hp.mem_iff.1 hq)
 have hn' : (L'.map fun q => q.2.1).Nodup := (hp.map _).nodup_iff.2 hn
 rw [check_of L h hn, check_of L' h' hn']
 have hlen : (headsS ++ (L'.map fun q => strP q.1).flatten).length = (headsS ++ (L.map fun q => strP q.1).flatten).length := by
  rw [List.length_append, List.length_append]
  congr 1
  exact ((hp.map _).flatten).length_eq
 rw [hlen]
 have hb : ∀ q ∈ L.map (·.2), bareE q.2 = q.2 := fun q hq => by
  obtain ⟨r, hr, rfl⟩ := List.mem_map.1 hq
  exact hX r hr
 have hb' : ∀ q ∈ L'.map (·.2), bareE q.2 = q.2 := fun q hq => hb q ((hp.map _).mem_iff.1 hq)
 exact ⟨fun ⟨k1, k2⟩ => ⟨k1, k2.perm (hp.map _) hb⟩, fun ⟨k1, k2⟩ => ⟨k1, k2.perm (hp.map _).symm hb'⟩⟩
theorem PX.bare {P : List Pc} {X : Ex} (h : PX P X) : bareE X = X := by
 obtain ⟨e, j', _, h2⟩ := h.1 0 (8 * (toksP 0 P).length) (Nat.le_refl _) 0 [] 0 0 rfl
 rw [← h2, bare_bare]
theorem PB.bare {P : List Pc} {s : Str} {X : Ex} (h : PB P s X) : bareE X = X := by
 obtain ⟨b, j', _, _, h2⟩ := (h.1 0).2 (8 * (toksP 0 P).length) (Nat.le_refl _) 0 ⟨[], []⟩ [] 0 0
 rw [← h2, bare_bare]
end Go.Am.Ps
namespace Go.Am.Try
open Go Go.Am.Ps
theorem str_op {x y : Str} (h : x.length + y.length < 2 ^ 62) : ∃ z, z = x ++ y ∧ strOp .add x y = some (.str z) := ⟨_, rfl, by simp only [strOp]; rw [if_pos h]⟩
set_option maxHeartbeats 2000000 in
theorem lp13 (SL : List Str) (hl : SL.length = 5) (K : Nat) (hb : ∀ s ∈ SL, s.length ≤ K) (hK : K ≤ 2 ^ 50) (t : Nat) (ht : t < 256) : ∀ (f i : Nat) (A B : Str), i + f = 5 → A.length + f * K ≤ 2 ^ 60 → B.length + f * K ≤ 2 ^ 60 →
  ∃ fr', Lp ctx [] [] [1, 5, 6, 7, 8] b13_0 ⟨[(1, .v (.int .u8 t)), (5, .v (.sl 1 (encSs SL))), (6, .v (.str A)), (7, .v (.str B)), (8, .v (.int .i64 i))], false⟩ [] (.ex 0) fr' [] ∧ fr'.lk = false ∧ getS fr'.sl 6 = .v (.str (A ++ (SL.drop i).flatten)) ∧ getS fr'.sl 7 = .v (.str (B ++ ((List.range' i f).map fun k => SL.getD ((k * 2 + t) % 5) []).flatten)) ∧ Hi 49 fr' ∧ getS fr'.sl 9 = .u ∧ getS fr'.sl 10 = .u ∧ getS fr'.sl 11 = .u ∧ getS fr'.sl 12 = .u ∧ getS fr'.sl 4 = .u
 | 0, i, A, B, hi, h1, h2 => by
  have e : i = 5 := by omega
  subst e
  have hd : (SL.drop 5).flatten = [] := by rw [List.drop_of_length_le (by omega)]; rfl
  have hll : (encSs SL).length = 5 := by simp [encSs, hl]
  rw [hd]
  refine ⟨?_, Lp.exit ⟨0, fun N _ => ?_⟩ (by simp), ?_⟩
  rotate_left
  ·simp -implicitDefEqProofs [b13_0, hll]
   rfl
  ·exact ⟨by simp, by simp, by simp, hi_of (by simp), by simp, by simp, by simp, by simp, by simp⟩
 | f + 1, i, A, B, hi, h1, h2 => by
  have hmul : (f + 1) * K = f * K + K := Nat.succ_mul f K
  have hi5 : i < 5 := by omega
  obtain ⟨s, hs⟩ : ∃ s, SL[i]? = some s := ⟨_, List.getElem?_eq_getElem (by omega)⟩
  obtain ⟨q, hq⟩ : ∃ q, q = (i * 2 + t) % 5 := ⟨_, rfl⟩
  have hq5 : q < 5 := by omega
  obtain ⟨u, hu⟩ : ∃ u, SL[q]? = some u := ⟨_, List.getElem?_eq_getElem (by omega)⟩
  have hsK := hb s (List.mem_of_getElem? hs)
  have huK := hb u (List.mem_of_getElem? hu)
  obtain ⟨A', a1, a2⟩ := str_op (x := A) (y := s) (by omega)
  obtain ⟨B', b1, b2⟩ := str_op (x := B) (y := u) (by omega)
  obtain ⟨fr', l1, l2⟩ := lp13 SL hl K hb hK t ht f (i + 1) A' B' (by omega) (by rw [a1, List.length_append]; omega) (by rw [b1, List.length_append]; omega)
  have eA : A' ++ (SL.drop (i + 1)).flatten = A ++ (SL.drop i).flatten := by
   have : SL.drop i = s :: SL.drop (i + 1) := by
    obtain ⟨h3, h4⟩ := List.getElem?_eq_some_iff.1 hs
    rw [List.drop_eq_getElem_cons h3, h4]
   rw [a1, this, List.flatten_cons, List.append_assoc]
  have eB : B' ++ ((List.range' (i + 1) f).map fun k => SL.getD ((k * 2 + t) % 5) []).flatten = B ++ ((List.range' i (f + 1)).map fun k => SL.getD ((k * 2 + t) % 5) []).flatten := by
   have : SL.getD ((i * 2 + t) % 5) [] = u := by rw [← hq, List.getD_eq_getElem?_getD, hu]; rfl
   rw [b1, List.range'_succ, List.map_cons, List.flatten_cons, this, List.append_assoc]
  rw [eA, eB] at l2
  have gs : (encSs SL)[i]? = some (.str s) := by unfold encSs; rw [List.getElem?_map, hs]; rfl
  have gu : (encSs SL)[q]? = some (.str u) := by unfold encSs; rw [List.getElem?_map, hu]; rfl
  have hll : (encSs SL).length = 5 := by simp [encSs, hl]
  have hix := idx_lt hi5
  have hiq := idx_lt hq5
  have hw := wrap_succ (n := i) (by unfold big; omega)
  have hlt : (i : Int) < 5 := by omega
  have w1 : IntKind.i64.wrap ((i : Int) * 2) = ((i * 2 : Nat) : Int) := by rw [wrap_i64 (by omega)]; omega
  have w2 : IntKind.i64.wrap ((t : Nat) : Int) = (t : Int) := wrap_i64 (by omega)
  have w3 : IntKind.i64.wrap (((i * 2 : Nat) : Int) + (t : Int)) = ((i * 2 + t : Nat) : Int) := by rw [wrap_i64 (by omega)]; omega
  have w4 : Int.tmod ((i * 2 + t : Nat) : Int) 5 = (q : Int) := by rw [hq]; rfl
  obtain ⟨Z1, hZ1⟩ : ∃ Z1 : Int, Z1 = ((i * 2 : Nat) : Int) := ⟨_, rfl⟩
  obtain ⟨Z2, hZ2⟩ : ∃ Z2 : Int, Z2 = ((i * 2 + t : Nat) : Int) := ⟨_, rfl⟩
  rw [← hZ1] at w1 w3
  rw [← hZ2] at w3 w4
  refine ⟨fr', Lp.step ⟨0, fun N hN => ?_⟩ l1, l2⟩
  clear l1 l2 eA eB
  simp -implicitDefEqProofs [b13_0, hll, hlt, hix, hiq, ↓gs, ↓gu, hw, w1, w2, w3, w4, a2, b2, -strOp]
def b0P : List Pc := .w [108, 101, 116] :: .sp 32 :: .w [120] :: ([] ++ .sp 32 :: .sg 61 :: .sp 32 :: ([.w [121]] ++ [.sg 59]))
def b1P : List Pc := .w [108, 101, 116] :: .sp 32 :: .w [121] :: ([] ++ .sp 32 :: .sg 61 :: .sp 32 :: ([.nu [49]] ++ [.sg 59]))
def b2P (P : List Pc) : List Pc := .w [108, 101, 116] :: .sp 32 :: .w [102] :: ([.sp 32, .w [120]] ++ .sp 32 :: .sg 61 :: .sp 32 :: (P ++ [.sg 59]))
def b3P : List Pc := .w [108, 101, 116] :: .sp 32 :: .w [103] :: ([] ++ .sp 32 :: .sg 61 :: .sp 32 :: (([.w [102]] ++ .sp 32 :: [.w [120]]) ++ [.sg 59]))
def b4P : List Pc := .w [108, 101, 116] :: .sp 32 :: .w [105, 100] :: ([.sp 32, .w [120]] ++ .sp 32 :: .sg 61 :: .sp 32 :: ([.w [120]] ++ [.sg 59]))
def s0S : Str := [108, 101, 116, 32, 120, 32, 61, 32, 121, 59]
def s1S : Str := [108, 101, 116, 32, 121, 32, 61, 32, 49, 59]
def s2H : Str := [108, 101, 116, 32, 102, 32, 120, 32, 61, 32]
def s3S : Str := [108, 101, 116, 32, 103, 32, 61, 32, 102, 32, 120, 59]
def s4S : Str := [108, 101, 116, 32, 105, 100, 32, 120, 32, 61, 32, 120, 59]
theorem perm5 {α : Type} (a b c d e : α) (L : List α) (hL : L = [a, b, c, d, e]) (z : α) (t : Nat) : ((List.range 5).map fun k => L.getD ((k * 2 + t) % 5) z).Perm L := by
 have h1 : ((List.range 5).map fun k => L.getD ((k * 2 + t) % 5) z) = ((List.range 5).map fun k => (k * 2 + t % 5) % 5).map fun k => L.getD k z := by
  rw [List.map_map]
  refine List.map_congr_left fun k _ => ?_
  simp only [Function.comp]
  congr 1
  omega
 have h2 : L = (List.range 5).map fun k => L.getD k z := by subst hL; rfl
 rw [h1]
 conv => rhs; rw [h2]
 refine List.Perm.map _ ?_
 have hr : t % 5 = 0 ∨ t % 5 = 1 ∨ t % 5 = 2 ∨ t % 5 = 3 ∨ t % 5 = 4 := by omega
 rcases hr with e | e | e | e | e <;> rw [e] <;> decide
theorem order_plain (ns : List UInt8) (S2 : Str) (h2 : S2 = s2H ++ exS 8 ns ++ [59]) (t : Nat) (SL : List Str) (hSL : SL = [s0S, s1S, S2, s3S, s4S]) : (checkS (headsS ++ SL.flatten)).1 = 0 ↔ (checkS (headsS ++ ((List.range 5).map fun k => SL.getD ((k * 2 + t) % 5) []).flatten)).1 = 0 := by
 obtain ⟨X, hX⟩ := exP_x 8 ns
 obtain ⟨X0, p0⟩ : ∃ X, PB b0P [120] X := ⟨_, PB_of w_x PN_nil (.inl rfl) (PY_name w_y).x⟩
 obtain ⟨X1, p1⟩ : ∃ X, PB b1P [121] X := ⟨_, PB_of w_y PN_nil (.inl rfl) (PY_int (s := [49]) (by decide)).x⟩
 obtain ⟨X2, p2⟩ : ∃ X, PB (b2P (exP 8 ns)) [102] X := ⟨_, PB_of w_f n_x (.inr ⟨_, rfl⟩) hX⟩
 obtain ⟨X3, p3⟩ : ∃ X, PB b3P [103] X := ⟨_, PB_of w_g PN_nil (.inl rfl) (PX_app2 (PY_name w_f) (PY_name w_x))⟩
 obtain ⟨X4, p4⟩ : ∃ X, PB b4P [105, 100] X := ⟨_, PB_of w_id n_x (.inr ⟨_, rfl⟩) (PY_name w_x).x⟩
 obtain ⟨L, hL⟩ : ∃ L : List (List Pc × Str × Ex), L = [(b0P, [120], X0), (b1P, [121], X1), (b2P (exP 8 ns), [102], X2), (b3P, [103], X3), (b4P, [105, 100], X4)] := ⟨_, rfl⟩
 have hPB : ∀ q ∈ L, PB q.1 q.2.1 q.2.2 := fun q hq => by
  rw [hL] at hq
  simp only [List.mem_cons, List.not_mem_nil, or_false] at hq
  rcases hq with rfl | rfl | rfl | rfl | rfl
  ·exact p0
  ·exact p1
  ·exact p2
  ·exact p3
  ·exact p4
 have e2 : strP (b2P (exP 8 ns)) = S2 := by
  rw [h2]
  unfold strP b2P s2H
  simp only [textP, textP_app, Pc.str, exP_str, List.append_assoc, List.cons_append, List.nil_append, List.append_nil]
 have hmap : SL = L.map fun q => strP q.1 := by
  rw [hSL, hL]
  simp only [List.map_cons, List.map_nil, e2]
  rfl
 have hp := perm5 _ _ _ _ _ L hL ([], [], ex0) t
 have := check_perm L _ hPB (fun q hq => (hPB q hq).bare) (by rw [hL]; exact (by decide : ([[120], [121], [102], [103], [105, 100]] : List Str).Nodup)) hp
 have e3 : ((List.range 5).map fun k => SL.getD ((k * 2 + t) % 5) []) = ((List.range 5).map fun k => L.getD ((k * 2 + t) % 5) ([], [], ex0)).map fun q => strP q.1 := by
  rw [List.map_map]
  refine List.map_congr_left fun k _ => ?_
  simp only [Function.comp]
  rw [hmap, List.getD_eq_getElem?_getD, List.getD_eq_getElem?_getD, List.getElem?_map]
  cases L[(k * 2 + t) % 5]? <;> rfl
 rw [e3, hmap]
 exact this
set_option maxHeartbeats 4000000 in
theorem scopeOrder_ans (ns : List UInt8) (t : UInt8) (nl : Bool) : Ans ctx 13 [encR 1 nl (ofBytes ns), .int .u8 t.toNat] (.bool true) := by
 obtain ⟨ka, ha⟩ := awake13_ans
 by_cases hlen : 40 < ns.length
 ·have hl2 : (40 : Int) < (ns.length : Int) := by omega
  refine Ans.of (σ' := []) fn13_ (by simp [AV.noRefs, AV.noRef]) (by simp) ⟨ka, fun N hN => ?_⟩
  have ha := ha N (by omega)
  simp -implicitDefEqProofs [i13, c13, ha, hl2]
 obtain ⟨⟨ke, he⟩, hex⟩ := expr19_ans ns nl (by omega)
 obtain ⟨kh, hh⟩ := heads_ans
 obtain ⟨ES, hES⟩ : ∃ ES, ES = exS 8 ns := ⟨_, rfl⟩
 rw [← hES] at he hex
 have l2H : s2H.length = 10 := rfl
 have lhd : headsS.length = 101 := rfl
 obtain ⟨S1, c1, c2⟩ := str_op (x := s2H) (y := ES) (by omega)
 obtain ⟨S2, d1, d2⟩ := str_op (x := S1) (y := [59]) (by rw [c1, List.length_append, List.length_singleton]; omega)
 have hS2 : S2 = s2H ++ exS 8 ns ++ [59] := by rw [d1, c1, hES]
 have l2 : S2.length ≤ 2 ^ 41 := by rw [d1, c1, List.length_append, List.length_append, List.length_singleton]; omega
 obtain ⟨SL, hSL⟩ : ∃ SL : List Str, SL = [s0S, s1S, S2, s3S, s4S] := ⟨_, rfl⟩
 have htl : (t.toNat : Nat) < 256 := t.toNat_lt
 obtain ⟨fr', q1, q2, q3, q4, q5, q6, q7, q8, q9, q10⟩ := lp13 SL (by rw [hSL]; rfl) (2 ^ 41) (fun s hs => by
  rw [hSL] at hs
  simp only [List.mem_cons, List.not_mem_nil, or_false] at hs
  rcases hs with rfl | rfl | rfl | rfl | rfl
  ·decide
  ·decide
  ·exact l2
  ·decide
  ·decide) (by omega) t.toNat htl 5 0 headsS headsS rfl (by omega) (by omega)
 have hord := order_plain ns S2 hS2 t.toNat SL hSL
 rw [List.drop_zero] at q3
 rw [← List.range_eq_range'] at q4
 obtain ⟨TA, hTA⟩ : ∃ TA, TA = headsS ++ SL.flatten := ⟨_, rfl⟩
 obtain ⟨TB, hTB⟩ : ∃ TB, TB = headsS ++ ((List.range 5).map fun k => SL.getD ((k * 2 + t.toNat) % 5) []).flatten := ⟨_, rfl⟩
 rw [← hTA] at q3 hord
 rw [← hTB] at q4 hord
 obtain ⟨k1, hk1⟩ := q1.den
 obtain ⟨k2, hk2⟩ := lcheck_ans TA
 obtain ⟨k3, hk3⟩ := lcheck_ans TB
 generalize (checkS TA).1 = u at *
 generalize (checkS TB).1 = v at *
 generalize (checkS TA).2 = u2 at *
 generalize (checkS TB).2 = v2 at *
 obtain ⟨bu, hbu⟩ : ∃ b : Bool, b = (u == 0) := ⟨_, rfl⟩
 obtain ⟨bv, hbv⟩ : ∃ b : Bool, b = (v == 0) := ⟨_, rfl⟩
 have hbb : bu = bv := by rw [hbu, hbv, Bool.eq_iff_iff, beq_iff_eq, beq_iff_eq]; exact hord
 subst hbb
 refine Ans.of (σ' := []) fn13_ (by simp [AV.noRefs, AV.noRef]) (by simp) ⟨ka + ke + kh + k1 + k2 + k3, fun N hN => ?_⟩
 have ha := ha N (by omega)
 have he := he N (by omega)
 have hh := hh N (by omega)
 have hk1 := hk1 N (by omega)
 have hk2 := hk2 N (by omega)
 have hk3 := hk3 N (by omega)
 simp only [Int.cast_ofNat_Int] at hk1
 have hsl : encSs SL = [.str [108, 101, 116, 32, 120, 32, 61, 32, 121, 59], .str [108, 101, 116, 32, 121, 32, 61, 32, 49, 59], .str S2, .str [108, 101, 116, 32, 103, 32, 61, 32, 102, 32, 120, 59], .str [108, 101, 116, 32, 105, 100, 32, 120, 32, 61, 32, 120, 59]] := by rw [hSL]; rfl
 rw [hsl] at hk1
 have c2 : strOp .add [108, 101, 116, 32, 102, 32, 120, 32, 61, 32] ES = some (.str S1) := c2
 have hl2 : ¬ (40 : Int) < (ns.length : Int) := by omega
 have hbu' := hbu.symm
 have hbv' := hbv.symm
 have j49 := q5 49 (by omega)
 have j50 := q5 50 (by omega)
 have j51 := q5 51 (by omega)
 have j52 := q5 52 (by omega)
 have j53 := q5 53 (by omega)
 have j54 := q5 54 (by omega)
 have j55 := q5 55 (by omega)
 have j56 := q5 56 (by omega)
 have j57 := q5 57 (by omega)
 have j58 := q5 58 (by omega)
 have j59 := q5 59 (by omega)
 have j60 := q5 60 (by omega)
 have j61 := q5 61 (by omega)
 have j62 := q5 62 (by omega)
 have j63 := q5 63 (by omega)
 have j64 := q5 64 (by omega)
 have j65 := q5 65 (by omega)
 have j66 := q5 66 (by omega)
 generalize headsS = HS at *
 clear q1 hord hTA hTB
 simp -implicitDefEqProofs [i13, c13, ha, he, hh, hk1, hk2, hk3, hl2, c2, d2, q2, q3, q4, q6, q7, q8, q9, q10, hbu', hbv', j49, j50, j51, j52, j53, j54, j55, j56, j57, j58, j59, j60, j61, j62, j63, j64, j65, j66, -strOp, -beq_iff_eq]
end Go.Am.Try
