/- W1, W2, W3, W5, W6s, as one -/
import Derived.Test.YtdapcelbbejfoaaQA
import Derived.Test.YtdapcelbbejfoaaPData
set_option linter.unusedVariables false
set_option linter.unusedSimpArgs false
namespace Go.Am.Ps
def begX : List Tok → Bool
 | [] => false
 | t :: _ => Nat.beq t.k 1 || (Nat.beq t.k 2 || (Nat.beq t.k 3 || ((Nat.beq t.k 4 && eqS t.s sTrue) || ((Nat.beq t.k 4 && eqS t.s sFalse) || (Nat.beq t.k 5 && eqS t.s sOpen)))))
theorem atomic_eq (j a : Nat) (r : List Tok) : (⟨j, r, false, a⟩ : PS).atomic = begX r := by
 cases r with
 | nil => rfl
 | cons t r => simp [PS.atomic, PS.peek, begX, sOpen, sTrue, sFalse]
theorem peek_kw (j a k : Nat) (t : Tok) (r : List Tok) (c : UInt8) (s : Str) : (⟨j, t :: r, false, a⟩ : PS).peek k (c :: s) = (Nat.beq t.k k && eqS t.s (c :: s)) := by
 simp [PS.peek]
theorem peek_k (j a k : Nat) (t : Tok) (r : List Tok) : (⟨j, t :: r, false, a⟩ : PS).peek k [] = Nat.beq t.k k := by
 simp [PS.peek]
theorem nx (j a : Nat) (t : Tok) (r : List Tok) : (⟨j, t :: r, false, a⟩ : PS).next = ⟨j + 1, r, false, a⟩ := rfl
theorem begX_no {t : Tok} {r : List Tok} (h : begX (t :: r) = true) (j a : Nat) : (⟨j, t :: r, false, a⟩ : PS).peek 5 sLam = false ∧ (⟨j, t :: r, false, a⟩ : PS).peek 4 sLet = false ∧ (⟨j, t :: r, false, a⟩ : PS).peek 4 sIf = false ∧ (⟨j, t :: r, false, a⟩ : PS).peek 4 sCase = false := by
 unfold sLam sLet sIf sCase
 rw [peek_kw, peek_kw, peek_kw, peek_kw]
 simp only [begX, Bool.or_eq_true, Bool.and_eq_true, Nat.beq_eq] at h
 have e : ∀ a b : Str, eqS a b = true → a = b := fun a b h => by rw [eqS_dec] at h; exact of_decide_eq_true h
 rcases h with h | h | h | ⟨h, h2⟩ | ⟨h, h2⟩ | ⟨h, h2⟩
 ·simp [h]
 ·simp [h]
 ·simp [h]
 ·rw [h, e _ _ h2]; decide
 ·rw [h, e _ _ h2]; decide
 ·rw [h, e _ _ h2]; decide
variable (E : Nat)
theorem expr_atoms (n j a : Nat) (t : Tok) (r : List Tok) (h : begX (t :: r) = true) : expr E (n + 1) ⟨j, t :: r, false, a⟩ = apps E n (atom E n ⟨j, t :: r, false, a⟩).1 (atom E n ⟨j, t :: r, false, a⟩).2 := by
 obtain ⟨h1, h2, h3, h4⟩ := begX_no h j a
 conv => lhs; unfold expr
 simp only [h1, h2, h3, h4, Bool.false_eq_true, if_false]
theorem apps_end (n j a : Nat) (e : Ex) (r : List Tok) (h : begX r = false) : apps E n e ⟨j, r, false, a⟩ = (e, ⟨j, r, false, a⟩) := by
 have ha : (⟨j, r, false, a⟩ : PS).atomic = false := by rw [atomic_eq]; exact h
 cases n with
 | zero => rfl
 | succ n => simp only [apps, ha]
theorem apps_more (n j a : Nat) (e : Ex) (r : List Tok) (h : begX r = true) {x : Ex} {p : PS} (hx : atom E n ⟨j, r, false, a⟩ = (x, p)) : ∃ b, apps E (n + 1) e ⟨j, r, false, a⟩ = apps E n (.mk 5 b [] 0 [e, x] []) p := by
 have ha : (⟨j, r, false, a⟩ : PS).atomic = true := by rw [atomic_eq]; exact h
 obtain ⟨k, b, s, m, ks, as⟩ := e
 refine ⟨b, ?_⟩
 conv => lhs; unfold apps
 simp only [ha, hx]
theorem atom_name (n j a : Nat) (t : Tok) (r : List Tok) (hk : t.k = 1) : atom E (n + 1) ⟨j, t :: r, false, a⟩ = (.mk 1 t.at_ t.s 0 [] [], ⟨j + 1, r, false, a⟩) := by
 have ha : (⟨j, t :: r, false, a⟩ : PS).atomic = true := by rw [atomic_eq]; simp [begX, hk]
 conv => lhs; unfold atom
 simp only [ha, hk, nx]
theorem atom_con (n j a : Nat) (t : Tok) (r : List Tok) (hk : t.k = 2) : atom E (n + 1) ⟨j, t :: r, false, a⟩ = (.mk 2 t.at_ t.s 0 [] [], ⟨j + 1, r, false, a⟩) := by
 have ha : (⟨j, t :: r, false, a⟩ : PS).atomic = true := by rw [atomic_eq]; simp [begX, hk]
 conv => lhs; unfold atom
 simp only [ha, hk, nx]
theorem atom_int (n j a : Nat) (t : Tok) (r : List Tok) (hk : t.k = 3) : atom E (n + 1) ⟨j, t :: r, false, a⟩ = (.mk 3 t.at_ [] t.n [] [], ⟨j + 1, r, false, a⟩) := by
 have ha : (⟨j, t :: r, false, a⟩ : PS).atomic = true := by rw [atomic_eq]; simp [begX, hk]
 conv => lhs; unfold atom
 simp only [ha, hk, nx]
theorem atom_bool (n j a : Nat) (t : Tok) (r : List Tok) (hk : t.k = 4) (hs : t.s = sTrue ∨ t.s = sFalse) : atom E (n + 1) ⟨j, t :: r, false, a⟩ = (.mk 4 t.at_ [] (cond (eqS t.s sTrue) 1 0) [] [], ⟨j + 1, r, false, a⟩) := by
 have ha : (⟨j, t :: r, false, a⟩ : PS).atomic = true := by
  rw [atomic_eq]
  rcases hs with h | h
  ·simp only [begX, hk, h]; decide
  ·simp only [begX, hk, h]; decide
 conv => lhs; unfold atom
 simp only [ha, hk, nx]
theorem rest_end (n k j a : Nat) (r : List Tok) (h : isSg sCom r = false) : rest E (n + 1) k ⟨j, r, false, a⟩ = (some [], ⟨j, r, false, a⟩) := by
 have hp : (⟨j, r, false, a⟩ : PS).peek 5 sCom = false := by unfold sCom at h ⊢; rw [peek_sg]; exact h
 simp only [rest, hp]
theorem rest_more (n k j a : Nat) (t : Tok) (r : List Tok) (h : isSg sCom (t :: r) = true) (hk : k ≠ 8) {x : Ex} {p : PS} (hx : expr E n ⟨j + 1, r, false, a⟩ = (x, p)) {l : List Ex} {q : PS} (hl : rest E n (k + 1) p = (some l, q)) : rest E (n + 1) k ⟨j, t :: r, false, a⟩ = (some (x :: l), q) := by
 have hp : (⟨j, t :: r, false, a⟩ : PS).peek 5 sCom = true := by unfold sCom at h ⊢; rw [peek_sg]; exact h
 have hk' : ¬ (Nat.beq k 8 = true) := by rw [Nat.beq_eq]; exact hk
 simp only [rest, hp, if_neg hk', nx, hx, hl]
theorem atom_open (n j a : Nat) (t : Tok) (r : List Tok) (hk : t.k = 5) (hs : t.s = sOpen) {x : Ex} {p : PS} (hx : expr E n ⟨j + 1, r, false, a⟩ = (x, p)) {l : List Ex} {j' : Nat} {u : Tok} {r' : List Tok} (hl : rest E n 1 p = (some l, ⟨j', u :: r', false, a⟩)) (hu : isSg sClose (u :: r') = true) :
  atom E (n + 1) ⟨j, t :: r, false, a⟩ = ((match l with | [] => x | _ => .mk 8 t.at_ [] 0 (x :: l) []), ⟨j' + 1, r', false, a⟩) := by
 have ha : (⟨j, t :: r, false, a⟩ : PS).atomic = true := by rw [atomic_eq]; simp only [begX, hk, hs]; decide
 conv => lhs; unfold atom
 cases l with
 | nil => simp only [ha, hk, nx, hx, hl, sign_close E j' a u r' hu]
 | cons y l => simp only [ha, hk, nx, hx, hl, sign_close E j' a u r' hu]
theorem eat_w (j a : Nat) (c : UInt8) (s : Str) (t : Tok) (r : List Tok) (hk : t.k = 4) (hs : t.s = c :: s) : (⟨j, t :: r, false, a⟩ : PS).eat E 4 (c :: s) = (t, ⟨j + 1, r, false, a⟩) := by
 have hp : (⟨j, t :: r, false, a⟩ : PS).peek 4 (c :: s) = true := by
  rw [peek_kw, hk, hs, eqS_dec]; simp
 simp only [PS.eat, hp]
 rfl
theorem expr_lam (n j a : Nat) (t x : Tok) (l : List Tok) (u : Tok) (r : List Tok) (hk : t.k = 5) (hs : t.s = sLam) (hx : x.k = 1) (hl : ∀ z ∈ l, z.k = 1) (hu : isSg sArr (u :: r) = true) {e : Ex} {p : PS} (he : expr E n ⟨j + 1 + 1 + l.length + 1, r, false, a⟩ = (e, p)) :
  expr E (n + 1) ⟨j, t :: (x :: (l ++ u :: r)), false, a⟩ = (lams t.at_ (x :: l) e, p) := by
 have h1 : (⟨j, t :: (x :: (l ++ u :: r)), false, a⟩ : PS).peek 5 sLam = true := by
  unfold sLam; rw [peek_kw, hk, hs]; decide
 have huk : u.k = 5 := by simp only [isSg, Bool.and_eq_true, Nat.beq_eq] at hu; exact hu.1
 have hnm := names_all a (j + 1 + 1) l (u :: r) hl (by simp only [huk]; decide)
 have hsg := sign_s E (j + 1 + 1 + l.length) a 45 [62] u r hu
 have heat := eat_k E (j + 1) a 1 x (l ++ u :: r) hx
 conv => lhs; unfold expr
 simp only [h1, if_true, nx, heat, hnm]
 simp only [sArr]
 simp only [hsg, he]
theorem expr_let (n j a : Nat) (t x : Tok) (l : List Tok) (u : Tok) (r : List Tok) (hk : t.k = 4) (hs : t.s = sLet) (hx : x.k = 1) (hl : ∀ z ∈ l, z.k = 1) (hu : isSg sEq (u :: r) = true) {d : Ex} {j1 : Nat} {v : Tok} {r1 : List Tok} (hd : expr E n ⟨j + 1 + 1 + l.length + 1, r, false, a⟩ = (d, ⟨j1, v :: r1, false, a⟩)) (hv : v.k = 4) (hvs : v.s = sIn) {b : Ex} {p : PS} (hb : expr E n ⟨j1 + 1, r1, false, a⟩ = (b, p)) :
  expr E (n + 1) ⟨j, t :: (x :: (l ++ u :: r)), false, a⟩ = (.mk 7 t.at_ x.s 0 [lams x.at_ l d, b] [], p) := by
 have h1 : (⟨j, t :: (x :: (l ++ u :: r)), false, a⟩ : PS).peek 5 sLam = false := by
  unfold sLam; rw [peek_kw, hk]; rfl
 have h2 : (⟨j, t :: (x :: (l ++ u :: r)), false, a⟩ : PS).peek 4 sLet = true := by
  unfold sLet; rw [peek_kw, hk, hs]; decide
 have huk : u.k = 5 := by simp only [isSg, Bool.and_eq_true, Nat.beq_eq] at hu; exact hu.1
 have hnm := names_all a (j + 1 + 1) l (u :: r) hl (by simp only [huk]; decide)
 have hsg := sign_s E (j + 1 + 1 + l.length) a 61 [] u r hu
 have heat := eat_k E (j + 1) a 1 x (l ++ u :: r) hx
 have hin := eat_w E j1 a 105 [110] v r1 hv hvs
 conv => lhs; unfold expr
 simp only [h1, h2, Bool.false_eq_true, if_false, if_true, nx, heat, hnm]
 simp only [sEq, sIn]
 simp only [hsg, hd, hin, hb]
theorem expr_if (n j a : Nat) (t : Tok) (r : List Tok) (hk : t.k = 4) (hs : t.s = sIf) {c : Ex} {j1 : Nat} {v : Tok} {r1 : List Tok} (hc : expr E n ⟨j + 1, r, false, a⟩ = (c, ⟨j1, v :: r1, false, a⟩)) (hv : v.k = 4) (hvs : v.s = sThen) {d : Ex} {j2 : Nat} {w : Tok} {r2 : List Tok} (hd : expr E n ⟨j1 + 1, r1, false, a⟩ = (d, ⟨j2, w :: r2, false, a⟩)) (hw : w.k = 4) (hws : w.s = sElse) {e : Ex} {p : PS} (he : expr E n ⟨j2 + 1, r2, false, a⟩ = (e, p)) :
  expr E (n + 1) ⟨j, t :: r, false, a⟩ = (.mk 9 t.at_ [] 0 [c, d, e] [], p) := by
 have h1 : (⟨j, t :: r, false, a⟩ : PS).peek 5 sLam = false := by unfold sLam; rw [peek_kw, hk]; rfl
 have h2 : (⟨j, t :: r, false, a⟩ : PS).peek 4 sLet = false := by unfold sLet; rw [peek_kw, hk, hs]; decide
 have h3 : (⟨j, t :: r, false, a⟩ : PS).peek 4 sIf = true := by unfold sIf; rw [peek_kw, hk, hs]; decide
 have q1 := eat_w E j1 a 116 [104, 101, 110] v r1 hv hvs
 have q2 := eat_w E j2 a 101 [108, 115, 101] w r2 hw hws
 conv => lhs; unfold expr
 simp only [h1, h2, h3, Bool.false_eq_true, if_false, if_true, nx, hc]
 simp only [sThen, sElse]
 simp only [q1, hd, q2, he]
theorem alt_of (n j a : Nat) (c : Tok) (l : List Tok) (u : Tok) (r : List Tok) (hc : c.k = 2) (hl : ∀ z ∈ l, z.k = 1) (hu : isSg sArr (u :: r) = true) {e : Ex} {p : PS} (he : expr E n ⟨j + 1 + l.length + 1, r, false, a⟩ = (e, p)) :
  alt E (n + 1) ⟨j, c :: (l ++ u :: r), false, a⟩ = (.mk c.at_ c.s (l.map (·.s)) e, p) := by
 have huk : u.k = 5 := by simp only [isSg, Bool.and_eq_true, Nat.beq_eq] at hu; exact hu.1
 have hnm := names_all a (j + 1) l (u :: r) hl (by simp only [huk]; decide)
 have hsg := sign_s E (j + 1 + l.length) a 45 [62] u r hu
 have heat := eat_k E j a 2 c (l ++ u :: r) hc
 conv => lhs; unfold alt
 simp only [heat, hnm]
 simp only [sArr]
 simp only [hsg, he]
theorem alts_end (n j a : Nat) (r : List Tok) (h : isSg sSemi r = false) : alts E n ⟨j, r, false, a⟩ = ([], ⟨j, r, false, a⟩) := by
 cases n with
 | zero => rfl
 | succ n =>
  have hp : (⟨j, r, false, a⟩ : PS).peek 5 sSemi = false := by unfold sSemi at h ⊢; rw [peek_sg]; exact h
  simp only [alts, hp]
theorem alts_more (n j a : Nat) (t : Tok) (r : List Tok) (h : isSg sSemi (t :: r) = true) {x : Al} {p : PS} (hx : alt E n ⟨j + 1, r, false, a⟩ = (x, p)) {l : List Al} {q : PS} (hl : alts E n p = (l, q)) : alts E (n + 1) ⟨j, t :: r, false, a⟩ = (x :: l, q) := by
 have hp : (⟨j, t :: r, false, a⟩ : PS).peek 5 sSemi = true := by unfold sSemi at h ⊢; rw [peek_sg]; exact h
 simp only [alts, hp, nx, hx, hl]
theorem expr_case (n j a : Nat) (t : Tok) (r : List Tok) (hk : t.k = 4) (hs : t.s = sCase) {c : Ex} {j1 : Nat} {v o : Tok} {r1 : List Tok} (hc : expr E n ⟨j + 1, r, false, a⟩ = (c, ⟨j1, v :: (o :: r1), false, a⟩)) (hv : v.k = 4) (hvs : v.s = sOf) (ho : isSg sBrO (o :: r1) = true) {x : Al} {p : PS} (hx : alt E n ⟨j1 + 1 + 1, r1, false, a⟩ = (x, p)) {l : List Al} {j2 : Nat} {w : Tok} {r2 : List Tok} (hl : alts E n p = (l, ⟨j2, w :: r2, false, a⟩)) (hw : isSg sBrC (w :: r2) = true) :
  expr E (n + 1) ⟨j, t :: r, false, a⟩ = (.mk 10 t.at_ [] 0 [c] (x :: l), ⟨j2 + 1, r2, false, a⟩) := by
 have h1 : (⟨j, t :: r, false, a⟩ : PS).peek 5 sLam = false := by unfold sLam; rw [peek_kw, hk]; rfl
 have h2 : (⟨j, t :: r, false, a⟩ : PS).peek 4 sLet = false := by unfold sLet; rw [peek_kw, hk, hs]; decide
 have h3 : (⟨j, t :: r, false, a⟩ : PS).peek 4 sIf = false := by unfold sIf; rw [peek_kw, hk, hs]; decide
 have h4 : (⟨j, t :: r, false, a⟩ : PS).peek 4 sCase = true := by unfold sCase; rw [peek_kw, hk, hs]; decide
 have q1 := eat_w E j1 a 111 [102] v (o :: r1) hv hvs
 have q2 := sign_s E (j1 + 1) a 123 [] o r1 ho
 have q3 := sign_s E j2 a 125 [] w r2 hw
 conv => lhs; unfold expr
 simp only [h1, h2, h3, h4, Bool.false_eq_true, if_false, if_true, nx, hc]
 simp only [sOf, sBrO, sBrC]
 simp only [q1, q2, hx, hl, q3]
theorem decl_let (n j a : Nat) (out : Pg) (t x : Tok) (l : List Tok) (u : Tok) (r : List Tok) (hk : t.k = 4) (hs : t.s = sLet) (hx : x.k = 1) (hl : ∀ z ∈ l, z.k = 1) (hu : isSg sEq (u :: r) = true) {d : Ex} {j1 : Nat} {v : Tok} {r1 : List Tok} (hd : expr E n ⟨j + 1 + 1 + l.length + 1, r, false, a⟩ = (d, ⟨j1, v :: r1, false, a⟩)) (hv : isSg sSemi (v :: r1) = true) :
  decl E n out ⟨j, t :: (x :: (l ++ u :: r)), false, a⟩ = ({ out with bs := out.bs ++ [⟨x.s, x.at_, lams x.at_ l d⟩] }, ⟨j1 + 1, r1, false, a⟩) := by
 have h1 : (⟨j, t :: (x :: (l ++ u :: r)), false, a⟩ : PS).peek 4 sData = false := by
  unfold sData; rw [peek_kw, hk, hs]; decide
 have huk : u.k = 5 := by simp only [isSg, Bool.and_eq_true, Nat.beq_eq] at hu; exact hu.1
 have hnm := names_all a (j + 1 + 1) l (u :: r) hl (by simp only [huk]; decide)
 have hsg := sign_s E (j + 1 + 1 + l.length) a 61 [] u r hu
 have heat := eat_k E (j + 1) a 1 x (l ++ u :: r) hx
 have hlet := eat_w E j a 108 [101, 116] t (x :: (l ++ u :: r)) hk hs
 have hse := sign_s E j1 a 59 [] v r1 hv
 unfold decl
 simp only [h1]
 simp only [sLet, sEq, sSemi]
 simp only [hlet, heat, hnm, hsg, hd, hse]
end Go.Am.Ps
namespace Go.Am.Ps
mutual
def bareE : Ex → Ex
 | .mk k _ s n ks as => .mk k 0 s n (bareEs ks) (bareAs as)
def bareEs : List Ex → List Ex
 | [] => []
 | e :: l => bareE e :: bareEs l
def bareAs : List Al → List Al
 | [] => []
 | .mk _ c ns b :: l => .mk 0 c ns (bareE b) :: bareAs l
end
def lamsB : List Str → Ex → Ex
 | [], b => b
 | s :: l, b => .mk 6 0 s 0 [lamsB l b] []
theorem bare_lams (a : Nat) : ∀ (l : List Tok) (e : Ex), bareE (lams a l e) = lamsB (l.map (·.s)) (bareE e)
 | [], e => rfl
 | t :: l, e => by
  rw [lams, bareE, bareEs, bare_lams a l e]
  rfl
theorem no_sg {u : Tok} {c : UInt8} (hk : u.k = 5) (hs : u.s = [c]) (h : c ≠ 40) (R : List Tok) : begX (u :: R) = false := by
 have : eqS [c] sOpen = false := by
  rw [eqS_dec]
  simp [sOpen, h]
 simp [begX, hk, hs, this]
 decide
theorem no_w {u : Tok} (hk : u.k = 4) (h1 : u.s ≠ sTrue) (h2 : u.s ≠ sFalse) (R : List Tok) : begX (u :: R) = false := by
 simp [begX, hk, eqS_dec, h1, h2]
 decide
theorem is_sg {u : Tok} {s : Str} (hk : u.k = 5) (hs : u.s = s) (R : List Tok) : isSg s (u :: R) = true := by
 simp [isSg, hk, hs, eqS_dec]
theorem not_sg {u : Tok} {s : Str} (hs : u.s ≠ s) (R : List Tok) : isSg s (u :: R) = false := by
 simp [isSg, hs, eqS_dec]
def XP (ts : List Tok) (X : Ex) : Prop := ∀ n, 8 * ts.length ≤ n → ∀ (E : Nat) (R : List Tok) (j a : Nat), begX R = false → ∃ e j', expr E n ⟨j, ts ++ R, false, a⟩ = (e, ⟨j', R, false, a⟩) ∧ bareE e = X
def YP (ts : List Tok) (X : Ex) : Prop := begX ts = true ∧ ∀ n, 8 * ts.length ≤ n + 4 → ∀ (E : Nat) (R : List Tok) (j a : Nat), ∃ e j', atom E n ⟨j, ts ++ R, false, a⟩ = (e, ⟨j', R, false, a⟩) ∧ bareE e = X
theorem begX_app {ts : List Tok} (h : begX ts = true) (R : List Tok) : begX (ts ++ R) = true := by
 cases ts with
 | nil => cases h
 | cons t ts => exact h
theorem begX_cons {ts : List Tok} (h : begX ts = true) : ∃ t r, ts = t :: r := by
 cases ts with
 | nil => cases h
 | cons t ts => exact ⟨t, ts, rfl⟩
theorem YP_name {t : Tok} (hk : t.k = 1) : YP [t] (.mk 1 0 t.s 0 [] []) := by
 refine ⟨by simp [begX, hk], fun n hn E R j a => ?_⟩
 obtain ⟨n, rfl⟩ : ∃ m, n = m + 1 := ⟨n - 1, by simp at hn; omega⟩
 exact ⟨_, _, atom_name E n j a t R hk, rfl⟩
theorem YP_con {t : Tok} (hk : t.k = 2) : YP [t] (.mk 2 0 t.s 0 [] []) := by
 refine ⟨by simp [begX, hk], fun n hn E R j a => ?_⟩
 obtain ⟨n, rfl⟩ : ∃ m, n = m + 1 := ⟨n - 1, by simp at hn; omega⟩
 exact ⟨_, _, atom_con E n j a t R hk, rfl⟩
theorem YP_int {t : Tok} (hk : t.k = 3) : YP [t] (.mk 3 0 [] t.n [] []) := by
 refine ⟨by simp [begX, hk], fun n hn E R j a => ?_⟩
 obtain ⟨n, rfl⟩ : ∃ m, n = m + 1 := ⟨n - 1, by simp at hn; omega⟩
 exact ⟨_, _, atom_int E n j a t R hk, rfl⟩
theorem YP_bool {t : Tok} (hk : t.k = 4) (hs : t.s = sTrue ∨ t.s = sFalse) : YP [t] (.mk 4 0 [] (cond (eqS t.s sTrue) 1 0) [] []) := by
 refine ⟨?_, fun n hn E R j a => ?_⟩
 ·rcases hs with h | h
  ·simp only [begX, hk, h]; decide
  ·simp only [begX, hk, h]; decide
 ·obtain ⟨n, rfl⟩ : ∃ m, n = m + 1 := ⟨n - 1, by simp at hn; omega⟩
  exact ⟨_, _, atom_bool E n j a t R hk hs, rfl⟩
theorem XP_of {ts : List Tok} {X : Ex} (h : YP ts X) : XP ts X := by
 obtain ⟨hb, h⟩ := h
 intro n hn E R j a hR
 obtain ⟨t, r, rfl⟩ := begX_cons hb
 obtain ⟨n, rfl⟩ : ∃ m, n = m + 1 := ⟨n - 1, by simp at hn; omega⟩
 obtain ⟨e, j1, h1, h2⟩ := h n (by simp at hn ⊢; omega) E R j a
 refine ⟨e, j1, ?_, h2⟩
 rw [List.cons_append] at h1 ⊢
 rw [expr_atoms E n j a t (r ++ R) hb, h1]
 exact apps_end E n j1 a e R hR
theorem XP_app2 {ts us : List Tok} {X Y : Ex} (h : YP ts X) (h' : YP us Y) : XP (ts ++ us) (.mk 5 0 [] 0 [X, Y] []) := by
 obtain ⟨hb, h⟩ := h
 obtain ⟨hb', h'⟩ := h'
 intro n hn E R j a hR
 obtain ⟨t, r, rfl⟩ := begX_cons hb
 obtain ⟨t', r', rfl⟩ := begX_cons hb'
 simp only [List.length_append, List.length_cons] at hn h h'
 obtain ⟨n, rfl⟩ : ∃ m, n = m + 2 := ⟨n - 2, by omega⟩
 obtain ⟨e, j1, h1, h2⟩ := h (n + 1) (by omega) E (t' :: r' ++ R) j a
 obtain ⟨e', j2, k1, k2⟩ := h' n (by omega) E R j1 a
 have e1 : t :: r ++ t' :: r' ++ R = t :: (r ++ (t' :: r' ++ R)) := by simp
 have h1 : atom E (n + 1) ⟨j, t :: (r ++ (t' :: r' ++ R)), false, a⟩ = (e, ⟨j1, t' :: r' ++ R, false, a⟩) := h1
 rw [e1]
 obtain ⟨b, q⟩ := apps_more E n j1 a e (t' :: r' ++ R) (begX_app hb' R) k1
 refine ⟨_, _, (expr_atoms E (n + 1) j a t (r ++ (t' :: r' ++ R)) hb).trans (by rw [h1]; exact q.trans (apps_end E n j2 a _ R hR)), ?_⟩
 simp only [bareE, bareEs, bareAs, h2, k2]
theorem XP_app3 {ts us ws : List Tok} {X Y Z : Ex} (h : YP ts X) (h' : YP us Y) (h'' : YP ws Z) : XP (ts ++ us ++ ws) (.mk 5 0 [] 0 [.mk 5 0 [] 0 [X, Y] [], Z] []) := by
 obtain ⟨hb, h⟩ := h
 obtain ⟨hb', h'⟩ := h'
 obtain ⟨hb'', h''⟩ := h''
 intro n hn E R j a hR
 obtain ⟨t, r, rfl⟩ := begX_cons hb
 obtain ⟨t', r', rfl⟩ := begX_cons hb'
 obtain ⟨t'', r'', rfl⟩ := begX_cons hb''
 simp only [List.length_append, List.length_cons] at hn h h' h''
 obtain ⟨n, rfl⟩ : ∃ m, n = m + 3 := ⟨n - 3, by omega⟩
 obtain ⟨e, j1, h1, h2⟩ := h (n + 2) (by omega) E (t' :: r' ++ (t'' :: r'' ++ R)) j a
 obtain ⟨e', j2, k1, k2⟩ := h' (n + 1) (by omega) E (t'' :: r'' ++ R) j1 a
 obtain ⟨e'', j3, l1, l2⟩ := h'' n (by omega) E R j2 a
 have e1 : t :: r ++ t' :: r' ++ t'' :: r'' ++ R = t :: (r ++ (t' :: r' ++ (t'' :: r'' ++ R))) := by simp
 have h1 : atom E (n + 2) ⟨j, t :: (r ++ (t' :: r' ++ (t'' :: r'' ++ R))), false, a⟩ = (e, ⟨j1, t' :: r' ++ (t'' :: r'' ++ R), false, a⟩) := h1
 rw [e1]
 obtain ⟨b, q⟩ := apps_more E (n + 1) j1 a e (t' :: r' ++ (t'' :: r'' ++ R)) (begX_app hb' _) k1
 obtain ⟨b', q'⟩ := apps_more E n j2 a (.mk 5 b [] 0 [e, e'] []) (t'' :: r'' ++ R) (begX_app hb'' _) l1
 refine ⟨_, _, (expr_atoms E (n + 2) j a t (r ++ (t' :: r' ++ (t'' :: r'' ++ R))) hb).trans (by rw [h1]; exact q.trans (q'.trans (apps_end E n j3 a _ R hR))), ?_⟩
 simp only [bareE, bareEs, bareAs, h2, k2, l2]
theorem YP_paren {o c : Tok} {ts : List Tok} {X : Ex} (hk : o.k = 5) (hs : o.s = sOpen) (h : XP ts X) (hc : c.k = 5) (hcs : c.s = sClose) : YP (o :: (ts ++ [c])) X := by
 refine ⟨by simp only [begX, hk, hs]; decide, fun n hn E R j a => ?_⟩
 simp only [List.length_cons, List.length_append, List.length_nil] at hn
 obtain ⟨n, rfl⟩ : ∃ m, n = m + 2 := ⟨n - 2, by omega⟩
 obtain ⟨e, j1, h1, h2⟩ := h (n + 1) (by omega) E (c :: R) (j + 1) a (no_sg hc hcs (by decide) R)
 have e1 : o :: (ts ++ [c]) ++ R = o :: (ts ++ c :: R) := by simp
 rw [e1]
 exact ⟨_, _, atom_open E (n + 1) j a o _ hk hs h1 (rest_end E n 1 j1 a (c :: R) (not_sg (by rw [hcs]; decide) R)) (is_sg hc hcs R), h2⟩
theorem YP_pair {o m c : Tok} {ts us : List Tok} {X Y : Ex} (hk : o.k = 5) (hs : o.s = sOpen) (h : XP ts X) (hm : m.k = 5) (hms : m.s = sCom) (h' : XP us Y) (hc : c.k = 5) (hcs : c.s = sClose) : YP (o :: (ts ++ m :: (us ++ [c]))) (.mk 8 0 [] 0 [X, Y] []) := by
 refine ⟨by simp only [begX, hk, hs]; decide, fun n hn E R j a => ?_⟩
 simp only [List.length_cons, List.length_append, List.length_nil] at hn
 obtain ⟨n, rfl⟩ : ∃ m, n = m + 3 := ⟨n - 3, by omega⟩
 obtain ⟨e, j1, h1, h2⟩ := h (n + 2) (by omega) E (m :: (us ++ c :: R)) (j + 1) a (no_sg hm hms (by decide) _)
 obtain ⟨e', j2, k1, k2⟩ := h' (n + 1) (by omega) E (c :: R) (j1 + 1) a (no_sg hc hcs (by decide) R)
 have e1 : o :: (ts ++ m :: (us ++ [c])) ++ R = o :: (ts ++ m :: (us ++ c :: R)) := by simp
 rw [e1]
 have hr := rest_more E (n + 1) 1 j1 a m (us ++ c :: R) (is_sg hm hms _) (by decide) k1 (rest_end E n 2 j2 a (c :: R) (not_sg (by rw [hcs]; decide) R))
 refine ⟨_, _, atom_open E (n + 2) j a o _ hk hs h1 hr (is_sg hc hcs R), ?_⟩
 simp only [bareE, bareEs, bareAs, h2, k2]
theorem YP_triple {o m m' c : Tok} {ts us ws : List Tok} {X Y Z : Ex} (hk : o.k = 5) (hs : o.s = sOpen) (h : XP ts X) (hm : m.k = 5) (hms : m.s = sCom) (h' : XP us Y) (hm' : m'.k = 5) (hms' : m'.s = sCom) (h'' : XP ws Z) (hc : c.k = 5) (hcs : c.s = sClose) : YP (o :: (ts ++ m :: (us ++ m' :: (ws ++ [c])))) (.mk 8 0 [] 0 [X, Y, Z] []) := by
 refine ⟨by simp only [begX, hk, hs]; decide, fun n hn E R j a => ?_⟩
 simp only [List.length_cons, List.length_append, List.length_nil] at hn
 obtain ⟨n, rfl⟩ : ∃ m, n = m + 4 := ⟨n - 4, by omega⟩
 obtain ⟨e, j1, h1, h2⟩ := h (n + 3) (by omega) E (m :: (us ++ m' :: (ws ++ c :: R))) (j + 1) a (no_sg hm hms (by decide) _)
 obtain ⟨e', j2, k1, k2⟩ := h' (n + 2) (by omega) E (m' :: (ws ++ c :: R)) (j1 + 1) a (no_sg hm' hms' (by decide) _)
 obtain ⟨e'', j3, l1, l2⟩ := h'' (n + 1) (by omega) E (c :: R) (j2 + 1) a (no_sg hc hcs (by decide) R)
 have e1 : o :: (ts ++ m :: (us ++ m' :: (ws ++ [c]))) ++ R = o :: (ts ++ m :: (us ++ m' :: (ws ++ c :: R))) := by simp
 rw [e1]
 have hr1 := rest_more E (n + 1) 2 j2 a m' (ws ++ c :: R) (is_sg hm' hms' _) (by decide) l1 (rest_end E n 3 j3 a (c :: R) (not_sg (by rw [hcs]; decide) R))
 have hr := rest_more E (n + 2) 1 j1 a m (us ++ m' :: (ws ++ c :: R)) (is_sg hm hms _) (by decide) k1 hr1
 refine ⟨_, _, atom_open E (n + 3) j a o _ hk hs h1 hr (is_sg hc hcs R), ?_⟩
 simp only [bareE, bareEs, bareAs, h2, k2, l2]
theorem XP_lam {t x : Tok} {l : List Tok} {u : Tok} {ts : List Tok} {X : Ex} (hk : t.k = 5) (hs : t.s = sLam) (hx : x.k = 1) (hl : ∀ z ∈ l, z.k = 1) (hu : u.k = 5) (hus : u.s = sArr) (h : XP ts X) : XP (t :: (x :: (l ++ u :: ts))) (lamsB ((x :: l).map (·.s)) X) := by
 intro n hn E R j a hR
 simp only [List.length_cons, List.length_append] at hn
 obtain ⟨n, rfl⟩ : ∃ m, n = m + 1 := ⟨n - 1, by omega⟩
 obtain ⟨e, j1, h1, h2⟩ := h n (by omega) E R (j + 1 + 1 + l.length + 1) a hR
 have e1 : t :: (x :: (l ++ u :: ts)) ++ R = t :: (x :: (l ++ u :: (ts ++ R))) := by simp
 rw [e1]
 exact ⟨_, _, expr_lam E n j a t x l u (ts ++ R) hk hs hx hl (is_sg hu hus _) h1, by rw [bare_lams, h2]⟩
theorem XP_let {t x : Tok} {l : List Tok} {u v : Tok} {ts us : List Tok} {X Y : Ex} (hk : t.k = 4) (hs : t.s = sLet) (hx : x.k = 1) (hl : ∀ z ∈ l, z.k = 1) (hu : u.k = 5) (hus : u.s = sEq) (h : XP ts X) (hv : v.k = 4) (hvs : v.s = sIn) (h' : XP us Y) : XP (t :: (x :: (l ++ u :: (ts ++ v :: us)))) (.mk 7 0 x.s 0 [lamsB (l.map (·.s)) X, Y] []) := by
 intro n hn E R j a hR
 simp only [List.length_cons, List.length_append] at hn
 obtain ⟨n, rfl⟩ : ∃ m, n = m + 1 := ⟨n - 1, by omega⟩
 obtain ⟨e, j1, h1, h2⟩ := h n (by omega) E (v :: (us ++ R)) (j + 1 + 1 + l.length + 1) a (no_w hv (by rw [hvs]; decide) (by rw [hvs]; decide) _)
 obtain ⟨e', j2, k1, k2⟩ := h' n (by omega) E R (j1 + 1) a hR
 have e1 : t :: (x :: (l ++ u :: (ts ++ v :: us))) ++ R = t :: (x :: (l ++ u :: (ts ++ v :: (us ++ R)))) := by simp
 rw [e1]
 refine ⟨_, _, expr_let E n j a t x l u _ hk hs hx hl (is_sg hu hus _) h1 hv hvs k1, ?_⟩
 simp only [bareE, bareEs, bareAs, bare_lams, h2, k2]
theorem XP_if {t v w : Tok} {ts us ws : List Tok} {X Y Z : Ex} (hk : t.k = 4) (hs : t.s = sIf) (h : XP ts X) (hv : v.k = 4) (hvs : v.s = sThen) (h' : XP us Y) (hw : w.k = 4) (hws : w.s = sElse) (h'' : XP ws Z) : XP (t :: (ts ++ v :: (us ++ w :: ws))) (.mk 9 0 [] 0 [X, Y, Z] []) := by
 intro n hn E R j a hR
 simp only [List.length_cons, List.length_append] at hn
 obtain ⟨n, rfl⟩ : ∃ m, n = m + 1 := ⟨n - 1, by omega⟩
 obtain ⟨e, j1, h1, h2⟩ := h n (by omega) E (v :: (us ++ w :: (ws ++ R))) (j + 1) a (no_w hv (by rw [hvs]; decide) (by rw [hvs]; decide) _)
 obtain ⟨e', j2, k1, k2⟩ := h' n (by omega) E (w :: (ws ++ R)) (j1 + 1) a (no_w hw (by rw [hws]; decide) (by rw [hws]; decide) _)
 obtain ⟨e'', j3, l1, l2⟩ := h'' n (by omega) E R (j2 + 1) a hR
 have e1 : t :: (ts ++ v :: (us ++ w :: ws)) ++ R = t :: (ts ++ v :: (us ++ w :: (ws ++ R))) := by simp
 rw [e1]
 refine ⟨_, _, expr_if E n j a t _ hk hs h1 hv hvs k1 hw hws l1, ?_⟩
 simp only [bareE, bareEs, bareAs, h2, k2, l2]
def LAP (ts : List Tok) (X : Al) : Prop := ∀ n, 8 * ts.length ≤ n → ∀ (E : Nat) (R : List Tok) (j a : Nat), begX R = false → ∃ y j', alt E n ⟨j, ts ++ R, false, a⟩ = (y, ⟨j', R, false, a⟩) ∧ bareAs [y] = [X]
theorem LAP_of {c : Tok} {l : List Tok} {u : Tok} {ts : List Tok} {X : Ex} (hc : c.k = 2) (hl : ∀ z ∈ l, z.k = 1) (hu : u.k = 5) (hus : u.s = sArr) (h : XP ts X) : LAP (c :: (l ++ u :: ts)) (.mk 0 c.s (l.map (·.s)) X) := by
 intro n hn E R j a hR
 simp only [List.length_cons, List.length_append] at hn
 obtain ⟨n, rfl⟩ : ∃ m, n = m + 1 := ⟨n - 1, by omega⟩
 obtain ⟨e, j1, h1, h2⟩ := h n (by omega) E R (j + 1 + l.length + 1) a hR
 have e1 : c :: (l ++ u :: ts) ++ R = c :: (l ++ u :: (ts ++ R)) := by simp
 rw [e1]
 refine ⟨_, _, alt_of E n j a c l u _ hc hl (is_sg hu hus _) h1, ?_⟩
 simp only [bareAs, h2]
theorem XP_case1 {t v o w : Tok} {ts us : List Tok} {X : Ex} {A : Al} (hk : t.k = 4) (hs : t.s = sCase) (h : XP ts X) (hv : v.k = 4) (hvs : v.s = sOf) (ho : o.k = 5) (hos : o.s = sBrO) (hA : LAP us A) (hw : w.k = 5) (hws : w.s = sBrC) : XP (t :: (ts ++ v :: (o :: (us ++ [w])))) (.mk 10 0 [] 0 [X] [A]) := by
 intro n hn E R j a hR
 simp only [List.length_cons, List.length_append, List.length_nil] at hn
 obtain ⟨n, rfl⟩ : ∃ m, n = m + 1 := ⟨n - 1, by omega⟩
 obtain ⟨e, j1, h1, h2⟩ := h n (by omega) E (v :: (o :: (us ++ w :: R))) (j + 1) a (no_w hv (by rw [hvs]; decide) (by rw [hvs]; decide) _)
 obtain ⟨y, j2, k1, k2⟩ := hA n (by omega) E (w :: R) (j1 + 1 + 1) a (no_sg hw hws (by decide) R)
 have e1 : t :: (ts ++ v :: (o :: (us ++ [w]))) ++ R = t :: (ts ++ v :: (o :: (us ++ w :: R))) := by simp
 rw [e1]
 refine ⟨_, _, expr_case E n j a t _ hk hs h1 hv hvs (is_sg ho hos _) k1 (alts_end E n j2 a (w :: R) (not_sg (by rw [hws]; decide) R)) (is_sg hw hws R), ?_⟩
 simp only [bareE, bareEs, h2, k2]
theorem XP_case2 {t v o w m : Tok} {ts us ws : List Tok} {X : Ex} {A B : Al} (hk : t.k = 4) (hs : t.s = sCase) (h : XP ts X) (hv : v.k = 4) (hvs : v.s = sOf) (ho : o.k = 5) (hos : o.s = sBrO) (hA : LAP us A) (hm : m.k = 5) (hms : m.s = sSemi) (hB : LAP ws B) (hw : w.k = 5) (hws : w.s = sBrC) : XP (t :: (ts ++ v :: (o :: (us ++ m :: (ws ++ [w]))))) (.mk 10 0 [] 0 [X] [A, B]) := by
 intro n hn E R j a hR
 simp only [List.length_cons, List.length_append, List.length_nil] at hn
 obtain ⟨n, rfl⟩ : ∃ m, n = m + 2 := ⟨n - 2, by omega⟩
 obtain ⟨e, j1, h1, h2⟩ := h (n + 1) (by omega) E (v :: (o :: (us ++ m :: (ws ++ w :: R)))) (j + 1) a (no_w hv (by rw [hvs]; decide) (by rw [hvs]; decide) _)
 obtain ⟨y, j2, k1, k2⟩ := hA (n + 1) (by omega) E (m :: (ws ++ w :: R)) (j1 + 1 + 1) a (no_sg hm hms (by decide) _)
 obtain ⟨z, j3, l1, l2⟩ := hB n (by omega) E (w :: R) (j2 + 1) a (no_sg hw hws (by decide) R)
 have e1 : t :: (ts ++ v :: (o :: (us ++ m :: (ws ++ [w])))) ++ R = t :: (ts ++ v :: (o :: (us ++ m :: (ws ++ w :: R)))) := by simp
 rw [e1]
 have hal := alts_more E n j2 a m (ws ++ w :: R) (is_sg hm hms _) l1 (alts_end E n j3 a (w :: R) (not_sg (by rw [hws]; decide) R))
 refine ⟨_, _, expr_case E (n + 1) j a t _ hk hs h1 hv hvs (is_sg ho hos _) k1 hal (is_sg hw hws R), ?_⟩
 obtain ⟨ya, yc, yn, yb⟩ := y
 obtain ⟨za, zc, zn, zb⟩ := z
 simp only [bareAs, List.cons.injEq, and_true] at k2 l2
 simp only [bareE, bareEs, bareAs, h2, k2, l2]
def BP (ts : List Tok) (s : Str) (X : Ex) : Prop := ts ≠ [] ∧ ∀ n, 8 * ts.length ≤ n → ∀ (E : Nat) (out : Pg) (R : List Tok) (j a : Nat), ∃ b j', decl E n out ⟨j, ts ++ R, false, a⟩ = ({ out with bs := out.bs ++ [b] }, ⟨j', R, false, a⟩) ∧ b.s = s ∧ bareE b.b = X
theorem BP_of {t x : Tok} {l : List Tok} {u v : Tok} {ts : List Tok} {X : Ex} (hk : t.k = 4) (hs : t.s = sLet) (hx : x.k = 1) (hl : ∀ z ∈ l, z.k = 1) (hu : u.k = 5) (hus : u.s = sEq) (h : XP ts X) (hv : v.k = 5) (hvs : v.s = sSemi) : BP (t :: (x :: (l ++ u :: (ts ++ [v])))) x.s (lamsB (l.map (·.s)) X) := by
 refine ⟨by simp, fun n hn E out R j a => ?_⟩
 simp only [List.length_cons, List.length_append, List.length_nil] at hn
 obtain ⟨e, j1, h1, h2⟩ := h n (by omega) E (v :: R) (j + 1 + 1 + l.length + 1) a (no_sg hv hvs (by decide) R)
 have e1 : t :: (x :: (l ++ u :: (ts ++ [v]))) ++ R = t :: (x :: (l ++ u :: (ts ++ v :: R))) := by simp
 rw [e1]
 exact ⟨_, _, decl_let E n j a out t x l u _ hk hs hx hl (is_sg hu hus _) h1 (is_sg hv hvs R), rfl, by rw [bare_lams, h2]⟩
end Go.Am.Ps
set_option maxRecDepth 100000
namespace Go.Am.Ps
def PX (P : List Pc) (X : Ex) : Prop := (∀ i, XP (toksP i P) X) ∧ ∀ y, notB restB y = true → okP P y = true
def PY (P : List Pc) (X : Ex) : Prop := (∀ i, YP (toksP i P) X) ∧ ∀ y, notB restB y = true → okP P y = true
def PN (P : List Pc) (l : List Str) : Prop := (∀ i, (∀ t ∈ toksP i P, t.k = 1) ∧ (toksP i P).map (·.s) = l) ∧ ∀ y, notB restB y = true → okP P y = true
def PA (P : List Pc) (A : Al) : Prop := (∀ i, LAP (toksP i P) A) ∧ ∀ y, notB restB y = true → okP P y = true
def WN (s : Str) (k : Nat) : Prop := wordK s = some k ∧ ∀ y, notB restB y = true → (Pc.w s).ok y = true
theorem WN_of {s : Str} {k : Nat} (h : wordK s = some k) (h1 : ((match s with | c :: _ => lowerB c || upperB c | [] => false) && s.all restB) = true) : WN s k := by
 refine ⟨h, fun y hy => ?_⟩
 cases s with
 | nil => simp at h1
 | cons c l =>
  simp only [Bool.and_eq_true] at h1
  simp only [Pc.ok, h, hy, h1.1, h1.2]
  rfl
theorem not32 (y : Str) : notB restB (32 :: y) = true := rfl
theorem not41 (y : Str) : notB restB (41 :: y) = true := rfl
theorem not44 (y : Str) : notB restB (44 :: y) = true := rfl
theorem not59 (y : Str) : notB restB (59 :: y) = true := rfl
theorem not125 (y : Str) : notB restB (125 :: y) = true := rfl
theorem not45 (y : Str) : notB restB (45 :: y) = true := rfl
theorem PY.x {P : List Pc} {X : Ex} (h : PY P X) : PX P X := ⟨fun i => XP_of (h.1 i), h.2⟩
theorem tok_w (i : Nat) {s : Str} {k : Nat} (h : WN s k) : (Pc.w s).tok i = some ⟨k, i, s, 0⟩ := by
 simp [Pc.tok, h.1]
theorem PY_name {s : Str} (h : WN s 1) : PY [.w s] (.mk 1 0 s 0 [] []) := by
 refine ⟨fun i => ?_, fun y hy => by simp [okP, textP, h.2 y hy]⟩
 simp only [toksP, tok_w i h, Option.toList_some, List.append_nil]
 exact YP_name rfl
theorem PY_con {s : Str} (h : WN s 2) : PY [.w s] (.mk 2 0 s 0 [] []) := by
 refine ⟨fun i => ?_, fun y hy => by simp [okP, textP, h.2 y hy]⟩
 simp only [toksP, tok_w i h, Option.toList_some, List.append_nil]
 exact YP_con rfl
theorem PY_bool {s : Str} (h : WN s 4) (hs : s = sTrue ∨ s = sFalse) : PY [.w s] (.mk 4 0 [] (cond (eqS s sTrue) 1 0) [] []) := by
 refine ⟨fun i => ?_, fun y hy => by simp [okP, textP, h.2 y hy]⟩
 simp only [toksP, tok_w i h, Option.toList_some, List.append_nil]
 exact YP_bool (t := ⟨4, i, s, 0⟩) rfl hs
theorem digit_rest {y : Str} (h : notB restB y = true) : notB digitB y = true := by
 cases y with
 | nil => rfl
 | cons c y =>
  simp only [notB, restB, Bool.not_eq_true', Bool.or_eq_false_iff] at h ⊢
  exact h.2.2.1
theorem PY_int {s : Str} (h : ((match s with | c :: _ => digitB c | [] => false) && (s.all digitB && (numB s).isSome)) = true) : PY [.nu s] (.mk 3 0 [] ((numB s).getD 0) [] []) := by
 simp only [Bool.and_eq_true] at h
 obtain ⟨h1, h2, h3⟩ := h
 refine ⟨fun i => ?_, fun y hy => ?_⟩
 ·simp only [toksP, Pc.tok, Option.toList_some, List.append_nil]
  exact YP_int (t := ⟨3, i, [], (numB s).getD 0⟩) rfl
 ·cases s with
  | nil => simp at h1
  | cons c l =>
   simp only at h1
   simp only [okP, textP, Pc.ok, h1, h2, h3, digit_rest hy]
   rfl
theorem PN_nil : PN [] [] := ⟨fun i => ⟨by simp [toksP], rfl⟩, fun y _ => rfl⟩
theorem PN_cons {s : Str} {P : List Pc} {l : List Str} (h : WN s 1) (h' : PN P l) (hP : P = [] ∨ ∃ Q, P = .sp 32 :: Q) : PN (.sp 32 :: .w s :: P) (s :: l) := by
 refine ⟨fun i => ?_, fun y hy => ?_⟩
 ·obtain ⟨a1, a2⟩ := h'.1 (i + 1 + s.length)
  have e : toksP i (.sp 32 :: .w s :: P) = ⟨1, i + 1, s, 0⟩ :: toksP (i + 1 + s.length) P := by
   simp only [toksP, h.1, Option.getD_some, Option.toList_some, Pc.tok, Option.toList_none, List.nil_append, Pc.str, List.length_singleton, List.singleton_append]
  rw [e]
  refine ⟨fun t ht => ?_, by simp [a2]⟩
  rcases List.mem_cons.1 ht with rfl | ht
  ·rfl
  ·exact a1 t ht
 ·have hn : notB restB (textP P y) = true := by
   rcases hP with rfl | ⟨Q, rfl⟩
   ·exact hy
   ·rfl
  simp only [okP, textP, h.2 _ hn, h'.2 y hy]
  rfl
theorem PX_app2 {P Q : List Pc} {X Y : Ex} (h : PY P X) (h' : PY Q Y) : PX (P ++ .sp 32 :: Q) (.mk 5 0 [] 0 [X, Y] []) := by
 refine ⟨fun i => ?_, fun y hy => ?_⟩
 ·rw [toksP_app]
  simp only [toksP, Pc.tok, Option.toList_none, List.nil_append]
  exact XP_app2 (h.1 _) (h'.1 _)
 ·rw [okP_app]
  simp only [okP, textP, h'.2 y hy, h.2 _ (not32 _), Pc.str, List.singleton_append]
  rfl
theorem PX_app3 {P Q R : List Pc} {X Y Z : Ex} (h : PY P X) (h' : PY Q Y) (h'' : PY R Z) : PX (P ++ .sp 32 :: (Q ++ .sp 32 :: R)) (.mk 5 0 [] 0 [.mk 5 0 [] 0 [X, Y] [], Z] []) := by
 refine ⟨fun i => ?_, fun y hy => ?_⟩
 ·rw [toksP_app]
  simp only [toksP, Pc.tok, Option.toList_none, List.nil_append]
  rw [toksP_app]
  simp only [toksP, Pc.tok, Option.toList_none, List.nil_append]
  rw [← List.append_assoc]
  exact XP_app3 (h.1 _) (h'.1 _) (h''.1 _)
 ·rw [okP_app]
  simp only [okP, textP, Pc.str, List.singleton_append]
  rw [okP_app]
  simp only [okP, textP, h''.2 y hy, h'.2 _ (not32 _), h.2 _ (not32 _), Pc.str, List.singleton_append]
  rfl
theorem PY_paren {P : List Pc} {X : Ex} (h : PX P X) : PY (.sg 40 :: (P ++ [.sg 41])) X := by
 refine ⟨fun i => ?_, fun y hy => ?_⟩
 ·simp only [toksP, toksP_app, Pc.tok, Option.toList_some, List.singleton_append, List.append_nil]
  exact YP_paren rfl rfl (h.1 _) rfl rfl
 ·simp only [okP, okP_app, textP, textP_app, Pc.str, List.singleton_append, h.2 _ (not41 _)]
  rfl
theorem PY_pair {P Q : List Pc} {X Y : Ex} (h : PX P X) (h' : PX Q Y) : PY (.sg 40 :: (P ++ .sg 44 :: .sp 32 :: (Q ++ [.sg 41]))) (.mk 8 0 [] 0 [X, Y] []) := by
 refine ⟨fun i => ?_, fun y hy => ?_⟩
 ·simp only [toksP, toksP_app, Pc.tok, Option.toList_some, Option.toList_none, List.nil_append, List.singleton_append, List.append_nil]
  exact YP_pair rfl rfl (h.1 _) rfl rfl (h'.1 _) rfl rfl
 ·simp only [okP, okP_app, textP, textP_app, Pc.str, List.singleton_append, h.2 _ (not44 _), h'.2 _ (not41 _)]
  rfl
theorem PX_lam {x : Str} {N P : List Pc} {l : List Str} {X : Ex} (hx : WN x 1) (hN : PN N l) (hN' : N = [] ∨ ∃ Q, N = .sp 32 :: Q) (h : PX P X) : PX (.sg 92 :: .w x :: (N ++ .sp 32 :: .ar :: .sp 32 :: P)) (lamsB (x :: l) X) := by
 refine ⟨fun i => ?_, fun y hy => ?_⟩
 ·simp only [toksP, toksP_app, hx.1, Option.getD_some, Pc.tok, Option.toList_some, Option.toList_none, List.nil_append, List.singleton_append]
  obtain ⟨a1, a2⟩ := hN.1 (i + (Pc.sg 92).str.length + (Pc.w x).str.length)
  have := XP_lam (t := ⟨5, i, [92], 0⟩) (x := ⟨1, i + (Pc.sg 92).str.length, x, 0⟩) (l := toksP (i + (Pc.sg 92).str.length + (Pc.w x).str.length) N) (u := ⟨5, i + (Pc.sg 92).str.length + (Pc.w x).str.length + lenP N + (Pc.sp 32).str.length, sArr, 0⟩) rfl rfl rfl a1 rfl rfl (h.1 (i + (Pc.sg 92).str.length + (Pc.w x).str.length + lenP N + (Pc.sp 32).str.length + Pc.ar.str.length + (Pc.sp 32).str.length))
  simp only [List.map_cons, a2] at this
  exact this
 ·have hn : notB restB (textP N (32 :: 45 :: 62 :: 32 :: textP P y)) = true := by
   rcases hN' with rfl | ⟨Q, rfl⟩
   ·rfl
   ·rfl
  simp only [okP, okP_app, textP, textP_app, Pc.str, List.singleton_append, List.cons_append, List.nil_append, h.2 y hy, hN.2 _ (not32 _), hx.2 _ hn]
  rfl
theorem wLet : WN [108, 101, 116] 4 := WN_of (by decide) (by decide)
theorem wIn : WN [105, 110] 4 := WN_of (by decide) (by decide)
theorem wIf : WN [105, 102] 4 := WN_of (by decide) (by decide)
theorem wThen : WN [116, 104, 101, 110] 4 := WN_of (by decide) (by decide)
theorem wElse : WN [101, 108, 115, 101] 4 := WN_of (by decide) (by decide)
theorem wCase : WN [99, 97, 115, 101] 4 := WN_of (by decide) (by decide)
theorem wOf : WN [111, 102] 4 := WN_of (by decide) (by decide)
theorem PX_let {x : Str} {N P Q : List Pc} {l : List Str} {X Y : Ex} (hx : WN x 1) (hN : PN N l) (hN' : N = [] ∨ ∃ Q, N = .sp 32 :: Q) (h : PX P X) (h' : PX Q Y) : PX (.w [108, 101, 116] :: .sp 32 :: .w x :: (N ++ .sp 32 :: .sg 61 :: .sp 32 :: (P ++ .sp 32 :: .w [105, 110] :: .sp 32 :: Q))) (.mk 7 0 x 0 [lamsB l X, Y] []) := by
 refine ⟨fun i => ?_, fun y hy => ?_⟩
 ·simp only [toksP, toksP_app, hx.1, Option.getD_some, wLet.1, Option.getD_some, wIn.1, Option.getD_some, Pc.tok, Option.toList_some, Option.toList_none, List.nil_append, List.singleton_append]
  obtain ⟨a1, a2⟩ := hN.1 (i + (Pc.w [108, 101, 116]).str.length + (Pc.sp 32).str.length + (Pc.w x).str.length)
  have := fun t u v p q => XP_let (t := ⟨4, i, [108, 101, 116], 0⟩) (x := ⟨1, t, x, 0⟩) (l := toksP (i + (Pc.w [108, 101, 116]).str.length + (Pc.sp 32).str.length + (Pc.w x).str.length) N) (u := ⟨5, u, [61], 0⟩) (v := ⟨4, v, [105, 110], 0⟩) rfl rfl rfl a1 rfl rfl (h.1 p) rfl rfl (h'.1 q)
  simp only [a2] at this
  exact this _ _ _ _ _
 ·have hn : notB restB (textP N (32 :: 61 :: 32 :: textP P (32 :: 105 :: 110 :: 32 :: textP Q y))) = true := by
   rcases hN' with rfl | ⟨Q, rfl⟩
   ·rfl
   ·rfl
  simp only [okP, okP_app, textP, textP_app, Pc.str, List.singleton_append, List.cons_append, List.nil_append, h.2 _ (not32 _), h'.2 y hy, hN.2 _ (not32 _), hx.2 _ hn, wLet.2 _ (not32 _), wIn.2 _ (not32 _)]
  rfl
theorem PX_if {P Q R : List Pc} {X Y Z : Ex} (h : PX P X) (h' : PX Q Y) (h'' : PX R Z) : PX (.w [105, 102] :: .sp 32 :: (P ++ .sp 32 :: .w [116, 104, 101, 110] :: .sp 32 :: (Q ++ .sp 32 :: .w [101, 108, 115, 101] :: .sp 32 :: R))) (.mk 9 0 [] 0 [X, Y, Z] []) := by
 refine ⟨fun i => ?_, fun y hy => ?_⟩
 ·simp only [toksP, toksP_app, wIf.1, Option.getD_some, wThen.1, Option.getD_some, wElse.1, Option.getD_some, Pc.tok, Option.toList_some, Option.toList_none, List.nil_append, List.singleton_append]
  exact XP_if rfl rfl (h.1 _) rfl rfl (h'.1 _) rfl rfl (h''.1 _)
 ·simp only [okP, okP_app, textP, textP_app, Pc.str, List.singleton_append, List.cons_append, List.nil_append, h.2 _ (not32 _), h'.2 _ (not32 _), h''.2 y hy, wIf.2 _ (not32 _), wThen.2 _ (not32 _), wElse.2 _ (not32 _)]
  rfl
theorem PA_of {c : Str} {N P : List Pc} {l : List Str} {X : Ex} (hc : WN c 2) (hN : PN N l) (hN' : N = [] ∨ ∃ Q, N = .sp 32 :: Q) (h : PX P X) : PA (.w c :: (N ++ .sp 32 :: .ar :: .sp 32 :: P)) (.mk 0 c l X) := by
 refine ⟨fun i => ?_, fun y hy => ?_⟩
 ·simp only [toksP, toksP_app, hc.1, Option.getD_some, Pc.tok, Option.toList_some, Option.toList_none, List.nil_append, List.singleton_append]
  obtain ⟨a1, a2⟩ := hN.1 (i + (Pc.w c).str.length)
  have := fun u p => LAP_of (c := ⟨2, i, c, 0⟩) (l := toksP (i + (Pc.w c).str.length) N) (u := ⟨5, u, sArr, 0⟩) rfl a1 rfl rfl (h.1 p)
  simp only [a2] at this
  exact this _ _
 ·have hn : notB restB (textP N (32 :: 45 :: 62 :: 32 :: textP P y)) = true := by
   rcases hN' with rfl | ⟨Q, rfl⟩
   ·rfl
   ·rfl
  simp only [okP, okP_app, textP, textP_app, Pc.str, List.singleton_append, List.cons_append, List.nil_append, h.2 y hy, hN.2 _ (not32 _), hc.2 _ hn]
  rfl
theorem PX_case1 {P A : List Pc} {X : Ex} {Y : Al} (h : PX P X) (hA : PA A Y) : PX (.w [99, 97, 115, 101] :: .sp 32 :: (P ++ .sp 32 :: .w [111, 102] :: .sp 32 :: .sg 123 :: (A ++ [.sg 125]))) (.mk 10 0 [] 0 [X] [Y]) := by
 refine ⟨fun i => ?_, fun y hy => ?_⟩
 ·simp only [toksP, toksP_app, wCase.1, Option.getD_some, wOf.1, Option.getD_some, Pc.tok, Option.toList_some, Option.toList_none, List.nil_append, List.singleton_append, List.append_nil]
  exact XP_case1 rfl rfl (h.1 _) rfl rfl rfl rfl (hA.1 _) rfl rfl
 ·simp only [okP, okP_app, textP, textP_app, Pc.str, List.singleton_append, List.cons_append, List.nil_append, h.2 _ (not32 _), hA.2 _ (not125 _), wCase.2 _ (not32 _), wOf.2 _ (not32 _)]
  rfl
theorem PX_case2 {P A B : List Pc} {X : Ex} {Y Z : Al} (h : PX P X) (hA : PA A Y) (hB : PA B Z) : PX (.w [99, 97, 115, 101] :: .sp 32 :: (P ++ .sp 32 :: .w [111, 102] :: .sp 32 :: .sg 123 :: (A ++ .sg 59 :: .sp 32 :: (B ++ [.sg 125])))) (.mk 10 0 [] 0 [X] [Y, Z]) := by
 refine ⟨fun i => ?_, fun y hy => ?_⟩
 ·simp only [toksP, toksP_app, wCase.1, Option.getD_some, wOf.1, Option.getD_some, Pc.tok, Option.toList_some, Option.toList_none, List.nil_append, List.singleton_append, List.append_nil]
  exact XP_case2 rfl rfl (h.1 _) rfl rfl rfl rfl (hA.1 _) rfl rfl (hB.1 _) rfl rfl
 ·simp only [okP, okP_app, textP, textP_app, Pc.str, List.singleton_append, List.cons_append, List.nil_append, h.2 _ (not32 _), hA.2 _ (not59 _), hB.2 _ (not125 _), wCase.2 _ (not32 _), wOf.2 _ (not32 _)]
  rfl
def PB (P : List Pc) (s : Str) (X : Ex) : Prop := (∀ i, BP (toksP i P) s X) ∧ ∀ y, okP P y = true
theorem PB_of {x : Str} {N P : List Pc} {l : List Str} {X : Ex} (hx : WN x 1) (hN : PN N l) (hN' : N = [] ∨ ∃ Q, N = .sp 32 :: Q) (h : PX P X) : PB (.w [108, 101, 116] :: .sp 32 :: .w x :: (N ++ .sp 32 :: .sg 61 :: .sp 32 :: (P ++ [.sg 59]))) x (lamsB l X) := by
 refine ⟨fun i => ?_, fun y => ?_⟩
 ·simp only [toksP, toksP_app, hx.1, Option.getD_some, wLet.1, Option.getD_some, Pc.tok, Option.toList_some, Option.toList_none, List.nil_append, List.singleton_append, List.append_nil]
  obtain ⟨a1, a2⟩ := hN.1 (i + (Pc.w [108, 101, 116]).str.length + (Pc.sp 32).str.length + (Pc.w x).str.length)
  have := fun t u v p => BP_of (t := ⟨4, i, [108, 101, 116], 0⟩) (x := ⟨1, t, x, 0⟩) (l := toksP (i + (Pc.w [108, 101, 116]).str.length + (Pc.sp 32).str.length + (Pc.w x).str.length) N) (u := ⟨5, u, [61], 0⟩) (v := ⟨5, v, [59], 0⟩) rfl rfl rfl a1 rfl rfl (h.1 p) rfl rfl
  simp only [a2] at this
  exact this _ _ _ _
 ·have hn : notB restB (textP N (32 :: 61 :: 32 :: textP P (59 :: y))) = true := by
   rcases hN' with rfl | ⟨Q, rfl⟩
   ·rfl
   ·rfl
  simp only [okP, okP_app, textP, textP_app, Pc.str, List.singleton_append, List.cons_append, List.nil_append, h.2 _ (not59 _), hN.2 _ (not32 _), hx.2 _ hn, wLet.2 _ (not32 _)]
  rfl
end Go.Am.Ps
namespace Go.Am.Ps
mutual
theorem deep_bare : ∀ e : Ex, deepE (bareE e) = deepE e
 | .mk k a s n ks as => by
  rw [bareE, deepE, deepE, deeps_bare ks 0, deepA_bare as]
theorem deeps_bare : ∀ (l : List Ex) (m : Int), deepEs m (bareEs l) = deepEs m l
 | [], m => rfl
 | e :: l, m => by rw [bareEs, deepEs, deepEs, deep_bare e, deeps_bare l]
theorem deepA_bare : ∀ (l : List Al) (m : Int), deepAs m (bareAs l) = deepAs m l
 | [], m => rfl
 | .mk a c ns b :: l, m => by rw [bareAs, deepAs, deepAs, deepA, deepA, deep_bare b, deepA_bare l]
end
theorem none_iff {α : Type} {o p : Option α} (h : o.isNone = p.isNone) : o = none ↔ p = none := by
 cases o <;> cases p <;> simp at h ⊢
theorem any_cons {B B' : List Str} (h : ∀ x, B.any (eqS x) = B'.any (eqS x)) (s : Str) : ∀ x, (s :: B).any (eqS x) = (s :: B').any (eqS x) := fun x => by
 simp only [List.any_cons, h x]
theorem any_app {B B' : List Str} (h : ∀ x, B.any (eqS x) = B'.any (eqS x)) (l : List Str) : ∀ x, (l ++ B).any (eqS x) = (l ++ B').any (eqS x) := fun x => by
 simp only [List.any_append, h x]
theorem headW_bare (ds : List Da) {B B' : List Str} (h : ∀ x, B.any (eqS x) = B'.any (eqS x)) (k a a' : Nat) (s : Str) : (headW ds B k a s).isNone = (headW ds B' k a' s).isNone := by
 unfold headW
 rw [h s]
 cases Nat.beq k 1 with
 | true => cases B'.any (eqS s) <;> rfl
 | false =>
  cases Nat.beq k 2 with
  | true => cases conN ds s <;> rfl
  | false => rfl
mutual
theorem wr_bare (ds : List Da) : ∀ (e : Ex) (B B' : List Str), (∀ x, B.any (eqS x) = B'.any (eqS x)) → (wrE ds B e).isNone = (wrE ds B' (bareE e)).isNone
 | .mk k a s n ks as, B, B', h => by
  rw [bareE, wrE, wrE]
  have h1 := headW_bare ds h k a 0 s
  have h2 := wrK_bare ds ks k s 0 B B' h
  have h3 := wrA_bare ds as B B' [] h
  cases e1 : headW ds B k a s <;> cases e2 : headW ds B' k 0 s <;> rw [e1, e2] at h1 <;> simp at h1 ⊢
  cases e3 : wrK ds k s 0 B ks <;> cases e4 : wrK ds k s 0 B' (bareEs ks) <;> rw [e3, e4] at h2 <;> simp at h2 ⊢
  simpa using h3
theorem wrK_bare (ds : List Da) : ∀ (l : List Ex) (k : Nat) (s : Str) (i : Nat) (B B' : List Str), (∀ x, B.any (eqS x) = B'.any (eqS x)) → (wrK ds k s i B l).isNone = (wrK ds k s i B' (bareEs l)).isNone
 | [], k, s, i, B, B', h => rfl
 | e :: l, k, s, i, B, B', h => by
  rw [bareEs, wrK, wrK]
  have h1 := wr_bare ds e (s :: B) (s :: B') (any_cons h s)
  have h2 := wr_bare ds e B B' h
  have h3 := wrK_bare ds l k s (i + 1) B B' h
  cases bindsK k i with
  | true =>
   simp only
   cases e1 : wrE ds (s :: B) e <;> cases e2 : wrE ds (s :: B') (bareE e) <;> rw [e1, e2] at h1 <;> simp at h1 ⊢
   simpa using h3
  | false =>
   simp only
   cases e1 : wrE ds B e <;> cases e2 : wrE ds B' (bareE e) <;> rw [e1, e2] at h2 <;> simp at h2 ⊢
   simpa using h3
theorem wrA_bare (ds : List Da) : ∀ (l : List Al) (B B' had : List Str), (∀ x, B.any (eqS x) = B'.any (eqS x)) → (wrA ds B had l).isNone = (wrA ds B' had (bareAs l)).isNone
 | [], B, B', had, h => rfl
 | .mk a c ns b :: l, B, B', had, h => by
  rw [bareAs, wrA, wrA]
  have h1 := wr_bare ds b (ns ++ B) (ns ++ B') (any_app h ns)
  have h3 := wrA_bare ds l B B' (c :: had) h
  cases altW ds had c ns with
  | false => rfl
  | true =>
   simp only
   cases e1 : wrE ds (ns ++ B) b <;> cases e2 : wrE ds (ns ++ B') (bareE b) <;> rw [e1, e2] at h1 <;> simp at h1 ⊢
   simpa using h3
end
def bareB (b : Bi) : Str × Ex := (b.s, bareE b.b)
theorem twice_ok : ∀ (l : List Bi) (had : List Str), (∀ b ∈ l, b.s ∉ had) → (l.map (·.s)).Nodup → twiceB had l = .ok ((l.map (·.s)).reverse ++ had)
 | [], had, _, _ => rfl
 | b :: l, had, h, hn => by
  rw [List.map_cons, List.nodup_cons] at hn
  have h1 : had.any (eqS b.s) = false := by
   rw [List.any_eq_false]
   intro x hx
   rw [eqS_dec, decide_eq_true_iff]
   exact fun e => h b (by simp) (by rw [e]; exact hx)
  rw [twiceB, h1]
  simp only
  rw [twice_ok l (b.s :: had) (fun c hc => by
   rw [List.mem_cons]
   rintro (e | e)
   ·exact hn.1 (by rw [← e]; exact List.mem_map.2 ⟨c, hc, rfl⟩)
   ·exact h c (by simp [hc]) e) hn.2]
  simp
theorem wrBs_none (ds : List Da) (B : List Str) : ∀ l : List Bi, wrBs ds B l = none ↔ ∀ b ∈ l, wrE ds B b.b = none
 | [] => by simp [wrBs]
 | b :: l => by
  rw [wrBs]
  cases h : wrE ds B b.b with
  | some x => simp [h]
  | none => simp [h, wrBs_none ds B l]
theorem less_some (o : Option Nat) (a : Nat) : ∃ x, less o a = some x := by
 unfold less
 cases o with
 | none => exact ⟨a, rfl⟩
 | some b => simp only; split <;> exact ⟨_, rfl⟩
theorem tooB_some : ∀ (l : List Bi) (x : Nat), ∃ y, tooB (some x) l = some y
 | [], x => ⟨x, rfl⟩
 | b :: l, x => by
  rw [tooB]
  split
  ·obtain ⟨y, hy⟩ := less_some (some x) b.a
   rw [hy]; exact tooB_some l y
  ·exact tooB_some l x
theorem tooB_none : ∀ l : List Bi, tooB none l = none ↔ ∀ b ∈ l, ¬ 60 < deepE b.b
 | [] => ⟨(fun _ b hb => by cases hb), fun _ => rfl⟩
 | b :: l => by
  rw [tooB]
  by_cases h : 60 < deepE b.b
  ·obtain ⟨y, hy⟩ := less_some none b.a
   rw [if_pos h, hy]
   obtain ⟨z, hz⟩ := tooB_some l y
   rw [hz]
   exact ⟨(fun e => by cases e), fun k => absurd h (k b (by simp))⟩
  ·rw [if_neg h, tooB_none l]
   refine ⟨fun k c hc => ?_, fun k c hc => k c (by simp [hc])⟩
   rcases List.mem_cons.1 hc with rfl | hc
   ·exact h
   ·exact k c hc
def GoodB (ds : List Da) (S : List (Str × Ex)) : Prop := (∀ q ∈ S, ¬ 60 < deepE q.2) ∧ ∀ q ∈ S, wrE ds (S.map (·.1)) q.2 = none
theorem GoodB.perm {ds : List Da} {S S' : List (Str × Ex)} (h : GoodB ds S) (hp : S'.Perm S) (hb : ∀ q ∈ S, bareE q.2 = q.2) : GoodB ds S' := by
 refine ⟨fun q hq => h.1 q (hp.mem_iff.1 hq), fun q hq => ?_⟩
 have hq' := hp.mem_iff.1 hq
 have hany : ∀ x, (S'.map (·.1)).any (eqS x) = (S.map (·.1)).any (eqS x) := fun x => by
  rw [Bool.eq_iff_iff, List.any_eq_true, List.any_eq_true]
  constructor
  ·rintro ⟨y, hy, e⟩
   exact ⟨y, (hp.map _).mem_iff.1 hy, e⟩
  ·rintro ⟨y, hy, e⟩
   exact ⟨y, (hp.map _).mem_iff.2 hy, e⟩
 have := wr_bare ds q.2 _ _ hany
 rw [hb q hq'] at this
 exact (none_iff this).2 (h.2 q hq')
theorem goodB_of (ds : List Da) (hd : checkData ds = none) (bs : List Bi) (hn : (bs.map (·.s)).Nodup) : (tooB none bs = none ∧ checkScope ⟨ds, bs⟩ = none) ↔ GoodB ds (bs.map bareB) := by
 have ht := twice_ok bs [] (by simp) hn
 rw [List.append_nil] at ht
 have hB : (bs.map bareB).map (·.1) = bs.map (·.s) := by rw [List.map_map]; rfl
 have hany : ∀ x, ((bs.map (·.s)).reverse).any (eqS x) = (bs.map (·.s)).any (eqS x) := fun x => by
  rw [List.any_reverse]
 unfold checkScope GoodB
 simp only [hd, ht, hB]
 rw [tooB_none]
 constructor
 ·rintro ⟨h1, h2⟩
  refine ⟨fun q hq => ?_, fun q hq => ?_⟩
  ·obtain ⟨b, hb, rfl⟩ := List.mem_map.1 hq
   show ¬ 60 < deepE (bareE b.b)
   rw [deep_bare]; exact h1 b hb
  ·obtain ⟨b, hb, rfl⟩ := List.mem_map.1 hq
   have h3 : wrBs ds (bs.map (·.s)).reverse bs = none := by
    cases e : wrBs ds (bs.map (·.s)).reverse bs with
    | none => rfl
    | some x => rw [e] at h2; cases h2
   have h4 := (wrBs_none ds _ bs).1 h3 b hb
   exact (none_iff (wr_bare ds b.b _ _ hany)).1 h4
 ·rintro ⟨h1, h2⟩
  have h3 : wrBs ds (bs.map (·.s)).reverse bs = none := (wrBs_none ds _ bs).2 fun b hb =>
   (none_iff (wr_bare ds b.b _ _ hany)).2 (h2 (bareB b) (List.mem_map.2 ⟨b, hb, rfl⟩))
  refine ⟨fun b hb => ?_, by rw [h3]⟩
  have := h1 (bareB b) (List.mem_map.2 ⟨b, hb, rfl⟩)
  have e : deepE (bareB b).2 = deepE b.b := deep_bare b.b
  rw [e] at this; exact this
mutual
theorem bare_bare : ∀ e : Ex, bareE (bareE e) = bareE e
 | .mk k a s n ks as => by rw [bareE, bareE, bares_bare ks, bareA_bare as]
theorem bares_bare : ∀ l : List Ex, bareEs (bareEs l) = bareEs l
 | [] => rfl
 | e :: l => by rw [bareEs, bareEs, bare_bare e, bares_bare l]
theorem bareA_bare : ∀ l : List Al, bareAs (bareAs l) = bareAs l
 | [] => rfl
 | .mk a c ns b :: l => by rw [bareAs, bareAs, bare_bare b, bareA_bare l]
end
end Go.Am.Ps
namespace Go.Am.Ps
def strP (P : List Pc) : Str := textP P []
theorem textP_str : ∀ (P : List Pc) (y : Str), textP P y = strP P ++ y
 | [], y => rfl
 | a :: P, y => by
  unfold strP
  rw [textP, textP, textP_str P y, textP_str P [], List.append_nil, List.append_assoc]
theorem strP_flat : ∀ L : List (List Pc), strP L.flatten = (L.map strP).flatten
 | [] => rfl
 | P :: L => by
  have := strP_flat L
  unfold strP at this ⊢
  rw [List.flatten_cons, textP_app, this]
  exact textP_str P _
theorem binds_all : ∀ (L : List (List Pc × Str × Ex)), (∀ q ∈ L, PB q.1 q.2.1 q.2.2) → ∀ (i n m E : Nat) (out : Pg) (j a : Nat), 8 * (toksL i (L.map (·.1))).flatten.length ≤ n → L.length ≤ m → ∃ bs j', decls E n m out ⟨j, (toksL i (L.map (·.1))).flatten, false, a⟩ = ({ out with bs := out.bs ++ bs }, ⟨j', [], false, a⟩) ∧ bs.map bareB = L.map (·.2)
 | [], h, i, n, m, E, out, j, a, hn, hm => by
  refine ⟨[], j, ?_, rfl⟩
  cases m with
  | zero => simp [decls, toksL]
  | succ m => simp [decls, toksL]
 | q :: L, h, i, n, m, E, out, j, a, hn, hm => by
  obtain ⟨m, rfl⟩ : ∃ k, m = k + 1 := ⟨m - 1, by simp at hm; omega⟩
  obtain ⟨hb, _⟩ := h q (by simp)
  obtain ⟨hne, hd⟩ := hb i
  simp only [List.map_cons, toksL, List.flatten_cons, List.length_append] at hn ⊢
  obtain ⟨b, j1, a1, a2, a3⟩ := hd n (by omega) E out (toksL (i + lenP q.1) (L.map (·.1))).flatten j a
  obtain ⟨bs, j2, b1, b2⟩ := binds_all L (fun x hx => h x (by simp [hx])) (i + lenP q.1) n m E { out with bs := out.bs ++ [b] } j1 a (by omega) (by simp at hm; omega)
  refine ⟨b :: bs, j2, ?_, by rw [List.map_cons, b2]; unfold bareB; rw [a2, a3]⟩
  cases hts : toksP i q.1 with
  | nil => exact absurd hts hne
  | cons t ts =>
   rw [hts] at a1
   simp only [List.cons_append] at a1 ⊢
   simp only [decls, a1, b1]
   simp
end Go.Am.Ps
