/- E0, E1, E2, E3, E4, E5, E6, as one -/
import Derived.Test.YtdapcelbbejfoaaP21
import Derived.Test.YtdapcelbbejfoaaDA
set_option linter.unusedVariables false
set_option linter.unusedSimpArgs false
namespace Go.Am.Try
open Go Go.Am.Ps
mutual
def bdE : Ex → Nat
 | .mk _ _ _ _ ks as => 1 + max (bdEs ks) (bdAs as)
def bdEs : List Ex → Nat
 | [] => 0
 | e :: l => max (bdE e) (bdEs l)
def bdAs : List Al → Nat
 | [] => 0
 | .mk _ _ ns b :: l => max (ns.length + bdE b) (bdAs l)
end
def KB (n : Nat) : Nat := n * 1048576 + 1
theorem KB_succ (n : Nat) : KB (n + 1) = KB n + 1048576 := by unfold KB; omega
theorem bd_lams (a : Nat) : ∀ (l : List Tok) (b : Ex), bdE (lams a l b) = l.length + bdE b
 | [], b => by simp [lams]
 | t :: l, b => by
  simp only [lams, bdE, bdEs, bdAs, bd_lams a l b, List.length_cons]
  omega
def bdA1 : Al → Nat
 | .mk _ _ ns b => ns.length + bdE b
theorem bdAs_cons (a : Al) (l : List Al) : bdAs (a :: l) = max (bdA1 a) (bdAs l) := by cases a; simp [bdAs, bdA1]
theorem bd_ex0 : bdE ex0 = 1 := by simp [ex0, bdE, bdEs, bdAs]
theorem bd_all (E : Nat) : ∀ n, n ≤ 1000000 → (∀ p, rl p ≤ 65536 → bdE (expr E n p).1 ≤ KB n) ∧ (∀ p, rl p ≤ 65536 → bdA1 (alt E n p).1 ≤ KB n) ∧ (∀ p, rl p ≤ 65536 → bdAs (alts E n p).1 ≤ KB n) ∧ (∀ p, rl p ≤ 65536 → bdE (atom E n p).1 ≤ KB n) ∧ (∀ k p l, rl p ≤ 65536 → (rest E n k p).1 = some l → bdEs l ≤ KB n) ∧ (∀ e p, rl p ≤ 65536 → bdE (apps E n e p).1 ≤ max (bdE e) (KB n) + n)
 | 0, _ => ⟨fun _ _ => by simp [expr, bd_ex0, KB], fun _ _ => by simp [alt, bdA1, bd_ex0, KB], fun _ _ => by simp [alts, bdAs], fun _ _ => by simp [atom, bd_ex0, KB], fun k p l _ h => by cases h; simp [bdEs], fun e p _ => by simp [apps]; omega⟩
 | n + 1, hn => by
  obtain ⟨h1, h2, h3, h4, h5, h6⟩ := bd_all E n (by omega)
  obtain ⟨r1, r2, r3, r4, r5, r6⟩ := rl_all E n
  have hK := KB_succ n
  have hK1 : 1 ≤ KB n := by unfold KB; omega
  refine ⟨fun p hp => ?_, fun p hp => ?_, fun p hp => ?_, fun p hp => ?_, fun k p l hp h => ?_, fun e p hp => ?_⟩
  ·simp only [expr]
   have hnx := Nat.le_trans (rl_next p) hp
   split
   ·split
    ·have a0 := Nat.le_trans (rl_eat E p.next 1 []) hnx
     have a1 := names_le (p.next.eat E 1 []).2
     have a2 := Nat.le_trans (rl_sign E (p.next.eat E 1 []).2.names.2 sArr) (Nat.le_trans (rl_names _) a0)
     have := h1 _ a2
     simp only [bd_lams, List.length_cons]
     omega
    ·split
     ·have a0 := Nat.le_trans (rl_eat E p.next 1 []) hnx
      have a1 := names_le (p.next.eat E 1 []).2
      have a2 := Nat.le_trans (rl_sign E (p.next.eat E 1 []).2.names.2 sEq) (Nat.le_trans (rl_names _) a0)
      have b1 := h1 _ a2
      have b2 := h1 _ (Nat.le_trans (rl_eat E (expr E n ((p.next.eat E 1 []).2.names.2.sign E sEq)).2 4 sIn) (Nat.le_trans (r1 _) a2))
      simp only [bdE, bdEs, bdAs, bd_lams]
      omega
     ·split
      ·have a1 := Nat.le_trans (r1 p.next) hnx
       have a2 := Nat.le_trans (rl_eat E (expr E n p.next).2 4 sThen) a1
       have a3 := Nat.le_trans (r1 _) a2
       have b1 := h1 _ hnx
       have b2 := h1 _ a2
       have b3 := h1 _ (Nat.le_trans (rl_eat E (expr E n ((expr E n p.next).2.eat E 4 sThen).2).2 4 sElse) a3)
       simp only [bdE, bdEs, bdAs]
       omega
      ·split
       ·have a1 := Nat.le_trans (r1 p.next) hnx
        have a2 := Nat.le_trans (rl_sign E ((expr E n p.next).2.eat E 4 sOf).2 sBrO) (Nat.le_trans (rl_eat _ _ _ _) a1)
        have a3 := Nat.le_trans (r2 _) a2
        have b1 := h1 _ hnx
        have b2 := h2 _ a2
        have b3 := h3 _ a3
        simp only [bdE, bdEs, bdAs_cons]
        omega
       ·have b1 := h4 _ hp
        have b2 := h6 (atom E n p).1 (atom E n p).2 (Nat.le_trans (r4 _) hp)
        skip
        omega
   ·rw [bd_ex0]; omega
  ·simp only [alt, bdA1]
   have a0 := Nat.le_trans (rl_eat E p 2 []) hp
   have a1 := names_le (p.eat E 2 []).2
   have b1 := h1 _ (Nat.le_trans (rl_sign E (p.eat E 2 []).2.names.2 sArr) (Nat.le_trans (rl_names _) a0))
   simp only [List.length_map]
   omega
  ·simp only [alts]
   split
   ·have hnx := Nat.le_trans (rl_next p) hp
    have b1 := h2 _ hnx
    have b2 := h3 _ (Nat.le_trans (r2 _) hnx)
    simp only [bdAs_cons]
    omega
   ·simp [bdAs]
  ·simp only [atom]
   have hnx := Nat.le_trans (rl_next p) hp
   have a1 := Nat.le_trans (r1 p.next) hnx
   split
   ·split
    ·simp [bdE, bdEs, bdAs]; omega
    ·simp [bdE, bdEs, bdAs]; omega
    ·simp [bdE, bdEs, bdAs]; omega
    ·simp [bdE, bdEs, bdAs]; omega
    ·have b1 := h1 _ hnx
     split
     ·rw [bd_ex0]; omega
     ·simp only; omega
     ·rename_i l q _ h
      have b2 := h5 1 _ l a1 (by rw [h])
      simp only [bdE, bdEs, bdAs]
      omega
   ·rw [bd_ex0]; omega
  ·simp only [rest] at h
   have hnx := Nat.le_trans (rl_next p) hp
   split at h
   ·split at h
    ·cases h
    ·split at h
     ·rename_i l' p' h'
      simp at h
      rw [← h]
      have b1 := h1 _ hnx
      have b2 := h5 (k + 1) _ l' (Nat.le_trans (r1 _) hnx) (by rw [h'])
      simp only [bdEs]
      omega
     ·cases h
   ·cases h; simp [bdEs]
  ·obtain ⟨ek, ea, es, en, eks, eas⟩ := e
   simp only [apps]
   split
   ·have b1 := h4 _ hp
    have b2 := h6 (.mk 5 ea [] 0 [.mk ek ea es en eks eas, (atom E n p).1] []) (atom E n p).2 (Nat.le_trans (r4 _) hp)
    generalize hM : Ex.mk ek ea es en eks eas = e0 at *
    simp only [bdE, bdEs, bdAs] at b2
    skip
    omega
   ·simp only; omega
theorem decl_okB (E n : Nat) (hn : n ≤ 1000000) (out : Pg) (p : PS) (hp : rl p ≤ 65536) (h : ∀ b ∈ out.bs, bdE b.b ≤ 2 ^ 50) : (∀ b ∈ (decl E n out p).1.bs, bdE b.b ≤ 2 ^ 50) := by
 unfold decl
 split
 ·exact h
 ·have r0 := Nat.le_trans (rl_eat E p 4 sLet) hp
  have r1 := Nat.le_trans (rl_eat E (p.eat E 4 sLet).2 1 []) r0
  have r3 := Nat.le_trans (rl_names ((p.eat E 4 sLet).2.eat E 1 []).2) r1
  have r4 := Nat.le_trans (rl_sign E ((p.eat E 4 sLet).2.eat E 1 []).2.names.2 sEq) r3
  have l1 := names_le ((p.eat E 4 sLet).2.eat E 1 []).2
  have b1 := (bd_all E n hn).1 _ r4
  intro b hb
  simp only [List.mem_append, List.mem_singleton] at hb
  rcases hb with hb | rfl
  ·exact h b hb
  ·simp only [bd_lams]
   unfold KB at b1
   omega
theorem decls_okB (E n : Nat) (hn : n ≤ 1000000) : ∀ (m : Nat) (out : Pg) (p : PS), rl p ≤ 65536 → (∀ b ∈ out.bs, bdE b.b ≤ 2 ^ 50) → (∀ b ∈ (decls E n m out p).1.bs, bdE b.b ≤ 2 ^ 50)
 | 0, out, p, _, h => h
 | m + 1, out, p, hp, h => by
  simp only [decls]
  split
  ·have h1 := decl_okB E n hn out p hp h
   have hr := (ok_decl E (n := n) (k := max out.ds.length out.bs.length) (by unfold lim; omega) (out := ⟨[], []⟩) ⟨by simp, by simp, by simp, by simp⟩ p hp).2
   have hr2 : rl (decl E n out p).2 ≤ 65536 := by
    have e : (decl E n out p).2 = (decl E n ⟨[], []⟩ p).2 := by unfold decl; split <;> rfl
    rw [e]; exact hr
   exact decls_okB E n hn m _ _ hr2 h1
  ·exact h
theorem parse_okB {s : Str} {p : Pg} (h : parse s = .ok p) : ∀ b ∈ p.bs, bdE b.b ≤ 2 ^ 50 := by
 unfold parse at h
 cases hl : lex s with
 | bad e a => rw [hl] at h; cases h
 | ok l =>
  rw [hl] at h
  simp only at h
  have hlen := tl_lex s hl
  have h1 := decls_okB s.length (8 * l.length + 40) (by omega) (l.length + 1) ⟨[], []⟩ ⟨0, l, false, 0⟩ hlen (by simp)
  generalize decls s.length (8 * l.length + 40) (l.length + 1) ⟨[], []⟩ ⟨0, l, false, 0⟩ = R at *
  obtain ⟨out, q⟩ := R
  simp only at h h1
  split at h
  ·cases h
  ·split at h
   ·cases h
   ·cases h
    exact h1
end Go.Am.Try
set_option maxRecDepth 100000
namespace Go.Am.Try
open Go Go.Am.Ps
theorem lp142 (L : List AV) (nl : Bool) (hL : L.length < big) (s : Str) : ∀ (r : List Str) (i : Nat), Tail L i (encSs r) →
  ∃ e fr', Lp ctx [] [] [0, 1, 7, 8] b142_0 ⟨[(0, .v (encR 1 nl L)), (1, .v (.str s)), (7, .v (.int .i64 L.length)), (8, .v (.int .i64 i))], false⟩ [] e fr' [] ∧ fr'.lk = false ∧
   ((e = .ex 0 ∧ getS fr'.sl 4 = .u ∧ idxB i (r.map (eqS s)) = -1) ∨ (e = .ret ∧ getS fr'.sl 4 = .v (.int .i64 (idxB i (r.map (eqS s))))))
 | [], i, h => by
  have h' := h.nil
  refine ⟨.ex 0, ?_, Lp.exit ⟨0, fun N _ => ?_⟩ (by simp), ?_⟩
  rotate_left
  ·simp -implicitDefEqProofs [b142_0, h']
   rfl
  ·exact ⟨by simp, .inl ⟨rfl, by simp, rfl⟩⟩
 | a :: r, i, h => by
  have hlen := h.len
  simp only [encSs_cons] at h
  obtain ⟨g1, g2, g3, g4, g5⟩ := h.cons
  simp at hlen
  have hw := wrap_succ (n := i) (by omega)
  have g6 := g5 1 nl
  have he := eqS_iff s a
  cases hs : s == a with
  | true =>
   rw [hs] at he
   refine ⟨.ret, ?_, Lp.exit ⟨0, fun N _ => ?_⟩ (by simp), ?_⟩
   rotate_left
   ·rw [g6]
    simp -implicitDefEqProofs [b142_0, g1, g2, g3, hs, -beq_iff_eq]
    rfl
   ·exact ⟨by simp, .inr ⟨rfl, by simp [idxB, he]⟩⟩
  | false =>
   rw [hs] at he
   obtain ⟨e, fr', l1, l2, l3⟩ := lp142 L nl hL s r (i + 1) g4
   refine ⟨e, fr', Lp.step ⟨0, fun N hN => ?_⟩ l1, l2, by simpa [idxB, he] using l3⟩
   rw [g6]
   simp -implicitDefEqProofs [b142_0, g1, g2, g3, hs, hw, -beq_iff_eq, -beq_eq_false_iff_ne]
theorem index_ans (l : List Str) (nl : Bool) (hl : l.length < big) (s : Str) : Ans ctx 142 [encR 1 nl (encSs l), .str s] (.int .i64 (idxB 0 (l.map (eqS s)))) := by
 obtain ⟨e, fr', l1, l2, l3⟩ := lp142 (encSs l) nl (by simpa using hl) s l 0 (Tail.all _)
 obtain ⟨k, hk⟩ := l1.den
 refine Ans.of (σ' := []) fn142_ (by simp) (by simp) ⟨k, fun N hN => ?_⟩
 have hk := hk N hN
 simp only [encSs_length] at hk
 rcases l3 with ⟨rfl, l4, l5⟩ | ⟨rfl, l4⟩
 ·rw [l5]
  simp -implicitDefEqProofs [i142, c142, hk, l2, l4]
 ·simp -implicitDefEqProofs [i142, c142, hk, l2, l4]
theorem contains_ans (l : List Str) (nl : Bool) (hl : l.length < big) (s : Str) : Ans ctx 136 [encR 1 nl (encSs l), .str s] (.bool (l.any (eqS s))) := by
 obtain ⟨k, hk⟩ := index_ans l nl hl s
 refine Ans.of (σ' := []) fn136_ (by simp) (by simp) ⟨k, fun N hN => ?_⟩
 have hk := hk N hN
 have := idxB_ge 0 (l.map (eqS s))
 simp -implicitDefEqProofs [i136, c136, hk]
 simpa using this
def dupF : List Str → List Str → Bool
 | _, [] => false
 | pre, s :: l => pre.any (eqS s) || dupF (pre ++ [s]) l
theorem dupF_eq : ∀ (l pre : List Str), dupF pre l = (l.any (fun s => pre.any (eqS s)) || dupS l)
 | [], pre => by simp [dupF, dupS]
 | s :: l, pre => by
  have hsym : ∀ a b : Str, eqS a b = eqS b a := fun a b => by
   rw [eqS_iff, eqS_iff]; exact Bool.eq_iff_iff.2 ⟨fun h => by simpa using (eq_of_beq h).symm, fun h => by simpa using (eq_of_beq h).symm⟩
  have e : ∀ l : List Str, (l.any fun x => (pre ++ [s]).any (eqS x)) = (l.any (fun x => pre.any (eqS x)) || l.any (eqS s)) := by
   intro l
   induction l with
   | nil => rfl
   | cons y l ih =>
    rw [List.any_cons, List.any_cons, List.any_cons, ih, List.any_append, List.any_cons, List.any_nil, Bool.or_false, hsym y s]
    cases pre.any (eqS y) <;> cases eqS s y <;> simp
  simp only [dupF, dupF_eq l (pre ++ [s]), e, List.any_cons, dupS]
  cases pre.any (eqS s) <;> cases (l.any fun x => pre.any (eqS x)) <;> simp
theorem lp119 (l : List Str) (nl : Bool) (hL : l.length < big) : ∀ (r pre : List Str), l = pre ++ r →
  ∃ e fr', Lp ctx [] [] [0, 5, 6, 7] b119_0 ⟨[(0, .v (encR 1 nl (encSs l))), (5, .v (encR 1 nl (encSs l))), (6, .v (.int .i64 l.length)), (7, .v (.int .i64 pre.length))], false⟩ [] e fr' [] ∧ fr'.lk = false ∧
   (match dupF pre r with
   | true => e = .ret ∧ getS fr'.sl 2 = .v (.bool true)
   | false => e = .ex 0 ∧ getS fr'.sl 2 = .u)
 | [], pre, h => by
  simp only [List.append_nil] at h
  subst h
  refine ⟨.ex 0, ?_, Lp.exit ⟨0, fun N _ => ?_⟩ (by simp), ?_⟩
  rotate_left
  ·simp -implicitDefEqProofs [b119_0]
   rfl
  ·exact ⟨by simp, rfl, by simp⟩
 | a :: r, pre, h => by
  have ht : Tail (encSs l) pre.length (encSs (a :: r)) := ⟨encSs pre, by simp, by rw [h]; simp [encSs]⟩
  simp only [encSs_cons] at ht
  obtain ⟨g1, g2, g3, g4, g5⟩ := ht.cons
  have hl : l.length = pre.length + (r.length + 1) := by rw [h]; simp
  simp only [encSs_length] at g2 g3
  have hw := wrap_succ (n := pre.length) (by omega)
  have g6 := g5 1 nl
  have hb : bounds none (some (pre.length : Int)) l.length = some (0, pre.length) := by
   unfold bounds
   simp only [Option.getD_none, Option.getD_some]
   rw [if_pos (by omega)]
   simp
  have htk : ((encSs l).take pre.length).drop 0 = encSs pre := by
   rw [h]; simp [encSs]
  obtain ⟨k, hk⟩ := contains_ans pre false (by omega) a
  rw [encR_false] at hk
  unfold dupF
  rw [g6]
  cases hc : pre.any (eqS a) with
  | true =>
   rw [hc] at hk
   refine ⟨.ret, ?_, Lp.exit ⟨k, fun N hN => ?_⟩ (by simp), ?_⟩
   rotate_left
   ·have hk := hk N hN
    simp only [List.drop_zero] at htk
    simp -implicitDefEqProofs [b119_0, g1, g2, g3, hb, htk, hk]
    rfl
   ·exact ⟨by simp, rfl, by simp⟩
  | false =>
   rw [hc] at hk
   obtain ⟨e, fr', l1, l2, l3⟩ := lp119 l nl hL r (pre ++ [a]) (by rw [h]; simp)
   rw [g6] at l1
   simp only [List.length_append, List.length_singleton] at l1
   refine ⟨e, fr', Lp.step ⟨k, fun N hN => ?_⟩ l1, l2, by simpa using l3⟩
   have hk := hk N hN
   simp only [List.drop_zero] at htk
   simp -implicitDefEqProofs [b119_0, g1, g2, g3, hb, htk, hk, hw]
theorem stwice_ans (l : List Str) (nl : Bool) (hl : l.length < big) : Ans ctx 119 [encR 1 nl (encSs l)] (.bool (dupS l)) := by
 obtain ⟨e, fr', l1, l2, l3⟩ := lp119 l nl hl l [] rfl
 obtain ⟨k, hk⟩ := l1.den
 have hd : dupF [] l = dupS l := by rw [dupF_eq]; simp
 rw [hd] at l3
 refine Ans.of (σ' := []) fn119_ (by simp) (by simp) ⟨k, fun N hN => ?_⟩
 have hk := hk N hN
 simp only [List.length_nil, Int.cast_ofNat_Int] at hk
 cases hs : dupS l with
 | true =>
  rw [hs] at l3
  obtain ⟨rfl, l4⟩ := l3
  simp -implicitDefEqProofs [i119, c119, hk, l2, l4]
 | false =>
  rw [hs] at l3
  obtain ⟨rfl, l4⟩ := l3
  simp -implicitDefEqProofs [i119, c119, hk, l2, l4]
theorem eqA_S (k x : Str) : eqA [TK.str] (.agg [.str k]) (.agg [.str x]) = some (decide (k = x)) := by
 simp only [eqA, AV.cells, eqLeaves, eqLeaf, Bool.and_true]
 by_cases h1 : k = x
 ·subst h1; simp
 ·have : (k == x) = false := by simpa using h1
  simp [this, h1]
def T124 : Tab ctx 124 Str Int where
 tk := ⟨.strct [(0, 9)], 1, 16, .agg [.str []], [.str]⟩
 te := ⟨.int .i64, 1, 8, .int .i64 0, [.int .i64]⟩
 ek := fun s => .agg [.str s]
 ev := .int .i64
 z := 0
 map := by rfl
 key := fun k => rfl
 kfit := fun k => rfl
 eq := eqA_S
 vfit := fun v => rfl
 zero := rfl
def T169 : Tab ctx 169 Str Bool where
 tk := ⟨.strct [(0, 9)], 1, 16, .agg [.str []], [.str]⟩
 te := ⟨.bool, 1, 1, .bool false, [.bool]⟩
 ek := fun s => .agg [.str s]
 ev := .bool
 z := false
 map := by rfl
 key := fun k => rfl
 kfit := fun k => rfl
 eq := eqA_S
 vfit := fun v => rfl
 zero := rfl
structure SS (ds : List Da) (σ : H) (B : List Str) : Prop where
 m : ∃ l, σ[0]? = some (.map (T124.enc l)) ∧ ∀ s, (getT l s).getD 0 = (B.count s : Int)
 o : σ[1]? = some (.arr false 2 [.agg [encR 4 true (encDs ds), .map 0]])
structure Kp (σ σ' : H) : Prop where
 len : σ.length ≤ σ'.length
 rest : ∀ j, 2 ≤ j → j < σ.length → σ'[j]? = σ[j]?
theorem Kp.refl (σ : H) : Kp σ σ := ⟨Nat.le_refl _, fun _ _ _ => rfl⟩
theorem Kp.trans {a b c : H} (h : Kp a b) (k : Kp b c) : Kp a c := ⟨Nat.le_trans h.len k.len, fun j h1 h2 => (k.rest j h1 (Nat.lt_of_lt_of_le h2 h.len)).trans (h.rest j h1 h2)⟩
theorem SS.perm {ds : List Da} {σ : H} {B B' : List Str} (h : SS ds σ B) (hp : ∀ s, B'.count s = B.count s) : SS ds σ B' := by
 obtain ⟨⟨l, h1, h2⟩, h3⟩ := h
 exact ⟨⟨l, h1, fun s => by rw [hp s]; exact h2 s⟩, h3⟩
theorem SS.look {ds : List Da} {σ : H} {B : List Str} (h : SS ds σ B) (s : Str) : lookupA ctx 124 (.map 0) (.agg [.str s]) false σ = some (.int .i64 (B.count s), σ) := by
 obtain ⟨⟨l, h1, h2⟩, h3⟩ := h
 have := T124.look h1 s
 have e : T124.z = 0 := rfl
 rw [e, h2] at this
 exact this
theorem SS.turn {ds : List Da} {σ : H} {B : List Str} (h : SS ds σ B) (s : Str) (v : Int) (B' : List Str) (hv : v = (B'.count s : Int)) (hB : ∀ x, x ≠ s → B'.count x = B.count x) :
  ∃ (ei : Int) (σa σb : H), entryA ctx 124 (.map 0) (.agg [.str s]) σ = some (.tup [.int .i64 (B.count s), .int .i64 ei], σa) ∧
   lookupA ctx 124 (.map 0) (.agg [.str s]) false σa = some (.int .i64 (B.count s), σa) ∧ entryStoreA ctx 124 (.map 0) (.int .i64 ei) (.int .i64 v) σa = some ((), σb) ∧ SS ds σb B' ∧ Kp σ σb ∧ σb.length = σ.length := by
 obtain ⟨⟨l, h1, h2⟩, h3⟩ := h
 have hlt := (List.getElem?_eq_some_iff.1 h1).1
 have e1 := T124.ent h1 s
 have ez : T124.z = 0 := rfl
 rw [ez, h2] at e1
 generalize hσa : σ.set 0 (.map (T124.enc (entT 0 l s).2)) = σa at e1
 have ha : σa[0]? = some (.map (T124.enc (entT 0 l s).2)) := by rw [← hσa]; exact List.getElem?_set_self hlt
 have hga : (getT (entT 0 l s).2 s).getD 0 = (B.count s : Int) := by
  rw [← h2 s]
  unfold entT
  cases hf : findT s 0 l with
  | none => simp [getT, findT_app s 0 l 0 hf, hf]
  | some p => simp [getT, hf]
 have e2 := T124.look ha s
 rw [ez, hga] at e2
 have e3 := T124.store s ha v
 refine ⟨_, σa, _, e1, e2, e3, ⟨⟨putT s v l, ?_, fun x => ?_⟩, ?_⟩, ⟨?_, fun j h1 h2 => ?_⟩, ?_⟩
 ·have hlt' := (List.getElem?_eq_some_iff.1 ha).1
  exact List.getElem?_set_self hlt'
 ·rw [getT_put]
  by_cases hx : x = s
  ·subst hx; simp [hv]
  ·rw [if_neg hx, h2, hB x hx]
 ·rw [← hσa, List.set_set, List.getElem?_set_ne (by omega)]; exact h3
 ·rw [← hσa]; simp
 ·rw [← hσa, List.set_set, List.getElem?_set_ne (by omega)]
 ·rw [← hσa]; simp
structure okDs (ds : List Da) : Prop where
 len : ds.length ≤ lim
 d : ∀ d ∈ ds, okD d
def conR : Option Nat → AV
 | some n => .tup [.int .i64 n, .bool true]
 | none => .tup [.int .i64 0, .bool false]
theorem findC_at (s : Str) : ∀ (l : List Cn) (i k : Nat), findC s i l = some k → i ≤ k ∧ ∃ c, l[k - i]? = some c
 | [], i, k, h => by cases h
 | c :: l, i, k, h => by
  simp only [findC] at h
  split at h
  ·cases h; exact ⟨Nat.le_refl _, c, by simp⟩
  ·obtain ⟨h1, c', h2⟩ := findC_at s l (i + 1) k h
   exact ⟨by omega, c', by rw [show k - i = (k - (i + 1)) + 1 by omega]; simpa using h2⟩
theorem findCon_at (s : Str) : ∀ (l : List Da) (i a b : Nat), findCon s i l = some (a, b) → i ≤ a ∧ ∃ d c, l[a - i]? = some d ∧ d.cs[b]? = some c
 | [], i, a, b, h => by cases h
 | d :: l, i, a, b, h => by
  simp only [findCon] at h
  split at h
  ·rename_i k hk
   cases h
   obtain ⟨_, c, h2⟩ := findC_at s d.cs 0 b hk
   exact ⟨Nat.le_refl _, d, c, by simp, by simpa using h2⟩
  ·obtain ⟨h1, d', c', h2, h3⟩ := findCon_at s l (i + 1) a b h
   exact ⟨by omega, d', c', by rw [show a - i = (a - (i + 1)) + 1 by omega]; simpa using h2, h3⟩
theorem scon_ans {ds : List Da} (hd : okDs ds) {σ : H} {B : List Str} (h : SS ds σ B) (s : Str) : AnsH ctx 98 [.ptr 1 1 0 0, .str s] σ (conR (conN ds s)) σ := by
 have hl := hd.len
 obtain ⟨k, hk⟩ := dcon_ans ds true (by unfold lim at hl; unfold big; omega) hd.d s
 have ho := h.o
 unfold conN
 cases hf : findCon s 0 ds with
 | none =>
  rw [hf] at hk
  simp only [conI] at hk
  refine AnsH.of fn98_ (by simp) (snapPtr _ _ _) (by simp [conR]) ⟨k, fun N hN => ?_⟩
  have hk := hk N hN
  simp -implicitDefEqProofs [i98, c98, ho, hk, conR]
 | some p =>
  obtain ⟨i, j⟩ := p
  obtain ⟨_, d, c, h1, h2⟩ := findCon_at s ds 0 i j hf
  rw [Nat.sub_zero] at h1
  rw [hf] at hk
  simp only [conI] at hk
  simp only [h1, h2]
  have g1 : (encDs ds)[i]? = some (encD d) := by simp [encDs, h1]
  have hil : i < ds.length := (List.getElem?_eq_some_iff.1 h1).1
  have hjl : j < d.cs.length := (List.getElem?_eq_some_iff.1 h2).1
  have g2 : idxN (i : Int) ds.length = some i := by unfold idxN; rw [if_pos (by omega)]; simp
  have g3 : idxN (j : Int) d.cs.length = some j := by unfold idxN; rw [if_pos (by omega)]; simp
  have g4 : (encCs d.cs)[j]? = some (encC c) := by simp [encCs, h2]
  have e1 : encR 4 true (encDs ds) = .sl 4 (encDs ds) := by
   cases ds with
   | nil => simp at hil
   | cons a l => simp
  have e2 : encR 3 true (encCs d.cs) = .sl 3 (encCs d.cs) := by
   cases h : d.cs with
   | nil => rw [h] at hjl; simp at hjl
   | cons a l => simp
  unfold encD at g1
  rw [e2] at g1
  unfold encC at g4
  rw [e1] at ho hk
  have h3 : ¬ (i : Int) < 0 := by omega
  refine AnsH.of fn98_ (by simp) (snapPtr _ _ _) (by simp [conR]) ⟨k, fun N hN => ?_⟩
  have hk := hk N hN
  simp -implicitDefEqProofs [i98, c98, ho, hk, g1, g2, g3, g4, h3, conR]
theorem lp99_0 (ds : List Da) (L : List AV) (nl : Bool) (hL : L.length < big) (X5 : AV) : ∀ (r : List Str) (i : Nat) (B : List Str) (σ : H), Tail L i (encSs r) → B.length + r.length ≤ 2 ^ 62 → SS ds σ B →
  ∃ fr' σ', Lp ctx [] [] [0, 1, 5, 12, 13, 14] b99_0 ⟨[(0, .v (.ptr 1 1 0 0)), (1, .v (encR 1 nl L)), (5, .bx X5), (12, .v (encR 1 nl L)), (13, .v (.int .i64 L.length)), (14, .v (.int .i64 i))], false⟩ σ (.ex 0) fr' σ' ∧ fr'.lk = false ∧ getS fr'.sl 0 = .v (.ptr 1 1 0 0) ∧ getS fr'.sl 1 = .v (encR 1 nl L) ∧ getS fr'.sl 5 = .bx X5 ∧ getS fr'.sl 6 = .u ∧ getS fr'.sl 9 = .u ∧ getS fr'.sl 11 = .u ∧ (∀ t, 29 ≤ t → t < 50 → getS fr'.sl t = .u) ∧ SS ds σ' (r ++ B) ∧ Kp σ σ'
 | [], i, B, σ, h, _, hs => by
  have h' := h.nil
  refine ⟨?_, σ, Lp.exit ⟨0, fun N _ => ?_⟩ (by simp), ?_⟩
  rotate_left
  ·simp -implicitDefEqProofs [b99_0, h']
   rfl
  ·refine ⟨by simp, by simp, by simp, by simp, by simp, by simp, by simp, fun t h1 h2 => ?_, hs, .refl _⟩
   simp only [getS]
   repeat rw [if_neg (by omega)]
 | a :: r, i, B, σ, h, hb, hs => by
  have hlen := h.len
  simp only [encSs_cons] at h
  obtain ⟨g1, g2, g3, g4, g5⟩ := h.cons
  simp at hlen hb
  have hw := wrap_succ (n := i) (by omega)
  have hcnt : B.count a ≤ B.length := List.count_le_length
  have hw2 : IntKind.i64.wrap ((B.count a : Int) + 1) = (B.count a : Int) + 1 := wrap_i64 (by omega)
  have e0 := hs.look a
  obtain ⟨ei, σa, σb, e1, e2, e3, s1, k1, _⟩ := hs.turn a ((B.count a : Int) + 1) (a :: B) (by simp) (fun x hx => List.count_cons_of_ne (Ne.symm hx))
  obtain ⟨fr', σ', q1, q2, q3, q4, q5, q6, q7, q8, q9, q10, q11⟩ := lp99_0 ds L nl hL X5 r (i + 1) (a :: B) σb g4 (by simp; omega) s1
  have g6 := g5 1 nl
  have ho := hs.o
  rw [g6] at q1 q4 ⊢
  refine ⟨fr', σ', Lp.step ⟨0, fun N hN => ?_⟩ q1, q2, q3, q4, q5, q6, q7, q8, q9, q10.perm fun s => ?_, k1.trans q11⟩
  ·generalize (B.count a : Int) = c0 at *
   simp -implicitDefEqProofs [b99_0, g1, g2, g3, hw, ho, e0, e1, e2, e3, hw2]
  ·simp [List.count_append, List.count_cons]; omega
theorem lp99_1 (ds : List Da) (L : List AV) (nl : Bool) (hL : L.length < big) (X9 : AV) : ∀ (r : List Str) (i : Nat) (B : List Str) (σ : H), Tail L i (encSs r) → B.length + r.length ≤ 2 ^ 62 → SS ds σ (r ++ B) →
  ∃ fr' σ', Lp ctx [] [] [0, 9, 32, 33, 34] b99_1 ⟨[(0, .v (.ptr 1 1 0 0)), (9, .v X9), (32, .v (encR 1 nl L)), (33, .v (.int .i64 L.length)), (34, .v (.int .i64 i))], false⟩ σ (.ex 2) fr' σ' ∧ fr'.lk = false ∧ getS fr'.sl 9 = .v X9 ∧ getS fr'.sl 6 = .u ∧ getS fr'.sl 49 = .u ∧ SS ds σ' B ∧ Kp σ σ'
 | [], i, B, σ, h, _, hs => by
  have h' := h.nil
  refine ⟨?_, σ, Lp.exit ⟨0, fun N _ => ?_⟩ (by simp), ?_⟩
  rotate_left
  ·simp -implicitDefEqProofs [b99_1, h']
   rfl
  ·exact ⟨by simp, by simp, by simp, by simp, hs, .refl _⟩
 | a :: r, i, B, σ, h, hb, hs => by
  have hlen := h.len
  simp only [encSs_cons] at h
  obtain ⟨g1, g2, g3, g4, g5⟩ := h.cons
  simp at hlen hb
  have hw := wrap_succ (n := i) (by omega)
  have hcnt : (a :: r ++ B).count a ≤ (a :: r ++ B).length := List.count_le_length
  simp only [List.length_append, List.length_cons] at hcnt
  have hw2 : IntKind.i64.wrap (((a :: r ++ B).count a : Int) - 1) = ((a :: r ++ B).count a : Int) - 1 := wrap_i64 (by omega)
  have e0 := hs.look a
  obtain ⟨ei, σa, σb, e1, e2, e3, s1, k1, _⟩ := hs.turn a (((a :: r ++ B).count a : Int) - 1) (r ++ B) (by simp) (fun x hx => by rw [List.cons_append, List.count_cons_of_ne (Ne.symm hx)])
  obtain ⟨fr', σ', q1, q2, q3, q4, q5, q6, q7⟩ := lp99_1 ds L nl hL X9 r (i + 1) B σb g4 (by omega) s1
  have g6 := g5 1 nl
  have ho := hs.o
  rw [g6] at q1 ⊢
  refine ⟨fr', σ', Lp.step ⟨0, fun N hN => ?_⟩ q1, q2, q3, q4, q5, q6, k1.trans q7⟩
  generalize ((a :: r ++ B).count a : Int) = c0 at *
  simp -implicitDefEqProofs [b99_1, g1, g2, g3, hw, ho, e0, e1, e2, e3, hw2]
def WrongOK (ds : List Da) (e : Ex) : Prop := ∀ B σ, B.length + bdE e ≤ 2 ^ 61 → SS ds σ B →
  ∃ σ', AnsH ctx 66 [.ptr 1 1 0 0, encE e] σ (.int .i64 (orM1 (wrE ds B e))) σ' ∧ SS ds σ' B ∧ Kp σ σ'
theorem swithin_ans {ds : List Da} {e : Ex} (he : WrongOK ds e) (ns : List Str) (nl : Bool) (hns : ns.length < big) {B : List Str} {σ : H} (hb : ns.length + B.length + bdE e ≤ 2 ^ 61) (hs : SS ds σ B) :
  ∃ σ', AnsH ctx 99 [.ptr 1 1 0 0, encR 1 nl (encSs ns), encE e] σ (.int .i64 (orM1 (wrE ds (ns ++ B) e))) σ' ∧ SS ds σ' B ∧ Kp σ σ' := by
 obtain ⟨fr1, σ1, q1, q2, q3, q4, q5, q6, q7, q8, q9, q10, q11⟩ := lp99_0 ds (encSs ns) nl (by simpa using hns) (encE e) ns 0 B σ (Tail.all _) (by omega) hs
 obtain ⟨k1, hk1⟩ := q1.den
 obtain ⟨σ2, ⟨k2, hk2⟩, s2, p2⟩ := he (ns ++ B) σ1 (by simp; omega) q10
 obtain ⟨fr2, σ3, j1, j2, j3, j4, j5, j6, j7⟩ := lp99_1 ds (encSs ns) nl (by simpa using hns) (.int .i64 (orM1 (wrE ds (ns ++ B) e))) ns 0 B σ2 (Tail.all _) (by omega) s2
 obtain ⟨k3, hk3⟩ := j1.den
 refine ⟨σ3, AnsH.of fn99_ (by simp) (snapPtr _ _ _) (by simp) ⟨k1 + k2 + k3, fun N hN => ?_⟩, j6, q11.trans (p2.trans j7)⟩
 have hk1 := hk1 N (by omega)
 have hk2 := hk2 N (by omega)
 have hk3 := hk3 N (by omega)
 simp only [encSs_length, Int.cast_ofNat_Int] at hk1 hk3
 simp -implicitDefEqProofs [i99, c99, hk1, hk2, hk3, q2, q3, q4, q5, q6, q7, q8, q9, j2, j3, j4, j5]
structure HS (σ : H) (q : Nat) (had : List Str) : Prop where
 ge : 2 ≤ q
 m : ∃ l, σ[q]? = some (.map (T169.enc l)) ∧ ∀ s, (getT l s).getD false = had.any (eqS s)
theorem HS.look {σ : H} {q : Nat} {had : List Str} (h : HS σ q had) (s : Str) : lookupA ctx 169 (.map q) (.agg [.str s]) false σ = some (.bool (had.any (eqS s)), σ) := by
 obtain ⟨l, h1, h2⟩ := h.m
 have := T169.look h1 s
 have e : T169.z = false := rfl
 rw [e, h2] at this
 exact this
theorem HS.kp {σ σ' : H} {q : Nat} {had : List Str} (h : HS σ q had) (k : Kp σ σ') : HS σ' q had := by
 obtain ⟨l, h1, h2⟩ := h.m
 exact ⟨h.ge, l, by rw [k.rest q h.ge (List.getElem?_eq_some_iff.1 h1).1]; exact h1, h2⟩
theorem HS.up {ds : List Da} {B : List Str} {σ : H} {q : Nat} {had : List Str} (h : HS σ q had) (hs : SS ds σ B) (s : Str) :
  ∃ σ', updateA ctx 169 (.map q) (.agg [.str s]) (.bool true) σ = some ((), σ') ∧ HS σ' q (s :: had) ∧ SS ds σ' B ∧ σ'.length = σ.length ∧ ∀ j, j ≠ q → σ'[j]? = σ[j]? := by
 obtain ⟨l, h1, h2⟩ := h.m
 have hge := h.ge
 have hlt := (List.getElem?_eq_some_iff.1 h1).1
 obtain ⟨⟨l', m1, m2⟩, m3⟩ := hs
 refine ⟨_, T169.up h1 s true, ⟨hge, putT s true l, List.getElem?_set_self hlt, fun x => ?_⟩, ⟨⟨l', by rw [List.getElem?_set_ne (by omega)]; exact m1, m2⟩, by rw [List.getElem?_set_ne (by omega)]; exact m3⟩, by simp, fun j hj => List.getElem?_set_ne (Ne.symm hj)⟩
 rw [getT_put, List.any_cons, eqS_iff, ← h2]
 by_cases hx : x = s
 ·subst hx; simp
 ·have : (x == s) = false := by simpa using hx
  rw [if_neg hx, this, Bool.false_or]
theorem conN_le {ds : List Da} (hd : okDs ds) {s : Str} {n : Nat} (h : conN ds s = some n) : n < big := by
 unfold conN at h
 split at h
 ·cases h
 ·rename_i i j hf
  split at h
  ·cases h
  ·rename_i d h1
   split at h
   ·cases h
   ·rename_i c h2
    cases h
    have := ((hd.d d (List.mem_of_getElem? h1)).2.2 c (List.mem_of_getElem? h2)).1
    unfold lim at this; unfold big; omega
theorem lp100 {ds : List Da} (hd : okDs ds) (L : List AV) (nl : Bool) (hL : L.length < big) (q : Nat) (B : List Str) : ∀ (r : List Al) (i : Nat) (had : List Str) (σ : H), Tail L i (encAs r) → B.length + bdAs r ≤ 2 ^ 61 → okAs r → (∀ a ∈ r, match a with | .mk _ _ _ b => WrongOK ds b) → SS ds σ B → HS σ q had →
  ∃ e fr' σ', Lp ctx [] [] [0, 5, 12, 13, 14] b100_0 ⟨[(0, .v (.ptr 1 1 0 0)), (5, .v (.map q)), (12, .v (encR 9 nl L)), (13, .v (.int .i64 L.length)), (14, .v (.int .i64 i))], false⟩ σ e fr' σ' ∧ fr'.lk = false ∧ SS ds σ' B ∧ σ.length ≤ σ'.length ∧ (∀ j, 2 ≤ j → j < σ.length → j ≠ q → σ'[j]? = σ[j]?) ∧
   (match wrA ds B had r with
   | some x => e = .ret ∧ getS fr'.sl 4 = .v (.int .i64 x)
   | none => e = .ex 0 ∧ getS fr'.sl 4 = .u)
 | [], i, had, σ, h, _, _, _, hs, hh => by
  have h' := h.nil
  refine ⟨.ex 0, ?_, σ, Lp.exit ⟨0, fun N _ => ?_⟩ (by simp), ?_⟩
  rotate_left
  ·simp -implicitDefEqProofs [b100_0, h']
   rfl
  ·exact ⟨by simp, hs, Nat.le_refl _, fun _ _ _ _ => rfl, rfl, by simp⟩
 | .mk a c ns b :: r, i, had, σ, h, hb, hok, he, hs, hh => by
  have hlen := h.len
  simp only [encAs_cons] at h
  obtain ⟨g1, g2, g3, g4, g5⟩ := h.cons
  simp at hlen
  simp only [bdAs] at hb
  simp only [okAs, okA] at hok
  have hw := wrap_succ (n := i) (by omega)
  have g6 := g5 9 nl
  have hns : ns.length < big := by have := hok.1.1; unfold lim at this; unfold big; omega
  obtain ⟨kc, hkc⟩ := scon_ans hd hs c
  obtain ⟨kt, hkt⟩ := stwice_ans ns true hns
  have hlk := hh.look c
  have hwb : ∃ bk ba bs bn bks bas, b = .mk bk ba bs bn bks bas := by obtain ⟨bk, ba, bs, bn, bks, bas⟩ := b; exact ⟨_, _, _, _, _, _, rfl⟩
  have hat : (if (0 : Int) ≤ (a : Int) then true else false) = true := by simp
  rw [g6]
  have bad : altW ds had c ns = false → ∃ e fr' σ', Lp ctx [] [] [0, 5, 12, 13, 14] b100_0 ⟨[(0, .v (.ptr 1 1 0 0)), (5, .v (.map q)), (12, .v (.sl 9 L)), (13, .v (.int .i64 L.length)), (14, .v (.int .i64 i))], false⟩ σ e fr' σ' ∧ fr'.lk = false ∧ SS ds σ' B ∧ σ.length ≤ σ'.length ∧ (∀ j, 2 ≤ j → j < σ.length → j ≠ q → σ'[j]? = σ[j]?) ∧
    (match wrA ds B had (.mk a c ns b :: r) with
    | some x => e = .ret ∧ getS fr'.sl 4 = .v (.int .i64 x)
    | none => e = .ex 0 ∧ getS fr'.sl 4 = .u) := by
   intro hbad
   have e1 : wrA ds B had (.mk a c ns b :: r) = some a := by simp only [wrA, hbad]
   rw [e1]
   obtain ⟨bk, ba, bs, bn, bks, bas, rfl⟩ := hwb
   simp only [encA, cellsE] at g1
   unfold altW at hbad
   cases hc : conN ds c with
   | none =>
    rw [hc] at hkc
    simp only [conR] at hkc
    refine ⟨.ret, ?_, σ, Lp.exit ⟨kc + kt, fun N hN => ?_⟩ (by simp), ?_⟩
    rotate_left
    ·have hkc := hkc N (by omega)
     have hkt := hkt N (by omega)
     simp -implicitDefEqProofs [b100_0, g1, g2, g3, hkc]
     rfl
    ·exact ⟨by simp, hs, Nat.le_refl _, fun _ _ _ _ => rfl, rfl, by simp⟩
   | some n =>
    rw [hc] at hkc hbad
    simp only [conR] at hkc
    simp only at hbad
    cases hn : Nat.beq n ns.length with
    | false =>
     have hn' := beq_int n ns.length
     rw [hn] at hn'
     have hn2 : ((n : Int) != ns.length) = true := by rw [bne, ← hn']; rfl
     refine ⟨.ret, ?_, σ, Lp.exit ⟨kc + kt, fun N hN => ?_⟩ (by simp), ?_⟩
     rotate_left
     ·have hkc := hkc N (by omega)
      have hkt := hkt N (by omega)
      simp -implicitDefEqProofs [b100_0, g1, g2, g3, hkc, hn2, -bne_iff_ne]
      rfl
     ·exact ⟨by simp, hs, Nat.le_refl _, fun _ _ _ _ => rfl, rfl, by simp⟩
    | true =>
     have hn' := beq_int n ns.length
     rw [hn] at hn'
     have hn2 : ((n : Int) != ns.length) = false := by rw [bne, ← hn']; rfl
     cases ht : dupS ns with
     | true =>
      rw [ht] at hkt
      refine ⟨.ret, ?_, σ, Lp.exit ⟨kc + kt, fun N hN => ?_⟩ (by simp), ?_⟩
      rotate_left
      ·have hkc := hkc N (by omega)
       have hkt := hkt N (by omega)
       simp -implicitDefEqProofs [b100_0, g1, g2, g3, hkc, hn2, hkt, -bne_iff_ne]
       rfl
      ·exact ⟨by simp, hs, Nat.le_refl _, fun _ _ _ _ => rfl, rfl, by simp⟩
     | false =>
      rw [ht] at hkt
      cases hx : had.any (eqS c) with
      | false => rw [hn, ht, hx] at hbad; cases hbad
      | true =>
       rw [hx] at hlk
       refine ⟨.ret, ?_, σ, Lp.exit ⟨kc + kt, fun N hN => ?_⟩ (by simp), ?_⟩
       rotate_left
       ·have hkc := hkc N (by omega)
        have hkt := hkt N (by omega)
        simp -implicitDefEqProofs [b100_0, g1, g2, g3, hkc, hn2, hkt, hlk, -bne_iff_ne]
        rfl
       ·exact ⟨by simp, hs, Nat.le_refl _, fun _ _ _ _ => rfl, rfl, by simp⟩
  cases hal : altW ds had c ns with
  | false => exact bad hal
  | true =>
   have hgood := hal
   unfold altW at hgood
   cases hc : conN ds c with
   | none => rw [hc] at hgood; cases hgood
   | some n =>
    rw [hc] at hkc hgood
    simp only [conR] at hkc
    simp only [Bool.and_eq_true, Bool.not_eq_true'] at hgood
    obtain ⟨hn, ht, hx⟩ := hgood
    have hn' := beq_int n ns.length
    rw [hn] at hn'
    have hn2 : ((n : Int) != ns.length) = false := by rw [bne, ← hn']; rfl
    rw [ht] at hkt
    rw [hx] at hlk
    obtain ⟨σ1, hu, h1, s1, len1, ne1⟩ := hh.up hs c
    obtain ⟨σ2, ⟨kw, hkw⟩, s2, p2⟩ := swithin_ans (he _ (List.mem_cons_self ..)) ns true hns (B := B) (σ := σ1) (by omega) s1
    have hrest : ∀ j, 2 ≤ j → j < σ.length → j ≠ q → σ2[j]? = σ[j]? := fun j a1 a2 a3 => (p2.rest j a1 (by omega)).trans (ne1 j a3)
    have hlen2 : σ.length ≤ σ2.length := by have := p2.len; omega
    cases hw' : wrE ds (ns ++ B) b with
    | some x =>
     rw [hw'] at hkw
     simp only [orM1] at hkw
     have e1 : wrA ds B had (.mk a c ns b :: r) = some x := by simp only [wrA, hal, hw']
     rw [e1]
     have hx0 : (0 : Int) ≤ (x : Int) := by omega
     obtain ⟨bk, ba, bs, bn, bks, bas, rfl⟩ := hwb
     simp only [encA, cellsE] at g1
     rw [encE_mk] at hkw
     refine ⟨.ret, ?_, σ2, Lp.exit ⟨kc + kt + kw, fun N hN => ?_⟩ (by simp), ?_⟩
     rotate_left
     ·have hkc := hkc N (by omega)
      have hkt := hkt N (by omega)
      have hkw := hkw N (by omega)
      simp -implicitDefEqProofs [b100_0, g1, g2, g3, hkc, hn2, hkt, hlk, hu, hkw, -bne_iff_ne]
      rfl
     ·exact ⟨by simp, s2, hlen2, hrest, rfl, by simp⟩
    | none =>
     rw [hw'] at hkw
     simp only [orM1] at hkw
     have e1 : wrA ds B had (.mk a c ns b :: r) = wrA ds B (c :: had) r := by simp only [wrA, hal, hw']
     rw [e1]
     obtain ⟨e, fr', σ', l1, l2, l3, l4, l5, l6⟩ := lp100 hd L nl hL q B r (i + 1) (c :: had) σ2 g4 (by omega) hok.2 (fun x hx => he x (by simp [hx])) s2 (h1.kp p2)
     rw [g6] at l1
     obtain ⟨bk, ba, bs, bn, bks, bas, rfl⟩ := hwb
     simp only [encA, cellsE] at g1
     rw [encE_mk] at hkw
     refine ⟨e, fr', σ', Lp.step ⟨kc + kt + kw, fun N hN => ?_⟩ l1, l2, l3, by omega, fun j a1 a2 a3 => (l5 j a1 (by omega) a3).trans (hrest j a1 a2 a3), l6⟩
     have hkc := hkc N (by omega)
     have hkt := hkt N (by omega)
     have hkw := hkw N (by omega)
     simp -implicitDefEqProofs [b100_0, g1, g2, g3, hkc, hn2, hkt, hlk, hu, hkw, hw, -bne_iff_ne]
theorem alts_ans {ds : List Da} (hd : okDs ds) (l : List Al) (hl : l.length < big) (B : List Str) (σ : H) (hb : B.length + bdAs l ≤ 2 ^ 61) (hok : okAs l) (he : ∀ a ∈ l, match a with | .mk _ _ _ b => WrongOK ds b) (hs : SS ds σ B) :
  ∃ σ', AnsH ctx 100 [.ptr 1 1 0 0, encR 9 true (encAs l)] σ (.int .i64 (orM1 (wrA ds B [] l))) σ' ∧ SS ds σ' B ∧ Kp σ σ' := by
 have hlen : 2 ≤ σ.length := by
  have := (List.getElem?_eq_some_iff.1 hs.o).1
  omega
 have hs1 : SS ds (σ ++ [.map []]) B := by
  obtain ⟨⟨l', h1, h2⟩, h3⟩ := hs
  exact ⟨⟨l', by rw [List.getElem?_append_left (List.getElem?_eq_some_iff.1 h1).1]; exact h1, h2⟩, by rw [List.getElem?_append_left (List.getElem?_eq_some_iff.1 h3).1]; exact h3⟩
 have hh : HS (σ ++ [.map []]) σ.length [] := ⟨hlen, [], by simp, fun s => by simp⟩
 obtain ⟨e, fr', σ', l1, l2, l3, l4, l5, l6⟩ := lp100 hd (encAs l) true (by simpa using hl) σ.length B l 0 [] _ (Tail.all _) hb hok he hs1 hh
 obtain ⟨k, hk⟩ := l1.den
 simp only [List.length_append, List.length_singleton] at l4 l5
 refine ⟨σ', ?_, l3, ⟨by omega, fun j h1 h2 => by rw [l5 j h1 (by omega) (by omega), List.getElem?_append_left h2]⟩⟩
 cases hw : wrA ds B [] l with
 | some x =>
  rw [hw] at l6
  obtain ⟨rfl, l7⟩ := l6
  refine AnsH.of fn100_ (by simp) (snapPtr _ _ _) (by simp) ⟨k, fun N hN => ?_⟩
  have hk := hk N hN
  simp only [encAs_length, Int.cast_ofNat_Int] at hk
  simp -implicitDefEqProofs [i100, c100, hk, l2, l7, orM1]
 | none =>
  rw [hw] at l6
  obtain ⟨rfl, l7⟩ := l6
  refine AnsH.of fn100_ (by simp) (snapPtr _ _ _) (by simp) ⟨k, fun N hN => ?_⟩
  have hk := hk N hN
  simp only [encAs_length, Int.cast_ofNat_Int] at hk
  simp -implicitDefEqProofs [i100, c100, hk, l2, l7, orM1]
theorem lp66 (ds : List Da) (K A : Nat) (S : Str) (N' : Nat) (L : List AV) (nl : Bool) (C5 : AV) (hC : ∀ ti, C5.fits ti = (!ti.k.isAgg && ti.size == 1)) (hL : L.length < big) (B : List Str) : ∀ (r : List Ex) (i : Nat) (σ : H), Tail L i (encEs r) → B.length + 1 + bdEs r ≤ 2 ^ 61 → (∀ e ∈ r, WrongOK ds e) → SS ds σ B →
  ∃ e fr' σ', Lp ctx [] [] [0, 3, 40, 41, 42] b66_0 ⟨[(0, .v (.ptr 1 1 0 0)), (3, .bx (.agg [.int .i64 K, .int .i64 A, .str S, .int .i64 N', encR 6 nl L, C5])), (40, .v (encR 6 nl L)), (41, .v (.int .i64 L.length)), (42, .v (.int .i64 i))], false⟩ σ e fr' σ' ∧ fr'.lk = false ∧ SS ds σ' B ∧ Kp σ σ' ∧
   (match wrK ds K S i B r with
   | some x => e = .ret ∧ getS fr'.sl 4 = .v (.int .i64 x)
   | none => e = .ex 1 ∧ getS fr'.sl 4 = .u ∧ getS fr'.sl 0 = .v (.ptr 1 1 0 0) ∧ getS fr'.sl 3 = .bx (.agg [.int .i64 K, .int .i64 A, .str S, .int .i64 N', encR 6 nl L, C5]) ∧ (∀ t, 70 ≤ t → t < 74 → getS fr'.sl t = .u))
 | [], i, σ, h, _, _, hs => by
  have h' := h.nil
  refine ⟨.ex 1, ?_, σ, Lp.exit ⟨0, fun N _ => ?_⟩ (by simp), ?_⟩
  rotate_left
  ·simp -implicitDefEqProofs [b66_0, h']
   rfl
  ·refine ⟨by simp, hs, .refl _, rfl, by simp, by simp, by simp, fun t h1 h2 => ?_⟩
   simp only [getS]
   repeat rw [if_neg (by omega)]
 | e :: r, i, σ, h, hb, he, hs => by
  have hlen := h.len
  simp only [encEs_cons] at h
  obtain ⟨g1, g2, g3, g4, g5⟩ := h.cons
  simp at hlen
  simp only [bdEs] at hb
  have hw := wrap_succ (n := i) (by omega)
  have g6 := g5 6 nl
  have e6 : ((K : Int) == 6) = Nat.beq K 6 := (beq_int K 6).symm
  have e7 : ((K : Int) == 7) = Nat.beq K 7 := (beq_int K 7).symm
  have e1 : ((i : Int) == 1) = Nat.beq i 1 := (beq_int i 1).symm
  have hbe : bindsK K i = (Nat.beq K 6 || (Nat.beq K 7 && Nat.beq i 1)) := rfl
  rw [g6]
  -- what within tells, of either row of names
  have both : ∃ σ1 k, (∀ N, k ≤ N → acall ctx N 99 [.ptr 1 1 0 0, (match bindsK K i with | true => .sl 1 [.str S] | false => .nil), encE e] σ = some (.int .i64 (orM1 (match bindsK K i with | true => wrE ds (S :: B) e | false => wrE ds B e)), σ1)) ∧ SS ds σ1 B ∧ Kp σ σ1 := by
   cases hbk : bindsK K i with
   | true =>
    obtain ⟨σ1, ⟨k, hk⟩, s1, p1⟩ := swithin_ans (he e (by simp)) [S] false (by simp [big]) (B := B) (σ := σ) (by simp; omega) hs
    exact ⟨σ1, k, hk, s1, p1⟩
   | false =>
    obtain ⟨σ1, ⟨k, hk⟩, s1, p1⟩ := swithin_ans (he e (by simp)) [] true (by simp [big]) (B := B) (σ := σ) (by simp; omega) hs
    exact ⟨σ1, k, hk, s1, p1⟩
  obtain ⟨σ1, k, hk, s1, p1⟩ := both
  have ew : wrK ds K S i B (e :: r) = (match (match bindsK K i with | true => wrE ds (S :: B) e | false => wrE ds B e) with | some x => some x | none => wrK ds K S (i + 1) B r) := by
   rw [wrK]; rfl
  rw [ew]
  generalize (match bindsK K i with | true => wrE ds (S :: B) e | false => wrE ds B e) = W at *
  -- the step's facts, by what the kind is
  cases W with
  | some x =>
   simp only [orM1] at hk
   have hx0 : (0 : Int) ≤ (x : Int) := by omega
   have fin : ∀ names : AV, True → True := fun _ h => h
   cases c6 : ((K : Int) == 6) with
   | true =>
    rw [← e6, ← e7, ← e1, c6] at hbe
    rw [hbe] at hk
    refine ⟨.ret, ?_, σ1, Lp.exit ⟨k, fun N hN => ?_⟩ (by simp), ?_⟩
    rotate_left
    ·have hk := hk N hN
     simp only [Bool.true_or] at hk
     simp -implicitDefEqProofs [b66_0, g1, g2, g3, hk, c6, -beq_iff_eq]
     rfl
    ·exact ⟨by simp, s1, p1, rfl, by simp⟩
   | false =>
    rw [← e6, ← e7, ← e1, c6, Bool.false_or] at hbe
    cases c7 : ((K : Int) == 7) with
    | false =>
     rw [c7, Bool.false_and] at hbe
     rw [hbe] at hk
     refine ⟨.ret, ?_, σ1, Lp.exit ⟨k, fun N hN => ?_⟩ (by simp), ?_⟩
     rotate_left
     ·have hk := hk N hN
      simp only at hk
      simp -implicitDefEqProofs [b66_0, g1, g2, g3, hk, c6, c7, -beq_iff_eq, -beq_eq_false_iff_ne]
      rfl
     ·exact ⟨by simp, s1, p1, rfl, by simp⟩
    | true =>
     rw [c7, Bool.true_and] at hbe
     cases c1 : ((i : Int) == 1) with
     | true =>
      rw [c1] at hbe
      rw [hbe] at hk
      refine ⟨.ret, ?_, σ1, Lp.exit ⟨k, fun N hN => ?_⟩ (by simp), ?_⟩
      rotate_left
      ·have hk := hk N hN
       simp only at hk
       simp -implicitDefEqProofs [b66_0, g1, g2, g3, hk, c6, c7, c1, -beq_iff_eq, -beq_eq_false_iff_ne]
       rfl
      ·exact ⟨by simp, s1, p1, rfl, by simp⟩
     | false =>
      rw [c1] at hbe
      rw [hbe] at hk
      refine ⟨.ret, ?_, σ1, Lp.exit ⟨k, fun N hN => ?_⟩ (by simp), ?_⟩
      rotate_left
      ·have hk := hk N hN
       simp only at hk
       simp -implicitDefEqProofs [b66_0, g1, g2, g3, hk, c6, c7, c1, -beq_iff_eq, -beq_eq_false_iff_ne]
       rfl
      ·exact ⟨by simp, s1, p1, rfl, by simp⟩
  | none =>
   simp only [orM1] at hk
   obtain ⟨ex, fr', σ', l1, l2, l3, l4, l5⟩ := lp66 ds K A S N' L nl C5 hC hL B r (i + 1) σ1 g4 (by omega) (fun x hx => he x (by simp [hx])) s1
   rw [g6] at l1 l5
   refine ⟨ex, fr', σ', Lp.step ⟨k, fun N hN => ?_⟩ l1, l2, l3, p1.trans l4, l5⟩
   have hk := hk N hN
   cases c6 : ((K : Int) == 6) with
   | true =>
    rw [← e6, ← e7, ← e1, c6] at hbe
    rw [hbe] at hk
    simp only [Bool.true_or] at hk
    simp -implicitDefEqProofs [b66_0, g1, g2, g3, hk, c6, hw, -beq_iff_eq]
   | false =>
    rw [← e6, ← e7, ← e1, c6, Bool.false_or] at hbe
    cases c7 : ((K : Int) == 7) with
    | false =>
     rw [c7, Bool.false_and] at hbe
     rw [hbe] at hk
     simp only at hk
     simp -implicitDefEqProofs [b66_0, g1, g2, g3, hk, c6, c7, hw, -beq_iff_eq, -beq_eq_false_iff_ne]
    | true =>
     rw [c7, Bool.true_and] at hbe
     cases c1 : ((i : Int) == 1) with
     | true =>
      rw [c1] at hbe
      rw [hbe] at hk
      simp only at hk
      simp -implicitDefEqProofs [b66_0, g1, g2, g3, hk, c6, c7, c1, hw, -beq_iff_eq, -beq_eq_false_iff_ne]
     | false =>
      rw [c1] at hbe
      rw [hbe] at hk
      simp only at hk
      simp -implicitDefEqProofs [b66_0, g1, g2, g3, hk, c6, c7, c1, hw, -beq_iff_eq, -beq_eq_false_iff_ne]
theorem any_count (B : List Str) (s : Str) : B.any (eqS s) = !((B.count s : Int) == 0) := by
 cases h : B.any (eqS s) with
 | true =>
  rw [List.any_eq_true] at h
  obtain ⟨x, h1, h2⟩ := h
  rw [eqS_iff] at h2
  have : s = x := by simpa using h2
  subst this
  have : 0 < B.count s := List.count_pos_iff.2 h1
  have : ((B.count s : Int) == 0) = false := by simp; omega
  rw [this]; rfl
 | false =>
  have : B.count s = 0 := by
   apply List.count_eq_zero_of_not_mem
   intro hm
   have : B.any (eqS s) = true := List.any_eq_true.2 ⟨s, hm, by rw [eqS_iff]; simp⟩
   rw [this] at h; cases h
  rw [this]; rfl
set_option maxHeartbeats 4000000 in
theorem wrong_body {ds : List Da} (hd : okDs ds) (k a : Nat) (s : Str) (n : Nat) (ks : List Ex) (as : List Al) (hks : ks.length < big) (has : as.length < big) (hok : okAs as) (h1 : ∀ e ∈ ks, WrongOK ds e) (h2 : ∀ x ∈ as, match x with | .mk _ _ _ b => WrongOK ds b) : WrongOK ds (.mk k a s n ks as) := by
 intro B σ hb hs
 simp only [bdE] at hb
 obtain ⟨ex, fr1, σ1, j1, j2, s1, p1, j4⟩ := lp66 ds k a s n (encEs ks) true (encR 9 true (encAs as)) (by simp) (by simpa using hks) B ks 0 σ (Tail.all _) (by omega) h1 hs
 obtain ⟨k1, hk1⟩ := j1.den
 obtain ⟨σ2, ⟨k2, hk2⟩, s2, p2⟩ := alts_ans hd as has B σ1 (by omega) hok h2 s1
 have ho := hs.o
 have hlk := hs.look s
 have hac := any_count B s
 have hb1 := beq_int k 1
 have hb2 := beq_int k 2
 simp only [Int.cast_ofNat_Int] at hb1 hb2
 have ew : wrE ds B (.mk k a s n ks as) = (match headW ds B k a s with | some x => some x | none => match wrK ds k s 0 B ks with | some x => some x | none => wrA ds B [] as) := by
  rw [wrE]; rfl
 rw [ew]
 have ew2 : orM1 (match wrK ds k s 0 B ks with | some x => some x | none => wrA ds B [] as) = (match wrK ds k s 0 B ks with | some x => (x : Int) | none => orM1 (wrA ds B [] as)) := by
  cases wrK ds k s 0 B ks <;> rfl
 unfold headW
 cases c1 : Nat.beq k 1 with
 | true =>
  rw [c1] at hb1
  have hb1 := hb1.symm
  simp only
  cases hany : B.any (eqS s) with
  | false =>
   rw [hany] at hac
   have hz : ((B.count s : Int) == 0) = true := by
    cases h : ((B.count s : Int) == 0) with
    | true => rfl
    | false => rw [h] at hac; cases hac
   refine ⟨σ, AnsH.of fn66_ (by simp) (snapPtr _ _ _) (by simp) ⟨0, fun N hN => ?_⟩, hs, .refl _⟩
   rw [encE_mk]
   simp only [orM1]
   simp -implicitDefEqProofs [i66, c66, hb1, ho, hlk, hz, -beq_iff_eq, -beq_eq_false_iff_ne]
  | true =>
   rw [hany] at hac
   have hz : ((B.count s : Int) == 0) = false := by
    cases h : ((B.count s : Int) == 0) with
    | false => rfl
    | true => rw [h] at hac; cases hac
   simp only
   cases hw : wrK ds k s 0 B ks with
   | some x =>
    rw [hw] at j4
    obtain ⟨rfl, j5⟩ := j4
    refine ⟨σ1, AnsH.of fn66_ (by simp) (snapPtr _ _ _) (by simp) ⟨k1, fun N hN => ?_⟩, s1, p1⟩
    have hk1 := hk1 N (by omega)
    simp only [encEs_length, Int.cast_ofNat_Int] at hk1
    rw [encE_mk]
    simp only [orM1]
    simp -implicitDefEqProofs [i66, c66, hb1, ho, hlk, hz, hk1, j2, j5, -beq_iff_eq, -beq_eq_false_iff_ne, -bne_iff_ne]
   | none =>
    rw [hw] at j4
    obtain ⟨rfl, j5, j6, j7, j8⟩ := j4
    refine ⟨σ2, AnsH.of fn66_ (by simp) (snapPtr _ _ _) (by simp) ⟨k1 + k2, fun N hN => ?_⟩, s2, p1.trans p2⟩
    have hk1 := hk1 N (by omega)
    have hk2 := hk2 N (by omega)
    simp only [encEs_length, Int.cast_ofNat_Int] at hk1
    rw [encE_mk]
    simp -implicitDefEqProofs [i66, c66, hb1, ho, hlk, hz, hk1, j2, j5, j6, j7, j8, hk2, -beq_iff_eq, -beq_eq_false_iff_ne, -bne_iff_ne]
 | false =>
  rw [c1] at hb1
  have hb1 := hb1.symm
  simp only
  cases c2 : Nat.beq k 2 with
  | true =>
   rw [c2] at hb2
   have hb2 := hb2.symm
   obtain ⟨kc, hkc⟩ := scon_ans hd hs s
   simp only
   cases hc : conN ds s with
   | none =>
    rw [hc] at hkc
    simp only [conR] at hkc
    refine ⟨σ, AnsH.of fn66_ (by simp) (snapPtr _ _ _) (by simp) ⟨kc, fun N hN => ?_⟩, hs, .refl _⟩
    have hkc := hkc N hN
    rw [encE_mk]
    simp only [orM1]
    simp -implicitDefEqProofs [i66, c66, hb1, hb2, hkc, -beq_iff_eq, -beq_eq_false_iff_ne]
   | some m =>
    rw [hc] at hkc
    simp only [conR] at hkc
    simp only
    cases hw : wrK ds k s 0 B ks with
    | some x =>
     rw [hw] at j4
     obtain ⟨rfl, j5⟩ := j4
     refine ⟨σ1, AnsH.of fn66_ (by simp) (snapPtr _ _ _) (by simp) ⟨k1 + kc, fun N hN => ?_⟩, s1, p1⟩
     have hkc := hkc N (by omega)
     have hk1 := hk1 N (by omega)
     simp only [encEs_length, Int.cast_ofNat_Int] at hk1
     rw [encE_mk]
     simp only [orM1]
     simp -implicitDefEqProofs [i66, c66, hb1, hb2, hkc, hk1, j2, j5, -beq_iff_eq, -beq_eq_false_iff_ne, -bne_iff_ne]
    | none =>
     rw [hw] at j4
     obtain ⟨rfl, j5, j6, j7, j8⟩ := j4
     refine ⟨σ2, AnsH.of fn66_ (by simp) (snapPtr _ _ _) (by simp) ⟨k1 + k2 + kc, fun N hN => ?_⟩, s2, p1.trans p2⟩
     have hkc := hkc N (by omega)
     have hk1 := hk1 N (by omega)
     have hk2 := hk2 N (by omega)
     simp only [encEs_length, Int.cast_ofNat_Int] at hk1
     rw [encE_mk]
     simp -implicitDefEqProofs [i66, c66, hb1, hb2, hkc, hk1, j2, j5, j6, j7, j8, hk2, -beq_iff_eq, -beq_eq_false_iff_ne, -bne_iff_ne]
  | false =>
   rw [c2] at hb2
   have hb2 := hb2.symm
   simp only
   cases hw : wrK ds k s 0 B ks with
   | some x =>
    rw [hw] at j4
    obtain ⟨rfl, j5⟩ := j4
    refine ⟨σ1, AnsH.of fn66_ (by simp) (snapPtr _ _ _) (by simp) ⟨k1, fun N hN => ?_⟩, s1, p1⟩
    have hk1 := hk1 N (by omega)
    simp only [encEs_length, Int.cast_ofNat_Int] at hk1
    rw [encE_mk]
    simp only [orM1]
    simp -implicitDefEqProofs [i66, c66, hb1, hb2, hk1, j2, j5, -beq_iff_eq, -beq_eq_false_iff_ne, -bne_iff_ne]
   | none =>
    rw [hw] at j4
    obtain ⟨rfl, j5, j6, j7, j8⟩ := j4
    refine ⟨σ2, AnsH.of fn66_ (by simp) (snapPtr _ _ _) (by simp) ⟨k1 + k2, fun N hN => ?_⟩, s2, p1.trans p2⟩
    have hk1 := hk1 N (by omega)
    have hk2 := hk2 N (by omega)
    simp only [encEs_length, Int.cast_ofNat_Int] at hk1
    rw [encE_mk]
    simp -implicitDefEqProofs [i66, c66, hb1, hb2, hk1, j2, j5, j6, j7, j8, hk2, -beq_iff_eq, -beq_eq_false_iff_ne, -bne_iff_ne]
mutual
theorem wrong_ok {ds : List Da} (hd : okDs ds) : ∀ e, okE e → WrongOK ds e
 | .mk k a s n ks as, hok => by
  simp only [okE] at hok
  exact wrong_body hd k a s n ks as (by have := hok.1; unfold lim at this; unfold big; omega) (by have := hok.2.1; unfold lim at this; unfold big; omega) hok.2.2.2 (wrongs_ok hd ks hok.2.2.1) (wronga_ok hd as hok.2.2.2)
theorem wrongs_ok {ds : List Da} (hd : okDs ds) : ∀ l, okEs l → ∀ e ∈ l, WrongOK ds e
 | [], _, e, he => by cases he
 | x :: l, hok, e, he => by
  simp only [okEs] at hok
  rcases List.mem_cons.1 he with h | h
  ·rw [h]; exact wrong_ok hd x hok.1
  ·exact wrongs_ok hd l hok.2 e h
theorem wronga_ok {ds : List Da} (hd : okDs ds) : ∀ l, okAs l → ∀ x ∈ l, match x with | .mk _ _ _ b => WrongOK ds b
 | [], _, x, hx => by cases hx
 | .mk a c ns b :: l, hok, x, hx => by
  simp only [okAs, okA] at hok
  rcases List.mem_cons.1 hx with h | h
  ·rw [h]; exact wrong_ok hd b hok.1.2
  ·exact wronga_ok hd l hok.2 x h
end
@[simp] theorem cells_map_ (r : Nat) : (AV.map r).cells = [.map r] := rfl
@[simp] theorem cells_nilm_ : AV.nilm.cells = [.nilm] := rfl
theorem lp36_0 (ds : List Da) (X1 : AV) (L : List AV) (nl : Bool) (hL : L.length < big) : ∀ (r : List Bi) (i : Nat) (B : List Str) (σ : H), Tail L i (encBs r) → B.length + r.length ≤ 2 ^ 60 → SS ds σ B →
  ∃ e fr' σ', Lp ctx [26] [] [1, 6, 26, 28, 29, 30] b36_0 ⟨[(1, .bx X1), (6, .v (.ptr 1 1 0 0)), (26, .v (.ptr 1 1 0 0)), (28, .v (encR 8 nl L)), (29, .v (.int .i64 L.length)), (30, .v (.int .i64 i))], false⟩ σ e fr' σ' ∧ fr'.lk = false ∧
   (match twiceB B r with
   | .error a => e = .ret ∧ getS fr'.sl 2 = .v (.int .i64 7) ∧ getS fr'.sl 3 = .v (.int .i64 a)
   | .ok B' => e = .ex 0 ∧ SS ds σ' B' ∧ B'.length = B.length + r.length ∧ getS fr'.sl 1 = .bx X1 ∧ getS fr'.sl 6 = .v (.ptr 1 1 0 0) ∧ getS fr'.sl 26 = .v (.ptr 1 1 0 0) ∧ getS fr'.sl 2 = .u ∧ getS fr'.sl 3 = .u ∧ (∀ t, 57 ≤ t → t < 61 → getS fr'.sl t = .u))
 | [], i, B, σ, h, hb, hs => by
  have h' := h.nil
  refine ⟨.ex 0, ?_, σ, Lp.exit ⟨0, fun N _ => ?_⟩ (by simp), ?_⟩
  rotate_left
  ·simp -implicitDefEqProofs [b36_0, h']
   rfl
  ·refine ⟨by simp, rfl, hs, by simp, by simp, by simp, by simp, by simp, by simp, fun t h1 h2 => ?_⟩
   simp only [getS]
   repeat rw [if_neg (by omega)]
 | b :: r, i, B, σ, h, hb, hs => by
  have hlen := h.len
  simp only [encBs_cons] at h
  obtain ⟨g1, g2, g3, g4, g5⟩ := h.cons
  simp at hlen hb
  have hw := wrap_succ (n := i) (by omega)
  have g6 := g5 8 nl
  have ho := hs.o
  obtain ⟨s, a, ⟨bk, ba, bs, bn, bks, bas⟩⟩ := b
  simp only [encB, cellsE] at g1
  have hcnt : B.count s ≤ B.length := List.count_le_length
  have e0 := hs.look s
  have hac := any_count B s
  rw [g6]
  unfold twiceB
  cases hany : B.any (eqS s) with
  | true =>
   rw [hany] at hac
   have hz : (0 : Int) < (B.count s : Int) := by
    have : ((B.count s : Int) == 0) = false := by
     cases h : ((B.count s : Int) == 0) with
     | false => rfl
     | true => rw [h] at hac; cases hac
    simp at this; omega
   generalize (B.count s : Int) = c0 at e0 hz
   refine ⟨.ret, ?_, σ, Lp.exit ⟨0, fun N hN => ?_⟩ (by simp), ?_⟩
   rotate_left
   ·simp -implicitDefEqProofs [b36_0, g1, g2, g3, ho, e0, hz]
    rfl
   ·exact ⟨by simp, rfl, by simp, by simp⟩
  | false =>
   rw [hany] at hac
   have hc0 : (B.count s : Int) = 0 := by
    have : ((B.count s : Int) == 0) = true := by
     cases h : ((B.count s : Int) == 0) with
     | true => rfl
     | false => rw [h] at hac; cases hac
    exact eq_of_beq this
   obtain ⟨ei, σa, σb, e1, e2, e3, s1, k1, _⟩ := hs.turn s 1 (s :: B) (by simp; omega) (fun x hx => List.count_cons_of_ne (Ne.symm hx))
   rw [hc0] at e0 e1 e2
   obtain ⟨e, fr', σ', q1, q2, q3⟩ := lp36_0 ds X1 L nl hL r (i + 1) (s :: B) σb g4 (by simp; omega) s1
   rw [g6] at q1
   refine ⟨e, fr', σ', Lp.step ⟨0, fun N hN => ?_⟩ q1, q2, ?_⟩
   ·have hw1 : IntKind.i64.wrap 1 = 1 := wrap_i64 (by omega)
    simp -implicitDefEqProofs [b36_0, g1, g2, g3, hw, ho, e0, e1, e2, e3, hw1]
   ·simp only
    cases ht : twiceB (s :: B) r with
    | error x => rw [ht] at q3; exact q3
    | ok B' =>
     rw [ht] at q3
     obtain ⟨a1, a2, a3, a4⟩ := q3
     exact ⟨a1, a2, by simp at a3 ⊢; omega, a4⟩
theorem lp36_1 {ds : List Da} (hd : okDs ds) (L : List AV) (nl : Bool) (hL : L.length < big) (B : List Str) (hB : B.length ≤ 2 ^ 60) : ∀ (r : List Bi) (i : Nat) (σ : H), Tail L i (encBs r) → (∀ b ∈ r, okE b.b ∧ bdE b.b ≤ 2 ^ 50) → SS ds σ B →
  ∃ e fr' σ', Lp ctx [26] [] [6, 26, 58, 59, 60] b36_1 ⟨[(6, .v (.ptr 1 1 0 0)), (26, .v (.ptr 1 1 0 0)), (58, .v (encR 8 nl L)), (59, .v (.int .i64 L.length)), (60, .v (.int .i64 i))], false⟩ σ e fr' σ' ∧ fr'.lk = false ∧
   (match wrBs ds B r with
   | some x => e = .ret ∧ getS fr'.sl 2 = .v (.int .i64 7) ∧ getS fr'.sl 3 = .v (.int .i64 x)
   | none => e = .ex 2 ∧ getS fr'.sl 2 = .u ∧ getS fr'.sl 3 = .u)
 | [], i, σ, h, _, hs => by
  have h' := h.nil
  refine ⟨.ex 2, ?_, σ, Lp.exit ⟨0, fun N _ => ?_⟩ (by simp), ?_⟩
  rotate_left
  ·simp -implicitDefEqProofs [b36_1, h']
   rfl
  ·exact ⟨by simp, rfl, by simp, by simp⟩
 | b :: r, i, σ, h, hb, hs => by
  have hlen := h.len
  simp only [encBs_cons] at h
  obtain ⟨g1, g2, g3, g4, g5⟩ := h.cons
  simp at hlen
  have hw := wrap_succ (n := i) (by omega)
  have g6 := g5 8 nl
  obtain ⟨hb1, hb2⟩ := hb b (by simp)
  obtain ⟨σ1, ⟨k, hk⟩, s1, p1⟩ := wrong_ok hd b.b hb1 B σ (by omega) hs
  rw [g6]
  obtain ⟨s, a, ⟨bk, ba, bs, bn, bks, bas⟩⟩ := b
  simp only [encB, cellsE] at g1
  simp only at hk
  rw [encE_mk] at hk
  unfold wrBs
  simp only
  cases hw' : wrE ds B (.mk bk ba bs bn bks bas) with
  | some x =>
   rw [hw'] at hk
   simp only [orM1] at hk
   refine ⟨.ret, ?_, σ1, Lp.exit ⟨k, fun N hN => ?_⟩ (by simp), ?_⟩
   rotate_left
   ·have hk := hk N hN
    simp -implicitDefEqProofs [b36_1, g1, g2, g3, hk]
    rfl
   ·exact ⟨by simp, rfl, by simp, by simp⟩
  | none =>
   rw [hw'] at hk
   simp only [orM1] at hk
   obtain ⟨e, fr', σ', q1, q2, q3⟩ := lp36_1 hd L nl hL B hB r (i + 1) σ1 g4 (fun x hx => hb x (by simp [hx])) s1
   rw [g6] at q1
   refine ⟨e, fr', σ', Lp.step ⟨k, fun N hN => ?_⟩ q1, q2, q3⟩
   have hk := hk N hN
   simp -implicitDefEqProofs [b36_1, g1, g2, g3, hw, hk]
def scI : Option (Nat × Nat) → Int × Int
 | some (e, a) => ((e : Int), (a : Int))
 | none => (0, 0)
set_option maxHeartbeats 1000000 in
theorem scheck_ans (p : Pg) (hp : okP p) (hb : ∀ b ∈ p.bs, bdE b.b ≤ 2 ^ 50) : Ans ctx 36 [.agg [encR 4 true (encDs p.ds), encR 8 true (encBs p.bs)]] (.tup [.int .i64 (scI (checkScope p)).1, .int .i64 (scI (checkScope p)).2]) := by
 have hds := hp.ds
 have hbs := hp.bs
 unfold lim at hds hbs
 obtain ⟨k1, hk1⟩ := check_ans p.ds true (by unfold big; omega) hp.d
 unfold checkScope
 cases hc : checkData p.ds with
 | some a =>
  rw [hc] at hk1
  simp only [chkI] at hk1
  refine Ans.of (σ' := []) fn36_ (by simp) (by simp) ⟨k1, fun N hN => ?_⟩
  have hk1 := hk1 N hN
  simp -implicitDefEqProofs [i36, c36, hk1, scI]
 | none =>
  rw [hc] at hk1
  simp only [chkI] at hk1
  have hs : SS p.ds [.map [], .arr false 2 [.agg [encR 4 true (encDs p.ds), .map 0]]] [] := ⟨⟨[], rfl, fun s => by simp⟩, rfl⟩
  obtain ⟨e, fr1, σ1, j1, j2, j3⟩ := lp36_0 p.ds (.agg [encR 4 true (encDs p.ds), encR 8 true (encBs p.bs)]) (encBs p.bs) true (by simp [big]; omega) p.bs 0 [] _ (Tail.all _) (by simp; omega) hs
  obtain ⟨k2, hk2⟩ := j1.den
  simp only
  cases ht : twiceB [] p.bs with
  | error a =>
   rw [ht] at j3
   obtain ⟨rfl, j4, j5⟩ := j3
   refine Ans.of (σ' := σ1) fn36_ (by simp) (by simp) ⟨k1 + k2, fun N hN => ?_⟩
   have hk1 := hk1 N (by omega)
   have hk2 := hk2 N (by omega)
   simp only [encBs_length, Int.cast_ofNat_Int] at hk2
   simp -implicitDefEqProofs [i36, c36, hk1, hk2, j2, j4, j5, scI]
  | ok B =>
   rw [ht] at j3
   obtain ⟨rfl, s1, jl, j4, j5, j6, j7, j8, j9⟩ := j3
   simp only [List.length_nil, Nat.zero_add] at jl
   obtain ⟨e, fr2, σ2, l1, l2, l3⟩ := lp36_1 ⟨hp.ds, hp.d⟩ (encBs p.bs) true (by simp [big]; omega) B (by omega) p.bs 0 σ1 (Tail.all _) (fun b h => ⟨hp.b b h, hb b h⟩) s1
   obtain ⟨k3, hk3⟩ := l1.den
   simp only
   cases hw : wrBs p.ds B p.bs with
   | some a =>
    rw [hw] at l3
    obtain ⟨rfl, l4, l5⟩ := l3
    refine Ans.of (σ' := σ2) fn36_ (by simp) (by simp) ⟨k1 + k2 + k3, fun N hN => ?_⟩
    have hk1 := hk1 N (by omega)
    have hk2 := hk2 N (by omega)
    have hk3 := hk3 N (by omega)
    simp only [encBs_length, Int.cast_ofNat_Int] at hk2 hk3
    simp -implicitDefEqProofs [i36, c36, hk1, hk2, hk3, j2, j4, j5, j6, j7, j8, j9, l2, l4, l5, scI]
   | none =>
    rw [hw] at l3
    obtain ⟨rfl, l4, l5⟩ := l3
    refine Ans.of (σ' := σ2) fn36_ (by simp) (by simp) ⟨k1 + k2 + k3, fun N hN => ?_⟩
    have hk1 := hk1 N (by omega)
    have hk2 := hk2 N (by omega)
    have hk3 := hk3 N (by omega)
    simp only [encBs_length, Int.cast_ofNat_Int] at hk2 hk3
    simp -implicitDefEqProofs [i36, c36, hk1, hk2, hk3, j2, j4, j5, j6, j7, j8, j9, l2, l4, l5, scI]
def headsS : Str := [100, 97, 116, 97, 32, 76, 105, 115, 116, 32, 97, 32, 61, 32, 78, 105, 108, 32, 124, 32, 67, 111, 110, 115, 32, 97, 32, 40, 76, 105, 115, 116, 32, 97, 41, 59, 10, 100, 97, 116, 97, 32, 79, 112, 116, 32, 97, 32, 61, 32, 78, 111, 110, 101, 32, 124, 32, 83, 111, 109, 101, 32, 97, 59, 10, 100, 97, 116, 97, 32, 70, 32, 97, 32, 98, 32, 61, 32, 79, 100, 100, 32, 40, 97, 32, 45, 62, 32, 98, 41, 32, 40, 97, 44, 32, 73, 110, 116, 41, 59, 10]
def checkS (s : Str) : Int × Int := match parse s with
 | .bad _ _ => (-1, 0)
 | .ok p => scI (checkScope p)
theorem parse_neq {s : Str} {e a : Nat} (h : parse s = .bad e a) : e ≠ 0 := by
 unfold parse at h
 cases hl : lex s with
 | bad x y =>
  rw [hl] at h
  have := lex_pos s hl
  simp only [Parsed.bad.injEq] at h
  rw [← h.1]; exact this
 | ok l =>
  rw [hl] at h
  simp only at h
  split at h
  ·simp only [Parsed.bad.injEq] at h; omega
  ·split at h
   ·simp only [Parsed.bad.injEq] at h; omega
   ·cases h
theorem lcheck_ans (s : Str) : Ans ctx 39 [.str s] (.tup [.int .i64 (checkS s).1, .int .i64 (checkS s).2]) := by
 obtain ⟨⟨k1, hk1⟩, hok⟩ := parse_ans s
 unfold checkS
 cases hp : parse s with
 | bad e a =>
  rw [hp] at hk1
  have he := parse_neq hp
  have he' : ((e : Int) != 0) = true := by simp; omega
  refine Ans.of (σ' := []) fn39_ (by simp) (by simp) ⟨k1, fun N hN => ?_⟩
  have hk1 := hk1 N hN
  simp only [encPd] at hk1
  simp -implicitDefEqProofs [i39, c39, hk1, he', -bne_iff_ne]
 | ok p =>
  rw [hp] at hk1
  obtain ⟨k2, hk2⟩ := scheck_ans p (hok p hp) (parse_okB hp)
  obtain ⟨k3, hk3⟩ := num_ans (scI (checkScope p)).1
  refine Ans.of (σ' := []) fn39_ (by simp) (by simp) ⟨k1 + k2 + k3, fun N hN => ?_⟩
  have hk1 := hk1 N (by omega)
  have hk2 := hk2 N (by omega)
  have hk3 := hk3 N (by omega)
  simp only [encPd] at hk1
  simp -implicitDefEqProofs [i39, c39, hk1, hk2, hk3]
def awS13 : Str := [108, 101, 116, 32, 102, 32, 61, 32, 103, 59]
theorem awake13_ans : Ans ctx 35 [] (.bool true) := by
 obtain ⟨k1, hk1⟩ := scheck_ans ⟨[], []⟩ ⟨by simp, by simp, by simp, by simp⟩ (by simp)
 obtain ⟨k2, hk2⟩ := lcheck_ans awS13
 have e1 : scI (checkScope ⟨[], []⟩) = (0, 0) := by kernel_rfl
 have e2 : checkS awS13 = (7, 8) := by kernel_rfl
 rw [e1] at hk1
 rw [e2] at hk2
 obtain ⟨k3, hk3⟩ := num_ans 0
 refine Ans.of (σ' := []) fn35_ (by simp) (by simp) ⟨k1 + k2 + k3, fun N hN => ?_⟩
 have hk1 := hk1 N (by omega)
 have hk2 := hk2 N (by omega)
 have hk3 := hk3 N (by omega)
 simp only [encDs_nil, encBs_nil, encR_tnil, awS13] at hk1 hk2
 simp -implicitDefEqProofs [i35, c35, hk1, hk2, hk3]
theorem cat13 (x y : List UInt8) (h : x.length + y.length < 4611686018427387904) : ∃ S, S = x ++ y ∧ S.length = x.length + y.length ∧ strOp .add x y = some (.str S) :=
 ⟨x ++ y, rfl, by simp, by simp [strOp, h]⟩
theorem at_str {l : List Str} {k : Nat} (h : k < l.length) : (encSs l)[k]? = some (.str l[k]) := by
 unfold encSs
 rw [List.getElem?_map, List.getElem?_eq_getElem h]; rfl
theorem at_int {l : List Nat} {k : Nat} (h : k < l.length) : (l.map fun (n : Nat) => AV.int .i64 (n : Int))[k]? = some (.int .i64 (l[k] : Nat)) := by
 rw [List.getElem?_map, List.getElem?_eq_getElem h]; rfl
theorem all_at {α : Type} {l : List α} {f : α → Bool} (h : l.all f = true) {k : Nat} (hk : k < l.length) : f l[k] = true := by
 rw [List.all_eq_true] at h
 exact h _ (List.getElem_mem hk)
theorem u8_mod (w : UInt8) (m : Nat) : ((w.toNat : Int)).tmod m = ((w.toNat % m : Nat) : Int) := rfl
theorem u8_wrap (w : UInt8) : IntKind.i64.wrap (w.toNat : Int) = (w.toNat : Int) := wrap_i64 (by have := w.toNat_lt; omega)
end Go.Am.Try
