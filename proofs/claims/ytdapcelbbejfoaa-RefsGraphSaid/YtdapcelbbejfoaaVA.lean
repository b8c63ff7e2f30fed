/- V0, V3, V4, V5, V5p, as one -/
import Derived.Test.YtdapcelbbejfoaaE0
import Derived.Test.YtdapcelbbejfoaaE6s
import Derived.Test.YtdapcelbbejfoaaP25
import Derived.Test.YtdapcelbbejfoaaMTab
import Derived.Test.YtdapcelbbejfoaaP26
set_option linter.unusedVariables false
set_option maxRecDepth 100000
set_option linter.unusedSimpArgs false
namespace Go.Am.Try
open Go Go.Am.Ps
theorem eqS_symm (a b : Str) : eqS a b = eqS b a := by
  rw [eqS_iff, eqS_iff]; exact Bool.eq_iff_iff.2 ⟨fun h => by simpa using (eq_of_beq h).symm, fun h => by simpa using (eq_of_beq h).symm⟩
theorem eqS_refl (a : Str) : eqS a a = true := by rw [eqS_iff]; simp
theorem placeF_no : ∀ (l : List Str) (i : Nat) (s : Str), l.any (eqS s) = false → placeF i l s = -1
  | [], i, s, h => rfl
  | a :: l, i, s, h => by
    simp only [List.any_cons, Bool.or_eq_false_iff] at h
    have h1 := h.1
    rw [eqS_symm] at h1
    simp only [placeF, h1]
    exact placeF_no l (i + 1) s h.2
theorem placeF_yes : ∀ (l : List Str) (i : Nat) (s : Str), l.any (eqS s) = true → ∃ k : Nat, placeF i l s = (k : Int) ∧ i ≤ k ∧ k < i + l.length
  | [], i, s, h => by simp at h
  | a :: l, i, s, h => by
    simp only [placeF]
    cases h1 : eqS a s with
    | true => exact ⟨i, by simp, Nat.le_refl _, by simp⟩
    | false =>
      rw [eqS_symm] at h1
      simp only [List.any_cons, h1, Bool.false_or] at h
      obtain ⟨k, a1, a2, a3⟩ := placeF_yes l (i + 1) s h
      exact ⟨k, by simpa using a1, by omega, by simp; omega⟩
theorem place_no {l : List Str} {s : Str} (h : l.any (eqS s) = false) : place l s = -1 := placeF_no l 0 s h
theorem place_yes {l : List Str} {s : Str} (h : l.any (eqS s) = true) : 0 ≤ place l s := by
  obtain ⟨k, h1, _⟩ := placeF_yes l 0 s h
  unfold place; rw [h1]; omega
theorem any_snoc (B : List Str) (x s : Str) : (B ++ [x]).any (eqS s) = (x :: B).any (eqS s) := by
  rw [List.any_append, List.any_cons, List.any_cons, List.any_nil, Bool.or_false, Bool.or_comm]
theorem any_swap (B l : List Str) (s : Str) : (B ++ l).any (eqS s) = (l ++ B).any (eqS s) := by
  rw [List.any_append, List.any_append, Bool.or_comm]
theorem elemsM_encS (nl : Bool) (l : List AV) : elemsM ⟨.str, 1, 16, .str [], [.str]⟩ (encR 1 nl l) = pureM l := by
  cases nl <;> cases l <;> rfl
theorem elemsM_sl (l : List AV) : elemsM ⟨.str, 1, 16, .str [], [.str]⟩ (.sl 1 l) = pureM l := rfl
theorem fitS : ∀ B : List Str, fitAll ⟨.str, 1, 16, .str [], [.str]⟩ (encSs B) = true
  | [] => rfl
  | s :: B => by
    have := fitS B
    simp [encSs, fitAll] at this ⊢
    exact this
theorem setCells_nil (l : List AV) (o : Nat) : setCells l o [] = l := rfl
theorem app_end (σ : H) (xs ys : List Str) (n : Nat) (hn : xs.length = n) (hb : n + ys.length ≤ 2 ^ 41) :
    appendH ⟨.str, 1, 16, .str [], [.str]⟩ (.hs σ.length n 0 n 1) (encSs ys) (σ ++ [.arr false 1 (encSs xs)]) = some (.hs σ.length (n + ys.length) 0 (n + ys.length) 1, σ ++ [.arr false 1 (encSs (xs ++ ys))]) := by
  have hf := fitS ys
  have h1 : (σ ++ [HObj.arr false 1 (encSs xs)])[σ.length]? = some (.arr false 1 (encSs xs)) := by simp
  have hl : (encSs xs).length = n := by simp [hn]
  have ht : (encSs xs).take n = encSs xs := List.take_of_length_le (by simp [hn])
  unfold appendH arrAt
  simp only [h1, hl, if_true]
  rw [if_pos ⟨trivial, trivial, by omega, by simp; omega, by simp; omega, hf⟩]
  cases ys with
  | nil =>
    simp [encSs, setCells_nil]
  | cons y ys =>
    rw [if_neg (by simp)]
    simp only [if_true, ht]
    have : encSs xs ++ encSs (y :: ys) = encSs (xs ++ y :: ys) := by simp [encSs]
    rw [this]
    simp
theorem decl_okC (E n : Nat) (hn : n ≤ 600000) (out : Pg) (p : PS) (hp : rl p ≤ 65536) (h : ∀ b ∈ out.bs, bdE b.b ≤ 700000000000) : (∀ b ∈ (decl E n out p).1.bs, bdE b.b ≤ 700000000000) := by
  unfold decl
  split
  · exact h
  · have r0 := Nat.le_trans (rl_eat E p 4 sLet) hp
    have r1 := Nat.le_trans (rl_eat E (p.eat E 4 sLet).2 1 []) r0
    have r3 := Nat.le_trans (rl_names ((p.eat E 4 sLet).2.eat E 1 []).2) r1
    have r4 := Nat.le_trans (rl_sign E ((p.eat E 4 sLet).2.eat E 1 []).2.names.2 sEq) r3
    have l1 := names_le ((p.eat E 4 sLet).2.eat E 1 []).2
    have b1 := (bd_all E n (by omega)).1 _ r4
    intro b hb
    simp only [List.mem_append, List.mem_singleton] at hb
    rcases hb with hb | rfl
    · exact h b hb
    · simp only [bd_lams]
      unfold KB at b1
      omega
theorem decls_okC (E n : Nat) (hn : n ≤ 600000) : ∀ (m : Nat) (out : Pg) (p : PS), rl p ≤ 65536 → (∀ b ∈ out.bs, bdE b.b ≤ 700000000000) → (∀ b ∈ (decls E n m out p).1.bs, bdE b.b ≤ 700000000000)
  | 0, out, p, _, h => h
  | m + 1, out, p, hp, h => by
    simp only [decls]
    split
    · have h1 := decl_okC E n hn out p hp h
      have hr := (ok_decl E (n := n) (k := max out.ds.length out.bs.length) (by unfold lim; omega) (out := ⟨[], []⟩) ⟨by simp, by simp, by simp, by simp⟩ p hp).2
      have hr2 : rl (decl E n out p).2 ≤ 65536 := by
        have e : (decl E n out p).2 = (decl E n ⟨[], []⟩ p).2 := by unfold decl; split <;> rfl
        rw [e]; exact hr
      exact decls_okC E n hn m _ _ hr2 h1
    · exact h
theorem parse_okC {s : Str} {p : Pg} (h : parse s = .ok p) : ∀ b ∈ p.bs, bdE b.b ≤ 700000000000 := by
  unfold parse at h
  cases hl : lex s with
  | bad e a => rw [hl] at h; cases h
  | ok l =>
    rw [hl] at h
    simp only at h
    have hlen := tl_lex s hl
    have h1 := decls_okC s.length (8 * l.length + 40) (by omega) (l.length + 1) ⟨[], []⟩ ⟨0, l, false, 0⟩ hlen (by simp)
    generalize decls s.length (8 * l.length + 40) (l.length + 1) ⟨[], []⟩ ⟨0, l, false, 0⟩ = R at *
    obtain ⟨out, q⟩ := R
    simp only at h h1
    split at h
    · cases h
    · split at h
      · cases h
      · cases h
        exact h1
def encIs (l : List Int) : List AV := l.map (AV.int .i64)
@[simp] theorem encIs_cons (x : Int) (l : List Int) : encIs (x :: l) = .int .i64 x :: encIs l := rfl
def encNs (l : List Nat) : List AV := l.map fun (n : Nat) => AV.int .i64 (n : Int)
@[simp] theorem encNs_length (l : List Nat) : (encNs l).length = l.length := by simp [encNs]
@[simp] theorem encNs_nil : encNs [] = [] := rfl
theorem encNs_cons (x : Nat) (l : List Nat) : encNs (x :: l) = .int .i64 x :: encNs l := rfl
theorem encNs_app (l m : List Nat) : encNs (l ++ m) = encNs l ++ encNs m := by simp [encNs]
@[simp] theorem noRefs_encNs : ∀ l, AV.noRefs (encNs l) = true
  | [] => rfl
  | x :: l => by
    have := noRefs_encNs l
    simp only [encNs_cons, AV.noRefs, AV.noRef, Bool.true_and]
    exact this
theorem encNs_Is (l : List Nat) : encNs l = encIs (l.map fun (n : Nat) => (n : Int)) := by simp [encNs, encIs]
def tiI : TI := ⟨.int .i64, 1, 8, .int .i64 0, [.int .i64]⟩
def insN (x : Nat) : List Nat → List Nat
  | [] => [x]
  | y :: l => if x ≤ y then x :: y :: l else y :: insN x l
def sortN : List Nat → List Nat
  | [] => []
  | x :: l => insN x (sortN l)
theorem insN_mem {x y : Nat} : ∀ {l : List Nat}, y ∈ insN x l ↔ y = x ∨ y ∈ l
  | [] => by simp [insN]
  | z :: l => by
    unfold insN
    split
    · simp
    · simp only [List.mem_cons, insN_mem (l := l)]
      constructor
      · rintro (h | h | h)
        · exact .inr (.inl h)
        · exact .inl h
        · exact .inr (.inr h)
      · rintro (h | h | h)
        · exact .inr (.inl h)
        · exact .inl h
        · exact .inr (.inr h)
theorem sortN_mem {y : Nat} : ∀ {l : List Nat}, y ∈ sortN l ↔ y ∈ l
  | [] => by simp [sortN]
  | z :: l => by simp [sortN, insN_mem, sortN_mem (l := l)]
theorem insN_lt {x : Nat} : ∀ {l : List Nat}, l.Pairwise (· < ·) → x ∉ l → (insN x l).Pairwise (· < ·)
  | [], _, _ => by simp [insN]
  | z :: l, h, hx => by
    rw [List.pairwise_cons] at h
    simp only [List.mem_cons, not_or] at hx
    unfold insN
    split
    · rw [List.pairwise_cons, List.pairwise_cons]
      exact ⟨fun y hy => (by
        rcases List.mem_cons.1 hy with h1 | h1
        · omega
        · have := h.1 y h1; omega), h⟩
    · rw [List.pairwise_cons]
      exact ⟨fun y hy => (by
        rcases insN_mem.1 hy with h1 | h1
        · omega
        · exact h.1 y h1), insN_lt h.2 hx.2⟩
theorem sortN_lt : ∀ {l : List Nat}, l.Nodup → (sortN l).Pairwise (· < ·)
  | [], _ => by simp [sortN]
  | x :: l, h => by
    rw [List.nodup_cons] at h
    exact insN_lt (sortN_lt h.2) (by rw [sortN_mem]; exact h.1)
theorem pw_ext {l m : List Nat} (hl : l.Pairwise (· < ·)) (hm : m.Pairwise (· < ·)) (h : ∀ x, x ∈ l ↔ x ∈ m) : l = m := by
  induction l generalizing m with
  | nil =>
    cases m with
    | nil => rfl
    | cons y m => have := (h y).2 (by simp); cases this
  | cons x l ih =>
    cases m with
    | nil => have := (h x).1 (by simp); cases this
    | cons y m =>
      rw [List.pairwise_cons] at hl hm
      have e : x = y := by
        have h1 := (h x).1 (by simp)
        have h2 := (h y).2 (by simp)
        rcases List.mem_cons.1 h1 with h1 | h1
        · exact h1
        · rcases List.mem_cons.1 h2 with h2 | h2
          · exact h2.symm
          · have := hl.1 y h2; have := hm.1 x h1; omega
      subst e
      congr 1
      refine ih hl.2 hm.2 fun z => ?_
      constructor
      · intro hz
        have := (h z).1 (by simp [hz])
        rcases List.mem_cons.1 this with k | k
        · subst k; have := hl.1 z hz; omega
        · exact k
      · intro hz
        have := (h z).2 (by simp [hz])
        rcases List.mem_cons.1 this with k | k
        · subst k; have := hm.1 z hz; omega
        · exact k
theorem unAll_Is : ∀ l : List Int, unAll unI (encIs l) = some l
  | [] => rfl
  | x :: l => by simp only [encIs_cons, unAll, unI, unAll_Is l]
theorem setCells_all : ∀ (xs ys pre : List AV), xs.length = ys.length → setCells (pre ++ xs) pre.length ys = pre ++ ys
  | [], [], pre, _ => by simp [setCells]
  | [], _ :: _, _, h => by simp at h
  | _ :: _, [], _, h => by simp at h
  | x :: xs, y :: ys, pre, h => by
    simp only [setCells]
    have e : (pre ++ x :: xs).set pre.length y = (pre ++ [y]) ++ xs := by
      rw [List.set_append_right _ _ (Nat.le_refl _)]
      simp
    rw [e]
    have := setCells_all xs ys (pre ++ [y]) (by simpa using h)
    simp only [List.length_append, List.length_singleton] at this
    rw [this]; simp
theorem sort_nats (l : List Nat) (hl : l.Nodup) : (l.map fun (n : Nat) => (n : Int)).mergeSort (fun x y => decide (x ≤ y)) = (sortN l).map fun (n : Nat) => (n : Int) := by
  generalize hM : (l.map fun (n : Nat) => (n : Int)).mergeSort (fun x y => decide (x ≤ y)) = M
  have hperm : M.Perm (l.map fun (n : Nat) => (n : Int)) := by rw [← hM]; exact List.mergeSort_perm _ _
  have hsorted : M.Pairwise fun a b => a ≤ b := by
    have := List.pairwise_mergeSort (le := fun (x y : Int) => decide (x ≤ y)) (fun a b c h1 h2 => by simp at *; omega) (fun a b => by simp; omega) (l.map fun (n : Nat) => (n : Int))
    rw [hM] at this
    exact this.imp fun h => by simpa using h
  have hnn : ∀ x ∈ M, 0 ≤ x := fun x hx => by
    have := (hperm.mem_iff).1 hx
    obtain ⟨n, _, rfl⟩ := List.mem_map.1 this
    omega
  have hnd : M.Nodup := hperm.nodup_iff.2 (by
    rw [List.nodup_iff_pairwise_ne, List.pairwise_map]
    rw [List.nodup_iff_pairwise_ne] at hl
    exact hl.imp fun h e => h (by omega))
  have hlt : M.Pairwise fun a b => a < b := by
    rw [List.nodup_iff_pairwise_ne] at hnd
    exact (hsorted.and hnd).imp fun ⟨h1, h2⟩ => by omega
  have e : M.map Int.toNat = sortN l := by
    refine pw_ext ?_ (sortN_lt hl) fun x => ?_
    · rw [List.pairwise_map]
      exact hlt.imp_of_mem fun ha hb h => by have := hnn _ ha; have := hnn _ hb; omega
    · rw [sortN_mem, List.mem_map]
      constructor
      · rintro ⟨y, hy, rfl⟩
        obtain ⟨n, hn, rfl⟩ := List.mem_map.1 (hperm.mem_iff.1 hy)
        simpa using hn
      · intro hx
        exact ⟨(x : Int), hperm.mem_iff.2 (List.mem_map.2 ⟨x, hx, rfl⟩), by simp⟩
  rw [← e, List.map_map]
  have : ∀ (L : List Int), (∀ x ∈ L, 0 ≤ x) → L.map ((fun (n : Nat) => (n : Int)) ∘ Int.toNat) = L := fun L => by
    induction L with
    | nil => intro _; rfl
    | cons x L ih =>
      intro h
      rw [List.map_cons, ih fun y hy => h y (by simp [hy])]
      congr 1
      have := h x (by simp)
      show ((x.toNat : Nat) : Int) = x
      omega
  exact (this M hnn).symm
theorem app_raw2 (te : TI) {σ : H} {q2 : Nat} {xs : List AV} {y : AV} (h : RowAt σ q2 te.size xs) (hy : y.fits te = true) (hb : (xs.length + 1) * te.bytes ≤ 2 ^ 45) (hl : xs.length + 1 ≤ 2 ^ 45) :
    ∃ q3 σ', appendH te (rowV q2 xs.length te.size) [y] σ = some (rowV q3 (xs.length + 1) te.size, σ') ∧ σ'[q3]? = some (.arr false te.size (xs ++ [y])) ∧ σ.length ≤ σ'.length ∧ (∀ j o, σ[j]? = some o → (xs ≠ [] → j ≠ q2) → σ'[j]? = some o) ∧ (∀ j, j < σ.length → (xs ≠ [] → j ≠ q2) → j ≠ q3) := by
  cases xs with
  | nil =>
    simp only [List.length_nil, Nat.zero_add, Nat.one_mul] at hb
    refine ⟨σ.length, σ ++ [.arr false te.size [y]], ?_, by simp, by simp, fun j o hj _ => ?_, fun j hj _ => by omega⟩
    · simp [rowV, appendH, hy, fitAll, hb]
    · rw [List.getElem?_append_left (List.getElem?_eq_some_iff.1 hj).1]; exact hj
  | cons x l =>
    have h1 := h (by simp)
    simp at hb hl
    have e1 : l.length + 1 + 1 ≤ 35184372088832 := by omega
    have e3 : ¬ l.length + 1 + 1 ≤ l.length + 1 := by omega
    have e4 : l.length + 1 ≤ 35184372088831 := by omega
    have e5 : l.length ≤ 35184372088830 := by omega
    have hl2 := (List.getElem?_eq_some_iff.1 h1).1
    refine ⟨q2, σ.set q2 (.arr false te.size (x :: l ++ [y])), ?_, List.getElem?_set_self hl2, by simp, fun j o hj hq => ?_, fun j _ hq => hq (by simp)⟩
    · simp [rowV, appendH, hy, fitAll, hb, e1, e3, e4, e5, arrAt, h1]
    · rw [List.getElem?_set_ne (fun e => hq (by simp) e.symm)]; exact hj
theorem rowV_inj {q q' m : Nat} (h : rowV q (m + 1) 1 = rowV q' (m + 1) 1) : q = q' := by simpa [rowV] using h
structure Tb (σ : H) (p : Nat) (cells : List AV) (L : List (List Nat)) : Prop where
  len : cells.length = L.length
  tab : σ[p]? = some (.arr false 1 cells)
  at' : ∀ (i : Nat) l, L[i]? = some l → ∃ q, cells[i]? = some (rowV q l.length 1) ∧ RowAt σ q 1 (encNs l) ∧ (l ≠ [] → q ≠ p ∧ q < σ.length)
  dis : ∀ (i j : Nat) l m q, i ≠ j → L[i]? = some l → L[j]? = some m → l ≠ [] → m ≠ [] → cells[i]? = some (rowV q l.length 1) → cells[j]? ≠ some (rowV q m.length 1)
def Tb.Owns (p : Nat) (cells : List AV) (L : List (List Nat)) (j : Nat) : Prop := j = p ∨ ∃ (i : Nat) (l : List Nat), L[i]? = some l ∧ l ≠ [] ∧ cells[i]? = some (rowV j l.length 1)
theorem Tb.keep {σ σ' : H} {p : Nat} {cells : List AV} {L : List (List Nat)} (h : Tb σ p cells L) (hk : ∀ j, j < σ.length → Tb.Owns p cells L j → σ'[j]? = σ[j]?) (hl : σ.length ≤ σ'.length) : Tb σ' p cells L := by
  have hp := (List.getElem?_eq_some_iff.1 h.tab).1
  refine ⟨h.len, by rw [hk p hp (.inl rfl)]; exact h.tab, fun i l hi => ?_, h.dis⟩
  obtain ⟨q, c1, c2, c3⟩ := h.at' i l hi
  refine ⟨q, c1, fun hx => ?_, fun hne => ⟨(c3 hne).1, by have := (c3 hne).2; omega⟩⟩
  have hne : l ≠ [] := fun e => hx (by rw [e]; rfl)
  rw [hk q (c3 hne).2 (.inr ⟨i, l, hi, hne, c1⟩)]
  exact c2 hx
theorem rowV_inj2 {q q' : Nat} {l : List Nat} (hl : l ≠ []) (h : rowV q l.length 1 = rowV q' l.length 1) : q = q' := by
  obtain ⟨m, hm⟩ : ∃ m, l.length = m + 1 := ⟨l.length - 1, by have := List.length_pos_iff.2 hl; omega⟩
  rw [hm] at h
  exact rowV_inj h
theorem Tb.push {σ : H} {p : Nat} {cells : List AV} {L : List (List Nat)} (h : Tb σ p cells L) {a : Nat} {la : List Nat} (ha : L[a]? = some la) (y : Nat) (hb : la.length ≤ 2 ^ 30) :
    ∃ q q' σ1 c', cells[a]? = some (rowV q la.length 1) ∧ appendH tiI (rowV q la.length 1) [.int .i64 (y : Int)] σ = some (c', σ1) ∧ c' = rowV q' (la.length + 1) 1 ∧ σ1[p]? = some (.arr false 1 cells) ∧ Tb (σ1.set p (.arr false 1 (cells.set a c'))) p (cells.set a c') (L.set a (la ++ [y])) ∧
      (∀ j, j < σ.length → ¬ Tb.Owns p cells L j → σ1[j]? = σ[j]? ∧ ¬ Tb.Owns p (cells.set a c') (L.set a (la ++ [y])) j) ∧ σ.length ≤ σ1.length := by
  have hp := (List.getElem?_eq_some_iff.1 h.tab).1
  have hal := (List.getElem?_eq_some_iff.1 ha).1
  have hcl := h.len
  obtain ⟨q, c1, c2, c3⟩ := h.at' a la ha
  have hle : (encNs la).length = la.length := by simp
  obtain ⟨q', σ1, p1, p2, p3, p4, p5⟩ := app_raw2 tiI (y := .int .i64 (y : Int)) (xs := encNs la) c2 (by simp [tiI]) (by simp [tiI]; omega) (by simp; omega)
  rw [hle] at p1
  have hE : encNs la ++ [.int .i64 (y : Int)] = encNs (la ++ [y]) := by rw [encNs_app]; rfl
  rw [hE] at p2
  have hnn : ∀ {P : Prop}, (la ≠ [] → P) → encNs la ≠ [] → P := fun k hx => k fun e => hx (by rw [e]; rfl)
  have keep : ∀ j, j < σ.length → (la ≠ [] → j ≠ q) → σ1[j]? = σ[j]? ∧ j ≠ q' := fun j hj hn => by
    have := List.getElem?_eq_getElem hj
    rw [this]
    exact ⟨p4 j _ this (hnn hn), p5 j hj (hnn hn)⟩
  obtain ⟨kp1, kp2⟩ := keep p hp (fun hne e => (c3 hne).1 e.symm)
  have hq' : q' < σ1.length := (List.getElem?_eq_some_iff.1 p2).1
  refine ⟨q, q', σ1, rowV q' (la.length + 1) 1, c1, p1, rfl, by rw [kp1]; exact h.tab, ⟨by simp [hcl], by rw [List.getElem?_set_self (by omega)], fun i l hi => ?_, fun i j l m r hij hi hj hl hm e1 e2 => ?_⟩, fun j hj hn => ?_, p3⟩
  · by_cases hia : a = i
    · subst hia
      rw [List.getElem?_set_self hal] at hi
      simp at hi
      subst hi
      refine ⟨q', by rw [List.getElem?_set_self (by omega)]; simp, fun _ => ?_, fun _ => ⟨fun e => kp2 e.symm, by simpa using hq'⟩⟩
      rw [List.getElem?_set_ne kp2]; exact p2
    · rw [List.getElem?_set_ne hia] at hi
      obtain ⟨r, d1, d2, d3⟩ := h.at' i l hi
      refine ⟨r, by rw [List.getElem?_set_ne hia]; exact d1, fun hx => ?_, fun hne => ⟨(d3 hne).1, by have := (d3 hne).2; simp; omega⟩⟩
      have hne : l ≠ [] := fun e => hx (by rw [e]; rfl)
      obtain ⟨f1, f2⟩ := d3 hne
      rw [List.getElem?_set_ne (Ne.symm f1), (keep r f2 (fun hla e => h.dis a i la l q hia ha hi hla hne c1 (by rw [← e]; exact d1))).1]
      exact d2 hx
  · by_cases hia : a = i
    · subst hia
      rw [List.getElem?_set_self hal] at hi
      simp at hi
      subst hi
      rw [List.getElem?_set_self (by omega)] at e1
      rw [List.getElem?_set_ne hij] at hj e2
      have e1 : rowV q' (la.length + 1) 1 = rowV r (la.length + 1) 1 := by simpa using e1
      have e1 := rowV_inj e1
      obtain ⟨r', d1, d2, d3⟩ := h.at' j m hj
      rw [d1] at e2
      have e2 := rowV_inj2 hm (Option.some.inj e2)
      have := (keep r' (d3 hm).2 (fun hla e => h.dis a j la m q hij ha hj hla hm c1 (by rw [← e]; exact d1))).2
      omega
    · rw [List.getElem?_set_ne hia] at hi e1
      by_cases hja : a = j
      · subst hja
        rw [List.getElem?_set_self hal] at hj
        simp at hj
        subst hj
        rw [List.getElem?_set_self (by omega)] at e2
        have e2 : rowV q' (la.length + 1) 1 = rowV r (la.length + 1) 1 := by simpa using e2
        have e2 := rowV_inj e2
        obtain ⟨r', d1, d2, d3⟩ := h.at' i l hi
        rw [d1] at e1
        have e1 := rowV_inj2 hl (Option.some.inj e1)
        have := (keep r' (d3 hl).2 (fun hla e => h.dis a i la l q hia ha hi hla hl c1 (by rw [← e]; exact d1))).2
        omega
      · rw [List.getElem?_set_ne hja] at hj e2
        exact h.dis i j l m r hij hi hj hl hm e1 e2
  · have hjq : la ≠ [] → j ≠ q := fun hla e => hn (.inr ⟨a, la, ha, hla, by rw [e]; exact c1⟩)
    obtain ⟨f1, f2⟩ := keep j hj hjq
    refine ⟨f1, fun ho => ?_⟩
    rcases ho with e | ⟨i, l, hi, hl, e⟩
    · exact hn (.inl e)
    · by_cases hia : a = i
      · subst hia
        rw [List.getElem?_set_self hal] at hi
        simp at hi
        subst hi
        rw [List.getElem?_set_self (by omega)] at e
        have e : rowV q' (la.length + 1) 1 = rowV j (la.length + 1) 1 := by simpa using e
        exact f2 (rowV_inj e).symm
      · rw [List.getElem?_set_ne hia] at hi e
        exact hn (.inr ⟨i, l, hi, hl, e⟩)
theorem Tb.make (σ : H) (k : Nat) : Tb (σ ++ [.arr false 1 (List.replicate k .nil)]) σ.length (List.replicate k .nil) (List.replicate k []) := by
  refine ⟨by simp, by simp, fun i l hi => ?_, fun i j l m q hij hi hj hl => ?_⟩
  · rw [List.getElem?_replicate] at hi
    split at hi
    · rename_i h
      simp at hi
      subst hi
      exact ⟨0, by rw [List.getElem?_replicate, if_pos h]; rfl, fun hx => absurd rfl hx, fun hx => absurd rfl hx⟩
    · cases hi
  · rw [List.getElem?_replicate] at hi
    split at hi
    · simp at hi
      exact absurd hi hl
    · cases hi
def encU (L : List (List Nat)) : List AV := L.map fun l => encR 1 true (encNs l)
@[simp] theorem encU_length (L : List (List Nat)) : (encU L).length = L.length := by simp [encU]
theorem snap_cells {σ : H} (n : Nat) : ∀ (cells : List AV) (L : List (List Nat)), cells.length = L.length → (∀ (i : Nat) l, L[i]? = some l → ∃ q, cells[i]? = some (rowV q l.length 1) ∧ RowAt σ q 1 (encNs l)) → ∃ ns, mapO2 (snapA σ (n + 1)) cells = some (encU L, ns)
  | [], [], _, _ => ⟨[], rfl⟩
  | [], _ :: _, h, _ => by simp at h
  | _ :: _, [], h, _ => by simp at h
  | c :: cells, l :: L, h, hR => by
    obtain ⟨q, h1, h2⟩ := hR 0 l rfl
    simp at h1
    subst h1
    obtain ⟨ns1, w1⟩ := snapR h2 (by simp) n
    rw [encNs_length] at w1
    obtain ⟨ns2, w2⟩ := snap_cells n cells L (by simpa using h) (fun i l hl => by
      have := hR (i + 1) l (by simpa using hl)
      simpa using this)
    exact ⟨ns1 ++ ns2, by simp only [mapO2, w1, w2, encU, List.map_cons]⟩
theorem snap_table {σ : H} {r m : Nat} {cells : List AV} {L : List (List Nat)} (n : Nat) (hc : σ[r]? = some (.arr false 1 cells)) (hm : cells.length = m) (hl : cells.length = L.length) (hR : ∀ (i : Nat) l, L[i]? = some l → ∃ q, cells[i]? = some (rowV q l.length 1) ∧ RowAt σ q 1 (encNs l)) : ∃ ns, snapA σ (n + 2) (.hs r m 0 m 1) = some (.sl 1 (encU L), ns) := by
  obtain ⟨ns, w⟩ := snap_cells n cells L hl hR
  refine ⟨r :: ns, ?_⟩
  unfold snapA
  rw [if_neg (by simp)]
  have ht : cells.take m = cells := List.take_of_length_le (by omega)
  simp only [arrAt, hc, hm, if_true, List.drop_zero, ht, w, Nat.zero_add, Nat.le_refl, and_self]
theorem Tb.snap {σ : H} {p n : Nat} {cells : List AV} {L : List (List Nat)} (h : Tb σ p cells L) (hn : L.length = n) (m : Nat) : ∃ ns, snapA σ (m + 2) (.hs p n 0 n 1) = some (.sl 1 (encU L), ns) :=
  snap_table m h.tab (by rw [h.len, hn]) h.len (fun i l hi => by
    obtain ⟨q, c1, c2, _⟩ := h.at' i l hi
    exact ⟨q, c1, c2⟩)
theorem sortN_len (m : List Nat) : (sortN m).length = m.length := by
  have h1 : ∀ (x : Nat) (m : List Nat), (insN x m).length = m.length + 1 := fun x m => by
    induction m with
    | nil => rfl
    | cons y m ih => unfold insN; split <;> simp [ih]
  induction m with
  | nil => rfl
  | cons y m ih => simp [sortN, h1, ih]
theorem sort_at (σ : H) (q : Nat) (l : List Nat) (h : σ[q]? = some (.arr false 1 (encNs l))) (hl : l.Nodup) (hb : l.length ≤ 2 ^ 40) : AnsH ctx 57 [.hs q l.length 0 l.length 1] σ (.tup []) (σ.set q (.arr false 1 (encNs (sortN l)))) := by
  refine AnsH.prim (by rfl) (by rfl) (by rfl) ?_
  show primSortI [.hs q l.length 0 l.length 1] σ = _
  have ht : ((encNs l).drop 0).take l.length = encIs (l.map fun (n : Nat) => (n : Int)) := by
    rw [List.drop_zero, List.take_of_length_le (by simp), encNs_Is]
  unfold primSortI sortRow
  simp only [arrAt, h, encNs_length, if_true, Nat.zero_add, Nat.le_refl, true_and, ht, unAll_Is]
  rw [if_pos (by omega), sort_nats l hl]
  have := setCells_all (encNs l) (encNs (sortN l)) [] (by simp [sortN_len])
  simp only [List.nil_append, List.length_nil] at this
  rw [show (List.map (AV.int IntKind.i64) ((sortN l).map fun (n : Nat) => (n : Int))) = encNs (sortN l) by simp [encNs], this]
theorem Tb.sort {σ : H} {p : Nat} {cells : List AV} {L : List (List Nat)} (h : Tb σ p cells L) {a : Nat} {la : List Nat} (ha : L[a]? = some la) (hn : la.Nodup) (hb : la.length ≤ 2 ^ 40) :
    ∃ c σ', cells[a]? = some c ∧ AnsH ctx 57 [c] σ (.tup []) σ' ∧ Tb σ' p cells (L.set a (sortN la)) ∧ σ.length = σ'.length ∧ ∀ j, j < σ.length → ¬ Tb.Owns p cells L j → σ'[j]? = σ[j]? := by
  have hal := (List.getElem?_eq_some_iff.1 ha).1
  obtain ⟨q, c1, c2, c3⟩ := h.at' a la ha
  cases la with
  | nil =>
    refine ⟨_, σ, c1, AnsH.prim (by rfl) (by rfl) (by rfl) rfl, ?_, rfl, fun _ _ _ => rfl⟩
    have : L.set a (sortN []) = L := by
      obtain ⟨h1, h2⟩ := List.getElem?_eq_some_iff.1 ha
      have : sortN [] = L[a] := h2.symm
      rw [this, List.set_getElem_self]
    rw [this]; exact h
  | cons x l =>
    have hne : x :: l ≠ [] := by simp
    obtain ⟨d1, d2⟩ := c3 hne
    have hrow := c2 (by simp [encNs_cons])
    have hsl := sortN_len (x :: l)
    refine ⟨_, σ.set q (.arr false 1 (encNs (sortN (x :: l)))), c1, ?_, ?_, ?_, ?_⟩
    · have := sort_at σ q (x :: l) hrow hn hb
      have e : rowV q (x :: l).length 1 = .hs q (x :: l).length 0 (x :: l).length 1 := rfl
      rw [e]
      exact this
    · refine ⟨by simp [h.len], by rw [List.getElem?_set_ne d1]; exact h.tab, fun i m hi => ?_, fun i j m m' r hij hi hj hm hm' e1 e2 => ?_⟩
      · by_cases hia : a = i
        · subst hia
          rw [List.getElem?_set_self hal] at hi
          simp only [Option.some.injEq] at hi
          subst hi
          exact ⟨q, by rw [hsl]; exact c1, fun _ => by rw [List.getElem?_set_self d2], fun _ => ⟨d1, by simpa using d2⟩⟩
        · rw [List.getElem?_set_ne hia] at hi
          obtain ⟨r, f1, f2, f3⟩ := h.at' i m hi
          refine ⟨r, f1, fun hx => ?_, fun hx => ⟨(f3 hx).1, by simpa using (f3 hx).2⟩⟩
          have hm : m ≠ [] := fun e => hx (by rw [e]; rfl)
          have hrq : q ≠ r := fun e => by
            subst e
            exact h.dis a i _ m q hia ha hi hne hm c1 f1
          rw [List.getElem?_set_ne hrq]
          exact f2 hx
      · have conv : ∀ (i : Nat) (m : List Nat), (L.set a (sortN (x :: l)))[i]? = some m → m ≠ [] → ∃ m0, L[i]? = some m0 ∧ m0 ≠ [] ∧ m0.length = m.length := fun i m hi hm => by
          by_cases hia : a = i
          · subst hia
            rw [List.getElem?_set_self hal] at hi
            simp only [Option.some.injEq] at hi
            subst hi
            exact ⟨_, ha, hne, hsl.symm⟩
          · rw [List.getElem?_set_ne hia] at hi
            exact ⟨m, hi, hm, rfl⟩
        obtain ⟨m0, y1, y2, y3⟩ := conv i m hi hm
        obtain ⟨m1, z1, z2, z3⟩ := conv j m' hj hm'
        rw [← y3] at e1
        rw [← z3] at e2
        exact h.dis i j m0 m1 r hij y1 z1 y2 z2 e1 e2
    · simp
    · intro j hj hn'
      rw [List.getElem?_set_ne fun e => hn' (.inr ⟨a, _, ha, hne, by rw [← e]; exact c1⟩)]
def T106 : Tab ctx 106 Str Nat where
  tk := ⟨.str, 1, 16, .str [], [.str]⟩
  te := ⟨.int .i64, 1, 8, .int .i64 0, [.int .i64]⟩
  ek := .str
  ev := fun n => .int .i64 (n : Int)
  z := 0
  map := by rfl
  key := fun k => rfl
  kfit := fun k => rfl
  eq := fun k x => by
    simp only [eqA, AV.cells, eqLeaves, eqLeaf, Bool.and_true, Option.some.injEq]
    by_cases h : k = x <;> simp [h]
  vfit := fun v => rfl
  zero := rfl
structure okG (b : Bi) : Prop where
  f : okF b.b
  bd : bdE b.b ≤ 700000000000
  v : vE b.b ≤ 2 ^ 20
theorem parse_okW {s : Str} {p : Pg} (h : parse s = .ok p) : ∀ b ∈ p.bs, okG b := by
  have hF := parse_okF h
  have hC := parse_okC h
  unfold parse at h
  cases hl : lex s with
  | bad e a => rw [hl] at h; cases h
  | ok l =>
    rw [hl] at h
    simp only at h
    have hlen := tl_lex s hl
    obtain ⟨h1, _⟩ := decls_okV s.length (8 * l.length + 40) (by omega) (l.length + 1) ⟨[], []⟩ ⟨0, l, false, 0⟩ hlen (by simp)
    generalize decls s.length (8 * l.length + 40) (l.length + 1) ⟨[], []⟩ ⟨0, l, false, 0⟩ = R at *
    obtain ⟨out, q⟩ := R
    simp only at h h1
    split at h
    · cases h
    · split at h
      · cases h
      · cases h
        intro b hb
        have hv := (h1 b hb).v
        exact ⟨hF b hb, hC b hb, by omega⟩
def plT : Nat → List Bi → List (Str × Nat)
  | _, [] => []
  | i, b :: l => putT b.s i (plT (i + 1) l)
def ledT (T : List (Str × Nat)) (F : List Str) : List Nat := F.filterMap (getT T)
def gphP (l : List Bi) : List (List Nat) := l.map fun b => sortN (ledT (plT 0 l) (frE [] [] b.b))
theorem back_ans (nl : Bool) (bs : List Bi) : Ans ctx 56 [encR 8 nl (encBs bs)] (.fn 88 [.adr (encR 8 nl (encBs bs))]) := by
  have hn : (encR 8 nl (encBs bs)).noRef = true := by simp
  refine Ans.of (σ' := []) fn56_ (by simp [AV.noRefs]) (by simp [AV.noRefs, AV.noRef]) ⟨0, fun N hN => ?_⟩
  have hf : (encR 8 nl (encBs bs)).fits ⟨.slice 37, 1, 24, .nil, []⟩ = true := by
    cases nl <;> cases bs <;> rfl
  simp -implicitDefEqProofs [i56, c56, hf]
theorem bindM_of {α R : Type} {m : M α} {k : α → M R} {σ σ1 : H} {a : α} (h : m σ = some (a, σ1)) : bindM m k σ = k a σ1 := by unfold bindM; rw [h]
theorem den_rng {C : Ctx} {rec : Nat → List AV → M AV} {hp ip : List Nat} {n t p q f : Nat} {keep : List Nat} {asg b : ACode} {fr : Fr} {s : AV} {xs : List AV} (h1 : getS fr.sl t = .v (.fn f [.adr s])) (h2 : ((look f C.back).bind C.ti).bind (fun ti => rowOfA ti s) = some xs) :
    den C rec hp ip n (.rng t p q keep asg b) fr = bindM (rndL (fun i x => bindM (den C rec hp ip n asg (((fr.frz keep).put p (.v (.int .i64 i))).put q (.v x))) fun r => match r.1 with
          | .nrm => bindM (den C rec hp ip n b r.2) fun r => match r.1 with
            | .nrm => pureM ()
            | _ => failM
          | _ => failM) 0 xs) fun _ => pureM (.nrm, fr.frz keep) := by
  simp only [den, h1, h2]
  rfl
theorem one25 (N : Nat) (X0 : AV) (b : Bi) (i : Nat) (T : List (Str × Nat)) (hd : List Nat) :
    bindM (den ctx (acall ctx N) [24, 55] [] N (.seq (.reg [.op ⟨some 4, .assign (.tmp 16), 3⟩]) (.reg [.op ⟨some 5, .alloc 37, 0⟩, .op ⟨none, .store 37 (.tmp 5) (.tmp 17), 0⟩])) (((⟨[(0, .v X0), (3, .v (.adr (.map 0)))], false⟩ : Fr).put 16 (.v (.int .i64 i))).put 17 (.v (encB b)))) (fun r => match r.1 with
          | .nrm => bindM (den ctx (acall ctx N) [24, 55] [] N b25_0 r.2) fun r => match r.1 with
            | .nrm => pureM ()
            | _ => failM
          | _ => failM) [.map (T106.enc T)] = some ((), [.map (T106.enc (putT b.s i T))]) := by
  have hu := T106.up (σ := [.map (T106.enc T)]) (r := 0) (l := T) rfl b.s i
  obtain ⟨s, a, bk, ba, bS, bn, bks, bas⟩ := b
  simp only [encB, cellsE] at hu ⊢
  have e1 : T106.ek s = .str s := rfl
  have e2 : T106.ev i = .int .i64 i := rfl
  rw [e1, e2] at hu
  simp -implicitDefEqProofs [b25_0, hu]
theorem rnd25 (N : Nat) (X0 : AV) : ∀ (l : List Bi) (i : Nat),
    rndL (fun i x => bindM (den ctx (acall ctx N) [24, 55] [] N (.seq (.reg [.op ⟨some 4, .assign (.tmp 16), 3⟩]) (.reg [.op ⟨some 5, .alloc 37, 0⟩, .op ⟨none, .store 37 (.tmp 5) (.tmp 17), 0⟩])) (((⟨[(0, .v X0), (3, .v (.adr (.map 0)))], false⟩ : Fr).put 16 (.v (.int .i64 i))).put 17 (.v x))) (fun r => match r.1 with
          | .nrm => bindM (den ctx (acall ctx N) [24, 55] [] N b25_0 r.2) fun r => match r.1 with
            | .nrm => pureM ()
            | _ => failM
          | _ => failM)) i (encBs l) [.map []] = some ((), [.map (T106.enc (plT i l))])
  | [], i => rfl
  | b :: l, i => by
    have ih := rnd25 N X0 l (i + 1)
    rw [encBs_cons, rndL, bindM_of ih]
    exact one25 N X0 b i (plT (i + 1) l) []
theorem rng25 (bs : List Bi) (nl : Bool) (hl : bs.length ≤ 2 ^ 20) (N : Nat) (X0 : AV) (fr : Fr) (h1 : getS fr.sl 15 = .v (.fn 88 [.adr (encR 8 nl (encBs bs))])) (h2 : fr.frz [0, 3] = ⟨[(0, .v X0), (3, .v (.adr (.map 0)))], false⟩) :
    den ctx (acall ctx N) [24, 55] [] N (.rng 15 16 17 [0, 3] (.seq (.reg [.op ⟨some 4, .assign (.tmp 16), 3⟩]) (.reg [.op ⟨some 5, .alloc 37, 0⟩, .op ⟨none, .store 37 (.tmp 5) (.tmp 17), 0⟩])) b25_0) fr [.map []] =
      some ((.nrm, ⟨[(0, .v X0), (3, .v (.adr (.map 0)))], false⟩), [.map (T106.enc (plT 0 bs))]) := by
  have hfit : ∀ l : List Bi, fitAll ⟨.strct [(0, 9), (1, 3), (2, 35)], 8, 112, .agg [.str [], .int .i64 0, .int .i64 0, .int .i64 0, .str [], .int .i64 0, .nil, .nil], []⟩ (encBs l) = true := fun l => by
    induction l with
    | nil => rfl
    | cons b l ih =>
      obtain ⟨s, a, bk, ba, bS, bn, bks, bas⟩ := b
      rw [encBs_cons, fitAll, ih, Bool.and_true]
      rfl
  have hrow : ((look 88 ctx.back).bind ctx.ti).bind (fun ti => rowOfA ti (encR 8 nl (encBs bs))) = some (encBs bs) := by
    rw [bk88]
    simp only [Option.bind_some, ti37]
    cases nl with
    | false =>
      rw [encR_false, rowOfA, if_pos ⟨rfl, hfit bs, by rw [encBs_length]; omega, by rw [encBs_length]; show bs.length * 112 ≤ _; omega⟩]
    | true =>
      cases bs with
      | nil => rfl
      | cons b l =>
        rw [encBs_cons, encR_cons, ← encBs_cons, rowOfA, if_pos ⟨rfl, hfit _, by rw [encBs_length]; omega, by rw [encBs_length]; show (b :: l).length * 112 ≤ _; omega⟩]
  have hr := rnd25 N X0 bs 0
  rw [← h2] at hr
  rw [den_rng h1 hrow, bindM_of hr, h2]
  rfl
/-! ### plain -/
theorem getT_pl (i : Nat) (b : Bi) (l : List Bi) (s : Str) : getT (plT i (b :: l)) s = if s = b.s then some i else getT (plT (i + 1) l) s := getT_put _ _ _ _
theorem pl_at : ∀ (l : List Bi) (i : Nat) (s : Str) (k : Nat), getT (plT i l) s = some k → i ≤ k ∧ k < i + l.length ∧ (l[k - i]?).map (·.s) = some s
  | [], i, s, k, h => by cases h
  | b :: l, i, s, k, h => by
    rw [getT_pl] at h
    split at h
    · rename_i hs
      cases h
      simp [hs]
    · obtain ⟨h1, h2, h3⟩ := pl_at l (i + 1) s k h
      refine ⟨by omega, by simp; omega, ?_⟩
      rw [show k - i = (k - (i + 1)) + 1 by omega]
      simpa using h3
theorem pl_inj {l : List Bi} {s s' : Str} {k : Nat} (h : getT (plT 0 l) s = some k) (h' : getT (plT 0 l) s' = some k) : s = s' := by
  have h1 := (pl_at l 0 s k h).2.2
  have h2 := (pl_at l 0 s' k h').2.2
  rw [h1] at h2
  exact Option.some.inj h2
theorem mem_led {T : List (Str × Nat)} {F : List Str} {k : Nat} : k ∈ ledT T F ↔ ∃ s ∈ F, getT T s = some k := by
  unfold ledT
  rw [List.mem_filterMap]
theorem led_nodup (l : List Bi) : ∀ F : List Str, F.Nodup → (ledT (plT 0 l) F).Nodup
  | [], _ => by simp [ledT]
  | s :: F, h => by
    rw [List.nodup_cons] at h
    have ih := led_nodup l F h.2
    unfold ledT at *
    rw [List.filterMap_cons]
    split
    · exact ih
    · rename_i k hk
      rw [List.nodup_cons]
      refine ⟨fun hm => ?_, ih⟩
      obtain ⟨s', h1, h2⟩ := List.mem_filterMap.1 hm
      exact h.1 (pl_inj hk h2 ▸ h1)
theorem led_len (T : List (Str × Nat)) (F : List Str) : (ledT T F).length ≤ F.length := List.length_filterMap_le _ _
theorem addF_nodup {k : Nat} {s : Str} {B O : List Str} (h : O.Nodup) : (addF k s B O).Nodup := by
  unfold addF
  split
  · rename_i hc
    rw [List.nodup_append]
    exact ⟨h, by simp, fun a ha b hb => by simp at hb; subst hb; exact fun e => hc.2.2 (e ▸ ha)⟩
  · exact h
mutual
theorem frE_nodup : ∀ (e : Ex) (B O : List Str), O.Nodup → (frE B O e).Nodup
  | .mk k a s n ks as, B, O, h => by
    unfold frE
    exact frA_nodup as B _ (frK_nodup k s ks 0 B _ (addF_nodup h))
theorem frK_nodup (k : Nat) (s : Str) : ∀ (l : List Ex) (i : Nat) (B O : List Str), O.Nodup → (frK k s i B O l).Nodup
  | [], i, B, O, h => by unfold frK; exact h
  | e :: l, i, B, O, h => by
    unfold frK
    refine frK_nodup k s l (i + 1) B _ ?_
    cases bindK k i with
    | true => exact frE_nodup e (s :: B) O h
    | false => exact frE_nodup e B O h
theorem frA_nodup : ∀ (l : List Al) (B O : List Str), O.Nodup → (frA B O l).Nodup
  | [], B, O, h => by unfold frA; exact h
  | .mk a c ns b :: l, B, O, h => by
    unfold frA
    exact frA_nodup l B _ (frE_nodup b (ns ++ B) O h)
end
/-! ### the loop over names -/
theorem idx_in {i n : Nat} (h : i < n) : idxN (i : Int) n = some i := by
  unfold idxN
  rw [if_pos (by omega)]
  simp
set_option maxHeartbeats 2000000 in
theorem lp25_1 (n : Nat) (BS : AV) (T : List (Str × Nat)) (F : List Str) (hF : F.length ≤ 2 ^ 20) (i : Nat) (hi : i < n) (hn : n ≤ 2 ^ 20) : ∀ (r : List Str) (j : Nat) (cells : List AV) (L : List (List Nat)) (la : List Nat) (σ : H), Tail (encSs F) j (encSs r) → Tb σ 1 cells L → σ[0]? = some (.map (T106.enc T)) → ¬ Tb.Owns 1 cells L 0 → L.length = n → L[i]? = some la → la.length + r.length ≤ 2 ^ 20 →
    ∃ fr' cells' σ', Lp ctx [24, 55] [] [3, 6, 7, 25, 26, 27, 34, 35, 36] b25_1 ⟨[(3, .v (.adr (.map 0))), (6, .v (.hs 1 n 0 n 1)), (7, .v (.int .i64 i)), (25, .v BS), (26, .v (.int .i64 n)), (27, .v (.int .i64 i)), (34, .v (encR 1 true (encSs F))), (35, .v (.int .i64 F.length)), (36, .v (.int .i64 j))], false⟩ σ (.ex 4) fr' σ' ∧
      Tb σ' 1 cells' (L.set i (la ++ ledT T r)) ∧ σ'[0]? = some (.map (T106.enc T)) ∧ ¬ Tb.Owns 1 cells' (L.set i (la ++ ledT T r)) 0 ∧ fr'.lk = false ∧ getS fr'.sl 3 = .v (.adr (.map 0)) ∧ getS fr'.sl 6 = .v (.hs 1 n 0 n 1) ∧ getS fr'.sl 7 = .v (.int .i64 i) ∧ getS fr'.sl 25 = .v BS ∧ getS fr'.sl 26 = .v (.int .i64 n) ∧ getS fr'.sl 27 = .v (.int .i64 i) ∧ Hi2 38 65 fr'
  | [], j, cells, L, la, σ, h, hT, h0, ho, hL, ha, hb => by
    have h' := h.nil
    have e : L.set i (la ++ ledT T []) = L := by
      have : la ++ ledT T [] = la := by simp [ledT]
      rw [this]
      obtain ⟨h1, h2⟩ := List.getElem?_eq_some_iff.1 ha
      rw [← h2, List.set_getElem_self]
    rw [e]
    simp only [encSs_length] at h'
    refine ⟨?_, cells, σ, Lp.exit ⟨0, fun N _ => ?_⟩ (by simp), hT, h0, ho, ?_⟩
    rotate_left
    · simp -implicitDefEqProofs [b25_1, h']
      rfl
    · refine ⟨rfl, by simp, by simp, by simp, by simp, by simp, by simp, fun t h1 h2 => ?_⟩
      simp only [getS]
      repeat rw [if_neg (by omega)]
  | s :: r, j, cells, L, la, σ, h, hT, h0, ho, hL, ha, hb => by
    have hlen := h.len
    simp only [encSs_cons] at h
    obtain ⟨g1, g2, g3, g4, g5⟩ := h.cons
    simp at hlen hb
    simp only [encSs_length] at g2 g3
    have hw := wrap_succ (n := j) (by unfold big; omega)
    have g6 := g5 1 true
    have hlk := T106.look2 h0 s
    have hek : T106.ek s = .str s := rfl
    rw [hek] at hlk
    have h0l := (List.getElem?_eq_some_iff.1 h0).1
    rw [g6]
    cases hg : getT T s with
    | none =>
      rw [hg] at hlk
      simp only [Option.getD_none, Option.isSome_none] at hlk
      have hez : T106.ev T106.z = .int .i64 0 := rfl
      rw [hez] at hlk
      have hled : ledT T (s :: r) = ledT T r := by unfold ledT; rw [List.filterMap_cons, hg]
      rw [hled]
      obtain ⟨fr', cells', σ', l1, l2⟩ := lp25_1 n BS T F hF i hi hn r (j + 1) cells L la σ g4 hT h0 ho hL ha (by omega)
      rw [g6] at l1
      refine ⟨fr', cells', σ', Lp.step ⟨0, fun N hN => ?_⟩ l1, l2⟩
      clear l1 l2 hT
      simp -implicitDefEqProofs [b25_1, g1, g2, g3, hw, hlk]
    | some v =>
      rw [hg] at hlk
      simp only [Option.getD_some, Option.isSome_some] at hlk
      have hez : T106.ev v = .int .i64 v := rfl
      rw [hez] at hlk
      have hled : ledT T (s :: r) = v :: ledT T r := by unfold ledT; rw [List.filterMap_cons, hg]
      obtain ⟨q, q', σ1, c', p1, p2, p3, p4, p5, p6, p7⟩ := hT.push ha v (by omega)
      unfold tiI at p2
      obtain ⟨z1, z2⟩ := p6 0 h0l ho
      have hcl : cells.length = n := by rw [hT.len, hL]
      have ht := hT.tab
      have hiA := idx_in hi
      have hf : c'.fits ⟨.slice 3, 1, 24, .nil, []⟩ = true := by rw [p3, rowV_fits]; rfl
      have hc' : c'.cells = [c'] := by rw [p3]; rfl
      have hil : i < L.length := by omega
      obtain ⟨fr', cells', σ', l1, l2, l3, l4, l5⟩ := lp25_1 n BS T F hF i hi hn r (j + 1) _ _ (la ++ [v]) _ g4 p5 (by rw [List.getElem?_set_ne (by omega), z1]; exact h0) z2 (by simpa using hL) (by rw [List.getElem?_set_self hil]) (by simp; omega)
      have e : (L.set i (la ++ [v])).set i (la ++ [v] ++ ledT T r) = L.set i (la ++ ledT T (s :: r)) := by rw [List.set_set, hled]; simp
      rw [e] at l2 l4
      rw [g6] at l1
      refine ⟨fr', cells', σ', Lp.step ⟨0, fun N hN => ?_⟩ l1, l2, l3, l4, l5⟩
      clear l1 l2 l3 l4 l5 p5 hT
      simp -implicitDefEqProofs [b25_1, g1, g2, g3, hw, hlk, ht, hcl, hiA, p1, p2, p4, hf, hc', -appendH]
/-! ### the loop over Binds -/
def rowG (T : List (Str × Nat)) (b : Bi) : List Nat := sortN (ledT T (frE [] [] b.b))
set_option maxHeartbeats 2000000 in
theorem lp25_2 (bs : List Bi) (nl : Bool) (hn : bs.length ≤ 2 ^ 20) : ∀ (r : List Bi) (i : Nat) (cells : List AV) (D : List (List Nat)) (σ : H), Tail (encBs bs) i (encBs r) → Tb σ 1 cells (D ++ List.replicate r.length []) → D.length = i → σ[0]? = some (.map (T106.enc (plT 0 bs))) → ¬ Tb.Owns 1 cells (D ++ List.replicate r.length []) 0 → (∀ b ∈ r, okG b) →
    ∃ fr' cells' σ', Lp ctx [24, 55] [] [3, 6, 25, 26, 27] b25_2 ⟨[(3, .v (.adr (.map 0))), (6, .v (.hs 1 bs.length 0 bs.length 1)), (25, .v (encR 8 nl (encBs bs))), (26, .v (.int .i64 bs.length)), (27, .v (.int .i64 i))], false⟩ σ (.ex 2) fr' σ' ∧
      Tb σ' 1 cells' (D ++ r.map (rowG (plT 0 bs))) ∧ fr'.lk = false ∧ getS fr'.sl 6 = .v (.hs 1 bs.length 0 bs.length 1) ∧ getS fr'.sl 2 = .u ∧ getS fr'.sl 64 = .u
  | [], i, cells, D, σ, h, hT, hD, h0, ho, _ => by
    have h' := h.nil
    simp only [encBs_length] at h'
    refine ⟨?_, cells, σ, Lp.exit ⟨0, fun N _ => ?_⟩ (by simp), by simpa using hT, ?_⟩
    rotate_left
    · simp -implicitDefEqProofs [b25_2, h']
      rfl
    · exact ⟨rfl, by simp [h'], by simp, by simp⟩
  | b :: r, i, cells, D, σ, h, hT, hD, h0, ho, hok => by
    have hlen := h.len
    simp only [encBs_cons] at h
    obtain ⟨g1, g2, g3, g4, g5⟩ := h.cons
    simp at hlen
    simp only [encBs_length] at g2 g3
    have hw := wrap_succ (n := i) (by unfold big; omega)
    have g6 := g5 8 nl
    have hb := hok b (by simp)
    have hFl := frE_len b.b [] []
    have hv := hb.v
    simp only [List.length_nil, Nat.zero_add] at hFl
    obtain ⟨kf, hkf⟩ := free_ans b.b hb.f
    obtain ⟨F, hFe⟩ : ∃ F, F = frE [] [] b.b := ⟨_, rfl⟩
    rw [← hFe] at hkf hFl
    have hFn : F.Nodup := by rw [hFe]; exact frE_nodup b.b [] [] List.nodup_nil
    have hLl : (D ++ List.replicate (b :: r).length ([] : List Nat)).length = bs.length := by simp; omega
    have hLi : (D ++ List.replicate (b :: r).length ([] : List Nat))[i]? = some [] := by
      rw [List.getElem?_append_right (by omega), hD, Nat.sub_self]
      simp [List.replicate_succ]
    have hset : ∀ x : List Nat, (D ++ List.replicate (b :: r).length ([] : List Nat)).set i x = (D ++ [x]) ++ List.replicate r.length [] := fun x => by
      rw [List.set_append_right _ _ (by omega), hD, Nat.sub_self]
      simp [List.replicate_succ]
    obtain ⟨fr1, c1, σ1, m1, m2, m3, m4, m5, m6, m7, m8, m9, m10, m11, m12⟩ := lp25_1 bs.length (encR 8 nl (encBs bs)) (plT 0 bs) F (by omega) i (by omega) hn F 0 cells _ [] σ (Tail.all _) hT h0 ho hLl hLi (by simp; omega)
    obtain ⟨k1, hk1⟩ := m1.den
    unfold Hi2 at m12
    rw [hset, List.nil_append] at m2 m4
    have hnd := led_nodup bs F hFn
    have hll := led_len (plT 0 bs) F
    have hrow : ((D ++ [ledT (plT 0 bs) F]) ++ List.replicate r.length ([] : List Nat))[i]? = some (ledT (plT 0 bs) F) := by
      rw [List.append_assoc, List.getElem?_append_right (by omega), hD, Nat.sub_self]
      simp
    obtain ⟨c, σ2, n1, n2, n3, n4, n5⟩ := m2.sort hrow hnd (by omega)
    obtain ⟨k2, hk2⟩ := n2
    have hset2 : ((D ++ [ledT (plT 0 bs) F]) ++ List.replicate r.length ([] : List Nat)).set i (sortN (ledT (plT 0 bs) F)) = (D ++ [sortN (ledT (plT 0 bs) F)]) ++ List.replicate r.length [] := by
      rw [List.append_assoc, List.set_append_right _ _ (by omega), hD, Nat.sub_self]
      simp
    have h0l : 0 < σ1.length := (List.getElem?_eq_some_iff.1 m3).1
    have hown2 : ¬ Tb.Owns 1 c1 ((D ++ [sortN (ledT (plT 0 bs) F)]) ++ List.replicate r.length []) 0 := by
      rintro (e | ⟨x, l, e1, e2, e3⟩)
      · omega
      · refine m4 (.inr ?_)
        rw [← hset2] at e1
        by_cases hxi : i = x
        · subst hxi
          rw [List.getElem?_set_self (List.getElem?_eq_some_iff.1 hrow).1] at e1
          simp only [Option.some.injEq] at e1
          subst e1
          refine ⟨i, _, hrow, fun e => e2 (by rw [e]; rfl), ?_⟩
          rw [sortN_len] at e3
          exact e3
        · rw [List.getElem?_set_ne hxi] at e1
          exact ⟨x, l, e1, e2, e3⟩
    rw [hset2] at n3
    obtain ⟨fr', cells', σ', l1, l2, l3⟩ := lp25_2 bs nl hn r (i + 1) c1 (D ++ [sortN (ledT (plT 0 bs) F)]) σ2 g4 n3 (by simp; omega) (by rw [n5 0 h0l m4]; exact m3) hown2 (fun x hx => hok x (by simp [hx]))
    rw [g6] at l1 hk1
    have hres : D ++ [sortN (ledT (plT 0 bs) F)] ++ r.map (rowG (plT 0 bs)) = D ++ (b :: r).map (rowG (plT 0 bs)) := by
      rw [List.map_cons, rowG, ← hFe]; simp
    rw [hres] at l2
    have ht := m2.tab
    have hcl : c1.length = bs.length := by rw [m2.len]; simp; omega
    have hiA := idx_in (i := i) (n := bs.length) (by omega)
    have hcf : c.fits ⟨.slice 3, 1, 24, .nil, []⟩ = true := by
      obtain ⟨q, y1, _⟩ := m2.at' i _ hrow
      rw [n1] at y1
      cases y1
      rw [rowV_fits]; rfl
    simp only [Int.cast_ofNat_Int] at hk1
    rw [g6]
    refine ⟨fr', cells', σ', Lp.step ⟨kf + k1 + k2, fun N hN => ?_⟩ l1, l2, l3⟩
    have hkf := hkf N (by omega)
    have hk1 := hk1 N (by omega)
    have hk2 := hk2 N (by omega)
    clear l1 l2 l3 n3 m2 m1 hT
    obtain ⟨s, a, bk, ba, bS, bn, bks, bas⟩ := b
    simp only [encB, cellsE] at g1 hk1
    simp only [encE_mk] at hkf
    simp -implicitDefEqProofs [b25_2, encB, cellsE, g1, g2, g3, g6, hw, hkf, hk1, m5, m6, m7, m8, m9, m10, m11, m12, ht, hcl, hiA, n1, hcf, hk2]
theorem graph_ans (bs : List Bi) (nl : Bool) (hn : bs.length ≤ 2 ^ 20) (hok : ∀ b ∈ bs, okG b) : Ans ctx 25 [encR 8 nl (encBs bs)] (.sl 1 (encU (gphP bs))) := by
  obtain ⟨kb, hkb⟩ := back_ans nl bs
  have hT0 := Tb.make [.map (T106.enc (plT 0 bs))] bs.length
  have ho : ¬ Tb.Owns 1 (List.replicate bs.length .nil) (List.replicate bs.length []) 0 := by
    rintro (e | ⟨x, l, e1, e2, _⟩)
    · omega
    · rw [List.getElem?_replicate] at e1
      split at e1
      · cases e1; exact e2 rfl
      · cases e1
  obtain ⟨fr', cells', σ', l1, l2, l3, l4, l5, l6⟩ := lp25_2 bs nl hn bs 0 _ [] _ (Tail.all _) hT0 rfl rfl ho hok
  obtain ⟨k, hk⟩ := l1.den
  rw [List.nil_append] at l2
  obtain ⟨ns, hsn⟩ := l2.snap (n := bs.length) (by simp) 198
  have hrow : rowG (plT 0 bs) = fun b => sortN (ledT (plT 0 bs) (frE [] [] b.b)) := rfl
  unfold gphP
  rw [← hrow]
  refine Ans.fn (rs := []) (σ' := σ') fn25_ (by simp [AV.noRefs]) ⟨kb + k, fun N hN => ?_⟩ hsn
  have hkb := hkb N (by omega)
  have hk := hk N (by omega)
  have hr := rng25 bs nl hn N (encR 8 nl (encBs bs))
  simp only [Int.cast_ofNat_Int, List.cons_append, List.nil_append, List.length_singleton] at hk
  have hbg : bs.length * 24 ≤ 35184372088832 ∧ bs.length ≤ 35184372088832 := by omega
  have hfit := fitAll_replicate ⟨.slice 3, 1, 24, .nil, []⟩ .nil rfl bs.length
  have hlen8 : lenM (encR 8 nl (encBs bs)) = pureM (.int .i64 bs.length) := by simp
  have hok8 : ∀ e, lenOk (.slice e) (encR 8 nl (encBs bs)) = true := fun e => by simp
  simp -implicitDefEqProofs [i25, c25, hkb, hr, hk, l3, l4, l5, l6, hbg, hfit, hlen8, hok8]
def othN (s : Str) (P : List Bi) : Bool := P.all fun a => !(a.s == s)
theorem getT_pl_iff (s : Str) : ∀ (l : List Bi) (i x : Nat), getT (plT i l) s = some x ↔ ∃ j b, l[j]? = some b ∧ x = i + j ∧ b.s = s ∧ othN s (l.take j) = true
  | [], i, x => by simp [plT]
  | b :: l, i, x => by
    rw [getT_pl]
    by_cases hs : s = b.s
    · rw [if_pos hs]
      constructor
      · intro h
        cases h
        exact ⟨0, b, rfl, by omega, hs.symm, by simp [othN]⟩
      · rintro ⟨j, c, h1, h2, h3, h4⟩
        cases j with
        | zero => simp [h2]
        | succ j =>
          simp [othN, hs] at h4
    · rw [if_neg hs, getT_pl_iff s l (i + 1) x]
      constructor
      · rintro ⟨j, c, h1, h2, h3, h4⟩
        refine ⟨j + 1, c, by simpa using h1, by omega, h3, ?_⟩
        simp only [List.take_succ_cons, othN, List.all_cons, Bool.and_eq_true] at h4 ⊢
        refine ⟨?_, h4⟩
        have : (b.s == s) = false := by rw [beq_eq_false_iff_ne]; exact fun e => hs e.symm
        rw [this]; rfl
      · rintro ⟨j, c, h1, h2, h3, h4⟩
        cases j with
        | zero =>
          simp at h1
          subst h1
          exact absurd h3.symm hs
        | succ j =>
          refine ⟨j, c, by simpa using h1, by omega, h3, ?_⟩
          simp only [List.take_succ_cons, othN, List.all_cons, Bool.and_eq_true] at h4
          exact h4.2
theorem decl_blen (E n : Nat) (out : Pg) (p : PS) : (decl E n out p).1.bs.length ≤ out.bs.length + 1 := by
  unfold decl
  split <;> simp
theorem decls_blen (E n : Nat) : ∀ (m : Nat) (out : Pg) (p : PS), (decls E n m out p).1.bs.length ≤ out.bs.length + m
  | 0, out, p => by simp [decls]
  | m + 1, out, p => by
    simp only [decls]
    split
    · have h1 := decl_blen E n out p
      have h2 := decls_blen E n m (decl E n out p).1 (decl E n out p).2
      omega
    · simp only; omega
theorem parse_lenB {s : Str} {p : Pg} (h : parse s = .ok p) : p.bs.length ≤ 65537 := by
  unfold parse at h
  cases hl : lex s with
  | bad e a => rw [hl] at h; cases h
  | ok l =>
    rw [hl] at h
    simp only at h
    have hlen := tl_lex s hl
    have h1 := decls_blen s.length (8 * l.length + 40) (l.length + 1) ⟨[], []⟩ ⟨0, l, false, 0⟩
    generalize decls s.length (8 * l.length + 40) (l.length + 1) ⟨[], []⟩ ⟨0, l, false, 0⟩ = R at *
    obtain ⟨out, q⟩ := R
    simp only [List.length_nil] at h h1
    split at h
    · cases h
    · split at h
      · cases h
      · cases h
        omega
end Go.Am.Try
