/- Layer 17: Canon. -/
import Derived.Test.YtmhggdoanajboaaDoorLm
set_option maxRecDepth 100000
set_option maxHeartbeats 2000000
set_option linter.unusedSimpArgs false
namespace Go.Am.Tryd
open Go
def esC : List Nat → Nat → List (AV × AV)
  | [], _ => []
  | a :: l, i => (.int .i64 (a : Int), .int .i64 (i : Int)) :: esC l (i + 1)
theorem esC_append : ∀ (l : List Nat) (m i : Nat), esC (l ++ [m]) i = esC l i ++ [(.int .i64 (m : Int), .int .i64 ((i + l.length : Nat) : Int))]
  | [], m, i => by simp [esC]
  | a :: l, m, i => by
    simp only [List.cons_append, esC, esC_append l m (i + 1), List.length_cons]
    rw [show i + 1 + l.length = i + (l.length + 1) by omega]
theorem find_esC (m : Nat) : ∀ (l : List Nat) (i q : Nat), (m ∉ l ∧ findIdx ⟨.int .i64, 1, 8, .int .i64 0, [.int .i64]⟩ (.int .i64 m) q (esC l i) = some none) ∨ (m ∈ l ∧ ∃ j, findIdx ⟨.int .i64, 1, 8, .int .i64 0, [.int .i64]⟩ (.int .i64 m) q (esC l i) = some (some (j, .int .i64 (placeN l m i))))
  | [], i, q => .inl ⟨by simp, rfl⟩
  | a :: l, i, q => by
    have he : eqA [.int .i64] (.int .i64 (m : Int)) (.int .i64 (a : Int)) = some (m == a) := by
      simp [eqA, eqLeaves, eqLeaf, nat_eq']
    by_cases h : m = a
    · right
      subst h
      refine ⟨by simp, q, ?_⟩
      rw [show (m == m) = true by simp] at he
      simp [esC, findIdx, he, placeN]
    · rw [show (m == a) = false by simpa using h] at he
      have e : findIdx ⟨.int .i64, 1, 8, .int .i64 0, [.int .i64]⟩ (.int .i64 m) q (esC (a :: l) i) = findIdx ⟨.int .i64, 1, 8, .int .i64 0, [.int .i64]⟩ (.int .i64 m) (q + 1) (esC l (i + 1)) := by
        simp [esC, findIdx, he]
      rw [e, show placeN (a :: l) m i = placeN l m (i + 1) by simp only [placeN]; rw [if_neg (fun e => h e.symm)]]
      rcases find_esC m l (i + 1) (q + 1) with ⟨h1, h2⟩ | ⟨h1, h2⟩
      · exact .inl ⟨by simp [h, h1], h2⟩
      · exact .inr ⟨by simp [h1], h2⟩
theorem map58 : mapOf ctx 66 = some (⟨.int .i64, 1, 8, .int .i64 0, [.int .i64]⟩, ⟨.int .i64, 1, 8, .int .i64 0, [.int .i64]⟩) := by rfl
theorem look58 (m : Nat) (l : List Nat) (h : m ∈ l) (σ : H) : lookupA ctx 66 (.map 0) (.int .i64 m) false (.map (esC l 0) :: σ) = some (.int .i64 (placeN l m 0), .map (esC l 0) :: σ) := by
  unfold lookupA
  rw [map58]
  rcases find_esC m l 0 0 with ⟨h1, h2⟩ | ⟨h1, j, h2⟩
  · exact absurd h h1
  · simp [keyOk, h2, backA]
theorem up58 (m : Nat) (l : List Nat) (h : m ∉ l) (σ : H) : updateA ctx 66 (.map 0) (.int .i64 m) (.int .i64 l.length) (.map (esC l 0) :: σ) = some ((), .map (esC (l ++ [m]) 0) :: σ) := by
  unfold updateA
  rw [map58]
  rcases find_esC m l 0 0 with ⟨h1, h2⟩ | ⟨h1, j, h2⟩
  · rw [esC_append]
    simp [keyOk, h2]
  · exact absurd h1 h
def base (l : List Nat) : H := [.map (esC l 0), .arr false 1 [.map 0]]
theorem do39 (l : List Nat) (m : Nat) (h : m ∈ l) (τ : H) : AnsH ctx 47 [.int .i64 m, .ptr 1 1 0 0] (base l ++ τ) (.tup [encT (varT (placeN l m 0).toNat), .bool true]) (base l ++ τ) := by
  have h1 := fun σ => look58 m l h σ
  have hp : ¬ placeN l m 0 < 0 := fun h' => (placeN_iff l m 0).1 h' h
  obtain ⟨j, hj⟩ : ∃ j : Nat, placeN l m 0 = j := ⟨(placeN l m 0).toNat, by omega⟩
  rw [hj] at h1 ⊢
  refine AnsH.of fn47_ (by simp) (by simp [snapL, mapO2, snapA]) (by simp) ⟨0, fun N _ => ?_⟩
  simp only [base, List.cons_append, List.nil_append]
  generalize esC l 0 = E at *
  simp [i47, c47, h1, varT, encT]
theorem setC (σ τ : H) (x y : HObj) : (σ ++ x :: τ).set σ.length y = σ ++ y :: τ := by simp
theorem getC (σ τ : H) (x : HObj) : (σ ++ x :: τ)[σ.length]? = some x := by simp
theorem lp30H (g : Nat) (caps : List AV) (K N S : AV) (d : Int → Option Ty) (Pre : H → Prop) (hpre : ∀ σ τ, Pre σ → Pre (σ ++ τ)) (σ : H) (M : Nat) (hM : M < 2 ^ 39) (hσ : Pre σ) : ∀ (rest : List Ty) (p : List AV) (i : Nat) (τ : H), p.length = i → i + rest.length = M → (∀ a ∈ rest, ∀ σ, Pre σ → ∃ τ, AnsH ctx 44 [encT a, .fn g caps] σ (encT (turnedT d a)) (σ ++ τ)) →
    ∃ fr' τ', Lp ctx [] [] [1, 2, 4, 27, 28, 29] b44_0 ⟨[(1, .v (.fn g caps)), (2, .bx (.agg [K, N, S, .hs σ.length M 0 M 4])), (4, .bx (.agg [.int .i64 0, .int .i64 0, .str [], .nil])), (27, .v (.hs σ.length M 0 M 4)), (28, .v (.int .i64 M)), (29, .v (.int .i64 i))], false⟩ (σ ++ .arr false 4 (p ++ encTs rest) :: τ) (.ex 0) fr' (σ ++ .arr false 4 (p ++ encTs (turnedTs d rest)) :: τ') ∧
      fr'.lk = false ∧ getS fr'.sl 2 = .bx (.agg [K, N, S, .hs σ.length M 0 M 4]) ∧ getS fr'.sl 4 = .bx (.agg [.int .i64 0, .int .i64 0, .str [], .nil]) ∧ getS fr'.sl 42 = .u
  | [], p, i, τ, hp, hi, _ => by
    have hi : i = M := by simpa using hi
    subst hi
    refine ⟨?_, τ, Lp.exit ⟨0, fun N _ => ?_⟩ (by simp), ?_⟩
    rotate_left
    · simp [b44_0, turnedTs]
      rfl
    · simp
  | a :: r, p, i, τ, hp, hi, ha => by
    obtain ⟨τ1, k, hk⟩ := ha a (by simp) (σ ++ .arr false 4 (p ++ encTs (a :: r)) :: τ) (hpre _ _ hσ)
    simp at hi
    have hlt : i < M := by omega
    have hw := wrap_succ (n := i) (by unfold big; omega)
    have hix : idxN (i : Int) M = some i := by unfold idxN; rw [if_pos (by omega)]; simp
    subst hp
    obtain ⟨fr', τ2, h1, h2⟩ := lp30H g caps K N S d Pre hpre σ M hM hσ r (p ++ [encT (turnedT d a)]) (p.length + 1) (τ ++ τ1) (by simp) (by omega) (fun x hx => ha x (by simp [hx]))
    simp only [List.append_assoc, List.singleton_append] at h1
    simp only [turnedTs, encTs_cons]
    refine ⟨fr', τ2, Lp.step ⟨k, fun N hN => ?_⟩ h1, h2⟩
    have hk := hk N hN
    simp only [encTs_cons, List.append_assoc, List.cons_append] at hk
    have hpl : p.length + (r.length + 1) = M := by omega
    have e1 := getC σ τ (.arr false 4 (p ++ encT a :: encTs r))
    have e2 := getC σ (τ ++ τ1) (.arr false 4 (p ++ encT a :: encTs r))
    have e3 := setC σ (τ ++ τ1) (.arr false 4 (p ++ encT a :: encTs r)) (.arr false 4 (p ++ encT (turnedT d a) :: encTs r))
    have e4 : (p ++ encT a :: encTs r).length = M := by simp; omega
    have e5 : (p ++ encT a :: encTs r)[p.length]? = some (encT a) := by simp
    have e6 : (p ++ encT a :: encTs r).set p.length (encT (turnedT d a)) = p ++ encT (turnedT d a) :: encTs r := by simp
    have hRf : ∀ ti : TI, (encT (turnedT d a)).fits ti = (ti.k.isAgg && 4 == ti.size) := fun ti => fits_encT _ ti
    generalize encT (turnedT d a) = R at *
    simp [b44_0, hlt, hw, hix, hk, hpl, hRf]
theorem frz_mid (σ τ : H) (ys : List AV) : frzH (σ ++ .arr false 4 ys :: τ) [σ.length] = σ ++ .arr true 4 ys :: τ := by
  simp [frzH]
mutual
theorem turnedH (g : Nat) (caps : List AV) (hcaps : AV.noRefs caps = false) (hsn : ∀ σ, snapL σ caps = none) (d : Int → Option Ty) (Pre : H → Prop) (hpre : ∀ σ τ, Pre σ → Pre (σ ++ τ)) (l : List Nat)
    (hd : ∀ (m : Nat) (u : Ty), m ∈ l → ∀ σ, Pre σ → ∃ u, d m = some u ∧ AnsH ctx g (.int .i64 m :: caps) σ (.tup [encT u, .bool true]) σ) :
    ∀ (t : Ty), cl t → memV l t → ∀ σ, Pre σ → ∃ τ, AnsH ctx 44 [encT t, .fn g caps] σ (encT (turnedT d t)) (σ ++ τ)
  | .mk k n s nl ks, hcl, hm, σ, hσ => by
    simp only [cl] at hcl
    simp only [memV] at hm
    obtain ⟨_, hl, hks⟩ := hcl
    have hnr : AV.noRefs [encT (.mk k n s nl ks), .fn g caps] = false := by simp [hcaps]
    have hsl : snapL σ [encT (.mk k n s nl ks), .fn g caps] = none := by
      have h1 : snapA σ 200 (.fn g caps) = none := by
        unfold snapA
        rw [if_neg (by simp [AV.noRef, hcaps])]
      simp only [snapL, mapO2, h1]
      cases snapA σ 200 (encT (.mk k n s nl ks)) <;> rfl
    by_cases hk : k = 1
    · obtain ⟨h0, hmem⟩ := hm.1 hk
      obtain ⟨m, rfl⟩ : ∃ m : Nat, n = m := ⟨n.toNat, by omega⟩
      obtain ⟨u, hdu, q, hq⟩ := hd m noTy hmem σ hσ
      rw [show turnedT d (.mk k m s nl ks) = u by simp [turnedT, hk, hdu]]
      refine ⟨[], ?_⟩
      rw [List.append_nil]
      refine AnsH.of fn44_ hnr hsl (by simp) ⟨q, fun N hN => ?_⟩
      have hq := hq N hN
      have hUf : ∀ ti : TI, (encT u).fits ti = (ti.k.isAgg && 4 == ti.size) := fun ti => fits_encT _ ti
      generalize encT u = U at *
      simp [i44, c44, encT, hk, hq, hUf]
    · have hk' : (k == 1) = false := by simpa using hk
      rw [show turnedT d (.mk k n s nl ks) = .mk k n s nl (turnedTs d ks) by simp [turnedT, hk]]
      cases ks with
      | nil =>
       cases nl with
       | false =>
        obtain ⟨fr', h1, h2, h3, h4, h5⟩ : ∃ fr', Lp ctx [] [] [1, 2, 4, 27, 28, 29] b44_0 ⟨[(1, .v (.fn g caps)), (2, .bx (.agg [.int .i64 k, .int .i64 n, .str s, .hs σ.length 0 0 0 4])), (4, .bx (.agg [.int .i64 0, .int .i64 0, .str [], .nil])), (27, .v (.hs σ.length 0 0 0 4)), (28, .v (.int .i64 0)), (29, .v (.int .i64 0))], false⟩ (σ ++ [.arr false 4 []]) (.ex 0) fr' (σ ++ [.arr false 4 []]) ∧ fr'.lk = false ∧ getS fr'.sl 2 = .bx (.agg [.int .i64 k, .int .i64 n, .str s, .hs σ.length 0 0 0 4]) ∧ getS fr'.sl 4 = .bx (.agg [.int .i64 0, .int .i64 0, .str [], .nil]) ∧ getS fr'.sl 42 = .u := by
          refine ⟨?_, Lp.exit ⟨0, fun N _ => ?_⟩ (by simp), ?_⟩
          rotate_left
          · simp [b44_0]
            rfl
          · simp
        obtain ⟨q1, hq1⟩ := h1.den
        obtain ⟨q2, hq2⟩ : AnsH ctx 66 [.sl 4 []] σ (.hs σ.length 0 0 0 4) (σ ++ [.arr false 4 []]) := AnsH.prim fn66_ rfl rfl (clone_empty σ)
        refine ⟨[.arr true 4 []], ?_⟩
        have hz := frz_mid σ [] []
        rw [← hz]
        refine AnsH.fn fn44_ hnr hsl ⟨max q1 q2, fun N hN => ?_⟩ ?_ (r' := .agg [.int .i64 k, .int .i64 n, .str s, .hs σ.length 0 0 0 4])
        · have hq2 := hq2 N (by omega)
          have hq1 := hq1 N (by omega)
          simp [i44, c44, encT, hk', turnedTs, hq1, hq2, h2, h3, h4, h5]
        · have hh : (σ ++ [HObj.arr false 4 []])[σ.length]? = some (.arr false 4 (encTs [])) := by rw [encTs_nil]; exact getC σ [] _
          have := snap_kidsG (σ ++ [.arr false 4 []]) σ.length false k n s [] 0 hh rfl
          rw [show turnedTs d [] = [] from rfl]
          exact this
       | true =>
        obtain ⟨fr', h1, h2, h3, h4, h5⟩ : ∃ fr', Lp ctx [] [] [1, 2, 4, 27, 28, 29] b44_0 ⟨[(1, .v (.fn g caps)), (2, .bx (.agg [.int .i64 k, .int .i64 n, .str s, .nil])), (4, .bx (.agg [.int .i64 0, .int .i64 0, .str [], .nil])), (27, .v .nil), (28, .v (.int .i64 0)), (29, .v (.int .i64 0))], false⟩ σ (.ex 0) fr' σ ∧ fr'.lk = false ∧ getS fr'.sl 2 = .bx (.agg [.int .i64 k, .int .i64 n, .str s, .nil]) ∧ getS fr'.sl 4 = .bx (.agg [.int .i64 0, .int .i64 0, .str [], .nil]) ∧ getS fr'.sl 42 = .u := by
          refine ⟨?_, Lp.exit ⟨0, fun N _ => ?_⟩ (by simp), ?_⟩
          rotate_left
          · simp [b44_0]
            rfl
          · simp
        obtain ⟨q1, hq1⟩ := h1.den
        obtain ⟨q2, hq2⟩ : AnsH ctx 66 [.nil] σ .nil σ := AnsH.prim fn66_ rfl rfl (clone_nil σ)
        refine ⟨[], ?_⟩
        rw [List.append_nil]
        refine AnsH.of fn44_ hnr hsl (by simp) ⟨max q1 q2, fun N hN => ?_⟩
        have hq2 := hq2 N (by omega)
        have hq1 := hq1 N (by omega)
        simp [i44, c44, encT, hk', turnedTs, hq1, hq2, h2, h3, h4, h5]
      | cons a r =>
        have hall := turnedH_all g caps hcaps hsn d Pre hpre l hd (a :: r) hks (hm.2 hk)
        obtain ⟨fr', τ', h1, h2, h3, h4, h5⟩ := lp30H g caps (.int .i64 k) (.int .i64 n) (.str s) d Pre hpre σ (r.length + 1) (by simp at hl; omega) hσ (a :: r) [] 0 [] rfl (by simp) hall
        obtain ⟨q1, hq1⟩ := h1.den
        obtain ⟨q2, hq2⟩ := clone_ans σ a r (by simp at hl; omega)
        refine ⟨.arr true 4 (encTs (turnedTs d (a :: r))) :: τ', ?_⟩
        rw [← frz_mid, encT_flag' k n s (turnedTs d (a :: r)) (by simp [turnedTs]) nl true]
        refine AnsH.fn fn44_ hnr hsl ⟨max q1 q2, fun N hN => ?_⟩ ?_ (r' := .agg [.int .i64 k, .int .i64 n, .str s, .hs σ.length (r.length + 1) 0 (r.length + 1) 4])
        · have hq2 := hq2 N (by omega)
          have hq1 := hq1 N (by omega)
          simp only [List.nil_append, encTs_cons] at hq1
          simp [i44, c44, encT, hk', turnedTs, hq1, hq2, h2, h3, h4, h5]
        · have := snap_kidsG (σ ++ .arr false 4 (encTs (turnedTs d (a :: r))) :: τ') σ.length false k n s (turnedTs d (a :: r)) (r.length + 1) (getC _ _ _) (by simp [turnedTs_length])
          rw [this, encT_flag' k n s _ (by simp [turnedTs]) false true]
theorem turnedH_all (g : Nat) (caps : List AV) (hcaps : AV.noRefs caps = false) (hsn : ∀ σ, snapL σ caps = none) (d : Int → Option Ty) (Pre : H → Prop) (hpre : ∀ σ τ, Pre σ → Pre (σ ++ τ)) (l : List Nat)
    (hd : ∀ (m : Nat) (u : Ty), m ∈ l → ∀ σ, Pre σ → ∃ u, d m = some u ∧ AnsH ctx g (.int .i64 m :: caps) σ (.tup [encT u, .bool true]) σ) :
    ∀ (ks : List Ty), cls ks → memVs l ks → ∀ a ∈ ks, ∀ σ, Pre σ → ∃ τ, AnsH ctx 44 [encT a, .fn g caps] σ (encT (turnedT d a)) (σ ++ τ)
  | [], _, _, a, ha => by simp at ha
  | t :: r, hc, hm, a, ha => by
    rcases List.mem_cons.1 ha with h | ha
    · rw [h]; exact turnedH g caps hcaps hsn d Pre hpre l hd t hc.1 hm.1
    · exact turnedH_all g caps hcaps hsn d Pre hpre l hd r hc.2 hm.2 a ha
end
theorem lp22 (T : AV) (vs : List Nat) (nl : Bool) (hb : vs.length < big) (hnd : vs.Nodup) : ∀ (rest pre : List Nat), vs = pre ++ rest →
    ∃ fr', Lp ctx [3] [] [1, 2, 3, 8, 9, 10] b18_0 ⟨[(1, .bx T), (2, .bx (.agg [.int .i64 0, .int .i64 0, .str [], .nil])), (3, .v (.ptr 1 1 0 0)), (8, .v (encR 1 nl (encI vs))), (9, .v (.int .i64 vs.length)), (10, .v (.int .i64 pre.length))], false⟩ (base pre) (.ex 0) fr' (base vs) ∧
      fr'.lk = false ∧ getS fr'.sl 1 = .bx T ∧ getS fr'.sl 2 = .bx (.agg [.int .i64 0, .int .i64 0, .str [], .nil]) ∧ getS fr'.sl 3 = .v (.ptr 1 1 0 0) ∧ getS fr'.sl 19 = .u ∧ getS fr'.sl 20 = .u ∧ getS fr'.sl 21 = .u
  | [], pre, h => by
    have h : vs = pre := by simpa using h
    subst h
    refine ⟨?_, Lp.exit ⟨0, fun N _ => ?_⟩ (by simp), ?_⟩
    rotate_left
    · simp [b18_0]
      rfl
    · simp
  | a :: r, pre, h => by
    have hna : a ∉ pre := by
      rw [h] at hnd
      intro ha
      exact (List.nodup_append.1 hnd).2.2 a ha a (by simp) rfl
    obtain ⟨fr', q1, q2⟩ := lp22 T vs nl hb hnd r (pre ++ [a]) (by simp [h])
    have ht : Tail (encI vs) pre.length (encI (a :: r)) := ⟨encI pre, by simp, by rw [h, encI_append]⟩
    simp only [encI_cons] at ht
    obtain ⟨g1, g2, g3, g4, g5⟩ := ht.cons
    have hl : vs.length = pre.length + (r.length + 1) := by rw [h]; simp
    have hw : IntKind.i64.wrap ((pre.length : Int) + 1) = (pre.length : Int) + 1 := wrap_i64 (by unfold big at hb; omega)
    have hu := fun σ => up58 a pre hna σ
    simp only [encI_length] at g2 g3
    refine ⟨fr', Lp.step ⟨0, fun N _ => ?_⟩ q1, q2⟩
    simp only [base]
    generalize esC (pre ++ [a]) 0 = E' at *
    generalize esC pre 0 = E at *
    simp [b18_0, g1, g2, g3, g5, hw, hu]
mutual
theorem varsT_nodup : ∀ (t : Ty) (out : List Nat), out.Nodup → (varsT out t).Nodup
  | .mk k n s nl ks, out, h => by
    simp only [varsT]
    split
    · split
      · exact h
      · rename_i hn
        refine List.nodup_append.2 ⟨h, by simp, fun a ha b hb e => ?_⟩
        simp at hb
        subst hb
        subst e
        exact hn ha
    · exact varsTs_nodup ks out h
theorem varsTs_nodup : ∀ (l : List Ty) (out : List Nat), out.Nodup → (varsTs out l).Nodup
  | [], _, h => h
  | t :: l, out, h => varsTs_nodup l _ (varsT_nodup t out h)
end
mutual
theorem varsT_sup (x : Nat) : ∀ (t : Ty) (out : List Nat), x ∈ out → x ∈ varsT out t
  | .mk k n s nl ks, out, h => by
    simp only [varsT]
    split
    · split
      · exact h
      · simp [h]
    · exact varsTs_sup x ks out h
theorem varsTs_sup (x : Nat) : ∀ (l : List Ty) (out : List Nat), x ∈ out → x ∈ varsTs out l
  | [], _, h => h
  | t :: l, out, h => varsTs_sup x l _ (varsT_sup x t out h)
end
mutual
theorem memV_of (L : List Nat) : ∀ (t : Ty), vok t → ∀ out : List Nat, (∀ x, x ∈ varsT out t → x ∈ L) → memV L t
  | .mk k n s nl ks, hv, out, h => by
    simp only [vok] at hv
    simp only [memV]
    simp only [varsT] at h
    refine ⟨fun hk => ?_, fun hk => ?_⟩
    · rw [if_pos hk] at h
      refine ⟨(hv.1 hk).1, ?_⟩
      by_cases hn : n.toNat ∈ out
      · rw [if_pos hn] at h; exact h _ hn
      · rw [if_neg hn] at h; exact h _ (by simp)
    · rw [if_neg hk] at h
      exact memVs_of L ks hv.2 out h
theorem memVs_of (L : List Nat) : ∀ (l : List Ty), voks l → ∀ out : List Nat, (∀ x, x ∈ varsTs out l → x ∈ L) → memVs L l
  | [], _, _, _ => trivial
  | t :: l, hv, out, h => ⟨memV_of L t hv.1 out (fun x hx => h x (varsTs_sup x l _ hx)), memVs_of L l hv.2 (varsT out t) h⟩
end
def canD (l : List Nat) (n : Int) : Option Ty := some (varT (placeN l n.toNat 0).toNat)
mutual
theorem canon_ren (l : List Nat) : ∀ t, (turnedT (canD l) t).same (renT l t) = true
  | .mk k n s nl ks => by
    simp only [turnedT, renT]
    split
    · exact same_refl _
    · simp [Ty.same, canons_ren l ks]
theorem canons_ren (l : List Nat) : ∀ ts, Ty.sames (turnedTs (canD l) ts) (renTs l ts) = true
  | [] => rfl
  | t :: r => by simp [turnedTs, renTs, Ty.sames, canon_ren l t, canons_ren l r]
end
theorem canon_ans (t : Ty) (hc : cl t) (hv : vok t) (hl : nds t < 2 ^ 39) : Ans ctx 18 [encT t] (encT (turnedT (canD (varsT [] t)) t)) := by
  have ho := cl_ok t hc
  obtain ⟨k1, hk1⟩ := vars_ans t ho hv hl
  have hlen := (varsT_len t []).2
  have hnd := varsT_nodup t [] List.nodup_nil
  have hm := memV_of (varsT [] t) t hv [] (fun x h => h)
  generalize hvs : varsT [] t = vs at *
  obtain ⟨fr', h1, h2, h3, h4, h5, h6, h7, h8⟩ := lp22 (encT t) vs true (by unfold big; simp at hlen; omega) hnd vs [] rfl
  obtain ⟨k2, hk2⟩ := h1.den
  obtain ⟨τ, k3, hk3⟩ := turnedH 47 [.ptr 1 1 0 0] (by simp) (fun σ => by simp [snapL, mapO2, snapA]) (canD vs) (fun σ => ∃ τ, σ = base vs ++ τ) (fun σ τ ⟨τ', h⟩ => ⟨τ' ++ τ, by rw [h]; simp⟩) vs
    (fun m _ hm σ ⟨τ, h⟩ => ⟨_, rfl, by rw [h]; exact do39 vs m hm τ⟩) t hc hm (base vs) ⟨[], by simp⟩
  refine Ans.of (σ' := base vs ++ τ) fn18_ (by simp) (by simp) ⟨k1 + k2 + k3, fun N hN => ?_⟩
  have hk1 := hk1 N (by omega)
  have hk2 := hk2 N (by omega)
  have hk3 := hk3 N (by omega)
  have hk2 : ∀ fr, norm [1, 2, 3, 8, 9, 10] fr = some ⟨[(1, .bx (encT t)), (2, .bx (.agg [.int .i64 0, .int .i64 0, .str [], .nil])), (3, .v (.ptr 1 1 0 0)), (8, .v (encR 1 true (encI vs))), (9, .v (.int .i64 vs.length)), (10, .v (.int .i64 0))], false⟩ → den ctx (acall ctx N) [3] [] N (.loop [1, 2, 3, 8, 9, 10] b18_0) fr [.map [], .arr false 1 [.map 0]] = some ((.ex 0, fr'), base vs) := hk2
  have hRf : ∀ ti : TI, (encT (turnedT (canD vs) t)).fits ti = (ti.k.isAgg && 4 == ti.size) := fun ti => fits_encT _ ti
  have hTf : ∀ ti : TI, (encT t).fits ti = (ti.k.isAgg && 4 == ti.size) := fun ti => fits_encT _ ti
  have hQ1 : lenM (encR 1 true (encI vs)) = pureM (.int .i64 (vs.length : Int)) := by simp
  have hQ2 : lenOk (.slice 3) (encR 1 true (encI vs)) = true := by simp
  generalize encT (turnedT (canD vs) t) = R at *
  generalize encT t = T at *
  generalize base vs = B at *
  generalize encR 1 true (encI vs) = Q at *
  simp [i18, c18, hk1, hk2, hk3, hRf, hTf, hQ1, hQ2, h2, h3, h4, h5, h6, h7, h8]
theorem canon15_ans (t : Ty) (hc : cl t) (hv : vok t) (hl : nds t < 2 ^ 39) : Ans ctx 19 [encT t] (encT (renT (varsT [] t) t)) := by
  have ho := cl_ok t hc
  obtain ⟨k1, hk1⟩ := Vars15_ans t ho hv (by omega)
  have hlen := (varsT_len t []).2
  have hm := memV_of (varsT [] t) t hv [] (fun x h => h)
  obtain ⟨k2, hk2⟩ := ren_ans (varsT [] t) true (by unfold big; simp at hlen; omega) t hc hm
  refine Ans.of (σ' := []) fn19_ (by simp) (by simp) ⟨k1 + k2, fun N hN => ?_⟩
  have hk1 := hk1 N (by omega)
  have hk2 := hk2 N (by omega)
  generalize encR 1 true (encI (varsT [] t)) = Q at *
  have hRf : ∀ ti : TI, (encT (renT (varsT [] t) t)).fits ti = (ti.k.isAgg && 4 == ti.size) := fun ti => fits_encT _ ti
  generalize encT (renT (varsT [] t) t) = R at *
  simp [i19, c19, hk1, hk2, hRf]
end Go.Am.Tryd
