/- Layer 14 (plain): RefsGraph's programs. -/
import Derived.Test.YtdapcelbbejfoaaWA
import Derived.Test.YtdapcelbbejfoaaVA
set_option linter.unusedVariables false
set_option linter.unusedSimpArgs false
set_option maxRecDepth 100000
namespace Go.Am.Ps
open Go.Am.Try
/-! ### Binds are parsed -/
theorem parse_binds (L : List (List Pc × Str × Ex)) (h : ∀ q ∈ L, PB q.1 q.2.1 q.2.2) (hd : ∀ q ∈ L, ¬ 60 < deepE q.2.2) (hl : (L.map fun q => strP q.1).flatten.length ≤ 65536) : ∃ bs, parse (L.map fun q => strP q.1).flatten = .ok ⟨[], bs⟩ ∧ bs.map bareB = L.map (·.2) := by
  have hT : (L.map fun q => strP q.1).flatten = textP (L.map (·.1)).flatten [] := by
    have := strP_flat (L.map (·.1))
    rw [List.map_map] at this
    exact this.symm
  rw [hT] at hl ⊢
  obtain ⟨P, hP⟩ : ∃ P, P = (L.map (·.1)).flatten := ⟨_, rfl⟩
  rw [← hP] at hl ⊢
  have hok : okP P [] = true := by
    rw [hP]
    exact ok_flat (L.map (·.1)) [] fun Q hQ y => by
      obtain ⟨q, hq, rfl⟩ := List.mem_map.1 hQ
      exact (h q hq).2 y
  have hlex := lex_whole hok hl
  have htok : toksP 0 P = (toksL 0 (L.map (·.1))).flatten := by rw [hP, toksL_flat]
  have hcount : L.length ≤ (toksP 0 P).length := by
    have := flat_len (toksL 0 (L.map (·.1))) (fun ts hts => by
      obtain ⟨Q, h1, k, rfl⟩ := toksL_mem _ _ ts hts
      obtain ⟨q, hq, rfl⟩ := List.mem_map.1 h1
      exact ((h q hq).1 k).1)
    rw [toksL_len, List.length_map] at this
    rw [htok]; exact this
  obtain ⟨bs, j', e1, e2⟩ := binds_all L h 0 (8 * (toksP 0 P).length + 40) ((toksP 0 P).length + 1) (textP P []).length ⟨[], []⟩ 0 0 (by rw [← htok]; omega) (by omega)
  rw [← htok] at e1
  refine ⟨bs, ?_, e2⟩
  have hnone : tooB none bs = none := by
    rw [tooB_none]
    intro b hb
    have : bareB b ∈ L.map (·.2) := by rw [← e2]; exact List.mem_map.2 ⟨b, hb, rfl⟩
    obtain ⟨q, hq, hqe⟩ := List.mem_map.1 this
    have h1 := hd q hq
    rw [hqe] at h1
    have h2 : deepE (bareB b).2 = deepE b.b := deep_bare b.b
    rw [h2] at h1
    exact h1
  unfold parse
  rw [hlex]
  simp only [e1]
  have ht : tooDeep ⟨[], [] ++ bs⟩ = none := by
    unfold tooDeep
    rw [List.nil_append, hnone]
    rfl
  rw [ht]
  rfl
/-! ### one Bind -/
def vN (d : Nat) : Str := [118, UInt8.ofNat (48 + d)]
theorem vN_word {d : Nat} (h : d < 10) : WN (vN d) 1 := by
  have : ∀ d : Fin 10, wordK (vN d.1) = some 1 ∧ ((match vN d.1 with | c :: _ => lowerB c || upperB c | [] => false) && (vN d.1).all restB) = true := by decide
  exact WN_of (this ⟨d, h⟩).1 (this ⟨d, h⟩).2
theorem vN_inj {d e : Nat} (hd : d < 10) (he : e < 10) (h : vN d = vN e) : d = e := by
  have : ∀ d e : Fin 10, vN d.1 = vN e.1 → d = e := by decide
  have := this ⟨d, hd⟩ ⟨e, he⟩ h
  exact congrArg Fin.val this
def triX (a b : Nat) : Ex := .mk 8 0 [] 0 [.mk 1 0 (vN a) 0 [] [], .mk 6 0 (vN b) 0 [.mk 1 0 (vN b) 0 [] []] [], .mk 1 0 (vN a) 0 [] []] []
def triP (i a b : Nat) : List Pc := .w [108, 101, 116] :: .sp 32 :: .w (vN i) :: ([] ++ .sp 32 :: .sg 61 :: .sp 32 :: ((.sg 40 :: ([.w (vN a)] ++ .sg 44 :: .sp 32 :: ((.sg 92 :: .w (vN b) :: ([] ++ .sp 32 :: .ar :: .sp 32 :: [.w (vN b)])) ++ .sg 44 :: .sp 32 :: ([.w (vN a)] ++ [.sg 41])))) ++ [.sg 59]))
theorem PY_triple {P Q R : List Pc} {X Y Z : Ex} (h : PX P X) (h' : PX Q Y) (h'' : PX R Z) : PY (.sg 40 :: (P ++ .sg 44 :: .sp 32 :: (Q ++ .sg 44 :: .sp 32 :: (R ++ [.sg 41])))) (.mk 8 0 [] 0 [X, Y, Z] []) := by
  refine ⟨fun i => ?_, fun y hy => ?_⟩
  · simp only [toksP, toksP_app, Pc.tok, Option.toList_some, Option.toList_none, List.nil_append, List.singleton_append, List.append_nil]
    exact YP_triple rfl rfl (h.1 _) rfl rfl (h'.1 _) rfl rfl (h''.1 _) rfl rfl
  · simp only [okP, okP_app, textP, textP_app, Pc.str, List.singleton_append, h.2 _ (not44 _), h'.2 _ (not44 _), h''.2 _ (not41 _)]
    rfl
theorem tri_PB {i a b : Nat} (hi : i < 10) (ha : a < 10) (hb : b < 10) : PB (triP i a b) (vN i) (triX a b) := by
  have h1 := PX_lam (vN_word hb) PN_nil (.inl rfl) (PY_name (vN_word hb)).x
  have h2 := PY_triple (PY_name (vN_word ha)).x h1 (PY_name (vN_word ha)).x
  exact PB_of (vN_word hi) PN_nil (.inl rfl) h2.x
theorem tri_str (i a b : Nat) : strP (triP i a b) = [108, 101, 116, 32] ++ vN i ++ [32, 61, 32, 40] ++ vN a ++ [44, 32, 92] ++ vN b ++ [32, 45, 62, 32] ++ vN b ++ [44, 32] ++ vN a ++ [41, 59] := by
  simp [strP, triP, textP, Pc.str, vN]
theorem tri_deep (a b : Nat) : ¬ 60 < deepE (triX a b) := by
  have : deepE (triX a b) = 3 := by rfl
  rw [this]; omega
/-! ### what is free -/
mutual
theorem frE_bare : ∀ (e : Ex) (B O : List Str), frE B O (bareE e) = frE B O e
  | .mk k a s n ks as, B, O => by rw [bareE, frE, frE, frK_bare k s ks, frA_bare as]
theorem frK_bare (k : Nat) (s : Str) : ∀ (l : List Ex) (i : Nat) (B O : List Str), frK k s i B O (bareEs l) = frK k s i B O l
  | [], i, B, O => by rw [bareEs]
  | e :: l, i, B, O => by rw [bareEs, frK, frK, frE_bare e, frE_bare e, frK_bare k s l]
theorem frA_bare : ∀ (l : List Al) (B O : List Str), frA B O (bareAs l) = frA B O l
  | [], B, O => by rw [bareAs]
  | .mk a c ns b :: l, B, O => by rw [bareAs, frA, frA, frE_bare b, frA_bare l]
end
theorem tri_free (a b : Nat) : frE [] [] (triX a b) = [vN a] := by
  simp [triX, frE, frK, frA, addF, bindK, Nat.beq]
/-! ### the graph -/
theorem tri_graph (n : Nat) (hn : n ≤ 10) (f g : Nat → Nat) (hf : ∀ i, i < n → f i < n) (bs : List Bi) (hb : bs.map bareB = (List.range n).map fun i => (vN i, triX (f i) (g i))) : gphP bs = (List.range n).map fun i => [f i] := by
  have hlen : bs.length = n := by simpa using congrArg List.length hb
  have hat : ∀ i, i < n → ∃ b, bs[i]? = some b ∧ b.s = vN i ∧ frE [] [] b.b = [vN (f i)] := fun i hi => by
    have hi' : i < bs.length := by omega
    have := congrArg (fun l => l[i]?) hb
    simp only [List.getElem?_map, List.getElem?_range hi, Option.map_some, List.getElem?_eq_getElem hi', Option.some.injEq, bareB, Prod.mk.injEq] at this
    refine ⟨bs[i], List.getElem?_eq_getElem hi', this.1, ?_⟩
    rw [← frE_bare, this.2, tri_free]
  have hT : ∀ x, x < n → getT (plT 0 bs) (vN x) = some x := fun x hx => by
    obtain ⟨b, h1, h2, _⟩ := hat x hx
    refine (getT_pl_iff _ bs 0 x).2 ⟨x, b, h1, by omega, h2, ?_⟩
    unfold othN
    rw [List.all_eq_true]
    intro c hc
    obtain ⟨j, hj⟩ := List.mem_iff_getElem?.1 hc
    rw [List.getElem?_take] at hj
    split at hj
    · rename_i hjx
      obtain ⟨c', h3, h4, _⟩ := hat j (by omega)
      rw [h3] at hj
      cases hj
      have : (c.s == vN x) = false := by
        rw [h4, beq_eq_false_iff_ne]
        exact fun e => by
          have := vN_inj (by omega) (by omega) e
          omega
      rw [this]; rfl
    · cases hj
  apply List.ext_getElem?
  intro i
  unfold gphP
  rw [List.getElem?_map, List.getElem?_map]
  by_cases hi : i < n
  · obtain ⟨b, h1, _, h3⟩ := hat i hi
    rw [h1, List.getElem?_range hi]
    simp only [Option.map_some, h3, ledT, List.filterMap_cons, hT _ (hf i hi), List.filterMap_nil]
    rfl
  · rw [List.getElem?_eq_none (by omega), List.getElem?_eq_none (by simp; omega)]
    rfl
end Go.Am.Ps
