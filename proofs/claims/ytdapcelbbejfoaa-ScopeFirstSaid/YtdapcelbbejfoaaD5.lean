/- Layer 12: data.twice; closures; where a Con stands. -/
import Derived.Test.YtdapcelbbejfoaaD4
set_option linter.unusedVariables false
set_option maxRecDepth 100000
set_option linter.unusedSimpArgs false
namespace Go.Am.Try
open Go Go.Am.Ps

def tyc : Ctx := ⟨types, [], [], []⟩
theorem tyc_ti (t : Nat) : tyc.ti t = ctx.ti t := rfl

def tiS : TI := ⟨.str, 1, 16, .str [], [.str]⟩
theorem fitAll_encSs : ∀ l : List Str, fitAll tiS (encSs l) = true
  | [] => rfl
  | s :: l => by
    have := fitAll_encSs l
    simp [fitAll, tiS] at this ⊢
    exact this

theorem clone91 (σ : H) (vs : List Str) (hl : vs.length ≤ 2 ^ 40) : primOf types i91 [.sl 1 (encSs vs)] σ = some (.hs σ.length vs.length 0 vs.length 1, σ ++ [.arr false 1 (encSs vs)]) := by
  show runFn tyc (fun _ _ => failM) 1 i91 [.sl 1 (encSs vs)] σ = _
  cases vs with
  | nil => simp [i91, c91, tyc_ti]
  | cons s l =>
    have hf := fitAll_encSs l
    unfold tiS at hf
    simp at hl
    have h1 : (l.length + 1) * 16 ≤ 35184372088832 := by omega
    have h2 : l.length ≤ 35184372088831 := by omega
    simp [i91, c91, tyc_ti, hf, h1, h2]

theorem unAll_str : ∀ l : List Str, unAll unS (encSs l) = some l
  | [] => rfl
  | s :: l => by
    have := unAll_str l
    simp [unAll, unS, this]

theorem setCells_all {xs ys : List AV} (h : ys.length = xs.length) : setCells xs 0 ys = ys := by
  rw [setCells_splice (by omega)]
  simp [h]

theorem map_str (l : List Str) : l.map AV.str = encSs l := rfl

theorem sort92 (vs : List Str) (hl : vs.length ≤ 2 ^ 40) : primSort [.hs 0 vs.length 0 vs.length 1] [.arr false 1 (encSs vs)] = some (.tup [], [.arr false 1 (encSs (vs.mergeSort fun x y => decide (x ≤ y)))]) := by
  have h0 : arrAt [HObj.arr false 1 (encSs vs)] 0 vs.length = some (false, 1, encSs vs) := by simp [arrAt]
  have h1 : ((encSs vs).drop 0).take vs.length = encSs vs := by simp [List.take_of_length_le]
  have h2 : 0 + vs.length ≤ (encSs vs).length := by simp
  have h3 : vs.length < 2 ^ 62 := by omega
  simp only [primSort, sortRow, h0, h2, h3, and_self, if_true, h1, unAll_str]
  rw [setCells_all (by simp), map_str]
  rfl

theorem comp93 (ws : List Str) (hl : ws.length ≤ 2 ^ 40) : ∃ σ', primCompact [.hs 0 ws.length 0 ws.length 1] [.arr false 1 (encSs ws)] = some (.hs 0 ws.length 0 (squash ws).length 1, σ') := by
  have h0 : arrAt [HObj.arr false 1 (encSs ws)] 0 ws.length = some (false, 1, encSs ws) := by simp [arrAt]
  have h1 : ((encSs ws).drop 0).take ws.length = encSs ws := by simp [List.take_of_length_le]
  have h2 : 0 + ws.length ≤ (encSs ws).length := by simp
  have h3 : ws.length < 2 ^ 62 := by omega
  simp only [primCompact, compactRow, h0, h2, h3, and_self, if_true, h1, unAll_str]
  exact ⟨_, rfl⟩

theorem pr91 : look 91 ctx.prim = some (primOf types i91) := by rfl
theorem pr92 : look 92 ctx.prim = some primSort := by rfl
theorem pr93 : look 93 ctx.prim = some primCompact := by rfl

/-- data.twice -/
theorem twice_ans (vs : List Str) (nl : Bool) (hl : vs.length ≤ lim) : Ans ctx 59 [encR 1 nl (encSs vs)] (.bool (dupS vs)) := by
  unfold lim at hl
  by_cases hn : nl = true ∧ vs = []
  · obtain ⟨rfl, rfl⟩ := hn
    have c1 : primOf types i91 [.nil] [] = some (.nil, []) := by
      show runFn tyc (fun _ _ => failM) 1 i91 [.nil] [] = _
      simp [i91, c91, tyc_ti]
    obtain ⟨k1, hk1⟩ := AnsH.prim fn91_ pr91 rfl c1
    obtain ⟨k2, hk2⟩ := AnsH.prim (C := ctx) (l := [.nil]) (r := .tup []) (σ := []) (σ' := []) fn92_ pr92 rfl rfl
    obtain ⟨k3, hk3⟩ := AnsH.prim (C := ctx) (l := [.nil]) (r := .nil) (σ := []) (σ' := []) fn93_ pr93 rfl rfl
    refine Ans.of (σ' := []) fn59_ (by simp) (by simp) ⟨k1 + k2 + k3, fun N hN => ?_⟩
    have hk1 := hk1 N (by omega)
    have hk2 := hk2 N (by omega)
    have hk3 := hk3 N (by omega)
    simp -implicitDefEqProofs [i59, c59, hk1, hk2, hk3, dupS]
  · have e : encR 1 nl (encSs vs) = .sl 1 (encSs vs) := by
      cases vs with
      | nil => cases nl with
        | true => exact absurd ⟨rfl, rfl⟩ hn
        | false => rfl
      | cons s l => simp
    rw [e]
    obtain ⟨k1, hk1⟩ := AnsH.prim fn91_ pr91 rfl (clone91 [] vs hl)
    obtain ⟨k2, hk2⟩ := AnsH.prim fn92_ pr92 rfl (sort92 vs hl)
    have hlm : (vs.mergeSort fun x y => decide (x ≤ y)).length = vs.length := List.length_mergeSort _
    obtain ⟨σ', hc⟩ := comp93 (vs.mergeSort fun x y => decide (x ≤ y)) (by rw [hlm]; exact hl)
    rw [hlm] at hc
    obtain ⟨k3, hk3⟩ := AnsH.prim fn93_ pr93 rfl hc
    refine Ans.of (σ' := σ') fn59_ (by simp) (by simp) ⟨k1 + k2 + k3, fun N hN => ?_⟩
    have hk1 := hk1 N (by omega)
    have hk2 := hk2 N (by omega)
    have hk3 := hk3 N (by omega)
    have hd := squash_sort vs
    rw [← hd]
    simp only [List.length_nil, List.nil_append] at hk1
    generalize (squash (vs.mergeSort fun x y => decide (x ≤ y))).length = m at *
    generalize (vs.mergeSort fun x y => decide (x ≤ y)) = ws at *
    have hm : decide ((m : Int) < (vs.length : Int)) = decide (m < vs.length) := by simp
    simp -implicitDefEqProofs [i59, c59, hk1, hk2, hk3]

theorem cl64 (s : Str) (c : Cn) : Ans ctx 64 [encC c, .adr (.str s)] (.bool (eqS c.s s)) := by
  refine Ans.of (σ' := []) fn64_ (by simp) (by simp) ⟨0, fun N _ => ?_⟩
  simp only [eqS_iff, encC]
  simp -implicitDefEqProofs [i64, c64, -beq_iff_eq]

def orM1 : Option Nat → Int
  | some k => (k : Int)
  | none => -1

theorem idxB_C (s : Str) : ∀ (l : List Cn) (i : Nat), idxB i (l.map fun c => eqS c.s s) = orM1 (findC s i l)
  | [], i => rfl
  | c :: l, i => by
    simp only [List.map_cons, idxB, findC]
    cases eqS c.s s with
    | true => rfl
    | false => exact idxB_C s l (i + 1)

def conI : Option (Nat × Nat) → Int × Int
  | some (i, k) => ((i : Int), (k : Int))
  | none => (-1, -1)

theorem lp33 (s : Str) (L : List AV) (nl : Bool) (hL : L.length < big) : ∀ (r : List Da) (i : Nat), Tail L i (encDs r) → (∀ d ∈ r, okD d) →
    ∃ e fr', Lp ctx [] [3] [3, 9, 10, 11] b33_0 ⟨[(3, .v (.adr (.str s))), (9, .v (encR 4 nl L)), (10, .v (.int .i64 L.length)), (11, .v (.int .i64 i))], false⟩ [] e fr' [] ∧ fr'.lk = false ∧
      ((e = .ex 0 ∧ getS fr'.sl 4 = .u ∧ getS fr'.sl 5 = .u ∧ findCon s i r = none) ∨ (e = .ret ∧ ∃ p, findCon s i r = some p ∧ getS fr'.sl 4 = .v (.int .i64 p.1) ∧ getS fr'.sl 5 = .v (.int .i64 p.2)))
  | [], i, h, hd => by
    have h' := h.nil
    refine ⟨.ex 0, ?_, Lp.exit ⟨0, fun N _ => ?_⟩ (by simp), ?_⟩
    rotate_left
    · simp -implicitDefEqProofs [b33_0, h']
      rfl
    · exact ⟨by simp, .inl ⟨rfl, by simp, by simp, rfl⟩⟩
  | d :: r, i, h, hd => by
    have hlen := h.len
    simp only [encDs_cons] at h
    obtain ⟨g1, g2, g3, g4, g5⟩ := h.cons
    simp at hlen
    have hw := wrap_succ (n := i) (by omega)
    have g6 := g5 4 nl
    have hdk := hd d (by simp)
    obtain ⟨e1, e2⟩ := map_pair encC (fun c => eqS c.s s) d.cs
    obtain ⟨k, hk⟩ := idx63_ans 64 [.adr (.str s)] (d.cs.map fun c => (encC c, eqS c.s s)) true (by have := hdk.2.1; unfold lim at this; simp [big]; omega) (by rw [e1]; exact noRefs_encCs d.cs) (by simp)
      (fun q hq => by obtain ⟨c, _, rfl⟩ := List.mem_map.1 hq; exact cl64 s c) (fun q hq ti => by obtain ⟨c, _, rfl⟩ := List.mem_map.1 hq; exact encC_fits c ti)
    rw [e1, e2, idxB_C] at hk
    have e3 : d.cs.map encC = encCs d.cs := rfl
    rw [e3] at hk
    unfold encD at g1
    cases hf : findC s 0 d.cs with
    | some c =>
      rw [hf] at hk
      simp only [orM1] at hk
      have hge : (0 : Int) ≤ (c : Int) := by omega
      refine ⟨.ret, ?_, Lp.exit ⟨k, fun N hN => ?_⟩ (by simp), ?_⟩
      rotate_left
      · have hk := hk N hN
        rw [g6]
        simp -implicitDefEqProofs [b33_0, g1, g2, g3, hk]
        rfl
      · exact ⟨by simp, .inr ⟨rfl, (i, c), by simp [findCon, hf], by simp, by simp⟩⟩
    | none =>
      rw [hf] at hk
      simp only [orM1] at hk
      obtain ⟨e, fr', l1, l2, l3⟩ := lp33 s L nl hL r (i + 1) g4 (fun x hx => hd x (by simp [hx]))
      have e4 : findCon s i (d :: r) = findCon s (i + 1) r := by simp [findCon, hf]
      rw [e4]
      refine ⟨e, fr', Lp.step ⟨k, fun N hN => ?_⟩ l1, l2, l3⟩
      have hk := hk N hN
      rw [g6]
      simp -implicitDefEqProofs [b33_0, g1, g2, g3, hk, hw]

/-- data.Con -/
theorem dcon_ans (l : List Da) (nl : Bool) (hl : l.length < big) (hd : ∀ d ∈ l, okD d) (s : Str) : Ans ctx 33 [encR 4 nl (encDs l), .str s] (.tup [.int .i64 (conI (findCon s 0 l)).1, .int .i64 (conI (findCon s 0 l)).2]) := by
  obtain ⟨e, fr', l1, l2, l3⟩ := lp33 s (encDs l) nl (by simpa using hl) l 0 (Tail.all _) hd
  obtain ⟨k, hk⟩ := l1.den
  refine Ans.of (σ' := []) fn33_ (by simp) (by simp) ⟨k, fun N hN => ?_⟩
  have hk := hk N hN
  rw [encDs_length] at hk
  rcases l3 with ⟨rfl, l4, l5, l6⟩ | ⟨rfl, p, l4, l5, l6⟩
  · rw [l6]
    simp -implicitDefEqProofs [i33, c33, hk, l2, l4, l5, conI]
  · rw [l4]
    simp -implicitDefEqProofs [i33, c33, hk, l2, l5, l6, conI]

end Go.Am.Try
