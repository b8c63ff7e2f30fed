/- Q1, Q3, Q4, Q5, Q6, Q7, Q8, as one -/
import Derived.Test.YtdapcelbbejfoaaPData
import Derived.Test.YtdapcelbbejfoaaPDef
set_option linter.unusedVariables false
set_option linter.unusedSimpArgs false
namespace Go.Am.Ps
theorem eqS_dec : ∀ a b : Str, eqS a b = decide (a = b)
 | [], [] => by simp [eqS]
 | [], _ :: _ => by simp [eqS]
 | _ :: _, [] => by simp [eqS]
 | a :: l, b :: m => by
  have := eqS_dec l m
  unfold eqS
  rw [this]
  have hb : Nat.beq a.toNat b.toNat = decide (a = b) := by
   rw [Bool.eq_iff_iff, Nat.beq_eq, decide_eq_true_eq]
   exact UInt8.toNat_inj
  first
   | (rw [hb]; by_cases h1 : a = b <;> by_cases h2 : l = m <;> simp [h1, h2])
   | (by_cases h1 : a = b <;> by_cases h2 : l = m <;> simp [h1, h2])
theorem memK_c (had : List Key) (x : Str) (b : Bool) (s : Str) (c : Bool) : memK ((x, b) :: had) (s, c) = (decide (s = x ∧ c = b) || memK had (s, c)) := by
 simp only [memK, List.any_cons, eqK, eqS_dec]
 congr 1
 by_cases h1 : s = x <;> by_cases h2 : c = b <;> simp [h1, h2]
def OKC (l : List Da) (v : Int) (had : List Key) (cs : List Cn) : Prop :=
 (cs.map (·.s)).Nodup ∧ ∀ c ∈ cs, memK had (c.s, true) = false ∧ rightTs l v c.as = true
theorem chkC_spec (l : List Da) (v : Int) : ∀ (cs : List Cn) (had : List Key), match chkC l v had cs with
  | .ok had' => OKC l v had cs ∧ (∀ x, memK had' (x, true) = (memK had (x, true) || decide (x ∈ cs.map (·.s)))) ∧ ∀ x, memK had' (x, false) = memK had (x, false)
  | .error _ => ¬ OKC l v had cs
 | [], had => by simp [chkC, OKC]
 | c :: cs, had => by
  unfold chkC
  cases h : memK had (c.s, true) || !(rightTs l v c.as) with
  | true =>
   simp only
   rintro ⟨_, h2⟩
   obtain ⟨h3, h4⟩ := h2 c (by simp)
   simp [h3, h4] at h
  | false =>
   simp only [Bool.or_eq_false_iff, Bool.not_eq_false'] at h
   have ih := chkC_spec l v cs ((c.s, true) :: had)
   simp only
   cases hk : chkC l v ((c.s, true) :: had) cs with
   | error a =>
    rw [hk] at ih
    simp only at ih ⊢
    rintro ⟨h1, h2⟩
    refine ih ⟨?_, fun d hd => ⟨?_, (h2 d (by simp [hd])).2⟩⟩
    ·simp only [List.map_cons, List.nodup_cons] at h1; exact h1.2
    ·rw [memK_c]
     simp only [List.map_cons, List.nodup_cons] at h1
     have hne : d.s ≠ c.s := fun e => h1.1 (by rw [← e]; exact List.mem_map.2 ⟨d, hd, rfl⟩)
     simp [hne, (h2 d (by simp [hd])).1]
   | ok had' =>
    rw [hk] at ih
    simp only at ih ⊢
    obtain ⟨⟨i1, i2⟩, i3, i4⟩ := ih
    refine ⟨⟨?_, fun d hd => ?_⟩, fun x => ?_, fun x => ?_⟩
    ·simp only [List.map_cons, List.nodup_cons]
     refine ⟨fun hm => ?_, i1⟩
     obtain ⟨d, hd, he⟩ := List.mem_map.1 hm
     have := (i2 d hd).1
     rw [memK_c, he] at this
     simp at this
    ·rcases List.mem_cons.1 hd with rfl | hd
     ·exact h
     ·have := i2 d hd
      rw [memK_c] at this
      simp only [Bool.or_eq_false_iff] at this
      exact ⟨this.1.2, this.2⟩
    ·rw [i3, memK_c]
     simp only [List.map_cons, List.mem_cons]
     by_cases h1 : x = c.s <;> by_cases h2 : x ∈ cs.map (·.s) <;> cases memK had (x, true) <;> simp [h1, h2]
    ·rw [i4, memK_c]
     simp
def conNames (ds : List Da) : List Str := ds.flatMap fun d => d.cs.map (·.s)
structure OKD (l : List Da) (had : List Key) (ds : List Da) : Prop where
 nm : (ds.map (·.s)).Nodup
 nh : ∀ d ∈ ds, memK had (d.s, false) = false
 vs : ∀ d ∈ ds, dupS d.vs = false
 cn : (conNames ds).Nodup
 ch : ∀ x ∈ conNames ds, memK had (x, true) = false
 rt : ∀ d ∈ ds, ∀ c ∈ d.cs, rightTs l d.vs.length c.as = true
theorem chkD_spec (l : List Da) : ∀ (ds : List Da) (had : List Key), chkD l had ds = none ↔ OKD l had ds
 | [], had => by
  simp only [chkD, true_iff]
  exact ⟨by simp, by simp, by simp, by simp [conNames], by simp [conNames], by simp⟩
 | d :: ds, had => by
  unfold chkD
  cases h : memK had (d.s, false) || dupS d.vs with
  | true =>
   simp only [reduceCtorEq, false_iff]
   intro ho
   have h1 := ho.nh d (by simp)
   have h2 := ho.vs d (by simp)
   simp [h1, h2] at h
  | false =>
   simp only [Bool.or_eq_false_iff] at h
   have hs := chkC_spec l d.vs.length d.cs ((d.s, false) :: had)
   simp only
   cases hk : chkC l d.vs.length ((d.s, false) :: had) d.cs with
   | error a =>
    rw [hk] at hs
    simp only [reduceCtorEq, false_iff] at hs ⊢
    intro ho
    refine hs ⟨?_, fun c hc => ⟨?_, ho.rt d (by simp) c hc⟩⟩
    ·have := ho.cn
     simp only [conNames, List.flatMap_cons, List.nodup_append] at this
     exact this.1
    ·rw [memK_c]
     have := ho.ch c.s (by simp only [conNames, List.flatMap_cons, List.mem_append]; exact .inl (List.mem_map.2 ⟨c, hc, rfl⟩))
     simp [this]
   | ok had' =>
    rw [hk] at hs
    simp only at hs ⊢
    obtain ⟨⟨c1, c2⟩, c3, c4⟩ := hs
    rw [chkD_spec l ds had']
    have c4' : ∀ x, memK had' (x, false) = (decide (x = d.s) || memK had (x, false)) := fun x => by
     rw [c4, memK_c]; simp
    have c3' : ∀ x, memK had' (x, true) = (memK had (x, true) || decide (x ∈ d.cs.map (·.s))) := fun x => by
     rw [c3, memK_c]; simp
    constructor
    ·intro ho
     refine ⟨?_, fun e he => ?_, fun e he => ?_, ?_, fun x hx => ?_, fun e he c hc => ?_⟩
     ·simp only [List.map_cons, List.nodup_cons]
      refine ⟨fun hm => ?_, ho.nm⟩
      obtain ⟨e, he, hx⟩ := List.mem_map.1 hm
      have := ho.nh e he
      rw [c4', hx] at this
      simp at this
     ·rcases List.mem_cons.1 he with rfl | he
      ·exact h.1
      ·have := ho.nh e he
       rw [c4'] at this
       simp only [Bool.or_eq_false_iff] at this
       exact this.2
     ·rcases List.mem_cons.1 he with rfl | he
      ·exact h.2
      ·exact ho.vs e he
     ·simp only [conNames, List.flatMap_cons, List.nodup_append]
      refine ⟨c1, ho.cn, fun a ha b hb hab => ?_⟩
      have := ho.ch b hb
      rw [c3', ← hab] at this
      simp [ha] at this
     ·simp only [conNames, List.flatMap_cons, List.mem_append] at hx
      rcases hx with hx | hx
      ·obtain ⟨c, hc, rfl⟩ := List.mem_map.1 hx
       have := (c2 c hc).1
       rw [memK_c] at this
       simpa using this
      ·have := ho.ch x hx
       rw [c3'] at this
       simp only [Bool.or_eq_false_iff] at this
       exact this.1
     ·rcases List.mem_cons.1 he with rfl | he
      ·exact (c2 c hc).2
      ·exact ho.rt e he c hc
    ·intro ho
     have hcn := ho.cn
     simp only [conNames, List.flatMap_cons, List.nodup_append] at hcn
     have hnm := ho.nm
     simp only [List.map_cons, List.nodup_cons] at hnm
     refine ⟨hnm.2, fun e he => ?_, fun e he => ho.vs e (by simp [he]), hcn.2.1, fun x hx => ?_, fun e he c hc => ho.rt e (by simp [he]) c hc⟩
     ·rw [c4', ho.nh e (by simp [he])]
      have hne : e.s ≠ d.s := fun h1 => hnm.1 (by rw [← h1]; exact List.mem_map.2 ⟨e, he, rfl⟩)
      simp [hne]
     ·rw [c3', ho.ch x (by simp only [conNames, List.flatMap_cons, List.mem_append]; exact .inr hx)]
      have : x ∉ d.cs.map (·.s) := fun h1 => hcn.2.2 x h1 x hx rfl
      simp [this]
theorem checkData_none (l : List Da) : checkData l = none ↔ OKD l [(sInt, false), (sBool, false)] l := chkD_spec l l _
end Go.Am.Ps
namespace Go.Am.Ps
inductive Pc where
 | w (s : Str)
 | nu (s : Str)
 | sp (c : UInt8)
 | sg (c : UInt8)
 | ar
def Pc.str : Pc → Str
 | .w s => s
 | .nu s => s
 | .sp c => [c]
 | .sg c => [c]
 | .ar => [45, 62]
def wordK (s : Str) : Option Nat := if isWord s then some 4 else if nameB s then some 1 else if conB s then some 2 else none
def Pc.tok (i : Nat) : Pc → Option Tok
 | .w s => some ⟨(wordK s).getD 0, i, s, 0⟩
 | .nu s => some ⟨3, i, [], (numB s).getD 0⟩
 | .sp _ => none
 | .sg c => some ⟨5, i, [c], 0⟩
 | .ar => some ⟨5, i, sArr, 0⟩
def notB (p : UInt8 → Bool) : Str → Bool
 | [] => true
 | c :: _ => !p c
def Pc.ok (y : Str) : Pc → Bool
 | .w s => (match s with | c :: _ => lowerB c || upperB c | [] => false) && (s.all restB && ((wordK s).isSome && notB restB y))
 | .nu s => (match s with | c :: _ => digitB c | [] => false) && (s.all digitB && ((numB s).isSome && notB digitB y))
 | .sp c => Nat.beq c.toNat 32 || (Nat.beq c.toNat 9 || Nat.beq c.toNat 10)
 | .sg c => signB c
 | .ar => true
def textP : List Pc → Str → Str
 | [], y => y
 | a :: l, y => a.str ++ textP l y
def okP : List Pc → Str → Bool
 | [], _ => true
 | a :: l, y => a.ok (textP l y) && okP l y
def lenP : List Pc → Nat
 | [] => 0
 | a :: l => a.str.length + lenP l
def toksP : Nat → List Pc → List Tok
 | _, [] => []
 | i, a :: l => (a.tok i).toList ++ toksP (i + a.str.length) l
def consTs : List Tok → Lexed → Lexed
 | [], x => x
 | t :: l, x => consT t (consTs l x)
theorem consTs_app (l m : List Tok) (x : Lexed) : consTs (l ++ m) x = consTs l (consTs m x) := by
 induction l with
 | nil => rfl
 | cons t l ih => simp [consTs, ih]
theorem spanB_app (p : UInt8 → Bool) : ∀ (s y : Str), s.all p = true → notB p y = true → spanB p (s ++ y) = (s, y)
 | [], [], _, _ => rfl
 | [], c :: y, _, h => by
  simp only [notB, Bool.not_eq_true'] at h
  simp [spanB, h]
 | c :: s, y, h, hy => by
  simp only [List.all_cons, Bool.and_eq_true] at h
  simp only [List.cons_append, spanB, h.1, spanB_app p s y h.2 hy]
theorem letter_no {c : UInt8} (h : (lowerB c || upperB c) = true) : (Nat.beq c.toNat 32 || (Nat.beq c.toNat 9 || Nat.beq c.toNat 10)) = false ∧ Nat.beq c.toNat 45 = false := by
 simp only [lowerB, upperB, Bool.or_eq_true, Bool.and_eq_true, Nat.ble_eq] at h
 have h2 : ∀ k, k < 60 → Nat.beq c.toNat k = false := fun k hk => by
  cases hb : Nat.beq c.toNat k with
  | false => rfl
  | true => rw [Nat.beq_eq] at hb; omega
 rw [h2 32 (by omega), h2 9 (by omega), h2 10 (by omega), h2 45 (by omega)]
 exact ⟨rfl, rfl⟩
theorem digit_no {c : UInt8} (h : digitB c = true) : (Nat.beq c.toNat 32 || (Nat.beq c.toNat 9 || Nat.beq c.toNat 10)) = false ∧ Nat.beq c.toNat 45 = false ∧ (lowerB c || upperB c) = false := by
 simp only [digitB, Bool.and_eq_true, Nat.ble_eq] at h
 have h2 : ∀ k, k < 48 → Nat.beq c.toNat k = false := fun k hk => by
  cases hb : Nat.beq c.toNat k with
  | false => rfl
  | true => rw [Nat.beq_eq] at hb; omega
 have h3 : ∀ k, 58 ≤ k → Nat.ble k c.toNat = false := fun k hk => by
  cases hb : Nat.ble k c.toNat with
  | false => rfl
  | true => rw [Nat.ble_eq] at hb; omega
 rw [h2 32 (by omega), h2 9 (by omega), h2 10 (by omega), h2 45 (by omega)]
 simp [lowerB, upperB, h3 97 (by omega), h3 65 (by omega)]
theorem sign_no {c : UInt8} (h : signB c = true) : (Nat.beq c.toNat 32 || (Nat.beq c.toNat 9 || Nat.beq c.toNat 10)) = false ∧ Nat.beq c.toNat 45 = false ∧ (lowerB c || upperB c) = false ∧ digitB c = false := by
 simp only [signB, Bool.or_eq_true, Nat.beq_eq] at h
 rcases h with h | h | h | h | h | h | h | h | h <;> (simp only [lowerB, upperB, digitB, h]; decide)
theorem lex1_pc (a : Pc) (y : Str) (i : Nat) (h : a.ok y = true) : ∃ c l, a.str ++ y = c :: l ∧ lex1 i c l = (match a.tok i with | some t => .tok t (i + a.str.length) y | none => .skip (i + a.str.length) y) := by
 cases a with
 | w s =>
  cases s with
  | nil => simp [Pc.ok] at h
  | cons c l =>
   simp only [Pc.ok, Bool.and_eq_true] at h
   obtain ⟨h1, h2, h3, h4⟩ := h
   obtain ⟨n1, n2⟩ := letter_no h1
   refine ⟨c, l ++ y, rfl, ?_⟩
   have hs := spanB_app restB (c :: l) y h2 h4
   unfold lex1
   simp only [n1, n2, h1, Bool.false_and, Bool.false_eq_true, if_false, if_true]
   rw [List.cons_append] at hs
   rw [hs]
   simp only [Pc.tok, Pc.str]
   unfold wordK at h3 ⊢
   split
   ·rfl
   ·rename_i hw
    simp only [hw, if_false] at h3 ⊢
    split
    ·rfl
    ·rename_i hn
     simp only [hn, if_false] at h3 ⊢
     split
     ·rfl
     ·rename_i hc
      simp [hc] at h3
 | nu s =>
  cases s with
  | nil => simp [Pc.ok] at h
  | cons c l =>
   simp only [Pc.ok, Bool.and_eq_true] at h
   obtain ⟨h1, h2, h3, h4⟩ := h
   obtain ⟨n1, n2, n3⟩ := digit_no h1
   refine ⟨c, l ++ y, rfl, ?_⟩
   have hs := spanB_app digitB (c :: l) y h2 h4
   unfold lex1
   simp only [n1, n2, n3, h1, Bool.false_and, Bool.false_eq_true, if_false, if_true]
   rw [List.cons_append] at hs
   rw [hs]
   simp only [Pc.tok, Pc.str]
   cases hn : numB (c :: l) with
   | none => rw [hn] at h3; cases h3
   | some n => rfl
 | sp c =>
  simp only [Pc.ok] at h
  refine ⟨c, y, rfl, ?_⟩
  unfold lex1
  simp only [h, if_true, Pc.tok, Pc.str, List.length_singleton]
 | sg c =>
  simp only [Pc.ok] at h
  obtain ⟨n1, n2, n3, n4⟩ := sign_no h
  refine ⟨c, y, rfl, ?_⟩
  unfold lex1
  simp only [n1, n2, n3, n4, h, Bool.false_and, Bool.false_eq_true, if_false, if_true, Pc.tok, Pc.str, List.length_singleton]
 | ar =>
  refine ⟨45, 62 :: y, rfl, ?_⟩
  rfl
theorem lex_pieces : ∀ (l : List Pc) (y : Str), okP l y = true → ∀ (i n : Nat), (textP l y).length + 1 ≤ n → ∃ n', y.length + 1 ≤ n' ∧ lexF n i (textP l y) = consTs (toksP i l) (lexF n' (i + lenP l) y)
 | [], y, _, i, n, hn => ⟨n, hn, by simp [textP, toksP, consTs, lenP]⟩
 | a :: l, y, h, i, n, hn => by
  simp only [okP, Bool.and_eq_true] at h
  obtain ⟨c, l', h1, h2⟩ := lex1_pc a (textP l y) i h.1
  obtain ⟨m, rfl⟩ : ∃ m, n = m + 1 := ⟨n - 1, by omega⟩
  have hlen : 1 ≤ a.str.length := by
   cases a with
   | w s => cases s with | nil => simp [Pc.ok] at h | cons c s => simp [Pc.str]
   | nu s => cases s with | nil => simp [Pc.ok] at h | cons c s => simp [Pc.str]
   | sp c => simp [Pc.str]
   | sg c => simp [Pc.str]
   | ar => simp [Pc.str]
  obtain ⟨n', hn', ih⟩ := lex_pieces l y h.2 (i + a.str.length) m (by
   simp only [textP, List.length_append] at hn
   omega)
  refine ⟨n', hn', ?_⟩
  have e1 : textP (a :: l) y = c :: l' := by simp only [textP]; exact h1
  have e2 : i + lenP (a :: l) = i + a.str.length + lenP l := by simp only [lenP]; omega
  rw [e1, e2]
  simp only [lexF, h2, toksP]
  cases ht : a.tok i with
  | none => simp only [Option.toList, List.nil_append]; exact ih
  | some t => simp only [Option.toList, List.singleton_append, consTs]; rw [ih]
theorem lex_whole {l : List Pc} (h : okP l [] = true) (hl : (textP l []).length ≤ 65536) : lex (textP l []) = .ok (toksP 0 l) := by
 obtain ⟨n', hn, e⟩ := lex_pieces l [] h 0 ((textP l []).length + 1) (Nat.le_refl _)
 unfold lex
 rw [if_pos (by rw [Nat.ble_eq]; exact hl), e]
 obtain ⟨m, rfl⟩ : ∃ m, n' = m + 1 := ⟨n' - 1, by simp at hn; omega⟩
 have : ∀ ts : List Tok, consTs ts (.ok []) = .ok ts := fun ts => by
  induction ts with
  | nil => rfl
  | cons t ts ih => simp [consTs, ih, consT]
 simp only [lexF, this]
end Go.Am.Ps
namespace Go.Am.Ps
theorem placeF_two : ∀ (l : List Str) (i : Nat) (s : Str), (∃ k : Nat, placeF i l s = .ofNat k) ∨ placeF i l s = -1
 | [], _, _ => .inr rfl
 | a :: l, i, s => by
  simp only [placeF]
  split
  ·exact .inl ⟨i, rfl⟩
  ·exact placeF_two l (i + 1) s
def begA : List Tok → Bool
 | [] => false
 | t :: _ => Nat.beq t.k 1 || (Nat.beq t.k 2 || (Nat.beq t.k 5 && eqS t.s sOpen))
def isSg (s : Str) : List Tok → Bool
 | [] => false
 | t :: _ => Nat.beq t.k 5 && eqS t.s s
theorem atypic_eq (j a : Nat) (r : List Tok) : (⟨j, r, false, a⟩ : PS).atypic = begA r := by
 cases r with
 | nil => rfl
 | cons t r => simp [PS.atypic, PS.peek, begA, sOpen]
theorem peek_sg (j a : Nat) (r : List Tok) (c : UInt8) (s : Str) : (⟨j, r, false, a⟩ : PS).peek 5 (c :: s) = isSg (c :: s) r := by
 cases r with
 | nil => rfl
 | cons t r => simp [PS.peek, isSg]
variable (E : Nat) (vs : List Str)
theorem atype_var (n j a : Nat) (t : Tok) (r : List Tok) (hk : t.k = 1) : ∃ (m : Int) (s : Str), atype E vs (n + 1) ⟨j, t :: r, false, a⟩ = (.mk 1 m s [], ⟨j + 1, r, false, a⟩) := by
 have ha : (⟨j, t :: r, false, a⟩ : PS).atypic = true := by rw [atypic_eq]; simp [begA, hk]
 rcases placeF_two vs 0 t.s with ⟨k, hp⟩ | hp
 ·refine ⟨k, [], ?_⟩
  simp only [atype, ha, hk, place, hp]
  rfl
 ·refine ⟨-1, t.s, ?_⟩
  simp only [atype, ha, hk, place, hp]
  rfl
theorem atype_con' (n j a : Nat) (t : Tok) (r : List Tok) (hk : t.k = 2) : atype E vs (n + 1) ⟨j, t :: r, false, a⟩ = (.mk 2 0 t.s [], ⟨j + 1, r, false, a⟩) := by
 have ha : (⟨j, t :: r, false, a⟩ : PS).atypic = true := by rw [atypic_eq]; simp [begA, hk]
 simp only [atype, ha, hk]
 rfl
theorem targs_end (n j a : Nat) (r : List Tok) (h : begA r = false) : targs E vs (n + 1) ⟨j, r, false, a⟩ = ([], ⟨j, r, false, a⟩) := by
 have ha : (⟨j, r, false, a⟩ : PS).atypic = false := by rw [atypic_eq]; exact h
 simp only [targs, ha]
theorem targs_more (n j a : Nat) (r : List Tok) (h : begA r = true) {x : Ty} {p : PS} (hx : atype E vs n ⟨j, r, false, a⟩ = (x, p)) {l : List Ty} {q : PS} (hl : targs E vs n p = (l, q)) : targs E vs (n + 1) ⟨j, r, false, a⟩ = (x :: l, q) := by
 have ha : (⟨j, r, false, a⟩ : PS).atypic = true := by rw [atypic_eq]; exact h
 simp only [targs, ha, hx, hl]
theorem typ_plain (n j a : Nat) (t : Tok) (r : List Tok) (hk : Nat.beq t.k 2 = false) {x : Ty} {j' : Nat} {r' : List Tok} (hx : atype E vs n ⟨j, t :: r, false, a⟩ = (x, ⟨j', r', false, a⟩)) (hr : isSg sArr r' = false) : typ E vs (n + 1) ⟨j, t :: r, false, a⟩ = (x, ⟨j', r', false, a⟩) := by
 have hp : (⟨j, t :: r, false, a⟩ : PS).peek 2 [] = false := by simp [PS.peek, hk]
 obtain ⟨k, m, s, ks⟩ := x
 have ht : (⟨j', r', false, a⟩ : PS).try_ sArr = (false, ⟨j', r', false, a⟩) := by
  unfold PS.try_
  have := peek_sg j' a r' 45 [62]
  unfold sArr at hr ⊢
  rw [this, hr]
 simp only [typ, hp, hx, ht, List.append_nil]
theorem typ_con' (n j a : Nat) (t : Tok) (r : List Tok) (hk : t.k = 2) {l : List Ty} {j' : Nat} {r' : List Tok} (hl : targs E vs (n + 1) ⟨j + 1, r, false, a⟩ = (l, ⟨j', r', false, a⟩)) (hr : isSg sArr r' = false) : typ E vs (n + 2) ⟨j, t :: r, false, a⟩ = (.mk 2 0 t.s l, ⟨j', r', false, a⟩) := by
 have hp : (⟨j, t :: r, false, a⟩ : PS).peek 2 [] = true := by simp [PS.peek, hk]
 have hx := atype_con' E vs n j a t r hk
 have ht : (⟨j', r', false, a⟩ : PS).try_ sArr = (false, ⟨j', r', false, a⟩) := by
  unfold PS.try_
  have := peek_sg j' a r' 45 [62]
  unfold sArr at hr ⊢
  rw [this, hr]
 have e : typ E vs (n + 2) ⟨j, t :: r, false, a⟩ = (match PS.try_ (targs E vs (n + 1) (atype E vs (n + 1) ⟨j, t :: r, false, a⟩).2).2 sArr with
  | (true, p) => (.mk 2 0 sArr [(match (atype E vs (n + 1) ⟨j, t :: r, false, a⟩).1 with | .mk k m s ks => Ty.mk k m s (ks ++ (targs E vs (n + 1) (atype E vs (n + 1) ⟨j, t :: r, false, a⟩).2).1)), (typ E vs (n + 1) p).1], (typ E vs (n + 1) p).2)
  | (false, p) => ((match (atype E vs (n + 1) ⟨j, t :: r, false, a⟩).1 with | .mk k m s ks => Ty.mk k m s (ks ++ (targs E vs (n + 1) (atype E vs (n + 1) ⟨j, t :: r, false, a⟩).2).1)), p)) := by
  conv => lhs; unfold typ
  simp only [hp]
  rfl
 rw [e, hx]
 simp only
 rw [hl]
 simp only [ht, List.nil_append]
end Go.Am.Ps
namespace Go.Am.Ps
def endT (r : List Tok) : Bool := !(begA r) && !(isSg sArr r)
variable (E : Nat) (vs : List Str)
theorem trest_end (n k j a : Nat) (r : List Tok) (h : isSg sCom r = false) : trest E vs (n + 1) k ⟨j, r, false, a⟩ = (some [], ⟨j, r, false, a⟩) := by
 have hp : (⟨j, r, false, a⟩ : PS).peek 5 sCom = false := by unfold sCom at h ⊢; rw [peek_sg]; exact h
 simp only [trest, hp]
theorem trest_more (n k j a : Nat) (t : Tok) (r : List Tok) (h : isSg sCom (t :: r) = true) (hk : k ≠ 8) {x : Ty} {p : PS} (hx : typ E vs n ⟨j + 1, r, false, a⟩ = (x, p)) {l : List Ty} {q : PS} (hl : trest E vs n (k + 1) p = (some l, q)) : trest E vs (n + 1) k ⟨j, t :: r, false, a⟩ = (some (x :: l), q) := by
 have hp : (⟨j, t :: r, false, a⟩ : PS).peek 5 sCom = true := by unfold sCom at h ⊢; rw [peek_sg]; exact h
 have hk' : ¬ (Nat.beq k 8 = true) := by rw [Nat.beq_eq]; exact hk
 have hn : (⟨j, t :: r, false, a⟩ : PS).next = ⟨j + 1, r, false, a⟩ := rfl
 simp only [trest, hp, if_neg hk', hn, hx, hl]
theorem sign_close (j a : Nat) (u : Tok) (r : List Tok) (h : isSg sClose (u :: r) = true) : (⟨j, u :: r, false, a⟩ : PS).sign E sClose = ⟨j + 1, r, false, a⟩ := by
 have hp : (⟨j, u :: r, false, a⟩ : PS).peek 5 sClose = true := by unfold sClose at h ⊢; rw [peek_sg]; exact h
 simp only [PS.sign, PS.eat, hp]
 rfl
theorem atype_open (n j a : Nat) (t : Tok) (r : List Tok) (hk : t.k = 5) (hs : eqS t.s sOpen = true) {x : Ty} {p : PS} (hx : typ E vs n ⟨j + 1, r, false, a⟩ = (x, p)) {l : List Ty} {j' : Nat} {u : Tok} {r' : List Tok} (hl : trest E vs n 1 p = (some l, ⟨j', u :: r', false, a⟩)) (hu : isSg sClose (u :: r') = true) :
  atype E vs (n + 1) ⟨j, t :: r, false, a⟩ = ((match l with | [] => x | _ => .mk 2 0 sCom (x :: l)), ⟨j' + 1, r', false, a⟩) := by
 have ha : (⟨j, t :: r, false, a⟩ : PS).atypic = true := by rw [atypic_eq]; simp [begA, hk, hs]
 have hn : (⟨j, t :: r, false, a⟩ : PS).next = ⟨j + 1, r, false, a⟩ := rfl
 cases l with
 | nil => simp only [atype, ha, hk, hn, hx, hl, sign_close E j' a u r' hu]
 | cons y l => simp only [atype, ha, hk, hn, hx, hl, sign_close E j' a u r' hu]
theorem typ_arrow (n j a : Nat) (t : Tok) (r : List Tok) (hk : Nat.beq t.k 2 = false) {x : Ty} {j' : Nat} {u : Tok} {r' : List Tok} (hx : atype E vs n ⟨j, t :: r, false, a⟩ = (x, ⟨j', u :: r', false, a⟩)) (hu : isSg sArr (u :: r') = true) {y : Ty} {q : PS} (hy : typ E vs n ⟨j' + 1, r', false, a⟩ = (y, q)) :
  typ E vs (n + 1) ⟨j, t :: r, false, a⟩ = (.mk 2 0 sArr [x, y], q) := by
 have hp : (⟨j, t :: r, false, a⟩ : PS).peek 2 [] = false := by simp [PS.peek, hk]
 obtain ⟨k, m, s, ks⟩ := x
 have ht : (⟨j', u :: r', false, a⟩ : PS).try_ sArr = (true, ⟨j' + 1, r', false, a⟩) := by
  unfold PS.try_
  have := peek_sg j' a (u :: r') 45 [62]
  unfold sArr at hu ⊢
  rw [this, hu]
  rfl
 simp only [typ, hp, hx, ht, hy, List.append_nil]
theorem typ_con_arrow (n j a : Nat) (t : Tok) (r : List Tok) (hk : t.k = 2) {l : List Ty} {j' : Nat} {u : Tok} {r' : List Tok} (hl : targs E vs (n + 1) ⟨j + 1, r, false, a⟩ = (l, ⟨j', u :: r', false, a⟩)) (hu : isSg sArr (u :: r') = true) {y : Ty} {q : PS} (hy : typ E vs (n + 1) ⟨j' + 1, r', false, a⟩ = (y, q)) :
  typ E vs (n + 2) ⟨j, t :: r, false, a⟩ = (.mk 2 0 sArr [.mk 2 0 t.s l, y], q) := by
 have hp : (⟨j, t :: r, false, a⟩ : PS).peek 2 [] = true := by simp [PS.peek, hk]
 have hx := atype_con' E vs n j a t r hk
 have ht : (⟨j', u :: r', false, a⟩ : PS).try_ sArr = (true, ⟨j' + 1, r', false, a⟩) := by
  unfold PS.try_
  have := peek_sg j' a (u :: r') 45 [62]
  unfold sArr at hu ⊢
  rw [this, hu]
  rfl
 have e : typ E vs (n + 2) ⟨j, t :: r, false, a⟩ = (match PS.try_ (targs E vs (n + 1) (atype E vs (n + 1) ⟨j, t :: r, false, a⟩).2).2 sArr with
  | (true, p) => (.mk 2 0 sArr [(match (atype E vs (n + 1) ⟨j, t :: r, false, a⟩).1 with | .mk k m s ks => Ty.mk k m s (ks ++ (targs E vs (n + 1) (atype E vs (n + 1) ⟨j, t :: r, false, a⟩).2).1)), (typ E vs (n + 1) p).1], (typ E vs (n + 1) p).2)
  | (false, p) => ((match (atype E vs (n + 1) ⟨j, t :: r, false, a⟩).1 with | .mk k m s ks => Ty.mk k m s (ks ++ (targs E vs (n + 1) (atype E vs (n + 1) ⟨j, t :: r, false, a⟩).2).1)), p)) := by
  conv => lhs; unfold typ
  simp only [hp]
  rfl
 rw [e, hx]
 simp only
 rw [hl]
 simp only [ht, List.nil_append]
 rw [hy]
end Go.Am.Ps
namespace Go.Am.Ps
theorem incI_le (n : Int) : incI n ≤ n + 1 := by unfold incI; split <;> omega
theorem maxI_le {a b d : Int} (h1 : a ≤ d) (h2 : b ≤ d) : maxI a b ≤ d := by unfold maxI; split <;> omega
theorem deepTs_le {d : Int} : ∀ {l : List Ty} {m : Int}, m ≤ d → (∀ t ∈ l, deepT t ≤ d) → deepTs m l ≤ d
 | [], m, h, _ => by unfold deepTs; exact h
 | t :: l, m, h, hl => by
  unfold deepTs
  exact deepTs_le (maxI_le h (hl t (by simp))) (fun x hx => hl x (by simp [hx]))
theorem deepT_mk {d : Int} (hd : 0 ≤ d) {k : Nat} {n : Int} {s : Str} {ks : List Ty} (h : ∀ t ∈ ks, deepT t ≤ d) : deepT (.mk k n s ks) ≤ d + 1 := by
 unfold deepT
 have := deepTs_le (m := 0) hd h
 have := incI_le (deepTs 0 ks)
 omega
theorem begA_app {ts : List Tok} (h : begA ts = true) (R : List Tok) : begA (ts ++ R) = true := by
 cases ts with
 | nil => cases h
 | cons t ts => exact h
def AP (N : Nat) (ts : List Tok) (d : Int) : Prop := begA ts = true ∧ ∀ n, N ≤ n → ∀ (E : Nat) (vs : List Str) (R : List Tok) (j a : Nat), ∃ x j', atype E vs n ⟨j, ts ++ R, false, a⟩ = (x, ⟨j', R, false, a⟩) ∧ deepT x ≤ d
def LP (N : Nat) (ts : List Tok) (d : Int) : Prop := ∀ n, N ≤ n → ∀ (E : Nat) (vs : List Str) (R : List Tok) (j a : Nat), begA R = false → ∃ l j', targs E vs n ⟨j, ts ++ R, false, a⟩ = (l, ⟨j', R, false, a⟩) ∧ ∀ t ∈ l, deepT t ≤ d
def TP (N : Nat) (ts : List Tok) (d : Int) : Prop := ∀ n, N ≤ n → ∀ (E : Nat) (vs : List Str) (R : List Tok) (j a : Nat), endT R = true → ∃ x j', typ E vs n ⟨j, ts ++ R, false, a⟩ = (x, ⟨j', R, false, a⟩) ∧ deepT x ≤ d
theorem endT_1 {R : List Tok} (h : endT R = true) : begA R = false ∧ isSg sArr R = false := by
 simpa [endT] using h
theorem AP_var {t : Tok} (hk : t.k = 1) {d : Int} (hd : 1 ≤ d) : AP 1 [t] d := by
 refine ⟨by simp [begA, hk], fun n hn E vs R j a => ?_⟩
 obtain ⟨n, rfl⟩ : ∃ m, n = m + 1 := ⟨n - 1, by omega⟩
 obtain ⟨m, s, h⟩ := atype_var E vs n j a t R hk
 refine ⟨_, _, h, ?_⟩
 have := deepT_mk (d := 0) (by omega) (k := 1) (n := m) (s := s) (ks := []) (by simp)
 omega
theorem AP_con {t : Tok} (hk : t.k = 2) {d : Int} (hd : 1 ≤ d) : AP 1 [t] d := by
 refine ⟨by simp [begA, hk], fun n hn E vs R j a => ?_⟩
 obtain ⟨n, rfl⟩ : ∃ m, n = m + 1 := ⟨n - 1, by omega⟩
 refine ⟨_, _, atype_con' E vs n j a t R hk, ?_⟩
 have := deepT_mk (d := 0) (by omega) (k := 2) (n := 0) (s := t.s) (ks := []) (by simp)
 omega
theorem LP_nil (d : Int) : LP 1 [] d := by
 intro n hn E vs R j a hR
 obtain ⟨n, rfl⟩ : ∃ m, n = m + 1 := ⟨n - 1, by omega⟩
 exact ⟨[], j, targs_end E vs n j a R hR, by simp⟩
theorem LP_cons {N1 N2 : Nat} {ts us : List Tok} {d : Int} (h1 : AP N1 ts d) (h2 : LP N2 us d) : LP (N1 + N2 + 1) (ts ++ us) d := by
 obtain ⟨hb, h1⟩ := h1
 intro n hn E vs R j a hR
 obtain ⟨n, rfl⟩ : ∃ m, n = m + 1 := ⟨n - 1, by omega⟩
 obtain ⟨x, j1, a1, a2⟩ := h1 n (by omega) E vs (us ++ R) j a
 obtain ⟨l, j2, b1, b2⟩ := h2 n (by omega) E vs R j1 a hR
 rw [List.append_assoc]
 refine ⟨x :: l, j2, targs_more E vs n j a _ (begA_app hb _) a1 b1, fun t ht => ?_⟩
 rcases List.mem_cons.1 ht with rfl | ht
 ·exact a2
 ·exact b2 t ht
theorem TP_plain {N : Nat} {t : Tok} {ts : List Tok} {d : Int} (h : AP N (t :: ts) d) (hk : Nat.beq t.k 2 = false) : TP (N + 1) (t :: ts) d := by
 obtain ⟨_, h⟩ := h
 intro n hn E vs R j a hR
 obtain ⟨n, rfl⟩ : ∃ m, n = m + 1 := ⟨n - 1, by omega⟩
 obtain ⟨x, j1, a1, a2⟩ := h n (by omega) E vs R j a
 exact ⟨x, j1, typ_plain E vs n j a t (ts ++ R) hk a1 (endT_1 hR).2, a2⟩
theorem TP_app {N : Nat} {t : Tok} {ts : List Tok} {d : Int} (hd : 0 ≤ d) (hk : t.k = 2) (h : LP N ts d) : TP (N + 2) (t :: ts) (d + 1) := by
 intro n hn E vs R j a hR
 obtain ⟨n, rfl⟩ : ∃ m, n = m + 2 := ⟨n - 2, by omega⟩
 obtain ⟨l, j1, a1, a2⟩ := h (n + 1) (by omega) E vs R (j + 1) a (endT_1 hR).1
 exact ⟨_, j1, typ_con' E vs n j a t (ts ++ R) hk a1 (endT_1 hR).2, deepT_mk hd a2⟩
theorem arr_beg {u : Tok} (hu : isSg sArr [u] = true) (r : List Tok) : isSg sArr (u :: r) = true ∧ begA (u :: r) = false := by
 refine ⟨hu, ?_⟩
 simp only [isSg, Bool.and_eq_true, Nat.beq_eq] at hu
 obtain ⟨h1, h2⟩ := hu
 have h3 : eqS u.s sOpen = false := by
  cases hs : u.s with
  | nil => rfl
  | cons c l =>
   rw [hs] at h2
   simp only [sArr, eqS, Bool.and_eq_true, Nat.beq_eq] at h2
   simp [sOpen, eqS, h2.1]
 simp only [begA, h1, h3]
 decide
theorem TP_arr {N1 N2 : Nat} {t : Tok} {ts : List Tok} {u : Tok} {us : List Tok} {d : Int} (hd : 0 ≤ d) (h1 : AP N1 (t :: ts) d) (hk : Nat.beq t.k 2 = false) (hu : isSg sArr [u] = true) (h2 : TP N2 us d) : TP (N1 + N2 + 1) (t :: ts ++ u :: us) (d + 1) := by
 obtain ⟨_, h1⟩ := h1
 intro n hn E vs R j a hR
 obtain ⟨n, rfl⟩ : ∃ m, n = m + 1 := ⟨n - 1, by omega⟩
 obtain ⟨x, j1, a1, a2⟩ := h1 n (by omega) E vs (u :: (us ++ R)) j a
 obtain ⟨y, j2, b1, b2⟩ := h2 n (by omega) E vs R (j1 + 1) a hR
 have e : t :: ts ++ u :: us ++ R = t :: (ts ++ u :: (us ++ R)) := by simp
 rw [e]
 refine ⟨_, j2, typ_arrow E vs n j a t _ hk a1 (arr_beg hu _).1 b1, deepT_mk hd fun z hz => ?_⟩
 simp only [List.mem_cons, List.not_mem_nil, or_false] at hz
 rcases hz with rfl | rfl
 ·exact a2
 ·exact b2
theorem TP_con_arr {N1 N2 : Nat} {t : Tok} {ts : List Tok} {u : Tok} {us : List Tok} {d : Int} (hd : 0 ≤ d) (hk : t.k = 2) (h1 : LP N1 ts d) (hu : isSg sArr [u] = true) (h2 : TP N2 us (d + 1)) : TP (N1 + N2 + 2) (t :: ts ++ u :: us) (d + 2) := by
 intro n hn E vs R j a hR
 obtain ⟨n, rfl⟩ : ∃ m, n = m + 2 := ⟨n - 2, by omega⟩
 obtain ⟨l, j1, a1, a2⟩ := h1 (n + 1) (by omega) E vs (u :: (us ++ R)) (j + 1) a (arr_beg hu _).2
 obtain ⟨y, j2, b1, b2⟩ := h2 (n + 1) (by omega) E vs R (j1 + 1) a hR
 have e : t :: ts ++ u :: us ++ R = t :: (ts ++ u :: (us ++ R)) := by simp
 rw [e]
 refine ⟨_, j2, typ_con_arrow E vs n j a t _ hk a1 (arr_beg hu _).1 b1, ?_⟩
 have := deepT_mk (d := d + 1) (by omega) (k := 2) (n := 0) (s := sArr) (ks := [.mk 2 0 t.s l, y]) (fun z hz => by
  simp only [List.mem_cons, List.not_mem_nil, or_false] at hz
  rcases hz with rfl | rfl
  ·exact deepT_mk hd a2
  ·exact b2)
 omega
theorem end_of {u : Tok} {c : UInt8} (hu : isSg [c] [u] = true) (h1 : c ≠ 40) (h2 : c ≠ 45) (r : List Tok) : endT (u :: r) = true := by
 simp only [isSg, Bool.and_eq_true, Nat.beq_eq] at hu
 obtain ⟨k1, k2⟩ := hu
 cases hs : u.s with
 | nil => rw [hs] at k2; simp [eqS] at k2
 | cons x l =>
  rw [hs] at k2
  simp only [eqS, Bool.and_eq_true, Nat.beq_eq] at k2
  have hx : x = c := UInt8.toNat_inj.1 k2.1
  subst hx
  have n1 : Nat.beq x.toNat 40 = false := by
   cases hb : Nat.beq x.toNat 40 with
   | false => rfl
   | true => rw [Nat.beq_eq] at hb; exact absurd (UInt8.toNat_inj.1 (by rw [hb]; rfl)) h1
  have n2 : Nat.beq x.toNat 45 = false := by
   cases hb : Nat.beq x.toNat 45 with
   | false => rfl
   | true => rw [Nat.beq_eq] at hb; exact absurd (UInt8.toNat_inj.1 (by rw [hb]; rfl)) h2
  have e1 : eqS u.s sOpen = false := by rw [hs]; simp [sOpen, eqS, n1]
  have e2 : eqS u.s sArr = false := by rw [hs]; simp [sArr, eqS, n2]
  simp only [endT, begA, isSg, k1, e1, e2]
  decide
theorem AP_paren {N : Nat} {o c : Tok} {ts : List Tok} {d : Int} (hk : o.k = 5) (hs : eqS o.s sOpen = true) (h : TP N ts d) (hc : isSg sClose [c] = true) : AP (N + 2) (o :: ts ++ [c]) d := by
 refine ⟨by simp [begA, hk, hs], fun n hn E vs R j a => ?_⟩
 obtain ⟨n, rfl⟩ : ∃ m, n = m + 2 := ⟨n - 2, by omega⟩
 obtain ⟨x, j1, a1, a2⟩ := h (n + 1) (by omega) E vs (c :: R) (j + 1) a (end_of hc (by decide) (by decide) R)
 have e : o :: ts ++ [c] ++ R = o :: (ts ++ c :: R) := by simp
 rw [e]
 have hcm : isSg sCom (c :: R) = false := by
  simp only [isSg, Bool.and_eq_true, Nat.beq_eq] at hc ⊢
  cases hs : c.s with
  | nil => simp [eqS, sCom]
  | cons y l =>
   rw [hs] at hc
   simp only [sClose, eqS, Bool.and_eq_true, Nat.beq_eq] at hc
   simp [sCom, eqS, hc.2.1]
 exact ⟨_, _, atype_open E vs (n + 1) j a o _ hk hs a1 (trest_end E vs n 1 j1 a (c :: R) hcm) hc, a2⟩
theorem AP_pair {N1 N2 : Nat} {o m c : Tok} {ts us : List Tok} {d : Int} (hd : 0 ≤ d) (hk : o.k = 5) (hs : eqS o.s sOpen = true) (h : TP N1 ts d) (hm : isSg sCom [m] = true) (h' : TP N2 us d) (hc : isSg sClose [c] = true) : AP (N1 + N2 + 3) (o :: ts ++ m :: us ++ [c]) (d + 1) := by
 refine ⟨by simp [begA, hk, hs], fun n hn E vs R j a => ?_⟩
 obtain ⟨n, rfl⟩ : ∃ m, n = m + 3 := ⟨n - 3, by omega⟩
 obtain ⟨x, j1, a1, a2⟩ := h (n + 2) (by omega) E vs (m :: (us ++ c :: R)) (j + 1) a (end_of hm (by decide) (by decide) _)
 obtain ⟨y, j2, b1, b2⟩ := h' (n + 1) (by omega) E vs (c :: R) (j1 + 1) a (end_of hc (by decide) (by decide) R)
 have e : o :: ts ++ m :: us ++ [c] ++ R = o :: (ts ++ m :: (us ++ c :: R)) := by simp
 rw [e]
 have hcm : isSg sCom (c :: R) = false := by
  simp only [isSg, Bool.and_eq_true, Nat.beq_eq] at hc ⊢
  cases hs : c.s with
  | nil => simp [eqS, sCom]
  | cons y l =>
   rw [hs] at hc
   simp only [sClose, eqS, Bool.and_eq_true, Nat.beq_eq] at hc
   simp [sCom, eqS, hc.2.1]
 have ht := trest_more E vs (n + 1) 1 j1 a m (us ++ c :: R) hm (by decide) b1 (trest_end E vs n 2 j2 a (c :: R) hcm)
 refine ⟨_, _, atype_open E vs (n + 2) j a o _ hk hs a1 ht hc, ?_⟩
 exact deepT_mk hd fun z hz => by
  simp only [List.mem_cons, List.not_mem_nil, or_false] at hz
  rcases hz with rfl | rfl
  ·exact a2
  ·exact b2
end Go.Am.Ps
namespace Go.Am.Ps
def CP (N : Nat) (ts : List Tok) (d : Int) : Prop := ∀ n, N ≤ n → ∀ (E : Nat) (vs : List Str) (R : List Tok) (j a : Nat), begA R = false → ∃ c j', con E vs n ⟨j, ts ++ R, false, a⟩ = (c, ⟨j', R, false, a⟩) ∧ ∀ t ∈ c.as, deepT t ≤ d
theorem eat_k (E : Nat) (j a k : Nat) (t : Tok) (r : List Tok) (hk : t.k = k) : (⟨j, t :: r, false, a⟩ : PS).eat E k [] = (t, ⟨j + 1, r, false, a⟩) := by
 have hp : (⟨j, t :: r, false, a⟩ : PS).peek k [] = true := by simp [PS.peek, hk]
 simp only [PS.eat, hp]
 rfl
theorem sign_s (E : Nat) (j a : Nat) (c : UInt8) (s : Str) (u : Tok) (r : List Tok) (h : isSg (c :: s) (u :: r) = true) : (⟨j, u :: r, false, a⟩ : PS).sign E (c :: s) = ⟨j + 1, r, false, a⟩ := by
 have hp : (⟨j, u :: r, false, a⟩ : PS).peek 5 (c :: s) = true := by rw [peek_sg]; exact h
 simp only [PS.sign, PS.eat, hp]
 rfl
theorem CP_of {N : Nat} {t : Tok} {ts : List Tok} {d : Int} (hk : t.k = 2) (h : LP N ts d) : CP N (t :: ts) d := by
 intro n hn E vs R j a hR
 obtain ⟨l, j1, a1, a2⟩ := h n hn E vs R (j + 1) a hR
 refine ⟨⟨t.s, t.at_, l⟩, j1, ?_, a2⟩
 have e := eat_k E j a 2 t (ts ++ R) hk
 simp only [List.cons_append, con, e, a1]
theorem beg_of {u : Tok} {c : UInt8} (hu : isSg [c] [u] = true) (h1 : c ≠ 40) (h2 : c ≠ 45) (r : List Tok) : begA (u :: r) = false := (endT_1 (end_of hu h1 h2 r)).1
theorem namesF_all (a : Nat) : ∀ (l : List Tok) (R : List Tok) (j n : Nat), (∀ t ∈ l, t.k = 1) → (match R with | [] => true | t :: _ => !(Nat.beq t.k 1)) = true → l.length ≤ n → namesF n ⟨j, l ++ R, false, a⟩ = (l, ⟨j + l.length, R, false, a⟩)
 | [], R, j, 0, _, _, _ => rfl
 | [], R, j, n + 1, _, hR, _ => by
  have hp : (⟨j, R, false, a⟩ : PS).peek 1 [] = false := by
   cases R with
   | nil => rfl
   | cons t R => simpa [PS.peek] using hR
  simp only [List.nil_append, namesF, hp, List.length_nil, Nat.add_zero]
 | t :: l, R, j, 0, _, _, h => by simp at h
 | t :: l, R, j, n + 1, hl, hR, h => by
  have hp : (⟨j, t :: (l ++ R), false, a⟩ : PS).peek 1 [] = true := by simp [PS.peek, hl t (by simp)]
  have ih := namesF_all a l R (j + 1) n (fun x hx => hl x (by simp [hx])) hR (by simp at h; omega)
  have hn : (⟨j, t :: (l ++ R), false, a⟩ : PS).next = ⟨j + 1, l ++ R, false, a⟩ := rfl
  simp only [List.cons_append, namesF, hp, hn, ih, List.length_cons]
  congr 2
  omega
theorem names_all (a j : Nat) (l R : List Tok) (hl : ∀ t ∈ l, t.k = 1) (hR : (match R with | [] => true | t :: _ => !(Nat.beq t.k 1)) = true) : (⟨j, l ++ R, false, a⟩ : PS).names = (l, ⟨j + l.length, R, false, a⟩) := by
 unfold PS.names
 exact namesF_all a l R j _ hl hR (by simp)
theorem cons_none (E : Nat) (vs : List Str) (n m j a : Nat) (r : List Tok) (h : isSg sBar r = false) : cons E vs n (m + 1) ⟨j, r, false, a⟩ = ([], ⟨j, r, false, a⟩) := by
 have hp : (⟨j, r, false, a⟩ : PS).peek 5 sBar = false := by unfold sBar at h ⊢; rw [peek_sg]; exact h
 simp only [cons, hp]
theorem cons_one (E : Nat) (vs : List Str) (n m j a : Nat) (t : Tok) (r : List Tok) (h : isSg sBar (t :: r) = true) {c : Cn} {j' : Nat} {r' : List Tok} (hc : con E vs n ⟨j + 1, r, false, a⟩ = (c, ⟨j', r', false, a⟩)) (hr : isSg sBar r' = false) : cons E vs n (m + 2) ⟨j, t :: r, false, a⟩ = ([c], ⟨j', r', false, a⟩) := by
 have hp : (⟨j, t :: r, false, a⟩ : PS).peek 5 sBar = true := by unfold sBar at h ⊢; rw [peek_sg]; exact h
 have hn : (⟨j, t :: r, false, a⟩ : PS).next = ⟨j + 1, r, false, a⟩ := rfl
 rw [cons]
 simp only [hp, hn, hc, cons_none E vs n m j' a r' hr]
def DP (N : Nat) (ts : List Tok) : Prop := ts ≠ [] ∧ ∀ n, N ≤ n → ∀ (E : Nat) (out : Pg) (R : List Tok) (j a : Nat), ∃ d j', decl E n out ⟨j, ts ++ R, false, a⟩ = ({ out with ds := out.ds ++ [d] }, ⟨j', R, false, a⟩) ∧ ∀ c ∈ d.cs, ∀ t ∈ c.as, deepT t ≤ 10
theorem not_bar {u : Tok} (hu : isSg sSemi [u] = true) (r : List Tok) : isSg sBar (u :: r) = false := by
 simp only [isSg, Bool.and_eq_true, Nat.beq_eq] at hu ⊢
 cases hs : u.s with
 | nil => simp [eqS, sBar]
 | cons y l =>
  rw [hs] at hu
  simp only [sSemi, eqS, Bool.and_eq_true, Nat.beq_eq] at hu
  simp [sBar, eqS, hu.2.1]
def moreT : Option (Tok × List Tok) → List Tok
 | none => []
 | some (b, c2) => b :: c2
theorem DP_of {N : Nat} {w nm eq sc : Tok} {vl c1 : List Tok} {more : Option (Tok × List Tok)} (hw : w.k = 4) (hws : eqS w.s sData = true) (hn : nm.k = 2) (hv : ∀ t ∈ vl, t.k = 1) (he : isSg sEq [eq] = true) (h1 : CP N c1 10)
  (hm : ∀ b c2, more = some (b, c2) → isSg sBar [b] = true ∧ CP N c2 10) (hs : isSg sSemi [sc] = true) :
  DP (N + 2) (w :: nm :: (vl ++ eq :: (c1 ++ (moreT more ++ [sc])))) := by
 refine ⟨by simp, fun n hn' E out R j a => ?_⟩
 obtain ⟨n, rfl⟩ : ∃ m, n = m + 2 := ⟨n - 2, by omega⟩
 have hpk : (⟨j, w :: (nm :: (vl ++ eq :: (c1 ++ (moreT more ++ sc :: R)))), false, a⟩ : PS).peek 4 sData = true := by
  simp [PS.peek, hw, hws, sData] at hws ⊢
  try exact hws
 have e : w :: nm :: (vl ++ eq :: (c1 ++ (moreT more ++ [sc]))) ++ R = w :: (nm :: (vl ++ eq :: (c1 ++ (moreT more ++ sc :: R)))) := by simp
 rw [e]
 have hnx : (⟨j, w :: (nm :: (vl ++ eq :: (c1 ++ (moreT more ++ sc :: R)))), false, a⟩ : PS).next = ⟨j + 1, nm :: (vl ++ eq :: (c1 ++ (moreT more ++ sc :: R))), false, a⟩ := rfl
 have heat := eat_k E (j + 1) a 2 nm (vl ++ eq :: (c1 ++ (moreT more ++ sc :: R))) hn
 have hek : eq.k = 5 := by simp only [isSg, Bool.and_eq_true, Nat.beq_eq] at he; exact he.1
 have hnm := names_all a (j + 1 + 1) vl (eq :: (c1 ++ (moreT more ++ sc :: R))) hv (by simp only [hek]; decide)
 have hsg := sign_s E (j + 1 + 1 + vl.length) a 61 [] eq (c1 ++ (moreT more ++ sc :: R)) he
 generalize hvs : vl.map (·.s) = vs
 have hR1 : begA (moreT more ++ sc :: R) = false := by
  cases more with
  | none => exact beg_of hs (by decide) (by decide) R
  | some q => exact beg_of (hm q.1 q.2 rfl).1 (by decide) (by decide) _
 obtain ⟨c, j1, a1, a2⟩ := h1 (n + 2) (by omega) E vs _ (j + 1 + 1 + vl.length + 1) a hR1
 have hcs : ∃ l j2, cons E vs (n + 2) (n + 2) ⟨j1, moreT more ++ sc :: R, false, a⟩ = (l, ⟨j2, sc :: R, false, a⟩) ∧ ∀ c ∈ l, ∀ t ∈ c.as, deepT t ≤ 10 := by
  cases more with
  | none => exact ⟨[], j1, cons_none E vs (n + 2) (n + 1) j1 a (sc :: R) (not_bar hs R), by simp⟩
  | some q =>
   obtain ⟨hb, hc2⟩ := hm q.1 q.2 rfl
   obtain ⟨c', j2, b1, b2⟩ := hc2 (n + 2) (by omega) E vs (sc :: R) (j1 + 1) a (beg_of hs (by decide) (by decide) R)
   refine ⟨[c'], j2, cons_one E vs (n + 2) n j1 a q.1 (q.2 ++ sc :: R) hb b1 (not_bar hs R), fun x hx => ?_⟩
   simp only [List.mem_singleton] at hx
   subst hx
   exact b2
 obtain ⟨l, j2, b1, b2⟩ := hcs
 have hse := sign_s E j2 a 59 [] sc R hs
 refine ⟨⟨nm.s, nm.at_, vs, c :: l⟩, j2 + 1, ?_, fun x hx => ?_⟩
 ·unfold decl
  simp only [hpk, hnx, heat, hnm, hvs]
  simp only [sEq, sSemi]
  simp only [hsg, a1, b1, hse]
 ·rcases List.mem_cons.1 hx with rfl | hx
  ·exact a2
  ·exact b2 x hx
theorem decls_all {N : Nat} : ∀ (L : List (List Tok)), (∀ ts ∈ L, DP N ts) → ∀ (n m : Nat) (E : Nat) (out : Pg) (j a : Nat), N ≤ n → L.length ≤ m → ∃ ds j', decls E n m out ⟨j, L.flatten, false, a⟩ = ({ out with ds := out.ds ++ ds }, ⟨j', [], false, a⟩) ∧ ∀ d ∈ ds, ∀ c ∈ d.cs, ∀ t ∈ c.as, deepT t ≤ 10
 | [], h, n, m, E, out, j, a, hn, hm => by
  refine ⟨[], j, ?_, by simp⟩
  cases m with
  | zero => simp [decls]
  | succ m => simp [decls]
 | ts :: L, h, n, m, E, out, j, a, hn, hm => by
  obtain ⟨m, rfl⟩ : ∃ k, m = k + 1 := ⟨m - 1, by simp at hm; omega⟩
  obtain ⟨hne, hd⟩ := h ts (by simp)
  obtain ⟨d, j1, a1, a2⟩ := hd n hn E out L.flatten j a
  obtain ⟨ds, j2, b1, b2⟩ := decls_all L (fun x hx => h x (by simp [hx])) n m E { out with ds := out.ds ++ [d] } j1 a hn (by simp at hm; omega)
  refine ⟨d :: ds, j2, ?_, fun x hx => ?_⟩
  ·cases ts with
   | nil => exact absurd rfl hne
   | cons t ts =>
    simp only [List.flatten_cons, List.cons_append] at a1 ⊢
    simp only [decls, a1, b1]
    simp
  ·rcases List.mem_cons.1 hx with rfl | hx
   ·exact a2
   ·exact b2 x hx
end Go.Am.Ps
namespace Go.Am.Ps
theorem toksP_app : ∀ (l m : List Pc) (i : Nat), toksP i (l ++ m) = toksP i l ++ toksP (i + lenP l) m
 | [], m, i => by simp [toksP, lenP]
 | a :: l, m, i => by
  simp only [List.cons_append, toksP, lenP, toksP_app l m, List.append_assoc]
  congr 3
  omega
theorem textP_app : ∀ (l m : List Pc) (y : Str), textP (l ++ m) y = textP l (textP m y)
 | [], m, y => rfl
 | a :: l, m, y => by simp only [List.cons_append, textP, textP_app l m y]
theorem okP_app : ∀ (l m : List Pc) (y : Str), okP (l ++ m) y = (okP l (textP m y) && okP m y)
 | [], m, y => by simp [okP]
 | a :: l, m, y => by simp only [List.cons_append, okP, okP_app l m y, textP_app, Bool.and_assoc]
theorem tooT_none (a : Nat) : ∀ l : List Ty, (∀ t ∈ l, deepT t ≤ 10) → tooT a none l = none
 | [], _ => rfl
 | t :: l, h => by
  have := h t (by simp)
  have h1 : ¬ (60 < deepT t) := by omega
  simp only [tooT, if_neg h1]
  exact tooT_none a l (fun x hx => h x (by simp [hx]))
theorem tooC_none : ∀ l : List Cn, (∀ c ∈ l, ∀ t ∈ c.as, deepT t ≤ 10) → tooC none l = none
 | [], _ => rfl
 | c :: l, h => by
  simp only [tooC, tooT_none c.a c.as (h c (by simp))]
  exact tooC_none l (fun x hx => h x (by simp [hx]))
theorem tooD_none : ∀ l : List Da, (∀ d ∈ l, ∀ c ∈ d.cs, ∀ t ∈ c.as, deepT t ≤ 10) → tooD none l = none
 | [], _ => rfl
 | d :: l, h => by
  simp only [tooD, tooC_none d.cs (h d (by simp))]
  exact tooD_none l (fun x hx => h x (by simp [hx]))
def toksL : Nat → List (List Pc) → List (List Tok)
 | _, [] => []
 | i, P :: L => toksP i P :: toksL (i + lenP P) L
theorem toksL_flat : ∀ (L : List (List Pc)) (i : Nat), toksP i L.flatten = (toksL i L).flatten
 | [], i => rfl
 | P :: L, i => by simp only [List.flatten_cons, toksP_app, toksL, toksL_flat L]
theorem toksL_mem : ∀ (L : List (List Pc)) (i : Nat) (ts : List Tok), ts ∈ toksL i L → ∃ P ∈ L, ∃ k, ts = toksP k P
 | [], i, ts, h => by cases h
 | P :: L, i, ts, h => by
  rcases List.mem_cons.1 h with rfl | h
  ·exact ⟨P, by simp, i, rfl⟩
  ·obtain ⟨Q, h1, k, h2⟩ := toksL_mem L _ ts h
   exact ⟨Q, by simp [h1], k, h2⟩
theorem toksL_len : ∀ (L : List (List Pc)) (i : Nat), (toksL i L).length = L.length
 | [], i => rfl
 | P :: L, i => by simp [toksL, toksL_len L]
theorem flat_len : ∀ L : List (List Tok), (∀ ts ∈ L, ts ≠ []) → L.length ≤ L.flatten.length
 | [], _ => by simp
 | ts :: L, h => by
  have h1 := flat_len L (fun x hx => h x (by simp [hx]))
  have h2 : ts ≠ [] := h ts (by simp)
  cases ts with
  | nil => exact absurd rfl h2
  | cons t ts =>
   rw [List.flatten_cons, List.length_append]
   simp only [List.length_cons]
   omega
theorem ok_flat : ∀ (L : List (List Pc)) (y : Str), (∀ P ∈ L, ∀ y, okP P y = true) → okP L.flatten y = true
 | [], y, _ => rfl
 | P :: L, y, h => by
  rw [List.flatten_cons, okP_app, h P (by simp), ok_flat L y (fun Q hQ => h Q (by simp [hQ]))]
  rfl
theorem parse_decls {N : Nat} (hN : N ≤ 40) (L : List (List Pc)) (hD : ∀ P ∈ L, ∀ i, DP N (toksP i P)) (hok : ∀ P ∈ L, ∀ y, okP P y = true) (hlen : (textP L.flatten []).length ≤ 65536) : ∃ p, parse (textP L.flatten []) = .ok p := by
 have hl := lex_whole (ok_flat L [] hok) hlen
 have hDP : ∀ ts ∈ toksL 0 L, DP N ts := fun ts h => by
  obtain ⟨P, h1, k, rfl⟩ := toksL_mem L 0 ts h
  exact hD P h1 k
 have hcount := flat_len (toksL 0 L) (fun ts h => (hDP ts h).1)
 obtain ⟨ds, j', e1, e2⟩ := decls_all (toksL 0 L) hDP (8 * (toksP 0 L.flatten).length + 40) ((toksP 0 L.flatten).length + 1) (textP L.flatten []).length ⟨[], []⟩ 0 0 (by omega) (by rw [toksL_flat]; omega)
 rw [← toksL_flat] at e1
 refine ⟨⟨[] ++ ds, []⟩, ?_⟩
 unfold parse
 rw [hl]
 simp only
 rw [e1]
 have ht : tooDeep ⟨[] ++ ds, []⟩ = none := by
  unfold tooDeep
  simp only [tooB, List.nil_append]
  exact tooD_none ds e2
 simp only [ht]
end Go.Am.Ps
