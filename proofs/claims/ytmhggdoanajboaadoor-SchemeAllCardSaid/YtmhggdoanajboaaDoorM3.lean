/- The abstract machine and the model, merged of its parts. -/
import Derived.Test.YtmhggdoanajboaaDoorM2
import Derived.LoopN
import Derived.Maps.RangeRun
import Derived.RangeFuncIn
import Derived.RangeFuncRecord
import Derived.RangeFuncSeq
import Derived.RangeFuncCalls
import Derived.RangeFuncLeaves
set_option linter.unusedVariables false
set_option linter.unusedSimpArgs false
/-! ## part Fresh -/
/- The abstract machine and the model: regions of open order that make new rows and maps in no order: as if in the text's order. -/
set_option linter.unusedVariables false
namespace Go.Am
open Go
variable {P : Program} {C : Ctx} {rec : Nat → List AV → M AV} {hp ip : List Nat}
variable {n B : Nat} {sd : List Nat} {base V fr fr' : Fr} {D E : List DOp} {rs : Rs} {g g' : G} {σ σ' : H} {w w' : World} {a a0 : Act} {o : Oper}
def newV (r : Nat) : HObj → AV
  | .arr _ sz xs => .hs r xs.length 0 xs.length sz
  | .map _ => .map r
  | .it _ => .ptr r 0 0 0
def Kept (g : G) (w : World) (b : Nat) (v : Value) : HObj → Prop
  | .arr fz sz xs => fz = false ∧ ∃ cs el cap, w.heap[b]? = some (.cells cs el (0, 0)) ∧ (∀ (i : Nat) x, xs[i]? = some x → x.cells.length = sz ∧ MemR g (fun q => cs[q]?) (i * sz) x) ∧ xs.length * sz ≤ cs.size ∧ v = .slice (some ⟨b, 0, none⟩) xs.length cap ∧ xs.length ≤ cap ∧ cap * sz ≤ cs.size
  | .map es => es = [] ∧ w.heap[b]? = some (.map #[] 0) ∧ v = .map (some b)
  | .it _ => False
theorem Kept.step {b : Nat} {v : Value} {ob : HObj} (h : Kept g w b v ob) (hle : g.le g') (hw : w'.heap[b]? = w.heap[b]?) : Kept g' w' b v ob := by
  cases ob with
  | arr fz sz xs =>
    obtain ⟨h0, cs, el, cap, h1, h2, h3⟩ := h
    exact ⟨h0, cs, el, cap, by rw [hw]; exact h1, fun i x hi => ⟨(h2 i x hi).1, (h2 i x hi).2.mono hle⟩, h3⟩
  | map es => exact ⟨h.1, by rw [hw]; exact h.2.1, h.2.2⟩
  | it s => exact h.elim
theorem get_snoc {l : List HObj} {x y : HObj} {r : Nat} (h : (l ++ [x])[r]? = some y) : (r < l.length ∧ l[r]? = some y) ∨ (r = l.length ∧ y = x) := by
  rcases Nat.lt_or_ge r l.length with h1 | h1
  · rw [List.getElem?_append_left h1] at h; exact .inl ⟨h1, h⟩
  · rw [List.getElem?_append_right h1] at h
    have := (List.getElem?_eq_some_iff.1 h).1
    simp at this
    have e : r = l.length := by omega
    subst e
    simp at h
    exact .inr ⟨rfl, h.symm⟩
theorem HR.adopt0 {ob : HObj} {b : Nat} {p : Nat × Nat × Nat} (hr : HR g σ w) (hor : OR (g.addLoc σ.length ob.ver p) w σ.length ob) (hp : p.1 = b) (hb : ∀ r o', σ[r]? = some o' → blk g r o' ≠ some b) (him : ∀ q, g.im b q = none) :
    HR (g.addLoc σ.length ob.ver p) (σ ++ [ob]) w ∧ blk (g.addLoc σ.length ob.ver p) σ.length ob = some b ∧ ∀ r o', r < σ.length → blk (g.addLoc σ.length ob.ver p) r o' = blk g r o' := by
  have hle := G.addLoc_le (p := p) (hr.loc_new ob.ver)
  have hloc : ∀ r v, r < σ.length → (g.addLoc σ.length ob.ver p).loc r v = g.loc r v := fun r v h => by
    simp only [G.addLoc]
    rw [if_neg (by omega)]
  have hold : ∀ r o', r < σ.length → blk (g.addLoc σ.length ob.ver p) r o' = blk g r o' := fun r o' h => by
    unfold blk; rw [hloc r _ h]
  have hnew : blk (g.addLoc σ.length ob.ver p) σ.length ob = some b := by
    unfold blk; rw [G.addLoc_self]; simp [hp]
  refine ⟨⟨hr.im, fun r o' h => ?_, fun r r' o1 o2 b' h1 h2 h3 h4 => ?_, fun b' hb' q => ?_, fun r v q h => ?_, fun r o' v q h1 h2 => ?_, hr.tb⟩, hnew, hold⟩
  · rcases get_snoc h with ⟨h1, h2⟩ | ⟨rfl, rfl⟩
    · exact (hr.ob r o' h2).keep hle fun _ _ => rfl
    · exact hor
  · rcases get_snoc h1 with ⟨k1, k2⟩ | ⟨rfl, rfl⟩
    · rw [hold r o1 k1] at h3
      rcases get_snoc h2 with ⟨k3, k4⟩ | ⟨rfl, rfl⟩
      · rw [hold r' o2 k3] at h4
        exact hr.inj r r' o1 o2 b' k2 k4 h3 h4
      · rw [hnew] at h4; cases h4
        exact absurd h3 (hb r o1 k2)
    · rw [hnew] at h3; cases h3
      rcases get_snoc h2 with ⟨k3, k4⟩ | ⟨rfl, rfl⟩
      · rw [hold r' o2 k3] at h4
        exact absurd h4 (hb r' o2 k4)
      · rfl
  · obtain ⟨r, o', h1, h2, h3⟩ := hb'
    rcases get_snoc h1 with ⟨k1, k2⟩ | ⟨rfl, rfl⟩
    · rw [hold r o' k1] at h3
      exact hr.free b' ⟨r, o', k2, h2, h3⟩ q
    · rw [hnew] at h3; cases h3
      exact him q
  · rcases Nat.lt_or_ge r σ.length with h1 | h1
    · simp; omega
    · simp only [G.addLoc] at h
      split at h
      · simp; omega
      · have := hr.dom r v q h; simp; omega
  · rcases get_snoc h1 with ⟨k1, k2⟩ | ⟨rfl, rfl⟩
    · rw [hloc r v k1] at h2
      exact hr.top r o' v q k2 h2
    · simp only [G.addLoc] at h2
      split at h2
      · rename_i hc; rw [hc.2]; exact Nat.le_refl _
      · rw [hr.loc_new] at h2; cases h2
theorem HR.adopt {ob : HObj} {b : Nat} {v : Value} (hr : HR g σ w) (hk : Kept g w b v ob) (hb : ∀ r o', σ[r]? = some o' → blk g r o' ≠ some b) (him : ∀ q, g.im b q = none) :
    ∃ g', HR g' (σ ++ [ob]) w ∧ g.le g' ∧ g'.im = g.im ∧ VR g' (newV σ.length ob) v ∧ blk g' σ.length ob = some b ∧ ∀ r o', r < σ.length → blk g' r o' = blk g r o' := by
  cases ob with
  | arr fz sz xs =>
    obtain ⟨rfl, cs, el, cap, h1, h2, h3, rfl, h5, h6⟩ := hk
    have hle := G.addLoc_le (p := (b, sz, cs.size)) (hr.loc_new xs.length)
    have hself := G.addLoc_self (g := g) (r := σ.length) (v' := xs.length) (p := (b, sz, cs.size))
    obtain ⟨k1, k2, k3⟩ := hr.adopt0 (ob := .arr false sz xs) (b := b) (p := (b, sz, cs.size)) ⟨b, cs.size, cs, el, (0, 0), hself, h1, rfl, h3, fun i x hi => ⟨(h2 i x hi).1, (h2 i x hi).2.mono hle⟩, fun _ => rfl, fun h => by cases h⟩ rfl hb him
    exact ⟨_, k1, hle, rfl, VR_hs.2 ⟨b, cs.size, _, cap, hself, rfl, h5, .inl ⟨by simp, by omega, by simpa using h6⟩⟩, k2, k3⟩
  | map es =>
    obtain ⟨rfl, h1, rfl⟩ := hk
    have hle := G.addLoc_le (p := (b, 0, 0)) (hr.loc_new 0)
    have hself := G.addLoc_self (g := g) (r := σ.length) (v' := 0) (p := (b, 0, 0))
    obtain ⟨k1, k2, k3⟩ := hr.adopt0 (ob := .map []) (b := b) (p := (b, 0, 0)) ⟨b, #[], hself, h1, rfl, fun i k v hi => by simp at hi⟩ rfl hb him
    exact ⟨_, k1, hle, rfl, VR_map.2 ⟨b, 0, 0, hself, rfl⟩, k2, k3⟩
  | it s => exact hk.elim
theorem HR.adopts : ∀ (os : List HObj) (g : G) (σ : H) (bf : Nat → Nat) (vf : Nat → Value), HR g σ w → (∀ k ob, os[k]? = some ob → Kept g w (bf k) (vf k) ob ∧ (∀ r o', σ[r]? = some o' → blk g r o' ≠ some (bf k)) ∧ ∀ q, g.im (bf k) q = none) → (∀ j k, j < os.length → k < os.length → bf j = bf k → j = k) →
    ∃ g', HR g' (σ ++ os) w ∧ g.le g' ∧ g'.im = g.im ∧ (∀ k ob, os[k]? = some ob → VR g' (newV (σ.length + k) ob) (vf k)) ∧ ∀ r o' b, (σ ++ os)[r]? = some o' → blk g' r o' = some b → (σ[r]? = some o' ∧ blk g r o' = some b) ∨ ∃ k, k < os.length ∧ b = bf k
  | [], g, σ, bf, vf, hr, _, _ => ⟨g, by simpa using hr, .refl g, rfl, fun k ob h => by simp at h, fun r o' b h1 h2 => .inl ⟨by simpa using h1, h2⟩⟩
  | ob :: os, g, σ, bf, vf, hr, hk, hd => by
    obtain ⟨k1, k2, k3⟩ := hk 0 ob rfl
    obtain ⟨g1, h1, h2, h3, h4, h5, h6⟩ := hr.adopt k1 k2 k3
    obtain ⟨g', m1, m2, m3, m4, m5⟩ := HR.adopts os g1 (σ ++ [ob]) (fun k => bf (k + 1)) (fun k => vf (k + 1)) h1 (fun k o1 ho => by
      obtain ⟨q1, q2, q3⟩ := hk (k + 1) o1 (by simpa using ho)
      have hkl := (List.getElem?_eq_some_iff.1 ho).1
      refine ⟨q1.step h2 rfl, fun r o' hro hbk => ?_, fun q => by rw [h3]; exact q3 q⟩
      rcases get_snoc hro with ⟨z1, z2⟩ | ⟨rfl, rfl⟩
      · rw [h6 r o' z1] at hbk
        exact q2 r o' z2 hbk
      · rw [h5] at hbk
        have hbk := Option.some.inj hbk
        have := hd 0 (k + 1) (by simp) (by simp; omega) hbk
        omega) (fun j k hj hk' e => by
      have := hd (j + 1) (k + 1) (by simp; omega) (by simp; omega) e
      omega)
    refine ⟨g', by simpa using m1, h2.trans m2, m3.trans h3, fun k o1 ho => ?_, fun r o' b hro hbk => ?_⟩
    · cases k with
      | zero =>
        simp at ho; subst ho
        simpa using h4.mono m2
      | succ k =>
        have := m4 k o1 (by simpa using ho)
        rw [show σ.length + (k + 1) = (σ ++ [ob]).length + k by simp; omega]
        exact this
    · rcases m5 r o' b (by simpa using hro) hbk with ⟨z1, z2⟩ | ⟨k, z1, z2⟩
      · rcases get_snoc z1 with ⟨y1, y2⟩ | ⟨rfl, rfl⟩
        · rw [h6 r o' y1] at z2
          exact .inl ⟨y2, z2⟩
        · rw [h5] at z2; cases z2
          exact .inr ⟨0, by simp, rfl⟩
      · exact .inr ⟨k + 1, by simp; omega, z2⟩
def newOp : Op → Bool
  | .makeSlice _ _ _ => true
  | .makeMap _ none => true
  | _ => false
theorem calmO_eq {x : Option (Eff × H)} {s : SV} {τ : H} (h : calmO x = some (s, τ)) : ∃ e, x = some (e, τ) ∧ e.wr = none ∧ e.r = s := by
  unfold calmO at h
  split at h <;> try (cases h; done)
  rename_i e σ1
  unfold Eff.calm at h
  split at h <;> try (cases h; done)
  rename_i s' hs'
  simp at h
  obtain ⟨rfl, rfl⟩ := h
  split at hs' <;> simp at hs'
  rename_i hwr
  exact ⟨e, rfl, hwr, hs'⟩
theorem newRow_fresh {te : TI} {d : Nat} {xs : List AV} {τ τ' : H} {e : Eff} (h : newRowE hp te d xs τ = some (e, τ')) :
    (τ' = τ ∧ (∃ x, e.r = .v x) ∧ ∀ τ0, newRowE hp te d xs τ0 = some (e, τ0)) ∨ (∃ ob, τ' = τ ++ [ob] ∧ e = { r := .v (newV τ.length ob) } ∧ memN d hp = true ∧ ob = .arr false te.size xs ∧ ∀ τ0, newRowE hp te d xs τ0 = some ({ r := .v (newV τ0.length ob) }, τ0 ++ [ob])) := by
  by_cases h1 : fitAll te xs = true
  · by_cases h2 : memN d hp = true
    · have key : ∀ τ0, newRowE hp te d xs τ0 = some ({ r := .v (newV τ0.length (.arr false te.size xs)) }, τ0 ++ [.arr false te.size xs]) := fun τ0 => by
        unfold newRowE
        rw [if_pos h1, if_pos h2]
        rfl
      rw [key] at h
      cases h
      exact .inr ⟨_, rfl, rfl, h2, rfl, key⟩
    · have key : ∀ τ0, newRowE hp te d xs τ0 = some ({ r := .v (.sl te.size xs) }, τ0) := fun τ0 => by
        unfold newRowE
        rw [if_pos h1, if_neg h2]
        rfl
      rw [key] at h
      cases h
      exact .inl ⟨rfl, ⟨_, rfl⟩, key⟩
  · unfold newRowE at h
    rw [if_neg h1] at h
    exact (failM_eq h).elim
theorem new_op {so : SOp} (hop : newOp so.op = true) {τ τ' : H} {s : SV} (h : calmO (opE C V rec hp ip so τ) = some (s, τ')) :
    (τ' = τ ∧ (∃ x, s = .v x) ∧ ∀ τ0, ∃ e, opE C V rec hp ip so τ0 = some (e, τ0) ∧ e.wr = none ∧ e.r = s) ∨ (∃ ob, τ' = τ ++ [ob] ∧ s = .v (newV τ.length ob) ∧ ∀ τ0, opE C V rec hp ip so τ0 = some ({ r := .v (newV τ0.length ob) }, τ0 ++ [ob])) := by
  obtain ⟨e, he, hwr, hrs⟩ := calmO_eq h
  obtain ⟨dst, op, ty⟩ := so
  cases op <;> simp only [newOp, Bool.false_eq_true] at hop
  case makeSlice t x y =>
    have he : kMakeSlice C V hp t x y dst τ = some (e, τ') := he
    show (τ' = τ ∧ (∃ x, s = .v x) ∧ ∀ τ0, ∃ e, kMakeSlice C V hp t x y dst τ0 = some (e, τ0) ∧ e.wr = none ∧ e.r = s) ∨ (∃ ob, τ' = τ ++ [ob] ∧ s = .v (newV τ.length ob) ∧ ∀ τ0, kMakeSlice C V hp t x y dst τ0 = some ({ r := .v (newV τ0.length ob) }, τ0 ++ [ob]))
    obtain ⟨m, hm, he⟩ := app_eq he
    unfold kMakeSlice at hm ⊢
    split at hm
    case h_2 => subst hm; exact (failM_eq he).elim
    rename_i te d k l k' c hel hl hc he
    split at hm
    case isFalse => subst hm; exact (failM_eq he).elim
    rename_i hcond
    subst hm
    simp only [hel, hl, hc]
    simp only [if_pos hcond]
    rcases newRow_fresh he with ⟨h1, ⟨x, hx⟩, h2⟩ | ⟨ob, h1, h2, _, _, h3⟩
    · exact .inl ⟨h1, ⟨x, by rw [← hrs, hx]⟩, fun τ0 => ⟨e, h2 τ0, hwr, hrs⟩⟩
    · exact .inr ⟨ob, h1, by rw [← hrs, h2], h3⟩
  case makeMap t r =>
    cases r with
    | some r => simp [newOp] at hop
    | none =>
      have key : ∀ τ0, opE C V rec hp ip ⟨dst, .makeMap t none, ty⟩ τ0 = some ({ r := .v (newV τ0.length (.map [])) }, τ0 ++ [.map []]) := fun τ0 => rfl
      rw [key] at he
      cases he
      exact .inr ⟨.map [], rfl, hrs.symm, key⟩
theorem size_alloc (w : World) (x : Obj) : w.heap.size < (w.alloc x).heap.size := by
  show w.heap.size < (w.heap.push x).size
  rw [Array.size_push]; omega
theorem new_real (ht : Tys P C) (hr : HR g σ w) (hf : FR B g σ V a w) {so : SOp} (hop : newOp so.op = true) (ho : o.op = so.op) (hd : o.dst = so.dst) {ob : HObj} (h : opE C V rec hp ip so σ = some ({ r := .v (newV σ.length ob) }, σ ++ [ob])) :
    ∃ v w', (execOp a.eval o).run P w = .ok (.value v) w' ∧ Grow w w' ∧ Kept g w' w.heap.size v ob ∧ w.heap.size < w'.heap.size := by
  obtain ⟨dst, op, ty⟩ := so
  simp only at ho hd
  cases op <;> simp only [newOp, Bool.false_eq_true] at hop
  case makeMap t r =>
    cases r with
    | some r => simp [newOp] at hop
    | none =>
      have key : opE C V rec hp ip ⟨dst, .makeMap t none, ty⟩ σ = some ({ r := .v (newV σ.length (.map [])) }, σ ++ [.map []]) := rfl
      rw [key] at h
      have hob : ob = .map [] := by
        have := (Prod.mk.inj (Option.some.inj h)).2
        have := List.append_cancel_left this
        exact (List.cons.inj this).1.symm
      subst hob
      refine ⟨.map (some w.heap.size), _, by simp [execOp, ho, Instr.makeMap], Grow.alloc w (.map #[] 0), ⟨rfl, heap_new w _, rfl⟩, ?_⟩
      exact size_alloc w _
  case makeSlice t x y =>
    have h : kMakeSlice C V hp t x y dst σ = _ := h
    obtain ⟨m, hm, h⟩ := app_eq h
    unfold kMakeSlice at hm
    split at hm
    case h_2 => subst hm; exact (failM_eq h).elim
    rename_i te d k l k' c hel hl hc h
    split at hm
    case isFalse => subst hm; exact (failM_eq h).elim
    rename_i hcond
    subst hm
    obtain ⟨rfl, h0, hb, hn⟩ := hcond
    obtain ⟨el, hu, hte, _⟩ := elemOf_run ht hel
    obtain ⟨z, hz, hzc⟩ := run_zero (w := w) hte
    have hz0 := constA_VR (g := g) hzc
    have hvl := av_v hf hl
    have hvc := av_v hf hc
    rw [VR_int] at hvl hvc
    have hrow := RowC.zeros (g := g) hz0 hte.zfit hte.pos l.toNat
    obtain ⟨ii, hii, hib⟩ := run_bytes (w := w) hte
    have hw : IntKind.i64.wrap l = l := by
      have hm : l ≤ 2 ^ 45 := by omega
      unfold IntKind.wrap
      have e1 : IntKind.i64.bits = 64 := rfl
      have e2 : IntKind.i64.signed = true := rfl
      simp only [e1, e2]
      simp
      omega
    have htl2 : ¬ ((281474976710656 : Int) < te.bytes * l) := by
      have : (l.toNat * te.bytes : Nat) ≤ 2 ^ 45 := hb
      have e : ((l.toNat * te.bytes : Nat) : Int) = te.bytes * l := by
        rw [Int.natCast_mul, Int.toNat_of_nonneg h0, Int.mul_comm]
      omega
    have hneg : ¬ l < 0 := by omega
    have hlen : (List.replicate l.toNat te.zero).length = l.toNat := by simp
    rcases newRow_fresh h with ⟨h1, _⟩ | ⟨ob', h1, h2, h3, h4, _⟩
    · simp at h1
    have e1 : ob = ob' := by simpa using h1
    subst e1
    subst h4
    have hsz : w.heap.size < (w.alloc (.cells ((Array.range (l.toNat * te.size)).map (z.cells[· % z.cells.size]!)) el)).heap.size := size_alloc w _
    refine ⟨.slice (some ⟨w.heap.size, 0, none⟩) l.toNat l.toNat, w.alloc (.cells ((Array.range (l.toNat * te.size)).map (z.cells[· % z.cells.size]!)) el), ?_, .alloc w _, ⟨rfl, _, el, l.toNat, heap_new w _, hrow.el, by rw [hrow.size]; exact Nat.le_refl _, by rw [hlen], by rw [hlen]; exact Nat.le_refl _, by rw [hrow.size, hlen]; exact Nat.le_refl _⟩, hsz⟩
    simp only [execOp, ho, hvl, hvc, Instr.makeSlice, Sem.run_bind, hu, Result.andThen_ok, asInt, asIntOf, Sem.run_pure, hii, hib, hw]
    by_cases hn0 : l.toNat * te.size = 0
    · have hn : l.toNat = 0 := by
        rcases Nat.mul_eq_zero.1 hn0 with h | h
        · exact h
        · have := hte.pos; omega
      simp [hneg, htl2, run_size hte, hn, run_newRow, range0]
    · simp [hneg, htl2, run_size hte, hn0, hz, run_newRow]
/-! ### the region -/
def frK (n : Nat) (D : List DOp) (d : DOp) : Bool :=
  d.guard.isNone && (match d.o.dst with | some t => decide (t < n) | none => false) &&
  (match d.k with
    | .q => (match d.o.op with | .move _ => true | .call c => (match c.callee with | .value _ => true | _ => false) | _ => false)
    | .w => newOp d.o.op
    | _ => false) &&
  d.bef.all fun x => match D[x]? with | some e => (match e.k with | .q => true | _ => false) | none => false
def chkFr (n : Nat) (D E : List DOp) : Bool := nodupD D && chkBef (D ++ E) 0 (D ++ E) && chkPost n D.length E && D.all (frK n D)
structure FrK (n : Nat) (D : List DOp) (d : DOp) : Prop where
  gd : d.guard = none
  dst : ∃ t, d.o.dst = some t ∧ t < n
  kd : (d.k = .q ∧ ((∃ x, d.o.op = .move x) ∨ ∃ c f, d.o.op = .call c ∧ c.callee = .value f)) ∨ (d.k = .w ∧ newOp d.o.op = true)
  bq : ∀ x ∈ d.bef, ∃ e, D[x]? = some e ∧ e.k = .q
theorem frK_at {d : DOp} (h : frK n D d = true) : FrK n D d := by
  unfold frK at h
  simp only [Bool.and_eq_true, List.all_eq_true] at h
  obtain ⟨⟨⟨h1, h2⟩, h3⟩, h4⟩ := h
  refine ⟨by simpa using h1, ?_, ?_, fun x hx => ?_⟩
  · split at h2
    · rename_i t ht; exact ⟨t, ht, of_decide_eq_true h2⟩
    · cases h2
  · split at h3
    · rename_i hk
      refine .inl ⟨hk, ?_⟩
      split at h3
      · rename_i x hx; exact .inl ⟨x, hx⟩
      · rename_i c hc
        split at h3
        · rename_i f hf; exact .inr ⟨c, f, hc, hf⟩
        · cases h3
      · cases h3
    · rename_i hk; exact .inr ⟨hk, h3⟩
    · cases h3
  · have := h4 x hx
    split at this
    · rename_i e he
      split at this
      · rename_i hk; exact ⟨e, he, hk⟩
      · cases this
    · cases this
theorem call_v {so : SOp} {c : Call} {f : Operand} (hop : so.op = .call c) (hc : c.callee = .value f) {τ τ' : H} {e : Eff} (h : opE C V rec hp ip so τ = some (e, τ')) : ∃ x, e.r = .v x := by
  obtain ⟨dst, op, ty⟩ := so
  simp only at hop
  subst hop
  have h : kCall C V rec hp c dst τ = some (e, τ') := h
  obtain ⟨m, hm, h⟩ := app_eq h
  unfold kCall at hm
  rw [hc] at hm
  split at hm
  · subst hm; exact (failM_eq h).elim
  · simp only at hm
    split at hm
    · subst hm
      obtain ⟨y, _, _, h3⟩ := retM_eq h
      exact ⟨y, h3⟩
    · subst hm; exact (failM_eq h).elim
def Info (C : Ctx) (rec : Nat → List AV → M AV) (hp ip sd : List Nat) (base : Fr) (D : List DOp) (rs : Rs) (σ : H) (os : List HObj) (kf : Nat → Option Nat) (i : Nat) (d : DOp) : Prop :=
  ∃ V s, seeD sd base D rs d.bef = some V ∧ getR rs i = some s ∧ ((∃ x, s = .v x) ∨ ∃ q off, s = .lp q off ∧ (getS base.sl q).isBox = true) ∧
    match kf i with
    | none => ∃ e, opE C V rec hp ip d.o σ = some (e, σ) ∧ e.wr = none ∧ e.r = s
    | some k => newOp d.o.op = true ∧ ∃ ob, os[k]? = some ob ∧ s = .v (newV (σ.length + k) ob) ∧ opE C V rec hp ip d.o σ = some ({ r := .v (newV σ.length ob) }, σ ++ [ob])
theorem Info.more {os os' : List HObj} {kf kf' : Nat → Option Nat} {i : Nat} {d : DOp} (h : Info C rec hp ip sd base D rs σ os kf i d) (hk : kf' i = kf i) (ho : ∀ (k : Nat) ob, os[k]? = some ob → os'[k]? = some ob) : Info C rec hp ip sd base D rs σ os' kf' i d := by
  obtain ⟨V, s, h1, h2, h3, h4⟩ := h
  refine ⟨V, s, h1, h2, h3, ?_⟩
  rw [hk]
  cases hki : kf i with
  | none => rw [hki] at h4; exact h4
  | some k =>
    rw [hki] at h4
    obtain ⟨h5, ob, h6, h7, h8⟩ := h4
    exact ⟨h5, ob, ho k ob h6, h7, h8⟩
theorem fr_facts (hind : RecInd rec) (hlp : ∀ t d off, getS base.sl t = .lp d off → (getS base.sl d).isBox = true) {hr : List H} (h0 : hr[0]? = some σ) (hK : ∀ (i : Nat) d, D[i]? = some d → FrK n D d) (hb : ∀ (i : Nat) d, D[i]? = some d → ∀ x ∈ d.bef, x < i)
    (hfact : ∀ (i : Nat) d, D[i]? = some d → Fact C rec hp ip sd base D rs hr i d) : ∀ m, m ≤ D.length → ∃ (os : List HObj) (kf : Nat → Option Nat), hr[cntW D fun x => decide (x < m)]? = some (σ ++ os) ∧
      (∀ (j : Nat) d, j < m → D[j]? = some d → Info C rec hp ip sd base D rs σ os kf j d) ∧ (∀ j j' k, j < m → j' < m → kf j = some k → kf j' = some k → j = j') ∧ (∀ k, k < os.length → ∃ j, j < m ∧ kf j = some k) := by
  intro m
  induction m with
  | zero =>
    intro _
    refine ⟨[], fun _ => none, ?_, fun j d hj => by omega, fun j j' k hj => by omega, fun k hk => by simp at hk⟩
    rw [cntW_zero, h0]; simp
  | succ m ih =>
    intro hm
    obtain ⟨os, kf, k1, k2, k3, k4⟩ := ih (by omega)
    have hml : m < D.length := by omega
    have hd : D[m]? = some D[m] := List.getElem?_eq_getElem hml
    generalize D[m] = d at hd
    have hk := hK m d hd
    have hf := hfact m d hd
    have hS : d.k.isS = false := by rcases hk.kd with ⟨h, _⟩ | ⟨h, _⟩ <;> rw [h] <;> rfl
    unfold Fact at hf
    rw [hS] at hf
    obtain ⟨s, σ1, σ2, σ3, f1, f2, f3, f4, f5⟩ := hf
    rw [k1] at f2
    cases f2
    unfold oneD at f4
    rw [hk.gd] at f4
    simp only [wantD] at f4
    cases hV : seeD sd base D rs d.bef with
    | none => rw [hV] at f4; cases f4
    | some V =>
    rw [hV] at f4
    simp only at f4
    have hsucc := cntW_succ hml
    rw [isWat_eq hd] at hsucc
    have lift : ∀ (j : Nat) d' os' (kf' : Nat → Option Nat), j < m → D[j]? = some d' → kf' j = kf j → (∀ (k : Nat) ob, os[k]? = some ob → os'[k]? = some ob) → Info C rec hp ip sd base D rs σ os' kf' j d' := fun j d' os' kf' hj hd' h1 h2 => Info.more (k2 j d' hj hd') h1 h2
    have hset : ∀ (v : Option Nat) j, j < m → (fun x => if x = m then v else kf x) j = kf j := fun v j hj => if_neg (by omega)
    -- what a slot of the seen frame holds
    obtain ⟨_, _, hsee⟩ := seeD_get _ V hV
    have hslot : ∀ t, (∃ x, getS V.sl t = .v x) ∨ (∃ q off, getS V.sl t = .lp q off ∧ (getS base.sl q).isBox = true) ∨ getS V.sl t = hideS sd t (getS base.sl t) := fun t => by
      rcases hsee t with ⟨x, d', s', q1, q2, q3, q4, q5⟩ | ⟨_, q5⟩
      · have hx : x < m := hb m d hd x q1
        obtain ⟨V', s2, _, r2, r3, _⟩ := k2 x d' hx q2
        rw [q4] at r2
        cases r2
        rcases r3 with ⟨y, rfl⟩ | ⟨q, off, rfl, r4⟩
        · exact .inl ⟨y, q5⟩
        · exact .inr (.inl ⟨q, off, q5, r4⟩)
      · exact .inr (.inr q5)
    have quiet : ∀ (os' : List HObj) (hres : (∃ x, s = .v x) ∨ ∃ q off, s = .lp q off ∧ (getS base.sl q).isBox = true) (he : ∃ e, opE C V rec hp ip d.o σ = some (e, σ) ∧ e.wr = none ∧ e.r = s) (hh : hr[cntW D fun x => decide (x < m + 1)]? = some (σ ++ os)),
        ∃ (os : List HObj) (kf : Nat → Option Nat), hr[cntW D fun x => decide (x < m + 1)]? = some (σ ++ os) ∧
      (∀ (j : Nat) d, j < m + 1 → D[j]? = some d → Info C rec hp ip sd base D rs σ os kf j d) ∧ (∀ j j' k, j < m + 1 → j' < m + 1 → kf j = some k → kf j' = some k → j = j') ∧ (∀ k, k < os.length → ∃ j, j < m + 1 ∧ kf j = some k) := by
      intro os' hres he hh
      refine ⟨os, fun x => if x = m then none else kf x, hh, fun j d' hj hd' => ?_, fun j j' k hj hj' e1 e2 => ?_, fun k hkl => ?_⟩
      · by_cases e : j = m
        · subst e
          rw [hd] at hd'; cases hd'
          refine ⟨V, s, hV, f1, hres, ?_⟩
          simp only [if_true]
          exact he
        · exact lift j d' os _ (by omega) hd' (hset none j (by omega)) fun _ _ h => h
      · simp only at e1 e2
        split at e1 <;> try (cases e1; done)
        split at e2 <;> try (cases e2; done)
        exact k3 j j' k (by omega) (by omega) e1 e2
      · obtain ⟨j, q1, q2⟩ := k4 k hkl
        exact ⟨j, by omega, by simp only; rw [if_neg (by omega)]; exact q2⟩
    rcases hk.kd with ⟨hq, hop⟩ | ⟨hw, hop⟩
    · -- a quiet one
      rw [hq] at f4 hsucc
      simp only [DK.isW] at hsucc
      have hcnt : (cntW D fun x => decide (x < m + 1)) = cntW D fun x => decide (x < m) := by simpa using hsucc
      simp only at f4
      split at f4 <;> try (cases f4; done)
      rename_i hqo
      unfold quietO at f4
      split at f4 <;> simp at f4
      rename_i s' hs'
      obtain ⟨rfl, rfl⟩ := f4
      obtain ⟨e, e1, e2, e3⟩ := calmO_eq hs'
      refine quiet os ?_ ⟨e, opE_ind hind hqo e e1 _, e2, e3⟩ (by rw [hcnt]; exact k1)
      rcases hop with ⟨x, hx⟩ | ⟨c, f, hc, hf⟩
      · have e1 : kMove (ev V x) [] = some (e, []) := by
          have := e1
          unfold opE at this
          rw [hx] at this
          exact this
        unfold kMove at e1
        cases hev : ev V x with
        | v y =>
          rw [hev] at e1
          obtain ⟨_, _, h3⟩ := retE_eq e1
          exact .inl ⟨y, by rw [← e3, h3]⟩
        | lp q off =>
          rw [hev] at e1
          obtain ⟨rfl, _⟩ := pureM_eq e1
          refine .inr ⟨q, off, e3.symm, ?_⟩
          cases x with
          | tmp t =>
            simp only [ev] at hev
            rcases hslot t with ⟨y, hy⟩ | ⟨q', off', hy, hbx⟩ | hy
            · rw [hy] at hev; cases hev
            · rw [hy] at hev; cases hev; exact hbx
            · rw [hy] at hev
              cases hbs : getS base.sl t with
              | u => rw [hbs] at hev; simp [hideS] at hev
              | v y => rw [hbs] at hev; simp [hideS] at hev
              | lp d2 o2 =>
                rw [hbs] at hev
                simp [hideS] at hev
                obtain ⟨rfl, rfl⟩ := hev
                exact hlp t _ _ hbs
              | bx y =>
                rw [hbs] at hev
                simp only [hideS] at hev
                by_cases hm : memN t sd = true
                · rw [if_pos hm] at hev
                  cases hev; rw [hbs]; rfl
                · rw [if_neg hm] at hev
                  cases hev; rw [hbs]; rfl
              | hb =>
                rw [hbs] at hev
                simp [hideS] at hev
                obtain ⟨rfl, rfl⟩ := hev
                rw [hbs]; rfl
          | const v => simp only [ev] at hev; split at hev <;> cases hev
          | func f => cases hev
          | global g => cases hev
        | u => rw [hev] at e1; exact (failM_eq e1).elim
        | bx y => rw [hev] at e1; exact (failM_eq e1).elim
        | hb => rw [hev] at e1; exact (failM_eq e1).elim
      · obtain ⟨y, hy⟩ := call_v hc hf e1
        exact .inl ⟨y, by rw [← e3, hy]⟩
    · -- one that makes something
      have f5 := f5 (by rw [hw]; rfl)
      subst f5
      rw [hw] at f4 hsucc
      simp only at f4
      rcases new_op hop f4 with ⟨h1, h2, h3⟩ | ⟨ob, h1, h2, h3⟩
      · subst h1
        exact quiet os (.inl h2) (h3 σ) f3
      · subst h1
        refine ⟨os ++ [ob], fun x => if x = m then some os.length else kf x, by rw [f3, List.append_assoc], fun j d' hj hd' => ?_, fun j j' k hj hj' e1 e2 => ?_, fun k hkl => ?_⟩
        · by_cases e : j = m
          · subst e
            rw [hd] at hd'; cases hd'
            refine ⟨V, s, hV, f1, .inl ⟨_, h2⟩, ?_⟩
            simp only [if_true]
            exact ⟨hop, ob, by simp, by rw [h2, List.length_append], h3 σ⟩
          · exact lift j d' _ _ (by omega) hd' (hset _ j (by omega)) fun k o1 h => by
              rw [List.getElem?_append_left (List.getElem?_eq_some_iff.1 h).1]; exact h
        · simp only at e1 e2
          have kl : ∀ j k, j < m → kf j = some k → k < os.length := fun j k hj e => by
            have hjl : j < D.length := by omega
            obtain ⟨V', s', _, _, _, q⟩ := k2 j D[j] hj (List.getElem?_eq_getElem hjl)
            rw [e] at q
            obtain ⟨_, ob', q1, _⟩ := q
            exact (List.getElem?_eq_some_iff.1 q1).1
          split at e1 <;> split at e2
          · omega
          · cases e1
            have := kl j' _ (by omega) e2; omega
          · cases e2
            have := kl j _ (by omega) e1; omega
          · exact k3 j j' k (by omega) (by omega) e1 e2
        · by_cases e : k = os.length
          · exact ⟨m, by omega, by simp [e]⟩
          · obtain ⟨j, q1, q2⟩ := k4 k (by simp at hkl; omega)
            exact ⟨j, by omega, by simp only; rw [if_neg (by omega)]; exact q2⟩
def FrAt (n B : Nat) (base : Fr) (D : List DOp) (rs : Rs) (σ : H) (os : List HObj) (kf : Nat → Option Nat) (g : G) (w : World) (a0 : Act) (L : Nat → Bool) (a : Act) (w' : World) : Prop :=
  (∀ t, (∀ (j : Nat) d, D[j]? = some d → d.o.dst ≠ some t) → a.tmps[t]? = a0.tmps[t]?) ∧ ∃ g' TF, ∃ (bf : Nat → Nat) (vf : Nat → Value), HR g' σ w' ∧ FR B g' σ TF a w' ∧ Step B g σ w g' σ w' ∧ a.tmps.size = n ∧
    (∀ (j : Nat) d t s, D[j]? = some d → d.o.dst = some t → L j = true → kf j = none → getR rs j = some s → getS TF.sl t = s) ∧
    (∀ (j : Nat) d t, D[j]? = some d → d.o.dst = some t → (L j = false ∨ kf j ≠ none) → getS TF.sl t = .u) ∧
    (∀ t, (∀ (j : Nat) d, D[j]? = some d → d.o.dst ≠ some t) → getS TF.sl t = getS base.sl t) ∧
    (∀ (j : Nat) d t k, D[j]? = some d → d.o.dst = some t → L j = true → kf j = some k → a.tmps[t]? = some (vf k) ∧ (∀ ob, os[k]? = some ob → Kept g' w' (bf k) (vf k) ob) ∧ w.heap.size ≤ bf k ∧ bf k < w'.heap.size ∧ ∀ q, g'.im (bf k) q = none) ∧
    (∀ j j' k k', j < D.length → j' < D.length → L j = true → L j' = true → kf j = some k → kf j' = some k' → bf k = bf k' → k = k')
theorem old_blk {b : Nat} (hr : HR g σ w) (hle : g.le g') (hb : w.heap.size ≤ b) : ∀ r o', σ[r]? = some o' → blk g' r o' ≠ some b := fun r o' h e => by
  obtain ⟨b0, h1, h2⟩ := (hr.ob r o' h).blk_lt
  have := blk_le hle h1
  rw [e] at this; cases this
  omega
theorem old_own {b : Nat} (hr : HR g σ w) (hle : g.le g') (hb : w.heap.size ≤ b) : ¬ Owned g' σ b := fun ⟨r, o', h1, _, h3⟩ => old_blk hr hle hb r o' h1 h3
theorem SVR.frame {t : Nat} {s : SV} (h : SVR B g σ fr a w t s) (hl : ∀ d off, s = .lp d off → (getS fr'.sl d).isBox = true) : SVR B g σ fr' a w t s := by
  cases s with
  | lp d off => exact ⟨hl d off rfl, h.2⟩
  | u => exact h
  | v x => exact h
  | bx x => exact h
  | hb => exact h
theorem FrAt.step (ht : Tys P C) (hrec : CallOK P rec) (hnd : nodupD D = true) (hK : ∀ (i : Nat) d, D[i]? = some d → FrK n D d) (hlp : ∀ t d off, getS base.sl t = .lp d off → (getS base.sl d).isBox = true) (hdu : ∀ (j : Nat) d t, D[j]? = some d → d.o.dst = some t → getS base.sl t = .u)
    {os : List HObj} {kf : Nat → Option Nat} (hI : ∀ (j : Nat) d, D[j]? = some d → Info C rec hp ip sd base D rs σ os kf j d) (hinj : ∀ (j j' k : Nat), j < D.length → j' < D.length → kf j = some k → kf j' = some k → j = j') (hkq : ∀ (j : Nat) d, D[j]? = some d → d.k = .q → kf j = none) (hh0 : HR g σ w) (hB : B ≤ w.heap.size) {L : Nat → Bool} (hA : FrAt n B base D rs σ os kf g w a0 L a w') {i : Nat} {d : DOp} (hd : D[i]? = some d) (hi : L i = false) (hb : ∀ x ∈ d.bef, L x = true)
    {ops : Array Oper} (hM : MatchM ops D) {K : Act → World → Prop} {Q : Exit → Act → World → Prop} (hk : ∀ a2 w2, FrAt n B base D rs σ os kf g w a0 (also L i) a2 w2 → K a2 w2) : wpOp P ops Q i K a w' := by
  obtain ⟨r0, g', TF, bf, vf, h1, h2, h3, h4, r1, r2, r3, r4, r5⟩ := hA
  obtain ⟨o, ho, ho1, ho2, ho3⟩ := hM i d hd
  have hkd := hK i d hd
  obtain ⟨t, hdt, htn⟩ := hkd.dst
  obtain ⟨V, s, hV, hs, hsv, hinfo⟩ := hI i d hd
  unfold wpOp
  rw [ho]
  simp only
  have hwant : Region.wanted o (yielded ops a.tmps) = true := by unfold Region.wanted; rw [ho3, hkd.gd]
  rw [if_pos hwant]
  left
  -- the frame that is seen is part of what is there
  obtain ⟨_, _, hsee⟩ := seeD_get _ V hV
  have hTFt : getS TF.sl t = .u := r2 i d t hd hdt (.inl hi)
  have hnobox : ∀ (j : Nat) e q s', D[j]? = some e → e.o.dst = some q → getR rs j = some s' → s'.isBox = false := fun j e q s' k1 k2 k3 => by
    obtain ⟨_, s2, _, q2, q3, _⟩ := hI j e k1
    rw [k3] at q2; cases q2
    rcases q3 with ⟨x, rfl⟩ | ⟨_, _, rfl, _⟩ <;> rfl
  have hVF : FR B g' σ V a w' := by
    refine h2.hide (fun q => ?_) (fun q e off hq => ?_)
    · rcases hsee q with ⟨x, e, s', q1, q2, q3, q4, q5⟩ | ⟨q1, q5⟩
      · obtain ⟨e', p1, p2⟩ := hkd.bq x q1
        rw [q2] at p1; cases p1
        have hx := r1 x e q s' q2 q3 (hb x q1) (hkq x e q2 p2) q4
        right; left
        rw [q5, hx]
        obtain ⟨_, s2, _, y2, y3, _⟩ := hI x e q2
        rw [q4] at y2; cases y2
        rcases y3 with ⟨y, rfl⟩ | ⟨_, _, rfl, _⟩ <;> rfl
      · by_cases hq : ∃ (j : Nat) (e : DOp), D[j]? = some e ∧ e.o.dst = some q
        · obtain ⟨j, e, k1, k2⟩ := hq
          left
          rw [q5, hdu j e q k1 k2]; rfl
        · have hno : ∀ (j : Nat) e, D[j]? = some e → e.o.dst ≠ some q := fun j e k1 k2 => hq ⟨j, e, k1, k2⟩
          have := r3 q hno
          rw [q5, this]
          cases hbs : getS base.sl q with
          | bx x =>
            simp only [hideS]
            by_cases hm : memN q sd = true
            · rw [if_pos hm]; exact .inr (.inr ⟨rfl, x, rfl⟩)
            · rw [if_neg hm]; exact .inr (.inl rfl)
          | u => exact .inl rfl
          | v x => exact .inr (.inl rfl)
          | lp d2 o2 => exact .inr (.inl rfl)
          | hb => exact .inr (.inl rfl)
    · have hbox : (getS base.sl e).isBox = true := by
        rcases hsee q with ⟨x, e', s', q1, q2, q3, q4, q5⟩ | ⟨q1, q5⟩
        · obtain ⟨_, s2, _, y2, y3, _⟩ := hI x e' q2
          rw [q4] at y2; cases y2
          rcases y3 with ⟨y, rfl⟩ | ⟨_, _, rfl, y4⟩
          · rw [hq] at q5; simp [hideS] at q5
          · rw [hq] at q5; simp [hideS] at q5
            obtain ⟨rfl, rfl⟩ := q5
            exact y4
        · rw [hq] at q5
          cases hbs : getS base.sl q with
          | bx x =>
            rw [hbs] at q5
            simp only [hideS] at q5
            by_cases hm : memN q sd = true
            · rw [if_pos hm] at q5; cases q5
            · rw [if_neg hm] at q5; cases q5
          | lp d2 o2 =>
            rw [hbs] at q5
            simp [hideS] at q5
            obtain ⟨rfl, rfl⟩ := q5
            exact hlp q _ _ hbs
          | u => rw [hbs] at q5; cases q5
          | v x => rw [hbs] at q5; cases q5
          | hb => rw [hbs] at q5; cases q5
      rcases hsee e with ⟨x, e', s', q1, q2, q3, q4, q5⟩ | ⟨q1, q5⟩
      · have := hdu x e' e q2 q3
        rw [this] at hbox; cases hbox
      · rw [q5]
        cases hbs : getS base.sl e with
        | bx x => simp only [hideS]; split <;> rfl
        | hb => rfl
        | u => rw [hbs] at hbox; cases hbox
        | v x => rw [hbs] at hbox; cases hbox
        | lp d2 o2 => rw [hbs] at hbox; cases hbox
  have hsize := h3.size
  have keep : ∀ {g2 : G} {w2 : World} {k : Nat}, Step w'.heap.size g' σ w' g2 σ w2 → (∀ ob, os[k]? = some ob → Kept g' w' (bf k) (vf k) ob) ∧ w.heap.size ≤ bf k ∧ bf k < w'.heap.size ∧ (∀ q, g'.im (bf k) q = none) →
      (∀ ob, os[k]? = some ob → Kept g2 w2 (bf k) (vf k) ob) ∧ w.heap.size ≤ bf k ∧ bf k < w2.heap.size ∧ (∀ q, g2.im (bf k) q = none) := fun {g2 w2 k} st ⟨k1, k2, k3, k4⟩ => by
    have hno := old_own hh0 h3.le k2
    refine ⟨fun ob hob => (k1 ob hob).step st.le (st.keep _ k3 hno), k2, Nat.lt_of_lt_of_le k3 st.size, fun q => ?_⟩
    cases hq : g2.im (bf k) q with
    | none => rfl
    | some u =>
      rcases st.imn _ _ _ hq with y | y | y
      · rw [k4 q] at y; cases y
      · exact absurd y hno
      · omega
  have hal : ∀ (j : Nat), j ≠ i → also L i j = L j := fun j hj => also_ne hj
  have uniq : ∀ (j : Nat) e, D[j]? = some e → e.o.dst = some t → j = i := fun j e k1 k2 => nodup_eq hnd k1 hd k2 hdt
  cases hki : kf i with
  | none =>
    rw [hki] at hinfo
    obtain ⟨e, he, hwr, rfl⟩ := hinfo
    refine opE_does ht hrec h1 hVF (Nat.le_trans hB hsize) ho1 ho2 he _ _ fun v w2 g2 ha => ?_
    rw [ho2, hdt]
    cases ha with
    | box d' b x z hw' => rw [hwr] at hw'; cases hw'
    | calm _ hr' st hv =>
      have hok : TF.dstOk (some t) = true := by unfold Fr.dstOk; simp only [hTFt]
      refine hk _ _ ⟨fun q k1 => (by rw [tmps_put_ne (fun h : t = q => k1 i d hd (by rw [← h]; exact hdt))]; exact r0 q k1), g2, TF.put t e.r, bf, vf, hr', ?_, h3.trans st (Nat.le_trans hB hsize), by rw [size_put]; exact h4, fun j e' q s' k1 k2 k3 k4 k5 => ?_, fun j e' q k1 k2 k3 => ?_, fun q k1 => ?_, fun j e' q k k1 k2 k3 k4 => ?_, fun j j' k k' y1 y2 k1 k2 k3 k4 k5 => ?_⟩
      · refine h2.put st hok (by omega) ?_
        revert hv
        rcases hsv with ⟨x, hx⟩ | ⟨q, off, hx, hbx⟩
        · rw [hx]; exact id
        · rw [hx]
          exact fun ⟨_, h⟩ => ⟨by
            have : ∀ (j : Nat) e, D[j]? = some e → e.o.dst ≠ some q := fun j e k1 k2 => by
              rw [hdu j e q k1 k2] at hbx; cases hbx
            rw [r3 q this]; exact hbx, h⟩
      · rw [getS_put]
        by_cases e1 : j = i
        · subst e1
          rw [hd] at k1; cases k1
          rw [hdt] at k2; cases k2
          rw [if_pos rfl, ← Option.some.inj (hs.symm.trans k5)]
        · rw [hal j e1] at k3
          rw [if_neg (fun h : t = q => e1 (uniq j e' k1 (by rw [h]; exact k2)))]
          exact r1 j e' q s' k1 k2 k3 k4 k5
      · rw [getS_put]
        by_cases e1 : j = i
        · subst e1
          rcases k3 with k3 | k3
          · rw [also_self] at k3; cases k3
          · exact absurd hki k3
        · rw [hal j e1] at k3
          rw [if_neg (fun h : t = q => e1 (uniq j e' k1 (by rw [h]; exact k2)))]
          exact r2 j e' q k1 k2 k3
      · rw [getS_put, if_neg (fun h : t = q => k1 i d hd (by rw [← h]; exact hdt))]
        exact r3 q k1
      · by_cases e1 : j = i
        · subst e1; rw [hki] at k4; cases k4
        · rw [hal j e1] at k3
          obtain ⟨y1, y2⟩ := r4 j e' q k k1 k2 k3 k4
          refine ⟨?_, keep st y2⟩
          rw [tmps_put_ne (fun h : t = q => e1 (uniq j e' k1 (by rw [h]; exact k2)))]
          exact y1
      · by_cases e1 : j = i
        · subst e1; rw [hki] at k3; cases k3
        · by_cases e2 : j' = i
          · subst e2; rw [hki] at k4; cases k4
          · rw [hal j e1] at k1
            rw [hal j' e2] at k2
            exact r5 j j' k k' y1 y2 k1 k2 k3 k4 k5
  | some k0 =>
    rw [hki] at hinfo
    obtain ⟨hnew, ob, hob, rfl, hrun⟩ := hinfo
    obtain ⟨v, w2, hexec, hgr, hkept, hlt⟩ := new_real ht h1 hVF hnew ho1 ho2 hrun
    obtain ⟨hr2, st⟩ := h1.ext hgr
    unfold Oper.wp
    rw [hexec, Oper.upon_value, ho2, hdt]
    have hil : i < D.length := (List.getElem?_eq_some_iff.1 hd).1
    have hok : TF.dstOk (some t) = true := by unfold Fr.dstOk; simp only [hTFt]
    have hnk : ∀ j k, j < D.length → j ≠ i → kf j = some k → k ≠ k0 := fun j k hj hne h1 h2 => hne (hinj j i k hj hil h1 (by rw [hki, h2]))
    have him0 : ∀ q, g'.im w'.heap.size q = none := fun q => by
      cases hq : g'.im w'.heap.size q with
      | none => rfl
      | some u => have := cell_lt (h1.im _ _ _ hq); omega
    refine hk _ _ ⟨fun q k1 => (by rw [tmps_put_ne (fun h : t = q => k1 i d hd (by rw [← h]; exact hdt))]; exact r0 q k1), g', TF, fun k => if k = k0 then w'.heap.size else bf k, fun k => if k = k0 then v else vf k, hr2, ?_, h3.trans st (Nat.le_trans hB hsize), by rw [size_put]; exact h4, fun j e' q s' k1 k2 k3 k4 k5 => ?_, fun j e' q k1 k2 k3 => ?_, fun q k1 => r3 q k1, fun j e' q k k1 k2 k3 k4 => ?_, fun j j' k k' y1 y2 k1 k2 k3 k4 k5 => ?_⟩
    · refine (h2.put st hok (by omega) (s := .u) (v := v) trivial).congr fun q => ?_
      rw [getS_put]
      split
      · rename_i e; rw [← e]; exact hTFt
      · rfl
    · by_cases e1 : j = i
      · subst e1; rw [hki] at k4; cases k4
      · rw [hal j e1] at k3
        exact r1 j e' q s' k1 k2 k3 k4 k5
    · by_cases e1 : j = i
      · subst e1
        rw [hd] at k1; cases k1
        rw [hdt] at k2; cases k2
        exact hTFt
      · rw [hal j e1] at k3
        exact r2 j e' q k1 k2 k3
    · by_cases e1 : j = i
      · subst e1
        rw [hki] at k4; cases k4
        rw [hd] at k1; cases k1
        rw [hdt] at k2; cases k2
        refine ⟨?_, ?_⟩
        · rw [tmps_put (by omega), if_pos rfl]; simp
        · simp only [if_true]
          exact ⟨fun ob' h => by rw [hob] at h; cases h; exact hkept, hsize, hlt, him0⟩
      · rw [hal j e1] at k3
        obtain ⟨y1, y2⟩ := r4 j e' q k k1 k2 k3 k4
        have hne := hnk j k (List.getElem?_eq_some_iff.1 k1).1 e1 k4
        simp only [if_neg hne]
        refine ⟨?_, keep st y2⟩
        rw [tmps_put_ne (fun h : t = q => e1 (uniq j e' k1 (by rw [h]; exact k2)))]
        exact y1
    · have old : ∀ j k, j < D.length → j ≠ i → also L i j = true → kf j = some k → bf k < w'.heap.size := fun j k hj hne h5 h6 => by
        rw [hal j hne] at h5
        have hdj := List.getElem?_eq_getElem hj
        obtain ⟨q, hq, _⟩ := (hK j _ hdj).dst
        exact (r4 j _ q k hdj hq h5 h6).2.2.2.1
      by_cases e1 : j = i
      · subst e1
        rw [hki] at k3; cases k3
        by_cases e2 : j' = j
        · subst e2; rw [hki] at k4; cases k4; rfl
        · have hne := hnk j' k' y2 e2 k4
          have := old j' k' y2 e2 k2 k4
          simp only [if_true, if_neg hne] at k5
          omega
      · have hne := hnk j k y1 e1 k3
        by_cases e2 : j' = i
        · subst e2
          rw [hki] at k4; cases k4
          have := old j k y1 e1 k1 k3
          simp only [if_true, if_neg hne] at k5
          omega
        · have hne' := hnk j' k' y2 e2 k4
          simp only [if_neg hne, if_neg hne'] at k5
          rw [hal j e1] at k1
          rw [hal j' e2] at k2
          exact r5 j j' k k' y1 y2 k1 k2 k3 k4 k5
theorem puts_fr {fin : Fr} : ∀ l : List DOp, (∀ d ∈ l, d.k.isS = false) → putsD C sd base D rs fin l = some []
  | [], _ => rfl
  | d :: l, h => by
    have h1 := h d (by simp)
    have h2 := puts_fr (fin := fin) l fun e he => h e (by simp [he])
    simp only [putsD, h1, h2]
theorem FrAt.done (hnd : nodupD D = true) (hK : ∀ (i : Nat) d, D[i]? = some d → FrK n D d) (hdu : ∀ (j : Nat) d t, D[j]? = some d → d.o.dst = some t → getS base.sl t = .u) (hlp : ∀ t d off, getS base.sl t = .lp d off → (getS base.sl d).isBox = true)
    {os : List HObj} {kf : Nat → Option Nat} (hI : ∀ (j : Nat) d, D[j]? = some d → Info C rec hp ip sd base D rs σ os kf j d) (hall : ∀ k, k < os.length → ∃ j, j < D.length ∧ kf j = some k) (hal : Aligned D.reverse rs) (hh0 : HR g σ w) (hf0 : FR B g σ base a0 w) (hB : B ≤ w.heap.size) {L : Nat → Bool} (hA : FrAt n B base D rs σ os kf g w a0 L a w') (hL : ∀ x, x < D.length → L x = true) :
    To n B g σ w (σ ++ os) (endD base D.reverse rs) a w' := by
  obtain ⟨r0, g', TF, bf, vf, h1, h2, h3, h4, r1, r2, r3, r4, r5⟩ := hA
  have hk : ∀ k, k < os.length → ∃ (j : Nat) (d : DOp) (t : Nat), D[j]? = some d ∧ d.o.dst = some t ∧ kf j = some k ∧ j < D.length := fun k hk => by
    obtain ⟨j, q1, q2⟩ := hall k hk
    have hd := List.getElem?_eq_getElem q1
    obtain ⟨t, ht, _⟩ := (hK j _ hd).dst
    exact ⟨j, _, t, hd, ht, q2, q1⟩
  obtain ⟨g2, m1, m2, m3, m4, m5⟩ := HR.adopts os g' σ bf vf h1 (fun k ob hob => by
    obtain ⟨j, d, t, q1, q2, q3, q4⟩ := hk k (List.getElem?_eq_some_iff.1 hob).1
    obtain ⟨_, y2, y3, y4, y5⟩ := r4 j d t k q1 q2 (hL j q4) q3
    exact ⟨y2 ob hob, old_blk hh0 h3.le y3, y5⟩) (fun j k hj hk' e => by
    obtain ⟨j1, d1, t1, q1, q2, q3, q4⟩ := hk j hj
    obtain ⟨j2, d2, t2, z1, z2, z3, z4⟩ := hk k hk'
    exact r5 j1 j2 j k q4 z4 (hL j1 q4) (hL j2 z4) q3 z3 e)
  have hbf : ∀ k, k < os.length → w.heap.size ≤ bf k := fun k hkl => by
    obtain ⟨j, d, t, y1, y2, y3, y4⟩ := hk k hkl
    exact (r4 j d t k y1 y2 (hL j y4) y3).2.2.1
  have hstep : Step B g σ w g2 (σ ++ os) w' := by
    refine ⟨h3.le.trans m2, h3.size, h3.keep, fun b hb => ?_, fun b o u hu => ?_, h3.os, h3.tape, h3.output⟩
    · obtain ⟨r, o', q1, q2, q3⟩ := hb
      rcases m5 r o' b q1 q3 with ⟨z1, z2⟩ | ⟨k, z1, rfl⟩
      · exact h3.own b ⟨r, o', z1, q2, z2⟩
      · have := hbf k z1
        exact .inr (by omega)
    · rw [m3] at hu
      exact h3.imn b o u hu
  have nobox : ∀ (t : Nat) (j : Nat) d, D[j]? = some d → d.o.dst = some t → (getS base.sl t).isBox = false := fun t j d k1 k2 => by rw [hdu j d t k1 k2]; rfl
  have hbox : ∀ t x, getS base.sl t = .bx x → getS TF.sl t = .bx x ∧ ∃ b, a.tmps[t]? = some (.pointer (some ⟨b, 0, none⟩)) ∧ b < w.heap.size := fun t x ht => by
    have hno : ∀ (j : Nat) d, D[j]? = some d → d.o.dst ≠ some t := fun j d k1 k2 => by
      have := nobox t j d k1 k2
      rw [ht] at this; cases this
    refine ⟨by rw [r3 t hno]; exact ht, ?_⟩
    obtain ⟨b, q1, q2⟩ := hf0.get t ht
    obtain ⟨cs, el, z1, _⟩ := q2.mem
    exact ⟨b, by rw [r0 t hno]; exact q1, (Array.getElem?_eq_some_iff.1 z1).1⟩
  obtain ⟨_, hend⟩ := endD_get (base := base) D.reverse rs hal
  -- what the frame holds behind all
  have hF : ∀ t, (∃ (i : Nat) (d : DOp) (s : SV), D[i]? = some d ∧ d.o.dst = some t ∧ getR rs i = some s ∧ getS (endD base D.reverse rs).sl t = s) ∨ ((∀ (i : Nat) d, D[i]? = some d → d.o.dst ≠ some t) ∧ getS (endD base D.reverse rs).sl t = getS base.sl t) := fun t => by
    have := hend t
    rw [List.reverse_reverse] at this
    exact this
  have hbE : ∀ t, (getS base.sl t).isBox = true → (getS (endD base D.reverse rs).sl t).isBox = true := fun t ht => by
    rcases hF t with ⟨i, d, s, q1, q2, _⟩ | ⟨_, q⟩
    · rw [nobox t i d q1 q2] at ht; cases ht
    · rw [q]; exact ht
  refine ⟨g2, m1, ⟨fun t => ?_, fun t t' x x' v y1 y2 y3 y4 => ?_, h2.defers.heap fun D _ k2 _ => ⟨k2, fun ho => by
    obtain ⟨r, o, k4, k5, k6⟩ := ho
    exact (m1.ob r o k4).not_deferred k6 k2⟩⟩, hstep, h4⟩
  · rcases hF t with ⟨i, d, s, q1, q2, q3, q4⟩ | ⟨q1, q4⟩
    · rw [q4]
      have hil := (List.getElem?_eq_some_iff.1 q1).1
      obtain ⟨V, s2, _, p2, p3, p4⟩ := hI i d q1
      rw [q3] at p2; cases p2
      cases hki : kf i with
      | none =>
        have hTF := r1 i d t s q1 q2 (hL i hil) hki q3
        have := h2.sv t
        rw [hTF] at this
        rcases p3 with ⟨x, rfl⟩ | ⟨q, off, rfl, hbx⟩
        · obtain ⟨v, z1, z2⟩ := this
          exact ⟨v, z1, z2.mono m2⟩
        · exact ⟨hbE q hbx, this.2⟩
      | some k =>
        rw [hki] at p4
        obtain ⟨_, ob, z1, rfl, _⟩ := p4
        exact ⟨vf k, (r4 i d t k q1 q2 (hL i hil) hki).1, m4 k ob z1⟩
    · rw [q4]
      have := h2.sv t
      rw [r3 t q1] at this
      revert this
      cases hs : getS base.sl t with
      | u => exact id
      | v x => exact fun ⟨v, z1, z2⟩ => ⟨v, z1, z2.mono m2⟩
      | lp d off => exact fun ⟨_, z⟩ => ⟨hbE d (hlp t d off hs), z⟩
      | hb => exact id
      | bx x =>
        rintro ⟨b, z1, z2⟩
        obtain ⟨_, b', z3, z4⟩ := hbox t x hs
        rw [z1] at z3; cases z3
        refine ⟨b, z1, z2.lo, fun ho => ?_, fun q => by rw [m3]; exact z2.im q, ?_⟩
        · obtain ⟨r, o', y1, y2, y3⟩ := ho
          rcases m5 r o' b y1 y3 with ⟨k1, k2⟩ | ⟨k, k1, rfl⟩
          · exact z2.own ⟨r, o', k1, y2, k2⟩
          · have := hbf k k1; omega
        · obtain ⟨cs, el, k1, k2, k3⟩ := z2.mem
          exact ⟨cs, el, k1, k2, k3.mono m2⟩
  · have back : ∀ t x, getS (endD base D.reverse rs).sl t = .bx x → getS base.sl t = .bx x := fun t x h => by
      rcases hF t with ⟨i, d, s, q1, q2, q3, q4⟩ | ⟨_, q⟩
      · obtain ⟨V, s2, _, p2, p3, _⟩ := hI i d q1
        rw [q3] at p2; cases p2
        rw [q4] at h
        rcases p3 with ⟨y, rfl⟩ | ⟨_, _, rfl, _⟩ <;> cases h
      · rw [← q]; exact h
    exact h2.inj t t' x x' v (hbox t x (back t x y1)).1 (hbox t' x' (back t' x' y2)).1 y3 y4
def FrD (C : Ctx) (rec : Nat → List AV → M AV) (hp ip : List Nat) (n B : Nat) (base : Fr) (D E : List DOp) (rs : Rs) (os : List HObj) (kf : Nat → Option Nat) (g : G) (σ : H) (w : World) (a0 : Act) (fr' : Fr) (σ' : H) (N : Nat) (l : Array Bool) (a : Act) (w' : World) : Prop :=
  l.size = N ∧ (∀ (i : Nat) (d : DOp), (D ++ E)[i]? = some d → Lst l i = true → ∀ x ∈ d.bef, Lst l x = true) ∧
  (((∀ x, D.length ≤ x → Lst l x = false) ∧ FrAt n B base D rs σ os kf g w a0 (Lst l) a w') ∨
   ∃ q fq σq, q ≤ E.length ∧ (∀ x, x < D.length + q → Lst l x = true) ∧ (∀ x, D.length + q ≤ x → Lst l x = false) ∧ runPost C rec hp ip (E.drop q) fq σq = some (fr', σ') ∧ To n B g σ w σq fq a w')
theorem runFr_any (ht : Tys P C) (hrec : CallOK P rec) (hind : RecInd rec) {ops : Array Oper} (hM : MatchD ops (D ++ E)) (hc : chkFr n D E = true)
    {fr1 : Fr} {σ1 : H} (h : runD C rec hp ip sd D fr σ = some (fr1, σ1)) (hpost : runPost C rec hp ip E fr1 σ1 = some (fr', σ')) (hh : HR g σ w) (hf : FR B g σ fr a w) (hB : B ≤ w.heap.size) (hsz : a.tmps.size = n)
    {Q : Exit → Act → World → Prop} (hk : ∀ a' w', To n B g σ w σ' fr' a' w' → Q .normal a' w') : wpAny P .any ops Q ops.size (Array.replicate ops.size false) a { w with drawn := w.drawn + 1 } := by
  unfold runD at h
  split at h <;> try (cases h; done)
  rename_i base hlk hdr
  split at h <;> try (cases h; done)
  rename_i rs σ2 hs hall
  split at h <;> try (cases h; done)
  rename_i ws hputs
  split at h <;> try (cases h; done)
  rename_i hcheck
  simp only [Option.some.injEq, Prod.mk.injEq] at h
  obtain ⟨rfl, rfl⟩ := h
  unfold chkFr at hc
  simp only [Bool.and_eq_true, List.all_eq_true] at hc
  obtain ⟨⟨⟨hnd, hbef⟩, hPo⟩, hKd⟩ := hc
  have hK : ∀ (i : Nat) d, D[i]? = some d → FrK n D d := fun i d hd => frK_at (hKd d (List.mem_of_getElem? hd))
  have hnS : ∀ d ∈ D, d.k.isS = false := fun d hd => by
    rcases (frK_at (hKd d hd)).kd with ⟨h, _⟩ | ⟨h, _⟩ <;> rw [h] <;> rfl
  rw [puts_fr D hnS] at hputs
  cases hputs
  have lft : ∀ (i : Nat) (d : DOp), D[i]? = some d → (D ++ E)[i]? = some d := fun i d hd => by
    rw [List.getElem?_append_left (List.getElem?_eq_some_iff.1 hd).1]; exact hd
  have hbefA : ∀ (i : Nat) (d : DOp), (D ++ E)[i]? = some d → (∀ x ∈ d.aft, x < i) ∧ ∀ x ∈ d.bef, x < i ∧ (x ∈ d.aft ∨ ∃ y ∈ d.aft, x ∈ befAt (D ++ E) y) := fun i d hd => by
    have := chkBef_at hbef hd
    simpa using this
  have hPP : ∀ (q : Nat) (d : DOp), E[q]? = some d → d.guard = none ∧ (∀ x, x < D.length + q → x ∈ d.bef) ∧ dstIn n d.o.dst = true := fun q d hd => chkPost_at hPo hd
  obtain ⟨al, ⟨pre, hpre⟩, hlen, _, hfacts⟩ := allD_fact (hp := hp) (ip := ip) (C := C) (rec := rec) (sd := sd) (base := base) (D := D) (fun i d hd => ⟨fun x hx => (hbefA i d (lft i d hd)).2 x hx |>.1, fun j w' hg => by rw [(hK i d hd).gd] at hg; cases hg⟩)
    D [] [] rs [σ] (σ2 :: hs) hall (by simp) trivial (by show [σ].length = (cntW D fun x => decide (x < 0)) + 1; rw [cntW_zero]; rfl)
  obtain ⟨q1, q2, q3⟩ := getS_drop _ _ _ hdr
  have hdu : ∀ (j : Nat) d t, D[j]? = some d → d.o.dst = some t → getS base.sl t = .u := fun i d t hd hdt => by rw [q3, if_pos (memOf_dstsD.2 ⟨i, d, hd, hdt⟩)]
  have hlp := drop_lp hf hdr
  have h0 : (σ2 :: hs).reverse[0]? = some σ := by
    rw [hpre]; simp
  obtain ⟨os, kf, k1, k2, k3, k4⟩ := fr_facts (C := C) (rec := rec) (hp := hp) (ip := ip) (sd := sd) (base := base) (D := D) (rs := rs) hind hlp h0 hK (fun i d hd x hx => ((hbefA i d (lft i d hd)).2 x hx).1) (fun i d hd => hfacts i d (Nat.zero_le _) hd) D.length (Nat.le_refl _)
  have hσ2 : σ2 = σ ++ os := by
    have hl : hs.length = cntW D fun x => decide (x < D.length) := by simpa using hlen
    rw [← hl, List.reverse_cons, List.getElem?_append_right (by simp)] at k1
    simpa using k1
  subst hσ2
  have hI : ∀ (j : Nat) d, D[j]? = some d → Info C rec hp ip sd base D rs σ os kf j d := fun j d hd => k2 j d (List.getElem?_eq_some_iff.1 hd).1 hd
  have hkq : ∀ (j : Nat) d, D[j]? = some d → d.k = .q → kf j = none := fun j d hd hq => by
    cases hkj : kf j with
    | none => rfl
    | some k =>
      obtain ⟨_, _, _, _, _, z⟩ := hI j d hd
      rw [hkj] at z
      have hnew := z.1
      rcases (hK j d hd).kd with ⟨_, ⟨x, hx⟩ | ⟨c, f, hx, _⟩⟩ | ⟨h, _⟩
      · rw [hx] at hnew; cases hnew
      · rw [hx] at hnew; cases hnew
      · rw [hq] at h; cases h
  have hfb : FR B g σ base a w := hf.less (fun t => by
    rw [q3]
    split
    · exact .inl rfl
    · exact .inr rfl) hlp
  have hMM : MatchM ops D := fun i d hd => by
    obtain ⟨o, h1, h2, h3, h4, _⟩ := hM.op i d (lft i d hd)
    exact ⟨o, h1, h2, h3, h4⟩
  have hN : ops.size = D.length + E.length := by rw [hM.size]; simp
  obtain ⟨hh', hst'⟩ := hh.ext (Grow.drew w)
  have hf' := hfb.step hst'
  have conv : ∀ l a1 w1, (∀ x, x < D.length → Lst l x = true) → FrAt n B base D rs σ os kf g w a (Lst l) a1 w1 → To n B g σ w (σ ++ os) (putW (endD base D.reverse rs) []) a1 w1 := fun l a1 w1 hL hA =>
    hA.done hnd hK hdu hlp hI (fun k hk => k4 k hk) (by simpa using al) hh hfb hB hL
  have hzero : ∀ x, Lst (Array.replicate ops.size false) x = false := by
    intro x
    simp only [Lst, Array.getD_eq_getD_getElem?, Array.getElem?_replicate]
    split <;> rfl
  have hallR : ∀ l : Array Bool, l.size = ops.size → (∀ x, x < ops.size → Lst l x = true) → Region.ready .any ops l = [] := by
    intro l _ hL
    cases hr0 : Region.ready .any ops l with
    | nil => rfl
    | cons i rest =>
      obtain ⟨d, h1, h2, h3, h4⟩ := ready_mem hM (l := l) (i := i) (by rw [hr0]; simp)
      have : i < ops.size := by rw [hM.size]; exact (List.getElem?_eq_some_iff.1 h1).1
      rw [hL i this] at h2; cases h2
  have hnone : ∀ l : Array Bool, l.size = ops.size → Region.ready .any ops l = [] → ∀ x, x < ops.size → Lst l x = true := by
    intro l hl hr0 x
    induction x using Nat.strongRecOn with
    | _ x ih =>
      intro hx
      cases hLx : Lst l x with
      | true => rfl
      | false =>
        have hlt : x < (D ++ E).length := by rw [← hM.size]; exact hx
        have hd := List.getElem?_eq_getElem hlt
        have := ready_of hM hl hd hLx (fun y hy => by
          have := (hbefA x _ hd).1 y hy
          exact ih y this (by omega))
        rw [hr0] at this; cases this
  refine wpAny_of (I := FrD C rec hp ip n B base D E rs os kf g σ w a fr' σ' ops.size) (fun l a1 w1 h => h.1) ?_ hallR ?_ ops.size _ a _ ?_ (by omega)
  · rintro l a1 w1 ⟨hl, hdn, hI'⟩ hr0
    have hL := hnone l hl hr0
    have fin : ∀ q fq σq, q ≤ E.length → (∀ x, D.length + q ≤ x → Lst l x = false) → runPost C rec hp ip (E.drop q) fq σq = some (fr', σ') → To n B g σ w σq fq a1 w1 → Q .normal a1 w1 := by
      intro q fq σq h1 h2 h3 h4
      have hq : q = E.length := by
        rcases Nat.lt_or_ge q E.length with h | h
        · have := h2 (D.length + q) (Nat.le_refl _)
          rw [hL _ (by omega)] at this; cases this
        · omega
      subst hq
      rw [List.drop_length] at h3
      simp only [runPost] at h3
      obtain ⟨rfl, rfl⟩ := pureM_eq h3
      exact hk a1 w1 h4
    rcases hI' with ⟨h1, h2⟩ | ⟨q, fq, σq, h1, h2, h3, h4, h5⟩
    · exact fin 0 _ _ (Nat.zero_le _) (fun x hx => h1 x hx) hpost (conv l a1 w1 (fun x hx => hL x (by omega)) h2)
    · exact fin q fq σq h1 h3 h4 h5
  · rintro l a1 w1 i ⟨hl, hdn, hI'⟩ hi
    obtain ⟨d, hd, hLi, hil, haft⟩ := ready_mem hM hi
    have hin : i < ops.size := by omega
    have hb : ∀ x ∈ d.bef, Lst l x = true := by
      intro x hx
      rcases ((hbefA i d hd).2 x hx).2 with h | ⟨y, h1, h2⟩
      · exact haft x h
      · unfold befAt at h2
        cases hy : (D ++ E)[y]? with
        | none => rw [hy] at h2; cases h2
        | some e => rw [hy] at h2; exact hdn y e hy (haft y h1) x h2
    refine ⟨hLi, hin, ?_⟩
    have hset := Lst_set hil
    have hdn' : ∀ (j : Nat) (e : DOp), (D ++ E)[j]? = some e → Lst (l.setIfInBounds i true) j = true → ∀ x ∈ e.bef, Lst (l.setIfInBounds i true) x = true := by
      rw [hset]
      intro j e he hj x hx
      by_cases hji : j = i
      · subst hji
        rw [hd] at he; cases he
        exact also_old (hb x hx)
      · rw [also_ne hji] at hj
        exact also_old (hdn j e he hj x hx)
    have late : ∀ q fq σq, q ≤ E.length → (∀ x, x < D.length + q → Lst l x = true) → (∀ x, D.length + q ≤ x → Lst l x = false) → runPost C rec hp ip (E.drop q) fq σq = some (fr', σ') → To n B g σ w σq fq a1 w1 →
        wpOp P ops Q i (FrD C rec hp ip n B base D E rs os kf g σ w a fr' σ' ops.size (l.setIfInBounds i true)) a1 w1 := by
      intro q fq σq h1 h2 h3 h4 h5
      have hge : D.length + q ≤ i := by
        rcases Nat.lt_or_ge i (D.length + q) with h | h
        · rw [h2 i h] at hLi; cases hLi
        · exact h
      have hdE : E[i - D.length]? = some d := by rw [List.getElem?_append_right (by omega)] at hd; exact hd
      obtain ⟨p1, p2, p3⟩ := hPP _ d hdE
      have hiq : i = D.length + q := by
        rcases Nat.lt_or_ge (D.length + q) i with h | h
        · have := hb _ (p2 (D.length + q) (by omega))
          rw [h3 _ (Nat.le_refl _)] at this; cases this
        · omega
      subst hiq
      rw [Nat.add_sub_cancel_left] at hdE
      have hqE : q < E.length := (List.getElem?_eq_some_iff.1 hdE).1
      have hdrop : E.drop q = d :: E.drop (q + 1) := by
        rw [List.drop_eq_getElem_cons hqE]
        congr 1
        have := List.getElem?_eq_getElem hqE
        rw [this] at hdE; cases hdE; rfl
      rw [hdrop] at h4
      simp only [runPost] at h4
      obtain ⟨f2, σ3, k1, k2⟩ := bindM_eq h4
      obtain ⟨o, ho, ho1, ho2, ho3, _⟩ := hM.op _ d hd
      unfold wpOp
      rw [ho]
      simp only
      have hwant : Region.wanted o (yielded ops a1.tmps) = true := by unfold Region.wanted; rw [ho3, p1]
      rw [if_pos hwant]
      left
      obtain ⟨g1, r1, r2, r3, r4⟩ := h5
      refine stepE_to ht hrec r1 r2 (Nat.le_trans hB r3.size) r4 ho1 ho2 p3 k1 fun a2 w2 hto => ?_
      obtain ⟨g2, s1, s2, s3, s4⟩ := hto
      refine ⟨by rw [Array.size_setIfInBounds]; exact hl, hdn', .inr ⟨q + 1, f2, σ3, by omega, fun x hx => ?_, fun x hx => ?_, k2, g2, s1, s2, r3.trans s3 (Nat.le_refl _), s4⟩⟩
      · rw [hset]
        by_cases hx' : x = D.length + q
        · subst hx'; exact also_self _ _
        · exact also_old (h2 x (by omega))
      · rw [hset, also_ne (by omega)]
        exact h3 x (by omega)
    rcases hI' with ⟨h1, h2⟩ | ⟨q, fq, σq, h1, h2, h3, h4, h5⟩
    · by_cases hmain : ∀ x, x < D.length → Lst l x = true
      · exact late 0 _ _ (Nat.zero_le _) (fun x hx => hmain x hx) (fun x hx => h1 x hx) hpost (conv l a1 w1 hmain h2)
      · have hiD : i < D.length := by
          rcases Nat.lt_or_ge i D.length with h | h
          · exact h
          · exfalso
            have hdE : E[i - D.length]? = some d := by rw [List.getElem?_append_right h] at hd; exact hd
            obtain ⟨_, p2, _⟩ := hPP _ d hdE
            exact hmain fun x hx => hb x (p2 x (by omega))
        have hdD : D[i]? = some d := by rw [List.getElem?_append_left hiD] at hd; exact hd
        refine FrAt.step ht hrec hnd hK hlp hdu hI (fun j j' k hj hj' => k3 j j' k hj hj') hkq hh hB h2 hdD hLi hb hMM fun a2 w2 hA => ?_
        refine ⟨by rw [Array.size_setIfInBounds]; exact hl, hdn', .inl ⟨fun x hx => ?_, by rw [hset]; exact hA⟩⟩
        rw [hset, also_ne (by omega)]; exact h1 x hx
    · exact late q fq σq h1 h2 h3 h4 h5
  · refine ⟨by simp, fun i d hd hi => (by rw [hzero] at hi; cases hi), .inl ⟨fun x _ => hzero x, fun t _ => rfl, g, base, fun _ => 0, fun _ => .bool false, hh', hf', hst'.mono hB, hsz, fun j d t s _ _ hL => (by rw [hzero] at hL; cases hL), fun j d t hd hdt _ => hdu j d t hd hdt, fun t _ => rfl, fun j d t k _ _ hL => (by rw [hzero] at hL; cases hL), fun j j' k k' _ _ hL => (by rw [hzero] at hL; cases hL)⟩⟩
end Go.Am
/-! ## part Loop -/
/- The abstract machine and the model: a loop over a map, in whatever order. -/
namespace Go.Am
open Go
variable {P : Program} {C : Ctx} {rec : Nat → List AV → M AV} {hp ip : List Nat}
variable {n B : Nat} {fr fr' : Fr} {g g' : G} {σ σ' : H} {w w' : World} {a : Act}
theorem natsAlike_eq : ∀ {l m : List Nat}, natsAlike l m = true → l = m
  | [], [], _ => rfl
  | [], _ :: _, h => by cases h
  | _ :: _, [], h => by cases h
  | a :: l, b :: m, h => by
    simp only [natsAlike, Bool.and_eq_true] at h
    rw [Nat.eq_of_beq_eq_true h.1, natsAlike_eq h.2]
theorem SV.alike_eq {a b : SV} (h : a.alike b = true) : a = b := by
  cases a <;> cases b <;> simp only [SV.alike, Bool.and_eq_true] at h <;> first | rfl | (cases h; done) | skip
  · rw [AV.same_eq _ _ h]
  · rw [Nat.eq_of_beq_eq_true h.1, Nat.eq_of_beq_eq_true h.2]
  · rw [AV.same_eq _ _ h]
theorem slsAlike_eq : ∀ {l m : List (Nat × SV)}, slsAlike l m = true → l = m
  | [], [], _ => rfl
  | [], _ :: _, h => by cases h
  | (_, _) :: _, [], h => by cases h
  | (i, s) :: l, (j, t) :: m, h => by
    simp only [slsAlike, Bool.and_eq_true] at h
    rw [Nat.eq_of_beq_eq_true h.1.1, SV.alike_eq h.1.2, slsAlike_eq h.2]
theorem entsAlike_eq : ∀ {l m : List (AV × AV)}, entsAlike l m = true → l = m
  | [], [], _ => rfl
  | [], _ :: _, h => by cases h
  | (_, _) :: _, [], h => by cases h
  | (i, s) :: l, (j, t) :: m, h => by
    simp only [entsAlike, Bool.and_eq_true] at h
    rw [AV.same_eq _ _ h.1.1, AV.same_eq _ _ h.1.2, entsAlike_eq h.2]
theorem boolAlike_eq {a b : Bool} (h : (cond a b (!b)) = true) : a = b := by cases a <;> cases b <;> simp at h <;> rfl
theorem HObj.alike_eq : ∀ {a b : HObj}, a.alike b = true → a = b
  | .arr f s xs, .arr g t ys, h => by
    simp only [HObj.alike, Bool.and_eq_true] at h
    rw [boolAlike_eq h.1.1, Nat.eq_of_beq_eq_true h.1.2, AV.sames_eq _ _ h.2]
  | .map es, .map fs, h => by
    simp only [HObj.alike] at h
    rw [entsAlike_eq h]
  | .it none, .it none, _ => rfl
  | .it (some (a, b, l)), .it (some (c, d, m)), h => by
    simp only [HObj.alike, Bool.and_eq_true] at h
    rw [Nat.eq_of_beq_eq_true h.1.1, Nat.eq_of_beq_eq_true h.1.2, natsAlike_eq h.2]
  | .it none, .it (some _), h => by cases h
  | .it (some (_, _, _)), .it none, h => by cases h
  | .arr .., .map _, h => by cases h
  | .arr .., .it _, h => by cases h
  | .map _, .arr .., h => by cases h
  | .map _, .it _, h => by cases h
  | .it none, .arr .., h => by cases h
  | .it (some _), .arr .., h => by cases h
  | .it none, .map _, h => by cases h
  | .it (some _), .map _, h => by cases h
theorem heapsAlike_eq : ∀ {l m : H}, heapsAlike l m = true → l = m
  | [], [], _ => rfl
  | [], _ :: _, h => by cases h
  | _ :: _, [], h => by cases h
  | a :: l, b :: m, h => by
    simp only [heapsAlike, Bool.and_eq_true] at h
    rw [HObj.alike_eq h.1, heapsAlike_eq h.2]
theorem bothAlike_eq {x y : Fr × H} (h : bothAlike x y = true) : x = y := by
  obtain ⟨⟨a, b⟩, c⟩ := x
  obtain ⟨⟨d, e⟩, f⟩ := y
  simp only [bothAlike, Bool.and_eq_true] at h
  rw [boolAlike_eq h.1.1, slsAlike_eq h.1.2, heapsAlike_eq h.2]
theorem allSame_mem : ∀ {l : List (Option (Fr × H))} {r : Fr × H}, allSame l = some r → ∀ x ∈ l, x = some r
  | [], r, h, x, hx => by cases hx
  | y :: l, r, h, x, hx => by
    unfold allSame at h
    cases l with
    | nil =>
      rcases List.mem_cons.1 hx with rfl | hx
      · exact h
      · cases hx
    | cons z l =>
      simp only at h
      cases y with
      | none => simp at h
      | some u =>
        cases h2 : allSame (z :: l) with
        | none => rw [h2] at h; simp at h
        | some v =>
          rw [h2] at h
          simp only at h
          cases hb : bothAlike u v with
          | false => rw [hb] at h; cases h
          | true =>
            rw [hb] at h
            simp only [cond_true, Option.some.injEq] at h
            subst h
            have he := bothAlike_eq hb
            rcases List.mem_cons.1 hx with rfl | hx
            · rw [he]
            · exact allSame_mem h2 x hx
theorem without_mem {i j : Nat} : ∀ {l : List Nat}, j ∈ without i l ↔ j ∈ l ∧ j ≠ i
  | [] => by simp [without]
  | x :: l => by
    unfold without
    cases hb : Nat.beq i x with
    | true =>
      have := Nat.eq_of_beq_eq_true hb
      subst this
      simp only [cond_true, without_mem (l := l), List.mem_cons]
      constructor
      · rintro ⟨h1, h2⟩; exact ⟨.inr h1, h2⟩
      · rintro ⟨rfl | h1, h2⟩
        · exact absurd rfl h2
        · exact ⟨h1, h2⟩
    | false =>
      have hne : i ≠ x := fun e => by subst e; simp at hb
      simp only [cond_false, List.mem_cons, without_mem (l := l)]
      constructor
      · rintro (rfl | ⟨h1, h2⟩)
        · exact ⟨.inl rfl, Ne.symm hne⟩
        · exact ⟨.inr h1, h2⟩
      · rintro ⟨rfl | h1, h2⟩
        · exact .inl rfl
        · exact .inr ⟨h1, h2⟩
theorem slotsOk_eq {d q n1 n2 e1 : Nat} (h : slotsOk d q n1 n2 e1 fr = true) : getS fr.sl d = .v (.ptr q 0 0 0) ∧ fr.dstOk (some n1) = true ∧ fr.dstOk (some n2) = true ∧ fr.dstOk (some e1) = true := by
  unfold slotsOk at h
  split at h
  · rename_i q' hq
    simp only [Bool.and_eq_true] at h
    obtain ⟨⟨⟨h1, h2⟩, h3⟩, h4⟩ := h
    rw [Nat.eq_of_beq_eq_true h1] at hq
    exact ⟨hq, h2, h3, h4⟩
  · cases h
theorem headOk_eq {q m k : Nat} {sn : List Nat} (h : headOk σ q m k sn = true) : σ[q]? = some (.it (some (m, k, sn))) ∧ ∃ es, σ[m]? = some (.map es) ∧ es.length = k := by
  unfold headOk at h
  split at h
  · rename_i m' k' sn' es h1 h2
    simp only [Bool.and_eq_true] at h
    obtain ⟨⟨⟨a1, a2⟩, a3⟩, a4⟩ := h
    rw [Nat.eq_of_beq_eq_true a1, Nat.eq_of_beq_eq_true a2, natsAlike_eq a3] at h1
    exact ⟨h1, es, h2, Nat.eq_of_beq_eq_true a4⟩
  · cases h
theorem HR.setIt (hr : HR g σ w) {q b : Nat} {s s' : Option (Nat × Nat × List Nat)} (hs : σ[q]? = some (.it s)) (hl : g.loc q 0 = some (b, 0, 0))
    (hor : OR g w' q (.it s')) (hq : ∀ b', b' ≠ b → w'.heap[b']? = w.heap[b']?) (hsz : w.heap.size ≤ w'.heap.size) (hos : w'.os = w.os) (htape : w'.tape = w.tape) (hout : w'.output = w.output) :
    HR g (σ.set q (.it s')) w' ∧ Step w.heap.size g σ w g (σ.set q (.it s')) w' := by
  have hrl : q < σ.length := (List.getElem?_eq_some_iff.1 hs).1
  exact hr.upd (r := q) (o := .it s') (b := b) (.refl g) rfl (fun p hp => List.getElem?_set_ne (Ne.symm hp)) (by simp [hrl]) hor rfl (by simp [blk, HObj.ver, hl])
    (.inl ⟨_, hs, rfl, by simp [blk, HObj.ver, hl]⟩) (fun b' hb' _ => hq b' hb') hsz (by simpa using hrl) (by simp) (fun p v x hx => .inl hx) (fun o0 h0 => by rw [hs] at h0; cases h0; exact Nat.le_refl _) hos htape hout
theorem wp_val {o : Oper} {v : Value} {K : Act → World → Prop} {Q : Exit → Act → World → Prop} (h : (execOp a.eval o).run P w = .ok (.value v) w') (hk : K (a.put o.dst v) w') : o.wp P a w K Q := by
  unfold Oper.wp
  rw [h]
  exact hk
theorem ents_at {en : Array MapEntry} {es : List (AV × AV)} (hl : en.size = es.length) (h : ∀ (i : Nat) k v, es[i]? = some (k, v) → ∃ e, en[i]? = some e ∧ e.born = i ∧ VR g k e.key ∧ VR g v e.val)
    {i : Nat} {x : MapEntry} (hx : en[i]? = some x) : x.born = i ∧ ∃ k v, es[i]? = some (k, v) ∧ VR g k x.key ∧ VR g v x.val := by
  have hi : i < es.length := by rw [← hl]; exact (Array.getElem?_eq_some_iff.1 hx).1
  obtain ⟨⟨k, v⟩, hkv⟩ : ∃ p, es[i]? = some p := ⟨_, List.getElem?_eq_getElem hi⟩
  obtain ⟨e, h1, h2, h3, h4⟩ := h i k v hkv
  rw [hx] at h1
  cases h1
  exact ⟨h2, k, v, hkv, h3, h4⟩
theorem ents_nodup {en : Array MapEntry} (h : ∀ (i : Nat) x, en[i]? = some x → x.born = i) : (en.toList.map (·.born)).Nodup := by
  have : en.toList.map (·.born) = List.range en.size := by
    apply List.ext_getElem?
    intro i
    rw [List.getElem?_map]
    rcases Nat.lt_or_ge i en.size with hi | hi
    · have hx : en[i]? = some en[i] := Array.getElem?_eq_getElem hi
      have : en.toList[i]? = some en[i] := by simp [hi]
      rw [this, List.getElem?_range hi]
      simp [h i _ hx]
    · rw [List.getElem?_eq_none (by simpa using hi), List.getElem?_eq_none (by simpa using hi)]
      rfl
  rw [this]
  exact List.nodup_range
theorem dstOk_put {d t : Nat} {x : AV} (h : fr.dstOk (some t) = true) : (fr.put d (.v x)).dstOk (some t) = true := by
  unfold Fr.dstOk at h ⊢
  simp only [getS_put]
  by_cases hd : d = t
  · simp [hd]
  · simp only [if_neg hd]; exact h
theorem ops2 {p2 p3 : Oper} {n1 n2 : Nat} {t : Bool} {vs : Array Value} {Q : Exit → Act → World → Prop} (g2 : p2.guard = none) (g3 : p3.guard = none) (d2 : p2.dst = some n1) (d3 : p3.dst = some n2) (h3 : p3.op = .extract (.tmp n1) 0)
    (hrun : (execOp a.eval p2).run P w = .ok (.value (.tuple vs)) w') (hv : vs[0]? = some (.bool t)) (hn : n1 < a.tmps.size) (hQ : Q .normal ((a.put (some n1) (.tuple vs)).put (some n2) (.bool t)) w') : wpOps P #[p2, p3] Q [0, 1] a w := by
  have hw2 : ∀ a : Act, Region.wanted p2 (yielded #[p2, p3] a.tmps) = true := fun a => by unfold Region.wanted; rw [g2]
  have hw3 : ∀ a : Act, Region.wanted p3 (yielded #[p2, p3] a.tmps) = true := fun a => by unfold Region.wanted; rw [g3]
  refine wop (o := p2) rfl (hw2 a) (wp_val hrun ?_)
  rw [d2]
  refine wop (o := p3) rfl (hw3 _) (wp_val (v := .bool t) (w' := w') ?_ ?_)
  · have he : (a.put (some n1) (.tuple vs)).eval (.tmp n1) = .tuple vs := by
      simp only [Act.eval]
      exact getD_of (by rw [tmps_put hn, if_pos rfl])
    simp [execOp, h3, he, Instr.extract, hv]
  · rw [d3]
    exact hQ
section
variable {id1 id2 idr ids : Nat} {os ps : Array Oper} {cs cb : Code} {d n1 n2 e1 q m nn : Nat} {keep : List Nat} {rest : List AOp} {o2 o3 o4 : SOp} {bd : Fr → M (Ext × Fr)}
theorem ord_to (ht : Tys P C) (hrec : CallOK P rec)
    (ho : os.toList.map (fun o => (SOp.mk o.dst o.op o.type, o.guard)) = [(o2, none), (o3, none)]) (hp1 : ps.toList.map (fun o => (SOp.mk o.dst o.op o.type, o.guard)) = (o4, none) :: flatOps none rest)
    (hcs : ∀ (Q : Exit → Act → World → Prop) a w, Q .normal a w → cs.wp P Q a w)
    (h2 : o2.op = .next (.tmp d) false) (h2d : o2.dst = some n1) (h3 : o3.op = .extract (.tmp n1) 0) (h3d : o3.dst = some n2) (h4 : o4.op = .entry (.tmp d)) (h4d : o4.dst = some e1)
    (hn1 : n1 < n) (hn2 : n2 < n) (he1 : e1 < n) (hd1 : n1 ≠ d) (hd2 : n2 ≠ d) (hchk : chkOps n (some e1 :: (flatOps none rest).map fun p => p.1.dst) rest = true)
    (ihb : ∀ (g : G) (fr fr' : Fr) (σ σ' : H) (a : Act) (w : World) (ext : Ext) (Q : Exit → Act → World → Prop), bd fr σ = some ((ext, fr'), σ') → HR g σ w → FR B g σ fr a w → B ≤ w.heap.size → a.tmps.size = n →
      (∀ a' w', To n B g σ w σ' fr' a' w' → Q (match ext with | .nrm => .normal | .ex id => .exit id | .ret => .ret) a' w') → cb.wp P Q a w)
    (hnorm : ∀ {g : G} {σ : H} {fr fr0 : Fr} {a : Act} {w : World}, norm keep fr = some fr0 → FR B g σ fr a w → FR B g σ fr0 a w)
    {Q : Exit → Act → World → Prop} :
    ∀ (k : Nat) (sn l : List Nat) (g : G) (fr : Fr) (σ : H) (a : Act) (w : World), ordM q m nn n1 n2 (slotsOk d q n1 n2 e1) (rndM keep q m nn n1 n2 e1 id2 (runOps C rec hp ip rest) bd) k sn l fr σ = some (fr', σ') →
      (∀ i, i ∈ l ↔ i < nn ∧ i ∉ sn) → HR g σ w → FR B g σ fr a w → B ≤ w.heap.size → a.tmps.size = n → (∀ a' w', To n B g σ w σ' fr' a' w' → Q (.exit id1) a' w') →
      Code.rounds P (.seq (.region idr os false) (.seq (.cond (.tmp n2) cs (.exit id1)) (.block id2 (.seq (.region ids ps false) cb)))) Q k a w := by
  -- the two operations at the head
  obtain ⟨p2, p3, rfl, e2, g2, e3, g3⟩ : ∃ p2 p3, os = #[p2, p3] ∧ SOp.mk p2.dst p2.op p2.type = o2 ∧ p2.guard = none ∧ SOp.mk p3.dst p3.op p3.type = o3 ∧ p3.guard = none := by
    obtain ⟨osl⟩ := os
    rcases osl with _ | ⟨x, _ | ⟨y, _ | ⟨z, l⟩⟩⟩ <;> simp at ho
    exact ⟨x, y, rfl, ho.1.1, ho.1.2, ho.2.1, ho.2.2⟩
  have e2o : p2.op = .next (.tmp d) false := by rw [← h2, ← e2]
  have e2d : p2.dst = some n1 := by rw [← h2d, ← e2]
  have e3o : p3.op = .extract (.tmp n1) 0 := by rw [← h3, ← e3]
  have e3d : p3.dst = some n2 := by rw [← h3d, ← e3]
  -- the first operation of a round
  obtain ⟨p4, pl, rfl, e4, g4, hpl⟩ : ∃ p4 pl, ps = ⟨p4 :: pl⟩ ∧ SOp.mk p4.dst p4.op p4.type = o4 ∧ p4.guard = none ∧ pl.map (fun o => (SOp.mk o.dst o.op o.type, o.guard)) = flatOps none rest := by
    obtain ⟨psl⟩ := ps
    rcases psl with _ | ⟨x, l⟩ <;> simp at hp1
    exact ⟨x, l, rfl, hp1.1.1, hp1.1.2, hp1.2⟩
  have e4o : p4.op = .entry (.tmp d) := by rw [← h4, ← e4]
  have e4d : p4.dst = some e1 := by rw [← h4d, ← e4]
  intro k
  induction k with
  | zero => intro sn l g fr σ a w h; exact (failM_eq (σ := σ) h).elim
  | succ k ih =>
    intro sn l g fr σ a w h hl hh hf hB hsz hk
    unfold ordM at h
    split at h
    · cases h
    rename_i htst
    simp only [Bool.and_eq_true] at htst
    obtain ⟨t1, t2, t3, t4⟩ := slotsOk_eq htst.1
    obtain ⟨s1, es, s2, s3⟩ := headOk_eq htst.2
    obtain ⟨v, v1, v2⟩ := hf.get d t1
    obtain ⟨bi, szi, Ni, v3, rfl⟩ := VR_ptr.1 v2
    simp only [Nat.zero_mul, Nat.add_zero] at v1 v2
    obtain ⟨bi', mp, since, seen, c0, i1, i2, i3⟩ := hh.ob q _ s1
    rw [v3] at i1
    cases i1
    obtain ⟨mb, i4, rfl, rfl, i5, i6⟩ := i3 _ _ _ rfl
    obtain ⟨mb', en, m1, m2, m3, m4⟩ := hh.ob m _ s2
    rw [i4] at m1
    cases m1
    have hents : ∀ (i : Nat) x, en[i]? = some x → x.born = i ∧ ∃ k v, es[i]? = some (k, v) ∧ VR g k x.key ∧ VR g v x.val := fun i x hx => ents_at m3 m4 hx
    have hmem : ∀ x ∈ en.toList, en[x.born]? = some x ∧ x.born < since := fun x hx => by
      obtain ⟨i, hi⟩ := List.getElem?_of_mem hx
      have hi' : en[i]? = some x := by simpa using hi
      have := (Array.getElem?_eq_some_iff.1 hi').1
      rw [(hents i x hi').1]
      exact ⟨hi', by omega⟩
    have hevd : a.eval (.tmp d) = .pointer (some ⟨bi, 0, none⟩) := by simp only [Act.eval, getD_of v1]
    have hne : bi ≠ mb := fun e => by rw [e, m2] at i2; cases i2
    rw [rounds_succ]
    apply wp_seq
    apply wp_region
    show wpOps P #[p2, p3] _ [0, 1] a w
    rcases run_next_at (P := P) w p2.type bi mb since c0 seen en en.size i2 m2 (fun x hx => (hmem x hx).2) i5 with ⟨r1, r2⟩ | ⟨e, r1, w1, r2, r3⟩
    · -- nothing is left
      have hall : ∀ i, i ∉ l := fun i hi => by
        obtain ⟨k1, k2⟩ := (hl i).1 hi
        have hx : en[i]? = some en[i] := Array.getElem?_eq_getElem (by omega)
        have := all_seen en seen r1 en[i] (by simp)
        rw [(hents i _ hx).1, i6] at this
        simp at this
        exact k2 this
      cases l with
      | cons x l => exact absurd (List.mem_cons_self) (hall x)
      | nil =>
        simp only [Option.some.injEq, Prod.mk.injEq] at h
        obtain ⟨rfl, rfl⟩ := h
        refine ops2 (t := false) (vs := #[.bool false]) (w' := w) g2 g3 e2d e3d e3o (by simp [execOp, e2o, hevd, r2, Sem.run_bind, Result.andThen_ok]) rfl (by omega) ?_
        obtain ⟨u1, u2⟩ := hh.setIt (s' := none) s1 v3 (w' := w) ⟨bi, some mb, since, seen, c0, v3, i2, fun _ _ _ h => by cases h⟩ (fun _ _ => rfl) (Nat.le_refl _) rfl rfl rfl
        have f1 := hf.put u2 (d := n1) t2 (by omega) (v := .tuple #[.bool false]) (s := .v (.tup [.bool false])) (VR_tup.2 ⟨_, rfl, rfl, fun j c hj => by
          cases j with
          | zero => simp at hj; subst hj; exact ⟨.bool false, rfl, VR_bool.2 rfl⟩
          | succ j => simp at hj⟩)
        have f2 := f1.put (.refl _ _ _ _) (d := n2) (dstOk_put t3) (by rw [size_put]; omega) (v := .bool false) (s := .v (.bool false)) (VR_bool.2 rfl)
        show ((Code.cond (.tmp n2) cs (.exit id1)).seq _).wp P _ _ w
        apply wp_seq
        refine wp_cond (t := false) ?_ ?_
        · simp only [Act.eval]
          exact getD_of (by rw [tmps_put (by rw [size_put]; omega), if_pos rfl])
        · exact wp_exit (hk _ _ ⟨g, u1, f2, u2.mono hB, by rw [size_put, size_put]; exact hsz⟩)
    · -- one more
      obtain ⟨hem, hes⟩ := mem_left r1
      obtain ⟨hei, hlt⟩ := hmem e hem
      obtain ⟨_, kk, vv, hkv, hk1, hk2⟩ := hents _ _ hei
      have hil : e.born ∈ l := (hl _).2 ⟨hlt, fun hc => by
        rw [i6] at hes
        simp [hc] at hes⟩
      have hstep : bindM (rndM keep q m since n1 n2 e1 id2 (runOps C rec hp ip rest) bd e.born sn fr) (fun f => ordM q m since n1 n2 (slotsOk d q n1 n2 e1) (rndM keep q m since n1 n2 e1 id2 (runOps C rec hp ip rest) bd) k (e.born :: sn) (without e.born l) f) σ = some (fr', σ') := by
        cases l with
        | nil => cases hil
        | cons x l' => exact allSame_mem h _ (List.mem_map.2 ⟨e.born, hil, rfl⟩)
      obtain ⟨fr2, σ2, hr1, hr2⟩ := bindM_eq hstep
      unfold rndM at hr1
      rw [s2] at hr1
      simp only [hkv] at hr1
      obtain ⟨fr3, σ3, hr3, hr4⟩ := bindM_eq hr1
      obtain ⟨⟨ex4, fr4⟩, σ4, hr5, hr6⟩ := bindM_eq hr4
      -- the world behind 'next'
      have hbl : w1.heap = w.heap ∧ w1.os = w.os ∧ w1.tape = w.tape ∧ w1.output = w.output := by rcases r2 with rfl | rfl <;> exact ⟨rfl, rfl, rfl, rfl⟩
      have hr1' : w1.heap[bi]? = some (.mapIter (some mb) since seen c0) := by rw [hbl.1]; exact i2
      have hset := MapKept.heap_set (o' := .mapIter (some mb) since (seen.push e.born) en.size) hr1'
      obtain ⟨W2, hW2⟩ : ∃ W2, ChangeMaps.setBlock w1 bi (.mapIter (some mb) since (seen.push e.born) en.size) = W2 := ⟨_, rfl⟩
      have hW2h : W2.heap = w1.heap.setIfInBounds bi (.mapIter (some mb) since (seen.push e.born) en.size) := by rw [← hW2]; rfl
      rw [hW2] at r3
      rw [← hW2h] at hset
      have hWm : W2.heap[mb]? = some (.map en en.size) := by rw [hset.2 mb (Ne.symm hne), hbl.1]; exact m2
      obtain ⟨u1, u2⟩ := hh.setIt (s' := some (m, since, e.born :: sn)) s1 v3 (w' := W2) ⟨bi, some mb, since, seen.push e.born, en.size, v3, hset.1, fun m' n' sn' hs' => by
          simp only [Option.some.injEq, Prod.mk.injEq] at hs'
          obtain ⟨rfl, rfl, rfl⟩ := hs'
          refine ⟨mb, i4, rfl, rfl, by omega, fun i => ?_⟩
          rw [contains_push, i6]
          by_cases hc : i = e.born
          · subst hc; simp
          · have : ¬ e.born = i := fun x => hc x.symm
            simp [hc, this]⟩ (fun b' hb' => by rw [hset.2 b' hb', hbl.1]) (by rw [← hW2]; simp [ChangeMaps.setBlock, hbl.1]) (by rw [← hW2]; exact hbl.2.1) (by rw [← hW2]; exact hbl.2.2.1) (by rw [← hW2]; exact hbl.2.2.2)
      refine ops2 (t := true) (vs := #[.bool true, e.key, e.val]) (w' := W2) g2 g3 e2d e3d e3o (by simp [execOp, e2o, hevd, r3, Sem.run_bind, Result.andThen_ok]) rfl (by omega) ?_
      have f1 := hf.put u2 (d := n1) t2 (by omega) (v := .tuple #[.bool true, e.key, e.val]) (s := .v (.tup [.bool true, kk, vv])) (VR_tup.2 ⟨_, rfl, rfl, fun j c hj => by
        match j with
        | 0 => simp at hj; subst hj; exact ⟨.bool true, rfl, VR_bool.2 rfl⟩
        | 1 => simp at hj; subst hj; exact ⟨e.key, rfl, hk1⟩
        | 2 => simp at hj; subst hj; exact ⟨e.val, rfl, hk2⟩
        | j + 3 => simp at hj⟩)
      have f2 := f1.put (.refl _ _ _ _) (d := n2) (dstOk_put t3) (by rw [size_put]; omega) (v := .bool true) (s := .v (.bool true)) (VR_bool.2 rfl)
      obtain ⟨A, hA⟩ : ∃ A, (a.put (some n1) (.tuple #[.bool true, e.key, e.val])).put (some n2) (.bool true) = A := ⟨_, rfl⟩
      have hAsz : A.tmps.size = n := by rw [← hA, size_put, size_put]; exact hsz
      have hAn2 : A.tmps[n2]? = some (.bool true) := by rw [← hA, tmps_put (by rw [size_put]; omega), if_pos rfl]
      have hAd : A.tmps[d]? = some (.pointer (some ⟨bi, 0, none⟩)) := by rw [← hA, tmps_put_ne hd2, tmps_put_ne hd1]; exact v1
      rw [hA] at f2 ⊢
      show ((Code.cond (.tmp n2) cs (.exit id1)).seq _).wp P _ _ W2
      apply wp_seq
      refine wp_cond (t := true) (show A.eval (.tmp n2) = _ by simp only [Act.eval]; exact getD_of hAn2) ?_
      rw [if_pos rfl]
      refine hcs _ _ _ ?_
      show (Code.block id2 _).wp P _ A W2
      apply wp_block
      apply wp_seq
      apply wp_region
      have hlen : (⟨p4 :: pl⟩ : Array Oper).size = (flatOps none rest).length + 1 := by rw [← hpl]; simp
      rw [hlen, List.range_eq_range', List.range'_succ]
      have hw4 : Region.wanted p4 (yielded ⟨p4 :: pl⟩ A.tmps) = true := by unfold Region.wanted; rw [g4]
      refine wop (o := p4) rfl hw4 (wp_val (v := .tuple #[e.key, e.val]) (w' := W2) ?_ ?_)
      · have := run_entry_at (P := P) W2 bi mb since seen en en.size e hset.1 hWm hem (ents_nodup fun i x hx => (hents i x hx).1)
        have hev : A.eval (.tmp d) = .pointer (some ⟨bi, 0, none⟩) := by simp only [Act.eval, getD_of hAd]
        simp [execOp, e4o, hev, this, Sem.run_bind, Result.andThen_ok]
      rw [e4d]
      have f3 := f2.put (.refl _ _ _ _) (d := e1) (dstOk_put (dstOk_put t4)) (by omega) (v := .tuple #[e.key, e.val]) (s := .v (.tup [kk, vv])) (VR_tup.2 ⟨_, rfl, rfl, fun j c hj => by
        match j with
        | 0 => simp at hj; subst hj; exact ⟨e.key, rfl, hk1⟩
        | 1 => simp at hj; subst hj; exact ⟨e.val, rfl, hk2⟩
        | j + 2 => simp at hj⟩)
      -- the other operations, then the body
      have hget : ∀ (k : Nat) x, (flatOps none rest)[k]? = some x → ∃ o, (⟨p4 :: pl⟩ : Array Oper)[0 + 1 + k]? = some o ∧ o.op = x.1.op ∧ o.dst = x.1.dst ∧ o.guard = x.2 := by
        intro k x hx
        rw [← hpl, List.getElem?_map] at hx
        cases ho : pl[k]? with
        | none => rw [ho] at hx; cases hx
        | some o =>
          rw [ho] at hx
          simp at hx
          subst hx
          refine ⟨o, ?_, rfl, rfl, rfl⟩
          rw [show 0 + 1 + k = k + 1 by omega]
          simpa using ho
      have hds : ∀ (j' c' : Nat), (some e1 :: (flatOps none rest).map fun p => p.1.dst)[j']? = some (some c') → ((⟨p4 :: pl⟩ : Array Oper)[j']?).bind (·.dst) = some c' := by
        intro j c hj
        cases j with
        | zero =>
          simp at hj
          subst hj
          show p4.dst = _
          exact e4d
        | succ j =>
          rw [List.getElem?_cons_succ, List.getElem?_map] at hj
          cases hx : (flatOps none rest)[j]? with
          | none => rw [hx] at hj; cases hj
          | some x =>
            rw [hx] at hj
            simp at hj
            obtain ⟨o, h1, h2, h3, h4⟩ := hget j x hx
            rw [show 0 + 1 + j = j + 1 by omega] at h1
            rw [h1]; simp [h3, hj]
      have := runOps_to (P := P) (Q := Exit.then (cb.wp P (Exit.inBlock id2 (Exit.then (Code.rounds P (.seq (.region idr #[p2, p3] false) (.seq (.cond (.tmp n2) cs (.exit id1)) (.block id2 (.seq (.region ids ⟨p4 :: pl⟩ false) cb)))) Q k) Q))) (Exit.inBlock id2 (Exit.then (Code.rounds P (.seq (.region idr #[p2, p3] false) (.seq (.cond (.tmp n2) cs (.exit id1)) (.block id2 (.seq (.region ids ⟨p4 :: pl⟩ false) cb)))) Q k) Q))) ht hrec hds rest none (0 + 1) g _ fr3 (σ.set q (.it (some (m, since, e.born :: sn)))) σ3 (A.put (some e1) (.tuple #[e.key, e.val])) W2 hr3 (fun k x hx => hget k x hx) hchk ⟨fun j w' hg => (by cases hg), fun j w' hg => (by cases hg)⟩ u1 f3 (Nat.le_trans hB u2.size) (by rw [size_put]; exact hAsz) [] ?_
      · rw [List.append_nil] at this
        exact this
      intro a5 w5 hto
      obtain ⟨g5, c1, c2, c3, c4⟩ := hto
      have st5 := (u2.mono hB).trans c3 (Nat.le_refl _)
      refine ihb g5 fr3 fr4 σ3 σ4 a5 w5 ex4 _ hr5 c1 c2 (Nat.le_trans hB st5.size) c4 fun a6 w6 hto => ?_
      have next : ∀ (hr : normM keep fr4 σ4 = some (fr2, σ2)), Code.rounds P (.seq (.region idr #[p2, p3] false) (.seq (.cond (.tmp n2) cs (.exit id1)) (.block id2 (.seq (.region ids ⟨p4 :: pl⟩ false) cb)))) Q k a6 w6 := fun hr => by
        unfold normM at hr
        cases hnm : norm keep fr4 with
        | none => rw [hnm] at hr; exact (failM_eq (σ := σ4) hr).elim
        | some f =>
          rw [hnm] at hr
          obtain ⟨rfl, rfl⟩ := pureM_eq hr
          obtain ⟨g6, b1, b2, b3, b4⟩ := hto
          have st6 := st5.trans b3 (Nat.le_refl _)
          refine ih (e.born :: sn) (without e.born l) g6 fr2 σ2 a6 w6 hr2 (fun i => ?_) b1 (hnorm hnm b2) (Nat.le_trans hB st6.size) b4 fun a7 w7 h7 => hk a7 w7 ?_
          · rw [without_mem, hl]
            simp only [List.mem_cons, not_or]
            constructor
            · rintro ⟨⟨x1, x2⟩, x3⟩; exact ⟨x1, x3, x2⟩
            · rintro ⟨x1, x3, x2⟩; exact ⟨⟨x1, x2⟩, x3⟩
          · obtain ⟨g7, y1, y2, y3, y4⟩ := h7
            exact ⟨g7, y1, y2, st6.trans y3 (Nat.le_refl _), y4⟩
      cases ex4 with
      | nrm => exact next hr6
      | ex j =>
        simp only at hr6
        cases hj : Nat.beq j id2 with
        | true =>
          rw [hj] at hr6
          have := Nat.eq_of_beq_eq_true hj
          subst this
          simp only [Exit.inBlock, if_true]
          exact next hr6
        | false =>
          rw [hj] at hr6
          exact (failM_eq (σ := σ4) hr6).elim
      | ret => exact (failM_eq (σ := σ4) hr6).elim
end
end Go.Am
/-! ## part Den -/
/- The abstract machine and the model: code. -/
namespace Go.Am
open Go
variable {P : Program} {C : Ctx} {rec : Nat → List AV → M AV} {hp ip : List Nat}
variable {n B : Nat} {fr fr' : Fr} {g g' : G} {σ σ' : H} {w w' : World} {a : Act}
inductive Skel where
  | skip
  | reg (ops : List (SOp × Gd))
  | drw (ops : List (SOp × Gd × List Nat))
  | seq (a b : Skel)
  | cond (c : Operand) (a b : Skel)
  | block (id : Nat) (a : Skel)
  | loop (a : Skel)
  | exit (id : Nat)
  | ret
  | rng (g : Operand) (ps : List Nat) (a b : Skel)
  | other
def skA : ACode → Skel
  | .skip => .skip
  | .reg ops => .reg (flatOps none ops)
  | .drw _ D E => .drw ((D ++ E).map fun d => (d.o, d.guard, d.aft))
  | .all _ D => .drw (D.map fun d => (d.o, d.guard, d.aft))
  | .seq a b => .seq (skA a) (skA b)
  | .cond c a b => .cond c (skA a) (skA b)
  | .block id a => .block id (skA a)
  | .loop _ a => .loop (skA a)
  | .exit id => .exit id
  | .ret => .ret
  | .rng t p q _ a b => .rng (.tmp t) [p, q] (skA a) (skA b)
  | .mlp _ o2 o3 o4 id1 id2 rest b => .loop (.seq (.reg [(o2, none), (o3, none)]) (.seq (.cond (.tmp (o3.dst.getD 0)) .skip (.exit id1)) (.block id2 (.seq (.reg ((o4, none) :: flatOps none rest)) (skA b)))))
def opSO (o : Oper) : SOp := ⟨o.dst, o.op, o.type⟩
def skC : Code → Skel
  | .skip => .skip
  | .label _ => .skip
  | .region _ ops false => .reg (ops.toList.map fun o => (opSO o, o.guard))
  | .region _ ops true => .drw (ops.toList.map fun o => (opSO o, o.guard, aftOf o))
  | .seq a b => .seq (skC a) (skC b)
  | .cond c a b => .cond c (skC a) (skC b)
  | .block id a => .block id (skC a)
  | .loop a => .loop (skC a)
  | .exit id => .exit id
  | .ret => .ret
  | .rangeFunc g ps a b => .rng g ps.toList (skC a) (skC b)
  | _ => .other
theorem skC_seq {c : Code} {x y : Skel} (h : skC c = .seq x y) : ∃ a b, c = .seq a b ∧ skC a = x ∧ skC b = y := by
  cases c <;> (try simp only [skC] at h) <;> try (cases h; done)
  case region id os dr => cases dr <;> simp only [skC] at h <;> cases h
  rename_i a b
  simp only [Skel.seq.injEq] at h
  exact ⟨a, b, rfl, h.1, h.2⟩
theorem skC_reg {c : Code} {l : List (SOp × Gd)} (h : skC c = .reg l) : ∃ id os, c = .region id os false ∧ os.toList.map (fun o => (SOp.mk o.dst o.op o.type, o.guard)) = l := by
  cases c <;> (try simp only [skC] at h) <;> try (cases h; done)
  rename_i id os dr
  cases dr <;> simp only [skC, Skel.reg.injEq] at h
  · exact ⟨id, os, rfl, h⟩
  · cases h
theorem skC_cond {c : Code} {q : Operand} {x y : Skel} (h : skC c = .cond q x y) : ∃ a b, c = .cond q a b ∧ skC a = x ∧ skC b = y := by
  cases c <;> (try simp only [skC] at h) <;> try (cases h; done)
  case region id os dr => cases dr <;> simp only [skC] at h <;> cases h
  rename_i q' a b
  simp only [Skel.cond.injEq] at h
  obtain ⟨rfl, h1, h2⟩ := h
  exact ⟨a, b, rfl, h1, h2⟩
theorem skC_block {c : Code} {id : Nat} {x : Skel} (h : skC c = .block id x) : ∃ a, c = .block id a ∧ skC a = x := by
  cases c <;> (try simp only [skC] at h) <;> try (cases h; done)
  case region id os dr => cases dr <;> simp only [skC] at h <;> cases h
  rename_i q' a
  simp only [Skel.block.injEq] at h
  obtain ⟨rfl, h1⟩ := h
  exact ⟨a, rfl, h1⟩
theorem skC_loop {c : Code} {x : Skel} (h : skC c = .loop x) : ∃ a, c = .loop a ∧ skC a = x := by
  cases c <;> (try simp only [skC] at h) <;> try (cases h; done)
  case region id os dr => cases dr <;> simp only [skC] at h <;> cases h
  rename_i a
  simp only [Skel.loop.injEq] at h
  exact ⟨a, rfl, h⟩
theorem skC_exit {c : Code} {id : Nat} (h : skC c = .exit id) : c = .exit id := by
  cases c <;> (try simp only [skC] at h) <;> try (cases h; done)
  case region id os dr => cases dr <;> simp only [skC] at h <;> cases h
  simp only [Skel.exit.injEq] at h
  rw [h]
theorem skC_skip {c : Code} (h : skC c = .skip) : ∀ (Q : Exit → Act → World → Prop) a w, Q .normal a w → c.wp P Q a w := by
  intro Q a w hq
  cases c <;> (try simp only [skC] at h) <;> try (cases h; done)
  · exact wp_skip hq
  · rename_i id os dr; cases dr <;> simp only [skC] at h <;> cases h
  · exact wp_label hq
def chkA (n : Nat) : Nat → List DOp → Bool
  | _, [] => true
  | i, d :: l => d.guard.isNone && (d.aft.all fun x => decide (x < i)) && dstIn n d.o.dst && chkA n (i + 1) l
def noDefer : Op → Bool
  | .defer _ => false
  | _ => true
def okR : ACode → Bool
  | .skip => true
  | .reg ops => (flatOps none ops).all fun p => noDefer p.1.op
  | .seq a b => okR a && okR b
  | .cond _ a b => okR a && okR b
  | .block _ a => okR a
  | _ => false
def okIt (n : Nat) (o2 o3 o4 : SOp) : Bool :=
  match o2.op, o3.op, o4.op, o2.dst, o3.dst, o4.dst with
  | .next (.tmp d) false, .extract (.tmp n1') 0, .entry (.tmp d'), some n1, some n2, some e1 => decide (n1' = n1 ∧ d' = d ∧ n1 < n ∧ n2 < n ∧ e1 < n ∧ n1 ≠ d ∧ n2 ≠ d)
  | _, _, _, _, _, _ => false
theorem okIt_eq {n : Nat} {o2 o3 o4 : SOp} (h : okIt n o2 o3 o4 = true) : ∃ d n1 n2 e1, o2.op = .next (.tmp d) false ∧ o3.op = .extract (.tmp n1) 0 ∧ o4.op = .entry (.tmp d) ∧ o2.dst = some n1 ∧ o3.dst = some n2 ∧ o4.dst = some e1 ∧ n1 < n ∧ n2 < n ∧ e1 < n ∧ n1 ≠ d ∧ n2 ≠ d := by
  unfold okIt at h
  split at h
  · rename_i d n1' d' n1 n2 e1 h1 h2 h3 h4 h5 h6
    simp only [decide_eq_true_eq] at h
    obtain ⟨rfl, rfl, k1, k2, k3, k4, k5⟩ := h
    exact ⟨_, _, _, _, h1, h2, h3, h4, h5, h6, k1, k2, k3, k4, k5⟩
  · cases h
def okA (n : Nat) : ACode → Bool
  | .mlp _ o2 o3 o4 _ _ rest b => okIt n o2 o3 o4 && chkOps n (o4.dst :: (flatOps none rest).map fun p => p.1.dst) rest && okA n b
  | .reg ops => chkOps n ((flatOps none ops).map fun p => p.1.dst) ops
  | .drw _ D E => chkD n D E || chkFr n D E
  | .all _ D => chkA n 0 D
  | .seq a b => okA n a && okA n b
  | .cond _ a b => okA n a && okA n b
  | .block _ a => okA n a
  | .loop _ a => okA n a
  | .rng _ p q _ a b => okR a && okR b && okA n a && okA n b && decide (p < n) && decide (q < n) && decide (p ≠ q)
  | _ => true
def exitOf : Ext → Exit
  | .nrm => .normal
  | .ex id => .exit id
  | .ret => .ret
theorem To.from {g1 : G} {σ1 σ2 : H} {w1 w2 : World} (h : Step B g σ w g1 σ1 w1) (k : To n B g1 σ1 w1 σ2 fr a w2) : To n B g σ w σ2 fr a w2 := by
  obtain ⟨g2, h1, h2, h3, h4⟩ := k
  exact ⟨g2, h1, h2, h.trans h3 (Nat.le_refl _), h4⟩
theorem getS_keep (sl : List (Nat × SV)) : ∀ (keep : List Nat) (t : Nat), getS (keepS sl keep) t = if t ∈ keep then getS sl t else .u
  | [], t => rfl
  | x :: keep, t => by
    simp only [keepS, getS_nil, getS_cons, List.mem_cons]
    by_cases hx : x = t
    · subst hx; simp
    · rw [if_neg hx, getS_keep sl keep t]
      simp [Ne.symm hx]
theorem refsIn_get {keep : List Nat} : ∀ {l : List (Nat × SV)}, refsIn keep l = true → ∀ {t d off : Nat}, getS l t = .lp d off → d ∈ keep
  | [], _, t, d, off, h => by cases h
  | (x, s) :: l, hr, t, d, off, h => by
    simp only [getS_nil, getS_cons] at h
    split at h
    · subst h
      simp only [refsIn, Bool.and_eq_true] at hr
      exact memN_mem.1 hr.1
    · refine refsIn_get (l := l) ?_ h
      cases s <;> simp only [refsIn, Bool.and_eq_true] at hr <;> first | exact hr | exact hr.2
theorem norm_FR {keep : List Nat} {fr0 : Fr} (h : norm keep fr = some fr0) (hf : FR B g σ fr a w) : FR B g σ fr0 a w := by
  unfold norm at h
  split at h <;> simp at h
  rename_i hr
  subst h
  refine hf.less (fun t => ?_) fun t d off ht => ?_
  · show getS (keepS fr.sl keep) t = .u ∨ getS (keepS fr.sl keep) t = getS fr.sl t
    rw [getS_keep]
    split
    · exact .inr rfl
    · exact .inl rfl
  · have hd := refsIn_get hr ht
    show (getS (keepS fr.sl keep) d).isBox = true
    have ht' : getS (keepS fr.sl keep) t = .lp d off := ht
    rw [getS_keep] at ht' ⊢
    rw [if_pos hd]
    split at ht'
    · exact (hf.get t ht').1
    · cases ht'
section
variable {D : List DOp} {keep : List Nat}
theorem memN_in {d : Nat} : ∀ {l : List Nat}, memN d l = true ↔ d ∈ l
  | [] => by simp [memN]
  | x :: l => by
    unfold memN
    by_cases h : x = d
    · subst h; simp
    · rw [if_neg h, memN_in, List.mem_cons]
      constructor
      · exact .inr
      · rintro (h1 | h1)
        · exact absurd h1.symm h
        · exact h1
theorem allR_mem : ∀ {qs : List (List Nat)} {r : Fr × H}, allR C rec hp ip keep D qs fr σ = some r → ∀ q ∈ qs, seqN C rec hp ip keep D q fr σ = some r
  | [], r, h, q, hq => by cases hq
  | x :: qs, r, h, q, hq => by
    unfold allR at h
    cases qs with
    | nil =>
      rcases List.mem_cons.1 hq with rfl | hq
      · exact h
      · cases hq
    | cons y ys =>
      simp only at h
      split at h
      case h_2 => cases h
      rename_i u v h1 h2
      cases hb : bothAlike u v with
      | false => rw [hb] at h; cases h
      | true =>
        rw [hb] at h
        simp only [cond_true, Option.some.injEq] at h
        subst h
        have he := bothAlike_eq hb
        subst he
        rcases List.mem_cons.1 hq with rfl | hq
        · exact h1
        · exact allR_mem h2 q hq
theorem chkA_at : ∀ {l : List DOp} {i j : Nat} {d : DOp}, chkA n i l = true → l[j]? = some d → d.guard = none ∧ (∀ x ∈ d.aft, x < i + j) ∧ dstIn n d.o.dst = true
  | [], i, j, d, h, hd => by simp at hd
  | e :: l, i, 0, d, h, hd => by
    simp at hd
    subst hd
    unfold chkA at h
    simp only [Bool.and_eq_true, List.all_eq_true, decide_eq_true_eq] at h
    obtain ⟨⟨⟨h1, h2⟩, h3⟩, h4⟩ := h
    exact ⟨by simpa using h1, h2, h3⟩
  | e :: l, i, j + 1, d, h, hd => by
    unfold chkA at h
    simp only [Bool.and_eq_true] at h
    have := chkA_at (j := j) h.2 (by simpa using hd)
    rw [show i + 1 + j = i + (j + 1) by omega] at this
    exact this
theorem ready_in {done : List Nat} {i : Nat} {d : DOp} (hd : D[i]? = some d) (hi : i ∉ done) (ha : ∀ x ∈ d.aft, x ∈ done) : i ∈ readyO D done := by
  unfold readyO
  rw [List.mem_filter, List.mem_range]
  refine ⟨(List.getElem?_eq_some_iff.1 hd).1, ?_⟩
  rw [hd]
  simp only [Bool.and_eq_true, Bool.not_eq_true', List.all_eq_true]
  refine ⟨?_, fun x hx => memN_in.2 (ha x hx)⟩
  cases h : memN i done with
  | false => rfl
  | true => exact absurd (memN_in.1 h) hi
theorem first_not {p : Nat → Bool} : ∀ {m : Nat}, (∃ x, x < m ∧ p x = false) → ∃ i, i < m ∧ p i = false ∧ ∀ y, y < i → p y = true
  | 0, ⟨x, h, _⟩ => by omega
  | m + 1, ⟨x, h, hx⟩ => by
    by_cases hm : ∃ x, x < m ∧ p x = false
    · obtain ⟨i, h1, h2, h3⟩ := first_not hm
      exact ⟨i, by omega, h2, h3⟩
    · have hxm : x = m := by
        rcases Nat.lt_or_ge x m with h4 | h4
        · exact absurd ⟨x, h4, hx⟩ hm
        · omega
      refine ⟨m, by omega, hxm ▸ hx, fun y hy => ?_⟩
      cases hp : p y with
      | true => rfl
      | false => exact absurd ⟨y, hy, hp⟩ hm
theorem cnt_not {p : Nat → Bool} {m : Nat} (h : (List.range m).countP p < m) : ∃ x, x < m ∧ p x = false := by
  refine Classical.byContradiction fun hc => ?_
  have : (List.range m).countP p = (List.range m).length := List.countP_eq_length.2 fun x hx => by
    cases hp : p x with
    | true => rfl
    | false => exact absurd ⟨x, List.mem_range.1 hx, hp⟩ hc
  simp at this
  omega
theorem also_cons (done : List Nat) (i : Nat) : (fun x => decide (x ∈ i :: done)) = also (fun x => decide (x ∈ done)) i := by
  funext x
  simp only [also, List.mem_cons]
  by_cases h1 : x = i <;> by_cases h2 : x ∈ done <;> simp [h1, h2]
theorem ext_ne (hc : chkA n 0 D = true) : ∀ (k : Nat) (done : List Nat), (List.range D.length).countP (fun x => decide (x ∈ done)) + k ≤ D.length → ∃ q, q ∈ extO D k done
  | 0, done, h => ⟨[], by simp [extO]⟩
  | k + 1, done, h => by
    obtain ⟨i, h1, h2, h3⟩ := first_not (cnt_not (p := fun x => decide (x ∈ done)) (m := D.length) (by omega))
    have hd := List.getElem?_eq_getElem h1
    obtain ⟨_, c2, _⟩ := chkA_at hc hd
    rw [Nat.zero_add] at c2
    have hr : i ∈ readyO D done := ready_in hd (by simpa using h2) fun x hx => by simpa using h3 x (c2 x hx)
    obtain ⟨q, hq⟩ := ext_ne hc k (i :: done) (by rw [also_cons, countP_also h2 h1]; omega)
    refine ⟨i :: q, ?_⟩
    unfold extO
    rw [List.mem_flatMap]
    exact ⟨i, hr, List.mem_map.2 ⟨q, hq, rfl⟩⟩
theorem seqD_app : ∀ (p q : List Nat) (fr : Fr) (σ : H), seqD C rec hp ip D (p ++ q) fr σ = bindM (seqD C rec hp ip D p fr) (fun f => seqD C rec hp ip D q f) σ
  | [], q, fr, σ => rfl
  | i :: p, q, fr, σ => by
    simp only [List.cons_append, seqD]
    cases D[i]? with
    | none => rfl
    | some d =>
      simp only
      unfold bindM
      cases stepE C fr rec hp ip d.o σ with
      | none => rfl
      | some r => exact seqD_app p q r.1 r.2
theorem allR_any (ht : Tys P C) (hrec : CallOK P rec) {ops : Array Oper} (hM : MatchD ops D) (hc : chkA n 0 D = true)
    (h : allR C rec hp ip keep D (extO D D.length []) fr σ = some (fr', σ')) (hh : HR g σ w) (hf : FR B g σ fr a w) (hB : B ≤ w.heap.size) (hsz : a.tmps.size = n)
    {Q : Exit → Act → World → Prop} (hk : ∀ a' w', To n B g σ w σ' fr' a' w' → Q .normal a' w') : wpAny P .any ops Q ops.size (Array.replicate ops.size false) a { w with drawn := w.drawn + 1 } := by
  have hmem := allR_mem h
  obtain ⟨hh', hst'⟩ := hh.ext (Grow.drew w)
  have hf' := hf.step hst'
  have hzero : ∀ x, Lst (Array.replicate ops.size false) x = false := by
    intro x
    simp only [Lst, Array.getD_eq_getD_getElem?, Array.getElem?_replicate]
    split <;> rfl
  have haft : ∀ (i : Nat) (d : DOp), D[i]? = some d → ∀ x ∈ d.aft, x < i := fun i d hd => by
    have := (chkA_at hc hd).2.1
    rwa [Nat.zero_add] at this
  have hallR : ∀ l : Array Bool, l.size = ops.size → (∀ x, x < ops.size → Lst l x = true) → Region.ready .any ops l = [] := by
    intro l _ hL
    cases hr0 : Region.ready .any ops l with
    | nil => rfl
    | cons i rest =>
      obtain ⟨d, h1, h2, h3, h4⟩ := ready_mem hM (l := l) (i := i) (by rw [hr0]; simp)
      have : i < ops.size := by rw [hM.size]; exact (List.getElem?_eq_some_iff.1 h1).1
      rw [hL i this] at h2; cases h2
  have hnone : ∀ l : Array Bool, l.size = ops.size → Region.ready .any ops l = [] → ∀ x, x < ops.size → Lst l x = true := by
    intro l hl hr0 x
    induction x using Nat.strongRecOn with
    | _ x ih =>
      intro hx
      cases hLx : Lst l x with
      | true => rfl
      | false =>
        have hlt : x < D.length := by rw [← hM.size]; exact hx
        have hd := List.getElem?_eq_getElem hlt
        have := ready_of hM hl hd hLx (fun y hy => by
          have := haft x _ hd y hy
          exact ih y this (by omega))
        rw [hr0] at this; cases this
  refine wpAny_of (I := fun l a1 w1 => l.size = ops.size ∧ ∃ (p done : List Nat) (fq : Fr) (σq : H), (∀ x, x ∈ done ↔ Lst l x = true) ∧ p.length = (List.range D.length).countP (fun x => decide (x ∈ done)) ∧
      seqD C rec hp ip D p fr σ = some (fq, σq) ∧ To n B g σ w σq fq a1 w1 ∧ ∀ q ∈ extO D (D.length - p.length) done, p ++ q ∈ extO D D.length []) (fun l a1 w1 h => h.1) ?_ hallR ?_ ops.size _ a _ ?_ (by omega)
  · -- the end
    rintro l a1 w1 ⟨hl, p, done, fq, σq, e1, e2, e3, e4, e5⟩ hr0
    have hL := hnone l hl hr0
    have hp : p.length = D.length := by
      rw [e2]
      have : (List.range D.length).countP (fun x => decide (x ∈ done)) = (List.range D.length).length := List.countP_eq_length.2 fun x hx => by
        have := hL x (by rw [hM.size]; exact List.mem_range.1 hx)
        simpa using (e1 x).2 this
      rw [this]; simp
    have h5 := e5 [] (by rw [hp, Nat.sub_self]; simp [extO])
    rw [List.append_nil] at h5
    have h6 := hmem p h5
    unfold seqN at h6
    obtain ⟨f2, σ2, k1, k2⟩ := bindM_eq h6
    rw [e3] at k1
    cases k1
    cases hn : norm keep fq with
    | some f =>
      simp only [hn] at k2
      obtain ⟨rfl, rfl⟩ := pureM_eq k2
      obtain ⟨g1, r1, r2, r3, r4⟩ := e4
      exact hk a1 w1 ⟨g1, r1, norm_FR hn r2, r3, r4⟩
    | none =>
      simp only [hn] at k2
      exact (failM_eq k2).elim
  · -- a step
    rintro l a1 w1 i ⟨hl, p, done, fq, σq, e1, e2, e3, e4, e5⟩ hi
    obtain ⟨d, hd, hLi, hil, ha⟩ := ready_mem hM hi
    have hin : i < ops.size := by omega
    refine ⟨hLi, hin, ?_⟩
    have hset := Lst_set hil
    have hiD : i < D.length := (List.getElem?_eq_some_iff.1 hd).1
    have hid : i ∉ done := fun hx => by rw [(e1 i).1 hx] at hLi; cases hLi
    have hcnt := countP_also (L := fun x => decide (x ∈ done)) (i := i) (by simpa using hid) hiD
    rw [← also_cons] at hcnt
    have hle := List.countP_le_length (p := fun x => decide (x ∈ i :: done)) (l := List.range D.length)
    rw [List.length_range] at hle
    obtain ⟨k, hk1⟩ : ∃ k, D.length - p.length = k + 1 := ⟨D.length - p.length - 1, by omega⟩
    have hrd : i ∈ readyO D done := ready_in hd hid fun x hx => (e1 x).2 (ha x hx)
    have hnext : ∀ q ∈ extO D k (i :: done), p ++ i :: q ∈ extO D D.length [] := fun q hq => e5 (i :: q) (by
      rw [hk1]
      unfold extO
      rw [List.mem_flatMap]
      exact ⟨i, hrd, List.mem_map.2 ⟨q, hq, rfl⟩⟩)
    obtain ⟨q, hq⟩ := ext_ne hc k (i :: done) (by omega)
    have h6 := hmem _ (hnext q hq)
    unfold seqN at h6
    obtain ⟨f2, σ2, k1, k2⟩ := bindM_eq h6
    rw [seqD_app] at k1
    obtain ⟨f3, σ3, k3, k4⟩ := bindM_eq k1
    rw [e3] at k3
    cases k3
    simp only [seqD, hd] at k4
    obtain ⟨f4, σ4, k5, k6⟩ := bindM_eq k4
    obtain ⟨o, ho, ho1, ho2, ho3, _⟩ := hM.op _ d hd
    obtain ⟨c1, _, c3⟩ := chkA_at hc hd
    unfold wpOp
    rw [ho]
    simp only
    have hwant : Region.wanted o (yielded ops a1.tmps) = true := by unfold Region.wanted; rw [ho3, c1]
    rw [if_pos hwant]
    left
    obtain ⟨g1, r1, r2, r3, r4⟩ := e4
    refine stepE_to ht hrec r1 r2 (Nat.le_trans hB r3.size) r4 ho1 ho2 c3 k5 fun a2 w2 hto => ?_
    obtain ⟨g2, s1, s2, s3, s4⟩ := hto
    refine ⟨by rw [Array.size_setIfInBounds]; exact hl, p ++ [i], i :: done, f4, σ4, fun x => ?_, ?_, ?_, ⟨g2, s1, s2, r3.trans s3 (Nat.le_refl _), s4⟩, fun q' hq' => ?_⟩
    · rw [hset]
      simp only [also, List.mem_cons, Bool.or_eq_true, decide_eq_true_eq]
      rw [← e1 x]
      exact Or.comm
    · rw [List.length_append, List.length_singleton, hcnt, e2]
    · rw [seqD_app]
      unfold bindM
      rw [e3]
      simp only [seqD, hd]
      unfold bindM
      rw [k5]
      rfl
    · rw [List.append_assoc]
      refine hnext q' ?_
      rw [List.length_append, List.length_singleton] at hq'
      rw [show k = D.length - (p.length + 1) by omega]
      exact hq'
  · -- the start
    refine ⟨by simp, [], [], fr, σ, fun x => by rw [hzero]; simp, by simp, rfl, ⟨g, hh', hf', hst'.mono hB, hsz⟩, fun q hq => by simpa using hq⟩
end
theorem reg_ops (ht : Tys P C) (hrec : CallOK P rec) {ops : List AOp} {os : Array Oper} (hs : flatOps none ops = os.toList.map fun o => (opSO o, o.guard)) (hok : chkOps n ((flatOps none ops).map fun p => p.1.dst) ops = true)
    (h : runOps C rec hp ip ops fr σ = some (fr', σ')) (hh : HR g σ w) (hf : FR B g σ fr a w) (hB : B ≤ w.heap.size) (hsz : a.tmps.size = n) {Q : Exit → Act → World → Prop} (hk : ∀ a' w', To n B g σ w σ' fr' a' w' → Q .normal a' w') :
    wpOps P os Q (List.range os.size) a w := by
  have hget : ∀ (k : Nat) x, (flatOps none ops)[k]? = some x → ∃ o, os[k]? = some o ∧ o.op = x.1.op ∧ o.dst = x.1.dst ∧ o.guard = x.2 := by
    intro k x hx
    rw [hs, List.getElem?_map] at hx
    cases ho : os.toList[k]? with
    | none => rw [ho] at hx; cases hx
    | some o =>
      rw [ho] at hx
      simp at hx
      subst hx
      exact ⟨o, by simpa using ho, rfl, rfl, rfl⟩
  have hlen : (flatOps none ops).length = os.size := by rw [hs]; simp
  have hds : ∀ (j' c' : Nat), ((flatOps none ops).map fun p => p.1.dst)[j']? = some (some c') → (os[j']?).bind (·.dst) = some c' := by
    intro j c hj
    rw [List.getElem?_map] at hj
    cases hx : (flatOps none ops)[j]? with
    | none => rw [hx] at hj; cases hj
    | some x =>
      rw [hx] at hj
      simp at hj
      obtain ⟨o, h1, h2, h3, h4⟩ := hget j x hx
      rw [h1]; simp [h3, hj]
  have := runOps_to (P := P) (Q := Q) ht hrec hds ops none 0 g fr fr' σ σ' a w h (fun k x hx => by rw [Nat.zero_add]; exact hget k x hx) hok ⟨fun j w' hg => (by cases hg), fun j w' hg => (by cases hg)⟩ hh hf hB hsz [] fun a' w' hto => hk a' w' hto
  rw [hlen, List.append_nil, ← List.range_eq_range'] at this
  exact this
theorem reg_to (ht : Tys P C) (hrec : CallOK P rec) {ops : List AOp} {id : Nat} {os : Array Oper} (hs : flatOps none ops = os.toList.map fun o => (opSO o, o.guard)) (hok : chkOps n ((flatOps none ops).map fun p => p.1.dst) ops = true)
    (h : runOps C rec hp ip ops fr σ = some (fr', σ')) (hh : HR g σ w) (hf : FR B g σ fr a w) (hB : B ≤ w.heap.size) (hsz : a.tmps.size = n) {Q : Exit → Act → World → Prop} (hk : ∀ a' w', To n B g σ w σ' fr' a' w' → Q .normal a' w') :
    (Code.region id os false).wp P Q a w := wp_region (reg_ops ht hrec hs hok h hh hf hB hsz hk)
/-! ### a loop over a function -/
theorem rowsIn_round {row : String} {args : Array Value} {R : Value → World → Prop} {l m : Nat} (h : Rows P row args w R) : RowsIn (Fence.wide.inRound l) m P row args w R :=
  fun c cs _ => let ⟨v, w', r, s⟩ := h c cs; ⟨v, w', r, stepsIn_wide.2 s⟩
theorem wp_round {o : Oper} {K K' : Act → World → Prop} {Q : Exit → Act → World → Prop} {l m : Nat} (hd : noDefer o.op = true) (h : o.wp P a w K Q) (hk : ∀ a w, K a w → K' a w) : o.wpIn (Fence.wide.inRound l) m P a w K' Q := by
  have hsem : o.semAt (Fence.wide.inRound l).round a.eval = execOp a.eval o := Oper.semAt_eq _ _ _ fun c hc => by rw [hc] at hd; cases hd
  unfold Oper.wp at h
  unfold Oper.wpIn
  refine ⟨fun _ _ => trivial, ?_⟩
  rw [hsem]
  generalize (execOp a.eval o).run P w = r at h ⊢
  cases r with
  | ok x w' =>
    cases x <;> simp only [Oper.upon] at h <;> simp only [Oper.uponIn]
    case value v => exact hk _ _ h
    case skip => exact hk _ _ h
    case defer d => exact hk _ _ h
    case enter f args =>
      refine ⟨(fun hx => (by cases hx)), CallsIn.inRound l (callsIn_wide.2 (Calls.mono h fun e w'' he => ?_))⟩
      cases e <;> first | exact hk _ _ he | exact he
    case row row args => exact ⟨fun hx => (by cases hx), rowsIn_round (Rows.mono h fun v w'' hv => hk _ _ hv)⟩
  | halt x w' => cases x <;> simp only [Oper.upon] at h <;> simp only [Oper.uponIn] <;> exact h
theorem wpOps_round {os : Array Oper} {Q : Exit → Act → World → Prop} {l m : Nat} (hd : ∀ (i : Nat) o, os[i]? = some o → noDefer o.op = true) (hq : ¬ LetsOut Q) : ∀ (is : List Nat) (a : Act) (w : World), wpOps P os Q is a w → wpOpsIn (Fence.wide.inRound l) m P os Q is a w
  | [], a, w, h => h
  | i :: is, a, w, h => by
    unfold wpOps at h
    unfold wpOpsIn
    cases ho : os[i]? with
    | none =>
      simp only [ho] at h ⊢
      exact wpOps_round hd hq is a w h
    | some o =>
      simp only [ho] at h ⊢
      split at h
      · rename_i hw
        rw [if_pos hw]
        exact wp_round (hd i o ho) (h.resolve_right fun hx => hq hx.2) fun a w => wpOps_round hd hq is a w
      · rename_i hw
        rw [if_neg hw]
        exact ⟨fun _ _ => trivial, wpOps_round hd hq is _ w h⟩
theorem denR_to (ht : Tys P C) (hrec : CallOK P rec) (k l : Nat) :
    ∀ (ac : ACode) (c : Code) (g : G) (fr fr' : Fr) (σ σ' : H) (a : Act) (w : World) (ext : Ext) (Q : Exit → Act → World → Prop), den C rec hp ip k ac fr σ = some ((ext, fr'), σ') → skA ac = skC c → okA n ac = true → okR ac = true → HR g σ w → FR B g σ fr a w → B ≤ w.heap.size → a.tmps.size = n →
    (∀ a' w', To n B g σ w σ' fr' a' w' → Q (exitOf ext) a' w') → c.wpIn (Fence.wide.inRound l) 0 P Q a w := by
  intro ac
  induction ac with
  | skip =>
    intro c g fr fr' σ σ' a w ext Q h hs hok hr hh hf hB hsz hk
    simp only [den] at h
    obtain ⟨he, rfl⟩ := pureM_eq h
    cases he
    have := hk a w (.refl hh hf hsz)
    cases c <;> simp only [skA, skC] at hs <;> try (cases hs; done)
    · exact wpIn_skip this
    · rename_i id os dr; cases dr <;> simp only [skC] at hs <;> cases hs
    · exact wpIn_label this
  | reg ops =>
    intro c g fr fr' σ σ' a w ext Q h hs hok hr hh hf hB hsz hk
    simp only [den] at h
    obtain ⟨fr1, σ1, h1, h2⟩ := bindM_eq h
    obtain ⟨he, rfl⟩ := pureM_eq h2
    cases he
    cases c <;> simp only [skA, skC] at hs <;> try (cases hs; done)
    rename_i id os dr
    cases dr <;> simp only [skC, reduceCtorEq, Skel.reg.injEq] at hs
    refine wpIn_mono (wpIn_region (wpOps_round (fun i o ho => ?_) (fun hx => ?_) _ a w (reg_ops (Q := fun e a' w' => e = .normal ∧ To n B g σ w σ' fr' a' w') ht hrec hs hok h1 hh hf hB hsz fun a' w' hto => ⟨rfl, hto⟩))) ?_
    rotate_left
    · obtain ⟨_, _, hx, _⟩ := hx
      cases hx
    · rintro e a' w' ⟨rfl, hto⟩
      exact hk a' w' hto
    simp only [okR, List.all_eq_true] at hr
    have := hr (opSO o, o.guard) (by
      rw [hs]
      exact List.mem_map.2 ⟨o, by
        have := Array.mem_of_getElem? ho
        simpa using this, rfl⟩)
    exact this
  | seq x y ihx ihy =>
    intro c g fr fr' σ σ' a w ext Q h hs hok hr hh hf hB hsz hk
    simp only [den] at h
    obtain ⟨⟨e1, fr1⟩, σ1, h1, h2⟩ := bindM_eq h
    simp only [okA, okR, Bool.and_eq_true] at hok hr
    cases c <;> simp only [skA, skC] at hs <;> try (cases hs; done)
    case region id os dr => cases dr <;> simp only [skC] at hs <;> cases hs
    rename_i cx cy
    simp at hs
    apply wpIn_seq
    refine ihx cx g fr fr1 σ σ1 a w e1 _ h1 hs.1 hok.1 hr.1 hh hf hB hsz fun a1 w1 hto => ?_
    cases e1 with
    | nrm =>
      obtain ⟨g1, r1, r2, r3, r4⟩ := hto
      exact ihy cy g1 fr1 fr' σ1 σ' a1 w1 ext Q h2 hs.2 hok.2 hr.2 r1 r2 (Nat.le_trans hB r3.size) r4 fun a2 w2 hto2 => hk a2 w2 (.from r3 hto2)
    | ex id =>
      obtain ⟨he, rfl⟩ := pureM_eq h2
      cases he
      exact hk a1 w1 hto
    | ret =>
      obtain ⟨he, rfl⟩ := pureM_eq h2
      cases he
      exact hk a1 w1 hto
  | cond cc x y ihx ihy =>
    intro c g fr fr' σ σ' a w ext Q h hs hok hr hh hf hB hsz hk
    obtain ⟨m, hm, h⟩ := app_eq h
    simp only [den] at hm
    split at hm
    case h_2 => subst hm; exact (failM_eq h).elim
    rename_i t hc
    subst hm
    simp only [okA, okR, Bool.and_eq_true] at hok hr
    cases c <;> simp only [skA, skC] at hs <;> try (cases hs; done)
    case region id os dr => cases dr <;> simp only [skC] at hs <;> cases hs
    rename_i c' cx cy
    simp at hs
    obtain ⟨rfl, hs1, hs2⟩ := hs
    have hv := ev_v hf hc
    rw [VR_bool] at hv
    refine wpIn_cond hv ?_
    cases t with
    | true => exact ihx cx g fr fr' σ σ' a w ext Q h hs1 hok.1 hr.1 hh hf hB hsz hk
    | false => exact ihy cy g fr fr' σ σ' a w ext Q h hs2 hok.2 hr.2 hh hf hB hsz hk
  | block id x ih =>
    intro c g fr fr' σ σ' a w ext Q h hs hok hr hh hf hB hsz hk
    simp only [den] at h
    obtain ⟨⟨e1, fr1⟩, σ1, h1, h2⟩ := bindM_eq h
    simp only [okA, okR] at hok hr
    cases c <;> simp only [skA, skC] at hs <;> try (cases hs; done)
    case region id os dr => cases dr <;> simp only [skC] at hs <;> cases hs
    rename_i id' cx
    simp at hs
    obtain ⟨rfl, hs⟩ := hs
    apply wpIn_block
    refine ih cx g fr fr1 σ σ1 a w e1 _ h1 hs hok hr hh hf hB hsz fun a1 w1 hto => ?_
    cases e1 with
    | nrm =>
      obtain ⟨he, rfl⟩ := pureM_eq h2
      cases he
      exact hk a1 w1 hto
    | ret =>
      obtain ⟨he, rfl⟩ := pureM_eq h2
      cases he
      exact hk a1 w1 hto
    | ex i =>
      obtain ⟨m, hm, h2⟩ := app_eq h2
      simp only at hm
      simp only [exitOf, Exit.inBlock]
      split at hm
      · subst hm
        rename_i hi
        obtain ⟨he, rfl⟩ := pureM_eq h2
        cases he
        rw [if_pos hi]
        exact hk a1 w1 hto
      · subst hm
        rename_i hi
        obtain ⟨he, rfl⟩ := pureM_eq h2
        cases he
        rw [if_neg hi]
        exact hk a1 w1 hto
  | drw => intro c g fr fr' σ σ' a w ext Q h hs hok hr; cases hr
  | all => intro c g fr fr' σ σ' a w ext Q h hs hok hr; cases hr
  | loop => intro c g fr fr' σ σ' a w ext Q h hs hok hr; cases hr
  | exit => intro c g fr fr' σ σ' a w ext Q h hs hok hr; cases hr
  | ret => intro c g fr fr' σ σ' a w ext Q h hs hok hr; cases hr
  | rng => intro c g fr fr' σ σ' a w ext Q h hs hok hr; cases hr
  | mlp => intro c g fr fr' σ σ' a w ext Q h hs hok hr; cases hr
structure BackOK (P : Program) (C : Ctx) (f te : Nat) : Prop where
  call : ∀ (args : Array Value) (w : World), (callFunc f args).run P w = .ok (.enter f args) w
  calls : ∀ (ti : TI), C.ti te = some ti → ∀ (g0 : G) (v : Value) (xs : List AV) (s : AV), rowOfA ti s = some xs → VR g0 (.adr s) v → ∀ (l : Nat) (J : Nat → World → Prop) (W : World),
    (∀ k W, J k W → ∀ b o u, g0.im b o = some u → W.cell? ⟨b, o, none⟩ = some u) →
    (∀ k x u W, k < xs.length → xs[xs.length - 1 - k]? = some x → VR g0 x u → J k W → YieldAt Fence.wide 0 P l #[.int .i64 ((xs.length - 1 - k : Nat) : Int), u] W fun e W' => e = .returned (.bool true) ∧ J (k + 1) W') →
    J 0 W → CallsIn Fence.wide 0 P f (#[.func (.yield l) #[] #[]] ++ #[v]) W fun e W' => (∃ r, e = .returned r) ∧ J xs.length W'
theorem getS_frzSl (t : Nat) : ∀ l : List (Nat × SV), getS (frzSl l) t = frzS (getS l t)
  | [] => rfl
  | (i, s) :: l => by
    simp only [frzSl, getS_nil, getS_cons]
    split
    · rfl
    · exact getS_frzSl t l
def Flat (fr : Fr) : Prop := ∀ t, getS fr.sl t = .u ∨ ∃ x, getS fr.sl t = .v x
theorem frz_flat (keep : List Nat) (fr : Fr) : Flat (fr.frz keep) := fun t => by
  show getS (frzSl (keepS fr.sl keep)) t = .u ∨ ∃ x, getS (frzSl (keepS fr.sl keep)) t = .v x
  rw [getS_frzSl]
  cases getS (keepS fr.sl keep) t <;> simp [frzS]
theorem Flat.put (h : Flat fr) (d : Nat) (x : AV) : Flat (fr.put d (.v x)) := fun t => by
  rw [getS_put]
  split
  · exact .inr ⟨x, rfl⟩
  · exact h t
theorem Flat.toFR (h : Flat fr) (hv : ∀ t x, getS fr.sl t = .v x → ∃ v, a.tmps[t]? = some v ∧ VR g x v) (hd : Marks B g σ w a.defers) : FR B g σ fr a w := by
  refine ⟨fun t => ?_, fun t t' x x' v h1 => ?_, hd⟩
  · rcases h t with h1 | ⟨x, h1⟩
    · rw [h1]; trivial
    · rw [h1]; exact hv t x h1
  · rcases h t with h2 | ⟨y, h2⟩ <;> rw [h2] at h1 <;> cases h1
theorem frz_to (keep : List Nat) (hh : HR g σ w) (hf : FR B g σ fr a w) : ∃ g', HR g' σ w ∧ Step B g σ w g' σ w ∧ FR B g' σ (fr.frz keep) a w := by
  let S : Nat → Prop := fun b => ∃ t x, getS fr.sl t = .bx x ∧ a.tmps[t]? = some (.pointer (some ⟨b, 0, none⟩))
  have hpriv : ∀ b, S b → ∃ x, Priv B g σ w b x := fun b ⟨t, x, h1, h2⟩ => by
    obtain ⟨b', h3, h4⟩ := hf.get t h1
    rw [h2] at h3; cases h3
    exact ⟨x, h4⟩
  let g' : G := { g with im := fun b o => open Classical in if S b then w.cell? ⟨b, o, none⟩ else g.im b o }
  have him : ∀ b o, S b → g'.im b o = w.cell? ⟨b, o, none⟩ := fun b o h => by simp only [g']; rw [if_pos h]
  have hin : ∀ b o, ¬ S b → g'.im b o = g.im b o := fun b o h => by simp only [g']; rw [if_neg h]
  have hle : g.le g' := ⟨fun b o u hu => by
    by_cases hb : S b
    · obtain ⟨x, hp⟩ := hpriv b hb
      rw [hp.im o] at hu; cases hu
    · rw [hin b o hb]; exact hu, fun _ _ _ h => h⟩
  have hown : ∀ b, Owned g' σ b ↔ Owned g σ b := fun b => Iff.rfl
  refine ⟨g', ⟨fun b o u hu => ?_, fun r o ho => (hh.ob r o ho).keep hle fun _ _ => rfl, hh.inj, fun b hb q => ?_, hh.dom, hh.top, fun x hx => let ⟨k1, u, k2⟩ := hh.tb x hx; ⟨k1, u, hle.im _ _ _ k2⟩⟩, ⟨hle, Nat.le_refl _, fun _ _ _ => rfl, fun b hb => .inl hb, fun b o u hu => ?_, rfl, rfl, rfl⟩, ?_⟩
  · by_cases hb : S b
    · rw [him b o hb] at hu; exact hu
    · rw [hin b o hb] at hu; exact hh.im b o u hu
  · by_cases hS : S b
    · obtain ⟨x, hp⟩ := hpriv b hS
      exact absurd ((hown b).1 hb) hp.own
    · rw [hin b q hS]; exact hh.free b ((hown b).1 hb) q
  · by_cases hS : S b
    · obtain ⟨x, hp⟩ := hpriv b hS
      exact .inr (.inr hp.lo)
    · rw [hin b o hS] at hu; exact .inl hu
  · refine (frz_flat keep fr).toFR (fun t x hx => ?_) hf.defers
    have hx : getS (frzSl (keepS fr.sl keep)) t = .v x := hx
    rw [getS_frzSl, getS_keep] at hx
    split at hx <;> try (cases hx; done)
    have hsv := hf.sv t
    revert hsv hx
    generalize hs : getS fr.sl t = s
    intro hx hsv
    cases s <;> simp only [frzS, reduceCtorEq, SV.v.injEq] at hx
    · subst hx
      obtain ⟨v, h1, h2⟩ := hsv
      exact ⟨v, h1, h2.mono hle⟩
    · subst hx
      obtain ⟨b, h1, h2⟩ := hsv
      refine ⟨_, h1, VR_adr.2 ⟨b, 0, rfl, fun j c hj => ?_⟩⟩
      obtain ⟨cs, el, h3, h4, h5⟩ := h2.mem
      obtain ⟨u, k1, k2, k3⟩ := h5 j c hj
      exact ⟨u, by rw [him b _ ⟨t, _, hs, h1⟩]; exact (cell_row h3).trans k1, k2, k3.mono hle⟩
theorem put_loop {l D : Nat} {r : Loop} (r' : Loop) (hl : w.heap[l]? = some (.loop r)) (hh : HR g σ w) (hD : D ≤ l) :
    HR g σ (w.putObj l (.loop r')) ∧ Step D g σ w g σ (w.putObj l (.loop r')) ∧ ∀ {B : Nat} {fr : Fr} {a : Act}, FR B g σ fr a w → FR B g σ fr a (w.putObj l (.loop r')) := by
  have hq : ∀ q, q ≠ l → (w.putObj l (.loop r')).heap[q]? = w.heap[q]? := fun q h => World.putObj_heap_other h
  have hcell : ∀ o, w.cell? ⟨l, o, none⟩ = none := fun o => by simp [World.cell?, hl]
  refine ⟨⟨fun b' o u hu => ?_, fun r o h => ?_, hh.inj, hh.free, hh.dom, hh.top, fun x hx => let ⟨k1, u, k2⟩ := hh.tb x hx; ⟨k1.keep (hq x.1 (fun e => by have := hh.im _ _ _ k2; rw [e, hcell] at this; cases this)), u, k2⟩⟩, ⟨.refl _, by simp, fun b hb _ => hq b (by omega), fun _ h => .inl h, fun _ _ _ h => .inl h, rfl, rfl, rfl⟩, fun {B fr a} hf => ⟨fun t => ?_, hf.inj, hf.defers.heap fun D' h1 h2 h3 => ⟨?_, h3⟩⟩⟩
  · have hne : b' ≠ l := fun e => by
      have := hh.im b' o u hu
      rw [e, hcell] at this
      cases this
    rw [cell_of_heap (hq b' hne)]; exact hh.im b' o u hu
  · refine (hh.ob r o h).keep (.refl g) fun b' hb1 => hq b' fun e => ?_
    exact (hh.ob r o h).not_loop hb1 (e ▸ hl)
  · have := hf.sv t
    revert this
    generalize getS fr.sl t = s
    intro this
    cases s with
    | u => trivial
    | v x => exact this
    | lp d off => exact this
    | hb => exact this
    | bx x =>
      obtain ⟨b, h1, p1, p2, p3, cs, el, p4, p5⟩ := this
      exact ⟨b, h1, p1, p2, p3, cs, el, by rw [hq b fun e => by rw [e, hl] at p4; cases p4]; exact p4, p5⟩
  · rw [hq D' fun e => by rw [e, hl] at h2; cases h2]; exact h2
theorem rnd_suffix {one : Nat → AV → M Unit} {xs : List AV} {σ : H} : ∀ (j i : Nat) (l : List AV) (τ : H), rndL one i l σ = some ((), τ) → l = xs.drop i → j ≤ l.length → ∃ σ1, rndL one (i + j) (xs.drop (i + j)) σ = some ((), σ1)
  | 0, i, l, τ, h, hl, hj => ⟨τ, by rw [Nat.add_zero, ← hl]; exact h⟩
  | j + 1, i, [], τ, h, hl, hj => by simp at hj
  | j + 1, i, x :: l, τ, h, hl, hj => by
    unfold rndL at h
    obtain ⟨u, σ1, h1, h2⟩ := bindM_eq h
    have hd : l = xs.drop (i + 1) := by
      have := congrArg (List.drop 1) hl
      simpa using this
    obtain ⟨σ2, h3⟩ := rnd_suffix j (i + 1) l σ1 h1 hd (by simpa using hj)
    exact ⟨σ2, by rw [show i + (j + 1) = i + 1 + j by omega]; exact h3⟩
theorem zip_two (p q : Nat) (u v : Value) (t : Array Value) : ((#[p, q].zip #[u, v]).foldl (fun tmps (t, a) => tmps.setIfInBounds t a) t) = (t.setIfInBounds p u).setIfInBounds q v := by
  rw [← Array.foldl_toList, Array.toList_zip]; rfl
theorem rng_to (ht : Tys P C) (hrec : CallOK P rec) (hback : ∀ f te, look f C.back = some te → BackOK P C f te) {k t p q : Nat} {keep : List Nat} {asg b : ACode} {ps : Array Nat} {ca cb : Code} {ext : Ext}
    (h : den C rec hp ip k (.rng t p q keep asg b) fr σ = some ((ext, fr'), σ')) (hps : ps.toList = [p, q]) (hs1 : skA asg = skC ca) (hs2 : skA b = skC cb) (hok : okA n (.rng t p q keep asg b) = true) (hh : HR g σ w) (hf : FR B g σ fr a w) (hB : B ≤ w.heap.size) (hsz : a.tmps.size = n)
    {Q : Exit → Act → World → Prop} (hk : ∀ a' w', To n B g σ w σ' fr' a' w' → Q (exitOf ext) a' w') : (Code.rangeFunc (.tmp t) ps ca cb).wp P Q a w := by
  obtain ⟨m, hm, h⟩ := app_eq h
  simp only [den] at hm
  split at hm
  case h_2 => subst hm; exact (failM_eq h).elim
  rename_i f s hslot
  split at hm
  case h_2 => subst hm; exact (failM_eq h).elim
  rename_i xs hxs
  subst hm
  obtain ⟨_, σx, hr, h2⟩ := bindM_eq h
  obtain ⟨he, rfl⟩ := pureM_eq h2
  cases he
  simp only [okA, Bool.and_eq_true, decide_eq_true_eq] at hok
  obtain ⟨⟨⟨⟨⟨⟨k1, k2⟩, k3⟩, k4⟩, k5⟩, k6⟩, k7⟩ := hok
  obtain ⟨ti, hti, hrow⟩ := Option.bind_eq_some_iff.1 hxs
  obtain ⟨te, hte, hti⟩ := Option.bind_eq_some_iff.1 hti
  have hb := hback f te hte
  generalize hone : (fun (i : Nat) (x : AV) => bindM (den C rec hp ip k asg (((fr.frz keep).put p (.v (.int .i64 i))).put q (.v x))) fun r => match r.1 with
          | .nrm => bindM (den C rec hp ip k b r.2) fun r => match r.1 with
            | .nrm => pureM ()
            | _ => failM
          | _ => failM) = one at hr
  obtain ⟨ps⟩ := ps
  simp only at hps
  subst hps
  -- local variables are frozen
  obtain ⟨g1, hh1, hst1, hfz⟩ := frz_to keep hh hf
  obtain ⟨v, hv1, hv2⟩ := hf.get t hslot
  have hv2 := hv2.mono hst1.le
  obtain ⟨vs, rfl, hvs⟩ := VR_fn.1 hv2
  obtain ⟨u, rfl, hu⟩ := VRs_one hvs
  have hev : a.eval (.tmp t) = .func (.func f) #[] #[u] := by simp only [Act.eval, getD_of hv1]
  refine (wpIn_wide (n := 1)).1 (wpIn_rangeFunc fun fn _ => ?_)
  obtain ⟨rec', hrec'⟩ : ∃ rec' : LoopState → Loop, rec' = fun st => { state := st, pending := none, fn, tmps := a.tmps, params := #[p, q], assign := ca, body := cb, defers := w.heap.size } := ⟨_, rfl⟩
  obtain ⟨W1, hW1⟩ : ∃ W1, (w.alloc (.deferred (some []))).alloc (.loop (rec' .ready)) = W1 := ⟨_, rfl⟩
  have hL1 : W1.heap[w.heap.size + 1]? = some (.loop (rec' .ready)) := by
    rw [← hW1]; have := World.alloc_heap_new (w.alloc (.deferred (some []))) (.loop (rec' .ready)); rwa [World.size_alloc] at this
  have hgrow : Grow w W1 := by rw [← hW1]; exact (Grow.alloc w _).trans (Grow.alloc _ _)
  have hK1 : W1.heap[w.heap.size]? = some (.deferred (some [])) := by
    rw [← hW1, (Grow.alloc (w.alloc (.deferred (some []))) (.loop (rec' .ready))).heap _ (by simp)]; exact World.alloc_heap_new w _
  obtain ⟨hhW, hstW⟩ := hh1.ext hgrow
  have hsuf : ∀ j, j ≤ xs.length → ∃ σ1, rndL one j (xs.drop j) σ = some ((), σ1) := fun j hj => by
    have := rnd_suffix (xs := xs) j 0 xs _ hr rfl hj
    rwa [Nat.zero_add] at this
  refine ⟨w.heap.size + 1, [markD w.heap.size], W1, { target := .fn (.func f) #[u], args := #[.func (.yield (w.heap.size + 1)) #[] #[]] }, W1, f,
    #[.func (.yield (w.heap.size + 1)) #[] #[]] ++ #[u], W1, ?_, ?_, (fun _ _ => trivial), ?_, (fun hx => (by cases hx)), ?_⟩
  · rw [← hW1, hrec']; exact run_enterLoop_outer _ _ _ _ _
  · simp only [resolve, hev]
    simp [go_sem]
  · simp [invoke, go_sem, hb.call]
  · let J : Nat → World → Prop := fun i W => ∃ gi σi, rndL one (xs.length - i) (xs.drop (xs.length - i)) σ = some ((), σi) ∧ HR gi σi W ∧ Step w.heap.size g1 σ w gi σi W ∧ W.heap[w.heap.size + 1]? = some (.loop (rec' .ready)) ∧ W.heap[w.heap.size]? = some (.deferred (some []))
    refine (hb.calls ti hti g1 u xs s hrow hu (w.heap.size + 1) J W1 ?_ ?_ ?_).mono ?_
    · rintro i W ⟨gi, σi, _, j2, j3, _⟩ b' o x hx
      exact j2.im b' o x (j3.le.im b' o x hx)
    · rintro i x ux W hi hx hux ⟨gi, σi, j1, j2, j3, j4, j5⟩
      have hlt : w.heap.size + 1 < W.heap.size := (Array.getElem?_eq_some_iff.1 j4).1
      have hy := run_yield (P := P) (args := #[.int .i64 ((xs.length - 1 - i : Nat) : Int), ux]) j4 (by rw [hrec']; rfl)
      rw [hrec'] at hy
      refine ⟨fn, _, ca, cb, hy, roundIn_of_wpIn trivial ?_⟩
      -- the machine's round
      obtain ⟨σn, hn⟩ := hsuf (xs.length - (i + 1)) (by omega)
      have hjd : xs.drop (xs.length - (i + 1)) = x :: xs.drop (xs.length - i) := by
        have hx' : xs[xs.length - (i + 1)]? = some x := by rw [← hx]; congr 1; omega
        obtain ⟨hx1, hx2⟩ := List.getElem?_eq_some_iff.1 hx'
        rw [List.drop_eq_getElem_cons hx1, hx2]
        congr 2; omega
      have hn0 := hn
      rw [hjd] at hn
      unfold rndL at hn
      obtain ⟨_, σq, q1, q2⟩ := bindM_eq hn
      rw [show xs.length - (i + 1) + 1 = xs.length - i by omega, j1] at q1
      cases q1
      rw [← hone] at q2
      obtain ⟨⟨e1, fa⟩, σa, d1, d2⟩ := bindM_eq q2
      cases e1 <;> simp only at d2 <;> try exact (failM_eq (σ := σa) d2).elim
      obtain ⟨⟨e2, fb⟩, σb, d3, d4⟩ := bindM_eq d2
      cases e2 <;> simp only at d4 <;> try exact (failM_eq (σ := σb) d4).elim
      obtain ⟨_, rfl⟩ := pureM_eq d4
      have hfl : Flat (((fr.frz keep).put p (.v (.int .i64 ((xs.length - (i + 1) : Nat) : Int)))).put q (.v x)) := ((frz_flat keep fr).put p _).put q _
      have hle1 : g1.le gi := j3.le
      have hfr1 : FR W.heap.size gi σi (((fr.frz keep).put p (.v (.int .i64 ((xs.length - (i + 1) : Nat) : Int)))).put q (.v x))
          { tmps := ((#[p, q].zip #[Value.int .i64 ((xs.length - 1 - i : Nat) : Int), ux]).foldl (fun tmps (t, a) => tmps.setIfInBounds t a) a.tmps), defers := [] } W := by
        refine hfl.toFR (fun t' x' hx' => ?_) (Marks.nil _ _ _ _)
        simp only [zip_two]
        rw [getS_put] at hx'
        by_cases e1 : q = t'
        · rw [if_pos e1] at hx'
          cases hx'
          subst e1
          exact ⟨ux, by rw [Array.getElem?_setIfInBounds]; simp [hsz, k6], hux.mono hle1⟩
        · rw [if_neg e1, getS_put] at hx'
          by_cases e2 : p = t'
          · rw [if_pos e2] at hx'
            cases hx'
            subst e2
            refine ⟨.int .i64 ((xs.length - 1 - i : Nat) : Int), by rw [Array.getElem?_setIfInBounds, if_neg e1, Array.getElem?_setIfInBounds]; simp [hsz, k5], ?_⟩
            rw [VR_int]
            congr 2; omega
          · rw [if_neg e2] at hx'
            obtain ⟨v', y1, y2⟩ := hfz.get t' hx'
            exact ⟨v', by rw [Array.getElem?_setIfInBounds, if_neg e1, Array.getElem?_setIfInBounds, if_neg e2]; exact y1, y2.mono hle1⟩
      have hszr : (((#[p, q].zip #[Value.int .i64 ((xs.length - 1 - i : Nat) : Int), ux]).foldl (fun tmps (t, a) => tmps.setIfInBounds t a) a.tmps)).size = n := by rw [zip_two]; simp [hsz]
      have keepL : ∀ {g2 : G} {σ2 : H} {w2 : World} {o : Obj} (z : Nat), Step W.heap.size gi σi W g2 σ2 w2 → W.heap[z]? = some o → (∀ cs el fz, o ≠ .cells cs el fz) → (∀ en m, o ≠ .map en m) → (∀ m s sn c, o ≠ .mapIter m s sn c) → w2.heap[z]? = some o := fun z hst hz o1 o2 o3 => by
        rw [hst.keep z (Array.getElem?_eq_some_iff.1 hz).1 fun ⟨r, o', x1, x2, x3⟩ => (j2.ob r o' x1).not_other x3 hz o1 o2 o3]
        exact hz
      refine denR_to ht hrec k (w.heap.size + 1) asg ca gi _ fa σi σa _ W .nrm _ d1 hs1 k3 k1 j2 hfr1 (Nat.le_refl _) hszr fun a2 w2 hto => ?_
      obtain ⟨ga, r1, r2, r3, r4⟩ := hto
      have hl2 : w2.heap[w.heap.size + 1]? = some (.loop (rec' .ready)) := keepL _ r3 j4 (by intros; simp) (by intros; simp) (by intros; simp)
      have hd2 : w2.heap[w.heap.size]? = some (.deferred (some [])) := keepL _ r3 j5 (by intros; simp) (by intros; simp) (by intros; simp)
      refine ⟨_, run_beginRound hl2 (by rw [hrec']), ?_⟩
      obtain ⟨s1, s2, s3⟩ := put_loop { rec' .ready with state := .busy } hl2 r1 (Nat.le_succ w.heap.size)
      have hl3 : (w2.putObj (w.heap.size + 1) (.loop { rec' .ready with state := .busy })).heap[w.heap.size + 1]? = some (.loop { rec' .ready with state := .busy }) := World.putObj_heap_same (Array.getElem?_eq_some_iff.1 hl2).1
      have hd3 : (w2.putObj (w.heap.size + 1) (.loop { rec' .ready with state := .busy })).heap[w.heap.size]? = some (.deferred (some [])) := (World.putObj_heap_other (by omega)).trans hd2
      refine denR_to ht hrec k (w.heap.size + 1) b cb ga fa fb σa _ a2 _ .nrm _ d3 hs2 k4 k2 s1 (s3 r2) (by simp; exact r3.size) r4 fun a4 w4 hto => ?_
      obtain ⟨gb, t1, t2, t3, t4⟩ := hto
      have keepM : ∀ {o : Obj} (z : Nat), z < W.heap.size → (w2.putObj (w.heap.size + 1) (.loop { rec' .ready with state := .busy })).heap[z]? = some o → (∀ cs el fz, o ≠ .cells cs el fz) → (∀ en m, o ≠ .map en m) → (∀ m s sn c, o ≠ .mapIter m s sn c) → w4.heap[z]? = some o := fun z hz hzo o1 o2 o3 => by
        rw [t3.keep z hz fun ⟨r, o', x1, x2, x3⟩ => (s1.ob r o' x1).not_other x3 hzo o1 o2 o3]
        exact hzo
      have hl4 := keepM _ hlt hl3 (by intros; simp) (by intros; simp) (by intros; simp)
      have hd4 := keepM _ (by omega) hd3 (by intros; simp) (by intros; simp) (by intros; simp)
      refine ⟨_, _, run_endRound none hl4, rfl, ?_⟩
      have hrr : ({ ({ rec' .ready with state := .busy } : Loop) with state := if (none : Option Code).isNone then .ready else .done, pending := none } : Loop) = rec' .ready := by rw [hrec']; rfl
      rw [hrr]
      obtain ⟨y1, y2, y3⟩ := put_loop (rec' .ready) hl4 t1 (Nat.le_succ w.heap.size)
      refine ⟨gb, _, hn0, y1, ?_, World.putObj_heap_same (Array.getElem?_eq_some_iff.1 hl4).1, (World.putObj_heap_other (by omega)).trans hd4⟩
      have hW : w.heap.size ≤ W.heap.size := by omega
      exact (((j3.trans r3 hW).trans s2 (Nat.le_refl _)).trans t3 hW).trans y2 (Nat.le_refl _)
    · exact ⟨g1, σ, by rw [Nat.sub_zero, List.drop_length]; rfl, hhW, hstW, hL1, hK1⟩
    · rintro e W3 ⟨⟨r, rfl⟩, gi, σi, j1, j2, j3, j4, j5⟩
      have hend : (Instr.endLoop (w.heap.size + 1)).run P W3 = .ok none (W3.putObj (w.heap.size + 1) (.loop (rec' .exhausted))) := by
        have := run_endLoop (P := P) j4 (by rw [hrec']; simp)
        rw [hrec'] at this ⊢
        exact this
      refine ⟨_, _, hend, ?_⟩
      rw [Nat.sub_self, List.drop_zero, hr] at j1
      cases j1
      obtain ⟨y1, y2, y3⟩ := put_loop (rec' .exhausted) j4 j2 (Nat.le_succ w.heap.size)
      have hstT := j3.trans y2 (Nat.le_refl _)
      have hfT := hfz.step hstT
      have hdT : (W3.putObj (w.heap.size + 1) (.loop (rec' .exhausted))).heap[w.heap.size]? = some (.deferred (some [])) := (World.putObj_heap_other (by omega)).trans j5
      refine hk _ _ ⟨gi, y1, ⟨fun t' => ?_, hfT.inj, ?_⟩, hst1.trans hstT hB, hsz⟩
      · have := hfT.sv t'
        revert this
        generalize getS (fr.frz keep).sl t' = s'
        intro this
        cases s' <;> exact this
      · obtain ⟨Ds, m1, m2, m3⟩ := hf.defers
        obtain ⟨Ds', m1', m2', m3'⟩ := hfT.defers
        have hinj : Ds.map markD = Ds'.map markD := m1.symm.trans m1'
        have hDs : Ds = Ds' := by
          refine (List.map_inj_right (f := markD) fun x y hxy => ?_).1 hinj
          simpa [markD] using hxy
        subst hDs
        refine ⟨w.heap.size :: Ds, by rw [List.map_cons, ← m1]; rfl, List.nodup_cons.2 ⟨fun hmem => ?_, m2⟩, fun D' hD' => ?_⟩
        · have := (Array.getElem?_eq_some_iff.1 (m3 _ hmem).2.1).1
          omega
        · rcases List.mem_cons.1 hD' with rfl | hD'
          · exact ⟨hB, hdT, fun ⟨r, o, x1, x2, x3⟩ => (y1.ob r o x1).not_deferred x3 hdT⟩
          · exact m3' D' hD'
theorem den_to (ht : Tys P C) (hrec : CallOK P rec) (hback : ∀ f te, look f C.back = some te → BackOK P C f te) (hind : RecInd rec) (hmix : P.follows .mixedOrders = true) (k : Nat) :
    ∀ (ac : ACode) (c : Code) (g : G) (fr fr' : Fr) (σ σ' : H) (a : Act) (w : World) (ext : Ext) (Q : Exit → Act → World → Prop), den C rec hp ip k ac fr σ = some ((ext, fr'), σ') → skA ac = skC c → okA n ac = true → HR g σ w → FR B g σ fr a w → B ≤ w.heap.size → a.tmps.size = n →
    (∀ a' w', To n B g σ w σ' fr' a' w' → Q (exitOf ext) a' w') → c.wp P Q a w := by
  intro ac
  induction ac with
  | skip =>
    intro c g fr fr' σ σ' a w ext Q h hs hok hh hf hB hsz hk
    simp only [den] at h
    obtain ⟨he, rfl⟩ := pureM_eq h
    cases he
    have := hk a w (.refl hh hf hsz)
    cases c <;> simp only [skA, skC] at hs <;> try (cases hs; done)
    · exact wp_skip this
    · rename_i id os dr; cases dr <;> simp only [skC] at hs <;> cases hs
    · exact wp_label this
  | reg ops =>
    intro c g fr fr' σ σ' a w ext Q h hs hok hh hf hB hsz hk
    simp only [den] at h
    obtain ⟨fr1, σ1, h1, h2⟩ := bindM_eq h
    obtain ⟨he, rfl⟩ := pureM_eq h2
    cases he
    cases c <;> simp only [skA, skC] at hs <;> try (cases hs; done)
    rename_i id os dr
    cases dr <;> simp only [skC, reduceCtorEq, Skel.reg.injEq] at hs
    exact reg_to ht hrec hs hok h1 hh hf hB hsz hk
  | drw sd D E =>
    intro c g fr fr' σ σ' a w ext Q h hs hok hh hf hB hsz hk
    simp only [den] at h
    obtain ⟨fr1, σ1, h1, h2⟩ := bindM_eq h
    obtain ⟨fr2, σ2, h2, h3⟩ := bindM_eq h2
    obtain ⟨he, rfl⟩ := pureM_eq h3
    cases he
    cases c <;> simp only [skA, skC] at hs <;> try (cases hs; done)
    rename_i id os dr
    cases dr <;> simp only [skC, reduceCtorEq, Skel.drw.injEq] at hs
    have hMD : MatchD os (D ++ E) := by
      refine ⟨?_, fun i d hd => ?_⟩
      · have := congrArg List.length hs
        simp at this
        simp [this]
      · have := congrArg (fun l => l[i]?) hs
        simp only [List.getElem?_map, hd, Option.map_some] at this
        cases ho : os.toList[i]? with
        | none => rw [ho] at this; cases this
        | some o =>
          rw [ho] at this
          simp only [Option.map_some, Option.some.injEq, Prod.mk.injEq] at this
          obtain ⟨k1, k2, k3⟩ := this
          exact ⟨o, by simpa using ho, by rw [k1]; rfl, by rw [k1]; rfl, k2.symm, k3.symm⟩
    simp only [okA, Bool.or_eq_true] at hok
    rcases hok with hok | hok
    · exact runD_to ht hrec hind hmix hMD hok h1 h2 hh hf hB hsz hk
    · exact wp_region_any hmix (runFr_any ht hrec hind hMD hok h1 h2 hh hf hB hsz hk)
  | all keep D =>
    intro c g fr fr' σ σ' a w ext Q h hs hok hh hf hB hsz hk
    simp only [den] at h
    obtain ⟨fr1, σ1, h1, h3⟩ := bindM_eq h
    obtain ⟨he, rfl⟩ := pureM_eq h3
    cases he
    cases c <;> simp only [skA, skC] at hs <;> try (cases hs; done)
    rename_i id os dr
    cases dr <;> simp only [skC, reduceCtorEq, Skel.drw.injEq] at hs
    refine wp_region_any hmix (allR_any ht hrec ⟨?_, fun i d hd => ?_⟩ hok h1 hh hf hB hsz hk)
    · have := congrArg List.length hs
      simp at this
      simp [this]
    · have := congrArg (fun l => l[i]?) hs
      simp only [List.getElem?_map, hd, Option.map_some] at this
      cases ho : os.toList[i]? with
      | none => rw [ho] at this; cases this
      | some o =>
        rw [ho] at this
        simp only [Option.map_some, Option.some.injEq, Prod.mk.injEq] at this
        obtain ⟨k1, k2, k3⟩ := this
        exact ⟨o, by simpa using ho, by rw [k1]; rfl, by rw [k1]; rfl, k2.symm, k3.symm⟩
  | seq x y ihx ihy =>
    intro c g fr fr' σ σ' a w ext Q h hs hok hh hf hB hsz hk
    simp only [den] at h
    obtain ⟨⟨e1, fr1⟩, σ1, h1, h2⟩ := bindM_eq h
    simp only [okA, Bool.and_eq_true] at hok
    cases c <;> simp only [skA, skC] at hs <;> try (cases hs; done)
    case region id os dr => cases dr <;> simp only [skC] at hs <;> cases hs
    rename_i cx cy
    simp at hs
    apply wp_seq
    refine ihx cx g fr fr1 σ σ1 a w e1 _ h1 hs.1 hok.1 hh hf hB hsz fun a1 w1 hto => ?_
    cases e1 with
    | nrm =>
      obtain ⟨g1, r1, r2, r3, r4⟩ := hto
      exact ihy cy g1 fr1 fr' σ1 σ' a1 w1 ext Q h2 hs.2 hok.2 r1 r2 (Nat.le_trans hB r3.size) r4 fun a2 w2 hto2 => hk a2 w2 (.from r3 hto2)
    | ex id =>
      obtain ⟨he, rfl⟩ := pureM_eq h2
      cases he
      exact hk a1 w1 hto
    | ret =>
      obtain ⟨he, rfl⟩ := pureM_eq h2
      cases he
      exact hk a1 w1 hto
  | cond cc x y ihx ihy =>
    intro c g fr fr' σ σ' a w ext Q h hs hok hh hf hB hsz hk
    obtain ⟨m, hm, h⟩ := app_eq h
    simp only [den] at hm
    split at hm
    case h_2 => subst hm; exact (failM_eq h).elim
    rename_i t hc
    subst hm
    simp only [okA, Bool.and_eq_true] at hok
    cases c <;> simp only [skA, skC] at hs <;> try (cases hs; done)
    case region id os dr => cases dr <;> simp only [skC] at hs <;> cases hs
    rename_i c' cx cy
    simp at hs
    obtain ⟨rfl, hs1, hs2⟩ := hs
    have hv := ev_v hf hc
    rw [VR_bool] at hv
    refine wp_cond hv ?_
    cases t with
    | true => exact ihx cx g fr fr' σ σ' a w ext Q h hs1 hok.1 hh hf hB hsz hk
    | false => exact ihy cy g fr fr' σ σ' a w ext Q h hs2 hok.2 hh hf hB hsz hk
  | block id x ih =>
    intro c g fr fr' σ σ' a w ext Q h hs hok hh hf hB hsz hk
    simp only [den] at h
    obtain ⟨⟨e1, fr1⟩, σ1, h1, h2⟩ := bindM_eq h
    cases c <;> simp only [skA, skC] at hs <;> try (cases hs; done)
    case region id os dr => cases dr <;> simp only [skC] at hs <;> cases hs
    rename_i id' cx
    simp at hs
    obtain ⟨rfl, hs⟩ := hs
    apply wp_block
    refine ih cx g fr fr1 σ σ1 a w e1 _ h1 hs hok hh hf hB hsz fun a1 w1 hto => ?_
    cases e1 with
    | nrm =>
      obtain ⟨he, rfl⟩ := pureM_eq h2
      cases he
      exact hk a1 w1 hto
    | ret =>
      obtain ⟨he, rfl⟩ := pureM_eq h2
      cases he
      exact hk a1 w1 hto
    | ex i =>
      obtain ⟨m, hm, h2⟩ := app_eq h2
      simp only at hm
      simp only [exitOf, Exit.inBlock]
      split at hm
      · subst hm
        rename_i hi
        obtain ⟨he, rfl⟩ := pureM_eq h2
        cases he
        rw [if_pos hi]
        exact hk a1 w1 hto
      · subst hm
        rename_i hi
        obtain ⟨he, rfl⟩ := pureM_eq h2
        cases he
        rw [if_neg hi]
        exact hk a1 w1 hto
  | loop keep x ih =>
    intro c g fr fr' σ σ' a w ext Q h hs hok hh hf hB hsz hk
    simp only [den] at h
    cases c <;> simp only [skA, skC] at hs <;> try (cases hs; done)
    case region id os dr => cases dr <;> simp only [skC] at hs <;> cases hs
    rename_i cx
    simp at hs
    apply wp_loop_rounds k
    have rounds : ∀ (m : Nat) (g : G) (fr : Fr) (σ : H) (a : Act) (w : World), iter m (fun self fr => match norm keep fr with
        | some fr0 => bindM (den C rec hp ip k x fr0) fun p => match p.1 with | .nrm => self p.2 | _ => pureM p
        | none => failM) fr σ = some ((ext, fr'), σ') → HR g σ w → FR B g σ fr a w → B ≤ w.heap.size → a.tmps.size = n → (∀ a' w', To n B g σ w σ' fr' a' w' → Q (exitOf ext) a' w') → Code.rounds P cx Q m a w := by
      intro m
      induction m with
      | zero => intro g fr σ a w h; exact (failM_eq (σ := σ) h).elim
      | succ m ihm =>
        intro g fr σ a w h hh hf hB hsz hk
        obtain ⟨mm, hm, h⟩ := app_eq h
        simp only [iter] at hm
        split at hm
        case h_2 => subst hm; exact (failM_eq h).elim
        rename_i fr0 hn
        subst hm
        obtain ⟨⟨e1, fr1⟩, σ1, h1, h2⟩ := bindM_eq h
        rw [rounds_succ]
        refine ih cx g fr0 fr1 σ σ1 a w e1 _ h1 hs hok hh (norm_FR hn hf) hB hsz fun a1 w1 hto => ?_
        cases e1 with
        | nrm =>
          obtain ⟨g1, r1, r2, r3, r4⟩ := hto
          exact ihm g1 fr1 σ1 a1 w1 h2 r1 r2 (Nat.le_trans hB r3.size) r4 fun a2 w2 hto2 => hk a2 w2 (.from r3 hto2)
        | ex i =>
          obtain ⟨he, rfl⟩ := pureM_eq h2
          cases he
          exact hk a1 w1 hto
        | ret =>
          obtain ⟨he, rfl⟩ := pureM_eq h2
          cases he
          exact hk a1 w1 hto
    exact rounds k g fr σ a w h hh hf hB hsz hk
  | exit id =>
    intro c g fr fr' σ σ' a w ext Q h hs hok hh hf hB hsz hk
    simp only [den] at h
    obtain ⟨he, rfl⟩ := pureM_eq h
    cases he
    cases c <;> simp only [skA, skC] at hs <;> try (cases hs; done)
    case region id os dr => cases dr <;> simp only [skC] at hs <;> cases hs
    simp at hs
    subst hs
    exact wp_exit (hk a w (.refl hh hf hsz))
  | ret =>
    intro c g fr fr' σ σ' a w ext Q h hs hok hh hf hB hsz hk
    simp only [den] at h
    obtain ⟨he, rfl⟩ := pureM_eq h
    cases he
    cases c <;> simp only [skA, skC] at hs <;> try (cases hs; done)
    case region id os dr => cases dr <;> simp only [skC] at hs <;> cases hs
    exact wp_ret (hk a w (.refl hh hf hsz))
  | rng t p q keep asg b iha ihb =>
    intro c g fr fr' σ σ' a w ext Q h hs hok hh hf hB hsz hk
    cases c <;> simp only [skA, skC] at hs <;> try (cases hs; done)
    case region id os dr => cases dr <;> simp only [skC] at hs <;> cases hs
    rename_i gg ps ca cb
    simp only [Skel.rng.injEq] at hs
    obtain ⟨rfl, hps, hs1, hs2⟩ := hs
    exact rng_to ht hrec hback h hps.symm hs1 hs2 hok hh hf hB hsz hk
  | mlp keep o2 o3 o4 id1 id2 rest b ihb =>
    intro c g fr fr' σ σ' a w ext Q h hs hok hh hf hB hsz hk
    simp only [den] at h
    obtain ⟨fr1, σ1, h1, h2⟩ := bindM_eq h
    obtain ⟨he, rfl⟩ := pureM_eq h2
    cases he
    simp only [okA, Bool.and_eq_true] at hok
    obtain ⟨⟨k1, k2⟩, k3⟩ := hok
    obtain ⟨d, n1, n2, e1, o2o, o3o, o4o, o2d, o3d, o4d, l1, l2, l3, l4, l5⟩ := okIt_eq k1
    simp only [skA, o3d, Option.getD_some] at hs
    obtain ⟨cx, rfl, hs0⟩ := skC_loop hs.symm
    obtain ⟨c1, c2, rfl, hs1, hs2⟩ := skC_seq hs0
    obtain ⟨idr, os, rfl, ho⟩ := skC_reg hs1
    obtain ⟨c3, c4, rfl, hs3, hs4⟩ := skC_seq hs2
    obtain ⟨c5, c6, rfl, hs5, hs6⟩ := skC_cond hs3
    obtain ⟨c7, rfl, hs7⟩ := skC_block hs4
    obtain ⟨c8, cb, rfl, hs8, hs9⟩ := skC_seq hs7
    obtain ⟨ids, ps, rfl, hp1⟩ := skC_reg hs8
    obtain rfl := skC_exit hs6
    unfold mlpM at h1
    rw [o2o, o2d, o3d, o4d] at h1
    simp only [itSlot] at h1
    cases hn : norm keep fr with
    | none => rw [hn] at h1; cases h1
    | some fr0 =>
    rw [hn] at h1
    simp only at h1
    split at h1
    case h_2 => cases h1
    rename_i q hq
    split at h1
    case h_2 => cases h1
    rename_i m nn hit
    apply wp_loop_rounds (nn + 1)
    rw [o4d] at k2
    exact ord_to ht hrec ho hp1 (skC_skip hs5) o2o o2d o3o o3d o4o o4d l1 l2 l3 l4 l5 k2
      (fun g fr fr' σ σ' a w ext Q hb hh hf hB hsz hk => ihb cb g fr fr' σ σ' a w ext Q hb hs9.symm k3 hh hf hB hsz fun a' w' hto => by have := hk a' w' hto; cases ext <;> exact this)
      (fun hnm hf => norm_FR hnm hf) (nn + 1) [] (List.range nn) g fr0 σ a w h1 (fun i => by simp) hh (norm_FR hn hf) hB hsz hk
end Go.Am
/-! ## part Fn -/
/- The abstract machine and the model: functions. -/
namespace Go.Am
open Go
variable {P : Program} {C : Ctx} {rec : Nat → List AV → M AV}
variable {n B : Nat} {fr fr' : Fr} {g g' : G} {σ σ' : H} {w w' : World} {a : Act}
def rsC : ResultVar → RS
  | .tmp t => .tmp t
  | .cell a t => .cell a t
def res1 (tmps : Array Value) : ResultVar → Sem Value
  | .tmp t => pure (tmps.getD t undef)
  | .cell a t => do loadVar t (← asAddr (tmps.getD a undef))
theorem run_mapM_list {α : Type} (f : α → Sem Value) (w : World) : ∀ (l : List α) (vs : List Value), vs.length = l.length → (∀ (i : Nat) x v, l[i]? = some x → vs[i]? = some v → (f x).run P w = .ok v w) → (l.mapM f).run P w = .ok vs w
  | [], vs, hl, _ => by
    have : vs = [] := by simpa using hl
    subst this
    simp
  | x :: l, vs, hl, h => by
    cases vs with
    | nil => simp at hl
    | cons v vs =>
      rw [List.mapM_cons]
      simp only [Sem.run_bind, h 0 x v rfl rfl, Result.andThen_ok]
      rw [run_mapM_list f w l vs (by simpa using hl) fun i y u hy hu => h (i + 1) y u (by simpa using hy) (by simpa using hu)]
      simp
theorem run_mapM_arr {α : Type} (f : α → Sem Value) (w : World) (xs : Array α) (vs : List Value) (hl : vs.length = xs.size) (h : ∀ (i : Nat) x v, xs[i]? = some x → vs[i]? = some v → (f x).run P w = .ok v w) : (xs.mapM f).run P w = .ok vs.toArray w := by
  have h1 := run_mapM_list (P := P) f w xs.toList vs (by simpa using hl) (fun i x v hx hv => h i x v (by simpa using hx) hv)
  have h2 : xs.mapM f = (do let l ← xs.toList.mapM f; pure l.toArray) := by
    rw [Array.mapM_eq_mapM_toList, map_eq_pure_bind]
  rw [h2]
  simp only [Sem.run_bind, h1, Result.andThen_ok, Sem.run_pure]
theorem results_list (ht : Tys P C) (hf : FR B g σ fr a w) : ∀ (l : List ResultVar) (as : List AV), results C fr (l.map rsC) = some as →
    ∃ vs : List Value, vs.length = l.length ∧ VRs g as vs.toArray ∧ ∀ (i : Nat) x v, l[i]? = some x → vs[i]? = some v → (res1 a.tmps x).run P w = .ok v w
  | [], as, h => by
    simp [results] at h; subst h
    exact ⟨[], rfl, ⟨rfl, fun j c hj => by simp at hj⟩, fun i x v hx => by simp at hx⟩
  | x :: l, as, h => by
    have cons : ∀ (y : AV) (as' : List AV) (v : Value), results C fr (l.map rsC) = some as' → as = y :: as' → VR g y v → (res1 a.tmps x).run P w = .ok v w →
        ∃ vs : List Value, vs.length = (x :: l).length ∧ VRs g as vs.toArray ∧ ∀ (i : Nat) x' v, (x :: l)[i]? = some x' → vs[i]? = some v → (res1 a.tmps x').run P w = .ok v w := by
      intro y as' v h1 h2 h3 h4
      obtain ⟨vs, k1, k2, k3⟩ := results_list ht hf l as' h1
      subst h2
      refine ⟨v :: vs, by simp [k1], ⟨by have := k2.1; simpa using this, fun j c hj => ?_⟩, fun i x' v' hx hv => ?_⟩
      · cases j with
        | zero => simp at hj; subst hj; exact ⟨v, by simp, h3⟩
        | succ j =>
          obtain ⟨u, h5, h6⟩ := k2.2 j c (by simpa using hj)
          exact ⟨u, by simpa using h5, h6⟩
      · cases i with
        | zero => simp at hx hv; subst hx; subst hv; exact h4
        | succ i => exact k3 i x' v' (by simpa using hx) (by simpa using hv)
    cases x with
    | tmp t =>
      simp only [List.map_cons, rsC, results] at h
      split at h <;> try (cases h; done)
      rename_i y as' h1 h2
      simp at h
      obtain ⟨v, h3, h4⟩ := hf.get t h1
      exact cons y as' v h2 h.symm h4 (by simp only [res1, getD_of h3, Sem.run_pure])
    | cell t ty =>
      simp only [List.map_cons, rsC, results] at h
      split at h <;> try (cases h; done)
      rename_i y ti as' h1 hti h2
      split at h <;> simp at h
      rename_i hfit
      obtain ⟨b, h3, _, _, _, cs, el, k1, k2, k3⟩ := hf.get t h1
      have hm : MemR g (fun q => w.cell? ⟨b, q, none⟩) 0 y := fun j c hj => by
        obtain ⟨u, h5, h6⟩ := k3 j c hj
        exact ⟨u, (cell_row k1).trans h5, h6⟩
      obtain ⟨v, h4, h5⟩ := run_loadVar_mem (ht ty ti hti) (fits_shp hfit) hm
      exact cons y as' v h2 h.symm h5 (by simp [res1, getD_of h3, asAddr, h4])
theorem results_to (ht : Tys P C) (hf : FR B g σ fr a w) {fn : Func} {as : List AV} (h : results C fr (fn.results.toList.map rsC) = some as) : ∃ v, (Go.results fn a.tmps).run P w = .ok v w ∧ VR g (tupled as) v := by
  obtain ⟨vs, h1, h2, h3⟩ := results_list (P := P) ht hf _ _ h
  have hm := run_mapM_arr (P := P) (res1 a.tmps) w fn.results vs (by simpa using h1) (fun i x v hx hv => h3 i x v (by simpa using hx) hv)
  have e : Go.results fn a.tmps = (do let vs ← fn.results.mapM (res1 a.tmps); pure (if h : vs.size = 1 then vs[0] else .tuple vs)) := by
    unfold Go.results
    congr 1
  refine ⟨if h : vs.toArray.size = 1 then vs.toArray[0] else .tuple vs.toArray, by rw [e]; simp only [Sem.run_bind, hm, Result.andThen_ok, Sem.run_pure], ?_⟩
  split
  · rename_i hs
    have hl : as.length = 1 := by rw [← h2.1]; exact hs
    match as, hl with
    | [y], _ =>
      obtain ⟨u, h4, h5⟩ := h2.2 0 y rfl
      have : vs.toArray[0]? = some vs.toArray[0] := by simp
      rw [this] at h4; cases h4
      exact h5
  · rename_i hs
    have hl : as.length ≠ 1 := by rw [← h2.1]; exact hs
    have : tupled as = .tup as := by
      unfold tupled
      split
      · exact absurd rfl hl
      · rfl
    rw [this]
    exact VR_tup.2 ⟨_, rfl, h2⟩
structure FnOK (P : Program) (f : Nat) (fi : FnI) : Prop where
  fn : ∃ fn c, P.funcs[f]? = some fn ∧ fn.body = some c ∧ (fn.name == "runtime.NumGoroutine") = false ∧ fn.ntmps = fi.nt ∧ fn.results.toList.map rsC = fi.results ∧ skA fi.code = skC c
  ok : okA fi.nt fi.code = true
theorem getS_args : ∀ (l : List AV) (i t : Nat), getS (argSlots i l) t = if i ≤ t then (match l[t - i]? with | some x => .v x | none => .u) else .u
  | [], i, t => by simp [argSlots, getS_nil, getS_cons]
  | x :: l, i, t => by
    simp only [argSlots, getS_nil, getS_cons]
    by_cases h : i = t
    · subst h; simp
    · rw [if_neg h, getS_args l (i + 1) t]
      by_cases h1 : i + 1 ≤ t
      · rw [if_pos h1, if_pos (by omega), show t - i = (t - (i + 1)) + 1 by omega]
        simp
      · rw [if_neg h1, if_neg (by omega)]
theorem shut_mark {D : Nat} (hB : B ≤ D) (hD : w.heap[D]? = some (.deferred (some []))) (hown : ¬ Owned g σ D) (hh : HR g σ w) {ds : List Deferred} (hf : FR B g σ fr a w) (hds : Marks B g σ (w.putObj D (.deferred none)) ds) :
    HR g σ (w.putObj D (.deferred none)) ∧ FR B g σ fr { a with defers := ds } (w.putObj D (.deferred none)) ∧ Step B g σ w g σ (w.putObj D (.deferred none)) := by
  have hq : ∀ q, q ≠ D → (w.putObj D (.deferred none)).heap[q]? = w.heap[q]? := fun q h => World.putObj_heap_other h
  have hcell : ∀ o, w.cell? ⟨D, o, none⟩ = none := fun o => by simp [World.cell?, hD]
  refine ⟨⟨fun b' o u hu => ?_, fun r o h => ?_, hh.inj, hh.free, hh.dom, hh.top, fun x hx => let ⟨k1, u, k2⟩ := hh.tb x hx; ⟨k1.keep (hq x.1 (fun e => by have := hh.im _ _ _ k2; rw [e, hcell] at this; cases this)), u, k2⟩⟩, ⟨fun t => ?_, hf.inj, hds⟩, ?_⟩
  · have hne : b' ≠ D := fun e => by
      have := hh.im b' o u hu
      rw [e, hcell] at this
      cases this
    rw [cell_of_heap (hq b' hne)]; exact hh.im b' o u hu
  · exact (hh.ob r o h).keep (.refl g) fun b' hb1 => hq b' fun e => (hh.ob r o h).not_deferred hb1 (e ▸ hD)
  · have := hf.sv t
    revert this
    generalize getS fr.sl t = s
    intro this
    cases s with
    | u => trivial
    | v x => exact this
    | lp d off => exact this
    | hb => exact this
    | bx x =>
      obtain ⟨b, h1, p1, p2, p3, cs, el, p4, p5⟩ := this
      exact ⟨b, h1, p1, p2, p3, cs, el, by rw [hq b fun e => by rw [e, hD] at p4; cases p4]; exact p4, p5⟩
  · exact ⟨.refl _, by simp, fun b hb _ => hq b (by omega), fun _ h => .inl h, fun _ _ _ h => .inl h, rfl, rfl, rfl⟩
theorem end_marks {fn : Func} {R : Ending → World → Prop} : ∀ (Ds : List Nat) (a : Act) (w : World), a.defers = Ds.map markD → Ds.Nodup → (∀ D ∈ Ds, B ≤ D ∧ w.heap[D]? = some (.deferred (some [])) ∧ ¬ Owned g σ D) → HR g σ w → FR B g σ fr a w →
    (∀ w'', HR g σ w'' → FR B g σ fr { a with defers := [] } w'' → Step B g σ w g σ w'' → ∃ v, (Go.results fn a.tmps).run P w'' = .ok v w'' ∧ R (.returned v) w'') → LeavesInM Fence.wide 0 P fn a.tmps R a.defers .returning w
  | [], a, w, hd, _, _, hh, hf, k => by
    have ha : a.defers = [] := hd
    rw [ha]
    have e : { a with defers := [] } = a := by rw [← ha]
    obtain ⟨v, h1, h2⟩ := k w hh (by rw [e]; exact hf) (Step.refl _ _ _ _)
    exact ⟨v, h1, h2⟩
  | D :: Ds, a, w, hd, hn, hall, hh, hf, k => by
    rw [List.nodup_cons] at hn
    obtain ⟨h1, h2, h3⟩ := hall D (by simp)
    have hrest : ∀ D' ∈ Ds, B ≤ D' ∧ (w.putObj D (.deferred none)).heap[D']? = some (.deferred (some [])) ∧ ¬ Owned g σ D' := fun D' hD' => by
      obtain ⟨k1, k2, k3⟩ := hall D' (by simp [hD'])
      have hne : D' ≠ D := fun e => hn.1 (by rw [← e]; exact hD')
      exact ⟨k1, by rw [World.putObj_heap_other hne]; exact k2, k3⟩
    obtain ⟨q1, q2, q3⟩ := shut_mark h1 h2 h3 hh hf (ds := Ds.map markD) ⟨Ds, rfl, hn.2, hrest⟩
    rw [hd, List.map_cons]
    refine ⟨by simp, .inl ⟨D, _, rfl, run_takeDeferred h2, ?_⟩⟩
    exact end_marks Ds { a with defers := Ds.map markD } _ rfl hn.2 hrest q1 q2 fun w'' y1 y2 y3 => k w'' y1 y2 (q3.trans y3 (Nat.le_refl _))
theorem calls_of_marks {f : FuncId} {fn : Func} {c : Code} {args : Array Value} {R : Ending → World → Prop} (hf : P.funcs[f]? = some fn) (hb : fn.body = some c)
    (h : c.wp P (bodyPostM Fence.wide 0 P fn R) { tmps := args ++ Array.replicate (fn.ntmps - args.size) undef, defers := [] } w) : Calls P f args w R :=
  (callsIn_wide (n := 0)).1 (callsIn_of_wp_marks (F := Fence.wide) (n := 0) hf hb trivial ((wpIn_wide (n := 0)).2 h))
theorem runFn_to (ht : Tys P C) (hrec : CallOK P rec) (hback : ∀ f te, look f C.back = some te → BackOK P C f te) (hind : RecInd rec) (hmix : P.follows .mixedOrders = true) {f k : Nat} {fi : FnI} (hfn : FnOK P f fi) {l : List AV} {r : AV} (h : runFn C rec k fi l σ = some (r, σ')) {vs : Array Value} (hh : HR g σ w) (hv : VRs g l vs) :
    Serves P f vs w (Back g σ w r σ') := by
  obtain ⟨fn, c, hf1, hf2, hf3, hf4, hf5, hf6⟩ := hfn.fn
  obtain ⟨m, hm, h⟩ := app_eq h
  unfold runFn at hm
  split at hm
  case isFalse => subst hm; exact (failM_eq h).elim
  rename_i hlen
  subst hm
  obtain ⟨⟨ext, fr1⟩, σ1, h1, h2⟩ := bindM_eq h
  left
  have hf3' : ¬ fn.name = "runtime.NumGoroutine" := by simpa using hf3
  refine ⟨by simp [callFunc, hf1, hf3', hf2], ?_⟩
  refine calls_of_marks hf1 hf2 ?_
  have hsz : (vs ++ Array.replicate (fn.ntmps - vs.size) undef).size = fi.nt := by
    have := hv.1
    simp; omega
  have hfr : FR w.heap.size g σ { sl := argSlots 0 l, lk := false } { tmps := vs ++ Array.replicate (fn.ntmps - vs.size) undef, defers := [] } w := by
    refine ⟨fun t => ?_, fun t t' x x' v k1 => ?_, Marks.nil _ _ _ _⟩
    · show SVR _ _ _ _ _ _ t (getS (argSlots 0 l) t)
      rw [getS_args, if_pos (Nat.zero_le _), Nat.sub_zero]
      cases hx : l[t]? with
      | none => trivial
      | some x =>
        obtain ⟨u, h3, h4⟩ := hv.2 t x hx
        refine ⟨u, ?_, h4⟩
        have hlt := (Array.getElem?_eq_some_iff.1 h3).1
        show (vs ++ Array.replicate (fn.ntmps - vs.size) undef)[t]? = some u
        rw [Array.getElem?_append_left hlt]; exact h3
    · have k1 : getS (argSlots 0 l) t = .bx x := k1
      rw [getS_args, if_pos (Nat.zero_le _), Nat.sub_zero] at k1
      cases hx : l[t]? <;> rw [hx] at k1 <;> cases k1
  refine den_to ht hrec hback hind hmix k fi.code c g _ fr1 σ σ1 _ w ext _ h1 hf6 hfn.ok hh hfr (Nat.le_refl _) hsz fun a' w' hto => ?_
  obtain ⟨g', r1, r2, r3, _⟩ := hto
  have fin : ∀ (x : M AV), x = (match results C fr1 fi.results with | some l => pureM (tupled l) | none => failM) → x σ1 = some (r, σ') → bodyPostM Fence.wide 0 P fn (fun | .returned v, w' => Back g σ w r σ' v w' | _, _ => False) .ret a' w' := by
    intro x hx hxs
    cases hre : results C fr1 fi.results with
    | none => rw [hre] at hx; subst hx; exact (failM_eq hxs).elim
    | some as =>
      rw [hre] at hx
      subst hx
      obtain ⟨rfl, rfl⟩ := pureM_eq hxs
      obtain ⟨Ds, e1, e2, e3⟩ := r2.defers
      refine end_marks Ds a' w' e1 e2 e3 r1 r2 fun w'' y1 y2 y3 => ?_
      obtain ⟨v, h3, h4⟩ := results_to (P := P) (fn := fn) ht y2 (by rw [hf5]; exact hre)
      exact ⟨v, h3, g', y1, r3.trans y3 (Nat.le_refl _), h4⟩
  cases ext with
  | ex id => exact (failM_eq (σ := σ1) h2).elim
  | nrm => exact fin _ rfl h2
  | ret => exact fin _ rfl h2
end Go.Am
/-! ## part Iso -/
/- The abstract machine and the model: what lies in the heap, laid out; frozen. -/
namespace Go.Am
open Go
variable {P : Program} {C : Ctx} {rec : Nat → List AV → M AV}
variable {n B : Nat} {g g' gF : G} {σ σ' : H} {w w' : World}
theorem mapO2_get {f : AV → Option (AV × List Nat)} : ∀ {l m : List AV} {rs : List Nat}, mapO2 f l = some (m, rs) → m.length = l.length ∧ ∀ (j : Nat) c', m[j]? = some c' → ∃ c rs', l[j]? = some c ∧ f c = some (c', rs') ∧ ∀ r ∈ rs', r ∈ rs
  | [], m, rs, h => by simp [mapO2] at h; obtain ⟨rfl, rfl⟩ := h; simp
  | a :: l, m, rs, h => by
    simp only [mapO2] at h
    split at h <;> try (cases h; done)
    rename_i b r m' s h1 h2
    simp at h
    obtain ⟨rfl, rfl⟩ := h
    obtain ⟨k1, k2⟩ := mapO2_get h2
    refine ⟨by simp [k1], fun j c' hj => ?_⟩
    cases j with
    | zero => simp at hj; subst hj; exact ⟨a, r, rfl, h1, fun q hq => List.mem_append_left _ hq⟩
    | succ j =>
      obtain ⟨c, rs', k3, k4, k5⟩ := k2 j c' (by simpa using hj)
      exact ⟨c, rs', by simpa using k3, k4, fun q hq => List.mem_append_right _ (k5 q hq)⟩
theorem mapO2_noRef {f : AV → Option (AV × List Nat)} (hf : ∀ a b rs, f a = some (b, rs) → b.noRef = true) : ∀ {l m : List AV} {rs : List Nat}, mapO2 f l = some (m, rs) → AV.noRefs m = true
  | [], m, rs, h => by simp [mapO2] at h; obtain ⟨rfl, rfl⟩ := h; rfl
  | a :: l, m, rs, h => by
    simp only [mapO2] at h
    split at h <;> try (cases h; done)
    rename_i b r m' s h1 h2
    simp at h
    obtain ⟨rfl, rfl⟩ := h
    simp [AV.noRefs, hf _ _ _ h1, mapO2_noRef hf h2]
theorem snapA_noRef : ∀ (n : Nat) (a b : AV) (rs : List Nat), snapA σ n a = some (b, rs) → b.noRef = true
  | 0, a, b, rs, h => by
    unfold snapA at h
    split at h <;> simp at h
    rename_i hn
    obtain ⟨rfl, rfl⟩ := h
    exact hn
  | n + 1, a, b, rs, h => by
    unfold snapA at h
    split at h
    · rename_i hn; simp at h; obtain ⟨rfl, rfl⟩ := h; exact hn
    · have ih := snapA_noRef n
      split at h
      · split at h <;> simp at h
        rename_i hm
        obtain ⟨rfl, rfl⟩ := h
        exact mapO2_noRef ih hm
      · split at h <;> simp at h
        rename_i hm
        obtain ⟨rfl, rfl⟩ := h
        exact mapO2_noRef ih hm
      · split at h <;> simp at h
        rename_i hm
        obtain ⟨rfl, rfl⟩ := h
        exact mapO2_noRef ih hm
      · split at h <;> try (cases h; done)
        split at h <;> try (cases h; done)
        split at h <;> simp at h
        rename_i hm
        obtain ⟨rfl, rfl⟩ := h
        exact mapO2_noRef ih hm
      · cases h
theorem noRefs_get : ∀ {cs : List AV}, AV.noRefs cs = true → ∀ {j : Nat} {c : AV}, cs[j]? = some c → c.noRef = true
  | [], _, j, c, h => by simp at h
  | x :: l, hn, j, c, h => by
    simp only [AV.noRefs, Bool.and_eq_true] at hn
    cases j with
    | zero => simp at h; subst h; exact hn.1
    | succ j => exact noRefs_get hn.2 (by simpa using h)
theorem cells_noRef {x c : AV} {j : Nat} (hx : x.noRef = true) (h : x.cells[j]? = some c) : c.noRef = true := by
  cases x
  case agg cs =>
    have hx' : AV.noRefs cs = true := by simpa [AV.noRef] using hx
    exact noRefs_get hx' h
  all_goals
    cases j with
    | zero => simp [AV.cells] at h; subst h; exact hx
    | succ j => simp [AV.cells] at h
theorem snapA_of_noRef {a : AV} (h : a.noRef = true) (n : Nat) : snapA σ n a = some (a, []) := by
  cases n <;> simp [snapA, h]
theorem snap_cells {n : Nat} {x y : AV} {rs : List Nat} (h : snapA σ n x = some (y, rs)) : y.cells.length = x.cells.length ∧ ∀ (j : Nat) c', y.cells[j]? = some c' → ∃ c m rs', x.cells[j]? = some c ∧ m ≤ n ∧ snapA σ m c = some (c', rs') ∧ ∀ r ∈ rs', r ∈ rs := by
  by_cases hx : x.noRef = true
  · rw [snapA_of_noRef hx] at h
    cases h
    exact ⟨rfl, fun j c' hj => ⟨c', 0, [], hj, Nat.zero_le _, snapA_of_noRef (cells_noRef hx hj) 0, fun r hr => by cases hr⟩⟩
  · have whole : y.cells = [y] → x.cells = [x] → y.cells.length = x.cells.length ∧ ∀ (j : Nat) c', y.cells[j]? = some c' → ∃ c m rs', x.cells[j]? = some c ∧ m ≤ n ∧ snapA σ m c = some (c', rs') ∧ ∀ r ∈ rs', r ∈ rs := by
      intro hy hx'
      rw [hy, hx']
      refine ⟨rfl, fun j c' hj => ?_⟩
      cases j with
      | zero => simp at hj; subst hj; exact ⟨x, n, rs, rfl, Nat.le_refl _, h, fun r hr => hr⟩
      | succ j => simp at hj
    cases n with
    | zero => simp [snapA, hx] at h
    | succ n =>
      have h0 := h
      simp only [snapA, hx, Bool.false_eq_true, if_false] at h
      split at h
      · split at h <;> simp at h
        rename_i hm
        obtain ⟨rfl, rfl⟩ := h
        obtain ⟨k1, k2⟩ := mapO2_get hm
        refine ⟨k1, fun j c' hj => ?_⟩
        obtain ⟨c, rs', k3, k4, k5⟩ := k2 j c' hj
        exact ⟨c, n, rs', k3, Nat.le_succ _, k4, k5⟩
      · split at h <;> simp at h
        obtain ⟨rfl, rfl⟩ := h
        exact whole rfl rfl
      · split at h <;> simp at h
        obtain ⟨rfl, rfl⟩ := h
        exact whole rfl rfl
      · split at h <;> try (cases h; done)
        split at h <;> try (cases h; done)
        split at h <;> simp at h
        obtain ⟨rfl, rfl⟩ := h
        exact whole rfl rfl
      · cases h
def Laid (g gF : G) (σ : H) (w : World) (r : Nat) : Prop :=
  ∀ fz sz xs b N, σ[r]? = some (.arr fz sz xs) → g.loc r xs.length = some (b, sz, N) → ∀ q, q < xs.length * sz → gF.im b q = w.cell? ⟨b, q, none⟩
theorem snap_VR (hr : HR g σ w) (him : ∀ b o u, g.im b o = some u → gF.im b o = some u) : ∀ (n : Nat) (a b : AV) (rs : List Nat), snapA σ n a = some (b, rs) → (∀ r ∈ rs, Laid g gF σ w r) → ∀ v, VR g a v → VR gF b v := by
  intro n
  induction n using Nat.strongRecOn with
  | _ n ih =>
    intro a b rs h hl v hv
    by_cases ha : a.noRef = true
    · rw [snapA_of_noRef ha] at h
      cases h
      exact hv.noRef him ha
    · cases n with
      | zero => simp [snapA, ha] at h
      | succ n =>
        simp only [snapA, ha, Bool.false_eq_true, if_false] at h
        split at h
        · -- parts
          split at h <;> simp at h
          rename_i hm
          obtain ⟨rfl, rfl⟩ := h
          obtain ⟨k1, k2⟩ := mapO2_get hm
          obtain ⟨vs, rfl, h1, h2⟩ := VR_agg.1 hv
          refine VR_agg.2 ⟨vs, rfl, by omega, fun j c' hj => ?_⟩
          obtain ⟨c, rs', k3, k4, k5⟩ := k2 j c' hj
          obtain ⟨u, h3, h4, h5⟩ := h2 j c k3
          exact ⟨u, h3, h4, ih n (Nat.lt_succ_self n) c c' rs' k4 (fun r hr => hl r (k5 r hr)) u h5⟩
        · split at h <;> simp at h
          rename_i hm
          obtain ⟨rfl, rfl⟩ := h
          obtain ⟨k1, k2⟩ := mapO2_get hm
          obtain ⟨vs, rfl, h1, h2⟩ := VR_tup.1 hv
          refine VR_tup.2 ⟨vs, rfl, by omega, fun j c' hj => ?_⟩
          obtain ⟨c, rs', k3, k4, k5⟩ := k2 j c' hj
          obtain ⟨u, h3, h5⟩ := h2 j c k3
          exact ⟨u, h3, ih n (Nat.lt_succ_self n) c c' rs' k4 (fun r hr => hl r (k5 r hr)) u h5⟩
        · split at h <;> simp at h
          rename_i s xs _ l _ hm
          obtain ⟨rfl, rfl⟩ := h
          obtain ⟨k1, k2⟩ := mapO2_get hm
          obtain ⟨ad, cap, rfl, h1, h2⟩ := VR_sl.1 hv
          refine VR_sl.2 ⟨ad, cap, by rw [k1], by omega, ?_⟩
          rcases h2 with h2 | ⟨bb, off, rfl, h2⟩
          · subst h2; left; simpa using k1
          · refine .inr ⟨bb, off, rfl, fun i x' hi => ?_⟩
            obtain ⟨x, rs', k3, k4, k5⟩ := k2 i x' hi
            obtain ⟨h3, h4⟩ := h2 i x k3
            obtain ⟨c1, c2⟩ := snap_cells k4
            refine ⟨by omega, fun j c' hj => ?_⟩
            obtain ⟨c, m, rs2, m1, m2, m3, m4⟩ := c2 j c' hj
            obtain ⟨u, h5, h6, h7⟩ := h4 j c m1
            exact ⟨u, him _ _ _ h5, h6, ih m (Nat.lt_succ_of_le m2) c c' rs2 m3 (fun r hr => hl r (k5 r (m4 r hr))) u h7⟩
        · -- a slice of an object
          rename_i r v' o len s
          split at h <;> try (cases h; done)
          rename_i fz sz xs harr
          split at h <;> try (cases h; done)
          rename_i hc
          split at h <;> simp at h
          rename_i l rs0 hm
          obtain ⟨rfl, rfl⟩ := h
          obtain ⟨hs, hbd⟩ := hc
          subst hs
          obtain ⟨k1, k2⟩ := mapO2_get hm
          obtain ⟨b', N', ad, cap, h1, rfl, h3, h4⟩ := VR_hs.1 hv
          unfold arrAt at harr
          split at harr <;> try (cases harr; done)
          rename_i fz' sz' xs' hσ
          split at harr <;> simp at harr
          rename_i hlen
          obtain ⟨rfl, rfl, rfl⟩ := harr
          obtain ⟨b, N, cs, el, f, p1, p3, p4, p5, p2, _, _⟩ := hr.ob r _ hσ
          have hL := hl r (List.mem_cons_self ..) _ _ _ _ _ hσ p1
          rw [hlen, h1] at p1
          cases p1
          have hll : l.length = len := by rw [k1]; simp; omega
          refine VR_sl.2 ⟨ad, cap, by rw [hll], by omega, ?_⟩
          rcases h4 with ⟨rfl, _, _⟩ | ⟨h4, _⟩
          · refine .inr ⟨b', o * sz', rfl, fun i x' hi => ?_⟩
            obtain ⟨x, rs', k3, k4, k5⟩ := k2 i x' hi
            rw [List.getElem?_take] at k3
            split at k3 <;> try (cases k3; done)
            rw [List.getElem?_drop] at k3
            obtain ⟨q1, q2⟩ := p2 (o + i) x k3
            obtain ⟨c1, c2⟩ := snap_cells k4
            refine ⟨by omega, fun j c' hj => ?_⟩
            obtain ⟨c, m, rs2, m1, m2, m3, m4⟩ := c2 j c' hj
            obtain ⟨u, h5, h6, h7⟩ := q2 j c m1
            have hil : o + i < xs'.length := (List.getElem?_eq_some_iff.1 k3).1
            have hjl : j < x.cells.length := (List.getElem?_eq_some_iff.1 m1).1
            rw [q1] at hjl
            have hmul : (o + i + 1) * sz' ≤ xs'.length * sz' := Nat.mul_le_mul_right _ hil
            rw [Nat.succ_mul] at hmul
            refine ⟨u, ?_, h6, ih m (Nat.lt_succ_of_le m2) c c' rs2 m3 (fun r hr => hl r (List.mem_cons_of_mem _ (k5 r (m4 r hr)))) u h7⟩
            rw [← Nat.add_mul, hL _ (by omega), cell_row p3]; exact h5
          · left
            subst h4
            exact List.eq_nil_of_length_eq_zero hll
        · cases h
end Go.Am
/-! ## part Frz -/
/- The abstract machine and the model: objects frozen. -/
namespace Go.Am
open Go
variable {P : Program} {C : Ctx} {rec : Nat → List AV → M AV}
variable {n B : Nat} {g g' gF : G} {σ σ' : H} {w w' : World}
def frz1 (σ : H) (r : Nat) : H := match σ[r]? with | some (.arr _ sz xs) => σ.set r (.arr true sz xs) | _ => σ
theorem frzH_cons (σ : H) (r : Nat) (rs : List Nat) : frzH σ (r :: rs) = frzH (frz1 σ r) rs := rfl
theorem HR.frz1 (hr : HR g σ w) (r : Nat) : ∃ g', HR g' (Am.frz1 σ r) w ∧ Step w.heap.size g σ w g' (Am.frz1 σ r) w ∧ g'.loc = g.loc ∧ Laid g g' σ w r := by
  unfold Am.frz1
  cases hs : σ[r]? with
  | none => exact ⟨g, hr, .refl _ _ _ _, rfl, fun fz sz xs b N h => by rw [hs] at h; cases h⟩
  | some ob =>
    cases ob with
    | map es => exact ⟨g, hr, .refl _ _ _ _, rfl, fun fz sz xs b N h => by rw [hs] at h; cases h⟩
    | it s => exact ⟨g, hr, .refl _ _ _ _, rfl, fun fz sz xs b N h => by rw [hs] at h; cases h⟩
    | arr fz sz xs =>
      obtain ⟨b, N, cs, el, f, h1, h2, h3, h4, h5, h6, h7⟩ := hr.ob r _ hs
      have hrl : r < σ.length := (List.getElem?_eq_some_iff.1 hs).1
      have hbk : ∀ fz', blk g r (.arr fz' sz xs) = some b := fun fz' => by simp [blk, HObj.ver, h1]
      let g' : G := { im := fun b' q => if b' = b ∧ q < xs.length * sz then cs[q]? else g.im b' q, loc := g.loc }
      have hgi : ∀ b' q, g'.im b' q = if b' = b ∧ q < xs.length * sz then cs[q]? else g.im b' q := fun _ _ => rfl
      have hcell : ∀ q, w.cell? ⟨b, q, none⟩ = cs[q]? := fun q => cell_row h2
      have hle : g.le g' := ⟨fun b' q u hu => by
        rw [hgi]
        split
        · rename_i hc
          obtain ⟨rfl, _⟩ := hc
          rw [← hcell]; exact hr.im _ _ _ hu
        · exact hu, fun _ _ _ h => h⟩
      have hbl : ∀ q o, blk g' q o = blk g q o := fun _ _ => rfl
      have hget : ∀ q o, (σ.set r (.arr true sz xs))[q]? = some o → (q = r ∧ o = .arr true sz xs) ∨ (q ≠ r ∧ σ[q]? = some o) := by
        intro q o hq
        by_cases hqr : q = r
        · subst hqr; rw [List.getElem?_set_self hrl] at hq; cases hq; exact .inl ⟨rfl, rfl⟩
        · rw [List.getElem?_set_ne (Ne.symm hqr)] at hq; exact .inr ⟨hqr, hq⟩
      have hown : ∀ b', Owned g' (σ.set r (.arr true sz xs)) b' → Owned g σ b' ∧ b' ≠ b := by
        rintro b' ⟨q, o, k1, k2, k3⟩
        rcases hget q o k1 with ⟨rfl, rfl⟩ | ⟨k4, k5⟩
        · simp [HObj.mut] at k2
        · refine ⟨⟨q, o, k5, k2, k3⟩, fun e => ?_⟩
          subst e
          exact k4 (hr.inj q r o _ b' k5 hs k3 (hbk fz))
      refine ⟨g', ⟨fun b' q u hu => ?_, fun q o hq => ?_, fun q q' o o' b' k1 k2 k3 k4 => ?_, fun b' ho q => ?_, fun q v p hp => ?_, fun q o v p hq hp => ?_, fun x hx => let ⟨k1, u, k2⟩ := hr.tb x hx; ⟨k1, u, hle.im _ _ _ k2⟩⟩, ⟨hle, Nat.le_refl _, fun _ _ _ => rfl, fun b' ho => .inl (hown b' ho).1, fun b' q u hu => ?_, rfl, rfl, rfl⟩, rfl, ?_⟩
      · rw [hgi] at hu
        split at hu
        · rename_i hc; obtain ⟨rfl, _⟩ := hc; rw [hcell]; exact hu
        · exact hr.im _ _ _ hu
      · rcases hget q o hq with ⟨rfl, rfl⟩ | ⟨k4, k5⟩
        · refine ⟨b, N, cs, el, f, h1, h2, h3, h4, fun i x hi => ⟨(h5 i x hi).1, (h5 i x hi).2.mono hle⟩, fun h => (by cases h), fun _ p hp => ?_⟩
          rw [hgi, if_pos ⟨rfl, hp⟩]
          exact ⟨cs[p], by simp⟩
        · exact (hr.ob q o k5).keep hle fun _ _ => rfl
      · have u1 : ∃ o1, σ[q]? = some o1 ∧ blk g q o1 = some b' := by
          rcases hget q o k1 with ⟨rfl, rfl⟩ | ⟨_, k5⟩
          · exact ⟨_, hs, k3⟩
          · exact ⟨_, k5, k3⟩
        have u2 : ∃ o1, σ[q']? = some o1 ∧ blk g q' o1 = some b' := by
          rcases hget q' o' k2 with ⟨rfl, rfl⟩ | ⟨_, k5⟩
          · exact ⟨_, hs, k4⟩
          · exact ⟨_, k5, k4⟩
        obtain ⟨o1, m1, m2⟩ := u1
        obtain ⟨o2, m3, m4⟩ := u2
        exact hr.inj q q' o1 o2 b' m1 m3 m2 m4
      · obtain ⟨k1, k2⟩ := hown b' ho
        rw [hgi, if_neg (fun h => k2 h.1)]
        exact hr.free b' k1 q
      · have := hr.dom q v p hp; simpa using this
      · rcases hget q o hq with ⟨rfl, rfl⟩ | ⟨_, k5⟩
        · exact hr.top q (.arr fz sz xs) v p hs hp
        · exact hr.top q o v p k5 hp
      · rw [hgi] at hu
        split at hu
        · rename_i hc
          obtain ⟨rfl, hq⟩ := hc
          cases fz with
          | false => exact .inr (.inl ⟨r, _, hs, rfl, hbk false⟩)
          | true =>
            obtain ⟨u', hu'⟩ := h7 rfl q hq
            have := hr.im _ _ _ hu'
            rw [hcell, hu] at this
            cases this
            exact .inl hu'
        · exact .inl hu
      · intro fz' sz' xs' b' N' hs' hl' q hq
        rw [hs] at hs'
        cases hs'
        rw [h1] at hl'
        cases hl'
        rw [hgi, if_pos ⟨rfl, hq⟩, hcell]
theorem frz1_get (σ : H) (r q : Nat) : (Am.frz1 σ r)[q]? = σ[q]? ∨ ∃ fz sz xs, σ[q]? = some (.arr fz sz xs) ∧ (Am.frz1 σ r)[q]? = some (.arr true sz xs) := by
  unfold Am.frz1
  split
  · rename_i fz sz xs hs
    have hrl : r < σ.length := (List.getElem?_eq_some_iff.1 hs).1
    by_cases hqr : q = r
    · subst hqr; right; exact ⟨fz, sz, xs, hs, List.getElem?_set_self hrl⟩
    · left; exact List.getElem?_set_ne (Ne.symm hqr)
  · exact .inl rfl
theorem HR.frzs : ∀ (rs : List Nat) (g : G) (σ : H), HR g σ w → ∃ g', HR g' (frzH σ rs) w ∧ Step w.heap.size g σ w g' (frzH σ rs) w ∧ g'.loc = g.loc ∧ ∀ r ∈ rs, Laid g g' σ w r
  | [], g, σ, hr => ⟨g, hr, .refl _ _ _ _, rfl, fun r hr => by cases hr⟩
  | r :: rs, g, σ, hr => by
    obtain ⟨g1, h1, h2, h3, h4⟩ := hr.frz1 r
    obtain ⟨g2, k1, k2, k3, k4⟩ := HR.frzs rs g1 _ h1
    rw [frzH_cons]
    refine ⟨g2, k1, h2.trans k2 (Nat.le_refl _), k3.trans h3, fun q hq => ?_⟩
    rcases List.mem_cons.1 hq with rfl | hq
    · intro fz sz xs b N hs hl p hp
      have := h4 fz sz xs b N hs hl p hp
      cases hc : w.cell? ⟨b, p, none⟩ with
      | some u => rw [hc] at this; exact k2.le.im _ _ _ this
      | none =>
        cases hi : g2.im b p with
        | none => rfl
        | some u => have := k1.im _ _ _ hi; rw [hc] at this; cases this
    · intro fz sz xs b N hs hl p hp
      rcases frz1_get σ r q with h5 | ⟨fz', sz', xs', h5, h6⟩
      · exact k4 q hq fz sz xs b N (by rw [h5]; exact hs) (by rw [h3]; exact hl) p hp
      · rw [hs] at h5; cases h5
        exact k4 q hq true sz xs b N h6 (by rw [h3]; exact hl) p hp
end Go.Am
/-! ## part Own -/
/- The abstract machine and the model: calls in a heap of their own. -/
namespace Go.Am
open Go
variable {P : Program} {C : Ctx} {rec : Nat → List AV → M AV}
variable {n B : Nat} {g g' gF : G} {σ σ' : H} {w w' : World}
def ServesM (P : Program) (f : Nat) (m : List AV → M AV) : Prop :=
  ∀ l σ r σ', m l σ = some (r, σ') → ∀ g w vs, HR g σ w → VRs g l vs → Serves P f vs w (Back g σ w r σ')
theorem Serves.mono {f : Nat} {vs : Array Value} {R R' : Value → World → Prop} (h : Serves P f vs w R) (hr : ∀ v w', R v w' → R' v w') : Serves P f vs w R' := by
  rcases h with ⟨h1, h2⟩ | ⟨v, w', h1, h2⟩
  · refine .inl ⟨h1, h2.mono fun e w' he => ?_⟩
    cases e with
    | returned v => exact hr v w' he
    | panicked c => exact he
    | outgrown => exact he
  · exact .inr ⟨v, w', h1, hr v w' h2⟩
structure Own (g : G) (w : World) (b : AV) (v : Value) (w' : World) (g1 : G) : Prop where
  cell : ∀ b o u, g1.im b o = some u → w'.cell? ⟨b, o, none⟩ = some u
  le : ∀ b o u, g.im b o = some u → g1.im b o = some u
  new : ∀ b o u, g1.im b o = some u → g.im b o = some u ∨ w.heap.size ≤ b
  grow : Grow w w'
  nr : b.noRef = true
  vr : VR g1 b v
theorem VRs.noRef {l : List AV} {vs : Array Value} (him : ∀ b o u, g.im b o = some u → g'.im b o = some u) (hn : AV.noRefs l = true) (h : VRs g l vs) : VRs g' l vs :=
  ⟨h.1, fun j c hj => by
    obtain ⟨u, h1, h2⟩ := h.2 j c hj
    exact ⟨u, h1, h2.noRef him (noRefs_get hn hj)⟩⟩
theorem own_run {f : Nat} {m : List AV → M AV} (hm : ServesM P f m) {l : List AV} {b : AV} {vs : Array Value} (hn : AV.noRefs l = true) (h : ownM (m l) = some b) (hr : HR g σ w) (hv : VRs g l vs) :
    Serves P f vs w fun v w' => ∃ g1, Own g w b v w' g1 := by
  unfold ownM at h
  split at h <;> try (cases h; done)
  rename_i r σ1 hrun
  split at h <;> simp at h
  rename_i b' rs hsn
  subst h
  let g0 : G := { im := g.im, loc := fun _ _ => none }
  have h0 : HR g0 [] w := ⟨hr.im, fun r o h => (by simp at h), fun r r' o o' b h => (by simp at h), fun b ⟨r, o, h, _⟩ => (by simp at h), fun r v p h => (by cases h), fun r o v p h => (by simp at h), hr.tb⟩
  refine (hm l [] r σ1 hrun g0 w vs h0 (VRs.noRef (g := g) (g' := g0) (fun _ _ _ h => h) hn hv)).mono fun v w' ⟨g1, k1, k2, k3⟩ => ?_
  obtain ⟨g2, m1, m2, m3, m4⟩ := HR.frzs rs g1 σ1 k1
  have no0 : ∀ b, ¬ Owned g0 [] b := fun b ⟨r, o, h, _⟩ => by simp at h
  have hst := k2.trans m2 k2.size
  refine ⟨g2, m1.im, fun b o u hu => hst.le.im b o u hu, fun b o u hu => ?_, ⟨k2.size, fun b hb => k2.keep b hb (no0 b), k2.os, k2.tape, k2.output⟩, snapA_noRef 200 r b' rs hsn, snap_VR k1 m2.le.im 200 r b' rs hsn m4 v k3⟩
  rcases hst.imn b o u hu with h1 | h1 | h1
  · exact .inl h1
  · exact absurd h1 (no0 b)
  · exact .inr h1
theorem VR_scalar {a : AV} {v : Value} (h : a.scalar = true) (hv : VR g a v) : VR g' a v := by
  cases a <;> simp [AV.scalar] at h
  · rw [VR_bool] at *; exact hv
  · rw [VR_int] at *; exact hv
  · rw [VR_str] at *; exact hv
theorem VR_scalars {a : AV} {v : Value} (h : a.scalars = true) (hv : VR g a v) : VR g' a v := by
  cases a
  case tup vs =>
    simp only [AV.scalars, List.all_eq_true] at h
    obtain ⟨us, rfl, h1, h2⟩ := VR_tup.1 hv
    refine VR_tup.2 ⟨us, rfl, h1, fun j c hj => ?_⟩
    obtain ⟨u, h3, h4⟩ := h2 j c hj
    exact ⟨u, h3, VR_scalar (h c (List.mem_of_getElem? hj)) h4⟩
  all_goals exact VR_scalar (by simpa [AV.scalars] using h) hv
theorem snapL_VRs {l l' : List AV} {rs : List Nat} {vs : Array Value} (hr : HR g σ w) (him : ∀ b o u, g.im b o = some u → gF.im b o = some u) (h : snapL σ l = some (l', rs)) (hl : ∀ r ∈ rs, Laid g gF σ w r) (hv : VRs g l vs) : VRs gF l' vs := by
  obtain ⟨h1, h2⟩ := mapO2_get h
  refine ⟨by rw [h1]; exact hv.1, fun j c' hj => ?_⟩
  obtain ⟨c, rs', h3, h4, h5⟩ := h2 j c' hj
  obtain ⟨u, h6, h7⟩ := hv.2 j c h3
  exact ⟨u, h6, snap_VR hr him 200 c c' rs' h4 (fun r hr => hl r (h5 r hr)) u h7⟩
theorem Own.back {b : AV} {v : Value} {g1 : G} (h : Own g w b v w' g1) (hr : HR g σ w) : ∃ g', HR g' σ w' ∧ Step w.heap.size g σ w g' σ w' ∧ VR g' b v := by
  let g' : G := { im := g1.im, loc := g.loc }
  obtain ⟨h1, h2⟩ := hr.grow (g' := g') (w' := w') ⟨h.le, fun _ _ _ h => h⟩ rfl h.grow fun b o u hu => (h.new b o u hu).imp id fun hb => ⟨hb, h.cell b o u hu⟩
  exact ⟨g', h1, h2, VR.noRef (g := g1) (g' := g') (fun _ _ _ h => h) h.nr h.vr⟩
theorem Own.backS {b : AV} {v : Value} {g0 g1 : G} (h : Own g0 w b v w' g1) (hs : b.scalars = true) (hr : HR g σ w) : ∃ g', HR g' σ w' ∧ Step w.heap.size g σ w g' σ w' ∧ VR g' b v := by
  obtain ⟨h1, h2⟩ := hr.grow (g' := g) (w' := w') (.refl g) rfl h.grow fun b o u hu => .inl hu
  exact ⟨g, h1, h2, VR_scalars hs h.vr⟩
theorem isoM_serves {f : Nat} {m : List AV → M AV} (hm : ServesM P f m) : ServesM P f fun args => isoM args m := by
  intro l σ r σ' h g w vs hr hv
  simp only [isoM] at h
  split at h
  · rename_i hn
    split at h <;> simp at h
    rename_i b hb
    obtain ⟨rfl, rfl⟩ := h
    exact (own_run hm hn hb hr hv).mono fun v w' ⟨g1, ho⟩ => ho.back hr
  · split at h
    · rename_i l' rs hsn
      split at h <;> simp at h
      rename_i b hb
      obtain ⟨rfl, rfl⟩ := h
      obtain ⟨gz, k1, k2, k3, k4⟩ := HR.frzs rs g σ hr
      have hv' := snapL_VRs hr k2.le.im hsn k4 hv
      have hn' : AV.noRefs l' = true := mapO2_noRef (fun a b rs h => snapA_noRef 200 a b rs h) hsn
      refine (own_run hm hn' hb k1 hv').mono fun v w' ⟨g1, ho⟩ => ?_
      cases hs : b.scalars with
      | true => exact ho.backS hs hr
      | false =>
        obtain ⟨g', m1, m2, m3⟩ := ho.back k1
        exact ⟨g', m1, k2.trans m2 (Nat.le_refl _), m3⟩
    · unfold snapM at h
      split at h <;> try (cases h; done)
      rename_i r1 σ1 hrun
      split at h <;> simp at h
      rename_i b rs hsn
      obtain ⟨rfl, rfl⟩ := h
      refine (hm l σ r1 σ1 hrun g w vs hr hv).mono fun v w' ⟨g1, k1, k2, k3⟩ => ?_
      obtain ⟨g2, m1, m2, m3, m4⟩ := HR.frzs rs g1 σ1 k1
      exact ⟨g2, m1, k2.trans m2 k2.size, snap_VR k1 m2.le.im 200 r1 b rs hsn m4 v k3⟩
end Go.Am
/-! ## part Alt -/
/- The abstract machine and the model: a function whose first region holds two operations in no order: as if they stood in the one order, and as if in the other. -/
namespace Go.Am
open Go
variable {P : Program} {C : Ctx} {rec : Nat → List AV → M AV} {hp ip : List Nat} {Q : Exit → Act → World → Prop}
def plainOp : Op → Bool
  | .makeMap _ none => true
  | .insert .. => true
  | .mapUpdate .. => true
  | .build .. => true
  | .move _ => true
  | .assign _ => true
  | _ => false
theorem execOp_plain {ρ : Operand → Value} {o : Oper} {w w' : World} {x : Go.Next} (hp : plainOp o.op = true) (h : (execOp ρ o).run P w = .ok x w') : (∃ v, x = .value v) ∨ x = .skip := by
  have hv : ∀ s : Sem Value, (do pure (.value (← s)) : Sem Go.Next).run P w = .ok x w' → ∃ v, x = .value v := by
    intro s h
    simp only [Sem.run_bind] at h
    cases hs : s.run P w with
    | ok v w1 => rw [hs] at h; simp at h; exact ⟨v, h.1.symm⟩
    | halt y w1 => rw [hs] at h; simp at h
  have hu : ∀ s : Sem Unit, (do s; pure .skip : Sem Go.Next).run P w = .ok x w' → x = .skip := by
    intro s h
    simp only [Sem.run_bind] at h
    cases hs : s.run P w with
    | ok v w1 => rw [hs] at h; simp at h; exact h.1.symm
    | halt y w1 => rw [hs] at h; simp at h
  obtain ⟨dst, op, ty, pos, after, guard⟩ := o
  cases op <;> simp only [plainOp, Bool.false_eq_true] at hp
  case move y => simp [execOp] at h; exact .inl ⟨_, h.1.symm⟩
  case assign y => simp [execOp] at h; exact .inl ⟨_, h.1.symm⟩
  case build => exact .inl (hv _ h)
  case makeMap t r => exact .inl (hv _ h)
  case mapUpdate => exact .inr (hu _ h)
  case insert => exact .inr (hu _ h)
theorem wp_and {o : Oper} {a : Act} {w : World} {K L : Act → World → Prop} (hp : plainOp o.op = true) (h : o.wp P a w K Q) (k : o.wp P a w L Q) : o.wp P a w (fun a w => K a w ∧ L a w) Q := by
  unfold Oper.wp at *
  have hx := fun x w' => execOp_plain (P := P) (ρ := a.eval) (o := o) (w := w) (w' := w') (x := x) hp
  generalize (execOp a.eval o).run P w = r at *
  cases r with
  | ok x w' =>
    rcases hx x w' rfl with ⟨v, rfl⟩ | rfl
    · exact ⟨h, k⟩
    · exact ⟨h, k⟩
  | halt y w' => cases y <;> exact h
theorem wpOp_and {ops : Array Oper} {i : Nat} {a : Act} {w : World} {K L : Act → World → Prop} (hp : ∀ o, ops[i]? = some o → plainOp o.op = true) (h : wpOp P ops Q i K a w) (k : wpOp P ops Q i L a w) : wpOp P ops Q i (fun a w => K a w ∧ L a w) a w := by
  unfold wpOp at *
  cases ho : ops[i]? with
  | none => rw [ho] at h k; exact ⟨h, k⟩
  | some o =>
    rw [ho] at h k
    simp only at h k ⊢
    split
    · rename_i hw
      rw [if_pos hw] at h k
      rcases h with h | h
      · rcases k with k | k
        · exact .inl (wp_and (hp o ho) h k)
        · exact .inr k
      · exact .inr h
    · rename_i hw
      rw [if_neg hw] at h k
      exact ⟨h, k⟩
def moreAt (i : Nat) : Nat → List Oper → List Oper
  | _, [] => []
  | 0, o :: l => { o with after := o.after.push ⟨i, .data⟩ } :: l
  | j + 1, o :: l => o :: moreAt i j l
def more (i j : Nat) (ops : Array Oper) : Array Oper := (moreAt i j ops.toList).toArray
theorem moreAt_len (i : Nat) : ∀ (j : Nat) (l : List Oper), (moreAt i j l).length = l.length
  | _, [] => by cases ‹Nat› <;> rfl
  | 0, o :: l => rfl
  | j + 1, o :: l => by simp [moreAt, moreAt_len i j l]
theorem moreAt_get (i : Nat) : ∀ (j : Nat) (l : List Oper) (k : Nat), (moreAt i j l)[k]? = (l[k]?).map fun o => if k = j then { o with after := o.after.push ⟨i, .data⟩ } else o
  | j, [], k => by cases j <;> simp [moreAt]
  | 0, o :: l, 0 => by simp [moreAt]
  | 0, o :: l, k + 1 => by simp [moreAt]
  | j + 1, o :: l, 0 => by simp [moreAt]
  | j + 1, o :: l, k + 1 => by simp [moreAt, moreAt_get i j l k]
theorem more_size {i j : Nat} {ops : Array Oper} : (more i j ops).size = ops.size := by simp [more, moreAt_len]
theorem more_get {i j k : Nat} {ops : Array Oper} : (more i j ops)[k]? = (ops[k]?).map fun o => if k = j then { o with after := o.after.push ⟨i, .data⟩ } else o := by
  simp [more, moreAt_get]
theorem more_yielded {i j : Nat} {ops : Array Oper} {tmps : Array Value} : yielded (more i j ops) tmps = yielded ops tmps := by
  funext k
  unfold yielded
  rw [more_get]
  cases ops[k]? with
  | none => rfl
  | some o => by_cases h : k = j <;> simp [h]
theorem wpOp_more {i j k : Nat} {ops : Array Oper} {a : Act} {w : World} {K : Act → World → Prop} (h : wpOp P (more i j ops) Q k K a w) : wpOp P ops Q k K a w := by
  unfold wpOp at *
  rw [more_get] at h
  cases ho : ops[k]? with
  | none => rw [ho] at h; exact h
  | some o =>
    rw [ho] at h
    simp only [Option.map_some, more_yielded] at h ⊢
    split at h
    · exact h
    · exact h
theorem ready_more {i j : Nat} {ops : Array Oper} {l : Array Bool} (h : Lst l i = true) : Region.ready .any (more i j ops) l = Region.ready .any ops l := by
  unfold Region.ready
  rw [more_size]
  congr 1
  funext k
  rw [more_get]
  cases ops[k]? with
  | none => rfl
  | some o =>
    simp only [Option.map_some, Option.getD_some]
    split
    · have h : l.getD i false = true := h
      simp only [Array.all_push, h, Bool.or_true, Bool.and_true]
    · rfl
theorem ready_more_ne {i j k : Nat} {ops : Array Oper} {l : Array Bool} (hk : k ≠ j) (h : k ∈ Region.ready .any ops l) : k ∈ Region.ready .any (more i j ops) l := by
  unfold Region.ready at *
  rw [more_size]
  rw [List.mem_filter] at *
  refine ⟨h.1, ?_⟩
  rw [more_get]
  have := h.2
  cases ho : ops[k]? with
  | none => rw [ho] at this; exact this
  | some o => rw [ho] at this; simpa [hk] using this
theorem ready_more_sub {i j k : Nat} {ops : Array Oper} {l : Array Bool} (h : k ∈ Region.ready .any (more i j ops) l) : k ∈ Region.ready .any ops l := by
  unfold Region.ready at *
  rw [more_size] at h
  rw [List.mem_filter] at *
  refine ⟨h.1, ?_⟩
  have := h.2
  rw [more_get] at this
  cases ho : ops[k]? with
  | none => rw [ho] at this; exact this
  | some o =>
    rw [ho] at this
    simp only [Option.map_some, Option.getD_some] at this ⊢
    split at this
    · simp only [Array.all_push, Bool.and_eq_true] at this ⊢
      exact ⟨this.1, this.2.1⟩
    · exact this
theorem ready_more_nil {i j : Nat} {ops : Array Oper} {l : Array Bool} (h : Region.ready .any ops l = []) : Region.ready .any (more i j ops) l = [] := by
  cases hr : Region.ready .any (more i j ops) l with
  | nil => rfl
  | cons k t =>
    have := ready_more_sub (i := i) (j := j) (k := k) (ops := ops) (l := l) (by rw [hr]; simp)
    rw [h] at this; cases this
theorem wpAny_less {i j : Nat} {ops : Array Oper} : ∀ (fuel : Nat) (l : Array Bool) (a : Act) (w : World), Lst l i = true → l.size = ops.size → wpAny P .any (more i j ops) Q fuel l a w → wpAny P .any ops Q fuel l a w
  | 0, l, a, w, hi, hl, h => ⟨by rw [← ready_more hi]; exact h.1, h.2⟩
  | fuel + 1, l, a, w, hi, hl, h => by
    refine ⟨fun h0 => h.1 (by rw [ready_more hi]; exact h0), fun k hk => ?_⟩
    have h1 := wpOp_more (h.2 k (by rw [ready_more hi]; exact hk))
    have hk' : k < l.size := by
      unfold Region.ready at hk
      rw [List.mem_filter, List.mem_range] at hk
      omega
    refine wpOp_mono (fun a' w' h' => wpAny_less fuel _ a' w' ?_ (by simpa using hl) h') h1
    rw [Lst_set hk']
    exact also_old hi
theorem wpAny_two {i j : Nat} {ops : Array Oper} (hij : i ≠ j) (hp : ∀ (k : Nat) o, ops[k]? = some o → k ≠ i → k ≠ j → plainOp o.op = true) : ∀ (fuel : Nat) (l : Array Bool) (a : Act) (w : World), l.size = ops.size →
    wpAny P .any (more i j ops) Q fuel l a w → wpAny P .any (more j i ops) Q fuel l a w → wpAny P .any ops Q fuel l a w
  | 0, l, a, w, hl, h, k => by
    refine ⟨?_, h.2⟩
    cases hr : Region.ready .any ops l with
    | nil => rfl
    | cons x t =>
      have hx : x ∈ Region.ready .any ops l := by rw [hr]; simp
      by_cases hxj : x = j
      · have := ready_more_ne (i := j) (j := i) (by omega) hx
        rw [k.1] at this; cases this
      · have := ready_more_ne (i := i) (j := j) hxj hx
        rw [h.1] at this; cases this
  | fuel + 1, l, a, w, hl, h, k => by
    refine ⟨fun h0 => h.1 (ready_more_nil h0), fun x hx => ?_⟩
    have hx' : x < l.size := by
      have hx := hx
      unfold Region.ready at hx
      rw [List.mem_filter, List.mem_range] at hx
      omega
    by_cases hxi : x = i
    · subst hxi
      refine wpOp_mono (fun a' w' h' => wpAny_less fuel _ a' w' ?_ (by simpa using hl) h') (wpOp_more (h.2 x (ready_more_ne hij hx)))
      rw [Lst_set hx']
      exact also_self _ _
    · by_cases hxj : x = j
      · subst hxj
        refine wpOp_mono (fun a' w' h' => wpAny_less fuel _ a' w' ?_ (by simpa using hl) h') (wpOp_more (k.2 x (ready_more_ne hxi hx)))
        rw [Lst_set hx']
        exact also_self _ _
      · refine wpOp_mono (fun a' w' h' => wpAny_two hij hp fuel _ a' w' (by simpa using hl) h'.1 h'.2) (wpOp_and (fun o ho => hp x o ho hxi hxj) (wpOp_more (h.2 x (ready_more_ne hxj hx))) (wpOp_more (k.2 x (ready_more_ne hxi hx))))
theorem pigeon : ∀ (n : Nat) (f : Nat → Nat), (∀ k, k < n → f k < n) → (∀ a b, a < n → b < n → f a = f b → a = b) → ∀ x, x < n → (∀ k, k < n → f k ≠ x) → False
  | 0, _, _, _, x, hx, _ => by omega
  | n + 1, f, hf, hi, x, hx, hno => by
    -- out of the way with what n is led to
    let g : Nat → Nat := fun k => if f k = n then x else f k
    by_cases hxn : x = n
    · subst hxn
      have h1 : ∀ k, k < x → f k < x := fun k hk => by
        have := hf k (by omega); have := hno k (by omega); omega
      have h2 := hf x (by omega)
      have h3 := hno x (by omega)
      exact pigeon x f h1 (fun a b ha hb => hi a b (by omega) (by omega)) (f x) (by omega) fun k hk e => by
        have := hi k x (by omega) (by omega) e; omega
    · have hg : ∀ k, k < n + 1 → g k < n := fun k hk => by
        show (if f k = n then x else f k) < n
        split
        · omega
        · have := hf k hk; omega
      have hgi : ∀ a b, a < n + 1 → b < n + 1 → g a = g b → a = b := fun a b ha hb e => by
        have e : (if f a = n then x else f a) = (if f b = n then x else f b) := e
        split at e <;> split at e
        · exact hi a b ha hb (by omega)
        · exact absurd e.symm (hno b hb)
        · exact absurd e (hno a ha)
        · exact hi a b ha hb e
      exact pigeon n g (fun k hk => hg k (by omega)) (fun a b ha hb => hgi a b (by omega) (by omega)) (g n) (hg n (by omega)) fun k hk e => by
        have := hgi k n (by omega) (by omega) e; omega
/-! ### the same operations, told in another order -/
def seat (k : Nat) : Nat → List Nat → Nat
  | _, [] => k
  | p, x :: l => if Nat.beq x k = true then p else seat k (p + 1) l
def renE (ps : List Nat) (e : Edge) : Edge := { e with on := seat e.on 0 ps }
def renO (ps : List Nat) (o : Oper) : Oper := { o with after := o.after.map (renE ps), guard := o.guard.map fun g => (seat g.1 0 ps, g.2) }
def permO (ps : List Nat) (ops : Array Oper) : Array Oper := (ps.map fun k => renO ps (ops.getD k default)).toArray
def permOk (ps : List Nat) (n : Nat) : Bool := Nat.beq ps.length n && (List.range n).all fun k => Nat.blt (seat k 0 ps) n && (match ps[seat k 0 ps]? with | some x => Nat.beq x k | none => false)
def inOk (ops : Array Oper) : Bool := ops.toList.all fun o => (o.after.toList.all fun e => Nat.blt e.on ops.size) && (match o.guard with | some g => Nat.blt g.1 ops.size | none => true)
variable {ps : List Nat} {ops : Array Oper}
theorem permOk_get (h : permOk ps ops.size = true) {k : Nat} (hk : k < ops.size) : seat k 0 ps < ops.size ∧ ps[seat k 0 ps]? = some k := by
  simp only [permOk, Bool.and_eq_true, List.all_eq_true, List.mem_range] at h
  obtain ⟨h1, h2⟩ := h.2 k hk
  refine ⟨by simpa [Nat.blt_eq] using h1, ?_⟩
  split at h2
  · rename_i x hx; rw [hx, Nat.eq_of_beq_eq_true h2]
  · cases h2
theorem permO_size (h : permOk ps ops.size = true) : (permO ps ops).size = ops.size := by
  simp only [permOk, Bool.and_eq_true] at h
  simp [permO, Nat.eq_of_beq_eq_true h.1]
theorem permO_get (h : permOk ps ops.size = true) {k : Nat} {o : Oper} (ho : ops[k]? = some o) : (permO ps ops)[seat k 0 ps]? = some (renO ps o) := by
  have hk := (Array.getElem?_eq_some_iff.1 ho).1
  obtain ⟨h1, h2⟩ := permOk_get h hk
  simp [permO, h2, ho]
def Alk (ps : List Nat) (n : Nat) (l l' : Array Bool) : Prop := l.size = n ∧ l'.size = n ∧ ∀ k, k < n → Lst l' (seat k 0 ps) = Lst l k
theorem getD_tf {l : Array Bool} {k : Nat} (h : k < l.size) : l.getD k true = Lst l k := by
  simp [Lst, Array.getD, h]
theorem inOk_at (h : inOk ops = true) {k : Nat} {o : Oper} (ho : ops[k]? = some o) : (∀ e ∈ o.after, e.on < ops.size) ∧ ∀ g, o.guard = some g → g.1 < ops.size := by
  simp only [inOk, List.all_eq_true, Bool.and_eq_true] at h
  have hm : o ∈ ops.toList := by
    obtain ⟨hk, rfl⟩ := Array.getElem?_eq_some_iff.1 ho
    simp
  obtain ⟨h1, h2⟩ := h o hm
  refine ⟨fun e he => by simpa [Nat.blt_eq] using h1 e (by simpa using he), fun g hg => ?_⟩
  rw [hg] at h2
  simpa [Nat.blt_eq] using h2
theorem perm_ready (h : permOk ps ops.size = true) (hin : inOk ops = true) {l l' : Array Bool} (ha : Alk ps ops.size l l') {k : Nat} (hk : k ∈ Region.ready .any ops l) : seat k 0 ps ∈ Region.ready .any (permO ps ops) l' := by
  obtain ⟨s1, s2, s3⟩ := ha
  unfold Region.ready at *
  rw [List.mem_filter, List.mem_range] at *
  obtain ⟨hk1, hk2⟩ := hk
  obtain ⟨h1, h2⟩ := permOk_get h hk1
  obtain ⟨o, ho⟩ : ∃ o, ops[k]? = some o := ⟨_, Array.getElem?_eq_getElem hk1⟩
  rw [permO_size h]
  refine ⟨h1, ?_⟩
  rw [ho] at hk2
  rw [permO_get h ho, getD_tf (by omega), s3 k hk1]
  rw [getD_tf (by omega)] at hk2
  simp only [Bool.and_eq_true, Option.map_some, Option.getD_some] at hk2 ⊢
  refine ⟨hk2.1, ?_⟩
  have hk3 := hk2.2
  rw [Array.all_eq_true_iff_forall_mem] at hk3 ⊢
  intro e' he'
  simp only [renO, Array.mem_map] at he'
  obtain ⟨e, he, rfl⟩ := he'
  have := hk3 e he
  simp only [Bool.or_eq_true, Bool.not_eq_true'] at this ⊢
  rcases this with h | h
  · left
    have : Region.binds .any (renE ps e) = Region.binds .any e := by cases hg : e.ground <;> simp [Region.binds, renE, hg]
    rw [this]; exact h
  · right
    have := s3 e.on ((inOk_at hin ho).1 e he)
    exact this.trans h
theorem perm_onto (h : permOk ps ops.size = true) (x : Nat) (hx : x < ops.size) : ∃ k, k < ops.size ∧ seat k 0 ps = x := by
  have hlen : ps.length = ops.size := by simp only [permOk, Bool.and_eq_true] at h; exact Nat.eq_of_beq_eq_true h.1
  have hinj : ∀ a b, a < ops.size → b < ops.size → seat a 0 ps = seat b 0 ps → a = b := fun a b ha hb e => by
    have h1 := (permOk_get h ha).2
    have h2 := (permOk_get h hb).2
    rw [e, h2] at h1
    exact (Option.some.inj h1).symm
  apply Classical.byContradiction
  intro hno
  have hno' : ∀ k, k < ops.size → seat k 0 ps ≠ x := fun k hk e => hno ⟨k, hk, e⟩
  exact pigeon ops.size (fun k => seat k 0 ps) (fun k hk => (permOk_get h hk).1) hinj x hx hno'
theorem perm_sub (h : permOk ps ops.size = true) (hin : inOk ops = true) {l l' : Array Bool} (ha : Alk ps ops.size l l') (hr : Region.ready .any ops l = []) : Region.ready .any (permO ps ops) l' = [] := by
  obtain ⟨s1, s2, s3⟩ := ha
  cases hr' : Region.ready .any (permO ps ops) l' with
  | nil => rfl
  | cons x t =>
    exfalso
    have hx : x ∈ Region.ready .any (permO ps ops) l' := by rw [hr']; simp
    have hlen : ps.length = ops.size := by simp only [permOk, Bool.and_eq_true] at h; exact Nat.eq_of_beq_eq_true h.1
    unfold Region.ready at hx
    rw [List.mem_filter, List.mem_range, permO_size h] at hx
    obtain ⟨hx1, hx2⟩ := hx
    obtain ⟨k, hk, hkx⟩ : ∃ k, k < ops.size ∧ seat k 0 ps = x := perm_onto h x hx1
    obtain ⟨o, ho⟩ : ∃ o, ops[k]? = some o := ⟨_, Array.getElem?_eq_getElem hk⟩
    subst hkx
    rw [permO_get h ho, getD_tf (by omega), s3 k hk] at hx2
    simp only [Bool.and_eq_true, Option.map_some, Option.getD_some] at hx2
    have : k ∈ Region.ready .any ops l := by
      unfold Region.ready
      rw [List.mem_filter, List.mem_range]
      refine ⟨hk, ?_⟩
      rw [ho, getD_tf (by omega)]
      simp only [Bool.and_eq_true, Option.map_some, Option.getD_some]
      refine ⟨hx2.1, ?_⟩
      have hx3 := hx2.2
      rw [Array.all_eq_true_iff_forall_mem] at hx3 ⊢
      intro e he
      have := hx3 (renE ps e) (by simp only [renO, Array.mem_map]; exact ⟨e, he, rfl⟩)
      simp only [Bool.or_eq_true, Bool.not_eq_true'] at this ⊢
      rcases this with h' | h'
      · left
        have : Region.binds .any (renE ps e) = Region.binds .any e := by cases hg : e.ground <;> simp [Region.binds, renE, hg]
        rw [← this]; exact h'
      · right
        have := s3 e.on ((inOk_at hin ho).1 e he)
        exact this.symm.trans h'
    rw [hr] at this; cases this
theorem perm_yielded (h : permOk ps ops.size = true) {tmps : Array Value} {j : Nat} (hj : j < ops.size) : yielded (permO ps ops) tmps (seat j 0 ps) = yielded ops tmps j := by
  obtain ⟨o, ho⟩ : ∃ o, ops[j]? = some o := ⟨_, Array.getElem?_eq_getElem hj⟩
  unfold yielded
  rw [permO_get h ho, ho]
  rfl
theorem wpOp_perm (h : permOk ps ops.size = true) (hin : inOk ops = true) {k : Nat} (hk : k < ops.size) {a : Act} {w : World} {K : Act → World → Prop} (hw : wpOp P (permO ps ops) Q (seat k 0 ps) K a w) : wpOp P ops Q k K a w := by
  obtain ⟨o, ho⟩ : ∃ o, ops[k]? = some o := ⟨_, Array.getElem?_eq_getElem hk⟩
  unfold wpOp at *
  rw [permO_get h ho] at hw
  rw [ho]
  simp only at hw ⊢
  have hwant : Region.wanted (renO ps o) (yielded (permO ps ops) a.tmps) = Region.wanted o (yielded ops a.tmps) := by
    unfold Region.wanted
    cases hg : o.guard with
    | none => simp [renO, hg]
    | some g => simp [renO, hg, perm_yielded h ((inOk_at hin ho).2 g hg)]
  rw [hwant] at hw
  exact hw
theorem wpAny_perm (h : permOk ps ops.size = true) (hin : inOk ops = true) : ∀ (fuel : Nat) (l l' : Array Bool) (a : Act) (w : World), Alk ps ops.size l l' → wpAny P .any (permO ps ops) Q fuel l' a w → wpAny P .any ops Q fuel l a w
  | 0, l, l', a, w, ha, hw => by
    refine ⟨?_, hw.2⟩
    cases hr : Region.ready .any ops l with
    | nil => rfl
    | cons x t =>
      have := perm_ready h hin ha (k := x) (by rw [hr]; simp)
      rw [hw.1] at this; cases this
  | fuel + 1, l, l', a, w, ha, hw => by
    refine ⟨fun h0 => hw.1 (perm_sub h hin ha h0), fun k hk => ?_⟩
    have hk1 : k < ops.size := by
      unfold Region.ready at hk
      rw [List.mem_filter, List.mem_range] at hk
      exact hk.1
    refine wpOp_mono (fun a' w' h' => wpAny_perm h hin fuel _ _ a' w' ?_ h') (wpOp_perm h hin hk1 (hw.2 _ (perm_ready h hin ha hk)))
    obtain ⟨s1, s2, s3⟩ := ha
    refine ⟨by simpa using s1, by simpa using s2, fun x hx => ?_⟩
    have hs := (permOk_get h hk1).1
    rw [Lst_set (by omega), Lst_set (by omega)]
    by_cases e : x = k
    · subst e; rw [also_self, also_self]
    · have hne : seat x 0 ps ≠ seat k 0 ps := fun h' => e (by
        have h1 := (permOk_get h hx).2
        have h2 := (permOk_get h hk1).2
        rw [h', h2] at h1
        exact (Option.some.inj h1).symm)
      rw [also_ne hne, also_ne e]
      exact s3 x hx
def alterC (h : Array Oper → Array Oper) : Code → Code
  | .seq a b => .seq (alterC h a) b
  | .region id ops true => .region id (h ops) true
  | c => c
def plainC (i j : Nat) (ps : List Nat) : Code → Bool
  | .seq a _ => plainC i j ps a
  | .region _ ops true => !Nat.beq i j && permOk ps ops.size && inOk (more j i ops) && (List.range ops.size).all fun k => Nat.beq k i || Nat.beq k j || (match ops[k]? with | some o => plainOp o.op | none => true)
  | _ => false
variable {n B : Nat} {g : G} {σ σ1 σ2 : H} {fr fr1 fr2 : Fr} {w : World} {a : Act} {e1 e2 : Ext}
theorem drw_any (ht : Tys P C) (hrec : CallOK P rec) (hind : RecInd rec) {k : Nat} {ac : ACode} {ops : Array Oper} {id : Nat} {ext : Ext} {fr' : Fr} {σ' : H} (h : den C rec hp ip k ac fr σ = some ((ext, fr'), σ')) (hs : skA ac = skC (.region id ops true)) (hok : okA n ac = true)
    (hh : HR g σ w) (hf : FR B g σ fr a w) (hB : B ≤ w.heap.size) (hsz : a.tmps.size = n) (hk : ∀ a' w', To n B g σ w σ' fr' a' w' → Q (exitOf ext) a' w') : wpAny P .any ops Q ops.size (Array.replicate ops.size false) a { w with drawn := w.drawn + 1 } := by
  cases ac <;> simp only [skA, skC, reduceCtorEq, Skel.drw.injEq] at hs
  · rename_i sd D E
    simp only [den] at h
    obtain ⟨fr1, σ1, h1, h2⟩ := bindM_eq h
    obtain ⟨fr2, σ2, h2, h3⟩ := bindM_eq h2
    obtain ⟨he, rfl⟩ := pureM_eq h3
    cases he
    have hMD : MatchD ops (D ++ E) := by
      refine ⟨?_, fun i d hd => ?_⟩
      · have := congrArg List.length hs
        simp at this
        simp [this]
      · have := congrArg (fun l => l[i]?) hs
        simp only [List.getElem?_map, hd, Option.map_some] at this
        cases ho : ops.toList[i]? with
        | none => rw [ho] at this; cases this
        | some o =>
          rw [ho] at this
          simp only [Option.map_some, Option.some.injEq, Prod.mk.injEq] at this
          obtain ⟨k1, k2, k3⟩ := this
          exact ⟨o, by simpa using ho, by rw [k1]; rfl, by rw [k1]; rfl, k2.symm, k3.symm⟩
    simp only [okA, Bool.or_eq_true] at hok
    rcases hok with hok | hok
    · exact runD_any ht hrec hind hMD hok h1 h2 hh hf hB hsz hk
    · exact runFr_any ht hrec hind hMD hok h1 h2 hh hf hB hsz hk
  · rename_i keep D
    simp only [den] at h
    obtain ⟨fr1, σ1, h1, h3⟩ := bindM_eq h
    obtain ⟨he, rfl⟩ := pureM_eq h3
    cases he
    refine allR_any ht hrec ⟨?_, fun i d hd => ?_⟩ hok h1 hh hf hB hsz hk
    · have := congrArg List.length hs
      simp at this
      simp [this]
    · have := congrArg (fun l => l[i]?) hs
      simp only [List.getElem?_map, hd, Option.map_some] at this
      cases ho : ops.toList[i]? with
      | none => rw [ho] at this; cases this
      | some o =>
        rw [ho] at this
        simp only [Option.map_some, Option.some.injEq, Prod.mk.injEq] at this
        obtain ⟨k1, k2, k3⟩ := this
        exact ⟨o, by simpa using ho, by rw [k1]; rfl, by rw [k1]; rfl, k2.symm, k3.symm⟩
theorem den_two (ht : Tys P C) (hrec : CallOK P rec) (hback : ∀ f te, look f C.back = some te → BackOK P C f te) (hind : RecInd rec) (hmix : P.follows .mixedOrders = true) (k : Nat) {i j : Nat} {ps : List Nat} :
    ∀ (c : Code) (xa xb : ACode) (hpa ipa hpb ipb : List Nat) (σ1 σ2 : H) (fr1 fr2 : Fr) (e1 e2 : Ext) (Q : Exit → Act → World → Prop), plainC i j ps c = true → den C rec hpa ipa k xa fr σ = some ((e1, fr1), σ1) → den C rec hpb ipb k xb fr σ = some ((e2, fr2), σ2) →
    skA xa = skC (alterC (more i j) c) → skA xb = skC (alterC (fun o => permO ps (more j i o)) c) → okA n xa = true → okA n xb = true → HR g σ w → FR B g σ fr a w → B ≤ w.heap.size → a.tmps.size = n →
    (∀ a' w', To n B g σ w σ1 fr1 a' w' → Q (exitOf e1) a' w') → (∀ a' w', To n B g σ w σ2 fr2 a' w' → Q (exitOf e2) a' w') → c.wp P Q a w := by
  intro c
  induction c with
  | seq cx cy ihx _ =>
    intro xa xb hpa ipa hpb ipb σ1 σ2 fr1 fr2 e1 e2 Q hpl h1 h2 s1 s2 o1 o2 hh hf hB hsz k1 k2
    simp only [alterC] at s1 s2
    cases xa <;> simp only [skA, skC] at s1 <;> try (cases s1; done)
    cases xb <;> simp only [skA, skC] at s2 <;> try (cases s2; done)
    rename_i a1 b1 a2 b2
    simp only [Skel.seq.injEq] at s1 s2
    simp only [okA, Bool.and_eq_true] at o1 o2
    simp only [den] at h1 h2
    obtain ⟨⟨f1, fm1⟩, τ1, p1, p2⟩ := bindM_eq h1
    obtain ⟨⟨f2, fm2⟩, τ2, q1, q2⟩ := bindM_eq h2
    apply wp_seq
    refine ihx a1 a2 hpa ipa hpb ipb τ1 τ2 fm1 fm2 f1 f2 _ hpl p1 q1 s1.1 s2.1 o1.1 o2.1 hh hf hB hsz (fun a' w' hto => ?_) (fun a' w' hto => ?_)
    · cases f1 with
      | nrm =>
        obtain ⟨g1, r1, r2, r3, r4⟩ := hto
        exact den_to ht hrec hback hind hmix k b1 cy g1 fm1 fr1 τ1 σ1 a' w' e1 Q p2 s1.2 o1.2 r1 r2 (Nat.le_trans hB r3.size) r4 fun a2 w2 hto2 => k1 a2 w2 (.from r3 hto2)
      | ex id =>
        obtain ⟨he, rfl⟩ := pureM_eq p2
        cases he
        exact k1 a' w' hto
      | ret =>
        obtain ⟨he, rfl⟩ := pureM_eq p2
        cases he
        exact k1 a' w' hto
    · cases f2 with
      | nrm =>
        obtain ⟨g1, r1, r2, r3, r4⟩ := hto
        exact den_to ht hrec hback hind hmix k b2 cy g1 fm2 fr2 τ2 σ2 a' w' e2 Q q2 s2.2 o2.2 r1 r2 (Nat.le_trans hB r3.size) r4 fun a2 w2 hto2 => k2 a2 w2 (.from r3 hto2)
      | ex id =>
        obtain ⟨he, rfl⟩ := pureM_eq q2
        cases he
        exact k2 a' w' hto
      | ret =>
        obtain ⟨he, rfl⟩ := pureM_eq q2
        cases he
        exact k2 a' w' hto
  | region id ops dr =>
    intro xa xb hpa ipa hpb ipb σ1 σ2 fr1 fr2 e1 e2 Q hpl h1 h2 s1 s2 o1 o2 hh hf hB hsz k1 k2
    cases dr with
    | false => simp [plainC] at hpl
    | true =>
      simp only [alterC] at s1 s2
      simp only [plainC, Bool.and_eq_true, List.all_eq_true, List.mem_range, Bool.not_eq_true', Bool.or_eq_true] at hpl
      obtain ⟨⟨⟨hij, hpm⟩, hin⟩, hpl⟩ := hpl
      have hpm' : permOk ps (more j i ops).size = true := by rw [more_size]; exact hpm
      refine wp_region_any hmix (wpAny_two (i := i) (j := j) (fun h => by subst h; simp at hij) (fun x o ho hxi hxj => ?_) _ _ _ _ (by simp) ?_ ?_)
      · have := hpl x (Array.getElem?_eq_some_iff.1 ho).1
        rw [ho] at this
        rcases this with (h | h) | h
        · exact absurd (Nat.eq_of_beq_eq_true h) hxi
        · exact absurd (Nat.eq_of_beq_eq_true h) hxj
        · exact h
      · have := drw_any ht hrec hind h1 s1 o1 hh hf hB hsz k1
        rw [more_size] at this; exact this
      · have := drw_any ht hrec hind h2 s2 o2 hh hf hB hsz k2
        rw [permO_size hpm', more_size] at this
        refine wpAny_perm hpm' hin _ _ _ _ _ ⟨by simp [more_size], by simp [more_size], fun x hx => ?_⟩ this
        rw [more_size] at hx
        have := (permOk_get hpm' (by rw [more_size]; exact hx)).1
        rw [more_size] at this
        simp [Lst, hx, this]
  | _ => intro xa xb hpa ipa hpb ipb σ1 σ2 fr1 fr2 e1 e2 Q hpl; simp [plainC] at hpl
structure AltOK (P : Program) (f : Nat) (fa fb : FnI) : Prop where
  fn : ∃ fn k0 k1 i j ps c0 ca cb, P.funcs[f]? = some fn ∧ fn.body = some (.seq k0 k1) ∧ (fn.name == "runtime.NumGoroutine") = false ∧ fn.ntmps = fa.nt ∧ fn.results.toList.map rsC = fa.results ∧
    fa.code = .seq c0 ca ∧ fb = { fa with code := .seq c0 cb } ∧ skA c0 = skC k0 ∧ plainC i j ps k1 = true ∧ skA ca = skC (alterC (more i j) k1) ∧ skA cb = skC (alterC (fun o => permO ps (more j i o)) k1)
  oka : okA fa.nt fa.code = true
  okb : okA fb.nt fb.code = true
theorem alt_to (ht : Tys P C) (hrec : CallOK P rec) (hback : ∀ f te, look f C.back = some te → BackOK P C f te) (hind : RecInd rec) (hmix : P.follows .mixedOrders = true) {f k : Nat} {fa fb : FnI} (hfn : AltOK P f fa fb) {l : List AV} {r1 r2 : AV} (h1 : runFn C rec k fa l σ = some (r1, σ1)) (h2 : runFn C rec k fb l σ = some (r2, σ2)) {vs : Array Value} (hh : HR g σ w) (hv : VRs g l vs) :
    Serves P f vs w fun v w' => Back g σ w r1 σ1 v w' ∨ Back g σ w r2 σ2 v w' := by
  obtain ⟨fn, y0, y1, i, j, ps, c0, ca, cb, hf1, hf2, hf3, hna, hra, hca, hfb, hs0, hpl, hsa, hsb⟩ := hfn.fn
  have oka := hfn.oka
  have okb := hfn.okb
  subst hfb
  rw [hca] at oka
  simp only [okA, Bool.and_eq_true] at oka okb
  unfold runFn at h1 h2
  split at h1
  case isFalse => exact (failM_eq h1).elim
  rename_i hlen
  rw [if_pos (show l.length ≤ _ from hlen)] at h2
  obtain ⟨⟨ext1, fr1⟩, τ1, p1, p2⟩ := bindM_eq h1
  obtain ⟨⟨ext2, fr2⟩, τ2, q1, q2⟩ := bindM_eq h2
  left
  have hf3' : ¬ fn.name = "runtime.NumGoroutine" := by simpa using hf3
  refine ⟨by simp [callFunc, hf1, hf3', hf2], ?_⟩
  refine calls_of_marks hf1 hf2 ?_
  have hsz : (vs ++ Array.replicate (fn.ntmps - vs.size) undef).size = fa.nt := by
    have := hv.1
    simp; omega
  have hfr : FR w.heap.size g σ { sl := argSlots 0 l, lk := false } { tmps := vs ++ Array.replicate (fn.ntmps - vs.size) undef, defers := [] } w := by
    refine ⟨fun t => ?_, fun t t' x x' v k1 => ?_, Marks.nil _ _ _ _⟩
    · show SVR _ _ _ _ _ _ t (getS (argSlots 0 l) t)
      rw [getS_args, if_pos (Nat.zero_le _), Nat.sub_zero]
      cases hx : l[t]? with
      | none => trivial
      | some x =>
        obtain ⟨u, h3, h4⟩ := hv.2 t x hx
        refine ⟨u, ?_, h4⟩
        have hlt := (Array.getElem?_eq_some_iff.1 h3).1
        show (vs ++ Array.replicate (fn.ntmps - vs.size) undef)[t]? = some u
        rw [Array.getElem?_append_left hlt]; exact h3
    · have k1 : getS (argSlots 0 l) t = .bx x := k1
      rw [getS_args, if_pos (Nat.zero_le _), Nat.sub_zero] at k1
      cases hx : l[t]? <;> rw [hx] at k1 <;> cases k1
  have fin : ∀ (x : M AV) (ext : Ext) (fr1 : Fr) (τ σ' : H) (r : AV) (R : Value → World → Prop), x = (match ext with | .ex _ => failM | _ => match results C fr1 fa.results with | some l => pureM (tupled l) | none => failM) → x τ = some (r, σ') → (∀ v w', Back g σ w r σ' v w' → R v w') →
      ∀ a' w', To fa.nt w.heap.size g σ w τ fr1 a' w' → bodyPostM Fence.wide 0 P fn (fun | .returned v, w' => R v w' | _, _ => False) (exitOf ext) a' w' := by
    intro x ext fr1 τ σ' r R hx hxs hR a' w' hto
    obtain ⟨g', r1, r2, r3, _⟩ := hto
    have fin' : ∀ x : M AV, x = (match results C fr1 fa.results with | some l => pureM (tupled l) | none => failM) → x τ = some (r, σ') → bodyPostM Fence.wide 0 P fn (fun | .returned v, w' => R v w' | _, _ => False) .ret a' w' := by
      intro x hx hxs
      cases hre : results C fr1 fa.results with
      | none => rw [hre] at hx; subst hx; exact (failM_eq hxs).elim
      | some as =>
        rw [hre] at hx
        subst hx
        obtain ⟨rfl, rfl⟩ := pureM_eq hxs
        obtain ⟨Ds, e1, e2, e3⟩ := r2.defers
        refine end_marks Ds a' w' e1 e2 e3 r1 r2 fun w'' y1 y2 y3 => ?_
        obtain ⟨v, h3, h4⟩ := results_to (P := P) (fn := fn) ht y2 (by rw [hra]; exact hre)
        exact ⟨v, h3, hR v w'' ⟨g', y1, r3.trans y3 (Nat.le_refl _), h4⟩⟩
    cases ext with
    | ex id => subst hx; exact (failM_eq hxs).elim
    | nrm => exact fin' x hx hxs
    | ret => exact fin' x hx hxs
  rw [hca] at p1
  simp only [den] at p1 q1
  obtain ⟨⟨f1, fm1⟩, υ1, s1, s2⟩ := bindM_eq p1
  obtain ⟨⟨f2, fm2⟩, υ2, t1, t2⟩ := bindM_eq q1
  rw [s1] at t1
  cases t1
  apply wp_seq
  refine den_to ht hrec hback hind hmix k c0 y0 g _ fm1 σ υ1 _ w f1 _ s1 hs0 oka.1 hh hfr (Nat.le_refl _) hsz fun a' w' hto => ?_
  cases f1 with
  | nrm =>
    obtain ⟨g1, r1', r2', r3', r4'⟩ := hto
    refine den_two ht hrec hback hind hmix k (n := fa.nt) (i := i) (j := j) (ps := ps) y1 ca cb fa.hp fa.ip fa.hp fa.ip τ1 τ2 fr1 fr2 ext1 ext2 _ hpl s2 t2 hsa hsb oka.2 okb.2 r1' r2' r3'.size r4' (fun a2 w2 hto2 => ?_) (fun a2 w2 hto2 => ?_)
    · exact fin _ ext1 fr1 τ1 σ1 _ _ rfl p2 (fun v w' h => .inl h) a2 w2 (.from r3' hto2)
    · exact fin _ ext2 fr2 τ2 σ2 _ _ rfl q2 (fun v w' h => .inr h) a2 w2 (.from r3' hto2)
  | ex id =>
    obtain ⟨he, rfl⟩ := pureM_eq s2
    cases he
    exact fin _ (.ex id) _ _ σ1 _ (fun v w' => Back g σ w r1 σ1 v w' ∨ Back g σ w r2 σ2 v w') rfl p2 (fun v w' h => Or.inl h) a' w' hto
  | ret =>
    obtain ⟨he, rfl⟩ := pureM_eq s2
    cases he
    exact fin _ .ret _ _ σ1 _ (fun v w' => Back g σ w r1 σ1 v w' ∨ Back g σ w r2 σ2 v w') rfl p2 (fun v w' h => Or.inl h) a' w' hto
theorem own_back {g : G} {r b : AV} {σ1 : H} {rs : List Nat} {v : Value} {w' : World} {g0 : G} (h0 : g0.im = g.im) (hsn : snapA σ1 200 r = some (b, rs)) (h : Back g0 [] w r σ1 v w') : ∃ g1, Own g w b v w' g1 := by
  obtain ⟨g1, k1, k2, k3⟩ := h
  obtain ⟨g2, m1, m2, m3, m4⟩ := HR.frzs rs g1 σ1 k1
  have no0 : ∀ b, ¬ Owned g0 [] b := fun b ⟨r, o, h, _⟩ => by simp at h
  have hst := k2.trans m2 k2.size
  refine ⟨g2, m1.im, fun b o u hu => hst.le.im b o u (by rw [h0]; exact hu), fun b o u hu => ?_, ⟨k2.size, fun b hb => k2.keep b hb (no0 b), k2.os, k2.tape, k2.output⟩, snapA_noRef 200 r b rs hsn, snap_VR k1 m2.le.im 200 r b rs hsn m4 v k3⟩
  rcases hst.imn b o u hu with h1 | h1 | h1
  · exact .inl (by rw [← h0]; exact h1)
  · exact absurd h1 (no0 b)
  · exact .inr h1
def ServesTwo (P : Program) (f : Nat) (ma mb : List AV → M AV) : Prop :=
  ∀ l σ r1 σ1 r2 σ2, ma l σ = some (r1, σ1) → mb l σ = some (r2, σ2) → ∀ g w vs, HR g σ w → VRs g l vs → Serves P f vs w fun v w' => Back g σ w r1 σ1 v w' ∨ Back g σ w r2 σ2 v w'
theorem own_two {f : Nat} {ma mb : List AV → M AV} (hm : ServesTwo P f ma mb) {l : List AV} {b : AV} {vs : Array Value} (hn : AV.noRefs l = true) (h1 : ownM (ma l) = some b) (h2 : ownM (mb l) = some b) (hr : HR g σ w) (hv : VRs g l vs) :
    Serves P f vs w fun v w' => ∃ g1, Own g w b v w' g1 := by
  unfold ownM at h1 h2
  split at h1 <;> try (cases h1; done)
  rename_i r1 σ1 run1
  split at h1 <;> simp at h1
  rename_i b1 rs1 sn1
  subst h1
  split at h2 <;> try (cases h2; done)
  rename_i r2 σ2 run2
  split at h2 <;> simp at h2
  rename_i b2 rs2 sn2
  subst h2
  let g0 : G := { im := g.im, loc := fun _ _ => none }
  have h0 : HR g0 [] w := ⟨hr.im, fun r o h => (by simp at h), fun r r' o o' b h => (by simp at h), fun b ⟨r, o, h, _⟩ => (by simp at h), fun r v p h => (by cases h), fun r o v p h => (by simp at h), hr.tb⟩
  refine (hm l [] r1 σ1 r2 σ2 run1 run2 g0 w vs h0 (VRs.noRef (g := g) (g' := g0) (fun _ _ _ h => h) hn hv)).mono fun v w' h => ?_
  rcases h with h | h
  · exact own_back (g := g) (g0 := g0) rfl sn1 h
  · exact own_back (g := g) (g0 := g0) rfl sn2 h
theorem twoM_serves {f : Nat} {ma mb : List AV → M AV} (hm : ServesTwo P f ma mb) : ServesM P f fun args => twoM args ma mb := by
  intro l σ r σ' h g w vs hr hv
  simp only [twoM] at h
  cases hn : AV.noRefs l with
  | true =>
    rw [hn] at h
    simp only at h
    split at h <;> try (cases h; done)
    rename_i b b' h1 h2
    split at h <;> simp at h
    rename_i hc
    obtain ⟨rfl, rfl⟩ := h
    have := AV.same_eq _ _ hc.2
    subst this
    exact (own_two hm hn h1 h2 hr hv).mono fun v w' ⟨g1, ho⟩ => ho.backS hc.1 hr
  | false =>
    rw [hn] at h
    simp only at h
    cases hsn : snapL σ l with
    | none => rw [hsn] at h; cases h
    | some x =>
      obtain ⟨l', rs⟩ := x
      rw [hsn] at h
      simp only at h
      split at h <;> try (cases h; done)
      rename_i b b' h1 h2
      split at h <;> simp at h
      rename_i hc
      obtain ⟨rfl, rfl⟩ := h
      have := AV.same_eq _ _ hc.2
      subst this
      obtain ⟨gz, k1, k2, k3, k4⟩ := HR.frzs rs g σ hr
      have hv' := snapL_VRs hr k2.le.im hsn k4 hv
      have hn' : AV.noRefs l' = true := mapO2_noRef (fun a b rs h => snapA_noRef 200 a b rs h) hsn
      exact (own_two hm hn' h1 h2 k1 hv').mono fun v w' ⟨g1, ho⟩ => ho.backS hc.1 hr
end Go.Am
/-! ## part Call -/
/- The abstract machine and the model: all calls are as the machine says. -/
namespace Go.Am
open Go
variable {P : Program} {C : Ctx} {σ σ' : H}
structure CtxOK (P : Program) (C : Ctx) : Prop where
  tys : Tys P C
  mix : P.follows .mixedOrders = true
  fns : ∀ f fi, C.fn f = some fi → FnOK P f fi
  prims : ∀ f p, look f C.prim = some p → ServesM P f p ∧ ∀ l, AV.noRefs l = true → Ind (p l)
  alts : ∀ f x, look f C.alt = some x → AltOK P f x.1 x.2
  backs : ∀ f te, look f C.back = some te → BackOK P C f te
theorem isoM_ind {m : List AV → M AV} {l : List AV} (hn : AV.noRefs l = true) : Ind (isoM l m) := by
  intro r h σ
  simp only [isoM, hn] at h ⊢
  split at h <;> simp at h
  rename_i b hb
  subst h
  rfl
theorem twoM_ind {ma mb : List AV → M AV} {l : List AV} (hn : AV.noRefs l = true) : Ind (twoM l ma mb) := by
  intro r h σ
  simp only [twoM, hn] at h ⊢
  split at h <;> try (cases h; done)
  split at h <;> simp at h
  rename_i hc
  subst h
  rw [if_pos hc]
theorem acall_ok (hC : CtxOK P C) : ∀ n, CallOK P (acall C n) ∧ RecInd (acall C n)
  | 0 => ⟨fun f l σ r σ' h => (failM_eq (σ := σ) h).elim, fun f l _ r h => (failM_eq (σ := []) h).elim⟩
  | n + 1 => by
    obtain ⟨h1, h2⟩ := acall_ok hC n
    refine ⟨fun f l σ r σ' h g w vs hr hv => ?_, fun f l hn => ?_⟩
    · obtain ⟨m, hm, h⟩ := app_eq h
      unfold acall at hm
      split at hm
      · rename_i fi hfi
        subst hm
        exact isoM_serves (f := f) (m := fun as => runFn C (acall C n) n fi as) (fun l σ r σ' h g w vs hr hv => runFn_to hC.tys h1 hC.backs h2 hC.mix (hC.fns f fi hfi) h hr hv) l σ r σ' h g w vs hr hv
      · unfold acallN at hm
        split at hm
        · rename_i x hx
          subst hm
          exact twoM_serves (f := f) (fun l σ r1 σ1 r2 σ2 k1 k2 g w vs hr hv => alt_to hC.tys h1 hC.backs h2 hC.mix (hC.alts f x hx) k1 k2 hr hv) l σ r σ' h g w vs hr hv
        · split at hm
          · rename_i p hp
            subst hm
            exact (hC.prims f p hp).1 l σ r σ' h g w vs hr hv
          · subst hm; exact (failM_eq h).elim
    · unfold acall
      split
      · exact isoM_ind hn
      · unfold acallN
        split
        · exact twoM_ind hn
        · split
          · rename_i p hp
            exact (hC.prims f p hp).2 l hn
          · exact ind_fail
theorem acall_serves (hC : CtxOK P C) {n f : Nat} {l : List AV} {r : AV} (h : acall C n f l σ = some (r, σ')) {g : G} {w : World} {vs : Array Value} (hr : HR g σ w) (hv : VRs g l vs) : Serves P f vs w (Back g σ w r σ') :=
  (acall_ok hC n).1 f l σ r σ' h g w vs hr hv
end Go.Am
