/- The abstract machine and the model, merged of its parts. -/
import Derived.Test.YtmhggdoanajboaaDoorM1
import Derived.MapKept
import Derived.Calls
import Derived.Orders
set_option linter.unusedVariables false
set_option linter.unusedSimpArgs false
/-! ## part App2 -/
/- The abstract machine and the model: 'append', the operation. -/
namespace Go.Am
open Go
variable {P : Program} {C : Ctx} {B : Nat} {g g' : G} {σ σ' : H} {w w' : World} {fr : Fr} {a : Act} {o : Oper} {e : Eff}
theorem rowOrText_run (ht : Tys P C) {t : Nat} (h : rowOrText C t = true) : ∃ d, (∀ w, (underlying t).run P w = .ok d w) ∧ ((∃ q, d = .slice q) ∨ d = .string) := by
  unfold rowOrText at h
  split at h <;> try (simp at h; done)
  rename_i ti hti
  obtain ⟨d, h1, h2⟩ := (ht t ti hti).desc
  refine ⟨d, fun w => run_underlying h1 w, ?_⟩
  split at h <;> try (simp at h; done)
  · rename_i hk; rw [hk] at h2; cases d <;> simp [TK.of] at h2; exact .inl ⟨_, rfl⟩
  · rename_i hk; rw [hk] at h2; cases d <;> simp [TK.of] at h2; exact .inr rfl
theorem append_room {t t' ty el : Nat} {te : TI} {d : TypeDesc} {base : Option Addr} {n k cap : Nat} {x : Value} {new : Array Value} (hu : ∀ w, (underlying t).run P w = .ok (.slice el) w) (hu' : ∀ w, (underlying t').run P w = .ok d w) (hd : (∃ q, d = .slice q) ∨ d = .string)
    (hte : TyOK P el te) (hk : (Builtin.lenOf x).run P w = .ok k w) (hc : n + k ≤ cap) (hnew : (Builtin.firstCells te.size k x).run P w = .ok new w)
    (hs : match base with | none => w' = w | some ad => (storeCells (ad.add (n * te.size)) new.toList).run P w = .ok () w') :
    (Builtin.append_ #[t, t'] ty #[.slice base n cap, x]).run P w = .ok (.slice base (n + k) cap) w' := by
  unfold Builtin.append_
  cases base with
  | none =>
    simp only at hs
    subst hs
    rcases hd with ⟨q, rfl⟩ | rfl <;> simp [hu, hu', run_size hte, hk, hc, hnew]
  | some ad =>
    simp only at hs
    rcases hd with ⟨q, rfl⟩ | rfl <;> simp [hu, hu', run_size hte, hk, hc, hnew, hs]
theorem append_grow {t t' ty el : Nat} {te : TI} {d : TypeDesc} {base : Option Addr} {n k cap : Nat} {x z : Value} {old new : Array Value} (hu : ∀ w, (underlying t).run P w = .ok (.slice el) w) (hu' : ∀ w, (underlying t').run P w = .ok d w) (hd : (∃ q, d = .slice q) ∨ d = .string)
    (hte : TyOK P el te) (hk : (Builtin.lenOf x).run P w = .ok k w) (hc : cap < n + k) (hb1 : (n + k) * te.bytes ≤ 2 ^ 45) (hb2 : n + k ≤ 2 ^ 45) (hz : ∀ w, (zeroValue el).run P w = .ok z w)
    (hold : ∀ w1, Grow w w1 → (Builtin.firstCells te.size n (.slice base n cap)).run P w1 = .ok old w1) (hnew : ∀ w1, Grow w w1 → (Builtin.firstCells te.size k x).run P w1 = .ok new w1) :
    ∃ newCap, n + k ≤ newCap ∧ (Builtin.append_ #[t, t'] ty #[.slice base n cap, x]).run P w = .ok (.slice (some ⟨w.heap.size, 0, none⟩) (n + k) newCap) (w.drew.alloc (.cells (old ++ new ++ Builtin.zeroCells z.cells (newCap - (n + k))) el)) := by
  refine ⟨(Question.appendCap (n + k) cap el).cut (w.tape w.drawn (Question.appendCap (n + k) cap el)), by simp only [Question.cut]; omega, ?_⟩
  obtain ⟨ii, hii, hib⟩ := run_bytes (P := P) (w := w) hte
  have hng : Builtin.nextslicecap (n + k) cap * te.bytes ≤ 281474976710656 := growslice_fits hc (by omega)
  have hbig : ¬ (281474976710656 < Builtin.nextslicecap (n + k) cap * te.bytes) := by omega
  have hint : ¬ ((9223372036854775807 : Int) < (n : Int) + (k : Int)) := by omega
  have hforced : (Question.appendCap (n + k) cap el).forced = false := rfl
  have hgd : Grow w w.drew := .drew w
  obtain ⟨ii2, hii2, _⟩ := run_bytes (P := P) (w := w.drew) hte
  have hnr : ∀ (cs : Array Value), (newRow el cs).run P w.drew = .ok ⟨w.heap.size, 0, none⟩ (w.drew.alloc (.cells cs el)) := fun cs => run_newRow el cs
  unfold Builtin.append_
  have hc' : ¬ (n + k ≤ cap) := by omega
  rcases hd with ⟨q, rfl⟩ | rfl <;> simp [hu, hu', run_size hte, hk, hc', hii, hib, hint, hbig, hforced, hii2, hold _ hgd, hnew _ hgd, hz, hnr]
theorem grow_drew_alloc (w : World) (o : Obj) : Grow w (w.drew.alloc o) := (Grow.drew w).trans (.alloc w.drew o)
theorem heap_drew_alloc (w : World) (o : Obj) : (w.drew.alloc o).heap[w.heap.size]? = some o := heap_new w.drew o
end Go.Am
/-! ## part App3 -/
/- The abstract machine and the model: 'append', told. -/
namespace Go.Am
open Go
variable {P : Program} {C : Ctx} {B : Nat} {g g' : G} {σ σ' : H} {w w' : World} {fr : Fr} {a : Act} {o : Oper} {e : Eff}
theorem VRs_two {x y : AV} {vs : Array Value} (h : VRs g [x, y] vs) : ∃ u v, vs = #[u, v] ∧ VR g x u ∧ VR g y v := by
  obtain ⟨h1, h2⟩ := h
  obtain ⟨u, h3, h4⟩ := h2 0 x rfl
  obtain ⟨v, h5, h6⟩ := h2 1 y rfl
  refine ⟨u, v, ?_, h4, h6⟩
  apply Array.ext_getElem?
  intro i
  match i with
  | 0 => simpa using h3
  | 1 => simpa using h5
  | i + 2 => rw [Array.getElem?_eq_none (by simp at h1; omega)]; simp
theorem run_builtin {b : Builtin} {c : Call} (ho : o.op = .call c) (hc : c.callee = .builtin b) :
    ∃ cs, (execOp a.eval o) = builtin b c.argTypes o.type cs (c.args.map a.eval) :=
  ⟨_, by simp only [execOp, ho, resolve, hc]; rfl⟩
theorem setRow_facts (w : World) (b : Nat) (cs : Array Value) : (∀ q, q ≠ b → (w.setRow b cs).heap[q]? = w.heap[q]?) ∧ (w.setRow b cs).heap.size = w.heap.size ∧ (w.setRow b cs).os = w.os ∧ (w.setRow b cs).tape = w.tape ∧ (w.setRow b cs).output = w.output :=
  ⟨fun q hq => by simp only [World.setRow, Array.getElem?_modify]; rw [if_neg (Ne.symm hq)], by simp [World.setRow], rfl, rfl, rfl⟩
theorem nil_slice_append {te : TI} {ys : List AV} (h : ys = []) : ∀ {cs : Array Value}, RowC g te ys cs → cs = #[] := by
  intro cs hc
  subst h
  have := hc.size
  simpa using this
theorem zeroCells_size (z : Array Value) (n : Nat) : (Builtin.zeroCells z n).size = n * z.size := by simp [Builtin.zeroCells]
theorem RowC.behind {te : TI} {xs : List AV} {cs rest : Array Value} (h : RowC g te xs cs) : RowR g te.size xs (cs ++ rest) := by
  refine ⟨by simp [h.size], fun i x hi => ?_⟩
  obtain ⟨h1, h2⟩ := h.el i x hi
  refine ⟨h1, fun j c hj => ?_⟩
  obtain ⟨u, h3, h4⟩ := h2 j c hj
  refine ⟨u, ?_, h4⟩
  have hlt : i * te.size + j < cs.size := (Array.getElem?_eq_some_iff.1 h3).1
  show (cs ++ rest)[i * te.size + j]? = some u
  rw [Array.getElem?_append_left hlt]; exact h3
theorem RowC.app {te : TI} {xs ys : List AV} {cs ds : Array Value} (h : RowC g te xs cs) (k : RowC g te ys ds) : RowC g te (xs ++ ys) (cs ++ ds) := by
  refine ⟨by simp [h.size, k.size, Nat.add_mul], fun i x hi => ?_⟩
  by_cases hil : i < xs.length
  · rw [List.getElem?_append_left hil] at hi
    obtain ⟨h1, h2⟩ := h.el i x hi
    refine ⟨h1, fun j c hj => ?_⟩
    obtain ⟨u, h3, h4⟩ := h2 j c hj
    exact ⟨u, by rw [Array.getElem?_append_left (Array.getElem?_eq_some_iff.1 h3).1]; exact h3, h4⟩
  · rw [List.getElem?_append_right (by omega)] at hi
    obtain ⟨h1, h2⟩ := k.el _ x hi
    refine ⟨h1, fun j c hj => ?_⟩
    obtain ⟨u, h3, h4⟩ := h2 j c hj
    refine ⟨u, ?_, h4⟩
    have hm : xs.length * te.size ≤ i * te.size := Nat.mul_le_mul_right _ (by omega)
    have hm4 : (i - xs.length) * te.size = i * te.size - xs.length * te.size := Nat.sub_mul ..
    rw [Array.getElem?_append_right (by rw [h.size]; omega), h.size, ← h3, hm4]
    congr 1; omega
theorem kAppend_made (ht : Tys P C) (hr : HR g σ w) {hp : List Nat} {c : Call} {l : List AV} (ho : o.op = .call c) (hc : c.callee = .builtin .append) (hv : VRs g l (c.args.map a.eval))
    (h : kAppend C hp c.argTypes.toList l o.dst σ = some (e, σ')) : Made P B g σ fr a w o e σ' := by
  obtain ⟨m, hm, h⟩ := app_eq h
  unfold kAppend at hm
  split at hm
  case h_2 => subst hm; simp [failM] at h
  rename_i t t' d x y hts hd
  split at hm
  case h_2 => subst hm; simp [failM] at h
  rename_i te hel
  split at hm
  case isFalse => subst hm; simp [failM] at h
  rename_i hcond
  subst hm
  have hat : c.argTypes = #[t, t'] := by cases hq : c.argTypes; rw [hq] at hts; simp at hts; rw [hts]
  obtain ⟨u, v, hargs, hu, hv'⟩ := VRs_two hv
  obtain ⟨el, hut, hte, hue⟩ := elemOf_run ht hel
  clear hue
  obtain ⟨dd, hut', hdd⟩ := rowOrText_run (P := P) ht hcond.2
  unfold bindM at h
  split at h <;> try (simp at h; done)
  rename_i ys σ1 hys
  have hh : retM (appendH te x ys) σ1 = some (e, σ') := h
  clear h
  obtain ⟨rfl, hlen, new, hnew, hrow, hone⟩ := first_run (P := P) hr hte.pos hv' hys
  obtain ⟨z, hz, h1, h2⟩ := retM_eq hh
  have hexec : ∀ {r : Value} {w' : World}, (Builtin.append_ #[t, t'] o.type #[u, v]).run P w = .ok r w' → (execOp a.eval o).run P w = .ok (.value r) w' := by
    intro r w' hr
    obtain ⟨cs, hcs⟩ := run_builtin (a := a) ho hc
    rw [hcs, hat, hargs]
    simp [builtin, hr]
  unfold appendH at hz
  split at hz
  · -- to nothing
    rw [VR_nil] at hu
    subst hu
    split at hz
    · simp at hz
      obtain ⟨rfl, rfl⟩ := hz
      have := append_room (P := P) (ty := o.type) (base := none) (n := 0) (cap := 0) (w' := w) hut hut' hdd hte hlen (by simp) (hnew w (.refl w)) rfl
      exact ⟨h1, _, _, g, hexec this, hr, .refl _ _ _ _, by rw [h2]; exact VR_nil.2 rfl⟩
    · rename_i y0 yl
      split at hz <;> simp at hz
      rename_i hb
      obtain ⟨rfl, rfl⟩ := hz
      obtain ⟨zz, hzz, hzc⟩ := run_zero (P := P) (w := w) hte
      have hzw : ∀ w, (zeroValue el).run P w = .ok zz w := by
        intro w'
        obtain ⟨z2, h3, h4⟩ := run_zero (P := P) (w := w') hte
        have hi := hte.zero
        cases hin : P.info? el with
        | none => simp [hin] at hi
        | some ii =>
          cases hzi : ii.zero with
          | none => simp [hin, hzi] at hi
          | some z3 =>
            simp [zeroValue, typeInfo, hin, hzi] at hzz h3 ⊢
            exact hzz
      obtain ⟨newCap, hnc, hrun⟩ := append_grow (P := P) (ty := o.type) (base := none) (n := 0) (cap := 0) (z := zz) (old := #[]) hut hut' hdd hte hlen (by simp) (by simpa using hb.1) (by simpa using hb.2.1) hzw (fun w1 _ => rfl) hnew
      have hn := heap_drew_alloc w (.cells (#[] ++ new ++ Builtin.zeroCells zz.cells (newCap - (0 + (y0 :: yl).length))) el)
      have hcz := (constA_VR (g := g) hzc).cells hte.zfit
      have hzs : zz.cells.size = te.size := by rw [hcz.1, fits_len hte.zfit]
      have hrr : RowR g te.size (y0 :: yl) (#[] ++ new ++ Builtin.zeroCells zz.cells (newCap - (0 + (y0 :: yl).length))) := by
        rw [Array.empty_append]; exact hrow.behind
      have hsz : (#[] ++ new ++ Builtin.zeroCells zz.cells (newCap - (0 + (y0 :: yl).length))).size = newCap * te.size := by
        rw [Array.empty_append, Array.size_append, hrow.size, zeroCells_size, hzs, ← Nat.add_mul]
        congr 1; omega
      obtain ⟨g', h3, h4, h5⟩ := hr.newObj (sz := te.size) (xs := y0 :: yl) (grow_drew_alloc w _) (Nat.le_refl _) hn rfl hrr.1 hrr.2
      refine ⟨h1, _, _, g', hexec hrun, h3, h4, ?_⟩
      rw [h2]
      exact VR_hs.2 ⟨_, _, ⟨w.heap.size, 0, none⟩, newCap, h5, by simp, by (simp at hnc ⊢; omega), .inl ⟨by simp, by (simp at hnc ⊢; omega), by rw [hsz]; simp⟩⟩
  · -- to a row of the heap
    rename_i r v' q n s
    split at hz <;> try (simp at hz; done)
    rename_i sz xs ha
    obtain ⟨hl, hs, hor⟩ := arrAt_OR hr ha
    split at hz <;> try (simp at hz; done)
    rename_i hb
    obtain ⟨hsz, rfl, hqn, hb1, hb2, hfit⟩ := hb
    subst hsz
    obtain ⟨b, N, cs, el', f, k1, k2, k3, k4, k5, k6, k7⟩ := hor
    have hf0 := k6 rfl
    subst hf0
    obtain ⟨b', N', ad, cap, h3, h4, h5, h6⟩ := VR_hs.1 hu
    rw [← hl, k1] at h3
    cases h3
    subst h4
    have hxr : RowR g te.size xs cs := ⟨by rw [k3]; exact k4, k5⟩
    have hrl : r < σ1.length := (List.getElem?_eq_some_iff.1 hs).1
    have hbk : blk g r (.arr false te.size xs) = some b := by simp [blk, HObj.ver, k1]
    -- in place
    have room : ys ≠ [] → ad = ⟨b, q * te.size, none⟩ → n + ys.length ≤ cap → (q + cap) * te.size ≤ N →
        (execOp a.eval o).run P w = .ok (.value (.slice (some ad) (n + ys.length) cap)) (w.setRow b (splice cs new ((q + n) * te.size))) := by
      intro hne had hroom hN
      have hp1 : (q + n) * te.size + new.size ≤ cs.size := by
        rw [hrow.size, ← Nat.add_mul, k3]
        exact Nat.le_trans (Nat.mul_le_mul_right _ (by omega)) hN
      have hst := run_storeCells_at (P := P) b (q * te.size + n * te.size) el' new.toList 0 cs w k2 (by rw [Array.length_toList, ← Nat.add_mul]; omega) (by simpa using hone)
      refine hexec (append_room (P := P) (ty := o.type) (base := some ad) (n := n) (cap := cap) (w' := _) hut hut' hdd hte hlen hroom (hnew w (.refl w)) ?_)
      simp only
      rw [had, cells_add, hst]
      simp only [splice, Nat.add_zero, Nat.add_mul]
    obtain ⟨sr1, sr2, sr3, sr4, sr5⟩ := setRow_facts w b (splice cs new ((q + n) * te.size))
    have srb : (w.setRow b (splice cs new ((q + n) * te.size))).heap[b]? = some (.cells (splice cs new ((q + n) * te.size)) el' (0, 0)) := setRow_heap w b cs _ el' (0, 0) k2
    by_cases hy : ys = []
    · -- nothing is appended
      subst hy
      have hnz := nil_slice_append rfl hrow
      subst hnz
      have hrun := append_room (P := P) (ty := o.type) (base := some ad) (n := n) (cap := cap) (w' := w) hut hut' hdd hte hlen (by simpa using h5) (hnew w (.refl w)) (by simp [storeCells])
      rw [if_pos (by simp; omega)] at hz
      simp only [Option.some.injEq, Prod.mk.injEq] at hz
      obtain ⟨rfl, rfl⟩ := hz
      have hset : σ1.set r (.arr false te.size (setCells xs (q + n) [])) = σ1 := by
        apply List.ext_getElem?
        intro i
        by_cases hi : i = r
        · subst hi; rw [List.getElem?_set_self hrl]; exact hs.symm
        · rw [List.getElem?_set_ne (Ne.symm hi)]
      rw [hset]
      exact ⟨h1, _, _, g, hexec hrun, hr, .refl _ _ _ _, by rw [h2]; exact hu⟩
    have hyl : 0 < ys.length := List.length_pos_iff.2 hy
    split at hz
    · -- where there are elements
      rename_i hfits
      simp only [Option.some.injEq, Prod.mk.injEq] at hz
      obtain ⟨rfl, rfl⟩ := hz
      rcases h6 with ⟨had, h6, h7⟩ | ⟨_, _, _, h7⟩
      · have hrun := room hy had (by omega) h7
        have hpl : q + n + ys.length ≤ xs.length := by omega
        have hsp := hxr.spl (p := q + n) hrow (by omega) (by
          rw [k3]
          exact Nat.le_trans (Nat.mul_le_mul_right _ hpl) k4)
        rw [← setCells_splice hpl] at hsp
        have hlen' : (setCells xs (q + n) ys).length = xs.length := (setCells_get ys xs (q + n) hpl).1
        have hcsz : (splice cs new ((q + n) * te.size)).size = N := by
          rw [(splice_get (by rw [hrow.size, ← Nat.add_mul, k3]; exact Nat.le_trans (Nat.mul_le_mul_right _ hpl) k4)).1, k3]
        obtain ⟨h8, h9⟩ := hr.upd (σ' := σ1.set r (.arr false te.size (setCells xs (q + n) ys))) (o := .arr false te.size (setCells xs (q + n) ys)) (r := r) (b := b) (w' := w.setRow b (splice cs new ((q + n) * te.size))) (.refl g) rfl
          (fun q' hq' => List.getElem?_set_ne (Ne.symm hq')) (by rw [List.getElem?_set_self hrl])
          ⟨b, N, _, el', (0, 0), by rw [hlen']; exact k1, srb, hcsz, by rw [hlen']; exact k4, hsp.2, fun _ => rfl, fun h => by cases h⟩ rfl (by simp [blk, HObj.ver, hlen', k1])
          (.inl ⟨_, hs, rfl, hbk⟩) (fun q' hq' _ => sr1 q' hq') (by rw [sr2]; exact Nat.le_refl _) (by simpa using hrl) (by simp) (fun q' v p hp => .inl hp) (fun o0 h0 => by rw [hs] at h0; cases h0; simp [HObj.ver, hlen']) sr3 sr4 sr5
        refine ⟨h1, _, _, g, hrun, h8, h9, ?_⟩
        rw [h2]
        exact VR_hs.2 ⟨b, N, ad, cap, by rw [← hl]; exact k1, rfl, by omega, .inl ⟨had, h6, h7⟩⟩
      · omega
    · rename_i hnf
      split at hz <;> simp only [Option.some.injEq, Prod.mk.injEq, reduceCtorEq] at hz
      rename_i hq0
      subst hq0
      obtain ⟨rfl, rfl⟩ := hz
      rcases h6 with ⟨had, h6, h7⟩ | ⟨_, _, h7, _⟩
      · have hnl : n ≤ xs.length := by omega
        have hdrop : xs.drop (n + ys.length) = [] := List.drop_eq_nil_of_le (by omega)
        have hnlen : (xs.take n ++ ys).length = n + ys.length := by simp; omega
        by_cases hroom : n + ys.length ≤ cap
        · have hrun := room hy had hroom h7
          simp only [Nat.zero_add] at hrun sr1 sr2 sr3 sr4 sr5 srb
          have hsp := hxr.spl (p := n) hrow hnl (by rw [k3]; exact Nat.le_trans (Nat.mul_le_mul_right _ (by omega)) h7)
          rw [hdrop, List.append_nil] at hsp
          have hcsz : (splice cs new (n * te.size)).size = N := by
            rw [(splice_get (by rw [hrow.size, ← Nat.add_mul, k3]; exact Nat.le_trans (Nat.mul_le_mul_right _ (by omega)) h7)).1, k3]
          obtain ⟨g', h8, h9, h10⟩ := hr.grown (w' := w.setRow b (splice cs new (n * te.size))) hs k1 (by rw [hnlen]; omega) (.inl rfl) srb hcsz hsp (fun q' hq' _ => sr1 q' hq') (by rw [sr2]; exact Nat.le_refl _) sr3 sr4 sr5
          refine ⟨h1, _, _, g', hrun, h8, h9, ?_⟩
          rw [h2]
          rw [hnlen] at h10
          exact VR_hs.2 ⟨b, N, ad, cap, h10, rfl, by omega, .inl ⟨had, by omega, h7⟩⟩
        · obtain ⟨zz, hzz, hzc⟩ := run_zero (P := P) (w := w) hte
          have hzw : ∀ w, (zeroValue el).run P w = .ok zz w := by
            intro w'
            have hi := hte.zero
            cases hin : P.info? el with
            | none => simp [hin] at hi
            | some ii =>
              cases hzi : ii.zero with
              | none => simp [hin, hzi] at hi
              | some z3 =>
                simp [zeroValue, typeInfo, hin, hzi] at hzz ⊢
                exact hzz
          have htk : (xs.take n).length = n := by simp; omega
          obtain ⟨old, hold, horow, _⟩ := load_row (P := P) (g := g) (w := w) (te := te) (b := b) (off := 0) (ys := xs.take n) (fun i y hi => by
            rw [List.getElem?_take] at hi
            split at hi <;> try (simp at hi; done)
            obtain ⟨h8, h9⟩ := k5 i y hi
            refine ⟨h8, fun j c hj => ?_⟩
            obtain ⟨u', h10, h11⟩ := h9 j c hj
            exact ⟨u', (cell_row k2).trans (by rw [Nat.zero_add]; exact h10), h11⟩)
          rw [htk] at hold
          rw [had] at hexec
          obtain ⟨newCap, hnc, hrun⟩ := append_grow (P := P) (ty := o.type) (base := some ⟨b, 0, none⟩) (n := n) (cap := cap) (z := zz) (old := old) hut hut' hdd hte hlen (by omega) hb1 hb2 hzw (fun w1 hg1 => hold w1 hg1) hnew
          rw [Nat.zero_mul] at hexec
          have hcz := (constA_VR (g := g) hzc).cells hte.zfit
          have hzs : zz.cells.size = te.size := by rw [hcz.1, fits_len hte.zfit]
          have hrr := (horow.app hrow).behind (rest := Builtin.zeroCells zz.cells (newCap - (n + ys.length)))
          have hsz : (old ++ new ++ Builtin.zeroCells zz.cells (newCap - (n + ys.length))).size = newCap * te.size := by
            rw [Array.size_append, (horow.app hrow).size, zeroCells_size, hzs, ← Nat.add_mul, hnlen]
            congr 1; omega
          have hgr := grow_drew_alloc w (.cells (old ++ new ++ Builtin.zeroCells zz.cells (newCap - (n + ys.length))) el)
          obtain ⟨g', h8, h9, h10⟩ := hr.grown hs k1 (by rw [hnlen]; omega) (.inr (Nat.le_refl _)) (heap_drew_alloc w (.cells (old ++ new ++ Builtin.zeroCells zz.cells (newCap - (n + ys.length))) el)) rfl hrr (fun q' _ hq' => hgr.heap q' hq') hgr.size hgr.os hgr.tape hgr.output
          refine ⟨h1, _, _, g', hexec hrun, h8, h9, ?_⟩
          rw [h2]
          rw [hnlen] at h10
          exact VR_hs.2 ⟨_, _, _, newCap, h10, rfl, hnc, .inl ⟨by simp, by omega, by rw [hsz]; simp⟩⟩
      · exact absurd rfl h7
  · simp at hz
end Go.Am
/-! ## part MapW -/
/- The abstract machine and the model: maps, written. -/
namespace Go.Am
open Go
variable {P : Program} {C : Ctx} {B : Nat} {g : G} {σ σ' : H} {w : World} {fr : Fr} {a : Act} {o : Oper} {e : Eff}
theorem eqLeaf_eq {k : TK} {x y : AV} {u v : Value} (h : eqLeaf k x y = some true) (hx : VR g x u) (hy : VR g y v) : x = y ∧ u = v ∧ ∀ n, Instr.sameBits n u v = true := by
  unfold eqLeaf at h
  split at h <;> try (simp at h; done)
  · rw [VR_bool] at hx hy
    simp at h; subst h; subst hx; subst hy
    exact ⟨rfl, rfl, fun n => by cases n <;> simp [Instr.sameBits]⟩
  · split at h <;> simp at h
    rename_i hk
    rw [VR_int] at hx hy
    obtain ⟨rfl, rfl⟩ := hk
    subst h; subst hx; subst hy
    exact ⟨rfl, rfl, fun n => by cases n <;> simp [Instr.sameBits]⟩
  · rw [VR_str] at hx hy
    obtain ⟨p, rfl, rfl⟩ := hx
    obtain ⟨q, rfl, rfl⟩ := hy
    simp at h
    have : p = q := by
      cases p; cases q; simp at h; rw [h]
    subst this
    exact ⟨rfl, rfl, fun n => by cases n <;> simp [Instr.sameBits] <;> exact (MapKept.bytes_beq _ _).2 rfl⟩
theorem eqLeaves_eq : ∀ {ks : List TK} {xs ys : List AV} {us vs : List Value}, eqLeaves ks xs ys = some true → us.length = xs.length → vs.length = ys.length →
    (∀ (j : Nat) c, xs[j]? = some c → ∃ u, us[j]? = some u ∧ VR g c u) → (∀ (j : Nat) c, ys[j]? = some c → ∃ u, vs[j]? = some u ∧ VR g c u) →
    xs = ys ∧ us = vs ∧ ∀ n, ((us.zip vs).all fun (x, y) => Instr.sameBits n x y) = true
  | [], [], [], us, vs, _, h1, h2, _, _ => by
    have : us = [] := by simpa using h1
    have : vs = [] := by simpa using h2
    subst_vars; simp
  | [], [], _ :: _, _, _, h, _, _, _, _ => by simp [eqLeaves] at h
  | [], _ :: _, _, _, _, h, _, _, _, _ => by simp [eqLeaves] at h
  | _ :: _, [], _, _, _, h, _, _, _, _ => by simp [eqLeaves] at h
  | _ :: _, _ :: _, [], _, _, h, _, _, _, _ => by simp [eqLeaves] at h
  | k :: ks, x :: xs, y :: ys, us, vs, h, h1, h2, hx, hy => by
    simp only [eqLeaves] at h
    split at h <;> try (simp at h; done)
    rename_i p q hp hq
    simp at h
    obtain ⟨rfl, rfl⟩ := h
    cases us with
    | nil => simp at h1
    | cons u us =>
      cases vs with
      | nil => simp at h2
      | cons v vs =>
        obtain ⟨u', h3, h4⟩ := hx 0 x rfl
        obtain ⟨v', h5, h6⟩ := hy 0 y rfl
        simp at h3 h5
        subst h3; subst h5
        obtain ⟨rfl, rfl, h7⟩ := eqLeaf_eq hp h4 h6
        obtain ⟨rfl, rfl, h8⟩ := eqLeaves_eq hq (by simpa using h1) (by simpa using h2) (fun j c hj => by simpa using hx (j + 1) c (by simpa using hj)) (fun j c hj => by simpa using hy (j + 1) c (by simpa using hj))
        refine ⟨rfl, rfl, fun n => ?_⟩
        simp only [List.zip_cons_cons, List.all_cons, Bool.and_eq_true]
        exact ⟨h7 n, h8 n⟩
theorem key_eq {tk : TI} {x y : AV} {u v : Value} (h : eqA tk.eqk x y = some true) (fx : x.fits tk = true) (fy : y.fits tk = true) (hx : VR g x u) (hy : VR g y v) :
    x = y ∧ u = v ∧ Instr.sameBits 10000 u v = true := by
  unfold eqA at h
  have cx := hx.cells fx
  have cy := hy.cells fy
  have sx := fits_shp fx
  have sy := fits_shp fy
  obtain ⟨h1, h2, h3⟩ := eqLeaves_eq (us := u.cells.toList) (vs := v.cells.toList) h (by simpa using cx.1) (by simpa using cy.1)
    (fun j c hj => by obtain ⟨p, h4, h5, h6⟩ := cx.2 j c hj; exact ⟨p, by simpa using h4, h6⟩)
    (fun j c hj => by obtain ⟨p, h4, h5, h6⟩ := cy.2 j c hj; exact ⟨p, by simpa using h4, h6⟩)
  cases hk : tk.k.isAgg with
  | true =>
    obtain ⟨cs, rfl, _⟩ := sx.1 hk
    obtain ⟨ds, rfl, _⟩ := sy.1 hk
    obtain ⟨us, rfl, hu⟩ := VR_agg.1 hx
    obtain ⟨vs, rfl, hv⟩ := VR_agg.1 hy
    simp only [AV.cells] at h1
    simp only [Value.cells] at h2 h3
    have h2' : us = vs := Array.ext' h2
    subst h1; subst h2'
    refine ⟨rfl, rfl, ?_⟩
    have := h3 9999
    simp only [Instr.sameBits, beq_self_eq_true, Bool.true_and]
    exact this
  | false =>
    rw [sx.2 hk, sy.2 hk] at h
    have h0 : ∃ k, eqLeaf k x y = some true := by
      cases hq : tk.eqk with
      | nil => rw [hq] at h; simp [eqLeaves] at h
      | cons k l =>
        rw [hq] at h
        simp only [eqLeaves] at h
        split at h <;> try (simp at h; done)
        rename_i p q hp hr
        simp at h
        exact ⟨k, by rw [hp, h.1]⟩
    obtain ⟨k, h0⟩ := h0
    obtain ⟨h4, h5, h6⟩ := eqLeaf_eq h0 hx hy
    exact ⟨h4, h5, h6 _⟩
theorem findIdx_get {tk : TI} {k : AV} : ∀ (es : List (AV × AV)) (i : Nat) {j : Nat} {v : AV}, findIdx tk k i es = some (some (j, v)) → ∃ x, i ≤ j ∧ es[j - i]? = some (x, v) ∧ x.fits tk = true ∧ eqA tk.eqk k x = some true
  | [], _, _, _, h => by simp [findIdx] at h
  | (x, y) :: es, i, j, v, h => by
    simp only [findIdx] at h
    split at h <;> try (simp at h; done)
    rename_i hf
    split at h
    · rename_i he
      simp at h
      obtain ⟨rfl, rfl⟩ := h
      exact ⟨x, Nat.le_refl _, by simp, hf, he⟩
    · obtain ⟨z, h1, h2, h3⟩ := findIdx_get es (i + 1) h
      exact ⟨z, by omega, by rw [show j - i = (j - (i + 1)) + 1 by omega]; simpa using h2, h3⟩
    · simp at h
theorem HR.mapSet (hr : HR g σ w) {r b : Nat} {es es' : List (AV × AV)} {en en' : Array MapEntry} (hs : σ[r]? = some (.map es)) (hl : g.loc r 0 = some (b, 0, 0)) (hb : w.heap[b]? = some (.map en en.size)) {n : Nat} (hn : en'.size = n) (hn' : n = es'.length)
    (he : ∀ (i : Nat) k v, es'[i]? = some (k, v) → ∃ e, en'[i]? = some e ∧ e.born = i ∧ VR g k e.key ∧ VR g v e.val) :
    HR g (σ.set r (.map es')) { w with heap := w.heap.setIfInBounds b (.map en' n) } ∧ Step w.heap.size g σ w g (σ.set r (.map es')) { w with heap := w.heap.setIfInBounds b (.map en' n) } := by
  subst hn
  have hrl : r < σ.length := (List.getElem?_eq_some_iff.1 hs).1
  obtain ⟨k1, k2⟩ := MapKept.heap_set (o' := .map en' en'.size) hb
  exact hr.upd (σ' := σ.set r (.map es')) (o := .map es') (r := r) (b := b) (.refl g) rfl
    (fun q' hq' => List.getElem?_set_ne (Ne.symm hq')) (by rw [List.getElem?_set_self hrl])
    ⟨b, en', hl, k1, hn', he⟩ rfl (by simp [blk, HObj.ver, hl])
    (.inl ⟨_, hs, rfl, by simp [blk, HObj.ver, hl]⟩) (fun q' hq' _ => k2 q' hq') (by simp) (by simpa using hrl) (by simp) (fun q v p hp => .inl hp) (fun o0 h0 => by rw [hs] at h0; cases h0; simp [HObj.ver]) rfl rfl rfl
def Turns (P : Program) (g : G) (σ : H) (a : Act) (w : World) (o : Oper) (e : Eff) (σ' : H) : Prop :=
  e.wr = none ∧ e.r = .u ∧ ∃ w', (execOp a.eval o).run P w = .ok .skip w' ∧ HR g σ' w' ∧ Step w.heap.size g σ w g σ' w'
theorem turn_eq {m : M Unit} {σ' : H} (h : (bindM m fun _ => pureM ({} : Eff)) σ = some (e, σ')) : m σ = some ((), σ') ∧ e.wr = none ∧ e.r = .u := by
  unfold bindM at h
  split at h <;> try (simp at h; done)
  rename_i u σ1 hy
  simp only [pureM, Option.some.injEq, Prod.mk.injEq] at h
  obtain ⟨rfl, rfl⟩ := h
  exact ⟨hy, rfl, rfl⟩
theorem run_keeps {u v : Value} (h : Instr.sameBits 10000 u v = true) : (Instr.keyThatStays u v).run P w = .ok v w := by
  simp [Instr.keyThatStays, h]
theorem Found.some {i : Nat} {v : AV} {r' : Option (Nat × Value)} (h : Found g (.some (i, v)) r') : ∃ u, r' = .some (i, u) ∧ VR g v u := by
  cases r' with
  | none => exact h.elim
  | some p => obtain ⟨j, u⟩ := p; obtain ⟨rfl, h2⟩ := h; exact ⟨u, rfl, h2⟩
theorem Found.none {r' : Option (Nat × Value)} (h : Found g .none r') : r' = .none := by
  cases r' with
  | none => rfl
  | some p => exact h.elim
theorem map_ents {es : List (AV × AV)} {en : Array MapEntry} (h : Ents g es en.toList) (hb : ∀ (i : Nat) e, en[i]? = some e → e.born = i) :
    en.size = es.length ∧ ∀ (i : Nat) k v, es[i]? = some (k, v) → ∃ e, en[i]? = some e ∧ e.born = i ∧ VR g k e.key ∧ VR g v e.val := by
  refine ⟨by simpa using h.1, fun i k v hi => ?_⟩
  obtain ⟨e, h1, h2, h3⟩ := h.2 i k v hi
  have h1' : en[i]? = some e := by simpa using h1
  exact ⟨e, h1', hb i e h1', h2, h3⟩
theorem ents_modify {es : List (AV × AV)} {en : Array MapEntry} (h : ∀ (i : Nat) k v, es[i]? = some (k, v) → ∃ e, en[i]? = some e ∧ e.born = i ∧ VR g k e.key ∧ VR g v e.val) {i : Nat} {k v : AV} {f : MapEntry → MapEntry} {e0 : MapEntry} (hi : en[i]? = some e0)
    (hf : (f e0).born = i ∧ VR g k (f e0).key ∧ VR g v (f e0).val) :
    ∀ (j : Nat) k' v', (es.set i (k, v))[j]? = some (k', v') → ∃ e, (en.modify i f)[j]? = some e ∧ e.born = j ∧ VR g k' e.key ∧ VR g v' e.val := by
  intro j k' v' hj
  rw [List.getElem?_set] at hj
  split at hj
  · subst_vars
    split at hj <;> simp at hj
    obtain ⟨rfl, rfl⟩ := hj
    exact ⟨f e0, by simp [Array.getElem?_modify, hi], hf⟩
  · rename_i hne
    obtain ⟨e, h1, h2⟩ := h j k' v' hj
    exact ⟨e, by simp [Array.getElem?_modify, hne, h1], h2⟩
theorem ents_push {es : List (AV × AV)} {en : Array MapEntry} (hn : en.size = es.length) (h : ∀ (i : Nat) k v, es[i]? = some (k, v) → ∃ e, en[i]? = some e ∧ e.born = i ∧ VR g k e.key ∧ VR g v e.val) {k v : AV} {uk uv : Value} (hk : VR g k uk) (hv : VR g v uv) :
    ∀ (j : Nat) k' v', (es ++ [(k, v)])[j]? = some (k', v') → ∃ e, (en.push { key := uk, val := uv, born := en.size })[j]? = some e ∧ e.born = j ∧ VR g k' e.key ∧ VR g v' e.val := by
  intro j k' v' hj
  rcases Nat.lt_trichotomy j es.length with hl | hl | hl
  · rw [List.getElem?_append_left hl] at hj
    obtain ⟨e, h1, h2⟩ := h j k' v' hj
    exact ⟨e, by rw [Array.getElem?_push, if_neg (by omega)]; exact h1, h2⟩
  · subst hl
    simp at hj
    obtain ⟨rfl, rfl⟩ := hj
    exact ⟨_, by rw [Array.getElem?_push, if_pos (by omega)], hn, hk, hv⟩
  · rw [List.getElem?_eq_none (by simp; omega)] at hj; cases hj
theorem kUpdate_turns (ht : Tys P C) (hr : HR g σ w) (hf : FR B g σ fr a w) {t : Nat} {x y z : Operand} (ho : o.op = .mapUpdate t x y z ∨ o.op = .insert t x y z) (h : kUpdate C fr t x y z σ = some (e, σ')) : Turns P g σ a w o e σ' := by
  obtain ⟨m, hm, h⟩ := app_eq h
  unfold kUpdate at hm
  split at hm <;> subst hm <;> try (simp [failM] at h; done)
  rename_i p q s hp hq hs
  obtain ⟨hz, h1, h2⟩ := turn_eq h
  have hvp := av_v hf hp
  have hvq := av_v hf hq
  have hvs := av_v hf hs
  have hexec : ∀ {w'}, (Instr.mapUpdate t (a.eval x) (a.eval y) (a.eval z)).run P w = .ok () w' → (execOp a.eval o).run P w = .ok .skip w' := by
    intro w' hx
    rcases ho with ho | ho <;> simp [execOp, ho, hx]
  unfold updateA at hz
  split at hz <;> try (simp at hz; done)
  rename_i tk te r hmo
  split at hz <;> try (simp at hz; done)
  rename_i es hes
  split at hz <;> try (simp at hz; done)
  rename_i hkey
  obtain ⟨hkey, hfit⟩ := hkey
  obtain ⟨kt, et, hu, htk, hte⟩ := mapOf_run ht hmo
  obtain ⟨b, en, h3, h4, h5, h6, h7⟩ := map_OR hr hes hvp
  obtain ⟨hsz, hents⟩ := map_ents h6 h7
  split at hz <;> simp at hz
  · rename_i i v' hrr
    subst hz
    obtain ⟨hck, r', hfk, hF⟩ := findKey_run (w := w) htk hkey hvq h6 hrr
    obtain ⟨uv, rfl, hF1⟩ := hF.some
    obtain ⟨x0, _, hx0, hfx0, heq⟩ := findIdx_get es 0 hrr
    simp only [Nat.sub_zero] at hx0
    obtain ⟨e0, he0, hborn, hk0, hv0⟩ := hents i x0 v' hx0
    have hfq : q.fits tk = true := by unfold keyOk at hkey; simp at hkey; exact hkey.2
    obtain ⟨rfl, hke, hsb⟩ := key_eq heq hfq hfx0 hvq hk0
    have hsb' : Instr.sameBits 10000 e0.key (a.eval y) = true := by rw [hke] at hsb ⊢; exact hsb
    have hset := MapKept.run_setObj_map (P := P) (.map (en.modify i fun e => { e with key := a.eval y, val := a.eval z }) en.size) h5
    obtain ⟨k1, k2⟩ := hr.mapSet (en' := en.modify i fun e => { e with key := a.eval y, val := a.eval z }) (es' := es.set i (q, s)) hes h4 h5 (n := en.size) (by simp) (by simpa using hsz)
      (ents_modify hents he0 ⟨hborn, hvq, hvs⟩)
    refine ⟨h1, h2, _, hexec ?_, k1, k2⟩
    simp [h3, Instr.mapUpdate, hu, getObj_map h5, hck, hfk, he0, run_keeps hsb', hset]
  · rename_i hrr
    subst hz
    obtain ⟨hck, r', hfk, hF⟩ := findKey_run (w := w) htk hkey hvq h6 hrr
    have := hF.none
    subst this
    have hset := MapKept.run_setObj_map (P := P) (.map (en.push { key := a.eval y, val := a.eval z, born := en.size }) (en.size + 1)) h5
    obtain ⟨k1, k2⟩ := hr.mapSet (en' := en.push { key := a.eval y, val := a.eval z, born := en.size }) (es' := es ++ [(q, s)]) hes h4 h5 (n := en.size + 1) (by simp) (by simp [hsz])
      (ents_push hsz hents hvq hvs)
    refine ⟨h1, h2, _, hexec ?_, k1, k2⟩
    simp [h3, Instr.mapUpdate, hu, getObj_map h5, hck, hfk, hset]
theorem kEntry_made (ht : Tys P C) (hr : HR g σ w) (hf : FR B g σ fr a w) {t : Nat} {x y : Operand} (ho : o.op = .mapEntry t x y) (h : kEntry C fr t x y σ = some (e, σ')) : Made P B g σ fr a w o e σ' := by
  obtain ⟨m, hm, h⟩ := app_eq h
  unfold kEntry at hm
  split at hm <;> subst hm <;> try (simp [failM] at h; done)
  rename_i p q hp hq
  obtain ⟨z, hz, h1, h2⟩ := retM_eq h
  have hvp := av_v hf hp
  have hvq := av_v hf hq
  have hexec : ∀ {v w'}, (Instr.mapEntry t (a.eval x) (a.eval y)).run P w = .ok v w' → (execOp a.eval o).run P w = .ok (.value v) w' := by
    intro v w' hx
    simp [execOp, ho, hx]
  have two : ∀ {v : AV} {u : Value} {i : Nat}, VR g v u → VR g (.tup [v, .int .i64 i]) (.tuple #[u, goInt i]) := by
    intro v u i hv
    refine VR_tup.2 ⟨_, rfl, by simp, fun j c hj => ?_⟩
    match j with
    | 0 => simp at hj; subst hj; exact ⟨_, rfl, hv⟩
    | 1 => simp at hj; subst hj; exact ⟨goInt i, rfl, VR_int.2 rfl⟩
    | j + 2 => simp at hj
  unfold entryA at hz
  split at hz <;> try (simp at hz; done)
  rename_i tk te r hmo
  split at hz <;> try (simp at hz; done)
  rename_i es hes
  split at hz <;> try (simp at hz; done)
  rename_i hkey
  obtain ⟨kt, et, hu, htk, hte⟩ := mapOf_run ht hmo
  obtain ⟨b, en, h3, h4, h5, h6, h7⟩ := map_OR hr hes hvp
  obtain ⟨hsz, hents⟩ := map_ents h6 h7
  split at hz <;> simp at hz
  · rename_i i v' hrr
    obtain ⟨rfl, rfl⟩ := hz
    obtain ⟨hck, r', hfk, hF⟩ := findKey_run (w := w) htk hkey hvq h6 hrr
    obtain ⟨uv, rfl, hF1⟩ := hF.some
    obtain ⟨x0, _, hx0, hfx0, heq⟩ := findIdx_get es 0 hrr
    simp only [Nat.sub_zero] at hx0
    obtain ⟨e0, he0, hborn, hk0, hv0⟩ := hents i x0 v' hx0
    have hfq : q.fits tk = true := by unfold keyOk at hkey; simp at hkey; exact hkey.2
    obtain ⟨rfl, hke, hsb⟩ := key_eq heq hfq hfx0 hvq hk0
    have hsb' : Instr.sameBits 10000 e0.key (a.eval y) = true := by rw [hke] at hsb ⊢; exact hsb
    have hset := MapKept.run_setObj_map (P := P) (.map (en.modify i fun e => { e with key := a.eval y }) en.size) h5
    have hrl : r < σ.length := (List.getElem?_eq_some_iff.1 hes).1
    have hself : es.set i (q, v') = es := by
      apply List.ext_getElem?
      intro j
      rw [List.getElem?_set]
      split
      · subst_vars; split
        · exact hx0.symm
        · rw [List.getElem?_eq_none (by omega)]
      · rfl
    obtain ⟨k1, k2⟩ := hr.mapSet (en' := en.modify i fun e => { e with key := a.eval y }) (es' := es.set i (q, v')) hes h4 h5 (n := en.size) (by simp) (by simpa using hsz)
      (ents_modify hents he0 ⟨hborn, hvq, hv0⟩)
    have hset2 : σ.set r (.map (es.set i (q, v'))) = σ := by
      rw [hself]
      apply List.ext_getElem?
      intro j
      by_cases hj : j = r
      · subst hj; rw [List.getElem?_set_self hrl]; exact hes.symm
      · rw [List.getElem?_set_ne (Ne.symm hj)]
    rw [hset2] at k1 k2
    refine ⟨h1, .tuple #[uv, goInt i], _, g, hexec ?_, k1, k2, ?_⟩
    · simp [h3, Instr.mapEntry, hu, getObj_map h5, hck, hfk, he0, run_keeps hsb', hset, hborn]
    · rw [h2]; exact two hF1
  · rename_i hrr
    obtain ⟨rfl, rfl⟩ := hz
    obtain ⟨hck, r', hfk, hF⟩ := findKey_run (w := w) htk hkey hvq h6 hrr
    have := hF.none
    subst this
    obtain ⟨z0, hz0, hzc⟩ := run_zero (P := P) (w := w) hte
    have hset := MapKept.run_setObj_map (P := P) (.map (en.push { key := a.eval y, val := z0, born := en.size }) (en.size + 1)) h5
    obtain ⟨k1, k2⟩ := hr.mapSet (en' := en.push { key := a.eval y, val := z0, born := en.size }) (es' := es ++ [(q, te.zero)]) hes h4 h5 (n := en.size + 1) (by simp) (by simp [hsz])
      (ents_push hsz hents hvq (constA_VR hzc))
    refine ⟨h1, .tuple #[z0, goInt en.size], _, g, hexec ?_, k1, k2, ?_⟩
    · simp [h3, Instr.mapEntry, hu, getObj_map h5, hck, hfk, hz0, hset]
    · rw [h2, ← hsz]; exact two (constA_VR hzc)
theorem findIdx_born {en : Array MapEntry} (hb : ∀ (i : Nat) e, en[i]? = some e → e.born = i) {j : Nat} (hj : j < en.size) {n : Int} (hn : n = j) : en.findIdx? (fun e => (e.born : Int) == n) = some j := by
  subst hn
  rw [Array.findIdx?_eq_some_iff_getElem]
  refine ⟨hj, ?_, fun q hq => ?_⟩
  · have := hb j en[j] (by simp [hj])
    simp [this]
  · have := hb q en[q] (by simp)
    rw [this]; simp
    try omega
theorem kEntryStore_turns (ht : Tys P C) (hr : HR g σ w) (hf : FR B g σ fr a w) {t : Nat} {x y z : Operand} (ho : o.op = .entryStore t x y z) (h : kEntryStore C fr t x y z σ = some (e, σ')) : Turns P g σ a w o e σ' := by
  obtain ⟨m, hm, h⟩ := app_eq h
  unfold kEntryStore at hm
  split at hm <;> subst hm <;> try (simp [failM] at h; done)
  rename_i p q s hp hq hs
  obtain ⟨hz, h1, h2⟩ := turn_eq h
  have hvp := av_v hf hp
  have hvq := av_v hf hq
  have hvs := av_v hf hs
  unfold entryStoreA at hz
  split at hz <;> try (simp at hz; done)
  rename_i tk te r n hmo
  split at hz <;> try (simp at hz; done)
  rename_i es hes
  split at hz <;> try (simp at hz; done)
  rename_i j hj
  split at hz <;> try (simp at hz; done)
  rename_i k v0 hkv
  split at hz <;> simp at hz
  rename_i hfit
  subst hz
  obtain ⟨hj1, hj2, hj3, hj4⟩ := idxN_eq hj
  obtain ⟨b, en, h3, h4, h5, h6, h7⟩ := map_OR hr hes hvp
  obtain ⟨hsz, hents⟩ := map_ents h6 h7
  obtain ⟨e0, he0, hborn, hk0, hv0⟩ := hents j k v0 hkv
  rw [VR_int] at hvq
  have hset := MapKept.run_setObj_map (P := P) (.map (en.modify j fun e => { e with val := a.eval z }) en.size) h5
  have hfi := findIdx_born h7 (j := j) (n := n) (by omega) (by omega)
  obtain ⟨k1, k2⟩ := hr.mapSet (en' := en.modify j fun e => { e with val := a.eval z }) (es' := es.set j (k, s)) hes h4 h5 (n := en.size) (by simp) (by simpa using hsz)
    (ents_modify hents he0 ⟨hborn, hk0, hvs⟩)
  refine ⟨h1, h2, _, ?_, k1, k2⟩
  simp [execOp, ho, h3, Instr.entryStore, getObj_map h5, hvq, asInt, asIntOf, hfi, hset]
end Go.Am
/-! ## part Store -/
/- The abstract machine and the model: lengths, the greater and the lesser, stores. -/
namespace Go.Am
open Go
variable {P : Program} {C : Ctx} {B : Nat} {g : G} {σ σ' : H} {w : World} {fr : Fr} {a : Act} {o : Oper} {e : Eff} {t : Nat} {ti : TI}
theorem VRs_one {x : AV} {vs : Array Value} (h : VRs g [x] vs) : ∃ u, vs = #[u] ∧ VR g x u := by
  obtain ⟨h1, h2⟩ := h
  obtain ⟨u, h3, h4⟩ := h2 0 x rfl
  refine ⟨u, ?_, h4⟩
  apply Array.ext_getElem?
  intro i
  match i with
  | 0 => simpa using h3
  | i + 1 => rw [Array.getElem?_eq_none (by simp [h1]), Array.getElem?_eq_none (by simp)]
theorem kLen_quiet (ht : Tys P C) (hr : HR g σ w) {c : Call} {l : List AV} (ho : o.op = .call c) (hc : c.callee = .builtin .len) (hv : VRs g l (c.args.map a.eval))
    (h : kLen C c.argTypes.toList l σ = some (e, σ')) : Quiet P B g σ fr a w o e σ' := by
  obtain ⟨m, hm, h⟩ := app_eq h
  unfold kLen at hm
  split at hm
  case h_2 => subst hm; simp [failM] at h
  rename_i t x hts
  split at hm
  case h_2 => subst hm; simp [failM] at h
  rename_i ti hti
  split at hm
  case isFalse => subst hm; simp [failM] at h
  rename_i hok
  subst hm
  have hat : c.argTypes = #[t] := by cases hq : c.argTypes; rw [hq] at hts; simp at hts; rw [hts]
  obtain ⟨u, hargs, hu⟩ := VRs_one hv
  obtain ⟨d, hd1, hd2⟩ := (ht t ti hti).desc
  have hexec : ∀ {r : Value} {w' : World}, (Builtin.len_ #[t] o.type #[u]).run P w = .ok r w' → (execOp a.eval o).run P w = .ok (.value r) w' := by
    intro r w' hr
    obtain ⟨cs, hcs⟩ := run_builtin (a := a) ho hc
    rw [hcs, hat, hargs]
    simp [builtin, hr]
  obtain ⟨z, hz, h1, h2⟩ := retM_eq h
  generalize ti.k = kk at hok hd2
  unfold lenOk at hok
  split at hok <;> try (simp at hok; done)
  all_goals cases d <;> simp [TK.of] at hd2
  all_goals simp only [lenM] at hz
  · -- a text
    simp at hz
    obtain ⟨rfl, rfl⟩ := hz
    obtain ⟨bs, rfl, rfl⟩ := VR_str.1 hu
    refine quiet_v ⟨h1, rfl, h2⟩ (v := goInt bs.size) (hexec ?_) (VR_int.2 ?_)
    · simp [Builtin.len_, run_underlying hd1]
    · have : bs.size = bs.data.toList.length := (Array.length_toList).symm
      rw [goInt, this]
  · simp at hz
    obtain ⟨rfl, rfl⟩ := hz
    rw [VR_nil] at hu
    subst hu
    exact quiet_v ⟨h1, rfl, h2⟩ (v := goInt 0) (hexec (by simp [Builtin.len_, run_underlying hd1])) (VR_int.2 rfl)
  · simp at hz
    obtain ⟨rfl, rfl⟩ := hz
    obtain ⟨ad, cap, rfl, _⟩ := VR_sl.1 hu
    exact quiet_v ⟨h1, rfl, h2⟩ (v := goInt _) (hexec (by simp [Builtin.len_, run_underlying hd1])) (VR_int.2 rfl)
  · simp at hz
    obtain ⟨rfl, rfl⟩ := hz
    obtain ⟨b, N, ad, cap, _, rfl, _⟩ := VR_hs.1 hu
    exact quiet_v ⟨h1, rfl, h2⟩ (v := goInt _) (hexec (by simp [Builtin.len_, run_underlying hd1])) (VR_int.2 rfl)
  · simp at hz
    obtain ⟨rfl, rfl⟩ := hz
    rw [VR_nilm] at hu
    subst hu
    exact quiet_v ⟨h1, rfl, h2⟩ (v := goInt 0) (hexec (by simp [Builtin.len_, run_underlying hd1])) (VR_int.2 rfl)
  · split at hz <;> simp at hz
    rename_i es hes
    obtain ⟨rfl, rfl⟩ := hz
    obtain ⟨b, en, rfl, h4, h5, h6, h7⟩ := map_OR hr hes hu
    refine quiet_v ⟨h1, rfl, h2⟩ (v := goInt en.size) (hexec ?_) (VR_int.2 ?_)
    · simp [Builtin.len_, run_underlying hd1, getObj_map h5]
    · rw [(map_ents h6 h7).1]; rfl
theorem mm_quiet {c : Call} {op : BinOp} {b : Builtin} {l : List AV} (ho : o.op = .call c) (hc : c.callee = .builtin b) (hb : (op = .gtr ∧ b = .max) ∨ (op = .lss ∧ b = .min)) (hv : VRs g l (c.args.map a.eval))
    (h : (match l with | [x, y] => retO (mmA op x y) | _ => failM) σ = some (e, σ')) : Quiet P B g σ fr a w o e σ' := by
  split at h <;> try (simp [failM] at h; done)
  rename_i x y
  obtain ⟨u, v, hargs, hu, hv'⟩ := VRs_two hv
  obtain ⟨z, hz, h'⟩ := retO_eq h
  obtain ⟨cs, hcs⟩ := run_builtin (a := a) ho hc
  cases x <;> try (rcases hb with ⟨rfl, rfl⟩ | ⟨rfl, rfl⟩ <;> simp [mmA] at hz; done)
  cases y <;> try (rcases hb with ⟨rfl, rfl⟩ | ⟨rfl, rfl⟩ <;> simp [mmA] at hz; done)
  rename_i j x k y
  rw [VR_int] at hu hv'
  subst hu; subst hv'
  rcases hb with ⟨rfl, rfl⟩ | ⟨rfl, rfl⟩ <;> simp only [mmA] at hz <;> split at hz <;> try (simp at hz; done)
  · obtain rfl := Option.some.inj hz
    exact quiet_v h' (v := .int j (if y > x then y else x)) (by rw [hcs, hargs]; simp only [builtin, Sem.run_bind, run_max_int2, Result.andThen_ok, Sem.run_pure]) (VR_int.2 rfl)
  · obtain rfl := Option.some.inj hz
    exact quiet_v h' (v := .int j (if y < x then y else x)) (by rw [hcs, hargs]; simp only [builtin, Sem.run_bind, run_min_int2, Result.andThen_ok, Sem.run_pure]) (VR_int.2 rfl)
/-! ### stores -/
theorem put_splice {ti : TI} {cs new : Array Value} {base off : Nat} {x y z : AV} (hp : putAt ti off y x = some z) (hn : CellsR g x.cells new) (hm : MemR g (fun q => cs[q]?) base y) (hb : base + y.cells.length ≤ cs.size) :
    off + new.size ≤ y.cells.length ∧ z.cells.length = y.cells.length ∧ MemR g (fun q => (splice cs new (base + off))[q]?) base z := by
  unfold putAt at hp
  split at hp <;> try (simp at hp; done)
  rename_i hf
  have hxl := fits_len hf
  split at hp
  · rename_i hc
    obtain ⟨rfl, hfy⟩ := hc
    simp at hp; subst hp
    have hyl := fits_len hfy
    have hsz : 0 + new.size ≤ y.cells.length := by rw [hn.1]; omega
    obtain ⟨h1, h2⟩ := splice_get (cs := cs) (new := new) (p := base + 0) (by omega)
    refine ⟨hsz, by omega, fun j c hj => ?_⟩
    obtain ⟨u, h3, h4⟩ := hn.2 j c hj
    refine ⟨u, ?_, h4⟩
    have hjl : j < x.cells.length := (List.getElem?_eq_some_iff.1 hj).1
    have := hn.1
    show (splice cs new (base + 0))[base + j]? = some u
    rw [h2, if_neg (by omega), if_pos (by omega), ← h3]
    congr 1; omega
  · rename_i hnc
    clear hnc
    cases y <;> simp only [reduceCtorEq] at hp
    rename_i ds
    split at hp <;> simp at hp
    rename_i hl
    subst hp
    have hsz : off + new.size ≤ ds.length := by rw [hn.1]; omega
    simp only [AV.cells] at hb ⊢
    obtain ⟨h1, h2⟩ := splice_get (cs := cs) (new := new) (p := base + off) (by omega)
    obtain ⟨h3, h4⟩ := setCells_get x.cells ds off (by omega)
    refine ⟨hsz, h3, fun j c hj => ?_⟩
    have hj : (setCells ds off x.cells)[j]? = some c := hj
    rw [h4] at hj
    show ∃ u, (splice cs new (base + off))[base + j]? = some u ∧ _
    have hnn := hn.1
    split at hj
    · rename_i hc
      obtain ⟨u, h5, h6⟩ := hn.2 _ c hj
      refine ⟨u, ?_, h6⟩
      rw [h2, if_neg (by omega), if_pos (by omega), ← h5]
      congr 1; omega
    · rename_i hc
      obtain ⟨u, h5, h6⟩ := hm j c (by simpa [AV.cells] using hj)
      refine ⟨u, ?_, h6⟩
      rw [h2]
      split
      · exact h5
      · rw [if_neg (by omega)]; exact h5
theorem CellsR.one {cs : List AV} {arr : Array Value} (h : CellsR g cs arr) : ∀ v ∈ arr.toList, v.oneCell' = true := by
  intro v hv
  obtain ⟨j, hj, rfl⟩ := List.getElem_of_mem hv
  have hjl : j < cs.length := by have := h.1; simp at hj; omega
  obtain ⟨u, h1, h2, _⟩ := h.2 j cs[j] (by simp [hjl])
  have : arr[j]? = some arr.toList[j] := by simp at hj; simp [hj]
  rw [this] at h1; cases h1
  exact h2
theorem store_run (ht : TyOK P t ti) {b p el : Nat} {cs : Array Value} {x : AV} {v : Value} (hx : VR g x v) (hf : x.fits ti = true) (hw : w.heap[b]? = some (.cells cs el (0, 0))) (hb : p + v.cells.size ≤ cs.size) :
    (Instr.storeAt t (.pointer (some ⟨b, p, none⟩)) v).run P w = .ok () (w.setRow b (splice cs v.cells p)) := by
  have hc := fits_CellsR hx hf
  have hsz : v.cells.size = ti.size := by rw [hc.1, fits_len hf]
  have hst := run_storeCells_at (P := P) b p el v.cells.toList 0 cs w hw (by simpa using hb) hc.one
  simp only [Instr.storeAt, Instr.sureAddr, Sem.run_bind, Sem.run_pure, Result.andThen_ok, storeVar, run_size ht, hsz, ne_eq, not_true_eq_false, if_false]
  rw [hst]
  simp only [splice, Nat.add_zero]
structure Boxed (B : Nat) (g : G) (σ : H) (w : World) (b : Nat) (z : AV) (w' : World) : Prop where
  hr : HR g σ w'
  heap : ∀ q, q ≠ b → w'.heap[q]? = w.heap[q]?
  size : w'.heap.size = w.heap.size
  priv : Priv B g σ w' b z
  os : w'.os = w.os
  tape : w'.tape = w.tape
  output : w'.output = w.output
def Boxes (P : Program) (B : Nat) (g : G) (σ : H) (fr : Fr) (a : Act) (w : World) (o : Oper) (e : Eff) (σ' : H) : Prop :=
  σ' = σ ∧ e.r = .u ∧ fr.lk = false ∧ ∃ d b x z w', e.wr = some (d, z) ∧ getS fr.sl d = .bx x ∧ a.tmps[d]? = some (.pointer (some ⟨b, 0, none⟩)) ∧ Priv B g σ w b x ∧
    (execOp a.eval o).run P w = .ok .skip w' ∧ Boxed B g σ w b z w'
theorem HR.boxed {b : Nat} (hr : HR g σ w) (ho : ¬ Owned g σ b) (him : ∀ q, g.im b q = none) {w' : World} {cs cs' : Array Value} {el el' : Nat} {f f' : Nat × Nat} (hb : w.heap[b]? = some (.cells cs el f)) (hb' : w'.heap[b]? = some (.cells cs' el' f')) (hs : cs'.size = cs.size) (hq : ∀ q, q ≠ b → w'.heap[q]? = w.heap[q]?) : HR g σ w' := by
  refine ⟨fun b' o u hu => ?_, fun r o h => ?_, hr.inj, hr.free, hr.dom, hr.top, fun x hx => let ⟨k1, u, k2⟩ := hr.tb x hx; ⟨k1.keep (hq x.1 (fun e => by rw [e, him] at k2; cases k2)), u, k2⟩⟩
  · have hne : b' ≠ b := fun e => by subst e; rw [him] at hu; cases hu
    rw [cell_of_heap (hq b' hne)]; exact hr.im b' o u hu
  · by_cases hbk : blk g r o = some b
    · cases hm : o.mut with
      | true => exact absurd ⟨r, o, h, hm, hbk⟩ ho
      | false =>
        cases o with
        | map es => simp [HObj.mut] at hm
        | it s => simp [HObj.mut] at hm
        | arr fz sz xs =>
          simp [HObj.mut] at hm
          subst hm
          obtain ⟨b1, N, cs1, el1, f1, h1, h2, h3, h4, h5, h6, h7⟩ := hr.ob r _ h
          have : b1 = b := by simp [blk, HObj.ver, h1] at hbk; exact hbk
          subst this
          rw [hb] at h2; cases h2
          refine ⟨b1, N, cs', el', f', h1, hb', by omega, h4, fun i x hi => ⟨(h5 i x hi).1, fun j c hj => ?_⟩, fun h => (by cases h), h7⟩
          obtain ⟨h8, h9⟩ := h5 i x hi
          have hil : i < xs.length := (List.getElem?_eq_some_iff.1 hi).1
          have hjl : j < x.cells.length := (List.getElem?_eq_some_iff.1 hj).1
          have hpos : 0 < xs.length * sz := Nat.mul_pos (by omega) (by omega)
          obtain ⟨u, hu⟩ := h7 rfl 0 hpos
          rw [him] at hu; cases hu
    · exact (hr.ob r o h).keep (.refl g) fun b' hb1 => hq b' (fun e => by subst e; exact hbk hb1)
theorem box_store (ht : TyOK P t ti) (hr : HR g σ w) {b off : Nat} {x y z : AV} {v : Value} (hv : VR g x v) (hb : Priv B g σ w b y) (hp : putAt ti off y x = some z) :
    ∃ w', (Instr.storeAt t (.pointer (some ⟨b, off, none⟩)) v).run P w = .ok () w' ∧ Boxed B g σ w b z w' := by
  obtain ⟨p1, p2, p3, cs, el, p4, p5, p6⟩ := hb
  have hf : x.fits ti = true := by
    unfold putAt at hp
    split at hp
    · assumption
    · cases hp
  obtain ⟨h1, h2, h3⟩ := put_splice (base := 0) hp (fits_CellsR hv hf) p6 (by omega)
  have hrun := store_run (P := P) ht hv hf p4 (p := off) (by omega)
  obtain ⟨s1, s2, s3, s4, s5⟩ := setRow_facts w b (splice cs v.cells off)
  have s6 := setRow_heap w b cs (splice cs v.cells off) el (0, 0) p4
  have s7 := (splice_get (cs := cs) (new := v.cells) (p := off) (by omega)).1
  rw [Nat.zero_add] at h3
  exact ⟨_, hrun, hr.boxed p2 p3 p4 s6 s7 s1, s1, s2, ⟨p1, p2, p3, _, el, s6, by omega, h3⟩, s3, s4, s5⟩
theorem heap_store (ht : TyOK P t ti) (hr : HR g σ w) {r v' i off sz : Nat} {xs : List AV} {x y z : AV} {v u : Value} (hu : VR g (.ptr r v' i off) u) (hv : VR g x v) (ha : arrAt σ r v' = some (false, sz, xs)) (hi : xs[i]? = some y) (hp : putAt ti off y x = some z) :
    ∃ w', (Instr.storeAt t u v).run P w = .ok () w' ∧ HR g (σ.set r (.arr false sz (xs.set i z))) w' ∧ Step w.heap.size g σ w g (σ.set r (.arr false sz (xs.set i z))) w' := by
  obtain ⟨hl, hs, hor⟩ := arrAt_OR hr ha
  obtain ⟨b, N, cs, el, f, k1, k2, k3, k4, k5, k6, k7⟩ := hor
  have hf0 := k6 rfl
  subst hf0
  obtain ⟨b', sz', N', h1, rfl⟩ := VR_ptr.1 hu
  rw [← hl, k1] at h1
  cases h1
  have hf : x.fits ti = true := by
    unfold putAt at hp
    split at hp
    · assumption
    · cases hp
  obtain ⟨h2, h3⟩ := k5 i y hi
  have hil : i < xs.length := (List.getElem?_eq_some_iff.1 hi).1
  have hbd : i * sz + sz ≤ cs.size := by
    rw [k3, ← Nat.succ_mul]
    exact Nat.le_trans (Nat.mul_le_mul_right _ hil) k4
  obtain ⟨h4, h5, h6⟩ := put_splice (base := i * sz) hp (fits_CellsR hv hf) h3 (by omega)
  have hrun := store_run (P := P) ht hv hf k2 (p := i * sz + off) (by omega)
  obtain ⟨s1, s2, s3, s4, s5⟩ := setRow_facts w b (splice cs v.cells (i * sz + off))
  have s6 := setRow_heap w b cs (splice cs v.cells (i * sz + off)) el (0, 0) k2
  obtain ⟨s7, s8⟩ := splice_get (cs := cs) (new := v.cells) (p := i * sz + off) (by omega)
  have hrl : r < σ.length := (List.getElem?_eq_some_iff.1 hs).1
  have hlen : (xs.set i z).length = xs.length := by simp
  have hbk : blk g r (.arr false sz xs) = some b := by simp [blk, HObj.ver, k1]
  have hmem : ∀ (j : Nat) x', (xs.set i z)[j]? = some x' → x'.cells.length = sz ∧ MemR g (fun q => (splice cs v.cells (i * sz + off))[q]?) (j * sz) x' := by
    intro j x' hj
    by_cases hne : i = j
    · subst hne
      rw [List.getElem?_set_self hil] at hj
      cases hj
      exact ⟨by omega, h6⟩
    · rw [List.getElem?_set_ne hne] at hj
      obtain ⟨h7, h8⟩ := k5 j x' hj
      refine ⟨h7, fun q c hq => ?_⟩
      obtain ⟨uu, h9, h10⟩ := h8 q c hq
      have hql : q < x'.cells.length := (List.getElem?_eq_some_iff.1 hq).1
      refine ⟨uu, ?_, h10⟩
      show (splice cs v.cells (i * sz + off))[j * sz + q]? = some uu
      rw [s8]
      rcases Nat.lt_or_gt_of_ne hne with hlt | hlt
      · have : (i + 1) * sz ≤ j * sz := Nat.mul_le_mul_right _ hlt
        rw [Nat.succ_mul] at this
        rw [if_neg (by omega), if_neg (by omega)]; exact h9
      · have : (j + 1) * sz ≤ i * sz := Nat.mul_le_mul_right _ hlt
        rw [Nat.succ_mul] at this
        rw [if_pos (by omega)]; exact h9
  obtain ⟨q1, q2⟩ := hr.upd (σ' := σ.set r (.arr false sz (xs.set i z))) (o := .arr false sz (xs.set i z)) (r := r) (b := b) (w' := w.setRow b (splice cs v.cells (i * sz + off))) (.refl g) rfl
    (fun q' hq' => List.getElem?_set_ne (Ne.symm hq')) (by rw [List.getElem?_set_self hrl])
    ⟨b, N, _, el, (0, 0), by rw [hlen]; exact k1, s6, by omega, by rw [hlen]; exact k4, hmem, fun _ => rfl, fun h => by cases h⟩ rfl (by simp [blk, HObj.ver, k1])
    (.inl ⟨_, hs, rfl, hbk⟩) (fun q' hq' _ => s1 q' hq') (by rw [s2]; exact Nat.le_refl _) (by simpa using hrl) (by simp) (fun q' v p hp => .inl hp) (fun o0 h0 => by rw [hs] at h0; cases h0; simp [HObj.ver]) s3 s4 s5
  exact ⟨_, hrun, q1, q2⟩
theorem kStore_sound (ht : Tys P C) (hr : HR g σ w) (hf : FR B g σ fr a w) {t : Nat} {x y : Operand} (ho : o.op = .store t x y) (h : kStore C fr t x y σ = some (e, σ')) :
    Turns P g σ a w o e σ' ∨ Boxes P B g σ fr a w o e σ' := by
  obtain ⟨m, hm, h⟩ := app_eq h
  unfold kStore at hm
  split at hm
  · rename_i ti d off z hti hx hy
    split at hm
    case isTrue => subst hm; simp [failM] at h
    rename_i hlk
    split at hm
    case h_2 => subst hm; simp [failM] at h
    rename_i y0 hy0
    split at hm <;> subst hm <;> try (simp [failM] at h; done)
    rename_i z' hz'
    simp only [pureM, Option.some.injEq, Prod.mk.injEq] at h
    obtain ⟨rfl, rfl⟩ := h
    obtain ⟨h1, b, h2, h3⟩ := ev_lp hf hx
    obtain ⟨b', h4, hp⟩ := boxAt_Priv hf hy0
    rw [h2] at h4; cases h4
    obtain ⟨w', h5, h6⟩ := box_store (P := P) (ht t ti hti) hr (av_v hf hy) hp hz'
    have hg : getS fr.sl d = .bx y0 := by
      unfold boxAt at hy0
      split at hy0 <;> simp at hy0
      rename_i hs
      subst hy0
      exact hs
    exact .inr ⟨rfl, rfl, by simpa using hlk, d, b, y0, z', w', rfl, hg, h2, hp, by simp [execOp, ho, h3, h5], h6⟩
  · rename_i ti p q hti hx hy
    subst hm
    obtain ⟨hz, h1, h2⟩ := turn_eq h
    unfold storeA at hz
    split at hz <;> try (simp at hz; done)
    rename_i r v' i off
    split at hz <;> try (simp at hz; done)
    rename_i sz xs ha
    split at hz <;> try (simp at hz; done)
    rename_i y0 hy0
    split at hz <;> simp at hz
    rename_i z' hz'
    subst hz
    obtain ⟨w', h3, h4, h5⟩ := heap_store (P := P) (ht t ti hti) hr (ev_v hf hx) (av_v hf hy) ha hy0 hz'
    exact .inl ⟨h1, h2, w', by simp [execOp, ho, h3], h4, h5⟩
  · subst hm; simp [failM] at h
end Go.Am
/-! ## part Op -/
/- The abstract machine and the model: one operation. -/
namespace Go.Am
open Go
variable {P : Program} {C : Ctx} {B : Nat} {g : G} {σ σ' : H} {w : World} {fr : Fr} {a : Act} {o : Oper} {e : Eff}
inductive After (B : Nat) (g : G) (σ : H) (fr : Fr) (a : Act) (w : World) (e : Eff) (σ' : H) (v : Value) (g' : G) (w' : World) : Prop
  | calm (hw : e.wr = none) (hr : HR g' σ' w') (st : Step w.heap.size g σ w g' σ' w') (hv : VSR B g' σ' fr a w' w.heap.size v e.r)
  | box (d b : Nat) (x z : AV) (hw : e.wr = some (d, z)) (hg : g' = g) (hσ : σ' = σ) (hu : e.r = .u) (lk : fr.lk = false) (hs : getS fr.sl d = .bx x) (ht : a.tmps[d]? = some (.pointer (some ⟨b, 0, none⟩)))
      (hp : Priv B g σ w b x) (hb : Boxed B g σ w b z w')
def Does (P : Program) (B : Nat) (g : G) (σ : H) (fr : Fr) (a : Act) (w : World) (o : Oper) (e : Eff) (σ' : H) : Prop :=
  ∀ (K : Act → World → Prop) (Q : Exit → Act → World → Prop), (∀ v w' g', After B g σ fr a w e σ' v g' w' → K (a.put o.dst v) w') → o.wp P a w K Q
theorem Made.does (h : Made P B g σ fr a w o e σ') : Does P B g σ fr a w o e σ' := by
  obtain ⟨h1, v, w', g', h2, h3, h4, h5⟩ := h
  intro K Q hk
  unfold Oper.wp
  rw [h2]
  exact hk v w' g' (.calm h1 h3 h4 h5)
theorem Turns.does (h : Turns P g σ a w o e σ') : Does P B g σ fr a w o e σ' := by
  obtain ⟨h1, h2, w', h3, h4, h5⟩ := h
  intro K Q hk
  unfold Oper.wp
  rw [h3]
  exact hk undef w' g (.calm h1 h4 h5 (by rw [h2]; trivial))
theorem Boxes.does (h : Boxes P B g σ fr a w o e σ') : Does P B g σ fr a w o e σ' := by
  obtain ⟨rfl, h2, h3, d, b, x, z, w', h4, h5, h6, h7, h8, h9⟩ := h
  intro K Q hk
  unfold Oper.wp
  rw [h8]
  exact hk undef w' g (.box d b x z h4 rfl rfl h2 h3 h5 h6 h7 h9)
def Serves (P : Program) (f : Nat) (vs : Array Value) (w : World) (R : Value → World → Prop) : Prop :=
  ((callFunc f vs).run P w = .ok (.enter f vs) w ∧ Calls P f vs w fun | .returned v, w' => R v w' | _, _ => False) ∨
  (∃ v w', (callFunc f vs).run P w = .ok (.value v) w' ∧ R v w')
def Back (g : G) (σ : H) (w : World) (r : AV) (σ' : H) (v : Value) (w' : World) : Prop :=
  ∃ g', HR g' σ' w' ∧ Step w.heap.size g σ w g' σ' w' ∧ VR g' r v
def CallOK (P : Program) (rec : Nat → List AV → M AV) : Prop :=
  ∀ f l σ r σ', rec f l σ = some (r, σ') → ∀ g w vs, HR g σ w → VRs g l vs → Serves P f vs w (Back g σ w r σ')
theorem VRs.app {l m : List AV} {vs us : Array Value} (h : VRs g l vs) (k : VRs g m us) : VRs g (l ++ m) (vs ++ us) := by
  refine ⟨by simp [h.1, k.1], fun j c hj => ?_⟩
  by_cases hl : j < l.length
  · rw [List.getElem?_append_left hl] at hj
    obtain ⟨u, h1, h2⟩ := h.2 j c hj
    exact ⟨u, by rw [Array.getElem?_append_left (by rw [h.1]; exact hl)]; exact h1, h2⟩
  · rw [List.getElem?_append_right (by omega)] at hj
    obtain ⟨u, h1, h2⟩ := k.2 _ c hj
    exact ⟨u, by rw [Array.getElem?_append_right (by rw [h.1]; omega), h.1]; exact h1, h2⟩
theorem args_VRs (hf : FR B g σ fr a w) {args : Array Operand} {l : List AV} (h : avs fr args.toList = some l) : VRs g l (args.map a.eval) := by
  have := avs_VRs hf h
  have e : (args.toList.map a.eval).toArray = args.map a.eval := by apply Array.ext'; simp
  rwa [e] at this
theorem kCall_does {rec : Nat → List AV → M AV} {hp : List Nat} (ht : Tys P C) (hrec : CallOK P rec) (hr : HR g σ w) (hf : FR B g σ fr a w) {c : Call} (ho : o.op = .call c) (h : kCall C fr rec hp c o.dst σ = some (e, σ')) : Does P B g σ fr a w o e σ' := by
  obtain ⟨m, hm, h⟩ := app_eq h
  unfold kCall at hm
  split at hm
  case h_1 => subst hm; simp [failM] at h
  rename_i l hl
  have hv := args_VRs hf hl
  split at hm
  · rename_i x hc
    split at hm <;> subst hm <;> try (simp [failM] at h; done)
    rename_i f caps hx
    obtain ⟨r, hz, h1, h2⟩ := retM_eq h
    obtain ⟨vs, h3, h4⟩ := VR_fn.1 (av_v hf hx)
    have hs := hrec _ _ _ _ _ hz g w _ hr (hv.app h4)
    have hexec : (execOp a.eval o) = callFunc f ((c.args.map a.eval) ++ vs) := by
      simp [execOp, ho, resolve, hc, h3, Deferred.ofValue, invoke]
    intro K Q hk
    unfold Oper.wp
    rw [hexec]
    rcases hs with ⟨h5, h6⟩ | ⟨v, w', h5, g', h6, h7, h8⟩
    · rw [h5]
      refine Calls.mono h6 fun en w' he => ?_
      cases en with
      | returned v =>
        obtain ⟨g', h6, h7, h8⟩ := he
        exact hk v w' g' (.calm h1 h6 h7 (by rw [h2]; exact h8))
      | panicked ch => exact he.elim
      | outgrown => exact he.elim
    · rw [h5]
      exact hk v w' g' (.calm h1 h6 h7 (by rw [h2]; exact h8))
  · rename_i hc
    subst hm
    exact ((kLen_quiet ht hr ho hc hv h).made hr).does
  · rename_i hc
    subst hm
    exact (kAppend_made ht hr ho hc hv h).does
  · rename_i hc
    have h' : (match l with | [x, y] => retO (mmA .gtr x y) | _ => failM) σ = some (e, σ') := by subst hm; revert h; rcases l with _ | ⟨x, _ | ⟨y, _ | ⟨z, l⟩⟩⟩ <;> exact id
    exact ((mm_quiet (B := B) (fr := fr) ho hc (.inl ⟨rfl, rfl⟩) hv h').made hr).does
  · rename_i hc
    have h' : (match l with | [x, y] => retO (mmA .lss x y) | _ => failM) σ = some (e, σ') := by subst hm; revert h; rcases l with _ | ⟨x, _ | ⟨y, _ | ⟨z, l⟩⟩⟩ <;> exact id
    exact ((mm_quiet (B := B) (fr := fr) ho hc (.inr ⟨rfl, rfl⟩) hv h').made hr).does
  · subst hm; simp [failM] at h
theorem opE_does {rec : Nat → List AV → M AV} {hp ip : List Nat} (ht : Tys P C) (hrec : CallOK P rec) (hr : HR g σ w) (hf : FR B g σ fr a w) (hB : B ≤ w.heap.size) {so : SOp} (hop : o.op = so.op) (hd : o.dst = so.dst)
    (h : opE C fr rec hp ip so σ = some (e, σ')) : Does P B g σ fr a w o e σ' := by
  obtain ⟨m, hm, h⟩ := app_eq h
  unfold opE at hm
  rw [← hop, ← hd] at hm
  split at hm
  · rename_i x ho; subst hm
    exact ((kMove_sound hf (o := o) (by simp [execOp, ho]) h).made hr).does
  · rename_i x ho; subst hm
    exact ((kMove_sound hf (o := o) (by simp [execOp, ho]) h).made hr).does
  · rename_i ho; subst hm; exact ((kPick_sound hf ho h).made hr).does
  · rename_i ho; subst hm; exact (kAlloc_made ht hr hB ho h).does
  · rename_i ho; subst hm; exact (kBox_made ht hr hf hB ho h).does
  · rename_i ho; subst hm; exact ((kBuild_sound ht hf ho h).made hr).does
  · rename_i ho; subst hm; exact (kBuildSlice_made ht hr hf ho h).does
  · rename_i ho; subst hm; exact (kMakeSlice_made ht hr hf ho h).does
  · rename_i ho; subst hm; exact ((kLoad_sound ht hr hf ho h).made hr).does
  · rename_i ho; subst hm
    rcases kStore_sound ht hr hf ho h with h | h
    · exact h.does
    · exact h.does
  · rename_i ho; subst hm; exact ((kNil_sound hf ho h).made hr).does
  · rename_i ho; subst hm; exact ((kBin_sound ht hf ho h).made hr).does
  · rename_i ho; subst hm; exact ((kUn_sound hf ho h).made hr).does
  · rename_i ho
    split at hm <;> subst hm <;> try (simp [failM] at h; done)
    rename_i ts hts
    obtain ⟨d, hd1, _⟩ := (ht _ _ hts).desc
    exact (kConv_made ht hr hf ho (by rw [hd1]; rfl) h).does
  · rename_i ho; subst hm; exact ((kFunc_sound hf ho h).made hr).does
  · rename_i ho; subst hm; exact (kMakeMap_made hr ho h).does
  · rename_i ho; subst hm; exact ((kSlice_sound ht hf ho h).made hr).does
  · rename_i ho; subst hm; exact ((kFieldAddr_sound ht hf ho h).made hr).does
  · rename_i ho; subst hm; exact ((kField_sound ht hf ho h).made hr).does
  · rename_i ho; subst hm; exact ((kIndexAddr_sound ht hf ho h).made hr).does
  · rename_i ho; subst hm; exact ((kIndex_sound ht hf ho h).made hr).does
  · rename_i ho; subst hm; exact ((kLookup_sound ht hr hf ho h).made hr).does
  · rename_i ho; subst hm; exact (kUpdate_turns ht hr hf (.inl ho) h).does
  · rename_i ho; subst hm; exact (kUpdate_turns ht hr hf (.inr ho) h).does
  · rename_i ho; subst hm; exact (kEntry_made ht hr hf ho h).does
  · rename_i ho; subst hm; exact (kEntryStore_turns ht hr hf ho h).does
  · rename_i ho; subst hm; exact ((kExtract_sound hf ho h).made hr).does
  · rename_i ho; subst hm; exact (kRange_made ht hr hf ho h).does
  · rename_i ho; subst hm; exact kCall_does ht hrec hr hf ho h
  · subst hm; simp [failM] at h
end Go.Am
/-! ## part Frame -/
/- The abstract machine and the model: frames behind an operation. -/
namespace Go.Am
open Go
variable {P : Program} {C : Ctx} {B n : Nat} {g g' : G} {σ σ' : H} {w w' : World} {fr : Fr} {a : Act} {o : Oper} {e : Eff}
theorem getS_put (fr : Fr) (d : Nat) (s : SV) (t : Nat) : getS (fr.put d s).sl t = if d = t then s else getS fr.sl t := getS_cons _ _ _ _
theorem dstOk_box {d : Nat} (h : fr.dstOk (some d) = true) : (getS fr.sl d).isBox = false := by
  unfold Fr.dstOk at h
  simp only at h
  cases hs : getS fr.sl d <;> rw [hs] at h <;> first | rfl | (simp at h)
theorem tmps_put {d t : Nat} {v : Value} (hn : d < a.tmps.size) : (a.put (some d) v).tmps[t]? = if d = t then some v else a.tmps[t]? := by
  show (a.tmps.setIfInBounds d v)[t]? = _
  rw [Array.getElem?_setIfInBounds]
  split
  · simp [hn]
  · rfl
theorem tmps_put_ne {d t : Nat} {v : Value} (h : d ≠ t) : (a.put (some d) v).tmps[t]? = a.tmps[t]? := by
  show (a.tmps.setIfInBounds d v)[t]? = _
  rw [Array.getElem?_setIfInBounds, if_neg h]
theorem size_put (d : Option Nat) (v : Value) : (a.put d v).tmps.size = a.tmps.size := by
  cases d
  · rfl
  · show (a.tmps.setIfInBounds _ v).size = _; simp
theorem defers_put (d : Option Nat) (v : Value) : (a.put d v).defers = a.defers := by cases d <;> rfl
theorem bool_of_isBox {s : SV} (h : s.isBox = true) : (∃ x, s = .bx x) ∨ s = .hb := by
  cases s <;> simp [SV.isBox] at h
  · exact .inl ⟨_, rfl⟩
  · exact .inr rfl
theorem FR.put (hf : FR B g σ fr a w) (hst : Step w.heap.size g σ w g' σ' w') {d : Nat} (hd : fr.dstOk (some d) = true) (hn : d < a.tmps.size) {v : Value} {s : SV} (hv : VSR B g' σ' fr a w' w.heap.size v s) :
    FR B g' σ' (fr.put d s) (a.put (some d) v) w' := by
  have hf' := hf.step hst
  have hnb := dstOk_box hd
  have hne : ∀ q, (getS fr.sl q).isBox = true → d ≠ q := fun q hq e => by subst e; rw [hnb] at hq; cases hq
  refine ⟨fun t => ?_, fun t t' x x' u h1 h2 h3 h4 => ?_, by rw [defers_put]; exact hf'.defers⟩
  · rw [getS_put]
    split
    · subst_vars
      cases s with
      | u => trivial
      | v x => exact ⟨v, by rw [tmps_put hn, if_pos rfl], hv⟩
      | lp q off =>
        obtain ⟨h1, b, h2, h3⟩ := hv
        have hq := hne q h1
        exact ⟨by rw [getS_put, if_neg hq]; exact h1, b, by rw [tmps_put_ne hq]; exact h2, by rw [tmps_put hn, if_pos rfl, h3]⟩
      | bx x =>
        obtain ⟨b, h1, h2, h3⟩ := hv
        exact ⟨b, by rw [tmps_put hn, if_pos rfl, h1], h2⟩
      | hb => exact hv.elim
    · rename_i hdt
      have := hf'.sv t
      revert this
      generalize hs : getS fr.sl t = s'
      intro this
      cases s' with
      | u => trivial
      | v x => obtain ⟨u, h1, h2⟩ := this; exact ⟨u, by rw [tmps_put_ne hdt]; exact h1, h2⟩
      | lp q off =>
        obtain ⟨h1, b, h2, h3⟩ := this
        have hq := hne q h1
        exact ⟨by rw [getS_put, if_neg hq]; exact h1, b, by rw [tmps_put_ne hq]; exact h2, by rw [tmps_put_ne hdt]; exact h3⟩
      | bx x => obtain ⟨b, h1, h2⟩ := this; exact ⟨b, by rw [tmps_put_ne hdt]; exact h1, h2⟩
      | hb => obtain ⟨b, h1⟩ := this; exact ⟨b, by rw [tmps_put_ne hdt]; exact h1⟩
  · have old : ∀ t x u, getS fr.sl t = .bx x → a.tmps[t]? = some u → ∃ b, u = .pointer (some ⟨b, 0, none⟩) ∧ b < w.heap.size := by
      intro t x u hs hu
      obtain ⟨b, h5, h6⟩ := hf.get t hs
      rw [hu] at h5; cases h5
      obtain ⟨_, _, _, cs, el, h7, _⟩ := h6
      exact ⟨b, rfl, (Array.getElem?_eq_some_iff.1 h7).1⟩
    have new : ∀ x, s = .bx x → ∃ b, v = .pointer (some ⟨b, 0, none⟩) ∧ w.heap.size ≤ b := by
      intro x hs
      subst hs
      obtain ⟨b, h5, _, h6⟩ := hv
      exact ⟨b, h5, h6⟩
    rw [getS_put] at h1 h2
    rw [tmps_put hn] at h3 h4
    by_cases e1 : d = t
    · by_cases e2 : d = t'
      · rw [← e1, ← e2]
      · rw [if_pos e1] at h1 h3
        rw [if_neg e2] at h2 h4
        cases h3
        obtain ⟨b, h5, h6⟩ := new x h1
        obtain ⟨b', h7, h8⟩ := old t' x' _ h2 h4
        rw [h5] at h7; cases h7; omega
    · by_cases e2 : d = t'
      · rw [if_neg e1] at h1 h3
        rw [if_pos e2] at h2 h4
        cases h4
        obtain ⟨b, h5, h6⟩ := new x' h2
        obtain ⟨b', h7, h8⟩ := old t x _ h1 h3
        rw [h5] at h7; cases h7; omega
      · rw [if_neg e1] at h1 h3
        rw [if_neg e2] at h2 h4
        exact hf.inj t t' x x' u h1 h2 h3 h4
theorem FR.forget (hf : FR B g σ fr a w) {d : Nat} (hd : fr.dstOk (some d) = true) (hn : d < a.tmps.size) (v : Value) : FR B g σ (fr.put d .u) (a.put (some d) v) w :=
  hf.put (.refl _ _ _ _) hd hn (v := v) (s := .u) trivial
theorem FR.box (hf : FR B g σ fr a w) {d b : Nat} {x z : AV} (hs : getS fr.sl d = .bx x) (ht : a.tmps[d]? = some (.pointer (some ⟨b, 0, none⟩))) (hb : Boxed B g σ w b z w') : FR B g σ (fr.put d (.bx z)) a w' := by
  have hbox : (getS fr.sl d).isBox = true := by rw [hs]; rfl
  have isb : ∀ q, (getS fr.sl q).isBox = true → (getS (fr.put d (.bx z)).sl q).isBox = true := by
    intro q hq
    rw [getS_put]
    split
    · rfl
    · exact hq
  have hbc : ∃ cs el f, w.heap[b]? = some (.cells cs el f) := by
    obtain ⟨b0, k1, _, _, _, cs, el, k2, _⟩ := hf.get d hs
    rw [ht] at k1
    cases k1
    exact ⟨cs, el, _, k2⟩
  refine ⟨fun t => ?_, fun t t' y y' u h1 h2 h3 h4 => ?_, hf.defers.heap fun D _ h2 h3 => ⟨by
    rw [hb.heap D fun e => by
      obtain ⟨cs, el, f, k⟩ := hbc
      rw [e, k] at h2
      cases h2]
    exact h2, h3⟩⟩
  · rw [getS_put]
    split
    · subst_vars; exact ⟨b, ht, hb.priv⟩
    · rename_i hdt
      have := hf.sv t
      revert this
      generalize hs' : getS fr.sl t = s'
      intro this
      cases s' with
      | u => trivial
      | v y => exact this
      | lp q off => obtain ⟨h1, h2⟩ := this; exact ⟨isb q h1, h2⟩
      | bx y =>
        obtain ⟨b', h1, p1, p2, p3, cs, el, p4, p5⟩ := this
        have hne : b' ≠ b := fun e => by
          subst e
          exact hdt (hf.inj d t x y _ hs hs' ht h1)
        exact ⟨b', h1, p1, p2, p3, cs, el, by rw [hb.heap b' hne]; exact p4, p5⟩
      | hb => exact this
  · rw [getS_put] at h1 h2
    have h1' : ∃ y, getS fr.sl t = .bx y := by
      split at h1
      · subst_vars; exact ⟨_, hs⟩
      · exact ⟨_, h1⟩
    have h2' : ∃ y, getS fr.sl t' = .bx y := by
      split at h2
      · subst_vars; exact ⟨_, hs⟩
      · exact ⟨_, h2⟩
    obtain ⟨y1, h1'⟩ := h1'
    obtain ⟨y2, h2'⟩ := h2'
    exact hf.inj t t' y1 y2 u h1' h2' h3 h4
theorem Boxed.step {b : Nat} {x z : AV} (hb : Boxed B g σ w b z w') (hp : Priv B g σ w b x) : Step B g σ w g σ w' :=
  ⟨.refl _, by rw [hb.size]; exact Nat.le_refl _, fun q hq _ => hb.heap q (by have := hp.lo; omega), fun _ h => .inl h, fun _ _ _ h => .inl h, hb.os, hb.tape, hb.output⟩
def To (n B : Nat) (g : G) (σ : H) (w : World) (σ' : H) (fr' : Fr) (a' : Act) (w' : World) : Prop :=
  ∃ g', HR g' σ' w' ∧ FR B g' σ' fr' a' w' ∧ Step B g σ w g' σ' w' ∧ a'.tmps.size = n
def dstIn (n : Nat) : Option Nat → Bool
  | none => true
  | some d => decide (d < n)
theorem After.to (hf : FR B g σ fr a w) (hB : B ≤ w.heap.size) (hsz : a.tmps.size = n) {dst : Option Nat} (hd : fr.dstOk dst = true) (hn : dstIn n dst = true) {v : Value} (h : After B g σ fr a w e σ' v g' w') :
    HR g' σ' w' ∧ FR B g' σ' (fr.app dst e) (a.put dst v) w' ∧ Step B g σ w g' σ' w' ∧ (a.put dst v).tmps.size = n := by
  have hn' : ∀ d, dst = some d → d < a.tmps.size := by
    intro d e; subst e; simp [dstIn] at hn; omega
  cases h with
  | calm hw hr st hv =>
    refine ⟨hr, ?_, st.mono hB, by rw [size_put]; exact hsz⟩
    unfold Fr.app
    rw [hw]
    cases dst with
    | none => exact hf.step st
    | some d => exact hf.put st hd (hn' d rfl) hv
  | box d b x z hw hg hσ hu lk hs ht hp hb =>
    subst hg; subst hσ
    refine ⟨hb.hr, ?_, hb.step hp, by rw [size_put]; exact hsz⟩
    have hf2 := hf.box hs ht hb
    unfold Fr.app
    rw [hw]
    cases dst with
    | none => exact hf2
    | some q =>
      simp only [hu]
      refine hf2.forget ?_ (hn' q rfl) v
      have hq := dstOk_box hd
      have hne : d ≠ q := fun e => by subst e; rw [hs] at hq; cases hq
      unfold Fr.dstOk
      simp only [getS_put, if_neg hne]
      exact hd
theorem bindM_eq {α R : Type} {m : M α} {k : α → M R} {r : R × H} (h : bindM m k σ = some r) : ∃ x σ1, m σ = some (x, σ1) ∧ k x σ1 = some r := by
  unfold bindM at h
  split at h
  · rename_i x σ1 hx; exact ⟨x, σ1, hx, h⟩
  · cases h
theorem obind_eq {α R : Type} {x : Option α} {k : α → M R} {r : R × H} (h : obind x k σ = some r) : ∃ y, x = some y ∧ k y σ = some r := by
  unfold obind at h
  split at h
  · exact ⟨_, rfl, h⟩
  · cases h
theorem pureM_eq {R : Type} {x y : R} (h : pureM x σ = some (y, σ')) : y = x ∧ σ' = σ := by
  simp only [pureM, Option.some.injEq, Prod.mk.injEq] at h
  exact ⟨h.1.symm, h.2.symm⟩
theorem failM_eq {R : Type} {r : R × H} (h : (failM : M R) σ = some r) : False := by cases h
theorem stepE_eq {rec : Nat → List AV → M AV} {hp ip : List Nat} {so : SOp} {fr' : Fr} (h : stepE C fr rec hp ip so σ = some (fr', σ')) :
    fr.dstOk so.dst = true ∧ ∃ e, opE C fr rec hp ip so σ = some (e, σ') ∧ fr' = fr.app so.dst e ∧ (fr.lk = true → e.wr = none) := by
  obtain ⟨m, hm, h⟩ := app_eq h
  unfold stepE at hm
  split at hm
  case isFalse => subst hm; exact (failM_eq h).elim
  rename_i hdo
  subst hm
  obtain ⟨e, σ1, he, h⟩ := bindM_eq h
  obtain ⟨m, hm, h⟩ := app_eq h
  split at hm
  case isTrue => subst hm; exact (failM_eq h).elim
  rename_i hlk
  subst hm
  obtain ⟨rfl, rfl⟩ := pureM_eq h
  refine ⟨hdo, e, he, rfl, fun hl => ?_⟩
  cases hw : e.wr with
  | none => rfl
  | some p => exact absurd ⟨hl, by rw [hw]; rfl⟩ hlk
theorem stepE_to {rec : Nat → List AV → M AV} {hp ip : List Nat} (ht : Tys P C) (hrec : CallOK P rec) (hr : HR g σ w) (hf : FR B g σ fr a w) (hB : B ≤ w.heap.size) (hsz : a.tmps.size = n) {so : SOp} (hop : o.op = so.op) (hd : o.dst = so.dst) (hn : dstIn n so.dst = true)
    {fr' : Fr} (h : stepE C fr rec hp ip so σ = some (fr', σ')) {K : Act → World → Prop} {Q : Exit → Act → World → Prop} (hk : ∀ a' w', To n B g σ w σ' fr' a' w' → K a' w') : o.wp P a w K Q := by
  obtain ⟨hdo, e, he, rfl, _⟩ := stepE_eq h
  refine opE_does ht hrec hr hf hB hop hd he K Q fun v w' g' ha => hk _ _ ?_
  rw [hd]
  obtain ⟨h1, h2, h3, h4⟩ := ha.to hf hB hsz hdo hn
  exact ⟨g', h1, h2, h3, h4⟩
theorem To.refl (hr : HR g σ w) (hf : FR B g σ fr a w) (hsz : a.tmps.size = n) : To n B g σ w σ fr a w := ⟨g, hr, hf, .refl _ _ _ _, hsz⟩
end Go.Am
/-! ## part Ops -/
/- The abstract machine and the model: operations in a row, and those that are wanted by what others yield. -/
namespace Go.Am
open Go
variable {P : Program} {C : Ctx} {B n : Nat} {g g' : G} {σ σ' : H} {w w' : World} {fr : Fr} {a : Act} {o : Oper} {e : Eff}
def Match (ops : Array Oper) (i : Nat) (l : List (SOp × Gd)) : Prop :=
  ∀ (k : Nat) x, l[k]? = some x → ∃ o, ops[i + k]? = some o ∧ o.op = x.1.op ∧ o.dst = x.1.dst ∧ o.guard = x.2
theorem Match.head {ops : Array Oper} {i : Nat} {x : SOp × Gd} {l : List (SOp × Gd)} (h : Match ops i (x :: l)) : (∃ o, ops[i]? = some o ∧ o.op = x.1.op ∧ o.dst = x.1.dst ∧ o.guard = x.2) ∧ Match ops (i + 1) l :=
  ⟨by simpa using h 0 x rfl, fun k y hk => by
    obtain ⟨o, h1, h2⟩ := h (k + 1) y (by simpa using hk)
    exact ⟨o, by rw [← h1]; congr 1; omega, h2⟩⟩
theorem Match.left {ops : Array Oper} {i : Nat} {l m : List (SOp × Gd)} (h : Match ops i (l ++ m)) : Match ops i l := fun k x hk => h k x (by rw [List.getElem?_append_left (List.getElem?_eq_some_iff.1 hk).1]; exact hk)
theorem Match.right {ops : Array Oper} {i : Nat} {l m : List (SOp × Gd)} (h : Match ops i (l ++ m)) : Match ops (i + l.length) m := fun k x hk => by
  obtain ⟨o, h1, h2⟩ := h (l.length + k) x (by rw [List.getElem?_append_right (by omega)]; simpa using hk)
  exact ⟨o, by rw [← h1]; congr 1; omega, h2⟩
theorem memN_mem {d : Nat} : ∀ {l : List Nat}, memN d l = true ↔ d ∈ l
  | [] => by simp [memN]
  | x :: l => by
    simp only [memN, List.mem_cons]
    split
    · subst_vars; simp
    · rename_i h; rw [memN_mem (l := l)]; constructor
      · exact .inr
      · rintro (rfl | h')
        · exact absurd rfl h
        · exact h'
theorem dstsF_app : ∀ (l m : List (SOp × Gd)), dstsF (l ++ m) = dstsF l ++ dstsF m
  | [], _ => rfl
  | x :: l, m => by simp [dstsF, dstsF_app l m]
mutual
theorem flatOp_dsts (g g' : Gd) : ∀ x : AOp, dstsF (flatOp g x) = dstsF (flatOp g' x)
  | .op o => rfl
  | .cnd j c want body pk => by simp [flatOp, dstsF_app, dstsF]
theorem flatOps_dsts (g g' : Gd) : ∀ l : List AOp, dstsF (flatOps g l) = dstsF (flatOps g' l)
  | [] => rfl
  | x :: l => by simp only [flatOps, dstsF_app]; rw [flatOp_dsts g g' x, flatOps_dsts g g' l]
end
/-! ### slots forgotten -/
theorem getS_drop : ∀ (l : List Nat) (fr fr0 : Fr), fr.drop l = some fr0 → fr0.lk = fr.lk ∧ (∀ d ∈ l, fr.dstOk (some d) = true) ∧ ∀ t, getS fr0.sl t = if t ∈ l then .u else getS fr.sl t
  | [], fr, fr0, h => by simp [Fr.drop] at h; subst h; simp
  | d :: l, fr, fr0, h => by
    simp only [Fr.drop] at h
    split at h <;> try (cases h; done)
    rename_i hd
    obtain ⟨h1, h2, h3⟩ := getS_drop l _ _ h
    refine ⟨h1, fun q hq => ?_, fun t => ?_⟩
    · rcases List.mem_cons.1 hq with rfl | hq
      · exact hd
      · have := h2 q hq
        unfold Fr.dstOk at this ⊢
        simp only [getS_put] at this
        by_cases hdq : d = q
        · subst hdq; exact hd
        · rw [if_neg hdq] at this; exact this
    · rw [h3, getS_put]
      by_cases ht : t ∈ l
      · simp [ht]
      · by_cases hdt : d = t
        · subst hdt; simp
        · simp [ht, hdt, Ne.symm hdt]
theorem drop_app : ∀ (l m : List Nat) (fr fr0 : Fr), fr.drop (l ++ m) = some fr0 → ∃ fr1, fr.drop l = some fr1 ∧ fr1.drop m = some fr0
  | [], m, fr, fr0, h => ⟨fr, rfl, h⟩
  | d :: l, m, fr, fr0, h => by
    simp only [List.cons_append, Fr.drop] at h
    split at h <;> try (cases h; done)
    rename_i hd
    obtain ⟨fr1, h1, h2⟩ := drop_app l m _ _ h
    exact ⟨fr1, by simp only [Fr.drop]; rw [if_pos hd]; exact h1, h2⟩
theorem FR.less (hf : FR B g σ fr a w) {fr0 : Fr} (h : ∀ t, getS fr0.sl t = .u ∨ getS fr0.sl t = getS fr.sl t) (hb : ∀ t d off, getS fr0.sl t = .lp d off → (getS fr0.sl d).isBox = true) : FR B g σ fr0 a w := by
  refine ⟨fun t => ?_, fun t t' x x' v h1 h2 h3 h4 => ?_, hf.defers⟩
  · rcases h t with h1 | h1
    · rw [h1]; trivial
    · have hb' := hb t
      rw [h1] at hb' ⊢
      have := hf.sv t
      revert this hb'
      generalize hs : getS fr.sl t = s
      intro hb' this
      cases s with
      | u => trivial
      | v x => exact this
      | bx x => exact this
      | hb => exact this
      | lp d off =>
        obtain ⟨h2, h3⟩ := this
        exact ⟨hb' d off rfl, h3⟩
  · rcases h t with h5 | h5
    · rw [h5] at h1; cases h1
    · rcases h t' with h6 | h6
      · rw [h6] at h2; cases h2
      · exact hf.inj t t' x x' v (h5 ▸ h1) (h6 ▸ h2) h3 h4
theorem drop_lp (hf : FR B g σ fr a w) {l : List Nat} {fr0 : Fr} (h : fr.drop l = some fr0) : ∀ t d off, getS fr0.sl t = .lp d off → (getS fr0.sl d).isBox = true := by
  obtain ⟨_, h1, h2⟩ := getS_drop l fr fr0 h
  intro t d off ht
  rw [h2] at ht
  split at ht
  · cases ht
  · obtain ⟨h3, _⟩ := hf.get t ht
    rw [h2]
    split
    · rename_i hd
      have := dstOk_box (h1 d hd)
      rw [this] at h3; cases h3
    · exact h3
theorem FR.lock (hf : FR B g σ fr a w) (b : Bool) : FR B g σ { fr with lk := b } a w := ⟨hf.sv, hf.inj, hf.defers⟩
/-! ### checks on a region's operations -/
def skF (j : Nat) (want : Bool) (ds : List (Option Nat)) : List Nat → List (SOp × Gd) → Bool
  | _, [] => true
  | un, (o, g) :: l => (match g with
    | some (j', w') => (j' == j && w' == want) || (match ds[j']? with | some (some c') => memN c' un | _ => false)
    | none => false) && skF j want ds (o.dst.toList ++ un) l
mutual
def chkOp (n : Nat) (ds : List (Option Nat)) : AOp → Bool
  | .op o => dstIn n o.dst
  | .cnd j c want body pk => (match ds[j]? with | some (some c') => c' == c | _ => false) && !memN c (dstsF (flatOps none body)) && chkOps n ds body && dstIn n pk.dst && skF j want ds [] (flatOps (some (j, want)) body)
def chkOps (n : Nat) (ds : List (Option Nat)) : List AOp → Bool
  | [] => true
  | a :: l => chkOp n ds a && chkOps n ds l
end
mutual
theorem chk_dst (n : Nat) (ds : List (Option Nat)) (g : Gd) : ∀ x : AOp, chkOp n ds x = true → ∀ p ∈ flatOp g x, dstIn n p.1.dst = true
  | .op o, h, p, hp => by simp [flatOp] at hp; subst hp; exact h
  | .cnd j c want body pk, h, p, hp => by
    simp only [chkOp, Bool.and_eq_true] at h
    simp only [flatOp, List.mem_append, List.mem_singleton] at hp
    rcases hp with hp | rfl
    · exact chks_dst n ds _ body h.1.1.2 p hp
    · exact h.1.2
theorem chks_dst (n : Nat) (ds : List (Option Nat)) (g : Gd) : ∀ l : List AOp, chkOps n ds l = true → ∀ p ∈ flatOps g l, dstIn n p.1.dst = true
  | [], _, p, hp => by simp [flatOps] at hp
  | x :: l, h, p, hp => by
    simp only [chkOps, Bool.and_eq_true] at h
    simp only [flatOps, List.mem_append] at hp
    rcases hp with hp | hp
    · exact chk_dst n ds g x h.1 p hp
    · exact chks_dst n ds g l h.2 p hp
end
/-! ### what is written where no local variable may be written -/
theorem app_get {dst : Option Nat} (h : e.wr = none) (t : Nat) (ht : ∀ d, dst = some d → d ≠ t) : getS (fr.app dst e).sl t = getS fr.sl t := by
  unfold Fr.app
  rw [h]
  cases dst with
  | none => rfl
  | some d => simp only; rw [getS_put, if_neg (ht d rfl)]
theorem app_lk {dst : Option Nat} : (fr.app dst e).lk = fr.lk := by
  unfold Fr.app
  cases e.wr with
  | none => cases dst <;> rfl
  | some p => obtain ⟨b, x⟩ := p; cases dst <;> rfl
theorem mem_dsts_cons {o : SOp} {g : Gd} {l : List (SOp × Gd)} {t : Nat} (h : t ∉ dstsF ((o, g) :: l)) : (∀ d, o.dst = some d → d ≠ t) ∧ t ∉ dstsF l := by
  simp only [dstsF, List.mem_append, not_or] at h
  refine ⟨fun d hd e => ?_, h.2⟩
  subst e
  exact h.1 (by rw [hd]; simp)
variable {rec : Nat → List AV → M AV} {hp ip : List Nat}
mutual
theorem runOp_keep : ∀ (x : AOp) (fr fr' : Fr) (σ σ' : H), runOp C rec hp ip x fr σ = some (fr', σ') → fr.lk = true → fr'.lk = true ∧ ∀ t, t ∉ dstsF (flatOp none x) → getS fr'.sl t = getS fr.sl t
  | .op o, fr, fr', σ, σ', h, hlk => by
    simp only [runOp] at h
    obtain ⟨_, e, _, rfl, hw⟩ := stepE_eq h
    refine ⟨by rw [app_lk]; exact hlk, fun t ht => app_get (hw hlk) t (mem_dsts_cons (by simpa [flatOp] using ht)).1⟩
  | .cnd j c want body pk, fr, fr', σ, σ', h, hlk => by
    obtain ⟨m, hm, h⟩ := app_eq h
    simp only [runOp] at hm
    split at hm
    case h_2 => subst hm; exact (failM_eq h).elim
    rename_i t c' x y fr0 d hc hpk hdr hdo hpd
    split at hm
    case isFalse => subst hm; exact (failM_eq h).elim
    subst hm
    obtain ⟨z, σ1, _, h⟩ := bindM_eq h
    obtain ⟨rfl, rfl⟩ := pureM_eq h
    obtain ⟨h1, h2, h3⟩ := getS_drop _ _ _ hdr
    refine ⟨h1.trans hlk, fun q hq => ?_⟩
    simp only [flatOp, dstsF_app, List.mem_append, not_or] at hq
    obtain ⟨hq1, hq2⟩ := hq
    have hq3 := (mem_dsts_cons hq2).1 d hpd
    rw [getS_put, if_neg hq3, h3, if_neg (by rw [flatOps_dsts none (some (j, want))]; exact hq1)]
theorem runOps_keep : ∀ (l : List AOp) (fr fr' : Fr) (σ σ' : H), runOps C rec hp ip l fr σ = some (fr', σ') → fr.lk = true → fr'.lk = true ∧ ∀ t, t ∉ dstsF (flatOps none l) → getS fr'.sl t = getS fr.sl t
  | [], fr, fr', σ, σ', h, hlk => by
    simp only [runOps] at h
    obtain ⟨rfl, rfl⟩ := pureM_eq h
    exact ⟨hlk, fun _ _ => rfl⟩
  | x :: l, fr, fr', σ, σ', h, hlk => by
    simp only [runOps] at h
    obtain ⟨fr1, σ1, h1, h2⟩ := bindM_eq h
    obtain ⟨k1, k2⟩ := runOp_keep x fr fr1 σ σ1 h1 hlk
    obtain ⟨k3, k4⟩ := runOps_keep l fr1 fr' σ1 σ' h2 k1
    refine ⟨k3, fun t ht => ?_⟩
    simp only [flatOps, dstsF_app, List.mem_append, not_or] at ht
    rw [k4 t ht.2, k2 t ht.1]
end
/-! ### operations that are not wanted -/
def NoB (a : Act) (c : Nat) : Prop := ∀ b, a.tmps[c]? ≠ some (.bool b)
theorem NoB.put {c d : Nat} (h : NoB a c) : NoB (a.put (some d) undef) c := by
  intro b hb
  by_cases hd : d = c
  · subst hd
    by_cases hs : d < a.tmps.size
    · rw [tmps_put hs, if_pos rfl] at hb; cases hb
    · have : (a.put (some d) undef).tmps[d]? = a.tmps[d]? := by
        show (a.tmps.setIfInBounds d undef)[d]? = _
        simp only [Array.setIfInBounds, hs, dite_false]
      rw [this] at hb; exact h b hb
  · rw [tmps_put_ne hd] at hb; exact h b hb
theorem NoB.self {d : Nat} (a : Act) : NoB (a.put (some d) undef) d := by
  intro b hb
  by_cases hs : d < a.tmps.size
  · rw [tmps_put hs, if_pos rfl] at hb; cases hb
  · have := size_put (a := a) (some d) undef
    rw [Array.getElem?_eq_none (by omega)] at hb; cases hb
theorem yielded_eq {ops : Array Oper} {j c : Nat} (h : (ops[j]?).bind (·.dst) = some c) : yielded ops a.tmps j = match a.tmps[c]? with | some (.bool b) => some b | _ => none := by
  simp only [yielded, h, Option.bind_some]
  rfl
theorem skip_ops {ops : Array Oper} {Q : Exit → Act → World → Prop} {j c : Nat} {want t : Bool} {ds : List (Option Nat)} (hds : ∀ (j' c' : Nat), ds[j']? = some (some c') → (ops[j']?).bind (·.dst) = some c') (hj : ds[j]? = some (some c)) (htw : t ≠ want) :
    ∀ (l : List (SOp × Gd)) (i : Nat) (un : List Nat) (fr fr0 : Fr) (a : Act), Match ops i l → skF j want ds un l = true → fr.drop (dstsF l) = some fr0 → (∀ p ∈ l, dstIn n p.1.dst = true) → c ∉ dstsF l → FR B g σ fr a w → a.tmps.size = n →
    a.tmps[c]? = some (.bool t) → (∀ c' ∈ un, NoB a c') → ∀ rest, (∀ a', FR B g σ fr0 a' w → a'.tmps.size = n → wpOps P ops Q rest a' w) → wpOps P ops Q (List.range' i l.length ++ rest) a w
  | [], i, un, fr, fr0, a, _, _, hd, _, _, hf, hsz, _, _, rest, hk => by
    simp [dstsF, Fr.drop] at hd
    subst hd
    simpa using hk a hf hsz
  | (so, gd) :: l, i, un, fr, fr0, a, hm, hs, hd, hin, hc, hf, hsz, ht, hun, rest, hk => by
    obtain ⟨⟨o, ho, ho1, ho2, ho3⟩, hm'⟩ := hm.head
    simp only at ho1 ho2 ho3
    obtain ⟨hc1, hc2⟩ := mem_dsts_cons hc
    simp only [skF, Bool.and_eq_true] at hs
    obtain ⟨hs1, hs2⟩ := hs
    have hnw : Region.wanted o (yielded ops a.tmps) = false := by
      unfold Region.wanted
      rw [ho3]
      cases gd with
      | none => simp at hs1
      | some p =>
        obtain ⟨j', w'⟩ := p
        simp only [Bool.or_eq_true, Bool.and_eq_true, beq_iff_eq] at hs1
        simp only
        rcases hs1 with ⟨rfl, rfl⟩ | hs1
        · rw [yielded_eq (hds _ _ hj), ht]
          simpa using htw
        · split at hs1
          · rename_i c' hc'
            have := hun c' (memN_mem.1 hs1)
            rw [yielded_eq (hds _ _ hc')]
            cases hq : a.tmps[c']? with
            | none => rfl
            | some v =>
              cases v <;> first | rfl | skip
              rename_i b
              exact absurd hq (this b)
          · cases hs1
    rw [List.length_cons, List.range'_succ, List.cons_append]
    simp only [wpOps, ho, hnw, Bool.false_eq_true, if_false]
    rw [ho2]
    have hin' := hin _ (List.mem_cons_self ..)
    have hun' : ∀ c' ∈ so.dst.toList ++ un, NoB (a.put so.dst undef) c' := by
      intro c' hc'
      cases hsd : so.dst with
      | none => rw [hsd] at hc'; exact hun c' (by simpa using hc')
      | some d =>
        rw [hsd] at hc'
        simp only [Option.toList_some, List.singleton_append, List.mem_cons] at hc'
        rcases hc' with rfl | hc'
        · exact NoB.self a
        · exact (hun c' hc').put
    have ht' : (a.put so.dst undef).tmps[c]? = some (.bool t) := by
      cases hsd : so.dst with
      | none => exact ht
      | some d => rw [tmps_put_ne (hc1 d hsd)]; exact ht
    cases hsd : so.dst with
    | none =>
      rw [hsd] at ht' hun'
      simp only [dstsF, hsd, Option.toList_none, List.nil_append] at hd
      exact skip_ops hds hj htw l (i + 1) _ fr fr0 a hm' (by rw [hsd] at hs2; exact hs2) hd (fun p hp => hin p (List.mem_cons_of_mem _ hp)) hc2 hf hsz ht' hun' rest hk
    | some d =>
      rw [hsd] at ht' hun'
      simp only [dstsF, hsd, Option.toList_some, List.singleton_append, Fr.drop] at hd
      split at hd <;> try (cases hd; done)
      rename_i hdo
      have hdn : d < a.tmps.size := by simp [hsd, dstIn] at hin'; omega
      exact skip_ops hds hj htw l (i + 1) _ (fr.put d .u) fr0 (a.put (some d) undef) hm' (by rw [hsd] at hs2; exact hs2) hd (fun p hp => hin p (List.mem_cons_of_mem _ hp)) hc2 (hf.forget hdo hdn undef) (by rw [size_put]; exact hsz) ht' hun' rest hk
/-! ### groups -/
theorem wop {ops : Array Oper} {Q : Exit → Act → World → Prop} {i : Nat} {rest : List Nat} (ho : ops[i]? = some o) (hw : Region.wanted o (yielded ops a.tmps) = true) (h : o.wp P a w (wpOps P ops Q rest) Q) : wpOps P ops Q (i :: rest) a w := by
  simp only [wpOps, ho, hw, if_true]
  exact .inl h
def Wnt (ops : Array Oper) (fr : Fr) (g : Gd) : Prop :=
  ∀ j w, g = some (j, w) → ∃ c, (ops[j]?).bind (·.dst) = some c ∧ getS fr.sl c = .v (.bool w)
theorem Wnt.wanted {ops : Array Oper} (hf : FR B g σ fr a w) {gd : Gd} (h : Wnt ops fr gd) (ho : o.guard = gd) : Region.wanted o (yielded ops a.tmps) = true := by
  unfold Region.wanted
  rw [ho]
  cases gd with
  | none => rfl
  | some p =>
    obtain ⟨j, w'⟩ := p
    obtain ⟨c, h1, h2⟩ := h j w' rfl
    obtain ⟨v, h3, h4⟩ := hf.get c h2
    rw [VR_bool] at h4
    subst h4
    simp only
    rw [yielded_eq h1, h3]
    simp
def Free (ops : Array Oper) (fr : Fr) (g : Gd) (l : List (SOp × Gd)) : Prop :=
  Wnt ops fr g ∧ ∀ j w, g = some (j, w) → fr.lk = true ∧ ∀ c, (ops[j]?).bind (·.dst) = some c → c ∉ dstsF l
theorem pk_wp {ops : Array Oper} {Q : Exit → Act → World → Prop} {i : Nat} {rest : List Nat} {gd : Gd} {pk : SOp} {c d : Nat} {x y : Operand} {t : Bool} {z : AV} (ho : ops[i]? = some o) (h1 : o.op = pk.op) (h2 : o.dst = pk.dst) (h3 : o.guard = gd)
    (hpk : pkOps pk.op = some (.tmp c, x, y)) (hpd : pk.dst = some d) (hdn : d < a.tmps.size) (hdo : fr.dstOk (some d) = true) (hr : HR g σ w) (hf : FR B g σ fr a w) (hw : Wnt ops fr gd) (hc : getS fr.sl c = .v (.bool t)) (hz : VR g z (a.eval (cond t x y)))
    (hk : ∀ a' w', HR g σ w' → FR B g σ (fr.put d (.v z)) a' w' → w' = w → a'.tmps.size = a.tmps.size → wpOps P ops Q rest a' w') : wpOps P ops Q (i :: rest) a w := by
  refine wop ho (hw.wanted hf h3) ?_
  obtain ⟨v, h4, h5⟩ := hf.get c hc
  rw [VR_bool] at h5
  subst h5
  have hop : o.op = .pick (.tmp c) x y := by
    rw [h1]
    unfold pkOps at hpk
    split at hpk
    · rename_i c' a' b' hq
      simp at hpk
      obtain ⟨rfl, rfl, rfl⟩ := hpk
      exact hq
    · cases hpk
  have hev : a.eval (.tmp c) = .bool t := by simp only [Act.eval, getD_of h4]
  have hexec : (execOp a.eval o).run P w = .ok (.value (a.eval (cond t x y))) w := by
    cases t <;> simp [execOp, hop, hev, asBool]
  unfold Oper.wp
  rw [hexec, Oper.upon_value, h2, hpd]
  exact hk _ _ hr (hf.put (.refl _ _ _ _) hdo hdn (by exact hz)) rfl (size_put _ _)
mutual
theorem runOp_to (ht : Tys P C) (hrec : CallOK P rec) {ops : Array Oper} {Q : Exit → Act → World → Prop} {ds : List (Option Nat)} (hds : ∀ (j' c' : Nat), ds[j']? = some (some c') → (ops[j']?).bind (·.dst) = some c') :
    ∀ (x : AOp) (gd : Gd) (i : Nat) (g : G) (fr fr' : Fr) (σ σ' : H) (a : Act) (w : World), runOp C rec hp ip x fr σ = some (fr', σ') → Match ops i (flatOp gd x) → chkOp n ds x = true → Free ops fr gd (flatOp gd x) → HR g σ w → FR B g σ fr a w → B ≤ w.heap.size → a.tmps.size = n →
    ∀ rest, (∀ a' w', To n B g σ w σ' fr' a' w' → wpOps P ops Q rest a' w') → wpOps P ops Q (List.range' i (flatOp gd x).length ++ rest) a w
  | .op so, gd, i, g, fr, fr', σ, σ', a, w, h, hm, hch, hfree, hr, hf, hB, hsz, rest, hk => by
    simp only [runOp] at h
    simp only [flatOp] at hm ⊢
    obtain ⟨⟨o, ho, ho1, ho2, ho3⟩, _⟩ := hm.head
    simp only [List.length_singleton, List.range'_one, List.singleton_append]
    exact wop ho (hfree.1.wanted hf ho3) (stepE_to ht hrec hr hf hB hsz ho1 ho2 hch h hk)
  | .cnd j c want body pk, gd, i, g, fr, fr', σ, σ', a, w, h, hm, hch, hfree, hr, hf, hB, hsz, rest, hk => by
    obtain ⟨m, hm0, h⟩ := app_eq h
    simp only [runOp] at hm0
    split at hm0
    case h_2 => subst hm0; exact (failM_eq h).elim
    rename_i t c' x y fr0 d hc hpk hdr hdo hpd
    split at hm0
    case isFalse => subst hm0; exact (failM_eq h).elim
    rename_i hcc
    subst hcc
    subst hm0
    obtain ⟨z, σ1, hz, h⟩ := bindM_eq h
    obtain ⟨rfl, rfl⟩ := pureM_eq h
    simp only [chkOp, Bool.and_eq_true] at hch
    obtain ⟨⟨⟨⟨hj, hcb⟩, hbody⟩, hpn⟩, hsk⟩ := hch
    have hj' : ds[j]? = some (some c') := by
      split at hj
      · rename_i q hq
        simp at hj; subst hj; exact hq
      · cases hj
    have hcb' : c' ∉ dstsF (flatOps none body) := by
      intro hin
      rw [memN_mem.2 hin] at hcb
      simp at hcb
    simp only [flatOp] at hm hfree ⊢
    have hdr' : fr.drop (dstsF (flatOps (some (j, want)) body)) = some fr0 := by rw [flatOps_dsts _ none]; exact hdr
    obtain ⟨q1, q2, q3⟩ := getS_drop _ _ _ hdr
    have hc0 : getS fr0.sl c' = .v (.bool t) := by rw [q3, if_neg hcb']; exact hc
    have hdn : d < n := by rw [hpd] at hpn; simpa [dstIn] using hpn
    have hdo0 : fr0.dstOk (some d) = true := by
      rw [hpd] at hdo
      unfold Fr.dstOk at hdo ⊢
      simp only [q3] at hdo ⊢
      split
      · rename_i hq; split at hq <;> first | (cases hq; done) | (rw [hq] at hdo; simp at hdo)
      · rename_i hq; split at hq <;> first | (cases hq; done) | (rw [hq] at hdo; simp at hdo)
      · rfl
    have hw0 : Wnt ops fr0 gd := by
      intro jo wo hg
      obtain ⟨co, h1, h2⟩ := hfree.1 jo wo hg
      have := (hfree.2 jo wo hg).2 co h1
      rw [dstsF_app, List.mem_append, not_or, flatOps_dsts _ none] at this
      exact ⟨co, h1, by rw [q3, if_neg this.1]; exact h2⟩
    obtain ⟨⟨op, hop, hop1, hop2, hop3⟩, _⟩ := hm.right.head
    rw [List.length_append, List.length_singleton, ← List.range'_append_1, List.append_assoc, List.range'_one, List.singleton_append]
    have fin : ∀ (g1 : G) (a1 : Act) (w1 : World), HR g1 σ' w1 → FR B g1 σ' fr0 a1 w1 → Step B g σ w g1 σ' w1 → a1.tmps.size = n → VR g1 z (a1.eval (cond t x y)) → wpOps P ops Q ((i + (flatOps (some (j, want)) body).length) :: rest) a1 w1 := by
      intro g1 a1 w1 r1 r2 r3 r4 r5
      refine pk_wp hop hop1 hop2 hop3 hpk hpd (by omega) hdo0 r1 r2 hw0 hc0 r5 fun a' w' k1 k2 k3 k4 => ?_
      subst k3
      exact hk _ _ ⟨g1, k1, k2, r3, by omega⟩
    obtain ⟨m, hm0, hz⟩ := app_eq hz
    split at hm0
    · -- wanted
      rename_i htw
      subst htw
      subst hm0
      obtain ⟨fr1, σ2, hb, hz⟩ := bindM_eq hz
      obtain ⟨z', hav, hz⟩ := obind_eq hz
      obtain ⟨rfl, rfl⟩ := pureM_eq hz
      obtain ⟨k1, k2⟩ := runOps_keep body _ _ _ _ hb rfl
      refine runOps_to ht hrec hds body (some (j, t)) i g { fr with lk := true } fr1 σ σ' a w hb hm.left hbody ⟨?_, ?_⟩ hr (hf.lock true) hB hsz _ fun a1 w1 ⟨g1, r1, r2, r3, r4⟩ => ?_
      · intro j1 w1 he
        cases he
        exact ⟨c', hds _ _ hj', hc⟩
      · intro j1 w1 he
        cases he
        refine ⟨rfl, fun q hq => ?_⟩
        rw [hds _ _ hj'] at hq
        cases hq
        rw [flatOps_dsts _ none]; exact hcb'
      · refine fin g1 a1 w1 r1 (r2.less (fun t => ?_) (drop_lp hf hdr)) r3 r4 (av_v r2 hav)
        rw [q3]
        split
        · exact .inl rfl
        · rename_i hn; exact .inr (k2 t hn).symm
    · -- not wanted
      rename_i htw
      subst hm0
      obtain ⟨z', hav, hz⟩ := obind_eq hz
      obtain ⟨rfl, rfl⟩ := pureM_eq hz
      obtain ⟨v, h4, h5⟩ := hf.get c' hc
      rw [VR_bool] at h5
      subst h5
      refine skip_ops hds hj' htw _ i [] fr fr0 a hm.left hsk hdr' (chks_dst n ds _ body hbody) (by rw [flatOps_dsts _ none]; exact hcb') hf hsz h4 (fun _ h => by cases h) _ fun a1 r1 r2 => ?_
      exact fin g a1 w hr r1 (.refl _ _ _ _) r2 (av_v r1 hav)
theorem runOps_to (ht : Tys P C) (hrec : CallOK P rec) {ops : Array Oper} {Q : Exit → Act → World → Prop} {ds : List (Option Nat)} (hds : ∀ (j' c' : Nat), ds[j']? = some (some c') → (ops[j']?).bind (·.dst) = some c') :
    ∀ (l : List AOp) (gd : Gd) (i : Nat) (g : G) (fr fr' : Fr) (σ σ' : H) (a : Act) (w : World), runOps C rec hp ip l fr σ = some (fr', σ') → Match ops i (flatOps gd l) → chkOps n ds l = true → Free ops fr gd (flatOps gd l) → HR g σ w → FR B g σ fr a w → B ≤ w.heap.size → a.tmps.size = n →
    ∀ rest, (∀ a' w', To n B g σ w σ' fr' a' w' → wpOps P ops Q rest a' w') → wpOps P ops Q (List.range' i (flatOps gd l).length ++ rest) a w
  | [], gd, i, g, fr, fr', σ, σ', a, w, h, hm, hch, hfree, hr, hf, hB, hsz, rest, hk => by
    simp only [runOps] at h
    obtain ⟨rfl, rfl⟩ := pureM_eq h
    simpa [flatOps] using hk a w (.refl hr hf hsz)
  | x :: l, gd, i, g, fr, fr', σ, σ', a, w, h, hm, hch, hfree, hr, hf, hB, hsz, rest, hk => by
    simp only [runOps] at h
    obtain ⟨fr1, σ1, h1, h2⟩ := bindM_eq h
    simp only [chkOps, Bool.and_eq_true] at hch
    simp only [flatOps] at hm hfree ⊢
    rw [List.length_append, ← List.range'_append_1, List.append_assoc]
    have split : ∀ j w, gd = some (j, w) → fr.lk = true ∧ ∀ c, (ops[j]?).bind (·.dst) = some c → c ∉ dstsF (flatOp gd x) ∧ c ∉ dstsF (flatOps gd l) := fun j w hg => by
      obtain ⟨k1, k2⟩ := hfree.2 j w hg
      refine ⟨k1, fun c hc => ?_⟩
      have := k2 c hc
      rw [dstsF_app, List.mem_append, not_or] at this
      exact this
    refine runOp_to ht hrec hds x gd i g fr fr1 σ σ1 a w h1 hm.left hch.1 ⟨hfree.1, fun j w hg => ⟨(split j w hg).1, fun c hc => ((split j w hg).2 c hc).1⟩⟩ hr hf hB hsz _ fun a1 w1 ⟨g1, r1, r2, r3, r4⟩ => ?_
    refine runOps_to ht hrec hds l gd _ g1 fr1 fr' σ1 σ' a1 w1 h2 hm.right hch.2 ⟨fun j w hg => ?_, fun j w hg => ?_⟩ r1 r2 (Nat.le_trans hB r3.size) r4 _ fun a2 w2 ⟨g2, s1, s2, s3, s4⟩ => hk _ _ ⟨g2, s1, s2, r3.trans s3 (Nat.le_refl _), s4⟩
    · obtain ⟨k1, k2⟩ := split j w hg
      obtain ⟨_, k4⟩ := runOp_keep x fr fr1 σ σ1 h1 k1
      obtain ⟨c, hc1, hc2⟩ := hfree.1 j w hg
      exact ⟨c, hc1, by rw [k4 c (by rw [flatOp_dsts _ gd]; exact (k2 c hc1).1)]; exact hc2⟩
    · obtain ⟨k1, k2⟩ := split j w hg
      obtain ⟨k3, _⟩ := runOp_keep x fr fr1 σ σ1 h1 k1
      exact ⟨k3, fun c hc => (k2 c hc).2⟩
end
end Go.Am
/-! ## part Quiet -/
/- The abstract machine: operations that have no eye for the heap; the same values. -/
namespace Go.Am
open Go
variable {C : Ctx} {fr : Fr} {rec : Nat → List AV → M AV} {hp ip : List Nat} {σ σ' : H} {e : Eff}
def Ind {R : Type} (m : M R) : Prop := ∀ r, m [] = some (r, []) → ∀ σ, m σ = some (r, σ)
def Ind' {R : Type} (m : M R) : Prop := ∀ r σ1, m [] = some (r, σ1) → σ1 = [] ∧ ∀ σ, m σ = some (r, σ)
theorem Ind'.ind {R : Type} {m : M R} (h : Ind' m) : Ind m := fun r hr => (h r [] hr).2
theorem ind_fail {R : Type} : Ind (failM : M R) := fun r h => (failM_eq h).elim
theorem ind_pure {R : Type} (x : R) : Ind (pureM x) := fun r h σ => by obtain ⟨rfl, _⟩ := pureM_eq h; rfl
theorem ind_retE (x : AV) : Ind (retE x) := ind_pure _
theorem ind_retO (x : Option AV) : Ind (retO x) := by
  cases x with
  | none => intro r h; cases h
  | some y => exact ind_retE y
theorem ind_bind {α R : Type} {m : M α} {k : α → M R} (h : Ind' m) (hk : ∀ x, Ind (k x)) : Ind (bindM m k) := fun r hr σ => by
  obtain ⟨x, σ1, h1, h2⟩ := bindM_eq hr
  obtain ⟨rfl, h3⟩ := h x σ1 h1
  simp only [bindM, h3 σ, hk x r h2 σ]
theorem ind_retM {m : M AV} (h : Ind m) : Ind (retM m) := fun r hr σ => by
  obtain ⟨x, σ1, h1, h2⟩ := bindM_eq hr
  obtain ⟨rfl, rfl⟩ := pureM_eq h2
  simp only [retM, bindM, h x h1 σ, retE, pureM]
theorem ind_new (o : HObj) (f : Nat → AV) : Ind (bindM (newM o) fun r => retE (f r)) := fun r hr σ => by
  simp [bindM, newM, retE, pureM] at hr
theorem ind'_load (ti : TI) (a : AV) : Ind' (loadA ti a) := fun r σ1 h => by
  unfold loadA at h
  split at h
  · split at h <;> simp at h
    rename_i hf
    obtain ⟨rfl, rfl⟩ := h
    exact ⟨rfl, fun σ => by simp [loadA, hf]⟩
  · simp [arrAt] at h
  · simp at h
theorem ind'_elems (te : TI) (a : AV) : Ind' (elemsM te a) := fun r σ1 h => by
  unfold elemsM at h
  split at h
  · simp at h; obtain ⟨rfl, rfl⟩ := h; exact ⟨rfl, fun σ => rfl⟩
  · split at h <;> simp at h
    rename_i hf
    obtain ⟨rfl, rfl⟩ := h
    exact ⟨rfl, fun σ => by simp [elemsM, hf]⟩
  · split at h <;> simp at h
    rename_i hf
    obtain ⟨rfl, rfl⟩ := h
    exact ⟨rfl, fun σ => by simp [elemsM, hf]⟩
  · simp [arrAt] at h
  · simp at h
theorem ind'_len (a : AV) : Ind' (lenM a) := fun r σ1 h => by
  unfold lenM at h
  split at h <;> simp at h
  all_goals
    obtain ⟨rfl, rfl⟩ := h
    exact ⟨rfl, fun σ => rfl⟩
theorem ind'_lookup (t : Nat) (m q : AV) (ok : Bool) : Ind' (lookupA C t m q ok) := fun r σ1 h => by
  unfold lookupA at h
  split at h <;> try (simp at h; done)
  rename_i hmo
  split at h <;> try (simp at h; done)
  rename_i hk
  split at h <;> simp at h
  obtain ⟨rfl, rfl⟩ := h
  exact ⟨rfl, fun σ => by simp [lookupA, hmo, hk]⟩
theorem ind'_store (ti : TI) (a b : AV) : Ind' (storeA ti a b) := fun r σ1 h => by
  unfold storeA at h
  split at h <;> simp [arrAt] at h
theorem ind'_update (t : Nat) (m q x : AV) : Ind' (updateA C t m q x) := fun r σ1 h => by
  unfold updateA at h
  split at h <;> simp at h
theorem ind'_entry (t : Nat) (m q : AV) : Ind' (entryA C t m q) := fun r σ1 h => by
  unfold entryA at h
  split at h <;> simp at h
theorem ind'_estore (t : Nat) (m q x : AV) : Ind' (entryStoreA C t m q x) := fun r σ1 h => by
  unfold entryStoreA at h
  split at h <;> simp at h
def RecInd (rec : Nat → List AV → M AV) : Prop := ∀ f l, AV.noRefs l = true → Ind (rec f l)
theorem noRefs_app : ∀ (l m : List AV), AV.noRefs (l ++ m) = (AV.noRefs l && AV.noRefs m)
  | [], m => by simp [AV.noRefs]
  | x :: l, m => by simp [AV.noRefs, noRefs_app l m, Bool.and_assoc]
theorem ind_newVar (ti : TI) (d : Nat) (a : AV) : Ind (newVarE hp ip ti d a) := by unfold newVarE; (repeat' (first | exact ind_fail | exact ind_pure _ | exact ind_retE _ | exact ind_retO _ | exact ind_new _ _ | exact ind_retM (ind'_load _ _).ind | exact ind_retM (ind'_lookup _ _ _ _).ind | exact ind_retM (ind'_entry _ _ _).ind | exact ind_retM (ind'_len _).ind | exact ind_bind (ind'_store _ _ _) fun _ => ind_pure _ | exact ind_bind (ind'_update _ _ _ _) fun _ => ind_pure _ | exact ind_bind (ind'_estore _ _ _ _) fun _ => ind_pure _ | split))
theorem ind_newRow (te : TI) (d : Nat) (xs : List AV) : Ind (newRowE hp te d xs) := by unfold newRowE; (repeat' (first | exact ind_fail | exact ind_pure _ | exact ind_retE _ | exact ind_retO _ | exact ind_new _ _ | exact ind_retM (ind'_load _ _).ind | exact ind_retM (ind'_lookup _ _ _ _).ind | exact ind_retM (ind'_entry _ _ _).ind | exact ind_retM (ind'_len _).ind | exact ind_bind (ind'_store _ _ _) fun _ => ind_pure _ | exact ind_bind (ind'_update _ _ _ _) fun _ => ind_pure _ | exact ind_bind (ind'_estore _ _ _ _) fun _ => ind_pure _ | split))
theorem ind_move (s : SV) : Ind (kMove s) := by unfold kMove; (repeat' (first | exact ind_fail | exact ind_pure _ | exact ind_retE _ | exact ind_retO _ | exact ind_new _ _ | exact ind_retM (ind'_load _ _).ind | exact ind_retM (ind'_lookup _ _ _ _).ind | exact ind_retM (ind'_entry _ _ _).ind | exact ind_retM (ind'_len _).ind | exact ind_bind (ind'_store _ _ _) fun _ => ind_pure _ | exact ind_bind (ind'_update _ _ _ _) fun _ => ind_pure _ | exact ind_bind (ind'_estore _ _ _ _) fun _ => ind_pure _ | split))
theorem ind_conv (s t : Nat) (x : Operand) (dst : Option Nat) : Ind (kConv C fr hp s t x dst) := by
  unfold kConv
  repeat' (first | exact ind_fail | exact ind_retE _ | exact ind_newRow _ _ _ | refine ind_bind (ind'_elems _ _) (fun xs => ?_) | split)
theorem ind_range (t : Nat) (x : Operand) : Ind (kRange C fr t x) := fun r h σ => by
  unfold kRange at h
  split at h
  · split at h
    · rename_i h1; simp at h1
    · cases h
  · cases h
theorem opE_ind (hrec : RecInd rec) {so : SOp} (hq : quietOp fr so.op = true) : Ind (opE C fr rec hp ip so) := by
  unfold opE
  split
  · exact ind_move _
  · exact ind_move _
  · unfold kPick; repeat' (first | exact ind_move _ | exact ind_fail | split)
  · unfold kAlloc; repeat' (first | exact ind_newVar _ _ _ | exact ind_fail | split)
  · unfold kBox; repeat' (first | exact ind_newVar _ _ _ | exact ind_fail | split)
  · unfold kBuild; (repeat' (first | exact ind_fail | exact ind_pure _ | exact ind_retE _ | exact ind_retO _ | exact ind_new _ _ | exact ind_retM (ind'_load _ _).ind | exact ind_retM (ind'_lookup _ _ _ _).ind | exact ind_retM (ind'_entry _ _ _).ind | exact ind_retM (ind'_len _).ind | exact ind_bind (ind'_store _ _ _) fun _ => ind_pure _ | exact ind_bind (ind'_update _ _ _ _) fun _ => ind_pure _ | exact ind_bind (ind'_estore _ _ _ _) fun _ => ind_pure _ | split))
  · unfold kBuildSlice; repeat' (first | exact ind_newRow _ _ _ | exact ind_fail | split)
  · unfold kMakeSlice; repeat' (first | exact ind_newRow _ _ _ | exact ind_fail | split)
  · unfold kLoad; (repeat' (first | exact ind_fail | exact ind_pure _ | exact ind_retE _ | exact ind_retO _ | exact ind_new _ _ | exact ind_retM (ind'_load _ _).ind | exact ind_retM (ind'_lookup _ _ _ _).ind | exact ind_retM (ind'_entry _ _ _).ind | exact ind_retM (ind'_len _).ind | exact ind_bind (ind'_store _ _ _) fun _ => ind_pure _ | exact ind_bind (ind'_update _ _ _ _) fun _ => ind_pure _ | exact ind_bind (ind'_estore _ _ _ _) fun _ => ind_pure _ | split))
  · unfold kStore; (repeat' (first | exact ind_fail | exact ind_pure _ | exact ind_retE _ | exact ind_retO _ | exact ind_new _ _ | exact ind_retM (ind'_load _ _).ind | exact ind_retM (ind'_lookup _ _ _ _).ind | exact ind_retM (ind'_entry _ _ _).ind | exact ind_retM (ind'_len _).ind | exact ind_bind (ind'_store _ _ _) fun _ => ind_pure _ | exact ind_bind (ind'_update _ _ _ _) fun _ => ind_pure _ | exact ind_bind (ind'_estore _ _ _ _) fun _ => ind_pure _ | split))
  · unfold kNil; (repeat' (first | exact ind_fail | exact ind_pure _ | exact ind_retE _ | exact ind_retO _ | exact ind_new _ _ | exact ind_retM (ind'_load _ _).ind | exact ind_retM (ind'_lookup _ _ _ _).ind | exact ind_retM (ind'_entry _ _ _).ind | exact ind_retM (ind'_len _).ind | exact ind_bind (ind'_store _ _ _) fun _ => ind_pure _ | exact ind_bind (ind'_update _ _ _ _) fun _ => ind_pure _ | exact ind_bind (ind'_estore _ _ _ _) fun _ => ind_pure _ | split))
  · unfold kBin; (repeat' (first | exact ind_fail | exact ind_pure _ | exact ind_retE _ | exact ind_retO _ | exact ind_new _ _ | exact ind_retM (ind'_load _ _).ind | exact ind_retM (ind'_lookup _ _ _ _).ind | exact ind_retM (ind'_entry _ _ _).ind | exact ind_retM (ind'_len _).ind | exact ind_bind (ind'_store _ _ _) fun _ => ind_pure _ | exact ind_bind (ind'_update _ _ _ _) fun _ => ind_pure _ | exact ind_bind (ind'_estore _ _ _ _) fun _ => ind_pure _ | split))
  · unfold kUn; (repeat' (first | exact ind_fail | exact ind_pure _ | exact ind_retE _ | exact ind_retO _ | exact ind_new _ _ | exact ind_retM (ind'_load _ _).ind | exact ind_retM (ind'_lookup _ _ _ _).ind | exact ind_retM (ind'_entry _ _ _).ind | exact ind_retM (ind'_len _).ind | exact ind_bind (ind'_store _ _ _) fun _ => ind_pure _ | exact ind_bind (ind'_update _ _ _ _) fun _ => ind_pure _ | exact ind_bind (ind'_estore _ _ _ _) fun _ => ind_pure _ | split))
  · split
    · exact ind_conv _ _ _ _
    · exact ind_fail
  · unfold kFunc; (repeat' (first | exact ind_fail | exact ind_pure _ | exact ind_retE _ | exact ind_retO _ | exact ind_new _ _ | exact ind_retM (ind'_load _ _).ind | exact ind_retM (ind'_lookup _ _ _ _).ind | exact ind_retM (ind'_entry _ _ _).ind | exact ind_retM (ind'_len _).ind | exact ind_bind (ind'_store _ _ _) fun _ => ind_pure _ | exact ind_bind (ind'_update _ _ _ _) fun _ => ind_pure _ | exact ind_bind (ind'_estore _ _ _ _) fun _ => ind_pure _ | split))
  · exact ind_new _ _
  · unfold kSlice; (repeat' (first | exact ind_fail | exact ind_pure _ | exact ind_retE _ | exact ind_retO _ | exact ind_new _ _ | exact ind_retM (ind'_load _ _).ind | exact ind_retM (ind'_lookup _ _ _ _).ind | exact ind_retM (ind'_entry _ _ _).ind | exact ind_retM (ind'_len _).ind | exact ind_bind (ind'_store _ _ _) fun _ => ind_pure _ | exact ind_bind (ind'_update _ _ _ _) fun _ => ind_pure _ | exact ind_bind (ind'_estore _ _ _ _) fun _ => ind_pure _ | split))
  · unfold kFieldAddr; (repeat' (first | exact ind_fail | exact ind_pure _ | exact ind_retE _ | exact ind_retO _ | exact ind_new _ _ | exact ind_retM (ind'_load _ _).ind | exact ind_retM (ind'_lookup _ _ _ _).ind | exact ind_retM (ind'_entry _ _ _).ind | exact ind_retM (ind'_len _).ind | exact ind_bind (ind'_store _ _ _) fun _ => ind_pure _ | exact ind_bind (ind'_update _ _ _ _) fun _ => ind_pure _ | exact ind_bind (ind'_estore _ _ _ _) fun _ => ind_pure _ | split))
  · unfold kField; (repeat' (first | exact ind_fail | exact ind_pure _ | exact ind_retE _ | exact ind_retO _ | exact ind_new _ _ | exact ind_retM (ind'_load _ _).ind | exact ind_retM (ind'_lookup _ _ _ _).ind | exact ind_retM (ind'_entry _ _ _).ind | exact ind_retM (ind'_len _).ind | exact ind_bind (ind'_store _ _ _) fun _ => ind_pure _ | exact ind_bind (ind'_update _ _ _ _) fun _ => ind_pure _ | exact ind_bind (ind'_estore _ _ _ _) fun _ => ind_pure _ | split))
  · unfold kIndexAddr; (repeat' (first | exact ind_fail | exact ind_pure _ | exact ind_retE _ | exact ind_retO _ | exact ind_new _ _ | exact ind_retM (ind'_load _ _).ind | exact ind_retM (ind'_lookup _ _ _ _).ind | exact ind_retM (ind'_entry _ _ _).ind | exact ind_retM (ind'_len _).ind | exact ind_bind (ind'_store _ _ _) fun _ => ind_pure _ | exact ind_bind (ind'_update _ _ _ _) fun _ => ind_pure _ | exact ind_bind (ind'_estore _ _ _ _) fun _ => ind_pure _ | split))
  · unfold kIndex; (repeat' (first | exact ind_fail | exact ind_pure _ | exact ind_retE _ | exact ind_retO _ | exact ind_new _ _ | exact ind_retM (ind'_load _ _).ind | exact ind_retM (ind'_lookup _ _ _ _).ind | exact ind_retM (ind'_entry _ _ _).ind | exact ind_retM (ind'_len _).ind | exact ind_bind (ind'_store _ _ _) fun _ => ind_pure _ | exact ind_bind (ind'_update _ _ _ _) fun _ => ind_pure _ | exact ind_bind (ind'_estore _ _ _ _) fun _ => ind_pure _ | split))
  · unfold kLookup; (repeat' (first | exact ind_fail | exact ind_pure _ | exact ind_retE _ | exact ind_retO _ | exact ind_new _ _ | exact ind_retM (ind'_load _ _).ind | exact ind_retM (ind'_lookup _ _ _ _).ind | exact ind_retM (ind'_entry _ _ _).ind | exact ind_retM (ind'_len _).ind | exact ind_bind (ind'_store _ _ _) fun _ => ind_pure _ | exact ind_bind (ind'_update _ _ _ _) fun _ => ind_pure _ | exact ind_bind (ind'_estore _ _ _ _) fun _ => ind_pure _ | split))
  · unfold kUpdate; (repeat' (first | exact ind_fail | exact ind_pure _ | exact ind_retE _ | exact ind_retO _ | exact ind_new _ _ | exact ind_retM (ind'_load _ _).ind | exact ind_retM (ind'_lookup _ _ _ _).ind | exact ind_retM (ind'_entry _ _ _).ind | exact ind_retM (ind'_len _).ind | exact ind_bind (ind'_store _ _ _) fun _ => ind_pure _ | exact ind_bind (ind'_update _ _ _ _) fun _ => ind_pure _ | exact ind_bind (ind'_estore _ _ _ _) fun _ => ind_pure _ | split))
  · unfold kUpdate; (repeat' (first | exact ind_fail | exact ind_pure _ | exact ind_retE _ | exact ind_retO _ | exact ind_new _ _ | exact ind_retM (ind'_load _ _).ind | exact ind_retM (ind'_lookup _ _ _ _).ind | exact ind_retM (ind'_entry _ _ _).ind | exact ind_retM (ind'_len _).ind | exact ind_bind (ind'_store _ _ _) fun _ => ind_pure _ | exact ind_bind (ind'_update _ _ _ _) fun _ => ind_pure _ | exact ind_bind (ind'_estore _ _ _ _) fun _ => ind_pure _ | split))
  · unfold kEntry; (repeat' (first | exact ind_fail | exact ind_pure _ | exact ind_retE _ | exact ind_retO _ | exact ind_new _ _ | exact ind_retM (ind'_load _ _).ind | exact ind_retM (ind'_lookup _ _ _ _).ind | exact ind_retM (ind'_entry _ _ _).ind | exact ind_retM (ind'_len _).ind | exact ind_bind (ind'_store _ _ _) fun _ => ind_pure _ | exact ind_bind (ind'_update _ _ _ _) fun _ => ind_pure _ | exact ind_bind (ind'_estore _ _ _ _) fun _ => ind_pure _ | split))
  · unfold kEntryStore; (repeat' (first | exact ind_fail | exact ind_pure _ | exact ind_retE _ | exact ind_retO _ | exact ind_new _ _ | exact ind_retM (ind'_load _ _).ind | exact ind_retM (ind'_lookup _ _ _ _).ind | exact ind_retM (ind'_entry _ _ _).ind | exact ind_retM (ind'_len _).ind | exact ind_bind (ind'_store _ _ _) fun _ => ind_pure _ | exact ind_bind (ind'_update _ _ _ _) fun _ => ind_pure _ | exact ind_bind (ind'_estore _ _ _ _) fun _ => ind_pure _ | split))
  · unfold kExtract; (repeat' (first | exact ind_fail | exact ind_pure _ | exact ind_retE _ | exact ind_retO _ | exact ind_new _ _ | exact ind_retM (ind'_load _ _).ind | exact ind_retM (ind'_lookup _ _ _ _).ind | exact ind_retM (ind'_entry _ _ _).ind | exact ind_retM (ind'_len _).ind | exact ind_bind (ind'_store _ _ _) fun _ => ind_pure _ | exact ind_bind (ind'_update _ _ _ _) fun _ => ind_pure _ | exact ind_bind (ind'_estore _ _ _ _) fun _ => ind_pure _ | split))
  · exact ind_range _ _
  · rename_i c ho
    rw [ho] at hq
    unfold quietOp at hq
    simp only at hq
    unfold kCall
    split
    · exact ind_fail
    · rename_i l hl
      split
      · rename_i f hc
        rw [hc, hl] at hq
        simp only at hq
        split
        · rename_i g caps hf
          rw [hf] at hq
          simp only [Bool.and_eq_true] at hq
          exact ind_retM (hrec _ _ (by rw [noRefs_app, hq.1, hq.2]; rfl))
        · exact ind_fail
      · unfold kLen; (repeat' (first | exact ind_fail | exact ind_pure _ | exact ind_retE _ | exact ind_retO _ | exact ind_new _ _ | exact ind_retM (ind'_load _ _).ind | exact ind_retM (ind'_lookup _ _ _ _).ind | exact ind_retM (ind'_entry _ _ _).ind | exact ind_retM (ind'_len _).ind | exact ind_bind (ind'_store _ _ _) fun _ => ind_pure _ | exact ind_bind (ind'_update _ _ _ _) fun _ => ind_pure _ | exact ind_bind (ind'_estore _ _ _ _) fun _ => ind_pure _ | split))
      · rename_i hc
        rw [hc] at hq
        cases hq
      · (repeat' (first | exact ind_fail | exact ind_pure _ | exact ind_retE _ | exact ind_retO _ | exact ind_new _ _ | exact ind_retM (ind'_load _ _).ind | exact ind_retM (ind'_lookup _ _ _ _).ind | exact ind_retM (ind'_entry _ _ _).ind | exact ind_retM (ind'_len _).ind | exact ind_bind (ind'_store _ _ _) fun _ => ind_pure _ | exact ind_bind (ind'_update _ _ _ _) fun _ => ind_pure _ | exact ind_bind (ind'_estore _ _ _ _) fun _ => ind_pure _ | split))
      · (repeat' (first | exact ind_fail | exact ind_pure _ | exact ind_retE _ | exact ind_retO _ | exact ind_new _ _ | exact ind_retM (ind'_load _ _).ind | exact ind_retM (ind'_lookup _ _ _ _).ind | exact ind_retM (ind'_entry _ _ _).ind | exact ind_retM (ind'_len _).ind | exact ind_bind (ind'_store _ _ _) fun _ => ind_pure _ | exact ind_bind (ind'_update _ _ _ _) fun _ => ind_pure _ | exact ind_bind (ind'_estore _ _ _ _) fun _ => ind_pure _ | split))
      · exact ind_fail
  · exact ind_fail
theorem opE_looks {so : SOp} (hl : looksOp so.op = true) (h : opE C fr rec hp ip so σ = some (e, σ')) : σ' = σ := by
  obtain ⟨m, hm, h⟩ := app_eq h
  unfold opE at hm
  unfold looksOp at hl
  split at hl
  · rename_i t x ho
    rw [ho] at hm
    simp only at hm
    unfold kLoad at hm
    split at hm
    · split at hm <;> subst hm
      · obtain ⟨y, _, _, h', _⟩ := retO_eq h; exact h'
      · exact (failM_eq h).elim
    · subst hm
      obtain ⟨y, hy, _, _⟩ := retM_eq h
      unfold loadA at hy
      split at hy
      · split at hy <;> simp at hy; exact hy.2.symm
      · split at hy <;> try (simp at hy; done)
        split at hy <;> try (simp at hy; done)
        split at hy <;> simp at hy
        exact hy.2.symm
      · simp at hy
    · subst hm; exact (failM_eq h).elim
  · rename_i t x y ok ho
    rw [ho] at hm
    simp only at hm
    unfold kLookup at hm
    split at hm <;> subst hm
    · obtain ⟨y, hy, _, _⟩ := retM_eq h
      unfold lookupA at hy
      split at hy <;> try (simp at hy; done)
      split at hy <;> try (simp at hy; done)
      split at hy
      · simp at hy; exact hy.2.symm
      · split at hy <;> try (simp at hy; done)
        split at hy <;> simp at hy
        exact hy.2.symm
      · simp at hy
    · exact (failM_eq h).elim
  · cases hl
mutual
theorem AV.same_eq : ∀ (a b : AV), a.same b = true → a = b
  | .bool a, b, h => by cases b <;> simp [AV.same] at h; rw [h]
  | .int j a, b, h => by cases b <;> simp [AV.same] at h; rw [h.1, h.2]
  | .str a, b, h => by cases b <;> simp [AV.same] at h; rw [h]
  | .agg a, b, h => by cases b <;> simp [AV.same] at h; rw [AV.sames_eq a _ h]
  | .tup a, b, h => by cases b <;> simp [AV.same] at h; rw [AV.sames_eq a _ h]
  | .nil, b, h => by cases b <;> simp [AV.same] at h; rfl
  | .sl m a, b, h => by cases b <;> simp [AV.same] at h; rw [h.1, AV.sames_eq a _ h.2]
  | .adr a, b, h => by cases b <;> simp [AV.same] at h; rw [AV.same_eq a _ h]
  | .nilp, b, h => by cases b <;> simp [AV.same] at h; rfl
  | .nilm, b, h => by cases b <;> simp [AV.same] at h; rfl
  | .nilf, b, h => by cases b <;> simp [AV.same] at h; rfl
  | .map r, b, h => by cases b <;> simp [AV.same] at h; rw [h]
  | .ptr a b c d, x, h => by cases x <;> simp [AV.same] at h; obtain ⟨⟨⟨rfl, rfl⟩, rfl⟩, rfl⟩ := h; rfl
  | .hs a b c d e, x, h => by cases x <;> simp [AV.same] at h; obtain ⟨⟨⟨⟨rfl, rfl⟩, rfl⟩, rfl⟩, rfl⟩ := h; rfl
  | .fn f a, b, h => by cases b <;> simp [AV.same] at h; rw [h.1, AV.sames_eq a _ h.2]
theorem AV.sames_eq : ∀ (a b : List AV), AV.sames a b = true → a = b
  | [], b, h => by cases b <;> simp [AV.sames] at h; rfl
  | x :: l, b, h => by
    cases b <;> simp [AV.sames] at h
    rw [AV.same_eq x _ h.1, AV.sames_eq l _ h.2]
end
theorem SV.same_eq {a b : SV} (h : a.same b = true) : a = b := by
  cases a <;> cases b <;> simp [SV.same] at h
  · rfl
  · rw [AV.same_eq _ _ h]
end Go.Am
/-! ## part DrawA -/
/- The abstract machine: regions of open order: what a run in the text's order tells. -/
namespace Go.Am
open Go
variable {C : Ctx} {rec : Nat → List AV → M AV} {hp ip : List Nat}
def isWat (D : List DOp) (i : Nat) : Bool := match D[i]? with | some d => d.k.isW | none => false
def befAt (D : List DOp) (i : Nat) : List Nat := match D[i]? with | some d => d.bef | none => []
def cntW (D : List DOp) (p : Nat → Bool) : Nat := (List.range D.length).countP fun x => isWat D x && p x
def nodupD : List DOp → Bool
  | [] => true
  | d :: l => (match d.o.dst with | some t => !memN t (dstsD l) | none => true) && nodupD l
def chkClo (D : List DOp) : List DOp → Bool
  | [] => true
  | d :: l => (d.bef.all fun x => (befAt D x).all fun y => memN y d.bef) && chkClo D l
def chkBef (A : List DOp) : Nat → List DOp → Bool
  | _, [] => true
  | i, d :: l => (d.aft.all fun x => decide (x < i)) && (d.bef.all fun x => decide (x < i) && (memN x d.aft || d.aft.any fun y => memN x (befAt A y))) && chkBef A (i + 1) l
def chkK (n : Nat) (D : List DOp) : Nat → List DOp → Bool
  | _, [] => true
  | i, d :: l => (match d.k with
      | .l lo hi => decide (lo ≤ cntW D fun x => memN x d.bef) && decide ((cntW D fun x => !memN i (befAt D x)) ≤ hi) && decide (lo ≤ cntW D fun x => decide (x < i)) && decide ((cntW D fun x => decide (x < i)) ≤ hi)
      | .w => (List.range D.length).all fun x => !isWat D x || (if x < i then memN x d.bef else if x = i then true else memN i (befAt D x))
      | _ => true)
    && (match d.guard with | some (j, _) => memN j d.bef && (match D[j]? with | some e => e.o.dst.isSome | none => false) | none => true)
    && dstIn n d.o.dst && chkK n D (i + 1) l
def chkPost (n : Nat) : Nat → List DOp → Bool
  | _, [] => true
  | i, d :: l => d.guard.isNone && ((List.range i).all fun x => memN x d.bef) && dstIn n d.o.dst && chkPost n (i + 1) l
def chkD (n : Nat) (D E : List DOp) : Bool := nodupD D && chkClo D D && chkBef (D ++ E) 0 (D ++ E) && chkK n D 0 D && chkPost n D.length E
/-! ### what the checks say -/
theorem memOf_dstsD {t : Nat} : ∀ {l : List DOp}, t ∈ dstsD l ↔ ∃ (i : Nat) (d : DOp), l[i]? = some d ∧ d.o.dst = some t
  | [] => by simp [dstsD]
  | d :: l => by
    simp only [dstsD, List.mem_append]
    rw [memOf_dstsD (l := l)]
    constructor
    · rintro (h | ⟨i, e, h1, h2⟩)
      · exact ⟨0, d, rfl, by cases hd : d.o.dst <;> rw [hd] at h <;> simp at h; rw [h]⟩
      · exact ⟨i + 1, e, by simpa using h1, h2⟩
    · rintro ⟨i, e, h1, h2⟩
      cases i with
      | zero => simp at h1; subst h1; left; rw [h2]; simp
      | succ i => exact .inr ⟨i, e, by simpa using h1, h2⟩
theorem nodup_eq {t : Nat} : ∀ {l : List DOp}, nodupD l = true → ∀ {i j : Nat} {d e : DOp}, l[i]? = some d → l[j]? = some e → d.o.dst = some t → e.o.dst = some t → i = j
  | [], _, i, j, d, e, h1, _, _, _ => by simp at h1
  | x :: l, h, i, j, d, e, h1, h2, h3, h4 => by
    simp only [nodupD, Bool.and_eq_true] at h
    have out : ∀ (k : Nat) (y : DOp), l[k]? = some y → y.o.dst = some t → x.o.dst = some t → False := by
      intro k y hk hy hx
      have h0 := h.1
      rw [hx] at h0
      simp only [Bool.not_eq_true'] at h0
      have : memN t (dstsD l) = true := memN_mem.2 (memOf_dstsD.2 ⟨k, y, hk, hy⟩)
      rw [this] at h0; cases h0
    cases i with
    | zero =>
      simp at h1; subst h1
      cases j with
      | zero => rfl
      | succ j => exact (out j e (by simpa using h2) h4 h3).elim
    | succ i =>
      cases j with
      | zero => simp at h2; subst h2; exact (out i d (by simpa using h1) h3 h4).elim
      | succ j =>
        have := nodup_eq h.2 (i := i) (j := j) (d := d) (e := e) (by simpa using h1) (by simpa using h2) h3 h4
        omega
theorem chkBef_at {A : List DOp} : ∀ {l : List DOp} {i : Nat}, chkBef A i l = true → ∀ {k : Nat} {d : DOp}, l[k]? = some d → (∀ x ∈ d.aft, x < i + k) ∧ ∀ x ∈ d.bef, x < i + k ∧ (x ∈ d.aft ∨ ∃ y ∈ d.aft, x ∈ befAt A y)
  | [], i, _, k, d, hk => by simp at hk
  | y :: l, i, h, k, d, hk => by
    simp only [chkBef, Bool.and_eq_true] at h
    obtain ⟨⟨h1, h2⟩, h3⟩ := h
    cases k with
    | zero =>
      simp at hk; subst hk
      rw [List.all_eq_true] at h1 h2
      refine ⟨fun x hx => by simpa using h1 x hx, fun x hx => ?_⟩
      have := h2 x hx
      simp only [Bool.and_eq_true, Bool.or_eq_true, decide_eq_true_eq, List.any_eq_true] at this
      refine ⟨by omega, this.2.imp memN_mem.1 ?_⟩
      rintro ⟨z, hz1, hz2⟩
      exact ⟨z, hz1, memN_mem.1 hz2⟩
    | succ k =>
      have := chkBef_at h3 (k := k) (d := d) (by simpa using hk)
      rw [show i + (k + 1) = i + 1 + k by omega]; exact this
theorem chkClo_at {D : List DOp} : ∀ {l : List DOp}, chkClo D l = true → ∀ {k : Nat} {d : DOp}, l[k]? = some d → ∀ x ∈ d.bef, ∀ e, D[x]? = some e → ∀ y ∈ e.bef, y ∈ d.bef
  | [], _, k, d, hk => by simp at hk
  | z :: l, h, k, d, hk => by
    simp only [chkClo, Bool.and_eq_true] at h
    cases k with
    | zero =>
      simp at hk; subst hk
      intro x hx e he y hy
      have := h.1
      rw [List.all_eq_true] at this
      have := this x hx
      rw [List.all_eq_true] at this
      exact memN_mem.1 (this y (by simp only [befAt, he]; exact hy))
    | succ k => exact chkClo_at h.2 (by simpa using hk)
structure KOK (n : Nat) (D : List DOp) (i : Nat) (d : DOp) : Prop where
  l : ∀ lo hi, d.k = .l lo hi → lo ≤ cntW D (fun x => memN x d.bef) ∧ cntW D (fun x => !memN i (befAt D x)) ≤ hi ∧ lo ≤ cntW D (fun x => decide (x < i)) ∧ cntW D (fun x => decide (x < i)) ≤ hi
  w : d.k = .w → ∀ x, x < D.length → isWat D x = true → (x < i → x ∈ d.bef) ∧ (i < x → i ∈ befAt D x)
  g : ∀ j w, d.guard = some (j, w) → j ∈ d.bef ∧ ∃ e c, D[j]? = some e ∧ e.o.dst = some c
  n : dstIn n d.o.dst = true
theorem chkK_at {n : Nat} {D : List DOp} : ∀ {l : List DOp} {i : Nat}, chkK n D i l = true → ∀ {k : Nat} {d : DOp}, l[k]? = some d → KOK n D (i + k) d
  | [], i, _, k, d, hk => by simp at hk
  | y :: l, i, h, k, d, hk => by
    simp only [chkK, Bool.and_eq_true] at h
    obtain ⟨⟨⟨h1, h2⟩, h3⟩, h4⟩ := h
    cases k with
    | zero =>
      simp at hk; subst hk
      refine ⟨fun lo hi hq => ?_, fun hq x hx hw => ?_, fun j w hq => ?_, h3⟩
      · rw [hq] at h1
        simp only [Bool.and_eq_true, decide_eq_true_eq] at h1
        exact ⟨h1.1.1.1, h1.1.1.2, h1.1.2, h1.2⟩
      · rw [hq] at h1
        simp only [List.all_eq_true, List.mem_range] at h1
        have := h1 x hx
        rw [hw] at this
        simp only [Bool.not_true, Bool.false_or] at this
        refine ⟨fun hlt => ?_, fun hlt => ?_⟩
        · rw [if_pos (by omega)] at this; exact memN_mem.1 this
        · rw [if_neg (by omega), if_neg (by omega)] at this; exact memN_mem.1 this
      · rw [hq] at h2
        simp only [Bool.and_eq_true] at h2
        refine ⟨memN_mem.1 h2.1, ?_⟩
        cases hj : D[j]? with
        | none => rw [hj] at h2; simp at h2
        | some e =>
          rw [hj] at h2
          obtain ⟨c, hc⟩ := Option.isSome_iff_exists.1 h2.2
          exact ⟨e, c, rfl, hc⟩
    | succ k =>
      have := chkK_at h4 (k := k) (d := d) (by simpa using hk)
      rw [show i + (k + 1) = i + 1 + k by omega]; exact this
theorem chkPost_at {n : Nat} : ∀ {l : List DOp} {i : Nat}, chkPost n i l = true → ∀ {k : Nat} {d : DOp}, l[k]? = some d → d.guard = none ∧ (∀ x, x < i + k → x ∈ d.bef) ∧ dstIn n d.o.dst = true
  | [], i, _, k, d, hk => by simp at hk
  | y :: l, i, h, k, d, hk => by
    simp only [chkPost, Bool.and_eq_true] at h
    obtain ⟨⟨⟨h1, h2⟩, h3⟩, h4⟩ := h
    cases k with
    | zero =>
      simp at hk; subst hk
      simp only [List.all_eq_true, List.mem_range] at h2
      exact ⟨by simpa using h1, fun x hx => memN_mem.1 (h2 x (by omega)), h3⟩
    | succ k =>
      have := chkPost_at h4 (k := k) (d := d) (by simpa using hk)
      rw [show i + (k + 1) = i + 1 + k by omega]; exact this
/-! ### counting -/
theorem cntW_congr {D : List DOp} {p q : Nat → Bool} (h : ∀ x, x < D.length → isWat D x = true → p x = q x) : cntW D p = cntW D q := by
  unfold cntW
  apply List.countP_congr
  intro x hx
  rw [List.mem_range] at hx
  cases hw : isWat D x with
  | false => simp
  | true => simp [h x hx hw]
theorem cntW_mono {D : List DOp} {p q : Nat → Bool} (h : ∀ x, x < D.length → isWat D x = true → p x = true → q x = true) : cntW D p ≤ cntW D q := by
  unfold cntW
  apply List.countP_mono_left
  intro x hx hp
  rw [List.mem_range] at hx
  simp only [Bool.and_eq_true] at hp ⊢
  exact ⟨hp.1, h x hx hp.1 hp.2⟩
theorem countP_lt (f : Nat → Bool) (i : Nat) : ∀ n, i < n → (List.range n).countP (fun x => f x && decide (x < i + 1)) = (List.range n).countP (fun x => f x && decide (x < i)) + (if f i = true then 1 else 0)
  | 0, h => by omega
  | n + 1, h => by
    rw [List.range_succ, List.countP_append, List.countP_append]
    by_cases hi : i < n
    · rw [countP_lt f i n hi]
      have : (List.countP (fun x => f x && decide (x < i + 1)) [n]) = 0 ∧ (List.countP (fun x => f x && decide (x < i)) [n]) = 0 := by
        constructor <;> simp <;> omega
      rw [this.1, this.2]; omega
    · have hin : i = n := by omega
      subst hin
      have e : (List.range i).countP (fun x => f x && decide (x < i + 1)) = (List.range i).countP (fun x => f x && decide (x < i)) := by
        apply List.countP_congr
        intro x hx
        rw [List.mem_range] at hx
        simp [hx, Nat.lt_succ_of_lt hx]
      rw [e]
      simp [List.countP_cons]
theorem cntW_succ {D : List DOp} {i : Nat} (hi : i < D.length) : cntW D (fun x => decide (x < i + 1)) = cntW D (fun x => decide (x < i)) + (if isWat D i = true then 1 else 0) := countP_lt _ _ _ hi
theorem cntW_zero {D : List DOp} : cntW D (fun x => decide (x < 0)) = 0 := by
  unfold cntW
  simp
/-! ### what a run tells -/
theorem seeD_congr {sd : List Nat} {base : Fr} {D : List DOp} {rs rs' : Rs} : ∀ {bef : List Nat}, (∀ x ∈ bef, getR rs x = getR rs' x) → seeD sd base D rs bef = seeD sd base D rs' bef
  | [], _ => rfl
  | x :: bef, h => by
    simp only [seeD]
    rw [seeD_congr fun y hy => h y (List.mem_cons_of_mem _ hy), h x (List.mem_cons_self ..)]
theorem oneD_congr {sd : List Nat} {base : Fr} {D : List DOp} {rs rs' : Rs} {d : DOp} {σ : H} (h : ∀ x ∈ d.bef, getR rs x = getR rs' x) (hg : ∀ j w, d.guard = some (j, w) → j ∈ d.bef) :
    oneD C rec hp ip sd base D rs d σ = oneD C rec hp ip sd base D rs' d σ := by
  have hw : wantD rs d.guard = wantD rs' d.guard := by
    cases hq : d.guard with
    | none => rfl
    | some p =>
      obtain ⟨j, w⟩ := p
      simp only [wantD]
      rw [h j (hg j w hq)]
  unfold oneD
  rw [hw, seeD_congr h]
def Aligned : List DOp → Rs → Prop
  | [], [] => True
  | _ :: l, (i, _) :: rs => i = l.length ∧ Aligned l rs
  | _, _ => False
theorem Aligned.get_none : ∀ {l : List DOp} {rs : Rs}, Aligned l rs → ∀ {j : Nat}, l.length ≤ j → getR rs j = none
  | [], [], _, j, _ => rfl
  | [], _ :: _, h, _, _ => h.elim
  | _ :: _, [], h, _, _ => h.elim
  | d :: l, (i, s) :: rs, h, j, hj => by
    obtain ⟨rfl, h2⟩ := h
    simp only [List.length_cons] at hj
    simp only [getR]
    rw [if_neg (by omega)]
    exact h2.get_none (by omega)
end Go.Am
/-! ## part DrawB -/
/- The abstract machine: regions of open order: what a run in the text's order tells, operation by operation. -/
namespace Go.Am
open Go
variable {C : Ctx} {rec : Nat → List AV → M AV} {hp ip : List Nat} {sd : List Nat} {base : Fr} {D : List DOp}
def Fact (C : Ctx) (rec : Nat → List AV → M AV) (hp ip sd : List Nat) (base : Fr) (D : List DOp) (rs : Rs) (hr : List H) (i : Nat) (d : DOp) : Prop :=
  match d.k.isS with
  | true => getR rs i = some .u
  | false => ∃ s σ1 σ2 σ3, getR rs i = some s ∧ hr[cntW D fun x => decide (x < i)]? = some σ1 ∧ hr[cntW D fun x => decide (x < i + 1)]? = some σ2 ∧ oneD C rec hp ip sd base D rs d σ1 = some (s, σ3) ∧ (d.k.isW = true → σ3 = σ2)
theorem isWat_eq {i : Nat} {d : DOp} (h : D[i]? = some d) : isWat D i = d.k.isW := by simp [isWat, h]
theorem allD_fact (hbef : ∀ (i : Nat) (d : DOp), D[i]? = some d → (∀ x ∈ d.bef, x < i) ∧ ∀ j w, d.guard = some (j, w) → j ∈ d.bef) :
    ∀ (l done : List DOp) (rs0 rs : Rs) (hs0 hs : List H), allD C rec hp ip sd base D done.length l rs0 hs0 = some (rs, hs) → D = done.reverse ++ l → Aligned done rs0 → hs0.length = (cntW D fun x => decide (x < done.length)) + 1 →
    Aligned (l.reverse ++ done) rs ∧ (∃ pre, hs = pre ++ hs0) ∧ hs.length = (cntW D fun x => decide (x < D.length)) + 1 ∧ (∀ j, j < done.length → getR rs j = getR rs0 j) ∧
    ∀ (i : Nat) (d : DOp), done.length ≤ i → D[i]? = some d → Fact C rec hp ip sd base D rs hs.reverse i d
  | [], done, rs0, rs, hs0, hs, h, hD, hal, hlen => by
    simp only [allD, Option.some.injEq, Prod.mk.injEq] at h
    obtain ⟨rfl, rfl⟩ := h
    have hl : D.length = done.length := by rw [hD]; simp
    refine ⟨by simpa using hal, ⟨[], rfl⟩, by rw [hlen, hl], fun _ _ => rfl, fun i d hi hd => ?_⟩
    have := (List.getElem?_eq_some_iff.1 hd).1
    omega
  | d :: l, done, rs0, rs, hs0, hs, h, hD, hal, hlen => by
    have hget : D[done.length]? = some d := by rw [hD, List.getElem?_append_right (by simp)]; simp
    have hlt : done.length < D.length := (List.getElem?_eq_some_iff.1 hget).1
    have hD' : D = (d :: done).reverse ++ l := by rw [hD]; simp
    have hk := cntW_succ hlt
    rw [isWat_eq hget] at hk
    simp only [allD] at h
    cases hS : d.k.isS with
    | true =>
      rw [hS] at h
      simp only at h
      have hW : d.k.isW = false := by cases hq : d.k <;> rw [hq] at hS <;> simp [DK.isS] at hS <;> rfl
      rw [hW] at hk
      simp only [Bool.false_eq_true, if_false, Nat.add_zero] at hk
      obtain ⟨h1, h2, h3, h4, h5⟩ := allD_fact hbef l (d :: done) ((done.length, .u) :: rs0) rs hs0 hs (by simpa using h) hD' ⟨rfl, hal⟩ (by simp only [List.length_cons]; rw [hk]; exact hlen)
      refine ⟨by simpa using h1, h2, h3, fun j hj => ?_, fun i e hi he => ?_⟩
      · rw [h4 j (by simp; omega)]
        simp only [getR]
        rw [if_neg (by omega)]
      · by_cases hi' : i = done.length
        · subst hi'
          rw [hget] at he; cases he
          unfold Fact
          rw [hS]
          simp only
          rw [h4 _ (by simp)]
          simp [getR]
        · exact h5 i e (by simp; omega) he
    | false =>
      rw [hS] at h
      cases hs0 with
      | nil => simp at hlen
      | cons σ hs0 =>
        simp only at h
        split at h <;> try (cases h; done)
        rename_i s σ' hone
        have hl0 : hs0.length = cntW D fun x => decide (x < done.length) := by simpa using hlen
        obtain ⟨h1, ⟨pre, h2⟩, h3, h4, h5⟩ := allD_fact hbef l (d :: done) ((done.length, s) :: rs0) rs _ hs (by simpa using h) hD' ⟨rfl, hal⟩ (by
          simp only [List.length_cons]
          rw [hk]
          cases hW : d.k.isW with
          | true => simp [hl0]
          | false => simp [hl0])
        have hbase : ∃ pre, hs = pre ++ (σ :: hs0) := by
          cases hW : d.k.isW with
          | true => rw [hW] at h2; exact ⟨pre ++ [σ'], by rw [h2]; simp⟩
          | false => rw [hW] at h2; exact ⟨pre, h2⟩
        refine ⟨by simpa using h1, hbase, h3, fun j hj => ?_, fun i e hi he => ?_⟩
        · rw [h4 j (by simp; omega)]
          simp only [getR]
          rw [if_neg (by omega)]
        · by_cases hi' : i = done.length
          · subst hi'
            rw [hget] at he; cases he
            unfold Fact
            rw [hS]
            simp only
            have hold : ∀ x, x < done.length → getR rs0 x = getR rs x := by
              intro x hx
              rw [h4 x (by simp; omega)]
              simp only [getR]
              rw [if_neg (by omega)]
            have hself : getR rs done.length = some s := by
              rw [h4 _ (by simp)]
              simp [getR]
            obtain ⟨hb1, hb2⟩ := hbef _ _ hget
            have hone' : oneD C rec hp ip sd base D rs d σ = some (s, σ') := by
              rw [← hone]
              exact (oneD_congr (fun x hx => hold x (hb1 x hx)) hb2).symm
            obtain ⟨pre0, hpre0⟩ := hbase
            have g1 : hs.reverse[cntW D fun x => decide (x < done.length)]? = some σ := by
              rw [hpre0, List.reverse_append, List.reverse_cons, List.append_assoc, List.getElem?_append_right (by simp; omega)]
              simp [hl0]
            cases hW : d.k.isW with
            | true =>
              rw [hW] at hk h2
              simp only at h2
              refine ⟨s, σ, σ', σ', hself, g1, ?_, hone', fun _ => rfl⟩
              rw [hk, h2, List.reverse_append, List.reverse_cons, List.append_assoc]
              rw [List.getElem?_append_right (by simp [hl0])]
              simp [hl0]
            | false =>
              rw [hW] at hk
              refine ⟨s, σ, σ, σ', hself, g1, ?_, hone', fun h => by cases h⟩
              rw [hk]
              simpa using g1
          · exact h5 i e (by simp; omega) he
/-! ### the stores -/
theorem putsD_fact {rs : Rs} {fin : Fr} : ∀ (l : List DOp) (ws : Wr), putsD C sd base D rs fin l = some ws →
    (∀ (i : Nat) d, l[i]? = some d → d.k.isS = true → ∃ b z, storeD C sd base D rs fin d = some (b, z) ∧ getW ws b = some z) ∧
    (∀ b z, getW ws b = some z → ∃ (i : Nat) (d : DOp), l[i]? = some d ∧ d.k.isS = true ∧ storeD C sd base D rs fin d = some (b, z)) ∧
    (∀ (i j : Nat) (d e : DOp) b z y, l[i]? = some d → l[j]? = some e → d.k.isS = true → e.k.isS = true → storeD C sd base D rs fin d = some (b, z) → storeD C sd base D rs fin e = some (b, y) → i = j)
  | [], ws, h => by
    simp [putsD] at h; subst h
    refine ⟨fun i d h => by simp at h, fun b z h => by simp [getW] at h, fun i j d e b z y h => by simp at h⟩
  | d :: l, ws, h => by
    simp only [putsD] at h
    cases hS : d.k.isS with
    | false =>
      rw [hS] at h
      simp only at h
      obtain ⟨h1, h2, h3⟩ := putsD_fact l ws h
      have no : ∀ (i : Nat) (e : DOp), (d :: l)[i]? = some e → e.k.isS = true → ∃ k, i = k + 1 ∧ l[k]? = some e := by
        intro i e hi he
        cases i with
        | zero => simp at hi; subst hi; rw [hS] at he; cases he
        | succ k => exact ⟨k, rfl, by simpa using hi⟩
      refine ⟨fun i e hi he => ?_, fun b z hb => ?_, fun i j e e' b z y hi hj he he' hz hy => ?_⟩
      · obtain ⟨k, rfl, hk⟩ := no i e hi he
        exact h1 k e hk he
      · obtain ⟨i, e, h4, h5⟩ := h2 b z hb
        exact ⟨i + 1, e, by simpa using h4, h5⟩
      · obtain ⟨k, rfl, hk⟩ := no i e hi he
        obtain ⟨k', rfl, hk'⟩ := no j e' hj he'
        rw [h3 k k' e e' b z y hk hk' he he' hz hy]
    | true =>
      rw [hS] at h
      cases hws : putsD C sd base D rs fin l with
      | none => rw [hws] at h; simp at h
      | some ws0 =>
        rw [hws] at h
        simp only at h
        split at h <;> try (cases h; done)
        rename_i b z hst
        split at h <;> try (cases h; done)
        rename_i hnone
        simp at h; subst h
        obtain ⟨h1, h2, h3⟩ := putsD_fact l ws0 hws
        have hne : ∀ (i : Nat) (e : DOp) b' z', l[i]? = some e → e.k.isS = true → storeD C sd base D rs fin e = some (b', z') → b' ≠ b := by
          intro i e b' z' hi he hz heq
          subst heq
          obtain ⟨b2, z2, h4, h5⟩ := h1 i e hi he
          rw [hz] at h4; cases h4
          rw [hnone] at h5; cases h5
        refine ⟨fun i e hi he => ?_, fun b' z' hb => ?_, fun i j e e' b' z' y hi hj he he' hz hy => ?_⟩
        · cases i with
          | zero => simp at hi; subst hi; exact ⟨b, z, hst, by simp [getW]⟩
          | succ i =>
            obtain ⟨b', z', h4, h5⟩ := h1 i e (by simpa using hi) he
            have := hne i e b' z' (by simpa using hi) he h4
            exact ⟨b', z', h4, by simp only [getW]; rw [if_neg (Ne.symm this)]; exact h5⟩
        · simp only [getW] at hb
          split at hb
          · simp at hb; subst hb; subst_vars; exact ⟨0, d, rfl, hS, hst⟩
          · obtain ⟨i, e, h4, h5⟩ := h2 b' z' hb
            exact ⟨i + 1, e, by simpa using h4, h5⟩
        · cases i with
          | zero =>
            simp at hi; subst hi
            rw [hst] at hz; cases hz
            cases j with
            | zero => rfl
            | succ j => exact absurd rfl (hne j e' b y (by simpa using hj) he' hy)
          | succ i =>
            cases j with
            | zero =>
              simp at hj; subst hj
              rw [hst] at hy; cases hy
              exact absurd rfl (hne i e b z' (by simpa using hi) he hz)
            | succ j => rw [h3 i j e e' b' z' y (by simpa using hi) (by simpa using hj) he he' hz hy]
/-! ### frames -/
theorem getS_hide (sd : List Nat) : ∀ (l : List (Nat × SV)) (t : Nat), getS (hideL sd l) t = hideS sd t (getS l t)
  | [], t => rfl
  | (x, s) :: l, t => by
    simp only [hideL, getS_nil, getS_cons]
    split
    · subst_vars; rfl
    · exact getS_hide sd l t
theorem seeD_get {rs : Rs} : ∀ (bef : List Nat) (V : Fr), seeD sd base D rs bef = some V → V.lk = base.lk ∧ (∀ x ∈ bef, ∃ d s, D[x]? = some d ∧ getR rs x = some s) ∧
    ∀ t, (∃ x d s, x ∈ bef ∧ D[x]? = some d ∧ d.o.dst = some t ∧ getR rs x = some s ∧ getS V.sl t = hideS sd t s) ∨ ((∀ x ∈ bef, ∀ d, D[x]? = some d → d.o.dst ≠ some t) ∧ getS V.sl t = hideS sd t (getS base.sl t))
  | [], V, h => by
    simp [seeD] at h; subst h
    refine ⟨rfl, fun x hx => (by cases hx), fun t => .inr ⟨fun x hx => (by cases hx), getS_hide sd _ t⟩⟩
  | x :: bef, V, h => by
    simp only [seeD] at h
    split at h <;> try (cases h; done)
    rename_i V0 d s hV0 hd hs
    obtain ⟨h1, h2, h3⟩ := seeD_get bef V0 hV0
    have h2' : ∀ y ∈ x :: bef, ∃ d s, D[y]? = some d ∧ getR rs y = some s := by
      intro y hy
      rcases List.mem_cons.1 hy with rfl | hy
      · exact ⟨d, s, hd, hs⟩
      · exact h2 y hy
    cases hdst : d.o.dst with
    | none =>
      rw [hdst] at h
      simp at h; subst h
      refine ⟨h1, h2', fun t => ?_⟩
      rcases h3 t with ⟨y, e, s', h4, h5⟩ | ⟨h4, h5⟩
      · exact .inl ⟨y, e, s', List.mem_cons_of_mem _ h4, h5⟩
      · refine .inr ⟨fun y hy e he => ?_, h5⟩
        rcases List.mem_cons.1 hy with rfl | hy
        · rw [hd] at he; cases he; rw [hdst]; simp
        · exact h4 y hy e he
    | some q =>
      rw [hdst] at h
      simp at h; subst h
      refine ⟨h1, h2', fun t => ?_⟩
      rw [getS_put]
      by_cases hq : q = t
      · subst hq
        exact .inl ⟨x, d, s, List.mem_cons_self .., hd, hdst, hs, by simp⟩
      · rw [if_neg hq]
        rcases h3 t with ⟨y, e, s', h4, h5⟩ | ⟨h4, h5⟩
        · exact .inl ⟨y, e, s', List.mem_cons_of_mem _ h4, h5⟩
        · refine .inr ⟨fun y hy e he => ?_, h5⟩
          rcases List.mem_cons.1 hy with rfl | hy
          · rw [hd] at he; cases he; rw [hdst]; simpa using hq
          · exact h4 y hy e he
theorem endD_get : ∀ (l : List DOp) (rs : Rs), Aligned l rs → (endD base l rs).lk = base.lk ∧
    ∀ t, (∃ (i : Nat) (d : DOp) (s : SV), l.reverse[i]? = some d ∧ d.o.dst = some t ∧ getR rs i = some s ∧ getS (endD base l rs).sl t = s) ∨ ((∀ (i : Nat) (d : DOp), l.reverse[i]? = some d → d.o.dst ≠ some t) ∧ getS (endD base l rs).sl t = getS base.sl t)
  | [], [], _ => ⟨rfl, fun t => .inr ⟨fun i d h => by simp at h, rfl⟩⟩
  | [], _ :: _, h => h.elim
  | _ :: _, [], h => h.elim
  | d :: l, (i, s) :: rs, h => by
    obtain ⟨rfl, h2⟩ := h
    obtain ⟨h3, h4⟩ := endD_get l rs h2
    have hlast : (d :: l).reverse[l.length]? = some d := by simp
    have hold : ∀ (i : Nat) (e : DOp), l.reverse[i]? = some e → (d :: l).reverse[i]? = some e ∧ i ≠ l.length := by
      intro i e hi
      have hlt : i < l.length := by have := (List.getElem?_eq_some_iff.1 hi).1; simpa using this
      exact ⟨by rw [List.reverse_cons, List.getElem?_append_left (by simpa using hlt)]; exact hi, by omega⟩
    have hinv : ∀ (i : Nat) (e : DOp), (d :: l).reverse[i]? = some e → (i = l.length ∧ e = d) ∨ l.reverse[i]? = some e := by
      intro i e hi
      by_cases hlt : i < l.length
      · rw [List.reverse_cons, List.getElem?_append_left (by simpa using hlt)] at hi; exact .inr hi
      · have := (List.getElem?_eq_some_iff.1 hi).1
        simp at this
        have : i = l.length := by omega
        subst this
        rw [hlast] at hi; cases hi
        exact .inl ⟨rfl, rfl⟩
    have olds : ∀ t, (∃ (i : Nat) (d' : DOp) (s' : SV), l.reverse[i]? = some d' ∧ d'.o.dst = some t ∧ getR rs i = some s' ∧ getS (endD base l rs).sl t = s') → (∃ (i : Nat) (d' : DOp) (s' : SV), (d :: l).reverse[i]? = some d' ∧ d'.o.dst = some t ∧ getR ((l.length, s) :: rs) i = some s' ∧ getS (endD base l rs).sl t = s') := by
      rintro t ⟨i, e, s', h5, h6, h7, h8⟩
      obtain ⟨h9, h10⟩ := hold i e h5
      exact ⟨i, e, s', h9, h6, by simp only [getR]; rw [if_neg (Ne.symm h10)]; exact h7, h8⟩
    simp only [endD]
    cases hdst : d.o.dst with
    | none =>
      refine ⟨h3, fun t => ?_⟩
      rcases h4 t with h5 | ⟨h5, h6⟩
      · exact .inl (olds t h5)
      · refine .inr ⟨fun i e hi => ?_, h6⟩
        rcases hinv i e hi with ⟨rfl, rfl⟩ | hi
        · rw [hdst]; simp
        · exact h5 i e hi
    | some q =>
      refine ⟨h3, fun t => ?_⟩
      simp only [getS_put]
      by_cases hq : q = t
      · subst hq
        exact .inl ⟨l.length, d, s, hlast, hdst, by simp [getR], by simp⟩
      · rw [if_neg hq]
        rcases h4 t with h5 | ⟨h5, h6⟩
        · exact .inl (olds t h5)
        · refine .inr ⟨fun i e hi => ?_, h6⟩
          rcases hinv i e hi with ⟨rfl, rfl⟩ | hi
          · rw [hdst]; simpa using hq
          · exact h5 i e hi
theorem putW_get (fr : Fr) : ∀ (ws : Wr), (putW fr ws).lk = fr.lk ∧ ∀ t, getS (putW fr ws).sl t = match getW ws t with | some z => .bx z | none => getS fr.sl t
  | [] => ⟨rfl, fun t => rfl⟩
  | (b, z) :: ws => by
    obtain ⟨h1, h2⟩ := putW_get fr ws
    refine ⟨h1, fun t => ?_⟩
    simp only [putW, getS_put, getW]
    by_cases hb : b = t
    · simp [hb]
    · rw [if_neg hb, if_neg hb]; exact h2 t
end Go.Am
/-! ## part DrawC -/
/- The abstract machine and the model: regions of open order: one step. -/
namespace Go.Am
open Go
def aftOf (o : Oper) : List Nat := o.after.toList.filterMap fun e => if Region.binds .any e = true then some e.on else none
structure MatchD (ops : Array Oper) (A : List DOp) : Prop where
  size : ops.size = A.length
  op : ∀ (i : Nat) d, A[i]? = some d → ∃ o, ops[i]? = some o ∧ o.op = d.o.op ∧ o.dst = d.o.dst ∧ o.guard = d.guard ∧ aftOf o = d.aft
variable {P : Program} {C : Ctx} {rec : Nat → List AV → M AV} {hp ip : List Nat}
structure Plan (P : Program) (C : Ctx) (rec : Nat → List AV → M AV) (hp ip : List Nat) (n : Nat) (sd : List Nat) (base : Fr) (D : List DOp) (rs : Rs) (ws : Wr) (hr : List H) : Prop where
  tys : Tys P C
  call : CallOK P rec
  ind : RecInd rec
  nodup : nodupD D = true
  bef : ∀ (i : Nat) (d : DOp), D[i]? = some d → ∀ x ∈ d.bef, x < i
  kok : ∀ (i : Nat) (d : DOp), D[i]? = some d → KOK n D i d
  fact : ∀ (i : Nat) (d : DOp), D[i]? = some d → Fact C rec hp ip sd base D rs hr i d
  al : Aligned D.reverse rs
  check : checkD C rec hp ip sd base D rs hr 0 D = true
  puts : putsD C sd base D rs (endD base D.reverse rs) D = some ws
  dstU : ∀ (i : Nat) (d : DOp) t, D[i]? = some d → d.o.dst = some t → getS base.sl t = .u
  baseR : ∀ t q off, getS base.sl t = .lp q off → (getS base.sl q).isBox = true
  clo : ∀ (i : Nat) (d : DOp), D[i]? = some d → ∀ x ∈ d.bef, ∀ e, D[x]? = some e → ∀ y ∈ e.bef, y ∈ d.bef
def WAt (C : Ctx) (sd : List Nat) (base : Fr) (D : List DOp) (rs : Rs) (L : Nat → Bool) (t : Nat) (z : AV) : Prop :=
  ∃ (j : Nat) (e : DOp), D[j]? = some e ∧ e.k.isS = true ∧ L j = true ∧ storeD C sd base D rs (endD base D.reverse rs) e = some (t, z)
structure Rel (C : Ctx) (sd : List Nat) (base : Fr) (D : List DOp) (rs : Rs) (L : Nat → Bool) (TF : Fr) : Prop where
  r1 : ∀ (i : Nat) (d : DOp) t, D[i]? = some d → d.o.dst = some t → L i = false → getS TF.sl t = .u
  r2 : ∀ (i : Nat) (d : DOp) t s, D[i]? = some d → d.o.dst = some t → L i = true → getR rs i = some s → getS TF.sl t = s ∨ ∃ z, WAt C sd base D rs L t z
  r3 : ∀ t, (∀ (i : Nat) (d : DOp), D[i]? = some d → d.o.dst ≠ some t) → getS TF.sl t = getS base.sl t ∨ ∃ z, WAt C sd base D rs L t z
  r4 : ∀ t z, WAt C sd base D rs L t z → getS TF.sl t = .bx z
  r5 : ∀ (i : Nat) (d : DOp) q off, D[i]? = some d → L i = true → getR rs i = some (.lp q off) → ∃ V, seeD sd base D rs d.bef = some V ∧ (getS V.sl q).isBox = true
def Down (D : List DOp) (L : Nat → Bool) : Prop := ∀ (i : Nat) (d : DOp), D[i]? = some d → L i = true → ∀ x ∈ d.bef, L x = true
def also (L : Nat → Bool) (i : Nat) : Nat → Bool := fun x => L x || decide (x = i)
theorem also_self (L : Nat → Bool) (i : Nat) : also L i i = true := by simp [also]
theorem also_old {L : Nat → Bool} {i x : Nat} (h : L x = true) : also L i x = true := by simp [also, h]
theorem also_ne {L : Nat → Bool} {i x : Nat} (h : x ≠ i) : also L i x = L x := by simp [also, h]
variable {n B : Nat} {sd : List Nat} {base : Fr} {D : List DOp} {rs : Rs} {ws : Wr} {hr : List H} {L : Nat → Bool} {TF V : Fr} {g g' : G} {σ σ' : H} {w w' : World} {a : Act} {o : Oper} {e : Eff}
theorem storeD_eq {fin : Fr} {d : DOp} {b : Nat} {z : AV} (h : storeD C sd base D rs fin d = some (b, z)) :
    d.guard = none ∧ d.o.dst = none ∧ ∃ t x y V off v ti z0, d.o.op = .store t x y ∧ seeD sd base D rs d.bef = some V ∧ ev V x = .lp b off ∧ av V y = some v ∧ C.ti t = some ti ∧ getS V.sl b = .hb ∧ memN b sd = true ∧ getS fin.sl b = .bx z0 ∧ putAt ti off z0 v = some z := by
  unfold storeD at h
  split at h <;> try (cases h; done)
  rename_i t x y V h1 h2 h3 h4
  split at h <;> try (cases h; done)
  rename_i b' off v ti h5 h6 h7
  split at h <;> try (cases h; done)
  rename_i z0 h8 h9 h10
  split at h <;> try (cases h; done)
  rename_i z' h11
  simp at h
  obtain ⟨rfl, rfl⟩ := h
  refine ⟨h1, h2, t, x, y, V, off, v, ti, z0, h3, h4, h5, h6, h7, h8, h9, ?_, h11⟩
  unfold boxAt at h10
  split at h10 <;> simp at h10
  rename_i hs
  subst h10
  exact hs
theorem hide_cases (sd : List Nat) (t : Nat) (s : SV) : hideS sd t s = s ∨ (hideS sd t s = .hb ∧ memN t sd = true ∧ ∃ x, s = .bx x) := by
  unfold hideS
  split
  · rename_i x
    split
    · rename_i h; exact .inr ⟨rfl, h, x, rfl⟩
    · exact .inl rfl
  · exact .inl rfl
theorem hide_hb {t : Nat} {s : SV} (h : hideS sd t s = .hb) : s = .hb ∨ ∃ x, s = .bx x := by
  rcases hide_cases sd t s with h1 | ⟨_, _, h2⟩
  · rw [h1] at h; exact .inl h
  · exact .inr h2
theorem Plan.fin (hP : Plan P C rec hp ip n sd base D rs ws hr) {i : Nat} {d : DOp} {t : Nat} {s : SV} (h1 : D[i]? = some d) (h2 : d.o.dst = some t) (h3 : getR rs i = some s) : getS (endD base D.reverse rs).sl t = s := by
  rcases (endD_get D.reverse rs hP.al).2 t with ⟨j, e, s', h4, h5, h6, h7⟩ | ⟨h4, _⟩
  · rw [List.reverse_reverse] at h4
    have := nodup_eq hP.nodup h1 h4 h2 h5
    subst this
    rw [h3] at h6; cases h6
    exact h7
  · rw [List.reverse_reverse] at h4
    exact absurd h2 (h4 i d h1)
theorem Plan.finB (hP : Plan P C rec hp ip n sd base D rs ws hr) {t : Nat} (h : ∀ (i : Nat) (d : DOp), D[i]? = some d → d.o.dst ≠ some t) : getS (endD base D.reverse rs).sl t = getS base.sl t := by
  rcases (endD_get D.reverse rs hP.al).2 t with ⟨j, e, s', h4, h5, h6, h7⟩ | ⟨_, h4⟩
  · rw [List.reverse_reverse] at h4
    exact absurd h5 (h j e h4)
  · exact h4
theorem Plan.wbox (hP : Plan P C rec hp ip n sd base D rs ws hr) {t : Nat} {z : AV} (h : WAt C sd base D rs L t z) : ∃ z0, getS (endD base D.reverse rs).sl t = .bx z0 ∧ memN t sd = true := by
  obtain ⟨j, e, _, _, _, h⟩ := h
  obtain ⟨_, _, t', x, y, V, off, v, ti, z0, _, _, _, _, _, _, h1, h2, _⟩ := storeD_eq h
  exact ⟨z0, h2, h1⟩
theorem Rel.sees (hP : Plan P C rec hp ip n sd base D rs ws hr) (hR : Rel C sd base D rs L TF) {bef : List Nat} (hL : ∀ x ∈ bef, L x = true) (hV : seeD sd base D rs bef = some V) :
    ∀ t, getS V.sl t = .u ∨ getS V.sl t = getS TF.sl t ∨ (getS V.sl t = .hb ∧ ∃ x, getS TF.sl t = .bx x) := by
  obtain ⟨_, _, h3⟩ := seeD_get bef V hV
  intro t
  have key : ∀ s, getS V.sl t = hideS sd t s → getS (endD base D.reverse rs).sl t = s → (getS TF.sl t = s ∨ ∃ z, WAt C sd base D rs L t z) → getS V.sl t = getS TF.sl t ∨ (getS V.sl t = .hb ∧ ∃ x, getS TF.sl t = .bx x) := by
    intro s h4 h5 h6
    rcases h6 with h6 | ⟨z, h6⟩
    · rcases hide_cases sd t s with h7 | ⟨h7, _, x, h8⟩
      · left; rw [h4, h7, h6]
      · right; exact ⟨by rw [h4, h7], x, by rw [h6, h8]⟩
    · obtain ⟨z0, h7, h8⟩ := hP.wbox h6
      rw [h5] at h7
      right
      refine ⟨?_, z, hR.r4 t z h6⟩
      rw [h4, h7]
      simp [hideS, h8]
  rcases h3 t with ⟨x, d, s, h4, h5, h6, h7, h8⟩ | ⟨h4, h5⟩
  · exact .inr (key s h8 (hP.fin h5 h6 h7) (hR.r2 x d t s h5 h6 (hL x h4) h7))
  · by_cases hex : ∃ (i : Nat) (d : DOp), D[i]? = some d ∧ d.o.dst = some t
    · obtain ⟨i, d, h6, h7⟩ := hex
      left
      rw [h5, hP.dstU i d t h6 h7]
      rfl
    · have hno : ∀ (i : Nat) (d : DOp), D[i]? = some d → d.o.dst ≠ some t := fun i d h6 h7 => hex ⟨i, d, h6, h7⟩
      exact .inr (key _ h5 (hP.finB hno) (hR.r3 t hno))
theorem hide_isBox (sd : List Nat) (t : Nat) (s : SV) : (hideS sd t s).isBox = s.isBox := by
  unfold hideS
  split
  · split <;> rfl
  · rfl
theorem hide_lp {t q off : Nat} {s : SV} (h : hideS sd t s = .lp q off) : s = .lp q off := by
  rcases hide_cases sd t s with h1 | ⟨h1, _, _⟩
  · rw [h1] at h; exact h
  · rw [h1] at h; cases h
theorem Rel.lps (hP : Plan P C rec hp ip n sd base D rs ws hr) (hR : Rel C sd base D rs L TF) {bef : List Nat} (hL : ∀ x ∈ bef, L x = true) (hc : ∀ x ∈ bef, ∀ e, D[x]? = some e → ∀ y ∈ e.bef, y ∈ bef) (hV : seeD sd base D rs bef = some V) :
    ∀ t q off, getS V.sl t = .lp q off → (getS V.sl q).isBox = true := by
  obtain ⟨_, _, h3⟩ := seeD_get bef V hV
  have viaBase : ∀ q, (getS base.sl q).isBox = true → (getS V.sl q).isBox = true := by
    intro q hq
    rcases h3 q with ⟨x, d, s, _, h5, h6, _, _⟩ | ⟨_, h5⟩
    · rw [hP.dstU x d q h5 h6] at hq; cases hq
    · rw [h5, hide_isBox]; exact hq
  intro t q off ht
  rcases h3 t with ⟨x, d, s, h4, h5, h6, h7, h8⟩ | ⟨h4, h5⟩
  · rw [h8] at ht
    rw [hide_lp ht] at h7
    obtain ⟨Vx, k1, k2⟩ := hR.r5 x d q off h5 (hL x h4) h7
    obtain ⟨_, _, k3⟩ := seeD_get _ Vx k1
    rcases k3 q with ⟨y, e, s', k4, k5, k6, k7, k8⟩ | ⟨k4, k5⟩
    · have hy := hc x h4 d h5 y k4
      rcases h3 q with ⟨y', e', s'', m4, m5, m6, m7, m8⟩ | ⟨m4, _⟩
      · have := nodup_eq hP.nodup k5 m5 k6 m6
        subst this
        rw [k7] at m7; cases m7
        rw [m8, ← k8]; exact k2
      · exact absurd k6 (m4 y hy e k5)
    · rw [k5, hide_isBox] at k2
      exact viaBase q k2
  · rw [h5] at ht
    exact viaBase q (hP.baseR t q off (hide_lp ht))
theorem FR.hide (hf : FR B g σ TF a w) (h : ∀ t, getS V.sl t = .u ∨ getS V.sl t = getS TF.sl t ∨ (getS V.sl t = .hb ∧ ∃ x, getS TF.sl t = .bx x)) (hb : ∀ t d off, getS V.sl t = .lp d off → (getS V.sl d).isBox = true) : FR B g σ V a w := by
  refine ⟨fun t => ?_, fun t t' x x' v h1 h2 h3 h4 => ?_, hf.defers⟩
  · rcases h t with h1 | h1 | ⟨h1, x, h2⟩
    · rw [h1]; trivial
    · have hb' := hb t
      rw [h1] at hb' ⊢
      have := hf.sv t
      revert this hb'
      generalize hs : getS TF.sl t = s
      intro hb' this
      cases s with
      | u => trivial
      | v x => exact this
      | bx x => exact this
      | hb => exact this
      | lp d off =>
        obtain ⟨h2, h3⟩ := this
        exact ⟨hb' d off rfl, h3⟩
    · rw [h1]
      obtain ⟨b, h3, _⟩ := hf.get t h2
      exact ⟨b, h3⟩
  · have k1 : getS TF.sl t = .bx x := by
      rcases h t with h5 | h5 | ⟨h5, _⟩
      · rw [h5] at h1; cases h1
      · rw [← h5]; exact h1
      · rw [h5] at h1; cases h1
    have k2 : getS TF.sl t' = .bx x' := by
      rcases h t' with h5 | h5 | ⟨h5, _⟩
      · rw [h5] at h2; cases h2
      · rw [← h5]; exact h2
      · rw [h5] at h2; cases h2
    exact hf.inj t t' x x' v k1 k2 h3 h4
end Go.Am
/-! ## part DrawD -/
/- The abstract machine and the model: regions of open order: one step. -/
namespace Go.Am
open Go
variable {P : Program} {C : Ctx} {rec : Nat → List AV → M AV} {hp ip : List Nat}
variable {n B : Nat} {sd : List Nat} {base : Fr} {D : List DOp} {rs : Rs} {ws : Wr} {hr : List H} {L : Nat → Bool} {TF V : Fr} {g g' : G} {σ σ' : H} {w w' : World} {a : Act} {o : Oper} {e : Eff}
theorem sameD_at {i : Nat} {d : DOp} {s : SV} (hs : getR rs i = some s) : ∀ {l : List H}, sameD C rec hp ip sd base D rs i d l = true → ∀ σ ∈ l, ∃ σ', oneD C rec hp ip sd base D rs d σ = some (s, σ')
  | [], _, σ, h => by cases h
  | x :: l, h, σ, hm => by
    simp only [sameD, Bool.and_eq_true] at h
    rcases List.mem_cons.1 hm with rfl | hm
    · have h1 := h.1
      rw [hs] at h1
      split at h1
      · rename_i s1 σ1 s2 h2 h3
        cases h3
        rw [SV.same_eq h1] at h2
        exact ⟨σ1, h2⟩
      · cases h1
    · exact sameD_at hs h.2 σ hm
theorem checkD_at : ∀ {l : List DOp} {i : Nat}, checkD C rec hp ip sd base D rs hr i l = true → ∀ {k : Nat} {d : DOp}, l[k]? = some d → ∀ lo hi, d.k = .l lo hi → lo = hi ∨ sameD C rec hp ip sd base D rs (i + k) d (between lo hi hr) = true
  | [], i, _, k, d, hk => by simp at hk
  | y :: l, i, h, k, d, hk => by
    simp only [checkD, Bool.and_eq_true] at h
    intro lo hi hq
    cases k with
    | zero =>
      simp at hk; subst hk
      have h1 := h.1
      rw [hq] at h1
      simp only [Bool.or_eq_true, beq_iff_eq] at h1
      exact h1
    | succ k =>
      have := checkD_at h.2 (k := k) (d := d) (by simpa using hk) lo hi hq
      rw [show i + (k + 1) = i + 1 + k by omega]; exact this
theorem between_mem {lo hi k : Nat} {l : List H} (h1 : lo ≤ k) (h2 : k ≤ hi) (h : l[k]? = some σ) : σ ∈ between lo hi l := by
  unfold between
  apply List.mem_of_getElem? (i := k - lo)
  rw [List.getElem?_take, if_pos (by omega), List.getElem?_drop, show lo + (k - lo) = k by omega]
  exact h
theorem oneD_still {d : DOp} {s : SV} (h : oneD C rec hp ip sd base D rs d σ = some (s, σ')) (hk : ∃ lo hi, d.k = .l lo hi) : σ' = σ := by
  obtain ⟨lo, hi, hk⟩ := hk
  unfold oneD at h
  rw [hk] at h
  split at h
  · simp only at h
    split at h <;> try (cases h; done)
    rename_i hl
    unfold calmO at h
    split at h <;> try (cases h; done)
    rename_i e σ1 he
    split at h <;> simp at h
    obtain ⟨_, rfl⟩ := h
    exact opE_looks hl he
  · simp at h; exact h.2.symm
  · cases h
theorem oneD_quiet {d : DOp} {s : SV} {σ1 : H} (h : oneD C rec hp ip sd base D rs d σ1 = some (s, σ')) (hk : d.k = .q) (σ : H) : oneD C rec hp ip sd base D rs d σ = some (s, σ) := by
  unfold oneD at h ⊢
  rw [hk] at h ⊢
  split at h
  · rename_i fr h1 h2
    simp only at h ⊢
    split at h <;> try (cases h; done)
    rename_i hq
    rw [if_pos hq]
    unfold quietO at h ⊢
    split at h <;> simp at h
    rename_i s' hs'
    obtain ⟨rfl, _⟩ := h
    rfl
  · simp at h ⊢; exact h.1
  · cases h
theorem Plan.one (hP : Plan P C rec hp ip n sd base D rs ws hr) {i : Nat} {d : DOp} (hd : D[i]? = some d) (hi : L i = false) (hb : ∀ x ∈ d.bef, L x = true) (hdn : Down D L) (hS : d.k.isS = false) (hσ : hr[cntW D L]? = some σ) :
    ∃ s σn, getR rs i = some s ∧ oneD C rec hp ip sd base D rs d σ = some (s, σn) ∧ hr[cntW D (also L i)]? = some σn := by
  have hF := hP.fact i d hd
  unfold Fact at hF
  rw [hS] at hF
  obtain ⟨s, σ1, σ2, σ3, f1, f2, f3, f4, f5⟩ := hF
  have hK := hP.kok i d hd
  have same : isWat D i = false → hr[cntW D (also L i)]? = some σ := by
    intro hw
    rw [cntW_congr (q := L) (fun x _ hx => also_ne fun e => by subst e; rw [hw] at hx; cases hx)]
    exact hσ
  cases hk : d.k with
  | s => rw [hk] at hS; cases hS
  | q => exact ⟨s, σ, f1, oneD_quiet f4 hk σ, same (by rw [isWat_eq hd, hk]; rfl)⟩
  | l lo hi' =>
    obtain ⟨l1, l2, l3, l4⟩ := hK.l lo hi' hk
    have c1 : lo ≤ cntW D L := Nat.le_trans l1 (cntW_mono fun x _ _ hx => hb x (memN_mem.1 hx))
    have c2 : cntW D L ≤ hi' := Nat.le_trans (cntW_mono fun x hx _ hLx => by
      cases hm : memN i (befAt D x) with
      | false => rfl
      | true =>
        have hm' := memN_mem.1 hm
        cases hq : D[x]? with
        | none => rw [befAt, hq] at hm'; cases hm'
        | some e =>
          rw [befAt, hq] at hm'
          have := hdn x e hq hLx i hm'
          rw [hi] at this; cases this) l2
    have hno : isWat D i = false := by rw [isWat_eq hd, hk]; rfl
    rcases checkD_at hP.check (k := i) (d := d) hd lo hi' hk with heq | hsm
    · have : cntW D L = cntW D fun x => decide (x < i) := by omega
      rw [this, f2] at hσ
      cases hσ
      have := oneD_still f4 ⟨lo, hi', hk⟩
      subst this
      have hs := same hno
      exact ⟨s, _, f1, f4, hs⟩
    · rw [Nat.zero_add] at hsm
      obtain ⟨σ', h1⟩ := sameD_at f1 hsm σ (between_mem c1 c2 hσ)
      have := oneD_still h1 ⟨lo, hi', hk⟩
      subst this
      exact ⟨s, _, f1, h1, same hno⟩
  | w =>
    have hw := hK.w hk
    have e1 : cntW D L = cntW D fun x => decide (x < i) := cntW_congr fun x hx hW => by
      obtain ⟨h1, h2⟩ := hw x hx hW
      rcases Nat.lt_trichotomy x i with h | h | h
      · rw [hb x (h1 h)]; simp [h]
      · subst h; rw [hi]; simp
      · have : ¬ x < i := by omega
        simp only [this, decide_false]
        cases hq : L x with
        | false => rfl
        | true =>
          have hm := h2 h
          have hq' : D[x]? = some D[x] := List.getElem?_eq_getElem hx
          rw [befAt, hq'] at hm
          have := hdn x _ hq' hq i hm
          rw [hi] at this; cases this
    have e2 : cntW D (also L i) = cntW D fun x => decide (x < i + 1) := cntW_congr fun x hx hW => by
      obtain ⟨h1, h2⟩ := hw x hx hW
      rcases Nat.lt_trichotomy x i with h | h | h
      · rw [also_old (hb x (h1 h))]; simp; omega
      · subst h; rw [also_self]; simp
      · have : ¬ x < i + 1 := by omega
        simp only [this, decide_false]
        rw [also_ne (by omega)]
        cases hq : L x with
        | false => rfl
        | true =>
          have hm := h2 h
          have hq' : D[x]? = some D[x] := List.getElem?_eq_getElem hx
          rw [befAt, hq'] at hm
          have := hdn x _ hq' hq i hm
          rw [hi] at this; cases this
    rw [e1, f2] at hσ
    cases hσ
    have := f5 (by rw [hk]; rfl)
    subst this
    exact ⟨s, _, f1, f4, by rw [e2]; exact f3⟩
theorem WAt.also {t : Nat} {z : AV} {i : Nat} (h : WAt C sd base D rs L t z) : WAt C sd base D rs (also L i) t z := by
  obtain ⟨j, e, h1, h2, h3, h4⟩ := h
  exact ⟨j, e, h1, h2, also_old h3, h4⟩
theorem Rel.put (hP : Plan P C rec hp ip n sd base D rs ws hr) (hR : Rel C sd base D rs L TF) (hdn : Down D L) {i : Nat} {d : DOp} {s : SV} (hd : D[i]? = some d) (hi : L i = false) (hS : d.k.isS = false) (hs : getR rs i = some s)
    (h5 : ∀ q off, s = .lp q off → ∃ V, seeD sd base D rs d.bef = some V ∧ (getS V.sl q).isBox = true) : Rel C sd base D rs (also L i) (match d.o.dst with | some t => TF.put t s | none => TF) := by
  have wold : ∀ t z, WAt C sd base D rs (Am.also L i) t z → WAt C sd base D rs L t z := by
    rintro t z ⟨j, e, h1, h2, h3, h4⟩
    refine ⟨j, e, h1, h2, ?_, h4⟩
    by_cases hj : j = i
    · subst hj; rw [hd] at h1; cases h1; rw [hS] at h2; cases h2
    · rw [also_ne hj] at h3; exact h3
  have r5' : ∀ (j : Nat) (e : DOp) q off, D[j]? = some e → Am.also L i j = true → getR rs j = some (.lp q off) → ∃ V, seeD sd base D rs e.bef = some V ∧ (getS V.sl q).isBox = true := by
    intro j e q off h1 h2 h3
    by_cases hj : j = i
    · subst hj; rw [hd] at h1; cases h1
      rw [hs] at h3; cases h3
      exact h5 q off rfl
    · rw [also_ne hj] at h2; exact hR.r5 j e q off h1 h2 h3
  cases hdst : d.o.dst with
  | none =>
    have ne : ∀ (j : Nat) (e : DOp) t, D[j]? = some e → e.o.dst = some t → j ≠ i := fun j e t h1 h2 h3 => by subst h3; rw [hd] at h1; cases h1; rw [hdst] at h2; cases h2
    refine ⟨fun j e t h1 h2 h3 => ?_, fun j e t s' h1 h2 h3 h4 => ?_, fun t h1 => ?_, fun t z h1 => hR.r4 t z (wold t z h1), r5'⟩
    · rw [also_ne (ne j e t h1 h2)] at h3; exact hR.r1 j e t h1 h2 h3
    · rw [also_ne (ne j e t h1 h2)] at h3
      exact (hR.r2 j e t s' h1 h2 h3 h4).imp id fun ⟨z, hz⟩ => ⟨z, hz.also⟩
    · exact (hR.r3 t h1).imp id fun ⟨z, hz⟩ => ⟨z, hz.also⟩
  | some q =>
    have oth : ∀ (j : Nat) (e : DOp) t, D[j]? = some e → e.o.dst = some t → j ≠ i → q ≠ t := fun j e t h1 h2 h3 h4 => by
      subst h4; exact h3 (nodup_eq hP.nodup h1 hd h2 hdst)
    refine ⟨fun j e t h1 h2 h3 => ?_, fun j e t s' h1 h2 h3 h4 => ?_, fun t h1 => ?_, fun t z h1 => ?_, r5'⟩
    · have hj : j ≠ i := fun h => by subst h; rw [also_self] at h3; cases h3
      rw [also_ne hj] at h3
      simp only
      rw [getS_put, if_neg (oth j e t h1 h2 hj)]
      exact hR.r1 j e t h1 h2 h3
    · by_cases hj : j = i
      · subst hj
        rw [hd] at h1; cases h1
        rw [hdst] at h2; cases h2
        rw [hs] at h4; cases h4
        left
        simp only [getS_put, if_true]
      · rw [also_ne hj] at h3
        simp only
        rw [getS_put, if_neg (oth j e t h1 h2 hj)]
        exact (hR.r2 j e t s' h1 h2 h3 h4).imp id fun ⟨z, hz⟩ => ⟨z, hz.also⟩
    · have : q ≠ t := fun h => by subst h; exact h1 i d hd hdst
      simp only
      rw [getS_put, if_neg this]
      exact (hR.r3 t h1).imp id fun ⟨z, hz⟩ => ⟨z, hz.also⟩
    · have hw := wold t z h1
      obtain ⟨j, e, k1, k2, k3, k4⟩ := hw
      have : q ≠ t := fun h => by
        subst h
        obtain ⟨_, _, t', x, y, V, off, v, ti, z0, _, m1, _, _, _, m2, _, _, _⟩ := storeD_eq k4
        obtain ⟨_, _, m3⟩ := seeD_get _ V m1
        rcases m3 q with ⟨x', d', s', p1, p2, p3, _, _⟩ | ⟨_, p1⟩
        · have := nodup_eq hP.nodup p2 hd p3 hdst
          subst this
          have := hdn j e k1 k3 x' p1
          rw [hi] at this; cases this
        · rw [hP.dstU i d q hd hdst] at p1
          rw [p1] at m2
          simp [hideS] at m2
      simp only
      rw [getS_put, if_neg this]
      exact hR.r4 t z ⟨j, e, k1, k2, k3, k4⟩
end Go.Am
/-! ## part DrawE -/
/- The abstract machine and the model: regions of open order: one step of the model. -/
namespace Go.Am
open Go
variable {P : Program} {C : Ctx} {rec : Nat → List AV → M AV} {hp ip : List Nat}
variable {n B : Nat} {sd : List Nat} {base : Fr} {D : List DOp} {rs : Rs} {ws : Wr} {hr : List H} {L : Nat → Bool} {TF V : Fr} {g g' : G} {σ σ' : H} {w w' : World} {a : Act} {o : Oper} {e : Eff}
def MatchM (ops : Array Oper) (D : List DOp) : Prop := ∀ (i : Nat) d, D[i]? = some d → ∃ o, ops[i]? = some o ∧ o.op = d.o.op ∧ o.dst = d.o.dst ∧ o.guard = d.guard
theorem Rel.val (hP : Plan P C rec hp ip n sd base D rs ws hr) (hR : Rel C sd base D rs L TF) (hf : FR B g σ TF a w) {j c : Nat} {d : DOp} {x : AV} (hd : D[j]? = some d) (hc : d.o.dst = some c) (hL : L j = true) (hs : getR rs j = some (.v x)) : ∃ v, a.tmps[c]? = some v ∧ VR g x v := by
  rcases hR.r2 j d c _ hd hc hL hs with h | ⟨z, h⟩
  · exact hf.get c h
  · obtain ⟨z0, h1, _⟩ := hP.wbox h
    rw [hP.fin hd hc hs] at h1; cases h1
theorem Rel.want (hP : Plan P C rec hp ip n sd base D rs ws hr) (hR : Rel C sd base D rs L TF) (hf : FR B g σ TF a w) {ops : Array Oper} (hM : MatchM ops D) {i : Nat} {d : DOp} {t : Bool} (hd : D[i]? = some d) (hb : ∀ x ∈ d.bef, L x = true) (ho : o.guard = d.guard) (hw : wantD rs d.guard = some t) :
    Region.wanted o (yielded ops a.tmps) = t := by
  unfold Region.wanted
  rw [ho]
  cases hg : d.guard with
  | none => rw [hg] at hw; simp [wantD] at hw; subst hw; rfl
  | some p =>
    obtain ⟨j, wv⟩ := p
    rw [hg] at hw
    obtain ⟨h1, e, c, h2, h3⟩ := (hP.kok i d hd).g j wv hg
    obtain ⟨o', h4, _, h5, _⟩ := hM j e h2
    have hy : (ops[j]?).bind (·.dst) = some c := by rw [h4]; simp [h5, h3]
    simp only
    rw [yielded_eq hy]
    simp only [wantD] at hw
    split at hw
    · rename_i b hb'
      simp at hw; subst hw
      obtain ⟨v, h6, h7⟩ := hR.val hP hf h2 h3 (hb j h1) hb'
      rw [VR_bool] at h7
      subst h7
      rw [h6]
      cases b <;> cases wv <;> rfl
    · rename_i hb'
      simp at hw; subst hw
      obtain ⟨v, h6, h7⟩ := hR.val hP hf h2 h3 (hb j h1) hb'
      obtain ⟨vs, rfl, _⟩ := VR_tup.1 h7
      rw [h6]
      rfl
    · cases hw
def Next (C : Ctx) (n B : Nat) (sd : List Nat) (base : Fr) (D : List DOp) (rs : Rs) (hr : List H) (L : Nat → Bool) (g : G) (σ : H) (w : World) (a' : Act) (w' : World) : Prop :=
  ∃ g' σ' TF', hr[cntW D L]? = some σ' ∧ HR g' σ' w' ∧ FR B g' σ' TF' a' w' ∧ Rel C sd base D rs L TF' ∧ Step B g σ w g' σ' w' ∧ a'.tmps.size = n
theorem Plan.view (hP : Plan P C rec hp ip n sd base D rs ws hr) (hR : Rel C sd base D rs L TF) {i : Nat} {d : DOp} (hd : D[i]? = some d) (hb : ∀ x ∈ d.bef, L x = true) (hf : FR B g σ TF a w) (hV : seeD sd base D rs d.bef = some V) : FR B g σ V a w :=
  hf.hide (hR.sees hP hb hV) (hR.lps hP hb (hP.clo i d hd) hV)
theorem Rel.isBox (hP : Plan P C rec hp ip n sd base D rs ws hr) (hR : Rel C sd base D rs L TF) {bef : List Nat} (hb : ∀ x ∈ bef, L x = true) (hV : seeD sd base D rs bef = some V) {q : Nat} (h : (getS V.sl q).isBox = true) : (getS TF.sl q).isBox = true := by
  rcases hR.sees hP hb hV q with h1 | h1 | ⟨_, x, h1⟩
  · rw [h1] at h; cases h
  · rw [← h1]; exact h
  · rw [h1]; rfl
theorem Plan.step (hP : Plan P C rec hp ip n sd base D rs ws hr) (hR : Rel C sd base D rs L TF) (hdn : Down D L) {i : Nat} {d : DOp} (hd : D[i]? = some d) (hi : L i = false) (hb : ∀ x ∈ d.bef, L x = true) (hS : d.k.isS = false) (hσ : hr[cntW D L]? = some σ)
    (hh : HR g σ w) (hf : FR B g σ TF a w) (hB : B ≤ w.heap.size) (hsz : a.tmps.size = n) {ops : Array Oper} (hM : MatchM ops D) {K : Act → World → Prop} {Q : Exit → Act → World → Prop}
    (hk : ∀ a' w', Next C n B sd base D rs hr (also L i) g σ w a' w' → K a' w') : wpOp P ops Q i K a w := by
  obtain ⟨o, ho, ho1, ho2, ho3⟩ := hM i d hd
  unfold wpOp
  rw [ho]
  simp only
  obtain ⟨s, σn, f1, f2, f3⟩ := hP.one hd hi hb hdn hS hσ
  have hin := (hP.kok i d hd).n
  have dok : ∀ t, d.o.dst = some t → TF.dstOk (some t) = true ∧ t < a.tmps.size := by
    intro t ht
    refine ⟨?_, ?_⟩
    · unfold Fr.dstOk
      simp only [hR.r1 i d t hd ht hi]
    · rw [ht] at hin
      simp [dstIn] at hin
      omega
  unfold oneD at f2
  split at f2
  · rename_i V hw hV
    rw [if_pos (hR.want hP hf hM hd hb ho3 hw)]
    left
    have hVf := hP.view hR hd hb hf hV
    have calm : ∃ e, opE C V rec hp ip d.o σ = some (e, σn) ∧ e.wr = none ∧ e.r = s := by
      have fin : ∀ x, calmO x = some (s, σn) → ∃ e, x = some (e, σn) ∧ e.wr = none ∧ e.r = s := by
        intro x hx
        unfold calmO at hx
        split at hx <;> try (cases hx; done)
        rename_i e σ1
        unfold Eff.calm at hx
        split at hx <;> try (cases hx; done)
        rename_i s' hs'
        simp at hx
        obtain ⟨rfl, rfl⟩ := hx
        split at hs' <;> simp at hs'
        rename_i hwr
        exact ⟨e, rfl, hwr, hs'⟩
      cases hkk : d.k with
      | s => rw [hkk] at hS; cases hS
      | w => rw [hkk] at f2; exact fin _ f2
      | l lo hi' =>
        rw [hkk] at f2
        simp only at f2
        split at f2 <;> try (cases f2; done)
        exact fin _ f2
      | q =>
        rw [hkk] at f2
        simp only at f2
        split at f2 <;> try (cases f2; done)
        rename_i hq
        unfold quietO at f2
        split at f2 <;> simp at f2
        rename_i s' hs'
        obtain ⟨rfl, rfl⟩ := f2
        have fin' : ∀ x, calmO x = some (s', []) → ∃ e, x = some (e, []) ∧ e.wr = none ∧ e.r = s' := by
          intro x hx
          unfold calmO at hx
          split at hx <;> try (cases hx; done)
          rename_i e σ1
          unfold Eff.calm at hx
          split at hx <;> try (cases hx; done)
          rename_i s2 hs2
          simp at hx
          obtain ⟨rfl, rfl⟩ := hx
          split at hs2 <;> simp at hs2
          rename_i hwr
          exact ⟨e, rfl, hwr, hs2⟩
        obtain ⟨e, h1, h2, h3⟩ := fin' _ hs'
        exact ⟨e, opE_ind hP.ind hq e h1 _, h2, h3⟩
    obtain ⟨e, he, hwr, rfl⟩ := calm
    refine opE_does hP.tys hP.call hh hVf hB ho1 ho2 he _ _ fun v w' g' ha => ?_
    rw [ho2]
    cases ha with
    | box d' b x z hw' => rw [hwr] at hw'; cases hw'
    | calm _ hr' st hv =>
      refine hk _ _ ⟨g', σn, _, f3, hr', ?_, hR.put hP hdn hd hi hS f1 ?_, st.mono hB, by rw [size_put]; exact hsz⟩
      · cases hdst : d.o.dst with
        | none => exact hf.step st
        | some t =>
          obtain ⟨k1, k2⟩ := dok t hdst
          refine hf.put st k1 k2 ?_
          revert hv
          cases e.r with
          | lp q off => exact fun ⟨h1, h2⟩ => ⟨hR.isBox hP hb hV h1, h2⟩
          | u => exact id
          | v x => exact id
          | bx x => exact id
          | hb => exact id
      · intro q off hq
        rw [hq] at hv
        exact ⟨V, hV, hv.1⟩
  · rename_i V hw hV
    rw [hR.want hP hf hM hd hb ho3 hw]
    simp only [Bool.false_eq_true, if_false]
    simp only [Option.some.injEq, Prod.mk.injEq] at f2
    obtain ⟨rfl, rfl⟩ := f2
    rw [ho2]
    refine hk _ _ ⟨g, σ, _, f3, hh, ?_, hR.put hP hdn hd hi hS f1 (fun q off hq => by cases hq), .refl _ _ _ _, by rw [size_put]; exact hsz⟩
    cases hdst : d.o.dst with
    | none => exact hf
    | some t =>
      obtain ⟨k1, k2⟩ := dok t hdst
      exact hf.put (.refl _ _ _ _) k1 k2 (VR_tup.2 ⟨#[], rfl, rfl, fun j c hj => by simp at hj⟩)
  · cases f2
theorem Plan.stepS (hP : Plan P C rec hp ip n sd base D rs ws hr) (hR : Rel C sd base D rs L TF) {i : Nat} {d : DOp} (hd : D[i]? = some d) (hi : L i = false) (hb : ∀ x ∈ d.bef, L x = true) (hS : d.k.isS = true) (hσ : hr[cntW D L]? = some σ)
    (hh : HR g σ w) (hf : FR B g σ TF a w) (hsz : a.tmps.size = n) {ops : Array Oper} (hM : MatchM ops D) {K : Act → World → Prop} {Q : Exit → Act → World → Prop}
    (hk : ∀ a' w', Next C n B sd base D rs hr (also L i) g σ w a' w' → K a' w') : wpOp P ops Q i K a w := by
  obtain ⟨o, ho, ho1, ho2, ho3⟩ := hM i d hd
  obtain ⟨p1, p2, p3⟩ := putsD_fact D ws hP.puts
  obtain ⟨b, z, hst, _⟩ := p1 i d hd hS
  obtain ⟨s1, s2, t, x, y, V, off, v, ti, z0, s3, s4, s5, s6, s7, s8, s9, s10, s11⟩ := storeD_eq hst
  have hVf := hP.view hR hd hb hf s4
  obtain ⟨_, blk, h1, h2⟩ := ev_lp hVf s5
  have uniq : ∀ z', ¬ WAt C sd base D rs L b z' := by
    rintro z' ⟨j, e, k1, k2, k3, k4⟩
    have := p3 i j d e b z z' hd k1 hS k2 hst k4
    subst this
    rw [hi] at k3; cases k3
  obtain ⟨_, _, hsee⟩ := seeD_get _ V s4
  have hTF : getS TF.sl b = .bx z0 := by
    rcases hsee b with ⟨x', d', s', k1, k2, k3, k4, k5⟩ | ⟨k1, k2⟩
    · rw [hP.fin k2 k3 k4] at s10
      subst s10
      rcases hR.r2 x' d' b _ k2 k3 (hb x' k1) k4 with h | ⟨z', h⟩
      · exact h
      · exact absurd h (uniq z')
    · have hno : ∀ (j : Nat) (e : DOp), D[j]? = some e → e.o.dst ≠ some b := fun j e k3 k4 => by
        rw [hP.dstU j e b k3 k4] at k2
        rw [k2] at s8
        simp [hideS] at s8
      rw [hP.finB hno] at s10
      rcases hR.r3 b hno with h | ⟨z', h⟩
      · rw [h]; exact s10
      · exact absurd h (uniq z')
  obtain ⟨blk', h3, hpr⟩ := hf.get b hTF
  rw [h1] at h3; cases h3
  obtain ⟨w', h4, h5⟩ := box_store (P := P) (hP.tys t ti s7) hh (av_v hVf s6) hpr s11
  unfold wpOp
  rw [ho]
  simp only
  have hwant : Region.wanted o (yielded ops a.tmps) = true := by unfold Region.wanted; rw [ho3, s1]
  rw [if_pos hwant]
  left
  have hexec : (execOp a.eval o).run P w = .ok .skip w' := by simp [execOp, ho1, s3, h2, h4]
  unfold Oper.wp
  rw [hexec, Oper.upon_skip, ho2, s2]
  have hno : isWat D i = false := by
    rw [isWat_eq hd]
    cases hq : d.k <;> rw [hq] at hS <;> first | (cases hS; done) | rfl
  have hFact := hP.fact i d hd
  unfold Fact at hFact
  rw [hS] at hFact
  simp only at hFact
  refine hk _ _ ⟨g, σ, TF.put b (.bx z), ?_, h5.hr, hf.box hTF h1 h5, ?_, h5.step hpr, hsz⟩
  · rw [cntW_congr (q := L) (fun x _ hx => also_ne fun e => by subst e; rw [hno] at hx; cases hx)]
    exact hσ
  · have wnew : WAt C sd base D rs (also L i) b z := ⟨i, d, hd, hS, also_self L i, hst⟩
    have nodst : ∀ (j : Nat) (e : DOp), D[j]? = some e → e.o.dst = some b → L j = true := by
      intro j e k1 k2
      rcases hsee b with ⟨x', d', s', m1, m2, m3, m4, m5⟩ | ⟨m1, m2⟩
      · have := nodup_eq hP.nodup k1 m2 k2 m3
        subst this
        exact hb j m1
      · rw [hP.dstU j e b k1 k2] at m2
        rw [m2] at s8
        simp [hideS] at s8
    refine ⟨fun j e q k1 k2 k3 => ?_, fun j e q s' k1 k2 k3 k4 => ?_, fun q k1 => ?_, fun q z' k1 => ?_, fun j e q off' k1 k2 k3 => ?_⟩
    · have hj : j ≠ i := fun h => by subst h; rw [also_self] at k3; cases k3
      rw [also_ne hj] at k3
      rw [getS_put]
      split
      · subst_vars
        have := nodst j e k1 k2
        rw [k3] at this; cases this
      · exact hR.r1 j e q k1 k2 k3
    · have hj : j ≠ i := fun h => by subst h; rw [hd] at k1; cases k1; rw [s2] at k2; cases k2
      rw [also_ne hj] at k3
      rw [getS_put]
      split
      · subst_vars; exact .inr ⟨z, wnew⟩
      · exact (hR.r2 j e q s' k1 k2 k3 k4).imp id fun ⟨z', h⟩ => ⟨z', h.also⟩
    · rw [getS_put]
      split
      · subst_vars; exact .inr ⟨z, wnew⟩
      · exact (hR.r3 q k1).imp id fun ⟨z', h⟩ => ⟨z', h.also⟩
    · obtain ⟨j, e, m1, m2, m3, m4⟩ := k1
      by_cases hj : j = i
      · subst hj
        rw [hd] at m1; cases m1
        rw [hst] at m4; cases m4
        rw [getS_put, if_pos rfl]
      · rw [also_ne hj] at m3
        rw [getS_put]
        split
        · subst_vars
          exact absurd ⟨j, e, m1, m2, m3, m4⟩ (uniq z')
        · exact hR.r4 q z' ⟨j, e, m1, m2, m3, m4⟩
    · by_cases hj : j = i
      · subst hj
        rw [hFact] at k3; cases k3
      · rw [also_ne hj] at k2
        exact hR.r5 j e q off' k1 k2 k3
end Go.Am
/-! ## part DrawF -/
/- The abstract machine and the model: regions of open order, as a whole. -/
namespace Go.Am
open Go
variable {P : Program} {C : Ctx} {rec : Nat → List AV → M AV} {hp ip : List Nat}
variable {n B : Nat} {sd : List Nat} {base : Fr} {D E : List DOp} {rs : Rs} {ws : Wr} {hr : List H} {L : Nat → Bool} {TF V fr fr' : Fr} {g g' : G} {σ σ' : H} {w w' : World} {a : Act} {o : Oper}
def Lst (l : Array Bool) : Nat → Bool := fun x => l.getD x false
theorem Lst_set {l : Array Bool} {i : Nat} (h : i < l.size) : Lst (l.setIfInBounds i true) = also (Lst l) i := by
  funext x
  simp only [Lst, also, Array.getD_eq_getD_getElem?, Array.getElem?_setIfInBounds]
  by_cases hx : i = x
  · subst hx; simp [h]
  · simp [hx, Ne.symm hx]
theorem Lst_lt {l : Array Bool} {x : Nat} (h : Lst l x = true) : x < l.size := by
  rcases Nat.lt_or_ge x l.size with h' | h'
  · exact h'
  · simp [Lst, h'] at h
theorem countP_also {i : Nat} (hL : L i = false) : ∀ {m : Nat}, i < m → (List.range m).countP (also L i) = (List.range m).countP L + 1
  | 0, h => by omega
  | m + 1, h => by
    rw [List.range_succ, List.countP_append, List.countP_append]
    by_cases hi : i < m
    · rw [countP_also hL hi]
      have : (List.countP (also L i) [m]) = List.countP L [m] := by simp [List.countP_cons, also_ne (show m ≠ i by omega)]
      rw [this]; omega
    · have him : i = m := by omega
      subst him
      have e : (List.range i).countP (also L i) = (List.range i).countP L := by
        apply List.countP_congr
        intro x hx
        rw [List.mem_range] at hx
        rw [also_ne (by omega)]
      rw [e]
      simp [List.countP_cons, also_self, hL]
theorem ready_mem {ops : Array Oper} {A : List DOp} (hM : MatchD ops A) {l : Array Bool} {i : Nat} (h : i ∈ Region.ready .any ops l) : ∃ d, A[i]? = some d ∧ Lst l i = false ∧ i < l.size ∧ ∀ x ∈ d.aft, Lst l x = true := by
  unfold Region.ready at h
  rw [List.mem_filter, List.mem_range] at h
  obtain ⟨h1, h2⟩ := h
  simp only [Bool.and_eq_true, Bool.not_eq_true'] at h2
  obtain ⟨h2, h3⟩ := h2
  have hlt : i < A.length := by rw [← hM.size]; exact h1
  obtain ⟨o, ho, _, _, _, ho4⟩ := hM.op i A[i] (List.getElem?_eq_getElem hlt)
  rw [ho] at h3
  simp only [Option.map_some, Option.getD_some, Array.all_eq_true_iff_forall_mem] at h3
  have hsz : i < l.size := by
    rcases Nat.lt_or_ge i l.size with h' | h'
    · exact h'
    · simp [h'] at h2
  refine ⟨A[i], List.getElem?_eq_getElem hlt, ?_, hsz, fun x hx => ?_⟩
  · simp [hsz] at h2; simp [Lst, hsz, h2]
  · rw [← ho4] at hx
    unfold aftOf at hx
    rw [List.mem_filterMap] at hx
    obtain ⟨e, he1, he2⟩ := hx
    split at he2 <;> simp at he2
    rename_i hb
    have := h3 e (by simpa using he1)
    rw [hb] at this
    simp at this
    rw [← he2]
    simpa [Lst] using this
theorem ready_of {ops : Array Oper} {A : List DOp} (hM : MatchD ops A) {l : Array Bool} (hsz : l.size = ops.size) {i : Nat} {d : DOp} (hd : A[i]? = some d) (hl : Lst l i = false) (ha : ∀ x ∈ d.aft, Lst l x = true) : i ∈ Region.ready .any ops l := by
  obtain ⟨o, ho, _, _, _, ho4⟩ := hM.op i d hd
  have hlt : i < ops.size := by rw [hM.size]; exact (List.getElem?_eq_some_iff.1 hd).1
  unfold Region.ready
  rw [List.mem_filter, List.mem_range]
  refine ⟨hlt, ?_⟩
  simp only [Bool.and_eq_true, Bool.not_eq_true']
  refine ⟨?_, ?_⟩
  · have : i < l.size := by omega
    simp [Lst, this] at hl
    simp [this, hl]
  · rw [ho]
    simp only [Option.map_some, Option.getD_some, Array.all_eq_true_iff_forall_mem]
    intro e he
    cases hb : Region.binds .any e with
    | false => simp
    | true =>
      have : e.on ∈ d.aft := by
        rw [← ho4]
        unfold aftOf
        rw [List.mem_filterMap]
        exact ⟨e, by simpa using he, by simp [hb]⟩
      have := ha _ this
      simpa [Lst] using this
theorem wpAny_of {ops : Array Oper} {Q : Exit → Act → World → Prop} {I : Array Bool → Act → World → Prop} (hsz : ∀ l a w, I l a w → l.size = ops.size)
    (hend : ∀ l a w, I l a w → Region.ready .any ops l = [] → Q .normal a w) (hall : ∀ l, l.size = ops.size → (∀ x, x < ops.size → Lst l x = true) → Region.ready .any ops l = [])
    (hst : ∀ l a w i, I l a w → i ∈ Region.ready .any ops l → Lst l i = false ∧ i < ops.size ∧ wpOp P ops Q i (I (l.setIfInBounds i true)) a w) :
    ∀ (fuel : Nat) l a w, I l a w → ops.size ≤ fuel + (List.range ops.size).countP (Lst l) → wpAny P .any ops Q fuel l a w
  | 0, l, a, w, h, hc => by
    have hr : Region.ready .any ops l = [] := by
      refine hall l (hsz l a w h) fun x hx => ?_
      have hle := List.countP_le_length (p := Lst l) (l := List.range ops.size)
      have : (List.range ops.size).countP (Lst l) = (List.range ops.size).length := by simp at hle ⊢; omega
      rw [List.countP_eq_length] at this
      exact this x (List.mem_range.2 hx)
    exact ⟨hr, hend l a w h hr⟩
  | fuel + 1, l, a, w, h, hc => by
    refine ⟨hend l a w h, fun i hi => ?_⟩
    obtain ⟨h1, h2, h3⟩ := hst l a w i h hi
    refine wpOp_mono (fun a' w' h' => wpAny_of hsz hend hall hst fuel _ a' w' h' ?_) h3
    rw [Lst_set (by rw [hsz l a w h]; exact h2), countP_also h1 h2]
    omega
theorem FR.congr {fr1 fr2 : Fr} (hf : FR B g σ fr1 a w) (h : ∀ t, getS fr2.sl t = getS fr1.sl t) : FR B g σ fr2 a w :=
  hf.less (fun t => .inr (h t)) fun t d off ht => by
    rw [h] at ht
    rw [h]
    exact (hf.get t ht).1
theorem Rel.done (hP : Plan P C rec hp ip n sd base D rs ws hr) (hR : Rel C sd base D rs L TF) (hL : ∀ x, x < D.length → L x = true) : ∀ t, getS (putW (endD base D.reverse rs) ws).sl t = getS TF.sl t := by
  intro t
  rw [(putW_get _ ws).2]
  obtain ⟨p1, p2, p3⟩ := putsD_fact D ws hP.puts
  cases hw : getW ws t with
  | some z =>
    obtain ⟨j, e, h1, h2, h3⟩ := p2 t z hw
    exact (hR.r4 t z ⟨j, e, h1, h2, hL j (List.getElem?_eq_some_iff.1 h1).1, h3⟩).symm
  | none =>
    have hno : ∀ z, ¬ WAt C sd base D rs L t z := by
      rintro z ⟨j, e, h1, h2, _, h3⟩
      obtain ⟨b, z', h4, h5⟩ := p1 j e h1 h2
      rw [h3] at h4; cases h4
      rw [hw] at h5; cases h5
    simp only
    rcases (endD_get D.reverse rs hP.al).2 t with ⟨j, e, s, h4, h5, h6, h7⟩ | ⟨h4, h5⟩
    · rw [List.reverse_reverse] at h4
      rcases hR.r2 j e t s h4 h5 (hL j (List.getElem?_eq_some_iff.1 h4).1) h6 with h | ⟨z, h⟩
      · rw [h, h7]
      · exact absurd h (hno z)
    · rw [List.reverse_reverse] at h4
      rcases hR.r3 t h4 with h | ⟨z, h⟩
      · rw [h, h5]
      · exact absurd h (hno z)
end Go.Am
/-! ## part DrawG -/
/- The abstract machine and the model: regions of open order are as the machine says. -/
namespace Go.Am
open Go
variable {P : Program} {C : Ctx} {rec : Nat → List AV → M AV} {hp ip : List Nat}
variable {n B : Nat} {sd : List Nat} {base : Fr} {D E : List DOp} {rs : Rs} {ws : Wr} {hr : List H} {L : Nat → Bool} {TF V fr fr' : Fr} {g g' : G} {σ σ' : H} {w w' : World} {a : Act} {o : Oper}
theorem Next.to (h : Next C n B sd base D rs hr L g σ w a w') : ∃ g' σ' TF', hr[cntW D L]? = some σ' ∧ HR g' σ' w' ∧ FR B g' σ' TF' a w' ∧ Rel C sd base D rs L TF' ∧ Step B g σ w g' σ' w' ∧ a.tmps.size = n := h
def AtD (C : Ctx) (rec : Nat → List AV → M AV) (hp ip : List Nat) (n B : Nat) (sd : List Nat) (base : Fr) (D E : List DOp) (rs : Rs) (hr : List H) (g : G) (σ : H) (w : World) (fr' : Fr) (σ' : H) (N : Nat) (l : Array Bool) (a : Act) (w' : World) : Prop :=
  l.size = N ∧ (∀ (i : Nat) (d : DOp), (D ++ E)[i]? = some d → Lst l i = true → ∀ x ∈ d.bef, Lst l x = true) ∧
  (((∀ x, D.length ≤ x → Lst l x = false) ∧ Next C n B sd base D rs hr (Lst l) g σ w a w') ∨
   ∃ q fq σq, q ≤ E.length ∧ (∀ x, x < D.length + q → Lst l x = true) ∧ (∀ x, D.length + q ≤ x → Lst l x = false) ∧ runPost C rec hp ip (E.drop q) fq σq = some (fr', σ') ∧ To n B g σ w σq fq a w')
theorem runD_any (ht : Tys P C) (hrec : CallOK P rec) (hind : RecInd rec) {ops : Array Oper} (hM : MatchD ops (D ++ E)) (hc : chkD n D E = true)
    {fr1 : Fr} {σ1 : H} (h : runD C rec hp ip sd D fr σ = some (fr1, σ1)) (hpost : runPost C rec hp ip E fr1 σ1 = some (fr', σ')) (hh : HR g σ w) (hf : FR B g σ fr a w) (hB : B ≤ w.heap.size) (hsz : a.tmps.size = n)
    {Q : Exit → Act → World → Prop} (hk : ∀ a' w', To n B g σ w σ' fr' a' w' → Q .normal a' w') : wpAny P .any ops Q ops.size (Array.replicate ops.size false) a { w with drawn := w.drawn + 1 } := by
  -- the machine's run
  unfold runD at h
  split at h <;> try (cases h; done)
  rename_i base hlk hdr
  split at h <;> try (cases h; done)
  rename_i rs σ2 hs hall
  split at h <;> try (cases h; done)
  rename_i ws hputs
  split at h <;> try (cases h; done)
  rename_i hcheck
  simp only [Option.some.injEq, Prod.mk.injEq] at h
  obtain ⟨rfl, rfl⟩ := h
  -- the checks
  unfold chkD at hc
  simp only [Bool.and_eq_true] at hc
  obtain ⟨⟨⟨⟨hnd, hclo⟩, hbef⟩, hK⟩, hPo⟩ := hc
  have lft : ∀ (i : Nat) (d : DOp), D[i]? = some d → (D ++ E)[i]? = some d := fun i d hd => by
    rw [List.getElem?_append_left (List.getElem?_eq_some_iff.1 hd).1]; exact hd
  have hbefA : ∀ (i : Nat) (d : DOp), (D ++ E)[i]? = some d → (∀ x ∈ d.aft, x < i) ∧ ∀ x ∈ d.bef, x < i ∧ (x ∈ d.aft ∨ ∃ y ∈ d.aft, x ∈ befAt (D ++ E) y) := fun i d hd => by
    have := chkBef_at hbef hd
    simpa using this
  have hKK : ∀ (i : Nat) (d : DOp), D[i]? = some d → KOK n D i d := fun i d hd => by
    have := chkK_at hK hd
    simpa using this
  have hPP : ∀ (q : Nat) (d : DOp), E[q]? = some d → d.guard = none ∧ (∀ x, x < D.length + q → x ∈ d.bef) ∧ dstIn n d.o.dst = true := fun q d hd => chkPost_at hPo hd
  obtain ⟨al, ⟨pre, hpre⟩, hlen, _, hfacts⟩ := allD_fact (hp := hp) (ip := ip) (C := C) (rec := rec) (sd := sd) (base := base) (D := D) (fun i d hd => ⟨fun x hx => (hbefA i d (lft i d hd)).2 x hx |>.1, fun j w' hg => ((hKK i d hd).g j w' hg).1⟩)
    D [] [] rs [σ] (σ2 :: hs) hall (by simp) trivial (by show [σ].length = (cntW D fun x => decide (x < 0)) + 1; rw [cntW_zero]; rfl)
  obtain ⟨q1, q2, q3⟩ := getS_drop _ _ _ hdr
  have hP : Plan P C rec hp ip n sd base D rs ws (σ2 :: hs).reverse := {
    tys := ht, call := hrec, ind := hind, nodup := hnd
    bef := fun i d hd x hx => ((hbefA i d (lft i d hd)).2 x hx).1
    kok := hKK
    fact := fun i d hd => hfacts i d (Nat.zero_le _) hd
    al := by simpa using al
    check := hcheck
    puts := hputs
    dstU := fun i d t hd hdt => by rw [q3, if_pos (memOf_dstsD.2 ⟨i, d, hd, hdt⟩)]
    baseR := drop_lp hf hdr
    clo := fun i d hd => chkClo_at hclo hd }
  have hfb : FR B g σ base a w := hf.less (fun t => by
    rw [q3]
    split
    · exact .inl rfl
    · exact .inr rfl) (drop_lp hf hdr)
  have hMM : MatchM ops D := fun i d hd => by
    obtain ⟨o, h1, h2, h3, h4, _⟩ := hM.op i d (lft i d hd)
    exact ⟨o, h1, h2, h3, h4⟩
  have hN : ops.size = D.length + E.length := by rw [hM.size]; simp
  -- all of the first done
  have conv : ∀ l a1 w1, (∀ x, x < D.length → Lst l x = true) → Next C n B sd base D rs (σ2 :: hs).reverse (Lst l) g σ w a1 w1 → To n B g σ w σ2 (putW (endD base D.reverse rs) ws) a1 w1 := by
    intro l a1 w1 hL hnx
    obtain ⟨g1, σx, TF, k1, k2, k3, k4, k5, k6⟩ := hnx
    have e : cntW D (Lst l) = cntW D fun x => decide (x < D.length) := cntW_congr fun x hx _ => by rw [hL x hx]; simp [hx]
    rw [e] at k1
    have : (σ2 :: hs).reverse[cntW D fun x => decide (x < D.length)]? = some σ2 := by
      have hl : hs.length = cntW D fun x => decide (x < D.length) := by simpa using hlen
      rw [← hl, List.reverse_cons, List.getElem?_append_right (by simp)]
      simp
    rw [this] at k1
    cases k1
    exact ⟨g1, k2, k3.congr (k4.done hP hL), k5, k6⟩
  obtain ⟨hh', hst'⟩ := hh.ext (Grow.drew w)
  have hf' := hfb.step hst'
  have hzero : ∀ x, Lst (Array.replicate ops.size false) x = false := by
    intro x
    simp only [Lst, Array.getD_eq_getD_getElem?, Array.getElem?_replicate]
    split <;> rfl
  have hallR : ∀ l : Array Bool, l.size = ops.size → (∀ x, x < ops.size → Lst l x = true) → Region.ready .any ops l = [] := by
    intro l _ hL
    cases hr0 : Region.ready .any ops l with
    | nil => rfl
    | cons i rest =>
      obtain ⟨d, h1, h2, h3, h4⟩ := ready_mem hM (l := l) (i := i) (by rw [hr0]; simp)
      have : i < ops.size := by rw [hM.size]; exact (List.getElem?_eq_some_iff.1 h1).1
      rw [hL i this] at h2; cases h2
  have hnone : ∀ l : Array Bool, l.size = ops.size → Region.ready .any ops l = [] → ∀ x, x < ops.size → Lst l x = true := by
    intro l hl hr0 x
    induction x using Nat.strongRecOn with
    | _ x ih =>
      intro hx
      cases hLx : Lst l x with
      | true => rfl
      | false =>
        have hlt : x < (D ++ E).length := by rw [← hM.size]; exact hx
        have hd := List.getElem?_eq_getElem hlt
        have := ready_of hM hl hd hLx (fun y hy => by
          have := (hbefA x _ hd).1 y hy
          exact ih y this (by omega))
        rw [hr0] at this; cases this
  refine wpAny_of (I := AtD C rec hp ip n B sd base D E rs (σ2 :: hs).reverse g σ w fr' σ' ops.size) (fun l a1 w1 h => h.1) ?_ hallR ?_ ops.size _ a _ ?_ (by omega)
  · -- the end
    rintro l a1 w1 ⟨hl, hdn, hI⟩ hr0
    have hL := hnone l hl hr0
    have fin : ∀ q fq σq, q ≤ E.length → (∀ x, D.length + q ≤ x → Lst l x = false) → runPost C rec hp ip (E.drop q) fq σq = some (fr', σ') → To n B g σ w σq fq a1 w1 → Q .normal a1 w1 := by
      intro q fq σq h1 h2 h3 h4
      have hq : q = E.length := by
        rcases Nat.lt_or_ge q E.length with h | h
        · have := h2 (D.length + q) (Nat.le_refl _)
          rw [hL _ (by omega)] at this; cases this
        · omega
      subst hq
      rw [List.drop_length] at h3
      simp only [runPost] at h3
      obtain ⟨rfl, rfl⟩ := pureM_eq h3
      exact hk a1 w1 h4
    rcases hI with ⟨h1, h2⟩ | ⟨q, fq, σq, h1, h2, h3, h4, h5⟩
    · exact fin 0 _ _ (Nat.zero_le _) (fun x hx => h1 x hx) hpost (conv l a1 w1 (fun x hx => hL x (by omega)) h2)
    · exact fin q fq σq h1 h3 h4 h5
  · -- a step
    rintro l a1 w1 i ⟨hl, hdn, hI⟩ hi
    obtain ⟨d, hd, hLi, hil, haft⟩ := ready_mem hM hi
    have hin : i < ops.size := by omega
    have hb : ∀ x ∈ d.bef, Lst l x = true := by
      intro x hx
      rcases ((hbefA i d hd).2 x hx).2 with h | ⟨y, h1, h2⟩
      · exact haft x h
      · unfold befAt at h2
        cases hy : (D ++ E)[y]? with
        | none => rw [hy] at h2; cases h2
        | some e => rw [hy] at h2; exact hdn y e hy (haft y h1) x h2
    refine ⟨hLi, hin, ?_⟩
    have hset := Lst_set hil
    have hdn' : ∀ (j : Nat) (e : DOp), (D ++ E)[j]? = some e → Lst (l.setIfInBounds i true) j = true → ∀ x ∈ e.bef, Lst (l.setIfInBounds i true) x = true := by
      rw [hset]
      intro j e he hj x hx
      by_cases hji : j = i
      · subst hji
        rw [hd] at he; cases he
        exact also_old (hb x hx)
      · rw [also_ne hji] at hj
        exact also_old (hdn j e he hj x hx)
    have late : ∀ q fq σq, q ≤ E.length → (∀ x, x < D.length + q → Lst l x = true) → (∀ x, D.length + q ≤ x → Lst l x = false) → runPost C rec hp ip (E.drop q) fq σq = some (fr', σ') → To n B g σ w σq fq a1 w1 →
        wpOp P ops Q i (AtD C rec hp ip n B sd base D E rs (σ2 :: hs).reverse g σ w fr' σ' ops.size (l.setIfInBounds i true)) a1 w1 := by
      intro q fq σq h1 h2 h3 h4 h5
      have hge : D.length + q ≤ i := by
        rcases Nat.lt_or_ge i (D.length + q) with h | h
        · rw [h2 i h] at hLi; cases hLi
        · exact h
      have hdE : E[i - D.length]? = some d := by rw [List.getElem?_append_right (by omega)] at hd; exact hd
      obtain ⟨p1, p2, p3⟩ := hPP _ d hdE
      have hiq : i = D.length + q := by
        rcases Nat.lt_or_ge (D.length + q) i with h | h
        · have := hb _ (p2 (D.length + q) (by omega))
          rw [h3 _ (Nat.le_refl _)] at this; cases this
        · omega
      subst hiq
      rw [Nat.add_sub_cancel_left] at hdE
      have hqE : q < E.length := (List.getElem?_eq_some_iff.1 hdE).1
      have hdrop : E.drop q = d :: E.drop (q + 1) := by
        rw [List.drop_eq_getElem_cons hqE]
        congr 1
        have := List.getElem?_eq_getElem hqE
        rw [this] at hdE; cases hdE; rfl
      rw [hdrop] at h4
      simp only [runPost] at h4
      obtain ⟨f2, σ3, k1, k2⟩ := bindM_eq h4
      obtain ⟨o, ho, ho1, ho2, ho3, _⟩ := hM.op _ d hd
      unfold wpOp
      rw [ho]
      simp only
      have hwant : Region.wanted o (yielded ops a1.tmps) = true := by unfold Region.wanted; rw [ho3, p1]
      rw [if_pos hwant]
      left
      obtain ⟨g1, r1, r2, r3, r4⟩ := h5
      refine stepE_to ht hrec r1 r2 (Nat.le_trans hB r3.size) r4 ho1 ho2 p3 k1 fun a2 w2 hto => ?_
      obtain ⟨g2, s1, s2, s3, s4⟩ := hto
      refine ⟨by rw [Array.size_setIfInBounds]; exact hl, hdn', .inr ⟨q + 1, f2, σ3, by omega, fun x hx => ?_, fun x hx => ?_, k2, g2, s1, s2, r3.trans s3 (Nat.le_refl _), s4⟩⟩
      · rw [hset]
        by_cases hx' : x = D.length + q
        · subst hx'; exact also_self _ _
        · exact also_old (h2 x (by omega))
      · rw [hset, also_ne (by omega)]
        exact h3 x (by omega)
    rcases hI with ⟨h1, h2⟩ | ⟨q, fq, σq, h1, h2, h3, h4, h5⟩
    · by_cases hmain : ∀ x, x < D.length → Lst l x = true
      · exact late 0 _ _ (Nat.zero_le _) (fun x hx => hmain x hx) (fun x hx => h1 x hx) hpost (conv l a1 w1 hmain h2)
      · have hiD : i < D.length := by
          rcases Nat.lt_or_ge i D.length with h | h
          · exact h
          · exfalso
            have hdE : E[i - D.length]? = some d := by rw [List.getElem?_append_right h] at hd; exact hd
            obtain ⟨_, p2, _⟩ := hPP _ d hdE
            exact hmain fun x hx => hb x (p2 x (by omega))
        have hdD : D[i]? = some d := by rw [List.getElem?_append_left hiD] at hd; exact hd
        obtain ⟨g1, σx, TF, k1, k2, k3, k4, k5, k6⟩ := h2
        have hdnD : Down D (Lst l) := fun j e he hj x hx => hdn j e (lft j e he) hj x hx
        have cont : ∀ a2 w2, Next C n B sd base D rs (σ2 :: hs).reverse (also (Lst l) i) g1 σx w1 a2 w2 → AtD C rec hp ip n B sd base D E rs (σ2 :: hs).reverse g σ w fr' σ' ops.size (l.setIfInBounds i true) a2 w2 := by
          rintro a2 w2 ⟨g2, σy, TF2, m1, m2, m3, m4, m5, m6⟩
          refine ⟨by rw [Array.size_setIfInBounds]; exact hl, hdn', .inl ⟨fun x hx => ?_, ?_⟩⟩
          · rw [hset, also_ne (by omega)]; exact h1 x hx
          · rw [hset]
            exact ⟨g2, σy, TF2, m1, m2, m3, m4, k5.trans m5 (Nat.le_refl _), m6⟩
        cases hS : d.k.isS with
        | true => exact hP.stepS k4 hdD hLi hb hS k1 k2 k3 k6 hMM cont
        | false => exact hP.step k4 hdnD hdD hLi hb hS k1 k2 k3 (Nat.le_trans hB k5.size) k6 hMM cont
    · exact late q fq σq h1 h2 h3 h4 h5
  · -- the start
    refine ⟨by simp, fun i d hd hi => (by rw [hzero] at hi; cases hi), .inl ⟨fun x _ => hzero x, g, σ, base, ?_, hh', hf', ⟨fun i d t hd hdt _ => hP.dstU i d t hd hdt, fun i d t s hd hdt hL => (by rw [hzero] at hL; cases hL), fun t _ => .inl rfl, ?_, fun i d q off hd hL => (by rw [hzero] at hL; cases hL)⟩, hst'.mono hB, hsz⟩⟩
    · have : cntW D (Lst (Array.replicate ops.size false)) = 0 := by
        rw [← cntW_zero (D := D)]
        exact cntW_congr fun x _ _ => by rw [hzero]; simp
      rw [this, hpre]
      simp
    · rintro t z ⟨j, e, _, _, hL, _⟩
      rw [hzero] at hL; cases hL
theorem runD_to (ht : Tys P C) (hrec : CallOK P rec) (hind : RecInd rec) (hmix : P.follows .mixedOrders = true) {ops : Array Oper} {id : Nat} (hM : MatchD ops (D ++ E)) (hc : chkD n D E = true)
    {fr1 : Fr} {σ1 : H} (h : runD C rec hp ip sd D fr σ = some (fr1, σ1)) (hpost : runPost C rec hp ip E fr1 σ1 = some (fr', σ')) (hh : HR g σ w) (hf : FR B g σ fr a w) (hB : B ≤ w.heap.size) (hsz : a.tmps.size = n)
    {Q : Exit → Act → World → Prop} (hk : ∀ a' w', To n B g σ w σ' fr' a' w' → Q .normal a' w') : (Code.region id ops true).wp P Q a w :=
  wp_region_any hmix (runD_any ht hrec hind hM hc h hpost hh hf hB hsz hk)
end Go.Am
