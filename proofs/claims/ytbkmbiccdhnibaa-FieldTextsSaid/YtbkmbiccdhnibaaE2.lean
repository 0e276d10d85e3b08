/- The engine, part 2: how a state stays in step with the world. For every program. -/
import Derived.Test.YtbkmbiccdhnibaaE1
set_option linter.unusedVariables false
namespace Go.Eng
open Go.RowKit

variable {P : Program} {N : Nat} {F : Fr} {s s' : AS} {cx : Cx} {a : Act} {w : World}

theorem put_get (a : Act) (d : Nat) (v : Value) (i : Nat) (hd : d < a.tmps.size) : (a.put (some d) v).tmps.getD i undef = if i = d then v else a.tmps.getD i undef := by
  unfold Act.put
  simp only [Array.getD_eq_getD_getElem?, Array.getElem?_setIfInBounds]
  by_cases e : d = i
  · subst e; simp [hd]
  · rw [if_neg e, if_neg (fun h => e h.symm)]

theorem SimC.putE (h : SimC N F s cx a w) {d : Nat} (hd : d < N) {x : AV} {v : Value} (hx : Rep cx x v) : SimC N F (s.setE d x) cx (a.put (some d) v) w := by
  refine { h with tk := h.tk, size := by simpa [Act.put] using h.size, defers := h.defers, env := fun i hi => ?_ }
  rw [put_get a d v i (by rw [h.size]; exact hd)]
  show Rep cx (if i = d then x else s.env i) _
  by_cases e : i = d
  · rw [if_pos e, if_pos e]; exact hx
  · rw [if_neg e, if_neg e]; exact h.env i hi

theorem SimC.putD (h : SimC N F s cx a w) (dst : Option Tmp) (v : Value) (hd : dst = none) : SimC N F s cx (a.put dst v) w := by subst hd; exact h

theorem TokAt.tr {cx cx' : Cx} (T : Tr cx cx') {k : Tok} {b : Nat} (h : TokAt cx k b) (hb : cx'.h[b]? = cx.h[b]?) : TokAt cx' k b := by
  obtain ⟨arr, el, fz, h1, h2, h3, h4, h5⟩ := h
  exact ⟨arr, el, fz, hb.trans h1, h2, h3, h4, fun i x v hx hv => (h5 i x v hx hv).tr T⟩

/-- The world's heap is what it was. -/
theorem SimC.world (h : SimC N F s cx a w) {w' : World} (hh : w'.heap = w.heap) (ho : w'.os = w.os) (ht : w'.tape = w.tape) (hp : w'.output = w.output) : SimC N F s cx a w' :=
  { h := h.h.trans hh.symm, tk := h.tk, size := h.size, defers := h.defers, env := h.env, none_ := h.none_, row := h.row, stamp := h.stamp, inj := h.inj, apart := h.apart, free := h.free
    Zlt := fun b hb => by rw [hh]; exact h.Zlt b hb
    Z0 := h.Z0, Znew := h.Znew, os := ho.trans h.os, tape := ht.trans h.tape, output := hp.trans h.output
    grow := by rw [hh]; exact h.grow
    prot := fun b hb => by rw [hh]; exact h.prot b hb }

def Cx.withU (cx : Cx) (U : Nat → Prop) : Cx := { cx with U := U }
theorem Tr.withU (cx : Cx) (U : Nat → Prop) (hU : ∀ g, cx.U g → U g) : Tr cx (cx.withU U) :=
  ⟨fun _ h => ⟨h, rfl⟩, hU, fun t T' h _ => ⟨T', h, rfl, rfl, rfl⟩, fun _ _ _ arr el fz _ _ h => ⟨arr, el, fz, h, Nat.le_refl _⟩⟩
theorem SimC.moreU (h : SimC N F s cx a w) (U : Nat → Prop) (hU : ∀ g, cx.U g → U g) : SimC N F s (cx.withU U) a w :=
  { h with env := fun i hi => (h.env i hi).tr (Tr.withU cx U hU), row := fun t T b ht hb => (h.row t T b ht hb).tr (Tr.withU cx U hU) rfl, stamp := fun t T ht => hU _ (h.stamp t T ht) }
theorem Sim.moreU {U U' : Nat → Prop} (h : Sim N F U s a w) (hU : ∀ g, U g → U' g) : Sim N F U' s a w := by
  obtain ⟨cx, rfl, h⟩ := h
  exact ⟨cx.withU U', rfl, h.moreU U' hU⟩

/-- Where a row of one's own lies. -/
theorem SimC.blk (h : SimC N F s cx a w) {t : Nat} {T : Tok} {b : Nat} (ht : cx.tk t = some T) (hb : cx.ρ t = some b) : b < w.heap.size := by
  obtain ⟨arr, el, fz, h1, _⟩ := h.row t T b ht hb
  rw [h.h] at h1
  exact (Array.getElem?_eq_some_iff.1 h1).1

def Cx.newTok (cx : Cx) (w' : World) (d : Nat) (b : Option Nat) (T : Tok) : Cx :=
  { h := w'.heap, Z := cx.Z, ρ := fun i => if i = d then b else cx.ρ i, tk := fun i => if i = d then some T else cx.tk i, U := fun g => cx.U g ∨ g = T.g }

/-- A new row of one's own. -/
theorem SimC.newTok (h : SimC N F s cx a w) (d : Nat) (T : Tok) (arr : Array Value) (el : TypeId) (fz : Nat × Nat) (w' : World) (hh : w'.heap = w.heap.push (.cells arr el fz)) (ho : w'.os = w.os)
    (ht : w'.tape = w.tape) (hp : w'.output = w.output) (hst : ¬ cx.U T.g) (hfz : FzOk arr.size fz) (h1 : ∀ (i : Nat) (v : Value), arr[i]? = some v → cell1 v = true)
    (hl : T.cs.length ≤ arr.size) (hr : ∀ (i : Nat) (x : AV) (v : Value), T.cs[i]? = some x → arr[i]? = some v → Rep cx x v) :
    Tr cx (cx.newTok w' d (some w.heap.size) T) ∧ SimC N F (s.setT d T) (cx.newTok w' d (some w.heap.size) T) a w' := by
  have hlt : ∀ b : Nat, b < w.heap.size → w'.heap[b]? = w.heap[b]? := fun b hb => by rw [hh, Array.getElem?_push, if_neg (by omega)]
  have hnew : w'.heap[w.heap.size]? = some (.cells arr el fz) := by rw [hh, Array.getElem?_push, if_pos rfl]
  have hsz : w'.heap.size = w.heap.size + 1 := by rw [hh]; simp
  have hTr : Tr cx (cx.newTok w' d (some w.heap.size) T) := by
    refine ⟨fun b hb => ⟨hb, ?_⟩, fun g hg => .inl hg, fun t T' e hu => ?_, fun t T0 b arr0 el0 fz0 e1 e2 e3 => ⟨arr0, el0, fz0, ?_, Nat.le_refl _⟩⟩
    · show w'.heap[b]? = _
      rw [hlt b (h.Zlt b hb), h.h]
    · simp only [Cx.newTok] at e
      split at e
      · cases e; exact absurd hu hst
      · rename_i hne; exact ⟨T', e, rfl, rfl, by simp [Cx.newTok, hne]⟩
    · show w'.heap[b]? = _
      rw [hlt b (h.blk e1 e2), ← h.h]; exact e3
  refine ⟨hTr, ?_⟩
  refine { h := rfl, tk := ?_, size := h.size, defers := h.defers, env := fun i hi => (h.env i hi).tr hTr, none_ := fun t T0 e1 e2 => ?_, row := fun t T0 b e1 e2 => ?_, stamp := fun t T0 e => ?_, inj := fun t t' T0 T1 b e1 e2 e3 e4 => ?_, apart := fun t T0 b e1 e2 => ?_, free := fun t T0 b e1 e2 => ?_, Zlt := fun b hb => ?_, Z0 := h.Z0, Znew := h.Znew, os := ho.trans h.os, tape := ht.trans h.tape, output := hp.trans h.output, grow := by have := h.grow; omega, prot := fun b hb => ?_ }
  · funext i; simp [Cx.newTok, AS.setT, h.tk]
  · simp only [Cx.newTok] at e1 e2
    split at e1
    · rename_i hd; rw [if_pos hd] at e2; cases e2
    · rename_i hd; rw [if_neg hd] at e2; exact h.none_ t T0 e1 e2
  · simp only [Cx.newTok] at e1 e2
    split at e1
    · rename_i hd
      rw [if_pos hd] at e2
      cases e1; cases e2
      exact ⟨arr, el, fz, hnew, hfz, h1, hl, fun i x v hx hv => (hr i x v hx hv).tr hTr⟩
    · rename_i hd
      rw [if_neg hd] at e2
      exact (h.row t T0 b e1 e2).tr hTr (by show w'.heap[b]? = _; rw [hlt b (h.blk e1 e2), h.h])
  · simp only [Cx.newTok] at e
    split at e
    · cases e; exact .inr rfl
    · exact .inl (h.stamp t T0 e)
  · simp only [Cx.newTok] at e1 e2 e3 e4
    split at e1
    · rename_i hd
      rw [if_pos hd] at e3
      cases e3
      split at e2
      · rename_i hd'; rw [hd, hd']
      · rename_i hd'
        rw [if_neg hd'] at e4
        have := h.blk e2 e4
        omega
    · rename_i hd
      rw [if_neg hd] at e3
      split at e2
      · rename_i hd'
        rw [if_pos hd'] at e4
        cases e4
        have := h.blk e1 e3
        omega
      · rename_i hd'
        rw [if_neg hd'] at e4
        exact h.inj t t' T0 T1 b e1 e2 e3 e4
  · simp only [Cx.newTok] at e1 e2
    split at e1
    · rename_i hd
      rw [if_pos hd] at e2
      cases e2
      intro hz
      exact absurd (h.Zlt _ hz) (by omega)
    · rename_i hd
      rw [if_neg hd] at e2
      exact h.apart t T0 b e1 e2
  · simp only [Cx.newTok] at e1 e2
    split at e1
    · rename_i hd
      rw [if_pos hd] at e2
      cases e2
      intro hz
      have := (h.prot _ hz).1
      have := h.grow
      omega
    · rename_i hd
      rw [if_neg hd] at e2
      exact h.free t T0 b e1 e2
  · have := h.Zlt b hb; omega
  · have hp := h.prot b hb
    have := h.grow
    exact ⟨hp.1, by rw [hlt b (by omega)]; exact hp.2⟩

/-- A row that is none yet. -/
theorem SimC.lazyTok (h : SimC N F s cx a w) (d : Nat) (T : Tok) (w' : World) (hh : w'.heap = w.heap) (ho : w'.os = w.os)
    (ht : w'.tape = w.tape) (hp : w'.output = w.output) (hst : ¬ cx.U T.g) (hc : T.cs = []) :
    Tr cx (cx.newTok w' d none T) ∧ SimC N F (s.setT d T) (cx.newTok w' d none T) a w' := by
  have hTr : Tr cx (cx.newTok w' d none T) := by
    refine ⟨fun b hb => ⟨hb, ?_⟩, fun g hg => .inl hg, fun t T' e hu => ?_, fun t T0 b arr0 el0 fz0 e1 e2 e3 => ⟨arr0, el0, fz0, ?_, Nat.le_refl _⟩⟩
    · show w'.heap[b]? = _
      rw [hh, h.h]
    · simp only [Cx.newTok] at e
      split at e
      · cases e; exact absurd hu hst
      · rename_i hne; exact ⟨T', e, rfl, rfl, by simp [Cx.newTok, hne]⟩
    · show w'.heap[b]? = _
      rw [hh, ← h.h]; exact e3
  refine ⟨hTr, ?_⟩
  refine { h := rfl, tk := ?_, size := h.size, defers := h.defers, env := fun i hi => (h.env i hi).tr hTr, none_ := fun t T0 e1 e2 => ?_, row := fun t T0 b e1 e2 => ?_, stamp := fun t T0 e => ?_, inj := fun t t' T0 T1 b e1 e2 e3 e4 => ?_, apart := fun t T0 b e1 e2 => ?_, free := fun t T0 b e1 e2 => ?_, Zlt := fun b hb => by rw [hh]; exact h.Zlt b hb, Z0 := h.Z0, Znew := h.Znew, os := ho.trans h.os, tape := ht.trans h.tape, output := hp.trans h.output, grow := by rw [hh]; exact h.grow, prot := fun b hb => by rw [hh]; exact h.prot b hb }
  · funext i; simp [Cx.newTok, AS.setT, h.tk]
  · simp only [Cx.newTok] at e1 e2
    split at e1
    · cases e1; exact hc
    · rename_i hd; rw [if_neg hd] at e2; exact h.none_ t T0 e1 e2
  · simp only [Cx.newTok] at e1 e2
    split at e1
    · rename_i hd; rw [if_pos hd] at e2; cases e2
    · rename_i hd
      rw [if_neg hd] at e2
      exact (h.row t T0 b e1 e2).tr hTr (by show w'.heap[b]? = _; rw [hh, h.h])
  · simp only [Cx.newTok] at e
    split at e
    · cases e; exact .inr rfl
    · exact .inl (h.stamp t T0 e)
  · simp only [Cx.newTok] at e1 e2 e3 e4
    split at e1
    · rename_i hd; rw [if_pos hd] at e3; cases e3
    · rename_i hd
      rw [if_neg hd] at e3
      split at e2
      · rename_i hd'; rw [if_pos hd'] at e4; cases e4
      · rename_i hd'
        rw [if_neg hd'] at e4
        exact h.inj t t' T0 T1 b e1 e2 e3 e4
  · simp only [Cx.newTok] at e1 e2
    split at e1
    · rename_i hd; rw [if_pos hd] at e2; cases e2
    · rename_i hd; rw [if_neg hd] at e2; exact h.apart t T0 b e1 e2
  · simp only [Cx.newTok] at e1 e2
    split at e1
    · rename_i hd; rw [if_pos hd] at e2; cases e2
    · rename_i hd; rw [if_neg hd] at e2; exact h.free t T0 b e1 e2

def Cx.updTok (cx : Cx) (w' : World) (d : Nat) (T : Tok) : Cx :=
  { h := w'.heap, Z := cx.Z, ρ := cx.ρ, tk := fun i => if i = d then some T else cx.tk i, U := fun g => cx.U g ∨ g = T.g }

/-- A row of one's own is written. -/
theorem SimC.updTok (h : SimC N F s cx a w) {d b : Nat} {T T' : Tok} (e1 : cx.tk d = some T) (e2 : cx.ρ d = some b) (arr arr' : Array Value) (el el' : TypeId) (fz fz' : Nat × Nat)
    (hb : w.heap[b]? = some (.cells arr el fz)) (w' : World) (hb' : w'.heap[b]? = some (.cells arr' el' fz')) (hh : ∀ k, k ≠ b → w'.heap[k]? = w.heap[k]?) (hsz : w'.heap.size = w.heap.size) (ho : w'.os = w.os)
    (ht : w'.tape = w.tape) (hp : w'.output = w.output) (hg : T'.g = T.g ∨ ¬ cx.U T'.g) (hs : T'.sz = T.sz) (ha : arr.size ≤ arr'.size) (hfz : FzOk arr'.size fz')
    (h1 : ∀ (i : Nat) (v : Value), arr'[i]? = some v → cell1 v = true) (hl : T'.cs.length ≤ arr'.size) (hr : ∀ (i : Nat) (x : AV) (v : Value), T'.cs[i]? = some x → arr'[i]? = some v → Rep cx x v) :
    Tr cx (cx.updTok w' d T') ∧ SimC N F (s.setT d T') (cx.updTok w' d T') a w' := by
  have hTr : Tr cx (cx.updTok w' d T') := by
    refine ⟨fun k hk => ⟨hk, ?_⟩, fun g hg => .inl hg, fun t T0 e hu => ?_, fun t T0 k arr0 el0 fz0 f1 f2 f3 => ?_⟩
    · show w'.heap[k]? = _
      rw [hh k (fun e => h.apart d T b e1 e2 (e ▸ hk)), h.h]
    · simp only [Cx.updTok] at e
      split at e
      · rename_i hd
        cases e
        rcases hg with hg | hg
        · exact ⟨T, by rw [hd]; exact e1, hg.symm, hs.symm, rfl⟩
        · exact absurd hu hg
      · exact ⟨T0, e, rfl, rfl, rfl⟩
    · by_cases e : k = b
      · subst e
        rw [h.h, hb] at f3
        cases f3
        exact ⟨arr', el', fz', hb', ha⟩
      · exact ⟨arr0, el0, fz0, by show w'.heap[k]? = _; rw [hh k e, ← h.h]; exact f3, Nat.le_refl _⟩
  refine ⟨hTr, ?_⟩
  refine { h := rfl, tk := ?_, size := h.size, defers := h.defers, env := fun i hi => (h.env i hi).tr hTr, none_ := fun t T0 f1 f2 => ?_, row := fun t T0 k f1 f2 => ?_, stamp := fun t T0 e => ?_, inj := fun t t' T0 T1 k f1 f2 f3 f4 => ?_, apart := fun t T0 k f1 f2 => ?_, free := fun t T0 k f1 f2 => ?_, Zlt := fun k hk => by rw [hsz]; exact h.Zlt k hk, Z0 := h.Z0, Znew := h.Znew, os := ho.trans h.os, tape := ht.trans h.tape, output := hp.trans h.output, grow := by rw [hsz]; exact h.grow, prot := fun k hk => ?_ }
  · funext i; simp [Cx.updTok, AS.setT, h.tk]
  · simp only [Cx.updTok] at f1 f2
    split at f1
    · rename_i hd; rw [hd, e2] at f2; cases f2
    · exact h.none_ t T0 f1 f2
  · simp only [Cx.updTok] at f1 f2
    split at f1
    · rename_i hd
      rw [hd, e2] at f2
      cases f1; cases f2
      exact ⟨arr', el', fz', hb', hfz, h1, hl, fun i x v hx hv => (hr i x v hx hv).tr hTr⟩
    · rename_i hd
      refine (h.row t T0 k f1 f2).tr hTr (by show w'.heap[k]? = _; rw [hh k (fun e => hd (h.inj t d T0 T k f1 e1 f2 (by rw [e]; exact e2))), h.h])
  · simp only [Cx.updTok] at e
    split at e
    · cases e; exact .inr rfl
    · exact .inl (h.stamp t T0 e)
  · simp only [Cx.updTok] at f1 f2 f3 f4
    have g1 : ∃ T2, cx.tk t = some T2 := by
      split at f1
      · rename_i hd; exact ⟨T, by rw [hd]; exact e1⟩
      · exact ⟨T0, f1⟩
    have g2 : ∃ T2, cx.tk t' = some T2 := by
      split at f2
      · rename_i hd; exact ⟨T, by rw [hd]; exact e1⟩
      · exact ⟨T1, f2⟩
    obtain ⟨Ta, g1⟩ := g1
    obtain ⟨Tb, g2⟩ := g2
    exact h.inj t t' Ta Tb k g1 g2 f3 f4
  · simp only [Cx.updTok] at f1 f2
    split at f1
    · rename_i hd; exact h.apart t T k (by rw [hd]; exact e1) f2
    · exact h.apart t T0 k f1 f2
  · simp only [Cx.updTok] at f1 f2
    split at f1
    · rename_i hd; exact h.free t T k (by rw [hd]; exact e1) f2
    · exact h.free t T0 k f1 f2
  · have hq := h.prot k hk
    exact ⟨hq.1, by rw [hh k (fun e => h.free d T b e1 e2 (e ▸ hk))]; exact hq.2⟩

/-! ### Operands -/
theorem bytes_ext {s : ByteArray} : s.data.toList.length = s.size := by rw [Array.length_toList]; rfl
theorem rep_absV (cx : Cx) (v : Value) : Rep cx (absV v) v := by
  unfold absV
  split <;> first | constructor | skip
  exact rfl
theorem ev_runs {o : Operand} {k : AV → M} (h : SimC N F s cx a w) (hr : (ev N o k).Runs P s s') : ∃ x, (k x).Runs P s s' ∧ Rep cx x (a.eval o) := by
  cases o with
  | tmp t =>
    simp only [ev] at hr
    split at hr
    · rename_i ht
      cases hr
      rename_i hr
      exact ⟨_, hr, h.env t ht⟩
    · cases hr
  | const v => exact ⟨_, hr, rep_absV cx v⟩
  | global g => cases hr
  | func f => exact ⟨_, hr, .fn f [] #[] rfl (fun i x v hx => by simp at hx)⟩
theorem evL_runs (h : SimC N F s cx a w) : ∀ {os : List Operand} {k : List AV → M}, (evL N os k).Runs P s s' → ∃ xs, (k xs).Runs P s s' ∧ RepL cx xs (os.map a.eval)
  | [], k, hr => ⟨[], hr, RepL.nil cx⟩
  | o :: os, k, hr => by
    obtain ⟨x, hr, hx⟩ := ev_runs h hr
    obtain ⟨xs, hr, hxs⟩ := evL_runs h hr
    exact ⟨x :: xs, hr, .cons hx hxs⟩
theorem evP_runs (h : SimC N F s cx a w) : ∀ {os : List (Nat × Operand)} {k : List (Nat × AV) → M}, (evP N os k).Runs P s s' →
    ∃ xs, (k xs).Runs P s s' ∧ xs.map Prod.fst = os.map Prod.fst ∧ RepL cx (xs.map Prod.snd) (os.map fun o => a.eval o.2)
  | [], k, hr => ⟨[], hr, rfl, RepL.nil cx⟩
  | (i, o) :: os, k, hr => by
    obtain ⟨x, hr, hx⟩ := ev_runs h hr
    obtain ⟨xs, hr, he, hxs⟩ := evP_runs h hr
    exact ⟨(i, x) :: xs, hr, by simp [he], .cons hx hxs⟩
theorem row_runs {t g : Nat} {k : Tok → M} (h : SimC N F s cx a w) (hr : (row? t g k).Runs P s s') : ∃ T, cx.tk t = some T ∧ T.g = g ∧ (k T).Runs P s s' := by
  unfold row? at hr
  cases hr
  rename_i hr
  rw [← h.tk] at hr
  cases e : cx.tk t with
  | none => rw [e] at hr; cases hr
  | some T =>
    rw [e] at hr
    simp only at hr
    split at hr
    · rename_i hg; exact ⟨T, rfl, hg, hr⟩
    · cases hr

/-! ### An operation that only reckons -/
def Nx (N : Nat) (F : Fr) (U : Nat → Prop) (s' : AS) (next : Act → World → Prop) : Prop := ∀ a' w', Sim N F U s' a' w' → next a' w'

theorem done_out {o : Oper} {next : Act → World → Prop} {Q : Exit → Act → World → Prop} {x : AV} {v : Value} {w' : World} (h : SimC N F s cx a w') (hrun : (execOp a.eval o).run P w = .ok (.value v) w')
    (hr : (out N o.dst x).Runs P s s') (hx : Rep cx x v) {U : Nat → Prop} (hU : ∀ g, cx.U g → U g) (hn : Nx N F U s' next) : o.wp P a w next Q := by
  unfold Oper.wp
  rw [hrun, Oper.upon_value]
  unfold out at hr
  cases hd : o.dst with
  | none =>
    rw [hd] at hr
    cases hr
    exact hn _ _ (Sim.moreU ⟨cx, rfl, h⟩ hU)
  | some d =>
    rw [hd] at hr
    simp only at hr
    split at hr
    · rename_i hlt
      cases hr
      rename_i hr
      cases hr
      exact hn _ _ (Sim.moreU ⟨cx, rfl, h.putE hlt hx⟩ hU)
    · cases hr
/-- One that makes a row (or a box). -/
theorem done_mk {o : Oper} {next : Act → World → Prop} {Q : Exit → Act → World → Prop} {st sz : Nat} {cs : List AV} {x : Nat → AV} {v : Value} {w' : World} (h : SimC N F s cx a w)
    (hr : (mk N o.dst st sz cs x).Runs P s s') (hst : ¬ cx.U st) (arr : Array Value) (el : TypeId) (fz : Nat × Nat) (hh : w'.heap = w.heap.push (.cells arr el fz)) (ho : w'.os = w.os)
    (ht : w'.tape = w.tape) (hp : w'.output = w.output) (hfz : FzOk arr.size fz) (h1 : ∀ (i : Nat) (v : Value), arr[i]? = some v → cell1 v = true)
    (hl : cs.length ≤ arr.size) (hc : ∀ (i : Nat) (x : AV) (v : Value), cs[i]? = some x → arr[i]? = some v → Rep cx x v)
    (hrun : (execOp a.eval o).run P w = .ok (.value v) w') (hx : ∀ d cx', cx'.tk d = some ⟨st, sz, cs⟩ → cx'.ρ d = some w.heap.size → cx'.U st → cx'.h[w.heap.size]? = some (.cells arr el fz) → Rep cx' (x d) v)
    (hn : Nx N F (fun g => cx.U g ∨ g = st) s' next) : o.wp P a w next Q := by
  unfold Oper.wp
  rw [hrun, Oper.upon_value]
  unfold mk at hr
  cases hd : o.dst with
  | none => rw [hd] at hr; cases hr
  | some d =>
    rw [hd] at hr
    simp only at hr
    split at hr
    · rename_i hlt
      cases hr
      rename_i hr
      cases hr
      rename_i hr
      cases hr
      have hk := h.newTok d ⟨st, sz, cs⟩ arr el fz w' hh ho ht hp hst hfz h1 hl hc
      refine hn _ _ ⟨_, rfl, hk.2.putE hlt (hx d _ ?_ ?_ ?_ ?_)⟩
      · simp [Cx.newTok]
      · simp [Cx.newTok]
      · exact .inr rfl
      · show w'.heap[w.heap.size]? = _
        rw [hh, Array.getElem?_push, if_pos rfl]
    · cases hr
end Go.Eng
