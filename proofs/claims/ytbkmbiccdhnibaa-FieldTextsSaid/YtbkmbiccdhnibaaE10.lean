/- The engine, part 10: calls. For every program. -/
import Derived.Test.YtbkmbiccdhnibaaE9
set_option linter.unusedVariables false
namespace Go.Eng
open Go.RowKit

variable {P : Program} {N : Nat} {F : Fr} {s s' : AS} {cx : Cx} {a : Act} {w : World}

theorem closedL_get : ∀ {cs : List AV} {i : Nat} {x : AV}, closedL cs = true → cs[i]? = some x → x.closed = true
  | [], i, x, h, hx => by simp at hx
  | y :: cs, 0, x, h, hx => by simp at hx; subst hx; simp [closedL] at h; exact h.1
  | y :: cs, i + 1, x, h, hx => by simp [closedL] at h; exact closedL_get h.2 (by simpa using hx)
theorem noSlL_get : ∀ {cs : List AV} {i : Nat} {x : AV}, noSlL cs = true → cs[i]? = some x → x.noSl = true
  | [], i, x, h, hx => by simp at hx
  | y :: cs, 0, x, h, hx => by simp at hx; subst hx; simp [noSlL] at h; exact h.1
  | y :: cs, i + 1, x, h, hx => by simp [noSlL] at h; exact noSlL_get h.2 (by simpa using hx)
theorem renL_get (d st : Nat) : ∀ {cs : List AV} {i : Nat} {x : AV}, (renL d st cs)[i]? = some x → ∃ y, cs[i]? = some y ∧ x = y.ren d st
  | [], i, x, h => by simp [renL] at h
  | y :: cs, 0, x, h => by simp [renL] at h; exact ⟨y, by simp, h.symm⟩
  | y :: cs, i + 1, x, h => by simp [renL] at h; simpa using renL_get d st h
theorem renL_length (d st : Nat) : ∀ (cs : List AV), (renL d st cs).length = cs.length
  | [] => rfl
  | y :: cs => by simp [renL, renL_length d st cs]

/-- What names no row of its own is read in another place, if its blocks are there (or it names none). -/
theorem Rep.move {cx cx' : Cx} {x : AV} {v : Value} (h : Rep cx x v) (hc : x.closed = true) (hz : (∀ b, cx.Z b → cx'.Z b ∧ cx'.h[b]? = cx.h[b]?) ∨ x.noSl = true) : Rep cx' x v := by
  induction h with
  | bool b => exact .bool b
  | int k n => exact .int k n
  | str s l h => exact .str s l h
  | nilS => exact .nilS
  | nilP => exact .nilP
  | em b a c h => exact .em b a c h
  | sl0 a c => exact .sl0 a c
  | sl n cs ad c arr el fz hZ hb hs hn hl h1 h ih =>
    rcases hz with hz | hz
    · exact .sl n cs ad c arr el fz (hz _ hZ).1 ((hz _ hZ).2.trans hb) hs hn hl h1 fun i x v hx hv => ih i x v hx hv (closedL_get (by simpa [AV.closed] using hc) hx) (.inl hz)
    · simp only [AV.noSl, Bool.and_eq_true, beq_iff_eq, List.isEmpty_iff] at hz
      obtain ⟨rfl, rfl⟩ := hz
      exact .sl0 _ _
  | own => simp [AV.closed] at hc
  | arr => simp [AV.closed] at hc
  | addr => simp [AV.closed] at hc
  | ptr cs off ad base arr el fz hZ hb hs ho hl h1 h ih =>
    rcases hz with hz | hz
    · exact .ptr cs off ad base arr el fz (hz _ hZ).1 ((hz _ hZ).2.trans hb) hs ho hl h1 fun i x v hx hv => ih i x v hx hv (closedL_get (by simpa [AV.closed] using hc) hx) (.inl hz)
    · simp [AV.noSl] at hz
  | fn f caps vs hl h ih => exact .fn f caps vs hl fun i x v hx hv => ih i x v hx hv (closedL_get (by simpa [AV.closed] using hc) hx) (hz.imp id fun h => noSlL_get (by simpa [AV.noSl] using h) hx)
  | agg cs vs hl h1 h ih => exact .agg cs vs hl h1 fun i x v hx hv => ih i x v hx hv (closedL_get (by simpa [AV.closed] using hc) hx) (hz.imp id fun h => noSlL_get (by simpa [AV.noSl] using h) hx)
  | tup cs vs hl h ih => exact .tup cs vs hl fun i x v hx hv => ih i x v hx hv (closedL_get (by simpa [AV.closed] using hc) hx) (hz.imp id fun h => noSlL_get (by simpa [AV.noSl] using h) hx)
  | dead v => exact .dead v
/-- What comes back from a call with a row. -/
theorem Rep.ren {cx cx' : Cx} {x : AV} {v : Value} (d st : Nat) (T : Tok) (h : Rep cx x v) (htk : cx.tk = fun t => if t = 0 then some T else none) (hg : T.g = 0) (htk' : cx'.tk d = some { T with g := st }) (hρ : cx'.ρ d = cx.ρ 0)
    (hU : cx'.U st) (hh : ∀ b, cx.ρ 0 = some b → cx'.h[b]? = cx.h[b]?) (hz : (∀ b, cx.Z b → cx'.Z b ∧ cx'.h[b]? = cx.h[b]?) ∨ x.noSl = true) : Rep cx' (x.ren d st) v := by
  have h0 : cx.tk 0 = some T := by rw [htk]; simp
  induction h with
  | bool b => exact .bool b
  | int k n => exact .int k n
  | str s l h => exact .str s l h
  | nilS => exact .nilS
  | nilP => exact .nilP
  | em b a c h => exact .em b a c h
  | sl0 a c => show Rep cx' (if closedL [] = true then .sl 0 [] else .dead) _; rw [if_pos (by simp [closedL])]; exact .sl0 a c
  | sl n cs ad c arr el fz hZ hb hs hn hl h1 h ih =>
    show Rep cx' (if closedL cs = true then .sl n cs else .dead) _
    split
    · rename_i hcl
      exact Rep.move (.sl n cs ad c arr el fz hZ hb hs hn hl h1 h) (by simpa [AV.closed] using hcl) hz
    · exact .dead _
  | own t g off n a c hu hn h =>
    show Rep cx' (if t = 0 ∧ g = 0 then .own d st off n else .dead) _
    split
    · rename_i hc
      obtain ⟨rfl, rfl⟩ := hc
      refine .own d st off n a c hU hn fun T' hT hg' => ?_
      rw [htk'] at hT
      cases hT
      rcases h T h0 hg with h | ⟨b, arr, el, fz, e1, e2, e3, e4⟩
      · exact .inl h
      · exact .inr ⟨b, arr, el, fz, hρ.trans e1, e2, (hh b e1).trans e3, e4⟩
    · exact .dead _
  | arr t g off n a hu h =>
    show Rep cx' (if t = 0 ∧ g = 0 then .arr d st off n else .dead) _
    split
    · rename_i hc
      obtain ⟨rfl, rfl⟩ := hc
      refine .arr d st off n a hU fun T' hT hg' => ?_
      obtain ⟨b, e1, e2⟩ := h T h0 hg
      exact ⟨b, hρ.trans e1, e2⟩
    · exact .dead _
  | addr t g off ad hu h =>
    show Rep cx' (if t = 0 ∧ g = 0 then .addr d st off else .dead) _
    split
    · rename_i hc
      obtain ⟨rfl, rfl⟩ := hc
      refine .addr d st off ad hU fun T' hT hg' => ?_
      obtain ⟨b, e1, e2⟩ := h T h0 hg
      exact ⟨b, hρ.trans e1, e2⟩
    · exact .dead _
  | ptr cs off ad base arr el fz hZ hb hs ho hl h1 h ih =>
    show Rep cx' (if closedL cs = true then .ptr cs off else .dead) _
    split
    · rename_i hcl
      exact Rep.move (.ptr cs off ad base arr el fz hZ hb hs ho hl h1 h) (by simpa [AV.closed] using hcl) hz
    · exact .dead _
  | fn f caps vs hl h ih => exact .dead _
  | agg cs vs hl h1 h ih =>
    refine .agg _ vs (by rw [renL_length]; exact hl) h1 fun i x v hx hv => ?_
    obtain ⟨y, e1, rfl⟩ := renL_get d st hx
    exact ih i y v e1 hv (hz.imp id fun h => noSlL_get (by simpa [AV.noSl] using h) e1)
  | tup cs vs hl h ih =>
    refine .tup _ vs (by rw [renL_length]; exact hl) fun i x v hx hv => ?_
    obtain ⟨y, e1, rfl⟩ := renL_get d st hx
    exact ih i y v e1 hv (hz.imp id fun h => noSlL_get (by simpa [AV.noSl] using h) e1)
  | dead v => exact .dead v
/-! ### The world behind a call -/
def Cx.called (cx : Cx) (w : World) (cx' : Cx) (w' : World) : Cx :=
  { cx with h := w'.heap, Z := fun b => cx.Z b ∨ (cx'.Z b ∧ w.heap.size ≤ b) }
theorem SimC.called (h : SimC N F s cx a w) {Z0 : Nat → Prop} {T : Option Tok} {cx' : Cx} {w' : World} (r : Ret w Z0 T cx' w') : Tr cx (cx.called w cx' w') ∧ SimC N F s (cx.called w cx' w') a w' := by
  have hb : ∀ b, b < w.heap.size → w'.heap[b]? = w.heap[b]? := fun b hb => r.below.block b hb
  have hTr : Tr cx (cx.called w cx' w') := by
    refine ⟨fun b hz => ⟨.inl hz, ?_⟩, fun g hg => hg, fun t T' e _ => ⟨T', e, rfl, rfl, rfl⟩, fun t T0 b arr el fz e1 e2 e3 => ⟨arr, el, fz, ?_, Nat.le_refl _⟩⟩
    · show w'.heap[b]? = _
      rw [hb b (h.Zlt b hz), h.h]
    · show w'.heap[b]? = _
      rw [hb b (h.blk e1 e2), ← h.h]; exact e3
  refine ⟨hTr, { h := rfl, tk := h.tk, size := h.size, defers := h.defers, env := fun i hi => (h.env i hi).tr hTr, none_ := h.none_, row := fun t T0 b e1 e2 => (h.row t T0 b e1 e2).tr hTr ?_, stamp := h.stamp, inj := h.inj, apart := fun t T0 b e1 e2 hz => ?_, free := h.free, Zlt := fun b hz => ?_, Z0 := fun b hz => .inl (h.Z0 b hz), Znew := fun b hz => ?_, os := r.below.os.trans h.os, tape := r.below.tape.trans h.tape, output := r.below.output.trans h.output, grow := Nat.le_trans h.grow r.below.size, prot := fun b hz => ?_ }⟩
  · show w'.heap[b]? = _
    rw [hb b (h.blk e1 e2), h.h]
  · rcases hz with hz | ⟨_, hz⟩
    · exact h.apart t T0 b e1 e2 hz
    · have := h.blk e1 e2; omega
  · rcases hz with hz | ⟨hz, _⟩
    · exact Nat.lt_of_lt_of_le (h.Zlt b hz) r.below.size
    · exact r.Zlt b hz
  · rcases hz with hz | ⟨_, hz⟩
    · exact h.Znew b hz
    · exact .inr (Nat.le_trans h.grow hz)
  · have hp := h.prot b hz
    have := h.grow
    exact ⟨hp.1, by rw [hb b (by omega)]; exact hp.2⟩
/-- A row that came back is one's own. -/
theorem SimC.gains (h : SimC N F s cx a w) (d : Nat) (T : Tok) (b : Option Nat) (hst : ¬ cx.U T.g) (hn : b = none → T.cs = []) (hT : ∀ k, b = some k → TokAt cx T k) (hb : ∀ k, b = some k → ¬ cx.Z k ∧ ¬ F.prot k ∧ ∀ t T', cx.tk t = some T' → cx.ρ t ≠ some k) :
    Tr cx (cx.newTok w d b T) ∧ SimC N F (s.setT d T) (cx.newTok w d b T) a w := by
  have hTr : Tr cx (cx.newTok w d b T) := by
    refine ⟨fun k hk => ⟨hk, ?_⟩, fun g hg => .inl hg, fun t T' e hu => ?_, fun t T0 k arr0 el0 fz0 e1 e2 e3 => ⟨arr0, el0, fz0, ?_, Nat.le_refl _⟩⟩
    · show w.heap[k]? = _
      rw [h.h]
    · simp only [Cx.newTok] at e
      split at e
      · cases e; exact absurd hu hst
      · rename_i hne; exact ⟨T', e, rfl, rfl, by simp [Cx.newTok, hne]⟩
    · show w.heap[k]? = _
      rw [← h.h]; exact e3
  refine ⟨hTr, ?_⟩
  refine { h := rfl, tk := ?_, size := h.size, defers := h.defers, env := fun i hi => (h.env i hi).tr hTr, none_ := fun t T0 e1 e2 => ?_, row := fun t T0 k e1 e2 => ?_, stamp := fun t T0 e => ?_, inj := fun t t' T0 T1 k e1 e2 e3 e4 => ?_, apart := fun t T0 k e1 e2 => ?_, free := fun t T0 k e1 e2 => ?_, Zlt := h.Zlt, Z0 := h.Z0, Znew := h.Znew, os := h.os, tape := h.tape, output := h.output, grow := h.grow, prot := h.prot }
  · funext i; simp [Cx.newTok, AS.setT, h.tk]
  · simp only [Cx.newTok] at e1 e2
    split at e1
    · rename_i hd; cases e1; rw [if_pos hd] at e2; exact hn e2
    · rename_i hd; rw [if_neg hd] at e2; exact h.none_ t T0 e1 e2
  · simp only [Cx.newTok] at e1 e2
    split at e1
    · rename_i hd
      rw [if_pos hd] at e2
      cases e1
      exact (hT k e2).tr hTr (by show w.heap[k]? = _; rw [h.h])
    · rename_i hd
      rw [if_neg hd] at e2
      exact (h.row t T0 k e1 e2).tr hTr (by show w.heap[k]? = _; rw [h.h])
  · simp only [Cx.newTok] at e
    split at e
    · cases e; exact .inr rfl
    · exact .inl (h.stamp t T0 e)
  · simp only [Cx.newTok] at e1 e2 e3 e4
    split at e1
    · rename_i hd
      rw [if_pos hd] at e3
      split at e2
      · rename_i hd'; rw [hd, hd']
      · rename_i hd'
        rw [if_neg hd'] at e4
        exact absurd e4 ((hb k e3).2.2 t' T1 e2)
    · rename_i hd
      rw [if_neg hd] at e3
      split at e2
      · rename_i hd'
        rw [if_pos hd'] at e4
        exact absurd e3 ((hb k e4).2.2 t T0 e1)
      · rename_i hd'
        rw [if_neg hd'] at e4
        exact h.inj t t' T0 T1 k e1 e2 e3 e4
  · simp only [Cx.newTok] at e1 e2
    split at e1
    · rename_i hd; rw [if_pos hd] at e2; exact (hb k e2).1
    · rename_i hd; rw [if_neg hd] at e2; exact h.apart t T0 k e1 e2
  · simp only [Cx.newTok] at e1 e2
    split at e1
    · rename_i hd; rw [if_pos hd] at e2; exact (hb k e2).2.1
    · rename_i hd; rw [if_neg hd] at e2; exact h.free t T0 k e1 e2

theorem TokAt.move {cx cx' : Cx} {T : Tok} {b : Nat} (g : Nat) (h : TokAt cx T b) (hc : ∀ (i : Nat) (x : AV) (v : Value), T.cs[i]? = some x → Rep cx x v → Rep cx' x v) (hb : cx'.h[b]? = cx.h[b]?) : TokAt cx' { T with g := g } b := by
  obtain ⟨arr, el, fz, h1, h2, h3, h4, h5⟩ := h
  exact ⟨arr, el, fz, hb.trans h1, h2, h3, h4, fun i x v hx hv => hc i x v hx (h5 i x v hx hv)⟩
theorem noRow_closed {w : World} {Z : Nat → Prop} {x : AV} {v : Value} (h : Rep (cxA w Z) x v) {cx' : Cx} (hz : (∀ b, Z b → cx'.Z b ∧ cx'.h[b]? = w.heap[b]?) ∨ x.noSl = true) : Rep cx' x v := by
  induction h with
  | bool b => exact .bool b
  | int k n => exact .int k n
  | str s l h => exact .str s l h
  | nilS => exact .nilS
  | nilP => exact .nilP
  | em b a c h => exact .em b a c h
  | sl0 a c => exact .sl0 a c
  | sl n cs ad c arr el fz hZ hb hs hn hl h1 h ih =>
    rcases hz with hz | hz
    · exact .sl n cs ad c arr el fz (hz _ hZ).1 ((hz _ hZ).2.trans hb) hs hn hl h1 fun i x v hx hv => ih i x v hx hv (.inl hz)
    · simp only [AV.noSl, Bool.and_eq_true, beq_iff_eq, List.isEmpty_iff] at hz
      obtain ⟨rfl, rfl⟩ := hz
      exact .sl0 _ _
  | own t g off n a c hu => exact hu.elim
  | arr t g off n a hu => exact hu.elim
  | addr t g off ad hu => exact hu.elim
  | ptr cs off ad base arr el fz hZ hb hs ho hl h1 h ih =>
    rcases hz with hz | hz
    · exact .ptr cs off ad base arr el fz (hz _ hZ).1 ((hz _ hZ).2.trans hb) hs ho hl h1 fun i x v hx hv => ih i x v hx hv (.inl hz)
    · simp [AV.noSl] at hz
  | fn f caps vs hl h ih => exact .fn f caps vs hl fun i x v hx hv => ih i x v hx hv (hz.imp id fun h => noSlL_get (by simpa [AV.noSl] using h) hx)
  | agg cs vs hl h1 h ih => exact .agg cs vs hl h1 fun i x v hx hv => ih i x v hx hv (hz.imp id fun h => noSlL_get (by simpa [AV.noSl] using h) hx)
  | tup cs vs hl h ih => exact .tup cs vs hl fun i x v hx hv => ih i x v hx hv (hz.imp id fun h => noSlL_get (by simpa [AV.noSl] using h) hx)
  | dead v => exact .dead v

/-! ### Arguments -/
theorem rep_cl {x : AV} {v : Value} (h : Rep cx x v) : Rep cx (cl x) v := by
  cases x with
  | nilS => cases h; exact .sl0 none 0
  | _ => exact h
theorem rep_clA {x : AV} {v : Value} (h : Rep cx x v) : Rep cx (clA x) v := by
  cases x with
  | agg cs =>
    obtain ⟨vs, rfl, h1, h2⟩ := rep_agg h
    refine rep_mkagg ⟨by simpa using h1.1, fun i x v hx hv => ?_⟩ h2
    rw [List.getElem?_map] at hx
    cases e : cs[i]? with
    | none => rw [e] at hx; cases hx
    | some y => rw [e] at hx; cases hx; exact rep_cl (h1.2 i y v e hv)
  | nilS => exact rep_cl h
  | _ => exact h
theorem args_closed {xs : List AV} {vs : List Value} (hs : SimC N F s cx a w) (h : RepL cx xs vs) (hc : closedL xs = true) : RepL (cxA w cx.Z) (xs.map clA) vs := by
  refine ⟨by simpa using h.1, fun i x v hx hv => ?_⟩
  rw [List.getElem?_map] at hx
  cases e : xs[i]? with
  | none => rw [e] at hx; cases hx
  | some y =>
    rw [e] at hx
    cases hx
    exact rep_clA ((h.2 i y v e hv).move (closedL_get hc e) (.inl fun b hb => ⟨hb, by show w.heap[b]? = _; rw [hs.h]⟩))
/-- All blocks that are there. -/
def allB (w : World) (b : Nat) : Prop := b < w.heap.size
theorem move_all (hs : SimC N F s cx a w) {x : AV} {v : Value} (h : Rep cx x v) (hc : x.closed = true) : Rep (cxA w (allB w)) x v :=
  h.move hc (.inl fun b hb => ⟨hs.Zlt b hb, by show w.heap[b]? = _; rw [hs.h]⟩)
theorem reifyC_runs {x : AV} {v : Value} {k : AV → M} (hs : SimC N F s cx a w) (hx : Rep cx x v) (hr : (reifyC x k).Runs P s s') : ∃ y, (k y).Runs P s s' ∧ Rep (cxA w (allB w)) y v := by
  unfold reifyC at hr
  cases x with
  | nilS => cases hx; exact ⟨_, hr, .sl0 none 0⟩
  | own t g off n =>
    obtain ⟨T, e1, e2, hr⟩ := row_runs hs hr
    split at hr
    · rename_i hcl
      refine ⟨_, hr, ?_⟩
      cases hx with
      | own _ _ _ _ p c hU hnc hh =>
        rcases hh T e1 e2 with ⟨h0, hc0⟩ | ⟨b, arr, el, fz, h1, h2, h3, h4⟩
        · subst h0; simp; exact .sl0 _ _
        · obtain ⟨arr', el', fz', f1, f2, f3, f4, f5⟩ := hs.row t T b e1 h1
          rw [h3] at f1
          cases f1
          subst h2
          have hlen : off + ((T.cs.drop off).take (n * T.sz)).length ≤ arr.size := by
            have : n * T.sz ≤ c * T.sz := Nat.mul_le_mul_right _ hnc
            simp only [List.length_take, List.length_drop]
            omega
          refine .sl n _ _ c arr el fz ?_ ?_ rfl hnc hlen (fun i v _ hv => f3 _ v hv) fun i x v hx hv => ?_
          · show b < w.heap.size
            exact hs.blk e1 h1
          · show w.heap[b]? = _
            rw [← hs.h]; exact h3
          · have hx' := hx
            rw [List.getElem?_take, List.getElem?_drop] at hx
            split at hx
            · exact move_all hs (f5 _ x v hx hv) (closedL_get hcl hx')
            · cases hx
    · cases hr
  | arr t g off n =>
    obtain ⟨T, e1, e2, hr⟩ := row_runs hs hr
    split at hr
    · rename_i hcl
      refine ⟨_, hr, ?_⟩
      cases hx with
      | arr _ _ _ _ p hU hh =>
        obtain ⟨b, h1, h2⟩ := hh T e1 e2
        obtain ⟨arr, el, fz, f1, f2, f3, f4, f5⟩ := hs.row t T b e1 h1
        subst h2
        have hlen : off + ((T.cs.drop off).take (n * T.sz)).length ≤ arr.size := by
          simp only [List.length_take, List.length_drop]
          omega
        refine .sl n _ _ n arr el fz ?_ ?_ rfl (Nat.le_refl _) hlen (fun i v _ hv => f3 _ v hv) fun i x v hx hv => ?_
        · show b < w.heap.size
          exact hs.blk e1 h1
        · show w.heap[b]? = _
          rw [← hs.h]; exact f1
        · have hx' := hx
          rw [List.getElem?_take, List.getElem?_drop] at hx
          split at hx
          · exact move_all hs (f5 _ x v hx hv) (closedL_get hcl.2 hx')
          · cases hx
    · cases hr
  | _ =>
    simp only at hr
    split at hr
    · rename_i hc; exact ⟨_, hr, move_all hs hx hc⟩
    · cases hr
theorem reifyL_runs (hs : SimC N F s cx a w) : ∀ {xs : List AV} {vs : List Value} {k : List AV → M}, RepL cx xs vs → (reifyL xs k).Runs P s s' → ∃ ys, (k ys).Runs P s s' ∧ RepL (cxA w (allB w)) ys vs
  | [], vs, k, h, hr => ⟨[], hr, by have := h.1; simp at this; rw [List.eq_nil_of_length_eq_zero this.symm]; exact RepL.nil _⟩
  | x :: xs, vs, k, h, hr => by
    obtain ⟨v, vs', rfl, h1, h2⟩ := h.uncons
    obtain ⟨y, hr, hy⟩ := reifyC_runs hs h1 hr
    obtain ⟨ys, hr, hys⟩ := reifyL_runs hs h2 hr
    exact ⟨y :: ys, hr, .cons hy hys⟩
theorem reify_runs {x : AV} {v : Value} {k : AV → M} (hs : SimC N F s cx a w) (hx : Rep cx x v) (hr : (reify x k).Runs P s s') : ∃ y, (k y).Runs P s s' ∧ Rep (cxA w (allB w)) y v := by
  unfold reify at hr
  cases x with
  | agg cs =>
    obtain ⟨vs, rfl, h1, h2⟩ := rep_agg hx
    obtain ⟨ys, hr, hys⟩ := reifyL_runs hs h1 hr
    exact ⟨_, hr, rep_mkagg hys h2⟩
  | addr t g off =>
    obtain ⟨T, e1, e2, hr⟩ := row_runs hs hr
    split at hr
    · rename_i hcl
      refine ⟨_, hr, ?_⟩
      cases hx with
      | addr _ _ _ ad hU hh =>
        obtain ⟨b, h1, rfl⟩ := hh T e1 e2
        obtain ⟨arr, el, fz, f1, f2, f3, f4, f5⟩ := hs.row t T b e1 h1
        refine .ptr T.cs off _ 0 arr el fz ?_ ?_ rfl (by simp) (by omega) (fun i v _ hv => f3 _ v hv) fun i x v hx hv => move_all hs (f5 i x v hx (by simpa using hv)) (closedL_get hcl hx)
        · show b < w.heap.size
          exact hs.blk e1 h1
        · show w.heap[b]? = _
          rw [← hs.h]; exact f1
    · cases hr
  | _ => exact reifyC_runs hs hx hr
theorem reifyA_runs (hs : SimC N F s cx a w) : ∀ {xs : List AV} {vs : List Value} {k : List AV → M}, RepL cx xs vs → (reifyA xs k).Runs P s s' → ∃ ys, (k ys).Runs P s s' ∧ RepL (cxA w (allB w)) ys vs
  | [], vs, k, h, hr => ⟨[], hr, by have := h.1; simp at this; rw [List.eq_nil_of_length_eq_zero this.symm]; exact RepL.nil _⟩
  | x :: xs, vs, k, h, hr => by
    obtain ⟨v, vs', rfl, h1, h2⟩ := h.uncons
    obtain ⟨y, hr, hy⟩ := reify_runs hs h1 hr
    obtain ⟨ys, hr, hys⟩ := reifyA_runs hs h2 hr
    exact ⟨y :: ys, hr, .cons hy hys⟩

/-- The call, whichever way its arguments were handed over. -/
theorem call_done {o : Oper} {st : Nat} {next : Act → World → Prop} {Q : Exit → Act → World → Prop} {f : FuncId} {ys : List AV} {vargs : Array Value} {Z0 : Nat → Prop} {r : AV} {T : Option Tok} (hs : SimC N F s cx a w) (hst : ¬ cx.U st)
    (hrun : (execOp a.eval o).run P w = .ok (.enter f vargs) w) (hc : ACall P f ys r T) (hZ0 : ∀ b, Z0 b → b < w.heap.size) (hargs : RepL (cxA w Z0) ys vargs.toList)
    (hmode : (∀ b, Z0 b → cx.Z b) ∨ (r.noSl = true ∧ ∀ T0, T = some T0 → noSlL T0.cs = true)) (hr : (back N o.dst st r T).Runs P s s') (hn : Nx N F (fun g => cx.U g ∨ g = st) s' next) : o.wp P a w next Q := by
  unfold Oper.wp
  rw [hrun, Oper.upon_enter]
  refine (hc.2 w vargs Z0 hZ0 hargs).mono ?_
  rintro e w' ⟨v, cx', rfl, hret, hv⟩
  have hcd := hs.called hret
  have hzz : ∀ x : AV, (r.noSl = true ∧ (∀ T0, T = some T0 → noSlL T0.cs = true) → x.noSl = true) → (∀ b, cx'.Z b → (cx.called w cx' w').Z b ∧ (cx.called w cx' w').h[b]? = cx'.h[b]?) ∨ x.noSl = true := by
    intro x hx
    rcases hmode with hm | hm
    · left
      intro b hb
      refine ⟨?_, by show w'.heap[b]? = _; rw [hret.h]⟩
      rcases hret.Znew b hb with h | h
      · exact .inl (hm b h)
      · exact .inr ⟨hb, h⟩
    · exact .inr (hx hm)
  cases T with
  | none =>
    unfold back at hr
    simp only at hr
    split at hr
    · rename_i hcl
      have hv' : Rep (cx.called w cx' w') r v := hv.move hcl (hzz r fun h => h.1)
      unfold out at hr
      cases hd : o.dst with
      | none =>
        rw [hd] at hr
        cases hr
        exact hn _ _ (Sim.moreU ⟨_, rfl, hcd.2⟩ fun g hg => .inl hg)
      | some d =>
        rw [hd] at hr
        simp only at hr
        split at hr
        · rename_i hlt
          cases hr
          rename_i hr
          cases hr
          exact hn _ _ (Sim.moreU ⟨_, rfl, hcd.2.putE hlt hv'⟩ fun g hg => .inl hg)
        · cases hr
    · cases hr
  | some T0 =>
    obtain ⟨t1, t2, t3⟩ := hret.tok T0 rfl
    unfold back at hr
    cases hd : o.dst with
    | none => rw [hd] at hr; cases hr
    | some d =>
      rw [hd] at hr
      simp only at hr
      split at hr
      · rename_i hlt
        cases hr
        rename_i hr
        cases hr
        rename_i hr
        cases hr
        have hgain := hcd.2.gains d { T0 with g := st } (cx'.ρ 0) hst (fun h => t2 h) (fun k hk => by
            obtain ⟨q1, q2, q3⟩ := t3 k hk
            refine q1.move st (fun i x v hx hv => ?_) (by show w'.heap[k]? = _; rfl)
            refine noRow_closed hv ?_
            rcases hzz x (fun h => noSlL_get (h.2 T0 rfl) hx) with h | h
            · left; intro b hb; exact ⟨(h b hb).1, by rw [(h b hb).2, hret.h]⟩
            · exact .inr h)
          (fun k hk => by
            obtain ⟨q1, q2, q3⟩ := t3 k hk
            refine ⟨fun hz => ?_, fun hp => ?_, fun t T' e1 e2 => ?_⟩
            · rcases hz with hz | ⟨hz, _⟩
              · have := hs.Zlt k hz; omega
              · exact q3 hz
            · have := (hs.prot k hp).1; have := hs.grow; omega
            · have := hs.blk e1 e2; omega)
        have hv' : Rep ((cx.called w cx' w').newTok w' d (cx'.ρ 0) { T0 with g := st }) (r.ren d st) v := by
          refine hv.ren d st T0 hret.tk t1 (by simp [Cx.newTok]) (by simp [Cx.newTok]) (.inr rfl) (fun b hb => by show w'.heap[b]? = _; rw [hret.h]) ?_
          rcases hzz r (fun h => h.1) with h | h
          · left; intro b hb; exact ⟨(h b hb).1, (h b hb).2⟩
          · exact .inr h
        exact hn _ _ ⟨_, rfl, hgain.2.putE hlt hv'⟩
      · cases hr

theorem snd_callV {o : Oper} {st : Nat} {c : Call} {f : Operand} (ho : o.op = .call c) (hc : c.callee = .value f) : Snd P N st o := by
  intro F s s' cx a w next Q hr hst hs hn
  unfold aop at hr; rw [ho] at hr
  obtain ⟨xs, hr, hxs⟩ := evL_runs hs hr
  rw [hc] at hr
  obtain ⟨f', hr, hf⟩ := ev_runs hs hr
  unfold callV at hr
  cases f' with
  | fn fid caps =>
    obtain ⟨vs, ef, hcaps⟩ := rep_fn hf
    have hall : RepL cx (xs ++ caps) (c.args.toList.map a.eval ++ vs.toList) := RepL.append hxs hcaps
    have hrun : Ent P fid → (execOp a.eval o).run P w = .ok (.enter fid (c.args.map a.eval ++ vs)) w := by
      rintro ⟨fn, cc, e1, e2, e3⟩
      simp only [execOp, ho, resolve, hc, ef, Deferred.ofValue, invoke, pure_bind, Array.empty_append]
      have e3' : ¬ fn.name = "runtime.NumGoroutine" := by simpa using e3
      simp [callFunc, e1, e2, e3']
    have htl : (c.args.map a.eval ++ vs).toList = c.args.toList.map a.eval ++ vs.toList := by simp
    simp only at hr
    split at hr
    · rename_i hcl
      cases hr with
      | call _ _ _ _ _ _ _ _ r T hac hb hr => exact call_done hs hst (hrun hac.1) hac (Z0 := cx.Z) hs.Zlt (by rw [htl]; exact args_closed hs hall hcl) (.inl fun b h => h) hr hn
    · obtain ⟨ys, hr, hys⟩ := reifyA_runs hs hall hr
      cases hr with
      | call _ _ _ _ _ _ _ _ r T hac hb hr => exact call_done hs hst (hrun hac.1) hac (Z0 := allB w) (fun b h => h) (by rw [htl]; exact hys) (.inr (hb rfl)) hr hn
  | _ => cases hr
end Go.Eng
