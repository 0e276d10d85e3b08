/- The engine, part 13: states written out; a function's entry and its end. For every program. -/
import Derived.Test.YtbkmbiccdhnibaaE12
set_option linter.unusedVariables false
namespace Go.Eng
open Go.RowKit

variable {P : Program} {N : Nat} {F : Fr} {s s' : AS} {cx : Cx} {a : Act} {w : World}

/-! ### States, written out -/
@[reducible] def lkE : List (Nat × AV) → Nat → AV
  | [], _ => .dead
  | (j, x) :: r, i => match Nat.beq i j with
    | true => x
    | false => lkE r i
@[reducible] def lkT : List (Nat × Tok) → Nat → Option Tok
  | [], _ => none
  | (j, T) :: r, i => match Nat.beq i j with
    | true => some T
    | false => lkT r i
theorem lkE_cons (j : Nat) (x : AV) (r : List (Nat × AV)) (i : Nat) : lkE ((j, x) :: r) i = if i = j then x else lkE r i := by
  show (match Nat.beq i j with | true => x | false => lkE r i) = _
  by_cases h : i = j
  · subst h; simp
  · rw [if_neg h]
    have : Nat.beq i j = false := by
      cases e : Nat.beq i j with
      | false => rfl
      | true => exact absurd (Nat.eq_of_beq_eq_true e) h
    rw [this]
theorem lkT_cons (j : Nat) (x : Tok) (r : List (Nat × Tok)) (i : Nat) : lkT ((j, x) :: r) i = if i = j then some x else lkT r i := by
  show (match Nat.beq i j with | true => some x | false => lkT r i) = _
  by_cases h : i = j
  · subst h; simp
  · rw [if_neg h]
    have : Nat.beq i j = false := by
      cases e : Nat.beq i j with
      | false => rfl
      | true => exact absurd (Nat.eq_of_beq_eq_true e) h
    rw [this]
/-- The value itself, looked at. -/
def lkF (l : List (Nat × AV)) (i : Nat) : AV :=
  match lkE l i with
  | .bool b => .bool b
  | .int k n => .int k n
  | .str l => .str l
  | .nilS => .nilS
  | .nilP => .nilP
  | .em b => .em b
  | .sl n cs => .sl n cs
  | .own t g off n => .own t g off n
  | .arr t g off n => .arr t g off n
  | .addr t g off => .addr t g off
  | .ptr cs off => .ptr cs off
  | .fn f caps => .fn f caps
  | .agg cs => .agg cs
  | .tup cs => .tup cs
  | .dead => .dead
theorem lkF_eq (l : List (Nat × AV)) (i : Nat) : lkF l i = lkE l i := by unfold lkF; cases lkE l i <;> rfl
def lkG (l : List (Nat × Tok)) (i : Nat) : Option Tok :=
  match lkT l i with
  | some T => some T
  | none => none
theorem lkG_eq (l : List (Nat × Tok)) (i : Nat) : lkG l i = lkT l i := by unfold lkG; cases lkT l i <;> rfl
def mkS (l : List (Nat × AV)) (t : List (Nat × Tok)) (nx : Nat) : AS := ⟨lkE l, lkT t, nx⟩
theorem mkS_env (l : List (Nat × AV)) (t : List (Nat × Tok)) (nx i : Nat) : (mkS l t nx).env i = lkF l i := (lkF_eq l i).symm
theorem mkS_tk (l : List (Nat × AV)) (t : List (Nat × Tok)) (nx i : Nat) : (mkS l t nx).tk i = lkG t i := (lkG_eq t i).symm
theorem mkS_nx (l : List (Nat × AV)) (t : List (Nat × Tok)) (nx : Nat) : (mkS l t nx).nx = nx := _root_.id rfl
theorem mkS_setE (l : List (Nat × AV)) (t : List (Nat × Tok)) (nx i : Nat) (x : AV) : (mkS l t nx).setE i x = mkS ((i, x) :: l) t nx := by
  simp only [mkS, AS.setE, AS.mk.injEq, and_true]
  funext j
  rw [lkE_cons]
theorem mkS_setT (l : List (Nat × AV)) (t : List (Nat × Tok)) (nx i : Nat) (T : Tok) : (mkS l t nx).setT i T = mkS l ((i, T) :: t) nx := by
  simp only [mkS, AS.setT, AS.mk.injEq, true_and, and_true]
  funext j
  rw [lkT_cons]
theorem mkS_bump (l : List (Nat × AV)) (t : List (Nat × Tok)) (nx n : Nat) : (mkS l t nx).bump n = mkS l t (nx + n) := _root_.id rfl
theorem lkE_nil (i : Nat) : lkE [] i = .dead := rfl
theorem lkT_nil (i : Nat) : lkT [] i = none := rfl

/-! ### Less is told -/
inductive Sub : AV → AV → Prop
  | refl (x : AV) : Sub x x
  | nil : Sub .nilS (.sl 0 [])
  | em (b : Bool) : Sub (.em b) (.sl 0 [])
  | dead (x : AV) : Sub x .dead
  | agg (cs ds : List AV) (hl : cs.length = ds.length) (h : ∀ (i : Nat) (x y : AV), cs[i]? = some x → ds[i]? = some y → Sub x y) : Sub (.agg cs) (.agg ds)
  | tup (cs ds : List AV) (hl : cs.length = ds.length) (h : ∀ (i : Nat) (x y : AV), cs[i]? = some x → ds[i]? = some y → Sub x y) : Sub (.tup cs) (.tup ds)
  | sl (n : Nat) (cs ds : List AV) (hl : cs.length = ds.length) (h : ∀ (i : Nat) (x y : AV), cs[i]? = some x → ds[i]? = some y → Sub x y) : Sub (.sl n cs) (.sl n ds)
theorem Sub.of_eq {x y : AV} (h : x = y) : Sub x y := h ▸ .refl x
theorem Rep.sub {x y : AV} (h : Sub x y) : ∀ {v : Value}, Rep cx x v → Rep cx y v := by
  induction h with
  | refl x => exact id
  | nil => intro v h; cases h; exact .sl0 _ _
  | em b => intro v h; cases h; exact .sl0 _ _
  | dead x => intro v h; exact .dead v
  | agg cs ds hl h ih =>
    intro v hv
    obtain ⟨vs, rfl, h1, h2⟩ := rep_agg hv
    refine rep_mkagg ⟨by rw [← hl]; exact h1.1, fun i y u hy hu => ?_⟩ h2
    have hi : i < cs.length := by rw [hl]; exact (List.getElem?_eq_some_iff.1 hy).1
    exact ih i _ y (List.getElem?_eq_getElem hi) hy (h1.2 i _ u (List.getElem?_eq_getElem hi) hu)
  | tup cs ds hl h ih =>
    intro v hv
    obtain ⟨vs, rfl, h1⟩ := rep_tup hv
    refine rep_mktup ⟨by rw [← hl]; exact h1.1, fun i y u hy hu => ?_⟩
    have hi : i < cs.length := by rw [hl]; exact (List.getElem?_eq_some_iff.1 hy).1
    exact ih i _ y (List.getElem?_eq_getElem hi) hy (h1.2 i _ u (List.getElem?_eq_getElem hi) hu)
  | sl n cs ds hl h ih =>
    intro v hv
    cases hv with
    | sl0 a c =>
      have : ds = [] := by cases ds with | nil => rfl | cons => simp at hl
      subst this; exact .sl0 a c
    | sl _ _ ad c arr el fz hz hb hs hn hl' h1 h2 =>
      refine .sl n ds ad c arr el fz hz hb hs hn (by rw [← hl]; exact hl') (fun i v hi hv => h1 i v (by rw [hl]; exact hi) hv) fun i y u hy hu => ?_
      have hi : i < cs.length := by rw [hl]; exact (List.getElem?_eq_some_iff.1 hy).1
      exact ih i _ y (List.getElem?_eq_getElem hi) hy (h2 i _ u (List.getElem?_eq_getElem hi) hu)
def SubL : List AV → List AV → Prop
  | [], [] => True
  | x :: r, y :: q => Sub x y ∧ SubL r q
  | _, _ => False
theorem SubL.get : ∀ {cs ds : List AV}, SubL cs ds → cs.length = ds.length ∧ ∀ (i : Nat) (x y : AV), cs[i]? = some x → ds[i]? = some y → Sub x y
  | [], [], _ => ⟨rfl, fun i x y h => by simp at h⟩
  | x :: r, y :: q, h => by
    obtain ⟨h1, h2⟩ := SubL.get h.2
    refine ⟨by simp [h1], fun i u v hu hv => ?_⟩
    cases i with
    | zero => simp at hu hv; subst hu; subst hv; exact h.1
    | succ i => exact h2 i u v (by simpa using hu) (by simpa using hv)
  | [], _ :: _, h => h.elim
  | _ :: _, [], h => h.elim
theorem SubL.refl : ∀ (cs : List AV), SubL cs cs
  | [] => trivial
  | x :: r => ⟨.refl x, SubL.refl r⟩
def leE (l : List (Nat × AV)) : List (Nat × AV) → Prop
  | [] => True
  | (i, x) :: r => Sub (lkE l i) x ∧ leE l r
def leT (t : List (Nat × Tok)) : List (Nat × Tok) → Prop
  | [] => True
  | (i, T') :: r => (∃ T, lkT t i = some T ∧ T.g = T'.g ∧ T.sz = T'.sz ∧ SubL T.cs T'.cs) ∧ leT t r
theorem leE_get {l : List (Nat × AV)} : ∀ {l' : List (Nat × AV)}, leE l l' → ∀ i, Sub (lkE l i) (lkE l' i)
  | [], _, i => .dead _
  | (j, x) :: r, h, i => by
    rw [lkE_cons]
    by_cases e : i = j
    · subst e; rw [if_pos rfl]; exact h.1
    · rw [if_neg e]; exact leE_get h.2 i
theorem leT_get {t : List (Nat × Tok)} : ∀ {t' : List (Nat × Tok)}, leT t t' → ∀ i T', lkT t' i = some T' → ∃ T, lkT t i = some T ∧ T.g = T'.g ∧ T.sz = T'.sz ∧ SubL T.cs T'.cs
  | [], _, i, T', h => by cases h
  | (j, x) :: r, h, i, T', h' => by
    rw [lkT_cons] at h'
    split at h'
    · rename_i e; cases h'; subst e; exact h.1
    · exact leT_get h.2 i T' h'
theorem le_mk {l l' : List (Nat × AV)} {t t' : List (Nat × Tok)} {nx nx' : Nat} (hE : leE l l') (hT : leT t t') (hn : nx ≤ nx') : Le N (mkS l t nx) (mkS l' t' nx') := by
  rintro F a w ⟨cx, hU, h⟩
  let cx' : Cx := { cx with tk := lkT t', U := fun g => g < nx' }
  have htk : cx.tk = lkT t := h.tk
  have hTr : Tr cx cx' := by
    refine ⟨fun b hb => ⟨hb, rfl⟩, fun g hg => ?_, fun i T' e _ => ?_, fun i T b arr el fz _ _ e => ⟨arr, el, fz, e, Nat.le_refl _⟩⟩
    · show g < nx'
      rw [hU] at hg
      exact Nat.lt_of_lt_of_le hg hn
    · obtain ⟨T, e1, e2, e3, _⟩ := leT_get hT i T' e
      exact ⟨T, by rw [htk]; exact e1, e2, e3, rfl⟩
  refine ⟨cx', rfl, { h := h.h, tk := rfl, size := h.size, defers := h.defers, env := fun i hi => ((h.env i hi).sub (leE_get hE i)).tr hTr, none_ := fun i T' e1 e2 => ?_, row := fun i T' b e1 e2 => ?_, stamp := fun i T' e => ?_, inj := fun i j T T' b e1 e2 e3 e4 => ?_, apart := fun i T' b e1 e2 => ?_, free := fun i T' b e1 e2 => ?_, Zlt := h.Zlt, Z0 := h.Z0, Znew := h.Znew, os := h.os, tape := h.tape, output := h.output, grow := h.grow, prot := h.prot }⟩
  · obtain ⟨T, f1, f2, f3, f4⟩ := leT_get hT i T' e1
    have := h.none_ i T (by rw [htk]; exact f1) e2
    have hl := f4.get.1
    rw [this] at hl
    exact List.eq_nil_of_length_eq_zero hl.symm
  · obtain ⟨T, f1, f2, f3, f4⟩ := leT_get hT i T' e1
    obtain ⟨arr, el, fz, g1, g2, g3, g4, g5⟩ := h.row i T b (by rw [htk]; exact f1) e2
    obtain ⟨q1, q2⟩ := f4.get
    refine ⟨arr, el, fz, g1, g2, g3, by rw [← q1]; exact g4, fun j x v hx hv => ?_⟩
    have hj : j < T.cs.length := by rw [q1]; exact (List.getElem?_eq_some_iff.1 hx).1
    exact ((g5 j _ v (List.getElem?_eq_getElem hj) hv).sub (q2 j _ x (List.getElem?_eq_getElem hj) hx)).tr hTr
  · obtain ⟨T, f1, f2, f3, f4⟩ := leT_get hT i T' e
    have := h.stamp i T (by rw [htk]; exact f1)
    rw [f2] at this
    exact hTr.U _ this
  · obtain ⟨Ta, f1, _⟩ := leT_get hT i T e1
    obtain ⟨Tb, f2, _⟩ := leT_get hT j T' e2
    exact h.inj i j Ta Tb b (by rw [htk]; exact f1) (by rw [htk]; exact f2) e3 e4
  · obtain ⟨Ta, f1, _⟩ := leT_get hT i T' e1
    exact h.apart i Ta b (by rw [htk]; exact f1) e2
  · obtain ⟨Ta, f1, _⟩ := leT_get hT i T' e1
    exact h.free i Ta b (by rw [htk]; exact f1) e2
theorem run_keep {l l' : List (Nat × AV)} {t t' : List (Nat × Tok)} {nx nx' : Nat} {k : List It} {Q : AS → Prop} (hE : leE l l') (hT : leT t t') (hn : nx ≤ nx') (h : Run P N k Q (mkS l' t' nx')) : Run P N k Q (mkS l t nx) :=
  run_le (le_mk hE hT hn) h

/-- A nil slice in a slot is a row of one's own that is none yet. -/
theorem run_lazy {l : List (Nat × AV)} {t : List (Nat × Tok)} {nx : Nat} {k : List It} {Q : AS → Prop} (i d sz : Nat) (hi : lkE l i = .nilS) (h : Run P N k Q (mkS ((i, .own d nx 0 0) :: l) ((d, ⟨nx, sz, []⟩) :: t) (nx + 1))) : Run P N k Q (mkS l t nx) := by
  refine run_le ?_ h
  rintro F a w ⟨cx, hU, hc⟩
  have hst : ¬ cx.U nx := by rw [hU]; exact Nat.lt_irrefl nx
  have hk := hc.lazyTok d ⟨nx, sz, []⟩ w rfl rfl rfl rfl hst rfl
  have hU' : ∀ g, (cx.newTok w d none ⟨nx, sz, []⟩).U g → g < nx + 1 := by
    intro g hg
    rcases hg with hg | hg
    · rw [hU] at hg; exact Nat.lt_succ_of_lt hg
    · rw [hg]; exact Nat.lt_succ_self nx
  refine Sim.moreU ⟨_, rfl, ?_⟩ hU'
  refine { hk.2 with tk := by rw [hk.2.tk, mkS_setT]; rfl, env := fun j hj => ?_ }
  show Rep _ (lkE ((i, .own d nx 0 0) :: l) j) _
  rw [lkE_cons]
  split
  · rename_i e
    subst e
    have hr := hc.env j hj
    have hr' : Rep cx .nilS (a.tmps.getD j undef) := by rw [← hi]; exact hr
    cases hv : a.tmps.getD j undef with
    | slice p n c => rw [hv] at hr'; cases hr'; exact .own d nx 0 0 none 0 (.inr rfl) (Nat.le_refl _) fun T hT hg => .inl ⟨rfl, rfl⟩
    | _ => rw [hv] at hr'; cases hr'
  · exact hk.2.env j hj

/-! ### A function's end -/
def loadV (P : Program) (t : TypeId) (x : AV) (s : AS) : Option AV :=
  match x with
  | .addr tk g off => (match s.tk tk with
    | some T => if T.g = g then ldV P t T.cs off else none
    | none => none)
  | .ptr cs off => ldV P t cs off
  | _ => none
def resV (P : Program) (N : Nat) (s : AS) : List ResultVar → Option (List AV)
  | [] => some []
  | .tmp t :: r => if t < N then (resV P N s r).map (s.env t :: ·) else none
  | .cell t ty :: r => if t < N then (match loadV P ty (s.env t) s, resV P N s r with
    | some x, some xs => some (x :: xs)
    | _, _ => none) else none
/-- A value, as the caller sees it: row t0 (if any) comes along as row 0. -/
def outC (s : AS) (t0 : Option Nat) (x : AV) : Option AV :=
  match x with
  | .nilS => some .nilS
  | .own t g off n => (match s.tk t with
    | some T => if T.g = g then (if t0 = some t then some (.own 0 0 off n) else if closedL ((T.cs.drop off).take (n * T.sz)) = true then some (.sl n ((T.cs.drop off).take (n * T.sz))) else none) else none
    | none => none)
  | .addr t g off => (match s.tk t with
    | some T => if T.g = g then (if t0 = some t then some (.addr 0 0 off) else if closedL T.cs = true then some (.ptr T.cs off) else none) else none
    | none => none)
  | x => if x.closed = true then some x else none
def outL (s : AS) (t0 : Option Nat) : List AV → Option (List AV)
  | [] => some []
  | x :: r => match outC s t0 x, outL s t0 r with
    | some y, some ys => some (y :: ys)
    | _, _ => none
def outV (s : AS) (t0 : Option Nat) (x : AV) : Option AV :=
  match x with
  | .agg cs => (outL s t0 cs).map .agg
  | x => outC s t0 x
def outA (s : AS) (t0 : Option Nat) : List AV → Option (List AV)
  | [] => some []
  | x :: r => match outV s t0 x, outA s t0 r with
    | some y, some ys => some (y :: ys)
    | _, _ => none
def pack : List AV → AV
  | [x] => x
  | xs => .tup xs
/-- The end is what the contract says. -/
def Done (P : Program) (N : Nat) (res : List ResultVar) (t0 : Option Nat) (r : AV) (T : Option Tok) (s : AS) : Prop :=
  ∃ xs ys, resV P N s res = some xs ∧ outA s t0 xs = some ys ∧ Sub (pack ys) r ∧
    match t0 with
    | none => T = none
    | some t => ∃ T0, s.tk t = some T0 ∧ closedL T0.cs = true ∧ T = some ⟨0, T0.sz, T0.cs⟩

/-- The blocks that the caller may read: what was handed in, and what is new but the row that comes along. -/
def outZ (cx : Cx) (w0 : World) (Z0 : Nat → Prop) (w : World) (t0 : Option Nat) (b : Nat) : Prop :=
  b < w.heap.size ∧ (Z0 b ∨ w0.heap.size ≤ b) ∧ ∀ t, t0 = some t → cx.ρ t ≠ some b
def outCx (cx : Cx) (w0 : World) (Z0 : Nat → Prop) (w : World) (t0 : Option Nat) (T : Option Tok) : Cx :=
  { h := w.heap, Z := outZ cx w0 Z0 w t0, ρ := fun _ => match t0 with | some t => cx.ρ t | none => none, tk := fun i => if i = 0 then T else none, U := fun g => g = 0 }

theorem out_move (h : SimC N F s cx a w) {t0 : Option Nat} {T : Option Tok} (ht0 : ∀ t, t0 = some t → ∃ T0, cx.tk t = some T0) {x : AV} {v : Value} (hx : Rep cx x v) (hc : x.closed = true) : Rep (outCx cx F.w0 F.Z0 w t0 T) x v := by
  refine hx.move hc (.inl fun b hb => ⟨⟨h.Zlt b hb, h.Znew b hb, fun t e1 e2 => ?_⟩, by show w.heap[b]? = _; rw [h.h]⟩)
  obtain ⟨T0, e3⟩ := ht0 t e1
  exact h.apart t T0 b e3 e2 hb
theorem row_out (h : SimC N F s cx a w) (hprot : ∀ b, b < F.w0.heap.size → F.prot b) {t0 : Option Nat} (ht0 : ∀ t, t0 = some t → ∃ T0, cx.tk t = some T0) {t b : Nat} {T0 : Tok} (e1 : cx.tk t = some T0) (e2 : cx.ρ t = some b) (hne : t0 ≠ some t) :
    outZ cx F.w0 F.Z0 w t0 b := by
  refine ⟨h.blk e1 e2, .inr ?_, fun t' e3 e4 => ?_⟩
  · rcases Nat.lt_or_ge b F.w0.heap.size with hlt | hge
    · exact absurd (hprot b hlt) (h.free t T0 b e1 e2)
    · exact hge
  · obtain ⟨T1, e5⟩ := ht0 t' e3
    have := h.inj t' t T1 T0 b e5 e1 e4 e2
    exact hne (by rw [e3, this])
theorem outC_rep (h : SimC N F s cx a w) (hprot : ∀ b, b < F.w0.heap.size → F.prot b) {t0 : Option Nat} {T : Option Tok} (ht0 : ∀ t, t0 = some t → ∃ T0, cx.tk t = some T0 ∧ T = some ⟨0, T0.sz, T0.cs⟩) {x y : AV} {v : Value} (hx : Rep cx x v)
    (hy : outC s t0 x = some y) : Rep (outCx cx F.w0 F.Z0 w t0 T) y v := by
  have ht0' : ∀ t, t0 = some t → ∃ T0, cx.tk t = some T0 := fun t e => let ⟨T0, h1, _⟩ := ht0 t e; ⟨T0, h1⟩
  unfold outC at hy
  cases x with
  | nilS => cases hy; cases hx; exact .nilS
  | own t g off n =>
    simp only [← h.tk] at hy
    cases e1 : cx.tk t with
    | none => rw [e1] at hy; cases hy
    | some T0 =>
      rw [e1] at hy
      simp only at hy
      split at hy
      · rename_i hg
        cases hx with
        | own _ _ _ _ p c hU hnc hh =>
          split at hy
          · rename_i hteq
            cases hy
            obtain ⟨T1, f1, f2⟩ := ht0 t hteq
            rw [e1] at f1
            cases f1
            refine .own 0 0 off n p c rfl hnc fun T' hT _ => ?_
            have hT1 : T' = ⟨0, T0.sz, T0.cs⟩ := by
              simp only [outCx, if_true, f2] at hT
              cases hT; rfl
            subst hT1
            rcases hh T0 e1 hg with h0 | ⟨b, arr, el, fz, g1, g2, g3, g4⟩
            · exact .inl h0
            · refine .inr ⟨b, arr, el, fz, by simp [outCx, hteq, g1], g2, ?_, g4⟩
              show w.heap[b]? = _
              rw [← h.h]; exact g3
          · rename_i hteq
            split at hy
            · rename_i hcl
              cases hy
              rcases hh T0 e1 hg with ⟨h0, hc0⟩ | ⟨b, arr, el, fz, g1, g2, g3, g4⟩
              · subst h0; simp; exact .sl0 _ _
              · obtain ⟨arr', el', fz', f1, f2, f3, f4, f5⟩ := h.row t T0 b e1 g1
                rw [g3] at f1
                cases f1
                subst g2
                have hlen : off + ((T0.cs.drop off).take (n * T0.sz)).length ≤ arr.size := by
                  have : n * T0.sz ≤ c * T0.sz := Nat.mul_le_mul_right _ hnc
                  simp only [List.length_take, List.length_drop]
                  omega
                refine .sl n _ _ c arr el fz (row_out h hprot ht0' e1 g1 hteq) ?_ rfl hnc hlen (fun i v _ hv => f3 _ v hv) fun i x v hx hv => ?_
                · show w.heap[b]? = _
                  rw [← h.h]; exact g3
                · have hx' := hx
                  rw [List.getElem?_take, List.getElem?_drop] at hx
                  split at hx
                  · exact out_move h ht0' (f5 _ x v hx hv) (closedL_get hcl hx')
                  · cases hx
            · cases hy
      · cases hy
  | addr t g off =>
    simp only [← h.tk] at hy
    cases e1 : cx.tk t with
    | none => rw [e1] at hy; cases hy
    | some T0 =>
      rw [e1] at hy
      simp only at hy
      split at hy
      · rename_i hg
        cases hx with
        | addr _ _ _ ad hU hh =>
          obtain ⟨b, g1, rfl⟩ := hh T0 e1 hg
          split at hy
          · rename_i hteq
            cases hy
            exact .addr 0 0 off _ rfl fun T' hT _ => ⟨b, by simp [outCx, hteq, g1], rfl⟩
          · rename_i hteq
            split at hy
            · rename_i hcl
              cases hy
              obtain ⟨arr, el, fz, f1, f2, f3, f4, f5⟩ := h.row t T0 b e1 g1
              refine .ptr T0.cs off _ 0 arr el fz (row_out h hprot ht0' e1 g1 hteq) ?_ rfl (by simp) (by omega) (fun i v _ hv => f3 _ v hv) fun i x v hx hv => out_move h ht0' (f5 i x v hx (by simpa using hv)) (closedL_get hcl hx)
              show w.heap[b]? = _
              rw [← h.h]; exact f1
            · cases hy
      · cases hy
  | _ =>
    simp only at hy
    split at hy
    · rename_i hc; cases hy; exact out_move h ht0' hx hc
    · cases hy
theorem outL_rep (h : SimC N F s cx a w) (hprot : ∀ b, b < F.w0.heap.size → F.prot b) {t0 : Option Nat} {T : Option Tok} (ht0 : ∀ t, t0 = some t → ∃ T0, cx.tk t = some T0 ∧ T = some ⟨0, T0.sz, T0.cs⟩) : ∀ {xs ys : List AV} {vs : List Value}, RepL cx xs vs →
    outL s t0 xs = some ys → RepL (outCx cx F.w0 F.Z0 w t0 T) ys vs
  | [], ys, vs, hx, hy => by cases hy; have := hx.1; simp at this; rw [List.eq_nil_of_length_eq_zero this.symm]; exact RepL.nil _
  | x :: xs, ys, vs, hx, hy => by
    obtain ⟨v, vs', rfl, h1, h2⟩ := hx.uncons
    unfold outL at hy
    cases e1 : outC s t0 x with
    | none => rw [e1] at hy; cases hy
    | some y =>
      rw [e1] at hy
      cases e2 : outL s t0 xs with
      | none => rw [e2] at hy; cases hy
      | some ys' => rw [e2] at hy; cases hy; exact .cons (outC_rep h hprot ht0 h1 e1) (outL_rep h hprot ht0 h2 e2)
theorem outV_rep (h : SimC N F s cx a w) (hprot : ∀ b, b < F.w0.heap.size → F.prot b) {t0 : Option Nat} {T : Option Tok} (ht0 : ∀ t, t0 = some t → ∃ T0, cx.tk t = some T0 ∧ T = some ⟨0, T0.sz, T0.cs⟩) {x y : AV} {v : Value} (hx : Rep cx x v)
    (hy : outV s t0 x = some y) : Rep (outCx cx F.w0 F.Z0 w t0 T) y v := by
  unfold outV at hy
  cases x with
  | agg cs =>
    obtain ⟨vs, rfl, h1, h2⟩ := rep_agg hx
    simp only at hy
    cases e : outL s t0 cs with
    | none => rw [e] at hy; cases hy
    | some ys => rw [e] at hy; cases hy; exact rep_mkagg (outL_rep h hprot ht0 h1 e) h2
  | _ => exact outC_rep h hprot ht0 hx hy
theorem outA_rep (h : SimC N F s cx a w) (hprot : ∀ b, b < F.w0.heap.size → F.prot b) {t0 : Option Nat} {T : Option Tok} (ht0 : ∀ t, t0 = some t → ∃ T0, cx.tk t = some T0 ∧ T = some ⟨0, T0.sz, T0.cs⟩) : ∀ {xs ys : List AV} {vs : List Value}, RepL cx xs vs →
    outA s t0 xs = some ys → RepL (outCx cx F.w0 F.Z0 w t0 T) ys vs
  | [], ys, vs, hx, hy => by cases hy; have := hx.1; simp at this; rw [List.eq_nil_of_length_eq_zero this.symm]; exact RepL.nil _
  | x :: xs, ys, vs, hx, hy => by
    obtain ⟨v, vs', rfl, h1, h2⟩ := hx.uncons
    unfold outA at hy
    cases e1 : outV s t0 x with
    | none => rw [e1] at hy; cases hy
    | some y =>
      rw [e1] at hy
      cases e2 : outA s t0 xs with
      | none => rw [e2] at hy; cases hy
      | some ys' => rw [e2] at hy; cases hy; exact .cons (outV_rep h hprot ht0 h1 e1) (outA_rep h hprot ht0 h2 e2)
def resF (tmps : Array Value) : ResultVar → Sem Value
  | .tmp t => pure (tmps.getD t undef)
  | .cell c t => do loadVar t (← asAddr (tmps.getD c undef))
theorem results_eq (fn : Func) (tmps : Array Value) : results fn tmps = (do
    let vs ← fn.results.mapM (resF tmps)
    pure (if h : vs.size = 1 then vs[0] else .tuple vs)) := rfl
theorem resV_run (h : SimC N F s cx a w) : ∀ {res : List ResultVar} {xs : List AV}, resV P N s res = some xs → ∃ vs : List Value, (res.mapM (resF a.tmps)).run P w = .ok vs w ∧ RepL cx xs vs
  | [], xs, hx => by cases hx; exact ⟨[], by simp, RepL.nil _⟩
  | .tmp t :: r, xs, hx => by
    unfold resV at hx
    split at hx
    · rename_i hlt
      cases e : resV P N s r with
      | none => rw [e] at hx; cases hx
      | some ys =>
        rw [e] at hx
        cases hx
        obtain ⟨vs, h1, h2⟩ := resV_run h e
        refine ⟨a.tmps.getD t undef :: vs, ?_, .cons (h.env t hlt) h2⟩
        rw [List.mapM_cons]
        simp only [resF, Sem.run_bind, Sem.run_pure, Result.andThen_ok, h1]
    · cases hx
  | .cell c ty :: r, xs, hx => by
    unfold resV at hx
    split at hx
    · rename_i hlt
      cases e0 : loadV P ty (s.env c) s with
      | none => rw [e0] at hx; cases hx
      | some y =>
        rw [e0] at hx
        cases e : resV P N s r with
        | none => rw [e] at hx; cases hx
        | some ys =>
          rw [e] at hx
          cases hx
          obtain ⟨vs, h1, h2⟩ := resV_run h e
          have hr := h.env c hlt
          have hv : ∃ v, (do loadVar ty (← asAddr (a.tmps.getD c undef)) : Sem Value).run P w = .ok v w ∧ Rep cx y v := by
            unfold loadV at e0
            cases hx' : s.env c with
            | addr tk g off =>
              rw [hx'] at e0 hr
              simp only [← h.tk] at e0
              cases e1 : cx.tk tk with
              | none => rw [e1] at e0; cases e0
              | some T =>
                rw [e1] at e0
                simp only at e0
                split at e0
                · rename_i hg
                  cases hp : a.tmps.getD c undef with
                  | pointer p =>
                    rw [hp] at hr
                    cases hr with
                    | addr _ _ _ ad hU hh =>
                      obtain ⟨b, g1, rfl⟩ := hh T e1 hg
                      obtain ⟨arr, el, fz, f1, f2, f3, f4, f5⟩ := h.row tk T b e1 g1
                      rw [h.h] at f1
                      obtain ⟨v, q1, q2⟩ := ld_val (P := P) (base := 0) e0 f1 (by omega) (fun i v _ hv => f3 _ v hv) (fun i x v hx hv => f5 i x v hx (by simpa using hv))
                      rw [Nat.zero_add] at q1
                      exact ⟨v, by simp [asAddr, q1], q2⟩
                  | _ => rw [hp] at hr; cases hr
                · cases e0
            | ptr cs off =>
              rw [hx'] at e0 hr
              cases hp : a.tmps.getD c undef with
              | pointer p =>
                rw [hp] at hr
                cases hr with
                | ptr _ _ ad base arr el fz hz hb hsp ho hl h1 h2 =>
                  rw [h.h] at hb
                  obtain ⟨v, q1, q2⟩ := ld_val (P := P) e0 hb hl h1 h2
                  have : ad = ⟨ad.block, base + off, none⟩ := by cases ad; simp_all
                  rw [← this] at q1
                  exact ⟨v, by simp [asAddr, q1], q2⟩
              | _ => rw [hp] at hr; cases hr
            | _ => rw [hx'] at e0; cases e0
          obtain ⟨v, h3, h4⟩ := hv
          refine ⟨v :: vs, ?_, .cons h4 h2⟩
          rw [List.mapM_cons]
          simp only [Sem.run_bind] at h3
          simp only [resF, Sem.run_bind, h3, Result.andThen_ok, h1, Sem.run_pure]
    · cases hx
theorem pack_rep {xs : List AV} {vs : List Value} (h : RepL cx xs vs) : Rep cx (pack xs) (if h : vs.toArray.size = 1 then vs.toArray[0] else .tuple vs.toArray) := by
  cases xs with
  | nil =>
    have : vs = [] := by have := h.1; simp at this; exact List.eq_nil_of_length_eq_zero this.symm
    subst this
    exact rep_mktup (by simpa using h)
  | cons x xs =>
    obtain ⟨v, vs', rfl, h1, h2⟩ := h.uncons
    cases xs with
    | nil =>
      have : vs' = [] := by have := h2.1; simp at this; exact List.eq_nil_of_length_eq_zero this.symm
      subst this
      simpa [pack] using h1
    | cons y ys =>
      obtain ⟨v2, vs2, rfl, h3, h4⟩ := h2.uncons
      have : ¬ ((v :: v2 :: vs2).toArray.size = 1) := by simp
      rw [dif_neg this]
      exact rep_mktup (by simpa using h)
theorem results_run (h : SimC N F s cx a w) {fn : Func} {xs : List AV} (hx : resV P N s fn.results.toList = some xs) : ∃ vs : List Value, (results fn a.tmps).run P w = .ok (if h : vs.toArray.size = 1 then vs.toArray[0] else .tuple vs.toArray) w ∧ RepL cx xs vs := by
  obtain ⟨vs, h1, h2⟩ := resV_run (P := P) h hx
  refine ⟨vs, ?_, h2⟩
  rw [results_eq, Array.mapM_eq_mapM_toList]
  simp only [Sem.run_bind, Sem.run_map]
  rw [h1]
  simp only [Result.andThen_ok, Sem.run_pure]

/-! ### A function's entry -/
def argL : Nat → List AV → List (Nat × AV)
  | _, [] => []
  | i, x :: r => (i, x) :: argL (i + 1) r
theorem argL_get : ∀ (xs : List AV) (k i : Nat), lkE (argL k xs) (k + i) = xs.getD i .dead
  | [], k, i => by simp [argL, lkE]
  | x :: xs, k, 0 => by rw [argL, lkE_cons]; simp
  | x :: xs, k, i + 1 => by
    simp only [argL]
    rw [lkE_cons, if_neg (by omega), show k + (i + 1) = k + 1 + i by omega, argL_get xs (k + 1) i]
    simp
theorem acall_intro {f : FuncId} {fn : Func} {c : Code} {args : List AV} {r : AV} {T : Option Tok} (t0 : Option Nat) (hf : P.funcs[f]? = some fn) (hb : fn.body = some c) (hname : (fn.name == "runtime.NumGoroutine") = false) (hN : args.length ≤ fn.ntmps)
    (h : Run P fn.ntmps [.code c] (Done P fn.ntmps fn.results.toList t0 r T) (mkS (argL 0 args) [] 0)) : ACall P f args r T := by
  refine ⟨⟨fn, c, hf, hb, hname⟩, fun w vargs Z0 hZ0 hargs => ?_⟩
  have hva : vargs.size = args.length := by have := hargs.1; simp at this; omega
  let F : Fr := ⟨w, fun b => b < w.heap.size, Z0, fun _ h => h⟩
  let cx0 : Cx := ⟨w.heap, Z0, fun _ => none, fun _ => none, fun g => g < 0⟩
  have hTr : Tr (cxA w Z0) cx0 := ⟨fun b hb => ⟨hb, rfl⟩, fun g hg => hg.elim, (fun t T' e _ => by cases e), (fun t T b arr el fz e _ _ => by cases e)⟩
  have hsim : SimN fn.ntmps F (mkS (argL 0 args) [] 0) { tmps := vargs ++ Array.replicate (fn.ntmps - vargs.size) undef, defers := [] } w := by
    refine ⟨cx0, rfl, { h := rfl, tk := by funext i; rfl, size := by simp; omega, defers := rfl, env := fun i hi => ?_, none_ := (fun t T e => by cases e), row := (fun t T b e => by cases e), stamp := (fun t T e => by cases e), inj := (fun t t' T T' b e => by cases e), apart := (fun t T b e => by cases e), free := (fun t T b e => by cases e), Zlt := hZ0, Z0 := fun b hb => hb, Znew := fun b hb => .inl hb, os := rfl, tape := rfl, output := rfl, grow := Nat.le_refl _, prot := fun b hb => ⟨hb, rfl⟩ }⟩
    show Rep cx0 (lkE (argL 0 args) i) _
    have := argL_get args 0 i
    rw [Nat.zero_add] at this
    rw [this]
    rcases Nat.lt_or_ge i args.length with hlt | hge
    · have h1 : args[i]? = some args[i] := List.getElem?_eq_getElem hlt
      have h2 : vargs[i]? = some vargs[i] := Array.getElem?_eq_getElem (by omega)
      rw [List.getD_eq_getElem?_getD, h1, Array.getD_eq_getD_getElem?, Array.getElem?_append, if_pos (by omega), h2]
      exact (hargs.2 i _ _ h1 (by simp [h2])).tr hTr
    · rw [List.getD_eq_getElem?_getD, List.getElem?_eq_none hge]
      exact .dead _
  refine calls_of_wp hf hb (wp_mono (h.out F _ w hsim) ?_)
  rintro e a' w' ⟨he, s, ⟨xs, ys, h1, h2, h3, h4⟩, cx, hU, hc⟩
  obtain ⟨vs, hr, hrep⟩ := results_run hc h1
  have ht0 : ∀ t, t0 = some t → ∃ T0, cx.tk t = some T0 ∧ T = some ⟨0, T0.sz, T0.cs⟩ := by
    intro t ht
    subst ht
    obtain ⟨T0, q1, q2, q3⟩ := h4
    exact ⟨T0, by rw [hc.tk]; exact q1, q3⟩
  have hprot : ∀ b, b < F.w0.heap.size → F.prot b := fun b hb => hb
  have hbelow : Below w.heap.size w w' := ⟨hc.os, hc.tape, hc.output, hc.grow, fun k hk => (hc.prot k hk).2⟩
  have hfin : ∃ v cx', (results fn a'.tmps).run P w' = .ok v w' ∧ Ret w Z0 T cx' w' ∧ Rep cx' r v := by
    refine ⟨_, outCx cx F.w0 F.Z0 w' t0 T, hr, ?_, (pack_rep (outA_rep hc hprot ht0 hrep h2)).sub h3⟩
    refine { h := rfl, tk := rfl, U := rfl, Zlt := fun b hb => hb.1, Znew := fun b hb => hb.2.1, tok := fun T0 hT => ?_, below := hbelow }
    cases t0 with
    | none => rw [hT] at h4; cases h4
    | some t =>
      obtain ⟨T1, q1, q2, q3⟩ := h4
      rw [hT] at q3
      cases q3
      rw [← hc.tk] at q1
      refine ⟨rfl, fun hρ => hc.none_ t T1 q1 hρ, fun b hρ => ⟨?_, ?_, fun hz => hz.2.2 t rfl hρ⟩⟩
      · obtain ⟨arr, el, fz, f1, f2, f3, f4, f5⟩ := hc.row t T1 b q1 hρ
        refine ⟨arr, el, fz, by (show w'.heap[b]? = _); rw [← hc.h]; exact f1, f2, f3, f4, fun i x v hx hv => ?_⟩
        refine (f5 i x v hx hv).move (closedL_get q2 hx) (.inl fun b' hb' => ⟨⟨hc.Zlt b' hb', hc.Znew b' hb', fun t' e1 e2 => ?_⟩, by show w'.heap[b']? = _; rw [hc.h]⟩)
        cases e1
        exact hc.apart t T1 b' q1 e2 hb'
      · rcases Nat.lt_or_ge b w.heap.size with hlt | hge
        · exact absurd hlt (hc.free t T1 b q1 hρ)
        · exact hge
  obtain ⟨v, cx', g1, g2, g3⟩ := hfin
  rcases he with rfl | rfl
  · exact ⟨hc.defers, v, g1, v, cx', rfl, g2, g3⟩
  · exact ⟨hc.defers, v, g1, v, cx', rfl, g2, g3⟩
end Go.Eng
