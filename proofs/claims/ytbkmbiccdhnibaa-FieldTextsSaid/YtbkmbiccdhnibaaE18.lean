/- The engine, part 18: a row is frozen; a cell that is nil becomes a row; an empty slice is nil, or it is not. For every program. -/
import Derived.Test.YtbkmbiccdhnibaaE16
set_option linter.unusedVariables false
namespace Go.Eng
open Go.RowKit

variable {P : Program} {N : Nat}

/-! ### A row is frozen -/
inductive Frz (t : Nat) (T : Tok) : AV → AV → Prop
  | keep (x : AV) : Frz t T x x
  | own (off n : Nat) (h : off + n * T.sz ≤ T.cs.length) : Frz t T (.own t T.g off n) (.sl n ((T.cs.drop off).take (n * T.sz)))
def FrzL (t : Nat) (T : Tok) : List AV → List AV → Prop
  | [], [] => True
  | x :: r, y :: q => Frz t T x y ∧ FrzL t T r q
  | _, _ => False
theorem FrzL.get {t : Nat} {T : Tok} : ∀ {cs ds : List AV}, FrzL t T cs ds → cs.length = ds.length ∧ ∀ (i : Nat) (x y : AV), cs[i]? = some x → ds[i]? = some y → Frz t T x y
  | [], [], _ => ⟨rfl, fun i x y h => by simp at h⟩
  | x :: r, y :: q, h => by
    obtain ⟨h1, h2⟩ := FrzL.get h.2
    refine ⟨by simp [h1], fun i u v hu hv => ?_⟩
    cases i with
    | zero => simp at hu hv; subst hu; subst hv; exact h.1
    | succ i => exact h2 i u v (by simpa using hu) (by simpa using hv)
  | [], _ :: _, h => h.elim
  | _ :: _, [], h => h.elim
theorem FrzL.refl {t : Nat} {T : Tok} : ∀ (cs : List AV), FrzL t T cs cs
  | [] => trivial
  | x :: r => ⟨.keep x, FrzL.refl r⟩
theorem FrzL.append {t : Nat} {T : Tok} : ∀ {a b c d : List AV}, FrzL t T a b → FrzL t T c d → FrzL t T (a ++ c) (b ++ d)
  | [], [], _, _, _, h => h
  | x :: r, y :: q, _, _, h, k => ⟨h.1, FrzL.append h.2 k⟩
  | [], _ :: _, _, _, h, _ => h.elim
  | _ :: _, [], _, _, h, _ => h.elim
def frzE (t : Nat) (T : Tok) (l : List (Nat × AV)) : List (Nat × AV) → Prop
  | [] => True
  | (i, x) :: r => Frz t T (lkE l i) x ∧ frzE t T l r
def frzT (t : Nat) (T : Tok) (tl : List (Nat × Tok)) : List (Nat × Tok) → Prop
  | [] => True
  | (i, T') :: r => i ≠ t ∧ (∃ T1, lkT tl i = some T1 ∧ T1.g = T'.g ∧ T1.sz = T'.sz ∧ FrzL t T T1.cs T'.cs) ∧ frzT t T tl r
theorem frzE_get {t : Nat} {T : Tok} {l : List (Nat × AV)} : ∀ {l' : List (Nat × AV)}, frzE t T l l' → ∀ i, lkE l' i = .dead ∨ Frz t T (lkE l i) (lkE l' i)
  | [], _, i => .inl rfl
  | (j, x) :: r, h, i => by
    rw [lkE_cons]
    by_cases e : i = j
    · subst e; rw [if_pos rfl]; exact .inr h.1
    · rw [if_neg e]; exact frzE_get h.2 i
theorem frzT_get {t : Nat} {T : Tok} {tl : List (Nat × Tok)} : ∀ {tl' : List (Nat × Tok)}, frzT t T tl tl' → ∀ i T', lkT tl' i = some T' → i ≠ t ∧ ∃ T1, lkT tl i = some T1 ∧ T1.g = T'.g ∧ T1.sz = T'.sz ∧ FrzL t T T1.cs T'.cs
  | [], _, i, T', h => by cases h
  | (j, x) :: r, h, i, T', h' => by
    rw [lkT_cons] at h'
    split at h'
    · rename_i e; cases h'; subst e; exact ⟨h.1, h.2.1⟩
    · exact frzT_get h.2.2 i T' h'
/-- A row of closed cells becomes a slice that stays as it is. -/
theorem run_freeze {l l' : List (Nat × AV)} {tl tl' : List (Nat × Tok)} {nx : Nat} {k : List It} {Q : AS → Prop} (t : Nat) (T : Tok) (hT : lkT tl t = some T) (hE : frzE t T l l') (hTk : frzT t T tl tl')
    (h : Run P N k Q (mkS l' tl' nx)) : Run P N k Q (mkS l tl nx) := by
  refine run_le ?_ h
  rintro F a w ⟨cx, hU, hs⟩
  let cx' : Cx := { cx with tk := lkT tl', Z := fun b => cx.Z b ∨ cx.ρ t = some b }
  have htk : cx.tk = lkT tl := hs.tk
  have hTt : cx.tk t = some T := by rw [htk]; exact hT
  have hTr : Tr cx cx' := by
    refine ⟨fun b hb => ⟨.inl hb, rfl⟩, fun g hg => hg, fun i T' e _ => ?_, fun i T0 b arr el fz _ _ e => ⟨arr, el, fz, e, Nat.le_refl _⟩⟩
    obtain ⟨_, T1, e1, e2, e3, _⟩ := frzT_get hTk i T' e
    exact ⟨T1, by rw [htk]; exact e1, e2, e3, rfl⟩
  have hfr : ∀ {x y : AV} {v : Value}, Frz t T x y → Rep cx x v → Rep cx' y v := by
    intro x y v hf hr
    cases hf with
    | keep => exact hr.tr hTr
    | own off n hle =>
      cases hr with
      | own _ _ _ _ p c hU' hnc hh =>
        rcases hh T hTt rfl with ⟨h0, hc0⟩ | ⟨b, arr, el, fz, g1, g2, g3, g4⟩
        · subst h0; simp; exact .sl0 _ _
        · obtain ⟨arr', el', fz', f1, f2, f3, f4, f5⟩ := hs.row t T b hTt g1
          rw [g3] at f1
          cases f1
          subst g2
          refine .sl n _ _ c arr el fz (.inr g1) g3 rfl hnc ?_ (fun i v _ hv => f3 _ v hv) fun i x v hx hv => ?_
          · simp only [List.length_take, List.length_drop]
            have : n * T.sz ≤ c * T.sz := Nat.mul_le_mul_right _ hnc
            omega
          · rw [List.getElem?_take, List.getElem?_drop] at hx
            split at hx
            · exact (f5 _ x v hx hv).tr hTr
            · cases hx
  refine ⟨cx', hU, { h := hs.h, tk := rfl, size := hs.size, defers := hs.defers, env := fun i hi => ?_, none_ := fun i T' e1 e2 => ?_, row := fun i T' b e1 e2 => ?_, stamp := fun i T' e => ?_, inj := fun i j Ta Tb b e1 e2 e3 e4 => ?_, apart := fun i T' b e1 e2 => ?_, free := fun i T' b e1 e2 => ?_, Zlt := fun b hb => ?_, Z0 := fun b hb => .inl (hs.Z0 b hb), Znew := fun b hb => ?_, os := hs.os, tape := hs.tape, output := hs.output, grow := hs.grow, prot := hs.prot }⟩
  · rcases frzE_get hE i with h0 | h0
    · show Rep cx' (lkE l' i) _
      rw [h0]; exact .dead _
    · exact hfr h0 (hs.env i hi)
  · obtain ⟨_, T1, f1, f2, f3, f4⟩ := frzT_get hTk i T' e1
    have := hs.none_ i T1 (by rw [htk]; exact f1) e2
    have hl := f4.get.1
    rw [this] at hl
    exact List.eq_nil_of_length_eq_zero hl.symm
  · obtain ⟨_, T1, f1, f2, f3, f4⟩ := frzT_get hTk i T' e1
    obtain ⟨arr, el, fz, g1, g2, g3, g4, g5⟩ := hs.row i T1 b (by rw [htk]; exact f1) e2
    obtain ⟨q1, q2⟩ := f4.get
    refine ⟨arr, el, fz, g1, g2, g3, by rw [← q1]; exact g4, fun j x v hx hv => ?_⟩
    have hj : j < T1.cs.length := by rw [q1]; exact (List.getElem?_eq_some_iff.1 hx).1
    exact hfr (q2 j _ x (List.getElem?_eq_getElem hj) hx) (g5 j _ v (List.getElem?_eq_getElem hj) hv)
  · obtain ⟨_, T1, f1, f2, f3, f4⟩ := frzT_get hTk i T' e
    have := hs.stamp i T1 (by rw [htk]; exact f1)
    rw [f2] at this; exact this
  · obtain ⟨_, Ta', f1, _⟩ := frzT_get hTk i Ta e1
    obtain ⟨_, Tb', f2, _⟩ := frzT_get hTk j Tb e2
    exact hs.inj i j Ta' Tb' b (by rw [htk]; exact f1) (by rw [htk]; exact f2) e3 e4
  · obtain ⟨hne, Ta', f1, _⟩ := frzT_get hTk i T' e1
    rintro (hz | hz)
    · exact hs.apart i Ta' b (by rw [htk]; exact f1) e2 hz
    · exact hne (hs.inj i t Ta' T b (by rw [htk]; exact f1) hTt e2 hz)
  · obtain ⟨_, Ta', f1, _⟩ := frzT_get hTk i T' e1
    exact hs.free i Ta' b (by rw [htk]; exact f1) e2
  · rcases hb with hb | hb
    · exact hs.Zlt b hb
    · exact hs.blk hTt hb
  · rcases hb with hb | hb
    · exact hs.Znew b hb
    · rcases Nat.lt_or_ge b F.w0.heap.size with hlt | hge
      · exact absurd (F.hprot b hlt) (hs.free t T b hTt hb)
      · exact .inr hge

/-! ### A cell that is nil becomes a row of one's own -/
theorem run_lazyCell {l : List (Nat × AV)} {tl : List (Nat × Tok)} {nx : Nat} {k : List It} {Q : AS → Prop} (i j d sz : Nat) (T : Tok) (hT : lkT tl i = some T) (hj : T.cs[j]? = some .nilS) (hid : i ≠ d)
    (h : Run P N k Q (mkS l ((i, { T with cs := T.cs.set j (.own d nx 0 0) }) :: (d, ⟨nx, sz, []⟩) :: tl) (nx + 1))) : Run P N k Q (mkS l tl nx) := by
  refine run_le ?_ h
  rintro F a w ⟨cx, hU, hc⟩
  have hst : ¬ cx.U nx := by rw [hU]; exact Nat.lt_irrefl nx
  have hk := hc.lazyTok d ⟨nx, sz, []⟩ w rfl rfl rfl rfl hst rfl
  have hU' : ∀ g, (cx.newTok w d none ⟨nx, sz, []⟩).U g → g < nx + 1 := by
    intro g hg
    rcases hg with hg | hg
    · rw [hU] at hg; exact Nat.lt_succ_of_lt hg
    · rw [hg]; exact Nat.lt_succ_self nx
  refine Sim.moreU (U := (cx.newTok w d none ⟨nx, sz, []⟩).U) ?_ hU'
  generalize hcx1 : cx.newTok w d none ⟨nx, sz, []⟩ = cx1 at hk
  have htk1 : cx1.tk = lkT ((d, ⟨nx, sz, []⟩) :: tl) := by
    rw [hk.2.tk, mkS_setT]; rfl
  have hTi : cx1.tk i = some T := by rw [htk1, lkT_cons, if_neg hid]; exact hT
  let T2 : Tok := { T with cs := T.cs.set j (.own d nx 0 0) }
  let cx2 : Cx := { cx1 with tk := lkT ((i, T2) :: (d, ⟨nx, sz, []⟩) :: tl) }
  have hget : ∀ m T', cx2.tk m = some T' → ∃ T1, cx1.tk m = some T1 ∧ T1.g = T'.g ∧ T1.sz = T'.sz ∧ T1.cs.length = T'.cs.length := by
    intro m T' e
    change lkT ((i, T2) :: (d, ⟨nx, sz, []⟩) :: tl) m = some T' at e
    rw [lkT_cons] at e
    split at e
    · rename_i hm
      cases e
      exact ⟨T, by rw [hm]; exact hTi, rfl, rfl, by simp [T2]⟩
    · exact ⟨T', by rw [htk1]; exact e, rfl, rfl, rfl⟩
  have hTr : Tr cx1 cx2 := by
    refine ⟨fun b hb => ⟨hb, rfl⟩, fun g hg => hg, fun m T' e _ => ?_, fun m T0 b arr el fz _ _ e => ⟨arr, el, fz, e, Nat.le_refl _⟩⟩
    obtain ⟨T1, e1, e2, e3, _⟩ := hget m T' e
    exact ⟨T1, e1, e2, e3, rfl⟩
  have hs := hk.2
  have hlz : ∀ v, Rep cx1 .nilS v → Rep cx2 (.own d nx 0 0) v := by
    intro v hv
    cases hv
    refine .own d nx 0 0 none 0 ?_ (Nat.le_refl _) fun T hT hg => .inl ⟨rfl, rfl⟩
    show cx1.U nx
    rw [← hcx1]; exact .inr rfl
  refine ⟨cx2, (by show cx1.U = _; rw [← hcx1]), { h := hs.h, tk := rfl, size := hs.size, defers := hs.defers, env := fun m hm => ?_, none_ := fun m T' e1 e2 => ?_, row := fun m T' b e1 e2 => ?_, stamp := fun m T' e => ?_, inj := fun m m' Ta Tb b e1 e2 e3 e4 => ?_, apart := fun m T' b e1 e2 => ?_, free := fun m T' b e1 e2 => ?_, Zlt := hs.Zlt, Z0 := hs.Z0, Znew := hs.Znew, os := hs.os, tape := hs.tape, output := hs.output, grow := hs.grow, prot := hs.prot }⟩
  · exact (hs.env m hm).tr hTr
  · obtain ⟨T1, f1, _, _, f4⟩ := hget m T' e1
    have := hs.none_ m T1 f1 e2
    rw [this] at f4
    exact List.eq_nil_of_length_eq_zero f4.symm
  · obtain ⟨T1, f1, f2, f3, f4⟩ := hget m T' e1
    obtain ⟨arr, el, fz, g1, g2, g3, g4, g5⟩ := hs.row m T1 b f1 e2
    refine ⟨arr, el, fz, g1, g2, g3, by rw [← f4]; exact g4, fun q x v hx hv => ?_⟩
    change lkT ((i, T2) :: (d, ⟨nx, sz, []⟩) :: tl) m = some T' at e1
    rw [lkT_cons] at e1
    split at e1
    · rename_i hm
      cases e1
      subst hm
      rw [hTi] at f1
      cases f1
      change (T.cs.set j (.own d nx 0 0))[q]? = some x at hx
      rw [List.getElem?_set] at hx
      split at hx
      · rename_i e
        subst e
        split at hx
        · cases hx; exact hlz v (g5 j .nilS v hj hv)
        · cases hx
      · exact (g5 q x v hx hv).tr hTr
    · have : T1 = T' := by
        rw [htk1] at f1
        rw [f1] at e1
        cases e1; rfl
      subst this
      exact (g5 q x v hx hv).tr hTr
  · obtain ⟨T1, f1, f2, _⟩ := hget m T' e
    have := hs.stamp m T1 f1
    rw [f2] at this; exact this
  · obtain ⟨Ta', f1, _⟩ := hget m Ta e1
    obtain ⟨Tb', f2, _⟩ := hget m' Tb e2
    exact hs.inj m m' Ta' Tb' b f1 f2 e3 e4
  · obtain ⟨Ta', f1, _⟩ := hget m T' e1
    exact hs.apart m Ta' b f1 e2
  · obtain ⟨Ta', f1, _⟩ := hget m T' e1
    exact hs.free m Ta' b f1 e2

/-! ### An empty slice is nil, or it is not -/
theorem run_split {l : List (Nat × AV)} {tl : List (Nat × Tok)} {nx : Nat} {k : List It} {Q : AS → Prop} (i : Nat) (hi : lkE l i = .sl 0 []) (h1 : Run P N k Q (mkS ((i, .em true) :: l) tl nx)) (h2 : Run P N k Q (mkS ((i, .em false) :: l) tl nx)) : Run P N k Q (mkS l tl nx) := by
  refine ⟨fun F a w hs => ?_⟩
  have key : ∀ b : Bool, (i < N → ∃ p c, a.tmps.getD i undef = .slice p 0 c ∧ p.isNone = b) → SimN N F (mkS ((i, .em b) :: l) tl nx) a w := by
    intro b hb
    obtain ⟨cx, hU, hc⟩ := hs
    refine ⟨cx, hU, { hc with tk := hc.tk, env := fun j hj => ?_ }⟩
    show Rep cx (lkE ((i, .em b) :: l) j) _
    rw [lkE_cons]
    split
    · rename_i e
      subst e
      obtain ⟨p, c, e1, e2⟩ := hb hj
      rw [e1]; exact .em b p c e2
    · exact hc.env j hj
  by_cases hN : i < N
  · obtain ⟨cx, hU, hc⟩ := id hs
    have hr : Rep cx (.sl 0 []) (a.tmps.getD i undef) := by rw [← hi]; exact hc.env i hN
    obtain ⟨p, c, e⟩ : ∃ p c, a.tmps.getD i undef = .slice p 0 c := by
      generalize a.tmps.getD i undef = v at hr
      cases hr with
      | sl0 p c => exact ⟨p, c, rfl⟩
      | sl _ _ ad c => exact ⟨some ad, c, rfl⟩
    cases hp : p.isNone with
    | true => exact h1.out F a w (key true fun _ => ⟨p, c, e, hp⟩)
    | false => exact h2.out F a w (key false fun _ => ⟨p, c, e, hp⟩)
  · exact h1.out F a w (key true fun h => absurd h hN)
end Go.Eng
