/- The engine, part 23: rows that are not written out one by one. For every program. -/
import Derived.Test.YteapibifebnboaaE22
set_option linter.unusedVariables false
namespace Go.Eng
open Go.RowKit
variable {P : Program} {N : Nat}
/-- Less may be told of the slots; the rows stay. -/
theorem run_env {l l' : List (Nat × AV)} {tl : List (Nat × Tok)} {nx nx' : Nat} {k : List It} {Q : AS → Prop} (hE : leE l l') (hn : nx ≤ nx') (h : Run P N k Q (mkS l' tl nx')) : Run P N k Q (mkS l tl nx) := by
  refine run_le ?_ h
  rintro F a w ⟨cx, hU, hs⟩
  have hUx : cx.U = fun g => g < nx := hU
  refine Sim.moreU ⟨cx, rfl, { hs with tk := hs.tk, env := fun i hi => (hs.env i hi).sub (leE_get hE i) }⟩ fun g hg => ?_
  rw [hUx] at hg
  have : g < nx := hg
  show g < nx'; omega
/-- Less may be told of slots and rows. -/
theorem run_keepF {l l' : List (Nat × AV)} {tl tl' : List (Nat × Tok)} {nx nx' : Nat} {k : List It} {Q : AS → Prop} (hE : leE l l') (hT : ∀ i T', lkT tl' i = some T' → ∃ T, lkT tl i = some T ∧ T.g = T'.g ∧ T.sz = T'.sz ∧ SubL T.cs T'.cs) (hn : nx ≤ nx')
    (h : Run P N k Q (mkS l' tl' nx')) : Run P N k Q (mkS l tl nx) := by
  refine run_le ?_ h
  rintro F a w ⟨cx, hU, h⟩
  have htk : cx.tk = lkT tl := h.tk
  let cx' : Cx := { cx with tk := lkT tl', U := fun g => g < nx' }
  have hTr : Tr cx cx' := by
    refine Tr.of (fun b hb => ⟨hb, rfl⟩) (fun g hg => ?_) (fun i T' e _ => ?_) (fun i T b arr el fz _ _ e => ⟨arr, el, fz, e, Nat.le_refl _⟩)
    · rw [hU] at hg; have : g < nx := hg; show g < nx'; omega
    · obtain ⟨T, e1, e2, e3, _⟩ := hT i T' e
      exact ⟨T, by rw [htk]; exact e1, e2, e3, rfl⟩
  have hget : ∀ i T', lkT tl' i = some T' → ∃ T, cx.tk i = some T ∧ T.g = T'.g ∧ SubL T.cs T'.cs := fun i T' e => by
    obtain ⟨T, e1, e2, e3, e4⟩ := hT i T' e
    exact ⟨T, by rw [htk]; exact e1, e2, e4⟩
  refine ⟨cx', rfl, { h := h.h, tk := rfl, size := h.size, defers := h.defers, env := fun i hi => ((h.env i hi).sub (leE_get hE i)).tr hTr, none_ := fun i T' e1 e2 => ?_, row := fun i T' b e1 e2 => ?_, stamp := fun i T' e => ?_, inj := fun i j Ta Tb b e1 e2 e3 e4 => ?_, apart := fun i T' b e1 e2 => ?_, free := fun i T' b e1 e2 => ?_, Zlt := h.Zlt, tr := h.tr.trans hTr, Z0 := h.Z0, Znew := h.Znew, os := h.os, tape := h.tape, output := h.output, grow := h.grow, prot := h.prot }⟩
  · obtain ⟨T, f1, f2, f3⟩ := hget i T' e1
    have := h.none_ i T f1 e2
    have hl := f3.get.1
    rw [this] at hl
    exact List.eq_nil_of_length_eq_zero hl.symm
  · obtain ⟨T, f1, f2, f3⟩ := hget i T' e1
    obtain ⟨arr, el, fz, g1, g2, g3, g4, g5⟩ := h.row i T b f1 e2
    obtain ⟨q1, q2⟩ := f3.get
    refine ⟨arr, el, fz, g1, g2, g3, by rw [← q1]; exact g4, fun j x v hx hv => ?_⟩
    have hj : j < T.cs.length := by rw [q1]; exact (List.getElem?_eq_some_iff.1 hx).1
    exact ((g5 j _ v (List.getElem?_eq_getElem hj) hv).sub (q2 j _ x (List.getElem?_eq_getElem hj) hx)).tr hTr
  · obtain ⟨T, f1, f2, f3⟩ := hget i T' e
    have := hTr.U _ (h.stamp i T f1)
    rw [← f2]; exact this
  · obtain ⟨Ta', f1, _⟩ := hget i Ta e1
    obtain ⟨Tb', f2, _⟩ := hget j Tb e2
    exact h.inj i j Ta' Tb' b f1 f2 e3 e4
  · obtain ⟨T, f1, _⟩ := hget i T' e1
    exact h.apart i T b f1 e2
  · obtain ⟨T, f1, _⟩ := hget i T' e1
    exact h.free i T b f1 e2
/-- A row is called by another number, its old one is free. -/
theorem run_renew {l l' : List (Nat × AV)} {tl : List (Nat × Tok)} {nx : Nat} {k : List It} {Q : AS → Prop} (t d : Nat) (T : Tok) (hT : lkT tl t = some T) (htd : t ≠ d) (hE : rnE t T.g d nx l l')
    (h : Run P N k Q (mkS l' ((d, ⟨nx, T.sz, T.cs⟩) :: (t, ⟨nx + 1, 1, []⟩) :: tl) (nx + 2))) : Run P N k Q (mkS l tl nx) := by
  refine run_le ?_ h
  rintro F a w ⟨cx, hU, hs⟩
  have hUx : cx.U = fun g => g < nx := hU
  obtain ⟨tl', htl'⟩ : ∃ tl' : List (Nat × Tok), tl' = (d, ⟨nx, T.sz, T.cs⟩) :: (t, ⟨nx + 1, 1, []⟩) :: tl := ⟨_, rfl⟩
  rw [← htl']
  let cx' : Cx := { cx with tk := lkT tl', ρ := fun i => if i = d then cx.ρ t else if i = t then none else cx.ρ i, U := fun g => g < nx + 2 }
  have htk : cx.tk = lkT tl := hs.tk
  have hTt : cx.tk t = some T := by rw [htk]; exact hT
  have hρd : cx'.ρ d = cx.ρ t := if_pos rfl
  have hnU : ∀ g, nx ≤ g → ¬ cx.U g := fun g hg hu => by rw [hUx] at hu; have : g < nx := hu; omega
  have hcase : ∀ i T', lkT tl' i = some T' → (i = d ∧ T' = ⟨nx, T.sz, T.cs⟩ ∧ cx'.ρ i = cx.ρ t) ∨ (i = t ∧ T' = ⟨nx + 1, 1, []⟩ ∧ cx'.ρ i = none) ∨ (i ≠ t ∧ i ≠ d ∧ cx'.ρ i = cx.ρ i ∧ cx.tk i = some T') := by
    intro i T' e
    rw [htl', lkT_cons] at e
    by_cases e1 : i = d
    · rw [if_pos e1] at e
      exact .inl ⟨e1, (Option.some.inj e).symm, by rw [e1]; exact hρd⟩
    · rw [if_neg e1, lkT_cons] at e
      by_cases e2 : i = t
      · rw [if_pos e2] at e
        refine .inr (.inl ⟨e2, (Option.some.inj e).symm, ?_⟩)
        show (if i = d then cx.ρ t else if i = t then none else cx.ρ i) = none
        rw [if_neg e1, if_pos e2]
      · rw [if_neg e2] at e
        refine .inr (.inr ⟨e2, e1, ?_, by rw [htk]; exact e⟩)
        show (if i = d then cx.ρ t else if i = t then none else cx.ρ i) = cx.ρ i
        rw [if_neg e1, if_neg e2]
  have hTr : Tr cx cx' := by
    refine Tr.of (fun b hb => ⟨hb, rfl⟩) (fun g hg => ?_) (fun i T' e hu => ?_) (fun i T0 b arr el fz _ _ e => ⟨arr, el, fz, e, Nat.le_refl _⟩)
    · rw [hUx] at hg
      have : g < nx := hg
      show g < nx + 2; omega
    · rcases hcase i T' e with ⟨_, rfl, _⟩ | ⟨_, rfl, _⟩ | ⟨_, _, q3, q4⟩
      · exact absurd hu (hnU _ (Nat.le_refl _))
      · exact absurd hu (hnU _ (Nat.le_succ _))
      · exact ⟨T', q4, rfl, rfl, q3⟩
  have hgd : ∀ T', lkT tl' d = some T' → T'.sz = T.sz := fun T' e => by
    rcases hcase d T' e with ⟨_, rfl, _⟩ | ⟨q1, _⟩ | ⟨_, q2, _⟩
    · rfl
    · exact absurd q1.symm htd
    · exact absurd rfl q2
  have hfr : ∀ {x : AV} {v : Value}, Rep cx x v → ∀ {y : AV}, Rn t T.g d nx x y → Rep cx' y v := by
    intro x v hr
    induction hr with
    | own t0 g0 off n p c hu hnc hh =>
      intro y hf
      cases hf with
      | keep => exact (Rep.own t0 g0 off n p c hu hnc hh).tr hTr
      | own =>
        refine .own d nx off n p c (by show nx < nx + 2; omega) hnc fun T' e hg => ?_
        rcases hh T hTt rfl with h0 | ⟨b, arr, el, fz, g1, g2, g3, g4⟩
        · exact .inl h0
        · exact .inr ⟨b, arr, el, fz, hρd.trans g1, g2, g3, by rw [hgd T' e]; exact g4⟩
    | arr t0 g0 off n p hu hh =>
      intro y hf
      cases hf with
      | keep => exact (Rep.arr t0 g0 off n p hu hh).tr hTr
      | arr =>
        refine .arr d nx off n p (by show nx < nx + 2; omega) fun T' e hg => ?_
        obtain ⟨b, g1, g2⟩ := hh T hTt rfl
        exact ⟨b, hρd.trans g1, g2⟩
    | addr t0 g0 off ad hu hh =>
      intro y hf
      cases hf with
      | keep => exact (Rep.addr t0 g0 off ad hu hh).tr hTr
      | addr =>
        refine .addr d nx off ad (by show nx < nx + 2; omega) fun T' e hg => ?_
        obtain ⟨b, g1, g2⟩ := hh T hTt rfl
        exact ⟨b, hρd.trans g1, g2⟩
    | fn f caps vs hl hh ih =>
      intro y hf
      cases hf with
      | keep => exact (Rep.fn f caps vs hl hh).tr hTr
      | fn _ _ ds hl2 h2 =>
        refine .fn f ds vs (hl2.symm.trans hl) fun i y v hy hv => ?_
        have hi : i < caps.length := by rw [hl2]; exact (List.getElem?_eq_some_iff.1 hy).1
        exact ih i _ v (List.getElem?_eq_getElem hi) hv (h2 i _ y (List.getElem?_eq_getElem hi) hy)
    | agg cs vs hl h1 hh ih =>
      intro y hf
      cases hf with
      | keep => exact (Rep.agg cs vs hl h1 hh).tr hTr
      | agg _ ds hl2 h2 =>
        refine .agg ds vs (hl2.symm.trans hl) h1 fun i y v hy hv => ?_
        have hi : i < cs.length := by rw [hl2]; exact (List.getElem?_eq_some_iff.1 hy).1
        exact ih i _ v (List.getElem?_eq_getElem hi) hv (h2 i _ y (List.getElem?_eq_getElem hi) hy)
    | tup cs vs hl hh ih =>
      intro y hf
      cases hf with
      | keep => exact (Rep.tup cs vs hl hh).tr hTr
      | tup _ ds hl2 h2 =>
        refine .tup ds vs (hl2.symm.trans hl) fun i y v hy hv => ?_
        have hi : i < cs.length := by rw [hl2]; exact (List.getElem?_eq_some_iff.1 hy).1
        exact ih i _ v (List.getElem?_eq_getElem hi) hv (h2 i _ y (List.getElem?_eq_getElem hi) hy)
    | bool b => intro y hf; cases hf; exact .bool b
    | int k n => intro y hf; cases hf; exact .int k n
    | str s l h => intro y hf; cases hf; exact .str s l h
    | nilS => intro y hf; cases hf; exact .nilS
    | nilP => intro y hf; cases hf; exact .nilP
    | em b p c h => intro y hf; cases hf; exact .em b p c h
    | sl0 p c => intro y hf; cases hf; exact .sl0 p c
    | sl n cs ad c arr el fz hz hb hs' hn hl h1 h ih => intro y hf; cases hf; exact (Rep.sl n cs ad c arr el fz hz hb hs' hn hl h1 h).tr hTr
    | ptr cs off ad base arr el fz hz hb hs' ho hl h1 h ih => intro y hf; cases hf; exact (Rep.ptr cs off ad base arr el fz hz hb hs' ho hl h1 h).tr hTr
    | dead v => intro y hf; cases hf; exact .dead v
  have hTA : ∀ {T1 T2 : Tok} {b : Nat}, TokAt cx T1 b → T2.cs = T1.cs → TokAt cx' T2 b := by
    rintro T1 T2 b ⟨arr, el, fz, g1, g2, g3, g4, g5⟩ e
    refine ⟨arr, el, fz, g1, g2, g3, by rw [e]; exact g4, fun j x v hx hv => ?_⟩
    rw [e] at hx
    exact (g5 j x v hx hv).tr hTr
  refine ⟨cx', rfl, { h := hs.h, tk := rfl, size := hs.size, defers := hs.defers, env := fun i hi => ?_, none_ := fun i T' e1 e2 => ?_, row := fun i T' b e1 e2 => ?_, stamp := fun i T' e => ?_, inj := fun i j Ta Tb b e1 e2 e3 e4 => ?_, apart := fun i T' b e1 e2 hz => ?_, free := fun i T' b e1 e2 hpr => ?_, Zlt := hs.Zlt, tr := hs.tr.trans hTr, Z0 := hs.Z0, Znew := hs.Znew, os := hs.os, tape := hs.tape, output := hs.output, grow := hs.grow, prot := hs.prot }⟩
  · rcases rnE_get hE i with h0 | h0
    · show Rep cx' (lkE l' i) _
      rw [h0]; exact .dead _
    · exact hfr (hs.env i hi) h0
  · rcases hcase i T' e1 with ⟨_, rfl, q3⟩ | ⟨_, rfl, _⟩ | ⟨_, _, q3, q4⟩
    · rw [q3] at e2; exact hs.none_ t T hTt e2
    · rfl
    · rw [q3] at e2; exact hs.none_ i T' q4 e2
  · rcases hcase i T' e1 with ⟨_, rfl, q3⟩ | ⟨_, rfl, q3⟩ | ⟨_, _, q3, q4⟩
    · rw [q3] at e2; exact hTA (hs.row t T b hTt e2) rfl
    · rw [q3] at e2; cases e2
    · rw [q3] at e2; exact hTA (hs.row i T' b q4 e2) rfl
  · rcases hcase i T' e with ⟨_, rfl, _⟩ | ⟨_, rfl, _⟩ | ⟨_, _, _, q4⟩
    · show nx < nx + 2; omega
    · show nx + 1 < nx + 2; omega
    · exact hTr.U _ (hs.stamp i T' q4)
  · rcases hcase i Ta e1 with ⟨q1, _, q3⟩ | ⟨q1, _, q3⟩ | ⟨q1, q2, q3, q4⟩ <;> rcases hcase j Tb e2 with ⟨r1, _, r3⟩ | ⟨r1, _, r3⟩ | ⟨r1, r2, r3, r4⟩ <;> rw [q3] at e3 <;> rw [r3] at e4
    · rw [q1, r1]
    · cases e4
    · exact absurd (hs.inj t j T Tb b hTt r4 e3 e4).symm r1
    · cases e3
    · cases e3
    · cases e3
    · exact absurd (hs.inj i t Ta T b q4 hTt e3 e4) q1
    · cases e4
    · exact hs.inj i j Ta Tb b q4 r4 e3 e4
  · rcases hcase i T' e1 with ⟨_, _, q3⟩ | ⟨_, _, q3⟩ | ⟨_, _, q3, q4⟩ <;> rw [q3] at e2
    · exact hs.apart t T b hTt e2 hz
    · cases e2
    · exact hs.apart i T' b q4 e2 hz
  · rcases hcase i T' e1 with ⟨_, _, q3⟩ | ⟨_, _, q3⟩ | ⟨_, _, q3, q4⟩ <;> rw [q3] at e2
    · exact hs.free t T b hTt e2 hpr
    · cases e2
    · exact hs.free i T' b q4 e2 hpr
/-- One row gets another number; of the others only those of R are kept. -/
theorem run_outR {l : List (Nat × AV)} {tl : List (Nat × Tok)} {nx : Nat} {k : List It} {Q : AS → Prop} (R : List (Nat × Tok)) (t d i off n : Nat) (T : Tok) (hT : lkT tl t = some T) (htd : t ≠ d) (hi : lkE l i = .own t T.g off n)
    (hR : ∀ j T', lkT R j = some T' → j ≠ d → j ≠ t ∧ lkT tl j = some T')
    (h : ∀ g nx', Run P N k Q (mkS [(i, .own d g off n)] ((d, ⟨g, T.sz, T.cs⟩) :: R) nx')) : Run P N k Q (mkS l tl nx) := by
  refine run_renew (l' := [(i, .own d nx off n)]) t d T hT htd ⟨by rw [hi]; exact .own _ _, trivial⟩ ?_
  refine run_keepF (l' := [(i, .own d nx off n)]) (tl' := (d, ⟨nx, T.sz, T.cs⟩) :: R) (nx' := nx + 2) ⟨by rw [lkE_cons, if_pos rfl]; exact .refl _, trivial⟩ (fun j T' e => ?_) (Nat.le_refl _) (h nx (nx + 2))
  rw [lkT_cons] at e
  by_cases hj : j = d
  · rw [if_pos hj] at e
    cases e
    exact ⟨_, by rw [hj, lkT_cons, if_pos rfl], rfl, rfl, SubL.refl _⟩
  · rw [if_neg hj] at e
    obtain ⟨q1, q2⟩ := hR j T' e hj
    exact ⟨T', by rw [lkT_cons, if_neg hj, lkT_cons, if_neg q1]; exact q2, rfl, rfl, SubL.refl _⟩
theorem run_out1 {l : List (Nat × AV)} {tl : List (Nat × Tok)} {nx : Nat} {k : List It} {Q : AS → Prop} (t d i off n : Nat) (T : Tok) (hT : lkT tl t = some T) (htd : t ≠ d) (hi : lkE l i = .own t T.g off n)
    (h : ∀ g nx', Run P N k Q (mkS [(i, .own d g off n)] [(d, ⟨g, T.sz, T.cs⟩)] nx')) : Run P N k Q (mkS l tl nx) :=
  run_outR [] t d i off n T hT htd hi (fun j T' e => by cases e) h
/-- For rows whose numbers are not literals: to be used as ↓lkG_cons. -/
theorem lkG_cons (j : Nat) (x : Tok) (r : List (Nat × Tok)) (i : Nat) : lkG ((j, x) :: r) i = if i = j then some x else lkG r i := by rw [lkG_eq, lkG_eq, lkT_cons]
end Go.Eng
