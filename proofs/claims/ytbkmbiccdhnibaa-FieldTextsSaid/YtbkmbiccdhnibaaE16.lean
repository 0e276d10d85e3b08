/- The engine, part 16: a literal whose parts are all told. For every program. -/
import Derived.Test.YtbkmbiccdhnibaaE15
set_option linter.unusedVariables false
namespace Go.Eng
def afullQ (size : Nat) : Nat → List (Nat × AV) → Option (List AV)
  | _, [] => some []
  | k, (i, x) :: r => if i = k then (match x.cells? with
    | some cs => if cs.length = size then (match afullQ size (k + 1) r with
      | some ds => some (cs ++ ds)
      | none => none) else none
    | none => none) else none
/-- afill by another name. -/
def afillC (place : Nat → Option (Nat × Nat)) (cells : List AV) (ps : List (Nat × AV)) : Option (List AV) := afill place cells ps
theorem set_app {α : Type} (pre : List α) (m : α) (post : List α) (x : α) : (pre ++ m :: post).set pre.length x = pre ++ x :: post := by simp
theorem setAll_app {α : Type} : ∀ (cs pre mid post : List α), mid.length = cs.length → setAll (pre ++ (mid ++ post)) pre.length cs = pre ++ (cs ++ post)
  | [], pre, mid, post, h => by
    have : mid = [] := List.eq_nil_of_length_eq_zero h
    subst this; rfl
  | x :: r, pre, [], post, h => by simp at h
  | x :: r, pre, m :: mid, post, h => by
    have ih := setAll_app r (pre ++ [x]) mid post (by simpa using h)
    simp only [List.length_append, List.length_cons, List.length_nil, List.append_assoc, List.cons_append, List.nil_append] at ih
    unfold setAll
    rw [List.cons_append, set_app]
    exact ih
theorem afill_ok (size : Nat) : ∀ (ps : List (Nat × AV)) (k : Nat) (ds pre rest : List AV), afullQ size k ps = some ds → pre.length = k * size → rest.length = ps.length * size →
    afill (fun i => some (i * size, size)) (pre ++ rest) ps = some (pre ++ ds)
  | [], k, ds, pre, rest, h, h1, h2 => by
    simp only [afullQ, Option.some.injEq] at h
    subst h
    have : rest = [] := List.eq_nil_of_length_eq_zero (by simpa using h2)
    subst this; rfl
  | (i, x) :: r, k, ds, pre, rest, h, h1, h2 => by
    unfold afullQ at h
    split at h
    · rename_i e
      subst e
      split at h
      · rename_i cs e1
        split at h
        · rename_i e2
          split at h
          · rename_i ds' e3
            simp only [Option.some.injEq] at h
            subst h
            have hs : size ≤ rest.length := by rw [h2, List.length_cons]; exact Nat.le_mul_of_pos_left _ (by omega)
            have hr : rest = rest.take size ++ rest.drop size := (List.take_append_drop _ _).symm
            have ih := afill_ok size r (i + 1) ds' (pre ++ cs) (rest.drop size) e3 (by rw [List.length_append, h1, e2, Nat.succ_mul]) (by rw [List.length_drop, h2, List.length_cons, Nat.succ_mul]; omega)
            unfold afill
            simp only [e1]
            rw [if_pos ⟨e2, by rw [List.length_append, h1]; omega⟩, hr, ← h1, setAll_app cs pre _ _ (by rw [List.length_take]; omega), ← List.append_assoc, ih, List.append_assoc]
          · cases h
        · cases h
      · cases h
    · cases h
theorem afill_full (size len : Nat) (z : List AV) (ps : List (Nat × AV)) : afill (fun i => some (i * size, size)) (zrep z len) ps =
    if z.length = size ∧ ps.length = len then (match afullQ size 0 ps with | some cs => some cs | none => afillC (fun i => some (i * size, size)) (zrep z len) ps) else afillC (fun i => some (i * size, size)) (zrep z len) ps := by
  split
  · rename_i h
    split
    · rename_i cs e
      have := afill_ok size ps 0 cs [] (zrep z len) e (by simp) (by rw [zrep_length, h.1, h.2])
      simpa using this
    · rfl
  · rfl
/-! ### What the kernel runs by itself -/
def M.ev : M → AS → Option AS
  | .ret, s => some s
  | .fail, _ => none
  | .getE i k, s => (k (s.env i)).ev s
  | .getT t k, s => (k (s.tk t)).ev s
  | .putE i x k, s => k.ev (s.setE i x)
  | .putT t T k, s => k.ev (s.setT t T)
  | .call _ _ _ _ _ _, _ => none
theorem M.ev_wp {P : Program} {K : AS → Prop} : ∀ {m : M} {s s' : AS}, m.ev s = some s' → K s' → m.wp P s K
  | .ret, s, s', h, hk => by cases h; exact hk
  | .fail, s, s', h, hk => by cases h
  | .getE i k, s, s', h, hk => M.ev_wp (m := k (s.env i)) h hk
  | .getT t k, s, s', h, hk => M.ev_wp (m := k (s.tk t)) h hk
  | .putE i x k, s, s', h, hk => M.ev_wp (m := k) h hk
  | .putT t T k, s, s', h, hk => M.ev_wp (m := k) h hk
  | .call .., s, s', h, hk => by cases h
def opsEv (P : Program) (N : Nat) : List Oper → Nat → AS → Option AS
  | [], _, s => some s
  | o :: r, st, s => match o.guard with
    | none => match (aop P N st o).ev s with
      | some s' => opsEv P N r (st + 1) s'
      | none => none
    | some _ => none
theorem opsEv_wp {P : Program} {N : Nat} {ops : Array Oper} {K : AS → Prop} : ∀ {l : List Oper} {st : Nat} {s s' : AS}, opsEv P N l st s = some s' → K s' → OpsWp P N ops l st K s
  | [], st, s, s', h, hk => by cases h; exact hk
  | o :: r, st, s, s', h, hk => by
    unfold opsEv at h
    unfold OpsWp
    cases hg : o.guard with
    | some g => rw [hg] at h; cases h
    | none =>
      rw [hg] at h
      simp only at h ⊢
      cases he : (aop P N st o).ev s with
      | none => rw [he] at h; cases h
      | some s1 => rw [he] at h; exact M.ev_wp he (opsEv_wp h hk)
theorem le_gen {N : Nat} {s : AS} {l' : List (Nat × AV)} {t' : List (Nat × Tok)} {nx' : Nat} (hE : ∀ i, Sub (s.env i) (lkE l' i)) (hT : ∀ i T', lkT t' i = some T' → s.tk i = some T') (hn : s.nx ≤ nx') : Le N s (mkS l' t' nx') := by
  rintro F a w ⟨cx, hU, h⟩
  let cx' : Cx := { cx with tk := lkT t', U := fun g => g < nx' }
  have htk : cx.tk = s.tk := h.tk
  have hTr : Tr cx cx' := by
    refine ⟨fun b hb => ⟨hb, rfl⟩, fun g hg => ?_, fun i T' e _ => ?_, fun i T b arr el fz _ _ e => ⟨arr, el, fz, e, Nat.le_refl _⟩⟩
    · show g < nx'
      rw [hU] at hg
      exact Nat.lt_of_lt_of_le hg hn
    · exact ⟨T', by rw [htk]; exact hT i T' e, rfl, rfl, rfl⟩
  refine ⟨cx', rfl, { h := h.h, tk := rfl, size := h.size, defers := h.defers, env := fun i hi => ((h.env i hi).sub (hE i)).tr hTr, none_ := fun i T' e1 e2 => ?_, row := fun i T' b e1 e2 => ?_, stamp := fun i T' e => ?_, inj := fun i j T T' b e1 e2 e3 e4 => ?_, apart := fun i T' b e1 e2 => ?_, free := fun i T' b e1 e2 => ?_, Zlt := h.Zlt, Z0 := h.Z0, Znew := h.Znew, os := h.os, tape := h.tape, output := h.output, grow := h.grow, prot := h.prot }⟩
  · exact h.none_ i T' (by rw [htk]; exact hT i T' e1) e2
  · obtain ⟨arr, el, fz, g1, g2, g3, g4, g5⟩ := h.row i T' b (by rw [htk]; exact hT i T' e1) e2
    exact ⟨arr, el, fz, g1, g2, g3, g4, fun j x v hx hv => (g5 j _ v hx hv).tr hTr⟩
  · exact hTr.U _ (h.stamp i T' (by rw [htk]; exact hT i T' e))
  · exact h.inj i j T T' b (by rw [htk]; exact hT i T e1) (by rw [htk]; exact hT j T' e2) e3 e4
  · exact h.apart i T' b (by rw [htk]; exact hT i T' e1) e2
  · exact h.free i T' b (by rw [htk]; exact hT i T' e1) e2
theorem lkE_of {f : Nat → AV} : ∀ {l : List (Nat × AV)}, l.map (fun p => f p.1) = l.map (·.2) → ∀ i, Sub (f i) (lkE l i)
  | [], _, i => .dead _
  | (j, x) :: r, h, i => by
    simp only [List.map_cons, List.cons.injEq] at h
    rw [lkE_cons]
    split
    · rename_i e; subst e; exact .of_eq h.1
    · exact lkE_of h.2 i
theorem lkT_of {f : Nat → Option Tok} : ∀ {l : List (Nat × Tok)}, l.map (fun p => f p.1) = l.map (fun p => some p.2) → ∀ i T', lkT l i = some T' → f i = some T'
  | [], _, i, T', h => by cases h
  | (j, x) :: r, h, i, T', h' => by
    simp only [List.map_cons, List.cons.injEq] at h
    rw [lkT_cons] at h'
    split at h'
    · rename_i e; cases h'; subst e; exact h.1
    · exact lkT_of h.2 i T' h'
/-- A region of plain operations on what is written out: the kernel runs it. -/
theorem run_lits {P : Program} {N id : Nat} {ops : Array Oper} {k : List It} {Q : AS → Prop} {l : List (Nat × AV)} {t : List (Nat × Tok)} {nx : Nat} (l' : List (Nat × AV)) (t' : List (Nat × Tok)) (nx' : Nat)
    (h : (opsEv P N ops.toList nx (mkS l t (nx + ops.size))).map (fun s => (l'.map (fun p => s.env p.1), t'.map (fun p => s.tk p.1), s.nx)) = some (l'.map (·.2), t'.map (fun p => some p.2), nx'))
    (hk : Run P N k Q (mkS l' t' nx')) : Run P N (.code (.region id ops false) :: k) Q (mkS l t nx) := by
  refine run_region ?_
  cases he : opsEv P N ops.toList nx (mkS l t (nx + ops.size)) with
  | none => rw [he] at h; cases h
  | some s' =>
    rw [he] at h
    simp only [Option.map_some, Option.some.injEq, Prod.mk.injEq] at h
    refine opsEv_wp (s' := s') he ?_
    exact run_le (le_gen (lkE_of h.1) (lkT_of h.2.1) (Nat.le_of_eq h.2.2)) hk
theorem cast_lit (n : Nat) : ((no_index (OfNat.ofNat n) : Nat) : Int) = OfNat.ofNat n := _root_.id rfl
attribute [push_cast high] cast_lit
attribute [push_cast] Nat.add_zero
attribute [push_cast high] afill_full
attribute [push_cast] afullQ
end Go.Eng
