/- The engine, part 20: a region cut in two, with less told behind the cut; a call's answer without its row. For every program. -/
import Derived.Test.YtbkmbiccdhnibaaE18
set_option linter.unusedVariables false
namespace Go.Eng
open Go.RowKit

variable {P : Program} {N : Nat} {F : Fr} {s s' : AS} {cx : Cx} {a : Act} {w : World}

def LeU (N : Nat) (s s' : AS) : Prop := ∀ (F : Fr) (U : Nat → Prop) (a : Act) (w : World), Sim N F U s a w → Sim N F U s' a w
/-- A row of closed cells becomes a slice that stays as it is. -/
theorem freeze_leU {l l' : List (Nat × AV)} {tl tl' : List (Nat × Tok)} {nx : Nat} (t : Nat) (T : Tok) (hT : lkT tl t = some T) (hE : frzE t T l l') (hTk : frzT t T tl tl') : LeU N (mkS l tl nx) (mkS l' tl' nx) := by
  rintro F U a w ⟨cx, hU, hs⟩
  let cx' : Cx := { cx with tk := lkT tl', Z := fun b => cx.Z b ∨ cx.ρ t = some b }
  have htk : cx.tk = lkT tl := hs.tk
  have hTt : cx.tk t = some T := by rw [htk]; exact hT
  have hTr : Tr cx cx' := by
    refine ⟨fun b hb => ⟨.inl hb, rfl⟩, fun g hg => hg, fun i T' e _ => ?_, fun i T0 b arr el fz _ _ e => ⟨arr, el, fz, e, Nat.le_refl _⟩⟩
    obtain ⟨_, T1, e1, e2, e3, _⟩ := frzT_get hTk i T' e
    exact ⟨T1, by rw [htk]; exact e1, e2, e3, rfl⟩
  have hfr : ∀ {x y : AV} {v : Value}, Frz t T x y → Rep cx x v → Rep cx' y v := by
    intro x y v hf hr
    cases hf with
    | keep => exact hr.tr hTr
    | own off n hle =>
      cases hr with
      | own _ _ _ _ p c hU' hnc hh =>
        rcases hh T hTt rfl with ⟨h0, hc0⟩ | ⟨b, arr, el, fz, g1, g2, g3, g4⟩
        · subst h0; simp; exact .sl0 _ _
        · obtain ⟨arr', el', fz', f1, f2, f3, f4, f5⟩ := hs.row t T b hTt g1
          rw [g3] at f1
          cases f1
          subst g2
          refine .sl n _ _ c arr el fz (.inr g1) g3 rfl hnc ?_ (fun i v _ hv => f3 _ v hv) fun i x v hx hv => ?_
          · simp only [List.length_take, List.length_drop]
            have : n * T.sz ≤ c * T.sz := Nat.mul_le_mul_right _ hnc
            omega
          · rw [List.getElem?_take, List.getElem?_drop] at hx
            split at hx
            · exact (f5 _ x v hx hv).tr hTr
            · cases hx
  refine ⟨cx', hU, { h := hs.h, tk := rfl, size := hs.size, defers := hs.defers, env := fun i hi => ?_, none_ := fun i T' e1 e2 => ?_, row := fun i T' b e1 e2 => ?_, stamp := fun i T' e => ?_, inj := fun i j Ta Tb b e1 e2 e3 e4 => ?_, apart := fun i T' b e1 e2 => ?_, free := fun i T' b e1 e2 => ?_, Zlt := fun b hb => ?_, Z0 := fun b hb => .inl (hs.Z0 b hb), Znew := fun b hb => ?_, os := hs.os, tape := hs.tape, output := hs.output, grow := hs.grow, prot := hs.prot }⟩
  · rcases frzE_get hE i with h0 | h0
    · show Rep cx' (lkE l' i) _
      rw [h0]; exact .dead _
    · exact hfr h0 (hs.env i hi)
  · obtain ⟨_, T1, f1, f2, f3, f4⟩ := frzT_get hTk i T' e1
    have := hs.none_ i T1 (by rw [htk]; exact f1) e2
    have hl := f4.get.1
    rw [this] at hl
    exact List.eq_nil_of_length_eq_zero hl.symm
  · obtain ⟨_, T1, f1, f2, f3, f4⟩ := frzT_get hTk i T' e1
    obtain ⟨arr, el, fz, g1, g2, g3, g4, g5⟩ := hs.row i T1 b (by rw [htk]; exact f1) e2
    obtain ⟨q1, q2⟩ := f4.get
    refine ⟨arr, el, fz, g1, g2, g3, by rw [← q1]; exact g4, fun j x v hx hv => ?_⟩
    have hj : j < T1.cs.length := by rw [q1]; exact (List.getElem?_eq_some_iff.1 hx).1
    exact hfr (q2 j _ x (List.getElem?_eq_getElem hj) hx) (g5 j _ v (List.getElem?_eq_getElem hj) hv)
  · obtain ⟨_, T1, f1, f2, f3, f4⟩ := frzT_get hTk i T' e
    have := hs.stamp i T1 (by rw [htk]; exact f1)
    rw [f2] at this; exact this
  · obtain ⟨_, Ta', f1, _⟩ := frzT_get hTk i Ta e1
    obtain ⟨_, Tb', f2, _⟩ := frzT_get hTk j Tb e2
    exact hs.inj i j Ta' Tb' b (by rw [htk]; exact f1) (by rw [htk]; exact f2) e3 e4
  · obtain ⟨hne, Ta', f1, _⟩ := frzT_get hTk i T' e1
    rintro (hz | hz)
    · exact hs.apart i Ta' b (by rw [htk]; exact f1) e2 hz
    · exact hne (hs.inj i t Ta' T b (by rw [htk]; exact f1) hTt e2 hz)
  · obtain ⟨_, Ta', f1, _⟩ := frzT_get hTk i T' e1
    exact hs.free i Ta' b (by rw [htk]; exact f1) e2
  · rcases hb with hb | hb
    · exact hs.Zlt b hb
    · exact hs.blk hTt hb
  · rcases hb with hb | hb
    · exact hs.Znew b hb
    · rcases Nat.lt_or_ge b F.w0.heap.size with hlt | hge
      · exact absurd (F.hprot b hlt) (hs.free t T b hTt hb)
      · exact .inr hge


theorem ops_wp2 {ops : Array Oper} {K : AS → Prop} {Q : Exit → Act → World → Prop} {nx : Nat} (rest : List Oper) : ∀ (l : List Oper) (i : Nat) (s : AS) (a : Act) (w : World), (∀ j, (l ++ rest)[j]? = ops[i + j]?) → i + l.length + rest.length = ops.size →
    OpsWp P N ops l (nx + i) K s → Sim N F (fun g => g < nx + i) s a w → (∀ s a w, K s → Sim N F (fun g => g < nx + (i + l.length)) s a w → wpOps P ops Q (List.range' (i + l.length) rest.length) a w) → wpOps P ops Q (List.range' i (l.length + rest.length)) a w
  | [], i, s, a, w, hl, hlen, h, hs, hK => by
    have := hK s a w h (by simpa using hs)
    simpa using this
  | o :: l, i, s, a, w, hl, hlen, h, hs, hK => by
    have ho : ops[i]? = some o := by have := hl 0; simpa using this.symm
    rw [List.length_cons, show l.length + 1 + rest.length = (l.length + rest.length) + 1 by omega, List.range'_succ]
    have step : ∀ s1, (∃ b, wanted? N ops o s = some b ∧ if b = true then (aop P N (nx + i) o).Runs P s s1 else (match o.dst with | some d => d < N ∧ s1 = s.setE d (.tup []) | none => s1 = s)) → OpsWp P N ops l (nx + i + 1) K s1 → wpOps P ops Q (i :: List.range' (i + 1) (l.length + rest.length)) a w := by
      intro s1 hr hk
      refine op_step ho (U := fun g => g < nx + i) (by simp) hs hr fun a' w' hs' => ?_
      refine ops_wp2 rest l (i + 1) s1 a' w' (fun j => ?_) (by simp at hlen; omega) hk (Sim.moreU hs' fun g hg => by rcases hg with hg | hg <;> omega) (fun s a w h1 h2 => ?_)
      · have := hl (j + 1)
        rw [List.cons_append, List.getElem?_cons_succ] at this
        rw [this]; congr 1; omega
      · have := hK s a w h1 (by rw [List.length_cons, show i + (l.length + 1) = i + 1 + l.length by omega]; exact h2)
        rw [List.length_cons, show i + (l.length + 1) = i + 1 + l.length by omega] at this
        exact this
    obtain ⟨b, hw, h⟩ := opsWp_cons h
    cases b with
    | true =>
      rw [if_pos rfl] at h
      obtain ⟨s1, hr, hk⟩ := M.wp_runs h
      exact step s1 ⟨true, hw, hr⟩ hk
    | false =>
      rw [if_neg (by simp)] at h
      unfold skipWp at h
      cases hd : o.dst with
      | none => rw [hd] at h; exact step s ⟨false, hw, by simp [hd]⟩ h
      | some d =>
        rw [hd] at h
        simp only at h
        split at h
        · rename_i hlt; exact step _ ⟨false, hw, by simp [hd, hlt]⟩ h
        · exact h.elim
/-- A region, cut behind its n-th operation: less may be told from there on. -/
theorem run_region_cut {id : Nat} {ops : Array Oper} {k : List It} {Q : AS → Prop} (n : Nat) (hn : n ≤ ops.size)
    (h : OpsWp P N ops (ops.toList.take n) s.nx (fun s1 => ∃ s2, LeU N s1 s2 ∧ s2.nx = s1.nx ∧ OpsWp P N ops (ops.toList.drop n) (s.nx + n) (Run P N k Q) s2) (s.bump ops.size)) : Run P N (.code (.region id ops false) :: k) Q s := by
  refine ⟨fun F a w hs => ?_⟩
  show (Code.region id ops false).wp P _ a w
  refine wp_region ?_
  rw [List.range_eq_range']
  have hlen : ops.toList.length = ops.size := by simp
  have hl1 : (ops.toList.take n).length = n := by rw [List.length_take]; omega
  have hl2 : (ops.toList.drop n).length = ops.size - n := by rw [List.length_drop, hlen]
  rw [show ops.size = (ops.toList.take n).length + (ops.toList.drop n).length by omega]
  refine ops_wp2 (F := F) (nx := s.nx) (K := fun s1 => s1.nx = (s.bump ops.size).nx ∧ ∃ s2, LeU N s1 s2 ∧ s2.nx = s1.nx ∧ OpsWp P N ops (ops.toList.drop n) (s.nx + n) (Run P N k Q) s2) (ops.toList.drop n) (ops.toList.take n) 0 (s.bump ops.size) a w (fun j => by rw [List.take_append_drop]; simp) (by omega)
    (opsWp_imp_nx (n := (s.bump ops.size).nx) (fun s' hn h => ⟨hn, h⟩) rfl h) ?_ fun s1 a1 w1 hk hs1 => ?_
  · obtain ⟨cx, hU, hc⟩ := hs
    exact ⟨cx, hU, { hc with tk := hc.tk, env := hc.env }⟩
  · obtain ⟨hnx, s2, hle, hnx2, h2⟩ := hk
    have hs2 := hle F _ a1 w1 hs1
    rw [Nat.zero_add, hl1] at hs2 ⊢
    refine ops_wp (F := F) (nx := s.nx) (K := fun s' => s'.nx = (s.bump ops.size).nx ∧ Run P N k Q s') (ops.toList.drop n) n s2 a1 w1 (fun j => by rw [List.getElem?_drop]; simp) (by omega) (opsWp_imp_nx (n := (s.bump ops.size).nx) (fun s' hn h => ⟨hn, h⟩) (by rw [hnx2, hnx]) h2) hs2 fun s' a' w' hk hs' => ?_
    refine hk.2.out F a' w' ?_
    show Sim N F (fun g => g < s'.nx) s' a' w'
    rw [hk.1]
    exact hs'
/-- What comes with a row may be told as a slice that stays as it is. -/
theorem acall_sl {f : FuncId} {args : List AV} {n : Nat} {T0 : Tok} (h : ACall P f args (.own 0 0 0 n) (some T0)) (hn : n * T0.sz ≤ T0.cs.length) : ACall P f args (.sl n (T0.cs.take (n * T0.sz))) none := by
  refine ⟨h.1, fun w vargs Z0 hZ0 hargs => (h.2 w vargs Z0 hZ0 hargs).mono ?_⟩
  rintro e w' ⟨v, cx, rfl, hr, hrep⟩
  obtain ⟨t1, t2, t3⟩ := hr.tok T0 rfl
  have htk : cx.tk 0 = some T0 := by rw [hr.tk]; simp
  let cx' : Cx := { h := w'.heap, Z := fun b => cx.Z b ∨ cx.ρ 0 = some b, ρ := fun _ => none, tk := fun t => if t = 0 then none else none, U := fun g => g = 0 }
  have hblk : ∀ b, cx.ρ 0 = some b → b < w'.heap.size := by
    intro b hb
    obtain ⟨⟨arr, el, fz, g1, _⟩, _⟩ := t3 b hb
    exact (Array.getElem?_eq_some_iff.1 g1).1
  refine ⟨v, cx', rfl, { h := rfl, tk := rfl, U := rfl, Zlt := fun b hb => ?_, Znew := fun b hb => ?_, tok := fun T0 h => (by cases h), below := hr.below }, ?_⟩
  · rcases hb with hb | hb
    · exact hr.Zlt b hb
    · exact hblk b hb
  · rcases hb with hb | hb
    · exact hr.Znew b hb
    · exact .inr (t3 b hb).2.1
  · have hTr : Tr (cxA w' cx.Z) cx' := ⟨fun b hb => ⟨.inl hb, rfl⟩, fun g hg => hg.elim, fun t T' e _ => by simp [cx'] at e, fun t T b arr el fz e _ _ => by cases e⟩
    cases hrep with
    | own _ _ _ _ p c hU hnc hh =>
      rcases hh T0 htk t1 with ⟨h0, hc0⟩ | ⟨b, arr, el, fz, g1, g2, g3, g4⟩
      · subst h0; simp; exact .sl0 _ _
      · obtain ⟨⟨arr', el', fz', f1, f2, f3, f4, f5⟩, q2, q3⟩ := t3 b g1
        rw [hr.h] at g3
        change w'.heap[b]? = _ at f1
        rw [g3] at f1
        cases f1
        subst g2
        refine .sl n _ _ c arr el fz (.inr g1) g3 rfl hnc ?_ (fun i v _ hv => f3 _ v hv) fun i x v hx hv => ?_
        · show 0 + (T0.cs.take (n * T0.sz)).length ≤ arr.size
          rw [List.length_take]; omega
        · rw [List.getElem?_take] at hx
          split at hx
          · exact (f5 i x v hx (by simpa using hv)).tr hTr
          · cases hx
/-- As okTr, but what is apart is asked first: the search for an order is long where there is none. -/
def okTrI (ops : Array Oper) (l : List (Nat × Foot)) : Bool :=
  (match l with
  | [] => true
  | x :: r => r.all (fun y => indep x.2 y.2 || ordered ops ops.size x.1 y.1) && okTrI ops r)
theorem okTr_of {ops : Array Oper} : ∀ {l : List (Nat × Foot)}, okTrI ops l = true → okTr ops l = true
  | [], _ => rfl
  | x :: r, h => by
    simp only [okTrI, Bool.and_eq_true, List.all_eq_true, Bool.or_eq_true] at h
    simp only [okTr, Bool.and_eq_true, List.all_eq_true]
    refine ⟨fun y hy => ?_, okTr_of h.2⟩
    rw [okPair, Bool.or_eq_true]
    exact (h.1 y hy).symm
end Go.Eng
