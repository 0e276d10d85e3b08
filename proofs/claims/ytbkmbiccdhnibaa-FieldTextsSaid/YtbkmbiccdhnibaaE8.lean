/- The engine, part 8: append. For every program. -/
import Derived.Test.YtbkmbiccdhnibaaE7
import Derived.Deep.Upon
set_option linter.unusedVariables false
namespace Go.Eng
open Go.RowKit

variable {P : Program} {N : Nat} {F : Fr} {s s' : AS} {cx : Cx} {a : Act} {w : World}

theorem setAll_eq {α : Type} : ∀ (us cs : List α) (off : Nat), off + us.length ≤ cs.length → setAll cs off us = cs.take off ++ us ++ cs.drop (off + us.length)
  | [], cs, off, h => by simp [setAll]
  | u :: us, cs, off, h => by
    have hlt : off < cs.length := by simp at h; omega
    rw [setAll, setAll_eq us (cs.set off u) (off + 1) (by simp at h ⊢; omega)]
    have e1 : (cs.set off u).take (off + 1) = cs.take off ++ [u] := by
      rw [List.take_add_one, List.take_set_of_le (Nat.le_refl _)]
      simp [hlt]
    have e2 : (cs.set off u).drop (off + 1 + us.length) = cs.drop (off + (us.length + 1)) := by
      rw [List.drop_set_of_lt (by omega)]
      congr 1; omega
    rw [e1, e2]
    simp
/-- An append of nothing. -/
theorem run_append_zero {t tx e : TypeId} {z : List AV} {size by_ n c : Nat} {p : Option Addr} {y : Value} {us : List Value} (hu : P.underlying t = some (.slice e)) (hz : zc P e = some (z, size, by_)) (hs : Src P size tx y 0 us w)
    (hn : n ≤ c) (ty : TypeId) : (Builtin.append_ #[t, tx] ty #[.slice p n c, y]).run P w = .ok (.slice p n c) w := by
  obtain ⟨i, zv, h1, h2, h3, h4, h5, h5', h6, h7⟩ := zc_out hz
  have hus : us = [] := by have := hs.newsLen; simpa using this
  have hcells := hs.cells
  rw [hus] at hcells
  rcases hs.kind with ⟨e', hk⟩ | hk <;> cases p <;> simp [Builtin.append_, run_underlying hu, run_underlying hk, sizeOf, typeInfo, h1, h3, hs.len, hn, hcells, storeCells]

theorem upd_fresh (h : SimC N F s cx a w) {t : Nat} {T : Tok} (ht : cx.tk t = some T) (st : Nat) (hst : ¬ cx.U st) (T' : Tok) (hg : T'.g = st) (hsz : T'.sz = T.sz) (hcs : T'.cs = T.cs) :
    ∃ cx', cx'.U = (fun g => cx.U g ∨ g = st) ∧ Tr cx cx' ∧ SimC N F (s.setT t T') cx' a w ∧ cx'.tk t = some T' := by
  subst hg
  cases hρ : cx.ρ t with
  | none =>
    have hk := h.lazyTok t T' w rfl rfl rfl rfl hst (by rw [hcs]; exact h.none_ t T ht hρ)
    exact ⟨_, rfl, hk.1, hk.2, by simp [Cx.newTok]⟩
  | some b =>
    obtain ⟨arr, el, fz, f1, f2, f3, f4, f5⟩ := h.row t T b ht hρ
    rw [h.h] at f1
    have hk := h.updTok (T' := T') ht hρ arr arr el el fz fz f1 w f1 (fun _ _ => rfl) rfl rfl rfl rfl (.inr hst) hsz (Nat.le_refl _) f2 f3 (by rw [hcs]; exact f4) (by rw [hcs]; exact f5)
    exact ⟨_, rfl, hk.1, hk.2, by simp [Cx.updTok]⟩

theorem snd_append {o : Oper} {st : Nat} {c : Call} (ho : o.op = .call c) (hc : c.callee = .builtin .append) : Snd P N st o := by
  intro F s s' cx a w next Q hr hst hs hn
  unfold aop at hr; rw [ho] at hr
  obtain ⟨xs, hr, hxs⟩ := evL_runs hs hr
  rw [hc] at hr
  simp only at hr
  split at hr
  · rename_i x y t tx ht htx
    obtain ⟨x0, y0, hargs⟩ : ∃ x0 y0, c.args = #[x0, y0] := by
      have hl := hxs.1
      simp at hl
      have : c.args.toList.length = 2 := by simpa using hl.symm
      obtain ⟨x0, r, e1⟩ := List.exists_cons_of_length_eq_add_one this
      obtain ⟨y0, r2, e2⟩ := List.exists_cons_of_length_eq_add_one (l := r) (n := 0) (by rw [e1] at this; simpa using this)
      have : r2 = [] := by rw [e1, e2] at this; simpa using this
      subst this
      exact ⟨x0, y0, by apply Array.ext'; rw [e1, e2]⟩
    have hxs' : RepL cx [x, y] [a.eval x0, a.eval y0] := by rw [hargs] at hxs; exact hxs
    obtain ⟨v1, vs1, e1, hx, hr1⟩ := hxs'.uncons
    obtain ⟨v2, vs2, e2, hy, hr2⟩ := hr1.uncons
    simp only [List.cons.injEq] at e1
    obtain ⟨rfl, rfl⟩ := e1
    simp only [List.cons.injEq] at e2
    obtain ⟨rfl, rfl⟩ := e2
    have hats : ∀ vs : Array Value, (Builtin.append_ c.argTypes o.type vs) = (Builtin.append_ #[t, tx] o.type vs) := by
      intro vs
      unfold Builtin.append_
      simp only [ht, htx]
      rfl
    have hm : c.args.map a.eval = #[a.eval x0, a.eval y0] := by rw [hargs]; simp
    have hrun : ∀ (v : Value) (w' : World), (Builtin.append_ #[t, tx] o.type #[a.eval x0, a.eval y0]).run P w = .ok v w' → (execOp a.eval o).run P w = .ok (.value v) w' := by
      intro v w' h
      have : ∀ consts, (builtin .append c.argTypes o.type consts #[a.eval x0, a.eval y0]).run P w = .ok (.value v) w' := by
        intro consts
        simp only [builtin, Sem.run_bind, hats, h, Result.andThen_ok, Sem.run_pure]
      simp only [execOp, ho, resolve, hc, invoke, pure_bind]
      rw [hm]
      exact this _
    unfold appendB at hr
    cases hu : P.underlying t with
    | none => rw [hu] at hr; cases hr
    | some d =>
      rw [hu] at hr
      cases d with
      | slice e =>
        simp only at hr
        cases hz : zc P e with
        | none => rw [hz] at hr; cases hr
        | some q =>
          obtain ⟨z, size, by_⟩ := q
          rw [hz] at hr
          simp only at hr
          split at hr
          · rename_i hpos
            obtain ⟨m, cs, us, hr, hsrc, hrs, hls, _⟩ := srcOf_runs hs hy hr
            cases x with
            | nilS =>
              simp only at hr
              split at hr
              · rename_i hlim
                have ev : a.eval x0 = .slice none 0 0 := by cases hx' : a.eval x0 <;> rw [hx'] at hx <;> cases hx; rfl
                by_cases hm : m = 0
                · subst hm
                  have hcs : cs = [] := by simpa using hls
                  subst hcs
                  have hr0 := hrun _ _ (by rw [ev]; exact run_append_zero hu hz hsrc (Nat.le_refl _) o.type)
                  unfold Oper.wp
                  rw [hr0, Oper.upon_value]
                  unfold mk at hr
                  cases hd : o.dst with
                  | none => rw [hd] at hr; cases hr
                  | some d =>
                    rw [hd] at hr
                    simp only at hr
                    split at hr
                    · rename_i hlt
                      cases hr
                      rename_i hr
                      cases hr
                      rename_i hr
                      cases hr
                      have hk := hs.lazyTok d ⟨st, size, []⟩ w rfl rfl rfl rfl hst rfl
                      exact hn _ _ ⟨_, rfl, hk.2.putE hlt (.own d st 0 0 none 0 (.inr rfl) (Nat.le_refl _) fun T hT hg => .inl ⟨rfl, rfl⟩)⟩
                    · cases hr
                · have hold : (Builtin.firstCells size 0 (.slice none 0 0)).run P w.drew = .ok ([] : List Value).toArray w.drew := by simp [Builtin.firstCells]
                  obtain ⟨arr, c', g1, g2, g3, g4, g5, g6⟩ := append_new (cx := cx) (n := 0) (cap := 0) (p := none) (cs0 := []) (olds := []) hu hz hpos hold (by simp) (RepL.nil _) (by simp) hsrc hrs hls (by omega) (by simpa using hlim.1) (by omega) o.type
                  have hr0 := hrun _ _ (by rw [ev]; exact g1)
                  simp only [Nat.zero_add, List.nil_append] at g1 g2 g5 g6 hr0
                  exact done_mk (w' := w.drew.alloc (.cells arr e)) hs hr hst arr e (0, 0) rfl rfl rfl rfl (.inl rfl) g4 g5 g6 hr0 (fun d cx' e1 e2 e3 e4 => own_new e1 e2 e3 e4 g2 g3) hn
              · cases hr
            | own tk g off n =>
              obtain ⟨T, e1, e2, hr⟩ := row_runs hs hr
              split at hr
              · rename_i hcond
                obtain ⟨k1, k2, k3, k4, k5⟩ := hcond
                cases hr with
                | putT _ _ _ _ _ hr =>
                  cases hv : a.eval x0 with
                  | slice p n' cap =>
                    rw [hv] at hx
                    cases hx with
                    | own _ _ _ _ _ _ hU hnc hh0 =>
                      have hh : ∀ T, cx.tk tk = some T → T.g = g → (n = 0 ∧ cap = 0) ∨ ∃ b arr el fz, cx.ρ tk = some b ∧ p = some ⟨b, 0, none⟩ ∧ cx.h[b]? = some (.cells arr el fz) ∧ cap * T.sz ≤ arr.size := by
                        intro T h1 h2
                        rcases hh0 T h1 h2 with h | ⟨b, arr, el, fz, h3, h4, h5, h6⟩
                        · exact .inl h
                        · exact .inr ⟨b, arr, el, fz, h3, by rw [h4, k1], h5, by omega⟩
                      by_cases hroom : n + m ≤ cap
                      · rcases hh T e1 e2 with ⟨h0, hc0⟩ | ⟨b, arr, el, fz, h1, h2, h3, h4⟩
                        · have hm : m = 0 := by omega
                          subst hm
                          have hcs : cs = [] := by simpa using hls
                          subst hcs
                          have hr0 := hrun _ _ (by rw [hv]; exact run_append_zero hu hz hsrc hnc o.type)
                          obtain ⟨cx', u1, u2, u3, u4⟩ := upd_fresh hs e1 st hst ⟨st, size, T.cs ++ []⟩ rfl k2.symm (by simp)
                          refine done_out u3 hr0 hr (.own tk st 0 _ _ _ (by rw [u1]; exact .inr rfl) (by omega) fun T' hT hg => .inl ⟨by omega, hc0⟩) (fun g hg => by rw [u1] at hg; exact hg) hn
                        · subst h2
                          obtain ⟨arr', el', fz', f1, f2, f3, f4, f5⟩ := hs.row tk T b e1 h1
                          rw [h3] at f1
                          cases f1
                          rw [hs.h] at h3
                          have hul : us.length = m * size := by rw [← hrs.1]; exact hls
                          have hfit : n * size + us.length ≤ arr.size := by
                            rw [hul, ← Nat.add_mul]
                            have : (n + m) * size ≤ cap * size := Nat.mul_le_mul_right _ hroom
                            rw [k2] at h4
                            omega
                          obtain ⟨i, zv, i1, i2, i3, i4, i5, i5', i6, i7⟩ := zc_out hz
                          have hrw := run_append_room_src (P := P) w t tx o.type e i hu i1 b 0 n cap (a.eval y0) m us (by rw [i3]; exact hsrc) hroom (fun j hj => by rw [cell_at h3, i3]; simp; omega) (fun j hj => frozen_at h3 f2 (by rw [i3]; omega))
                          rw [i3, Nat.zero_add] at hrw
                          have hr0 := hrun _ _ (by rw [hv]; exact hrw)
                          have hset : setAll arr.toList (n * size) us = arr.toList.take (n * size) ++ us ++ arr.toList.drop (n * size + us.length) := by
                            exact setAll_eq us arr.toList (n * size) (by simpa using hfit)
                          have hk := hs.updTok (T' := ⟨st, size, T.cs ++ cs⟩) e1 h1 arr (setAll arr.toList (n * size) us).toArray el el fz fz h3 (w.setCells b (n * size) us) (heap_setCells b us _ w arr el fz h3) (fun k hk => heap_setCells_other b us _ w k hk)
                            (setCells_size b us _ w) (setCells_rest b us _ w).1 (setCells_rest b us _ w).2.1 (setCells_rest b us _ w).2.2 (.inr hst) k2.symm (by simp [setAll_length]) (by simpa [setAll_length] using f2)
                            (fun i v hv => by
                              rw [List.getElem?_toArray] at hv
                              exact setAll_mem (p := fun v => cell1 v = true) us arr.toList _ (fun x hx => by obtain ⟨j, hj⟩ := List.getElem?_of_mem hx; exact f3 j x (by simpa using hj)) (fun x hx => hsrc.one x hx) v (List.mem_of_getElem? hv))
                            (by simp only [List.size_toArray, setAll_length, List.length_append, Array.length_toList, k3, hls]; rw [← hul]; exact hfit)
                            (fun i x v hx hv => by
                              rw [List.getElem?_toArray, hset] at hv
                              have hpre : RepL cx (T.cs ++ cs) (arr.toList.take (n * size) ++ us) := by
                                refine RepL.append ⟨by simp; omega, fun j y u hy hu => ?_⟩ hrs
                                rw [List.getElem?_take] at hu
                                split at hu
                                · exact f5 j y u hy (by simpa using hu)
                                · cases hu
                              have hlt : i < (T.cs ++ cs).length := (List.getElem?_eq_some_iff.1 hx).1
                              rw [List.getElem?_append_left (by rw [← hpre.1]; exact hlt)] at hv
                              exact hpre.2 i x v hx hv)
                          refine done_out hk.2 hr0 hr (.own tk st 0 (n + m) _ cap (.inr rfl) hroom fun T' hT hg => .inr ⟨b, (setAll arr.toList (n * size) us).toArray, el, fz, h1, rfl, heap_setCells b us _ w arr el fz h3, ?_⟩) (fun g hg => hg) hn
                          simp only [Cx.updTok, if_true, Option.some.injEq] at hT
                          subst hT
                          simp only [List.size_toArray, setAll_length, Array.length_toList]
                          rw [k2] at h4
                          simpa using h4
                      · -- it grows
                        have hold : ∃ olds : List Value, (Builtin.firstCells size n (.slice p n cap)).run P w.drew = .ok olds.toArray w.drew ∧ (∀ u ∈ olds, u.oneCell' = true) ∧ RepL cx T.cs olds := by
                          have hcell : CellsAt P cx w (.slice p n cap) n T.cs := by
                            refine cellsAt_of rfl hnc ?_
                            rcases hh T e1 e2 with ⟨h0, hc0⟩ | ⟨b, arr, el, fz, h1, h2, h3, h4⟩
                            · left; exact ⟨h0, by rw [h0] at k3; simpa using k3⟩
                            · right
                              obtain ⟨arr', el', fz', f1, f2, f3, f4, f5⟩ := hs.row tk T b e1 h1
                              rw [h3] at f1
                              cases f1
                              exact ⟨b, 0, arr, el, fz, h2, by rw [← hs.h]; exact h3, by omega, (fun i v _ hv => f3 _ v hv), fun i x v hx hv => f5 i x v hx (by simpa using hv)⟩
                          obtain ⟨olds, q1, q2, q3, q4, _⟩ := hcell.read size k3
                          exact ⟨olds, q1 w.drew rfl, q3, q2⟩
                        obtain ⟨olds, q1, q2, q3⟩ := hold
                        obtain ⟨arr, c', g1, g2, g3, g4, g5, g6⟩ := append_new (cx := cx) hu hz hpos q1 q2 q3 k3 hsrc hrs hls (by omega) k4 k5 o.type
                        have hr0 := hrun _ _ (by rw [hv]; exact g1)
                        have hk := hs.newTok tk ⟨st, size, T.cs ++ cs⟩ arr e (0, 0) (w.drew.alloc (.cells arr e)) rfl rfl rfl rfl hst (.inl rfl) g4 g5 g6
                        refine done_out hk.2 hr0 hr (own_new (sz := size) (cs := T.cs ++ cs) (arr := arr) (el := e) (fz := (0, 0)) (b := w.heap.size) (by simp [Cx.newTok]) (by simp [Cx.newTok]) (.inr rfl) ?_ g2 g3) (fun g hg => hg) hn
                        show (w.heap.push (.cells arr e))[w.heap.size]? = _
                        rw [Array.getElem?_push, if_pos rfl]
                  | _ => rw [hv] at hx; cases hx
              · cases hr
            | arr tk g off n =>
              obtain ⟨T, e1, e2, hr⟩ := row_runs hs hr
              split at hr
              · rename_i hcond
                obtain ⟨k1, k2, k3, k4⟩ := hcond
                cases hv : a.eval x0 with
                | slice p n' cap =>
                  rw [hv] at hx
                  cases hx with
                  | arr _ _ _ _ _ hU hh =>
                    obtain ⟨b, h1, h2⟩ := hh T e1 e2
                    obtain ⟨arr0, el, fz, f1, f2, f3, f4, f5⟩ := hs.row tk T b e1 h1
                    rw [hs.h] at f1
                    have hlen : ((T.cs.drop off).take (n * size)).length = n * size := by simp; omega
                    have hcell : CellsAt P cx w (.slice p n n) n ((T.cs.drop off).take (n * size)) := by
                      refine cellsAt_of rfl (Nat.le_refl _) (.inr ⟨b, off, arr0, el, fz, h2, f1, by rw [hlen]; omega, (fun i v _ hv => f3 _ v hv), fun i x v hx hv => ?_⟩)
                      rw [List.getElem?_take, List.getElem?_drop] at hx
                      split at hx
                      · exact f5 _ x v hx hv
                      · cases hx
                    obtain ⟨olds, q1, q2, q3, q4, _⟩ := hcell.read size hlen
                    obtain ⟨arr, c', g1, g2, g3, g4, g5, g6⟩ := append_new (cx := cx) (cap := n) hu hz hpos (q1 w.drew rfl) q3 q2 hlen hsrc hrs hls (by omega) k3 k4 o.type
                    have hr0 := hrun _ _ (by rw [hv]; exact g1)
                    exact done_mk (w' := w.drew.alloc (.cells arr e)) hs hr hst arr e (0, 0) rfl rfl rfl rfl (.inl rfl) g4 g5 g6 hr0 (fun d cx' e1 e2 e3 e4 => own_new e1 e2 e3 e4 g2 g3) hn
                | _ => rw [hv] at hx; cases hx
              · cases hr
            | _ => cases hr
          · cases hr
      | _ => cases hr
  · cases hr
end Go.Eng
