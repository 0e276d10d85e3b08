/- GEb: the texts E7, E8, E9, E10, E11, one behind the other. -/
import Derived.Test.YteapibifebnboaaGEa
import Derived.Deep.Upon
import Derived.Laws.StructEq
import Derived.ChangeKeysEq
set_option linter.unusedVariables false
set_option linter.unusedSimpArgs false

/- The engine, part 7: append, copy, least and greatest, conversions, arithmetic. For every program. -/
set_option linter.unusedVariables false
namespace Go.Eng
open Go.RowKit

variable {P : Program} {N : Nat} {F : Fr} {s s' : AS} {cx : Cx} {a : Act} {w : World}

/-! ### What a slice's cells are -/
/-- The cells of a slice lie in the world. -/
structure CellsAt (P : Program) (cx : Cx) (w : World) (v : Value) (n : Nat) (cs : List AV) : Prop where
  shape : ∃ p c, v = .slice p n c ∧ n ≤ c
  read : ∀ size, cs.length = n * size → ∃ us : List Value, (∀ w' : World, w'.heap = w.heap → (Builtin.firstCells size n v).run P w' = .ok us.toArray w') ∧ RepL cx cs us ∧ (∀ u ∈ us, u.oneCell' = true) ∧
    (∀ tx e, P.underlying tx = some (.slice e) → Src P size tx v n us w) ∧ ∀ k, k ≤ n → (Builtin.firstCells size k v).run P w = .ok (us.take (k * size)).toArray w

theorem cellsAt_of {v : Value} {p : Option Addr} {n c : Nat} {cs : List AV} (hv : v = .slice p n c) (hn : n ≤ c) (h : (n = 0 ∧ cs = []) ∨ ∃ b o arr el fz, p = some ⟨b, o, none⟩ ∧ w.heap[b]? = some (.cells arr el fz) ∧
    o + cs.length ≤ arr.size ∧ (∀ (i : Nat) (v : Value), i < cs.length → arr[o + i]? = some v → cell1 v = true) ∧ ∀ (i : Nat) (x : AV) (v : Value), cs[i]? = some x → arr[o + i]? = some v → Rep cx x v) : CellsAt P cx w v n cs := by
  subst hv
  refine ⟨⟨p, c, rfl, hn⟩, fun size hl => ?_⟩
  rcases h with ⟨rfl, rfl⟩ | ⟨b, o, arr, el, fz, rfl, h1, h2, h3, h4⟩
  · refine ⟨[], fun w' _ => ?_, RepL.nil _, (fun u hu => by cases hu), fun tx e hu => ?_, fun k hk => ?_⟩
    · cases p <;> simp [Builtin.firstCells, loadCells, loadCellsFrom]
    · cases p with
      | none => exact Src.ofNil w hu c
      | some ad => exact Src.ofSlice w hu ad 0 c [] (by simp) (fun j u h => by simp at h) (fun u h => by cases h)
    · have : k = 0 := by omega
      subst this
      cases p <;> simp [Builtin.firstCells, loadCells, loadCellsFrom]
  · have hget : ∀ (j : Nat) (u : Value), ((arr.toList.drop o).take cs.length)[j]? = some u → arr[o + j]? = some u := by
      intro j u hu
      rw [List.getElem?_take, List.getElem?_drop] at hu
      split at hu
      · simpa using hu
      · cases hu
    have hlen : ((arr.toList.drop o).take cs.length).length = cs.length := by simp; omega
    have hcell : ∀ (w' : World), w'.heap = w.heap → ∀ (j : Nat) (u : Value), ((arr.toList.drop o).take cs.length)[j]? = some u → w'.cell? ((⟨b, o, none⟩ : Addr).add j) = some u := by
      intro w' hw j u hu
      rw [add_off _ _ rfl, cell_at (by rw [hw]; exact h1)]
      exact hget j u hu
    have hone : ∀ u ∈ (arr.toList.drop o).take cs.length, u.oneCell' = true := by
      intro u hu
      obtain ⟨j, hj⟩ := List.getElem?_of_mem hu
      have hjl : j < cs.length := by rw [← hlen]; exact (List.getElem?_eq_some_iff.1 hj).1
      exact h3 j u hjl (hget j u hj)
    refine ⟨(arr.toList.drop o).take cs.length, fun w' hw => run_firstCells_some w' size n _ n c _ (by rw [hlen, hl]) (hcell w' hw), ⟨hlen.symm, fun i x v hx hv => h4 i x v hx (hget i v hv)⟩, hone, fun tx e hu => ?_, fun k hk => ?_⟩
    · exact Src.ofSlice w hu _ n c _ (by rw [hlen, hl]) (hcell w rfl) hone
    · have hks : k * size ≤ n * size := Nat.mul_le_mul_right _ hk
      refine run_firstCells_some w size k _ n c _ (by rw [List.length_take, hlen, hl]; omega) (fun j u hu => hcell w rfl j u ?_)
      rw [List.getElem?_take] at hu
      split at hu
      · exact hu
      · cases hu

theorem cellsOf_runs {x : AV} {v : Value} {k : Nat → List AV → M} (hs : SimC N F s cx a w) (hx : Rep cx x v) (hr : (cellsOf x k).Runs P s s') :
    ∃ n cs, (k n cs).Runs P s s' ∧ CellsAt P cx w v n cs := by
  unfold cellsOf at hr
  cases x with
  | nilS => cases hx with | nilS => exact ⟨0, [], hr, cellsAt_of rfl (Nat.le_refl _) (.inl ⟨rfl, rfl⟩)⟩
  | sl n cs =>
    cases hx with
    | sl0 p c => exact ⟨0, [], hr, cellsAt_of rfl (Nat.zero_le _) (.inl ⟨rfl, rfl⟩)⟩
    | sl _ _ ad c arr el fz hz hb hsp hn hl h1 h =>
      refine ⟨n, cs, hr, cellsAt_of rfl hn (.inr ⟨ad.block, ad.off, arr, el, fz, ?_, by rw [← hs.h]; exact hb, hl, h1, h⟩)⟩
      cases ad; simp_all
  | own t g off n =>
    obtain ⟨T, e1, e2, hr⟩ := row_runs hs hr
    cases hx with
    | own _ _ _ _ p c hU hnc hh =>
      refine ⟨n, _, hr, cellsAt_of rfl hnc ?_⟩
      rcases hh T e1 e2 with ⟨h0, hc0⟩ | ⟨b, arr, el, fz, h1, h2, h3, h4⟩
      · left; exact ⟨h0, by simp [h0]⟩
      · right
        obtain ⟨arr', el', fz', f1, f2, f3, f4, f5⟩ := hs.row t T b e1 h1
        rw [h3] at f1
        cases f1
        refine ⟨b, off, arr, el, fz, h2, by rw [← hs.h]; exact h3, ?_, (fun i v _ hv => f3 _ v hv), fun i x v hx hv => ?_⟩
        · have : n * T.sz ≤ c * T.sz := Nat.mul_le_mul_right _ hnc
          simp only [List.length_take, List.length_drop]
          omega
        · rw [List.getElem?_take, List.getElem?_drop] at hx
          split at hx
          · exact f5 _ x v hx hv
          · cases hx
  | _ => cases hr

theorem u8s_rep (cx : Cx) (sv : ByteArray) : RepL cx (u8s (bytesOf sv)) (byteCells sv) := by
  refine ⟨by simp [u8s, bytesOf, byteCells], fun i x v hx hv => ?_⟩
  simp only [u8s, bytesOf, byteCells, List.getElem?_map] at hx hv
  cases h : sv.data.toList[i]? with
  | none => rw [h] at hx; simp at hx
  | some b =>
    rw [h] at hx hv
    simp at hx hv
    subst hx; subst hv
    exact .int _ _

/-- What is appended. -/
theorem srcOf_runs {tx : TypeId} {size : Nat} {y : AV} {v : Value} {k : Nat → List AV → M} (hs : SimC N F s cx a w) (hy : Rep cx y v) (hr : (srcOf P tx size y k).Runs P s s') :
    ∃ m cs us, (k m cs).Runs P s s' ∧ Src P size tx v m us w ∧ RepL cx cs us ∧ cs.length = m * size ∧ ∀ k, k ≤ m → (Builtin.firstCells size k v).run P w = .ok (us.take (k * size)).toArray w := by
  unfold srcOf at hr
  cases hu : P.underlying tx with
  | none => rw [hu] at hr; cases hr
  | some d =>
    rw [hu] at hr
    cases d with
    | string =>
      cases y with
      | str l =>
        simp only at hr
        split at hr
        · rename_i hsz
          subst hsz
          obtain ⟨sv, rfl, hl⟩ := rep_str hy
          subst hl
          refine ⟨_, _, byteCells sv, hr, by rw [bytesOf_length]; exact Src.ofString w hu sv, u8s_rep cx sv, by simp [u8s], fun k hk => ?_⟩
          rw [bytesOf_length] at hk
          simp only [Builtin.firstCells, Nat.mul_one, Sem.run_pure, Result.ok.injEq, and_true]
          apply Array.ext'
          simp [byteCells, List.extract, ByteArray.data_extract]
        · cases hr
      | _ => cases hr
    | slice e =>
      simp only at hr
      obtain ⟨n, cs, hr, hc⟩ := cellsOf_runs hs hy hr
      split at hr
      · rename_i hl
        obtain ⟨us, h1, h2, h3, h4, h5⟩ := hc.read size hl
        exact ⟨n, cs, us, hr, h4 tx e hu, h2, hl, h5⟩
      · cases hr
    | _ => cases hr

theorem zeroCells_one {z : Value} (h : ∀ (i : Nat) (u : Value), z.cells[i]? = some u → cell1 u = true) (hz : 0 < z.cells.size) (n : Nat) : ∀ u ∈ (Builtin.zeroCells z.cells n).toList, cell1 u = true := by
  intro u hu
  simp only [Builtin.zeroCells, Array.toList_map, Array.toList_range, List.mem_map] at hu
  obtain ⟨i, hi, rfl⟩ := hu
  have hlt : i % z.cells.size < z.cells.size := Nat.mod_lt _ hz
  have e : z.cells[i % z.cells.size]! = z.cells[i % z.cells.size] := by simp [hlt]
  rw [e]
  exact h (i % z.cells.size) _ (by simp [hlt])
theorem growBy_le (newLen : Nat) : ∀ (r c : Nat), Builtin.growBy newLen r c ≤ max c (newLen + (newLen + 768) / 4)
  | 0, c => by simp only [Builtin.growBy]; omega
  | r + 1, c => by
    simp only [Builtin.growBy]
    split
    · omega
    · have := growBy_le newLen r (c + (c + 768) / 4)
      omega
theorem nextcap_fits {need cap by_ : Nat} (h : cap < need) (hb : need * by_ ≤ 140737488355328) : Builtin.nextslicecap need cap * by_ ≤ 281474976710656 := by
  have key : Builtin.nextslicecap need cap ≤ 2 * need := by
    unfold Builtin.nextslicecap
    split
    · omega
    · split
      · omega
      · have := growBy_le need 4 cap; omega
  have : Builtin.nextslicecap need cap * by_ ≤ 2 * need * by_ := Nat.mul_le_mul_right _ key
  rw [Nat.mul_assoc] at this
  omega
theorem grown_le (w : World) (need old : Nat) (e : TypeId) (h : need ≤ 4611686018427387904) : need ≤ grownCap w need old e := by
  simp only [grownCap, Question.cut]; omega

/-- An append that grows, onto cells that are read: the new row. -/
theorem append_new {t tx e : TypeId} {z : List AV} {size by_ n m cap : Nat} {p : Option Addr} {y : Value} {olds us : List Value} {cs0 cs : List AV}
    (hu : P.underlying t = some (.slice e)) (hz : zc P e = some (z, size, by_)) (hpos : 0 < size) (hold : (Builtin.firstCells size n (.slice p n cap)).run P w.drew = .ok olds.toArray w.drew) (ho1 : ∀ u ∈ olds, u.oneCell' = true)
    (hro : RepL cx cs0 olds) (hlo : cs0.length = n * size) (hsrc : Src P size tx y m us w) (hrs : RepL cx cs us) (hls : cs.length = m * size) (hg : cap < n + m) (hb : (n + m) * by_ ≤ 140737488355328) (h63 : n + m ≤ 4611686018427387904) (ty : TypeId) :
    ∃ arr c, (Builtin.append_ #[t, tx] ty #[.slice p n cap, y]).run P w = .ok (.slice (some ⟨w.heap.size, 0, none⟩) (n + m) c) (w.drew.alloc (.cells arr e)) ∧ n + m ≤ c ∧ c * size ≤ arr.size ∧
      (∀ (i : Nat) (v : Value), arr[i]? = some v → cell1 v = true) ∧ (cs0 ++ cs).length ≤ arr.size ∧ ∀ (i : Nat) (x : AV) (v : Value), (cs0 ++ cs)[i]? = some x → arr[i]? = some v → Rep cx x v := by
  obtain ⟨i, zv, h1, h2, h3, h4, h5, h5', h6, h7⟩ := zc_out hz
  have hgr := grown_le w (n + m) cap e h63
  have hol : olds.length = n * size := by rw [← hro.1]; exact hlo
  have hul : us.length = m * size := by rw [← hrs.1]; exact hls
  refine ⟨_, _, run_append_grow_src w t tx ty e i zv hu h1 h2 p n cap olds (by rw [h3]; exact hold) y m us (by rw [h3]; exact hsrc) hg (by omega) (by rw [h4]; exact nextcap_fits hg hb), hgr, ?_, fun j v hj => ?_, ?_, fun j x v hx hv => ?_⟩
  · simp only [Array.size_append, List.size_toArray, List.length_append, Builtin.zeroCells, Array.size_map, Array.size_range, h5, hol, hul]
    have : n * size + m * size = (n + m) * size := by rw [Nat.add_mul]
    have : (grownCap w (n + m) cap e - (n + m)) * size + (n + m) * size = grownCap w (n + m) cap e * size := by rw [← Nat.add_mul]; congr 1; omega
    omega
  · have hm : v ∈ ((olds ++ us).toArray ++ Builtin.zeroCells zv.cells (grownCap w (n + m) cap e - (n + m))).toList := Array.mem_toList_iff.2 (Array.mem_of_getElem? hj)
    simp only [Array.toList_append, List.mem_append] at hm
    rcases hm with (hm | hm) | hm
    · exact ho1 v hm
    · exact hsrc.one v hm
    · exact zeroCells_one h6 (by omega) _ v hm
  · simp only [Array.size_append, List.size_toArray, List.length_append, hro.1, hrs.1]; omega
  · have hlt : j < (cs0 ++ cs).length := (List.getElem?_eq_some_iff.1 hx).1
    rw [Array.getElem?_append] at hv
    rw [if_pos (by simpa [hro.1, hrs.1] using hlt)] at hv
    exact (RepL.append hro hrs).2 j x v hx (by simpa using hv)
end Go.Eng

/- The engine, part 8: append. For every program. -/
set_option linter.unusedVariables false
namespace Go.Eng
open Go.RowKit

variable {P : Program} {N : Nat} {F : Fr} {s s' : AS} {cx : Cx} {a : Act} {w : World}

theorem setAll_eq {α : Type} : ∀ (us cs : List α) (off : Nat), off + us.length ≤ cs.length → setAll cs off us = cs.take off ++ us ++ cs.drop (off + us.length)
  | [], cs, off, h => by simp [setAll]
  | u :: us, cs, off, h => by
    have hlt : off < cs.length := by simp at h; omega
    rw [setAll, setAll_eq us (cs.set off u) (off + 1) (by simp at h ⊢; omega)]
    have e1 : (cs.set off u).take (off + 1) = cs.take off ++ [u] := by
      rw [List.take_add_one, List.take_set_of_le (Nat.le_refl _)]
      simp [hlt]
    have e2 : (cs.set off u).drop (off + 1 + us.length) = cs.drop (off + (us.length + 1)) := by
      rw [List.drop_set_of_lt (by omega)]
      congr 1; omega
    rw [e1, e2]
    simp
/-- An append of nothing. -/
theorem run_append_zero {t tx e : TypeId} {z : List AV} {size by_ n c : Nat} {p : Option Addr} {y : Value} {us : List Value} (hu : P.underlying t = some (.slice e)) (hz : zc P e = some (z, size, by_)) (hs : Src P size tx y 0 us w)
    (hn : n ≤ c) (ty : TypeId) : (Builtin.append_ #[t, tx] ty #[.slice p n c, y]).run P w = .ok (.slice p n c) w := by
  obtain ⟨i, zv, h1, h2, h3, h4, h5, h5', h6, h7⟩ := zc_out hz
  have hus : us = [] := by have := hs.newsLen; simpa using this
  have hcells := hs.cells
  rw [hus] at hcells
  rcases hs.kind with ⟨e', hk⟩ | hk <;> cases p <;> simp [Builtin.append_, run_underlying hu, run_underlying hk, sizeOf, typeInfo, h1, h3, hs.len, hn, hcells, storeCells]

theorem upd_fresh (h : SimC N F s cx a w) {t : Nat} {T : Tok} (ht : cx.tk t = some T) (st : Nat) (hst : ¬ cx.U st) (T' : Tok) (hg : T'.g = st) (hsz : T'.sz = T.sz) (hcs : T'.cs = T.cs) :
    ∃ cx', cx'.U = (fun g => cx.U g ∨ g = st) ∧ Tr cx cx' ∧ SimC N F (s.setT t T') cx' a w ∧ cx'.tk t = some T' := by
  subst hg
  cases hρ : cx.ρ t with
  | none =>
    have hk := h.lazyTok t T' w rfl rfl rfl rfl hst (by rw [hcs]; exact h.none_ t T ht hρ)
    exact ⟨_, rfl, hk.1, hk.2, by simp [Cx.newTok]⟩
  | some b =>
    obtain ⟨arr, el, fz, f1, f2, f3, f4, f5⟩ := h.row t T b ht hρ
    rw [h.h] at f1
    have hk := h.updTok (T' := T') ht hρ arr arr el el fz fz f1 w f1 (fun _ _ => rfl) rfl rfl rfl rfl (.inr hst) hsz (Nat.le_refl _) f2 f3 (by rw [hcs]; exact f4) (by rw [hcs]; exact f5)
    exact ⟨_, rfl, hk.1, hk.2, by simp [Cx.updTok]⟩

theorem snd_append {o : Oper} {st : Nat} {c : Call} (ho : o.op = .call c) (hc : c.callee = .builtin .append) : Snd P N st o := by
  intro F s s' cx a w next Q hr hst hs hn
  unfold aop at hr; rw [ho] at hr
  obtain ⟨xs, hr, hxs⟩ := evL_runs hs hr
  rw [hc] at hr
  simp only at hr
  split at hr
  · rename_i x y t tx ht htx
    obtain ⟨x0, y0, hargs⟩ : ∃ x0 y0, c.args = #[x0, y0] := by
      have hl := hxs.1
      simp at hl
      have : c.args.toList.length = 2 := by simpa using hl.symm
      obtain ⟨x0, r, e1⟩ := List.exists_cons_of_length_eq_add_one this
      obtain ⟨y0, r2, e2⟩ := List.exists_cons_of_length_eq_add_one (l := r) (n := 0) (by rw [e1] at this; simpa using this)
      have : r2 = [] := by rw [e1, e2] at this; simpa using this
      subst this
      exact ⟨x0, y0, by apply Array.ext'; rw [e1, e2]⟩
    have hxs' : RepL cx [x, y] [a.eval x0, a.eval y0] := by rw [hargs] at hxs; exact hxs
    obtain ⟨v1, vs1, e1, hx, hr1⟩ := hxs'.uncons
    obtain ⟨v2, vs2, e2, hy, hr2⟩ := hr1.uncons
    simp only [List.cons.injEq] at e1
    obtain ⟨rfl, rfl⟩ := e1
    simp only [List.cons.injEq] at e2
    obtain ⟨rfl, rfl⟩ := e2
    have hats : ∀ vs : Array Value, (Builtin.append_ c.argTypes o.type vs) = (Builtin.append_ #[t, tx] o.type vs) := by
      intro vs
      unfold Builtin.append_
      simp only [ht, htx]
      rfl
    have hm : c.args.map a.eval = #[a.eval x0, a.eval y0] := by rw [hargs]; simp
    have hrun : ∀ (v : Value) (w' : World), (Builtin.append_ #[t, tx] o.type #[a.eval x0, a.eval y0]).run P w = .ok v w' → (execOp a.eval o).run P w = .ok (.value v) w' := by
      intro v w' h
      have : ∀ consts, (builtin .append c.argTypes o.type consts #[a.eval x0, a.eval y0]).run P w = .ok (.value v) w' := by
        intro consts
        simp only [builtin, Sem.run_bind, hats, h, Result.andThen_ok, Sem.run_pure]
      simp only [execOp, ho, resolve, hc, invoke, pure_bind]
      rw [hm]
      exact this _
    unfold appendB at hr
    cases hu : P.underlying t with
    | none => rw [hu] at hr; cases hr
    | some d =>
      rw [hu] at hr
      cases d with
      | slice e =>
        simp only at hr
        cases hz : zc P e with
        | none => rw [hz] at hr; cases hr
        | some q =>
          obtain ⟨z, size, by_⟩ := q
          rw [hz] at hr
          simp only at hr
          split at hr
          · rename_i hpos
            obtain ⟨m, cs, us, hr, hsrc, hrs, hls, _⟩ := srcOf_runs hs hy hr
            cases x with
            | nilS =>
              simp only at hr
              split at hr
              · rename_i hlim
                have ev : a.eval x0 = .slice none 0 0 := by cases hx' : a.eval x0 <;> rw [hx'] at hx <;> cases hx; rfl
                by_cases hm : m = 0
                · subst hm
                  have hcs : cs = [] := by simpa using hls
                  subst hcs
                  have hr0 := hrun _ _ (by rw [ev]; exact run_append_zero hu hz hsrc (Nat.le_refl _) o.type)
                  unfold Oper.wp
                  rw [hr0, Oper.upon_value]
                  unfold mk at hr
                  cases hd : o.dst with
                  | none => rw [hd] at hr; cases hr
                  | some d =>
                    rw [hd] at hr
                    simp only at hr
                    split at hr
                    · rename_i hlt
                      cases hr
                      rename_i hr
                      cases hr
                      rename_i hr
                      cases hr
                      have hk := hs.lazyTok d ⟨st, size, []⟩ w rfl rfl rfl rfl hst rfl
                      exact hn _ _ ⟨_, rfl, hk.2.putE hlt (.own d st 0 0 none 0 (.inr rfl) (Nat.le_refl _) fun T hT hg => .inl ⟨rfl, rfl⟩)⟩
                    · cases hr
                · have hold : (Builtin.firstCells size 0 (.slice none 0 0)).run P w.drew = .ok ([] : List Value).toArray w.drew := by simp [Builtin.firstCells]
                  obtain ⟨arr, c', g1, g2, g3, g4, g5, g6⟩ := append_new (cx := cx) (n := 0) (cap := 0) (p := none) (cs0 := []) (olds := []) hu hz hpos hold (by simp) (RepL.nil _) (by simp) hsrc hrs hls (by omega) (by simpa using hlim.1) (by omega) o.type
                  have hr0 := hrun _ _ (by rw [ev]; exact g1)
                  simp only [Nat.zero_add, List.nil_append] at g1 g2 g5 g6 hr0
                  exact done_mk (w' := w.drew.alloc (.cells arr e)) hs hr hst arr e (0, 0) rfl rfl rfl rfl (.inl rfl) g4 g5 g6 hr0 (fun d cx' e1 e2 e3 e4 => own_new e1 e2 e3 e4 g2 g3) hn
              · cases hr
            | own tk g off n =>
              obtain ⟨T, e1, e2, hr⟩ := row_runs hs hr
              split at hr
              · rename_i hcond
                obtain ⟨k1, k2, k3, k4, k5⟩ := hcond
                cases hr with
                | putT _ _ _ _ _ hr =>
                  cases hv : a.eval x0 with
                  | slice p n' cap =>
                    rw [hv] at hx
                    cases hx with
                    | own _ _ _ _ _ _ hU hnc hh0 =>
                      have hh : ∀ T, cx.tk tk = some T → T.g = g → (n = 0 ∧ cap = 0) ∨ ∃ b arr el fz, cx.ρ tk = some b ∧ p = some ⟨b, 0, none⟩ ∧ cx.h[b]? = some (.cells arr el fz) ∧ cap * T.sz ≤ arr.size := by
                        intro T h1 h2
                        rcases hh0 T h1 h2 with h | ⟨b, arr, el, fz, h3, h4, h5, h6⟩
                        · exact .inl h
                        · exact .inr ⟨b, arr, el, fz, h3, by rw [h4, k1], h5, by omega⟩
                      by_cases hroom : n + m ≤ cap
                      · rcases hh T e1 e2 with ⟨h0, hc0⟩ | ⟨b, arr, el, fz, h1, h2, h3, h4⟩
                        · have hm : m = 0 := by omega
                          subst hm
                          have hcs : cs = [] := by simpa using hls
                          subst hcs
                          have hr0 := hrun _ _ (by rw [hv]; exact run_append_zero hu hz hsrc hnc o.type)
                          obtain ⟨cx', u1, u2, u3, u4⟩ := upd_fresh hs e1 st hst ⟨st, size, T.cs ++ []⟩ rfl k2.symm (by simp)
                          refine done_out u3 hr0 hr (.own tk st 0 _ _ _ (by rw [u1]; exact .inr rfl) (by omega) fun T' hT hg => .inl ⟨by omega, hc0⟩) (fun g hg => by rw [u1] at hg; exact hg) hn
                        · subst h2
                          obtain ⟨arr', el', fz', f1, f2, f3, f4, f5⟩ := hs.row tk T b e1 h1
                          rw [h3] at f1
                          cases f1
                          rw [hs.h] at h3
                          have hul : us.length = m * size := by rw [← hrs.1]; exact hls
                          have hfit : n * size + us.length ≤ arr.size := by
                            rw [hul, ← Nat.add_mul]
                            have : (n + m) * size ≤ cap * size := Nat.mul_le_mul_right _ hroom
                            rw [k2] at h4
                            omega
                          obtain ⟨i, zv, i1, i2, i3, i4, i5, i5', i6, i7⟩ := zc_out hz
                          have hrw := run_append_room_src (P := P) w t tx o.type e i hu i1 b 0 n cap (a.eval y0) m us (by rw [i3]; exact hsrc) hroom (fun j hj => by rw [cell_at h3, i3]; simp; omega) (fun j hj => frozen_at h3 f2 (by rw [i3]; omega))
                          rw [i3, Nat.zero_add] at hrw
                          have hr0 := hrun _ _ (by rw [hv]; exact hrw)
                          have hset : setAll arr.toList (n * size) us = arr.toList.take (n * size) ++ us ++ arr.toList.drop (n * size + us.length) := by
                            exact setAll_eq us arr.toList (n * size) (by simpa using hfit)
                          have hk := hs.updTok (T' := ⟨st, size, T.cs ++ cs⟩) e1 h1 arr (setAll arr.toList (n * size) us).toArray el el fz fz h3 (w.setCells b (n * size) us) (heap_setCells b us _ w arr el fz h3) (fun k hk => heap_setCells_other b us _ w k hk)
                            (setCells_size b us _ w) (setCells_rest b us _ w).1 (setCells_rest b us _ w).2.1 (setCells_rest b us _ w).2.2 (.inr hst) k2.symm (by simp [setAll_length]) (by simpa [setAll_length] using f2)
                            (fun i v hv => by
                              rw [List.getElem?_toArray] at hv
                              exact setAll_mem (p := fun v => cell1 v = true) us arr.toList _ (fun x hx => by obtain ⟨j, hj⟩ := List.getElem?_of_mem hx; exact f3 j x (by simpa using hj)) (fun x hx => hsrc.one x hx) v (List.mem_of_getElem? hv))
                            (by simp only [List.size_toArray, setAll_length, List.length_append, Array.length_toList, k3, hls]; rw [← hul]; exact hfit)
                            (fun i x v hx hv => by
                              rw [List.getElem?_toArray, hset] at hv
                              have hpre : RepL cx (T.cs ++ cs) (arr.toList.take (n * size) ++ us) := by
                                refine RepL.append ⟨by simp; omega, fun j y u hy hu => ?_⟩ hrs
                                rw [List.getElem?_take] at hu
                                split at hu
                                · exact f5 j y u hy (by simpa using hu)
                                · cases hu
                              have hlt : i < (T.cs ++ cs).length := (List.getElem?_eq_some_iff.1 hx).1
                              rw [List.getElem?_append_left (by rw [← hpre.1]; exact hlt)] at hv
                              exact hpre.2 i x v hx hv)
                          refine done_out hk.2 hr0 hr (.own tk st 0 (n + m) _ cap (.inr rfl) hroom fun T' hT hg => .inr ⟨b, (setAll arr.toList (n * size) us).toArray, el, fz, h1, rfl, heap_setCells b us _ w arr el fz h3, ?_⟩) (fun g hg => hg) hn
                          simp only [Cx.updTok, if_true, Option.some.injEq] at hT
                          subst hT
                          simp only [List.size_toArray, setAll_length, Array.length_toList]
                          rw [k2] at h4
                          simpa using h4
                      · -- it grows
                        have hold : ∃ olds : List Value, (Builtin.firstCells size n (.slice p n cap)).run P w.drew = .ok olds.toArray w.drew ∧ (∀ u ∈ olds, u.oneCell' = true) ∧ RepL cx T.cs olds := by
                          have hcell : CellsAt P cx w (.slice p n cap) n T.cs := by
                            refine cellsAt_of rfl hnc ?_
                            rcases hh T e1 e2 with ⟨h0, hc0⟩ | ⟨b, arr, el, fz, h1, h2, h3, h4⟩
                            · left; exact ⟨h0, by rw [h0] at k3; simpa using k3⟩
                            · right
                              obtain ⟨arr', el', fz', f1, f2, f3, f4, f5⟩ := hs.row tk T b e1 h1
                              rw [h3] at f1
                              cases f1
                              exact ⟨b, 0, arr, el, fz, h2, by rw [← hs.h]; exact h3, by omega, (fun i v _ hv => f3 _ v hv), fun i x v hx hv => f5 i x v hx (by simpa using hv)⟩
                          obtain ⟨olds, q1, q2, q3, q4, _⟩ := hcell.read size k3
                          exact ⟨olds, q1 w.drew rfl, q3, q2⟩
                        obtain ⟨olds, q1, q2, q3⟩ := hold
                        obtain ⟨arr, c', g1, g2, g3, g4, g5, g6⟩ := append_new (cx := cx) hu hz hpos q1 q2 q3 k3 hsrc hrs hls (by omega) k4 k5 o.type
                        have hr0 := hrun _ _ (by rw [hv]; exact g1)
                        have hk := hs.newTok tk ⟨st, size, T.cs ++ cs⟩ arr e (0, 0) (w.drew.alloc (.cells arr e)) rfl rfl rfl rfl hst (.inl rfl) g4 g5 g6
                        refine done_out hk.2 hr0 hr (own_new (sz := size) (cs := T.cs ++ cs) (arr := arr) (el := e) (fz := (0, 0)) (b := w.heap.size) (by simp [Cx.newTok]) (by simp [Cx.newTok]) (.inr rfl) ?_ g2 g3) (fun g hg => hg) hn
                        show (w.heap.push (.cells arr e))[w.heap.size]? = _
                        rw [Array.getElem?_push, if_pos rfl]
                  | _ => rw [hv] at hx; cases hx
              · cases hr
            | arr tk g off n =>
              obtain ⟨T, e1, e2, hr⟩ := row_runs hs hr
              split at hr
              · rename_i hcond
                obtain ⟨k1, k2, k3, k4⟩ := hcond
                cases hv : a.eval x0 with
                | slice p n' cap =>
                  rw [hv] at hx
                  cases hx with
                  | arr _ _ _ _ _ hU hh =>
                    obtain ⟨b, h1, h2⟩ := hh T e1 e2
                    obtain ⟨arr0, el, fz, f1, f2, f3, f4, f5⟩ := hs.row tk T b e1 h1
                    rw [hs.h] at f1
                    have hlen : ((T.cs.drop off).take (n * size)).length = n * size := by simp; omega
                    have hcell : CellsAt P cx w (.slice p n n) n ((T.cs.drop off).take (n * size)) := by
                      refine cellsAt_of rfl (Nat.le_refl _) (.inr ⟨b, off, arr0, el, fz, h2, f1, by rw [hlen]; omega, (fun i v _ hv => f3 _ v hv), fun i x v hx hv => ?_⟩)
                      rw [List.getElem?_take, List.getElem?_drop] at hx
                      split at hx
                      · exact f5 _ x v hx hv
                      · cases hx
                    obtain ⟨olds, q1, q2, q3, q4, _⟩ := hcell.read size hlen
                    obtain ⟨arr, c', g1, g2, g3, g4, g5, g6⟩ := append_new (cx := cx) (cap := n) hu hz hpos (q1 w.drew rfl) q3 q2 hlen hsrc hrs hls (by omega) k3 k4 o.type
                    have hr0 := hrun _ _ (by rw [hv]; exact g1)
                    exact done_mk (w' := w.drew.alloc (.cells arr e)) hs hr hst arr e (0, 0) rfl rfl rfl rfl (.inl rfl) g4 g5 g6 hr0 (fun d cx' e1 e2 e3 e4 => own_new e1 e2 e3 e4 g2 g3) hn
                | _ => rw [hv] at hx; cases hx
              · cases hr
            | _ => cases hr
          · cases hr
      | _ => cases hr
  · cases hr
end Go.Eng

/- The engine, part 9: equality, arithmetic, the other builtins. For every program. -/
set_option linter.unusedVariables false
namespace Go.Eng
open Go.RowKit

variable {P : Program} {N : Nat} {F : Fr} {s s' : AS} {cx : Cx} {a : Act} {w : World}

/-- A value of a type stands for these cells. -/
def ValOf (cx : Cx) (P : Program) (t : TypeId) (cs : List AV) (v : Value) : Prop :=
  ∃ d, P.underlying t = some d ∧ ((isRow d = true ∧ ∃ vs : Array Value, v = .agg vs ∧ RepL cx cs vs.toList) ∨ (isRow d = false ∧ ∃ c, cs = [c] ∧ Rep cx c v))
theorem part_val {t : TypeId} {z : Option Value} {size by_ off : Nat} {cs : List AV} {vs : Array Value} {d : TypeDesc} (hu : P.underlying t = some d) (hti : ti P t = some (z, size, by_)) (h : RepL cx cs vs.toList)
    (h1 : isRow d = false → ∃ c, (cs.drop off).take size = [c]) : ∃ v, (Go.part t vs off).run P w = .ok v w ∧ ValOf cx P t ((cs.drop off).take size) v := by
  obtain ⟨i, i1, i2, i3, i4⟩ := ti_out hti
  cases hd : isRow d with
  | true =>
    have hagg : (isAgg t).run P w = .ok true w := by
      unfold isAgg
      rw [Sem.run_bind, run_underlying hu w]
      cases d <;> simp_all [isRow]
    refine ⟨.agg (vs.extract off (off + size)), by simp [Go.part, hagg, sizeOf, typeInfo, i1, i3], d, hu, .inl ⟨hd, _, rfl, ?_⟩⟩
    have := (h.drop off).take size
    have e : (vs.extract off (off + size)).toList = (vs.toList.drop off).take size := by
      simp [List.extract]
    rw [e]
    exact this
  | false =>
    have hagg : (isAgg t).run P w = .ok false w := by
      unfold isAgg
      rw [Sem.run_bind, run_underlying hu w]
      cases d <;> simp_all [isRow]
    obtain ⟨c, hc⟩ := h1 hd
    have hoff : cs[off]? = some c := by
      have : ((cs.drop off).take size)[0]? = some c := by rw [hc]; rfl
      rw [List.getElem?_take] at this
      split at this
      · rw [List.getElem?_drop] at this; simpa using this
      · cases this
    have hlt : off < vs.size := by
      have := (List.getElem?_eq_some_iff.1 hoff).1
      have := h.1
      simp at this
      omega
    exact ⟨vs[off], by simp [Go.part, hagg, hlt], d, hu, .inr ⟨hd, c, hc, h.2 off c _ hoff (by simp [hlt])⟩⟩

theorem aeq_scalar {d : Nat} {t : TypeId} {cs ds : List AV} {b : Bool} {dd : TypeDesc} (hu : P.underlying t = some dd) (hd : isRow dd = false) (h : aeq P d t cs ds = some b) : (∃ c, cs = [c]) ∧ ∃ c, ds = [c] := by
  cases d with
  | zero => cases h
  | succ d =>
    unfold aeq at h
    rw [hu] at h
    cases dd <;> simp only [isRow, Bool.true_eq_false] at hd <;> first
      | (cases h; done)
      | (simp only at h; split at h <;> first | (cases h; done) | exact ⟨⟨_, rfl⟩, ⟨_, rfl⟩⟩)

theorem bytes_beq (x y : ByteArray) : (x.toList == y.toList) = (bytesOf x == bytesOf y) := by
  rw [ByteArray.toList_eq, ByteArray.toList_eq, Bool.eq_iff_iff, beq_iff_eq, beq_iff_eq]
  unfold bytesOf
  constructor
  · intro h; rw [h]
  · intro h
    have hinj : ∀ (l m : List UInt8), l.map (fun b => (b.toNat : Int)) = m.map (fun b => (b.toNat : Int)) → l = m := by
      intro l
      induction l with
      | nil => intro m h; cases m with
        | nil => rfl
        | cons c m => simp at h
      | cons b l ih => intro m h; cases m with
        | nil => simp at h
        | cons c m =>
          simp only [List.map_cons, List.cons.injEq] at h
          rw [ih m h.2, UInt8.toNat_inj.1 (by omega : b.toNat = c.toNat)]
    exact hinj _ _ h

theorem aeq_run : ∀ (d : Nat) (t : TypeId) (cs ds : List AV) (b : Bool), aeq P d t cs ds = some b → ∀ (k : Nat) (x y : Value) (w : World), ValOf cx P t cs x → ValOf cx P t ds y → (Op.equalIn (k + d) t x y).run P w = .ok b w
  | 0, t, cs, ds, b, h => by cases h
  | d + 1, t, cs, ds, b, h => by
    intro k x y w hx hy
    obtain ⟨dx, hu, hx⟩ := hx
    obtain ⟨dy, hu', hy⟩ := hy
    rw [hu] at hu'
    cases hu'
    rw [← Nat.add_assoc]
    unfold aeq at h
    rw [hu] at h
    cases dx with
    | bool =>
      simp only at h
      split at h
      · cases h
        rcases hx with ⟨hx, _⟩ | ⟨_, c, hc, hx⟩
        · cases hx
        · rcases hy with ⟨hy, _⟩ | ⟨_, c', hc', hy⟩
          · cases hy
          · cases hc; cases hc'
            rw [rep_bool hx, rep_bool hy]
            exact run_equalIn_bool w _ t _ _ hu
      · cases h
    | int kk =>
      simp only at h
      split at h
      · split at h
        · rename_i hk
          cases h
          rcases hx with ⟨hx, _⟩ | ⟨_, c, hc, hx⟩
          · cases hx
          · rcases hy with ⟨hy, _⟩ | ⟨_, c', hc', hy⟩
            · cases hy
            · cases hc; cases hc'
              rw [rep_int hx, rep_int hy, hk]
              exact run_equalIn_int w _ t _ kk _ _ hu
        · cases h
      · cases h
    | string =>
      simp only at h
      split at h
      · cases h
        rcases hx with ⟨hx, _⟩ | ⟨_, c, hc, hx⟩
        · cases hx
        · rcases hy with ⟨hy, _⟩ | ⟨_, c', hc', hy⟩
          · cases hy
          · cases hc; cases hc'
            obtain ⟨sx, ex, hx⟩ := rep_str hx
            obtain ⟨sy, ey, hy⟩ := rep_str hy
            rw [ex, ey, run_equalIn_string w _ t _ _ hu, bytes_beq, hx, hy]
      · cases h
    | struct fs =>
      simp only at h
      split at h
      · rename_i hst
        rcases hx with ⟨_, vs, rfl, hvs⟩ | ⟨hx, _⟩
        · rcases hy with ⟨_, us, rfl, hus⟩ | ⟨hy, _⟩
          · have hfs : P.fieldsOf t = fs := by unfold Program.fieldsOf; rw [hu]
            rw [run_equalIn_struct w (k + d) t vs us (by rw [hfs]; exact hu) hst, hfs]
            have key : ∀ (l : List Field) (b : Bool), l.foldr (fun f acc => if f.name = "_" then none else match ti P f.type with
                | some (_, size, _) => (match aeq P d f.type ((cs.drop f.offset).take size) ((ds.drop f.offset).take size), acc with
                  | some a, some b => some (a && b)
                  | _, _ => none)
                | none => none) (some true) = some b → (Op.eqFields (k + d) vs us l).run P w = .ok b w := by
              intro l
              induction l with
              | nil => intro b h; cases h; simp [Op.eqFields]
              | cons f l ih =>
                intro b h
                rw [List.foldr_cons] at h
                split at h
                · cases h
                · rename_i hname
                  cases hti : ti P f.type with
                  | none => rw [hti] at h; cases h
                  | some q =>
                    obtain ⟨z, size, by_⟩ := q
                    rw [hti] at h
                    simp only at h
                    cases ha : aeq P d f.type ((cs.drop f.offset).take size) ((ds.drop f.offset).take size) with
                    | none => rw [ha] at h; cases h
                    | some a =>
                      rw [ha] at h
                      split at h
                      · rename_i a' b' e1 e2
                        cases h
                        cases e1
                        have ih' := ih _ e2
                        have hud : ∃ dd, P.underlying f.type = some dd := by
                          cases hh : P.underlying f.type with
                          | some dd => exact ⟨dd, rfl⟩
                          | none =>
                            exfalso
                            cases d with
                            | zero => cases ha
                            | succ d => unfold aeq at ha; rw [hh] at ha; cases ha
                        obtain ⟨dd, hud⟩ := hud
                        obtain ⟨vx, p1, v1⟩ := part_val (w := w) hud hti hvs (fun hd => (aeq_scalar hud hd ha).1)
                        obtain ⟨vy, p2, v2⟩ := part_val (w := w) hud hti hus (fun hd => (aeq_scalar hud hd ha).2)
                        have hrec := aeq_run d f.type _ _ _ ha k vx vy w v1 v2
                        simp only [Op.eqFields, ne_eq, hname, not_false_eq_true, if_true, Sem.run_bind, p1, p2, hrec, Result.andThen_ok]
                        cases a <;> simp [ih']
                      · cases h
            exact key _ _ h
          · cases hy
        · cases hx
      · cases h
    | array n e =>
      simp only at h
      cases hti : ti P e with
      | none => rw [hti] at h; cases h
      | some q =>
        obtain ⟨z, size, by_⟩ := q
        rw [hti] at h
        simp only at h
        obtain ⟨i, i1, i2, i3, i4⟩ := ti_out hti
        rcases hx with ⟨_, vs, rfl, hvs⟩ | ⟨hx, _⟩
        · rcases hy with ⟨_, us, rfl, hus⟩ | ⟨hy, _⟩
          · have hsz : (sizeOf e).run P w = .ok size w := by simp [sizeOf, typeInfo, i1, i3]
            have key : ∀ (l : List Nat) (b : Bool), l.foldr (fun i acc => match aeq P d e ((cs.drop (i * size)).take size) ((ds.drop (i * size)).take size), acc with
                | some a, some b => some (a && b)
                | _, _ => none) (some true) = some b → (Op.eqItems (k + d) e size vs us l).run P w = .ok b w := by
              intro l
              induction l with
              | nil => intro b h; cases h; simp [Op.eqItems]
              | cons j l ih =>
                intro b h
                rw [List.foldr_cons] at h
                cases ha : aeq P d e ((cs.drop (j * size)).take size) ((ds.drop (j * size)).take size) with
                | none => rw [ha] at h; cases h
                | some a =>
                  rw [ha] at h
                  split at h
                  · rename_i a' b' e1 e2
                    cases h
                    cases e1
                    have ih' := ih _ e2
                    have hud : ∃ dd, P.underlying e = some dd := by
                      cases hh : P.underlying e with
                      | some dd => exact ⟨dd, rfl⟩
                      | none =>
                        exfalso
                        cases d with
                        | zero => cases ha
                        | succ d => unfold aeq at ha; rw [hh] at ha; cases ha
                    obtain ⟨dd, hud⟩ := hud
                    obtain ⟨vx, p1, v1⟩ := part_val (w := w) hud hti hvs (fun hd => (aeq_scalar hud hd ha).1)
                    obtain ⟨vy, p2, v2⟩ := part_val (w := w) hud hti hus (fun hd => (aeq_scalar hud hd ha).2)
                    have hrec := aeq_run d e _ _ _ ha k vx vy w v1 v2
                    simp only [Op.eqItems, Sem.run_bind, p1, p2, hrec, Result.andThen_ok]
                    cases a <;> simp [ih']
                  · cases h
            have hco : P.cellsOf e = size := by simp [Program.cellsOf, i1, i3]
            rw [run_equalIn_array w (k + d) vs us hu i1, hco]
            exact key _ _ h
          · cases hy
        · cases hx
    | _ => cases h
/-! ### Binary operations -/
theorem bin_plain {op : BinOp} {t : TypeId} {x y : Operand} {u v : Value} {r : Value} (hg : (eqGuard op t x y u v).run P w = .ok () w) (hb : (binOp op t u v).run P w = .ok r w) {o : Oper} {yt : TypeId} (ho : o.op = .binOp op t x y yt)
    (hu : a.eval x = u) (hv : a.eval y = v) : (execOp a.eval o).run P w = .ok (.value r) w := by
  simp only [execOp, ho, hu, hv, Sem.run_bind, hg, Result.andThen_ok, hb, Sem.run_pure]
theorem aint_runs {op : BinOp} {t : TypeId} {k1 k2 : IntKind} {n m : Int} {k : AV → M} (hr : (aint op k1 n k2 m k).Runs P s s') : ∃ r : AV, ∃ v : Value, (binOp op t (.int k1 n) (.int k2 m)).run P w = .ok v w ∧ Rep cx r v ∧ (k r).Runs P s s' := by
  cases op with
  | shl =>
    simp only [aint] at hr
    split at hr
    · rename_i h; exact ⟨_, _, by simp [binOp, Op.shift, show ¬ m < 0 by omega], .int _ _, hr⟩
    · cases hr
  | shr =>
    simp only [aint] at hr
    split at hr
    · rename_i h; exact ⟨_, _, by simp [binOp, Op.shift, show ¬ m < 0 by omega], .int _ _, hr⟩
    · cases hr
  | add => simp only [aint] at hr; split at hr
           · rename_i h; subst h; exact ⟨_, _, by rw [binOp_add]; rfl, .int _ _, hr⟩
           · cases hr
  | sub => simp only [aint] at hr; split at hr
           · rename_i h; subst h; exact ⟨_, _, by rw [binOp_sub]; rfl, .int _ _, hr⟩
           · cases hr
  | mul => simp only [aint] at hr; split at hr
           · rename_i h; subst h; exact ⟨_, _, by rw [binOp_mul]; rfl, .int _ _, hr⟩
           · cases hr
  | quo =>
    simp only [aint] at hr
    split at hr
    · rename_i h; subst h
      split at hr
      · rename_i h0; exact ⟨_, _, by rw [binOp_quo]; simp [Op.intDiv, h0], .int _ _, hr⟩
      · cases hr
    · cases hr
  | rem =>
    simp only [aint] at hr
    split at hr
    · rename_i h; subst h
      split at hr
      · rename_i h0; exact ⟨_, _, by rw [binOp_rem]; simp [Op.intDiv, h0], .int _ _, hr⟩
      · cases hr
    · cases hr
  | and => simp only [aint] at hr; split at hr
           · rename_i h; subst h; exact ⟨_, _, by rw [binOp_and, intBits_and]; rfl, .int _ _, hr⟩
           · cases hr
  | or => simp only [aint] at hr; split at hr
          · rename_i h; subst h; exact ⟨_, _, by rw [binOp_or, intBits_or]; rfl, .int _ _, hr⟩
          · cases hr
  | xor => simp only [aint] at hr; split at hr
           · rename_i h; subst h; exact ⟨_, _, by rw [binOp_xor, intBits_xor]; rfl, .int _ _, hr⟩
           · cases hr
  | andNot => simp only [aint] at hr; split at hr
              · rename_i h; subst h; exact ⟨_, _, by rw [binOp_andNot, intBits_andNot]; rfl, .int _ _, hr⟩
              · cases hr
  | eql => simp only [aint] at hr; split at hr
           · rename_i h; subst h; exact ⟨_, _, by rw [binOp_eql]; rfl, .bool _, hr⟩
           · cases hr
  | neq => simp only [aint] at hr; split at hr
           · rename_i h; subst h; exact ⟨_, _, by rw [binOp_neq]; rfl, .bool _, hr⟩
           · cases hr
  | lss => simp only [aint] at hr; split at hr
           · rename_i h; subst h; exact ⟨_, _, by rw [binOp_lss]; rfl, .bool _, hr⟩
           · cases hr
  | leq => simp only [aint] at hr; split at hr
           · rename_i h; subst h; exact ⟨_, _, by rw [binOp_leq]; rfl, .bool _, hr⟩
           · cases hr
  | gtr => simp only [aint] at hr; split at hr
           · rename_i h; subst h; exact ⟨_, _, by rw [binOp_gtr]; rfl, .bool _, hr⟩
           · cases hr
  | geq => simp only [aint] at hr; split at hr
           · rename_i h; subst h; exact ⟨_, _, by rw [binOp_geq]; rfl, .bool _, hr⟩
           · cases hr

/-- An equality: what it says of the outcome of 'equal'. -/
theorem eq_runs {op : BinOp} {t : TypeId} {u v : Value} {b : Bool} {k : AV → M} (hr : (eqOf op b k).Runs P s s') (he : (Op.equal t u v).run P w = .ok b w) (hplain : ∀ op, op = .eql ∨ op = .neq → (binOp op t u v) = (if op = .eql then (do pure (.bool (← Op.equal t u v))) else (do pure (.bool (!(← Op.equal t u v))))) ) :
    ∃ r : AV, ∃ x : Value, (binOp op t u v).run P w = .ok x w ∧ Rep cx r x ∧ (k r).Runs P s s' ∧ (op = .eql ∨ op = .neq) := by
  cases op with
  | eql => exact ⟨_, _, by rw [hplain .eql (.inl rfl), if_pos rfl]; simp [he], .bool b, hr, .inl rfl⟩
  | neq => exact ⟨_, _, by rw [hplain .neq (.inr rfl), if_neg (by decide)]; simp [he], .bool (!b), hr, .inr rfl⟩
  | _ => cases hr
theorem snd_binOp {o : Oper} {st : Nat} {op : BinOp} {t yt : TypeId} {x y : Operand} (ho : o.op = .binOp op t x y yt) : Snd P N st o := by
  intro F s s' cx a w next Q hr hst hs hn
  unfold aop at hr; rw [ho] at hr
  obtain ⟨x', hr, hx⟩ := ev_runs hs hr
  obtain ⟨y', hr, hy⟩ := ev_runs hs hr
  have nilcase : ∀ (hr : (match y', P.underlying t with
      | .nilS, some (.slice _) => (match isNilS x' with | some b => eqOf op b (out N o.dst) | none => .fail)
      | .nilP, some (.pointer _) => (match isNilP x' with | some b => eqOf op b (out N o.dst) | none => .fail)
      | _, _ => .fail).Runs P s s'), o.wp P a w next Q := by
    intro hr
    cases hu : P.underlying t with
    | none => rw [hu] at hr; cases y' <;> cases hr
    | some d =>
      rw [hu] at hr
      cases y' with
      | nilS =>
        cases d with
        | slice e =>
          simp only at hr
          cases hb : isNilS x' with
          | none => rw [hb] at hr; cases hr
          | some b =>
            rw [hb] at hr
            have ey : a.eval y = .slice none 0 0 := by cases hv : a.eval y <;> rw [hv] at hy <;> cases hy; rfl
            have hxs : ∃ p n c, a.eval x = .slice p n c ∧ p.isNone = b := by
              cases x' with
              | nilS => cases hb; cases hv : a.eval x <;> rw [hv] at hx <;> cases hx; exact ⟨none, 0, 0, rfl, rfl⟩
              | em b' => cases hb; cases hv : a.eval x <;> rw [hv] at hx <;> cases hx; exact ⟨_, _, _, rfl, by assumption⟩
              | sl n cs =>
                simp only [isNilS] at hb
                split at hb
                · cases hb
                · rename_i hne
                  cases hb
                  cases hv : a.eval x <;> rw [hv] at hx <;> cases hx
                  · exact absurd rfl hne
                  · exact ⟨_, _, _, rfl, rfl⟩
              | _ => cases hb
            obtain ⟨p, n, c, ex, ep⟩ := hxs
            obtain ⟨r, v, g1, g2, g3, g4⟩ := eq_runs (cx := cx) (w := w) (t := t) (u := .slice p n c) (v := .slice none 0 0) hr (by rw [run_equal_slice_nil w t e p n c hu, ep]) (fun op h => by rcases h with rfl | rfl <;> rfl)
            exact done_out hs (bin_plain (by rw [eqGuard_at_slice]; rfl) g1 ho ex ey) g3 g2 (fun g hg => .inl hg) hn
        | _ => cases hr
      | nilP =>
        cases d with
        | pointer e =>
          simp only at hr
          cases hb : isNilP x' with
          | none => rw [hb] at hr; cases hr
          | some b =>
            rw [hb] at hr
            have ey : a.eval y = .pointer none := by cases hv : a.eval y <;> rw [hv] at hy <;> cases hy; rfl
            have hxs : ∃ p, a.eval x = .pointer p ∧ p.isNone = b := by
              cases x' with
              | nilP => cases hb; cases hv : a.eval x <;> rw [hv] at hx <;> cases hx; exact ⟨none, rfl, rfl⟩
              | addr => cases hb; cases hv : a.eval x <;> rw [hv] at hx <;> cases hx; exact ⟨_, rfl, rfl⟩
              | ptr => cases hb; cases hv : a.eval x <;> rw [hv] at hx <;> cases hx; exact ⟨_, rfl, rfl⟩
              | _ => cases hb
            obtain ⟨p, ex, ep⟩ := hxs
            have hpt : P.underlying t = some (.pointer (P.pointee t)) := by simp [Program.pointee, hu]
            obtain ⟨r, v, g1, g2, g3, g4⟩ := eq_runs (cx := cx) (w := w) (t := t) (u := .pointer p) (v := .pointer none) hr (by rw [run_equal_pointer_nil w t p hpt, ep]) (fun op h => by rcases h with rfl | rfl <;> rfl)
            exact done_out hs (bin_plain (by rw [eqGuard_at_pointer]; rfl) g1 ho ex ey) g3 g2 (fun g hg => .inl hg) hn
        | _ => cases hr
      | _ => cases hr
  unfold bin at hr
  cases x' with
  | int k1 n =>
    cases y' with
    | int k2 m =>
      obtain ⟨r, v, g1, g2, g3⟩ := aint_runs (cx := cx) (w := w) (t := t) hr
      exact done_out hs (bin_plain (by rw [eqGuard_at_int]; rfl) g1 ho (rep_int hx) (rep_int hy)) g3 g2 (fun g hg => .inl hg) hn
    | _ => cases hr
  | str l =>
    cases y' with
    | str m =>
      obtain ⟨sx, ex, hx⟩ := rep_str hx
      obtain ⟨sy, ey, hy⟩ := rep_str hy
      have hbeq : (sx.toList == sy.toList) = (l == m) := by rw [bytes_beq, hx, hy]
      cases op with
      | add =>
        simp only at hr
        split at hr
        · rename_i hlim
          have hlx : sx.size = l.length := by rw [← hx, bytesOf_length]
          have hly : sy.size = m.length := by rw [← hy, bytesOf_length]
          refine done_out hs (bin_plain (r := .string (sx ++ sy)) (by rw [eqGuard_at_string]; rfl) ?_ ho ex ey) hr (.str _ _ ?_) (fun g hg => .inl hg) hn
          · have : ¬ ((9223372036854775807 : Int) < (sx.size : Int) + (sy.size : Int)) := by omega
            simp [binOp, Op.stringOp, this]
          · rw [← hx, ← hy]; simp [bytesOf]
        · cases hr
      | eql =>
        refine done_out hs (bin_plain (r := .bool (l == m)) (by rw [eqGuard_at_string]; rfl) ?_ ho ex ey) hr (.bool _) (fun g hg => .inl hg) hn
        simp only [binOp, Op.stringOp, hbeq]; rfl
      | neq =>
        refine done_out hs (bin_plain (r := .bool (!(l == m))) (by rw [eqGuard_at_string]; rfl) ?_ ho ex ey) hr (.bool _) (fun g hg => .inl hg) hn
        simp only [binOp, Op.stringOp, hbeq]; rfl
      | _ => cases hr
    | _ => cases hr
  | bool p =>
    cases y' with
    | bool q =>
      cases hu : P.underlying t with
      | none => rw [hu] at hr; cases hr
      | some d =>
        rw [hu] at hr
        cases d with
        | bool =>
          obtain ⟨r, v, g1, g2, g3, g4⟩ := eq_runs (cx := cx) (w := w) (t := t) (u := .bool p) (v := .bool q) hr (run_equal_bool w t p q hu) (fun op h => by rcases h with rfl | rfl <;> rfl)
          exact done_out hs (bin_plain (by rw [eqGuard_at_bool]; rfl) g1 ho (rep_bool hx) (rep_bool hy)) g3 g2 (fun g hg => .inl hg) hn
        | _ => cases hr
    | _ => cases hr
  | agg xs =>
    cases y' with
    | agg ys =>
      simp only at hr
      split at hr
      · rename_i hg'
        obtain ⟨hg, hrt⟩ := hg'
        cases hb : aeq P 6 t xs ys with
        | none => rw [hb] at hr; cases hr
        | some b =>
          rw [hb] at hr
          obtain ⟨vs, ex, hx, hx1⟩ := rep_agg hx
          obtain ⟨us, ey, hy, hy1⟩ := rep_agg hy
          have hrow : ∃ d, P.underlying t = some d ∧ isRow d = true := by
            unfold rowT at hrt
            cases hu : P.underlying t with
            | none => rw [hu] at hrt; cases hrt
            | some d => rw [hu] at hrt; exact ⟨d, rfl, hrt⟩
          obtain ⟨d, hu, hd⟩ := hrow
          have he : (Op.equal t (.agg vs) (.agg us)).run P w = .ok b w := aeq_run 6 t xs ys b hb 9994 (.agg vs) (.agg us) w ⟨d, hu, .inl ⟨hd, vs, rfl, hx⟩⟩ ⟨d, hu, .inl ⟨hd, us, rfl, hy⟩⟩
          obtain ⟨r, v, g1, g2, g3, g4⟩ := eq_runs (cx := cx) (w := w) hr he (fun op h => by rcases h with rfl | rfl <;> rfl)
          exact done_out hs (bin_plain (run_eqGuard_agg w op t x y vs us hg) g1 ho ex ey) g3 g2 (fun g hg => .inl hg) hn
      · cases hr
    | _ => cases hr
  | _ => exact nilcase hr
end Go.Eng

/- The engine, part 10: calls. For every program. -/
set_option linter.unusedVariables false
namespace Go.Eng
open Go.RowKit

variable {P : Program} {N : Nat} {F : Fr} {s s' : AS} {cx : Cx} {a : Act} {w : World}

theorem closedL_get : ∀ {cs : List AV} {i : Nat} {x : AV}, closedL cs = true → cs[i]? = some x → x.closed = true
  | [], i, x, h, hx => by simp at hx
  | y :: cs, 0, x, h, hx => by simp at hx; subst hx; simp [closedL] at h; exact h.1
  | y :: cs, i + 1, x, h, hx => by simp [closedL] at h; exact closedL_get h.2 (by simpa using hx)
theorem noSlL_get : ∀ {cs : List AV} {i : Nat} {x : AV}, noSlL cs = true → cs[i]? = some x → x.noSl = true
  | [], i, x, h, hx => by simp at hx
  | y :: cs, 0, x, h, hx => by simp at hx; subst hx; simp [noSlL] at h; exact h.1
  | y :: cs, i + 1, x, h, hx => by simp [noSlL] at h; exact noSlL_get h.2 (by simpa using hx)
theorem renL_get (d st : Nat) : ∀ {cs : List AV} {i : Nat} {x : AV}, (renL d st cs)[i]? = some x → ∃ y, cs[i]? = some y ∧ x = y.ren d st
  | [], i, x, h => by simp [renL] at h
  | y :: cs, 0, x, h => by simp [renL] at h; exact ⟨y, by simp, h.symm⟩
  | y :: cs, i + 1, x, h => by simp [renL] at h; simpa using renL_get d st h
theorem renL_length (d st : Nat) : ∀ (cs : List AV), (renL d st cs).length = cs.length
  | [] => rfl
  | y :: cs => by simp [renL, renL_length d st cs]

/-- What names no row of its own is read in another place, if its blocks are there (or it names none). -/
theorem Rep.move {cx cx' : Cx} {x : AV} {v : Value} (h : Rep cx x v) (hc : x.closed = true) (hz : (∀ b, cx.Z b → cx'.Z b ∧ cx'.h[b]? = cx.h[b]?) ∨ x.noSl = true) : Rep cx' x v := by
  induction h with
  | bool b => exact .bool b
  | int k n => exact .int k n
  | str s l h => exact .str s l h
  | nilS => exact .nilS
  | nilP => exact .nilP
  | em b a c h => exact .em b a c h
  | sl0 a c => exact .sl0 a c
  | sl n cs ad c arr el fz hZ hb hs hn hl h1 h ih =>
    rcases hz with hz | hz
    · exact .sl n cs ad c arr el fz (hz _ hZ).1 ((hz _ hZ).2.trans hb) hs hn hl h1 fun i x v hx hv => ih i x v hx hv (closedL_get (by simpa [AV.closed] using hc) hx) (.inl hz)
    · simp only [AV.noSl, Bool.and_eq_true, beq_iff_eq, List.isEmpty_iff] at hz
      obtain ⟨rfl, rfl⟩ := hz
      exact .sl0 _ _
  | own => simp [AV.closed] at hc
  | arr => simp [AV.closed] at hc
  | addr => simp [AV.closed] at hc
  | ptr cs off ad base arr el fz hZ hb hs ho hl h1 h ih =>
    rcases hz with hz | hz
    · exact .ptr cs off ad base arr el fz (hz _ hZ).1 ((hz _ hZ).2.trans hb) hs ho hl h1 fun i x v hx hv => ih i x v hx hv (closedL_get (by simpa [AV.closed] using hc) hx) (.inl hz)
    · simp [AV.noSl] at hz
  | fn f caps vs hl h ih => exact .fn f caps vs hl fun i x v hx hv => ih i x v hx hv (closedL_get (by simpa [AV.closed] using hc) hx) (hz.imp id fun h => noSlL_get (by simpa [AV.noSl] using h) hx)
  | agg cs vs hl h1 h ih => exact .agg cs vs hl h1 fun i x v hx hv => ih i x v hx hv (closedL_get (by simpa [AV.closed] using hc) hx) (hz.imp id fun h => noSlL_get (by simpa [AV.noSl] using h) hx)
  | tup cs vs hl h ih => exact .tup cs vs hl fun i x v hx hv => ih i x v hx hv (closedL_get (by simpa [AV.closed] using hc) hx) (hz.imp id fun h => noSlL_get (by simpa [AV.noSl] using h) hx)
  | dead v => exact .dead v
/-- What comes back from a call with a row. -/
theorem Rep.ren {cx cx' : Cx} {x : AV} {v : Value} (d st : Nat) (T : Tok) (h : Rep cx x v) (htk : cx.tk = fun t => if t = 0 then some T else none) (hg : T.g = 0) (htk' : cx'.tk d = some { T with g := st }) (hρ : cx'.ρ d = cx.ρ 0)
    (hU : cx'.U st) (hh : ∀ b, cx.ρ 0 = some b → cx'.h[b]? = cx.h[b]?) (hz : (∀ b, cx.Z b → cx'.Z b ∧ cx'.h[b]? = cx.h[b]?) ∨ x.noSl = true) : Rep cx' (x.ren d st) v := by
  have h0 : cx.tk 0 = some T := by rw [htk]; simp
  induction h with
  | bool b => exact .bool b
  | int k n => exact .int k n
  | str s l h => exact .str s l h
  | nilS => exact .nilS
  | nilP => exact .nilP
  | em b a c h => exact .em b a c h
  | sl0 a c => show Rep cx' (if closedL [] = true then .sl 0 [] else .dead) _; rw [if_pos (by simp [closedL])]; exact .sl0 a c
  | sl n cs ad c arr el fz hZ hb hs hn hl h1 h ih =>
    show Rep cx' (if closedL cs = true then .sl n cs else .dead) _
    split
    · rename_i hcl
      exact Rep.move (.sl n cs ad c arr el fz hZ hb hs hn hl h1 h) (by simpa [AV.closed] using hcl) hz
    · exact .dead _
  | own t g off n a c hu hn h =>
    show Rep cx' (if t = 0 ∧ g = 0 then .own d st off n else .dead) _
    split
    · rename_i hc
      obtain ⟨rfl, rfl⟩ := hc
      refine .own d st off n a c hU hn fun T' hT hg' => ?_
      rw [htk'] at hT
      cases hT
      rcases h T h0 hg with h | ⟨b, arr, el, fz, e1, e2, e3, e4⟩
      · exact .inl h
      · exact .inr ⟨b, arr, el, fz, hρ.trans e1, e2, (hh b e1).trans e3, e4⟩
    · exact .dead _
  | arr t g off n a hu h =>
    show Rep cx' (if t = 0 ∧ g = 0 then .arr d st off n else .dead) _
    split
    · rename_i hc
      obtain ⟨rfl, rfl⟩ := hc
      refine .arr d st off n a hU fun T' hT hg' => ?_
      obtain ⟨b, e1, e2⟩ := h T h0 hg
      exact ⟨b, hρ.trans e1, e2⟩
    · exact .dead _
  | addr t g off ad hu h =>
    show Rep cx' (if t = 0 ∧ g = 0 then .addr d st off else .dead) _
    split
    · rename_i hc
      obtain ⟨rfl, rfl⟩ := hc
      refine .addr d st off ad hU fun T' hT hg' => ?_
      obtain ⟨b, e1, e2⟩ := h T h0 hg
      exact ⟨b, hρ.trans e1, e2⟩
    · exact .dead _
  | ptr cs off ad base arr el fz hZ hb hs ho hl h1 h ih =>
    show Rep cx' (if closedL cs = true then .ptr cs off else .dead) _
    split
    · rename_i hcl
      exact Rep.move (.ptr cs off ad base arr el fz hZ hb hs ho hl h1 h) (by simpa [AV.closed] using hcl) hz
    · exact .dead _
  | fn f caps vs hl h ih => exact .dead _
  | agg cs vs hl h1 h ih =>
    refine .agg _ vs (by rw [renL_length]; exact hl) h1 fun i x v hx hv => ?_
    obtain ⟨y, e1, rfl⟩ := renL_get d st hx
    exact ih i y v e1 hv (hz.imp id fun h => noSlL_get (by simpa [AV.noSl] using h) e1)
  | tup cs vs hl h ih =>
    refine .tup _ vs (by rw [renL_length]; exact hl) fun i x v hx hv => ?_
    obtain ⟨y, e1, rfl⟩ := renL_get d st hx
    exact ih i y v e1 hv (hz.imp id fun h => noSlL_get (by simpa [AV.noSl] using h) e1)
  | dead v => exact .dead v
/-! ### The world behind a call -/
def Cx.called (cx : Cx) (w : World) (cx' : Cx) (w' : World) : Cx :=
  { cx with h := w'.heap, Z := fun b => cx.Z b ∨ (cx'.Z b ∧ w.heap.size ≤ b) }
theorem SimC.called (h : SimC N F s cx a w) {Z0 : Nat → Prop} {T : Option Tok} {cx' : Cx} {w' : World} (r : Ret w Z0 T cx' w') : Tr cx (cx.called w cx' w') ∧ SimC N F s (cx.called w cx' w') a w' := by
  have hb : ∀ b, b < w.heap.size → w'.heap[b]? = w.heap[b]? := fun b hb => r.below.block b hb
  have hTr : Tr cx (cx.called w cx' w') := by
    refine Tr.of (fun b hz => ⟨.inl hz, ?_⟩) (fun g hg => hg) (fun t T' e _ => ⟨T', e, rfl, rfl, rfl⟩) (fun t T0 b arr el fz e1 e2 e3 => ⟨arr, el, fz, ?_, Nat.le_refl _⟩)
    · show w'.heap[b]? = _
      rw [hb b (h.Zlt b hz), h.h]
    · show w'.heap[b]? = _
      rw [hb b (h.blk e1 e2), ← h.h]; exact e3
  refine ⟨hTr, { h := rfl, tk := h.tk, size := h.size, defers := h.defers, env := fun i hi => (h.env i hi).tr hTr, none_ := h.none_, row := fun t T0 b e1 e2 => (h.row t T0 b e1 e2).tr hTr ?_, stamp := h.stamp, inj := h.inj, apart := fun t T0 b e1 e2 hz => ?_, free := h.free, Zlt := fun b hz => ?_, tr := h.tr.trans hTr, Z0 := fun b hz => .inl (h.Z0 b hz), Znew := fun b hz => ?_, os := r.below.os.trans h.os, tape := r.below.tape.trans h.tape, output := r.below.output.trans h.output, grow := Nat.le_trans h.grow r.below.size, prot := fun b hz => ?_ }⟩
  · show w'.heap[b]? = _
    rw [hb b (h.blk e1 e2), h.h]
  · rcases hz with hz | ⟨_, hz⟩
    · exact h.apart t T0 b e1 e2 hz
    · have := h.blk e1 e2; omega
  · rcases hz with hz | ⟨hz, _⟩
    · exact Nat.lt_of_lt_of_le (h.Zlt b hz) r.below.size
    · exact r.Zlt b hz
  · rcases hz with hz | ⟨_, hz⟩
    · exact h.Znew b hz
    · exact .inr (.inl (Nat.le_trans h.grow hz))
  · have hp := h.prot b hz
    have := h.grow
    exact ⟨hp.1, by rw [hb b (by omega)]; exact hp.2⟩
/-- A row that came back is one's own. -/
theorem SimC.gains (h : SimC N F s cx a w) (d : Nat) (T : Tok) (b : Option Nat) (hst : ¬ cx.U T.g) (hn : b = none → T.cs = []) (hT : ∀ k, b = some k → TokAt cx T k) (hb : ∀ k, b = some k → ¬ cx.Z k ∧ ¬ F.prot k ∧ ∀ t T', cx.tk t = some T' → cx.ρ t ≠ some k) :
    Tr cx (cx.newTok w d b T) ∧ SimC N F (s.setT d T) (cx.newTok w d b T) a w := by
  have hTr : Tr cx (cx.newTok w d b T) := by
    refine Tr.of (fun k hk => ⟨hk, ?_⟩) (fun g hg => .inl hg) (fun t T' e hu => ?_) (fun t T0 k arr0 el0 fz0 e1 e2 e3 => ⟨arr0, el0, fz0, ?_, Nat.le_refl _⟩)
    · show w.heap[k]? = _
      rw [h.h]
    · simp only [Cx.newTok] at e
      split at e
      · cases e; exact absurd hu hst
      · rename_i hne; exact ⟨T', e, rfl, rfl, by simp [Cx.newTok, hne]⟩
    · show w.heap[k]? = _
      rw [← h.h]; exact e3
  refine ⟨hTr, ?_⟩
  refine { h := rfl, tk := ?_, size := h.size, defers := h.defers, env := fun i hi => (h.env i hi).tr hTr, none_ := fun t T0 e1 e2 => ?_, row := fun t T0 k e1 e2 => ?_, stamp := fun t T0 e => ?_, inj := fun t t' T0 T1 k e1 e2 e3 e4 => ?_, apart := fun t T0 k e1 e2 => ?_, free := fun t T0 k e1 e2 => ?_, Zlt := h.Zlt, tr := h.tr.trans hTr, Z0 := h.Z0, Znew := h.Znew, os := h.os, tape := h.tape, output := h.output, grow := h.grow, prot := h.prot }
  · funext i; simp [Cx.newTok, AS.setT, h.tk]
  · simp only [Cx.newTok] at e1 e2
    split at e1
    · rename_i hd; cases e1; rw [if_pos hd] at e2; exact hn e2
    · rename_i hd; rw [if_neg hd] at e2; exact h.none_ t T0 e1 e2
  · simp only [Cx.newTok] at e1 e2
    split at e1
    · rename_i hd
      rw [if_pos hd] at e2
      cases e1
      exact (hT k e2).tr hTr (by show w.heap[k]? = _; rw [h.h])
    · rename_i hd
      rw [if_neg hd] at e2
      exact (h.row t T0 k e1 e2).tr hTr (by show w.heap[k]? = _; rw [h.h])
  · simp only [Cx.newTok] at e
    split at e
    · cases e; exact .inr rfl
    · exact .inl (h.stamp t T0 e)
  · simp only [Cx.newTok] at e1 e2 e3 e4
    split at e1
    · rename_i hd
      rw [if_pos hd] at e3
      split at e2
      · rename_i hd'; rw [hd, hd']
      · rename_i hd'
        rw [if_neg hd'] at e4
        exact absurd e4 ((hb k e3).2.2 t' T1 e2)
    · rename_i hd
      rw [if_neg hd] at e3
      split at e2
      · rename_i hd'
        rw [if_pos hd'] at e4
        exact absurd e3 ((hb k e4).2.2 t T0 e1)
      · rename_i hd'
        rw [if_neg hd'] at e4
        exact h.inj t t' T0 T1 k e1 e2 e3 e4
  · simp only [Cx.newTok] at e1 e2
    split at e1
    · rename_i hd; rw [if_pos hd] at e2; exact (hb k e2).1
    · rename_i hd; rw [if_neg hd] at e2; exact h.apart t T0 k e1 e2
  · simp only [Cx.newTok] at e1 e2
    split at e1
    · rename_i hd; rw [if_pos hd] at e2; exact (hb k e2).2.1
    · rename_i hd; rw [if_neg hd] at e2; exact h.free t T0 k e1 e2

theorem TokAt.move {cx cx' : Cx} {T : Tok} {b : Nat} (g : Nat) (h : TokAt cx T b) (hc : ∀ (i : Nat) (x : AV) (v : Value), T.cs[i]? = some x → Rep cx x v → Rep cx' x v) (hb : cx'.h[b]? = cx.h[b]?) : TokAt cx' { T with g := g } b := by
  obtain ⟨arr, el, fz, h1, h2, h3, h4, h5⟩ := h
  exact ⟨arr, el, fz, hb.trans h1, h2, h3, h4, fun i x v hx hv => hc i x v hx (h5 i x v hx hv)⟩
theorem noRow_closed {w : World} {Z : Nat → Prop} {x : AV} {v : Value} (h : Rep (cxA w Z) x v) {cx' : Cx} (hz : (∀ b, Z b → cx'.Z b ∧ cx'.h[b]? = w.heap[b]?) ∨ x.noSl = true) : Rep cx' x v := by
  induction h with
  | bool b => exact .bool b
  | int k n => exact .int k n
  | str s l h => exact .str s l h
  | nilS => exact .nilS
  | nilP => exact .nilP
  | em b a c h => exact .em b a c h
  | sl0 a c => exact .sl0 a c
  | sl n cs ad c arr el fz hZ hb hs hn hl h1 h ih =>
    rcases hz with hz | hz
    · exact .sl n cs ad c arr el fz (hz _ hZ).1 ((hz _ hZ).2.trans hb) hs hn hl h1 fun i x v hx hv => ih i x v hx hv (.inl hz)
    · simp only [AV.noSl, Bool.and_eq_true, beq_iff_eq, List.isEmpty_iff] at hz
      obtain ⟨rfl, rfl⟩ := hz
      exact .sl0 _ _
  | own t g off n a c hu => exact hu.elim
  | arr t g off n a hu => exact hu.elim
  | addr t g off ad hu => exact hu.elim
  | ptr cs off ad base arr el fz hZ hb hs ho hl h1 h ih =>
    rcases hz with hz | hz
    · exact .ptr cs off ad base arr el fz (hz _ hZ).1 ((hz _ hZ).2.trans hb) hs ho hl h1 fun i x v hx hv => ih i x v hx hv (.inl hz)
    · simp [AV.noSl] at hz
  | fn f caps vs hl h ih => exact .fn f caps vs hl fun i x v hx hv => ih i x v hx hv (hz.imp id fun h => noSlL_get (by simpa [AV.noSl] using h) hx)
  | agg cs vs hl h1 h ih => exact .agg cs vs hl h1 fun i x v hx hv => ih i x v hx hv (hz.imp id fun h => noSlL_get (by simpa [AV.noSl] using h) hx)
  | tup cs vs hl h ih => exact .tup cs vs hl fun i x v hx hv => ih i x v hx hv (hz.imp id fun h => noSlL_get (by simpa [AV.noSl] using h) hx)
  | dead v => exact .dead v

/-! ### Arguments -/
theorem rep_cl {x : AV} {v : Value} (h : Rep cx x v) : Rep cx (cl x) v := by
  cases x with
  | nilS => cases h; exact .sl0 none 0
  | _ => exact h
theorem rep_clA {x : AV} {v : Value} (h : Rep cx x v) : Rep cx (clA x) v := by
  cases x with
  | agg cs =>
    obtain ⟨vs, rfl, h1, h2⟩ := rep_agg h
    refine rep_mkagg ⟨by simpa using h1.1, fun i x v hx hv => ?_⟩ h2
    rw [List.getElem?_map] at hx
    cases e : cs[i]? with
    | none => rw [e] at hx; cases hx
    | some y => rw [e] at hx; cases hx; exact rep_cl (h1.2 i y v e hv)
  | nilS => exact rep_cl h
  | _ => exact h
theorem args_closed {xs : List AV} {vs : List Value} (hs : SimC N F s cx a w) (h : RepL cx xs vs) (hc : closedL xs = true) : RepL (cxA w cx.Z) (xs.map clA) vs := by
  refine ⟨by simpa using h.1, fun i x v hx hv => ?_⟩
  rw [List.getElem?_map] at hx
  cases e : xs[i]? with
  | none => rw [e] at hx; cases hx
  | some y =>
    rw [e] at hx
    cases hx
    exact rep_clA ((h.2 i y v e hv).move (closedL_get hc e) (.inl fun b hb => ⟨hb, by show w.heap[b]? = _; rw [hs.h]⟩))
/-- All blocks that are there. -/
def allB (w : World) (b : Nat) : Prop := b < w.heap.size
theorem move_all (hs : SimC N F s cx a w) {x : AV} {v : Value} (h : Rep cx x v) (hc : x.closed = true) : Rep (cxA w (allB w)) x v :=
  h.move hc (.inl fun b hb => ⟨hs.Zlt b hb, by show w.heap[b]? = _; rw [hs.h]⟩)
theorem reifyC_runs {x : AV} {v : Value} {k : AV → M} (hs : SimC N F s cx a w) (hx : Rep cx x v) (hr : (reifyC x k).Runs P s s') : ∃ y, (k y).Runs P s s' ∧ Rep (cxA w (allB w)) y v := by
  unfold reifyC at hr
  cases x with
  | nilS => cases hx; exact ⟨_, hr, .sl0 none 0⟩
  | own t g off n =>
    obtain ⟨T, e1, e2, hr⟩ := row_runs hs hr
    split at hr
    · rename_i hcl
      refine ⟨_, hr, ?_⟩
      cases hx with
      | own _ _ _ _ p c hU hnc hh =>
        rcases hh T e1 e2 with ⟨h0, hc0⟩ | ⟨b, arr, el, fz, h1, h2, h3, h4⟩
        · subst h0; simp; exact .sl0 _ _
        · obtain ⟨arr', el', fz', f1, f2, f3, f4, f5⟩ := hs.row t T b e1 h1
          rw [h3] at f1
          cases f1
          subst h2
          have hlen : off + ((T.cs.drop off).take (n * T.sz)).length ≤ arr.size := by
            have : n * T.sz ≤ c * T.sz := Nat.mul_le_mul_right _ hnc
            simp only [List.length_take, List.length_drop]
            omega
          refine .sl n _ _ c arr el fz ?_ ?_ rfl hnc hlen (fun i v _ hv => f3 _ v hv) fun i x v hx hv => ?_
          · show b < w.heap.size
            exact hs.blk e1 h1
          · show w.heap[b]? = _
            rw [← hs.h]; exact h3
          · have hx' := hx
            rw [List.getElem?_take, List.getElem?_drop] at hx
            split at hx
            · exact move_all hs (f5 _ x v hx hv) (closedL_get hcl hx')
            · cases hx
    · cases hr
  | arr t g off n =>
    obtain ⟨T, e1, e2, hr⟩ := row_runs hs hr
    split at hr
    · rename_i hcl
      refine ⟨_, hr, ?_⟩
      cases hx with
      | arr _ _ _ _ p hU hh =>
        obtain ⟨b, h1, h2⟩ := hh T e1 e2
        obtain ⟨arr, el, fz, f1, f2, f3, f4, f5⟩ := hs.row t T b e1 h1
        subst h2
        have hlen : off + ((T.cs.drop off).take (n * T.sz)).length ≤ arr.size := by
          simp only [List.length_take, List.length_drop]
          omega
        refine .sl n _ _ n arr el fz ?_ ?_ rfl (Nat.le_refl _) hlen (fun i v _ hv => f3 _ v hv) fun i x v hx hv => ?_
        · show b < w.heap.size
          exact hs.blk e1 h1
        · show w.heap[b]? = _
          rw [← hs.h]; exact f1
        · have hx' := hx
          rw [List.getElem?_take, List.getElem?_drop] at hx
          split at hx
          · exact move_all hs (f5 _ x v hx hv) (closedL_get hcl.2 hx')
          · cases hx
    · cases hr
  | _ =>
    simp only at hr
    split at hr
    · rename_i hc; exact ⟨_, hr, move_all hs hx hc⟩
    · cases hr
theorem reifyL_runs (hs : SimC N F s cx a w) : ∀ {xs : List AV} {vs : List Value} {k : List AV → M}, RepL cx xs vs → (reifyL xs k).Runs P s s' → ∃ ys, (k ys).Runs P s s' ∧ RepL (cxA w (allB w)) ys vs
  | [], vs, k, h, hr => ⟨[], hr, by have := h.1; simp at this; rw [List.eq_nil_of_length_eq_zero this.symm]; exact RepL.nil _⟩
  | x :: xs, vs, k, h, hr => by
    obtain ⟨v, vs', rfl, h1, h2⟩ := h.uncons
    obtain ⟨y, hr, hy⟩ := reifyC_runs hs h1 hr
    obtain ⟨ys, hr, hys⟩ := reifyL_runs hs h2 hr
    exact ⟨y :: ys, hr, .cons hy hys⟩
theorem reify_runs {x : AV} {v : Value} {k : AV → M} (hs : SimC N F s cx a w) (hx : Rep cx x v) (hr : (reify x k).Runs P s s') : ∃ y, (k y).Runs P s s' ∧ Rep (cxA w (allB w)) y v := by
  unfold reify at hr
  cases x with
  | agg cs =>
    obtain ⟨vs, rfl, h1, h2⟩ := rep_agg hx
    obtain ⟨ys, hr, hys⟩ := reifyL_runs hs h1 hr
    exact ⟨_, hr, rep_mkagg hys h2⟩
  | addr t g off =>
    obtain ⟨T, e1, e2, hr⟩ := row_runs hs hr
    split at hr
    · rename_i hcl
      refine ⟨_, hr, ?_⟩
      cases hx with
      | addr _ _ _ ad hU hh =>
        obtain ⟨b, h1, rfl⟩ := hh T e1 e2
        obtain ⟨arr, el, fz, f1, f2, f3, f4, f5⟩ := hs.row t T b e1 h1
        refine .ptr T.cs off _ 0 arr el fz ?_ ?_ rfl (by simp) (by omega) (fun i v _ hv => f3 _ v hv) fun i x v hx hv => move_all hs (f5 i x v hx (by simpa using hv)) (closedL_get hcl hx)
        · show b < w.heap.size
          exact hs.blk e1 h1
        · show w.heap[b]? = _
          rw [← hs.h]; exact f1
    · cases hr
  | _ => exact reifyC_runs hs hx hr
theorem reifyA_runs (hs : SimC N F s cx a w) : ∀ {xs : List AV} {vs : List Value} {k : List AV → M}, RepL cx xs vs → (reifyA xs k).Runs P s s' → ∃ ys, (k ys).Runs P s s' ∧ RepL (cxA w (allB w)) ys vs
  | [], vs, k, h, hr => ⟨[], hr, by have := h.1; simp at this; rw [List.eq_nil_of_length_eq_zero this.symm]; exact RepL.nil _⟩
  | x :: xs, vs, k, h, hr => by
    obtain ⟨v, vs', rfl, h1, h2⟩ := h.uncons
    obtain ⟨y, hr, hy⟩ := reify_runs hs h1 hr
    obtain ⟨ys, hr, hys⟩ := reifyA_runs hs h2 hr
    exact ⟨y :: ys, hr, .cons hy hys⟩

/-- Behind a call, whichever way its arguments were handed over. -/
theorem call_after {o : Oper} {st : Nat} {next : Act → World → Prop} {Z0 : Nat → Prop} {r : AV} {T : Option Tok} (hs : SimC N F s cx a w) (hst : ¬ cx.U st)
    (hmode : (∀ b, Z0 b → cx.Z b) ∨ (r.noSl = true ∧ ∀ T0, T = some T0 → noSlL T0.cs = true)) (hr : (back N o.dst st r T).Runs P s s') (hn : Nx N F (fun g => cx.U g ∨ g = st) s' next)
    {v : Value} {w' : World} {cx' : Cx} (hret : Ret w Z0 T cx' w') (hv : Rep cx' r v) : next (a.put o.dst v) w' := by
  have hcd := hs.called hret
  have hzz : ∀ x : AV, (r.noSl = true ∧ (∀ T0, T = some T0 → noSlL T0.cs = true) → x.noSl = true) → (∀ b, cx'.Z b → (cx.called w cx' w').Z b ∧ (cx.called w cx' w').h[b]? = cx'.h[b]?) ∨ x.noSl = true := by
    intro x hx
    rcases hmode with hm | hm
    · left
      intro b hb
      refine ⟨?_, by show w'.heap[b]? = _; rw [hret.h]⟩
      rcases hret.Znew b hb with h | h
      · exact .inl (hm b h)
      · exact .inr ⟨hb, h⟩
    · exact .inr (hx hm)
  cases T with
  | none =>
    unfold back at hr
    simp only at hr
    split at hr
    · rename_i hcl
      have hv' : Rep (cx.called w cx' w') r v := hv.move hcl (hzz r fun h => h.1)
      unfold out at hr
      cases hd : o.dst with
      | none =>
        rw [hd] at hr
        cases hr
        exact hn _ _ (Sim.moreU ⟨_, rfl, hcd.2⟩ fun g hg => .inl hg)
      | some d =>
        rw [hd] at hr
        simp only at hr
        split at hr
        · rename_i hlt
          cases hr
          rename_i hr
          cases hr
          exact hn _ _ (Sim.moreU ⟨_, rfl, hcd.2.putE hlt hv'⟩ fun g hg => .inl hg)
        · cases hr
    · cases hr
  | some T0 =>
    obtain ⟨t1, t2, t3⟩ := hret.tok T0 rfl
    unfold back at hr
    cases hd : o.dst with
    | none => rw [hd] at hr; cases hr
    | some d =>
      rw [hd] at hr
      simp only at hr
      split at hr
      · rename_i hlt
        cases hr
        rename_i hr
        cases hr
        rename_i hr
        cases hr
        have hgain := hcd.2.gains d { T0 with g := st } (cx'.ρ 0) hst (fun h => t2 h) (fun k hk => by
            obtain ⟨q1, q2, q3⟩ := t3 k hk
            refine q1.move st (fun i x v hx hv => ?_) (by show w'.heap[k]? = _; rfl)
            refine noRow_closed hv ?_
            rcases hzz x (fun h => noSlL_get (h.2 T0 rfl) hx) with h | h
            · left; intro b hb; exact ⟨(h b hb).1, by rw [(h b hb).2, hret.h]⟩
            · exact .inr h)
          (fun k hk => by
            obtain ⟨q1, q2, q3⟩ := t3 k hk
            refine ⟨fun hz => ?_, fun hp => ?_, fun t T' e1 e2 => ?_⟩
            · rcases hz with hz | ⟨hz, _⟩
              · have := hs.Zlt k hz; omega
              · exact q3 hz
            · have := (hs.prot k hp).1; have := hs.grow; omega
            · have := hs.blk e1 e2; omega)
        have hv' : Rep ((cx.called w cx' w').newTok w' d (cx'.ρ 0) { T0 with g := st }) (r.ren d st) v := by
          refine hv.ren d st T0 hret.tk t1 (by simp [Cx.newTok]) (by simp [Cx.newTok]) (.inr rfl) (fun b hb => by show w'.heap[b]? = _; rw [hret.h]) ?_
          rcases hzz r (fun h => h.1) with h | h
          · left; intro b hb; exact ⟨(h b hb).1, (h b hb).2⟩
          · exact .inr h
        exact hn _ _ ⟨_, rfl, hgain.2.putE hlt hv'⟩
      · cases hr

theorem call_done {o : Oper} {st : Nat} {next : Act → World → Prop} {Q : Exit → Act → World → Prop} {f : FuncId} {ys : List AV} {vargs : Array Value} {Z0 : Nat → Prop} {r : AV} {T : Option Tok} (hs : SimC N F s cx a w) (hst : ¬ cx.U st)
    (hrun : (execOp a.eval o).run P w = .ok (.enter f vargs) w) (hc : ACall P f ys r T) (hZ0 : ∀ b, Z0 b → b < w.heap.size) (hargs : RepL (cxA w Z0) ys vargs.toList)
    (hmode : (∀ b, Z0 b → cx.Z b) ∨ (r.noSl = true ∧ ∀ T0, T = some T0 → noSlL T0.cs = true)) (hr : (back N o.dst st r T).Runs P s s') (hn : Nx N F (fun g => cx.U g ∨ g = st) s' next) : o.wp P a w next Q := by
  unfold Oper.wp
  rw [hrun, Oper.upon_enter]
  refine (hc.2 w vargs Z0 hZ0 hargs).mono ?_
  rintro e w' ⟨v, cx', rfl, hret, hv⟩
  exact call_after hs hst hmode hr hn hret hv
theorem call_doneX {o : Oper} {st : Nat} {next : Act → World → Prop} {Q : Exit → Act → World → Prop} {f : FuncId} {ys : List AV} {vargs : Array Value} {Z0 : Nat → Prop} {r : AV} {T : Option Tok} (hs : SimC N F s cx a w) (hst : ¬ cx.U st)
    (hrun : (execOp a.eval o).run P w = (callFunc f vargs).run P w) (hc : XCall P f ys r T) (hZ0 : ∀ b, Z0 b → b < w.heap.size) (hargs : RepL (cxA w Z0) ys vargs.toList)
    (hmode : (∀ b, Z0 b → cx.Z b) ∨ (r.noSl = true ∧ ∀ T0, T = some T0 → noSlL T0.cs = true)) (hr : (back N o.dst st r T).Runs P s s') (hn : Nx N F (fun g => cx.U g ∨ g = st) s' next) : o.wp P a w next Q := by
  obtain ⟨v, w', cx', e, hret, hv⟩ := hc w vargs Z0 hZ0 hargs
  unfold Oper.wp
  rw [hrun, e, Oper.upon_value]
  exact call_after hs hst hmode hr hn hret hv
theorem snd_callV {o : Oper} {st : Nat} {c : Call} {f : Operand} (ho : o.op = .call c) (hc : c.callee = .value f) : Snd P N st o := by
  intro F s s' cx a w next Q hr hst hs hn
  unfold aop at hr; rw [ho] at hr
  obtain ⟨xs, hr, hxs⟩ := evL_runs hs hr
  rw [hc] at hr
  obtain ⟨f', hr, hf⟩ := ev_runs hs hr
  unfold callV at hr
  cases f' with
  | fn fid caps =>
    obtain ⟨vs, ef, hcaps⟩ := rep_fn hf
    have hall : RepL cx (xs ++ caps) (c.args.toList.map a.eval ++ vs.toList) := RepL.append hxs hcaps
    have hrunX : (execOp a.eval o).run P w = (callFunc fid (c.args.map a.eval ++ vs)).run P w := by
      simp only [execOp, ho, resolve, hc, ef, Deferred.ofValue, invoke, pure_bind, Array.empty_append]
    have hrun : Ent P fid → (execOp a.eval o).run P w = .ok (.enter fid (c.args.map a.eval ++ vs)) w := by
      rintro ⟨fn, cc, e1, e2, e3⟩
      simp only [execOp, ho, resolve, hc, ef, Deferred.ofValue, invoke, pure_bind, Array.empty_append]
      have e3' : ¬ fn.name = "runtime.NumGoroutine" := by simpa using e3
      simp [callFunc, e1, e2, e3']
    have htl : (c.args.map a.eval ++ vs).toList = c.args.toList.map a.eval ++ vs.toList := by simp
    simp only at hr
    split at hr
    · rename_i hcl
      cases hr with
      | call _ _ _ _ _ _ _ _ r T hac hb hr =>
        rcases hac with hac | hac
        · exact call_done hs hst (hrun hac.1) hac (Z0 := cx.Z) hs.Zlt (by rw [htl]; exact args_closed hs hall hcl) (.inl fun b h => h) hr hn
        · exact call_doneX hs hst hrunX hac (Z0 := cx.Z) hs.Zlt (by rw [htl]; exact args_closed hs hall hcl) (.inl fun b h => h) hr hn
    · obtain ⟨ys, hr, hys⟩ := reifyA_runs hs hall hr
      cases hr with
      | call _ _ _ _ _ _ _ _ r T hac hb hr =>
        rcases hac with hac | hac
        · exact call_done hs hst (hrun hac.1) hac (Z0 := allB w) (fun b h => h) (by rw [htl]; exact hys) (.inr (hb rfl)) hr hn
        · exact call_doneX hs hst hrunX hac (Z0 := allB w) (fun b h => h) (by rw [htl]; exact hys) (.inr (hb rfl)) hr hn
  | _ => cases hr
end Go.Eng

/- The engine, part 11: len, copy, min, max, conversions; every operation. For every program. -/
set_option linter.unusedVariables false
namespace Go.Eng
open Go.RowKit

variable {P : Program} {N : Nat} {F : Fr} {s s' : AS} {cx : Cx} {a : Act} {w : World}

theorem one_arg {xs : List AV} {c : Call} {x : AV} (h : RepL cx [x] (c.args.toList.map a.eval)) : ∃ v, c.args.map a.eval = #[v] ∧ Rep cx x v := by
  obtain ⟨v, vs, e, h1, h2⟩ := h.uncons
  have : vs = [] := by have := h2.1; simp at this; exact List.eq_nil_of_length_eq_zero this.symm
  subst this
  exact ⟨v, by apply Array.ext'; simpa using e, h1⟩
theorem two_args {c : Call} {x y : AV} (h : RepL cx [x, y] (c.args.toList.map a.eval)) : ∃ u v, c.args.map a.eval = #[u, v] ∧ Rep cx x u ∧ Rep cx y v := by
  obtain ⟨u, vs, e, h1, h2⟩ := h.uncons
  obtain ⟨v, vs', e', h3, h4⟩ := h2.uncons
  have : vs' = [] := by have := h4.1; simp at this; exact List.eq_nil_of_length_eq_zero this.symm
  subst this
  subst e'
  exact ⟨u, v, by apply Array.ext'; simpa using e, h1, h3⟩

theorem snd_len {o : Oper} {st : Nat} {c : Call} (ho : o.op = .call c) (hc : c.callee = .builtin .len) : Snd P N st o := by
  intro F s s' cx a w next Q hr hst hs hn
  unfold aop at hr; rw [ho] at hr
  obtain ⟨xs, hr, hxs⟩ := evL_runs hs hr
  rw [hc] at hr
  simp only at hr
  split at hr
  · rename_i x t ht
    obtain ⟨v, hm, hx⟩ := one_arg (xs := []) hxs
    obtain ⟨n, g1, g2⟩ := len_runs (w := w) hx hr o.type c.argTypes ht
    refine done_out hs ?_ g2 (.int _ _) (fun g hg => .inl hg) hn
    simp only [execOp, ho, resolve, hc, invoke, pure_bind]
    rw [hm]
    simp only [builtin, Sem.run_bind, g1, Result.andThen_ok, Sem.run_pure]
  · cases hr
theorem minmax_runs {mx : Bool} {k1 k2 : IntKind} {p q : Int} : True := trivial
theorem snd_min {o : Oper} {st : Nat} {c : Call} (ho : o.op = .call c) (hc : c.callee = .builtin .min) : Snd P N st o := by
  intro F s s' cx a w next Q hr hst hs hn
  unfold aop at hr; rw [ho] at hr
  obtain ⟨xs, hr, hxs⟩ := evL_runs hs hr
  rw [hc] at hr
  simp only at hr
  unfold minmax at hr
  split at hr
  · rename_i k1 p k2 q
    obtain ⟨u, v, hm, hx, hy⟩ := two_args hxs
    have eu := rep_int hx
    have ev := rep_int hy
    subst eu; subst ev
    split at hr
    · refine done_out (v := .int k1 (if q < p then q else p)) hs ?_ hr (.int _ _) (fun g hg => .inl hg) hn
      simp only [execOp, ho, resolve, hc, invoke, pure_bind]
      rw [hm]
      simp [builtin, Builtin.min_, Builtin.min2]
    · cases hr
  · cases hr
theorem snd_max {o : Oper} {st : Nat} {c : Call} (ho : o.op = .call c) (hc : c.callee = .builtin .max) : Snd P N st o := by
  intro F s s' cx a w next Q hr hst hs hn
  unfold aop at hr; rw [ho] at hr
  obtain ⟨xs, hr, hxs⟩ := evL_runs hs hr
  rw [hc] at hr
  simp only at hr
  unfold minmax at hr
  split at hr
  · rename_i k1 p k2 q
    obtain ⟨u, v, hm, hx, hy⟩ := two_args hxs
    have eu := rep_int hx
    have ev := rep_int hy
    subst eu; subst ev
    split at hr
    · refine done_out (v := .int k1 (if q > p then q else p)) hs ?_ hr (.int _ _) (fun g hg => .inl hg) hn
      simp only [execOp, ho, resolve, hc, invoke, pure_bind]
      rw [hm]
      simp [builtin, Builtin.max_, Builtin.max2]
    · cases hr
  · cases hr

theorem snd_copy {o : Oper} {st : Nat} {c : Call} (ho : o.op = .call c) (hc : c.callee = .builtin .copy) : Snd P N st o := by
  intro F s s' cx a w next Q hr hst hs hn
  unfold aop at hr; rw [ho] at hr
  obtain ⟨xs, hr, hxs⟩ := evL_runs hs hr
  rw [hc] at hr
  simp only at hr
  split at hr
  · rename_i x y t tx ht htx
    obtain ⟨u, v, hm, hx, hy⟩ := two_args hxs
    unfold copyB at hr
    cases hu : P.underlying t with
    | none => rw [hu] at hr; cases hr
    | some d =>
      rw [hu] at hr
      cases d with
      | slice e =>
        simp only at hr
        cases hti : ti P e with
        | none => rw [hti] at hr; cases hr
        | some q =>
          obtain ⟨z, size, by_⟩ := q
          rw [hti] at hr
          obtain ⟨j, j1, j2, j3, j4⟩ := ti_out hti
          simp only at hr
          obtain ⟨m, cs, us, hr, hsrc, hrs, hls, hpre⟩ := srcOf_runs hs hy hr
          cases x with
          | own tk g off n =>
            obtain ⟨T, e1, e2, hr⟩ := row_runs hs hr
            split at hr
            · rename_i hcond
              obtain ⟨k1, k2⟩ := hcond
              cases hr with
              | putT _ _ _ _ _ hr =>
                cases hx with
                | own _ _ _ _ p cap hU hnc hh =>
                  have hmin : min m n ≤ m := Nat.min_le_left _ _
                  have hfc := hpre (min m n) hmin
                  have hul : us.length = m * size := by rw [← hrs.1]; exact hls
                  have hms : min m n * size ≤ m * size := Nat.mul_le_mul_right _ hmin
                  have hrest : RepL cx (cs.take (min m n * size)) (us.take (min m n * size)) := hrs.take _
                  have hexec : ∀ w', (Builtin.copy_ #[t, tx] o.type #[.slice p n cap, v]).run P w = .ok (goInt (min m n : Nat)) w' → (execOp a.eval o).run P w = .ok (.value (.int .i64 (min m n : Nat))) w' := by
                    intro w' h
                    have hats : ∀ vs : Array Value, (Builtin.copy_ c.argTypes o.type vs) = (Builtin.copy_ #[t, tx] o.type vs) := by
                      intro vs
                      unfold Builtin.copy_
                      simp only [ht]
                      rfl
                    simp only [execOp, ho, resolve, hc, invoke, pure_bind]
                    rw [hm]
                    simp only [builtin, Sem.run_bind, hats, h, Result.andThen_ok, Sem.run_pure]
                    rfl
                  have hnm : Nat.min m n = min m n := rfl
                  have hcopy : ∀ w', (match p with | some ad => storeCells ad (us.take (min m n * size)) | none => pure ()).run P w = .ok () w' → (Builtin.copy_ #[t, tx] o.type #[.slice p n cap, v]).run P w = .ok (goInt (min m n : Nat)) w' := by
                    intro w' h
                    have hsz : (sizeOf e).run P w = .ok size w := by simp [sizeOf, typeInfo, j1, j3]
                    cases p with
                    | none => simp at h; subst h; simp [Builtin.copy_, run_underlying hu, hsrc.len, hsz, hnm, hfc]
                    | some ad => simp [Builtin.copy_, run_underlying hu, hsrc.len, hsz, hnm, hfc, h]
                  rcases hh T e1 e2 with ⟨h0, hc0⟩ | ⟨b, arr, el, fz, h1, h2, h3, h4⟩
                  · have hm0 : min m n = 0 := by omega
                    have hrun := hexec w (hcopy w (by rw [hm0]; cases p <;> simp [storeCells]))
                    have hT' : ({ T with cs := setAll T.cs off (cs.take (min m n * size)) } : Tok) = T := by rw [hm0]; simp [setAll]
                    rw [hT'] at hr
                    have hsame : s.setT tk T = s := by
                      cases s with
                      | mk env tkk nx =>
                        have e1' : tkk tk = some T := by rw [← e1, hs.tk]
                        simp only [AS.setT, AS.mk.injEq, true_and, and_true]
                        funext i
                        split
                        · rename_i hi; rw [hi, e1']
                        · rfl
                    rw [hsame] at hr
                    exact done_out hs hrun hr (.int _ _) (fun g hg => .inl hg) hn
                  · subst h2
                    obtain ⟨arr', el', fz', f1, f2, f3, f4, f5⟩ := hs.row tk T b e1 h1
                    rw [h3] at f1
                    cases f1
                    rw [hs.h] at h3
                    have hone : ∀ u ∈ us.take (min m n * size), u.oneCell' = true := fun u hu => hsrc.one u (List.mem_of_mem_take hu)
                    have hlen : (us.take (min m n * size)).length ≤ n * size := by
                      rw [List.length_take]
                      have : min m n * size ≤ n * size := Nat.mul_le_mul_right _ (Nat.min_le_right _ _)
                      omega
                    have hrun := hexec _ (hcopy _ (run_cells h3 f2 (us.take (min m n * size)) hone (by omega)))
                    have hk := hs.stored e1 h1 _ _ hrest (fun u hu => hone u hu) off
                    refine done_out hk.2 hrun hr (.int _ _) (fun g hg => ?_) hn
                    rcases hg with hg | hg
                    · exact .inl hg
                    · exact .inl (by rw [hg]; exact hs.stamp tk T e1)
            · cases hr
          | _ => cases hr
      | _ => cases hr
  · cases hr

/-! ### Conversions -/
theorem intsOf_eq : ∀ {cs : List AV} {l : List Int}, intsOf cs = some l → cs = u8s l
  | [], l, h => by cases h; rfl
  | .int .u8 n :: cs, l, h => by
    unfold intsOf at h
    cases e : intsOf cs with
    | none => rw [e] at h; cases h
    | some r => rw [e] at h; cases h; rw [intsOf_eq e]; rfl
theorem u8s_vals {l : List Int} {us : List Value} (h : RepL cx (u8s l) us) : us = l.map (Value.int .u8) := by
  apply List.ext_getElem?
  intro i
  have hlen : l.length = us.length := by have := h.1; simpa [u8s] using this
  cases e : us[i]? with
  | none =>
    have : us.length ≤ i := by simpa using e
    rw [List.getElem?_map, List.getElem?_eq_none (by omega)]; rfl
  | some v =>
    have hi : i < us.length := (List.getElem?_eq_some_iff.1 e).1
    have hx : (u8s l)[i]? = some (.int .u8 (l[i]'(by omega))) := by simp [u8s, List.getElem?_map, List.getElem?_eq_getElem (show i < l.length by omega)]
    rw [rep_int (h.2 i _ v hx e)]
    simp [List.getElem?_map, List.getElem?_eq_getElem (show i < l.length by omega)]
theorem bytesOf_push : ∀ (l : List Int) (r : ByteArray), bytesOf (l.foldl (fun r n => r.push (UInt8.ofNat n.toNat)) r) = bytesOf r ++ u8n l
  | [], r => by simp [u8n]
  | n :: l, r => by
    rw [List.foldl_cons, bytesOf_push l]
    simp [bytesOf, u8n, ByteArray.push]
set_option maxHeartbeats 1000000 in
theorem snd_convert {o : Oper} {st : Nat} {sT dT : TypeId} {x : Operand} (ho : o.op = .convert sT dT x) : Snd P N st o := by
  intro F s s' cx a w next Q hr hst hs hn
  unfold aop at hr; rw [ho] at hr
  obtain ⟨x', hr, hx⟩ := ev_runs hs hr
  unfold conv at hr
  cases hus : P.underlying sT with
  | none => rw [hus] at hr; cases hr
  | some ds =>
    cases hud : P.underlying dT with
    | none => rw [hus, hud] at hr; cases ds <;> cases hr
    | some dd =>
      rw [hus, hud] at hr
      have hexec : ∀ (v : Value) (w' : World), (convert sT dT (a.eval x)).run P w = .ok v w' → (execOp a.eval o).run P w = .ok (.value v) w' := by
        intro v w' h
        simp only [execOp, ho, Sem.run_bind, h, Result.andThen_ok, Sem.run_pure]
      have toStr : ∀ (e : TypeId), ds = .slice e → dd = .string → ((match P.underlying e with
          | some (.int .u8) => cellsOf x' fun n cs => (match intsOf cs with
            | some l => if l.length = n then out N o.dst (.str (u8n l)) else .fail
            | none => .fail)
          | _ => .fail)).Runs P s s' → o.wp P a w next Q := by
        rintro e rfl rfl hr
        cases hue : P.underlying e with
        | none => rw [hue] at hr; cases hr
        | some de =>
          rw [hue] at hr
          have hint : de = .int .u8 := by
            cases de with
            | int k => cases k <;> first | rfl | (cases hr)
            | _ => cases hr
          subst hint
          simp only at hr
          obtain ⟨n, cs, hr, hcells⟩ := cellsOf_runs hs hx hr
          cases hi : intsOf cs with
          | none => rw [hi] at hr; cases hr
          | some l =>
            rw [hi] at hr
            simp only at hr
            split at hr
            · rename_i hl
              have hcs := intsOf_eq hi
              subst hcs
              obtain ⟨us, r1, r2, r3, r4, _⟩ := hcells.read 1 (by simp [u8s, hl])
              have hvals := u8s_vals r2
              obtain ⟨p, c, ev, hnc⟩ := hcells.shape
              have hrun : (convert sT dT (a.eval x)).run P w = .ok (.string (l.foldl (fun r n => r.push (UInt8.ofNat n.toNat)) ByteArray.empty)) w := by
                rw [ev, run_convert_bytes_string w sT dT e p n c hus hue hud]
                cases p with
                | none =>
                  have h1 := r1 w rfl
                  rw [ev] at h1
                  simp [Builtin.firstCells] at h1
                  have : us = [] := by rw [← h1]
                  rw [this] at hvals
                  have hl0 : l = [] := by simpa using hvals.symm
                  subst hl0
                  simp [Conv.bytesToString]
                | some ad =>
                  refine run_bytesToString w ad n c l ?_
                  have h1 := r1 w rfl
                  rw [ev] at h1
                  simp only [Builtin.firstCells, Nat.mul_one] at h1
                  rw [h1, hvals]
              refine done_out hs (hexec _ _ hrun) hr (.str _ _ ?_) (fun g hg => .inl hg) hn
              rw [bytesOf_push]
              simp [bytesOf]
            · cases hr
      cases dd with
      | int kd =>
        cases x' with
        | int k n =>
          simp only at hr
          have ex := rep_int hx
          have hr' : (out N o.dst (.int kd (kd.wrap n))).Runs P s s' := by cases ds <;> exact hr
          refine done_out (v := .int kd (kd.wrap n)) hs (hexec _ _ ?_) hr' (.int _ _) (fun g hg => .inl hg) hn
          rw [ex]
          simp [convert, run_underlying hus, run_underlying hud, Conv.intToInt]
        | _ => cases ds <;> cases hr
      | string =>
        cases x' with
        | str l =>
          obtain ⟨sv, ex, hl⟩ := rep_str hx
          have hr' : (out N o.dst (.str l)).Runs P s s' := by cases ds <;> exact hr
          refine done_out (v := .string sv) hs (hexec _ _ ?_) hr' (.str _ _ hl) (fun g hg => .inl hg) hn
          rw [ex]
          simp [convert, run_underlying hus, run_underlying hud]
        | _ => cases ds <;> first | (cases hr; done) | exact toStr _ rfl rfl hr
      | slice e =>
        cases ds with
        | string =>
          cases x' with
          | str l =>
            simp only at hr
            split at hr
            · rename_i hue hti
              obtain ⟨sv, ex, hl⟩ := rep_str hx
              have hrun := hexec _ _ (by rw [ex]; exact run_bytes_of_string w sT dT e sv hus hud hue)
              have hgr : sv.size ≤ grownCap w sv.size 0 e := by simp only [grownCap, Question.cut]; omega
              have hlen : l.length = sv.size := by rw [← hl, bytesOf_length]
              have hsz : (bytesRow sv (grownCap w sv.size 0 e)).size = grownCap w sv.size 0 e := by
                simp [bytesRow]; omega
              rw [hlen] at hr
              refine done_mk (w' := w.drew.alloc _) hs hr hst (bytesRow sv (grownCap w sv.size 0 e)) e _ rfl rfl rfl rfl (.inr (Nat.le_refl _)) (fun i u hu => ?_) (by rw [hsz]; simp [u8s, hlen]; exact hgr) (fun i y u hy hu => ?_) hrun
                (fun d cx' e1 e2 e3 e4 => own_new e1 e2 e3 e4 hgr (by rw [hsz]; omega)) hn
              · have := Array.mem_of_getElem? hu
                simp only [bytesRow, Array.mem_append, Array.mem_map, Array.mem_replicate] at this
                rcases this with ⟨b, _, rfl⟩ | ⟨_, rfl⟩ <;> rfl
              · subst hl
                have hi : i < sv.size := by have := (List.getElem?_eq_some_iff.1 hy).1; rw [u8s, List.length_map, bytesOf_length] at this; exact this
                have hbc : (byteCells sv)[i]? = some u := by
                  rw [← hu]
                  simp only [bytesRow, byteCells]
                  rw [Array.getElem?_append, if_pos (by simpa using hi)]
                  simp
                exact (u8s_rep cx sv).2 i y u hy hbc
            · cases hr
          | _ => cases hr
        | slice e1 =>
          cases x' with
          | own tk g off n =>
            simp only at hr
            split at hr
            · rename_i hsd
              subst hsd
              rw [hus] at hud
              cases hud
              cases hue : P.underlying e with
              | none => rw [hue] at hr; cases hr
              | some de =>
                rw [hue] at hr
                have hint : de = .int .u8 := by
                  cases de with
                  | int k => cases k <;> first | rfl | (cases hr)
                  | _ => cases hr
                subst hint
                simp only at hr
                obtain ⟨T, e1', e2', hr⟩ := row_runs hs hr
                split at hr
                · rename_i hn0
                  cases hr with
                  | putT _ _ _ _ _ hr =>
                    cases hv : a.eval x with
                    | slice p n' c =>
                      rw [hv] at hx
                      cases hx with
                      | own _ _ _ _ _ _ hu hnc hh =>
                        rcases hh T e1' e2' with ⟨h0, _⟩ | ⟨b, arr, el, fz, h1, h2, h3, h4⟩
                        · omega
                        · obtain ⟨arr', el', fz', f1, f2, f3, f4, f5⟩ := hs.row tk T b e1' h1
                          rw [h3] at f1
                          cases f1
                          rw [hs.h] at h3
                          subst h2
                          have hbl : b < w.heap.size := hs.blk e1' h1
                          have hsh : w.shape? b = some (el, arr.size) := by unfold World.shape?; rw [h3]
                          have hrun := hexec (.slice (some ⟨b, off, none⟩) n c) (w.freeze ⟨b, arr.size, none⟩ 1) (by
                            rw [hv]
                            simp [convert, run_underlying hus, run_underlying hue, markStringish, hsh])
                          have hfz : (w.freeze ⟨b, arr.size, none⟩ 1).heap[b]? = some (.cells arr el (if fz.1 == fz.2 then (arr.size, arr.size + 1) else (min fz.1 arr.size, max fz.2 (arr.size + 1)))) := by
                            unfold World.freeze
                            rw [if_neg (by decide)]
                            simp [Array.getElem?_modify, h3]
                          have hk := hs.updTok (T' := T) e1' h1 arr arr el el fz _ h3 (w.freeze ⟨b, arr.size, none⟩ 1) hfz (fun k hk => by
                              unfold World.freeze
                              rw [if_neg (by decide)]
                              simp [Array.getElem?_modify, Ne.symm hk]) (by unfold World.freeze; rw [if_neg (by decide)]; simp) (by unfold World.freeze; rw [if_neg (by decide)]) (by unfold World.freeze; rw [if_neg (by decide)])
                              (by unfold World.freeze; rw [if_neg (by decide)]) (.inl rfl) rfl (Nat.le_refl _) (by
                                unfold FzOk at f2 ⊢
                                split
                                · exact .inr (Nat.le_refl _)
                                · rename_i hne
                                  have hne' : ¬ fz.1 = fz.2 := by simpa using hne
                                  right
                                  show arr.size ≤ min fz.1 arr.size
                                  omega) f3 f4 f5
                          refine done_out hk.2 hrun hr (.own tk g off n _ c (.inl hu) hnc fun T' hT hg => .inr ⟨b, arr, el, _, h1, rfl, hfz, ?_⟩) (fun g hg => ?_) hn
                          · simp only [Cx.updTok, if_true, Option.some.injEq] at hT
                            subst hT
                            exact h4
                          · rcases hg with hg | hg
                            · exact .inl hg
                            · rw [hg, e2']; exact .inl hu
                    | _ => rw [hv] at hx; cases hx
                · cases hr
            · cases hr
          | _ => cases hr
        | _ => cases x' <;> cases hr
      | _ => cases ds <;> cases x' <;> cases hr

theorem snd_all (st : Nat) (o : Oper) : Snd P N st o := by
  cases ho : o.op with
  | move x => exact snd_move ho
  | assign x => exact snd_assign ho
  | pick c x y => exact snd_pick ho
  | alloc t => exact snd_alloc ho
  | box t x => exact snd_box ho
  | build t ps => exact snd_build ho
  | buildSlice t n ps => exact snd_buildSlice ho
  | load t x => exact snd_load ho
  | store t x y => exact snd_store ho
  | nilCheck x => exact snd_nilCheck ho
  | binOp op t x y yt => exact snd_binOp ho
  | unOp op t x => exact snd_unOp ho
  | convert sT dT x => exact snd_convert ho
  | makeFunc fn f c => exact snd_makeFunc ho
  | makeSlice t x y => exact snd_makeSlice ho
  | slice t x l h m => exact snd_slice ho
  | fieldAddr t x f => exact snd_fieldAddr ho
  | field t x f => exact snd_field ho
  | indexAddr t x i => exact snd_indexAddr ho
  | index t x i => exact snd_index ho
  | extract x i => exact snd_extract ho
  | call c =>
    cases hc : c.callee with
    | value f => exact snd_callV ho hc
    | builtin b =>
      cases b with
      | len => exact snd_len ho hc
      | append => exact snd_append ho hc
      | copy => exact snd_copy ho hc
      | min => exact snd_min ho hc
      | max => exact snd_max ho hc
      | _ =>
        intro F s s' cx a w next Q hr hst hs hn
        unfold aop at hr; rw [ho] at hr
        obtain ⟨xs, hr, hxs⟩ := evL_runs hs hr
        rw [hc] at hr
        cases hr
    | invoke r m =>
      intro F s s' cx a w next Q hr hst hs hn
      unfold aop at hr; rw [ho] at hr
      obtain ⟨xs, hr, hxs⟩ := evL_runs hs hr
      rw [hc] at hr
      cases hr
  | _ =>
    intro F s s' cx a w next Q hr hst hs hn
    unfold aop at hr; rw [ho] at hr
    cases hr
end Go.Eng
