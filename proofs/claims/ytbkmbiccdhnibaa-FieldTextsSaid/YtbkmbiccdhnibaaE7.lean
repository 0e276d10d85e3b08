/- The engine, part 7: append, copy, least and greatest, conversions, arithmetic. For every program. -/
import Derived.Test.YtbkmbiccdhnibaaE6
set_option linter.unusedVariables false
namespace Go.Eng
open Go.RowKit

variable {P : Program} {N : Nat} {F : Fr} {s s' : AS} {cx : Cx} {a : Act} {w : World}

/-! ### What a slice's cells are -/
/-- The cells of a slice lie in the world. -/
structure CellsAt (P : Program) (cx : Cx) (w : World) (v : Value) (n : Nat) (cs : List AV) : Prop where
  shape : ∃ p c, v = .slice p n c ∧ n ≤ c
  read : ∀ size, cs.length = n * size → ∃ us : List Value, (∀ w' : World, w'.heap = w.heap → (Builtin.firstCells size n v).run P w' = .ok us.toArray w') ∧ RepL cx cs us ∧ (∀ u ∈ us, u.oneCell' = true) ∧
    (∀ tx e, P.underlying tx = some (.slice e) → Src P size tx v n us w) ∧ ∀ k, k ≤ n → (Builtin.firstCells size k v).run P w = .ok (us.take (k * size)).toArray w

theorem cellsAt_of {v : Value} {p : Option Addr} {n c : Nat} {cs : List AV} (hv : v = .slice p n c) (hn : n ≤ c) (h : (n = 0 ∧ cs = []) ∨ ∃ b o arr el fz, p = some ⟨b, o, none⟩ ∧ w.heap[b]? = some (.cells arr el fz) ∧
    o + cs.length ≤ arr.size ∧ (∀ (i : Nat) (v : Value), i < cs.length → arr[o + i]? = some v → cell1 v = true) ∧ ∀ (i : Nat) (x : AV) (v : Value), cs[i]? = some x → arr[o + i]? = some v → Rep cx x v) : CellsAt P cx w v n cs := by
  subst hv
  refine ⟨⟨p, c, rfl, hn⟩, fun size hl => ?_⟩
  rcases h with ⟨rfl, rfl⟩ | ⟨b, o, arr, el, fz, rfl, h1, h2, h3, h4⟩
  · refine ⟨[], fun w' _ => ?_, RepL.nil _, (fun u hu => by cases hu), fun tx e hu => ?_, fun k hk => ?_⟩
    · cases p <;> simp [Builtin.firstCells, loadCells, loadCellsFrom]
    · cases p with
      | none => exact Src.ofNil w hu c
      | some ad => exact Src.ofSlice w hu ad 0 c [] (by simp) (fun j u h => by simp at h) (fun u h => by cases h)
    · have : k = 0 := by omega
      subst this
      cases p <;> simp [Builtin.firstCells, loadCells, loadCellsFrom]
  · have hget : ∀ (j : Nat) (u : Value), ((arr.toList.drop o).take cs.length)[j]? = some u → arr[o + j]? = some u := by
      intro j u hu
      rw [List.getElem?_take, List.getElem?_drop] at hu
      split at hu
      · simpa using hu
      · cases hu
    have hlen : ((arr.toList.drop o).take cs.length).length = cs.length := by simp; omega
    have hcell : ∀ (w' : World), w'.heap = w.heap → ∀ (j : Nat) (u : Value), ((arr.toList.drop o).take cs.length)[j]? = some u → w'.cell? ((⟨b, o, none⟩ : Addr).add j) = some u := by
      intro w' hw j u hu
      rw [add_off _ _ rfl, cell_at (by rw [hw]; exact h1)]
      exact hget j u hu
    have hone : ∀ u ∈ (arr.toList.drop o).take cs.length, u.oneCell' = true := by
      intro u hu
      obtain ⟨j, hj⟩ := List.getElem?_of_mem hu
      have hjl : j < cs.length := by rw [← hlen]; exact (List.getElem?_eq_some_iff.1 hj).1
      exact h3 j u hjl (hget j u hj)
    refine ⟨(arr.toList.drop o).take cs.length, fun w' hw => run_firstCells_some w' size n _ n c _ (by rw [hlen, hl]) (hcell w' hw), ⟨hlen.symm, fun i x v hx hv => h4 i x v hx (hget i v hv)⟩, hone, fun tx e hu => ?_, fun k hk => ?_⟩
    · exact Src.ofSlice w hu _ n c _ (by rw [hlen, hl]) (hcell w rfl) hone
    · have hks : k * size ≤ n * size := Nat.mul_le_mul_right _ hk
      refine run_firstCells_some w size k _ n c _ (by rw [List.length_take, hlen, hl]; omega) (fun j u hu => hcell w rfl j u ?_)
      rw [List.getElem?_take] at hu
      split at hu
      · exact hu
      · cases hu

theorem cellsOf_runs {x : AV} {v : Value} {k : Nat → List AV → M} (hs : SimC N F s cx a w) (hx : Rep cx x v) (hr : (cellsOf x k).Runs P s s') :
    ∃ n cs, (k n cs).Runs P s s' ∧ CellsAt P cx w v n cs := by
  unfold cellsOf at hr
  cases x with
  | nilS => cases hx with | nilS => exact ⟨0, [], hr, cellsAt_of rfl (Nat.le_refl _) (.inl ⟨rfl, rfl⟩)⟩
  | sl n cs =>
    cases hx with
    | sl0 p c => exact ⟨0, [], hr, cellsAt_of rfl (Nat.zero_le _) (.inl ⟨rfl, rfl⟩)⟩
    | sl _ _ ad c arr el fz hz hb hsp hn hl h1 h =>
      refine ⟨n, cs, hr, cellsAt_of rfl hn (.inr ⟨ad.block, ad.off, arr, el, fz, ?_, by rw [← hs.h]; exact hb, hl, h1, h⟩)⟩
      cases ad; simp_all
  | own t g off n =>
    obtain ⟨T, e1, e2, hr⟩ := row_runs hs hr
    cases hx with
    | own _ _ _ _ p c hU hnc hh =>
      refine ⟨n, _, hr, cellsAt_of rfl hnc ?_⟩
      rcases hh T e1 e2 with ⟨h0, hc0⟩ | ⟨b, arr, el, fz, h1, h2, h3, h4⟩
      · left; exact ⟨h0, by simp [h0]⟩
      · right
        obtain ⟨arr', el', fz', f1, f2, f3, f4, f5⟩ := hs.row t T b e1 h1
        rw [h3] at f1
        cases f1
        refine ⟨b, off, arr, el, fz, h2, by rw [← hs.h]; exact h3, ?_, (fun i v _ hv => f3 _ v hv), fun i x v hx hv => ?_⟩
        · have : n * T.sz ≤ c * T.sz := Nat.mul_le_mul_right _ hnc
          simp only [List.length_take, List.length_drop]
          omega
        · rw [List.getElem?_take, List.getElem?_drop] at hx
          split at hx
          · exact f5 _ x v hx hv
          · cases hx
  | _ => cases hr

theorem u8s_rep (cx : Cx) (sv : ByteArray) : RepL cx (u8s (bytesOf sv)) (byteCells sv) := by
  refine ⟨by simp [u8s, bytesOf, byteCells], fun i x v hx hv => ?_⟩
  simp only [u8s, bytesOf, byteCells, List.getElem?_map] at hx hv
  cases h : sv.data.toList[i]? with
  | none => rw [h] at hx; simp at hx
  | some b =>
    rw [h] at hx hv
    simp at hx hv
    subst hx; subst hv
    exact .int _ _

/-- What is appended. -/
theorem srcOf_runs {tx : TypeId} {size : Nat} {y : AV} {v : Value} {k : Nat → List AV → M} (hs : SimC N F s cx a w) (hy : Rep cx y v) (hr : (srcOf P tx size y k).Runs P s s') :
    ∃ m cs us, (k m cs).Runs P s s' ∧ Src P size tx v m us w ∧ RepL cx cs us ∧ cs.length = m * size ∧ ∀ k, k ≤ m → (Builtin.firstCells size k v).run P w = .ok (us.take (k * size)).toArray w := by
  unfold srcOf at hr
  cases hu : P.underlying tx with
  | none => rw [hu] at hr; cases hr
  | some d =>
    rw [hu] at hr
    cases d with
    | string =>
      cases y with
      | str l =>
        simp only at hr
        split at hr
        · rename_i hsz
          subst hsz
          obtain ⟨sv, rfl, hl⟩ := rep_str hy
          subst hl
          refine ⟨_, _, byteCells sv, hr, by rw [bytesOf_length]; exact Src.ofString w hu sv, u8s_rep cx sv, by simp [u8s], fun k hk => ?_⟩
          rw [bytesOf_length] at hk
          simp only [Builtin.firstCells, Nat.mul_one, Sem.run_pure, Result.ok.injEq, and_true]
          apply Array.ext'
          simp [byteCells, List.extract, ByteArray.data_extract]
        · cases hr
      | _ => cases hr
    | slice e =>
      simp only at hr
      obtain ⟨n, cs, hr, hc⟩ := cellsOf_runs hs hy hr
      split at hr
      · rename_i hl
        obtain ⟨us, h1, h2, h3, h4, h5⟩ := hc.read size hl
        exact ⟨n, cs, us, hr, h4 tx e hu, h2, hl, h5⟩
      · cases hr
    | _ => cases hr

theorem zeroCells_one {z : Value} (h : ∀ (i : Nat) (u : Value), z.cells[i]? = some u → cell1 u = true) (hz : 0 < z.cells.size) (n : Nat) : ∀ u ∈ (Builtin.zeroCells z.cells n).toList, cell1 u = true := by
  intro u hu
  simp only [Builtin.zeroCells, Array.toList_map, Array.toList_range, List.mem_map] at hu
  obtain ⟨i, hi, rfl⟩ := hu
  have hlt : i % z.cells.size < z.cells.size := Nat.mod_lt _ hz
  have e : z.cells[i % z.cells.size]! = z.cells[i % z.cells.size] := by simp [hlt]
  rw [e]
  exact h (i % z.cells.size) _ (by simp [hlt])
theorem growBy_le (newLen : Nat) : ∀ (r c : Nat), Builtin.growBy newLen r c ≤ max c (newLen + (newLen + 768) / 4)
  | 0, c => by simp only [Builtin.growBy]; omega
  | r + 1, c => by
    simp only [Builtin.growBy]
    split
    · omega
    · have := growBy_le newLen r (c + (c + 768) / 4)
      omega
theorem nextcap_fits {need cap by_ : Nat} (h : cap < need) (hb : need * by_ ≤ 140737488355328) : Builtin.nextslicecap need cap * by_ ≤ 281474976710656 := by
  have key : Builtin.nextslicecap need cap ≤ 2 * need := by
    unfold Builtin.nextslicecap
    split
    · omega
    · split
      · omega
      · have := growBy_le need 4 cap; omega
  have : Builtin.nextslicecap need cap * by_ ≤ 2 * need * by_ := Nat.mul_le_mul_right _ key
  rw [Nat.mul_assoc] at this
  omega
theorem grown_le (w : World) (need old : Nat) (e : TypeId) (h : need ≤ 4611686018427387904) : need ≤ grownCap w need old e := by
  simp only [grownCap, Question.cut]; omega

/-- An append that grows, onto cells that are read: the new row. -/
theorem append_new {t tx e : TypeId} {z : List AV} {size by_ n m cap : Nat} {p : Option Addr} {y : Value} {olds us : List Value} {cs0 cs : List AV}
    (hu : P.underlying t = some (.slice e)) (hz : zc P e = some (z, size, by_)) (hpos : 0 < size) (hold : (Builtin.firstCells size n (.slice p n cap)).run P w.drew = .ok olds.toArray w.drew) (ho1 : ∀ u ∈ olds, u.oneCell' = true)
    (hro : RepL cx cs0 olds) (hlo : cs0.length = n * size) (hsrc : Src P size tx y m us w) (hrs : RepL cx cs us) (hls : cs.length = m * size) (hg : cap < n + m) (hb : (n + m) * by_ ≤ 140737488355328) (h63 : n + m ≤ 4611686018427387904) (ty : TypeId) :
    ∃ arr c, (Builtin.append_ #[t, tx] ty #[.slice p n cap, y]).run P w = .ok (.slice (some ⟨w.heap.size, 0, none⟩) (n + m) c) (w.drew.alloc (.cells arr e)) ∧ n + m ≤ c ∧ c * size ≤ arr.size ∧
      (∀ (i : Nat) (v : Value), arr[i]? = some v → cell1 v = true) ∧ (cs0 ++ cs).length ≤ arr.size ∧ ∀ (i : Nat) (x : AV) (v : Value), (cs0 ++ cs)[i]? = some x → arr[i]? = some v → Rep cx x v := by
  obtain ⟨i, zv, h1, h2, h3, h4, h5, h5', h6, h7⟩ := zc_out hz
  have hgr := grown_le w (n + m) cap e h63
  have hol : olds.length = n * size := by rw [← hro.1]; exact hlo
  have hul : us.length = m * size := by rw [← hrs.1]; exact hls
  refine ⟨_, _, run_append_grow_src w t tx ty e i zv hu h1 h2 p n cap olds (by rw [h3]; exact hold) y m us (by rw [h3]; exact hsrc) hg (by omega) (by rw [h4]; exact nextcap_fits hg hb), hgr, ?_, fun j v hj => ?_, ?_, fun j x v hx hv => ?_⟩
  · simp only [Array.size_append, List.size_toArray, List.length_append, Builtin.zeroCells, Array.size_map, Array.size_range, h5, hol, hul]
    have : n * size + m * size = (n + m) * size := by rw [Nat.add_mul]
    have : (grownCap w (n + m) cap e - (n + m)) * size + (n + m) * size = grownCap w (n + m) cap e * size := by rw [← Nat.add_mul]; congr 1; omega
    omega
  · have hm : v ∈ ((olds ++ us).toArray ++ Builtin.zeroCells zv.cells (grownCap w (n + m) cap e - (n + m))).toList := Array.mem_toList_iff.2 (Array.mem_of_getElem? hj)
    simp only [Array.toList_append, List.mem_append] at hm
    rcases hm with (hm | hm) | hm
    · exact ho1 v hm
    · exact hsrc.one v hm
    · exact zeroCells_one h6 (by omega) _ v hm
  · simp only [Array.size_append, List.size_toArray, List.length_append, hro.1, hrs.1]; omega
  · have hlt : j < (cs0 ++ cs).length := (List.getElem?_eq_some_iff.1 hx).1
    rw [Array.getElem?_append] at hv
    rw [if_pos (by simpa [hro.1, hrs.1] using hlt)] at hv
    exact (RepL.append hro hrs).2 j x v hx (by simpa using hv)
end Go.Eng
