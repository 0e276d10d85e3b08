/- The engine, part 4: stores, literals, addresses, indexing. For every program. -/
import Derived.Test.YtbkmbiccdhnibaaE3
set_option linter.unusedVariables false
namespace Go.Eng
open Go.RowKit

variable {P : Program} {N : Nat} {F : Fr} {s s' : AS} {cx : Cx} {a : Act} {w : World}

theorem setAll_length {α : Type} : ∀ (xs : List α) (cs : List α) (off : Nat), (setAll cs off xs).length = cs.length
  | [], cs, off => rfl
  | x :: xs, cs, off => by rw [setAll, setAll_length xs]; simp
theorem setAll_mem {α : Type} {p : α → Prop} : ∀ (xs : List α) (cs : List α) (off : Nat), (∀ x ∈ cs, p x) → (∀ x ∈ xs, p x) → ∀ x ∈ setAll cs off xs, p x
  | [], cs, off, h, _ => h
  | y :: xs, cs, off, h, k => setAll_mem xs _ _ (fun x hx => by
      rcases List.mem_or_eq_of_mem_set hx with h' | h'
      · exact h x h'
      · exact k x (by rw [h']; simp)) (fun x hx => k x (List.mem_cons_of_mem _ hx))
/-- The first cells of a row stand for these. -/
def RepP (cx : Cx) (cs : List AV) (vs : List Value) : Prop := cs.length ≤ vs.length ∧ ∀ (i : Nat) (x : AV) (v : Value), cs[i]? = some x → vs[i]? = some v → Rep cx x v
theorem RepP.set {cs : List AV} {vs : List Value} (h : RepP cx cs vs) (i : Nat) {x : AV} {v : Value} (hx : Rep cx x v) : RepP cx (cs.set i x) (vs.set i v) := by
  refine ⟨by simp [h.1], fun j y u hy hu => ?_⟩
  rw [List.getElem?_set] at hy hu
  by_cases e : i = j
  · subst e
    rw [if_pos rfl] at hy hu
    split at hy
    · cases hy
      split at hu
      · cases hu; exact hx
      · cases hu
    · cases hy
  · rw [if_neg e] at hy hu
    exact h.2 j y u hy hu
theorem RepP.setAll : ∀ {xs : List AV} {us : List Value}, RepL cx xs us → ∀ {cs : List AV} {vs : List Value}, RepP cx cs vs → ∀ (off : Nat), RepP cx (setAll cs off xs) (setAll vs off us)
  | [], us, hx, cs, vs, h, off => by
    have : us = [] := by have := hx.1; simpa using this.symm
    subst this; exact h
  | x :: xs, us, hx, cs, vs, h, off => by
    obtain ⟨v, us', rfl, h1, h2⟩ := hx.uncons
    exact RepP.setAll h2 (h.set off h1) (off + 1)
theorem RepL.setAll {xs : List AV} {us : List Value} (hx : RepL cx xs us) {cs : List AV} {vs : List Value} (h : RepL cx cs vs) (off : Nat) : RepL cx (setAll cs off xs) (setAll vs off us) :=
  ⟨by rw [setAll_length, setAll_length, h.1], (RepP.setAll hx ⟨by rw [h.1]; exact Nat.le_refl _, h.2⟩ off).2⟩

theorem heap_setCells (b : Nat) : ∀ (vs : List Value) (o : Nat) (w : World) (arr : Array Value) (el : TypeId) (fz : Nat × Nat), w.heap[b]? = some (.cells arr el fz) →
    (w.setCells b o vs).heap[b]? = some (.cells (setAll arr.toList o vs).toArray el fz)
  | [], o, w, arr, el, fz, h => by simpa [World.setCells, setAll] using h
  | v :: vs, o, w, arr, el, fz, h => by
    rw [World.setCells, heap_setCells b vs (o + 1) (w.setCell ⟨b, o, none⟩ v) (arr.setIfInBounds o v) el fz (by simp [World.setCell, Array.getElem?_modify, h])]
    simp [setAll]
theorem heap_setCells_other (b : Nat) : ∀ (vs : List Value) (o : Nat) (w : World) (k : Nat), k ≠ b → (w.setCells b o vs).heap[k]? = w.heap[k]?
  | [], o, w, k, h => rfl
  | v :: vs, o, w, k, h => by rw [World.setCells, heap_setCells_other b vs _ _ k h, Below.heap_setCell _ _ _ _ h]
theorem setCells_size (b : Nat) : ∀ (vs : List Value) (o : Nat) (w : World), (w.setCells b o vs).heap.size = w.heap.size
  | [], o, w => rfl
  | v :: vs, o, w => by rw [World.setCells, setCells_size b vs]; simp [World.setCell]
theorem setCells_rest (b : Nat) : ∀ (vs : List Value) (o : Nat) (w : World), (w.setCells b o vs).os = w.os ∧ (w.setCells b o vs).tape = w.tape ∧ (w.setCells b o vs).output = w.output
  | [], o, w => ⟨rfl, rfl, rfl⟩
  | v :: vs, o, w => by rw [World.setCells]; exact setCells_rest b vs _ _

theorem frozen_at {b o : Nat} {arr : Array Value} {el : TypeId} {fz : Nat × Nat} (hb : w.heap[b]? = some (.cells arr el fz)) (hf : FzOk arr.size fz) (ho : o < arr.size) : w.frozen? ⟨b, o, none⟩ = false := by
  have := hf.ok ho
  simp [World.frozen?, hb]
  omega

/-- Cells are stored. -/
theorem run_cells {b o : Nat} {arr : Array Value} {el : TypeId} {fz : Nat × Nat} (hb : w.heap[b]? = some (.cells arr el fz)) (hf : FzOk arr.size fz) (vs : List Value)
    (h1 : ∀ v ∈ vs, v.oneCell' = true) (hl : o + vs.length ≤ arr.size) : (storeCells ⟨b, o, none⟩ vs).run P w = .ok () (w.setCells b o vs) := by
  have := run_storeCells_cells (P := P) b o vs 0 w (fun j hj => by rw [cell_at hb]; simp; omega) (fun j hj => frozen_at hb hf (by omega)) h1
  simpa using this

/-- A row of one's own has been stored into. -/
theorem SimC.stored (h : SimC N F s cx a w) {t : Nat} {T : Tok} {b : Nat} (e1 : cx.tk t = some T) (e2 : cx.ρ t = some b) (xs : List AV) (us : List Value) (hx : RepL cx xs us) (h1 : ∀ v ∈ us, cell1 v = true) (off : Nat) :
    Tr cx (cx.updTok (w.setCells b off us) t { T with cs := setAll T.cs off xs }) ∧ SimC N F (s.setT t { T with cs := setAll T.cs off xs }) (cx.updTok (w.setCells b off us) t { T with cs := setAll T.cs off xs }) a (w.setCells b off us) := by
  obtain ⟨arr, el, fz, f1, f2, f3, f4, f5⟩ := h.row t T b e1 e2
  rw [h.h] at f1
  have hP : RepP cx (setAll T.cs off xs) (setAll arr.toList off us) := RepP.setAll hx ⟨by simpa using f4, fun i x v hx hv => f5 i x v hx (by simpa using hv)⟩ off
  refine h.updTok e1 e2 arr _ el el fz fz f1 _ (heap_setCells b us off w arr el fz f1) (fun k hk => heap_setCells_other b us off w k hk) (setCells_size b us off w) (setCells_rest b us off w).1 (setCells_rest b us off w).2.1
    (setCells_rest b us off w).2.2 (.inl rfl) rfl (by simp [setAll_length]) (by simpa [setAll_length] using f2) (fun i v hv => ?_) (by simp [setAll_length]; exact f4) (fun i x v hx hv => hP.2 i x v hx (by simpa using hv))
  rw [List.getElem?_toArray] at hv
  exact setAll_mem (p := fun v => cell1 v = true) us arr.toList off (fun x hx => by obtain ⟨j, hj⟩ := List.getElem?_of_mem hx; exact f3 j x (by simpa using hj)) h1 v (List.mem_of_getElem? hv)

theorem snd_store {o : Oper} {st : Nat} {t : TypeId} {x y : Operand} (ho : o.op = .store t x y) : Snd P N st o := by
  intro F s s' cx a w next Q hr hst hs hn
  unfold aop at hr; rw [ho] at hr
  obtain ⟨x', hr, hx⟩ := ev_runs hs hr
  obtain ⟨y', hr, hy⟩ := ev_runs hs hr
  cases hd : o.dst with
  | some d => rw [hd] at hr; cases hr
  | none =>
    rw [hd] at hr
    simp only at hr
    unfold store at hr
    cases x' with
    | addr tk g off =>
      cases hc : y'.cells? with
      | none => rw [hc] at hr; cases hr
      | some cs =>
        cases hti : ti P t with
        | none => rw [hc, hti] at hr; cases hr
        | some q =>
          obtain ⟨z, size, by_⟩ := q
          rw [hc, hti] at hr
          obtain ⟨T, e1, e2, hr⟩ := row_runs hs hr
          split at hr
          · rename_i hcond
            obtain ⟨c1, c2⟩ := hcond
            cases hr with
            | putT _ _ _ _ _ hr =>
              cases hr
              obtain ⟨k1, k2⟩ := cells_rep hy hc
              obtain ⟨i, i1, i2, i3, i4⟩ := ti_out hti
              cases hv : a.eval x with
              | pointer p =>
                rw [hv] at hx
                cases hx with
                | addr _ _ _ ad hu hh =>
                  obtain ⟨b, e3, rfl⟩ := hh T e1 e2
                  obtain ⟨arr, el, fz, f1, f2, f3, f4, f5⟩ := hs.row tk T b e1 e3
                  rw [hs.h] at f1
                  have hone : ∀ v ∈ (a.eval y).cells.toList, v.oneCell' = true := fun v hv => by
                    obtain ⟨j, hj⟩ := List.getElem?_of_mem hv
                    exact k2 j v (by simpa using hj)
                  have hlen : (a.eval y).cells.size = size := by have := k1.1; simp at this; omega
                  have hrun : (execOp a.eval o).run P w = .ok .skip (w.setCells b off (a.eval y).cells.toList) := by
                    have hc := run_cells (P := P) (o := off) f1 f2 (a.eval y).cells.toList hone (by simp; omega)
                    simp [execOp, ho, hv, Instr.storeAt, Instr.sureAddr, storeVar, sizeOf, typeInfo, i1, i3, hlen, hc]
                  unfold Oper.wp
                  rw [hrun, Oper.upon_skip, hd]
                  have hk := hs.stored e1 e3 cs (a.eval y).cells.toList k1 (fun v hv => hone v hv) off
                  refine hn _ _ (Sim.moreU ⟨_, rfl, hk.2⟩ fun g hg => ?_)
                  rcases hg with hg | hg
                  · exact .inl hg
                  · exact .inl (by rw [hg]; exact hs.stamp tk T e1)
              | _ => rw [hv] at hx; cases hx
          · cases hr
    | _ => cases hr

/-! ### Literals -/
theorem fold_set (off : Nat) : ∀ (l : List Value) (cells : Array Value) (k : Nat), (l.zipIdx k).foldl (fun cs (p : Value × Nat) => cs.setIfInBounds (off + p.2) p.1) cells = (setAll cells.toList (off + k) l).toArray
  | [], cells, k => by simp [setAll]
  | v :: l, cells, k => by
    rw [List.zipIdx_cons, List.foldl_cons, fold_set off l]
    simp [setAll, Nat.add_assoc]
theorem fill_rep {place : Nat → Option (Nat × Nat)} : ∀ {ps : List (Nat × AV)} {vs : List (Nat × Value)}, ps.map Prod.fst = vs.map Prod.fst → RepL cx (ps.map Prod.snd) (vs.map Prod.snd) →
    ∀ {cells : List AV} {cv : Array Value} {res : List AV}, RepL cx cells cv.toList → (∀ v ∈ cv.toList, cell1 v = true) → afill place cells ps = some res →
    ∃ rv, Instr.fill place cv vs = some rv ∧ RepL cx res rv.toList ∧ (∀ v ∈ rv.toList, cell1 v = true)
  | [], vs, hf, hs, cells, cv, res, hc, h1, hr => by
    have : vs = [] := by simpa using hf.symm
    subst this
    cases hr
    exact ⟨cv, rfl, hc, h1⟩
  | (i, x) :: ps, [], hf, hs, cells, cv, res, hc, h1, hr => by simp at hf
  | (i, x) :: ps, (j, v) :: vs, hf, hs, cells, cv, res, hc, h1, hr => by
    simp only [List.map_cons, List.cons.injEq] at hf
    obtain ⟨e, hf⟩ := hf
    have e : i = j := e
    subst e
    simp only [List.map_cons] at hs
    obtain ⟨v', vs', e', hx, hs⟩ := hs.uncons
    simp only [List.cons.injEq] at e'
    obtain ⟨rfl, rfl⟩ := e'
    unfold afill at hr
    cases hp : place i with
    | none => rw [hp] at hr; cases hr
    | some q =>
      obtain ⟨off, size⟩ := q
      rw [hp] at hr
      simp only at hr
      cases hcc : x.cells? with
      | none => rw [hcc] at hr; cases hr
      | some cs =>
        rw [hcc] at hr
        simp only at hr
        split at hr
        · rename_i hcond
          obtain ⟨k1, k2⟩ := cells_rep hx hcc
          have hlen : v.cells.size = size := by have := k1.1; simp at this; omega
          have hcl : cells.length = cv.size := by have := hc.1; simpa using this
          have hfold : (v.cells.zipIdx.foldl (fun cs (p : Value × Nat) => cs.setIfInBounds (off + p.2) p.1) cv) = (setAll cv.toList off v.cells.toList).toArray := by
            have := fold_set off v.cells.toList cv 0
            rw [← Array.foldl_toList, Array.toList_zipIdx]
            simpa using this
          obtain ⟨rv, r1, r2, r3⟩ := fill_rep (place := place) hf hs (cells := setAll cells off cs) (cv := (setAll cv.toList off v.cells.toList).toArray) (by simpa using RepL.setAll k1 hc off)
            (by simpa using setAll_mem (p := fun v => cell1 v = true) v.cells.toList cv.toList off h1 (fun v hv => by obtain ⟨j, hj⟩ := List.getElem?_of_mem hv; exact k2 j v (by simpa using hj))) hr
          refine ⟨rv, ?_, r2, r3⟩
          unfold Instr.fill
          rw [hp]
          simp only
          rw [if_neg (by simp; omega)]
          exact hfold ▸ r1
        · cases hr
theorem places_run {fields : Array Field} {pl : List (Nat × Nat)} (h : places P fields = some pl) : (fields.mapM (fun f => Prod.mk f.offset <$> sizeOf f.type) : Sem (Array (Nat × Nat))).run P w = .ok pl.toArray w := by
  have key : ∀ (l : List Field) (pl : List (Nat × Nat)), l.mapM (fun f => (ti P f.type).map fun i => (f.offset, i.2.1)) = some pl → (l.mapM (fun f => Prod.mk f.offset <$> sizeOf f.type) : Sem (List (Nat × Nat))).run P w = .ok pl w := by
    intro l
    induction l with
    | nil => intro pl h; simp at h; subst h; simp
    | cons f l ih =>
      intro pl h
      rw [List.mapM_cons] at h
      cases hti : ti P f.type with
      | none => rw [hti] at h; simp at h
      | some q =>
        obtain ⟨i, i1, i2, i3, i4⟩ := ti_out (P := P) (t := f.type) (z := q.1) (n := q.2.1) (b := q.2.2) (by rw [hti])
        rw [hti] at h
        cases hm : l.mapM (fun f => (ti P f.type).map fun i => (f.offset, i.2.1)) with
        | none => rw [hm] at h; simp at h
        | some pl' =>
          rw [hm] at h
          simp at h
          subst h
          have hsz : (sizeOf f.type).run P w = .ok q.2.1 w := by simp [sizeOf, typeInfo, i1, i3]
          have hi := ih pl' hm
          rw [List.mapM_cons]
          simp only [Sem.run_bind, Sem.run_map, hsz, Result.andThen_ok, Sem.run_pure, hi]
  rw [Array.mapM_eq_mapM_toList]
  rw [Sem.run_map, key _ pl h]
  rfl
theorem map_parts (a : Act) (parts : Array (Nat × Operand)) : (parts.map fun (p : Nat × Operand) => (p.1, a.eval p.2)).toList = parts.toList.map fun p => (p.1, a.eval p.2) := by simp

theorem snd_build {o : Oper} {st : Nat} {t : TypeId} {parts : Array (Nat × Operand)} (ho : o.op = .build t parts) : Snd P N st o := by
  intro F s s' cx a w next Q hr hst hs hn
  unfold aop at hr; rw [ho] at hr
  obtain ⟨ps, hr, hf, hx⟩ := evP_runs hs hr
  have hf' : ps.map Prod.fst = (parts.toList.map fun p => (p.1, a.eval p.2)).map Prod.fst := by rw [hf]; simp
  have hx' : RepL cx (ps.map Prod.snd) ((parts.toList.map fun p => (p.1, a.eval p.2)).map Prod.snd) := by simpa [Function.comp_def] using hx
  cases hz : zc P t with
  | none => cases hu : P.underlying t with
    | none => rw [hu, hz] at hr; cases hr
    | some d => rw [hu, hz] at hr; cases d <;> cases hr
  | some q =>
    obtain ⟨z, n, b⟩ := q
    obtain ⟨i, zv, h1, h2, h3, h4, h5, h5', h6, h7⟩ := zc_out hz
    have h6' : ∀ v ∈ zv.cells.toList, cell1 v = true := fun v hv => by obtain ⟨j, hj⟩ := List.getElem?_of_mem hv; exact h6 j v (by simpa using hj)
    cases hu : P.underlying t with
    | none => rw [hu, hz] at hr; cases hr
    | some d =>
      rw [hu, hz] at hr
      cases d with
      | struct fields =>
        simp only at hr
        cases hp : places P fields with
        | none => rw [hp] at hr; cases hr
        | some pl =>
          rw [hp] at hr
          simp only at hr
          cases hfl : afill (fun i => pl[i]?) z ps with
          | none => rw [hfl] at hr; cases hr
          | some res =>
            rw [hfl] at hr
            obtain ⟨rv, r1, r2, r3⟩ := fill_rep hf' hx' (h7 cx) h6' hfl
            have hrun : (execOp a.eval o).run P w = .ok (.value (.agg rv)) w := by
              have hpl := places_run (w := w) hp
              simp [execOp, ho, Instr.build, zeroValue, typeInfo, h1, h2, run_underlying hu, hpl, r1]
            exact done_out hs hrun hr (rep_mkagg r2 fun i u hu => r3 u (by simpa using Array.mem_of_getElem? hu)) (fun g hg => .inl hg) hn
      | array len e =>
        simp only at hr
        cases hti : ti P e with
        | none => rw [hti] at hr; cases hr
        | some q =>
          obtain ⟨z', size, b'⟩ := q
          rw [hti] at hr
          obtain ⟨j, j1, j2, j3, j4⟩ := ti_out hti
          simp only at hr
          cases hfl : afill (fun i => some (i * size, size)) z ps with
          | none => rw [hfl] at hr; cases hr
          | some res =>
            rw [hfl] at hr
            obtain ⟨rv, r1, r2, r3⟩ := fill_rep hf' hx' (h7 cx) h6' hfl
            have hrun : (execOp a.eval o).run P w = .ok (.value (.agg rv)) w := by
              simp [execOp, ho, Instr.build, zeroValue, sizeOf, typeInfo, h1, h2, j1, j3, run_underlying hu, r1]
            exact done_out hs hrun hr (rep_mkagg r2 fun i u hu => r3 u (by simpa using Array.mem_of_getElem? hu)) (fun g hg => .inl hg) hn
      | _ => cases hr
end Go.Eng
