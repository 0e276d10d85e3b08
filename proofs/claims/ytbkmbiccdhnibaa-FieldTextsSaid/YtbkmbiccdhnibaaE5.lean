/- The engine, part 5: slice literals, addresses, indexing, lengths, slices. For every program. -/
import Derived.Test.YtbkmbiccdhnibaaE4
set_option linter.unusedVariables false
namespace Go.Eng
open Go.RowKit

variable {P : Program} {N : Nat} {F : Fr} {s s' : AS} {cx : Cx} {a : Act} {w : World}

theorem zrep_length (z : List AV) (n : Nat) : (zrep z n).length = n * z.length := by simp [zrep]
/-- Zero cells, as the model lays them. -/
theorem zrep_rep {z : List AV} {zv : Array Value} (h : RepL cx z zv.toList) (h1 : ∀ v ∈ zv.toList, cell1 v = true) (n m : Nat) (hm : n * z.length = m) (hz : m = 0 ∨ 0 < z.length) :
    RepL cx (zrep z n) (((Array.range m).map (fun i => zv[i % zv.size]!)).toList) ∧ ∀ v ∈ ((Array.range m).map (fun i => zv[i % zv.size]!)).toList, cell1 v = true := by
  have hsz : z.length = zv.size := by have := h.1; simpa using this
  have hget : ∀ i, i < m → ∃ u, zv[i % zv.size]? = some u ∧ zv[i % zv.size]! = u := by
    intro i hi
    have hpos : 0 < zv.size := by omega
    have hlt : i % zv.size < zv.size := Nat.mod_lt _ hpos
    exact ⟨zv[i % zv.size], by simp [hlt], by simp [hlt]⟩
  refine ⟨⟨by simp [zrep, hm], fun i x v hx hv => ?_⟩, fun v hv => ?_⟩
  · simp only [zrep, List.getElem?_map] at hx
    have hi : i < n * z.length := by
      rcases Nat.lt_or_ge i (n * z.length) with h' | h'
      · exact h'
      · rw [List.getElem?_eq_none (by simpa using h')] at hx; cases hx
    rw [List.getElem?_range hi] at hx
    simp only [Option.map_some, Option.some.injEq] at hx
    obtain ⟨u, hu1, hu2⟩ := hget i (by omega)
    rw [Array.toList_map, List.getElem?_map, Array.toList_range, List.getElem?_range (by omega)] at hv
    simp only [Option.map_some, Option.some.injEq] at hv
    rw [← hx, ← hv, hu2, hsz]
    exact h.get (by simpa using hu1)
  · rw [Array.toList_map, Array.toList_range, List.mem_map] at hv
    obtain ⟨i, hi, rfl⟩ := hv
    obtain ⟨u, hu1, hu2⟩ := hget i (by simpa using hi)
    rw [hu2]
    exact h1 u (by simpa using Array.mem_of_getElem? hu1)

theorem own_new {cx' : Cx} {d st sz n c b : Nat} {cs : List AV} {arr : Array Value} {el : TypeId} {fz : Nat × Nat} (e1 : cx'.tk d = some ⟨st, sz, cs⟩) (e2 : cx'.ρ d = some b) (e3 : cx'.U st) (e4 : cx'.h[b]? = some (.cells arr el fz))
    (hn : n ≤ c) (hc : c * sz ≤ arr.size) : Rep cx' (.own d st 0 n) (.slice (some ⟨b, 0, none⟩) n c) :=
  .own d st 0 n _ c e3 hn fun T hT hg => .inr ⟨b, arr, el, fz, e2, rfl, e4, by rw [e1] at hT; cases hT; simpa using hc⟩

theorem snd_buildSlice {o : Oper} {st : Nat} {t : TypeId} {len : Nat} {parts : Array (Nat × Operand)} (ho : o.op = .buildSlice t len parts) : Snd P N st o := by
  intro F s s' cx a w next Q hr hst hs hn
  unfold aop at hr; rw [ho] at hr
  obtain ⟨ps, hr, hf, hx⟩ := evP_runs hs hr
  have hf' : ps.map Prod.fst = (parts.toList.map fun p => (p.1, a.eval p.2)).map Prod.fst := by rw [hf]; simp
  have hx' : RepL cx (ps.map Prod.snd) ((parts.toList.map fun p => (p.1, a.eval p.2)).map Prod.snd) := by simpa [Function.comp_def] using hx
  cases hu : P.underlying t with
  | none => rw [hu] at hr; cases hr
  | some d =>
    rw [hu] at hr
    cases d with
    | slice e =>
      simp only at hr
      cases hz : zc P e with
      | none => rw [hz] at hr; cases hr
      | some q =>
        obtain ⟨z, size, b⟩ := q
        rw [hz] at hr
        simp only at hr
        obtain ⟨i, zv, h1, h2, h3, h4, h5, h5', h6, h7⟩ := zc_out hz
        have h6' : ∀ v ∈ zv.cells.toList, cell1 v = true := fun v hv => by obtain ⟨j, hj⟩ := List.getElem?_of_mem hv; exact h6 j v (by simpa using hj)
        have hzl : z.length = size := by have := (h7 cx).1; simp at this; omega
        split at hr
        · rename_i hlim
          cases hfl : afill (fun i => some (i * size, size)) (zrep z len) ps with
          | none => rw [hfl] at hr; cases hr
          | some res =>
            rw [hfl] at hr
            obtain ⟨z1, z2⟩ := zrep_rep (h7 cx) h6' len (len * size) (by rw [hzl]) (by
              rcases Nat.eq_zero_or_pos size with h0 | h0
              · left; simp [h0]
              · right; omega)
            obtain ⟨rv, r1, r2, r3⟩ := fill_rep hf' hx' z1 z2 hfl
            have hrv : rv.size = res.length := by have := r2.1; simp at this; omega
            have hres : res.length = len * size := by
              have hk : ∀ (ps : List (Nat × AV)) (c r : List AV), afill (fun i => some (i * size, size)) c ps = some r → r.length = c.length := by
                intro ps
                induction ps with
                | nil => intro c r h; cases h; rfl
                | cons p ps ih =>
                  intro c r h
                  obtain ⟨i, x⟩ := p
                  unfold afill at h
                  simp only at h
                  cases hcc : x.cells? with
                  | none => rw [hcc] at h; cases h
                  | some cs =>
                    rw [hcc] at h
                    simp only at h
                    split at h
                    · rw [ih _ _ h, setAll_length]
                    · cases h
              rw [hk _ _ _ hfl, zrep_length, hzl]
            have hrun : (execOp a.eval o).run P w = .ok (.value (.slice (some ⟨w.heap.size, 0, none⟩) len len)) { w with heap := w.heap.push (.cells rv e) } := by
              have hlim' : ¬ (16777216 < len * size) := by omega
              have hsz : ∀ w' : World, (sizeOf e).run P w' = .ok size w' := fun w' => by simp [sizeOf, typeInfo, h1, h3]
              have hzv : ∀ w' : World, (zeroValue e).run P w' = .ok zv w' := fun w' => by simp [zeroValue, typeInfo, h1, h2]
              have hb : (Instr.buildSlice t len (parts.map fun (p : Nat × Operand) => (p.1, a.eval p.2))).run P w = .ok (.slice (some ⟨w.heap.size, 0, none⟩) len len) { w with heap := w.heap.push (.cells rv e) } := by
                by_cases h0 : len * size = 0
                · have hcells : (Array.range (len * size)).map (fun i => zv.cells[i % zv.cells.size]!) = #[] := by rw [h0]; apply Array.ext'; simp
                  rw [hcells] at r1
                  simp only [Instr.buildSlice, Sem.run_bind, run_underlying hu, hsz, h0, Result.andThen_ok, map_parts, if_true, pure_bind, Array.range_zero', Array.map_empty]
                  simp [r1, newRow]
                · simp [Instr.buildSlice, run_underlying hu, hsz, hlim', h0, hzv, newRow, r1]
              simp only [execOp, ho, Sem.run_bind, hb, Result.andThen_ok, Sem.run_pure]
            refine done_mk hs hr hst rv e (0, 0) (w' := { w with heap := w.heap.push (.cells rv e) }) (v := .slice (some ⟨w.heap.size, 0, none⟩) len len) rfl rfl rfl rfl (.inl rfl) (fun i u hu => r3 u (by simpa using Array.mem_of_getElem? hu)) (by omega)
              (fun i x v hx hv => r2.2 i x v hx (by simpa using hv)) hrun (fun d cx' e1 e2 e3 e4 => ?_) hn
            exact own_new e1 e2 e3 e4 (Nat.le_refl _) (by omega)
        · cases hr
    | _ => cases hr

theorem add_off (ad : Addr) (k : Nat) (h : ad.spot = none) : ad.add k = ⟨ad.block, ad.off + k, none⟩ := by
  unfold Addr.add; split <;> cases ad <;> simp_all

theorem snd_fieldAddr {o : Oper} {st : Nat} {t : TypeId} {x : Operand} {f : Nat} (ho : o.op = .fieldAddr t x f) : Snd P N st o := by
  intro F s s' cx a w next Q hr hst hs hn
  unfold aop at hr; rw [ho] at hr
  obtain ⟨x', hr, hx⟩ := ev_runs hs hr
  unfold fieldAddr at hr
  cases hu : P.underlying t with
  | none => rw [hu] at hr; cases hr
  | some d =>
    rw [hu] at hr
    cases d with
    | struct fields =>
      simp only at hr
      cases hf : fields[f]? with
      | none => rw [hf] at hr; cases hr
      | some fd =>
        rw [hf] at hr
        simp only at hr
        cases hti : ti P fd.type with
        | none => rw [hti] at hr; cases hr
        | some q =>
          obtain ⟨z, size, b⟩ := q
          rw [hti] at hr
          obtain ⟨i, i1, i2, i3, i4⟩ := ti_out hti
          simp only at hr
          split at hr
          · cases hr
          · rename_i hsz
            have key : ∀ ad : Addr, a.eval x = .pointer (some ad) → (execOp a.eval o).run P w = .ok (.value (.pointer (some (ad.add fd.offset)))) w := by
              intro ad hv
              have hfp : (fieldPlace ad fd).run P w = .ok (ad.add fd.offset) w := by simp [fieldPlace, sizeOf, typeInfo, i1, i3, hsz]
              simp [execOp, ho, hv, Instr.fieldAt, Instr.sureAddr, run_underlying hu, hf, hfp]
            cases x' with
            | addr tk g off =>
              cases hv : a.eval x with
              | pointer p =>
                rw [hv] at hx
                cases hx with
                | addr _ _ _ ad hU hh =>
                  refine done_out hs (key ad hv) hr (.addr tk g _ _ hU fun T hT hg => ?_) (fun g hg => .inl hg) hn
                  obtain ⟨b, h1, rfl⟩ := hh T hT hg
                  exact ⟨b, h1, add_off _ _ rfl⟩
              | _ => rw [hv] at hx; cases hx
            | ptr cs off =>
              cases hv : a.eval x with
              | pointer p =>
                rw [hv] at hx
                cases hx with
                | ptr _ _ ad base arr el fz hz hb hsp hoff hl h1 h =>
                  refine done_out hs (key ad hv) hr ?_ (fun g hg => .inl hg) hn
                  rw [add_off ad fd.offset hsp]
                  exact .ptr cs _ _ base arr el fz hz hb rfl (by simp [hoff, Nat.add_assoc]) hl h1 h
              | _ => rw [hv] at hx; cases hx
            | _ => cases hr
    | _ => cases hr

theorem part_runs {t : TypeId} {cs : List AV} {vs : Array Value} {off : Nat} {k : AV → M} (hr : (part P t cs off k).Runs P s s') (h : RepL cx cs vs.toList) (h1 : ∀ (i : Nat) (u : Value), vs[i]? = some u → cell1 u = true) :
    ∃ x v, (Go.part t vs off).run P w = .ok v w ∧ Rep cx x v ∧ (k x).Runs P s s' := by
  unfold part ldCells at hr
  have hlen : cs.length = vs.size := by have := h.1; simpa using this
  cases e : ldV P t cs off with
  | none => rw [e] at hr; cases hr
  | some x =>
    rw [e] at hr
    simp only at hr
    unfold ldV at e
    cases hu : P.underlying t with
    | none => rw [hu] at e; cases e
    | some d =>
      cases hti : ti P t with
      | none => rw [hu, hti] at e; cases e
      | some q =>
        obtain ⟨z, size, by_⟩ := q
        obtain ⟨i, i1, i2, i3, i4⟩ := ti_out hti
        rw [hu, hti] at e
        simp only at e
        split at e
        · rename_i hd
          have hagg : (isAgg t).run P w = .ok true w := by
            unfold isAgg
            rw [Sem.run_bind, run_underlying hu w]
            cases d <;> simp_all [isRow]
          split at e
          · rename_i hlt
            cases e
            refine ⟨_, .agg (vs.extract off (off + size)), ?_, rep_mkagg ⟨?_, fun i x v hx hv => ?_⟩ (fun i u hu => ?_), hr⟩
            · simp [Go.part, hagg, sizeOf, typeInfo, i1, i3]
            · simp; omega
            · rw [List.getElem?_take, List.getElem?_drop] at hx
              split at hx
              · rename_i hi
                refine h.2 _ x v hx ?_
                rw [Array.getElem?_toList, Array.getElem?_extract] at hv
                rw [if_pos (by omega)] at hv
                simpa using hv
              · cases hx
            · rw [Array.getElem?_extract] at hu
              split at hu
              · exact h1 _ u hu
              · cases hu
          · cases e
        · rename_i hd
          have hagg : (isAgg t).run P w = .ok false w := by
            unfold isAgg
            rw [Sem.run_bind, run_underlying hu w]
            cases d <;> simp_all [isRow]
          split at e
          · rename_i hlt
            cases e
            have hlt' : off < vs.size := by omega
            refine ⟨_, vs[off], by simp [Go.part, hagg, hlt'], h.get (by simp [hlt']), hr⟩
          · cases e
theorem snd_field {o : Oper} {st : Nat} {t : TypeId} {x : Operand} {f : Nat} (ho : o.op = .field t x f) : Snd P N st o := by
  intro F s s' cx a w next Q hr hst hs hn
  unfold aop at hr; rw [ho] at hr
  obtain ⟨x', hr, hx⟩ := ev_runs hs hr
  unfold field at hr
  cases hu : P.underlying t with
  | none => rw [hu] at hr; cases hr
  | some d =>
    rw [hu] at hr
    cases d with
    | struct fields =>
      cases x' with
      | agg cs =>
        simp only at hr
        cases hf : fields[f]? with
        | none => rw [hf] at hr; cases hr
        | some fd =>
          rw [hf] at hr
          obtain ⟨vs, e, h1, h2⟩ := rep_agg hx
          obtain ⟨y, v, g1, g2, g3⟩ := part_runs (w := w) hr h1 h2
          exact done_out hs (by simp [execOp, ho, e, Instr.field, run_underlying hu, hf, asAgg, g1]) g3 g2 (fun g hg => .inl hg) hn
      | _ => cases hr
    | _ => cases x' <;> cases hr

theorem snd_index {o : Oper} {st : Nat} {t : TypeId} {x ix : Operand} (ho : o.op = .index t x ix) : Snd P N st o := by
  intro F s s' cx a w next Q hr hst hs hn
  unfold aop at hr; rw [ho] at hr
  obtain ⟨x', hr, hx⟩ := ev_runs hs hr
  obtain ⟨i', hr, hi⟩ := ev_runs hs hr
  unfold index at hr
  cases i' with
  | int k i =>
    have ei := rep_int hi
    simp only at hr
    cases hu : P.underlying t with
    | none => rw [hu] at hr; cases hr
    | some d =>
      rw [hu] at hr
      cases d with
      | string =>
        cases x' with
        | str l =>
          simp only at hr
          obtain ⟨sv, ex, hl⟩ := rep_str hx
          split at hr
          · rename_i hc
            have hlt : i.toNat < sv.size := by
              have : l.length = sv.size := by rw [← hl, bytesOf, List.length_map, Array.length_toList]; rfl
              omega
            have hb : sv[i.toNat]? = some sv[i.toNat] := getElem?_pos sv i.toNat hlt
            have hg : l.getD i.toNat 0 = (sv[i.toNat].toNat : Int) := by
              rw [← hl, bytesOf, List.getD_eq_getElem?_getD, List.getElem?_map]
              have : sv.data.toList[i.toNat]? = some sv[i.toNat] := by
                rw [Array.getElem?_toList]
                exact Array.getElem?_eq_getElem (xs := sv.data) hlt
              rw [this]; rfl
            refine done_out (v := .int .u8 (sv[i.toNat].toNat : Int)) hs ?_ hr (by rw [hg]; exact .int _ _) (fun g hg => .inl hg) hn
            simp [execOp, ho, ex, ei, Instr.index, asIntOf, run_underlying hu, hc.1, hb]
          · cases hr
        | _ => cases hr
      | array n e =>
        cases x' with
        | agg cs =>
          simp only at hr
          cases hti : ti P e with
          | none => rw [hti] at hr; cases hr
          | some q =>
            obtain ⟨z, size, b⟩ := q
            rw [hti] at hr
            obtain ⟨j, j1, j2, j3, j4⟩ := ti_out hti
            simp only at hr
            split at hr
            · rename_i hc
              obtain ⟨vs, e', h1, h2⟩ := rep_agg hx
              obtain ⟨y, v, g1, g2, g3⟩ := part_runs (w := w) hr h1 h2
              exact done_out hs (by simp [execOp, ho, e', ei, Instr.index, asIntOf, run_underlying hu, hc, sizeOf, typeInfo, j1, j3, g1]) g3 g2 (fun g hg => .inl hg) hn
            · cases hr
        | _ => cases hr
      | _ => cases x' <;> cases hr
  | _ => cases hr

theorem snd_indexAddr {o : Oper} {st : Nat} {t : TypeId} {x ix : Operand} (ho : o.op = .indexAddr t x ix) : Snd P N st o := by
  intro F s s' cx a w next Q hr hst hs hn
  unfold aop at hr; rw [ho] at hr
  obtain ⟨x', hr, hx⟩ := ev_runs hs hr
  obtain ⟨i', hr, hi⟩ := ev_runs hs hr
  unfold indexAddr at hr
  cases i' with
  | int k i =>
    have ei := rep_int hi
    simp only at hr
    cases hu : P.underlying t with
    | none => rw [hu] at hr; cases hr
    | some d =>
      rw [hu] at hr
      cases d with
      | slice e =>
        have key : ∀ (ad : Addr) (n c size : Nat), a.eval x = .slice (some ad) n c → (∃ z b, ti P e = some (z, size, b)) → 0 ≤ i → i < n → (execOp a.eval o).run P w = .ok (.value (.pointer (some (ad.add (i.toNat * size))))) w := by
          intro ad n c size hv hti h0 h1
          obtain ⟨z, b, hti⟩ := hti
          obtain ⟨j, j1, j2, j3, j4⟩ := ti_out hti
          simp [execOp, ho, hv, ei, Instr.indexAt, asIntOf, run_underlying hu, h0, h1, sizeOf, typeInfo, j1, j3]
        cases x' with
        | own tk g off n =>
          simp only at hr
          cases hti : ti P e with
          | none => rw [hti] at hr; cases hr
          | some q =>
            obtain ⟨z, size, b⟩ := q
            rw [hti] at hr
            obtain ⟨T, e1, e2, hr⟩ := row_runs hs hr
            split at hr
            · rename_i hc
              cases hv : a.eval x with
              | slice p n' c =>
                rw [hv] at hx
                cases hx with
                | own _ _ _ _ _ _ hU hnc hh =>
                  rcases hh T e1 e2 with h0 | ⟨bb, arr, el, fz, h1, h2, h3, h4⟩
                  · omega
                  · subst h2
                    refine done_out hs (key _ n c size hv ⟨z, b, hti⟩ hc.1 hc.2) hr (.addr tk g _ _ hU fun T' hT hg => ⟨bb, h1, add_off _ _ rfl⟩) (fun g hg => .inl hg) hn
              | _ => rw [hv] at hx; cases hx
            · cases hr
        | arr tk g off n =>
          simp only at hr
          cases hti : ti P e with
          | none => rw [hti] at hr; cases hr
          | some q =>
            obtain ⟨z, size, b⟩ := q
            rw [hti] at hr
            obtain ⟨T, e1, e2, hr⟩ := row_runs hs hr
            split at hr
            · rename_i hc
              cases hv : a.eval x with
              | slice p n' c =>
                rw [hv] at hx
                cases hx with
                | arr _ _ _ _ _ hU hh =>
                  obtain ⟨bb, h1, h2⟩ := hh T e1 e2
                  subst h2
                  refine done_out hs (key _ n n size hv ⟨z, b, hti⟩ hc.1 hc.2) hr (.addr tk g _ _ hU fun T' hT hg => ⟨bb, h1, add_off _ _ rfl⟩) (fun g hg => .inl hg) hn
              | _ => rw [hv] at hx; cases hx
            · cases hr
        | sl n cs =>
          simp only at hr
          cases hti : ti P e with
          | none => rw [hti] at hr; cases hr
          | some q =>
            obtain ⟨z, size, b⟩ := q
            rw [hti] at hr
            simp only at hr
            split at hr
            · rename_i hc
              cases hv : a.eval x with
              | slice p n' c =>
                rw [hv] at hx
                cases hx with
                | sl0 _ _ => simp at hc
                | sl _ _ ad _ arr el fz hz hb hsp hnc hl h1 h =>
                  refine done_out hs (key _ n c size hv ⟨z, b, hti⟩ hc.1 hc.2.1) hr ?_ (fun g hg => .inl hg) hn
                  rw [add_off _ _ hsp]
                  exact .ptr cs _ _ ad.off arr el fz hz hb rfl rfl hl h1 h
              | _ => rw [hv] at hx; cases hx
            · cases hr
        | _ => cases hr
      | array n e =>
        have key : ∀ (ad : Addr) (size : Nat), a.eval x = .pointer (some ad) → (∃ z b, ti P e = some (z, size, b)) → 0 ≤ i → i < n → (execOp a.eval o).run P w = .ok (.value (.pointer (some (ad.add (i.toNat * size))))) w := by
          intro ad size hv hti h0 h1
          obtain ⟨z, b, hti⟩ := hti
          obtain ⟨j, j1, j2, j3, j4⟩ := ti_out hti
          simp [execOp, ho, hv, ei, Instr.indexAt, Instr.sureAddr, asIntOf, run_underlying hu, h0, h1, sizeOf, typeInfo, j1, j3]
        cases x' with
        | addr tk g off =>
          simp only at hr
          cases hti : ti P e with
          | none => rw [hti] at hr; cases hr
          | some q =>
            obtain ⟨z, size, b⟩ := q
            rw [hti] at hr
            simp only at hr
            split at hr
            · rename_i hc
              cases hv : a.eval x with
              | pointer p =>
                rw [hv] at hx
                cases hx with
                | addr _ _ _ ad hU hh =>
                  refine done_out hs (key ad size hv ⟨z, b, hti⟩ hc.1 hc.2) hr (.addr tk g _ _ hU fun T' hT hg => ?_) (fun g hg => .inl hg) hn
                  obtain ⟨bb, h1, rfl⟩ := hh T' hT hg
                  exact ⟨bb, h1, add_off _ _ rfl⟩
              | _ => rw [hv] at hx; cases hx
            · cases hr
        | ptr cs off =>
          simp only at hr
          cases hti : ti P e with
          | none => rw [hti] at hr; cases hr
          | some q =>
            obtain ⟨z, size, b⟩ := q
            rw [hti] at hr
            simp only at hr
            split at hr
            · rename_i hc
              cases hv : a.eval x with
              | pointer p =>
                rw [hv] at hx
                cases hx with
                | ptr _ _ ad base arr el fz hz hb hsp hoff hl h1 h =>
                  refine done_out hs (key ad size hv ⟨z, b, hti⟩ hc.1 hc.2) hr ?_ (fun g hg => .inl hg) hn
                  rw [add_off ad _ hsp]
                  exact .ptr cs _ _ base arr el fz hz hb rfl (by simp [hoff, Nat.add_assoc]) hl h1 h
              | _ => rw [hv] at hx; cases hx
            · cases hr
        | _ => cases hr
      | _ => cases x' <;> cases hr
  | _ => cases hr
end Go.Eng
