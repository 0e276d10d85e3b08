/- The engine, part 11: len, copy, min, max, conversions; every operation. For every program. -/
import Derived.Test.YtbkmbiccdhnibaaE10
set_option linter.unusedVariables false
namespace Go.Eng
open Go.RowKit

variable {P : Program} {N : Nat} {F : Fr} {s s' : AS} {cx : Cx} {a : Act} {w : World}

theorem one_arg {xs : List AV} {c : Call} {x : AV} (h : RepL cx [x] (c.args.toList.map a.eval)) : ∃ v, c.args.map a.eval = #[v] ∧ Rep cx x v := by
  obtain ⟨v, vs, e, h1, h2⟩ := h.uncons
  have : vs = [] := by have := h2.1; simp at this; exact List.eq_nil_of_length_eq_zero this.symm
  subst this
  exact ⟨v, by apply Array.ext'; simpa using e, h1⟩
theorem two_args {c : Call} {x y : AV} (h : RepL cx [x, y] (c.args.toList.map a.eval)) : ∃ u v, c.args.map a.eval = #[u, v] ∧ Rep cx x u ∧ Rep cx y v := by
  obtain ⟨u, vs, e, h1, h2⟩ := h.uncons
  obtain ⟨v, vs', e', h3, h4⟩ := h2.uncons
  have : vs' = [] := by have := h4.1; simp at this; exact List.eq_nil_of_length_eq_zero this.symm
  subst this
  subst e'
  exact ⟨u, v, by apply Array.ext'; simpa using e, h1, h3⟩

theorem snd_len {o : Oper} {st : Nat} {c : Call} (ho : o.op = .call c) (hc : c.callee = .builtin .len) : Snd P N st o := by
  intro F s s' cx a w next Q hr hst hs hn
  unfold aop at hr; rw [ho] at hr
  obtain ⟨xs, hr, hxs⟩ := evL_runs hs hr
  rw [hc] at hr
  simp only at hr
  split at hr
  · rename_i x t ht
    obtain ⟨v, hm, hx⟩ := one_arg (xs := []) hxs
    obtain ⟨n, g1, g2⟩ := len_runs (w := w) hx hr o.type c.argTypes ht
    refine done_out hs ?_ g2 (.int _ _) (fun g hg => .inl hg) hn
    simp only [execOp, ho, resolve, hc, invoke, pure_bind]
    rw [hm]
    simp only [builtin, Sem.run_bind, g1, Result.andThen_ok, Sem.run_pure]
  · cases hr
theorem minmax_runs {mx : Bool} {k1 k2 : IntKind} {p q : Int} : True := trivial
theorem snd_min {o : Oper} {st : Nat} {c : Call} (ho : o.op = .call c) (hc : c.callee = .builtin .min) : Snd P N st o := by
  intro F s s' cx a w next Q hr hst hs hn
  unfold aop at hr; rw [ho] at hr
  obtain ⟨xs, hr, hxs⟩ := evL_runs hs hr
  rw [hc] at hr
  simp only at hr
  unfold minmax at hr
  split at hr
  · rename_i k1 p k2 q
    obtain ⟨u, v, hm, hx, hy⟩ := two_args hxs
    have eu := rep_int hx
    have ev := rep_int hy
    subst eu; subst ev
    split at hr
    · refine done_out (v := .int k1 (if q < p then q else p)) hs ?_ hr (.int _ _) (fun g hg => .inl hg) hn
      simp only [execOp, ho, resolve, hc, invoke, pure_bind]
      rw [hm]
      simp [builtin, Builtin.min_, Builtin.min2]
    · cases hr
  · cases hr
theorem snd_max {o : Oper} {st : Nat} {c : Call} (ho : o.op = .call c) (hc : c.callee = .builtin .max) : Snd P N st o := by
  intro F s s' cx a w next Q hr hst hs hn
  unfold aop at hr; rw [ho] at hr
  obtain ⟨xs, hr, hxs⟩ := evL_runs hs hr
  rw [hc] at hr
  simp only at hr
  unfold minmax at hr
  split at hr
  · rename_i k1 p k2 q
    obtain ⟨u, v, hm, hx, hy⟩ := two_args hxs
    have eu := rep_int hx
    have ev := rep_int hy
    subst eu; subst ev
    split at hr
    · refine done_out (v := .int k1 (if q > p then q else p)) hs ?_ hr (.int _ _) (fun g hg => .inl hg) hn
      simp only [execOp, ho, resolve, hc, invoke, pure_bind]
      rw [hm]
      simp [builtin, Builtin.max_, Builtin.max2]
    · cases hr
  · cases hr

theorem snd_copy {o : Oper} {st : Nat} {c : Call} (ho : o.op = .call c) (hc : c.callee = .builtin .copy) : Snd P N st o := by
  intro F s s' cx a w next Q hr hst hs hn
  unfold aop at hr; rw [ho] at hr
  obtain ⟨xs, hr, hxs⟩ := evL_runs hs hr
  rw [hc] at hr
  simp only at hr
  split at hr
  · rename_i x y t tx ht htx
    obtain ⟨u, v, hm, hx, hy⟩ := two_args hxs
    unfold copyB at hr
    cases hu : P.underlying t with
    | none => rw [hu] at hr; cases hr
    | some d =>
      rw [hu] at hr
      cases d with
      | slice e =>
        simp only at hr
        cases hti : ti P e with
        | none => rw [hti] at hr; cases hr
        | some q =>
          obtain ⟨z, size, by_⟩ := q
          rw [hti] at hr
          obtain ⟨j, j1, j2, j3, j4⟩ := ti_out hti
          simp only at hr
          obtain ⟨m, cs, us, hr, hsrc, hrs, hls, hpre⟩ := srcOf_runs hs hy hr
          cases x with
          | own tk g off n =>
            obtain ⟨T, e1, e2, hr⟩ := row_runs hs hr
            split at hr
            · rename_i hcond
              obtain ⟨k1, k2⟩ := hcond
              cases hr with
              | putT _ _ _ _ _ hr =>
                cases hx with
                | own _ _ _ _ p cap hU hnc hh =>
                  have hmin : min m n ≤ m := Nat.min_le_left _ _
                  have hfc := hpre (min m n) hmin
                  have hul : us.length = m * size := by rw [← hrs.1]; exact hls
                  have hms : min m n * size ≤ m * size := Nat.mul_le_mul_right _ hmin
                  have hrest : RepL cx (cs.take (min m n * size)) (us.take (min m n * size)) := hrs.take _
                  have hexec : ∀ w', (Builtin.copy_ #[t, tx] o.type #[.slice p n cap, v]).run P w = .ok (goInt (min m n : Nat)) w' → (execOp a.eval o).run P w = .ok (.value (.int .i64 (min m n : Nat))) w' := by
                    intro w' h
                    have hats : ∀ vs : Array Value, (Builtin.copy_ c.argTypes o.type vs) = (Builtin.copy_ #[t, tx] o.type vs) := by
                      intro vs
                      unfold Builtin.copy_
                      simp only [ht]
                      rfl
                    simp only [execOp, ho, resolve, hc, invoke, pure_bind]
                    rw [hm]
                    simp only [builtin, Sem.run_bind, hats, h, Result.andThen_ok, Sem.run_pure]
                    rfl
                  have hnm : Nat.min m n = min m n := rfl
                  have hcopy : ∀ w', (match p with | some ad => storeCells ad (us.take (min m n * size)) | none => pure ()).run P w = .ok () w' → (Builtin.copy_ #[t, tx] o.type #[.slice p n cap, v]).run P w = .ok (goInt (min m n : Nat)) w' := by
                    intro w' h
                    have hsz : (sizeOf e).run P w = .ok size w := by simp [sizeOf, typeInfo, j1, j3]
                    cases p with
                    | none => simp at h; subst h; simp [Builtin.copy_, run_underlying hu, hsrc.len, hsz, hnm, hfc]
                    | some ad => simp [Builtin.copy_, run_underlying hu, hsrc.len, hsz, hnm, hfc, h]
                  rcases hh T e1 e2 with ⟨h0, hc0⟩ | ⟨b, arr, el, fz, h1, h2, h3, h4⟩
                  · have hm0 : min m n = 0 := by omega
                    have hrun := hexec w (hcopy w (by rw [hm0]; cases p <;> simp [storeCells]))
                    have hT' : ({ T with cs := setAll T.cs off (cs.take (min m n * size)) } : Tok) = T := by rw [hm0]; simp [setAll]
                    rw [hT'] at hr
                    have hsame : s.setT tk T = s := by
                      cases s with
                      | mk env tkk nx =>
                        have e1' : tkk tk = some T := by rw [← e1, hs.tk]
                        simp only [AS.setT, AS.mk.injEq, true_and, and_true]
                        funext i
                        split
                        · rename_i hi; rw [hi, e1']
                        · rfl
                    rw [hsame] at hr
                    exact done_out hs hrun hr (.int _ _) (fun g hg => .inl hg) hn
                  · subst h2
                    obtain ⟨arr', el', fz', f1, f2, f3, f4, f5⟩ := hs.row tk T b e1 h1
                    rw [h3] at f1
                    cases f1
                    rw [hs.h] at h3
                    have hone : ∀ u ∈ us.take (min m n * size), u.oneCell' = true := fun u hu => hsrc.one u (List.mem_of_mem_take hu)
                    have hlen : (us.take (min m n * size)).length ≤ n * size := by
                      rw [List.length_take]
                      have : min m n * size ≤ n * size := Nat.mul_le_mul_right _ (Nat.min_le_right _ _)
                      omega
                    have hrun := hexec _ (hcopy _ (run_cells h3 f2 (us.take (min m n * size)) hone (by omega)))
                    have hk := hs.stored e1 h1 _ _ hrest (fun u hu => hone u hu) off
                    refine done_out hk.2 hrun hr (.int _ _) (fun g hg => ?_) hn
                    rcases hg with hg | hg
                    · exact .inl hg
                    · exact .inl (by rw [hg]; exact hs.stamp tk T e1)
            · cases hr
          | _ => cases hr
      | _ => cases hr
  · cases hr

/-! ### Conversions -/
theorem intsOf_eq : ∀ {cs : List AV} {l : List Int}, intsOf cs = some l → cs = u8s l
  | [], l, h => by cases h; rfl
  | .int .u8 n :: cs, l, h => by
    unfold intsOf at h
    cases e : intsOf cs with
    | none => rw [e] at h; cases h
    | some r => rw [e] at h; cases h; rw [intsOf_eq e]; rfl
theorem u8s_vals {l : List Int} {us : List Value} (h : RepL cx (u8s l) us) : us = l.map (Value.int .u8) := by
  apply List.ext_getElem?
  intro i
  have hlen : l.length = us.length := by have := h.1; simpa [u8s] using this
  cases e : us[i]? with
  | none =>
    have : us.length ≤ i := by simpa using e
    rw [List.getElem?_map, List.getElem?_eq_none (by omega)]; rfl
  | some v =>
    have hi : i < us.length := (List.getElem?_eq_some_iff.1 e).1
    have hx : (u8s l)[i]? = some (.int .u8 (l[i]'(by omega))) := by simp [u8s, List.getElem?_map, List.getElem?_eq_getElem (show i < l.length by omega)]
    rw [rep_int (h.2 i _ v hx e)]
    simp [List.getElem?_map, List.getElem?_eq_getElem (show i < l.length by omega)]
theorem bytesOf_push : ∀ (l : List Int) (r : ByteArray), bytesOf (l.foldl (fun r n => r.push (UInt8.ofNat n.toNat)) r) = bytesOf r ++ u8n l
  | [], r => by simp [u8n]
  | n :: l, r => by
    rw [List.foldl_cons, bytesOf_push l]
    simp [bytesOf, u8n, ByteArray.push]
set_option maxHeartbeats 1000000 in
theorem snd_convert {o : Oper} {st : Nat} {sT dT : TypeId} {x : Operand} (ho : o.op = .convert sT dT x) : Snd P N st o := by
  intro F s s' cx a w next Q hr hst hs hn
  unfold aop at hr; rw [ho] at hr
  obtain ⟨x', hr, hx⟩ := ev_runs hs hr
  unfold conv at hr
  cases hus : P.underlying sT with
  | none => rw [hus] at hr; cases hr
  | some ds =>
    cases hud : P.underlying dT with
    | none => rw [hus, hud] at hr; cases ds <;> cases hr
    | some dd =>
      rw [hus, hud] at hr
      have hexec : ∀ (v : Value) (w' : World), (convert sT dT (a.eval x)).run P w = .ok v w' → (execOp a.eval o).run P w = .ok (.value v) w' := by
        intro v w' h
        simp only [execOp, ho, Sem.run_bind, h, Result.andThen_ok, Sem.run_pure]
      have toStr : ∀ (e : TypeId), ds = .slice e → dd = .string → ((match P.underlying e with
          | some (.int .u8) => cellsOf x' fun n cs => (match intsOf cs with
            | some l => if l.length = n then out N o.dst (.str (u8n l)) else .fail
            | none => .fail)
          | _ => .fail)).Runs P s s' → o.wp P a w next Q := by
        rintro e rfl rfl hr
        cases hue : P.underlying e with
        | none => rw [hue] at hr; cases hr
        | some de =>
          rw [hue] at hr
          have hint : de = .int .u8 := by
            cases de with
            | int k => cases k <;> first | rfl | (cases hr)
            | _ => cases hr
          subst hint
          simp only at hr
          obtain ⟨n, cs, hr, hcells⟩ := cellsOf_runs hs hx hr
          cases hi : intsOf cs with
          | none => rw [hi] at hr; cases hr
          | some l =>
            rw [hi] at hr
            simp only at hr
            split at hr
            · rename_i hl
              have hcs := intsOf_eq hi
              subst hcs
              obtain ⟨us, r1, r2, r3, r4, _⟩ := hcells.read 1 (by simp [u8s, hl])
              have hvals := u8s_vals r2
              obtain ⟨p, c, ev, hnc⟩ := hcells.shape
              have hrun : (convert sT dT (a.eval x)).run P w = .ok (.string (l.foldl (fun r n => r.push (UInt8.ofNat n.toNat)) ByteArray.empty)) w := by
                rw [ev, run_convert_bytes_string w sT dT e p n c hus hue hud]
                cases p with
                | none =>
                  have h1 := r1 w rfl
                  rw [ev] at h1
                  simp [Builtin.firstCells] at h1
                  have : us = [] := by rw [← h1]
                  rw [this] at hvals
                  have hl0 : l = [] := by simpa using hvals.symm
                  subst hl0
                  simp [Conv.bytesToString]
                | some ad =>
                  refine run_bytesToString w ad n c l ?_
                  have h1 := r1 w rfl
                  rw [ev] at h1
                  simp only [Builtin.firstCells, Nat.mul_one] at h1
                  rw [h1, hvals]
              refine done_out hs (hexec _ _ hrun) hr (.str _ _ ?_) (fun g hg => .inl hg) hn
              rw [bytesOf_push]
              simp [bytesOf]
            · cases hr
      cases dd with
      | int kd =>
        cases x' with
        | int k n =>
          simp only at hr
          have ex := rep_int hx
          have hr' : (out N o.dst (.int kd (kd.wrap n))).Runs P s s' := by cases ds <;> exact hr
          refine done_out (v := .int kd (kd.wrap n)) hs (hexec _ _ ?_) hr' (.int _ _) (fun g hg => .inl hg) hn
          rw [ex]
          simp [convert, run_underlying hus, run_underlying hud, Conv.intToInt]
        | _ => cases ds <;> cases hr
      | string =>
        cases x' with
        | str l =>
          obtain ⟨sv, ex, hl⟩ := rep_str hx
          have hr' : (out N o.dst (.str l)).Runs P s s' := by cases ds <;> exact hr
          refine done_out (v := .string sv) hs (hexec _ _ ?_) hr' (.str _ _ hl) (fun g hg => .inl hg) hn
          rw [ex]
          simp [convert, run_underlying hus, run_underlying hud]
        | _ => cases ds <;> first | (cases hr; done) | exact toStr _ rfl rfl hr
      | slice e =>
        cases ds with
        | string =>
          cases x' with
          | str l =>
            simp only at hr
            split at hr
            · rename_i hue hti
              obtain ⟨sv, ex, hl⟩ := rep_str hx
              have hrun := hexec _ _ (by rw [ex]; exact run_bytes_of_string w sT dT e sv hus hud hue)
              have hgr : sv.size ≤ grownCap w sv.size 0 e := by simp only [grownCap, Question.cut]; omega
              have hlen : l.length = sv.size := by rw [← hl, bytesOf_length]
              have hsz : (bytesRow sv (grownCap w sv.size 0 e)).size = grownCap w sv.size 0 e := by
                simp [bytesRow]; omega
              rw [hlen] at hr
              refine done_mk (w' := w.drew.alloc _) hs hr hst (bytesRow sv (grownCap w sv.size 0 e)) e _ rfl rfl rfl rfl (.inr (Nat.le_refl _)) (fun i u hu => ?_) (by rw [hsz]; simp [u8s, hlen]; exact hgr) (fun i y u hy hu => ?_) hrun
                (fun d cx' e1 e2 e3 e4 => own_new e1 e2 e3 e4 hgr (by rw [hsz]; omega)) hn
              · have := Array.mem_of_getElem? hu
                simp only [bytesRow, Array.mem_append, Array.mem_map, Array.mem_replicate] at this
                rcases this with ⟨b, _, rfl⟩ | ⟨_, rfl⟩ <;> rfl
              · subst hl
                have hi : i < sv.size := by have := (List.getElem?_eq_some_iff.1 hy).1; rw [u8s, List.length_map, bytesOf_length] at this; exact this
                have hbc : (byteCells sv)[i]? = some u := by
                  rw [← hu]
                  simp only [bytesRow, byteCells]
                  rw [Array.getElem?_append, if_pos (by simpa using hi)]
                  simp
                exact (u8s_rep cx sv).2 i y u hy hbc
            · cases hr
          | _ => cases hr
        | slice e1 =>
          cases x' with
          | own tk g off n =>
            simp only at hr
            split at hr
            · rename_i hsd
              subst hsd
              rw [hus] at hud
              cases hud
              cases hue : P.underlying e with
              | none => rw [hue] at hr; cases hr
              | some de =>
                rw [hue] at hr
                have hint : de = .int .u8 := by
                  cases de with
                  | int k => cases k <;> first | rfl | (cases hr)
                  | _ => cases hr
                subst hint
                simp only at hr
                obtain ⟨T, e1', e2', hr⟩ := row_runs hs hr
                split at hr
                · rename_i hn0
                  cases hr with
                  | putT _ _ _ _ _ hr =>
                    cases hv : a.eval x with
                    | slice p n' c =>
                      rw [hv] at hx
                      cases hx with
                      | own _ _ _ _ _ _ hu hnc hh =>
                        rcases hh T e1' e2' with ⟨h0, _⟩ | ⟨b, arr, el, fz, h1, h2, h3, h4⟩
                        · omega
                        · obtain ⟨arr', el', fz', f1, f2, f3, f4, f5⟩ := hs.row tk T b e1' h1
                          rw [h3] at f1
                          cases f1
                          rw [hs.h] at h3
                          subst h2
                          have hbl : b < w.heap.size := hs.blk e1' h1
                          have hsh : w.shape? b = some (el, arr.size) := by unfold World.shape?; rw [h3]
                          have hrun := hexec (.slice (some ⟨b, off, none⟩) n c) (w.freeze ⟨b, arr.size, none⟩ 1) (by
                            rw [hv]
                            simp [convert, run_underlying hus, run_underlying hue, markStringish, hsh])
                          have hfz : (w.freeze ⟨b, arr.size, none⟩ 1).heap[b]? = some (.cells arr el (if fz.1 == fz.2 then (arr.size, arr.size + 1) else (min fz.1 arr.size, max fz.2 (arr.size + 1)))) := by
                            unfold World.freeze
                            rw [if_neg (by decide)]
                            simp [Array.getElem?_modify, h3]
                          have hk := hs.updTok (T' := T) e1' h1 arr arr el el fz _ h3 (w.freeze ⟨b, arr.size, none⟩ 1) hfz (fun k hk => by
                              unfold World.freeze
                              rw [if_neg (by decide)]
                              simp [Array.getElem?_modify, Ne.symm hk]) (by unfold World.freeze; rw [if_neg (by decide)]; simp) (by unfold World.freeze; rw [if_neg (by decide)]) (by unfold World.freeze; rw [if_neg (by decide)])
                              (by unfold World.freeze; rw [if_neg (by decide)]) (.inl rfl) rfl (Nat.le_refl _) (by
                                unfold FzOk at f2 ⊢
                                split
                                · exact .inr (Nat.le_refl _)
                                · rename_i hne
                                  have hne' : ¬ fz.1 = fz.2 := by simpa using hne
                                  right
                                  show arr.size ≤ min fz.1 arr.size
                                  omega) f3 f4 f5
                          refine done_out hk.2 hrun hr (.own tk g off n _ c (.inl hu) hnc fun T' hT hg => .inr ⟨b, arr, el, _, h1, rfl, hfz, ?_⟩) (fun g hg => ?_) hn
                          · simp only [Cx.updTok, if_true, Option.some.injEq] at hT
                            subst hT
                            exact h4
                          · rcases hg with hg | hg
                            · exact .inl hg
                            · rw [hg, e2']; exact .inl hu
                    | _ => rw [hv] at hx; cases hx
                · cases hr
            · cases hr
          | _ => cases hr
        | _ => cases x' <;> cases hr
      | _ => cases ds <;> cases x' <;> cases hr

theorem snd_all (st : Nat) (o : Oper) : Snd P N st o := by
  cases ho : o.op with
  | move x => exact snd_move ho
  | assign x => exact snd_assign ho
  | pick c x y => exact snd_pick ho
  | alloc t => exact snd_alloc ho
  | box t x => exact snd_box ho
  | build t ps => exact snd_build ho
  | buildSlice t n ps => exact snd_buildSlice ho
  | load t x => exact snd_load ho
  | store t x y => exact snd_store ho
  | nilCheck x => exact snd_nilCheck ho
  | binOp op t x y yt => exact snd_binOp ho
  | unOp op t x => exact snd_unOp ho
  | convert sT dT x => exact snd_convert ho
  | makeFunc fn f c => exact snd_makeFunc ho
  | makeSlice t x y => exact snd_makeSlice ho
  | slice t x l h m => exact snd_slice ho
  | fieldAddr t x f => exact snd_fieldAddr ho
  | field t x f => exact snd_field ho
  | indexAddr t x i => exact snd_indexAddr ho
  | index t x i => exact snd_index ho
  | extract x i => exact snd_extract ho
  | call c =>
    cases hc : c.callee with
    | value f => exact snd_callV ho hc
    | builtin b =>
      cases b with
      | len => exact snd_len ho hc
      | append => exact snd_append ho hc
      | copy => exact snd_copy ho hc
      | min => exact snd_min ho hc
      | max => exact snd_max ho hc
      | _ =>
        intro F s s' cx a w next Q hr hst hs hn
        unfold aop at hr; rw [ho] at hr
        obtain ⟨xs, hr, hxs⟩ := evL_runs hs hr
        rw [hc] at hr
        cases hr
    | invoke r m =>
      intro F s s' cx a w next Q hr hst hs hn
      unfold aop at hr; rw [ho] at hr
      obtain ⟨xs, hr, hxs⟩ := evL_runs hs hr
      rw [hc] at hr
      cases hr
  | _ =>
    intro F s s' cx a w next Q hr hst hs hn
    unfold aop at hr; rw [ho] at hr
    cases hr
end Go.Eng
