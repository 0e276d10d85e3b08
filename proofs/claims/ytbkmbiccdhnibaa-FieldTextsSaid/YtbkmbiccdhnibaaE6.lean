/- The engine, part 6: lengths, slices, make, conversions, least and greatest, arithmetic. For every program. -/
import Derived.Test.YtbkmbiccdhnibaaE5
set_option linter.unusedVariables false
namespace Go.Eng
open Go.RowKit

variable {P : Program} {N : Nat} {F : Fr} {s s' : AS} {cx : Cx} {a : Act} {w : World}

theorem bytesOf_length (sv : ByteArray) : (bytesOf sv).length = sv.size := by rw [bytesOf, List.length_map, Array.length_toList]; rfl

/-- A builtin that reckons: what its call runs. -/
theorem len_runs {t : TypeId} {x : AV} {v : Value} {k : AV → M} (hx : Rep cx x v) (hr : (lenB P t x k).Runs P s s') (ty : TypeId) (ats : Array TypeId) (ha : ats[0]? = some t) :
    ∃ n : Int, (Builtin.len_ ats ty #[v]).run P w = .ok (.int .i64 n) w ∧ (k (.int .i64 n)).Runs P s s' := by
  unfold lenB at hr
  cases hu : P.underlying t with
  | none => rw [hu] at hr; cases hr
  | some d =>
    rw [hu] at hr
    cases d with
    | string =>
      cases x with
      | str l =>
        obtain ⟨sv, rfl, hl⟩ := rep_str hx
        refine ⟨_, ?_, hr⟩
        simp [Builtin.len_, ha, run_underlying hu, goInt, ← hl, bytesOf_length]
      | _ => cases hr
    | slice e =>
      cases x with
      | nilS => cases hx; exact ⟨_, by simp [Builtin.len_, ha, run_underlying hu, goInt], hr⟩
      | sl n cs =>
        cases hx with
        | sl0 => exact ⟨_, by simp [Builtin.len_, ha, run_underlying hu, goInt], hr⟩
        | sl => exact ⟨_, by simp [Builtin.len_, ha, run_underlying hu, goInt], hr⟩
      | own => cases hx with | own => exact ⟨_, by simp [Builtin.len_, ha, run_underlying hu, goInt], hr⟩
      | arr => cases hx with | arr => exact ⟨_, by simp [Builtin.len_, ha, run_underlying hu, goInt], hr⟩
      | _ => cases hr
    | array n e => exact ⟨n, by simp [Builtin.len_, ha, run_underlying hu, goInt], hr⟩
    | _ => cases x <;> cases hr

theorem rep_len {n : Nat} {cs : List AV} {v : Value} (h : Rep cx (.sl n cs) v) : ∃ p c, v = .slice p n c ∧ n ≤ c := by
  cases h with
  | sl0 p c => exact ⟨p, c, rfl, Nat.zero_le _⟩
  | sl _ _ ad c arr el fz hz hb hs hn hl h1 h => exact ⟨_, c, rfl, hn⟩

/-- The bounds of a slice expression, as the model reckons them. -/
def OptRep (cx : Cx) (x : Option AV) (v : Option Value) : Prop := (x = none ∧ v = none) ∨ ∃ y u, x = some y ∧ v = some u ∧ Rep cx y u
theorem opt_rep {x : List AV} {v : Option Operand} (h : RepL cx x (v.toList.map a.eval)) : OptRep cx x.head? (v.map a.eval) := by
  cases v with
  | none => left; exact ⟨by have := h.1; simp at this; subst this; rfl, rfl⟩
  | some u =>
    obtain ⟨v', vs', e, h1⟩ : ∃ y r, x = y :: r ∧ True := by
      cases x with
      | nil => have := h.1; simp at this
      | cons y r => exact ⟨y, r, rfl, trivial⟩
    subst e
    right
    exact ⟨_, _, rfl, rfl, h.2 0 _ _ rfl rfl⟩
theorem sliceBound_run (k : IntKind) (i : Int) (y : Nat) (code : BoundsCode) (h : 0 ≤ i ∧ i ≤ y) : (Instr.sliceBound (.int k i) y code).run P w = .ok i.toNat w := by
  simp [Instr.sliceBound, asIntOf, h]
theorem bounds_runs {n cap : Nat} {isS : Bool} {lo hi mx : Option AV} {lov hiv mxv : Option Value} {k : Nat → Nat → Nat → M} (hcap : n ≤ cap) (hlo : OptRep cx lo lov) (hhi : OptRep cx hi hiv) (hmx : OptRep cx mx mxv)
    (hr : (bounds n lo hi mx k).Runs P s s') :
    ∃ l h m : Nat, l ≤ h ∧ h ≤ n ∧ h ≤ m ∧ m ≤ n ∧ (k l h m).Runs P s s' ∧ (mx = none → m = n ∧ mxv = none) ∧ (mx.isSome = true → mxv.isSome = true) ∧ (Instr.sliceBounds isS n cap lov hiv mxv).run P w = .ok (l, h, if mx.isSome then m else cap) w := by
  unfold bounds at hr
  have hl : ∃ l : Int, loOf lo = some l ∧ ∀ (y : Nat) (c : BoundsCode), 0 ≤ l → l ≤ y → (match lov with | some v => Instr.sliceBound v y c | none => (pure 0 : Sem Nat)).run P w = .ok l.toNat w := by
    rcases hlo with ⟨rfl, rfl⟩ | ⟨y, u, rfl, rfl, h⟩
    · exact ⟨0, rfl, fun _ _ _ _ => rfl⟩
    · cases y with
      | int kk i => have := rep_int h; subst this; exact ⟨i, rfl, fun y c h0 h1 => sliceBound_run kk i y c ⟨h0, h1⟩⟩
      | _ => cases hr
  obtain ⟨l, hl1, hl2⟩ := hl
  rw [hl1] at hr
  simp only at hr
  rcases hmx with ⟨rfl, rfl⟩ | ⟨ym, um, rfl, rfl, hm⟩
  · rcases hhi with ⟨rfl, rfl⟩ | ⟨yh, uh, rfl, rfl, hh⟩
    · simp only at hr
      split at hr
      · rename_i hc
        refine ⟨_, _, _, by omega, Nat.le_refl _, Nat.le_refl _, Nat.le_refl _, hr, fun _ => ⟨rfl, rfl⟩, (fun h => by cases h), ?_⟩
        have := hl2 n .sliceB hc.1 hc.2
        cases lov <;> simp_all [Instr.sliceBounds]
      · cases hr
    · cases yh with
      | int kk h =>
        have := rep_int hh; subst this
        simp only at hr
        split at hr
        · rename_i hc
          refine ⟨_, _, _, by omega, by omega, by omega, Nat.le_refl _, hr, fun _ => ⟨rfl, rfl⟩, (fun h => by cases h), ?_⟩
          have h1 := hl2 h.toNat .sliceB hc.1 (by omega)
          have h2 := sliceBound_run (P := P) (w := w) kk h cap (if isS = true then .sliceAcap else .sliceAlen) ⟨by omega, by omega⟩
          cases lov <;> simp_all [Instr.sliceBounds]
        · cases hr
      | _ => cases hr
  · cases ym with
    | int km m =>
      have := rep_int hm; subst this
      rcases hhi with ⟨rfl, rfl⟩ | ⟨yh, uh, rfl, rfl, hh⟩
      · cases hr
      · cases yh with
        | int kk h =>
          have := rep_int hh; subst this
          simp only at hr
          split at hr
          · rename_i hc
            refine ⟨_, _, _, by omega, by omega, by omega, by omega, hr, (fun h => by cases h), fun _ => rfl, ?_⟩
            have h1 := hl2 h.toNat .slice3C hc.1 (by omega)
            have h2 := sliceBound_run (P := P) (w := w) kk h m.toNat .slice3B ⟨by omega, by omega⟩
            have h3 := sliceBound_run (P := P) (w := w) km m cap (if isS = true then .slice3Acap else .slice3Alen) ⟨by omega, by omega⟩
            cases lov <;> simp_all [Instr.sliceBounds]
          · cases hr
        | _ => cases hr
    | _ => cases hr
theorem snd_slice {o : Oper} {st : Nat} {t : TypeId} {x : Operand} {lo hi mx : Option Operand} (ho : o.op = .slice t x lo hi mx) : Snd P N st o := by
  intro F s s' cx a w next Q hr hst hs hn
  unfold aop at hr; rw [ho] at hr
  obtain ⟨x', hr, hx⟩ := ev_runs hs hr
  obtain ⟨los, hr, hlo⟩ := evL_runs hs hr
  obtain ⟨his, hr, hhi⟩ := evL_runs hs hr
  obtain ⟨mxs, hr, hmx⟩ := evL_runs hs hr
  have hlo := opt_rep hlo
  have hhi := opt_rep hhi
  have hmx := opt_rep hmx
  unfold slice at hr
  cases hu : P.underlying t with
  | none => rw [hu] at hr; cases hr
  | some d =>
    rw [hu] at hr
    cases d with
    | string =>
      cases x' with
      | str l =>
        simp only at hr
        split at hr
        · cases hr
        · rename_i hm
          obtain ⟨sv, ex, hl⟩ := rep_str hx
          have hlen : l.length = sv.size := by rw [← hl, bytesOf_length]
          have hmx0 : mx.map a.eval = none := by
            rcases hmx with ⟨_, h⟩ | ⟨y, u, h, _⟩
            · exact h
            · rw [h] at hm; simp at hm
          rw [hlen] at hr
          obtain ⟨lw, h, m, b1, b2, b3, b4, hr, b5, b6, b7⟩ := bounds_runs (P := P) (w := w) (isS := false) (n := sv.size) (cap := sv.size) (Nat.le_refl _) hlo hhi (.inl ⟨rfl, rfl⟩) hr
          refine done_out (v := .string (sv.extract lw h)) hs ?_ hr (.str _ _ ?_) (fun g hg => .inl hg) hn
          · have hm2 : mx = none := by cases mx <;> simp_all
            subst hm2
            have b7' := b7
            simp at b7'
            simp [execOp, ho, ex, Instr.sliceAt, Instr.slice, run_underlying hu, b7']
          · rw [← hl]
            simp only [bytesOf, ByteArray.data_extract, Array.toList_extract, List.extract, List.map_take, List.map_drop]
            rw [List.drop_take]
      | _ => cases hr
    | slice e =>
      have key : ∀ (p : Option Addr) (n c lw h m : Nat) (size : Nat), a.eval x = .slice p n c → (∃ z b, ti P e = some (z, size, b)) → (Instr.sliceBounds true n c (lo.map a.eval) (hi.map a.eval) (mx.map a.eval)).run P w = .ok (lw, h, m) w →
          (execOp a.eval o).run P w = .ok (.value (.slice (if m = lw then p else p.map (·.add (lw * size))) (h - lw) (m - lw))) w := by
        intro p n c lw h m size hv hti hb
        obtain ⟨z, b, hti⟩ := hti
        obtain ⟨j, j1, j2, j3, j4⟩ := ti_out hti
        simp [execOp, ho, hv, Instr.sliceAt, Instr.slice, run_underlying hu, hb, sizeOf, typeInfo, j1, j3]
      cases x' with
      | nilS =>
        simp only at hr
        cases hti : ti P e with
        | none => rw [hti] at hr; cases hr
        | some q =>
          obtain ⟨z, size, b⟩ := q
          rw [hti] at hr
          simp only at hr
          cases hv : a.eval x with
          | slice p n' c =>
            rw [hv] at hx
            cases hx with
            | nilS =>
              obtain ⟨lw, h, m, b1, b2, b3, b4, hr, b5, b6, b7⟩ := bounds_runs (P := P) (w := w) (isS := true) (n := 0) (cap := 0) (Nat.le_refl _) hlo hhi hmx hr
              have hrun := key _ _ _ lw h _ size hv ⟨z, b, hti⟩ b7
              have m0 : (if (mxs.head?).isSome = true then m else 0) = 0 := by split <;> omega
              rw [m0, show h = 0 by omega, show lw = 0 by omega] at hrun
              exact done_out hs hrun hr .nilS (fun g hg => .inl hg) hn
          | _ => rw [hv] at hx; cases hx
      | sl n cs =>
        simp only at hr
        cases hti : ti P e with
        | none => rw [hti] at hr; cases hr
        | some q =>
          obtain ⟨z, size, b⟩ := q
          rw [hti] at hr
          simp only at hr
          split at hr
          · rename_i hcs
            obtain ⟨p, c, hv, hnc⟩ := rep_len hx
            obtain ⟨lw, h, m, b1, b2, b3, b4, hr, b5, b6, b7⟩ := bounds_runs (P := P) (w := w) (isS := true) hnc hlo hhi hmx hr
            have hrun := key p n c lw h _ size hv ⟨z, b, hti⟩ b7
            have hmc : (if (mxs.head?).isSome = true then m else c) ≤ c := by split <;> omega
            have hhm : h ≤ (if (mxs.head?).isSome = true then m else c) := by split <;> omega
            generalize (if (mxs.head?).isSome = true then m else c) = mm at hrun hmc hhm
            have hnil : h - lw = 0 → (cs.take (h * size)).drop (lw * size) = [] := by
              intro h0
              have : h = lw := by omega
              subst this
              apply List.drop_of_length_le
              simp; omega
            refine done_out hs hrun hr ?_ (fun g hg => .inl hg) hn
            by_cases h0 : h - lw = 0
            · rw [h0, hnil h0]; exact .sl0 _ _
            · rw [if_neg (by omega)]
              rw [hv] at hx
              cases hx with
              | sl0 _ _ => omega
              | sl _ _ ad _ arr el fz hz hb hsp hn' hl h1 h2 =>
                rw [Option.map_some, add_off _ _ hsp]
                refine .sl _ _ _ _ arr el fz hz hb rfl (by omega) ?_ (fun i v hi hv' => h1 (lw * size + i) v (by simp only [List.length_drop, List.length_take] at hi; omega) (by rw [← Nat.add_assoc]; exact hv')) fun i y v hy hv' => ?_
                · simp only [List.length_drop, List.length_take]
                  have : h * size ≤ n * size := Nat.mul_le_mul_right _ b2
                  have : lw * size ≤ h * size := Nat.mul_le_mul_right _ b1
                  omega
                · rw [List.getElem?_drop, List.getElem?_take] at hy
                  split at hy
                  · exact h2 _ y v hy (by rw [← Nat.add_assoc]; exact hv')
                  · cases hy
          · cases hr
      | own tk g off n =>
        simp only at hr
        cases hti : ti P e with
        | none => rw [hti] at hr; cases hr
        | some q =>
          obtain ⟨z, size, b⟩ := q
          rw [hti] at hr
          obtain ⟨T, e1, e2, hr⟩ := row_runs hs hr
          split at hr
          · rename_i hsz
            cases hv : a.eval x with
            | slice p n' c =>
              rw [hv] at hx
              cases hx with
              | own _ _ _ _ _ _ hU hnc hh =>
                obtain ⟨lw, h, m, b1, b2, b3, b4, hr, b5, b6, b7⟩ := bounds_runs (P := P) (w := w) (isS := true) hnc hlo hhi hmx hr
                have hrun := key p n c lw h _ size hv ⟨z, b, hti⟩ b7
                have hmc : (if (mxs.head?).isSome = true then m else c) ≤ c := by split <;> omega
                have hhm : h ≤ (if (mxs.head?).isSome = true then m else c) := by split <;> omega
                generalize (if (mxs.head?).isSome = true then m else c) = mm at hrun hmc hhm
                refine done_out hs hrun hr (.own tk g _ _ _ _ hU (by omega) fun T' hT hg => ?_) (fun g hg => .inl hg) hn
                have hTT : T' = T := by rw [e1] at hT; cases hT; rfl
                subst hTT
                by_cases h0 : mm = lw
                · left; omega
                · right
                  rcases hh T' hT hg with h1 | ⟨bb, arr, el, fz, h1, h2, h3, h4⟩
                  · omega
                  · rw [if_neg h0, h2, Option.map_some, add_off _ _ rfl]
                    refine ⟨bb, arr, el, fz, h1, rfl, h3, ?_⟩
                    rw [hsz] at h4 ⊢
                    have : (mm - lw) * size + lw * size = mm * size := by rw [← Nat.add_mul]; congr 1; omega
                    have : mm * size ≤ c * size := Nat.mul_le_mul_right _ hmc
                    omega
            | _ => rw [hv] at hx; cases hx
          · cases hr
      | _ => cases hr
    | array n e =>
      have key : ∀ (ad : Addr) (lw h m : Nat) (size : Nat), a.eval x = .pointer (some ad) → (∃ z b, ti P e = some (z, size, b)) → (Instr.sliceBounds false n n (lo.map a.eval) (hi.map a.eval) (mx.map a.eval)).run P w = .ok (lw, h, m) w →
          (execOp a.eval o).run P w = .ok (.value (.slice (some (if m = lw then ad else ad.add (lw * size))) (h - lw) (m - lw))) w := by
        intro ad lw h m size hv hti hb
        obtain ⟨z, b, hti⟩ := hti
        obtain ⟨j, j1, j2, j3, j4⟩ := ti_out hti
        simp [execOp, ho, hv, Instr.sliceAt, Instr.sureAddr, run_underlying hu, hb, sizeOf, typeInfo, j1, j3]
      cases x' with
      | addr tk g off =>
        simp only at hr
        cases hti : ti P e with
        | none => rw [hti] at hr; cases hr
        | some q =>
          obtain ⟨z, size, b⟩ := q
          rw [hti] at hr
          cases hh1 : his.head? with
          | some _ => rw [hh1] at hr; cases hr
          | none =>
            cases hh2 : mxs.head? with
            | some _ => rw [hh1, hh2] at hr; cases hr
            | none =>
              rw [hh1, hh2] at hr
              simp only at hr
              rw [hh1] at hhi
              rw [hh2] at hmx
              cases hv : a.eval x with
              | pointer p =>
                rw [hv] at hx
                cases hx with
                | addr _ _ _ ad hU hh =>
                  obtain ⟨lw, h, m, b1, b2, b3, b4, hr, b5, b6, b7⟩ := bounds_runs (P := P) (w := w) (isS := false) (n := n) (cap := n) (Nat.le_refl _) hlo hhi hmx hr
                  split at hr
                  · rename_i hlt
                    have hhn : h = n := by
                      obtain ⟨_, e1⟩ | ⟨y, u, e1, _⟩ := hhi
                      · obtain ⟨_, e2⟩ | ⟨y, u, e2, _⟩ := hmx
                        · rw [e1, e2] at b7
                          cases hlo' : lo.map a.eval with
                          | none => rw [hlo'] at b7; simp [Instr.sliceBounds] at b7; omega
                          | some v =>
                            rw [hlo'] at b7
                            simp [Instr.sliceBounds] at b7
                            cases hq : (Instr.sliceBound v n .sliceB).run P w with
                            | ok q w1 => rw [hq] at b7; simp at b7; omega
                            | halt q w1 => rw [hq] at b7; simp at b7
                        · cases e2
                      · cases e1
                    have hrun := key ad lw h _ size hv ⟨z, b, hti⟩ b7
                    simp only [Option.isSome_none, Bool.false_eq_true, if_false] at hrun
                    rw [if_neg (by omega), ← hhn] at hrun
                    refine done_out hs hrun hr (.arr tk g _ _ _ hU fun T' hT hg => ?_) (fun g hg => .inl hg) hn
                    obtain ⟨bb, h1, rfl⟩ := hh T' hT hg
                    exact ⟨bb, h1, by rw [add_off _ _ rfl]⟩
                  · cases hr
              | _ => rw [hv] at hx; cases hx
      | ptr cs off =>
        simp only at hr
        cases hti : ti P e with
        | none => rw [hti] at hr; cases hr
        | some q =>
          obtain ⟨z, size, b⟩ := q
          rw [hti] at hr
          simp only at hr
          split at hr
          · rename_i hcs
            cases hv : a.eval x with
            | pointer p =>
              rw [hv] at hx
              cases hx with
              | ptr _ _ ad base arr el fz hz hb hsp hoff hl h1 h2 =>
                obtain ⟨lw, h, m, b1, b2, b3, b4, hr, b5, b6, b7⟩ := bounds_runs (P := P) (w := w) (isS := false) (n := n) (cap := n) (Nat.le_refl _) hlo hhi hmx hr
                have hrun := key ad lw h _ size hv ⟨z, b, hti⟩ b7
                have hmc : (if (mxs.head?).isSome = true then m else n) ≤ n := by split <;> omega
                have hhm : h ≤ (if (mxs.head?).isSome = true then m else n) := by split <;> omega
                generalize (if (mxs.head?).isSome = true then m else n) = mm at hrun hmc hhm
                refine done_out hs hrun hr ?_ (fun g hg => .inl hg) hn
                by_cases h0 : h - lw = 0
                · rw [h0]; simp; exact .sl0 _ _
                · rw [if_neg (by omega), add_off _ _ hsp]
                  have q1 : (h - lw) * size + lw * size = h * size := by rw [← Nat.add_mul]; congr 1; omega
                  have q2 : h * size ≤ n * size := Nat.mul_le_mul_right _ b2
                  refine .sl _ _ _ _ arr el fz hz hb rfl (by omega) ?_ (fun i v hi hv' => h1 (off + lw * size + i) v (by simp only [List.length_drop, List.length_take] at hi; omega) (by
                    simp only [hoff] at hv'
                    rw [show base + (off + lw * size + i) = base + off + lw * size + i by omega]
                    exact hv')) fun i y v hy hv' => ?_
                  · simp only [List.length_drop, List.length_take, hoff]
                    omega
                  · rw [List.getElem?_take, List.getElem?_drop] at hy
                    split at hy
                    · refine h2 _ y v hy ?_
                      simp only [hoff] at hv'
                      rw [show base + (off + lw * size + i) = base + off + lw * size + i by omega]
                      exact hv'
                    · cases hy
            | _ => rw [hv] at hx; cases hx
          · cases hr
      | _ => cases hr
    | _ => cases x' <;> cases hr

/-! ### make, conversions -/
theorem madeCells_eq (z : Array Value) (n : Nat) : (Array.range n).map (fun i => z[i % z.size]!) = (Array.range n).map (fun i => z[i % z.size]!) := rfl
theorem snd_makeSlice {o : Oper} {st : Nat} {t : TypeId} {x y : Operand} (ho : o.op = .makeSlice t x y) : Snd P N st o := by
  intro F s s' cx a w next Q hr hst hs hn
  unfold aop at hr; rw [ho] at hr
  obtain ⟨x', hr, hx⟩ := ev_runs hs hr
  obtain ⟨y', hr, hy⟩ := ev_runs hs hr
  split at hr
  · rename_i l c e hu _
    have ex := rep_int hx
    have ey := rep_int hy
    cases hz : zc P e with
    | none => rw [hz] at hr; cases hr
    | some q =>
      obtain ⟨z, size, by_⟩ := q
      rw [hz] at hr
      simp only at hr
      obtain ⟨i, zv, h1, h2, h3, h4, h5, h5', h6, h7⟩ := zc_out hz
      have h6' : ∀ v ∈ zv.cells.toList, cell1 v = true := fun v hv => by obtain ⟨j, hj⟩ := List.getElem?_of_mem hv; exact h6 j v (by simpa using hj)
      have hzl : z.length = size := by have := (h7 cx).1; simp at this; omega
      split at hr
      · rename_i hc
        obtain ⟨c1, c2, c3, c4, c5⟩ := hc
        have hrun := run_make (P := P) w t e i zv hu h1 h2 .i64 .i64 l c c1 c2 (by rw [h4]; omega) (by omega)
        have hcells : madeCells zv.cells (c.toNat * i.size) = (Array.range (c.toNat * size)).map (fun i => zv.cells[i % zv.cells.size]!) := by
          rw [h3]; rfl
        obtain ⟨z1, z2⟩ := zrep_rep (h7 cx) h6' c.toNat (c.toNat * size) (by rw [hzl]) (.inr (by omega))
        have hrun' : (execOp a.eval o).run P w = .ok (.value (.slice (some ⟨w.heap.size, 0, none⟩) l.toNat c.toNat)) (w.alloc (.cells (madeCells zv.cells (c.toNat * i.size)) e)) := by
          simp [execOp, ho, ex, ey, hrun]
        have hlc : l.toNat * size ≤ c.toNat * size := Nat.mul_le_mul_right _ (by omega)
        have hsize : (madeCells zv.cells (c.toNat * i.size)).size = c.toNat * size := by rw [hcells]; simp
        refine done_mk hs hr hst (madeCells zv.cells (c.toNat * i.size)) e (0, 0) (w' := w.alloc (.cells (madeCells zv.cells (c.toNat * i.size)) e)) (v := .slice (some ⟨w.heap.size, 0, none⟩) l.toNat c.toNat) rfl rfl rfl rfl (.inl rfl)
          (fun i u hu => z2 u (by rw [← hcells]; simpa using Array.mem_of_getElem? hu)) (by rw [hsize, zrep_length, hzl]; exact hlc) (fun j x v hx' hv => ?_) hrun' (fun d cx' e1 e2 e3 e4 => own_new e1 e2 e3 e4 (by omega) (by omega)) hn
        have hj : j < l.toNat * size := by
          have := (List.getElem?_eq_some_iff.1 hx').1
          rw [zrep_length, hzl] at this
          exact this
        refine z1.2 j x v ?_ (by rw [← hcells]; simpa using hv)
        unfold zrep at hx' ⊢
        rw [List.getElem?_map, List.getElem?_range (by rw [hzl]; omega)] at hx' ⊢
        exact hx'
      · cases hr
  · cases hr
end Go.Eng
