/- The engine, part 22: calls that change what they are handed. For every program. -/
import Derived.Test.YteapibifebnboaaE21
set_option linter.unusedVariables false
namespace Go.Eng
open Go.RowKit
variable {P : Program} {N : Nat} {F : Fr} {s s' : AS} {cx : Cx} {a : Act} {w : World}

/-- What a call is handed: rows that it may change. -/
structure SIn (w : World) (tl : List (Nat × Tok)) (nx : Nat) (cx : Cx) : Prop where
  h : cx.h = w.heap
  tk : cx.tk = lkT tl
  U : cx.U = fun g => g < nx
  none_ : ∀ t T, cx.tk t = some T → cx.ρ t = none → T.cs = []
  row : ∀ t T b, cx.tk t = some T → cx.ρ t = some b → TokAt cx T b
  stamp : ∀ t T, cx.tk t = some T → cx.U T.g
  inj : ∀ t t' T T' b, cx.tk t = some T → cx.tk t' = some T' → cx.ρ t = some b → cx.ρ t' = some b → t = t'
  apart : ∀ t T b, cx.tk t = some T → cx.ρ t = some b → ¬ cx.Z b
  Zlt : ∀ b, cx.Z b → b < w.heap.size
def owns (cx : Cx) (b : Nat) : Prop := ∃ t T, cx.tk t = some T ∧ cx.ρ t = some b
/-- What lies there when it is back. -/
structure SOut (w : World) (cx : Cx) (w' : World) (cx' : Cx) : Prop where
  tr : Tr cx cx'
  rest : ∀ b, b < w.heap.size → ¬ owns cx b → w'.heap[b]? = w.heap[b]?
  own : ∀ b, owns cx' b → owns cx b ∨ w.heap.size ≤ b
  Znew : ∀ b, cx'.Z b → cx.Z b ∨ owns cx b ∨ w.heap.size ≤ b
  size : w.heap.size ≤ w'.heap.size
  os : w'.os = w.os
  tape : w'.tape = w.tape
  output : w'.output = w.output
/-- The contract of a call that may change rows: what it answers, which rows are there then, how many stamps are used. -/
def SCall (P : Program) (f : FuncId) (args : List AV) (tl : List (Nat × Tok)) (nx : Nat) (Q : AV → List (Nat × Tok) → Nat → Prop) : Prop :=
  Ent P f ∧ ∀ (w : World) (vargs : Array Value) (cx : Cx), SIn w tl nx cx → RepL cx args vargs.toList →
    Calls P f vargs w fun e w' => ∃ v r tl' nx' cx', e = .returned v ∧ SIn w' tl' nx' cx' ∧ SOut w cx w' cx' ∧ Rep cx' r v ∧ Q r tl' nx'
def SDone (P : Program) (N : Nat) (res : List ResultVar) (Q : AV → List (Nat × Tok) → Nat → Prop) (s : AS) : Prop :=
  ∃ l tl nx xs, s = mkS l tl nx ∧ resV P N s res = some xs ∧ Q (pack xs) tl nx
theorem SCall.mono {f : FuncId} {args : List AV} {tl : List (Nat × Tok)} {nx : Nat} {Q Q' : AV → List (Nat × Tok) → Nat → Prop} (h : SCall P f args tl nx Q) (hq : ∀ r tl' nx', Q r tl' nx' → Q' r tl' nx') : SCall P f args tl nx Q' := by
  refine ⟨h.1, fun w vargs cx h1 h2 => (h.2 w vargs cx h1 h2).mono ?_⟩
  rintro e w' ⟨v, r, tl', nx', cx', h3, h4, h5, h6, h7⟩
  exact ⟨v, r, tl', nx', cx', h3, h4, h5, h6, hq _ _ _ h7⟩
theorem scall_intro {f : FuncId} {fn : Func} {c : Code} {args : List AV} {tl : List (Nat × Tok)} {nx : Nat} {Q : AV → List (Nat × Tok) → Nat → Prop} (hf : P.funcs[f]? = some fn) (hb : fn.body = some c) (hname : (fn.name == "runtime.NumGoroutine") = false) (hN : args.length ≤ fn.ntmps)
    (h : Run P fn.ntmps [.code c] (SDone P fn.ntmps fn.results.toList Q) (mkS (argL 0 args) tl nx)) : SCall P f args tl nx Q := by
  refine ⟨⟨fn, c, hf, hb, hname⟩, fun w vargs cx0 hin hargs => ?_⟩
  have hva : vargs.size = args.length := by have := hargs.1; simp at this; omega
  let F : Fr := ⟨w, fun b => b < w.heap.size ∧ ¬ owns cx0 b, cx0.Z, owns cx0, cx0, fun b hb => by
    by_cases ho : owns cx0 b
    · exact .inr ho
    · exact .inl ⟨hb, ho⟩⟩
  have hsim : SimN fn.ntmps F (mkS (argL 0 args) tl nx) { tmps := vargs ++ Array.replicate (fn.ntmps - vargs.size) undef, defers := [] } w := by
    refine ⟨cx0, hin.U, { h := hin.h, tk := hin.tk, size := by simp; omega, defers := rfl, env := fun i hi => ?_, none_ := hin.none_, row := hin.row, stamp := hin.stamp, inj := hin.inj, apart := hin.apart, free := fun t T b e1 e2 e3 => e3.2 ⟨t, T, e1, e2⟩, Zlt := hin.Zlt, Z0 := fun b hb => hb, Znew := fun b hb => .inl hb, tr := Tr.refl _, os := rfl, tape := rfl, output := rfl, grow := Nat.le_refl _, prot := fun b hb => ⟨hb.1, rfl⟩ }⟩
    show Rep cx0 (lkE (argL 0 args) i) _
    have := argL_get args 0 i
    rw [Nat.zero_add] at this
    rw [this]
    rcases Nat.lt_or_ge i args.length with hlt | hge
    · have h1 : args[i]? = some args[i] := List.getElem?_eq_getElem hlt
      have h2 : vargs[i]? = some vargs[i] := Array.getElem?_eq_getElem (by omega)
      rw [List.getD_eq_getElem?_getD, h1, Array.getD_eq_getD_getElem?, Array.getElem?_append, if_pos (by omega), h2]
      exact hargs.2 i _ _ h1 (by simp [h2])
    · rw [List.getD_eq_getElem?_getD, List.getElem?_eq_none hge]
      exact .dead _
  refine calls_of_wp hf hb (wp_mono (h.out F _ w hsim) ?_)
  rintro e a' w' ⟨he, s, ⟨l, tl', nx', xs, rfl, h1, h2⟩, cx, hU, hc⟩
  obtain ⟨vs, hr, hrep⟩ := results_run hc h1
  have hin' : SIn w' tl' nx' cx := ⟨hc.h, hc.tk, hU, hc.none_, hc.row, hc.stamp, hc.inj, hc.apart, hc.Zlt⟩
  have hout : SOut w cx0 w' cx := by
    refine ⟨hc.tr, fun b hb ho => (hc.prot b ⟨hb, ho⟩).2, fun b ho => ?_, fun b hz => ?_, hc.grow, hc.os, hc.tape, hc.output⟩
    · obtain ⟨t, T, e1, e2⟩ := ho
      have := hc.free t T b e1 e2
      by_cases ho : owns cx0 b
      · exact .inl ho
      · refine .inr ?_
        rcases Nat.lt_or_ge b w.heap.size with hlt | hge
        · exact absurd ⟨hlt, ho⟩ this
        · exact hge
    · rcases hc.Znew b hz with hz | hz | hz
      · exact .inl hz
      · exact .inr (.inr hz)
      · exact .inr (.inl hz)
  rcases he with rfl | rfl
  · exact ⟨hc.defers, _, hr, _, _, tl', nx', cx, rfl, hin', hout, pack_rep hrep, h2⟩
  · exact ⟨hc.defers, _, hr, _, _, tl', nx', cx, rfl, hin', hout, pack_rep hrep, h2⟩

/-! ### What names only rows of some -/
mutual
def AV.refOk (p : Nat → Bool) : AV → Bool
  | .own t .. => p t
  | .arr t .. => p t
  | .addr t .. => p t
  | .sl _ cs => refOkL p cs
  | .ptr cs _ => refOkL p cs
  | .fn _ cs => refOkL p cs
  | .agg cs => refOkL p cs
  | .tup cs => refOkL p cs
  | _ => true
def refOkL (p : Nat → Bool) : List AV → Bool
  | [] => true
  | x :: r => x.refOk p && refOkL p r
end
theorem refOkL_get {p : Nat → Bool} : ∀ {cs : List AV} {i : Nat} {x : AV}, refOkL p cs = true → cs[i]? = some x → x.refOk p = true
  | [], i, x, h, hx => by simp at hx
  | y :: cs, 0, x, h, hx => by simp at hx; subst hx; simp [refOkL] at h; exact h.1
  | y :: cs, i + 1, x, h, hx => by simp [refOkL] at h; exact refOkL_get h.2 (by simpa using hx)
mutual
theorem closed_refOk (p : Nat → Bool) : ∀ x : AV, x.closed = true → x.refOk p = true
  | .own .., h => by simp [AV.closed] at h
  | .arr .., h => by simp [AV.closed] at h
  | .addr .., h => by simp [AV.closed] at h
  | .sl _ cs, h => closedL_refOk p cs (by simpa [AV.closed] using h)
  | .ptr cs _, h => closedL_refOk p cs (by simpa [AV.closed] using h)
  | .fn _ cs, h => closedL_refOk p cs (by simpa [AV.closed] using h)
  | .agg cs, h => closedL_refOk p cs (by simpa [AV.closed] using h)
  | .tup cs, h => closedL_refOk p cs (by simpa [AV.closed] using h)
  | .bool _, _ => rfl
  | .int _ _, _ => rfl
  | .str _, _ => rfl
  | .nilS, _ => rfl
  | .nilP, _ => rfl
  | .em _, _ => rfl
  | .dead, _ => rfl
theorem closedL_refOk (p : Nat → Bool) : ∀ cs : List AV, closedL cs = true → refOkL p cs = true
  | [], _ => rfl
  | x :: r, h => by
    simp only [closedL, Bool.and_eq_true] at h
    simp only [refOkL, Bool.and_eq_true]
    exact ⟨closed_refOk p x h.1, closedL_refOk p r h.2⟩
end
/-- What names only rows that are the same in both places is read in the other one. -/
theorem Rep.wide {cx cx' : Cx} {p : Nat → Bool} (hZ : ∀ b, cx.Z b → cx'.Z b) (hh : cx'.h = cx.h) (hU : ∀ g, cx.U g → cx'.U g) (hp : ∀ t, p t = true → cx'.tk t = cx.tk t ∧ ∀ T, cx.tk t = some T → cx'.ρ t = cx.ρ t) {x : AV} {v : Value} (h : Rep cx x v) (hx : x.refOk p = true) : Rep cx' x v := by
  induction h with
  | bool b => exact .bool b
  | int k n => exact .int k n
  | str s l h => exact .str s l h
  | nilS => exact .nilS
  | nilP => exact .nilP
  | em b a c h => exact .em b a c h
  | sl0 a c => exact .sl0 a c
  | sl n cs ad c arr el fz hz hb hs hn hl h1 h ih => exact .sl n cs ad c arr el fz (hZ _ hz) (by rw [hh]; exact hb) hs hn hl h1 fun i x v e1 e2 => ih i x v e1 e2 (refOkL_get (by simpa [AV.refOk] using hx) e1)
  | own t g off n a c hu hn h =>
    obtain ⟨e1, e2⟩ := hp t (by simpa [AV.refOk] using hx)
    refine .own t g off n a c (hU _ hu) hn fun T hT hg => ?_
    rw [e1] at hT
    rw [e2 T hT, hh]
    exact h T hT hg
  | arr t g off n a hu h =>
    obtain ⟨e1, e2⟩ := hp t (by simpa [AV.refOk] using hx)
    refine .arr t g off n a (hU _ hu) fun T hT hg => ?_
    rw [e1] at hT
    rw [e2 T hT]
    exact h T hT hg
  | addr t g off ad hu h =>
    obtain ⟨e1, e2⟩ := hp t (by simpa [AV.refOk] using hx)
    refine .addr t g off ad (hU _ hu) fun T hT hg => ?_
    rw [e1] at hT
    rw [e2 T hT]
    exact h T hT hg
  | ptr cs off ad base arr el fz hz hb hs ho hl h1 h ih => exact .ptr cs off ad base arr el fz (hZ _ hz) (by rw [hh]; exact hb) hs ho hl h1 fun i x v e1 e2 => ih i x v e1 e2 (refOkL_get (by simpa [AV.refOk] using hx) e1)
  | fn f caps vs hl h ih => exact .fn f caps vs hl fun i x v e1 e2 => ih i x v e1 e2 (refOkL_get (by simpa [AV.refOk] using hx) e1)
  | agg cs vs hl h1 h ih => exact .agg cs vs hl h1 fun i x v e1 e2 => ih i x v e1 e2 (refOkL_get (by simpa [AV.refOk] using hx) e1)
  | tup cs vs hl h ih => exact .tup cs vs hl fun i x v e1 e2 => ih i x v e1 e2 (refOkL_get (by simpa [AV.refOk] using hx) e1)
  | dead v => exact .dead v
theorem lkT_append (l r : List (Nat × Tok)) (t : Nat) : lkT (l ++ r) t = match lkT l t with | some T => some T | none => lkT r t := by
  induction l with
  | nil => rfl
  | cons x l ih =>
    obtain ⟨j, T⟩ := x
    rw [List.cons_append, lkT_cons, lkT_cons, ih]
    split <;> rfl
/-- What the caller may go on with: the rows that came back, and those that it kept to itself. -/
def Cx.back (cx : Cx) (w' : World) (cx' : Cx) (tl' rest : List (Nat × Tok)) (nx' : Nat) : Cx :=
  { h := w'.heap, Z := cx'.Z, ρ := fun t => match lkT tl' t with | some _ => cx'.ρ t | none => cx.ρ t, tk := lkT (tl' ++ rest), U := fun g => g < nx' }
theorem SimC.backed {t1 tl rest tl' : List (Nat × Tok)} {nx nx' : Nat} (hs : SimC N F s cx a w) (ht1 : cx.tk = lkT t1) (hU : ∀ g, cx.U g → g < nx) (htl : ∀ t T, lkT tl t = some T → lkT t1 t = some T)
    (hrest : ∀ t T, lkT rest t = some T → lkT t1 t = some T ∧ lkT tl t = none) {cxS cx' : Cx} (hcxS : cxS = { cx with tk := lkT tl, U := fun g => g < nx }) {w' : World} (hin : SIn w' tl' nx' cx') (hout : SOut w cxS w' cx')
    (href : ∀ t T, lkT tl' t = some T → refOkL (fun t => (lkT rest t).isNone) T.cs = true) :
    Tr cx (cx.back w' cx' tl' rest nx') ∧ SimC N F ⟨s.env, lkT (tl' ++ rest), nx'⟩ (cx.back w' cx' tl' rest nx') a w' := by
  have hS := hout.tr
  have eZ : cxS.Z = cx.Z := by rw [hcxS]
  have eh : cxS.h = cx.h := by rw [hcxS]
  have eρ : cxS.ρ = cx.ρ := by rw [hcxS]
  have etk : cxS.tk = lkT tl := by rw [hcxS]
  have eU : cxS.U = fun g => g < nx := by rw [hcxS]
  have hh' : cx'.h = w'.heap := hin.h
  have hown : ∀ b, owns cxS b → ∃ t T, lkT tl t = some T ∧ cx.tk t = some T ∧ cx.ρ t = some b := by
    rintro b ⟨t, T, e1, e2⟩
    rw [etk] at e1
    rw [eρ] at e2
    exact ⟨t, T, e1, by rw [ht1]; exact htl t T e1, e2⟩
  have hno : ∀ t T b, lkT rest t = some T → cx.ρ t = some b → ¬ owns cxS b := by
    intro t T b e1 e2 ho
    obtain ⟨t2, T2, f1, f2, f3⟩ := hown b ho
    obtain ⟨r1, r2⟩ := hrest t T e1
    have := hs.inj t t2 T T2 b (by rw [ht1]; exact r1) f2 e2 f3
    rw [this, f1] at r2
    cases r2
  have hblkR : ∀ t T b, lkT rest t = some T → cx.ρ t = some b → b < w.heap.size := fun t T b e1 e2 => hs.blk (by rw [ht1]; exact (hrest t T e1).1) e2
  have hTr : Tr cx (cx.back w' cx' tl' rest nx') := by
    refine ⟨fun b hz => ?_, fun g hg => ?_, fun t T' e hu => ?_, fun t T T' b arr el fz e e' hg hu hρ hb => ?_⟩
    · obtain ⟨q1, q2⟩ := hS.Z b (by rw [eZ]; exact hz)
      exact ⟨q1, by show w'.heap[b]? = _; rw [← hh', q2, eh]⟩
    · have := hS.U g (by rw [eU]; exact hU g hg)
      rw [hin.U] at this
      exact this
    · have e0 : lkT (tl' ++ rest) t = some T' := e
      rw [lkT_append] at e0
      cases e1 : lkT tl' t with
      | some T1 =>
        rw [e1] at e0
        cases e0
        obtain ⟨T, q1, q2, q3, q4⟩ := hS.tk t T' (by rw [hin.tk]; exact e1) (by rw [eU]; exact hU _ hu)
        rw [etk] at q1
        refine ⟨T, by rw [ht1]; exact htl t T q1, q2, q3, ?_⟩
        show (match lkT tl' t with | some _ => cx'.ρ t | none => cx.ρ t) = _
        rw [e1, ← eρ]; exact q4
      | none =>
        rw [e1] at e0
        simp only at e0
        refine ⟨T', by rw [ht1]; exact (hrest t T' e0).1, rfl, rfl, ?_⟩
        show (match lkT tl' t with | some _ => cx'.ρ t | none => cx.ρ t) = _
        rw [e1]
    · have e0 : lkT (tl' ++ rest) t = some T' := e'
      rw [lkT_append] at e0
      show ∃ arr' el' fz', w'.heap[b]? = some (.cells arr' el' fz') ∧ _
      cases e1 : lkT tl' t with
      | some T1 =>
        rw [e1] at e0
        cases e0
        obtain ⟨T2, q1, q2, q3, q4⟩ := hS.tk t T' (by rw [hin.tk]; exact e1) (by rw [eU, ← hg]; exact hU _ hu)
        have q1' := q1
        rw [etk] at q1'
        have : T2 = T := by have := htl t T2 q1'; rw [← ht1, e] at this; cases this; rfl
        subst this
        have := hS.row t T2 T' b arr el fz q1 (by rw [hin.tk]; exact e1) hg (by rw [eU]; exact hU _ hu) (by rw [eρ]; exact hρ) (by rw [eh]; exact hb)
        rw [hh'] at this
        exact this
      | none =>
        rw [e1] at e0
        simp only at e0
        refine ⟨arr, el, fz, ?_, Nat.le_refl _⟩
        rw [hout.rest b (hblkR t T' b e0 hρ) (hno t T' b e0 hρ), ← hs.h]; exact hb
  have hp : ∀ t, (lkT rest t).isNone = true → (cx.back w' cx' tl' rest nx').tk t = cx'.tk t ∧ ∀ T, cx'.tk t = some T → (cx.back w' cx' tl' rest nx').ρ t = cx'.ρ t := by
    intro t hn
    rw [Option.isNone_iff_eq_none] at hn
    refine ⟨?_, fun T hT => ?_⟩
    · show lkT (tl' ++ rest) t = _
      rw [lkT_append, hin.tk, hn]
      cases lkT tl' t <;> rfl
    · rw [hin.tk] at hT
      show (match lkT tl' t with | some _ => cx'.ρ t | none => cx.ρ t) = _
      rw [hT]
  have hcase : ∀ t T, (cx.back w' cx' tl' rest nx').tk t = some T → (lkT tl' t = some T ∧ (cx.back w' cx' tl' rest nx').ρ t = cx'.ρ t) ∨ (lkT rest t = some T ∧ (cx.back w' cx' tl' rest nx').ρ t = cx.ρ t) := by
    intro t T e
    have e0 : lkT (tl' ++ rest) t = some T := e
    rw [lkT_append] at e0
    cases e1 : lkT tl' t with
    | some T1 =>
      rw [e1] at e0
      cases e0
      exact .inl ⟨rfl, by show (match lkT tl' t with | some _ => cx'.ρ t | none => cx.ρ t) = _; rw [e1]⟩
    | none =>
      rw [e1] at e0
      exact .inr ⟨e0, by show (match lkT tl' t with | some _ => cx'.ρ t | none => cx.ρ t) = _; rw [e1]⟩
  have hrt : ∀ t T, lkT rest t = some T → cx.tk t = some T := fun t T e => by rw [ht1]; exact (hrest t T e).1
  have htt : ∀ t T, lkT tl' t = some T → cx'.tk t = some T := fun t T e => by rw [hin.tk]; exact e
  have hgrow : F.w0.heap.size ≤ w.heap.size := hs.grow
  refine ⟨hTr, { h := rfl, tk := rfl, size := hs.size, defers := hs.defers, env := fun i hi => (hs.env i hi).tr hTr, none_ := fun t T e1 e2 => ?_, row := fun t T b e1 e2 => ?_, stamp := fun t T e => ?_, inj := fun t t' T T' b e1 e2 e3 e4 => ?_, apart := fun t T b e1 e2 hz => ?_, free := fun t T b e1 e2 hpr => ?_, Zlt := hin.Zlt, Z0 := fun b hz => (hS.Z b (by rw [eZ]; exact hs.Z0 b hz)).1, Znew := fun b hz => ?_, tr := hs.tr.trans hTr, os := hout.os.trans hs.os, tape := hout.tape.trans hs.tape, output := hout.output.trans hs.output, grow := Nat.le_trans hs.grow hout.size, prot := fun b hb => ?_ }⟩
  · rcases hcase t T e1 with ⟨q1, q2⟩ | ⟨q1, q2⟩
    · rw [q2] at e2; exact hin.none_ t T (htt t T q1) e2
    · rw [q2] at e2; exact hs.none_ t T (hrt t T q1) e2
  · rcases hcase t T e1 with ⟨q1, q2⟩ | ⟨q1, q2⟩
    · rw [q2] at e2
      obtain ⟨arr, el, fz, f1, f2, f3, f4, f5⟩ := hin.row t T b (htt t T q1) e2
      refine ⟨arr, el, fz, by show w'.heap[b]? = _; rw [← hh']; exact f1, f2, f3, f4, fun i x v hx hv => ?_⟩
      exact Rep.wide (cx := cx') (cx' := cx.back w' cx' tl' rest nx') (fun b h => h) hh'.symm (fun g hg => by rw [hin.U] at hg; exact hg) hp (f5 i x v hx hv) (refOkL_get (href t T q1) hx)
    · rw [q2] at e2
      refine (hs.row t T b (hrt t T q1) e2).tr hTr ?_
      show w'.heap[b]? = _
      rw [hout.rest b (hblkR t T b q1 e2) (hno t T b q1 e2), hs.h]
  · rcases hcase t T e with ⟨q1, q2⟩ | ⟨q1, q2⟩
    · have := hin.stamp t T (htt t T q1)
      rw [hin.U] at this
      exact this
    · exact hTr.U _ (hs.stamp t T (hrt t T q1))
  · have mixed : ∀ t T t' T', lkT tl' t = some T → cx'.ρ t = some b → lkT rest t' = some T' → cx.ρ t' = some b → False := by
      intro t T t' T' f1 f2 f3 f4
      rcases hout.own b ⟨t, T, htt t T f1, f2⟩ with ho | ho
      · exact hno t' T' b f3 f4 ho
      · have := hblkR t' T' b f3 f4; omega
    rcases hcase t T e1 with ⟨q1, q2⟩ | ⟨q1, q2⟩ <;> rcases hcase t' T' e2 with ⟨r1, r2⟩ | ⟨r1, r2⟩ <;> rw [q2] at e3 <;> rw [r2] at e4
    · exact hin.inj t t' T T' b (htt t T q1) (htt t' T' r1) e3 e4
    · exact (mixed t T t' T' q1 e3 r1 e4).elim
    · exact (mixed t' T' t T r1 e4 q1 e3).elim
    · exact hs.inj t t' T T' b (hrt t T q1) (hrt t' T' r1) e3 e4
  · rcases hcase t T e1 with ⟨q1, q2⟩ | ⟨q1, q2⟩ <;> rw [q2] at e2
    · exact hin.apart t T b (htt t T q1) e2 hz
    · rcases hout.Znew b hz with h | h | h
      · rw [eZ] at h; exact hs.apart t T b (hrt t T q1) e2 h
      · exact hno t T b q1 e2 h
      · have := hblkR t T b q1 e2; omega
  · rcases hcase t T e1 with ⟨q1, q2⟩ | ⟨q1, q2⟩ <;> rw [q2] at e2
    · rcases hout.own b ⟨t, T, htt t T q1, e2⟩ with ho | ho
      · obtain ⟨t2, T2, f1, f2, f3⟩ := hown b ho
        exact hs.free t2 T2 b f2 f3 hpr
      · have := (hs.prot b hpr).1; omega
    · exact hs.free t T b (hrt t T q1) e2 hpr
  · rcases hout.Znew b hz with h | h | h
    · rw [eZ] at h; exact hs.Znew b h
    · obtain ⟨t2, T2, f1, f2, f3⟩ := hown b h
      rcases Nat.lt_or_ge b F.w0.heap.size with hlt | hge
      · exact (F.hprot b hlt).elim (fun q => absurd q (hs.free t2 T2 b f2 f3)) fun q => .inr (.inr q)
      · exact .inr (.inl hge)
    · exact .inr (.inl (by omega))
  · obtain ⟨p1, p2⟩ := hs.prot b hb
    refine ⟨p1, ?_⟩
    rw [hout.rest b (by omega) (fun ho => by obtain ⟨t2, T2, f1, f2, f3⟩ := hown b ho; exact hs.free t2 T2 b f2 f3 hb)]
    exact p2
theorem back_rep {tl' rest : List (Nat × Tok)} {nx' : Nat} {cx' : Cx} {w' : World} (hin : SIn w' tl' nx' cx') {x : AV} {v : Value} (h : Rep cx' x v) (hx : x.refOk (fun t => (lkT rest t).isNone) = true) : Rep (cx.back w' cx' tl' rest nx') x v := by
  refine Rep.wide (cx := cx') (cx' := cx.back w' cx' tl' rest nx') (fun b h => h) hin.h.symm (fun g hg => by rw [hin.U] at hg; exact hg) (fun t hn => ?_) h hx
  rw [Option.isNone_iff_eq_none] at hn
  refine ⟨?_, fun T hT => ?_⟩
  · show lkT (tl' ++ rest) t = _
    rw [lkT_append, hin.tk, hn]
    cases lkT tl' t <;> rfl
  · rw [hin.tk] at hT
    show (match lkT tl' t with | some _ => cx'.ρ t | none => cx.ρ t) = _
    rw [hT]
/-! ### Lists of rows -/
def subT : List (Nat × Tok) → List (Nat × Tok) → Prop
  | [], _ => True
  | (i, T) :: r, t1 => lkT t1 i = some T ∧ subT r t1
theorem subT_get : ∀ {tl t1 : List (Nat × Tok)}, subT tl t1 → ∀ t T, lkT tl t = some T → lkT t1 t = some T
  | [], _, _, t, T, h => by cases h
  | (i, T0) :: r, t1, hs, t, T, h => by
    rw [lkT_cons] at h
    split at h
    · rename_i e; cases h; rw [e]; exact hs.1
    · exact subT_get hs.2 t T h
def disT : List (Nat × Tok) → List (Nat × Tok) → Prop
  | [], _ => True
  | (i, _) :: r, tl => lkT tl i = none ∧ disT r tl
theorem disT_get : ∀ {rest tl : List (Nat × Tok)}, disT rest tl → ∀ t T, lkT rest t = some T → lkT tl t = none
  | [], _, _, t, T, h => by cases h
  | (i, T0) :: r, tl, hs, t, T, h => by
    rw [lkT_cons] at h
    split at h
    · rename_i e; rw [e]; exact hs.1
    · exact disT_get hs.2 t T h
def refT (p : Nat → Bool) : List (Nat × Tok) → Prop
  | [] => True
  | (_, T) :: r => refOkL p T.cs = true ∧ refT p r
theorem refT_get {p : Nat → Bool} : ∀ {tl : List (Nat × Tok)}, refT p tl → ∀ t T, lkT tl t = some T → refOkL p T.cs = true
  | [], _, t, T, h => by cases h
  | (i, T0) :: r, hs, t, T, h => by
    rw [lkT_cons] at h
    split at h
    · cases h; exact hs.1
    · exact refT_get hs.2 t T h
/-! ### A call within a region -/
def evV (N : Nat) (l : List (Nat × AV)) : Operand → Option AV
  | .tmp t => if t < N then some (lkF l t) else none
  | .const v => some (absV v)
  | .func f => some (.fn f [])
  | .global _ => none
def evLV (N : Nat) (l : List (Nat × AV)) : List Operand → Option (List AV)
  | [] => some []
  | o :: r => match evV N l o, evLV N l r with | some x, some xs => some (x :: xs) | _, _ => none
theorem evV_rep {l : List (Nat × AV)} {t1 : List (Nat × Tok)} {nx : Nat} (hs : SimC N F (mkS l t1 nx) cx a w) {o : Operand} {x : AV} (h : evV N l o = some x) : Rep cx x (a.eval o) := by
  cases o with
  | tmp t =>
    have h : (if t < N then some (lkF l t) else none) = some x := h
    by_cases hlt : t < N
    · rw [if_pos hlt] at h
      cases h
      have := hs.env t hlt
      rw [mkS_env] at this
      exact this
    · rw [if_neg hlt] at h; cases h
  | const v => cases h; exact rep_absV cx v
  | func f => cases h; exact .fn f [] #[] rfl fun i x v hx => by simp at hx
  | global g => cases h
theorem evLV_rep {l : List (Nat × AV)} {t1 : List (Nat × Tok)} {nx : Nat} (hs : SimC N F (mkS l t1 nx) cx a w) : ∀ {os : List Operand} {xs : List AV}, evLV N l os = some xs → RepL cx xs (os.map a.eval)
  | [], xs, h => by cases h; exact .nil _
  | o :: r, xs, h => by
    unfold evLV at h
    cases e1 : evV N l o with
    | none => rw [e1] at h; cases h
    | some x =>
      cases e2 : evLV N l r with
      | none => rw [e1, e2] at h; cases h
      | some ys => rw [e1, e2] at h; cases h; exact .cons (evV_rep hs e1) (evLV_rep hs e2)
/-- A call that may change the rows tl; the rows rest are kept from it. -/
structure CallAt (P : Program) (N : Nat) (o : Oper) (l : List (Nat × AV)) (t1 tl rest : List (Nat × Tok)) (nx : Nat) (d : Nat) (Qs : AV → List (Nat × Tok) → Nat → Prop) : Prop where
  out : ∃ c fo fid caps xs, o.op = .call c ∧ c.callee = .value fo ∧ o.dst = some d ∧ d < N ∧ evV N l fo = some (.fn fid caps) ∧ evLV N l c.args.toList = some xs ∧ (∀ t T, lkT tl t = some T → lkT t1 t = some T) ∧ (∀ t T, lkT rest t = some T → lkT t1 t = some T ∧ lkT tl t = none) ∧ SCall P fid (xs ++ caps) tl nx Qs
theorem callAt {o : Oper} {l : List (Nat × AV)} {t1 tl rest : List (Nat × Tok)} {nx d : Nat} {Qs : AV → List (Nat × Tok) → Nat → Prop} {c : Call} {fo : Operand} {fid : FuncId} {caps xs : List AV} (ho : o.op = .call c) (hc : c.callee = .value fo) (hd : o.dst = some d) (hN : d < N)
    (hf : evV N l fo = some (.fn fid caps)) (hx : evLV N l c.args.toList = some xs) (h1 : subT tl t1) (h2 : subT rest t1) (h3 : disT rest tl) (hcall : SCall P fid (xs ++ caps) tl nx Qs) : CallAt P N o l t1 tl rest nx d Qs :=
  ⟨c, fo, fid, caps, xs, ho, hc, hd, hN, hf, hx, subT_get h1, fun t T e => ⟨subT_get h2 t T e, disT_get h3 t T e⟩, hcall⟩
/-- No row is handed over. -/
theorem callAt0 {o : Oper} {l : List (Nat × AV)} {t1 : List (Nat × Tok)} {nx d : Nat} {Qs : AV → List (Nat × Tok) → Nat → Prop} {c : Call} {fo : Operand} {fid : FuncId} {caps xs : List AV} (ho : o.op = .call c) (hc : c.callee = .value fo) (hd : o.dst = some d) (hN : d < N)
    (hf : evV N l fo = some (.fn fid caps)) (hx : evLV N l c.args.toList = some xs) (hcall : SCall P fid (xs ++ caps) [] nx Qs) : CallAt P N o l t1 [] t1 nx d Qs :=
  ⟨c, fo, fid, caps, xs, ho, hc, hd, hN, hf, hx, fun t T e => (by cases e), fun t T e => ⟨e, rfl⟩, hcall⟩
theorem scall_op {o : Oper} {l : List (Nat × AV)} {t1 tl rest : List (Nat × Tok)} {nx d nx1 : Nat} {Qs : AV → List (Nat × Tok) → Nat → Prop} (h : CallAt P N o l t1 tl rest nx d Qs) (hs : SimC N F (mkS l t1 nx1) cx a w) (hU : ∀ g, cx.U g → g < nx)
    {next : Act → World → Prop} {Q : Exit → Act → World → Prop}
    (hn : ∀ r tl' nx', Qs r tl' nx' → nx ≤ nx' → (r.refOk (fun t => (lkT rest t).isNone) = true ∧ ∀ t T, lkT tl' t = some T → refOkL (fun t => (lkT rest t).isNone) T.cs = true) ∧ ∀ a' w', Sim N F (fun g => g < nx') (mkS ((d, r) :: l) (tl' ++ rest) nx') a' w' → next a' w') : o.wp P a w next Q := by
  obtain ⟨c, fo, fid, caps, xs, ho, hc, hd, hdN, hf, hx, htl, hrest, hcall⟩ := h.out
  have ht1 : cx.tk = lkT t1 := hs.tk
  obtain ⟨vs, ef, hcaps⟩ := rep_fn (evV_rep hs hf)
  have hall : RepL cx (xs ++ caps) (c.args.toList.map a.eval ++ vs.toList) := RepL.append (evLV_rep hs hx) hcaps
  have hrun : (execOp a.eval o).run P w = .ok (.enter fid (c.args.map a.eval ++ vs)) w := by
    obtain ⟨fn, cc, e1, e2, e3⟩ := hcall.1
    simp only [execOp, ho, resolve, hc, ef, Deferred.ofValue, invoke, pure_bind, Array.empty_append]
    have e3' : ¬ fn.name = "runtime.NumGoroutine" := by simpa using e3
    simp [callFunc, e1, e2, e3']
  obtain ⟨cxS, hcxS⟩ : ∃ cxS : Cx, cxS = { cx with tk := lkT tl, U := fun g => g < nx } := ⟨_, rfl⟩
  have hTr : Tr cx cxS := by
    rw [hcxS]
    exact Tr.of (fun b hb => ⟨hb, rfl⟩) hU (fun t T' e _ => ⟨T', by rw [ht1]; exact htl t T' e, rfl, rfl, rfl⟩) fun t T b arr el fz _ _ e => ⟨arr, el, fz, e, Nat.le_refl _⟩
  have hmem : ∀ t T, cxS.tk t = some T → cx.tk t = some T := fun t T e => by rw [hcxS] at e; rw [ht1]; exact htl t T e
  have hin : SIn w tl nx cxS := by
    refine ⟨by rw [hcxS]; exact hs.h, by rw [hcxS], by rw [hcxS], fun t T e1 e2 => hs.none_ t T (hmem t T e1) (by rw [hcxS] at e2; exact e2), fun t T b e1 e2 => ?_, fun t T e => ?_, fun t t' T T' b e1 e2 e3 e4 => ?_, fun t T b e1 e2 => ?_, fun b hb => ?_⟩
    · exact (hs.row t T b (hmem t T e1) (by rw [hcxS] at e2; exact e2)).tr hTr (by rw [hcxS])
    · rw [hcxS]; exact hU _ (hs.stamp t T (hmem t T e))
    · exact hs.inj t t' T T' b (hmem t T e1) (hmem t' T' e2) (by rw [hcxS] at e3; exact e3) (by rw [hcxS] at e4; exact e4)
    · have := hs.apart t T b (hmem t T e1) (by rw [hcxS] at e2; exact e2)
      rw [hcxS]; exact this
    · rw [hcxS] at hb; exact hs.Zlt b hb
  have hargs : RepL cxS (xs ++ caps) (c.args.map a.eval ++ vs).toList := by
    have := hall.tr hTr
    rw [show (c.args.map a.eval ++ vs).toList = c.args.toList.map a.eval ++ vs.toList by simp]
    exact this
  unfold Oper.wp
  rw [hrun, Oper.upon_enter]
  refine (hcall.2 w _ cxS hin hargs).mono ?_
  rintro e w' ⟨v, r, tl', nx', cx', rfl, hin', hout, hv, hq⟩
  have hge : nx ≤ nx' := by
    have hu := hout.tr.U
    rw [hin.U, hin'.U] at hu
    rcases Nat.lt_or_ge nx' nx with hlt | hge
    · exact absurd (hu nx' hlt) (Nat.lt_irrefl _)
    · exact hge
  obtain ⟨⟨hr1, hr2⟩, hnext⟩ := hn r tl' nx' hq hge
  have hb := SimC.backed hs ht1 hU htl hrest hcxS hin' hout hr2
  have hrep : Rep (cx.back w' cx' tl' rest nx') r v := back_rep hin' hv hr1
  refine hnext _ _ ⟨cx.back w' cx' tl' rest nx', rfl, ?_⟩
  rw [hd]
  have := hb.2.putE hdN hrep
  have e : (⟨(mkS l t1 nx1).env, lkT (tl' ++ rest), nx'⟩ : AS).setE d r = mkS ((d, r) :: l) (tl' ++ rest) nx' := by
    have := mkS_setE l (tl' ++ rest) nx' d r
    exact this
  rw [← e]; exact this
/-- A region whose n-th operation is a call that changes rows. -/
theorem run_region_scall {id : Nat} {ops : Array Oper} {k : List It} {Q : AS → Prop} {l : List (Nat × AV)} {t0 : List (Nat × Tok)} {nx : Nat} (n : Nat) (o : Oper) (ho : ops[n]? = some o)
    (h : OpsWp P N ops (ops.toList.take n) nx (fun s1 => ∃ l1 t1 tl rest d Qs, s1 = mkS l1 t1 (nx + ops.size) ∧ wanted? N ops o s1 = some true ∧ CallAt P N o l1 t1 tl rest (nx + ops.size) d Qs ∧
      ∀ r tl' nx', Qs r tl' nx' → nx + ops.size ≤ nx' → (r.refOk (fun t => (lkT rest t).isNone) = true ∧ ∀ t T, lkT tl' t = some T → refOkL (fun t => (lkT rest t).isNone) T.cs = true) ∧ OpsWp P N ops (ops.toList.drop (n + 1)) nx' (Run P N k Q) (mkS ((d, r) :: l1) (tl' ++ rest) (nx' + (ops.size - (n + 1))))) (mkS l t0 (nx + ops.size))) :
    Run P N (.code (.region id ops false) :: k) Q (mkS l t0 nx) := by
  refine ⟨fun F a w hs => ?_⟩
  show (Code.region id ops false).wp P _ a w
  refine wp_region ?_
  rw [List.range_eq_range']
  have hn : n < ops.size := (Array.getElem?_eq_some_iff.1 ho).1
  have hlen : ops.toList.length = ops.size := by simp
  have hl1 : (ops.toList.take n).length = n := by rw [List.length_take]; omega
  have hl2 : (ops.toList.drop n).length = ops.size - n := by rw [List.length_drop, hlen]
  rw [show ops.size = (ops.toList.take n).length + (ops.toList.drop n).length by omega]
  refine ops_wp2 (F := F) (nx := nx) (ops.toList.drop n) (ops.toList.take n) 0 (mkS l t0 (nx + ops.size)) a w (fun j => by rw [List.take_append_drop]; simp) (by omega) h ?_ fun s1 a1 w1 hk hs1 => ?_
  · obtain ⟨cx, hU, hc⟩ := hs
    exact ⟨cx, hU, { hc with tk := hc.tk, env := hc.env }⟩
  · obtain ⟨l1, t1, tl, rest, d, Qs, rfl, hw, hcall, hrest⟩ := hk
    rw [Nat.zero_add, hl1] at hs1 ⊢
    obtain ⟨cx, hU, hc⟩ := hs1
    have hwd := wanted_eq hc hw
    rw [hl2, show ops.size - n = (ops.size - (n + 1)) + 1 by omega, List.range'_succ]
    simp only [wpOps, ho]
    rw [hwd]
    simp only [if_true]
    left
    refine scall_op hcall hc (fun g hg => by rw [hU] at hg; have : g < nx + n := hg; omega) fun r tl' nx' hq hge => ?_
    obtain ⟨hr, h2⟩ := hrest r tl' nx' hq hge
    refine ⟨hr, fun a' w' hs' => ?_⟩
    have hl3 : (ops.toList.drop (n + 1)).length = ops.size - (n + 1) := by rw [List.length_drop, hlen]
    have hb : nx' - (n + 1) + (n + 1) = nx' := by omega
    have h2' : OpsWp P N ops (ops.toList.drop (n + 1)) (nx' - (n + 1) + (n + 1)) (fun s' => s'.nx = nx' + (ops.size - (n + 1)) ∧ Run P N k Q s') (mkS ((d, r) :: l1) (tl' ++ rest) (nx' + (ops.size - (n + 1)))) := by
      rw [hb]
      exact opsWp_imp_nx (n := nx' + (ops.size - (n + 1))) (fun s' hn h => ⟨hn, h⟩) rfl h2
    have hs2 : Sim N F (fun g => g < nx' - (n + 1) + (n + 1)) (mkS ((d, r) :: l1) (tl' ++ rest) (nx' + (ops.size - (n + 1)))) a' w' := by
      rw [hb]
      obtain ⟨cx2, hU2, hc2⟩ := hs'
      exact ⟨cx2, hU2, { hc2 with tk := hc2.tk, env := hc2.env }⟩
    rw [← hl3]
    refine ops_wp (F := F) (nx := nx' - (n + 1)) (ops.toList.drop (n + 1)) (n + 1) _ a' w' (fun j => by rw [List.getElem?_drop]; simp) (by omega) h2' hs2 fun s' a'' w'' hk hs'' => ?_
    refine hk.2.out F a'' w'' ?_
    show Sim N F (fun g => g < s'.nx) s' a'' w''
    rw [hk.1, show nx' + (ops.size - (n + 1)) = nx' - (n + 1) + ops.size by omega]
    exact hs''
/-! ### A row is called by another number -/
inductive Rn (t g d g' : Nat) : AV → AV → Prop
  | keep (x : AV) : Rn t g d g' x x
  | own (off n : Nat) : Rn t g d g' (.own t g off n) (.own d g' off n)
  | arr (off n : Nat) : Rn t g d g' (.arr t g off n) (.arr d g' off n)
  | addr (off : Nat) : Rn t g d g' (.addr t g off) (.addr d g' off)
  | fn (f : FuncId) (cs ds : List AV) (hl : cs.length = ds.length) (h : ∀ (i : Nat) (x y : AV), cs[i]? = some x → ds[i]? = some y → Rn t g d g' x y) : Rn t g d g' (.fn f cs) (.fn f ds)
  | agg (cs ds : List AV) (hl : cs.length = ds.length) (h : ∀ (i : Nat) (x y : AV), cs[i]? = some x → ds[i]? = some y → Rn t g d g' x y) : Rn t g d g' (.agg cs) (.agg ds)
  | tup (cs ds : List AV) (hl : cs.length = ds.length) (h : ∀ (i : Nat) (x y : AV), cs[i]? = some x → ds[i]? = some y → Rn t g d g' x y) : Rn t g d g' (.tup cs) (.tup ds)
def RnL (t g d g' : Nat) : List AV → List AV → Prop
  | [], [] => True
  | x :: r, y :: q => Rn t g d g' x y ∧ RnL t g d g' r q
  | _, _ => False
theorem RnL.get {t g d g' : Nat} : ∀ {cs ds : List AV}, RnL t g d g' cs ds → cs.length = ds.length ∧ ∀ (i : Nat) (x y : AV), cs[i]? = some x → ds[i]? = some y → Rn t g d g' x y
  | [], [], _ => ⟨rfl, fun i x y h => by simp at h⟩
  | x :: r, y :: q, h => by
    obtain ⟨h1, h2⟩ := RnL.get h.2
    refine ⟨by simp [h1], fun i u v hu hv => ?_⟩
    cases i with
    | zero => simp at hu hv; subst hu; subst hv; exact h.1
    | succ i => exact h2 i u v (by simpa using hu) (by simpa using hv)
  | [], _ :: _, h => h.elim
  | _ :: _, [], h => h.elim
theorem RnL.refl {t g d g' : Nat} : ∀ (cs : List AV), RnL t g d g' cs cs
  | [] => trivial
  | x :: r => ⟨.keep x, RnL.refl r⟩
theorem RnL.append {t g d g' : Nat} : ∀ {a b c e : List AV}, RnL t g d g' a b → RnL t g d g' c e → RnL t g d g' (a ++ c) (b ++ e)
  | [], [], _, _, _, h => h
  | x :: r, y :: q, _, _, h, k => ⟨h.1, RnL.append h.2 k⟩
  | [], _ :: _, _, _, h, _ => h.elim
  | _ :: _, [], _, _, h, _ => h.elim
theorem Rn.fnL {t g d g' : Nat} (f : FuncId) {cs ds : List AV} (h : RnL t g d g' cs ds) : Rn t g d g' (.fn f cs) (.fn f ds) := .fn f cs ds h.get.1 h.get.2
theorem Rn.aggL {t g d g' : Nat} {cs ds : List AV} (h : RnL t g d g' cs ds) : Rn t g d g' (.agg cs) (.agg ds) := .agg cs ds h.get.1 h.get.2
def rnE (t g d g' : Nat) (l : List (Nat × AV)) : List (Nat × AV) → Prop
  | [] => True
  | (i, x) :: r => Rn t g d g' (lkE l i) x ∧ rnE t g d g' l r
def rnT (t d : Nat) (T : Tok) (g' : Nat) (tl : List (Nat × Tok)) : List (Nat × Tok) → Prop
  | [] => True
  | (i, T') :: r => ((i = d ∧ T'.g = g' ∧ T'.sz = T.sz ∧ RnL t T.g d g' T.cs T'.cs) ∨ (i ≠ d ∧ i ≠ t ∧ ∃ T1, lkT tl i = some T1 ∧ T1.g = T'.g ∧ T1.sz = T'.sz ∧ RnL t T.g d g' T1.cs T'.cs)) ∧ rnT t d T g' tl r
theorem rnE_get {t g d g' : Nat} {l : List (Nat × AV)} : ∀ {l' : List (Nat × AV)}, rnE t g d g' l l' → ∀ i, lkE l' i = .dead ∨ Rn t g d g' (lkE l i) (lkE l' i)
  | [], _, i => .inl rfl
  | (j, x) :: r, h, i => by
    rw [lkE_cons]
    by_cases e : i = j
    · subst e; rw [if_pos rfl]; exact .inr h.1
    · rw [if_neg e]; exact rnE_get h.2 i
theorem rnT_get {t d : Nat} {T : Tok} {g' : Nat} {tl : List (Nat × Tok)} : ∀ {tl' : List (Nat × Tok)}, rnT t d T g' tl tl' → ∀ i T', lkT tl' i = some T' →
    (i = d ∧ T'.g = g' ∧ T'.sz = T.sz ∧ RnL t T.g d g' T.cs T'.cs) ∨ (i ≠ d ∧ i ≠ t ∧ ∃ T1, lkT tl i = some T1 ∧ T1.g = T'.g ∧ T1.sz = T'.sz ∧ RnL t T.g d g' T1.cs T'.cs)
  | [], _, i, T', h => by cases h
  | (j, x) :: r, h, i, T', h' => by
    rw [lkT_cons] at h'
    split at h'
    · rename_i e; cases h'; subst e; exact h.1
    · exact rnT_get h.2 i T' h'
theorem run_ren {l l' : List (Nat × AV)} {tl tl' : List (Nat × Tok)} {nx : Nat} {k : List It} {Q : AS → Prop} (t d : Nat) (T : Tok) (hT : lkT tl t = some T) (hE : rnE t T.g d nx l l') (hTk : rnT t d T nx tl tl')
    (h : Run P N k Q (mkS l' tl' (nx + 1))) : Run P N k Q (mkS l tl nx) := by
  refine run_le ?_ h
  rintro F a w ⟨cx, hU, hs⟩
  have hUx : cx.U = fun g => g < nx := hU
  let cx' : Cx := { cx with tk := lkT tl', ρ := fun i => if i = d then cx.ρ t else cx.ρ i, U := fun g => g < nx + 1 }
  have htk : cx.tk = lkT tl := hs.tk
  have hTt : cx.tk t = some T := by rw [htk]; exact hT
  have hρd : cx'.ρ d = cx.ρ t := if_pos rfl
  have hρ : ∀ i, i ≠ d → cx'.ρ i = cx.ρ i := fun i hi => if_neg hi
  have hnU : ¬ cx.U nx := by rw [hUx]; exact Nat.lt_irrefl nx
  have hcase : ∀ i T', lkT tl' i = some T' → (i = d ∧ T'.g = nx ∧ T'.sz = T.sz ∧ RnL t T.g d nx T.cs T'.cs ∧ cx'.ρ i = cx.ρ t) ∨ (i ≠ t ∧ i ≠ d ∧ cx'.ρ i = cx.ρ i ∧ ∃ T1, cx.tk i = some T1 ∧ T1.g = T'.g ∧ T1.sz = T'.sz ∧ RnL t T.g d nx T1.cs T'.cs) := by
    intro i T' e
    rcases rnT_get hTk i T' e with ⟨rfl, q2, q3, q4⟩ | ⟨q1, q2, T1, q3, q4, q5, q6⟩
    · exact .inl ⟨rfl, q2, q3, q4, hρd⟩
    · exact .inr ⟨q2, q1, hρ i q1, T1, by rw [htk]; exact q3, q4, q5, q6⟩
  have hTr : Tr cx cx' := by
    refine Tr.of (fun b hb => ⟨hb, rfl⟩) (fun g hg => ?_) (fun i T' e hu => ?_) (fun i T0 b arr el fz _ _ e => ⟨arr, el, fz, e, Nat.le_refl _⟩)
    · rw [hUx] at hg
      have : g < nx := hg
      show g < nx + 1; omega
    · rcases hcase i T' e with ⟨_, q2, _⟩ | ⟨_, _, q3, T1, q4, q5, q6, _⟩
      · rw [q2] at hu; exact absurd hu hnU
      · exact ⟨T1, q4, q5, q6, q3⟩
  have hfr : ∀ {x : AV} {v : Value}, Rep cx x v → ∀ {y : AV}, Rn t T.g d nx x y → Rep cx' y v := by
    intro x v hr
    have hgd : ∀ T', lkT tl' d = some T' → T'.sz = T.sz := fun T' e => by
      rcases hcase d T' e with ⟨_, _, q3, _⟩ | ⟨_, q2, _⟩
      · exact q3
      · exact absurd rfl q2
    induction hr with
    | own t0 g0 off n p c hu hnc hh =>
      intro y hf
      cases hf with
      | keep => exact (Rep.own t0 g0 off n p c hu hnc hh).tr hTr
      | own =>
        refine .own d nx off n p c (by show nx < nx + 1; omega) hnc fun T' e hg => ?_
        rcases hh T hTt rfl with h0 | ⟨b, arr, el, fz, g1, g2, g3, g4⟩
        · exact .inl h0
        · exact .inr ⟨b, arr, el, fz, hρd.trans g1, g2, g3, by rw [hgd T' e]; exact g4⟩
    | arr t0 g0 off n p hu hh =>
      intro y hf
      cases hf with
      | keep => exact (Rep.arr t0 g0 off n p hu hh).tr hTr
      | arr =>
        refine .arr d nx off n p (by show nx < nx + 1; omega) fun T' e hg => ?_
        obtain ⟨b, g1, g2⟩ := hh T hTt rfl
        exact ⟨b, hρd.trans g1, g2⟩
    | addr t0 g0 off ad hu hh =>
      intro y hf
      cases hf with
      | keep => exact (Rep.addr t0 g0 off ad hu hh).tr hTr
      | addr =>
        refine .addr d nx off ad (by show nx < nx + 1; omega) fun T' e hg => ?_
        obtain ⟨b, g1, g2⟩ := hh T hTt rfl
        exact ⟨b, hρd.trans g1, g2⟩
    | fn f caps vs hl hh ih =>
      intro y hf
      cases hf with
      | keep => exact (Rep.fn f caps vs hl hh).tr hTr
      | fn _ _ ds hl2 h2 =>
        refine .fn f ds vs (hl2.symm.trans hl) fun i y v hy hv => ?_
        have hi : i < caps.length := by rw [hl2]; exact (List.getElem?_eq_some_iff.1 hy).1
        exact ih i _ v (List.getElem?_eq_getElem hi) hv (h2 i _ y (List.getElem?_eq_getElem hi) hy)
    | agg cs vs hl h1 hh ih =>
      intro y hf
      cases hf with
      | keep => exact (Rep.agg cs vs hl h1 hh).tr hTr
      | agg _ ds hl2 h2 =>
        refine .agg ds vs (hl2.symm.trans hl) h1 fun i y v hy hv => ?_
        have hi : i < cs.length := by rw [hl2]; exact (List.getElem?_eq_some_iff.1 hy).1
        exact ih i _ v (List.getElem?_eq_getElem hi) hv (h2 i _ y (List.getElem?_eq_getElem hi) hy)
    | tup cs vs hl hh ih =>
      intro y hf
      cases hf with
      | keep => exact (Rep.tup cs vs hl hh).tr hTr
      | tup _ ds hl2 h2 =>
        refine .tup ds vs (hl2.symm.trans hl) fun i y v hy hv => ?_
        have hi : i < cs.length := by rw [hl2]; exact (List.getElem?_eq_some_iff.1 hy).1
        exact ih i _ v (List.getElem?_eq_getElem hi) hv (h2 i _ y (List.getElem?_eq_getElem hi) hy)
    | bool b => intro y hf; cases hf; exact .bool b
    | int k n => intro y hf; cases hf; exact .int k n
    | str s l h => intro y hf; cases hf; exact .str s l h
    | nilS => intro y hf; cases hf; exact .nilS
    | nilP => intro y hf; cases hf; exact .nilP
    | em b p c h => intro y hf; cases hf; exact .em b p c h
    | sl0 p c => intro y hf; cases hf; exact .sl0 p c
    | sl n cs ad c arr el fz hz hb hs' hn hl h1 h ih => intro y hf; cases hf; exact (Rep.sl n cs ad c arr el fz hz hb hs' hn hl h1 h).tr hTr
    | ptr cs off ad base arr el fz hz hb hs' ho hl h1 h ih => intro y hf; cases hf; exact (Rep.ptr cs off ad base arr el fz hz hb hs' ho hl h1 h).tr hTr
    | dead v => intro y hf; cases hf; exact .dead v
  have hTokAt : ∀ {T1 T' : Tok} {b : Nat}, TokAt cx T1 b → RnL t T.g d nx T1.cs T'.cs → TokAt cx' T' b := by
    rintro T1 T' b ⟨arr, el, fz, g1, g2, g3, g4, g5⟩ hr
    obtain ⟨q1, q2⟩ := hr.get
    refine ⟨arr, el, fz, g1, g2, g3, by rw [← q1]; exact g4, fun j x v hx hv => ?_⟩
    have hj : j < T1.cs.length := by rw [q1]; exact (List.getElem?_eq_some_iff.1 hx).1
    exact hfr (g5 j _ v (List.getElem?_eq_getElem hj) hv) (q2 j _ x (List.getElem?_eq_getElem hj) hx)
  refine ⟨cx', rfl, { h := hs.h, tk := rfl, size := hs.size, defers := hs.defers, env := fun i hi => ?_, none_ := fun i T' e1 e2 => ?_, row := fun i T' b e1 e2 => ?_, stamp := fun i T' e => ?_, inj := fun i j Ta Tb b e1 e2 e3 e4 => ?_, apart := fun i T' b e1 e2 hz => ?_, free := fun i T' b e1 e2 hpr => ?_, Zlt := hs.Zlt, tr := hs.tr.trans hTr, Z0 := hs.Z0, Znew := hs.Znew, os := hs.os, tape := hs.tape, output := hs.output, grow := hs.grow, prot := hs.prot }⟩
  · rcases rnE_get hE i with h0 | h0
    · show Rep cx' (lkE l' i) _
      rw [h0]; exact .dead _
    · exact hfr (hs.env i hi) h0
  · rcases hcase i T' e1 with ⟨q1, q2, q3, q4, q5⟩ | ⟨q1, q2, q3, T1, q4, q5, q6, q7⟩
    · rw [q5] at e2
      have := hs.none_ t T hTt e2
      have hl := q4.get.1
      rw [this] at hl
      exact List.eq_nil_of_length_eq_zero hl.symm
    · rw [q3] at e2
      have := hs.none_ i T1 q4 e2
      have hl := q7.get.1
      rw [this] at hl
      exact List.eq_nil_of_length_eq_zero hl.symm
  · rcases hcase i T' e1 with ⟨q1, q2, q3, q4, q5⟩ | ⟨q1, q2, q3, T1, q4, q5, q6, q7⟩
    · rw [q5] at e2; exact hTokAt (hs.row t T b hTt e2) q4
    · rw [q3] at e2; exact hTokAt (hs.row i T1 b q4 e2) q7
  · rcases hcase i T' e with ⟨q1, q2, q3, q4, q5⟩ | ⟨q1, q2, q3, T1, q4, q5, q6, q7⟩
    · show T'.g < nx + 1; omega
    · have := hTr.U _ (hs.stamp i T1 q4)
      rw [← q5]; exact this
  · rcases hcase i Ta e1 with ⟨q1, _, _, _, q5⟩ | ⟨q1, q2, q3, T1, q4, _⟩ <;> rcases hcase j Tb e2 with ⟨r1, _, _, _, r5⟩ | ⟨r1, r2, r3, T2, r4, _⟩
    · rw [q1, r1]
    · rw [q5] at e3; rw [r3] at e4
      exact absurd (hs.inj t j T T2 b hTt r4 e3 e4).symm r1
    · rw [q3] at e3; rw [r5] at e4
      exact absurd (hs.inj i t T1 T b q4 hTt e3 e4) q1
    · rw [q3] at e3; rw [r3] at e4
      exact hs.inj i j T1 T2 b q4 r4 e3 e4
  · rcases hcase i T' e1 with ⟨q1, _, _, _, q5⟩ | ⟨q1, q2, q3, T1, q4, _⟩
    · rw [q5] at e2; exact hs.apart t T b hTt e2 hz
    · rw [q3] at e2; exact hs.apart i T1 b q4 e2 hz
  · rcases hcase i T' e1 with ⟨q1, _, _, _, q5⟩ | ⟨q1, q2, q3, T1, q4, _⟩
    · rw [q5] at e2; exact hs.free t T b hTt e2 hpr
    · rw [q3] at e2; exact hs.free i T1 b q4 e2 hpr
end Go.Eng
