/- GFa: the texts FldP, FldA, FldB, FldC, FldD, FldE, FldF, one behind the other. -/
import Derived.Test.YteapibifebnboaaGDa
import Derived.Test.YteapibifebnboaaGEc
set_option linter.unusedVariables false
set_option linter.unusedSimpArgs false

/- field: what the functions compute, as plain lists; no program in sight. -/
set_option linter.unusedVariables false
set_option linter.unusedSimpArgs false
namespace Go.Proofs.Yteapibifebnboaa
open Go Go.Eng
def freeB (c : Int) : Bool := decide (c ≠ 29) && decide (c ≠ 30) && decide (c ≠ 31)
def codeB (c : Int) : Bool := decide (32 < c) && decide (c ≤ 126)
def indB (c : Int) : Bool := decide (32 ≤ c) && decide (c ≤ 126)
/-- The first byte that is not free; -1: there is none. -/
def badFrom : List Int → Nat → Int
  | [], _ => -1
  | c :: t, i => if freeB c = true then badFrom t (i + 1) else i
theorem badFrom_drop {l : List Int} {i : Nat} (h : i < l.length) : badFrom (l.drop i) i = if freeB (l.getD i 0) = true then badFrom (l.drop (i + 1)) (i + 1) else i := by
  rw [List.drop_eq_getElem_cons h, badFrom, List.getD_eq_getElem?_getD, List.getElem?_eq_getElem h]; rfl
theorem badFrom_range : ∀ (l : List Int) (i : Nat), badFrom l i = -1 ∨ ((i : Int) ≤ badFrom l i ∧ badFrom l i < i + l.length)
  | [], _ => .inl rfl
  | c :: t, i => by
    unfold badFrom
    split
    · rcases badFrom_range t (i + 1) with h | h
      · exact .inl h
      · exact .inr ⟨by omega, by rw [List.length_cons]; omega⟩
    · exact .inr ⟨by omega, by rw [List.length_cons]; omega⟩
abbrev SubV := Int × List Int
def sCells (s : SubV) : List AV := [.int .u8 s.1, .sl s.2.length (u8s s.2)]
def subCells (L : List SubV) : List AV := L.flatMap sCells
structure FV where
  tag : List Int
  text : List Int
  i0 : Int
  i1 : Int
  subs : List SubV
def fCells (f : FV) : List AV := [.str f.tag, .sl f.text.length (u8s f.text), .int .u8 f.i0, .int .u8 f.i1, .sl f.subs.length (subCells f.subs)]
def zeroF : FV := ⟨[], [], 0, 0, []⟩
/-- The subfield that bytes begin with: its code, its text, its bytes' number (-1: none), where it is none. -/
def oneOf (l : List Int) : Int × List Int × Int × Int :=
  if l.length < 1 ∨ l.getD 0 0 ≠ 31 then (0, [], -1, 0)
  else if l.length < 2 ∨ codeB (l.getD 1 0) = false then (0, [], -1, 1)
  else (l.getD 1 0, (l.drop 2).takeWhile freeB, (2 + ((l.drop 2).takeWhile freeB).length : Nat), 0)
/-- The subfields from 'at' on: where they are none (-1: they are), and they. -/
def subsP : Nat → List Int → Nat → Int × List SubV
  | 0, _, _ => (-1, [])
  | k + 1, rest, at_ =>
    let o := oneOf rest
    if o.2.2.1 < 0 then ((at_ : Int) + o.2.2.2, [])
    else if rest.length ≤ o.2.2.1.toNat then (-1, [(o.1, o.2.1)])
    else
      let r := subsP k (rest.drop o.2.2.1.toNat) (at_ + o.2.2.1.toNat)
      (r.1, (o.1, o.2.1) :: r.2)
def ctl (tag : List Int) : Bool := List.isPrefixOf [48, 48] tag
/-- The field of some bytes, or where they are none. -/
def fparse (tag b : List Int) : Sum Int FV :=
  if goodTag tag = false then .inl 0
  else if ctl tag = true then (if badFrom b 0 < 0 then .inr ⟨tag, b, 0, 0, []⟩ else .inl (badFrom b 0))
  else if b.length < 1 ∨ indB (b.getD 0 0) = false then .inl 0
  else if b.length < 2 ∨ indB (b.getD 1 0) = false then .inl 1
  else if (subsP (b.length + 1) (b.drop 2) 2).1 < 0 then .inr ⟨tag, [], b.getD 0 0, b.getD 1 0, (subsP (b.length + 1) (b.drop 2) 2).2⟩
  else .inl (subsP (b.length + 1) (b.drop 2) 2).1
def fres : Sum Int FV → AV
  | .inl a => .tup [.agg (fCells zeroF), .agg [.int .i64 12, .int .i64 a]]
  | .inr f => .tup [.agg (fCells f), .agg [.int .i64 0, .int .i64 0]]
theorem takeWhile_eq {p : Int → Bool} : ∀ {m : List Int} {k : Nat}, k ≤ m.length → (∀ c ∈ m.take k, p c = true) → (k = m.length ∨ p (m.getD k 0) = false) → m.takeWhile p = m.take k
  | [], k, hk, _, _ => by simp
  | c :: m, 0, hk, _, h => by
    rcases h with h | h
    · simp at h
    · simp only [List.getD_cons_zero] at h; simp [h]
  | c :: m, k + 1, hk, ha, h => by
    have hc : p c = true := ha c (by simp)
    rw [List.takeWhile_cons_of_pos hc, List.take_succ_cons, takeWhile_eq (k := k) (by simpa using hk) (fun d hd => ha d (by rw [List.take_succ_cons]; exact List.mem_cons_of_mem _ hd)) (by simpa using h)]
/-! ### Cells -/
theorem sub_tup {cs ds : List AV} (h : SubL cs ds) : Sub (.tup cs) (.tup ds) := .tup cs ds h.get.1 h.get.2
theorem sub_agg {cs ds : List AV} (h : SubL cs ds) : Sub (.agg cs) (.agg ds) := .agg cs ds h.get.1 h.get.2
theorem subCells_closed : ∀ L, closedL (subCells L) = true
  | [] => rfl
  | s :: L => by
    have := subCells_closed L
    show closedL (sCells s ++ subCells L) = true
    simp only [sCells, List.cons_append, List.nil_append, closedL, AV.closed, u8s_closed, Bool.and_true, Bool.true_and]
    exact this
theorem subCells_length : ∀ L : List SubV, (subCells L).length = L.length * 2
  | [] => rfl
  | s :: L => by
    show (sCells s ++ subCells L).length = _
    rw [List.length_append, subCells_length L, List.length_cons]; simp [sCells]; omega
theorem subCells_snoc (L : List SubV) (s : SubV) : subCells (L ++ [s]) = subCells L ++ sCells s := by simp [subCells]
end Go.Proofs.Yteapibifebnboaa

/- field: bytes, the first that is not free, copies, faults. -/
set_option linter.unusedVariables false
set_option linter.unusedSimpArgs false
namespace Go.Proofs.Yteapibifebnboaa
open Go Go.Eng
set_option maxRecDepth 100000 in
theorem Free_c (c : Int) : ACall Try.prog 65 [.int .u8 c] (.bool (freeB c)) none := by
  refine acall_intro none Try.func65 rfl (by kernel_rfl) (by simp [Try.f65]) ?_
  refine ex_run 30 ?_
  by_cases h1 : c = 29
  · simp (maxSteps := 200000) only [Try.f65, h1, push_cast, List.getD_cons_zero, List.getD_cons_succ, List.take_succ_cons, List.take_zero, List.drop_succ_cons, Nat.reduceLT, Nat.reduceLeDiff, Nat.reduceEqDiff, Nat.reduceAdd, Nat.reduceMul, Nat.reduceSub, Int.reduceToNat, Int.reduceLE, Int.reduceLT, Int.reduceEq, Int.reduceAdd, ↓reduceIte, decide_true, decide_false, and_self]
    exact ⟨_, _, rfl, rfl, .of_eq (by simp [freeB, pack, mkS_env, lkF]), rfl⟩
  · by_cases h2 : c = 30
    · simp (maxSteps := 200000) only [Try.f65, h1, h2, push_cast, List.getD_cons_zero, List.getD_cons_succ, List.take_succ_cons, List.take_zero, List.drop_succ_cons, Nat.reduceLT, Nat.reduceLeDiff, Nat.reduceEqDiff, Nat.reduceAdd, Nat.reduceMul, Nat.reduceSub, Int.reduceToNat, Int.reduceLE, Int.reduceLT, Int.reduceEq, Int.reduceAdd, ↓reduceIte, decide_true, decide_false, and_self]
      exact ⟨_, _, rfl, rfl, .of_eq (by simp [freeB, pack, mkS_env, lkF]), rfl⟩
    · simp (maxSteps := 200000) only [Try.f65, h1, h2, push_cast, List.getD_cons_zero, List.getD_cons_succ, List.take_succ_cons, List.take_zero, List.drop_succ_cons, Nat.reduceLT, Nat.reduceLeDiff, Nat.reduceEqDiff, Nat.reduceAdd, Nat.reduceMul, Nat.reduceSub, Int.reduceToNat, Int.reduceLE, Int.reduceLT, Int.reduceEq, Int.reduceAdd, ↓reduceIte, decide_true, decide_false, and_self]
      exact ⟨_, _, rfl, rfl, .of_eq (by simp [freeB, pack, mkS_env, lkF, h1, h2]), rfl⟩
set_option maxRecDepth 100000 in
theorem bad1_c (c : Int) : ACall Try.prog 75 [.int .u8 c] (.bool (!freeB c)) none := by
  refine acall_intro none Try.func75 rfl (by kernel_rfl) (by simp [Try.f75]) ?_
  refine ex_run 30 ?_
  simp (maxSteps := 200000) only [Try.f75, push_cast, List.getD_cons_zero, List.getD_cons_succ, List.take_succ_cons, List.take_zero, List.drop_succ_cons, Nat.reduceLT, Nat.reduceLeDiff, Nat.reduceEqDiff, Nat.reduceAdd, Nat.reduceMul, Nat.reduceSub, Int.reduceToNat, Int.reduceLE, Int.reduceLT, Int.reduceEq, Int.reduceAdd, ↓reduceIte, decide_true, decide_false, and_self]
  refine call_intro (Free_c c) (fun h => by cases h) ?_
  simp (maxSteps := 200000) only [push_cast, List.getD_cons_zero, List.getD_cons_succ, List.take_succ_cons, List.take_zero, List.drop_succ_cons, Nat.reduceLT, Nat.reduceLeDiff, Nat.reduceEqDiff, Nat.reduceAdd, Nat.reduceMul, Nat.reduceSub, Int.reduceToNat, Int.reduceLE, Int.reduceLT, Int.reduceEq, Int.reduceAdd, ↓reduceIte, decide_true, decide_false, and_self]
  exact ⟨_, _, rfl, rfl, .refl _, rfl⟩
set_option maxRecDepth 100000 in
theorem IndexFunc_c (l : List Int) (hl : l.length ≤ 9223372036854775807) : ACall Try.prog 74 [.sl l.length (u8s l), .fn 75 []] (.int .i64 (badFrom l 0)) none := by
  refine acall_intro none Try.func74 rfl (by kernel_rfl) (by simp [Try.f74]) ?_
  refine ex_run 30 ?_
  simp (maxSteps := 200000) only [Try.f74, push_cast, List.getD_cons_zero, List.getD_cons_succ, List.take_succ_cons, List.take_zero, List.drop_succ_cons, Nat.reduceLT, Nat.reduceLeDiff, Nat.reduceEqDiff, Nat.reduceAdd, Nat.reduceMul, Nat.reduceSub, Int.reduceToNat, Int.reduceLE, Int.reduceLT, Int.reduceEq, Int.reduceAdd, ↓reduceIte, decide_true, decide_false, and_self]
  refine run_keep (l' := [(0, .sl l.length (u8s l)), (1, .fn 75 []), (7, .int .i64 l.length), (8, .int .i64 0)]) (t' := []) (nx' := _) ⟨.refl _, .refl _, .refl _, .refl _, trivial⟩ trivial (Nat.le_refl _) ?_
  refine run_loop (fun n s => ∃ (i nx : Nat), i ≤ l.length ∧ n = l.length - i ∧ badFrom l 0 = badFrom (l.drop i) i ∧ s = mkS [(0, .sl l.length (u8s l)), (1, .fn 75 []), (7, .int .i64 l.length), (8, .int .i64 i)] [] nx) _ ⟨0, _, Nat.zero_le _, rfl, rfl, rfl⟩ ?_
  rintro n s ⟨i, nx, hi, rfl, hb, rfl⟩
  by_cases h : i < l.length
  · have hg := u8s_getD l i h
    have hpos : 0 < l.length := by omega
    have hw : IntKind.i64.wrap ((i : Int) + 1) = ((i + 1 : Nat) : Int) := by rw [wrap_i64 (by omega)]; omega
    rw [badFrom_drop h] at hb
    generalize l.getD i 0 = c at *
    refine ex_run 30 ?_
    simp (maxSteps := 200000) only [h, hg, hpos, push_cast, List.getD_cons_zero, List.getD_cons_succ, List.take_succ_cons, List.take_zero, List.drop_succ_cons, Nat.reduceLT, Nat.reduceLeDiff, Nat.reduceEqDiff, Nat.reduceAdd, Nat.reduceMul, Nat.reduceSub, Int.reduceToNat, Int.reduceLE, Int.reduceLT, Int.reduceEq, Int.reduceAdd, ↓reduceIte, decide_true, decide_false, and_self]
    refine call_intro (bad1_c c) (fun h => by cases h) ?_
    generalize freeB c = q at *
    cases q
    · simp (maxSteps := 200000) only [push_cast, List.getD_cons_zero, List.getD_cons_succ, List.take_succ_cons, List.take_zero, List.drop_succ_cons, Nat.reduceLT, Nat.reduceLeDiff, Nat.reduceEqDiff, Nat.reduceAdd, Nat.reduceMul, Nat.reduceSub, Int.reduceToNat, Int.reduceLE, Int.reduceLT, Int.reduceEq, Int.reduceAdd, ↓reduceIte, decide_true, decide_false, and_self]
      exact ⟨_, _, rfl, rfl, .of_eq (by rw [hb]; rfl), rfl⟩
    · simp (maxSteps := 200000) only [hw, push_cast, List.getD_cons_zero, List.getD_cons_succ, List.take_succ_cons, List.take_zero, List.drop_succ_cons, Nat.reduceLT, Nat.reduceLeDiff, Nat.reduceEqDiff, Nat.reduceAdd, Nat.reduceMul, Nat.reduceSub, Int.reduceToNat, Int.reduceLE, Int.reduceLT, Int.reduceEq, Int.reduceAdd, ↓reduceIte, decide_true, decide_false, and_self]
      refine run_back_le (le_mk (l' := [(0, .sl l.length (u8s l)), (1, .fn 75 []), (7, .int .i64 l.length), (8, .int .i64 ((i + 1 : Nat) : Int))]) (t' := []) (nx' := _) ⟨.refl _, .refl _, .refl _, .of_eq (congrArg (AV.int .i64) (by omega)), trivial⟩ trivial (Nat.le_refl _)) ?_
      exact ⟨l.length - (i + 1), by omega, i + 1, _, by omega, rfl, by rw [hb]; rfl, rfl⟩
  · refine ex_run 30 ?_
    simp (maxSteps := 200000) only [h, push_cast, List.getD_cons_zero, List.getD_cons_succ, List.take_succ_cons, List.take_zero, List.drop_succ_cons, Nat.reduceLT, Nat.reduceLeDiff, Nat.reduceEqDiff, Nat.reduceAdd, Nat.reduceMul, Nat.reduceSub, Int.reduceToNat, Int.reduceLE, Int.reduceLT, Int.reduceEq, Int.reduceAdd, ↓reduceIte, decide_true, decide_false, and_self]
    have e : badFrom l 0 = -1 := by rw [hb, List.drop_of_length_le (by omega)]; rfl
    exact ⟨_, _, rfl, rfl, .of_eq (by rw [e]; rfl), rfl⟩
set_option maxRecDepth 100000 in
theorem bad_c (l : List Int) (hl : l.length ≤ 9223372036854775807) : ACall Try.prog 63 [.sl l.length (u8s l)] (.int .i64 (badFrom l 0)) none := by
  refine acall_intro none Try.func63 rfl (by kernel_rfl) (by simp [Try.f63]) ?_
  refine ex_run 30 ?_
  simp (maxSteps := 200000) only [Try.f63, push_cast, List.getD_cons_zero, List.getD_cons_succ, List.take_succ_cons, List.take_zero, List.drop_succ_cons, Nat.reduceLT, Nat.reduceLeDiff, Nat.reduceEqDiff, Nat.reduceAdd, Nat.reduceMul, Nat.reduceSub, Int.reduceToNat, Int.reduceLE, Int.reduceLT, Int.reduceEq, Int.reduceAdd, ↓reduceIte, decide_true, decide_false, and_self]
  refine call_intro (IndexFunc_c l hl) (fun h => by cases h) ?_
  simp (maxSteps := 200000) only [push_cast, List.getD_cons_zero, List.getD_cons_succ, List.take_succ_cons, List.take_zero, List.drop_succ_cons, Nat.reduceLT, Nat.reduceLeDiff, Nat.reduceEqDiff, Nat.reduceAdd, Nat.reduceMul, Nat.reduceSub, Int.reduceToNat, Int.reduceLE, Int.reduceLT, Int.reduceEq, Int.reduceAdd, ↓reduceIte, decide_true, decide_false, and_self]
  exact ⟨_, _, rfl, rfl, .refl _, rfl⟩
set_option maxRecDepth 100000 in
theorem Clone_c (l : List Int) (hl : l.length ≤ 140737488355328) : ACall Try.prog 51 [.sl l.length (u8s l)] (.sl l.length (u8s l)) none := by
  refine acall_intro none Try.func51 rfl (by kernel_rfl) (by simp [Try.f51]) ?_
  by_cases h0 : l = []
  · subst h0
    refine run_split 0 rfl ?_ ?_
    · refine ex_run 30 ?_
      simp (maxSteps := 200000) only [Try.f51, isNilS, eqOf, push_cast, List.getD_cons_zero, List.getD_cons_succ, List.take_succ_cons, List.take_zero, List.drop_succ_cons, Nat.reduceLT, Nat.reduceLeDiff, Nat.reduceEqDiff, Nat.reduceAdd, Nat.reduceMul, Nat.reduceSub, Int.reduceToNat, Int.reduceLE, Int.reduceLT, Int.reduceEq, Int.reduceAdd, ↓reduceIte, decide_true, decide_false, and_self]
      exact ⟨_, _, rfl, rfl, .nil, rfl⟩
    · refine ex_run 5 ?_
      simp (maxSteps := 200000) only [Try.f51, isNilS, eqOf, push_cast, List.getD_cons_zero, List.getD_cons_succ, List.take_succ_cons, List.take_zero, List.drop_succ_cons, Nat.reduceLT, Nat.reduceLeDiff, Nat.reduceEqDiff, Nat.reduceAdd, Nat.reduceMul, Nat.reduceSub, Int.reduceToNat, Int.reduceLE, Int.reduceLT, Int.reduceEq, Int.reduceAdd, ↓reduceIte, decide_true, decide_false, and_self]
      refine run_keep (l' := [(0, .sl 0 []), (4, .bool false), (2, .nilS)]) (t' := []) (nx' := _) ⟨.em _, .refl _, .refl _, trivial⟩ trivial (Nat.le_refl _) ?_
      refine ex_run 30 ?_
      simp (maxSteps := 200000) only [push_cast, List.getD_cons_zero, List.getD_cons_succ, List.take_succ_cons, List.take_zero, List.drop_succ_cons, Nat.reduceLT, Nat.reduceLeDiff, Nat.reduceEqDiff, Nat.reduceAdd, Nat.reduceMul, Nat.reduceSub, Int.reduceToNat, Int.reduceLE, Int.reduceLT, Int.reduceEq, Int.reduceAdd, ↓reduceIte, decide_true, decide_false, and_self]
      exact ⟨_, [.sl 0 []], rfl, by simp [outA, outV, outC, mkS_env, mkS_tk, lkF, lkG, closedL], .refl _, rfl⟩
  · have hn : ¬ l.length = 0 := fun e => h0 (List.eq_nil_of_length_eq_zero e)
    refine ex_run 30 ?_
    simp (maxSteps := 200000) only [Try.f51, isNilS, eqOf, hn, push_cast, List.getD_cons_zero, List.getD_cons_succ, List.take_succ_cons, List.take_zero, List.drop_succ_cons, Nat.reduceLT, Nat.reduceLeDiff, Nat.reduceEqDiff, Nat.reduceAdd, Nat.reduceMul, Nat.reduceSub, Int.reduceToNat, Int.reduceLE, Int.reduceLT, Int.reduceEq, Int.reduceAdd, ↓reduceIte, decide_true, decide_false, and_self]
    refine ⟨⟨by omega, by omega⟩, ?_⟩
    exact ⟨_, [.sl l.length (u8s l)], rfl, by simp [outA, outV, outC, mkS_env, mkS_tk, lkF, lkG, u8s_closed, u8s_take], .refl _, rfl⟩
end Go.Proofs.Yteapibifebnboaa

/- field: codes, indicators, faults, control fields. -/
set_option linter.unusedVariables false
set_option linter.unusedSimpArgs false
namespace Go.Proofs.Yteapibifebnboaa
open Go Go.Eng
set_option maxRecDepth 100000 in
theorem Code_c (c : Int) : ACall Try.prog 64 [.int .u8 c] (.bool (codeB c)) none := by
  refine acall_intro none Try.func64 rfl (by kernel_rfl) (by simp [Try.f64]) ?_
  refine ex_run 30 ?_
  by_cases h1 : 32 < c
  · simp (maxSteps := 200000) only [Try.f64, h1, push_cast, List.getD_cons_zero, List.getD_cons_succ, List.take_succ_cons, List.take_zero, List.drop_succ_cons, Nat.reduceLT, Nat.reduceLeDiff, Nat.reduceEqDiff, Nat.reduceAdd, Nat.reduceMul, Nat.reduceSub, Int.reduceToNat, Int.reduceLE, Int.reduceLT, Int.reduceEq, Int.reduceAdd, ↓reduceIte, decide_true, decide_false, and_self]
    exact ⟨_, _, rfl, rfl, .of_eq (by simp [codeB, pack, mkS_env, lkF, h1]), rfl⟩
  · simp (maxSteps := 200000) only [Try.f64, h1, push_cast, List.getD_cons_zero, List.getD_cons_succ, List.take_succ_cons, List.take_zero, List.drop_succ_cons, Nat.reduceLT, Nat.reduceLeDiff, Nat.reduceEqDiff, Nat.reduceAdd, Nat.reduceMul, Nat.reduceSub, Int.reduceToNat, Int.reduceLE, Int.reduceLT, Int.reduceEq, Int.reduceAdd, ↓reduceIte, decide_true, decide_false, and_self]
    exact ⟨_, _, rfl, rfl, .of_eq (by simp [codeB, pack, mkS_env, lkF, h1]), rfl⟩
set_option maxRecDepth 100000 in
theorem Ind_c (c : Int) : ACall Try.prog 48 [.int .u8 c] (.bool (indB c)) none := by
  refine acall_intro none Try.func48 rfl (by kernel_rfl) (by simp [Try.f48]) ?_
  refine ex_run 30 ?_
  by_cases h1 : 32 ≤ c
  · simp (maxSteps := 200000) only [Try.f48, h1, push_cast, List.getD_cons_zero, List.getD_cons_succ, List.take_succ_cons, List.take_zero, List.drop_succ_cons, Nat.reduceLT, Nat.reduceLeDiff, Nat.reduceEqDiff, Nat.reduceAdd, Nat.reduceMul, Nat.reduceSub, Int.reduceToNat, Int.reduceLE, Int.reduceLT, Int.reduceEq, Int.reduceAdd, ↓reduceIte, decide_true, decide_false, and_self]
    exact ⟨_, _, rfl, rfl, .of_eq (by simp [indB, pack, mkS_env, lkF, h1]), rfl⟩
  · simp (maxSteps := 200000) only [Try.f48, h1, push_cast, List.getD_cons_zero, List.getD_cons_succ, List.take_succ_cons, List.take_zero, List.drop_succ_cons, Nat.reduceLT, Nat.reduceLeDiff, Nat.reduceEqDiff, Nat.reduceAdd, Nat.reduceMul, Nat.reduceSub, Int.reduceToNat, Int.reduceLE, Int.reduceLT, Int.reduceEq, Int.reduceAdd, ↓reduceIte, decide_true, decide_false, and_self]
    exact ⟨_, _, rfl, rfl, .of_eq (by simp [indB, pack, mkS_env, lkF, h1]), rfl⟩
set_option maxRecDepth 100000 in
theorem fault_c (a : Int) : ACall Try.prog 46 [.int .i64 a] (.agg [.int .i64 12, .int .i64 a]) none := by
  refine acall_intro none Try.func46 rfl (by kernel_rfl) (by simp [Try.f46]) ?_
  refine ex_run 30 ?_
  simp (maxSteps := 200000) only [Try.f46, push_cast, List.getD_cons_zero, List.getD_cons_succ, List.take_succ_cons, List.take_zero, List.drop_succ_cons, Nat.reduceLT, Nat.reduceLeDiff, Nat.reduceEqDiff, Nat.reduceAdd, Nat.reduceMul, Nat.reduceSub, Int.reduceToNat, Int.reduceLE, Int.reduceLT, Int.reduceEq, Int.reduceAdd, ↓reduceIte, decide_true, decide_false, and_self]
  exact ⟨_, _, rfl, rfl, .refl _, rfl⟩
def cres (tag b : List Int) : Sum Int FV := if badFrom b 0 < 0 then .inr ⟨tag, b, 0, 0, []⟩ else .inl (badFrom b 0)
set_option maxRecDepth 100000 in
theorem control_c (tag b : List Int) (hl : b.length ≤ 140737488355328) : ACall Try.prog 47 [.str tag, .sl b.length (u8s b)] (fres (cres tag b)) none := by
  refine acall_intro none Try.func47 rfl (by kernel_rfl) (by simp [Try.f47]) ?_
  refine ex_run 30 ?_
  simp (maxSteps := 200000) only [Try.f47, push_cast, List.getD_cons_zero, List.getD_cons_succ, List.take_succ_cons, List.take_zero, List.drop_succ_cons, Nat.reduceLT, Nat.reduceLeDiff, Nat.reduceEqDiff, Nat.reduceAdd, Nat.reduceMul, Nat.reduceSub, Int.reduceToNat, Int.reduceLE, Int.reduceLT, Int.reduceEq, Int.reduceAdd, ↓reduceIte, decide_true, decide_false, and_self]
  refine call_intro (bad_c b (by omega)) (fun h => by cases h) ?_
  unfold cres
  generalize badFrom b 0 = f
  by_cases h : f < 0
  · have h' : ¬ 0 ≤ f := by omega
    simp (maxSteps := 200000) only [h', push_cast, List.getD_cons_zero, List.getD_cons_succ, List.take_succ_cons, List.take_zero, List.drop_succ_cons, Nat.reduceLT, Nat.reduceLeDiff, Nat.reduceEqDiff, Nat.reduceAdd, Nat.reduceMul, Nat.reduceSub, Int.reduceToNat, Int.reduceLE, Int.reduceLT, Int.reduceEq, Int.reduceAdd, ↓reduceIte, decide_true, decide_false, and_self]
    refine call_intro (Clone_c b hl) (fun h => by cases h) ?_
    simp (maxSteps := 200000) only [push_cast, List.getD_cons_zero, List.getD_cons_succ, List.take_succ_cons, List.take_zero, List.drop_succ_cons, Nat.reduceLT, Nat.reduceLeDiff, Nat.reduceEqDiff, Nat.reduceAdd, Nat.reduceMul, Nat.reduceSub, Int.reduceToNat, Int.reduceLE, Int.reduceLT, Int.reduceEq, Int.reduceAdd, ↓reduceIte, decide_true, decide_false, and_self]
    rw [if_pos h]
    exact ⟨[.agg [.str tag, .sl b.length (u8s b), .int .u8 0, .int .u8 0, .nilS], .agg [.int .i64 0, .int .i64 0]], [.agg [.str tag, .sl b.length (u8s b), .int .u8 0, .int .u8 0, .nilS], .agg [.int .i64 0, .int .i64 0]],
      by kernel_rfl, by simp [outA, outV, outL, outC, AV.closed, closedL, u8s_closed], sub_tup (ds := [.agg (fCells ⟨tag, b, 0, 0, []⟩), .agg [.int .i64 0, .int .i64 0]]) ⟨sub_agg ⟨.refl _, .refl _, .refl _, .refl _, .nil, trivial⟩, .refl _, trivial⟩, rfl⟩
  · have h' : 0 ≤ f := by omega
    simp (maxSteps := 200000) only [h', push_cast, List.getD_cons_zero, List.getD_cons_succ, List.take_succ_cons, List.take_zero, List.drop_succ_cons, Nat.reduceLT, Nat.reduceLeDiff, Nat.reduceEqDiff, Nat.reduceAdd, Nat.reduceMul, Nat.reduceSub, Int.reduceToNat, Int.reduceLE, Int.reduceLT, Int.reduceEq, Int.reduceAdd, ↓reduceIte, decide_true, decide_false, and_self]
    refine call_intro (fault_c f) (fun h => by cases h) ?_
    simp (maxSteps := 200000) only [push_cast, List.getD_cons_zero, List.getD_cons_succ, List.take_succ_cons, List.take_zero, List.drop_succ_cons, Nat.reduceLT, Nat.reduceLeDiff, Nat.reduceEqDiff, Nat.reduceAdd, Nat.reduceMul, Nat.reduceSub, Int.reduceToNat, Int.reduceLE, Int.reduceLT, Int.reduceEq, Int.reduceAdd, ↓reduceIte, decide_true, decide_false, and_self]
    rw [if_neg h]
    exact ⟨[.agg [.str [], .nilS, .int .u8 0, .int .u8 0, .nilS], .agg [.int .i64 12, .int .i64 f]], [.agg [.str [], .nilS, .int .u8 0, .int .u8 0, .nilS], .agg [.int .i64 12, .int .i64 f]],
      by kernel_rfl, by simp [outA, outV, outL, outC, AV.closed], sub_tup (ds := [.agg (fCells zeroF), .agg [.int .i64 12, .int .i64 f]]) ⟨sub_agg ⟨.refl _, .nil, .refl _, .refl _, .nil, trivial⟩, .refl _, trivial⟩, rfl⟩
end Go.Proofs.Yteapibifebnboaa

/- field.one -/
set_option linter.unusedVariables false
set_option linter.unusedSimpArgs false
namespace Go.Proofs.Yteapibifebnboaa
open Go Go.Eng
theorem Clone_n (l : List Int) (n : Nat) (hn : l.length = n) (hl : n ≤ 140737488355328) : ACall Try.prog 51 [.sl n (u8s l)] (.sl n (u8s l)) none := by
  subst hn; exact Clone_c l hl
def oneR (l : List Int) : AV := .tup [.agg (sCells ((oneOf l).1, (oneOf l).2.1)), .int .i64 (oneOf l).2.2.1, .int .i64 (oneOf l).2.2.2]
def onS (l : List Int) (c : Int) (n nx : Nat) : AS := mkS [(0, .sl l.length (u8s l)), (2, .addr 2 0 0), (3, .int .i64 n), (4, .int .i64 0)] [(2, ⟨0, 1, [.int .u8 c, .nilS]⟩)] nx
set_option maxRecDepth 100000 in
set_option maxHeartbeats 4000000 in
theorem one_c (l : List Int) (hl : l.length ≤ 140737488355328) : ACall Try.prog 49 [.sl l.length (u8s l)] (oneR l) none := by
  refine acall_intro none Try.func49 rfl (by kernel_rfl) (by simp [Try.f49]) ?_
  have hbad0 : (l.length < 1 ∨ l.getD 0 0 ≠ 31) → oneR l = .tup [.agg [.int .u8 0, .sl 0 []], .int .i64 (-1), .int .i64 0] := fun h => by
    unfold oneR oneOf; rw [if_pos h]; rfl
  have hbad1 : ¬ (l.length < 1 ∨ l.getD 0 0 ≠ 31) → (l.length < 2 ∨ codeB (l.getD 1 0) = false) → oneR l = .tup [.agg [.int .u8 0, .sl 0 []], .int .i64 (-1), .int .i64 1] := fun h h2 => by
    unfold oneR oneOf; rw [if_neg h, if_pos h2]; rfl
  by_cases h0 : l.length < 1
  · rw [hbad0 (.inl h0)]
    have h0' : (l.length : Int) < 1 := by omega
    refine ex_run 30 ?_
    simp (maxSteps := 200000) only [Try.f49, h0', push_cast, List.getD_cons_zero, List.getD_cons_succ, List.take_succ_cons, List.take_zero, List.drop_succ_cons, Nat.reduceLT, Nat.reduceLeDiff, Nat.reduceEqDiff, Nat.reduceAdd, Nat.reduceMul, Nat.reduceSub, Int.reduceToNat, Int.reduceLE, Int.reduceLT, Int.reduceEq, Int.reduceAdd, ↓reduceIte, decide_true, decide_false, and_self]
    exact ⟨[.agg [.int .u8 0, .nilS], .int .i64 (-1), .int .i64 0], [.agg [.int .u8 0, .nilS], .int .i64 (-1), .int .i64 0], by kernel_rfl, by simp [outA, outV, outL, outC, AV.closed], sub_tup ⟨sub_agg ⟨.refl _, .nil, trivial⟩, .refl _, .refl _, trivial⟩, rfl⟩
  · have h0' : ¬ (l.length : Int) < 1 := by omega
    have h0p : 0 < l.length := by omega
    have g0 := u8s_getD l 0 h0p
    have i0 : (0 : Int) < (l.length : Int) := by omega
    by_cases h1 : l.getD 0 0 = 31
    · have hn0 : ¬ (l.length < 1 ∨ l.getD 0 0 ≠ 31) := fun h => h.elim h0 (fun h => h h1)
      by_cases h2 : l.length < 2
      · rw [hbad1 hn0 (.inl h2)]
        have h2' : (l.length : Int) < 2 := by omega
        refine ex_run 30 ?_
        simp (maxSteps := 200000) only [Try.f49, h0', h0p, i0, g0, h1, h2', push_cast, List.getD_cons_zero, List.getD_cons_succ, List.take_succ_cons, List.take_zero, List.drop_succ_cons, Nat.reduceLT, Nat.reduceLeDiff, Nat.reduceEqDiff, Nat.reduceAdd, Nat.reduceMul, Nat.reduceSub, Int.reduceToNat, Int.reduceLE, Int.reduceLT, Int.reduceEq, Int.reduceAdd, ↓reduceIte, decide_true, decide_false, and_self]
        exact ⟨[.agg [.int .u8 0, .nilS], .int .i64 (-1), .int .i64 1], [.agg [.int .u8 0, .nilS], .int .i64 (-1), .int .i64 1], by kernel_rfl, by simp [outA, outV, outL, outC, AV.closed], sub_tup ⟨sub_agg ⟨.refl _, .nil, trivial⟩, .refl _, .refl _, trivial⟩, rfl⟩
      · have h2' : ¬ (l.length : Int) < 2 := by omega
        have g1 := u8s_getD l 1 (by omega)
        have i1 : (1 : Int) < (l.length : Int) := by omega
        have n1 : 1 < l.length := by omega
        cases hc : codeB (l.getD 1 0) with
        | false =>
          rw [hbad1 hn0 (.inr hc)]
          refine ex_run 30 ?_
          simp (maxSteps := 200000) only [Try.f49, h0', h0p, i0, g0, h1, h2', i1, n1, g1, push_cast, List.getD_cons_zero, List.getD_cons_succ, List.take_succ_cons, List.take_zero, List.drop_succ_cons, Nat.reduceLT, Nat.reduceLeDiff, Nat.reduceEqDiff, Nat.reduceAdd, Nat.reduceMul, Nat.reduceSub, Int.reduceToNat, Int.reduceLE, Int.reduceLT, Int.reduceEq, Int.reduceAdd, ↓reduceIte, decide_true, decide_false, and_self]
          refine call_intro (Code_c _) (fun h => by cases h) ?_
          rw [hc]
          simp (maxSteps := 200000) only [push_cast, List.getD_cons_zero, List.getD_cons_succ, List.take_succ_cons, List.take_zero, List.drop_succ_cons, Nat.reduceLT, Nat.reduceLeDiff, Nat.reduceEqDiff, Nat.reduceAdd, Nat.reduceMul, Nat.reduceSub, Int.reduceToNat, Int.reduceLE, Int.reduceLT, Int.reduceEq, Int.reduceAdd, ↓reduceIte, decide_true, decide_false, and_self]
          exact ⟨[.agg [.int .u8 0, .nilS], .int .i64 (-1), .int .i64 1], [.agg [.int .u8 0, .nilS], .int .i64 (-1), .int .i64 1], by kernel_rfl, by simp [outA, outV, outL, outC, AV.closed], sub_tup ⟨sub_agg ⟨.refl _, .nil, trivial⟩, .refl _, .refl _, trivial⟩, rfl⟩
        | true =>
          refine ex_run 30 ?_
          simp (maxSteps := 200000) only [Try.f49, h0', h0p, i0, g0, h1, h2', i1, n1, g1, push_cast, List.getD_cons_zero, List.getD_cons_succ, List.take_succ_cons, List.take_zero, List.drop_succ_cons, Nat.reduceLT, Nat.reduceLeDiff, Nat.reduceEqDiff, Nat.reduceAdd, Nat.reduceMul, Nat.reduceSub, Int.reduceToNat, Int.reduceLE, Int.reduceLT, Int.reduceEq, Int.reduceAdd, ↓reduceIte, decide_true, decide_false, and_self]
          refine call_intro (Code_c _) (fun h => by cases h) ?_
          rw [hc]
          simp (maxSteps := 200000) only [h0', h0p, i0, g0, h1, h2', i1, n1, g1, push_cast, List.getD_cons_zero, List.getD_cons_succ, List.take_succ_cons, List.take_zero, List.drop_succ_cons, Nat.reduceLT, Nat.reduceLeDiff, Nat.reduceEqDiff, Nat.reduceAdd, Nat.reduceMul, Nat.reduceSub, Int.reduceToNat, Int.reduceLE, Int.reduceLT, Int.reduceEq, Int.reduceAdd, ↓reduceIte, decide_true, decide_false, and_self]
          refine run_keep (l' := [(0, .sl l.length (u8s l)), (2, .addr 2 0 0), (3, .int .i64 2), (4, .int .i64 0)]) (t' := [(2, ⟨0, 1, [.int .u8 (l.getD 1 0), .nilS]⟩)]) (nx' := _) ⟨.refl _, .refl _, .refl _, .refl _, trivial⟩ ⟨⟨_, rfl, rfl, rfl, SubL.refl _⟩, trivial⟩ (Nat.le_refl _) ?_
          refine run_loop (fun v s => ∃ (n nx : Nat), 2 ≤ n ∧ n ≤ l.length ∧ v = l.length - n ∧ (∀ c ∈ (l.drop 2).take (n - 2), freeB c = true) ∧ s = onS l (l.getD 1 0) n nx) _ ⟨2, _, by omega, by omega, rfl, by simp, rfl⟩ ?_
          rintro v s ⟨n, nx, hn2, hnl, rfl, hall, rfl⟩
          unfold onS
          have hk2 : (2 : Int) ≤ (n : Int) := by omega
          have hkl : (n : Int) ≤ (l.length : Int) := by omega
          have hnl' : n ≤ l.length := hnl
          have hml : (List.drop 2 (List.take n l)).length = n - 2 := by simp; omega
          by_cases h3 : n < l.length
          · have gn := u8s_getD l n h3
            have hw : IntKind.i64.wrap ((n : Int) + 1) = ((n + 1 : Nat) : Int) := by rw [wrap_i64 (by omega)]; omega
            refine ex_run 30 ?_
            simp (maxSteps := 200000) only [h3, gn, h0p, push_cast, List.getD_cons_zero, List.getD_cons_succ, List.take_succ_cons, List.take_zero, List.drop_succ_cons, Nat.reduceLT, Nat.reduceLeDiff, Nat.reduceEqDiff, Nat.reduceAdd, Nat.reduceMul, Nat.reduceSub, Int.reduceToNat, Int.reduceLE, Int.reduceLT, Int.reduceEq, Int.reduceAdd, ↓reduceIte, decide_true, decide_false, and_self]
            refine call_intro (Free_c _) (fun h => by cases h) ?_
            cases hf : freeB (l.getD n 0) with
            | true =>
              simp (maxSteps := 200000) only [hw, push_cast, List.getD_cons_zero, List.getD_cons_succ, List.take_succ_cons, List.take_zero, List.drop_succ_cons, Nat.reduceLT, Nat.reduceLeDiff, Nat.reduceEqDiff, Nat.reduceAdd, Nat.reduceMul, Nat.reduceSub, Int.reduceToNat, Int.reduceLE, Int.reduceLT, Int.reduceEq, Int.reduceAdd, ↓reduceIte, decide_true, decide_false, and_self]
              refine run_back_le (le_mk (l' := [(0, .sl l.length (u8s l)), (2, .addr 2 0 0), (3, .int .i64 ((n + 1 : Nat) : Int)), (4, .int .i64 0)]) (t' := [(2, ⟨0, 1, [.int .u8 (l.getD 1 0), .nilS]⟩)]) (nx' := _) ⟨.refl _, .refl _, .of_eq (congrArg (AV.int .i64) (by omega)), .refl _, trivial⟩ ⟨⟨_, rfl, rfl, rfl, SubL.refl _⟩, trivial⟩ (Nat.le_refl _)) ?_
              refine ⟨l.length - (n + 1), by omega, n + 1, _, by omega, by omega, rfl, ?_, rfl⟩
              rw [show n + 1 - 2 = (n - 2) + 1 by omega]
              refine take_succ_all (by rw [List.length_drop]; omega) hall ?_
              rw [List.getD_eq_getElem?_getD, List.getElem?_drop, show 2 + (n - 2) = n by omega, ← List.getD_eq_getElem?_getD]; exact hf
            | false =>
              have hmid : oneR l = .tup [.agg [.int .u8 (l.getD 1 0), .sl (n - 2) (u8s (List.drop 2 (List.take n l)))], .int .i64 n, .int .i64 0] := by
                have htw : (l.drop 2).takeWhile freeB = (l.drop 2).take (n - 2) := takeWhile_eq (by rw [List.length_drop]; omega) hall (.inr (by rw [List.getD_eq_getElem?_getD, List.getElem?_drop, show 2 + (n - 2) = n by omega, ← List.getD_eq_getElem?_getD]; exact hf))
                have hdt : List.drop 2 (List.take n l) = (l.drop 2).take (n - 2) := List.drop_take
                have hlen : ((l.drop 2).take (n - 2)).length = n - 2 := by rw [List.length_take, List.length_drop]; omega
                unfold oneR oneOf
                rw [if_neg hn0, if_neg (fun h => h.elim h2 (fun h => by rw [hc] at h; cases h)), htw, hdt]
                simp only [sCells, hlen]
                congr 3
                simp only [List.cons.injEq, AV.int.injEq, true_and, and_true]
                omega
              simp (maxSteps := 200000) only [h3, gn, h0p, hk2, hkl, hnl', push_cast, List.getD_cons_zero, List.getD_cons_succ, List.take_succ_cons, List.take_zero, List.drop_succ_cons, Nat.reduceLT, Nat.reduceLeDiff, Nat.reduceEqDiff, Nat.reduceAdd, Nat.reduceMul, Nat.reduceSub, Int.reduceToNat, Int.reduceLE, Int.reduceLT, Int.reduceEq, Int.reduceAdd, ↓reduceIte, decide_true, decide_false, and_self]
              refine call_intro (Clone_n _ (n - 2) hml (by omega)) (fun h => by cases h) ?_
              simp (maxSteps := 200000) only [push_cast, List.getD_cons_zero, List.getD_cons_succ, List.take_succ_cons, List.take_zero, List.drop_succ_cons, Nat.reduceLT, Nat.reduceLeDiff, Nat.reduceEqDiff, Nat.reduceAdd, Nat.reduceMul, Nat.reduceSub, Int.reduceToNat, Int.reduceLE, Int.reduceLT, Int.reduceEq, Int.reduceAdd, ↓reduceIte, decide_true, decide_false, and_self]
              rw [hmid]
              generalize List.drop 2 (List.take n l) = m at hml ⊢
              exact ⟨[.agg [.int .u8 (l.getD 1 0), .sl (n - 2) (u8s m)], .int .i64 n, .int .i64 0], [.agg [.int .u8 (l.getD 1 0), .sl (n - 2) (u8s m)], .int .i64 n, .int .i64 0], by kernel_rfl, by simp [outA, outV, outL, outC, AV.closed, u8s_closed], .refl _, rfl⟩
          · have hne : n = l.length := by omega
            have hmid : oneR l = .tup [.agg [.int .u8 (l.getD 1 0), .sl (n - 2) (u8s (List.drop 2 (List.take n l)))], .int .i64 n, .int .i64 0] := by
              have htw : (l.drop 2).takeWhile freeB = (l.drop 2).take (n - 2) := takeWhile_eq (by rw [List.length_drop]; omega) hall (.inl (by rw [List.length_drop]; omega))
              have hdt : List.drop 2 (List.take n l) = (l.drop 2).take (n - 2) := List.drop_take
              have hlen : ((l.drop 2).take (n - 2)).length = n - 2 := by rw [List.length_take, List.length_drop]; omega
              unfold oneR oneOf
              rw [if_neg hn0, if_neg (fun h => h.elim h2 (fun h => by rw [hc] at h; cases h)), htw, hdt]
              simp only [sCells, hlen]
              congr 3
              simp only [List.cons.injEq, AV.int.injEq, true_and, and_true]
              omega
            refine ex_run 30 ?_
            simp (maxSteps := 200000) only [h3, h0p, hk2, hkl, hnl', push_cast, List.getD_cons_zero, List.getD_cons_succ, List.take_succ_cons, List.take_zero, List.drop_succ_cons, Nat.reduceLT, Nat.reduceLeDiff, Nat.reduceEqDiff, Nat.reduceAdd, Nat.reduceMul, Nat.reduceSub, Int.reduceToNat, Int.reduceLE, Int.reduceLT, Int.reduceEq, Int.reduceAdd, ↓reduceIte, decide_true, decide_false, and_self]
            refine call_intro (Clone_n _ (n - 2) hml (by omega)) (fun h => by cases h) ?_
            simp (maxSteps := 200000) only [push_cast, List.getD_cons_zero, List.getD_cons_succ, List.take_succ_cons, List.take_zero, List.drop_succ_cons, Nat.reduceLT, Nat.reduceLeDiff, Nat.reduceEqDiff, Nat.reduceAdd, Nat.reduceMul, Nat.reduceSub, Int.reduceToNat, Int.reduceLE, Int.reduceLT, Int.reduceEq, Int.reduceAdd, ↓reduceIte, decide_true, decide_false, and_self]
            rw [hmid]
            generalize List.drop 2 (List.take n l) = m at hml ⊢
            exact ⟨[.agg [.int .u8 (l.getD 1 0), .sl (n - 2) (u8s m)], .int .i64 n, .int .i64 0], [.agg [.int .u8 (l.getD 1 0), .sl (n - 2) (u8s m)], .int .i64 n, .int .i64 0], by kernel_rfl, by simp [outA, outV, outL, outC, AV.closed, u8s_closed], .refl _, rfl⟩
    · rw [hbad0 (.inr h1)]
      refine ex_run 30 ?_
      simp (maxSteps := 200000) only [Try.f49, h0', h0p, i0, g0, h1, push_cast, List.getD_cons_zero, List.getD_cons_succ, List.take_succ_cons, List.take_zero, List.drop_succ_cons, Nat.reduceLT, Nat.reduceLeDiff, Nat.reduceEqDiff, Nat.reduceAdd, Nat.reduceMul, Nat.reduceSub, Int.reduceToNat, Int.reduceLE, Int.reduceLT, Int.reduceEq, Int.reduceAdd, ↓reduceIte, decide_true, decide_false, and_self]
      exact ⟨[.agg [.int .u8 0, .nilS], .int .i64 (-1), .int .i64 0], [.agg [.int .u8 0, .nilS], .int .i64 (-1), .int .i64 0], by kernel_rfl, by simp [outA, outV, outL, outC, AV.closed], sub_tup ⟨sub_agg ⟨.refl _, .nil, trivial⟩, .refl _, .refl _, trivial⟩, rfl⟩
end Go.Proofs.Yteapibifebnboaa

/- field.Parse -/
set_option linter.unusedVariables false
set_option linter.unusedSimpArgs false
namespace Go.Proofs.Yteapibifebnboaa
open Go Go.Eng
theorem one_n (l : List Int) (n : Nat) (hn : l.length = n) (hl : n ≤ 140737488355328) : ACall Try.prog 49 [.sl n (u8s l)] (oneR l) none := by
  subst hn; exact one_c l hl
theorem oneOf_cases (l : List Int) : oneOf l = (0, [], -1, 0) ∨ oneOf l = (0, [], -1, 1) ∨ ∃ c t, oneOf l = (c, t, ((2 + t.length : Nat) : Int), 0) ∧ 2 + t.length ≤ l.length := by
  unfold oneOf
  split
  · exact .inl rfl
  · rename_i h1
    split
    · exact .inr (.inl rfl)
    · rename_i h2
      refine .inr (.inr ⟨_, _, rfl, ?_⟩)
      have : ((l.drop 2).takeWhile freeB).length ≤ (l.drop 2).length := (List.takeWhile_prefix _).length_le
      rw [List.length_drop] at this
      omega
def subs0 (b : List Int) : Int × List SubV := subsP (b.length + 1) (b.drop 2) 2
/-- What still holds ahead of the subfield at 'at'. -/
structure SubInv (b : List Int) (at_ : Nat) (acc : List SubV) : Prop where
  le : at_ ≤ b.length
  two : 2 ≤ at_
  len : acc.length ≤ at_
  go : (at_ < b.length ∨ at_ = 2) → ∃ k, b.length - at_ < k ∧ subs0 b = ((subsP k (b.drop at_) at_).1, acc ++ (subsP k (b.drop at_) at_).2)
  fin : ¬ (at_ < b.length ∨ at_ = 2) → subs0 b = (-1, acc)
theorem SubInv.start {b : List Int} (h : 2 ≤ b.length) : SubInv b 2 [] :=
  ⟨h, Nat.le_refl _, Nat.zero_le _, fun _ => ⟨b.length + 1, by omega, rfl⟩, fun h => absurd (.inr rfl) h⟩
theorem SubInv.bad {b : List Int} {at_ : Nat} {acc : List SubV} (h : SubInv b at_ acc) (hc : at_ < b.length ∨ at_ = 2) {w : Int} (ho : oneOf (b.drop at_) = (0, [], -1, w)) : (subs0 b).1 = (at_ : Int) + w := by
  obtain ⟨k, hk, e⟩ := h.go hc
  obtain ⟨k, rfl⟩ : ∃ m, k = m + 1 := ⟨k - 1, by omega⟩
  rw [e]
  simp only [subsP, ho]
  rfl
theorem SubInv.next {b : List Int} {at_ : Nat} {acc : List SubV} (h : SubInv b at_ acc) (hc : at_ < b.length ∨ at_ = 2) {c : Int} {t : List Int} (ho : oneOf (b.drop at_) = (c, t, ((2 + t.length : Nat) : Int), 0)) (hl : 2 + t.length ≤ (b.drop at_).length) :
    SubInv b (at_ + (2 + t.length)) (acc ++ [(c, t)]) := by
  obtain ⟨k, hk, e⟩ := h.go hc
  obtain ⟨k, rfl⟩ : ∃ m, k = m + 1 := ⟨k - 1, by omega⟩
  have h2 := h.two
  have hle := h.le
  have hal := h.len
  rw [List.length_drop] at hl
  have hd : (b.drop at_).length = b.length - at_ := List.length_drop
  have hneg : ¬ (((2 + t.length : Nat) : Int) < 0) := by omega
  simp only [subsP, ho, if_neg hneg, Int.toNat_natCast, hd, List.drop_drop] at e
  refine ⟨by omega, by omega, by rw [List.length_append]; simp; omega, fun h3 => ?_, fun h3 => ?_⟩
  · rw [if_neg (by omega)] at e
    refine ⟨k, by omega, ?_⟩
    rw [e]; simp
  · rw [if_pos (by omega)] at e
    rw [e]
theorem fparse_sub {tag b : List Int} (h1 : goodTag tag = true) (h2 : ctl tag = false) (h3 : 2 ≤ b.length) (h4 : indB (b.getD 0 0) = true) (h5 : indB (b.getD 1 0) = true) :
    fparse tag b = if (subs0 b).1 < 0 then .inr ⟨tag, [], b.getD 0 0, b.getD 1 0, (subs0 b).2⟩ else .inl (subs0 b).1 := by
  unfold fparse
  rw [if_neg (by rw [h1]; simp), if_neg (by rw [h2]; simp), if_neg (fun h => h.elim (by omega) (fun h => by rw [h4] at h; cases h)), if_neg (fun h => h.elim (by omega) (fun h => by rw [h5] at h; cases h))]
  rfl
theorem subCells_nil : subCells [] = [] := rfl
theorem u8s_nil : u8s [] = [] := rfl
def l1S (tag b : List Int) (i : Nat) (g nx : Nat) : AS :=
  mkS [(0, .str tag), (1, .sl b.length (u8s b)), (4, .addr 4 0 0), (5, .addr 5 1 0), (6, .addr 6 g 0), (28, .int .i64 i)]
    [(4, ⟨0, 1, [.str [], .nilS, .int .u8 0, .int .u8 0, .nilS]⟩), (5, ⟨1, 1, [.int .i64 0, .int .i64 0]⟩), (6, ⟨g, 1, [.str tag, .nilS, .int .u8 (if 1 ≤ i then b.getD 0 0 else 0), .int .u8 (if 2 ≤ i then b.getD 1 0 else 0), .nilS]⟩)] nx
def l2S (tag b : List Int) (at_ : Nat) (acc : List SubV) (g gs nx : Nat) : AS :=
  mkS [(0, .str tag), (1, .sl b.length (u8s b)), (4, .addr 4 0 0), (5, .addr 5 1 0), (6, .addr 6 g 0), (8, .int .i64 at_)]
    [(4, ⟨0, 1, [.str [], .nilS, .int .u8 0, .int .u8 0, .nilS]⟩), (5, ⟨1, 1, [.int .i64 0, .int .i64 0]⟩), (6, ⟨g, 1, [.str tag, .nilS, .int .u8 (b.getD 0 0), .int .u8 (b.getD 1 0), .own 100 gs 0 acc.length]⟩), (100, ⟨gs, 2, subCells acc⟩)] nx
set_option maxRecDepth 100000 in
set_option maxHeartbeats 4000000 in
theorem FParse_c (tag b : List Int) (ht : tag.length ≤ 9223372036854775807) (hl : b.length ≤ 1099511627776) : ACall Try.prog 26 [.str tag, .sl b.length (u8s b)] (fres (fparse tag b)) none := by
  refine acall_intro none Try.func26 rfl (by kernel_rfl) (by simp [Try.f26]) ?_
  refine ex_run 30 ?_
  simp (maxSteps := 200000) only [Try.f26, push_cast, List.getD_cons_zero, List.getD_cons_succ, List.take_succ_cons, List.take_zero, List.drop_succ_cons, Nat.reduceLT, Nat.reduceLeDiff, Nat.reduceEqDiff, Nat.reduceAdd, Nat.reduceMul, Nat.reduceSub, Int.reduceToNat, Int.reduceLE, Int.reduceLT, Int.reduceEq, Int.reduceAdd, ↓reduceIte, decide_true, decide_false, and_self]
  refine call_intro (GoodTag_c tag ht) (fun h => by cases h) ?_
  cases hg : goodTag tag with
  | false =>
    simp (maxSteps := 200000) only [push_cast, List.getD_cons_zero, List.getD_cons_succ, List.take_succ_cons, List.take_zero, List.drop_succ_cons, Nat.reduceLT, Nat.reduceLeDiff, Nat.reduceEqDiff, Nat.reduceAdd, Nat.reduceMul, Nat.reduceSub, Int.reduceToNat, Int.reduceLE, Int.reduceLT, Int.reduceEq, Int.reduceAdd, ↓reduceIte, decide_true, decide_false, and_self]
    refine call_intro (fault_c 0) (fun h => by cases h) ?_
    simp (maxSteps := 200000) only [push_cast, List.getD_cons_zero, List.getD_cons_succ, List.take_succ_cons, List.take_zero, List.drop_succ_cons, Nat.reduceLT, Nat.reduceLeDiff, Nat.reduceEqDiff, Nat.reduceAdd, Nat.reduceMul, Nat.reduceSub, Int.reduceToNat, Int.reduceLE, Int.reduceLT, Int.reduceEq, Int.reduceAdd, ↓reduceIte, decide_true, decide_false, and_self]
    have e : fparse tag b = .inl 0 := by unfold fparse; rw [if_pos hg]
    rw [e]
    exact ⟨[.agg [.str [], .nilS, .int .u8 0, .int .u8 0, .nilS], .agg [.int .i64 12, .int .i64 0]], [.agg [.str [], .nilS, .int .u8 0, .int .u8 0, .nilS], .agg [.int .i64 12, .int .i64 0]],
      by kernel_rfl, by simp [outA, outV, outL, outC, AV.closed], sub_tup (ds := [.agg (fCells zeroF), .agg [.int .i64 12, .int .i64 0]]) ⟨sub_agg ⟨.refl _, .nil, .refl _, .refl _, .nil, trivial⟩, .refl _, trivial⟩, rfl⟩
  | true =>
    simp (maxSteps := 200000) only [push_cast, List.getD_cons_zero, List.getD_cons_succ, List.take_succ_cons, List.take_zero, List.drop_succ_cons, Nat.reduceLT, Nat.reduceLeDiff, Nat.reduceEqDiff, Nat.reduceAdd, Nat.reduceMul, Nat.reduceSub, Int.reduceToNat, Int.reduceLE, Int.reduceLT, Int.reduceEq, Int.reduceAdd, ↓reduceIte, decide_true, decide_false, and_self]
    refine call_intro (Control_c tag ht) (fun h => by cases h) ?_
    cases hc : List.isPrefixOf [48, 48] tag with
    | true =>
      have e : fparse tag b = cres tag b := by unfold fparse cres; rw [if_neg (by rw [hg]; simp), if_pos (show ctl tag = true from hc)]
      rw [e]
      simp (maxSteps := 200000) only [push_cast, List.getD_cons_zero, List.getD_cons_succ, List.take_succ_cons, List.take_zero, List.drop_succ_cons, Nat.reduceLT, Nat.reduceLeDiff, Nat.reduceEqDiff, Nat.reduceAdd, Nat.reduceMul, Nat.reduceSub, Int.reduceToNat, Int.reduceLE, Int.reduceLT, Int.reduceEq, Int.reduceAdd, ↓reduceIte, decide_true, decide_false, and_self]
      refine call_intro (control_c tag b (by omega)) (fun h => by cases h) ?_
      unfold cres
      by_cases hb : badFrom b 0 < 0
      · rw [if_pos hb]
        simp (maxSteps := 200000) only [fres, fCells, subCells_nil, u8s_nil, push_cast, List.getD_cons_zero, List.getD_cons_succ, List.take_succ_cons, List.take_zero, List.drop_succ_cons, Nat.reduceLT, Nat.reduceLeDiff, Nat.reduceEqDiff, Nat.reduceAdd, Nat.reduceMul, Nat.reduceSub, Int.reduceToNat, Int.reduceLE, Int.reduceLT, Int.reduceEq, Int.reduceAdd, ↓reduceIte, decide_true, decide_false, and_self]
        exact ⟨[.agg [.str tag, .sl b.length (u8s b), .int .u8 0, .int .u8 0, .sl 0 []], .agg [.int .i64 0, .int .i64 0]], [.agg [.str tag, .sl b.length (u8s b), .int .u8 0, .int .u8 0, .sl 0 []], .agg [.int .i64 0, .int .i64 0]],
          by kernel_rfl, by simp [outA, outV, outL, outC, AV.closed, closedL, u8s_closed], .refl _, rfl⟩
      · rw [if_neg hb]
        generalize badFrom b 0 = f
        simp (maxSteps := 200000) only [fres, fCells, zeroF, subCells_nil, u8s_nil, push_cast, List.getD_cons_zero, List.getD_cons_succ, List.take_succ_cons, List.take_zero, List.drop_succ_cons, Nat.reduceLT, Nat.reduceLeDiff, Nat.reduceEqDiff, Nat.reduceAdd, Nat.reduceMul, Nat.reduceSub, Int.reduceToNat, Int.reduceLE, Int.reduceLT, Int.reduceEq, Int.reduceAdd, ↓reduceIte, decide_true, decide_false, and_self]
        exact ⟨[.agg [.str [], .sl 0 [], .int .u8 0, .int .u8 0, .sl 0 []], .agg [.int .i64 12, .int .i64 f]], [.agg [.str [], .sl 0 [], .int .u8 0, .int .u8 0, .sl 0 []], .agg [.int .i64 12, .int .i64 f]],
          by kernel_rfl, by simp [outA, outV, outL, outC, AV.closed, closedL], .refl _, rfl⟩
    | false =>
      simp (maxSteps := 200000) only [push_cast, List.getD_cons_zero, List.getD_cons_succ, List.take_succ_cons, List.take_zero, List.drop_succ_cons, Nat.reduceLT, Nat.reduceLeDiff, Nat.reduceEqDiff, Nat.reduceAdd, Nat.reduceMul, Nat.reduceSub, Int.reduceToNat, Int.reduceLE, Int.reduceLT, Int.reduceEq, Int.reduceAdd, ↓reduceIte, decide_true, decide_false, and_self]
      refine run_keep (l' := [(0, .str tag), (1, .sl b.length (u8s b)), (4, .addr 4 0 0), (5, .addr 5 1 0), (6, .addr 6 11 0), (28, .int .i64 0)])
        (t' := [(4, ⟨0, 1, [.str [], .nilS, .int .u8 0, .int .u8 0, .nilS]⟩), (5, ⟨1, 1, [.int .i64 0, .int .i64 0]⟩), (6, ⟨11, 1, [.str tag, .nilS, .int .u8 0, .int .u8 0, .nilS]⟩)]) (nx' := _)
        ⟨.refl _, .refl _, .refl _, .refl _, .refl _, .refl _, trivial⟩ ⟨⟨_, rfl, rfl, rfl, SubL.refl _⟩, ⟨_, rfl, rfl, rfl, SubL.refl _⟩, ⟨_, rfl, rfl, rfl, SubL.refl _⟩, trivial⟩ (Nat.le_refl _) ?_
      refine run_loop (fun v s => ∃ (i nx : Nat), i ≤ 2 ∧ v = 2 - i ∧ (∀ j, j < i → j < b.length ∧ indB (b.getD j 0) = true) ∧ s = l1S tag b i 11 nx) _ ⟨0, _, by omega, rfl, fun j hj => by omega, rfl⟩ ?_
      rintro v s ⟨i, nx, hi, rfl, hall, rfl⟩
      unfold l1S
      have hbad : ∀ (i : Nat) (hi : i < 2), (∀ j, j < i → j < b.length ∧ indB (b.getD j 0) = true) → (b.length ≤ i ∨ indB (b.getD i 0) = false) → fparse tag b = .inl i := by
        intro i hi hall hor
        unfold fparse
        rw [if_neg (by rw [hg]; simp), if_neg (by show ¬ ctl tag = true; unfold ctl; rw [hc]; simp)]
        rcases (by omega : i = 0 ∨ i = 1) with rfl | rfl
        · rw [if_pos (hor.imp (by omega) id)]; rfl
        · obtain ⟨q1, q2⟩ := hall 0 (by omega)
          rw [if_neg (fun h => h.elim (by omega) (fun h => by rw [q2] at h; cases h)), if_pos (hor.imp (by omega) id)]; rfl
      by_cases h2 : i < 2
      · have hbi := hbad i h2 hall
        rcases (by omega : i = 0 ∨ i = 1) with rfl | rfl
        · by_cases hbl : 0 < b.length
          · have gi := u8s_getD b 0 hbl
            have hbl' : (0 : Int) < (b.length : Int) := by omega
            have hbn : ¬ (b.length : Int) ≤ (0 : Int) := by omega
            have hpos : 0 < b.length := by omega
            refine ex_run 30 ?_
            simp (maxSteps := 200000) only [gi, hbl, hbl', hbn, hpos, push_cast, List.getD_cons_zero, List.getD_cons_succ, List.take_succ_cons, List.take_zero, List.drop_succ_cons, Nat.reduceLT, Nat.reduceLeDiff, Nat.reduceEqDiff, Nat.reduceAdd, Nat.reduceMul, Nat.reduceSub, Int.reduceToNat, Int.reduceLE, Int.reduceLT, Int.reduceEq, Int.reduceAdd, ↓reduceIte, decide_true, decide_false, and_self]
            refine call_intro (Ind_c _) (fun h => by cases h) ?_
            cases hind : indB (b.getD 0 0) with
            | false =>
              rw [hbi (.inr hind)]
              simp (maxSteps := 200000) only [gi, hbl, hbl', hbn, hpos, push_cast, List.getD_cons_zero, List.getD_cons_succ, List.take_succ_cons, List.take_zero, List.drop_succ_cons, Nat.reduceLT, Nat.reduceLeDiff, Nat.reduceEqDiff, Nat.reduceAdd, Nat.reduceMul, Nat.reduceSub, Int.reduceToNat, Int.reduceLE, Int.reduceLT, Int.reduceEq, Int.reduceAdd, ↓reduceIte, decide_true, decide_false, and_self]
              refine call_intro (fault_c 0) (fun h => by cases h) ?_
              simp (maxSteps := 200000) only [push_cast, List.getD_cons_zero, List.getD_cons_succ, List.take_succ_cons, List.take_zero, List.drop_succ_cons, Nat.reduceLT, Nat.reduceLeDiff, Nat.reduceEqDiff, Nat.reduceAdd, Nat.reduceMul, Nat.reduceSub, Int.reduceToNat, Int.reduceLE, Int.reduceLT, Int.reduceEq, Int.reduceAdd, ↓reduceIte, decide_true, decide_false, and_self]
              exact ⟨[.agg [.str [], .nilS, .int .u8 0, .int .u8 0, .nilS], .agg [.int .i64 12, .int .i64 0]], [.agg [.str [], .nilS, .int .u8 0, .int .u8 0, .nilS], .agg [.int .i64 12, .int .i64 0]],
                by kernel_rfl, by simp [outA, outV, outL, outC, AV.closed], sub_tup (ds := [.agg (fCells zeroF), .agg [.int .i64 12, .int .i64 0]]) ⟨sub_agg ⟨.refl _, .nil, .refl _, .refl _, .nil, trivial⟩, .refl _, trivial⟩, rfl⟩
            | true =>
              have hall' : ∀ j, j < 0 + 1 → j < b.length ∧ indB (b.getD j 0) = true := fun j hj => by
                by_cases e : j = 0
                · subst e; exact ⟨hbl, hind⟩
                · exact hall j (by omega)
              have hw : IntKind.i64.wrap 1 = 1 := wrap_i64 (by omega)
              simp (maxSteps := 200000) only [gi, hbl, hbl', hbn, hpos, hw, push_cast, List.getD_cons_zero, List.getD_cons_succ, List.take_succ_cons, List.take_zero, List.drop_succ_cons, Nat.reduceLT, Nat.reduceLeDiff, Nat.reduceEqDiff, Nat.reduceAdd, Nat.reduceMul, Nat.reduceSub, Int.reduceToNat, Int.reduceLE, Int.reduceLT, Int.reduceEq, Int.reduceAdd, ↓reduceIte, decide_true, decide_false, and_self]
              refine run_back_le (le_mk (l' := [(0, .str tag), (1, .sl b.length (u8s b)), (4, .addr 4 0 0), (5, .addr 5 1 0), (6, .addr 6 11 0), (28, .int .i64 1)])
                (t' := [(4, ⟨0, 1, [.str [], .nilS, .int .u8 0, .int .u8 0, .nilS]⟩), (5, ⟨1, 1, [.int .i64 0, .int .i64 0]⟩), (6, ⟨11, 1, [.str tag, .nilS, .int .u8 (b.getD 0 0), .int .u8 0, .nilS]⟩)]) (nx' := _)
                ⟨.refl _, .refl _, .refl _, .refl _, .refl _, .refl _, trivial⟩ ⟨⟨_, rfl, rfl, rfl, SubL.refl _⟩, ⟨_, rfl, rfl, rfl, SubL.refl _⟩, ⟨_, rfl, rfl, rfl, SubL.refl _⟩, trivial⟩ (Nat.le_refl _)) ?_
              exact ⟨1, by omega, 1, _, by omega, rfl, hall', rfl⟩
          · rw [hbi (.inl (by omega))]
            have hbn : (b.length : Int) ≤ (0 : Int) := by omega
            refine ex_run 30 ?_
            simp (maxSteps := 200000) only [hbn, push_cast, List.getD_cons_zero, List.getD_cons_succ, List.take_succ_cons, List.take_zero, List.drop_succ_cons, Nat.reduceLT, Nat.reduceLeDiff, Nat.reduceEqDiff, Nat.reduceAdd, Nat.reduceMul, Nat.reduceSub, Int.reduceToNat, Int.reduceLE, Int.reduceLT, Int.reduceEq, Int.reduceAdd, ↓reduceIte, decide_true, decide_false, and_self]
            refine call_intro (fault_c 0) (fun h => by cases h) ?_
            simp (maxSteps := 200000) only [push_cast, List.getD_cons_zero, List.getD_cons_succ, List.take_succ_cons, List.take_zero, List.drop_succ_cons, Nat.reduceLT, Nat.reduceLeDiff, Nat.reduceEqDiff, Nat.reduceAdd, Nat.reduceMul, Nat.reduceSub, Int.reduceToNat, Int.reduceLE, Int.reduceLT, Int.reduceEq, Int.reduceAdd, ↓reduceIte, decide_true, decide_false, and_self]
            exact ⟨[.agg [.str [], .nilS, .int .u8 0, .int .u8 0, .nilS], .agg [.int .i64 12, .int .i64 0]], [.agg [.str [], .nilS, .int .u8 0, .int .u8 0, .nilS], .agg [.int .i64 12, .int .i64 0]],
              by kernel_rfl, by simp [outA, outV, outL, outC, AV.closed], sub_tup (ds := [.agg (fCells zeroF), .agg [.int .i64 12, .int .i64 0]]) ⟨sub_agg ⟨.refl _, .nil, .refl _, .refl _, .nil, trivial⟩, .refl _, trivial⟩, rfl⟩
        · by_cases hbl : 1 < b.length
          · have gi := u8s_getD b 1 hbl
            have hbl' : (1 : Int) < (b.length : Int) := by omega
            have hbn : ¬ (b.length : Int) ≤ (1 : Int) := by omega
            have hpos : 0 < b.length := by omega
            refine ex_run 30 ?_
            simp (maxSteps := 200000) only [gi, hbl, hbl', hbn, hpos, push_cast, List.getD_cons_zero, List.getD_cons_succ, List.take_succ_cons, List.take_zero, List.drop_succ_cons, Nat.reduceLT, Nat.reduceLeDiff, Nat.reduceEqDiff, Nat.reduceAdd, Nat.reduceMul, Nat.reduceSub, Int.reduceToNat, Int.reduceLE, Int.reduceLT, Int.reduceEq, Int.reduceAdd, ↓reduceIte, decide_true, decide_false, and_self]
            refine call_intro (Ind_c _) (fun h => by cases h) ?_
            cases hind : indB (b.getD 1 0) with
            | false =>
              rw [hbi (.inr hind)]
              simp (maxSteps := 200000) only [gi, hbl, hbl', hbn, hpos, push_cast, List.getD_cons_zero, List.getD_cons_succ, List.take_succ_cons, List.take_zero, List.drop_succ_cons, Nat.reduceLT, Nat.reduceLeDiff, Nat.reduceEqDiff, Nat.reduceAdd, Nat.reduceMul, Nat.reduceSub, Int.reduceToNat, Int.reduceLE, Int.reduceLT, Int.reduceEq, Int.reduceAdd, ↓reduceIte, decide_true, decide_false, and_self]
              refine call_intro (fault_c 1) (fun h => by cases h) ?_
              simp (maxSteps := 200000) only [push_cast, List.getD_cons_zero, List.getD_cons_succ, List.take_succ_cons, List.take_zero, List.drop_succ_cons, Nat.reduceLT, Nat.reduceLeDiff, Nat.reduceEqDiff, Nat.reduceAdd, Nat.reduceMul, Nat.reduceSub, Int.reduceToNat, Int.reduceLE, Int.reduceLT, Int.reduceEq, Int.reduceAdd, ↓reduceIte, decide_true, decide_false, and_self]
              exact ⟨[.agg [.str [], .nilS, .int .u8 0, .int .u8 0, .nilS], .agg [.int .i64 12, .int .i64 1]], [.agg [.str [], .nilS, .int .u8 0, .int .u8 0, .nilS], .agg [.int .i64 12, .int .i64 1]],
                by kernel_rfl, by simp [outA, outV, outL, outC, AV.closed], sub_tup (ds := [.agg (fCells zeroF), .agg [.int .i64 12, .int .i64 1]]) ⟨sub_agg ⟨.refl _, .nil, .refl _, .refl _, .nil, trivial⟩, .refl _, trivial⟩, rfl⟩
            | true =>
              have hall' : ∀ j, j < 1 + 1 → j < b.length ∧ indB (b.getD j 0) = true := fun j hj => by
                by_cases e : j = 1
                · subst e; exact ⟨hbl, hind⟩
                · exact hall j (by omega)
              have hw : IntKind.i64.wrap 2 = 2 := wrap_i64 (by omega)
              simp (maxSteps := 200000) only [gi, hbl, hbl', hbn, hpos, hw, push_cast, List.getD_cons_zero, List.getD_cons_succ, List.take_succ_cons, List.take_zero, List.drop_succ_cons, Nat.reduceLT, Nat.reduceLeDiff, Nat.reduceEqDiff, Nat.reduceAdd, Nat.reduceMul, Nat.reduceSub, Int.reduceToNat, Int.reduceLE, Int.reduceLT, Int.reduceEq, Int.reduceAdd, ↓reduceIte, decide_true, decide_false, and_self]
              refine run_back_le (le_mk (l' := [(0, .str tag), (1, .sl b.length (u8s b)), (4, .addr 4 0 0), (5, .addr 5 1 0), (6, .addr 6 11 0), (28, .int .i64 2)])
                (t' := [(4, ⟨0, 1, [.str [], .nilS, .int .u8 0, .int .u8 0, .nilS]⟩), (5, ⟨1, 1, [.int .i64 0, .int .i64 0]⟩), (6, ⟨11, 1, [.str tag, .nilS, .int .u8 (b.getD 0 0), .int .u8 (b.getD 1 0), .nilS]⟩)]) (nx' := _)
                ⟨.refl _, .refl _, .refl _, .refl _, .refl _, .refl _, trivial⟩ ⟨⟨_, rfl, rfl, rfl, SubL.refl _⟩, ⟨_, rfl, rfl, rfl, SubL.refl _⟩, ⟨_, rfl, rfl, rfl, SubL.refl _⟩, trivial⟩ (Nat.le_refl _)) ?_
              exact ⟨0, by omega, 2, _, by omega, rfl, hall', rfl⟩
          · rw [hbi (.inl (by omega))]
            have hbn : (b.length : Int) ≤ (1 : Int) := by omega
            refine ex_run 30 ?_
            simp (maxSteps := 200000) only [hbn, push_cast, List.getD_cons_zero, List.getD_cons_succ, List.take_succ_cons, List.take_zero, List.drop_succ_cons, Nat.reduceLT, Nat.reduceLeDiff, Nat.reduceEqDiff, Nat.reduceAdd, Nat.reduceMul, Nat.reduceSub, Int.reduceToNat, Int.reduceLE, Int.reduceLT, Int.reduceEq, Int.reduceAdd, ↓reduceIte, decide_true, decide_false, and_self]
            refine call_intro (fault_c 1) (fun h => by cases h) ?_
            simp (maxSteps := 200000) only [push_cast, List.getD_cons_zero, List.getD_cons_succ, List.take_succ_cons, List.take_zero, List.drop_succ_cons, Nat.reduceLT, Nat.reduceLeDiff, Nat.reduceEqDiff, Nat.reduceAdd, Nat.reduceMul, Nat.reduceSub, Int.reduceToNat, Int.reduceLE, Int.reduceLT, Int.reduceEq, Int.reduceAdd, ↓reduceIte, decide_true, decide_false, and_self]
            exact ⟨[.agg [.str [], .nilS, .int .u8 0, .int .u8 0, .nilS], .agg [.int .i64 12, .int .i64 1]], [.agg [.str [], .nilS, .int .u8 0, .int .u8 0, .nilS], .agg [.int .i64 12, .int .i64 1]],
              by kernel_rfl, by simp [outA, outV, outL, outC, AV.closed], sub_tup (ds := [.agg (fCells zeroF), .agg [.int .i64 12, .int .i64 1]]) ⟨sub_agg ⟨.refl _, .nil, .refl _, .refl _, .nil, trivial⟩, .refl _, trivial⟩, rfl⟩
      · have h2e : i = 2 := by omega
        subst h2e
        refine ex_run 30 ?_
        simp (maxSteps := 200000) only [push_cast, List.getD_cons_zero, List.getD_cons_succ, List.take_succ_cons, List.take_zero, List.drop_succ_cons, Nat.reduceLT, Nat.reduceLeDiff, Nat.reduceEqDiff, Nat.reduceAdd, Nat.reduceMul, Nat.reduceSub, Int.reduceToNat, Int.reduceLE, Int.reduceLT, Int.reduceEq, Int.reduceAdd, ↓reduceIte, decide_true, decide_false, and_self]
        obtain ⟨hl0, hi0⟩ := hall 0 (by omega)
        obtain ⟨hl1, hi1⟩ := hall 1 (by omega)
        have hfp := fparse_sub (tag := tag) (b := b) hg hc (by omega) hi0 hi1
        rw [hfp]
        refine run_lazyCell 6 4 100 2 ⟨11, 1, [.str tag, .nilS, .int .u8 (b.getD 0 0), .int .u8 (b.getD 1 0), .nilS]⟩ rfl rfl (by decide) ?_
        refine run_keep (l' := [(0, .str tag), (1, .sl b.length (u8s b)), (4, .addr 4 0 0), (5, .addr 5 1 0), (6, .addr 6 11 0), (8, .int .i64 2)])
          (t' := [(4, ⟨0, 1, [.str [], .nilS, .int .u8 0, .int .u8 0, .nilS]⟩), (5, ⟨1, 1, [.int .i64 0, .int .i64 0]⟩), (6, ⟨11, 1, [.str tag, .nilS, .int .u8 (b.getD 0 0), .int .u8 (b.getD 1 0), .own 100 _ 0 0]⟩), (100, ⟨_, 2, []⟩)]) (nx' := _)
          ⟨.refl _, .refl _, .refl _, .refl _, .refl _, .refl _, trivial⟩ ⟨⟨_, rfl, rfl, rfl, SubL.refl _⟩, ⟨_, rfl, rfl, rfl, SubL.refl _⟩, ⟨_, rfl, rfl, rfl, SubL.refl _⟩, ⟨_, rfl, rfl, rfl, SubL.refl _⟩, trivial⟩ (Nat.le_refl _) ?_
        refine run_loop (fun v s => ∃ (at_ : Nat) (acc : List SubV) (gs nx : Nat), SubInv b at_ acc ∧ v = b.length + 1 - at_ ∧ s = l2S tag b at_ acc 11 gs nx) _ ⟨2, [], _, _, SubInv.start (by omega), rfl, rfl⟩ ?_
        rintro v s ⟨at_, acc, gs, nx, hinv, rfl, rfl⟩
        unfold l2S
        have hle := hinv.le
        have h2 := hinv.two
        have hal := hinv.len
        by_cases hC : at_ < b.length ∨ at_ = 2
        · have hdl : (List.drop at_ b).length = b.length - at_ := List.length_drop
          have k1 : (at_ : Int) ≤ (b.length : Int) := by omega
          have hone := one_n (List.drop at_ b) (b.length - at_) hdl (by omega)
          have hor : (at_ < b.length) ∨ (¬ (at_ < b.length) ∧ ((at_ : Int) = 2) = True) := by
            by_cases h : at_ < b.length
            · exact .inl h
            · exact .inr ⟨h, eq_true (by omega)⟩
          rcases oneOf_cases (List.drop at_ b) with ho | ho | ⟨c, tx, ho, hto⟩
          · have hS := hinv.bad hC ho
            rw [Int.add_zero] at hS
            rw [hS, if_neg (by omega)]
            unfold oneR at hone
            rw [ho] at hone
            simp only [sCells, List.length_nil, u8s_nil] at hone
            have w1 : IntKind.i64.wrap (at_ : Int) = (at_ : Int) := wrap_i64 (by omega)
            rcases hor with hlt | ⟨hlt, he2⟩
            · refine ex_run 30 ?_
              simp (maxSteps := 200000) only [hlt, k1, hle, List.take_length, push_cast, List.getD_cons_zero, List.getD_cons_succ, List.take_succ_cons, List.take_zero, List.drop_succ_cons, Nat.reduceLT, Nat.reduceLeDiff, Nat.reduceEqDiff, Nat.reduceAdd, Nat.reduceMul, Nat.reduceSub, Int.reduceToNat, Int.reduceLE, Int.reduceLT, Int.reduceEq, Int.reduceAdd, ↓reduceIte, decide_true, decide_false, and_self]
              refine call_intro hone (fun h => by cases h) ?_
              simp (maxSteps := 200000) only [w1, Int.add_zero, push_cast, List.getD_cons_zero, List.getD_cons_succ, List.take_succ_cons, List.take_zero, List.drop_succ_cons, Nat.reduceLT, Nat.reduceLeDiff, Nat.reduceEqDiff, Nat.reduceAdd, Nat.reduceMul, Nat.reduceSub, Int.reduceToNat, Int.reduceLE, Int.reduceLT, Int.reduceEq, Int.reduceAdd, ↓reduceIte, decide_true, decide_false, and_self]
              refine call_intro (fault_c (at_ : Int)) (fun h => by cases h) ?_
              simp (maxSteps := 200000) only [push_cast, List.getD_cons_zero, List.getD_cons_succ, List.take_succ_cons, List.take_zero, List.drop_succ_cons, Nat.reduceLT, Nat.reduceLeDiff, Nat.reduceEqDiff, Nat.reduceAdd, Nat.reduceMul, Nat.reduceSub, Int.reduceToNat, Int.reduceLE, Int.reduceLT, Int.reduceEq, Int.reduceAdd, ↓reduceIte, decide_true, decide_false, and_self]
              exact ⟨[.agg [.str [], .nilS, .int .u8 0, .int .u8 0, .nilS], .agg [.int .i64 12, .int .i64 (at_ : Int)]], [.agg [.str [], .nilS, .int .u8 0, .int .u8 0, .nilS], .agg [.int .i64 12, .int .i64 (at_ : Int)]],
                by kernel_rfl, by simp [outA, outV, outL, outC, AV.closed], sub_tup (ds := [.agg (fCells zeroF), .agg [.int .i64 12, .int .i64 (at_ : Int)]]) ⟨sub_agg ⟨.refl _, .nil, .refl _, .refl _, .nil, trivial⟩, .refl _, trivial⟩, rfl⟩
            · refine ex_run 30 ?_
              simp (maxSteps := 200000) only [hlt, he2, k1, hle, List.take_length, push_cast, List.getD_cons_zero, List.getD_cons_succ, List.take_succ_cons, List.take_zero, List.drop_succ_cons, Nat.reduceLT, Nat.reduceLeDiff, Nat.reduceEqDiff, Nat.reduceAdd, Nat.reduceMul, Nat.reduceSub, Int.reduceToNat, Int.reduceLE, Int.reduceLT, Int.reduceEq, Int.reduceAdd, ↓reduceIte, decide_true, decide_false, and_self]
              refine call_intro hone (fun h => by cases h) ?_
              simp (maxSteps := 200000) only [w1, Int.add_zero, push_cast, List.getD_cons_zero, List.getD_cons_succ, List.take_succ_cons, List.take_zero, List.drop_succ_cons, Nat.reduceLT, Nat.reduceLeDiff, Nat.reduceEqDiff, Nat.reduceAdd, Nat.reduceMul, Nat.reduceSub, Int.reduceToNat, Int.reduceLE, Int.reduceLT, Int.reduceEq, Int.reduceAdd, ↓reduceIte, decide_true, decide_false, and_self]
              refine call_intro (fault_c (at_ : Int)) (fun h => by cases h) ?_
              simp (maxSteps := 200000) only [push_cast, List.getD_cons_zero, List.getD_cons_succ, List.take_succ_cons, List.take_zero, List.drop_succ_cons, Nat.reduceLT, Nat.reduceLeDiff, Nat.reduceEqDiff, Nat.reduceAdd, Nat.reduceMul, Nat.reduceSub, Int.reduceToNat, Int.reduceLE, Int.reduceLT, Int.reduceEq, Int.reduceAdd, ↓reduceIte, decide_true, decide_false, and_self]
              exact ⟨[.agg [.str [], .nilS, .int .u8 0, .int .u8 0, .nilS], .agg [.int .i64 12, .int .i64 (at_ : Int)]], [.agg [.str [], .nilS, .int .u8 0, .int .u8 0, .nilS], .agg [.int .i64 12, .int .i64 (at_ : Int)]],
                by kernel_rfl, by simp [outA, outV, outL, outC, AV.closed], sub_tup (ds := [.agg (fCells zeroF), .agg [.int .i64 12, .int .i64 (at_ : Int)]]) ⟨sub_agg ⟨.refl _, .nil, .refl _, .refl _, .nil, trivial⟩, .refl _, trivial⟩, rfl⟩
          · have hS := hinv.bad hC ho
            rw [hS, if_neg (by omega)]
            unfold oneR at hone
            rw [ho] at hone
            simp only [sCells, List.length_nil, u8s_nil] at hone
            have w1 : IntKind.i64.wrap ((at_ : Int) + 1) = ((at_ : Int) + 1) := wrap_i64 (by omega)
            rcases hor with hlt | ⟨hlt, he2⟩
            · refine ex_run 30 ?_
              simp (maxSteps := 200000) only [hlt, k1, hle, List.take_length, push_cast, List.getD_cons_zero, List.getD_cons_succ, List.take_succ_cons, List.take_zero, List.drop_succ_cons, Nat.reduceLT, Nat.reduceLeDiff, Nat.reduceEqDiff, Nat.reduceAdd, Nat.reduceMul, Nat.reduceSub, Int.reduceToNat, Int.reduceLE, Int.reduceLT, Int.reduceEq, Int.reduceAdd, ↓reduceIte, decide_true, decide_false, and_self]
              refine call_intro hone (fun h => by cases h) ?_
              simp (maxSteps := 200000) only [w1, Int.add_zero, push_cast, List.getD_cons_zero, List.getD_cons_succ, List.take_succ_cons, List.take_zero, List.drop_succ_cons, Nat.reduceLT, Nat.reduceLeDiff, Nat.reduceEqDiff, Nat.reduceAdd, Nat.reduceMul, Nat.reduceSub, Int.reduceToNat, Int.reduceLE, Int.reduceLT, Int.reduceEq, Int.reduceAdd, ↓reduceIte, decide_true, decide_false, and_self]
              refine call_intro (fault_c ((at_ : Int) + 1)) (fun h => by cases h) ?_
              simp (maxSteps := 200000) only [push_cast, List.getD_cons_zero, List.getD_cons_succ, List.take_succ_cons, List.take_zero, List.drop_succ_cons, Nat.reduceLT, Nat.reduceLeDiff, Nat.reduceEqDiff, Nat.reduceAdd, Nat.reduceMul, Nat.reduceSub, Int.reduceToNat, Int.reduceLE, Int.reduceLT, Int.reduceEq, Int.reduceAdd, ↓reduceIte, decide_true, decide_false, and_self]
              exact ⟨[.agg [.str [], .nilS, .int .u8 0, .int .u8 0, .nilS], .agg [.int .i64 12, .int .i64 ((at_ : Int) + 1)]], [.agg [.str [], .nilS, .int .u8 0, .int .u8 0, .nilS], .agg [.int .i64 12, .int .i64 ((at_ : Int) + 1)]],
                by kernel_rfl, by simp [outA, outV, outL, outC, AV.closed], sub_tup (ds := [.agg (fCells zeroF), .agg [.int .i64 12, .int .i64 ((at_ : Int) + 1)]]) ⟨sub_agg ⟨.refl _, .nil, .refl _, .refl _, .nil, trivial⟩, .refl _, trivial⟩, rfl⟩
            · refine ex_run 30 ?_
              simp (maxSteps := 200000) only [hlt, he2, k1, hle, List.take_length, push_cast, List.getD_cons_zero, List.getD_cons_succ, List.take_succ_cons, List.take_zero, List.drop_succ_cons, Nat.reduceLT, Nat.reduceLeDiff, Nat.reduceEqDiff, Nat.reduceAdd, Nat.reduceMul, Nat.reduceSub, Int.reduceToNat, Int.reduceLE, Int.reduceLT, Int.reduceEq, Int.reduceAdd, ↓reduceIte, decide_true, decide_false, and_self]
              refine call_intro hone (fun h => by cases h) ?_
              simp (maxSteps := 200000) only [w1, Int.add_zero, push_cast, List.getD_cons_zero, List.getD_cons_succ, List.take_succ_cons, List.take_zero, List.drop_succ_cons, Nat.reduceLT, Nat.reduceLeDiff, Nat.reduceEqDiff, Nat.reduceAdd, Nat.reduceMul, Nat.reduceSub, Int.reduceToNat, Int.reduceLE, Int.reduceLT, Int.reduceEq, Int.reduceAdd, ↓reduceIte, decide_true, decide_false, and_self]
              refine call_intro (fault_c ((at_ : Int) + 1)) (fun h => by cases h) ?_
              simp (maxSteps := 200000) only [push_cast, List.getD_cons_zero, List.getD_cons_succ, List.take_succ_cons, List.take_zero, List.drop_succ_cons, Nat.reduceLT, Nat.reduceLeDiff, Nat.reduceEqDiff, Nat.reduceAdd, Nat.reduceMul, Nat.reduceSub, Int.reduceToNat, Int.reduceLE, Int.reduceLT, Int.reduceEq, Int.reduceAdd, ↓reduceIte, decide_true, decide_false, and_self]
              exact ⟨[.agg [.str [], .nilS, .int .u8 0, .int .u8 0, .nilS], .agg [.int .i64 12, .int .i64 ((at_ : Int) + 1)]], [.agg [.str [], .nilS, .int .u8 0, .int .u8 0, .nilS], .agg [.int .i64 12, .int .i64 ((at_ : Int) + 1)]],
                by kernel_rfl, by simp [outA, outV, outL, outC, AV.closed], sub_tup (ds := [.agg (fCells zeroF), .agg [.int .i64 12, .int .i64 ((at_ : Int) + 1)]]) ⟨sub_agg ⟨.refl _, .nil, .refl _, .refl _, .nil, trivial⟩, .refl _, trivial⟩, rfl⟩
          · have hS := hinv.next hC ho hto
            unfold oneR at hone
            rw [ho] at hone
            simp only [sCells] at hone
            rw [hdl] at hto
            have hnn : ¬ (((2 + tx.length : Nat) : Int) < 0) := by omega
            have w1 : IntKind.i64.wrap ((at_ : Int) + ((2 + tx.length : Nat) : Int)) = ((at_ + (2 + tx.length) : Nat) : Int) := by rw [wrap_i64 (by omega)]; omega
            generalize hn2 : 2 + tx.length = n2 at *
            have hsl := subCells_length acc
            rcases hor with hlt | ⟨hlt, he2⟩
            · refine ex_run 30 ?_
              simp (maxSteps := 200000) only [hlt, k1, hle, List.take_length, push_cast, List.getD_cons_zero, List.getD_cons_succ, List.take_succ_cons, List.take_zero, List.drop_succ_cons, Nat.reduceLT, Nat.reduceLeDiff, Nat.reduceEqDiff, Nat.reduceAdd, Nat.reduceMul, Nat.reduceSub, Int.reduceToNat, Int.reduceLE, Int.reduceLT, Int.reduceEq, Int.reduceAdd, ↓reduceIte, decide_true, decide_false, and_self]
              refine call_intro hone (fun h => by cases h) ?_
              simp (maxSteps := 200000) only [hnn, w1, hsl, push_cast, List.getD_cons_zero, List.getD_cons_succ, List.take_succ_cons, List.take_zero, List.drop_succ_cons, Nat.reduceLT, Nat.reduceLeDiff, Nat.reduceEqDiff, Nat.reduceAdd, Nat.reduceMul, Nat.reduceSub, Int.reduceToNat, Int.reduceLE, Int.reduceLT, Int.reduceEq, Int.reduceAdd, ↓reduceIte, decide_true, decide_false, and_self]
              refine ⟨⟨by omega, by omega⟩, ?_⟩
              refine run_back_le (le_mk (l' := [(0, .str tag), (1, .sl b.length (u8s b)), (4, .addr 4 0 0), (5, .addr 5 1 0), (6, .addr 6 11 0), (8, .int .i64 ((at_ + n2 : Nat) : Int))])
                (t' := [(4, ⟨0, 1, [.str [], .nilS, .int .u8 0, .int .u8 0, .nilS]⟩), (5, ⟨1, 1, [.int .i64 0, .int .i64 0]⟩), (6, ⟨11, 1, [.str tag, .nilS, .int .u8 (b.getD 0 0), .int .u8 (b.getD 1 0), .own 100 _ 0 (acc ++ [(c, tx)]).length]⟩), (100, ⟨_, 2, subCells (acc ++ [(c, tx)])⟩)]) (nx' := _)
                ⟨.refl _, .refl _, .refl _, .refl _, .refl _, .of_eq (congrArg (AV.int .i64) (by omega)), trivial⟩
                ⟨⟨_, rfl, rfl, rfl, SubL.refl _⟩, ⟨_, rfl, rfl, rfl, SubL.refl _⟩, ⟨_, rfl, rfl, rfl, ⟨.refl _, .refl _, .refl _, .refl _, .of_eq (congrArg (AV.own 100 _ 0) (by simp)), trivial⟩⟩, ⟨_, rfl, rfl, rfl, by rw [subCells_snoc]; exact SubL.refl _⟩, trivial⟩ (Nat.le_refl _)) ?_
              exact ⟨b.length + 1 - (at_ + n2), by omega, at_ + n2, acc ++ [(c, tx)], _, _, hS, rfl, rfl⟩
            · refine ex_run 30 ?_
              simp (maxSteps := 200000) only [hlt, he2, k1, hle, List.take_length, push_cast, List.getD_cons_zero, List.getD_cons_succ, List.take_succ_cons, List.take_zero, List.drop_succ_cons, Nat.reduceLT, Nat.reduceLeDiff, Nat.reduceEqDiff, Nat.reduceAdd, Nat.reduceMul, Nat.reduceSub, Int.reduceToNat, Int.reduceLE, Int.reduceLT, Int.reduceEq, Int.reduceAdd, ↓reduceIte, decide_true, decide_false, and_self]
              refine call_intro hone (fun h => by cases h) ?_
              simp (maxSteps := 200000) only [hnn, w1, hsl, push_cast, List.getD_cons_zero, List.getD_cons_succ, List.take_succ_cons, List.take_zero, List.drop_succ_cons, Nat.reduceLT, Nat.reduceLeDiff, Nat.reduceEqDiff, Nat.reduceAdd, Nat.reduceMul, Nat.reduceSub, Int.reduceToNat, Int.reduceLE, Int.reduceLT, Int.reduceEq, Int.reduceAdd, ↓reduceIte, decide_true, decide_false, and_self]
              refine ⟨⟨by omega, by omega⟩, ?_⟩
              refine run_back_le (le_mk (l' := [(0, .str tag), (1, .sl b.length (u8s b)), (4, .addr 4 0 0), (5, .addr 5 1 0), (6, .addr 6 11 0), (8, .int .i64 ((at_ + n2 : Nat) : Int))])
                (t' := [(4, ⟨0, 1, [.str [], .nilS, .int .u8 0, .int .u8 0, .nilS]⟩), (5, ⟨1, 1, [.int .i64 0, .int .i64 0]⟩), (6, ⟨11, 1, [.str tag, .nilS, .int .u8 (b.getD 0 0), .int .u8 (b.getD 1 0), .own 100 _ 0 (acc ++ [(c, tx)]).length]⟩), (100, ⟨_, 2, subCells (acc ++ [(c, tx)])⟩)]) (nx' := _)
                ⟨.refl _, .refl _, .refl _, .refl _, .refl _, .of_eq (congrArg (AV.int .i64) (by omega)), trivial⟩
                ⟨⟨_, rfl, rfl, rfl, SubL.refl _⟩, ⟨_, rfl, rfl, rfl, SubL.refl _⟩, ⟨_, rfl, rfl, rfl, ⟨.refl _, .refl _, .refl _, .refl _, .of_eq (congrArg (AV.own 100 _ 0) (by simp)), trivial⟩⟩, ⟨_, rfl, rfl, rfl, by rw [subCells_snoc]; exact SubL.refl _⟩, trivial⟩ (Nat.le_refl _)) ?_
              exact ⟨b.length + 1 - (at_ + n2), by omega, at_ + n2, acc ++ [(c, tx)], _, _, hS, rfl, rfl⟩
        · have n1 : ¬ (at_ < b.length) := fun h => hC (.inl h)
          have n2 : ¬ ((at_ : Int) = 2) := fun h => hC (.inr (by omega))
          have hS := hinv.fin hC
          refine ex_run 30 ?_
          simp (maxSteps := 200000) only [n1, n2, push_cast, List.getD_cons_zero, List.getD_cons_succ, List.take_succ_cons, List.take_zero, List.drop_succ_cons, Nat.reduceLT, Nat.reduceLeDiff, Nat.reduceEqDiff, Nat.reduceAdd, Nat.reduceMul, Nat.reduceSub, Int.reduceToNat, Int.reduceLE, Int.reduceLT, Int.reduceEq, Int.reduceAdd, ↓reduceIte, decide_true, decide_false, and_self]
          rw [hS, if_pos (show (-1 : Int) < 0 by decide)]
          have hcl := subCells_closed acc
          have hsl := subCells_length acc
          have htk : (subCells acc).take (acc.length * 2) = subCells acc := List.take_of_length_le (by omega)
          exact ⟨[.agg [.str tag, .nilS, .int .u8 (b.getD 0 0), .int .u8 (b.getD 1 0), .own 100 gs 0 acc.length], .agg [.int .i64 0, .int .i64 0]], [.agg [.str tag, .nilS, .int .u8 (b.getD 0 0), .int .u8 (b.getD 1 0), .sl acc.length (subCells acc)], .agg [.int .i64 0, .int .i64 0]],
            by kernel_rfl, by simp [outA, outV, outL, outC, AV.closed, mkS_tk, lkG, htk, hcl], sub_tup (ds := [.agg (fCells ⟨tag, [], b.getD 0 0, b.getD 1 0, acc⟩), .agg [.int .i64 0, .int .i64 0]]) ⟨sub_agg ⟨.refl _, .nil, .refl _, .refl _, .refl _, trivial⟩, .refl _, trivial⟩, rfl⟩
end Go.Proofs.Yteapibifebnboaa

/- ref01.Same, ref19.free, ref19.Bytes -/
set_option linter.unusedVariables false
set_option linter.unusedSimpArgs false
namespace Go.Proofs.Yteapibifebnboaa
open Go Go.Eng
set_option maxRecDepth 100000 in
theorem rfree_c (c : Int) : ACall Try.prog 50 [.int .u8 c] (.bool (freeB c)) none := by
  refine acall_intro none Try.func50 rfl (by kernel_rfl) (by simp [Try.f50]) ?_
  refine ex_run 30 ?_
  by_cases h1 : c < 29
  · simp (maxSteps := 200000) only [Try.f50, h1, push_cast, List.getD_cons_zero, List.getD_cons_succ, List.take_succ_cons, List.take_zero, List.drop_succ_cons, Nat.reduceLT, Nat.reduceLeDiff, Nat.reduceEqDiff, Nat.reduceAdd, Nat.reduceMul, Nat.reduceSub, Int.reduceToNat, Int.reduceLE, Int.reduceLT, Int.reduceEq, Int.reduceAdd, ↓reduceIte, decide_true, decide_false, and_self]
    exact ⟨_, _, rfl, rfl, .of_eq (by simp [freeB, pack, mkS_env, lkF]; omega), rfl⟩
  · simp (maxSteps := 200000) only [Try.f50, h1, push_cast, List.getD_cons_zero, List.getD_cons_succ, List.take_succ_cons, List.take_zero, List.drop_succ_cons, Nat.reduceLT, Nat.reduceLeDiff, Nat.reduceEqDiff, Nat.reduceAdd, Nat.reduceMul, Nat.reduceSub, Int.reduceToNat, Int.reduceLE, Int.reduceLT, Int.reduceEq, Int.reduceAdd, ↓reduceIte, decide_true, decide_false, and_self]
    refine ⟨_, _, rfl, rfl, .of_eq (congrArg AV.bool ?_), rfl⟩
    by_cases h2 : 31 < c
    · simp [freeB, h2]; omega
    · simp [freeB, h2]; omega
theorem take_eq_succ {a b : List Int} {i : Nat} (ha : i < a.length) (hb : i < b.length) (h : a.take i = b.take i) (he : a.getD i 0 = b.getD i 0) : a.take (i + 1) = b.take (i + 1) := by
  rw [take_succ_getD ha, take_succ_getD hb, h, he]
theorem getD_ne {a b : List Int} {i : Nat} (he : a.getD i 0 ≠ b.getD i 0) : (a == b) = false := by
  rw [beq_eq_false_iff_ne]; intro h; exact he (by rw [h])
set_option maxRecDepth 100000 in
theorem same_c (a b : List Int) (ha : a.length ≤ 9223372036854775807) : ACall Try.prog 27 [.sl a.length (u8s a), .sl b.length (u8s b)] (.bool (a == b)) none := by
  refine acall_intro none Try.func27 rfl (by kernel_rfl) (by simp [Try.f27]) ?_
  refine ex_run 30 ?_
  by_cases hl : a.length = b.length
  · have hl' : (a.length : Int) = (b.length : Int) := by omega
    simp (maxSteps := 200000) only [Try.f27, hl', push_cast, List.getD_cons_zero, List.getD_cons_succ, List.take_succ_cons, List.take_zero, List.drop_succ_cons, Nat.reduceLT, Nat.reduceLeDiff, Nat.reduceEqDiff, Nat.reduceAdd, Nat.reduceMul, Nat.reduceSub, Int.reduceToNat, Int.reduceLE, Int.reduceLT, Int.reduceEq, Int.reduceAdd, ↓reduceIte, decide_true, decide_false, and_self]
    refine run_keep (l' := [(0, .sl a.length (u8s a)), (1, .sl b.length (u8s b)), (4, .bool false), (5, .int .i64 0)]) (t' := []) (nx' := _) ⟨.refl _, .refl _, .refl _, .refl _, trivial⟩ trivial (Nat.le_refl _) ?_
    refine run_loop (fun n s => ∃ (i nx : Nat), i ≤ a.length ∧ n = a.length - i ∧ a.take i = b.take i ∧ s = mkS [(0, .sl a.length (u8s a)), (1, .sl b.length (u8s b)), (4, .bool false), (5, .int .i64 i)] [] nx) _ ⟨0, _, Nat.zero_le _, rfl, rfl, rfl⟩ ?_
    rintro n s ⟨i, nx, hi, rfl, heq, rfl⟩
    by_cases h : i < a.length
    · have hb : i < b.length := by omega
      have ga := u8s_getD a i h
      have gb := u8s_getD b i hb
      have pa : 0 < a.length := by omega
      have pb : 0 < b.length := by omega
      have hw : IntKind.i64.wrap ((i : Int) + 1) = ((i + 1 : Nat) : Int) := by rw [wrap_i64 (by omega)]; omega
      refine ex_run 30 ?_
      by_cases he : a.getD i 0 = b.getD i 0
      · have hs := take_eq_succ h hb heq he
        simp (maxSteps := 200000) only [h, hb, ga, gb, pa, pb, he, hw, push_cast, List.getD_cons_zero, List.getD_cons_succ, List.take_succ_cons, List.take_zero, List.drop_succ_cons, Nat.reduceLT, Nat.reduceLeDiff, Nat.reduceEqDiff, Nat.reduceAdd, Nat.reduceMul, Nat.reduceSub, Int.reduceToNat, Int.reduceLE, Int.reduceLT, Int.reduceEq, Int.reduceAdd, ↓reduceIte, decide_true, decide_false, and_self]
        refine ⟨by kernel_rfl, by kernel_rfl, ?_⟩
        refine run_back_le (le_mk (l' := [(0, .sl a.length (u8s a)), (1, .sl b.length (u8s b)), (4, .bool false), (5, .int .i64 ((i + 1 : Nat) : Int))]) (t' := []) (nx' := _) ⟨.refl _, .refl _, .refl _, .of_eq (congrArg (AV.int .i64) (by omega)), trivial⟩ trivial (Nat.le_refl _)) ?_
        exact ⟨a.length - (i + 1), by omega, i + 1, _, by omega, rfl, hs, rfl⟩
      · simp (maxSteps := 200000) only [h, hb, ga, gb, pa, pb, he, hw, push_cast, List.getD_cons_zero, List.getD_cons_succ, List.take_succ_cons, List.take_zero, List.drop_succ_cons, Nat.reduceLT, Nat.reduceLeDiff, Nat.reduceEqDiff, Nat.reduceAdd, Nat.reduceMul, Nat.reduceSub, Int.reduceToNat, Int.reduceLE, Int.reduceLT, Int.reduceEq, Int.reduceAdd, ↓reduceIte, decide_true, decide_false, and_self]
        refine ⟨by kernel_rfl, by kernel_rfl, ?_⟩
        exact ⟨_, _, rfl, rfl, .of_eq (by rw [getD_ne he]; rfl), rfl⟩
    · refine ex_run 30 ?_
      simp (maxSteps := 200000) only [h, push_cast, List.getD_cons_zero, List.getD_cons_succ, List.take_succ_cons, List.take_zero, List.drop_succ_cons, Nat.reduceLT, Nat.reduceLeDiff, Nat.reduceEqDiff, Nat.reduceAdd, Nat.reduceMul, Nat.reduceSub, Int.reduceToNat, Int.reduceLE, Int.reduceLT, Int.reduceEq, Int.reduceAdd, ↓reduceIte, decide_true, decide_false, and_self]
      rw [List.take_of_length_le (by omega), List.take_of_length_le (by omega)] at heq
      exact ⟨_, _, rfl, rfl, .of_eq (by rw [heq, beq_self_eq_true]; rfl), rfl⟩
  · have hl' : ¬ (a.length : Int) = (b.length : Int) := by omega
    simp (maxSteps := 200000) only [Try.f27, hl', push_cast, List.getD_cons_zero, List.getD_cons_succ, List.take_succ_cons, List.take_zero, List.drop_succ_cons, Nat.reduceLT, Nat.reduceLeDiff, Nat.reduceEqDiff, Nat.reduceAdd, Nat.reduceMul, Nat.reduceSub, Int.reduceToNat, Int.reduceLE, Int.reduceLT, Int.reduceEq, Int.reduceAdd, ↓reduceIte, decide_true, decide_false, and_self]
    have e : (a == b) = false := by rw [beq_eq_false_iff_ne]; intro h; exact hl (by rw [h])
    exact ⟨_, _, rfl, rfl, .of_eq (by rw [e]; rfl), rfl⟩
def subB (s : SubV) : List Int := 31 :: s.1 :: s.2
/-- A field's bytes. -/
def fbytes (f : FV) : List Int := if ctl f.tag = true then f.text else f.i0 :: f.i1 :: f.subs.flatMap subB
theorem subCells_get (L : List SubV) (i j : Nat) (hi : i < L.length) (hj : j < 2) : (subCells L).getD (i * 2 + j) .dead = (sCells L[i]).getD j .dead := by
  have h : ∀ (l : List SubV) (i : Nat) (hi : i < l.length), (subCells l).drop (i * 2) = sCells l[i] ++ (subCells l).drop (i * 2 + 2) := by
    intro l
    induction l with
    | nil => intro i hi; simp at hi
    | cons a l ih =>
      intro i hi
      cases i with
      | zero => simp [subCells, sCells]
      | succ i =>
        have := ih i (by simpa using hi)
        have e : ∀ m, (subCells (a :: l)).drop (m + 2) = (subCells l).drop m := fun m => by
          show (sCells a ++ subCells l).drop (m + 2) = _
          rw [List.drop_append, show (sCells a).length = 2 from rfl, List.drop_of_length_le (by simp [sCells])]; simp
        rw [Nat.succ_mul, e, this, e]; rfl
  rw [List.getD_eq_getElem?_getD, List.getD_eq_getElem?_getD, ← List.getElem?_drop, h L i hi, List.getElem?_append_left (by simp [sCells]; omega)]
theorem flat_snoc (L : List SubV) (i : Nat) (hi : i < L.length) : (L.take (i + 1)).flatMap subB = (L.take i).flatMap subB ++ subB L[i] := by
  rw [List.take_add_one, List.getElem?_eq_getElem hi, List.flatMap_append]; simp
theorem flat_le (L : List SubV) (i : Nat) : ((L.take i).flatMap subB).length ≤ (L.flatMap subB).length := by
  conv => rhs; rw [← List.take_append_drop i L, List.flatMap_append, List.length_append]
  omega
theorem sub_len_le {L : List SubV} {s : SubV} (h : s ∈ L) : s.2.length ≤ (L.flatMap subB).length := by
  obtain ⟨a, b, rfl⟩ := List.append_of_mem h
  simp [subB]; omega
theorem flat_cnt : ∀ L : List SubV, L.length * 2 ≤ (L.flatMap subB).length
  | [] => by simp
  | s :: L => by have := flat_cnt L; rw [List.flatMap_cons, List.length_append, List.length_cons]; simp only [subB, List.length_cons]; omega
def outB (f : FV) (i : Nat) : List Int := f.i0 :: f.i1 :: (f.subs.take i).flatMap subB
theorem outB_succ (f : FV) (i : Nat) (hi : i < f.subs.length) : outB f (i + 1) = outB f i ++ 31 :: f.subs[i].1 :: f.subs[i].2 := by
  unfold outB; rw [flat_snoc _ _ hi]; rfl
set_option maxRecDepth 100000 in
set_option maxHeartbeats 4000000 in
theorem rbytes_c (f : FV) (ht : f.tag.length ≤ 9223372036854775807) (hb : (fbytes f).length ≤ 70368744177664) : ACall Try.prog 25 [.agg (fCells f)] (.own 0 0 0 (fbytes f).length) (some ⟨0, 1, u8s (fbytes f)⟩) := by
  cases hc : ctl f.tag with
  | true =>
    have e : fbytes f = f.text := by unfold fbytes; rw [if_pos hc]
    rw [e] at hb ⊢
    refine acall_intro (some 8) Try.func25 rfl (by kernel_rfl) (by simp [Try.f25]) ?_
    refine ex_run 30 ?_
    simp (maxSteps := 200000) only [Try.f25, fCells, push_cast, List.getD_cons_zero, List.getD_cons_succ, List.take_succ_cons, List.take_zero, List.drop_succ_cons, Nat.reduceLT, Nat.reduceLeDiff, Nat.reduceEqDiff, Nat.reduceAdd, Nat.reduceMul, Nat.reduceSub, Int.reduceToNat, Int.reduceLE, Int.reduceLT, Int.reduceEq, Int.reduceAdd, ↓reduceIte, decide_true, decide_false, and_self]
    refine call_intro (RControl_c f.tag ht) (fun h => by cases h) ?_
    rw [show List.isPrefixOf [48, 48] f.tag = true from hc]
    simp (maxSteps := 200000) only [push_cast, List.getD_cons_zero, List.getD_cons_succ, List.take_succ_cons, List.take_zero, List.drop_succ_cons, Nat.reduceLT, Nat.reduceLeDiff, Nat.reduceEqDiff, Nat.reduceAdd, Nat.reduceMul, Nat.reduceSub, Int.reduceToNat, Int.reduceLE, Int.reduceLT, Int.reduceEq, Int.reduceAdd, ↓reduceIte, decide_true, decide_false, and_self]
    refine ⟨⟨by omega, by omega⟩, ?_⟩
    exact ⟨_, [.own 0 0 0 f.text.length], rfl, by simp [outA, outV, outC, mkS_env, mkS_tk, lkF, lkG, AV.closed], .refl _, ⟨_, rfl, u8s_closed _, rfl⟩⟩
  | false =>
    have e : fbytes f = f.i0 :: f.i1 :: f.subs.flatMap subB := by unfold fbytes; rw [if_neg (by rw [hc]; simp)]
    rw [e] at hb ⊢
    refine acall_intro (some 18) Try.func25 rfl (by kernel_rfl) (by simp [Try.f25]) ?_
    refine ex_run 30 ?_
    simp (maxSteps := 200000) only [Try.f25, fCells, push_cast, List.getD_cons_zero, List.getD_cons_succ, List.take_succ_cons, List.take_zero, List.drop_succ_cons, Nat.reduceLT, Nat.reduceLeDiff, Nat.reduceEqDiff, Nat.reduceAdd, Nat.reduceMul, Nat.reduceSub, Int.reduceToNat, Int.reduceLE, Int.reduceLT, Int.reduceEq, Int.reduceAdd, ↓reduceIte, decide_true, decide_false, and_self]
    refine call_intro (RControl_c f.tag ht) (fun h => by cases h) ?_
    rw [show List.isPrefixOf [48, 48] f.tag = false from hc]
    simp (maxSteps := 200000) only [push_cast, List.getD_cons_zero, List.getD_cons_succ, List.take_succ_cons, List.take_zero, List.drop_succ_cons, Nat.reduceLT, Nat.reduceLeDiff, Nat.reduceEqDiff, Nat.reduceAdd, Nat.reduceMul, Nat.reduceSub, Int.reduceToNat, Int.reduceLE, Int.reduceLT, Int.reduceEq, Int.reduceAdd, ↓reduceIte, decide_true, decide_false, and_self]
    refine run_keep (l' := [(1, .addr 1 0 0), (3, .own 18 11 0 (outB f 0).length), (4, .int .i64 0)]) (t' := [(18, ⟨11, 1, u8s (outB f 0)⟩), (1, ⟨0, 1, fCells f⟩)]) (nx' := _) ⟨.refl _, .refl _, .refl _, trivial⟩ ⟨⟨_, rfl, rfl, rfl, SubL.refl _⟩, ⟨_, rfl, rfl, rfl, SubL.refl _⟩, trivial⟩ (Nat.le_refl _) ?_
    refine run_loop (fun n s => ∃ (i g nx : Nat), i ≤ f.subs.length ∧ n = f.subs.length - i ∧ s = mkS [(1, .addr 1 0 0), (3, .own 18 g 0 (outB f i).length), (4, .int .i64 i)] [(18, ⟨g, 1, u8s (outB f i)⟩), (1, ⟨0, 1, fCells f⟩)] nx) _ ⟨0, 11, _, Nat.zero_le _, rfl, rfl⟩ ?_
    rintro n s ⟨i, g, nx, hi, rfl, rfl⟩
    have hbl : (f.subs.flatMap subB).length + 2 ≤ 70368744177664 := by simpa using hb
    have hcnt := flat_cnt f.subs
    by_cases h : i < f.subs.length
    · have g0 := subCells_get f.subs i 0 h (by omega)
      have g1 := subCells_get f.subs i 1 h (by omega)
      have hsl := subCells_length f.subs
      have hpos : 0 < f.subs.length * 2 := by omega
      have l0 : i * 2 < f.subs.length * 2 := by omega
      have l1 : i * 2 + 1 < f.subs.length * 2 := by omega
      have hw : IntKind.i64.wrap ((i : Int) + 1) = ((i + 1 : Nat) : Int) := by rw [wrap_i64 (by omega)]; omega
      have hos := outB_succ f i h
      have hle := flat_le f.subs (i + 1)
      have hol : (outB f (i + 1)).length = ((f.subs.take (i + 1)).flatMap subB).length + 2 := by simp [outB]
      have hol2 := congrArg List.length hos
      simp only [List.length_append, List.length_cons] at hol2
      generalize f.subs[i] = q at *
      obtain ⟨c, tx⟩ := q
      simp only [sCells, List.getD_cons_zero, List.getD_cons_succ, Nat.add_zero] at g0 g1
      simp only at hos hol2
      refine ex_run 30 ?_
      simp (maxSteps := 200000) only [fCells, h, g0, g1, hsl, hpos, l0, l1, hw, push_cast, List.getD_cons_zero, List.getD_cons_succ, List.take_succ_cons, List.take_zero, List.drop_succ_cons, Nat.reduceLT, Nat.reduceLeDiff, Nat.reduceEqDiff, Nat.reduceAdd, Nat.reduceMul, Nat.reduceSub, Int.reduceToNat, Int.reduceLE, Int.reduceLT, Int.reduceEq, Int.reduceAdd, ↓reduceIte, decide_true, decide_false, and_self]
      refine ⟨by kernel_rfl, ⟨by omega, by omega⟩, ⟨by simp [u8s], by omega, by omega⟩, by kernel_rfl, ?_⟩
      have hoc : u8s (outB f i) ++ [.int .u8 31, .int .u8 c] ++ u8s tx = u8s (outB f (i + 1)) := by rw [hos]; simp [u8s]
      have hol3 : (outB f i).length + 2 + tx.length = (outB f (i + 1)).length := by omega
      rw [hoc, hol3]
      refine run_back_le (le_mk (l' := [(1, .addr 1 0 0), (3, .own 18 _ 0 (outB f (i + 1)).length), (4, .int .i64 ((i + 1 : Nat) : Int))]) (t' := [(18, ⟨_, 1, u8s (outB f (i + 1))⟩), (1, ⟨0, 1, fCells f⟩)]) (nx' := _)
        ⟨.refl _, .refl _, .of_eq (congrArg (AV.int .i64) (by omega)), trivial⟩ ⟨⟨_, rfl, rfl, rfl, SubL.refl _⟩, ⟨_, rfl, rfl, rfl, SubL.refl _⟩, trivial⟩ (Nat.le_refl _)) ?_
      exact ⟨f.subs.length - (i + 1), by omega, i + 1, _, _, by omega, rfl, rfl⟩
    · have hie : i = f.subs.length := by omega
      subst hie
      refine ex_run 30 ?_
      simp (maxSteps := 200000) only [fCells, h, push_cast, List.getD_cons_zero, List.getD_cons_succ, List.take_succ_cons, List.take_zero, List.drop_succ_cons, Nat.reduceLT, Nat.reduceLeDiff, Nat.reduceEqDiff, Nat.reduceAdd, Nat.reduceMul, Nat.reduceSub, Int.reduceToNat, Int.reduceLE, Int.reduceLT, Int.reduceEq, Int.reduceAdd, ↓reduceIte, decide_true, decide_false, and_self]
      have hoe : outB f f.subs.length = f.i0 :: f.i1 :: f.subs.flatMap subB := by unfold outB; rw [List.take_length]
      rw [hoe]
      exact ⟨_, [.own 0 0 0 (f.i0 :: f.i1 :: f.subs.flatMap subB).length], rfl, by simp [outA, outV, outC, mkS_env, mkS_tk, lkF, lkG, AV.closed], .refl _, ⟨_, rfl, u8s_closed _, rfl⟩⟩
end Go.Proofs.Yteapibifebnboaa

/- ref19.Same -/
set_option linter.unusedVariables false
set_option linter.unusedSimpArgs false
namespace Go.Proofs.Yteapibifebnboaa
open Go Go.Eng
theorem eqInd (a b c d : Int) : aeq Try.prog 6 39 [.int .u8 a, .int .u8 b] [.int .u8 c, .int .u8 d] = some ((a == c) && ((b == d) && true)) := by kernel_rfl
theorem eqgInd : Try.prog.eqGuardType Try.prog.depth 39 = false := by kernel_rfl
theorem rowInd : rowT Try.prog 39 = true := by kernel_rfl
attribute [push_cast high] eqInd eqgInd rowInd
deriving instance DecidableEq for FV
def sameB (f g : FV) : Bool := decide (f = g)
theorem sameB_eq {f g : FV} (h1 : f.tag = g.tag) (h2 : f.i0 = g.i0) (h3 : f.i1 = g.i1) (h4 : f.text = g.text) (h5 : f.subs = g.subs) : sameB f g = true := by
  unfold sameB; apply decide_eq_true; cases f; cases g; simp_all
theorem sameB_ne {f g : FV} (h : f ≠ g) : sameB f g = false := decide_eq_false h
set_option maxRecDepth 100000 in
set_option maxHeartbeats 4000000 in
theorem rsame_c (f g : FV) (hf : f.text.length ≤ 9223372036854775807) (hs : ∀ s ∈ f.subs, s.2.length ≤ 9223372036854775807) (hn : f.subs.length ≤ 9223372036854775806) : ACall Try.prog 29 [.agg (fCells f), .agg (fCells g)] (.bool (sameB f g)) none := by
  refine acall_intro none Try.func29 rfl (by kernel_rfl) (by simp [Try.f29]) ?_
  refine ex_run 30 ?_
  by_cases h1 : f.tag = g.tag
  · have h1' : (f.tag == g.tag) = true := by rw [h1]; simp
    by_cases h2 : f.i0 = g.i0
    · by_cases h3 : f.i1 = g.i1
      · simp (maxSteps := 200000) only [Try.f29, fCells, h1', h2, h3, beq_self_eq_true, Bool.false_and, Bool.and_false, push_cast, List.getD_cons_zero, List.getD_cons_succ, List.take_succ_cons, List.take_zero, List.drop_succ_cons, Nat.reduceLT, Nat.reduceLeDiff, Nat.reduceEqDiff, Nat.reduceAdd, Nat.reduceMul, Nat.reduceSub, Int.reduceToNat, Int.reduceLE, Int.reduceLT, Int.reduceEq, Int.reduceAdd, ↓reduceIte, decide_true, decide_false, and_self]
        refine call_intro (same_c f.text g.text hf) (fun h => by cases h) ?_
        by_cases h4 : f.text = g.text
        · have h4' : (f.text == g.text) = true := by rw [h4]; simp
          rw [h4']
          by_cases h5 : f.subs.length = g.subs.length
          · have h5' : (f.subs.length : Int) = (g.subs.length : Int) := by omega
            simp (maxSteps := 200000) only [h5', push_cast, List.getD_cons_zero, List.getD_cons_succ, List.take_succ_cons, List.take_zero, List.drop_succ_cons, Nat.reduceLT, Nat.reduceLeDiff, Nat.reduceEqDiff, Nat.reduceAdd, Nat.reduceMul, Nat.reduceSub, Int.reduceToNat, Int.reduceLE, Int.reduceLT, Int.reduceEq, Int.reduceAdd, ↓reduceIte, decide_true, decide_false, and_self]
            refine run_keep (l' := [(2, .addr 2 0 0), (3, .addr 3 1 0), (5, .int .i64 0)])
              (t' := [(2, ⟨0, 1, [.str f.tag, .sl f.text.length (u8s f.text), .int .u8 g.i0, .int .u8 g.i1, .sl f.subs.length (subCells f.subs)]⟩), (3, ⟨1, 1, [.str g.tag, .sl g.text.length (u8s g.text), .int .u8 g.i0, .int .u8 g.i1, .sl g.subs.length (subCells g.subs)]⟩)]) (nx' := _)
              ⟨.refl _, .refl _, .refl _, trivial⟩ ⟨⟨_, rfl, rfl, rfl, SubL.refl _⟩, ⟨_, rfl, rfl, rfl, SubL.refl _⟩, trivial⟩ (Nat.le_refl _) ?_
            refine run_loop (fun n s => ∃ (i nx : Nat), i ≤ f.subs.length ∧ n = f.subs.length - i ∧ f.subs.take i = g.subs.take i ∧ s = mkS [(2, .addr 2 0 0), (3, .addr 3 1 0), (5, .int .i64 i)]
              [(2, ⟨0, 1, [.str f.tag, .sl f.text.length (u8s f.text), .int .u8 g.i0, .int .u8 g.i1, .sl f.subs.length (subCells f.subs)]⟩), (3, ⟨1, 1, [.str g.tag, .sl g.text.length (u8s g.text), .int .u8 g.i0, .int .u8 g.i1, .sl g.subs.length (subCells g.subs)]⟩)] nx) _ ⟨0, _, Nat.zero_le _, rfl, rfl, rfl⟩ ?_
            rintro n s ⟨i, nx, hi, rfl, heq, rfl⟩
            by_cases h : i < f.subs.length
            · have hg : i < g.subs.length := by omega
              have f0 := subCells_get f.subs i 0 h (by omega)
              have f1 := subCells_get f.subs i 1 h (by omega)
              have g0 := subCells_get g.subs i 0 hg (by omega)
              have g1 := subCells_get g.subs i 1 hg (by omega)
              have fl := subCells_length f.subs
              have gl := subCells_length g.subs
              have pf : 0 < f.subs.length * 2 := by omega
              have pg : 0 < g.subs.length * 2 := by omega
              have a0 : i * 2 < f.subs.length * 2 := by omega
              have a1 : i * 2 + 1 < f.subs.length * 2 := by omega
              have b0 : i * 2 < g.subs.length * 2 := by omega
              have b1 : i * 2 + 1 < g.subs.length * 2 := by omega
              have hw : IntKind.i64.wrap ((i : Int) + 1) = ((i + 1 : Nat) : Int) := by rw [wrap_i64 (by omega)]; omega
              have hst := hs _ (List.getElem_mem h)
              have hstep : f.subs[i] = g.subs[i] → f.subs.take (i + 1) = g.subs.take (i + 1) := fun e => by
                rw [List.take_add_one, List.take_add_one, heq, List.getElem?_eq_getElem h, List.getElem?_eq_getElem hg, e]
              have hne : f.subs[i] ≠ g.subs[i] → sameB f g = false := fun e => sameB_ne fun e2 => e (by subst e2; rfl)
              generalize f.subs[i] = p at *
              generalize g.subs[i] = q at *
              obtain ⟨c, x⟩ := p
              obtain ⟨d, y⟩ := q
              simp only [sCells, List.getD_cons_zero, List.getD_cons_succ, Nat.add_zero] at f0 f1 g0 g1
              simp only at hst
              refine ex_run 30 ?_
              by_cases hcd : c = d
              · simp (maxSteps := 200000) only [h, hg, f0, f1, g0, g1, fl, gl, pf, pg, a0, a1, b0, b1, hcd, push_cast, List.getD_cons_zero, List.getD_cons_succ, List.take_succ_cons, List.take_zero, List.drop_succ_cons, Nat.reduceLT, Nat.reduceLeDiff, Nat.reduceEqDiff, Nat.reduceAdd, Nat.reduceMul, Nat.reduceSub, Int.reduceToNat, Int.reduceLE, Int.reduceLT, Int.reduceEq, Int.reduceAdd, ↓reduceIte, decide_true, decide_false, and_self]
                refine ⟨by kernel_rfl, ?_⟩
                refine call_introF (same_c x y hst) (fun h => by cases h) ?_
                by_cases hxy : x = y
                · have hxy' : (x == y) = true := by rw [hxy]; simp
                  rw [hxy']
                  simp (maxSteps := 200000) only [hw, push_cast, List.getD_cons_zero, List.getD_cons_succ, List.take_succ_cons, List.take_zero, List.drop_succ_cons, Nat.reduceLT, Nat.reduceLeDiff, Nat.reduceEqDiff, Nat.reduceAdd, Nat.reduceMul, Nat.reduceSub, Int.reduceToNat, Int.reduceLE, Int.reduceLT, Int.reduceEq, Int.reduceAdd, ↓reduceIte, decide_true, decide_false, and_self]
                  refine ⟨by kernel_rfl, ?_⟩
                  refine run_back_le (le_mk (l' := [(2, .addr 2 0 0), (3, .addr 3 1 0), (5, .int .i64 ((i + 1 : Nat) : Int))])
                    (t' := [(2, ⟨0, 1, [.str f.tag, .sl f.text.length (u8s f.text), .int .u8 g.i0, .int .u8 g.i1, .sl f.subs.length (subCells f.subs)]⟩), (3, ⟨1, 1, [.str g.tag, .sl g.text.length (u8s g.text), .int .u8 g.i0, .int .u8 g.i1, .sl g.subs.length (subCells g.subs)]⟩)]) (nx' := _)
                    ⟨.refl _, .refl _, .of_eq (congrArg (AV.int .i64) (by omega)), trivial⟩ ⟨⟨_, rfl, rfl, rfl, SubL.refl _⟩, ⟨_, rfl, rfl, rfl, SubL.refl _⟩, trivial⟩ (Nat.le_refl _)) ?_
                  exact ⟨f.subs.length - (i + 1), by omega, i + 1, _, by omega, rfl, hstep (by rw [hcd, hxy]), rfl⟩
                · have hxy' : (x == y) = false := by simpa using hxy
                  rw [hxy']
                  simp (maxSteps := 200000) only [hw, push_cast, List.getD_cons_zero, List.getD_cons_succ, List.take_succ_cons, List.take_zero, List.drop_succ_cons, Nat.reduceLT, Nat.reduceLeDiff, Nat.reduceEqDiff, Nat.reduceAdd, Nat.reduceMul, Nat.reduceSub, Int.reduceToNat, Int.reduceLE, Int.reduceLT, Int.reduceEq, Int.reduceAdd, ↓reduceIte, decide_true, decide_false, and_self]
                  refine ⟨by kernel_rfl, ?_⟩
                  exact ⟨_, _, rfl, rfl, .of_eq (by rw [hne (fun e => hxy (by cases e; rfl))]; rfl), rfl⟩
              · simp (maxSteps := 200000) only [h, hg, f0, f1, g0, g1, fl, gl, pf, pg, a0, a1, b0, b1, hcd, push_cast, List.getD_cons_zero, List.getD_cons_succ, List.take_succ_cons, List.take_zero, List.drop_succ_cons, Nat.reduceLT, Nat.reduceLeDiff, Nat.reduceEqDiff, Nat.reduceAdd, Nat.reduceMul, Nat.reduceSub, Int.reduceToNat, Int.reduceLE, Int.reduceLT, Int.reduceEq, Int.reduceAdd, ↓reduceIte, decide_true, decide_false, and_self]
                refine ⟨by kernel_rfl, by kernel_rfl, ?_⟩
                exact ⟨_, _, rfl, rfl, .of_eq (by rw [hne (fun e => hcd (by cases e; rfl))]; rfl), rfl⟩
            · refine ex_run 30 ?_
              simp (maxSteps := 200000) only [h, push_cast, List.getD_cons_zero, List.getD_cons_succ, List.take_succ_cons, List.take_zero, List.drop_succ_cons, Nat.reduceLT, Nat.reduceLeDiff, Nat.reduceEqDiff, Nat.reduceAdd, Nat.reduceMul, Nat.reduceSub, Int.reduceToNat, Int.reduceLE, Int.reduceLT, Int.reduceEq, Int.reduceAdd, ↓reduceIte, decide_true, decide_false, and_self]
              rw [List.take_of_length_le (by omega), List.take_of_length_le (by omega)] at heq
              exact ⟨_, _, rfl, rfl, .of_eq (by rw [sameB_eq h1 h2 h3 h4 heq]; rfl), rfl⟩
          · have h5' : ¬ (f.subs.length : Int) = (g.subs.length : Int) := by omega
            simp (maxSteps := 200000) only [h5', push_cast, List.getD_cons_zero, List.getD_cons_succ, List.take_succ_cons, List.take_zero, List.drop_succ_cons, Nat.reduceLT, Nat.reduceLeDiff, Nat.reduceEqDiff, Nat.reduceAdd, Nat.reduceMul, Nat.reduceSub, Int.reduceToNat, Int.reduceLE, Int.reduceLT, Int.reduceEq, Int.reduceAdd, ↓reduceIte, decide_true, decide_false, and_self]
            exact ⟨_, _, rfl, rfl, .of_eq (by rw [sameB_ne (fun e => h5 (by rw [e]))]; rfl), rfl⟩
        · have h4' : (f.text == g.text) = false := by simpa using h4
          rw [h4']
          simp (maxSteps := 200000) only [push_cast, List.getD_cons_zero, List.getD_cons_succ, List.take_succ_cons, List.take_zero, List.drop_succ_cons, Nat.reduceLT, Nat.reduceLeDiff, Nat.reduceEqDiff, Nat.reduceAdd, Nat.reduceMul, Nat.reduceSub, Int.reduceToNat, Int.reduceLE, Int.reduceLT, Int.reduceEq, Int.reduceAdd, ↓reduceIte, decide_true, decide_false, and_self]
          exact ⟨_, _, rfl, rfl, .of_eq (by rw [sameB_ne (fun e => h4 (by rw [e]))]; rfl), rfl⟩
      · simp (maxSteps := 200000) only [Try.f29, fCells, h1', h2, h3, beq_self_eq_true, Bool.false_and, Bool.and_false, push_cast, List.getD_cons_zero, List.getD_cons_succ, List.take_succ_cons, List.take_zero, List.drop_succ_cons, Nat.reduceLT, Nat.reduceLeDiff, Nat.reduceEqDiff, Nat.reduceAdd, Nat.reduceMul, Nat.reduceSub, Int.reduceToNat, Int.reduceLE, Int.reduceLT, Int.reduceEq, Int.reduceAdd, ↓reduceIte, decide_true, decide_false, and_self]
        exact ⟨_, _, rfl, rfl, .of_eq (by rw [sameB_ne (fun e => h3 (by rw [e]))]; rfl), rfl⟩
    · simp (maxSteps := 200000) only [Try.f29, fCells, h1', h2, Bool.false_and, Bool.and_false, push_cast, List.getD_cons_zero, List.getD_cons_succ, List.take_succ_cons, List.take_zero, List.drop_succ_cons, Nat.reduceLT, Nat.reduceLeDiff, Nat.reduceEqDiff, Nat.reduceAdd, Nat.reduceMul, Nat.reduceSub, Int.reduceToNat, Int.reduceLE, Int.reduceLT, Int.reduceEq, Int.reduceAdd, ↓reduceIte, decide_true, decide_false, and_self]
      exact ⟨_, _, rfl, rfl, .of_eq (by rw [sameB_ne (fun e => h2 (by rw [e]))]; rfl), rfl⟩
  · have h1' : (f.tag == g.tag) = false := by simpa using h1
    simp (maxSteps := 200000) only [Try.f29, fCells, h1', push_cast, List.getD_cons_zero, List.getD_cons_succ, List.take_succ_cons, List.take_zero, List.drop_succ_cons, Nat.reduceLT, Nat.reduceLeDiff, Nat.reduceEqDiff, Nat.reduceAdd, Nat.reduceMul, Nat.reduceSub, Int.reduceToNat, Int.reduceLE, Int.reduceLT, Int.reduceEq, Int.reduceAdd, ↓reduceIte, decide_true, decide_false, and_self]
    exact ⟨_, _, rfl, rfl, .of_eq (by rw [sameB_ne (fun e => h1 (by rw [e]))]; rfl), rfl⟩
end Go.Proofs.Yteapibifebnboaa
