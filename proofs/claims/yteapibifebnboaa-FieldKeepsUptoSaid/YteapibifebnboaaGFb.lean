/- GFb: the texts FldG, FldH, FldI, FldJ, one behind the other. -/
import Derived.Test.YteapibifebnboaaGFa
import Derived.Test.YteapibifebnboaaGEc
set_option linter.unusedVariables false
set_option linter.unusedSimpArgs false

/- field: the subfields, byte by byte, as plain lists. -/
set_option linter.unusedVariables false
namespace Go.Proofs.Yteapibifebnboaa
open Go Go.Eng
theorem drop_getD (b : List Int) (a i : Nat) : (b.drop a).getD i 0 = b.getD (a + i) 0 := by
  rw [List.getD_eq_getElem?_getD, List.getElem?_drop, ← List.getD_eq_getElem?_getD]
def txt (b : List Int) (at_ i : Nat) : List Int := (b.drop (at_ + 2)).take (i - at_ - 2)
theorem txt_length {b : List Int} {at_ i : Nat} (h : i ≤ b.length) (h2 : at_ + 2 ≤ i) : (txt b at_ i).length = i - at_ - 2 := by
  unfold txt; rw [List.length_take, List.length_drop]; omega
theorem txt_nil (b : List Int) (at_ : Nat) : txt b at_ (at_ + 2) = [] := by
  unfold txt; rw [show at_ + 2 - at_ - 2 = 0 by omega]; rfl
theorem txt_succ {b : List Int} {at_ i : Nat} (h : i < b.length) (h2 : at_ + 2 ≤ i) : txt b at_ (i + 1) = txt b at_ i ++ [b.getD i 0] := by
  unfold txt
  rw [show i + 1 - at_ - 2 = (i - at_ - 2) + 1 by omega, take_succ_getD (by rw [List.length_drop]; omega), drop_getD, show at_ + 2 + (i - at_ - 2) = i by omega]
theorem oneOf_bad0 {b : List Int} {at_ : Nat} (h : b.length ≤ at_ ∨ b.getD at_ 0 ≠ 31) : oneOf (b.drop at_) = (0, [], -1, 0) := by
  unfold oneOf
  rw [if_pos]
  rw [List.length_drop, drop_getD, Nat.add_zero]
  rcases h with h | h
  · exact .inl (by omega)
  · exact .inr h
theorem oneOf_bad1 {b : List Int} {at_ : Nat} (h0 : at_ < b.length) (h1 : b.getD at_ 0 = 31) (h : b.length ≤ at_ + 1 ∨ codeB (b.getD (at_ + 1) 0) = false) : oneOf (b.drop at_) = (0, [], -1, 1) := by
  unfold oneOf
  rw [if_neg, if_pos]
  · rw [List.length_drop, drop_getD]
    rcases h with h | h
    · exact .inl (by omega)
    · exact .inr h
  · rw [List.length_drop, drop_getD, Nat.add_zero]
    rintro (h | h)
    · omega
    · exact h h1
theorem oneOf_done {b : List Int} {at_ i : Nat} (h1 : b.getD at_ 0 = 31) (h2 : at_ + 2 ≤ i) (h3 : i ≤ b.length) (hc : codeB (b.getD (at_ + 1) 0) = true) (hall : ∀ c ∈ txt b at_ i, freeB c = true) (hend : i = b.length ∨ freeB (b.getD i 0) = false) :
    oneOf (b.drop at_) = (b.getD (at_ + 1) 0, txt b at_ i, ((2 + (txt b at_ i).length : Nat) : Int), 0) := by
  have htw : ((b.drop at_).drop 2).takeWhile freeB = txt b at_ i := by
    rw [List.drop_drop]
    refine takeWhile_eq (by rw [List.length_drop]; omega) hall ?_
    rcases hend with h | h
    · exact .inl (by rw [List.length_drop]; omega)
    · exact .inr (by rw [drop_getD, show at_ + 2 + (i - at_ - 2) = i by omega]; exact h)
  unfold oneOf
  rw [if_neg, if_neg, htw, drop_getD]
  · rw [List.length_drop, drop_getD]
    rintro (h | h)
    · omega
    · rw [hc] at h; cases h
  · rw [List.length_drop, drop_getD, Nat.add_zero]
    rintro (h | h)
    · omega
    · exact h h1
theorem SubInv.done {b : List Int} {at_ i : Nat} {acc : List SubV} (h : SubInv b at_ acc) (h1 : b.getD at_ 0 = 31) (h2 : at_ + 2 ≤ i) (h3 : i ≤ b.length) (hc : codeB (b.getD (at_ + 1) 0) = true) (hall : ∀ c ∈ txt b at_ i, freeB c = true) (hend : i = b.length ∨ freeB (b.getD i 0) = false) :
    SubInv b i (acc ++ [(b.getD (at_ + 1) 0, txt b at_ i)]) := by
  have hl := txt_length h3 h2
  have := h.next (.inl (by omega)) (oneOf_done h1 h2 h3 hc hall hend) (by rw [hl, List.length_drop]; omega)
  rw [hl, show at_ + (2 + (i - at_ - 2)) = i by omega] at this
  exact this
/-! ### The second loop, by its phases -/
structure PhA (b : List Int) (i at_ : Nat) (acc : List SubV) : Prop where
  inv : SubInv b at_ acc
  pos : i = at_ + 1
  lt : at_ < b.length
  c31 : b.getD at_ 0 = 31
  more : at_ = 2 ∨ i < b.length
structure PhB (b : List Int) (i at_ : Nat) (acc : List SubV) : Prop where
  inv : SubInv b at_ acc
  pos : at_ + 2 ≤ i
  le : i ≤ b.length
  c31 : b.getD at_ 0 = 31
  code : codeB (b.getD (at_ + 1) 0) = true
  all : ∀ c ∈ txt b at_ i, freeB c = true
theorem PhA.next {b : List Int} {i at_ : Nat} {acc : List SubV} (h : PhA b i at_ acc) (hl : i < b.length) (hc : codeB (b.getD i 0) = true) : PhB b (i + 1) at_ acc := by
  have := h.pos
  subst this
  exact ⟨h.inv, by omega, by omega, h.c31, hc, by rw [show at_ + 1 + 1 = at_ + 2 from rfl, txt_nil]; intro c hc; cases hc⟩
theorem PhA.bad {b : List Int} {i at_ : Nat} {acc : List SubV} (h : PhA b i at_ acc) (hb : b.length ≤ i ∨ codeB (b.getD i 0) = false) : (subs0 b).1 = (i : Int) := by
  have e := h.pos
  subst e
  have := h.inv.bad (.inl h.lt) (oneOf_bad1 h.lt h.c31 hb)
  rw [this]; omega
theorem PhB.step {b : List Int} {i at_ : Nat} {acc : List SubV} (h : PhB b i at_ acc) (hl : i < b.length) (hf : freeB (b.getD i 0) = true) : PhB b (i + 1) at_ acc :=
  ⟨h.inv, by have := h.pos; omega, by omega, h.c31, h.code, by
    rw [txt_succ hl h.pos]
    intro c hc
    rcases List.mem_append.1 hc with hc | hc
    · exact h.all c hc
    · rw [List.mem_singleton] at hc; subst hc; exact hf⟩
theorem PhB.bad {b : List Int} {i at_ : Nat} {acc : List SubV} (h : PhB b i at_ acc) (hl : i < b.length) (hf : freeB (b.getD i 0) = false) (h31 : b.getD i 0 ≠ 31) : (subs0 b).1 = (i : Int) := by
  have hp := h.pos
  have := (h.inv.done h.c31 h.pos h.le h.code h.all (.inr hf)).bad (.inl hl) (oneOf_bad0 (.inr h31))
  rw [this]; omega
theorem free31 : freeB 31 = false := rfl
theorem PhB.toA {b : List Int} {i at_ : Nat} {acc : List SubV} (h : PhB b i at_ acc) (hl : i + 1 < b.length) (h31 : b.getD i 0 = 31) : PhA b (i + 1) i (acc ++ [(b.getD (at_ + 1) 0, txt b at_ i)]) :=
  ⟨h.inv.done h.c31 h.pos h.le h.code h.all (.inr (by rw [h31]; rfl)), rfl, by omega, h31, .inr hl⟩
theorem PhB.last31 {b : List Int} {i at_ : Nat} {acc : List SubV} (h : PhB b i at_ acc) (hl : i + 1 = b.length) (h31 : b.getD i 0 = 31) : (subs0 b).1 = ((i + 1 : Nat) : Int) := by
  have := (h.inv.done h.c31 h.pos h.le h.code h.all (.inr (by rw [h31]; rfl))).bad (.inl (by omega)) (oneOf_bad1 (by omega) h31 (.inl (by omega)))
  rw [this]; omega
theorem PhB.fin {b : List Int} {i at_ : Nat} {acc : List SubV} (h : PhB b i at_ acc) (hl : i = b.length) : subs0 b = (-1, acc ++ [(b.getD (at_ + 1) 0, txt b at_ i)]) := by
  have hp := h.pos
  have h2 := h.inv.two
  exact (h.inv.done h.c31 h.pos h.le h.code h.all (.inl hl)).fin (by omega)
theorem subs0_bad2 {b : List Int} (h2 : 2 ≤ b.length) (h : b.length ≤ 2 ∨ b.getD 2 0 ≠ 31) : (subs0 b).1 = 2 := by
  have := (SubInv.start h2).bad (.inr rfl) (oneOf_bad0 h)
  rw [this]; rfl
theorem PhA.start {b : List Int} (h2 : 2 < b.length) (h : b.getD 2 0 = 31) : PhA b 3 2 [] := ⟨SubInv.start (by omega), rfl, h2, h, .inl rfl⟩
end Go.Proofs.Yteapibifebnboaa

/- ref19.Field -/
set_option linter.unusedVariables false
set_option linter.unusedSimpArgs false
namespace Go.Proofs.Yteapibifebnboaa
open Go Go.Eng
theorem two_get {K : List AV} {m : Nat} (h : K.length = m) (c x : AV) : (K ++ [c, x])[m + 1]? = some x := by
  subst h; rw [List.getElem?_append_right (by omega)]; simp
theorem two_getD {K : List AV} {m : Nat} (h : K.length = m) (c x : AV) : (K ++ [c, x]).getD (m + 1) .dead = x := by
  rw [List.getD_eq_getElem?_getD, two_get h]; rfl
theorem two_set {K : List AV} {m : Nat} (h : K.length = m) (c x y : AV) : (K ++ [c, x]).set (m + 1) y = K ++ [c, y] := by
  subst h; rw [List.set_append_right _ _ (by omega)]; simp
theorem two_len {K : List AV} {m : Nat} (h : K.length = m) (c x : AV) : (K ++ [c, x]).length = m + 2 := by
  rw [List.length_append, h]; rfl
theorem frz_txt (gt : Nat) (l : List Int) : Frz 200 ⟨gt, 1, u8s l⟩ (.own 200 gt 0 l.length) (.sl l.length (u8s l)) := by
  have := Frz.own (t := 200) (T := ⟨gt, 1, u8s l⟩) 0 l.length (by simp [u8s])
  have e : ((u8s l).drop 0).take (l.length * 1) = u8s l := List.take_of_length_le (by simp [u8s])
  rw [show ((⟨gt, 1, u8s l⟩ : Tok).cs.drop 0).take (l.length * (⟨gt, 1, u8s l⟩ : Tok).sz) = u8s l from e] at this
  exact this
theorem fparse_bad {tag b : List Int} (hg : goodTag tag = true) (hc : ctl tag = false) (i : Nat) (hi : i < 2) (hall : ∀ j, j < i → j < b.length ∧ indB (b.getD j 0) = true) (hor : b.length ≤ i ∨ indB (b.getD i 0) = false) : fparse tag b = .inl i := by
  unfold fparse
  rw [if_neg (by rw [hg]; simp), if_neg (by rw [hc]; simp)]
  rcases (by omega : i = 0 ∨ i = 1) with rfl | rfl
  · rw [if_pos (hor.imp (by omega) id)]; rfl
  · obtain ⟨q1, q2⟩ := hall 0 (by omega)
    rw [if_neg (fun h => h.elim (by omega) (fun h => by rw [q2] at h; cases h)), if_pos (hor.imp (by omega) id)]; rfl
theorem PhB.prev {b : List Int} {i at_ : Nat} {acc : List SubV} (h : PhB b i at_ acc) : b.getD (i - 1) 0 ≠ 31 := by
  intro e
  have hp := h.pos
  have hle := h.le
  by_cases h1 : i = at_ + 2
  · have hc := h.code
    rw [show at_ + 1 = i - 1 by omega, e] at hc
    cases hc
  · have hm : b.getD (i - 1) 0 ∈ txt b at_ i := by
      have := txt_succ (b := b) (at_ := at_) (i := i - 1) (by omega) (by omega)
      rw [show i - 1 + 1 = i by omega] at this
      rw [this]; simp
    have := h.all _ hm
    rw [e] at this; cases this
def rgS (tag b : List Int) (i : Nat) (q c0 c1 : Int) (gs n : Nat) (K : List AV) (ext : List (Nat × Tok)) (nx : Nat) : AS :=
  mkS [(0, .str tag), (1, .sl b.length (u8s b)), (4, .addr 4 0 0), (5, .addr 5 1 0), (6, .addr 6 3 0), (7, .addr 7 10 0), (9, .int .i64 i)] ((4, ⟨0, 1, [.str [], .nilS, .int .u8 0, .int .u8 0, .nilS]⟩) :: (5, ⟨1, 1, [.int .i64 0, .int .i64 0]⟩) :: (6, ⟨3, 1, [.int .i64 12, .int .i64 q]⟩) :: (7, ⟨10, 1, [.str tag, .nilS, .int .u8 c0, .int .u8 c1, .own 100 gs 0 n]⟩) :: (100, ⟨gs, 2, K⟩) :: ext) nx
def RInv (tag b : List Int) (i : Nat) (s : AS) : Prop := ∃ (nx gs : Nat) (q : Int),
  (i ≤ 2 ∧ (∀ j, j < i → j < b.length ∧ indB (b.getD j 0) = true) ∧ s = rgS tag b i q (if 1 ≤ i then b.getD 0 0 else 0) (if 2 ≤ i then b.getD 1 0 else 0) gs 0 [] [] nx) ∨
  ((2 ≤ b.length ∧ indB (b.getD 0 0) = true ∧ indB (b.getD 1 0) = true) ∧
    ((∃ at_ acc, PhA b i at_ acc ∧ s = rgS tag b i q (b.getD 0 0) (b.getD 1 0) gs acc.length (subCells acc) [] nx) ∨
     ∃ at_ acc gt, PhB b i at_ acc ∧ s = rgS tag b i q (b.getD 0 0) (b.getD 1 0) gs (acc.length + 1) (subCells acc ++ [.int .u8 (b.getD (at_ + 1) 0), .own 200 gt 0 (txt b at_ i).length]) [(200, ⟨gt, 1, u8s (txt b at_ i)⟩)] nx))
set_option maxRecDepth 100000 in
set_option maxHeartbeats 8000000 in
theorem rfield_c (tag b : List Int) (ht : tag.length ≤ 9223372036854775807) (hl : b.length ≤ 1099511627776) : ACall Try.prog 28 [.str tag, .sl b.length (u8s b)] (fres (fparse tag b)) none := by
  refine acall_intro none Try.func28 rfl (by kernel_rfl) (by simp [Try.f28]) ?_
  refine ex_run 30 ?_
  simp (maxSteps := 200000) only [Try.f28, push_cast, List.getD_cons_zero, List.getD_cons_succ, List.take_succ_cons, List.take_zero, List.drop_succ_cons, Nat.reduceLT, Nat.reduceLeDiff, Nat.reduceEqDiff, Nat.reduceAdd, Nat.reduceMul, Nat.reduceSub, Int.reduceToNat, Int.reduceLE, Int.reduceLT, Int.reduceEq, Int.reduceAdd, ↓reduceIte, decide_true, decide_false, and_self]
  refine call_intro (RTag_c tag ht) (fun h => by cases h) ?_
  cases hg : goodTag tag with
  | false =>
    simp (maxSteps := 200000) only [push_cast, List.getD_cons_zero, List.getD_cons_succ, List.take_succ_cons, List.take_zero, List.drop_succ_cons, Nat.reduceLT, Nat.reduceLeDiff, Nat.reduceEqDiff, Nat.reduceAdd, Nat.reduceMul, Nat.reduceSub, Int.reduceToNat, Int.reduceLE, Int.reduceLT, Int.reduceEq, Int.reduceAdd, ↓reduceIte, decide_true, decide_false, and_self]
    have e : fparse tag b = .inl 0 := by unfold fparse; rw [if_pos hg]
    rw [e]
    refine ⟨by kernel_rfl, by kernel_rfl, ?_⟩
    exact ⟨[.agg [.str [], .nilS, .int .u8 0, .int .u8 0, .nilS], .agg [.int .i64 12, .int .i64 0]], [.agg [.str [], .nilS, .int .u8 0, .int .u8 0, .nilS], .agg [.int .i64 12, .int .i64 0]],
      by kernel_rfl, by simp [outA, outV, outL, outC, AV.closed], sub_tup (ds := [.agg (fCells zeroF), .agg [.int .i64 12, .int .i64 0]]) ⟨sub_agg ⟨.refl _, .nil, .refl _, .refl _, .nil, trivial⟩, .refl _, trivial⟩, rfl⟩
  | true =>
    simp (maxSteps := 200000) only [push_cast, List.getD_cons_zero, List.getD_cons_succ, List.take_succ_cons, List.take_zero, List.drop_succ_cons, Nat.reduceLT, Nat.reduceLeDiff, Nat.reduceEqDiff, Nat.reduceAdd, Nat.reduceMul, Nat.reduceSub, Int.reduceToNat, Int.reduceLE, Int.reduceLT, Int.reduceEq, Int.reduceAdd, ↓reduceIte, decide_true, decide_false, and_self]
    refine call_intro (RControl_c tag ht) (fun h => by cases h) ?_
    cases hc : List.isPrefixOf [48, 48] tag with
    | true =>
      have e : fparse tag b = cres tag b := by unfold fparse cres; rw [if_neg (by rw [hg]; simp), if_pos (show ctl tag = true from hc)]
      rw [e]
      simp (maxSteps := 200000) only [push_cast, List.getD_cons_zero, List.getD_cons_succ, List.take_succ_cons, List.take_zero, List.drop_succ_cons, Nat.reduceLT, Nat.reduceLeDiff, Nat.reduceEqDiff, Nat.reduceAdd, Nat.reduceMul, Nat.reduceSub, Int.reduceToNat, Int.reduceLE, Int.reduceLT, Int.reduceEq, Int.reduceAdd, ↓reduceIte, decide_true, decide_false, and_self]
      refine run_keep (l' := [(0, .str tag), (1, .sl b.length (u8s b)), (4, .addr 4 0 0), (5, .addr 5 1 0), (6, .addr 6 3 0), (7, .addr 7 10 0), (8, .int .i64 0)]) (t' := [(4, ⟨0, 1, [.str [], .nilS, .int .u8 0, .int .u8 0, .nilS]⟩), (5, ⟨1, 1, [.int .i64 0, .int .i64 0]⟩), (6, ⟨3, 1, [.int .i64 12, .int .i64 0]⟩), (7, ⟨10, 1, [.str tag, .nilS, .int .u8 0, .int .u8 0, .nilS]⟩)]) (nx' := _) ⟨.refl _, .refl _, .refl _, .refl _, .refl _, .refl _, .refl _, trivial⟩ ⟨⟨_, rfl, rfl, rfl, SubL.refl _⟩, ⟨_, rfl, rfl, rfl, SubL.refl _⟩, ⟨_, rfl, rfl, rfl, SubL.refl _⟩, ⟨_, rfl, rfl, rfl, SubL.refl _⟩, trivial⟩ (Nat.le_refl _) ?_
      refine run_loop (fun n s => ∃ (i nx : Nat), i ≤ b.length ∧ n = b.length - i ∧ badFrom b 0 = badFrom (b.drop i) i ∧ s = mkS [(0, .str tag), (1, .sl b.length (u8s b)), (4, .addr 4 0 0), (5, .addr 5 1 0), (6, .addr 6 3 0), (7, .addr 7 10 0), (8, .int .i64 i)] [(4, ⟨0, 1, [.str [], .nilS, .int .u8 0, .int .u8 0, .nilS]⟩), (5, ⟨1, 1, [.int .i64 0, .int .i64 0]⟩), (6, ⟨3, 1, [.int .i64 12, .int .i64 0]⟩), (7, ⟨10, 1, [.str tag, .nilS, .int .u8 0, .int .u8 0, .nilS]⟩)] nx) _ ⟨0, _, Nat.zero_le _, rfl, rfl, rfl⟩ ?_
      rintro n s ⟨i, nx, hi, rfl, hb, rfl⟩
      by_cases h : i < b.length
      · have hgt := u8s_getD b i h
        have hpos : 0 < b.length := by omega
        have hw : IntKind.i64.wrap ((i : Int) + 1) = ((i + 1 : Nat) : Int) := by rw [wrap_i64 (by omega)]; omega
        rw [badFrom_drop h] at hb
        generalize b.getD i 0 = c at *
        refine ex_run 30 ?_
        simp (maxSteps := 200000) only [h, hgt, hpos, push_cast, List.getD_cons_zero, List.getD_cons_succ, List.take_succ_cons, List.take_zero, List.drop_succ_cons, Nat.reduceLT, Nat.reduceLeDiff, Nat.reduceEqDiff, Nat.reduceAdd, Nat.reduceMul, Nat.reduceSub, Int.reduceToNat, Int.reduceLE, Int.reduceLT, Int.reduceEq, Int.reduceAdd, ↓reduceIte, decide_true, decide_false, and_self]
        refine call_intro (rfree_c c) (fun h => by cases h) ?_
        cases hf : freeB c with
        | true =>
          rw [hf, if_pos rfl] at hb
          simp (maxSteps := 200000) only [hw, push_cast, List.getD_cons_zero, List.getD_cons_succ, List.take_succ_cons, List.take_zero, List.drop_succ_cons, Nat.reduceLT, Nat.reduceLeDiff, Nat.reduceEqDiff, Nat.reduceAdd, Nat.reduceMul, Nat.reduceSub, Int.reduceToNat, Int.reduceLE, Int.reduceLT, Int.reduceEq, Int.reduceAdd, ↓reduceIte, decide_true, decide_false, and_self]
          refine run_back_le (le_mk (l' := [(0, .str tag), (1, .sl b.length (u8s b)), (4, .addr 4 0 0), (5, .addr 5 1 0), (6, .addr 6 3 0), (7, .addr 7 10 0), (8, .int .i64 ((i + 1 : Nat) : Int))]) (t' := [(4, ⟨0, 1, [.str [], .nilS, .int .u8 0, .int .u8 0, .nilS]⟩), (5, ⟨1, 1, [.int .i64 0, .int .i64 0]⟩), (6, ⟨3, 1, [.int .i64 12, .int .i64 0]⟩), (7, ⟨10, 1, [.str tag, .nilS, .int .u8 0, .int .u8 0, .nilS]⟩)]) (nx' := _) ⟨.refl _, .refl _, .refl _, .refl _, .refl _, .refl _, .of_eq (congrArg (AV.int .i64) (by omega)), trivial⟩ ⟨⟨_, rfl, rfl, rfl, SubL.refl _⟩, ⟨_, rfl, rfl, rfl, SubL.refl _⟩, ⟨_, rfl, rfl, rfl, SubL.refl _⟩, ⟨_, rfl, rfl, rfl, SubL.refl _⟩, trivial⟩ (Nat.le_refl _)) ?_
          exact ⟨b.length - (i + 1), by omega, i + 1, _, by omega, rfl, hb, rfl⟩
        | false =>
          rw [hf, if_neg (by simp)] at hb
          have hcr : cres tag b = .inl (i : Int) := by unfold cres; rw [hb, if_neg (by omega)]
          rw [hcr]
          simp (maxSteps := 200000) only [push_cast, List.getD_cons_zero, List.getD_cons_succ, List.take_succ_cons, List.take_zero, List.drop_succ_cons, Nat.reduceLT, Nat.reduceLeDiff, Nat.reduceEqDiff, Nat.reduceAdd, Nat.reduceMul, Nat.reduceSub, Int.reduceToNat, Int.reduceLE, Int.reduceLT, Int.reduceEq, Int.reduceAdd, ↓reduceIte, decide_true, decide_false, and_self]
          refine ⟨by kernel_rfl, by kernel_rfl, ?_⟩
          exact ⟨[.agg [.str [], .nilS, .int .u8 0, .int .u8 0, .nilS], .agg [.int .i64 12, .int .i64 (i : Int)]], [.agg [.str [], .nilS, .int .u8 0, .int .u8 0, .nilS], .agg [.int .i64 12, .int .i64 (i : Int)]],
            by kernel_rfl, by simp [outA, outV, outL, outC, AV.closed], sub_tup (ds := [.agg (fCells zeroF), .agg [.int .i64 12, .int .i64 (i : Int)]]) ⟨sub_agg ⟨.refl _, .nil, .refl _, .refl _, .nil, trivial⟩, .refl _, trivial⟩, rfl⟩
      · have hb1 : badFrom b 0 = -1 := by rw [hb, List.drop_of_length_le (by omega)]; rfl
        have hcr : cres tag b = .inr ⟨tag, b, 0, 0, []⟩ := by unfold cres; rw [hb1, if_pos (by decide)]
        rw [hcr]
        refine ex_run 30 ?_
        simp (maxSteps := 200000) only [h, push_cast, List.getD_cons_zero, List.getD_cons_succ, List.take_succ_cons, List.take_zero, List.drop_succ_cons, Nat.reduceLT, Nat.reduceLeDiff, Nat.reduceEqDiff, Nat.reduceAdd, Nat.reduceMul, Nat.reduceSub, Int.reduceToNat, Int.reduceLE, Int.reduceLT, Int.reduceEq, Int.reduceAdd, ↓reduceIte, decide_true, decide_false, and_self]
        refine ⟨⟨by omega, by omega⟩, ?_⟩
        exact ⟨[.agg [.str tag, .own 38 _ 0 b.length, .int .u8 0, .int .u8 0, .nilS], .agg [.int .i64 0, .int .i64 0]], [.agg [.str tag, .sl b.length (u8s b), .int .u8 0, .int .u8 0, .nilS], .agg [.int .i64 0, .int .i64 0]],
          rfl, by simp [outA, outV, outL, outC, AV.closed, mkS_tk, lkG, u8s_closed, u8s_take], sub_tup (ds := [.agg (fCells ⟨tag, b, 0, 0, []⟩), .agg [.int .i64 0, .int .i64 0]]) ⟨sub_agg ⟨.refl _, .refl _, .refl _, .refl _, .nil, trivial⟩, .refl _, trivial⟩, rfl⟩
    | false =>
      simp (maxSteps := 200000) only [push_cast, List.getD_cons_zero, List.getD_cons_succ, List.take_succ_cons, List.take_zero, List.drop_succ_cons, Nat.reduceLT, Nat.reduceLeDiff, Nat.reduceEqDiff, Nat.reduceAdd, Nat.reduceMul, Nat.reduceSub, Int.reduceToNat, Int.reduceLE, Int.reduceLT, Int.reduceEq, Int.reduceAdd, ↓reduceIte, decide_true, decide_false, and_self]
      refine run_lazyCell 7 4 100 2 ⟨10, 1, [.str tag, .nilS, .int .u8 0, .int .u8 0, .nilS]⟩ rfl rfl (by decide) ?_
      refine run_keep (l' := [(0, .str tag), (1, .sl b.length (u8s b)), (4, .addr 4 0 0), (5, .addr 5 1 0), (6, .addr 6 3 0), (7, .addr 7 10 0), (9, .int .i64 0)]) (t' := [(4, ⟨0, 1, [.str [], .nilS, .int .u8 0, .int .u8 0, .nilS]⟩), (5, ⟨1, 1, [.int .i64 0, .int .i64 0]⟩), (6, ⟨3, 1, [.int .i64 12, .int .i64 0]⟩), (7, ⟨10, 1, [.str tag, .nilS, .int .u8 0, .int .u8 0, .own 100 _ 0 0]⟩), (100, ⟨_, 2, []⟩)]) (nx' := _) ⟨.refl _, .refl _, .refl _, .refl _, .refl _, .refl _, .refl _, trivial⟩ ⟨⟨_, rfl, rfl, rfl, SubL.refl _⟩, ⟨_, rfl, rfl, rfl, SubL.refl _⟩, ⟨_, rfl, rfl, rfl, SubL.refl _⟩, ⟨_, rfl, rfl, rfl, SubL.refl _⟩, ⟨_, rfl, rfl, rfl, SubL.refl _⟩, trivial⟩ (Nat.le_refl _) ?_
      refine run_loop (fun v s => ∃ i, v = b.length + 5 - i ∧ i ≤ b.length + 4 ∧ RInv tag b i s) _ ⟨0, rfl, by omega, _, _, 0, .inl ⟨by omega, fun j hj => by omega, rfl⟩⟩ ?_
      rintro v s ⟨i, rfl, hi4, nx, gs, q, hinv⟩
      rcases hinv with ⟨hi, hall, rfl⟩ | ⟨⟨hl2, hi0, hi1⟩, hinv⟩
      · unfold rgS
        rcases (by omega : i = 0 ∨ i = 1 ∨ i = 2) with rfl | rfl | rfl
        · have hbi := fparse_bad (tag := tag) (b := b) hg hc 0 (by omega) hall
          by_cases hbl : 0 < b.length
          · have gi := u8s_getD b 0 hbl
            have hbl' : (0 : Int) < (b.length : Int) := by omega
            have hbn : ¬ (b.length : Int) ≤ (0 : Int) := by omega
            have hpos : 0 < b.length := by omega
            have hw : IntKind.i64.wrap 1 = 1 := wrap_i64 (by omega)
            cases hind : indB (b.getD 0 0) with
            | false =>
              rw [hbi (.inr hind)]
              simp only [indB, Bool.and_eq_false_iff, decide_eq_false_iff_not] at hind
              by_cases c1 : b.getD 0 0 < 32
              · refine ex_run 40 ?_
                simp (maxSteps := 200000) only [gi, hbl, hbl', hbn, hpos, c1, push_cast, List.getD_cons_zero, List.getD_cons_succ, List.take_succ_cons, List.take_zero, List.drop_succ_cons, Nat.reduceLT, Nat.reduceLeDiff, Nat.reduceEqDiff, Nat.reduceAdd, Nat.reduceMul, Nat.reduceSub, Int.reduceToNat, Int.reduceLE, Int.reduceLT, Int.reduceEq, Int.reduceAdd, ↓reduceIte, decide_true, decide_false, and_self]
                refine ⟨by kernel_rfl, by kernel_rfl, ?_⟩
                exact ⟨[.agg [.str [], .nilS, .int .u8 0, .int .u8 0, .nilS], .agg [.int .i64 12, .int .i64 0]], [.agg [.str [], .nilS, .int .u8 0, .int .u8 0, .nilS], .agg [.int .i64 12, .int .i64 0]],
                  by kernel_rfl, by simp [outA, outV, outL, outC, AV.closed], sub_tup (ds := [.agg (fCells zeroF), .agg [.int .i64 12, .int .i64 0]]) ⟨sub_agg ⟨.refl _, .nil, .refl _, .refl _, .nil, trivial⟩, .refl _, trivial⟩, rfl⟩
              · have c2 : 126 < b.getD 0 0 := by omega
                refine ex_run 40 ?_
                simp (maxSteps := 200000) only [gi, hbl, hbl', hbn, hpos, c1, c2, push_cast, List.getD_cons_zero, List.getD_cons_succ, List.take_succ_cons, List.take_zero, List.drop_succ_cons, Nat.reduceLT, Nat.reduceLeDiff, Nat.reduceEqDiff, Nat.reduceAdd, Nat.reduceMul, Nat.reduceSub, Int.reduceToNat, Int.reduceLE, Int.reduceLT, Int.reduceEq, Int.reduceAdd, ↓reduceIte, decide_true, decide_false, and_self]
                refine ⟨by kernel_rfl, by kernel_rfl, ?_⟩
                exact ⟨[.agg [.str [], .nilS, .int .u8 0, .int .u8 0, .nilS], .agg [.int .i64 12, .int .i64 0]], [.agg [.str [], .nilS, .int .u8 0, .int .u8 0, .nilS], .agg [.int .i64 12, .int .i64 0]],
                  by kernel_rfl, by simp [outA, outV, outL, outC, AV.closed], sub_tup (ds := [.agg (fCells zeroF), .agg [.int .i64 12, .int .i64 0]]) ⟨sub_agg ⟨.refl _, .nil, .refl _, .refl _, .nil, trivial⟩, .refl _, trivial⟩, rfl⟩
            | true =>
              have hall' : ∀ j, j < 0 + 1 → j < b.length ∧ indB (b.getD j 0) = true := fun j hj => by
                by_cases e : j = 0
                · subst e; exact ⟨hbl, hind⟩
                · exact hall j (by omega)
              simp only [indB, Bool.and_eq_true, decide_eq_true_eq] at hind
              have c1 : ¬ b.getD 0 0 < 32 := by omega
              have c2 : ¬ 126 < b.getD 0 0 := by omega
              refine ex_run 40 ?_
              simp (maxSteps := 200000) only [gi, hbl, hbl', hbn, hpos, hw, c1, c2, push_cast, List.getD_cons_zero, List.getD_cons_succ, List.take_succ_cons, List.take_zero, List.drop_succ_cons, Nat.reduceLT, Nat.reduceLeDiff, Nat.reduceEqDiff, Nat.reduceAdd, Nat.reduceMul, Nat.reduceSub, Int.reduceToNat, Int.reduceLE, Int.reduceLT, Int.reduceEq, Int.reduceAdd, ↓reduceIte, decide_true, decide_false, and_self]
              refine run_back_le (le_mk (l' := [(0, .str tag), (1, .sl b.length (u8s b)), (4, .addr 4 0 0), (5, .addr 5 1 0), (6, .addr 6 3 0), (7, .addr 7 10 0), (9, .int .i64 1)]) (t' := [(4, ⟨0, 1, [.str [], .nilS, .int .u8 0, .int .u8 0, .nilS]⟩), (5, ⟨1, 1, [.int .i64 0, .int .i64 0]⟩), (6, ⟨3, 1, [.int .i64 12, .int .i64 _]⟩), (7, ⟨10, 1, [.str tag, .nilS, .int .u8 (b.getD 0 0), .int .u8 0, .own 100 gs 0 0]⟩), (100, ⟨gs, 2, []⟩)]) (nx' := _) ⟨.refl _, .refl _, .refl _, .refl _, .refl _, .refl _, .refl _, trivial⟩ ⟨⟨_, rfl, rfl, rfl, SubL.refl _⟩, ⟨_, rfl, rfl, rfl, SubL.refl _⟩, ⟨_, rfl, rfl, rfl, SubL.refl _⟩, ⟨_, rfl, rfl, rfl, SubL.refl _⟩, ⟨_, rfl, rfl, rfl, SubL.refl _⟩, trivial⟩ (Nat.le_refl _)) ?_
              exact ⟨b.length + 5 - 1, by omega, 1, rfl, by omega, _, gs, _, .inl ⟨by omega, hall', rfl⟩⟩
          · rw [hbi (.inl (by omega))]
            have hbn : (b.length : Int) ≤ (0 : Int) := by omega
            refine ex_run 40 ?_
            simp (maxSteps := 200000) only [hbn, push_cast, List.getD_cons_zero, List.getD_cons_succ, List.take_succ_cons, List.take_zero, List.drop_succ_cons, Nat.reduceLT, Nat.reduceLeDiff, Nat.reduceEqDiff, Nat.reduceAdd, Nat.reduceMul, Nat.reduceSub, Int.reduceToNat, Int.reduceLE, Int.reduceLT, Int.reduceEq, Int.reduceAdd, ↓reduceIte, decide_true, decide_false, and_self]
            refine ⟨by kernel_rfl, by kernel_rfl, ?_⟩
            exact ⟨[.agg [.str [], .nilS, .int .u8 0, .int .u8 0, .nilS], .agg [.int .i64 12, .int .i64 0]], [.agg [.str [], .nilS, .int .u8 0, .int .u8 0, .nilS], .agg [.int .i64 12, .int .i64 0]],
              by kernel_rfl, by simp [outA, outV, outL, outC, AV.closed], sub_tup (ds := [.agg (fCells zeroF), .agg [.int .i64 12, .int .i64 0]]) ⟨sub_agg ⟨.refl _, .nil, .refl _, .refl _, .nil, trivial⟩, .refl _, trivial⟩, rfl⟩
        · have hbi := fparse_bad (tag := tag) (b := b) hg hc 1 (by omega) hall
          by_cases hbl : 1 < b.length
          · have gi := u8s_getD b 1 hbl
            have hbl' : (1 : Int) < (b.length : Int) := by omega
            have hbn : ¬ (b.length : Int) ≤ (1 : Int) := by omega
            have hpos : 0 < b.length := by omega
            have hw : IntKind.i64.wrap 2 = 2 := wrap_i64 (by omega)
            cases hind : indB (b.getD 1 0) with
            | false =>
              rw [hbi (.inr hind)]
              simp only [indB, Bool.and_eq_false_iff, decide_eq_false_iff_not] at hind
              by_cases c1 : b.getD 1 0 < 32
              · refine ex_run 40 ?_
                simp (maxSteps := 200000) only [gi, hbl, hbl', hbn, hpos, c1, push_cast, List.getD_cons_zero, List.getD_cons_succ, List.take_succ_cons, List.take_zero, List.drop_succ_cons, Nat.reduceLT, Nat.reduceLeDiff, Nat.reduceEqDiff, Nat.reduceAdd, Nat.reduceMul, Nat.reduceSub, Int.reduceToNat, Int.reduceLE, Int.reduceLT, Int.reduceEq, Int.reduceAdd, ↓reduceIte, decide_true, decide_false, and_self]
                refine ⟨by kernel_rfl, by kernel_rfl, ?_⟩
                exact ⟨[.agg [.str [], .nilS, .int .u8 0, .int .u8 0, .nilS], .agg [.int .i64 12, .int .i64 1]], [.agg [.str [], .nilS, .int .u8 0, .int .u8 0, .nilS], .agg [.int .i64 12, .int .i64 1]],
                  by kernel_rfl, by simp [outA, outV, outL, outC, AV.closed], sub_tup (ds := [.agg (fCells zeroF), .agg [.int .i64 12, .int .i64 1]]) ⟨sub_agg ⟨.refl _, .nil, .refl _, .refl _, .nil, trivial⟩, .refl _, trivial⟩, rfl⟩
              · have c2 : 126 < b.getD 1 0 := by omega
                refine ex_run 40 ?_
                simp (maxSteps := 200000) only [gi, hbl, hbl', hbn, hpos, c1, c2, push_cast, List.getD_cons_zero, List.getD_cons_succ, List.take_succ_cons, List.take_zero, List.drop_succ_cons, Nat.reduceLT, Nat.reduceLeDiff, Nat.reduceEqDiff, Nat.reduceAdd, Nat.reduceMul, Nat.reduceSub, Int.reduceToNat, Int.reduceLE, Int.reduceLT, Int.reduceEq, Int.reduceAdd, ↓reduceIte, decide_true, decide_false, and_self]
                refine ⟨by kernel_rfl, by kernel_rfl, ?_⟩
                exact ⟨[.agg [.str [], .nilS, .int .u8 0, .int .u8 0, .nilS], .agg [.int .i64 12, .int .i64 1]], [.agg [.str [], .nilS, .int .u8 0, .int .u8 0, .nilS], .agg [.int .i64 12, .int .i64 1]],
                  by kernel_rfl, by simp [outA, outV, outL, outC, AV.closed], sub_tup (ds := [.agg (fCells zeroF), .agg [.int .i64 12, .int .i64 1]]) ⟨sub_agg ⟨.refl _, .nil, .refl _, .refl _, .nil, trivial⟩, .refl _, trivial⟩, rfl⟩
            | true =>
              have hall' : ∀ j, j < 1 + 1 → j < b.length ∧ indB (b.getD j 0) = true := fun j hj => by
                by_cases e : j = 1
                · subst e; exact ⟨hbl, hind⟩
                · exact hall j (by omega)
              simp only [indB, Bool.and_eq_true, decide_eq_true_eq] at hind
              have c1 : ¬ b.getD 1 0 < 32 := by omega
              have c2 : ¬ 126 < b.getD 1 0 := by omega
              refine ex_run 40 ?_
              simp (maxSteps := 200000) only [gi, hbl, hbl', hbn, hpos, hw, c1, c2, push_cast, List.getD_cons_zero, List.getD_cons_succ, List.take_succ_cons, List.take_zero, List.drop_succ_cons, Nat.reduceLT, Nat.reduceLeDiff, Nat.reduceEqDiff, Nat.reduceAdd, Nat.reduceMul, Nat.reduceSub, Int.reduceToNat, Int.reduceLE, Int.reduceLT, Int.reduceEq, Int.reduceAdd, ↓reduceIte, decide_true, decide_false, and_self]
              refine run_back_le (le_mk (l' := [(0, .str tag), (1, .sl b.length (u8s b)), (4, .addr 4 0 0), (5, .addr 5 1 0), (6, .addr 6 3 0), (7, .addr 7 10 0), (9, .int .i64 2)]) (t' := [(4, ⟨0, 1, [.str [], .nilS, .int .u8 0, .int .u8 0, .nilS]⟩), (5, ⟨1, 1, [.int .i64 0, .int .i64 0]⟩), (6, ⟨3, 1, [.int .i64 12, .int .i64 _]⟩), (7, ⟨10, 1, [.str tag, .nilS, .int .u8 (b.getD 0 0), .int .u8 (b.getD 1 0), .own 100 gs 0 0]⟩), (100, ⟨gs, 2, []⟩)]) (nx' := _) ⟨.refl _, .refl _, .refl _, .refl _, .refl _, .refl _, .refl _, trivial⟩ ⟨⟨_, rfl, rfl, rfl, SubL.refl _⟩, ⟨_, rfl, rfl, rfl, SubL.refl _⟩, ⟨_, rfl, rfl, rfl, SubL.refl _⟩, ⟨_, rfl, rfl, rfl, SubL.refl _⟩, ⟨_, rfl, rfl, rfl, SubL.refl _⟩, trivial⟩ (Nat.le_refl _)) ?_
              exact ⟨b.length + 5 - 2, by omega, 2, rfl, by omega, _, gs, _, .inl ⟨by omega, hall', rfl⟩⟩
          · rw [hbi (.inl (by omega))]
            have hbn : (b.length : Int) ≤ (1 : Int) := by omega
            refine ex_run 40 ?_
            simp (maxSteps := 200000) only [hbn, push_cast, List.getD_cons_zero, List.getD_cons_succ, List.take_succ_cons, List.take_zero, List.drop_succ_cons, Nat.reduceLT, Nat.reduceLeDiff, Nat.reduceEqDiff, Nat.reduceAdd, Nat.reduceMul, Nat.reduceSub, Int.reduceToNat, Int.reduceLE, Int.reduceLT, Int.reduceEq, Int.reduceAdd, ↓reduceIte, decide_true, decide_false, and_self]
            refine ⟨by kernel_rfl, by kernel_rfl, ?_⟩
            exact ⟨[.agg [.str [], .nilS, .int .u8 0, .int .u8 0, .nilS], .agg [.int .i64 12, .int .i64 1]], [.agg [.str [], .nilS, .int .u8 0, .int .u8 0, .nilS], .agg [.int .i64 12, .int .i64 1]],
              by kernel_rfl, by simp [outA, outV, outL, outC, AV.closed], sub_tup (ds := [.agg (fCells zeroF), .agg [.int .i64 12, .int .i64 1]]) ⟨sub_agg ⟨.refl _, .nil, .refl _, .refl _, .nil, trivial⟩, .refl _, trivial⟩, rfl⟩
        · obtain ⟨hl0, hi0⟩ := hall 0 (by omega)
          obtain ⟨hl1, hi1⟩ := hall 1 (by omega)
          have hfp := fparse_sub (tag := tag) (b := b) hg hc (by omega) hi0 hi1
          by_cases hbl : 2 < b.length
          · have gi := u8s_getD b 2 hbl
            have hbl' : (2 : Int) < (b.length : Int) := by omega
            have hbn : ¬ (b.length : Int) ≤ (2 : Int) := by omega
            have hpos : 0 < b.length := by omega
            have hw : IntKind.i64.wrap 3 = 3 := wrap_i64 (by omega)
            by_cases c31 : b.getD 2 0 = 31
            · refine ex_run 40 ?_
              simp (maxSteps := 200000) only [gi, hbl, hbl', hbn, hpos, hw, c31, push_cast, List.getD_cons_zero, List.getD_cons_succ, List.take_succ_cons, List.take_zero, List.drop_succ_cons, Nat.reduceLT, Nat.reduceLeDiff, Nat.reduceEqDiff, Nat.reduceAdd, Nat.reduceMul, Nat.reduceSub, Int.reduceToNat, Int.reduceLE, Int.reduceLT, Int.reduceEq, Int.reduceAdd, ↓reduceIte, decide_true, decide_false, and_self]
              refine run_back_le (le_mk (l' := [(0, .str tag), (1, .sl b.length (u8s b)), (4, .addr 4 0 0), (5, .addr 5 1 0), (6, .addr 6 3 0), (7, .addr 7 10 0), (9, .int .i64 3)]) (t' := [(4, ⟨0, 1, [.str [], .nilS, .int .u8 0, .int .u8 0, .nilS]⟩), (5, ⟨1, 1, [.int .i64 0, .int .i64 0]⟩), (6, ⟨3, 1, [.int .i64 12, .int .i64 _]⟩), (7, ⟨10, 1, [.str tag, .nilS, .int .u8 (b.getD 0 0), .int .u8 (b.getD 1 0), .own 100 gs 0 0]⟩), (100, ⟨gs, 2, []⟩)]) (nx' := _) ⟨.refl _, .refl _, .refl _, .refl _, .refl _, .refl _, .refl _, trivial⟩ ⟨⟨_, rfl, rfl, rfl, SubL.refl _⟩, ⟨_, rfl, rfl, rfl, SubL.refl _⟩, ⟨_, rfl, rfl, rfl, SubL.refl _⟩, ⟨_, rfl, rfl, rfl, SubL.refl _⟩, ⟨_, rfl, rfl, rfl, SubL.refl _⟩, trivial⟩ (Nat.le_refl _)) ?_
              exact ⟨b.length + 5 - 3, by omega, 3, rfl, by omega, _, gs, _, .inr ⟨⟨by omega, hi0, hi1⟩, .inl ⟨2, [], PhA.start hbl c31, rfl⟩⟩⟩
            · rw [hfp, subs0_bad2 (by omega) (.inr c31), if_neg (by decide)]
              refine ex_run 40 ?_
              simp (maxSteps := 200000) only [gi, hbl, hbl', hbn, hpos, c31, push_cast, List.getD_cons_zero, List.getD_cons_succ, List.take_succ_cons, List.take_zero, List.drop_succ_cons, Nat.reduceLT, Nat.reduceLeDiff, Nat.reduceEqDiff, Nat.reduceAdd, Nat.reduceMul, Nat.reduceSub, Int.reduceToNat, Int.reduceLE, Int.reduceLT, Int.reduceEq, Int.reduceAdd, ↓reduceIte, decide_true, decide_false, and_self]
              refine ⟨by kernel_rfl, by kernel_rfl, ?_⟩
              exact ⟨[.agg [.str [], .nilS, .int .u8 0, .int .u8 0, .nilS], .agg [.int .i64 12, .int .i64 2]], [.agg [.str [], .nilS, .int .u8 0, .int .u8 0, .nilS], .agg [.int .i64 12, .int .i64 2]],
                by kernel_rfl, by simp [outA, outV, outL, outC, AV.closed], sub_tup (ds := [.agg (fCells zeroF), .agg [.int .i64 12, .int .i64 2]]) ⟨sub_agg ⟨.refl _, .nil, .refl _, .refl _, .nil, trivial⟩, .refl _, trivial⟩, rfl⟩
          · rw [hfp, subs0_bad2 (by omega) (.inl (by omega)), if_neg (by decide)]
            have hbn : (b.length : Int) ≤ (2 : Int) := by omega
            refine ex_run 40 ?_
            simp (maxSteps := 200000) only [hbn, push_cast, List.getD_cons_zero, List.getD_cons_succ, List.take_succ_cons, List.take_zero, List.drop_succ_cons, Nat.reduceLT, Nat.reduceLeDiff, Nat.reduceEqDiff, Nat.reduceAdd, Nat.reduceMul, Nat.reduceSub, Int.reduceToNat, Int.reduceLE, Int.reduceLT, Int.reduceEq, Int.reduceAdd, ↓reduceIte, decide_true, decide_false, and_self]
            refine ⟨by kernel_rfl, by kernel_rfl, ?_⟩
            exact ⟨[.agg [.str [], .nilS, .int .u8 0, .int .u8 0, .nilS], .agg [.int .i64 12, .int .i64 2]], [.agg [.str [], .nilS, .int .u8 0, .int .u8 0, .nilS], .agg [.int .i64 12, .int .i64 2]],
              by kernel_rfl, by simp [outA, outV, outL, outC, AV.closed], sub_tup (ds := [.agg (fCells zeroF), .agg [.int .i64 12, .int .i64 2]]) ⟨sub_agg ⟨.refl _, .nil, .refl _, .refl _, .nil, trivial⟩, .refl _, trivial⟩, rfl⟩
      · have hfp := fparse_sub (tag := tag) (b := b) hg hc hl2 hi0 hi1
        rw [hfp]
        rcases hinv with ⟨at_, acc, hA, rfl⟩ | ⟨at_, acc, gt, hB, rfl⟩
        · unfold rgS
          have hp := hA.pos
          have h2 := hA.inv.two
          have hlt := hA.lt
          have hal := hA.inv.len
          have k2 : ¬ (i : Int) < 2 := by omega
          have ke : ¬ (i : Int) = 2 := by omega
          have hsl := subCells_length acc
          by_cases hbl : i < b.length
          · have gi := u8s_getD b i hbl
            have gp := u8s_getD b (i - 1) (by omega)
            rw [show b.getD (i - 1) 0 = 31 by rw [hp]; exact hA.c31] at gp
            have hbl' : (i : Int) < (b.length : Int) := by omega
            have hbn : ¬ (b.length : Int) ≤ (i : Int) := by omega
            have hpos : 0 < b.length := by omega
            have hw : IntKind.i64.wrap ((i : Int) + 1) = ((i + 1 : Nat) : Int) := by rw [wrap_i64 (by omega)]; omega
            have wq : IntKind.i64.wrap ((i : Int) - 1) = (i : Int) - 1 := wrap_i64 (by omega)
            have tq : ((i : Int) - 1).toNat = i - 1 := by omega
            have p1 : (0 : Int) ≤ (i : Int) - 1 := by omega
            have p2 : (i : Int) - 1 < (b.length : Int) := by omega
            have p3 : i - 1 < b.length := by omega
            cases hcode : codeB (b.getD i 0) with
            | false =>
              rw [hA.bad (.inr hcode), if_neg (by omega)]
              simp only [codeB, Bool.and_eq_false_iff, decide_eq_false_iff_not] at hcode
              by_cases h4 : (i : Int) < 4
              · by_cases c1 : b.getD i 0 < 33
                · refine ex_run 50 ?_
                  simp (maxSteps := 200000) only [gi, gp, hbl, hbl', hbn, hpos, hw, wq, tq, p1, p2, p3, k2, ke, hsl, h4, c1, push_cast, List.getD_cons_zero, List.getD_cons_succ, List.take_succ_cons, List.take_zero, List.drop_succ_cons, Nat.reduceLT, Nat.reduceLeDiff, Nat.reduceEqDiff, Nat.reduceAdd, Nat.reduceMul, Nat.reduceSub, Int.reduceToNat, Int.reduceLE, Int.reduceLT, Int.reduceEq, Int.reduceAdd, ↓reduceIte, decide_true, decide_false, and_self]
                  refine ⟨by kernel_rfl, by kernel_rfl, ?_⟩
                  exact ⟨[.agg [.str [], .nilS, .int .u8 0, .int .u8 0, .nilS], .agg [.int .i64 12, .int .i64 (i : Int)]], [.agg [.str [], .nilS, .int .u8 0, .int .u8 0, .nilS], .agg [.int .i64 12, .int .i64 (i : Int)]],
                    by kernel_rfl, by simp [outA, outV, outL, outC, AV.closed], sub_tup (ds := [.agg (fCells zeroF), .agg [.int .i64 12, .int .i64 (i : Int)]]) ⟨sub_agg ⟨.refl _, .nil, .refl _, .refl _, .nil, trivial⟩, .refl _, trivial⟩, rfl⟩
                · have c2 : 126 < b.getD i 0 := by omega
                  refine ex_run 50 ?_
                  simp (maxSteps := 200000) only [gi, gp, hbl, hbl', hbn, hpos, hw, wq, tq, p1, p2, p3, k2, ke, hsl, h4, c1, c2, push_cast, List.getD_cons_zero, List.getD_cons_succ, List.take_succ_cons, List.take_zero, List.drop_succ_cons, Nat.reduceLT, Nat.reduceLeDiff, Nat.reduceEqDiff, Nat.reduceAdd, Nat.reduceMul, Nat.reduceSub, Int.reduceToNat, Int.reduceLE, Int.reduceLT, Int.reduceEq, Int.reduceAdd, ↓reduceIte, decide_true, decide_false, and_self]
                  refine ⟨by kernel_rfl, by kernel_rfl, ?_⟩
                  exact ⟨[.agg [.str [], .nilS, .int .u8 0, .int .u8 0, .nilS], .agg [.int .i64 12, .int .i64 (i : Int)]], [.agg [.str [], .nilS, .int .u8 0, .int .u8 0, .nilS], .agg [.int .i64 12, .int .i64 (i : Int)]],
                    by kernel_rfl, by simp [outA, outV, outL, outC, AV.closed], sub_tup (ds := [.agg (fCells zeroF), .agg [.int .i64 12, .int .i64 (i : Int)]]) ⟨sub_agg ⟨.refl _, .nil, .refl _, .refl _, .nil, trivial⟩, .refl _, trivial⟩, rfl⟩
              · by_cases c1 : b.getD i 0 < 33
                · refine ex_run 50 ?_
                  simp (maxSteps := 200000) only [gi, gp, hbl, hbl', hbn, hpos, hw, wq, tq, p1, p2, p3, k2, ke, hsl, h4, c1, push_cast, List.getD_cons_zero, List.getD_cons_succ, List.take_succ_cons, List.take_zero, List.drop_succ_cons, Nat.reduceLT, Nat.reduceLeDiff, Nat.reduceEqDiff, Nat.reduceAdd, Nat.reduceMul, Nat.reduceSub, Int.reduceToNat, Int.reduceLE, Int.reduceLT, Int.reduceEq, Int.reduceAdd, ↓reduceIte, decide_true, decide_false, and_self]
                  refine ⟨by kernel_rfl, by kernel_rfl, ?_⟩
                  exact ⟨[.agg [.str [], .nilS, .int .u8 0, .int .u8 0, .nilS], .agg [.int .i64 12, .int .i64 (i : Int)]], [.agg [.str [], .nilS, .int .u8 0, .int .u8 0, .nilS], .agg [.int .i64 12, .int .i64 (i : Int)]],
                    by kernel_rfl, by simp [outA, outV, outL, outC, AV.closed], sub_tup (ds := [.agg (fCells zeroF), .agg [.int .i64 12, .int .i64 (i : Int)]]) ⟨sub_agg ⟨.refl _, .nil, .refl _, .refl _, .nil, trivial⟩, .refl _, trivial⟩, rfl⟩
                · have c2 : 126 < b.getD i 0 := by omega
                  refine ex_run 50 ?_
                  simp (maxSteps := 200000) only [gi, gp, hbl, hbl', hbn, hpos, hw, wq, tq, p1, p2, p3, k2, ke, hsl, h4, c1, c2, push_cast, List.getD_cons_zero, List.getD_cons_succ, List.take_succ_cons, List.take_zero, List.drop_succ_cons, Nat.reduceLT, Nat.reduceLeDiff, Nat.reduceEqDiff, Nat.reduceAdd, Nat.reduceMul, Nat.reduceSub, Int.reduceToNat, Int.reduceLE, Int.reduceLT, Int.reduceEq, Int.reduceAdd, ↓reduceIte, decide_true, decide_false, and_self]
                  refine ⟨by kernel_rfl, by kernel_rfl, ?_⟩
                  exact ⟨[.agg [.str [], .nilS, .int .u8 0, .int .u8 0, .nilS], .agg [.int .i64 12, .int .i64 (i : Int)]], [.agg [.str [], .nilS, .int .u8 0, .int .u8 0, .nilS], .agg [.int .i64 12, .int .i64 (i : Int)]],
                    by kernel_rfl, by simp [outA, outV, outL, outC, AV.closed], sub_tup (ds := [.agg (fCells zeroF), .agg [.int .i64 12, .int .i64 (i : Int)]]) ⟨sub_agg ⟨.refl _, .nil, .refl _, .refl _, .nil, trivial⟩, .refl _, trivial⟩, rfl⟩
            | true =>
              have hB := hA.next hbl hcode
              have e1 : at_ + 1 = i := by omega
              have htx : txt b at_ (i + 1) = [] := by rw [show i + 1 = at_ + 2 by omega]; exact txt_nil b at_
              simp only [codeB, Bool.and_eq_true, decide_eq_true_eq] at hcode
              have c1 : ¬ b.getD i 0 < 33 := by omega
              have c2 : ¬ 126 < b.getD i 0 := by omega
              by_cases h4 : (i : Int) < 4
              · refine ex_run 50 ?_
                simp (maxSteps := 200000) only [gi, gp, hbl, hbl', hbn, hpos, hw, wq, tq, p1, p2, p3, k2, ke, hsl, h4, c1, c2, push_cast, List.getD_cons_zero, List.getD_cons_succ, List.take_succ_cons, List.take_zero, List.drop_succ_cons, Nat.reduceLT, Nat.reduceLeDiff, Nat.reduceEqDiff, Nat.reduceAdd, Nat.reduceMul, Nat.reduceSub, Int.reduceToNat, Int.reduceLE, Int.reduceLT, Int.reduceEq, Int.reduceAdd, ↓reduceIte, decide_true, decide_false, and_self]
                refine ⟨⟨by omega, by omega⟩, ?_⟩
                refine run_lazyCell 100 (acc.length * 2 + 1) 200 1 ⟨_, 2, subCells acc ++ [.int .u8 (b.getD i 0), .nilS]⟩ rfl (two_get hsl _ _) (by decide) ?_
                refine run_back_le (le_mk (l' := [(0, .str tag), (1, .sl b.length (u8s b)), (4, .addr 4 0 0), (5, .addr 5 1 0), (6, .addr 6 3 0), (7, .addr 7 10 0), (9, .int .i64 ((i + 1 : Nat) : Int))]) (t' := [(4, ⟨0, 1, [.str [], .nilS, .int .u8 0, .int .u8 0, .nilS]⟩), (5, ⟨1, 1, [.int .i64 0, .int .i64 0]⟩), (6, ⟨3, 1, [.int .i64 12, .int .i64 _]⟩), (7, ⟨10, 1, [.str tag, .nilS, .int .u8 (b.getD 0 0), .int .u8 (b.getD 1 0), .own 100 _ 0 (acc.length + 1)]⟩), (100, ⟨_, 2, subCells acc ++ [.int .u8 (b.getD i 0), .own 200 _ 0 0]⟩), (200, ⟨_, 1, []⟩)]) (nx' := _) ⟨.refl _, .refl _, .refl _, .refl _, .refl _, .refl _, .of_eq (congrArg (AV.int .i64) (by omega)), trivial⟩ ⟨⟨_, rfl, rfl, rfl, SubL.refl _⟩, ⟨_, rfl, rfl, rfl, SubL.refl _⟩, ⟨_, rfl, rfl, rfl, SubL.refl _⟩, ⟨_, rfl, rfl, rfl, SubL.refl _⟩, ⟨_, rfl, rfl, rfl, by rw [two_set hsl]; exact SubL.refl _⟩, ⟨_, rfl, rfl, rfl, SubL.refl _⟩, trivial⟩ (Nat.le_refl _)) ?_
                exact ⟨b.length + 5 - (i + 1), by omega, i + 1, rfl, by omega, _, _, _, .inr ⟨⟨hl2, hi0, hi1⟩, .inr ⟨at_, acc, _, hB, by rw [htx, e1]; rfl⟩⟩⟩
              · refine ex_run 50 ?_
                simp (maxSteps := 200000) only [gi, gp, hbl, hbl', hbn, hpos, hw, wq, tq, p1, p2, p3, k2, ke, hsl, h4, c1, c2, push_cast, List.getD_cons_zero, List.getD_cons_succ, List.take_succ_cons, List.take_zero, List.drop_succ_cons, Nat.reduceLT, Nat.reduceLeDiff, Nat.reduceEqDiff, Nat.reduceAdd, Nat.reduceMul, Nat.reduceSub, Int.reduceToNat, Int.reduceLE, Int.reduceLT, Int.reduceEq, Int.reduceAdd, ↓reduceIte, decide_true, decide_false, and_self]
                refine ⟨⟨by omega, by omega⟩, ?_⟩
                refine run_lazyCell 100 (acc.length * 2 + 1) 200 1 ⟨_, 2, subCells acc ++ [.int .u8 (b.getD i 0), .nilS]⟩ rfl (two_get hsl _ _) (by decide) ?_
                refine run_back_le (le_mk (l' := [(0, .str tag), (1, .sl b.length (u8s b)), (4, .addr 4 0 0), (5, .addr 5 1 0), (6, .addr 6 3 0), (7, .addr 7 10 0), (9, .int .i64 ((i + 1 : Nat) : Int))]) (t' := [(4, ⟨0, 1, [.str [], .nilS, .int .u8 0, .int .u8 0, .nilS]⟩), (5, ⟨1, 1, [.int .i64 0, .int .i64 0]⟩), (6, ⟨3, 1, [.int .i64 12, .int .i64 _]⟩), (7, ⟨10, 1, [.str tag, .nilS, .int .u8 (b.getD 0 0), .int .u8 (b.getD 1 0), .own 100 _ 0 (acc.length + 1)]⟩), (100, ⟨_, 2, subCells acc ++ [.int .u8 (b.getD i 0), .own 200 _ 0 0]⟩), (200, ⟨_, 1, []⟩)]) (nx' := _) ⟨.refl _, .refl _, .refl _, .refl _, .refl _, .refl _, .of_eq (congrArg (AV.int .i64) (by omega)), trivial⟩ ⟨⟨_, rfl, rfl, rfl, SubL.refl _⟩, ⟨_, rfl, rfl, rfl, SubL.refl _⟩, ⟨_, rfl, rfl, rfl, SubL.refl _⟩, ⟨_, rfl, rfl, rfl, SubL.refl _⟩, ⟨_, rfl, rfl, rfl, by rw [two_set hsl]; exact SubL.refl _⟩, ⟨_, rfl, rfl, rfl, SubL.refl _⟩, trivial⟩ (Nat.le_refl _)) ?_
                exact ⟨b.length + 5 - (i + 1), by omega, i + 1, rfl, by omega, _, _, _, .inr ⟨⟨hl2, hi0, hi1⟩, .inr ⟨at_, acc, _, hB, by rw [htx, e1]; rfl⟩⟩⟩
          · rw [hA.bad (.inl (by omega)), if_neg (by omega)]
            have hbn : (b.length : Int) ≤ (i : Int) := by omega
            have h4 : (i : Int) < 4 := by have := hA.more; omega
            refine ex_run 50 ?_
            simp (maxSteps := 200000) only [hbn, h4, push_cast, List.getD_cons_zero, List.getD_cons_succ, List.take_succ_cons, List.take_zero, List.drop_succ_cons, Nat.reduceLT, Nat.reduceLeDiff, Nat.reduceEqDiff, Nat.reduceAdd, Nat.reduceMul, Nat.reduceSub, Int.reduceToNat, Int.reduceLE, Int.reduceLT, Int.reduceEq, Int.reduceAdd, ↓reduceIte, decide_true, decide_false, and_self]
            refine ⟨by kernel_rfl, by kernel_rfl, ?_⟩
            exact ⟨[.agg [.str [], .nilS, .int .u8 0, .int .u8 0, .nilS], .agg [.int .i64 12, .int .i64 (i : Int)]], [.agg [.str [], .nilS, .int .u8 0, .int .u8 0, .nilS], .agg [.int .i64 12, .int .i64 (i : Int)]],
              by kernel_rfl, by simp [outA, outV, outL, outC, AV.closed], sub_tup (ds := [.agg (fCells zeroF), .agg [.int .i64 12, .int .i64 (i : Int)]]) ⟨sub_agg ⟨.refl _, .nil, .refl _, .refl _, .nil, trivial⟩, .refl _, trivial⟩, rfl⟩
        · unfold rgS
          have hp := hB.pos
          have h2 := hB.inv.two
          have hle := hB.le
          have hal := hB.inv.len
          have hprev := hB.prev
          have h4 : ¬ (i : Int) < 4 := by omega
          have k2 : ¬ (i : Int) < 2 := by omega
          have ke : ¬ (i : Int) = 2 := by omega
          have hsl := subCells_length acc
          by_cases hbl : i < b.length
          · have gi := u8s_getD b i hbl
            have gp := u8s_getD b (i - 1) (by omega)
            have hbl' : (i : Int) < (b.length : Int) := by omega
            have hbn : ¬ (b.length : Int) ≤ (i : Int) := by omega
            have hpos : 0 < b.length := by omega
            have hw : IntKind.i64.wrap ((i : Int) + 1) = (i : Int) + 1 := wrap_i64 (by omega)
            have wq : IntKind.i64.wrap ((i : Int) - 1) = (i : Int) - 1 := wrap_i64 (by omega)
            have tq : ((i : Int) - 1).toNat = i - 1 := by omega
            have p1 : (0 : Int) ≤ (i : Int) - 1 := by omega
            have p2 : (i : Int) - 1 < (b.length : Int) := by omega
            have p3 : i - 1 < b.length := by omega
            by_cases c31 : b.getD i 0 = 31
            · by_cases hla : i + 1 = b.length
              · have hla' : (i : Int) + 1 = (b.length : Int) := by omega
                have wb : IntKind.i64.wrap (b.length : Int) = (b.length : Int) := wrap_i64 (by omega)
                rw [hB.last31 hla c31, if_neg (by omega), show ((i + 1 : Nat) : Int) = (i : Int) + 1 by omega]
                refine ex_run 50 ?_
                simp (maxSteps := 200000) only [wb, gi, gp, hprev, hbl, hbl', hbn, hpos, hw, hla', wq, tq, p1, p2, p3, k2, ke, h4, c31, push_cast, List.getD_cons_zero, List.getD_cons_succ, List.take_succ_cons, List.take_zero, List.drop_succ_cons, Nat.reduceLT, Nat.reduceLeDiff, Nat.reduceEqDiff, Nat.reduceAdd, Nat.reduceMul, Nat.reduceSub, Int.reduceToNat, Int.reduceLE, Int.reduceLT, Int.reduceEq, Int.reduceAdd, ↓reduceIte, decide_true, decide_false, and_self]
                refine ⟨by kernel_rfl, by kernel_rfl, ?_⟩
                exact ⟨[.agg [.str [], .nilS, .int .u8 0, .int .u8 0, .nilS], .agg [.int .i64 12, .int .i64 (b.length : Int)]], [.agg [.str [], .nilS, .int .u8 0, .int .u8 0, .nilS], .agg [.int .i64 12, .int .i64 (b.length : Int)]],
                  by kernel_rfl, by simp [outA, outV, outL, outC, AV.closed], sub_tup (ds := [.agg (fCells zeroF), .agg [.int .i64 12, .int .i64 (b.length : Int)]]) ⟨sub_agg ⟨.refl _, .nil, .refl _, .refl _, .nil, trivial⟩, .refl _, trivial⟩, rfl⟩
              · have hla' : ¬ (i : Int) + 1 = (b.length : Int) := by omega
                have hA := hB.toA (by omega) c31
                refine ex_run 50 ?_
                simp (maxSteps := 200000) only [gi, gp, hprev, hbl, hbl', hbn, hpos, hw, hla', wq, tq, p1, p2, p3, k2, ke, h4, c31, push_cast, List.getD_cons_zero, List.getD_cons_succ, List.take_succ_cons, List.take_zero, List.drop_succ_cons, Nat.reduceLT, Nat.reduceLeDiff, Nat.reduceEqDiff, Nat.reduceAdd, Nat.reduceMul, Nat.reduceSub, Int.reduceToNat, Int.reduceLE, Int.reduceLT, Int.reduceEq, Int.reduceAdd, ↓reduceIte, decide_true, decide_false, and_self]
                refine Go.Eng.run_freeze (l' := [(0, .str tag), (1, .sl b.length (u8s b)), (4, .addr 4 0 0), (5, .addr 5 1 0), (6, .addr 6 3 0), (7, .addr 7 10 0), (9, .int .i64 ((i : Int) + 1))]) (tl' := [(4, ⟨0, 1, [.str [], .nilS, .int .u8 0, .int .u8 0, .nilS]⟩), (5, ⟨1, 1, [.int .i64 0, .int .i64 0]⟩), (6, ⟨3, 1, [.int .i64 12, .int .i64 (i : Int)]⟩), (7, ⟨10, 1, [.str tag, .nilS, .int .u8 (b.getD 0 0), .int .u8 (b.getD 1 0), .own 100 gs 0 (acc.length + 1)]⟩), (100, ⟨gs, 2, subCells (acc ++ [(b.getD (at_ + 1) 0, txt b at_ i)])⟩)]) 200 ⟨gt, 1, u8s (txt b at_ i)⟩ rfl ⟨.keep _, .keep _, .keep _, .keep _, .keep _, .keep _, .keep _, trivial⟩ ⟨by decide, ⟨_, rfl, rfl, rfl, FrzL.refl _⟩, by decide, ⟨_, rfl, rfl, rfl, FrzL.refl _⟩, by decide, ⟨_, rfl, rfl, rfl, FrzL.refl _⟩, by decide, ⟨_, rfl, rfl, rfl, FrzL.refl _⟩, by decide, ⟨_, rfl, rfl, rfl, by rw [subCells_snoc]; exact FrzL.append (FrzL.refl _) ⟨.keep _, frz_txt gt _, trivial⟩⟩, trivial⟩ ?_
                refine run_back_le (le_mk (l' := [(0, .str tag), (1, .sl b.length (u8s b)), (4, .addr 4 0 0), (5, .addr 5 1 0), (6, .addr 6 3 0), (7, .addr 7 10 0), (9, .int .i64 ((i + 1 : Nat) : Int))]) (t' := [(4, ⟨0, 1, [.str [], .nilS, .int .u8 0, .int .u8 0, .nilS]⟩), (5, ⟨1, 1, [.int .i64 0, .int .i64 0]⟩), (6, ⟨3, 1, [.int .i64 12, .int .i64 _]⟩), (7, ⟨10, 1, [.str tag, .nilS, .int .u8 (b.getD 0 0), .int .u8 (b.getD 1 0), .own 100 gs 0 (acc ++ [(b.getD (at_ + 1) 0, txt b at_ i)]).length]⟩), (100, ⟨gs, 2, subCells (acc ++ [(b.getD (at_ + 1) 0, txt b at_ i)])⟩)]) (nx' := _) ⟨.refl _, .refl _, .refl _, .refl _, .refl _, .refl _, .of_eq (congrArg (AV.int .i64) (by omega)), trivial⟩ ⟨⟨_, rfl, rfl, rfl, SubL.refl _⟩, ⟨_, rfl, rfl, rfl, SubL.refl _⟩, ⟨_, rfl, rfl, rfl, SubL.refl _⟩, ⟨_, rfl, rfl, rfl, ⟨.refl _, .refl _, .refl _, .refl _, .of_eq (congrArg (AV.own 100 _ 0) (by simp)), trivial⟩⟩, ⟨_, rfl, rfl, rfl, SubL.refl _⟩, trivial⟩ (Nat.le_refl _)) ?_
                exact ⟨b.length + 5 - (i + 1), by omega, i + 1, rfl, by omega, _, gs, _, .inr ⟨⟨hl2, hi0, hi1⟩, .inl ⟨i, _, hA, rfl⟩⟩⟩
            · cases hf : freeB (b.getD i 0) with
              | false =>
                rw [hB.bad hbl hf c31, if_neg (by omega)]
                refine ex_run 50 ?_
                simp (maxSteps := 200000) only [gi, gp, hprev, hbl, hbl', hbn, hpos, hw, wq, tq, p1, p2, p3, k2, ke, h4, c31, push_cast, List.getD_cons_zero, List.getD_cons_succ, List.take_succ_cons, List.take_zero, List.drop_succ_cons, Nat.reduceLT, Nat.reduceLeDiff, Nat.reduceEqDiff, Nat.reduceAdd, Nat.reduceMul, Nat.reduceSub, Int.reduceToNat, Int.reduceLE, Int.reduceLT, Int.reduceEq, Int.reduceAdd, ↓reduceIte, decide_true, decide_false, and_self]
                refine call_intro (rfree_c _) (fun h => by cases h) ?_
                rw [hf]
                simp (maxSteps := 200000) only [push_cast, List.getD_cons_zero, List.getD_cons_succ, List.take_succ_cons, List.take_zero, List.drop_succ_cons, Nat.reduceLT, Nat.reduceLeDiff, Nat.reduceEqDiff, Nat.reduceAdd, Nat.reduceMul, Nat.reduceSub, Int.reduceToNat, Int.reduceLE, Int.reduceLT, Int.reduceEq, Int.reduceAdd, ↓reduceIte, decide_true, decide_false, and_self]
                refine ⟨by kernel_rfl, by kernel_rfl, ?_⟩
                exact ⟨[.agg [.str [], .nilS, .int .u8 0, .int .u8 0, .nilS], .agg [.int .i64 12, .int .i64 (i : Int)]], [.agg [.str [], .nilS, .int .u8 0, .int .u8 0, .nilS], .agg [.int .i64 12, .int .i64 (i : Int)]],
                  by kernel_rfl, by simp [outA, outV, outL, outC, AV.closed], sub_tup (ds := [.agg (fCells zeroF), .agg [.int .i64 12, .int .i64 (i : Int)]]) ⟨sub_agg ⟨.refl _, .nil, .refl _, .refl _, .nil, trivial⟩, .refl _, trivial⟩, rfl⟩
              | true =>
                have hBs := hB.step hbl hf
                have hts := txt_succ hbl hp
                have htl := txt_length hle hp
                have htl2 := congrArg List.length hts
                rw [List.length_append] at htl2
                simp only [List.length_cons, List.length_nil] at htl2
                generalize txt b at_ i = tx at *
                generalize hm : tx.length = m at *
                have hK := two_len hsl (.int .u8 (b.getD (at_ + 1) 0)) (.own 200 gt 0 m)
                have hG := two_getD hsl (.int .u8 (b.getD (at_ + 1) 0)) (.own 200 gt 0 m)
                have hS := fun y => two_set hsl (.int .u8 (b.getD (at_ + 1) 0)) (.own 200 gt 0 m) y
                have wn : IntKind.i64.wrap ((acc.length : Int) + 1 - 1) = (acc.length : Int) := by rw [wrap_i64 (by omega)]; omega
                have q1 : (acc.length : Int) < (acc.length : Int) + 1 := by omega
                have q2 : acc.length * 2 + 1 < acc.length * 2 + 2 := by omega
                refine ex_run 50 ?_
                simp (maxSteps := 200000) only [gi, gp, hprev, hbl, hbl', hbn, hpos, hw, wq, tq, p1, p2, p3, k2, ke, h4, c31, push_cast, List.getD_cons_zero, List.getD_cons_succ, List.take_succ_cons, List.take_zero, List.drop_succ_cons, Nat.reduceLT, Nat.reduceLeDiff, Nat.reduceEqDiff, Nat.reduceAdd, Nat.reduceMul, Nat.reduceSub, Int.reduceToNat, Int.reduceLE, Int.reduceLT, Int.reduceEq, Int.reduceAdd, ↓reduceIte, decide_true, decide_false, and_self]
                refine call_intro (rfree_c _) (fun h => by cases h) ?_
                rw [hf]
                simp (maxSteps := 200000) only [hw, hK, hG, hS, wn, q1, q2, hm, push_cast, List.getD_cons_zero, List.getD_cons_succ, List.take_succ_cons, List.take_zero, List.drop_succ_cons, Nat.reduceLT, Nat.reduceLeDiff, Nat.reduceEqDiff, Nat.reduceAdd, Nat.reduceMul, Nat.reduceSub, Int.reduceToNat, Int.reduceLE, Int.reduceLT, Int.reduceEq, Int.reduceAdd, ↓reduceIte, decide_true, decide_false, and_self]
                refine ⟨by kernel_rfl, ⟨by omega, by omega⟩, ?_⟩
                repeat (first | (refine ⟨by omega, ?_⟩) | (refine ⟨by kernel_rfl, ?_⟩))
                have hcs : u8s tx ++ [.int .u8 (b.getD i 0)] = u8s (txt b at_ (i + 1)) := by rw [hts]; simp [u8s]
                have hml : m + 1 = (txt b at_ (i + 1)).length := by omega
                rw [hcs, hml]
                refine run_back_le (le_mk (l' := [(0, .str tag), (1, .sl b.length (u8s b)), (4, .addr 4 0 0), (5, .addr 5 1 0), (6, .addr 6 3 0), (7, .addr 7 10 0), (9, .int .i64 ((i + 1 : Nat) : Int))]) (t' := [(4, ⟨0, 1, [.str [], .nilS, .int .u8 0, .int .u8 0, .nilS]⟩), (5, ⟨1, 1, [.int .i64 0, .int .i64 0]⟩), (6, ⟨3, 1, [.int .i64 12, .int .i64 _]⟩), (7, ⟨10, 1, [.str tag, .nilS, .int .u8 (b.getD 0 0), .int .u8 (b.getD 1 0), .own 100 gs 0 (acc.length + 1)]⟩), (100, ⟨gs, 2, subCells acc ++ [.int .u8 (b.getD (at_ + 1) 0), .own 200 _ 0 (txt b at_ (i + 1)).length]⟩), (200, ⟨_, 1, u8s (txt b at_ (i + 1))⟩)]) (nx' := _) ⟨.refl _, .refl _, .refl _, .refl _, .refl _, .refl _, .of_eq (congrArg (AV.int .i64) (by omega)), trivial⟩ ⟨⟨_, rfl, rfl, rfl, SubL.refl _⟩, ⟨_, rfl, rfl, rfl, SubL.refl _⟩, ⟨_, rfl, rfl, rfl, SubL.refl _⟩, ⟨_, rfl, rfl, rfl, SubL.refl _⟩, ⟨_, rfl, rfl, rfl, SubL.refl _⟩, ⟨_, rfl, rfl, rfl, SubL.refl _⟩, trivial⟩ (Nat.le_refl _)) ?_
                exact ⟨b.length + 5 - (i + 1), by omega, i + 1, rfl, by omega, _, gs, _, .inr ⟨⟨hl2, hi0, hi1⟩, .inr ⟨at_, acc, _, hBs, rfl⟩⟩⟩
          · have hie : i = b.length := by omega
            have hfin := hB.fin hie
            refine Go.Eng.run_freeze (l' := [(0, .str tag), (1, .sl b.length (u8s b)), (4, .addr 4 0 0), (5, .addr 5 1 0), (6, .addr 6 3 0), (7, .addr 7 10 0), (9, .int .i64 (i : Int))]) (tl' := [(4, ⟨0, 1, [.str [], .nilS, .int .u8 0, .int .u8 0, .nilS]⟩), (5, ⟨1, 1, [.int .i64 0, .int .i64 0]⟩), (6, ⟨3, 1, [.int .i64 12, .int .i64 q]⟩), (7, ⟨10, 1, [.str tag, .nilS, .int .u8 (b.getD 0 0), .int .u8 (b.getD 1 0), .own 100 gs 0 (acc.length + 1)]⟩), (100, ⟨gs, 2, subCells (acc ++ [(b.getD (at_ + 1) 0, txt b at_ i)])⟩)]) 200 ⟨gt, 1, u8s (txt b at_ i)⟩ rfl ⟨.keep _, .keep _, .keep _, .keep _, .keep _, .keep _, .keep _, trivial⟩ ⟨by decide, ⟨_, rfl, rfl, rfl, FrzL.refl _⟩, by decide, ⟨_, rfl, rfl, rfl, FrzL.refl _⟩, by decide, ⟨_, rfl, rfl, rfl, FrzL.refl _⟩, by decide, ⟨_, rfl, rfl, rfl, FrzL.refl _⟩, by decide, ⟨_, rfl, rfl, rfl, by rw [subCells_snoc]; exact FrzL.append (FrzL.refl _) ⟨.keep _, frz_txt gt _, trivial⟩⟩, trivial⟩ ?_
            rw [hfin, if_pos (show (-1 : Int) < 0 by decide)]
            generalize hacc : acc ++ [(b.getD (at_ + 1) 0, txt b at_ i)] = acc2
            have hal2 : acc.length + 1 = acc2.length := by rw [← hacc]; simp
            rw [hal2]
            have hcl := subCells_closed acc2
            have htk : (subCells acc2).take (acc2.length * 2) = subCells acc2 := List.take_of_length_le (by rw [subCells_length]; omega)
            refine ex_run 50 ?_
            simp (maxSteps := 200000) only [hbl, h4, push_cast, List.getD_cons_zero, List.getD_cons_succ, List.take_succ_cons, List.take_zero, List.drop_succ_cons, Nat.reduceLT, Nat.reduceLeDiff, Nat.reduceEqDiff, Nat.reduceAdd, Nat.reduceMul, Nat.reduceSub, Int.reduceToNat, Int.reduceLE, Int.reduceLT, Int.reduceEq, Int.reduceAdd, ↓reduceIte, decide_true, decide_false, and_self]
            exact ⟨[.agg [.str tag, .nilS, .int .u8 (b.getD 0 0), .int .u8 (b.getD 1 0), .own 100 gs 0 acc2.length], .agg [.int .i64 0, .int .i64 0]], [.agg [.str tag, .nilS, .int .u8 (b.getD 0 0), .int .u8 (b.getD 1 0), .sl acc2.length (subCells acc2)], .agg [.int .i64 0, .int .i64 0]],
              by kernel_rfl, by simp [outA, outV, outL, outC, AV.closed, mkS_tk, lkG, htk, hcl], sub_tup (ds := [.agg (fCells ⟨tag, [], b.getD 0 0, b.getD 1 0, acc2⟩), .agg [.int .i64 0, .int .i64 0]]) ⟨sub_agg ⟨.refl _, .nil, .refl _, .refl _, .refl _, trivial⟩, .refl _, trivial⟩, rfl⟩
end Go.Proofs.Yteapibifebnboaa

/- ref19.Good; law21.answers; law21.small -/
set_option linter.unusedVariables false
set_option linter.unusedSimpArgs false
namespace Go.Proofs.Yteapibifebnboaa
open Go Go.Eng
theorem rbytes_s (f : FV) (ht : f.tag.length ≤ 9223372036854775807) (hb : (fbytes f).length ≤ 70368744177664) : ACall Try.prog 25 [.agg (fCells f)] (.sl (fbytes f).length (u8s (fbytes f))) none := by
  have := acall_sl (rbytes_c f ht hb) (by simp [u8s])
  rw [show (Tok.mk 0 1 (u8s (fbytes f))).cs.take ((fbytes f).length * (Tok.mk 0 1 (u8s (fbytes f))).sz) = u8s (fbytes f) from List.take_of_length_le (by simp [u8s])] at this
  exact this
def goodF (f : FV) : Bool := match fparse f.tag (fbytes f) with
  | .inr g => sameB f g
  | .inl _ => false
theorem fparse_nn {tag b : List Int} {a : Int} (h : fparse tag b = .inl a) : 0 ≤ a := by
  unfold fparse at h
  repeat' split at h
  all_goals first | (cases h; omega) | cases h
set_option maxRecDepth 100000 in
set_option maxHeartbeats 4000000 in
theorem good_c (f : FV) (ht : f.tag.length ≤ 9223372036854775807) (hx : f.text.length ≤ 9223372036854775807) (hs : ∀ s ∈ f.subs, s.2.length ≤ 9223372036854775807) (hn : f.subs.length ≤ 9223372036854775806) (hb : (fbytes f).length ≤ 1099511627776) :
    ACall Try.prog 22 [.agg (fCells f)] (.bool (goodF f)) none := by
  refine acall_intro none Try.func22 rfl (by kernel_rfl) (by simp [Try.f22]) ?_
  have hcl : closedL (subCells f.subs) = true := subCells_closed _
  refine ex_run 30 ?_
  simp (maxSteps := 200000) only [Try.f22, fCells, hcl, push_cast, List.getD_cons_zero, List.getD_cons_succ, List.take_succ_cons, List.take_zero, List.drop_succ_cons, Nat.reduceLT, Nat.reduceLeDiff, Nat.reduceEqDiff, Nat.reduceAdd, Nat.reduceMul, Nat.reduceSub, Int.reduceToNat, Int.reduceLE, Int.reduceLT, Int.reduceEq, Int.reduceAdd, ↓reduceIte, decide_true, decide_false, and_self]
  refine ⟨by kernel_rfl, ?_⟩
  refine call_introF (rbytes_s f ht (by omega)) (fun h => by cases h) ?_
  simp (maxSteps := 200000) only [hcl, push_cast, List.getD_cons_zero, List.getD_cons_succ, List.take_succ_cons, List.take_zero, List.drop_succ_cons, Nat.reduceLT, Nat.reduceLeDiff, Nat.reduceEqDiff, Nat.reduceAdd, Nat.reduceMul, Nat.reduceSub, Int.reduceToNat, Int.reduceLE, Int.reduceLT, Int.reduceEq, Int.reduceAdd, ↓reduceIte, decide_true, decide_false, and_self]
  refine call_introF (rfield_c f.tag (fbytes f) ht (by omega)) (fun h => by cases h) ?_
  unfold goodF
  cases hp : fparse f.tag (fbytes f) with
  | inl a =>
    simp (maxSteps := 200000) only [fres, fCells, zeroF, subCells_nil, u8s_nil, hcl, push_cast, List.getD_cons_zero, List.getD_cons_succ, List.take_succ_cons, List.take_zero, List.drop_succ_cons, Nat.reduceLT, Nat.reduceLeDiff, Nat.reduceEqDiff, Nat.reduceAdd, Nat.reduceMul, Nat.reduceSub, Int.reduceToNat, Int.reduceLE, Int.reduceLT, Int.reduceEq, Int.reduceAdd, ↓reduceIte, decide_true, decide_false, and_self]
    refine ⟨by kernel_rfl, ?_⟩
    exact ⟨_, _, rfl, rfl, .refl _, rfl⟩
  | inr g =>
    have hcg : closedL (subCells g.subs) = true := subCells_closed _
    simp (maxSteps := 200000) only [fres, fCells, hcl, hcg, push_cast, List.getD_cons_zero, List.getD_cons_succ, List.take_succ_cons, List.take_zero, List.drop_succ_cons, Nat.reduceLT, Nat.reduceLeDiff, Nat.reduceEqDiff, Nat.reduceAdd, Nat.reduceMul, Nat.reduceSub, Int.reduceToNat, Int.reduceLE, Int.reduceLT, Int.reduceEq, Int.reduceAdd, ↓reduceIte, decide_true, decide_false, and_self]
    refine ⟨by kernel_rfl, ?_⟩
    refine call_intro (rsame_c f g hx hs hn) (fun h => by cases h) ?_
    simp (maxSteps := 200000) only [push_cast, List.getD_cons_zero, List.getD_cons_succ, List.take_succ_cons, List.take_zero, List.drop_succ_cons, Nat.reduceLT, Nat.reduceLeDiff, Nat.reduceEqDiff, Nat.reduceAdd, Nat.reduceMul, Nat.reduceSub, Int.reduceToNat, Int.reduceLE, Int.reduceLT, Int.reduceEq, Int.reduceAdd, ↓reduceIte, decide_true, decide_false, and_self]
    exact ⟨_, _, rfl, rfl, .refl _, rfl⟩
theorem ansP : fparse [50, 52, 53] [49, 48, 31, 97, 120] = .inr ⟨[50, 52, 53], [], 49, 48, [(97, [120])]⟩ := by rfl
theorem zrep5 (x : AV) : zrep [x] 5 = [x, x, x, x, x] := by simp [zrep, show List.range 5 = [0, 1, 2, 3, 4] from rfl]
theorem b245 : bytesOf ⟨#[50, 52, 53]⟩ = [50, 52, 53] := rfl
theorem FParse_ans : ACall Try.prog 26 [.str [50, 52, 53], .sl 5 [.int .u8 49, .int .u8 48, .int .u8 31, .int .u8 97, .int .u8 120]] (.tup [.agg [.str [50, 52, 53], .sl 0 [], .int .u8 49, .int .u8 48, .sl 1 [.int .u8 97, .sl 1 [.int .u8 120]]], .agg [.int .i64 0, .int .i64 0]]) none := by
  have := FParse_c [50, 52, 53] [49, 48, 31, 97, 120] (by decide) (by decide)
  rw [ansP] at this
  exact this
set_option maxRecDepth 100000 in
set_option maxHeartbeats 4000000 in
theorem answers21_c : ACall Try.prog 24 [] (.bool true) none := by
  refine acall_intro none Try.func24 rfl (by kernel_rfl) (by simp [Try.f24]) ?_
  refine ex_run 3 ?_
  simp (maxSteps := 200000) only [Try.f24, push_cast, List.getD_cons_zero, List.getD_cons_succ, List.take_succ_cons, List.take_zero, List.drop_succ_cons, Nat.reduceLT, Nat.reduceLeDiff, Nat.reduceEqDiff, Nat.reduceAdd, Nat.reduceMul, Nat.reduceSub, Int.reduceToNat, Int.reduceLE, Int.reduceLT, Int.reduceEq, Int.reduceAdd, ↓reduceIte, decide_true, decide_false, and_self]
  refine run_region_cut 2 (by decide) ?_
  simp (maxSteps := 200000) only [List.toList_toArray, push_cast, List.getD_cons_zero, List.getD_cons_succ, List.take_succ_cons, List.take_zero, List.drop_succ_cons, Nat.reduceLT, Nat.reduceLeDiff, Nat.reduceEqDiff, Nat.reduceAdd, Nat.reduceMul, Nat.reduceSub, Int.reduceToNat, Int.reduceLE, Int.reduceLT, Int.reduceEq, Int.reduceAdd, ↓reduceIte, decide_true, decide_false, and_self]
  refine ⟨mkS [(5, .sl 5 [.int .u8 49, .int .u8 48, .int .u8 31, .int .u8 97, .int .u8 120]), (0, .bool false)] [] 11,
    freeze_leU 4 ⟨1, 1, [.int .u8 49, .int .u8 48, .int .u8 31, .int .u8 97, .int .u8 120]⟩ rfl ⟨Frz.own (t := 4) (T := ⟨1, 1, [.int .u8 49, .int .u8 48, .int .u8 31, .int .u8 97, .int .u8 120]⟩) 0 5 (by decide), .keep _, trivial⟩ trivial, rfl, ?_⟩
  simp (maxSteps := 200000) only [List.toList_toArray, b245, push_cast, List.getD_cons_zero, List.getD_cons_succ, List.take_succ_cons, List.take_zero, List.drop_succ_cons, Nat.reduceLT, Nat.reduceLeDiff, Nat.reduceEqDiff, Nat.reduceAdd, Nat.reduceMul, Nat.reduceSub, Int.reduceToNat, Int.reduceLE, Int.reduceLT, Int.reduceEq, Int.reduceAdd, ↓reduceIte, decide_true, decide_false, and_self]
  refine call_intro FParse_ans (fun h => by cases h) ?_
  simp (maxSteps := 200000) only [push_cast, List.getD_cons_zero, List.getD_cons_succ, List.take_succ_cons, List.take_zero, List.drop_succ_cons, Nat.reduceLT, Nat.reduceLeDiff, Nat.reduceEqDiff, Nat.reduceAdd, Nat.reduceMul, Nat.reduceSub, Int.reduceToNat, Int.reduceLE, Int.reduceLT, Int.reduceEq, Int.reduceAdd, ↓reduceIte, decide_true, decide_false, and_self]
  refine ex_run 30 ?_
  simp (maxSteps := 200000) only [push_cast, List.getD_cons_zero, List.getD_cons_succ, List.take_succ_cons, List.take_zero, List.drop_succ_cons, Nat.reduceLT, Nat.reduceLeDiff, Nat.reduceEqDiff, Nat.reduceAdd, Nat.reduceMul, Nat.reduceSub, Int.reduceToNat, Int.reduceLE, Int.reduceLT, Int.reduceEq, Int.reduceAdd, ↓reduceIte, decide_true, decide_false, and_self]
  exact ⟨_, _, rfl, rfl, .refl _, rfl⟩
end Go.Proofs.Yteapibifebnboaa

/- law21.small -/
set_option linter.unusedVariables false
set_option linter.unusedSimpArgs false
namespace Go.Proofs.Yteapibifebnboaa
open Go Go.Eng
def totTo (f : FV) (i : Nat) : Nat := f.tag.length + f.text.length + ((f.subs.take i).flatMap subB).length
def tot (f : FV) : Nat := f.tag.length + f.text.length + (f.subs.flatMap subB).length
theorem totTo_le (f : FV) (i : Nat) : totTo f i ≤ tot f := by have := flat_le f.subs i; unfold totTo tot; omega
theorem totTo_succ (f : FV) (i : Nat) (hi : i < f.subs.length) : totTo f (i + 1) = totTo f i + 2 + f.subs[i].2.length := by
  unfold totTo; rw [flat_snoc _ _ hi, List.length_append]; simp [subB]; omega
theorem fbytes_tot (f : FV) : (fbytes f).length ≤ tot f + 2 := by
  unfold fbytes tot
  split
  · omega
  · simp only [List.length_cons]; omega
set_option maxRecDepth 100000 in
set_option maxHeartbeats 4000000 in
theorem small_c (f : FV) (h1 : f.tag.length ≤ 140737488351232) (h2 : f.text.length ≤ 140737488351232) (h3 : ∀ s ∈ f.subs, s.2.length ≤ 140737488351232) (h4 : f.subs.length ≤ 140737488351232) :
    ACall Try.prog 21 [.agg (fCells f)] (.bool (decide (tot f < 20000))) none := by
  refine acall_intro none Try.func21 rfl (by kernel_rfl) (by simp [Try.f21]) ?_
  have w0 : IntKind.i64.wrap ((f.tag.length : Int) + (f.text.length : Int)) = ((totTo f 0 : Nat) : Int) := by rw [wrap_i64 (by omega)]; unfold totTo; simp
  refine ex_run 30 ?_
  simp (maxSteps := 200000) only [Try.f21, fCells, w0, push_cast, List.getD_cons_zero, List.getD_cons_succ, List.take_succ_cons, List.take_zero, List.drop_succ_cons, Nat.reduceLT, Nat.reduceLeDiff, Nat.reduceEqDiff, Nat.reduceAdd, Nat.reduceMul, Nat.reduceSub, Int.reduceToNat, Int.reduceLE, Int.reduceLT, Int.reduceEq, Int.reduceAdd, ↓reduceIte, decide_true, decide_false, and_self]
  refine run_keep (l' := [(1, .addr 1 0 0), (2, .bool false), (3, .int .i64 (totTo f 0 : Nat)), (4, .int .i64 0)]) (t' := [(1, ⟨0, 1, fCells f⟩)]) (nx' := _) ⟨.refl _, .refl _, .refl _, .refl _, trivial⟩ ⟨⟨_, rfl, rfl, rfl, SubL.refl _⟩, trivial⟩ (Nat.le_refl _) ?_
  refine run_loop (fun n s => ∃ (i nx : Nat), i ≤ f.subs.length ∧ n = f.subs.length - i ∧ totTo f i ≤ 300000000000000 ∧ s = mkS [(1, .addr 1 0 0), (2, .bool false), (3, .int .i64 (totTo f i : Nat)), (4, .int .i64 i)] [(1, ⟨0, 1, fCells f⟩)] nx) _ ⟨0, _, Nat.zero_le _, rfl, by unfold totTo; simp; omega, rfl⟩ ?_
  rintro n s ⟨i, nx, hi, rfl, hb, rfl⟩
  have hle := totTo_le f i
  by_cases h : i < f.subs.length
  · by_cases h20 : totTo f i < 20000
    · have g1 := subCells_get f.subs i 1 h (by omega)
      have hsl := subCells_length f.subs
      have hpos : 0 < f.subs.length * 2 := by omega
      have l1 : i * 2 + 1 < f.subs.length * 2 := by omega
      have hsucc := totTo_succ f i h
      have hlen := h3 _ (List.getElem_mem h)
      have hw : IntKind.i64.wrap ((i : Int) + 1) = ((i + 1 : Nat) : Int) := by rw [wrap_i64 (by omega)]; omega
      generalize f.subs[i] = q at *
      obtain ⟨c, tx⟩ := q
      simp only [sCells, List.getD_cons_zero, List.getD_cons_succ] at g1
      simp only at hsucc hlen
      generalize hm2 : totTo f (i + 1) = m2 at *
      generalize hm : totTo f i = m at *
      have w1 : IntKind.i64.wrap ((m : Int) + 2) = (m : Int) + 2 := wrap_i64 (by omega)
      have w2 : IntKind.i64.wrap ((m : Int) + 2 + (tx.length : Int)) = (m2 : Int) := by rw [wrap_i64 (by omega)]; omega
      have h20' : (m : Int) < 20000 := by omega
      refine ex_run 30 ?_
      simp (maxSteps := 200000) only [fCells, h, h20', g1, hsl, hpos, l1, hw, w1, w2, push_cast, List.getD_cons_zero, List.getD_cons_succ, List.take_succ_cons, List.take_zero, List.drop_succ_cons, Nat.reduceLT, Nat.reduceLeDiff, Nat.reduceEqDiff, Nat.reduceAdd, Nat.reduceMul, Nat.reduceSub, Int.reduceToNat, Int.reduceLE, Int.reduceLT, Int.reduceEq, Int.reduceAdd, ↓reduceIte, decide_true, decide_false, and_self]
      refine run_back_le (le_mk (l' := [(1, .addr 1 0 0), (2, .bool false), (3, .int .i64 m2), (4, .int .i64 ((i + 1 : Nat) : Int))]) (t' := [(1, ⟨0, 1, fCells f⟩)]) (nx' := _) ⟨.refl _, .refl _, .refl _, .of_eq (congrArg (AV.int .i64) (by omega)), trivial⟩ ⟨⟨_, rfl, rfl, rfl, SubL.refl _⟩, trivial⟩ (Nat.le_refl _)) ?_
      exact ⟨f.subs.length - (i + 1), by omega, i + 1, _, by omega, rfl, by rw [hm2]; omega, by rw [hm2]; rfl⟩
    · have h20' : ¬ (totTo f i : Int) < 20000 := by omega
      refine ex_run 30 ?_
      simp (maxSteps := 200000) only [fCells, h, h20', push_cast, List.getD_cons_zero, List.getD_cons_succ, List.take_succ_cons, List.take_zero, List.drop_succ_cons, Nat.reduceLT, Nat.reduceLeDiff, Nat.reduceEqDiff, Nat.reduceAdd, Nat.reduceMul, Nat.reduceSub, Int.reduceToNat, Int.reduceLE, Int.reduceLT, Int.reduceEq, Int.reduceAdd, ↓reduceIte, decide_true, decide_false, and_self]
      exact ⟨_, _, rfl, rfl, .of_eq (by rw [show decide (tot f < 20000) = false from decide_eq_false (by omega)]; rfl), rfl⟩
  · have hie : i = f.subs.length := by omega
    subst hie
    have ht : totTo f f.subs.length = tot f := by unfold totTo tot; rw [List.take_length]
    rw [ht]
    refine ex_run 30 ?_
    simp (maxSteps := 200000) only [fCells, h, push_cast, List.getD_cons_zero, List.getD_cons_succ, List.take_succ_cons, List.take_zero, List.drop_succ_cons, Nat.reduceLT, Nat.reduceLeDiff, Nat.reduceEqDiff, Nat.reduceAdd, Nat.reduceMul, Nat.reduceSub, Int.reduceToNat, Int.reduceLE, Int.reduceLT, Int.reduceEq, Int.reduceAdd, ↓reduceIte, decide_true, decide_false, and_self]
    have e : decide ((tot f : Int) < 20000) = decide (tot f < 20000) := by
      by_cases h : tot f < 20000
      · rw [decide_eq_true h, decide_eq_true (by omega)]
      · rw [decide_eq_false h, decide_eq_false (by omega)]
    exact ⟨_, _, rfl, rfl, .of_eq (by rw [← e]; rfl), rfl⟩
end Go.Proofs.Yteapibifebnboaa
