/- field.Parse -/
import Derived.Test.YtbkmbiccdhnibaaFldC
import Derived.Test.YtbkmbiccdhnibaaDirG
import Derived.Test.YtbkmbiccdhnibaaDirC
set_option linter.unusedVariables false
set_option linter.unusedSimpArgs false
namespace Go.Proofs.Ytbkmbiccdhnibaa
open Go Go.Eng
theorem one_n (l : List Int) (n : Nat) (hn : l.length = n) (hl : n ≤ 140737488355328) : ACall Try.prog 49 [.sl n (u8s l)] (oneR l) none := by
  subst hn; exact one_c l hl
theorem oneOf_cases (l : List Int) : oneOf l = (0, [], -1, 0) ∨ oneOf l = (0, [], -1, 1) ∨ ∃ c t, oneOf l = (c, t, ((2 + t.length : Nat) : Int), 0) ∧ 2 + t.length ≤ l.length := by
  unfold oneOf
  split
  · exact .inl rfl
  · rename_i h1
    split
    · exact .inr (.inl rfl)
    · rename_i h2
      refine .inr (.inr ⟨_, _, rfl, ?_⟩)
      have : ((l.drop 2).takeWhile freeB).length ≤ (l.drop 2).length := (List.takeWhile_prefix _).length_le
      rw [List.length_drop] at this
      omega
def subs0 (b : List Int) : Int × List SubV := subsP (b.length + 1) (b.drop 2) 2
/-- What still holds ahead of the subfield at 'at'. -/
structure SubInv (b : List Int) (at_ : Nat) (acc : List SubV) : Prop where
  le : at_ ≤ b.length
  two : 2 ≤ at_
  len : acc.length ≤ at_
  go : (at_ < b.length ∨ at_ = 2) → ∃ k, b.length - at_ < k ∧ subs0 b = ((subsP k (b.drop at_) at_).1, acc ++ (subsP k (b.drop at_) at_).2)
  fin : ¬ (at_ < b.length ∨ at_ = 2) → subs0 b = (-1, acc)
theorem SubInv.start {b : List Int} (h : 2 ≤ b.length) : SubInv b 2 [] :=
  ⟨h, Nat.le_refl _, Nat.zero_le _, fun _ => ⟨b.length + 1, by omega, rfl⟩, fun h => absurd (.inr rfl) h⟩
theorem SubInv.bad {b : List Int} {at_ : Nat} {acc : List SubV} (h : SubInv b at_ acc) (hc : at_ < b.length ∨ at_ = 2) {w : Int} (ho : oneOf (b.drop at_) = (0, [], -1, w)) : (subs0 b).1 = (at_ : Int) + w := by
  obtain ⟨k, hk, e⟩ := h.go hc
  obtain ⟨k, rfl⟩ : ∃ m, k = m + 1 := ⟨k - 1, by omega⟩
  rw [e]
  simp only [subsP, ho]
  rfl
theorem SubInv.next {b : List Int} {at_ : Nat} {acc : List SubV} (h : SubInv b at_ acc) (hc : at_ < b.length ∨ at_ = 2) {c : Int} {t : List Int} (ho : oneOf (b.drop at_) = (c, t, ((2 + t.length : Nat) : Int), 0)) (hl : 2 + t.length ≤ (b.drop at_).length) :
    SubInv b (at_ + (2 + t.length)) (acc ++ [(c, t)]) := by
  obtain ⟨k, hk, e⟩ := h.go hc
  obtain ⟨k, rfl⟩ : ∃ m, k = m + 1 := ⟨k - 1, by omega⟩
  have h2 := h.two
  have hle := h.le
  have hal := h.len
  rw [List.length_drop] at hl
  have hd : (b.drop at_).length = b.length - at_ := List.length_drop
  have hneg : ¬ (((2 + t.length : Nat) : Int) < 0) := by omega
  simp only [subsP, ho, if_neg hneg, Int.toNat_natCast, hd, List.drop_drop] at e
  refine ⟨by omega, by omega, by rw [List.length_append]; simp; omega, fun h3 => ?_, fun h3 => ?_⟩
  · rw [if_neg (by omega)] at e
    refine ⟨k, by omega, ?_⟩
    rw [e]; simp
  · rw [if_pos (by omega)] at e
    rw [e]
theorem fparse_sub {tag b : List Int} (h1 : goodTag tag = true) (h2 : ctl tag = false) (h3 : 2 ≤ b.length) (h4 : indB (b.getD 0 0) = true) (h5 : indB (b.getD 1 0) = true) :
    fparse tag b = if (subs0 b).1 < 0 then .inr ⟨tag, [], b.getD 0 0, b.getD 1 0, (subs0 b).2⟩ else .inl (subs0 b).1 := by
  unfold fparse
  rw [if_neg (by rw [h1]; simp), if_neg (by rw [h2]; simp), if_neg (fun h => h.elim (by omega) (fun h => by rw [h4] at h; cases h)), if_neg (fun h => h.elim (by omega) (fun h => by rw [h5] at h; cases h))]
  rfl
theorem subCells_nil : subCells [] = [] := rfl
theorem u8s_nil : u8s [] = [] := rfl
def l1S (tag b : List Int) (i : Nat) (g nx : Nat) : AS :=
  mkS [(0, .str tag), (1, .sl b.length (u8s b)), (4, .addr 4 0 0), (5, .addr 5 1 0), (6, .addr 6 g 0), (28, .int .i64 i)]
    [(4, ⟨0, 1, [.str [], .nilS, .int .u8 0, .int .u8 0, .nilS]⟩), (5, ⟨1, 1, [.int .i64 0, .int .i64 0]⟩), (6, ⟨g, 1, [.str tag, .nilS, .int .u8 (if 1 ≤ i then b.getD 0 0 else 0), .int .u8 (if 2 ≤ i then b.getD 1 0 else 0), .nilS]⟩)] nx
def l2S (tag b : List Int) (at_ : Nat) (acc : List SubV) (g gs nx : Nat) : AS :=
  mkS [(0, .str tag), (1, .sl b.length (u8s b)), (4, .addr 4 0 0), (5, .addr 5 1 0), (6, .addr 6 g 0), (8, .int .i64 at_)]
    [(4, ⟨0, 1, [.str [], .nilS, .int .u8 0, .int .u8 0, .nilS]⟩), (5, ⟨1, 1, [.int .i64 0, .int .i64 0]⟩), (6, ⟨g, 1, [.str tag, .nilS, .int .u8 (b.getD 0 0), .int .u8 (b.getD 1 0), .own 100 gs 0 acc.length]⟩), (100, ⟨gs, 2, subCells acc⟩)] nx
set_option maxRecDepth 100000 in
set_option maxHeartbeats 4000000 in
theorem FParse_c (tag b : List Int) (ht : tag.length ≤ 9223372036854775807) (hl : b.length ≤ 1099511627776) : ACall Try.prog 26 [.str tag, .sl b.length (u8s b)] (fres (fparse tag b)) none := by
  refine acall_intro none Try.func26 rfl (by kernel_rfl) (by simp [Try.f26]) ?_
  refine ex_run 30 ?_
  simp (maxSteps := 200000) only [Try.f26, push_cast, List.getD_cons_zero, List.getD_cons_succ, List.take_succ_cons, List.take_zero, List.drop_succ_cons, Nat.reduceLT, Nat.reduceLeDiff, Nat.reduceEqDiff, Nat.reduceAdd, Nat.reduceMul, Nat.reduceSub, Int.reduceToNat, Int.reduceLE, Int.reduceLT, Int.reduceEq, Int.reduceAdd, ↓reduceIte, decide_true, decide_false, and_self]
  refine call_intro (GoodTag_c tag ht) (fun h => by cases h) ?_
  cases hg : goodTag tag with
  | false =>
    simp (maxSteps := 200000) only [push_cast, List.getD_cons_zero, List.getD_cons_succ, List.take_succ_cons, List.take_zero, List.drop_succ_cons, Nat.reduceLT, Nat.reduceLeDiff, Nat.reduceEqDiff, Nat.reduceAdd, Nat.reduceMul, Nat.reduceSub, Int.reduceToNat, Int.reduceLE, Int.reduceLT, Int.reduceEq, Int.reduceAdd, ↓reduceIte, decide_true, decide_false, and_self]
    refine call_intro (fault_c 0) (fun h => by cases h) ?_
    simp (maxSteps := 200000) only [push_cast, List.getD_cons_zero, List.getD_cons_succ, List.take_succ_cons, List.take_zero, List.drop_succ_cons, Nat.reduceLT, Nat.reduceLeDiff, Nat.reduceEqDiff, Nat.reduceAdd, Nat.reduceMul, Nat.reduceSub, Int.reduceToNat, Int.reduceLE, Int.reduceLT, Int.reduceEq, Int.reduceAdd, ↓reduceIte, decide_true, decide_false, and_self]
    have e : fparse tag b = .inl 0 := by unfold fparse; rw [if_pos hg]
    rw [e]
    exact ⟨[.agg [.str [], .nilS, .int .u8 0, .int .u8 0, .nilS], .agg [.int .i64 12, .int .i64 0]], [.agg [.str [], .nilS, .int .u8 0, .int .u8 0, .nilS], .agg [.int .i64 12, .int .i64 0]],
      by kernel_rfl, by simp [outA, outV, outL, outC, AV.closed], sub_tup (ds := [.agg (fCells zeroF), .agg [.int .i64 12, .int .i64 0]]) ⟨sub_agg ⟨.refl _, .nil, .refl _, .refl _, .nil, trivial⟩, .refl _, trivial⟩, rfl⟩
  | true =>
    simp (maxSteps := 200000) only [push_cast, List.getD_cons_zero, List.getD_cons_succ, List.take_succ_cons, List.take_zero, List.drop_succ_cons, Nat.reduceLT, Nat.reduceLeDiff, Nat.reduceEqDiff, Nat.reduceAdd, Nat.reduceMul, Nat.reduceSub, Int.reduceToNat, Int.reduceLE, Int.reduceLT, Int.reduceEq, Int.reduceAdd, ↓reduceIte, decide_true, decide_false, and_self]
    refine call_intro (Control_c tag ht) (fun h => by cases h) ?_
    cases hc : List.isPrefixOf [48, 48] tag with
    | true =>
      have e : fparse tag b = cres tag b := by unfold fparse cres; rw [if_neg (by rw [hg]; simp), if_pos (show ctl tag = true from hc)]
      rw [e]
      simp (maxSteps := 200000) only [push_cast, List.getD_cons_zero, List.getD_cons_succ, List.take_succ_cons, List.take_zero, List.drop_succ_cons, Nat.reduceLT, Nat.reduceLeDiff, Nat.reduceEqDiff, Nat.reduceAdd, Nat.reduceMul, Nat.reduceSub, Int.reduceToNat, Int.reduceLE, Int.reduceLT, Int.reduceEq, Int.reduceAdd, ↓reduceIte, decide_true, decide_false, and_self]
      refine call_intro (control_c tag b (by omega)) (fun h => by cases h) ?_
      unfold cres
      by_cases hb : badFrom b 0 < 0
      · rw [if_pos hb]
        simp (maxSteps := 200000) only [fres, fCells, subCells_nil, u8s_nil, push_cast, List.getD_cons_zero, List.getD_cons_succ, List.take_succ_cons, List.take_zero, List.drop_succ_cons, Nat.reduceLT, Nat.reduceLeDiff, Nat.reduceEqDiff, Nat.reduceAdd, Nat.reduceMul, Nat.reduceSub, Int.reduceToNat, Int.reduceLE, Int.reduceLT, Int.reduceEq, Int.reduceAdd, ↓reduceIte, decide_true, decide_false, and_self]
        exact ⟨[.agg [.str tag, .sl b.length (u8s b), .int .u8 0, .int .u8 0, .sl 0 []], .agg [.int .i64 0, .int .i64 0]], [.agg [.str tag, .sl b.length (u8s b), .int .u8 0, .int .u8 0, .sl 0 []], .agg [.int .i64 0, .int .i64 0]],
          by kernel_rfl, by simp [outA, outV, outL, outC, AV.closed, closedL, u8s_closed], .refl _, rfl⟩
      · rw [if_neg hb]
        generalize badFrom b 0 = f
        simp (maxSteps := 200000) only [fres, fCells, zeroF, subCells_nil, u8s_nil, push_cast, List.getD_cons_zero, List.getD_cons_succ, List.take_succ_cons, List.take_zero, List.drop_succ_cons, Nat.reduceLT, Nat.reduceLeDiff, Nat.reduceEqDiff, Nat.reduceAdd, Nat.reduceMul, Nat.reduceSub, Int.reduceToNat, Int.reduceLE, Int.reduceLT, Int.reduceEq, Int.reduceAdd, ↓reduceIte, decide_true, decide_false, and_self]
        exact ⟨[.agg [.str [], .sl 0 [], .int .u8 0, .int .u8 0, .sl 0 []], .agg [.int .i64 12, .int .i64 f]], [.agg [.str [], .sl 0 [], .int .u8 0, .int .u8 0, .sl 0 []], .agg [.int .i64 12, .int .i64 f]],
          by kernel_rfl, by simp [outA, outV, outL, outC, AV.closed, closedL], .refl _, rfl⟩
    | false =>
      simp (maxSteps := 200000) only [push_cast, List.getD_cons_zero, List.getD_cons_succ, List.take_succ_cons, List.take_zero, List.drop_succ_cons, Nat.reduceLT, Nat.reduceLeDiff, Nat.reduceEqDiff, Nat.reduceAdd, Nat.reduceMul, Nat.reduceSub, Int.reduceToNat, Int.reduceLE, Int.reduceLT, Int.reduceEq, Int.reduceAdd, ↓reduceIte, decide_true, decide_false, and_self]
      refine run_keep (l' := [(0, .str tag), (1, .sl b.length (u8s b)), (4, .addr 4 0 0), (5, .addr 5 1 0), (6, .addr 6 11 0), (28, .int .i64 0)])
        (t' := [(4, ⟨0, 1, [.str [], .nilS, .int .u8 0, .int .u8 0, .nilS]⟩), (5, ⟨1, 1, [.int .i64 0, .int .i64 0]⟩), (6, ⟨11, 1, [.str tag, .nilS, .int .u8 0, .int .u8 0, .nilS]⟩)]) (nx' := _)
        ⟨.refl _, .refl _, .refl _, .refl _, .refl _, .refl _, trivial⟩ ⟨⟨_, rfl, rfl, rfl, SubL.refl _⟩, ⟨_, rfl, rfl, rfl, SubL.refl _⟩, ⟨_, rfl, rfl, rfl, SubL.refl _⟩, trivial⟩ (Nat.le_refl _) ?_
      refine run_loop (fun v s => ∃ (i nx : Nat), i ≤ 2 ∧ v = 2 - i ∧ (∀ j, j < i → j < b.length ∧ indB (b.getD j 0) = true) ∧ s = l1S tag b i 11 nx) _ ⟨0, _, by omega, rfl, fun j hj => by omega, rfl⟩ ?_
      rintro v s ⟨i, nx, hi, rfl, hall, rfl⟩
      unfold l1S
      have hbad : ∀ (i : Nat) (hi : i < 2), (∀ j, j < i → j < b.length ∧ indB (b.getD j 0) = true) → (b.length ≤ i ∨ indB (b.getD i 0) = false) → fparse tag b = .inl i := by
        intro i hi hall hor
        unfold fparse
        rw [if_neg (by rw [hg]; simp), if_neg (by show ¬ ctl tag = true; unfold ctl; rw [hc]; simp)]
        rcases (by omega : i = 0 ∨ i = 1) with rfl | rfl
        · rw [if_pos (hor.imp (by omega) id)]; rfl
        · obtain ⟨q1, q2⟩ := hall 0 (by omega)
          rw [if_neg (fun h => h.elim (by omega) (fun h => by rw [q2] at h; cases h)), if_pos (hor.imp (by omega) id)]; rfl
      by_cases h2 : i < 2
      · have hbi := hbad i h2 hall
        rcases (by omega : i = 0 ∨ i = 1) with rfl | rfl
        · by_cases hbl : 0 < b.length
          · have gi := u8s_getD b 0 hbl
            have hbl' : (0 : Int) < (b.length : Int) := by omega
            have hbn : ¬ (b.length : Int) ≤ (0 : Int) := by omega
            have hpos : 0 < b.length := by omega
            refine ex_run 30 ?_
            simp (maxSteps := 200000) only [gi, hbl, hbl', hbn, hpos, push_cast, List.getD_cons_zero, List.getD_cons_succ, List.take_succ_cons, List.take_zero, List.drop_succ_cons, Nat.reduceLT, Nat.reduceLeDiff, Nat.reduceEqDiff, Nat.reduceAdd, Nat.reduceMul, Nat.reduceSub, Int.reduceToNat, Int.reduceLE, Int.reduceLT, Int.reduceEq, Int.reduceAdd, ↓reduceIte, decide_true, decide_false, and_self]
            refine call_intro (Ind_c _) (fun h => by cases h) ?_
            cases hind : indB (b.getD 0 0) with
            | false =>
              rw [hbi (.inr hind)]
              simp (maxSteps := 200000) only [gi, hbl, hbl', hbn, hpos, push_cast, List.getD_cons_zero, List.getD_cons_succ, List.take_succ_cons, List.take_zero, List.drop_succ_cons, Nat.reduceLT, Nat.reduceLeDiff, Nat.reduceEqDiff, Nat.reduceAdd, Nat.reduceMul, Nat.reduceSub, Int.reduceToNat, Int.reduceLE, Int.reduceLT, Int.reduceEq, Int.reduceAdd, ↓reduceIte, decide_true, decide_false, and_self]
              refine call_intro (fault_c 0) (fun h => by cases h) ?_
              simp (maxSteps := 200000) only [push_cast, List.getD_cons_zero, List.getD_cons_succ, List.take_succ_cons, List.take_zero, List.drop_succ_cons, Nat.reduceLT, Nat.reduceLeDiff, Nat.reduceEqDiff, Nat.reduceAdd, Nat.reduceMul, Nat.reduceSub, Int.reduceToNat, Int.reduceLE, Int.reduceLT, Int.reduceEq, Int.reduceAdd, ↓reduceIte, decide_true, decide_false, and_self]
              exact ⟨[.agg [.str [], .nilS, .int .u8 0, .int .u8 0, .nilS], .agg [.int .i64 12, .int .i64 0]], [.agg [.str [], .nilS, .int .u8 0, .int .u8 0, .nilS], .agg [.int .i64 12, .int .i64 0]],
                by kernel_rfl, by simp [outA, outV, outL, outC, AV.closed], sub_tup (ds := [.agg (fCells zeroF), .agg [.int .i64 12, .int .i64 0]]) ⟨sub_agg ⟨.refl _, .nil, .refl _, .refl _, .nil, trivial⟩, .refl _, trivial⟩, rfl⟩
            | true =>
              have hall' : ∀ j, j < 0 + 1 → j < b.length ∧ indB (b.getD j 0) = true := fun j hj => by
                by_cases e : j = 0
                · subst e; exact ⟨hbl, hind⟩
                · exact hall j (by omega)
              have hw : IntKind.i64.wrap 1 = 1 := wrap_i64 (by omega)
              simp (maxSteps := 200000) only [gi, hbl, hbl', hbn, hpos, hw, push_cast, List.getD_cons_zero, List.getD_cons_succ, List.take_succ_cons, List.take_zero, List.drop_succ_cons, Nat.reduceLT, Nat.reduceLeDiff, Nat.reduceEqDiff, Nat.reduceAdd, Nat.reduceMul, Nat.reduceSub, Int.reduceToNat, Int.reduceLE, Int.reduceLT, Int.reduceEq, Int.reduceAdd, ↓reduceIte, decide_true, decide_false, and_self]
              refine run_back_le (le_mk (l' := [(0, .str tag), (1, .sl b.length (u8s b)), (4, .addr 4 0 0), (5, .addr 5 1 0), (6, .addr 6 11 0), (28, .int .i64 1)])
                (t' := [(4, ⟨0, 1, [.str [], .nilS, .int .u8 0, .int .u8 0, .nilS]⟩), (5, ⟨1, 1, [.int .i64 0, .int .i64 0]⟩), (6, ⟨11, 1, [.str tag, .nilS, .int .u8 (b.getD 0 0), .int .u8 0, .nilS]⟩)]) (nx' := _)
                ⟨.refl _, .refl _, .refl _, .refl _, .refl _, .refl _, trivial⟩ ⟨⟨_, rfl, rfl, rfl, SubL.refl _⟩, ⟨_, rfl, rfl, rfl, SubL.refl _⟩, ⟨_, rfl, rfl, rfl, SubL.refl _⟩, trivial⟩ (Nat.le_refl _)) ?_
              exact ⟨1, by omega, 1, _, by omega, rfl, hall', rfl⟩
          · rw [hbi (.inl (by omega))]
            have hbn : (b.length : Int) ≤ (0 : Int) := by omega
            refine ex_run 30 ?_
            simp (maxSteps := 200000) only [hbn, push_cast, List.getD_cons_zero, List.getD_cons_succ, List.take_succ_cons, List.take_zero, List.drop_succ_cons, Nat.reduceLT, Nat.reduceLeDiff, Nat.reduceEqDiff, Nat.reduceAdd, Nat.reduceMul, Nat.reduceSub, Int.reduceToNat, Int.reduceLE, Int.reduceLT, Int.reduceEq, Int.reduceAdd, ↓reduceIte, decide_true, decide_false, and_self]
            refine call_intro (fault_c 0) (fun h => by cases h) ?_
            simp (maxSteps := 200000) only [push_cast, List.getD_cons_zero, List.getD_cons_succ, List.take_succ_cons, List.take_zero, List.drop_succ_cons, Nat.reduceLT, Nat.reduceLeDiff, Nat.reduceEqDiff, Nat.reduceAdd, Nat.reduceMul, Nat.reduceSub, Int.reduceToNat, Int.reduceLE, Int.reduceLT, Int.reduceEq, Int.reduceAdd, ↓reduceIte, decide_true, decide_false, and_self]
            exact ⟨[.agg [.str [], .nilS, .int .u8 0, .int .u8 0, .nilS], .agg [.int .i64 12, .int .i64 0]], [.agg [.str [], .nilS, .int .u8 0, .int .u8 0, .nilS], .agg [.int .i64 12, .int .i64 0]],
              by kernel_rfl, by simp [outA, outV, outL, outC, AV.closed], sub_tup (ds := [.agg (fCells zeroF), .agg [.int .i64 12, .int .i64 0]]) ⟨sub_agg ⟨.refl _, .nil, .refl _, .refl _, .nil, trivial⟩, .refl _, trivial⟩, rfl⟩
        · by_cases hbl : 1 < b.length
          · have gi := u8s_getD b 1 hbl
            have hbl' : (1 : Int) < (b.length : Int) := by omega
            have hbn : ¬ (b.length : Int) ≤ (1 : Int) := by omega
            have hpos : 0 < b.length := by omega
            refine ex_run 30 ?_
            simp (maxSteps := 200000) only [gi, hbl, hbl', hbn, hpos, push_cast, List.getD_cons_zero, List.getD_cons_succ, List.take_succ_cons, List.take_zero, List.drop_succ_cons, Nat.reduceLT, Nat.reduceLeDiff, Nat.reduceEqDiff, Nat.reduceAdd, Nat.reduceMul, Nat.reduceSub, Int.reduceToNat, Int.reduceLE, Int.reduceLT, Int.reduceEq, Int.reduceAdd, ↓reduceIte, decide_true, decide_false, and_self]
            refine call_intro (Ind_c _) (fun h => by cases h) ?_
            cases hind : indB (b.getD 1 0) with
            | false =>
              rw [hbi (.inr hind)]
              simp (maxSteps := 200000) only [gi, hbl, hbl', hbn, hpos, push_cast, List.getD_cons_zero, List.getD_cons_succ, List.take_succ_cons, List.take_zero, List.drop_succ_cons, Nat.reduceLT, Nat.reduceLeDiff, Nat.reduceEqDiff, Nat.reduceAdd, Nat.reduceMul, Nat.reduceSub, Int.reduceToNat, Int.reduceLE, Int.reduceLT, Int.reduceEq, Int.reduceAdd, ↓reduceIte, decide_true, decide_false, and_self]
              refine call_intro (fault_c 1) (fun h => by cases h) ?_
              simp (maxSteps := 200000) only [push_cast, List.getD_cons_zero, List.getD_cons_succ, List.take_succ_cons, List.take_zero, List.drop_succ_cons, Nat.reduceLT, Nat.reduceLeDiff, Nat.reduceEqDiff, Nat.reduceAdd, Nat.reduceMul, Nat.reduceSub, Int.reduceToNat, Int.reduceLE, Int.reduceLT, Int.reduceEq, Int.reduceAdd, ↓reduceIte, decide_true, decide_false, and_self]
              exact ⟨[.agg [.str [], .nilS, .int .u8 0, .int .u8 0, .nilS], .agg [.int .i64 12, .int .i64 1]], [.agg [.str [], .nilS, .int .u8 0, .int .u8 0, .nilS], .agg [.int .i64 12, .int .i64 1]],
                by kernel_rfl, by simp [outA, outV, outL, outC, AV.closed], sub_tup (ds := [.agg (fCells zeroF), .agg [.int .i64 12, .int .i64 1]]) ⟨sub_agg ⟨.refl _, .nil, .refl _, .refl _, .nil, trivial⟩, .refl _, trivial⟩, rfl⟩
            | true =>
              have hall' : ∀ j, j < 1 + 1 → j < b.length ∧ indB (b.getD j 0) = true := fun j hj => by
                by_cases e : j = 1
                · subst e; exact ⟨hbl, hind⟩
                · exact hall j (by omega)
              have hw : IntKind.i64.wrap 2 = 2 := wrap_i64 (by omega)
              simp (maxSteps := 200000) only [gi, hbl, hbl', hbn, hpos, hw, push_cast, List.getD_cons_zero, List.getD_cons_succ, List.take_succ_cons, List.take_zero, List.drop_succ_cons, Nat.reduceLT, Nat.reduceLeDiff, Nat.reduceEqDiff, Nat.reduceAdd, Nat.reduceMul, Nat.reduceSub, Int.reduceToNat, Int.reduceLE, Int.reduceLT, Int.reduceEq, Int.reduceAdd, ↓reduceIte, decide_true, decide_false, and_self]
              refine run_back_le (le_mk (l' := [(0, .str tag), (1, .sl b.length (u8s b)), (4, .addr 4 0 0), (5, .addr 5 1 0), (6, .addr 6 11 0), (28, .int .i64 2)])
                (t' := [(4, ⟨0, 1, [.str [], .nilS, .int .u8 0, .int .u8 0, .nilS]⟩), (5, ⟨1, 1, [.int .i64 0, .int .i64 0]⟩), (6, ⟨11, 1, [.str tag, .nilS, .int .u8 (b.getD 0 0), .int .u8 (b.getD 1 0), .nilS]⟩)]) (nx' := _)
                ⟨.refl _, .refl _, .refl _, .refl _, .refl _, .refl _, trivial⟩ ⟨⟨_, rfl, rfl, rfl, SubL.refl _⟩, ⟨_, rfl, rfl, rfl, SubL.refl _⟩, ⟨_, rfl, rfl, rfl, SubL.refl _⟩, trivial⟩ (Nat.le_refl _)) ?_
              exact ⟨0, by omega, 2, _, by omega, rfl, hall', rfl⟩
          · rw [hbi (.inl (by omega))]
            have hbn : (b.length : Int) ≤ (1 : Int) := by omega
            refine ex_run 30 ?_
            simp (maxSteps := 200000) only [hbn, push_cast, List.getD_cons_zero, List.getD_cons_succ, List.take_succ_cons, List.take_zero, List.drop_succ_cons, Nat.reduceLT, Nat.reduceLeDiff, Nat.reduceEqDiff, Nat.reduceAdd, Nat.reduceMul, Nat.reduceSub, Int.reduceToNat, Int.reduceLE, Int.reduceLT, Int.reduceEq, Int.reduceAdd, ↓reduceIte, decide_true, decide_false, and_self]
            refine call_intro (fault_c 1) (fun h => by cases h) ?_
            simp (maxSteps := 200000) only [push_cast, List.getD_cons_zero, List.getD_cons_succ, List.take_succ_cons, List.take_zero, List.drop_succ_cons, Nat.reduceLT, Nat.reduceLeDiff, Nat.reduceEqDiff, Nat.reduceAdd, Nat.reduceMul, Nat.reduceSub, Int.reduceToNat, Int.reduceLE, Int.reduceLT, Int.reduceEq, Int.reduceAdd, ↓reduceIte, decide_true, decide_false, and_self]
            exact ⟨[.agg [.str [], .nilS, .int .u8 0, .int .u8 0, .nilS], .agg [.int .i64 12, .int .i64 1]], [.agg [.str [], .nilS, .int .u8 0, .int .u8 0, .nilS], .agg [.int .i64 12, .int .i64 1]],
              by kernel_rfl, by simp [outA, outV, outL, outC, AV.closed], sub_tup (ds := [.agg (fCells zeroF), .agg [.int .i64 12, .int .i64 1]]) ⟨sub_agg ⟨.refl _, .nil, .refl _, .refl _, .nil, trivial⟩, .refl _, trivial⟩, rfl⟩
      · have h2e : i = 2 := by omega
        subst h2e
        refine ex_run 30 ?_
        simp (maxSteps := 200000) only [push_cast, List.getD_cons_zero, List.getD_cons_succ, List.take_succ_cons, List.take_zero, List.drop_succ_cons, Nat.reduceLT, Nat.reduceLeDiff, Nat.reduceEqDiff, Nat.reduceAdd, Nat.reduceMul, Nat.reduceSub, Int.reduceToNat, Int.reduceLE, Int.reduceLT, Int.reduceEq, Int.reduceAdd, ↓reduceIte, decide_true, decide_false, and_self]
        obtain ⟨hl0, hi0⟩ := hall 0 (by omega)
        obtain ⟨hl1, hi1⟩ := hall 1 (by omega)
        have hfp := fparse_sub (tag := tag) (b := b) hg hc (by omega) hi0 hi1
        rw [hfp]
        refine run_lazyCell 6 4 100 2 ⟨11, 1, [.str tag, .nilS, .int .u8 (b.getD 0 0), .int .u8 (b.getD 1 0), .nilS]⟩ rfl rfl (by decide) ?_
        refine run_keep (l' := [(0, .str tag), (1, .sl b.length (u8s b)), (4, .addr 4 0 0), (5, .addr 5 1 0), (6, .addr 6 11 0), (8, .int .i64 2)])
          (t' := [(4, ⟨0, 1, [.str [], .nilS, .int .u8 0, .int .u8 0, .nilS]⟩), (5, ⟨1, 1, [.int .i64 0, .int .i64 0]⟩), (6, ⟨11, 1, [.str tag, .nilS, .int .u8 (b.getD 0 0), .int .u8 (b.getD 1 0), .own 100 _ 0 0]⟩), (100, ⟨_, 2, []⟩)]) (nx' := _)
          ⟨.refl _, .refl _, .refl _, .refl _, .refl _, .refl _, trivial⟩ ⟨⟨_, rfl, rfl, rfl, SubL.refl _⟩, ⟨_, rfl, rfl, rfl, SubL.refl _⟩, ⟨_, rfl, rfl, rfl, SubL.refl _⟩, ⟨_, rfl, rfl, rfl, SubL.refl _⟩, trivial⟩ (Nat.le_refl _) ?_
        refine run_loop (fun v s => ∃ (at_ : Nat) (acc : List SubV) (gs nx : Nat), SubInv b at_ acc ∧ v = b.length + 1 - at_ ∧ s = l2S tag b at_ acc 11 gs nx) _ ⟨2, [], _, _, SubInv.start (by omega), rfl, rfl⟩ ?_
        rintro v s ⟨at_, acc, gs, nx, hinv, rfl, rfl⟩
        unfold l2S
        have hle := hinv.le
        have h2 := hinv.two
        have hal := hinv.len
        by_cases hC : at_ < b.length ∨ at_ = 2
        · have hdl : (List.drop at_ b).length = b.length - at_ := List.length_drop
          have k1 : (at_ : Int) ≤ (b.length : Int) := by omega
          have hone := one_n (List.drop at_ b) (b.length - at_) hdl (by omega)
          have hor : (at_ < b.length) ∨ (¬ (at_ < b.length) ∧ ((at_ : Int) = 2) = True) := by
            by_cases h : at_ < b.length
            · exact .inl h
            · exact .inr ⟨h, eq_true (by omega)⟩
          rcases oneOf_cases (List.drop at_ b) with ho | ho | ⟨c, tx, ho, hto⟩
          · have hS := hinv.bad hC ho
            rw [Int.add_zero] at hS
            rw [hS, if_neg (by omega)]
            unfold oneR at hone
            rw [ho] at hone
            simp only [sCells, List.length_nil, u8s_nil] at hone
            have w1 : IntKind.i64.wrap (at_ : Int) = (at_ : Int) := wrap_i64 (by omega)
            rcases hor with hlt | ⟨hlt, he2⟩
            · refine ex_run 30 ?_
              simp (maxSteps := 200000) only [hlt, k1, hle, List.take_length, push_cast, List.getD_cons_zero, List.getD_cons_succ, List.take_succ_cons, List.take_zero, List.drop_succ_cons, Nat.reduceLT, Nat.reduceLeDiff, Nat.reduceEqDiff, Nat.reduceAdd, Nat.reduceMul, Nat.reduceSub, Int.reduceToNat, Int.reduceLE, Int.reduceLT, Int.reduceEq, Int.reduceAdd, ↓reduceIte, decide_true, decide_false, and_self]
              refine call_intro hone (fun h => by cases h) ?_
              simp (maxSteps := 200000) only [w1, Int.add_zero, push_cast, List.getD_cons_zero, List.getD_cons_succ, List.take_succ_cons, List.take_zero, List.drop_succ_cons, Nat.reduceLT, Nat.reduceLeDiff, Nat.reduceEqDiff, Nat.reduceAdd, Nat.reduceMul, Nat.reduceSub, Int.reduceToNat, Int.reduceLE, Int.reduceLT, Int.reduceEq, Int.reduceAdd, ↓reduceIte, decide_true, decide_false, and_self]
              refine call_intro (fault_c (at_ : Int)) (fun h => by cases h) ?_
              simp (maxSteps := 200000) only [push_cast, List.getD_cons_zero, List.getD_cons_succ, List.take_succ_cons, List.take_zero, List.drop_succ_cons, Nat.reduceLT, Nat.reduceLeDiff, Nat.reduceEqDiff, Nat.reduceAdd, Nat.reduceMul, Nat.reduceSub, Int.reduceToNat, Int.reduceLE, Int.reduceLT, Int.reduceEq, Int.reduceAdd, ↓reduceIte, decide_true, decide_false, and_self]
              exact ⟨[.agg [.str [], .nilS, .int .u8 0, .int .u8 0, .nilS], .agg [.int .i64 12, .int .i64 (at_ : Int)]], [.agg [.str [], .nilS, .int .u8 0, .int .u8 0, .nilS], .agg [.int .i64 12, .int .i64 (at_ : Int)]],
                by kernel_rfl, by simp [outA, outV, outL, outC, AV.closed], sub_tup (ds := [.agg (fCells zeroF), .agg [.int .i64 12, .int .i64 (at_ : Int)]]) ⟨sub_agg ⟨.refl _, .nil, .refl _, .refl _, .nil, trivial⟩, .refl _, trivial⟩, rfl⟩
            · refine ex_run 30 ?_
              simp (maxSteps := 200000) only [hlt, he2, k1, hle, List.take_length, push_cast, List.getD_cons_zero, List.getD_cons_succ, List.take_succ_cons, List.take_zero, List.drop_succ_cons, Nat.reduceLT, Nat.reduceLeDiff, Nat.reduceEqDiff, Nat.reduceAdd, Nat.reduceMul, Nat.reduceSub, Int.reduceToNat, Int.reduceLE, Int.reduceLT, Int.reduceEq, Int.reduceAdd, ↓reduceIte, decide_true, decide_false, and_self]
              refine call_intro hone (fun h => by cases h) ?_
              simp (maxSteps := 200000) only [w1, Int.add_zero, push_cast, List.getD_cons_zero, List.getD_cons_succ, List.take_succ_cons, List.take_zero, List.drop_succ_cons, Nat.reduceLT, Nat.reduceLeDiff, Nat.reduceEqDiff, Nat.reduceAdd, Nat.reduceMul, Nat.reduceSub, Int.reduceToNat, Int.reduceLE, Int.reduceLT, Int.reduceEq, Int.reduceAdd, ↓reduceIte, decide_true, decide_false, and_self]
              refine call_intro (fault_c (at_ : Int)) (fun h => by cases h) ?_
              simp (maxSteps := 200000) only [push_cast, List.getD_cons_zero, List.getD_cons_succ, List.take_succ_cons, List.take_zero, List.drop_succ_cons, Nat.reduceLT, Nat.reduceLeDiff, Nat.reduceEqDiff, Nat.reduceAdd, Nat.reduceMul, Nat.reduceSub, Int.reduceToNat, Int.reduceLE, Int.reduceLT, Int.reduceEq, Int.reduceAdd, ↓reduceIte, decide_true, decide_false, and_self]
              exact ⟨[.agg [.str [], .nilS, .int .u8 0, .int .u8 0, .nilS], .agg [.int .i64 12, .int .i64 (at_ : Int)]], [.agg [.str [], .nilS, .int .u8 0, .int .u8 0, .nilS], .agg [.int .i64 12, .int .i64 (at_ : Int)]],
                by kernel_rfl, by simp [outA, outV, outL, outC, AV.closed], sub_tup (ds := [.agg (fCells zeroF), .agg [.int .i64 12, .int .i64 (at_ : Int)]]) ⟨sub_agg ⟨.refl _, .nil, .refl _, .refl _, .nil, trivial⟩, .refl _, trivial⟩, rfl⟩
          · have hS := hinv.bad hC ho
            rw [hS, if_neg (by omega)]
            unfold oneR at hone
            rw [ho] at hone
            simp only [sCells, List.length_nil, u8s_nil] at hone
            have w1 : IntKind.i64.wrap ((at_ : Int) + 1) = ((at_ : Int) + 1) := wrap_i64 (by omega)
            rcases hor with hlt | ⟨hlt, he2⟩
            · refine ex_run 30 ?_
              simp (maxSteps := 200000) only [hlt, k1, hle, List.take_length, push_cast, List.getD_cons_zero, List.getD_cons_succ, List.take_succ_cons, List.take_zero, List.drop_succ_cons, Nat.reduceLT, Nat.reduceLeDiff, Nat.reduceEqDiff, Nat.reduceAdd, Nat.reduceMul, Nat.reduceSub, Int.reduceToNat, Int.reduceLE, Int.reduceLT, Int.reduceEq, Int.reduceAdd, ↓reduceIte, decide_true, decide_false, and_self]
              refine call_intro hone (fun h => by cases h) ?_
              simp (maxSteps := 200000) only [w1, Int.add_zero, push_cast, List.getD_cons_zero, List.getD_cons_succ, List.take_succ_cons, List.take_zero, List.drop_succ_cons, Nat.reduceLT, Nat.reduceLeDiff, Nat.reduceEqDiff, Nat.reduceAdd, Nat.reduceMul, Nat.reduceSub, Int.reduceToNat, Int.reduceLE, Int.reduceLT, Int.reduceEq, Int.reduceAdd, ↓reduceIte, decide_true, decide_false, and_self]
              refine call_intro (fault_c ((at_ : Int) + 1)) (fun h => by cases h) ?_
              simp (maxSteps := 200000) only [push_cast, List.getD_cons_zero, List.getD_cons_succ, List.take_succ_cons, List.take_zero, List.drop_succ_cons, Nat.reduceLT, Nat.reduceLeDiff, Nat.reduceEqDiff, Nat.reduceAdd, Nat.reduceMul, Nat.reduceSub, Int.reduceToNat, Int.reduceLE, Int.reduceLT, Int.reduceEq, Int.reduceAdd, ↓reduceIte, decide_true, decide_false, and_self]
              exact ⟨[.agg [.str [], .nilS, .int .u8 0, .int .u8 0, .nilS], .agg [.int .i64 12, .int .i64 ((at_ : Int) + 1)]], [.agg [.str [], .nilS, .int .u8 0, .int .u8 0, .nilS], .agg [.int .i64 12, .int .i64 ((at_ : Int) + 1)]],
                by kernel_rfl, by simp [outA, outV, outL, outC, AV.closed], sub_tup (ds := [.agg (fCells zeroF), .agg [.int .i64 12, .int .i64 ((at_ : Int) + 1)]]) ⟨sub_agg ⟨.refl _, .nil, .refl _, .refl _, .nil, trivial⟩, .refl _, trivial⟩, rfl⟩
            · refine ex_run 30 ?_
              simp (maxSteps := 200000) only [hlt, he2, k1, hle, List.take_length, push_cast, List.getD_cons_zero, List.getD_cons_succ, List.take_succ_cons, List.take_zero, List.drop_succ_cons, Nat.reduceLT, Nat.reduceLeDiff, Nat.reduceEqDiff, Nat.reduceAdd, Nat.reduceMul, Nat.reduceSub, Int.reduceToNat, Int.reduceLE, Int.reduceLT, Int.reduceEq, Int.reduceAdd, ↓reduceIte, decide_true, decide_false, and_self]
              refine call_intro hone (fun h => by cases h) ?_
              simp (maxSteps := 200000) only [w1, Int.add_zero, push_cast, List.getD_cons_zero, List.getD_cons_succ, List.take_succ_cons, List.take_zero, List.drop_succ_cons, Nat.reduceLT, Nat.reduceLeDiff, Nat.reduceEqDiff, Nat.reduceAdd, Nat.reduceMul, Nat.reduceSub, Int.reduceToNat, Int.reduceLE, Int.reduceLT, Int.reduceEq, Int.reduceAdd, ↓reduceIte, decide_true, decide_false, and_self]
              refine call_intro (fault_c ((at_ : Int) + 1)) (fun h => by cases h) ?_
              simp (maxSteps := 200000) only [push_cast, List.getD_cons_zero, List.getD_cons_succ, List.take_succ_cons, List.take_zero, List.drop_succ_cons, Nat.reduceLT, Nat.reduceLeDiff, Nat.reduceEqDiff, Nat.reduceAdd, Nat.reduceMul, Nat.reduceSub, Int.reduceToNat, Int.reduceLE, Int.reduceLT, Int.reduceEq, Int.reduceAdd, ↓reduceIte, decide_true, decide_false, and_self]
              exact ⟨[.agg [.str [], .nilS, .int .u8 0, .int .u8 0, .nilS], .agg [.int .i64 12, .int .i64 ((at_ : Int) + 1)]], [.agg [.str [], .nilS, .int .u8 0, .int .u8 0, .nilS], .agg [.int .i64 12, .int .i64 ((at_ : Int) + 1)]],
                by kernel_rfl, by simp [outA, outV, outL, outC, AV.closed], sub_tup (ds := [.agg (fCells zeroF), .agg [.int .i64 12, .int .i64 ((at_ : Int) + 1)]]) ⟨sub_agg ⟨.refl _, .nil, .refl _, .refl _, .nil, trivial⟩, .refl _, trivial⟩, rfl⟩
          · have hS := hinv.next hC ho hto
            unfold oneR at hone
            rw [ho] at hone
            simp only [sCells] at hone
            rw [hdl] at hto
            have hnn : ¬ (((2 + tx.length : Nat) : Int) < 0) := by omega
            have w1 : IntKind.i64.wrap ((at_ : Int) + ((2 + tx.length : Nat) : Int)) = ((at_ + (2 + tx.length) : Nat) : Int) := by rw [wrap_i64 (by omega)]; omega
            generalize hn2 : 2 + tx.length = n2 at *
            have hsl := subCells_length acc
            rcases hor with hlt | ⟨hlt, he2⟩
            · refine ex_run 30 ?_
              simp (maxSteps := 200000) only [hlt, k1, hle, List.take_length, push_cast, List.getD_cons_zero, List.getD_cons_succ, List.take_succ_cons, List.take_zero, List.drop_succ_cons, Nat.reduceLT, Nat.reduceLeDiff, Nat.reduceEqDiff, Nat.reduceAdd, Nat.reduceMul, Nat.reduceSub, Int.reduceToNat, Int.reduceLE, Int.reduceLT, Int.reduceEq, Int.reduceAdd, ↓reduceIte, decide_true, decide_false, and_self]
              refine call_intro hone (fun h => by cases h) ?_
              simp (maxSteps := 200000) only [hnn, w1, hsl, push_cast, List.getD_cons_zero, List.getD_cons_succ, List.take_succ_cons, List.take_zero, List.drop_succ_cons, Nat.reduceLT, Nat.reduceLeDiff, Nat.reduceEqDiff, Nat.reduceAdd, Nat.reduceMul, Nat.reduceSub, Int.reduceToNat, Int.reduceLE, Int.reduceLT, Int.reduceEq, Int.reduceAdd, ↓reduceIte, decide_true, decide_false, and_self]
              refine ⟨⟨by omega, by omega⟩, ?_⟩
              refine run_back_le (le_mk (l' := [(0, .str tag), (1, .sl b.length (u8s b)), (4, .addr 4 0 0), (5, .addr 5 1 0), (6, .addr 6 11 0), (8, .int .i64 ((at_ + n2 : Nat) : Int))])
                (t' := [(4, ⟨0, 1, [.str [], .nilS, .int .u8 0, .int .u8 0, .nilS]⟩), (5, ⟨1, 1, [.int .i64 0, .int .i64 0]⟩), (6, ⟨11, 1, [.str tag, .nilS, .int .u8 (b.getD 0 0), .int .u8 (b.getD 1 0), .own 100 _ 0 (acc ++ [(c, tx)]).length]⟩), (100, ⟨_, 2, subCells (acc ++ [(c, tx)])⟩)]) (nx' := _)
                ⟨.refl _, .refl _, .refl _, .refl _, .refl _, .of_eq (congrArg (AV.int .i64) (by omega)), trivial⟩
                ⟨⟨_, rfl, rfl, rfl, SubL.refl _⟩, ⟨_, rfl, rfl, rfl, SubL.refl _⟩, ⟨_, rfl, rfl, rfl, ⟨.refl _, .refl _, .refl _, .refl _, .of_eq (congrArg (AV.own 100 _ 0) (by simp)), trivial⟩⟩, ⟨_, rfl, rfl, rfl, by rw [subCells_snoc]; exact SubL.refl _⟩, trivial⟩ (Nat.le_refl _)) ?_
              exact ⟨b.length + 1 - (at_ + n2), by omega, at_ + n2, acc ++ [(c, tx)], _, _, hS, rfl, rfl⟩
            · refine ex_run 30 ?_
              simp (maxSteps := 200000) only [hlt, he2, k1, hle, List.take_length, push_cast, List.getD_cons_zero, List.getD_cons_succ, List.take_succ_cons, List.take_zero, List.drop_succ_cons, Nat.reduceLT, Nat.reduceLeDiff, Nat.reduceEqDiff, Nat.reduceAdd, Nat.reduceMul, Nat.reduceSub, Int.reduceToNat, Int.reduceLE, Int.reduceLT, Int.reduceEq, Int.reduceAdd, ↓reduceIte, decide_true, decide_false, and_self]
              refine call_intro hone (fun h => by cases h) ?_
              simp (maxSteps := 200000) only [hnn, w1, hsl, push_cast, List.getD_cons_zero, List.getD_cons_succ, List.take_succ_cons, List.take_zero, List.drop_succ_cons, Nat.reduceLT, Nat.reduceLeDiff, Nat.reduceEqDiff, Nat.reduceAdd, Nat.reduceMul, Nat.reduceSub, Int.reduceToNat, Int.reduceLE, Int.reduceLT, Int.reduceEq, Int.reduceAdd, ↓reduceIte, decide_true, decide_false, and_self]
              refine ⟨⟨by omega, by omega⟩, ?_⟩
              refine run_back_le (le_mk (l' := [(0, .str tag), (1, .sl b.length (u8s b)), (4, .addr 4 0 0), (5, .addr 5 1 0), (6, .addr 6 11 0), (8, .int .i64 ((at_ + n2 : Nat) : Int))])
                (t' := [(4, ⟨0, 1, [.str [], .nilS, .int .u8 0, .int .u8 0, .nilS]⟩), (5, ⟨1, 1, [.int .i64 0, .int .i64 0]⟩), (6, ⟨11, 1, [.str tag, .nilS, .int .u8 (b.getD 0 0), .int .u8 (b.getD 1 0), .own 100 _ 0 (acc ++ [(c, tx)]).length]⟩), (100, ⟨_, 2, subCells (acc ++ [(c, tx)])⟩)]) (nx' := _)
                ⟨.refl _, .refl _, .refl _, .refl _, .refl _, .of_eq (congrArg (AV.int .i64) (by omega)), trivial⟩
                ⟨⟨_, rfl, rfl, rfl, SubL.refl _⟩, ⟨_, rfl, rfl, rfl, SubL.refl _⟩, ⟨_, rfl, rfl, rfl, ⟨.refl _, .refl _, .refl _, .refl _, .of_eq (congrArg (AV.own 100 _ 0) (by simp)), trivial⟩⟩, ⟨_, rfl, rfl, rfl, by rw [subCells_snoc]; exact SubL.refl _⟩, trivial⟩ (Nat.le_refl _)) ?_
              exact ⟨b.length + 1 - (at_ + n2), by omega, at_ + n2, acc ++ [(c, tx)], _, _, hS, rfl, rfl⟩
        · have n1 : ¬ (at_ < b.length) := fun h => hC (.inl h)
          have n2 : ¬ ((at_ : Int) = 2) := fun h => hC (.inr (by omega))
          have hS := hinv.fin hC
          refine ex_run 30 ?_
          simp (maxSteps := 200000) only [n1, n2, push_cast, List.getD_cons_zero, List.getD_cons_succ, List.take_succ_cons, List.take_zero, List.drop_succ_cons, Nat.reduceLT, Nat.reduceLeDiff, Nat.reduceEqDiff, Nat.reduceAdd, Nat.reduceMul, Nat.reduceSub, Int.reduceToNat, Int.reduceLE, Int.reduceLT, Int.reduceEq, Int.reduceAdd, ↓reduceIte, decide_true, decide_false, and_self]
          rw [hS, if_pos (show (-1 : Int) < 0 by decide)]
          have hcl := subCells_closed acc
          have hsl := subCells_length acc
          have htk : (subCells acc).take (acc.length * 2) = subCells acc := List.take_of_length_le (by omega)
          exact ⟨[.agg [.str tag, .nilS, .int .u8 (b.getD 0 0), .int .u8 (b.getD 1 0), .own 100 gs 0 acc.length], .agg [.int .i64 0, .int .i64 0]], [.agg [.str tag, .nilS, .int .u8 (b.getD 0 0), .int .u8 (b.getD 1 0), .sl acc.length (subCells acc)], .agg [.int .i64 0, .int .i64 0]],
            by kernel_rfl, by simp [outA, outV, outL, outC, AV.closed, mkS_tk, lkG, htk, hcl], sub_tup (ds := [.agg (fCells ⟨tag, [], b.getD 0 0, b.getD 1 0, acc⟩), .agg [.int .i64 0, .int .i64 0]]) ⟨sub_agg ⟨.refl _, .nil, .refl _, .refl _, .refl _, trivial⟩, .refl _, trivial⟩, rfl⟩
end Go.Proofs.Ytbkmbiccdhnibaa
