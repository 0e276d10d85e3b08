/- ref19.piece -/
import Derived.Test.YteapibifebnboaaDoorMndQ
set_option linter.unusedVariables false
set_option linter.unusedSimpArgs false
namespace Go.Proofs.YteapibifebnboaaDoor
open Go Go.Eng
theorem noB_take_succ {b : List Int} {i : Nat} (h : i < b.length) : noB 31 (b.take (i + 1)) = noB 31 (b.take i) ++ (if b.getD i 0 = 31 then [] else [b.getD i 0]) := by
  rw [take_succ_getD h]
  unfold noB
  rw [List.filter_append]
  congr 1
  by_cases e : b.getD i 0 = 31
  · rw [if_pos e, e]; rfl
  · rw [if_neg e, List.filter_cons_of_pos (by simpa using e)]; rfl
def ctx (b : List Int) (i : Nat) : List Int := (noB 31 (b.take i)).take 9998
theorem ctx_same {b : List Int} {i : Nat} (h : i < b.length) (hc : b.getD i 0 = 31 ∨ 9998 ≤ (ctx b i).length) : ctx b (i + 1) = ctx b i := by
  unfold ctx at *
  rw [noB_take_succ h]
  rcases hc with hc | hc
  · rw [if_pos hc, List.append_nil]
  · rw [List.length_take] at hc
    rw [List.take_append_of_le_length (by omega)]
theorem ctx_more {b : List Int} {i : Nat} (h : i < b.length) (hc : b.getD i 0 ≠ 31) (hl : (ctx b i).length < 9998) : ctx b (i + 1) = ctx b i ++ [b.getD i 0] := by
  unfold ctx at *
  rw [List.length_take] at hl
  rw [noB_take_succ h, if_neg hc]
  generalize noB 31 (b.take i) = L at *
  rw [List.take_of_length_le (l := L ++ [b.getD i 0]) (by rw [List.length_append, List.length_singleton]; omega), List.take_of_length_le (l := L) (by omega)]
theorem ctx_len (b : List Int) (i : Nat) : (ctx b i).length ≤ 9998 := by unfold ctx; rw [List.length_take]; omega
theorem nI_cons (c : Int) (t : List Int) : nI (c :: t) = if c = 31 then 0 else nI t + 1 := by
  unfold nI
  by_cases e : c = 31
  · rw [if_pos e, List.takeWhile_cons_of_neg (by simp [e])]; rfl
  · rw [if_neg e, List.takeWhile_cons_of_pos (by simp [e])]; rfl
theorem nI_step : ∀ (b : List Int) (i : Nat), i ≤ nI b → (i < nI b ↔ i < b.length ∧ b.getD i 0 ≠ 31)
  | [], i, h => by simp [nI]
  | c :: t, 0, h => by
    rw [nI_cons]
    by_cases e : c = 31
    · rw [if_pos e]; simp [e]
    · rw [if_neg e]; simp [e]
  | c :: t, i + 1, h => by
    rw [nI_cons] at h ⊢
    by_cases e : c = 31
    · rw [if_pos e] at h; omega
    · rw [if_neg e] at h ⊢
      have := nI_step t i (by omega)
      simp only [List.length_cons, List.getD_cons_succ]
      constructor
      · intro h2; have := this.1 (by omega); exact ⟨by omega, this.2⟩
      · intro h2; have := this.2 ⟨by omega, h2.2⟩; omega
theorem run_join4 {P : Program} {N : Nat} {α : Type} {c d e : It} {k : List It} {Q : AS → Prop} {s : AS} (S : α → AS) (h1 : (∀ a, Run P N k Q (S a)) → Run P N (c :: d :: e :: k) Q s)
    (h2 : ∀ a, Run P N k Q (S a)) : Run P N (c :: d :: e :: k) Q s := h1 h2
theorem run_via {P : Program} {N : Nat} {α : Type} {k : List It} {Q : AS → Prop} {s : AS} (S : α → AS) (h : ∀ a, Run P N k Q (S a)) (h2 : (∀ a, Run P N k Q (S a)) → Run P N k Q s) : Run P N k Q s := h2 h
theorem pcGo_skip {c : Int} (t : List Int) (r : Nat) (A : List SubV) (h : c ≠ 31) : pcGo (c :: t) r false A = pcGo t r false A := by
  cases t with
  | nil => rw [pcGo_one, if_neg h, if_neg (by simp), pcGo_nil]
  | cons d t => rw [pcGo_two, if_neg h, if_neg (by simp)]
theorem pcGo_31 (t : List Int) (r : Nat) (A : List SubV) : pcGo (31 :: t) r true A = pcGo (31 :: t) r false A := by
  cases t with
  | nil => rw [pcGo_one, pcGo_one, if_pos rfl, if_pos rfl]
  | cons d t => rw [pcGo_two, pcGo_two, if_pos rfl, if_pos rfl]
/-- A piece's bytes are read: no subfield is open, or the last one is. -/
def pcS (tag b : List Int) (x0 x1 : Int) (i r : Nat) (op : Bool) (n g : Nat) (K : List AV) (ext : List (Nat × Tok)) (nx : Nat) : AS :=
  mkS [(0, .str tag), (1, .sl b.length (u8s b)), (4, .addr 4 0 0), (5, .addr 5 3 0), (7, .int .i64 i), (8, .int .i64 r), (9, .bool op)]
    ((4, ⟨0, 1, [.str [], .nilS, .int .u8 0, .int .u8 0, .nilS]⟩) :: (5, ⟨3, 1, [.str tag, .nilS, .int .u8 x0, .int .u8 x1, .own 100 g 0 n]⟩) :: (100, ⟨g, 2, K⟩) :: ext) nx
def PInv (tag b : List Int) (x0 x1 : Int) (res : List SubV) (n : Nat) (s : AS) : Prop := ∃ (i r g nx : Nat) (acc : List SubV), i ≤ b.length ∧ r ≤ 9996 ∧ n = b.length - i ∧ acc.length ≤ i ∧
  ((res = pcGo (b.drop i) r false acc ∧ s = pcS tag b x0 x1 i r false acc.length g (subCells acc) [] nx) ∨
   ∃ (x : Int) (u : List Int) (gt : Nat), res = pcGo (b.drop i) r true (acc ++ [(x, u)]) ∧ acc.length + 1 ≤ i + 1 ∧ u.length ≤ i ∧ s = pcS tag b x0 x1 i r true (acc.length + 1) g (subCells acc ++ [.int .u8 x, .own 200 gt 0 u.length]) [(200, ⟨gt, 1, u8s u⟩)] nx)
/-- ref19.piece's field. -/
def pieceF (tag b : List Int) : FV := if ctl tag = true then ctlM tag b else datM tag b
def zF : List AV := [.str [], .nilS, .int .u8 0, .int .u8 0, .nilS]
set_option maxRecDepth 100000 in
set_option maxHeartbeats 8000000 in
theorem piece_c (tag b : List Int) (ht : tag.length ≤ 9223372036854775807) (hl : inB b) (hn : b.length ≤ 1099511627776) : ACall Tryd.prog 26 [.str tag, .sl b.length (u8s b)] (.agg (fCells (pieceF tag b))) none := by
  refine acall_intro none Tryd.func26 rfl (by kernel_rfl) (by simp [Tryd.f26]) ?_
  refine ex_run 7 ?_
  simp (maxSteps := 200000) only [Tryd.f26, push_cast, List.getD_cons_zero, List.getD_cons_succ, List.take_succ_cons, List.take_zero, List.drop_succ_cons, Nat.reduceLT, Nat.reduceLeDiff, Nat.reduceEqDiff, Nat.reduceAdd, Nat.reduceMul, Nat.reduceSub, Int.reduceToNat, Int.reduceLE, Int.reduceLT, Int.reduceEq, Int.reduceAdd, ↓reduceIte, decide_true, decide_false, and_self]
  refine call_intro (RControl_c tag ht) (fun h => by cases h) ?_
  cases hc : ctl tag with
  | true =>
    have hc' : List.isPrefixOf [48, 48] tag = true := hc
    have hp : pieceF tag b = ctlM tag b := by unfold pieceF; rw [if_pos hc]
    rw [hp]
    simp (maxSteps := 200000) only [hc', push_cast, List.getD_cons_zero, List.getD_cons_succ, List.take_succ_cons, List.take_zero, List.drop_succ_cons, Nat.reduceLT, Nat.reduceLeDiff, Nat.reduceEqDiff, Nat.reduceAdd, Nat.reduceMul, Nat.reduceSub, Int.reduceToNat, Int.reduceLE, Int.reduceLT, Int.reduceEq, Int.reduceAdd, ↓reduceIte, decide_true, decide_false, and_self]
    refine run_lazyCell 5 1 100 1 ⟨3, 1, [.str tag, .nilS, .int .u8 0, .int .u8 0, .nilS]⟩ rfl rfl (by decide) ?_
    refine ex_run 30 ?_
    simp (maxSteps := 200000) only [push_cast, List.getD_cons_zero, List.getD_cons_succ, List.take_succ_cons, List.take_zero, List.drop_succ_cons, Nat.reduceLT, Nat.reduceLeDiff, Nat.reduceEqDiff, Nat.reduceAdd, Nat.reduceMul, Nat.reduceSub, Int.reduceToNat, Int.reduceLE, Int.reduceLT, Int.reduceEq, Int.reduceAdd, ↓reduceIte, decide_true, decide_false, and_self]
    refine run_keep (l' := [(0, .str tag), (1, .sl b.length (u8s b)), (4, .addr 4 0 0), (5, .addr 5 3 0), (6, .int .i64 0)]) (t' := [(4, ⟨0, 1, zF⟩), (5, ⟨3, 1, [.str tag, .own 100 _ 0 (ctx b 0).length, .int .u8 0, .int .u8 0, .nilS]⟩), (100, ⟨_, 1, u8s (ctx b 0)⟩)]) (nx' := _) ⟨.refl _, .refl _, .refl _, .refl _, .refl _, trivial⟩ ⟨⟨_, rfl, rfl, rfl, SubL.refl _⟩, ⟨_, rfl, rfl, rfl, SubL.refl _⟩, ⟨_, rfl, rfl, rfl, SubL.refl _⟩, trivial⟩ (Nat.le_refl _) ?_
    refine run_loop (fun n s => ∃ (i g nx : Nat), i ≤ b.length ∧ n = b.length - i ∧ s = mkS [(0, .str tag), (1, .sl b.length (u8s b)), (4, .addr 4 0 0), (5, .addr 5 3 0), (6, .int .i64 i)] [(4, ⟨0, 1, zF⟩), (5, ⟨3, 1, [.str tag, .own 100 g 0 (ctx b i).length, .int .u8 0, .int .u8 0, .nilS]⟩), (100, ⟨g, 1, u8s (ctx b i)⟩)] nx) _ ⟨0, _, _, Nat.zero_le _, rfl, rfl⟩ ?_
    rintro n s ⟨i, g, nx, hi, rfl, rfl⟩
    have hxl := ctx_len b i
    by_cases h : i < b.length
    · have h' : (i : Int) < (b.length : Int) := by omega
      have hg := u8s_getD b i h
      have hb0 : 0 < b.length := by omega
      have hw : IntKind.i64.wrap ((i : Int) + 1) = ((i + 1 : Nat) : Int) := by rw [wrap_i64 (by omega)]; omega
      by_cases c31 : b.getD i 0 = 31
      · have hs := ctx_same h (.inl c31)
        refine ex_run 30 ?_
        simp (maxSteps := 200000) only [h, h', hg, hb0, hw, c31, zF, beq_self_eq_true, push_cast, List.getD_cons_zero, List.getD_cons_succ, List.take_succ_cons, List.take_zero, List.drop_succ_cons, Nat.reduceLT, Nat.reduceLeDiff, Nat.reduceEqDiff, Nat.reduceAdd, Nat.reduceMul, Nat.reduceSub, Int.reduceToNat, Int.reduceLE, Int.reduceLT, Int.reduceEq, Int.reduceAdd, ↓reduceIte, decide_true, decide_false, and_self]
        refine run_back_le (le_mk (l' := [(0, .str tag), (1, .sl b.length (u8s b)), (4, .addr 4 0 0), (5, .addr 5 3 0), (6, .int .i64 ((i + 1 : Nat) : Int))]) (t' := [(4, ⟨0, 1, zF⟩), (5, ⟨3, 1, [.str tag, .own 100 g 0 (ctx b (i + 1)).length, .int .u8 0, .int .u8 0, .nilS]⟩), (100, ⟨g, 1, u8s (ctx b (i + 1))⟩)]) (nx' := _) ⟨.refl _, .refl _, .refl _, .refl _, .of_eq (congrArg (AV.int .i64) (by omega)), trivial⟩ ⟨⟨_, rfl, rfl, rfl, SubL.refl _⟩, ⟨_, rfl, rfl, rfl, by rw [hs]; exact SubL.refl _⟩, ⟨_, rfl, rfl, rfl, by rw [hs]; exact SubL.refl _⟩, trivial⟩ (Nat.le_refl _)) ?_
        exact ⟨b.length - (i + 1), by omega, i + 1, _, _, by omega, rfl, rfl⟩
      · by_cases hfull : (ctx b i).length < 9998
        · have hf' : ((ctx b i).length : Int) < 9998 := by omega
          have hs := ctx_more h c31 hfull
          have hs2 : u8s (ctx b i) ++ [.int .u8 (b.getD i 0)] = u8s (ctx b (i + 1)) := by rw [hs]; simp [u8s]
          have hs3 : (ctx b (i + 1)).length = (ctx b i).length + 1 := by rw [hs]; simp
          refine ex_run 30 ?_
          simp (maxSteps := 200000) only [h, h', hg, hb0, hw, c31, hf', zF, hs2, u8s_length, push_cast, List.getD_cons_zero, List.getD_cons_succ, List.take_succ_cons, List.take_zero, List.drop_succ_cons, Nat.reduceLT, Nat.reduceLeDiff, Nat.reduceEqDiff, Nat.reduceAdd, Nat.reduceMul, Nat.reduceSub, Int.reduceToNat, Int.reduceLE, Int.reduceLT, Int.reduceEq, Int.reduceAdd, ↓reduceIte, decide_true, decide_false, and_self]
          refine ⟨by kernel_rfl, ⟨by omega, by omega⟩, okTr_of (by kernel_rfl), ?_⟩
          refine run_back_le (le_mk (l' := [(0, .str tag), (1, .sl b.length (u8s b)), (4, .addr 4 0 0), (5, .addr 5 3 0), (6, .int .i64 ((i + 1 : Nat) : Int))]) (t' := [(4, ⟨0, 1, zF⟩), (5, ⟨3, 1, [.str tag, .own 100 _ 0 (ctx b (i + 1)).length, .int .u8 0, .int .u8 0, .nilS]⟩), (100, ⟨_, 1, u8s (ctx b (i + 1))⟩)]) (nx' := _) ⟨.refl _, .refl _, .refl _, .refl _, .of_eq (congrArg (AV.int .i64) (by omega)), trivial⟩ ⟨⟨_, rfl, rfl, rfl, SubL.refl _⟩, ⟨_, rfl, rfl, rfl, by rw [hs3]; exact SubL.refl _⟩, ⟨_, rfl, rfl, rfl, SubL.refl _⟩, trivial⟩ (Nat.le_refl _)) ?_
          exact ⟨b.length - (i + 1), by omega, i + 1, _, _, by omega, rfl, rfl⟩
        · have hf' : ¬ ((ctx b i).length : Int) < 9998 := by omega
          have hs := ctx_same h (.inr (by omega))
          refine ex_run 30 ?_
          simp (maxSteps := 200000) only [h, h', hg, hb0, hw, c31, hf', zF, push_cast, List.getD_cons_zero, List.getD_cons_succ, List.take_succ_cons, List.take_zero, List.drop_succ_cons, Nat.reduceLT, Nat.reduceLeDiff, Nat.reduceEqDiff, Nat.reduceAdd, Nat.reduceMul, Nat.reduceSub, Int.reduceToNat, Int.reduceLE, Int.reduceLT, Int.reduceEq, Int.reduceAdd, ↓reduceIte, decide_true, decide_false, and_self]
          refine run_back_le (le_mk (l' := [(0, .str tag), (1, .sl b.length (u8s b)), (4, .addr 4 0 0), (5, .addr 5 3 0), (6, .int .i64 ((i + 1 : Nat) : Int))]) (t' := [(4, ⟨0, 1, zF⟩), (5, ⟨3, 1, [.str tag, .own 100 g 0 (ctx b (i + 1)).length, .int .u8 0, .int .u8 0, .nilS]⟩), (100, ⟨g, 1, u8s (ctx b (i + 1))⟩)]) (nx' := _) ⟨.refl _, .refl _, .refl _, .refl _, .of_eq (congrArg (AV.int .i64) (by omega)), trivial⟩ ⟨⟨_, rfl, rfl, rfl, SubL.refl _⟩, ⟨_, rfl, rfl, rfl, by rw [hs]; exact SubL.refl _⟩, ⟨_, rfl, rfl, rfl, by rw [hs]; exact SubL.refl _⟩, trivial⟩ (Nat.le_refl _)) ?_
          exact ⟨b.length - (i + 1), by omega, i + 1, _, _, by omega, rfl, rfl⟩
    · have h' : ¬ (i : Int) < (b.length : Int) := by omega
      have hie : i = b.length := by omega
      have hfin : ctx b i = (noB 31 b).take 9998 := by unfold ctx; rw [hie, List.take_length]
      have hcl := u8s_closed (ctx b i)
      have htk : (u8s (ctx b i)).take ((ctx b i).length * 1) = u8s (ctx b i) := List.take_of_length_le (by rw [u8s_length]; omega)
      have htk2 : (u8s (ctx b i)).take (ctx b i).length = u8s (ctx b i) := List.take_of_length_le (by rw [u8s_length]; exact Nat.le_refl _)
      refine ex_run 30 ?_
      simp (maxSteps := 200000) only [h', zF, push_cast, List.getD_cons_zero, List.getD_cons_succ, List.take_succ_cons, List.take_zero, List.drop_succ_cons, Nat.reduceLT, Nat.reduceLeDiff, Nat.reduceEqDiff, Nat.reduceAdd, Nat.reduceMul, Nat.reduceSub, Int.reduceToNat, Int.reduceLE, Int.reduceLT, Int.reduceEq, Int.reduceAdd, ↓reduceIte, decide_true, decide_false, and_self]
      exact ⟨[.agg [.str tag, .own 100 g 0 (ctx b i).length, .int .u8 0, .int .u8 0, .nilS]], [.agg [.str tag, .sl (ctx b i).length (u8s (ctx b i)), .int .u8 0, .int .u8 0, .nilS]], by kernel_rfl, by simp [outA, outV, outL, outC, AV.closed, mkS_tk, lkG, hcl, htk, htk2], by unfold ctlM; rw [← hfin]; exact sub_agg ⟨.refl _, .refl _, .refl _, .refl _, .nil, trivial⟩, rfl⟩
  | false =>
    have hc' : List.isPrefixOf [48, 48] tag = false := hc
    have hp : pieceF tag b = datM tag b := by unfold pieceF; rw [if_neg (by rw [hc]; simp)]
    rw [hp]
    simp (maxSteps := 200000) only [hc', push_cast, List.getD_cons_zero, List.getD_cons_succ, List.take_succ_cons, List.take_zero, List.drop_succ_cons, Nat.reduceLT, Nat.reduceLeDiff, Nat.reduceEqDiff, Nat.reduceAdd, Nat.reduceMul, Nat.reduceSub, Int.reduceToNat, Int.reduceLE, Int.reduceLT, Int.reduceEq, Int.reduceAdd, ↓reduceIte, decide_true, decide_false, and_self]
    have i00 : indTo b 0 0 = 32 := rfl
    have i01 : indTo b 0 1 = 32 := rfl
    have i10 : indTo b 1 0 = indM b 0 := rfl
    have i11 : indTo b 1 1 = 32 := rfl
    have i20 : indTo b 2 0 = indM b 0 := rfl
    have i21 : indTo b 2 1 = indM b 1 := rfl
    have hmI : mI b = min (nI b) 2 := rfl
    have hnl := nI_le b
    refine ex_run 30 ?_
    simp (maxSteps := 200000) only [push_cast, List.getD_cons_zero, List.getD_cons_succ, List.take_succ_cons, List.take_zero, List.drop_succ_cons, Nat.reduceLT, Nat.reduceLeDiff, Nat.reduceEqDiff, Nat.reduceAdd, Nat.reduceMul, Nat.reduceSub, Int.reduceToNat, Int.reduceLE, Int.reduceLT, Int.reduceEq, Int.reduceAdd, ↓reduceIte, decide_true, decide_false, and_self]
    refine run_keep (l' := [(0, .str tag), (1, .sl b.length (u8s b)), (4, .addr 4 0 0), (5, .addr 5 3 0), (7, .int .i64 (0 : Nat))]) (t' := [(4, ⟨0, 1, zF⟩), (5, ⟨3, 1, [.str tag, .nilS, .int .u8 (indTo b 0 0), .int .u8 (indTo b 0 1), .nilS]⟩)]) (nx' := _) ⟨.refl _, .refl _, .refl _, .refl _, .refl _, trivial⟩ ⟨⟨_, rfl, rfl, rfl, SubL.refl _⟩, ⟨_, rfl, rfl, rfl, SubL.refl _⟩, trivial⟩ (Nat.le_refl _) ?_
    refine run_loop (fun n s => ∃ (i nx : Nat), i ≤ mI b ∧ n = 2 - i ∧ s = mkS [(0, .str tag), (1, .sl b.length (u8s b)), (4, .addr 4 0 0), (5, .addr 5 3 0), (7, .int .i64 i)] [(4, ⟨0, 1, zF⟩), (5, ⟨3, 1, [.str tag, .nilS, .int .u8 (indTo b i 0), .int .u8 (indTo b i 1), .nilS]⟩)] nx) _ ⟨0, _, Nat.zero_le _, rfl, rfl⟩ ?_
    rintro n s ⟨i, nx, hi, rfl, rfl⟩
    have hst := nI_step b i (by omega)
    by_cases h : i < mI b
    · obtain ⟨hbl, hb31⟩ := hst.1 (by omega)
      have hbl' : (i : Int) < (b.length : Int) := by omega
      have hb0 : 0 < b.length := by omega
      have hg := u8s_getD b i hbl
      have hs2 : indM b i = if indB (b.getD i 0) = true then b.getD i 0 else 32 := by
        unfold indM
        by_cases hq : indB (b.getD i 0) = true
        · rw [if_pos ⟨h, hq⟩, if_pos hq]
        · rw [if_neg (fun e => hq e.2), if_neg hq]
      generalize b.getD i 0 = c at *
      rcases (show i = 0 ∨ i = 1 by omega) with rfl | rfl
      · have hbi : (0 : Int) < (b.length : Int) := by omega
        rcases (show c < 32 ∨ 126 < c ∨ (32 ≤ c ∧ c ≤ 126) by omega) with hq | hq | ⟨hq, hq2⟩
        · have hq1 : ¬ (32 : Int) ≤ c := by omega
          rw [if_neg (by simp [indB]; omega)] at hs2
          refine ex_run 40 ?_
          simp (maxSteps := 200000) only [hbl, hbi, hg, hb0, hb31, hq1, zF, i00, i01, push_cast, List.getD_cons_zero, List.getD_cons_succ, List.take_succ_cons, List.take_zero, List.drop_succ_cons, Nat.reduceLT, Nat.reduceLeDiff, Nat.reduceEqDiff, Nat.reduceAdd, Nat.reduceMul, Nat.reduceSub, Int.reduceToNat, Int.reduceLE, Int.reduceLT, Int.reduceEq, Int.reduceAdd, ↓reduceIte, decide_true, decide_false, and_self]
          refine run_back_le (le_mk (l' := [(0, .str tag), (1, .sl b.length (u8s b)), (4, .addr 4 0 0), (5, .addr 5 3 0), (7, .int .i64 ((1 : Nat) : Int))]) (t' := [(4, ⟨0, 1, zF⟩), (5, ⟨3, 1, [.str tag, .nilS, .int .u8 (indTo b 1 0), .int .u8 (indTo b 1 1), .nilS]⟩)]) (nx' := _) ⟨.refl _, .refl _, .refl _, .refl _, .refl _, trivial⟩ ⟨⟨_, rfl, rfl, rfl, SubL.refl _⟩, ⟨_, rfl, rfl, rfl, ⟨.refl _, .refl _, .of_eq (by rw [i10, hs2]), .refl _, .refl _, trivial⟩⟩, trivial⟩ (Nat.le_refl _)) ?_
          exact ⟨2 - 1, by omega, 1, _, by omega, rfl, rfl⟩
        · have hq1 : (32 : Int) ≤ c := by omega
          have hq2 : ¬ c ≤ 126 := by omega
          rw [if_neg (by simp [indB]; omega)] at hs2
          refine ex_run 40 ?_
          simp (maxSteps := 200000) only [hbl, hbi, hg, hb0, hb31, hq1, hq2, zF, i00, i01, push_cast, List.getD_cons_zero, List.getD_cons_succ, List.take_succ_cons, List.take_zero, List.drop_succ_cons, Nat.reduceLT, Nat.reduceLeDiff, Nat.reduceEqDiff, Nat.reduceAdd, Nat.reduceMul, Nat.reduceSub, Int.reduceToNat, Int.reduceLE, Int.reduceLT, Int.reduceEq, Int.reduceAdd, ↓reduceIte, decide_true, decide_false, and_self]
          refine run_back_le (le_mk (l' := [(0, .str tag), (1, .sl b.length (u8s b)), (4, .addr 4 0 0), (5, .addr 5 3 0), (7, .int .i64 ((1 : Nat) : Int))]) (t' := [(4, ⟨0, 1, zF⟩), (5, ⟨3, 1, [.str tag, .nilS, .int .u8 (indTo b 1 0), .int .u8 (indTo b 1 1), .nilS]⟩)]) (nx' := _) ⟨.refl _, .refl _, .refl _, .refl _, .refl _, trivial⟩ ⟨⟨_, rfl, rfl, rfl, SubL.refl _⟩, ⟨_, rfl, rfl, rfl, ⟨.refl _, .refl _, .of_eq (by rw [i10, hs2]), .refl _, .refl _, trivial⟩⟩, trivial⟩ (Nat.le_refl _)) ?_
          exact ⟨2 - 1, by omega, 1, _, by omega, rfl, rfl⟩
        · have hq1 : (32 : Int) ≤ c := hq
          rw [if_pos (by simp [indB]; omega)] at hs2
          refine ex_run 40 ?_
          simp (maxSteps := 200000) only [hbl, hbi, hg, hb0, hb31, hq1, hq2, zF, i00, i01, push_cast, List.getD_cons_zero, List.getD_cons_succ, List.take_succ_cons, List.take_zero, List.drop_succ_cons, Nat.reduceLT, Nat.reduceLeDiff, Nat.reduceEqDiff, Nat.reduceAdd, Nat.reduceMul, Nat.reduceSub, Int.reduceToNat, Int.reduceLE, Int.reduceLT, Int.reduceEq, Int.reduceAdd, ↓reduceIte, decide_true, decide_false, and_self]
          refine run_back_le (le_mk (l' := [(0, .str tag), (1, .sl b.length (u8s b)), (4, .addr 4 0 0), (5, .addr 5 3 0), (7, .int .i64 ((1 : Nat) : Int))]) (t' := [(4, ⟨0, 1, zF⟩), (5, ⟨3, 1, [.str tag, .nilS, .int .u8 (indTo b 1 0), .int .u8 (indTo b 1 1), .nilS]⟩)]) (nx' := _) ⟨.refl _, .refl _, .refl _, .refl _, .refl _, trivial⟩ ⟨⟨_, rfl, rfl, rfl, SubL.refl _⟩, ⟨_, rfl, rfl, rfl, ⟨.refl _, .refl _, .of_eq (by rw [i10, hs2]), .refl _, .refl _, trivial⟩⟩, trivial⟩ (Nat.le_refl _)) ?_
          exact ⟨2 - 1, by omega, 1, _, by omega, rfl, rfl⟩
      · have hbi : (1 : Int) < (b.length : Int) := by omega
        rcases (show c < 32 ∨ 126 < c ∨ (32 ≤ c ∧ c ≤ 126) by omega) with hq | hq | ⟨hq, hq2⟩
        · have hq1 : ¬ (32 : Int) ≤ c := by omega
          rw [if_neg (by simp [indB]; omega)] at hs2
          refine ex_run 40 ?_
          simp (maxSteps := 200000) only [hbl, hbi, hg, hb0, hb31, hq1, zF, i10, i11, push_cast, List.getD_cons_zero, List.getD_cons_succ, List.take_succ_cons, List.take_zero, List.drop_succ_cons, Nat.reduceLT, Nat.reduceLeDiff, Nat.reduceEqDiff, Nat.reduceAdd, Nat.reduceMul, Nat.reduceSub, Int.reduceToNat, Int.reduceLE, Int.reduceLT, Int.reduceEq, Int.reduceAdd, ↓reduceIte, decide_true, decide_false, and_self]
          refine run_back_le (le_mk (l' := [(0, .str tag), (1, .sl b.length (u8s b)), (4, .addr 4 0 0), (5, .addr 5 3 0), (7, .int .i64 ((2 : Nat) : Int))]) (t' := [(4, ⟨0, 1, zF⟩), (5, ⟨3, 1, [.str tag, .nilS, .int .u8 (indTo b 2 0), .int .u8 (indTo b 2 1), .nilS]⟩)]) (nx' := _) ⟨.refl _, .refl _, .refl _, .refl _, .refl _, trivial⟩ ⟨⟨_, rfl, rfl, rfl, SubL.refl _⟩, ⟨_, rfl, rfl, rfl, ⟨.refl _, .refl _, .refl _, .of_eq (by rw [i21, hs2]), .refl _, trivial⟩⟩, trivial⟩ (Nat.le_refl _)) ?_
          exact ⟨2 - 2, by omega, 2, _, by omega, rfl, rfl⟩
        · have hq1 : (32 : Int) ≤ c := by omega
          have hq2 : ¬ c ≤ 126 := by omega
          rw [if_neg (by simp [indB]; omega)] at hs2
          refine ex_run 40 ?_
          simp (maxSteps := 200000) only [hbl, hbi, hg, hb0, hb31, hq1, hq2, zF, i10, i11, push_cast, List.getD_cons_zero, List.getD_cons_succ, List.take_succ_cons, List.take_zero, List.drop_succ_cons, Nat.reduceLT, Nat.reduceLeDiff, Nat.reduceEqDiff, Nat.reduceAdd, Nat.reduceMul, Nat.reduceSub, Int.reduceToNat, Int.reduceLE, Int.reduceLT, Int.reduceEq, Int.reduceAdd, ↓reduceIte, decide_true, decide_false, and_self]
          refine run_back_le (le_mk (l' := [(0, .str tag), (1, .sl b.length (u8s b)), (4, .addr 4 0 0), (5, .addr 5 3 0), (7, .int .i64 ((2 : Nat) : Int))]) (t' := [(4, ⟨0, 1, zF⟩), (5, ⟨3, 1, [.str tag, .nilS, .int .u8 (indTo b 2 0), .int .u8 (indTo b 2 1), .nilS]⟩)]) (nx' := _) ⟨.refl _, .refl _, .refl _, .refl _, .refl _, trivial⟩ ⟨⟨_, rfl, rfl, rfl, SubL.refl _⟩, ⟨_, rfl, rfl, rfl, ⟨.refl _, .refl _, .refl _, .of_eq (by rw [i21, hs2]), .refl _, trivial⟩⟩, trivial⟩ (Nat.le_refl _)) ?_
          exact ⟨2 - 2, by omega, 2, _, by omega, rfl, rfl⟩
        · have hq1 : (32 : Int) ≤ c := hq
          rw [if_pos (by simp [indB]; omega)] at hs2
          refine ex_run 40 ?_
          simp (maxSteps := 200000) only [hbl, hbi, hg, hb0, hb31, hq1, hq2, zF, i10, i11, push_cast, List.getD_cons_zero, List.getD_cons_succ, List.take_succ_cons, List.take_zero, List.drop_succ_cons, Nat.reduceLT, Nat.reduceLeDiff, Nat.reduceEqDiff, Nat.reduceAdd, Nat.reduceMul, Nat.reduceSub, Int.reduceToNat, Int.reduceLE, Int.reduceLT, Int.reduceEq, Int.reduceAdd, ↓reduceIte, decide_true, decide_false, and_self]
          refine run_back_le (le_mk (l' := [(0, .str tag), (1, .sl b.length (u8s b)), (4, .addr 4 0 0), (5, .addr 5 3 0), (7, .int .i64 ((2 : Nat) : Int))]) (t' := [(4, ⟨0, 1, zF⟩), (5, ⟨3, 1, [.str tag, .nilS, .int .u8 (indTo b 2 0), .int .u8 (indTo b 2 1), .nilS]⟩)]) (nx' := _) ⟨.refl _, .refl _, .refl _, .refl _, .refl _, trivial⟩ ⟨⟨_, rfl, rfl, rfl, SubL.refl _⟩, ⟨_, rfl, rfl, rfl, ⟨.refl _, .refl _, .refl _, .of_eq (by rw [i21, hs2]), .refl _, trivial⟩⟩, trivial⟩ (Nat.le_refl _)) ?_
          exact ⟨2 - 2, by omega, 2, _, by omega, rfl, rfl⟩
    · have hie : i = mI b := by omega
      have j0 : indTo b i 0 = indM b 0 := by rw [hie]; exact indTo_ge b 0
      have j1 : indTo b i 1 = indM b 1 := by rw [hie]; exact indTo_ge b 1
      rw [j0, j1]
      have hmle : mI b ≤ b.length := by omega
      refine run_join4 (fun nx : Nat => mkS [(0, .str tag), (1, .sl b.length (u8s b)), (4, .addr 4 0 0), (5, .addr 5 3 0), (7, .int .i64 i)] [(4, ⟨0, 1, zF⟩), (5, ⟨3, 1, [.str tag, .nilS, .int .u8 (indM b 0), .int .u8 (indM b 1), .nilS]⟩)] nx) (fun tail => ?_) ?_
      · by_cases h2 : i < 2
        · have h2' : (i : Int) < 2 := by omega
          by_cases hbl : i < b.length
          · have hbl' : (i : Int) < (b.length : Int) := by omega
            have hb0 : 0 < b.length := by omega
            have hg := u8s_getD b i hbl
            have hb31 : b.getD i 0 = 31 := by
              by_cases e : b.getD i 0 = 31
              · exact e
              · have := hst.2 ⟨hbl, e⟩; omega
            refine ex_run 5 ?_
            simp (maxSteps := 200000) only [h2', hbl, hbl', hb0, hg, hb31, push_cast, List.getD_cons_zero, List.getD_cons_succ, List.take_succ_cons, List.take_zero, List.drop_succ_cons, Nat.reduceLT, Nat.reduceLeDiff, Nat.reduceEqDiff, Nat.reduceAdd, Nat.reduceMul, Nat.reduceSub, Int.reduceToNat, Int.reduceLE, Int.reduceLT, Int.reduceEq, Int.reduceAdd, ↓reduceIte, decide_true, decide_false, and_self]
            refine run_keep (l' := [(0, .str tag), (1, .sl b.length (u8s b)), (4, .addr 4 0 0), (5, .addr 5 3 0), (7, .int .i64 i)]) (t' := [(4, ⟨0, 1, zF⟩), (5, ⟨3, 1, [.str tag, .nilS, .int .u8 (indM b 0), .int .u8 (indM b 1), .nilS]⟩)]) (nx' := _) ⟨.refl _, .refl _, .refl _, .refl _, .refl _, trivial⟩ ⟨⟨_, rfl, rfl, rfl, SubL.refl _⟩, ⟨_, rfl, rfl, rfl, SubL.refl _⟩, trivial⟩ (Nat.le_refl _) ?_
            exact tail _
          · have hbl' : ¬ (i : Int) < (b.length : Int) := by omega
            refine ex_run 5 ?_
            simp (maxSteps := 200000) only [h2', hbl', push_cast, List.getD_cons_zero, List.getD_cons_succ, List.take_succ_cons, List.take_zero, List.drop_succ_cons, Nat.reduceLT, Nat.reduceLeDiff, Nat.reduceEqDiff, Nat.reduceAdd, Nat.reduceMul, Nat.reduceSub, Int.reduceToNat, Int.reduceLE, Int.reduceLT, Int.reduceEq, Int.reduceAdd, ↓reduceIte, decide_true, decide_false, and_self]
            refine run_keep (l' := [(0, .str tag), (1, .sl b.length (u8s b)), (4, .addr 4 0 0), (5, .addr 5 3 0), (7, .int .i64 i)]) (t' := [(4, ⟨0, 1, zF⟩), (5, ⟨3, 1, [.str tag, .nilS, .int .u8 (indM b 0), .int .u8 (indM b 1), .nilS]⟩)]) (nx' := _) ⟨.refl _, .refl _, .refl _, .refl _, .refl _, trivial⟩ ⟨⟨_, rfl, rfl, rfl, SubL.refl _⟩, ⟨_, rfl, rfl, rfl, SubL.refl _⟩, trivial⟩ (Nat.le_refl _) ?_
            exact tail _
        · have h2' : ¬ (i : Int) < 2 := by omega
          refine ex_run 5 ?_
          simp (maxSteps := 200000) only [h2', push_cast, List.getD_cons_zero, List.getD_cons_succ, List.take_succ_cons, List.take_zero, List.drop_succ_cons, Nat.reduceLT, Nat.reduceLeDiff, Nat.reduceEqDiff, Nat.reduceAdd, Nat.reduceMul, Nat.reduceSub, Int.reduceToNat, Int.reduceLE, Int.reduceLT, Int.reduceEq, Int.reduceAdd, ↓reduceIte, decide_true, decide_false, and_self]
          refine run_keep (l' := [(0, .str tag), (1, .sl b.length (u8s b)), (4, .addr 4 0 0), (5, .addr 5 3 0), (7, .int .i64 i)]) (t' := [(4, ⟨0, 1, zF⟩), (5, ⟨3, 1, [.str tag, .nilS, .int .u8 (indM b 0), .int .u8 (indM b 1), .nilS]⟩)]) (nx' := _) ⟨.refl _, .refl _, .refl _, .refl _, .refl _, trivial⟩ ⟨⟨_, rfl, rfl, rfl, SubL.refl _⟩, ⟨_, rfl, rfl, rfl, SubL.refl _⟩, trivial⟩ (Nat.le_refl _) ?_
          exact tail _
      · intro nx
        have hfin : datM tag b = ⟨tag, [], indM b 0, indM b 1, pcAll (b.drop i)⟩ := by unfold datM; rw [pcAll_eq, hie]
        have hall : pcAll (b.drop i) = if b.drop i = [] ∨ (b.drop i).head? = some 31 then pcGo (b.drop i) 9996 false [] else pcGo (b.drop i) 9994 true [(97, [])] := rfl
        have hil : i ≤ b.length := by omega
        generalize pcAll (b.drop i) = res at *
        generalize indM b 0 = x0 at *
        generalize indM b 1 = x1 at *
        clear j0 j1 i00 i01 i10 i11 i20 i21 hst
        refine run_lazyCell 5 4 100 2 ⟨3, 1, [.str tag, .nilS, .int .u8 x0, .int .u8 x1, .nilS]⟩ rfl rfl (by decide) ?_
        have w94 : IntKind.i64.wrap (9996 - 2) = 9994 := wrap_i64 (by omega)
        refine ex_run 4 ?_
        simp (maxSteps := 200000) only [push_cast, List.getD_cons_zero, List.getD_cons_succ, List.take_succ_cons, List.take_zero, List.drop_succ_cons, Nat.reduceLT, Nat.reduceLeDiff, Nat.reduceEqDiff, Nat.reduceAdd, Nat.reduceMul, Nat.reduceSub, Int.reduceToNat, Int.reduceLE, Int.reduceLT, Int.reduceEq, Int.reduceAdd, ↓reduceIte, decide_true, decide_false, and_self]
        refine run_join (fun q : {q : Nat × AS // PInv tag b x0 x1 res q.1 q.2} => q.1.2) (fun tail => ?_) ?_
        · by_cases hbl : i < b.length
          · have hbl' : (i : Int) < (b.length : Int) := by omega
            have hb0 : 0 < b.length := by omega
            have hg := u8s_getD b i hbl
            have hdr : b.drop i = b.getD i 0 :: b.drop (i + 1) := by rw [List.drop_eq_getElem_cons hbl, List.getD_eq_getElem?_getD, List.getElem?_eq_getElem hbl]; rfl
            by_cases hb31 : b.getD i 0 = 31
            · rw [if_pos (.inr (by rw [hdr, hb31]; rfl))] at hall
              refine ex_run 5 ?_
              simp (maxSteps := 200000) only [hbl, hbl', hb0, hg, hb31, zF, push_cast, List.getD_cons_zero, List.getD_cons_succ, List.take_succ_cons, List.take_zero, List.drop_succ_cons, Nat.reduceLT, Nat.reduceLeDiff, Nat.reduceEqDiff, Nat.reduceAdd, Nat.reduceMul, Nat.reduceSub, Int.reduceToNat, Int.reduceLE, Int.reduceLT, Int.reduceEq, Int.reduceAdd, ↓reduceIte, decide_true, decide_false, and_self]
              refine run_keep (l' := [(0, .str tag), (1, .sl b.length (u8s b)), (4, .addr 4 0 0), (5, .addr 5 3 0), (7, .int .i64 i), (8, .int .i64 (9996 : Nat)), (9, .bool false)]) (t' := [(4, ⟨0, 1, [.str [], .nilS, .int .u8 0, .int .u8 0, .nilS]⟩), (5, ⟨3, 1, [.str tag, .nilS, .int .u8 x0, .int .u8 x1, .own 100 _ 0 ([] : List SubV).length]⟩), (100, ⟨_, 2, subCells []⟩)]) (nx' := _) ⟨.refl _, .refl _, .refl _, .refl _, .refl _, .refl _, .refl _, trivial⟩ ⟨⟨_, rfl, rfl, rfl, SubL.refl _⟩, ⟨_, rfl, rfl, rfl, SubL.refl _⟩, ⟨_, rfl, rfl, rfl, SubL.refl _⟩, trivial⟩ (Nat.le_refl _) ?_
              exact tail ⟨(b.length - i, _), i, 9996, _, _, [], hil, Nat.le_refl _, rfl, Nat.zero_le _, .inl ⟨hall, rfl⟩⟩
            · rw [if_neg (fun e => e.elim (fun e => by rw [hdr] at e; cases e) (fun e => by rw [hdr] at e; exact hb31 (Option.some.inj e)))] at hall
              refine ex_run 9 ?_
              simp (maxSteps := 200000) only [hbl, hbl', hb0, hg, hb31, w94, zF, push_cast, List.getD_cons_zero, List.getD_cons_succ, List.take_succ_cons, List.take_zero, List.drop_succ_cons, Nat.reduceLT, Nat.reduceLeDiff, Nat.reduceEqDiff, Nat.reduceAdd, Nat.reduceMul, Nat.reduceSub, Int.reduceToNat, Int.reduceLE, Int.reduceLT, Int.reduceEq, Int.reduceAdd, ↓reduceIte, decide_true, decide_false, and_self]
              refine run_lazyCell 100 1 200 1 ⟨_, 2, [.int .u8 97, .nilS]⟩ rfl rfl (by decide) ?_
              refine run_keep (l' := [(0, .str tag), (1, .sl b.length (u8s b)), (4, .addr 4 0 0), (5, .addr 5 3 0), (7, .int .i64 i), (8, .int .i64 (9994 : Nat)), (9, .bool true)]) (t' := [(4, ⟨0, 1, [.str [], .nilS, .int .u8 0, .int .u8 0, .nilS]⟩), (5, ⟨3, 1, [.str tag, .nilS, .int .u8 x0, .int .u8 x1, .own 100 _ 0 (([] : List SubV).length + 1)]⟩), (100, ⟨_, 2, subCells [] ++ [.int .u8 97, .own 200 _ 0 ([] : List Int).length]⟩), (200, ⟨_, 1, u8s []⟩)]) (nx' := _) ⟨.refl _, .refl _, .refl _, .refl _, .refl _, .refl _, .refl _, trivial⟩ ⟨⟨_, rfl, rfl, rfl, SubL.refl _⟩, ⟨_, rfl, rfl, rfl, SubL.refl _⟩, ⟨_, rfl, rfl, rfl, SubL.refl _⟩, ⟨_, rfl, rfl, rfl, SubL.refl _⟩, trivial⟩ (Nat.le_refl _) ?_
              exact tail ⟨(b.length - i, _), i, 9994, _, _, [], hil, by omega, rfl, Nat.zero_le _, .inr ⟨97, [], _, hall, by simp, Nat.zero_le _, rfl⟩⟩
          · have hbl' : ¬ (i : Int) < (b.length : Int) := by omega
            rw [if_pos (.inl (List.drop_of_length_le (by omega)))] at hall
            refine ex_run 5 ?_
            simp (maxSteps := 200000) only [hbl', zF, push_cast, List.getD_cons_zero, List.getD_cons_succ, List.take_succ_cons, List.take_zero, List.drop_succ_cons, Nat.reduceLT, Nat.reduceLeDiff, Nat.reduceEqDiff, Nat.reduceAdd, Nat.reduceMul, Nat.reduceSub, Int.reduceToNat, Int.reduceLE, Int.reduceLT, Int.reduceEq, Int.reduceAdd, ↓reduceIte, decide_true, decide_false, and_self]
            refine run_keep (l' := [(0, .str tag), (1, .sl b.length (u8s b)), (4, .addr 4 0 0), (5, .addr 5 3 0), (7, .int .i64 i), (8, .int .i64 (9996 : Nat)), (9, .bool false)]) (t' := [(4, ⟨0, 1, [.str [], .nilS, .int .u8 0, .int .u8 0, .nilS]⟩), (5, ⟨3, 1, [.str tag, .nilS, .int .u8 x0, .int .u8 x1, .own 100 _ 0 ([] : List SubV).length]⟩), (100, ⟨_, 2, subCells []⟩)]) (nx' := _) ⟨.refl _, .refl _, .refl _, .refl _, .refl _, .refl _, .refl _, trivial⟩ ⟨⟨_, rfl, rfl, rfl, SubL.refl _⟩, ⟨_, rfl, rfl, rfl, SubL.refl _⟩, ⟨_, rfl, rfl, rfl, SubL.refl _⟩, trivial⟩ (Nat.le_refl _) ?_
            exact tail ⟨(b.length - i, _), i, 9996, _, _, [], hil, Nat.le_refl _, rfl, Nat.zero_le _, .inl ⟨hall, rfl⟩⟩
        · rintro ⟨⟨n, s⟩, hinv⟩
          clear hall hil hmle hie h hi nx hnl hmI
          rw [hfin]
          refine ex_run 3 ?_
          simp (maxSteps := 200000) only [push_cast, List.getD_cons_zero, List.getD_cons_succ, List.take_succ_cons, List.take_zero, List.drop_succ_cons, Nat.reduceLT, Nat.reduceLeDiff, Nat.reduceEqDiff, Nat.reduceAdd, Nat.reduceMul, Nat.reduceSub, Int.reduceToNat, Int.reduceLE, Int.reduceLT, Int.reduceEq, Int.reduceAdd, ↓reduceIte, decide_true, decide_false, and_self]
          refine run_loop (fun n s => PInv tag b x0 x1 res n s) n hinv ?_
          rintro n s ⟨i, r, g, nx, acc, hi, hr, rfl, hacc, hst⟩
          have htl := subCells_length acc
          by_cases hbl : i < b.length
          · have hbl' : (i : Int) < (b.length : Int) := by omega
            have hb0 : 0 < b.length := by omega
            have hg := u8s_getD b i hbl
            have hdr : b.drop i = b.getD i 0 :: b.drop (i + 1) := by rw [List.drop_eq_getElem_cons hbl, List.getD_eq_getElem?_getD, List.getElem?_eq_getElem hbl]; rfl
            have hw : IntKind.i64.wrap ((i : Int) + 1) = (i : Int) + 1 := wrap_i64 (by omega)
            have ht1 : ((i : Int) + 1).toNat = i + 1 := by omega
            have q0 : (0 : Int) ≤ (i : Int) + 1 := by omega
            refine run_via (fun q : {q : Bool × List SubV × Nat × Nat // b.getD i 0 = 31 ∧ res = pcGo (31 :: b.drop (i + 1)) r false q.2.1 ∧ q.2.1.length ≤ i + 1} => pcS tag b x0 x1 i r q.1.1 q.1.2.1.length q.1.2.2.1 (subCells q.1.2.1) [] q.1.2.2.2) ?_ (fun k31 => ?_)
            · rintro ⟨⟨op, A, g, nx⟩, c31, hres, hAl⟩
              clear hst hdr htl hacc
              simp only at hres hAl ⊢
              unfold pcS
              have hAc := subCells_length A
              have hAcl := subCells_closed A
              have hAt : (subCells A).take (A.length * 2) = subCells A := List.take_of_length_le (by omega)
              by_cases hla : i + 1 = b.length
              · have hla' : (i : Int) + 1 = (b.length : Int) := by omega
                have wb : IntKind.i64.wrap (b.length : Int) = (b.length : Int) := wrap_i64 (by omega)
                have hd : b.drop (i + 1) = [] := List.drop_of_length_le (by omega)
                rw [hd, pcGo_one, if_pos rfl] at hres
                refine ex_run 40 ?_
                simp (maxSteps := 200000) only [hbl, hbl', hb0, hg, hw, c31, hla', wb, push_cast, List.getD_cons_zero, List.getD_cons_succ, List.take_succ_cons, List.take_zero, List.drop_succ_cons, Nat.reduceLT, Nat.reduceLeDiff, Nat.reduceEqDiff, Nat.reduceAdd, Nat.reduceMul, Nat.reduceSub, Int.reduceToNat, Int.reduceLE, Int.reduceLT, Int.reduceEq, Int.reduceAdd, ↓reduceIte, decide_true, decide_false, and_self]
                refine run_back_le (le_mk (l' := [(0, .str tag), (1, .sl b.length (u8s b)), (4, .addr 4 0 0), (5, .addr 5 3 0), (7, .int .i64 ((i + 1 : Nat) : Int)), (8, .int .i64 ((r : Nat) : Int)), (9, .bool false)]) (t' := [(4, ⟨0, 1, [.str [], .nilS, .int .u8 0, .int .u8 0, .nilS]⟩), (5, ⟨3, 1, [.str tag, .nilS, .int .u8 x0, .int .u8 x1, .own 100 _ 0 A.length]⟩), (100, ⟨_, 2, subCells A⟩)]) (nx' := _) ⟨.refl _, .refl _, .refl _, .refl _, .of_eq (congrArg (AV.int .i64) (by omega)), .of_eq (congrArg (AV.int .i64) (by omega)), .refl _, trivial⟩ ⟨⟨_, rfl, rfl, rfl, SubL.refl _⟩, ⟨_, rfl, rfl, rfl, SubL.refl _⟩, ⟨_, rfl, rfl, rfl, SubL.refl _⟩, trivial⟩ (Nat.le_refl _)) ?_
                exact ⟨b.length - (i + 1), by omega, i + 1, r, _, _, A, by omega, hr, rfl, hAl, .inl ⟨by rw [hd, pcGo_nil]; exact hres, rfl⟩⟩
              · have hla' : ¬ (i : Int) + 1 = (b.length : Int) := by omega
                have q2 : (i : Int) + 1 < (b.length : Int) := by omega
                have q3 : i + 1 < b.length := by omega
                have hg1 := u8s_getD b (i + 1) q3
                have hd1 : b.drop (i + 1) = b.getD (i + 1) 0 :: b.drop (i + 2) := by rw [List.drop_eq_getElem_cons q3, List.getD_eq_getElem?_getD, List.getElem?_eq_getElem q3]; rfl
                generalize b.getD (i + 1) 0 = d at *
                have hres0 := hres
                rw [hd1, pcGo_two, if_pos rfl] at hres
                have hw2 : IntKind.i64.wrap ((i : Int) + 1 + 1) = ((i + 2 : Nat) : Int) := by rw [wrap_i64 (by omega)]; omega
                by_cases d31 : d = 31
                · rw [if_pos d31, ← hd1] at hres
                  refine ex_run 40 ?_
                  simp (maxSteps := 200000) only [hbl, hbl', hb0, hg, hg1, hw, c31, d31, hla', ht1, q0, q2, q3, push_cast, List.getD_cons_zero, List.getD_cons_succ, List.take_succ_cons, List.take_zero, List.drop_succ_cons, Nat.reduceLT, Nat.reduceLeDiff, Nat.reduceEqDiff, Nat.reduceAdd, Nat.reduceMul, Nat.reduceSub, Int.reduceToNat, Int.reduceLE, Int.reduceLT, Int.reduceEq, Int.reduceAdd, ↓reduceIte, decide_true, decide_false, and_self]
                  refine run_back_le (le_mk (l' := [(0, .str tag), (1, .sl b.length (u8s b)), (4, .addr 4 0 0), (5, .addr 5 3 0), (7, .int .i64 ((i + 1 : Nat) : Int)), (8, .int .i64 ((r : Nat) : Int)), (9, .bool false)]) (t' := [(4, ⟨0, 1, [.str [], .nilS, .int .u8 0, .int .u8 0, .nilS]⟩), (5, ⟨3, 1, [.str tag, .nilS, .int .u8 x0, .int .u8 x1, .own 100 _ 0 A.length]⟩), (100, ⟨_, 2, subCells A⟩)]) (nx' := _) ⟨.refl _, .refl _, .refl _, .refl _, .of_eq (congrArg (AV.int .i64) (by omega)), .of_eq (congrArg (AV.int .i64) (by omega)), .refl _, trivial⟩ ⟨⟨_, rfl, rfl, rfl, SubL.refl _⟩, ⟨_, rfl, rfl, rfl, SubL.refl _⟩, ⟨_, rfl, rfl, rfl, SubL.refl _⟩, trivial⟩ (Nat.le_refl _)) ?_
                  exact ⟨b.length - (i + 1), by omega, i + 1, r, _, _, A, by omega, hr, rfl, hAl, .inl ⟨hres, rfl⟩⟩
                · rw [if_neg d31] at hres
                  by_cases hr2 : r < 2
                  · have hr2' : (r : Int) < 2 := by omega
                    rw [if_pos hr2] at hres
                    refine ex_run 40 ?_
                    simp (maxSteps := 200000) only [hbl, hbl', hb0, hg, hg1, hw, c31, d31, hla', ht1, q0, q2, q3, hr2', push_cast, List.getD_cons_zero, List.getD_cons_succ, List.take_succ_cons, List.take_zero, List.drop_succ_cons, Nat.reduceLT, Nat.reduceLeDiff, Nat.reduceEqDiff, Nat.reduceAdd, Nat.reduceMul, Nat.reduceSub, Int.reduceToNat, Int.reduceLE, Int.reduceLT, Int.reduceEq, Int.reduceAdd, ↓reduceIte, decide_true, decide_false, and_self]
                    exact ⟨[.agg [.str tag, .nilS, .int .u8 x0, .int .u8 x1, .own 100 g 0 A.length]], [.agg [.str tag, .nilS, .int .u8 x0, .int .u8 x1, .sl A.length (subCells A)]], by kernel_rfl, by simp [outA, outV, outL, outC, AV.closed, mkS_tk, lkG, hAt, hAcl], by rw [hres]; exact sub_agg ⟨.refl _, .nil, .refl _, .refl _, .refl _, trivial⟩, rfl⟩
                  · have hr2' : ¬ (r : Int) < 2 := by omega
                    have hwr : IntKind.i64.wrap ((r : Int) - 2) = ((r - 2 : Nat) : Int) := by rw [wrap_i64 (by omega)]; omega
                    rw [if_neg hr2] at hres
                    generalize hr3 : r - 2 = r3 at *
                    rcases (show d < 33 ∨ 126 < d ∨ (33 ≤ d ∧ d ≤ 126) by omega) with hq | hq | ⟨hq, hq2⟩
                    · have hq1 : ¬ 33 ≤ d := by omega
                      rw [if_neg (by simp only [codeB, Bool.and_eq_true, decide_eq_true_eq]; omega), ← hd1] at hres
                      refine ex_run 40 ?_
                      simp (maxSteps := 200000) only [hbl, hbl', hb0, hg, hg1, hw, hw2, c31, d31, hla', ht1, q0, q2, q3, hr2', hwr, hq1, hAc, push_cast, List.getD_cons_zero, List.getD_cons_succ, List.take_succ_cons, List.take_zero, List.drop_succ_cons, Nat.reduceLT, Nat.reduceLeDiff, Nat.reduceEqDiff, Nat.reduceAdd, Nat.reduceMul, Nat.reduceSub, Int.reduceToNat, Int.reduceLE, Int.reduceLT, Int.reduceEq, Int.reduceAdd, ↓reduceIte, decide_true, decide_false, and_self]
                      repeat (first | (refine ⟨okTr_of (by kernel_rfl), ?_⟩) | (refine ⟨⟨by omega, by omega⟩, ?_⟩) | (refine ⟨by omega, ?_⟩) | (refine ⟨by kernel_rfl, ?_⟩))
                      refine run_lazyCell 100 (A.length * 2 + 1) 200 1 ⟨_, 2, subCells A ++ [.int .u8 97, .nilS]⟩ rfl (two_get hAc _ _) (by decide) ?_
                      refine run_back_le (le_mk (l' := [(0, .str tag), (1, .sl b.length (u8s b)), (4, .addr 4 0 0), (5, .addr 5 3 0), (7, .int .i64 ((i + 1 : Nat) : Int)), (8, .int .i64 ((r3 : Nat) : Int)), (9, .bool true)]) (t' := [(4, ⟨0, 1, [.str [], .nilS, .int .u8 0, .int .u8 0, .nilS]⟩), (5, ⟨3, 1, [.str tag, .nilS, .int .u8 x0, .int .u8 x1, .own 100 _ 0 (A.length + 1)]⟩), (100, ⟨_, 2, subCells A ++ [.int .u8 97, .own 200 _ 0 ([] : List Int).length]⟩), (200, ⟨_, 1, u8s []⟩)]) (nx' := _) ⟨.refl _, .refl _, .refl _, .refl _, .of_eq (congrArg (AV.int .i64) (by omega)), .of_eq (congrArg (AV.int .i64) (by omega)), .refl _, trivial⟩ ⟨⟨_, rfl, rfl, rfl, SubL.refl _⟩, ⟨_, rfl, rfl, rfl, SubL.refl _⟩, ⟨_, rfl, rfl, rfl, by rw [two_set hAc]; exact SubL.refl _⟩, ⟨_, rfl, rfl, rfl, SubL.refl _⟩, trivial⟩ (Nat.le_refl _)) ?_
                      exact ⟨b.length - (i + 1), by omega, i + 1, r3, _, _, A, by omega, by omega, rfl, by omega, .inr ⟨97, [], _, hres, by omega, Nat.zero_le _, rfl⟩⟩
                    · have hq1 : 33 ≤ d := by omega
                      have hq2 : ¬ d ≤ 126 := by omega
                      rw [if_neg (by simp only [codeB, Bool.and_eq_true, decide_eq_true_eq]; omega), ← hd1] at hres
                      refine ex_run 40 ?_
                      simp (maxSteps := 200000) only [hbl, hbl', hb0, hg, hg1, hw, hw2, c31, d31, hla', ht1, q0, q2, q3, hr2', hwr, hq1, hq2, hAc, push_cast, List.getD_cons_zero, List.getD_cons_succ, List.take_succ_cons, List.take_zero, List.drop_succ_cons, Nat.reduceLT, Nat.reduceLeDiff, Nat.reduceEqDiff, Nat.reduceAdd, Nat.reduceMul, Nat.reduceSub, Int.reduceToNat, Int.reduceLE, Int.reduceLT, Int.reduceEq, Int.reduceAdd, ↓reduceIte, decide_true, decide_false, and_self]
                      repeat (first | (refine ⟨okTr_of (by kernel_rfl), ?_⟩) | (refine ⟨⟨by omega, by omega⟩, ?_⟩) | (refine ⟨by omega, ?_⟩) | (refine ⟨by kernel_rfl, ?_⟩))
                      refine run_lazyCell 100 (A.length * 2 + 1) 200 1 ⟨_, 2, subCells A ++ [.int .u8 97, .nilS]⟩ rfl (two_get hAc _ _) (by decide) ?_
                      refine run_back_le (le_mk (l' := [(0, .str tag), (1, .sl b.length (u8s b)), (4, .addr 4 0 0), (5, .addr 5 3 0), (7, .int .i64 ((i + 1 : Nat) : Int)), (8, .int .i64 ((r3 : Nat) : Int)), (9, .bool true)]) (t' := [(4, ⟨0, 1, [.str [], .nilS, .int .u8 0, .int .u8 0, .nilS]⟩), (5, ⟨3, 1, [.str tag, .nilS, .int .u8 x0, .int .u8 x1, .own 100 _ 0 (A.length + 1)]⟩), (100, ⟨_, 2, subCells A ++ [.int .u8 97, .own 200 _ 0 ([] : List Int).length]⟩), (200, ⟨_, 1, u8s []⟩)]) (nx' := _) ⟨.refl _, .refl _, .refl _, .refl _, .of_eq (congrArg (AV.int .i64) (by omega)), .of_eq (congrArg (AV.int .i64) (by omega)), .refl _, trivial⟩ ⟨⟨_, rfl, rfl, rfl, SubL.refl _⟩, ⟨_, rfl, rfl, rfl, SubL.refl _⟩, ⟨_, rfl, rfl, rfl, by rw [two_set hAc]; exact SubL.refl _⟩, ⟨_, rfl, rfl, rfl, SubL.refl _⟩, trivial⟩ (Nat.le_refl _)) ?_
                      exact ⟨b.length - (i + 1), by omega, i + 1, r3, _, _, A, by omega, by omega, rfl, by omega, .inr ⟨97, [], _, hres, by omega, Nat.zero_le _, rfl⟩⟩
                    · rw [if_pos (by simp only [codeB, Bool.and_eq_true, decide_eq_true_eq]; exact ⟨hq, hq2⟩)] at hres
                      refine ex_run 40 ?_
                      simp (maxSteps := 200000) only [hbl, hbl', hb0, hg, hg1, hw, hw2, c31, d31, hla', ht1, q0, q2, q3, hr2', hwr, hq, hq2, hAc, push_cast, List.getD_cons_zero, List.getD_cons_succ, List.take_succ_cons, List.take_zero, List.drop_succ_cons, Nat.reduceLT, Nat.reduceLeDiff, Nat.reduceEqDiff, Nat.reduceAdd, Nat.reduceMul, Nat.reduceSub, Int.reduceToNat, Int.reduceLE, Int.reduceLT, Int.reduceEq, Int.reduceAdd, ↓reduceIte, decide_true, decide_false, and_self]
                      repeat (first | (refine ⟨okTr_of (by kernel_rfl), ?_⟩) | (refine ⟨⟨by omega, by omega⟩, ?_⟩) | (refine ⟨by omega, ?_⟩) | (refine ⟨by kernel_rfl, ?_⟩))
                      refine run_lazyCell 100 (A.length * 2 + 1) 200 1 ⟨_, 2, subCells A ++ [.int .u8 d, .nilS]⟩ rfl (two_get hAc _ _) (by decide) ?_
                      refine run_back_le (le_mk (l' := [(0, .str tag), (1, .sl b.length (u8s b)), (4, .addr 4 0 0), (5, .addr 5 3 0), (7, .int .i64 ((i + 2 : Nat) : Int)), (8, .int .i64 ((r3 : Nat) : Int)), (9, .bool true)]) (t' := [(4, ⟨0, 1, [.str [], .nilS, .int .u8 0, .int .u8 0, .nilS]⟩), (5, ⟨3, 1, [.str tag, .nilS, .int .u8 x0, .int .u8 x1, .own 100 _ 0 (A.length + 1)]⟩), (100, ⟨_, 2, subCells A ++ [.int .u8 d, .own 200 _ 0 ([] : List Int).length]⟩), (200, ⟨_, 1, u8s []⟩)]) (nx' := _) ⟨.refl _, .refl _, .refl _, .refl _, .of_eq (congrArg (AV.int .i64) (by omega)), .of_eq (congrArg (AV.int .i64) (by omega)), .refl _, trivial⟩ ⟨⟨_, rfl, rfl, rfl, SubL.refl _⟩, ⟨_, rfl, rfl, rfl, SubL.refl _⟩, ⟨_, rfl, rfl, rfl, by rw [two_set hAc]; exact SubL.refl _⟩, ⟨_, rfl, rfl, rfl, SubL.refl _⟩, trivial⟩ (Nat.le_refl _)) ?_
                      exact ⟨b.length - (i + 2), by omega, i + 2, r3, _, _, A, by omega, by omega, rfl, by omega, .inr ⟨d, [], _, hres, by omega, Nat.zero_le _, rfl⟩⟩
            · rcases hst with ⟨hres, rfl⟩ | ⟨x, u, gt, hres, _, hul, rfl⟩
              · by_cases c31 : b.getD i 0 = 31
                · exact k31 ⟨(false, acc, g, nx), c31, by rw [hres, hdr, c31], by simp only; omega⟩
                · clear k31
                  rw [hdr, pcGo_skip _ _ _ c31] at hres
                  unfold pcS
                  refine ex_run 40 ?_
                  simp (maxSteps := 200000) only [hbl, hbl', hb0, hg, hw, c31, push_cast, List.getD_cons_zero, List.getD_cons_succ, List.take_succ_cons, List.take_zero, List.drop_succ_cons, Nat.reduceLT, Nat.reduceLeDiff, Nat.reduceEqDiff, Nat.reduceAdd, Nat.reduceMul, Nat.reduceSub, Int.reduceToNat, Int.reduceLE, Int.reduceLT, Int.reduceEq, Int.reduceAdd, ↓reduceIte, decide_true, decide_false, and_self]
                  refine run_back_le (le_mk (l' := [(0, .str tag), (1, .sl b.length (u8s b)), (4, .addr 4 0 0), (5, .addr 5 3 0), (7, .int .i64 ((i + 1 : Nat) : Int)), (8, .int .i64 ((r : Nat) : Int)), (9, .bool false)]) (t' := [(4, ⟨0, 1, [.str [], .nilS, .int .u8 0, .int .u8 0, .nilS]⟩), (5, ⟨3, 1, [.str tag, .nilS, .int .u8 x0, .int .u8 x1, .own 100 _ 0 acc.length]⟩), (100, ⟨_, 2, subCells acc⟩)]) (nx' := _) ⟨.refl _, .refl _, .refl _, .refl _, .of_eq (congrArg (AV.int .i64) (by omega)), .of_eq (congrArg (AV.int .i64) (by omega)), .refl _, trivial⟩ ⟨⟨_, rfl, rfl, rfl, SubL.refl _⟩, ⟨_, rfl, rfl, rfl, SubL.refl _⟩, ⟨_, rfl, rfl, rfl, SubL.refl _⟩, trivial⟩ (Nat.le_refl _)) ?_
                  exact ⟨b.length - (i + 1), by omega, i + 1, r, _, _, acc, by omega, hr, rfl, by omega, .inl ⟨hres, rfl⟩⟩
              · have hel : (acc ++ [(x, u)]).length = acc.length + 1 := by simp
                by_cases c31 : b.getD i 0 = 31
                · unfold pcS
                  refine Go.Eng.run_freeze (l' := [(0, .str tag), (1, .sl b.length (u8s b)), (4, .addr 4 0 0), (5, .addr 5 3 0), (7, .int .i64 (i : Int)), (8, .int .i64 (r : Int)), (9, .bool true)]) (tl' := [(4, ⟨0, 1, [.str [], .nilS, .int .u8 0, .int .u8 0, .nilS]⟩), (5, ⟨3, 1, [.str tag, .nilS, .int .u8 x0, .int .u8 x1, .own 100 g 0 (acc.length + 1)]⟩), (100, ⟨g, 2, subCells (acc ++ [(x, u)])⟩)]) 200 ⟨gt, 1, u8s u⟩ rfl ⟨.keep _, .keep _, .keep _, .keep _, .keep _, .keep _, .keep _, trivial⟩ ⟨by decide, ⟨_, rfl, rfl, rfl, FrzL.refl _⟩, by decide, ⟨_, rfl, rfl, rfl, FrzL.refl _⟩, by decide, ⟨_, rfl, rfl, rfl, by rw [subCells_snoc]; exact FrzL.append (FrzL.refl _) ⟨.keep _, frz_txt gt _, trivial⟩⟩, trivial⟩ ?_
                  have := k31 ⟨(true, acc ++ [(x, u)], g, nx), c31, by rw [hres, hdr, c31, pcGo_31], by simp only; omega⟩
                  simp only [hel, pcS] at this
                  exact this
                · clear k31
                  rw [hdr, pcGo_text _ _ _ _ c31] at hres
                  unfold pcS
                  by_cases hr0 : 0 < r
                  · have hr0' : (0 : Int) < (r : Int) := by omega
                    rw [if_pos hr0, addLast_snoc] at hres
                    have hK := two_len htl (.int .u8 x) (.own 200 gt 0 u.length)
                    have hG := two_getD htl (.int .u8 x) (.own 200 gt 0 u.length)
                    have hS := fun y => two_set htl (.int .u8 x) (.own 200 gt 0 u.length) y
                    have wn : IntKind.i64.wrap ((acc.length : Int) + 1 - 1) = (acc.length : Int) := by rw [wrap_i64 (by omega)]; omega
                    have wr : IntKind.i64.wrap ((r : Int) - 1) = ((r - 1 : Nat) : Int) := by rw [wrap_i64 (by omega)]; omega
                    have p1 : (acc.length : Int) < (acc.length : Int) + 1 := by omega
                    have p2 : acc.length * 2 + 1 < acc.length * 2 + 2 := by omega
                    have hu2 : u8s u ++ [.int .u8 (b.getD i 0)] = u8s (u ++ [b.getD i 0]) := by simp [u8s]
                    have hu3 : (u ++ [b.getD i 0]).length = u.length + 1 := by simp
                    refine ex_run 40 ?_
                    simp (maxSteps := 200000) only [hbl, hbl', hb0, hg, hw, c31, hr0', hK, hG, hS, wn, wr, p1, p2, hu2, u8s_length, push_cast, List.getD_cons_zero, List.getD_cons_succ, List.take_succ_cons, List.take_zero, List.drop_succ_cons, Nat.reduceLT, Nat.reduceLeDiff, Nat.reduceEqDiff, Nat.reduceAdd, Nat.reduceMul, Nat.reduceSub, Int.reduceToNat, Int.reduceLE, Int.reduceLT, Int.reduceEq, Int.reduceAdd, ↓reduceIte, decide_true, decide_false, and_self]
                    refine ⟨by kernel_rfl, ⟨by omega, by omega⟩, Nat.le_refl _, okTr_of (by kernel_rfl), ?_⟩
                    rw [← hu3]
                    refine run_back_le (le_mk (l' := [(0, .str tag), (1, .sl b.length (u8s b)), (4, .addr 4 0 0), (5, .addr 5 3 0), (7, .int .i64 ((i + 1 : Nat) : Int)), (8, .int .i64 ((r - 1 : Nat) : Int)), (9, .bool true)]) (t' := [(4, ⟨0, 1, [.str [], .nilS, .int .u8 0, .int .u8 0, .nilS]⟩), (5, ⟨3, 1, [.str tag, .nilS, .int .u8 x0, .int .u8 x1, .own 100 _ 0 (acc.length + 1)]⟩), (100, ⟨_, 2, subCells acc ++ [.int .u8 x, .own 200 _ 0 (u ++ [b.getD i 0]).length]⟩), (200, ⟨_, 1, u8s (u ++ [b.getD i 0])⟩)]) (nx' := _) ⟨.refl _, .refl _, .refl _, .refl _, .of_eq (congrArg (AV.int .i64) (by omega)), .of_eq (congrArg (AV.int .i64) (by omega)), .refl _, trivial⟩ ⟨⟨_, rfl, rfl, rfl, SubL.refl _⟩, ⟨_, rfl, rfl, rfl, SubL.refl _⟩, ⟨_, rfl, rfl, rfl, SubL.refl _⟩, ⟨_, rfl, rfl, rfl, SubL.refl _⟩, trivial⟩ (Nat.le_refl _)) ?_
                    exact ⟨b.length - (i + 1), by omega, i + 1, r - 1, _, _, acc, by omega, by omega, rfl, by omega, .inr ⟨x, u ++ [b.getD i 0], _, hres, by omega, by omega, rfl⟩⟩
                  · have hr0' : ¬ (0 : Int) < (r : Int) := by omega
                    rw [if_neg hr0] at hres
                    refine ex_run 40 ?_
                    simp (maxSteps := 200000) only [hbl, hbl', hb0, hg, hw, c31, hr0', push_cast, List.getD_cons_zero, List.getD_cons_succ, List.take_succ_cons, List.take_zero, List.drop_succ_cons, Nat.reduceLT, Nat.reduceLeDiff, Nat.reduceEqDiff, Nat.reduceAdd, Nat.reduceMul, Nat.reduceSub, Int.reduceToNat, Int.reduceLE, Int.reduceLT, Int.reduceEq, Int.reduceAdd, ↓reduceIte, decide_true, decide_false, and_self]
                    refine run_back_le (le_mk (l' := [(0, .str tag), (1, .sl b.length (u8s b)), (4, .addr 4 0 0), (5, .addr 5 3 0), (7, .int .i64 ((i + 1 : Nat) : Int)), (8, .int .i64 ((r : Nat) : Int)), (9, .bool true)]) (t' := [(4, ⟨0, 1, [.str [], .nilS, .int .u8 0, .int .u8 0, .nilS]⟩), (5, ⟨3, 1, [.str tag, .nilS, .int .u8 x0, .int .u8 x1, .own 100 _ 0 (acc.length + 1)]⟩), (100, ⟨_, 2, subCells acc ++ [.int .u8 x, .own 200 _ 0 u.length]⟩), (200, ⟨_, 1, u8s u⟩)]) (nx' := _) ⟨.refl _, .refl _, .refl _, .refl _, .of_eq (congrArg (AV.int .i64) (by omega)), .of_eq (congrArg (AV.int .i64) (by omega)), .refl _, trivial⟩ ⟨⟨_, rfl, rfl, rfl, SubL.refl _⟩, ⟨_, rfl, rfl, rfl, SubL.refl _⟩, ⟨_, rfl, rfl, rfl, SubL.refl _⟩, ⟨_, rfl, rfl, rfl, SubL.refl _⟩, trivial⟩ (Nat.le_refl _)) ?_
                    exact ⟨b.length - (i + 1), by omega, i + 1, r, _, _, acc, by omega, hr, rfl, by omega, .inr ⟨x, u, _, hres, by omega, by omega, rfl⟩⟩
          · have hbl' : ¬ (i : Int) < (b.length : Int) := by omega
            have hdn : b.drop i = [] := List.drop_of_length_le (by omega)
            rcases hst with ⟨hres, rfl⟩ | ⟨x, u, gt, hres, _, hul, rfl⟩
            · rw [hdn, pcGo_nil] at hres
              have hAcl := subCells_closed acc
              have hAt : (subCells acc).take (acc.length * 2) = subCells acc := List.take_of_length_le (by omega)
              unfold pcS
              refine ex_run 40 ?_
              simp (maxSteps := 200000) only [hbl', push_cast, List.getD_cons_zero, List.getD_cons_succ, List.take_succ_cons, List.take_zero, List.drop_succ_cons, Nat.reduceLT, Nat.reduceLeDiff, Nat.reduceEqDiff, Nat.reduceAdd, Nat.reduceMul, Nat.reduceSub, Int.reduceToNat, Int.reduceLE, Int.reduceLT, Int.reduceEq, Int.reduceAdd, ↓reduceIte, decide_true, decide_false, and_self]
              exact ⟨[.agg [.str tag, .nilS, .int .u8 x0, .int .u8 x1, .own 100 g 0 acc.length]], [.agg [.str tag, .nilS, .int .u8 x0, .int .u8 x1, .sl acc.length (subCells acc)]], by kernel_rfl, by simp [outA, outV, outL, outC, AV.closed, mkS_tk, lkG, hAt, hAcl], by rw [hres]; exact sub_agg ⟨.refl _, .nil, .refl _, .refl _, .refl _, trivial⟩, rfl⟩
            · rw [hdn, pcGo_nil] at hres
              have hel : (acc ++ [(x, u)]).length = acc.length + 1 := by simp
              unfold pcS
              refine Go.Eng.run_freeze (l' := [(0, .str tag), (1, .sl b.length (u8s b)), (4, .addr 4 0 0), (5, .addr 5 3 0), (7, .int .i64 (i : Int)), (8, .int .i64 (r : Int)), (9, .bool true)]) (tl' := [(4, ⟨0, 1, [.str [], .nilS, .int .u8 0, .int .u8 0, .nilS]⟩), (5, ⟨3, 1, [.str tag, .nilS, .int .u8 x0, .int .u8 x1, .own 100 g 0 (acc.length + 1)]⟩), (100, ⟨g, 2, subCells (acc ++ [(x, u)])⟩)]) 200 ⟨gt, 1, u8s u⟩ rfl ⟨.keep _, .keep _, .keep _, .keep _, .keep _, .keep _, .keep _, trivial⟩ ⟨by decide, ⟨_, rfl, rfl, rfl, FrzL.refl _⟩, by decide, ⟨_, rfl, rfl, rfl, FrzL.refl _⟩, by decide, ⟨_, rfl, rfl, rfl, by rw [subCells_snoc]; exact FrzL.append (FrzL.refl _) ⟨.keep _, frz_txt gt _, trivial⟩⟩, trivial⟩ ?_
              rw [← hel]
              generalize acc ++ [(x, u)] = A at *
              have hAc := subCells_length A
              have hAcl := subCells_closed A
              have hAt : (subCells A).take (A.length * 2) = subCells A := List.take_of_length_le (by omega)
              refine ex_run 40 ?_
              simp (maxSteps := 200000) only [hbl', push_cast, List.getD_cons_zero, List.getD_cons_succ, List.take_succ_cons, List.take_zero, List.drop_succ_cons, Nat.reduceLT, Nat.reduceLeDiff, Nat.reduceEqDiff, Nat.reduceAdd, Nat.reduceMul, Nat.reduceSub, Int.reduceToNat, Int.reduceLE, Int.reduceLT, Int.reduceEq, Int.reduceAdd, ↓reduceIte, decide_true, decide_false, and_self]
              exact ⟨[.agg [.str tag, .nilS, .int .u8 x0, .int .u8 x1, .own 100 g 0 A.length]], [.agg [.str tag, .nilS, .int .u8 x0, .int .u8 x1, .sl A.length (subCells A)]], by kernel_rfl, by simp [outA, outV, outL, outC, AV.closed, mkS_tk, lkG, hAt, hAcl], by rw [hres]; exact sub_agg ⟨.refl _, .nil, .refl _, .refl _, .refl _, trivial⟩, rfl⟩
end Go.Proofs.YteapibifebnboaaDoor
