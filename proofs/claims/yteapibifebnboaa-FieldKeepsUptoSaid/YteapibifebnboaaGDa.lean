/- GDa: the texts DirP, DirN, DirC, DirG, DirQ, DirE, DirB, DirF, DirS, DirH, DirI, one behind the other. -/
import Derived.Test.YteapibifebnboaaEngT
import Derived.Test.YteapibifebnboaaGEc
set_option linter.unusedVariables false
set_option linter.unusedSimpArgs false

/- dir: what the functions compute, as plain lists; no program in sight. -/
namespace Go.Proofs.Yteapibifebnboaa
open Go Go.Eng
def isTagC (c : Int) : Bool := decide (48 ≤ c ∧ c ≤ 57) || decide (65 ≤ c ∧ c ≤ 90) || decide (97 ≤ c ∧ c ≤ 122)
def goodTag (l : List Int) : Bool := l.all isTagC && l.length == 3
def isD (c : Int) : Bool := decide (48 ≤ c ∧ c ≤ 57)
def valOf (l : List Int) : Int := l.foldl (fun n c => 10 * n + (c - 48)) 0
def numOf (l : List Int) : Int × Bool := if l.all isD = true then (valOf l, true) else (0, false)
theorem getD_all {p : Int → Bool} {l : List Int} {i : Nat} (h : i < l.length) (hall : ∀ c ∈ l, p c = true) : p (l.getD i 0) = true := by
  simp [List.getD_eq_getElem?_getD, h, hall]
theorem take_succ_all {p : Int → Bool} {l : List Int} {i : Nat} (h : i < l.length) (hall : ∀ c ∈ l.take i, p c = true) (hp : p (l.getD i 0) = true) : ∀ c ∈ l.take (i + 1), p c = true := by
  intro c hc
  rw [List.take_add_one, List.mem_append] at hc
  rcases hc with hc | hc
  · exact hall c hc
  · rw [List.getElem?_eq_getElem h] at hc
    simp at hc
    rw [hc]
    simpa [List.getD_eq_getElem?_getD, h] using hp
theorem all_no {p : Int → Bool} {l : List Int} {i : Nat} (h : i < l.length) (hp : p (l.getD i 0) = false) : l.all p = false := by
  rw [List.all_eq_false]
  refine ⟨l.getD i 0, ?_, by rw [hp]; simp⟩
  simp [List.getD_eq_getElem?_getD, h]
theorem goodTag_no {l : List Int} {i : Nat} (h : i < l.length) (hp : isTagC (l.getD i 0) = false) : goodTag l = false := by
  unfold goodTag
  rw [all_no h hp]; rfl
theorem take_succ_getD {l : List Int} {i : Nat} (h : i < l.length) : l.take (i + 1) = l.take i ++ [l.getD i 0] := by
  rw [List.take_add_one, List.getElem?_eq_getElem h]
  simp [List.getD_eq_getElem?_getD, h]
theorem valOf_succ {l : List Int} {i : Nat} (h : i < l.length) : valOf (l.take (i + 1)) = 10 * valOf (l.take i) + (l.getD i 0 - 48) := by
  rw [take_succ_getD h, valOf, List.foldl_append]; rfl
theorem valOf_bound {l : List Int} : ∀ {i : Nat}, i ≤ l.length → (∀ c ∈ l.take i, isD c = true) → 0 ≤ valOf (l.take i) ∧ valOf (l.take i) < 10 ^ i
  | 0, _, _ => by simp [valOf]
  | i + 1, h, hall => by
    have hi : i < l.length := by omega
    have hall' : ∀ c ∈ l.take i, isD c = true := fun c hc => hall c (by rw [take_succ_getD hi]; exact List.mem_append_left _ hc)
    obtain ⟨h1, h2⟩ := valOf_bound (by omega) hall'
    have h3 : isD (l.getD i 0) = true := hall _ (by rw [take_succ_getD hi]; simp)
    simp only [isD, decide_eq_true_eq] at h3
    rw [valOf_succ hi, Int.pow_succ]
    omega
theorem valOf_small {l : List Int} {i : Nat} (h : i ≤ l.length) (h5 : l.length ≤ 5) (hall : ∀ c ∈ l.take i, isD c = true) : 0 ≤ valOf (l.take i) ∧ valOf (l.take i) < 100000 := by
  obtain ⟨h1, h2⟩ := valOf_bound h hall
  refine ⟨h1, Int.lt_of_lt_of_le h2 ?_⟩
  have : i = 0 ∨ i = 1 ∨ i = 2 ∨ i = 3 ∨ i = 4 ∨ i = 5 := by omega
  rcases this with h | h | h | h | h | h <;> subst h <;> decide
end Go.Proofs.Yteapibifebnboaa

/- dir.number -/
set_option linter.unusedVariables false
set_option linter.unusedSimpArgs false
namespace Go.Proofs.Yteapibifebnboaa
open Go Go.Eng
set_option maxRecDepth 100000 in
set_option maxHeartbeats 4000000 in
theorem number_c (l : List Int) (hl : l.length ≤ 5) (hb : ∀ c ∈ l, 0 ≤ c ∧ c < 256) : ACall Try.prog 62 [.sl l.length (u8s l)] (.tup [.int .i64 (numOf l).1, .bool (numOf l).2]) none := by
  refine acall_intro none Try.func62 rfl (by kernel_rfl) (by simp [Try.f62]) ?_
  refine ex_run 100 ?_
  simp only [push_cast, Try.f62, Nat.reduceLT, Nat.reduceEqDiff, ↓reduceIte]
  refine run_keep (l' := [(0, .sl l.length (u8s l)), (2, .int .i64 0), (3, .bool false), (4, .int .i64 0), (7, .sl l.length (u8s l)), (8, .int .i64 l.length), (9, .int .i64 (0 : Nat))]) (t' := []) (nx' := _) ⟨.refl _, .refl _, .refl _, .refl _, .refl _, .refl _, .refl _, trivial⟩ trivial (Nat.le_refl _) ?_
  refine run_loop (fun n s => ∃ (i nx : Nat), i ≤ l.length ∧ n = l.length - i ∧ (∀ c ∈ l.take i, isD c = true) ∧ s = mkS [(0, .sl l.length (u8s l)), (2, .int .i64 0), (3, .bool false), (4, .int .i64 (valOf (l.take i))), (7, .sl l.length (u8s l)), (8, .int .i64 l.length), (9, .int .i64 i)] [] nx) _ ⟨0, _, Nat.zero_le _, rfl, by simp, rfl⟩ ?_
  rintro n s ⟨i, nx, hi, rfl, hall, rfl⟩
  have hw : IntKind.i64.wrap ((i : Int) + 1) = (i : Int) + 1 := wrap_i64 (by omega)
  by_cases h : i < l.length
  · obtain ⟨c, hc⟩ : ∃ c, l.getD i 0 = c := ⟨_, rfl⟩
    have hg : (u8s l).getD i .dead = .int .u8 c := by rw [u8s_getD l i h, hc]
    refine ex_run 100 ?_
    simp (maxSteps := 10000000) only [push_cast, Nat.reduceLT, Nat.reduceEqDiff, ↓reduceIte, Nat.reduceAdd, Nat.mul_one, hg, hw, h, decide_true]
    refine ⟨by omega, fun h1 => ?_, fun h1 => ⟨fun h2 => ?_, fun h2 => ?_⟩⟩
    · have hno : l.all isD = false := all_no h (by rw [hc]; simp [isD]; omega)
      exact ⟨_, _, rfl, rfl, .of_eq (by rw [show numOf l = (0, false) by simp [numOf, hno]]; rfl), rfl⟩
    · have hno : l.all isD = false := all_no h (by rw [hc]; simp [isD]; omega)
      exact ⟨_, _, rfl, rfl, .of_eq (by rw [show numOf l = (0, false) by simp [numOf, hno]]; rfl), rfl⟩
    · have hv := valOf_small hi hl hall
      have e1 : IntKind.u8.wrap (c - 48) = c - 48 := IntWalk.u8_in _ (by omega)
      have e2 : IntKind.i64.wrap (c - 48) = c - 48 := wrap_i64 (by omega)
      have e3 : IntKind.i64.wrap (10 * valOf (l.take i)) = 10 * valOf (l.take i) := wrap_i64 (by omega)
      have e4 : IntKind.i64.wrap (10 * valOf (l.take i) + (c - 48)) = valOf (l.take (i + 1)) := by rw [valOf_succ h, hc]; exact wrap_i64 (by omega)
      rw [e1, e2, e3, e4]
      exact run_back_le (le_mk (l' := [(0, .sl l.length (u8s l)), (2, .int .i64 0), (3, .bool false), (4, .int .i64 (valOf (l.take (i + 1)))), (7, .sl l.length (u8s l)), (8, .int .i64 l.length), (9, .int .i64 (i + 1 : Nat))]) (t' := []) (nx' := _) ⟨.refl _, .refl _, .refl _, .refl _, .refl _, .refl _, .refl _, trivial⟩ trivial (Nat.le_refl _)) ⟨l.length - (i + 1), by omega, i + 1, _, by omega, rfl, take_succ_all h hall (by rw [hc]; simp [isD]; omega), rfl⟩
  · refine ex_run 100 ?_
    simp (maxSteps := 10000000) only [push_cast, Nat.reduceLT, Nat.reduceEqDiff, ↓reduceIte, Nat.reduceAdd, Nat.mul_one, hw, h, decide_false]
    have : i = l.length := by omega
    subst this
    rw [List.take_length] at hall ⊢
    have hyes : l.all isD = true := List.all_eq_true.2 hall
    exact ⟨_, _, rfl, rfl, .of_eq (by rw [show numOf l = (valOf l, true) by simp [numOf, hyes]]; rfl), rfl⟩
end Go.Proofs.Yteapibifebnboaa

/- dir.Control and its like in ref19. -/
set_option linter.unusedVariables false
set_option linter.unusedSimpArgs false
namespace Go.Proofs.Yteapibifebnboaa
open Go Go.Eng
theorem prefix_take {l m : List Int} : (l.take m.length == m) = m.isPrefixOf l := by
  rw [Bool.eq_iff_iff, List.isPrefixOf_iff_prefix, List.prefix_iff_eq_take, beq_iff_eq]
  exact eq_comm
theorem prefix_long {l m : List Int} (h : ¬ m.length ≤ l.length) : m.isPrefixOf l = false := by
  rw [Bool.eq_false_iff, Ne, List.isPrefixOf_iff_prefix]
  exact fun e => h e.length_le
theorem b00 : bytesOf ⟨#[48, 48]⟩ = [48, 48] := rfl
set_option maxRecDepth 100000 in
set_option maxHeartbeats 4000000 in
theorem HasPrefixI_c (l m : List Int) (hl : l.length ≤ 9223372036854775807) (hm : m.length ≤ 9223372036854775807) : ACall Try.prog 73 [.str l, .str m] (.bool (m.isPrefixOf l)) none := by
  refine acall_intro none Try.func73 rfl (by kernel_rfl) (by simp [Try.f73]) ?_
  refine ex_run 100 ?_
  simp only [push_cast, Try.f73, Nat.reduceLT, Nat.reduceEqDiff, ↓reduceIte]
  refine ⟨fun h => ⟨h, _, _, rfl, rfl, .of_eq (congrArg AV.bool prefix_take), rfl⟩, fun h => ⟨_, _, rfl, rfl, .of_eq (congrArg AV.bool (prefix_long h).symm), rfl⟩⟩
set_option maxRecDepth 100000 in
set_option maxHeartbeats 4000000 in
theorem HasPrefix_c (l m : List Int) (hl : l.length ≤ 9223372036854775807) (hm : m.length ≤ 9223372036854775807) : ACall Try.prog 61 [.str l, .str m] (.bool (m.isPrefixOf l)) none := by
  refine acall_intro none Try.func61 rfl (by kernel_rfl) (by simp [Try.f61]) ?_
  refine ex_run 100 ?_
  simp only [push_cast, Try.f61, Nat.reduceLT, Nat.reduceEqDiff, ↓reduceIte]
  refine call_intro (HasPrefixI_c l m hl hm) (fun h => by cases h) ?_
  simp only [push_cast, Nat.reduceLT, Nat.reduceEqDiff, ↓reduceIte]
  exact ⟨_, _, rfl, rfl, .refl _, rfl⟩
set_option maxRecDepth 100000 in
set_option maxHeartbeats 4000000 in
theorem RControl_c (l : List Int) (hl : l.length ≤ 9223372036854775807) : ACall Try.prog 23 [.str l] (.bool ([48, 48].isPrefixOf l)) none := by
  refine acall_intro none Try.func23 rfl (by kernel_rfl) (by simp [Try.f23]) ?_
  refine ex_run 100 ?_
  simp only [push_cast, Try.f23, Nat.reduceLT, Nat.reduceEqDiff, ↓reduceIte, b00]
  refine ⟨fun h => ⟨⟨by omega, by omega⟩, _, _, rfl, rfl, .of_eq (congrArg AV.bool (prefix_take (m := [48, 48]))), rfl⟩, fun h => ⟨_, _, rfl, rfl, .of_eq (congrArg AV.bool (prefix_long (m := [48, 48]) (by simp; omega)).symm), rfl⟩⟩
set_option maxRecDepth 100000 in
set_option maxHeartbeats 4000000 in
theorem Control_c (l : List Int) (hl : l.length ≤ 9223372036854775807) : ACall Try.prog 41 [.str l] (.bool ([48, 48].isPrefixOf l)) none := by
  refine acall_intro none Try.func41 rfl (by kernel_rfl) (by simp [Try.f41]) ?_
  refine ex_run 100 ?_
  simp only [push_cast, Try.f41, Nat.reduceLT, Nat.reduceEqDiff, ↓reduceIte, b00]
  refine call_intro (HasPrefix_c l [48, 48] hl (by decide)) (fun h => by cases h) ?_
  simp only [push_cast, Nat.reduceLT, Nat.reduceEqDiff, ↓reduceIte]
  exact ⟨_, _, rfl, rfl, .refl _, rfl⟩
end Go.Proofs.Yteapibifebnboaa

/- dir.GoodTag and its like in ref19. -/
set_option linter.unusedVariables false
set_option linter.unusedSimpArgs false
namespace Go.Proofs.Yteapibifebnboaa
open Go Go.Eng
set_option maxRecDepth 100000 in
set_option maxHeartbeats 4000000 in
theorem GoodTag_c (l : List Int) (hl : l.length ≤ 9223372036854775807) : ACall Try.prog 44 [.str l] (.bool (goodTag l)) none := by
  refine acall_intro none Try.func44 rfl (by kernel_rfl) (by simp [Try.f44]) ?_
  refine ex_run 100 ?_
  simp only [push_cast, Try.f44, Nat.reduceLT, Nat.reduceEqDiff, ↓reduceIte]
  refine run_keep (l' := [(0, .str l), (2, .bool false), (6, .int .i64 l.length), (7, .int .i64 (0 : Nat))]) (t' := []) (nx' := _) ⟨.refl _, .refl _, .refl _, .refl _, trivial⟩ trivial (Nat.le_refl _) ?_
  refine run_loop (fun n s => ∃ (i nx : Nat), i ≤ l.length ∧ n = l.length - i ∧ (∀ c ∈ l.take i, isTagC c = true) ∧ s = mkS [(0, .str l), (2, .bool false), (6, .int .i64 l.length), (7, .int .i64 i)] [] nx) _ ⟨0, _, Nat.zero_le _, rfl, by simp, rfl⟩ ?_
  rintro n s ⟨i, nx, hi, rfl, hall, rfl⟩
  by_cases h : i < l.length
  · have hw : IntKind.i64.wrap ((i : Int) + 1) = (i : Int) + 1 := wrap_i64 (by omega)
    obtain ⟨c, hc⟩ : ∃ c, l.getD i 0 = c := ⟨_, rfl⟩
    refine ex_run 100 ?_
    simp (maxSteps := 10000000) only [push_cast, Nat.reduceLT, Nat.reduceEqDiff, ↓reduceIte, Nat.reduceAdd, hc, hw, h, decide_true]
    repeat' (first | apply And.intro | intro _)
    all_goals try assumption
    all_goals first
      | (refine run_back_le (le_mk (l' := [(0, .str l), (2, .bool false), (6, .int .i64 l.length), (7, .int .i64 (i + 1 : Nat))]) (t' := []) (nx' := _) ⟨.refl _, .refl _, .refl _, .refl _, trivial⟩ trivial (Nat.le_refl _)) ⟨l.length - (i + 1), by omega, i + 1, _, by omega, rfl, take_succ_all (by assumption) hall (by rw [hc]; simp [isTagC]; omega), rfl⟩)
      | (refine ⟨_, _, rfl, rfl, .of_eq (congrArg AV.bool (goodTag_no (by assumption) (by rw [hc]; simp [isTagC]; omega)).symm), rfl⟩)
      | omega
  · refine ex_run 100 ?_
    simp (maxSteps := 10000000) only [push_cast, Nat.reduceLT, Nat.reduceEqDiff, ↓reduceIte, Nat.reduceAdd, h, decide_false]
    refine ⟨_, _, rfl, rfl, .of_eq (congrArg AV.bool ?_), rfl⟩
    have : i = l.length := by omega
    subst this
    rw [List.take_length] at hall
    have h1 : l.all isTagC = true := List.all_eq_true.2 hall
    simp only [goodTag, h1, Bool.true_and]
    by_cases h3 : l.length = 3
    · simp [h3]
    · have h4 : ¬ ((l.length : Int) = 3) := by omega
      simp [h3, h4]
set_option maxRecDepth 100000 in
set_option maxHeartbeats 4000000 in
theorem RTag_c (l : List Int) (hl : l.length ≤ 9223372036854775807) : ACall Try.prog 20 [.str l] (.bool (goodTag l)) none := by
  refine acall_intro none Try.func20 rfl (by kernel_rfl) (by simp [Try.f20]) ?_
  refine ex_run 100 ?_
  simp only [push_cast, Try.f20, Nat.reduceLT, Nat.reduceEqDiff, ↓reduceIte]
  refine run_keep (l' := [(0, .str l), (2, .bool false), (3, .int .i64 (0 : Nat))]) (t' := []) (nx' := _) ⟨.refl _, .refl _, .refl _, trivial⟩ trivial (Nat.le_refl _) ?_
  refine run_loop (fun n s => ∃ (i nx : Nat), i ≤ l.length ∧ n = l.length - i ∧ (∀ c ∈ l.take i, isTagC c = true) ∧ s = mkS [(0, .str l), (2, .bool false), (3, .int .i64 i)] [] nx) _ ⟨0, _, Nat.zero_le _, rfl, by simp, rfl⟩ ?_
  rintro n s ⟨i, nx, hi, rfl, hall, rfl⟩
  by_cases h : i < l.length
  · have hw : IntKind.i64.wrap ((i : Int) + 1) = (i : Int) + 1 := wrap_i64 (by omega)
    obtain ⟨c, hc⟩ : ∃ c, l.getD i 0 = c := ⟨_, rfl⟩
    refine ex_run 100 ?_
    simp (maxSteps := 10000000) only [push_cast, Nat.reduceLT, Nat.reduceEqDiff, ↓reduceIte, Nat.reduceAdd, hc, hw, h, decide_true]
    repeat' (first | apply And.intro | intro _)
    all_goals try assumption
    all_goals first
      | (refine run_back_le (le_mk (l' := [(0, .str l), (2, .bool false), (3, .int .i64 (i + 1 : Nat))]) (t' := []) (nx' := _) ⟨.refl _, .refl _, .refl _, trivial⟩ trivial (Nat.le_refl _)) ⟨l.length - (i + 1), by omega, i + 1, _, by omega, rfl, take_succ_all (by assumption) hall (by rw [hc]; simp [isTagC]; omega), rfl⟩)
      | (refine ⟨_, _, rfl, rfl, .of_eq (congrArg AV.bool (goodTag_no (by assumption) (by rw [hc]; simp [isTagC]; omega)).symm), rfl⟩)
      | omega
  · refine ex_run 100 ?_
    simp (maxSteps := 10000000) only [push_cast, Nat.reduceLT, Nat.reduceEqDiff, ↓reduceIte, Nat.reduceAdd, h, decide_false]
    refine ⟨_, _, rfl, rfl, .of_eq (congrArg AV.bool ?_), rfl⟩
    have : i = l.length := by omega
    subst this
    rw [List.take_length] at hall
    have h1 : l.all isTagC = true := List.all_eq_true.2 hall
    simp only [goodTag, h1, Bool.true_and]
    by_cases h3 : l.length = 3
    · simp [h3]
    · have h4 : ¬ ((l.length : Int) = 3) := by omega
      simp [h3, h4]
end Go.Proofs.Yteapibifebnboaa

/- When faults, entries and indicators are equal. -/
set_option linter.unusedVariables false
namespace Go.Proofs.Yteapibifebnboaa
open Go Go.Eng
theorem eqFault (a b c d : Int) : aeq Try.prog 6 27 [.int .i64 a, .int .i64 b] [.int .i64 c, .int .i64 d] = some ((a == c) && ((b == d) && true)) := by kernel_rfl
theorem eqEntry (s s' : List Int) (a b c d : Int) : aeq Try.prog 6 31 [.str s, .int .i64 a, .int .i64 b] [.str s', .int .i64 c, .int .i64 d] = some ((s == s') && ((a == c) && ((b == d) && true))) := by kernel_rfl
theorem eqgFault : Try.prog.eqGuardType Try.prog.depth 27 = false := by kernel_rfl
theorem eqgEntry : Try.prog.eqGuardType Try.prog.depth 31 = false := by kernel_rfl
theorem rowFault : rowT Try.prog 27 = true := by kernel_rfl
theorem rowEntry : rowT Try.prog 31 = true := by kernel_rfl
attribute [push_cast high] eqFault eqEntry eqgFault eqgEntry rowFault rowEntry
end Go.Proofs.Yteapibifebnboaa

/- dir.entry -/
set_option linter.unusedVariables false
set_option linter.unusedSimpArgs false
namespace Go.Proofs.Yteapibifebnboaa
open Go Go.Eng
theorem number_n (l : List Int) (n : Nat) (hn : l.length = n) (hl : n ≤ 5) (hb : ∀ c ∈ l, 0 ≤ c ∧ c < 256) : ACall Try.prog 62 [.sl n (u8s l)] (.tup [.int .i64 (numOf l).1, .bool (numOf l).2]) none := by
  subst hn; exact number_c l hl hb
def entryOf (l : List Int) : AV × Bool :=
  (.agg [.str (l.take 3), .int .i64 (numOf ((l.drop 3).take 4)).1, .int .i64 (numOf ((l.drop 7).take 5)).1],
    (numOf ((l.drop 3).take 4)).2 && (numOf ((l.drop 7).take 5)).2 && goodTag (l.take 3) && decide (0 < (numOf ((l.drop 3).take 4)).1))
set_option maxRecDepth 100000 in
set_option maxHeartbeats 4000000 in
theorem entry_c (l : List Int) (hl : l.length = 12) (hb : ∀ c ∈ l, 0 ≤ c ∧ c < 256) : ACall Try.prog 42 [.sl l.length (u8s l)] (.tup [(entryOf l).1, .bool (entryOf l).2]) none := by
  have n3 : u8n (l.take 3) = l.take 3 := u8n_eq fun c hc => hb c (List.mem_of_mem_take hc)
  have e1 : List.drop 3 (List.take 7 l) = (l.drop 3).take 4 := by rw [List.drop_take]
  have e2 : List.drop 7 (List.take 12 l) = (l.drop 7).take 5 := by rw [List.drop_take]
  refine acall_intro none Try.func42 rfl (by kernel_rfl) (by simp [Try.f42]) ?_
  refine ex_run 30 ?_
  simp (maxSteps := 200000) only [Try.f42, n3, e1, push_cast, List.getD_cons_zero, List.getD_cons_succ, List.take_succ_cons, List.take_zero, List.drop_succ_cons, Nat.reduceLT, Nat.reduceLeDiff, Nat.reduceEqDiff, Nat.reduceAdd, Nat.reduceMul, Nat.reduceSub, Int.reduceToNat, Int.reduceLE, ↓reduceIte]
  refine ⟨by omega, by simp; omega, by omega, ?_⟩
  refine call_intro (number_n _ 4 (by simp; omega) (by omega) fun c hc => hb c (List.mem_of_mem_drop (List.mem_of_mem_take hc))) (fun h => by cases h) ?_
  generalize hn1 : numOf ((l.drop 3).take 4) = n1
  simp (maxSteps := 200000) only [e2, push_cast, List.getD_cons_zero, List.getD_cons_succ, List.take_succ_cons, List.take_zero, List.drop_succ_cons, Nat.reduceLT, Nat.reduceLeDiff, Nat.reduceEqDiff, Nat.reduceAdd, Nat.reduceMul, Nat.reduceSub, Int.reduceToNat, Int.reduceLE, ↓reduceIte]
  refine ⟨by omega, ?_⟩
  refine call_intro (number_n _ 5 (by simp; omega) (by omega) fun c hc => hb c (List.mem_of_mem_drop (List.mem_of_mem_take hc))) (fun h => by cases h) ?_
  generalize hn2 : numOf ((l.drop 7).take 5) = n2
  obtain ⟨v1, b1⟩ := n1
  obtain ⟨v2, b2⟩ := n2
  cases b1 <;> cases b2
  all_goals simp (maxSteps := 200000) only [push_cast, List.getD_cons_zero, List.getD_cons_succ, List.take_succ_cons, List.take_zero, List.drop_succ_cons, Nat.reduceLT, Nat.reduceLeDiff, Nat.reduceEqDiff, Nat.reduceAdd, Nat.reduceMul, Nat.reduceSub, Int.reduceToNat, Int.reduceLE, ↓reduceIte]
  · refine ⟨by kernel_rfl, by kernel_rfl, _, _, rfl, rfl, .of_eq ?_, rfl⟩
    simp only [entryOf, hn1, hn2]; rfl
  · refine ⟨by kernel_rfl, by kernel_rfl, _, _, rfl, rfl, .of_eq ?_, rfl⟩
    simp only [entryOf, hn1, hn2]; rfl
  · refine ⟨by kernel_rfl, by kernel_rfl, _, _, rfl, rfl, .of_eq ?_, rfl⟩
    simp only [entryOf, hn1, hn2]; rfl
  · refine ⟨by kernel_rfl, ?_⟩
    refine call_introF (GoodTag_c (l.take 3) (by simp; omega)) (fun h => by cases h) ?_
    generalize hg : goodTag (l.take 3) = g
    cases g
    all_goals simp (maxSteps := 200000) only [push_cast, List.getD_cons_zero, List.getD_cons_succ, List.take_succ_cons, List.take_zero, List.drop_succ_cons, Nat.reduceLT, Nat.reduceLeDiff, Nat.reduceEqDiff, Nat.reduceAdd, Nat.reduceMul, Nat.reduceSub, Int.reduceToNat, Int.reduceLE, ↓reduceIte]
    · refine ⟨by kernel_rfl, _, _, rfl, rfl, .of_eq ?_, rfl⟩
      simp only [entryOf, hn1, hn2, hg]; rfl
    · refine ⟨by kernel_rfl, _, _, rfl, rfl, .of_eq ?_, rfl⟩
      simp only [entryOf, hn1, hn2, hg]; rfl
end Go.Proofs.Yteapibifebnboaa

/- dir: blocks of a directory, as plain lists. -/
set_option linter.unusedVariables false
namespace Go.Proofs.Yteapibifebnboaa
open Go Go.Eng
def blk (l : List Int) (j : Nat) : List Int := (l.drop (12 * j)).take 12
def lenOf (b : List Int) : Int := (numOf ((b.drop 3).take 4)).1
def offOf (b : List Int) : Int := (numOf ((b.drop 7).take 5)).1
def base (l : List Int) : Nat → Int
  | 0 => 0
  | j + 1 => base l j + lenOf (blk l j)
def good (l : List Int) (j : Nat) : Bool := decide (12 * j + 12 ≤ l.length) && (entryOf (blk l j)).2 && decide (offOf (blk l j) = base l j)
def entCells (b : List Int) : List AV := [.str (b.take 3), .int .i64 (lenOf b), .int .i64 (offOf b)]
def cellsTo (l : List Int) : Nat → List AV
  | 0 => []
  | j + 1 => cellsTo l j ++ entCells (blk l j)
theorem cellsTo_length (l : List Int) : ∀ i, (cellsTo l i).length = i * 3
  | 0 => rfl
  | i + 1 => by rw [cellsTo, List.length_append, cellsTo_length l i, entCells]; simp; omega
theorem cellsTo_closed (l : List Int) : ∀ i, closedL (cellsTo l i) = true
  | 0 => rfl
  | i + 1 => by
    have h := cellsTo_closed l i
    rw [cellsTo]
    have : ∀ (a : List AV), closedL a = true → closedL (a ++ entCells (blk l i)) = true := by
      intro a
      induction a with
      | nil => intro _; rfl
      | cons x a ih => intro h; rw [closedL, Bool.and_eq_true] at h; rw [List.cons_append, closedL, Bool.and_eq_true]; exact ⟨h.1, ih h.2⟩
    exact this _ h
theorem numOf_small (l : List Int) (h : l.length ≤ 5) : 0 ≤ (numOf l).1 ∧ (numOf l).1 < 100000 := by
  unfold numOf
  split
  · rename_i hh
    have := valOf_small (l := l) (i := l.length) (Nat.le_refl _) h (by rw [List.take_length]; exact fun c hc => List.all_eq_true.1 hh c hc)
    rw [List.take_length] at this; exact this
  · simp
theorem lenOf_small (b : List Int) : 0 ≤ lenOf b ∧ lenOf b < 100000 := numOf_small _ (by simp; omega)
theorem base_small (l : List Int) : ∀ i, 0 ≤ base l i ∧ base l i ≤ 100000 * i
  | 0 => by simp [base]
  | i + 1 => by
    have h1 := base_small l i
    have h2 := lenOf_small (blk l i)
    simp only [base]
    omega
end Go.Proofs.Yteapibifebnboaa

/- dir.Parse -/
set_option linter.unusedVariables false
set_option linter.unusedSimpArgs false
namespace Go.Proofs.Yteapibifebnboaa
open Go Go.Eng
theorem zrep_one (z : List AV) : zrep z 1 = z := by
  unfold zrep
  apply List.ext_getElem
  · simp
  · intro i h1 h2
    simp [Nat.mod_eq_of_lt h2, List.getElem?_eq_getElem h2]
theorem entry_n (b : List Int) (n : Nat) (hn : n = 12) (hbl : b.length = 12) (hb : ∀ c ∈ b, 0 ≤ c ∧ c < 256) : ACall Try.prog 42 [.sl n (u8s b)] (.tup [.agg [.str (b.take 3), .int .i64 (lenOf b), .int .i64 (offOf b)], .bool (entryOf b).2]) none := by
  subst hn
  have := entry_c b hbl hb
  rw [hbl] at this
  exact this
def pS (l : List Int) (i g nx : Nat) : AS := mkS [(0, .sl l.length (u8s l)), (2, .nilS), (3, .addr 3 1 0), (4, .own 100 g 0 i), (5, .int .i64 (base l i)), (6, .int .i64 (12 * (i : Int)))] [(3, ⟨1, 1, [.int .i64 0, .int .i64 0]⟩), (100, ⟨g, 3, cellsTo l i⟩)] nx
set_option maxRecDepth 100000 in
set_option maxHeartbeats 4000000 in
theorem Parse_run (l : List Int) (hl : l.length ≤ 1099511627776) (hb : ∀ c ∈ l, 0 ≤ c ∧ c < 256) (t0 : Option Nat) (r : AV) (T : Option Tok)
    (hbad : ∀ j, 12 * j < l.length → good l j = false → (∀ i, i < j → good l i = true) → t0 = none ∧ r = .tup [.nilS, .agg [.int .i64 11, .int .i64 (12 * j : Nat)]] ∧ T = none)
    (hgood : ∀ n, l.length = 12 * n → (∀ i, i < n → good l i = true) → t0 = some 100 ∧ r = .tup [.own 0 0 0 n, .agg [.int .i64 0, .int .i64 0]] ∧ T = some ⟨0, 3, cellsTo l n⟩) :
    ACall Try.prog 17 [.sl l.length (u8s l)] r T := by
  refine acall_intro t0 Try.func17 rfl (by kernel_rfl) (by simp [Try.f17]) ?_
  refine ex_run 30 ?_
  simp (maxSteps := 200000) only [push_cast, Try.f17, Nat.reduceLT, Nat.reduceLeDiff, Nat.reduceEqDiff, Nat.reduceAdd, Nat.reduceMul, Nat.reduceSub, Int.reduceToNat, Int.reduceLE, ↓reduceIte]
  refine run_lazy 4 100 3 rfl ?_
  refine run_keep (l' := [(0, .sl l.length (u8s l)), (2, .nilS), (3, .addr 3 1 0), (4, .own 100 5 0 0), (5, .int .i64 0), (6, .int .i64 0)]) (t' := [(3, ⟨1, 1, [.int .i64 0, .int .i64 0]⟩), (100, ⟨5, 3, []⟩)]) (nx' := _) ⟨.refl _, .refl _, .refl _, .refl _, .refl _, .refl _, trivial⟩ ⟨⟨_, rfl, rfl, rfl, SubL.refl _⟩, ⟨_, rfl, rfl, rfl, SubL.refl _⟩, trivial⟩ (Nat.le_refl _) ?_
  refine run_loop (fun n s => ∃ (i g nx : Nat), 12 * i ≤ l.length ∧ n = l.length - 12 * i ∧ (∀ j, j < i → good l j = true) ∧ s = pS l i g nx) _ ⟨0, _, _, Nat.zero_le _, rfl, by omega, rfl⟩ ?_
  rintro n s ⟨i, g, nx, hi, rfl, hall, rfl⟩
  have hbs := base_small l i
  have hls := lenOf_small (blk l i)
  have w1 : IntKind.i64.wrap ((l.length : Int) - 12 * (i : Int)) = (l.length : Int) - 12 * (i : Int) := wrap_i64 (by omega)
  have w2 : IntKind.i64.wrap (12 * (i : Int) + 12) = 12 * (i : Int) + 12 := wrap_i64 (by omega)
  have w3 : IntKind.i64.wrap (base l i + lenOf (blk l i)) = base l (i + 1) := wrap_i64 (by omega)
  have t1 : (12 * (i : Int)).toNat = 12 * i := by omega
  have t2 : (12 * (i : Int) + 12).toNat = 12 * i + 12 := by omega
  have e1 : List.drop (12 * i) (List.take (12 * i + 12) l) = blk l i := by rw [List.drop_take, blk]; congr 1; omega
  unfold pS
  by_cases h : 12 * i < l.length
  · have h' : 12 * (i : Int) < (l.length : Int) := by omega
    by_cases h2 : l.length < 12 * i + 12
    · have h2' : (l.length : Int) - 12 * (i : Int) < 12 := by omega
      refine ex_run 30 ?_
      simp (maxSteps := 200000) only [w1, w2, t1, t2, h', h2', decide_true, push_cast, Nat.reduceLT, Nat.reduceLeDiff, Nat.reduceEqDiff, Nat.reduceAdd, Nat.reduceMul, Nat.reduceSub, Int.reduceToNat, Int.reduceLE, ↓reduceIte]
      have hg0 : good l i = false := by simp [good]; omega
      obtain ⟨rfl, rfl, rfl⟩ := hbad i h hg0 hall
      exact ⟨_, _, rfl, rfl, .of_eq (by rw [show ((12 * i : Nat) : Int) = 12 * (i : Int) by omega]; rfl), rfl⟩
    · have h2' : ¬ (l.length : Int) - 12 * (i : Int) < 12 := by omega
      refine ex_run 30 ?_
      simp (maxSteps := 200000) only [w1, w2, t1, t2, h', h2', e1, decide_true, decide_false, push_cast, Nat.reduceLT, Nat.reduceLeDiff, Nat.reduceEqDiff, Nat.reduceAdd, Nat.reduceMul, Nat.reduceSub, Int.reduceToNat, Int.reduceLE, ↓reduceIte]
      refine ⟨by omega, ?_⟩
      refine call_intro (entry_n (blk l i) _ (by omega) (by simp [blk]; omega) fun c hc => hb c (List.mem_of_mem_drop (List.mem_of_mem_take hc))) (fun h => by cases h) ?_
      generalize hok : (entryOf (blk l i)).2 = ok
      cases ok
      all_goals simp (maxSteps := 200000) only [push_cast, List.getD_cons_zero, List.getD_cons_succ, List.take_succ_cons, List.take_zero, List.drop_succ_cons, Nat.reduceLT, Nat.reduceLeDiff, Nat.reduceEqDiff, Nat.reduceAdd, Nat.reduceMul, Nat.reduceSub, Int.reduceToNat, Int.reduceLE, ↓reduceIte, w1, w2, w3, zrep_one]
      · have hg0 : good l i = false := by simp [good, hok]
        obtain ⟨rfl, rfl, rfl⟩ := hbad i h hg0 hall
        exact ⟨_, _, rfl, rfl, .of_eq (by rw [show ((12 * i : Nat) : Int) = 12 * (i : Int) by omega]; rfl), rfl⟩
      · refine ⟨fun h3 => ?_, fun h3 => ?_⟩
        · have hall' : ∀ j, j < i + 1 → good l j = true := by
            intro j hj
            by_cases hji : j = i
            · subst hji; simp [good, hok, h3]; omega
            · exact hall j (by omega)
          refine ⟨⟨cellsTo_length l i, by omega, by omega⟩, ?_⟩
          exact run_back_le (le_mk (l' := [(0, .sl l.length (u8s l)), (2, .nilS), (3, .addr 3 1 0), (4, .own 100 (nx + 4 + 5 + 12 + 8 + 5 + 1 + 1 + 1) 0 (i + 1)), (5, .int .i64 (base l (i + 1))), (6, .int .i64 (12 * ((i + 1 : Nat) : Int)))]) (t' := [(3, ⟨1, 1, [.int .i64 0, .int .i64 0]⟩), (100, ⟨nx + 4 + 5 + 12 + 8 + 5 + 1 + 1 + 1, 3, cellsTo l (i + 1)⟩)]) (nx' := _)
            ⟨.refl _, .refl _, .refl _, .refl _, .refl _, .of_eq (congrArg (AV.int .i64) (by omega)), trivial⟩ ⟨⟨_, rfl, rfl, rfl, SubL.refl _⟩, ⟨_, rfl, rfl, rfl, SubL.refl _⟩, trivial⟩ (Nat.le_refl _))
            ⟨l.length - 12 * (i + 1), by omega, i + 1, _, _, by omega, rfl, hall', rfl⟩
        · have hg0 : good l i = false := by simp [good, hok, h3]
          obtain ⟨rfl, rfl, rfl⟩ := hbad i h hg0 hall
          exact ⟨_, _, rfl, rfl, .of_eq (by rw [show ((12 * i : Nat) : Int) = 12 * (i : Int) by omega]; rfl), rfl⟩
  · have h' : ¬ 12 * (i : Int) < (l.length : Int) := by omega
    refine ex_run 30 ?_
    simp (maxSteps := 200000) only [w1, w2, t1, t2, h', decide_false, push_cast, Nat.reduceLT, Nat.reduceLeDiff, Nat.reduceEqDiff, Nat.reduceAdd, Nat.reduceMul, Nat.reduceSub, Int.reduceToNat, Int.reduceLE, ↓reduceIte]
    have hn : l.length = 12 * i := by omega
    obtain ⟨rfl, rfl, rfl⟩ := hgood i hn hall
    exact ⟨_, [.own 0 0 0 i, .agg [.int .i64 0, .int .i64 0]], rfl, by simp [outA, outV, outC, mkS_env, mkS_tk, lkF, lkG, AV.closed]; rfl, .refl _, ⟨_, rfl, cellsTo_closed l i, rfl⟩⟩
end Go.Proofs.Yteapibifebnboaa

/- law20.answers. -/
set_option linter.unusedVariables false
set_option linter.unusedSimpArgs false
namespace Go.Proofs.Yteapibifebnboaa
open Go Go.Eng
def aL : List Int := [48, 48, 49, 48, 48, 48, 52, 48, 48, 48, 48, 48]
theorem aL_good : good aL 0 = true := by decide +kernel
theorem aL_cells : cellsTo aL 1 = [.str [48, 48, 49], .int .i64 4, .int .i64 0] := by rfl
theorem Parse_aL (n : Nat) (hn : n = 12) (cs : List AV) (hc : cs = u8s aL) : ACall Try.prog 17 [.sl n cs] (.tup [.own 0 0 0 1, .agg [.int .i64 0, .int .i64 0]]) (some ⟨0, 3, [.str [48, 48, 49], .int .i64 4, .int .i64 0]⟩) := by
  subst hn; subst hc
  have hlen : aL.length = 12 := rfl
  rw [← aL_cells]
  have := Parse_run aL (by rw [hlen]; omega) (by decide) (some 100) (.tup [.own 0 0 0 1, .agg [.int .i64 0, .int .i64 0]]) (some ⟨0, 3, cellsTo aL 1⟩) (fun j h1 h2 _ => by
      have : j = 0 := by omega
      subst this; rw [aL_good] at h2; cases h2) (fun n h1 _ => by
      have : n = 1 := by omega
      subst this; exact ⟨rfl, rfl, rfl⟩)
  exact this
theorem zrep12 (x : AV) : zrep [x] 12 = [x, x, x, x, x, x, x, x, x, x, x, x] := by simp [zrep, show List.range 12 = [0, 1, 2, 3, 4, 5, 6, 7, 8, 9, 10, 11] from rfl]
theorem b001 : bytesOf ⟨#[48, 48, 49]⟩ = [48, 48, 49] := rfl
set_option maxRecDepth 100000 in
set_option maxHeartbeats 4000000 in
theorem answers_c : ACall Try.prog 16 [] (.bool true) none := by
  refine acall_intro none Try.func16 rfl (by kernel_rfl) (by simp [Try.f16]) ?_
  refine ex_run 30 ?_
  simp (maxSteps := 200000) only [push_cast, Try.f16, Nat.reduceLT, Nat.reduceLeDiff, Nat.reduceEqDiff, Nat.reduceAdd, Nat.reduceMul, Nat.reduceSub, Int.reduceToNat, Int.reduceLE, ↓reduceIte, zrep12]
  refine call_intro (Parse_aL _ rfl _ rfl) (fun _ => ⟨rfl, fun T0 h => by cases h; rfl⟩) ?_
  simp (maxSteps := 200000) only [push_cast, Nat.reduceLT, Nat.reduceLeDiff, Nat.reduceEqDiff, Nat.reduceAdd, Nat.reduceMul, Nat.reduceSub, Int.reduceToNat, Int.reduceLE, Int.reduceLT, Int.reduceEq, Int.reduceAdd, ↓reduceIte, b001, decide_true, and_self]
  try refine ⟨by decide, ?_⟩
  refine call_intro (Control_c [48, 48, 49] (by decide)) (fun h => by cases h) ?_
  simp (maxSteps := 200000) only [push_cast, Nat.reduceLT, Nat.reduceLeDiff, Nat.reduceEqDiff, Nat.reduceAdd, Nat.reduceMul, Nat.reduceSub, Int.reduceToNat, Int.reduceLE, Int.reduceLT, Int.reduceEq, Int.reduceAdd, ↓reduceIte, b001, decide_true, and_self]
  exact ⟨_, _, rfl, rfl, .of_eq (by rfl), rfl⟩
end Go.Proofs.Yteapibifebnboaa

/- ref19.num -/
set_option linter.unusedVariables false
set_option linter.unusedSimpArgs false
namespace Go.Proofs.Yteapibifebnboaa
open Go Go.Eng
def rnum (l : List Int) : Int := if l.all isD = true then valOf l else -1
set_option maxRecDepth 100000 in
set_option maxHeartbeats 4000000 in
theorem rnum_c (l : List Int) (n : Nat) (hn : l.length = n) (hl5 : n ≤ 5) (hb : ∀ c ∈ l, 0 ≤ c ∧ c < 256) : ACall Try.prog 43 [.sl n (u8s l)] (.int .i64 (rnum l)) none := by
  subst hn
  have hl := hl5
  refine acall_intro none Try.func43 rfl (by kernel_rfl) (by simp [Try.f43]) ?_
  refine ex_run 100 ?_
  simp only [push_cast, Try.f43, Nat.reduceLT, Nat.reduceEqDiff, ↓reduceIte]
  refine run_keep (l' := [(0, .sl l.length (u8s l)), (2, .int .i64 0), (3, .int .i64 0), (4, .int .i64 (0 : Nat))]) (t' := []) (nx' := _) ⟨.refl _, .refl _, .refl _, .refl _, trivial⟩ trivial (Nat.le_refl _) ?_
  refine run_loop (fun n s => ∃ (i nx : Nat), i ≤ l.length ∧ n = l.length - i ∧ (∀ c ∈ l.take i, isD c = true) ∧ s = mkS [(0, .sl l.length (u8s l)), (2, .int .i64 0), (3, .int .i64 (valOf (l.take i))), (4, .int .i64 i)] [] nx) _ ⟨0, _, Nat.zero_le _, rfl, by simp, rfl⟩ ?_
  rintro n s ⟨i, nx, hi, rfl, hall, rfl⟩
  have hw : IntKind.i64.wrap ((i : Int) + 1) = (i : Int) + 1 := wrap_i64 (by omega)
  by_cases h : i < l.length
  · obtain ⟨c, hc⟩ : ∃ c, l.getD i 0 = c := ⟨_, rfl⟩
    have hg : (u8s l).getD i .dead = .int .u8 c := by rw [u8s_getD l i h, hc]
    refine ex_run 100 ?_
    simp (maxSteps := 10000000) only [push_cast, Nat.reduceLT, Nat.reduceEqDiff, ↓reduceIte, Nat.reduceAdd, Nat.mul_one, hg, hw, h, decide_true]
    refine ⟨by omega, fun h1 => ?_, fun h1 => ⟨by omega, fun h2 => ?_, fun h2 => ⟨by omega, ?_⟩⟩⟩
    · have hno : l.all isD = false := all_no h (by rw [hc]; simp [isD]; omega)
      exact ⟨_, _, rfl, rfl, .of_eq (by rw [show rnum l = -1 by simp [rnum, hno]]; rfl), rfl⟩
    · have hno : l.all isD = false := all_no h (by rw [hc]; simp [isD]; omega)
      exact ⟨_, _, rfl, rfl, .of_eq (by rw [show rnum l = -1 by simp [rnum, hno]]; rfl), rfl⟩
    · have hv := valOf_small hi hl hall
      have e1 : IntKind.u8.wrap (c - 48) = c - 48 := IntWalk.u8_in _ (by omega)
      have e2 : IntKind.i64.wrap (c - 48) = c - 48 := wrap_i64 (by omega)
      have e3 : IntKind.i64.wrap (10 * valOf (l.take i)) = 10 * valOf (l.take i) := wrap_i64 (by omega)
      have e4 : IntKind.i64.wrap (10 * valOf (l.take i) + (c - 48)) = valOf (l.take (i + 1)) := by rw [valOf_succ h, hc]; exact wrap_i64 (by omega)
      rw [e1, e2, e3, e4]
      exact run_back_le (le_mk (l' := [(0, .sl l.length (u8s l)), (2, .int .i64 0), (3, .int .i64 (valOf (l.take (i + 1)))), (4, .int .i64 (i + 1 : Nat))]) (t' := []) (nx' := _) ⟨.refl _, .refl _, .refl _, .refl _, trivial⟩ trivial (Nat.le_refl _)) ⟨l.length - (i + 1), by omega, i + 1, _, by omega, rfl, take_succ_all h hall (by rw [hc]; simp [isD]; omega), rfl⟩
  · refine ex_run 100 ?_
    simp (maxSteps := 10000000) only [push_cast, Nat.reduceLT, Nat.reduceEqDiff, ↓reduceIte, Nat.reduceAdd, Nat.mul_one, hw, h, decide_false]
    have : i = l.length := by omega
    subst this
    rw [List.take_length] at hall ⊢
    have hyes : l.all isD = true := List.all_eq_true.2 hall
    exact ⟨_, _, rfl, rfl, .of_eq (by rw [show rnum l = valOf l by simp [rnum, hyes]]; rfl), rfl⟩
end Go.Proofs.Yteapibifebnboaa

/- ref19.Dir -/
set_option linter.unusedVariables false
set_option linter.unusedSimpArgs false
namespace Go.Proofs.Yteapibifebnboaa
open Go Go.Eng
theorem rnum_eq (p : List Int) : rnum p = if (numOf p).2 = true then (numOf p).1 else -1 := by
  unfold rnum numOf
  split <;> simp
theorem good_ref {l : List Int} {i : Nat} (h : 12 * i + 12 ≤ l.length) : good l i = true ↔ goodTag ((blk l i).take 3) = true ∧ 1 ≤ rnum (((blk l i).drop 3).take 4) ∧ rnum (((blk l i).drop 7).take 5) = base l i := by
  have hbs := base_small l i
  rw [rnum_eq, rnum_eq]
  have ho : offOf (blk l i) = (numOf (((blk l i).drop 7).take 5)).1 := rfl
  simp only [good, entryOf, h, decide_true, Bool.true_and, Bool.and_eq_true, decide_eq_true_eq]
  rw [ho]
  obtain ⟨v1, hv1⟩ : ∃ v, (numOf (((blk l i).drop 3).take 4)).1 = v := ⟨_, rfl⟩
  obtain ⟨v2, hv2⟩ : ∃ v, (numOf (((blk l i).drop 7).take 5)).1 = v := ⟨_, rfl⟩
  rw [hv1, hv2]
  by_cases b1 : (numOf (((blk l i).drop 3).take 4)).2 = true <;> by_cases b2 : (numOf (((blk l i).drop 7).take 5)).2 = true <;> simp only [b1, b2, if_true, true_and, false_and, and_false, and_true, Bool.false_eq_true, if_false, false_iff, not_and]
  · constructor
    · rintro ⟨⟨h1, h2⟩, h3⟩; exact ⟨h1, by omega, h3⟩
    · rintro ⟨h1, h2, h3⟩; exact ⟨⟨h1, by omega⟩, h3⟩
  all_goals omega
theorem good_lens {l : List Int} {i : Nat} (h : good l i = true) : rnum (((blk l i).drop 3).take 4) = lenOf (blk l i) ∧ rnum (((blk l i).drop 7).take 5) = offOf (blk l i) := by
  rw [rnum_eq, rnum_eq]
  simp only [good, entryOf, Bool.and_eq_true] at h
  rw [if_pos h.1.2.1.1.1, if_pos h.1.2.1.1.2]
  exact ⟨rfl, rfl⟩
set_option maxRecDepth 100000 in
set_option maxHeartbeats 4000000 in
theorem RDir_run (l : List Int) (hl : l.length ≤ 1099511627776) (hb : ∀ c ∈ l, 0 ≤ c ∧ c < 256) (t0 : Option Nat) (r : AV) (T : Option Tok)
    (hbad : ∀ j, 12 * j < l.length → good l j = false → (∀ i, i < j → good l i = true) → t0 = none ∧ r = .tup [.nilS, .agg [.int .i64 11, .int .i64 (12 * j : Nat)]] ∧ T = none)
    (hgood : ∀ n, l.length = 12 * n → (∀ i, i < n → good l i = true) → t0 = some 100 ∧ r = .tup [.own 0 0 0 n, .agg [.int .i64 0, .int .i64 0]] ∧ T = some ⟨0, 3, cellsTo l n⟩) :
    ACall Try.prog 18 [.sl l.length (u8s l)] r T := by
  refine acall_intro t0 Try.func18 rfl (by kernel_rfl) (by simp [Try.f18]) ?_
  refine ex_run 30 ?_
  simp (maxSteps := 200000) only [push_cast, Try.f18, Nat.reduceLT, Nat.reduceLeDiff, Nat.reduceEqDiff, Nat.reduceAdd, Nat.reduceMul, Nat.reduceSub, Int.reduceToNat, Int.reduceLE, ↓reduceIte]
  refine run_lazy 4 100 3 rfl ?_
  refine run_keep (l' := [(0, .sl l.length (u8s l)), (2, .nilS), (3, .addr 3 1 0), (4, .own 100 5 0 0), (5, .int .i64 0), (6, .int .i64 0)]) (t' := [(3, ⟨1, 1, [.int .i64 0, .int .i64 0]⟩), (100, ⟨5, 3, []⟩)]) (nx' := _) ⟨.refl _, .refl _, .refl _, .refl _, .refl _, .refl _, trivial⟩ ⟨⟨_, rfl, rfl, rfl, SubL.refl _⟩, ⟨_, rfl, rfl, rfl, SubL.refl _⟩, trivial⟩ (Nat.le_refl _) ?_
  refine run_loop (fun n s => ∃ (i g nx : Nat), 12 * i ≤ l.length ∧ n = l.length - 12 * i ∧ (∀ j, j < i → good l j = true) ∧ s = pS l i g nx) _ ⟨0, _, _, Nat.zero_le _, rfl, by omega, rfl⟩ ?_
  rintro n s ⟨i, g, nx, hi, rfl, hall, rfl⟩
  have hbs := base_small l i
  have hls := lenOf_small (blk l i)
  have w1 : IntKind.i64.wrap ((l.length : Int) - 12 * (i : Int)) = (l.length : Int) - 12 * (i : Int) := wrap_i64 (by omega)
  have w2 : IntKind.i64.wrap (12 * (i : Int) + 12) = 12 * (i : Int) + 12 := wrap_i64 (by omega)
  have w3 : IntKind.i64.wrap (base l i + lenOf (blk l i)) = base l (i + 1) := wrap_i64 (by omega)
  have t1 : (12 * (i : Int)).toNat = 12 * i := by omega
  have t2 : (12 * (i : Int) + 12).toNat = 12 * i + 12 := by omega
  have w4 : IntKind.i64.wrap (12 * (i : Int) + 3) = 12 * (i : Int) + 3 := wrap_i64 (by omega)
  have w5 : IntKind.i64.wrap (12 * (i : Int) + 7) = 12 * (i : Int) + 7 := wrap_i64 (by omega)
  have t3 : (12 * (i : Int) + 3).toNat = 12 * i + 3 := by omega
  have t4 : (12 * (i : Int) + 7).toNat = 12 * i + 7 := by omega
  have d1 : List.drop (12 * i) (List.take (12 * i + 3) l) = (blk l i).take 3 := by rw [List.drop_take, blk, List.take_take]; congr 1; omega
  have d2 : List.drop (12 * i + 3) (List.take (12 * i + 7) l) = ((blk l i).drop 3).take 4 := by rw [List.drop_take, blk, List.drop_take, List.drop_drop, List.take_take]; congr 1; omega
  have d3 : List.drop (12 * i + 7) (List.take (12 * i + 12) l) = ((blk l i).drop 7).take 5 := by rw [List.drop_take, blk, List.drop_take, List.drop_drop, List.take_take]; congr 1; omega
  have n3 : u8n ((blk l i).take 3) = (blk l i).take 3 := u8n_eq fun c hc => hb c (List.mem_of_mem_drop (List.mem_of_mem_take (List.mem_of_mem_take hc)))
  have e1 : List.drop (12 * i) (List.take (12 * i + 12) l) = blk l i := by rw [List.drop_take, blk]; congr 1; omega
  unfold pS
  by_cases h : 12 * i < l.length
  · have h' : 12 * (i : Int) < (l.length : Int) := by omega
    by_cases h2 : l.length < 12 * i + 12
    · have h2' : (l.length : Int) < 12 * (i : Int) + 12 := by omega
      refine ex_run 30 ?_
      simp (maxSteps := 200000) only [w1, w2, t1, t2, h', h2', decide_true, push_cast, Nat.reduceLT, Nat.reduceLeDiff, Nat.reduceEqDiff, Nat.reduceAdd, Nat.reduceMul, Nat.reduceSub, Int.reduceToNat, Int.reduceLE, ↓reduceIte]
      have hg0 : good l i = false := by simp [good]; omega
      obtain ⟨rfl, rfl, rfl⟩ := hbad i h hg0 hall
      exact ⟨_, _, rfl, rfl, .of_eq (by rw [show ((12 * i : Nat) : Int) = 12 * (i : Int) by omega]; rfl), rfl⟩
    · have h2' : ¬ (l.length : Int) < 12 * (i : Int) + 12 := by omega
      refine ex_run 30 ?_
      simp (maxSteps := 200000) only [w1, w2, w4, w5, t1, t2, t3, t4, d1, d2, d3, n3, h', h2', e1, decide_true, decide_false, push_cast, Nat.reduceLT, Nat.reduceLeDiff, Nat.reduceEqDiff, Nat.reduceAdd, Nat.reduceMul, Nat.reduceSub, Int.reduceToNat, Int.reduceLE, ↓reduceIte]
      refine ⟨by kernel_rfl, by omega, by simp [blk]; omega, by omega, ?_⟩
      have hbb : ∀ c ∈ blk l i, 0 ≤ c ∧ c < 256 := fun c hc => hb c (List.mem_of_mem_drop (List.mem_of_mem_take hc))
      refine call_introF (rnum_c _ _ (by simp [blk]; omega) (by omega) fun c hc => hbb c (List.mem_of_mem_drop (List.mem_of_mem_take hc))) (fun h => by cases h) ?_
      generalize hr1 : rnum (((blk l i).drop 3).take 4) = v1
      simp (maxSteps := 200000) only [w1, w2, w4, w5, t1, t2, t3, t4, d1, d2, d3, n3, e1, push_cast, Nat.reduceLT, Nat.reduceLeDiff, Nat.reduceEqDiff, Nat.reduceAdd, Nat.reduceMul, Nat.reduceSub, Int.reduceToNat, Int.reduceLE, ↓reduceIte]
      refine ⟨by omega, ?_⟩
      refine call_introF (rnum_c _ _ (by simp [blk]; omega) (by omega) fun c hc => hbb c (List.mem_of_mem_drop (List.mem_of_mem_take hc))) (fun h => by cases h) ?_
      generalize hr2 : rnum (((blk l i).drop 7).take 5) = v2
      simp (maxSteps := 200000) only [w1, w2, w4, w5, t1, t2, t3, t4, d1, d2, d3, n3, e1, push_cast, Nat.reduceLT, Nat.reduceLeDiff, Nat.reduceEqDiff, Nat.reduceAdd, Nat.reduceMul, Nat.reduceSub, Int.reduceToNat, Int.reduceLE, ↓reduceIte]
      refine ⟨by kernel_rfl, ?_⟩
      refine call_intro (RTag_c ((blk l i).take 3) (by simp; omega)) (fun h => by cases h) ?_
      generalize hg : goodTag ((blk l i).take 3) = tg
      cases tg
      all_goals simp (maxSteps := 200000) only [w1, w2, w4, w5, t1, t2, t3, t4, d1, d2, d3, n3, e1, zrep_one, push_cast, List.getD_cons_zero, List.getD_cons_succ, List.take_succ_cons, List.take_zero, List.drop_succ_cons, Nat.reduceLT, Nat.reduceLeDiff, Nat.reduceEqDiff, Nat.reduceAdd, Nat.reduceMul, Nat.reduceSub, Int.reduceToNat, Int.reduceLE, ↓reduceIte]
      · have hg0 : good l i = false := by
          rw [Bool.eq_false_iff]; intro hx; have := (good_ref (by omega)).1 hx; rw [hg] at this; exact absurd this.1 (by simp)
        obtain ⟨rfl, rfl, rfl⟩ := hbad i h hg0 hall
        exact ⟨_, _, rfl, rfl, .of_eq (by rw [show ((12 * i : Nat) : Int) = 12 * (i : Int) by omega]; rfl), rfl⟩
      · refine ⟨fun h3 => ?_, fun h3 => ?_⟩
        · have hg0 : good l i = false := by
            rw [Bool.eq_false_iff]; intro hx; have := (good_ref (by omega)).1 hx; rw [hr1] at this; omega
          obtain ⟨rfl, rfl, rfl⟩ := hbad i h hg0 hall
          exact ⟨_, _, rfl, rfl, .of_eq (by rw [show ((12 * i : Nat) : Int) = 12 * (i : Int) by omega]; rfl), rfl⟩
        · refine ⟨fun h4 => ?_, fun h4 => ?_⟩
          · have hgd : good l i = true := (good_ref (by omega)).2 ⟨hg, by rw [hr1]; omega, by rw [hr2]; exact h4⟩
            obtain ⟨q1, q2⟩ := good_lens hgd
            rw [hr1] at q1
            rw [hr2] at q2
            subst q1
            subst q2
            rw [w3]
            have hall' : ∀ j, j < i + 1 → good l j = true := by
              intro j hj
              by_cases hji : j = i
              · subst hji; exact hgd
              · exact hall j (by omega)
            refine ⟨⟨cellsTo_length l i, by omega, by omega⟩, ?_⟩
            exact run_back_le (le_mk (l' := [(0, .sl l.length (u8s l)), (2, .nilS), (3, .addr 3 1 0), (4, .own 100 (nx + 4 + 5 + 23 + 15 + 5 + 1 + 1 + 1) 0 (i + 1)), (5, .int .i64 (base l (i + 1))), (6, .int .i64 (12 * ((i + 1 : Nat) : Int)))]) (t' := [(3, ⟨1, 1, [.int .i64 0, .int .i64 0]⟩), (100, ⟨nx + 4 + 5 + 23 + 15 + 5 + 1 + 1 + 1, 3, cellsTo l (i + 1)⟩)]) (nx' := _)
              ⟨.refl _, .refl _, .refl _, .refl _, .refl _, .of_eq (congrArg (AV.int .i64) (by omega)), trivial⟩ ⟨⟨_, rfl, rfl, rfl, SubL.refl _⟩, ⟨_, rfl, rfl, rfl, SubL.refl _⟩, trivial⟩ (Nat.le_refl _))
              ⟨l.length - 12 * (i + 1), by omega, i + 1, _, _, by omega, rfl, hall', rfl⟩
          · have hg0 : good l i = false := by
              rw [Bool.eq_false_iff]; intro hx; have := (good_ref (by omega)).1 hx; rw [hr2] at this; exact h4 this.2.2
            obtain ⟨rfl, rfl, rfl⟩ := hbad i h hg0 hall
            exact ⟨_, _, rfl, rfl, .of_eq (by rw [show ((12 * i : Nat) : Int) = 12 * (i : Int) by omega]; rfl), rfl⟩
  · have h' : ¬ 12 * (i : Int) < (l.length : Int) := by omega
    refine ex_run 30 ?_
    simp (maxSteps := 200000) only [w1, w2, t1, t2, h', decide_false, push_cast, Nat.reduceLT, Nat.reduceLeDiff, Nat.reduceEqDiff, Nat.reduceAdd, Nat.reduceMul, Nat.reduceSub, Int.reduceToNat, Int.reduceLE, ↓reduceIte]
    have hn : l.length = 12 * i := by omega
    obtain ⟨rfl, rfl, rfl⟩ := hgood i hn hall
    exact ⟨_, [.own 0 0 0 i, .agg [.int .i64 0, .int .i64 0]], rfl, by simp [outA, outV, outC, mkS_env, mkS_tk, lkF, lkG, AV.closed]; rfl, .refl _, ⟨_, rfl, cellsTo_closed l i, rfl⟩⟩
end Go.Proofs.Yteapibifebnboaa
