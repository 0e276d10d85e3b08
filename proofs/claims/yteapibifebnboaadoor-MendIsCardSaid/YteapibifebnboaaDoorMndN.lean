/- Law MendLead: the walk. -/
import Derived.Test.YteapibifebnboaaDoorMndM
import Derived.Test.YteapibifebnboaaDoorMndC
set_option linter.unusedVariables false
set_option linter.unusedSimpArgs false
namespace Go.Proofs.YteapibifebnboaaDoor
open Go Go.Eng
def zs5 : List Int := [48, 48, 48, 48, 48]
theorem leadM_ext {b : List Int} {l : List Int} (hl : l.length = 24) (h : ∀ i, i < 24 → l.getD i 0 = leadC b i) : l = leadM b := by
  apply List.ext_getElem
  · rw [leadM_len, hl]
  · intro i h1 h2
    have := h i (by omega)
    rw [List.getD_eq_getElem?_getD, List.getElem?_eq_getElem h1] at this
    have h3 := leadM_get b i (by omega)
    rw [List.getD_eq_getElem?_getD, List.getElem?_eq_getElem h2] at h3
    simp only [Option.getD_some] at this h3
    rw [this, h3]
theorem leadM_idem (b : List Int) : leadM (leadM b) = leadM b := by
  refine (leadM_ext (leadM_len b) fun i hi => ?_).symm
  rw [leadM_get b i hi]
  have hp : padC (leadM b) i = leadC b i := by unfold padC; rw [leadM_len, if_pos hi, leadM_get b i hi]
  by_cases h1 : numAt i = true
  · unfold leadC; rw [if_pos h1, if_pos h1]
  · by_cases h2 : mustB i = 0
    · have e : leadC (leadM b) i = if ((i = 9 ∧ padC (leadM b) i ≠ 97) ∨ indB (padC (leadM b) i) = false) then 32 else padC (leadM b) i := by
        unfold leadC; rw [if_neg h1, if_neg (by rw [h2]; simp)]
      have e2 : leadC b i = if ((i = 9 ∧ padC b i ≠ 97) ∨ indB (padC b i) = false) then 32 else padC b i := by
        unfold leadC; rw [if_neg h1, if_neg (by rw [h2]; simp)]
      rw [e, hp]
      by_cases hc : (i = 9 ∧ padC b i ≠ 97) ∨ indB (padC b i) = false
      · rw [if_pos hc] at e2
        rw [e2]
        split <;> rfl
      · rw [if_neg hc] at e2
        rw [e2, if_neg hc]
    · unfold leadC; rw [if_neg h1, if_pos h2, if_neg h1, if_pos h2]
theorem leadM_zero (b : List Int) : (leadM b).take 5 = zs5 ∧ ((leadM b).take 17).drop 12 = zs5 := by
  have h : ∀ i, numAt (i : Nat) = true → leadC b i = 48 := fun i hi => by unfold leadC; rw [if_pos hi]
  have h0 := h 0 rfl
  have h1 := h 1 rfl
  have h2 := h 2 rfl
  have h3 := h 3 rfl
  have h4 := h 4 rfl
  have h12 := h 12 rfl
  have h13 := h 13 rfl
  have h14 := h 14 rfl
  have h15 := h 15 rfl
  have h16 := h 16 rfl
  have e : leadM b = [leadC b 0, leadC b 1, leadC b 2, leadC b 3, leadC b 4, leadC b 5, leadC b 6, leadC b 7, leadC b 8, leadC b 9, leadC b 10, leadC b 11, leadC b 12, leadC b 13, leadC b 14, leadC b 15, leadC b 16, leadC b 17, leadC b 18, leadC b 19, leadC b 20, leadC b 21, leadC b 22, leadC b 23] := rfl
  rw [e, h0, h1, h2, h3, h4, h12, h13, h14, h15, h16]
  exact ⟨rfl, rfl⟩
theorem sndFrom_get : ∀ {l : List Int} {i : Nat}, sndFrom l i = true → ∀ j, j < l.length → ledB ((i + j : Nat) : Int) (l.getD j 0) true = true
  | [], _, _, j, hj => by simp at hj
  | c :: t, i, h, j, hj => by
    rw [sndFrom, Bool.and_eq_true] at h
    cases j with
    | zero => exact h.1
    | succ j =>
      have := sndFrom_get h.2 j (by simpa using hj)
      rw [List.getD_cons_succ, show i + (j + 1) = i + 1 + j by omega]; exact this
theorem leadC_sound {b : List Int} (h24 : 24 ≤ b.length) (hs : soundL (b.take 24) = true) (i : Nat) (hi : i < 24) (hn : numAt i = false) : leadC b i = b.getD i 0 := by
  unfold soundL at hs
  rw [Bool.and_eq_true] at hs
  have h := sndFrom_get hs.2 i (by rw [List.length_take]; omega)
  rw [Nat.zero_add] at h
  have hg : (b.take 24).getD i 0 = b.getD i 0 := by rw [List.getD_eq_getElem?_getD, List.getD_eq_getElem?_getD, List.getElem?_take_of_lt hi]
  rw [hg] at h
  have hp : padC b i = b.getD i 0 := by unfold padC; rw [if_pos (by omega)]
  unfold ledB at h
  unfold leadC
  rw [if_neg (by rw [hn]; simp)] at h ⊢
  by_cases h2 : mustB i = 0
  · rw [if_neg (by rw [h2]; simp)] at h ⊢
    rw [hp]
    generalize b.getD i 0 = c at *
    by_cases h9 : i = 9
    · subst h9
      rw [if_pos (show ((9 : Nat) : Int) = 9 from rfl), Bool.or_eq_true] at h
      rcases h with h | h
      · have := of_decide_eq_true h; subst this; split <;> rfl
      · have := of_decide_eq_true h; subst this; rfl
    · rw [if_neg (show ¬ ((i : Nat) : Int) = 9 by omega)] at h
      rw [if_neg (fun e => e.elim (fun e => h9 e.1) (fun e => by rw [show indB c = true from h] at e; cases e))]
  · rw [if_pos h2] at h ⊢
    exact (of_decide_eq_true h).symm
theorem lead_parts {b : List Int} (h24 : 24 ≤ b.length) (hs : soundL (b.take 24) = true) : ((leadM b).take 12).drop 5 = (b.take 12).drop 5 ∧ (leadM b).drop 17 = (b.take 24).drop 17 := by
  have h : ∀ i : Nat, i < 24 → numAt i = false → (leadM b).getD i 0 = b.getD i 0 := fun i hi hn => by rw [leadM_get b i hi, leadC_sound h24 hs i hi hn]
  have hl := leadM_len b
  constructor
  · apply List.ext_getElem
    · simp [hl]; omega
    · intro i h1 h2
      simp [hl] at h1
      have := h (5 + i) (by omega) (by unfold numAt; simp; omega)
      rw [List.getD_eq_getElem?_getD, List.getElem?_eq_getElem (by omega), List.getD_eq_getElem?_getD, List.getElem?_eq_getElem (by omega)] at this
      simpa using this
  · apply List.ext_getElem
    · simp [hl]; omega
    · intro i h1 h2
      simp [hl] at h1
      have := h (17 + i) (by omega) (by unfold numAt; simp; omega)
      rw [List.getD_eq_getElem?_getD, List.getElem?_eq_getElem (by omega), List.getD_eq_getElem?_getD, List.getElem?_eq_getElem (by omega)] at this
      simpa using this
set_option maxRecDepth 100000 in
set_option maxHeartbeats 4000000 in
theorem MendLead_c (b : List Int) (hl : inB b) (hn : b.length ≤ 140737488351232) : ACall Tryd.prog 7 [.sl b.length (u8s b)] (.bool true) none := by
  refine acall_intro none Tryd.func7 rfl (by kernel_rfl) (by simp [Tryd.f7]) ?_
  by_cases h300 : 300 < b.length
  · have h300' : (300 : Int) < (b.length : Int) := by omega
    refine ex_run 30 ?_
    simp (maxSteps := 200000) only [Tryd.f7, h300', push_cast, List.getD_cons_zero, List.getD_cons_succ, List.take_succ_cons, List.take_zero, List.drop_succ_cons, Nat.reduceLT, Nat.reduceLeDiff, Nat.reduceEqDiff, Nat.reduceAdd, Nat.reduceMul, Nat.reduceSub, Int.reduceToNat, Int.reduceLE, Int.reduceLT, Int.reduceEq, Int.reduceAdd, ↓reduceIte, decide_true, decide_false, and_self]
    refine call_intro answers23_c (fun h => by cases h) ?_
    simp (maxSteps := 200000) only [push_cast, List.getD_cons_zero, List.getD_cons_succ, List.take_succ_cons, List.take_zero, List.drop_succ_cons, Nat.reduceLT, Nat.reduceLeDiff, Nat.reduceEqDiff, Nat.reduceAdd, Nat.reduceMul, Nat.reduceSub, Int.reduceToNat, Int.reduceLE, Int.reduceLT, Int.reduceEq, Int.reduceAdd, ↓reduceIte, decide_true, decide_false, and_self]
    exact ⟨_, _, rfl, rfl, .refl _, rfl⟩
  · have h300' : ¬ (300 : Int) < (b.length : Int) := by omega
    have hz : bytesOf { data := #[48, 48, 48, 48, 48] } = zs5 := rfl
    have hL := Lead_c b (by omega) hl
    have hi := leadM_idem b
    have hs := leadM_sound hl
    obtain ⟨z1, z2⟩ := leadM_zero b
    have h24 := leadM_len b
    have hin := leadM_in hl
    have hS := rSound_c (leadM b) (by omega)
    have hL2 := Lead_c (leadM b) (by omega) hin
    rw [hi, h24] at hL2
    rw [hs] at hS
    have hparts := @lead_parts b
    have hbc := u8s_closed (leadM b)
    have hul : (u8s (leadM b)).length = 24 := by rw [u8s_length, h24]
    have hut : (u8s (leadM b)).take 24 = u8s (leadM b) := List.take_of_length_le (by omega)
    generalize leadM b = s at *
    refine ex_run 60 ?_
    simp (maxSteps := 200000) only [Tryd.f7, h300', hz, push_cast, List.getD_cons_zero, List.getD_cons_succ, List.take_succ_cons, List.take_zero, List.drop_succ_cons, Nat.reduceLT, Nat.reduceLeDiff, Nat.reduceEqDiff, Nat.reduceAdd, Nat.reduceMul, Nat.reduceSub, Int.reduceToNat, Int.reduceLE, Int.reduceLT, Int.reduceEq, Int.reduceAdd, ↓reduceIte, decide_true, decide_false, and_self]
    refine call_intro hL (fun h => by cases h) ?_
    simp (maxSteps := 200000) only [push_cast, List.getD_cons_zero, List.getD_cons_succ, List.take_succ_cons, List.take_zero, List.drop_succ_cons, Nat.reduceLT, Nat.reduceLeDiff, Nat.reduceEqDiff, Nat.reduceAdd, Nat.reduceMul, Nat.reduceSub, Int.reduceToNat, Int.reduceLE, Int.reduceLT, Int.reduceEq, Int.reduceAdd, ↓reduceIte, decide_true, decide_false, and_self]
    refine call_intro answers23_c (fun h => by cases h) ?_
    simp (maxSteps := 200000) only [push_cast, List.getD_cons_zero, List.getD_cons_succ, List.take_succ_cons, List.take_zero, List.drop_succ_cons, Nat.reduceLT, Nat.reduceLeDiff, Nat.reduceEqDiff, Nat.reduceAdd, Nat.reduceMul, Nat.reduceSub, Int.reduceToNat, Int.reduceLE, Int.reduceLT, Int.reduceEq, Int.reduceAdd, ↓reduceIte, decide_true, decide_false, and_self]
    refine call_intro hS (fun h => by cases h) ?_
    simp (maxSteps := 200000) only [hz, beq_self_eq_true, Bool.not_true, Bool.not_false, h24, z1, z2, hbc, hul, hut, List.drop_zero, push_cast, List.getD_cons_zero, List.getD_cons_succ, List.take_succ_cons, List.take_zero, List.drop_succ_cons, Nat.reduceLT, Nat.reduceLeDiff, Nat.reduceEqDiff, Nat.reduceAdd, Nat.reduceMul, Nat.reduceSub, Int.reduceToNat, Int.reduceLE, Int.reduceLT, Int.reduceEq, Int.reduceAdd, ↓reduceIte, decide_true, decide_false, and_self]
    refine call_intro hL2 (fun _ => ⟨rfl, fun T0 e => by cases e⟩) ?_
    have hio : ∀ l, intsOf (u8s l) = some l := intsOf_u8s
    have hu : ∀ l, inB l → u8n l = l := fun l h => u8n_eq h
    by_cases h24b : b.length < 24
    · have h24' : (b.length : Int) < 24 := by omega
      simp (maxSteps := 200000) only [hz, h24', beq_self_eq_true, Bool.not_true, Bool.not_false, h24, z1, z2, hbc, hul, hut, List.drop_zero, push_cast, List.getD_cons_zero, List.getD_cons_succ, List.take_succ_cons, List.take_zero, List.drop_succ_cons, Nat.reduceLT, Nat.reduceLeDiff, Nat.reduceEqDiff, Nat.reduceAdd, Nat.reduceMul, Nat.reduceSub, Int.reduceToNat, Int.reduceLE, Int.reduceLT, Int.reduceEq, Int.reduceAdd, ↓reduceIte, decide_true, decide_false, and_self]
      exact ⟨by kernel_rfl, okTr_of (by kernel_rfl), ⟨_, _, rfl, rfl, .refl _, rfl⟩⟩
    · have h24' : ¬ (b.length : Int) < 24 := by omega
      have htl : (b.take 24).length = 24 := by rw [List.length_take]; omega
      have hSb := rSound_c (b.take 24) (by omega)
      have hu24 := hu (b.take 24) (inB_take hl 24)
      have hio24 := hio (b.take 24)
      have hb24 : (24 : Int) ≤ (b.length : Int) := by omega
      cases hsb : soundL (b.take 24) with
      | false =>
        rw [hsb] at hSb
        simp (maxSteps := 200000) only [hz, h24', hb24, hio24, hu24, htl, beq_self_eq_true, Bool.not_true, Bool.not_false, h24, z1, z2, hbc, hul, hut, List.drop_zero, push_cast, List.getD_cons_zero, List.getD_cons_succ, List.take_succ_cons, List.take_zero, List.drop_succ_cons, Nat.reduceLT, Nat.reduceLeDiff, Nat.reduceEqDiff, Nat.reduceAdd, Nat.reduceMul, Nat.reduceSub, Int.reduceToNat, Int.reduceLE, Int.reduceLT, Int.reduceEq, Int.reduceAdd, ↓reduceIte, decide_true, decide_false, and_self]
        refine ⟨by kernel_rfl, ?_⟩
        refine call_introF hSb (fun h => by cases h) ?_
        simp (maxSteps := 200000) only [push_cast, List.getD_cons_zero, List.getD_cons_succ, List.take_succ_cons, List.take_zero, List.drop_succ_cons, Nat.reduceLT, Nat.reduceLeDiff, Nat.reduceEqDiff, Nat.reduceAdd, Nat.reduceMul, Nat.reduceSub, Int.reduceToNat, Int.reduceLE, Int.reduceLT, Int.reduceEq, Int.reduceAdd, ↓reduceIte, decide_true, decide_false, and_self]
        exact ⟨okTr_of (by kernel_rfl), ⟨_, _, rfl, rfl, .refl _, rfl⟩⟩
      | true =>
        rw [hsb] at hSb
        obtain ⟨p1, p2⟩ := hparts (by omega) hsb
        have q1 : ((b.take 12).drop 5).length = 7 := by simp; omega
        have q2 : ((b.take 24).drop 17).length = 7 := by simp; omega
        have r1 := hio ((b.take 12).drop 5)
        have r2 := hio ((b.take 24).drop 17)
        have r3 := hu ((b.take 12).drop 5) (inB_drop (inB_take hl 12) 5)
        have r4 := hu ((b.take 24).drop 17) (inB_drop (inB_take hl 24) 17)
        have hb12 : (12 : Int) ≤ (b.length : Int) := by omega
        have hst : s.take 24 = s := List.take_of_length_le (by omega)
        simp (maxSteps := 200000) only [hz, h24', hb24, hio24, hu24, htl, beq_self_eq_true, Bool.not_true, Bool.not_false, h24, z1, z2, hbc, hul, hut, List.drop_zero, push_cast, List.getD_cons_zero, List.getD_cons_succ, List.take_succ_cons, List.take_zero, List.drop_succ_cons, Nat.reduceLT, Nat.reduceLeDiff, Nat.reduceEqDiff, Nat.reduceAdd, Nat.reduceMul, Nat.reduceSub, Int.reduceToNat, Int.reduceLE, Int.reduceLT, Int.reduceEq, Int.reduceAdd, ↓reduceIte, decide_true, decide_false, and_self]
        refine ⟨by kernel_rfl, ?_⟩
        refine call_introF hSb (fun h => by cases h) ?_
        generalize hG1 : (b.take 12).drop 5 = G1 at *
        generalize hG2 : (b.take 24).drop 17 = G2 at *
        simp (maxSteps := 200000) only [h24, hb12, hb24, hst, p1, p2, q1, q2, hG1, hG2, r1, r2, r3, r4, beq_self_eq_true, push_cast, List.getD_cons_zero, List.getD_cons_succ, List.take_succ_cons, List.take_zero, List.drop_succ_cons, Nat.reduceLT, Nat.reduceLeDiff, Nat.reduceEqDiff, Nat.reduceAdd, Nat.reduceMul, Nat.reduceSub, Int.reduceToNat, Int.reduceLE, Int.reduceLT, Int.reduceEq, Int.reduceAdd, ↓reduceIte, decide_true, decide_false, and_self]
        exact ⟨okTr_of (by kernel_rfl), ⟨_, _, rfl, rfl, .refl _, rfl⟩⟩
end Go.Proofs.YteapibifebnboaaDoor
