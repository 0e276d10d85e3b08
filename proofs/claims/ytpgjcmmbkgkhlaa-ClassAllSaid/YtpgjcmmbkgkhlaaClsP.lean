/- Classes of marks: the two tables as plain lists, and that both give the same class. -/
import Derived.Test.YtpgjcmmbkgkhlaaEngT
import Derived.Test.YtpgjcmmbkgkhlaaE16
set_option linter.unusedVariables false
namespace Go.Proofs.Ytpgjcmmbkgkhlaa
open Go Go.Eng
abbrev Row4 := Int × Int × Int × Int
def tab : List Row4 := [(768, 788, 230, 0), (789, 789, 232, 0), (790, 793, 220, 0), (794, 794, 232, 0), (795, 795, 216, 0), (796, 800, 220, 0), (801, 802, 202, 0), (803, 806, 220, 0), (807, 808, 202, 0), (809, 819, 220, 0), (820, 824, 1, 0), (825, 828, 220, 0), (829, 836, 230, 0), (837, 837, 240, 0), (838, 838, 230, 0), (839, 841, 220, 0), (842, 844, 230, 0), (845, 846, 220, 0), (848, 850, 230, 0), (851, 854, 220, 0), (855, 855, 230, 0), (859, 859, 230, 0), (860, 860, 233, 0), (861, 862, 234, 0), (863, 863, 233, 0), (864, 865, 234, 0), (866, 866, 233, 0), (867, 879, 230, 0), (1456, 1464, 10, 1), (1465, 1466, 19, 0), (1467, 1467, 20, 0), (1468, 1468, 21, 0), (1469, 1469, 22, 0), (1471, 1471, 23, 0), (1473, 1473, 24, 0), (1474, 1474, 25, 0), (1611, 1618, 27, 1), (1619, 1620, 230, 0), (1621, 1622, 220, 0), (1648, 1648, 35, 0), (12441, 12442, 8, 0), (64286, 64286, 26, 0), (65056, 65059, 230, 0)]
def rtab : List Row4 := [(768, 788, 230, 0), (829, 836, 230, 0), (838, 838, 230, 0), (842, 844, 230, 0), (848, 850, 230, 0), (855, 855, 230, 0), (859, 859, 230, 0), (867, 879, 230, 0), (65056, 65059, 230, 0), (789, 789, 232, 0), (794, 794, 232, 0), (795, 795, 216, 0), (801, 802, 202, 0), (807, 808, 202, 0), (790, 793, 220, 0), (796, 800, 220, 0), (803, 806, 220, 0), (809, 819, 220, 0), (825, 828, 220, 0), (839, 841, 220, 0), (845, 846, 220, 0), (851, 854, 220, 0), (820, 824, 1, 0), (837, 837, 240, 0), (860, 860, 233, 0), (863, 863, 233, 0), (866, 866, 233, 0), (861, 862, 234, 0), (864, 865, 234, 0), (1456, 1464, 10, 1), (1465, 1466, 19, 0), (1467, 1467, 20, 0), (1468, 1468, 21, 0), (1469, 1469, 22, 0), (1471, 1471, 23, 0), (1473, 1473, 24, 0), (1474, 1474, 25, 0), (64286, 64286, 26, 0), (1611, 1618, 27, 1), (1619, 1620, 230, 0), (1621, 1622, 220, 0), (1648, 1648, 35, 0), (12441, 12442, 8, 0)]
def rowIn (x : Int) (s : Row4) : Bool := decide (s.1 ≤ x) && decide (x ≤ s.2.1)
def rowV (x : Int) (s : Row4) : Int := s.2.2.1 + s.2.2.2 * (x - s.1)
def cls (x : Int) : List Row4 → Int
  | [] => 0
  | s :: t => if rowIn x s = true then rowV x s else cls x t
def clsOf (x : Int) : Int := cls x tab
def rowGood (s : Row4) : Bool := decide (768 ≤ s.1) && decide (s.1 ≤ s.2.1) && decide (s.2.1 < 65072) && decide (0 ≤ s.2.2.1) && (s.2.2.2 == 0 || s.2.2.2 == 1) && decide (s.2.2.1 + s.2.2.2 * (s.2.1 - s.1) ≤ 240)
theorem tab_good : tab.all rowGood = true := by decide +kernel
theorem rtab_good : rtab.all rowGood = true := by decide +kernel
def apart (s t : Row4) : Bool := decide (s.2.1 < t.1) || decide (t.2.1 < s.1)
theorem tab_apart : tab.Pairwise (fun s t => apart s t = true) := by decide +kernel
theorem rtab_apart : rtab.Pairwise (fun s t => apart s t = true) := by decide +kernel
theorem tab_perm : tab.Perm rtab := by decide +kernel
theorem rowGood_out {s : Row4} (h : rowGood s = true) : 768 ≤ s.1 ∧ s.1 ≤ s.2.1 ∧ s.2.1 < 65072 ∧ 0 ≤ s.2.2.1 ∧ (s.2.2.2 = 0 ∨ s.2.2.2 = 1) ∧ s.2.2.1 + s.2.2.2 * (s.2.1 - s.1) ≤ 240 := by
  simp only [rowGood, Bool.and_eq_true, Bool.or_eq_true, decide_eq_true_eq, beq_iff_eq] at h
  exact ⟨h.1.1.1.1.1, h.1.1.1.1.2, h.1.1.1.2, h.1.1.2, h.1.2, h.2⟩
theorem rowIn_iff {x : Int} {s : Row4} : rowIn x s = true ↔ s.1 ≤ x ∧ x ≤ s.2.1 := by simp [rowIn]
theorem rowV_out {s : Row4} (h : rowGood s = true) {x : Int} (hi : rowIn x s = true) : 0 ≤ s.2.2.2 * (x - s.1) ∧ s.2.2.2 * (x - s.1) ≤ 65072 ∧ 0 ≤ rowV x s ∧ rowV x s ≤ 240 := by
  have h' := rowGood_out h
  have hi' := rowIn_iff.1 hi
  unfold rowV
  obtain ⟨a, b, c, d, e, f⟩ := h'
  rcases e with e | e <;> rw [e] at f ⊢ <;> omega
theorem cls_bounds (x : Int) : ∀ l : List Row4, (∀ s ∈ l, rowGood s = true) → 0 ≤ cls x l ∧ cls x l ≤ 240 ∧ (cls x l ≠ 0 → 768 ≤ x ∧ x < 65072)
  | [], _ => by simp [cls]
  | s :: t, h => by
    unfold cls
    split
    · rename_i hi
      have h0 := rowV_out (h s List.mem_cons_self) hi
      have h1 := rowGood_out (h s List.mem_cons_self)
      have h2 := rowIn_iff.1 hi
      exact ⟨h0.2.2.1, h0.2.2.2, fun _ => by omega⟩
    · exact cls_bounds x t (fun q hq => h q (List.mem_cons_of_mem _ hq))
/-- No order of the rows matters. -/
theorem cls_none {x : Int} : ∀ {l : List Row4}, (∀ s ∈ l, rowIn x s = false) → cls x l = 0
  | [], _ => rfl
  | s :: t, h => by unfold cls; rw [h s List.mem_cons_self]; exact cls_none (fun q hq => h q (List.mem_cons_of_mem _ hq))
theorem apart_not {x : Int} {s t : Row4} (h : apart s t = true) (hs : rowIn x s = true) : rowIn x t = false := by
  simp only [apart, rowIn, Bool.or_eq_true, Bool.and_eq_true, decide_eq_true_eq] at h hs
  rw [Bool.eq_false_iff]
  intro ht
  simp only [rowIn, Bool.and_eq_true, decide_eq_true_eq] at ht
  omega
theorem cls_mem {x : Int} : ∀ {l : List Row4}, l.Pairwise (fun s t => apart s t = true) → ∀ s ∈ l, rowIn x s = true → cls x l = rowV x s
  | [], _, s, h, _ => by cases h
  | q :: t, hp, s, h, hi => by
    have hp' := List.pairwise_cons.1 hp
    unfold cls
    rcases List.mem_cons.1 h with rfl | h
    · rw [if_pos hi]
    · split
      · rename_i hq
        have := apart_not (hp'.1 s h) hq
        rw [this] at hi; cases hi
      · exact cls_mem hp'.2 s h hi
theorem cls_eq (x : Int) : cls x rtab = clsOf x := by
  unfold clsOf
  by_cases h : ∃ s ∈ tab, rowIn x s = true
  · obtain ⟨s, hs, hi⟩ := h
    rw [cls_mem tab_apart s hs hi, cls_mem rtab_apart s (tab_perm.mem_iff.1 hs) hi]
  · have h' : ∀ s ∈ tab, rowIn x s = false := fun s hs => by
      cases e : rowIn x s with
      | false => rfl
      | true => exact absurd ⟨s, hs, e⟩ h
    rw [cls_none h', cls_none fun s hs => h' s (tab_perm.mem_iff.2 hs)]
theorem clsOf_bounds (x : Int) : 0 ≤ clsOf x ∧ clsOf x ≤ 240 ∧ (clsOf x ≠ 0 → 768 ≤ x ∧ x < 65072) := cls_bounds x tab (List.all_eq_true.1 tab_good)
/-- A row's cells. -/
def rcell (k : IntKind) (s : Row4) : List AV := [.int k s.1, .int k s.2.1, .int .i64 s.2.2.1, .int .i64 s.2.2.2]
def rcells (k : IntKind) (l : List Row4) : List AV := l.flatMap (rcell k)
theorem rcells_length (k : IntKind) : ∀ l, (rcells k l).length = l.length * 4
  | [] => rfl
  | s :: l => by have := rcells_length k l; simp only [rcells, List.flatMap_cons, List.length_append, List.length_cons] at this ⊢; rw [this]; simp [rcell]; omega
theorem rcells_drop (k : IntKind) : ∀ (l : List Row4) (i : Nat) (h : i < l.length), (rcells k l).drop (i * 4) = rcell k l[i] ++ (rcells k l).drop (i * 4 + 4)
  | s :: l, 0, h => by simp [rcells, rcell]
  | s :: l, i + 1, h => by
    have ih := rcells_drop k l i (by simpa using h)
    have e : ∀ m, (rcells k (s :: l)).drop (m + 4) = (rcells k l).drop m := fun m => by
      show (rcell k s ++ rcells k l).drop (m + 4) = _
      rw [List.drop_append, show (rcell k s).length = 4 from rfl, List.drop_of_length_le (by simp [rcell])]
      simp
    rw [Nat.succ_mul, e, ih, e]; rfl
theorem rcells_row (k : IntKind) (l : List Row4) (i : Nat) (h : i < l.length) : ((rcells k l).drop (i * 4)).take 4 = rcell k l[i] := by
  rw [rcells_drop k l i h, List.take_append_of_le_length (by simp [rcell])]; rfl
theorem rcells_get (k : IntKind) (l : List Row4) (i j : Nat) (h : i < l.length) (hj : j < 4) : (rcells k l).getD (i * 4 + j) .dead = (rcell k l[i]).getD j .dead := by
  have := rcells_drop k l i h
  rw [List.getD_eq_getElem?_getD, List.getD_eq_getElem?_getD, ← List.getElem?_drop, this, List.getElem?_append_left (by simp [rcell]; omega)]
theorem rcells_closed (k : IntKind) : ∀ l, closedL (rcells k l) = true
  | [] => rfl
  | s :: l => by have := rcells_closed k l; show closedL (rcell k s ++ rcells k l) = true; simp [rcell, closedL, AV.closed] at this ⊢; exact this
theorem rcells_noSl (k : IntKind) : ∀ l, noSlL (rcells k l) = true
  | [] => rfl
  | s :: l => by have := rcells_noSl k l; show noSlL (rcell k s ++ rcells k l) = true; simp [rcell, noSlL, AV.noSl] at this ⊢; exact this
end Go.Proofs.Ytpgjcmmbkgkhlaa
