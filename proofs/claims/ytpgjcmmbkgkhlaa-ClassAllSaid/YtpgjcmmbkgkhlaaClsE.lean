/- All marks: as the rows tell them, and as ref03.Marks finds them. -/
import Derived.Test.YtpgjcmmbkgkhlaaClsD
set_option linter.unusedVariables false
namespace Go.Proofs.Ytpgjcmmbkgkhlaa
open Go Go.Eng
def i32s (l : List Int) : List AV := l.map (AV.int .i32)
def rowL (s : Row4) (k : Nat) : List Int := (List.range k).map fun j : Nat => s.1 + (j : Int)
def rowN (s : Row4) : Nat := (s.2.1 + 1 - s.1).toNat
def allTo (i : Nat) : List Int := (tab.take i).flatMap fun s => rowL s (rowN s)
def allL : List Int := tab.flatMap fun s => rowL s (rowN s)
theorem rowL_succ (s : Row4) (k : Nat) : rowL s (k + 1) = rowL s k ++ [s.1 + (k : Int)] := by simp [rowL, List.range_succ]
theorem allTo_zero : allTo 0 = [] := rfl
theorem allTo_full : allTo 43 = allL := by unfold allTo; rw [List.take_of_length_le (Nat.le_of_eq tab_len)]; rfl
theorem allTo_succ (i : Nat) (h : i < tab.length) : allTo (i + 1) = allTo i ++ rowL tab[i] (rowN tab[i]) := by
  unfold allTo
  rw [List.take_add_one, List.getElem?_eq_getElem h, List.flatMap_append]
  simp only [Option.toList_some, List.flatMap_cons, List.flatMap_nil, List.append_nil]
def marksFrom : Nat → Int → List Int
  | 0, _ => []
  | k + 1, r =>
    if r < 65072 then
      let r1 := if r = 1024 then 1424 else r
      let r2 := if r1 = 1792 then 12432 else r1
      let r3 := if r2 = 12448 then 64256 else r2
      if 0 < clsOf r3 then r3 :: marksFrom k (r3 + 1) else marksFrom k (r3 + 1)
    else []
theorem marks_eq : marksFrom 64304 768 = allL := by decide +kernel
theorem marks_end {k : Nat} {r : Int} (h : ¬ r < 65072) : marksFrom k r = [] := by
  cases k with
  | zero => rfl
  | succ k => unfold marksFrom; rw [if_neg h]
def rising : List Int → Bool
  | a :: b :: l => decide (a < b) && rising (b :: l)
  | _ => true
theorem rising_get : ∀ {l : List Int}, rising l = true → ∀ (i : Nat), i + 1 < l.length → l.getD i 0 < l.getD (i + 1) 0
  | [], _, i, h => by simp at h
  | [a], _, i, h => by simp at h
  | a :: b :: l, hr, i, h => by
    simp only [rising, Bool.and_eq_true, decide_eq_true_eq] at hr
    cases i with
    | zero => simpa using hr.1
    | succ i => simpa using rising_get hr.2 i (by simpa using h)
theorem allL_rising : rising allL = true := by decide +kernel
theorem allL_len : allL.length = 145 := by decide +kernel
theorem tab_pos : tab.all (fun s => decide (0 < s.2.2.1)) = true := by decide +kernel
theorem mem_allL (r : Int) : r ∈ allL ↔ 0 < clsOf r := by
  have hrow : ∀ s ∈ tab, (r ∈ rowL s (rowN s) ↔ rowIn r s = true) := by
    intro s hs
    rw [rowIn_iff]
    simp only [rowL, rowN, List.mem_map, List.mem_range]
    constructor
    · rintro ⟨j, hj, rfl⟩; omega
    · intro h; exact ⟨(r - s.1).toNat, by omega, by omega⟩
  unfold allL
  rw [List.mem_flatMap]
  constructor
  · rintro ⟨s, hs, h⟩
    have hi := (hrow s hs).1 h
    unfold clsOf
    rw [cls_mem tab_apart s hs hi]
    have := rowV_out (List.all_eq_true.1 tab_good s hs) hi
    have hp := of_decide_eq_true (List.all_eq_true.1 tab_pos s hs)
    unfold rowV; omega
  · intro h
    apply Classical.byContradiction
    intro hn
    have : clsOf r = 0 := cls_none fun s hs => by
      rw [Bool.eq_false_iff]; intro hi
      exact hn ⟨s, hs, (hrow s hs).2 hi⟩
    omega
theorem i32s_length (l : List Int) : (i32s l).length = l.length := by simp [i32s]
theorem i32s_getD (l : List Int) (i : Nat) (h : i < l.length) : (i32s l).getD i .dead = .int .i32 (l.getD i 0) := by
  simp [i32s, List.getD_eq_getElem?_getD, h]
theorem i32s_append (l m : List Int) : i32s l ++ i32s m = i32s (l ++ m) := by simp [i32s]
theorem i32s_snoc (l : List Int) (x : Int) : i32s l ++ [.int .i32 x] = i32s (l ++ [x]) := by simp [i32s]
theorem i32s_closed : ∀ (l : List Int), closedL (i32s l) = true
  | [] => rfl
  | n :: l => by have := i32s_closed l; simp [i32s, closedL, AV.closed] at this ⊢; exact this
theorem i32s_noSl : ∀ (l : List Int), noSlL (i32s l) = true
  | [] => rfl
  | n :: l => by have := i32s_noSl l; simp [i32s, noSlL, AV.noSl] at this ⊢; exact this
attribute [push_cast] i32s_length i32s_snoc
end Go.Proofs.Ytpgjcmmbkgkhlaa
