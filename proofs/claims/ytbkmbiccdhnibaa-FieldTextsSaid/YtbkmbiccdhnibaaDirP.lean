/- dir: what the functions compute, as plain lists; no program in sight. -/
import Derived.Test.YtbkmbiccdhnibaaEngT
namespace Go.Proofs.Ytbkmbiccdhnibaa
open Go Go.Eng
def isTagC (c : Int) : Bool := decide (48 ≤ c ∧ c ≤ 57) || decide (65 ≤ c ∧ c ≤ 90) || decide (97 ≤ c ∧ c ≤ 122)
def goodTag (l : List Int) : Bool := l.all isTagC && l.length == 3
def isD (c : Int) : Bool := decide (48 ≤ c ∧ c ≤ 57)
def valOf (l : List Int) : Int := l.foldl (fun n c => 10 * n + (c - 48)) 0
def numOf (l : List Int) : Int × Bool := if l.all isD = true then (valOf l, true) else (0, false)
theorem getD_all {p : Int → Bool} {l : List Int} {i : Nat} (h : i < l.length) (hall : ∀ c ∈ l, p c = true) : p (l.getD i 0) = true := by
  simp [List.getD_eq_getElem?_getD, h, hall]
theorem take_succ_all {p : Int → Bool} {l : List Int} {i : Nat} (h : i < l.length) (hall : ∀ c ∈ l.take i, p c = true) (hp : p (l.getD i 0) = true) : ∀ c ∈ l.take (i + 1), p c = true := by
  intro c hc
  rw [List.take_add_one, List.mem_append] at hc
  rcases hc with hc | hc
  · exact hall c hc
  · rw [List.getElem?_eq_getElem h] at hc
    simp at hc
    rw [hc]
    simpa [List.getD_eq_getElem?_getD, h] using hp
theorem all_no {p : Int → Bool} {l : List Int} {i : Nat} (h : i < l.length) (hp : p (l.getD i 0) = false) : l.all p = false := by
  rw [List.all_eq_false]
  refine ⟨l.getD i 0, ?_, by rw [hp]; simp⟩
  simp [List.getD_eq_getElem?_getD, h]
theorem goodTag_no {l : List Int} {i : Nat} (h : i < l.length) (hp : isTagC (l.getD i 0) = false) : goodTag l = false := by
  unfold goodTag
  rw [all_no h hp]; rfl
theorem take_succ_getD {l : List Int} {i : Nat} (h : i < l.length) : l.take (i + 1) = l.take i ++ [l.getD i 0] := by
  rw [List.take_add_one, List.getElem?_eq_getElem h]
  simp [List.getD_eq_getElem?_getD, h]
theorem valOf_succ {l : List Int} {i : Nat} (h : i < l.length) : valOf (l.take (i + 1)) = 10 * valOf (l.take i) + (l.getD i 0 - 48) := by
  rw [take_succ_getD h, valOf, List.foldl_append]; rfl
theorem valOf_bound {l : List Int} : ∀ {i : Nat}, i ≤ l.length → (∀ c ∈ l.take i, isD c = true) → 0 ≤ valOf (l.take i) ∧ valOf (l.take i) < 10 ^ i
  | 0, _, _ => by simp [valOf]
  | i + 1, h, hall => by
    have hi : i < l.length := by omega
    have hall' : ∀ c ∈ l.take i, isD c = true := fun c hc => hall c (by rw [take_succ_getD hi]; exact List.mem_append_left _ hc)
    obtain ⟨h1, h2⟩ := valOf_bound (by omega) hall'
    have h3 : isD (l.getD i 0) = true := hall _ (by rw [take_succ_getD hi]; simp)
    simp only [isD, decide_eq_true_eq] at h3
    rw [valOf_succ hi, Int.pow_succ]
    omega
theorem valOf_small {l : List Int} {i : Nat} (h : i ≤ l.length) (h5 : l.length ≤ 5) (hall : ∀ c ∈ l.take i, isD c = true) : 0 ≤ valOf (l.take i) ∧ valOf (l.take i) < 100000 := by
  obtain ⟨h1, h2⟩ := valOf_bound h hall
  refine ⟨h1, Int.lt_of_lt_of_le h2 ?_⟩
  have : i = 0 ∨ i = 1 ∨ i = 2 ∨ i = 3 ∨ i = 4 ∨ i = 5 := by omega
  rcases this with h | h | h | h | h | h <;> subst h <;> decide
end Go.Proofs.Ytbkmbiccdhnibaa
