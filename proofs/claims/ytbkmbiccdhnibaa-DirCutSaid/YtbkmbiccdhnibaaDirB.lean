/- dir: blocks of a directory, as plain lists. -/
import Derived.Test.YtbkmbiccdhnibaaDirE
set_option linter.unusedVariables false
namespace Go.Proofs.Ytbkmbiccdhnibaa
open Go Go.Eng
def blk (l : List Int) (j : Nat) : List Int := (l.drop (12 * j)).take 12
def lenOf (b : List Int) : Int := (numOf ((b.drop 3).take 4)).1
def offOf (b : List Int) : Int := (numOf ((b.drop 7).take 5)).1
def base (l : List Int) : Nat → Int
  | 0 => 0
  | j + 1 => base l j + lenOf (blk l j)
def good (l : List Int) (j : Nat) : Bool := decide (12 * j + 12 ≤ l.length) && (entryOf (blk l j)).2 && decide (offOf (blk l j) = base l j)
def entCells (b : List Int) : List AV := [.str (b.take 3), .int .i64 (lenOf b), .int .i64 (offOf b)]
def cellsTo (l : List Int) : Nat → List AV
  | 0 => []
  | j + 1 => cellsTo l j ++ entCells (blk l j)
theorem cellsTo_length (l : List Int) : ∀ i, (cellsTo l i).length = i * 3
  | 0 => rfl
  | i + 1 => by rw [cellsTo, List.length_append, cellsTo_length l i, entCells]; simp; omega
theorem cellsTo_closed (l : List Int) : ∀ i, closedL (cellsTo l i) = true
  | 0 => rfl
  | i + 1 => by
    have h := cellsTo_closed l i
    rw [cellsTo]
    have : ∀ (a : List AV), closedL a = true → closedL (a ++ entCells (blk l i)) = true := by
      intro a
      induction a with
      | nil => intro _; rfl
      | cons x a ih => intro h; rw [closedL, Bool.and_eq_true] at h; rw [List.cons_append, closedL, Bool.and_eq_true]; exact ⟨h.1, ih h.2⟩
    exact this _ h
theorem numOf_small (l : List Int) (h : l.length ≤ 5) : 0 ≤ (numOf l).1 ∧ (numOf l).1 < 100000 := by
  unfold numOf
  split
  · rename_i hh
    have := valOf_small (l := l) (i := l.length) (Nat.le_refl _) h (by rw [List.take_length]; exact fun c hc => List.all_eq_true.1 hh c hc)
    rw [List.take_length] at this; exact this
  · simp
theorem lenOf_small (b : List Int) : 0 ≤ lenOf b ∧ lenOf b < 100000 := numOf_small _ (by simp; omega)
theorem base_small (l : List Int) : ∀ i, 0 ≤ base l i ∧ base l i ≤ 100000 * i
  | 0 => by simp [base]
  | i + 1 => by
    have h1 := base_small l i
    have h2 := lenOf_small (blk l i)
    simp only [base]
    omega
end Go.Proofs.Ytbkmbiccdhnibaa
