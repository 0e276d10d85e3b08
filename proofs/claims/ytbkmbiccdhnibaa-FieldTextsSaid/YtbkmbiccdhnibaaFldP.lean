/- field: what the functions compute, as plain lists; no program in sight. -/
import Derived.Test.YtbkmbiccdhnibaaDirP
import Derived.Test.YtbkmbiccdhnibaaE18
set_option linter.unusedVariables false
namespace Go.Proofs.Ytbkmbiccdhnibaa
open Go Go.Eng
def freeB (c : Int) : Bool := decide (c ≠ 29) && decide (c ≠ 30) && decide (c ≠ 31)
def codeB (c : Int) : Bool := decide (32 < c) && decide (c ≤ 126)
def indB (c : Int) : Bool := decide (32 ≤ c) && decide (c ≤ 126)
/-- The first byte that is not free; -1: there is none. -/
def badFrom : List Int → Nat → Int
  | [], _ => -1
  | c :: t, i => if freeB c = true then badFrom t (i + 1) else i
theorem badFrom_drop {l : List Int} {i : Nat} (h : i < l.length) : badFrom (l.drop i) i = if freeB (l.getD i 0) = true then badFrom (l.drop (i + 1)) (i + 1) else i := by
  rw [List.drop_eq_getElem_cons h, badFrom, List.getD_eq_getElem?_getD, List.getElem?_eq_getElem h]; rfl
theorem badFrom_range : ∀ (l : List Int) (i : Nat), badFrom l i = -1 ∨ ((i : Int) ≤ badFrom l i ∧ badFrom l i < i + l.length)
  | [], _ => .inl rfl
  | c :: t, i => by
    unfold badFrom
    split
    · rcases badFrom_range t (i + 1) with h | h
      · exact .inl h
      · exact .inr ⟨by omega, by rw [List.length_cons]; omega⟩
    · exact .inr ⟨by omega, by rw [List.length_cons]; omega⟩
abbrev SubV := Int × List Int
def sCells (s : SubV) : List AV := [.int .u8 s.1, .sl s.2.length (u8s s.2)]
def subCells (L : List SubV) : List AV := L.flatMap sCells
structure FV where
  tag : List Int
  text : List Int
  i0 : Int
  i1 : Int
  subs : List SubV
def fCells (f : FV) : List AV := [.str f.tag, .sl f.text.length (u8s f.text), .int .u8 f.i0, .int .u8 f.i1, .sl f.subs.length (subCells f.subs)]
def zeroF : FV := ⟨[], [], 0, 0, []⟩
/-- The subfield that bytes begin with: its code, its text, its bytes' number (-1: none), where it is none. -/
def oneOf (l : List Int) : Int × List Int × Int × Int :=
  if l.length < 1 ∨ l.getD 0 0 ≠ 31 then (0, [], -1, 0)
  else if l.length < 2 ∨ codeB (l.getD 1 0) = false then (0, [], -1, 1)
  else (l.getD 1 0, (l.drop 2).takeWhile freeB, (2 + ((l.drop 2).takeWhile freeB).length : Nat), 0)
/-- The subfields from 'at' on: where they are none (-1: they are), and they. -/
def subsP : Nat → List Int → Nat → Int × List SubV
  | 0, _, _ => (-1, [])
  | k + 1, rest, at_ =>
    let o := oneOf rest
    if o.2.2.1 < 0 then ((at_ : Int) + o.2.2.2, [])
    else if rest.length ≤ o.2.2.1.toNat then (-1, [(o.1, o.2.1)])
    else
      let r := subsP k (rest.drop o.2.2.1.toNat) (at_ + o.2.2.1.toNat)
      (r.1, (o.1, o.2.1) :: r.2)
def ctl (tag : List Int) : Bool := List.isPrefixOf [48, 48] tag
/-- The field of some bytes, or where they are none. -/
def fparse (tag b : List Int) : Sum Int FV :=
  if goodTag tag = false then .inl 0
  else if ctl tag = true then (if badFrom b 0 < 0 then .inr ⟨tag, b, 0, 0, []⟩ else .inl (badFrom b 0))
  else if b.length < 1 ∨ indB (b.getD 0 0) = false then .inl 0
  else if b.length < 2 ∨ indB (b.getD 1 0) = false then .inl 1
  else if (subsP (b.length + 1) (b.drop 2) 2).1 < 0 then .inr ⟨tag, [], b.getD 0 0, b.getD 1 0, (subsP (b.length + 1) (b.drop 2) 2).2⟩
  else .inl (subsP (b.length + 1) (b.drop 2) 2).1
def fres : Sum Int FV → AV
  | .inl a => .tup [.agg (fCells zeroF), .agg [.int .i64 12, .int .i64 a]]
  | .inr f => .tup [.agg (fCells f), .agg [.int .i64 0, .int .i64 0]]
theorem takeWhile_eq {p : Int → Bool} : ∀ {m : List Int} {k : Nat}, k ≤ m.length → (∀ c ∈ m.take k, p c = true) → (k = m.length ∨ p (m.getD k 0) = false) → m.takeWhile p = m.take k
  | [], k, hk, _, _ => by simp
  | c :: m, 0, hk, _, h => by
    rcases h with h | h
    · simp at h
    · simp only [List.getD_cons_zero] at h; simp [h]
  | c :: m, k + 1, hk, ha, h => by
    have hc : p c = true := ha c (by simp)
    rw [List.takeWhile_cons_of_pos hc, List.take_succ_cons, takeWhile_eq (k := k) (by simpa using hk) (fun d hd => ha d (by rw [List.take_succ_cons]; exact List.mem_cons_of_mem _ hd)) (by simpa using h)]
/-! ### Cells -/
theorem sub_tup {cs ds : List AV} (h : SubL cs ds) : Sub (.tup cs) (.tup ds) := .tup cs ds h.get.1 h.get.2
theorem sub_agg {cs ds : List AV} (h : SubL cs ds) : Sub (.agg cs) (.agg ds) := .agg cs ds h.get.1 h.get.2
theorem subCells_closed : ∀ L, closedL (subCells L) = true
  | [] => rfl
  | s :: L => by
    have := subCells_closed L
    show closedL (sCells s ++ subCells L) = true
    simp only [sCells, List.cons_append, List.nil_append, closedL, AV.closed, u8s_closed, Bool.and_true, Bool.true_and]
    exact this
theorem subCells_length : ∀ L : List SubV, (subCells L).length = L.length * 2
  | [] => rfl
  | s :: L => by
    show (sCells s ++ subCells L).length = _
    rw [List.length_append, subCells_length L, List.length_cons]; simp [sCells]; omega
theorem subCells_snoc (L : List SubV) (s : SubV) : subCells (L ++ [s]) = subCells L ++ sCells s := by simp [subCells]
end Go.Proofs.Ytbkmbiccdhnibaa
