/- field: the subfields, byte by byte, as plain lists. -/
import Derived.Test.YtbkmbiccdhnibaaFldF
set_option linter.unusedVariables false
namespace Go.Proofs.Ytbkmbiccdhnibaa
open Go Go.Eng
theorem drop_getD (b : List Int) (a i : Nat) : (b.drop a).getD i 0 = b.getD (a + i) 0 := by
  rw [List.getD_eq_getElem?_getD, List.getElem?_drop, ← List.getD_eq_getElem?_getD]
def txt (b : List Int) (at_ i : Nat) : List Int := (b.drop (at_ + 2)).take (i - at_ - 2)
theorem txt_length {b : List Int} {at_ i : Nat} (h : i ≤ b.length) (h2 : at_ + 2 ≤ i) : (txt b at_ i).length = i - at_ - 2 := by
  unfold txt; rw [List.length_take, List.length_drop]; omega
theorem txt_nil (b : List Int) (at_ : Nat) : txt b at_ (at_ + 2) = [] := by
  unfold txt; rw [show at_ + 2 - at_ - 2 = 0 by omega]; rfl
theorem txt_succ {b : List Int} {at_ i : Nat} (h : i < b.length) (h2 : at_ + 2 ≤ i) : txt b at_ (i + 1) = txt b at_ i ++ [b.getD i 0] := by
  unfold txt
  rw [show i + 1 - at_ - 2 = (i - at_ - 2) + 1 by omega, take_succ_getD (by rw [List.length_drop]; omega), drop_getD, show at_ + 2 + (i - at_ - 2) = i by omega]
theorem oneOf_bad0 {b : List Int} {at_ : Nat} (h : b.length ≤ at_ ∨ b.getD at_ 0 ≠ 31) : oneOf (b.drop at_) = (0, [], -1, 0) := by
  unfold oneOf
  rw [if_pos]
  rw [List.length_drop, drop_getD, Nat.add_zero]
  rcases h with h | h
  · exact .inl (by omega)
  · exact .inr h
theorem oneOf_bad1 {b : List Int} {at_ : Nat} (h0 : at_ < b.length) (h1 : b.getD at_ 0 = 31) (h : b.length ≤ at_ + 1 ∨ codeB (b.getD (at_ + 1) 0) = false) : oneOf (b.drop at_) = (0, [], -1, 1) := by
  unfold oneOf
  rw [if_neg, if_pos]
  · rw [List.length_drop, drop_getD]
    rcases h with h | h
    · exact .inl (by omega)
    · exact .inr h
  · rw [List.length_drop, drop_getD, Nat.add_zero]
    rintro (h | h)
    · omega
    · exact h h1
theorem oneOf_done {b : List Int} {at_ i : Nat} (h1 : b.getD at_ 0 = 31) (h2 : at_ + 2 ≤ i) (h3 : i ≤ b.length) (hc : codeB (b.getD (at_ + 1) 0) = true) (hall : ∀ c ∈ txt b at_ i, freeB c = true) (hend : i = b.length ∨ freeB (b.getD i 0) = false) :
    oneOf (b.drop at_) = (b.getD (at_ + 1) 0, txt b at_ i, ((2 + (txt b at_ i).length : Nat) : Int), 0) := by
  have htw : ((b.drop at_).drop 2).takeWhile freeB = txt b at_ i := by
    rw [List.drop_drop]
    refine takeWhile_eq (by rw [List.length_drop]; omega) hall ?_
    rcases hend with h | h
    · exact .inl (by rw [List.length_drop]; omega)
    · exact .inr (by rw [drop_getD, show at_ + 2 + (i - at_ - 2) = i by omega]; exact h)
  unfold oneOf
  rw [if_neg, if_neg, htw, drop_getD]
  · rw [List.length_drop, drop_getD]
    rintro (h | h)
    · omega
    · rw [hc] at h; cases h
  · rw [List.length_drop, drop_getD, Nat.add_zero]
    rintro (h | h)
    · omega
    · exact h h1
theorem SubInv.done {b : List Int} {at_ i : Nat} {acc : List SubV} (h : SubInv b at_ acc) (h1 : b.getD at_ 0 = 31) (h2 : at_ + 2 ≤ i) (h3 : i ≤ b.length) (hc : codeB (b.getD (at_ + 1) 0) = true) (hall : ∀ c ∈ txt b at_ i, freeB c = true) (hend : i = b.length ∨ freeB (b.getD i 0) = false) :
    SubInv b i (acc ++ [(b.getD (at_ + 1) 0, txt b at_ i)]) := by
  have hl := txt_length h3 h2
  have := h.next (.inl (by omega)) (oneOf_done h1 h2 h3 hc hall hend) (by rw [hl, List.length_drop]; omega)
  rw [hl, show at_ + (2 + (i - at_ - 2)) = i by omega] at this
  exact this
/-! ### The second loop, by its phases -/
structure PhA (b : List Int) (i at_ : Nat) (acc : List SubV) : Prop where
  inv : SubInv b at_ acc
  pos : i = at_ + 1
  lt : at_ < b.length
  c31 : b.getD at_ 0 = 31
  more : at_ = 2 ∨ i < b.length
structure PhB (b : List Int) (i at_ : Nat) (acc : List SubV) : Prop where
  inv : SubInv b at_ acc
  pos : at_ + 2 ≤ i
  le : i ≤ b.length
  c31 : b.getD at_ 0 = 31
  code : codeB (b.getD (at_ + 1) 0) = true
  all : ∀ c ∈ txt b at_ i, freeB c = true
theorem PhA.next {b : List Int} {i at_ : Nat} {acc : List SubV} (h : PhA b i at_ acc) (hl : i < b.length) (hc : codeB (b.getD i 0) = true) : PhB b (i + 1) at_ acc := by
  have := h.pos
  subst this
  exact ⟨h.inv, by omega, by omega, h.c31, hc, by rw [show at_ + 1 + 1 = at_ + 2 from rfl, txt_nil]; intro c hc; cases hc⟩
theorem PhA.bad {b : List Int} {i at_ : Nat} {acc : List SubV} (h : PhA b i at_ acc) (hb : b.length ≤ i ∨ codeB (b.getD i 0) = false) : (subs0 b).1 = (i : Int) := by
  have e := h.pos
  subst e
  have := h.inv.bad (.inl h.lt) (oneOf_bad1 h.lt h.c31 hb)
  rw [this]; omega
theorem PhB.step {b : List Int} {i at_ : Nat} {acc : List SubV} (h : PhB b i at_ acc) (hl : i < b.length) (hf : freeB (b.getD i 0) = true) : PhB b (i + 1) at_ acc :=
  ⟨h.inv, by have := h.pos; omega, by omega, h.c31, h.code, by
    rw [txt_succ hl h.pos]
    intro c hc
    rcases List.mem_append.1 hc with hc | hc
    · exact h.all c hc
    · rw [List.mem_singleton] at hc; subst hc; exact hf⟩
theorem PhB.bad {b : List Int} {i at_ : Nat} {acc : List SubV} (h : PhB b i at_ acc) (hl : i < b.length) (hf : freeB (b.getD i 0) = false) (h31 : b.getD i 0 ≠ 31) : (subs0 b).1 = (i : Int) := by
  have hp := h.pos
  have := (h.inv.done h.c31 h.pos h.le h.code h.all (.inr hf)).bad (.inl hl) (oneOf_bad0 (.inr h31))
  rw [this]; omega
theorem free31 : freeB 31 = false := rfl
theorem PhB.toA {b : List Int} {i at_ : Nat} {acc : List SubV} (h : PhB b i at_ acc) (hl : i + 1 < b.length) (h31 : b.getD i 0 = 31) : PhA b (i + 1) i (acc ++ [(b.getD (at_ + 1) 0, txt b at_ i)]) :=
  ⟨h.inv.done h.c31 h.pos h.le h.code h.all (.inr (by rw [h31]; rfl)), rfl, by omega, h31, .inr hl⟩
theorem PhB.last31 {b : List Int} {i at_ : Nat} {acc : List SubV} (h : PhB b i at_ acc) (hl : i + 1 = b.length) (h31 : b.getD i 0 = 31) : (subs0 b).1 = ((i + 1 : Nat) : Int) := by
  have := (h.inv.done h.c31 h.pos h.le h.code h.all (.inr (by rw [h31]; rfl))).bad (.inl (by omega)) (oneOf_bad1 (by omega) h31 (.inl (by omega)))
  rw [this]; omega
theorem PhB.fin {b : List Int} {i at_ : Nat} {acc : List SubV} (h : PhB b i at_ acc) (hl : i = b.length) : subs0 b = (-1, acc ++ [(b.getD (at_ + 1) 0, txt b at_ i)]) := by
  have hp := h.pos
  have h2 := h.inv.two
  exact (h.inv.done h.c31 h.pos h.le h.code h.all (.inl hl)).fin (by omega)
theorem subs0_bad2 {b : List Int} (h2 : 2 ≤ b.length) (h : b.length ≤ 2 ∨ b.getD 2 0 ≠ 31) : (subs0 b).1 = 2 := by
  have := (SubInv.start h2).bad (.inr rfl) (oneOf_bad0 h)
  rw [this]; rfl
theorem PhA.start {b : List Int} (h2 : 2 < b.length) (h : b.getD 2 0 = 31) : PhA b 3 2 [] := ⟨SubInv.start (by omega), rfl, h2, h, .inl rfl⟩
end Go.Proofs.Ytbkmbiccdhnibaa
