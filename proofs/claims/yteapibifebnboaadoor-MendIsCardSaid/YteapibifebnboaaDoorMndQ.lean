/- A piece's subfields, byte by byte. -/
import Derived.Test.YteapibifebnboaaDoorMndK
set_option linter.unusedVariables false
set_option linter.unusedSimpArgs false
namespace Go.Proofs.YteapibifebnboaaDoor
open Go Go.Eng
def addLast : List SubV → Int → List SubV
  | [], _ => []
  | [s], c => [(s.1, s.2 ++ [c])]
  | s :: q :: A, c => s :: addLast (q :: A) c
theorem addLast_snoc : ∀ (A : List SubV) (x : Int) (u : List Int) (c : Int), addLast (A ++ [(x, u)]) c = A ++ [(x, u ++ [c])]
  | [], x, u, c => rfl
  | [s], x, u, c => rfl
  | s :: q :: A, x, u, c => by
    have := addLast_snoc (q :: A) x u c
    show s :: addLast ((q :: A) ++ [(x, u)]) c = _
    rw [this]; rfl
/-- The subfields of bytes: what may stand there yet, whether one is open, those that are made. -/
def pcGo : List Int → Nat → Bool → List SubV → List SubV
  | [], _, _, A => A
  | [c], r, op, A => if c = 31 then A else if op = true ∧ 0 < r then addLast A c else A
  | c :: d :: t, r, op, A =>
    if c = 31 then
      if d = 31 then pcGo (d :: t) r false A
      else if r < 2 then A
      else if codeB d = true then pcGo t (r - 2) true (A ++ [(d, [])])
      else pcGo (d :: t) (r - 2) true (A ++ [(97, [])])
    else if op = true ∧ 0 < r then pcGo (d :: t) (r - 1) op (addLast A c) else pcGo (d :: t) r op A
theorem pcGo_one (c : Int) (r : Nat) (op : Bool) (A : List SubV) : pcGo [c] r op A = if c = 31 then A else if op = true ∧ 0 < r then addLast A c else A := by rw [pcGo]
theorem pcGo_two (c d : Int) (t : List Int) (r : Nat) (op : Bool) (A : List SubV) : pcGo (c :: d :: t) r op A =
    if c = 31 then
      if d = 31 then pcGo (d :: t) r false A
      else if r < 2 then A
      else if codeB d = true then pcGo t (r - 2) true (A ++ [(d, [])])
      else pcGo (d :: t) (r - 2) true (A ++ [(97, [])])
    else if op = true ∧ 0 < r then pcGo (d :: t) (r - 1) op (addLast A c) else pcGo (d :: t) r op A := by rw [pcGo]
theorem pcGo_nil (r : Nat) (op : Bool) (A : List SubV) : pcGo [] r op A = A := by rw [pcGo]
theorem pcGo_text (c : Int) (t : List Int) (r : Nat) (A : List SubV) (h : c ≠ 31) : pcGo (c :: t) r true A = if 0 < r then pcGo t (r - 1) true (addLast A c) else pcGo t r true A := by
  cases t with
  | nil => rw [pcGo_one, if_neg h, pcGo_nil, pcGo_nil]; simp
  | cons d t => rw [pcGo_two, if_neg h]; simp
theorem pcGo_open : ∀ (p q : List Int) (r : Nat) (A : List SubV) (x : Int) (u : List Int), (∀ c ∈ p, c ≠ 31) →
    pcGo (p ++ q) r true (A ++ [(x, u)]) = pcGo q (r - (p.take r).length) true (A ++ [(x, u ++ p.take r)])
  | [], q, r, A, x, u, _ => by simp
  | c :: p, q, r, A, x, u, h => by
    rw [List.cons_append, pcGo_text _ _ _ _ (h c (List.mem_cons_self ..))]
    cases r with
    | zero =>
      rw [if_neg (by omega), pcGo_open p q 0 A x u fun c hc => h c (List.mem_cons_of_mem _ hc)]; simp
    | succ r =>
      rw [if_pos (by omega), addLast_snoc, Nat.add_sub_cancel, pcGo_open p q r A x (u ++ [c]) fun c hc => h c (List.mem_cons_of_mem _ hc)]
      rw [List.take_succ_cons, List.length_cons, List.append_assoc, show r + 1 - ((p.take r).length + 1) = r - (p.take r).length by omega]; rfl
theorem splitL_app {c : Int} : ∀ (q r : List Int), (∀ x ∈ q, x ≠ c) → (r = [] ∨ r.head? = some c) → splitL c (q ++ r) = q :: (splitL c r).tail
  | [], r, _, h => by
    rcases h with rfl | h
    · rfl
    · cases r with
      | nil => cases h
      | cons y t => cases h; rw [List.nil_append, splitL, if_pos rfl]; rfl
  | x :: q, r, hq, h => by
    rw [List.cons_append, splitL, if_neg (hq x (List.mem_cons_self ..)), splitL_app q r (fun y hy => hq y (List.mem_cons_of_mem _ hy)) h]
theorem split_at (c : Int) (l : List Int) : ∃ q r, l = q ++ r ∧ (∀ x ∈ q, x ≠ c) ∧ (r = [] ∨ r.head? = some c) := by
  refine ⟨upTo c l, l.drop (upTo c l).length, ?_, fun x hx => upTo_no hx, ?_⟩
  · conv => lhs; rw [← List.take_append_drop (upTo c l).length l, upTo_take]
  · induction l with
    | nil => exact .inl rfl
    | cons y t ih =>
      by_cases e : y = c
      · right
        have : upTo c (y :: t) = [] := by unfold upTo; rw [List.takeWhile_cons_of_neg (by simp [e])]
        rw [this, e]; rfl
      · have : upTo c (y :: t) = y :: upTo c t := by unfold upTo; rw [List.takeWhile_cons_of_pos (by simpa using e)]
        rw [this]
        exact ih
theorem pcGo_closed : ∀ (n : Nat) (r : List Int) (k : Nat) (op : Bool) (A : List SubV), r.length ≤ n → (r = [] ∨ r.head? = some 31) →
    pcGo r k op A = A ++ capS k ((splitL 31 r).tail.flatMap subOf)
  | _, [], k, op, A, _, _ => by rw [pcGo_nil]; simp [splitL, capS]
  | 0, c :: t, _, _, _, h, _ => by simp at h
  | n + 1, c :: s, k, op, A, hn, h => by
    have hc : c = 31 := h.elim (fun h => by cases h) (fun h => by cases h; rfl)
    subst hc
    have hs : (splitL 31 (31 :: s)).tail = splitL 31 s := by rw [splitL, if_pos rfl]; rfl
    rw [hs]
    cases s with
    | nil => rw [pcGo_one, if_pos rfl]; simp [splitL, subOf, capS]
    | cons d t =>
      rw [pcGo_two, if_pos rfl]
      by_cases hd : d = 31
      · subst hd
        rw [if_pos rfl, pcGo_closed n (31 :: t) k false A (by simpa using hn) (.inr rfl)]
        rw [show splitL 31 (31 :: t) = [] :: splitL 31 t by rw [splitL, if_pos rfl], List.flatMap_cons]; rfl
      · rw [if_neg hd]
        obtain ⟨q, r, hqr, hq, hr⟩ := split_at 31 t
        have hsp : splitL 31 (d :: t) = (d :: q) :: (splitL 31 r).tail := by
          rw [hqr, ← List.cons_append]
          exact splitL_app (d :: q) r (fun x hx => (List.mem_cons.1 hx).elim (fun e => by rw [e]; exact hd) (fun hx => hq x hx)) hr
        have hrl : r.length ≤ n := by
          have := congrArg List.length hqr
          rw [List.length_append] at this
          simp at hn; omega
        rw [hsp, List.flatMap_cons]
        by_cases hk : k < 2
        · rw [if_pos hk]
          by_cases hcd : codeB d = true
          · rw [show subOf (d :: q) = [(d, q)] by show (if codeB d = true then _ else _) = _; rw [if_pos hcd]]
            rw [List.cons_append, capS, if_pos hk, List.append_nil]
          · rw [show subOf (d :: q) = [(97, d :: q)] by show (if codeB d = true then _ else _) = _; rw [if_neg hcd]]
            rw [List.cons_append, capS, if_pos hk, List.append_nil]
        · rw [if_neg hk]
          by_cases hcd : codeB d = true
          · rw [if_pos hcd, show subOf (d :: q) = [(d, q)] by show (if codeB d = true then _ else _) = _; rw [if_pos hcd]]
            rw [List.cons_append, capS, if_neg hk, hqr, pcGo_open q r (k - 2) A d [] hq, pcGo_closed n r _ true _ hrl hr]
            simp
          · rw [if_neg hcd, show subOf (d :: q) = [(97, d :: q)] by show (if codeB d = true then _ else _) = _; rw [if_neg hcd]]
            rw [List.cons_append, capS, if_neg hk, hqr, ← List.cons_append]
            rw [pcGo_open (d :: q) r (k - 2) A 97 [] (fun x hx => (List.mem_cons.1 hx).elim (fun e => by rw [e]; exact hd) (fun hx => hq x hx)), pcGo_closed n r _ true _ hrl hr]
            simp
/-- How the subfields begin. -/
def pcAll (r : List Int) : List SubV := if r = [] ∨ r.head? = some 31 then pcGo r 9996 false [] else pcGo r 9994 true [(97, [])]
theorem pcAll_eq (r : List Int) : pcAll r = capS 9996 (subsM r) := by
  unfold pcAll subsM
  by_cases h : r = [] ∨ r.head? = some 31
  · rw [if_pos h, pcGo_closed r.length r _ _ _ (Nat.le_refl _) h, List.nil_append]
    have : (splitL 31 r).headD [] = [] := by
      have := splitL_app (c := 31) [] r (fun x hx => by cases hx) h
      rw [List.nil_append] at this
      rw [this]; rfl
    rw [this]; rfl
  · rw [if_neg h]
    obtain ⟨q, t, hqt, hq, ht⟩ := split_at 31 r
    have hq0 : q ≠ [] := fun e => by rw [e, List.nil_append] at hqt; rw [hqt] at h; exact h ht
    have hsp := splitL_app (c := 31) q t hq ht
    rw [← hqt] at hsp
    rw [hsp]
    show _ = capS 9996 (subHd q ++ (splitL 31 t).tail.flatMap subOf)
    rw [show subHd q = [(97, q)] from if_neg hq0, List.cons_append, capS, if_neg (by omega), List.nil_append]
    have := pcGo_open q t 9994 [] 97 [] hq
    rw [List.nil_append] at this
    rw [hqt, this, pcGo_closed t.length t _ _ _ (Nat.le_refl _) ht]
    simp
end Go.Proofs.YteapibifebnboaaDoor
