/- field.Texts once more, with rows of one's own: bytes.Clone, what Texts answers. -/
import Derived.Test.YteapibifebnboaaGFe
import Derived.Test.YteapibifebnboaaE23
set_option linter.unusedVariables false
set_option linter.unusedSimpArgs false
namespace Go.Proofs.Yteapibifebnboaa
open Go Go.Eng
set_option maxRecDepth 100000 in
theorem Clone_s (l : List Int) (h0 : l ≠ []) (hl : l.length ≤ 140737488355328) (d nx : Nat) (hd : 1000 ≤ d) : SCall Try.prog 51 [.sl l.length (u8s l)] [] nx fun r tl' nx' => ∃ g, r = .own d g 0 l.length ∧ tl' = [(d, ⟨g, 1, u8s l⟩)] := by
  have hn : ¬ l.length = 0 := fun e => h0 (List.eq_nil_of_length_eq_zero e)
  refine scall_intro Try.func51 rfl (by kernel_rfl) (by simp [Try.f51]) ?_
  refine ex_run 9 ?_
  simp (maxSteps := 200000) only [Try.f51, isNilS, eqOf, hn, push_cast, List.getD_cons_zero, List.getD_cons_succ, List.take_succ_cons, List.take_zero, List.drop_succ_cons, Nat.reduceLT, Nat.reduceLeDiff, Nat.reduceEqDiff, Nat.reduceAdd, Nat.reduceMul, Nat.reduceSub, Int.reduceToNat, Int.reduceLE, Int.reduceLT, Int.reduceEq, Int.reduceAdd, ↓reduceIte, decide_true, decide_false, and_self]
  refine ⟨⟨by omega, by omega⟩, ?_⟩
  refine run_renew (l' := [(2, .own d _ 0 l.length)]) 5 d _ rfl (by omega) ⟨.own _ _, trivial⟩ ?_
  generalize nx + 1 + 2 + 4 = g
  refine run_keepF (l' := [(2, .own d g 0 l.length)]) (tl' := [(d, ⟨g, 1, u8s l⟩)]) (nx' := _) ⟨.refl _, trivial⟩ (fun i T' e => ?_) (Nat.le_refl _) ?_
  · rw [lkT_cons] at e
    by_cases hi : i = d
    · rw [if_pos hi] at e
      cases e
      exact ⟨_, by rw [hi, lkT_cons, if_pos rfl], rfl, rfl, SubL.refl _⟩
    · rw [if_neg hi] at e; cases e
  · refine ex_run 3 ?_
    simp (maxSteps := 200000) only [push_cast, List.getD_cons_zero, List.getD_cons_succ, List.take_succ_cons, List.take_zero, List.drop_succ_cons, Nat.reduceLT, Nat.reduceLeDiff, Nat.reduceEqDiff, Nat.reduceAdd, Nat.reduceMul, Nat.reduceSub, Int.reduceToNat, Int.reduceLE, Int.reduceLT, Int.reduceEq, Int.reduceAdd, ↓reduceIte, decide_true, decide_false, and_self]
    exact ⟨_, _, _, [.own d g 0 l.length], rfl, rfl, g, rfl, rfl⟩
theorem getD_app_l {α : Type} {cs ds : List α} {i : Nat} {d : α} (h : i < cs.length) : (cs ++ ds).getD i d = cs.getD i d := by
  rw [List.getD_eq_getElem?_getD, List.getD_eq_getElem?_getD, List.getElem?_append_left h]
theorem getD_app_r {α : Type} {cs : List α} {x d : α} {i : Nat} (h : cs.length = i) : (cs ++ [x]).getD i d = x := by
  subst h; simp [List.getD_eq_getElem?_getD]
/-- What Texts answers: a row of texts, each a row of its own (or empty). -/
structure TxOk (cs : List AV) (R : List (Nat × Tok)) (n : Nat) : Prop where
  len : cs.length = n
  row : ∀ t T, lkT R t = some T → 1001 ≤ t ∧ t < 1001 + n ∧ closedL T.cs = true
  cell : ∀ i, i < n → cs.getD i .dead = .sl 0 [] ∨ ∃ g b, b ≠ [] ∧ b.length ≤ 140737488355328 ∧ cs.getD i .dead = .own (1001 + i) g 0 b.length ∧ lkT R (1001 + i) = some ⟨g, 1, u8s b⟩
theorem TxOk.nil : TxOk [] [] 0 := ⟨rfl, fun t T h => (by cases h), fun i h => (by omega)⟩
theorem TxOk.none_ {cs : List AV} {R : List (Nat × Tok)} {n t : Nat} (h : TxOk cs R n) (ht : t < 1001 ∨ 1001 + n ≤ t) : lkT R t = none := by
  cases e : lkT R t with
  | none => rfl
  | some T => have := h.row t T e; omega
theorem TxOk.empty {cs : List AV} {R : List (Nat × Tok)} {n : Nat} (h : TxOk cs R n) : TxOk (cs ++ [.sl 0 []]) R (n + 1) := by
  refine ⟨by simp [h.len], fun t T e => by have := h.row t T e; exact ⟨this.1, by omega, this.2.2⟩, fun i hi => ?_⟩
  by_cases hlt : i < n
  · rw [getD_app_l (by rw [h.len]; exact hlt)]; exact h.cell i hlt
  · have : i = n := by omega
    subst this
    left
    exact getD_app_r h.len
theorem TxOk.full {cs : List AV} {R : List (Nat × Tok)} {n g : Nat} {b : List Int} (h : TxOk cs R n) (hb : b ≠ []) (hl : b.length ≤ 140737488355328) : TxOk (cs ++ [.own (1001 + n) g 0 b.length]) ((1001 + n, ⟨g, 1, u8s b⟩) :: R) (n + 1) := by
  refine ⟨by simp [h.len], fun t T e => ?_, fun i hi => ?_⟩
  · rw [lkT_cons] at e
    by_cases ht : t = 1001 + n
    · rw [if_pos ht] at e; cases e; exact ⟨by omega, by omega, u8s_closed b⟩
    · rw [if_neg ht] at e
      have := h.row t T e; exact ⟨this.1, by omega, this.2.2⟩
  · by_cases hlt : i < n
    · rw [getD_app_l (by rw [h.len]; exact hlt)]
      rcases h.cell i hlt with h1 | ⟨g', b', h1, h2, h3, h4⟩
      · exact .inl h1
      · exact .inr ⟨g', b', h1, h2, h3, by rw [lkT_cons, if_neg (by omega)]; exact h4⟩
    · have : i = n := by omega
      subst this
      right
      exact ⟨g, b, hb, hl, by exact getD_app_r h.len, by rw [lkT_cons, if_pos rfl]⟩
/-- One byte of one text is another one. -/
theorem TxOk.upd {cs : List AV} {R : List (Nat × Tok)} {n i g : Nat} {b b' : List Int} (h : TxOk cs R n) (hi : i < n) (hc : cs.getD i .dead = .own (1001 + i) g 0 b.length) (hb : b.length = b'.length) (h0 : b ≠ []) (hl : b.length ≤ 140737488355328) : TxOk cs ((1001 + i, ⟨g, 1, u8s b'⟩) :: R) n := by
  refine ⟨h.len, fun t T e => ?_, fun j hj => ?_⟩
  · rw [lkT_cons] at e
    by_cases ht : t = 1001 + i
    · rw [if_pos ht] at e; cases e; exact ⟨by omega, by omega, u8s_closed b'⟩
    · rw [if_neg ht] at e; exact h.row t T e
  · by_cases hji : j = i
    · subst hji
      right
      exact ⟨g, b', fun e => h0 (List.eq_nil_of_length_eq_zero (by rw [hb, e]; rfl)), by omega, by rw [hc, hb], by rw [lkT_cons, if_pos rfl]⟩
    · rcases h.cell j hj with h1 | ⟨g2, b2, h1, h2, h3, h4⟩
      · exact .inl h1
      · exact .inr ⟨g2, b2, h1, h2, h3, by rw [lkT_cons, if_neg (by omega)]; exact h4⟩
/-- Nothing of it names a row below 1000. -/
theorem TxOk.ref {cs : List AV} {R : List (Nat × Tok)} {n : Nat} (h : TxOk cs R n) {p : Nat → Bool} (hp : ∀ t, 1000 ≤ t → p t = true) : refOkL p cs = true := by
  have : ∀ (cs : List AV), (∀ i, i < cs.length → (cs.getD i .dead).refOk p = true) → refOkL p cs = true := by
    intro cs
    induction cs with
    | nil => intro _; rfl
    | cons x cs ih =>
      intro h
      simp only [refOkL, Bool.and_eq_true]
      exact ⟨by simpa using h 0 (by simp), ih fun i hi => by simpa using h (i + 1) (by simpa using hi)⟩
  refine this cs fun i hi => ?_
  rcases h.cell i (by rw [← h.len]; exact hi) with h1 | ⟨g, b, _, _, h3, _⟩
  · rw [h1]; rfl
  · rw [h3]; exact hp _ (by omega)
end Go.Proofs.Yteapibifebnboaa
