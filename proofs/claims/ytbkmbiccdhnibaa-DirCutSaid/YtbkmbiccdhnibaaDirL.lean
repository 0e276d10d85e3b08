/- dir: entries and their bytes, as plain lists. -/
import Derived.Test.YtbkmbiccdhnibaaDirK
set_option linter.unusedVariables false
namespace Go.Proofs.Ytbkmbiccdhnibaa
open Go Go.Eng
abbrev Ent := List Int × Int × Int
def eCells (e : Ent) : List AV := [.str e.1, .int .i64 e.2.1, .int .i64 e.2.2]
def lCells (L : List Ent) : List AV := L.flatMap eCells
theorem flatMap_len {α β : Type} {f : α → List β} {s : Nat} : ∀ {l : List α}, (∀ a ∈ l, (f a).length = s) → (l.flatMap f).length = l.length * s
  | [], _ => by simp
  | a :: l, h => by
    rw [List.flatMap_cons, List.length_append, h a List.mem_cons_self, flatMap_len fun b hb => h b (List.mem_cons_of_mem _ hb), List.length_cons, Nat.succ_mul, Nat.add_comm]
theorem flatMap_drop {α β : Type} {f : α → List β} {s : Nat} : ∀ {l : List α} (i : Nat) (hi : i < l.length), (∀ a ∈ l, (f a).length = s) → (l.flatMap f).drop (i * s) = f l[i] ++ (l.flatMap f).drop (i * s + s)
  | [], i, hi, _ => by simp at hi
  | a :: l, 0, hi, h => by
    have := h a List.mem_cons_self
    rw [List.flatMap_cons]
    simp [← this]
  | a :: l, i + 1, hi, h => by
    have ha := h a List.mem_cons_self
    have ih := flatMap_drop (f := f) (l := l) i (by simpa using hi) fun b hb => h b (List.mem_cons_of_mem _ hb)
    have e : ∀ m, (f a ++ l.flatMap f).drop (m + s) = (l.flatMap f).drop m := fun m => by
      rw [List.drop_append, ha, List.drop_of_length_le (by omega), Nat.add_sub_cancel]; rfl
    rw [List.flatMap_cons, Nat.succ_mul, e, ih, e]; rfl
theorem flatMap_row {α β : Type} {f : α → List β} {s : Nat} {l : List α} (i : Nat) (hi : i < l.length) (h : ∀ a ∈ l, (f a).length = s) : ((l.flatMap f).drop (i * s)).take s = f l[i] := by
  have := h l[i] (List.getElem_mem hi)
  rw [flatMap_drop i hi h, List.take_append_of_le_length (by omega), List.take_of_length_le (by omega)]
theorem lCells_length (L : List Ent) : (lCells L).length = L.length * 3 := flatMap_len (s := 3) fun _ _ => rfl
theorem lCells_row (L : List Ent) (i : Nat) (hi : i < L.length) : ((lCells L).drop (i * 3)).take 3 = eCells L[i] := flatMap_row (s := 3) i hi fun _ _ => rfl
theorem lCells_get (L : List Ent) (i j : Nat) (hi : i < L.length) (hj : j < 3) : (lCells L).getD (i * 3 + j) .dead = (eCells L[i]).getD j .dead := by
  have := flatMap_drop (f := eCells) (s := 3) i hi fun _ _ => rfl
  unfold lCells
  rw [List.getD_eq_getElem?_getD, List.getD_eq_getElem?_getD, ← List.getElem?_drop, this, List.getElem?_append_left (by simp [eCells]; omega)]
theorem lCells_closed : ∀ L, closedL (lCells L) = true
  | [] => rfl
  | e :: L => by have := lCells_closed L; exact closedL_app rfl this
theorem lCells_noSl : ∀ L, noSlL (lCells L) = true
  | [] => rfl
  | e :: L => by have := lCells_noSl L; exact noSlL_app rfl this
def ebytes (e : Ent) : List Int := e.1 ++ fixedL 4 e.2.1 ++ fixedL 5 e.2.2
def pbytes (L : List Ent) : List Int := L.flatMap ebytes
def lens (L : List Ent) : Int := (L.map (·.2.1)).sum
def entOk (next : Int) (e : Ent) : Bool := goodTag e.1 && decide (1 ≤ e.2.1) && decide (e.2.1 ≤ 9999) && decide (e.2.2 = next) && decide (next ≤ 99999)
def pok : Int → List Ent → Bool
  | _, [] => true
  | next, e :: L => entOk next e && pok (next + e.2.1) L
theorem entOk_out {next : Int} {e : Ent} : entOk next e = true ↔ goodTag e.1 = true ∧ 1 ≤ e.2.1 ∧ e.2.1 ≤ 9999 ∧ e.2.2 = next ∧ next ≤ 99999 := by
  simp only [entOk, Bool.and_eq_true, decide_eq_true_eq, and_assoc]
theorem lens_cons (e : Ent) (L : List Ent) : lens (e :: L) = e.2.1 + lens L := by simp [lens]
theorem lens_take_succ (L : List Ent) (i : Nat) (hi : i < L.length) : lens (L.take (i + 1)) = lens (L.take i) + L[i].2.1 := by
  rw [List.take_add_one, List.getElem?_eq_getElem hi, lens, List.map_append, List.sum_append]
  simp [lens]
theorem pok_at : ∀ {L : List Ent} {next : Int}, pok next L = true → ∀ (i : Nat) (hi : i < L.length), entOk (next + lens (L.take i)) L[i] = true
  | [], _, _, i, hi => by simp at hi
  | e :: L, next, h, i, hi => by
    rw [pok, Bool.and_eq_true] at h
    cases i with
    | zero => simpa [lens] using h.1
    | succ i =>
      have := pok_at h.2 i (by simpa using hi)
      rw [List.take_succ_cons, lens_cons, ← Int.add_assoc]; exact this
theorem pok_of : ∀ {L : List Ent} {next : Int}, (∀ (i : Nat) (hi : i < L.length), entOk (next + lens (L.take i)) L[i] = true) → pok next L = true
  | [], _, _ => rfl
  | e :: L, next, h => by
    rw [pok, Bool.and_eq_true]
    refine ⟨by have h0 := h 0 (by simp); simpa [lens, List.getElem_cons_zero] using h0, pok_of fun i hi => ?_⟩
    have := h (i + 1) (by simpa using hi)
    rw [List.take_succ_cons, lens_cons, ← Int.add_assoc] at this; exact this
theorem goodTag_len {s : List Int} (h : goodTag s = true) : s.length = 3 := by
  simp only [goodTag, Bool.and_eq_true, beq_iff_eq] at h
  exact h.2
theorem goodTag_bytes {s : List Int} (h : goodTag s = true) : ∀ c ∈ s, 0 ≤ c ∧ c < 256 := by
  simp only [goodTag, Bool.and_eq_true] at h
  intro c hc
  have := List.all_eq_true.1 h.1 c hc
  simp only [isTagC, Bool.or_eq_true, decide_eq_true_eq] at this
  omega
theorem ebytes_len {e : Ent} (h : goodTag e.1 = true) : (ebytes e).length = 12 := by
  simp [ebytes, fixedL_length, goodTag_len h]
section
variable {L : List Ent} (h : pok 0 L = true)
include h
theorem pok_mem : ∀ e ∈ L, goodTag e.1 = true ∧ 1 ≤ e.2.1 ∧ e.2.1 ≤ 9999 ∧ 0 ≤ e.2.2 ∧ e.2.2 ≤ 99999 := by
  have hl : ∀ i, i ≤ L.length → 0 ≤ lens (L.take i) := by
    intro i
    induction i with
    | zero => intro _; simp [lens]
    | succ i ih =>
      intro hi
      have := entOk_out.1 (pok_at h i (by omega))
      rw [lens_take_succ L i (by omega)]
      have := ih (by omega)
      omega
  intro e he
  obtain ⟨i, hi, rfl⟩ := List.mem_iff_getElem.1 he
  have h1 := entOk_out.1 (pok_at h i hi)
  have h2 := hl i (by omega)
  exact ⟨h1.1, by omega, by omega, by omega, by omega⟩
theorem pbytes_len : (pbytes L).length = L.length * 12 := flatMap_len fun e he => ebytes_len (pok_mem h e he).1
theorem pbytes_bytes : ∀ c ∈ pbytes L, 0 ≤ c ∧ c < 256 := by
  intro c hc
  obtain ⟨e, he, hc⟩ := List.mem_flatMap.1 hc
  obtain ⟨h1, h2, h3, h4, h5⟩ := pok_mem h e he
  simp only [ebytes, List.mem_append] at hc
  rcases hc with (hc | hc) | hc
  · exact goodTag_bytes h1 c hc
  · exact fixedL_bytes _ _ (by omega) c hc
  · exact fixedL_bytes _ _ (by omega) c hc
theorem blk_pbytes (i : Nat) (hi : i < L.length) : blk (pbytes L) i = ebytes L[i] := by
  unfold blk
  rw [Nat.mul_comm]
  exact flatMap_row i hi fun e he => ebytes_len (pok_mem h e he).1
theorem ent_parts (e : Ent) (he : e ∈ L) : (ebytes e).take 3 = e.1 ∧ ((ebytes e).drop 3).take 4 = fixedL 4 e.2.1 ∧ ((ebytes e).drop 7).take 5 = fixedL 5 e.2.2 := by
  have h3 := goodTag_len (pok_mem h e he).1
  have h4 := fixedL_length 4 e.2.1
  have h5 := fixedL_length 5 e.2.2
  unfold ebytes
  generalize fixedL 4 e.2.1 = a at h4
  generalize fixedL 5 e.2.2 = b at h5
  generalize e.1 = t at h3
  refine ⟨?_, ?_, ?_⟩
  · rw [List.append_assoc, List.take_append_of_le_length (by omega), List.take_of_length_le (by omega)]
  · rw [List.append_assoc, List.drop_append, List.drop_of_length_le (by omega), h3, List.nil_append, Nat.sub_self, List.drop_zero, List.take_append_of_le_length (by omega), List.take_of_length_le (by omega)]
  · rw [List.drop_append, List.length_append, h3, h4, List.drop_of_length_le (by rw [List.length_append]; omega), List.nil_append, Nat.sub_self, List.drop_zero, List.take_of_length_le (by omega)]
theorem ent_nums (e : Ent) (he : e ∈ L) : lenOf (ebytes e) = e.2.1 ∧ offOf (ebytes e) = e.2.2 ∧ (entryOf (ebytes e)).2 = true ∧ entCells (ebytes e) = eCells e := by
  obtain ⟨p1, p2, p3⟩ := ent_parts h e he
  obtain ⟨h1, h2, h3, h4, h5⟩ := pok_mem h e he
  have n1 := numOf_fixed 4 e.2.1 (by omega) (by omega)
  have n2 := numOf_fixed 5 e.2.2 (by omega) (by omega)
  have a1 : lenOf (ebytes e) = e.2.1 := by unfold lenOf; rw [p2, n1]
  have a2 : offOf (ebytes e) = e.2.2 := by unfold offOf; rw [p3, n2]
  refine ⟨a1, a2, ?_, ?_⟩
  · simp only [entryOf, p1, p2, p3, n1, n2, h1, Bool.true_and]
    exact decide_eq_true (by omega)
  · unfold entCells
    rw [a1, a2, p1]; rfl
theorem base_pbytes : ∀ i, i ≤ L.length → base (pbytes L) i = lens (L.take i)
  | 0, _ => by simp [base, lens]
  | i + 1, hi => by
    rw [base, base_pbytes i (by omega), blk_pbytes h i (by omega), (ent_nums h _ (List.getElem_mem _)).1, lens_take_succ L i (by omega)]
theorem good_pbytes (i : Nat) (hi : i < L.length) : good (pbytes L) i = true := by
  obtain ⟨a1, a2, a3, a4⟩ := ent_nums h L[i] (List.getElem_mem hi)
  have hat := entOk_out.1 (pok_at h i hi)
  rw [good, blk_pbytes h i hi, a3, a2, base_pbytes h i (by omega), pbytes_len h]
  simp only [Bool.and_true, Bool.and_eq_true, decide_eq_true_eq]
  exact ⟨by omega, by omega⟩
theorem cells_pbytes : ∀ i, i ≤ L.length → cellsTo (pbytes L) i = lCells (L.take i)
  | 0, _ => rfl
  | i + 1, hi => by
    rw [cellsTo, cells_pbytes i (by omega), blk_pbytes h i (by omega), (ent_nums h _ (List.getElem_mem _)).2.2.2, List.take_add_one, List.getElem?_eq_getElem (by omega), lCells, lCells, List.flatMap_append]
    simp
end
theorem blk_take {b : List Int} {k i : Nat} (h : 12 * i + 12 ≤ k) : blk (b.take k) i = blk b i := by
  unfold blk
  rw [List.drop_take, List.take_take]; congr 1; omega
theorem base_take {b : List Int} {k : Nat} : ∀ i, 12 * i ≤ k → base (b.take k) i = base b i
  | 0, _ => rfl
  | i + 1, h => by rw [base, base, base_take i (by omega), blk_take (by omega)]
theorem good_take {b : List Int} {k i : Nat} (h : 12 * i + 12 ≤ k) (hk : k ≤ b.length) : good (b.take k) i = good b i := by
  unfold good
  rw [blk_take h, base_take i (by omega), List.length_take, Nat.min_eq_left hk]
  simp only [h, decide_true, Bool.true_and, show 12 * i + 12 ≤ b.length by omega]
end Go.Proofs.Ytbkmbiccdhnibaa
