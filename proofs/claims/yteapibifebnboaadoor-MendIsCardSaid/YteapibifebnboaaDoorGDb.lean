/- GDb: the texts DirJ, DirK, DirL, DirM, one behind the other. -/
import Derived.Test.YteapibifebnboaaDoorGDa
import Derived.Test.YteapibifebnboaaDoorGEc
set_option linter.unusedVariables false
set_option linter.unusedSimpArgs false

/- The law DirParses: at every argument it returns true. -/
set_option linter.unusedVariables false
set_option linter.unusedSimpArgs false
namespace Go.Proofs.YteapibifebnboaaDoor
open Go Go.Eng
theorem noSlL_app : ∀ {a b : List AV}, noSlL a = true → noSlL b = true → noSlL (a ++ b) = true
  | [], b, _, h => h
  | x :: a, b, h, k => by
    rw [noSlL, Bool.and_eq_true] at h
    rw [List.cons_append, noSlL, Bool.and_eq_true]; exact ⟨h.1, noSlL_app h.2 k⟩
theorem closedL_app : ∀ {a b : List AV}, closedL a = true → closedL b = true → closedL (a ++ b) = true
  | [], b, _, h => h
  | x :: a, b, h, k => by
    rw [closedL, Bool.and_eq_true] at h
    rw [List.cons_append, closedL, Bool.and_eq_true]; exact ⟨h.1, closedL_app h.2 k⟩
theorem cellsTo_noSl (l : List Int) : ∀ i, noSlL (cellsTo l i) = true
  | 0 => rfl
  | i + 1 => noSlL_app (cellsTo_noSl l i) rfl
theorem cellsTo_drop (l : List Int) (i : Nat) : ∀ n, i < n → (cellsTo l n).drop (i * 3) = entCells (blk l i) ++ (cellsTo l n).drop (i * 3 + 3)
  | 0, h => by omega
  | n + 1, h => by
    rw [cellsTo, List.drop_append, List.drop_append, cellsTo_length]
    by_cases e : i = n
    · subst e
      rw [List.drop_of_length_le (by rw [cellsTo_length]; omega), show (cellsTo l i).drop (i * 3 + 3) = [] from List.drop_of_length_le (by rw [cellsTo_length]; omega)]
      rw [show i * 3 - i * 3 = 0 by omega, show i * 3 + 3 - i * 3 = 3 by omega]
      rfl
    · rw [cellsTo_drop l i n (by omega), List.append_assoc, show i * 3 - n * 3 = 0 by omega, show i * 3 + 3 - n * 3 = 0 by omega]
theorem cellsTo_row (l : List Int) (i n : Nat) (h : i < n) : ((cellsTo l n).drop (i * 3)).take 3 = entCells (blk l i) := by
  rw [cellsTo_drop l i n h]; rfl
/-- Either all blocks are good, or there is a first one that is not. -/
theorem scan (l : List Int) : (∃ j, 12 * j < l.length ∧ good l j = false ∧ ∀ i, i < j → good l i = true) ∨ ∃ n, l.length = 12 * n ∧ ∀ i, i < n → good l i = true := by
  have key : ∀ m, (∃ j, j < m ∧ 12 * j < l.length ∧ good l j = false ∧ ∀ i, i < j → good l i = true) ∨ ∀ i, i < m → 12 * i < l.length → good l i = true := by
    intro m
    induction m with
    | zero => exact .inr fun i hi => by omega
    | succ m ih =>
      rcases ih with ⟨j, h1, h2⟩ | h
      · exact .inl ⟨j, by omega, h2⟩
      · by_cases h12 : 12 * m < l.length
        · cases hg : good l m with
          | false => exact .inl ⟨m, by omega, h12, hg, fun i hi => h i hi (by omega)⟩
          | true =>
            refine .inr fun i hi hl => ?_
            by_cases e : i = m
            · subst e; exact hg
            · exact h i (by omega) hl
        · refine .inr fun i hi hl => ?_
          exact h i (by omega) hl
  rcases key (l.length + 1) with ⟨j, _, h⟩ | h
  · exact .inl ⟨j, h⟩
  · refine .inr ⟨l.length / 12, ?_, fun i hi => h i (by omega) (by omega)⟩
    by_cases e : l.length = 12 * (l.length / 12)
    · exact e
    · exfalso
      have hg := h (l.length / 12) (by omega) (by omega)
      simp only [good, Bool.and_eq_true, decide_eq_true_eq] at hg
      omega
def jS (b : List Int) (n i nx : Nat) : AS := mkS [(0, .sl b.length (u8s b)), (2, .bool false), (3, .own 16 7 0 n), (5, .own 21 15 0 n), (7, .int .i64 i)] [(16, ⟨7, 3, cellsTo b n⟩), (21, ⟨15, 3, cellsTo b n⟩)] nx
theorem opensBytes {H : Type} : Opens Tryd.prog H 22 fun xs => ∃ l : List Int, (∀ c ∈ l, 0 ≤ c ∧ c < 256) ∧ l.length ≤ maxLen ∧ xs = [.sl l.length (u8s l)] :=
  opens_bytes Tryd.underlying22 Tryd.underlying5 (by kernel_rfl)
end Go.Proofs.YteapibifebnboaaDoor

/- dir: what is printed, as plain lists; dir.fixed. -/
set_option linter.unusedVariables false
set_option linter.unusedSimpArgs false
namespace Go.Proofs.YteapibifebnboaaDoor
open Go Go.Eng
/-- A number's last digits. -/
def fixedL : Nat → Int → List Int
  | 0, _ => []
  | k + 1, n => fixedL k (n / 10) ++ [48 + n % 10]
theorem fixedL_length : ∀ k n, (fixedL k n).length = k
  | 0, _ => rfl
  | k + 1, n => by rw [fixedL, List.length_append, fixedL_length k]; rfl
theorem fixedL_digits : ∀ k n, 0 ≤ n → (fixedL k n).all isD = true
  | 0, _, _ => rfl
  | k + 1, n, h => by
    rw [fixedL, List.all_append, fixedL_digits k (n / 10) (by omega)]
    simp [isD]; omega
theorem fixedL_val : ∀ k n, 0 ≤ n → n < 10 ^ k → valOf (fixedL k n) = n
  | 0, n, h, h2 => by simp at h2; simp [fixedL, valOf]; omega
  | k + 1, n, h, h2 => by
    rw [Int.pow_succ] at h2
    rw [fixedL, valOf, List.foldl_append, ← valOf, fixedL_val k (n / 10) (by omega) (by omega)]
    simp; omega
theorem numOf_fixed (k : Nat) (n : Int) (h : 0 ≤ n) (h2 : n < 10 ^ k) : numOf (fixedL k n) = (n, true) := by
  unfold numOf
  rw [if_pos (fixedL_digits k n h), fixedL_val k n h h2]
theorem fixedL_bytes : ∀ k n, 0 ≤ n → ∀ c ∈ fixedL k n, 0 ≤ c ∧ c < 256 := by
  intro k n h c hc
  have := List.all_eq_true.1 (fixedL_digits k n h) c hc
  simp only [isD, decide_eq_true_eq] at this
  omega
theorem rep_set {α : Type} (k : Nat) (z x : α) (t : List α) : (List.replicate (k + 1) z ++ t).set k x = List.replicate k z ++ (x :: t) := by
  rw [List.replicate_succ', List.append_assoc]
  have := set_app (List.replicate k z) z t x
  rw [List.length_replicate] at this
  exact this
def fS (n : Int) (sz : Nat) (m : Int) (j nx : Nat) (tail : List Int) : AS := mkS [(0, .int .i64 m), (1, .int .i64 sz), (5, .own 8 2 0 sz), (6, .int .i64 ((j : Int) - 1))] [(8, ⟨2, 1, List.replicate j (.int .u8 0) ++ u8s tail⟩)] nx
set_option maxRecDepth 100000 in
set_option maxHeartbeats 4000000 in
theorem fixed_c (n : Int) (sz : Nat) (hn : 0 ≤ n ∧ n ≤ 9223372036854775807) (hs : sz ≤ 1000) : ACall Tryd.prog 71 [.int .i64 n, .int .i64 sz] (.str (fixedL sz n)) none := by
  have hz : zrep [.int .u8 0] sz = List.replicate sz (.int .u8 0) := by
    unfold zrep
    apply List.ext_getElem
    · simp
    · intro i h1 h2
      simp [Nat.mod_one]
  refine acall_intro none Tryd.func71 rfl (by kernel_rfl) (by simp [Tryd.f71]) ?_
  refine ex_run 30 ?_
  simp (maxSteps := 200000) only [Tryd.f71, hz, push_cast, List.getD_cons_zero, List.getD_cons_succ, List.take_succ_cons, List.take_zero, List.drop_succ_cons, Nat.reduceLT, Nat.reduceLeDiff, Nat.reduceEqDiff, Nat.reduceAdd, Nat.reduceMul, Nat.reduceSub, Int.reduceToNat, Int.reduceLE, Int.reduceLT, Int.reduceEq, Int.reduceAdd, ↓reduceIte, decide_true, decide_false, and_self]
  have w1 : IntKind.i64.wrap ((sz : Int) - 1) = (sz : Int) - 1 := wrap_i64 (by omega)
  rw [w1]
  refine ⟨⟨by omega, by omega⟩, ?_⟩
  refine run_keep (l' := [(0, .int .i64 n), (1, .int .i64 sz), (5, .own 8 2 0 sz), (6, .int .i64 ((sz : Int) - 1))]) (t' := [(8, ⟨2, 1, List.replicate sz (.int .u8 0)⟩)]) (nx' := _) ⟨.refl _, .refl _, .refl _, .refl _, trivial⟩ ⟨⟨_, rfl, rfl, rfl, SubL.refl _⟩, trivial⟩ (Nat.le_refl _) ?_
  refine run_loop (fun v s => ∃ (j nx : Nat) (m : Int) (tail : List Int), j ≤ sz ∧ v = j ∧ 0 ≤ m ∧ m ≤ 9223372036854775807 ∧ fixedL j m ++ tail = fixedL sz n ∧ s = fS n sz m j nx tail) _ ⟨sz, _, n, [], Nat.le_refl _, rfl, hn.1, hn.2, List.append_nil _, by simp [fS, u8s]; rfl⟩ ?_
  rintro j s ⟨_, nx, m, tail, hj, rfl, hm0, hm1, hfix, rfl⟩
  have htl : tail.length = sz - j := by
    have := congrArg List.length hfix
    rw [List.length_append, fixedL_length, fixedL_length] at this; omega
  unfold fS
  cases j with
  | zero =>
    rw [show (((0 : Nat) : Int) - 1) = -1 from rfl]
    have hb : u8n tail = tail := u8n_eq fun c hc => fixedL_bytes sz n hn.1 c (by rw [← hfix]; exact List.mem_append_right _ hc)
    have htk : List.take sz tail = tail := List.take_of_length_le (by omega)
    refine ex_run 30 ?_
    simp (maxSteps := 200000) only [List.replicate_zero, htk, hb, push_cast, List.getD_cons_zero, List.getD_cons_succ, List.take_succ_cons, List.take_zero, List.drop_succ_cons, Nat.reduceLT, Nat.reduceLeDiff, Nat.reduceEqDiff, Nat.reduceAdd, Nat.reduceMul, Nat.reduceSub, Int.reduceToNat, Int.reduceLE, Int.reduceLT, Int.reduceEq, Int.reduceAdd, ↓reduceIte, decide_true, decide_false, and_self]
    refine ⟨by omega, ?_⟩
    have e : tail = fixedL sz n := by rw [← hfix]; rfl
    exact ⟨_, _, rfl, rfl, .of_eq (by rw [e]; rfl), rfl⟩
  | succ j =>
    have e0 : (((j + 1 : Nat) : Int) - 1) = (j : Int) := by omega
    rw [e0]
    have h1 : (0 : Int) ≤ (j : Int) := by omega
    have h2 : (j : Int) < (sz : Int) := by omega
    have e1 : m.tmod 10 = m % 10 := Int.tmod_eq_emod_of_nonneg hm0
    have e2 : m.tdiv 10 = m / 10 := Int.tdiv_eq_ediv_of_nonneg hm0
    have w2 : IntKind.i64.wrap (48 + m % 10) = 48 + m % 10 := wrap_i64 (by omega)
    have w3 : IntKind.u8.wrap (48 + m % 10) = 48 + m % 10 := IntWalk.u8_in _ (by omega)
    have w4 : IntKind.i64.wrap (m / 10) = m / 10 := wrap_i64 (by omega)
    have w5 : IntKind.i64.wrap ((j : Int) - 1) = (j : Int) - 1 := wrap_i64 (by omega)
    have hlen : (List.replicate (j + 1) (AV.int .u8 0) ++ u8s tail).length = sz := by rw [List.length_append, List.length_replicate, u8s_length]; omega
    have hset : (List.replicate (j + 1) (AV.int .u8 0) ++ u8s tail).set j (.int .u8 (48 + m % 10)) = List.replicate j (.int .u8 0) ++ u8s ((48 + m % 10) :: tail) := rep_set j _ _ _
    have hle : j + 1 ≤ sz := by omega
    refine ex_run 30 ?_
    simp (maxSteps := 200000) only [h1, h2, e1, e2, w2, w3, w4, w5, hlen, hset, hle, push_cast, List.getD_cons_zero, List.getD_cons_succ, List.take_succ_cons, List.take_zero, List.drop_succ_cons, Nat.reduceLT, Nat.reduceLeDiff, Nat.reduceEqDiff, Nat.reduceAdd, Nat.reduceMul, Nat.reduceSub, Int.reduceToNat, Int.reduceLE, Int.reduceLT, Int.reduceEq, Int.reduceAdd, ↓reduceIte, decide_true, decide_false, and_self]
    refine ⟨by decide, by decide, ?_⟩
    refine run_back_le (le_mk (l' := [(0, .int .i64 (m / 10)), (1, .int .i64 sz), (5, .own 8 2 0 sz), (6, .int .i64 ((j : Int) - 1))]) (t' := [(8, ⟨2, 1, List.replicate j (.int .u8 0) ++ u8s ((48 + m % 10) :: tail)⟩)]) (nx' := _)
      ⟨.refl _, .refl _, .refl _, .refl _, trivial⟩ ⟨⟨_, rfl, rfl, rfl, SubL.refl _⟩, trivial⟩ (Nat.le_refl _)) ?_
    exact ⟨j, by omega, j, _, m / 10, (48 + m % 10) :: tail, by omega, rfl, by omega, by omega, by rw [← hfix, fixedL, List.append_assoc]; rfl, rfl⟩
end Go.Proofs.YteapibifebnboaaDoor

/- dir: entries and their bytes, as plain lists. -/
set_option linter.unusedVariables false
namespace Go.Proofs.YteapibifebnboaaDoor
open Go Go.Eng
abbrev Ent := List Int × Int × Int
def eCells (e : Ent) : List AV := [.str e.1, .int .i64 e.2.1, .int .i64 e.2.2]
def lCells (L : List Ent) : List AV := L.flatMap eCells
theorem flatMap_len {α β : Type} {f : α → List β} {s : Nat} : ∀ {l : List α}, (∀ a ∈ l, (f a).length = s) → (l.flatMap f).length = l.length * s
  | [], _ => by simp
  | a :: l, h => by
    rw [List.flatMap_cons, List.length_append, h a List.mem_cons_self, flatMap_len fun b hb => h b (List.mem_cons_of_mem _ hb), List.length_cons, Nat.succ_mul, Nat.add_comm]
theorem flatMap_drop {α β : Type} {f : α → List β} {s : Nat} : ∀ {l : List α} (i : Nat) (hi : i < l.length), (∀ a ∈ l, (f a).length = s) → (l.flatMap f).drop (i * s) = f l[i] ++ (l.flatMap f).drop (i * s + s)
  | [], i, hi, _ => by simp at hi
  | a :: l, 0, hi, h => by
    have := h a List.mem_cons_self
    rw [List.flatMap_cons]
    simp [← this]
  | a :: l, i + 1, hi, h => by
    have ha := h a List.mem_cons_self
    have ih := flatMap_drop (f := f) (l := l) i (by simpa using hi) fun b hb => h b (List.mem_cons_of_mem _ hb)
    have e : ∀ m, (f a ++ l.flatMap f).drop (m + s) = (l.flatMap f).drop m := fun m => by
      rw [List.drop_append, ha, List.drop_of_length_le (by omega), Nat.add_sub_cancel]; rfl
    rw [List.flatMap_cons, Nat.succ_mul, e, ih, e]; rfl
theorem flatMap_row {α β : Type} {f : α → List β} {s : Nat} {l : List α} (i : Nat) (hi : i < l.length) (h : ∀ a ∈ l, (f a).length = s) : ((l.flatMap f).drop (i * s)).take s = f l[i] := by
  have := h l[i] (List.getElem_mem hi)
  rw [flatMap_drop i hi h, List.take_append_of_le_length (by omega), List.take_of_length_le (by omega)]
theorem lCells_length (L : List Ent) : (lCells L).length = L.length * 3 := flatMap_len (s := 3) fun _ _ => rfl
theorem lCells_row (L : List Ent) (i : Nat) (hi : i < L.length) : ((lCells L).drop (i * 3)).take 3 = eCells L[i] := flatMap_row (s := 3) i hi fun _ _ => rfl
theorem lCells_get (L : List Ent) (i j : Nat) (hi : i < L.length) (hj : j < 3) : (lCells L).getD (i * 3 + j) .dead = (eCells L[i]).getD j .dead := by
  have := flatMap_drop (f := eCells) (s := 3) i hi fun _ _ => rfl
  unfold lCells
  rw [List.getD_eq_getElem?_getD, List.getD_eq_getElem?_getD, ← List.getElem?_drop, this, List.getElem?_append_left (by simp [eCells]; omega)]
theorem lCells_closed : ∀ L, closedL (lCells L) = true
  | [] => rfl
  | e :: L => by have := lCells_closed L; exact closedL_app rfl this
theorem lCells_noSl : ∀ L, noSlL (lCells L) = true
  | [] => rfl
  | e :: L => by have := lCells_noSl L; exact noSlL_app rfl this
def ebytes (e : Ent) : List Int := e.1 ++ fixedL 4 e.2.1 ++ fixedL 5 e.2.2
def pbytes (L : List Ent) : List Int := L.flatMap ebytes
def lens (L : List Ent) : Int := (L.map (·.2.1)).sum
def entOk (next : Int) (e : Ent) : Bool := goodTag e.1 && decide (1 ≤ e.2.1) && decide (e.2.1 ≤ 9999) && decide (e.2.2 = next) && decide (next ≤ 99999)
def pok : Int → List Ent → Bool
  | _, [] => true
  | next, e :: L => entOk next e && pok (next + e.2.1) L
theorem entOk_out {next : Int} {e : Ent} : entOk next e = true ↔ goodTag e.1 = true ∧ 1 ≤ e.2.1 ∧ e.2.1 ≤ 9999 ∧ e.2.2 = next ∧ next ≤ 99999 := by
  simp only [entOk, Bool.and_eq_true, decide_eq_true_eq, and_assoc]
theorem lens_cons (e : Ent) (L : List Ent) : lens (e :: L) = e.2.1 + lens L := by simp [lens]
theorem lens_take_succ (L : List Ent) (i : Nat) (hi : i < L.length) : lens (L.take (i + 1)) = lens (L.take i) + L[i].2.1 := by
  rw [List.take_add_one, List.getElem?_eq_getElem hi, lens, List.map_append, List.sum_append]
  simp [lens]
theorem pok_at : ∀ {L : List Ent} {next : Int}, pok next L = true → ∀ (i : Nat) (hi : i < L.length), entOk (next + lens (L.take i)) L[i] = true
  | [], _, _, i, hi => by simp at hi
  | e :: L, next, h, i, hi => by
    rw [pok, Bool.and_eq_true] at h
    cases i with
    | zero => simpa [lens] using h.1
    | succ i =>
      have := pok_at h.2 i (by simpa using hi)
      rw [List.take_succ_cons, lens_cons, ← Int.add_assoc]; exact this
theorem pok_of : ∀ {L : List Ent} {next : Int}, (∀ (i : Nat) (hi : i < L.length), entOk (next + lens (L.take i)) L[i] = true) → pok next L = true
  | [], _, _ => rfl
  | e :: L, next, h => by
    rw [pok, Bool.and_eq_true]
    refine ⟨by have h0 := h 0 (by simp); simpa [lens, List.getElem_cons_zero] using h0, pok_of fun i hi => ?_⟩
    have := h (i + 1) (by simpa using hi)
    rw [List.take_succ_cons, lens_cons, ← Int.add_assoc] at this; exact this
theorem goodTag_len {s : List Int} (h : goodTag s = true) : s.length = 3 := by
  simp only [goodTag, Bool.and_eq_true, beq_iff_eq] at h
  exact h.2
theorem goodTag_bytes {s : List Int} (h : goodTag s = true) : ∀ c ∈ s, 0 ≤ c ∧ c < 256 := by
  simp only [goodTag, Bool.and_eq_true] at h
  intro c hc
  have := List.all_eq_true.1 h.1 c hc
  simp only [isTagC, Bool.or_eq_true, decide_eq_true_eq] at this
  omega
theorem ebytes_len {e : Ent} (h : goodTag e.1 = true) : (ebytes e).length = 12 := by
  simp [ebytes, fixedL_length, goodTag_len h]
section
variable {L : List Ent} (h : pok 0 L = true)
include h
theorem pok_mem : ∀ e ∈ L, goodTag e.1 = true ∧ 1 ≤ e.2.1 ∧ e.2.1 ≤ 9999 ∧ 0 ≤ e.2.2 ∧ e.2.2 ≤ 99999 := by
  have hl : ∀ i, i ≤ L.length → 0 ≤ lens (L.take i) := by
    intro i
    induction i with
    | zero => intro _; simp [lens]
    | succ i ih =>
      intro hi
      have := entOk_out.1 (pok_at h i (by omega))
      rw [lens_take_succ L i (by omega)]
      have := ih (by omega)
      omega
  intro e he
  obtain ⟨i, hi, rfl⟩ := List.mem_iff_getElem.1 he
  have h1 := entOk_out.1 (pok_at h i hi)
  have h2 := hl i (by omega)
  exact ⟨h1.1, by omega, by omega, by omega, by omega⟩
theorem pbytes_len : (pbytes L).length = L.length * 12 := flatMap_len fun e he => ebytes_len (pok_mem h e he).1
theorem pbytes_bytes : ∀ c ∈ pbytes L, 0 ≤ c ∧ c < 256 := by
  intro c hc
  obtain ⟨e, he, hc⟩ := List.mem_flatMap.1 hc
  obtain ⟨h1, h2, h3, h4, h5⟩ := pok_mem h e he
  simp only [ebytes, List.mem_append] at hc
  rcases hc with (hc | hc) | hc
  · exact goodTag_bytes h1 c hc
  · exact fixedL_bytes _ _ (by omega) c hc
  · exact fixedL_bytes _ _ (by omega) c hc
theorem blk_pbytes (i : Nat) (hi : i < L.length) : blk (pbytes L) i = ebytes L[i] := by
  unfold blk
  rw [Nat.mul_comm]
  exact flatMap_row i hi fun e he => ebytes_len (pok_mem h e he).1
theorem ent_parts (e : Ent) (he : e ∈ L) : (ebytes e).take 3 = e.1 ∧ ((ebytes e).drop 3).take 4 = fixedL 4 e.2.1 ∧ ((ebytes e).drop 7).take 5 = fixedL 5 e.2.2 := by
  have h3 := goodTag_len (pok_mem h e he).1
  have h4 := fixedL_length 4 e.2.1
  have h5 := fixedL_length 5 e.2.2
  unfold ebytes
  generalize fixedL 4 e.2.1 = a at h4
  generalize fixedL 5 e.2.2 = b at h5
  generalize e.1 = t at h3
  refine ⟨?_, ?_, ?_⟩
  · rw [List.append_assoc, List.take_append_of_le_length (by omega), List.take_of_length_le (by omega)]
  · rw [List.append_assoc, List.drop_append, List.drop_of_length_le (by omega), h3, List.nil_append, Nat.sub_self, List.drop_zero, List.take_append_of_le_length (by omega), List.take_of_length_le (by omega)]
  · rw [List.drop_append, List.length_append, h3, h4, List.drop_of_length_le (by rw [List.length_append]; omega), List.nil_append, Nat.sub_self, List.drop_zero, List.take_of_length_le (by omega)]
theorem ent_nums (e : Ent) (he : e ∈ L) : lenOf (ebytes e) = e.2.1 ∧ offOf (ebytes e) = e.2.2 ∧ (entryOf (ebytes e)).2 = true ∧ entCells (ebytes e) = eCells e := by
  obtain ⟨p1, p2, p3⟩ := ent_parts h e he
  obtain ⟨h1, h2, h3, h4, h5⟩ := pok_mem h e he
  have n1 := numOf_fixed 4 e.2.1 (by omega) (by omega)
  have n2 := numOf_fixed 5 e.2.2 (by omega) (by omega)
  have a1 : lenOf (ebytes e) = e.2.1 := by unfold lenOf; rw [p2, n1]
  have a2 : offOf (ebytes e) = e.2.2 := by unfold offOf; rw [p3, n2]
  refine ⟨a1, a2, ?_, ?_⟩
  · simp only [entryOf, p1, p2, p3, n1, n2, h1, Bool.true_and]
    exact decide_eq_true (by omega)
  · unfold entCells
    rw [a1, a2, p1]; rfl
theorem base_pbytes : ∀ i, i ≤ L.length → base (pbytes L) i = lens (L.take i)
  | 0, _ => by simp [base, lens]
  | i + 1, hi => by
    rw [base, base_pbytes i (by omega), blk_pbytes h i (by omega), (ent_nums h _ (List.getElem_mem _)).1, lens_take_succ L i (by omega)]
theorem good_pbytes (i : Nat) (hi : i < L.length) : good (pbytes L) i = true := by
  obtain ⟨a1, a2, a3, a4⟩ := ent_nums h L[i] (List.getElem_mem hi)
  have hat := entOk_out.1 (pok_at h i hi)
  rw [good, blk_pbytes h i hi, a3, a2, base_pbytes h i (by omega), pbytes_len h]
  simp only [Bool.and_true, Bool.and_eq_true, decide_eq_true_eq]
  exact ⟨by omega, by omega⟩
theorem cells_pbytes : ∀ i, i ≤ L.length → cellsTo (pbytes L) i = lCells (L.take i)
  | 0, _ => rfl
  | i + 1, hi => by
    rw [cellsTo, cells_pbytes i (by omega), blk_pbytes h i (by omega), (ent_nums h _ (List.getElem_mem _)).2.2.2, List.take_add_one, List.getElem?_eq_getElem (by omega), lCells, lCells, List.flatMap_append]
    simp
end
theorem blk_take {b : List Int} {k i : Nat} (h : 12 * i + 12 ≤ k) : blk (b.take k) i = blk b i := by
  unfold blk
  rw [List.drop_take, List.take_take]; congr 1; omega
theorem base_take {b : List Int} {k : Nat} : ∀ i, 12 * i ≤ k → base (b.take k) i = base b i
  | 0, _ => rfl
  | i + 1, h => by rw [base, base, base_take i (by omega), blk_take (by omega)]
theorem good_take {b : List Int} {k i : Nat} (h : 12 * i + 12 ≤ k) (hk : k ≤ b.length) : good (b.take k) i = good b i := by
  unfold good
  rw [blk_take h, base_take i (by omega), List.length_take, Nat.min_eq_left hk]
  simp only [h, decide_true, Bool.true_and, show 12 * i + 12 ≤ b.length by omega]
end Go.Proofs.YteapibifebnboaaDoor

/- dir.Print -/
set_option linter.unusedVariables false
set_option linter.unusedSimpArgs false
namespace Go.Proofs.YteapibifebnboaaDoor
open Go Go.Eng
theorem fixed_n (n : Int) (sz : Nat) (k : Int) (hk : k = sz) (hn : 0 ≤ n ∧ n ≤ 9223372036854775807) (hs : sz ≤ 1000) : ACall Tryd.prog 71 [.int .i64 n, .int .i64 k] (.str (fixedL sz n)) none := by
  subst hk; exact fixed_c n sz hn hs
theorem lens_nonneg : ∀ {L : List Ent}, (∀ e ∈ L, 1 ≤ e.2.1) → 0 ≤ lens L
  | [], _ => by simp [lens]
  | e :: L, h => by
    have := lens_nonneg fun e he => h e (List.mem_cons_of_mem _ he)
    have := h e List.mem_cons_self
    rw [lens_cons]; omega
def prS (L : List Ent) (i g nx : Nat) : AS := mkS [(0, .sl L.length (lCells L)), (2, .nilS), (3, .bool false), (4, .own 100 g 0 (pbytes (L.take i)).length), (5, .int .i64 (lens (L.take i))), (8, .sl L.length (lCells L)), (9, .int .i64 L.length), (10, .int .i64 i)] [(100, ⟨g, 1, u8s (pbytes (L.take i))⟩)] nx
theorem pbytes_snoc (L : List Ent) (i : Nat) (hi : i < L.length) : pbytes (L.take (i + 1)) = pbytes (L.take i) ++ ebytes L[i] := by
  unfold pbytes
  rw [List.take_add_one, List.getElem?_eq_getElem hi, List.flatMap_append]; simp
theorem pok_not {L : List Ent} {i : Nat} (hi : i < L.length) (h : entOk (lens (L.take i)) L[i] = false) : pok 0 L = false := by
  rw [Bool.eq_false_iff]; intro hp
  have := pok_at hp i hi
  rw [Int.zero_add, h] at this; cases this
set_option maxRecDepth 100000 in
set_option maxHeartbeats 4000000 in
theorem Print_run (L : List Ent) (hL : L.length ≤ 1000000) (hT : ∀ e ∈ L, e.1.length ≤ 9223372036854775807) (t0 : Option Nat) (r : AV) (T : Option Tok)
    (hbad : pok 0 L = false → t0 = none ∧ r = .tup [.nilS, .bool false] ∧ T = none)
    (hgood : pok 0 L = true → t0 = some 100 ∧ r = .tup [.own 0 0 0 (pbytes L).length, .bool true] ∧ T = some ⟨0, 1, u8s (pbytes L)⟩) :
    ACall Tryd.prog 51 [.sl L.length (lCells L)] r T := by
  refine acall_intro t0 Tryd.func51 rfl (by kernel_rfl) (by simp [Tryd.f51]) ?_
  refine ex_run 30 ?_
  simp (maxSteps := 200000) only [Tryd.f51, push_cast, List.getD_cons_zero, List.getD_cons_succ, List.take_succ_cons, List.take_zero, List.drop_succ_cons, Nat.reduceLT, Nat.reduceLeDiff, Nat.reduceEqDiff, Nat.reduceAdd, Nat.reduceMul, Nat.reduceSub, Int.reduceToNat, Int.reduceLE, Int.reduceLT, Int.reduceEq, Int.reduceAdd, ↓reduceIte, decide_true, decide_false, and_self]
  refine run_lazy 4 100 1 rfl ?_
  refine run_keep (l' := [(0, .sl L.length (lCells L)), (2, .nilS), (3, .bool false), (4, .own 100 _ 0 0), (5, .int .i64 0), (8, .sl L.length (lCells L)), (9, .int .i64 L.length), (10, .int .i64 0)]) (t' := [(100, ⟨_, 1, []⟩)]) (nx' := _) ⟨.refl _, .refl _, .refl _, .refl _, .refl _, .refl _, .refl _, .refl _, trivial⟩ ⟨⟨_, rfl, rfl, rfl, SubL.refl _⟩, trivial⟩ (Nat.le_refl _) ?_
  refine run_loop (fun n s => ∃ (i g nx : Nat), i ≤ L.length ∧ n = L.length - i ∧ (∀ (j : Nat) (hj : j < L.length), j < i → entOk (lens (L.take j)) L[j] = true) ∧ s = prS L i g nx) _ ⟨0, _, _, Nat.zero_le _, rfl, fun j _ h => by omega, rfl⟩ ?_
  rintro n s ⟨i, g, nx, hi, rfl, hall, rfl⟩
  unfold prS
  have hlen := lCells_length L
  by_cases h : i < L.length
  · have hrow := lCells_row L i h
    have hsnoc := pbytes_snoc L i h
    have hls := lens_take_succ L i h
    have hte := hT L[i] (List.getElem_mem h)
    have hp : pok 0 (L.take i) = true := pok_of fun j hj => by
      rw [List.length_take] at hj
      rw [Int.zero_add, List.getElem_take, List.take_take, Nat.min_eq_left (by omega)]
      exact hall j (by omega) (by omega)
    have hpos : 0 ≤ lens (L.take i) := lens_nonneg fun e he => (pok_mem hp e he).2.1
    have hplen : (pbytes (L.take i)).length = i * 12 := by
      have := pbytes_len hp
      rw [List.length_take, Nat.min_eq_left (by omega)] at this; exact this
    have hw : IntKind.i64.wrap ((i : Int) + 1) = ((i + 1 : Nat) : Int) := by rw [wrap_i64 (by omega)]; omega
    have hcpos : 0 < L.length * 3 := by omega
    have hle : i * 3 + 3 ≤ L.length * 3 := by omega
    have hok0 : entOk (lens (L.take i)) L[i] = true ∨ entOk (lens (L.take i)) L[i] = false := by cases entOk (lens (L.take i)) L[i] <;> simp
    have hnot := pok_not (L := L) h
    have hallS : entOk (lens (L.take i)) L[i] = true → ∀ (j : Nat) (hj : j < L.length), j < i + 1 → entOk (lens (L.take j)) L[j] = true := fun he j hj hji => by
      by_cases e : j = i
      · subst e; exact he
      · exact hall j hj (by omega)
    generalize hnext : lens (L.take i) = next at *
    generalize hq : L[i] = q at *
    obtain ⟨tag, ln, st⟩ := q
    simp only [eCells] at hrow
    rcases hok0 with hok | hok
    · obtain ⟨g1, g2, g3, g4, g5⟩ := entOk_out.1 hok
      simp only at g1 g2 g3 g4 g5 hte hls
      have c1 : ¬ ln < 1 := by omega
      have c2 : ¬ 9999 < ln := by omega
      have c3 : ¬ 99999 < next := by omega
      have w1 : IntKind.i64.wrap (next + ln) = next + ln := wrap_i64 (by omega)
      refine ex_run 30 ?_
      simp (maxSteps := 200000) only [h, hrow, hlen, hle, hcpos, push_cast, List.getD_cons_zero, List.getD_cons_succ, List.take_succ_cons, List.take_zero, List.drop_succ_cons, Nat.reduceLT, Nat.reduceLeDiff, Nat.reduceEqDiff, Nat.reduceAdd, Nat.reduceMul, Nat.reduceSub, Int.reduceToNat, Int.reduceLE, Int.reduceLT, Int.reduceEq, Int.reduceAdd, ↓reduceIte, decide_true, decide_false, and_self]
      refine call_intro (GoodTag_c tag hte) (fun h => by cases h) ?_
      rw [g1]
      simp (maxSteps := 200000) only [c1, c2, c3, g4, w1, push_cast, List.getD_cons_zero, List.getD_cons_succ, List.take_succ_cons, List.take_zero, List.drop_succ_cons, Nat.reduceLT, Nat.reduceLeDiff, Nat.reduceEqDiff, Nat.reduceAdd, Nat.reduceMul, Nat.reduceSub, Int.reduceToNat, Int.reduceLE, Int.reduceLT, Int.reduceEq, Int.reduceAdd, ↓reduceIte, decide_true, decide_false, and_self]
      refine ⟨by kernel_rfl, ?_⟩
      refine call_introF (fixed_n ln 4 _ rfl (by omega) (by omega)) (fun h => by cases h) ?_
      have f4 := fixedL_length 4 ln
      have f5 := fixedL_length 5 next
      have t3 := goodTag_len g1
      have heb : ebytes (tag, ln, st) = tag ++ fixedL 4 ln ++ fixedL 5 next := by rw [← g4]; rfl
      generalize fixedL 4 ln = d4 at *
      simp (maxSteps := 200000) only [c1, c2, c3, g4, w1, hplen, u8s_append, push_cast, List.getD_cons_zero, List.getD_cons_succ, List.take_succ_cons, List.take_zero, List.drop_succ_cons, Nat.reduceLT, Nat.reduceLeDiff, Nat.reduceEqDiff, Nat.reduceAdd, Nat.reduceMul, Nat.reduceSub, Int.reduceToNat, Int.reduceLE, Int.reduceLT, Int.reduceEq, Int.reduceAdd, ↓reduceIte, decide_true, decide_false, and_self]
      refine ⟨by omega, ?_⟩
      refine call_introF (fixed_n next 5 _ rfl (by omega) (by omega)) (fun h => by cases h) ?_
      generalize fixedL 5 next = d5 at *
      simp (maxSteps := 200000) only [c1, c2, c3, g4, w1, hplen, hw, u8s_append, List.length_append, push_cast, List.getD_cons_zero, List.getD_cons_succ, List.take_succ_cons, List.take_zero, List.drop_succ_cons, Nat.reduceLT, Nat.reduceLeDiff, Nat.reduceEqDiff, Nat.reduceAdd, Nat.reduceMul, Nat.reduceSub, Int.reduceToNat, Int.reduceLE, Int.reduceLT, Int.reduceEq, Int.reduceAdd, ↓reduceIte, decide_true, decide_false, and_self]
      refine ⟨by omega, ⟨by omega, by omega⟩, by kernel_rfl, ?_⟩
      have hb2 : pbytes (L.take i) ++ (tag ++ d4 ++ d5) = pbytes (L.take (i + 1)) := by rw [hsnoc, heb]
      have hl2 : i * 12 + (tag.length + d4.length + d5.length) = (pbytes (L.take (i + 1))).length := by rw [← hb2]; simp only [List.length_append]; omega
      rw [hl2, hb2, ← hls]
      refine run_back_le (le_mk (l' := [(0, .sl L.length (lCells L)), (2, .nilS), (3, .bool false), (4, .own 100 _ 0 (pbytes (L.take (i + 1))).length), (5, .int .i64 (lens (L.take (i + 1)))), (8, .sl L.length (lCells L)), (9, .int .i64 L.length), (10, .int .i64 ((i + 1 : Nat) : Int))])
        (t' := [(100, ⟨_, 1, u8s (pbytes (L.take (i + 1)))⟩)]) (nx' := _) ⟨.refl _, .refl _, .refl _, .refl _, .refl _, .refl _, .refl _, .refl _, trivial⟩ ⟨⟨_, rfl, rfl, rfl, SubL.refl _⟩, trivial⟩ (Nat.le_refl _)) ?_
      exact ⟨L.length - (i + 1), by omega, i + 1, _, _, by omega, rfl, hallS hok, rfl⟩
    · obtain ⟨rfl, rfl, rfl⟩ := hbad (hnot hok)
      refine ex_run 30 ?_
      simp (maxSteps := 200000) only [h, hrow, hlen, hle, hcpos, push_cast, List.getD_cons_zero, List.getD_cons_succ, List.take_succ_cons, List.take_zero, List.drop_succ_cons, Nat.reduceLT, Nat.reduceLeDiff, Nat.reduceEqDiff, Nat.reduceAdd, Nat.reduceMul, Nat.reduceSub, Int.reduceToNat, Int.reduceLE, Int.reduceLT, Int.reduceEq, Int.reduceAdd, ↓reduceIte, decide_true, decide_false, and_self]
      refine call_intro (GoodTag_c tag hte) (fun h => by cases h) ?_
      generalize hgt : goodTag tag = gt
      have hok' : ¬ (gt = true ∧ 1 ≤ ln ∧ ln ≤ 9999 ∧ st = next ∧ next ≤ 99999) := fun hx => by
        rw [← hgt] at hx
        have := (entOk_out (next := next) (e := (tag, ln, st))).2 hx
        rw [hok] at this; cases this
      cases gt
      · simp (maxSteps := 200000) only [push_cast, List.getD_cons_zero, List.getD_cons_succ, List.take_succ_cons, List.take_zero, List.drop_succ_cons, Nat.reduceLT, Nat.reduceLeDiff, Nat.reduceEqDiff, Nat.reduceAdd, Nat.reduceMul, Nat.reduceSub, Int.reduceToNat, Int.reduceLE, Int.reduceLT, Int.reduceEq, Int.reduceAdd, ↓reduceIte, decide_true, decide_false, and_self]
        exact ⟨_, _, rfl, rfl, .refl _, rfl⟩
      · by_cases c1 : ln < 1
        · simp (maxSteps := 200000) only [c1, push_cast, List.getD_cons_zero, List.getD_cons_succ, List.take_succ_cons, List.take_zero, List.drop_succ_cons, Nat.reduceLT, Nat.reduceLeDiff, Nat.reduceEqDiff, Nat.reduceAdd, Nat.reduceMul, Nat.reduceSub, Int.reduceToNat, Int.reduceLE, Int.reduceLT, Int.reduceEq, Int.reduceAdd, ↓reduceIte, decide_true, decide_false, and_self]
          exact ⟨_, _, rfl, rfl, .refl _, rfl⟩
        · by_cases c2 : 9999 < ln
          · simp (maxSteps := 200000) only [c1, c2, push_cast, List.getD_cons_zero, List.getD_cons_succ, List.take_succ_cons, List.take_zero, List.drop_succ_cons, Nat.reduceLT, Nat.reduceLeDiff, Nat.reduceEqDiff, Nat.reduceAdd, Nat.reduceMul, Nat.reduceSub, Int.reduceToNat, Int.reduceLE, Int.reduceLT, Int.reduceEq, Int.reduceAdd, ↓reduceIte, decide_true, decide_false, and_self]
            exact ⟨_, _, rfl, rfl, .refl _, rfl⟩
          · by_cases c3 : st = next
            · have c4 : 99999 < next := Classical.byContradiction fun hc => hok' ⟨rfl, by omega, by omega, c3, by omega⟩
              simp (maxSteps := 200000) only [c1, c2, c3, c4, push_cast, List.getD_cons_zero, List.getD_cons_succ, List.take_succ_cons, List.take_zero, List.drop_succ_cons, Nat.reduceLT, Nat.reduceLeDiff, Nat.reduceEqDiff, Nat.reduceAdd, Nat.reduceMul, Nat.reduceSub, Int.reduceToNat, Int.reduceLE, Int.reduceLT, Int.reduceEq, Int.reduceAdd, ↓reduceIte, decide_true, decide_false, and_self]
              exact ⟨_, _, rfl, rfl, .refl _, rfl⟩
            · simp (maxSteps := 200000) only [c1, c2, c3, push_cast, List.getD_cons_zero, List.getD_cons_succ, List.take_succ_cons, List.take_zero, List.drop_succ_cons, Nat.reduceLT, Nat.reduceLeDiff, Nat.reduceEqDiff, Nat.reduceAdd, Nat.reduceMul, Nat.reduceSub, Int.reduceToNat, Int.reduceLE, Int.reduceLT, Int.reduceEq, Int.reduceAdd, ↓reduceIte, decide_true, decide_false, and_self]
              exact ⟨_, _, rfl, rfl, .refl _, rfl⟩
  · have hii : i = L.length := by omega
    subst hii
    have hp : pok 0 L = true := pok_of fun j hj => by rw [Int.zero_add]; exact hall j hj hj
    obtain ⟨rfl, rfl, rfl⟩ := hgood hp
    refine ex_run 30 ?_
    simp (maxSteps := 200000) only [h, List.take_length, push_cast, List.getD_cons_zero, List.getD_cons_succ, List.take_succ_cons, List.take_zero, List.drop_succ_cons, Nat.reduceLT, Nat.reduceLeDiff, Nat.reduceEqDiff, Nat.reduceAdd, Nat.reduceMul, Nat.reduceSub, Int.reduceToNat, Int.reduceLE, Int.reduceLT, Int.reduceEq, Int.reduceAdd, ↓reduceIte, decide_true, decide_false, and_self]
    exact ⟨_, [.own 0 0 0 (pbytes L).length, .bool true], rfl, by simp [outA, outV, outC, mkS_env, mkS_tk, lkF, lkG, AV.closed], .refl _, ⟨_, rfl, u8s_closed _, rfl⟩⟩
end Go.Proofs.YteapibifebnboaaDoor
