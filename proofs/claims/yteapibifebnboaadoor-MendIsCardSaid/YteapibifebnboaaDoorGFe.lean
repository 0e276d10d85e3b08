/- GFe: the texts FldV, FldW, FldX, FldY, one behind the other. -/
import Derived.Test.YteapibifebnboaaDoorGFd
set_option linter.unusedVariables false
set_option linter.unusedSimpArgs false

/- field.Texts, ref19.Texts -/
set_option linter.unusedVariables false
set_option linter.unusedSimpArgs false
namespace Go.Proofs.YteapibifebnboaaDoor
open Go Go.Eng
def tx1 (t : List Int) : AV := .sl t.length (u8s t)
def txCells (T : List (List Int)) : List AV := T.map tx1
theorem txCells_length (T : List (List Int)) : (txCells T).length = T.length := by simp [txCells]
theorem txCells_closed (T : List (List Int)) : closedL (txCells T) = true := by
  induction T with
  | nil => rfl
  | cons t T ih =>
    show closedL (tx1 t :: txCells T) = true
    simp only [closedL, tx1, AV.closed, u8s_closed, Bool.true_and]
    exact ih
theorem txCells_get (T : List (List Int)) (i : Nat) (hi : i < T.length) : (txCells T).getD i .dead = .sl T[i].length (u8s T[i]) := by
  rw [List.getD_eq_getElem?_getD, List.getElem?_eq_getElem (by rw [txCells_length]; exact hi)]
  simp [txCells, tx1]
def textsOf (f : FV) : List (List Int) := if ctl f.tag = true then [f.text] else f.subs.map (·.2)
def textsTo (f : FV) (i : Nat) : List (List Int) := (f.subs.take i).map (·.2)
theorem textsTo_succ (f : FV) (i : Nat) (hi : i < f.subs.length) : txCells (textsTo f (i + 1)) = txCells (textsTo f i) ++ [.sl f.subs[i].2.length (u8s f.subs[i].2)] := by
  unfold textsTo; rw [List.take_add_one, List.getElem?_eq_getElem hi, List.map_append]; unfold txCells; rw [List.map_append]; rfl
theorem textsTo_length (f : FV) (i : Nat) (hi : i ≤ f.subs.length) : (textsTo f i).length = i := by unfold textsTo; simp; omega
end Go.Proofs.YteapibifebnboaaDoor

/- slices.Clone of subfields, field.With -/
set_option linter.unusedVariables false
set_option linter.unusedSimpArgs false
namespace Go.Proofs.YteapibifebnboaaDoor
open Go Go.Eng
def wsubs (L : List SubV) (T : List (List Int)) (i : Nat) : List SubV := List.zipWith (fun s t => (s.1, t)) (L.take i) (T.take i) ++ L.drop i
def withF (f : FV) (T : List (List Int)) : FV := if ctl f.tag = true then ⟨f.tag, T.getD 0 [], f.i0, f.i1, f.subs⟩ else ⟨f.tag, f.text, f.i0, f.i1, wsubs f.subs T f.subs.length⟩
def mayW (f : FV) (T : List (List Int)) : Bool := decide (T.length = (textsOf f).length) && goodF (withF f T)
def withR (f : FV) (T : List (List Int)) : AV := if mayW f T = true then .tup [.agg (fCells (withF f T)), .bool true] else .tup [.agg (fCells zeroF), .bool false]
theorem wsubs_zero (L : List SubV) (T : List (List Int)) : wsubs L T 0 = L := by simp [wsubs]
theorem wsubs_length (L : List SubV) (T : List (List Int)) (h : T.length = L.length) (i : Nat) : (wsubs L T i).length = L.length := by
  simp [wsubs]; omega
theorem wsubs_succ (L : List SubV) (T : List (List Int)) (i : Nat) (hi : i < L.length) (ht : i < T.length) : wsubs L T (i + 1) = List.zipWith (fun s t => (s.1, t)) (L.take i) (T.take i) ++ (L[i].1, T[i]) :: L.drop (i + 1) := by
  unfold wsubs
  rw [List.take_add_one, List.take_add_one, List.getElem?_eq_getElem hi, List.getElem?_eq_getElem ht, List.zipWith_append (by simp; omega)]
  simp
theorem subCells_append (L M : List SubV) : subCells (L ++ M) = subCells L ++ subCells M := List.flatMap_append ..
theorem wsubs_set (L : List SubV) (T : List (List Int)) (i : Nat) (hi : i < L.length) (ht : i < T.length) : (subCells (wsubs L T i)).set (i * 2 + 1) (.sl T[i].length (u8s T[i])) = subCells (wsubs L T (i + 1)) := by
  have hz : (subCells (List.zipWith (fun s t => (s.1, t)) (L.take i) (T.take i))).length = i * 2 := by rw [subCells_length]; simp; omega
  rw [wsubs_succ L T i hi ht]
  unfold wsubs
  rw [subCells_append, subCells_append, List.drop_eq_getElem_cons hi, List.set_append_right _ _ (by omega), hz, show i * 2 + 1 - i * 2 = 1 by omega]
  rfl
theorem frz_all {t g n : Nat} {L : List AV} (h : L.length = n * 2) : Frz t ⟨g, 2, L⟩ (.own t g 0 n) (.sl n L) := by
  have := Frz.own (t := t) (T := ⟨g, 2, L⟩) 0 n (by show 0 + n * 2 ≤ L.length; omega)
  have e : (L.drop 0).take (n * 2) = L := List.take_of_length_le (by rw [List.drop_zero]; omega)
  rw [show ((⟨g, 2, L⟩ : Tok).cs.drop 0).take (n * (⟨g, 2, L⟩ : Tok).sz) = L from e] at this
  exact this
theorem wsubs_mem {L : List SubV} {T : List (List Int)} {s : SubV} (h : s ∈ wsubs L T L.length) : ∃ a ∈ L, ∃ t ∈ T, s = (a.1, t) := by
  unfold wsubs at h
  rw [List.take_length, List.drop_length, List.append_nil] at h
  obtain ⟨i, hi, rfl⟩ := List.mem_iff_getElem.1 h
  rw [List.getElem_zipWith]
  simp only [List.length_zipWith, List.length_take] at hi
  exact ⟨_, List.getElem_mem (by omega), _, List.mem_of_mem_take (List.getElem_mem (by rw [List.length_take]; omega)), rfl⟩
end Go.Proofs.YteapibifebnboaaDoor

/- The law FieldTexts: at every argument it returns true. -/
set_option linter.unusedVariables false
set_option linter.unusedSimpArgs false
namespace Go.Proofs.YteapibifebnboaaDoor
open Go Go.Eng
def one0 (t : List Int) : List Int := 0 :: t
def sumTo (T : List (List Int)) (i : Nat) : Nat := ((T.take i).flatMap one0).length
def sumT (T : List (List Int)) : Nat := (T.flatMap one0).length
theorem sumTo_le (T : List (List Int)) (i : Nat) : sumTo T i ≤ sumT T := by
  unfold sumTo sumT
  conv => rhs; rw [← List.take_append_drop i T, List.flatMap_append, List.length_append]
  omega
theorem sumTo_succ (T : List (List Int)) (i : Nat) (hi : i < T.length) : sumTo T (i + 1) = sumTo T i + 1 + T[i].length := by
  unfold sumTo; rw [List.take_add_one, List.getElem?_eq_getElem hi, List.flatMap_append, List.length_append]; simp [one0]; omega
theorem sumT_mem {T : List (List Int)} {t : List Int} (h : t ∈ T) : t.length ≤ sumT T := by
  unfold sumT
  obtain ⟨a, b, rfl⟩ := List.append_of_mem h
  simp [one0]; omega
theorem sumT_cnt : ∀ T : List (List Int), T.length ≤ sumT T
  | [] => by simp
  | t :: T => by have := sumT_cnt T; unfold sumT at *; rw [List.flatMap_cons, List.length_append, List.length_cons]; simp only [one0, List.length_cons]; omega
theorem zip_len : ∀ (L : List SubV) (T : List (List Int)), ((List.zipWith (fun (s : SubV) t => ((s.1, t) : SubV)) L T).flatMap subB).length ≤ 2 * sumT T
  | [], T => by simp
  | s :: L, [] => by simp
  | s :: L, t :: T => by
    have := zip_len L T
    unfold sumT at *
    rw [List.zipWith_cons_cons, List.flatMap_cons, List.flatMap_cons, List.length_append, List.length_append]
    simp only [subB, one0, List.length_cons]
    omega
theorem fbytes_with (f : FV) (T : List (List Int)) : (fbytes (withF f T)).length ≤ 2 * sumT T + 2 + tot f := by
  unfold withF
  split
  · rename_i hc
    unfold fbytes
    rw [if_pos hc]
    show (T.getD 0 []).length ≤ _
    cases T with
    | nil => simp
    | cons t T => have := sumT_mem (T := t :: T) (List.mem_cons_self ..); simp only [List.getD_cons_zero]; omega
  · rename_i hc
    unfold fbytes
    rw [if_neg hc]
    show (f.i0 :: f.i1 :: (wsubs f.subs T f.subs.length).flatMap subB).length ≤ _
    unfold wsubs
    rw [List.take_length, List.drop_length, List.append_nil]
    have := zip_len f.subs (T.take f.subs.length)
    have h2 : sumT (T.take f.subs.length) ≤ sumT T := sumTo_le T f.subs.length
    simp only [List.length_cons]
    omega
def zp (L : List SubV) (T : List (List Int)) (k : Nat) : List SubV := List.zipWith (fun s t => (s.1, t)) (L.take k) (T.take k)
theorem zp_length (L : List SubV) (T : List (List Int)) (k : Nat) (h : k ≤ L.length) (h2 : k ≤ T.length) : (zp L T k).length = k := by simp [zp]; omega
theorem zp_succ (L : List SubV) (T : List (List Int)) (k : Nat) (h : k < L.length) (h2 : k < T.length) : subCells (zp L T (k + 1)) = subCells (zp L T k) ++ [.int .u8 L[k].1, .sl T[k].length (u8s T[k])] := by
  unfold zp
  rw [List.take_add_one, List.take_add_one, List.getElem?_eq_getElem h, List.getElem?_eq_getElem h2, List.zipWith_append (by simp; omega), subCells_append]
  rfl
def withX (f : FV) (T : List (List Int)) : FV := if mayW f T = true then withF f T else zeroF
theorem withR_eq (f : FV) (T : List (List Int)) : withR f T = .tup [.agg (fCells (withX f T)), .bool (mayW f T)] := by
  unfold withR withX
  cases mayW f T <;> rfl
theorem rsame_zero : ACall Tryd.prog 72 [.agg [.str [], .sl 0 [], .int .u8 0, .int .u8 0, .sl 0 []], .agg [.str [], .sl 0 [], .int .u8 0, .int .u8 0, .sl 0 []]] (.bool true) none := by
  have := rsame_c zeroF zeroF (by decide) (by intro s hs; cases hs) (by decide)
  rw [sameB_refl] at this
  exact this
end Go.Proofs.YteapibifebnboaaDoor

/- FieldTexts: what is handed in. -/
set_option linter.unusedVariables false
namespace Go.Proofs.YteapibifebnboaaDoor
open Go Go.Eng
theorem txCells_flat (T : List (List Int)) : (T.map fun t => [tx1 t]).flatten = txCells T := by
  induction T with
  | nil => rfl
  | cons t T ih => show tx1 t :: (T.map fun t => [tx1 t]).flatten = tx1 t :: txCells T; rw [ih]
theorem opensTextsW {H : Type} : OpensW Tryd.prog H 42 fun xs => ∃ T : List (List Int), (∀ t ∈ T, inB t ∧ t.length ≤ 140737488351232) ∧ T.length ≤ 140737488351232 ∧ xs = [.sl T.length (txCells T)] := by
  refine (opens_sliceW (s := 1) Tryd.underlying42 (by kernel_rfl) (by omega) (of_decide_eq_true (by kernel_rfl)) opensTextW).imp ?_
  rintro xs ⟨els, h1, h2, rfl⟩
  obtain ⟨T, rfl⟩ := all_form (f := fun t => [tx1 t]) h1 fun c hc => let ⟨⟨l, _, _, h⟩, _⟩ := hc; ⟨l, h⟩
  refine ⟨T, fun t ht => ?_, by simpa using h2, by rw [List.length_map, txCells_flat]⟩
  obtain ⟨⟨l, l1, l2, h⟩, _⟩ := h1 [tx1 t] (List.mem_map.2 ⟨t, ht, rfl⟩)
  simp only [tx1, List.cons.injEq, AV.sl.injEq, and_true] at h
  rw [u8s_inj h.2]; exact ⟨l1, l2⟩
end Go.Proofs.YteapibifebnboaaDoor
