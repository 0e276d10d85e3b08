/- What is mended: a record, it stays, it is not much longer. -/
import Derived.Test.YteapibifebnboaaDoorMndL
import Derived.Test.YteapibifebnboaaDoorMndR
set_option linter.unusedVariables false
set_option linter.unusedSimpArgs false
namespace Go.Proofs.YteapibifebnboaaDoor
open Go Go.Eng
theorem mend_parse {b : List Int} (hb : inB b) : ∃ r, rparse (mendM b) = .inr r := by
  unfold mendM
  cases h : rparse b with
  | inr r => exact ⟨r, h⟩
  | inl x => exact ⟨_, rparse_write (recM_write hb)⟩
theorem mend_good {b : List Int} {r : RV} (h : rparse b = .inr r) : mendM b = b := by unfold mendM; rw [h]
theorem mend_idem {b : List Int} (hb : inB b) : mendM (mendM b) = mendM b := by
  obtain ⟨r, h⟩ := mend_parse hb
  exact mend_good h
theorem mend_in {b : List Int} (hb : inB b) : inB (mendM b) := by
  unfold mendM
  split
  · exact hb
  · have hw := recM_wlen b
    have hwb : wbase (recM b) = 25 + 12 * ((recM b).fields.length : Int) := rfl
    have hwl : wlen (recM b) = wbase (recM b) + (dataOf (recM b).fields).length + 1 := rfl
    have hp := pok_entsOf (L := (recM b).fields) (st := 0) (recM_good hb) (by omega)
    have hl : inB (leadM b) := leadM_in hb
    intro c hc
    unfold wbytes at hc
    simp only [List.mem_append] at hc
    rcases hc with (((hc | hc) | hc) | hc) | hc
    · unfold leadB at hc
      simp only [List.mem_append] at hc
      rcases hc with ((hc | hc) | hc) | hc
      · exact fixedL_bytes _ _ (by omega) c hc
      · exact hl c (List.mem_of_mem_drop (List.mem_of_mem_take hc))
      · exact fixedL_bytes _ _ (by omega) c hc
      · exact hl c (List.mem_of_mem_drop hc)
    · exact pbytes_bytes hp c hc
    · simp at hc; omega
    · obtain ⟨f, hf, hc⟩ := List.mem_flatMap.1 hc
      obtain ⟨_, _, _, h4⟩ := recM_fld hb hf
      unfold fdata at hc
      rcases List.mem_append.1 hc with hc | hc
      · exact h4 c hc
      · simp at hc; omega
    · simp at hc; omega
/-! ### How long it is -/
def sumL (T : List (List Int)) : Nat := (T.map fun p => p.length + 1).sum
theorem sumL_cons (p : List Int) (T : List (List Int)) : sumL (p :: T) = p.length + 1 + sumL T := by simp [sumL]
theorem sumL_split (c : Int) (l : List Int) : sumL (splitL c l) = l.length + 1 := by
  have h1 := splitL_sum (c := c) l
  have h2 := splitL_len c l
  have : ∀ T : List (List Int), sumL T = (T.map (·.length)).sum + T.length := by
    intro T
    induction T with
    | nil => rfl
    | cons p T ih => rw [sumL_cons, ih, List.map_cons, List.sum_cons, List.length_cons]; omega
  rw [this]; omega
theorem sumL_dropLast : ∀ T : List (List Int), sumL T.dropLast ≤ sumL T
  | [] => Nat.le_refl _
  | [p] => by simp [sumL]
  | p :: q :: T => by
    rw [List.dropLast_cons_of_ne_nil (by simp), sumL_cons, sumL_cons]
    have := sumL_dropLast (q :: T)
    omega
theorem sub_flat (p : List Int) : ((subOf p).flatMap subB).length ≤ 3 * p.length := by
  unfold subOf
  split
  · simp
  · split <;> simp [subB] <;> omega
theorem hd_flat (p : List Int) : ((subHd p).flatMap subB).length ≤ 3 * p.length := by
  unfold subHd
  split
  · simp
  · rename_i h
    have : 0 < p.length := by cases p with | nil => exact absurd rfl h | cons x t => simp
    simp [subB]; omega
theorem subsM_flat (q : List Int) : ((subsM q).flatMap subB).length ≤ 3 * q.length := by
  have h1 := splitL_sum (c := 31) q
  have h2 : ∀ T : List (List Int), ((T.flatMap subOf).flatMap subB).length ≤ 3 * (T.map (·.length)).sum := by
    intro T
    induction T with
    | nil => simp
    | cons p T ih =>
      have := sub_flat p
      rw [List.flatMap_cons, List.flatMap_append, List.length_append, List.map_cons, List.sum_cons]; omega
  unfold subsM
  cases hT : splitL 31 q with
  | nil => exact absurd hT (splitL_ne 31 q)
  | cons p0 ps =>
    rw [hT] at h1
    rw [List.map_cons, List.sum_cons] at h1
    have h3 := h2 ps
    have h4 := hd_flat p0
    rw [List.flatMap_append, List.length_append]
    show ((subHd p0).flatMap subB).length + ((ps.flatMap subOf).flatMap subB).length ≤ _
    omega
theorem capS_le : ∀ (r : Nat) (L : List SubV), ((capS r L).flatMap subB).length ≤ (L.flatMap subB).length
  | _, [] => by unfold capS; simp
  | r, s :: L => by
    unfold capS
    split
    · simp
    · have := capS_le (r - 2 - (s.2.take (r - 2)).length) L
      have h2 : (s.2.take (r - 2)).length ≤ s.2.length := by rw [List.length_take]; omega
      rw [List.flatMap_cons, List.flatMap_cons, List.length_append, List.length_append]
      simp only [subB, List.length_cons]; omega
theorem pick_len {tag p : List Int} {f : FV} (h : pick tag p = some f) : (ctl tag = true ∧ (fbytes f).length ≤ p.length) ∨ (1 ≤ p.length ∧ (fbytes f).length ≤ 2 + 3 * p.length) := by
  unfold pick at h
  split at h
  · rename_i hc
    cases h
    left
    have e : fbytes (ctlM tag p) = (noB 31 p).take 9998 := by unfold fbytes ctlM; rw [if_pos hc]
    have := noB_len 31 p
    rw [e, List.length_take]
    exact ⟨hc, by omega⟩
  · rename_i hc
    split at h
    · cases h
    · rename_i hne
      cases h
      right
      have e : fbytes (datM tag p) = indM p 0 :: indM p 1 :: (datM tag p).subs.flatMap subB := by unfold fbytes; rw [if_neg (show ¬ ctl (datM tag p).tag = true from hc)]; rfl
      have h1 := capS_le 9996 (subsM (p.drop (mI p)))
      have h2 := subsM_flat (p.drop (mI p))
      have h3 : (p.drop (mI p)).length ≤ p.length := by rw [List.length_drop]; omega
      refine ⟨?_, ?_⟩
      · cases p with
        | nil => exact absurd rfl hne
        | cons x t => simp
      · rw [e]
        simp only [List.length_cons]
        show ((capS 9996 (subsM (p.drop (mI p)))).flatMap subB).length + 1 + 1 ≤ _
        omega
theorem tagM_ctl {b : List Int} {i : Nat} (h : ctl (tagM b i) = true) : i < (linesM b).length := by
  unfold tagM at h
  split at h
  · rename_i k; omega
  · cases h
theorem fit_cost (b : List Int) : ∀ (k i r : Nat), i + k = (listM b).length →
    12 * (fitF r ((pairsM b).drop i)).length + (dataOf (fitF r ((pairsM b).drop i))).length ≤ 12 * sumL ((listM b).drop i) + ((linesM b).length - i)
  | 0, i, r, h => by
    rw [List.drop_of_length_le (by rw [pairsM_len]; omega)]
    unfold fitF; simp [dataOf]
  | k + 1, i, r, h => by
    have hi : i < (listM b).length := by omega
    have hd : ∀ (f : FV) L, (dataOf (f :: L)).length = (fbytes f).length + 1 + (dataOf L).length := by
      intro f L; unfold dataOf; rw [List.flatMap_cons, List.length_append]; simp [fdata]
    rw [pairsM_drop b i hi, fitF_cons, List.drop_eq_getElem_cons hi, sumL_cons]
    simp only
    cases hp : pick (tagM b i) (listM b)[i] with
    | none =>
      have := fit_cost b k (i + 1) r (by omega)
      simp only
      omega
    | some f =>
      simp only
      split
      · simp [dataOf]
      · have := fit_cost b k (i + 1) (r - (13 + (fbytes f).length)) (by omega)
        rw [hd, List.length_cons]
        rcases pick_len hp with ⟨h1, h2⟩ | ⟨h1, h2⟩
        · have := tagM_ctl h1
          omega
        · omega
theorem mend_len {b : List Int} (hb : inB b) : (mendM b).length ≤ 26 + 12 * b.length := by
  unfold mendM
  split
  · omega
  · have hw := recM_wlen b
    have hwb : wbase (recM b) = 25 + 12 * ((recM b).fields.length : Int) := rfl
    have hwl : wlen (recM b) = wbase (recM b) + (dataOf (recM b).fields).length + 1 := rfl
    have hp := pok_entsOf (L := (recM b).fields) (st := 0) (recM_good hb) (by omega)
    have hpl := pbytes_len hp
    rw [entsOf_length] at hpl
    have hlb := leadB_len (show soundL (recM b).lead = true from leadM_sound hb) (wlen (recM b)) (wbase (recM b))
    have hlen : (wbytes (recM b)).length = 26 + 12 * (recM b).fields.length + (dataOf (recM b).fields).length := by
      unfold wbytes
      rw [List.length_append, List.length_append, List.length_append, List.length_append, hlb, hpl]; simp; omega
    have hcost := fit_cost b (listM b).length 0 99973 (by omega)
    rw [List.drop_zero, List.drop_zero] at hcost
    have hF : (recM b).fields = fitF 99973 (pairsM b) := rfl
    rw [← hF] at hcost
    have hll : (linesM b).length ≤ (b.drop 24).length := upTo_le 30 (b.drop 24)
    have hbl : (b.drop 24).length = b.length - 24 := List.length_drop
    rw [hlen]
    by_cases hlt : (linesM b).length < (b.drop 24).length
    · have h1 : sumL (listM b) ≤ (rawM b).length + 1 := by
        rw [← sumL_split 30 (rawM b)]
        unfold listM dropE
        split
        · exact sumL_dropLast _
        · exact Nat.le_refl _
      have h2 : (rawM b).length ≤ (b.drop 24).length - ((linesM b).length + 1) := by
        rw [← List.length_drop]; exact upTo_le 29 _
      omega
    · have h1 : listM b = [] := by
        unfold listM rawM
        rw [List.drop_of_length_le (i := (linesM b).length + 1) (by omega)]; rfl
      rw [h1] at hcost
      have : sumL [] = 0 := rfl
      omega
end Go.Proofs.YteapibifebnboaaDoor
