/- What is written is read as it was. -/
import Derived.Test.YteapibifebnboaaDoorGRc
set_option linter.unusedVariables false
set_option linter.unusedSimpArgs false
namespace Go.Proofs.YteapibifebnboaaDoor
open Go Go.Eng
theorem ledB_false {i c : Int} (h : ledB i c true = true) (hn : numAt i = false) : ledB i c false = true := by
  unfold ledB at h ⊢
  rw [if_neg (by rw [hn]; simp)] at h ⊢; exact h
theorem ledB_dig {i c : Int} (h : isD c = true) (hn : numAt i = true) : ledB i c false = true := by
  unfold ledB
  rw [if_pos hn, h]; rfl
theorem snd_get : ∀ {l : List Int} {i : Nat}, sndFrom l i = true → ∀ j, j < l.length → ledB ((i + j : Nat) : Int) (l.getD j 0) true = true
  | [], _, _, j, hj => by simp at hj
  | c :: t, i, h, j, hj => by
    rw [sndFrom, Bool.and_eq_true] at h
    cases j with
    | zero => exact h.1
    | succ j =>
      have := snd_get h.2 j (by simpa using hj)
      rw [List.getD_cons_succ, show i + (j + 1) = i + 1 + j by omega]; exact this
theorem all_get {l : List Int} (h : l.all isD = true) (j : Nat) (hj : j < l.length) : isD (l.getD j 0) = true := by
  rw [List.getD_eq_getElem?_getD, List.getElem?_eq_getElem hj]
  exact List.all_eq_true.1 h _ (List.getElem_mem hj)
theorem leadB_get {l : List Int} (hl : l.length = 24) (a b : Int) (j : Nat) (hj : j < 24) :
    (leadB l a b).getD j 0 = if j < 5 then (fixedL 5 a).getD j 0 else if j < 12 then l.getD j 0 else if j < 17 then (fixedL 5 b).getD (j - 12) 0 else l.getD j 0 := by
  have l1 := fixedL_length 5 a
  have l2 := fixedL_length 5 b
  unfold leadB
  generalize fixedL 5 a = A at *
  generalize fixedL 5 b = B at *
  simp only [List.getD_eq_getElem?_getD]
  have h7 : ((l.drop 5).take 7).length = 7 := by rw [List.length_take, List.length_drop]; omega
  by_cases c1 : j < 5
  · rw [if_pos c1, List.append_assoc, List.append_assoc, List.getElem?_append_left (by omega)]
  · rw [if_neg c1, List.append_assoc, List.append_assoc, List.getElem?_append_right (by omega), l1]
    by_cases c2 : j < 12
    · rw [if_pos c2, List.getElem?_append_left (by omega), List.getElem?_take_of_lt (by omega), List.getElem?_drop, show 5 + (j - 5) = j by omega]
    · rw [if_neg c2, List.getElem?_append_right (by omega), h7]
      by_cases c3 : j < 17
      · rw [if_pos c3, List.getElem?_append_left (by omega), show j - 5 - 7 = j - 12 by omega]
      · rw [if_neg c3, List.getElem?_append_right (by omega), l2, List.getElem?_drop, show 17 + (j - 5 - 7 - 5) = j by omega]
/-- A leader that is written may stand. -/
theorem leadB_led {l : List Int} (hs : soundL l = true) (a b : Int) (ha : 0 ≤ a) (hb : 0 ≤ b) : ledFrom (leadB l a b) 0 = 24 := by
  have hl := soundL_len hs
  have hlen := leadB_len hs a b
  have h1 := fixedL_digits 5 a ha
  have h2 := fixedL_digits 5 b hb
  have l1 := fixedL_length 5 a
  have l2 := fixedL_length 5 b
  have hsn : sndFrom l 0 = true := by unfold soundL at hs; rw [Bool.and_eq_true] at hs; exact hs.2
  rw [ledFrom_of _ 0 fun j hj => ?_, hlen]
  rw [hlen] at hj
  rw [Nat.zero_add, leadB_get hl a b j hj]
  have hsj := snd_get hsn j (by omega)
  rw [Nat.zero_add] at hsj
  by_cases c1 : j < 5
  · rw [if_pos c1]; exact ledB_dig (all_get h1 j (by omega)) (by unfold numAt; simp; omega)
  · rw [if_neg c1]
    by_cases c2 : j < 12
    · rw [if_pos c2]; exact ledB_false hsj (by unfold numAt; simp; omega)
    · rw [if_neg c2]
      by_cases c3 : j < 17
      · rw [if_pos c3]; exact ledB_dig (all_get h2 _ (by omega)) (by unfold numAt; simp; omega)
      · rw [if_neg c3]; exact ledB_false hsj (by unfold numAt; simp; omega)
theorem entAt_pbytes {E : List Ent} (h : pok 0 E = true) (j : Nat) (hj : j < E.length) : entAt (pbytes E) j = E[j] := by
  have hm : E[j] ∈ E := List.getElem_mem hj
  obtain ⟨p1, _, _⟩ := ent_parts h E[j] hm
  obtain ⟨a1, a2, _, _⟩ := ent_nums h E[j] hm
  unfold entAt
  rw [blk_pbytes h j hj, p1, a1, a2]
theorem entsTo_pbytes {E : List Ent} (h : pok 0 E = true) : ∀ n, n ≤ E.length → entsTo (pbytes E) n = E.take n
  | 0, _ => by simp [entsTo]
  | n + 1, hn => by
    rw [entsTo, entsTo_pbytes h n (by omega), entAt_pbytes h n (by omega), List.take_add_one, List.getElem?_eq_getElem (by omega)]; rfl
theorem lens_entsOf : ∀ (L : List FV) (st : Int), lens (entsOf L st) = (dataOf L).length
  | [], _ => rfl
  | f :: L, st => by
    have := lens_entsOf L (st + (fbytes f).length + 1)
    unfold lens at *
    rw [entsOf, List.map_cons, List.sum_cons, this]
    unfold dataOf fdata
    rw [List.flatMap_cons, List.length_append, List.length_append]; simp
theorem dirBad_ok {l : List Int} (h : ∀ j, 12 * j < l.length → good l j = true) : dirBad l = none := by
  unfold dirBad
  rw [List.find?_eq_none]
  intro j _
  by_cases hj : 12 * j < l.length
  · rw [h j hj]; simp
  · rw [decide_eq_false hj]; simp
theorem fieldsP_all (b : List Int) (bs : Nat) : ∀ (E : List Ent) (L : List FV), E.length = L.length → (∀ (i : Nat) (h1 : i < E.length) (h2 : i < L.length), oneP b bs E[i] = .inr L[i]) → fieldsP b bs E = .inr L
  | [], [], _, _ => rfl
  | [], f :: L, h, _ => by simp at h
  | e :: E, [], h, _ => by simp at h
  | e :: E, f :: L, h, hh => by
    have h0 := hh 0 (by simp) (by simp)
    simp only [List.getElem_cons_zero] at h0
    rw [fieldsP, h0]
    show preF [f] (fieldsP b bs E) = _
    rw [fieldsP_all b bs E L (by simpa using h) fun i h1 h2 => by
      have := hh (i + 1) (by simpa using h1) (by simpa using h2)
      simpa using this]
    rfl
theorem rparse_write {r : RV} {w : List Int} (h : rwrite r = .inr w) : rparse w = .inr ⟨w.take 24, r.fields⟩ := by
  have h0 := h
  have hs : soundL r.lead = true := by
    unfold rwrite at h
    cases hs : soundL r.lead with
    | true => rfl
    | false => rw [hs] at h; cases h
  unfold rwrite at h
  rw [if_neg (by rw [hs]; simp)] at h
  split at h
  · cases h
  · rename_i hbad
    split at h
    · cases h
    · rename_i h99
      cases h
      have hall := badFld_all hbad
      have hwl : wlen r = wbase r + (dataOf r.fields).length + 1 := rfl
      have hwb : wbase r = 25 + 12 * (r.fields.length : Int) := rfl
      have hp := pok_entsOf (L := r.fields) (st := 0) hall (by omega)
      have hpl := pbytes_len hp
      have hel := entsOf_length r.fields 0
      rw [hel] at hpl
      have hlb := leadB_len hs (wlen r) (wbase r)
      have hled := leadB_led hs (wlen r) (wbase r) (by omega) (by omega)
      have hH1 : (leadB r.lead (wlen r) (wbase r)).take 5 = fixedL 5 (wlen r) := by
        unfold leadB
        rw [List.append_assoc, List.append_assoc]
        exact List.take_left' (fixedL_length 5 _)
      have hH2 : ((leadB r.lead (wlen r) (wbase r)).drop 12).take 5 = fixedL 5 (wbase r) := by
        have h7 : ((r.lead.drop 5).take 7).length = 7 := by have := soundL_len hs; rw [List.length_take, List.length_drop]; omega
        unfold leadB
        rw [List.append_assoc, List.drop_left' (by rw [List.length_append, fixedL_length, h7])]
        exact List.take_left' (fixedL_length 5 _)
      have v1 := fixedL_val 5 (wlen r) (by omega) (by omega)
      have v2 := fixedL_val 5 (wbase r) (by omega) (by omega)
      have hw : wbytes r = leadB r.lead (wlen r) (wbase r) ++ (pbytes (entsOf r.fields 0) ++ (30 :: (dataOf r.fields ++ [29]))) := by unfold wbytes; simp
      have hat := fun i hi => wbytes_at h0 i hi
      generalize hHH : leadB r.lead (wlen r) (wbase r) = H at *
      have hlen : ((wbytes r).length : Int) = wlen r := by rw [hw]; simp [hlb, hpl]; omega
      have t24 : (wbytes r).take 24 = H := by rw [hw]; exact List.take_left' hlb
      have hbase : baseOf (wbytes r) = wbase r := by
        unfold baseOf
        rw [hw, List.drop_append, show 12 - H.length = 0 by omega, List.drop_zero, List.take_append, List.length_drop, show 5 - (H.length - 12) = 0 by omega, List.take_zero, List.append_nil, hH2, v2]
      have hget1 : (wbytes r).getD ((wbytes r).length - 1) 0 = 29 := by
        have : wbytes r = (H ++ (pbytes (entsOf r.fields 0) ++ (30 :: dataOf r.fields))) ++ [29] := by rw [hw]; simp
        rw [this, List.length_append, List.getD_eq_getElem?_getD, List.getElem?_append_right (by simp)]; simp
      have hpre : (H ++ pbytes (entsOf r.fields 0)).length = (wbase r - 1).toNat := by rw [List.length_append, hlb, hpl]; omega
      have hget2 : (wbytes r).getD (wbase r - 1).toNat 0 = 30 := by
        rw [hw, ← List.append_assoc, List.getD_eq_getElem?_getD, ← hpre, List.getElem?_append_right (Nat.le_refl _), Nat.sub_self]; rfl
      have hdir : dirOf (wbytes r) (wbase r) = pbytes (entsOf r.fields 0) := by
        unfold dirOf
        rw [hw, ← List.append_assoc, List.take_left' hpre]
        exact List.drop_left' hlb
      have hframe : frameP (wbytes r) = .inr (wbase r) := by
        have hA : ledAt (wbytes r) = 24 := by unfold ledAt; rw [t24]; exact hled
        have hT : valOf ((wbytes r).take 5) = (wbytes r).length := by
          rw [hlen, hw, List.take_append, show 5 - H.length = 0 by omega, List.take_zero, List.append_nil, hH1, v1]
        unfold frameP
        rw [hA, if_neg (by omega), if_neg (fun e => e.elim (fun e => e hT) (fun e => e hget1)), hbase]
        rw [if_neg (fun e => e.elim (fun e => by omega) (fun e => e.elim (fun e => by omega) (fun e => e.elim (fun e => e (by omega)) (fun e => e hget2))))]
      have hn : (pbytes (entsOf r.fields 0)).length / 12 = r.fields.length := by rw [hpl]; omega
      have hbp := base_pbytes hp r.fields.length (by rw [hel]; exact Nat.le_refl _)
      have htk : (entsOf r.fields 0).take r.fields.length = entsOf r.fields 0 := List.take_of_length_le (by rw [hel]; exact Nat.le_refl _)
      rw [htk, lens_entsOf] at hbp
      have hfld : fieldsP (wbytes r) (wbase r).toNat (entsOf r.fields 0) = .inr r.fields := by
        refine fieldsP_all _ _ _ _ hel fun i h1 h2 => ?_
        obtain ⟨_, a2, a3, a4, _⟩ := hat i h2
        have hg := goodF_eq (hall r.fields[i] (List.getElem_mem h2)).1
        rw [entsOf_get r.fields 0 i h1 h2]
        unfold oneP
        simp only
        have e1 : (0 + ((dataOf (r.fields.take i)).length : Int)).toNat = (dataOf (r.fields.take i)).length := by omega
        have e2 : (((fbytes r.fields[i]).length : Int) + 1).toNat = (fbytes r.fields[i]).length + 1 := by omega
        have e3 : (wbase r + ((dataOf (r.fields.take i)).length : Int)).toNat = (wbase r).toNat + (dataOf (r.fields.take i)).length := by omega
        rw [e3] at a2
        rw [e1, e2, show (wbase r).toNat + (dataOf (r.fields.take i)).length + ((fbytes r.fields[i]).length + 1) - 1 = (wbase r).toNat + (dataOf (r.fields.take i)).length + (fbytes r.fields[i]).length by omega, a4, if_neg (by simp)]
        rw [List.drop_take, show (wbase r).toNat + (dataOf (r.fields.take i)).length + (fbytes r.fields[i]).length - ((wbase r).toNat + (dataOf (r.fields.take i)).length) = (fbytes r.fields[i]).length by omega, a2, hg]
      unfold rparse
      rw [hframe]
      simp only
      rw [hdir, dirBad_ok fun j hj => good_pbytes hp j (by rw [hel]; omega)]
      simp only
      rw [hn, hbp, if_neg (by omega), entsTo_pbytes hp _ (by rw [hel]; exact Nat.le_refl _), htk, hfld]
end Go.Proofs.YteapibifebnboaaDoor
