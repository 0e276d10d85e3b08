/- MendKeeps: what is near a record, four ways, is mended into it. -/
import Derived.Test.YteapibifebnboaaDoorMndW
import Derived.Test.YteapibifebnboaaDoorMndR
set_option linter.unusedVariables false
set_option linter.unusedSimpArgs false
namespace Go.Proofs.YteapibifebnboaaDoor
open Go Go.Eng
theorem goodTag_30 {s : List Int} (h : goodTag s = true) : ∀ c ∈ s, 48 ≤ c := by
  simp only [goodTag, Bool.and_eq_true] at h
  intro c hc
  have := List.all_eq_true.1 h.1 c hc
  simp only [isTagC, Bool.or_eq_true, decide_eq_true_eq] at this
  omega
/-- What a record's bytes are made of. -/
structure Parts (b : List Int) (r : RV) : Prop where
  ok : pok 0 (entsOf r.fields 0) = true
  rest : b.drop 24 = pbytes (entsOf r.fields 0) ++ 30 :: (dataOf r.fields ++ [29])
  len : 24 ≤ b.length
  plen : (pbytes (entsOf r.fields 0)).length = 12 * r.fields.length
theorem rparts {b : List Int} {r : RV} (hb : inB b) (hr : rparse b = .inr r) : Parts b r := by
  have hRP := rparse_inr hr hb
  have hw := hRP.write
  have hs : soundL r.lead = true := by
    cases hs : soundL r.lead with
    | true => rfl
    | false => unfold rwrite at hw; rw [hs] at hw; cases hw
  unfold rwrite at hw
  rw [if_neg (by rw [hs]; simp)] at hw
  split at hw
  · cases hw
  · rename_i hbad
    split at hw
    · cases hw
    · rename_i h99
      have hbw : wbytes r = b := by cases hw; rfl
      have hwl : wlen r = wbase r + (dataOf r.fields).length + 1 := rfl
      have hwb : wbase r = 25 + 12 * (r.fields.length : Int) := rfl
      have hp := pok_entsOf (L := r.fields) (st := 0) (badFld_all hbad) (by omega)
      have hpl := pbytes_len hp
      rw [entsOf_length] at hpl
      refine ⟨hp, ?_, by have := hRP.len.1; omega, by omega⟩
      have hlb := leadB_len hs (wlen r) (wbase r)
      have e : b = leadB r.lead (wlen r) (wbase r) ++ (pbytes (entsOf r.fields 0) ++ 30 :: (dataOf r.fields ++ [29])) := by rw [← hbw]; unfold wbytes; simp
      rw [e]; exact List.drop_left' hlb
theorem ebytes_mem {e : Ent} (h1 : goodTag e.1 = true) (h2 : 0 ≤ e.2.1) (h3 : 0 ≤ e.2.2) : ∀ c ∈ ebytes e, 48 ≤ c := by
  intro c hc
  have d1 := fixedL_digits 4 e.2.1 h2
  have d2 := fixedL_digits 5 e.2.2 h3
  unfold ebytes at hc
  rcases List.mem_append.1 hc with hc | hc
  · rcases List.mem_append.1 hc with hc | hc
    · exact goodTag_30 h1 c hc
    · have := List.all_eq_true.1 d1 c hc; simp only [isD, decide_eq_true_eq] at this; omega
  · have := List.all_eq_true.1 d2 c hc; simp only [isD, decide_eq_true_eq] at this; omega
theorem pbytes_mem {L : List Ent} (h : pok 0 L = true) : ∀ c ∈ pbytes L, 48 ≤ c := by
  intro c hc
  obtain ⟨e, he, hc⟩ := List.mem_flatMap.1 hc
  obtain ⟨h1, h2, h3, h4, h5⟩ := pok_mem h e he
  exact ebytes_mem h1 (by omega) h4 c hc
theorem Parts.tags {b : List Int} {r : RV} (h : Parts b r) (i : Nat) (hi : i < r.fields.length) : ((pbytes (entsOf r.fields 0)).drop (12 * i)).take 3 = r.fields[i].tag := by
  have hi' : i < (entsOf r.fields 0).length := by rw [entsOf_length]; exact hi
  have h1 := blk_pbytes h.ok i hi'
  have h2 := (ent_parts h.ok (entsOf r.fields 0)[i] (List.getElem_mem hi')).1
  rw [← h1] at h2
  unfold blk at h2
  rw [List.take_take, show min 3 12 = 3 by omega, entsOf_get r.fields 0 i hi' hi] at h2
  exact h2
theorem Parts.near {b x : List Int} {r : RV} (h : Parts b r) {E : List Int} (hx : x.drop 24 = pbytes (entsOf r.fields 0) ++ 30 :: (dataOf r.fields ++ E)) (hE : E = [] ∨ E.head? = some 29) : Near x r (pbytes (entsOf r.fields 0)) E :=
  ⟨hx, h.plen, fun c hc => by have := pbytes_mem h.ok c hc; omega, h.tags, hE⟩
theorem padC_of {x b : List Int} {i : Nat} (h1 : i < x.length) (h2 : i < b.length) (h : x.getD i 0 = b.getD i 0) : padC x i = padC b i := by
  unfold padC; rw [if_pos h1, if_pos h2, h]
theorem Parts.blen {b : List Int} {r : RV} (h : Parts b r) : b.length = 24 + 12 * r.fields.length + (dataOf r.fields).length + 2 := by
  have h1 := congrArg List.length h.rest
  have h2 := h.plen
  have h3 := h.len
  simp only [List.length_drop, List.length_append, List.length_cons, List.length_nil] at h1
  omega
section
variable {b : List Int} {r : RV} (hb : inB b) (hr : rparse b = .inr r) (hne : ∀ f ∈ r.fields, fbytes f ≠ [])
include hb hr hne
theorem keep_less : mendM (b.take (b.length - 1)) = b := by
  have hp := rparts hb hr
  have hbl := hp.blen
  have hx := rparse_take hr hb (k := b.length - 1) (by omega)
  rw [if_neg (by omega)] at hx
  refine near_mend hb hr (hp.near (E := []) ?_ (.inl rfl)) hne (fun i hi _ => padC_of (by rw [List.length_take]; omega) (by omega) (by
    rw [List.getD_eq_getElem?_getD, List.getElem?_take, if_pos (by omega), ← List.getD_eq_getElem?_getD])) hx
  rw [List.drop_take, hp.rest]
  have hpl := hp.plen
  have e : pbytes (entsOf r.fields 0) ++ 30 :: (dataOf r.fields ++ [29]) = (pbytes (entsOf r.fields 0) ++ 30 :: (dataOf r.fields ++ [])) ++ [29] := by simp
  rw [e]
  exact List.take_left' (by rw [List.length_append, List.length_cons, List.length_append, List.length_nil, hpl]; omega)
theorem keep_more (c : Int) : mendM (b ++ [c]) = b := by
  have hp := rparts hb hr
  have hbl := hp.blen
  have hx := rparse_more hr (m := [c]) (by simp)
  refine near_mend hb hr (hp.near (E := [29, c]) ?_ (.inr rfl)) hne (fun i hi _ => padC_of (by rw [List.length_append]; omega) (by omega) (by
    rw [List.getD_eq_getElem?_getD, List.getElem?_append_left (by omega), ← List.getD_eq_getElem?_getD])) hx
  rw [List.drop_append_of_le_length hp.len, hp.rest]; simp
theorem keep_num (j : Nat) (hj : j < 5) : mendM (b.set j 55) = b := by
  have hp := rparts hb hr
  have hbl := hp.blen
  have hxb : inB (b.set j 55) := fun d hd => by
    rcases List.mem_or_eq_of_mem_set hd with hd | rfl
    · exact hb d hd
    · omega
  have hdr : (b.set j 55).drop 24 = b.drop 24 := by rw [List.drop_set, if_pos (by omega)]
  cases hx : rparse (b.set j 55) with
  | inr q =>
    have key : ∀ {y : List Int} {q : RV}, rparse y = .inr q → y.take 5 = fixedL 5 y.length := fun {y q} hq => by
      have hf : ∃ bs, frameP y = .inr bs := by
        unfold rparse at hq
        split at hq
        · cases hq
        · rename_i bs hf; exact ⟨bs, hf⟩
      obtain ⟨bs, hf⟩ := hf
      obtain ⟨f1, f2, f3, f4, f5, f6, f7, f8, f9⟩ := frameP_inr hf
      rw [← f2]
      exact (fixedL_valOf 5 (y.take 5) (by have := (ledAt_all f1).1; rw [List.length_take]; omega) (led_digits f1).1).symm
    have e1 := key hx
    have e2 := key hr
    rw [List.length_set] at e1
    have e : b.set j 55 = b := by
      have ed : (b.set j 55).drop 5 = b.drop 5 := by rw [List.drop_set, if_pos hj]
      exact (List.take_append_drop 5 (b.set j 55)).symm.trans ((by rw [e1.trans e2.symm, ed] : _ = b.take 5 ++ b.drop 5).trans (List.take_append_drop 5 b))
    rw [e]; exact mend_good hr
  | inl y =>
    obtain ⟨e, a⟩ := y
    refine near_mend hb hr (hp.near (E := [29]) (hdr.trans hp.rest) (.inr rfl)) hne (fun i hi hn => padC_of (by rw [List.length_set]; omega) (by omega) ?_) hx
    have hij : j ≠ i := by
      intro e; subst e
      unfold numAt at hn; simp at hn; omega
    rw [List.getD_eq_getElem?_getD, List.getElem?_set_ne hij, ← List.getD_eq_getElem?_getD]
theorem keep_dir (h0 : r.fields ≠ []) : mendM (b.set 27 122) = b := by
  have hp := rparts hb hr
  have hbl := hp.blen
  have hpl := hp.plen
  have hl0 : 0 < r.fields.length := List.length_pos_iff.2 h0
  have hxb : inB (b.set 27 122) := fun d hd => by
    rcases List.mem_or_eq_of_mem_set hd with hd | rfl
    · exact hb d hd
    · omega
  have hdr : (b.set 27 122).drop 24 = (pbytes (entsOf r.fields 0)).set 3 122 ++ 30 :: (dataOf r.fields ++ [29]) := by
    rw [List.drop_set, if_neg (by omega), hp.rest, List.set_append_left _ _ (by omega)]
  cases hx : rparse (b.set 27 122) with
  | inr q =>
    exfalso
    have hq := rparts hxb hx
    have hql := hq.blen
    rw [List.length_set] at hql
    have hg : (b.set 27 122).getD 27 0 = 122 := by rw [List.getD_eq_getElem?_getD, List.getElem?_set_self (by omega)]; rfl
    have hg2 : ((b.set 27 122).drop 24).getD 3 0 = 122 := (show _ = (b.set 27 122).getD 27 0 by simp only [List.getD_eq_getElem?_getD, List.getElem?_drop]).trans hg
    have hqp := hq.plen
    by_cases h0q : q.fields.length = 0
    · have hnil : q.fields = [] := List.eq_nil_of_length_eq_zero h0q
      rw [hnil] at hql
      simp [dataOf] at hql
      omega
    · have hi' : 0 < (entsOf q.fields 0).length := by rw [entsOf_length]; omega
      have h1 := blk_pbytes hq.ok 0 hi'
      have hm : (entsOf q.fields 0)[0] ∈ entsOf q.fields 0 := List.getElem_mem hi'
      have h2 := (ent_parts hq.ok _ hm).2.1
      have h3 := pok_mem hq.ok _ hm
      have d1 := fixedL_digits 4 (entsOf q.fields 0)[0].2.1 (by omega)
      rw [← h2, ← h1] at d1
      have := all_get d1 0 (by unfold blk; simp [hqp]; omega)
      have e : (((blk (pbytes (entsOf q.fields 0)) 0).drop 3).take 4).getD 0 0 = 122 := by
        rw [← hg2, hq.rest]
        unfold blk
        rw [List.getD_eq_getElem?_getD, List.getD_eq_getElem?_getD, List.getElem?_append_left (by omega)]
        simp [List.getElem?_take, List.getElem?_drop]
      rw [e] at this
      cases this
  | inl y =>
    obtain ⟨e, a⟩ := y
    refine near_mend hb hr ⟨hdr, by rw [List.length_set]; exact hpl, fun c hc => ?_, fun i hi => ?_, .inr rfl⟩ hne (fun i hi hn => padC_of (by rw [List.length_set]; omega) (by omega) ?_) hx
    · rcases List.mem_or_eq_of_mem_set hc with hc | rfl
      · have := pbytes_mem hp.ok c hc; omega
      · omega
    · rw [← hp.tags i hi]
      rw [List.drop_set]
      split
      · rfl
      · rw [List.take_set, List.set_eq_of_length_le (by rw [List.length_take]; omega)]
    · rw [List.getD_eq_getElem?_getD, List.getElem?_set_ne (by omega), ← List.getD_eq_getElem?_getD]
end
end Go.Proofs.YteapibifebnboaaDoor
