/- A record whose fields stand where they should is mended into itself. -/
import Derived.Test.YteapibifebnboaaDoorMndU
import Derived.Test.YteapibifebnboaaDoorMndN
import Derived.Test.YteapibifebnboaaDoorMndQ
set_option linter.unusedVariables false
set_option linter.unusedSimpArgs false
namespace Go.Proofs.YteapibifebnboaaDoor
open Go Go.Eng
theorem leadM_same {x b : List Int} (h : ∀ i : Nat, i < 24 → numAt i = false → padC x i = padC b i) : leadM x = leadM b := by
  refine leadM_ext (leadM_len x) fun i hi => ?_
  rw [leadM_get x i hi]
  cases hn : numAt i with
  | true => unfold leadC; rw [if_pos hn, if_pos hn]
  | false => unfold leadC; rw [h i hi hn]
theorem leadB_lead {b : List Int} (h24 : 24 ≤ b.length) (hs : soundL (b.take 24) = true) (l w : Int) : leadB (leadM b) l w = leadB (b.take 24) l w := by
  obtain ⟨p1, p2⟩ := lead_parts h24 hs
  unfold leadB
  have e : ∀ z : List Int, (z.drop 5).take 7 = (z.take 12).drop 5 := fun z => by rw [List.drop_take]
  rw [e, e, p1, p2, List.take_take, show min 12 24 = 12 by omega]
theorem badFrom_neg : ∀ {l : List Int} {i : Nat}, badFrom l i < 0 → Free l
  | [], _, _ => fun c hc => by cases hc
  | c :: t, i, h => by
    unfold badFrom at h
    split at h
    · rename_i hc
      intro d hd
      rcases List.mem_cons.1 hd with rfl | hd
      · exact hc
      · exact badFrom_neg h d hd
    · omega
theorem ctl_parts {f : FV} (h : goodF f = true) (hc : ctl f.tag = true) : f = ⟨f.tag, fbytes f, 0, 0, []⟩ ∧ Free (fbytes f) := by
  have hp := goodF_eq h
  have hg := goodF_tag h
  unfold fparse at hp
  rw [if_neg (by rw [hg]; simp), if_pos hc] at hp
  split at hp
  · rename_i hb
    exact ⟨(Sum.inr.inj hp).symm, badFrom_neg hb⟩
  · cases hp
theorem free_ne {c : Int} (h : freeB c = true) : c ≠ 29 ∧ c ≠ 30 ∧ c ≠ 31 := by
  simp only [freeB, Bool.and_eq_true, decide_eq_true_eq] at h
  exact ⟨h.1.1, h.1.2, h.2⟩
theorem code_ge {c : Int} (h : codeB c = true) : 33 ≤ c := by
  simp only [codeB, Bool.and_eq_true, decide_eq_true_eq] at h; omega
theorem ind_ge {c : Int} (h : indB c = true) : 32 ≤ c := by
  simp only [indB, Bool.and_eq_true, decide_eq_true_eq] at h; exact h.1
theorem fbytes_free {f : FV} (h : goodF f = true) : ∀ c ∈ fbytes f, c ≠ 29 ∧ c ≠ 30 := by
  intro c hcm
  cases hc : ctl f.tag with
  | true => have := free_ne ((ctl_parts h hc).2 c hcm); exact ⟨this.1, this.2.1⟩
  | false =>
    have P := cut_parts h hc
    rw [P.bytes] at hcm
    rcases List.mem_cons.1 hcm with rfl | hcm
    · have := ind_ge P.i0; omega
    · rcases List.mem_cons.1 hcm with rfl | hcm
      · have := ind_ge P.i1; omega
      · obtain ⟨s, hs, hcm⟩ := List.mem_flatMap.1 hcm
        obtain ⟨g1, g2⟩ := P.good s hs
        unfold subB at hcm
        rcases List.mem_cons.1 hcm with rfl | hcm
        · omega
        · rcases List.mem_cons.1 hcm with rfl | hcm
          · have := code_ge g1; omega
          · have := free_ne (g2 c hcm); exact ⟨this.1, this.2.1⟩
theorem splitL_subs : ∀ S : List SubV, (∀ s ∈ S, gsub s) → splitL 31 (S.flatMap subB) = [] :: S.map fun s => s.1 :: s.2
  | [], _ => rfl
  | s :: S, h => by
    obtain ⟨g1, g2⟩ := h s (List.mem_cons_self ..)
    have ih := splitL_subs S fun q hq => h q (List.mem_cons_of_mem _ hq)
    have hr : S.flatMap subB = [] ∨ (S.flatMap subB).head? = some 31 := by
      cases S with
      | nil => exact .inl rfl
      | cons q S => exact .inr rfl
    rw [List.flatMap_cons, show subB s ++ S.flatMap subB = 31 :: ((s.1 :: s.2) ++ S.flatMap subB) from rfl, splitL, if_pos rfl]
    rw [splitL_app (s.1 :: s.2) _ (fun x hx => (List.mem_cons.1 hx).elim (fun e => by have := code_ge g1; omega) (fun hx => (free_ne (g2 x hx)).2.2)) hr, ih]
    rfl
theorem capS_all : ∀ (S : List SubV) (r : Nat), (S.flatMap subB).length ≤ r → capS r S = S
  | [], _, _ => by unfold capS; rfl
  | s :: S, r, h => by
    rw [List.flatMap_cons, List.length_append] at h
    have hs : (subB s).length = 2 + s.2.length := by simp [subB]; omega
    rw [capS, if_neg (by omega), List.take_of_length_le (by omega), capS_all S _ (by omega)]
theorem subOf_map : ∀ S : List SubV, (∀ s ∈ S, gsub s) → (S.map fun s => s.1 :: s.2).flatMap subOf = S
  | [], _ => rfl
  | s :: S, h => by
    rw [List.map_cons, List.flatMap_cons, subOf_map S fun q hq => h q (List.mem_cons_of_mem _ hq)]
    rw [show subOf (s.1 :: s.2) = [s] by show (if codeB s.1 = true then _ else _) = _; rw [if_pos (h s (List.mem_cons_self ..)).1]]
    rfl
theorem pick_back {f : FV} (h : goodF f = true) (hl : (fbytes f).length < 9999) (hne : fbytes f ≠ []) : pick f.tag (fbytes f) = some f := by
  cases hc : ctl f.tag with
  | true =>
    obtain ⟨e, hf⟩ := ctl_parts h hc
    have hno : noB 31 (fbytes f) = fbytes f := noB_none 31 _ (List.count_eq_zero.2 fun hm => (free_ne (hf 31 hm)).2.2 rfl)
    unfold pick
    rw [if_pos hc]
    unfold ctlM
    rw [hno, List.take_of_length_le (by omega)]
    exact congrArg some e.symm
  | false =>
    have P := cut_parts h hc
    have hS : subsM (f.subs.flatMap subB) = f.subs := by
      unfold subsM
      rw [splitL_subs _ P.good]
      show subHd [] ++ (f.subs.map fun s => s.1 :: s.2).flatMap subOf = f.subs
      rw [subOf_map _ P.good]; rfl
    have hn : nI (fbytes f) = 2 := by
      rw [P.bytes]
      unfold nI
      have h0 := ind_ge P.i0
      have h1 := ind_ge P.i1
      rw [List.takeWhile_cons_of_pos (by simp; omega), List.takeWhile_cons_of_pos (by simp; omega)]
      cases hs : f.subs with
      | nil => exact absurd hs P.subs
      | cons s S => rw [List.flatMap_cons]; show ((List.takeWhile _ (31 :: _)).length + 1) + 1 = 2; rw [List.takeWhile_cons_of_neg (by simp)]; rfl
    have hm : mI (fbytes f) = 2 := by unfold mI; rw [hn]; rfl
    have hlen : (f.subs.flatMap subB).length ≤ 9996 := by rw [P.bytes] at hl; simp only [List.length_cons] at hl; omega
    have hd : datM f.tag (fbytes f) = f := by
      unfold datM indM
      rw [hm, P.bytes]
      rw [show (f.i0 :: f.i1 :: f.subs.flatMap subB).drop 2 = f.subs.flatMap subB from rfl, hS, capS_all _ _ hlen]
      rw [show (f.i0 :: f.i1 :: f.subs.flatMap subB).getD 0 0 = f.i0 from rfl, show (f.i0 :: f.i1 :: f.subs.flatMap subB).getD 1 0 = f.i1 from rfl]
      rw [if_pos ⟨by omega, P.i0⟩, if_pos ⟨by omega, P.i1⟩, ← P.text]
    unfold pick
    rw [if_neg (by rw [hc]; simp), hd, if_neg P.subs]
theorem fitF_all : ∀ (L : List FV) (r : Nat), (∀ f ∈ L, pick f.tag (fbytes f) = some f) → 12 * L.length + (dataOf L).length ≤ r → fitF r (L.map fun f => (f.tag, fbytes f)) = L
  | [], _, _, _ => rfl
  | f :: L, r, h, hr => by
    have hd : (dataOf (f :: L)).length = (fbytes f).length + 1 + (dataOf L).length := by
      unfold dataOf; rw [List.flatMap_cons, List.length_append]; simp [fdata]
    rw [hd, List.length_cons] at hr
    rw [List.map_cons, fitF_cons]
    simp only
    rw [h f (List.mem_cons_self ..)]
    simp only
    rw [if_neg (by omega), fitF_all L _ (fun g hg => h g (List.mem_cons_of_mem _ hg)) (by omega)]
/-- What is told of bytes that hold a record's fields. -/
structure Near (x : List Int) (r : RV) (P E : List Int) : Prop where
  parts : x.drop 24 = P ++ 30 :: (dataOf r.fields ++ E)
  plen : P.length = 12 * r.fields.length
  p30 : ∀ c ∈ P, c ≠ 30
  tags : ∀ i (h : i < r.fields.length), (P.drop (12 * i)).take 3 = r.fields[i].tag
  fin : E = [] ∨ E.head? = some 29
theorem upTo_stop {c : Int} {l r : List Int} (h : ∀ x ∈ l, x ≠ c) (hr : r = [] ∨ r.head? = some c) : upTo c (l ++ r) = l := by
  induction l with
  | nil =>
    rcases hr with rfl | hr
    · rfl
    · cases r with
      | nil => cases hr
      | cons y t => cases hr; unfold upTo; rw [List.nil_append, List.takeWhile_cons_of_neg (by simp)]
  | cons y t ih =>
    have := ih fun z hz => h z (List.mem_cons_of_mem _ hz)
    unfold upTo at *
    rw [List.cons_append, List.takeWhile_cons_of_pos (by simpa using h y (List.mem_cons_self ..)), this]
theorem dataOf_free {L : List FV} (h : ∀ f ∈ L, goodF f = true) : ∀ c ∈ dataOf L, c ≠ 29 := by
  intro c hc
  obtain ⟨f, hf, hc⟩ := List.mem_flatMap.1 hc
  unfold fdata at hc
  rcases List.mem_append.1 hc with hc | hc
  · exact (fbytes_free (h f hf) c hc).1
  · simp at hc; omega
theorem near_rec {x : List Int} {r : RV} {P E : List Int} (h : Near x r P E) (hall : ∀ f ∈ r.fields, goodF f = true ∧ (fbytes f).length < 9999) (hne : ∀ f ∈ r.fields, fbytes f ≠ []) (hw : wlen r ≤ 99999) :
    (recM x).fields = r.fields := by
  have hlin : linesM x = P := by
    unfold linesM; rw [h.parts]; exact upTo_stop h.p30 (.inr rfl)
  have hraw : rawM x = dataOf r.fields := by
    unfold rawM
    rw [hlin, h.parts, show P ++ 30 :: (dataOf r.fields ++ E) = (P ++ [30]) ++ (dataOf r.fields ++ E) by simp, List.drop_left' (by simp)]
    exact upTo_stop (dataOf_free fun f hf => (hall f hf).1) h.fin
  have hlist : listM x = r.fields.map fbytes := by
    unfold listM
    rw [hraw]
    have e : dataOf r.fields = (r.fields.map fbytes).flatMap fun p => p ++ [30] := by unfold dataOf; rw [List.flatMap_map]; rfl
    rw [e, splitL_flat _ fun p hp c hc => by
      obtain ⟨f, hf, rfl⟩ := List.mem_map.1 hp
      exact (fbytes_free (hall f hf).1 c hc).2]
    unfold dropE
    rw [if_pos (by simp)]; simp
  have htag : ∀ i (hi : i < r.fields.length), tagM x i = r.fields[i].tag := by
    intro i hi
    have ht : tagAt x i = r.fields[i].tag := by unfold tagAt; rw [hlin]; exact h.tags i hi
    have hg := goodF_tag (hall r.fields[i] (List.getElem_mem hi)).1
    unfold tagM
    rw [hlin, h.plen, ht, if_pos ⟨by omega, hg⟩]
  have hpairs : pairsM x = r.fields.map fun f => (f.tag, fbytes f) := by
    unfold pairsM
    rw [hlist]
    apply List.ext_getElem
    · simp [tagsM_len]
    · intro i h1 h2
      have hi : i < r.fields.length := by simpa using h2
      rw [List.getElem_zip, List.getElem_map, List.getElem_map]
      have : (tagsM x (r.fields.map fbytes).length)[i]'(by rw [tagsM_len]; simpa using hi) = tagM x i := by simp [tagsM]
      rw [this, htag i hi]
  show fitF 99973 (pairsM x) = r.fields
  rw [hpairs]
  refine fitF_all _ _ (fun f hf => pick_back (hall f hf).1 (hall f hf).2 (hne f hf)) ?_
  have hwl : wlen r = wbase r + (dataOf r.fields).length + 1 := rfl
  have hwb : wbase r = 25 + 12 * (r.fields.length : Int) := rfl
  omega
theorem near_mend {b x : List Int} {r : RV} {P E : List Int} (hb : inB b) (hr : rparse b = .inr r) (h : Near x r P E) (hne : ∀ f ∈ r.fields, fbytes f ≠ [])
    (hlead : ∀ i : Nat, i < 24 → numAt i = false → padC x i = padC b i) {e a : Int} (hx : rparse x = .inl (e, a)) : mendM x = b := by
  have hRP := rparse_inr hr hb
  have hw := hRP.write
  have hs : soundL r.lead = true := by
    cases hs : soundL r.lead with
    | true => rfl
    | false => unfold rwrite at hw; rw [hs] at hw; cases hw
  have hwl : wlen r ≤ 99999 ∧ b = wbytes r ∧ badFld r.fields 0 = none := by
    unfold rwrite at hw
    rw [if_neg (by rw [hs]; simp)] at hw
    split at hw
    · cases hw
    · rename_i hbad
      split at hw
      · cases hw
      · rename_i h99; cases hw; exact ⟨by omega, rfl, hbad⟩
  obtain ⟨h99, hbw, hbad⟩ := hwl
  have hF := near_rec h (badFld_all hbad) hne h99
  have hL : leadM x = leadM b := leadM_same hlead
  have h24 : 24 ≤ b.length := by have := hRP.len.1; omega
  have hlb : ∀ l w, leadB (leadM x) l w = leadB r.lead l w := fun l w => by
    rw [hL, leadB_lead h24 (by rw [← hRP.lead]; exact hs), ← hRP.lead]
  have : mendM x = wbytes (recM x) := by unfold mendM; rw [hx]
  rw [this]
  have e1 : wlen (recM x) = wlen r := by unfold wlen wbase; rw [hF]
  have e2 : wbase (recM x) = wbase r := by unfold wbase; rw [hF]
  have e3 : wbytes (recM x) = wbytes r := by
    unfold wbytes
    rw [e1, e2, hF, show (recM x).lead = leadM x from rfl, hlb]
  rw [e3]; exact hbw.symm
end Go.Proofs.YteapibifebnboaaDoor
