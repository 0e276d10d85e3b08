/- What is mended can be written. -/
import Derived.Test.YteapibifebnboaaDoorMndJ
import Derived.Test.YteapibifebnboaaDoorMndB
set_option linter.unusedVariables false
set_option linter.unusedSimpArgs false
namespace Go.Proofs.YteapibifebnboaaDoor
open Go Go.Eng
def Free (t : List Int) : Prop := ∀ c ∈ t, freeB c = true
theorem badFrom_free : ∀ {t : List Int} (i : Nat), Free t → badFrom t i = -1
  | [], _, _ => rfl
  | c :: t, i, h => by rw [badFrom, if_pos (h c (List.mem_cons_self ..)), badFrom_free (i + 1) fun d hd => h d (List.mem_cons_of_mem _ hd)]
theorem tw_free : ∀ {t r : List Int}, Free t → (∀ c, r.head? = some c → freeB c = false) → (t ++ r).takeWhile freeB = t
  | [], [], _, _ => rfl
  | [], c :: r, _, h => by rw [List.nil_append, List.takeWhile_cons_of_neg (by rw [h c rfl]; simp)]
  | c :: t, r, ht, h => by rw [List.cons_append, List.takeWhile_cons_of_pos (ht c (List.mem_cons_self ..)), tw_free (fun d hd => ht d (List.mem_cons_of_mem _ hd)) h]
theorem flat_head (L : List SubV) (c : Int) (h : (L.flatMap subB).head? = some c) : freeB c = false := by
  cases L with
  | nil => cases h
  | cons s L => rw [List.flatMap_cons] at h; cases h; rfl
/-- Subfields that may be. -/
def OkS (s : SubV) : Prop := codeB s.1 = true ∧ Free s.2 ∧ inB s.2
theorem oneOf_flat (s : SubV) (L : List SubV) (h : OkS s) : oneOf ((s :: L).flatMap subB) = (s.1, s.2, ((2 + s.2.length : Nat) : Int), 0) := by
  rw [List.flatMap_cons]
  have e : subB s ++ L.flatMap subB = 31 :: s.1 :: (s.2 ++ L.flatMap subB) := rfl
  have htw : ((31 :: s.1 :: (s.2 ++ L.flatMap subB)).drop 2).takeWhile freeB = s.2 := tw_free h.2.1 (flat_head L)
  rw [e]
  unfold oneOf
  rw [if_neg (by simp), if_neg (fun h1 => h1.elim (fun h1 => by simp only [List.length_cons] at h1; omega) (fun h1 => by rw [show (31 :: s.1 :: (s.2 ++ L.flatMap subB)).getD 1 0 = s.1 from rfl, h.1] at h1; cases h1)), htw]
  rfl
theorem subsP_of : ∀ (L : List SubV) (k at_ : Nat), L ≠ [] → L.length ≤ k → (∀ s ∈ L, OkS s) → subsP k (L.flatMap subB) at_ = (-1, L)
  | [], _, _, h, _, _ => absurd rfl h
  | s :: L, 0, _, _, h, _ => by simp at h
  | s :: L, k + 1, at_, _, hk, hL => by
    have ho := oneOf_flat s L (hL s (List.mem_cons_self ..))
    unfold subsP
    simp only [ho]
    have hlen : ((s :: L).flatMap subB).length = 2 + s.2.length + (L.flatMap subB).length := by
      rw [List.flatMap_cons, List.length_append]; simp [subB]; omega
    rw [if_neg (by omega), hlen]
    cases L with
    | nil => rw [if_pos (by simp only [List.flatMap_nil, List.length_nil]; omega)]
    | cons s2 L =>
      have hl2 : 1 ≤ ((s2 :: L).flatMap subB).length := by rw [List.flatMap_cons, List.length_append]; simp [subB]; omega
      rw [if_neg (by omega)]
      have hd : ((s :: s2 :: L).flatMap subB).drop (((2 + s.2.length : Nat) : Int).toNat) = (s2 :: L).flatMap subB := by
        rw [show (s :: s2 :: L).flatMap subB = subB s ++ (s2 :: L).flatMap subB from rfl]
        exact List.drop_left' (by simp only [subB, List.length_cons]; omega)
      rw [hd, subsP_of (s2 :: L) k _ (by simp) (by simpa using hk) fun s hs => hL s (List.mem_cons_of_mem _ hs)]
theorem fparse_data {tag : List Int} {x y : Int} {L : List SubV} (hg : goodTag tag = true) (hc : ctl tag = false) (hx : indB x = true) (hy : indB y = true) (hne : L ≠ []) (hL : ∀ s ∈ L, OkS s) :
    fparse tag (x :: y :: L.flatMap subB) = .inr ⟨tag, [], x, y, L⟩ := by
  have hk : L.length ≤ (x :: y :: L.flatMap subB).length + 1 := by
    have := flat_cnt L
    simp only [List.length_cons]; omega
  unfold fparse
  rw [if_neg (by rw [hg]; simp), if_neg (by rw [hc]; simp), if_neg (fun h => h.elim (fun h => by simp only [List.length_cons] at h; omega) (fun h => by rw [show (x :: y :: L.flatMap subB).getD 0 0 = x from rfl, hx] at h; cases h)),
    if_neg (fun h => h.elim (fun h => by simp only [List.length_cons] at h; omega) (fun h => by rw [show (x :: y :: L.flatMap subB).getD 1 0 = y from rfl, hy] at h; cases h))]
  rw [show (x :: y :: L.flatMap subB).drop 2 = L.flatMap subB from rfl, subsP_of L _ 2 hne hk hL]
  rfl
theorem fparse_ctl {tag b : List Int} (hg : goodTag tag = true) (hc : ctl tag = true) (hb : Free b) : fparse tag b = .inr ⟨tag, b, 0, 0, []⟩ := by
  unfold fparse
  rw [if_neg (by rw [hg]; simp), if_pos hc, badFrom_free 0 hb, if_pos (by omega)]
/-! ### Pieces -/
theorem splitL_no {c : Int} {l : List Int} : ∀ p ∈ splitL c l, ∀ x ∈ p, x ≠ c ∧ x ∈ l := by
  induction l with
  | nil => intro p hp; simp [splitL] at hp; subst hp; intro x hx; cases hx
  | cons y t ih =>
    intro p hp
    unfold splitL at hp
    split at hp
    · rcases List.mem_cons.1 hp with rfl | h
      · intro x hx; cases hx
      · intro x hx; exact ⟨(ih p h x hx).1, List.mem_cons_of_mem _ (ih p h x hx).2⟩
    · rename_i hy
      split at hp
      · simp at hp; subst hp; intro x hx; simp at hx; subst hx; exact ⟨hy, List.mem_cons_self ..⟩
      · rename_i q qs e
        rw [e] at ih
        rcases List.mem_cons.1 hp with rfl | h
        · intro x hx
          rcases List.mem_cons.1 hx with rfl | hx
          · exact ⟨hy, List.mem_cons_self ..⟩
          · exact ⟨(ih q (List.mem_cons_self ..) x hx).1, List.mem_cons_of_mem _ (ih q (List.mem_cons_self ..) x hx).2⟩
        · intro x hx; exact ⟨(ih p (List.mem_cons_of_mem _ h) x hx).1, List.mem_cons_of_mem _ (ih p (List.mem_cons_of_mem _ h) x hx).2⟩
/-- A piece: no byte ends a field or a record. -/
def Piece (p : List Int) : Prop := inB p ∧ ∀ c ∈ p, c ≠ 29 ∧ c ≠ 30
theorem upTo_no {c x : Int} {b : List Int} (h : x ∈ upTo c b) : x ≠ c := by
  unfold upTo at h
  induction b with
  | nil => cases h
  | cons y t ih =>
    by_cases e : y = c
    · rw [List.takeWhile_cons_of_neg (by simp [e])] at h; cases h
    · rw [List.takeWhile_cons_of_pos (by simpa using e)] at h
      rcases List.mem_cons.1 h with rfl | h
      · exact e
      · exact ih h
theorem dropE_sub {T : List (List Int)} {p : List Int} (h : p ∈ dropE T) : p ∈ T := by
  unfold dropE at h
  split at h
  · exact List.dropLast_subset _ h
  · exact h
theorem listM_piece {b p : List Int} (hb : inB b) (h : p ∈ listM b) : Piece p := by
  have h := dropE_sub h
  have hri : inB (rawM b) := upTo_in (inB_drop (inB_drop hb _) _)
  refine ⟨splitL_in hri p h, fun c hc => ?_⟩
  have := splitL_no p h c hc
  exact ⟨upTo_no this.2, this.1⟩
theorem piece_free {p : List Int} (h : Piece p) (h31 : ∀ c ∈ p, c ≠ 31) : Free p := fun c hc => by
  have := h.2 c hc
  have h3 := h31 c hc
  simp [freeB, this.1, this.2, h3]
theorem noB_free {p : List Int} (h : Piece p) (n : Nat) : Free ((noB 31 p).take n) := fun c hc => by
  have hm := List.mem_of_mem_take hc
  unfold noB at hm
  rw [List.mem_filter] at hm
  have := h.2 c hm.1
  have h3 : c ≠ 31 := by simpa using hm.2
  simp [freeB, this.1, this.2, h3]
theorem subsM_ok {p : List Int} (h : Piece p) : ∀ s ∈ subsM p, OkS s := fun s hs => by
  obtain ⟨q, hq, hs⟩ := subsM_from hs
  have hno := splitL_no q hq
  have hf : Free q := fun c hc => by
    have h1 := hno c hc
    have h2 := h.2 c h1.2
    simp [freeB, h2.1, h2.2, h1.1]
  have hi : inB q := splitL_in h.1 q hq
  rcases hs with ⟨rfl, _⟩ | ⟨x, t, rfl, hx, rfl⟩
  · exact ⟨rfl, hf, hi⟩
  · exact ⟨hx, fun c hc => hf c (List.mem_cons_of_mem _ hc), fun c hc => hi c (List.mem_cons_of_mem _ hc)⟩
theorem capS_ok : ∀ (r : Nat) {L : List SubV}, (∀ s ∈ L, OkS s) → ∀ s ∈ capS r L, OkS s
  | _, [], _, s, h => by unfold capS at h; cases h
  | r, q :: L, hL, s, h => by
    unfold capS at h
    split at h
    · cases h
    · rcases List.mem_cons.1 h with rfl | h
      · exact ⟨(hL q (List.mem_cons_self ..)).1, fun c hc => (hL q (List.mem_cons_self ..)).2.1 c (List.mem_of_mem_take hc), inB_take (hL q (List.mem_cons_self ..)).2.2 _⟩
      · exact capS_ok _ (fun s hs => hL s (List.mem_cons_of_mem _ hs)) s h
theorem capS_len : ∀ (r : Nat) (L : List SubV), ((capS r L).flatMap subB).length ≤ r
  | _, [] => by unfold capS; simp
  | r, q :: L => by
    unfold capS
    split
    · simp
    · rw [List.flatMap_cons, List.length_append]
      have := capS_len (r - 2 - (q.2.take (r - 2)).length) L
      have h2 : (q.2.take (r - 2)).length ≤ r - 2 := by rw [List.length_take]; omega
      simp only [subB, List.length_cons] at *
      omega
theorem indM_ok (p : List Int) (k : Nat) : indB (indM p k) = true := by
  unfold indM
  split
  · rename_i h; exact h.2
  · rfl
theorem indB_in {c : Int} (h : indB c = true) : 0 ≤ c ∧ c < 256 := by
  unfold indB at h
  rw [Bool.and_eq_true] at h
  have h1 := of_decide_eq_true h.1
  have h2 := of_decide_eq_true h.2
  omega
/-- The field of a piece, if it is one. -/
def pick (tag p : List Int) : Option FV := if ctl tag = true then some (ctlM tag p) else if (datM tag p).subs = [] then none else some (datM tag p)
theorem pick_ok {tag p : List Int} {f : FV} (hg : goodTag tag = true) (hp : Piece p) (h : pick tag p = some f) : fparse f.tag (fbytes f) = .inr f ∧ f.tag = tag ∧ (fbytes f).length ≤ 9998 ∧ inB (fbytes f) := by
  unfold pick at h
  split at h
  · rename_i hc
    cases h
    have e : fbytes (ctlM tag p) = (noB 31 p).take 9998 := by unfold fbytes ctlM; rw [if_pos hc]
    rw [e]
    refine ⟨fparse_ctl hg hc (noB_free hp _), rfl, by rw [List.length_take]; omega, fun c hc => ?_⟩
    have hm := List.mem_of_mem_take hc
    unfold noB at hm
    exact hp.1 c (List.mem_filter.1 hm).1
  · rename_i hc
    split at h
    · cases h
    · rename_i hne
      cases h
      have hc' : ctl tag = false := by cases h : ctl tag with | true => exact absurd h hc | false => rfl
      have hpd : Piece (p.drop (mI p)) := ⟨inB_drop hp.1 _, fun c hc => hp.2 c (List.mem_of_mem_drop hc)⟩
      have hok : ∀ s ∈ (datM tag p).subs, OkS s := capS_ok _ (subsM_ok hpd)
      have e : fbytes (datM tag p) = indM p 0 :: indM p 1 :: (datM tag p).subs.flatMap subB := by unfold fbytes; rw [if_neg (show ¬ ctl (datM tag p).tag = true from hc)]; rfl
      rw [e]
      refine ⟨fparse_data hg hc' (indM_ok p 0) (indM_ok p 1) hne hok, rfl, ?_, ?_⟩
      · have := capS_len 9996 (subsM (p.drop (mI p)))
        simp only [List.length_cons]
        show ((capS 9996 (subsM (p.drop (mI p)))).flatMap subB).length + 1 + 1 ≤ 9998
        omega
      · intro c hc
        rcases List.mem_cons.1 hc with rfl | hc
        · exact indB_in (indM_ok p 0)
        · rcases List.mem_cons.1 hc with rfl | hc
          · exact indB_in (indM_ok p 1)
          · obtain ⟨s, hs, hc⟩ := List.mem_flatMap.1 hc
            have hk := hok s hs
            unfold subB at hc
            rcases List.mem_cons.1 hc with rfl | hc
            · omega
            · rcases List.mem_cons.1 hc with rfl | hc
              · have h1 := hk.1
                unfold codeB at h1
                rw [Bool.and_eq_true] at h1
                have h2 := of_decide_eq_true h1.1
                have h3 := of_decide_eq_true h1.2
                omega
              · exact hk.2.2 c hc
/-- The fields there is room for. -/
def fitF : Nat → List (List Int × List Int) → List FV
  | _, [] => []
  | r, q :: T => match pick q.1 q.2 with
    | none => fitF r T
    | some f => if r < 13 + (fbytes f).length then [] else f :: fitF (r - (13 + (fbytes f).length)) T
def pairsM (b : List Int) : List (List Int × List Int) := (tagsM b (listM b).length).zip (listM b)
def recM (b : List Int) : RV := ⟨leadM b, fitF 99973 (pairsM b)⟩
/-- What bytes are, mended. -/
def mendM (b : List Int) : List Int := match rparse b with
  | .inr _ => b
  | .inl _ => wbytes (recM b)
theorem fitF_mem : ∀ {r : Nat} {T : List (List Int × List Int)} {f : FV}, f ∈ fitF r T → ∃ q ∈ T, pick q.1 q.2 = some f
  | _, [], f, h => by unfold fitF at h; cases h
  | r, q :: T, f, h => by
    unfold fitF at h
    split at h
    · obtain ⟨q', h1, h2⟩ := fitF_mem h; exact ⟨q', List.mem_cons_of_mem _ h1, h2⟩
    · rename_i g e
      split at h
      · cases h
      · rcases List.mem_cons.1 h with rfl | h
        · exact ⟨q, List.mem_cons_self .., e⟩
        · obtain ⟨q', h1, h2⟩ := fitF_mem h; exact ⟨q', List.mem_cons_of_mem _ h1, h2⟩
theorem fitF_size : ∀ (r : Nat) (T : List (List Int × List Int)), 12 * (fitF r T).length + (dataOf (fitF r T)).length ≤ r
  | _, [] => by unfold fitF; simp [dataOf]
  | r, q :: T => by
    unfold fitF
    split
    · exact fitF_size r T
    · rename_i f e
      split
      · simp [dataOf]
      · have := fitF_size (r - (13 + (fbytes f).length)) T
        have hd : ∀ L, (dataOf (f :: L)).length = (fbytes f).length + 1 + (dataOf L).length := by
          intro L; unfold dataOf; rw [List.flatMap_cons, List.length_append]; simp [fdata]
        rw [hd, List.length_cons]
        omega
theorem tagM_good (b : List Int) (i : Nat) : goodTag (tagM b i) = true := by
  unfold tagM
  split
  · rename_i h; exact h.2
  · rfl
theorem pairsM_mem {b : List Int} {q : List Int × List Int} (hb : inB b) (h : q ∈ pairsM b) : goodTag q.1 = true ∧ Piece q.2 := by
  obtain ⟨t, p⟩ := q
  unfold pairsM at h
  obtain ⟨h1, h2⟩ := List.of_mem_zip h
  obtain ⟨i, _, rfl⟩ := List.mem_map.1 h1
  exact ⟨tagM_good b i, listM_piece hb h2⟩
theorem recM_fld {b : List Int} (hb : inB b) {f : FV} (h : f ∈ (recM b).fields) : fparse f.tag (fbytes f) = .inr f ∧ goodTag f.tag = true ∧ (fbytes f).length ≤ 9998 ∧ inB (fbytes f) := by
  obtain ⟨q, hq, hp⟩ := fitF_mem h
  obtain ⟨h1, h2⟩ := pairsM_mem hb hq
  obtain ⟨h3, h4, h5, h6⟩ := pick_ok h1 h2 hp
  exact ⟨h3, by rw [h4]; exact h1, h5, h6⟩
theorem sndFrom_all : ∀ (l : List Int) (i : Nat), (∀ j, j < l.length → ledB ((i + j : Nat) : Int) (l.getD j 0) true = true) → sndFrom l i = true
  | [], _, _ => rfl
  | c :: t, i, h => by
    have h0 : ledB (i : Int) c true = true := h 0 (by simp)
    rw [sndFrom, h0, Bool.true_and]
    refine sndFrom_all t (i + 1) fun j hj => ?_
    have := h (j + 1) (by simpa using hj)
    rw [show i + 1 + j = i + (j + 1) by omega]; exact this
theorem leadC_led {b : List Int} (hb : inB b) (i : Nat) (hi : i < 24) : ledB i (leadC b i) true = true := by
  by_cases h1 : numAt i = true
  · unfold ledB; rw [if_pos h1]; rfl
  · by_cases h2 : mustB i = 0
    · have e : leadC b i = if ((i = 9 ∧ padC b i ≠ 97) ∨ indB (padC b i) = false) then 32 else padC b i := by
        unfold leadC; rw [if_neg h1, if_neg (by rw [h2]; simp)]
      unfold ledB
      rw [if_neg h1, if_neg (by rw [h2]; simp), e]
      by_cases h9 : i = 9
      · subst h9
        rw [if_pos (show ((9 : Nat) : Int) = 9 from rfl)]
        split
        · rfl
        · rename_i h
          have : padC b 9 = 97 := by
            by_cases e : padC b 9 = 97
            · exact e
            · exact absurd (.inl ⟨rfl, e⟩) h
          rw [this]; rfl
      · rw [if_neg (show ¬ ((i : Nat) : Int) = 9 by omega)]
        split
        · rfl
        · rename_i h
          cases hq : indB (padC b i) with
          | true => exact hq
          | false => exact absurd (.inr hq) h
    · have e : leadC b i = mustB i := by unfold leadC; rw [if_neg h1, if_pos h2]
      unfold ledB
      rw [if_neg h1, if_pos h2, e]; exact decide_eq_true rfl
theorem leadM_sound {b : List Int} (hb : inB b) : soundL (leadM b) = true := by
  unfold soundL
  rw [decide_eq_true (leadM_len b), Bool.true_and]
  refine sndFrom_all _ 0 fun j hj => ?_
  rw [leadM_len] at hj
  rw [leadM_get b j hj, Nat.zero_add]
  exact leadC_led hb j hj
theorem badFld_none : ∀ {L : List FV} {i : Nat}, (∀ f ∈ L, goodF f = true ∧ (fbytes f).length < 9999) → badFld L i = none
  | [], _, _ => rfl
  | f :: L, i, h => by
    obtain ⟨h1, h2⟩ := h f (List.mem_cons_self ..)
    rw [badFld, if_neg (by rw [h1]; simp), if_neg (by omega)]
    exact badFld_none fun g hg => h g (List.mem_cons_of_mem _ hg)
theorem recM_good {b : List Int} (hb : inB b) : ∀ f ∈ (recM b).fields, goodF f = true ∧ (fbytes f).length < 9999 := fun f hf => by
  obtain ⟨h1, _, h3, _⟩ := recM_fld hb hf
  exact ⟨fparse_good h1, by omega⟩
theorem recM_wlen (b : List Int) : wlen (recM b) ≤ 99999 := by
  have := fitF_size 99973 (pairsM b)
  unfold wlen wbase
  show 25 + 12 * ((fitF 99973 (pairsM b)).length : Int) + (dataOf (fitF 99973 (pairsM b))).length + 1 ≤ 99999
  omega
theorem recM_write {b : List Int} (hb : inB b) : rwrite (recM b) = .inr (wbytes (recM b)) := by
  have hw := recM_wlen b
  unfold rwrite
  rw [if_neg (by rw [show soundL (recM b).lead = true from leadM_sound hb]; simp), badFld_none (recM_good hb)]
  show (if 99999 < wlen (recM b) then _ else _) = _
  rw [if_neg (by omega)]
theorem recM_RB {b : List Int} (hb : inB b) : RB (recM b) := by
  refine ⟨by rw [show (recM b).lead.length = 24 from leadM_len b]; decide, fun f hf => ?_⟩
  obtain ⟨h1, h2, h3, h4⟩ := recM_fld hb hf
  obtain ⟨s1, s2, s3⟩ := fparse_sizes h1
  have hl : f.tag.length = 3 := by
    unfold goodTag at h2
    rw [Bool.and_eq_true] at h2
    simpa using h2.2
  exact ⟨fparse_FB h1 h4, by omega, by omega, fun s hs => by have := s3 s hs; omega, by omega⟩
end Go.Proofs.YteapibifebnboaaDoor
