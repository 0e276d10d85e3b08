/- Fields that stand behind no directory, mended. -/
import Derived.Test.YteapibifebnboaaDoorMndS
set_option linter.unusedVariables false
set_option linter.unusedSimpArgs false
namespace Go.Proofs.YteapibifebnboaaDoor
open Go Go.Eng
/-- The bytes that the law makes. -/
def mkB (T : List (List Int)) : List Int := List.replicate 24 32 ++ 30 :: T.flatMap fun p => p ++ [30]
/-- What may be handed in: no byte parts. -/
def Pl (T : List (List Int)) : Prop := ∀ p ∈ T, inB p ∧ p.length ≤ 100 ∧ ∀ c ∈ p, c ≠ 29 ∧ c ≠ 30 ∧ c ≠ 31
theorem upTo_all {c : Int} : ∀ {l : List Int}, (∀ x ∈ l, x ≠ c) → upTo c l = l
  | [], _ => rfl
  | x :: t, h => by
    have := upTo_all (c := c) (l := t) fun y hy => h y (List.mem_cons_of_mem _ hy)
    unfold upTo at *
    rw [List.takeWhile_cons_of_pos (by simpa using h x (List.mem_cons_self ..)), this]
theorem splitL_flat : ∀ T : List (List Int), (∀ p ∈ T, ∀ c ∈ p, c ≠ 30) → splitL 30 (T.flatMap fun p => p ++ [30]) = T ++ [[]]
  | [], _ => rfl
  | p :: T, h => by
    rw [List.flatMap_cons, List.append_assoc, List.singleton_append]
    have hr : splitL 30 (30 :: T.flatMap fun p => p ++ [30]) = [] :: (T ++ [[]]) := by
      rw [splitL, if_pos rfl, splitL_flat T fun q hq => h q (List.mem_cons_of_mem _ hq)]
    have key : ∀ (q r : List Int), (∀ c ∈ q, c ≠ 30) → splitL 30 (q ++ 30 :: r) = q :: splitL 30 r := by
      intro q
      induction q with
      | nil => intro r _; rw [List.nil_append, splitL, if_pos rfl]
      | cons x q ih =>
        intro r hq
        rw [List.cons_append, splitL, if_neg (hq x (List.mem_cons_self ..)), ih r fun c hc => hq c (List.mem_cons_of_mem _ hc)]
    rw [key p _ (h p (List.mem_cons_self ..)), splitL_flat T fun q hq => h q (List.mem_cons_of_mem _ hq)]; rfl
theorem mkB_drop (T : List (List Int)) : (mkB T).drop 24 = 30 :: T.flatMap fun p => p ++ [30] := by
  unfold mkB
  exact List.drop_left' (by simp)
theorem mkB_lines (T : List (List Int)) : linesM (mkB T) = [] := by
  unfold linesM
  rw [mkB_drop]
  unfold upTo
  rw [List.takeWhile_cons_of_neg (by simp)]
theorem mkB_list {T : List (List Int)} (h : Pl T) : listM (mkB T) = T := by
  have hraw : rawM (mkB T) = T.flatMap fun p => p ++ [30] := by
    unfold rawM
    rw [mkB_lines, mkB_drop]
    refine upTo_all fun x hx => ?_
    obtain ⟨p, hp, hx⟩ := List.mem_flatMap.1 hx
    rcases List.mem_append.1 hx with hx | hx
    · exact ((h p hp).2.2 x hx).1
    · simp at hx; omega
  unfold listM
  rw [hraw, splitL_flat T fun p hp c hc => ((h p hp).2.2 c hc).2.1]
  unfold dropE
  rw [if_pos (by simp)]
  simp
theorem mkB_tag (T : List (List Int)) (i : Nat) : tagM (mkB T) i = [57, 57, 57] := by
  unfold tagM
  rw [mkB_lines, if_neg (fun e => by have := e.1; simp at this)]
theorem mkB_in {T : List (List Int)} (h : Pl T) : inB (mkB T) := by
  intro c hc
  unfold mkB at hc
  rcases List.mem_append.1 hc with hc | hc
  · have := List.eq_of_mem_replicate hc; omega
  · rcases List.mem_cons.1 hc with rfl | hc
    · omega
    · obtain ⟨p, hp, hc⟩ := List.mem_flatMap.1 hc
      rcases List.mem_append.1 hc with hc | hc
      · exact (h p hp).1 c hc
      · simp at hc; omega
theorem mkB_bad (T : List (List Int)) : ∃ a, rparse (mkB T) = .inl (10, a) := by
  have hA : ledAt (mkB T) = 0 := by
    have h0 : (mkB T).take 24 = List.replicate 24 32 := by unfold mkB; exact List.take_left' (by simp)
    unfold ledAt
    rw [h0]; rfl
  unfold rparse frameP
  rw [hA, if_pos (by omega)]
  exact ⟨_, rfl⟩
/-- The field of what may be handed in. -/
def fldOf (p : List Int) : FV := ⟨[57, 57, 57], [], indM p 0, indM p 1, [(97, p.drop 2)]⟩
def longs (T : List (List Int)) : List (List Int) := T.filter fun p => 2 < p.length
theorem pick_pl {p : List Int} (h : p.length ≤ 100) (h31 : ∀ c ∈ p, c ≠ 31) : pick [57, 57, 57] p = if 2 < p.length then some (fldOf p) else none := by
  have hct : ¬ ctl [57, 57, 57] = true := by decide
  have hn : nI p = p.length := by
    unfold nI; rw [show (p.takeWhile fun c => c ≠ 31) = p from upTo_all h31]
  have hm : mI p = min p.length 2 := by unfold mI; rw [hn]
  have hsub : subsM (p.drop (mI p)) = subHd (p.drop (mI p)) := by
    have h0 : ∀ c ∈ p.drop (mI p), c ≠ 31 := fun c hc => h31 c (List.mem_of_mem_drop hc)
    have h1 : splitL 31 (p.drop (mI p)) = [p.drop (mI p)] := splitL_none 31 _ (List.count_eq_zero.2 fun hc => h0 31 hc rfl)
    unfold subsM
    rw [h1]; simp
  unfold pick
  rw [if_neg hct]
  by_cases hl : 2 < p.length
  · have hm2 : mI p = 2 := by omega
    have hne : ¬ p.drop 2 = [] := fun e => by have := congrArg List.length e; rw [List.length_drop] at this; simp at this; omega
    have hs : (datM [57, 57, 57] p).subs = [(97, p.drop 2)] := by
      show capS 9996 (subsM (p.drop (mI p))) = _
      rw [hsub, hm2, show subHd (p.drop 2) = [(97, p.drop 2)] from if_neg hne, capS, if_neg (by omega)]
      rw [List.take_of_length_le (by rw [List.length_drop]; show p.length - 2 ≤ _; omega)]
      rfl
    have hd : datM [57, 57, 57] p = fldOf p := by
      have : datM [57, 57, 57] p = ⟨[57, 57, 57], [], indM p 0, indM p 1, (datM [57, 57, 57] p).subs⟩ := rfl
      rw [this, hs]; rfl
    rw [if_neg (by rw [hs]; simp), if_pos hl, hd]
  · have hs : (datM [57, 57, 57] p).subs = [] := by
      show capS 9996 (subsM (p.drop (mI p))) = _
      rw [hsub, List.drop_of_length_le (by omega)]; rfl
    rw [if_pos hs, if_neg hl]
theorem fld_len {p : List Int} (h : 2 < p.length) : (fbytes (fldOf p)).length = p.length + 2 := by
  have : fbytes (fldOf p) = indM p 0 :: indM p 1 :: [(97, p.drop 2)].flatMap subB := by unfold fbytes; rw [if_neg (show ¬ ctl (fldOf p).tag = true from (by decide : ¬ ctl [57, 57, 57] = true))]; rfl
  rw [this]; simp [subB]; omega
theorem fit_pl : ∀ (T : List (List Int)) (r : Nat), (∀ p ∈ T, p.length ≤ 100 ∧ ∀ c ∈ p, c ≠ 31) → 200 * T.length ≤ r → fitF r (T.map fun p => ([57, 57, 57], p)) = (longs T).map fldOf
  | [], _, _, _ => rfl
  | p :: T, r, h, hr => by
    obtain ⟨h1, h2⟩ := h p (List.mem_cons_self ..)
    rw [List.length_cons] at hr
    rw [List.map_cons, fitF_cons]
    simp only
    rw [pick_pl h1 h2]
    unfold longs
    by_cases hl : 2 < p.length
    · have hfl := fld_len hl
      rw [if_pos hl, List.filter_cons_of_pos (by simpa using hl), List.map_cons]
      simp only
      rw [if_neg (by omega), fit_pl T _ (fun q hq => h q (List.mem_cons_of_mem _ hq)) (by omega)]; rfl
    · rw [if_neg hl, List.filter_cons_of_neg (by simpa using hl)]
      exact fit_pl T r (fun q hq => h q (List.mem_cons_of_mem _ hq)) (by omega)
theorem zip_tag : ∀ (T : List (List Int)) (f : Nat → List Int) (k : Nat), (∀ i, f i = [57, 57, 57]) → (((List.range' k T.length).map f).zip T) = T.map fun p => ([57, 57, 57], p)
  | [], _, _, _ => by simp
  | p :: T, f, k, h => by
    rw [List.length_cons, List.range'_succ, List.map_cons, List.zip_cons_cons, List.map_cons, h k, zip_tag T f (k + 1) h]
theorem mkB_rec {T : List (List Int)} (h : Pl T) (hn : T.length ≤ 30) : (recM (mkB T)).fields = (longs T).map fldOf := by
  show fitF 99973 (pairsM (mkB T)) = _
  unfold pairsM tagsM
  rw [mkB_list h, List.range_eq_range', zip_tag T _ 0 (mkB_tag T)]
  exact fit_pl T _ (fun p hp => ⟨(h p hp).2.1, fun c hc => ((h p hp).2.2 c hc).2.2⟩) (by omega)
theorem mkB_parse {T : List (List Int)} (h : Pl T) (hn : T.length ≤ 30) : ∃ lead, rparse (mendM (mkB T)) = .inr ⟨lead, (longs T).map fldOf⟩ := by
  obtain ⟨a, ha⟩ := mkB_bad T
  have : mendM (mkB T) = wbytes (recM (mkB T)) := by unfold mendM; rw [ha]
  rw [this, rparse_write (recM_write (mkB_in h)), mkB_rec h hn]
  exact ⟨_, rfl⟩
end Go.Proofs.YteapibifebnboaaDoor
