/- GRc: the texts RecL, RecM, RecN, RecO, RecP, one behind the other. -/
import Derived.Test.YteapibifebnboaaDoorGRb
import Derived.Test.YteapibifebnboaaDoorGFd
import Derived.Test.YteapibifebnboaaDoorGFc
set_option linter.unusedVariables false
set_option linter.unusedSimpArgs false

/- record: what is read is written again, as plain lists. -/
set_option linter.unusedVariables false
set_option linter.unusedSimpArgs false
namespace Go.Proofs.YteapibifebnboaaDoor
open Go Go.Eng
theorem fixedL_valOf : ∀ (k : Nat) (l : List Int), l.length = k → (∀ c ∈ l, isD c = true) → fixedL k (valOf l) = l
  | 0, l, h, _ => by rw [List.eq_nil_of_length_eq_zero h]; rfl
  | k + 1, l, h, hd => by
    obtain ⟨m, c, rfl⟩ : ∃ m c, l = m ++ [c] := ⟨l.dropLast, l.getLast (by intro e; rw [e] at h; simp at h), (List.dropLast_concat_getLast _).symm⟩
    rw [List.length_append] at h
    simp at h
    have hc : isD c = true := hd c (by simp)
    simp only [isD, decide_eq_true_eq] at hc
    have hv : valOf (m ++ [c]) = 10 * valOf m + (c - 48) := by simp [valOf]
    have ih := fixedL_valOf k m h fun x hx => hd x (List.mem_append_left _ hx)
    rw [fixedL, hv, show (10 * valOf m + (c - 48)) / 10 = valOf m by omega, show (10 * valOf m + (c - 48)) % 10 = c - 48 by omega, ih, show 48 + (c - 48) = c by omega]
theorem ebytes_entAt {l : List Int} {j : Nat} (h : good l j = true) : ebytes (entAt l j) = blk l j ∧ (entAt l j).2.1 ≤ 9999 := by
  simp only [good, Bool.and_eq_true, decide_eq_true_eq] at h
  obtain ⟨⟨h1, h2⟩, h3⟩ := h
  have hbl : (blk l j).length = 12 := by unfold blk; rw [List.length_take, List.length_drop]; omega
  unfold entryOf at h2
  simp only [Bool.and_eq_true, decide_eq_true_eq] at h2
  obtain ⟨⟨⟨a1, a2⟩, a3⟩, a4⟩ := h2
  have key : ∀ (m : List Int), (numOf m).2 = true → (∀ c ∈ m, isD c = true) ∧ (numOf m).1 = valOf m := fun m hm => by
    unfold numOf at hm ⊢
    split at hm
    · rename_i hh; rw [if_pos hh]; exact ⟨fun c hc => List.all_eq_true.1 hh c hc, rfl⟩
    · cases hm
  obtain ⟨b1, b2⟩ := key _ a1
  obtain ⟨c1, c2⟩ := key _ a2
  have n4 : (((blk l j).drop 3).take 4).length = 4 := by rw [List.length_take, List.length_drop]; omega
  have n5 : (((blk l j).drop 7).take 5).length = 5 := by rw [List.length_take, List.length_drop]; omega
  refine ⟨?_, ?_⟩
  · show (blk l j).take 3 ++ fixedL 4 (lenOf (blk l j)) ++ fixedL 5 (offOf (blk l j)) = blk l j
    unfold lenOf offOf
    rw [b2, c2, fixedL_valOf 4 _ n4 b1, fixedL_valOf 5 _ n5 c1]
    have e1 : ((blk l j).drop 7).take 5 = (blk l j).drop 7 := List.take_of_length_le (by rw [List.length_drop]; omega)
    have e2 : (blk l j).drop 3 = ((blk l j).drop 3).take 4 ++ (blk l j).drop 7 := by
      conv => lhs; rw [← List.take_append_drop 4 ((blk l j).drop 3)]
      rw [List.drop_drop]
    rw [e1, List.append_assoc, ← e2, List.take_append_drop]
  · show lenOf (blk l j) ≤ 9999
    unfold lenOf
    have := valOf_bound (l := ((blk l j).drop 3).take 4) (i := 4) (by omega) (fun c hc => b1 c (List.mem_of_mem_take hc))
    rw [b2]
    have e : (((blk l j).drop 3).take 4).take 4 = ((blk l j).drop 3).take 4 := List.take_of_length_le (by omega)
    rw [e] at this
    omega
theorem pbytes_append (L M : List Ent) : pbytes (L ++ M) = pbytes L ++ pbytes M := List.flatMap_append ..
theorem pbytes_entsTo (l : List Int) : ∀ n, (∀ i, i < n → good l i = true) → pbytes (entsTo l n) = l.take (12 * n)
  | 0, _ => rfl
  | n + 1, h => by
    have ih := pbytes_entsTo l n fun i hi => h i (by omega)
    have hb := (ebytes_entAt (h n (by omega))).1
    have e : pbytes [entAt l n] = blk l n := by show ebytes (entAt l n) ++ [] = _; rw [List.append_nil, hb]
    rw [entsTo, pbytes_append, ih, e]
    unfold blk
    rw [show 12 * (n + 1) = 12 * n + 12 by omega, List.take_add]
theorem oneP_inr {b : List Int} {bs : Nat} {e : Ent} {f : FV} (h : oneP b bs e = .inr f) : b.getD (bs + e.2.2.toNat + e.2.1.toNat - 1) 0 = 30 ∧ fparse e.1 ((b.take (bs + e.2.2.toNat + e.2.1.toNat - 1)).drop (bs + e.2.2.toNat)) = .inr f := by
  unfold oneP at h
  simp only at h
  split at h
  · cases h
  · rename_i h1
    refine ⟨by simpa using h1, ?_⟩
    split at h
    · cases h
    · rename_i g hg; cases h; exact hg
theorem oneP_inl {b : List Int} {bs : Nat} {e : Ent} {a : Int} (h : oneP b bs e = .inl a) (hs : 0 ≤ e.2.2) (hn : 1 ≤ e.2.1) (hin : bs + e.2.2 + e.2.1 ≤ b.length) : 0 ≤ a ∧ a ≤ b.length := by
  unfold oneP at h
  simp only at h
  split at h
  · cases h; omega
  · split at h
    · rename_i g hg
      cases h
      have h1 := fparse_nn hg
      have h2 := fparse_le hg
      rw [List.length_drop, List.length_take] at h2
      omega
    · cases h
theorem fieldsP_inr {b : List Int} {bs : Nat} : ∀ {L : List Ent} {fs : List FV}, fieldsP b bs L = .inr fs → fs.length = L.length ∧ ∀ (i : Nat) (h1 : i < L.length) (h2 : i < fs.length), oneP b bs L[i] = .inr fs[i]
  | [], fs, h => by cases h; exact ⟨rfl, fun i h => by simp at h⟩
  | e :: L, fs, h => by
    rw [fieldsP] at h
    split at h
    · cases h
    · rename_i f hf
      cases hp : fieldsP b bs L with
      | inl a => rw [hp] at h; cases h
      | inr gs =>
        rw [hp] at h
        cases h
        obtain ⟨k1, k2⟩ := fieldsP_inr hp
        refine ⟨by simp [k1], fun i h1 h2 => ?_⟩
        cases i with
        | zero => exact hf
        | succ i => exact k2 i (by simpa using h1) (by simpa using h2)
theorem fieldsP_inl {b : List Int} {bs : Nat} {a : Int} : ∀ {L : List Ent}, fieldsP b bs L = .inl a → ∃ e ∈ L, oneP b bs e = .inl a
  | [], h => by cases h
  | e :: L, h => by
    rw [fieldsP] at h
    split at h
    · rename_i a' ha; cases h; exact ⟨e, List.mem_cons_self, ha⟩
    · cases hp : fieldsP b bs L with
      | inl a' => rw [hp] at h; cases h; obtain ⟨e', he, k⟩ := fieldsP_inl hp; exact ⟨e', List.mem_cons_of_mem _ he, k⟩
      | inr gs => rw [hp] at h; cases h
theorem entsOf_get : ∀ (L : List FV) (st : Int) (i : Nat) (h : i < (entsOf L st).length) (h' : i < L.length), (entsOf L st)[i] = (L[i].tag, ((fbytes L[i]).length : Int) + 1, st + (dataOf (L.take i)).length)
  | [], st, i, h, h' => by simp at h'
  | f :: L, st, 0, h, h' => by simp [entsOf, dataOf]
  | f :: L, st, i + 1, h, h' => by
    have := entsOf_get L (st + (fbytes f).length + 1) i (by rw [entsOf_length]; simpa using h') (by simpa using h')
    simp only [entsOf, List.getElem_cons_succ]
    rw [this]
    have e : st + ((fbytes f).length : Int) + 1 + ((dataOf (L.take i)).length : Int) = st + ((dataOf ((f :: L).take (i + 1))).length : Int) := by
      rw [List.take_succ_cons]
      unfold dataOf fdata; rw [List.flatMap_cons, List.length_append, List.length_append]; simp; omega
    rw [e]
theorem ledB_true {i c : Int} (h : ledB i c false = true) : ledB i c true = true := by
  unfold ledB at h ⊢
  split
  · simp
  · rename_i hn; rw [if_neg hn] at h; exact h
theorem sndFrom_of : ∀ (l : List Int) (i : Nat), (∀ j, j < l.length → ledB (i + j : Nat) (l.getD j 0) true = true) → sndFrom l i = true
  | [], _, _ => rfl
  | c :: t, i, h => by
    rw [sndFrom, Bool.and_eq_true]
    refine ⟨by simpa using h 0 (by simp), sndFrom_of t (i + 1) fun j hj => ?_⟩
    have := h (j + 1) (by simpa using hj)
    rw [List.getD_cons_succ, show i + (j + 1) = i + 1 + j by omega] at this; exact this
theorem sound_take {b : List Int} (h : ledAt b = 24) : soundL (b.take 24) = true := by
  obtain ⟨hl, ha⟩ := ledAt_all h
  unfold soundL
  rw [Bool.and_eq_true]
  refine ⟨decide_eq_true (by rw [List.length_take]; omega), sndFrom_of _ _ fun j hj => ?_⟩
  rw [List.length_take] at hj
  have := ha j (by omega)
  rw [Nat.zero_add, List.getD_eq_getElem?_getD, List.getElem?_take, if_pos (by omega), ← List.getD_eq_getElem?_getD]
  exact ledB_true this
/-- What is told of a record that was read. -/
structure RP (b : List Int) (r : RV) : Prop where
  B : RB r
  data : (dataOf r.fields).length ≤ b.length
  cnt : r.fields.length ≤ b.length
  fld : ∀ f ∈ r.fields, goodF f = true ∧ inB (fbytes f) ∧ f.text.length ≤ b.length ∧ f.subs.length ≤ b.length ∧ ∀ s ∈ f.subs, s.2.length ≤ b.length
  write : rwrite r = .inr b
  len : 26 ≤ b.length ∧ b.length ≤ 99999
  lead : r.lead = b.take 24
theorem rparse_inr {b : List Int} {r : RV} (h : rparse b = .inr r) (hb : inB b) : RP b r := by
  unfold rparse at h
  split at h
  · cases h
  · rename_i bs hf
    split at h
    · cases h
    · rename_i hd
      obtain ⟨f1, f2, f3, f4, f5, f6, f7, f8, f9⟩ := frameP_inr hf
      have hdl := dirOf_length hf
      obtain ⟨hd1, hd2⟩ := dirBad_none hd
      split at h
      · cases h
      · rename_i hend
        simp only [ne_eq, Decidable.not_not] at hend
        split at h
        · cases h
        · rename_i fs hfs
          cases h
          obtain ⟨n, hn⟩ : ∃ n, n = (dirOf b bs).length / 12 := ⟨_, rfl⟩
          rw [← hn] at hend hfs hd2 hd1
          have hpb := pbytes_entsTo (dirOf b bs) n hd2
          rw [show 12 * n = (dirOf b bs).length by omega, List.take_length] at hpb
          obtain ⟨k1, k2⟩ := fieldsP_inr hfs
          rw [entsTo_length] at k1
          obtain ⟨B, hB⟩ : ∃ B : Nat, bs = B := ⟨bs.toNat, by omega⟩
          subst hB
          rw [Int.toNat_natCast] at k2
          -- field by field
          have hone : ∀ (i : Nat) (h : i < fs.length), ∃ (s n2 : Nat), (s : Int) = base (dirOf b B) i ∧ (s : Int) + n2 = base (dirOf b B) (i + 1) ∧ 1 ≤ n2 ∧ n2 ≤ 9999 ∧ entAt (dirOf b B) i = (fs[i].tag, (n2 : Int), (s : Int)) ∧ b.getD (B + s + n2 - 1) 0 = 30 ∧ fbytes fs[i] = (b.take (B + s + n2 - 1)).drop (B + s) ∧ goodF fs[i] = true ∧ FB fs[i] ∧ goodTag fs[i].tag = true ∧ fs[i].subs.length ≤ b.length ∧ fs[i].text.length ≤ b.length ∧ ∀ s ∈ fs[i].subs, s.2.length ≤ b.length := fun i hi => by
            have h1 := k2 i (by rw [entsTo_length]; omega) hi
            rw [entsTo_get] at h1
            obtain ⟨g1, g2, g3, g4⟩ := good_out (hd2 i (by omega))
            have g5 := (ebytes_entAt (hd2 i (by omega))).2
            have hbm := base_small (dirOf b B) i
            obtain ⟨o1, o2⟩ := oneP_inr h1
            have hsuc : base (dirOf b B) (i + 1) = base (dirOf b B) i + (entAt (dirOf b B) i).2.1 := rfl
            generalize entAt (dirOf b B) i = e at *
            obtain ⟨tag, ln, st⟩ := e
            simp only at g2 g3 g4 g5 o1 o2 hsuc
            obtain ⟨y1, y2, _⟩ := fparse_bytes o2
            obtain ⟨z1, z2, z3⟩ := fparse_sizes o2
            have hlen : ((b.take (B + st.toNat + ln.toNat - 1)).drop (B + st.toNat)).length ≤ b.length := by rw [List.length_drop, List.length_take]; omega
            refine ⟨st.toNat, ln.toNat, by omega, by omega, by omega, by omega, by rw [y2]; simp; omega, o1, y1, fparse_good o2, fparse_FB o2 fun c hc => hb c (List.mem_of_mem_take (List.mem_of_mem_drop hc)), by rw [y2]; exact g2, by omega, by omega, fun s hs => by have := z3 s hs; omega⟩
          have hdat : ∀ i, i ≤ fs.length → dataOf (fs.take i) = (b.drop B).take (base (dirOf b B) i).toNat := by
            intro i
            induction i with
            | zero => intro _; simp [dataOf, base]
            | succ i ih =>
              intro hi
              obtain ⟨s, n2, s1, s2, s3, s4, s5, s6, s7, _⟩ := hone i (by omega)
              have hmono := base_mono (dirOf b B) (i := i + 1) (j := n) (by omega)
              have hle : B + s + n2 ≤ b.length := by omega
              rw [List.take_add_one, List.getElem?_eq_getElem (by omega)]
              simp only [Option.toList_some]
              rw [dataOf_snoc, ih (by omega), ← s1, ← s2]
              rw [show ((s : Int) + (n2 : Int)).toNat = s + n2 by omega, Int.toNat_natCast, List.take_add]
              congr 1
              unfold fdata
              rw [s7, List.drop_drop, show B + s + n2 - 1 = (B + s) + (n2 - 1) by omega, List.drop_take, Nat.add_sub_cancel_left]
              obtain ⟨m, hm⟩ : ∃ m, n2 = m + 1 := ⟨n2 - 1, by omega⟩
              subst hm
              rw [Nat.add_sub_cancel, List.take_add_one, List.getElem?_drop, List.getElem?_eq_getElem (by omega)]
              rw [List.getD_eq_getElem?_getD, show B + s + (m + 1) - 1 = B + s + m by omega, List.getElem?_eq_getElem (by omega)] at s6
              simp only [Option.getD_some] at s6
              rw [s6]; rfl
          have hdn := hdat fs.length (Nat.le_refl _)
          rw [List.take_length, k1] at hdn
          have hdl2 : (dataOf fs).length = (base (dirOf b B) n).toNat := by rw [hdn, List.length_take, List.length_drop]; omega
          have hents : entsOf fs 0 = entsTo (dirOf b B) n := by
            apply List.ext_getElem
            · rw [entsOf_length, entsTo_length, k1]
            · intro i h1 h2
              rw [entsOf_length] at h1
              rw [entsOf_get fs 0 i (by rw [entsOf_length]; exact h1) h1, entsTo_get]
              obtain ⟨s, n2, s1, s2, s3, s4, s5, s6, s7, _⟩ := hone i h1
              have hmono := base_mono (dirOf b B) (i := i + 1) (j := n) (by omega)
              rw [s5, hdat i (by omega), ← s1, s7, List.length_drop, List.length_take, List.length_take, List.length_drop]
              have e1 : ((min (B + s + n2 - 1) b.length - (B + s) : Nat) : Int) + 1 = (n2 : Int) := by omega
              have e2 : (0 : Int) + ((min (s : Int).toNat (b.length - B) : Nat) : Int) = (s : Int) := by omega
              rw [e1, e2]
          have hbf : badFld fs 0 = none := by
            have : ∀ i, badFld (fs.drop i) i = none := by
              intro i
              obtain ⟨m, hm⟩ : ∃ m, m = fs.length - i := ⟨_, rfl⟩
              induction m generalizing i with
              | zero => rw [List.drop_of_length_le (by omega)]; rfl
              | succ m ih =>
                obtain ⟨s, n2, s1, s2, s3, s4, s5, s6, s7, s8, _⟩ := hone i (by omega)
                rw [badFld_drop fs i (by omega), if_neg (by rw [s8]; simp), if_neg (by rw [s7, List.length_drop, List.length_take]; omega)]
                exact ih (i + 1) (by omega)
            exact this 0
          have hwb : wbase ⟨b.take 24, fs⟩ = B := by show 25 + 12 * (fs.length : Int) = _; omega
          have hwl : wlen ⟨b.take 24, fs⟩ = b.length := by
            show wbase ⟨b.take 24, fs⟩ + ((dataOf fs).length : Int) + 1 = _
            rw [hwb, hdl2]; omega
          refine ⟨⟨by show (b.take 24).length ≤ _; rw [List.length_take]; omega, fun f hf => ?_⟩, by show (dataOf fs).length ≤ _; omega, by show fs.length ≤ _; omega, fun f hf => ?_, ?_, ⟨by omega, f9⟩, rfl⟩
          · obtain ⟨i, hi, rfl⟩ := List.mem_iff_getElem.1 (show f ∈ fs from hf)
            obtain ⟨s, n2, s1, s2, s3, s4, s5, s6, s7, s8, s9, s10, s11, s12, s13⟩ := hone i hi
            have := goodTag_len s10
            exact ⟨s9, by omega, by omega, fun s hs => by have := s13 s hs; omega, by omega⟩
          · obtain ⟨i, hi, rfl⟩ := List.mem_iff_getElem.1 (show f ∈ fs from hf)
            obtain ⟨s, n2, s1, s2, s3, s4, s5, s6, s7, s8, s9, s10, s11, s12, s13⟩ := hone i hi
            exact ⟨s8, by rw [s7]; exact fun c hc => hb c (List.mem_of_mem_take (List.mem_of_mem_drop hc)), s12, s11, s13⟩
          · unfold rwrite
            rw [if_neg (by rw [sound_take f1]; simp), hbf]
            simp only
            rw [if_neg (by rw [hwl]; omega)]
            congr 1
            have hld : leadB (b.take 24) (wlen ⟨b.take 24, fs⟩) (wbase ⟨b.take 24, fs⟩) = b.take 24 := by
              obtain ⟨d1, d2⟩ := led_digits f1
              unfold leadB
              rw [hwl, hwb, ← f2, f4]
              unfold baseOf
              rw [fixedL_valOf 5 _ (by rw [List.length_take]; omega) d1, fixedL_valOf 5 _ (by rw [List.length_take, List.length_drop]; omega) d2]
              have e1 : ((b.take 24).drop 5).take 7 = (b.drop 5).take 7 := by rw [List.drop_take, List.take_take]; rfl
              have e2 : (b.take 24).drop 17 = (b.drop 17).take 7 := by rw [List.drop_take]
              rw [e1, e2, show b.take 24 = b.take (5 + (7 + (5 + 7))) from rfl, List.take_add, List.take_add, List.take_add, List.drop_drop, List.drop_drop, List.append_assoc, List.append_assoc]
            have hby : wbytes ⟨b.take 24, fs⟩ = b.take 24 ++ dirOf b B ++ [30] ++ (b.drop B).take (base (dirOf b B) n).toNat ++ [29] := by
              show leadB (b.take 24) (wlen ⟨b.take 24, fs⟩) (wbase ⟨b.take 24, fs⟩) ++ pbytes (entsOf fs 0) ++ [30] ++ dataOf fs ++ [29] = _
              rw [hld, hents, hpb, hdn]
            rw [hby]
            have e30 : b.drop (B - 1) = 30 :: b.drop B := by
              rw [List.drop_eq_getElem_cons (by omega), show B - 1 + 1 = B by omega]
              rw [List.getD_eq_getElem?_getD, show ((B : Int) - 1).toNat = B - 1 by omega, List.getElem?_eq_getElem (by omega)] at f8
              simp only [Option.getD_some] at f8
              rw [f8]
            have e29 : b.drop B = (b.drop B).take (base (dirOf b B) n).toNat ++ [29] := by
              conv => lhs; rw [← List.take_append_drop (base (dirOf b B) n).toNat (b.drop B)]
              congr 1
              rw [List.drop_drop, show B + (base (dirOf b B) n).toNat = b.length - 1 by omega, List.drop_eq_getElem_cons (by omega), List.drop_of_length_le (by omega)]
              rw [List.getD_eq_getElem?_getD, List.getElem?_eq_getElem (by omega)] at f3
              simp only [Option.getD_some] at f3
              rw [f3]
            have ed : b.drop 24 = dirOf b B ++ b.drop (B - 1) := by
              unfold dirOf
              conv => lhs; rw [← List.take_append_drop (B - 1 - 24) (b.drop 24)]
              rw [List.drop_drop, List.drop_take, show ((B : Int) - 1).toNat = B - 1 by omega, show 24 + (B - 1 - 24) = B - 1 by omega]
            have e24 : b = b.take 24 ++ b.drop 24 := (List.take_append_drop 24 b).symm
            conv => rhs; rw [e24, ed, e30, e29]
            simp
theorem rparse_inl {b : List Int} {e a : Int} (h : rparse b = .inl (e, a)) : ¬ e = 0 ∧ 0 ≤ a ∧ a ≤ b.length := by
  unfold rparse at h
  split at h
  · rename_i x hf
    obtain ⟨e', a'⟩ := x
    cases h
    refine ⟨frameP_e hf, ?_⟩
    unfold frameP at hf
    have hle := ledAt_le b
    split at hf
    · cases hf; omega
    · split at hf
      · cases hf; omega
      · split at hf
        · cases hf; omega
        · cases hf
  · rename_i bs hf
    have hdl := dirOf_length hf
    obtain ⟨f1, f2, f3, f4, f5, f6, f7, f8, f9⟩ := frameP_inr hf
    split at h
    · rename_i j hd
      cases h
      have := (dirBad_some hd).1
      exact ⟨by decide, by omega, by omega⟩
    · rename_i hd
      obtain ⟨hd1, hd2⟩ := dirBad_none hd
      split at h
      · cases h; exact ⟨by decide, by decide, by omega⟩
      · rename_i hend
        simp only [ne_eq, Decidable.not_not] at hend
        split at h
        · rename_i a' ha
          cases h
          obtain ⟨en, hen, ho⟩ := fieldsP_inl ha
          obtain ⟨i, hi, rfl⟩ := List.mem_iff_getElem.1 hen
          rw [entsTo_get] at ho
          rw [entsTo_length] at hi
          obtain ⟨g1, g2, g3, g4⟩ := good_out (hd2 i hi)
          have hbm := base_small (dirOf b bs) i
          have hmono := base_mono (dirOf b bs) (i := i + 1) (j := (dirOf b bs).length / 12) (by omega)
          have hsuc : base (dirOf b bs) (i + 1) = base (dirOf b bs) i + (entAt (dirOf b bs) i).2.1 := rfl
          have := oneP_inl ho (by omega) g3 (by omega)
          exact ⟨by decide, this.1, this.2⟩
        · cases h
end Go.Proofs.YteapibifebnboaaDoor

/- The laws RecordParses, RecordTurned, RecordCut: at every argument they return true. -/
set_option linter.unusedVariables false
set_option linter.unusedSimpArgs false
namespace Go.Proofs.YteapibifebnboaaDoor
open Go Go.Eng
theorem u8s_set (b : List Int) (j : Nat) (c : Int) : (u8s b).set j (.int .u8 c) = u8s (b.set j c) := by simp [u8s, List.map_set]
theorem PParse_n (b : List Int) (n : Nat) (hn : b.length = n) (hl : n ≤ 9223372036854775807) (hb : inB b) : ACall Tryd.prog 17 [.sl n (u8s b)] (rres (rparse b)) none := by
  subst hn; exact PParse_c b hl hb
theorem rPParse_n (b : List Int) (n : Nat) (hn : b.length = n) (hl : n ≤ 9223372036854775807) (hb : inB b) : ACall Tryd.prog 14 [.sl n (u8s b)] (rres (rparse b)) none := by
  subst hn; exact rPParse_c b hl hb
theorem ledFrom_of : ∀ (l : List Int) (i : Nat), (∀ j, j < l.length → ledB (i + j : Nat) (l.getD j 0) false = true) → ledFrom l i = i + l.length
  | [], i, _ => rfl
  | c :: t, i, h => by
    have h0 := h 0 (by simp)
    simp only [List.getD_cons_zero, Nat.add_zero] at h0
    rw [ledFrom, if_pos h0, ledFrom_of t (i + 1) fun j hj => by
      have := h (j + 1) (by simpa using hj)
      rw [List.getD_cons_succ, show i + (j + 1) = i + 1 + j by omega] at this; exact this]
    rw [List.length_cons]; omega
theorem rparse_take {b : List Int} {r : RV} (h : rparse b = .inr r) (hb : inB b) {k : Nat} (hk : k < b.length) : rparse (b.take k) = if k < 24 then .inl (10, (k : Int)) else .inl (13, 0) := by
  have hf : ∃ bs, frameP b = .inr bs := by
    unfold rparse at h
    split at h
    · cases h
    · rename_i bs hf; exact ⟨bs, hf⟩
  obtain ⟨bs, hf⟩ := hf
  obtain ⟨f1, f2, f3, f4, f5, f6, f7, f8, f9⟩ := frameP_inr hf
  obtain ⟨hl, ha⟩ := ledAt_all f1
  have hled : ledAt (b.take k) = min 24 k := by
    unfold ledAt
    rw [List.take_take, ledFrom_of _ 0 fun j hj => by
      rw [List.length_take] at hj
      rw [Nat.zero_add, List.getD_eq_getElem?_getD, List.getElem?_take, if_pos (by omega), ← List.getD_eq_getElem?_getD]
      exact ha j (by omega)]
    rw [List.length_take]; omega
  by_cases h24 : k < 24
  · rw [if_pos h24]
    have e : frameP (b.take k) = .inl (10, (k : Int)) := by unfold frameP; rw [hled, if_pos (by omega), Nat.min_eq_right (by omega)]
    unfold rparse; rw [e]
  · rw [if_neg h24]
    have e : frameP (b.take k) = .inl (13, 0) := by
      unfold frameP
      rw [hled, if_neg (by omega), if_pos (.inl (by rw [List.take_take, Nat.min_eq_left (by omega), f2, List.length_take]; omega))]
    unfold rparse; rw [e]
theorem rparse_more {b m : List Int} {r : RV} (h : rparse b = .inr r) (hm : m ≠ []) : rparse (b ++ m) = .inl (13, 0) := by
  have hf : ∃ bs, frameP b = .inr bs := by
    unfold rparse at h
    split at h
    · cases h
    · rename_i bs hf; exact ⟨bs, hf⟩
  obtain ⟨bs, hf⟩ := hf
  obtain ⟨f1, f2, f3, f4, f5, f6, f7, f8, f9⟩ := frameP_inr hf
  obtain ⟨hl, ha⟩ := ledAt_all f1
  have hml : m.length ≠ 0 := fun e => hm (List.eq_nil_of_length_eq_zero e)
  have e : frameP (b ++ m) = .inl (13, 0) := by
    unfold frameP
    have e1 : ledAt (b ++ m) = ledAt b := by unfold ledAt; rw [List.take_append_of_le_length hl]
    rw [e1, f1, if_neg (by omega), if_pos (.inl (by rw [List.take_append_of_le_length (by omega), f2, List.length_append]; omega))]
  unfold rparse; rw [e]
end Go.Proofs.YteapibifebnboaaDoor

/- The law RecordStarts: at every argument it returns true. -/
set_option linter.unusedVariables false
set_option linter.unusedSimpArgs false
namespace Go.Proofs.YteapibifebnboaaDoor
open Go Go.Eng
theorem fbytes_totS (f : FV) : (fbytes f).length ≤ 2 + f.text.length + subT f.subs := by
  unfold fbytes
  split
  · omega
  · simp only [List.length_cons, flat_subT]; omega
theorem dataOf_tot : ∀ L : List FV, (dataOf L).length ≤ 20 * L.length + recT L
  | [] => by simp [dataOf]
  | f :: L => by
    have h1 := dataOf_tot L
    have h2 := fbytes_totS f
    have e : (dataOf (f :: L)).length = (fbytes f).length + 1 + (dataOf L).length := by unfold dataOf fdata; rw [List.flatMap_cons, List.length_append, List.length_append]; simp
    have e2 : recT (f :: L) = f.text.length + subT f.subs + recT L := by simp [recT]
    rw [e, e2, List.length_cons]; omega
theorem recT_mem {L : List FV} {f : FV} (h : f ∈ L) : f.text.length + subT f.subs ≤ recT L := by
  obtain ⟨a, b, rfl⟩ := List.append_of_mem h
  unfold recT; rw [List.map_append, List.sum_append, List.map_cons, List.sum_cons]; omega
theorem RB_of {r : RV} (h : RO r) (ht : totR r < 200000) : RB r ∧ (dataOf r.fields).length ≤ 1000000 := by
  have h1 := dataOf_tot r.fields
  unfold totR at ht
  refine ⟨⟨h.lead, fun f hf => ?_⟩, by omega⟩
  obtain ⟨a, b, c, d, e⟩ := h.fld f hf
  have := recT_mem hf
  have := subT_cnt f.subs
  exact ⟨a, b, c, d, by omega⟩
/-- What is written, from where a field begins. -/
theorem wbytes_at {r : RV} {w : List Int} (h : rwrite r = .inr w) (i : Nat) (hi : i < r.fields.length) :
    (startsOf r.fields (wbase r)).getD i 0 = wbase r + (dataOf (r.fields.take i)).length ∧
    (w.drop (wbase r + (dataOf (r.fields.take i)).length).toNat).take (fbytes r.fields[i]).length = fbytes r.fields[i] ∧
    (wbase r).toNat + (dataOf (r.fields.take i)).length + (fbytes r.fields[i]).length + 1 < w.length ∧
    w.getD ((wbase r).toNat + (dataOf (r.fields.take i)).length + (fbytes r.fields[i]).length) 0 = 30 ∧ w.length ≤ 99999 := by
  have hs : soundL r.lead = true := by
    unfold rwrite at h
    cases hs : soundL r.lead with
    | true => rfl
    | false => rw [hs] at h; cases h
  unfold rwrite at h
  rw [if_neg (by rw [hs]; simp)] at h
  split at h
  · cases h
  · rename_i hb
    split at h
    · cases h
    · rename_i h99
      cases h
      have hall := badFld_all hb
      have hp := pok_entsOf (L := r.fields) (st := 0) hall (by unfold wlen wbase at h99; omega)
      have hpl := pbytes_len hp
      rw [entsOf_length] at hpl
      have hlb := leadB_len hs (wlen r) (wbase r)
      have hwb : wbase r = 25 + 12 * (r.fields.length : Int) := rfl
      have hpre : (leadB r.lead (wlen r) (wbase r) ++ pbytes (entsOf r.fields 0) ++ [30]).length = (wbase r).toNat := by
        rw [List.length_append, List.length_append, hlb, hpl]; simp; omega
      have hw : wbytes r = (leadB r.lead (wlen r) (wbase r) ++ pbytes (entsOf r.fields 0) ++ [30]) ++ (dataOf r.fields ++ [29]) := by unfold wbytes; rw [List.append_assoc]
      generalize leadB r.lead (wlen r) (wbase r) ++ pbytes (entsOf r.fields 0) ++ [30] = pre at *
      have hsplit : r.fields = r.fields.take i ++ r.fields[i] :: r.fields.drop (i + 1) := by rw [← List.drop_eq_getElem_cons hi, List.take_append_drop]
      have hdat : dataOf r.fields = dataOf (r.fields.take i) ++ (fbytes r.fields[i] ++ 30 :: dataOf (r.fields.drop (i + 1))) := by
        conv => lhs; rw [hsplit]
        unfold dataOf
        rw [List.flatMap_append, List.flatMap_cons]
        simp [fdata]
      have hlen : (wbytes r).length = (wbase r).toNat + (dataOf r.fields).length + 1 := by rw [hw, List.length_append, hpre, List.length_append]; simp; omega
      have hwl : wlen r = wbase r + (dataOf r.fields).length + 1 := rfl
      have hdl : (dataOf r.fields).length = (dataOf (r.fields.take i)).length + ((fbytes r.fields[i]).length + ((dataOf (r.fields.drop (i + 1))).length + 1)) := by rw [hdat]; simp
      have hdrop : (wbytes r).drop ((wbase r).toNat + (dataOf (r.fields.take i)).length) = fbytes r.fields[i] ++ 30 :: (dataOf (r.fields.drop (i + 1)) ++ [29]) := by
        rw [hw, ← hpre, List.drop_append, List.drop_of_length_le (by omega), Nat.add_sub_cancel_left, hdat, List.append_assoc, List.nil_append, List.drop_left]
        simp
      refine ⟨?_, ?_, by omega, ?_, by omega⟩
      · have : ∀ (L : List FV) (a : Int) (j : Nat), j < L.length → (startsOf L a).getD j 0 = a + (dataOf (L.take j)).length := by
          intro L
          induction L with
          | nil => intro a j hj; simp at hj
          | cons f L ih =>
            intro a j hj
            cases j with
            | zero => simp [startsOf, dataOf]
            | succ j =>
              rw [startsOf, List.getD_cons_succ, ih _ j (by simpa using hj), List.take_succ_cons]
              unfold dataOf fdata; rw [List.flatMap_cons, List.length_append, List.length_append]; simp; omega
        exact this _ _ i hi
      · rw [show (wbase r + ((dataOf (r.fields.take i)).length : Int)).toNat = (wbase r).toNat + (dataOf (r.fields.take i)).length by omega, hdrop, List.take_left]
      · rw [List.getD_eq_getElem?_getD, ← List.getElem?_drop, hdrop, List.getElem?_append_right (Nat.le_refl _)]; simp
theorem badFld_e : ∀ {L : List FV} {i : Nat} {e a : Int}, badFld L i = some (e, a) → ¬ e = 0
  | [], _, _, _, h => by cases h
  | f :: L, i, e, a, h => by
    unfold badFld at h
    split at h
    · cases h; decide
    · split at h
      · cases h; decide
      · exact badFld_e h
theorem rwrite_e {r : RV} {e a : Int} (h : rwrite r = .inl (e, a)) : ¬ e = 0 := by
  unfold rwrite at h
  split at h
  · cases h; decide
  · split at h
    · rename_i x hx; cases h; exact badFld_e hx
    · split at h
      · cases h; decide
      · cases h
end Go.Proofs.YteapibifebnboaaDoor

/- The law RecordLong: at every argument it returns true. -/
set_option linter.unusedVariables false
set_option linter.unusedSimpArgs false
namespace Go.Proofs.YteapibifebnboaaDoor
open Go Go.Eng
def zs (k : Nat) : List Int := List.replicate k 0
def longF (k : Nat) : FV := ⟨[48, 48, 49], zs k, 0, 0, []⟩
theorem zs_length (k : Nat) : (zs k).length = k := List.length_replicate
theorem zrep_zs (k : Nat) : zrep [.int .u8 0] k = u8s (zs k) := by
  unfold zrep zs u8s
  apply List.ext_getElem
  · simp
  · intro i h1 h2
    simp [Nat.mod_one]
theorem badFrom_zs : ∀ (k i : Nat), badFrom (zs k) i = -1
  | 0, _ => rfl
  | k + 1, i => by
    show (if freeB 0 = true then badFrom (zs k) (i + 1) else (i : Int)) = -1
    rw [if_pos (by decide), badFrom_zs k]
theorem longF_bytes (k : Nat) : fbytes (longF k) = zs k := by unfold fbytes; rw [if_pos (by rfl)]; rfl
theorem longF_good (k : Nat) : goodF (longF k) = true := by
  unfold goodF
  rw [longF_bytes]
  have : fparse (longF k).tag (zs k) = .inr (longF k) := by
    show fparse [48, 48, 49] (zs k) = _
    unfold fparse
    rw [if_neg (show ¬ goodTag [48, 48, 49] = false by decide), if_pos (show ctl [48, 48, 49] = true by decide), if_pos (by rw [badFrom_zs]; decide)]; rfl
  rw [this]
  exact decide_eq_true rfl
theorem longF_FB (k : Nat) : FB (longF k) := ⟨fun c hc => by rw [show c = 0 from List.eq_of_mem_replicate hc]; decide, fun s hs => by cases hs⟩
theorem badFld_rep (k : Nat) (hk : k < 9999) : ∀ (m i : Nat), badFld (List.replicate m (longF k)) i = none
  | 0, _ => rfl
  | m + 1, i => by
    rw [List.replicate_succ, badFld, if_neg (by rw [longF_good]; simp), if_neg (by rw [longF_bytes, zs_length]; omega), badFld_rep k hk m]
theorem dataOf_rep (k : Nat) : ∀ m, (dataOf (List.replicate m (longF k))).length = m * (k + 1)
  | 0 => by simp [dataOf]
  | m + 1 => by
    have := dataOf_rep k m
    unfold dataOf at *
    rw [List.replicate_succ, List.flatMap_cons, List.length_append, this]
    unfold fdata; rw [longF_bytes, List.length_append, zs_length, Nat.succ_mul]; simp; omega
theorem long_RB (m k : Nat) (hk : k ≤ 100000) : RB ⟨ansLead, List.replicate m (longF k)⟩ := ⟨show ansLead.length ≤ _ by decide, fun f hf => by
  rw [List.eq_of_mem_replicate hf]
  exact ⟨longF_FB k, show [48, 48, 49].length ≤ _ by decide, by show (zs k).length ≤ _; rw [zs_length]; omega, (fun s hs => nomatch (show s ∈ ([] : List SubV) from hs)), show ([] : List SubV).length ≤ _ by decide⟩⟩
theorem long_write (m k : Nat) (hk : k < 9999) : (99999 < 26 + m * (13 + k) → rwrite ⟨ansLead, List.replicate m (longF k)⟩ = .inl (14, (m : Int))) ∧ (¬ 99999 < 26 + m * (13 + k) → ∃ w, rwrite ⟨ansLead, List.replicate m (longF k)⟩ = .inr w) := by
  have hs : soundL ansLead = true := by decide
  have hl : wlen ⟨ansLead, List.replicate m (longF k)⟩ = ((26 + m * (13 + k) : Nat) : Int) := by
    show 25 + 12 * ((List.replicate m (longF k)).length : Int) + ((dataOf (List.replicate m (longF k))).length : Int) + 1 = _
    rw [dataOf_rep, List.length_replicate]
    have : m * (k + 1) + 12 * m = m * (13 + k) := by rw [Nat.mul_add, Nat.mul_add]; omega
    omega
  constructor
  · intro h
    unfold rwrite
    rw [if_neg (by simp [hs]), badFld_rep k hk]
    simp only
    rw [if_pos (by omega), List.length_replicate]
  · intro h
    unfold rwrite
    rw [if_neg (by simp [hs]), badFld_rep k hk]
    simp only
    rw [if_neg (by omega)]
    exact ⟨_, rfl⟩
theorem long_one (k : Nat) (hk : 9999 ≤ k) : rwrite ⟨ansLead, [longF k]⟩ = .inl (14, 0) := by
  have hs : soundL ansLead = true := by decide
  unfold rwrite
  rw [if_neg (by simp [hs])]
  have : badFld [longF k] 0 = some (14, 0) := by
    unfold badFld
    rw [if_neg (by rw [longF_good]; simp), if_pos (by rw [longF_bytes, zs_length]; omega)]; rfl
  rw [this]
end Go.Proofs.YteapibifebnboaaDoor

/- record: what is handed in, as the row reads it. -/
set_option linter.unusedVariables false
namespace Go.Proofs.YteapibifebnboaaDoor
open Go Go.Eng
theorem subCells_inj : ∀ {L M : List SubV}, subCells L = subCells M → L = M
  | [], [], _ => rfl
  | [], s :: M, h => by simp [subCells, sCells] at h
  | s :: L, [], h => by simp [subCells, sCells] at h
  | s :: L, q :: M, h => by
    have e : sCells s ++ subCells L = sCells q ++ subCells M := h
    simp only [sCells, List.cons_append, List.nil_append, List.cons.injEq, AV.int.injEq, AV.sl.injEq, true_and] at e
    obtain ⟨h1, ⟨_, h2⟩, h3⟩ := e
    rw [subCells_inj h3, show s = q from Prod.ext h1 (u8s_inj h2)]
theorem fCells_inj {f g : FV} (h : fCells f = fCells g) : f = g := by
  cases f; cases g
  simp only [fCells, List.cons.injEq, AV.str.injEq, AV.sl.injEq, AV.int.injEq, true_and, and_true] at h
  obtain ⟨h1, ⟨_, h2⟩, h3, h4, ⟨_, h5⟩⟩ := h
  rw [h1, u8s_inj h2, h3, h4, subCells_inj h5]
theorem rowCells_flat : ∀ L : List FV, (L.map fCells).flatten = rowCells L
  | [] => rfl
  | f :: L => by show fCells f ++ (L.map fCells).flatten = fCells f ++ rowCells L; rw [rowCells_flat L]
theorem opensFieldsB {H : Type} : OpensW Tryd.prog H 28 fun xs => ∃ L : List FV, (∀ f ∈ L, FB f ∧ f.tag.length ≤ 140737488351232 ∧ f.text.length ≤ 140737488351232 ∧ (∀ s ∈ f.subs, s.2.length ≤ 140737488351232) ∧ f.subs.length ≤ 140737488351232) ∧ L.length ≤ 140737488351232 ∧ xs = [.sl L.length (rowCells L)] := by
  refine (opens_sliceW (s := 5) Tryd.underlying28 (by kernel_rfl) (by omega) (of_decide_eq_true (by kernel_rfl)) opensFieldB).imp ?_
  rintro xs ⟨els, h1, h2, rfl⟩
  obtain ⟨L, rfl⟩ := all_form (f := fCells) h1 fun c hc => let ⟨⟨f, _, _, _, _, _, h⟩, _⟩ := hc; ⟨f, h⟩
  refine ⟨L, fun f hf => ?_, by simpa using h2, by rw [List.length_map, rowCells_flat]⟩
  obtain ⟨⟨g, a1, a2, a3, a4, a5, h⟩, _⟩ := h1 (fCells f) (List.mem_map.2 ⟨f, hf, rfl⟩)
  rw [fCells_inj h]; exact ⟨a5, a1, a2, a3, a4⟩
theorem opensRecordB {H : Type} : OpensW Tryd.prog H 30 fun xs => ∃ r : RV, RO r ∧ xs = rCells r := by
  refine (opens_struct2W Tryd.underlying30 (opens_strW Tryd.underlying9) opensFieldsB (by kernel_rfl) (by kernel_rfl) (by kernel_rfl)).imp ?_
  rintro xs ⟨a, b, ⟨l, _, l2, rfl⟩, ⟨L, k1, k2, rfl⟩, rfl⟩
  exact ⟨⟨l, L⟩, ⟨l2, k1, k2⟩, rfl⟩
theorem opensU8W {H : Type} : OpensW Tryd.prog H 5 fun xs => ∃ n : Int, (IntKind.u8.min ≤ n ∧ n ≤ IntKind.u8.max) ∧ xs = [.int .u8 n] := opens_intW Tryd.underlying5
end Go.Proofs.YteapibifebnboaaDoor
