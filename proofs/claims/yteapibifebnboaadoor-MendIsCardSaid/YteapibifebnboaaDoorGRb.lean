/- GRb: the texts RecG, RecH, RecI, RecJ, RecK, one behind the other. -/
import Derived.Test.YteapibifebnboaaDoorGRa
import Derived.Test.YteapibifebnboaaDoorGDb
set_option linter.unusedVariables false
set_option linter.unusedSimpArgs false

/- ref19.Parse -/
set_option linter.unusedVariables false
set_option linter.unusedSimpArgs false
namespace Go.Proofs.YteapibifebnboaaDoor
open Go Go.Eng
theorem rfield_m (tag b : List Int) (n : Nat) (hn : b.length = n) (ht : tag.length ≤ 9223372036854775807) (hl : n ≤ 1099511627776) : ACall Tryd.prog 35 [.str tag, .sl n (u8s b)] (fres (fparse tag b)) none := by
  subst hn; exact rfield_c tag b ht hl
theorem rparse_frame {b : List Int} {e a : Int} (h : frameP b = .inl (e, a)) : rres (rparse b) = .tup [.agg (rCells zeroR), flt e a] := by
  unfold rparse; rw [h]; rfl
set_option maxRecDepth 100000 in
set_option maxHeartbeats 16000000 in
theorem rPParse_c (b : List Int) (hl : b.length ≤ 9223372036854775807) (hb : inB b) : ACall Tryd.prog 14 [.sl b.length (u8s b)] (rres (rparse b)) none := by
  refine acall_intro none Tryd.func14 rfl (by kernel_rfl) (by simp [Tryd.f14]) ?_
  refine ex_run 100 ?_
  simp (maxSteps := 200000) only [Tryd.f14, push_cast, List.getD_cons_zero, List.getD_cons_succ, List.take_succ_cons, List.take_zero, List.drop_succ_cons, Nat.reduceLT, Nat.reduceLeDiff, Nat.reduceEqDiff, Nat.reduceAdd, Nat.reduceMul, Nat.reduceSub, Int.reduceToNat, Int.reduceLE, Int.reduceLT, Int.reduceEq, Int.reduceAdd, ↓reduceIte, decide_true, decide_false, and_self]
  refine call_intro (rleader_c b (by omega) hb) (fun h => by cases h) ?_
  unfold lres
  by_cases h1 : ledAt b < 24
  · have e : frameP b = .inl (10, ledAt b) := by unfold frameP; rw [if_pos h1]
    rw [if_pos h1, rparse_frame e]
    simp (maxSteps := 200000) only [lfault, push_cast, List.getD_cons_zero, List.getD_cons_succ, List.take_succ_cons, List.take_zero, List.drop_succ_cons, Nat.reduceLT, Nat.reduceLeDiff, Nat.reduceEqDiff, Nat.reduceAdd, Nat.reduceMul, Nat.reduceSub, Int.reduceToNat, Int.reduceLE, Int.reduceLT, Int.reduceEq, Int.reduceAdd, ↓reduceIte, decide_true, decide_false, and_self]
    exact ⟨by kernel_rfl, by kernel_rfl, _, _, rfl, rfl, sub_tup ⟨zeroR_sub, .refl _, trivial⟩, rfl⟩
  · rw [if_neg h1]
    have hle := ledAt_le b
    have hA : ledAt b = 24 := by omega
    obtain ⟨d1, d2⟩ := led_digits hA
    have v1 := valOf_small (l := b.take 5) (i := (b.take 5).length) (Nat.le_refl _) (by rw [List.length_take]; omega) (by rw [List.take_length]; exact d1)
    have v2 := valOf_small (l := (b.drop 12).take 5) (i := ((b.drop 12).take 5).length) (Nat.le_refl _) (by rw [List.length_take]; omega) (by rw [List.take_length]; exact d2)
    rw [List.take_length] at v1 v2
    have hf : frameP b = if valOf (b.take 5) ≠ b.length ∨ b.getD (b.length - 1) 0 ≠ 29 then .inl (13, 0)
      else if valOf ((b.drop 12).take 5) ≤ 24 ∨ (b.length : Int) ≤ valOf ((b.drop 12).take 5) ∨ (valOf ((b.drop 12).take 5) - 25) % 12 ≠ 0 ∨ b.getD (valOf ((b.drop 12).take 5) - 1).toNat 0 ≠ 30 then .inl (13, 12)
      else .inr (valOf ((b.drop 12).take 5)) := by unfold frameP; rw [if_neg h1]; rfl
    generalize valOf ((b.drop 12).take 5) = bs at *
    generalize valOf (b.take 5) = len at *
    by_cases h2 : len = b.length
    · subst h2
      have hpos : 0 < b.length := by omega
      have w1 : IntKind.i64.wrap ((b.length : Int) - 1) = (b.length : Int) - 1 := wrap_i64 (by omega)
      have t1 : ((b.length : Int) - 1).toNat = b.length - 1 := by omega
      have i1 : (b.length : Int) - 1 < (b.length : Int) := by omega
      have i2 : (0 : Int) ≤ (b.length : Int) - 1 := by omega
      have i3 : b.length - 1 < b.length := by omega
      have hg := u8s_getD b (b.length - 1) i3
      by_cases h3 : b.getD (b.length - 1) 0 = 29
      · rw [if_neg (by rintro (h | h); exact h rfl; exact h h3)] at hf
        rw [h3] at hg
        by_cases h4 : bs ≤ 24
        · rw [if_pos (.inl h4)] at hf
          rw [rparse_frame hf]
          have h4' : bs < 25 := by omega
          simp (maxSteps := 200000) only [w1, t1, i1, i2, i3, hg, hpos, h4', okF, push_cast, List.getD_cons_zero, List.getD_cons_succ, List.take_succ_cons, List.take_zero, List.drop_succ_cons, Nat.reduceLT, Nat.reduceLeDiff, Nat.reduceEqDiff, Nat.reduceAdd, Nat.reduceMul, Nat.reduceSub, Int.reduceToNat, Int.reduceLE, Int.reduceLT, Int.reduceEq, Int.reduceAdd, ↓reduceIte, decide_true, decide_false, and_self]
          exact ⟨_, _, rfl, rfl, sub_tup ⟨zeroR_sub, .refl _, trivial⟩, rfl⟩
        · have h4' : ¬ bs < 25 := by omega
          by_cases h5 : (b.length : Int) ≤ bs
          · rw [if_pos (.inr (.inl h5))] at hf
            rw [rparse_frame hf]
            simp (maxSteps := 200000) only [w1, t1, i1, i2, i3, hg, hpos, h4', h5, okF, push_cast, List.getD_cons_zero, List.getD_cons_succ, List.take_succ_cons, List.take_zero, List.drop_succ_cons, Nat.reduceLT, Nat.reduceLeDiff, Nat.reduceEqDiff, Nat.reduceAdd, Nat.reduceMul, Nat.reduceSub, Int.reduceToNat, Int.reduceLE, Int.reduceLT, Int.reduceEq, Int.reduceAdd, ↓reduceIte, decide_true, decide_false, and_self]
            exact ⟨_, _, rfl, rfl, sub_tup ⟨zeroR_sub, .refl _, trivial⟩, rfl⟩
          · have w2 : IntKind.i64.wrap (bs - 1) = bs - 1 := wrap_i64 (by omega)
            have w3 : IntKind.i64.wrap (bs - 25) = bs - 25 := wrap_i64 (by omega)
            have e3 : (bs - 25).tmod 12 = (bs - 25) % 12 := Int.tmod_eq_emod_of_nonneg (by omega)
            by_cases h6 : (bs - 25) % 12 = 0
            · have j1 : bs - 1 < (b.length : Int) := by omega
              have j2 : (0 : Int) ≤ bs - 1 := by omega
              have j3 : (bs - 1).toNat < b.length := by omega
              have hg2 := u8s_getD b (bs - 1).toNat j3
              by_cases h7 : b.getD (bs - 1).toNat 0 = 30
              · rw [if_neg (by rintro (h | h | h | h); exact h4 h; exact h5 h; exact h h6; exact h h7)] at hf
                rw [h7] at hg2
                obtain ⟨f1, f2, f3, f4, f5, f6, f7, f8, f9⟩ := frameP_inr hf
                have hdl := dirOf_length hf
                have k1 : (24 : Int) ≤ bs - 1 := by omega
                have k2 : bs - 1 ≤ (b.length : Int) := by omega
                have hdd : List.drop 24 (List.take (bs - 1).toNat b) = dirOf b bs := rfl
                have hdb : inB (dirOf b bs) := fun c hc => hb c (List.mem_of_mem_take (List.mem_of_mem_drop hc))
                simp (maxSteps := 200000) only [w1, t1, i1, i2, i3, hg, hpos, h4', h5, w2, w3, e3, h6, j1, j2, j3, hg2, k1, k2, hdd, okF, push_cast, List.getD_cons_zero, List.getD_cons_succ, List.take_succ_cons, List.take_zero, List.drop_succ_cons, Nat.reduceLT, Nat.reduceLeDiff, Nat.reduceEqDiff, Nat.reduceAdd, Nat.reduceMul, Nat.reduceSub, Int.reduceToNat, Int.reduceLE, Int.reduceLT, Int.reduceEq, Int.reduceAdd, ↓reduceIte, decide_true, decide_false, and_self]
                refine ⟨by decide, ?_⟩
                cases hd : dirBad (dirOf b bs) with
                | some j =>
                  have hr : rparse b = .inl (11, 24 + 12 * (j : Int)) := by unfold rparse; rw [hf]; simp only; rw [hd]
                  rw [hr]
                  have hj := (dirBad_some hd).1
                  refine call_intro (RDir_bad (dirOf b bs) _ (by omega) (by omega) hdb hd) (fun h => by cases h) ?_
                  have w4 : IntKind.i64.wrap (24 + 12 * (j : Int)) = 24 + 12 * (j : Int) := wrap_i64 (by omega)
                  simp (maxSteps := 200000) only [w4, push_cast, List.getD_cons_zero, List.getD_cons_succ, List.take_succ_cons, List.take_zero, List.drop_succ_cons, Nat.reduceLT, Nat.reduceLeDiff, Nat.reduceEqDiff, Nat.reduceAdd, Nat.reduceMul, Nat.reduceSub, Int.reduceToNat, Int.reduceLE, Int.reduceLT, Int.reduceEq, Int.reduceAdd, ↓reduceIte, decide_true, decide_false, and_self]
                  exact ⟨by kernel_rfl, by kernel_rfl, _, _, rfl, rfl, sub_tup ⟨zeroR_sub, .refl _, trivial⟩, rfl⟩
                | none =>
                  obtain ⟨hd1, hd2⟩ := dirBad_none hd
                  obtain ⟨n, hn⟩ : ∃ n, n = (dirOf b bs).length / 12 := ⟨_, rfl⟩
                  have hr : rparse b = if bs + base (dirOf b bs) n ≠ (b.length : Int) - 1 then .inl (13, 12)
                    else match fieldsP b bs.toNat (entsTo (dirOf b bs) n) with
                      | .inl a => .inl (12, a)
                      | .inr fs => .inr ⟨b.take 24, fs⟩ := by unfold rparse; rw [hf]; simp only [hd, hn] <;> rfl
                  rw [hr]
                  refine call_intro (RDir_ok (dirOf b bs) _ (by omega) (by omega) hdb hd n hn) (fun h => by cases h) ?_
                  generalize dirOf b bs = d at *
                  have hLl := entsTo_length d n
                  have hget : ∀ (i : Nat) (h : i < (entsTo d n).length), goodTag (entsTo d n)[i].1 = true ∧ 1 ≤ (entsTo d n)[i].2.1 ∧ (entsTo d n)[i].2.2 = base d i ∧ base d (i + 1) = base d i + (entsTo d n)[i].2.1 := fun i h => by
                    rw [entsTo_get d n i h]
                    obtain ⟨g1, g2, g3, g4⟩ := good_out (hd2 i (by omega))
                    exact ⟨g2, g3, g4, rfl⟩
                  generalize hLL : entsTo d n = L at *
                  have hcell := lCells_length L
                  have hbase : ∀ i, i ≤ n → 0 ≤ base d i ∧ base d i ≤ 1000000000 := fun i hi => by have := base_small d i; omega
                  simp (maxSteps := 200000) only [push_cast, List.getD_cons_zero, List.getD_cons_succ, List.take_succ_cons, List.take_zero, List.drop_succ_cons, Nat.reduceLT, Nat.reduceLeDiff, Nat.reduceEqDiff, Nat.reduceAdd, Nat.reduceMul, Nat.reduceSub, Int.reduceToNat, Int.reduceLE, Int.reduceLT, Int.reduceEq, Int.reduceAdd, ↓reduceIte, decide_true, decide_false, and_self]
                  refine run_keep (l' := [(0, .sl b.length (u8s b)), (2, .addr 2 0 0), (3, .addr 3 1 0), (4, .int .i64 b.length), (5, .int .i64 bs), (7, .own 70 53 0 n), (8, .int .i64 (bs + base d 0)), (9, .int .i64 0)]) (t' := [(2, ⟨0, 1, [.str [], .nilS]⟩), (3, ⟨1, 1, [.int .i64 0, .int .i64 0]⟩), (70, ⟨53, 3, lCells L⟩)]) (nx' := _) ⟨.refl _, .refl _, .refl _, .refl _, .refl _, .refl _, .of_eq (by simp [base]), .refl _, trivial⟩ ⟨⟨_, rfl, rfl, rfl, SubL.refl _⟩, ⟨_, rfl, rfl, rfl, SubL.refl _⟩, ⟨_, rfl, rfl, rfl, SubL.refl _⟩, trivial⟩ (Nat.le_refl _) ?_
                  refine run_loop (fun k s => ∃ (i nx : Nat), i ≤ n ∧ k = n - i ∧ s = mkS [(0, .sl b.length (u8s b)), (2, .addr 2 0 0), (3, .addr 3 1 0), (4, .int .i64 b.length), (5, .int .i64 bs), (7, .own 70 53 0 n), (8, .int .i64 (bs + base d i)), (9, .int .i64 i)] [(2, ⟨0, 1, [.str [], .nilS]⟩), (3, ⟨1, 1, [.int .i64 0, .int .i64 0]⟩), (70, ⟨53, 3, lCells L⟩)] nx) _ ⟨0, _, Nat.zero_le _, rfl, rfl⟩ ?_
                  rintro k s ⟨i, nx, hi, rfl, rfl⟩
                  by_cases h : i < n
                  · have c1 := lCells_get L i 1 (by omega) (by omega)
                    obtain ⟨g1, g2, g3, g4⟩ := hget i (by omega)
                    have hb1 := hbase i (by omega)
                    have hb2 := hbase (i + 1) (by omega)
                    have hw : IntKind.i64.wrap ((i : Int) + 1) = ((i + 1 : Nat) : Int) := by rw [wrap_i64 (by omega)]; omega
                    obtain ⟨bi, hbi⟩ : ∃ v, base d (i + 1) = v := ⟨_, rfl⟩
                    have w4 : IntKind.i64.wrap (bs + base d i + L[i].2.1) = bs + bi := by rw [wrap_i64 (by omega)]; omega
                    generalize base d i = bd at *
                    generalize hq : L[i] = q at *
                    obtain ⟨tag, ln, st⟩ := q
                    simp only [eCells, List.getD_cons_zero, List.getD_cons_succ] at c1
                    simp only at w4
                    have l1 : i * 3 + 1 < n * 3 := by omega
                    refine ex_run 100 ?_
                    simp (maxSteps := 200000) only [h, c1, hcell, hLl, l1, hw, w4, push_cast, List.getD_cons_zero, List.getD_cons_succ, List.take_succ_cons, List.take_zero, List.drop_succ_cons, Nat.reduceLT, Nat.reduceLeDiff, Nat.reduceEqDiff, Nat.reduceAdd, Nat.reduceMul, Nat.reduceSub, Int.reduceToNat, Int.reduceLE, Int.reduceLT, Int.reduceEq, Int.reduceAdd, ↓reduceIte, decide_true, decide_false, and_self]
                    refine run_back_le (le_mk (l' := [(0, .sl b.length (u8s b)), (2, .addr 2 0 0), (3, .addr 3 1 0), (4, .int .i64 b.length), (5, .int .i64 bs), (7, .own 70 53 0 n), (8, .int .i64 (bs + bi)), (9, .int .i64 ((i + 1 : Nat) : Int))]) (t' := [(2, ⟨0, 1, [.str [], .nilS]⟩), (3, ⟨1, 1, [.int .i64 0, .int .i64 0]⟩), (70, ⟨53, 3, lCells L⟩)]) (nx' := _) ⟨.refl _, .refl _, .refl _, .refl _, .refl _, .refl _, .refl _, .of_eq (congrArg (AV.int .i64) (by omega)), trivial⟩ ⟨⟨_, rfl, rfl, rfl, SubL.refl _⟩, ⟨_, rfl, rfl, rfl, SubL.refl _⟩, ⟨_, rfl, rfl, rfl, SubL.refl _⟩, trivial⟩ (Nat.le_refl _)) ?_
                    exact ⟨n - (i + 1), by omega, i + 1, _, by omega, rfl, by rw [hbi]⟩
                  · have hin : i = n := by omega
                    subst hin
                    by_cases hend : bs + base d i = (b.length : Int) - 1
                    · rw [if_neg (by rw [hend]; simp)]
                      have h24 : (24 : Int) ≤ (b.length : Int) := by omega
                      have hu : u8n (b.take 24) = b.take 24 := u8n_eq fun c hc => hb c (List.mem_of_mem_take hc)
                      have h24l : (b.take 24).length = 24 := by rw [List.length_take]; omega
                      refine ex_run 100 ?_
                      simp (maxSteps := 200000) only [h, w1, hend, h24, hu, push_cast, List.getD_cons_zero, List.getD_cons_succ, List.take_succ_cons, List.take_zero, List.drop_succ_cons, Nat.reduceLT, Nat.reduceLeDiff, Nat.reduceEqDiff, Nat.reduceAdd, Nat.reduceMul, Nat.reduceSub, Int.reduceToNat, Int.reduceLE, Int.reduceLT, Int.reduceEq, Int.reduceAdd, ↓reduceIte, decide_true, decide_false, and_self]
                      refine ⟨h24l, ?_⟩
                      generalize nx + 4 + 4 + 1 + 1 + 1 + 1 = g10
                      refine run_lazyCell 10 1 100 5 ⟨g10, 1, [.str (b.take 24), .nilS]⟩ rfl rfl (by decide) ?_
                      refine run_keep (l' := [(0, .sl b.length (u8s b)), (2, .addr 2 0 0), (3, .addr 3 1 0), (5, .int .i64 bs), (7, .own 70 53 0 i), (10, .addr 10 g10 0), (11, .int .i64 0)]) (t' := [(10, ⟨g10, 1, [.str (b.take 24), .own 100 _ 0 0]⟩), (100, ⟨_, 5, rowCells []⟩), (2, ⟨0, 1, [.str [], .nilS]⟩), (3, ⟨1, 1, [.int .i64 0, .int .i64 0]⟩), (70, ⟨53, 3, lCells L⟩)]) (nx' := _) ⟨.refl _, .refl _, .refl _, .refl _, .refl _, .refl _, .refl _, trivial⟩ ⟨⟨_, rfl, rfl, rfl, SubL.refl _⟩, ⟨_, rfl, rfl, rfl, SubL.refl _⟩, ⟨_, rfl, rfl, rfl, SubL.refl _⟩, ⟨_, rfl, rfl, rfl, SubL.refl _⟩, ⟨_, rfl, rfl, rfl, SubL.refl _⟩, trivial⟩ (Nat.le_refl _) ?_
                      refine run_loop (fun k s => ∃ (j g nx : Nat) (fs : List FV), j ≤ i ∧ k = i - j ∧ fs.length = j ∧ fieldsP b bs.toNat L = preF fs (fieldsP b bs.toNat (L.drop j)) ∧ s = mkS [(0, .sl b.length (u8s b)), (2, .addr 2 0 0), (3, .addr 3 1 0), (5, .int .i64 bs), (7, .own 70 53 0 i), (10, .addr 10 g10 0), (11, .int .i64 j)] [(10, ⟨g10, 1, [.str (b.take 24), .own 100 g 0 j]⟩), (100, ⟨g, 5, rowCells fs⟩), (2, ⟨0, 1, [.str [], .nilS]⟩), (3, ⟨1, 1, [.int .i64 0, .int .i64 0]⟩), (70, ⟨53, 3, lCells L⟩)] nx) _ ⟨0, _, _, [], Nat.zero_le _, rfl, rfl, by rw [preF_nil]; rfl, rfl⟩ ?_
                      rintro k s ⟨j, g, nx, fs, hj, rfl, hfl, hfP, rfl⟩
                      have hrl := rowCells_length fs
                      by_cases hji : j < i
                      · have c0 := lCells_get L j 0 (by omega) (by omega)
                        have c1 := lCells_get L j 1 (by omega) (by omega)
                        have c2 := lCells_get L j 2 (by omega) (by omega)
                        obtain ⟨g1, g2, g3, g4⟩ := hget j (by omega)
                        have hb1 := hbase j (by omega)
                        have hb2 := hbase (j + 1) (by omega)
                        have hmono := base_mono d (i := j + 1) (j := i) (by omega)
                        have hw : IntKind.i64.wrap ((j : Int) + 1) = ((j + 1 : Nat) : Int) := by rw [wrap_i64 (by omega)]; omega
                        have hfd := fieldsP_drop b bs.toNat L j (by omega)
                        generalize hq : L[j] = q at *
                        obtain ⟨tag, ln, st⟩ := q
                        simp only at g1 g2 g3 g4
                        simp only [eCells, List.getD_cons_zero, List.getD_cons_succ, Nat.add_zero] at c0 c1 c2
                        have l0 : j * 3 < i * 3 := by omega
                        have l1 : j * 3 + 1 < i * 3 := by omega
                        have l2 : j * 3 + 2 < i * 3 := by omega
                        obtain ⟨fr, hfr⟩ : ∃ fr : Nat, (fr : Int) = bs + st := ⟨(bs + st).toNat, by omega⟩
                        obtain ⟨to, hto⟩ : ∃ to : Nat, (to : Int) = bs + st + ln - 1 := ⟨(bs + st + ln - 1).toNat, by omega⟩
                        have u1 : IntKind.i64.wrap (bs + st) = (fr : Int) := by rw [wrap_i64 (by omega)]; omega
                        have u2 : IntKind.i64.wrap ((fr : Int) + ln) = (fr : Int) + ln := wrap_i64 (by omega)
                        have u3 : IntKind.i64.wrap ((fr : Int) + ln - 1) = (to : Int) := by rw [wrap_i64 (by omega)]; omega
                        have m1 : to < b.length := by omega
                        have m2 : fr ≤ to := by omega
                        have m3 : to ≤ b.length := by omega
                        have hgt := u8s_getD b to m1
                        have hone : oneP b bs.toNat (tag, ln, st) = if b.getD to 0 ≠ 30 then .inl (to : Int) else match fparse tag ((b.take to).drop fr) with | .inl a => .inl ((fr : Int) + a) | .inr f => .inr f := by
                          unfold oneP
                          simp only
                          rw [show bs.toNat + st.toNat = fr by omega, show fr + ln.toNat - 1 = to by omega] <;> rfl
                        have hsl : ((b.take to).drop fr).length = to - fr := by rw [List.length_drop, List.length_take]; omega
                        generalize b.getD to 0 = c at *
                        by_cases hc : c = 30
                        · rw [if_neg (by rw [hc]; simp)] at hone
                          refine ex_run 100 ?_
                          simp (maxSteps := 200000) only [hji, c0, c1, c2, l0, l1, l2, u1, u2, u3, m1, m2, m3, hgt, hc, hpos, hcell, hLl, push_cast, List.getD_cons_zero, List.getD_cons_succ, List.take_succ_cons, List.take_zero, List.drop_succ_cons, Nat.reduceLT, Nat.reduceLeDiff, Nat.reduceEqDiff, Nat.reduceAdd, Nat.reduceMul, Nat.reduceSub, Int.reduceToNat, Int.reduceLE, Int.reduceLT, Int.reduceEq, Int.reduceAdd, ↓reduceIte, decide_true, decide_false, and_self]
                          refine ⟨by kernel_rfl, ?_⟩
                          refine call_introF (rfield_m tag ((b.take to).drop fr) _ hsl (by have := goodTag_len g1; omega) (by omega)) (fun h => by cases h) ?_
                          cases hp : fparse tag ((b.take to).drop fr) with
                          | inl a =>
                            rw [hp] at hone
                            rw [hone] at hfd
                            have hr2 : fieldsP b bs.toNat L = .inl ((fr : Int) + a) := by rw [hfP, hfd]; rfl
                            rw [hr2]
                            have ha := fparse_nn hp
                            have ha2 := fparse_le hp
                            rw [hsl] at ha2
                            have u4 : IntKind.i64.wrap ((fr : Int) + a) = (fr : Int) + a := wrap_i64 (by omega)
                            unfold fres
                            simp (maxSteps := 200000) only [fCells, zeroF, subCells_nil, u8s_nil, u4, push_cast, List.getD_cons_zero, List.getD_cons_succ, List.take_succ_cons, List.take_zero, List.drop_succ_cons, Nat.reduceLT, Nat.reduceLeDiff, Nat.reduceEqDiff, Nat.reduceAdd, Nat.reduceMul, Nat.reduceSub, Int.reduceToNat, Int.reduceLE, Int.reduceLT, Int.reduceEq, Int.reduceAdd, ↓reduceIte, decide_true, decide_false, and_self]
                            refine ⟨okTr_of (by kernel_rfl), by kernel_rfl, okTr_of (by kernel_rfl), ?_⟩
                            exact ⟨_, _, rfl, rfl, sub_tup ⟨zeroR_sub, .refl _, trivial⟩, rfl⟩
                          | inr f =>
                            rw [hp] at hone
                            rw [hone] at hfd
                            have hcl : closedL (subCells f.subs) = true := subCells_closed _
                            unfold fres
                            simp (maxSteps := 200000) only [fCells, hcl, hrl, hfl, hw, push_cast, List.getD_cons_zero, List.getD_cons_succ, List.take_succ_cons, List.take_zero, List.drop_succ_cons, Nat.reduceLT, Nat.reduceLeDiff, Nat.reduceEqDiff, Nat.reduceAdd, Nat.reduceMul, Nat.reduceSub, Int.reduceToNat, Int.reduceLE, Int.reduceLT, Int.reduceEq, Int.reduceAdd, ↓reduceIte, decide_true, decide_false, and_self]
                            have e : rowCells fs ++ [.str f.tag, .sl f.text.length (u8s f.text), .int .u8 f.i0, .int .u8 f.i1, .sl f.subs.length (subCells f.subs)] = rowCells (fs ++ [f]) := by rw [rowCells_append]; rfl
                            refine ⟨okTr_of (by kernel_rfl), ⟨by omega, by omega⟩, ?_⟩
                            rw [e]
                            refine run_back_le (le_mk (l' := [(0, .sl b.length (u8s b)), (2, .addr 2 0 0), (3, .addr 3 1 0), (5, .int .i64 bs), (7, .own 70 53 0 i), (10, .addr 10 g10 0), (11, .int .i64 ((j + 1 : Nat) : Int))]) (t' := [(10, ⟨g10, 1, [.str (b.take 24), .own 100 _ 0 (j + 1)]⟩), (100, ⟨_, 5, rowCells (fs ++ [f])⟩), (2, ⟨0, 1, [.str [], .nilS]⟩), (3, ⟨1, 1, [.int .i64 0, .int .i64 0]⟩), (70, ⟨53, 3, lCells L⟩)]) (nx' := _) ⟨.refl _, .refl _, .refl _, .refl _, .refl _, .refl _, .of_eq (congrArg (AV.int .i64) (by omega)), trivial⟩ ⟨⟨_, rfl, rfl, rfl, SubL.refl _⟩, ⟨_, rfl, rfl, rfl, SubL.refl _⟩, ⟨_, rfl, rfl, rfl, SubL.refl _⟩, ⟨_, rfl, rfl, rfl, SubL.refl _⟩, ⟨_, rfl, rfl, rfl, SubL.refl _⟩, trivial⟩ (Nat.le_refl _)) ?_
                            exact ⟨i - (j + 1), by omega, j + 1, _, _, fs ++ [f], by omega, rfl, by simp [hfl], by rw [hfP, hfd]; simp only; rw [preF_preF], rfl⟩
                        · rw [if_pos hc] at hone
                          rw [hone] at hfd
                          have hr2 : fieldsP b bs.toNat L = .inl (to : Int) := by rw [hfP, hfd]; rfl
                          rw [hr2]
                          refine ex_run 100 ?_
                          simp (maxSteps := 200000) only [hji, c0, c1, c2, l0, l1, l2, u1, u2, u3, m1, m2, m3, hgt, hc, hpos, hcell, hLl, push_cast, List.getD_cons_zero, List.getD_cons_succ, List.take_succ_cons, List.take_zero, List.drop_succ_cons, Nat.reduceLT, Nat.reduceLeDiff, Nat.reduceEqDiff, Nat.reduceAdd, Nat.reduceMul, Nat.reduceSub, Int.reduceToNat, Int.reduceLE, Int.reduceLT, Int.reduceEq, Int.reduceAdd, ↓reduceIte, decide_true, decide_false, and_self]
                          exact ⟨_, _, rfl, rfl, sub_tup ⟨zeroR_sub, .refl _, trivial⟩, rfl⟩
                      · have hje : j = i := by omega
                        subst hje
                        have hr2 : fieldsP b bs.toNat L = .inr fs := by rw [hfP, List.drop_of_length_le (by omega)]; simp [fieldsP, preF]
                        rw [hr2]
                        have htk : (rowCells fs).take (j * 5) = rowCells fs := List.take_of_length_le (by omega)
                        refine ex_run 100 ?_
                        simp (maxSteps := 200000) only [hji, push_cast, List.getD_cons_zero, List.getD_cons_succ, List.take_succ_cons, List.take_zero, List.drop_succ_cons, Nat.reduceLT, Nat.reduceLeDiff, Nat.reduceEqDiff, Nat.reduceAdd, Nat.reduceMul, Nat.reduceSub, Int.reduceToNat, Int.reduceLE, Int.reduceLT, Int.reduceEq, Int.reduceAdd, ↓reduceIte, decide_true, decide_false, and_self]
                        exact ⟨[.agg [.str (b.take 24), .own 100 g 0 j], .agg [.int .i64 0, .int .i64 0]], [.agg [.str (b.take 24), .sl j (rowCells fs)], .agg [.int .i64 0, .int .i64 0]], by kernel_rfl, by simp [outA, outV, outL, outC, mkS_env, mkS_tk, lkF, lkG, AV.closed, htk, rowCells_closed], .of_eq (by rw [← hfl]; rfl), rfl⟩
                    · rw [if_pos hend]
                      refine ex_run 100 ?_
                      simp (maxSteps := 200000) only [h, w1, hend, push_cast, List.getD_cons_zero, List.getD_cons_succ, List.take_succ_cons, List.take_zero, List.drop_succ_cons, Nat.reduceLT, Nat.reduceLeDiff, Nat.reduceEqDiff, Nat.reduceAdd, Nat.reduceMul, Nat.reduceSub, Int.reduceToNat, Int.reduceLE, Int.reduceLT, Int.reduceEq, Int.reduceAdd, ↓reduceIte, decide_true, decide_false, and_self]
                      exact ⟨_, _, rfl, rfl, sub_tup ⟨zeroR_sub, .refl _, trivial⟩, rfl⟩
              · rw [if_pos (.inr (.inr (.inr h7)))] at hf
                rw [rparse_frame hf]
                generalize b.getD (bs - 1).toNat 0 = c2 at *
                simp (maxSteps := 200000) only [w1, t1, i1, i2, i3, hg, hpos, h4', h5, w2, w3, e3, h6, j1, j2, j3, hg2, h7, okF, push_cast, List.getD_cons_zero, List.getD_cons_succ, List.take_succ_cons, List.take_zero, List.drop_succ_cons, Nat.reduceLT, Nat.reduceLeDiff, Nat.reduceEqDiff, Nat.reduceAdd, Nat.reduceMul, Nat.reduceSub, Int.reduceToNat, Int.reduceLE, Int.reduceLT, Int.reduceEq, Int.reduceAdd, ↓reduceIte, decide_true, decide_false, and_self]
                exact ⟨by decide, _, _, rfl, rfl, sub_tup ⟨zeroR_sub, .refl _, trivial⟩, rfl⟩
            · rw [if_pos (.inr (.inr (.inl h6)))] at hf
              rw [rparse_frame hf]
              simp (maxSteps := 200000) only [w1, t1, i1, i2, i3, hg, hpos, h4', h5, w2, w3, e3, h6, okF, push_cast, List.getD_cons_zero, List.getD_cons_succ, List.take_succ_cons, List.take_zero, List.drop_succ_cons, Nat.reduceLT, Nat.reduceLeDiff, Nat.reduceEqDiff, Nat.reduceAdd, Nat.reduceMul, Nat.reduceSub, Int.reduceToNat, Int.reduceLE, Int.reduceLT, Int.reduceEq, Int.reduceAdd, ↓reduceIte, decide_true, decide_false, and_self]
              exact ⟨by decide, _, _, rfl, rfl, sub_tup ⟨zeroR_sub, .refl _, trivial⟩, rfl⟩
      · rw [if_pos (.inr h3)] at hf
        rw [rparse_frame hf]
        generalize b.getD (b.length - 1) 0 = c at *
        simp (maxSteps := 200000) only [w1, t1, i1, i2, i3, hg, h3, hpos, okF, push_cast, List.getD_cons_zero, List.getD_cons_succ, List.take_succ_cons, List.take_zero, List.drop_succ_cons, Nat.reduceLT, Nat.reduceLeDiff, Nat.reduceEqDiff, Nat.reduceAdd, Nat.reduceMul, Nat.reduceSub, Int.reduceToNat, Int.reduceLE, Int.reduceLT, Int.reduceEq, Int.reduceAdd, ↓reduceIte, decide_true, decide_false, and_self]
        exact ⟨_, _, rfl, rfl, sub_tup ⟨zeroR_sub, .refl _, trivial⟩, rfl⟩
    · rw [if_pos (.inl h2)] at hf
      rw [rparse_frame hf]
      simp (maxSteps := 200000) only [h2, okF, push_cast, List.getD_cons_zero, List.getD_cons_succ, List.take_succ_cons, List.take_zero, List.drop_succ_cons, Nat.reduceLT, Nat.reduceLeDiff, Nat.reduceEqDiff, Nat.reduceAdd, Nat.reduceMul, Nat.reduceSub, Int.reduceToNat, Int.reduceLE, Int.reduceLT, Int.reduceEq, Int.reduceAdd, ↓reduceIte, decide_true, decide_false, and_self]
      exact ⟨_, _, rfl, rfl, sub_tup ⟨zeroR_sub, .refl _, trivial⟩, rfl⟩
end Go.Proofs.YteapibifebnboaaDoor

/- record.Write, record.Size, record.Starts -/
set_option linter.unusedVariables false
set_option linter.unusedSimpArgs false
namespace Go.Proofs.YteapibifebnboaaDoor
open Go Go.Eng
/-- The first field that cannot be written, and why. -/
def badFld : List FV → Nat → Option (Int × Int)
  | [], _ => none
  | f :: L, i => if goodF f = false then some (12, i) else if 9999 ≤ (fbytes f).length then some (14, i) else badFld L (i + 1)
def entsOf : List FV → Int → List Ent
  | [], _ => []
  | f :: L, st => (f.tag, (fbytes f).length + 1, st) :: entsOf L (st + (fbytes f).length + 1)
def fdata (f : FV) : List Int := fbytes f ++ [30]
def dataOf (L : List FV) : List Int := L.flatMap fdata
def wbase (r : RV) : Int := 25 + 12 * r.fields.length
def wlen (r : RV) : Int := wbase r + (dataOf r.fields).length + 1
def wbytes (r : RV) : List Int := leadB r.lead (wlen r) (wbase r) ++ pbytes (entsOf r.fields 0) ++ [30] ++ dataOf r.fields ++ [29]
def rwrite (r : RV) : Sum (Int × Int) (List Int) :=
  if soundL r.lead = false then .inl (10, 0)
  else match badFld r.fields 0 with
    | some x => .inl x
    | none => if 99999 < wlen r then .inl (14, r.fields.length) else .inr (wbytes r)
theorem entsOf_length : ∀ (L : List FV) (st : Int), (entsOf L st).length = L.length
  | [], _ => rfl
  | f :: L, st => by rw [entsOf, List.length_cons, entsOf_length L, List.length_cons]
theorem dataOf_snoc (L : List FV) (f : FV) : dataOf (L ++ [f]) = dataOf L ++ fdata f := by simp [dataOf]
theorem entsOf_snoc : ∀ (L : List FV) (f : FV) (st : Int), entsOf (L ++ [f]) st = entsOf L st ++ [(f.tag, ((fbytes f).length : Int) + 1, st + (dataOf L).length)]
  | [], f, st => by simp [entsOf, dataOf]
  | g :: L, f, st => by
    rw [List.cons_append, entsOf, entsOf_snoc L f, entsOf, List.cons_append]
    have : st + ((fbytes g).length : Int) + 1 + ((dataOf L).length : Int) = st + ((dataOf (g :: L)).length : Int) := by
      unfold dataOf fdata; rw [List.flatMap_cons, List.length_append, List.length_append]; simp; omega
    rw [this]
theorem badFld_drop (L : List FV) (i : Nat) (h : i < L.length) : badFld (L.drop i) i = if goodF L[i] = false then some (12, (i : Int)) else if 9999 ≤ (fbytes L[i]).length then some (14, (i : Int)) else badFld (L.drop (i + 1)) (i + 1) := by
  rw [List.drop_eq_getElem_cons h]; rfl
theorem badFld_all : ∀ {L : List FV} {i : Nat}, badFld L i = none → ∀ f ∈ L, goodF f = true ∧ (fbytes f).length < 9999
  | [], _, _, f, hf => by cases hf
  | g :: L, i, h, f, hf => by
    unfold badFld at h
    split at h
    · cases h
    · rename_i h1
      split at h
      · cases h
      · rename_i h2
        rcases List.mem_cons.1 hf with rfl | hf
        · exact ⟨by simpa using h1, by omega⟩
        · exact badFld_all h f hf
theorem goodF_tag {f : FV} (h : goodF f = true) : goodTag f.tag = true := by
  unfold goodF fparse at h
  cases ht : goodTag f.tag with
  | true => rfl
  | false => rw [ht] at h; simp at h
theorem dataOf_take_le (L : List FV) (i : Nat) : (dataOf (L.take i)).length ≤ (dataOf L).length := by
  have : dataOf L = dataOf (L.take i) ++ dataOf (L.drop i) := by unfold dataOf; rw [← List.flatMap_append, List.take_append_drop]
  rw [this, List.length_append]; omega
theorem dataOf_mem {L : List FV} {f : FV} (h : f ∈ L) : (fbytes f).length + 1 ≤ (dataOf L).length := by
  obtain ⟨a, b, rfl⟩ := List.append_of_mem h
  unfold dataOf
  rw [List.flatMap_append, List.flatMap_cons, List.length_append, List.length_append]
  simp [fdata]; omega
theorem dataOf_cnt : ∀ L : List FV, L.length ≤ (dataOf L).length
  | [] => by simp
  | f :: L => by
              have := dataOf_cnt L
              have e : (fdata f).length = (fbytes f).length + 1 := by simp [fdata]
              unfold dataOf at *; rw [List.flatMap_cons, List.length_append, List.length_cons]; omega
/-- The entries of what is written may be a directory's, unless there are too many bytes. -/
theorem pok_entsOf : ∀ {L : List FV} {st : Int}, (∀ f ∈ L, goodF f = true ∧ (fbytes f).length < 9999) → st + (dataOf L).length ≤ 100000 → pok st (entsOf L st) = true
  | [], _, _, _ => rfl
  | f :: L, st, h, hs => by
    obtain ⟨h1, h2⟩ := h f List.mem_cons_self
    have hd : ((dataOf (f :: L)).length : Int) = (fbytes f).length + 1 + (dataOf L).length := by
      unfold dataOf fdata; rw [List.flatMap_cons, List.length_append, List.length_append]; simp
    rw [entsOf, pok, Bool.and_eq_true]
    refine ⟨entOk_out.2 ⟨goodF_tag h1, by show (1 : Int) ≤ (fbytes f).length + 1; omega, by show ((fbytes f).length : Int) + 1 ≤ 9999; omega, rfl, by omega⟩, ?_⟩
    have e : st + (f.tag, ((fbytes f).length : Int) + 1, st).2.1 = st + (fbytes f).length + 1 := by show st + (((fbytes f).length : Int) + 1) = _; omega
    rw [e]
    exact pok_entsOf (fun g hg => h g (List.mem_cons_of_mem _ hg)) (by omega)
theorem DPrint_ok (L : List Ent) (n : Nat) (hn : L.length = n) (hL : n ≤ 1000000) (hT : ∀ e ∈ L, e.1.length ≤ 9223372036854775807) (h : pok 0 L = true) : ACall Tryd.prog 51 [.sl n (lCells L)] (.tup [.own 0 0 0 (pbytes L).length, .bool true]) (some ⟨0, 1, u8s (pbytes L)⟩) := by
  subst hn
  exact Print_run L hL hT (some 100) _ _ (fun h2 => by rw [h] at h2; cases h2) (fun _ => ⟨rfl, rfl, rfl⟩)
theorem DPrint_bad (L : List Ent) (n : Nat) (hn : L.length = n) (hL : n ≤ 1000000) (hT : ∀ e ∈ L, e.1.length ≤ 9223372036854775807) (h : pok 0 L = false) : ACall Tryd.prog 51 [.sl n (lCells L)] (.tup [.nilS, .bool false]) none := by
  subst hn
  exact Print_run L hL hT none _ _ (fun _ => ⟨rfl, rfl, rfl⟩) (fun h2 => by rw [h] at h2; cases h2)
theorem entsOf_tag : ∀ {L : List FV} {st : Int} {e : Ent}, e ∈ entsOf L st → ∃ f ∈ L, e.1 = f.tag
  | [], _, _, h => by cases h
  | f :: L, st, e, h => by
    rw [entsOf] at h
    rcases List.mem_cons.1 h with rfl | h
    · exact ⟨f, List.mem_cons_self, rfl⟩
    · obtain ⟨g, hg, k⟩ := entsOf_tag h
      exact ⟨g, List.mem_cons_of_mem _ hg, k⟩
/-- What holds of a record that is handed in. -/
structure RB (r : RV) : Prop where
  lead : r.lead.length ≤ 140737488351232
  fld : ∀ f ∈ r.fields, FB f ∧ f.tag.length ≤ 140737488351232 ∧ f.text.length ≤ 140737488351232 ∧ (∀ s ∈ f.subs, s.2.length ≤ 140737488351232) ∧ f.subs.length ≤ 1099511627776
set_option maxRecDepth 100000 in
set_option maxHeartbeats 8000000 in
theorem Write_c (r : RV) (hB : RB r) (hd : (dataOf r.fields).length ≤ 1000000) (t0 : Option Nat) (res : AV) (T : Option Tok)
    (hbad : ∀ e a, rwrite r = .inl (e, a) → t0 = none ∧ res = .tup [.nilS, flt e a] ∧ T = none)
    (hgood : ∀ l, rwrite r = .inr l → t0 = some 78 ∧ res = .tup [.own 0 0 0 l.length, flt 0 0] ∧ T = some ⟨0, 1, u8s l⟩) :
    ACall Tryd.prog 24 [.agg (rCells r)] res T := by
  obtain ⟨lead, L⟩ := r
  have hrc : closedL (rowCells L) = true := rowCells_closed _
  refine acall_intro t0 Tryd.func24 rfl (by kernel_rfl) (by simp [Tryd.f24]) ?_
  have hlead := hB.lead
  simp only at hlead hd
  refine ex_run 100 ?_
  simp (maxSteps := 200000) only [Tryd.f24, rCells, hrc, push_cast, List.getD_cons_zero, List.getD_cons_succ, List.take_succ_cons, List.take_zero, List.drop_succ_cons, Nat.reduceLT, Nat.reduceLeDiff, Nat.reduceEqDiff, Nat.reduceAdd, Nat.reduceMul, Nat.reduceSub, Int.reduceToNat, Int.reduceLE, Int.reduceLT, Int.reduceEq, Int.reduceAdd, ↓reduceIte, decide_true, decide_false, and_self]
  refine call_intro (Sound_c lead (by omega)) (fun h => by cases h) ?_
  cases hs : soundL lead with
  | false =>
    simp (maxSteps := 200000) only [hrc, push_cast, List.getD_cons_zero, List.getD_cons_succ, List.take_succ_cons, List.take_zero, List.drop_succ_cons, Nat.reduceLT, Nat.reduceLeDiff, Nat.reduceEqDiff, Nat.reduceAdd, Nat.reduceMul, Nat.reduceSub, Int.reduceToNat, Int.reduceLE, Int.reduceLT, Int.reduceEq, Int.reduceAdd, ↓reduceIte, decide_true, decide_false, and_self]
    refine call_intro (rfault_c 10 0) (fun h => by cases h) ?_
    obtain ⟨rfl, rfl, rfl⟩ := hbad 10 0 (by unfold rwrite; rw [if_pos hs])
    simp (maxSteps := 200000) only [flt, push_cast, List.getD_cons_zero, List.getD_cons_succ, List.take_succ_cons, List.take_zero, List.drop_succ_cons, Nat.reduceLT, Nat.reduceLeDiff, Nat.reduceEqDiff, Nat.reduceAdd, Nat.reduceMul, Nat.reduceSub, Int.reduceToNat, Int.reduceLE, Int.reduceLT, Int.reduceEq, Int.reduceAdd, ↓reduceIte, decide_true, decide_false, and_self]
    exact ⟨_, _, rfl, rfl, .refl _, rfl⟩
  | true =>
    have hr : rwrite ⟨lead, L⟩ = match badFld L 0 with
      | some x => .inl x
      | none => if 99999 < wlen ⟨lead, L⟩ then .inl (14, L.length) else .inr (wbytes ⟨lead, L⟩) := by unfold rwrite; rw [if_neg (by simp [hs])]
    simp (maxSteps := 200000) only [hrc, push_cast, List.getD_cons_zero, List.getD_cons_succ, List.take_succ_cons, List.take_zero, List.drop_succ_cons, Nat.reduceLT, Nat.reduceLeDiff, Nat.reduceEqDiff, Nat.reduceAdd, Nat.reduceMul, Nat.reduceSub, Int.reduceToNat, Int.reduceLE, Int.reduceLT, Int.reduceEq, Int.reduceAdd, ↓reduceIte, decide_true, decide_false, and_self]
    refine run_lazy 4 100 1 rfl ?_
    refine run_lazy 5 101 3 rfl ?_
    refine run_keep (l' := [(1, .addr 1 0 0), (3, .addr 3 2 0), (4, .own 100 _ 0 0), (5, .own 101 _ 0 0), (23, .sl L.length (rowCells L)), (24, .int .i64 L.length), (25, .int .i64 0)]) (t' := [(101, ⟨_, 3, lCells (entsOf (L.take 0) 0)⟩), (100, ⟨_, 1, u8s (dataOf (L.take 0))⟩), (3, ⟨2, 1, [.int .i64 0, .int .i64 0]⟩), (1, ⟨0, 1, [.str lead, .sl L.length (rowCells L)]⟩)]) (nx' := _) ⟨.refl _, .refl _, .refl _, .refl _, .refl _, .refl _, .refl _, trivial⟩ ⟨⟨_, rfl, rfl, rfl, SubL.refl _⟩, ⟨_, rfl, rfl, rfl, SubL.refl _⟩, ⟨_, rfl, rfl, rfl, SubL.refl _⟩, ⟨_, rfl, rfl, rfl, SubL.refl _⟩, trivial⟩ (Nat.le_refl _) ?_
    refine run_loop (fun k s => ∃ (i g1 g2 nx : Nat), i ≤ L.length ∧ k = L.length - i ∧ badFld L 0 = badFld (L.drop i) i ∧ s = mkS [(1, .addr 1 0 0), (3, .addr 3 2 0), (4, .own 100 g1 0 (dataOf (L.take i)).length), (5, .own 101 g2 0 i), (23, .sl L.length (rowCells L)), (24, .int .i64 L.length), (25, .int .i64 i)] [(101, ⟨g2, 3, lCells (entsOf (L.take i) 0)⟩), (100, ⟨g1, 1, u8s (dataOf (L.take i))⟩), (3, ⟨2, 1, [.int .i64 0, .int .i64 0]⟩), (1, ⟨0, 1, [.str lead, .sl L.length (rowCells L)]⟩)] nx) _ ⟨0, _, _, _, Nat.zero_le _, rfl, rfl, rfl⟩ ?_
    rintro k s ⟨i, g1, g2, nx, hi, rfl, hbf, rfl⟩
    have hcnt := dataOf_cnt L
    have hdle := dataOf_take_le L i
    have hel : (entsOf (L.take i) 0).length = i := by rw [entsOf_length, List.length_take]; omega
    have hcl := lCells_length (entsOf (L.take i) 0)
    rw [hel] at hcl
    have hrl := rowCells_length L
    by_cases h : i < L.length
    · have hrow := rowCells_row L i h
      obtain ⟨hFB, ht1, ht2, ht3, ht4⟩ := hB.fld L[i] (List.getElem_mem h)
      have hfl := dataOf_mem (List.getElem_mem h)
      have hPr := Print_c L[i] hFB (by omega) (by omega) (by omega) ht4
      have hbd := badFld_drop L i h
      have hw : IntKind.i64.wrap ((i : Int) + 1) = ((i + 1 : Nat) : Int) := by rw [wrap_i64 (by omega)]; omega
      have htk1 : L.take (i + 1) = L.take i ++ [L[i]] := by rw [List.take_add_one, List.getElem?_eq_getElem h]; rfl
      have hd1 := dataOf_take_le L (i + 1)
      have hds : dataOf (L.take (i + 1)) = dataOf (L.take i) ++ fdata L[i] := by rw [htk1, dataOf_snoc]
      have hes : lCells (entsOf (L.take (i + 1)) 0) = lCells (entsOf (L.take i) 0) ++ eCells (L[i].tag, ((fbytes L[i]).length : Int) + 1, ((dataOf (L.take i)).length : Int)) := by rw [htk1, entsOf_snoc, lCells_append, Int.zero_add]; rfl
      generalize L[i] = f at *
      have hcs : closedL (subCells f.subs) = true := subCells_closed _
      simp only [fCells] at hrow hPr
      have hle : i * 5 + 5 ≤ L.length * 5 := by omega
      have hpos : 0 < L.length * 5 := by omega
      generalize hdt : dataOf (L.take i) = D at *
      generalize hEn : entsOf (L.take i) 0 = E at *
      have w1 : IntKind.i64.wrap (((fbytes f).length : Int) + 1) = ((fbytes f).length : Int) + 1 := wrap_i64 (by omega)
      refine ex_run 100 ?_
      simp (maxSteps := 200000) only [h, hrow, hcs, hrl, hle, hpos, push_cast, List.getD_cons_zero, List.getD_cons_succ, List.take_succ_cons, List.take_zero, List.drop_succ_cons, Nat.reduceLT, Nat.reduceLeDiff, Nat.reduceEqDiff, Nat.reduceAdd, Nat.reduceMul, Nat.reduceSub, Int.reduceToNat, Int.reduceLE, Int.reduceLT, Int.reduceEq, Int.reduceAdd, ↓reduceIte, decide_true, decide_false, and_self]
      refine call_intro hPr (fun h => by cases h) ?_
      unfold prR
      cases hg : goodF f with
      | false =>
        rw [if_pos hg] at hbd
        rw [if_neg (by simp)]
        rw [hbf, hbd] at hr
        obtain ⟨rfl, rfl, rfl⟩ := hbad _ _ hr
        simp (maxSteps := 200000) only [push_cast, List.getD_cons_zero, List.getD_cons_succ, List.take_succ_cons, List.take_zero, List.drop_succ_cons, Nat.reduceLT, Nat.reduceLeDiff, Nat.reduceEqDiff, Nat.reduceAdd, Nat.reduceMul, Nat.reduceSub, Int.reduceToNat, Int.reduceLE, Int.reduceLT, Int.reduceEq, Int.reduceAdd, ↓reduceIte, decide_true, decide_false, and_self]
        refine call_intro (rfault_c 12 i) (fun h => by cases h) ?_
        simp (maxSteps := 200000) only [flt, push_cast, List.getD_cons_zero, List.getD_cons_succ, List.take_succ_cons, List.take_zero, List.drop_succ_cons, Nat.reduceLT, Nat.reduceLeDiff, Nat.reduceEqDiff, Nat.reduceAdd, Nat.reduceMul, Nat.reduceSub, Int.reduceToNat, Int.reduceLE, Int.reduceLT, Int.reduceEq, Int.reduceAdd, ↓reduceIte, decide_true, decide_false, and_self]
        exact ⟨_, _, rfl, rfl, .refl _, rfl⟩
      | true =>
        rw [if_neg (by rw [hg]; simp)] at hbd
        rw [if_pos rfl]
        have hub := u8s_closed (fbytes f)
        by_cases h9 : 9999 ≤ (fbytes f).length
        · have h9' : (9999 : Int) ≤ ((fbytes f).length : Int) := by omega
          rw [if_pos h9] at hbd
          rw [hbf, hbd] at hr
          obtain ⟨rfl, rfl, rfl⟩ := hbad _ _ hr
          simp (maxSteps := 200000) only [h9', hub, push_cast, List.getD_cons_zero, List.getD_cons_succ, List.take_succ_cons, List.take_zero, List.drop_succ_cons, Nat.reduceLT, Nat.reduceLeDiff, Nat.reduceEqDiff, Nat.reduceAdd, Nat.reduceMul, Nat.reduceSub, Int.reduceToNat, Int.reduceLE, Int.reduceLT, Int.reduceEq, Int.reduceAdd, ↓reduceIte, decide_true, decide_false, and_self]
          refine call_intro (rfault_c 14 i) (fun h => by cases h) ?_
          simp (maxSteps := 200000) only [flt, push_cast, List.getD_cons_zero, List.getD_cons_succ, List.take_succ_cons, List.take_zero, List.drop_succ_cons, Nat.reduceLT, Nat.reduceLeDiff, Nat.reduceEqDiff, Nat.reduceAdd, Nat.reduceMul, Nat.reduceSub, Int.reduceToNat, Int.reduceLE, Int.reduceLT, Int.reduceEq, Int.reduceAdd, ↓reduceIte, decide_true, decide_false, and_self]
          exact ⟨_, _, rfl, rfl, .refl _, rfl⟩
        · have h9' : ¬ (9999 : Int) ≤ ((fbytes f).length : Int) := by omega
          rw [if_neg h9] at hbd
          have hDl : D.length ≤ 1000000 := by omega
          simp (maxSteps := 200000) only [h9', hub, w1, hcl, hw, push_cast, List.getD_cons_zero, List.getD_cons_succ, List.take_succ_cons, List.take_zero, List.drop_succ_cons, Nat.reduceLT, Nat.reduceLeDiff, Nat.reduceEqDiff, Nat.reduceAdd, Nat.reduceMul, Nat.reduceSub, Int.reduceToNat, Int.reduceLE, Int.reduceLT, Int.reduceEq, Int.reduceAdd, ↓reduceIte, decide_true, decide_false, and_self]
          refine ⟨⟨by omega, by omega⟩, ⟨by omega, by omega⟩, ⟨List.length_append, by omega, by omega⟩, ?_⟩
          have e1 : u8s (D ++ fbytes f) ++ [.int .u8 30] = u8s (dataOf (L.take (i + 1))) := by rw [hds]; simp [fdata, u8s]
          have e2 : lCells E ++ [.str f.tag, .int .i64 (((fbytes f).length : Int) + 1), .int .i64 (D.length : Int)] = lCells (entsOf (L.take (i + 1)) 0) := by rw [hes]; rfl
          have e3 : D.length + (fbytes f).length + 1 = (dataOf (L.take (i + 1))).length := by rw [hds]; simp [fdata]; omega
          rw [e1, e2, e3]
          refine run_back_le (le_mk (l' := [(1, .addr 1 0 0), (3, .addr 3 2 0), (4, .own 100 _ 0 (dataOf (L.take (i + 1))).length), (5, .own 101 _ 0 (i + 1)), (23, .sl L.length (rowCells L)), (24, .int .i64 L.length), (25, .int .i64 ((i + 1 : Nat) : Int))]) (t' := [(101, ⟨_, 3, lCells (entsOf (L.take (i + 1)) 0)⟩), (100, ⟨_, 1, u8s (dataOf (L.take (i + 1)))⟩), (3, ⟨2, 1, [.int .i64 0, .int .i64 0]⟩), (1, ⟨0, 1, [.str lead, .sl L.length (rowCells L)]⟩)]) (nx' := _) ⟨.refl _, .refl _, .refl _, .refl _, .refl _, .refl _, .of_eq (congrArg (AV.int .i64) (by omega)), trivial⟩ ⟨⟨_, rfl, rfl, rfl, SubL.refl _⟩, ⟨_, rfl, rfl, rfl, SubL.refl _⟩, ⟨_, rfl, rfl, rfl, SubL.refl _⟩, ⟨_, rfl, rfl, rfl, SubL.refl _⟩, trivial⟩ (Nat.le_refl _)) ?_
          exact ⟨L.length - (i + 1), by omega, i + 1, _, _, _, by omega, rfl, by rw [hbf, hbd], rfl⟩
    · have hin : i = L.length := by omega
      subst hin
      rw [List.take_length] at *
      have hnone : badFld L 0 = none := by rw [hbf, List.drop_of_length_le (Nat.le_refl _)]; rfl
      rw [hnone] at hr
      simp only at hr
      have hall := badFld_all hnone
      have htk : (lCells (entsOf L 0)).take (L.length * 3) = lCells (entsOf L 0) := List.take_of_length_le (by omega)
      have hce : closedL (lCells (entsOf L 0)) = true := lCells_closed _
      have hpk := pok_entsOf (L := L) (st := 0) hall
      have hTg : ∀ e ∈ entsOf L 0, e.1.length ≤ 9223372036854775807 := fun e he => by obtain ⟨f, hf, k⟩ := entsOf_tag he; have := (hB.fld f hf).2.1; rw [k]; omega
      have hwb : wbase ⟨lead, L⟩ = 25 + 12 * (L.length : Int) := rfl
      have hwl : wlen ⟨lead, L⟩ = 25 + 12 * (L.length : Int) + (dataOf L).length + 1 := rfl
      have hwy : wbytes ⟨lead, L⟩ = leadB lead (wlen ⟨lead, L⟩) (wbase ⟨lead, L⟩) ++ pbytes (entsOf L 0) ++ [30] ++ dataOf L ++ [29] := rfl
      generalize wbytes ⟨lead, L⟩ = wy at *
      generalize wlen ⟨lead, L⟩ = wl at *
      generalize wbase ⟨lead, L⟩ = wb at *
      have w1 : IntKind.i64.wrap (12 * (L.length : Int)) = 12 * (L.length : Int) := wrap_i64 (by omega)
      have w2 : IntKind.i64.wrap (24 + 12 * (L.length : Int)) = 24 + 12 * (L.length : Int) := wrap_i64 (by omega)
      have w3 : IntKind.i64.wrap (24 + 12 * (L.length : Int) + 1) = wb := by rw [wrap_i64 (by omega)]; omega
      have w4 : IntKind.i64.wrap (wb + (dataOf L).length) = wb + (dataOf L).length := wrap_i64 (by omega)
      have w5 : IntKind.i64.wrap (wb + (dataOf L).length + 1) = wl := by rw [wrap_i64 (by omega)]; omega
      refine ex_run 100 ?_
      simp (maxSteps := 200000) only [h, w1, w2, w3, w4, w5, push_cast, List.getD_cons_zero, List.getD_cons_succ, List.take_succ_cons, List.take_zero, List.drop_succ_cons, Nat.reduceLT, Nat.reduceLeDiff, Nat.reduceEqDiff, Nat.reduceAdd, Nat.reduceMul, Nat.reduceSub, Int.reduceToNat, Int.reduceLE, Int.reduceLT, Int.reduceEq, Int.reduceAdd, ↓reduceIte, decide_true, decide_false, and_self]
      by_cases h99 : 99999 < wl
      · rw [if_pos h99] at hr
        obtain ⟨rfl, rfl, rfl⟩ := hbad _ _ hr
        refine call_intro (LPrint_bad lead wl wb (by omega) (by omega) (by omega) (.inr (.inl h99))) (fun h => by cases h) ?_
        simp (maxSteps := 200000) only [htk, hce, push_cast, List.getD_cons_zero, List.getD_cons_succ, List.take_succ_cons, List.take_zero, List.drop_succ_cons, Nat.reduceLT, Nat.reduceLeDiff, Nat.reduceEqDiff, Nat.reduceAdd, Nat.reduceMul, Nat.reduceSub, Int.reduceToNat, Int.reduceLE, Int.reduceLT, Int.reduceEq, Int.reduceAdd, ↓reduceIte, decide_true, decide_false, and_self]
        cases hpp : pok 0 (entsOf L 0) with
        | true =>
          refine call_intro (DPrint_ok (entsOf L 0) _ (entsOf_length L 0) (by omega) hTg hpp) (fun _ => ⟨rfl, fun T0 e => by cases e; exact u8s_noSl _⟩) ?_
          simp (maxSteps := 200000) only [push_cast, List.getD_cons_zero, List.getD_cons_succ, List.take_succ_cons, List.take_zero, List.drop_succ_cons, Nat.reduceLT, Nat.reduceLeDiff, Nat.reduceEqDiff, Nat.reduceAdd, Nat.reduceMul, Nat.reduceSub, Int.reduceToNat, Int.reduceLE, Int.reduceLT, Int.reduceEq, Int.reduceAdd, ↓reduceIte, decide_true, decide_false, and_self]
          refine call_intro (rfault_c 14 L.length) (fun h => by cases h) ?_
          simp (maxSteps := 200000) only [flt, push_cast, List.getD_cons_zero, List.getD_cons_succ, List.take_succ_cons, List.take_zero, List.drop_succ_cons, Nat.reduceLT, Nat.reduceLeDiff, Nat.reduceEqDiff, Nat.reduceAdd, Nat.reduceMul, Nat.reduceSub, Int.reduceToNat, Int.reduceLE, Int.reduceLT, Int.reduceEq, Int.reduceAdd, ↓reduceIte, decide_true, decide_false, and_self]
          exact ⟨_, _, rfl, rfl, .refl _, rfl⟩
        | false =>
          refine call_intro (DPrint_bad (entsOf L 0) _ (entsOf_length L 0) (by omega) hTg hpp) (fun _ => ⟨rfl, fun T0 e => by cases e⟩) ?_
          simp (maxSteps := 200000) only [push_cast, List.getD_cons_zero, List.getD_cons_succ, List.take_succ_cons, List.take_zero, List.drop_succ_cons, Nat.reduceLT, Nat.reduceLeDiff, Nat.reduceEqDiff, Nat.reduceAdd, Nat.reduceMul, Nat.reduceSub, Int.reduceToNat, Int.reduceLE, Int.reduceLT, Int.reduceEq, Int.reduceAdd, ↓reduceIte, decide_true, decide_false, and_self]
          refine call_intro (rfault_c 14 L.length) (fun h => by cases h) ?_
          simp (maxSteps := 200000) only [flt, push_cast, List.getD_cons_zero, List.getD_cons_succ, List.take_succ_cons, List.take_zero, List.drop_succ_cons, Nat.reduceLT, Nat.reduceLeDiff, Nat.reduceEqDiff, Nat.reduceAdd, Nat.reduceMul, Nat.reduceSub, Int.reduceToNat, Int.reduceLE, Int.reduceLT, Int.reduceEq, Int.reduceAdd, ↓reduceIte, decide_true, decide_false, and_self]
          exact ⟨_, _, rfl, rfl, .refl _, rfl⟩
      · rw [if_neg h99] at hr
        obtain ⟨rfl, rfl, rfl⟩ := hgood _ hr
        have hp := hpk (by omega)
        have hpl := pbytes_len hp
        rw [entsOf_length] at hpl
        have hlb := leadB_len hs wl wb
        refine call_intro (LPrint_ok lead wl wb (by omega) (by omega) hs) (fun h => by cases h) ?_
        simp (maxSteps := 200000) only [htk, hce, push_cast, List.getD_cons_zero, List.getD_cons_succ, List.take_succ_cons, List.take_zero, List.drop_succ_cons, Nat.reduceLT, Nat.reduceLeDiff, Nat.reduceEqDiff, Nat.reduceAdd, Nat.reduceMul, Nat.reduceSub, Int.reduceToNat, Int.reduceLE, Int.reduceLT, Int.reduceEq, Int.reduceAdd, ↓reduceIte, decide_true, decide_false, and_self]
        refine call_intro (DPrint_ok (entsOf L 0) _ (entsOf_length L 0) (by omega) hTg hp) (fun _ => ⟨rfl, fun T0 e => by cases e; exact u8s_noSl _⟩) ?_
        generalize leadB lead wl wb = lb at *
        generalize pbytes (entsOf L 0) = pb at *
        have htkp : pb.take (L.length * 12) = pb := List.take_of_length_le (by omega)
        simp (maxSteps := 200000) only [hlb, hpl, htkp, List.take_length, u8s_append, push_cast, List.getD_cons_zero, List.getD_cons_succ, List.take_succ_cons, List.take_zero, List.drop_succ_cons, Nat.reduceLT, Nat.reduceLeDiff, Nat.reduceEqDiff, Nat.reduceAdd, Nat.reduceMul, Nat.reduceSub, Int.reduceToNat, Int.reduceLE, Int.reduceLT, Int.reduceEq, Int.reduceAdd, ↓reduceIte, decide_true, decide_false, and_self]
        have e1 : (lb ++ pb).length = 24 + L.length * 12 := by rw [List.length_append]; omega
        have e2 : u8s (lb ++ pb) ++ [.int .u8 30] = u8s (lb ++ pb ++ [30]) := by simp [u8s]
        have e3 : u8s (lb ++ pb) ++ [.int .u8 30] ++ u8s (dataOf L) ++ [.int .u8 29] = u8s wy := by rw [hwy]; simp [u8s]
        have e4 : 24 + L.length * 12 + 1 + (dataOf L).length + 1 = wy.length := by rw [hwy]; simp; omega
        rw [e3, e4]
        refine ⟨⟨by omega, by omega⟩, ⟨e1, by omega, by omega⟩, ⟨by rw [e2, u8s_length, List.length_append, e1]; rfl, by omega, by omega⟩, ⟨by rw [e2, u8s_append, u8s_length, List.length_append, List.length_append, e1]; rfl, by omega, by omega⟩, ?_⟩
        exact ⟨[.own 78 _ 0 wy.length, .agg [.int .i64 0, .int .i64 0]], [.own 0 0 0 wy.length, .agg [.int .i64 0, .int .i64 0]], rfl, by simp [outA, outV, outL, outC, mkS_env, mkS_tk, lkF, lkG, AV.closed], .refl _, ⟨_, rfl, u8s_closed _, rfl⟩⟩
end Go.Proofs.YteapibifebnboaaDoor

/- record.Size, record.Starts, ref19.SameRecords, law22's answers and small -/
set_option linter.unusedVariables false
set_option linter.unusedSimpArgs false
namespace Go.Proofs.YteapibifebnboaaDoor
open Go Go.Eng
theorem Write_bad {r : RV} (hB : RB r) (hd : (dataOf r.fields).length ≤ 1000000) {e a : Int} (h : rwrite r = .inl (e, a)) : ACall Tryd.prog 24 [.agg (rCells r)] (.tup [.nilS, flt e a]) none :=
  Write_c r hB hd none _ _ (fun e' a' h' => by rw [h] at h'; cases h'; exact ⟨rfl, rfl, rfl⟩) (fun l h' => by rw [h] at h'; cases h')
theorem Write_ok {r : RV} (hB : RB r) (hd : (dataOf r.fields).length ≤ 1000000) {l : List Int} (h : rwrite r = .inr l) : ACall Tryd.prog 24 [.agg (rCells r)] (.tup [.own 0 0 0 l.length, flt 0 0]) (some ⟨0, 1, u8s l⟩) :=
  Write_c r hB hd (some 78) _ _ (fun e' a' h' => by rw [h] at h'; cases h') (fun l h' => by rw [h] at h'; cases h'; exact ⟨rfl, rfl, rfl⟩)
theorem rowCells_get (L : List FV) (i j : Nat) (hi : i < L.length) (hj : j < 5) : (rowCells L).getD (i * 5 + j) .dead = (fCells L[i]).getD j .dead := by
  have := flatMap_drop (f := fCells) (s := 5) i hi fun _ _ => rfl
  unfold rowCells
  rw [List.getD_eq_getElem?_getD, List.getD_eq_getElem?_getD, ← List.getElem?_drop, this, List.getElem?_append_left (by simp [fCells]; omega)]
def subT (L : List SubV) : Nat := (L.map fun s => 2 + s.2.length).sum
def recT (L : List FV) : Nat := (L.map fun f => f.text.length + subT f.subs).sum
theorem subT_succ (L : List SubV) (i : Nat) (hi : i < L.length) : subT (L.take (i + 1)) = subT (L.take i) + 2 + L[i].2.length := by
  unfold subT; rw [List.take_add_one, List.getElem?_eq_getElem hi, List.map_append, List.sum_append]; simp; omega
theorem recT_succ (L : List FV) (i : Nat) (hi : i < L.length) : recT (L.take (i + 1)) = recT (L.take i) + L[i].text.length + subT L[i].subs := by
  unfold recT; rw [List.take_add_one, List.getElem?_eq_getElem hi, List.map_append, List.sum_append]; simp; omega
theorem subT_le (L : List SubV) (i : Nat) : subT (L.take i) ≤ subT L := by
  have : subT L = subT (L.take i) + subT (L.drop i) := by unfold subT; rw [← List.sum_append, ← List.map_append, List.take_append_drop]
  omega
theorem recT_le (L : List FV) (i : Nat) : recT (L.take i) ≤ recT L := by
  have : recT L = recT (L.take i) + recT (L.drop i) := by unfold recT; rw [← List.sum_append, ← List.map_append, List.take_append_drop]
  omega
theorem subT_cnt : ∀ L : List SubV, L.length ≤ subT L
  | [] => by simp
  | s :: L => by have := subT_cnt L; unfold subT at *; rw [List.map_cons, List.sum_cons, List.length_cons]; omega
theorem flat_subT : ∀ L : List SubV, (L.flatMap subB).length = subT L
  | [] => rfl
  | s :: L => by rw [List.flatMap_cons, List.length_append, flat_subT L]; simp [subT, subB]; omega
set_option maxRecDepth 100000 in
set_option maxHeartbeats 4000000 in
theorem Size_c (f : FV) (ht : f.tag.length ≤ 9223372036854775807) (hb : (fbytes f).length ≤ 1099511627776) : ACall Tryd.prog 23 [.agg (fCells f)] (.int .i64 (fbytes f).length) none := by
  have hcf : closedL (subCells f.subs) = true := subCells_closed _
  refine acall_intro none Tryd.func23 rfl (by kernel_rfl) (by simp [Tryd.f23]) ?_
  refine ex_run 100 ?_
  simp (maxSteps := 200000) only [Tryd.f23, fCells, hcf, push_cast, List.getD_cons_zero, List.getD_cons_succ, List.take_succ_cons, List.take_zero, List.drop_succ_cons, Nat.reduceLT, Nat.reduceLeDiff, Nat.reduceEqDiff, Nat.reduceAdd, Nat.reduceMul, Nat.reduceSub, Int.reduceToNat, Int.reduceLE, Int.reduceLT, Int.reduceEq, Int.reduceAdd, ↓reduceIte, decide_true, decide_false, and_self]
  refine call_intro (Control_c f.tag ht) (fun h => by cases h) ?_
  cases hc : List.isPrefixOf [48, 48] f.tag with
  | true =>
    have e : fbytes f = f.text := by unfold fbytes; rw [if_pos (show ctl f.tag = true from hc)]
    rw [e]
    simp (maxSteps := 200000) only [push_cast, List.getD_cons_zero, List.getD_cons_succ, List.take_succ_cons, List.take_zero, List.drop_succ_cons, Nat.reduceLT, Nat.reduceLeDiff, Nat.reduceEqDiff, Nat.reduceAdd, Nat.reduceMul, Nat.reduceSub, Int.reduceToNat, Int.reduceLE, Int.reduceLT, Int.reduceEq, Int.reduceAdd, ↓reduceIte, decide_true, decide_false, and_self]
    exact ⟨_, _, rfl, rfl, .refl _, rfl⟩
  | false =>
    have e : fbytes f = f.i0 :: f.i1 :: f.subs.flatMap subB := by unfold fbytes; rw [if_neg (by show ¬ ctl f.tag = true; unfold ctl; rw [hc]; simp)]
    have hlen : (fbytes f).length = 2 + subT f.subs := by rw [e]; simp only [List.length_cons, flat_subT]; omega
    simp (maxSteps := 200000) only [hcf, push_cast, List.getD_cons_zero, List.getD_cons_succ, List.take_succ_cons, List.take_zero, List.drop_succ_cons, Nat.reduceLT, Nat.reduceLeDiff, Nat.reduceEqDiff, Nat.reduceAdd, Nat.reduceMul, Nat.reduceSub, Int.reduceToNat, Int.reduceLE, Int.reduceLT, Int.reduceEq, Int.reduceAdd, ↓reduceIte, decide_true, decide_false, and_self]
    refine run_keep (l' := [(1, .addr 1 0 0), (3, .int .i64 ((2 + subT (f.subs.take 0) : Nat) : Int)), (13, .sl f.subs.length (subCells f.subs)), (14, .int .i64 f.subs.length), (15, .int .i64 0)]) (t' := [(1, ⟨0, 1, fCells f⟩)]) (nx' := _) ⟨.refl _, .refl _, .refl _, .refl _, .refl _, trivial⟩ ⟨⟨_, rfl, rfl, rfl, SubL.refl _⟩, trivial⟩ (Nat.le_refl _) ?_
    refine run_loop (fun k s => ∃ (i nx : Nat), i ≤ f.subs.length ∧ k = f.subs.length - i ∧ s = mkS [(1, .addr 1 0 0), (3, .int .i64 ((2 + subT (f.subs.take i) : Nat) : Int)), (13, .sl f.subs.length (subCells f.subs)), (14, .int .i64 f.subs.length), (15, .int .i64 i)] [(1, ⟨0, 1, fCells f⟩)] nx) _ ⟨0, _, Nat.zero_le _, rfl, rfl⟩ ?_
    rintro k s ⟨i, nx, hi, rfl, rfl⟩
    have hle := subT_le f.subs i
    have hcn := subT_cnt f.subs
    by_cases h : i < f.subs.length
    · have r0 := subCells_row f.subs i h
      have hsl := subCells_length f.subs
      have hpos : 0 < f.subs.length * 2 := by omega
      have l0 : i * 2 + 2 ≤ f.subs.length * 2 := by omega
      have hw : IntKind.i64.wrap ((i : Int) + 1) = ((i + 1 : Nat) : Int) := by rw [wrap_i64 (by omega)]; omega
      have hs := subT_succ f.subs i h
      have hle2 := subT_le f.subs (i + 1)
      obtain ⟨v, hv⟩ : ∃ v, 2 + subT (f.subs.take i) = v := ⟨_, rfl⟩
      obtain ⟨v2, hv2⟩ : ∃ v, 2 + subT (f.subs.take (i + 1)) = v := ⟨_, rfl⟩
      rw [hv]
      generalize f.subs[i] = q at *
      obtain ⟨c, tx⟩ := q
      simp only [sCells] at r0
      simp only at hs
      have hcx : closedL (u8s tx) = true := u8s_closed tx
      have w1 : IntKind.i64.wrap (2 + (tx.length : Int)) = 2 + (tx.length : Int) := wrap_i64 (by omega)
      have w2 : IntKind.i64.wrap ((v : Int) + (2 + (tx.length : Int))) = (v2 : Int) := by rw [wrap_i64 (by omega)]; omega
      refine ex_run 100 ?_
      simp (maxSteps := 200000) only [fCells, h, r0, hsl, hpos, l0, hcx, hw, w1, w2, push_cast, List.getD_cons_zero, List.getD_cons_succ, List.take_succ_cons, List.take_zero, List.drop_succ_cons, Nat.reduceLT, Nat.reduceLeDiff, Nat.reduceEqDiff, Nat.reduceAdd, Nat.reduceMul, Nat.reduceSub, Int.reduceToNat, Int.reduceLE, Int.reduceLT, Int.reduceEq, Int.reduceAdd, ↓reduceIte, decide_true, decide_false, and_self]
      refine run_back_le (le_mk (l' := [(1, .addr 1 0 0), (3, .int .i64 v2), (13, .sl f.subs.length (subCells f.subs)), (14, .int .i64 f.subs.length), (15, .int .i64 ((i + 1 : Nat) : Int))]) (t' := [(1, ⟨0, 1, fCells f⟩)]) (nx' := _) ⟨.refl _, .refl _, .refl _, .refl _, .of_eq (congrArg (AV.int .i64) (by omega)), trivial⟩ ⟨⟨_, rfl, rfl, rfl, SubL.refl _⟩, trivial⟩ (Nat.le_refl _)) ?_
      exact ⟨f.subs.length - (i + 1), by omega, i + 1, _, by omega, rfl, by rw [show (2 + (subT (f.subs.take (i + 1)) : Int)) = ((v2 : Nat) : Int) by omega]; rfl⟩
    · have hie : i = f.subs.length := by omega
      subst hie
      rw [List.take_length, ← hlen]
      refine ex_run 100 ?_
      simp (maxSteps := 200000) only [fCells, h, push_cast, List.getD_cons_zero, List.getD_cons_succ, List.take_succ_cons, List.take_zero, List.drop_succ_cons, Nat.reduceLT, Nat.reduceLeDiff, Nat.reduceEqDiff, Nat.reduceAdd, Nat.reduceMul, Nat.reduceSub, Int.reduceToNat, Int.reduceLE, Int.reduceLT, Int.reduceEq, Int.reduceAdd, ↓reduceIte, decide_true, decide_false, and_self]
      exact ⟨_, _, rfl, rfl, .refl _, rfl⟩
def i64s (l : List Int) : List AV := l.map (.int .i64)
theorem i64s_closed : ∀ l, closedL (i64s l) = true
  | [] => rfl
  | n :: l => by show closedL (AV.int .i64 n :: i64s l) = true; rw [closedL, i64s_closed l]; rfl
theorem i64s_get (l : List Int) (i : Nat) (h : i < l.length) : (i64s l).getD i .dead = .int .i64 (l.getD i 0) := by
  simp [i64s, List.getD_eq_getElem?_getD, h]
/-- Where the fields begin. -/
def startsOf : List FV → Int → List Int
  | [], _ => []
  | f :: L, a => a :: startsOf L (a + (fbytes f).length + 1)
theorem startsOf_length : ∀ L a, (startsOf L a).length = L.length
  | [], _ => rfl
  | f :: L, a => by rw [startsOf, List.length_cons, startsOf_length L, List.length_cons]
theorem startsOf_snoc : ∀ (L : List FV) (f : FV) (a : Int), startsOf (L ++ [f]) a = startsOf L a ++ [a + (dataOf L).length]
  | [], f, a => by simp [startsOf, dataOf]
  | g :: L, f, a => by
    rw [List.cons_append, startsOf, startsOf_snoc L f, startsOf, List.cons_append]
    have : a + ((fbytes g).length : Int) + 1 + ((dataOf L).length : Int) = a + ((dataOf (g :: L)).length : Int) := by
      unfold dataOf fdata; rw [List.flatMap_cons, List.length_append, List.length_append]; simp; omega
    rw [this]
end Go.Proofs.YteapibifebnboaaDoor

/- ref19.SameRecords, law22's answers and small -/
set_option linter.unusedVariables false
set_option linter.unusedSimpArgs false
namespace Go.Proofs.YteapibifebnboaaDoor
open Go Go.Eng
def sameR (r q : RV) : Bool := decide (r.lead = q.lead) && decide (r.fields = q.fields)
theorem sameR_refl (r : RV) : sameR r r = true := by simp [sameR]
end Go.Proofs.YteapibifebnboaaDoor

/- law22's answers and small -/
set_option linter.unusedVariables false
set_option linter.unusedSimpArgs false
namespace Go.Proofs.YteapibifebnboaaDoor
open Go Go.Eng
def ansLead : List Int := [48, 48, 48, 48, 48, 110, 97, 109, 32, 97, 50, 50, 48, 48, 48, 48, 48, 32, 97, 32, 52, 53, 48, 48]
def ansBytes : List Int := [48, 48, 48, 50, 54, 110, 97, 109, 32, 97, 50, 50, 48, 48, 48, 50, 53, 32, 97, 32, 52, 53, 48, 48, 30, 29]
theorem ansB : bytesOf { data := #[48, 48, 48, 48, 48, 110, 97, 109, 32, 97, 50, 50, 48, 48, 48, 48, 48, 32, 97, 32, 52, 53, 48, 48] } = ansLead := by rfl
theorem rwrite_ans : rwrite ⟨ansLead, []⟩ = .inr ansBytes := by rfl
theorem Write_ans : ACall Tryd.prog 24 [.agg [.str ansLead, .sl 0 []]] (.tup [.own 0 0 0 26, .agg [.int .i64 0, .int .i64 0]]) (some ⟨0, 1, u8s ansBytes⟩) :=
  Write_ok (r := ⟨ansLead, []⟩) ⟨by decide, fun f hf => by cases hf⟩ (by decide) rwrite_ans
/-- What holds of a record that is handed in. -/
structure RO (r : RV) : Prop where
  lead : r.lead.length ≤ 140737488351232
  fld : ∀ f ∈ r.fields, FB f ∧ f.tag.length ≤ 140737488351232 ∧ f.text.length ≤ 140737488351232 ∧ (∀ s ∈ f.subs, s.2.length ≤ 140737488351232) ∧ f.subs.length ≤ 140737488351232
  cnt : r.fields.length ≤ 140737488351232
def totR (r : RV) : Nat := r.lead.length + 20 * r.fields.length + recT r.fields
end Go.Proofs.YteapibifebnboaaDoor
