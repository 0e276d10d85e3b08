/- law20.answers. -/
import Derived.Test.YtbkmbiccdhnibaaDirF
set_option linter.unusedVariables false
set_option linter.unusedSimpArgs false
namespace Go.Proofs.Ytbkmbiccdhnibaa
open Go Go.Eng
def aL : List Int := [48, 48, 49, 48, 48, 48, 52, 48, 48, 48, 48, 48]
theorem aL_good : good aL 0 = true := by decide +kernel
theorem aL_cells : cellsTo aL 1 = [.str [48, 48, 49], .int .i64 4, .int .i64 0] := by rfl
theorem Parse_aL (n : Nat) (hn : n = 12) (cs : List AV) (hc : cs = u8s aL) : ACall Try.prog 17 [.sl n cs] (.tup [.own 0 0 0 1, .agg [.int .i64 0, .int .i64 0]]) (some ⟨0, 3, [.str [48, 48, 49], .int .i64 4, .int .i64 0]⟩) := by
  subst hn; subst hc
  have hlen : aL.length = 12 := rfl
  rw [← aL_cells]
  have := Parse_run aL (by rw [hlen]; omega) (by decide) (some 100) (.tup [.own 0 0 0 1, .agg [.int .i64 0, .int .i64 0]]) (some ⟨0, 3, cellsTo aL 1⟩) (fun j h1 h2 _ => by
      have : j = 0 := by omega
      subst this; rw [aL_good] at h2; cases h2) (fun n h1 _ => by
      have : n = 1 := by omega
      subst this; exact ⟨rfl, rfl, rfl⟩)
  exact this
theorem zrep12 (x : AV) : zrep [x] 12 = [x, x, x, x, x, x, x, x, x, x, x, x] := by simp [zrep, show List.range 12 = [0, 1, 2, 3, 4, 5, 6, 7, 8, 9, 10, 11] from rfl]
theorem b001 : bytesOf ⟨#[48, 48, 49]⟩ = [48, 48, 49] := rfl
set_option maxRecDepth 100000 in
set_option maxHeartbeats 4000000 in
theorem answers_c : ACall Try.prog 16 [] (.bool true) none := by
  refine acall_intro none Try.func16 rfl (by kernel_rfl) (by simp [Try.f16]) ?_
  refine ex_run 30 ?_
  simp (maxSteps := 200000) only [push_cast, Try.f16, Nat.reduceLT, Nat.reduceLeDiff, Nat.reduceEqDiff, Nat.reduceAdd, Nat.reduceMul, Nat.reduceSub, Int.reduceToNat, Int.reduceLE, ↓reduceIte, zrep12]
  refine call_intro (Parse_aL _ rfl _ rfl) (fun _ => ⟨rfl, fun T0 h => by cases h; rfl⟩) ?_
  simp (maxSteps := 200000) only [push_cast, Nat.reduceLT, Nat.reduceLeDiff, Nat.reduceEqDiff, Nat.reduceAdd, Nat.reduceMul, Nat.reduceSub, Int.reduceToNat, Int.reduceLE, Int.reduceLT, Int.reduceEq, Int.reduceAdd, ↓reduceIte, b001, decide_true, and_self]
  try refine ⟨by decide, ?_⟩
  refine call_intro (Control_c [48, 48, 49] (by decide)) (fun h => by cases h) ?_
  simp (maxSteps := 200000) only [push_cast, Nat.reduceLT, Nat.reduceLeDiff, Nat.reduceEqDiff, Nat.reduceAdd, Nat.reduceMul, Nat.reduceSub, Int.reduceToNat, Int.reduceLE, Int.reduceLT, Int.reduceEq, Int.reduceAdd, ↓reduceIte, b001, decide_true, and_self]
  exact ⟨_, _, rfl, rfl, .of_eq (by rfl), rfl⟩
end Go.Proofs.Ytbkmbiccdhnibaa
