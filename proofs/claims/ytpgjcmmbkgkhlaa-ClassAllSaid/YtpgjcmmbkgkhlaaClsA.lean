/- class.spans and ref03.spans -/
import Derived.Test.YtpgjcmmbkgkhlaaClsP
set_option linter.unusedVariables false
set_option linter.unusedSimpArgs false
namespace Go.Proofs.Ytpgjcmmbkgkhlaa
open Go Go.Eng
set_option maxRecDepth 100000 in
set_option maxHeartbeats 4000000 in
theorem spans_c : ACall Try.prog 25 [] (.own 0 0 0 43) (some ⟨0, 4, rcells .i32 tab⟩) := by
  refine acall_intro (some 44) Try.func25 rfl (by kernel_rfl) (by simp [Try.f25]) ?_
  refine run_seq ?_
  refine run_lits (l' := [(0, .nilS)]) (t' := []) (nx' := 1) (by kernel_rfl) ?_
  refine run_seq ?_
  refine run_lits (l' := [(0, .own 44 44 0 43)]) (t' := [(44, ⟨44, 4, rcells .i32 tab⟩)]) (nx' := 46) (by kernel_rfl) ?_
  refine ex_run 30 ?_
  simp (maxSteps := 400000) only [push_cast]
  exact ⟨_, [.own 0 0 0 43], rfl, by simp [outA, outV, outC, mkS_env, mkS_tk, lkF, lkG, AV.closed], .refl _, ⟨_, rfl, rfl, rfl⟩⟩
set_option maxRecDepth 100000 in
set_option maxHeartbeats 4000000 in
theorem rspans_c : ACall Try.prog 26 [] (.own 0 0 0 43) (some ⟨0, 4, rcells .i64 rtab⟩) := by
  refine acall_intro (some 44) Try.func26 rfl (by kernel_rfl) (by simp [Try.f26]) ?_
  refine run_seq ?_
  refine run_lits (l' := [(0, .nilS)]) (t' := []) (nx' := 1) (by kernel_rfl) ?_
  refine run_seq ?_
  refine run_lits (l' := [(0, .own 44 44 0 43)]) (t' := [(44, ⟨44, 4, rcells .i64 rtab⟩)]) (nx' := 46) (by kernel_rfl) ?_
  refine ex_run 30 ?_
  simp (maxSteps := 400000) only [push_cast]
  exact ⟨_, [.own 0 0 0 43], rfl, by simp [outA, outV, outC, mkS_env, mkS_tk, lkF, lkG, AV.closed], .refl _, ⟨_, rfl, rfl, rfl⟩⟩
end Go.Proofs.Ytpgjcmmbkgkhlaa
