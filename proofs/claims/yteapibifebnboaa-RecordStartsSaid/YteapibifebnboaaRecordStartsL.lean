/- The row RecordStarts, out of the engine's contract for the law. The last step has the form that the kit's printer gives it. -/
import Derived.Test.YteapibifebnboaaRows
import Derived.Test.YteapibifebnboaaGRc
import Derived.Test.YteapibifebnboaaGEc
import Derived.WalkKit
import Derived.ProofKit
import Derived.OpenShut
import Derived.ShutString
import Derived.ChangeOld
import Derived.Below
import Derived.Carry
import Derived.SizedLaws
namespace Go.Proofs.Yteapibifebnboaa.recordStarts
open Go.ChangeShapes Go.WideShapes Go.ChangeAt Go.RowKit
set_option linter.unusedVariables false
theorem own : ownKnob Try.prog.godebug = none := by kernel_rfl
theorem laidOut : laidOutB Try.prog = true := by kernel_rfl
set_option maxRecDepth 100000 in
theorem lifted (os : Os) (started : os.Started) (H : Type) (enc : TypeId × Value → H) :
    ReturnsInHanded {} Try.checked os 12 .any (Rows.recordStartsSpec.pre6 enc Try.prog Try.f12 Rows.recordStartsRow.domain false) (Rows.recordStartsSpec.post enc Try.prog Try.f12 false true false false) := by
  refine returnsInHanded_of_change_sized (C := Try.checked) own started (by kernel_rfl) Try.func12
    (ChangeSpec.witness6 (enc := enc) (C := Try.checked) false ⟨#[], #[.agg #[.string ByteArray.empty, .slice none 0 0]], []⟩ 8 (by kernel_rfl) (by kernel_rfl) (by kernel_rfl) (by kernel_rfl)) ?_
  intro W base args ds gs before hval0 hW hcnd hsz0 _
  have hsz : (DataW.weightsEach Try.prog (Try.f12.params.toList ++ Rows.recordStartsSpec.plain.varTypes Try.prog) (ds ++ gs)).all (· ≤ reachBytes) = true := hsz0
  have hval : ∀ (j : Nat) t v, Try.f12.params[j]? = some t → args[j]? = some v → Value.okWide Try.prog W .any base t v := hval0
  have hW' := hW
  obtain ⟨p, q, hA0, hV, rfl, hfz, hnd⟩ := hW
  have hA : DataW.TrodAll enc Try.prog W 0 (fun _ => true) true Try.f12.params.toList args.toList ds p := hA0
  rw [Try.params12] at hA hval hsz
  obtain ⟨v0, vs0, d0, ds0, p0, q0, hargs, rfl, rfl, h0, r0⟩ := trodAll_cons hA
  obtain ⟨rfl, rfl, rfl⟩ := trodAll_nil r0
  obtain rfl : args = #[v0] := by cases args; simp_all
  obtain ⟨rfl, rfl⟩ := trodVars_none hV
  have lt0 : ∀ x ∈ p0, x.block < W.heap.size := by obtain ⟨m, hm⟩ := h0; exact DataW.trod_lt m _ _ _ hm
  have hw0 : ∀ m ∈ d0.weights Try.prog 61, m ≤ reachBytes := fun m hm => by have := List.all_eq_true.1 hsz _ (DataW.weights_mem_each (j := 0) (t := 61) rfl rfl m hm); simpa using this
  obtain ⟨x0, rfl⟩ : ∃ xs, v0 = .agg xs := by have hv := hval 0 61 v0 rfl rfl; unfold Value.okWide at hv; rw [Try.underlying61] at hv; obtain ⟨cs, e, _⟩ := hv; exact ⟨cs, e⟩
  obtain ⟨a0, s0, e0⟩ := Go.Eng.trod_aggW (opensRecordB) h0 hw0
  refine ((RecordStarts_call s0).2 W #[.agg x0] (fun b => b < W.heap.size) (fun b h => h) (.cons e0 (Go.Eng.RepL.nil _))).mono fun e W' hh => ?_
  obtain ⟨v, cx, rfl, hret, hrep⟩ := hh
  rw [Go.Eng.rep_bool hrep]
  have bel := hret.below
  exact ⟨_, rfl, _, _, _, [], _, [], hW', trodAll_mk1 (shut_bool Try.underlying4 _), (trodAll_cons_mk (Below.trod laidOut (by kernel_rfl) (of_decide_eq_true (by kernel_rfl)) h0 bel lt0) trodAll_mk0), rfl, bel.frame _, fun h => by cases h⟩
theorem over : Rows.recordStartsRow.holds Try.pinned (OpenSpec.ofChange Rows.recordStartsSpec) :=
  OpenClaim.holds_of_wide 12 Try.f12 rfl rfl rfl rfl rfl rfl rfl ⟨rfl, rfl, rfl, rfl, rfl⟩ rfl rfl rfl rfl rfl (by kernel_rfl) Try.func12 (by kernel_rfl)
    (of_decide_eq_true (by kernel_rfl)) (by unfold Func.isWrapper; first | (rw [if_pos (by decide +kernel)]; kernel_rfl) | (rw [if_neg (by decide +kernel)]; exact ⟨rfl, rfl⟩))
    (fun os started H enc _ => lifted os started H enc)
theorem proved : Rows.RecordStartsSaid := over
#print axioms proved
end Go.Proofs.Yteapibifebnboaa.recordStarts
namespace Go.Proofs.Yteapibifebnboaa
/-- The row, under a short name, for the claim. -/
theorem recordStarts_holds : Rows.RecordStartsSaid := recordStarts.proved
end Go.Proofs.Yteapibifebnboaa
