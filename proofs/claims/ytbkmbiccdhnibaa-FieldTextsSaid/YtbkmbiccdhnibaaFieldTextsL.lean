/- The row FieldTexts, out of the engine's contract for the law. The last step has the form that the kit's printer gives it. -/
import Derived.Test.YtbkmbiccdhnibaaRows
import Derived.Test.YtbkmbiccdhnibaaFldY
import Derived.Test.YtbkmbiccdhnibaaE19
import Derived.WalkKit
import Derived.ProofKit
import Derived.OpenShut
import Derived.ShutString
import Derived.ChangeOld
import Derived.Below
import Derived.Carry
import Derived.SizedLaws
namespace Go.Proofs.Ytbkmbiccdhnibaa.fieldTexts
open Go.ChangeShapes Go.WideShapes Go.ChangeAt Go.RowKit
set_option linter.unusedVariables false
theorem own : ownKnob Try.prog.godebug = none := by kernel_rfl
theorem laidOut : laidOutB Try.prog = true := by kernel_rfl
set_option maxRecDepth 100000 in
theorem lifted (os : Os) (started : os.Started) (H : Type) (enc : TypeId × Value → H) :
    ReturnsInHanded {} Try.checked os 9 .any (Rows.fieldTextsSpec.pre6 enc Try.prog Try.f9 Rows.fieldTextsRow.domain false) (Rows.fieldTextsSpec.post enc Try.prog Try.f9 false true false false) := by
  refine returnsInHanded_of_change_sized (C := Try.checked) own started (by kernel_rfl) Try.func9
    (ChangeSpec.witness6 (enc := enc) (C := Try.checked) false ⟨#[], #[.agg #[.string ByteArray.empty, .slice none 0 0, .int .u8 0, .int .u8 0, .slice none 0 0], .slice none 0 0], []⟩ 8 (by kernel_rfl) (by kernel_rfl) (by kernel_rfl) (by kernel_rfl)) ?_
  intro W base args ds gs before hval0 hW hcnd hsz0 _
  have hsz : (DataW.weightsEach Try.prog (Try.f9.params.toList ++ Rows.fieldTextsSpec.plain.varTypes Try.prog) (ds ++ gs)).all (· ≤ reachBytes) = true := hsz0
  have hval : ∀ (j : Nat) t v, Try.f9.params[j]? = some t → args[j]? = some v → Value.okWide Try.prog W .any base t v := hval0
  have hW' := hW
  obtain ⟨p, q, hA0, hV, rfl, hfz, hnd⟩ := hW
  have hA : DataW.TrodAll enc Try.prog W 0 (fun _ => true) true Try.f9.params.toList args.toList ds p := hA0
  rw [Try.params9] at hA hval hsz
  obtain ⟨v0, vs0, d0, ds0, p0, q0, hargs, rfl, rfl, h0, r0⟩ := trodAll_cons hA
  obtain ⟨v1, vs1, d1, ds1, p1, q1, rfl, rfl, rfl, h1, r1⟩ := trodAll_cons r0
  obtain ⟨rfl, rfl, rfl⟩ := trodAll_nil r1
  obtain rfl : args = #[v0, v1] := by cases args; simp_all
  obtain ⟨rfl, rfl⟩ := trodVars_none hV
  have lt0 : ∀ x ∈ p0, x.block < W.heap.size := by obtain ⟨m, hm⟩ := h0; exact DataW.trod_lt m _ _ _ hm
  have hw0 : ∀ m ∈ d0.weights Try.prog 42, m ≤ reachBytes := fun m hm => by have := List.all_eq_true.1 hsz _ (DataW.weights_mem_each (j := 0) (t := 42) rfl rfl m hm); simpa using this
  obtain ⟨x0, rfl⟩ : ∃ xs, v0 = .agg xs := by have hv := hval 0 42 v0 rfl rfl; unfold Value.okWide at hv; rw [Try.underlying42] at hv; obtain ⟨cs, e, _⟩ := hv; exact ⟨cs, e⟩
  obtain ⟨a0, s0, e0⟩ := Go.Eng.trod_aggW (opensFieldB) h0 hw0
  have lt1 : ∀ x ∈ p1, x.block < W.heap.size := by obtain ⟨m, hm⟩ := h1; exact DataW.trod_lt m _ _ _ hm
  have hw1 : ∀ m ∈ d1.weights Try.prog 52, m ≤ reachBytes := fun m hm => by have := List.all_eq_true.1 hsz _ (DataW.weights_mem_each (j := 1) (t := 52) rfl rfl m hm); simpa using this
  have c1 : v1.cells = #[v1] := by obtain ⟨_, _, _, hv⟩ := okWide_slice Try.underlying52 (hval 1 52 v1 rfl rfl); rw [hv]; rfl
  obtain ⟨a1, s1, e1⟩ := Go.Eng.trod_argW (opensTextsW) h1 hw1 c1
  refine ((FieldTexts_call s0 s1).2 W #[.agg x0, v1] (fun b => b < W.heap.size) (fun b h => h) (.cons e0 (.cons e1 (Go.Eng.RepL.nil _)))).mono fun e W' hh => ?_
  obtain ⟨v, cx, rfl, hret, hrep⟩ := hh
  rw [Go.Eng.rep_bool hrep]
  have bel := hret.below
  exact ⟨_, rfl, _, _, _, [], _, [], hW', trodAll_mk1 (shut_bool Try.underlying4 _), (trodAll_cons_mk (Below.trod laidOut (by kernel_rfl) (of_decide_eq_true (by kernel_rfl)) h0 bel lt0) (trodAll_cons_mk (Below.trod laidOut (by kernel_rfl) (of_decide_eq_true (by kernel_rfl)) h1 bel lt1) trodAll_mk0)), rfl, bel.frame _, fun h => by cases h⟩
theorem over : Rows.fieldTextsRow.holds Try.pinned (OpenSpec.ofChange Rows.fieldTextsSpec) :=
  OpenClaim.holds_of_wide 9 Try.f9 rfl rfl rfl rfl rfl rfl rfl ⟨rfl, rfl, rfl, rfl, rfl⟩ rfl rfl rfl rfl rfl (by kernel_rfl) Try.func9 (by kernel_rfl)
    (of_decide_eq_true (by kernel_rfl)) (by unfold Func.isWrapper; first | (rw [if_pos (by decide +kernel)]; kernel_rfl) | (rw [if_neg (by decide +kernel)]; exact ⟨rfl, rfl⟩))
    (fun os started H enc _ => lifted os started H enc)
theorem proved : Rows.FieldTextsSaid := over
#print axioms proved
end Go.Proofs.Ytbkmbiccdhnibaa.fieldTexts
namespace Go.Proofs.Ytbkmbiccdhnibaa
/-- The row, under a short name, for the claim. -/
theorem fieldTexts_holds : Rows.FieldTextsSaid := fieldTexts.proved
end Go.Proofs.Ytbkmbiccdhnibaa
