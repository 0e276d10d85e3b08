/- The row ClassOf, out of the engine's contract for the law. The last step has the form that the kit's printer gives it. -/
import Derived.Test.YtpgjcmmbkgkhlaaRows
import Derived.Test.YtpgjcmmbkgkhlaaClsD
import Derived.WalkKit
import Derived.ProofKit
import Derived.OpenShut
import Derived.ShutString
import Derived.ChangeOld
import Derived.Below
import Derived.SizedLaws
namespace Go.Proofs.Ytpgjcmmbkgkhlaa.classOf
open Go.ChangeShapes Go.WideShapes Go.ChangeAt Go.RowKit
open Go.ChangeMaps (open_string shut_string)
set_option linter.unusedVariables false
set_option linter.unusedSimpArgs false
theorem law_walk (a0 : Int) (w0 : -2147483648 ≤ a0 ∧ a0 ≤ 2147483647) (w : World) : Calls Try.prog 3 #[.int .i32 a0] w fun e w' => e = .returned (.bool true) ∧ Below w.heap.size w w' := by
  refine ((ClassOf_c a0 w0).2 w #[.int .i32 a0] (fun b => b < w.heap.size) (fun b h => h) (.cons (.int .i32 a0) (Go.Eng.RepL.nil _))).mono ?_
  rintro e w' ⟨v, cx, rfl, hret, hrep⟩
  rw [Go.Eng.rep_bool hrep]
  exact ⟨rfl, hret.below⟩
theorem own : ownKnob Try.prog.godebug = none := by kernel_rfl
set_option maxRecDepth 100000 in
theorem lifted (os : Os) (started : os.Started) (H : Type) (enc : TypeId × Value → H) :
    ReturnsInHanded {} Try.checked os 3 .any (Rows.classOfSpec.pre6 enc Try.prog Try.f3 Rows.classOfRow.domain false) (Rows.classOfSpec.post enc Try.prog Try.f3 false true false false) := by
  refine returnsInHanded_of_change_sized (C := Try.checked) own started (by kernel_rfl) Try.func3
    (ChangeSpec.witness6 (enc := enc) (C := Try.checked) false ⟨#[], #[.int .i32 0], []⟩ 3 (by kernel_rfl) (by kernel_rfl) (by kernel_rfl) (by kernel_rfl)) ?_
  intro W base args ds gs before hval0 hW hcnd hsz0 _
  have hsz : (DataW.weightsEach Try.prog (Try.f3.params.toList ++ Rows.classOfSpec.plain.varTypes Try.prog) (ds ++ gs)).all (· ≤ reachBytes) = true := hsz0
  have hval : ∀ (j : Nat) t v, Try.f3.params[j]? = some t → args[j]? = some v → Value.okWide Try.prog W .any base t v := hval0
  have hW' := hW
  obtain ⟨p, q, hA0, hV, rfl, hfz, hnd⟩ := hW
  have hA : DataW.TrodAll enc Try.prog W 0 (fun _ => true) true Try.f3.params.toList args.toList ds p := hA0
  rw [Try.params3] at hA hval hsz
  obtain ⟨v0, vs0, d0, ds0, p0, q0, hargs, rfl, rfl, h0, r0⟩ := trodAll_cons hA
  obtain ⟨rfl, rfl, rfl⟩ := trodAll_nil r0
  obtain rfl : args = #[v0] := by cases args; simp_all
  obtain ⟨rfl, rfl⟩ := trodVars_none hV
  obtain ⟨a0, rfl, rfl, rfl, y0⟩ := open_int Try.underlying21 (hval 0 21 v0 rfl rfl) h0
  have w0 : -2147483648 ≤ a0 ∧ a0 ≤ 2147483647 := by have z := y0; simp [Lit.wf, IntKind.min, IntKind.max, IntKind.bits, IntKind.signed] at z; omega
  clear hA0 hval0 hsz0 hsz
  refine (law_walk a0 w0 W).mono fun e W' ⟨he, bel⟩ => ?_
  subst he
  exact ⟨_, rfl, _, _, _, [], _, [], hW', trodAll_mk1 (shut_bool Try.underlying4 _), (trodAll_cons_mk (shut_int Try.underlying21 y0) trodAll_mk0), rfl, bel.frame _, fun h => by cases h⟩
theorem over : Rows.classOfRow.holds Try.pinned (OpenSpec.ofChange Rows.classOfSpec) :=
  OpenClaim.holds_of_wide 3 Try.f3 rfl rfl rfl rfl rfl rfl rfl ⟨rfl, rfl, rfl, rfl, rfl⟩ rfl rfl rfl rfl rfl (by kernel_rfl) Try.func3 (by kernel_rfl)
    (of_decide_eq_true (by kernel_rfl)) (by unfold Func.isWrapper; first | (rw [if_pos (by decide +kernel)]; kernel_rfl) | (rw [if_neg (by decide +kernel)]; exact ⟨rfl, rfl⟩))
    (fun os started H enc _ => lifted os started H enc)
theorem proved : Rows.ClassOfSaid := over
#print axioms proved
end Go.Proofs.Ytpgjcmmbkgkhlaa.classOf
namespace Go.Proofs.Ytpgjcmmbkgkhlaa
/-- The row, under a short name, for the claim. -/
theorem classOf_holds : Rows.ClassOfSaid := classOf.proved
end Go.Proofs.Ytpgjcmmbkgkhlaa
