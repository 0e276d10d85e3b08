/- FieldKeeps returns true and leaves its arguments as they read, whatever the field and the texts. Conditions: what it reads is of bulk at most 1048576 (the second form, FieldKeepsUptoSaid). -/
import Derived.Test.YteapibifebnboaaRows
import Derived.Test.YteapibifebnboaaFkE
import Derived.Test.YteapibifebnboaaGEc
import Derived.WalkKit
import Derived.ProofKit
import Derived.OpenShut
import Derived.ShutString
import Derived.ChangeOld
import Derived.Below
import Derived.Carry
import Derived.SizedLaws
import Derived.JoinedCond
import Derived.Deep.CondSized
namespace Go.Proofs.Yteapibifebnboaa.fieldKeeps
open Go.ChangeShapes Go.WideShapes Go.ChangeAt Go.RowKit
set_option linter.unusedVariables false
theorem own : ownKnob Try.prog.godebug = none := by kernel_rfl
theorem laidOut : laidOutB Try.prog = true := by kernel_rfl
set_option maxRecDepth 100000 in
theorem contract (H : Type) (enc : TypeId × Value → H) (W : World) (base : Nat) (args : Array Value) (ds gs : List (DataW H)) (before : List MemPlace)
    (hval0 : ∀ (j : Nat) t v, Try.f10.params[j]? = some t → args[j]? = some v → Value.okWide Try.prog W .any base t v)
    (hW : DataW.Whole enc Try.prog Try.f10.params.toList Rows.fieldKeepsSpec.vars false W args.toList ds gs before) (hk : Rows.uptoSmall H (ds ++ gs) = true)
    (hsz0 : (DataW.weightsEach Try.prog (Try.f10.params.toList ++ Rows.fieldKeepsSpec.plain.varTypes Try.prog) (ds ++ gs)).all (· ≤ reachBytes) = true) :
    Calls Try.prog 10 args W fun e W' => ∃ v, e = .returned v ∧ Rows.fieldKeepsSpec.post enc Try.prog Try.f10 false true false false W args v W' := by
  have hsz : (DataW.weightsEach Try.prog (Try.f10.params.toList ++ Rows.fieldKeepsSpec.plain.varTypes Try.prog) (ds ++ gs)).all (· ≤ reachBytes) = true := hsz0
  have hval : ∀ (j : Nat) t v, Try.f10.params[j]? = some t → args[j]? = some v → Value.okWide Try.prog W .any base t v := hval0
  have hW' := hW
  obtain ⟨p, q, hA0, hV, rfl, hfz, hnd⟩ := hW
  have hA : DataW.TrodAll enc Try.prog W 0 (fun _ => true) true Try.f10.params.toList args.toList ds p := hA0
  rw [Try.params10] at hA hval hsz
  obtain ⟨v0, vs0, d0, ds0, p0, q0, hargs, rfl, rfl, h0, r0⟩ := trodAll_cons hA
  obtain ⟨v1, vs1, d1, ds1, p1, q1, rfl, rfl, rfl, h1, r1⟩ := trodAll_cons r0
  obtain ⟨rfl, rfl, rfl⟩ := trodAll_nil r1
  obtain rfl : args = #[v0, v1] := by cases args; simp_all
  obtain ⟨rfl, rfl⟩ := trodVars_none hV
  have lt0 : ∀ x ∈ p0, x.block < W.heap.size := by obtain ⟨m, hm⟩ := h0; exact DataW.trod_lt m _ _ _ hm
  have hw0 : ∀ m ∈ d0.weights Try.prog 42, m ≤ reachBytes := fun m hm => by have := List.all_eq_true.1 hsz _ (DataW.weights_mem_each (j := 0) (t := 42) rfl rfl m hm); simpa using this
  obtain ⟨x0, rfl⟩ : ∃ xs, v0 = .agg xs := by have hv := hval 0 42 v0 rfl rfl; unfold Value.okWide at hv; rw [Try.underlying42] at hv; obtain ⟨cs, e, _⟩ := hv; exact ⟨cs, e⟩
  obtain ⟨a0, s0, e0⟩ := Go.Eng.trod_aggW (opensFieldB) h0 hw0
  have lt1 : ∀ x ∈ p1, x.block < W.heap.size := by obtain ⟨m, hm⟩ := h1; exact DataW.trod_lt m _ _ _ hm
  have hw1 : ∀ m ∈ d1.weights Try.prog 52, m ≤ reachBytes := fun m hm => by have := List.all_eq_true.1 hsz _ (DataW.weights_mem_each (j := 1) (t := 52) rfl rfl m hm); simpa using this
  have c1 : v1.cells = #[v1] := by obtain ⟨_, _, _, hv⟩ := okWide_slice Try.underlying52 (hval 1 52 v1 rfl rfl); rw [hv]; rfl
  have hbk : Rows.uptoBulkAll (d0 :: d1 :: ([] ++ [])) ≤ 1048576 := of_decide_eq_true hk
  have hb1 : SmallB d1 := by
    show Rows.uptoBulk d1 ≤ 1048576
    simp only [List.append_nil, Rows.uptoBulkAll] at hbk
    omega
  obtain ⟨a1, s1, e1⟩ := Go.Eng.trod_argK (opensTextsK) h1 hb1 c1
  refine ((FieldKeeps_call s0 s1).2 W #[.agg x0, v1] (fun b => b < W.heap.size) (fun b h => h) (.cons e0 (.cons e1 (Go.Eng.RepL.nil _)))).mono fun e W' hh => ?_
  obtain ⟨v, cx, rfl, hret, hrep⟩ := hh
  rw [Go.Eng.rep_bool hrep]
  have bel := hret.below
  exact ⟨_, rfl, _, _, _, [], _, [], hW', trodAll_mk1 (shut_bool Try.underlying4 _), (trodAll_cons_mk (Below.trod laidOut (by kernel_rfl) (of_decide_eq_true (by kernel_rfl)) h0 bel lt0) (trodAll_cons_mk (Below.trod laidOut (by kernel_rfl) (of_decide_eq_true (by kernel_rfl)) h1 bel lt1) trodAll_mk0)), rfl, bel.frame _, fun h => by cases h⟩
set_option maxRecDepth 100000 in
theorem lifted (os : Os) (started : os.Started) (H : Type) (enc : TypeId × Value → H) (F : Stop.Interp) :
    ReturnsInHanded {} Try.checked os 10 .any ((Rows.OpenSpec.upto Rows.fieldKeepsSpec).pre6 enc Try.prog Try.f10 Rows.fieldKeepsUptoRow.domain false) (((Rows.OpenSpec.upto Rows.fieldKeepsSpec).at F).post enc Try.prog Try.f10 false true false false) := by
  refine returnsInHanded_of_cond_sized (C := Try.checked) (s := Rows.OpenSpec.upto Rows.fieldKeepsSpec) (k := Rows.uptoSmall) rfl own started (by kernel_rfl) Try.func10
    (OpenSpec.witness (enc := enc) (C := Try.checked) (s := Rows.OpenSpec.upto Rows.fieldKeepsSpec) (k := Rows.uptoSmall) rfl false ⟨#[], #[.agg #[.string ByteArray.empty, .slice none 0 0, .int .u8 0, .int .u8 0, .slice none 0 0], .slice none 0 0], []⟩ 8 (by kernel_rfl) (by kernel_rfl) (by kernel_rfl)
      (x := ([.agg [.lit (.string []), .nil, .agg [.lit (.int .u8 0), .lit (.int .u8 0)], .nil], .nil], [], [])) (by kernel_rfl) rfl (by kernel_rfl)) ?_
  intro W base args ds gs before hval hW _ hk hsz _
  exact contract H enc W base args ds gs before hval hW hk hsz
theorem over : Rows.fieldKeepsUptoRow.holds Try.pinned (Rows.OpenSpec.upto Rows.fieldKeepsSpec) :=
  OpenClaim.holds_of_cond 10 Try.f10 rfl rfl rfl rfl rfl rfl rfl ⟨rfl, rfl, rfl, rfl, rfl⟩ rfl rfl rfl rfl rfl (by kernel_rfl) Try.func10 (by kernel_rfl)
    (of_decide_eq_true (by kernel_rfl)) (by unfold Func.isWrapper; first | (rw [if_pos (by decide +kernel)]; kernel_rfl) | (rw [if_neg (by decide +kernel)]; exact ⟨rfl, rfl⟩))
    (fun os started H enc _ F => lifted os started H enc F)
theorem proved : Rows.FieldKeepsUptoSaid := over
#print axioms proved
end Go.Proofs.Yteapibifebnboaa.fieldKeeps
namespace Go.Proofs.Yteapibifebnboaa
/-- The row, under a short name, for the claim. -/
theorem fieldKeeps_holds : Rows.FieldKeepsUptoSaid := fieldKeeps.proved
end Go.Proofs.Yteapibifebnboaa
