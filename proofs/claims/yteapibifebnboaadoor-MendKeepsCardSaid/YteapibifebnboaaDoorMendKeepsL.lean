/- The row MendKeeps, out of the engine's contract for the law. The last step has the form that the kit's printer gives it. -/
import Derived.Test.YteapibifebnboaaDoorRows
import Derived.Test.YteapibifebnboaaDoorMndKq
import Derived.Test.YteapibifebnboaaDoorGEc
import Derived.WalkKit
import Derived.ProofKit
import Derived.OpenShut
import Derived.ShutString
import Derived.ChangeOld
import Derived.Below
import Derived.Carry
import Derived.SizedLaws
import Derived.Test.YteapibifebnboaaDoorTie
import Derived.Test.YteapibifebnboaaDoorCards
import Derived.LaidMore
import Derived.Lay
import Derived.SevenTiedAt
import Derived.Stop.Joined
import Derived.Handed
namespace Go.Proofs.YteapibifebnboaaDoor.mendKeeps
open Go.ChangeShapes Go.WideShapes Go.ChangeAt Go.RowKit
set_option linter.unusedVariables false
theorem own : ownKnob Tryd.prog.godebug = none := by kernel_rfl
theorem laidOut : laidOutB Tryd.prog = true := by kernel_rfl
set_option maxRecDepth 100000 in
theorem lifted (os : Os) (started : os.Started) (H : Type) (enc : TypeId × Value → H) :
    ReturnsInHanded {} Tryd.checked os 5 .any (fun w args => (Rows.mendKeepsSpec.pre enc Tryd.prog Tryd.f5 Rows.mendKeepsRow.domain false w args ∧ laidMetH Tryd.prog Rows.mendKeepsRow.laid w) ∧ sizedMet enc Tryd.prog Tryd.f5 (OpenSpec.ofChange Rows.mendKeepsSpec) false w args) (Rows.mendKeepsSpec.post enc Tryd.prog Tryd.f5 false true false false) := by
  refine returnsInHanded_of_change_and (C := Tryd.checked) (X := fun w _ => laidMetH Tryd.prog Rows.mendKeepsRow.laid w) (fun _ _ _ hh h => h.of_heap hh) own started (by kernel_rfl) Tryd.func5
    (ChangeSpec.witness_shaped (enc := enc) (C := Tryd.checked) (os := os) (X := fun w _ => laidMetH Tryd.prog Rows.mendKeepsRow.laid w) false (World.laidAll Tryd.prog os Rows.mendKeepsRow.laid) #[.slice none 0 0, .int .u8 0, .int .u8 0] 8 (World.laidAll_os _ _ _)
      (World.shaped_of_ZipB (by kernel_rfl) (by kernel_rfl)) (by kernel_rfl) (by kernel_rfl) (by kernel_rfl)
      (by rw [MakeChecks.laidMetH_plain _ _ _ (by kernel_rfl)]; exact laidMet_laidAll _ (by kernel_rfl) (by kernel_rfl))) ?_
  intro W base args ds gs before hval0 hW hcnd hsz0 _ _
  have hsz : (DataW.weightsEach Tryd.prog (Tryd.f5.params.toList ++ Rows.mendKeepsSpec.plain.varTypes Tryd.prog) (ds ++ gs)).all (· ≤ reachBytes) = true := hsz0
  have hval : ∀ (j : Nat) t v, Tryd.f5.params[j]? = some t → args[j]? = some v → Value.okWide Tryd.prog W .any base t v := hval0
  have hW' := hW
  obtain ⟨p, q, hA0, hV, rfl, hfz, hnd⟩ := hW
  have hA : DataW.TrodAll enc Tryd.prog W 0 (fun _ => true) true Tryd.f5.params.toList args.toList ds p := hA0
  rw [Tryd.params5] at hA hval hsz
  obtain ⟨v0, vs0, d0, ds0, p0, q0, hargs, rfl, rfl, h0, r0⟩ := trodAll_cons hA
  obtain ⟨v1, vs1, d1, ds1, p1, q1, rfl, rfl, rfl, h1, r1⟩ := trodAll_cons r0
  obtain ⟨v2, vs2, d2, ds2, p2, q2, rfl, rfl, rfl, h2, r2⟩ := trodAll_cons r1
  obtain ⟨rfl, rfl, rfl⟩ := trodAll_nil r2
  obtain rfl : args = #[v0, v1, v2] := by cases args; simp_all
  obtain ⟨rfl, rfl⟩ := trodVars_none hV
  have lt0 : ∀ x ∈ p0, x.block < W.heap.size := by obtain ⟨m, hm⟩ := h0; exact DataW.trod_lt m _ _ _ hm
  have hw0 : ∀ m ∈ d0.weights Tryd.prog 22, m ≤ reachBytes := fun m hm => by have := List.all_eq_true.1 hsz _ (DataW.weights_mem_each (j := 0) (t := 22) rfl rfl m hm); simpa using this
  have c0 : v0.cells = #[v0] := by obtain ⟨_, _, _, hv⟩ := okWide_slice Tryd.underlying22 (hval 0 22 v0 rfl rfl); rw [hv]; rfl
  obtain ⟨a0, s0, e0⟩ := Go.Eng.trod_argW (opensTextW) h0 hw0 c0
  have lt1 : ∀ x ∈ p1, x.block < W.heap.size := by obtain ⟨m, hm⟩ := h1; exact DataW.trod_lt m _ _ _ hm
  have hw1 : ∀ m ∈ d1.weights Tryd.prog 5, m ≤ reachBytes := fun m hm => by have := List.all_eq_true.1 hsz _ (DataW.weights_mem_each (j := 1) (t := 5) rfl rfl m hm); simpa using this
  have c1 : v1.cells = #[v1] := by obtain ⟨_, hv⟩ := okWide_int Tryd.underlying5 (hval 1 5 v1 rfl rfl); rw [hv]; rfl
  obtain ⟨a1, s1, e1⟩ := Go.Eng.trod_argW (opensU8W) h1 hw1 c1
  have lt2 : ∀ x ∈ p2, x.block < W.heap.size := by obtain ⟨m, hm⟩ := h2; exact DataW.trod_lt m _ _ _ hm
  have hw2 : ∀ m ∈ d2.weights Tryd.prog 5, m ≤ reachBytes := fun m hm => by have := List.all_eq_true.1 hsz _ (DataW.weights_mem_each (j := 2) (t := 5) rfl rfl m hm); simpa using this
  have c2 : v2.cells = #[v2] := by obtain ⟨_, hv⟩ := okWide_int Tryd.underlying5 (hval 2 5 v2 rfl rfl); rw [hv]; rfl
  obtain ⟨a2, s2, e2⟩ := Go.Eng.trod_argW (opensU8W) h2 hw2 c2
  refine ((MendKeeps_call s0 s1 s2).2 W #[v0, v1, v2] (fun b => b < W.heap.size) (fun b h => h) (.cons e0 (.cons e1 (.cons e2 (Go.Eng.RepL.nil _))))).mono fun e W' hh => ?_
  obtain ⟨v, cx, rfl, hret, hrep⟩ := hh
  rw [Go.Eng.rep_bool hrep]
  have bel := hret.below
  exact ⟨_, rfl, _, _, _, [], _, [], hW', trodAll_mk1 (shut_bool Tryd.underlying4 _), (trodAll_cons_mk (Below.trod laidOut (by kernel_rfl) (of_decide_eq_true (by kernel_rfl)) h0 bel lt0) (trodAll_cons_mk (Below.trod laidOut (by kernel_rfl) (of_decide_eq_true (by kernel_rfl)) h1 bel lt1) (trodAll_cons_mk (Below.trod laidOut (by kernel_rfl) (of_decide_eq_true (by kernel_rfl)) h2 bel lt2) trodAll_mk0))), rfl, bel.frame _, fun h => by cases h⟩
theorem over : Rows.mendKeepsRow.holds Tryd.pinned (OpenSpec.ofChange Rows.mendKeepsSpec) :=
  OpenClaim.holds_of_wide 5 Tryd.f5 rfl rfl rfl rfl rfl rfl rfl ⟨rfl, rfl, rfl, rfl, rfl⟩ rfl rfl rfl rfl rfl (by kernel_rfl) Tryd.func5 (by kernel_rfl)
    (of_decide_eq_true (by kernel_rfl)) (by unfold Func.isWrapper; first | (rw [if_pos (by decide +kernel)]; kernel_rfl) | (rw [if_neg (by decide +kernel)]; exact ⟨rfl, rfl⟩))
    (fun os started H enc _ => lifted os started H enc)
theorem card : Rows.MendKeepsCardSaid :=
  Claim7.holds_tied_plain_at .later [] [.data, .pinned] true (true, "af6fb33851310334311184279da92b0b8cfe021dfb0e90e736a38436205a7b92") false over (fun _ h => by cases h) (by kernel_rfl) (fun _ h => by cases h) mendKeeps_row_tie rfl ⟨rfl, rfl⟩ (by kernel_rfl) (by kernel_rfl)
    (fun f fn hf hfn => by
      obtain rfl : f = 5 := Option.some.inj ((show Tryd.prog.funcNamed "amanuensis/amanuensislaw23.MendKeeps" = some 5 by kernel_rfl).symm.trans hf) |>.symm
      obtain rfl : fn = Tryd.f5 := (Option.some.inj (Tryd.func5.symm.trans hfn)).symm
      exact ⟨by kernel_rfl, fun j t ht => by
        rw [Tryd.params5] at ht
        have hm : t ∈ [22, 5, 5] := by simpa using Array.mem_of_getElem? ht
        have hall : ([22, 5, 5].all fun u => !Tryd.prog.wantsStandIn u) = true := by kernel_rfl
        exact (show Tryd.prog.wantsStandIn t = false by simpa using List.all_eq_true.1 hall t hm)⟩)
    (by kernel_rfl)
#print axioms card
end Go.Proofs.YteapibifebnboaaDoor.mendKeeps
namespace Go.Proofs.YteapibifebnboaaDoor
/-- The row, under a short name, for the claim. -/
theorem mendKeeps_holds : Rows.MendKeepsCardSaid := mendKeeps.card
end Go.Proofs.YteapibifebnboaaDoor
