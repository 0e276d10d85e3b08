/- dir.Control and its like in ref19. -/
import Derived.Test.YtbkmbiccdhnibaaDirN
set_option linter.unusedVariables false
set_option linter.unusedSimpArgs false
namespace Go.Proofs.Ytbkmbiccdhnibaa
open Go Go.Eng
theorem prefix_take {l m : List Int} : (l.take m.length == m) = m.isPrefixOf l := by
  rw [Bool.eq_iff_iff, List.isPrefixOf_iff_prefix, List.prefix_iff_eq_take, beq_iff_eq]
  exact eq_comm
theorem prefix_long {l m : List Int} (h : ¬ m.length ≤ l.length) : m.isPrefixOf l = false := by
  rw [Bool.eq_false_iff, Ne, List.isPrefixOf_iff_prefix]
  exact fun e => h e.length_le
theorem b00 : bytesOf ⟨#[48, 48]⟩ = [48, 48] := rfl
set_option maxRecDepth 100000 in
set_option maxHeartbeats 4000000 in
theorem HasPrefixI_c (l m : List Int) (hl : l.length ≤ 9223372036854775807) (hm : m.length ≤ 9223372036854775807) : ACall Try.prog 73 [.str l, .str m] (.bool (m.isPrefixOf l)) none := by
  refine acall_intro none Try.func73 rfl (by kernel_rfl) (by simp [Try.f73]) ?_
  refine ex_run 100 ?_
  simp only [push_cast, Try.f73, Nat.reduceLT, Nat.reduceEqDiff, ↓reduceIte]
  refine ⟨fun h => ⟨h, _, _, rfl, rfl, .of_eq (congrArg AV.bool prefix_take), rfl⟩, fun h => ⟨_, _, rfl, rfl, .of_eq (congrArg AV.bool (prefix_long h).symm), rfl⟩⟩
set_option maxRecDepth 100000 in
set_option maxHeartbeats 4000000 in
theorem HasPrefix_c (l m : List Int) (hl : l.length ≤ 9223372036854775807) (hm : m.length ≤ 9223372036854775807) : ACall Try.prog 61 [.str l, .str m] (.bool (m.isPrefixOf l)) none := by
  refine acall_intro none Try.func61 rfl (by kernel_rfl) (by simp [Try.f61]) ?_
  refine ex_run 100 ?_
  simp only [push_cast, Try.f61, Nat.reduceLT, Nat.reduceEqDiff, ↓reduceIte]
  refine call_intro (HasPrefixI_c l m hl hm) (fun h => by cases h) ?_
  simp only [push_cast, Nat.reduceLT, Nat.reduceEqDiff, ↓reduceIte]
  exact ⟨_, _, rfl, rfl, .refl _, rfl⟩
set_option maxRecDepth 100000 in
set_option maxHeartbeats 4000000 in
theorem RControl_c (l : List Int) (hl : l.length ≤ 9223372036854775807) : ACall Try.prog 23 [.str l] (.bool ([48, 48].isPrefixOf l)) none := by
  refine acall_intro none Try.func23 rfl (by kernel_rfl) (by simp [Try.f23]) ?_
  refine ex_run 100 ?_
  simp only [push_cast, Try.f23, Nat.reduceLT, Nat.reduceEqDiff, ↓reduceIte, b00]
  refine ⟨fun h => ⟨⟨by omega, by omega⟩, _, _, rfl, rfl, .of_eq (congrArg AV.bool (prefix_take (m := [48, 48]))), rfl⟩, fun h => ⟨_, _, rfl, rfl, .of_eq (congrArg AV.bool (prefix_long (m := [48, 48]) (by simp; omega)).symm), rfl⟩⟩
set_option maxRecDepth 100000 in
set_option maxHeartbeats 4000000 in
theorem Control_c (l : List Int) (hl : l.length ≤ 9223372036854775807) : ACall Try.prog 41 [.str l] (.bool ([48, 48].isPrefixOf l)) none := by
  refine acall_intro none Try.func41 rfl (by kernel_rfl) (by simp [Try.f41]) ?_
  refine ex_run 100 ?_
  simp only [push_cast, Try.f41, Nat.reduceLT, Nat.reduceEqDiff, ↓reduceIte, b00]
  refine call_intro (HasPrefix_c l [48, 48] hl (by decide)) (fun h => by cases h) ?_
  simp only [push_cast, Nat.reduceLT, Nat.reduceEqDiff, ↓reduceIte]
  exact ⟨_, _, rfl, rfl, .refl _, rfl⟩
end Go.Proofs.Ytbkmbiccdhnibaa
