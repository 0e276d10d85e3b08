/-
  No cell of these rows narrows 'for every input' (looked for: loops, veiled, ifaces, maps, wideKeys, modest, calm, conditions, laid).
  DERIVED. THE GIVEN ROWS OF THIS SEAT. 8 by the template 'for every input the law returns true; each argument reads behind the call as it read before'; 0 by the template 'total and deterministic' (their statements: YtpgjcmmbkgkhlaaTotals.lean).
  GIVEN WITH THE SEED: the statements are not yours to turn. If you find one false, say at which input.
  Laid BY PROGRAM, IN A SANDBOX (cutbox-rows.mjs): the forced cells as the released guide's own fill.sh prints them over the translation a9c829b8c88cc183… (all of the seat's roots in one cut). By AI agents, Wed Nov 11 2026. No macro, syntax, notation, axiom, sorry.
-/
import Derived.Test.YtpgjcmmbkgkhlaaChecked
import GoSem.Claim
import GoSem.ClaimJoined
import GoSem.ClaimMapViews
import Derived.JoinedTies
import Derived.KernelRfl
namespace Go.Proofs.Ytpgjcmmbkgkhlaa
/- THE CELL 'sum', in the pinned program and in every row, IS THE sha256 OF THE DUMP (.gsa) THAT YtpgjcmmbkgkhlaaProg.lean LOADS. Nothing in Lean hashes anything: it is a label: what it is worth is what the hold of that sum in a sandbox is worth. -/
noncomputable def Try.pinned : Pinned := { name := "ytpgjcmmbkgkhlaa", sum := "a9c829b8c88cc183a70c376c8f2cbacaa5af87f1df005f36ae5a07e35f35d24d", checked := Try.checked }
namespace Rows
def none {H : Type} : Left H := { results := [], args := [] }

/-- 'amanuensislaw03.ClassOf': WHATEVER THE INPUT: true; the input reads as it did. -/
def classOfSpec : ChangeSpec := { name := "classOf", fn := fun _ => fun
  | [d] => { results := [.lit (.bool true)], args := [d] }
  | _ => none }
def classOfRow : OpenClaim := { program := "ytpgjcmmbkgkhlaa", sum := "a9c829b8c88cc183a70c376c8f2cbacaa5af87f1df005f36ae5a07e35f35d24d", func := "amanuensis/amanuensislaw03.ClassOf", spec := "classOf", apart := false }
def ClassOfSaid : Prop := classOfRow.holds Try.pinned (OpenSpec.ofChange classOfSpec)

/-- ITS FALSE NEIGHBOUR: 'it returns false'. Refute it at one input. -/
def classOfWrong : ChangeSpec := { name := "classOf", fn := fun _ => fun
  | [d] => { results := [.lit (.bool false)], args := [d] }
  | _ => none }
def ClassOfWrongFalsely : Prop := classOfRow.holds Try.pinned (OpenSpec.ofChange classOfWrong)

/-- 'amanuensislaw03.ClassBounds': WHATEVER THE INPUT: true; the input reads as it did. -/
def classBoundsSpec : ChangeSpec := { name := "classBounds", fn := fun _ => fun
  | [d] => { results := [.lit (.bool true)], args := [d] }
  | _ => none }
def classBoundsRow : OpenClaim := { program := "ytpgjcmmbkgkhlaa", sum := "a9c829b8c88cc183a70c376c8f2cbacaa5af87f1df005f36ae5a07e35f35d24d", func := "amanuensis/amanuensislaw03.ClassBounds", spec := "classBounds", apart := false }
def ClassBoundsSaid : Prop := classBoundsRow.holds Try.pinned (OpenSpec.ofChange classBoundsSpec)

/-- ITS FALSE NEIGHBOUR: 'it returns false'. Refute it at one input. -/
def classBoundsWrong : ChangeSpec := { name := "classBounds", fn := fun _ => fun
  | [d] => { results := [.lit (.bool false)], args := [d] }
  | _ => none }
def ClassBoundsWrongFalsely : Prop := classBoundsRow.holds Try.pinned (OpenSpec.ofChange classBoundsWrong)

/-- 'amanuensislaw03.ClassSteps': WHATEVER THE INPUT: true; the input reads as it did. -/
def classStepsSpec : ChangeSpec := { name := "classSteps", fn := fun _ => fun
  | [d] => { results := [.lit (.bool true)], args := [d] }
  | _ => none }
def classStepsRow : OpenClaim := { program := "ytpgjcmmbkgkhlaa", sum := "a9c829b8c88cc183a70c376c8f2cbacaa5af87f1df005f36ae5a07e35f35d24d", func := "amanuensis/amanuensislaw03.ClassSteps", spec := "classSteps", apart := false }
def ClassStepsSaid : Prop := classStepsRow.holds Try.pinned (OpenSpec.ofChange classStepsSpec)

/-- ITS FALSE NEIGHBOUR: 'it returns false'. Refute it at one input. -/
def classStepsWrong : ChangeSpec := { name := "classSteps", fn := fun _ => fun
  | [d] => { results := [.lit (.bool false)], args := [d] }
  | _ => none }
def ClassStepsWrongFalsely : Prop := classStepsRow.holds Try.pinned (OpenSpec.ofChange classStepsWrong)

/-- 'amanuensislaw03.ClassAll': WHATEVER THE INPUT: true; the input reads as it did. -/
def classAllSpec : ChangeSpec := { name := "classAll", fn := fun _ => fun
  | [d] => { results := [.lit (.bool true)], args := [d] }
  | _ => none }
def classAllRow : OpenClaim := { program := "ytpgjcmmbkgkhlaa", sum := "a9c829b8c88cc183a70c376c8f2cbacaa5af87f1df005f36ae5a07e35f35d24d", func := "amanuensis/amanuensislaw03.ClassAll", spec := "classAll", apart := false }
def ClassAllSaid : Prop := classAllRow.holds Try.pinned (OpenSpec.ofChange classAllSpec)

/-- ITS FALSE NEIGHBOUR: 'it returns false'. Refute it at one input. -/
def classAllWrong : ChangeSpec := { name := "classAll", fn := fun _ => fun
  | [d] => { results := [.lit (.bool false)], args := [d] }
  | _ => none }
def ClassAllWrongFalsely : Prop := classAllRow.holds Try.pinned (OpenSpec.ofChange classAllWrong)

/-- 'amanuensislaw20.DirParses': WHATEVER THE INPUT: true; the input reads as it did. -/
def dirParsesSpec : ChangeSpec := { name := "dirParses", fn := fun _ => fun
  | [d] => { results := [.lit (.bool true)], args := [d] }
  | _ => none }
def dirParsesRow : OpenClaim := { program := "ytpgjcmmbkgkhlaa", sum := "a9c829b8c88cc183a70c376c8f2cbacaa5af87f1df005f36ae5a07e35f35d24d", func := "amanuensis/amanuensislaw20.DirParses", spec := "dirParses", apart := false }
def DirParsesSaid : Prop := dirParsesRow.holds Try.pinned (OpenSpec.ofChange dirParsesSpec)

/-- ITS FALSE NEIGHBOUR: 'it returns false'. Refute it at one input. -/
def dirParsesWrong : ChangeSpec := { name := "dirParses", fn := fun _ => fun
  | [d] => { results := [.lit (.bool false)], args := [d] }
  | _ => none }
def DirParsesWrongFalsely : Prop := dirParsesRow.holds Try.pinned (OpenSpec.ofChange dirParsesWrong)

/-- 'amanuensislaw20.DirTags': WHATEVER THE INPUT: true; the input reads as it did. -/
def dirTagsSpec : ChangeSpec := { name := "dirTags", fn := fun _ => fun
  | [d] => { results := [.lit (.bool true)], args := [d] }
  | _ => none }
def dirTagsRow : OpenClaim := { program := "ytpgjcmmbkgkhlaa", sum := "a9c829b8c88cc183a70c376c8f2cbacaa5af87f1df005f36ae5a07e35f35d24d", func := "amanuensis/amanuensislaw20.DirTags", spec := "dirTags", apart := false }
def DirTagsSaid : Prop := dirTagsRow.holds Try.pinned (OpenSpec.ofChange dirTagsSpec)

/-- ITS FALSE NEIGHBOUR: 'it returns false'. Refute it at one input. -/
def dirTagsWrong : ChangeSpec := { name := "dirTags", fn := fun _ => fun
  | [d] => { results := [.lit (.bool false)], args := [d] }
  | _ => none }
def DirTagsWrongFalsely : Prop := dirTagsRow.holds Try.pinned (OpenSpec.ofChange dirTagsWrong)

/-- 'amanuensislaw20.DirPrints': WHATEVER THE INPUT: true; the input reads as it did. -/
def dirPrintsSpec : ChangeSpec := { name := "dirPrints", fn := fun _ => fun
  | [d] => { results := [.lit (.bool true)], args := [d] }
  | _ => none }
def dirPrintsRow : OpenClaim := { program := "ytpgjcmmbkgkhlaa", sum := "a9c829b8c88cc183a70c376c8f2cbacaa5af87f1df005f36ae5a07e35f35d24d", func := "amanuensis/amanuensislaw20.DirPrints", spec := "dirPrints", apart := false }
def DirPrintsSaid : Prop := dirPrintsRow.holds Try.pinned (OpenSpec.ofChange dirPrintsSpec)

/-- ITS FALSE NEIGHBOUR: 'it returns false'. Refute it at one input. -/
def dirPrintsWrong : ChangeSpec := { name := "dirPrints", fn := fun _ => fun
  | [d] => { results := [.lit (.bool false)], args := [d] }
  | _ => none }
def DirPrintsWrongFalsely : Prop := dirPrintsRow.holds Try.pinned (OpenSpec.ofChange dirPrintsWrong)

/-- 'amanuensislaw20.DirCut': WHATEVER THE INPUT: true; the input reads as it did. -/
def dirCutSpec : ChangeSpec := { name := "dirCut", fn := fun _ => fun
  | [d1, d2] => { results := [.lit (.bool true)], args := [d1, d2] }
  | _ => none }
def dirCutRow : OpenClaim := { program := "ytpgjcmmbkgkhlaa", sum := "a9c829b8c88cc183a70c376c8f2cbacaa5af87f1df005f36ae5a07e35f35d24d", func := "amanuensis/amanuensislaw20.DirCut", spec := "dirCut", apart := false }
def DirCutSaid : Prop := dirCutRow.holds Try.pinned (OpenSpec.ofChange dirCutSpec)

/-- ITS FALSE NEIGHBOUR: 'it returns false'. Refute it at one input. -/
def dirCutWrong : ChangeSpec := { name := "dirCut", fn := fun _ => fun
  | [d1, d2] => { results := [.lit (.bool false)], args := [d1, d2] }
  | _ => none }
def DirCutWrongFalsely : Prop := dirCutRow.holds Try.pinned (OpenSpec.ofChange dirCutWrong)

/- THE SECOND FORM. 'bulk': how many values and letters a reading holds, each counted each time it is reached (what is shared counts as often as it is met; a slice's spare places count too). A statement '..UptoSaid' is the law's where the arguments, and the package variables that the reading takes, are together of bulk at most 1048576: NARROWER than '..Said'. Prove '..Said' where nothing that the law and all that it calls make is longer than what came in: it says more and counts as full. Else prove '..UptoSaid'. A law counts once. -/
mutual
def uptoBulk {H : Type} : DataW H → Nat
  | .lit (.string bytes) => bytes.length + 1
  | .lit _ => 1
  | .nil => 1
  | .ptr d => uptoBulk d + 1
  | .slice elems spare => uptoBulkAll elems + uptoBulkAll spare + 1
  | .agg parts => uptoBulkAll parts + 1
  | .iface _ d => uptoBulk d + 1
  | .map entries => uptoBulkEntries entries + 1
  | .held _ => 1
def uptoBulkAll {H : Type} : List (DataW H) → Nat
  | [] => 0
  | d :: r => uptoBulk d + uptoBulkAll r
def uptoBulkEntries {H : Type} : List (Lit × DataW H) → Nat
  | [] => 0
  | x :: r => uptoBulkEntry x + uptoBulkEntries r
def uptoBulkEntry {H : Type} : Lit × DataW H → Nat
  | (.string bytes, d) => bytes.length + uptoBulk d + 1
  | (_, d) => uptoBulk d + 1
 end
def uptoSmall : (H : Type) → List (DataW H) → Bool := fun _ ds => decide (uptoBulkAll ds ≤ 1048576)
def OpenSpec.upto (s : _root_.Go.ChangeSpec) : _root_.Go.OpenSpec := { _root_.Go.OpenSpec.ofChange s with cond := some uptoSmall }

/-- 'amanuensislaw03.ClassOf', WHERE WHAT IT READS IS OF BULK AT MOST 1048576: true; the input reads as it did. -/
def classOfUptoRow : OpenClaim := { program := "ytpgjcmmbkgkhlaa", sum := "a9c829b8c88cc183a70c376c8f2cbacaa5af87f1df005f36ae5a07e35f35d24d", func := "amanuensis/amanuensislaw03.ClassOf", spec := "classOf", apart := false, narrowed := true }
def ClassOfUptoSaid : Prop := classOfUptoRow.holds Try.pinned (OpenSpec.upto classOfSpec)

/-- 'amanuensislaw03.ClassBounds', WHERE WHAT IT READS IS OF BULK AT MOST 1048576: true; the input reads as it did. -/
def classBoundsUptoRow : OpenClaim := { program := "ytpgjcmmbkgkhlaa", sum := "a9c829b8c88cc183a70c376c8f2cbacaa5af87f1df005f36ae5a07e35f35d24d", func := "amanuensis/amanuensislaw03.ClassBounds", spec := "classBounds", apart := false, narrowed := true }
def ClassBoundsUptoSaid : Prop := classBoundsUptoRow.holds Try.pinned (OpenSpec.upto classBoundsSpec)

/-- 'amanuensislaw03.ClassSteps', WHERE WHAT IT READS IS OF BULK AT MOST 1048576: true; the input reads as it did. -/
def classStepsUptoRow : OpenClaim := { program := "ytpgjcmmbkgkhlaa", sum := "a9c829b8c88cc183a70c376c8f2cbacaa5af87f1df005f36ae5a07e35f35d24d", func := "amanuensis/amanuensislaw03.ClassSteps", spec := "classSteps", apart := false, narrowed := true }
def ClassStepsUptoSaid : Prop := classStepsUptoRow.holds Try.pinned (OpenSpec.upto classStepsSpec)

/-- 'amanuensislaw03.ClassAll', WHERE WHAT IT READS IS OF BULK AT MOST 1048576: true; the input reads as it did. -/
def classAllUptoRow : OpenClaim := { program := "ytpgjcmmbkgkhlaa", sum := "a9c829b8c88cc183a70c376c8f2cbacaa5af87f1df005f36ae5a07e35f35d24d", func := "amanuensis/amanuensislaw03.ClassAll", spec := "classAll", apart := false, narrowed := true }
def ClassAllUptoSaid : Prop := classAllUptoRow.holds Try.pinned (OpenSpec.upto classAllSpec)

/-- 'amanuensislaw20.DirParses', WHERE WHAT IT READS IS OF BULK AT MOST 1048576: true; the input reads as it did. -/
def dirParsesUptoRow : OpenClaim := { program := "ytpgjcmmbkgkhlaa", sum := "a9c829b8c88cc183a70c376c8f2cbacaa5af87f1df005f36ae5a07e35f35d24d", func := "amanuensis/amanuensislaw20.DirParses", spec := "dirParses", apart := false, narrowed := true }
def DirParsesUptoSaid : Prop := dirParsesUptoRow.holds Try.pinned (OpenSpec.upto dirParsesSpec)

/-- 'amanuensislaw20.DirTags', WHERE WHAT IT READS IS OF BULK AT MOST 1048576: true; the input reads as it did. -/
def dirTagsUptoRow : OpenClaim := { program := "ytpgjcmmbkgkhlaa", sum := "a9c829b8c88cc183a70c376c8f2cbacaa5af87f1df005f36ae5a07e35f35d24d", func := "amanuensis/amanuensislaw20.DirTags", spec := "dirTags", apart := false, narrowed := true }
def DirTagsUptoSaid : Prop := dirTagsUptoRow.holds Try.pinned (OpenSpec.upto dirTagsSpec)

/-- 'amanuensislaw20.DirPrints', WHERE WHAT IT READS IS OF BULK AT MOST 1048576: true; the input reads as it did. -/
def dirPrintsUptoRow : OpenClaim := { program := "ytpgjcmmbkgkhlaa", sum := "a9c829b8c88cc183a70c376c8f2cbacaa5af87f1df005f36ae5a07e35f35d24d", func := "amanuensis/amanuensislaw20.DirPrints", spec := "dirPrints", apart := false, narrowed := true }
def DirPrintsUptoSaid : Prop := dirPrintsUptoRow.holds Try.pinned (OpenSpec.upto dirPrintsSpec)

/-- 'amanuensislaw20.DirCut', WHERE WHAT IT READS IS OF BULK AT MOST 1048576: true; the input reads as it did. -/
def dirCutUptoRow : OpenClaim := { program := "ytpgjcmmbkgkhlaa", sum := "a9c829b8c88cc183a70c376c8f2cbacaa5af87f1df005f36ae5a07e35f35d24d", func := "amanuensis/amanuensislaw20.DirCut", spec := "dirCut", apart := false, narrowed := true }
def DirCutUptoSaid : Prop := dirCutUptoRow.holds Try.pinned (OpenSpec.upto dirCutSpec)

end Rows
end Go.Proofs.Ytpgjcmmbkgkhlaa
