/-
  No cell of these rows narrows 'for every input' (looked for: loops, veiled, ifaces, maps, wideKeys, modest, calm, conditions, laid).
  DERIVED. THE GIVEN ROWS OF THIS SEAT. 13 by the template 'for every input the law returns true; each argument reads behind the call as it read before'; 0 by the template 'total and deterministic' (their statements: YteapibifebnboaaTotals.lean).
  GIVEN WITH THE SEED: the statements are not yours to turn. If you find one false, say at which input.
  Laid BY PROGRAM, IN A SANDBOX (cutbox-rows.mjs): the forced cells as the released guide's own fill.sh prints them over the translation 04585b852502d031… (all of the seat's roots in one cut). By AI agents, Wed Nov 11 2026. No macro, syntax, notation, axiom, sorry.
-/
import Derived.Test.YteapibifebnboaaChecked
import GoSem.Claim
import GoSem.ClaimJoined
import GoSem.ClaimMapViews
import Derived.JoinedTies
import Derived.KernelRfl
namespace Go.Proofs.Yteapibifebnboaa
/- THE CELL 'sum', in the pinned program and in every row, IS THE sha256 OF THE DUMP (.gsa) THAT YteapibifebnboaaProg.lean LOADS. Nothing in Lean hashes anything: it is a label: what it is worth is what the hold of that sum in a sandbox is worth. -/
noncomputable def Try.pinned : Pinned := { name := "yteapibifebnboaa", sum := "04585b852502d0310f4a79b5b6285471189e4301ef2c705064c621d7cd3c3514", checked := Try.checked }
namespace Rows
def none {H : Type} : Left H := { results := [], args := [] }

/-- 'amanuensislaw20.DirParses': WHATEVER THE INPUT: true; the input reads as it did. -/
def dirParsesSpec : ChangeSpec := { name := "dirParses", fn := fun _ => fun
  | [d] => { results := [.lit (.bool true)], args := [d] }
  | _ => none }
def dirParsesRow : OpenClaim := { program := "yteapibifebnboaa", sum := "04585b852502d0310f4a79b5b6285471189e4301ef2c705064c621d7cd3c3514", func := "amanuensis/amanuensislaw20.DirParses", spec := "dirParses", apart := false }
def DirParsesSaid : Prop := dirParsesRow.holds Try.pinned (OpenSpec.ofChange dirParsesSpec)

/-- ITS FALSE NEIGHBOUR: 'it returns false'. Refute it at one input. -/
def dirParsesWrong : ChangeSpec := { name := "dirParses", fn := fun _ => fun
  | [d] => { results := [.lit (.bool false)], args := [d] }
  | _ => none }
def DirParsesWrongFalsely : Prop := dirParsesRow.holds Try.pinned (OpenSpec.ofChange dirParsesWrong)

/-- 'amanuensislaw20.DirPrints': WHATEVER THE INPUT: true; the input reads as it did. -/
def dirPrintsSpec : ChangeSpec := { name := "dirPrints", fn := fun _ => fun
  | [d] => { results := [.lit (.bool true)], args := [d] }
  | _ => none }
def dirPrintsRow : OpenClaim := { program := "yteapibifebnboaa", sum := "04585b852502d0310f4a79b5b6285471189e4301ef2c705064c621d7cd3c3514", func := "amanuensis/amanuensislaw20.DirPrints", spec := "dirPrints", apart := false }
def DirPrintsSaid : Prop := dirPrintsRow.holds Try.pinned (OpenSpec.ofChange dirPrintsSpec)

/-- ITS FALSE NEIGHBOUR: 'it returns false'. Refute it at one input. -/
def dirPrintsWrong : ChangeSpec := { name := "dirPrints", fn := fun _ => fun
  | [d] => { results := [.lit (.bool false)], args := [d] }
  | _ => none }
def DirPrintsWrongFalsely : Prop := dirPrintsRow.holds Try.pinned (OpenSpec.ofChange dirPrintsWrong)

/-- 'amanuensislaw20.DirCut': WHATEVER THE INPUT: true; the input reads as it did. -/
def dirCutSpec : ChangeSpec := { name := "dirCut", fn := fun _ => fun
  | [d1, d2] => { results := [.lit (.bool true)], args := [d1, d2] }
  | _ => none }
def dirCutRow : OpenClaim := { program := "yteapibifebnboaa", sum := "04585b852502d0310f4a79b5b6285471189e4301ef2c705064c621d7cd3c3514", func := "amanuensis/amanuensislaw20.DirCut", spec := "dirCut", apart := false }
def DirCutSaid : Prop := dirCutRow.holds Try.pinned (OpenSpec.ofChange dirCutSpec)

/-- ITS FALSE NEIGHBOUR: 'it returns false'. Refute it at one input. -/
def dirCutWrong : ChangeSpec := { name := "dirCut", fn := fun _ => fun
  | [d1, d2] => { results := [.lit (.bool false)], args := [d1, d2] }
  | _ => none }
def DirCutWrongFalsely : Prop := dirCutRow.holds Try.pinned (OpenSpec.ofChange dirCutWrong)

/-- 'amanuensislaw21.FieldCut': WHATEVER THE INPUT: true; the input reads as it did. -/
def fieldCutSpec : ChangeSpec := { name := "fieldCut", fn := fun _ => fun
  | [d1, d2] => { results := [.lit (.bool true)], args := [d1, d2] }
  | _ => none }
def fieldCutRow : OpenClaim := { program := "yteapibifebnboaa", sum := "04585b852502d0310f4a79b5b6285471189e4301ef2c705064c621d7cd3c3514", func := "amanuensis/amanuensislaw21.FieldCut", spec := "fieldCut", unfollowed := true, recurses := true, apart := false }
def FieldCutSaid : Prop := fieldCutRow.holds Try.pinned (OpenSpec.ofChange fieldCutSpec)

/-- ITS FALSE NEIGHBOUR: 'it returns false'. Refute it at one input. -/
def fieldCutWrong : ChangeSpec := { name := "fieldCut", fn := fun _ => fun
  | [d1, d2] => { results := [.lit (.bool false)], args := [d1, d2] }
  | _ => none }
def FieldCutWrongFalsely : Prop := fieldCutRow.holds Try.pinned (OpenSpec.ofChange fieldCutWrong)

/-- 'amanuensislaw21.FieldParses': WHATEVER THE INPUT: true; the input reads as it did. -/
def fieldParsesSpec : ChangeSpec := { name := "fieldParses", fn := fun _ => fun
  | [d1, d2] => { results := [.lit (.bool true)], args := [d1, d2] }
  | _ => none }
def fieldParsesRow : OpenClaim := { program := "yteapibifebnboaa", sum := "04585b852502d0310f4a79b5b6285471189e4301ef2c705064c621d7cd3c3514", func := "amanuensis/amanuensislaw21.FieldParses", spec := "fieldParses", unfollowed := true, recurses := true, apart := false }
def FieldParsesSaid : Prop := fieldParsesRow.holds Try.pinned (OpenSpec.ofChange fieldParsesSpec)

/-- ITS FALSE NEIGHBOUR: 'it returns false'. Refute it at one input. -/
def fieldParsesWrong : ChangeSpec := { name := "fieldParses", fn := fun _ => fun
  | [d1, d2] => { results := [.lit (.bool false)], args := [d1, d2] }
  | _ => none }
def FieldParsesWrongFalsely : Prop := fieldParsesRow.holds Try.pinned (OpenSpec.ofChange fieldParsesWrong)

/-- 'amanuensislaw21.FieldPrints': WHATEVER THE INPUT: true; the input reads as it did. -/
def fieldPrintsSpec : ChangeSpec := { name := "fieldPrints", fn := fun _ => fun
  | [d] => { results := [.lit (.bool true)], args := [d] }
  | _ => none }
def fieldPrintsRow : OpenClaim := { program := "yteapibifebnboaa", sum := "04585b852502d0310f4a79b5b6285471189e4301ef2c705064c621d7cd3c3514", func := "amanuensis/amanuensislaw21.FieldPrints", spec := "fieldPrints", unfollowed := true, recurses := true, apart := false }
def FieldPrintsSaid : Prop := fieldPrintsRow.holds Try.pinned (OpenSpec.ofChange fieldPrintsSpec)

/-- ITS FALSE NEIGHBOUR: 'it returns false'. Refute it at one input. -/
def fieldPrintsWrong : ChangeSpec := { name := "fieldPrints", fn := fun _ => fun
  | [d] => { results := [.lit (.bool false)], args := [d] }
  | _ => none }
def FieldPrintsWrongFalsely : Prop := fieldPrintsRow.holds Try.pinned (OpenSpec.ofChange fieldPrintsWrong)

/-- 'amanuensislaw21.FieldTexts': WHATEVER THE INPUT: true; the input reads as it did. -/
def fieldTextsSpec : ChangeSpec := { name := "fieldTexts", fn := fun _ => fun
  | [d1, d2] => { results := [.lit (.bool true)], args := [d1, d2] }
  | _ => none }
def fieldTextsRow : OpenClaim := { program := "yteapibifebnboaa", sum := "04585b852502d0310f4a79b5b6285471189e4301ef2c705064c621d7cd3c3514", func := "amanuensis/amanuensislaw21.FieldTexts", spec := "fieldTexts", unfollowed := true, recurses := true, apart := false }
def FieldTextsSaid : Prop := fieldTextsRow.holds Try.pinned (OpenSpec.ofChange fieldTextsSpec)

/-- ITS FALSE NEIGHBOUR: 'it returns false'. Refute it at one input. -/
def fieldTextsWrong : ChangeSpec := { name := "fieldTexts", fn := fun _ => fun
  | [d1, d2] => { results := [.lit (.bool false)], args := [d1, d2] }
  | _ => none }
def FieldTextsWrongFalsely : Prop := fieldTextsRow.holds Try.pinned (OpenSpec.ofChange fieldTextsWrong)

/-- 'amanuensislaw21.FieldKeeps': WHATEVER THE INPUT: true; the input reads as it did. -/
def fieldKeepsSpec : ChangeSpec := { name := "fieldKeeps", fn := fun _ => fun
  | [d1, d2] => { results := [.lit (.bool true)], args := [d1, d2] }
  | _ => none }
def fieldKeepsRow : OpenClaim := { program := "yteapibifebnboaa", sum := "04585b852502d0310f4a79b5b6285471189e4301ef2c705064c621d7cd3c3514", func := "amanuensis/amanuensislaw21.FieldKeeps", spec := "fieldKeeps", unfollowed := true, recurses := true, apart := false }
def FieldKeepsSaid : Prop := fieldKeepsRow.holds Try.pinned (OpenSpec.ofChange fieldKeepsSpec)

/-- ITS FALSE NEIGHBOUR: 'it returns false'. Refute it at one input. -/
def fieldKeepsWrong : ChangeSpec := { name := "fieldKeeps", fn := fun _ => fun
  | [d1, d2] => { results := [.lit (.bool false)], args := [d1, d2] }
  | _ => none }
def FieldKeepsWrongFalsely : Prop := fieldKeepsRow.holds Try.pinned (OpenSpec.ofChange fieldKeepsWrong)

/-- 'amanuensislaw22.RecordLong': WHATEVER THE INPUT: true; the input reads as it did. -/
def recordLongSpec : ChangeSpec := { name := "recordLong", fn := fun _ => fun
  | [d1, d2] => { results := [.lit (.bool true)], args := [d1, d2] }
  | _ => none }
def recordLongRow : OpenClaim := { program := "yteapibifebnboaa", sum := "04585b852502d0310f4a79b5b6285471189e4301ef2c705064c621d7cd3c3514", func := "amanuensis/amanuensislaw22.RecordLong", spec := "recordLong", unfollowed := true, recurses := true, apart := false }
def RecordLongSaid : Prop := recordLongRow.holds Try.pinned (OpenSpec.ofChange recordLongSpec)

/-- ITS FALSE NEIGHBOUR: 'it returns false'. Refute it at one input. -/
def recordLongWrong : ChangeSpec := { name := "recordLong", fn := fun _ => fun
  | [d1, d2] => { results := [.lit (.bool false)], args := [d1, d2] }
  | _ => none }
def RecordLongWrongFalsely : Prop := recordLongRow.holds Try.pinned (OpenSpec.ofChange recordLongWrong)

/-- 'amanuensislaw22.RecordStarts': WHATEVER THE INPUT: true; the input reads as it did. -/
def recordStartsSpec : ChangeSpec := { name := "recordStarts", fn := fun _ => fun
  | [d] => { results := [.lit (.bool true)], args := [d] }
  | _ => none }
def recordStartsRow : OpenClaim := { program := "yteapibifebnboaa", sum := "04585b852502d0310f4a79b5b6285471189e4301ef2c705064c621d7cd3c3514", func := "amanuensis/amanuensislaw22.RecordStarts", spec := "recordStarts", unfollowed := true, recurses := true, apart := false }
def RecordStartsSaid : Prop := recordStartsRow.holds Try.pinned (OpenSpec.ofChange recordStartsSpec)

/-- ITS FALSE NEIGHBOUR: 'it returns false'. Refute it at one input. -/
def recordStartsWrong : ChangeSpec := { name := "recordStarts", fn := fun _ => fun
  | [d] => { results := [.lit (.bool false)], args := [d] }
  | _ => none }
def RecordStartsWrongFalsely : Prop := recordStartsRow.holds Try.pinned (OpenSpec.ofChange recordStartsWrong)

/-- 'amanuensislaw22.RecordParses': WHATEVER THE INPUT: true; the input reads as it did. -/
def recordParsesSpec : ChangeSpec := { name := "recordParses", fn := fun _ => fun
  | [d] => { results := [.lit (.bool true)], args := [d] }
  | _ => none }
def recordParsesRow : OpenClaim := { program := "yteapibifebnboaa", sum := "04585b852502d0310f4a79b5b6285471189e4301ef2c705064c621d7cd3c3514", func := "amanuensis/amanuensislaw22.RecordParses", spec := "recordParses", unfollowed := true, recurses := true, apart := false }
def RecordParsesSaid : Prop := recordParsesRow.holds Try.pinned (OpenSpec.ofChange recordParsesSpec)

/-- ITS FALSE NEIGHBOUR: 'it returns false'. Refute it at one input. -/
def recordParsesWrong : ChangeSpec := { name := "recordParses", fn := fun _ => fun
  | [d] => { results := [.lit (.bool false)], args := [d] }
  | _ => none }
def RecordParsesWrongFalsely : Prop := recordParsesRow.holds Try.pinned (OpenSpec.ofChange recordParsesWrong)

/-- 'amanuensislaw22.RecordTurned': WHATEVER THE INPUT: true; the input reads as it did. -/
def recordTurnedSpec : ChangeSpec := { name := "recordTurned", fn := fun _ => fun
  | [d1, d2, d3] => { results := [.lit (.bool true)], args := [d1, d2, d3] }
  | _ => none }
def recordTurnedRow : OpenClaim := { program := "yteapibifebnboaa", sum := "04585b852502d0310f4a79b5b6285471189e4301ef2c705064c621d7cd3c3514", func := "amanuensis/amanuensislaw22.RecordTurned", spec := "recordTurned", unfollowed := true, recurses := true, apart := false }
def RecordTurnedSaid : Prop := recordTurnedRow.holds Try.pinned (OpenSpec.ofChange recordTurnedSpec)

/-- ITS FALSE NEIGHBOUR: 'it returns false'. Refute it at one input. -/
def recordTurnedWrong : ChangeSpec := { name := "recordTurned", fn := fun _ => fun
  | [d1, d2, d3] => { results := [.lit (.bool false)], args := [d1, d2, d3] }
  | _ => none }
def RecordTurnedWrongFalsely : Prop := recordTurnedRow.holds Try.pinned (OpenSpec.ofChange recordTurnedWrong)

/-- 'amanuensislaw22.RecordCut': WHATEVER THE INPUT: true; the input reads as it did. -/
def recordCutSpec : ChangeSpec := { name := "recordCut", fn := fun _ => fun
  | [d1, d2, d3] => { results := [.lit (.bool true)], args := [d1, d2, d3] }
  | _ => none }
def recordCutRow : OpenClaim := { program := "yteapibifebnboaa", sum := "04585b852502d0310f4a79b5b6285471189e4301ef2c705064c621d7cd3c3514", func := "amanuensis/amanuensislaw22.RecordCut", spec := "recordCut", unfollowed := true, recurses := true, apart := false }
def RecordCutSaid : Prop := recordCutRow.holds Try.pinned (OpenSpec.ofChange recordCutSpec)

/-- ITS FALSE NEIGHBOUR: 'it returns false'. Refute it at one input. -/
def recordCutWrong : ChangeSpec := { name := "recordCut", fn := fun _ => fun
  | [d1, d2, d3] => { results := [.lit (.bool false)], args := [d1, d2, d3] }
  | _ => none }
def RecordCutWrongFalsely : Prop := recordCutRow.holds Try.pinned (OpenSpec.ofChange recordCutWrong)

/- THE SECOND FORM. 'bulk': how many values and letters a reading holds, each counted each time it is reached (what is shared counts as often as it is met; a slice's spare places count too). A statement '..UptoSaid' is the law's where the arguments, and the package variables that the reading takes, are together of bulk at most 1048576: NARROWER than '..Said'. Prove '..Said' where nothing that the law and all that it calls make is longer than what came in: it says more and counts as full. Else prove '..UptoSaid'. A law counts once. -/
mutual
def uptoBulk {H : Type} : DataW H → Nat
  | .lit (.string bytes) => bytes.length + 1
  | .lit _ => 1
  | .nil => 1
  | .ptr d => uptoBulk d + 1
  | .slice elems spare => uptoBulkAll elems + uptoBulkAll spare + 1
  | .agg parts => uptoBulkAll parts + 1
  | .iface _ d => uptoBulk d + 1
  | .map entries => uptoBulkEntries entries + 1
  | .held _ => 1
def uptoBulkAll {H : Type} : List (DataW H) → Nat
  | [] => 0
  | d :: r => uptoBulk d + uptoBulkAll r
def uptoBulkEntries {H : Type} : List (Lit × DataW H) → Nat
  | [] => 0
  | x :: r => uptoBulkEntry x + uptoBulkEntries r
def uptoBulkEntry {H : Type} : Lit × DataW H → Nat
  | (.string bytes, d) => bytes.length + uptoBulk d + 1
  | (_, d) => uptoBulk d + 1
 end
def uptoSmall : (H : Type) → List (DataW H) → Bool := fun _ ds => decide (uptoBulkAll ds ≤ 1048576)
def OpenSpec.upto (s : _root_.Go.ChangeSpec) : _root_.Go.OpenSpec := { _root_.Go.OpenSpec.ofChange s with cond := some uptoSmall }

/-- 'amanuensislaw20.DirParses', WHERE WHAT IT READS IS OF BULK AT MOST 1048576: true; the input reads as it did. -/
def dirParsesUptoRow : OpenClaim := { program := "yteapibifebnboaa", sum := "04585b852502d0310f4a79b5b6285471189e4301ef2c705064c621d7cd3c3514", func := "amanuensis/amanuensislaw20.DirParses", spec := "dirParses", apart := false, narrowed := true }
def DirParsesUptoSaid : Prop := dirParsesUptoRow.holds Try.pinned (OpenSpec.upto dirParsesSpec)

/-- 'amanuensislaw20.DirPrints', WHERE WHAT IT READS IS OF BULK AT MOST 1048576: true; the input reads as it did. -/
def dirPrintsUptoRow : OpenClaim := { program := "yteapibifebnboaa", sum := "04585b852502d0310f4a79b5b6285471189e4301ef2c705064c621d7cd3c3514", func := "amanuensis/amanuensislaw20.DirPrints", spec := "dirPrints", apart := false, narrowed := true }
def DirPrintsUptoSaid : Prop := dirPrintsUptoRow.holds Try.pinned (OpenSpec.upto dirPrintsSpec)

/-- 'amanuensislaw20.DirCut', WHERE WHAT IT READS IS OF BULK AT MOST 1048576: true; the input reads as it did. -/
def dirCutUptoRow : OpenClaim := { program := "yteapibifebnboaa", sum := "04585b852502d0310f4a79b5b6285471189e4301ef2c705064c621d7cd3c3514", func := "amanuensis/amanuensislaw20.DirCut", spec := "dirCut", apart := false, narrowed := true }
def DirCutUptoSaid : Prop := dirCutUptoRow.holds Try.pinned (OpenSpec.upto dirCutSpec)

/-- 'amanuensislaw21.FieldCut', WHERE WHAT IT READS IS OF BULK AT MOST 1048576: true; the input reads as it did. -/
def fieldCutUptoRow : OpenClaim := { program := "yteapibifebnboaa", sum := "04585b852502d0310f4a79b5b6285471189e4301ef2c705064c621d7cd3c3514", func := "amanuensis/amanuensislaw21.FieldCut", spec := "fieldCut", unfollowed := true, recurses := true, apart := false, narrowed := true }
def FieldCutUptoSaid : Prop := fieldCutUptoRow.holds Try.pinned (OpenSpec.upto fieldCutSpec)

/-- 'amanuensislaw21.FieldParses', WHERE WHAT IT READS IS OF BULK AT MOST 1048576: true; the input reads as it did. -/
def fieldParsesUptoRow : OpenClaim := { program := "yteapibifebnboaa", sum := "04585b852502d0310f4a79b5b6285471189e4301ef2c705064c621d7cd3c3514", func := "amanuensis/amanuensislaw21.FieldParses", spec := "fieldParses", unfollowed := true, recurses := true, apart := false, narrowed := true }
def FieldParsesUptoSaid : Prop := fieldParsesUptoRow.holds Try.pinned (OpenSpec.upto fieldParsesSpec)

/-- 'amanuensislaw21.FieldPrints', WHERE WHAT IT READS IS OF BULK AT MOST 1048576: true; the input reads as it did. -/
def fieldPrintsUptoRow : OpenClaim := { program := "yteapibifebnboaa", sum := "04585b852502d0310f4a79b5b6285471189e4301ef2c705064c621d7cd3c3514", func := "amanuensis/amanuensislaw21.FieldPrints", spec := "fieldPrints", unfollowed := true, recurses := true, apart := false, narrowed := true }
def FieldPrintsUptoSaid : Prop := fieldPrintsUptoRow.holds Try.pinned (OpenSpec.upto fieldPrintsSpec)

/-- 'amanuensislaw21.FieldTexts', WHERE WHAT IT READS IS OF BULK AT MOST 1048576: true; the input reads as it did. -/
def fieldTextsUptoRow : OpenClaim := { program := "yteapibifebnboaa", sum := "04585b852502d0310f4a79b5b6285471189e4301ef2c705064c621d7cd3c3514", func := "amanuensis/amanuensislaw21.FieldTexts", spec := "fieldTexts", unfollowed := true, recurses := true, apart := false, narrowed := true }
def FieldTextsUptoSaid : Prop := fieldTextsUptoRow.holds Try.pinned (OpenSpec.upto fieldTextsSpec)

/-- 'amanuensislaw21.FieldKeeps', WHERE WHAT IT READS IS OF BULK AT MOST 1048576: true; the input reads as it did. -/
def fieldKeepsUptoRow : OpenClaim := { program := "yteapibifebnboaa", sum := "04585b852502d0310f4a79b5b6285471189e4301ef2c705064c621d7cd3c3514", func := "amanuensis/amanuensislaw21.FieldKeeps", spec := "fieldKeeps", unfollowed := true, recurses := true, apart := false, narrowed := true }
def FieldKeepsUptoSaid : Prop := fieldKeepsUptoRow.holds Try.pinned (OpenSpec.upto fieldKeepsSpec)

/-- 'amanuensislaw22.RecordLong', WHERE WHAT IT READS IS OF BULK AT MOST 1048576: true; the input reads as it did. -/
def recordLongUptoRow : OpenClaim := { program := "yteapibifebnboaa", sum := "04585b852502d0310f4a79b5b6285471189e4301ef2c705064c621d7cd3c3514", func := "amanuensis/amanuensislaw22.RecordLong", spec := "recordLong", unfollowed := true, recurses := true, apart := false, narrowed := true }
def RecordLongUptoSaid : Prop := recordLongUptoRow.holds Try.pinned (OpenSpec.upto recordLongSpec)

/-- 'amanuensislaw22.RecordStarts', WHERE WHAT IT READS IS OF BULK AT MOST 1048576: true; the input reads as it did. -/
def recordStartsUptoRow : OpenClaim := { program := "yteapibifebnboaa", sum := "04585b852502d0310f4a79b5b6285471189e4301ef2c705064c621d7cd3c3514", func := "amanuensis/amanuensislaw22.RecordStarts", spec := "recordStarts", unfollowed := true, recurses := true, apart := false, narrowed := true }
def RecordStartsUptoSaid : Prop := recordStartsUptoRow.holds Try.pinned (OpenSpec.upto recordStartsSpec)

/-- 'amanuensislaw22.RecordParses', WHERE WHAT IT READS IS OF BULK AT MOST 1048576: true; the input reads as it did. -/
def recordParsesUptoRow : OpenClaim := { program := "yteapibifebnboaa", sum := "04585b852502d0310f4a79b5b6285471189e4301ef2c705064c621d7cd3c3514", func := "amanuensis/amanuensislaw22.RecordParses", spec := "recordParses", unfollowed := true, recurses := true, apart := false, narrowed := true }
def RecordParsesUptoSaid : Prop := recordParsesUptoRow.holds Try.pinned (OpenSpec.upto recordParsesSpec)

/-- 'amanuensislaw22.RecordTurned', WHERE WHAT IT READS IS OF BULK AT MOST 1048576: true; the input reads as it did. -/
def recordTurnedUptoRow : OpenClaim := { program := "yteapibifebnboaa", sum := "04585b852502d0310f4a79b5b6285471189e4301ef2c705064c621d7cd3c3514", func := "amanuensis/amanuensislaw22.RecordTurned", spec := "recordTurned", unfollowed := true, recurses := true, apart := false, narrowed := true }
def RecordTurnedUptoSaid : Prop := recordTurnedUptoRow.holds Try.pinned (OpenSpec.upto recordTurnedSpec)

/-- 'amanuensislaw22.RecordCut', WHERE WHAT IT READS IS OF BULK AT MOST 1048576: true; the input reads as it did. -/
def recordCutUptoRow : OpenClaim := { program := "yteapibifebnboaa", sum := "04585b852502d0310f4a79b5b6285471189e4301ef2c705064c621d7cd3c3514", func := "amanuensis/amanuensislaw22.RecordCut", spec := "recordCut", unfollowed := true, recurses := true, apart := false, narrowed := true }
def RecordCutUptoSaid : Prop := recordCutUptoRow.holds Try.pinned (OpenSpec.upto recordCutSpec)

end Rows
end Go.Proofs.Yteapibifebnboaa
