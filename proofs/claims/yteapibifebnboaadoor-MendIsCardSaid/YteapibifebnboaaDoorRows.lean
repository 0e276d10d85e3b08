/-
  NARROWER THAN 'FOR EVERY INPUT', by the rows' own cells (each row's printed sentence says how): MendIs: laid · MendRight: laid · MendKeeps: laid · MendFields: laid · MendLead: laid.
  DERIVED. THE GIVEN ROWS OF THIS SEAT. 5 by the template 'for every input the law returns true; each argument reads behind the call as it read before'; 0 by the template 'total and deterministic' (their statements: YteapibifebnboaaDoorTotals.lean).
  GIVEN WITH THE SEED: the statements are not yours to turn. If you find one false, say at which input.
  Laid BY PROGRAM, IN A SANDBOX (cutbox-rows.mjs): the forced cells as the released guide's own fill.sh prints them over the translation 98682661d1eca9b2… (all of the seat's roots in one cut). By AI agents, Wed Nov 11 2026. No macro, syntax, notation, axiom, sorry.
-/
import Derived.Test.YteapibifebnboaaDoorChecked
import GoSem.PinnedTables
import GoSem.Claim
import GoSem.ClaimJoined
import GoSem.ClaimMapViews
import Derived.JoinedTies
import Derived.KernelRfl
namespace Go.Proofs.YteapibifebnboaaDoor
/- THE CELL 'sum', in the pinned program and in every row, IS THE sha256 OF THE DUMP (.gsa) THAT YteapibifebnboaaDoorProg.lean LOADS. Nothing in Lean hashes anything: it is a label: what it is worth is what the hold of that sum in a sandbox is worth. -/
noncomputable def Tryd.pinned : Pinned := { name := "yteapibifebnboaadoor", sum := "98682661d1eca9b2e33390e3d373126acde43ca0578a1126a2f070a6c26130ff", checked := Tryd.checked }
namespace Rows
def none {H : Type} : Left H := { results := [], args := [] }

/- WHAT THE LISTED PACKAGE-LEVEL VARIABLES READ AS WHEN THE CALL BEGINS. Each datum BY PROGRAM (the guide's laid-datum.mjs) off the statement by which the dump's own 'gosem.cut.vars' lays the variable. In a bare row this is a premise. The card (YteapibifebnboaaDoorCards.lean) ties it to the program's text. -/
def laid_unicode_utf8_acceptRanges {H : Type} : DataW H := .agg [.agg [.lit (.int .u8 128), .lit (.int .u8 191)], .agg [.lit (.int .u8 160), .lit (.int .u8 191)], .agg [.lit (.int .u8 128), .lit (.int .u8 159)], .agg [.lit (.int .u8 144), .lit (.int .u8 191)], .agg [.lit (.int .u8 128), .lit (.int .u8 143)], .agg [.lit (.int .u8 0), .lit (.int .u8 0)], .agg [.lit (.int .u8 0), .lit (.int .u8 0)], .agg [.lit (.int .u8 0), .lit (.int .u8 0)], .agg [.lit (.int .u8 0), .lit (.int .u8 0)], .agg [.lit (.int .u8 0), .lit (.int .u8 0)], .agg [.lit (.int .u8 0), .lit (.int .u8 0)], .agg [.lit (.int .u8 0), .lit (.int .u8 0)], .agg [.lit (.int .u8 0), .lit (.int .u8 0)], .agg [.lit (.int .u8 0), .lit (.int .u8 0)], .agg [.lit (.int .u8 0), .lit (.int .u8 0)], .agg [.lit (.int .u8 0), .lit (.int .u8 0)]]
/-- One of Go's own tables, pinned by name: the form's constant. -/
def laid_unicode_utf8_first : DataW Unit := Go.Pinned.utf8First

/-- 'amanuensislaw23.MendIs': WHATEVER THE INPUT: true; the input reads as it did. -/
def mendIsSpec : ChangeSpec := { name := "mendIs", fn := fun _ => fun
  | [d] => { results := [.lit (.bool true)], args := [d] }
  | _ => none }
def mendIsRow : OpenClaim := { program := "yteapibifebnboaadoor", sum := "98682661d1eca9b2e33390e3d373126acde43ca0578a1126a2f070a6c26130ff", func := "amanuensis/amanuensislaw23.MendIs", spec := "mendIs", inPlace := ["internal/bytealg.MakeNoZero", "internal/bytealg.IndexByte", "internal/bytealg.Count", "internal/bytealg.Index"], unfollowed := true, recurses := true, named := ["unicode/utf8.first", "unicode/utf8.acceptRanges", "internal/bytealg.MaxLen"], apart := false, laid := [("unicode/utf8.acceptRanges", laid_unicode_utf8_acceptRanges), ("unicode/utf8.first", laid_unicode_utf8_first)] }
def MendIsSaid : Prop := mendIsRow.holds Tryd.pinned (OpenSpec.ofChange mendIsSpec)

/-- ITS FALSE NEIGHBOUR: 'it returns false'. Refute it at one input. -/
def mendIsWrong : ChangeSpec := { name := "mendIs", fn := fun _ => fun
  | [d] => { results := [.lit (.bool false)], args := [d] }
  | _ => none }
def MendIsWrongFalsely : Prop := mendIsRow.holds Tryd.pinned (OpenSpec.ofChange mendIsWrong)

/-- 'amanuensislaw23.MendRight': WHATEVER THE INPUT: true; the input reads as it did. -/
def mendRightSpec : ChangeSpec := { name := "mendRight", fn := fun _ => fun
  | [d] => { results := [.lit (.bool true)], args := [d] }
  | _ => none }
def mendRightRow : OpenClaim := { program := "yteapibifebnboaadoor", sum := "98682661d1eca9b2e33390e3d373126acde43ca0578a1126a2f070a6c26130ff", func := "amanuensis/amanuensislaw23.MendRight", spec := "mendRight", inPlace := ["internal/bytealg.MakeNoZero", "internal/bytealg.IndexByte", "internal/bytealg.Count", "internal/bytealg.Index"], unfollowed := true, recurses := true, named := ["unicode/utf8.first", "unicode/utf8.acceptRanges", "internal/bytealg.MaxLen"], apart := false, laid := [("unicode/utf8.acceptRanges", laid_unicode_utf8_acceptRanges), ("unicode/utf8.first", laid_unicode_utf8_first)] }
def MendRightSaid : Prop := mendRightRow.holds Tryd.pinned (OpenSpec.ofChange mendRightSpec)

/-- ITS FALSE NEIGHBOUR: 'it returns false'. Refute it at one input. -/
def mendRightWrong : ChangeSpec := { name := "mendRight", fn := fun _ => fun
  | [d] => { results := [.lit (.bool false)], args := [d] }
  | _ => none }
def MendRightWrongFalsely : Prop := mendRightRow.holds Tryd.pinned (OpenSpec.ofChange mendRightWrong)

/-- 'amanuensislaw23.MendKeeps': WHATEVER THE INPUT: true; the input reads as it did. -/
def mendKeepsSpec : ChangeSpec := { name := "mendKeeps", fn := fun _ => fun
  | [d1, d2, d3] => { results := [.lit (.bool true)], args := [d1, d2, d3] }
  | _ => none }
def mendKeepsRow : OpenClaim := { program := "yteapibifebnboaadoor", sum := "98682661d1eca9b2e33390e3d373126acde43ca0578a1126a2f070a6c26130ff", func := "amanuensis/amanuensislaw23.MendKeeps", spec := "mendKeeps", inPlace := ["internal/bytealg.MakeNoZero", "internal/bytealg.IndexByte", "internal/bytealg.Count", "internal/bytealg.Index"], unfollowed := true, recurses := true, named := ["unicode/utf8.first", "unicode/utf8.acceptRanges", "internal/bytealg.MaxLen"], apart := false, laid := [("unicode/utf8.acceptRanges", laid_unicode_utf8_acceptRanges), ("unicode/utf8.first", laid_unicode_utf8_first)] }
def MendKeepsSaid : Prop := mendKeepsRow.holds Tryd.pinned (OpenSpec.ofChange mendKeepsSpec)

/-- ITS FALSE NEIGHBOUR: 'it returns false'. Refute it at one input. -/
def mendKeepsWrong : ChangeSpec := { name := "mendKeeps", fn := fun _ => fun
  | [d1, d2, d3] => { results := [.lit (.bool false)], args := [d1, d2, d3] }
  | _ => none }
def MendKeepsWrongFalsely : Prop := mendKeepsRow.holds Tryd.pinned (OpenSpec.ofChange mendKeepsWrong)

/-- 'amanuensislaw23.MendFields': WHATEVER THE INPUT: true; the input reads as it did. -/
def mendFieldsSpec : ChangeSpec := { name := "mendFields", fn := fun _ => fun
  | [d] => { results := [.lit (.bool true)], args := [d] }
  | _ => none }
def mendFieldsRow : OpenClaim := { program := "yteapibifebnboaadoor", sum := "98682661d1eca9b2e33390e3d373126acde43ca0578a1126a2f070a6c26130ff", func := "amanuensis/amanuensislaw23.MendFields", spec := "mendFields", inPlace := ["internal/bytealg.MakeNoZero", "internal/bytealg.IndexByte", "internal/bytealg.Count", "internal/bytealg.Index"], unfollowed := true, recurses := true, named := ["unicode/utf8.first", "unicode/utf8.acceptRanges", "internal/bytealg.MaxLen"], apart := false, laid := [("unicode/utf8.acceptRanges", laid_unicode_utf8_acceptRanges), ("unicode/utf8.first", laid_unicode_utf8_first)] }
def MendFieldsSaid : Prop := mendFieldsRow.holds Tryd.pinned (OpenSpec.ofChange mendFieldsSpec)

/-- ITS FALSE NEIGHBOUR: 'it returns false'. Refute it at one input. -/
def mendFieldsWrong : ChangeSpec := { name := "mendFields", fn := fun _ => fun
  | [d] => { results := [.lit (.bool false)], args := [d] }
  | _ => none }
def MendFieldsWrongFalsely : Prop := mendFieldsRow.holds Tryd.pinned (OpenSpec.ofChange mendFieldsWrong)

/-- 'amanuensislaw23.MendLead': WHATEVER THE INPUT: true; the input reads as it did. -/
def mendLeadSpec : ChangeSpec := { name := "mendLead", fn := fun _ => fun
  | [d] => { results := [.lit (.bool true)], args := [d] }
  | _ => none }
def mendLeadRow : OpenClaim := { program := "yteapibifebnboaadoor", sum := "98682661d1eca9b2e33390e3d373126acde43ca0578a1126a2f070a6c26130ff", func := "amanuensis/amanuensislaw23.MendLead", spec := "mendLead", inPlace := ["internal/bytealg.MakeNoZero", "internal/bytealg.IndexByte", "internal/bytealg.Count", "internal/bytealg.Index"], unfollowed := true, recurses := true, named := ["unicode/utf8.first", "unicode/utf8.acceptRanges", "internal/bytealg.MaxLen"], apart := false, laid := [("unicode/utf8.acceptRanges", laid_unicode_utf8_acceptRanges), ("unicode/utf8.first", laid_unicode_utf8_first)] }
def MendLeadSaid : Prop := mendLeadRow.holds Tryd.pinned (OpenSpec.ofChange mendLeadSpec)

/-- ITS FALSE NEIGHBOUR: 'it returns false'. Refute it at one input. -/
def mendLeadWrong : ChangeSpec := { name := "mendLead", fn := fun _ => fun
  | [d] => { results := [.lit (.bool false)], args := [d] }
  | _ => none }
def MendLeadWrongFalsely : Prop := mendLeadRow.holds Tryd.pinned (OpenSpec.ofChange mendLeadWrong)

/- THE SECOND FORM. 'bulk': how many values and letters a reading holds, each counted each time it is reached (what is shared counts as often as it is met; a slice's spare places count too). A statement '..UptoSaid' is the law's where the arguments, and the package variables that the reading takes, are together of bulk at most 1048576: NARROWER than '..Said'. Prove '..Said' where nothing that the law and all that it calls make is longer than what came in: it says more and counts as full. Else prove '..UptoSaid'. A law counts once. -/
mutual
def uptoBulk {H : Type} : DataW H → Nat
  | .lit (.string bytes) => bytes.length + 1
  | .lit _ => 1
  | .nil => 1
  | .ptr d => uptoBulk d + 1
  | .slice elems spare => uptoBulkAll elems + uptoBulkAll spare + 1
  | .agg parts => uptoBulkAll parts + 1
  | .iface _ d => uptoBulk d + 1
  | .map entries => uptoBulkEntries entries + 1
  | .held _ => 1
def uptoBulkAll {H : Type} : List (DataW H) → Nat
  | [] => 0
  | d :: r => uptoBulk d + uptoBulkAll r
def uptoBulkEntries {H : Type} : List (Lit × DataW H) → Nat
  | [] => 0
  | x :: r => uptoBulkEntry x + uptoBulkEntries r
def uptoBulkEntry {H : Type} : Lit × DataW H → Nat
  | (.string bytes, d) => bytes.length + uptoBulk d + 1
  | (_, d) => uptoBulk d + 1
 end
def uptoSmall : (H : Type) → List (DataW H) → Bool := fun _ ds => decide (uptoBulkAll ds ≤ 1048576)
def OpenSpec.upto (s : _root_.Go.ChangeSpec) : _root_.Go.OpenSpec := { _root_.Go.OpenSpec.ofChange s with cond := some uptoSmall }

/-- 'amanuensislaw23.MendIs', WHERE WHAT IT READS IS OF BULK AT MOST 1048576: true; the input reads as it did. -/
def mendIsUptoRow : OpenClaim := { program := "yteapibifebnboaadoor", sum := "98682661d1eca9b2e33390e3d373126acde43ca0578a1126a2f070a6c26130ff", func := "amanuensis/amanuensislaw23.MendIs", spec := "mendIs", inPlace := ["internal/bytealg.MakeNoZero", "internal/bytealg.IndexByte", "internal/bytealg.Count", "internal/bytealg.Index"], unfollowed := true, recurses := true, named := ["unicode/utf8.first", "unicode/utf8.acceptRanges", "internal/bytealg.MaxLen"], apart := false, laid := [("unicode/utf8.acceptRanges", laid_unicode_utf8_acceptRanges), ("unicode/utf8.first", laid_unicode_utf8_first)], narrowed := true }
def MendIsUptoSaid : Prop := mendIsUptoRow.holds Tryd.pinned (OpenSpec.upto mendIsSpec)

/-- 'amanuensislaw23.MendRight', WHERE WHAT IT READS IS OF BULK AT MOST 1048576: true; the input reads as it did. -/
def mendRightUptoRow : OpenClaim := { program := "yteapibifebnboaadoor", sum := "98682661d1eca9b2e33390e3d373126acde43ca0578a1126a2f070a6c26130ff", func := "amanuensis/amanuensislaw23.MendRight", spec := "mendRight", inPlace := ["internal/bytealg.MakeNoZero", "internal/bytealg.IndexByte", "internal/bytealg.Count", "internal/bytealg.Index"], unfollowed := true, recurses := true, named := ["unicode/utf8.first", "unicode/utf8.acceptRanges", "internal/bytealg.MaxLen"], apart := false, laid := [("unicode/utf8.acceptRanges", laid_unicode_utf8_acceptRanges), ("unicode/utf8.first", laid_unicode_utf8_first)], narrowed := true }
def MendRightUptoSaid : Prop := mendRightUptoRow.holds Tryd.pinned (OpenSpec.upto mendRightSpec)

/-- 'amanuensislaw23.MendKeeps', WHERE WHAT IT READS IS OF BULK AT MOST 1048576: true; the input reads as it did. -/
def mendKeepsUptoRow : OpenClaim := { program := "yteapibifebnboaadoor", sum := "98682661d1eca9b2e33390e3d373126acde43ca0578a1126a2f070a6c26130ff", func := "amanuensis/amanuensislaw23.MendKeeps", spec := "mendKeeps", inPlace := ["internal/bytealg.MakeNoZero", "internal/bytealg.IndexByte", "internal/bytealg.Count", "internal/bytealg.Index"], unfollowed := true, recurses := true, named := ["unicode/utf8.first", "unicode/utf8.acceptRanges", "internal/bytealg.MaxLen"], apart := false, laid := [("unicode/utf8.acceptRanges", laid_unicode_utf8_acceptRanges), ("unicode/utf8.first", laid_unicode_utf8_first)], narrowed := true }
def MendKeepsUptoSaid : Prop := mendKeepsUptoRow.holds Tryd.pinned (OpenSpec.upto mendKeepsSpec)

/-- 'amanuensislaw23.MendFields', WHERE WHAT IT READS IS OF BULK AT MOST 1048576: true; the input reads as it did. -/
def mendFieldsUptoRow : OpenClaim := { program := "yteapibifebnboaadoor", sum := "98682661d1eca9b2e33390e3d373126acde43ca0578a1126a2f070a6c26130ff", func := "amanuensis/amanuensislaw23.MendFields", spec := "mendFields", inPlace := ["internal/bytealg.MakeNoZero", "internal/bytealg.IndexByte", "internal/bytealg.Count", "internal/bytealg.Index"], unfollowed := true, recurses := true, named := ["unicode/utf8.first", "unicode/utf8.acceptRanges", "internal/bytealg.MaxLen"], apart := false, laid := [("unicode/utf8.acceptRanges", laid_unicode_utf8_acceptRanges), ("unicode/utf8.first", laid_unicode_utf8_first)], narrowed := true }
def MendFieldsUptoSaid : Prop := mendFieldsUptoRow.holds Tryd.pinned (OpenSpec.upto mendFieldsSpec)

/-- 'amanuensislaw23.MendLead', WHERE WHAT IT READS IS OF BULK AT MOST 1048576: true; the input reads as it did. -/
def mendLeadUptoRow : OpenClaim := { program := "yteapibifebnboaadoor", sum := "98682661d1eca9b2e33390e3d373126acde43ca0578a1126a2f070a6c26130ff", func := "amanuensis/amanuensislaw23.MendLead", spec := "mendLead", inPlace := ["internal/bytealg.MakeNoZero", "internal/bytealg.IndexByte", "internal/bytealg.Count", "internal/bytealg.Index"], unfollowed := true, recurses := true, named := ["unicode/utf8.first", "unicode/utf8.acceptRanges", "internal/bytealg.MaxLen"], apart := false, laid := [("unicode/utf8.acceptRanges", laid_unicode_utf8_acceptRanges), ("unicode/utf8.first", laid_unicode_utf8_first)], narrowed := true }
def MendLeadUptoSaid : Prop := mendLeadUptoRow.holds Tryd.pinned (OpenSpec.upto mendLeadSpec)

end Rows
end Go.Proofs.YteapibifebnboaaDoor
