/-
  DERIVED. GIVEN WITH THE SEED: THE CARDS: each row of YteapibifebnboaaDoorRows.lean that lists a variable, with what it lists TIED to the program's text (the seventh form; the later family's looks); each row that meets fmt, with fmt's text TOLD by the authors' own Lean function (tested against real Go, not proved from fmt's source: count such statements apart). THE CARD IS WHAT COUNTS. Prove the row's statement (the work); the ties are given (YteapibifebnboaaDoorTie.lean); close each card by the builder's one call (the guide's Derived/Test/ToyasCard.lean, 'card_holds'). Laid BY PROGRAM, IN A SANDBOX (cutbox-door.mjs). By AI agents, Wed Nov 11 2026. No macro, syntax, notation, axiom, sorry.
-/
import Derived.Test.YteapibifebnboaaDoorRows
import GoSem.ClaimSeven
namespace Go.Proofs.YteapibifebnboaaDoor
namespace Rows

/-- THE TIED CARD OF 'amanuensislaw23.MendIs'. -/
def mendIsCard : Claim7 := { stood := { row := mendIsRow, standIns := [], harness := (true, "af6fb33851310334311184279da92b0b8cfe021dfb0e90e736a38436205a7b92"), looks := false }, kinds := [], alts := [], laidByText := true, laidKinds := [.data, .pinned], laidTests := true, laidLooks := .later }
def MendIsCardSaid : Prop := Claim7.holds Tryd.pinned (.plain (OpenSpec.ofChange mendIsSpec)) mendIsCard

/-- THE TIED CARD OF 'amanuensislaw23.MendRight'. -/
def mendRightCard : Claim7 := { stood := { row := mendRightRow, standIns := [], harness := (true, "af6fb33851310334311184279da92b0b8cfe021dfb0e90e736a38436205a7b92"), looks := false }, kinds := [], alts := [], laidByText := true, laidKinds := [.data, .pinned], laidTests := true, laidLooks := .later }
def MendRightCardSaid : Prop := Claim7.holds Tryd.pinned (.plain (OpenSpec.ofChange mendRightSpec)) mendRightCard

/-- THE TIED CARD OF 'amanuensislaw23.MendKeeps'. -/
def mendKeepsCard : Claim7 := { stood := { row := mendKeepsRow, standIns := [], harness := (true, "af6fb33851310334311184279da92b0b8cfe021dfb0e90e736a38436205a7b92"), looks := false }, kinds := [], alts := [], laidByText := true, laidKinds := [.data, .pinned], laidTests := true, laidLooks := .later }
def MendKeepsCardSaid : Prop := Claim7.holds Tryd.pinned (.plain (OpenSpec.ofChange mendKeepsSpec)) mendKeepsCard

/-- THE TIED CARD OF 'amanuensislaw23.MendFields'. -/
def mendFieldsCard : Claim7 := { stood := { row := mendFieldsRow, standIns := [], harness := (true, "af6fb33851310334311184279da92b0b8cfe021dfb0e90e736a38436205a7b92"), looks := false }, kinds := [], alts := [], laidByText := true, laidKinds := [.data, .pinned], laidTests := true, laidLooks := .later }
def MendFieldsCardSaid : Prop := Claim7.holds Tryd.pinned (.plain (OpenSpec.ofChange mendFieldsSpec)) mendFieldsCard

/-- THE TIED CARD OF 'amanuensislaw23.MendLead'. -/
def mendLeadCard : Claim7 := { stood := { row := mendLeadRow, standIns := [], harness := (true, "af6fb33851310334311184279da92b0b8cfe021dfb0e90e736a38436205a7b92"), looks := false }, kinds := [], alts := [], laidByText := true, laidKinds := [.data, .pinned], laidTests := true, laidLooks := .later }
def MendLeadCardSaid : Prop := Claim7.holds Tryd.pinned (.plain (OpenSpec.ofChange mendLeadSpec)) mendLeadCard

/-- THE SECOND FORM's CARD OF 'amanuensislaw23.MendIs'. -/
def mendIsUptoCard : Claim7 := { stood := { row := mendIsUptoRow, standIns := [], harness := (true, "af6fb33851310334311184279da92b0b8cfe021dfb0e90e736a38436205a7b92"), looks := false }, kinds := [], alts := [], laidByText := true, laidKinds := [.data, .pinned], laidTests := true, laidLooks := .later }
def MendIsUptoCardSaid : Prop := Claim7.holds Tryd.pinned (.plain (OpenSpec.upto mendIsSpec)) mendIsUptoCard

/-- THE SECOND FORM's CARD OF 'amanuensislaw23.MendRight'. -/
def mendRightUptoCard : Claim7 := { stood := { row := mendRightUptoRow, standIns := [], harness := (true, "af6fb33851310334311184279da92b0b8cfe021dfb0e90e736a38436205a7b92"), looks := false }, kinds := [], alts := [], laidByText := true, laidKinds := [.data, .pinned], laidTests := true, laidLooks := .later }
def MendRightUptoCardSaid : Prop := Claim7.holds Tryd.pinned (.plain (OpenSpec.upto mendRightSpec)) mendRightUptoCard

/-- THE SECOND FORM's CARD OF 'amanuensislaw23.MendKeeps'. -/
def mendKeepsUptoCard : Claim7 := { stood := { row := mendKeepsUptoRow, standIns := [], harness := (true, "af6fb33851310334311184279da92b0b8cfe021dfb0e90e736a38436205a7b92"), looks := false }, kinds := [], alts := [], laidByText := true, laidKinds := [.data, .pinned], laidTests := true, laidLooks := .later }
def MendKeepsUptoCardSaid : Prop := Claim7.holds Tryd.pinned (.plain (OpenSpec.upto mendKeepsSpec)) mendKeepsUptoCard

/-- THE SECOND FORM's CARD OF 'amanuensislaw23.MendFields'. -/
def mendFieldsUptoCard : Claim7 := { stood := { row := mendFieldsUptoRow, standIns := [], harness := (true, "af6fb33851310334311184279da92b0b8cfe021dfb0e90e736a38436205a7b92"), looks := false }, kinds := [], alts := [], laidByText := true, laidKinds := [.data, .pinned], laidTests := true, laidLooks := .later }
def MendFieldsUptoCardSaid : Prop := Claim7.holds Tryd.pinned (.plain (OpenSpec.upto mendFieldsSpec)) mendFieldsUptoCard

/-- THE SECOND FORM's CARD OF 'amanuensislaw23.MendLead'. -/
def mendLeadUptoCard : Claim7 := { stood := { row := mendLeadUptoRow, standIns := [], harness := (true, "af6fb33851310334311184279da92b0b8cfe021dfb0e90e736a38436205a7b92"), looks := false }, kinds := [], alts := [], laidByText := true, laidKinds := [.data, .pinned], laidTests := true, laidLooks := .later }
def MendLeadUptoCardSaid : Prop := Claim7.holds Tryd.pinned (.plain (OpenSpec.upto mendLeadSpec)) mendLeadUptoCard
end Rows
end Go.Proofs.YteapibifebnboaaDoor
