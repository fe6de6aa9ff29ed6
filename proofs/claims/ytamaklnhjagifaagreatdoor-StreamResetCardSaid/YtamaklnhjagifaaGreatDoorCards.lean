/-
  DERIVED. GIVEN WITH THE SEED: THE CARDS: each row of YtamaklnhjagifaaGreatDoorRows.lean that lists a variable, with what it lists TIED to the program's text (the seventh form; the later family's looks); each row that meets fmt, with fmt's text TOLD by the authors' own Lean function (tested against real Go, not proved from fmt's source: count such statements apart). THE CARD IS WHAT COUNTS. Prove the row's statement (the work); the ties are given (YtamaklnhjagifaaGreatDoorTie.lean); close each card by the builder's one call (the guide's Derived/Test/ToyasCard.lean, 'card_holds'). Laid BY PROGRAM, IN A SANDBOX (cutbox-door.mjs). By AI agents, Wed Nov 11 2026. No macro, syntax, notation, axiom, sorry.
-/
import Derived.Test.YtamaklnhjagifaaGreatDoorRows
import GoSem.ClaimSeven
namespace Go.Proofs.YtamaklnhjagifaaGreatDoor
namespace Rows

/-- THE TIED CARD OF 'dominolaw16.StreamLimit'. -/
def streamLimitCard : Claim7 := { stood := { row := streamLimitRow, standIns := [], harness := (true, "925ab14a6ff5c654884842bc07cd8d9e12b4bff027cf1a1b23f5725f63cb080e"), looks := false }, kinds := [], alts := [], laidByText := true, laidKinds := [.data, .data], laidTests := true, laidLooks := .later }
def StreamLimitCardSaid : Prop := Claim7.holds Tryz.pinned (.plain (OpenSpec.ofChange streamLimitSpec)) streamLimitCard

/-- THE TIED CARD OF 'dominolaw16.StreamCredit'. -/
def streamCreditCard : Claim7 := { stood := { row := streamCreditRow, standIns := [], harness := (true, "925ab14a6ff5c654884842bc07cd8d9e12b4bff027cf1a1b23f5725f63cb080e"), looks := false }, kinds := [], alts := [], laidByText := true, laidKinds := [.data, .data], laidTests := true, laidLooks := .later }
def StreamCreditCardSaid : Prop := Claim7.holds Tryz.pinned (.plain (OpenSpec.ofChange streamCreditSpec)) streamCreditCard

/-- THE TIED CARD OF 'dominolaw16.StreamBroken'. -/
def streamBrokenCard : Claim7 := { stood := { row := streamBrokenRow, standIns := [], harness := (true, "925ab14a6ff5c654884842bc07cd8d9e12b4bff027cf1a1b23f5725f63cb080e"), looks := false }, kinds := [], alts := [], laidByText := true, laidKinds := [.data, .data], laidTests := true, laidLooks := .later }
def StreamBrokenCardSaid : Prop := Claim7.holds Tryz.pinned (.plain (OpenSpec.ofChange streamBrokenSpec)) streamBrokenCard

/-- THE TIED CARD OF 'dominolaw16.StreamReset'. -/
def streamResetCard : Claim7 := { stood := { row := streamResetRow, standIns := [], harness := (true, "925ab14a6ff5c654884842bc07cd8d9e12b4bff027cf1a1b23f5725f63cb080e"), looks := false }, kinds := [], alts := [], laidByText := true, laidKinds := [.data, .data], laidTests := true, laidLooks := .later }
def StreamResetCardSaid : Prop := Claim7.holds Tryz.pinned (.plain (OpenSpec.ofChange streamResetSpec)) streamResetCard

/-- THE TIED CARD OF 'dominolaw16.StreamActs'. -/
def streamActsCard : Claim7 := { stood := { row := streamActsRow, standIns := [], harness := (true, "925ab14a6ff5c654884842bc07cd8d9e12b4bff027cf1a1b23f5725f63cb080e"), looks := false }, kinds := [], alts := [], laidByText := true, laidKinds := [.data, .data], laidTests := true, laidLooks := .later }
def StreamActsCardSaid : Prop := Claim7.holds Tryz.pinned (.plain (OpenSpec.ofChange streamActsSpec)) streamActsCard

/-- THE TIED CARD OF 'dominolaw17.FlowTurns'. -/
def flowTurnsCard : Claim7 := { stood := { row := flowTurnsRow, standIns := [], harness := (true, "925ab14a6ff5c654884842bc07cd8d9e12b4bff027cf1a1b23f5725f63cb080e"), looks := false }, kinds := [], alts := [], laidByText := true, laidKinds := [.data, .data], laidTests := true, laidLooks := .later }
def FlowTurnsCardSaid : Prop := Claim7.holds Tryz.pinned (.plain (OpenSpec.ofChange flowTurnsSpec)) flowTurnsCard

/-- THE TIED CARD OF 'dominolaw17.FlowOpen'. -/
def flowOpenCard : Claim7 := { stood := { row := flowOpenRow, standIns := [], harness := (true, "925ab14a6ff5c654884842bc07cd8d9e12b4bff027cf1a1b23f5725f63cb080e"), looks := false }, kinds := [], alts := [], laidByText := true, laidKinds := [.data, .data], laidTests := true, laidLooks := .later }
def FlowOpenCardSaid : Prop := Claim7.holds Tryz.pinned (.plain (OpenSpec.ofChange flowOpenSpec)) flowOpenCard

/-- THE TIED CARD OF 'dominolaw17.FlowCredit'. -/
def flowCreditCard : Claim7 := { stood := { row := flowCreditRow, standIns := [], harness := (true, "925ab14a6ff5c654884842bc07cd8d9e12b4bff027cf1a1b23f5725f63cb080e"), looks := false }, kinds := [], alts := [], laidByText := true, laidKinds := [.data, .data], laidTests := true, laidLooks := .later }
def FlowCreditCardSaid : Prop := Claim7.holds Tryz.pinned (.plain (OpenSpec.ofChange flowCreditSpec)) flowCreditCard

/-- THE TIED CARD OF 'dominolaw17.FlowRights'. -/
def flowRightsCard : Claim7 := { stood := { row := flowRightsRow, standIns := [], harness := (true, "925ab14a6ff5c654884842bc07cd8d9e12b4bff027cf1a1b23f5725f63cb080e"), looks := false }, kinds := [], alts := [], laidByText := true, laidKinds := [.data, .data], laidTests := true, laidLooks := .later }
def FlowRightsCardSaid : Prop := Claim7.holds Tryz.pinned (.plain (OpenSpec.ofChange flowRightsSpec)) flowRightsCard

/-- THE TIED CARD OF 'dominolaw17.FlowLost'. -/
def flowLostCard : Claim7 := { stood := { row := flowLostRow, standIns := [], harness := (true, "925ab14a6ff5c654884842bc07cd8d9e12b4bff027cf1a1b23f5725f63cb080e"), looks := false }, kinds := [], alts := [], laidByText := true, laidKinds := [.data, .data], laidTests := true, laidLooks := .later }
def FlowLostCardSaid : Prop := Claim7.holds Tryz.pinned (.plain (OpenSpec.ofChange flowLostSpec)) flowLostCard

/-- THE TIED CARD OF 'dominolaw17.FlowActs'. -/
def flowActsCard : Claim7 := { stood := { row := flowActsRow, standIns := [], harness := (true, "925ab14a6ff5c654884842bc07cd8d9e12b4bff027cf1a1b23f5725f63cb080e"), looks := false }, kinds := [], alts := [], laidByText := true, laidKinds := [.data, .data], laidTests := true, laidLooks := .later }
def FlowActsCardSaid : Prop := Claim7.holds Tryz.pinned (.plain (OpenSpec.ofChange flowActsSpec)) flowActsCard

/-- THE SECOND FORM's CARD OF 'dominolaw16.StreamLimit'. -/
def streamLimitUptoCard : Claim7 := { stood := { row := streamLimitUptoRow, standIns := [], harness := (true, "925ab14a6ff5c654884842bc07cd8d9e12b4bff027cf1a1b23f5725f63cb080e"), looks := false }, kinds := [], alts := [], laidByText := true, laidKinds := [.data, .data], laidTests := true, laidLooks := .later }
def StreamLimitUptoCardSaid : Prop := Claim7.holds Tryz.pinned (.plain (OpenSpec.upto streamLimitSpec)) streamLimitUptoCard

/-- THE SECOND FORM's CARD OF 'dominolaw16.StreamCredit'. -/
def streamCreditUptoCard : Claim7 := { stood := { row := streamCreditUptoRow, standIns := [], harness := (true, "925ab14a6ff5c654884842bc07cd8d9e12b4bff027cf1a1b23f5725f63cb080e"), looks := false }, kinds := [], alts := [], laidByText := true, laidKinds := [.data, .data], laidTests := true, laidLooks := .later }
def StreamCreditUptoCardSaid : Prop := Claim7.holds Tryz.pinned (.plain (OpenSpec.upto streamCreditSpec)) streamCreditUptoCard

/-- THE SECOND FORM's CARD OF 'dominolaw16.StreamBroken'. -/
def streamBrokenUptoCard : Claim7 := { stood := { row := streamBrokenUptoRow, standIns := [], harness := (true, "925ab14a6ff5c654884842bc07cd8d9e12b4bff027cf1a1b23f5725f63cb080e"), looks := false }, kinds := [], alts := [], laidByText := true, laidKinds := [.data, .data], laidTests := true, laidLooks := .later }
def StreamBrokenUptoCardSaid : Prop := Claim7.holds Tryz.pinned (.plain (OpenSpec.upto streamBrokenSpec)) streamBrokenUptoCard

/-- THE SECOND FORM's CARD OF 'dominolaw16.StreamReset'. -/
def streamResetUptoCard : Claim7 := { stood := { row := streamResetUptoRow, standIns := [], harness := (true, "925ab14a6ff5c654884842bc07cd8d9e12b4bff027cf1a1b23f5725f63cb080e"), looks := false }, kinds := [], alts := [], laidByText := true, laidKinds := [.data, .data], laidTests := true, laidLooks := .later }
def StreamResetUptoCardSaid : Prop := Claim7.holds Tryz.pinned (.plain (OpenSpec.upto streamResetSpec)) streamResetUptoCard

/-- THE SECOND FORM's CARD OF 'dominolaw16.StreamActs'. -/
def streamActsUptoCard : Claim7 := { stood := { row := streamActsUptoRow, standIns := [], harness := (true, "925ab14a6ff5c654884842bc07cd8d9e12b4bff027cf1a1b23f5725f63cb080e"), looks := false }, kinds := [], alts := [], laidByText := true, laidKinds := [.data, .data], laidTests := true, laidLooks := .later }
def StreamActsUptoCardSaid : Prop := Claim7.holds Tryz.pinned (.plain (OpenSpec.upto streamActsSpec)) streamActsUptoCard

/-- THE SECOND FORM's CARD OF 'dominolaw17.FlowTurns'. -/
def flowTurnsUptoCard : Claim7 := { stood := { row := flowTurnsUptoRow, standIns := [], harness := (true, "925ab14a6ff5c654884842bc07cd8d9e12b4bff027cf1a1b23f5725f63cb080e"), looks := false }, kinds := [], alts := [], laidByText := true, laidKinds := [.data, .data], laidTests := true, laidLooks := .later }
def FlowTurnsUptoCardSaid : Prop := Claim7.holds Tryz.pinned (.plain (OpenSpec.upto flowTurnsSpec)) flowTurnsUptoCard

/-- THE SECOND FORM's CARD OF 'dominolaw17.FlowOpen'. -/
def flowOpenUptoCard : Claim7 := { stood := { row := flowOpenUptoRow, standIns := [], harness := (true, "925ab14a6ff5c654884842bc07cd8d9e12b4bff027cf1a1b23f5725f63cb080e"), looks := false }, kinds := [], alts := [], laidByText := true, laidKinds := [.data, .data], laidTests := true, laidLooks := .later }
def FlowOpenUptoCardSaid : Prop := Claim7.holds Tryz.pinned (.plain (OpenSpec.upto flowOpenSpec)) flowOpenUptoCard

/-- THE SECOND FORM's CARD OF 'dominolaw17.FlowCredit'. -/
def flowCreditUptoCard : Claim7 := { stood := { row := flowCreditUptoRow, standIns := [], harness := (true, "925ab14a6ff5c654884842bc07cd8d9e12b4bff027cf1a1b23f5725f63cb080e"), looks := false }, kinds := [], alts := [], laidByText := true, laidKinds := [.data, .data], laidTests := true, laidLooks := .later }
def FlowCreditUptoCardSaid : Prop := Claim7.holds Tryz.pinned (.plain (OpenSpec.upto flowCreditSpec)) flowCreditUptoCard

/-- THE SECOND FORM's CARD OF 'dominolaw17.FlowRights'. -/
def flowRightsUptoCard : Claim7 := { stood := { row := flowRightsUptoRow, standIns := [], harness := (true, "925ab14a6ff5c654884842bc07cd8d9e12b4bff027cf1a1b23f5725f63cb080e"), looks := false }, kinds := [], alts := [], laidByText := true, laidKinds := [.data, .data], laidTests := true, laidLooks := .later }
def FlowRightsUptoCardSaid : Prop := Claim7.holds Tryz.pinned (.plain (OpenSpec.upto flowRightsSpec)) flowRightsUptoCard

/-- THE SECOND FORM's CARD OF 'dominolaw17.FlowLost'. -/
def flowLostUptoCard : Claim7 := { stood := { row := flowLostUptoRow, standIns := [], harness := (true, "925ab14a6ff5c654884842bc07cd8d9e12b4bff027cf1a1b23f5725f63cb080e"), looks := false }, kinds := [], alts := [], laidByText := true, laidKinds := [.data, .data], laidTests := true, laidLooks := .later }
def FlowLostUptoCardSaid : Prop := Claim7.holds Tryz.pinned (.plain (OpenSpec.upto flowLostSpec)) flowLostUptoCard

/-- THE SECOND FORM's CARD OF 'dominolaw17.FlowActs'. -/
def flowActsUptoCard : Claim7 := { stood := { row := flowActsUptoRow, standIns := [], harness := (true, "925ab14a6ff5c654884842bc07cd8d9e12b4bff027cf1a1b23f5725f63cb080e"), looks := false }, kinds := [], alts := [], laidByText := true, laidKinds := [.data, .data], laidTests := true, laidLooks := .later }
def FlowActsUptoCardSaid : Prop := Claim7.holds Tryz.pinned (.plain (OpenSpec.upto flowActsSpec)) flowActsUptoCard
end Rows
end Go.Proofs.YtamaklnhjagifaaGreatDoor
