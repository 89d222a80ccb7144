/-
  DERIVED. GIVEN WITH THE SEED: THE CARDS: each row of YtmejjphliaiamaaGreatDoorRows.lean that lists a variable, with what it lists TIED to the program's text (the seventh form; the later family's looks); each row that meets fmt, with fmt's text TOLD by the authors' own Lean function (tested against real Go, not proved from fmt's source: count such statements apart). THE CARD IS WHAT COUNTS. Prove the row's statement (the work); the ties are given (YtmejjphliaiamaaGreatDoorTie.lean); close each card by the builder's one call (the guide's Derived/Test/ToyasCard.lean, 'card_holds'). Laid BY PROGRAM, IN A SANDBOX (cutbox-door.mjs). By AI agents, Wed Nov 11 2026. No macro, syntax, notation, axiom, sorry.
-/
import Derived.Test.YtmejjphliaiamaaGreatDoorRows
import GoSem.ClaimSeven
namespace Go.Proofs.YtmejjphliaiamaaGreatDoor
namespace Rows

/-- THE TIED CARD OF 'ostlerlaw14.MetaBack'. -/
def metaBackCard : Claim7 := { stood := { row := metaBackRow, standIns := [], harness := (true, "c93be8f7f5414e4e21a21d7d29e9b061887cdc93d6518adc38a060b00f469a31"), looks := true }, kinds := [], alts := [], laidByText := true, laidKinds := [.data, .data, .data], laidTests := true, laidLooks := .later }
def MetaBackCardSaid : Prop := Claim7.holds Tryz.pinned (.plain (OpenSpec.ofChange metaBackSpec)) metaBackCard

/-- THE TIED CARD OF 'ostlerlaw14.MetaSeals'. -/
def metaSealsCard : Claim7 := { stood := { row := metaSealsRow, standIns := [], harness := (true, "c93be8f7f5414e4e21a21d7d29e9b061887cdc93d6518adc38a060b00f469a31"), looks := true }, kinds := [], alts := [], laidByText := true, laidKinds := [.data, .data, .data], laidTests := true, laidLooks := .later }
def MetaSealsCardSaid : Prop := Claim7.holds Tryz.pinned (.plain (OpenSpec.ofChange metaSealsSpec)) metaSealsCard

/-- THE TIED CARD OF 'ostlerlaw14.MetaOpens'. -/
def metaOpensCard : Claim7 := { stood := { row := metaOpensRow, standIns := [], harness := (true, "c93be8f7f5414e4e21a21d7d29e9b061887cdc93d6518adc38a060b00f469a31"), looks := true }, kinds := [], alts := [], laidByText := true, laidKinds := [.data, .data, .data], laidTests := true, laidLooks := .later }
def MetaOpensCardSaid : Prop := Claim7.holds Tryz.pinned (.plain (OpenSpec.ofChange metaOpensSpec)) metaOpensCard

/-- THE TIED CARD OF 'ostlerlaw14.MetaDocs'. -/
def metaDocsCard : Claim7 := { stood := { row := metaDocsRow, standIns := [], harness := (true, "c93be8f7f5414e4e21a21d7d29e9b061887cdc93d6518adc38a060b00f469a31"), looks := true }, kinds := [], alts := [], laidByText := true, laidKinds := [.data, .data, .data], laidTests := true, laidLooks := .later }
def MetaDocsCardSaid : Prop := Claim7.holds Tryz.pinned (.plain (OpenSpec.ofChange metaDocsSpec)) metaDocsCard

/-- THE TIED CARD OF 'ostlerlaw11.NoteSigned'. -/
def noteSignedCard : Claim7 := { stood := { row := noteSignedRow, standIns := [], harness := (true, "c93be8f7f5414e4e21a21d7d29e9b061887cdc93d6518adc38a060b00f469a31"), looks := true }, kinds := [], alts := [], laidByText := true, laidKinds := [.data, .data, .data, .data, .sentinel, .sentinel, .pinned], laidTests := true, laidLooks := .later }
def NoteSignedCardSaid : Prop := Claim7.holds Tryz.pinned (.plain (OpenSpec.ofChange noteSignedSpec)) noteSignedCard

/-- THE SECOND FORM's CARD OF 'ostlerlaw14.MetaBack'. -/
def metaBackUptoCard : Claim7 := { stood := { row := metaBackUptoRow, standIns := [], harness := (true, "c93be8f7f5414e4e21a21d7d29e9b061887cdc93d6518adc38a060b00f469a31"), looks := true }, kinds := [], alts := [], laidByText := true, laidKinds := [.data, .data, .data], laidTests := true, laidLooks := .later }
def MetaBackUptoCardSaid : Prop := Claim7.holds Tryz.pinned (.plain (OpenSpec.upto metaBackSpec)) metaBackUptoCard

/-- THE SECOND FORM's CARD OF 'ostlerlaw14.MetaSeals'. -/
def metaSealsUptoCard : Claim7 := { stood := { row := metaSealsUptoRow, standIns := [], harness := (true, "c93be8f7f5414e4e21a21d7d29e9b061887cdc93d6518adc38a060b00f469a31"), looks := true }, kinds := [], alts := [], laidByText := true, laidKinds := [.data, .data, .data], laidTests := true, laidLooks := .later }
def MetaSealsUptoCardSaid : Prop := Claim7.holds Tryz.pinned (.plain (OpenSpec.upto metaSealsSpec)) metaSealsUptoCard

/-- THE SECOND FORM's CARD OF 'ostlerlaw14.MetaOpens'. -/
def metaOpensUptoCard : Claim7 := { stood := { row := metaOpensUptoRow, standIns := [], harness := (true, "c93be8f7f5414e4e21a21d7d29e9b061887cdc93d6518adc38a060b00f469a31"), looks := true }, kinds := [], alts := [], laidByText := true, laidKinds := [.data, .data, .data], laidTests := true, laidLooks := .later }
def MetaOpensUptoCardSaid : Prop := Claim7.holds Tryz.pinned (.plain (OpenSpec.upto metaOpensSpec)) metaOpensUptoCard

/-- THE SECOND FORM's CARD OF 'ostlerlaw14.MetaDocs'. -/
def metaDocsUptoCard : Claim7 := { stood := { row := metaDocsUptoRow, standIns := [], harness := (true, "c93be8f7f5414e4e21a21d7d29e9b061887cdc93d6518adc38a060b00f469a31"), looks := true }, kinds := [], alts := [], laidByText := true, laidKinds := [.data, .data, .data], laidTests := true, laidLooks := .later }
def MetaDocsUptoCardSaid : Prop := Claim7.holds Tryz.pinned (.plain (OpenSpec.upto metaDocsSpec)) metaDocsUptoCard

/-- THE SECOND FORM's CARD OF 'ostlerlaw11.NoteSigned'. -/
def noteSignedUptoCard : Claim7 := { stood := { row := noteSignedUptoRow, standIns := [], harness := (true, "c93be8f7f5414e4e21a21d7d29e9b061887cdc93d6518adc38a060b00f469a31"), looks := true }, kinds := [], alts := [], laidByText := true, laidKinds := [.data, .data, .data, .data, .sentinel, .sentinel, .pinned], laidTests := true, laidLooks := .later }
def NoteSignedUptoCardSaid : Prop := Claim7.holds Tryz.pinned (.plain (OpenSpec.upto noteSignedSpec)) noteSignedUptoCard
end Rows
end Go.Proofs.YtmejjphliaiamaaGreatDoor
