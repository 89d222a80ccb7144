/-
  DERIVED. GIVEN WITH THE SEED: THE CARDS: each row of YtffolbdimkhmmaaDoorRows.lean that lists a variable, with what it lists TIED to the program's text (the seventh form; the later family's looks); each row that meets fmt, with fmt's text TOLD by the authors' own Lean function (tested against real Go, not proved from fmt's source: count such statements apart). THE CARD IS WHAT COUNTS. Prove the row's statement (the work); the ties are given (YtffolbdimkhmmaaDoorTie.lean); close each card by the builder's one call (the guide's Derived/Test/ToyasCard.lean, 'card_holds'). Laid BY PROGRAM, IN A SANDBOX (cutbox-door.mjs). By AI agents, Wed Nov 11 2026. No macro, syntax, notation, axiom, sorry.
-/
import Derived.Test.YtffolbdimkhmmaaDoorRows
import GoSem.ClaimSeven
namespace Go.Proofs.YtffolbdimkhmmaaDoor
namespace Rows

/-- THE TIED CARD OF 'ostlerlaw26.ScriptParses'. -/
def scriptParsesCard : Claim7 := { stood := { row := scriptParsesRow, standIns := [], harness := (true, "0acbd8782b09f65ad32a7cd93295a1314f1f4affe54538a106ad677359ee19ee"), looks := true }, kinds := [], alts := [], laidByText := true, laidKinds := [.data, .data, .data, .data, .sentinel, .sentinel, .pinned], laidTests := true, laidLooks := .later }
def ScriptParsesCardSaid : Prop := Claim7.holds Tryd.pinned (.plain (OpenSpec.ofChange scriptParsesSpec)) scriptParsesCard

/-- THE TIED CARD OF 'ostlerlaw26.ScriptTexts'. -/
def scriptTextsCard : Claim7 := { stood := { row := scriptTextsRow, standIns := [], harness := (true, "0acbd8782b09f65ad32a7cd93295a1314f1f4affe54538a106ad677359ee19ee"), looks := true }, kinds := [], alts := [], laidByText := true, laidKinds := [.data, .data, .data, .data, .sentinel, .sentinel, .pinned], laidTests := true, laidLooks := .later }
def ScriptTextsCardSaid : Prop := Claim7.holds Tryd.pinned (.plain (OpenSpec.ofChange scriptTextsSpec)) scriptTextsCard

/-- THE TIED CARD OF 'ostlerlaw26.ScriptBack'. -/
def scriptBackCard : Claim7 := { stood := { row := scriptBackRow, standIns := [], harness := (true, "0acbd8782b09f65ad32a7cd93295a1314f1f4affe54538a106ad677359ee19ee"), looks := true }, kinds := [], alts := [], laidByText := true, laidKinds := [.data, .data, .data, .data, .sentinel, .sentinel, .pinned], laidTests := true, laidLooks := .later }
def ScriptBackCardSaid : Prop := Claim7.holds Tryd.pinned (.plain (OpenSpec.ofChange scriptBackSpec)) scriptBackCard

/-- THE TIED CARD OF 'ostlerlaw26.ScriptLoose'. -/
def scriptLooseCard : Claim7 := { stood := { row := scriptLooseRow, standIns := [], harness := (true, "0acbd8782b09f65ad32a7cd93295a1314f1f4affe54538a106ad677359ee19ee"), looks := true }, kinds := [], alts := [], laidByText := true, laidKinds := [.data, .data, .data, .data, .sentinel, .sentinel, .pinned], laidTests := true, laidLooks := .later }
def ScriptLooseCardSaid : Prop := Claim7.holds Tryd.pinned (.plain (OpenSpec.ofChange scriptLooseSpec)) scriptLooseCard

/-- THE TIED CARD OF 'ostlerlaw26.ScriptLimits'. -/
def scriptLimitsCard : Claim7 := { stood := { row := scriptLimitsRow, standIns := [], harness := (true, "0acbd8782b09f65ad32a7cd93295a1314f1f4affe54538a106ad677359ee19ee"), looks := true }, kinds := [], alts := [], laidByText := true, laidKinds := [.data, .data, .data, .data, .sentinel, .sentinel, .pinned], laidTests := true, laidLooks := .later }
def ScriptLimitsCardSaid : Prop := Claim7.holds Tryd.pinned (.plain (OpenSpec.ofChange scriptLimitsSpec)) scriptLimitsCard

/-- THE SECOND FORM's CARD OF 'ostlerlaw26.ScriptParses'. -/
def scriptParsesUptoCard : Claim7 := { stood := { row := scriptParsesUptoRow, standIns := [], harness := (true, "0acbd8782b09f65ad32a7cd93295a1314f1f4affe54538a106ad677359ee19ee"), looks := true }, kinds := [], alts := [], laidByText := true, laidKinds := [.data, .data, .data, .data, .sentinel, .sentinel, .pinned], laidTests := true, laidLooks := .later }
def ScriptParsesUptoCardSaid : Prop := Claim7.holds Tryd.pinned (.plain (OpenSpec.upto scriptParsesSpec)) scriptParsesUptoCard

/-- THE SECOND FORM's CARD OF 'ostlerlaw26.ScriptTexts'. -/
def scriptTextsUptoCard : Claim7 := { stood := { row := scriptTextsUptoRow, standIns := [], harness := (true, "0acbd8782b09f65ad32a7cd93295a1314f1f4affe54538a106ad677359ee19ee"), looks := true }, kinds := [], alts := [], laidByText := true, laidKinds := [.data, .data, .data, .data, .sentinel, .sentinel, .pinned], laidTests := true, laidLooks := .later }
def ScriptTextsUptoCardSaid : Prop := Claim7.holds Tryd.pinned (.plain (OpenSpec.upto scriptTextsSpec)) scriptTextsUptoCard

/-- THE SECOND FORM's CARD OF 'ostlerlaw26.ScriptBack'. -/
def scriptBackUptoCard : Claim7 := { stood := { row := scriptBackUptoRow, standIns := [], harness := (true, "0acbd8782b09f65ad32a7cd93295a1314f1f4affe54538a106ad677359ee19ee"), looks := true }, kinds := [], alts := [], laidByText := true, laidKinds := [.data, .data, .data, .data, .sentinel, .sentinel, .pinned], laidTests := true, laidLooks := .later }
def ScriptBackUptoCardSaid : Prop := Claim7.holds Tryd.pinned (.plain (OpenSpec.upto scriptBackSpec)) scriptBackUptoCard

/-- THE SECOND FORM's CARD OF 'ostlerlaw26.ScriptLoose'. -/
def scriptLooseUptoCard : Claim7 := { stood := { row := scriptLooseUptoRow, standIns := [], harness := (true, "0acbd8782b09f65ad32a7cd93295a1314f1f4affe54538a106ad677359ee19ee"), looks := true }, kinds := [], alts := [], laidByText := true, laidKinds := [.data, .data, .data, .data, .sentinel, .sentinel, .pinned], laidTests := true, laidLooks := .later }
def ScriptLooseUptoCardSaid : Prop := Claim7.holds Tryd.pinned (.plain (OpenSpec.upto scriptLooseSpec)) scriptLooseUptoCard

/-- THE SECOND FORM's CARD OF 'ostlerlaw26.ScriptLimits'. -/
def scriptLimitsUptoCard : Claim7 := { stood := { row := scriptLimitsUptoRow, standIns := [], harness := (true, "0acbd8782b09f65ad32a7cd93295a1314f1f4affe54538a106ad677359ee19ee"), looks := true }, kinds := [], alts := [], laidByText := true, laidKinds := [.data, .data, .data, .data, .sentinel, .sentinel, .pinned], laidTests := true, laidLooks := .later }
def ScriptLimitsUptoCardSaid : Prop := Claim7.holds Tryd.pinned (.plain (OpenSpec.upto scriptLimitsSpec)) scriptLimitsUptoCard
end Rows
end Go.Proofs.YtffolbdimkhmmaaDoor
