/-
  DERIVED. GIVEN WITH THE SEED: THE CARDS: each row of YtobepddifflpdaaDoorRows.lean that lists a variable, with what it lists TIED to the program's text (the seventh form; the later family's looks); each row that meets fmt, with fmt's text TOLD by the authors' own Lean function (tested against real Go, not proved from fmt's source: count such statements apart). THE CARD IS WHAT COUNTS. Prove the row's statement (the work); the ties are given (YtobepddifflpdaaDoorTie.lean); close each card by the builder's one call (the guide's Derived/Test/ToyasCard.lean, 'card_holds'). Laid BY PROGRAM, IN A SANDBOX (cutbox-door.mjs). By AI agents, Wed Nov 11 2026. No macro, syntax, notation, axiom, sorry.
-/
import Derived.Test.YtobepddifflpdaaDoorRows
import GoSem.ClaimSeven
namespace Go.Proofs.YtobepddifflpdaaDoor
namespace Rows

/-- THE TIED CARD OF 'ostlerlaw10.TilesMakes'. -/
def tilesMakesCard : Claim7 := { stood := { row := tilesMakesRow, standIns := [], harness := (true, "7f0c8b5a0abe5b22b52b8f273aa8656372aef0e4fe0d8ea7af07bac9fec96f77"), looks := true }, kinds := [], alts := [], laidByText := true, laidKinds := [.data, .data, .data], laidTests := true, laidLooks := .later }
def TilesMakesCardSaid : Prop := Claim7.holds Tryd.pinned (.plain (OpenSpec.ofChange tilesMakesSpec)) tilesMakesCard

/-- THE TIED CARD OF 'ostlerlaw10.TilesFails'. -/
def tilesFailsCard : Claim7 := { stood := { row := tilesFailsRow, standIns := [], harness := (true, "7f0c8b5a0abe5b22b52b8f273aa8656372aef0e4fe0d8ea7af07bac9fec96f77"), looks := true }, kinds := [], alts := [], laidByText := true, laidKinds := [.data, .data, .data], laidTests := true, laidLooks := .later }
def TilesFailsCardSaid : Prop := Claim7.holds Tryd.pinned (.plain (OpenSpec.ofChange tilesFailsSpec)) tilesFailsCard

/-- THE TIED CARD OF 'ostlerlaw10.TilesOlder'. -/
def tilesOlderCard : Claim7 := { stood := { row := tilesOlderRow, standIns := [], harness := (true, "7f0c8b5a0abe5b22b52b8f273aa8656372aef0e4fe0d8ea7af07bac9fec96f77"), looks := true }, kinds := [], alts := [], laidByText := true, laidKinds := [.data, .data, .data], laidTests := true, laidLooks := .later }
def TilesOlderCardSaid : Prop := Claim7.holds Tryd.pinned (.plain (OpenSpec.ofChange tilesOlderSpec)) tilesOlderCard

/-- THE TIED CARD OF 'ostlerlaw10.TilesRoots'. -/
def tilesRootsCard : Claim7 := { stood := { row := tilesRootsRow, standIns := [], harness := (true, "7f0c8b5a0abe5b22b52b8f273aa8656372aef0e4fe0d8ea7af07bac9fec96f77"), looks := true }, kinds := [], alts := [], laidByText := true, laidKinds := [.data, .data, .data], laidTests := true, laidLooks := .later }
def TilesRootsCardSaid : Prop := Claim7.holds Tryd.pinned (.plain (OpenSpec.ofChange tilesRootsSpec)) tilesRootsCard

/-- THE TIED CARD OF 'ostlerlaw10.TilesWild'. -/
def tilesWildCard : Claim7 := { stood := { row := tilesWildRow, standIns := [], harness := (true, "7f0c8b5a0abe5b22b52b8f273aa8656372aef0e4fe0d8ea7af07bac9fec96f77"), looks := true }, kinds := [], alts := [], laidByText := true, laidKinds := [.data, .data, .data], laidTests := true, laidLooks := .later }
def TilesWildCardSaid : Prop := Claim7.holds Tryd.pinned (.plain (OpenSpec.ofChange tilesWildSpec)) tilesWildCard

/-- THE TIED CARD OF 'ostlerlaw20.MirrorFull'. -/
def mirrorFullCard : Claim7 := { stood := { row := mirrorFullRow, standIns := [], harness := (true, "7f0c8b5a0abe5b22b52b8f273aa8656372aef0e4fe0d8ea7af07bac9fec96f77"), looks := true }, kinds := [], alts := [], laidByText := true, laidKinds := [.data, .data, .data], laidTests := true, laidLooks := .later }
def MirrorFullCardSaid : Prop := Claim7.holds Tryd.pinned (.plain (OpenSpec.ofChange mirrorFullSpec)) mirrorFullCard

/-- THE TIED CARD OF 'ostlerlaw10.TilesPaths'. -/
def tilesPathsCard : Claim7 := { stood := { row := tilesPathsRow, standIns := [], harness := (true, "7f0c8b5a0abe5b22b52b8f273aa8656372aef0e4fe0d8ea7af07bac9fec96f77"), looks := true }, kinds := [], alts := [], laidByText := true, laidKinds := [.data, .data, .data, .sentinel, .sentinel], laidTests := true, laidLooks := .later }
def TilesPathsCardSaid : Prop := Claim7.holds Tryd.pinned (.plain (OpenSpec.ofChange tilesPathsSpec)) tilesPathsCard

/-- THE SECOND FORM's CARD OF 'ostlerlaw10.TilesMakes'. -/
def tilesMakesUptoCard : Claim7 := { stood := { row := tilesMakesUptoRow, standIns := [], harness := (true, "7f0c8b5a0abe5b22b52b8f273aa8656372aef0e4fe0d8ea7af07bac9fec96f77"), looks := true }, kinds := [], alts := [], laidByText := true, laidKinds := [.data, .data, .data], laidTests := true, laidLooks := .later }
def TilesMakesUptoCardSaid : Prop := Claim7.holds Tryd.pinned (.plain (OpenSpec.upto tilesMakesSpec)) tilesMakesUptoCard

/-- THE SECOND FORM's CARD OF 'ostlerlaw10.TilesFails'. -/
def tilesFailsUptoCard : Claim7 := { stood := { row := tilesFailsUptoRow, standIns := [], harness := (true, "7f0c8b5a0abe5b22b52b8f273aa8656372aef0e4fe0d8ea7af07bac9fec96f77"), looks := true }, kinds := [], alts := [], laidByText := true, laidKinds := [.data, .data, .data], laidTests := true, laidLooks := .later }
def TilesFailsUptoCardSaid : Prop := Claim7.holds Tryd.pinned (.plain (OpenSpec.upto tilesFailsSpec)) tilesFailsUptoCard

/-- THE SECOND FORM's CARD OF 'ostlerlaw10.TilesOlder'. -/
def tilesOlderUptoCard : Claim7 := { stood := { row := tilesOlderUptoRow, standIns := [], harness := (true, "7f0c8b5a0abe5b22b52b8f273aa8656372aef0e4fe0d8ea7af07bac9fec96f77"), looks := true }, kinds := [], alts := [], laidByText := true, laidKinds := [.data, .data, .data], laidTests := true, laidLooks := .later }
def TilesOlderUptoCardSaid : Prop := Claim7.holds Tryd.pinned (.plain (OpenSpec.upto tilesOlderSpec)) tilesOlderUptoCard

/-- THE SECOND FORM's CARD OF 'ostlerlaw10.TilesRoots'. -/
def tilesRootsUptoCard : Claim7 := { stood := { row := tilesRootsUptoRow, standIns := [], harness := (true, "7f0c8b5a0abe5b22b52b8f273aa8656372aef0e4fe0d8ea7af07bac9fec96f77"), looks := true }, kinds := [], alts := [], laidByText := true, laidKinds := [.data, .data, .data], laidTests := true, laidLooks := .later }
def TilesRootsUptoCardSaid : Prop := Claim7.holds Tryd.pinned (.plain (OpenSpec.upto tilesRootsSpec)) tilesRootsUptoCard

/-- THE SECOND FORM's CARD OF 'ostlerlaw10.TilesWild'. -/
def tilesWildUptoCard : Claim7 := { stood := { row := tilesWildUptoRow, standIns := [], harness := (true, "7f0c8b5a0abe5b22b52b8f273aa8656372aef0e4fe0d8ea7af07bac9fec96f77"), looks := true }, kinds := [], alts := [], laidByText := true, laidKinds := [.data, .data, .data], laidTests := true, laidLooks := .later }
def TilesWildUptoCardSaid : Prop := Claim7.holds Tryd.pinned (.plain (OpenSpec.upto tilesWildSpec)) tilesWildUptoCard

/-- THE SECOND FORM's CARD OF 'ostlerlaw20.MirrorFull'. -/
def mirrorFullUptoCard : Claim7 := { stood := { row := mirrorFullUptoRow, standIns := [], harness := (true, "7f0c8b5a0abe5b22b52b8f273aa8656372aef0e4fe0d8ea7af07bac9fec96f77"), looks := true }, kinds := [], alts := [], laidByText := true, laidKinds := [.data, .data, .data], laidTests := true, laidLooks := .later }
def MirrorFullUptoCardSaid : Prop := Claim7.holds Tryd.pinned (.plain (OpenSpec.upto mirrorFullSpec)) mirrorFullUptoCard

/-- THE SECOND FORM's CARD OF 'ostlerlaw10.TilesPaths'. -/
def tilesPathsUptoCard : Claim7 := { stood := { row := tilesPathsUptoRow, standIns := [], harness := (true, "7f0c8b5a0abe5b22b52b8f273aa8656372aef0e4fe0d8ea7af07bac9fec96f77"), looks := true }, kinds := [], alts := [], laidByText := true, laidKinds := [.data, .data, .data, .sentinel, .sentinel], laidTests := true, laidLooks := .later }
def TilesPathsUptoCardSaid : Prop := Claim7.holds Tryd.pinned (.plain (OpenSpec.upto tilesPathsSpec)) tilesPathsUptoCard
end Rows
end Go.Proofs.YtobepddifflpdaaDoor
