/-
  DERIVED. GIVEN WITH THE SEED: THE CARDS: each row of YtmejjphliaiamaaDoorRows.lean that lists a variable, with what it lists TIED to the program's text (the seventh form; the later family's looks); each row that meets fmt, with fmt's text TOLD by the authors' own Lean function (tested against real Go, not proved from fmt's source: count such statements apart). THE CARD IS WHAT COUNTS. Prove the row's statement (the work); the ties are given (YtmejjphliaiamaaDoorTie.lean); close each card by the builder's one call (the guide's Derived/Test/ToyasCard.lean, 'card_holds'). Laid BY PROGRAM, IN A SANDBOX (cutbox-door.mjs). By AI agents, Wed Nov 11 2026. No macro, syntax, notation, axiom, sorry.
-/
import Derived.Test.YtmejjphliaiamaaDoorRows
import GoSem.ClaimSeven
namespace Go.Proofs.YtmejjphliaiamaaDoor
namespace Rows

/-- THE TIED CARD OF 'ostlerlaw11.NoteCheckpoints'. -/
def noteCheckpointsCard : Claim7 := { stood := { row := noteCheckpointsRow, standIns := [], harness := (true, "b5acaf7acb20bea0e5d0d26081b2ec71b55f260aaab2771ad84beeeb115c1ac1"), looks := true }, kinds := [], alts := [], laidByText := true, laidKinds := [.data, .data, .data, .data, .sentinel, .sentinel, .pinned], laidTests := true, laidLooks := .later }
def NoteCheckpointsCardSaid : Prop := Claim7.holds Tryd.pinned (.plain (OpenSpec.ofChange noteCheckpointsSpec)) noteCheckpointsCard

/-- THE TIED CARD OF 'ostlerlaw11.NoteFormats'. -/
def noteFormatsCard : Claim7 := { stood := { row := noteFormatsRow, standIns := [], harness := (true, "b5acaf7acb20bea0e5d0d26081b2ec71b55f260aaab2771ad84beeeb115c1ac1"), looks := true }, kinds := [], alts := [], laidByText := true, laidKinds := [.data, .data, .data, .data, .sentinel, .sentinel, .pinned], laidTests := true, laidLooks := .later }
def NoteFormatsCardSaid : Prop := Claim7.holds Tryd.pinned (.plain (OpenSpec.ofChange noteFormatsSpec)) noteFormatsCard

/-- THE TIED CARD OF 'ostlerlaw11.NoteReads'. -/
def noteReadsCard : Claim7 := { stood := { row := noteReadsRow, standIns := [], harness := (true, "b5acaf7acb20bea0e5d0d26081b2ec71b55f260aaab2771ad84beeeb115c1ac1"), looks := true }, kinds := [], alts := [], laidByText := true, laidKinds := [.data, .data, .data, .data, .sentinel, .sentinel, .pinned], laidTests := true, laidLooks := .later }
def NoteReadsCardSaid : Prop := Claim7.holds Tryd.pinned (.plain (OpenSpec.ofChange noteReadsSpec)) noteReadsCard

/-- THE TIED CARD OF 'ostlerlaw11.NoteAdds'. -/
def noteAddsCard : Claim7 := { stood := { row := noteAddsRow, standIns := [], harness := (true, "b5acaf7acb20bea0e5d0d26081b2ec71b55f260aaab2771ad84beeeb115c1ac1"), looks := true }, kinds := [], alts := [], laidByText := true, laidKinds := [.data, .data, .data, .data, .sentinel, .sentinel, .pinned], laidTests := true, laidLooks := .later }
def NoteAddsCardSaid : Prop := Claim7.holds Tryd.pinned (.plain (OpenSpec.ofChange noteAddsSpec)) noteAddsCard

/-- THE SECOND FORM's CARD OF 'ostlerlaw11.NoteCheckpoints'. -/
def noteCheckpointsUptoCard : Claim7 := { stood := { row := noteCheckpointsUptoRow, standIns := [], harness := (true, "b5acaf7acb20bea0e5d0d26081b2ec71b55f260aaab2771ad84beeeb115c1ac1"), looks := true }, kinds := [], alts := [], laidByText := true, laidKinds := [.data, .data, .data, .data, .sentinel, .sentinel, .pinned], laidTests := true, laidLooks := .later }
def NoteCheckpointsUptoCardSaid : Prop := Claim7.holds Tryd.pinned (.plain (OpenSpec.upto noteCheckpointsSpec)) noteCheckpointsUptoCard

/-- THE SECOND FORM's CARD OF 'ostlerlaw11.NoteFormats'. -/
def noteFormatsUptoCard : Claim7 := { stood := { row := noteFormatsUptoRow, standIns := [], harness := (true, "b5acaf7acb20bea0e5d0d26081b2ec71b55f260aaab2771ad84beeeb115c1ac1"), looks := true }, kinds := [], alts := [], laidByText := true, laidKinds := [.data, .data, .data, .data, .sentinel, .sentinel, .pinned], laidTests := true, laidLooks := .later }
def NoteFormatsUptoCardSaid : Prop := Claim7.holds Tryd.pinned (.plain (OpenSpec.upto noteFormatsSpec)) noteFormatsUptoCard

/-- THE SECOND FORM's CARD OF 'ostlerlaw11.NoteReads'. -/
def noteReadsUptoCard : Claim7 := { stood := { row := noteReadsUptoRow, standIns := [], harness := (true, "b5acaf7acb20bea0e5d0d26081b2ec71b55f260aaab2771ad84beeeb115c1ac1"), looks := true }, kinds := [], alts := [], laidByText := true, laidKinds := [.data, .data, .data, .data, .sentinel, .sentinel, .pinned], laidTests := true, laidLooks := .later }
def NoteReadsUptoCardSaid : Prop := Claim7.holds Tryd.pinned (.plain (OpenSpec.upto noteReadsSpec)) noteReadsUptoCard

/-- THE SECOND FORM's CARD OF 'ostlerlaw11.NoteAdds'. -/
def noteAddsUptoCard : Claim7 := { stood := { row := noteAddsUptoRow, standIns := [], harness := (true, "b5acaf7acb20bea0e5d0d26081b2ec71b55f260aaab2771ad84beeeb115c1ac1"), looks := true }, kinds := [], alts := [], laidByText := true, laidKinds := [.data, .data, .data, .data, .sentinel, .sentinel, .pinned], laidTests := true, laidLooks := .later }
def NoteAddsUptoCardSaid : Prop := Claim7.holds Tryd.pinned (.plain (OpenSpec.upto noteAddsSpec)) noteAddsUptoCard
end Rows
end Go.Proofs.YtmejjphliaiamaaDoor
