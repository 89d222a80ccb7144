/-
  No cell of these rows narrows 'for every input' (looked for: loops, veiled, ifaces, maps, wideKeys, modest, calm, conditions, laid).
  DERIVED. THE GIVEN ROWS OF THIS SEAT. 3 by the template 'for every input the law returns true; each argument reads behind the call as it read before'; 0 by the template 'total and deterministic' (their statements: YtobepddifflpdaaTotals.lean).
  GIVEN WITH THE SEED: the statements are not yours to turn. If you find one false, say at which input.
  Laid BY PROGRAM, IN A SANDBOX (cutbox-rows.mjs): the forced cells as the released guide's own fill.sh prints them over the translation 56dd191b9c85000f… (all of the seat's roots in one cut). By AI agents, Wed Nov 11 2026. No macro, syntax, notation, axiom, sorry.
-/
import Derived.Test.YtobepddifflpdaaChecked
import GoSem.Claim
import GoSem.ClaimJoined
import GoSem.ClaimMapViews
import Derived.JoinedTies
import Derived.KernelRfl
namespace Go.Proofs.Ytobepddifflpdaa
/- THE CELL 'sum', in the pinned program and in every row, IS THE sha256 OF THE DUMP (.gsa) THAT YtobepddifflpdaaProg.lean LOADS. Nothing in Lean hashes anything: it is a label: what it is worth is what the hold of that sum in a sandbox is worth. -/
noncomputable def Try.pinned : Pinned := { name := "ytobepddifflpdaa", sum := "56dd191b9c85000f2aa2c1784abf11af492d036150245e3eaed3f19d18d4d439", checked := Try.checked }
namespace Rows
def none {H : Type} : Left H := { results := [], args := [] }

/-- 'ostlerlaw20.MirrorParts': WHATEVER THE INPUT: true; the input reads as it did. -/
def mirrorPartsSpec : ChangeSpec := { name := "mirrorParts", fn := fun _ => fun
  | [d1, d2] => { results := [.lit (.bool true)], args := [d1, d2] }
  | _ => none }
def mirrorPartsRow : OpenClaim := { program := "ytobepddifflpdaa", sum := "56dd191b9c85000f2aa2c1784abf11af492d036150245e3eaed3f19d18d4d439", func := "ostler/ostlerlaw20.MirrorParts", spec := "mirrorParts", apart := false }
def MirrorPartsSaid : Prop := mirrorPartsRow.holds Try.pinned (OpenSpec.ofChange mirrorPartsSpec)

/-- ITS FALSE NEIGHBOUR: 'it returns false'. Refute it at one input. -/
def mirrorPartsWrong : ChangeSpec := { name := "mirrorParts", fn := fun _ => fun
  | [d1, d2] => { results := [.lit (.bool false)], args := [d1, d2] }
  | _ => none }
def MirrorPartsWrongFalsely : Prop := mirrorPartsRow.holds Try.pinned (OpenSpec.ofChange mirrorPartsWrong)

/-- 'ostlerlaw20.MirrorPlays': WHATEVER THE INPUT: true; the input reads as it did. -/
def mirrorPlaysSpec : ChangeSpec := { name := "mirrorPlays", fn := fun _ => fun
  | [d1, d2] => { results := [.lit (.bool true)], args := [d1, d2] }
  | _ => none }
def mirrorPlaysRow : OpenClaim := { program := "ytobepddifflpdaa", sum := "56dd191b9c85000f2aa2c1784abf11af492d036150245e3eaed3f19d18d4d439", func := "ostler/ostlerlaw20.MirrorPlays", spec := "mirrorPlays", unfollowed := true, recurses := true, apart := false }
def MirrorPlaysSaid : Prop := mirrorPlaysRow.holds Try.pinned (OpenSpec.ofChange mirrorPlaysSpec)

/-- ITS FALSE NEIGHBOUR: 'it returns false'. Refute it at one input. -/
def mirrorPlaysWrong : ChangeSpec := { name := "mirrorPlays", fn := fun _ => fun
  | [d1, d2] => { results := [.lit (.bool false)], args := [d1, d2] }
  | _ => none }
def MirrorPlaysWrongFalsely : Prop := mirrorPlaysRow.holds Try.pinned (OpenSpec.ofChange mirrorPlaysWrong)

/-- 'ostlerlaw20.MirrorNone': WHATEVER THE INPUT: true; the input reads as it did. -/
def mirrorNoneSpec : ChangeSpec := { name := "mirrorNone", fn := fun _ => fun
  | [d1, d2] => { results := [.lit (.bool true)], args := [d1, d2] }
  | _ => none }
def mirrorNoneRow : OpenClaim := { program := "ytobepddifflpdaa", sum := "56dd191b9c85000f2aa2c1784abf11af492d036150245e3eaed3f19d18d4d439", func := "ostler/ostlerlaw20.MirrorNone", spec := "mirrorNone", unfollowed := true, recurses := true, apart := false }
def MirrorNoneSaid : Prop := mirrorNoneRow.holds Try.pinned (OpenSpec.ofChange mirrorNoneSpec)

/-- ITS FALSE NEIGHBOUR: 'it returns false'. Refute it at one input. -/
def mirrorNoneWrong : ChangeSpec := { name := "mirrorNone", fn := fun _ => fun
  | [d1, d2] => { results := [.lit (.bool false)], args := [d1, d2] }
  | _ => none }
def MirrorNoneWrongFalsely : Prop := mirrorNoneRow.holds Try.pinned (OpenSpec.ofChange mirrorNoneWrong)

/- THE SECOND FORM. 'bulk': how many values and letters a reading holds, each counted each time it is reached (what is shared counts as often as it is met; a slice's spare places count too). A statement '..UptoSaid' is the law's where the arguments, and the package variables that the reading takes, are together of bulk at most 1048576: NARROWER than '..Said'. Prove '..Said' where nothing that the law and all that it calls make is longer than what came in: it says more and counts as full. Else prove '..UptoSaid'. A law counts once. -/
mutual
def uptoBulk {H : Type} : DataW H → Nat
  | .lit (.string bytes) => bytes.length + 1
  | .lit _ => 1
  | .nil => 1
  | .ptr d => uptoBulk d + 1
  | .slice elems spare => uptoBulkAll elems + uptoBulkAll spare + 1
  | .agg parts => uptoBulkAll parts + 1
  | .iface _ d => uptoBulk d + 1
  | .map entries => uptoBulkEntries entries + 1
  | .held _ => 1
def uptoBulkAll {H : Type} : List (DataW H) → Nat
  | [] => 0
  | d :: r => uptoBulk d + uptoBulkAll r
def uptoBulkEntries {H : Type} : List (Lit × DataW H) → Nat
  | [] => 0
  | x :: r => uptoBulkEntry x + uptoBulkEntries r
def uptoBulkEntry {H : Type} : Lit × DataW H → Nat
  | (.string bytes, d) => bytes.length + uptoBulk d + 1
  | (_, d) => uptoBulk d + 1
 end
def uptoSmall : (H : Type) → List (DataW H) → Bool := fun _ ds => decide (uptoBulkAll ds ≤ 1048576)
def OpenSpec.upto (s : _root_.Go.ChangeSpec) : _root_.Go.OpenSpec := { _root_.Go.OpenSpec.ofChange s with cond := some uptoSmall }

/-- 'ostlerlaw20.MirrorParts', WHERE WHAT IT READS IS OF BULK AT MOST 1048576: true; the input reads as it did. -/
def mirrorPartsUptoRow : OpenClaim := { program := "ytobepddifflpdaa", sum := "56dd191b9c85000f2aa2c1784abf11af492d036150245e3eaed3f19d18d4d439", func := "ostler/ostlerlaw20.MirrorParts", spec := "mirrorParts", apart := false, narrowed := true }
def MirrorPartsUptoSaid : Prop := mirrorPartsUptoRow.holds Try.pinned (OpenSpec.upto mirrorPartsSpec)

/-- 'ostlerlaw20.MirrorPlays', WHERE WHAT IT READS IS OF BULK AT MOST 1048576: true; the input reads as it did. -/
def mirrorPlaysUptoRow : OpenClaim := { program := "ytobepddifflpdaa", sum := "56dd191b9c85000f2aa2c1784abf11af492d036150245e3eaed3f19d18d4d439", func := "ostler/ostlerlaw20.MirrorPlays", spec := "mirrorPlays", unfollowed := true, recurses := true, apart := false, narrowed := true }
def MirrorPlaysUptoSaid : Prop := mirrorPlaysUptoRow.holds Try.pinned (OpenSpec.upto mirrorPlaysSpec)

/-- 'ostlerlaw20.MirrorNone', WHERE WHAT IT READS IS OF BULK AT MOST 1048576: true; the input reads as it did. -/
def mirrorNoneUptoRow : OpenClaim := { program := "ytobepddifflpdaa", sum := "56dd191b9c85000f2aa2c1784abf11af492d036150245e3eaed3f19d18d4d439", func := "ostler/ostlerlaw20.MirrorNone", spec := "mirrorNone", unfollowed := true, recurses := true, apart := false, narrowed := true }
def MirrorNoneUptoSaid : Prop := mirrorNoneUptoRow.holds Try.pinned (OpenSpec.upto mirrorNoneSpec)

end Rows
end Go.Proofs.Ytobepddifflpdaa
