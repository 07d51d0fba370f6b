/-
  No cell of these rows narrows 'for every input' (looked for: loops, veiled, ifaces, maps, wideKeys, modest, calm, conditions, laid).
  DERIVED. THE GIVEN ROWS OF THIS SEAT. 6 by the template 'for every input the law returns true; each argument reads behind the call as it read before'; 0 by the template 'total and deterministic' (their statements: YtjcbaelefacolaaTotals.lean).
  GIVEN WITH THE SEED: the statements are not yours to turn. If you find one false, say at which input.
  Laid BY PROGRAM, IN A SANDBOX (cutbox-rows.mjs): the forced cells as the released guide's own fill.sh prints them over the translation bf7f6205eaa9dd75… (all of the seat's roots in one cut). By AI agents, Wed Nov 11 2026. No macro, syntax, notation, axiom, sorry.
-/
import Derived.Test.YtjcbaelefacolaaChecked
import GoSem.Claim
import GoSem.ClaimJoined
import GoSem.ClaimMapViews
import Derived.JoinedTies
import Derived.KernelRfl
namespace Go.Proofs.Ytjcbaelefacolaa
/- THE CELL 'sum', in the pinned program and in every row, IS THE sha256 OF THE DUMP (.gsa) THAT YtjcbaelefacolaaProg.lean LOADS. Nothing in Lean hashes anything: it is a label: what it is worth is what the hold of that sum in a sandbox is worth. -/
noncomputable def Try.pinned : Pinned := { name := "ytjcbaelefacolaa", sum := "bf7f6205eaa9dd75e109cf37ea7a33fdc9c7eec296d3c6f0aee5488d88cd9d26", checked := Try.checked }
namespace Rows
def none {H : Type} : Left H := { results := [], args := [] }

/-- 'louverlaw18.DeltaPlays': WHATEVER THE INPUT: true; the input reads as it did. -/
def deltaPlaysSpec : ChangeSpec := { name := "deltaPlays", fn := fun _ => fun
  | [d1, d2] => { results := [.lit (.bool true)], args := [d1, d2] }
  | _ => none }
def deltaPlaysRow : OpenClaim := { program := "ytjcbaelefacolaa", sum := "bf7f6205eaa9dd75e109cf37ea7a33fdc9c7eec296d3c6f0aee5488d88cd9d26", func := "louver/louverlaw18.DeltaPlays", spec := "deltaPlays", inPlace := ["slices.overlaps[louver/delta.Person]", "slices.overlaps[louver/delta.Track]", "slices.overlaps[louver/delta.Sub]"], unfollowed := true, recurses := true, apart := false }
def DeltaPlaysSaid : Prop := deltaPlaysRow.holds Try.pinned (OpenSpec.ofChange deltaPlaysSpec)

/-- ITS FALSE NEIGHBOUR: 'it returns false'. Refute it at one input. -/
def deltaPlaysWrong : ChangeSpec := { name := "deltaPlays", fn := fun _ => fun
  | [d1, d2] => { results := [.lit (.bool false)], args := [d1, d2] }
  | _ => none }
def DeltaPlaysWrongFalsely : Prop := deltaPlaysRow.holds Try.pinned (OpenSpec.ofChange deltaPlaysWrong)

/-- 'louverlaw18.DeltaRight': WHATEVER THE INPUT: true; the input reads as it did. -/
def deltaRightSpec : ChangeSpec := { name := "deltaRight", fn := fun _ => fun
  | [d1, d2] => { results := [.lit (.bool true)], args := [d1, d2] }
  | _ => none }
def deltaRightRow : OpenClaim := { program := "ytjcbaelefacolaa", sum := "bf7f6205eaa9dd75e109cf37ea7a33fdc9c7eec296d3c6f0aee5488d88cd9d26", func := "louver/louverlaw18.DeltaRight", spec := "deltaRight", inPlace := ["slices.overlaps[louver/delta.Person]", "slices.overlaps[louver/delta.Track]", "slices.overlaps[louver/delta.Sub]"], unfollowed := true, recurses := true, apart := false }
def DeltaRightSaid : Prop := deltaRightRow.holds Try.pinned (OpenSpec.ofChange deltaRightSpec)

/-- ITS FALSE NEIGHBOUR: 'it returns false'. Refute it at one input. -/
def deltaRightWrong : ChangeSpec := { name := "deltaRight", fn := fun _ => fun
  | [d1, d2] => { results := [.lit (.bool false)], args := [d1, d2] }
  | _ => none }
def DeltaRightWrongFalsely : Prop := deltaRightRow.holds Try.pinned (OpenSpec.ofChange deltaRightWrong)

/-- 'louverlaw18.DeltaNone': WHATEVER THE INPUT: true; the input reads as it did. -/
def deltaNoneSpec : ChangeSpec := { name := "deltaNone", fn := fun _ => fun
  | [d1, d2] => { results := [.lit (.bool true)], args := [d1, d2] }
  | _ => none }
def deltaNoneRow : OpenClaim := { program := "ytjcbaelefacolaa", sum := "bf7f6205eaa9dd75e109cf37ea7a33fdc9c7eec296d3c6f0aee5488d88cd9d26", func := "louver/louverlaw18.DeltaNone", spec := "deltaNone", inPlace := ["slices.overlaps[louver/delta.Person]", "slices.overlaps[louver/delta.Track]", "slices.overlaps[louver/delta.Sub]"], unfollowed := true, recurses := true, apart := false }
def DeltaNoneSaid : Prop := deltaNoneRow.holds Try.pinned (OpenSpec.ofChange deltaNoneSpec)

/-- ITS FALSE NEIGHBOUR: 'it returns false'. Refute it at one input. -/
def deltaNoneWrong : ChangeSpec := { name := "deltaNone", fn := fun _ => fun
  | [d1, d2] => { results := [.lit (.bool false)], args := [d1, d2] }
  | _ => none }
def DeltaNoneWrongFalsely : Prop := deltaNoneRow.holds Try.pinned (OpenSpec.ofChange deltaNoneWrong)

/-- 'louverlaw18.DeltaBack': WHATEVER THE INPUT: true; the input reads as it did. -/
def deltaBackSpec : ChangeSpec := { name := "deltaBack", fn := fun _ => fun
  | [d1, d2, d3] => { results := [.lit (.bool true)], args := [d1, d2, d3] }
  | _ => none }
def deltaBackRow : OpenClaim := { program := "ytjcbaelefacolaa", sum := "bf7f6205eaa9dd75e109cf37ea7a33fdc9c7eec296d3c6f0aee5488d88cd9d26", func := "louver/louverlaw18.DeltaBack", spec := "deltaBack", inPlace := ["slices.overlaps[louver/delta.Person]", "slices.overlaps[louver/delta.Track]", "slices.overlaps[louver/delta.Sub]"], unfollowed := true, recurses := true, apart := false }
def DeltaBackSaid : Prop := deltaBackRow.holds Try.pinned (OpenSpec.ofChange deltaBackSpec)

/-- ITS FALSE NEIGHBOUR: 'it returns false'. Refute it at one input. -/
def deltaBackWrong : ChangeSpec := { name := "deltaBack", fn := fun _ => fun
  | [d1, d2, d3] => { results := [.lit (.bool false)], args := [d1, d2, d3] }
  | _ => none }
def DeltaBackWrongFalsely : Prop := deltaBackRow.holds Try.pinned (OpenSpec.ofChange deltaBackWrong)

/-- 'louverlaw18.DeltaCounts': WHATEVER THE INPUT: true; the input reads as it did. -/
def deltaCountsSpec : ChangeSpec := { name := "deltaCounts", fn := fun _ => fun
  | [d1, d2] => { results := [.lit (.bool true)], args := [d1, d2] }
  | _ => none }
def deltaCountsRow : OpenClaim := { program := "ytjcbaelefacolaa", sum := "bf7f6205eaa9dd75e109cf37ea7a33fdc9c7eec296d3c6f0aee5488d88cd9d26", func := "louver/louverlaw18.DeltaCounts", spec := "deltaCounts", inPlace := ["slices.overlaps[louver/delta.Person]", "slices.overlaps[louver/delta.Track]", "slices.overlaps[louver/delta.Sub]"], unfollowed := true, recurses := true, apart := false }
def DeltaCountsSaid : Prop := deltaCountsRow.holds Try.pinned (OpenSpec.ofChange deltaCountsSpec)

/-- ITS FALSE NEIGHBOUR: 'it returns false'. Refute it at one input. -/
def deltaCountsWrong : ChangeSpec := { name := "deltaCounts", fn := fun _ => fun
  | [d1, d2] => { results := [.lit (.bool false)], args := [d1, d2] }
  | _ => none }
def DeltaCountsWrongFalsely : Prop := deltaCountsRow.holds Try.pinned (OpenSpec.ofChange deltaCountsWrong)

/-- 'louverlaw18.DeltaGoes': WHATEVER THE INPUT: true; the input reads as it did. -/
def deltaGoesSpec : ChangeSpec := { name := "deltaGoes", fn := fun _ => fun
  | [d1, d2] => { results := [.lit (.bool true)], args := [d1, d2] }
  | _ => none }
def deltaGoesRow : OpenClaim := { program := "ytjcbaelefacolaa", sum := "bf7f6205eaa9dd75e109cf37ea7a33fdc9c7eec296d3c6f0aee5488d88cd9d26", func := "louver/louverlaw18.DeltaGoes", spec := "deltaGoes", inPlace := ["slices.overlaps[louver/delta.Person]", "slices.overlaps[louver/delta.Track]", "slices.overlaps[louver/delta.Sub]"], unfollowed := true, recurses := true, apart := false }
def DeltaGoesSaid : Prop := deltaGoesRow.holds Try.pinned (OpenSpec.ofChange deltaGoesSpec)

/-- ITS FALSE NEIGHBOUR: 'it returns false'. Refute it at one input. -/
def deltaGoesWrong : ChangeSpec := { name := "deltaGoes", fn := fun _ => fun
  | [d1, d2] => { results := [.lit (.bool false)], args := [d1, d2] }
  | _ => none }
def DeltaGoesWrongFalsely : Prop := deltaGoesRow.holds Try.pinned (OpenSpec.ofChange deltaGoesWrong)

/- THE SECOND FORM. 'bulk': how many values and letters a reading holds, each counted each time it is reached (what is shared counts as often as it is met; a slice's spare places count too). A statement '..UptoSaid' is the law's where the arguments, and the package variables that the reading takes, are together of bulk at most 1048576: NARROWER than '..Said'. Prove '..Said' where nothing that the law and all that it calls make is longer than what came in: it says more and counts as full. Else prove '..UptoSaid'. A law counts once. -/
mutual
def uptoBulk {H : Type} : DataW H → Nat
  | .lit (.string bytes) => bytes.length + 1
  | .lit _ => 1
  | .nil => 1
  | .ptr d => uptoBulk d + 1
  | .slice elems spare => uptoBulkAll elems + uptoBulkAll spare + 1
  | .agg parts => uptoBulkAll parts + 1
  | .iface _ d => uptoBulk d + 1
  | .map entries => uptoBulkEntries entries + 1
  | .held _ => 1
def uptoBulkAll {H : Type} : List (DataW H) → Nat
  | [] => 0
  | d :: r => uptoBulk d + uptoBulkAll r
def uptoBulkEntries {H : Type} : List (Lit × DataW H) → Nat
  | [] => 0
  | x :: r => uptoBulkEntry x + uptoBulkEntries r
def uptoBulkEntry {H : Type} : Lit × DataW H → Nat
  | (.string bytes, d) => bytes.length + uptoBulk d + 1
  | (_, d) => uptoBulk d + 1
 end
def uptoSmall : (H : Type) → List (DataW H) → Bool := fun _ ds => decide (uptoBulkAll ds ≤ 1048576)
def OpenSpec.upto (s : _root_.Go.ChangeSpec) : _root_.Go.OpenSpec := { _root_.Go.OpenSpec.ofChange s with cond := some uptoSmall }

/-- 'louverlaw18.DeltaPlays', WHERE WHAT IT READS IS OF BULK AT MOST 1048576: true; the input reads as it did. -/
def deltaPlaysUptoRow : OpenClaim := { program := "ytjcbaelefacolaa", sum := "bf7f6205eaa9dd75e109cf37ea7a33fdc9c7eec296d3c6f0aee5488d88cd9d26", func := "louver/louverlaw18.DeltaPlays", spec := "deltaPlays", inPlace := ["slices.overlaps[louver/delta.Person]", "slices.overlaps[louver/delta.Track]", "slices.overlaps[louver/delta.Sub]"], unfollowed := true, recurses := true, apart := false, narrowed := true }
def DeltaPlaysUptoSaid : Prop := deltaPlaysUptoRow.holds Try.pinned (OpenSpec.upto deltaPlaysSpec)

/-- 'louverlaw18.DeltaRight', WHERE WHAT IT READS IS OF BULK AT MOST 1048576: true; the input reads as it did. -/
def deltaRightUptoRow : OpenClaim := { program := "ytjcbaelefacolaa", sum := "bf7f6205eaa9dd75e109cf37ea7a33fdc9c7eec296d3c6f0aee5488d88cd9d26", func := "louver/louverlaw18.DeltaRight", spec := "deltaRight", inPlace := ["slices.overlaps[louver/delta.Person]", "slices.overlaps[louver/delta.Track]", "slices.overlaps[louver/delta.Sub]"], unfollowed := true, recurses := true, apart := false, narrowed := true }
def DeltaRightUptoSaid : Prop := deltaRightUptoRow.holds Try.pinned (OpenSpec.upto deltaRightSpec)

/-- 'louverlaw18.DeltaNone', WHERE WHAT IT READS IS OF BULK AT MOST 1048576: true; the input reads as it did. -/
def deltaNoneUptoRow : OpenClaim := { program := "ytjcbaelefacolaa", sum := "bf7f6205eaa9dd75e109cf37ea7a33fdc9c7eec296d3c6f0aee5488d88cd9d26", func := "louver/louverlaw18.DeltaNone", spec := "deltaNone", inPlace := ["slices.overlaps[louver/delta.Person]", "slices.overlaps[louver/delta.Track]", "slices.overlaps[louver/delta.Sub]"], unfollowed := true, recurses := true, apart := false, narrowed := true }
def DeltaNoneUptoSaid : Prop := deltaNoneUptoRow.holds Try.pinned (OpenSpec.upto deltaNoneSpec)

/-- 'louverlaw18.DeltaBack', WHERE WHAT IT READS IS OF BULK AT MOST 1048576: true; the input reads as it did. -/
def deltaBackUptoRow : OpenClaim := { program := "ytjcbaelefacolaa", sum := "bf7f6205eaa9dd75e109cf37ea7a33fdc9c7eec296d3c6f0aee5488d88cd9d26", func := "louver/louverlaw18.DeltaBack", spec := "deltaBack", inPlace := ["slices.overlaps[louver/delta.Person]", "slices.overlaps[louver/delta.Track]", "slices.overlaps[louver/delta.Sub]"], unfollowed := true, recurses := true, apart := false, narrowed := true }
def DeltaBackUptoSaid : Prop := deltaBackUptoRow.holds Try.pinned (OpenSpec.upto deltaBackSpec)

/-- 'louverlaw18.DeltaCounts', WHERE WHAT IT READS IS OF BULK AT MOST 1048576: true; the input reads as it did. -/
def deltaCountsUptoRow : OpenClaim := { program := "ytjcbaelefacolaa", sum := "bf7f6205eaa9dd75e109cf37ea7a33fdc9c7eec296d3c6f0aee5488d88cd9d26", func := "louver/louverlaw18.DeltaCounts", spec := "deltaCounts", inPlace := ["slices.overlaps[louver/delta.Person]", "slices.overlaps[louver/delta.Track]", "slices.overlaps[louver/delta.Sub]"], unfollowed := true, recurses := true, apart := false, narrowed := true }
def DeltaCountsUptoSaid : Prop := deltaCountsUptoRow.holds Try.pinned (OpenSpec.upto deltaCountsSpec)

/-- 'louverlaw18.DeltaGoes', WHERE WHAT IT READS IS OF BULK AT MOST 1048576: true; the input reads as it did. -/
def deltaGoesUptoRow : OpenClaim := { program := "ytjcbaelefacolaa", sum := "bf7f6205eaa9dd75e109cf37ea7a33fdc9c7eec296d3c6f0aee5488d88cd9d26", func := "louver/louverlaw18.DeltaGoes", spec := "deltaGoes", inPlace := ["slices.overlaps[louver/delta.Person]", "slices.overlaps[louver/delta.Track]", "slices.overlaps[louver/delta.Sub]"], unfollowed := true, recurses := true, apart := false, narrowed := true }
def DeltaGoesUptoSaid : Prop := deltaGoesUptoRow.holds Try.pinned (OpenSpec.upto deltaGoesSpec)

end Rows
end Go.Proofs.Ytjcbaelefacolaa
