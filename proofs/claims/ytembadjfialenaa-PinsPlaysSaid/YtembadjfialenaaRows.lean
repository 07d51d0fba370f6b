/-
  No cell of these rows narrows 'for every input' (looked for: loops, veiled, ifaces, maps, wideKeys, modest, calm, conditions, laid).
  DERIVED. THE GIVEN ROWS OF THIS SEAT. 5 by the template 'for every input the law returns true; each argument reads behind the call as it read before'; 0 by the template 'total and deterministic' (their statements: YtembadjfialenaaTotals.lean).
  GIVEN WITH THE SEED: the statements are not yours to turn. If you find one false, say at which input.
  Laid BY PROGRAM, IN A SANDBOX (cutbox-rows.mjs): the forced cells as the released guide's own fill.sh prints them over the translation eca3e818be2a8ec2… (all of the seat's roots in one cut). By AI agents, Wed Nov 11 2026. No macro, syntax, notation, axiom, sorry.
-/
import Derived.Test.YtembadjfialenaaChecked
import GoSem.Claim
import GoSem.ClaimJoined
import GoSem.ClaimMapViews
import Derived.JoinedTies
import Derived.KernelRfl
namespace Go.Proofs.Ytembadjfialenaa
/- THE CELL 'sum', in the pinned program and in every row, IS THE sha256 OF THE DUMP (.gsa) THAT YtembadjfialenaaProg.lean LOADS. Nothing in Lean hashes anything: it is a label: what it is worth is what the hold of that sum in a sandbox is worth. -/
noncomputable def Try.pinned : Pinned := { name := "ytembadjfialenaa", sum := "eca3e818be2a8ec23afe2718fa0de0be2a406a7c3ff4d517b436d504c8c26750", checked := Try.checked }
namespace Rows
def none {H : Type} : Left H := { results := [], args := [] }

/-- 'louverlaw16.PinsPlays': WHATEVER THE INPUT: true; the input reads as it did. -/
def pinsPlaysSpec : ChangeSpec := { name := "pinsPlays", fn := fun _ => fun
  | [d1, d2] => { results := [.lit (.bool true)], args := [d1, d2] }
  | _ => none }
def pinsPlaysRow : OpenClaim := { program := "ytembadjfialenaa", sum := "eca3e818be2a8ec23afe2718fa0de0be2a406a7c3ff4d517b436d504c8c26750", func := "louver/louverlaw16.PinsPlays", spec := "pinsPlays", unfollowed := true, recurses := true, apart := false }
def PinsPlaysSaid : Prop := pinsPlaysRow.holds Try.pinned (OpenSpec.ofChange pinsPlaysSpec)

/-- ITS FALSE NEIGHBOUR: 'it returns false'. Refute it at one input. -/
def pinsPlaysWrong : ChangeSpec := { name := "pinsPlays", fn := fun _ => fun
  | [d1, d2] => { results := [.lit (.bool false)], args := [d1, d2] }
  | _ => none }
def PinsPlaysWrongFalsely : Prop := pinsPlaysRow.holds Try.pinned (OpenSpec.ofChange pinsPlaysWrong)

/-- 'louverlaw16.PinsSafe': WHATEVER THE INPUT: true; the input reads as it did. -/
def pinsSafeSpec : ChangeSpec := { name := "pinsSafe", fn := fun _ => fun
  | [d1, d2] => { results := [.lit (.bool true)], args := [d1, d2] }
  | _ => none }
def pinsSafeRow : OpenClaim := { program := "ytembadjfialenaa", sum := "eca3e818be2a8ec23afe2718fa0de0be2a406a7c3ff4d517b436d504c8c26750", func := "louver/louverlaw16.PinsSafe", spec := "pinsSafe", unfollowed := true, recurses := true, apart := false }
def PinsSafeSaid : Prop := pinsSafeRow.holds Try.pinned (OpenSpec.ofChange pinsSafeSpec)

/-- ITS FALSE NEIGHBOUR: 'it returns false'. Refute it at one input. -/
def pinsSafeWrong : ChangeSpec := { name := "pinsSafe", fn := fun _ => fun
  | [d1, d2] => { results := [.lit (.bool false)], args := [d1, d2] }
  | _ => none }
def PinsSafeWrongFalsely : Prop := pinsSafeRow.holds Try.pinned (OpenSpec.ofChange pinsSafeWrong)

/-- 'louverlaw16.PinsBounds': WHATEVER THE INPUT: true; the input reads as it did. -/
def pinsBoundsSpec : ChangeSpec := { name := "pinsBounds", fn := fun _ => fun
  | [d1, d2] => { results := [.lit (.bool true)], args := [d1, d2] }
  | _ => none }
def pinsBoundsRow : OpenClaim := { program := "ytembadjfialenaa", sum := "eca3e818be2a8ec23afe2718fa0de0be2a406a7c3ff4d517b436d504c8c26750", func := "louver/louverlaw16.PinsBounds", spec := "pinsBounds", unfollowed := true, recurses := true, apart := false }
def PinsBoundsSaid : Prop := pinsBoundsRow.holds Try.pinned (OpenSpec.ofChange pinsBoundsSpec)

/-- ITS FALSE NEIGHBOUR: 'it returns false'. Refute it at one input. -/
def pinsBoundsWrong : ChangeSpec := { name := "pinsBounds", fn := fun _ => fun
  | [d1, d2] => { results := [.lit (.bool false)], args := [d1, d2] }
  | _ => none }
def PinsBoundsWrongFalsely : Prop := pinsBoundsRow.holds Try.pinned (OpenSpec.ofChange pinsBoundsWrong)

/-- 'louverlaw16.PinsRise': WHATEVER THE INPUT: true; the input reads as it did. -/
def pinsRiseSpec : ChangeSpec := { name := "pinsRise", fn := fun _ => fun
  | [d1, d2] => { results := [.lit (.bool true)], args := [d1, d2] }
  | _ => none }
def pinsRiseRow : OpenClaim := { program := "ytembadjfialenaa", sum := "eca3e818be2a8ec23afe2718fa0de0be2a406a7c3ff4d517b436d504c8c26750", func := "louver/louverlaw16.PinsRise", spec := "pinsRise", unfollowed := true, recurses := true, apart := false }
def PinsRiseSaid : Prop := pinsRiseRow.holds Try.pinned (OpenSpec.ofChange pinsRiseSpec)

/-- ITS FALSE NEIGHBOUR: 'it returns false'. Refute it at one input. -/
def pinsRiseWrong : ChangeSpec := { name := "pinsRise", fn := fun _ => fun
  | [d1, d2] => { results := [.lit (.bool false)], args := [d1, d2] }
  | _ => none }
def PinsRiseWrongFalsely : Prop := pinsRiseRow.holds Try.pinned (OpenSpec.ofChange pinsRiseWrong)

/-- 'louverlaw16.PinsHeld': WHATEVER THE INPUT: true; the input reads as it did. -/
def pinsHeldSpec : ChangeSpec := { name := "pinsHeld", fn := fun _ => fun
  | [d1, d2, d3] => { results := [.lit (.bool true)], args := [d1, d2, d3] }
  | _ => none }
def pinsHeldRow : OpenClaim := { program := "ytembadjfialenaa", sum := "eca3e818be2a8ec23afe2718fa0de0be2a406a7c3ff4d517b436d504c8c26750", func := "louver/louverlaw16.PinsHeld", spec := "pinsHeld", unfollowed := true, recurses := true, apart := false }
def PinsHeldSaid : Prop := pinsHeldRow.holds Try.pinned (OpenSpec.ofChange pinsHeldSpec)

/-- ITS FALSE NEIGHBOUR: 'it returns false'. Refute it at one input. -/
def pinsHeldWrong : ChangeSpec := { name := "pinsHeld", fn := fun _ => fun
  | [d1, d2, d3] => { results := [.lit (.bool false)], args := [d1, d2, d3] }
  | _ => none }
def PinsHeldWrongFalsely : Prop := pinsHeldRow.holds Try.pinned (OpenSpec.ofChange pinsHeldWrong)

/- THE SECOND FORM. 'bulk': how many values and letters a reading holds, each counted each time it is reached (what is shared counts as often as it is met; a slice's spare places count too). A statement '..UptoSaid' is the law's where the arguments, and the package variables that the reading takes, are together of bulk at most 1048576: NARROWER than '..Said'. Prove '..Said' where nothing that the law and all that it calls make is longer than what came in: it says more and counts as full. Else prove '..UptoSaid'. A law counts once. -/
mutual
def uptoBulk {H : Type} : DataW H → Nat
  | .lit (.string bytes) => bytes.length + 1
  | .lit _ => 1
  | .nil => 1
  | .ptr d => uptoBulk d + 1
  | .slice elems spare => uptoBulkAll elems + uptoBulkAll spare + 1
  | .agg parts => uptoBulkAll parts + 1
  | .iface _ d => uptoBulk d + 1
  | .map entries => uptoBulkEntries entries + 1
  | .held _ => 1
def uptoBulkAll {H : Type} : List (DataW H) → Nat
  | [] => 0
  | d :: r => uptoBulk d + uptoBulkAll r
def uptoBulkEntries {H : Type} : List (Lit × DataW H) → Nat
  | [] => 0
  | x :: r => uptoBulkEntry x + uptoBulkEntries r
def uptoBulkEntry {H : Type} : Lit × DataW H → Nat
  | (.string bytes, d) => bytes.length + uptoBulk d + 1
  | (_, d) => uptoBulk d + 1
 end
def uptoSmall : (H : Type) → List (DataW H) → Bool := fun _ ds => decide (uptoBulkAll ds ≤ 1048576)
def OpenSpec.upto (s : _root_.Go.ChangeSpec) : _root_.Go.OpenSpec := { _root_.Go.OpenSpec.ofChange s with cond := some uptoSmall }

/-- 'louverlaw16.PinsPlays', WHERE WHAT IT READS IS OF BULK AT MOST 1048576: true; the input reads as it did. -/
def pinsPlaysUptoRow : OpenClaim := { program := "ytembadjfialenaa", sum := "eca3e818be2a8ec23afe2718fa0de0be2a406a7c3ff4d517b436d504c8c26750", func := "louver/louverlaw16.PinsPlays", spec := "pinsPlays", unfollowed := true, recurses := true, apart := false, narrowed := true }
def PinsPlaysUptoSaid : Prop := pinsPlaysUptoRow.holds Try.pinned (OpenSpec.upto pinsPlaysSpec)

/-- 'louverlaw16.PinsSafe', WHERE WHAT IT READS IS OF BULK AT MOST 1048576: true; the input reads as it did. -/
def pinsSafeUptoRow : OpenClaim := { program := "ytembadjfialenaa", sum := "eca3e818be2a8ec23afe2718fa0de0be2a406a7c3ff4d517b436d504c8c26750", func := "louver/louverlaw16.PinsSafe", spec := "pinsSafe", unfollowed := true, recurses := true, apart := false, narrowed := true }
def PinsSafeUptoSaid : Prop := pinsSafeUptoRow.holds Try.pinned (OpenSpec.upto pinsSafeSpec)

/-- 'louverlaw16.PinsBounds', WHERE WHAT IT READS IS OF BULK AT MOST 1048576: true; the input reads as it did. -/
def pinsBoundsUptoRow : OpenClaim := { program := "ytembadjfialenaa", sum := "eca3e818be2a8ec23afe2718fa0de0be2a406a7c3ff4d517b436d504c8c26750", func := "louver/louverlaw16.PinsBounds", spec := "pinsBounds", unfollowed := true, recurses := true, apart := false, narrowed := true }
def PinsBoundsUptoSaid : Prop := pinsBoundsUptoRow.holds Try.pinned (OpenSpec.upto pinsBoundsSpec)

/-- 'louverlaw16.PinsRise', WHERE WHAT IT READS IS OF BULK AT MOST 1048576: true; the input reads as it did. -/
def pinsRiseUptoRow : OpenClaim := { program := "ytembadjfialenaa", sum := "eca3e818be2a8ec23afe2718fa0de0be2a406a7c3ff4d517b436d504c8c26750", func := "louver/louverlaw16.PinsRise", spec := "pinsRise", unfollowed := true, recurses := true, apart := false, narrowed := true }
def PinsRiseUptoSaid : Prop := pinsRiseUptoRow.holds Try.pinned (OpenSpec.upto pinsRiseSpec)

/-- 'louverlaw16.PinsHeld', WHERE WHAT IT READS IS OF BULK AT MOST 1048576: true; the input reads as it did. -/
def pinsHeldUptoRow : OpenClaim := { program := "ytembadjfialenaa", sum := "eca3e818be2a8ec23afe2718fa0de0be2a406a7c3ff4d517b436d504c8c26750", func := "louver/louverlaw16.PinsHeld", spec := "pinsHeld", unfollowed := true, recurses := true, apart := false, narrowed := true }
def PinsHeldUptoSaid : Prop := pinsHeldUptoRow.holds Try.pinned (OpenSpec.upto pinsHeldSpec)

end Rows
end Go.Proofs.Ytembadjfialenaa
