/-
  No cell of these rows narrows 'for every input' (looked for: loops, veiled, ifaces, maps, wideKeys, modest, calm, conditions, laid).
  DERIVED. THE GIVEN ROWS OF THIS SEAT. 4 by the template 'for every input the law returns true; each argument reads behind the call as it read before'; 0 by the template 'total and deterministic' (their statements: YtdcekgdihnlbpaaTotals.lean).
  GIVEN WITH THE SEED: the statements are not yours to turn. If you find one false, say at which input.
  Laid BY PROGRAM, IN A SANDBOX (cutbox-rows.mjs): the forced cells as the released guide's own fill.sh prints them over the translation ac6749e2886aab53… (all of the seat's roots in one cut). By AI agents, Wed Nov 11 2026. No macro, syntax, notation, axiom, sorry.
-/
import Derived.Test.YtdcekgdihnlbpaaChecked
import GoSem.Claim
import GoSem.ClaimJoined
import GoSem.ClaimMapViews
import Derived.JoinedTies
import Derived.KernelRfl
namespace Go.Proofs.Ytdcekgdihnlbpaa
/- THE CELL 'sum', in the pinned program and in every row, IS THE sha256 OF THE DUMP (.gsa) THAT YtdcekgdihnlbpaaProg.lean LOADS. Nothing in Lean hashes anything: it is a label: what it is worth is what the hold of that sum in a sandbox is worth. -/
noncomputable def Try.pinned : Pinned := { name := "ytdcekgdihnlbpaa", sum := "ac6749e2886aab53d09ee40a73df80910a865791382a58231409c2eb75512991", checked := Try.checked }
namespace Rows
def none {H : Type} : Left H := { results := [], args := [] }

/-- 'louverlaw20.CmdOrder': WHATEVER THE INPUT: true; the input reads as it did. -/
def cmdOrderSpec : ChangeSpec := { name := "cmdOrder", fn := fun _ => fun
  | [d1, d2, d3] => { results := [.lit (.bool true)], args := [d1, d2, d3] }
  | _ => none }
def cmdOrderRow : OpenClaim := { program := "ytdcekgdihnlbpaa", sum := "ac6749e2886aab53d09ee40a73df80910a865791382a58231409c2eb75512991", func := "louver/louverlaw20.CmdOrder", spec := "cmdOrder", unfollowed := true, recurses := true, plainKeys := false, apart := false }
def CmdOrderSaid : Prop := cmdOrderRow.holds Try.pinned (OpenSpec.ofChange cmdOrderSpec)

/-- ITS FALSE NEIGHBOUR: 'it returns false'. Refute it at one input. -/
def cmdOrderWrong : ChangeSpec := { name := "cmdOrder", fn := fun _ => fun
  | [d1, d2, d3] => { results := [.lit (.bool false)], args := [d1, d2, d3] }
  | _ => none }
def CmdOrderWrongFalsely : Prop := cmdOrderRow.holds Try.pinned (OpenSpec.ofChange cmdOrderWrong)

/-- 'louverlaw20.CmdPlays': WHATEVER THE INPUT: true; the input reads as it did. -/
def cmdPlaysSpec : ChangeSpec := { name := "cmdPlays", fn := fun _ => fun
  | [d1, d2, d3] => { results := [.lit (.bool true)], args := [d1, d2, d3] }
  | _ => none }
def cmdPlaysRow : OpenClaim := { program := "ytdcekgdihnlbpaa", sum := "ac6749e2886aab53d09ee40a73df80910a865791382a58231409c2eb75512991", func := "louver/louverlaw20.CmdPlays", spec := "cmdPlays", unfollowed := true, recurses := true, plainKeys := false, apart := false }
def CmdPlaysSaid : Prop := cmdPlaysRow.holds Try.pinned (OpenSpec.ofChange cmdPlaysSpec)

/-- ITS FALSE NEIGHBOUR: 'it returns false'. Refute it at one input. -/
def cmdPlaysWrong : ChangeSpec := { name := "cmdPlays", fn := fun _ => fun
  | [d1, d2, d3] => { results := [.lit (.bool false)], args := [d1, d2, d3] }
  | _ => none }
def CmdPlaysWrongFalsely : Prop := cmdPlaysRow.holds Try.pinned (OpenSpec.ofChange cmdPlaysWrong)

/-- 'louverlaw20.CmdBounds': WHATEVER THE INPUT: true; the input reads as it did. -/
def cmdBoundsSpec : ChangeSpec := { name := "cmdBounds", fn := fun _ => fun
  | [d1, d2] => { results := [.lit (.bool true)], args := [d1, d2] }
  | _ => none }
def cmdBoundsRow : OpenClaim := { program := "ytdcekgdihnlbpaa", sum := "ac6749e2886aab53d09ee40a73df80910a865791382a58231409c2eb75512991", func := "louver/louverlaw20.CmdBounds", spec := "cmdBounds", unfollowed := true, recurses := true, plainKeys := false, apart := false }
def CmdBoundsSaid : Prop := cmdBoundsRow.holds Try.pinned (OpenSpec.ofChange cmdBoundsSpec)

/-- ITS FALSE NEIGHBOUR: 'it returns false'. Refute it at one input. -/
def cmdBoundsWrong : ChangeSpec := { name := "cmdBounds", fn := fun _ => fun
  | [d1, d2] => { results := [.lit (.bool false)], args := [d1, d2] }
  | _ => none }
def CmdBoundsWrongFalsely : Prop := cmdBoundsRow.holds Try.pinned (OpenSpec.ofChange cmdBoundsWrong)

/-- 'louverlaw20.CmdRooms': WHATEVER THE INPUT: true; the input reads as it did. -/
def cmdRoomsSpec : ChangeSpec := { name := "cmdRooms", fn := fun _ => fun
  | [d1, d2, d3] => { results := [.lit (.bool true)], args := [d1, d2, d3] }
  | _ => none }
def cmdRoomsRow : OpenClaim := { program := "ytdcekgdihnlbpaa", sum := "ac6749e2886aab53d09ee40a73df80910a865791382a58231409c2eb75512991", func := "louver/louverlaw20.CmdRooms", spec := "cmdRooms", unfollowed := true, recurses := true, plainKeys := false, apart := false }
def CmdRoomsSaid : Prop := cmdRoomsRow.holds Try.pinned (OpenSpec.ofChange cmdRoomsSpec)

/-- ITS FALSE NEIGHBOUR: 'it returns false'. Refute it at one input. -/
def cmdRoomsWrong : ChangeSpec := { name := "cmdRooms", fn := fun _ => fun
  | [d1, d2, d3] => { results := [.lit (.bool false)], args := [d1, d2, d3] }
  | _ => none }
def CmdRoomsWrongFalsely : Prop := cmdRoomsRow.holds Try.pinned (OpenSpec.ofChange cmdRoomsWrong)

/- THE SECOND FORM. 'bulk': how many values and letters a reading holds, each counted each time it is reached (what is shared counts as often as it is met; a slice's spare places count too). A statement '..UptoSaid' is the law's where the arguments, and the package variables that the reading takes, are together of bulk at most 1048576: NARROWER than '..Said'. Prove '..Said' where nothing that the law and all that it calls make is longer than what came in: it says more and counts as full. Else prove '..UptoSaid'. A law counts once. -/
mutual
def uptoBulk {H : Type} : DataW H → Nat
  | .lit (.string bytes) => bytes.length + 1
  | .lit _ => 1
  | .nil => 1
  | .ptr d => uptoBulk d + 1
  | .slice elems spare => uptoBulkAll elems + uptoBulkAll spare + 1
  | .agg parts => uptoBulkAll parts + 1
  | .iface _ d => uptoBulk d + 1
  | .map entries => uptoBulkEntries entries + 1
  | .held _ => 1
def uptoBulkAll {H : Type} : List (DataW H) → Nat
  | [] => 0
  | d :: r => uptoBulk d + uptoBulkAll r
def uptoBulkEntries {H : Type} : List (Lit × DataW H) → Nat
  | [] => 0
  | x :: r => uptoBulkEntry x + uptoBulkEntries r
def uptoBulkEntry {H : Type} : Lit × DataW H → Nat
  | (.string bytes, d) => bytes.length + uptoBulk d + 1
  | (_, d) => uptoBulk d + 1
 end
def uptoSmall : (H : Type) → List (DataW H) → Bool := fun _ ds => decide (uptoBulkAll ds ≤ 1048576)
def OpenSpec.upto (s : _root_.Go.ChangeSpec) : _root_.Go.OpenSpec := { _root_.Go.OpenSpec.ofChange s with cond := some uptoSmall }

/-- 'louverlaw20.CmdOrder', WHERE WHAT IT READS IS OF BULK AT MOST 1048576: true; the input reads as it did. -/
def cmdOrderUptoRow : OpenClaim := { program := "ytdcekgdihnlbpaa", sum := "ac6749e2886aab53d09ee40a73df80910a865791382a58231409c2eb75512991", func := "louver/louverlaw20.CmdOrder", spec := "cmdOrder", unfollowed := true, recurses := true, plainKeys := false, apart := false, narrowed := true }
def CmdOrderUptoSaid : Prop := cmdOrderUptoRow.holds Try.pinned (OpenSpec.upto cmdOrderSpec)

/-- 'louverlaw20.CmdPlays', WHERE WHAT IT READS IS OF BULK AT MOST 1048576: true; the input reads as it did. -/
def cmdPlaysUptoRow : OpenClaim := { program := "ytdcekgdihnlbpaa", sum := "ac6749e2886aab53d09ee40a73df80910a865791382a58231409c2eb75512991", func := "louver/louverlaw20.CmdPlays", spec := "cmdPlays", unfollowed := true, recurses := true, plainKeys := false, apart := false, narrowed := true }
def CmdPlaysUptoSaid : Prop := cmdPlaysUptoRow.holds Try.pinned (OpenSpec.upto cmdPlaysSpec)

/-- 'louverlaw20.CmdBounds', WHERE WHAT IT READS IS OF BULK AT MOST 1048576: true; the input reads as it did. -/
def cmdBoundsUptoRow : OpenClaim := { program := "ytdcekgdihnlbpaa", sum := "ac6749e2886aab53d09ee40a73df80910a865791382a58231409c2eb75512991", func := "louver/louverlaw20.CmdBounds", spec := "cmdBounds", unfollowed := true, recurses := true, plainKeys := false, apart := false, narrowed := true }
def CmdBoundsUptoSaid : Prop := cmdBoundsUptoRow.holds Try.pinned (OpenSpec.upto cmdBoundsSpec)

/-- 'louverlaw20.CmdRooms', WHERE WHAT IT READS IS OF BULK AT MOST 1048576: true; the input reads as it did. -/
def cmdRoomsUptoRow : OpenClaim := { program := "ytdcekgdihnlbpaa", sum := "ac6749e2886aab53d09ee40a73df80910a865791382a58231409c2eb75512991", func := "louver/louverlaw20.CmdRooms", spec := "cmdRooms", unfollowed := true, recurses := true, plainKeys := false, apart := false, narrowed := true }
def CmdRoomsUptoSaid : Prop := cmdRoomsUptoRow.holds Try.pinned (OpenSpec.upto cmdRoomsSpec)

end Rows
end Go.Proofs.Ytdcekgdihnlbpaa
