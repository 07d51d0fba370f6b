/-
  No cell of these rows narrows 'for every input' (looked for: loops, veiled, ifaces, maps, wideKeys, modest, calm, conditions, laid).
  DERIVED. THE GIVEN ROWS OF THIS SEAT. 6 by the template 'for every input the law returns true; each argument reads behind the call as it read before'; 0 by the template 'total and deterministic' (their statements: YtgkejdjdccgjbaaTotals.lean).
  GIVEN WITH THE SEED: the statements are not yours to turn. If you find one false, say at which input.
  Laid BY PROGRAM, IN A SANDBOX (cutbox-rows.mjs): the forced cells as the released guide's own fill.sh prints them over the translation 6caa4c00603dba65… (all of the seat's roots in one cut). By AI agents, Wed Nov 11 2026. No macro, syntax, notation, axiom, sorry.
-/
import Derived.Test.YtgkejdjdccgjbaaChecked
import GoSem.Claim
import GoSem.ClaimJoined
import GoSem.ClaimMapViews
import Derived.JoinedTies
import Derived.KernelRfl
namespace Go.Proofs.Ytgkejdjdccgjbaa
/- THE CELL 'sum', in the pinned program and in every row, IS THE sha256 OF THE DUMP (.gsa) THAT YtgkejdjdccgjbaaProg.lean LOADS. Nothing in Lean hashes anything: it is a label: what it is worth is what the hold of that sum in a sandbox is worth. -/
noncomputable def Try.pinned : Pinned := { name := "ytgkejdjdccgjbaa", sum := "6caa4c00603dba65c96c1fc6c82f99e6324e253bafa09c0745fa82c4c2f731ea", checked := Try.checked }
namespace Rows
def none {H : Type} : Left H := { results := [], args := [] }

/-- 'louverlaw09.RtcpPuts': WHATEVER THE INPUT: true; the input reads as it did. -/
def rtcpPutsSpec : ChangeSpec := { name := "rtcpPuts", fn := fun _ => fun
  | [d] => { results := [.lit (.bool true)], args := [d] }
  | _ => none }
def rtcpPutsRow : OpenClaim := { program := "ytgkejdjdccgjbaa", sum := "6caa4c00603dba65c96c1fc6c82f99e6324e253bafa09c0745fa82c4c2f731ea", func := "louver/louverlaw09.RtcpPuts", spec := "rtcpPuts", unfollowed := true, recurses := true, apart := false }
def RtcpPutsSaid : Prop := rtcpPutsRow.holds Try.pinned (OpenSpec.ofChange rtcpPutsSpec)

/-- ITS FALSE NEIGHBOUR: 'it returns false'. Refute it at one input. -/
def rtcpPutsWrong : ChangeSpec := { name := "rtcpPuts", fn := fun _ => fun
  | [d] => { results := [.lit (.bool false)], args := [d] }
  | _ => none }
def RtcpPutsWrongFalsely : Prop := rtcpPutsRow.holds Try.pinned (OpenSpec.ofChange rtcpPutsWrong)

/-- 'louverlaw09.RtcpParses': WHATEVER THE INPUT: true; the input reads as it did. -/
def rtcpParsesSpec : ChangeSpec := { name := "rtcpParses", fn := fun _ => fun
  | [d1, d2, d3, d4] => { results := [.lit (.bool true)], args := [d1, d2, d3, d4] }
  | _ => none }
def rtcpParsesRow : OpenClaim := { program := "ytgkejdjdccgjbaa", sum := "6caa4c00603dba65c96c1fc6c82f99e6324e253bafa09c0745fa82c4c2f731ea", func := "louver/louverlaw09.RtcpParses", spec := "rtcpParses", unfollowed := true, recurses := true, apart := false }
def RtcpParsesSaid : Prop := rtcpParsesRow.holds Try.pinned (OpenSpec.ofChange rtcpParsesSpec)

/-- ITS FALSE NEIGHBOUR: 'it returns false'. Refute it at one input. -/
def rtcpParsesWrong : ChangeSpec := { name := "rtcpParses", fn := fun _ => fun
  | [d1, d2, d3, d4] => { results := [.lit (.bool false)], args := [d1, d2, d3, d4] }
  | _ => none }
def RtcpParsesWrongFalsely : Prop := rtcpParsesRow.holds Try.pinned (OpenSpec.ofChange rtcpParsesWrong)

/-- 'louverlaw09.RtcpBack': WHATEVER THE INPUT: true; the input reads as it did. -/
def rtcpBackSpec : ChangeSpec := { name := "rtcpBack", fn := fun _ => fun
  | [d1, d2] => { results := [.lit (.bool true)], args := [d1, d2] }
  | _ => none }
def rtcpBackRow : OpenClaim := { program := "ytgkejdjdccgjbaa", sum := "6caa4c00603dba65c96c1fc6c82f99e6324e253bafa09c0745fa82c4c2f731ea", func := "louver/louverlaw09.RtcpBack", spec := "rtcpBack", unfollowed := true, recurses := true, apart := false }
def RtcpBackSaid : Prop := rtcpBackRow.holds Try.pinned (OpenSpec.ofChange rtcpBackSpec)

/-- ITS FALSE NEIGHBOUR: 'it returns false'. Refute it at one input. -/
def rtcpBackWrong : ChangeSpec := { name := "rtcpBack", fn := fun _ => fun
  | [d1, d2] => { results := [.lit (.bool false)], args := [d1, d2] }
  | _ => none }
def RtcpBackWrongFalsely : Prop := rtcpBackRow.holds Try.pinned (OpenSpec.ofChange rtcpBackWrong)

/-- 'louverlaw09.RtcpCuts': WHATEVER THE INPUT: true; the input reads as it did. -/
def rtcpCutsSpec : ChangeSpec := { name := "rtcpCuts", fn := fun _ => fun
  | [d1, d2] => { results := [.lit (.bool true)], args := [d1, d2] }
  | _ => none }
def rtcpCutsRow : OpenClaim := { program := "ytgkejdjdccgjbaa", sum := "6caa4c00603dba65c96c1fc6c82f99e6324e253bafa09c0745fa82c4c2f731ea", func := "louver/louverlaw09.RtcpCuts", spec := "rtcpCuts", unfollowed := true, recurses := true, apart := false }
def RtcpCutsSaid : Prop := rtcpCutsRow.holds Try.pinned (OpenSpec.ofChange rtcpCutsSpec)

/-- ITS FALSE NEIGHBOUR: 'it returns false'. Refute it at one input. -/
def rtcpCutsWrong : ChangeSpec := { name := "rtcpCuts", fn := fun _ => fun
  | [d1, d2] => { results := [.lit (.bool false)], args := [d1, d2] }
  | _ => none }
def RtcpCutsWrongFalsely : Prop := rtcpCutsRow.holds Try.pinned (OpenSpec.ofChange rtcpCutsWrong)

/-- 'louverlaw09.RtcpJoins': WHATEVER THE INPUT: true; the input reads as it did. -/
def rtcpJoinsSpec : ChangeSpec := { name := "rtcpJoins", fn := fun _ => fun
  | [d1, d2] => { results := [.lit (.bool true)], args := [d1, d2] }
  | _ => none }
def rtcpJoinsRow : OpenClaim := { program := "ytgkejdjdccgjbaa", sum := "6caa4c00603dba65c96c1fc6c82f99e6324e253bafa09c0745fa82c4c2f731ea", func := "louver/louverlaw09.RtcpJoins", spec := "rtcpJoins", unfollowed := true, recurses := true, apart := false }
def RtcpJoinsSaid : Prop := rtcpJoinsRow.holds Try.pinned (OpenSpec.ofChange rtcpJoinsSpec)

/-- ITS FALSE NEIGHBOUR: 'it returns false'. Refute it at one input. -/
def rtcpJoinsWrong : ChangeSpec := { name := "rtcpJoins", fn := fun _ => fun
  | [d1, d2] => { results := [.lit (.bool false)], args := [d1, d2] }
  | _ => none }
def RtcpJoinsWrongFalsely : Prop := rtcpJoinsRow.holds Try.pinned (OpenSpec.ofChange rtcpJoinsWrong)

/-- 'louverlaw09.RtcpOthers': WHATEVER THE INPUT: true; the input reads as it did. -/
def rtcpOthersSpec : ChangeSpec := { name := "rtcpOthers", fn := fun _ => fun
  | [d1, d2, d3] => { results := [.lit (.bool true)], args := [d1, d2, d3] }
  | _ => none }
def rtcpOthersRow : OpenClaim := { program := "ytgkejdjdccgjbaa", sum := "6caa4c00603dba65c96c1fc6c82f99e6324e253bafa09c0745fa82c4c2f731ea", func := "louver/louverlaw09.RtcpOthers", spec := "rtcpOthers", unfollowed := true, recurses := true, apart := false }
def RtcpOthersSaid : Prop := rtcpOthersRow.holds Try.pinned (OpenSpec.ofChange rtcpOthersSpec)

/-- ITS FALSE NEIGHBOUR: 'it returns false'. Refute it at one input. -/
def rtcpOthersWrong : ChangeSpec := { name := "rtcpOthers", fn := fun _ => fun
  | [d1, d2, d3] => { results := [.lit (.bool false)], args := [d1, d2, d3] }
  | _ => none }
def RtcpOthersWrongFalsely : Prop := rtcpOthersRow.holds Try.pinned (OpenSpec.ofChange rtcpOthersWrong)

/- THE SECOND FORM. 'bulk': how many values and letters a reading holds, each counted each time it is reached (what is shared counts as often as it is met; a slice's spare places count too). A statement '..UptoSaid' is the law's where the arguments, and the package variables that the reading takes, are together of bulk at most 1048576: NARROWER than '..Said'. Prove '..Said' where nothing that the law and all that it calls make is longer than what came in: it says more and counts as full. Else prove '..UptoSaid'. A law counts once. -/
mutual
def uptoBulk {H : Type} : DataW H → Nat
  | .lit (.string bytes) => bytes.length + 1
  | .lit _ => 1
  | .nil => 1
  | .ptr d => uptoBulk d + 1
  | .slice elems spare => uptoBulkAll elems + uptoBulkAll spare + 1
  | .agg parts => uptoBulkAll parts + 1
  | .iface _ d => uptoBulk d + 1
  | .map entries => uptoBulkEntries entries + 1
  | .held _ => 1
def uptoBulkAll {H : Type} : List (DataW H) → Nat
  | [] => 0
  | d :: r => uptoBulk d + uptoBulkAll r
def uptoBulkEntries {H : Type} : List (Lit × DataW H) → Nat
  | [] => 0
  | x :: r => uptoBulkEntry x + uptoBulkEntries r
def uptoBulkEntry {H : Type} : Lit × DataW H → Nat
  | (.string bytes, d) => bytes.length + uptoBulk d + 1
  | (_, d) => uptoBulk d + 1
 end
def uptoSmall : (H : Type) → List (DataW H) → Bool := fun _ ds => decide (uptoBulkAll ds ≤ 1048576)
def OpenSpec.upto (s : _root_.Go.ChangeSpec) : _root_.Go.OpenSpec := { _root_.Go.OpenSpec.ofChange s with cond := some uptoSmall }

/-- 'louverlaw09.RtcpPuts', WHERE WHAT IT READS IS OF BULK AT MOST 1048576: true; the input reads as it did. -/
def rtcpPutsUptoRow : OpenClaim := { program := "ytgkejdjdccgjbaa", sum := "6caa4c00603dba65c96c1fc6c82f99e6324e253bafa09c0745fa82c4c2f731ea", func := "louver/louverlaw09.RtcpPuts", spec := "rtcpPuts", unfollowed := true, recurses := true, apart := false, narrowed := true }
def RtcpPutsUptoSaid : Prop := rtcpPutsUptoRow.holds Try.pinned (OpenSpec.upto rtcpPutsSpec)

/-- 'louverlaw09.RtcpParses', WHERE WHAT IT READS IS OF BULK AT MOST 1048576: true; the input reads as it did. -/
def rtcpParsesUptoRow : OpenClaim := { program := "ytgkejdjdccgjbaa", sum := "6caa4c00603dba65c96c1fc6c82f99e6324e253bafa09c0745fa82c4c2f731ea", func := "louver/louverlaw09.RtcpParses", spec := "rtcpParses", unfollowed := true, recurses := true, apart := false, narrowed := true }
def RtcpParsesUptoSaid : Prop := rtcpParsesUptoRow.holds Try.pinned (OpenSpec.upto rtcpParsesSpec)

/-- 'louverlaw09.RtcpBack', WHERE WHAT IT READS IS OF BULK AT MOST 1048576: true; the input reads as it did. -/
def rtcpBackUptoRow : OpenClaim := { program := "ytgkejdjdccgjbaa", sum := "6caa4c00603dba65c96c1fc6c82f99e6324e253bafa09c0745fa82c4c2f731ea", func := "louver/louverlaw09.RtcpBack", spec := "rtcpBack", unfollowed := true, recurses := true, apart := false, narrowed := true }
def RtcpBackUptoSaid : Prop := rtcpBackUptoRow.holds Try.pinned (OpenSpec.upto rtcpBackSpec)

/-- 'louverlaw09.RtcpCuts', WHERE WHAT IT READS IS OF BULK AT MOST 1048576: true; the input reads as it did. -/
def rtcpCutsUptoRow : OpenClaim := { program := "ytgkejdjdccgjbaa", sum := "6caa4c00603dba65c96c1fc6c82f99e6324e253bafa09c0745fa82c4c2f731ea", func := "louver/louverlaw09.RtcpCuts", spec := "rtcpCuts", unfollowed := true, recurses := true, apart := false, narrowed := true }
def RtcpCutsUptoSaid : Prop := rtcpCutsUptoRow.holds Try.pinned (OpenSpec.upto rtcpCutsSpec)

/-- 'louverlaw09.RtcpJoins', WHERE WHAT IT READS IS OF BULK AT MOST 1048576: true; the input reads as it did. -/
def rtcpJoinsUptoRow : OpenClaim := { program := "ytgkejdjdccgjbaa", sum := "6caa4c00603dba65c96c1fc6c82f99e6324e253bafa09c0745fa82c4c2f731ea", func := "louver/louverlaw09.RtcpJoins", spec := "rtcpJoins", unfollowed := true, recurses := true, apart := false, narrowed := true }
def RtcpJoinsUptoSaid : Prop := rtcpJoinsUptoRow.holds Try.pinned (OpenSpec.upto rtcpJoinsSpec)

/-- 'louverlaw09.RtcpOthers', WHERE WHAT IT READS IS OF BULK AT MOST 1048576: true; the input reads as it did. -/
def rtcpOthersUptoRow : OpenClaim := { program := "ytgkejdjdccgjbaa", sum := "6caa4c00603dba65c96c1fc6c82f99e6324e253bafa09c0745fa82c4c2f731ea", func := "louver/louverlaw09.RtcpOthers", spec := "rtcpOthers", unfollowed := true, recurses := true, apart := false, narrowed := true }
def RtcpOthersUptoSaid : Prop := rtcpOthersUptoRow.holds Try.pinned (OpenSpec.upto rtcpOthersSpec)

end Rows
end Go.Proofs.Ytgkejdjdccgjbaa
