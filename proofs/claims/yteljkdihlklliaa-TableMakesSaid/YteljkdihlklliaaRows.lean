/-
  No cell of these rows narrows 'for every input' (looked for: loops, veiled, ifaces, maps, wideKeys, modest, calm, conditions, laid).
  DERIVED. THE GIVEN ROWS OF THIS SEAT. 4 by the template 'for every input the law returns true; each argument reads behind the call as it read before'; 0 by the template 'total and deterministic' (their statements: YteljkdihlklliaaTotals.lean).
  GIVEN WITH THE SEED: the statements are not yours to turn. If you find one false, say at which input.
  Laid BY PROGRAM, IN A SANDBOX (cutbox-rows.mjs): the forced cells as the released guide's own fill.sh prints them over the translation 9c1dc6afcddd4feb… (all of the seat's roots in one cut). By AI agents, Wed Nov 11 2026. No macro, syntax, notation, axiom, sorry.
-/
import Derived.Test.YteljkdihlklliaaChecked
import GoSem.Claim
import GoSem.ClaimJoined
import GoSem.ClaimMapViews
import Derived.JoinedTies
import Derived.KernelRfl
namespace Go.Proofs.Yteljkdihlklliaa
/- THE CELL 'sum', in the pinned program and in every row, IS THE sha256 OF THE DUMP (.gsa) THAT YteljkdihlklliaaProg.lean LOADS. Nothing in Lean hashes anything: it is a label: what it is worth is what the hold of that sum in a sandbox is worth. -/
noncomputable def Try.pinned : Pinned := { name := "yteljkdihlklliaa", sum := "9c1dc6afcddd4febcda88d4afc5535aae268f37f7ca0e36ed8df1961f64ce792", checked := Try.checked }
namespace Rows
def none {H : Type} : Left H := { results := [], args := [] }

/-- 'louverlaw17.TableMakes': WHATEVER THE INPUT: true; the input reads as it did. -/
def tableMakesSpec : ChangeSpec := { name := "tableMakes", fn := fun _ => fun
  | [d1, d2, d3, d4, d5, d6] => { results := [.lit (.bool true)], args := [d1, d2, d3, d4, d5, d6] }
  | _ => none }
def tableMakesRow : OpenClaim := { program := "yteljkdihlklliaa", sum := "9c1dc6afcddd4febcda88d4afc5535aae268f37f7ca0e36ed8df1961f64ce792", func := "louver/louverlaw17.TableMakes", spec := "tableMakes", unfollowed := true, recurses := true, plainKeys := false, apart := false }
def TableMakesSaid : Prop := tableMakesRow.holds Try.pinned (OpenSpec.ofChange tableMakesSpec)

/-- ITS FALSE NEIGHBOUR: 'it returns false'. Refute it at one input. -/
def tableMakesWrong : ChangeSpec := { name := "tableMakes", fn := fun _ => fun
  | [d1, d2, d3, d4, d5, d6] => { results := [.lit (.bool false)], args := [d1, d2, d3, d4, d5, d6] }
  | _ => none }
def TableMakesWrongFalsely : Prop := tableMakesRow.holds Try.pinned (OpenSpec.ofChange tableMakesWrong)

/-- 'louverlaw17.TableStays': WHATEVER THE INPUT: true; the input reads as it did. -/
def tableStaysSpec : ChangeSpec := { name := "tableStays", fn := fun _ => fun
  | [d1, d2] => { results := [.lit (.bool true)], args := [d1, d2] }
  | _ => none }
def tableStaysRow : OpenClaim := { program := "yteljkdihlklliaa", sum := "9c1dc6afcddd4febcda88d4afc5535aae268f37f7ca0e36ed8df1961f64ce792", func := "louver/louverlaw17.TableStays", spec := "tableStays", unfollowed := true, recurses := true, plainKeys := false, apart := false }
def TableStaysSaid : Prop := tableStaysRow.holds Try.pinned (OpenSpec.ofChange tableStaysSpec)

/-- ITS FALSE NEIGHBOUR: 'it returns false'. Refute it at one input. -/
def tableStaysWrong : ChangeSpec := { name := "tableStays", fn := fun _ => fun
  | [d1, d2] => { results := [.lit (.bool false)], args := [d1, d2] }
  | _ => none }
def TableStaysWrongFalsely : Prop := tableStaysRow.holds Try.pinned (OpenSpec.ofChange tableStaysWrong)

/-- 'louverlaw17.TableParts': WHATEVER THE INPUT: true; the input reads as it did. -/
def tablePartsSpec : ChangeSpec := { name := "tableParts", fn := fun _ => fun
  | [d1, d2] => { results := [.lit (.bool true)], args := [d1, d2] }
  | _ => none }
def tablePartsRow : OpenClaim := { program := "yteljkdihlklliaa", sum := "9c1dc6afcddd4febcda88d4afc5535aae268f37f7ca0e36ed8df1961f64ce792", func := "louver/louverlaw17.TableParts", spec := "tableParts", unfollowed := true, recurses := true, plainKeys := false, apart := false }
def TablePartsSaid : Prop := tablePartsRow.holds Try.pinned (OpenSpec.ofChange tablePartsSpec)

/-- ITS FALSE NEIGHBOUR: 'it returns false'. Refute it at one input. -/
def tablePartsWrong : ChangeSpec := { name := "tableParts", fn := fun _ => fun
  | [d1, d2] => { results := [.lit (.bool false)], args := [d1, d2] }
  | _ => none }
def TablePartsWrongFalsely : Prop := tablePartsRow.holds Try.pinned (OpenSpec.ofChange tablePartsWrong)

/-- 'louverlaw17.TableOthers': WHATEVER THE INPUT: true; the input reads as it did. -/
def tableOthersSpec : ChangeSpec := { name := "tableOthers", fn := fun _ => fun
  | [d1, d2, d3] => { results := [.lit (.bool true)], args := [d1, d2, d3] }
  | _ => none }
def tableOthersRow : OpenClaim := { program := "yteljkdihlklliaa", sum := "9c1dc6afcddd4febcda88d4afc5535aae268f37f7ca0e36ed8df1961f64ce792", func := "louver/louverlaw17.TableOthers", spec := "tableOthers", unfollowed := true, recurses := true, plainKeys := false, apart := false }
def TableOthersSaid : Prop := tableOthersRow.holds Try.pinned (OpenSpec.ofChange tableOthersSpec)

/-- ITS FALSE NEIGHBOUR: 'it returns false'. Refute it at one input. -/
def tableOthersWrong : ChangeSpec := { name := "tableOthers", fn := fun _ => fun
  | [d1, d2, d3] => { results := [.lit (.bool false)], args := [d1, d2, d3] }
  | _ => none }
def TableOthersWrongFalsely : Prop := tableOthersRow.holds Try.pinned (OpenSpec.ofChange tableOthersWrong)

/- THE SECOND FORM. 'bulk': how many values and letters a reading holds, each counted each time it is reached (what is shared counts as often as it is met; a slice's spare places count too). A statement '..UptoSaid' is the law's where the arguments, and the package variables that the reading takes, are together of bulk at most 1048576: NARROWER than '..Said'. Prove '..Said' where nothing that the law and all that it calls make is longer than what came in: it says more and counts as full. Else prove '..UptoSaid'. A law counts once. -/
mutual
def uptoBulk {H : Type} : DataW H → Nat
  | .lit (.string bytes) => bytes.length + 1
  | .lit _ => 1
  | .nil => 1
  | .ptr d => uptoBulk d + 1
  | .slice elems spare => uptoBulkAll elems + uptoBulkAll spare + 1
  | .agg parts => uptoBulkAll parts + 1
  | .iface _ d => uptoBulk d + 1
  | .map entries => uptoBulkEntries entries + 1
  | .held _ => 1
def uptoBulkAll {H : Type} : List (DataW H) → Nat
  | [] => 0
  | d :: r => uptoBulk d + uptoBulkAll r
def uptoBulkEntries {H : Type} : List (Lit × DataW H) → Nat
  | [] => 0
  | x :: r => uptoBulkEntry x + uptoBulkEntries r
def uptoBulkEntry {H : Type} : Lit × DataW H → Nat
  | (.string bytes, d) => bytes.length + uptoBulk d + 1
  | (_, d) => uptoBulk d + 1
 end
def uptoSmall : (H : Type) → List (DataW H) → Bool := fun _ ds => decide (uptoBulkAll ds ≤ 1048576)
def OpenSpec.upto (s : _root_.Go.ChangeSpec) : _root_.Go.OpenSpec := { _root_.Go.OpenSpec.ofChange s with cond := some uptoSmall }

/-- 'louverlaw17.TableMakes', WHERE WHAT IT READS IS OF BULK AT MOST 1048576: true; the input reads as it did. -/
def tableMakesUptoRow : OpenClaim := { program := "yteljkdihlklliaa", sum := "9c1dc6afcddd4febcda88d4afc5535aae268f37f7ca0e36ed8df1961f64ce792", func := "louver/louverlaw17.TableMakes", spec := "tableMakes", unfollowed := true, recurses := true, plainKeys := false, apart := false, narrowed := true }
def TableMakesUptoSaid : Prop := tableMakesUptoRow.holds Try.pinned (OpenSpec.upto tableMakesSpec)

/-- 'louverlaw17.TableStays', WHERE WHAT IT READS IS OF BULK AT MOST 1048576: true; the input reads as it did. -/
def tableStaysUptoRow : OpenClaim := { program := "yteljkdihlklliaa", sum := "9c1dc6afcddd4febcda88d4afc5535aae268f37f7ca0e36ed8df1961f64ce792", func := "louver/louverlaw17.TableStays", spec := "tableStays", unfollowed := true, recurses := true, plainKeys := false, apart := false, narrowed := true }
def TableStaysUptoSaid : Prop := tableStaysUptoRow.holds Try.pinned (OpenSpec.upto tableStaysSpec)

/-- 'louverlaw17.TableParts', WHERE WHAT IT READS IS OF BULK AT MOST 1048576: true; the input reads as it did. -/
def tablePartsUptoRow : OpenClaim := { program := "yteljkdihlklliaa", sum := "9c1dc6afcddd4febcda88d4afc5535aae268f37f7ca0e36ed8df1961f64ce792", func := "louver/louverlaw17.TableParts", spec := "tableParts", unfollowed := true, recurses := true, plainKeys := false, apart := false, narrowed := true }
def TablePartsUptoSaid : Prop := tablePartsUptoRow.holds Try.pinned (OpenSpec.upto tablePartsSpec)

/-- 'louverlaw17.TableOthers', WHERE WHAT IT READS IS OF BULK AT MOST 1048576: true; the input reads as it did. -/
def tableOthersUptoRow : OpenClaim := { program := "yteljkdihlklliaa", sum := "9c1dc6afcddd4febcda88d4afc5535aae268f37f7ca0e36ed8df1961f64ce792", func := "louver/louverlaw17.TableOthers", spec := "tableOthers", unfollowed := true, recurses := true, plainKeys := false, apart := false, narrowed := true }
def TableOthersUptoSaid : Prop := tableOthersUptoRow.holds Try.pinned (OpenSpec.upto tableOthersSpec)

end Rows
end Go.Proofs.Yteljkdihlklliaa
