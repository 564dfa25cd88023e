/-
  No cell of these rows narrows 'for every input' (looked for: loops, veiled, ifaces, maps, wideKeys, modest, calm, conditions, laid).
  DERIVED. THE GIVEN ROWS OF THIS SEAT. 2 by the template 'for every input the law returns true; each argument reads behind the call as it read before'; 0 by the template 'total and deterministic' (their statements: YtdkhmfabhfgemaaGreatTotals.lean).
  GIVEN WITH THE SEED: the statements are not yours to turn. If you find one false, say at which input.
  Laid BY PROGRAM, IN A SANDBOX (cutbox-rows.mjs): the forced cells as the released guide's own fill.sh prints them over the translation 5c24c792cae39524… (all of the seat's roots in one cut). By AI agents, Wed Nov 11 2026. No macro, syntax, notation, axiom, sorry.
-/
import Derived.Test.YtdkhmfabhfgemaaGreatChecked
import GoSem.Claim
import GoSem.ClaimJoined
import GoSem.ClaimMapViews
import Derived.JoinedTies
import Derived.KernelRfl
namespace Go.Proofs.YtdkhmfabhfgemaaGreat
/- THE CELL 'sum', in the pinned program and in every row, IS THE sha256 OF THE DUMP (.gsa) THAT YtdkhmfabhfgemaaGreatProg.lean LOADS. Nothing in Lean hashes anything: it is a label: what it is worth is what the hold of that sum in a sandbox is worth. -/
noncomputable def Tryz.pinned : Pinned := { name := "ytdkhmfabhfgemaagreat", sum := "5c24c792cae395246834beb439125a731cde7de567affb2119b8697423493bc7", checked := Tryz.checked }
namespace Rows
def none {H : Type} : Left H := { results := [], args := [] }

/-- 'faultlinelaw59.CompareModels': WHATEVER THE INPUT: true; the input reads as it did. -/
def compareModelsSpec : ChangeSpec := { name := "compareModels", fn := fun _ => fun
  | [d1, d2] => { results := [.lit (.bool true)], args := [d1, d2] }
  | _ => none }
def compareModelsRow : OpenClaim := { program := "ytdkhmfabhfgemaagreat", sum := "5c24c792cae395246834beb439125a731cde7de567affb2119b8697423493bc7", func := "faultline/faultlinelaw59.CompareModels", spec := "compareModels", unfollowed := true, recurses := true, plainKeys := false, apart := false }
def CompareModelsSaid : Prop := compareModelsRow.holds Tryz.pinned (OpenSpec.ofChange compareModelsSpec)

/-- ITS FALSE NEIGHBOUR: 'it returns false'. Refute it at one input. -/
def compareModelsWrong : ChangeSpec := { name := "compareModels", fn := fun _ => fun
  | [d1, d2] => { results := [.lit (.bool false)], args := [d1, d2] }
  | _ => none }
def CompareModelsWrongFalsely : Prop := compareModelsRow.holds Tryz.pinned (OpenSpec.ofChange compareModelsWrong)

/-- 'faultlinelaw59.CompareRenames': WHATEVER THE INPUT: true; the input reads as it did. -/
def compareRenamesSpec : ChangeSpec := { name := "compareRenames", fn := fun _ => fun
  | [d1, d2, d3] => { results := [.lit (.bool true)], args := [d1, d2, d3] }
  | _ => none }
def compareRenamesRow : OpenClaim := { program := "ytdkhmfabhfgemaagreat", sum := "5c24c792cae395246834beb439125a731cde7de567affb2119b8697423493bc7", func := "faultline/faultlinelaw59.CompareRenames", spec := "compareRenames", unfollowed := true, recurses := true, plainKeys := false, apart := false }
def CompareRenamesSaid : Prop := compareRenamesRow.holds Tryz.pinned (OpenSpec.ofChange compareRenamesSpec)

/-- ITS FALSE NEIGHBOUR: 'it returns false'. Refute it at one input. -/
def compareRenamesWrong : ChangeSpec := { name := "compareRenames", fn := fun _ => fun
  | [d1, d2, d3] => { results := [.lit (.bool false)], args := [d1, d2, d3] }
  | _ => none }
def CompareRenamesWrongFalsely : Prop := compareRenamesRow.holds Tryz.pinned (OpenSpec.ofChange compareRenamesWrong)

/- THE SECOND FORM. 'bulk': how many values and letters a reading holds, each counted each time it is reached (what is shared counts as often as it is met; a slice's spare places count too). A statement '..UptoSaid' is the law's where the arguments, and the package variables that the reading takes, are together of bulk at most 1048576: NARROWER than '..Said'. Prove '..Said' where nothing that the law and all that it calls make is longer than what came in: it says more and counts as full. Else prove '..UptoSaid'. A law counts once. -/
mutual
def uptoBulk {H : Type} : DataW H → Nat
  | .lit (.string bytes) => bytes.length + 1
  | .lit _ => 1
  | .nil => 1
  | .ptr d => uptoBulk d + 1
  | .slice elems spare => uptoBulkAll elems + uptoBulkAll spare + 1
  | .agg parts => uptoBulkAll parts + 1
  | .iface _ d => uptoBulk d + 1
  | .map entries => uptoBulkEntries entries + 1
  | .held _ => 1
def uptoBulkAll {H : Type} : List (DataW H) → Nat
  | [] => 0
  | d :: r => uptoBulk d + uptoBulkAll r
def uptoBulkEntries {H : Type} : List (Lit × DataW H) → Nat
  | [] => 0
  | x :: r => uptoBulkEntry x + uptoBulkEntries r
def uptoBulkEntry {H : Type} : Lit × DataW H → Nat
  | (.string bytes, d) => bytes.length + uptoBulk d + 1
  | (_, d) => uptoBulk d + 1
 end
def uptoSmall : (H : Type) → List (DataW H) → Bool := fun _ ds => decide (uptoBulkAll ds ≤ 1048576)
def OpenSpec.upto (s : _root_.Go.ChangeSpec) : _root_.Go.OpenSpec := { _root_.Go.OpenSpec.ofChange s with cond := some uptoSmall }

/-- 'faultlinelaw59.CompareModels', WHERE WHAT IT READS IS OF BULK AT MOST 1048576: true; the input reads as it did. -/
def compareModelsUptoRow : OpenClaim := { program := "ytdkhmfabhfgemaagreat", sum := "5c24c792cae395246834beb439125a731cde7de567affb2119b8697423493bc7", func := "faultline/faultlinelaw59.CompareModels", spec := "compareModels", unfollowed := true, recurses := true, plainKeys := false, apart := false, narrowed := true }
def CompareModelsUptoSaid : Prop := compareModelsUptoRow.holds Tryz.pinned (OpenSpec.upto compareModelsSpec)

/-- 'faultlinelaw59.CompareRenames', WHERE WHAT IT READS IS OF BULK AT MOST 1048576: true; the input reads as it did. -/
def compareRenamesUptoRow : OpenClaim := { program := "ytdkhmfabhfgemaagreat", sum := "5c24c792cae395246834beb439125a731cde7de567affb2119b8697423493bc7", func := "faultline/faultlinelaw59.CompareRenames", spec := "compareRenames", unfollowed := true, recurses := true, plainKeys := false, apart := false, narrowed := true }
def CompareRenamesUptoSaid : Prop := compareRenamesUptoRow.holds Tryz.pinned (OpenSpec.upto compareRenamesSpec)

end Rows
end Go.Proofs.YtdkhmfabhfgemaaGreat
