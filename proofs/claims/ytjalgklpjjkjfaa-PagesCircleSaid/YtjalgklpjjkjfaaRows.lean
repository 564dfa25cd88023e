/-
  No cell of these rows narrows 'for every input' (looked for: loops, veiled, ifaces, maps, wideKeys, modest, calm, conditions, laid).
  DERIVED. THE GIVEN ROWS OF THIS SEAT. 4 by the template 'for every input the law returns true; each argument reads behind the call as it read before'; 0 by the template 'total and deterministic' (their statements: YtjalgklpjjkjfaaTotals.lean).
  GIVEN WITH THE SEED: the statements are not yours to turn. If you find one false, say at which input.
  Laid BY PROGRAM, IN A SANDBOX (cutbox-rows.mjs): the forced cells as the released guide's own fill.sh prints them over the translation 60ce0d8216de46ab… (all of the seat's roots in one cut). By AI agents, Wed Nov 11 2026. No macro, syntax, notation, axiom, sorry.
-/
import Derived.Test.YtjalgklpjjkjfaaChecked
import GoSem.Claim
import GoSem.ClaimJoined
import GoSem.ClaimMapViews
import Derived.JoinedTies
import Derived.KernelRfl
namespace Go.Proofs.Ytjalgklpjjkjfaa
/- THE CELL 'sum', in the pinned program and in every row, IS THE sha256 OF THE DUMP (.gsa) THAT YtjalgklpjjkjfaaProg.lean LOADS. Nothing in Lean hashes anything: it is a label: what it is worth is what the hold of that sum in a sandbox is worth. -/
noncomputable def Try.pinned : Pinned := { name := "ytjalgklpjjkjfaa", sum := "60ce0d8216de46abd0252be239a06773461515f59a0147a9a78da388deb7f724", checked := Try.checked }
namespace Rows
def none {H : Type} : Left H := { results := [], args := [] }

/-- 'faultlinelaw26.CompileNeeds': WHATEVER THE INPUT: true; the input reads as it did. -/
def compileNeedsSpec : ChangeSpec := { name := "compileNeeds", fn := fun _ => fun
  | [d] => { results := [.lit (.bool true)], args := [d] }
  | _ => none }
def compileNeedsRow : OpenClaim := { program := "ytjalgklpjjkjfaa", sum := "60ce0d8216de46abd0252be239a06773461515f59a0147a9a78da388deb7f724", func := "faultline/faultlinelaw26.CompileNeeds", spec := "compileNeeds", unfollowed := true, recurses := true, plainKeys := false, apart := false }
def CompileNeedsSaid : Prop := compileNeedsRow.holds Try.pinned (OpenSpec.ofChange compileNeedsSpec)

/-- ITS FALSE NEIGHBOUR: 'it returns false'. Refute it at one input. -/
def compileNeedsWrong : ChangeSpec := { name := "compileNeeds", fn := fun _ => fun
  | [d] => { results := [.lit (.bool false)], args := [d] }
  | _ => none }
def CompileNeedsWrongFalsely : Prop := compileNeedsRow.holds Try.pinned (OpenSpec.ofChange compileNeedsWrong)

/-- 'faultlinelaw26.CompileMeans': WHATEVER THE INPUT: true; the input reads as it did. -/
def compileMeansSpec : ChangeSpec := { name := "compileMeans", fn := fun _ => fun
  | [d1, d2] => { results := [.lit (.bool true)], args := [d1, d2] }
  | _ => none }
def compileMeansRow : OpenClaim := { program := "ytjalgklpjjkjfaa", sum := "60ce0d8216de46abd0252be239a06773461515f59a0147a9a78da388deb7f724", func := "faultline/faultlinelaw26.CompileMeans", spec := "compileMeans", unfollowed := true, recurses := true, plainKeys := false, apart := false }
def CompileMeansSaid : Prop := compileMeansRow.holds Try.pinned (OpenSpec.ofChange compileMeansSpec)

/-- ITS FALSE NEIGHBOUR: 'it returns false'. Refute it at one input. -/
def compileMeansWrong : ChangeSpec := { name := "compileMeans", fn := fun _ => fun
  | [d1, d2] => { results := [.lit (.bool false)], args := [d1, d2] }
  | _ => none }
def CompileMeansWrongFalsely : Prop := compileMeansRow.holds Try.pinned (OpenSpec.ofChange compileMeansWrong)

/-- 'faultlinelaw26.CompileHouses': WHATEVER THE INPUT: true; the input reads as it did. -/
def compileHousesSpec : ChangeSpec := { name := "compileHouses", fn := fun _ => fun
  | [d1, d2, d3] => { results := [.lit (.bool true)], args := [d1, d2, d3] }
  | _ => none }
def compileHousesRow : OpenClaim := { program := "ytjalgklpjjkjfaa", sum := "60ce0d8216de46abd0252be239a06773461515f59a0147a9a78da388deb7f724", func := "faultline/faultlinelaw26.CompileHouses", spec := "compileHouses", unfollowed := true, recurses := true, plainKeys := false, apart := false }
def CompileHousesSaid : Prop := compileHousesRow.holds Try.pinned (OpenSpec.ofChange compileHousesSpec)

/-- ITS FALSE NEIGHBOUR: 'it returns false'. Refute it at one input. -/
def compileHousesWrong : ChangeSpec := { name := "compileHouses", fn := fun _ => fun
  | [d1, d2, d3] => { results := [.lit (.bool false)], args := [d1, d2, d3] }
  | _ => none }
def CompileHousesWrongFalsely : Prop := compileHousesRow.holds Try.pinned (OpenSpec.ofChange compileHousesWrong)

/-- 'faultlinelaw25.PagesCircle': WHATEVER THE INPUT: true; the input reads as it did. -/
def pagesCircleSpec : ChangeSpec := { name := "pagesCircle", fn := fun _ => fun
  | [d] => { results := [.lit (.bool true)], args := [d] }
  | _ => none }
def pagesCircleRow : OpenClaim := { program := "ytjalgklpjjkjfaa", sum := "60ce0d8216de46abd0252be239a06773461515f59a0147a9a78da388deb7f724", func := "faultline/faultlinelaw25.PagesCircle", spec := "pagesCircle", unfollowed := true, recurses := true, plainKeys := false, apart := false }
def PagesCircleSaid : Prop := pagesCircleRow.holds Try.pinned (OpenSpec.ofChange pagesCircleSpec)

/-- ITS FALSE NEIGHBOUR: 'it returns false'. Refute it at one input. -/
def pagesCircleWrong : ChangeSpec := { name := "pagesCircle", fn := fun _ => fun
  | [d] => { results := [.lit (.bool false)], args := [d] }
  | _ => none }
def PagesCircleWrongFalsely : Prop := pagesCircleRow.holds Try.pinned (OpenSpec.ofChange pagesCircleWrong)

/- THE SECOND FORM. 'bulk': how many values and letters a reading holds, each counted each time it is reached (what is shared counts as often as it is met; a slice's spare places count too). A statement '..UptoSaid' is the law's where the arguments, and the package variables that the reading takes, are together of bulk at most 1048576: NARROWER than '..Said'. Prove '..Said' where nothing that the law and all that it calls make is longer than what came in: it says more and counts as full. Else prove '..UptoSaid'. A law counts once. -/
mutual
def uptoBulk {H : Type} : DataW H → Nat
  | .lit (.string bytes) => bytes.length + 1
  | .lit _ => 1
  | .nil => 1
  | .ptr d => uptoBulk d + 1
  | .slice elems spare => uptoBulkAll elems + uptoBulkAll spare + 1
  | .agg parts => uptoBulkAll parts + 1
  | .iface _ d => uptoBulk d + 1
  | .map entries => uptoBulkEntries entries + 1
  | .held _ => 1
def uptoBulkAll {H : Type} : List (DataW H) → Nat
  | [] => 0
  | d :: r => uptoBulk d + uptoBulkAll r
def uptoBulkEntries {H : Type} : List (Lit × DataW H) → Nat
  | [] => 0
  | x :: r => uptoBulkEntry x + uptoBulkEntries r
def uptoBulkEntry {H : Type} : Lit × DataW H → Nat
  | (.string bytes, d) => bytes.length + uptoBulk d + 1
  | (_, d) => uptoBulk d + 1
 end
def uptoSmall : (H : Type) → List (DataW H) → Bool := fun _ ds => decide (uptoBulkAll ds ≤ 1048576)
def OpenSpec.upto (s : _root_.Go.ChangeSpec) : _root_.Go.OpenSpec := { _root_.Go.OpenSpec.ofChange s with cond := some uptoSmall }

/-- 'faultlinelaw26.CompileNeeds', WHERE WHAT IT READS IS OF BULK AT MOST 1048576: true; the input reads as it did. -/
def compileNeedsUptoRow : OpenClaim := { program := "ytjalgklpjjkjfaa", sum := "60ce0d8216de46abd0252be239a06773461515f59a0147a9a78da388deb7f724", func := "faultline/faultlinelaw26.CompileNeeds", spec := "compileNeeds", unfollowed := true, recurses := true, plainKeys := false, apart := false, narrowed := true }
def CompileNeedsUptoSaid : Prop := compileNeedsUptoRow.holds Try.pinned (OpenSpec.upto compileNeedsSpec)

/-- 'faultlinelaw26.CompileMeans', WHERE WHAT IT READS IS OF BULK AT MOST 1048576: true; the input reads as it did. -/
def compileMeansUptoRow : OpenClaim := { program := "ytjalgklpjjkjfaa", sum := "60ce0d8216de46abd0252be239a06773461515f59a0147a9a78da388deb7f724", func := "faultline/faultlinelaw26.CompileMeans", spec := "compileMeans", unfollowed := true, recurses := true, plainKeys := false, apart := false, narrowed := true }
def CompileMeansUptoSaid : Prop := compileMeansUptoRow.holds Try.pinned (OpenSpec.upto compileMeansSpec)

/-- 'faultlinelaw26.CompileHouses', WHERE WHAT IT READS IS OF BULK AT MOST 1048576: true; the input reads as it did. -/
def compileHousesUptoRow : OpenClaim := { program := "ytjalgklpjjkjfaa", sum := "60ce0d8216de46abd0252be239a06773461515f59a0147a9a78da388deb7f724", func := "faultline/faultlinelaw26.CompileHouses", spec := "compileHouses", unfollowed := true, recurses := true, plainKeys := false, apart := false, narrowed := true }
def CompileHousesUptoSaid : Prop := compileHousesUptoRow.holds Try.pinned (OpenSpec.upto compileHousesSpec)

/-- 'faultlinelaw25.PagesCircle', WHERE WHAT IT READS IS OF BULK AT MOST 1048576: true; the input reads as it did. -/
def pagesCircleUptoRow : OpenClaim := { program := "ytjalgklpjjkjfaa", sum := "60ce0d8216de46abd0252be239a06773461515f59a0147a9a78da388deb7f724", func := "faultline/faultlinelaw25.PagesCircle", spec := "pagesCircle", unfollowed := true, recurses := true, plainKeys := false, apart := false, narrowed := true }
def PagesCircleUptoSaid : Prop := pagesCircleUptoRow.holds Try.pinned (OpenSpec.upto pagesCircleSpec)

end Rows
end Go.Proofs.Ytjalgklpjjkjfaa
