/-
  No cell of these rows narrows 'for every input' (looked for: loops, veiled, ifaces, maps, wideKeys, modest, calm, conditions, laid).
  DERIVED. THE GIVEN ROWS OF THIS SEAT. 8 by the template 'for every input the law returns true; each argument reads behind the call as it read before'; 0 by the template 'total and deterministic' (their statements: YtjalgklpjjkjfaaGreatTotals.lean).
  GIVEN WITH THE SEED: the statements are not yours to turn. If you find one false, say at which input.
  Laid BY PROGRAM, IN A SANDBOX (cutbox-rows.mjs): the forced cells as the released guide's own fill.sh prints them over the translation 1064962bf6792a2f… (all of the seat's roots in one cut). By AI agents, Wed Nov 11 2026. No macro, syntax, notation, axiom, sorry.
-/
import Derived.Test.YtjalgklpjjkjfaaGreatChecked
import GoSem.Claim
import GoSem.ClaimJoined
import GoSem.ClaimMapViews
import Derived.JoinedTies
import Derived.KernelRfl
namespace Go.Proofs.YtjalgklpjjkjfaaGreat
/- THE CELL 'sum', in the pinned program and in every row, IS THE sha256 OF THE DUMP (.gsa) THAT YtjalgklpjjkjfaaGreatProg.lean LOADS. Nothing in Lean hashes anything: it is a label: what it is worth is what the hold of that sum in a sandbox is worth. -/
noncomputable def Tryz.pinned : Pinned := { name := "ytjalgklpjjkjfaagreat", sum := "1064962bf6792a2f69e48505911b122c496e7771f8361f3e06f488c189aa9377", checked := Tryz.checked }
namespace Rows
def none {H : Type} : Left H := { results := [], args := [] }

/-- 'faultlinelaw26.CompileInputs': WHATEVER THE INPUT: true; the input reads as it did. -/
def compileInputsSpec : ChangeSpec := { name := "compileInputs", fn := fun _ => fun
  | [d1, d2] => { results := [.lit (.bool true)], args := [d1, d2] }
  | _ => none }
def compileInputsRow : OpenClaim := { program := "ytjalgklpjjkjfaagreat", sum := "1064962bf6792a2f69e48505911b122c496e7771f8361f3e06f488c189aa9377", func := "faultline/faultlinelaw26.CompileInputs", spec := "compileInputs", unfollowed := true, recurses := true, plainKeys := false, apart := false }
def CompileInputsSaid : Prop := compileInputsRow.holds Tryz.pinned (OpenSpec.ofChange compileInputsSpec)

/-- ITS FALSE NEIGHBOUR: 'it returns false'. Refute it at one input. -/
def compileInputsWrong : ChangeSpec := { name := "compileInputs", fn := fun _ => fun
  | [d1, d2] => { results := [.lit (.bool false)], args := [d1, d2] }
  | _ => none }
def CompileInputsWrongFalsely : Prop := compileInputsRow.holds Tryz.pinned (OpenSpec.ofChange compileInputsWrong)

/-- 'faultlinelaw26.CompileLists': WHATEVER THE INPUT: true; the input reads as it did. -/
def compileListsSpec : ChangeSpec := { name := "compileLists", fn := fun _ => fun
  | [d1, d2] => { results := [.lit (.bool true)], args := [d1, d2] }
  | _ => none }
def compileListsRow : OpenClaim := { program := "ytjalgklpjjkjfaagreat", sum := "1064962bf6792a2f69e48505911b122c496e7771f8361f3e06f488c189aa9377", func := "faultline/faultlinelaw26.CompileLists", spec := "compileLists", unfollowed := true, recurses := true, plainKeys := false, apart := false }
def CompileListsSaid : Prop := compileListsRow.holds Tryz.pinned (OpenSpec.ofChange compileListsSpec)

/-- ITS FALSE NEIGHBOUR: 'it returns false'. Refute it at one input. -/
def compileListsWrong : ChangeSpec := { name := "compileLists", fn := fun _ => fun
  | [d1, d2] => { results := [.lit (.bool false)], args := [d1, d2] }
  | _ => none }
def CompileListsWrongFalsely : Prop := compileListsRow.holds Tryz.pinned (OpenSpec.ofChange compileListsWrong)

/-- 'faultlinelaw26.CompileSame': WHATEVER THE INPUT: true; the input reads as it did. -/
def compileSameSpec : ChangeSpec := { name := "compileSame", fn := fun _ => fun
  | [d1, d2] => { results := [.lit (.bool true)], args := [d1, d2] }
  | _ => none }
def compileSameRow : OpenClaim := { program := "ytjalgklpjjkjfaagreat", sum := "1064962bf6792a2f69e48505911b122c496e7771f8361f3e06f488c189aa9377", func := "faultline/faultlinelaw26.CompileSame", spec := "compileSame", unfollowed := true, recurses := true, plainKeys := false, apart := false }
def CompileSameSaid : Prop := compileSameRow.holds Tryz.pinned (OpenSpec.ofChange compileSameSpec)

/-- ITS FALSE NEIGHBOUR: 'it returns false'. Refute it at one input. -/
def compileSameWrong : ChangeSpec := { name := "compileSame", fn := fun _ => fun
  | [d1, d2] => { results := [.lit (.bool false)], args := [d1, d2] }
  | _ => none }
def CompileSameWrongFalsely : Prop := compileSameRow.holds Tryz.pinned (OpenSpec.ofChange compileSameWrong)

/-- 'faultlinelaw25.PagesUses': WHATEVER THE INPUT: true; the input reads as it did. -/
def pagesUsesSpec : ChangeSpec := { name := "pagesUses", fn := fun _ => fun
  | [d] => { results := [.lit (.bool true)], args := [d] }
  | _ => none }
def pagesUsesRow : OpenClaim := { program := "ytjalgklpjjkjfaagreat", sum := "1064962bf6792a2f69e48505911b122c496e7771f8361f3e06f488c189aa9377", func := "faultline/faultlinelaw25.PagesUses", spec := "pagesUses", unfollowed := true, recurses := true, plainKeys := false, apart := false }
def PagesUsesSaid : Prop := pagesUsesRow.holds Tryz.pinned (OpenSpec.ofChange pagesUsesSpec)

/-- ITS FALSE NEIGHBOUR: 'it returns false'. Refute it at one input. -/
def pagesUsesWrong : ChangeSpec := { name := "pagesUses", fn := fun _ => fun
  | [d] => { results := [.lit (.bool false)], args := [d] }
  | _ => none }
def PagesUsesWrongFalsely : Prop := pagesUsesRow.holds Tryz.pinned (OpenSpec.ofChange pagesUsesWrong)

/-- 'faultlinelaw25.PagesMerge': WHATEVER THE INPUT: true; the input reads as it did. -/
def pagesMergeSpec : ChangeSpec := { name := "pagesMerge", fn := fun _ => fun
  | [d1, d2] => { results := [.lit (.bool true)], args := [d1, d2] }
  | _ => none }
def pagesMergeRow : OpenClaim := { program := "ytjalgklpjjkjfaagreat", sum := "1064962bf6792a2f69e48505911b122c496e7771f8361f3e06f488c189aa9377", func := "faultline/faultlinelaw25.PagesMerge", spec := "pagesMerge", unfollowed := true, recurses := true, plainKeys := false, apart := false }
def PagesMergeSaid : Prop := pagesMergeRow.holds Tryz.pinned (OpenSpec.ofChange pagesMergeSpec)

/-- ITS FALSE NEIGHBOUR: 'it returns false'. Refute it at one input. -/
def pagesMergeWrong : ChangeSpec := { name := "pagesMerge", fn := fun _ => fun
  | [d1, d2] => { results := [.lit (.bool false)], args := [d1, d2] }
  | _ => none }
def PagesMergeWrongFalsely : Prop := pagesMergeRow.holds Tryz.pinned (OpenSpec.ofChange pagesMergeWrong)

/-- 'faultlinelaw25.PagesInline': WHATEVER THE INPUT: true; the input reads as it did. -/
def pagesInlineSpec : ChangeSpec := { name := "pagesInline", fn := fun _ => fun
  | [d] => { results := [.lit (.bool true)], args := [d] }
  | _ => none }
def pagesInlineRow : OpenClaim := { program := "ytjalgklpjjkjfaagreat", sum := "1064962bf6792a2f69e48505911b122c496e7771f8361f3e06f488c189aa9377", func := "faultline/faultlinelaw25.PagesInline", spec := "pagesInline", unfollowed := true, recurses := true, plainKeys := false, apart := false }
def PagesInlineSaid : Prop := pagesInlineRow.holds Tryz.pinned (OpenSpec.ofChange pagesInlineSpec)

/-- ITS FALSE NEIGHBOUR: 'it returns false'. Refute it at one input. -/
def pagesInlineWrong : ChangeSpec := { name := "pagesInline", fn := fun _ => fun
  | [d] => { results := [.lit (.bool false)], args := [d] }
  | _ => none }
def PagesInlineWrongFalsely : Prop := pagesInlineRow.holds Tryz.pinned (OpenSpec.ofChange pagesInlineWrong)

/-- 'faultlinelaw25.PagesGone': WHATEVER THE INPUT: true; the input reads as it did. -/
def pagesGoneSpec : ChangeSpec := { name := "pagesGone", fn := fun _ => fun
  | [d] => { results := [.lit (.bool true)], args := [d] }
  | _ => none }
def pagesGoneRow : OpenClaim := { program := "ytjalgklpjjkjfaagreat", sum := "1064962bf6792a2f69e48505911b122c496e7771f8361f3e06f488c189aa9377", func := "faultline/faultlinelaw25.PagesGone", spec := "pagesGone", unfollowed := true, recurses := true, plainKeys := false, apart := false }
def PagesGoneSaid : Prop := pagesGoneRow.holds Tryz.pinned (OpenSpec.ofChange pagesGoneSpec)

/-- ITS FALSE NEIGHBOUR: 'it returns false'. Refute it at one input. -/
def pagesGoneWrong : ChangeSpec := { name := "pagesGone", fn := fun _ => fun
  | [d] => { results := [.lit (.bool false)], args := [d] }
  | _ => none }
def PagesGoneWrongFalsely : Prop := pagesGoneRow.holds Tryz.pinned (OpenSpec.ofChange pagesGoneWrong)

/-- 'faultlinelaw25.PagesSteps': WHATEVER THE INPUT: true; the input reads as it did. -/
def pagesStepsSpec : ChangeSpec := { name := "pagesSteps", fn := fun _ => fun
  | [d] => { results := [.lit (.bool true)], args := [d] }
  | _ => none }
def pagesStepsRow : OpenClaim := { program := "ytjalgklpjjkjfaagreat", sum := "1064962bf6792a2f69e48505911b122c496e7771f8361f3e06f488c189aa9377", func := "faultline/faultlinelaw25.PagesSteps", spec := "pagesSteps", unfollowed := true, recurses := true, plainKeys := false, apart := false }
def PagesStepsSaid : Prop := pagesStepsRow.holds Tryz.pinned (OpenSpec.ofChange pagesStepsSpec)

/-- ITS FALSE NEIGHBOUR: 'it returns false'. Refute it at one input. -/
def pagesStepsWrong : ChangeSpec := { name := "pagesSteps", fn := fun _ => fun
  | [d] => { results := [.lit (.bool false)], args := [d] }
  | _ => none }
def PagesStepsWrongFalsely : Prop := pagesStepsRow.holds Tryz.pinned (OpenSpec.ofChange pagesStepsWrong)

/- THE SECOND FORM. 'bulk': how many values and letters a reading holds, each counted each time it is reached (what is shared counts as often as it is met; a slice's spare places count too). A statement '..UptoSaid' is the law's where the arguments, and the package variables that the reading takes, are together of bulk at most 1048576: NARROWER than '..Said'. Prove '..Said' where nothing that the law and all that it calls make is longer than what came in: it says more and counts as full. Else prove '..UptoSaid'. A law counts once. -/
mutual
def uptoBulk {H : Type} : DataW H → Nat
  | .lit (.string bytes) => bytes.length + 1
  | .lit _ => 1
  | .nil => 1
  | .ptr d => uptoBulk d + 1
  | .slice elems spare => uptoBulkAll elems + uptoBulkAll spare + 1
  | .agg parts => uptoBulkAll parts + 1
  | .iface _ d => uptoBulk d + 1
  | .map entries => uptoBulkEntries entries + 1
  | .held _ => 1
def uptoBulkAll {H : Type} : List (DataW H) → Nat
  | [] => 0
  | d :: r => uptoBulk d + uptoBulkAll r
def uptoBulkEntries {H : Type} : List (Lit × DataW H) → Nat
  | [] => 0
  | x :: r => uptoBulkEntry x + uptoBulkEntries r
def uptoBulkEntry {H : Type} : Lit × DataW H → Nat
  | (.string bytes, d) => bytes.length + uptoBulk d + 1
  | (_, d) => uptoBulk d + 1
 end
def uptoSmall : (H : Type) → List (DataW H) → Bool := fun _ ds => decide (uptoBulkAll ds ≤ 1048576)
def OpenSpec.upto (s : _root_.Go.ChangeSpec) : _root_.Go.OpenSpec := { _root_.Go.OpenSpec.ofChange s with cond := some uptoSmall }

/-- 'faultlinelaw26.CompileInputs', WHERE WHAT IT READS IS OF BULK AT MOST 1048576: true; the input reads as it did. -/
def compileInputsUptoRow : OpenClaim := { program := "ytjalgklpjjkjfaagreat", sum := "1064962bf6792a2f69e48505911b122c496e7771f8361f3e06f488c189aa9377", func := "faultline/faultlinelaw26.CompileInputs", spec := "compileInputs", unfollowed := true, recurses := true, plainKeys := false, apart := false, narrowed := true }
def CompileInputsUptoSaid : Prop := compileInputsUptoRow.holds Tryz.pinned (OpenSpec.upto compileInputsSpec)

/-- 'faultlinelaw26.CompileLists', WHERE WHAT IT READS IS OF BULK AT MOST 1048576: true; the input reads as it did. -/
def compileListsUptoRow : OpenClaim := { program := "ytjalgklpjjkjfaagreat", sum := "1064962bf6792a2f69e48505911b122c496e7771f8361f3e06f488c189aa9377", func := "faultline/faultlinelaw26.CompileLists", spec := "compileLists", unfollowed := true, recurses := true, plainKeys := false, apart := false, narrowed := true }
def CompileListsUptoSaid : Prop := compileListsUptoRow.holds Tryz.pinned (OpenSpec.upto compileListsSpec)

/-- 'faultlinelaw26.CompileSame', WHERE WHAT IT READS IS OF BULK AT MOST 1048576: true; the input reads as it did. -/
def compileSameUptoRow : OpenClaim := { program := "ytjalgklpjjkjfaagreat", sum := "1064962bf6792a2f69e48505911b122c496e7771f8361f3e06f488c189aa9377", func := "faultline/faultlinelaw26.CompileSame", spec := "compileSame", unfollowed := true, recurses := true, plainKeys := false, apart := false, narrowed := true }
def CompileSameUptoSaid : Prop := compileSameUptoRow.holds Tryz.pinned (OpenSpec.upto compileSameSpec)

/-- 'faultlinelaw25.PagesUses', WHERE WHAT IT READS IS OF BULK AT MOST 1048576: true; the input reads as it did. -/
def pagesUsesUptoRow : OpenClaim := { program := "ytjalgklpjjkjfaagreat", sum := "1064962bf6792a2f69e48505911b122c496e7771f8361f3e06f488c189aa9377", func := "faultline/faultlinelaw25.PagesUses", spec := "pagesUses", unfollowed := true, recurses := true, plainKeys := false, apart := false, narrowed := true }
def PagesUsesUptoSaid : Prop := pagesUsesUptoRow.holds Tryz.pinned (OpenSpec.upto pagesUsesSpec)

/-- 'faultlinelaw25.PagesMerge', WHERE WHAT IT READS IS OF BULK AT MOST 1048576: true; the input reads as it did. -/
def pagesMergeUptoRow : OpenClaim := { program := "ytjalgklpjjkjfaagreat", sum := "1064962bf6792a2f69e48505911b122c496e7771f8361f3e06f488c189aa9377", func := "faultline/faultlinelaw25.PagesMerge", spec := "pagesMerge", unfollowed := true, recurses := true, plainKeys := false, apart := false, narrowed := true }
def PagesMergeUptoSaid : Prop := pagesMergeUptoRow.holds Tryz.pinned (OpenSpec.upto pagesMergeSpec)

/-- 'faultlinelaw25.PagesInline', WHERE WHAT IT READS IS OF BULK AT MOST 1048576: true; the input reads as it did. -/
def pagesInlineUptoRow : OpenClaim := { program := "ytjalgklpjjkjfaagreat", sum := "1064962bf6792a2f69e48505911b122c496e7771f8361f3e06f488c189aa9377", func := "faultline/faultlinelaw25.PagesInline", spec := "pagesInline", unfollowed := true, recurses := true, plainKeys := false, apart := false, narrowed := true }
def PagesInlineUptoSaid : Prop := pagesInlineUptoRow.holds Tryz.pinned (OpenSpec.upto pagesInlineSpec)

/-- 'faultlinelaw25.PagesGone', WHERE WHAT IT READS IS OF BULK AT MOST 1048576: true; the input reads as it did. -/
def pagesGoneUptoRow : OpenClaim := { program := "ytjalgklpjjkjfaagreat", sum := "1064962bf6792a2f69e48505911b122c496e7771f8361f3e06f488c189aa9377", func := "faultline/faultlinelaw25.PagesGone", spec := "pagesGone", unfollowed := true, recurses := true, plainKeys := false, apart := false, narrowed := true }
def PagesGoneUptoSaid : Prop := pagesGoneUptoRow.holds Tryz.pinned (OpenSpec.upto pagesGoneSpec)

/-- 'faultlinelaw25.PagesSteps', WHERE WHAT IT READS IS OF BULK AT MOST 1048576: true; the input reads as it did. -/
def pagesStepsUptoRow : OpenClaim := { program := "ytjalgklpjjkjfaagreat", sum := "1064962bf6792a2f69e48505911b122c496e7771f8361f3e06f488c189aa9377", func := "faultline/faultlinelaw25.PagesSteps", spec := "pagesSteps", unfollowed := true, recurses := true, plainKeys := false, apart := false, narrowed := true }
def PagesStepsUptoSaid : Prop := pagesStepsUptoRow.holds Tryz.pinned (OpenSpec.upto pagesStepsSpec)

end Rows
end Go.Proofs.YtjalgklpjjkjfaaGreat
