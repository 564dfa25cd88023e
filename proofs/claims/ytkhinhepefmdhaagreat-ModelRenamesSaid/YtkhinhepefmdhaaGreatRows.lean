/-
  No cell of these rows narrows 'for every input' (looked for: loops, veiled, ifaces, maps, wideKeys, modest, calm, conditions, laid).
  DERIVED. THE GIVEN ROWS OF THIS SEAT. 6 by the template 'for every input the law returns true; each argument reads behind the call as it read before'; 0 by the template 'total and deterministic' (their statements: YtkhinhepefmdhaaGreatTotals.lean).
  GIVEN WITH THE SEED: the statements are not yours to turn. If you find one false, say at which input.
  Laid BY PROGRAM, IN A SANDBOX (cutbox-rows.mjs): the forced cells as the released guide's own fill.sh prints them over the translation 54372d8d9ef42e89… (all of the seat's roots in one cut). By AI agents, Wed Nov 11 2026. No macro, syntax, notation, axiom, sorry.
-/
import Derived.Test.YtkhinhepefmdhaaGreatChecked
import GoSem.Claim
import GoSem.ClaimJoined
import GoSem.ClaimMapViews
import Derived.JoinedTies
import Derived.KernelRfl
namespace Go.Proofs.YtkhinhepefmdhaaGreat
/- THE CELL 'sum', in the pinned program and in every row, IS THE sha256 OF THE DUMP (.gsa) THAT YtkhinhepefmdhaaGreatProg.lean LOADS. Nothing in Lean hashes anything: it is a label: what it is worth is what the hold of that sum in a sandbox is worth. -/
noncomputable def Tryz.pinned : Pinned := { name := "ytkhinhepefmdhaagreat", sum := "54372d8d9ef42e895b35ca11f8eb9624d98efe31fea8bef2cde302bea810d046", checked := Tryz.checked }
namespace Rows
def none {H : Type} : Left H := { results := [], args := [] }

/-- 'faultlinelaw48.DynamicSteps': WHATEVER THE INPUT: true; the input reads as it did. -/
def dynamicStepsSpec : ChangeSpec := { name := "dynamicSteps", fn := fun _ => fun
  | [d1, d2, d3] => { results := [.lit (.bool true)], args := [d1, d2, d3] }
  | _ => none }
def dynamicStepsRow : OpenClaim := { program := "ytkhinhepefmdhaagreat", sum := "54372d8d9ef42e895b35ca11f8eb9624d98efe31fea8bef2cde302bea810d046", func := "faultline/faultlinelaw48.DynamicSteps", spec := "dynamicSteps", unfollowed := true, recurses := true, plainKeys := false, apart := false }
def DynamicStepsSaid : Prop := dynamicStepsRow.holds Tryz.pinned (OpenSpec.ofChange dynamicStepsSpec)

/-- ITS FALSE NEIGHBOUR: 'it returns false'. Refute it at one input. -/
def dynamicStepsWrong : ChangeSpec := { name := "dynamicSteps", fn := fun _ => fun
  | [d1, d2, d3] => { results := [.lit (.bool false)], args := [d1, d2, d3] }
  | _ => none }
def DynamicStepsWrongFalsely : Prop := dynamicStepsRow.holds Tryz.pinned (OpenSpec.ofChange dynamicStepsWrong)

/-- 'faultlinelaw22.ModelInputs': WHATEVER THE INPUT: true; the input reads as it did. -/
def modelInputsSpec : ChangeSpec := { name := "modelInputs", fn := fun _ => fun
  | [d1, d2] => { results := [.lit (.bool true)], args := [d1, d2] }
  | _ => none }
def modelInputsRow : OpenClaim := { program := "ytkhinhepefmdhaagreat", sum := "54372d8d9ef42e895b35ca11f8eb9624d98efe31fea8bef2cde302bea810d046", func := "faultline/faultlinelaw22.ModelInputs", spec := "modelInputs", unfollowed := true, recurses := true, plainKeys := false, apart := false }
def ModelInputsSaid : Prop := modelInputsRow.holds Tryz.pinned (OpenSpec.ofChange modelInputsSpec)

/-- ITS FALSE NEIGHBOUR: 'it returns false'. Refute it at one input. -/
def modelInputsWrong : ChangeSpec := { name := "modelInputs", fn := fun _ => fun
  | [d1, d2] => { results := [.lit (.bool false)], args := [d1, d2] }
  | _ => none }
def ModelInputsWrongFalsely : Prop := modelInputsRow.holds Tryz.pinned (OpenSpec.ofChange modelInputsWrong)

/-- 'faultlinelaw22.ModelNeeds': WHATEVER THE INPUT: true; the input reads as it did. -/
def modelNeedsSpec : ChangeSpec := { name := "modelNeeds", fn := fun _ => fun
  | [d] => { results := [.lit (.bool true)], args := [d] }
  | _ => none }
def modelNeedsRow : OpenClaim := { program := "ytkhinhepefmdhaagreat", sum := "54372d8d9ef42e895b35ca11f8eb9624d98efe31fea8bef2cde302bea810d046", func := "faultline/faultlinelaw22.ModelNeeds", spec := "modelNeeds", unfollowed := true, recurses := true, plainKeys := false, apart := false }
def ModelNeedsSaid : Prop := modelNeedsRow.holds Tryz.pinned (OpenSpec.ofChange modelNeedsSpec)

/-- ITS FALSE NEIGHBOUR: 'it returns false'. Refute it at one input. -/
def modelNeedsWrong : ChangeSpec := { name := "modelNeeds", fn := fun _ => fun
  | [d] => { results := [.lit (.bool false)], args := [d] }
  | _ => none }
def ModelNeedsWrongFalsely : Prop := modelNeedsRow.holds Tryz.pinned (OpenSpec.ofChange modelNeedsWrong)

/-- 'faultlinelaw22.ModelRenames': WHATEVER THE INPUT: true; the input reads as it did. -/
def modelRenamesSpec : ChangeSpec := { name := "modelRenames", fn := fun _ => fun
  | [d1, d2] => { results := [.lit (.bool true)], args := [d1, d2] }
  | _ => none }
def modelRenamesRow : OpenClaim := { program := "ytkhinhepefmdhaagreat", sum := "54372d8d9ef42e895b35ca11f8eb9624d98efe31fea8bef2cde302bea810d046", func := "faultline/faultlinelaw22.ModelRenames", spec := "modelRenames", unfollowed := true, recurses := true, plainKeys := false, apart := false }
def ModelRenamesSaid : Prop := modelRenamesRow.holds Tryz.pinned (OpenSpec.ofChange modelRenamesSpec)

/-- ITS FALSE NEIGHBOUR: 'it returns false'. Refute it at one input. -/
def modelRenamesWrong : ChangeSpec := { name := "modelRenames", fn := fun _ => fun
  | [d1, d2] => { results := [.lit (.bool false)], args := [d1, d2] }
  | _ => none }
def ModelRenamesWrongFalsely : Prop := modelRenamesRow.holds Tryz.pinned (OpenSpec.ofChange modelRenamesWrong)

/-- 'faultlinelaw22.ModelChecks': WHATEVER THE INPUT: true; the input reads as it did. -/
def modelChecksSpec : ChangeSpec := { name := "modelChecks", fn := fun _ => fun
  | [d1, d2] => { results := [.lit (.bool true)], args := [d1, d2] }
  | _ => none }
def modelChecksRow : OpenClaim := { program := "ytkhinhepefmdhaagreat", sum := "54372d8d9ef42e895b35ca11f8eb9624d98efe31fea8bef2cde302bea810d046", func := "faultline/faultlinelaw22.ModelChecks", spec := "modelChecks", unfollowed := true, recurses := true, plainKeys := false, apart := false }
def ModelChecksSaid : Prop := modelChecksRow.holds Tryz.pinned (OpenSpec.ofChange modelChecksSpec)

/-- ITS FALSE NEIGHBOUR: 'it returns false'. Refute it at one input. -/
def modelChecksWrong : ChangeSpec := { name := "modelChecks", fn := fun _ => fun
  | [d1, d2] => { results := [.lit (.bool false)], args := [d1, d2] }
  | _ => none }
def ModelChecksWrongFalsely : Prop := modelChecksRow.holds Tryz.pinned (OpenSpec.ofChange modelChecksWrong)

/-- 'faultlinelaw48.DynamicMakes': WHATEVER THE INPUT: true; the input reads as it did. -/
def dynamicMakesSpec : ChangeSpec := { name := "dynamicMakes", fn := fun _ => fun
  | [d] => { results := [.lit (.bool true)], args := [d] }
  | _ => none }
def dynamicMakesRow : OpenClaim := { program := "ytkhinhepefmdhaagreat", sum := "54372d8d9ef42e895b35ca11f8eb9624d98efe31fea8bef2cde302bea810d046", func := "faultline/faultlinelaw48.DynamicMakes", spec := "dynamicMakes", unfollowed := true, recurses := true, plainKeys := false, apart := false }
def DynamicMakesSaid : Prop := dynamicMakesRow.holds Tryz.pinned (OpenSpec.ofChange dynamicMakesSpec)

/-- ITS FALSE NEIGHBOUR: 'it returns false'. Refute it at one input. -/
def dynamicMakesWrong : ChangeSpec := { name := "dynamicMakes", fn := fun _ => fun
  | [d] => { results := [.lit (.bool false)], args := [d] }
  | _ => none }
def DynamicMakesWrongFalsely : Prop := dynamicMakesRow.holds Tryz.pinned (OpenSpec.ofChange dynamicMakesWrong)

/- THE SECOND FORM. 'bulk': how many values and letters a reading holds, each counted each time it is reached (what is shared counts as often as it is met; a slice's spare places count too). A statement '..UptoSaid' is the law's where the arguments, and the package variables that the reading takes, are together of bulk at most 1048576: NARROWER than '..Said'. Prove '..Said' where nothing that the law and all that it calls make is longer than what came in: it says more and counts as full. Else prove '..UptoSaid'. A law counts once. -/
mutual
def uptoBulk {H : Type} : DataW H → Nat
  | .lit (.string bytes) => bytes.length + 1
  | .lit _ => 1
  | .nil => 1
  | .ptr d => uptoBulk d + 1
  | .slice elems spare => uptoBulkAll elems + uptoBulkAll spare + 1
  | .agg parts => uptoBulkAll parts + 1
  | .iface _ d => uptoBulk d + 1
  | .map entries => uptoBulkEntries entries + 1
  | .held _ => 1
def uptoBulkAll {H : Type} : List (DataW H) → Nat
  | [] => 0
  | d :: r => uptoBulk d + uptoBulkAll r
def uptoBulkEntries {H : Type} : List (Lit × DataW H) → Nat
  | [] => 0
  | x :: r => uptoBulkEntry x + uptoBulkEntries r
def uptoBulkEntry {H : Type} : Lit × DataW H → Nat
  | (.string bytes, d) => bytes.length + uptoBulk d + 1
  | (_, d) => uptoBulk d + 1
 end
def uptoSmall : (H : Type) → List (DataW H) → Bool := fun _ ds => decide (uptoBulkAll ds ≤ 1048576)
def OpenSpec.upto (s : _root_.Go.ChangeSpec) : _root_.Go.OpenSpec := { _root_.Go.OpenSpec.ofChange s with cond := some uptoSmall }

/-- 'faultlinelaw48.DynamicSteps', WHERE WHAT IT READS IS OF BULK AT MOST 1048576: true; the input reads as it did. -/
def dynamicStepsUptoRow : OpenClaim := { program := "ytkhinhepefmdhaagreat", sum := "54372d8d9ef42e895b35ca11f8eb9624d98efe31fea8bef2cde302bea810d046", func := "faultline/faultlinelaw48.DynamicSteps", spec := "dynamicSteps", unfollowed := true, recurses := true, plainKeys := false, apart := false, narrowed := true }
def DynamicStepsUptoSaid : Prop := dynamicStepsUptoRow.holds Tryz.pinned (OpenSpec.upto dynamicStepsSpec)

/-- 'faultlinelaw22.ModelInputs', WHERE WHAT IT READS IS OF BULK AT MOST 1048576: true; the input reads as it did. -/
def modelInputsUptoRow : OpenClaim := { program := "ytkhinhepefmdhaagreat", sum := "54372d8d9ef42e895b35ca11f8eb9624d98efe31fea8bef2cde302bea810d046", func := "faultline/faultlinelaw22.ModelInputs", spec := "modelInputs", unfollowed := true, recurses := true, plainKeys := false, apart := false, narrowed := true }
def ModelInputsUptoSaid : Prop := modelInputsUptoRow.holds Tryz.pinned (OpenSpec.upto modelInputsSpec)

/-- 'faultlinelaw22.ModelNeeds', WHERE WHAT IT READS IS OF BULK AT MOST 1048576: true; the input reads as it did. -/
def modelNeedsUptoRow : OpenClaim := { program := "ytkhinhepefmdhaagreat", sum := "54372d8d9ef42e895b35ca11f8eb9624d98efe31fea8bef2cde302bea810d046", func := "faultline/faultlinelaw22.ModelNeeds", spec := "modelNeeds", unfollowed := true, recurses := true, plainKeys := false, apart := false, narrowed := true }
def ModelNeedsUptoSaid : Prop := modelNeedsUptoRow.holds Tryz.pinned (OpenSpec.upto modelNeedsSpec)

/-- 'faultlinelaw22.ModelRenames', WHERE WHAT IT READS IS OF BULK AT MOST 1048576: true; the input reads as it did. -/
def modelRenamesUptoRow : OpenClaim := { program := "ytkhinhepefmdhaagreat", sum := "54372d8d9ef42e895b35ca11f8eb9624d98efe31fea8bef2cde302bea810d046", func := "faultline/faultlinelaw22.ModelRenames", spec := "modelRenames", unfollowed := true, recurses := true, plainKeys := false, apart := false, narrowed := true }
def ModelRenamesUptoSaid : Prop := modelRenamesUptoRow.holds Tryz.pinned (OpenSpec.upto modelRenamesSpec)

/-- 'faultlinelaw22.ModelChecks', WHERE WHAT IT READS IS OF BULK AT MOST 1048576: true; the input reads as it did. -/
def modelChecksUptoRow : OpenClaim := { program := "ytkhinhepefmdhaagreat", sum := "54372d8d9ef42e895b35ca11f8eb9624d98efe31fea8bef2cde302bea810d046", func := "faultline/faultlinelaw22.ModelChecks", spec := "modelChecks", unfollowed := true, recurses := true, plainKeys := false, apart := false, narrowed := true }
def ModelChecksUptoSaid : Prop := modelChecksUptoRow.holds Tryz.pinned (OpenSpec.upto modelChecksSpec)

/-- 'faultlinelaw48.DynamicMakes', WHERE WHAT IT READS IS OF BULK AT MOST 1048576: true; the input reads as it did. -/
def dynamicMakesUptoRow : OpenClaim := { program := "ytkhinhepefmdhaagreat", sum := "54372d8d9ef42e895b35ca11f8eb9624d98efe31fea8bef2cde302bea810d046", func := "faultline/faultlinelaw48.DynamicMakes", spec := "dynamicMakes", unfollowed := true, recurses := true, plainKeys := false, apart := false, narrowed := true }
def DynamicMakesUptoSaid : Prop := dynamicMakesUptoRow.holds Tryz.pinned (OpenSpec.upto dynamicMakesSpec)

end Rows
end Go.Proofs.YtkhinhepefmdhaaGreat
