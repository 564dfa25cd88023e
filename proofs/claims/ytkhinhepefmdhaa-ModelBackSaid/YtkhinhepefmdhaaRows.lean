/-
  No cell of these rows narrows 'for every input' (looked for: loops, veiled, ifaces, maps, wideKeys, modest, calm, conditions, laid).
  DERIVED. THE GIVEN ROWS OF THIS SEAT. 6 by the template 'for every input the law returns true; each argument reads behind the call as it read before'; 0 by the template 'total and deterministic' (their statements: YtkhinhepefmdhaaTotals.lean).
  GIVEN WITH THE SEED: the statements are not yours to turn. If you find one false, say at which input.
  Laid BY PROGRAM, IN A SANDBOX (cutbox-rows.mjs): the forced cells as the released guide's own fill.sh prints them over the translation cf6731dcc68f38f5… (all of the seat's roots in one cut). By AI agents, Wed Nov 11 2026. No macro, syntax, notation, axiom, sorry.
-/
import Derived.Test.YtkhinhepefmdhaaChecked
import GoSem.Claim
import GoSem.ClaimJoined
import GoSem.ClaimMapViews
import Derived.JoinedTies
import Derived.KernelRfl
namespace Go.Proofs.Ytkhinhepefmdhaa
/- THE CELL 'sum', in the pinned program and in every row, IS THE sha256 OF THE DUMP (.gsa) THAT YtkhinhepefmdhaaProg.lean LOADS. Nothing in Lean hashes anything: it is a label: what it is worth is what the hold of that sum in a sandbox is worth. -/
noncomputable def Try.pinned : Pinned := { name := "ytkhinhepefmdhaa", sum := "cf6731dcc68f38f568041a2876679830b27436b7b8edcc60d31edb024812008b", checked := Try.checked }
namespace Rows
def none {H : Type} : Left H := { results := [], args := [] }

/-- 'faultlinelaw48.DynamicOrder': WHATEVER THE INPUT: true; the input reads as it did. -/
def dynamicOrderSpec : ChangeSpec := { name := "dynamicOrder", fn := fun _ => fun
  | [d1, d2] => { results := [.lit (.bool true)], args := [d1, d2] }
  | _ => none }
def dynamicOrderRow : OpenClaim := { program := "ytkhinhepefmdhaa", sum := "cf6731dcc68f38f568041a2876679830b27436b7b8edcc60d31edb024812008b", func := "faultline/faultlinelaw48.DynamicOrder", spec := "dynamicOrder", unfollowed := true, recurses := true, plainKeys := false, apart := false }
def DynamicOrderSaid : Prop := dynamicOrderRow.holds Try.pinned (OpenSpec.ofChange dynamicOrderSpec)

/-- ITS FALSE NEIGHBOUR: 'it returns false'. Refute it at one input. -/
def dynamicOrderWrong : ChangeSpec := { name := "dynamicOrder", fn := fun _ => fun
  | [d1, d2] => { results := [.lit (.bool false)], args := [d1, d2] }
  | _ => none }
def DynamicOrderWrongFalsely : Prop := dynamicOrderRow.holds Try.pinned (OpenSpec.ofChange dynamicOrderWrong)

/-- 'faultlinelaw48.DynamicSettled': WHATEVER THE INPUT: true; the input reads as it did. -/
def dynamicSettledSpec : ChangeSpec := { name := "dynamicSettled", fn := fun _ => fun
  | [d1, d2, d3] => { results := [.lit (.bool true)], args := [d1, d2, d3] }
  | _ => none }
def dynamicSettledRow : OpenClaim := { program := "ytkhinhepefmdhaa", sum := "cf6731dcc68f38f568041a2876679830b27436b7b8edcc60d31edb024812008b", func := "faultline/faultlinelaw48.DynamicSettled", spec := "dynamicSettled", unfollowed := true, recurses := true, plainKeys := false, apart := false }
def DynamicSettledSaid : Prop := dynamicSettledRow.holds Try.pinned (OpenSpec.ofChange dynamicSettledSpec)

/-- ITS FALSE NEIGHBOUR: 'it returns false'. Refute it at one input. -/
def dynamicSettledWrong : ChangeSpec := { name := "dynamicSettled", fn := fun _ => fun
  | [d1, d2, d3] => { results := [.lit (.bool false)], args := [d1, d2, d3] }
  | _ => none }
def DynamicSettledWrongFalsely : Prop := dynamicSettledRow.holds Try.pinned (OpenSpec.ofChange dynamicSettledWrong)

/-- 'faultlinelaw48.DynamicSpares': WHATEVER THE INPUT: true; the input reads as it did. -/
def dynamicSparesSpec : ChangeSpec := { name := "dynamicSpares", fn := fun _ => fun
  | [d1, d2, d3] => { results := [.lit (.bool true)], args := [d1, d2, d3] }
  | _ => none }
def dynamicSparesRow : OpenClaim := { program := "ytkhinhepefmdhaa", sum := "cf6731dcc68f38f568041a2876679830b27436b7b8edcc60d31edb024812008b", func := "faultline/faultlinelaw48.DynamicSpares", spec := "dynamicSpares", unfollowed := true, recurses := true, plainKeys := false, apart := false }
def DynamicSparesSaid : Prop := dynamicSparesRow.holds Try.pinned (OpenSpec.ofChange dynamicSparesSpec)

/-- ITS FALSE NEIGHBOUR: 'it returns false'. Refute it at one input. -/
def dynamicSparesWrong : ChangeSpec := { name := "dynamicSpares", fn := fun _ => fun
  | [d1, d2, d3] => { results := [.lit (.bool false)], args := [d1, d2, d3] }
  | _ => none }
def DynamicSparesWrongFalsely : Prop := dynamicSparesRow.holds Try.pinned (OpenSpec.ofChange dynamicSparesWrong)

/-- 'faultlinelaw22.ModelLocal': WHATEVER THE INPUT: true; the input reads as it did. -/
def modelLocalSpec : ChangeSpec := { name := "modelLocal", fn := fun _ => fun
  | [d] => { results := [.lit (.bool true)], args := [d] }
  | _ => none }
def modelLocalRow : OpenClaim := { program := "ytkhinhepefmdhaa", sum := "cf6731dcc68f38f568041a2876679830b27436b7b8edcc60d31edb024812008b", func := "faultline/faultlinelaw22.ModelLocal", spec := "modelLocal", unfollowed := true, recurses := true, plainKeys := false, apart := false }
def ModelLocalSaid : Prop := modelLocalRow.holds Try.pinned (OpenSpec.ofChange modelLocalSpec)

/-- ITS FALSE NEIGHBOUR: 'it returns false'. Refute it at one input. -/
def modelLocalWrong : ChangeSpec := { name := "modelLocal", fn := fun _ => fun
  | [d] => { results := [.lit (.bool false)], args := [d] }
  | _ => none }
def ModelLocalWrongFalsely : Prop := modelLocalRow.holds Try.pinned (OpenSpec.ofChange modelLocalWrong)

/-- 'faultlinelaw22.ModelTurned': WHATEVER THE INPUT: true; the input reads as it did. -/
def modelTurnedSpec : ChangeSpec := { name := "modelTurned", fn := fun _ => fun
  | [d] => { results := [.lit (.bool true)], args := [d] }
  | _ => none }
def modelTurnedRow : OpenClaim := { program := "ytkhinhepefmdhaa", sum := "cf6731dcc68f38f568041a2876679830b27436b7b8edcc60d31edb024812008b", func := "faultline/faultlinelaw22.ModelTurned", spec := "modelTurned", unfollowed := true, recurses := true, plainKeys := false, apart := false }
def ModelTurnedSaid : Prop := modelTurnedRow.holds Try.pinned (OpenSpec.ofChange modelTurnedSpec)

/-- ITS FALSE NEIGHBOUR: 'it returns false'. Refute it at one input. -/
def modelTurnedWrong : ChangeSpec := { name := "modelTurned", fn := fun _ => fun
  | [d] => { results := [.lit (.bool false)], args := [d] }
  | _ => none }
def ModelTurnedWrongFalsely : Prop := modelTurnedRow.holds Try.pinned (OpenSpec.ofChange modelTurnedWrong)

/-- 'faultlinelaw22.ModelBack': WHATEVER THE INPUT: true; the input reads as it did. -/
def modelBackSpec : ChangeSpec := { name := "modelBack", fn := fun _ => fun
  | [d1, d2] => { results := [.lit (.bool true)], args := [d1, d2] }
  | _ => none }
def modelBackRow : OpenClaim := { program := "ytkhinhepefmdhaa", sum := "cf6731dcc68f38f568041a2876679830b27436b7b8edcc60d31edb024812008b", func := "faultline/faultlinelaw22.ModelBack", spec := "modelBack", unfollowed := true, recurses := true, plainKeys := false, apart := false }
def ModelBackSaid : Prop := modelBackRow.holds Try.pinned (OpenSpec.ofChange modelBackSpec)

/-- ITS FALSE NEIGHBOUR: 'it returns false'. Refute it at one input. -/
def modelBackWrong : ChangeSpec := { name := "modelBack", fn := fun _ => fun
  | [d1, d2] => { results := [.lit (.bool false)], args := [d1, d2] }
  | _ => none }
def ModelBackWrongFalsely : Prop := modelBackRow.holds Try.pinned (OpenSpec.ofChange modelBackWrong)

/- THE SECOND FORM. 'bulk': how many values and letters a reading holds, each counted each time it is reached (what is shared counts as often as it is met; a slice's spare places count too). A statement '..UptoSaid' is the law's where the arguments, and the package variables that the reading takes, are together of bulk at most 1048576: NARROWER than '..Said'. Prove '..Said' where nothing that the law and all that it calls make is longer than what came in: it says more and counts as full. Else prove '..UptoSaid'. A law counts once. -/
mutual
def uptoBulk {H : Type} : DataW H → Nat
  | .lit (.string bytes) => bytes.length + 1
  | .lit _ => 1
  | .nil => 1
  | .ptr d => uptoBulk d + 1
  | .slice elems spare => uptoBulkAll elems + uptoBulkAll spare + 1
  | .agg parts => uptoBulkAll parts + 1
  | .iface _ d => uptoBulk d + 1
  | .map entries => uptoBulkEntries entries + 1
  | .held _ => 1
def uptoBulkAll {H : Type} : List (DataW H) → Nat
  | [] => 0
  | d :: r => uptoBulk d + uptoBulkAll r
def uptoBulkEntries {H : Type} : List (Lit × DataW H) → Nat
  | [] => 0
  | x :: r => uptoBulkEntry x + uptoBulkEntries r
def uptoBulkEntry {H : Type} : Lit × DataW H → Nat
  | (.string bytes, d) => bytes.length + uptoBulk d + 1
  | (_, d) => uptoBulk d + 1
 end
def uptoSmall : (H : Type) → List (DataW H) → Bool := fun _ ds => decide (uptoBulkAll ds ≤ 1048576)
def OpenSpec.upto (s : _root_.Go.ChangeSpec) : _root_.Go.OpenSpec := { _root_.Go.OpenSpec.ofChange s with cond := some uptoSmall }

/-- 'faultlinelaw48.DynamicOrder', WHERE WHAT IT READS IS OF BULK AT MOST 1048576: true; the input reads as it did. -/
def dynamicOrderUptoRow : OpenClaim := { program := "ytkhinhepefmdhaa", sum := "cf6731dcc68f38f568041a2876679830b27436b7b8edcc60d31edb024812008b", func := "faultline/faultlinelaw48.DynamicOrder", spec := "dynamicOrder", unfollowed := true, recurses := true, plainKeys := false, apart := false, narrowed := true }
def DynamicOrderUptoSaid : Prop := dynamicOrderUptoRow.holds Try.pinned (OpenSpec.upto dynamicOrderSpec)

/-- 'faultlinelaw48.DynamicSettled', WHERE WHAT IT READS IS OF BULK AT MOST 1048576: true; the input reads as it did. -/
def dynamicSettledUptoRow : OpenClaim := { program := "ytkhinhepefmdhaa", sum := "cf6731dcc68f38f568041a2876679830b27436b7b8edcc60d31edb024812008b", func := "faultline/faultlinelaw48.DynamicSettled", spec := "dynamicSettled", unfollowed := true, recurses := true, plainKeys := false, apart := false, narrowed := true }
def DynamicSettledUptoSaid : Prop := dynamicSettledUptoRow.holds Try.pinned (OpenSpec.upto dynamicSettledSpec)

/-- 'faultlinelaw48.DynamicSpares', WHERE WHAT IT READS IS OF BULK AT MOST 1048576: true; the input reads as it did. -/
def dynamicSparesUptoRow : OpenClaim := { program := "ytkhinhepefmdhaa", sum := "cf6731dcc68f38f568041a2876679830b27436b7b8edcc60d31edb024812008b", func := "faultline/faultlinelaw48.DynamicSpares", spec := "dynamicSpares", unfollowed := true, recurses := true, plainKeys := false, apart := false, narrowed := true }
def DynamicSparesUptoSaid : Prop := dynamicSparesUptoRow.holds Try.pinned (OpenSpec.upto dynamicSparesSpec)

/-- 'faultlinelaw22.ModelLocal', WHERE WHAT IT READS IS OF BULK AT MOST 1048576: true; the input reads as it did. -/
def modelLocalUptoRow : OpenClaim := { program := "ytkhinhepefmdhaa", sum := "cf6731dcc68f38f568041a2876679830b27436b7b8edcc60d31edb024812008b", func := "faultline/faultlinelaw22.ModelLocal", spec := "modelLocal", unfollowed := true, recurses := true, plainKeys := false, apart := false, narrowed := true }
def ModelLocalUptoSaid : Prop := modelLocalUptoRow.holds Try.pinned (OpenSpec.upto modelLocalSpec)

/-- 'faultlinelaw22.ModelTurned', WHERE WHAT IT READS IS OF BULK AT MOST 1048576: true; the input reads as it did. -/
def modelTurnedUptoRow : OpenClaim := { program := "ytkhinhepefmdhaa", sum := "cf6731dcc68f38f568041a2876679830b27436b7b8edcc60d31edb024812008b", func := "faultline/faultlinelaw22.ModelTurned", spec := "modelTurned", unfollowed := true, recurses := true, plainKeys := false, apart := false, narrowed := true }
def ModelTurnedUptoSaid : Prop := modelTurnedUptoRow.holds Try.pinned (OpenSpec.upto modelTurnedSpec)

/-- 'faultlinelaw22.ModelBack', WHERE WHAT IT READS IS OF BULK AT MOST 1048576: true; the input reads as it did. -/
def modelBackUptoRow : OpenClaim := { program := "ytkhinhepefmdhaa", sum := "cf6731dcc68f38f568041a2876679830b27436b7b8edcc60d31edb024812008b", func := "faultline/faultlinelaw22.ModelBack", spec := "modelBack", unfollowed := true, recurses := true, plainKeys := false, apart := false, narrowed := true }
def ModelBackUptoSaid : Prop := modelBackUptoRow.holds Try.pinned (OpenSpec.upto modelBackSpec)

end Rows
end Go.Proofs.Ytkhinhepefmdhaa
