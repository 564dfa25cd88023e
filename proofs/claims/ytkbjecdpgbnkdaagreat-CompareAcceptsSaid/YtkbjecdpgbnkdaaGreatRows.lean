/-
  NARROWER THAN 'FOR EVERY INPUT', by the rows' own cells (each row's printed sentence says how): CompareAccepts: loops · CompareProves: loops.
  DERIVED. THE GIVEN ROWS OF THIS SEAT. 9 by the template 'for every input the law returns true; each argument reads behind the call as it read before'; 0 by the template 'total and deterministic' (their statements: YtkbjecdpgbnkdaaGreatTotals.lean).
  GIVEN WITH THE SEED: the statements are not yours to turn. If you find one false, say at which input.
  Laid BY PROGRAM, IN A SANDBOX (cutbox-rows.mjs): the forced cells as the released guide's own fill.sh prints them over the translation 38418dec84e392bd… (all of the seat's roots in one cut). By AI agents, Wed Nov 11 2026. No macro, syntax, notation, axiom, sorry.
-/
import Derived.Test.YtkbjecdpgbnkdaaGreatChecked
import GoSem.Claim
import GoSem.ClaimJoined
import GoSem.ClaimMapViews
import Derived.JoinedTies
import Derived.KernelRfl
namespace Go.Proofs.YtkbjecdpgbnkdaaGreat
/- THE CELL 'sum', in the pinned program and in every row, IS THE sha256 OF THE DUMP (.gsa) THAT YtkbjecdpgbnkdaaGreatProg.lean LOADS. Nothing in Lean hashes anything: it is a label: what it is worth is what the hold of that sum in a sandbox is worth. -/
noncomputable def Tryz.pinned : Pinned := { name := "ytkbjecdpgbnkdaagreat", sum := "38418dec84e392bd24ecc794f1edb35994471b373d217279d147316151c89524", checked := Tryz.checked }
namespace Rows
def none {H : Type} : Left H := { results := [], args := [] }

/-- 'faultlinelaw59.CompareFormulas': WHATEVER THE INPUT: true; the input reads as it did. -/
def compareFormulasSpec : ChangeSpec := { name := "compareFormulas", fn := fun _ => fun
  | [d1, d2] => { results := [.lit (.bool true)], args := [d1, d2] }
  | _ => none }
def compareFormulasRow : OpenClaim := { program := "ytkbjecdpgbnkdaagreat", sum := "38418dec84e392bd24ecc794f1edb35994471b373d217279d147316151c89524", func := "faultline/faultlinelaw59.CompareFormulas", spec := "compareFormulas", unfollowed := true, recurses := true, plainKeys := false, apart := false }
def CompareFormulasSaid : Prop := compareFormulasRow.holds Tryz.pinned (OpenSpec.ofChange compareFormulasSpec)

/-- ITS FALSE NEIGHBOUR: 'it returns false'. Refute it at one input. -/
def compareFormulasWrong : ChangeSpec := { name := "compareFormulas", fn := fun _ => fun
  | [d1, d2] => { results := [.lit (.bool false)], args := [d1, d2] }
  | _ => none }
def CompareFormulasWrongFalsely : Prop := compareFormulasRow.holds Tryz.pinned (OpenSpec.ofChange compareFormulasWrong)

/-- 'faultlinelaw59.CompareShifts': WHATEVER THE INPUT: true; the input reads as it did. -/
def compareShiftsSpec : ChangeSpec := { name := "compareShifts", fn := fun _ => fun
  | [d1, d2, d3] => { results := [.lit (.bool true)], args := [d1, d2, d3] }
  | _ => none }
def compareShiftsRow : OpenClaim := { program := "ytkbjecdpgbnkdaagreat", sum := "38418dec84e392bd24ecc794f1edb35994471b373d217279d147316151c89524", func := "faultline/faultlinelaw59.CompareShifts", spec := "compareShifts", unfollowed := true, recurses := true, plainKeys := false, apart := false }
def CompareShiftsSaid : Prop := compareShiftsRow.holds Tryz.pinned (OpenSpec.ofChange compareShiftsSpec)

/-- ITS FALSE NEIGHBOUR: 'it returns false'. Refute it at one input. -/
def compareShiftsWrong : ChangeSpec := { name := "compareShifts", fn := fun _ => fun
  | [d1, d2, d3] => { results := [.lit (.bool false)], args := [d1, d2, d3] }
  | _ => none }
def CompareShiftsWrongFalsely : Prop := compareShiftsRow.holds Tryz.pinned (OpenSpec.ofChange compareShiftsWrong)

/-- 'faultlinelaw59.CompareSums': WHATEVER THE INPUT: true; the input reads as it did. -/
def compareSumsSpec : ChangeSpec := { name := "compareSums", fn := fun _ => fun
  | [d1, d2, d3] => { results := [.lit (.bool true)], args := [d1, d2, d3] }
  | _ => none }
def compareSumsRow : OpenClaim := { program := "ytkbjecdpgbnkdaagreat", sum := "38418dec84e392bd24ecc794f1edb35994471b373d217279d147316151c89524", func := "faultline/faultlinelaw59.CompareSums", spec := "compareSums", unfollowed := true, recurses := true, plainKeys := false, apart := false }
def CompareSumsSaid : Prop := compareSumsRow.holds Tryz.pinned (OpenSpec.ofChange compareSumsSpec)

/-- ITS FALSE NEIGHBOUR: 'it returns false'. Refute it at one input. -/
def compareSumsWrong : ChangeSpec := { name := "compareSums", fn := fun _ => fun
  | [d1, d2, d3] => { results := [.lit (.bool false)], args := [d1, d2, d3] }
  | _ => none }
def CompareSumsWrongFalsely : Prop := compareSumsRow.holds Tryz.pinned (OpenSpec.ofChange compareSumsWrong)

/-- 'faultlinelaw48.DynamicMakes': WHATEVER THE INPUT: true; the input reads as it did. -/
def dynamicMakesSpec : ChangeSpec := { name := "dynamicMakes", fn := fun _ => fun
  | [d] => { results := [.lit (.bool true)], args := [d] }
  | _ => none }
def dynamicMakesRow : OpenClaim := { program := "ytkbjecdpgbnkdaagreat", sum := "38418dec84e392bd24ecc794f1edb35994471b373d217279d147316151c89524", func := "faultline/faultlinelaw48.DynamicMakes", spec := "dynamicMakes", unfollowed := true, recurses := true, plainKeys := false, apart := false }
def DynamicMakesSaid : Prop := dynamicMakesRow.holds Tryz.pinned (OpenSpec.ofChange dynamicMakesSpec)

/-- ITS FALSE NEIGHBOUR: 'it returns false'. Refute it at one input. -/
def dynamicMakesWrong : ChangeSpec := { name := "dynamicMakes", fn := fun _ => fun
  | [d] => { results := [.lit (.bool false)], args := [d] }
  | _ => none }
def DynamicMakesWrongFalsely : Prop := dynamicMakesRow.holds Tryz.pinned (OpenSpec.ofChange dynamicMakesWrong)

/-- 'faultlinelaw59.CompareFinds': WHATEVER THE INPUT: true; the input reads as it did. -/
def compareFindsSpec : ChangeSpec := { name := "compareFinds", fn := fun _ => fun
  | [d1, d2] => { results := [.lit (.bool true)], args := [d1, d2] }
  | _ => none }
def compareFindsRow : OpenClaim := { program := "ytkbjecdpgbnkdaagreat", sum := "38418dec84e392bd24ecc794f1edb35994471b373d217279d147316151c89524", func := "faultline/faultlinelaw59.CompareFinds", spec := "compareFinds", unfollowed := true, recurses := true, plainKeys := false, apart := false }
def CompareFindsSaid : Prop := compareFindsRow.holds Tryz.pinned (OpenSpec.ofChange compareFindsSpec)

/-- ITS FALSE NEIGHBOUR: 'it returns false'. Refute it at one input. -/
def compareFindsWrong : ChangeSpec := { name := "compareFinds", fn := fun _ => fun
  | [d1, d2] => { results := [.lit (.bool false)], args := [d1, d2] }
  | _ => none }
def CompareFindsWrongFalsely : Prop := compareFindsRow.holds Tryz.pinned (OpenSpec.ofChange compareFindsWrong)

/-- 'faultlinelaw59.CompareMakes': WHATEVER THE INPUT: true; the input reads as it did. -/
def compareMakesSpec : ChangeSpec := { name := "compareMakes", fn := fun _ => fun
  | [d1, d2] => { results := [.lit (.bool true)], args := [d1, d2] }
  | _ => none }
def compareMakesRow : OpenClaim := { program := "ytkbjecdpgbnkdaagreat", sum := "38418dec84e392bd24ecc794f1edb35994471b373d217279d147316151c89524", func := "faultline/faultlinelaw59.CompareMakes", spec := "compareMakes", unfollowed := true, recurses := true, plainKeys := false, apart := false }
def CompareMakesSaid : Prop := compareMakesRow.holds Tryz.pinned (OpenSpec.ofChange compareMakesSpec)

/-- ITS FALSE NEIGHBOUR: 'it returns false'. Refute it at one input. -/
def compareMakesWrong : ChangeSpec := { name := "compareMakes", fn := fun _ => fun
  | [d1, d2] => { results := [.lit (.bool false)], args := [d1, d2] }
  | _ => none }
def CompareMakesWrongFalsely : Prop := compareMakesRow.holds Tryz.pinned (OpenSpec.ofChange compareMakesWrong)

/-- 'faultlinelaw59.CompareAccepts': WHATEVER THE INPUT: true; the input reads as it did. -/
def compareAcceptsSpec : ChangeSpec := { name := "compareAccepts", fn := fun _ => fun
  | [d1, d2, d3] => { results := [.lit (.bool true)], args := [d1, d2, d3] }
  | _ => none }
def compareAcceptsRow : OpenClaim := { program := "ytkbjecdpgbnkdaagreat", sum := "38418dec84e392bd24ecc794f1edb35994471b373d217279d147316151c89524", func := "faultline/faultlinelaw59.CompareAccepts", spec := "compareAccepts", unfollowed := true, recurses := true, loops := true, plainKeys := false, apart := false }
def CompareAcceptsSaid : Prop := compareAcceptsRow.holds Tryz.pinned (OpenSpec.ofChange compareAcceptsSpec)

/-- ITS FALSE NEIGHBOUR: 'it returns false'. Refute it at one input. -/
def compareAcceptsWrong : ChangeSpec := { name := "compareAccepts", fn := fun _ => fun
  | [d1, d2, d3] => { results := [.lit (.bool false)], args := [d1, d2, d3] }
  | _ => none }
def CompareAcceptsWrongFalsely : Prop := compareAcceptsRow.holds Tryz.pinned (OpenSpec.ofChange compareAcceptsWrong)

/-- 'faultlinelaw59.CompareProves': WHATEVER THE INPUT: true; the input reads as it did. -/
def compareProvesSpec : ChangeSpec := { name := "compareProves", fn := fun _ => fun
  | [d1, d2, d3] => { results := [.lit (.bool true)], args := [d1, d2, d3] }
  | _ => none }
def compareProvesRow : OpenClaim := { program := "ytkbjecdpgbnkdaagreat", sum := "38418dec84e392bd24ecc794f1edb35994471b373d217279d147316151c89524", func := "faultline/faultlinelaw59.CompareProves", spec := "compareProves", unfollowed := true, recurses := true, loops := true, plainKeys := false, apart := false }
def CompareProvesSaid : Prop := compareProvesRow.holds Tryz.pinned (OpenSpec.ofChange compareProvesSpec)

/-- ITS FALSE NEIGHBOUR: 'it returns false'. Refute it at one input. -/
def compareProvesWrong : ChangeSpec := { name := "compareProves", fn := fun _ => fun
  | [d1, d2, d3] => { results := [.lit (.bool false)], args := [d1, d2, d3] }
  | _ => none }
def CompareProvesWrongFalsely : Prop := compareProvesRow.holds Tryz.pinned (OpenSpec.ofChange compareProvesWrong)

/-- 'faultlinelaw48.DynamicStatic': WHATEVER THE INPUT: true; the input reads as it did. -/
def dynamicStaticSpec : ChangeSpec := { name := "dynamicStatic", fn := fun _ => fun
  | [d1, d2] => { results := [.lit (.bool true)], args := [d1, d2] }
  | _ => none }
def dynamicStaticRow : OpenClaim := { program := "ytkbjecdpgbnkdaagreat", sum := "38418dec84e392bd24ecc794f1edb35994471b373d217279d147316151c89524", func := "faultline/faultlinelaw48.DynamicStatic", spec := "dynamicStatic", unfollowed := true, recurses := true, plainKeys := false, apart := false }
def DynamicStaticSaid : Prop := dynamicStaticRow.holds Tryz.pinned (OpenSpec.ofChange dynamicStaticSpec)

/-- ITS FALSE NEIGHBOUR: 'it returns false'. Refute it at one input. -/
def dynamicStaticWrong : ChangeSpec := { name := "dynamicStatic", fn := fun _ => fun
  | [d1, d2] => { results := [.lit (.bool false)], args := [d1, d2] }
  | _ => none }
def DynamicStaticWrongFalsely : Prop := dynamicStaticRow.holds Tryz.pinned (OpenSpec.ofChange dynamicStaticWrong)

/- THE SECOND FORM. 'bulk': how many values and letters a reading holds, each counted each time it is reached (what is shared counts as often as it is met; a slice's spare places count too). A statement '..UptoSaid' is the law's where the arguments, and the package variables that the reading takes, are together of bulk at most 1048576: NARROWER than '..Said'. Prove '..Said' where nothing that the law and all that it calls make is longer than what came in: it says more and counts as full. Else prove '..UptoSaid'. A law counts once. -/
mutual
def uptoBulk {H : Type} : DataW H → Nat
  | .lit (.string bytes) => bytes.length + 1
  | .lit _ => 1
  | .nil => 1
  | .ptr d => uptoBulk d + 1
  | .slice elems spare => uptoBulkAll elems + uptoBulkAll spare + 1
  | .agg parts => uptoBulkAll parts + 1
  | .iface _ d => uptoBulk d + 1
  | .map entries => uptoBulkEntries entries + 1
  | .held _ => 1
def uptoBulkAll {H : Type} : List (DataW H) → Nat
  | [] => 0
  | d :: r => uptoBulk d + uptoBulkAll r
def uptoBulkEntries {H : Type} : List (Lit × DataW H) → Nat
  | [] => 0
  | x :: r => uptoBulkEntry x + uptoBulkEntries r
def uptoBulkEntry {H : Type} : Lit × DataW H → Nat
  | (.string bytes, d) => bytes.length + uptoBulk d + 1
  | (_, d) => uptoBulk d + 1
 end
def uptoSmall : (H : Type) → List (DataW H) → Bool := fun _ ds => decide (uptoBulkAll ds ≤ 1048576)
def OpenSpec.upto (s : _root_.Go.ChangeSpec) : _root_.Go.OpenSpec := { _root_.Go.OpenSpec.ofChange s with cond := some uptoSmall }

/-- 'faultlinelaw59.CompareFormulas', WHERE WHAT IT READS IS OF BULK AT MOST 1048576: true; the input reads as it did. -/
def compareFormulasUptoRow : OpenClaim := { program := "ytkbjecdpgbnkdaagreat", sum := "38418dec84e392bd24ecc794f1edb35994471b373d217279d147316151c89524", func := "faultline/faultlinelaw59.CompareFormulas", spec := "compareFormulas", unfollowed := true, recurses := true, plainKeys := false, apart := false, narrowed := true }
def CompareFormulasUptoSaid : Prop := compareFormulasUptoRow.holds Tryz.pinned (OpenSpec.upto compareFormulasSpec)

/-- 'faultlinelaw59.CompareShifts', WHERE WHAT IT READS IS OF BULK AT MOST 1048576: true; the input reads as it did. -/
def compareShiftsUptoRow : OpenClaim := { program := "ytkbjecdpgbnkdaagreat", sum := "38418dec84e392bd24ecc794f1edb35994471b373d217279d147316151c89524", func := "faultline/faultlinelaw59.CompareShifts", spec := "compareShifts", unfollowed := true, recurses := true, plainKeys := false, apart := false, narrowed := true }
def CompareShiftsUptoSaid : Prop := compareShiftsUptoRow.holds Tryz.pinned (OpenSpec.upto compareShiftsSpec)

/-- 'faultlinelaw59.CompareSums', WHERE WHAT IT READS IS OF BULK AT MOST 1048576: true; the input reads as it did. -/
def compareSumsUptoRow : OpenClaim := { program := "ytkbjecdpgbnkdaagreat", sum := "38418dec84e392bd24ecc794f1edb35994471b373d217279d147316151c89524", func := "faultline/faultlinelaw59.CompareSums", spec := "compareSums", unfollowed := true, recurses := true, plainKeys := false, apart := false, narrowed := true }
def CompareSumsUptoSaid : Prop := compareSumsUptoRow.holds Tryz.pinned (OpenSpec.upto compareSumsSpec)

/-- 'faultlinelaw48.DynamicMakes', WHERE WHAT IT READS IS OF BULK AT MOST 1048576: true; the input reads as it did. -/
def dynamicMakesUptoRow : OpenClaim := { program := "ytkbjecdpgbnkdaagreat", sum := "38418dec84e392bd24ecc794f1edb35994471b373d217279d147316151c89524", func := "faultline/faultlinelaw48.DynamicMakes", spec := "dynamicMakes", unfollowed := true, recurses := true, plainKeys := false, apart := false, narrowed := true }
def DynamicMakesUptoSaid : Prop := dynamicMakesUptoRow.holds Tryz.pinned (OpenSpec.upto dynamicMakesSpec)

/-- 'faultlinelaw59.CompareFinds', WHERE WHAT IT READS IS OF BULK AT MOST 1048576: true; the input reads as it did. -/
def compareFindsUptoRow : OpenClaim := { program := "ytkbjecdpgbnkdaagreat", sum := "38418dec84e392bd24ecc794f1edb35994471b373d217279d147316151c89524", func := "faultline/faultlinelaw59.CompareFinds", spec := "compareFinds", unfollowed := true, recurses := true, plainKeys := false, apart := false, narrowed := true }
def CompareFindsUptoSaid : Prop := compareFindsUptoRow.holds Tryz.pinned (OpenSpec.upto compareFindsSpec)

/-- 'faultlinelaw59.CompareMakes', WHERE WHAT IT READS IS OF BULK AT MOST 1048576: true; the input reads as it did. -/
def compareMakesUptoRow : OpenClaim := { program := "ytkbjecdpgbnkdaagreat", sum := "38418dec84e392bd24ecc794f1edb35994471b373d217279d147316151c89524", func := "faultline/faultlinelaw59.CompareMakes", spec := "compareMakes", unfollowed := true, recurses := true, plainKeys := false, apart := false, narrowed := true }
def CompareMakesUptoSaid : Prop := compareMakesUptoRow.holds Tryz.pinned (OpenSpec.upto compareMakesSpec)

/-- 'faultlinelaw59.CompareAccepts', WHERE WHAT IT READS IS OF BULK AT MOST 1048576: true; the input reads as it did. -/
def compareAcceptsUptoRow : OpenClaim := { program := "ytkbjecdpgbnkdaagreat", sum := "38418dec84e392bd24ecc794f1edb35994471b373d217279d147316151c89524", func := "faultline/faultlinelaw59.CompareAccepts", spec := "compareAccepts", unfollowed := true, recurses := true, loops := true, plainKeys := false, apart := false, narrowed := true }
def CompareAcceptsUptoSaid : Prop := compareAcceptsUptoRow.holds Tryz.pinned (OpenSpec.upto compareAcceptsSpec)

/-- 'faultlinelaw59.CompareProves', WHERE WHAT IT READS IS OF BULK AT MOST 1048576: true; the input reads as it did. -/
def compareProvesUptoRow : OpenClaim := { program := "ytkbjecdpgbnkdaagreat", sum := "38418dec84e392bd24ecc794f1edb35994471b373d217279d147316151c89524", func := "faultline/faultlinelaw59.CompareProves", spec := "compareProves", unfollowed := true, recurses := true, loops := true, plainKeys := false, apart := false, narrowed := true }
def CompareProvesUptoSaid : Prop := compareProvesUptoRow.holds Tryz.pinned (OpenSpec.upto compareProvesSpec)

/-- 'faultlinelaw48.DynamicStatic', WHERE WHAT IT READS IS OF BULK AT MOST 1048576: true; the input reads as it did. -/
def dynamicStaticUptoRow : OpenClaim := { program := "ytkbjecdpgbnkdaagreat", sum := "38418dec84e392bd24ecc794f1edb35994471b373d217279d147316151c89524", func := "faultline/faultlinelaw48.DynamicStatic", spec := "dynamicStatic", unfollowed := true, recurses := true, plainKeys := false, apart := false, narrowed := true }
def DynamicStaticUptoSaid : Prop := dynamicStaticUptoRow.holds Tryz.pinned (OpenSpec.upto dynamicStaticSpec)

end Rows
end Go.Proofs.YtkbjecdpgbnkdaaGreat
