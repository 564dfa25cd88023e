/-
  faultlinelaw48.DynamicOrder answers true whatever the number and the bytes of acts that it reads, and its arguments read as they did.
  Conditions: none beyond those of the given statement.
-/
import Derived.Test.YtkhinhepefmdhaaT5
import Derived.Test.YtkhinhepefmdhaaRows
import Derived.WalkKit
import Derived.ProofKit
import Derived.OpenShut
import Derived.ShutString
import Derived.ChangeOld
import Derived.Below

namespace Go.Proofs.Ytkhinhepefmdhaa
open Go.ChangeShapes Go.WideShapes Go.ChangeAt Go.RowKit
open Go.ChangeMaps (open_string shut_string)
open Go.AL (FnH.law EV_int0 EV_ints EV_nil)
set_option linter.unusedVariables false

theorem own : ownKnob Try.prog.godebug = none := by kernel_rfl
theorem laidOut : laidOutB Try.prog = true := by kernel_rfl

theorem wfIn {k : IntKind} {n : Int} (h : (Lit.int k n).wf = true) : Go.AL.InR k n := by
  simpa [Lit.wf, Go.AL.InR] using h

set_option maxRecDepth 100000 in
theorem lifted (os : Os) (started : os.Started) (H : Type) (enc : TypeId × Value → H) :
    ReturnsInHanded {} Try.checked os 3 .any (Rows.dynamicOrderSpec.pre6 enc Try.prog Try.f3 Rows.dynamicOrderRow.domain false) (Rows.dynamicOrderSpec.post enc Try.prog Try.f3 false true false false) := by
  refine returnsInHanded_of_change (C := Try.checked) own started (by kernel_rfl) Try.func3
    (ChangeSpec.witness6 (enc := enc) (C := Try.checked) false ⟨#[], #[.int .u8 0, .slice none 0 0], []⟩ 8 (by kernel_rfl) (by kernel_rfl) (by kernel_rfl) (by kernel_rfl)) ?_
  intro W base args ds gs before hval0 hW hcnd _
  have hval : ∀ (j : Nat) t v, Try.f3.params[j]? = some t → args[j]? = some v → Value.okWide Try.prog W .any base t v := hval0
  have hW' := hW
  obtain ⟨p, q, hA0, hV, rfl, hfz, hnd⟩ := hW
  have hA : DataW.TrodAll enc Try.prog W 0 (fun _ => true) true Try.f3.params.toList args.toList ds p := hA0
  rw [Try.params3] at hA hval
  obtain ⟨v0, vs0, d0, ds0, p0, q0, hargs, rfl, rfl, h0, r0⟩ := trodAll_cons hA
  obtain ⟨v1, vs1, d1, ds1, p1, q1, rfl, rfl, rfl, h1, r1⟩ := trodAll_cons r0
  obtain ⟨rfl, rfl, rfl⟩ := trodAll_nil r1
  obtain rfl : args = #[v0, v1] := by cases args; simp_all
  obtain ⟨rfl, rfl⟩ := trodVars_none hV
  obtain ⟨a0, rfl, rfl, rfl, w0⟩ := open_int Try.underlying5 (hval 0 5 v0 rfl rfl) h0
  obtain ⟨a1, len1, cap1, rfl⟩ := okWide_slice Try.underlying22 (hval 1 22 v1 rfl rfl)
  have k1 := h1
  have lt1 : ∀ x ∈ p1, x.block < W.heap.size := by obtain ⟨m, hm⟩ := k1; exact DataW.trod_lt m _ _ _ hm
  obtain ⟨l, hl⟩ : ∃ l : List Int, Go.AL.EV (Go.AL.cx0 W) (.sl 1 (l.map (.int .u8)) .no) (.slice a1 len1 cap1) := by
    obtain ⟨fuel, hf⟩ := h1
    rcases open_ints Try.underlying22 Try.underlying5 (by kernel_rfl) hf with ⟨hcs, _⟩ | ⟨x, l, c, zs, hcs, _, hl, hm, hz, _, hcell, hwz⟩
    · simp [Value.cells] at hcs
      obtain ⟨rfl, rfl, rfl⟩ := hcs
      exact ⟨[], EV_nil⟩
    · simp [Value.cells] at hcs
      obtain ⟨rfl, rfl, rfl⟩ := hcs
      have hz' : zs.length = cap1 := by simpa using hz
      have htl : (zs.take len1).length = len1 := by rw [List.length_take]; omega
      refine ⟨zs.take len1, EV_ints htl hl hm ?_ ?_ ?_⟩
      · intro hne
        have hpos : 0 < (zs.take len1).length := List.length_pos_iff.2 hne
        have hc := hcell 0 (by omega)
        simpa [Addr.add] using World.cell?_spot hc
      · intro i hi
        have hc := hcell i (by omega)
        have hsp : x.spot = none := by
          have hc0 := hcell 0 (by omega)
          simpa [Addr.add] using World.cell?_spot hc0
        obtain ⟨b, off, spot⟩ := x
        simp only at hsp
        subst hsp
        rw [show (zs.take len1).getD i 0 = zs.getD i 0 by rw [List.getD_eq_getElem?_getD, List.getD_eq_getElem?_getD, List.getElem?_take, if_pos (by omega)]]
        by_cases hi0 : i = 0
        · subst hi0; simpa [Addr.add] using hc
        · simpa [Addr.add, hi0] using hc
      · intro n hn
        exact wfIn (hwz n (List.mem_of_mem_take hn))
  clear hA0 hval0
  have walk := FnH.law (S.c_DynamicOrder S.one a0 l) (w := W) (vs := [.int .u8 a0, .slice a1 len1 cap1]) ⟨_, _, rfl, EV_int0 (wfIn w0), _, _, rfl, hl, rfl⟩
  refine walk.mono fun e W' ⟨he, bel⟩ => ?_
  subst he
  exact ⟨_, rfl, _, _, _, [], _, [], hW', trodAll_mk1 (shut_bool Try.underlying4 _), (trodAll_cons_mk (shut_int Try.underlying5 w0) (trodAll_cons_mk (Below.trod laidOut (by kernel_rfl) (of_decide_eq_true (by kernel_rfl)) k1 bel lt1) trodAll_mk0)), rfl, bel.frame _, fun h => by cases h⟩

theorem over : Rows.dynamicOrderRow.holds Try.pinned (OpenSpec.ofChange Rows.dynamicOrderSpec) :=
  OpenClaim.holds_of_wide 3 Try.f3 rfl rfl rfl rfl rfl rfl rfl ⟨rfl, rfl, rfl, rfl, rfl⟩ rfl rfl rfl rfl rfl (by kernel_rfl) Try.func3 (by kernel_rfl)
    (of_decide_eq_true (by kernel_rfl)) (by unfold Func.isWrapper; first | (rw [if_pos (by decide +kernel)]; kernel_rfl) | (rw [if_neg (by decide +kernel)]; exact ⟨rfl, rfl⟩))
    (fun os started H enc _ => lifted os started H enc)

theorem proved : Rows.DynamicOrderSaid := over
#print axioms proved
end Go.Proofs.Ytkhinhepefmdhaa
