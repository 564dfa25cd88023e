/-
  For every formula, state and event the function faultlinetop.WholeTop returns true: a state is a failure of the top event exactly if a minimal cut set has failed, and exactly if no minimal path set works, and a further failure never ends it. Nothing is assumed.
-/
import Derived.Test.YtjbhbpieccloeaaT7
import Derived.Test.YtjbhbpieccloeaaRows
import Derived.WalkKit
import Derived.ProofKit
import Derived.OpenShut
import Derived.ShutString
import Derived.ChangeOld
import Derived.Below

namespace Go.Proofs.Ytjbhbpieccloeaa
open Go.ChangeShapes Go.WideShapes Go.ChangeAt Go.RowKit
open Go.AL (bJ.law NY)

theorem own : ownKnob Try.prog.godebug = none:=by kernel_rfl
theorem laidOut : laidOutB Try.prog = true:=by kernel_rfl

set_option maxRecDepth 100000 in
theorem lifted (os : Os) (started : os.Started) (H : Type) (enc : TypeId × Value -> H) :
  ReturnsInHanded {} Try.checked os 3 .any (Rows.wholeTopSpec.pre6 enc Try.prog Try.f3 Rows.wholeTopRow.domain false) (Rows.wholeTopSpec.post enc Try.prog Try.f3 false true false false):=by
 refine returnsInHanded_of_change (C:=Try.checked) own started (by kernel_rfl) Try.func3
  (ChangeSpec.witness6 (enc:=enc) (C:=Try.checked) false ⟨#[],#[.agg #[.int .i64 0,.slice none 0 0,.int .i64 0],.int .u16 0,.int .u8 0],[]⟩ 8 (by kernel_rfl) (by kernel_rfl) (by kernel_rfl) (by kernel_rfl)) ?_
 intro W base args ds gs before hval0 hW _ _
 have hval : ∀ (j : Nat) t v,Try.f3.params[j]? = some t -> args[j]? = some v -> Value.okWide Try.prog W .any base t v:=hval0
 have hW':=hW
 obtain ⟨p,q,hA0,hV,rfl,_,_⟩:=hW
 have hA : DataW.TrodAll enc Try.prog W 0 (fun _=>true) true Try.f3.params.toList args.toList ds p:=hA0
 rw [Try.params3] at hA hval
 obtain ⟨v0,vs0,d0,ds0,p0,q0,hargs,rfl,rfl,h0,r0⟩:=trodAll_cons hA
 obtain ⟨v1,vs1,d1,ds1,p1,q1,rfl,rfl,rfl,h1,r1⟩:=trodAll_cons r0
 obtain ⟨v2,vs2,d2,ds2,p2,q2,rfl,rfl,rfl,h2,r2⟩:=trodAll_cons r1
 obtain ⟨rfl,rfl,rfl⟩:=trodAll_nil r2
 obtain rfl : args = #[v0,v1,v2]:=by cases args; simp_all
 obtain ⟨rfl,rfl⟩:=trodVars_none hV
 obtain ⟨A0,i0,e0⟩:=NY S.Xy (by kernel_rfl) (hval 0 24 v0 rfl rfl) h0
 obtain ⟨x0,rfl⟩:=S.Fo.of i0
 have k0:=h0
 have ZN : ∀ x ∈ p0,x.block < W.heap.size:=by obtain ⟨m,hm⟩:=k0; exact DataW.trod_lt m _ _ _ hm
 obtain ⟨A1,i1,e1⟩:=NY (.int .u16) (by kernel_rfl) (hval 1 25 v1 rfl rfl) h1
 obtain ⟨x1,rfl⟩:=S.xU i1
 have k1:=h1
 have ZM : ∀ x ∈ p1,x.block < W.heap.size:=by obtain ⟨m,hm⟩:=k1; exact DataW.trod_lt m _ _ _ hm
 obtain ⟨A2,i2,e2⟩:=NY (.int .u8) (by kernel_rfl) (hval 2 5 v2 rfl rfl) h2
 obtain ⟨x2,rfl⟩:=S.xU i2
 have k2:=h2
 have ZL : ∀ x ∈ p2,x.block < W.heap.size:=by obtain ⟨m,hm⟩:=k2; exact DataW.trod_lt m _ _ _ hm
 clear hA0 hval0
 have walk:=bJ.law (S.Jp x0 x1 x2) (w:=W) (vs:=[v0,v1,v2]) ⟨_,_,rfl,e0,⟨_,_,rfl,e1,⟨_,_,rfl,e2,rfl⟩⟩⟩
 refine walk.mono fun e W' ⟨he,bel⟩=>?_
 subst he
 exact ⟨_,rfl,_,_,_,[],_,[],hW',trodAll_mk1 (shut_bool Try.underlying4 _),(trodAll_cons_mk (Below.trod laidOut (by kernel_rfl) (of_decide_eq_true (by kernel_rfl)) k0 bel ZN) (trodAll_cons_mk (Below.trod laidOut (by kernel_rfl) (of_decide_eq_true (by kernel_rfl)) k1 bel ZM) (trodAll_cons_mk (Below.trod laidOut (by kernel_rfl) (of_decide_eq_true (by kernel_rfl)) k2 bel ZL) trodAll_mk0))),rfl,bel.frame _,fun h=>by cases h⟩

theorem Y7 {a b : Bool} (h1 : a = true) (h2 : b = true) : (a && b) = true:=by rw [h1,h2]; rfl

set_option maxRecDepth 100000 in
set_option maxHeartbeats 8000000 in
theorem closed : joinedFacts Try.pinned.checked.prog 3 Try.f3 Rows.wholeTopSpec Rows.wholeTopRow = true:=by
 unfold joinedFacts
 iterate 31 (refine Y7 ?_ (by as_aux_lemma=>kernel_rfl))
 as_aux_lemma=>kernel_rfl

theorem over : Rows.wholeTopRow.holds Try.pinned (OpenSpec.ofChange Rows.wholeTopSpec) :=
 OpenClaim.holds_of_wide 3 Try.f3 rfl rfl rfl rfl rfl rfl rfl ⟨rfl,rfl,rfl,rfl,rfl⟩ rfl rfl rfl rfl rfl (by kernel_rfl) Try.func3 closed
  (of_decide_eq_true (by kernel_rfl)) (by unfold Func.isWrapper; first | (rw [if_pos (by decide +kernel)]; kernel_rfl) | (rw [if_neg (by decide +kernel)]; exact ⟨rfl,rfl⟩))
  (fun os started H enc _=>lifted os started H enc)

theorem proved : Rows.WholeTopSaid:=over
#print axioms proved
end Go.Proofs.Ytjbhbpieccloeaa
