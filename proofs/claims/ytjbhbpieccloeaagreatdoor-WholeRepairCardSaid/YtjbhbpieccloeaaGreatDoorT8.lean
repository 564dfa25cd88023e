/-
  WholeRepair returns true for every input, and each argument reads afterwards as it read before; the two package-level tables of math/bits that the row lists hold what the program's text lays (the card ties them to the text of the pruned copy of the project). Nothing else is assumed.
-/
import Derived.Test.YtjbhbpieccloeaaGreatDoorT7
import Derived.Test.YtjbhbpieccloeaaGreatDoorTie
import Derived.Test.YtjbhbpieccloeaaGreatDoorCards
import Derived.SevenTiedAt
import Derived.LaidMore
import Derived.Stop.Joined
import Derived.WalkKit
import Derived.ProofKit
import Derived.OpenShut
import Derived.ShutString
import Derived.ChangeOld
import Derived.Below

namespace Go.Proofs.YtjbhbpieccloeaaGreatDoor
open Go.ChangeShapes Go.WideShapes Go.ChangeAt Go.RowKit
open Go.AL (iM PU)

theorem own : ownKnob Tryz.prog.godebug = none:=by kernel_rfl
theorem laidOut : laidOutB Tryz.prog = true:=by kernel_rfl

theorem gTab : Tryz.prog.globalNamed "math/bits.deBruijn64tab" = some 1:=by kernel_rfl

abbrev FZ : List (String × DataW Unit):=[("math/bits.deBruijn32tab",Rows.laid_math_bits_deBruijn32tab),("math/bits.deBruijn64tab",Rows.laid_math_bits_deBruijn64tab)]

theorem Yh : (Rows.laid_math_bits_deBruijn64tab : DataW Unit) = Go.Lib.tabData .u8 S.RX:=by kernel_rfl

theorem Yg {W : World} (h : laidMetH Tryz.prog FZ W) : Go.Lib.TabIs Tryz.prog W "math/bits.deBruijn64tab" .u8 S.RX:=by
 rw [MakeChecks.laidMetH_plain _ _ _ (by kernel_rfl)] at h
 unfold FZ at h
 rw [Yh] at h
 exact S.Mc gTab (t:=132) (e:=5) (n:=64) (by kernel_rfl) (by kernel_rfl) (by kernel_rfl) (by kernel_rfl) (by kernel_rfl) h

set_option maxRecDepth 100000 in
theorem door_met (os : Os) (args : Array Value) : laidMetH Tryz.prog FZ ((World.doorLaid Tryz.prog 19 os).forCall (fun _ _=>0) ⟨#[],args,[]⟩).memory:=by
 rw [MakeChecks.laidMetH_plain _ _ _ (by kernel_rfl)]
 exact laidMet_of_run' 8 (by kernel_rfl) (by kernel_rfl)

set_option maxRecDepth 100000 in
theorem lifted (os : Os) (started : os.Started) (H : Type) (enc : TypeId × Value -> H) :
  ReturnsInHanded {} Tryz.checked os 3 .any (fun w args=>(Rows.wholeRepairSpec.pre enc Tryz.prog Tryz.f3 [] false w args /\ laidMetH Tryz.prog FZ w) /\ sizedMet enc Tryz.prog Tryz.f3 (OpenSpec.ofChange Rows.wholeRepairSpec) false w args) (Rows.wholeRepairSpec.post enc Tryz.prog Tryz.f3 false true false false):=by
 refine returnsInHanded_of_change_and (C:=Tryz.checked) (X:=fun w _=>laidMetH Tryz.prog FZ w) (fun _ _ _ hh h=>h.of_heap hh) own started (by kernel_rfl) Tryz.func3
  (ChangeSpec.witness_shaped (enc:=enc) (C:=Tryz.checked) (os:=os) (X:=fun w _=>laidMetH Tryz.prog FZ w) false (World.doorLaid Tryz.prog 19 os) #[.agg #[.int .i64 0,.slice none 0 0,.int .i64 0],.agg #[.int .i64 0,.slice none 0 0],.agg #[.int .i64 0,.int .i64 0,.slice none 0 0,.int .i64 0,.slice none 0 0,.int .i64 0]] 8 rfl (World.shaped_of_RefB (by kernel_rfl) (by kernel_rfl)) (by kernel_rfl) (by kernel_rfl) (by kernel_rfl) (door_met os _)) ?_
 intro W base args ds gs before hval0 hW _ _ hL _
 have hval : ∀ (j : Nat) t v,Tryz.f3.params[j]? = some t -> args[j]? = some v -> Value.okWide Tryz.prog W .any base t v:=hval0
 have hW':=hW
 obtain ⟨p,q,hA0,hV,rfl,_,_⟩:=hW
 have hA : DataW.TrodAll enc Tryz.prog W 0 (fun _=>true) true Tryz.f3.params.toList args.toList ds p:=hA0
 rw [Tryz.params3] at hA hval
 obtain ⟨v0,vs0,d0,ds0,p0,q0,hargs,rfl,rfl,h0,r0⟩:=trodAll_cons hA
 obtain ⟨v1,vs1,d1,ds1,p1,q1,rfl,rfl,rfl,h1,r1⟩:=trodAll_cons r0
 obtain ⟨v2,vs2,d2,ds2,p2,q2,rfl,rfl,rfl,h2,r2⟩:=trodAll_cons r1
 obtain ⟨rfl,rfl,rfl⟩:=trodAll_nil r2
 obtain rfl : args = #[v0,v1,v2]:=by cases args; simp_all
 obtain ⟨rfl,rfl⟩:=trodVars_none hV
 obtain ⟨A0,i0,e0⟩:=PU S.Zt (by kernel_rfl) (hval 0 24 v0 rfl rfl) h0
 obtain ⟨x0,rfl⟩:=S.Fo.of i0
 have k0:=h0
 have lt0 : ∀ x ∈ p0,x.block < W.heap.size:=by obtain ⟨m,hm⟩:=k0; exact DataW.trod_lt m _ _ _ hm
 obtain ⟨A1,i1,e1⟩:=PU S.Zq (by kernel_rfl) (hval 1 27 v1 rfl rfl) h1
 obtain ⟨x1,rfl⟩:=S.Rc.of i1
 have k1:=h1
 have lt1 : ∀ x ∈ p1,x.block < W.heap.size:=by obtain ⟨m,hm⟩:=k1; exact DataW.trod_lt m _ _ _ hm
 obtain ⟨A2,i2,e2⟩:=PU S.Zp (by kernel_rfl) (hval 2 32 v2 rfl rfl) h2
 obtain ⟨x2,rfl⟩:=S.Rp.of i2
 have k2:=h2
 have lt2 : ∀ x ∈ p2,x.block < W.heap.size:=by obtain ⟨m,hm⟩:=k2; exact DataW.trod_lt m _ _ _ hm
 clear hA0 hval0
 have walk:=S.aQ.lawG (S.D5 x0 x1 x2) (w:=W) (vs:=[v0,v1,v2]) (S.P9 (Yg hL) gTab) ⟨_,_,rfl,iM S.Nq e0,⟨_,_,rfl,iM S.Nq e1,⟨_,_,rfl,iM S.Nq e2,rfl⟩⟩⟩
 refine walk.mono fun e W' ⟨he,bel⟩=>?_
 subst he
 exact ⟨_,rfl,_,_,_,[],_,[],hW',trodAll_mk1 (shut_bool Tryz.underlying4 _),(trodAll_cons_mk (Below.trod laidOut (by kernel_rfl) (of_decide_eq_true (by kernel_rfl)) k0 bel lt0) (trodAll_cons_mk (Below.trod laidOut (by kernel_rfl) (of_decide_eq_true (by kernel_rfl)) k1 bel lt1) (trodAll_cons_mk (Below.trod laidOut (by kernel_rfl) (of_decide_eq_true (by kernel_rfl)) k2 bel lt2) trodAll_mk0))),rfl,bel.frame _,fun h=>by cases h⟩

theorem and2 {a b : Bool} (h1 : a = true) (h2 : b = true) : (a && b) = true:=by rw [h1,h2]; rfl

set_option maxRecDepth 100000 in
set_option maxHeartbeats 8000000 in
theorem closed : joinedFacts Tryz.pinned.checked.prog 3 Tryz.f3 Rows.wholeRepairSpec Rows.wholeRepairRow = true:=by
 unfold joinedFacts
 iterate 31 (refine and2 ?_ (by as_aux_lemma=>kernel_rfl))
 as_aux_lemma=>kernel_rfl

theorem over : Rows.wholeRepairRow.holds Tryz.pinned (OpenSpec.ofChange Rows.wholeRepairSpec) :=
 OpenClaim.holds_of_wide 3 Tryz.f3 rfl rfl rfl rfl rfl rfl rfl ⟨rfl,rfl,rfl,rfl,rfl⟩ rfl rfl rfl rfl rfl (by kernel_rfl) Tryz.func3 closed
  (of_decide_eq_true (by kernel_rfl)) (by unfold Func.isWrapper; first | (rw [if_pos (by decide +kernel)]; kernel_rfl) | (rw [if_neg (by decide +kernel)]; exact ⟨rfl,rfl⟩))
  (fun os started H enc _=>lifted os started H enc)

theorem QV : Claim7.holds Tryz.pinned (.plain (OpenSpec.ofChange Rows.wholeRepairSpec)) Rows.wholeRepairCard :=
 Claim7.holds_tied_plain_at .later [] [.data,.data] true (true,"c24f38eda2c9327fbd2812647fc0ae9218cb1253b0f6a3c8036e074cf5fe15bd") true
  over (fun _ h=>by cases h) (by kernel_rfl) (fun _ h=>by cases h) wholeRepair_row_tie rfl ⟨rfl,rfl⟩ (by kernel_rfl) rfl
  (fun f fn hf hfn=>by
   obtain rfl : f = 3:=Option.some.inj ((show Tryz.prog.funcNamed "faultline/faultlinetop.WholeRepair" = some 3 by kernel_rfl).symm.trans hf) |>.symm
   obtain rfl : fn = Tryz.f3:=(Option.some.inj (Tryz.func3.symm.trans hfn)).symm
   exact ⟨by kernel_rfl,fun j t ht=>by
    rw [Tryz.params3] at ht
    have hm : t ∈ [24,27,32]:=by simpa using Array.mem_of_getElem? ht
    have hall : ([24,27,32].all fun u=>!Tryz.prog.wantsStandIn u) = true:=by kernel_rfl
    exact (show Tryz.prog.wantsStandIn t = false by simpa using List.all_eq_true.1 hall t hm)⟩)
  (by kernel_rfl)

theorem proved : Rows.WholeRepairCardSaid:=QV
#print axioms proved
end Go.Proofs.YtjbhbpieccloeaaGreatDoor
