/-
  Contracts of functions of the program, over the logic of the texts before. Nothing is assumed.
-/
import Derived.Test.YtohfjkdpekkmaaaGreatT7

open Go Go.AL Go.Proofs
namespace S
set_option maxRecDepth 100000

theorem atR_bad2 (m : Md) (s : Str) (h : (atR m s).2 ≠ 0) : (atR m s).1 = ⟨0,[],0⟩:=by
 unfold atR at h ⊢
 split
 ·rfl
 ·rename_i h1
  rw [if_neg h1] at h
  split
  ·rfl
  ·rename_i h2; rw [if_neg h2] at h; exact absurd rfl h

theorem c_CompileLists (h1c : OneC) (m : Md) (j : Int) : FnH Tryz.prog 3 [m.av,.int .i64 j] [] (.bool true) []:=by
 have c0:=c_awake26.weak (R':=.tt) rfl
 have cl:=c_LightM m _ rfl
 cases hL : lightM m with
 | false =>
   rw [hL] at cl
   have cl:=cl.weak (R':=.ff) rfl
   refine FnH.intro lay mixed Tryz.func3 (by kernel_rfl) rfl (by kernel_rfl) rfl fun hok=>?_
   (try dsimp only[argC,succC]);(try dsimp only[awp]);conv=>whnf
   refine .pure _ _ ?_ ⟨rfl,rfl⟩ c0 fun _=>?_
   ·exact leL_refl _
   (try dsimp only[awp]);conv=>whnf
   refine .pure _ _ ?_ ⟨rfl,rfl⟩ cl fun _=>?_
   ·exact leL_refl _
   (try dsimp only[awp]);conv=>whnf
   refine .pure _ _ ?_ ⟨rfl,rfl⟩ c0 fun _=>?_
   ·exact leL_refl _
   (try dsimp only[awp]);conv=>whnf
   refine fM ?_;(conv=>whnf);refine ⟨?_,rfl⟩;conv=>whnf
   all_goals exact wk
 | true =>
 rw [hL] at cl
 have cl:=cl.weak (R':=.tt) rfl
 obtain ⟨hB,hC⟩:=lightM_B hL
 have hX:=lightM_X hL
 have cr:=c_refCheck h1c m hX hB _ rfl
 by_cases hc : checkM m ≠ 0
 ·have cn:=ce_Names m hC hB hc
  have cp:=ce_Probs m hC hB hc
  have cq:=ce_Phase m j hC hB hc
  have cN:=c_Num (checkM m)
  rw [errAV_ne hc] at cN
  have cf:=c_form1 ⟨0,[],0⟩
  generalize checkM m = e at *
  refine FnH.intro lay mixed Tryz.func3 (by kernel_rfl) rfl (by kernel_rfl) rfl fun hok=>?_
  (try dsimp only[argC,succC]);(try dsimp only[awp]);conv=>whnf
  refine .pure _ _ ?_ ⟨rfl,rfl⟩ c0 fun _=>?_
  ·exact leL_refl _
  (try dsimp only[awp]);conv=>whnf
  refine .pure _ _ ?_ ⟨rfl,rfl⟩ cl fun _=>?_
  ·exact leL_refl _
  (try dsimp only[awp]);conv=>whnf
  refine .pure _ _ ?_ ⟨rfl,rfl⟩ cn fun _=>?_
  ·all_goals exact wk
  (try dsimp only[awp]);conv=>whnf
  refine .pure _ _ ?_ ⟨rfl,rfl⟩ cp fun _=>?_
  ·all_goals exact wk
  (try dsimp only[awp]);conv=>whnf
  refine .pure _ _ ?_ ⟨rfl,rfl⟩ cq fun _=>?_
  ·all_goals exact wk
  (try dsimp only[awp]);conv=>whnf
  refine .pure _ _ ?_ ⟨rfl,rfl⟩ cr fun _=>?_
  ·all_goals exact wk
  (try dsimp only[awp]);conv=>whnf
  refine And.intro (fun _=>?_) (fun h=>absurd hc h)
  (try dsimp only[awp]);conv=>whnf
  refine zA ?_;conv=>whnf
  refine zA ?_;conv=>whnf
  refine And.intro (fun _=>?_) (fun h=>absurd rfl h)
  (try dsimp only[awp]);conv=>whnf
  refine .pure _ _ ?_ ⟨rfl,rfl⟩ cf fun _=>?_
  ·all_goals exact wk
  (try dsimp only[awp]);conv=>whnf
  refine .pure _ _ ?_ ⟨rfl,rfl⟩ cN fun _=>?_
  ·all_goals exact wk
  (try dsimp only[awp]);conv=>whnf
  refine And.intro (fun _=>?_) (fun h=>absurd rfl h)
  (try dsimp only[awp]);conv=>whnf
  refine .pure _ _ ?_ ⟨rfl,rfl⟩ cN fun _=>?_
  ·all_goals exact wk
  (try dsimp only[awp]);conv=>whnf
  refine And.intro (fun _=>?_) (fun h=>absurd rfl h)
  (try dsimp only[awp]);conv=>whnf
  refine .pure _ _ ?_ ⟨rfl,rfl⟩ cN fun _=>?_
  ·all_goals exact wk
  (try dsimp only[awp]);conv=>whnf
  refine fM ?_;(conv=>whnf);refine ⟨?_,rfl⟩;conv=>whnf
  exact ⟨fun _=>rfl,fun _=>rfl⟩
 have hc : checkM m = 0:=by simpa using hc
 have hM:=checkM_ok hc
 rw [hc] at cr
 have cn:=c_Names26 m hC hB hM
 have cp:=c_ProbsP m hC hB hX hM
 have rn:=c_rNames26 m hM.lens.1
 have rp:=c_rProbsP m hM.lens.1
 have t1:=c_texts1 (m.evs.map Ev.name)
 have t2:=c_rats1 (m.evs.map Ev.p)
 have zF:=c_form1 ⟨0,[],0⟩
 have zR:=c_rats1 []
 by_cases hj : 0 ≤ j ∧ j < (m.phs.length : Int)
 ·obtain ⟨j,rfl⟩ : ∃ k : Nat,j = (k : Int):=⟨j.toNat,by omega⟩
  have hj : j < m.phs.length:=by omega
  by_cases he : (atR m m.phs[j].top).2 ≠ 0
  ·have cq:=cf_Phase m j hC hB hX hM hj he (atR_bad2 m _ he)
   have rq:=rf_Phase m j hB hM hj he
   have cN:=c_Num (atR m m.phs[j].top).2
   rw [errAV_ne he] at cN
   generalize (atR m m.phs[j].top).2 = e at *
   refine FnH.intro lay mixed Tryz.func3 (by kernel_rfl) rfl (by kernel_rfl) rfl fun hok=>?_
   (try dsimp only[argC,succC]);(try dsimp only[awp]);conv=>whnf
   refine .pure _ _ ?_ ⟨rfl,rfl⟩ c0 fun _=>?_
   ·exact leL_refl _
   (try dsimp only[awp]);conv=>whnf
   refine .pure _ _ ?_ ⟨rfl,rfl⟩ cl fun _=>?_
   ·exact leL_refl _
   (try dsimp only[awp]);conv=>whnf
   refine .pure _ _ ?_ ⟨rfl,rfl⟩ cn fun _=>?_
   ·all_goals exact wk
   (try dsimp only[awp]);conv=>whnf
   refine .pure _ _ ?_ ⟨rfl,rfl⟩ cp fun _=>?_
   ·all_goals exact wk
   (try dsimp only[awp]);conv=>whnf
   refine .pure _ _ ?_ ⟨rfl,rfl⟩ cq fun _=>?_
   ·all_goals exact wk
   (try dsimp only[awp]);conv=>whnf
   refine .pure _ _ ?_ ⟨rfl,rfl⟩ cr fun _=>?_
   ·all_goals exact wk
   (try dsimp only[awp]);conv=>whnf
   refine And.intro (fun h=>absurd rfl h) (fun _=>?_)
   (try dsimp only[awp]);conv=>whnf
   refine .pure _ _ ?_ ⟨rfl,rfl⟩ rq fun _=>?_
   ·all_goals exact wk
   (try dsimp only[awp]);conv=>whnf
   refine .pure _ _ ?_ ⟨rfl,rfl⟩ rn fun _=>?_
   ·all_goals exact wk
   (try dsimp only[awp]);conv=>whnf
   refine .pure _ _ ?_ ⟨rfl,rfl⟩ t1 fun _=>?_
   ·all_goals exact wk
   (try dsimp only[awp]);conv=>whnf
   refine .pure _ _ ?_ ⟨rfl,rfl⟩ rp fun _=>?_
   ·all_goals exact wk
   (try dsimp only[awp]);conv=>whnf
   refine .pure _ _ ?_ ⟨rfl,rfl⟩ t2 fun _=>?_
   ·all_goals exact wk
   (try dsimp only[awp]);conv=>whnf
   refine .pure _ _ ?_ ⟨rfl,rfl⟩ cN fun _=>?_
   ·all_goals exact wk
   (try dsimp only[awp]);conv=>whnf
   refine And.intro (fun _=>?_) (fun h=>absurd rfl h)
   (try dsimp only[awp]);conv=>whnf
   refine .pure _ _ ?_ ⟨rfl,rfl⟩ zF fun _=>?_
   ·all_goals exact wk
   (try dsimp only[awp]);conv=>whnf
   refine .pure _ _ ?_ ⟨rfl,rfl⟩ zR fun _=>?_
   ·all_goals exact wk
   (try dsimp only[awp]);conv=>whnf
   refine fM ?_;(conv=>whnf);refine ⟨?_,rfl⟩;conv=>whnf
  ·have he : (atR m m.phs[j].top).2 = 0:=by simpa using he
   have cq:=co_Phase m j hC hB hX hM hj he
   have rq:=ro_Phase m j hB hM hj he
   have fS:=c_form1 (atR m m.phs[j].top).1
   have rS:=c_rats1 (phP m m.phs[j].vals)
   have cN:=c_Num 0
   rw [errAV_zero] at cN
   generalize (atR m m.phs[j].top).1 = f at *
   refine FnH.intro lay mixed Tryz.func3 (by kernel_rfl) rfl (by kernel_rfl) rfl fun hok=>?_
   (try dsimp only[argC,succC]);(try dsimp only[awp]);conv=>whnf
   refine .pure _ _ ?_ ⟨rfl,rfl⟩ c0 fun _=>?_
   ·exact leL_refl _
   (try dsimp only[awp]);conv=>whnf
   refine .pure _ _ ?_ ⟨rfl,rfl⟩ cl fun _=>?_
   ·exact leL_refl _
   (try dsimp only[awp]);conv=>whnf
   refine .pure _ _ ?_ ⟨rfl,rfl⟩ cn fun _=>?_
   ·all_goals exact wk
   (try dsimp only[awp]);conv=>whnf
   refine .pure _ _ ?_ ⟨rfl,rfl⟩ cp fun _=>?_
   ·all_goals exact wk
   (try dsimp only[awp]);conv=>whnf
   refine .pure _ _ ?_ ⟨rfl,rfl⟩ cq fun _=>?_
   ·all_goals exact wk
   (try dsimp only[awp]);conv=>whnf
   refine .pure _ _ ?_ ⟨rfl,rfl⟩ cr fun _=>?_
   ·all_goals exact wk
   (try dsimp only[awp]);conv=>whnf
   refine And.intro (fun h=>absurd rfl h) (fun _=>?_)
   (try dsimp only[awp]);conv=>whnf
   refine .pure _ _ ?_ ⟨rfl,rfl⟩ rq fun _=>?_
   ·all_goals exact wk
   (try dsimp only[awp]);conv=>whnf
   refine .pure _ _ ?_ ⟨rfl,rfl⟩ rn fun _=>?_
   ·all_goals exact wk
   (try dsimp only[awp]);conv=>whnf
   refine .pure _ _ ?_ ⟨rfl,rfl⟩ t1 fun _=>?_
   ·all_goals exact wk
   (try dsimp only[awp]);conv=>whnf
   refine .pure _ _ ?_ ⟨rfl,rfl⟩ rp fun _=>?_
   ·all_goals exact wk
   (try dsimp only[awp]);conv=>whnf
   refine .pure _ _ ?_ ⟨rfl,rfl⟩ t2 fun _=>?_
   ·all_goals exact wk
   (try dsimp only[awp]);conv=>whnf
   refine .pure _ _ ?_ ⟨rfl,rfl⟩ cN fun _=>?_
   ·all_goals exact wk
   (try dsimp only[awp]);conv=>whnf
   refine And.intro (fun _=>?_) (fun h=>absurd rfl h)
   (try dsimp only[awp]);conv=>whnf
   refine .pure _ _ ?_ ⟨rfl,rfl⟩ fS fun _=>?_
   ·all_goals exact wk
   (try dsimp only[awp]);conv=>whnf
   refine .pure _ _ ?_ ⟨rfl,rfl⟩ rS fun _=>?_
   ·all_goals exact wk
   (try dsimp only[awp]);conv=>whnf
   refine fM ?_;(conv=>whnf);refine ⟨?_,rfl⟩;conv=>whnf
 ·have cq:=ci_Phase m j hC hB hX hM hj
  have rq:=ri_Phase m j hj
  have cN:=c_Num 10
  rw [errAV_ne (by decide)] at cN
  refine FnH.intro lay mixed Tryz.func3 (by kernel_rfl) rfl (by kernel_rfl) rfl fun hok=>?_
  (try dsimp only[argC,succC]);(try dsimp only[awp]);conv=>whnf
  refine .pure _ _ ?_ ⟨rfl,rfl⟩ c0 fun _=>?_
  ·exact leL_refl _
  (try dsimp only[awp]);conv=>whnf
  refine .pure _ _ ?_ ⟨rfl,rfl⟩ cl fun _=>?_
  ·exact leL_refl _
  (try dsimp only[awp]);conv=>whnf
  refine .pure _ _ ?_ ⟨rfl,rfl⟩ cn fun _=>?_
  ·all_goals exact wk
  (try dsimp only[awp]);conv=>whnf
  refine .pure _ _ ?_ ⟨rfl,rfl⟩ cp fun _=>?_
  ·all_goals exact wk
  (try dsimp only[awp]);conv=>whnf
  refine .pure _ _ ?_ ⟨rfl,rfl⟩ cq fun _=>?_
  ·all_goals exact wk
  (try dsimp only[awp]);conv=>whnf
  refine .pure _ _ ?_ ⟨rfl,rfl⟩ cr fun _=>?_
  ·all_goals exact wk
  (try dsimp only[awp]);conv=>whnf
  refine And.intro (fun h=>absurd rfl h) (fun _=>?_)
  (try dsimp only[awp]);conv=>whnf
  refine .pure _ _ ?_ ⟨rfl,rfl⟩ rq fun _=>?_
  ·all_goals exact wk
  (try dsimp only[awp]);conv=>whnf
  refine .pure _ _ ?_ ⟨rfl,rfl⟩ rn fun _=>?_
  ·all_goals exact wk
  (try dsimp only[awp]);conv=>whnf
  refine .pure _ _ ?_ ⟨rfl,rfl⟩ t1 fun _=>?_
  ·all_goals exact wk
  (try dsimp only[awp]);conv=>whnf
  refine .pure _ _ ?_ ⟨rfl,rfl⟩ rp fun _=>?_
  ·all_goals exact wk
  (try dsimp only[awp]);conv=>whnf
  refine .pure _ _ ?_ ⟨rfl,rfl⟩ t2 fun _=>?_
  ·all_goals exact wk
  (try dsimp only[awp]);conv=>whnf
  refine .pure _ _ ?_ ⟨rfl,rfl⟩ cN fun _=>?_
  ·all_goals exact wk
  (try dsimp only[awp]);conv=>whnf
  refine And.intro (fun _=>?_) (fun h=>absurd rfl h)
  (try dsimp only[awp]);conv=>whnf
  refine .pure _ _ ?_ ⟨rfl,rfl⟩ zF fun _=>?_
  ·all_goals exact wk
  (try dsimp only[awp]);conv=>whnf
  refine .pure _ _ ?_ ⟨rfl,rfl⟩ zR fun _=>?_
  ·all_goals exact wk
  (try dsimp only[awp]);conv=>whnf
  refine fM ?_;(conv=>whnf);refine ⟨?_,rfl⟩;conv=>whnf
theorem one : OneC:=r_of
end S
