/-
  Contracts of functions of the program, over the logic of the texts before. Nothing is assumed.
-/
import Derived.Test.YtkbjecdpgbnkdaaGreatT4

open Go Go.AL Go.Proofs
namespace S
set_option maxRecDepth 100000

theorem iD (a : List Int) (hsz : a.length <= 1000000) : aA Tryz.prog 151 [wL a] [] (wL (wd (val a))) []:=by
 refine aA.intro lay mixed Tryz.func151 (by kernel_rfl) rfl (by kernel_rfl) rfl fun hok=>?_
 have hl : a.length <= 9223372036854775807:=by simpa [yR,Ok,maxL] using hok.1.1
 have hw : Ws a:=Ws.ok hok.1.2
 conv=>whnf
 refine aK.of <| aC.inv (.refl _ _) (fun (n : Nat)=>n <= a.length /\ ∀ k,n <= k -> a.getD k 0 = 0) (fun (n : Nat)=>[(3,.int .i64 n)]) (fun _=>_) (fun (n : Nat)=>n) a.length ?_ (fun _=>rfl) ?_ ?_
 ·exact ⟨Nat.le_refl _,fun k hk=>by rw [List.getD_eq_getElem?_getD,List.getElem?_eq_none hk]; rfl⟩
 ·repeat' first|exact rfl|exact trivial|exact wR|exact lR _|apply aI
  simp
 rintro n ⟨hn,hz⟩ _
 have fin : (n = 0 \/ a.getD (n - 1) 0 ≠ 0) -> a.take n = wd (val a):=JG hw hn hz
 have cut : a.take n = wd (val a) -> ((a.map (AV.int .u32)).drop (0 : Int).toNat).take ((n : Int).toNat - (0 : Int).toNat) = (wd (val a)).map (AV.int .u32):=by
  intro e
  rw [<- e]; simp [List.map_take]
 have hll : a.take n = wd (val a) -> (wd (val a)).length <= a.length:=by
  intro e
  rw [<- e]; simp; omega
 conv=>whnf
 refine And.intro (fun h=>?_) (fun h=>?_)
 ·conv=>whnf
  refine zA ?_;conv=>whnf
  refine fC 0 (i:=n - 1) (by omega) (by omega) ?_
  conv=>whnf
  refine And.intro (fun h0=>?_) (fun h0=>?_)
  ·conv=>whnf
   refine zA ?_;conv=>whnf
   refine ⟨n - 1,?_,?_,?_⟩
   ·refine ⟨by omega,fun k hk=>?_⟩
    by_cases hkn : k = n - 1
    ·subst hkn; exact h0
    ·exact hz k (by omega)
   ·repeat' first|exact rfl|exact trivial|exact wR|exact lR _|apply aI
    omega
   ·omega
  ·have e:=fin (.inr h0)
   have hlen:=hll e
   conv=>whnf
   refine ⟨⟨by omega,by omega,by simp; omega⟩,?_⟩
   rw [cut e]
   conv=>whnf
   refine .tok (by simp [maxL]; omega) (by simp; omega) ?_
   conv=>whnf
   refine fM ?_;(conv=>whnf);refine ⟨?_,rfl⟩;conv=>whnf
   exact ⟨rfl,aY (by simp)⟩
 ·have e:=fin (.inl (by omega))
  have hlen:=hll e
  conv=>whnf
  refine ⟨⟨by omega,by omega,by simp; omega⟩,?_⟩
  rw [cut e]
  conv=>whnf
  refine .tok (by simp [maxL]; omega) (by simp; omega) ?_
  conv=>whnf
  refine fM ?_;(conv=>whnf);refine ⟨?_,rfl⟩;conv=>whnf
  exact ⟨rfl,aY (by simp)⟩

theorem iQ (a : List Int) (i : Nat) : aA Tryz.prog 150 [wL a,.int .i64 i] [] (.int .u64 (a.getD i 0)) []:=by
 refine aA.intro lay mixed Tryz.func150 (by kernel_rfl) rfl (by kernel_rfl) rfl fun hok=>?_
 have hw : Ws a:=Ws.ok hok.1.2
 conv=>whnf
 refine And.intro (fun h=>?_) (fun h=>?_)
 ·have h : i < a.length:=by simp only [List.length_map] at h; omega
  conv=>whnf
  refine fC 0 rfl h ?_
  conv=>whnf
  refine fM ?_;(conv=>whnf);refine ⟨?_,rfl⟩;conv=>whnf
  have:=hw.getD (i:=i)
  exact ⟨rfl,wrap_u64 (by omega) (by omega)⟩
 ·have h : a.length <= i:=by simp only [List.length_map] at h; omega
  conv=>whnf
  refine fM ?_;(conv=>whnf);refine ⟨?_,rfl⟩;conv=>whnf
  refine ⟨rfl,?_⟩
  rw [List.getD_eq_getElem?_getD,List.getElem?_eq_none h]; rfl

theorem O7 : aA Tryz.prog 124 [.int .i64 1] [] (wL [1,0]) []:=by
 refine aA.intro lay mixed Tryz.func124 (by kernel_rfl) rfl (by kernel_rfl) rfl fun hok=>?_
 conv=>whnf
 (repeat' ((first|refine aK.step 300 ?_|refine zY ?_|refine zN ?_|refine zI ?_|refine zD ?_|refine bZ.mk ⟨_,⟨by decide +kernel,rfl⟩,?_⟩|refine zC ?_|refine zT ?_|refine zU ?_|refine fE.mk (by decide +kernel) (by decide +kernel) ?_|refine bU.wr ?_|refine aS.auto (by kernel_rfl) ?_);(conv=>whnf)))
 refine fM ?_;(conv=>whnf);refine ⟨?_,rfl⟩;conv=>whnf
 exact ⟨rfl,⟨rfl,by decide +kernel⟩,⟨rfl,by decide +kernel⟩,trivial⟩

theorem VT : aA Tryz.prog 152 [wL [1,0]] [] (.int .i64 1) []:=by
 refine aA.intro lay mixed Tryz.func152 (by kernel_rfl) rfl (by kernel_rfl) rfl fun hok=>?_
 conv=>whnf
 (repeat' ((first|refine aK.step 300 ?_|refine zY ?_|refine zN ?_|refine zI ?_|refine zD ?_|refine bZ.mk ⟨_,⟨by decide +kernel,rfl⟩,?_⟩|refine zC ?_|refine zT ?_|refine zU ?_|refine fE.mk (by decide +kernel) (by decide +kernel) ?_|refine bU.wr ?_|refine aS.auto (by kernel_rfl) ?_);(conv=>whnf)))
 refine fM ?_;(conv=>whnf);refine ⟨?_,rfl⟩;conv=>whnf
 exact ⟨rfl,by decide +kernel⟩

theorem VO : aA Tryz.prog 242 [wL [1],.int .i64 31] [] (wL [2147483648]) []:=by
 have ct:=iD [2147483648,0] (by decide)
 rw [show wd (val [2147483648,0]) = [2147483648] from by decide +kernel] at ct
 refine aA.intro lay mixed Tryz.func242 (by kernel_rfl) rfl (by kernel_rfl) rfl fun hok=>?_
 conv=>whnf
 (repeat' ((first|refine aK.step 300 ?_|refine zY ?_|refine zN ?_|refine zI ?_|refine zD ?_|refine bZ.mk ⟨_,⟨by decide +kernel,rfl⟩,?_⟩|refine zC ?_|refine zT ?_|refine zU ?_|refine fE.mk (by decide +kernel) (by decide +kernel) ?_|refine bU.wr ?_|refine aS.auto (by kernel_rfl) ?_);(conv=>whnf)))
 refine .pure _ _ ?_ ⟨rfl,rfl⟩ (ct) fun _=>?_
 ·(repeat' (first|exact trivial|refine aI ?_ ?_|decide +kernel|exact rfl))
 conv=>whnf
 (repeat' ((first|refine aK.step 300 ?_|refine zY ?_|refine zN ?_|refine zI ?_|refine zD ?_|refine bZ.mk ⟨_,⟨by decide +kernel,rfl⟩,?_⟩|refine zC ?_|refine zT ?_|refine zU ?_|refine fE.mk (by decide +kernel) (by decide +kernel) ?_|refine bU.wr ?_|refine aS.auto (by kernel_rfl) ?_);(conv=>whnf)))
 refine fM ?_;(conv=>whnf);refine ⟨?_,rfl⟩;conv=>whnf
 all_goals exact wk

theorem r_up2 : aA Tryz.prog 242 [wL [1,0],.int .i64 31] [] (wL [2147483648]) []:=by
 have ct:=iD [2147483648,0,0] (by decide)
 rw [show wd (val [2147483648,0,0]) = [2147483648] from by decide +kernel] at ct
 refine aA.intro lay mixed Tryz.func242 (by kernel_rfl) rfl (by kernel_rfl) rfl fun hok=>?_
 conv=>whnf
 (repeat' ((first|refine aK.step 300 ?_|refine zY ?_|refine zN ?_|refine zI ?_|refine zD ?_|refine bZ.mk ⟨_,⟨by decide +kernel,rfl⟩,?_⟩|refine zC ?_|refine zT ?_|refine zU ?_|refine fE.mk (by decide +kernel) (by decide +kernel) ?_|refine bU.wr ?_|refine aS.auto (by kernel_rfl) ?_);(conv=>whnf)))
 refine .pure _ _ ?_ ⟨rfl,rfl⟩ (ct) fun _=>?_
 ·(repeat' (first|exact trivial|refine aI ?_ ?_|decide +kernel|exact rfl))
 conv=>whnf
 (repeat' ((first|refine aK.step 300 ?_|refine zY ?_|refine zN ?_|refine zI ?_|refine zD ?_|refine bZ.mk ⟨_,⟨by decide +kernel,rfl⟩,?_⟩|refine zC ?_|refine zT ?_|refine zU ?_|refine fE.mk (by decide +kernel) (by decide +kernel) ?_|refine bU.wr ?_|refine aS.auto (by kernel_rfl) ?_);(conv=>whnf)))
 refine fM ?_;(conv=>whnf);refine ⟨?_,rfl⟩;conv=>whnf
 all_goals exact wk

theorem VQ : aA Tryz.prog 72 [wL [2147483648],wL [2147483648]] [] (.int .i64 0) []:=by
 have cw:=iQ [2147483648] 0
 refine aA.intro lay mixed Tryz.func72 (by kernel_rfl) rfl (by kernel_rfl) rfl fun hok=>?_
 conv=>whnf
 (repeat' ((first|refine aK.step 300 ?_|refine zY ?_|refine zN ?_|refine zI ?_|refine zD ?_|refine bZ.mk ⟨_,⟨by decide +kernel,rfl⟩,?_⟩|refine zC ?_|refine zT ?_|refine zU ?_|refine fE.mk (by decide +kernel) (by decide +kernel) ?_|refine bU.wr ?_|refine aS.auto (by kernel_rfl) ?_);(conv=>whnf)))
 refine .pure _ _ ?_ ⟨rfl,rfl⟩ (cw) fun _=>?_
 ·(repeat' (first|exact trivial|refine aI ?_ ?_|decide +kernel|exact rfl))
 conv=>whnf
 (repeat' ((first|refine aK.step 300 ?_|refine zY ?_|refine zN ?_|refine zI ?_|refine zD ?_|refine bZ.mk ⟨_,⟨by decide +kernel,rfl⟩,?_⟩|refine zC ?_|refine zT ?_|refine zU ?_|refine fE.mk (by decide +kernel) (by decide +kernel) ?_|refine bU.wr ?_|refine aS.auto (by kernel_rfl) ?_);(conv=>whnf)))
 refine .pure _ _ ?_ ⟨rfl,rfl⟩ (cw) fun _=>?_
 ·(repeat' (first|exact trivial|refine aI ?_ ?_|decide +kernel|exact rfl))
 conv=>whnf
 (repeat' ((first|refine aK.step 300 ?_|refine zY ?_|refine zN ?_|refine zI ?_|refine zD ?_|refine bZ.mk ⟨_,⟨by decide +kernel,rfl⟩,?_⟩|refine zC ?_|refine zT ?_|refine zU ?_|refine fE.mk (by decide +kernel) (by decide +kernel) ?_|refine bU.wr ?_|refine aS.auto (by kernel_rfl) ?_);(conv=>whnf)))
 refine .pure _ _ ?_ ⟨rfl,rfl⟩ (cw) fun _=>?_
 ·(repeat' (first|exact trivial|refine aI ?_ ?_|decide +kernel|exact rfl))
 conv=>whnf
 (repeat' ((first|refine aK.step 300 ?_|refine zY ?_|refine zN ?_|refine zI ?_|refine zD ?_|refine bZ.mk ⟨_,⟨by decide +kernel,rfl⟩,?_⟩|refine zC ?_|refine zT ?_|refine zU ?_|refine fE.mk (by decide +kernel) (by decide +kernel) ?_|refine bU.wr ?_|refine aS.auto (by kernel_rfl) ?_);(conv=>whnf)))
 refine .pure _ _ ?_ ⟨rfl,rfl⟩ (cw) fun _=>?_
 ·(repeat' (first|exact trivial|refine aI ?_ ?_|decide +kernel|exact rfl))
 conv=>whnf
 (repeat' ((first|refine aK.step 300 ?_|refine zY ?_|refine zN ?_|refine zI ?_|refine zD ?_|refine bZ.mk ⟨_,⟨by decide +kernel,rfl⟩,?_⟩|refine zC ?_|refine zT ?_|refine zU ?_|refine fE.mk (by decide +kernel) (by decide +kernel) ?_|refine bU.wr ?_|refine aS.auto (by kernel_rfl) ?_);(conv=>whnf)))
 refine fM ?_;(conv=>whnf);refine ⟨?_,rfl⟩;conv=>whnf
 exact ⟨rfl,rfl⟩

theorem r_sub : aA Tryz.prog 73 [wL [2147483648],wL [2147483648]] [] (.eG [wL [],.int .i64 0]) []:=by
 have cw:=iQ [2147483648] 0
 have ct:=iD [0] (by decide)
 rw [show wd (val [0]) = [] from by decide +kernel] at ct
 refine aA.intro lay mixed Tryz.func73 (by kernel_rfl) rfl (by kernel_rfl) rfl fun hok=>?_
 conv=>whnf
 (repeat' ((first|refine aK.step 300 ?_|refine zY ?_|refine zN ?_|refine zI ?_|refine zD ?_|refine bZ.mk ⟨_,⟨by decide +kernel,rfl⟩,?_⟩|refine zC ?_|refine zT ?_|refine zU ?_|refine fE.mk (by decide +kernel) (by decide +kernel) ?_|refine bU.wr ?_|refine aS.auto (by kernel_rfl) ?_);(conv=>whnf)))
 refine .pure _ _ ?_ ⟨rfl,rfl⟩ (VQ) fun _=>?_
 ·(repeat' (first|exact trivial|refine aI ?_ ?_|decide +kernel|exact rfl))
 conv=>whnf
 (repeat' ((first|refine aK.step 300 ?_|refine zY ?_|refine zN ?_|refine zI ?_|refine zD ?_|refine bZ.mk ⟨_,⟨by decide +kernel,rfl⟩,?_⟩|refine zC ?_|refine zT ?_|refine zU ?_|refine fE.mk (by decide +kernel) (by decide +kernel) ?_|refine bU.wr ?_|refine aS.auto (by kernel_rfl) ?_);(conv=>whnf)))
 refine .pure _ _ ?_ ⟨rfl,rfl⟩ (cw) fun _=>?_
 ·(repeat' (first|exact trivial|refine aI ?_ ?_|decide +kernel|exact rfl))
 conv=>whnf
 (repeat' ((first|refine aK.step 300 ?_|refine zY ?_|refine zN ?_|refine zI ?_|refine zD ?_|refine bZ.mk ⟨_,⟨by decide +kernel,rfl⟩,?_⟩|refine zC ?_|refine zT ?_|refine zU ?_|refine fE.mk (by decide +kernel) (by decide +kernel) ?_|refine bU.wr ?_|refine aS.auto (by kernel_rfl) ?_);(conv=>whnf)))
 refine .pure _ _ ?_ ⟨rfl,rfl⟩ (cw) fun _=>?_
 ·(repeat' (first|exact trivial|refine aI ?_ ?_|decide +kernel|exact rfl))
 conv=>whnf
 (repeat' ((first|refine aK.step 300 ?_|refine zY ?_|refine zN ?_|refine zI ?_|refine zD ?_|refine bZ.mk ⟨_,⟨by decide +kernel,rfl⟩,?_⟩|refine zC ?_|refine zT ?_|refine zU ?_|refine fE.mk (by decide +kernel) (by decide +kernel) ?_|refine bU.wr ?_|refine aS.auto (by kernel_rfl) ?_);(conv=>whnf)))
 refine .pure _ _ ?_ ⟨rfl,rfl⟩ (ct) fun _=>?_
 ·(repeat' (first|exact trivial|refine aI ?_ ?_|decide +kernel|exact rfl))
 conv=>whnf
 (repeat' ((first|refine aK.step 300 ?_|refine zY ?_|refine zN ?_|refine zI ?_|refine zD ?_|refine bZ.mk ⟨_,⟨by decide +kernel,rfl⟩,?_⟩|refine zC ?_|refine zT ?_|refine zU ?_|refine fE.mk (by decide +kernel) (by decide +kernel) ?_|refine bU.wr ?_|refine aS.auto (by kernel_rfl) ?_);(conv=>whnf)))
 refine fM ?_;(conv=>whnf);refine ⟨?_,rfl⟩;conv=>whnf
 all_goals exact wk

theorem VP : aA Tryz.prog 243 [wL [],.int .i64 31] [] (wL []) []:=by
 have ct:=iD [] (by decide)
 rw [show wd (val []) = [] from by decide +kernel] at ct
 refine aA.intro lay mixed Tryz.func243 (by kernel_rfl) rfl (by kernel_rfl) rfl fun hok=>?_
 conv=>whnf
 (repeat' ((first|refine aK.step 300 ?_|refine zY ?_|refine zN ?_|refine zI ?_|refine zD ?_|refine bZ.mk ⟨_,⟨by decide +kernel,rfl⟩,?_⟩|refine zC ?_|refine zT ?_|refine zU ?_|refine fE.mk (by decide +kernel) (by decide +kernel) ?_|refine bU.wr ?_|refine aS.auto (by kernel_rfl) ?_);(conv=>whnf)))
 refine .pure _ _ ?_ ⟨rfl,rfl⟩ (ct) fun _=>?_
 ·(repeat' (first|exact trivial|refine aI ?_ ?_|decide +kernel|exact rfl))
 conv=>whnf
 (repeat' ((first|refine aK.step 300 ?_|refine zY ?_|refine zN ?_|refine zI ?_|refine zD ?_|refine bZ.mk ⟨_,⟨by decide +kernel,rfl⟩,?_⟩|refine zC ?_|refine zT ?_|refine zU ?_|refine fE.mk (by decide +kernel) (by decide +kernel) ?_|refine bU.wr ?_|refine aS.auto (by kernel_rfl) ?_);(conv=>whnf)))
 refine fM ?_;(conv=>whnf);refine ⟨?_,rfl⟩;conv=>whnf
 all_goals exact wk

theorem r_mul : aA Tryz.prog 69 [wL [2147483648],wL [1]] [] (wL [2147483648]) []:=by
 have YM:=iQ [1] 0
 have cw1:=iQ [1] 1
 have ct:=iD [2147483648,0,0] (by decide)
 rw [show wd (val [2147483648,0,0]) = [2147483648] from by decide +kernel] at ct
 refine aA.intro lay mixed Tryz.func69 (by kernel_rfl) rfl (by kernel_rfl) rfl fun hok=>?_
 conv=>whnf
 (repeat' ((first|refine aK.step 300 ?_|refine zY ?_|refine zN ?_|refine zI ?_|refine zD ?_|refine bZ.mk ⟨_,⟨by decide +kernel,rfl⟩,?_⟩|refine zC ?_|refine zT ?_|refine zU ?_|refine fE.mk (by decide +kernel) (by decide +kernel) ?_|refine bU.wr ?_|refine aS.auto (by kernel_rfl) ?_);(conv=>whnf)))
 refine fO.pure _ _ ?_ ⟨rfl,rfl⟩ (YM) ?_
 ·(repeat' (first|exact trivial|refine aI ?_ ?_|decide +kernel|exact rfl))
 conv=>whnf
 (repeat' ((first|refine aK.step 300 ?_|refine zY ?_|refine zN ?_|refine zI ?_|refine zD ?_|refine bZ.mk ⟨_,⟨by decide +kernel,rfl⟩,?_⟩|refine zC ?_|refine zT ?_|refine zU ?_|refine fE.mk (by decide +kernel) (by decide +kernel) ?_|refine bU.wr ?_|refine aS.auto (by kernel_rfl) ?_);(conv=>whnf)))
 refine fO.pure _ _ ?_ ⟨rfl,rfl⟩ (cw1) ?_
 ·(repeat' (first|exact trivial|refine aI ?_ ?_|decide +kernel|exact rfl))
 conv=>whnf
 (repeat' ((first|refine aK.step 300 ?_|refine zY ?_|refine zN ?_|refine zI ?_|refine zD ?_|refine bZ.mk ⟨_,⟨by decide +kernel,rfl⟩,?_⟩|refine zC ?_|refine zT ?_|refine zU ?_|refine fE.mk (by decide +kernel) (by decide +kernel) ?_|refine bU.wr ?_|refine aS.auto (by kernel_rfl) ?_);(conv=>whnf)))
 refine .gen _ _ (aA.PU 0 rfl rfl (by decide +kernel) (aA.fB (ct) ?_ ⟨rfl,rfl⟩)) fun _=>?_
 ·(repeat' (first|exact trivial|refine aI ?_ ?_|decide +kernel|exact rfl))
 conv=>whnf
 (repeat' ((first|refine aK.step 300 ?_|refine zY ?_|refine zN ?_|refine zI ?_|refine zD ?_|refine bZ.mk ⟨_,⟨by decide +kernel,rfl⟩,?_⟩|refine zC ?_|refine zT ?_|refine zU ?_|refine fE.mk (by decide +kernel) (by decide +kernel) ?_|refine bU.wr ?_|refine aS.auto (by kernel_rfl) ?_);(conv=>whnf)))
 refine fM ?_;(conv=>whnf);refine ⟨?_,rfl⟩;conv=>whnf
 all_goals exact wk

theorem Y1 : aA Tryz.prog 154 [wL [1],wL [1]] [] (.eG [wL [1],wL [],.int .i64 0]) []:=by
 have YM:=iQ [2147483648] 0
 have cw1:=iQ [2147483648] 1
 have ct1:=iD [1] (by decide)
 rw [show wd (val [1]) = [1] from by decide +kernel] at ct1
 have ct2:=iD [2147483648] (by decide)
 rw [show wd (val [2147483648]) = [2147483648] from by decide +kernel] at ct2
 refine aA.intro lay mixed Tryz.func154 (by kernel_rfl) rfl (by kernel_rfl) rfl fun hok=>?_
 conv=>whnf
 refine .pure _ _ ?_ ⟨rfl,rfl⟩ (ct1) fun _=>?_
 ·(repeat' (first|exact trivial|refine aI ?_ ?_|decide +kernel|exact rfl))
 conv=>whnf
 (repeat' ((first|refine aK.step 300 ?_|refine zY ?_|refine zN ?_|refine zI ?_|refine zD ?_|refine bZ.mk ⟨_,⟨by decide +kernel,rfl⟩,?_⟩|refine zC ?_|refine zT ?_|refine zU ?_|refine fE.mk (by decide +kernel) (by decide +kernel) ?_|refine bU.wr ?_|refine aS.auto (by kernel_rfl) ?_);(conv=>whnf)))
 refine .pure _ _ ?_ ⟨rfl,rfl⟩ (VO) fun _=>?_
 ·(repeat' (first|exact trivial|refine aI ?_ ?_|decide +kernel|exact rfl))
 conv=>whnf
 refine .pure _ _ ?_ ⟨rfl,rfl⟩ (VO) fun _=>?_
 ·(repeat' (first|exact trivial|refine aI ?_ ?_|decide +kernel|exact rfl))
 conv=>whnf
 refine aS.mk ⟨[true,true,false,true,true,true,true,true,true,true,true,true,true,true,true],by kernel_rfl,?_⟩
 conv=>whnf
 refine And.intro (by decide +kernel) (.wr ?_)
 conv=>whnf
 refine And.intro (bC (by decide +kernel) (by decide +kernel)) ?_
 conv=>whnf
 refine And.intro (bC (by decide +kernel) (by decide +kernel)) ?_
 conv=>whnf
 refine OJ.mk ⟨by decide +kernel,?_⟩
 conv=>whnf
 refine xZ.pure (by decide +kernel) (by decide +kernel) ⟨rfl,?_⟩
 conv=>whnf
 (repeat' ((first|refine aK.step 300 ?_|refine zY ?_|refine zN ?_|refine zI ?_|refine zD ?_|refine bZ.mk ⟨_,⟨by decide +kernel,rfl⟩,?_⟩|refine zC ?_|refine zT ?_|refine zU ?_|refine fE.mk (by decide +kernel) (by decide +kernel) ?_|refine bU.wr ?_|refine aS.auto (by kernel_rfl) ?_);(conv=>whnf)))
 refine .pure _ _ ?_ ⟨rfl,rfl⟩ (ct2) fun _=>?_
 ·(repeat' (first|exact trivial|refine aI ?_ ?_|decide +kernel|exact rfl))
 conv=>whnf
 (repeat' ((first|refine aK.step 300 ?_|refine zY ?_|refine zN ?_|refine zI ?_|refine zD ?_|refine bZ.mk ⟨_,⟨by decide +kernel,rfl⟩,?_⟩|refine zC ?_|refine zT ?_|refine zU ?_|refine fE.mk (by decide +kernel) (by decide +kernel) ?_|refine bU.wr ?_|refine aS.auto (by kernel_rfl) ?_);(conv=>whnf)))
 refine .pure _ _ ?_ ⟨rfl,rfl⟩ (cw1) fun _=>?_
 ·(repeat' (first|exact trivial|refine aI ?_ ?_|decide +kernel|exact rfl))
 conv=>whnf
 (repeat' ((first|refine aK.step 300 ?_|refine zY ?_|refine zN ?_|refine zI ?_|refine zD ?_|refine bZ.mk ⟨_,⟨by decide +kernel,rfl⟩,?_⟩|refine zC ?_|refine zT ?_|refine zU ?_|refine fE.mk (by decide +kernel) (by decide +kernel) ?_|refine bU.wr ?_|refine aS.auto (by kernel_rfl) ?_);(conv=>whnf)))
 refine .pure _ _ ?_ ⟨rfl,rfl⟩ (YM) fun _=>?_
 ·(repeat' (first|exact trivial|refine aI ?_ ?_|decide +kernel|exact rfl))
 conv=>whnf
 (repeat' ((first|refine aK.step 300 ?_|refine zY ?_|refine zN ?_|refine zI ?_|refine zD ?_|refine bZ.mk ⟨_,⟨by decide +kernel,rfl⟩,?_⟩|refine zC ?_|refine zT ?_|refine zU ?_|refine fE.mk (by decide +kernel) (by decide +kernel) ?_|refine bU.wr ?_|refine aS.auto (by kernel_rfl) ?_);(conv=>whnf)))
 refine .pure _ _ ?_ ⟨rfl,rfl⟩ (YM) fun _=>?_
 ·(repeat' (first|exact trivial|refine aI ?_ ?_|decide +kernel|exact rfl))
 conv=>whnf
 (repeat' ((first|refine aK.step 300 ?_|refine zY ?_|refine zN ?_|refine zI ?_|refine zD ?_|refine bZ.mk ⟨_,⟨by decide +kernel,rfl⟩,?_⟩|refine zC ?_|refine zT ?_|refine zU ?_|refine fE.mk (by decide +kernel) (by decide +kernel) ?_|refine bU.wr ?_|refine aS.auto (by kernel_rfl) ?_);(conv=>whnf)))
 refine .pure _ _ ?_ ⟨rfl,rfl⟩ (r_mul) fun _=>?_
 ·(repeat' (first|exact trivial|refine aI ?_ ?_|decide +kernel|exact rfl))
 conv=>whnf
 (repeat' ((first|refine aK.step 300 ?_|refine zY ?_|refine zN ?_|refine zI ?_|refine zD ?_|refine bZ.mk ⟨_,⟨by decide +kernel,rfl⟩,?_⟩|refine zC ?_|refine zT ?_|refine zU ?_|refine fE.mk (by decide +kernel) (by decide +kernel) ?_|refine bU.wr ?_|refine aS.auto (by kernel_rfl) ?_);(conv=>whnf)))
 refine .pure _ _ ?_ ⟨rfl,rfl⟩ (VQ) fun _=>?_
 ·(repeat' (first|exact trivial|refine aI ?_ ?_|decide +kernel|exact rfl))
 conv=>whnf
 (repeat' ((first|refine aK.step 300 ?_|refine zY ?_|refine zN ?_|refine zI ?_|refine zD ?_|refine bZ.mk ⟨_,⟨by decide +kernel,rfl⟩,?_⟩|refine zC ?_|refine zT ?_|refine zU ?_|refine fE.mk (by decide +kernel) (by decide +kernel) ?_|refine bU.wr ?_|refine aS.auto (by kernel_rfl) ?_);(conv=>whnf)))
 refine .pure _ _ ?_ ⟨rfl,rfl⟩ (r_sub) fun _=>?_
 ·(repeat' (first|exact trivial|refine aI ?_ ?_|decide +kernel|exact rfl))
 conv=>whnf
 (repeat' ((first|refine aK.step 300 ?_|refine zY ?_|refine zN ?_|refine zI ?_|refine zD ?_|refine bZ.mk ⟨_,⟨by decide +kernel,rfl⟩,?_⟩|refine zC ?_|refine zT ?_|refine zU ?_|refine fE.mk (by decide +kernel) (by decide +kernel) ?_|refine bU.wr ?_|refine aS.auto (by kernel_rfl) ?_);(conv=>whnf)))
 refine .gen _ _ (aA.PU 0 rfl rfl (by decide +kernel) (aA.fB (ct1) ?_ ⟨rfl,rfl⟩)) fun _=>?_
 ·(repeat' (first|exact trivial|refine aI ?_ ?_|decide +kernel|exact rfl))
 conv=>whnf
 (repeat' ((first|refine aK.step 300 ?_|refine zY ?_|refine zN ?_|refine zI ?_|refine zD ?_|refine bZ.mk ⟨_,⟨by decide +kernel,rfl⟩,?_⟩|refine zC ?_|refine zT ?_|refine zU ?_|refine fE.mk (by decide +kernel) (by decide +kernel) ?_|refine bU.wr ?_|refine aS.auto (by kernel_rfl) ?_);(conv=>whnf)))
 refine .pure _ _ ?_ ⟨rfl,rfl⟩ (VP) fun _=>?_
 ·(repeat' (first|exact trivial|refine aI ?_ ?_|decide +kernel|exact rfl))
 conv=>whnf
 (repeat' ((first|refine aK.step 300 ?_|refine zY ?_|refine zN ?_|refine zI ?_|refine zD ?_|refine bZ.mk ⟨_,⟨by decide +kernel,rfl⟩,?_⟩|refine zC ?_|refine zT ?_|refine zU ?_|refine fE.mk (by decide +kernel) (by decide +kernel) ?_|refine bU.wr ?_|refine aS.auto (by kernel_rfl) ?_);(conv=>whnf)))
 refine fM ?_;(conv=>whnf);refine ⟨?_,rfl⟩;conv=>whnf
 (repeat' (first|exact trivial|refine aI ?_ ?_|decide +kernel|exact rfl))

theorem MG : aA Tryz.prog 154 [wL [1,0],wL [1]] [] (.eG [wL [1],wL [],.int .i64 0]) []:=by
 have YM:=iQ [2147483648] 0
 have cw1:=iQ [2147483648] 1
 have ct1:=iD [1] (by decide)
 rw [show wd (val [1]) = [1] from by decide +kernel] at ct1
 have ct2:=iD [2147483648] (by decide)
 rw [show wd (val [2147483648]) = [2147483648] from by decide +kernel] at ct2
 refine aA.intro lay mixed Tryz.func154 (by kernel_rfl) rfl (by kernel_rfl) rfl fun hok=>?_
 conv=>whnf
 refine .pure _ _ ?_ ⟨rfl,rfl⟩ (ct1) fun _=>?_
 ·(repeat' (first|exact trivial|refine aI ?_ ?_|decide +kernel|exact rfl))
 conv=>whnf
 (repeat' ((first|refine aK.step 300 ?_|refine zY ?_|refine zN ?_|refine zI ?_|refine zD ?_|refine bZ.mk ⟨_,⟨by decide +kernel,rfl⟩,?_⟩|refine zC ?_|refine zT ?_|refine zU ?_|refine fE.mk (by decide +kernel) (by decide +kernel) ?_|refine bU.wr ?_|refine aS.auto (by kernel_rfl) ?_);(conv=>whnf)))
 refine .pure _ _ ?_ ⟨rfl,rfl⟩ (r_up2) fun _=>?_
 ·(repeat' (first|exact trivial|refine aI ?_ ?_|decide +kernel|exact rfl))
 conv=>whnf
 refine .pure _ _ ?_ ⟨rfl,rfl⟩ (VO) fun _=>?_
 ·(repeat' (first|exact trivial|refine aI ?_ ?_|decide +kernel|exact rfl))
 conv=>whnf
 refine aS.mk ⟨[true,true,false,true,true,true,true,true,true,true,true,true,true,true,true],by kernel_rfl,?_⟩
 conv=>whnf
 refine And.intro (by decide +kernel) (.wr ?_)
 conv=>whnf
 refine And.intro (bC (by decide +kernel) (by decide +kernel)) ?_
 conv=>whnf
 refine And.intro (bC (by decide +kernel) (by decide +kernel)) ?_
 conv=>whnf
 refine OJ.mk ⟨by decide +kernel,?_⟩
 conv=>whnf
 refine xZ.pure (by decide +kernel) (by decide +kernel) ⟨rfl,?_⟩
 conv=>whnf
 (repeat' ((first|refine aK.step 300 ?_|refine zY ?_|refine zN ?_|refine zI ?_|refine zD ?_|refine bZ.mk ⟨_,⟨by decide +kernel,rfl⟩,?_⟩|refine zC ?_|refine zT ?_|refine zU ?_|refine fE.mk (by decide +kernel) (by decide +kernel) ?_|refine bU.wr ?_|refine aS.auto (by kernel_rfl) ?_);(conv=>whnf)))
 refine .pure _ _ ?_ ⟨rfl,rfl⟩ (ct2) fun _=>?_
 ·(repeat' (first|exact trivial|refine aI ?_ ?_|decide +kernel|exact rfl))
 conv=>whnf
 (repeat' ((first|refine aK.step 300 ?_|refine zY ?_|refine zN ?_|refine zI ?_|refine zD ?_|refine bZ.mk ⟨_,⟨by decide +kernel,rfl⟩,?_⟩|refine zC ?_|refine zT ?_|refine zU ?_|refine fE.mk (by decide +kernel) (by decide +kernel) ?_|refine bU.wr ?_|refine aS.auto (by kernel_rfl) ?_);(conv=>whnf)))
 refine .pure _ _ ?_ ⟨rfl,rfl⟩ (cw1) fun _=>?_
 ·(repeat' (first|exact trivial|refine aI ?_ ?_|decide +kernel|exact rfl))
 conv=>whnf
 (repeat' ((first|refine aK.step 300 ?_|refine zY ?_|refine zN ?_|refine zI ?_|refine zD ?_|refine bZ.mk ⟨_,⟨by decide +kernel,rfl⟩,?_⟩|refine zC ?_|refine zT ?_|refine zU ?_|refine fE.mk (by decide +kernel) (by decide +kernel) ?_|refine bU.wr ?_|refine aS.auto (by kernel_rfl) ?_);(conv=>whnf)))
 refine .pure _ _ ?_ ⟨rfl,rfl⟩ (YM) fun _=>?_
 ·(repeat' (first|exact trivial|refine aI ?_ ?_|decide +kernel|exact rfl))
 conv=>whnf
 (repeat' ((first|refine aK.step 300 ?_|refine zY ?_|refine zN ?_|refine zI ?_|refine zD ?_|refine bZ.mk ⟨_,⟨by decide +kernel,rfl⟩,?_⟩|refine zC ?_|refine zT ?_|refine zU ?_|refine fE.mk (by decide +kernel) (by decide +kernel) ?_|refine bU.wr ?_|refine aS.auto (by kernel_rfl) ?_);(conv=>whnf)))
 refine .pure _ _ ?_ ⟨rfl,rfl⟩ (YM) fun _=>?_
 ·(repeat' (first|exact trivial|refine aI ?_ ?_|decide +kernel|exact rfl))
 conv=>whnf
 (repeat' ((first|refine aK.step 300 ?_|refine zY ?_|refine zN ?_|refine zI ?_|refine zD ?_|refine bZ.mk ⟨_,⟨by decide +kernel,rfl⟩,?_⟩|refine zC ?_|refine zT ?_|refine zU ?_|refine fE.mk (by decide +kernel) (by decide +kernel) ?_|refine bU.wr ?_|refine aS.auto (by kernel_rfl) ?_);(conv=>whnf)))
 refine .pure _ _ ?_ ⟨rfl,rfl⟩ (r_mul) fun _=>?_
 ·(repeat' (first|exact trivial|refine aI ?_ ?_|decide +kernel|exact rfl))
 conv=>whnf
 (repeat' ((first|refine aK.step 300 ?_|refine zY ?_|refine zN ?_|refine zI ?_|refine zD ?_|refine bZ.mk ⟨_,⟨by decide +kernel,rfl⟩,?_⟩|refine zC ?_|refine zT ?_|refine zU ?_|refine fE.mk (by decide +kernel) (by decide +kernel) ?_|refine bU.wr ?_|refine aS.auto (by kernel_rfl) ?_);(conv=>whnf)))
 refine .pure _ _ ?_ ⟨rfl,rfl⟩ (VQ) fun _=>?_
 ·(repeat' (first|exact trivial|refine aI ?_ ?_|decide +kernel|exact rfl))
 conv=>whnf
 (repeat' ((first|refine aK.step 300 ?_|refine zY ?_|refine zN ?_|refine zI ?_|refine zD ?_|refine bZ.mk ⟨_,⟨by decide +kernel,rfl⟩,?_⟩|refine zC ?_|refine zT ?_|refine zU ?_|refine fE.mk (by decide +kernel) (by decide +kernel) ?_|refine bU.wr ?_|refine aS.auto (by kernel_rfl) ?_);(conv=>whnf)))
 refine .pure _ _ ?_ ⟨rfl,rfl⟩ (r_sub) fun _=>?_
 ·(repeat' (first|exact trivial|refine aI ?_ ?_|decide +kernel|exact rfl))
 conv=>whnf
 (repeat' ((first|refine aK.step 300 ?_|refine zY ?_|refine zN ?_|refine zI ?_|refine zD ?_|refine bZ.mk ⟨_,⟨by decide +kernel,rfl⟩,?_⟩|refine zC ?_|refine zT ?_|refine zU ?_|refine fE.mk (by decide +kernel) (by decide +kernel) ?_|refine bU.wr ?_|refine aS.auto (by kernel_rfl) ?_);(conv=>whnf)))
 refine .gen _ _ (aA.PU 0 rfl rfl (by decide +kernel) (aA.fB (ct1) ?_ ⟨rfl,rfl⟩)) fun _=>?_
 ·(repeat' (first|exact trivial|refine aI ?_ ?_|decide +kernel|exact rfl))
 conv=>whnf
 (repeat' ((first|refine aK.step 300 ?_|refine zY ?_|refine zN ?_|refine zI ?_|refine zD ?_|refine bZ.mk ⟨_,⟨by decide +kernel,rfl⟩,?_⟩|refine zC ?_|refine zT ?_|refine zU ?_|refine fE.mk (by decide +kernel) (by decide +kernel) ?_|refine bU.wr ?_|refine aS.auto (by kernel_rfl) ?_);(conv=>whnf)))
 refine .pure _ _ ?_ ⟨rfl,rfl⟩ (VP) fun _=>?_
 ·(repeat' (first|exact trivial|refine aI ?_ ?_|decide +kernel|exact rfl))
 conv=>whnf
 (repeat' ((first|refine aK.step 300 ?_|refine zY ?_|refine zN ?_|refine zI ?_|refine zD ?_|refine bZ.mk ⟨_,⟨by decide +kernel,rfl⟩,?_⟩|refine zC ?_|refine zT ?_|refine zU ?_|refine fE.mk (by decide +kernel) (by decide +kernel) ?_|refine bU.wr ?_|refine aS.auto (by kernel_rfl) ?_);(conv=>whnf)))
 refine fM ?_;(conv=>whnf);refine ⟨?_,rfl⟩;conv=>whnf
 (repeat' (first|exact trivial|refine aI ?_ ?_|decide +kernel|exact rfl))

theorem r_gcd : aA Tryz.prog 153 [wL [1,0],wL [1,0]] [] (wL [1]) []:=by
 have ct:=iD [1,0] (by decide)
 rw [show wd (val [1,0]) = [1] from by decide +kernel] at ct
 refine aA.intro lay mixed Tryz.func153 (by kernel_rfl) rfl (by kernel_rfl) rfl fun hok=>?_
 conv=>whnf
 refine .pure _ _ ?_ ⟨rfl,rfl⟩ (ct) fun _=>?_
 ·(repeat' (first|exact trivial|refine aI ?_ ?_|decide +kernel|exact rfl))
 conv=>whnf
 (repeat' ((first|refine aK.step 300 ?_|refine zY ?_|refine zN ?_|refine zI ?_|refine zD ?_|refine bZ.mk ⟨_,⟨by decide +kernel,rfl⟩,?_⟩|refine zC ?_|refine zT ?_|refine zU ?_|refine fE.mk (by decide +kernel) (by decide +kernel) ?_|refine bU.wr ?_|refine aS.auto (by kernel_rfl) ?_);(conv=>whnf)))
 refine .pure _ _ ?_ ⟨rfl,rfl⟩ (ct) fun _=>?_
 ·(repeat' (first|exact trivial|refine aI ?_ ?_|decide +kernel|exact rfl))
 conv=>whnf
 (repeat' ((first|refine aK.step 300 ?_|refine zY ?_|refine zN ?_|refine zI ?_|refine zD ?_|refine bZ.mk ⟨_,⟨by decide +kernel,rfl⟩,?_⟩|refine zC ?_|refine zT ?_|refine zU ?_|refine fE.mk (by decide +kernel) (by decide +kernel) ?_|refine bU.wr ?_|refine aS.auto (by kernel_rfl) ?_);(conv=>whnf)))
 refine .pure _ _ ?_ ⟨rfl,rfl⟩ (Y1) fun _=>?_
 ·(repeat' (first|exact trivial|refine aI ?_ ?_|decide +kernel|exact rfl))
 conv=>whnf
 (repeat' ((first|refine aK.step 300 ?_|refine zY ?_|refine zN ?_|refine zI ?_|refine zD ?_|refine bZ.mk ⟨_,⟨by decide +kernel,rfl⟩,?_⟩|refine zC ?_|refine zT ?_|refine zU ?_|refine fE.mk (by decide +kernel) (by decide +kernel) ?_|refine bU.wr ?_|refine aS.auto (by kernel_rfl) ?_);(conv=>whnf)))
 refine fM ?_;(conv=>whnf);refine ⟨?_,rfl⟩;conv=>whnf
 (repeat' (first|exact trivial|refine aI ?_ ?_|decide +kernel|exact rfl))

theorem r_from : aA Tryz.prog 70 [.bool false,wL [1,0],wL [1,0]] [] (.eG [Rat.av ⟨false,[1],[1]⟩,.int .i64 0]) []:=by
 refine aA.intro lay mixed Tryz.func70 (by kernel_rfl) rfl (by kernel_rfl) rfl fun hok=>?_
 conv=>whnf
 refine .pure _ _ ?_ ⟨rfl,rfl⟩ (VT) fun _=>?_
 ·(repeat' (first|exact trivial|refine aI ?_ ?_|decide +kernel|exact rfl))
 conv=>whnf
 (repeat' ((first|refine aK.step 300 ?_|refine zY ?_|refine zN ?_|refine zI ?_|refine zD ?_|refine bZ.mk ⟨_,⟨by decide +kernel,rfl⟩,?_⟩|refine zC ?_|refine zT ?_|refine zU ?_|refine fE.mk (by decide +kernel) (by decide +kernel) ?_|refine bU.wr ?_|refine aS.auto (by kernel_rfl) ?_);(conv=>whnf)))
 refine .pure _ _ ?_ ⟨rfl,rfl⟩ (VT) fun _=>?_
 ·(repeat' (first|exact trivial|refine aI ?_ ?_|decide +kernel|exact rfl))
 conv=>whnf
 (repeat' ((first|refine aK.step 300 ?_|refine zY ?_|refine zN ?_|refine zI ?_|refine zD ?_|refine bZ.mk ⟨_,⟨by decide +kernel,rfl⟩,?_⟩|refine zC ?_|refine zT ?_|refine zU ?_|refine fE.mk (by decide +kernel) (by decide +kernel) ?_|refine bU.wr ?_|refine aS.auto (by kernel_rfl) ?_);(conv=>whnf)))
 refine .pure _ _ ?_ ⟨rfl,rfl⟩ (r_gcd) fun _=>?_
 ·(repeat' (first|exact trivial|refine aI ?_ ?_|decide +kernel|exact rfl))
 conv=>whnf
 (repeat' ((first|refine aK.step 300 ?_|refine zY ?_|refine zN ?_|refine zI ?_|refine zD ?_|refine bZ.mk ⟨_,⟨by decide +kernel,rfl⟩,?_⟩|refine zC ?_|refine zT ?_|refine zU ?_|refine fE.mk (by decide +kernel) (by decide +kernel) ?_|refine bU.wr ?_|refine aS.auto (by kernel_rfl) ?_);(conv=>whnf)))
 refine .pure _ _ ?_ ⟨rfl,rfl⟩ (MG) fun _=>?_
 ·(repeat' (first|exact trivial|refine aI ?_ ?_|decide +kernel|exact rfl))
 conv=>whnf
 (repeat' ((first|refine aK.step 300 ?_|refine zY ?_|refine zN ?_|refine zI ?_|refine zD ?_|refine bZ.mk ⟨_,⟨by decide +kernel,rfl⟩,?_⟩|refine zC ?_|refine zT ?_|refine zU ?_|refine fE.mk (by decide +kernel) (by decide +kernel) ?_|refine bU.wr ?_|refine aS.auto (by kernel_rfl) ?_);(conv=>whnf)))
 refine .pure _ _ ?_ ⟨rfl,rfl⟩ (MG) fun _=>?_
 ·(repeat' (first|exact trivial|refine aI ?_ ?_|decide +kernel|exact rfl))
 conv=>whnf
 (repeat' ((first|refine aK.step 300 ?_|refine zY ?_|refine zN ?_|refine zI ?_|refine zD ?_|refine bZ.mk ⟨_,⟨by decide +kernel,rfl⟩,?_⟩|refine zC ?_|refine zT ?_|refine zU ?_|refine fE.mk (by decide +kernel) (by decide +kernel) ?_|refine bU.wr ?_|refine aS.auto (by kernel_rfl) ?_);(conv=>whnf)))
 refine fM ?_;(conv=>whnf);refine ⟨?_,rfl⟩;conv=>whnf
 (repeat' (first|exact trivial|refine aI ?_ ?_|decide +kernel|exact rfl))

theorem r_make : aA Tryz.prog 46 [.int .i64 1,.int .i64 1] [] (.eG [Rat.av ⟨false,[1],[1]⟩,.int .i64 0]) []:=by
 refine aA.intro lay mixed Tryz.func46 (by kernel_rfl) rfl (by kernel_rfl) rfl fun hok=>?_
 conv=>whnf
 refine .pure _ _ ?_ ⟨rfl,rfl⟩ (O7) fun _=>?_
 ·(repeat' (first|exact trivial|refine aI ?_ ?_|decide +kernel|exact rfl))
 conv=>whnf
 (repeat' ((first|refine aK.step 300 ?_|refine zY ?_|refine zN ?_|refine zI ?_|refine zD ?_|refine bZ.mk ⟨_,⟨by decide +kernel,rfl⟩,?_⟩|refine zC ?_|refine zT ?_|refine zU ?_|refine fE.mk (by decide +kernel) (by decide +kernel) ?_|refine bU.wr ?_|refine aS.auto (by kernel_rfl) ?_);(conv=>whnf)))
 refine .pure _ _ ?_ ⟨rfl,rfl⟩ (O7) fun _=>?_
 ·(repeat' (first|exact trivial|refine aI ?_ ?_|decide +kernel|exact rfl))
 conv=>whnf
 (repeat' ((first|refine aK.step 300 ?_|refine zY ?_|refine zN ?_|refine zI ?_|refine zD ?_|refine bZ.mk ⟨_,⟨by decide +kernel,rfl⟩,?_⟩|refine zC ?_|refine zT ?_|refine zU ?_|refine fE.mk (by decide +kernel) (by decide +kernel) ?_|refine bU.wr ?_|refine aS.auto (by kernel_rfl) ?_);(conv=>whnf)))
 refine .pure _ _ ?_ ⟨rfl,rfl⟩ r_from fun _=>?_
 ·refine ⟨?_,fG _,fG _,trivial⟩
  show _ ↔ _
  simp
 conv=>whnf
 refine fM ?_;(conv=>whnf);refine ⟨?_,rfl⟩;conv=>whnf
 (repeat' (first|exact trivial|refine aI ?_ ?_|decide +kernel|exact rfl))

theorem r_of : aA Tryz.prog 149 [.int .i64 1] [] (Rat.av ⟨false,[1],[1]⟩) []:=by
 refine aA.intro lay mixed Tryz.func149 (by kernel_rfl) rfl (by kernel_rfl) rfl fun hok=>?_
 conv=>whnf
 refine .pure _ _ ?_ ⟨rfl,rfl⟩ (r_make) fun _=>?_
 ·(repeat' (first|exact trivial|refine aI ?_ ?_|decide +kernel|exact rfl))
 conv=>whnf
 (repeat' ((first|refine aK.step 300 ?_|refine zY ?_|refine zN ?_|refine zI ?_|refine zD ?_|refine bZ.mk ⟨_,⟨by decide +kernel,rfl⟩,?_⟩|refine zC ?_|refine zT ?_|refine zU ?_|refine fE.mk (by decide +kernel) (by decide +kernel) ?_|refine bU.wr ?_|refine aS.auto (by kernel_rfl) ?_);(conv=>whnf)))
 refine fM ?_;(conv=>whnf);refine ⟨?_,rfl⟩;conv=>whnf
 (repeat' (first|exact trivial|refine aI ?_ ?_|decide +kernel|exact rfl))

theorem ET {a b : List Int} (ha : Ws a) (hb : Ws b) {i : Nat} (h : val (a.drop i) < val (b.drop i)) : val a < val b:=by
 rw [<- uO ha,<- uO hb] at h
 apply Classical.byContradiction
 intro hn
 have:=Nat.div_le_div_right (c:=4294967296 ^ i) (Nat.le_of_not_lt hn)
 omega

theorem XR (a b : List Int) (ha : a.length <= 1000001) (hb : b.length <= 1000001) : aA Tryz.prog 72 [wL a,wL b] [] (.int .i64 (oh (val a) (val b))) []:=by
 refine aA.intro lay mixed Tryz.func72 (by kernel_rfl) rfl (by kernel_rfl) rfl fun hok=>?_
 have wa : Ws a:=Ws.ok hok.1.2
 have wb : Ws b:=Ws.ok hok.2.1.2
 conv=>whnf
 obtain ⟨m,hm⟩ : ∃ m : Nat,max (((a.map (AV.int .u32)).length : Nat) : Int) (((b.map (AV.int .u32)).length : Nat) : Int) = (m : Int):=⟨max a.length b.length,by simp; omega⟩
 have hm1 : a.length <= m /\ b.length <= m /\ m <= 1000001:=by simp at hm; omega
 rw [hm]
 refine ⟨bC (by omega) (by omega),?_⟩
 conv=>whnf
 refine aK.of <| aC.inv (.refl _ _) (fun (n : Nat)=>n <= m /\ val (a.drop n) = val (b.drop n)) (fun (n : Nat)=>[(5,.int .i64 ((n : Int) - 1))]) (fun _=>_) (fun (n : Nat)=>n) m ?_ (fun _=>rfl) ?_ ?_
 ·exact ⟨Nat.le_refl _,by rw [List.drop_eq_nil_of_le hm1.1,List.drop_eq_nil_of_le hm1.2.1]⟩
 ·all_goals exact wk
 rintro n ⟨hn,hd⟩ _
 conv=>whnf
 refine And.intro (fun h0=>?_) (fun h0=>?_)
 ·obtain ⟨i,rfl⟩ : ∃ i,n = i + 1:=⟨n - 1,by omega⟩
  have e1 : (((i + 1 : Nat) : Int) - 1) = (i : Int):=by omega
  have ca:=iQ a i
  have cb:=iQ b i
  have hva:=kN a i
  have hvb:=kN b i
  have hxa:=wa.getD (i:=i)
  have hxb:=wb.getD (i:=i)
  rw [e1]
  generalize a.getD i 0 = x at *
  generalize b.getD i 0 = y at *
  conv=>whnf
  refine .pure _ _ ?_ ⟨rfl,rfl⟩ ca fun _=>?_
  ·exact ak _
  conv=>whnf
  refine .pure _ _ ?_ ⟨rfl,rfl⟩ cb fun _=>?_
  ·exact ak _
  conv=>whnf
  refine And.intro (fun h1=>?_) (fun h1=>?_)
  ·conv=>whnf
   refine fM ?_;(conv=>whnf);refine ⟨?_,rfl⟩;conv=>whnf
   refine ⟨rfl,?_⟩
   rw [oh,if_pos (ET wa wb (i:=i) (by omega))]
  conv=>whnf
  refine .pure _ _ ?_ ⟨rfl,rfl⟩ ca fun _=>?_
  ·exact ak _
  conv=>whnf
  refine .pure _ _ ?_ ⟨rfl,rfl⟩ cb fun _=>?_
  ·exact ak _
  conv=>whnf
  refine And.intro (fun h2=>?_) (fun h2=>?_)
  ·have:=ET wb wa (i:=i) (by omega)
   conv=>whnf
   refine fM ?_;(conv=>whnf);refine ⟨?_,rfl⟩;conv=>whnf
   refine ⟨rfl,?_⟩
   rw [oh,if_neg (by omega),if_pos this]
  conv=>whnf
  refine zA ?_;conv=>whnf
  refine ⟨i,?_,?_,?_⟩
  ·exact ⟨by omega,by omega⟩
  ·all_goals exact wk
  ·omega
 ·have hn0 : n = 0:=by omega
  subst hn0
  simp only [List.drop_zero] at hd
  conv=>whnf
  refine fM ?_;(conv=>whnf);refine ⟨?_,rfl⟩;conv=>whnf
  refine ⟨rfl,?_⟩
  rw [oh,if_neg (by omega),if_neg (by omega)]

theorem BX {l : List Int} {n : Nat} (h : val l < 4294967296 ^ n) : val (l.take n) = val l:=by
 by_cases hn : n <= l.length
 ·have e:=dh n hn
  have h0 : val (l.drop n) = 0:=by
   apply Classical.byContradiction
   intro hne
   have : 4294967296 ^ n * 1 <= 4294967296 ^ n * val (l.drop n):=Nat.mul_le_mul_left _ (by omega)
   omega
  rw [h0,Nat.mul_zero] at e
  omega
 ·rw [List.take_of_length_le (by omega)]

theorem Ey {p B x low b y b' va vb s : Nat} (h1 : x + B * b' = y + low + b) (h : va + p * b = s + vb) : va + p * x + p * B * b' = s + p * y + (vb + p * low):=by
 have e1 : p * (x + B * b') = p * (y + low + b):=by rw [h1]
 rw [Nat.mul_add,Nat.mul_add,Nat.mul_add,<- Nat.mul_assoc] at e1
 omega

theorem XP (a b : List Int) (ha : a.length <= 1000000) (hb : b.length <= 1000000) (R : AV) (hR : R = if val a < val b then .eG [wL [],.int .i64 3] else .eG [wL (wd (val a - val b)),.int .i64 0]) :
  aA Tryz.prog 73 [wL a,wL b] [] R []:=by
 refine aA.intro lay mixed Tryz.func73 (by kernel_rfl) rfl (by kernel_rfl) rfl fun hok=>?_
 have wa : Ws a:=Ws.ok hok.1.2
 have wb : Ws b:=Ws.ok hok.2.1.2
 conv=>whnf
 refine .pure _ _ ?_ ⟨rfl,rfl⟩ (XR a b (by omega) (by omega)) fun _=>?_
 ·exact ak _
 conv=>whnf
 refine And.intro (fun h=>?_) (fun h=>?_)
 ·have hlt : val a < val b:=by
   unfold oh at h
   split at h
   ·assumption
   ·split at h <;> omega
  rw [if_pos hlt] at hR
  subst hR
  conv=>whnf
  refine fM ?_;(conv=>whnf);refine ⟨?_,rfl⟩;conv=>whnf
  all_goals exact wk
 have hge : ¬ val a < val b:=by
  intro hlt
  unfold oh at h
  rw [if_pos hlt] at h
  omega
 rw [if_neg hge] at hR
 subst hR
 conv=>whnf
 refine aK.of <| aC.inv (.grow 6 1 [] _ rfl (.inl ⟨rfl,rfl⟩) (.refl _ _)) (fun x : Nat × Nat × List Int=>x.1 <= a.length /\ x.2.1 <= 1 /\ Ws x.2.2 /\ x.2.2.length = x.1 /\ val (a.take x.1) + 4294967296 ^ x.1 * x.2.1 = val x.2.2 + val (b.take x.1))
  (fun | (i,b,s)=>[(16,.int .i64 i),(7,.int .u64 b),(6,.sl 1 (s.map (.int .u32)) (.own 0))]) (fun | (_,_,s)=>[(0,.tok 1 s.length)])
  (fun x=>a.length - x.1) (0,0,[]) ?_ (fun _=>rfl) ?_ ?_
 ·exact ⟨Nat.zero_le _,by simp,Ws.nil,rfl,by simp [val]⟩
 ·refine ⟨?_,.mk ?_ ⟨by simp,trivial⟩⟩
  ·all_goals exact wk
  ·all_goals exact wk
 rintro ⟨i,bo,s⟩ ⟨hi,hbo,hws,hsl,hv⟩ _
 simp only at hi hbo hws hsl hv
 (try dsimp only[aj]);conv=>whnf
 refine And.intro (fun h=>?_) (fun h=>?_)
 ·have hlt : i < a.length:=by simpa using h
  have ca:=iQ a i
  have cb:=iQ b i
  have hva:=bP (l:=a) (i:=i)
  have hvb:=bP (l:=b) (i:=i)
  have hxa:=wa.getD (i:=i)
  have hxb:=wb.getD (i:=i)
  generalize a.getD i 0 = x0 at *
  generalize b.getD i 0 = y0 at *
  obtain ⟨x,rfl⟩ : ∃ x : Nat,x0 = x:=⟨x0.toNat,by omega⟩
  obtain ⟨w,rfl⟩ : ∃ x : Nat,y0 = x:=⟨y0.toNat,by omega⟩
  rw [Int.toNat_natCast] at hva hvb
  conv=>whnf
  refine .gen _ _ (aA.fB ca (ak _) ⟨rfl,rfl⟩) fun _=>?_
  conv=>whnf
  refine .gen _ _ (aA.fB cb (ak _) ⟨rfl,rfl⟩) fun _=>?_
  conv=>whnf
  obtain ⟨D,hD,hD1,hD2,hD3⟩:=En (x:=x) (low:=w) (b:=bo) (by omega) (by omega) hbo
  rw [hD]
  conv=>whnf
  rw [dW (a:=D)]
  have hy : D % 4294967296 < 4294967296:=Nat.mod_lt _ (by decide)
  generalize D % 4294967296 = y at *
  refine ⟨by rw [List.length_map],?_⟩
  refine ⟨by simp [maxL]; omega,by simp; omega,?_⟩
  conv=>whnf
  refine ⟨by decide,?_⟩
  rw [O4]
  conv=>whnf
  refine zA ?_;conv=>whnf
  refine ⟨(i + 1,D / 9223372036854775808,s ++ [(y : Int)]),?_,?_,?_⟩
  ·refine ⟨hlt,hD2,hws.append (Ws.cons (by omega) Ws.nil),by simp [hsl],?_⟩
   show val (a.take (i + 1)) + 4294967296 ^ (i + 1) * (D / 9223372036854775808) = val (s ++ [(y : Int)]) + val (b.take (i + 1))
   have e1 : val (s ++ [(y : Int)]) = val s + 4294967296 ^ i * y:=by rw [val_append,hsl]; simp [val]
   rw [hva,hvb,e1,Nat.pow_succ]
   exact Ey hD3 hv
  ·refine ⟨?_,.mk ?_ ⟨by simp,trivial⟩⟩
   ·repeat' first|exact rfl|exact trivial|exact wR|exact lR _|apply aI
    all_goals first | (refine aY ?_; simp [strip]; done) | simp
   ·repeat' first|exact rfl|exact trivial|exact wR|exact lR _|apply aI
    all_goals simp
  ·show a.length - (i + 1) < a.length - i
   omega
 ·have hil : i = a.length:=by have : ¬ i < a.length:=by simpa using h
                              omega
  subst hil
  rw [List.take_length] at hv
  have hva:=fF wa
  rw [BX (by omega)] at hv
  have hvs:=fF hws
  rw [hsl] at hvs
  have hfin : val s = val a - val b:=by
   have hb2 : bo = 0 \/ bo = 1:=by omega
   rcases hb2 with rfl | rfl
   ·omega
   ·omega
  have ct:=iD s (by omega)
  rw [hfin] at ct
  conv=>whnf
  refine .pure _ _ ?_ ⟨rfl,rfl⟩ ct fun _=>?_
  ·all_goals exact wk
  conv=>whnf
  refine fM ?_;(conv=>whnf);refine ⟨?_,rfl⟩;conv=>whnf
  all_goals exact wk

theorem or_up {c x n : Nat} (hn : n < 32) (hc : c < 2 ^ n) (hx : x < 4294967296) : jC .or .u64 (c : Int) ((x * 2 ^ n : Nat) : Int) = ((c + x * 2 ^ n : Nat) : Int):=by
 have h3 : 2 ^ n <= 2 ^ 31:=Nat.pow_le_pow_right (by omega) (by omega)
 have h4 : x * 2 ^ n <= 4294967295 * 2 ^ 31:=Nat.mul_le_mul (by omega) h3
 rw [JQ (by omega) (by omega)]
 have:=Nat.shiftLeft_add_eq_or_of_lt (i:=n) hc x
 rw [Nat.shiftLeft_eq] at this
 rw [Nat.or_comm,<- this,Nat.add_comm]

theorem Vq {c x n : Nat} (hc : c < 2 ^ n) (hx : x < 4294967296) : (c + x * 2 ^ n) / 4294967296 < 2 ^ n:=by
 rw [Nat.div_lt_iff_lt_mul (by omega)]
 have h1 : (x + 1) * 2 ^ n <= 4294967296 * 2 ^ n:=Nat.mul_le_mul_right _ (by omega)
 rw [Nat.mul_comm (2 ^ n) 4294967296]
 rw [Nat.add_mul] at h1
 omega

theorem Vr {p B c x P C vs va : Nat} (hC : C = c + x * P) (h : vs + p * c = va * P) : vs + p * (C % B) + p * B * (C / B) = (va + p * x) * P:=by
 have e1 : p * (C % B) + p * B * (C / B) = p * C:=by rw [Nat.mul_assoc,<- Nat.mul_add,Nat.mod_add_div]
 rw [Nat.add_mul,<- h,Nat.mul_assoc p x,Nat.add_assoc,Nat.add_assoc,e1,hC,Nat.mul_add]

theorem c_rUp (a : List Int) (n : Nat) (hn : n < 32) (ha : a.length <= 999999) : aA Tryz.prog 242 [wL a,.int .i64 n] [] (wL (wd (val a * 2 ^ n))) []:=by
 refine aA.intro lay mixed Tryz.func242 (by kernel_rfl) rfl (by kernel_rfl) rfl fun hok=>?_
 have wa : Ws a:=Ws.ok hok.1.2
 conv=>whnf
 refine aK.of <| aC.inv (.grow 5 1 [] _ rfl (.inl ⟨rfl,rfl⟩) (.refl _ _)) (fun x : Nat × Nat × List Int=>x.1 <= a.length /\ x.2.1 < 2 ^ n /\ Ws x.2.2 /\ x.2.2.length = x.1 /\ val x.2.2 + 4294967296 ^ x.1 * x.2.1 = val (a.take x.1) * 2 ^ n)
  (fun | (i,c,s)=>[(11,.int .i64 i),(6,.int .u64 c),(5,.sl 1 (s.map (.int .u32)) (.own 0))]) (fun | (_,_,s)=>[(0,.tok 1 s.length)])
  (fun x=>a.length - x.1) (0,0,[]) ?_ (fun _=>rfl) ?_ ?_
 ·exact ⟨Nat.zero_le _,Nat.two_pow_pos _,Ws.nil,rfl,by simp [val]⟩
 ·refine ⟨?_,.mk ?_ ⟨by simp,trivial⟩⟩
  ·all_goals exact wk
  ·all_goals exact wk
 rintro ⟨i,c,s⟩ ⟨hi,hc,hws,hsl,hv⟩ _
 simp only at hi hc hws hsl hv
 have hn31 : 2 ^ n <= 2 ^ 31:=Nat.pow_le_pow_right (by omega) (by omega)
 (try dsimp only[aj]);conv=>whnf
 refine And.intro (fun h=>?_) (fun h=>?_)
 ·have hlt : i < a.length:=by simpa using h
  have hva:=bP (l:=a) (i:=i)
  have hxa:=wa.getD (i:=i)
  conv=>whnf
  refine fC 0 rfl hlt ?_
  generalize a.getD i 0 = x0 at *
  obtain ⟨x,rfl⟩ : ∃ x : Nat,x0 = x:=⟨x0.toNat,by omega⟩
  rw [Int.toNat_natCast] at hva
  conv=>whnf
  rw [wrap_u64 (n:=(x : Int)) (by omega) (by omega)]
  refine ⟨by omega,?_⟩
  rw [QZ (by omega) hn]
  conv=>whnf
  rw [or_up hn hc (by omega)]
  have hcar:=Vq hc (x:=x) (by omega)
  obtain ⟨C,hC⟩ : ∃ C,c + x * 2 ^ n = C:=⟨_,rfl⟩
  rw [hC] at hcar ⊢
  conv=>whnf
  rw [dW (a:=C)]
  refine ⟨by rw [List.length_map],?_⟩
  refine ⟨by simp [maxL]; omega,by simp; omega,?_⟩
  conv=>whnf
  refine ⟨by decide,?_⟩
  rw [mM rfl]
  conv=>whnf
  refine zA ?_;conv=>whnf
  refine ⟨(i + 1,C / 4294967296,s ++ [((C % 4294967296 : Nat) : Int)]),?_,?_,?_⟩
  ·refine ⟨hlt,hcar,hws.append (Ws.cons (by omega) Ws.nil),by simp [hsl],?_⟩
   show val (s ++ [((C % 4294967296 : Nat) : Int)]) + 4294967296 ^ (i + 1) * (C / 4294967296) = val (a.take (i + 1)) * 2 ^ n
   have e1 : val (s ++ [((C % 4294967296 : Nat) : Int)]) = val s + 4294967296 ^ i * (C % 4294967296):=by rw [val_append,hsl]; simp only [val,Int.toNat_natCast,Nat.mul_zero,Nat.add_zero]
   rw [hva,e1,Nat.pow_succ]
   exact Vr hC.symm hv
  ·refine ⟨?_,.mk ?_ ⟨by simp,trivial⟩⟩
   ·repeat' first|exact rfl|exact trivial|exact wR|exact lR _|apply aI
    all_goals first | (refine aY ?_; simp [strip]; done) | simp
   ·repeat' first|exact rfl|exact trivial|exact wR|exact lR _|apply aI
    all_goals simp
  ·show a.length - (i + 1) < a.length - i
   omega
 ·have hil : i = a.length:=by have : ¬ i < a.length:=by simpa using h
                              omega
  subst hil
  rw [List.take_length] at hv
  have ct:=iD (s ++ [(c : Int)]) (by simp; omega)
  rw [val_append,hsl,show val [(c : Int)] = c by simp [val],hv] at ct
  conv=>whnf
  rw [wrap_u32 (n:=(c : Int)) (by omega) (by omega)]
  refine ⟨by rw [List.length_map],?_⟩
  refine ⟨by simp [maxL]; omega,by simp; omega,?_⟩
  conv=>whnf
  refine .gen _ _ (aA.fB ct ?_ ⟨rfl,rfl⟩) fun _=>?_
  ·repeat' first|exact rfl|exact trivial|exact wR|exact lR _|apply aI
   refine aY ?_
   simp [strip]
  conv=>whnf
  refine fM ?_;(conv=>whnf);refine ⟨?_,rfl⟩;conv=>whnf
  all_goals exact wk

theorem ZW (a : List Int) (n : Nat) (hn : n < 32) (ha : a.length <= 1000000) : aA Tryz.prog 243 [wL a,.int .i64 n] [] (wL (wd (val a / 2 ^ n))) []:=by
 refine aA.intro lay mixed Tryz.func243 (by kernel_rfl) rfl (by kernel_rfl) rfl fun hok=>?_
 have wa : Ws a:=Ws.ok hok.1.2
 conv=>whnf
 refine aK.of <| aC.inv (.grow 5 1 [] _ rfl (.inl ⟨rfl,rfl⟩) (.refl _ _)) (fun i : Nat=>i <= a.length)
  (fun i=>[(9,.int .i64 i),(5,.sl 1 ((nH i (val a / 2 ^ n)).map (.int .u32)) (.own 0))]) (fun i=>[(0,.tok 1 i)])
  (fun i=>a.length - i) 0 ?_ (fun _=>rfl) ?_ ?_
 ·exact Nat.zero_le _
 ·refine ⟨?_,.mk ?_ ⟨by simp,trivial⟩⟩
  ·all_goals exact wk
  ·all_goals exact wk
 intro i hi _
 (try dsimp only[aj]);conv=>whnf
 refine And.intro (fun h=>?_) (fun h=>?_)
 ·have hlt : i < a.length:=by simpa using h
  have ca:=iQ a i
  have cb:=iQ a (i + 1)
  have hx:=wa.getD (i:=i)
  have hy:=wa.getD (i:=i + 1)
  have hrw:=ED wa (i:=i) hn
  have hsnoc : nH (i + 1) (val a / 2 ^ n) = nH i (val a / 2 ^ n) ++ [((val a / 2 ^ n / 4294967296 ^ i % 4294967296 : Nat) : Int)]:=by
   refine (Vm (by simp [dO]) fun k hk=>?_).symm
   by_cases hki : k < i
   ·rw [List.getD_eq_getElem?_getD,List.getElem?_append_left (by rw [dO]; exact hki),<- List.getD_eq_getElem?_getD]
    exact JC hki
   ·have : k = i:=by omega
    subst this
    rw [List.getD_eq_getElem?_getD,List.getElem?_append_right (by rw [dO]; omega),dO]
    simp
  generalize a.getD i 0 = x0 at *
  generalize a.getD (i + 1) 0 = y0 at *
  obtain ⟨x,rfl⟩ : ∃ x : Nat,x0 = x:=⟨x0.toNat,by omega⟩
  obtain ⟨y,rfl⟩ : ∃ y : Nat,y0 = y:=⟨y0.toNat,by omega⟩
  simp only [Int.toNat_natCast] at hrw
  conv=>whnf
  refine .gen _ _ (aA.fB ca (ak _) ⟨rfl,rfl⟩) fun _=>?_
  conv=>whnf
  refine zA ?_;conv=>whnf
  refine .gen _ _ (aA.fB cb (ak _) ⟨rfl,rfl⟩) fun _=>?_
  conv=>whnf
  refine ⟨by decide,?_⟩
  rw [qU (by omega)]
  conv=>whnf
  rw [MK (by omega) (by omega)]
  refine ⟨by omega,?_⟩
  rw [QY hn]
  conv=>whnf
  rw [dW,hrw]
  refine ⟨by simp [dO],?_⟩
  refine ⟨by simp [maxL,dO]; omega,by simp [dO]; omega,?_⟩
  conv=>whnf
  refine zA ?_;conv=>whnf
  refine ⟨i + 1,?_,?_,?_⟩
  ·exact hlt
  ·rw [hsnoc]
   refine ⟨?_,.mk ?_ ⟨by simp,trivial⟩⟩
   ·repeat' first|exact rfl|exact trivial|exact wR|exact lR _|apply aI
    all_goals first | (refine aY ?_; simp [strip]; done) | simp
   ·repeat' first|exact rfl|exact trivial|exact wR|exact lR _|apply aI
    all_goals simp [dO]
  ·omega
 ·have hil : i = a.length:=by have : ¬ i < a.length:=by simpa using h
                              omega
  subst hil
  have hva:=fF wa
  have hle : val a / 2 ^ n <= val a:=Nat.div_le_self _ _
  have ct:=iD (nH a.length (val a / 2 ^ n)) (by rw [dO]; omega)
  rw [mD (by omega)] at ct
  conv=>whnf
  refine .gen _ _ (aA.fB ct ?_ ⟨rfl,rfl⟩) fun _=>?_
  ·all_goals exact wk
  conv=>whnf
  refine fM ?_;(conv=>whnf);refine ⟨?_,rfl⟩;conv=>whnf
  all_goals exact wk

theorem WA {p B x y o c C v0 vb vn : Nat} {w : Nat} (hC : C = x * y + o + c) (e : vn + p * o = v0 + p * (C % B)) (h : v0 + p * c = w + x * vb) : vn + p * B * (C / B) = w + x * vb + p * (x * y):=by
 have e1 : p * (C % B) + p * B * (C / B) = p * C:=by rw [Nat.mul_assoc,<- Nat.mul_add,Nat.mod_add_div]
 have e2 : p * C = p * (x * y) + p * o + p * c:=by rw [hC,Nat.mul_add,Nat.mul_add]
 omega

theorem IX {p q x y : Nat} : p * q * (x * y) = p * x * (q * y):=by
 rw [Nat.mul_assoc,Nat.mul_assoc,Nat.mul_left_comm q]

theorem carry_zero {P Q A b o c : Nat} (h : o + P * Q * c = A * b) (h1 : A < P) (h2 : b < Q) : c = 0:=by
 apply Classical.byContradiction
 intro hne
 have k1 : P * Q * 1 <= P * Q * c:=Nat.mul_le_mul_left _ (by omega)
 have k2 : A * b <= P * b:=Nat.mul_le_mul_right _ (by omega)
 have k3 : P * b < P * Q:=Nat.mul_lt_mul_of_pos_left h2 (by omega)
 omega

theorem c_rMul (a b : List Int) (ha : a.length <= 400000) (hb : b.length <= 400000) : aA Tryz.prog 69 [wL a,wL b] [] (wL (wd (val a * val b))) []:=by
 refine aA.intro lay mixed Tryz.func69 (by kernel_rfl) rfl (by kernel_rfl) rfl fun hok=>?_
 have wa : Ws a:=Ws.ok hok.1.2
 have wb : Ws b:=Ws.ok hok.2.1.2
 conv=>whnf
 refine ⟨bC (by simp; omega) (by simp; omega),?_⟩
 conv=>whnf
 refine ⟨bC (by simp; omega) (by simp; omega),?_⟩
 obtain ⟨m,hm⟩ : ∃ m,a.length + b.length + 1 = m:=⟨_,rfl⟩
 rw [show (((a.map (AV.int .u32)).length : Nat) : Int) + (((b.map (AV.int .u32)).length : Nat) : Int) + 1 = (m : Int) by simp; omega]
 conv=>whnf
 refine ⟨⟨by omega,by omega,by simp; omega,by omega⟩,.wr ?_⟩
 conv=>whnf
 refine aK.of <| aC.inv (.refl _ _) (fun x : Nat × List Int=>x.1 <= a.length /\ Ws x.2 /\ x.2.length = m /\ val x.2 = val (a.take x.1) * val b)
  (fun | (i,_)=>[(20,.int .i64 i)]) (fun | (_,out)=>[(0,.arr 1 m (out.map (.int .u32)))])
  (fun x=>a.length - x.1) (0,List.replicate m 0) ?_ (fun _=>rfl) ?_ ?_
 ·refine ⟨Nat.zero_le _,?_,by simp,?_⟩
  ·intro x hx
   rw [(List.mem_replicate.1 hx).2]; omega
  ·rw [kX (fun x hx=>(List.mem_replicate.1 hx).2)]; simp [val]
 ·refine ⟨?_,.mk ?_ ⟨by simp,trivial⟩⟩
  ·all_goals exact wk
  ·repeat' first|exact rfl|exact trivial|exact wR|exact lR _|apply aI
   all_goals first | (simp; done) | exact aY (by simp)
 rintro ⟨i,out⟩ ⟨hi,hwo,hol,hv⟩ _
 simp only at hi hwo hol hv
 (try dsimp only[aj]);conv=>whnf
 refine And.intro (fun h=>?_) (fun h=>?_)
 ·have hlt : i < a.length:=by simpa using h
  have hva:=bP (l:=a) (i:=i)
  have hxa:=wa.getD (i:=i)
  conv=>whnf
  refine fC 0 rfl hlt ?_
  generalize a.getD i 0 = x0 at *
  obtain ⟨x,rfl⟩ : ∃ x : Nat,x0 = x:=⟨x0.toNat,by omega⟩
  rw [Int.toNat_natCast] at hva
  conv=>whnf
  refine ⟨bC (by simp; omega) (by simp; omega),?_⟩
  rw [show (((b.map (AV.int .u32)).length : Nat) : Int) + 1 = ((b.length + 1 : Nat) : Int) by simp]
  conv=>whnf
  refine aK.of <| aC.inv (.refl _ _) (fun z : Nat × Nat × List Int=>z.1 <= b.length + 1 /\ z.2.1 < 4294967296 /\ Ws z.2.2 /\ z.2.2.length = m /\ val z.2.2 + 4294967296 ^ (i + z.1) * z.2.1 = val out + 4294967296 ^ i * x * val (b.take z.1))
   (fun | (j,c,_)=>[(28,.int .i64 j),(8,.int .u64 c)]) (fun | (_,_,o)=>[(0,.arr 1 m (o.map (.int .u32)))])
   (fun z=>b.length + 1 - z.1) (0,0,out) ?_ (fun _=>rfl) ?_ ?_
  ·exact ⟨Nat.zero_le _,(by omega : 0 < 4294967296),hwo,hol,by simp [val]⟩
  ·refine ⟨?_,.mk ?_ ⟨by simp,trivial⟩⟩
   ·all_goals exact wk
   ·all_goals exact wk
  rintro ⟨j,c,o⟩ ⟨hj,hc,Kw,PK,hv2⟩ _
  simp only at hj hc Kw PK hv2
  (try dsimp only[aj]);conv=>whnf
  refine And.intro (fun h=>?_) (fun h=>?_)
  ·have hjlt : j < b.length + 1:=by omega
   have cw:=iQ b j
   have hvb:=bP (l:=b) (i:=j)
   have hxb:=wb.getD (i:=j)
   have hoo:=Kw.getD (i:=i + j)
   have hij : i + j < o.length:=by omega
   generalize b.getD j 0 = y0 at *
   obtain ⟨y,rfl⟩ : ∃ x : Nat,y0 = x:=⟨y0.toNat,by omega⟩
   rw [Int.toNat_natCast] at hvb
   have hxy : x * y <= 4294967295 * 4294967295:=Nat.mul_le_mul (by omega) (by omega)
   conv=>whnf
   refine aS.auto (by kernel_rfl) ?_;conv=>whnf
   refine fO.pure _ _ (ak _) ⟨rfl,rfl⟩ cw ?_
   conv=>whnf
   rw [wrap_u64 (n:=(x : Int)) (by omega) (by omega)]
   rw [show ((x : Int) * (y : Int)) = ((x * y : Nat) : Int) from (Int.natCast_mul x y).symm,wrap_u64 (n:=((x * y : Nat) : Int)) (by omega) (by omega)]
   refine zA ?_;conv=>whnf
   refine ⟨⟨by omega,by omega⟩,?_⟩
   conv=>whnf
   refine fC 0 (i:=i + j) (by omega) hij ?_
   refine ⟨rfl,?_⟩
   obtain ⟨ow,how⟩ : ∃ w : Nat,o.getD (i + j) 0 = w:=⟨(o.getD (i + j) 0).toNat,by omega⟩
   rw [how] at hoo ⊢
   conv=>whnf
   rw [wrap_u64 (n:=(ow : Int)) (by omega) (by omega)]
   rw [show (((x * y : Nat) : Int) + (ow : Int)) = ((x * y + ow : Nat) : Int) from (Int.natCast_add (x * y) ow).symm,wrap_u64 (n:=((x * y + ow : Nat) : Int)) (by omega) (by omega)]
   rw [show (((x * y + ow : Nat) : Int) + (c : Int)) = ((x * y + ow + c : Nat) : Int) from (Int.natCast_add (x * y + ow) c).symm,wrap_u64 (n:=((x * y + ow + c : Nat) : Int)) (by omega) (by omega)]
   obtain ⟨C,hC⟩ : ∃ C,x * y + ow + c = C:=⟨_,rfl⟩
   rw [hC]
   conv=>whnf
   refine zA ?_;conv=>whnf
   rw [dW (a:=C)]
   refine ⟨⟨by omega,by omega⟩,?_⟩
   dsimp only [kQ]
   rw [tX]
   dsimp only [jo]
   dsimp only [yJ,fZ]
   conv=>whnf
   refine ⟨by rw [List.length_map]; omega,rfl,?_⟩
   conv=>whnf
   refine ⟨by decide,?_⟩
   rw [mM rfl]
   conv=>whnf
   refine zA ?_;conv=>whnf
   have hCl : C / 4294967296 < 4294967296:=by omega
   have hset:=sF (x:=((C % 4294967296 : Nat) : Int)) hij
   rw [<- gV (x:=0) hij,how,Int.toNat_natCast,Int.toNat_natCast] at hset
   refine ⟨(j + 1,C / 4294967296,o.set (i + j) ((C % 4294967296 : Nat) : Int)),?_,?_,?_⟩
   ·refine ⟨hjlt,hCl,Kw.set (by omega),by simpa using PK,?_⟩
    show val (o.set (i + j) ((C % 4294967296 : Nat) : Int)) + 4294967296 ^ (i + (j + 1)) * (C / 4294967296) = val out + 4294967296 ^ i * x * val (b.take (j + 1))
    rw [<- Nat.add_assoc,Nat.pow_succ,hvb,Nat.mul_add,<- IX (x:=x),<- Nat.pow_add,<- Nat.add_assoc]
    have:=WA (p:=4294967296 ^ (i + j)) (x:=x) (y:=y) (o:=ow) (c:=c) (v0:=val o) (vn:=val (o.set (i + j) ((C % 4294967296 : Nat) : Int))) (w:=val out + 4294967296 ^ i * x * val (b.take j)) (vb:=0) hC.symm hset (by rw [Nat.mul_zero,Nat.add_zero]; exact hv2)
    rw [Nat.mul_zero,Nat.add_zero] at this
    exact this
   ·refine ⟨?_,.mk ?_ ⟨by simp,trivial⟩⟩
    ·all_goals exact wk
    ·repeat' first|exact rfl|exact trivial|exact wR|exact lR _|apply aI
     refine aY ?_
     rw [List.map_set,show (0 + ((i : Int) + (j : Int)).toNat) = i + j by omega]
     simp [strip]
   ·show b.length + 1 - (j + 1) < b.length + 1 - j
    omega
  ·have hjl : j = b.length + 1:=by omega
   subst hjl
   rw [List.take_of_length_le (by omega : b.length <= b.length + 1),hv] at hv2
   have h2 : val (a.take i) * val b + 4294967296 ^ i * x * val b = val (a.take (i + 1)) * val b:=by rw [hva,Nat.add_mul]
   have h3:=sH wa (i + 1)
   have h4:=fF wb
   have hcz : c = 0:=by
    refine carry_zero (P:=4294967296 ^ (i + 1)) (Q:=4294967296 ^ b.length) (A:=val (a.take (i + 1))) (b:=val b) (o:=val o) ?_ h3 h4
    rw [<- h2,<- hv2,<- Nat.pow_add,show i + 1 + b.length = i + (b.length + 1) by omega]
   rw [hcz,Nat.mul_zero,Nat.add_zero,h2] at hv2
   conv=>whnf
   refine zA ?_;conv=>whnf
   refine ⟨(i + 1,o),?_,?_,?_⟩
   ·refine ⟨hlt,Kw,PK,?_⟩
    exact hv2
   ·refine ⟨?_,.mk ?_ ⟨by simp,trivial⟩⟩
    ·all_goals exact wk
    ·all_goals exact wk
   ·show a.length - (i + 1) < a.length - i
    omega
 ·have hil : i = a.length:=by have : ¬ i < a.length:=by simpa using h
                              omega
  subst hil
  rw [List.take_length] at hv
  have ct:=iD out (by omega)
  rw [hv] at ct
  conv=>whnf
  refine .gen _ _ (aA.PU 0 rfl rfl (by simp; omega) (aA.fB ct ?_ ⟨rfl,rfl⟩)) fun _=>?_
  ·repeat' first|exact rfl|exact trivial|exact wR|exact lR _|apply aI
   refine aY ?_
   simp
   rw [List.take_of_length_le (by simp; omega)]
  conv=>whnf
  refine fM ?_;(conv=>whnf);refine ⟨?_,rfl⟩;conv=>whnf
  all_goals exact wk

theorem bit_u32 {x k : Nat} (hx : x < 4294967296) (hk : k < 32) : jC .and .u32 (uK .u32 (x : Int) (k : Int)) 1 = if x.testBit k then 1 else 0:=by
 rw [Dw hk]
 have hd : x / 2 ^ k <= x:=Nat.div_le_self _ _
 have e : ∀ z : Nat,BitVec.ofInt 32 (z : Int) = BitVec.ofNat 32 z:=by
  intro z; apply BitVec.eq_of_toNat_eq; simp
 simp only [jC]
 have h1 : (BitVec.ofInt 32 ((x / 2 ^ k : Nat) : Int) &&& BitVec.ofInt 32 (1 : Int)).toNat = (x / 2 ^ k) &&& 1:=by
  rw [show (1 : Int) = ((1 : Nat) : Int) from rfl,e,e,BitVec.toNat_and,BitVec.toNat_ofNat,BitVec.toNat_ofNat,Nat.mod_eq_of_lt (by omega)]
 show IntKind.wrap .u32 ((BitVec.ofInt 32 ((x / 2 ^ k : Nat) : Int) &&& BitVec.ofInt 32 (1 : Int)).toNat : Int) = _
 rw [h1,Nat.and_one_is_mod,Nat.testBit_eq_decide_div_mod_eq]
 have : x / 2 ^ k % 2 < 2:=Nat.mod_lt _ (by omega)
 rw [wrap_u32 (by omega) (by omega)]
 by_cases h : x / 2 ^ k % 2 = 1
 ·simp [h]
 ·have : x / 2 ^ k % 2 = 0:=by omega
  simp [this]

theorem Rk {x k : Nat} : x % 2 ^ (k + 1) = x % 2 ^ k + 2 ^ k * (if x.testBit k then 1 else 0):=by
 rw [Nat.testBit_eq_decide_div_mod_eq,Nat.mod_pow_succ]
 have : x / 2 ^ k % 2 < 2:=Nat.mod_lt _ (by omega)
 by_cases h : x / 2 ^ k % 2 = 1
 ·simp [h]
 ·have : x / 2 ^ k % 2 = 0:=by omega
  simp [this]

theorem Q7 (i k : Nat) : 4294967296 ^ i * 2 ^ k = 2 ^ (32 * i + k):=by
 rw [Nat.pow_add,Nat.pow_mul]

theorem Yc {v x i k : Nat} (hv : v < 4294967296 ^ i) (hb : x.testBit k = true) : jy (v + 4294967296 ^ i * (x % 2 ^ (k + 1))) = 32 * i + k + 1:=by
 have e:=Q7 i k
 have e2:=Q7 i (k + 1)
 have hm : x % 2 ^ (k + 1) < 2 ^ (k + 1):=Nat.mod_lt _ (Nat.two_pow_pos _)
 have hge : 2 ^ k <= x % 2 ^ (k + 1):=by rw [Rk,hb]; simp
 refine Gn ?_ ?_
 ·rw [<- e]
  have : 4294967296 ^ i * 2 ^ k <= 4294967296 ^ i * (x % 2 ^ (k + 1)):=Nat.mul_le_mul_left _ hge
  omega
 ·rw [show 32 * i + k + 1 = 32 * i + (k + 1) by omega,<- e2]
  have h1 : 4294967296 ^ i * (x % 2 ^ (k + 1) + 1) <= 4294967296 ^ i * 2 ^ (k + 1):=Nat.mul_le_mul_left _ hm
  rw [Nat.mul_add] at h1
  omega

theorem RS (a : List Int) (ha : a.length <= 1000000) : aA Tryz.prog 152 [wL a] [] (.int .i64 (jy (val a))) []:=by
 refine aA.intro lay mixed Tryz.func152 (by kernel_rfl) rfl (by kernel_rfl) rfl fun hok=>?_
 have wa : Ws a:=Ws.ok hok.1.2
 conv=>whnf
 refine aK.of <| aC.inv (.refl _ _) (fun (i : Nat)=>i <= a.length) (fun (i : Nat)=>[(9,.int .i64 i),(3,.int .i64 (jy (val (a.take i))))]) (fun _=>_) (fun (i : Nat)=>a.length - i) 0 ?_ (fun _=>rfl) ?_ ?_
 ·exact Nat.zero_le _
 ·all_goals exact wk
 intro i hi _
 (try dsimp only[aj]);conv=>whnf
 refine And.intro (fun h=>?_) (fun h=>?_)
 ·have hlt : i < a.length:=by simpa using h
  have hva:=bP (l:=a) (i:=i)
  have hxa:=wa.getD (i:=i)
  have htl:=sH wa i
  conv=>whnf
  refine fC 0 rfl hlt ?_
  generalize a.getD i 0 = x0 at *
  obtain ⟨x,rfl⟩ : ∃ x : Nat,x0 = x:=⟨x0.toNat,by omega⟩
  rw [Int.toNat_natCast] at hva
  generalize val (a.take i) = v at *
  conv=>whnf
  refine aK.of <| aC.inv (.refl _ _) (fun (k : Nat)=>k <= 32) (fun (k : Nat)=>[(14,.int .i64 k),(3,.int .i64 (jy (v + 4294967296 ^ i * (x % 2 ^ k))))]) (fun _=>_) (fun (k : Nat)=>32 - k) 0 ?_ (fun _=>rfl) ?_ ?_
  ·exact Nat.zero_le _
  ·repeat' first|exact rfl|exact trivial|exact wR|exact lR _|apply aI
   rw [show x % 2 ^ 0 = 0 from Nat.mod_one x,Nat.mul_zero,Nat.add_zero]
  intro k hk _
  (try dsimp only[aj]);conv=>whnf
  refine And.intro (fun h=>?_) (fun h=>?_)
  ·have hk2 : k < 32:=by omega
   conv=>whnf
   refine ⟨by omega,?_⟩
   conv=>whnf
   rw [bit_u32 (by omega) hk2]
   cases hb : x.testBit k with
   | true =>
     have hbl:=Yc (x:=x) htl hb
     conv=>whnf
     refine And.intro (fun _=>?_) (fun h=>absurd rfl h)
     conv=>whnf
     refine ⟨bC (by omega) (by omega),?_⟩
     conv=>whnf
     refine zA ?_;conv=>whnf
     refine zA ?_;conv=>whnf
     refine zA ?_;conv=>whnf
     refine ⟨k + 1,?_,?_,?_⟩
     ·exact hk2
     ·rw [hbl]
      all_goals exact wk
     ·omega
   | false =>
     have hbl : x % 2 ^ (k + 1) = x % 2 ^ k:=by rw [Rk,hb]; simp
     conv=>whnf
     refine And.intro (fun h=>absurd h (by decide)) (fun _=>?_)
     conv=>whnf
     refine zA ?_;conv=>whnf
     refine ⟨k + 1,?_,?_,?_⟩
     ·exact hk2
     ·rw [hbl]
      all_goals exact wk
     ·omega
  ·have hk3 : k = 32:=by omega
   subst hk3
   have hx32 : x % 2 ^ 32 = x:=Nat.mod_eq_of_lt (by omega)
   rw [hx32,<- hva]
   conv=>whnf
   refine zA ?_;conv=>whnf
   refine ⟨i + 1,?_,?_,?_⟩
   ·exact hlt
   ·all_goals exact wk
   ·omega
 ·have hil : i = a.length:=by have : ¬ i < a.length:=by simpa using h
                              omega
  subst hil
  rw [List.take_length]
  conv=>whnf
  refine fM ?_;(conv=>whnf);refine ⟨?_,rfl⟩;conv=>whnf
  all_goals exact wk

theorem YU {a n : Nat} (hn : n < 32) (h : a * 2 ^ n < 4294967296) : Es .u32 (a : Int) (n : Int) = ((a * 2 ^ n : Nat) : Int):=by
 unfold Es
 have h1 : min (n : Int).toNat (IntKind.bits .u32) = n:=by show min n 32 = n; omega
 rw [h1]
 have h2 : (a : Int) * 2 ^ n = ((a * 2 ^ n : Nat) : Int):=by simp
 rw [h2]
 exact wrap_u32 (by omega) (by omega)

theorem and_31 {a : Nat} (h : a < 4294967296) : jC .and .u32 (a : Int) 2147483648 = 0 ↔ a < 2147483648:=by
 have e : ∀ z : Nat,BitVec.ofInt 32 (z : Int) = BitVec.ofNat 32 z:=by
  intro z; apply BitVec.eq_of_toNat_eq; simp
 simp only [jC]
 have h1 : (BitVec.ofInt 32 (a : Int) &&& BitVec.ofInt 32 (2147483648 : Int)).toNat = a &&& 2 ^ 31:=by
  rw [show (2147483648 : Int) = ((2 ^ 31 : Nat) : Int) from rfl,e,e,BitVec.toNat_and,BitVec.toNat_ofNat,BitVec.toNat_ofNat,Nat.mod_eq_of_lt (by omega),Nat.mod_eq_of_lt (by omega)]
 show IntKind.wrap .u32 ((BitVec.ofInt 32 (a : Int) &&& BitVec.ofInt 32 (2147483648 : Int)).toNat : Int) = 0 ↔ _
 have hle : a &&& 2 ^ 31 <= a:=Nat.and_le_left
 rw [h1,wrap_u32 (by omega) (by omega)]
 have key : a &&& 2 ^ 31 = 0 ↔ a < 2147483648:=by
  constructor
  ·intro h0
   apply Classical.byContradiction
   intro hn
   have hbit : a.testBit 31 = true:=by rw [Nat.testBit_eq_decide_div_mod_eq]; simp; omega
   have : (a &&& 2 ^ 31).testBit 31 = true:=by rw [Nat.testBit_and,hbit,Nat.testBit_two_pow_self]; rfl
   rw [h0] at this
   simp at this
  ·intro h0
   apply Nat.eq_of_testBit_eq
   intro i
   rw [Nat.testBit_and,Nat.testBit_two_pow]
   by_cases hi : 31 = i
   ·subst hi
    rw [Nat.testBit_lt_two_pow (by omega)]; simp
   ·simp [hi]
 omega

theorem SY {x n : Nat} (h1 : 4294967296 ^ (n - 1) <= x) (h2 : x < 4294967296 ^ n) (hn : 1 <= n) : (wd x).length = n:=by
 have hw:=mJ x
 have hv:=bD x
 have hl:=fF hw
 rw [hv] at hl
 have a1 : ¬ (wd x).length <= n - 1:=by
  intro h
  have : 4294967296 ^ (wd x).length <= 4294967296 ^ (n - 1):=Nat.pow_le_pow_right (by omega) h
  omega
 have a2 : (wd x).length <= n:=by
  have:=iY (qK n x)
  rw [mD h2,dO] at this
  exact this
 omega

structure RInv (V L : Nat) (al : List Int) (j r : Nat) (Q : List Int) : Prop where
 jle : j <= L
 wq : Ws Q
 lq : Q.length = L
 lt : r < V
 eq : val (al.drop j) = r + V * val (Q.drop j)
 z : ∀ k,k < j -> Q.getD k 0 = 0

theorem LM (x : Int) (l : List Int) : val (x :: l) = x.toNat + 4294967296 * val l:=rfl

theorem RInv.step {V L j r : Nat} {al Q : List Int} (h : RInv V L al (j + 1) r Q) (hV0 : 0 < V) (hx : (al.getD j 0).toNat < 4294967296) :
  (al.getD j 0).toNat + 4294967296 * r < 4294967296 * V /\
  RInv V L al j (((al.getD j 0).toNat + 4294967296 * r) % V) (Q.set j ((((al.getD j 0).toNat + 4294967296 * r) / V : Nat) : Int)):=by
 have hlt:=h.lt
 have h1 : (al.getD j 0).toNat + 4294967296 * r < 4294967296 * V:=by omega
 refine ⟨h1,?_⟩
 have hj : j < L:=h.jle
 have hq : ((al.getD j 0).toNat + 4294967296 * r) / V < 4294967296:=by rw [Nat.div_lt_iff_lt_mul hV0]; exact h1
 have hjq : j < Q.length:=by rw [h.lq]; exact hj
 have hvd:=kN al j
 have he:=h.eq
 generalize (al.getD j 0).toNat = x at *
 generalize hs : x + 4294967296 * r = s at *
 have hdm:=Nat.div_add_mod s V
 generalize hqq : s / V = q at *
 generalize s % V = m at *
 refine ⟨?_,h.wq.set (by omega),by simpa using h.lq,?_,?_,?_⟩
 ·omega
 ·have hm : s - V * q < V:=by
   rw [<- hqq]
   have:=Nat.mod_lt s hV0
   have:=Nat.div_add_mod s V
   omega
  omega
 ·have e1 : (Q.set j (q : Int)).drop j = (q : Int) :: Q.drop (j + 1):=by
   rw [List.drop_eq_getElem_cons (by simpa using hjq),List.getElem_set_self,List.drop_set_of_lt (by omega)]
  rw [e1,LM,Int.toNat_natCast,hvd,he,Nat.mul_add,Nat.mul_add,Nat.mul_left_comm 4294967296 V]
  omega
 ·intro k hk
  have:=h.z k (by omega)
  rw [List.getD_eq_getElem?_getD] at this ⊢
  rw [List.getElem?_set_ne (by omega)]
  exact this

theorem rguess {V p s top : Nat} (hp : 0 < p) (ht : 0 < top) (hV : top * p <= V) (hq : s / V < 4294967296) : s / V <= min (s / p / top) 4294967295:=by
 have h1 : s / V <= s / p / top:=by
  refine Nk (p:=p) ht hV ?_
  have:=Nat.lt_div_mul_add (a:=s) hp
  rw [Nat.add_mul,Nat.one_mul]; exact this
 omega

theorem lT {x n : Nat} (h2 : x < 4294967296 ^ n) : (wd x).length <= n:=by
 have:=iY (qK n x)
 rw [mD h2,dO] at this
 exact this

theorem QJ (x i : Nat) : (wd x).getD i 0 = ((x / 4294967296 ^ i % 4294967296 : Nat) : Int):=by
 have h1:=uO (mJ x) i
 have h2:=kN (wd x) i
 have h3:=(mJ x).getD (i:=i)
 rw [bD] at h1
 rw [h1,h2]
 omega

theorem head_eq {S n : Nat} (hn : 1 <= n) (h : S < 4294967296 ^ (n + 1)) : (S / 4294967296 ^ n % 4294967296) * 4294967296 + S / 4294967296 ^ (n - 1) % 4294967296 = S / 4294967296 ^ (n - 1):=by
 obtain ⟨m,rfl⟩ : ∃ m,n = m + 1:=⟨n - 1,by omega⟩
 rw [show m + 1 - 1 = m by omega]
 have e : S / 4294967296 ^ (m + 1) = S / 4294967296 ^ m / 4294967296:=by rw [Nat.div_div_eq_div_mul,Nat.pow_succ]
 have hl : S / 4294967296 ^ m < 4294967296 * 4294967296:=by
  rw [Nat.div_lt_iff_lt_mul (Nat.pow_pos (by omega))]
  rw [Nat.pow_succ,Nat.pow_succ,Nat.mul_assoc,Nat.mul_comm] at h
  exact h
 rw [e]
 generalize S / 4294967296 ^ m = z at *
 omega

theorem VL {V S q : Nat} (hq : S / V = q) : S - V * q = S % V:=by
 subst hq
 have:=Nat.div_add_mod S V
 omega

theorem YX {V S q g : Nat} (hV : 0 < V) (hq : S / V = q) (h1 : q <= g) (h2 : ¬ S < V * g) : g = q:=by
 subst hq
 have : g <= S / V:=by
  rw [Nat.le_div_iff_mul_le hV,Nat.mul_comm]; omega
 omega

theorem YZ {V S q g : Nat} (hq : S / V = q) (h2 : S < V * g) : q < g:=by
 subst hq
 apply Classical.byContradiction
 intro hn
 have h3 : V * g <= V * (S / V):=Nat.mul_le_mul_left _ (by omega)
 have h4:=Nat.mul_div_le S V
 omega

set_option maxHeartbeats 2000000 in
theorem Qh (a b : List Int) (ha : a.length <= 300000) (hb : b.length <= 300000) (h0 : val b ≠ 0) : aA Tryz.prog 154 [wL a,wL b] [] (.eG [wL (wd (val a / val b)),wL (wd (val a % val b)),.int .i64 0]) []:=by
 refine aA.intro lay mixed Tryz.func154 (by kernel_rfl) rfl (by kernel_rfl) rfl fun hok=>?_
 have wa : Ws a:=Ws.ok hok.1.2
 have wb0 : Ws b:=Ws.ok hok.2.1.2
 (try dsimp only[aZ,aN]);(try dsimp only[aj]);conv=>whnf
 refine .pure _ _ ?_ ⟨rfl,rfl⟩ (iD b (by omega)) fun _=>?_
 ·exact ak _
 have hbl:=iY wb0
 have hwy:=mJ (val b)
 have hvy:=bD (val b)
 have hpy:=LD (val b)
 have hn1 : 1 <= (wd (val b)).length:=by rw [kM h0]; simp
 generalize hyv : val b = y at *
 generalize wd y = bl at *
 obtain ⟨n,hn⟩ : ∃ n,bl.length = n:=⟨_,rfl⟩
 rw [hn] at hn1
 have htb:=hwy.getD (i:=n - 1)
 have htn : bl.getD (n - 1) 0 ≠ 0:=by
  rcases hpy with h | h
  ·rw [h] at hn; simp at hn; omega
  ·rw [List.getLastD_eq_getLast?,List.getLast?_eq_getElem?,hn] at h
   rw [List.getD_eq_getElem?_getD]; exact h
 have e1:=dh (l:=bl) (n - 1) (by omega)
 rw [kN bl (n - 1),List.drop_eq_nil_of_le (by omega : bl.length <= n - 1 + 1),hvy] at e1
 have e2:=sH hwy (n - 1)
 have hge:=oN hpy (by intro e; rw [e] at hn; simp at hn; omega) hwy
 rw [hn,hvy] at hge
 generalize htt : bl.getD (n - 1) 0 = tb0 at *
 obtain ⟨tb,rfl⟩ : ∃ tb : Nat,tb0 = tb:=⟨tb0.toNat,by omega⟩
 have eln : (((bl.map (AV.int .u32)).length : Nat) : Int) = (n : Int):=by simp [hn]
 conv=>whnf
 rw [eln]
 refine And.intro (fun h=>by exfalso; omega) (fun _=>?_)
 conv=>whnf
 refine aK.of <| aC.inv (.refl _ _) (fun (s : Nat)=>s < 32 /\ tb * 2 ^ s < 4294967296) (fun (s : Nat)=>[(8,.int .i64 s)]) (fun _=>_) (fun (s : Nat)=>32 - s) 0 ?_ (fun _=>rfl) ?_ ?_
 ·exact ⟨(by omega : 0 < 32),by omega⟩
 ·all_goals exact wk
 rintro s ⟨hs,hts⟩ _
 (try dsimp only[aj]);conv=>whnf
 refine zA ?_;conv=>whnf
 refine fC 0 (i:=n - 1) (by omega) (by omega) ?_
 rw [htt]
 conv=>whnf
 refine ⟨by omega,?_⟩
 rw [YU hs hts]
 conv=>whnf
 refine And.intro (fun h=>?_) (fun h=>?_)
 ·have h:=(and_31 hts).1 h
  have hs31 : s < 31:=by
   have h1 : 1 * 2 ^ s <= tb * 2 ^ s:=Nat.mul_le_mul_right _ (by omega)
   have h2 : 2 ^ s < 2 ^ 31:=by omega
   exact (Nat.pow_lt_pow_iff_right (a:=2) (by omega)).1 h2
  conv=>whnf
  refine zA ?_;conv=>whnf
  refine ⟨s + 1,?_,?_,?_⟩
  ·exact ⟨(by omega : s + 1 < 32),(by rw [Nat.pow_succ,<- Nat.mul_assoc]; omega : tb * 2 ^ (s + 1) < 4294967296)⟩
  ·all_goals exact wk
  ·omega
 have hp2:=Nat.two_pow_pos s
 have hV1 : 4294967296 ^ (n - 1) <= y * 2 ^ s:=Nat.le_trans hge (Nat.le_mul_of_pos_right _ hp2)
 have hV2 : y * 2 ^ s < 4294967296 ^ n:=by
  have e3 : y < 4294967296 ^ (n - 1) * (tb + 1):=by
   rw [Nat.mul_add]
   simp only [Int.toNat_natCast,val,Nat.mul_zero,Nat.add_zero] at e1
   omega
  have hdvd : (tb + 1) * 2 ^ s <= 4294967296:=by
   have e32 : (4294967296 : Nat) = 2 ^ (32 - s) * 2 ^ s:=by rw [<- Nat.pow_add,show 32 - s + s = 32 by omega]
   rw [e32] at hts ⊢
   have:=Nat.lt_of_mul_lt_mul_right hts
   exact Nat.mul_le_mul_right _ this
  have e5 : y * 2 ^ s < 4294967296 ^ (n - 1) * (tb + 1) * 2 ^ s:=Nat.mul_lt_mul_of_pos_right e3 hp2
  have e6 : 4294967296 ^ (n - 1) * ((tb + 1) * 2 ^ s) <= 4294967296 ^ (n - 1) * 4294967296:=Nat.mul_le_mul_left _ hdvd
  rw [<- Nat.pow_succ,show (n - 1).succ = n by omega,<- Nat.mul_assoc] at e6
  omega
 have hVl:=SY hV1 hV2 hn1
 have hxa:=fF wa
 have hres : val a * 2 ^ s / (y * 2 ^ s) = val a / y /\ val a * 2 ^ s % (y * 2 ^ s) / 2 ^ s = val a % y:=by
  refine ⟨Nat.mul_div_mul_right _ _ hp2,?_⟩
  rw [Nat.mul_mod_mul_right,Nat.mul_div_cancel _ hp2]
 have hAl : (wd (val a * 2 ^ s)).length <= a.length + 1:=by
  refine lT ?_
  have k1 : 2 ^ s <= 4294967296:=Nat.le_trans (Nat.pow_le_pow_right (by omega) (show s <= 32 by omega)) (by decide)
  have k2 : val a * 2 ^ s < 4294967296 ^ a.length * 2 ^ s:=Nat.mul_lt_mul_of_pos_right hxa hp2
  have k3 : 4294967296 ^ a.length * 2 ^ s <= 4294967296 ^ a.length * 4294967296:=Nat.mul_le_mul_left _ k1
  rw [Nat.pow_succ]
  omega
 have cua:=c_rUp a s hs (by omega)
 have cub:=c_rUp bl s hs (by omega)
 rw [hvy] at cub
 have hwA:=mJ (val a * 2 ^ s)
 have hvA:=bD (val a * 2 ^ s)
 have hwV:=mJ (y * 2 ^ s)
 have hvV:=bD (y * 2 ^ s)
 have hgV:=QJ (y * 2 ^ s) (n - 1)
 generalize val a * 2 ^ s = A at *
 generalize y * 2 ^ s = V at *
 have htop : V / 4294967296 ^ (n - 1) < 4294967296:=by
  rw [Nat.div_lt_iff_lt_mul (Nat.pow_pos (by omega)),Nat.mul_comm,<- Nat.pow_succ,show (n - 1).succ = n by omega]; exact hV2
 have CB : 1 <= V / 4294967296 ^ (n - 1):=by
  rw [Nat.le_div_iff_mul_le (Nat.pow_pos (by omega)),Nat.one_mul]; exact hV1
 have htopV : V / 4294967296 ^ (n - 1) * 4294967296 ^ (n - 1) <= V:=Nat.div_mul_le_self _ _
 rw [Nat.mod_eq_of_lt htop] at hgV
 generalize V / 4294967296 ^ (n - 1) = top at *
 have Vh : 0 < V:=by have:=Nat.pow_pos (n:=n - 1) (show 0 < 4294967296 by omega); omega
 conv=>whnf
 refine .pure _ _ ?_ ⟨rfl,rfl⟩ cua fun _=>?_
 ·exact ak _
 conv=>whnf
 refine .pure _ _ ?_ ⟨rfl,rfl⟩ cub fun _=>?_
 ·exact ak _
 generalize wd A = al at *
 have cmul:=fun g : Nat=>fun (hg : g < 4294967296)=>c_rMul (wd V) [(g : Int)] (by omega) (by simp)
 generalize wd V = vl at *
 obtain ⟨L,hL⟩ : ∃ L,al.length = L:=⟨_,rfl⟩
 have ell : (((al.map (AV.int .u32)).length : Nat) : Int) = (L : Int):=by simp [hL]
 conv=>whnf
 refine aS.mk ⟨[true,true,false,true,true,true,true,true,true,true,true,true,true,true,true],by kernel_rfl,?_⟩
 conv=>whnf
 rw [ell]
 refine ⟨⟨by omega,by omega,by simp; omega,by omega⟩,.wr ?_⟩
 conv=>whnf
 rw [ell]
 refine zA ?_;conv=>whnf
 refine zA ?_;conv=>whnf
 rw [show max (0 : Int) ((L : Int) - (n : Int) + 1) = ((L + 1 - n : Nat) : Int) by omega]
 refine ⟨⟨by omega,by omega,by simp⟩,?_⟩
 have hcut : ((al.map (AV.int .u32)).drop ((L + 1 - n : Nat) : Int).toNat).take ((((al.map (AV.int .u32)).length : Nat) : Int).toNat - ((L + 1 - n : Nat) : Int).toNat) = (al.drop (L + 1 - n)).map (AV.int .u32):=by
  rw [List.take_of_length_le (by simp),Int.toNat_natCast,List.map_drop]
 rw [hcut]
 conv=>whnf
 refine .pure (by simp [maxL]; omega) (by simp; omega) ⟨rfl,?_⟩
 conv=>whnf
 refine zA ?_;conv=>whnf
 have hinit : ∃ j : Nat,(((L : Int) - (n : Int) = (j : Int) - 1) \/ ((L : Int) - (n : Int) < 0 /\ j = 0)) /\ RInv V L al j (val (al.drop (L + 1 - n))) (List.replicate L 0):=by
  have hrz : val (List.replicate L (0 : Int)) = 0:=kX fun x hx=>(List.mem_replicate.1 hx).2
  have hzw : Ws (List.replicate L (0 : Int)):=by
   intro x hx
   rw [(List.mem_replicate.1 hx).2]; omega
  have hz : ∀ k,(List.replicate L (0 : Int)).getD k 0 = 0:=by
   intro k
   rw [List.getD_eq_getElem?_getD,List.getElem?_replicate]
   split <;> rfl
  have hdz : ∀ k,val ((List.replicate L (0 : Int)).drop k) = 0:=fun k=>kX fun x hx=>(List.mem_replicate.1 (List.mem_of_mem_drop hx)).2
  have hlt : val (al.drop (L + 1 - n)) < V:=by
   have h1:=fF (hwA.drop (L + 1 - n))
   have h2 : 4294967296 ^ (al.drop (L + 1 - n)).length <= 4294967296 ^ (n - 1):=Nat.pow_le_pow_right (by omega) (by rw [List.length_drop]; omega)
   omega
  by_cases hLn : n <= L
  ·refine ⟨L + 1 - n,.inl (by omega),by omega,hzw,by simp,hlt,?_,fun k _=>hz k⟩
   rw [hdz,Nat.mul_zero]; rfl
  ·refine ⟨0,?_,by omega,hzw,by simp,hlt,?_,fun k _=>hz k⟩
   ·by_cases h : (L : Int) - (n : Int) = ((0 : Nat) : Int) - 1
    ·exact .inl h
    ·exact .inr ⟨by omega,rfl⟩
   ·rw [hdz,Nat.mul_zero,Nat.add_zero,show L + 1 - n = 0 by omega]
 obtain ⟨j0,hj0,hI0⟩:=hinit
 have hrw0 : Ws (al.drop (L + 1 - n)):=hwA.drop _
 have hrl0 : (al.drop (L + 1 - n)).length <= 300001:=by rw [List.length_drop]; omega
 conv=>whnf
 refine aK.of <| aC.inv (.refl _ _) (fun x : Int × Nat × List Int × List Int=>((x.1 = (x.2.1 : Int) - 1) \/ (x.1 < 0 /\ x.2.1 = 0)) /\ -1000000 <= x.1 /\ Ws x.2.2.1 /\ x.2.2.1.length <= 300001 /\ RInv V L al x.2.1 (val x.2.2.1) x.2.2.2)
  (fun | (e,_,r,_)=>[(11,.int .i64 e),(10,wL r)]) (fun | (_,_,_,Q)=>[(0,.arr 1 L (Q.map (.int .u32)))])
  (fun x=>x.2.1) ((L : Int) - (n : Int),j0,al.drop (L + 1 - n),List.replicate L 0) ?_ (fun _=>rfl) ?_ ?_
 ·exact ⟨hj0,(by omega : -1000000 <= (L : Int) - (n : Int)),hrw0,hrl0,hI0⟩
 ·refine ⟨?_,.mk ?_ ⟨by simp,trivial⟩⟩
  ·repeat' first|exact rfl|exact trivial|exact wR|exact lR _|apply aI
   omega
  ·repeat' first|exact rfl|exact trivial|exact wR|exact lR _|apply aI
   all_goals first | (simp; done) | exact aY (by simp)
 rintro ⟨e,j,rl,Q⟩ ⟨hej,hem,hwr,hrl,hI⟩ _
 simp only at hej hem hwr hrl hI
 (try dsimp only[aj]);conv=>whnf
 refine And.intro (fun h=>?_) (fun h=>?_)
 ·obtain ⟨k,rfl⟩ : ∃ k,j = k + 1:=⟨j - 1,by omega⟩
  have hek : e = (k : Int):=by omega
  subst hek
  have hjle:=hI.jle
  have YL:=hI.lq
  have hkL : k < L:=by omega
  have hxa:=hwA.getD (i:=k)
  obtain ⟨hS,hst⟩:=hI.step Vh (by omega)
  conv=>whnf
  refine fC 0 rfl (by omega) ?_
  generalize al.getD k 0 = x0 at *
  obtain ⟨x,rfl⟩ : ∃ x : Nat,x0 = x:=⟨x0.toNat,by omega⟩
  rw [Int.toNat_natCast] at hS hst
  have ct:=iD ((x : Int) :: rl) (by simp; omega)
  rw [LM,Int.toNat_natCast] at ct
  generalize hSS : x + 4294967296 * val rl = S at *
  have hSB : S < 4294967296 ^ (n + 1):=by
   have k1 : 4294967296 * V <= 4294967296 * 4294967296 ^ n:=Nat.mul_le_mul_left _ (by omega)
   rw [Nat.pow_succ,Nat.mul_comm]
   omega
  conv=>whnf
  refine .pure (by simp [maxL]; omega) (by simp; omega) ?_
  conv=>whnf
  refine .gen _ _ (aA.fB ct ?_ ⟨rfl,rfl⟩) fun _=>?_
  ·all_goals exact wk
  have cw1:=iQ (wd S) n
  have YM:=iQ (wd S) (n - 1)
  have cwt:=iQ vl (n - 1)
  rw [QJ] at cw1 YM
  rw [hgV] at cwt
  have hhd:=head_eq hn1 hSB
  have hh1 : S / 4294967296 ^ n % 4294967296 < 4294967296:=Nat.mod_lt _ (by omega)
  have hh0 : S / 4294967296 ^ (n - 1) % 4294967296 < 4294967296:=Nat.mod_lt _ (by omega)
  have hge2:=rguess (V:=V) (s:=S) (p:=4294967296 ^ (n - 1)) (Nat.pow_pos (by omega)) CB htopV (by rw [Nat.div_lt_iff_lt_mul Vh]; exact hS)
  generalize S / 4294967296 ^ n % 4294967296 = z1 at *
  generalize S / 4294967296 ^ (n - 1) % 4294967296 = z0 at *
  generalize S / 4294967296 ^ (n - 1) = head at *
  obtain ⟨q,hq⟩ : ∃ q,S / V = q:=⟨_,rfl⟩
  rw [hq] at hge2 hst
  conv=>whnf
  refine .gen _ _ (aA.fB cw1 (ak _) ⟨rfl,rfl⟩) fun _=>?_
  conv=>whnf
  refine ⟨by decide,?_⟩
  rw [qU (by omega)]
  conv=>whnf
  refine zA ?_;conv=>whnf
  rw [show (n : Int) - 1 = ((n - 1 : Nat) : Int) by omega]
  refine .gen _ _ (aA.fB YM (ak _) ⟨rfl,rfl⟩) fun _=>?_
  conv=>whnf
  rw [zo (by omega) (by omega),hhd]
  conv=>whnf
  refine zA ?_;conv=>whnf
  rw [show (n : Int) - 1 = ((n - 1 : Nat) : Int) by omega]
  refine .gen _ _ (aA.fB cwt (ak _) ⟨rfl,rfl⟩) fun _=>?_
  conv=>whnf
  refine ⟨by omega,?_⟩
  rw [Ei]
  conv=>whnf
  have hht : head / top <= head:=Nat.div_le_self _ _
  rw [wrap_u64 (n:=((head / top : Nat) : Int)) (by omega) (by omega)]
  rw [show min ((head / top : Nat) : Int) 4294967295 = ((min (head / top) 4294967295 : Nat) : Int) by omega]
  have hg1 : min (head / top) 4294967295 < 4294967296:=by omega
  generalize min (head / top) 4294967295 = g0 at *
  rw [wrap_u32 (n:=(g0 : Int)) (by omega) (by omega)]
  have cm:=cmul g0 hg1
  rw [hvV,show val [(g0 : Int)] = g0 by simp [val]] at cm
  refine .gen _ _ (aA.fB cm ?_ ⟨rfl,rfl⟩) fun _=>?_
  ·all_goals exact wk
  conv=>whnf
  have hVg : ∀ g,g < 4294967296 -> (wd (V * g)).length <= n + 1:=by
   intro g hg
   refine lT ?_
   rw [Nat.pow_succ]
   exact Nat.mul_lt_mul_of_lt_of_le hV2 (by omega) (by omega)
  have hSl:=lT hSB
  refine aK.of <| aC.inv (.refl _ _) (fun g : Nat=>q <= g /\ g < 4294967296) (fun g=>[(12,.int .u64 g),(13,wL (wd (V * g)))]) (fun _=>[(0,.arr 1 L (Q.map (.int .u32)))])
   (fun g=>g) g0 ?_ (fun _=>rfl) ?_ ?_
  ·exact ⟨hge2,hg1⟩
  ·refine ⟨?_,.refl rfl⟩
   all_goals exact wk
  rintro g ⟨hqg,hgB⟩ _
  have hgl:=hVg g hgB
  have cc:=XR (wd (V * g)) (wd S) (by omega) (by omega)
  rw [bD,bD] at cc
  have hcmp : (0 < oh (V * g) S) ↔ S < V * g:=by
   unfold oh
   split
   ·omega
   ·split <;> omega
  (try dsimp only[aj]);conv=>whnf
  refine .gen _ _ (aA.fB cc (ak _) ⟨rfl,rfl⟩) fun _=>?_
  conv=>whnf
  refine And.intro (fun h=>?_) (fun h=>?_)
  ·have hqg2:=YZ hq (hcmp.1 h)
   have cs:=XP (wd (V * g)) vl (by omega) (by omega) _ rfl
   have hsub : V * g - V = V * (g - 1):=by rw [Nat.mul_sub,Nat.mul_one]
   have hge3 : ¬ V * g < V:=by
    have : V * 1 <= V * g:=Nat.mul_le_mul_left _ (by omega)
    omega
   rw [bD,hvV,if_neg hge3,hsub] at cs
   conv=>whnf
   rw [show ((g : Int) - 1) = ((g - 1 : Nat) : Int) by omega,wrap_u64 (n:=((g - 1 : Nat) : Int)) (by omega) (by omega)]
   conv=>whnf
   refine .gen _ _ (aA.fB cs (ak _) ⟨rfl,rfl⟩) fun _=>?_
   conv=>whnf
   refine ⟨g - 1,?_,?_,?_⟩
   ·exact ⟨by omega,by omega⟩
   ·refine ⟨?_,.refl rfl⟩
    all_goals exact wk
   ·show g - 1 < g
    omega
  have hgq:=YX Vh hq hqg (fun hh=>h (hcmp.2 hh))
  subst hgq
  have cs:=XP (wd S) (wd (V * g)) (by omega) (by omega) _ rfl
  rw [bD,bD,if_neg (fun hh=>h (hcmp.2 hh)),VL hq] at cs
  have hrl2 : (wd (S % V)).length <= n:=lT (Nat.lt_of_lt_of_le (Nat.mod_lt _ Vh) (by omega))
  conv=>whnf
  refine .gen _ _ (aA.fB cs (ak _) ⟨rfl,rfl⟩) fun _=>?_
  conv=>whnf
  rw [wrap_u32 (n:=(g : Int)) (by omega) (by omega)]
  refine ⟨⟨by omega,by omega⟩,?_⟩
  dsimp only [kQ]
  rw [tX]
  dsimp only [jo]
  dsimp only [yJ,fZ]
  conv=>whnf
  refine ⟨by rw [List.length_map,YL]; omega,rfl,?_⟩
  conv=>whnf
  refine zA ?_;conv=>whnf
  refine ⟨((k : Int) - 1,k,wd (S % V),Q.set k (g : Int)),?_,?_,?_⟩
  ·refine ⟨.inl rfl,(by omega : -1000000 <= (k : Int) - 1),mJ _,(by omega : (wd (S % V)).length <= 300001),?_⟩
   show RInv V L al k (val (wd (S % V))) (Q.set k (g : Int))
   rw [bD]
   exact hst
  ·refine ⟨?_,.mk ?_ ⟨by simp,trivial⟩⟩
   ·all_goals exact wk
   ·repeat' first|exact rfl|exact trivial|exact wR|exact lR _|apply aI
    refine aY ?_
    rw [List.map_set]
    simp [strip]
  ·show k < k + 1
   omega
 ·have hj : j = 0:=by omega
  subst hj
  have he:=hI.eq
  have hl:=hI.lt
  have YL:=hI.lq
  simp only [List.drop_zero] at he
  have f1 : val Q = A / V:=by
   rw [<- hvA,he,Nat.add_mul_div_left _ _ Vh,Nat.div_eq_of_lt hl,Nat.zero_add]
  have f2 : val rl = A % V:=by
   rw [<- hvA,he,Nat.add_mul_mod_self_left,Nat.mod_eq_of_lt hl]
  have hcq:=iD Q (by omega)
  rw [f1,hres.1] at hcq
  have hcd:=ZW rl s hs (by omega)
  rw [f2,hres.2] at hcd
  conv=>whnf
  refine .gen _ _ (aA.PU 0 rfl rfl (by simp; omega) (aA.fB hcq ?_ ⟨rfl,rfl⟩)) fun _=>?_
  ·repeat' first|exact rfl|exact trivial|exact wR|exact lR _|apply aI
   refine aY ?_
   simp
   rw [List.take_of_length_le (by simp; omega)]
  conv=>whnf
  refine .gen _ _ (aA.fB hcd (ak _) ⟨rfl,rfl⟩) fun _=>?_
  conv=>whnf
  refine fM ?_;(conv=>whnf);refine ⟨?_,rfl⟩;conv=>whnf
  all_goals exact wk

theorem UY {v w i : Nat} (hv : v < 4294967296 ^ i) (hw : w ≠ 0) : jy (v + 4294967296 ^ i * w) = 32 * i + jy w:=by
 obtain ⟨l,h1,h2,h3⟩:=xw hw
 rw [h1]
 have e:=Q7 i l
 have e2:=Q7 i (l + 1)
 have:=Gn (x:=v + 4294967296 ^ i * w) (l:=32 * i + l) (by
  rw [<- e]
  have : 4294967296 ^ i * 2 ^ l <= 4294967296 ^ i * w:=Nat.mul_le_mul_left _ h2
  omega) (by
  rw [show 32 * i + l + 1 = 32 * i + (l + 1) by omega,<- e2]
  have h4 : 4294967296 ^ i * (w + 1) <= 4294967296 ^ i * 2 ^ (l + 1):=Nat.mul_le_mul_left _ h3
  rw [Nat.mul_add] at h4
  omega)
 rw [this]; omega

theorem ZY (a : List Int) (ha : a.length <= 1000000) : aA Tryz.prog 273 [wL a] [] (.int .i64 (jy (val a))) []:=by
 refine aA.intro lay mixed Tryz.func273 (by kernel_rfl) rfl (by kernel_rfl) rfl fun hok=>?_
 have wa : Ws a:=Ws.ok hok.1.2
 conv=>whnf
 refine ⟨bC (by simp; omega) (by simp; omega),?_⟩
 conv=>whnf
 refine aK.of <| aC.inv (.refl _ _) (fun (n : Nat)=>n <= a.length /\ val (a.drop n) = 0) (fun (n : Nat)=>[(3,.int .i64 ((n : Int) - 1))]) (fun _=>_) (fun (n : Nat)=>n) a.length ?_ (fun _=>rfl) ?_ ?_
 ·exact ⟨Nat.le_refl _,by rw [List.drop_length]; rfl⟩
 ·repeat' first|exact rfl|exact trivial|exact wR|exact lR _|apply aI
  simp
 rintro n ⟨hn,hd⟩ _
 (try dsimp only[aj]);conv=>whnf
 refine And.intro (fun h=>?_) (fun h=>?_)
 ·obtain ⟨i,rfl⟩ : ∃ i,n = i + 1:=⟨n - 1,by omega⟩
  have e1 : (((i + 1 : Nat) : Int) - 1) = (i : Int):=by omega
  rw [e1]
  have hx:=wa.getD (i:=i)
  have hvd:=dh (l:=a) i (by omega)
  have hhd:=kN a i
  have htl:=sH wa i
  conv=>whnf
  refine fC 0 rfl (by omega) ?_
  obtain ⟨x,hxx⟩ : ∃ x : Nat,a.getD i 0 = x:=⟨(a.getD i 0).toNat,by omega⟩
  rw [hxx] at hx hhd ⊢
  rw [hd,Nat.mul_zero,Nat.add_zero,Int.toNat_natCast] at hhd
  rw [hhd] at hvd
  conv=>whnf
  refine And.intro (fun h1=>?_) (fun h1=>?_)
  ·have hb:=tV (x:=x) (n:=32) (by omega)
   conv=>whnf
   refine ⟨bC (by omega) (by omega),?_⟩
   conv=>whnf
   refine fC 0 rfl (by omega) ?_
   rw [hxx]
   conv=>whnf
   refine .pure _ _ ?_ ⟨rfl,rfl⟩ (RY x (by omega)) fun _=>?_
   ·exact ak _
   conv=>whnf
   refine zA ?_;conv=>whnf
   refine fM ?_;(conv=>whnf);refine ⟨?_,rfl⟩;conv=>whnf
   refine ⟨rfl,?_⟩
   rw [hvd,UY htl (by omega)]
   omega
  ·have hx0 : x = 0:=by omega
   conv=>whnf
   refine zA ?_;conv=>whnf
   refine ⟨i,?_,?_,?_⟩
   ·exact ⟨by omega,by rw [hhd,hx0]⟩
   ·all_goals exact wk
   ·omega
 ·have hn0 : n = 0:=by omega
  subst hn0
  rw [List.drop_zero] at hd
  conv=>whnf
  refine fM ?_;(conv=>whnf);refine ⟨?_,rfl⟩;conv=>whnf
  rw [hd]
  exact ⟨rfl,rfl⟩

theorem TQ {p B x y o c C v0 vn w : Nat} (hC : C = c + (x * y + o)) (e : vn + p * o = v0 + p * (C % B)) (h : v0 + p * c = w) : vn + p * B * (C / B) = w + p * (x * y):=by
 have e1 : p * (C % B) + p * B * (C / B) = p * C:=by rw [Nat.mul_assoc,<- Nat.mul_add,Nat.mod_add_div]
 have e2 : p * C = p * c + (p * (x * y) + p * o):=by rw [hC,Nat.mul_add,Nat.mul_add]
 omega

theorem Zd {P Q c vo vn x vb w : Nat} (h : vo + P * c = w + Q * x * vb) (e : vn = vo + P * c) : vn = w + Q * x * vb:=by omega

theorem Gh (a b : List Int) (ha : a.length <= 400000) (hb : b.length <= 400000) : aA Tryz.prog 238 [wL a,wL b] [] (wL (wd (val a * val b))) []:=by
 refine aA.intro lay mixed Tryz.func238 (by kernel_rfl) rfl (by kernel_rfl) rfl fun hok=>?_
 have wa : Ws a:=Ws.ok hok.1.2
 have wb : Ws b:=Ws.ok hok.2.1.2
 conv=>whnf
 refine ⟨bC (by simp; omega) (by simp; omega),?_⟩
 obtain ⟨m,hm⟩ : ∃ m,a.length + b.length = m:=⟨_,rfl⟩
 rw [show (((a.map (AV.int .u32)).length : Nat) : Int) + (((b.map (AV.int .u32)).length : Nat) : Int) = (m : Int) by simp; omega]
 conv=>whnf
 refine ⟨⟨by omega,by omega,by simp; omega,by omega⟩,.wr ?_⟩
 conv=>whnf
 refine aK.of <| aC.inv (.refl _ _) (fun x : Nat × List Int=>x.1 <= a.length /\ Ws x.2 /\ x.2.length = m /\ val x.2 = val (a.take x.1) * val b /\ ∀ k,x.1 + b.length <= k -> x.2.getD k 0 = 0)
  (fun | (i,_)=>[(19,.int .i64 i)]) (fun | (_,out)=>[(0,.arr 1 m (out.map (.int .u32)))])
  (fun x=>a.length - x.1) (0,List.replicate m 0) ?_ (fun _=>rfl) ?_ ?_
 ·refine ⟨Nat.zero_le _,?_,by simp,?_,?_⟩
  ·intro x hx
   rw [(List.mem_replicate.1 hx).2]; omega
  ·rw [kX (fun x hx=>(List.mem_replicate.1 hx).2)]; simp [val]
  ·intro k _
   rw [List.getD_eq_getElem?_getD,List.getElem?_replicate]
   split <;> rfl
 ·refine ⟨?_,.mk ?_ ⟨by simp,trivial⟩⟩
  ·all_goals exact wk
  ·repeat' first|exact rfl|exact trivial|exact wR|exact lR _|apply aI
   all_goals first | (simp; done) | exact aY (by simp)
 rintro ⟨i,out⟩ ⟨hi,hwo,hol,hv,hz⟩ _
 simp only at hi hwo hol hv hz
 (try dsimp only[aj]);conv=>whnf
 refine And.intro (fun h=>?_) (fun h=>?_)
 ·have hlt : i < a.length:=by simpa using h
  have hva:=bP (l:=a) (i:=i)
  have hxa:=wa.getD (i:=i)
  conv=>whnf
  refine fC 0 rfl hlt ?_
  generalize a.getD i 0 = x0 at *
  obtain ⟨x,rfl⟩ : ∃ x : Nat,x0 = x:=⟨x0.toNat,by omega⟩
  rw [Int.toNat_natCast] at hva
  conv=>whnf
  refine aK.of <| aC.inv (.refl _ _) (fun z : Nat × Nat × List Int=>z.1 <= b.length /\ z.2.1 < 4294967296 /\ Ws z.2.2 /\ z.2.2.length = m /\ val z.2.2 + 4294967296 ^ (i + z.1) * z.2.1 = val out + 4294967296 ^ i * x * val (b.take z.1) /\ ∀ k,i + b.length <= k -> z.2.2.getD k 0 = 0)
   (fun | (j,c,_)=>[(26,.int .i64 j),(8,.int .u64 c)]) (fun | (_,_,o)=>[(0,.arr 1 m (o.map (.int .u32)))])
   (fun z=>b.length - z.1) (0,0,out) ?_ (fun _=>rfl) ?_ ?_
  ·exact ⟨Nat.zero_le _,(by omega : 0 < 4294967296),hwo,hol,by simp [val],hz⟩
  ·refine ⟨?_,.mk ?_ ⟨by simp,trivial⟩⟩
   ·all_goals exact wk
   ·all_goals exact wk
  rintro ⟨j,c,o⟩ ⟨hj,hc,Kw,PK,hv2,hz2⟩ _
  simp only at hj hc Kw PK hv2 hz2
  (try dsimp only[aj]);conv=>whnf
  refine And.intro (fun h=>?_) (fun h=>?_)
  ·have hjlt : j < b.length:=by simpa using h
   have hvb:=bP (l:=b) (i:=j)
   have hxb:=wb.getD (i:=j)
   have hoo:=Kw.getD (i:=i + j)
   have hij : i + j < o.length:=by omega
   conv=>whnf
   refine fC 0 rfl hjlt ?_
   generalize b.getD j 0 = y0 at *
   obtain ⟨y,rfl⟩ : ∃ x : Nat,y0 = x:=⟨y0.toNat,by omega⟩
   rw [Int.toNat_natCast] at hvb
   have hxy : x * y <= 4294967295 * 4294967295:=Nat.mul_le_mul (by omega) (by omega)
   conv=>whnf
   rw [wrap_u64 (n:=(x : Int)) (by omega) (by omega),wrap_u64 (n:=(y : Int)) (by omega) (by omega)]
   rw [show ((x : Int) * (y : Int)) = ((x * y : Nat) : Int) from (Int.natCast_mul x y).symm,wrap_u64 (n:=((x * y : Nat) : Int)) (by omega) (by omega)]
   refine zA ?_;conv=>whnf
   refine ⟨⟨by omega,by omega⟩,?_⟩
   conv=>whnf
   refine fC 0 (i:=i + j) (by omega) hij ?_
   refine ⟨rfl,?_⟩
   obtain ⟨ow,how⟩ : ∃ w : Nat,o.getD (i + j) 0 = w:=⟨(o.getD (i + j) 0).toNat,by omega⟩
   rw [how] at hoo ⊢
   conv=>whnf
   rw [wrap_u64 (n:=(ow : Int)) (by omega) (by omega)]
   rw [show (((x * y : Nat) : Int) + (ow : Int)) = ((x * y + ow : Nat) : Int) from (Int.natCast_add (x * y) ow).symm,wrap_u64 (n:=((x * y + ow : Nat) : Int)) (by omega) (by omega)]
   rw [show ((c : Int) + ((x * y + ow : Nat) : Int)) = ((c + (x * y + ow) : Nat) : Int) from (Int.natCast_add c (x * y + ow)).symm,wrap_u64 (n:=((c + (x * y + ow) : Nat) : Int)) (by omega) (by omega)]
   obtain ⟨C,hC⟩ : ∃ C,c + (x * y + ow) = C:=⟨_,rfl⟩
   rw [hC]
   conv=>whnf
   refine zA ?_;conv=>whnf
   rw [dW (a:=C)]
   refine ⟨⟨by omega,by omega⟩,?_⟩
   dsimp only [kQ]
   rw [tX]
   dsimp only [jo]
   dsimp only [yJ,fZ]
   conv=>whnf
   refine ⟨by rw [List.length_map]; omega,rfl,?_⟩
   conv=>whnf
   refine ⟨by decide,?_⟩
   rw [mM rfl]
   conv=>whnf
   refine zA ?_;conv=>whnf
   have hCl : C / 4294967296 < 4294967296:=by omega
   have hset:=sF (x:=((C % 4294967296 : Nat) : Int)) hij
   rw [<- gV (x:=0) hij,how,Int.toNat_natCast,Int.toNat_natCast] at hset
   refine ⟨(j + 1,C / 4294967296,o.set (i + j) ((C % 4294967296 : Nat) : Int)),?_,?_,?_⟩
   ·refine ⟨hjlt,hCl,Kw.set (by omega),by simpa using PK,?_,?_⟩
    ·show val (o.set (i + j) ((C % 4294967296 : Nat) : Int)) + 4294967296 ^ (i + (j + 1)) * (C / 4294967296) = val out + 4294967296 ^ i * x * val (b.take (j + 1))
     rw [<- Nat.add_assoc,Nat.pow_succ,hvb,Nat.mul_add,<- IX (x:=x),<- Nat.pow_add,<- Nat.add_assoc]
     exact TQ (p:=4294967296 ^ (i + j)) (x:=x) (y:=y) (o:=ow) (c:=c) hC.symm hset hv2
    ·intro k hk
     have h1:=hz2 k hk
     show (o.set (i + j) _).getD k 0 = 0
     rw [List.getD_eq_getElem?_getD] at h1 ⊢
     rw [List.getElem?_set_ne (by omega)]
     exact h1
   ·refine ⟨?_,.mk ?_ ⟨by simp,trivial⟩⟩
    ·all_goals exact wk
    ·repeat' first|exact rfl|exact trivial|exact wR|exact lR _|apply aI
     refine aY ?_
     rw [List.map_set,show (0 + ((i : Int) + (j : Int)).toNat) = i + j by omega]
     simp [strip]
   ·show b.length - (j + 1) < b.length - j
    omega
  ·have hjl : j = b.length:=by have : ¬ j < b.length:=by simpa using h
                               omega
   subst hjl
   rw [List.take_length,hv] at hv2
   have hij : i + b.length < o.length:=by omega
   have hset:=sF (x:=(c : Int)) hij
   have h0:=hz2 (i + b.length) (Nat.le_refl _)
   rw [<- gV (x:=0) hij,h0,Int.toNat_natCast] at hset
   rw [show (0 : Int).toNat = 0 from rfl,Nat.mul_zero,Nat.add_zero] at hset
   conv=>whnf
   refine ⟨bC (by simp; omega) (by simp; omega),?_⟩
   rw [show (i : Int) + (((b.map (AV.int .u32)).length : Nat) : Int) = ((i + b.length : Nat) : Int) by simp]
   conv=>whnf
   rw [wrap_u32 (n:=(c : Int)) (by omega) (by omega)]
   refine ⟨⟨by omega,by omega⟩,?_⟩
   dsimp only [kQ]
   rw [tX]
   dsimp only [jo]
   dsimp only [yJ,fZ]
   conv=>whnf
   refine ⟨by rw [List.length_map]; omega,rfl,?_⟩
   conv=>whnf
   refine zA ?_;conv=>whnf
   refine ⟨(i + 1,o.set (i + b.length) (c : Int)),?_,?_,?_⟩
   ·refine ⟨hlt,Kw.set (by omega),by simpa using PK,?_,?_⟩
    ·show val (o.set (i + b.length) (c : Int)) = val (a.take (i + 1)) * val b
     rw [hva,Nat.add_mul]
     exact Zd hv2 hset
    ·intro k hk
     have hk : i + 1 + b.length <= k:=hk
     have h1:=hz2 k (by omega)
     show (o.set (i + b.length) _).getD k 0 = 0
     rw [List.getD_eq_getElem?_getD] at h1 ⊢
     rw [List.getElem?_set_ne (by omega)]
     exact h1
   ·refine ⟨?_,.mk ?_ ⟨by simp,trivial⟩⟩
    ·all_goals exact wk
    ·repeat' first|exact rfl|exact trivial|exact wR|exact lR _|apply aI
     refine aY ?_
     rw [List.map_set]
     simp [strip]
     try rw [show ((i : Int) + (b.length : Int)).toNat = i + b.length by omega]
   ·show a.length - (i + 1) < a.length - i
    omega
 ·have hil : i = a.length:=by have : ¬ i < a.length:=by simpa using h
                              omega
  subst hil
  rw [List.take_length] at hv
  have ct:=kU out (by omega)
  rw [hv] at ct
  conv=>whnf
  refine .gen _ _ (aA.PU 0 rfl rfl (by simp; omega) (aA.fB ct ?_ ⟨rfl,rfl⟩)) fun _=>?_
  ·repeat' first|exact rfl|exact trivial|exact wR|exact lR _|apply aI
   refine aY ?_
   simp
   rw [List.take_of_length_le (by simp; omega)]
  conv=>whnf
  refine fM ?_;(conv=>whnf);refine ⟨?_,rfl⟩;conv=>whnf
  all_goals exact wk

def nS (neg : Bool) (n d : Nat) : Rat:=if n = 0 then ⟨false,[],[]⟩ else ⟨neg,wd (n / Nat.gcd n d),wd (d / Nat.gcd n d)⟩

def aT (r : Rat) : Bool × Nat × Nat:=if valid r = true /\ r.num ≠ [] then (r.neg,val r.num,val r.den) else (false,0,1)

def mulR (a b : Rat) : Rat:=nS (decide ((aT a).1 ≠ (aT b).1)) ((aT a).2.1 * (aT b).2.1) ((aT a).2.2 * (aT b).2.2)

theorem jg {x y k l : Nat} (hx : (wd x).length <= k) (hy : (wd y).length <= l) : (wd (x * y)).length <= k + l:=by
 refine lT ?_
 have h1:=fF (mJ x)
 have h2:=fF (mJ y)
 rw [bD] at h1 h2
 have h3 : 4294967296 ^ (wd x).length <= 4294967296 ^ k:=Nat.pow_le_pow_right (by omega) hx
 have h4 : 4294967296 ^ (wd y).length <= 4294967296 ^ l:=Nat.pow_le_pow_right (by omega) hy
 rw [Nat.pow_add]
 exact Nat.mul_lt_mul_of_lt_of_le (by omega) (by omega) (by omega)

theorem rM {x : Nat} : jy x = 0 ↔ x = 0:=by
 unfold jy
 split
 ·simp [*]
 ·simp [*]

theorem BF (neg : Bool) (n d : Nat) (hn : (wd n).length <= 900000) (hd : (wd d).length <= 900000) (_ : d ≠ 0) : aA Tryz.prog 239 [.bool neg,wL (wd n),wL (wd d)] [] (nS neg n d).av []:=by
 have cb:=ZY (wd n) (by omega)
 rw [bD] at cb
 by_cases hz : n = 0
 ·have hb : jy n = 0:=rM.2 hz
  rw [hb] at cb
  rw [show nS neg n d = ⟨false,[],[]⟩ from if_pos hz]
  refine aA.intro lay mixed Tryz.func239 (by kernel_rfl) rfl (by kernel_rfl) rfl fun hok=>?_
  conv=>whnf
  refine .pure _ _ ?_ ⟨rfl,rfl⟩ cb fun _=>?_
  ·exact ak _
  conv=>whnf
  refine And.intro (fun _=>?_) (fun h=>absurd rfl h)
  conv=>whnf
  refine fM ?_;(conv=>whnf);refine ⟨?_,rfl⟩;conv=>whnf
  all_goals exact wk
 have hb : jy n ≠ 0:=fun h=>hz (rM.1 h)
 have hg0 : Nat.gcd n d ≠ 0:=by
  have:=Nat.gcd_pos_of_pos_left d (show 0 < n by omega)
  omega
 have hgn : Nat.gcd n d <= n:=Nat.gcd_le_left d (by omega)
 have hgl:=dX hgn
 have cg:=c_Gcd (wd n) (wd d) (by omega) (by omega) fun x y hy hx hy'=>by
  rw [bD,bD] at hx hy'
  have k : ∀ z,z <= max n d -> (wd z).length <= 900000:=by
   intro z hz
   rcases Nat.le_total n d with hab | hab
   ·rw [Nat.max_eq_right hab] at hz; have:=dX hz; omega
   ·rw [Nat.max_eq_left hab] at hz; have:=dX hz; omega
  have k1:=k x hx
  have k2:=k y hy'
  exact divC x y (by omega) (by omega) hy
 rw [bD,bD] at cg
 have d1:=divC n (Nat.gcd n d) (by omega) (by omega) hg0
 have d2:=divC d (Nat.gcd n d) (by omega) (by omega) hg0
 unfold OI at d1 d2
 rw [show nS neg n d = ⟨neg,wd (n / Nat.gcd n d),wd (d / Nat.gcd n d)⟩ from if_neg hz]
 generalize Nat.gcd n d = g at *
 refine aA.intro lay mixed Tryz.func239 (by kernel_rfl) rfl (by kernel_rfl) rfl fun hok=>?_
 conv=>whnf
 refine .pure _ _ ?_ ⟨rfl,rfl⟩ cb fun _=>?_
 ·exact ak _
 conv=>whnf
 refine And.intro (fun h=>by exfalso; omega) (fun _=>?_)
 conv=>whnf
 refine .pure _ _ ?_ ⟨rfl,rfl⟩ cg fun _=>?_
 ·exact ak _
 conv=>whnf
 refine .pure _ _ ?_ ⟨rfl,rfl⟩ d1 fun _=>?_
 ·exact ak _
 conv=>whnf
 refine .pure _ _ ?_ ⟨rfl,rfl⟩ d2 fun _=>?_
 ·exact ak _
 conv=>whnf
 refine fM ?_;(conv=>whnf);refine ⟨?_,rfl⟩;conv=>whnf
 all_goals exact wk

theorem qW {l : List Int} (h : lI l = true) (hw : Ws l) : wd (val l) = l /\ val l ≠ 0:=by
 simp only [lI,Bool.and_eq_true,decide_eq_true_eq] at h
 have e:=OU hw (.inr h.2)
 refine ⟨e,fun h0=>h.1 ?_⟩
 rw [h0,iC] at e
 exact e.symm

structure PartsOk (r : Rat) : Prop where
 den : (aT r).2.2 ≠ 0
 ln : (wd (aT r).2.1).length <= 400000
 ld : (wd (aT r).2.2).length <= 400000
 eq : (if valid r = true /\ r.num ≠ [] then AV.eG [.bool r.neg,wL r.num,wL r.den] else .eG [.bool false,wL [],wL [1]]) = .eG [.bool (aT r).1,wL (wd (aT r).2.1),wL (wd (aT r).2.2)]

theorem zl {r : Rat} (w1 : Ws r.num) (w2 : Ws r.den) (l1 : r.num.length <= 400000) (l2 : r.den.length <= 400000) : PartsOk r:=by
 by_cases h : valid r = true /\ r.num ≠ []
 ·have hp : aT r = (r.neg,val r.num,val r.den):=if_pos h
  obtain ⟨h1,h2⟩:=h
  have h1':=h1
  unfold valid at h1
  rw [if_neg (fun h=>h2 h.1)] at h1
  simp only [Bool.and_eq_true] at h1
  obtain ⟨e1,_⟩:=qW h1.1.1 w1
  obtain ⟨e2,n2⟩:=qW h1.1.2 w2
  refine ⟨?_,?_,?_,?_⟩
  ·rw [hp]; exact n2
  ·rw [hp,show wd (r.neg,val r.num,val r.den).2.1 = r.num from e1]; exact l1
  ·rw [hp,show wd (r.neg,val r.num,val r.den).2.2 = r.den from e2]; exact l2
  ·rw [if_pos ⟨h1',h2⟩,hp,show wd (r.neg,val r.num,val r.den).2.1 = r.num from e1,show wd (r.neg,val r.num,val r.den).2.2 = r.den from e2]
 ·have hp : aT r = (false,0,1):=if_neg h
  have e1 : wd 1 = [1]:=oM (by omega) (by omega)
  refine ⟨?_,?_,?_,?_⟩
  ·rw [hp]; decide
  ·rw [hp,show wd ((false,0,1) : Bool × Nat × Nat).2.1 = [] from iC]; simp
  ·rw [hp,show wd ((false,0,1) : Bool × Nat × Nat).2.2 = [1] from e1]; simp
  ·rw [if_neg h,hp,show wd ((false,0,1) : Bool × Nat × Nat).2.1 = [] from iC,show wd ((false,0,1) : Bool × Nat × Nat).2.2 = [1] from e1]

theorem nP {r : Rat} {l : List AV} (h : yR (r.av :: l)) : Ws r.num /\ Ws r.den:=⟨Ws.ok h.1.2.1.2,Ws.ok h.1.2.2.1.2⟩

theorem X3 (a b : Rat) (a1 : a.num.length <= 400000) (a2 : a.den.length <= 400000) (b1 : b.num.length <= 400000) (b2 : b.den.length <= 400000) : aA Tryz.prog 272 [a.av,b.av] [] (mulR a b).av []:=by
 have ca:=xk a (Ba a (by omega) (by omega)).v
 have cb:=xk b (Ba b (by omega) (by omega)).v
 refine aA.intro lay mixed Tryz.func272 (by kernel_rfl) rfl (by kernel_rfl) rfl fun hok=>?_
 have pa:=zl (nP hok).1 (nP hok).2 a1 a2
 have pb:=zl (nP hok.2).1 (nP hok.2).2 b1 b2
 rw [pa.eq] at ca
 rw [pb.eq] at cb
 have hm : mulR a b = nS (decide ((aT a).1 ≠ (aT b).1)) ((aT a).2.1 * (aT b).2.1) ((aT a).2.2 * (aT b).2.2):=rfl
 have m1:=Gh (wd (aT a).2.1) (wd (aT b).2.1) pa.ln pb.ln
 have m2:=Gh (wd (aT a).2.2) (wd (aT b).2.2) pa.ld pb.ld
 rw [bD,bD] at m1 m2
 have l1:=jg pa.ln pb.ln
 have l2:=jg pa.ld pb.ld
 have hne : (aT a).2.2 * (aT b).2.2 ≠ 0:=Nat.mul_ne_zero pa.den pb.den
 have cf:=BF (decide ((aT a).1 ≠ (aT b).1)) ((aT a).2.1 * (aT b).2.1) ((aT a).2.2 * (aT b).2.2) (by omega) (by omega) hne
 rw [<- hm] at cf
 generalize mulR a b = R at *
 clear hm
 generalize (aT a).2.1 * (aT b).2.1 = n at *
 generalize (aT a).2.2 * (aT b).2.2 = d at *
 conv=>whnf
 refine .pure _ _ ?_ ⟨rfl,rfl⟩ ca fun _=>?_
 ·exact ak _
 conv=>whnf
 refine .pure _ _ ?_ ⟨rfl,rfl⟩ cb fun _=>?_
 ·exact ak _
 conv=>whnf
 refine .pure _ _ ?_ ⟨rfl,rfl⟩ m1 fun _=>?_
 ·exact ak _
 conv=>whnf
 refine .pure _ _ ?_ ⟨rfl,rfl⟩ m2 fun _=>?_
 ·exact ak _
 conv=>whnf
 refine .pure _ _ ?_ ⟨rfl,rfl⟩ cf fun _=>?_
 ·refine ⟨?_,fG _,fG _,trivial⟩
  show _ ↔ _
  simp
 conv=>whnf
 refine fM ?_;(conv=>whnf);refine ⟨?_,rfl⟩;conv=>whnf
 all_goals exact wk


theorem c_rGcd (a b : List Int) (ha : a.length <= 300000) (hb : b.length <= 300000) : aA Tryz.prog 153 [wL a,wL b] [] (wL (wd (Nat.gcd (val a) (val b)))) []:=by
 refine aA.intro lay mixed Tryz.func153 (by kernel_rfl) rfl (by kernel_rfl) rfl fun hok=>?_
 have wa : Ws a:=Ws.ok hok.1.2
 have wb : Ws b:=Ws.ok hok.2.1.2
 have la:=iY wa
 have lb:=iY wb
 conv=>whnf
 refine .pure _ _ ?_ ⟨rfl,rfl⟩ (iD a (by omega)) fun _=>?_
 ·exact ak _
 conv=>whnf
 refine .pure _ _ ?_ ⟨rfl,rfl⟩ (iD b (by omega)) fun _=>?_
 ·exact ak _
 conv=>whnf
 refine aK.of <| aC.inv (.refl _ _) (fun (x : Nat × Nat)=>(wd x.1).length <= 300000 /\ (wd x.2).length <= 300000 /\ Nat.gcd x.1 x.2 = Nat.gcd (val a) (val b)) (fun (x : Nat × Nat)=>[(0,wL (wd x.1)),(1,wL (wd x.2))]) (fun _=>_) (fun (x : Nat × Nat)=>x.2) (val a,val b) ?_ (fun _=>rfl) ?_ ?_
 ·exact ⟨(by omega : (wd (val a)).length <= 300000),(by omega : (wd (val b)).length <= 300000),rfl⟩
 ·all_goals exact wk
 rintro ⟨x,y⟩ ⟨h1,h2,h3⟩ _
 simp only at h1 h2 h3
 (try dsimp only[aj]);conv=>whnf
 refine And.intro (fun h=>?_) (fun h=>?_)
 ·have h0 : y ≠ 0:=by
   intro e; subst e
   simp [iC] at h
  have cd:=Qh (wd x) (wd y) h1 h2 (by rw [bD]; exact h0)
  rw [bD,bD] at cd
  have hm : x % y < y:=Nat.mod_lt _ (by omega)
  have hml:=dX (Nat.le_of_lt hm)
  conv=>whnf
  refine .pure _ _ ?_ ⟨rfl,rfl⟩ cd fun _=>?_
  ·exact ak _
  conv=>whnf
  refine ⟨(y,x % y),?_,?_,?_⟩
  ·refine ⟨h2,(by omega : (wd (x % y)).length <= 300000),?_⟩
   show Nat.gcd y (x % y) = _
   rw [<- h3,Nat.gcd_comm x y,Nat.gcd_rec y x]
   try exact Nat.gcd_comm _ _
  ·all_goals exact wk
  ·show x % y < y
   exact hm
 ·have h0 : y = 0:=by
   apply Classical.byContradiction
   intro hy
   apply h
   show (0 : Int) < ((wd y).map _).length
   rw [kM hy]; simp
  subst h0
  conv=>whnf
  refine fM ?_;(conv=>whnf);refine ⟨?_,rfl⟩;conv=>whnf
  refine ⟨rfl,aY ?_⟩
  rw [<- h3,Nat.gcd_zero_right]


abbrev Str:=List UInt8
structure Ev where
 name : Str
 p : Rat
 fail : Rat
 repair : Rat
 cost : Int
 deriving DecidableEq,Inhabited

structure Hs where
 name : Str
 on : Bool
 deriving DecidableEq,Inhabited

structure Mg where
 name : Str
 kind : Int
 k : Int
 ins : List Str
 Uk : Rat
 deriving DecidableEq,Inhabited

structure Pg where
 name : Str
 top : Str
 gates : List Mg
 deriving DecidableEq,Inhabited

structure Gr where
 name : Str
 kind : Int
 mem : List Str
 fac : List Rat
 deriving DecidableEq,Inhabited

structure Pv where
 ev : Str
 p : Rat
 deriving DecidableEq,Inhabited

structure Ph where
 name : Str
 top : Str
 vals : List Pv
 deriving DecidableEq,Inhabited

structure Md where
 name : Str
 top : Str
 evs : List Ev
 hs : List Hs
 gates : List Mg
 pages : List Pg
 Zq : List Gr
 Y3 : List Ph
 deriving DecidableEq,Inhabited

def Rt (n : Int) : Bool:=decide (65 <= n /\ n <= 90) || decide (97 <= n /\ n <= 122)
def digitN (n : Int) : Bool:=decide (48 <= n /\ n <= 57)
def inN (n : Int) : Bool:=Rt n || digitN n || decide (n = 95) || decide (n = 46)

def Cj (s : Str) : Bool:=decide (0 < s.length) && decide (s.length <= 24) && Rt (s.getD 0 0).toNat && s.all fun c=>inN c.toNat


def lJ (l : List Ev) (s : Str) : Int:=yA (fun x=>decide (x.name = s)) l

def wQ (l : List Hs) (s : Str) : Int:=yA (fun x=>decide (x.name = s)) l

def Bl (l : List Pg) (s : Str) : Int:=yA (fun x=>decide (x.name = s)) l

def Fg (l : List Mg) (s : Str) : Int:=yA (fun x=>decide (x.name = s)) l

def kS (m : Md) (at_ : Int) : List Mg:=if at_ = -1 then m.gates else (m.pages.getD at_.toNat default).gates

def rateB (x : Rat) : Bool:=valid x && decide (0 <= sign x)

def atS (s : Str) : Bool:=decide (0 < s.length) && decide (((s.getD 0 0).toNat : Int) = 64)

def WT (m : Md) (a : Int) (s : Str) : Bool:=if atS s = true then decide (0 <= Bl m.pages (s.drop 1)) else
 decide (0 <= lJ m.evs s) || decide (0 <= wQ m.hs s) || decide (0 <= Fg (kS m a) s)


def KA {α : Type} (f : Nat -> α -> Int) : Nat -> List α -> Int
 | _,[]=>0
 | i,x :: l=>if f i x ≠ 0 then f i x else KA f (i + 1) l

def mgC (l : List Mg) : Prop:=∀ x ∈ l,Au x.Uk

structure MdC (m : Md) : Prop where
 evs : ∀ x ∈ m.evs,Au x.p /\ Au x.fail /\ Au x.repair
 gates : mgC m.gates
 pages : ∀ x ∈ m.pages,mgC x.gates
 Zq : ∀ x ∈ m.Zq,∀ f ∈ x.fac,Au f
 Y3 : ∀ x ∈ m.Y3,∀ v ∈ x.vals,Au v.p

def evErr (m : Md) (i : Nat) (x : Ev) : Int :=
 if Cj x.name = false then 5 else if lJ m.evs x.name < i then 6
 else if xC x.p = false then 3 else if rateB x.fail = false then 3 else if rateB x.repair = false then 3 else if x.cost < 0 then 3 else if 1073741824 < x.cost then 3 else 0

def hsErr (m : Md) (i : Nat) (x : Hs) : Int :=
 if Cj x.name = false then 5 else if 0 <= lJ m.evs x.name then 6 else if wQ m.hs x.name < i then 6 else 0

def Ug (m : Md) : Int :=
 if 24 < m.evs.length then 4 else if KA (evErr m) 0 m.evs ≠ 0 then KA (evErr m) 0 m.evs
 else if 16 < m.hs.length then 4 else KA (hsErr m) 0 m.hs


structure MdB (m : Md) : Prop where
 evs : m.evs.length <= 60
 hs : m.hs.length <= 60
 gates : m.gates.length <= 100 /\ ∀ x ∈ m.gates,x.ins.length <= 40
 pages : m.pages.length <= 30
 pgates : ∀ p ∈ m.pages,p.gates.length <= 100 /\ ∀ x ∈ p.gates,x.ins.length <= 40
 Zq : m.Zq.length <= 30
 mem : ∀ g ∈ m.Zq,g.mem.length <= 60 /\ g.fac.length <= 60
 Y3 : m.Y3.length <= 30
 vals : ∀ p ∈ m.Y3,p.vals.length <= 60

def totalM (m : Md) : Nat:=m.pages.foldl (fun n x=>n + x.gates.length) m.gates.length

def pgErr (m : Md) (i : Nat) (x : Pg) : Int:=if Cj x.name = false then 5 else if Bl m.pages x.name < i then 6 else 0

def VW (m : Md) : Int:=if 8 < m.pages.length then 4 else if 64 < totalM m then 4 else KA (pgErr m) 0 m.pages

def mgErr (g : Mg) : Int :=
 if g.kind < 0 then 7 else if 8 < g.kind then 7
 else if argsR g.kind g.ins.length = false then 11
 else if g.kind = 2 /\ (g.k < 1 \/ (g.ins.length : Int) < g.k) then 3
 else if g.kind ≠ 2 /\ g.k ≠ 0 then 2
 else if g.kind = 7 /\ xC g.Uk = false then 3
 else if g.kind ≠ 7 /\ zeroR g.Uk = false then 2
 else 0

def Xi (m : Md) (a : Int) (i : Nat) (x : Mg) : Int :=
 if Cj x.name = false then 5 else if 0 <= lJ m.evs x.name then 6 else if 0 <= wQ m.hs x.name then 6 else if Fg (kS m a) x.name < i then 6 else mgErr x

def mustEv (g : Mg) (k : Int) : Bool:=decide (g.kind = 7) || (decide (g.kind = 8) && decide (0 < k))


def Fe (m : Md) (a : Int) (g : Mg) : Nat -> List Str -> List Str -> Int × List Str
 | _,[],sp=>(0,sp)
 | k,s :: l,sp=>if WT m a s = false then (5,[]) else if mustEv g k = true /\ lJ m.evs s < 0 then (7,[])
   else if g.kind = 7 then (if (sp.any fun y=>decide (s = y)) = true then (6,[]) else Fe m a g (k + 1) l (sp ++ [s])) else Fe m a g (k + 1) l sp

def zL (m : Md) (a : Int) : List Mg -> List Str -> Int × List Str
 | [],sp=>(0,sp)
 | g :: l,sp=>if (Fe m a g 0 g.ins sp).1 ≠ 0 then Fe m a g 0 g.ins sp else zL m a l (Fe m a g 0 g.ins sp).2

def JM (m : Md) (a : Int) : Str:=(m.pages.getD a.toNat default).top

def JO (m : Md) (a : Int) (sp : List Str) : Int × List Str :=
 if (zL m a (kS m a) sp).1 ≠ 0 then zL m a (kS m a) sp
 else if a ≠ -1 /\ Fg (kS m a) (JM m a) < 0 /\ lJ m.evs (JM m a) < 0 then (5,[]) else zL m a (kS m a) sp


theorem UK (l : List Rat) (g : Nat) (cap : List AV) (p : Rat -> Bool) (H : Heap) (hg : ∀ x ∈ l,aA Tryz.prog g (x.av :: cap) H (.bool (p x)) H) :
  aA Tryz.prog 235 [.sl 3 (l.map Rat.av) .no,.fn g cap] H (.int .i64 (yA p l)) H:=by
 refine aA.intro lay mixed Tryz.func235 (by kernel_rfl) rfl (by kernel_rfl) rfl fun hok=>?_
 have hl : l.length <= 9223372036854775807:=by have:=hok.1.1; simpa [maxL] using this
 (try dsimp only[aZ,aN]);(try dsimp only[aj]);conv=>whnf
 refine aK.of <| aC.inv (.refl _ _) (fun (i : Nat)=>i <= l.length /\ ∀ (j : Nat) (hj : j < l.length),j < i -> p l[j] = false) (fun (i : Nat)=>[(8,.int .i64 i)]) (fun _=>_) (fun (i : Nat)=>l.length - i) 0 ?_ (fun _=>rfl) ?_ ?_
 ·exact ⟨Nat.zero_le _,by omega⟩
 ·all_goals exact wk
 rintro i ⟨hi,hn⟩ _
 (try dsimp only[aj]);conv=>whnf
 refine And.intro (fun h=>?_) (fun h=>?_)
 ·have hlt : i < l.length:=by simpa using h
  (try dsimp only[aj]);conv=>whnf
  refine jq hlt ?_
  (try dsimp only[aj]);conv=>whnf
  refine .gen _ _ (hg _ (List.getElem_mem hlt)) fun _=>?_
  (try dsimp only[aj]);conv=>whnf
  refine And.intro (fun h=>?_) (fun h=>?_)
  ·(try dsimp only[aj]);conv=>whnf
   (refine lN.same ?_;(conv=>whnf);refine ⟨?_,rfl⟩;(conv=>whnf))
   exact ⟨rfl,(TW hlt h fun j hj=>hn j (by omega) hj).symm⟩
  ·(try dsimp only[aj]);conv=>whnf
   refine zA ?_;conv=>whnf
   refine ⟨i + 1,?_,?_,?_⟩
   ·refine ⟨hlt,fun j hj hji=>?_⟩
    by_cases hji' : j = i
    ·subst hji'; exact h
    ·exact hn j hj (by omega)
   ·all_goals exact wk
   ·omega
 ·have hlt : i = l.length:=by have : ¬ i < l.length:=by simpa using h
                              omega
  subst hlt
  (try dsimp only[aj]);conv=>whnf
  (refine lN.same ?_;(conv=>whnf);refine ⟨?_,rfl⟩;(conv=>whnf))
  exact ⟨rfl,(TY fun j hj=>hn j hj hj).symm⟩

theorem Ij (l : List Rat) (g : Nat) (cap : List AV) (p : Rat -> Bool) (H : Heap) (hg : ∀ x ∈ l,aA Tryz.prog g (x.av :: cap) H (.bool (p x)) H) :
  aA Tryz.prog 141 [.sl 3 (l.map Rat.av) .no,.fn g cap] H (.bool (l.any p)) H:=by
 refine aA.intro lay mixed Tryz.func141 (by kernel_rfl) rfl (by kernel_rfl) rfl fun hok=>?_
 (try dsimp only[aZ,aN]);(try dsimp only[aj]);conv=>whnf
 refine .gen _ _ (UK l g cap p H hg) fun _=>?_
 (try dsimp only[aj]);conv=>whnf
 (refine lN.same ?_;(conv=>whnf);refine ⟨?_,rfl⟩;(conv=>whnf))
 exact MX _ l

def J3 (m : Md) : List Str -> List Str -> Int × List Str
 | [],sp=>(0,sp)
 | s :: l,sp=>if lJ m.evs s < 0 then (5,[]) else if (sp.any fun y=>decide (s = y)) = true then (6,[]) else J3 m l (sp ++ [s])

def Xh (m : Md) (i : Nat) (x : Gr) (sp : List Str) : Int × List Str :=
 if Cj x.name = false then (5,[]) else if yA (fun y=>decide (y.name = x.name)) m.Zq < i then (6,[])
 else if x.kind ≠ 0 /\ x.kind ≠ 1 then (7,[])
 else if x.mem.length < 2 then (11,[]) else if (if x.kind = 1 then (4 : Int) else 24) < x.mem.length then (11,[])
 else if (x.fac.length : Int) ≠ (if x.kind = 1 then (x.mem.length : Int) - 1 else 1) then (11,[])
 else if (J3 m x.mem sp).1 ≠ 0 then J3 m x.mem sp else if (x.fac.any fun f=>!xC f) = true then (3,[]) else J3 m x.mem sp

def Xg (m : Md) : Nat -> List Gr -> List Str -> Int
 | _,[],_=>0
 | i,x :: l,sp=>if (Xh m i x sp).1 ≠ 0 then (Xh m i x sp).1 else Xg m (i + 1) l (Xh m i x sp).2

def Ua (m : Md) : Int:=if 8 < m.Zq.length then 4 else Xg m 0 m.Zq []


def pvErr (m : Md) (x : Ph) (k : Nat) (v : Pv) : Int :=
 if lJ m.evs v.ev < 0 then 5 else if yA (fun y=>decide (y.ev = v.ev)) x.vals < k then 6 else if xC v.p = false then 3 else 0

def phErr (m : Md) (i : Nat) (x : Ph) : Int :=
 if Cj x.name = false then 5 else if yA (fun y=>decide (y.name = x.name)) m.Y3 < i then 6
 else if WT m (-1) x.top = false then 5 else KA (pvErr m x) 0 x.vals

def TA (m : Md) : Int:=if 6 < m.Y3.length then 4 else KA (phErr m) 0 m.Y3


abbrev Node:=Int × Int × Int
abbrev Rj (x : Node) : AV:=.ag [.int .i64 x.1,.int .i64 x.2.1,.int .i64 x.2.2]

def resOn (m : Md) (a : Int) (s : Str) : Node :=
 if 0 <= lJ m.evs s then (0,0,lJ m.evs s) else if 0 <= wQ m.hs s then (1,0,wQ m.hs s) else (2,a,Fg (kS m a) s)

def resR (m : Md) (a : Int) (s : Str) : Node :=
 if atS s = true then resOn m (Bl m.pages (s.drop 1)) (JM m (Bl m.pages (s.drop 1))) else resOn m a s


abbrev Marks:=List (Node × Int)

def look : Marks -> Node -> Int
 | [],_=>0
 | (y,v) :: es,x=>if y = x then v else look es x

def mark : Marks -> Node -> Int -> Marks
 | [],x,v=>[(x,v)]
 | (y,u) :: es,x,v=>if y = x then (x,v) :: es else (y,u) :: mark es x v

abbrev jQ (es : Marks) : List (AV × AV):=es.map fun e=>(Rj e.1,.int .i64 e.2)

theorem WO {x y : Node} : Hw (Rj x) = Hw (Rj y) ↔ x = y:=by
 obtain ⟨a,b,c⟩:=x
 obtain ⟨d,e,f⟩:=y
 simp [Hw,Zl]

theorem upd_es {es : Marks} {x : Node} {v : Int} : UpdR (jQ es) (Rj x) (.int .i64 v) (jQ (mark es x v)):=by
 induction es with
 | nil=>exact .inl ⟨by simp [jQ],rfl⟩
 | cons e es ih =>
   obtain ⟨y,u⟩:=e
   by_cases hy : y = x
   ·subst hy
    exact .inr ⟨0,(Rj y,.int .i64 u),rfl,rfl,by simp [mark,jQ]⟩
   ·simp only [mark,if_neg hy]
    rcases ih with ⟨h1,h2⟩ | ⟨j,z,h1,h2,h3⟩
    ·refine .inl ⟨?_,?_⟩
     ·intro z hz
      simp only [jQ,List.map_cons,List.mem_cons] at hz
      rcases hz with rfl | hz
      ·exact fun e=>hy (WO.1 e)
      ·exact h1 z hz
     ·simp only [jQ,List.map_cons,List.cons_append] at h2 ⊢
      rw [h2]
    ·refine .inr ⟨j + 1,z,by simpa [jQ] using h1,h2,?_⟩
     simp only [jQ,List.map_cons,List.set_cons_succ] at h3 ⊢
     rw [h3]

theorem KR {es : Marks} {x : Node} {v : Int} {k : List (AV × AV) -> Prop} (h : k (jQ (mark es x v))) : Vb (jQ es) (Rj x) (.int .i64 v) k:=⟨_,upd_es,h⟩

structure WS (σ : Type) where
 es : Marks
 st : σ

def IZ {σ : Type} (f : Node -> WS σ -> Bool × WS σ) : List Node -> WS σ -> Bool × WS σ
 | [],s=>(false,s)
 | y :: l,s=>if (f y s).1 = true then f y s else IZ f l (f y s).2

def LK {σ : Type} (kids : Node -> List Node) (step : σ -> Node -> σ) : Nat -> Node -> WS σ -> Bool × WS σ
 | 0,_,s=>(false,s)
 | n + 1,x,s =>
   if x.1 ≠ 2 then (false,⟨s.es,step s.st x⟩)
   else if look s.es x = 1 then (true,s)
   else if look s.es x = 2 then (false,s)
   else if (IZ (LK kids step n) (kids x) ⟨mark s.es x 1,step s.st x⟩).1 = true then IZ (LK kids step n) (kids x) ⟨mark s.es x 1,step s.st x⟩
   else (false,⟨mark (IZ (LK kids step n) (kids x) ⟨mark s.es x 1,step s.st x⟩).2.es x 2,(IZ (LK kids step n) (kids x) ⟨mark s.es x 1,step s.st x⟩).2.st⟩)

def isM (es : Marks) (x : Node) : Bool:=decide (look es x = 1) || decide (look es x = 2)

def free (all : List Node) (es : Marks) : Nat:=(all.filter fun x=>!isM es x).length


abbrev IE : AV:=.ag [.int .i64 0,.int .i64 0,.int .i64 0]

def PS (m : Md) (x : Node) : Mg:=(kS m x.2.1).getD x.2.2.toNat default
def kidsM (m : Md) (x : Node) : List Node:=(PS m x).ins.map (resR m x.2.1)

structure NodeOk (m : Md) (all : List Node) (ok : Node -> Prop) (x : Node) : Prop where
 page : x.2.1 = -1 \/ (0 <= x.2.1 /\ x.2.1 < (m.pages.length : Int))
 idx : 0 <= x.2.2 /\ x.2.2 < ((kS m x.2.1).length : Int)
 mem : x ∈ all
 len : (PS m x).ins.length <= 40
 ins : ∀ s ∈ (PS m x).ins,0 < s.length /\ (atS s = true -> 0 <= Bl m.pages (s.drop 1)) /\ ok (resR m x.2.1 s)

theorem aF (n : Nat) : ∀ es : Marks,oq n (jQ es) = true
 | []=>rfl
 | _ :: es=>by
   show (match true,true with | true,true=>oq n (jQ es) | _,_=>false) = true
   exact aF n es

theorem qG (f : Nat -> Nat) : ∀ es : Marks,MC f (jQ es) = jQ es
 | []=>rfl
 | _ :: es=>by
   show _ :: MC f (jQ es) = _ :: jQ es
   rw [qG f es]; rfl

theorem Bf (f : Nat -> Nat) (es : Marks) : Vg (jQ es) (MC f (jQ es)):=by rw [qG]; exact aJ _

def atsM (m : Md) : List Int:=(List.range (m.pages.length + 1)).map fun (k : Nat)=>(k : Int) - 1
def Za (m : Md) (a : Int) : List Node:=(List.range (kS m a).length).map fun (i : Nat)=>((2 : Int),a,(i : Int))
def Gz (m : Md) : List Node:=(atsM m).flatMap (Za m)

def okN (m : Md) (x : Node) : Prop :=
 (x.1 = 0 /\ x.2.1 = 0 /\ 0 <= x.2.2 /\ x.2.2 < (m.evs.length : Int)) \/ (x.1 = 1 /\ x.2.1 = 0 /\ 0 <= x.2.2 /\ x.2.2 < (m.hs.length : Int)) \/ x ∈ Gz m

def fuelM (m : Md) : Nat:=(Gz m).length + 1

abbrev walk0 (m : Md) : Node -> WS Unit -> Bool × WS Unit:=LK (kidsM m) (fun _ _=>()) (fuelM m)

def cycR (m : Md) : Bool:=(IZ (walk0 m) (Gz m) ⟨[],()⟩).1


section
variable {σ : Type} (kids : Node -> List Node) (step : σ -> Node -> σ) (V : σ -> Node -> Prop)

structure Inv (s : WS σ) : Prop where
 rank : ∃ rank : Node -> Nat,∀ x,look s.es x = 2 -> ∀ y ∈ kids x,y.1 = 2 -> look s.es y = 2 /\ rank y < rank x
 met : ∀ x,look s.es x = 2 -> V s.st x /\ ∀ y ∈ kids x,y.1 ≠ 2 -> V s.st y

structure On (s s' : WS σ) : Prop where
 one : ∀ y,look s'.es y = 1 ↔ look s.es y = 1
 two : ∀ y,look s.es y = 2 -> look s'.es y = 2
 met : ∀ y,V s.st y -> V s'.st y

structure After (x : Node) (s s' : WS σ) : Prop where
 inv : Inv kids V s'
 on : On V s s'
 done : x.1 = 2 -> look s'.es x = 2
 leaf : x.1 ≠ 2 -> V s'.st x

variable {kids step V}

end


def Np (m : Md) : Int:=KA (fun _ a=>KA (Xi m a) 0 (kS m a)) 0 (atsM m)

def WW (m : Md) : List Int -> List Str -> Int
 | [],_=>0
 | a :: l,sp=>if (JO m a sp).1 ≠ 0 then (JO m a sp).1 else WW m l (JO m a sp).2

structure InOk (m : Md) (a : Int) (s : Str) : Prop where
 pos : 0 < s.length
 pg : atS s = true -> 0 <= Bl m.pages (s.drop 1)
 ok : okN m (resR m a s)


structure MOk (m : Md) : Prop where
 name : Cj m.name = true
 evs : Ug m = 0
 pages : VW m = 0
 gates : Np m = 0
 ins : WW m (atsM m) [] = 0
 top : WT m (-1) m.top = true
 Zq : Ua m = 0
 Y3 : TA m = 0
 cyc : cycR m = false



structure GateOk (m : Md) (a : Int) (k : Nat) (x : Mg) : Prop where
 name : Cj x.name = true
 noEv : lJ m.evs x.name < 0
 noHs : wQ m.hs x.name < 0
 first : (k : Int) <= Fg (kS m a) x.name
 own : mgErr x = 0

structure Local (m : Md) (a : Int) (s : Str) (r : Node) : Prop where
 idx : 0 <= r.2.2
 kind : r.1 = 0 \/ r.1 = 1 \/ r.1 = 2
 ev : r.1 = 0 -> r.2.2 < (m.evs.length : Int) /\ (atS s = false -> (m.evs.getD r.2.2.toNat default).name = s)
 hs : r.1 = 1 -> r.2.2 < (m.hs.length : Int) /\ (m.hs.getD r.2.2.toNat default).name = s
 gate : r.1 = 2 -> (r.2.1 = -1 \/ (0 <= r.2.1 /\ r.2.1 < (m.pages.length : Int))) /\ r.2.2 < ((kS m r.2.1).length : Int) /\
  (atS s = false -> r.2.1 = a /\ ((kS m r.2.1).getD r.2.2.toNat default).name = s) /\
  (atS s = true -> 0 <= r.2.1 /\ (m.pages.getD r.2.1.toNat default).name = s.drop 1 /\ (m.pages.getD r.2.1.toNat default).top = ((kS m r.2.1).getD r.2.2.toNat default).name)


structure Nd where
 kind : Int
 k : Int
 args : List Int
 deriving DecidableEq,Inhabited

abbrev Nd.av (x : Nd) : AV:=.ag [.int .i64 x.kind,.int .i64 x.k,iL x.args]

structure Fo where
 vars : Int
 nodes : List Nd
 top : Int
 deriving DecidableEq,Inhabited

abbrev Fo.av (x : Fo) : AV:=.ag [.int .i64 x.vars,.sl 3 (x.nodes.map Nd.av) .no,.int .i64 x.top]

def lookO : Marks -> Node -> Option Int
 | [],_=>none
 | (y,v) :: es,x=>if y = x then some v else lookO es x

theorem EU {es : Marks} {x y : Node} {v : Int} : lookO (mark es x v) y = if x = y then some v else lookO es y:=by
 induction es with
 | nil=>simp [mark,lookO]
 | cons e es ih =>
   obtain ⟨z,u⟩:=e
   simp only [mark]
   by_cases hz : z = x
   ·subst hz
    simp only [if_true,lookO]
    split <;> rfl
   ·simp only [if_neg hz,lookO,ih]
    by_cases hzy : z = y
    ·subst hzy
     rw [if_pos rfl,if_neg (fun e=>hz e.symm)]
     simp
    ·simp only [if_neg hzy]

structure CS where
 nodes : List Nd
 es : Marks
 deriving Inhabited


structure Tb where
 order : List Int
 place : List Int
 nodes : List Node
 uq : Marks
 memo : Marks

def VK (l : List Bool) (r : Int) : Bool:=if r <= 0 then false else if r = 1 then true else l.getD (r - 2).toNat false
def Iy (s : Int -> Bool) (l : List Bool) (x : Node) : List Bool:=l ++ [if s x.1 then VK l x.2.2 else VK l x.2.1]
def uz (s : Int -> Bool) (nodes : List Node) : List Bool:=nodes.foldl (Iy s) []
def ev (nodes : List Node) (s : Int -> Bool) (r : Int) : Bool:=VK (uz s nodes) r

theorem vals_snoc (s : Int -> Bool) (l : List Node) (x : Node) : uz s (l ++ [x]) = uz s l ++ [if s x.1 then ev l s x.2.2 else ev l s x.2.1]:=by
 unfold uz
 rw [List.foldl_append]; rfl

theorem Io (s : Int -> Bool) (l : List Node) : (uz s l).length = l.length:=by
 have : ∀ (l : List Node) (a : List Bool),(l.foldl (Iy s) a).length = a.length + l.length:=by
  intro l
  induction l with
  | nil=>intro a; rfl
  | cons x l ih=>intro a; rw [List.foldl_cons,ih]; simp [Iy]; omega
 simpa [uz] using this l []

theorem Vp (s : Int -> Bool) (l m : List Node) : ∃ t,uz s (l ++ m) = uz s l ++ t:=by
 have : ∀ (m : List Node) (a : List Bool),∃ t,m.foldl (Iy s) a = a ++ t:=by
  intro m
  induction m with
  | nil=>intro a; exact ⟨[],by simp⟩
  | cons x m ih =>
    intro a
    obtain ⟨t,ht⟩:=ih (Iy s a x)
    exact ⟨_ :: t,by rw [List.foldl_cons,ht,Iy,List.append_assoc]; rfl⟩
 obtain ⟨t,ht⟩:=this m (uz s l)
 exact ⟨t,by rw [uz,List.foldl_append]; exact ht⟩

theorem nZ (l : List Node) (s : Int -> Bool) : ev l s 0 = false:=rfl
theorem yD (l : List Node) (s : Int -> Bool) : ev l s 1 = true:=rfl

theorem Bq (l m : List Node) (s : Int -> Bool) {r : Int} (h : r < 2 + (l.length : Int)) : ev (l ++ m) s r = ev l s r:=by
 obtain ⟨t,ht⟩:=Vp s l m
 unfold ev VK
 rw [ht]
 split
 ·rfl
 split
 ·rfl
 have hl : (r - 2).toNat < (uz s l).length:=by rw [Io]; omega
 rw [List.getD_eq_getElem?_getD,List.getD_eq_getElem?_getD,List.getElem?_append_left hl]

theorem tq (l : List Node) (s : Int -> Bool) {k : Nat} (hk : k < l.length) (h1 : l[k].2.1 < 2 + (k : Int)) (h2 : l[k].2.2 < 2 + (k : Int)) :
  ev l s (2 + k) = if s l[k].1 then ev l s l[k].2.2 else ev l s l[k].2.1:=by
 have e : l = l.take k ++ [l[k]] ++ l.drop (k + 1):=by
  rw [<- List.take_succ_eq_append_getElem hk,List.take_append_drop]
 have hkl : (l.take k).length = k:=by simp; omega
 have e1 : ∀ r : Int,r < 2 + (k : Int) -> ev l s r = ev (l.take k) s r:=by
  intro r hr
  conv=>lhs; rw [e]
  rw [List.append_assoc,Bq _ _ _ (by rw [hkl]; exact hr)]
 rw [e1 _ h1,e1 _ h2]
 conv=>lhs; rw [e]
 rw [Bq _ _ _ (by simp; omega)]
 unfold ev VK
 rw [if_neg (by omega),if_neg (by omega),vals_snoc]
 have : (2 + (k : Int) - 2).toNat = (uz s (l.take k)).length:=by rw [Io,hkl]; omega
 rw [this,List.getD_eq_getElem?_getD,List.getElem?_append_right (Nat.le_refl _),Nat.sub_self]
 rfl

def Tb.n (T : Tb) : Int:=T.order.length
def Tb.pl (T : Tb) (i : Int) : Int:=T.place.getD i.toNat 0
def Tb.node (T : Tb) (r : Int) : Node:=T.nodes.getD (r - 2).toNat default
def Tb.lvl (T : Tb) (r : Int) : Int:=if r < 2 then T.n else T.pl (T.node r).1
def Tb.Rf (T : Tb) (r : Int) : Prop:=0 <= r /\ r < 2 + (T.nodes.length : Int)

structure GoodN (T : Tb) (x : Node) (k : Nat) : Prop where
 v : 0 <= x.1 /\ x.1 < T.n
 lo : 0 <= x.2.1 /\ x.2.1 < 2 + (k : Int)
 hi : 0 <= x.2.2 /\ x.2.2 < 2 + (k : Int)
 ne : x.2.1 ≠ x.2.2
 Zi : T.pl x.1 < T.lvl x.2.1
 Zj : T.pl x.1 < T.lvl x.2.2

structure bJ (T : Tb) : Prop where
 small : T.order.length <= 60
 yj : T.place.length = T.order.length
 ord : ∀ k : Int,0 <= k -> k < T.n -> 0 <= T.order.getD k.toNat 0 /\ T.order.getD k.toNat 0 < T.n /\ T.pl (T.order.getD k.toNat 0) = k
 YJ : ∀ i : Int,0 <= i -> i < T.n -> 0 <= T.pl i /\ T.pl i < T.n /\ T.order.getD (T.pl i).toNat 0 = i
 nodes : ∀ (k : Nat) (h : k < T.nodes.length),GoodN T T.nodes[k] k
 uq : ∀ x r,lookO T.uq x = some r ↔ ∃ (k : Nat) (h : k < T.nodes.length),T.nodes[k] = x /\ r = 2 + (k : Int)
 memo : ∀ c a b r,lookO T.memo (c,a,b) = some r -> T.Rf c /\ T.Rf a /\ T.Rf b /\ T.Rf r /\ min (min (T.lvl c) (T.lvl a)) (T.lvl b) <= T.lvl r /\ ∀ s,ev T.nodes s r = if ev T.nodes s c then ev T.nodes s a else ev T.nodes s b

structure Xt (T T' : Tb) : Prop where
 order : T'.order = T.order
 place : T'.place = T.place
 nodes : ∃ l,T'.nodes = T.nodes ++ l

theorem Xt.refl (T : Tb) : Xt T T:=⟨rfl,rfl,[],by simp⟩
theorem Xt.trans {A B C : Tb} (h : Xt A B) (g : Xt B C) : Xt A C:=by
 obtain ⟨l,hl⟩:=h.nodes
 obtain ⟨m,hm⟩:=g.nodes
 exact ⟨g.order.trans h.order,g.place.trans h.place,l ++ m,by rw [hm,hl,List.append_assoc]⟩
theorem Xt.len {T T' : Tb} (h : Xt T T') : T.nodes.length <= T'.nodes.length:=by
 obtain ⟨l,hl⟩:=h.nodes
 rw [hl]; simp
theorem Xt.n {T T' : Tb} (h : Xt T T') : T'.n = T.n:=by unfold Tb.n; rw [h.order]
theorem Xt.pl {T T' : Tb} (h : Xt T T') (i : Int) : T'.pl i = T.pl i:=by unfold Tb.pl; rw [h.place]
theorem Xt.rf {T T' : Tb} (h : Xt T T') {r : Int} (hr : T.Rf r) : T'.Rf r:=⟨hr.1,by have:=h.len; have:=hr.2; omega⟩
theorem Xt.node {T T' : Tb} (h : Xt T T') {r : Int} (hr : T.Rf r) (h2 : 2 <= r) : T'.node r = T.node r:=by
 obtain ⟨l,hl⟩:=h.nodes
 unfold Tb.node
 have:=hr.2
 rw [hl,List.getD_eq_getElem?_getD,List.getD_eq_getElem?_getD,List.getElem?_append_left (by omega)]
theorem Xt.lvl {T T' : Tb} (h : Xt T T') {r : Int} (hr : T.Rf r) : T'.lvl r = T.lvl r:=by
 unfold Tb.lvl
 split
 ·exact h.n
 ·rw [h.pl,h.node hr (by omega)]
theorem Xt.ev {T T' : Tb} (h : Xt T T') {r : Int} (hr : T.Rf r) (s : Int -> Bool) : ev T'.nodes s r = ev T.nodes s r:=by
 obtain ⟨l,hl⟩:=h.nodes
 rw [hl,Bq _ _ _ hr.2]

theorem Tb.Rf.zero (T : Tb) : T.Rf 0:=⟨by omega,by omega⟩
theorem Tb.Rf.one (T : Tb) : T.Rf 1:=⟨by omega,by omega⟩

theorem bJ.at {T : Tb} (h : bJ T) {r : Int} (hr : T.Rf r) (h2 : 2 <= r) : GoodN T (T.node r) (r - 2).toNat /\ ∀ s,S.ev T.nodes s r = if s (T.node r).1 then S.ev T.nodes s (T.node r).2.2 else S.ev T.nodes s (T.node r).2.1:=by
 have hk : (r - 2).toNat < T.nodes.length:=by have:=hr.2; omega
 have e : T.node r = T.nodes[(r - 2).toNat]:=by
  unfold Tb.node
  rw [List.getD_eq_getElem?_getD,List.getElem?_eq_getElem hk]; rfl
 have g:=h.nodes _ hk
 rw [e]
 refine ⟨g,fun s=>?_⟩
 have:=tq T.nodes s hk g.lo.2 g.hi.2
 rw [<- this]
 congr 1; omega

theorem bJ.nY {T : Tb} (h : bJ T) {r : Int} (hr : T.Rf r) : 0 <= T.lvl r /\ T.lvl r <= T.n:=by
 unfold Tb.lvl
 split
 ·exact ⟨by unfold Tb.n; omega,Int.le_refl _⟩
 ·have g:=(h.at hr (by omega)).1
  have:=h.YJ _ g.v.1 g.v.2
  omega

theorem bJ.kid {T : Tb} (h : bJ T) {r : Int} (hr : T.Rf r) (h2 : 2 <= r) : T.Rf (T.node r).2.1 /\ T.Rf (T.node r).2.2 /\ T.lvl r < T.lvl (T.node r).2.1 /\ T.lvl r < T.lvl (T.node r).2.2 /\ 0 <= T.lvl r /\ T.lvl r < T.n:=by
 have g:=(h.at hr h2).1
 have:=hr.2
 have hp:=h.YJ _ g.v.1 g.v.2
 have e : T.lvl r = T.pl (T.node r).1:=if_neg (by omega)
 rw [e]
 exact ⟨⟨g.lo.1,by have:=g.lo.2; omega⟩,⟨g.hi.1,by have:=g.hi.2; omega⟩,g.Zi,g.Zj,hp.1,hp.2.1⟩

def Tb.make (T : Tb) (v lo hi : Int) : Tb × Int :=
 if lo = hi then (T,lo) else match lookO T.uq (v,lo,hi) with
  | some r=>(T,r)
  | none=>({ T with nodes:=T.nodes ++ [(v,lo,hi)],uq:=mark T.uq (v,lo,hi) (2 + (T.nodes.length : Int)) },2 + (T.nodes.length : Int))

theorem wM {T : Tb} (h : bJ T) {v lo hi : Int} (hv : 0 <= v /\ v < T.n) (hlo : T.Rf lo) (hhi : T.Rf hi) (h1 : T.pl v < T.lvl lo) (h2 : T.pl v < T.lvl hi) :
  bJ (T.make v lo hi).1 /\ Xt T (T.make v lo hi).1 /\ (T.make v lo hi).1.Rf (T.make v lo hi).2 /\ T.pl v <= (T.make v lo hi).1.lvl (T.make v lo hi).2 /\
  (T.make v lo hi).1.nodes.length <= T.nodes.length + 1 /\ (T.make v lo hi).1.memo = T.memo /\ ∀ s,ev (T.make v lo hi).1.nodes s (T.make v lo hi).2 = if s v then ev T.nodes s hi else ev T.nodes s lo:=by
 unfold Tb.make
 by_cases he : lo = hi
 ·rw [if_pos he]
  subst he
  exact ⟨h,.refl _,hlo,Int.le_of_lt h1,by simp,rfl,fun s=>by simp⟩
 rw [if_neg he]
 cases hl : lookO T.uq (v,lo,hi) with
 | some r =>
   obtain ⟨k,hk,e1,rfl⟩:=(h.uq _ _).1 hl
   have g:=h.nodes k hk
   have hrf : T.Rf (2 + (k : Int)):=⟨by omega,by omega⟩
   have en : T.node (2 + (k : Int)) = (v,lo,hi):=by
    unfold Tb.node
    rw [show (2 + (k : Int) - 2).toNat = k by omega,List.getD_eq_getElem?_getD,List.getElem?_eq_getElem hk]; exact e1
   refine ⟨h,.refl _,hrf,?_,by simp,rfl,fun s=>?_⟩
   ·show _ <= T.lvl (2 + (k : Int))
    rw [show T.lvl (2 + (k : Int)) = T.pl (T.node (2 + (k : Int))).1 from if_neg (by omega),en]
    exact Int.le_refl _
   ·have:=tq T.nodes s hk g.lo.2 g.hi.2
    rw [e1] at this
    exact this
 | none =>
   let T' : Tb:={ T with nodes:=T.nodes ++ [(v,lo,hi)],uq:=mark T.uq (v,lo,hi) (2 + (T.nodes.length : Int)) }
   have hx : Xt T T':=⟨rfl,rfl,_,rfl⟩
   have hlen : T'.nodes.length = T.nodes.length + 1:=by simp [T']
   have hnew : ∀ (hk : T.nodes.length < T'.nodes.length),T'.nodes[T.nodes.length] = (v,lo,hi):=fun hk=>by simp [T']
   have hold : ∀ (k : Nat) (hk : k < T.nodes.length) (hk' : k < T'.nodes.length),T'.nodes[k] = T.nodes[k]:=fun k hk hk'=>by
    simp only [T']; rw [List.getElem_append_left hk]
   have hev : ∀ s,ev T'.nodes s (2 + (T.nodes.length : Int)) = if s v then ev T.nodes s hi else ev T.nodes s lo:=by
    intro s
    have:=tq T'.nodes s (k:=T.nodes.length) (by omega) (by rw [hnew]; exact hlo.2) (by rw [hnew]; exact hhi.2)
    rw [hnew] at this
    rw [this,hx.ev hhi,hx.ev hlo]
   have hgood : bJ T':=by
    refine ⟨h.small,h.yj,h.ord,h.YJ,fun k hk=>?_,fun x r=>?_,fun c a b r hm=>?_⟩
    ·by_cases hkl : k < T.nodes.length
     ·rw [hold k hkl hk]
      have g:=h.nodes k hkl
      exact ⟨g.v,g.lo,g.hi,g.ne,by rw [hx.lvl ⟨g.lo.1,by have:=g.lo.2; omega⟩]; exact g.Zi,by rw [hx.lvl ⟨g.hi.1,by have:=g.hi.2; omega⟩]; exact g.Zj⟩
     ·obtain rfl : k = T.nodes.length:=by omega
      rw [hnew hk]
      exact ⟨hv,hlo,hhi,he,by rw [hx.lvl hlo]; exact h1,by rw [hx.lvl hhi]; exact h2⟩
    ·show lookO (mark T.uq (v,lo,hi) (2 + (T.nodes.length : Int))) x = some r ↔ _
     rw [EU]
     by_cases hxe : (v,lo,hi) = x
     ·rw [if_pos hxe]
      subst hxe
      constructor
      ·intro hr
       obtain rfl:=Option.some.inj hr
       exact ⟨T.nodes.length,by omega,hnew _,rfl⟩
      ·rintro ⟨k,hk,e1,rfl⟩
       by_cases hkl : k < T.nodes.length
       ·exfalso
        have : lookO T.uq (v,lo,hi) = some (2 + (k : Int)):=(h.uq _ _).2 ⟨k,hkl,(hold k hkl hk).symm.trans e1,rfl⟩
        rw [hl] at this; cases this
       ·obtain rfl : k = T.nodes.length:=by omega
        rfl
     ·rw [if_neg hxe,h.uq]
      constructor
      ·rintro ⟨k,hk,e1,rfl⟩
       exact ⟨k,by omega,(hold k hk _).trans e1,rfl⟩
      ·rintro ⟨k,hk,e1,rfl⟩
       by_cases hkl : k < T.nodes.length
       ·exact ⟨k,hkl,(hold k hkl hk).symm.trans e1,rfl⟩
       ·obtain rfl : k = T.nodes.length:=by omega
        exact absurd ((hnew hk).symm.trans e1) hxe
    ·obtain ⟨g1,g2,g3,g4,g5,g6⟩:=h.memo c a b r hm
     exact ⟨hx.rf g1,hx.rf g2,hx.rf g3,hx.rf g4,by rw [hx.lvl g1,hx.lvl g2,hx.lvl g3,hx.lvl g4]; exact g5,fun s=>by rw [hx.ev g1,hx.ev g2,hx.ev g3,hx.ev g4]; exact g6 s⟩
   have hrf : T'.Rf (2 + (T.nodes.length : Int)):=⟨by omega,by rw [hlen]; omega⟩
   refine ⟨hgood,hx,hrf,?_,by rw [show (T',2 + (T.nodes.length : Int)).1.nodes.length = T'.nodes.length from rfl,hlen]; exact Nat.le_refl _,rfl,hev⟩
   show T.pl v <= T'.lvl (2 + (T.nodes.length : Int))
   have en : T'.node (2 + (T.nodes.length : Int)) = (v,lo,hi):=by
    unfold Tb.node
    rw [show (2 + (T.nodes.length : Int) - 2).toNat = T.nodes.length by omega,List.getD_eq_getElem?_getD,List.getElem?_eq_getElem (by omega),hnew]; rfl
   rw [show T'.lvl (2 + (T.nodes.length : Int)) = T'.pl (T'.node (2 + (T.nodes.length : Int))).1 from if_neg (by omega),en]
   exact Int.le_refl _

theorem yL {es : Marks} {x : Node} {r : Int} {k : AV -> Prop} (hl : lookO es x = some r) (h : k (.eG [.int .i64 r,.tt])) : wz (jQ es) (Rj x) fun r=>uF true (.int .i64 0) r k:=by
 refine ⟨some (.int .i64 r),?_,h⟩
 induction es with
 | nil=>simp [lookO] at hl
 | cons e es ih =>
   obtain ⟨y,v⟩:=e
   simp only [lookO] at hl
   by_cases hy : y = x
   ·subst hy
    rw [if_pos rfl] at hl
    obtain rfl:=Option.some.inj hl
    exact ⟨_,List.mem_cons_self,rfl,rfl⟩
   ·rw [if_neg hy] at hl
    obtain ⟨z,hz,h3,h4⟩:=ih hl
    exact ⟨z,by simp only [jQ,List.map_cons,List.mem_cons]; exact .inr hz,h3,h4⟩

theorem yM {es : Marks} {x : Node} {k : AV -> Prop} (hl : lookO es x = none) (h : k (.eG [.int .i64 0,.ff])) : wz (jQ es) (Rj x) fun r=>uF true (.int .i64 0) r k:=by
 refine ⟨none,?_,h⟩
 induction es with
 | nil=>intro z hz; simp [jQ] at hz
 | cons e es ih =>
   obtain ⟨y,v⟩:=e
   simp only [lookO] at hl
   by_cases hy : y = x
   ·subst hy; rw [if_pos rfl] at hl; cases hl
   ·rw [if_neg hy] at hl
    intro z hz
    simp only [jQ,List.map_cons,List.mem_cons] at hz
    rcases hz with rfl | hz
    ·exact fun e=>hy (WO.1 e)
    ·exact ih hl z hz

abbrev xT (T : Tb) : AV:=.ag [.sl 1 (T.order.map (.int .i64)) .no,.ms 1 0 T.place.length T.place.length 1,.sl 3 (T.nodes.map Rj) (.own 2),.mp 3,.mp 4]
abbrev iH (T : Tb) : Heap:=[(4,.dU IE (jQ T.memo)),(3,.dU IE (jQ T.uq)),(2,.tok 3 T.nodes.length),(1,.arr 1 T.place.length (T.place.map (.int .i64))),(0,.box (xT T))]

theorem KH (T : Tb) (v lo hi : Int) (hn : T.nodes.length <= 1000000000) :
  aA Tryz.prog 132 [.ptr 0 [] 0,.int .i64 v,.int .i64 lo,.int .i64 hi] (iH T) (.int .i64 (T.make v lo hi).2) (iH (T.make v lo hi).1):=by
 by_cases he : lo = hi
 ·rw [show T.make v lo hi = (T,lo) from if_pos he]
  refine aA.intro lay mixed Tryz.func132 (by kernel_rfl) rfl (by kernel_rfl) rfl fun hok=>?_
  (try dsimp only[aZ,aN]);(try dsimp only[aj]);conv=>whnf
  refine And.intro (fun _=>?_) (fun h=>absurd he h)
  (try dsimp only[aj]);conv=>whnf
  refine ⟨⟨_,_,.refl _ _,?_⟩⟩
  conv=>whnf
  refine ⟨?_,rfl,by simp [nextId],.mk ?_ (by simp [ay])⟩
  ·repeat' first|exact rfl|exact trivial|exact wR|exact lR _|apply aI
   all_goals first | (rw [List.length_map]; done) | skip
  ·repeat' first|exact rfl|exact trivial|exact wR|exact lR _|apply aI
   all_goals first | exact aJ _ | exact aF _ _ | (show dK _ (List.map _ (_ ++ [_])); rw [List.map_append]; exact aB _) | (simp; done) | skip
 cases hl : lookO T.uq (v,lo,hi) with
 | some r =>
   rw [show T.make v lo hi = (T,r) from by unfold Tb.make; rw [if_neg he,hl]]
   refine aA.intro lay mixed Tryz.func132 (by kernel_rfl) rfl (by kernel_rfl) rfl fun hok=>?_
   (try dsimp only[aZ,aN]);(try dsimp only[aj]);conv=>whnf
   refine And.intro (fun h=>absurd h he) (fun _=>?_)
   (try dsimp only[aj]);conv=>whnf
   refine aS.auto (by kernel_rfl) ?_;conv=>whnf
   refine yL (x:=(v,lo,hi)) hl ?_
   (try dsimp only[aj]);conv=>whnf
   refine ⟨⟨_,_,.refl _ _,?_⟩⟩
   conv=>whnf
   refine ⟨?_,rfl,by simp [nextId],.mk ?_ (by simp [ay])⟩
   ·repeat' first|exact rfl|exact trivial|exact wR|exact lR _|apply aI
    all_goals first | (rw [List.length_map]; done) | skip
   ·repeat' first|exact rfl|exact trivial|exact wR|exact lR _|apply aI
    all_goals first | exact aJ _ | exact aF _ _ | (show dK _ (List.map _ (_ ++ [_])); rw [List.map_append]; exact aB _) | (simp; done) | skip
 | none =>
   rw [show T.make v lo hi = ({ T with nodes:=T.nodes ++ [(v,lo,hi)],uq:=mark T.uq (v,lo,hi) (2 + (T.nodes.length : Int)) },2 + (T.nodes.length : Int)) from by unfold Tb.make; rw [if_neg he,hl]]
   refine aA.intro lay mixed Tryz.func132 (by kernel_rfl) rfl (by kernel_rfl) rfl fun hok=>?_
   (try dsimp only[aZ,aN]);(try dsimp only[aj]);conv=>whnf
   refine And.intro (fun h=>absurd h he) (fun _=>?_)
   (try dsimp only[aj]);conv=>whnf
   refine aS.auto (by kernel_rfl) ?_;conv=>whnf
   refine yM (x:=(v,lo,hi)) hl ?_
   (try dsimp only[aj]);conv=>whnf
   rw [List.length_map]
   refine ⟨bC (by omega) (by omega),?_⟩
   (try dsimp only[aj]);conv=>whnf
   refine aS.auto (by kernel_rfl) ?_;conv=>whnf
   refine ⟨by rw [List.length_map],.mk (by simp [maxL]; omega) (by simp; omega) ?_⟩
   (try dsimp only[aj]);conv=>whnf
   refine aS.auto (by kernel_rfl) ?_;conv=>whnf
   refine KR (x:=(v,lo,hi)) ?_
   (try dsimp only[aj]);conv=>whnf
   refine ⟨⟨_,_,.refl _ _,?_⟩⟩
   conv=>whnf
   refine ⟨?_,rfl,by simp [nextId],.mk ?_ (by simp [ay])⟩
   ·repeat' first|exact rfl|exact trivial|exact wR|exact lR _|apply aI
    all_goals first | (rw [List.length_map]; done) | skip
   ·repeat' first|exact rfl|exact trivial|exact wR|exact lR _|apply aI
    all_goals first | exact aJ _ | exact aF _ _ | (show dK _ (List.map _ (_ ++ [_])); rw [List.map_append]; exact aB _) | (simp; done) | skip

theorem Oa (T : Tb) (v : Int) (hn : T.nodes.length <= 1000000000) :
  aA Tryz.prog 129 [.ptr 0 [] 0,.int .i64 v] (iH T) (.int .i64 (T.make v 0 1).2) (iH (T.make v 0 1).1):=by
 refine aA.intro lay mixed Tryz.func129 (by kernel_rfl) rfl (by kernel_rfl) rfl fun hok=>?_
 (try dsimp only[aZ,aN]);(try dsimp only[aj]);conv=>whnf
 refine .gen _ _ (KH T v 0 1 hn) fun _=>?_
 (try dsimp only[aj]);conv=>whnf
 refine ⟨⟨_,_,.refl _ _,?_⟩⟩
 conv=>whnf
 refine ⟨?_,rfl,by simp [nextId],.mk ?_ (by simp [ay])⟩
 ·repeat' first|exact rfl|exact trivial|exact wR|exact lR _|apply aI
  all_goals first | (rw [List.length_map]; done) | skip
 ·repeat' first|exact rfl|exact trivial|exact wR|exact lR _|apply aI
  all_goals first | exact aJ _ | exact aF _ _ | (show dK _ (List.map _ (_ ++ [_])); rw [List.map_append]; exact aB _) | (simp; done) | skip

theorem mY (T : Tb) (hT : bJ T) (hn : T.nodes.length <= 1000000000) (r : Int) (hr : T.Rf r) :
  aA Tryz.prog 230 [.ptr 0 [] 0,.int .i64 r] (iH T) (.int .i64 (T.lvl r)) (iH T):=by
 have h0:=hr.1
 have h1:=hr.2
 by_cases h2 : r < 2
 ·rw [show T.lvl r = (T.order.length : Int) from if_pos h2]
  refine aA.intro lay mixed Tryz.func230 (by kernel_rfl) rfl (by kernel_rfl) rfl fun hok=>?_
  (try dsimp only[aZ,aN]);(try dsimp only[aj]);conv=>whnf
  refine And.intro (fun _=>?_) (fun h=>absurd h2 h)
  (try dsimp only[aj]);conv=>whnf
  refine ⟨⟨_,_,.refl _ _,?_⟩⟩
  conv=>whnf
  refine ⟨?_,rfl,by simp [nextId],.mk ?_ (by simp [ay])⟩
  ·repeat' first|exact rfl|exact trivial|exact wR|exact lR _|apply aI
   all_goals first | (rw [List.length_map]; done) | skip
  ·repeat' first|exact rfl|exact trivial|exact wR|exact lR _|apply aI
   all_goals first | exact aJ _ | exact aF _ _ | (show dK _ (List.map _ (_ ++ [_])); rw [List.map_append]; exact aB _) | (simp; done) | skip
 ·have g:=(hT.at hr (by omega)).1
  have hp:=hT.yj
  rw [show T.lvl r = T.pl (T.node r).1 from if_neg h2]
  refine aA.intro lay mixed Tryz.func230 (by kernel_rfl) rfl (by kernel_rfl) rfl fun hok=>?_
  (try dsimp only[aZ,aN]);(try dsimp only[aj]);conv=>whnf
  refine And.intro (fun h=>absurd h h2) (fun _=>?_)
  (try dsimp only[aj]);conv=>whnf
  refine aS.auto (by kernel_rfl) ?_;conv=>whnf
  refine ⟨bC (by omega) (by omega),?_⟩
  conv=>whnf
  refine dQ default ⟨by omega,by omega⟩ ?_
  conv=>whnf
  have hv : 0 <= (T.nodes.getD (r - 2).toNat default).1 /\ (T.nodes.getD (r - 2).toNat default).1 < (T.order.length : Int):=g.v
  refine ⟨⟨hv.1,by rw [hp]; exact hv.2⟩,?_⟩
  conv=>whnf
  rw [Nat.zero_add]
  refine dQ 0 ⟨by omega,by omega⟩ ?_
  conv=>whnf
  refine ⟨rfl,?_⟩
  (try dsimp only[aj]);conv=>whnf
  refine ⟨⟨_,_,.refl _ _,?_⟩⟩
  conv=>whnf
  refine ⟨?_,rfl,by simp [nextId],.mk ?_ (by simp [ay])⟩
  ·repeat' first|exact rfl|exact trivial|exact wR|exact lR _|apply aI
   all_goals first | (rw [List.length_map]; done) | skip
  ·repeat' first|exact rfl|exact trivial|exact wR|exact lR _|apply aI
   all_goals first | exact aJ _ | exact aF _ _ | (show dK _ (List.map _ (_ ++ [_])); rw [List.map_append]; exact aB _) | (simp; done) | skip

def Tb.kids (T : Tb) (r L : Int) : Int × Int:=if T.lvl r ≠ L then (r,r) else ((T.node r).2.1,(T.node r).2.2)

theorem KI (T : Tb) (hT : bJ T) (hn : T.nodes.length <= 1000000000) (r L : Int) (hr : T.Rf r) (hL : L < T.n) :
  aA Tryz.prog 231 [.ptr 0 [] 0,.int .i64 r,.int .i64 L] (iH T) (.eG [.int .i64 (T.kids r L).1,.int .i64 (T.kids r L).2]) (iH T):=by
 have h0:=hr.1
 have h1:=hr.2
 have cl:=mY T hT hn r hr
 by_cases h2 : T.lvl r ≠ L
 ·rw [show T.kids r L = (r,r) from if_pos h2]
  refine aA.intro lay mixed Tryz.func231 (by kernel_rfl) rfl (by kernel_rfl) rfl fun hok=>?_
  (try dsimp only[aZ,aN]);(try dsimp only[aj]);conv=>whnf
  refine .gen _ _ cl fun _=>?_
  (try dsimp only[aj]);conv=>whnf
  refine And.intro (fun _=>?_) (fun h=>absurd h2 h)
  (try dsimp only[aj]);conv=>whnf
  refine ⟨⟨_,_,.refl _ _,?_⟩⟩
  conv=>whnf
  refine ⟨?_,rfl,by simp [nextId],.mk ?_ (by simp [ay])⟩
  ·repeat' first|exact rfl|exact trivial|exact wR|exact lR _|apply aI
   all_goals first | (rw [List.length_map]; done) | skip
  ·repeat' first|exact rfl|exact trivial|exact wR|exact lR _|apply aI
   all_goals first | exact aJ _ | exact aF _ _ | (show dK _ (List.map _ (_ ++ [_])); rw [List.map_append]; exact aB _) | (simp; done) | skip
 ·have h2 : T.lvl r = L:=by simpa using h2
  have hr2 : ¬ r < 2:=by
   intro h
   have : T.lvl r = T.n:=if_pos h
   omega
  rw [show T.kids r L = ((T.node r).2.1,(T.node r).2.2) from if_neg (by omega)]
  refine aA.intro lay mixed Tryz.func231 (by kernel_rfl) rfl (by kernel_rfl) rfl fun hok=>?_
  (try dsimp only[aZ,aN]);(try dsimp only[aj]);conv=>whnf
  refine .gen _ _ cl fun _=>?_
  (try dsimp only[aj]);conv=>whnf
  refine And.intro (fun h=>absurd h2 h) (fun _=>?_)
  (try dsimp only[aj]);conv=>whnf
  refine ⟨bC (by omega) (by omega),?_⟩
  (try dsimp only[aj]);conv=>whnf
  refine dQ default ⟨by omega,by omega⟩ ?_
  (try dsimp only[aj]);conv=>whnf
  refine aS.auto (by kernel_rfl) ?_;conv=>whnf
  refine ⟨⟨_,_,.refl _ _,?_⟩⟩
  conv=>whnf
  refine ⟨?_,rfl,by simp [nextId],.mk ?_ (by simp [ay])⟩
  ·repeat' first|exact rfl|exact trivial|exact wR|exact lR _|apply aI
   all_goals first | (rw [List.length_map]; done) | skip
  ·repeat' first|exact rfl|exact trivial|exact wR|exact lR _|apply aI
   all_goals first | exact aJ _ | exact aF _ _ | (show dK _ (List.map _ (_ ++ [_])); rw [List.map_append]; exact aB _) | (simp; done) | skip

theorem ix_hi {i : Nat} (h : 5 <= i) : ix [0,1,2,3,4] i = none:=by
 match i,h with
 | k + 5,_=>rfl

theorem QM {n : Nat} {G Y : Heap} : ∀ {X : Heap},(∀ x ∈ X,5 <= x.1) -> lG [0,1,2,3,4] n G (X ++ Y) = X ++ lG [0,1,2,3,4] n G Y
 | [],_=>rfl
 | (i,o) :: X,h=>by
   have hi:=h (i,o) (by simp)
   simp only [List.cons_append,lG,ix_hi hi]
   rw [QM fun x hx=>h x (by simp [hx])]

theorem Nc {n : Nat} {k : HO -> Prop} {Y : Heap} (hn : n < 5) : ∀ {X : Heap},(∀ x ∈ X,5 <= x.1) -> (iJ (X ++ Y) n k ↔ iJ Y n k)
 | [],_=>Iff.rfl
 | (i,o) :: X,h=>by
   have hi:=h (i,o) (by simp)
   have : Nat.beq i n = false:=by
    cases hb : Nat.beq i n with
    | false=>rfl
    | true=>have:=Nat.eq_of_beq_eq_true hb; simp at hi; omega
   simp only [List.cons_append,iJ,this]
   exact Nc hn fun x hx=>h x (by simp [hx])

theorem TM {T : Tb} {X : Heap} (h : ∀ x ∈ X,5 <= x.1) : 5 <= nextId (X ++ iH T):=by
 cases X with
 | nil=>exact Nat.le_refl _
 | cons x X=>have:=h x (by simp); obtain ⟨i,o⟩:=x; simp [nextId] at this ⊢; omega

theorem xM {f : Nat} {args : List AV} {R : AV} {T T' : Tb} (X : Heap) (hX : ∀ x ∈ X,5 <= x.1) (h : aA Tryz.prog f args (iH T) R (iH T'))
  (ha : ∀ n,Dx (sg [0,1,2,3,4] n) args = args) (hR : ∀ n,iP (sg [0,1,2,3,4] n) R = R) (hb : iM 5 args = true) :
  aA Tryz.prog f args (X ++ iH T) R (X ++ iH T'):=by
 have hn:=TM (T:=T) hX
 have h1 : ∀ (k : Nat),k < 5 -> ∀ (q : HO -> Prop),iJ (X ++ iH T) k q ↔ iJ (iH T) k q:=fun k hk q=>Nc hk hX
 have:=aA.frame (H:=X ++ iH T) (args:=args) [0,1,2,3,4] h ⟨?_,rfl,rfl,hb⟩ ?_ (by rw [ha]; exact ak _)
 ·rw [hR] at this
  have e : Ic [0,1,2,3,4] (iH T') (X ++ iH T) = X ++ iH T':=by
   unfold Ic
   rw [QM hX]
   show X ++ lG _ _ _ _ = _
   congr 1
   show [(4,HO.dU IE (MC _ (jQ T'.memo))),(3,HO.dU IE (MC _ (jQ T'.uq))),_,_,_] = _
   rw [qG,qG]
   rfl
  rwa [e] at this
 ·have : ∀ k,k < 5 -> Nat.blt k (nextId (X ++ iH T)) = true:=fun k hk=>by
   exact Nat.ble_eq_true_of_le (by omega)
  simp only [vT,this 0 (by decide),this 1 (by decide),this 2 (by decide),this 3 (by decide),this 4 (by decide)]
 ·refine ⟨(h1 4 (by decide) _).2 ⟨⟨rfl,Bf _ _⟩,aF _ _⟩,(h1 3 (by decide) _).2 ⟨⟨rfl,Bf _ _⟩,aF _ _⟩,(h1 2 (by decide) _).2 ⟨⟨rfl,rfl⟩,rfl⟩,(h1 1 (by decide) _).2 ⟨⟨rfl,rfl,aB _⟩,rfl⟩,(h1 0 (by decide) _).2 ⟨?_,rfl⟩,trivial⟩
  exact fG _

theorem Bh {T : Tb} (h : bJ T) {r L : Int} (hr : T.Rf r) (_ : 0 <= L) (hL : L <= T.lvl r) (hn : L < T.n) :
  T.Rf (T.kids r L).1 /\ T.Rf (T.kids r L).2 /\ L < T.lvl (T.kids r L).1 /\ L < T.lvl (T.kids r L).2 /\
  ∀ s,ev T.nodes s r = if s (T.order.getD L.toNat 0) then ev T.nodes s (T.kids r L).2 else ev T.nodes s (T.kids r L).1:=by
 unfold Tb.kids
 by_cases he : T.lvl r ≠ L
 ·rw [if_pos he]
  exact ⟨hr,hr,by show L < T.lvl r; omega,by show L < T.lvl r; omega,fun s=>by simp⟩
 ·rw [if_neg he]
  have he : T.lvl r = L:=by simpa using he
  have hr2 : ¬ r < 2:=by
   intro h
   have : T.lvl r = T.n:=if_pos h
   omega
  obtain ⟨k1,k2,k3,k4,_⟩:=h.kid hr (by omega)
  have hv : T.order.getD L.toNat 0 = (T.node r).1:=by
   have e : T.lvl r = T.pl (T.node r).1:=if_neg hr2
   have g:=(h.at hr (by omega)).1
   have:=(h.YJ _ g.v.1 g.v.2).2.2
   rw [<- e,he] at this
   exact this
  rw [hv]
  exact ⟨k1,k2,by rw [<- he]; exact k3,by rw [<- he]; exact k4,(h.at hr (by omega)).2⟩

theorem TT {T : Tb} (h : bJ T) {c a b r : Int} (g : T.Rf c /\ T.Rf a /\ T.Rf b /\ T.Rf r /\ min (min (T.lvl c) (T.lvl a)) (T.lvl b) <= T.lvl r /\ ∀ s,ev T.nodes s r = if ev T.nodes s c then ev T.nodes s a else ev T.nodes s b) :
  bJ { T with memo:=mark T.memo (c,a,b) r }:=by
 refine ⟨h.small,h.yj,h.ord,h.YJ,fun k hk=>?_,h.uq,fun c' a' b' r' hm=>?_⟩
 ·have g:=h.nodes k hk
  exact ⟨g.v,g.lo,g.hi,g.ne,g.Zi,g.Zj⟩
 ·rw [EU] at hm
  split at hm
  ·rename_i e
   obtain rfl:=Option.some.inj hm
   injection e with e1 e2
   injection e2 with e2 e3
   subst e1 e2 e3
   exact g
  ·exact h.memo _ _ _ _ hm

structure ChP (T T' : Tb) (r L : Int) (f : (Int -> Bool) -> Bool) : Prop where
 good : bJ T'
 ext : Xt T T'
 rf : T'.Rf r
 lvl : L <= T'.lvl r
 val : ∀ s,ev T'.nodes s r = f s

theorem BG (T : Tb) (hT : bJ T) (c a b : Int) (hc : T.Rf c) (ha : T.Rf a) (hb : T.Rf b) (e : c = 1 \/ a = b \/ c = 0 \/ (a = 1 /\ b = 0)) :
  ∃ r,aA Tryz.prog 133 [.ptr 0 [] 0,.int .i64 c,.int .i64 a,.int .i64 b] (iH T) (.int .i64 r) (iH T) /\
    ChP T T r (min (min (T.lvl c) (T.lvl a)) (T.lvl b)) (fun s=>if ev T.nodes s c then ev T.nodes s a else ev T.nodes s b):=by
 by_cases e1 : c = 1
 ·subst e1
  refine ⟨a,?_,⟨hT,.refl _,ha,by omega,fun s=>rfl⟩⟩
  refine aA.intro lay mixed Tryz.func133 (by kernel_rfl) rfl (by kernel_rfl) rfl fun hok=>?_
  (try dsimp only[aZ,aN]);(try dsimp only[aj]);conv=>whnf
  refine And.intro (fun _=>?_) (fun h=>absurd rfl h)
  (try dsimp only[aj]);conv=>whnf
  refine ⟨⟨_,_,.refl _ _,?_⟩⟩
  conv=>whnf
  refine ⟨?_,rfl,by simp [nextId],.mk ?_ (by simp [ay])⟩
  ·repeat' first|exact rfl|exact trivial|exact wR|exact lR _|apply aI
   all_goals first | (rw [List.length_map]; done) | skip
  ·repeat' first|exact rfl|exact trivial|exact wR|exact lR _|apply aI
   all_goals first | exact aJ _ | exact aF _ _ | (show dK _ (List.map _ (_ ++ [_])); rw [List.map_append]; exact aB _) | (simp; done) | skip
 by_cases e2 : a = b
 ·subst e2
  refine ⟨a,?_,⟨hT,.refl _,ha,by omega,fun s=>by simp⟩⟩
  refine aA.intro lay mixed Tryz.func133 (by kernel_rfl) rfl (by kernel_rfl) rfl fun hok=>?_
  (try dsimp only[aZ,aN]);(try dsimp only[aj]);conv=>whnf
  refine And.intro (fun h=>absurd h e1) (fun _=>?_)
  (try dsimp only[aj]);conv=>whnf
  refine And.intro (fun _=>?_) (fun h=>absurd rfl h)
  (try dsimp only[aj]);conv=>whnf
  refine ⟨⟨_,_,.refl _ _,?_⟩⟩
  conv=>whnf
  refine ⟨?_,rfl,by simp [nextId],.mk ?_ (by simp [ay])⟩
  ·repeat' first|exact rfl|exact trivial|exact wR|exact lR _|apply aI
   all_goals first | (rw [List.length_map]; done) | skip
  ·repeat' first|exact rfl|exact trivial|exact wR|exact lR _|apply aI
   all_goals first | exact aJ _ | exact aF _ _ | (show dK _ (List.map _ (_ ++ [_])); rw [List.map_append]; exact aB _) | (simp; done) | skip
 by_cases e3 : c = 0
 ·subst e3
  refine ⟨b,?_,⟨hT,.refl _,hb,by omega,fun s=>rfl⟩⟩
  refine aA.intro lay mixed Tryz.func133 (by kernel_rfl) rfl (by kernel_rfl) rfl fun hok=>?_
  (try dsimp only[aZ,aN]);(try dsimp only[aj]);conv=>whnf
  refine And.intro (fun h=>absurd h e1) (fun _=>?_)
  (try dsimp only[aj]);conv=>whnf
  refine And.intro (fun h=>absurd h e2) (fun _=>?_)
  (try dsimp only[aj]);conv=>whnf
  refine And.intro (fun _=>?_) (fun h=>absurd rfl h)
  (try dsimp only[aj]);conv=>whnf
  refine ⟨⟨_,_,.refl _ _,?_⟩⟩
  conv=>whnf
  refine ⟨?_,rfl,by simp [nextId],.mk ?_ (by simp [ay])⟩
  ·repeat' first|exact rfl|exact trivial|exact wR|exact lR _|apply aI
   all_goals first | (rw [List.length_map]; done) | skip
  ·repeat' first|exact rfl|exact trivial|exact wR|exact lR _|apply aI
   all_goals first | exact aJ _ | exact aF _ _ | (show dK _ (List.map _ (_ ++ [_])); rw [List.map_append]; exact aB _) | (simp; done) | skip
 have e4 : a = 1 /\ b = 0:=by
  rcases e with h | h | h | h
  ·exact absurd h e1
  ·exact absurd h e2
  ·exact absurd h e3
  ·exact h
 obtain ⟨rfl,rfl⟩:=e4
 refine ⟨c,?_,⟨hT,.refl _,hc,by omega,fun s=>by rw [yD,nZ]; cases ev T.nodes s c <;> rfl⟩⟩
 refine aA.intro lay mixed Tryz.func133 (by kernel_rfl) rfl (by kernel_rfl) rfl fun hok=>?_
 (try dsimp only[aZ,aN]);(try dsimp only[aj]);conv=>whnf
 refine And.intro (fun h=>absurd h e1) (fun _=>?_)
 (try dsimp only[aj]);conv=>whnf
 refine And.intro (fun h=>absurd h e2) (fun _=>?_)
 (try dsimp only[aj]);conv=>whnf
 refine And.intro (fun h=>absurd h e3) (fun _=>?_)
 (try dsimp only[aj]);conv=>whnf
 refine And.intro (fun _=>?_) (fun h=>absurd rfl h)
 (try dsimp only[aj]);conv=>whnf
 refine And.intro (fun _=>?_) (fun h=>absurd rfl h)
 (try dsimp only[aj]);conv=>whnf
 refine ⟨⟨_,_,.refl _ _,?_⟩⟩
 conv=>whnf
 refine ⟨?_,rfl,by simp [nextId],.mk ?_ (by simp [ay])⟩
 ·repeat' first|exact rfl|exact trivial|exact wR|exact lR _|apply aI
  all_goals first | (rw [List.length_map]; done) | skip
 ·repeat' first|exact rfl|exact trivial|exact wR|exact lR _|apply aI
  all_goals first | exact aJ _ | exact aF _ _ | (show dK _ (List.map _ (_ ++ [_])); rw [List.map_append]; exact aB _) | (simp; done) | skip

theorem oK (d : Nat) : ∀ (T : Tb),bJ T -> ∀ (c a b : Int),T.Rf c -> T.Rf a -> T.Rf b -> T.n - min (min (T.lvl c) (T.lvl a)) (T.lvl b) <= d -> T.nodes.length + 2 ^ d <= 1000000000 ->
  ∃ T' r,aA Tryz.prog 133 [.ptr 0 [] 0,.int .i64 c,.int .i64 a,.int .i64 b] (iH T) (.int .i64 r) (iH T') /\
    ChP T T' r (min (min (T.lvl c) (T.lvl a)) (T.lvl b)) (fun s=>if ev T.nodes s c then ev T.nodes s a else ev T.nodes s b) /\ T'.nodes.length + 1 <= T.nodes.length + 2 ^ d:=by
 induction d with
 | zero =>
   intro T hT c a b hc ha hb hd hN
   have hc2 : c < 2:=by
    have:=hT.kid hc
    omega
   have:=hc.1
   obtain ⟨r,h1,h2⟩:=BG T hT c a b hc ha hb (by omega)
   exact ⟨T,r,h1,h2,by simp⟩
 | succ d ih =>
   intro T hT c a b hc ha hb hd hN
   have h2d : 0 < 2 ^ d:=Nat.pow_pos (by decide)
   have h2e : 2 ^ (d + 1) = 2 ^ d + 2 ^ d:=by rw [Nat.pow_succ]; omega
   by_cases he : c = 1 \/ a = b \/ c = 0 \/ (a = 1 /\ b = 0)
   ·obtain ⟨r,h1,h2⟩:=BG T hT c a b hc ha hb he
    exact ⟨T,r,h1,h2,by omega⟩
   have e1 : ¬ c = 1:=fun h=>he (.inl h)
   have e2 : ¬ a = b:=fun h=>he (.inr (.inl h))
   have e3 : ¬ c = 0:=fun h=>he (.inr (.inr (.inl h)))
   have e4 : ¬ (a = 1 /\ b = 0):=fun h=>he (.inr (.inr (.inr h)))
   cases hl : lookO T.memo (c,a,b) with
   | some r =>
     obtain ⟨_,_,_,g4,g5,g6⟩:=hT.memo _ _ _ _ hl
     refine ⟨T,r,?_,⟨hT,.refl _,g4,g5,g6⟩,by omega⟩
     refine aA.intro lay mixed Tryz.func133 (by kernel_rfl) rfl (by kernel_rfl) rfl fun hok=>?_
     (try dsimp only[aZ,aN]);(try dsimp only[aj]);conv=>whnf
     refine And.intro (fun h=>absurd h e1) (fun _=>?_)
     (try dsimp only[aj]);conv=>whnf
     refine And.intro (fun h=>absurd h e2) (fun _=>?_)
     (try dsimp only[aj]);conv=>whnf
     refine And.intro (fun h=>absurd h e3) (fun _=>?_)
     (try dsimp only[aj]);conv=>whnf
     refine And.intro (fun h=>?_) (fun h=>?_)
     ·(try dsimp only[aj]);conv=>whnf
      refine And.intro (fun h'=>absurd ⟨h,h'⟩ e4) (fun _=>?_)
      (try dsimp only[aj]);conv=>whnf
      refine aS.auto (by kernel_rfl) ?_;conv=>whnf
      refine yL (x:=(c,a,b)) hl ?_
      (try dsimp only[aj]);conv=>whnf
      refine ⟨⟨_,_,.refl _ _,?_⟩⟩
      conv=>whnf
      refine ⟨?_,rfl,by simp [nextId],.mk ?_ (by simp [ay])⟩
      ·repeat' first|exact rfl|exact trivial|exact wR|exact lR _|apply aI
       all_goals first | (rw [List.length_map]; done) | skip
      ·repeat' first|exact rfl|exact trivial|exact wR|exact lR _|apply aI
       all_goals first | exact aJ _ | exact aF _ _ | (show dK _ (List.map _ (_ ++ [_])); rw [List.map_append]; exact aB _) | (simp; done) | skip
     ·(try dsimp only[aj]);conv=>whnf
      refine aS.auto (by kernel_rfl) ?_;conv=>whnf
      refine yL (x:=(c,a,b)) hl ?_
      (try dsimp only[aj]);conv=>whnf
      refine ⟨⟨_,_,.refl _ _,?_⟩⟩
      conv=>whnf
      refine ⟨?_,rfl,by simp [nextId],.mk ?_ (by simp [ay])⟩
      ·repeat' first|exact rfl|exact trivial|exact wR|exact lR _|apply aI
       all_goals first | (rw [List.length_map]; done) | skip
      ·repeat' first|exact rfl|exact trivial|exact wR|exact lR _|apply aI
       all_goals first | exact aJ _ | exact aF _ _ | (show dK _ (List.map _ (_ ++ [_])); rw [List.map_append]; exact aB _) | (simp; done) | skip
   | none =>
     generalize hL : min (min (T.lvl c) (T.lvl a)) (T.lvl b) = L at *
     have hc2 : 2 <= c:=by have:=hc.1; omega
     have hcn:=hT.kid hc hc2
     have hLc : L <= T.lvl c:=by omega
     have hLa : L <= T.lvl a:=by omega
     have hLb : L <= T.lvl b:=by omega
     have hLn : L < T.n:=by omega
     have hL0 : 0 <= L:=by have:=hT.nY ha; have:=hT.nY hb; omega
     obtain ⟨c1,c2,c3,c4,c5⟩:=Bh hT hc hL0 hLc hLn
     obtain ⟨a1,a2,a3,a4,a5⟩:=Bh hT ha hL0 hLa hLn
     obtain ⟨b1,b2,b3,b4,b5⟩:=Bh hT hb hL0 hLb hLn
     have qc:=KI T hT (by omega) c L hc hLn
     have qa:=KI T hT (by omega) a L ha hLn
     have qb:=KI T hT (by omega) b L hb hLn
     generalize T.kids c L = kc at *
     generalize T.kids a L = ka at *
     generalize T.kids b L = kb at *
     obtain ⟨T1,lo,f1,p1,n1⟩:=ih T hT kc.1 ka.1 kb.1 c1 a1 b1 (by omega) (by omega)
     have x1:=p1.ext
     obtain ⟨T2,hi,f2,p2,n2⟩:=ih T1 p1.good kc.2 ka.2 kb.2 (x1.rf c2) (x1.rf a2) (x1.rf b2) (by rw [x1.n,x1.lvl c2,x1.lvl a2,x1.lvl b2]; omega) (by omega)
     rw [x1.lvl c2,x1.lvl a2,x1.lvl b2] at p2
     have x2:=p2.ext
     have x12:=x1.trans x2
     obtain ⟨o1,o2,o3⟩:=hT.ord L hL0 hLn
     have hlo : T2.Rf lo:=x2.rf p1.rf
     have hllo : T2.lvl lo = T1.lvl lo:=x2.lvl p1.rf
     have I8 : T2.order = T.order:=x12.order
     have m:=wM p2.good (v:=T2.order.getD L.toNat 0) (lo:=lo) (hi:=hi) (by rw [x12.n,I8]; exact ⟨o1,o2⟩) hlo p2.rf
      (by rw [x12.pl,I8,o3,hllo]; have:=p1.lvl; omega) (by rw [x12.pl,I8,o3]; have:=p2.lvl; omega)
     have qm:=KH T2 (T2.order.getD L.toNat 0) lo hi (by omega)
     have hL2 : 0 <= L /\ L < (T2.order.length : Int):=by rw [I8]; exact ⟨hL0,hLn⟩
     generalize T2.make (T2.order.getD L.toNat 0) lo hi = q at *
     obtain ⟨T3,r⟩:=q
     obtain ⟨m1,m2,m3,m4,m5,m6,m7⟩:=m
     dsimp only at m1 m2 m3 m4 m5 m6 m7 qm
     rw [I8] at m4
     simp only [I8] at m7
     have x3:=x12.trans m2
     have hval : ∀ s,ev T3.nodes s r = if ev T.nodes s c then ev T.nodes s a else ev T.nodes s b:=by
      intro s
      rw [m7 s,p2.val s,x2.ev p1.rf,p1.val s,x1.ev c2,x1.ev a2,x1.ev b2,c5 s,a5 s,b5 s]
      by_cases hs : s (T.order.getD L.toNat 0) = true
      ·simp only [if_pos hs]
      ·simp only [if_neg hs]
     have hLr : L <= T3.lvl r:=by rw [x12.pl,o3] at m4; exact m4
     have g4:=TT m1 (c:=c) (a:=a) (b:=b) (r:=r) ⟨x3.rf hc,x3.rf ha,x3.rf hb,m3,by rw [x3.lvl hc,x3.lvl ha,x3.lvl hb,hL]; exact hLr,fun s=>by rw [hval s,x3.ev hc,x3.ev ha,x3.ev hb]⟩
     have x4 : Xt T { T3 with memo:=mark T3.memo (c,a,b) r }:=x3.trans ⟨rfl,rfl,[],by simp⟩
     refine ⟨{ T3 with memo:=mark T3.memo (c,a,b) r },r,?_,⟨g4,x4,m3,hLr,hval⟩,by show T3.nodes.length + 1 <= _; omega⟩
     have hord : T3.order = T.order:=x3.order
     have ql:=mY T hT (by omega) c hc
     have ql2:=mY T hT (by omega) a ha
     have ql3:=mY T hT (by omega) b hb
     clear ih
     refine aA.intro lay mixed Tryz.func133 (by kernel_rfl) rfl (by kernel_rfl) rfl fun hok=>?_
     (try dsimp only[aZ,aN]);(try dsimp only[aj]);conv=>whnf
     refine And.intro (fun h=>absurd h e1) (fun _=>?_)
     (try dsimp only[aj]);conv=>whnf
     refine And.intro (fun h=>absurd h e2) (fun _=>?_)
     (try dsimp only[aj]);conv=>whnf
     refine And.intro (fun h=>absurd h e3) (fun _=>?_)
     (try dsimp only[aj]);conv=>whnf
     refine And.intro (fun h=>?_) (fun h=>?_)
     ·(try dsimp only[aj]);conv=>whnf
      refine And.intro (fun h'=>absurd ⟨h,h'⟩ e4) (fun _=>?_)
      (try dsimp only[aj]);conv=>whnf
      refine aS.auto (by kernel_rfl) ?_;conv=>whnf
      refine yM (x:=(c,a,b)) hl ?_
      (try dsimp only[aj]);conv=>whnf
      refine .gen _ _ (xM [(5,_)] (by simp) ql (fun _=>rfl) (fun _=>rfl) rfl) fun _=>?_
      (try dsimp only[aj]);conv=>whnf
      refine .gen _ _ (xM [(5,_)] (by simp) ql2 (fun _=>rfl) (fun _=>rfl) rfl) fun _=>?_
      (try dsimp only[aj]);conv=>whnf
      refine .gen _ _ (xM [(5,_)] (by simp) ql3 (fun _=>rfl) (fun _=>rfl) rfl) fun _=>?_
      (try dsimp only[aj]);conv=>whnf
      rw [hL]
      refine .gen _ _ (xM [(5,_)] (by simp) qc (fun _=>rfl) (fun _=>rfl) rfl) fun _=>?_
      (try dsimp only[aj]);conv=>whnf
      refine .gen _ _ (xM [(5,_)] (by simp) qa (fun _=>rfl) (fun _=>rfl) rfl) fun _=>?_
      (try dsimp only[aj]);conv=>whnf
      refine .gen _ _ (xM [(5,_)] (by simp) qb (fun _=>rfl) (fun _=>rfl) rfl) fun _=>?_
      (try dsimp only[aj]);conv=>whnf
      refine .gen _ _ (xM [(5,_)] (by simp) f1 (fun _=>rfl) (fun _=>rfl) rfl) fun _=>?_
      (try dsimp only[aj]);conv=>whnf
      refine .gen _ _ (xM [(5,_)] (by simp) f2 (fun _=>rfl) (fun _=>rfl) rfl) fun _=>?_
      (try dsimp only[aj]);conv=>whnf
      refine dQ 0 hL2 ?_
      (try dsimp only[aj]);conv=>whnf
      refine .gen _ _ (xM [(5,_)] (by simp) qm (fun _=>rfl) (fun _=>rfl) rfl) fun _=>?_
      (try dsimp only[aj]);conv=>whnf
      refine aS.auto (by kernel_rfl) ?_;conv=>whnf
      refine KR (x:=(c,a,b)) ?_
      (try dsimp only[aj]);conv=>whnf
      refine ⟨⟨_,_,.refl _ _,?_⟩⟩
      conv=>whnf
      refine ⟨?_,rfl,by simp [nextId],.mk ?_ (by simp [ay])⟩
      ·repeat' first|exact rfl|exact trivial|exact wR|exact lR _|apply aI
       all_goals first | (rw [List.length_map]; done) | skip
      ·repeat' first|exact rfl|exact trivial|exact wR|exact lR _|apply aI
       all_goals first | exact aJ _ | exact aF _ _ | (show dK _ (List.map _ (_ ++ [_])); rw [List.map_append]; exact aB _) | (simp; done) | skip
     ·(try dsimp only[aj]);conv=>whnf
      refine aS.auto (by kernel_rfl) ?_;conv=>whnf
      refine yM (x:=(c,a,b)) hl ?_
      (try dsimp only[aj]);conv=>whnf
      refine .gen _ _ (xM [(5,_)] (by simp) ql (fun _=>rfl) (fun _=>rfl) rfl) fun _=>?_
      (try dsimp only[aj]);conv=>whnf
      refine .gen _ _ (xM [(5,_)] (by simp) ql2 (fun _=>rfl) (fun _=>rfl) rfl) fun _=>?_
      (try dsimp only[aj]);conv=>whnf
      refine .gen _ _ (xM [(5,_)] (by simp) ql3 (fun _=>rfl) (fun _=>rfl) rfl) fun _=>?_
      (try dsimp only[aj]);conv=>whnf
      rw [hL]
      refine .gen _ _ (xM [(5,_)] (by simp) qc (fun _=>rfl) (fun _=>rfl) rfl) fun _=>?_
      (try dsimp only[aj]);conv=>whnf
      refine .gen _ _ (xM [(5,_)] (by simp) qa (fun _=>rfl) (fun _=>rfl) rfl) fun _=>?_
      (try dsimp only[aj]);conv=>whnf
      refine .gen _ _ (xM [(5,_)] (by simp) qb (fun _=>rfl) (fun _=>rfl) rfl) fun _=>?_
      (try dsimp only[aj]);conv=>whnf
      refine .gen _ _ (xM [(5,_)] (by simp) f1 (fun _=>rfl) (fun _=>rfl) rfl) fun _=>?_
      (try dsimp only[aj]);conv=>whnf
      refine .gen _ _ (xM [(5,_)] (by simp) f2 (fun _=>rfl) (fun _=>rfl) rfl) fun _=>?_
      (try dsimp only[aj]);conv=>whnf
      refine dQ 0 hL2 ?_
      (try dsimp only[aj]);conv=>whnf
      refine .gen _ _ (xM [(5,_)] (by simp) qm (fun _=>rfl) (fun _=>rfl) rfl) fun _=>?_
      (try dsimp only[aj]);conv=>whnf
      refine aS.auto (by kernel_rfl) ?_;conv=>whnf
      refine KR (x:=(c,a,b)) ?_
      (try dsimp only[aj]);conv=>whnf
      refine ⟨⟨_,_,.refl _ _,?_⟩⟩
      conv=>whnf
      refine ⟨?_,rfl,by simp [nextId],.mk ?_ (by simp [ay])⟩
      ·repeat' first|exact rfl|exact trivial|exact wR|exact lR _|apply aI
       all_goals first | (rw [List.length_map]; done) | skip
      ·repeat' first|exact rfl|exact trivial|exact wR|exact lR _|apply aI
       all_goals first | exact aJ _ | exact aF _ _ | (show dK _ (List.map _ (_ ++ [_])); rw [List.map_append]; exact aB _) | (simp; done) | skip
end S
