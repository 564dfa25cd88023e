/-
  Contracts of functions of the program, over the logic of the texts before. Nothing is assumed.
-/
import Derived.Test.YtohfjkdpekkmaaaGreatT3

open Go Go.AL Go.Proofs
namespace S
set_option maxRecDepth 100000

theorem c_rTrim (a : List Int) (hsz : a.length ≤ 1000000) : FnH Tryz.prog 129 [wL a] [] (wL (wd (val a))) []:=by
 refine FnH.intro lay mixed Tryz.func129 (by kernel_rfl) rfl (by kernel_rfl) rfl fun hok=>?_
 have hl : a.length ≤ 9223372036854775807:=by simpa [OkL,Ok,maxL] using hok.1.1
 have hw : Ws a:=Ws.ok hok.1.2
 conv=>whnf
 refine LoopE.of <| LoopSpec.inv (.refl _ _) (fun (n : Nat)=>n ≤ a.length ∧ ∀ k,n ≤ k → a.getD k 0 = 0) (fun (n : Nat)=>[(3,.int .i64 n)]) (fun _=>_) (fun (n : Nat)=>n) a.length ?_ (fun _=>rfl) ?_ ?_
 ·exact ⟨Nat.le_refl _,fun k hk=>by rw [List.getD_eq_getElem?_getD,List.getElem?_eq_none hk]; rfl⟩
 ·repeat' first|exact rfl|exact trivial|exact wR|exact lR _|apply aI
  simp
 rintro n ⟨hn,hz⟩ _
 have fin : (n = 0 ∨ a.getD (n - 1) 0 ≠ 0) → a.take n = wd (val a):=trim_eq hw hn hz
 have cut : a.take n = wd (val a) → ((a.map (AV.int .u32)).drop (0 : Int).toNat).take ((n : Int).toNat - (0 : Int).toNat) = (wd (val a)).map (AV.int .u32):=by
  intro e
  rw [← e]; simp [List.map_take]
 have hll : a.take n = wd (val a) → (wd (val a)).length ≤ a.length:=by
  intro e
  rw [← e]; simp; omega
 conv=>whnf
 refine And.intro (fun h=>?_) (fun h=>?_)
 ·conv=>whnf
  refine zA ?_;conv=>whnf
  refine aidxN' 0 (i:=n - 1) (by omega) (by omega) ?_
  conv=>whnf
  refine And.intro (fun h0=>?_) (fun h0=>?_)
  ·conv=>whnf
   refine zA ?_;conv=>whnf
   refine ⟨n - 1,?_,?_,?_⟩
   ·refine ⟨by omega,fun k hk=>?_⟩
    by_cases hkn : k = n - 1
    ·subst hkn; exact h0
    ·exact hz k (by omega)
   ·repeat' first|exact rfl|exact trivial|exact wR|exact lR _|apply aI
    omega
   ·omega
  ·have e:=fin (.inr h0)
   have hlen:=hll e
   conv=>whnf
   refine ⟨⟨by omega,by omega,by simp; omega⟩,?_⟩
   rw [cut e]
   conv=>whnf
   refine .tok (by simp [maxL]; omega) (by simp; omega) ?_
   conv=>whnf
   refine fM ?_;(conv=>whnf);refine ⟨?_,rfl⟩;conv=>whnf
   exact ⟨rfl,leRL_of (by simp)⟩
 ·have e:=fin (.inl (by omega))
  have hlen:=hll e
  conv=>whnf
  refine ⟨⟨by omega,by omega,by simp; omega⟩,?_⟩
  rw [cut e]
  conv=>whnf
  refine .tok (by simp [maxL]; omega) (by simp; omega) ?_
  conv=>whnf
  refine fM ?_;(conv=>whnf);refine ⟨?_,rfl⟩;conv=>whnf
  exact ⟨rfl,leRL_of (by simp)⟩

theorem c_rWord (a : List Int) (i : Nat) : FnH Tryz.prog 137 [wL a,.int .i64 i] [] (.int .u64 (a.getD i 0)) []:=by
 refine FnH.intro lay mixed Tryz.func137 (by kernel_rfl) rfl (by kernel_rfl) rfl fun hok=>?_
 have hw : Ws a:=Ws.ok hok.1.2
 conv=>whnf
 refine And.intro (fun h=>?_) (fun h=>?_)
 ·have h : i < a.length:=by simp only [List.length_map] at h; omega
  conv=>whnf
  refine aidxN' 0 rfl h ?_
  conv=>whnf
  refine fM ?_;(conv=>whnf);refine ⟨?_,rfl⟩;conv=>whnf
  have:=hw.getD (i:=i)
  exact ⟨rfl,wrap_u64 (by omega) (by omega)⟩
 ·have h : a.length ≤ i:=by simp only [List.length_map] at h; omega
  conv=>whnf
  refine fM ?_;(conv=>whnf);refine ⟨?_,rfl⟩;conv=>whnf
  refine ⟨rfl,?_⟩
  rw [List.getD_eq_getElem?_getD,List.getElem?_eq_none h]; rfl

theorem r_size : FnH Tryz.prog 134 [.int .i64 1] [] (wL [1,0]) []:=by
 refine FnH.intro lay mixed Tryz.func134 (by kernel_rfl) rfl (by kernel_rfl) rfl fun hok=>?_
 conv=>whnf
 (repeat' ((first|refine LoopE.step 300 ?_|refine zY ?_|refine zN ?_|refine zI ?_|refine zD ?_|refine AIdx.mk ⟨_,⟨by decide +kernel,rfl⟩,?_⟩|refine zC ?_|refine zT ?_|refine zU ?_|refine AApp.mk (by decide +kernel) (by decide +kernel) ?_|refine AMake.wr ?_|refine ADraw.auto (by kernel_rfl) ?_);(conv=>whnf)))
 refine fM ?_;(conv=>whnf);refine ⟨?_,rfl⟩;conv=>whnf
 exact ⟨rfl,⟨rfl,by decide +kernel⟩,⟨rfl,by decide +kernel⟩,trivial⟩

theorem r_bits : FnH Tryz.prog 119 [wL [1,0]] [] (.int .i64 1) []:=by
 refine FnH.intro lay mixed Tryz.func119 (by kernel_rfl) rfl (by kernel_rfl) rfl fun hok=>?_
 conv=>whnf
 (repeat' ((first|refine LoopE.step 300 ?_|refine zY ?_|refine zN ?_|refine zI ?_|refine zD ?_|refine AIdx.mk ⟨_,⟨by decide +kernel,rfl⟩,?_⟩|refine zC ?_|refine zT ?_|refine zU ?_|refine AApp.mk (by decide +kernel) (by decide +kernel) ?_|refine AMake.wr ?_|refine ADraw.auto (by kernel_rfl) ?_);(conv=>whnf)))
 refine fM ?_;(conv=>whnf);refine ⟨?_,rfl⟩;conv=>whnf
 exact ⟨rfl,by decide +kernel⟩

theorem r_up1 : FnH Tryz.prog 136 [wL [1],.int .i64 31] [] (wL [2147483648]) []:=by
 have ct:=c_rTrim [2147483648,0] (by decide)
 rw [show wd (val [2147483648,0]) = [2147483648] from by decide +kernel] at ct
 refine FnH.intro lay mixed Tryz.func136 (by kernel_rfl) rfl (by kernel_rfl) rfl fun hok=>?_
 conv=>whnf
 (repeat' ((first|refine LoopE.step 300 ?_|refine zY ?_|refine zN ?_|refine zI ?_|refine zD ?_|refine AIdx.mk ⟨_,⟨by decide +kernel,rfl⟩,?_⟩|refine zC ?_|refine zT ?_|refine zU ?_|refine AApp.mk (by decide +kernel) (by decide +kernel) ?_|refine AMake.wr ?_|refine ADraw.auto (by kernel_rfl) ?_);(conv=>whnf)))
 refine .pure _ _ ?_ ⟨rfl,rfl⟩ (ct) fun _=>?_
 ·(repeat' (first|exact trivial|refine aI ?_ ?_|decide +kernel|exact rfl))
 conv=>whnf
 (repeat' ((first|refine LoopE.step 300 ?_|refine zY ?_|refine zN ?_|refine zI ?_|refine zD ?_|refine AIdx.mk ⟨_,⟨by decide +kernel,rfl⟩,?_⟩|refine zC ?_|refine zT ?_|refine zU ?_|refine AApp.mk (by decide +kernel) (by decide +kernel) ?_|refine AMake.wr ?_|refine ADraw.auto (by kernel_rfl) ?_);(conv=>whnf)))
 refine fM ?_;(conv=>whnf);refine ⟨?_,rfl⟩;conv=>whnf
 all_goals exact wk

theorem r_up2 : FnH Tryz.prog 136 [wL [1,0],.int .i64 31] [] (wL [2147483648]) []:=by
 have ct:=c_rTrim [2147483648,0,0] (by decide)
 rw [show wd (val [2147483648,0,0]) = [2147483648] from by decide +kernel] at ct
 refine FnH.intro lay mixed Tryz.func136 (by kernel_rfl) rfl (by kernel_rfl) rfl fun hok=>?_
 conv=>whnf
 (repeat' ((first|refine LoopE.step 300 ?_|refine zY ?_|refine zN ?_|refine zI ?_|refine zD ?_|refine AIdx.mk ⟨_,⟨by decide +kernel,rfl⟩,?_⟩|refine zC ?_|refine zT ?_|refine zU ?_|refine AApp.mk (by decide +kernel) (by decide +kernel) ?_|refine AMake.wr ?_|refine ADraw.auto (by kernel_rfl) ?_);(conv=>whnf)))
 refine .pure _ _ ?_ ⟨rfl,rfl⟩ (ct) fun _=>?_
 ·(repeat' (first|exact trivial|refine aI ?_ ?_|decide +kernel|exact rfl))
 conv=>whnf
 (repeat' ((first|refine LoopE.step 300 ?_|refine zY ?_|refine zN ?_|refine zI ?_|refine zD ?_|refine AIdx.mk ⟨_,⟨by decide +kernel,rfl⟩,?_⟩|refine zC ?_|refine zT ?_|refine zU ?_|refine AApp.mk (by decide +kernel) (by decide +kernel) ?_|refine AMake.wr ?_|refine ADraw.auto (by kernel_rfl) ?_);(conv=>whnf)))
 refine fM ?_;(conv=>whnf);refine ⟨?_,rfl⟩;conv=>whnf
 all_goals exact wk

theorem r_cmp : FnH Tryz.prog 139 [wL [2147483648],wL [2147483648]] [] (.int .i64 0) []:=by
 have cw:=c_rWord [2147483648] 0
 refine FnH.intro lay mixed Tryz.func139 (by kernel_rfl) rfl (by kernel_rfl) rfl fun hok=>?_
 conv=>whnf
 (repeat' ((first|refine LoopE.step 300 ?_|refine zY ?_|refine zN ?_|refine zI ?_|refine zD ?_|refine AIdx.mk ⟨_,⟨by decide +kernel,rfl⟩,?_⟩|refine zC ?_|refine zT ?_|refine zU ?_|refine AApp.mk (by decide +kernel) (by decide +kernel) ?_|refine AMake.wr ?_|refine ADraw.auto (by kernel_rfl) ?_);(conv=>whnf)))
 refine .pure _ _ ?_ ⟨rfl,rfl⟩ (cw) fun _=>?_
 ·(repeat' (first|exact trivial|refine aI ?_ ?_|decide +kernel|exact rfl))
 conv=>whnf
 (repeat' ((first|refine LoopE.step 300 ?_|refine zY ?_|refine zN ?_|refine zI ?_|refine zD ?_|refine AIdx.mk ⟨_,⟨by decide +kernel,rfl⟩,?_⟩|refine zC ?_|refine zT ?_|refine zU ?_|refine AApp.mk (by decide +kernel) (by decide +kernel) ?_|refine AMake.wr ?_|refine ADraw.auto (by kernel_rfl) ?_);(conv=>whnf)))
 refine .pure _ _ ?_ ⟨rfl,rfl⟩ (cw) fun _=>?_
 ·(repeat' (first|exact trivial|refine aI ?_ ?_|decide +kernel|exact rfl))
 conv=>whnf
 (repeat' ((first|refine LoopE.step 300 ?_|refine zY ?_|refine zN ?_|refine zI ?_|refine zD ?_|refine AIdx.mk ⟨_,⟨by decide +kernel,rfl⟩,?_⟩|refine zC ?_|refine zT ?_|refine zU ?_|refine AApp.mk (by decide +kernel) (by decide +kernel) ?_|refine AMake.wr ?_|refine ADraw.auto (by kernel_rfl) ?_);(conv=>whnf)))
 refine .pure _ _ ?_ ⟨rfl,rfl⟩ (cw) fun _=>?_
 ·(repeat' (first|exact trivial|refine aI ?_ ?_|decide +kernel|exact rfl))
 conv=>whnf
 (repeat' ((first|refine LoopE.step 300 ?_|refine zY ?_|refine zN ?_|refine zI ?_|refine zD ?_|refine AIdx.mk ⟨_,⟨by decide +kernel,rfl⟩,?_⟩|refine zC ?_|refine zT ?_|refine zU ?_|refine AApp.mk (by decide +kernel) (by decide +kernel) ?_|refine AMake.wr ?_|refine ADraw.auto (by kernel_rfl) ?_);(conv=>whnf)))
 refine .pure _ _ ?_ ⟨rfl,rfl⟩ (cw) fun _=>?_
 ·(repeat' (first|exact trivial|refine aI ?_ ?_|decide +kernel|exact rfl))
 conv=>whnf
 (repeat' ((first|refine LoopE.step 300 ?_|refine zY ?_|refine zN ?_|refine zI ?_|refine zD ?_|refine AIdx.mk ⟨_,⟨by decide +kernel,rfl⟩,?_⟩|refine zC ?_|refine zT ?_|refine zU ?_|refine AApp.mk (by decide +kernel) (by decide +kernel) ?_|refine AMake.wr ?_|refine ADraw.auto (by kernel_rfl) ?_);(conv=>whnf)))
 refine fM ?_;(conv=>whnf);refine ⟨?_,rfl⟩;conv=>whnf
 exact ⟨rfl,rfl⟩

theorem r_sub : FnH Tryz.prog 140 [wL [2147483648],wL [2147483648]] [] (.tup [wL [],.int .i64 0]) []:=by
 have cw:=c_rWord [2147483648] 0
 have ct:=c_rTrim [0] (by decide)
 rw [show wd (val [0]) = [] from by decide +kernel] at ct
 refine FnH.intro lay mixed Tryz.func140 (by kernel_rfl) rfl (by kernel_rfl) rfl fun hok=>?_
 conv=>whnf
 (repeat' ((first|refine LoopE.step 300 ?_|refine zY ?_|refine zN ?_|refine zI ?_|refine zD ?_|refine AIdx.mk ⟨_,⟨by decide +kernel,rfl⟩,?_⟩|refine zC ?_|refine zT ?_|refine zU ?_|refine AApp.mk (by decide +kernel) (by decide +kernel) ?_|refine AMake.wr ?_|refine ADraw.auto (by kernel_rfl) ?_);(conv=>whnf)))
 refine .pure _ _ ?_ ⟨rfl,rfl⟩ (r_cmp) fun _=>?_
 ·(repeat' (first|exact trivial|refine aI ?_ ?_|decide +kernel|exact rfl))
 conv=>whnf
 (repeat' ((first|refine LoopE.step 300 ?_|refine zY ?_|refine zN ?_|refine zI ?_|refine zD ?_|refine AIdx.mk ⟨_,⟨by decide +kernel,rfl⟩,?_⟩|refine zC ?_|refine zT ?_|refine zU ?_|refine AApp.mk (by decide +kernel) (by decide +kernel) ?_|refine AMake.wr ?_|refine ADraw.auto (by kernel_rfl) ?_);(conv=>whnf)))
 refine .pure _ _ ?_ ⟨rfl,rfl⟩ (cw) fun _=>?_
 ·(repeat' (first|exact trivial|refine aI ?_ ?_|decide +kernel|exact rfl))
 conv=>whnf
 (repeat' ((first|refine LoopE.step 300 ?_|refine zY ?_|refine zN ?_|refine zI ?_|refine zD ?_|refine AIdx.mk ⟨_,⟨by decide +kernel,rfl⟩,?_⟩|refine zC ?_|refine zT ?_|refine zU ?_|refine AApp.mk (by decide +kernel) (by decide +kernel) ?_|refine AMake.wr ?_|refine ADraw.auto (by kernel_rfl) ?_);(conv=>whnf)))
 refine .pure _ _ ?_ ⟨rfl,rfl⟩ (cw) fun _=>?_
 ·(repeat' (first|exact trivial|refine aI ?_ ?_|decide +kernel|exact rfl))
 conv=>whnf
 (repeat' ((first|refine LoopE.step 300 ?_|refine zY ?_|refine zN ?_|refine zI ?_|refine zD ?_|refine AIdx.mk ⟨_,⟨by decide +kernel,rfl⟩,?_⟩|refine zC ?_|refine zT ?_|refine zU ?_|refine AApp.mk (by decide +kernel) (by decide +kernel) ?_|refine AMake.wr ?_|refine ADraw.auto (by kernel_rfl) ?_);(conv=>whnf)))
 refine .pure _ _ ?_ ⟨rfl,rfl⟩ (ct) fun _=>?_
 ·(repeat' (first|exact trivial|refine aI ?_ ?_|decide +kernel|exact rfl))
 conv=>whnf
 (repeat' ((first|refine LoopE.step 300 ?_|refine zY ?_|refine zN ?_|refine zI ?_|refine zD ?_|refine AIdx.mk ⟨_,⟨by decide +kernel,rfl⟩,?_⟩|refine zC ?_|refine zT ?_|refine zU ?_|refine AApp.mk (by decide +kernel) (by decide +kernel) ?_|refine AMake.wr ?_|refine ADraw.auto (by kernel_rfl) ?_);(conv=>whnf)))
 refine fM ?_;(conv=>whnf);refine ⟨?_,rfl⟩;conv=>whnf
 all_goals exact wk

theorem r_down : FnH Tryz.prog 141 [wL [],.int .i64 31] [] (wL []) []:=by
 have ct:=c_rTrim [] (by decide)
 rw [show wd (val []) = [] from by decide +kernel] at ct
 refine FnH.intro lay mixed Tryz.func141 (by kernel_rfl) rfl (by kernel_rfl) rfl fun hok=>?_
 conv=>whnf
 (repeat' ((first|refine LoopE.step 300 ?_|refine zY ?_|refine zN ?_|refine zI ?_|refine zD ?_|refine AIdx.mk ⟨_,⟨by decide +kernel,rfl⟩,?_⟩|refine zC ?_|refine zT ?_|refine zU ?_|refine AApp.mk (by decide +kernel) (by decide +kernel) ?_|refine AMake.wr ?_|refine ADraw.auto (by kernel_rfl) ?_);(conv=>whnf)))
 refine .pure _ _ ?_ ⟨rfl,rfl⟩ (ct) fun _=>?_
 ·(repeat' (first|exact trivial|refine aI ?_ ?_|decide +kernel|exact rfl))
 conv=>whnf
 (repeat' ((first|refine LoopE.step 300 ?_|refine zY ?_|refine zN ?_|refine zI ?_|refine zD ?_|refine AIdx.mk ⟨_,⟨by decide +kernel,rfl⟩,?_⟩|refine zC ?_|refine zT ?_|refine zU ?_|refine AApp.mk (by decide +kernel) (by decide +kernel) ?_|refine AMake.wr ?_|refine ADraw.auto (by kernel_rfl) ?_);(conv=>whnf)))
 refine fM ?_;(conv=>whnf);refine ⟨?_,rfl⟩;conv=>whnf
 all_goals exact wk

theorem r_mul : FnH Tryz.prog 138 [wL [2147483648],wL [1]] [] (wL [2147483648]) []:=by
 have cw0:=c_rWord [1] 0
 have cw1:=c_rWord [1] 1
 have ct:=c_rTrim [2147483648,0,0] (by decide)
 rw [show wd (val [2147483648,0,0]) = [2147483648] from by decide +kernel] at ct
 refine FnH.intro lay mixed Tryz.func138 (by kernel_rfl) rfl (by kernel_rfl) rfl fun hok=>?_
 conv=>whnf
 (repeat' ((first|refine LoopE.step 300 ?_|refine zY ?_|refine zN ?_|refine zI ?_|refine zD ?_|refine AIdx.mk ⟨_,⟨by decide +kernel,rfl⟩,?_⟩|refine zC ?_|refine zT ?_|refine zU ?_|refine AApp.mk (by decide +kernel) (by decide +kernel) ?_|refine AMake.wr ?_|refine ADraw.auto (by kernel_rfl) ?_);(conv=>whnf)))
 refine ACallP.pure _ _ ?_ ⟨rfl,rfl⟩ (cw0) ?_
 ·(repeat' (first|exact trivial|refine aI ?_ ?_|decide +kernel|exact rfl))
 conv=>whnf
 (repeat' ((first|refine LoopE.step 300 ?_|refine zY ?_|refine zN ?_|refine zI ?_|refine zD ?_|refine AIdx.mk ⟨_,⟨by decide +kernel,rfl⟩,?_⟩|refine zC ?_|refine zT ?_|refine zU ?_|refine AApp.mk (by decide +kernel) (by decide +kernel) ?_|refine AMake.wr ?_|refine ADraw.auto (by kernel_rfl) ?_);(conv=>whnf)))
 refine ACallP.pure _ _ ?_ ⟨rfl,rfl⟩ (cw1) ?_
 ·(repeat' (first|exact trivial|refine aI ?_ ?_|decide +kernel|exact rfl))
 conv=>whnf
 (repeat' ((first|refine LoopE.step 300 ?_|refine zY ?_|refine zN ?_|refine zI ?_|refine zD ?_|refine AIdx.mk ⟨_,⟨by decide +kernel,rfl⟩,?_⟩|refine zC ?_|refine zT ?_|refine zU ?_|refine AApp.mk (by decide +kernel) (by decide +kernel) ?_|refine AMake.wr ?_|refine ADraw.auto (by kernel_rfl) ?_);(conv=>whnf)))
 refine .gen _ _ (FnH.frz 0 rfl rfl (by decide +kernel) (FnH.ofPure (ct) ?_ ⟨rfl,rfl⟩)) fun _=>?_
 ·(repeat' (first|exact trivial|refine aI ?_ ?_|decide +kernel|exact rfl))
 conv=>whnf
 (repeat' ((first|refine LoopE.step 300 ?_|refine zY ?_|refine zN ?_|refine zI ?_|refine zD ?_|refine AIdx.mk ⟨_,⟨by decide +kernel,rfl⟩,?_⟩|refine zC ?_|refine zT ?_|refine zU ?_|refine AApp.mk (by decide +kernel) (by decide +kernel) ?_|refine AMake.wr ?_|refine ADraw.auto (by kernel_rfl) ?_);(conv=>whnf)))
 refine fM ?_;(conv=>whnf);refine ⟨?_,rfl⟩;conv=>whnf
 all_goals exact wk

theorem r_div11 : FnH Tryz.prog 130 [wL [1],wL [1]] [] (.tup [wL [1],wL [],.int .i64 0]) []:=by
 have cw0:=c_rWord [2147483648] 0
 have cw1:=c_rWord [2147483648] 1
 have ct1:=c_rTrim [1] (by decide)
 rw [show wd (val [1]) = [1] from by decide +kernel] at ct1
 have ct2:=c_rTrim [2147483648] (by decide)
 rw [show wd (val [2147483648]) = [2147483648] from by decide +kernel] at ct2
 refine FnH.intro lay mixed Tryz.func130 (by kernel_rfl) rfl (by kernel_rfl) rfl fun hok=>?_
 conv=>whnf
 refine .pure _ _ ?_ ⟨rfl,rfl⟩ (ct1) fun _=>?_
 ·(repeat' (first|exact trivial|refine aI ?_ ?_|decide +kernel|exact rfl))
 conv=>whnf
 (repeat' ((first|refine LoopE.step 300 ?_|refine zY ?_|refine zN ?_|refine zI ?_|refine zD ?_|refine AIdx.mk ⟨_,⟨by decide +kernel,rfl⟩,?_⟩|refine zC ?_|refine zT ?_|refine zU ?_|refine AApp.mk (by decide +kernel) (by decide +kernel) ?_|refine AMake.wr ?_|refine ADraw.auto (by kernel_rfl) ?_);(conv=>whnf)))
 refine .pure _ _ ?_ ⟨rfl,rfl⟩ (r_up1) fun _=>?_
 ·(repeat' (first|exact trivial|refine aI ?_ ?_|decide +kernel|exact rfl))
 conv=>whnf
 refine .pure _ _ ?_ ⟨rfl,rfl⟩ (r_up1) fun _=>?_
 ·(repeat' (first|exact trivial|refine aI ?_ ?_|decide +kernel|exact rfl))
 conv=>whnf
 refine ADraw.mk ⟨[true,true,false,true,true,true,true,true,true,true,true,true,true,true,true],by kernel_rfl,?_⟩
 conv=>whnf
 refine And.intro (by decide +kernel) (.wr ?_)
 conv=>whnf
 refine And.intro (inr64 (by decide +kernel) (by decide +kernel)) ?_
 conv=>whnf
 refine And.intro (inr64 (by decide +kernel) (by decide +kernel)) ?_
 conv=>whnf
 refine ACut.mk ⟨by decide +kernel,?_⟩
 conv=>whnf
 refine AApp0.pure (by decide +kernel) (by decide +kernel) ⟨rfl,?_⟩
 conv=>whnf
 (repeat' ((first|refine LoopE.step 300 ?_|refine zY ?_|refine zN ?_|refine zI ?_|refine zD ?_|refine AIdx.mk ⟨_,⟨by decide +kernel,rfl⟩,?_⟩|refine zC ?_|refine zT ?_|refine zU ?_|refine AApp.mk (by decide +kernel) (by decide +kernel) ?_|refine AMake.wr ?_|refine ADraw.auto (by kernel_rfl) ?_);(conv=>whnf)))
 refine .pure _ _ ?_ ⟨rfl,rfl⟩ (ct2) fun _=>?_
 ·(repeat' (first|exact trivial|refine aI ?_ ?_|decide +kernel|exact rfl))
 conv=>whnf
 (repeat' ((first|refine LoopE.step 300 ?_|refine zY ?_|refine zN ?_|refine zI ?_|refine zD ?_|refine AIdx.mk ⟨_,⟨by decide +kernel,rfl⟩,?_⟩|refine zC ?_|refine zT ?_|refine zU ?_|refine AApp.mk (by decide +kernel) (by decide +kernel) ?_|refine AMake.wr ?_|refine ADraw.auto (by kernel_rfl) ?_);(conv=>whnf)))
 refine .pure _ _ ?_ ⟨rfl,rfl⟩ (cw1) fun _=>?_
 ·(repeat' (first|exact trivial|refine aI ?_ ?_|decide +kernel|exact rfl))
 conv=>whnf
 (repeat' ((first|refine LoopE.step 300 ?_|refine zY ?_|refine zN ?_|refine zI ?_|refine zD ?_|refine AIdx.mk ⟨_,⟨by decide +kernel,rfl⟩,?_⟩|refine zC ?_|refine zT ?_|refine zU ?_|refine AApp.mk (by decide +kernel) (by decide +kernel) ?_|refine AMake.wr ?_|refine ADraw.auto (by kernel_rfl) ?_);(conv=>whnf)))
 refine .pure _ _ ?_ ⟨rfl,rfl⟩ (cw0) fun _=>?_
 ·(repeat' (first|exact trivial|refine aI ?_ ?_|decide +kernel|exact rfl))
 conv=>whnf
 (repeat' ((first|refine LoopE.step 300 ?_|refine zY ?_|refine zN ?_|refine zI ?_|refine zD ?_|refine AIdx.mk ⟨_,⟨by decide +kernel,rfl⟩,?_⟩|refine zC ?_|refine zT ?_|refine zU ?_|refine AApp.mk (by decide +kernel) (by decide +kernel) ?_|refine AMake.wr ?_|refine ADraw.auto (by kernel_rfl) ?_);(conv=>whnf)))
 refine .pure _ _ ?_ ⟨rfl,rfl⟩ (cw0) fun _=>?_
 ·(repeat' (first|exact trivial|refine aI ?_ ?_|decide +kernel|exact rfl))
 conv=>whnf
 (repeat' ((first|refine LoopE.step 300 ?_|refine zY ?_|refine zN ?_|refine zI ?_|refine zD ?_|refine AIdx.mk ⟨_,⟨by decide +kernel,rfl⟩,?_⟩|refine zC ?_|refine zT ?_|refine zU ?_|refine AApp.mk (by decide +kernel) (by decide +kernel) ?_|refine AMake.wr ?_|refine ADraw.auto (by kernel_rfl) ?_);(conv=>whnf)))
 refine .pure _ _ ?_ ⟨rfl,rfl⟩ (r_mul) fun _=>?_
 ·(repeat' (first|exact trivial|refine aI ?_ ?_|decide +kernel|exact rfl))
 conv=>whnf
 (repeat' ((first|refine LoopE.step 300 ?_|refine zY ?_|refine zN ?_|refine zI ?_|refine zD ?_|refine AIdx.mk ⟨_,⟨by decide +kernel,rfl⟩,?_⟩|refine zC ?_|refine zT ?_|refine zU ?_|refine AApp.mk (by decide +kernel) (by decide +kernel) ?_|refine AMake.wr ?_|refine ADraw.auto (by kernel_rfl) ?_);(conv=>whnf)))
 refine .pure _ _ ?_ ⟨rfl,rfl⟩ (r_cmp) fun _=>?_
 ·(repeat' (first|exact trivial|refine aI ?_ ?_|decide +kernel|exact rfl))
 conv=>whnf
 (repeat' ((first|refine LoopE.step 300 ?_|refine zY ?_|refine zN ?_|refine zI ?_|refine zD ?_|refine AIdx.mk ⟨_,⟨by decide +kernel,rfl⟩,?_⟩|refine zC ?_|refine zT ?_|refine zU ?_|refine AApp.mk (by decide +kernel) (by decide +kernel) ?_|refine AMake.wr ?_|refine ADraw.auto (by kernel_rfl) ?_);(conv=>whnf)))
 refine .pure _ _ ?_ ⟨rfl,rfl⟩ (r_sub) fun _=>?_
 ·(repeat' (first|exact trivial|refine aI ?_ ?_|decide +kernel|exact rfl))
 conv=>whnf
 (repeat' ((first|refine LoopE.step 300 ?_|refine zY ?_|refine zN ?_|refine zI ?_|refine zD ?_|refine AIdx.mk ⟨_,⟨by decide +kernel,rfl⟩,?_⟩|refine zC ?_|refine zT ?_|refine zU ?_|refine AApp.mk (by decide +kernel) (by decide +kernel) ?_|refine AMake.wr ?_|refine ADraw.auto (by kernel_rfl) ?_);(conv=>whnf)))
 refine .gen _ _ (FnH.frz 0 rfl rfl (by decide +kernel) (FnH.ofPure (ct1) ?_ ⟨rfl,rfl⟩)) fun _=>?_
 ·(repeat' (first|exact trivial|refine aI ?_ ?_|decide +kernel|exact rfl))
 conv=>whnf
 (repeat' ((first|refine LoopE.step 300 ?_|refine zY ?_|refine zN ?_|refine zI ?_|refine zD ?_|refine AIdx.mk ⟨_,⟨by decide +kernel,rfl⟩,?_⟩|refine zC ?_|refine zT ?_|refine zU ?_|refine AApp.mk (by decide +kernel) (by decide +kernel) ?_|refine AMake.wr ?_|refine ADraw.auto (by kernel_rfl) ?_);(conv=>whnf)))
 refine .pure _ _ ?_ ⟨rfl,rfl⟩ (r_down) fun _=>?_
 ·(repeat' (first|exact trivial|refine aI ?_ ?_|decide +kernel|exact rfl))
 conv=>whnf
 (repeat' ((first|refine LoopE.step 300 ?_|refine zY ?_|refine zN ?_|refine zI ?_|refine zD ?_|refine AIdx.mk ⟨_,⟨by decide +kernel,rfl⟩,?_⟩|refine zC ?_|refine zT ?_|refine zU ?_|refine AApp.mk (by decide +kernel) (by decide +kernel) ?_|refine AMake.wr ?_|refine ADraw.auto (by kernel_rfl) ?_);(conv=>whnf)))
 refine fM ?_;(conv=>whnf);refine ⟨?_,rfl⟩;conv=>whnf
 (repeat' (first|exact trivial|refine aI ?_ ?_|decide +kernel|exact rfl))

theorem r_div101 : FnH Tryz.prog 130 [wL [1,0],wL [1]] [] (.tup [wL [1],wL [],.int .i64 0]) []:=by
 have cw0:=c_rWord [2147483648] 0
 have cw1:=c_rWord [2147483648] 1
 have ct1:=c_rTrim [1] (by decide)
 rw [show wd (val [1]) = [1] from by decide +kernel] at ct1
 have ct2:=c_rTrim [2147483648] (by decide)
 rw [show wd (val [2147483648]) = [2147483648] from by decide +kernel] at ct2
 refine FnH.intro lay mixed Tryz.func130 (by kernel_rfl) rfl (by kernel_rfl) rfl fun hok=>?_
 conv=>whnf
 refine .pure _ _ ?_ ⟨rfl,rfl⟩ (ct1) fun _=>?_
 ·(repeat' (first|exact trivial|refine aI ?_ ?_|decide +kernel|exact rfl))
 conv=>whnf
 (repeat' ((first|refine LoopE.step 300 ?_|refine zY ?_|refine zN ?_|refine zI ?_|refine zD ?_|refine AIdx.mk ⟨_,⟨by decide +kernel,rfl⟩,?_⟩|refine zC ?_|refine zT ?_|refine zU ?_|refine AApp.mk (by decide +kernel) (by decide +kernel) ?_|refine AMake.wr ?_|refine ADraw.auto (by kernel_rfl) ?_);(conv=>whnf)))
 refine .pure _ _ ?_ ⟨rfl,rfl⟩ (r_up2) fun _=>?_
 ·(repeat' (first|exact trivial|refine aI ?_ ?_|decide +kernel|exact rfl))
 conv=>whnf
 refine .pure _ _ ?_ ⟨rfl,rfl⟩ (r_up1) fun _=>?_
 ·(repeat' (first|exact trivial|refine aI ?_ ?_|decide +kernel|exact rfl))
 conv=>whnf
 refine ADraw.mk ⟨[true,true,false,true,true,true,true,true,true,true,true,true,true,true,true],by kernel_rfl,?_⟩
 conv=>whnf
 refine And.intro (by decide +kernel) (.wr ?_)
 conv=>whnf
 refine And.intro (inr64 (by decide +kernel) (by decide +kernel)) ?_
 conv=>whnf
 refine And.intro (inr64 (by decide +kernel) (by decide +kernel)) ?_
 conv=>whnf
 refine ACut.mk ⟨by decide +kernel,?_⟩
 conv=>whnf
 refine AApp0.pure (by decide +kernel) (by decide +kernel) ⟨rfl,?_⟩
 conv=>whnf
 (repeat' ((first|refine LoopE.step 300 ?_|refine zY ?_|refine zN ?_|refine zI ?_|refine zD ?_|refine AIdx.mk ⟨_,⟨by decide +kernel,rfl⟩,?_⟩|refine zC ?_|refine zT ?_|refine zU ?_|refine AApp.mk (by decide +kernel) (by decide +kernel) ?_|refine AMake.wr ?_|refine ADraw.auto (by kernel_rfl) ?_);(conv=>whnf)))
 refine .pure _ _ ?_ ⟨rfl,rfl⟩ (ct2) fun _=>?_
 ·(repeat' (first|exact trivial|refine aI ?_ ?_|decide +kernel|exact rfl))
 conv=>whnf
 (repeat' ((first|refine LoopE.step 300 ?_|refine zY ?_|refine zN ?_|refine zI ?_|refine zD ?_|refine AIdx.mk ⟨_,⟨by decide +kernel,rfl⟩,?_⟩|refine zC ?_|refine zT ?_|refine zU ?_|refine AApp.mk (by decide +kernel) (by decide +kernel) ?_|refine AMake.wr ?_|refine ADraw.auto (by kernel_rfl) ?_);(conv=>whnf)))
 refine .pure _ _ ?_ ⟨rfl,rfl⟩ (cw1) fun _=>?_
 ·(repeat' (first|exact trivial|refine aI ?_ ?_|decide +kernel|exact rfl))
 conv=>whnf
 (repeat' ((first|refine LoopE.step 300 ?_|refine zY ?_|refine zN ?_|refine zI ?_|refine zD ?_|refine AIdx.mk ⟨_,⟨by decide +kernel,rfl⟩,?_⟩|refine zC ?_|refine zT ?_|refine zU ?_|refine AApp.mk (by decide +kernel) (by decide +kernel) ?_|refine AMake.wr ?_|refine ADraw.auto (by kernel_rfl) ?_);(conv=>whnf)))
 refine .pure _ _ ?_ ⟨rfl,rfl⟩ (cw0) fun _=>?_
 ·(repeat' (first|exact trivial|refine aI ?_ ?_|decide +kernel|exact rfl))
 conv=>whnf
 (repeat' ((first|refine LoopE.step 300 ?_|refine zY ?_|refine zN ?_|refine zI ?_|refine zD ?_|refine AIdx.mk ⟨_,⟨by decide +kernel,rfl⟩,?_⟩|refine zC ?_|refine zT ?_|refine zU ?_|refine AApp.mk (by decide +kernel) (by decide +kernel) ?_|refine AMake.wr ?_|refine ADraw.auto (by kernel_rfl) ?_);(conv=>whnf)))
 refine .pure _ _ ?_ ⟨rfl,rfl⟩ (cw0) fun _=>?_
 ·(repeat' (first|exact trivial|refine aI ?_ ?_|decide +kernel|exact rfl))
 conv=>whnf
 (repeat' ((first|refine LoopE.step 300 ?_|refine zY ?_|refine zN ?_|refine zI ?_|refine zD ?_|refine AIdx.mk ⟨_,⟨by decide +kernel,rfl⟩,?_⟩|refine zC ?_|refine zT ?_|refine zU ?_|refine AApp.mk (by decide +kernel) (by decide +kernel) ?_|refine AMake.wr ?_|refine ADraw.auto (by kernel_rfl) ?_);(conv=>whnf)))
 refine .pure _ _ ?_ ⟨rfl,rfl⟩ (r_mul) fun _=>?_
 ·(repeat' (first|exact trivial|refine aI ?_ ?_|decide +kernel|exact rfl))
 conv=>whnf
 (repeat' ((first|refine LoopE.step 300 ?_|refine zY ?_|refine zN ?_|refine zI ?_|refine zD ?_|refine AIdx.mk ⟨_,⟨by decide +kernel,rfl⟩,?_⟩|refine zC ?_|refine zT ?_|refine zU ?_|refine AApp.mk (by decide +kernel) (by decide +kernel) ?_|refine AMake.wr ?_|refine ADraw.auto (by kernel_rfl) ?_);(conv=>whnf)))
 refine .pure _ _ ?_ ⟨rfl,rfl⟩ (r_cmp) fun _=>?_
 ·(repeat' (first|exact trivial|refine aI ?_ ?_|decide +kernel|exact rfl))
 conv=>whnf
 (repeat' ((first|refine LoopE.step 300 ?_|refine zY ?_|refine zN ?_|refine zI ?_|refine zD ?_|refine AIdx.mk ⟨_,⟨by decide +kernel,rfl⟩,?_⟩|refine zC ?_|refine zT ?_|refine zU ?_|refine AApp.mk (by decide +kernel) (by decide +kernel) ?_|refine AMake.wr ?_|refine ADraw.auto (by kernel_rfl) ?_);(conv=>whnf)))
 refine .pure _ _ ?_ ⟨rfl,rfl⟩ (r_sub) fun _=>?_
 ·(repeat' (first|exact trivial|refine aI ?_ ?_|decide +kernel|exact rfl))
 conv=>whnf
 (repeat' ((first|refine LoopE.step 300 ?_|refine zY ?_|refine zN ?_|refine zI ?_|refine zD ?_|refine AIdx.mk ⟨_,⟨by decide +kernel,rfl⟩,?_⟩|refine zC ?_|refine zT ?_|refine zU ?_|refine AApp.mk (by decide +kernel) (by decide +kernel) ?_|refine AMake.wr ?_|refine ADraw.auto (by kernel_rfl) ?_);(conv=>whnf)))
 refine .gen _ _ (FnH.frz 0 rfl rfl (by decide +kernel) (FnH.ofPure (ct1) ?_ ⟨rfl,rfl⟩)) fun _=>?_
 ·(repeat' (first|exact trivial|refine aI ?_ ?_|decide +kernel|exact rfl))
 conv=>whnf
 (repeat' ((first|refine LoopE.step 300 ?_|refine zY ?_|refine zN ?_|refine zI ?_|refine zD ?_|refine AIdx.mk ⟨_,⟨by decide +kernel,rfl⟩,?_⟩|refine zC ?_|refine zT ?_|refine zU ?_|refine AApp.mk (by decide +kernel) (by decide +kernel) ?_|refine AMake.wr ?_|refine ADraw.auto (by kernel_rfl) ?_);(conv=>whnf)))
 refine .pure _ _ ?_ ⟨rfl,rfl⟩ (r_down) fun _=>?_
 ·(repeat' (first|exact trivial|refine aI ?_ ?_|decide +kernel|exact rfl))
 conv=>whnf
 (repeat' ((first|refine LoopE.step 300 ?_|refine zY ?_|refine zN ?_|refine zI ?_|refine zD ?_|refine AIdx.mk ⟨_,⟨by decide +kernel,rfl⟩,?_⟩|refine zC ?_|refine zT ?_|refine zU ?_|refine AApp.mk (by decide +kernel) (by decide +kernel) ?_|refine AMake.wr ?_|refine ADraw.auto (by kernel_rfl) ?_);(conv=>whnf)))
 refine fM ?_;(conv=>whnf);refine ⟨?_,rfl⟩;conv=>whnf
 (repeat' (first|exact trivial|refine aI ?_ ?_|decide +kernel|exact rfl))

theorem r_gcd : FnH Tryz.prog 120 [wL [1,0],wL [1,0]] [] (wL [1]) []:=by
 have ct:=c_rTrim [1,0] (by decide)
 rw [show wd (val [1,0]) = [1] from by decide +kernel] at ct
 refine FnH.intro lay mixed Tryz.func120 (by kernel_rfl) rfl (by kernel_rfl) rfl fun hok=>?_
 conv=>whnf
 refine .pure _ _ ?_ ⟨rfl,rfl⟩ (ct) fun _=>?_
 ·(repeat' (first|exact trivial|refine aI ?_ ?_|decide +kernel|exact rfl))
 conv=>whnf
 (repeat' ((first|refine LoopE.step 300 ?_|refine zY ?_|refine zN ?_|refine zI ?_|refine zD ?_|refine AIdx.mk ⟨_,⟨by decide +kernel,rfl⟩,?_⟩|refine zC ?_|refine zT ?_|refine zU ?_|refine AApp.mk (by decide +kernel) (by decide +kernel) ?_|refine AMake.wr ?_|refine ADraw.auto (by kernel_rfl) ?_);(conv=>whnf)))
 refine .pure _ _ ?_ ⟨rfl,rfl⟩ (ct) fun _=>?_
 ·(repeat' (first|exact trivial|refine aI ?_ ?_|decide +kernel|exact rfl))
 conv=>whnf
 (repeat' ((first|refine LoopE.step 300 ?_|refine zY ?_|refine zN ?_|refine zI ?_|refine zD ?_|refine AIdx.mk ⟨_,⟨by decide +kernel,rfl⟩,?_⟩|refine zC ?_|refine zT ?_|refine zU ?_|refine AApp.mk (by decide +kernel) (by decide +kernel) ?_|refine AMake.wr ?_|refine ADraw.auto (by kernel_rfl) ?_);(conv=>whnf)))
 refine .pure _ _ ?_ ⟨rfl,rfl⟩ (r_div11) fun _=>?_
 ·(repeat' (first|exact trivial|refine aI ?_ ?_|decide +kernel|exact rfl))
 conv=>whnf
 (repeat' ((first|refine LoopE.step 300 ?_|refine zY ?_|refine zN ?_|refine zI ?_|refine zD ?_|refine AIdx.mk ⟨_,⟨by decide +kernel,rfl⟩,?_⟩|refine zC ?_|refine zT ?_|refine zU ?_|refine AApp.mk (by decide +kernel) (by decide +kernel) ?_|refine AMake.wr ?_|refine ADraw.auto (by kernel_rfl) ?_);(conv=>whnf)))
 refine fM ?_;(conv=>whnf);refine ⟨?_,rfl⟩;conv=>whnf
 (repeat' (first|exact trivial|refine aI ?_ ?_|decide +kernel|exact rfl))

theorem r_from : FnH Tryz.prog 133 [.bool false,wL [1,0],wL [1,0]] [] (.tup [Rat.av ⟨false,[1],[1]⟩,.int .i64 0]) []:=by
 refine FnH.intro lay mixed Tryz.func133 (by kernel_rfl) rfl (by kernel_rfl) rfl fun hok=>?_
 conv=>whnf
 refine .pure _ _ ?_ ⟨rfl,rfl⟩ (r_bits) fun _=>?_
 ·(repeat' (first|exact trivial|refine aI ?_ ?_|decide +kernel|exact rfl))
 conv=>whnf
 (repeat' ((first|refine LoopE.step 300 ?_|refine zY ?_|refine zN ?_|refine zI ?_|refine zD ?_|refine AIdx.mk ⟨_,⟨by decide +kernel,rfl⟩,?_⟩|refine zC ?_|refine zT ?_|refine zU ?_|refine AApp.mk (by decide +kernel) (by decide +kernel) ?_|refine AMake.wr ?_|refine ADraw.auto (by kernel_rfl) ?_);(conv=>whnf)))
 refine .pure _ _ ?_ ⟨rfl,rfl⟩ (r_bits) fun _=>?_
 ·(repeat' (first|exact trivial|refine aI ?_ ?_|decide +kernel|exact rfl))
 conv=>whnf
 (repeat' ((first|refine LoopE.step 300 ?_|refine zY ?_|refine zN ?_|refine zI ?_|refine zD ?_|refine AIdx.mk ⟨_,⟨by decide +kernel,rfl⟩,?_⟩|refine zC ?_|refine zT ?_|refine zU ?_|refine AApp.mk (by decide +kernel) (by decide +kernel) ?_|refine AMake.wr ?_|refine ADraw.auto (by kernel_rfl) ?_);(conv=>whnf)))
 refine .pure _ _ ?_ ⟨rfl,rfl⟩ (r_gcd) fun _=>?_
 ·(repeat' (first|exact trivial|refine aI ?_ ?_|decide +kernel|exact rfl))
 conv=>whnf
 (repeat' ((first|refine LoopE.step 300 ?_|refine zY ?_|refine zN ?_|refine zI ?_|refine zD ?_|refine AIdx.mk ⟨_,⟨by decide +kernel,rfl⟩,?_⟩|refine zC ?_|refine zT ?_|refine zU ?_|refine AApp.mk (by decide +kernel) (by decide +kernel) ?_|refine AMake.wr ?_|refine ADraw.auto (by kernel_rfl) ?_);(conv=>whnf)))
 refine .pure _ _ ?_ ⟨rfl,rfl⟩ (r_div101) fun _=>?_
 ·(repeat' (first|exact trivial|refine aI ?_ ?_|decide +kernel|exact rfl))
 conv=>whnf
 (repeat' ((first|refine LoopE.step 300 ?_|refine zY ?_|refine zN ?_|refine zI ?_|refine zD ?_|refine AIdx.mk ⟨_,⟨by decide +kernel,rfl⟩,?_⟩|refine zC ?_|refine zT ?_|refine zU ?_|refine AApp.mk (by decide +kernel) (by decide +kernel) ?_|refine AMake.wr ?_|refine ADraw.auto (by kernel_rfl) ?_);(conv=>whnf)))
 refine .pure _ _ ?_ ⟨rfl,rfl⟩ (r_div101) fun _=>?_
 ·(repeat' (first|exact trivial|refine aI ?_ ?_|decide +kernel|exact rfl))
 conv=>whnf
 (repeat' ((first|refine LoopE.step 300 ?_|refine zY ?_|refine zN ?_|refine zI ?_|refine zD ?_|refine AIdx.mk ⟨_,⟨by decide +kernel,rfl⟩,?_⟩|refine zC ?_|refine zT ?_|refine zU ?_|refine AApp.mk (by decide +kernel) (by decide +kernel) ?_|refine AMake.wr ?_|refine ADraw.auto (by kernel_rfl) ?_);(conv=>whnf)))
 refine fM ?_;(conv=>whnf);refine ⟨?_,rfl⟩;conv=>whnf
 (repeat' (first|exact trivial|refine aI ?_ ?_|decide +kernel|exact rfl))

theorem r_make : FnH Tryz.prog 123 [.int .i64 1,.int .i64 1] [] (.tup [Rat.av ⟨false,[1],[1]⟩,.int .i64 0]) []:=by
 refine FnH.intro lay mixed Tryz.func123 (by kernel_rfl) rfl (by kernel_rfl) rfl fun hok=>?_
 conv=>whnf
 refine .pure _ _ ?_ ⟨rfl,rfl⟩ (r_size) fun _=>?_
 ·(repeat' (first|exact trivial|refine aI ?_ ?_|decide +kernel|exact rfl))
 conv=>whnf
 (repeat' ((first|refine LoopE.step 300 ?_|refine zY ?_|refine zN ?_|refine zI ?_|refine zD ?_|refine AIdx.mk ⟨_,⟨by decide +kernel,rfl⟩,?_⟩|refine zC ?_|refine zT ?_|refine zU ?_|refine AApp.mk (by decide +kernel) (by decide +kernel) ?_|refine AMake.wr ?_|refine ADraw.auto (by kernel_rfl) ?_);(conv=>whnf)))
 refine .pure _ _ ?_ ⟨rfl,rfl⟩ (r_size) fun _=>?_
 ·(repeat' (first|exact trivial|refine aI ?_ ?_|decide +kernel|exact rfl))
 conv=>whnf
 (repeat' ((first|refine LoopE.step 300 ?_|refine zY ?_|refine zN ?_|refine zI ?_|refine zD ?_|refine AIdx.mk ⟨_,⟨by decide +kernel,rfl⟩,?_⟩|refine zC ?_|refine zT ?_|refine zU ?_|refine AApp.mk (by decide +kernel) (by decide +kernel) ?_|refine AMake.wr ?_|refine ADraw.auto (by kernel_rfl) ?_);(conv=>whnf)))
 refine .pure _ _ ?_ ⟨rfl,rfl⟩ r_from fun _=>?_
 ·refine ⟨?_,le0_refl _,le0_refl _,trivial⟩
  show _ ↔ _
  simp
 conv=>whnf
 refine fM ?_;(conv=>whnf);refine ⟨?_,rfl⟩;conv=>whnf
 (repeat' (first|exact trivial|refine aI ?_ ?_|decide +kernel|exact rfl))

theorem r_of : FnH Tryz.prog 94 [.int .i64 1] [] (Rat.av ⟨false,[1],[1]⟩) []:=by
 refine FnH.intro lay mixed Tryz.func94 (by kernel_rfl) rfl (by kernel_rfl) rfl fun hok=>?_
 conv=>whnf
 refine .pure _ _ ?_ ⟨rfl,rfl⟩ (r_make) fun _=>?_
 ·(repeat' (first|exact trivial|refine aI ?_ ?_|decide +kernel|exact rfl))
 conv=>whnf
 (repeat' ((first|refine LoopE.step 300 ?_|refine zY ?_|refine zN ?_|refine zI ?_|refine zD ?_|refine AIdx.mk ⟨_,⟨by decide +kernel,rfl⟩,?_⟩|refine zC ?_|refine zT ?_|refine zU ?_|refine AApp.mk (by decide +kernel) (by decide +kernel) ?_|refine AMake.wr ?_|refine ADraw.auto (by kernel_rfl) ?_);(conv=>whnf)))
 refine fM ?_;(conv=>whnf);refine ⟨?_,rfl⟩;conv=>whnf
 (repeat' (first|exact trivial|refine aI ?_ ?_|decide +kernel|exact rfl))

theorem lt_of_drop {a b : List Int} (ha : Ws a) (hb : Ws b) {i : Nat} (h : val (a.drop i) < val (b.drop i)) : val a < val b:=by
 rw [← val_drop ha,← val_drop hb] at h
 apply Classical.byContradiction
 intro hn
 have:=Nat.div_le_div_right (c:=4294967296 ^ i) (Nat.le_of_not_lt hn)
 omega

theorem c_rCmp (a b : List Int) (ha : a.length ≤ 1000001) (hb : b.length ≤ 1000001) : FnH Tryz.prog 139 [wL a,wL b] [] (.int .i64 (cmpN (val a) (val b))) []:=by
 refine FnH.intro lay mixed Tryz.func139 (by kernel_rfl) rfl (by kernel_rfl) rfl fun hok=>?_
 have wa : Ws a:=Ws.ok hok.1.2
 have wb : Ws b:=Ws.ok hok.2.1.2
 conv=>whnf
 obtain ⟨m,hm⟩ : ∃ m : Nat,max (((a.map (AV.int .u32)).length : Nat) : Int) (((b.map (AV.int .u32)).length : Nat) : Int) = (m : Int):=⟨max a.length b.length,by simp; omega⟩
 have hm1 : a.length ≤ m ∧ b.length ≤ m ∧ m ≤ 1000001:=by simp at hm; omega
 rw [hm]
 refine ⟨inr64 (by omega) (by omega),?_⟩
 conv=>whnf
 refine LoopE.of <| LoopSpec.inv (.refl _ _) (fun (n : Nat)=>n ≤ m ∧ val (a.drop n) = val (b.drop n)) (fun (n : Nat)=>[(5,.int .i64 ((n : Int) - 1))]) (fun _=>_) (fun (n : Nat)=>n) m ?_ (fun _=>rfl) ?_ ?_
 ·exact ⟨Nat.le_refl _,by rw [List.drop_eq_nil_of_le hm1.1,List.drop_eq_nil_of_le hm1.2.1]⟩
 ·all_goals exact wk
 rintro n ⟨hn,hd⟩ _
 conv=>whnf
 refine And.intro (fun h0=>?_) (fun h0=>?_)
 ·obtain ⟨i,rfl⟩ : ∃ i,n = i + 1:=⟨n - 1,by omega⟩
  have e1 : (((i + 1 : Nat) : Int) - 1) = (i : Int):=by omega
  have ca:=c_rWord a i
  have cb:=c_rWord b i
  have hva:=val_hd a i
  have hvb:=val_hd b i
  have hxa:=wa.getD (i:=i)
  have hxb:=wb.getD (i:=i)
  rw [e1]
  generalize a.getD i 0 = x at *
  generalize b.getD i 0 = y at *
  conv=>whnf
  refine .pure _ _ ?_ ⟨rfl,rfl⟩ ca fun _=>?_
  ·exact leL_refl _
  conv=>whnf
  refine .pure _ _ ?_ ⟨rfl,rfl⟩ cb fun _=>?_
  ·exact leL_refl _
  conv=>whnf
  refine And.intro (fun h1=>?_) (fun h1=>?_)
  ·conv=>whnf
   refine fM ?_;(conv=>whnf);refine ⟨?_,rfl⟩;conv=>whnf
   refine ⟨rfl,?_⟩
   rw [cmpN,if_pos (lt_of_drop wa wb (i:=i) (by omega))]
  conv=>whnf
  refine .pure _ _ ?_ ⟨rfl,rfl⟩ ca fun _=>?_
  ·exact leL_refl _
  conv=>whnf
  refine .pure _ _ ?_ ⟨rfl,rfl⟩ cb fun _=>?_
  ·exact leL_refl _
  conv=>whnf
  refine And.intro (fun h2=>?_) (fun h2=>?_)
  ·have:=lt_of_drop wb wa (i:=i) (by omega)
   conv=>whnf
   refine fM ?_;(conv=>whnf);refine ⟨?_,rfl⟩;conv=>whnf
   refine ⟨rfl,?_⟩
   rw [cmpN,if_neg (by omega),if_pos this]
  conv=>whnf
  refine zA ?_;conv=>whnf
  refine ⟨i,?_,?_,?_⟩
  ·exact ⟨by omega,by omega⟩
  ·all_goals exact wk
  ·omega
 ·have hn0 : n = 0:=by omega
  subst hn0
  simp only [List.drop_zero] at hd
  conv=>whnf
  refine fM ?_;(conv=>whnf);refine ⟨?_,rfl⟩;conv=>whnf
  refine ⟨rfl,?_⟩
  rw [cmpN,if_neg (by omega),if_neg (by omega)]

theorem val_take_lt {l : List Int} {n : Nat} (h : val l < 4294967296 ^ n) : val (l.take n) = val l:=by
 by_cases hn : n ≤ l.length
 ·have e:=val_take_drop n hn
  have h0 : val (l.drop n) = 0:=by
   apply Classical.byContradiction
   intro hne
   have : 4294967296 ^ n * 1 ≤ 4294967296 ^ n * val (l.drop n):=Nat.mul_le_mul_left _ (by omega)
   omega
  rw [h0,Nat.mul_zero] at e
  omega
 ·rw [List.take_of_length_le (by omega)]

theorem rsub_arith {p B x low b y b' va vb s : Nat} (h1 : x + B * b' = y + low + b) (h : va + p * b = s + vb) : va + p * x + p * B * b' = s + p * y + (vb + p * low):=by
 have e1 : p * (x + B * b') = p * (y + low + b):=by rw [h1]
 rw [Nat.mul_add,Nat.mul_add,Nat.mul_add,← Nat.mul_assoc] at e1
 omega

theorem c_rSub (a b : List Int) (ha : a.length ≤ 1000000) (hb : b.length ≤ 1000000) (R : AV) (hR : R = if val a < val b then .tup [wL [],.int .i64 3] else .tup [wL (wd (val a - val b)),.int .i64 0]) :
  FnH Tryz.prog 140 [wL a,wL b] [] R []:=by
 refine FnH.intro lay mixed Tryz.func140 (by kernel_rfl) rfl (by kernel_rfl) rfl fun hok=>?_
 have wa : Ws a:=Ws.ok hok.1.2
 have wb : Ws b:=Ws.ok hok.2.1.2
 conv=>whnf
 refine .pure _ _ ?_ ⟨rfl,rfl⟩ (c_rCmp a b (by omega) (by omega)) fun _=>?_
 ·exact leL_refl _
 conv=>whnf
 refine And.intro (fun h=>?_) (fun h=>?_)
 ·have hlt : val a < val b:=by
   unfold cmpN at h
   split at h
   ·assumption
   ·split at h <;> omega
  rw [if_pos hlt] at hR
  subst hR
  conv=>whnf
  refine fM ?_;(conv=>whnf);refine ⟨?_,rfl⟩;conv=>whnf
  all_goals exact wk
 have hge : ¬ val a < val b:=by
  intro hlt
  unfold cmpN at h
  rw [if_pos hlt] at h
  omega
 rw [if_neg hge] at hR
 subst hR
 conv=>whnf
 refine LoopE.of <| LoopSpec.inv (.grow 6 1 [] _ rfl (.inl ⟨rfl,rfl⟩) (.refl _ _)) (fun x : Nat × Nat × List Int=>x.1 ≤ a.length ∧ x.2.1 ≤ 1 ∧ Ws x.2.2 ∧ x.2.2.length = x.1 ∧ val (a.take x.1) + 4294967296 ^ x.1 * x.2.1 = val x.2.2 + val (b.take x.1))
  (fun | (i,b,s)=>[(16,.int .i64 i),(7,.int .u64 b),(6,.sl 1 (s.map (.int .u32)) (.own 0))]) (fun | (_,_,s)=>[(0,.tok 1 s.length)])
  (fun x=>a.length - x.1) (0,0,[]) ?_ (fun _=>rfl) ?_ ?_
 ·exact ⟨Nat.zero_le _,by simp,Ws.nil,rfl,by simp [val]⟩
 ·refine ⟨?_,.mk ?_ ⟨by simp,trivial⟩⟩
  ·all_goals exact wk
  ·all_goals exact wk
 rintro ⟨i,bo,s⟩ ⟨hi,hbo,hws,hsl,hv⟩ _
 simp only at hi hbo hws hsl hv
 (try dsimp only[awp]);conv=>whnf
 refine And.intro (fun h=>?_) (fun h=>?_)
 ·have hlt : i < a.length:=by simpa using h
  have ca:=c_rWord a i
  have cb:=c_rWord b i
  have hva:=val_take_getD (l:=a) (i:=i)
  have hvb:=val_take_getD (l:=b) (i:=i)
  have hxa:=wa.getD (i:=i)
  have hxb:=wb.getD (i:=i)
  generalize a.getD i 0 = x0 at *
  generalize b.getD i 0 = y0 at *
  obtain ⟨x,rfl⟩ : ∃ x : Nat,x0 = x:=⟨x0.toNat,by omega⟩
  obtain ⟨w,rfl⟩ : ∃ x : Nat,y0 = x:=⟨y0.toNat,by omega⟩
  rw [Int.toNat_natCast] at hva hvb
  conv=>whnf
  refine .gen _ _ (FnH.ofPure ca (leL_refl _) ⟨rfl,rfl⟩) fun _=>?_
  conv=>whnf
  refine .gen _ _ (FnH.ofPure cb (leL_refl _) ⟨rfl,rfl⟩) fun _=>?_
  conv=>whnf
  obtain ⟨D,hD,hD1,hD2,hD3⟩:=sub_word (x:=x) (low:=w) (b:=bo) (by omega) (by omega) hbo
  rw [hD]
  conv=>whnf
  rw [wrapu32_mod (a:=D)]
  have hy : D % 4294967296 < 4294967296:=Nat.mod_lt _ (by decide)
  generalize D % 4294967296 = y at *
  refine ⟨by rw [List.length_map],?_⟩
  refine ⟨by simp [maxL]; omega,by simp; omega,?_⟩
  conv=>whnf
  refine ⟨by decide,?_⟩
  rw [shr_63]
  conv=>whnf
  refine zA ?_;conv=>whnf
  refine ⟨(i + 1,D / 9223372036854775808,s ++ [(y : Int)]),?_,?_,?_⟩
  ·refine ⟨hlt,hD2,hws.append (Ws.cons (by omega) Ws.nil),by simp [hsl],?_⟩
   show val (a.take (i + 1)) + 4294967296 ^ (i + 1) * (D / 9223372036854775808) = val (s ++ [(y : Int)]) + val (b.take (i + 1))
   have e1 : val (s ++ [(y : Int)]) = val s + 4294967296 ^ i * y:=by rw [val_append,hsl]; simp [val]
   rw [hva,hvb,e1,Nat.pow_succ]
   exact rsub_arith hD3 hv
  ·refine ⟨?_,.mk ?_ ⟨by simp,trivial⟩⟩
   ·repeat' first|exact rfl|exact trivial|exact wR|exact lR _|apply aI
    all_goals first | (refine leRL_of ?_; simp [strip]; done) | simp
   ·repeat' first|exact rfl|exact trivial|exact wR|exact lR _|apply aI
    all_goals simp
  ·show a.length - (i + 1) < a.length - i
   omega
 ·have hil : i = a.length:=by have : ¬ i < a.length:=by simpa using h
                              omega
  subst hil
  rw [List.take_length] at hv
  have hva:=val_lt wa
  rw [val_take_lt (by omega)] at hv
  have hvs:=val_lt hws
  rw [hsl] at hvs
  have hfin : val s = val a - val b:=by
   have hb2 : bo = 0 ∨ bo = 1:=by omega
   rcases hb2 with rfl | rfl
   ·omega
   ·omega
  have ct:=c_rTrim s (by omega)
  rw [hfin] at ct
  conv=>whnf
  refine .pure _ _ ?_ ⟨rfl,rfl⟩ ct fun _=>?_
  ·all_goals exact wk
  conv=>whnf
  refine fM ?_;(conv=>whnf);refine ⟨?_,rfl⟩;conv=>whnf
  all_goals exact wk

theorem or_up {c x n : Nat} (hn : n < 32) (hc : c < 2 ^ n) (hx : x < 4294967296) : bitsR .or .u64 (c : Int) ((x * 2 ^ n : Nat) : Int) = ((c + x * 2 ^ n : Nat) : Int):=by
 have h3 : 2 ^ n ≤ 2 ^ 31:=Nat.pow_le_pow_right (by omega) (by omega)
 have h4 : x * 2 ^ n ≤ 4294967295 * 2 ^ 31:=Nat.mul_le_mul (by omega) h3
 rw [or_u64 (by omega) (by omega)]
 have:=Nat.shiftLeft_add_eq_or_of_lt (i:=n) hc x
 rw [Nat.shiftLeft_eq] at this
 rw [Nat.or_comm,← this,Nat.add_comm]

theorem up_carry {c x n : Nat} (hc : c < 2 ^ n) (hx : x < 4294967296) : (c + x * 2 ^ n) / 4294967296 < 2 ^ n:=by
 rw [Nat.div_lt_iff_lt_mul (by omega)]
 have h1 : (x + 1) * 2 ^ n ≤ 4294967296 * 2 ^ n:=Nat.mul_le_mul_right _ (by omega)
 rw [Nat.mul_comm (2 ^ n) 4294967296]
 rw [Nat.add_mul] at h1
 omega

theorem up_arith {p B c x P C vs va : Nat} (hC : C = c + x * P) (h : vs + p * c = va * P) : vs + p * (C % B) + p * B * (C / B) = (va + p * x) * P:=by
 have e1 : p * (C % B) + p * B * (C / B) = p * C:=by rw [Nat.mul_assoc,← Nat.mul_add,Nat.mod_add_div]
 rw [Nat.add_mul,← h,Nat.mul_assoc p x,Nat.add_assoc,Nat.add_assoc,e1,hC,Nat.mul_add]

theorem c_rUp (a : List Int) (n : Nat) (hn : n < 32) (ha : a.length ≤ 999999) : FnH Tryz.prog 136 [wL a,.int .i64 n] [] (wL (wd (val a * 2 ^ n))) []:=by
 refine FnH.intro lay mixed Tryz.func136 (by kernel_rfl) rfl (by kernel_rfl) rfl fun hok=>?_
 have wa : Ws a:=Ws.ok hok.1.2
 conv=>whnf
 refine LoopE.of <| LoopSpec.inv (.grow 5 1 [] _ rfl (.inl ⟨rfl,rfl⟩) (.refl _ _)) (fun x : Nat × Nat × List Int=>x.1 ≤ a.length ∧ x.2.1 < 2 ^ n ∧ Ws x.2.2 ∧ x.2.2.length = x.1 ∧ val x.2.2 + 4294967296 ^ x.1 * x.2.1 = val (a.take x.1) * 2 ^ n)
  (fun | (i,c,s)=>[(11,.int .i64 i),(6,.int .u64 c),(5,.sl 1 (s.map (.int .u32)) (.own 0))]) (fun | (_,_,s)=>[(0,.tok 1 s.length)])
  (fun x=>a.length - x.1) (0,0,[]) ?_ (fun _=>rfl) ?_ ?_
 ·exact ⟨Nat.zero_le _,Nat.two_pow_pos _,Ws.nil,rfl,by simp [val]⟩
 ·refine ⟨?_,.mk ?_ ⟨by simp,trivial⟩⟩
  ·all_goals exact wk
  ·all_goals exact wk
 rintro ⟨i,c,s⟩ ⟨hi,hc,hws,hsl,hv⟩ _
 simp only at hi hc hws hsl hv
 have hn31 : 2 ^ n ≤ 2 ^ 31:=Nat.pow_le_pow_right (by omega) (by omega)
 (try dsimp only[awp]);conv=>whnf
 refine And.intro (fun h=>?_) (fun h=>?_)
 ·have hlt : i < a.length:=by simpa using h
  have hva:=val_take_getD (l:=a) (i:=i)
  have hxa:=wa.getD (i:=i)
  conv=>whnf
  refine aidxN' 0 rfl hlt ?_
  generalize a.getD i 0 = x0 at *
  obtain ⟨x,rfl⟩ : ∃ x : Nat,x0 = x:=⟨x0.toNat,by omega⟩
  rw [Int.toNat_natCast] at hva
  conv=>whnf
  rw [wrap_u64 (n:=(x : Int)) (by omega) (by omega)]
  refine ⟨by omega,?_⟩
  rw [shl_u64 (by omega) hn]
  conv=>whnf
  rw [or_up hn hc (by omega)]
  have hcar:=up_carry hc (x:=x) (by omega)
  obtain ⟨C,hC⟩ : ∃ C,c + x * 2 ^ n = C:=⟨_,rfl⟩
  rw [hC] at hcar ⊢
  conv=>whnf
  rw [wrapu32_mod (a:=C)]
  refine ⟨by rw [List.length_map],?_⟩
  refine ⟨by simp [maxL]; omega,by simp; omega,?_⟩
  conv=>whnf
  refine ⟨by decide,?_⟩
  rw [shr_word rfl]
  conv=>whnf
  refine zA ?_;conv=>whnf
  refine ⟨(i + 1,C / 4294967296,s ++ [((C % 4294967296 : Nat) : Int)]),?_,?_,?_⟩
  ·refine ⟨hlt,hcar,hws.append (Ws.cons (by omega) Ws.nil),by simp [hsl],?_⟩
   show val (s ++ [((C % 4294967296 : Nat) : Int)]) + 4294967296 ^ (i + 1) * (C / 4294967296) = val (a.take (i + 1)) * 2 ^ n
   have e1 : val (s ++ [((C % 4294967296 : Nat) : Int)]) = val s + 4294967296 ^ i * (C % 4294967296):=by rw [val_append,hsl]; simp only [val,Int.toNat_natCast,Nat.mul_zero,Nat.add_zero]
   rw [hva,e1,Nat.pow_succ]
   exact up_arith hC.symm hv
  ·refine ⟨?_,.mk ?_ ⟨by simp,trivial⟩⟩
   ·repeat' first|exact rfl|exact trivial|exact wR|exact lR _|apply aI
    all_goals first | (refine leRL_of ?_; simp [strip]; done) | simp
   ·repeat' first|exact rfl|exact trivial|exact wR|exact lR _|apply aI
    all_goals simp
  ·show a.length - (i + 1) < a.length - i
   omega
 ·have hil : i = a.length:=by have : ¬ i < a.length:=by simpa using h
                              omega
  subst hil
  rw [List.take_length] at hv
  have ct:=c_rTrim (s ++ [(c : Int)]) (by simp; omega)
  rw [val_append,hsl,show val [(c : Int)] = c by simp [val],hv] at ct
  conv=>whnf
  rw [wrap_u32 (n:=(c : Int)) (by omega) (by omega)]
  refine ⟨by rw [List.length_map],?_⟩
  refine ⟨by simp [maxL]; omega,by simp; omega,?_⟩
  conv=>whnf
  refine .gen _ _ (FnH.ofPure ct ?_ ⟨rfl,rfl⟩) fun _=>?_
  ·repeat' first|exact rfl|exact trivial|exact wR|exact lR _|apply aI
   refine leRL_of ?_
   simp [strip]
  conv=>whnf
  refine fM ?_;(conv=>whnf);refine ⟨?_,rfl⟩;conv=>whnf
  all_goals exact wk

theorem c_rDown (a : List Int) (n : Nat) (hn : n < 32) (ha : a.length ≤ 1000000) : FnH Tryz.prog 141 [wL a,.int .i64 n] [] (wL (wd (val a / 2 ^ n))) []:=by
 refine FnH.intro lay mixed Tryz.func141 (by kernel_rfl) rfl (by kernel_rfl) rfl fun hok=>?_
 have wa : Ws a:=Ws.ok hok.1.2
 conv=>whnf
 refine LoopE.of <| LoopSpec.inv (.grow 5 1 [] _ rfl (.inl ⟨rfl,rfl⟩) (.refl _ _)) (fun i : Nat=>i ≤ a.length)
  (fun i=>[(9,.int .i64 i),(5,.sl 1 ((wdN i (val a / 2 ^ n)).map (.int .u32)) (.own 0))]) (fun i=>[(0,.tok 1 i)])
  (fun i=>a.length - i) 0 ?_ (fun _=>rfl) ?_ ?_
 ·exact Nat.zero_le _
 ·refine ⟨?_,.mk ?_ ⟨by simp,trivial⟩⟩
  ·all_goals exact wk
  ·all_goals exact wk
 intro i hi _
 (try dsimp only[awp]);conv=>whnf
 refine And.intro (fun h=>?_) (fun h=>?_)
 ·have hlt : i < a.length:=by simpa using h
  have ca:=c_rWord a i
  have cb:=c_rWord a (i + 1)
  have hx:=wa.getD (i:=i)
  have hy:=wa.getD (i:=i + 1)
  have hrw:=right_word wa (i:=i) hn
  have hsnoc : wdN (i + 1) (val a / 2 ^ n) = wdN i (val a / 2 ^ n) ++ [((val a / 2 ^ n / 4294967296 ^ i % 4294967296 : Nat) : Int)]:=by
   refine (wdN_of (by simp [wdN_len]) fun k hk=>?_).symm
   by_cases hki : k < i
   ·rw [List.getD_eq_getElem?_getD,List.getElem?_append_left (by rw [wdN_len]; exact hki),← List.getD_eq_getElem?_getD]
    exact wdN_get hki
   ·have : k = i:=by omega
    subst this
    rw [List.getD_eq_getElem?_getD,List.getElem?_append_right (by rw [wdN_len]; omega),wdN_len]
    simp
  generalize a.getD i 0 = x0 at *
  generalize a.getD (i + 1) 0 = y0 at *
  obtain ⟨x,rfl⟩ : ∃ x : Nat,x0 = x:=⟨x0.toNat,by omega⟩
  obtain ⟨y,rfl⟩ : ∃ y : Nat,y0 = y:=⟨y0.toNat,by omega⟩
  simp only [Int.toNat_natCast] at hrw
  conv=>whnf
  refine .gen _ _ (FnH.ofPure ca (leL_refl _) ⟨rfl,rfl⟩) fun _=>?_
  conv=>whnf
  refine zA ?_;conv=>whnf
  refine .gen _ _ (FnH.ofPure cb (leL_refl _) ⟨rfl,rfl⟩) fun _=>?_
  conv=>whnf
  refine ⟨by decide,?_⟩
  rw [shl_word (by omega)]
  conv=>whnf
  rw [or_word' (by omega) (by omega)]
  refine ⟨by omega,?_⟩
  rw [shr_u64 hn]
  conv=>whnf
  rw [wrapu32_mod,hrw]
  refine ⟨by simp [wdN_len],?_⟩
  refine ⟨by simp [maxL,wdN_len]; omega,by simp [wdN_len]; omega,?_⟩
  conv=>whnf
  refine zA ?_;conv=>whnf
  refine ⟨i + 1,?_,?_,?_⟩
  ·exact hlt
  ·rw [hsnoc]
   refine ⟨?_,.mk ?_ ⟨by simp,trivial⟩⟩
   ·repeat' first|exact rfl|exact trivial|exact wR|exact lR _|apply aI
    all_goals first | (refine leRL_of ?_; simp [strip]; done) | simp
   ·repeat' first|exact rfl|exact trivial|exact wR|exact lR _|apply aI
    all_goals simp [wdN_len]
  ·omega
 ·have hil : i = a.length:=by have : ¬ i < a.length:=by simpa using h
                              omega
  subst hil
  have hva:=val_lt wa
  have hle : val a / 2 ^ n ≤ val a:=Nat.div_le_self _ _
  have ct:=c_rTrim (wdN a.length (val a / 2 ^ n)) (by rw [wdN_len]; omega)
  rw [val_wdN (by omega)] at ct
  conv=>whnf
  refine .gen _ _ (FnH.ofPure ct ?_ ⟨rfl,rfl⟩) fun _=>?_
  ·all_goals exact wk
  conv=>whnf
  refine fM ?_;(conv=>whnf);refine ⟨?_,rfl⟩;conv=>whnf
  all_goals exact wk

theorem mul_step {p B x y o c C v0 vb vn : Nat} {w : Nat} (hC : C = x * y + o + c) (e : vn + p * o = v0 + p * (C % B)) (h : v0 + p * c = w + x * vb) : vn + p * B * (C / B) = w + x * vb + p * (x * y):=by
 have e1 : p * (C % B) + p * B * (C / B) = p * C:=by rw [Nat.mul_assoc,← Nat.mul_add,Nat.mod_add_div]
 have e2 : p * C = p * (x * y) + p * o + p * c:=by rw [hC,Nat.mul_add,Nat.mul_add]
 omega

theorem mul_shift {p q x y : Nat} : p * q * (x * y) = p * x * (q * y):=by
 rw [Nat.mul_assoc,Nat.mul_assoc,Nat.mul_left_comm q]

theorem carry_zero {P Q A b o c : Nat} (h : o + P * Q * c = A * b) (h1 : A < P) (h2 : b < Q) : c = 0:=by
 apply Classical.byContradiction
 intro hne
 have k1 : P * Q * 1 ≤ P * Q * c:=Nat.mul_le_mul_left _ (by omega)
 have k2 : A * b ≤ P * b:=Nat.mul_le_mul_right _ (by omega)
 have k3 : P * b < P * Q:=Nat.mul_lt_mul_of_pos_left h2 (by omega)
 omega

theorem c_rMul (a b : List Int) (ha : a.length ≤ 400000) (hb : b.length ≤ 400000) : FnH Tryz.prog 138 [wL a,wL b] [] (wL (wd (val a * val b))) []:=by
 refine FnH.intro lay mixed Tryz.func138 (by kernel_rfl) rfl (by kernel_rfl) rfl fun hok=>?_
 have wa : Ws a:=Ws.ok hok.1.2
 have wb : Ws b:=Ws.ok hok.2.1.2
 conv=>whnf
 refine ⟨inr64 (by simp; omega) (by simp; omega),?_⟩
 conv=>whnf
 refine ⟨inr64 (by simp; omega) (by simp; omega),?_⟩
 obtain ⟨m,hm⟩ : ∃ m,a.length + b.length + 1 = m:=⟨_,rfl⟩
 rw [show (((a.map (AV.int .u32)).length : Nat) : Int) + (((b.map (AV.int .u32)).length : Nat) : Int) + 1 = (m : Int) by simp; omega]
 conv=>whnf
 refine ⟨⟨by omega,by omega,by simp; omega,by omega⟩,.wr ?_⟩
 conv=>whnf
 refine LoopE.of <| LoopSpec.inv (.refl _ _) (fun x : Nat × List Int=>x.1 ≤ a.length ∧ Ws x.2 ∧ x.2.length = m ∧ val x.2 = val (a.take x.1) * val b)
  (fun | (i,_)=>[(20,.int .i64 i)]) (fun | (_,out)=>[(0,.arr 1 m (out.map (.int .u32)))])
  (fun x=>a.length - x.1) (0,List.replicate m 0) ?_ (fun _=>rfl) ?_ ?_
 ·refine ⟨Nat.zero_le _,?_,by simp,?_⟩
  ·intro x hx
   rw [(List.mem_replicate.1 hx).2]; omega
  ·rw [val_zeros (fun x hx=>(List.mem_replicate.1 hx).2)]; simp [val]
 ·refine ⟨?_,.mk ?_ ⟨by simp,trivial⟩⟩
  ·all_goals exact wk
  ·repeat' first|exact rfl|exact trivial|exact wR|exact lR _|apply aI
   all_goals first | (simp; done) | exact leRL_of (by simp)
 rintro ⟨i,out⟩ ⟨hi,hwo,hol,hv⟩ _
 simp only at hi hwo hol hv
 (try dsimp only[awp]);conv=>whnf
 refine And.intro (fun h=>?_) (fun h=>?_)
 ·have hlt : i < a.length:=by simpa using h
  have hva:=val_take_getD (l:=a) (i:=i)
  have hxa:=wa.getD (i:=i)
  conv=>whnf
  refine aidxN' 0 rfl hlt ?_
  generalize a.getD i 0 = x0 at *
  obtain ⟨x,rfl⟩ : ∃ x : Nat,x0 = x:=⟨x0.toNat,by omega⟩
  rw [Int.toNat_natCast] at hva
  conv=>whnf
  refine ⟨inr64 (by simp; omega) (by simp; omega),?_⟩
  rw [show (((b.map (AV.int .u32)).length : Nat) : Int) + 1 = ((b.length + 1 : Nat) : Int) by simp]
  conv=>whnf
  refine LoopE.of <| LoopSpec.inv (.refl _ _) (fun z : Nat × Nat × List Int=>z.1 ≤ b.length + 1 ∧ z.2.1 < 4294967296 ∧ Ws z.2.2 ∧ z.2.2.length = m ∧ val z.2.2 + 4294967296 ^ (i + z.1) * z.2.1 = val out + 4294967296 ^ i * x * val (b.take z.1))
   (fun | (j,c,_)=>[(28,.int .i64 j),(8,.int .u64 c)]) (fun | (_,_,o)=>[(0,.arr 1 m (o.map (.int .u32)))])
   (fun z=>b.length + 1 - z.1) (0,0,out) ?_ (fun _=>rfl) ?_ ?_
  ·exact ⟨Nat.zero_le _,(by omega : 0 < 4294967296),hwo,hol,by simp [val]⟩
  ·refine ⟨?_,.mk ?_ ⟨by simp,trivial⟩⟩
   ·all_goals exact wk
   ·all_goals exact wk
  rintro ⟨j,c,o⟩ ⟨hj,hc,hwo2,hol2,hv2⟩ _
  simp only at hj hc hwo2 hol2 hv2
  (try dsimp only[awp]);conv=>whnf
  refine And.intro (fun h=>?_) (fun h=>?_)
  ·have hjlt : j < b.length + 1:=by omega
   have cw:=c_rWord b j
   have hvb:=val_take_getD (l:=b) (i:=j)
   have hxb:=wb.getD (i:=j)
   have hoo:=hwo2.getD (i:=i + j)
   have hij : i + j < o.length:=by omega
   generalize b.getD j 0 = y0 at *
   obtain ⟨y,rfl⟩ : ∃ x : Nat,y0 = x:=⟨y0.toNat,by omega⟩
   rw [Int.toNat_natCast] at hvb
   have hxy : x * y ≤ 4294967295 * 4294967295:=Nat.mul_le_mul (by omega) (by omega)
   conv=>whnf
   refine ADraw.auto (by kernel_rfl) ?_;conv=>whnf
   refine ACallP.pure _ _ (leL_refl _) ⟨rfl,rfl⟩ cw ?_
   conv=>whnf
   rw [wrap_u64 (n:=(x : Int)) (by omega) (by omega)]
   rw [show ((x : Int) * (y : Int)) = ((x * y : Nat) : Int) from (Int.natCast_mul x y).symm,wrap_u64 (n:=((x * y : Nat) : Int)) (by omega) (by omega)]
   refine zA ?_;conv=>whnf
   refine ⟨⟨by omega,by omega⟩,?_⟩
   conv=>whnf
   refine aidxN' 0 (i:=i + j) (by omega) hij ?_
   refine ⟨rfl,?_⟩
   obtain ⟨ow,how⟩ : ∃ w : Nat,o.getD (i + j) 0 = w:=⟨(o.getD (i + j) 0).toNat,by omega⟩
   rw [how] at hoo ⊢
   conv=>whnf
   rw [wrap_u64 (n:=(ow : Int)) (by omega) (by omega)]
   rw [show (((x * y : Nat) : Int) + (ow : Int)) = ((x * y + ow : Nat) : Int) from (Int.natCast_add (x * y) ow).symm,wrap_u64 (n:=((x * y + ow : Nat) : Int)) (by omega) (by omega)]
   rw [show (((x * y + ow : Nat) : Int) + (c : Int)) = ((x * y + ow + c : Nat) : Int) from (Int.natCast_add (x * y + ow) c).symm,wrap_u64 (n:=((x * y + ow + c : Nat) : Int)) (by omega) (by omega)]
   obtain ⟨C,hC⟩ : ∃ C,x * y + ow + c = C:=⟨_,rfl⟩
   rw [hC]
   conv=>whnf
   refine zA ?_;conv=>whnf
   rw [wrapu32_mod (a:=C)]
   refine ⟨⟨by omega,by omega⟩,?_⟩
   dsimp only [putE]
   rw [aops]
   dsimp only [guardC]
   dsimp only [aopW,aop]
   conv=>whnf
   refine ⟨by rw [List.length_map]; omega,rfl,?_⟩
   conv=>whnf
   refine ⟨by decide,?_⟩
   rw [shr_word rfl]
   conv=>whnf
   refine zA ?_;conv=>whnf
   have hCl : C / 4294967296 < 4294967296:=by omega
   have hset:=val_set (x:=((C % 4294967296 : Nat) : Int)) hij
   rw [← getD_lt' (x:=0) hij,how,Int.toNat_natCast,Int.toNat_natCast] at hset
   refine ⟨(j + 1,C / 4294967296,o.set (i + j) ((C % 4294967296 : Nat) : Int)),?_,?_,?_⟩
   ·refine ⟨hjlt,hCl,hwo2.set (by omega),by simpa using hol2,?_⟩
    show val (o.set (i + j) ((C % 4294967296 : Nat) : Int)) + 4294967296 ^ (i + (j + 1)) * (C / 4294967296) = val out + 4294967296 ^ i * x * val (b.take (j + 1))
    rw [← Nat.add_assoc,Nat.pow_succ,hvb,Nat.mul_add,← mul_shift (x:=x),← Nat.pow_add,← Nat.add_assoc]
    have:=mul_step (p:=4294967296 ^ (i + j)) (x:=x) (y:=y) (o:=ow) (c:=c) (v0:=val o) (vn:=val (o.set (i + j) ((C % 4294967296 : Nat) : Int))) (w:=val out + 4294967296 ^ i * x * val (b.take j)) (vb:=0) hC.symm hset (by rw [Nat.mul_zero,Nat.add_zero]; exact hv2)
    rw [Nat.mul_zero,Nat.add_zero] at this
    exact this
   ·refine ⟨?_,.mk ?_ ⟨by simp,trivial⟩⟩
    ·all_goals exact wk
    ·repeat' first|exact rfl|exact trivial|exact wR|exact lR _|apply aI
     refine leRL_of ?_
     rw [List.map_set,show (0 + ((i : Int) + (j : Int)).toNat) = i + j by omega]
     simp [strip]
   ·show b.length + 1 - (j + 1) < b.length + 1 - j
    omega
  ·have hjl : j = b.length + 1:=by omega
   subst hjl
   rw [List.take_of_length_le (by omega : b.length ≤ b.length + 1),hv] at hv2
   have h2 : val (a.take i) * val b + 4294967296 ^ i * x * val b = val (a.take (i + 1)) * val b:=by rw [hva,Nat.add_mul]
   have h3:=take_lt wa (i + 1)
   have h4:=val_lt wb
   have hcz : c = 0:=by
    refine carry_zero (P:=4294967296 ^ (i + 1)) (Q:=4294967296 ^ b.length) (A:=val (a.take (i + 1))) (b:=val b) (o:=val o) ?_ h3 h4
    rw [← h2,← hv2,← Nat.pow_add,show i + 1 + b.length = i + (b.length + 1) by omega]
   rw [hcz,Nat.mul_zero,Nat.add_zero,h2] at hv2
   conv=>whnf
   refine zA ?_;conv=>whnf
   refine ⟨(i + 1,o),?_,?_,?_⟩
   ·refine ⟨hlt,hwo2,hol2,?_⟩
    exact hv2
   ·refine ⟨?_,.mk ?_ ⟨by simp,trivial⟩⟩
    ·all_goals exact wk
    ·all_goals exact wk
   ·show a.length - (i + 1) < a.length - i
    omega
 ·have hil : i = a.length:=by have : ¬ i < a.length:=by simpa using h
                              omega
  subst hil
  rw [List.take_length] at hv
  have ct:=c_rTrim out (by omega)
  rw [hv] at ct
  conv=>whnf
  refine .gen _ _ (FnH.frz 0 rfl rfl (by simp; omega) (FnH.ofPure ct ?_ ⟨rfl,rfl⟩)) fun _=>?_
  ·repeat' first|exact rfl|exact trivial|exact wR|exact lR _|apply aI
   refine leRL_of ?_
   simp
   rw [List.take_of_length_le (by simp; omega)]
  conv=>whnf
  refine fM ?_;(conv=>whnf);refine ⟨?_,rfl⟩;conv=>whnf
  all_goals exact wk

theorem bit_u32 {x k : Nat} (hx : x < 4294967296) (hk : k < 32) : bitsR .and .u32 (shrR .u32 (x : Int) (k : Int)) 1 = if x.testBit k then 1 else 0:=by
 rw [shr_u32 hk]
 have hd : x / 2 ^ k ≤ x:=Nat.div_le_self _ _
 have e : ∀ z : Nat,BitVec.ofInt 32 (z : Int) = BitVec.ofNat 32 z:=by
  intro z; apply BitVec.eq_of_toNat_eq; simp
 simp only [bitsR]
 have h1 : (BitVec.ofInt 32 ((x / 2 ^ k : Nat) : Int) &&& BitVec.ofInt 32 (1 : Int)).toNat = (x / 2 ^ k) &&& 1:=by
  rw [show (1 : Int) = ((1 : Nat) : Int) from rfl,e,e,BitVec.toNat_and,BitVec.toNat_ofNat,BitVec.toNat_ofNat,Nat.mod_eq_of_lt (by omega)]
 show IntKind.wrap .u32 ((BitVec.ofInt 32 ((x / 2 ^ k : Nat) : Int) &&& BitVec.ofInt 32 (1 : Int)).toNat : Int) = _
 rw [h1,Nat.and_one_is_mod,Nat.testBit_eq_decide_div_mod_eq]
 have : x / 2 ^ k % 2 < 2:=Nat.mod_lt _ (by omega)
 rw [wrap_u32 (by omega) (by omega)]
 by_cases h : x / 2 ^ k % 2 = 1
 ·simp [h]
 ·have : x / 2 ^ k % 2 = 0:=by omega
  simp [this]

theorem mod_bit {x k : Nat} : x % 2 ^ (k + 1) = x % 2 ^ k + 2 ^ k * (if x.testBit k then 1 else 0):=by
 rw [Nat.testBit_eq_decide_div_mod_eq,Nat.mod_pow_succ]
 have : x / 2 ^ k % 2 < 2:=Nat.mod_lt _ (by omega)
 by_cases h : x / 2 ^ k % 2 = 1
 ·simp [h]
 ·have : x / 2 ^ k % 2 = 0:=by omega
  simp [this]

theorem pow32 (i k : Nat) : 4294967296 ^ i * 2 ^ k = 2 ^ (32 * i + k):=by
 rw [Nat.pow_add,Nat.pow_mul]

theorem blen_add {v x i k : Nat} (hv : v < 4294967296 ^ i) (hb : x.testBit k = true) : blen (v + 4294967296 ^ i * (x % 2 ^ (k + 1))) = 32 * i + k + 1:=by
 have e:=pow32 i k
 have e2:=pow32 i (k + 1)
 have hm : x % 2 ^ (k + 1) < 2 ^ (k + 1):=Nat.mod_lt _ (Nat.two_pow_pos _)
 have hge : 2 ^ k ≤ x % 2 ^ (k + 1):=by rw [mod_bit,hb]; simp
 refine blen_pow ?_ ?_
 ·rw [← e]
  have : 4294967296 ^ i * 2 ^ k ≤ 4294967296 ^ i * (x % 2 ^ (k + 1)):=Nat.mul_le_mul_left _ hge
  omega
 ·rw [show 32 * i + k + 1 = 32 * i + (k + 1) by omega,← e2]
  have h1 : 4294967296 ^ i * (x % 2 ^ (k + 1) + 1) ≤ 4294967296 ^ i * 2 ^ (k + 1):=Nat.mul_le_mul_left _ hm
  rw [Nat.mul_add] at h1
  omega

theorem c_rBits (a : List Int) (ha : a.length ≤ 1000000) : FnH Tryz.prog 119 [wL a] [] (.int .i64 (blen (val a))) []:=by
 refine FnH.intro lay mixed Tryz.func119 (by kernel_rfl) rfl (by kernel_rfl) rfl fun hok=>?_
 have wa : Ws a:=Ws.ok hok.1.2
 conv=>whnf
 refine LoopE.of <| LoopSpec.inv (.refl _ _) (fun (i : Nat)=>i ≤ a.length) (fun (i : Nat)=>[(9,.int .i64 i),(3,.int .i64 (blen (val (a.take i))))]) (fun _=>_) (fun (i : Nat)=>a.length - i) 0 ?_ (fun _=>rfl) ?_ ?_
 ·exact Nat.zero_le _
 ·all_goals exact wk
 intro i hi _
 (try dsimp only[awp]);conv=>whnf
 refine And.intro (fun h=>?_) (fun h=>?_)
 ·have hlt : i < a.length:=by simpa using h
  have hva:=val_take_getD (l:=a) (i:=i)
  have hxa:=wa.getD (i:=i)
  have htl:=take_lt wa i
  conv=>whnf
  refine aidxN' 0 rfl hlt ?_
  generalize a.getD i 0 = x0 at *
  obtain ⟨x,rfl⟩ : ∃ x : Nat,x0 = x:=⟨x0.toNat,by omega⟩
  rw [Int.toNat_natCast] at hva
  generalize val (a.take i) = v at *
  conv=>whnf
  refine LoopE.of <| LoopSpec.inv (.refl _ _) (fun (k : Nat)=>k ≤ 32) (fun (k : Nat)=>[(14,.int .i64 k),(3,.int .i64 (blen (v + 4294967296 ^ i * (x % 2 ^ k))))]) (fun _=>_) (fun (k : Nat)=>32 - k) 0 ?_ (fun _=>rfl) ?_ ?_
  ·exact Nat.zero_le _
  ·repeat' first|exact rfl|exact trivial|exact wR|exact lR _|apply aI
   rw [show x % 2 ^ 0 = 0 from Nat.mod_one x,Nat.mul_zero,Nat.add_zero]
  intro k hk _
  (try dsimp only[awp]);conv=>whnf
  refine And.intro (fun h=>?_) (fun h=>?_)
  ·have hk2 : k < 32:=by omega
   conv=>whnf
   refine ⟨by omega,?_⟩
   conv=>whnf
   rw [bit_u32 (by omega) hk2]
   cases hb : x.testBit k with
   | true =>
     have hbl:=blen_add (x:=x) htl hb
     conv=>whnf
     refine And.intro (fun _=>?_) (fun h=>absurd rfl h)
     conv=>whnf
     refine ⟨inr64 (by omega) (by omega),?_⟩
     conv=>whnf
     refine zA ?_;conv=>whnf
     refine zA ?_;conv=>whnf
     refine zA ?_;conv=>whnf
     refine ⟨k + 1,?_,?_,?_⟩
     ·exact hk2
     ·rw [hbl]
      all_goals exact wk
     ·omega
   | false =>
     have hbl : x % 2 ^ (k + 1) = x % 2 ^ k:=by rw [mod_bit,hb]; simp
     conv=>whnf
     refine And.intro (fun h=>absurd h (by decide)) (fun _=>?_)
     conv=>whnf
     refine zA ?_;conv=>whnf
     refine ⟨k + 1,?_,?_,?_⟩
     ·exact hk2
     ·rw [hbl]
      all_goals exact wk
     ·omega
  ·have hk3 : k = 32:=by omega
   subst hk3
   have hx32 : x % 2 ^ 32 = x:=Nat.mod_eq_of_lt (by omega)
   rw [hx32,← hva]
   conv=>whnf
   refine zA ?_;conv=>whnf
   refine ⟨i + 1,?_,?_,?_⟩
   ·exact hlt
   ·all_goals exact wk
   ·omega
 ·have hil : i = a.length:=by have : ¬ i < a.length:=by simpa using h
                              omega
  subst hil
  rw [List.take_length]
  conv=>whnf
  refine fM ?_;(conv=>whnf);refine ⟨?_,rfl⟩;conv=>whnf
  all_goals exact wk

theorem shl_u32 {a n : Nat} (hn : n < 32) (h : a * 2 ^ n < 4294967296) : shlR .u32 (a : Int) (n : Int) = ((a * 2 ^ n : Nat) : Int):=by
 unfold shlR
 have h1 : min (n : Int).toNat (IntKind.bits .u32) = n:=by show min n 32 = n; omega
 rw [h1]
 have h2 : (a : Int) * 2 ^ n = ((a * 2 ^ n : Nat) : Int):=by simp
 rw [h2]
 exact wrap_u32 (by omega) (by omega)

theorem and_31 {a : Nat} (h : a < 4294967296) : bitsR .and .u32 (a : Int) 2147483648 = 0 ↔ a < 2147483648:=by
 have e : ∀ z : Nat,BitVec.ofInt 32 (z : Int) = BitVec.ofNat 32 z:=by
  intro z; apply BitVec.eq_of_toNat_eq; simp
 simp only [bitsR]
 have h1 : (BitVec.ofInt 32 (a : Int) &&& BitVec.ofInt 32 (2147483648 : Int)).toNat = a &&& 2 ^ 31:=by
  rw [show (2147483648 : Int) = ((2 ^ 31 : Nat) : Int) from rfl,e,e,BitVec.toNat_and,BitVec.toNat_ofNat,BitVec.toNat_ofNat,Nat.mod_eq_of_lt (by omega),Nat.mod_eq_of_lt (by omega)]
 show IntKind.wrap .u32 ((BitVec.ofInt 32 (a : Int) &&& BitVec.ofInt 32 (2147483648 : Int)).toNat : Int) = 0 ↔ _
 have hle : a &&& 2 ^ 31 ≤ a:=Nat.and_le_left
 rw [h1,wrap_u32 (by omega) (by omega)]
 have key : a &&& 2 ^ 31 = 0 ↔ a < 2147483648:=by
  constructor
  ·intro h0
   apply Classical.byContradiction
   intro hn
   have hbit : a.testBit 31 = true:=by rw [Nat.testBit_eq_decide_div_mod_eq]; simp; omega
   have : (a &&& 2 ^ 31).testBit 31 = true:=by rw [Nat.testBit_and,hbit,Nat.testBit_two_pow_self]; rfl
   rw [h0] at this
   simp at this
  ·intro h0
   apply Nat.eq_of_testBit_eq
   intro i
   rw [Nat.testBit_and,Nat.testBit_two_pow]
   by_cases hi : 31 = i
   ·subst hi
    rw [Nat.testBit_lt_two_pow (by omega)]; simp
   ·simp [hi]
 omega

theorem wd_len_eq {x n : Nat} (h1 : 4294967296 ^ (n - 1) ≤ x) (h2 : x < 4294967296 ^ n) (hn : 1 ≤ n) : (wd x).length = n:=by
 have hw:=wd_Ws x
 have hv:=val_wd x
 have hl:=val_lt hw
 rw [hv] at hl
 have a1 : ¬ (wd x).length ≤ n - 1:=by
  intro h
  have : 4294967296 ^ (wd x).length ≤ 4294967296 ^ (n - 1):=Nat.pow_le_pow_right (by omega) h
  omega
 have a2 : (wd x).length ≤ n:=by
  have:=wd_len_le (wdN_Ws n x)
  rw [val_wdN h2,wdN_len] at this
  exact this
 omega

structure RInv (V L : Nat) (al : List Int) (j r : Nat) (Q : List Int) : Prop where
 jle : j ≤ L
 wq : Ws Q
 lq : Q.length = L
 lt : r < V
 eq : val (al.drop j) = r + V * val (Q.drop j)
 z : ∀ k,k < j → Q.getD k 0 = 0

theorem val_cons (x : Int) (l : List Int) : val (x :: l) = x.toNat + 4294967296 * val l:=rfl

theorem RInv.step {V L j r : Nat} {al Q : List Int} (h : RInv V L al (j + 1) r Q) (hV0 : 0 < V) (hx : (al.getD j 0).toNat < 4294967296) :
  (al.getD j 0).toNat + 4294967296 * r < 4294967296 * V ∧
  RInv V L al j (((al.getD j 0).toNat + 4294967296 * r) % V) (Q.set j ((((al.getD j 0).toNat + 4294967296 * r) / V : Nat) : Int)):=by
 have hlt:=h.lt
 have h1 : (al.getD j 0).toNat + 4294967296 * r < 4294967296 * V:=by omega
 refine ⟨h1,?_⟩
 have hj : j < L:=h.jle
 have hq : ((al.getD j 0).toNat + 4294967296 * r) / V < 4294967296:=by rw [Nat.div_lt_iff_lt_mul hV0]; exact h1
 have hjq : j < Q.length:=by rw [h.lq]; exact hj
 have hvd:=val_hd al j
 have he:=h.eq
 generalize (al.getD j 0).toNat = x at *
 generalize hs : x + 4294967296 * r = s at *
 have hdm:=Nat.div_add_mod s V
 generalize hqq : s / V = q at *
 generalize s % V = m at *
 refine ⟨?_,h.wq.set (by omega),by simpa using h.lq,?_,?_,?_⟩
 ·omega
 ·have hm : s - V * q < V:=by
   rw [← hqq]
   have:=Nat.mod_lt s hV0
   have:=Nat.div_add_mod s V
   omega
  omega
 ·have e1 : (Q.set j (q : Int)).drop j = (q : Int) :: Q.drop (j + 1):=by
   rw [List.drop_eq_getElem_cons (by simpa using hjq),List.getElem_set_self,List.drop_set_of_lt (by omega)]
  rw [e1,val_cons,Int.toNat_natCast,hvd,he,Nat.mul_add,Nat.mul_add,Nat.mul_left_comm 4294967296 V]
  omega
 ·intro k hk
  have:=h.z k (by omega)
  rw [List.getD_eq_getElem?_getD] at this ⊢
  rw [List.getElem?_set_ne (by omega)]
  exact this

theorem rguess {V p s top : Nat} (hp : 0 < p) (ht : 0 < top) (hV : top * p ≤ V) (hq : s / V < 4294967296) : s / V ≤ min (s / p / top) 4294967295:=by
 have h1 : s / V ≤ s / p / top:=by
  refine guess_ge (p:=p) ht hV ?_
  have:=Nat.lt_div_mul_add (a:=s) hp
  rw [Nat.add_mul,Nat.one_mul]; exact this
 omega

theorem wd_len_lt {x n : Nat} (h2 : x < 4294967296 ^ n) : (wd x).length ≤ n:=by
 have:=wd_len_le (wdN_Ws n x)
 rw [val_wdN h2,wdN_len] at this
 exact this

theorem wd_getD (x i : Nat) : (wd x).getD i 0 = ((x / 4294967296 ^ i % 4294967296 : Nat) : Int):=by
 have h1:=val_drop (wd_Ws x) i
 have h2:=val_hd (wd x) i
 have h3:=(wd_Ws x).getD (i:=i)
 rw [val_wd] at h1
 rw [h1,h2]
 omega

theorem head_eq {S n : Nat} (hn : 1 ≤ n) (h : S < 4294967296 ^ (n + 1)) : (S / 4294967296 ^ n % 4294967296) * 4294967296 + S / 4294967296 ^ (n - 1) % 4294967296 = S / 4294967296 ^ (n - 1):=by
 obtain ⟨m,rfl⟩ : ∃ m,n = m + 1:=⟨n - 1,by omega⟩
 rw [show m + 1 - 1 = m by omega]
 have e : S / 4294967296 ^ (m + 1) = S / 4294967296 ^ m / 4294967296:=by rw [Nat.div_div_eq_div_mul,Nat.pow_succ]
 have hl : S / 4294967296 ^ m < 4294967296 * 4294967296:=by
  rw [Nat.div_lt_iff_lt_mul (Nat.pow_pos (by omega))]
  rw [Nat.pow_succ,Nat.pow_succ,Nat.mul_assoc,Nat.mul_comm] at h
  exact h
 rw [e]
 generalize S / 4294967296 ^ m = z at *
 omega

theorem rdiv_mod {V S q : Nat} (hq : S / V = q) : S - V * q = S % V:=by
 subst hq
 have:=Nat.div_add_mod S V
 omega

theorem rdiv_le {V S q g : Nat} (hV : 0 < V) (hq : S / V = q) (h1 : q ≤ g) (h2 : ¬ S < V * g) : g = q:=by
 subst hq
 have : g ≤ S / V:=by
  rw [Nat.le_div_iff_mul_le hV,Nat.mul_comm]; omega
 omega

theorem rdiv_gt {V S q g : Nat} (hq : S / V = q) (h2 : S < V * g) : q < g:=by
 subst hq
 apply Classical.byContradiction
 intro hn
 have h3 : V * g ≤ V * (S / V):=Nat.mul_le_mul_left _ (by omega)
 have h4:=Nat.mul_div_le S V
 omega

set_option maxHeartbeats 2000000 in
theorem c_rDiv (a b : List Int) (ha : a.length ≤ 300000) (hb : b.length ≤ 300000) (h0 : val b ≠ 0) : FnH Tryz.prog 130 [wL a,wL b] [] (.tup [wL (wd (val a / val b)),wL (wd (val a % val b)),.int .i64 0]) []:=by
 refine FnH.intro lay mixed Tryz.func130 (by kernel_rfl) rfl (by kernel_rfl) rfl fun hok=>?_
 have wa : Ws a:=Ws.ok hok.1.2
 have wb0 : Ws b:=Ws.ok hok.2.1.2
 (try dsimp only[argC,succC]);(try dsimp only[awp]);conv=>whnf
 refine .pure _ _ ?_ ⟨rfl,rfl⟩ (c_rTrim b (by omega)) fun _=>?_
 ·exact leL_refl _
 have hbl:=wd_len_le wb0
 have hwy:=wd_Ws (val b)
 have hvy:=val_wd (val b)
 have hpy:=wd_Pl (val b)
 have hn1 : 1 ≤ (wd (val b)).length:=by rw [wd_pos h0]; simp
 generalize hyv : val b = y at *
 generalize wd y = bl at *
 obtain ⟨n,hn⟩ : ∃ n,bl.length = n:=⟨_,rfl⟩
 rw [hn] at hn1
 have htb:=hwy.getD (i:=n - 1)
 have htn : bl.getD (n - 1) 0 ≠ 0:=by
  rcases hpy with h | h
  ·rw [h] at hn; simp at hn; omega
  ·rw [List.getLastD_eq_getLast?,List.getLast?_eq_getElem?,hn] at h
   rw [List.getD_eq_getElem?_getD]; exact h
 have e1:=val_take_drop (l:=bl) (n - 1) (by omega)
 rw [val_hd bl (n - 1),List.drop_eq_nil_of_le (by omega : bl.length ≤ n - 1 + 1),hvy] at e1
 have e2:=take_lt hwy (n - 1)
 have hge:=val_pos_of_len hpy (by intro e; rw [e] at hn; simp at hn; omega) hwy
 rw [hn,hvy] at hge
 generalize htt : bl.getD (n - 1) 0 = tb0 at *
 obtain ⟨tb,rfl⟩ : ∃ tb : Nat,tb0 = tb:=⟨tb0.toNat,by omega⟩
 have eln : (((bl.map (AV.int .u32)).length : Nat) : Int) = (n : Int):=by simp [hn]
 conv=>whnf
 rw [eln]
 refine And.intro (fun h=>by exfalso; omega) (fun _=>?_)
 conv=>whnf
 refine LoopE.of <| LoopSpec.inv (.refl _ _) (fun (s : Nat)=>s < 32 ∧ tb * 2 ^ s < 4294967296) (fun (s : Nat)=>[(8,.int .i64 s)]) (fun _=>_) (fun (s : Nat)=>32 - s) 0 ?_ (fun _=>rfl) ?_ ?_
 ·exact ⟨(by omega : 0 < 32),by omega⟩
 ·all_goals exact wk
 rintro s ⟨hs,hts⟩ _
 (try dsimp only[awp]);conv=>whnf
 refine zA ?_;conv=>whnf
 refine aidxN' 0 (i:=n - 1) (by omega) (by omega) ?_
 rw [htt]
 conv=>whnf
 refine ⟨by omega,?_⟩
 rw [shl_u32 hs hts]
 conv=>whnf
 refine And.intro (fun h=>?_) (fun h=>?_)
 ·have h:=(and_31 hts).1 h
  have hs31 : s < 31:=by
   have h1 : 1 * 2 ^ s ≤ tb * 2 ^ s:=Nat.mul_le_mul_right _ (by omega)
   have h2 : 2 ^ s < 2 ^ 31:=by omega
   exact (Nat.pow_lt_pow_iff_right (a:=2) (by omega)).1 h2
  conv=>whnf
  refine zA ?_;conv=>whnf
  refine ⟨s + 1,?_,?_,?_⟩
  ·exact ⟨(by omega : s + 1 < 32),(by rw [Nat.pow_succ,← Nat.mul_assoc]; omega : tb * 2 ^ (s + 1) < 4294967296)⟩
  ·all_goals exact wk
  ·omega
 have hp2:=Nat.two_pow_pos s
 have hV1 : 4294967296 ^ (n - 1) ≤ y * 2 ^ s:=Nat.le_trans hge (Nat.le_mul_of_pos_right _ hp2)
 have hV2 : y * 2 ^ s < 4294967296 ^ n:=by
  have e3 : y < 4294967296 ^ (n - 1) * (tb + 1):=by
   rw [Nat.mul_add]
   simp only [Int.toNat_natCast,val,Nat.mul_zero,Nat.add_zero] at e1
   omega
  have hdvd : (tb + 1) * 2 ^ s ≤ 4294967296:=by
   have e32 : (4294967296 : Nat) = 2 ^ (32 - s) * 2 ^ s:=by rw [← Nat.pow_add,show 32 - s + s = 32 by omega]
   rw [e32] at hts ⊢
   have:=Nat.lt_of_mul_lt_mul_right hts
   exact Nat.mul_le_mul_right _ this
  have e5 : y * 2 ^ s < 4294967296 ^ (n - 1) * (tb + 1) * 2 ^ s:=Nat.mul_lt_mul_of_pos_right e3 hp2
  have e6 : 4294967296 ^ (n - 1) * ((tb + 1) * 2 ^ s) ≤ 4294967296 ^ (n - 1) * 4294967296:=Nat.mul_le_mul_left _ hdvd
  rw [← Nat.pow_succ,show (n - 1).succ = n by omega,← Nat.mul_assoc] at e6
  omega
 have hVl:=wd_len_eq hV1 hV2 hn1
 have hxa:=val_lt wa
 have hres : val a * 2 ^ s / (y * 2 ^ s) = val a / y ∧ val a * 2 ^ s % (y * 2 ^ s) / 2 ^ s = val a % y:=by
  refine ⟨Nat.mul_div_mul_right _ _ hp2,?_⟩
  rw [Nat.mul_mod_mul_right,Nat.mul_div_cancel _ hp2]
 have hAl : (wd (val a * 2 ^ s)).length ≤ a.length + 1:=by
  refine wd_len_lt ?_
  have k1 : 2 ^ s ≤ 4294967296:=Nat.le_trans (Nat.pow_le_pow_right (by omega) (show s ≤ 32 by omega)) (by decide)
  have k2 : val a * 2 ^ s < 4294967296 ^ a.length * 2 ^ s:=Nat.mul_lt_mul_of_pos_right hxa hp2
  have k3 : 4294967296 ^ a.length * 2 ^ s ≤ 4294967296 ^ a.length * 4294967296:=Nat.mul_le_mul_left _ k1
  rw [Nat.pow_succ]
  omega
 have cua:=c_rUp a s hs (by omega)
 have cub:=c_rUp bl s hs (by omega)
 rw [hvy] at cub
 have hwA:=wd_Ws (val a * 2 ^ s)
 have hvA:=val_wd (val a * 2 ^ s)
 have hwV:=wd_Ws (y * 2 ^ s)
 have hvV:=val_wd (y * 2 ^ s)
 have hgV:=wd_getD (y * 2 ^ s) (n - 1)
 generalize val a * 2 ^ s = A at *
 generalize y * 2 ^ s = V at *
 have htop : V / 4294967296 ^ (n - 1) < 4294967296:=by
  rw [Nat.div_lt_iff_lt_mul (Nat.pow_pos (by omega)),Nat.mul_comm,← Nat.pow_succ,show (n - 1).succ = n by omega]; exact hV2
 have htop1 : 1 ≤ V / 4294967296 ^ (n - 1):=by
  rw [Nat.le_div_iff_mul_le (Nat.pow_pos (by omega)),Nat.one_mul]; exact hV1
 have htopV : V / 4294967296 ^ (n - 1) * 4294967296 ^ (n - 1) ≤ V:=Nat.div_mul_le_self _ _
 rw [Nat.mod_eq_of_lt htop] at hgV
 generalize V / 4294967296 ^ (n - 1) = top at *
 have hVp : 0 < V:=by have:=Nat.pow_pos (n:=n - 1) (show 0 < 4294967296 by omega); omega
 conv=>whnf
 refine .pure _ _ ?_ ⟨rfl,rfl⟩ cua fun _=>?_
 ·exact leL_refl _
 conv=>whnf
 refine .pure _ _ ?_ ⟨rfl,rfl⟩ cub fun _=>?_
 ·exact leL_refl _
 generalize wd A = al at *
 have cmul:=fun g : Nat=>fun (hg : g < 4294967296)=>c_rMul (wd V) [(g : Int)] (by omega) (by simp)
 generalize wd V = vl at *
 obtain ⟨L,hL⟩ : ∃ L,al.length = L:=⟨_,rfl⟩
 have ell : (((al.map (AV.int .u32)).length : Nat) : Int) = (L : Int):=by simp [hL]
 conv=>whnf
 refine ADraw.mk ⟨[true,true,false,true,true,true,true,true,true,true,true,true,true,true,true],by kernel_rfl,?_⟩
 conv=>whnf
 rw [ell]
 refine ⟨⟨by omega,by omega,by simp; omega,by omega⟩,.wr ?_⟩
 conv=>whnf
 rw [ell]
 refine zA ?_;conv=>whnf
 refine zA ?_;conv=>whnf
 rw [show max (0 : Int) ((L : Int) - (n : Int) + 1) = ((L + 1 - n : Nat) : Int) by omega]
 refine ⟨⟨by omega,by omega,by simp⟩,?_⟩
 have hcut : ((al.map (AV.int .u32)).drop ((L + 1 - n : Nat) : Int).toNat).take ((((al.map (AV.int .u32)).length : Nat) : Int).toNat - ((L + 1 - n : Nat) : Int).toNat) = (al.drop (L + 1 - n)).map (AV.int .u32):=by
  rw [List.take_of_length_le (by simp),Int.toNat_natCast,List.map_drop]
 rw [hcut]
 conv=>whnf
 refine .pure (by simp [maxL]; omega) (by simp; omega) ⟨rfl,?_⟩
 conv=>whnf
 refine zA ?_;conv=>whnf
 have hinit : ∃ j : Nat,(((L : Int) - (n : Int) = (j : Int) - 1) ∨ ((L : Int) - (n : Int) < 0 ∧ j = 0)) ∧ RInv V L al j (val (al.drop (L + 1 - n))) (List.replicate L 0):=by
  have hrz : val (List.replicate L (0 : Int)) = 0:=val_zeros fun x hx=>(List.mem_replicate.1 hx).2
  have hzw : Ws (List.replicate L (0 : Int)):=by
   intro x hx
   rw [(List.mem_replicate.1 hx).2]; omega
  have hz : ∀ k,(List.replicate L (0 : Int)).getD k 0 = 0:=by
   intro k
   rw [List.getD_eq_getElem?_getD,List.getElem?_replicate]
   split <;> rfl
  have hdz : ∀ k,val ((List.replicate L (0 : Int)).drop k) = 0:=fun k=>val_zeros fun x hx=>(List.mem_replicate.1 (List.mem_of_mem_drop hx)).2
  have hlt : val (al.drop (L + 1 - n)) < V:=by
   have h1:=val_lt (hwA.drop (L + 1 - n))
   have h2 : 4294967296 ^ (al.drop (L + 1 - n)).length ≤ 4294967296 ^ (n - 1):=Nat.pow_le_pow_right (by omega) (by rw [List.length_drop]; omega)
   omega
  by_cases hLn : n ≤ L
  ·refine ⟨L + 1 - n,.inl (by omega),by omega,hzw,by simp,hlt,?_,fun k _=>hz k⟩
   rw [hdz,Nat.mul_zero]; rfl
  ·refine ⟨0,?_,by omega,hzw,by simp,hlt,?_,fun k _=>hz k⟩
   ·by_cases h : (L : Int) - (n : Int) = ((0 : Nat) : Int) - 1
    ·exact .inl h
    ·exact .inr ⟨by omega,rfl⟩
   ·rw [hdz,Nat.mul_zero,Nat.add_zero,show L + 1 - n = 0 by omega]
 obtain ⟨j0,hj0,hI0⟩:=hinit
 have hrw0 : Ws (al.drop (L + 1 - n)):=hwA.drop _
 have hrl0 : (al.drop (L + 1 - n)).length ≤ 300001:=by rw [List.length_drop]; omega
 conv=>whnf
 refine LoopE.of <| LoopSpec.inv (.refl _ _) (fun x : Int × Nat × List Int × List Int=>((x.1 = (x.2.1 : Int) - 1) ∨ (x.1 < 0 ∧ x.2.1 = 0)) ∧ -1000000 ≤ x.1 ∧ Ws x.2.2.1 ∧ x.2.2.1.length ≤ 300001 ∧ RInv V L al x.2.1 (val x.2.2.1) x.2.2.2)
  (fun | (e,_,r,_)=>[(11,.int .i64 e),(10,wL r)]) (fun | (_,_,_,Q)=>[(0,.arr 1 L (Q.map (.int .u32)))])
  (fun x=>x.2.1) ((L : Int) - (n : Int),j0,al.drop (L + 1 - n),List.replicate L 0) ?_ (fun _=>rfl) ?_ ?_
 ·exact ⟨hj0,(by omega : -1000000 ≤ (L : Int) - (n : Int)),hrw0,hrl0,hI0⟩
 ·refine ⟨?_,.mk ?_ ⟨by simp,trivial⟩⟩
  ·repeat' first|exact rfl|exact trivial|exact wR|exact lR _|apply aI
   omega
  ·repeat' first|exact rfl|exact trivial|exact wR|exact lR _|apply aI
   all_goals first | (simp; done) | exact leRL_of (by simp)
 rintro ⟨e,j,rl,Q⟩ ⟨hej,hem,hwr,hrl,hI⟩ _
 simp only at hej hem hwr hrl hI
 (try dsimp only[awp]);conv=>whnf
 refine And.intro (fun h=>?_) (fun h=>?_)
 ·obtain ⟨k,rfl⟩ : ∃ k,j = k + 1:=⟨j - 1,by omega⟩
  have hek : e = (k : Int):=by omega
  subst hek
  have hjle:=hI.jle
  have hQL:=hI.lq
  have hkL : k < L:=by omega
  have hxa:=hwA.getD (i:=k)
  obtain ⟨hS,hst⟩:=hI.step hVp (by omega)
  conv=>whnf
  refine aidxN' 0 rfl (by omega) ?_
  generalize al.getD k 0 = x0 at *
  obtain ⟨x,rfl⟩ : ∃ x : Nat,x0 = x:=⟨x0.toNat,by omega⟩
  rw [Int.toNat_natCast] at hS hst
  have ct:=c_rTrim ((x : Int) :: rl) (by simp; omega)
  rw [val_cons,Int.toNat_natCast] at ct
  generalize hSS : x + 4294967296 * val rl = S at *
  have hSB : S < 4294967296 ^ (n + 1):=by
   have k1 : 4294967296 * V ≤ 4294967296 * 4294967296 ^ n:=Nat.mul_le_mul_left _ (by omega)
   rw [Nat.pow_succ,Nat.mul_comm]
   omega
  conv=>whnf
  refine .pure (by simp [maxL]; omega) (by simp; omega) ?_
  conv=>whnf
  refine .gen _ _ (FnH.ofPure ct ?_ ⟨rfl,rfl⟩) fun _=>?_
  ·all_goals exact wk
  have cw1:=c_rWord (wd S) n
  have cw0:=c_rWord (wd S) (n - 1)
  have cwt:=c_rWord vl (n - 1)
  rw [wd_getD] at cw1 cw0
  rw [hgV] at cwt
  have hhd:=head_eq hn1 hSB
  have hh1 : S / 4294967296 ^ n % 4294967296 < 4294967296:=Nat.mod_lt _ (by omega)
  have hh0 : S / 4294967296 ^ (n - 1) % 4294967296 < 4294967296:=Nat.mod_lt _ (by omega)
  have hge2:=rguess (V:=V) (s:=S) (p:=4294967296 ^ (n - 1)) (Nat.pow_pos (by omega)) htop1 htopV (by rw [Nat.div_lt_iff_lt_mul hVp]; exact hS)
  generalize S / 4294967296 ^ n % 4294967296 = z1 at *
  generalize S / 4294967296 ^ (n - 1) % 4294967296 = z0 at *
  generalize S / 4294967296 ^ (n - 1) = head at *
  obtain ⟨q,hq⟩ : ∃ q,S / V = q:=⟨_,rfl⟩
  rw [hq] at hge2 hst
  conv=>whnf
  refine .gen _ _ (FnH.ofPure cw1 (leL_refl _) ⟨rfl,rfl⟩) fun _=>?_
  conv=>whnf
  refine ⟨by decide,?_⟩
  rw [shl_word (by omega)]
  conv=>whnf
  refine zA ?_;conv=>whnf
  rw [show (n : Int) - 1 = ((n - 1 : Nat) : Int) by omega]
  refine .gen _ _ (FnH.ofPure cw0 (leL_refl _) ⟨rfl,rfl⟩) fun _=>?_
  conv=>whnf
  rw [or_word (by omega) (by omega),hhd]
  conv=>whnf
  refine zA ?_;conv=>whnf
  rw [show (n : Int) - 1 = ((n - 1 : Nat) : Int) by omega]
  refine .gen _ _ (FnH.ofPure cwt (leL_refl _) ⟨rfl,rfl⟩) fun _=>?_
  conv=>whnf
  refine ⟨by omega,?_⟩
  rw [tdiv_nat]
  conv=>whnf
  have hht : head / top ≤ head:=Nat.div_le_self _ _
  rw [wrap_u64 (n:=((head / top : Nat) : Int)) (by omega) (by omega)]
  rw [show min ((head / top : Nat) : Int) 4294967295 = ((min (head / top) 4294967295 : Nat) : Int) by omega]
  have hg1 : min (head / top) 4294967295 < 4294967296:=by omega
  generalize min (head / top) 4294967295 = g0 at *
  rw [wrap_u32 (n:=(g0 : Int)) (by omega) (by omega)]
  have cm:=cmul g0 hg1
  rw [hvV,show val [(g0 : Int)] = g0 by simp [val]] at cm
  refine .gen _ _ (FnH.ofPure cm ?_ ⟨rfl,rfl⟩) fun _=>?_
  ·all_goals exact wk
  conv=>whnf
  have hVg : ∀ g,g < 4294967296 → (wd (V * g)).length ≤ n + 1:=by
   intro g hg
   refine wd_len_lt ?_
   rw [Nat.pow_succ]
   exact Nat.mul_lt_mul_of_lt_of_le hV2 (by omega) (by omega)
  have hSl:=wd_len_lt hSB
  refine LoopE.of <| LoopSpec.inv (.refl _ _) (fun g : Nat=>q ≤ g ∧ g < 4294967296) (fun g=>[(12,.int .u64 g),(13,wL (wd (V * g)))]) (fun _=>[(0,.arr 1 L (Q.map (.int .u32)))])
   (fun g=>g) g0 ?_ (fun _=>rfl) ?_ ?_
  ·exact ⟨hge2,hg1⟩
  ·refine ⟨?_,.refl rfl⟩
   all_goals exact wk
  rintro g ⟨hqg,hgB⟩ _
  have hgl:=hVg g hgB
  have cc:=c_rCmp (wd (V * g)) (wd S) (by omega) (by omega)
  rw [val_wd,val_wd] at cc
  have hcmp : (0 < cmpN (V * g) S) ↔ S < V * g:=by
   unfold cmpN
   split
   ·omega
   ·split <;> omega
  (try dsimp only[awp]);conv=>whnf
  refine .gen _ _ (FnH.ofPure cc (leL_refl _) ⟨rfl,rfl⟩) fun _=>?_
  conv=>whnf
  refine And.intro (fun h=>?_) (fun h=>?_)
  ·have hqg2:=rdiv_gt hq (hcmp.1 h)
   have cs:=c_rSub (wd (V * g)) vl (by omega) (by omega) _ rfl
   have hsub : V * g - V = V * (g - 1):=by rw [Nat.mul_sub,Nat.mul_one]
   have hge3 : ¬ V * g < V:=by
    have : V * 1 ≤ V * g:=Nat.mul_le_mul_left _ (by omega)
    omega
   rw [val_wd,hvV,if_neg hge3,hsub] at cs
   conv=>whnf
   rw [show ((g : Int) - 1) = ((g - 1 : Nat) : Int) by omega,wrap_u64 (n:=((g - 1 : Nat) : Int)) (by omega) (by omega)]
   conv=>whnf
   refine .gen _ _ (FnH.ofPure cs (leL_refl _) ⟨rfl,rfl⟩) fun _=>?_
   conv=>whnf
   refine ⟨g - 1,?_,?_,?_⟩
   ·exact ⟨by omega,by omega⟩
   ·refine ⟨?_,.refl rfl⟩
    all_goals exact wk
   ·show g - 1 < g
    omega
  have hgq:=rdiv_le hVp hq hqg (fun hh=>h (hcmp.2 hh))
  subst hgq
  have cs:=c_rSub (wd S) (wd (V * g)) (by omega) (by omega) _ rfl
  rw [val_wd,val_wd,if_neg (fun hh=>h (hcmp.2 hh)),rdiv_mod hq] at cs
  have hrl2 : (wd (S % V)).length ≤ n:=wd_len_lt (Nat.lt_of_lt_of_le (Nat.mod_lt _ hVp) (by omega))
  conv=>whnf
  refine .gen _ _ (FnH.ofPure cs (leL_refl _) ⟨rfl,rfl⟩) fun _=>?_
  conv=>whnf
  rw [wrap_u32 (n:=(g : Int)) (by omega) (by omega)]
  refine ⟨⟨by omega,by omega⟩,?_⟩
  dsimp only [putE]
  rw [aops]
  dsimp only [guardC]
  dsimp only [aopW,aop]
  conv=>whnf
  refine ⟨by rw [List.length_map,hQL]; omega,rfl,?_⟩
  conv=>whnf
  refine zA ?_;conv=>whnf
  refine ⟨((k : Int) - 1,k,wd (S % V),Q.set k (g : Int)),?_,?_,?_⟩
  ·refine ⟨.inl rfl,(by omega : -1000000 ≤ (k : Int) - 1),wd_Ws _,(by omega : (wd (S % V)).length ≤ 300001),?_⟩
   show RInv V L al k (val (wd (S % V))) (Q.set k (g : Int))
   rw [val_wd]
   exact hst
  ·refine ⟨?_,.mk ?_ ⟨by simp,trivial⟩⟩
   ·all_goals exact wk
   ·repeat' first|exact rfl|exact trivial|exact wR|exact lR _|apply aI
    refine leRL_of ?_
    rw [List.map_set]
    simp [strip]
  ·show k < k + 1
   omega
 ·have hj : j = 0:=by omega
  subst hj
  have he:=hI.eq
  have hl:=hI.lt
  have hQL:=hI.lq
  simp only [List.drop_zero] at he
  have f1 : val Q = A / V:=by
   rw [← hvA,he,Nat.add_mul_div_left _ _ hVp,Nat.div_eq_of_lt hl,Nat.zero_add]
  have f2 : val rl = A % V:=by
   rw [← hvA,he,Nat.add_mul_mod_self_left,Nat.mod_eq_of_lt hl]
  have hcq:=c_rTrim Q (by omega)
  rw [f1,hres.1] at hcq
  have hcd:=c_rDown rl s hs (by omega)
  rw [f2,hres.2] at hcd
  conv=>whnf
  refine .gen _ _ (FnH.frz 0 rfl rfl (by simp; omega) (FnH.ofPure hcq ?_ ⟨rfl,rfl⟩)) fun _=>?_
  ·repeat' first|exact rfl|exact trivial|exact wR|exact lR _|apply aI
   refine leRL_of ?_
   simp
   rw [List.take_of_length_le (by simp; omega)]
  conv=>whnf
  refine .gen _ _ (FnH.ofPure hcd (leL_refl _) ⟨rfl,rfl⟩) fun _=>?_
  conv=>whnf
  refine fM ?_;(conv=>whnf);refine ⟨?_,rfl⟩;conv=>whnf
  all_goals exact wk


def formR (neg : Bool) (n d : Nat) : Rat:=if n = 0 then ⟨false,[],[]⟩ else ⟨neg,wd (n / Nat.gcd n d),wd (d / Nat.gcd n d)⟩

def partsR (r : Rat) : Bool × Nat × Nat:=if valid r = true ∧ r.num ≠ [] then (r.neg,val r.num,val r.den) else (false,0,1)

theorem wd_len_mul {x y k l : Nat} (hx : (wd x).length ≤ k) (hy : (wd y).length ≤ l) : (wd (x * y)).length ≤ k + l:=by
 refine wd_len_lt ?_
 have h1:=val_lt (wd_Ws x)
 have h2:=val_lt (wd_Ws y)
 rw [val_wd] at h1 h2
 have h3 : 4294967296 ^ (wd x).length ≤ 4294967296 ^ k:=Nat.pow_le_pow_right (by omega) hx
 have h4 : 4294967296 ^ (wd y).length ≤ 4294967296 ^ l:=Nat.pow_le_pow_right (by omega) hy
 rw [Nat.pow_add]
 exact Nat.mul_lt_mul_of_lt_of_le (by omega) (by omega) (by omega)

theorem blen_zero {x : Nat} : blen x = 0 ↔ x = 0:=by
 unfold blen
 split
 ·simp [*]
 ·simp [*]

theorem blen_one {x : Nat} : blen x = 1 ↔ x = 1:=by
 by_cases h : x = 0
 ·subst h; simp [blen]
 ·obtain ⟨l,h1,h2,h3⟩:=blen_spec h
  rw [h1]
  constructor
  ·intro e
   obtain rfl : l = 0:=by omega
   simp at h3; omega
  ·intro e
   subst e
   have : 2 ^ l ≤ 2 ^ 0:=by simpa using h2
   have:=(Nat.pow_le_pow_iff_right (a:=2) (by omega)).1 this
   omega

theorem plain_wd {l : List Int} (h : plainR l = true) (hw : Ws l) : wd (val l) = l ∧ val l ≠ 0:=by
 simp only [plainR,Bool.and_eq_true,decide_eq_true_eq] at h
 have e:=wd_val hw (.inr h.2)
 refine ⟨e,fun h0=>h.1 ?_⟩
 rw [h0,wd_zero] at e
 exact e.symm

structure PartsOk (r : Rat) : Prop where
 den : (partsR r).2.2 ≠ 0
 ln : (wd (partsR r).2.1).length ≤ 400000
 ld : (wd (partsR r).2.2).length ≤ 400000
 eq : (if valid r = true ∧ r.num ≠ [] then AV.tup [.bool r.neg,wL r.num,wL r.den] else .tup [.bool false,wL [],wL [1]]) = .tup [.bool (partsR r).1,wL (wd (partsR r).2.1),wL (wd (partsR r).2.2)]

theorem partsOk {r : Rat} (w1 : Ws r.num) (w2 : Ws r.den) (l1 : r.num.length ≤ 400000) (l2 : r.den.length ≤ 400000) : PartsOk r:=by
 by_cases h : valid r = true ∧ r.num ≠ []
 ·have hp : partsR r = (r.neg,val r.num,val r.den):=if_pos h
  obtain ⟨h1,h2⟩:=h
  have h1':=h1
  unfold valid at h1
  rw [if_neg (fun h=>h2 h.1)] at h1
  simp only [Bool.and_eq_true] at h1
  obtain ⟨e1,_⟩:=plain_wd h1.1.1 w1
  obtain ⟨e2,n2⟩:=plain_wd h1.1.2 w2
  refine ⟨?_,?_,?_,?_⟩
  ·rw [hp]; exact n2
  ·rw [hp,show wd (r.neg,val r.num,val r.den).2.1 = r.num from e1]; exact l1
  ·rw [hp,show wd (r.neg,val r.num,val r.den).2.2 = r.den from e2]; exact l2
  ·rw [if_pos ⟨h1',h2⟩,hp,show wd (r.neg,val r.num,val r.den).2.1 = r.num from e1,show wd (r.neg,val r.num,val r.den).2.2 = r.den from e2]
 ·have hp : partsR r = (false,0,1):=if_neg h
  have e1 : wd 1 = [1]:=wd_small (by omega) (by omega)
  refine ⟨?_,?_,?_,?_⟩
  ·rw [hp]; decide
  ·rw [hp,show wd ((false,0,1) : Bool × Nat × Nat).2.1 = [] from wd_zero]; simp
  ·rw [hp,show wd ((false,0,1) : Bool × Nat × Nat).2.2 = [1] from e1]; simp
  ·rw [if_neg h,hp,show wd ((false,0,1) : Bool × Nat × Nat).2.1 = [] from wd_zero,show wd ((false,0,1) : Bool × Nat × Nat).2.2 = [1] from e1]

theorem ratWs {r : Rat} {l : List AV} (h : OkL (r.av :: l)) : Ws r.num ∧ Ws r.den:=⟨Ws.ok h.1.2.1.2,Ws.ok h.1.2.2.1.2⟩

theorem c_clone32 (l : List Int) (hl : l.length ≤ 1000000) : FnH Tryz.prog 45 [wL l] [] (wL l) []:=by
 refine FnH.intro lay mixed Tryz.func45 (by kernel_rfl) rfl (by kernel_rfl) rfl fun hok=>?_
 conv=>whnf
 intro b hb
 conv=>whnf
 refine And.intro (fun h=>?_) (fun h=>?_)
 ·have : l = []:=by simpa using hb h
  subst this
  conv=>whnf
  refine fM ?_;(conv=>whnf);refine ⟨?_,rfl⟩;conv=>whnf
  rfl
 ·conv=>whnf
  refine .pure (by simp [maxL]; omega) (by simp; omega) ?_
  conv=>whnf
  refine fM ?_;(conv=>whnf);refine ⟨?_,rfl⟩;conv=>whnf
  all_goals exact wk


theorem c_rGcd (a b : List Int) (ha : a.length ≤ 300000) (hb : b.length ≤ 300000) : FnH Tryz.prog 120 [wL a,wL b] [] (wL (wd (Nat.gcd (val a) (val b)))) []:=by
 refine FnH.intro lay mixed Tryz.func120 (by kernel_rfl) rfl (by kernel_rfl) rfl fun hok=>?_
 have wa : Ws a:=Ws.ok hok.1.2
 have wb : Ws b:=Ws.ok hok.2.1.2
 have la:=wd_len_le wa
 have lb:=wd_len_le wb
 conv=>whnf
 refine .pure _ _ ?_ ⟨rfl,rfl⟩ (c_rTrim a (by omega)) fun _=>?_
 ·exact leL_refl _
 conv=>whnf
 refine .pure _ _ ?_ ⟨rfl,rfl⟩ (c_rTrim b (by omega)) fun _=>?_
 ·exact leL_refl _
 conv=>whnf
 refine LoopE.of <| LoopSpec.inv (.refl _ _) (fun (x : Nat × Nat)=>(wd x.1).length ≤ 300000 ∧ (wd x.2).length ≤ 300000 ∧ Nat.gcd x.1 x.2 = Nat.gcd (val a) (val b)) (fun (x : Nat × Nat)=>[(0,wL (wd x.1)),(1,wL (wd x.2))]) (fun _=>_) (fun (x : Nat × Nat)=>x.2) (val a,val b) ?_ (fun _=>rfl) ?_ ?_
 ·exact ⟨(by omega : (wd (val a)).length ≤ 300000),(by omega : (wd (val b)).length ≤ 300000),rfl⟩
 ·all_goals exact wk
 rintro ⟨x,y⟩ ⟨h1,h2,h3⟩ _
 simp only at h1 h2 h3
 (try dsimp only[awp]);conv=>whnf
 refine And.intro (fun h=>?_) (fun h=>?_)
 ·have h0 : y ≠ 0:=by
   intro e; subst e
   simp [wd_zero] at h
  have cd:=c_rDiv (wd x) (wd y) h1 h2 (by rw [val_wd]; exact h0)
  rw [val_wd,val_wd] at cd
  have hm : x % y < y:=Nat.mod_lt _ (by omega)
  have hml:=wd_len_mono (Nat.le_of_lt hm)
  conv=>whnf
  refine .pure _ _ ?_ ⟨rfl,rfl⟩ cd fun _=>?_
  ·exact leL_refl _
  conv=>whnf
  refine ⟨(y,x % y),?_,?_,?_⟩
  ·refine ⟨h2,(by omega : (wd (x % y)).length ≤ 300000),?_⟩
   show Nat.gcd y (x % y) = _
   rw [← h3,Nat.gcd_comm x y,Nat.gcd_rec y x]
   try exact Nat.gcd_comm _ _
  ·all_goals exact wk
  ·show x % y < y
   exact hm
 ·have h0 : y = 0:=by
   apply Classical.byContradiction
   intro hy
   apply h
   show (0 : Int) < ((wd y).map _).length
   rw [wd_pos hy]; simp
  subst h0
  conv=>whnf
  refine fM ?_;(conv=>whnf);refine ⟨?_,rfl⟩;conv=>whnf
  refine ⟨rfl,leRL_of ?_⟩
  rw [← h3,Nat.gcd_zero_right]

theorem getLast_getD (a : List Int) (k : Nat) (e : k = a.length - 1) : a.getD k 0 = a.getLastD 0:=by
 subst e
 rw [List.getLastD_eq_getLast?,List.getLast?_eq_getElem?,List.getD_eq_getElem?_getD]

theorem c_rValid (r : Rat) (l1 : r.num.length ≤ 300000) (l2 : r.den.length ≤ 300000) : FnH Tryz.prog 91 [r.av] [] (.bool (valid r)) []:=by
 have cg:=c_rGcd r.num r.den l1 l2
 refine FnH.intro lay mixed Tryz.func91 (by kernel_rfl) rfl (by kernel_rfl) rfl fun hok=>?_
 have w:=ratWs hok
 have hgl : (wd (Nat.gcd (val r.num) (val r.den))).length ≤ 1000000:=by
  have k1:=wd_len_le w.1
  have k2:=wd_len_le w.2
  by_cases h0 : val r.num = 0
  ·rw [h0,Nat.gcd_zero_left]; omega
  ·have:=wd_len_mono (Nat.gcd_le_left (val r.den) (by omega : 0 < val r.num))
   omega
 have cb:=c_rBits (wd (Nat.gcd (val r.num) (val r.den))) hgl
 rw [val_wd] at cb
 have h1:=blen_one (x:=Nat.gcd (val r.num) (val r.den))
 have hval : ¬ r.num = [] → (valid r = true ↔ plainR r.num = true ∧ plainR r.den = true ∧ Nat.gcd (val r.num) (val r.den) = 1):=fun n1=>by simp [valid,n1,and_assoc]
 generalize Nat.gcd (val r.num) (val r.den) = g at *
 have en : (((r.num.map (AV.int .u32)).length : Nat) : Int) = (r.num.length : Int):=by simp
 have ed : (((r.den.map (AV.int .u32)).length : Nat) : Int) = (r.den.length : Int):=by simp
 conv=>whnf
 refine ADraw.auto (by kernel_rfl) ?_;conv=>whnf
 refine And.intro (fun n1=>?_) (fun n1=>?_)
 ·have n1 : r.num = []:=List.eq_nil_of_length_eq_zero (by rw [en] at n1; omega)
  conv=>whnf
  refine And.intro (fun n2=>?_) (fun n2=>?_)
  ·conv=>whnf
   refine And.intro (fun n3=>?_) (fun n3=>?_)
   ·have n3 : r.den = []:=List.eq_nil_of_length_eq_zero (by rw [ed] at n3; omega)
    conv=>whnf
    refine fM ?_;(conv=>whnf);refine ⟨?_,rfl⟩;conv=>whnf
    simp [valid,n1,n3]
   ·have n3 : ¬ r.den = []:=fun e=>n3 (by rw [e]; rfl)
    conv=>whnf
    refine fM ?_;(conv=>whnf);refine ⟨?_,rfl⟩;conv=>whnf
    simp [valid,n1,n3,plainR]
  ·exact absurd (by rw [n1]; rfl) n2
 ·have n1 : ¬ r.num = []:=fun e=>n1 (by rw [e]; rfl)
  conv=>whnf
  refine And.intro (fun n2=>?_) (fun n2=>?_)
  ·have n2 : r.den = []:=List.eq_nil_of_length_eq_zero (by rw [ed] at n2; omega)
   conv=>whnf
   refine And.intro (fun n3=>?_) (fun n3=>?_)
   ·exact absurd (List.eq_nil_of_length_eq_zero (by rw [en] at n3; omega)) n1
   ·conv=>whnf
    refine fM ?_;(conv=>whnf);refine ⟨?_,rfl⟩;conv=>whnf
    simp [valid,n1,n2,plainR]
  ·have n2 : ¬ r.den = []:=fun e=>n2 (by rw [e]; rfl)
   have p1 : 0 < r.num.length:=List.length_pos_iff.2 n1
   have p2 : 0 < r.den.length:=List.length_pos_iff.2 n2
   (try dsimp only[awp]);conv=>whnf
   refine And.intro (inr64 (by rw [en]; omega) (by rw [en]; omega)) ?_
   (try dsimp only[awp]);conv=>whnf
   refine aidxN' 0 (i:=r.num.length - 1) (by rw [en]; omega) (by omega) ?_
   (try dsimp only[awp]);conv=>whnf
   refine And.intro (fun n3=>?_) (fun n3=>?_)
   ·(try dsimp only[awp]);conv=>whnf
    refine And.intro (inr64 (by rw [ed]; omega) (by rw [ed]; omega)) ?_
    (try dsimp only[awp]);conv=>whnf
    refine aidxN' 0 (i:=r.den.length - 1) (by rw [ed]; omega) (by omega) ?_
    (try dsimp only[awp]);conv=>whnf
    refine And.intro (fun n4=>?_) (fun n4=>?_)
    ·(try dsimp only[awp]);conv=>whnf
     refine .pure _ _ ?_ ⟨rfl,rfl⟩ cg fun _=>?_
     ·exact leL_refl _
     (try dsimp only[awp]);conv=>whnf
     refine .pure _ _ ?_ ⟨rfl,rfl⟩ cb fun _=>?_
     ·exact leL_refl _
     (try dsimp only[awp]);conv=>whnf
     refine fM ?_;(conv=>whnf);refine ⟨?_,rfl⟩;conv=>whnf
     show _ ↔ _
     have n3 : ¬ r.num.getLastD 0 = 0:=by rw [← getLast_getD r.num _ rfl]; simpa using n3
     have n4 : ¬ r.den.getLastD 0 = 0:=by rw [← getLast_getD r.den _ rfl]; simpa using n4
     rw [hval n1]
     have q1 : plainR r.num = true:=by simp [plainR,n1,n3,-List.getLastD_eq_getLast?]
     have q2 : plainR r.den = true:=by simp [plainR,n2,n4,-List.getLastD_eq_getLast?]
     rw [q1,q2]
     simp
     omega
    ·(try dsimp only[awp]);conv=>whnf
     refine fM ?_;(conv=>whnf);refine ⟨?_,rfl⟩;conv=>whnf
     have n4 : r.den.getLastD 0 = 0:=by rw [← getLast_getD r.den _ rfl]; simpa using n4
     have q : plainR r.den = false:=by simp [plainR,n4,-List.getLastD_eq_getLast?]
     simp [valid,n1,q]
   ·(try dsimp only[awp]);conv=>whnf
    refine fM ?_;(conv=>whnf);refine ⟨?_,rfl⟩;conv=>whnf
    have n3 : r.num.getLastD 0 = 0:=by rw [← getLast_getD r.num _ rfl]; simpa using n3
    have q : plainR r.num = false:=by simp [plainR,n3,-List.getLastD_eq_getLast?]
    simp [valid,n1,q]

abbrev Str:=List UInt8
abbrev sL (l : List Str) : AV:=.sl 1 (l.map .str) .no

structure Ev where
 name : Str
 p : Rat
 fail : Rat
 repair : Rat
 cost : Int
 deriving DecidableEq,Inhabited

abbrev Ev.av (x : Ev) : AV:=.ag [.str x.name,x.p.av,x.fail.av,x.repair.av,.int .i64 x.cost]

structure Hs where
 name : Str
 on : Bool
 deriving DecidableEq,Inhabited

abbrev Hs.av (x : Hs) : AV:=.ag [.str x.name,.bool x.on]

structure Mg where
 name : Str
 kind : Int
 k : Int
 ins : List Str
 dorm : Rat
 deriving DecidableEq,Inhabited

abbrev Mg.av (x : Mg) : AV:=.ag [.str x.name,.int .i64 x.kind,.int .i64 x.k,sL x.ins,x.dorm.av]
abbrev gL (l : List Mg) : AV:=.sl 7 (l.map Mg.av) .no

structure Pg where
 name : Str
 top : Str
 gates : List Mg
 deriving DecidableEq,Inhabited

abbrev Pg.av (x : Pg) : AV:=.ag [.str x.name,.str x.top,gL x.gates]

structure Gr where
 name : Str
 kind : Int
 mem : List Str
 fac : List Rat
 deriving DecidableEq,Inhabited

abbrev Gr.av (x : Gr) : AV:=.ag [.str x.name,.int .i64 x.kind,sL x.mem,.sl 3 (x.fac.map Rat.av) .no]

structure Pv where
 ev : Str
 p : Rat
 deriving DecidableEq,Inhabited

abbrev Pv.av (x : Pv) : AV:=.ag [.str x.ev,x.p.av]

structure Ph where
 name : Str
 top : Str
 vals : List Pv
 deriving DecidableEq,Inhabited

abbrev Ph.av (x : Ph) : AV:=.ag [.str x.name,.str x.top,.sl 4 (x.vals.map Pv.av) .no]

structure Md where
 name : Str
 top : Str
 evs : List Ev
 hs : List Hs
 gates : List Mg
 pages : List Pg
 grs : List Gr
 phs : List Ph
 deriving DecidableEq,Inhabited

abbrev Md.av (m : Md) : AV:=.ag [.str m.name,.str m.top,.sl 11 (m.evs.map Ev.av) .no,.sl 2 (m.hs.map Hs.av) .no,gL m.gates,.sl 3 (m.pages.map Pg.av) .no,.sl 4 (m.grs.map Gr.av) .no,.sl 3 (m.phs.map Ph.av) .no]

def letterN (n : Int) : Bool:=decide (65 ≤ n ∧ n ≤ 90) || decide (97 ≤ n ∧ n ≤ 122)
def digitN (n : Int) : Bool:=decide (48 ≤ n ∧ n ≤ 57)
def inN (n : Int) : Bool:=letterN n || digitN n || decide (n = 95) || decide (n = 46)

theorem c_letter (n : Int) : FnH Tryz.prog 63 [.int .u8 n] [] (.bool (letterN n)) []:=by
 refine FnH.intro lay mixed Tryz.func63 (by kernel_rfl) rfl (by kernel_rfl) rfl fun hok=>?_
 (try dsimp only[argC,succC]);(try dsimp only[awp]);conv=>whnf
 repeat' (first | (refine And.intro (fun _=>?_) (fun _=>?_) <;> ((try dsimp only[awp]);(conv=>whnf))))
 all_goals
  refine fM ?_;(conv=>whnf);refine ⟨?_,rfl⟩;conv=>whnf
  try simp_all [letterN]
 all_goals omega

theorem c_digit (n : Int) : FnH Tryz.prog 99 [.int .u8 n] [] (.bool (digitN n)) []:=by
 refine FnH.intro lay mixed Tryz.func99 (by kernel_rfl) rfl (by kernel_rfl) rfl fun hok=>?_
 (try dsimp only[argC,succC]);(try dsimp only[awp]);conv=>whnf
 repeat' (first | (refine And.intro (fun _=>?_) (fun _=>?_) <;> ((try dsimp only[awp]);(conv=>whnf))))
 all_goals
  refine fM ?_;(conv=>whnf);refine ⟨?_,rfl⟩;conv=>whnf
  try simp_all [digitN]
 all_goals omega

def wendR (s : Str) : Int:=if idxP (fun c=>!inN c.toNat) s < 0 then s.length else idxP (fun c=>!inN c.toNat) s

def nameR (s : Str) : Bool:=decide (0 < s.length) && decide (s.length ≤ 24) && letterN (s.getD 0 0).toNat && s.all fun c=>inN c.toNat

theorem wendR_all (s : Str) : wendR s = s.length ↔ (s.all fun c=>inN c.toNat) = true:=by
 unfold wendR
 rcases idxP_cases (fun c : UInt8=>!inN c.toNat) s with ⟨h1,h2⟩ | ⟨i,h,h1,h2,_⟩
 ·rw [h1,if_pos (by omega)]
  refine ⟨fun _=>List.all_eq_true.2 fun x hx=>by simpa using h2 x hx,fun _=>rfl⟩
 ·rw [h1,if_neg (by omega)]
  constructor
  ·intro h; omega
  ·intro ha
   have:=List.all_eq_true.1 ha _ (List.getElem_mem h)
   simp [this] at h2

theorem sidx {s : List UInt8} {i : Nat} {k : UInt8 → Prop} (h : i < s.length) (hk : k s[i]) : AIdx s (i : Int) k :=
 ⟨⟨_,⟨by omega,by rw [Int.toNat_natCast,List.getElem?_eq_getElem h]⟩,hk⟩⟩

theorem sidx0 {s : List UInt8} {k : UInt8 → Prop} (h : 0 < s.length) (hk : k (s.getD 0 0)) : AIdx s 0 k:=by
 rw [getD_lt h] at hk
 exact ⟨⟨_,⟨by omega,List.getElem?_eq_getElem h⟩,hk⟩⟩

theorem c_wordEnd (s : Str) : FnH Tryz.prog 64 [.str s,.int .i64 0] [] (.int .i64 (wendR s)) []:=by
 refine FnH.intro lay mixed Tryz.func64 (by kernel_rfl) rfl (by kernel_rfl) rfl fun hok=>?_
 have hl : s.length ≤ 9223372036854775807:=by have:=hok.1; simpa [maxL,Ok] using this
 (try dsimp only[argC,succC]);(try dsimp only[awp]);conv=>whnf
 refine LoopE.of <| LoopSpec.inv (.refl _ _) (fun (i : Nat)=>i ≤ s.length ∧ ∀ (j : Nat) (hj : j < s.length),j < i → inN s[j].toNat = true) (fun (i : Nat)=>[(1,.int .i64 i)]) (fun _=>_) (fun (i : Nat)=>s.length - i) 0 ?_ (fun _=>rfl) ?_ ?_
 ·exact ⟨Nat.zero_le _,by omega⟩
 ·all_goals exact wk
 rintro i ⟨hi,hn⟩ _
 have fin : i = s.length ∨ (∃ h : i < s.length,inN s[i].toNat = false) → wendR s = i:=by
  unfold wendR
  rintro (h | ⟨h,hf⟩)
  ·rw [idxP_none fun j hj=>by rw [hn j hj (by omega)]; rfl,if_pos (by omega),h]
  ·rw [idxP_some h (by rw [hf]; rfl) fun j hj=>by rw [hn j (by omega) hj]; rfl,if_neg (by omega)]
 (try dsimp only[awp]);conv=>whnf
 refine And.intro (fun h=>?_) (fun h=>?_)
 ·have hlt : i < s.length:=by omega
  have cl:=c_letter s[i].toNat
  have cd:=c_digit s[i].toNat
  have fin:=fun h=>fin (.inr ⟨hlt,h⟩)
  (try dsimp only[awp]);conv=>whnf
  refine sidx hlt ?_
  generalize hc : s[i].toNat = c at *
  (try dsimp only[awp]);conv=>whnf
  refine .pure _ _ ?_ ⟨rfl,rfl⟩ cl fun _=>?_
  ·exact leL_refl _
  (try dsimp only[awp]);conv=>whnf
  refine And.intro (fun h1=>?_) (fun h1=>?_)
  ·(try dsimp only[awp]);conv=>whnf
   refine zA ?_;conv=>whnf
   refine ⟨i + 1,?_,?_,?_⟩
   ·refine ⟨hlt,fun j hj hji=>?_⟩
    by_cases e : j = i
    ·subst e; show inN _ = true; unfold inN; rw [hc,h1]; rfl
    ·exact hn j hj (by omega)
   ·all_goals exact wk
   ·omega
  (try dsimp only[awp]);conv=>whnf
  refine sidx hlt ?_
  rw [hc]
  (try dsimp only[awp]);conv=>whnf
  refine .pure _ _ ?_ ⟨rfl,rfl⟩ cd fun _=>?_
  ·exact leL_refl _
  (try dsimp only[awp]);conv=>whnf
  refine And.intro (fun h2=>?_) (fun h2=>?_)
  ·(try dsimp only[awp]);conv=>whnf
   refine zA ?_;conv=>whnf
   refine ⟨i + 1,?_,?_,?_⟩
   ·refine ⟨hlt,fun j hj hji=>?_⟩
    by_cases e : j = i
    ·subst e; show inN _ = true; unfold inN; rw [hc,h1,h2]; rfl
    ·exact hn j hj (by omega)
   ·all_goals exact wk
   ·omega
  (try dsimp only[awp]);conv=>whnf
  refine sidx hlt ?_
  rw [hc]
  (try dsimp only[awp]);conv=>whnf
  refine And.intro (fun h3=>?_) (fun h3=>?_)
  ·(try dsimp only[awp]);conv=>whnf
   refine zA ?_;conv=>whnf
   refine ⟨i + 1,?_,?_,?_⟩
   ·refine ⟨hlt,fun j hj hji=>?_⟩
    by_cases e : j = i
    ·subst e; show inN _ = true; unfold inN; rw [hc,h1,h2,h3]; rfl
    ·exact hn j hj (by omega)
   ·all_goals exact wk
   ·omega
  (try dsimp only[awp]);conv=>whnf
  refine sidx hlt ?_
  rw [hc]
  (try dsimp only[awp]);conv=>whnf
  refine And.intro (fun h4=>?_) (fun h4=>?_)
  ·(try dsimp only[awp]);conv=>whnf
   refine zA ?_;conv=>whnf
   refine ⟨i + 1,?_,?_,?_⟩
   ·refine ⟨hlt,fun j hj hji=>?_⟩
    by_cases e : j = i
    ·subst e; show inN _ = true; unfold inN; rw [hc,h1,h2,h4]; rfl
    ·exact hn j hj (by omega)
   ·all_goals exact wk
   ·omega
  ·rw [fin (by unfold inN; rw [h1,h2,decide_eq_false h3,decide_eq_false h4]; rfl)]
   (try dsimp only[awp]);conv=>whnf
   refine fM ?_;(conv=>whnf);refine ⟨?_,rfl⟩;conv=>whnf
   all_goals exact wk
 ·have hil : i = s.length:=by omega
  rw [fin (.inl hil)]
  (try dsimp only[awp]);conv=>whnf
  refine fM ?_;(conv=>whnf);refine ⟨?_,rfl⟩;conv=>whnf
  all_goals exact wk

theorem c_tokenName (s : Str) : FnH Tryz.prog 36 [.str s] [] (.bool (nameR s)) []:=by
 have cl:=c_letter (s.getD 0 0).toNat
 have cw:=c_wordEnd s
 have hw:=wendR_all s
 refine FnH.intro lay mixed Tryz.func36 (by kernel_rfl) rfl (by kernel_rfl) rfl fun hok=>?_
 (try dsimp only[argC,succC]);(try dsimp only[awp]);conv=>whnf
 refine And.intro (fun h1=>?_) (fun h1=>?_)
 ·have h1 : 0 < s.length:=by omega
  (try dsimp only[awp]);conv=>whnf
  refine And.intro (fun h2=>?_) (fun h2=>?_)
  ·have h2 : s.length ≤ 24:=by omega
   (try dsimp only[awp]);conv=>whnf
   refine sidx0 h1 ?_
   (try dsimp only[awp]);conv=>whnf
   refine .pure _ _ ?_ ⟨rfl,rfl⟩ cl fun _=>?_
   ·exact leL_refl _
   (try dsimp only[awp]);conv=>whnf
   refine And.intro (fun h3=>?_) (fun h3=>?_)
   ·(try dsimp only[awp]);conv=>whnf
    refine .pure _ _ ?_ ⟨rfl,rfl⟩ cw fun _=>?_
    ·exact leL_refl _
    (try dsimp only[awp]);conv=>whnf
    refine fM ?_;(conv=>whnf);refine ⟨?_,rfl⟩;conv=>whnf
    rw [hw]
    simp only [nameR,h1,h2,h3,decide_true,Bool.true_and]
   ·(try dsimp only[awp]);conv=>whnf
    refine fM ?_;(conv=>whnf);refine ⟨?_,rfl⟩;conv=>whnf
    simp only [nameR,h3,Bool.and_false,Bool.false_and]
    all_goals exact wk
  ·have h2 : ¬ s.length ≤ 24:=by omega
   (try dsimp only[awp]);conv=>whnf
   refine fM ?_;(conv=>whnf);refine ⟨?_,rfl⟩;conv=>whnf
   simp [nameR,h2]
 ·have h1 : ¬ 0 < s.length:=by omega
  (try dsimp only[awp]);conv=>whnf
  refine fM ?_;(conv=>whnf);refine ⟨?_,rfl⟩;conv=>whnf
  simp [nameR,h1]

theorem c_idx_Ev (l : List Ev) (g : Nat) (cap : List AV) (p : Ev → Bool) (H : Heap) (hg : ∀ x ∈ l,FnH Tryz.prog g (x.av :: cap) H (.bool (p x)) H) :
  FnH Tryz.prog 24 [.sl 11 (l.map Ev.av) .no,.fn g cap] H (.int .i64 (idxP p l)) H:=by
 refine FnH.intro lay mixed Tryz.func24 (by kernel_rfl) rfl (by kernel_rfl) rfl fun hok=>?_
 have hl : l.length ≤ 9223372036854775807:=by have:=hok.1.1; simpa [maxL] using this
 (try dsimp only[argC,succC]);(try dsimp only[awp]);conv=>whnf
 refine LoopE.of <| LoopSpec.inv (.refl _ _) (fun (i : Nat)=>i ≤ l.length ∧ ∀ (j : Nat) (hj : j < l.length),j < i → p l[j] = false) (fun (i : Nat)=>[(8,.int .i64 i)]) (fun _=>_) (fun (i : Nat)=>l.length - i) 0 ?_ (fun _=>rfl) ?_ ?_
 ·exact ⟨Nat.zero_le _,by omega⟩
 ·all_goals exact wk
 rintro i ⟨hi,hn⟩ _
 (try dsimp only[awp]);conv=>whnf
 refine And.intro (fun h=>?_) (fun h=>?_)
 ·have hlt : i < l.length:=by simpa using h
  (try dsimp only[awp]);conv=>whnf
  refine aidx hlt ?_
  (try dsimp only[awp]);conv=>whnf
  refine .gen _ _ (hg _ (List.getElem_mem hlt)) fun _=>?_
  (try dsimp only[awp]);conv=>whnf
  refine And.intro (fun h=>?_) (fun h=>?_)
  ·(try dsimp only[awp]);conv=>whnf
   (refine FinSpec.same ?_;(conv=>whnf);refine ⟨?_,rfl⟩;(conv=>whnf))
   exact ⟨rfl,(idxP_some hlt h fun j hj=>hn j (by omega) hj).symm⟩
  ·(try dsimp only[awp]);conv=>whnf
   refine zA ?_;conv=>whnf
   refine ⟨i + 1,?_,?_,?_⟩
   ·refine ⟨hlt,fun j hj hji=>?_⟩
    by_cases hji' : j = i
    ·subst hji'; exact h
    ·exact hn j hj (by omega)
   ·all_goals exact wk
   ·omega
 ·have hlt : i = l.length:=by have : ¬ i < l.length:=by simpa using h
                              omega
  subst hlt
  (try dsimp only[awp]);conv=>whnf
  (refine FinSpec.same ?_;(conv=>whnf);refine ⟨?_,rfl⟩;(conv=>whnf))
  exact ⟨rfl,(idxP_none fun j hj=>hn j hj hj).symm⟩
theorem c_idx_Hs (l : List Hs) (g : Nat) (cap : List AV) (p : Hs → Bool) (H : Heap) (hg : ∀ x ∈ l,FnH Tryz.prog g (x.av :: cap) H (.bool (p x)) H) :
  FnH Tryz.prog 104 [.sl 2 (l.map Hs.av) .no,.fn g cap] H (.int .i64 (idxP p l)) H:=by
 refine FnH.intro lay mixed Tryz.func104 (by kernel_rfl) rfl (by kernel_rfl) rfl fun hok=>?_
 have hl : l.length ≤ 9223372036854775807:=by have:=hok.1.1; simpa [maxL] using this
 (try dsimp only[argC,succC]);(try dsimp only[awp]);conv=>whnf
 refine LoopE.of <| LoopSpec.inv (.refl _ _) (fun (i : Nat)=>i ≤ l.length ∧ ∀ (j : Nat) (hj : j < l.length),j < i → p l[j] = false) (fun (i : Nat)=>[(8,.int .i64 i)]) (fun _=>_) (fun (i : Nat)=>l.length - i) 0 ?_ (fun _=>rfl) ?_ ?_
 ·exact ⟨Nat.zero_le _,by omega⟩
 ·all_goals exact wk
 rintro i ⟨hi,hn⟩ _
 (try dsimp only[awp]);conv=>whnf
 refine And.intro (fun h=>?_) (fun h=>?_)
 ·have hlt : i < l.length:=by simpa using h
  (try dsimp only[awp]);conv=>whnf
  refine aidx hlt ?_
  (try dsimp only[awp]);conv=>whnf
  refine .gen _ _ (hg _ (List.getElem_mem hlt)) fun _=>?_
  (try dsimp only[awp]);conv=>whnf
  refine And.intro (fun h=>?_) (fun h=>?_)
  ·(try dsimp only[awp]);conv=>whnf
   (refine FinSpec.same ?_;(conv=>whnf);refine ⟨?_,rfl⟩;(conv=>whnf))
   exact ⟨rfl,(idxP_some hlt h fun j hj=>hn j (by omega) hj).symm⟩
  ·(try dsimp only[awp]);conv=>whnf
   refine zA ?_;conv=>whnf
   refine ⟨i + 1,?_,?_,?_⟩
   ·refine ⟨hlt,fun j hj hji=>?_⟩
    by_cases hji' : j = i
    ·subst hji'; exact h
    ·exact hn j hj (by omega)
   ·all_goals exact wk
   ·omega
 ·have hlt : i = l.length:=by have : ¬ i < l.length:=by simpa using h
                              omega
  subst hlt
  (try dsimp only[awp]);conv=>whnf
  (refine FinSpec.same ?_;(conv=>whnf);refine ⟨?_,rfl⟩;(conv=>whnf))
  exact ⟨rfl,(idxP_none fun j hj=>hn j hj hj).symm⟩
theorem c_idx_Mg (l : List Mg) (g : Nat) (cap : List AV) (p : Mg → Bool) (H : Heap) (hg : ∀ x ∈ l,FnH Tryz.prog g (x.av :: cap) H (.bool (p x)) H) :
  FnH Tryz.prog 108 [.sl 7 (l.map Mg.av) .no,.fn g cap] H (.int .i64 (idxP p l)) H:=by
 refine FnH.intro lay mixed Tryz.func108 (by kernel_rfl) rfl (by kernel_rfl) rfl fun hok=>?_
 have hl : l.length ≤ 9223372036854775807:=by have:=hok.1.1; simpa [maxL] using this
 (try dsimp only[argC,succC]);(try dsimp only[awp]);conv=>whnf
 refine LoopE.of <| LoopSpec.inv (.refl _ _) (fun (i : Nat)=>i ≤ l.length ∧ ∀ (j : Nat) (hj : j < l.length),j < i → p l[j] = false) (fun (i : Nat)=>[(8,.int .i64 i)]) (fun _=>_) (fun (i : Nat)=>l.length - i) 0 ?_ (fun _=>rfl) ?_ ?_
 ·exact ⟨Nat.zero_le _,by omega⟩
 ·all_goals exact wk
 rintro i ⟨hi,hn⟩ _
 (try dsimp only[awp]);conv=>whnf
 refine And.intro (fun h=>?_) (fun h=>?_)
 ·have hlt : i < l.length:=by simpa using h
  (try dsimp only[awp]);conv=>whnf
  refine aidx hlt ?_
  (try dsimp only[awp]);conv=>whnf
  refine .gen _ _ (hg _ (List.getElem_mem hlt)) fun _=>?_
  (try dsimp only[awp]);conv=>whnf
  refine And.intro (fun h=>?_) (fun h=>?_)
  ·(try dsimp only[awp]);conv=>whnf
   (refine FinSpec.same ?_;(conv=>whnf);refine ⟨?_,rfl⟩;(conv=>whnf))
   exact ⟨rfl,(idxP_some hlt h fun j hj=>hn j (by omega) hj).symm⟩
  ·(try dsimp only[awp]);conv=>whnf
   refine zA ?_;conv=>whnf
   refine ⟨i + 1,?_,?_,?_⟩
   ·refine ⟨hlt,fun j hj hji=>?_⟩
    by_cases hji' : j = i
    ·subst hji'; exact h
    ·exact hn j hj (by omega)
   ·all_goals exact wk
   ·omega
 ·have hlt : i = l.length:=by have : ¬ i < l.length:=by simpa using h
                              omega
  subst hlt
  (try dsimp only[awp]);conv=>whnf
  (refine FinSpec.same ?_;(conv=>whnf);refine ⟨?_,rfl⟩;(conv=>whnf))
  exact ⟨rfl,(idxP_none fun j hj=>hn j hj hj).symm⟩
theorem c_idx_Pg (l : List Pg) (g : Nat) (cap : List AV) (p : Pg → Bool) (H : Heap) (hg : ∀ x ∈ l,FnH Tryz.prog g (x.av :: cap) H (.bool (p x)) H) :
  FnH Tryz.prog 106 [.sl 3 (l.map Pg.av) .no,.fn g cap] H (.int .i64 (idxP p l)) H:=by
 refine FnH.intro lay mixed Tryz.func106 (by kernel_rfl) rfl (by kernel_rfl) rfl fun hok=>?_
 have hl : l.length ≤ 9223372036854775807:=by have:=hok.1.1; simpa [maxL] using this
 (try dsimp only[argC,succC]);(try dsimp only[awp]);conv=>whnf
 refine LoopE.of <| LoopSpec.inv (.refl _ _) (fun (i : Nat)=>i ≤ l.length ∧ ∀ (j : Nat) (hj : j < l.length),j < i → p l[j] = false) (fun (i : Nat)=>[(8,.int .i64 i)]) (fun _=>_) (fun (i : Nat)=>l.length - i) 0 ?_ (fun _=>rfl) ?_ ?_
 ·exact ⟨Nat.zero_le _,by omega⟩
 ·all_goals exact wk
 rintro i ⟨hi,hn⟩ _
 (try dsimp only[awp]);conv=>whnf
 refine And.intro (fun h=>?_) (fun h=>?_)
 ·have hlt : i < l.length:=by simpa using h
  (try dsimp only[awp]);conv=>whnf
  refine aidx hlt ?_
  (try dsimp only[awp]);conv=>whnf
  refine .gen _ _ (hg _ (List.getElem_mem hlt)) fun _=>?_
  (try dsimp only[awp]);conv=>whnf
  refine And.intro (fun h=>?_) (fun h=>?_)
  ·(try dsimp only[awp]);conv=>whnf
   (refine FinSpec.same ?_;(conv=>whnf);refine ⟨?_,rfl⟩;(conv=>whnf))
   exact ⟨rfl,(idxP_some hlt h fun j hj=>hn j (by omega) hj).symm⟩
  ·(try dsimp only[awp]);conv=>whnf
   refine zA ?_;conv=>whnf
   refine ⟨i + 1,?_,?_,?_⟩
   ·refine ⟨hlt,fun j hj hji=>?_⟩
    by_cases hji' : j = i
    ·subst hji'; exact h
    ·exact hn j hj (by omega)
   ·all_goals exact wk
   ·omega
 ·have hlt : i = l.length:=by have : ¬ i < l.length:=by simpa using h
                              omega
  subst hlt
  (try dsimp only[awp]);conv=>whnf
  (refine FinSpec.same ?_;(conv=>whnf);refine ⟨?_,rfl⟩;(conv=>whnf))
  exact ⟨rfl,(idxP_none fun j hj=>hn j hj hj).symm⟩
theorem c_idx_Gr (l : List Gr) (g : Nat) (cap : List AV) (p : Gr → Bool) (H : Heap) (hg : ∀ x ∈ l,FnH Tryz.prog g (x.av :: cap) H (.bool (p x)) H) :
  FnH Tryz.prog 75 [.sl 4 (l.map Gr.av) .no,.fn g cap] H (.int .i64 (idxP p l)) H:=by
 refine FnH.intro lay mixed Tryz.func75 (by kernel_rfl) rfl (by kernel_rfl) rfl fun hok=>?_
 have hl : l.length ≤ 9223372036854775807:=by have:=hok.1.1; simpa [maxL] using this
 (try dsimp only[argC,succC]);(try dsimp only[awp]);conv=>whnf
 refine LoopE.of <| LoopSpec.inv (.refl _ _) (fun (i : Nat)=>i ≤ l.length ∧ ∀ (j : Nat) (hj : j < l.length),j < i → p l[j] = false) (fun (i : Nat)=>[(8,.int .i64 i)]) (fun _=>_) (fun (i : Nat)=>l.length - i) 0 ?_ (fun _=>rfl) ?_ ?_
 ·exact ⟨Nat.zero_le _,by omega⟩
 ·all_goals exact wk
 rintro i ⟨hi,hn⟩ _
 (try dsimp only[awp]);conv=>whnf
 refine And.intro (fun h=>?_) (fun h=>?_)
 ·have hlt : i < l.length:=by simpa using h
  (try dsimp only[awp]);conv=>whnf
  refine aidx hlt ?_
  (try dsimp only[awp]);conv=>whnf
  refine .gen _ _ (hg _ (List.getElem_mem hlt)) fun _=>?_
  (try dsimp only[awp]);conv=>whnf
  refine And.intro (fun h=>?_) (fun h=>?_)
  ·(try dsimp only[awp]);conv=>whnf
   (refine FinSpec.same ?_;(conv=>whnf);refine ⟨?_,rfl⟩;(conv=>whnf))
   exact ⟨rfl,(idxP_some hlt h fun j hj=>hn j (by omega) hj).symm⟩
  ·(try dsimp only[awp]);conv=>whnf
   refine zA ?_;conv=>whnf
   refine ⟨i + 1,?_,?_,?_⟩
   ·refine ⟨hlt,fun j hj hji=>?_⟩
    by_cases hji' : j = i
    ·subst hji'; exact h
    ·exact hn j hj (by omega)
   ·all_goals exact wk
   ·omega
 ·have hlt : i = l.length:=by have : ¬ i < l.length:=by simpa using h
                              omega
  subst hlt
  (try dsimp only[awp]);conv=>whnf
  (refine FinSpec.same ?_;(conv=>whnf);refine ⟨?_,rfl⟩;(conv=>whnf))
  exact ⟨rfl,(idxP_none fun j hj=>hn j hj hj).symm⟩
theorem c_idx_Ph (l : List Ph) (g : Nat) (cap : List AV) (p : Ph → Bool) (H : Heap) (hg : ∀ x ∈ l,FnH Tryz.prog g (x.av :: cap) H (.bool (p x)) H) :
  FnH Tryz.prog 79 [.sl 3 (l.map Ph.av) .no,.fn g cap] H (.int .i64 (idxP p l)) H:=by
 refine FnH.intro lay mixed Tryz.func79 (by kernel_rfl) rfl (by kernel_rfl) rfl fun hok=>?_
 have hl : l.length ≤ 9223372036854775807:=by have:=hok.1.1; simpa [maxL] using this
 (try dsimp only[argC,succC]);(try dsimp only[awp]);conv=>whnf
 refine LoopE.of <| LoopSpec.inv (.refl _ _) (fun (i : Nat)=>i ≤ l.length ∧ ∀ (j : Nat) (hj : j < l.length),j < i → p l[j] = false) (fun (i : Nat)=>[(8,.int .i64 i)]) (fun _=>_) (fun (i : Nat)=>l.length - i) 0 ?_ (fun _=>rfl) ?_ ?_
 ·exact ⟨Nat.zero_le _,by omega⟩
 ·all_goals exact wk
 rintro i ⟨hi,hn⟩ _
 (try dsimp only[awp]);conv=>whnf
 refine And.intro (fun h=>?_) (fun h=>?_)
 ·have hlt : i < l.length:=by simpa using h
  (try dsimp only[awp]);conv=>whnf
  refine aidx hlt ?_
  (try dsimp only[awp]);conv=>whnf
  refine .gen _ _ (hg _ (List.getElem_mem hlt)) fun _=>?_
  (try dsimp only[awp]);conv=>whnf
  refine And.intro (fun h=>?_) (fun h=>?_)
  ·(try dsimp only[awp]);conv=>whnf
   (refine FinSpec.same ?_;(conv=>whnf);refine ⟨?_,rfl⟩;(conv=>whnf))
   exact ⟨rfl,(idxP_some hlt h fun j hj=>hn j (by omega) hj).symm⟩
  ·(try dsimp only[awp]);conv=>whnf
   refine zA ?_;conv=>whnf
   refine ⟨i + 1,?_,?_,?_⟩
   ·refine ⟨hlt,fun j hj hji=>?_⟩
    by_cases hji' : j = i
    ·subst hji'; exact h
    ·exact hn j hj (by omega)
   ·all_goals exact wk
   ·omega
 ·have hlt : i = l.length:=by have : ¬ i < l.length:=by simpa using h
                              omega
  subst hlt
  (try dsimp only[awp]);conv=>whnf
  (refine FinSpec.same ?_;(conv=>whnf);refine ⟨?_,rfl⟩;(conv=>whnf))
  exact ⟨rfl,(idxP_none fun j hj=>hn j hj hj).symm⟩
theorem c_idx_Pv (l : List Pv) (g : Nat) (cap : List AV) (p : Pv → Bool) (H : Heap) (hg : ∀ x ∈ l,FnH Tryz.prog g (x.av :: cap) H (.bool (p x)) H) :
  FnH Tryz.prog 81 [.sl 4 (l.map Pv.av) .no,.fn g cap] H (.int .i64 (idxP p l)) H:=by
 refine FnH.intro lay mixed Tryz.func81 (by kernel_rfl) rfl (by kernel_rfl) rfl fun hok=>?_
 have hl : l.length ≤ 9223372036854775807:=by have:=hok.1.1; simpa [maxL] using this
 (try dsimp only[argC,succC]);(try dsimp only[awp]);conv=>whnf
 refine LoopE.of <| LoopSpec.inv (.refl _ _) (fun (i : Nat)=>i ≤ l.length ∧ ∀ (j : Nat) (hj : j < l.length),j < i → p l[j] = false) (fun (i : Nat)=>[(8,.int .i64 i)]) (fun _=>_) (fun (i : Nat)=>l.length - i) 0 ?_ (fun _=>rfl) ?_ ?_
 ·exact ⟨Nat.zero_le _,by omega⟩
 ·all_goals exact wk
 rintro i ⟨hi,hn⟩ _
 (try dsimp only[awp]);conv=>whnf
 refine And.intro (fun h=>?_) (fun h=>?_)
 ·have hlt : i < l.length:=by simpa using h
  (try dsimp only[awp]);conv=>whnf
  refine aidx hlt ?_
  (try dsimp only[awp]);conv=>whnf
  refine .gen _ _ (hg _ (List.getElem_mem hlt)) fun _=>?_
  (try dsimp only[awp]);conv=>whnf
  refine And.intro (fun h=>?_) (fun h=>?_)
  ·(try dsimp only[awp]);conv=>whnf
   (refine FinSpec.same ?_;(conv=>whnf);refine ⟨?_,rfl⟩;(conv=>whnf))
   exact ⟨rfl,(idxP_some hlt h fun j hj=>hn j (by omega) hj).symm⟩
  ·(try dsimp only[awp]);conv=>whnf
   refine zA ?_;conv=>whnf
   refine ⟨i + 1,?_,?_,?_⟩
   ·refine ⟨hlt,fun j hj hji=>?_⟩
    by_cases hji' : j = i
    ·subst hji'; exact h
    ·exact hn j hj (by omega)
   ·all_goals exact wk
   ·omega
 ·have hlt : i = l.length:=by have : ¬ i < l.length:=by simpa using h
                              omega
  subst hlt
  (try dsimp only[awp]);conv=>whnf
  (refine FinSpec.same ?_;(conv=>whnf);refine ⟨?_,rfl⟩;(conv=>whnf))
  exact ⟨rfl,(idxP_none fun j hj=>hn j hj hj).symm⟩

def i_event (l : List Ev) (s : Str) : Int:=idxP (fun x=>decide (x.name = s)) l

theorem c1_event (x : Ev) (s : Str) (m : Md) : FnH Tryz.prog 100 [x.av,.ptr 1 [] 0] [(1,.box (.str s)),(0,.box m.av)] (.bool (decide (x.name = s))) [(1,.box (.str s)),(0,.box m.av)]:=by
 refine FnH.intro lay mixed Tryz.func100 (by kernel_rfl) rfl (by kernel_rfl) rfl fun hok=>?_
 (try dsimp only[argC,succC]);(try dsimp only[awp]);conv=>whnf
 refine ⟨⟨_,_,.refl _ _,?_⟩⟩
 conv=>whnf
 refine ⟨?_,rfl,by simp [nextId],.mk ?_ ⟨by simp,by simp,trivial⟩⟩
 ·show _ ↔ _
  simp
 ·all_goals exact wk

theorem c_event (m : Md) (s : Str) : FnH Tryz.prog 65 [m.av,.str s] [] (.int .i64 (i_event m.evs s)) []:=by
 refine FnH.intro lay mixed Tryz.func65 (by kernel_rfl) rfl (by kernel_rfl) rfl fun hok=>?_
 (try dsimp only[argC,succC]);(try dsimp only[awp]);conv=>whnf
 refine .gen _ _ (c_idx_Ev m.evs 100 [.ptr 1 [] 0] (fun x=>decide (x.name = s)) _ fun x _=>c1_event x s m) fun _=>?_
 (try dsimp only[awp]);conv=>whnf
 refine fM ?_;(conv=>whnf);refine ⟨?_,rfl⟩;conv=>whnf
 all_goals exact wk
def i_house (l : List Hs) (s : Str) : Int:=idxP (fun x=>decide (x.name = s)) l

theorem c1_house (x : Hs) (s : Str) (m : Md) : FnH Tryz.prog 105 [x.av,.ptr 1 [] 0] [(1,.box (.str s)),(0,.box m.av)] (.bool (decide (x.name = s))) [(1,.box (.str s)),(0,.box m.av)]:=by
 refine FnH.intro lay mixed Tryz.func105 (by kernel_rfl) rfl (by kernel_rfl) rfl fun hok=>?_
 (try dsimp only[argC,succC]);(try dsimp only[awp]);conv=>whnf
 refine ⟨⟨_,_,.refl _ _,?_⟩⟩
 conv=>whnf
 refine ⟨?_,rfl,by simp [nextId],.mk ?_ ⟨by simp,by simp,trivial⟩⟩
 ·show _ ↔ _
  simp
 ·all_goals exact wk

theorem c_house (m : Md) (s : Str) : FnH Tryz.prog 68 [m.av,.str s] [] (.int .i64 (i_house m.hs s)) []:=by
 refine FnH.intro lay mixed Tryz.func68 (by kernel_rfl) rfl (by kernel_rfl) rfl fun hok=>?_
 (try dsimp only[argC,succC]);(try dsimp only[awp]);conv=>whnf
 refine .gen _ _ (c_idx_Hs m.hs 105 [.ptr 1 [] 0] (fun x=>decide (x.name = s)) _ fun x _=>c1_house x s m) fun _=>?_
 (try dsimp only[awp]);conv=>whnf
 refine fM ?_;(conv=>whnf);refine ⟨?_,rfl⟩;conv=>whnf
 all_goals exact wk
def i_page (l : List Pg) (s : Str) : Int:=idxP (fun x=>decide (x.name = s)) l

theorem c1_page (x : Pg) (s : Str) (m : Md) : FnH Tryz.prog 107 [x.av,.ptr 1 [] 0] [(1,.box (.str s)),(0,.box m.av)] (.bool (decide (x.name = s))) [(1,.box (.str s)),(0,.box m.av)]:=by
 refine FnH.intro lay mixed Tryz.func107 (by kernel_rfl) rfl (by kernel_rfl) rfl fun hok=>?_
 (try dsimp only[argC,succC]);(try dsimp only[awp]);conv=>whnf
 refine ⟨⟨_,_,.refl _ _,?_⟩⟩
 conv=>whnf
 refine ⟨?_,rfl,by simp [nextId],.mk ?_ ⟨by simp,by simp,trivial⟩⟩
 ·show _ ↔ _
  simp
 ·all_goals exact wk

theorem c_page (m : Md) (s : Str) : FnH Tryz.prog 69 [m.av,.str s] [] (.int .i64 (i_page m.pages s)) []:=by
 refine FnH.intro lay mixed Tryz.func69 (by kernel_rfl) rfl (by kernel_rfl) rfl fun hok=>?_
 (try dsimp only[argC,succC]);(try dsimp only[awp]);conv=>whnf
 refine .gen _ _ (c_idx_Pg m.pages 107 [.ptr 1 [] 0] (fun x=>decide (x.name = s)) _ fun x _=>c1_page x s m) fun _=>?_
 (try dsimp only[awp]);conv=>whnf
 refine fM ?_;(conv=>whnf);refine ⟨?_,rfl⟩;conv=>whnf
 all_goals exact wk

def i_gate (l : List Mg) (s : Str) : Int:=idxP (fun x=>decide (x.name = s)) l

theorem c1_gate (x : Mg) (s : Str) : FnH Tryz.prog 109 [x.av,.ptr 0 [] 0] [(0,.box (.str s))] (.bool (decide (x.name = s))) [(0,.box (.str s))]:=by
 refine FnH.intro lay mixed Tryz.func109 (by kernel_rfl) rfl (by kernel_rfl) rfl fun hok=>?_
 (try dsimp only[argC,succC]);(try dsimp only[awp]);conv=>whnf
 refine ⟨⟨_,_,.refl _ _,?_⟩⟩
 conv=>whnf
 refine ⟨?_,rfl,by simp [nextId],.mk ?_ ⟨by simp,trivial⟩⟩
 ·show _ ↔ _
  simp
 ·all_goals exact wk

theorem c_gate (l : List Mg) (s : Str) : FnH Tryz.prog 71 [gL l,.str s] [] (.int .i64 (i_gate l s)) []:=by
 refine FnH.intro lay mixed Tryz.func71 (by kernel_rfl) rfl (by kernel_rfl) rfl fun hok=>?_
 (try dsimp only[argC,succC]);(try dsimp only[awp]);conv=>whnf
 refine .gen _ _ (c_idx_Mg l 109 [.ptr 0 [] 0] (fun x=>decide (x.name = s)) _ fun x _=>c1_gate x s) fun _=>?_
 (try dsimp only[awp]);conv=>whnf
 refine fM ?_;(conv=>whnf);refine ⟨?_,rfl⟩;conv=>whnf
 all_goals exact wk

def gatesM (m : Md) (at_ : Int) : List Mg:=if at_ = -1 then m.gates else (m.pages.getD at_.toNat default).gates

theorem c_gatesOf (m : Md) (a : Int) (h : a = -1 ∨ (0 ≤ a ∧ a < (m.pages.length : Int))) : FnH Tryz.prog 70 [m.av,.int .i64 a] [] (gL (gatesM m a)) []:=by
 refine FnH.intro lay mixed Tryz.func70 (by kernel_rfl) rfl (by kernel_rfl) rfl fun hok=>?_
 (try dsimp only[argC,succC]);(try dsimp only[awp]);conv=>whnf
 refine And.intro (fun h1=>?_) (fun h1=>?_)
 ·rw [show gatesM m a = m.gates from if_pos h1]
  (try dsimp only[awp]);conv=>whnf
  refine fM ?_;(conv=>whnf);refine ⟨?_,rfl⟩;conv=>whnf
  all_goals exact wk
 ·rw [show gatesM m a = (m.pages.getD a.toNat default).gates from if_neg h1]
  (try dsimp only[awp]);conv=>whnf
  refine aidxD default (by omega) ?_
  (try dsimp only[awp]);conv=>whnf
  refine fM ?_;(conv=>whnf);refine ⟨?_,rfl⟩;conv=>whnf
  all_goals exact wk

def rateB (x : Rat) : Bool:=valid x && decide (0 ≤ sign x)

theorem c_rate (x : Rat) (hx : RatC x) : FnH Tryz.prog 67 [x.av] [] (.bool (rateB x)) []:=by
 refine FnH.intro lay mixed Tryz.func67 (by kernel_rfl) rfl (by kernel_rfl) rfl fun hok=>?_
 (try dsimp only[argC,succC]);(try dsimp only[awp]);conv=>whnf
 refine .pure _ _ ?_ ⟨rfl,rfl⟩ hx.v fun _=>?_
 ·exact leL_refl _
 (try dsimp only[awp]);conv=>whnf
 refine And.intro (fun h1=>?_) (fun h1=>?_)
 ·(try dsimp only[awp]);conv=>whnf
  refine .pure _ _ ?_ ⟨rfl,rfl⟩ hx.s fun _=>?_
  ·exact leL_refl _
  (try dsimp only[awp]);conv=>whnf
  refine fM ?_;(conv=>whnf);refine ⟨?_,rfl⟩;conv=>whnf
  simp [rateB,h1]
 ·(try dsimp only[awp]);conv=>whnf
  refine fM ?_;(conv=>whnf);refine ⟨?_,rfl⟩;conv=>whnf
  simp [rateB,h1]

def atS (s : Str) : Bool:=decide (0 < s.length) && decide (((s.getD 0 0).toNat : Int) = 64)

def isInR (m : Md) (a : Int) (s : Str) : Bool:=if atS s = true then decide (0 ≤ i_page m.pages (s.drop 1)) else
 decide (0 ≤ i_event m.evs s) || decide (0 ≤ i_house m.hs s) || decide (0 ≤ i_gate (gatesM m a) s)

theorem cut1 {s : Str} : (s.drop (1 : Int).toNat).take ((s.length : Int).toNat - (1 : Int).toNat) = s.drop 1:=by
 rw [List.take_of_length_le (by simp)]; rfl

theorem c_isInput (m : Md) (a : Int) (s : Str) (h : a = -1 ∨ (0 ≤ a ∧ a < (m.pages.length : Int))) : FnH Tryz.prog 41 [m.av,.int .i64 a,.str s] [] (.bool (isInR m a s)) []:=by
 have cp:=c_page m (s.drop 1)
 have ce:=c_event m s
 have ch:=c_house m s
 have cg:=c_gate (gatesM m a) s
 have cG:=c_gatesOf m a h
 refine FnH.intro lay mixed Tryz.func41 (by kernel_rfl) rfl (by kernel_rfl) rfl fun hok=>?_
 (try dsimp only[argC,succC]);(try dsimp only[awp]);conv=>whnf
 refine And.intro (fun h1=>?_) (fun h1=>?_)
 ·have h1 : 0 < s.length:=by omega
  (try dsimp only[awp]);conv=>whnf
  refine sidx0 h1 ?_
  (try dsimp only[awp]);conv=>whnf
  refine And.intro (fun h2=>?_) (fun h2=>?_)
  ·have e : isInR m a s = decide (0 ≤ i_page m.pages (s.drop 1)):=if_pos (by simp only [atS,h1,h2,decide_true,Bool.true_and])
   rw [e]
   (try dsimp only[awp]);conv=>whnf
   refine ADraw.auto (by kernel_rfl) ?_;conv=>whnf
   refine ⟨⟨by omega,by omega,by omega⟩,?_⟩
   rw [cut1]
   (try dsimp only[awp]);conv=>whnf
   refine ACallP.pure _ _ ?_ ⟨rfl,rfl⟩ cp ?_
   ·exact leL_refl _
   (try dsimp only[awp]);conv=>whnf
   refine fM ?_;(conv=>whnf);refine ⟨?_,rfl⟩;conv=>whnf
   show _ ↔ _
   simp
  ·have e : atS s = false:=by simp only [atS,decide_eq_false h2,Bool.and_false]
   have e : isInR m a s = (decide (0 ≤ i_event m.evs s) || decide (0 ≤ i_house m.hs s) || decide (0 ≤ i_gate (gatesM m a) s)):=if_neg (by rw [e]; simp)
   rw [e]
   (try dsimp only[awp]);conv=>whnf
   refine .pure _ _ ?_ ⟨rfl,rfl⟩ ce fun _=>?_
   ·exact leL_refl _
   (try dsimp only[awp]);conv=>whnf
   refine And.intro (fun h3=>?_) (fun h3=>?_)
   ·(try dsimp only[awp]);conv=>whnf
    refine fM ?_;(conv=>whnf);refine ⟨?_,rfl⟩;conv=>whnf
    simp [h3]
   (try dsimp only[awp]);conv=>whnf
   refine .pure _ _ ?_ ⟨rfl,rfl⟩ ch fun _=>?_
   ·exact leL_refl _
   (try dsimp only[awp]);conv=>whnf
   refine And.intro (fun h4=>?_) (fun h4=>?_)
   ·(try dsimp only[awp]);conv=>whnf
    refine fM ?_;(conv=>whnf);refine ⟨?_,rfl⟩;conv=>whnf
    simp [h4]
   (try dsimp only[awp]);conv=>whnf
   refine .pure _ _ ?_ ⟨rfl,rfl⟩ cG fun _=>?_
   ·exact leL_refl _
   (try dsimp only[awp]);conv=>whnf
   refine .pure _ _ ?_ ⟨rfl,rfl⟩ cg fun _=>?_
   ·exact leL_refl _
   (try dsimp only[awp]);conv=>whnf
   refine fM ?_;(conv=>whnf);refine ⟨?_,rfl⟩;conv=>whnf
   simp [h3,h4]
 ·have e : atS s = false:=by simp only [atS]; rw [decide_eq_false (by omega)]; rfl
  have e : isInR m a s = (decide (0 ≤ i_event m.evs s) || decide (0 ≤ i_house m.hs s) || decide (0 ≤ i_gate (gatesM m a) s)):=if_neg (by rw [e]; simp)
  rw [e]
  (try dsimp only[awp]);conv=>whnf
  refine .pure _ _ ?_ ⟨rfl,rfl⟩ ce fun _=>?_
  ·exact leL_refl _
  (try dsimp only[awp]);conv=>whnf
  refine And.intro (fun h3=>?_) (fun h3=>?_)
  ·(try dsimp only[awp]);conv=>whnf
   refine fM ?_;(conv=>whnf);refine ⟨?_,rfl⟩;conv=>whnf
   simp [h3]
  (try dsimp only[awp]);conv=>whnf
  refine .pure _ _ ?_ ⟨rfl,rfl⟩ ch fun _=>?_
  ·exact leL_refl _
  (try dsimp only[awp]);conv=>whnf
  refine And.intro (fun h4=>?_) (fun h4=>?_)
  ·(try dsimp only[awp]);conv=>whnf
   refine fM ?_;(conv=>whnf);refine ⟨?_,rfl⟩;conv=>whnf
   simp [h4]
  (try dsimp only[awp]);conv=>whnf
  refine .pure _ _ ?_ ⟨rfl,rfl⟩ cG fun _=>?_
  ·exact leL_refl _
  (try dsimp only[awp]);conv=>whnf
  refine .pure _ _ ?_ ⟨rfl,rfl⟩ cg fun _=>?_
  ·exact leL_refl _
  (try dsimp only[awp]);conv=>whnf
  refine fM ?_;(conv=>whnf);refine ⟨?_,rfl⟩;conv=>whnf
  simp [h3,h4]

def errL {α : Type} (f : Nat → α → Int) : Nat → List α → Int
 | _,[]=>0
 | i,x :: l=>if f i x ≠ 0 then f i x else errL f (i + 1) l

theorem errL_step {α : Type} {f : Nat → α → Int} {l : List α} {i : Nat} (h : i < l.length) : errL f i (l.drop i) = if f i l[i] ≠ 0 then f i l[i] else errL f (i + 1) (l.drop (i + 1)):=by
 rw [List.drop_eq_getElem_cons h]; rfl

theorem errL_end {α : Type} {f : Nat → α → Int} {l : List α} {i : Nat} (h : l.length ≤ i) : errL f i (l.drop i) = 0:=by
 rw [List.drop_eq_nil_of_le h]; rfl

theorem errL_zero {α : Type} {f : Nat → α → Int} : ∀ {l : List α} {i : Nat},errL f i l = 0 ↔ ∀ (k : Nat) (h : k < l.length),f (i + k) l[k] = 0
 | [],i=>by simp [errL]
 | x :: l,i=>by
   simp only [errL]
   split
   ·rename_i h
    constructor
    ·intro h2; exact absurd h2 h
    ·intro h2; exact absurd (h2 0 (by simp)) h
   ·rename_i h
    have h : f i x = 0:=by simpa using h
    rw [errL_zero (l:=l) (i:=i + 1)]
    constructor
    ·intro h2 k hk
     cases k with
     | zero=>exact h
     | succ k=>have:=h2 k (by simpa using hk); rw [show i + (k + 1) = i + 1 + k by omega]; simpa using this
    ·intro h2 k hk
     have:=h2 (k + 1) (by simpa using hk)
     rw [show i + 1 + k = i + (k + 1) by omega]; simpa using this

def mgC (l : List Mg) : Prop:=∀ x ∈ l,RatC x.dorm

structure MdC (m : Md) : Prop where
 evs : ∀ x ∈ m.evs,RatC x.p ∧ RatC x.fail ∧ RatC x.repair
 gates : mgC m.gates
 pages : ∀ x ∈ m.pages,mgC x.gates
 grs : ∀ x ∈ m.grs,∀ f ∈ x.fac,RatC f
 phs : ∀ x ∈ m.phs,∀ v ∈ x.vals,RatC v.p

def evErr (m : Md) (i : Nat) (x : Ev) : Int :=
 if nameR x.name = false then 5 else if i_event m.evs x.name < i then 6
 else if prob x.p = false then 3 else if rateB x.fail = false then 3 else if rateB x.repair = false then 3 else if x.cost < 0 then 3 else if 1073741824 < x.cost then 3 else 0

def hsErr (m : Md) (i : Nat) (x : Hs) : Int :=
 if nameR x.name = false then 5 else if 0 ≤ i_event m.evs x.name then 6 else if i_house m.hs x.name < i then 6 else 0

def eventsErr (m : Md) : Int :=
 if 24 < m.evs.length then 4 else if errL (evErr m) 0 m.evs ≠ 0 then errL (evErr m) 0 m.evs
 else if 16 < m.hs.length then 4 else errL (hsErr m) 0 m.hs

theorem errAV_bnd (e : Int) : bndB 0 (errAV e) = true:=by unfold errAV; split <;> rfl

theorem c_checkEvents (m : Md) (hC : MdC m) (R : AV) (hR : R = errAV (eventsErr m)) : FnH Tryz.prog 37 [m.av] [] R []:=by
 have ce:=fun s=>c_event m s
 have ch:=fun s=>c_house m s
 refine FnH.intro lay mixed Tryz.func37 (by kernel_rfl) rfl (by kernel_rfl) rfl fun hok=>?_
 (try dsimp only[argC,succC]);(try dsimp only[awp]);conv=>whnf
 refine And.intro (fun h1=>?_) (fun h1=>?_)
 ·have h1 : 24 < m.evs.length:=by simp only [List.length_map] at h1; omega
  obtain rfl : R = .ifc 79 (.int .i64 4):=by rw [hR,show eventsErr m = 4 from by unfold eventsErr; rw [if_pos h1]]; rfl
  (try dsimp only[awp]);conv=>whnf
  refine fM ?_;(conv=>whnf);refine ⟨?_,rfl⟩;conv=>whnf
  all_goals exact wk
 have h1 : ¬ 24 < m.evs.length:=by simp only [List.length_map] at h1; omega
 (try dsimp only[awp]);conv=>whnf
 refine LoopE.of <| LoopSpec.inv (.refl _ _) (fun (i : Nat)=>i ≤ m.evs.length ∧ errL (evErr m) 0 m.evs = errL (evErr m) i (m.evs.drop i)) (fun (i : Nat)=>[(15,.int .i64 i)]) (fun _=>_) (fun (i : Nat)=>m.evs.length - i) 0 ?_ (fun _=>rfl) ?_ ?_
 ·exact ⟨Nat.zero_le _,rfl⟩
 ·all_goals exact wk
 rintro i ⟨hi,hn⟩ _
 (try dsimp only[awp]);conv=>whnf
 refine And.intro (fun h=>?_) (fun h=>?_)
 ·have hlt : i < m.evs.length:=by simpa using h
  obtain ⟨rp,rf,rr⟩:=hC.evs _ (List.getElem_mem hlt)
  rw [errL_step hlt] at hn
  have cf:=c_rate _ rf
  have cr:=c_rate _ rr
  have bad : ∀ e : Int,e ≠ 0 → evErr m i m.evs[i] = e → eventsErr m = e:=by
   intro e he h
   unfold eventsErr
   rw [h,if_pos he] at hn
   rw [if_neg h1,hn,if_pos he]
  (try dsimp only[awp]);conv=>whnf
  refine aidx hlt ?_
  generalize m.evs[i] = x at *
  (try dsimp only[awp]);conv=>whnf
  refine .pure _ _ ?_ ⟨rfl,rfl⟩ (c_tokenName x.name) fun _=>?_
  ·exact leL_refl _
  (try dsimp only[awp]);conv=>whnf
  refine And.intro (fun g1=>?_) (fun g1=>?_)
  ·have g1 : nameR x.name = false:=by simpa using g1
   obtain rfl : R = .ifc 79 (.int .i64 5):=by rw [hR,show eventsErr m = 5 from by exact bad 5 (by decide) (by unfold evErr; rw [if_pos g1])]; rfl
   (try dsimp only[awp]);conv=>whnf
   refine fM ?_;(conv=>whnf);refine ⟨?_,rfl⟩;conv=>whnf
   all_goals exact wk
  have g1 : ¬ nameR x.name = false:=by simpa using g1
  (try dsimp only[awp]);conv=>whnf
  refine .pure _ _ ?_ ⟨rfl,rfl⟩ (ce x.name) fun _=>?_
  ·exact leL_refl _
  (try dsimp only[awp]);conv=>whnf
  refine And.intro (fun g2=>?_) (fun g2=>?_)
  ·obtain rfl : R = .ifc 79 (.int .i64 6):=by rw [hR,show eventsErr m = 6 from by exact bad 6 (by decide) (by unfold evErr; rw [if_neg g1,if_pos g2])]; rfl
   (try dsimp only[awp]);conv=>whnf
   refine fM ?_;(conv=>whnf);refine ⟨?_,rfl⟩;conv=>whnf
   all_goals exact wk
  (try dsimp only[awp]);conv=>whnf
  refine .pure _ _ ?_ ⟨rfl,rfl⟩ rp.p fun _=>?_
  ·exact leL_refl _
  (try dsimp only[awp]);conv=>whnf
  refine And.intro (fun g3=>?_) (fun g3=>?_)
  ·have g3 : prob x.p = false:=by simpa using g3
   obtain rfl : R = .ifc 79 (.int .i64 3):=by rw [hR,show eventsErr m = 3 from by exact bad 3 (by decide) (by unfold evErr; rw [if_neg g1,if_neg g2,if_pos g3])]; rfl
   (try dsimp only[awp]);conv=>whnf
   refine fM ?_;(conv=>whnf);refine ⟨?_,rfl⟩;conv=>whnf
   all_goals exact wk
  have g3 : ¬ prob x.p = false:=by simpa using g3
  (try dsimp only[awp]);conv=>whnf
  refine .pure _ _ ?_ ⟨rfl,rfl⟩ cf fun _=>?_
  ·exact leL_refl _
  (try dsimp only[awp]);conv=>whnf
  refine And.intro (fun g4=>?_) (fun g4=>?_)
  ·have g4 : rateB x.fail = false:=by simpa using g4
   obtain rfl : R = .ifc 79 (.int .i64 3):=by rw [hR,show eventsErr m = 3 from by exact bad 3 (by decide) (by unfold evErr; rw [if_neg g1,if_neg g2,if_neg g3,if_pos g4])]; rfl
   (try dsimp only[awp]);conv=>whnf
   refine fM ?_;(conv=>whnf);refine ⟨?_,rfl⟩;conv=>whnf
   all_goals exact wk
  have g4 : ¬ rateB x.fail = false:=by simpa using g4
  (try dsimp only[awp]);conv=>whnf
  refine .pure _ _ ?_ ⟨rfl,rfl⟩ cr fun _=>?_
  ·exact leL_refl _
  (try dsimp only[awp]);conv=>whnf
  refine And.intro (fun g5=>?_) (fun g5=>?_)
  ·have g5 : rateB x.repair = false:=by simpa using g5
   obtain rfl : R = .ifc 79 (.int .i64 3):=by rw [hR,show eventsErr m = 3 from by exact bad 3 (by decide) (by unfold evErr; rw [if_neg g1,if_neg g2,if_neg g3,if_neg g4,if_pos g5])]; rfl
   (try dsimp only[awp]);conv=>whnf
   refine fM ?_;(conv=>whnf);refine ⟨?_,rfl⟩;conv=>whnf
   all_goals exact wk
  have g5 : ¬ rateB x.repair = false:=by simpa using g5
  (try dsimp only[awp]);conv=>whnf
  refine And.intro (fun g6=>?_) (fun g6=>?_)
  ·obtain rfl : R = .ifc 79 (.int .i64 3):=by rw [hR,show eventsErr m = 3 from by exact bad 3 (by decide) (by unfold evErr; rw [if_neg g1,if_neg g2,if_neg g3,if_neg g4,if_neg g5,if_pos g6])]; rfl
   (try dsimp only[awp]);conv=>whnf
   refine fM ?_;(conv=>whnf);refine ⟨?_,rfl⟩;conv=>whnf
   all_goals exact wk
  (try dsimp only[awp]);conv=>whnf
  refine And.intro (fun g7=>?_) (fun g7=>?_)
  ·obtain rfl : R = .ifc 79 (.int .i64 3):=by rw [hR,show eventsErr m = 3 from by exact bad 3 (by decide) (by unfold evErr; rw [if_neg g1,if_neg g2,if_neg g3,if_neg g4,if_neg g5,if_neg g6,if_pos g7])]; rfl
   (try dsimp only[awp]);conv=>whnf
   refine fM ?_;(conv=>whnf);refine ⟨?_,rfl⟩;conv=>whnf
   all_goals exact wk
  (try dsimp only[awp]);conv=>whnf
  refine zA ?_;conv=>whnf
  refine ⟨i + 1,?_,?_,?_⟩
  ·exact ⟨hlt,by rw [hn,if_neg (by rw [show evErr m i x = 0 from by unfold evErr; rw [if_neg g1,if_neg g2,if_neg g3,if_neg g4,if_neg g5,if_neg g6,if_neg g7]]; simp)]⟩
  ·refine ⟨?_,.mk ?_ ⟨by simp,trivial⟩⟩
   ·all_goals exact wk
   ·all_goals exact wk
  ·omega
 have hil : i = m.evs.length:=by have : ¬ i < m.evs.length:=by simpa using h
                                 omega
 rw [errL_end (by omega)] at hn
 clear h
 subst hil
 have e1 : ¬ errL (evErr m) 0 m.evs ≠ 0:=by rw [hn]; simp
 (try dsimp only[awp]);conv=>whnf
 refine And.intro (fun h2=>?_) (fun h2=>?_)
 ·have h2 : 16 < m.hs.length:=by simp only [List.length_map] at h2; omega
  obtain rfl : R = .ifc 79 (.int .i64 4):=by rw [hR,show eventsErr m = 4 from by unfold eventsErr; rw [if_neg h1,if_neg e1,if_pos h2]]; rfl
  (try dsimp only[awp]);conv=>whnf
  refine fM ?_;(conv=>whnf);refine ⟨?_,rfl⟩;conv=>whnf
  all_goals exact wk
 have h2 : ¬ 16 < m.hs.length:=by simp only [List.length_map] at h2; omega
 clear hn hi
 (try dsimp only[awp]);conv=>whnf
 refine LoopE.of <| LoopSpec.inv (.refl _ _) (fun (i : Nat)=>i ≤ m.hs.length ∧ errL (hsErr m) 0 m.hs = errL (hsErr m) i (m.hs.drop i)) (fun (i : Nat)=>[(71,.int .i64 i)]) (fun _=>_) (fun (i : Nat)=>m.hs.length - i) 0 ?_ (fun _=>rfl) ?_ ?_
 ·exact ⟨Nat.zero_le _,rfl⟩
 ·all_goals exact wk
 rintro i ⟨hi,hn⟩ _
 (try dsimp only[awp]);conv=>whnf
 refine And.intro (fun h=>?_) (fun h=>?_)
 ·have hlt : i < m.hs.length:=by simpa using h
  rw [errL_step hlt] at hn
  have bad : ∀ e : Int,e ≠ 0 → hsErr m i m.hs[i] = e → eventsErr m = e:=by
   intro e he h
   unfold eventsErr
   rw [h,if_pos he] at hn
   rw [if_neg h1,if_neg e1,if_neg h2,hn]
  (try dsimp only[awp]);conv=>whnf
  refine aidx hlt ?_
  generalize m.hs[i] = x at *
  (try dsimp only[awp]);conv=>whnf
  refine .pure _ _ ?_ ⟨rfl,rfl⟩ (c_tokenName x.name) fun _=>?_
  ·exact leL_refl _
  (try dsimp only[awp]);conv=>whnf
  refine And.intro (fun g1=>?_) (fun g1=>?_)
  ·have g1 : nameR x.name = false:=by simpa using g1
   obtain rfl : R = .ifc 79 (.int .i64 5):=by rw [hR,show eventsErr m = 5 from by exact bad 5 (by decide) (by unfold hsErr; rw [if_pos g1])]; rfl
   (try dsimp only[awp]);conv=>whnf
   refine fM ?_;(conv=>whnf);refine ⟨?_,rfl⟩;conv=>whnf
   all_goals exact wk
  have g1 : ¬ nameR x.name = false:=by simpa using g1
  (try dsimp only[awp]);conv=>whnf
  refine .pure _ _ ?_ ⟨rfl,rfl⟩ (ce x.name) fun _=>?_
  ·exact leL_refl _
  (try dsimp only[awp]);conv=>whnf
  refine And.intro (fun g2=>?_) (fun g2=>?_)
  ·obtain rfl : R = .ifc 79 (.int .i64 6):=by rw [hR,show eventsErr m = 6 from by exact bad 6 (by decide) (by unfold hsErr; rw [if_neg g1,if_pos g2])]; rfl
   (try dsimp only[awp]);conv=>whnf
   refine fM ?_;(conv=>whnf);refine ⟨?_,rfl⟩;conv=>whnf
   all_goals exact wk
  (try dsimp only[awp]);conv=>whnf
  refine .pure _ _ ?_ ⟨rfl,rfl⟩ (ch x.name) fun _=>?_
  ·exact leL_refl _
  (try dsimp only[awp]);conv=>whnf
  refine And.intro (fun g3=>?_) (fun g3=>?_)
  ·obtain rfl : R = .ifc 79 (.int .i64 6):=by rw [hR,show eventsErr m = 6 from by exact bad 6 (by decide) (by unfold hsErr; rw [if_neg g1,if_neg g2,if_pos g3])]; rfl
   (try dsimp only[awp]);conv=>whnf
   refine fM ?_;(conv=>whnf);refine ⟨?_,rfl⟩;conv=>whnf
   all_goals exact wk
  (try dsimp only[awp]);conv=>whnf
  refine zA ?_;conv=>whnf
  refine ⟨i + 1,?_,?_,?_⟩
  ·exact ⟨hlt,by rw [hn,if_neg (by rw [show hsErr m i x = 0 from by unfold hsErr; rw [if_neg g1,if_neg g2,if_neg g3]]; simp)]⟩
  ·refine ⟨?_,.mk ?_ ⟨by simp,trivial⟩⟩
   ·all_goals exact wk
   ·all_goals exact wk
  ·omega
 have hil : i = m.hs.length:=by have : ¬ i < m.hs.length:=by simpa using h
                                omega
 rw [errL_end (by omega)] at hn
 obtain rfl : R = .nilI:=by rw [hR,show eventsErr m = 0 from by unfold eventsErr; rw [if_neg h1,if_neg e1,if_neg h2,hn]]; rfl
 (try dsimp only[awp]);conv=>whnf
 refine fM ?_;(conv=>whnf);refine ⟨?_,rfl⟩;conv=>whnf
 all_goals exact wk

structure MdB (m : Md) : Prop where
 evs : m.evs.length ≤ 60
 hs : m.hs.length ≤ 60
 gates : m.gates.length ≤ 100 ∧ ∀ x ∈ m.gates,x.ins.length ≤ 40
 pages : m.pages.length ≤ 30
 pgates : ∀ p ∈ m.pages,p.gates.length ≤ 100 ∧ ∀ x ∈ p.gates,x.ins.length ≤ 40
 grs : m.grs.length ≤ 30
 mem : ∀ g ∈ m.grs,g.mem.length ≤ 60 ∧ g.fac.length ≤ 60
 phs : m.phs.length ≤ 30
 vals : ∀ p ∈ m.phs,p.vals.length ≤ 60

def totalM (m : Md) : Nat:=m.pages.foldl (fun n x=>n + x.gates.length) m.gates.length

theorem total_le : ∀ (l : List Pg) (n : Nat),(∀ p ∈ l,p.gates.length ≤ 100) → l.foldl (fun n x=>n + x.gates.length) n ≤ n + 100 * l.length
 | [],n,_=>by simp
 | p :: l,n,h=>by
   have h1:=h p (by simp)
   have h2:=total_le l (n + p.gates.length) fun q hq=>h q (by simp [hq])
   simp only [List.foldl_cons,List.length_cons]
   omega

def pgErr (m : Md) (i : Nat) (x : Pg) : Int:=if nameR x.name = false then 5 else if i_page m.pages x.name < i then 6 else 0

def pagesErr (m : Md) : Int:=if 8 < m.pages.length then 4 else if 64 < totalM m then 4 else errL (pgErr m) 0 m.pages

theorem c_checkPages (m : Md) (hB : MdB m) (R : AV) (hR : R = errAV (pagesErr m)) : FnH Tryz.prog 38 [m.av] [] R []:=by
 have cp:=fun s=>c_page m s
 have hpl:=hB.pages
 have hgl:=hB.gates.1
 refine FnH.intro lay mixed Tryz.func38 (by kernel_rfl) rfl (by kernel_rfl) rfl fun hok=>?_
 (try dsimp only[argC,succC]);(try dsimp only[awp]);conv=>whnf
 refine LoopE.of <| LoopSpec.inv (.refl _ _) (fun (i : Nat)=>i ≤ m.pages.length) (fun (i : Nat)=>[(14,.int .i64 i),(3,.int .i64 ((m.pages.take i).foldl (fun n x=>n + x.gates.length) m.gates.length : Nat))]) (fun _=>_) (fun (i : Nat)=>m.pages.length - i) 0 ?_ (fun _=>rfl) ?_ ?_
 ·exact Nat.zero_le _
 ·repeat' first|exact rfl|exact trivial|exact wR|exact lR _|apply aI
  simp
 rintro i hi _
 (try dsimp only[awp]);conv=>whnf
 refine And.intro (fun h=>?_) (fun h=>?_)
 ·have hlt : i < m.pages.length:=by simpa using h
  have hs:=foldl_take (f:=fun (n : Nat) (x : Pg)=>n + x.gates.length) (s:=m.gates.length) hlt
  have hb:=total_le (m.pages.take i) m.gates.length fun p hp=>(hB.pgates p (List.mem_of_mem_take hp)).1
  rw [List.length_take] at hb
  have hx:=(hB.pgates _ (List.getElem_mem hlt)).1
  generalize (m.pages.take i).foldl (fun n x=>n + x.gates.length) m.gates.length = y at *
  (try dsimp only[awp]);conv=>whnf
  refine aidx hlt ?_
  generalize m.pages[i] = x at *
  (try dsimp only[awp]);conv=>whnf
  refine ⟨inr64 (by simp; omega) (by simp; omega),?_⟩
  (try dsimp only[awp]);conv=>whnf
  refine zA ?_;conv=>whnf
  refine ⟨i + 1,?_,?_,?_⟩
  ·exact hlt
  ·rw [hs]
   refine ⟨?_,.mk ?_ ⟨by simp,trivial⟩⟩
   ·repeat' first|exact rfl|exact trivial|exact wR|exact lR _|apply aI
    simp
   ·all_goals exact wk
  ·omega
 have hil : i = m.pages.length:=by have : ¬ i < m.pages.length:=by simpa using h
                                   omega
 subst hil
 rw [List.take_length,show m.pages.foldl (fun n x=>n + x.gates.length) m.gates.length = totalM m from rfl]
 (try dsimp only[awp]);conv=>whnf
 refine And.intro (fun h1=>?_) (fun h1=>?_)
 ·have h1 : 8 < m.pages.length:=by simp only [List.length_map] at h1; omega
  obtain rfl : R = .ifc 79 (.int .i64 4):=by rw [hR,show pagesErr m = 4 from by unfold pagesErr; rw [if_pos h1]]; rfl
  (try dsimp only[awp]);conv=>whnf
  refine fM ?_;(conv=>whnf);refine ⟨?_,rfl⟩;conv=>whnf
  all_goals exact wk
 have h1 : ¬ 8 < m.pages.length:=by simp only [List.length_map] at h1; omega
 (try dsimp only[awp]);conv=>whnf
 refine And.intro (fun h2=>?_) (fun h2=>?_)
 ·have h2 : 64 < totalM m:=by omega
  obtain rfl : R = .ifc 79 (.int .i64 4):=by rw [hR,show pagesErr m = 4 from by unfold pagesErr; rw [if_neg h1,if_pos h2]]; rfl
  (try dsimp only[awp]);conv=>whnf
  refine fM ?_;(conv=>whnf);refine ⟨?_,rfl⟩;conv=>whnf
  all_goals exact wk
 have h2 : ¬ 64 < totalM m:=by omega
 clear hi h
 (try dsimp only[awp]);conv=>whnf
 refine LoopE.of <| LoopSpec.inv (.refl _ _) (fun (i : Nat)=>i ≤ m.pages.length ∧ errL (pgErr m) 0 m.pages = errL (pgErr m) i (m.pages.drop i)) (fun (i : Nat)=>[(36,.int .i64 i)]) (fun _=>_) (fun (i : Nat)=>m.pages.length - i) 0 ?_ (fun _=>rfl) ?_ ?_
 ·exact ⟨Nat.zero_le _,rfl⟩
 ·all_goals exact wk
 rintro i ⟨hi,hn⟩ _
 (try dsimp only[awp]);conv=>whnf
 refine And.intro (fun h=>?_) (fun h=>?_)
 ·have hlt : i < m.pages.length:=by simpa using h
  rw [errL_step hlt] at hn
  have bad : ∀ e : Int,e ≠ 0 → pgErr m i m.pages[i] = e → pagesErr m = e:=by
   intro e he h
   unfold pagesErr
   rw [h,if_pos he] at hn
   rw [if_neg h1,if_neg h2,hn]
  (try dsimp only[awp]);conv=>whnf
  refine aidx hlt ?_
  generalize m.pages[i] = x at *
  (try dsimp only[awp]);conv=>whnf
  refine .pure _ _ ?_ ⟨rfl,rfl⟩ (c_tokenName x.name) fun _=>?_
  ·exact leL_refl _
  (try dsimp only[awp]);conv=>whnf
  refine And.intro (fun g1=>?_) (fun g1=>?_)
  ·have g1 : nameR x.name = false:=by simpa using g1
   obtain rfl : R = .ifc 79 (.int .i64 5):=by rw [hR,show pagesErr m = 5 from by exact bad 5 (by decide) (by unfold pgErr; rw [if_pos g1])]; rfl
   (try dsimp only[awp]);conv=>whnf
   refine fM ?_;(conv=>whnf);refine ⟨?_,rfl⟩;conv=>whnf
   all_goals exact wk
  have g1 : ¬ nameR x.name = false:=by simpa using g1
  (try dsimp only[awp]);conv=>whnf
  refine .pure _ _ ?_ ⟨rfl,rfl⟩ (cp x.name) fun _=>?_
  ·exact leL_refl _
  (try dsimp only[awp]);conv=>whnf
  refine And.intro (fun g2=>?_) (fun g2=>?_)
  ·obtain rfl : R = .ifc 79 (.int .i64 6):=by rw [hR,show pagesErr m = 6 from by exact bad 6 (by decide) (by unfold pgErr; rw [if_neg g1,if_pos g2])]; rfl
   (try dsimp only[awp]);conv=>whnf
   refine fM ?_;(conv=>whnf);refine ⟨?_,rfl⟩;conv=>whnf
   all_goals exact wk
  (try dsimp only[awp]);conv=>whnf
  refine zA ?_;conv=>whnf
  refine ⟨i + 1,?_,?_,?_⟩
  ·exact ⟨hlt,by rw [hn,if_neg (by rw [show pgErr m i x = 0 from by unfold pgErr; rw [if_neg g1,if_neg g2]]; simp)]⟩
  ·refine ⟨?_,.mk ?_ ⟨by simp,trivial⟩⟩
   ·all_goals exact wk
   ·all_goals exact wk
  ·omega
 have hil : i = m.pages.length:=by have : ¬ i < m.pages.length:=by simpa using h
                                   omega
 rw [errL_end (by omega)] at hn
 obtain rfl : R = .nilI:=by rw [hR,show pagesErr m = 0 from by unfold pagesErr; rw [if_neg h1,if_neg h2,hn]]; rfl
 (try dsimp only[awp]);conv=>whnf
 refine fM ?_;(conv=>whnf);refine ⟨?_,rfl⟩;conv=>whnf
 all_goals exact wk

theorem c_minputs (kind n : Int) : FnH Tryz.prog 110 [.int .i64 kind,.int .i64 n] [] (.bool (argsR kind n)) []:=by
 refine FnH.intro lay mixed Tryz.func110 (by kernel_rfl) rfl (by kernel_rfl) rfl fun hok=>?_
 (try dsimp only[argC,succC]);(try dsimp only[awp]);conv=>whnf
 (repeat' (first|(refine aI (fun _=>?_) (fun _=>?_)<;>(conv=>whnf))|(refine ADraw.auto (by kernel_rfl) ?_;(conv=>whnf))|(refine fM ?_;(conv=>whnf);refine ⟨?_,rfl⟩;(conv=>whnf))|(refine aI (inr64 (by omega) (by omega)) ?_;(conv=>whnf))|(refine aI (by decide) ?_;(conv=>whnf))))
 all_goals first | (simp_all [argsR]; done) | (simp_all [argsR]; omega)

theorem c_mzero (r : Rat) : FnH Tryz.prog 111 [r.av] [] (.bool (zeroR r)) []:=by
 refine FnH.intro lay mixed Tryz.func111 (by kernel_rfl) rfl (by kernel_rfl) rfl fun hok=>?_
 (try dsimp only[argC,succC]);(try dsimp only[awp]);conv=>whnf
 refine And.intro (fun h=>?_) (fun h=>?_)
 all_goals
  (try dsimp only[awp]);conv=>whnf
  (repeat' (first|(refine aI (fun _=>?_) (fun _=>?_)<;>(conv=>whnf))|(refine ADraw.auto (by kernel_rfl) ?_;(conv=>whnf))|(refine fM ?_;(conv=>whnf);refine ⟨?_,rfl⟩;(conv=>whnf))|(refine aI (inr64 (by omega) (by omega)) ?_;(conv=>whnf))|(refine aI (by decide) ?_;(conv=>whnf))))
 all_goals (simp_all [zeroR]; done)

def mgErr (g : Mg) : Int :=
 if g.kind < 0 then 7 else if 8 < g.kind then 7
 else if argsR g.kind g.ins.length = false then 11
 else if g.kind = 2 ∧ (g.k < 1 ∨ (g.ins.length : Int) < g.k) then 3
 else if g.kind ≠ 2 ∧ g.k ≠ 0 then 2
 else if g.kind = 7 ∧ prob g.dorm = false then 3
 else if g.kind ≠ 7 ∧ zeroR g.dorm = false then 2
 else 0

theorem c_mcheckGate (g : Mg) (hr : RatC g.dorm) (R : AV) (hR : R = errAV (mgErr g)) : FnH Tryz.prog 72 [g.av] [] R []:=by
 have ca:=c_minputs g.kind g.ins.length
 refine FnH.intro lay mixed Tryz.func72 (by kernel_rfl) rfl (by kernel_rfl) rfl fun hok=>?_
 (try dsimp only[argC,succC]);(try dsimp only[awp]);conv=>whnf
 refine And.intro (fun n1=>?_) (fun n1=>?_)
 ·obtain rfl : R = .ifc 79 (.int .i64 7):=by rw [hR,show mgErr g = 7 from by unfold mgErr; rw [if_pos n1]]; rfl
  (try dsimp only[awp]);conv=>whnf
  refine fM ?_;(conv=>whnf);refine ⟨?_,rfl⟩;conv=>whnf
  all_goals exact wk
 (try dsimp only[awp]);conv=>whnf
 refine And.intro (fun n2=>?_) (fun n2=>?_)
 ·obtain rfl : R = .ifc 79 (.int .i64 7):=by rw [hR,show mgErr g = 7 from by unfold mgErr; rw [if_neg n1,if_pos n2]]; rfl
  (try dsimp only[awp]);conv=>whnf
  refine fM ?_;(conv=>whnf);refine ⟨?_,rfl⟩;conv=>whnf
  all_goals exact wk
 (try dsimp only[awp]);conv=>whnf
 refine .pure _ _ ?_ ⟨rfl,rfl⟩ ca fun _=>?_
 ·repeat' first|exact rfl|exact trivial|exact wR|exact lR _|apply aI
  simp
 (try dsimp only[awp]);conv=>whnf
 refine And.intro (fun n3=>?_) (fun n3=>?_)
 ·have n3 : argsR g.kind g.ins.length = false:=by simpa using n3
  obtain rfl : R = .ifc 79 (.int .i64 11):=by rw [hR,show mgErr g = 11 from by unfold mgErr; rw [if_neg n1,if_neg n2,if_pos n3]]; rfl
  (try dsimp only[awp]);conv=>whnf
  refine fM ?_;(conv=>whnf);refine ⟨?_,rfl⟩;conv=>whnf
  all_goals exact wk
 have n3 : ¬ argsR g.kind g.ins.length = false:=by simpa using n3
 (try dsimp only[awp]);conv=>whnf
 refine And.intro (fun k2=>?_) (fun k2=>?_)
 ·have n5 : ¬ (g.kind ≠ 2 ∧ g.k ≠ 0):=fun h=>h.1 k2
  (try dsimp only[awp]);conv=>whnf
  refine And.intro (fun kk=>?_) (fun kk=>?_)
  ·obtain rfl : R = .ifc 79 (.int .i64 3):=by rw [hR,show mgErr g = 3 from by unfold mgErr; rw [if_neg n1,if_neg n2,if_neg n3,if_pos ⟨k2,.inl kk⟩]]; rfl
   (try dsimp only[awp]);conv=>whnf
   refine fM ?_;(conv=>whnf);refine ⟨?_,rfl⟩;conv=>whnf
   all_goals exact wk
  (try dsimp only[awp]);conv=>whnf
  refine And.intro (fun kl=>?_) (fun kl=>?_)
  ·have kl : (g.ins.length : Int) < g.k:=by simpa using kl
   obtain rfl : R = .ifc 79 (.int .i64 3):=by rw [hR,show mgErr g = 3 from by unfold mgErr; rw [if_neg n1,if_neg n2,if_neg n3,if_pos ⟨k2,.inr kl⟩]]; rfl
   (try dsimp only[awp]);conv=>whnf
   refine fM ?_;(conv=>whnf);refine ⟨?_,rfl⟩;conv=>whnf
   all_goals exact wk
  have kl : ¬ (g.ins.length : Int) < g.k:=by simpa using kl
  have n4 : ¬ (g.kind = 2 ∧ (g.k < 1 ∨ (g.ins.length : Int) < g.k)):=by omega
  (try dsimp only[awp]);conv=>whnf
  refine And.intro (fun k7=>?_) (fun k7=>?_)
  ·(try dsimp only[awp]);conv=>whnf
   refine .pure _ _ ?_ ⟨rfl,rfl⟩ hr.p fun _=>?_
   ·exact leL_refl _
   (try dsimp only[awp]);conv=>whnf
   refine And.intro (fun kp=>?_) (fun kp=>?_)
   ·have kp : prob g.dorm = false:=by simpa using kp
    obtain rfl : R = .ifc 79 (.int .i64 3):=by rw [hR,show mgErr g = 3 from by unfold mgErr; rw [if_neg n1,if_neg n2,if_neg n3,if_neg n4,if_neg n5,if_pos ⟨k7,kp⟩]]; rfl
    (try dsimp only[awp]);conv=>whnf
    refine fM ?_;(conv=>whnf);refine ⟨?_,rfl⟩;conv=>whnf
    all_goals exact wk
   have kp : prob g.dorm = true:=by simpa using kp
   obtain rfl : R = .nilI:=by rw [hR,show mgErr g = 0 from by unfold mgErr; rw [if_neg n1,if_neg n2,if_neg n3,if_neg n4,if_neg n5,if_neg (fun h=>by rw [kp] at h; cases h.2),if_neg (fun h=>h.1 k7)]]; rfl
   (try dsimp only[awp]);conv=>whnf
   refine fM ?_;(conv=>whnf);refine ⟨?_,rfl⟩;conv=>whnf
   all_goals exact wk
  ·(try dsimp only[awp]);conv=>whnf
   refine .pure _ _ ?_ ⟨rfl,rfl⟩ (c_mzero g.dorm) fun _=>?_
   ·exact leL_refl _
   (try dsimp only[awp]);conv=>whnf
   refine And.intro (fun kz=>?_) (fun kz=>?_)
   ·have kz : zeroR g.dorm = false:=by simpa using kz
    obtain rfl : R = .ifc 79 (.int .i64 2):=by rw [hR,show mgErr g = 2 from by unfold mgErr; rw [if_neg n1,if_neg n2,if_neg n3,if_neg n4,if_neg n5,if_neg (fun h=>k7 h.1),if_pos ⟨k7,kz⟩]]; rfl
    (try dsimp only[awp]);conv=>whnf
    refine fM ?_;(conv=>whnf);refine ⟨?_,rfl⟩;conv=>whnf
    all_goals exact wk
   have kz : zeroR g.dorm = true:=by simpa using kz
   obtain rfl : R = .nilI:=by rw [hR,show mgErr g = 0 from by unfold mgErr; rw [if_neg n1,if_neg n2,if_neg n3,if_neg n4,if_neg n5,if_neg (fun h=>k7 h.1),if_neg (fun h=>by rw [kz] at h; cases h.2)]]; rfl
   (try dsimp only[awp]);conv=>whnf
   refine fM ?_;(conv=>whnf);refine ⟨?_,rfl⟩;conv=>whnf
   all_goals exact wk
 ·have n4 : ¬ (g.kind = 2 ∧ (g.k < 1 ∨ (g.ins.length : Int) < g.k)):=by omega
  (try dsimp only[awp]);conv=>whnf
  refine And.intro (fun kk=>?_) (fun kk=>?_)
  ·obtain rfl : R = .ifc 79 (.int .i64 2):=by rw [hR,show mgErr g = 2 from by unfold mgErr; rw [if_neg n1,if_neg n2,if_neg n3,if_neg n4,if_pos ⟨k2,kk⟩]]; rfl
   (try dsimp only[awp]);conv=>whnf
   refine fM ?_;(conv=>whnf);refine ⟨?_,rfl⟩;conv=>whnf
   all_goals exact wk
  have n5 : ¬ (g.kind ≠ 2 ∧ g.k ≠ 0):=fun h=>kk h.2
  (try dsimp only[awp]);conv=>whnf
  refine And.intro (fun k7=>?_) (fun k7=>?_)
  ·(try dsimp only[awp]);conv=>whnf
   refine .pure _ _ ?_ ⟨rfl,rfl⟩ hr.p fun _=>?_
   ·exact leL_refl _
   (try dsimp only[awp]);conv=>whnf
   refine And.intro (fun kp=>?_) (fun kp=>?_)
   ·have kp : prob g.dorm = false:=by simpa using kp
    obtain rfl : R = .ifc 79 (.int .i64 3):=by rw [hR,show mgErr g = 3 from by unfold mgErr; rw [if_neg n1,if_neg n2,if_neg n3,if_neg n4,if_neg n5,if_pos ⟨k7,kp⟩]]; rfl
    (try dsimp only[awp]);conv=>whnf
    refine fM ?_;(conv=>whnf);refine ⟨?_,rfl⟩;conv=>whnf
    all_goals exact wk
   have kp : prob g.dorm = true:=by simpa using kp
   obtain rfl : R = .nilI:=by rw [hR,show mgErr g = 0 from by unfold mgErr; rw [if_neg n1,if_neg n2,if_neg n3,if_neg n4,if_neg n5,if_neg (fun h=>by rw [kp] at h; cases h.2),if_neg (fun h=>h.1 k7)]]; rfl
   (try dsimp only[awp]);conv=>whnf
   refine fM ?_;(conv=>whnf);refine ⟨?_,rfl⟩;conv=>whnf
   all_goals exact wk
  ·(try dsimp only[awp]);conv=>whnf
   refine .pure _ _ ?_ ⟨rfl,rfl⟩ (c_mzero g.dorm) fun _=>?_
   ·exact leL_refl _
   (try dsimp only[awp]);conv=>whnf
   refine And.intro (fun kz=>?_) (fun kz=>?_)
   ·have kz : zeroR g.dorm = false:=by simpa using kz
    obtain rfl : R = .ifc 79 (.int .i64 2):=by rw [hR,show mgErr g = 2 from by unfold mgErr; rw [if_neg n1,if_neg n2,if_neg n3,if_neg n4,if_neg n5,if_neg (fun h=>k7 h.1),if_pos ⟨k7,kz⟩]]; rfl
    (try dsimp only[awp]);conv=>whnf
    refine fM ?_;(conv=>whnf);refine ⟨?_,rfl⟩;conv=>whnf
    all_goals exact wk
   have kz : zeroR g.dorm = true:=by simpa using kz
   obtain rfl : R = .nilI:=by rw [hR,show mgErr g = 0 from by unfold mgErr; rw [if_neg n1,if_neg n2,if_neg n3,if_neg n4,if_neg n5,if_neg (fun h=>k7 h.1),if_neg (fun h=>by rw [kz] at h; cases h.2)]]; rfl
   (try dsimp only[awp]);conv=>whnf
   refine fM ?_;(conv=>whnf);refine ⟨?_,rfl⟩;conv=>whnf
   all_goals exact wk

def gateErrM (m : Md) (a : Int) (i : Nat) (x : Mg) : Int :=
 if nameR x.name = false then 5 else if 0 ≤ i_event m.evs x.name then 6 else if 0 ≤ i_house m.hs x.name then 6 else if i_gate (gatesM m a) x.name < i then 6 else mgErr x

theorem c_checkGates (m : Md) (a : Int) (ha : a = -1 ∨ (0 ≤ a ∧ a < (m.pages.length : Int))) (hC : mgC (gatesM m a)) (R : AV) (hR : R = errAV (errL (gateErrM m a) 0 (gatesM m a))) : FnH Tryz.prog 39 [m.av,.int .i64 a] [] R []:=by
 have ce:=fun s=>c_event m s
 have ch:=fun s=>c_house m s
 have cg:=fun s=>c_gate (gatesM m a) s
 have cG:=c_gatesOf m a ha
 have hgm : ∀ i x,gateErrM m a i x = if nameR x.name = false then 5 else if 0 ≤ i_event m.evs x.name then 6 else if 0 ≤ i_house m.hs x.name then 6 else if i_gate (gatesM m a) x.name < i then 6 else mgErr x:=fun _ _=>rfl
 generalize gateErrM m a = F at *
 generalize gatesM m a = l at *
 refine FnH.intro lay mixed Tryz.func39 (by kernel_rfl) rfl (by kernel_rfl) rfl fun hok=>?_
 (try dsimp only[argC,succC]);(try dsimp only[awp]);conv=>whnf
 refine .pure _ _ ?_ ⟨rfl,rfl⟩ cG fun hokl=>?_
 ·exact leL_refl _
 have hll : l.length ≤ 9223372036854775807:=by have:=hokl.1; simpa [maxL] using this
 (try dsimp only[awp]);conv=>whnf
 refine LoopE.of <| LoopSpec.inv (.refl _ _) (fun (i : Nat)=>i ≤ l.length ∧ errL F 0 l = errL F i (l.drop i)) (fun (i : Nat)=>[(14,.int .i64 i)]) (fun _=>_) (fun (i : Nat)=>l.length - i) 0 ?_ (fun _=>rfl) ?_ ?_
 ·exact ⟨Nat.zero_le _,rfl⟩
 ·all_goals exact wk
 rintro i ⟨hi,hn⟩ _
 (try dsimp only[awp]);conv=>whnf
 refine And.intro (fun h=>?_) (fun h=>?_)
 ·have hlt : i < l.length:=by simpa using h
  have hr:=hC _ (List.getElem_mem hlt)
  have hgx:=hgm i l[i]
  rw [errL_step hlt] at hn
  have bad : ∀ e : Int,e ≠ 0 → F i l[i] = e → errL F 0 l = e:=by
   intro e he h
   rw [h,if_pos he] at hn
   rw [hn]
  (try dsimp only[awp]);conv=>whnf
  refine aidx hlt ?_
  generalize l[i] = x at *
  (try dsimp only[awp]);conv=>whnf
  refine .pure _ _ ?_ ⟨rfl,rfl⟩ (c_tokenName x.name) fun _=>?_
  ·exact leL_refl _
  (try dsimp only[awp]);conv=>whnf
  refine And.intro (fun g1=>?_) (fun g1=>?_)
  ·have g1 : nameR x.name = false:=by simpa using g1
   obtain rfl : R = .ifc 79 (.int .i64 5):=by rw [hR,show errL F 0 l = 5 from by exact bad 5 (by decide) (by rw [hgx,if_pos g1])]; rfl
   (try dsimp only[awp]);conv=>whnf
   refine fM ?_;(conv=>whnf);refine ⟨?_,rfl⟩;conv=>whnf
   all_goals exact wk
  have g1 : ¬ nameR x.name = false:=by simpa using g1
  (try dsimp only[awp]);conv=>whnf
  refine .pure _ _ ?_ ⟨rfl,rfl⟩ (ce x.name) fun _=>?_
  ·exact leL_refl _
  (try dsimp only[awp]);conv=>whnf
  refine And.intro (fun g2=>?_) (fun g2=>?_)
  ·obtain rfl : R = .ifc 79 (.int .i64 6):=by rw [hR,show errL F 0 l = 6 from by exact bad 6 (by decide) (by rw [hgx,if_neg g1,if_pos g2])]; rfl
   (try dsimp only[awp]);conv=>whnf
   refine fM ?_;(conv=>whnf);refine ⟨?_,rfl⟩;conv=>whnf
   all_goals exact wk
  (try dsimp only[awp]);conv=>whnf
  refine .pure _ _ ?_ ⟨rfl,rfl⟩ (ch x.name) fun _=>?_
  ·exact leL_refl _
  (try dsimp only[awp]);conv=>whnf
  refine And.intro (fun g3=>?_) (fun g3=>?_)
  ·obtain rfl : R = .ifc 79 (.int .i64 6):=by rw [hR,show errL F 0 l = 6 from by exact bad 6 (by decide) (by rw [hgx,if_neg g1,if_neg g2,if_pos g3])]; rfl
   (try dsimp only[awp]);conv=>whnf
   refine fM ?_;(conv=>whnf);refine ⟨?_,rfl⟩;conv=>whnf
   all_goals exact wk
  (try dsimp only[awp]);conv=>whnf
  refine .pure _ _ ?_ ⟨rfl,rfl⟩ (cg x.name) fun _=>?_
  ·exact leL_refl _
  (try dsimp only[awp]);conv=>whnf
  refine And.intro (fun g4=>?_) (fun g4=>?_)
  ·obtain rfl : R = .ifc 79 (.int .i64 6):=by rw [hR,show errL F 0 l = 6 from by exact bad 6 (by decide) (by rw [hgx,if_neg g1,if_neg g2,if_neg g3,if_pos g4])]; rfl
   (try dsimp only[awp]);conv=>whnf
   refine fM ?_;(conv=>whnf);refine ⟨?_,rfl⟩;conv=>whnf
   all_goals exact wk
  rw [if_neg g1,if_neg g2,if_neg g3,if_neg g4] at hgx
  have cm:=c_mcheckGate x hr _ rfl
  by_cases g5 : mgErr x ≠ 0
  ·rw [errAV_ne g5] at cm
   rw [bad _ g5 hgx,errAV_ne g5] at hR
   subst hR
   (try dsimp only[awp]);conv=>whnf
   refine .pure _ _ ?_ ⟨rfl,rfl⟩ cm fun _=>?_
   ·exact leL_refl _
   (try dsimp only[awp]);conv=>whnf
   refine fM ?_;(conv=>whnf);refine ⟨?_,rfl⟩;conv=>whnf
   all_goals exact wk
  have g5 : mgErr x = 0:=by simpa using g5
  rw [g5,errAV_zero] at cm
  rw [g5] at hgx
  (try dsimp only[awp]);conv=>whnf
  refine .pure _ _ ?_ ⟨rfl,rfl⟩ cm fun _=>?_
  ·exact leL_refl _
  (try dsimp only[awp]);conv=>whnf
  refine zA ?_;conv=>whnf
  refine ⟨i + 1,?_,?_,?_⟩
  ·exact ⟨hlt,by rw [hn,if_neg (by rw [show F i x = 0 from by exact hgx]; simp)]⟩
  ·refine ⟨?_,.mk ?_ ⟨by simp,trivial⟩⟩
   ·all_goals exact wk
   ·all_goals exact wk
  ·omega
 have hil : i = l.length:=by have : ¬ i < l.length:=by simpa using h
                             omega
 rw [errL_end (by omega)] at hn
 obtain rfl : R = .nilI:=by rw [hR,hn]; rfl
 (try dsimp only[awp]);conv=>whnf
 refine fM ?_;(conv=>whnf);refine ⟨?_,rfl⟩;conv=>whnf
 all_goals exact wk

def mustEv (g : Mg) (k : Int) : Bool:=decide (g.kind = 7) || (decide (g.kind = 8) && decide (0 < k))

theorem c_mustBeEvent (g : Mg) (k : Int) : FnH Tryz.prog 73 [g.av,.int .i64 k] [] (.bool (mustEv g k)) []:=by
 refine FnH.intro lay mixed Tryz.func73 (by kernel_rfl) rfl (by kernel_rfl) rfl fun hok=>?_
 (try dsimp only[argC,succC]);(try dsimp only[awp]);conv=>whnf
 refine And.intro (fun h=>?_) (fun h=>?_)
 ·(try dsimp only[awp]);conv=>whnf
  refine fM ?_;(conv=>whnf);refine ⟨?_,rfl⟩;conv=>whnf
  simp [mustEv,h]
 ·(try dsimp only[awp]);conv=>whnf
  refine And.intro (fun h8=>?_) (fun h8=>?_)
  ·(try dsimp only[awp]);conv=>whnf
   refine fM ?_;(conv=>whnf);refine ⟨?_,rfl⟩;conv=>whnf
   simp [mustEv,h8]
  ·(try dsimp only[awp]);conv=>whnf
   refine fM ?_;(conv=>whnf);refine ⟨?_,rfl⟩;conv=>whnf
   simp [mustEv,h,h8]
end S
