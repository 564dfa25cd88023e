/-
  Contracts of functions of the program, over the logic of the texts before. Nothing is assumed.
-/
import Derived.Test.YtjbhbpieccloeaaT6

open Go Go.AL Go.Proofs
namespace S
set_option maxRecDepth 100000

def XA (a b : List Int) : List Int:=minS (a ++ b)
def Xz (a b : List Int) : List Int:=minS (pG (minS a) (minS b))

theorem tC {a b m : List Int} (ha : bT a) (hb : bT b) (h : a.length + b.length <= 12) (hm : XA a b = m) : dK Try.prog 76 [iA a,iA b] [] (PQ fun R=>R = .dS [iA m,.dU]):=by
 refine dK.mono (Nq a b ha hb) ?_
 rintro R G ⟨h1,h2,⟨_,h3⟩ | ⟨m',h3,h4⟩⟩
 ·omega
 ·refine ⟨h1,h2,?_⟩
  rw [h3,<- hm,h4.min.ex (by simp; omega)]; rfl

theorem tu {a b m : List Int} (ha : bT a) (hb : bT b) (h : a.length <= 12 /\ b.length <= 12 /\ a.length * b.length <= 12) (hm : Xz a b = m) : dK Try.prog 75 [iA a,iA b] [] (PQ fun R=>R = .dS [iA m,.dU]):=by
 refine dK.mono (Cb a b ha hb) ?_
 rintro R G ⟨h1,h2,⟨_,h3⟩ | ⟨m',h3,h4⟩⟩
 ·omega
 ·refine ⟨h1,h2,?_⟩
  obtain ⟨a',b',g1,g2,g3⟩:=h4.ex
  have hl:=kS b' a' []
  have h5 : a'.length * b'.length <= a.length * b.length:=Nat.mul_le_mul g1.len g2.len
  have h6 : (pG a' b').length <= 12:=by
   have : pG a' b' = a'.foldl (fun us x=>uRow x us b') []:=rfl
   rw [this]; simp only [List.length_nil,Nat.zero_add] at hl; omega
  rw [h3,g3.ex h6,g1.ex h.1,g2.ex h.2.1,<- hm]; rfl

theorem bK {l : List Int} (h : (decide (l.length <= 1024) && l.all fun x=>decide (0 <= x) && decide (x <= 16777215)) = true) : bT l:=by
 rw [Bool.and_eq_true,decide_eq_true_eq,List.all_eq_true] at h
 refine ⟨h.1,fun s hs=>?_⟩
 have:=h.2 s hs
 simpa using this

theorem RX : dK Try.prog 50 [lA [[1],[2],[4]],.int .i64 2] [] (PQ fun R=>R = .dS [iA [3,5,6],.dU]):=by
 refine dK.intro lay mixed Try.func50 (by kernel_rfl) rfl (by kernel_rfl) rfl fun hok=>?_
 (try dsimp only[aU,aH]);(try dsimp only[aj]);conv=>whnf
 refine zA ?_;conv=>whnf
 refine ⟨⟨by decide,by decide,by decide,by decide⟩,.wr ?_⟩
 (try dsimp only[aj]);conv=>whnf
 refine ⟨⟨by decide,by decide⟩,?_⟩
 (try dsimp only[aj]);conv=>whnf
 refine ⟨by decide,rfl,?_⟩
 (try dsimp only[aj]);conv=>whnf
 refine aJ.step 4 ?_
 (try dsimp only[aj]);conv=>whnf
 refine bY (by decide) ?_
 (try dsimp only[aj]);conv=>whnf
 refine iY.mk ⟨_,⟨by decide,rfl⟩,?_⟩
 (try dsimp only[aj]);conv=>whnf
 refine aJ.step 3 ?_
 (try dsimp only[aj]);conv=>whnf
 refine bY (by decide) ?_
 (try dsimp only[aj]);conv=>whnf
 refine ⟨bP (by decide) (by decide),?_⟩
 (try dsimp only[aj]);conv=>whnf
 refine ⟨by decide,?_⟩
 (try dsimp only[aj]);conv=>whnf
 refine iY.mk ⟨_,⟨by decide,rfl⟩,⟨rfl,?_⟩⟩
 (try dsimp only[aj]);conv=>whnf
 refine .jf _ _ ?_ rfl (tu (a:=[]) (b:=[1]) (m:=[]) (bK (by decide)) (bK (by decide)) (by decide) (by decide +kernel)) fun R hq _=>?_
 ·all_goals exact wk
 obtain rfl:=hq
 (try dsimp only[aj]);conv=>whnf
 refine ⟨by decide,?_⟩
 (try dsimp only[aj]);conv=>whnf
 refine iY.mk ⟨_,⟨by decide,rfl⟩,⟨rfl,?_⟩⟩
 (try dsimp only[aj]);conv=>whnf
 refine .jf _ _ ?_ rfl (tC (a:=[]) (b:=[]) (m:=[]) (bK (by decide)) (bK (by decide)) (by decide) (by decide +kernel)) fun R hq _=>?_
 ·all_goals exact wk
 obtain rfl:=hq
 (try dsimp only[aj]);conv=>whnf
 refine ⟨by decide,?_⟩
 (try dsimp only[aj]);conv=>whnf
 refine ⟨by decide,rfl,?_⟩
 (try dsimp only[aj]);conv=>whnf
 refine ⟨bP (by decide) (by decide),?_⟩
 (try dsimp only[aj]);conv=>whnf
 refine bY (by decide) ?_
 (try dsimp only[aj]);conv=>whnf
 refine ⟨bP (by decide) (by decide),?_⟩
 (try dsimp only[aj]);conv=>whnf
 refine ⟨by decide,?_⟩
 (try dsimp only[aj]);conv=>whnf
 refine iY.mk ⟨_,⟨by decide,rfl⟩,⟨rfl,?_⟩⟩
 (try dsimp only[aj]);conv=>whnf
 refine .jf _ _ ?_ rfl (tu (a:=[0]) (b:=[1]) (m:=[1]) (bK (by decide)) (bK (by decide)) (by decide) (by decide +kernel)) fun R hq _=>?_
 ·all_goals exact wk
 obtain rfl:=hq
 (try dsimp only[aj]);conv=>whnf
 refine ⟨by decide,?_⟩
 (try dsimp only[aj]);conv=>whnf
 refine iY.mk ⟨_,⟨by decide,rfl⟩,⟨rfl,?_⟩⟩
 (try dsimp only[aj]);conv=>whnf
 refine .jf _ _ ?_ rfl (tC (a:=[]) (b:=[1]) (m:=[1]) (bK (by decide)) (bK (by decide)) (by decide) (by decide +kernel)) fun R hq _=>?_
 ·all_goals exact wk
 obtain rfl:=hq
 (try dsimp only[aj]);conv=>whnf
 refine ⟨by decide,?_⟩
 (try dsimp only[aj]);conv=>whnf
 refine ⟨by decide,rfl,?_⟩
 (try dsimp only[aj]);conv=>whnf
 refine ⟨bP (by decide) (by decide),?_⟩
 (try dsimp only[aj]);conv=>whnf
 refine bN (by decide) ?_
 (try dsimp only[aj]);conv=>whnf
 refine zA ?_;conv=>whnf
 refine bY (by decide) ?_
 (try dsimp only[aj]);conv=>whnf
 refine iY.mk ⟨_,⟨by decide,rfl⟩,?_⟩
 (try dsimp only[aj]);conv=>whnf
 refine aJ.step 3 ?_
 (try dsimp only[aj]);conv=>whnf
 refine bY (by decide) ?_
 (try dsimp only[aj]);conv=>whnf
 refine ⟨bP (by decide) (by decide),?_⟩
 (try dsimp only[aj]);conv=>whnf
 refine ⟨by decide,?_⟩
 (try dsimp only[aj]);conv=>whnf
 refine iY.mk ⟨_,⟨by decide,rfl⟩,⟨rfl,?_⟩⟩
 (try dsimp only[aj]);conv=>whnf
 refine .jf _ _ ?_ rfl (tu (a:=[1]) (b:=[2]) (m:=[3]) (bK (by decide)) (bK (by decide)) (by decide) (by decide +kernel)) fun R hq _=>?_
 ·all_goals exact wk
 obtain rfl:=hq
 (try dsimp only[aj]);conv=>whnf
 refine ⟨by decide,?_⟩
 (try dsimp only[aj]);conv=>whnf
 refine iY.mk ⟨_,⟨by decide,rfl⟩,⟨rfl,?_⟩⟩
 (try dsimp only[aj]);conv=>whnf
 refine .jf _ _ ?_ rfl (tC (a:=[]) (b:=[3]) (m:=[3]) (bK (by decide)) (bK (by decide)) (by decide) (by decide +kernel)) fun R hq _=>?_
 ·all_goals exact wk
 obtain rfl:=hq
 (try dsimp only[aj]);conv=>whnf
 refine ⟨by decide,?_⟩
 (try dsimp only[aj]);conv=>whnf
 refine ⟨by decide,rfl,?_⟩
 (try dsimp only[aj]);conv=>whnf
 refine ⟨bP (by decide) (by decide),?_⟩
 (try dsimp only[aj]);conv=>whnf
 refine bY (by decide) ?_
 (try dsimp only[aj]);conv=>whnf
 refine ⟨bP (by decide) (by decide),?_⟩
 (try dsimp only[aj]);conv=>whnf
 refine ⟨by decide,?_⟩
 (try dsimp only[aj]);conv=>whnf
 refine iY.mk ⟨_,⟨by decide,rfl⟩,⟨rfl,?_⟩⟩
 (try dsimp only[aj]);conv=>whnf
 refine .jf _ _ ?_ rfl (tu (a:=[0]) (b:=[2]) (m:=[2]) (bK (by decide)) (bK (by decide)) (by decide) (by decide +kernel)) fun R hq _=>?_
 ·all_goals exact wk
 obtain rfl:=hq
 (try dsimp only[aj]);conv=>whnf
 refine ⟨by decide,?_⟩
 (try dsimp only[aj]);conv=>whnf
 refine iY.mk ⟨_,⟨by decide,rfl⟩,⟨rfl,?_⟩⟩
 (try dsimp only[aj]);conv=>whnf
 refine .jf _ _ ?_ rfl (tC (a:=[1]) (b:=[2]) (m:=[1,2]) (bK (by decide)) (bK (by decide)) (by decide) (by decide +kernel)) fun R hq _=>?_
 ·all_goals exact wk
 obtain rfl:=hq
 (try dsimp only[aj]);conv=>whnf
 refine ⟨by decide,?_⟩
 (try dsimp only[aj]);conv=>whnf
 refine ⟨by decide,rfl,?_⟩
 (try dsimp only[aj]);conv=>whnf
 refine ⟨bP (by decide) (by decide),?_⟩
 (try dsimp only[aj]);conv=>whnf
 refine bN (by decide) ?_
 (try dsimp only[aj]);conv=>whnf
 refine zA ?_;conv=>whnf
 refine bY (by decide) ?_
 (try dsimp only[aj]);conv=>whnf
 refine iY.mk ⟨_,⟨by decide,rfl⟩,?_⟩
 (try dsimp only[aj]);conv=>whnf
 refine aJ.step 3 ?_
 (try dsimp only[aj]);conv=>whnf
 refine bY (by decide) ?_
 (try dsimp only[aj]);conv=>whnf
 refine ⟨bP (by decide) (by decide),?_⟩
 (try dsimp only[aj]);conv=>whnf
 refine ⟨by decide,?_⟩
 (try dsimp only[aj]);conv=>whnf
 refine iY.mk ⟨_,⟨by decide,rfl⟩,⟨rfl,?_⟩⟩
 (try dsimp only[aj]);conv=>whnf
 refine .jf _ _ ?_ rfl (tu (a:=[1,2]) (b:=[4]) (m:=[5,6]) (bK (by decide)) (bK (by decide)) (by decide) (by decide +kernel)) fun R hq _=>?_
 ·all_goals exact wk
 obtain rfl:=hq
 (try dsimp only[aj]);conv=>whnf
 refine ⟨by decide,?_⟩
 (try dsimp only[aj]);conv=>whnf
 refine iY.mk ⟨_,⟨by decide,rfl⟩,⟨rfl,?_⟩⟩
 (try dsimp only[aj]);conv=>whnf
 refine .jf _ _ ?_ rfl (tC (a:=[3]) (b:=[5,6]) (m:=[3,5,6]) (bK (by decide)) (bK (by decide)) (by decide) (by decide +kernel)) fun R hq _=>?_
 ·all_goals exact wk
 obtain rfl:=hq
 (try dsimp only[aj]);conv=>whnf
 refine ⟨by decide,?_⟩
 (try dsimp only[aj]);conv=>whnf
 refine ⟨by decide,rfl,?_⟩
 (try dsimp only[aj]);conv=>whnf
 refine ⟨bP (by decide) (by decide),?_⟩
 (try dsimp only[aj]);conv=>whnf
 refine bY (by decide) ?_
 (try dsimp only[aj]);conv=>whnf
 refine ⟨bP (by decide) (by decide),?_⟩
 (try dsimp only[aj]);conv=>whnf
 refine ⟨by decide,?_⟩
 (try dsimp only[aj]);conv=>whnf
 refine iY.mk ⟨_,⟨by decide,rfl⟩,⟨rfl,?_⟩⟩
 (try dsimp only[aj]);conv=>whnf
 refine .jf _ _ ?_ rfl (tu (a:=[0]) (b:=[4]) (m:=[4]) (bK (by decide)) (bK (by decide)) (by decide) (by decide +kernel)) fun R hq _=>?_
 ·all_goals exact wk
 obtain rfl:=hq
 (try dsimp only[aj]);conv=>whnf
 refine ⟨by decide,?_⟩
 (try dsimp only[aj]);conv=>whnf
 refine iY.mk ⟨_,⟨by decide,rfl⟩,⟨rfl,?_⟩⟩
 (try dsimp only[aj]);conv=>whnf
 refine .jf _ _ ?_ rfl (tC (a:=[1,2]) (b:=[4]) (m:=[1,2,4]) (bK (by decide)) (bK (by decide)) (by decide) (by decide +kernel)) fun R hq _=>?_
 ·all_goals exact wk
 obtain rfl:=hq
 (try dsimp only[aj]);conv=>whnf
 refine ⟨by decide,?_⟩
 (try dsimp only[aj]);conv=>whnf
 refine ⟨by decide,rfl,?_⟩
 (try dsimp only[aj]);conv=>whnf
 refine ⟨bP (by decide) (by decide),?_⟩
 (try dsimp only[aj]);conv=>whnf
 refine bN (by decide) ?_
 (try dsimp only[aj]);conv=>whnf
 refine zA ?_;conv=>whnf
 refine bN (by decide) ?_
 (try dsimp only[aj]);conv=>whnf
 refine ⟨by decide,?_⟩
 (try dsimp only[aj]);conv=>whnf
 refine iY.mk ⟨_,⟨by decide,rfl⟩,⟨rfl,?_⟩⟩
 (try dsimp only[aj]);conv=>whnf
 refine ⟨_,_,⟨rfl,rfl,rfl⟩,?_⟩
 refine ⟨⟨_,_,.refl _ _,?_⟩⟩
 conv=>whnf
 refine ⟨?_,rfl,by simp [nextId],.mk ?_ (by simp [ak])⟩
 ·all_goals exact wk
 ·all_goals exact wk

def vN : Nd:=⟨4,2,[0,1,2]⟩
def vF : Fo:=⟨3,[vN],3⟩

theorem PZ : yC vF:=by
 refine ⟨by decide,by decide,fun i hi=>?_,by decide⟩
 have hi : i = 0:=by simp [vF] at hi; omega
 subst hi
 show Hq 3 0 vN
 exact ⟨by decide,by decide,by decide,by decide⟩

theorem P5 : tX vF = true:=by decide +kernel
theorem Ub : (trimF vF).av = vF.av:=by
 have : trimF vF = vF:=by kernel_rfl
 rw [this]

theorem RY : dK Try.prog 24 [vN.av,lA [[1],[2],[4]]] [] (PQ fun R=>R = .dS [iA [3,5,6],.dU]):=by
 refine dK.intro lay mixed Try.func24 (by kernel_rfl) rfl (by kernel_rfl) rfl fun hok=>?_
 (try dsimp only[aU,aH]);(try dsimp only[aj]);conv=>whnf
 refine bN (by decide) ?_
 (try dsimp only[aj]);conv=>whnf
 refine bN (by decide) ?_
 (try dsimp only[aj]);conv=>whnf
 refine bN (by decide) ?_
 (try dsimp only[aj]);conv=>whnf
 refine ⟨bP (by decide) (by decide),?_⟩
 (try dsimp only[aj]);conv=>whnf
 refine ⟨bP (by decide) (by decide),?_⟩
 (try dsimp only[aj]);conv=>whnf
 refine .jf _ _ ?_ rfl RX fun R hq _=>?_
 ·all_goals exact wk
 obtain rfl:=hq
 (try dsimp only[aj]);conv=>whnf
 refine ⟨_,_,⟨rfl,rfl,rfl⟩,?_⟩
 refine ⟨⟨_,_,.refl _ _,?_⟩⟩
 conv=>whnf
 refine ⟨?_,rfl,by simp [nextId],.mk ?_ (by simp [ak])⟩
 ·all_goals exact wk
 ·all_goals exact wk

abbrev L0 : List (List Int):=(List.range 3).map fun i=>[((2 ^ i : Nat) : Int)]

theorem SB : dK Try.prog 9 [vF.av] [] (PQ fun R=>R = .dS [iA [3,5,6],.dU]):=by
 have cc:=Jk vF PZ P5
 have ct:=GU vF PZ
 rw [Ub] at ct
 refine dK.intro lay mixed Try.func9 (by kernel_rfl) rfl (by kernel_rfl) rfl fun hok=>?_
 (try dsimp only[aU,aH]);(try dsimp only[aj]);conv=>whnf
 refine .pure _ _ ?_ ⟨rfl,rfl⟩ cc fun _=>?_
 ·exact au _
 (try dsimp only[aj]);conv=>whnf
 refine .pure _ _ ?_ ⟨rfl,rfl⟩ ct fun _=>?_
 ·exact au _
 (try dsimp only[aj]);conv=>whnf
 refine ⟨bP (by decide) (by decide),?_⟩
 (try dsimp only[aj]);conv=>whnf
 refine ⟨⟨by decide,by decide,by decide,by decide⟩,.wr ?_⟩
 (try dsimp only[aj]);conv=>whnf
 refine aJ.of <| (aA.inv (.refl _ _) (fun k : Nat=>k <= 3) (fun k=>[(38,.int .i64 (k : Int)),(7,.ms 2 0 k 4 1)]) (fun k=>[(2,.arr 1 4 (((List.range k).map fun i=>[((2 ^ i : Nat) : Int)]).map iA)),(1,.box vF.av),(0,.box vF.av)]) (fun k=>3 - k) 0 (Nat.zero_le _) ?_ ?_ ?_)
 ·exact fun _=>rfl
 ·refine ⟨?_,.mk ?_ (by simp [ak])⟩
  ·all_goals exact wk
  ·all_goals exact wk
 intro k hk _
 (try dsimp only[aj]);conv=>whnf
 refine And.intro (fun g=>?_) (fun g=>?_)
 ·have hlt : k < 3:=by have g : (k : Int) < 3:=g; omega
  (try dsimp only[aj]);conv=>whnf
  refine ⟨by omega,?_⟩
  rw [sH (i:=k) (by omega)]
  (try dsimp only[aj]);conv=>whnf
  refine ⟨⟨by simp,by simp; omega,by simp; omega⟩,?_⟩
  (try dsimp only[aj]);conv=>whnf
  refine zA ?_;conv=>whnf
  refine ⟨k + 1,?_,?_,?_⟩
  ·exact hlt
  ·refine ⟨?_,.mk ?_ (by simp [ak])⟩
   ·all_goals exact wk
   ·repeat' first|exact rfl|exact trivial|exact wR|exact lR _|apply aI
    all_goals first | (rw [List.range_succ,List.map_append]; exact xP (by simp) (by simp) (kV _)) | skip
  ·omega
 have hk : k = 3:=by have g : ¬ (k : Int) < 3:=g; omega
 subst hk
 (try dsimp only[aj]);conv=>whnf
 refine aJ.step 3 ?_
 (try dsimp only[aj]);conv=>whnf
 refine bY (by decide) ?_
 (try dsimp only[aj]);conv=>whnf
 refine iY.mk ⟨_,⟨by decide,rfl⟩,?_⟩
 (try dsimp only[aj]);conv=>whnf
 refine aJ.of <| (aA.inv (.grow 11 1 [] .bH rfl (.inl ⟨rfl,rfl⟩) (.refl _ _)) (fun j : Nat=>j <= 3) (fun j=>[(58,.int .i64 (j : Int)),(11,.sl 1 (((vN.args.take j).map fun a=>L0.getD a.toNat []).map iA) (.own 4))]) (fun j=>[(4,.tok 1 j),(3,.box vN.av),(2,.arr 1 4 (L0.map iA)),(1,.box vF.av),(0,.box vF.av)]) (fun j=>3 - j) 0 (Nat.zero_le _) ?_ ?_ ?_)
 ·exact fun _=>rfl
 ·refine ⟨?_,.mk ?_ (by simp [ak])⟩
  ·all_goals exact wk
  ·all_goals exact wk
 intro j hj _
 (try dsimp only[aj]);conv=>whnf
 refine And.intro (fun g1=>?_) (fun g1=>?_)
 ·have hlj : j < vN.args.length:=by show j < 3; have g1 : (j : Int) < 3:=g1; omega
  have hs:=List.take_succ_eq_append_getElem hlj
  have haj : ∀ a,a ∈ vN.args -> 0 <= a /\ a < 3:=by decide
  have haj:=haj _ (List.getElem_mem hlj)
  have Z9 : j < 3:=hlj
  (try dsimp only[aj]);conv=>whnf
  refine iH hlj ?_
  generalize vN.args[j] = a at *
  (try dsimp only[aj]);conv=>whnf
  refine ⟨⟨by omega,by omega⟩,?_⟩
  (try dsimp only[aj]);conv=>whnf
  refine aO (i:=a.toNat) (by omega) (by simp; omega) ⟨rfl,?_⟩
  (try dsimp only[aj]);conv=>whnf
  refine ⟨by simp; omega,.mk (by simp [maxL]; omega) (by simp; omega) ?_⟩
  (try dsimp only[aj]);conv=>whnf
  refine zA ?_;conv=>whnf
  refine ⟨j + 1,?_,?_,?_⟩
  ·omega
  ·rw [hs,List.map_append,List.map_append]
   refine ⟨?_,.mk ?_ (by simp [ak])⟩
   ·repeat' first|exact rfl|exact trivial|exact wR|exact lR _|apply aI
    all_goals first | exact bF rfl | (simp; done) | skip
   ·repeat' first|exact rfl|exact trivial|exact wR|exact lR _|apply aI
    all_goals first | (simp; done) | (simp; omega) | skip
  ·omega
 have hj' : j = 3:=by have g1 : ¬ (j : Int) < 3:=g1; omega
 subst hj'
 rw [show ((vN.args.take 3).map fun a=>L0.getD a.toNat []) = [[1],[2],[4]] by decide]
 (try dsimp only[aj]);conv=>whnf
 refine .jf _ _ ?_ rfl RY fun R hq _=>?_
 ·all_goals exact wk
 obtain rfl:=hq
 (try dsimp only[aj]);conv=>whnf
 refine ⟨⟨by decide,by decide,by decide⟩,?_⟩
 (try dsimp only[aj]);conv=>whnf
 refine zA ?_;conv=>whnf
 refine bN (by decide) ?_
 (try dsimp only[aj]);conv=>whnf
 refine ⟨⟨by decide,by decide⟩,?_⟩
 (try dsimp only[aj]);conv=>whnf
 refine iY.mk ⟨_,⟨by decide,rfl⟩,⟨rfl,?_⟩⟩
 (try dsimp only[aj]);conv=>whnf
 refine .pure _ _ ?_ ⟨rfl,rfl⟩ (EW [3,5,6] (by decide)) fun _=>?_
 ·all_goals exact wk
 (try dsimp only[aj]);conv=>whnf
 refine ⟨_,_,⟨rfl,rfl,rfl⟩,?_⟩
 refine ⟨⟨_,_,.refl _ _,?_⟩⟩
 conv=>whnf
 refine ⟨?_,rfl,by simp [nextId],.mk ?_ (by simp [ak])⟩
 ·all_goals exact wk
 ·all_goals exact wk

theorem VW : JH vF:=⟨PZ,by decide,by decide,P5⟩

theorem PY : DT 3 [vN] 20 (DU vF) = some [⟨3,0⟩,⟨5,0⟩,⟨6,0⟩]:=by kernel_rfl

theorem Ve : dK Try.prog 8 [vF.av] [] (PQ fun R=>R = .dS [iA [3,5,6],.dU]):=by
 refine dK.mono (SE vF VW) ?_
 rintro R G ⟨h1,h2,⟨_,h3⟩ | ⟨l,rfl,h4⟩⟩
 ·exact absurd PY (h3 _)
 ·refine ⟨h1,h2,?_⟩
  obtain ⟨rows,hP,_,he⟩:=h4.ex
  obtain ⟨k,hk⟩:=hP.inv.ex _ PY
  have hr : rows = [⟨3,0⟩,⟨5,0⟩,⟨6,0⟩]:=by
   cases k with
   | zero=>cases hk
   | succ k =>
     unfold DT at hk
     rw [if_pos hP.neg] at hk
     exact Option.some.inj hk
  subst hr
  rw [he (by decide),show qZ Ld 0 ([⟨3,0⟩,⟨5,0⟩,⟨6,0⟩] : List Rw).length (H6 [⟨3,0⟩,⟨5,0⟩,⟨6,0⟩]) = [3,5,6] by decide +kernel]

theorem Ji : bJ Try.prog 12 [] [] vF.av []:=by
 refine bJ.intro lay mixed Try.func12 (by kernel_rfl) rfl (by kernel_rfl) rfl fun hok=>?_
 (try dsimp only[aU,aH]);(try dsimp only[aj]);conv=>whnf
 refine ⟨⟨_,_,.refl _ _,?_⟩⟩
 conv=>whnf
 refine ⟨?_,rfl,by simp [nextId],.mk ?_ (by simp [ak])⟩
 ·all_goals exact wk
 ·all_goals exact wk

theorem MR : bJ Try.prog 13 [iA [3,5,6],iA [3,5,6]] [] .tt []:=(WW [3,5,6] [3,5,6]).weak (R':=.tt) (by show decide _ = true; simp)

theorem yh : dK Try.prog 4 [] [] (PQ fun R=>R = .tt):=by
 refine dK.intro lay mixed Try.func4 (by kernel_rfl) rfl (by kernel_rfl) rfl fun hok=>?_
 (try dsimp only[aU,aH]);(try dsimp only[aj]);conv=>whnf
 refine .pure _ _ ?_ ⟨rfl,rfl⟩ Ji fun _=>?_
 ·exact au _
 (try dsimp only[aj]);conv=>whnf
 refine .jf _ _ ?_ rfl Ve fun R hq _=>?_
 ·exact au _
 obtain rfl:=hq
 (try dsimp only[aj]);conv=>whnf
 refine .pure _ _ ?_ ⟨rfl,rfl⟩ Ji fun _=>?_
 ·exact au _
 (try dsimp only[aj]);conv=>whnf
 refine .jf _ _ ?_ rfl SB fun R hq _=>?_
 ·exact au _
 obtain rfl:=hq
 (try dsimp only[aj]);conv=>whnf
 refine .pure _ _ ?_ ⟨rfl,rfl⟩ MR fun _=>?_
 ·all_goals exact wk
 (try dsimp only[aj]);conv=>whnf
 refine .pure _ _ ?_ ⟨rfl,rfl⟩ MR fun _=>?_
 ·all_goals exact wk
 (try dsimp only[aj]);conv=>whnf
 refine ⟨_,_,⟨rfl,rfl,rfl⟩,?_⟩
 refine ⟨⟨_,_,.refl _ _,?_⟩⟩
 conv=>whnf
 refine ⟨?_,rfl,by simp [nextId],.mk ?_ (by simp [ak])⟩
 ·all_goals exact wk
 ·all_goals exact wk

theorem wU : bJ Try.prog 10 [eL] [] .tt []:=by
 have ci : bJ Try.prog 26 [eL,.int .i64 4] [] .tt []:=by
  have:=(Y6 4 4).weak (R':=.tt) (by show decide _ = true; decide)
  rwa [IU (by decide)] at this
 refine bJ.intro lay mixed Try.func10 (by kernel_rfl) rfl (by kernel_rfl) rfl fun hok=>?_
 (try dsimp only[aU,aH]);(try dsimp only[aj]);conv=>whnf
 refine .pure _ _ ?_ ⟨rfl,rfl⟩ ci fun _=>?_
 ·exact au _
 (try dsimp only[aj]);conv=>whnf
 refine ⟨⟨_,_,.refl _ _,?_⟩⟩
 conv=>whnf
 refine ⟨?_,rfl,by simp [nextId],.mk ?_ (by simp [ak])⟩
 ·all_goals exact wk
 ·all_goals exact wk

theorem Cm (f : Fo) (x : Int) (y : Int) (hx : 0 <= x /\ x <= 65535) (hy : 0 <= y /\ y <= 255) : dK Try.prog 3 [f.av,.int .u16 x,.int .u8 y] [] (PQ fun R=>R = .tt):=by
 have cr:=RQ f
 refine dK.intro lay mixed Try.func3 (by kernel_rfl) rfl (by kernel_rfl) rfl fun hok=>?_
 (try dsimp only[aU,aH]);(try dsimp only[aj]);conv=>whnf
 refine .jf _ _ ?_ rfl yh fun R hq _=>?_
 ·exact au _
 obtain rfl:=hq
 (try dsimp only[aj]);conv=>whnf
 refine .jf _ _ ?_ rfl cr fun R hq _=>?_
 ·exact au _
 rcases hq with rfl | ⟨rfl,hR⟩
 ·(try dsimp only[aj]);conv=>whnf
  refine .jf _ _ ?_ rfl yh fun R hq _=>?_
  ·exact au _
  obtain rfl:=hq
  (try dsimp only[aj]);conv=>whnf
  refine ⟨_,_,⟨rfl,rfl,rfl⟩,?_⟩
  refine ⟨⟨_,_,.refl _ _,?_⟩⟩
  conv=>whnf
  refine ⟨?_,rfl,by simp [nextId],.mk ?_ (by simp [ak])⟩
  ·all_goals exact wk
  ·all_goals exact wk
 by_cases hs : Ih f
 case neg =>
  (try dsimp only[aj]);conv=>whnf
  refine .pure _ _ ?_ ⟨rfl,rfl⟩ (Nl f hR.ok .ff (.inr ⟨rfl,hs⟩)) fun _=>?_
  ·exact au _
  (try dsimp only[aj]);conv=>whnf
  refine .jf _ _ ?_ rfl yh fun R hq _=>?_
  ·exact au _
  obtain rfl:=hq
  (try dsimp only[aj]);conv=>whnf
  refine ⟨_,_,⟨rfl,rfl,rfl⟩,?_⟩
  refine ⟨⟨_,_,.refl _ _,?_⟩⟩
  conv=>whnf
  refine ⟨?_,rfl,by simp [nextId],.mk ?_ (by simp [ak])⟩
  ·all_goals exact wk
  ·all_goals exact wk
 have QW:=WJ f hs
 (try dsimp only[aj]);conv=>whnf
 refine .pure _ _ ?_ ⟨rfl,rfl⟩ (Nl f hR.ok .tt (.inl ⟨rfl,hs⟩)) fun _=>?_
 ·exact au _
 have Uz:=hR.ok
 have hvars:=Uz.vars
 have YN:=hR.vars
 have YP : JH f:=⟨Uz,YN,hR.len,QW⟩
 have XI : zh .i64 1 f.vars = ((2 ^ f.vars.toNat : Nat) : Int):=by
  obtain ⟨v,hv⟩ : ∃ v : Nat,f.vars = v:=⟨f.vars.toNat,by omega⟩
  rw [hv,Int.toNat_natCast]; exact sH (by omega)
 have hp1 : 1 <= 2 ^ f.vars.toNat:=Nat.one_le_two_pow
 have hp8 : 2 ^ f.vars.toNat <= 2 ^ 8:=Nat.pow_le_pow_right (by decide) (by omega)
 obtain ⟨X,rfl⟩ : ∃ X : Nat,x = X:=⟨x.toNat,by omega⟩
 obtain ⟨Y,rfl⟩ : ∃ Y : Nat,y = Y:=⟨y.toNat,by omega⟩
 (try dsimp only[aj]);conv=>whnf
 refine ⟨by omega,?_⟩
 rw [XI,wrap64 (by omega) (by omega)]
 (try dsimp only[aj]);conv=>whnf
 refine ⟨by omega,?_⟩
 rw [show Int.tmod (X : Int) ((2 ^ f.vars.toNat : Nat) : Int) = ((X % 2 ^ f.vars.toNat : Nat) : Int) from rfl]
 obtain ⟨s,hsd⟩ : ∃ s,s = X % 2 ^ f.vars.toNat:=⟨_,rfl⟩
 have hsl : s < 2 ^ f.vars.toNat:=by rw [hsd]; exact Nat.mod_lt _ (by omega)
 rw [<- hsd]
 have cv:=Jl f Uz s hsl
 have XR:=fun (l : List Int) (h : Vr f l)=>Rz Uz YN h (s:=s)
 have XQ:=fun (m : List Int) (h : Ho f m)=>Oq Uz QW h hsl
 obtain ⟨b,hb⟩ : ∃ b,b = (valsF f.vars.toNat s f.nodes).getD f.top.toNat false:=⟨_,rfl⟩
 rw [<- hb] at cv
 (try dsimp only[aj]);conv=>whnf
 refine .pure _ _ ?_ ⟨rfl,rfl⟩ cv fun _=>?_
 ·exact au _
 (try dsimp only[aj]);conv=>whnf
 refine .jf _ _ ?_ rfl (SE f YP) fun R hq _=>?_
 ·exact au _
 rcases hq with ⟨rfl,_⟩ | ⟨l,rfl,hl⟩
 ·(try dsimp only[aj]);conv=>whnf
  refine .jf _ _ ?_ rfl (Ns f Uz QW) fun R hq _=>?_
  ·exact au _
  obtain rfl | ⟨m,rfl,hm⟩:=hq
  ·(try dsimp only[aj]);conv=>whnf
   refine .pure _ _ ?_ ⟨rfl,rfl⟩ wU fun _=>?_
   ·exact au _
   (try dsimp only[aj]);conv=>whnf
   refine .pure _ _ ?_ ⟨rfl,rfl⟩ wU fun _=>?_
   ·exact au _
   (try dsimp only[aj]);conv=>whnf
   refine ⟨_,_,⟨rfl,rfl,rfl⟩,?_⟩
   refine ⟨⟨_,_,.refl _ _,?_⟩⟩
   conv=>whnf
   refine ⟨?_,rfl,by simp [nextId],.mk ?_ (by simp [ak])⟩
   ·all_goals exact wk
   ·all_goals exact wk
  ·(try dsimp only[aj]);conv=>whnf
   refine .pure _ _ ?_ ⟨rfl,rfl⟩ wU fun _=>?_
   ·exact au _
   (try dsimp only[aj]);conv=>whnf
   refine ⟨_,_,⟨rfl,rfl,rfl⟩,?_⟩
   refine ⟨⟨_,_,.refl _ _,?_⟩⟩
   conv=>whnf
   refine ⟨?_,rfl,by simp [nextId],.mk ?_ (by simp [ak])⟩
   ·all_goals exact wk
   ·all_goals exact wk
 (try dsimp only[aj]);conv=>whnf
 refine .jf _ _ ?_ rfl (Ns f Uz QW) fun R hq _=>?_
 ·exact au _
 obtain rfl | ⟨m,rfl,hm⟩:=hq
 ·(try dsimp only[aj]);conv=>whnf
  refine .pure _ _ ?_ ⟨rfl,rfl⟩ wU fun _=>?_
  ·exact au _
  (try dsimp only[aj]);conv=>whnf
  refine ⟨_,_,⟨rfl,rfl,rfl⟩,?_⟩
  refine ⟨⟨_,_,.refl _ _,?_⟩⟩
  conv=>whnf
  refine ⟨?_,rfl,by simp [nextId],.mk ?_ (by simp [ak])⟩
  ·all_goals exact wk
  ·all_goals exact wk
 have hC:=XR l hl
 have hP:=XQ m hm
 rw [<- hb] at hC hP
 have hcl : O7 l (s : Int) = b:=by
  rw [Bool.eq_iff_iff,I9]; exact hC
 have hcm : O7 m ((TS f.vars.toNat s : Nat) : Int) = !b:=by
  rw [Bool.eq_iff_iff,I9,hP]
  cases b <;> decide
 have c1:=Jo l s (Ry hl) (by omega) (by omega)
 have c2:=Jo m ((TS f.vars.toNat s : Nat) : Int) hm.ok (by omega) (by unfold TS; omega)
 rw [hcl] at c1
 rw [hcm] at c2
 have hwk : ((2 ^ f.vars.toNat : Nat) : Int) - 1 - (s : Int) = ((TS f.vars.toNat s : Nat) : Int):=by unfold TS; omega
 (try dsimp only[aj]);conv=>whnf
 refine .jf _ _ ?_ rfl c1 fun R hq _=>?_
 ·exact au _
 obtain rfl:=hq
 (try dsimp only[aj]);conv=>whnf
 refine ⟨by omega,?_⟩
 rw [XI]
 (try dsimp only[aj]);conv=>whnf
 refine zA ?_;conv=>whnf
 rw [hwk]
 refine zA ?_;conv=>whnf
 refine .jf _ _ ?_ rfl c2 fun R hq _=>?_
 ·exact au _
 obtain rfl:=hq
 (try dsimp only[aj]);conv=>whnf
 refine bN (by simp) ?_
 (try dsimp only[aj]);conv=>whnf
 refine bN (by cases b <;> decide) ?_
 (try dsimp only[aj]);conv=>whnf
 refine And.intro (fun h0=>?_) (fun h0=>?_)
 ·(try dsimp only[aj]);conv=>whnf
  refine ⟨_,_,⟨rfl,rfl,rfl⟩,?_⟩
  refine ⟨⟨_,_,.refl _ _,?_⟩⟩
  conv=>whnf
  refine ⟨?_,rfl,by simp [nextId],.mk ?_ (by simp [ak])⟩
  ·all_goals exact wk
  ·all_goals exact wk
 have hv0 : 0 < f.vars.toNat:=by omega
 have hmod : Int.tmod (Y : Int) f.vars = ((Y % f.vars.toNat : Nat) : Int):=by
  obtain ⟨v,hv⟩ : ∃ v : Nat,f.vars = v:=⟨f.vars.toNat,by omega⟩
  rw [hv,Int.toNat_natCast]; rfl
 have Zv : Y % f.vars.toNat < f.vars.toNat:=Nat.mod_lt _ hv0
 obtain ⟨K,hK⟩ : ∃ K,K = Y % f.vars.toNat:=⟨_,rfl⟩
 rw [<- hK] at hmod Zv
 have hpw : 2 ^ K < 2 ^ f.vars.toNat:=Nat.pow_lt_pow_right (by decide) Zv
 have hs' : s ||| 2 ^ K < 2 ^ f.vars.toNat:=Nat.or_lt_two_pow hsl hpw
 have Zz:=Jl f Uz (s ||| 2 ^ K) hs'
 have hmono:=fun h=>Qz Uz QW (s:=s) (s':=s ||| 2 ^ K) (fun i _ hi=>by rw [Nat.testBit_or,hi]; rfl) h
 rw [<- hb] at hmono
 obtain ⟨b2,hb2⟩ : ∃ b2,b2 = (valsF f.vars.toNat (s ||| 2 ^ K) f.nodes).getD f.top.toNat false:=⟨_,rfl⟩
 rw [<- hb2] at Zz hmono
 (try dsimp only[aj]);conv=>whnf
 refine bg.auto (by kernel_rfl) ?_;conv=>whnf
 refine ⟨by omega,?_⟩
 rw [wrap64 (by omega) (by omega),hmod]
 conv=>whnf
 refine ⟨by omega,?_⟩
 rw [sH (i:=K) (by omega)]
 conv=>whnf
 rw [Kw (by omega) (by omega)]
 refine eu.pure _ _ ?_ ⟨rfl,rfl⟩ Zz ?_
 ·exact au _
 (try dsimp only[aj]);conv=>whnf
 cases b2 with
 | true =>
   (try dsimp only[aj]);conv=>whnf
   refine And.intro (fun _=>?_) (fun h=>by cases h)
   (try dsimp only[aj]);conv=>whnf
   refine ⟨.tt,[],⟨rfl,rfl,rfl⟩,?_⟩
   refine ⟨⟨_,_,.refl _ _,?_⟩⟩
   conv=>whnf
   refine ⟨?_,rfl,by simp [nextId],.mk ?_ (by simp [ak])⟩
   ·all_goals exact wk
   ·all_goals exact wk
 | false =>
   have hbf : b = false:=by
    cases b
    ·rfl
    ·exact absurd (hmono rfl) (by decide)
   subst hbf
   (try dsimp only[aj]);conv=>whnf
   refine And.intro (fun h=>by cases h) (fun _=>?_)
   (try dsimp only[aj]);conv=>whnf
   refine ⟨.tt,[],⟨rfl,rfl,rfl⟩,?_⟩
   refine ⟨⟨_,_,.refl _ _,?_⟩⟩
   conv=>whnf
   refine ⟨?_,rfl,by simp [nextId],.mk ?_ (by simp [ak])⟩
   ·all_goals exact wk
   ·all_goals exact wk
theorem Jp (f : Fo) (x y : Int) : bJ Try.prog 3 [f.av,.int .u16 x,.int .u8 y] [] (.bool true) []:=by
 refine bJ.ok (Cm f 0 0 (by decide) (by decide)).1 fun hok=>?_
 have hx : 0 <= x /\ x <= 65535:=hok.2.1
 have hy : 0 <= y /\ y <= 255:=hok.2.2.1
 have h : bJ Try.prog 3 [f.av,.int .u16 x,.int .u8 y] [] .tt []:=dK.Zi (dK.mono (Cm f x y hx hy) fun _ _ ⟨h1,_,h3⟩=>⟨h3,h1⟩)
 exact h.weak (by show true = true; rfl)

theorem F9 {α : Type} {f : α -> AV} : ∀ {l : List AV},(∀ x ∈ l,∃ y,x = f y) -> ∃ m : List α,l = m.map f
 | [],_=>⟨[],rfl⟩
 | x :: l,h=>by
   obtain ⟨y,rfl⟩:=h x (by simp)
   obtain ⟨m,rfl⟩:=F9 (l:=l) fun z hz=>h z (by simp [hz])
   exact ⟨y :: m,rfl⟩

theorem Uu {sz : Nat} {k : IntKind} {A : AV} (h : (Sh.sl sz (.int k)).In A) : ∃ l : List Int,A = .sl sz (l.map (.int k)) .no:=by
 simp only [Sh.In] at h
 obtain ⟨l,rfl,hl⟩:=h
 obtain ⟨m,rfl⟩:=F9 hl
 exact ⟨m,rfl⟩

theorem xU {k : IntKind} {A : AV} (h : (Sh.int k).In A) : ∃ n : Int,A = .int k n:=by
 simpa only [Sh.In] using h


theorem Xv {α : Type} {f : α -> AV} {sh : Sh} {sz : Nat} {A : AV} (hf : ∀ x,sh.In x -> ∃ y,x = f y) (h : (Sh.sl sz sh).In A) : ∃ l : List α,A = .sl sz (l.map f) .no:=by
 unfold Sh.In at h
 obtain ⟨l,rfl,hl⟩:=h
 obtain ⟨m,rfl⟩:=F9 fun x hx=>hf x (hl x hx)
 exact ⟨m,rfl⟩


abbrev Xx : Sh:=.st [.int .i64,.int .i64,.sl 1 (.int .i64)]
abbrev Xy : Sh:=.st [.int .i64,.sl 3 Xx,.int .i64]

theorem Nd.of {A : AV} (h : Xx.In A) : ∃ x : Nd,A = x.av:=by
 unfold Sh.In at h
 simp only [Yj] at h
 obtain ⟨_,rfl,_,_,rfl,h0,_,_,rfl,h1,_,_,rfl,h2,rfl⟩:=h
 obtain ⟨a,rfl⟩:=xU h0
 obtain ⟨b,rfl⟩:=xU h1
 obtain ⟨c,rfl⟩:=Uu h2
 exact ⟨⟨a,b,c⟩,rfl⟩

theorem Fo.of {A : AV} (h : Xy.In A) : ∃ x : Fo,A = x.av:=by
 unfold Sh.In at h
 simp only [Yj] at h
 obtain ⟨_,rfl,_,_,rfl,h0,_,_,rfl,h1,_,_,rfl,h2,rfl⟩:=h
 obtain ⟨a,rfl⟩:=xU h0
 obtain ⟨b,rfl⟩:=Xv (f:=Nd.av) (fun _ hx=>Nd.of hx) h1
 obtain ⟨c,rfl⟩:=xU h2
 exact ⟨⟨a,b,c⟩,rfl⟩
end S
