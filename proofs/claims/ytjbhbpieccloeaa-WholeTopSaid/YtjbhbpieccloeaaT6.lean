/-
  Contracts of functions of the program, over the logic of the texts before. Nothing is assumed.
-/
import Derived.Test.YtjbhbpieccloeaaT5

open Go Go.AL Go.Proofs
namespace S
set_option maxRecDepth 100000

theorem EW (l : List Int) (hN : l.length <= 1000000000) : bJ Try.prog 25 [iA l] [] (iA l) []:=by
 refine bJ.intro lay mixed Try.func25 (by kernel_rfl) rfl (by kernel_rfl) rfl fun hok=>?_
 (try dsimp only[aU,aH]);(try dsimp only[aj]);conv=>whnf
 intro b hb
 (try dsimp only[aj]);conv=>whnf
 refine And.intro (fun h=>?_) (fun h=>?_)
 ·have hl : l = []:=by simpa using hb h
  subst hl
  (try dsimp only[aj]);conv=>whnf
  refine fM ?_;(conv=>whnf);refine ⟨?_,rfl⟩;conv=>whnf
  all_goals exact wk
 ·(try dsimp only[aj]);conv=>whnf
  refine .pure (by simp [maxL]; omega) (by simp; omega) ?_
  (try dsimp only[aj]);conv=>whnf
  refine fM ?_;(conv=>whnf);refine ⟨?_,rfl⟩;conv=>whnf
  all_goals exact wk

structure NT (x : Nd) (args : List (List Int)) (r : List Int) : Prop where
 c : x.kind = 0 -> r = if x.k = 0 then [0] else []
 o : x.kind = 3 -> ZF args r
 a : x.kind = 2 -> Ym args r
 v : x.kind = 4 -> Yd args (args.length - x.k.toNat + 1) r
 ok : bT r

theorem U9 (x : Nd) (args : List (List Int)) (h : ∀ a,a ∈ args -> bT a) (hn : args.length <= 16) (hx : x.kind = 0 \/ x.kind = 2 \/ x.kind = 3 \/ x.kind = 4) (hk : x.kind = 4 -> 1 <= x.k /\ x.k <= args.length) :
  dK Try.prog 24 [x.av,lA args] [] (PQ (JG (NT x args))):=by
 refine dK.intro lay mixed Try.func24 (by kernel_rfl) rfl (by kernel_rfl) rfl fun hok=>?_
 (try dsimp only[aU,aH]);(try dsimp only[aj]);conv=>whnf
 refine And.intro (fun e0=>?_) (fun e0=>?_)
 ·(try dsimp only[aj]);conv=>whnf
  refine And.intro (fun ek=>?_) (fun ek=>?_)
  ·(try dsimp only[aj]);conv=>whnf
   refine ⟨_,_,⟨rfl,rfl,.inr ⟨[0],rfl,⟨fun _=>(if_pos ek).symm,fun e=>by omega,fun e=>by omega,fun e=>by omega,sZ (by omega)⟩⟩⟩,?_⟩
   refine ⟨⟨_,_,.refl _ _,?_⟩⟩
   conv=>whnf
   refine ⟨?_,rfl,by simp [nextId],.mk ?_ (by simp [ak])⟩
   ·all_goals exact wk
   ·all_goals exact wk
  ·(try dsimp only[aj]);conv=>whnf
   refine ⟨_,_,⟨rfl,rfl,.inr ⟨[],rfl,⟨fun _=>(if_neg ek).symm,fun e=>by omega,fun e=>by omega,fun e=>by omega,wE⟩⟩⟩,?_⟩
   refine ⟨⟨_,_,.refl _ _,?_⟩⟩
   conv=>whnf
   refine ⟨?_,rfl,by simp [nextId],.mk ?_ (by simp [ak])⟩
   ·all_goals exact wk
   ·all_goals exact wk
 (try dsimp only[aj]);conv=>whnf
 refine And.intro (fun e3=>?_) (fun e3=>?_)
 ·(try dsimp only[aj]);conv=>whnf
  refine .jf _ _ ?_ rfl (X8 args h hn) fun R hq _=>?_
  ·exact au _
  obtain rfl | ⟨r,rfl,hr⟩:=hq
  ·(try dsimp only[aj]);conv=>whnf
   refine ⟨_,_,⟨rfl,rfl,.inl rfl⟩,?_⟩
   refine ⟨⟨_,_,.refl _ _,?_⟩⟩
   conv=>whnf
   refine ⟨?_,rfl,by simp [nextId],.mk ?_ (by simp [ak])⟩
   ·all_goals exact wk
   ·all_goals exact wk
  ·(try dsimp only[aj]);conv=>whnf
   refine ⟨_,_,⟨rfl,rfl,.inr ⟨r,rfl,⟨fun e=>by omega,fun _=>hr,fun e=>by omega,fun e=>by omega,hr.ok⟩⟩⟩,?_⟩
   refine ⟨⟨_,_,.refl _ _,?_⟩⟩
   conv=>whnf
   refine ⟨?_,rfl,by simp [nextId],.mk ?_ (by simp [ak])⟩
   ·all_goals exact wk
   ·all_goals exact wk
 (try dsimp only[aj]);conv=>whnf
 refine And.intro (fun e2=>?_) (fun e2=>?_)
 ·(try dsimp only[aj]);conv=>whnf
  refine .jf _ _ ?_ rfl (WT args h hn) fun R hq _=>?_
  ·exact au _
  obtain rfl | ⟨r,rfl,hr⟩:=hq
  ·(try dsimp only[aj]);conv=>whnf
   refine ⟨_,_,⟨rfl,rfl,.inl rfl⟩,?_⟩
   refine ⟨⟨_,_,.refl _ _,?_⟩⟩
   conv=>whnf
   refine ⟨?_,rfl,by simp [nextId],.mk ?_ (by simp [ak])⟩
   ·all_goals exact wk
   ·all_goals exact wk
  ·(try dsimp only[aj]);conv=>whnf
   refine ⟨_,_,⟨rfl,rfl,.inr ⟨r,rfl,⟨fun e=>by omega,fun e=>by omega,fun _=>hr,fun e=>by omega,hr.ok⟩⟩⟩,?_⟩
   refine ⟨⟨_,_,.refl _ _,?_⟩⟩
   conv=>whnf
   refine ⟨?_,rfl,by simp [nextId],.mk ?_ (by simp [ak])⟩
   ·all_goals exact wk
   ·all_goals exact wk
 have e4 : x.kind = 4:=by omega
 have hk4:=hk e4
 (try dsimp only[aj]);conv=>whnf
 refine ⟨bP (by simp only [List.length_map]; omega) (by simp only [List.length_map]; omega),?_⟩
 (try dsimp only[aj]);conv=>whnf
 refine ⟨bP (by simp only [List.length_map]; omega) (by simp only [List.length_map]; omega),?_⟩
 (try dsimp only[aj]);conv=>whnf
 rw [show ((args.map iA).length : Int) - x.k + 1 = ((args.length - x.k.toNat + 1 : Nat) : Int) by simp only [List.length_map]; omega]
 refine .jf _ _ ?_ rfl (U8 args h hn (args.length - x.k.toNat + 1) (by omega)) fun R hq _=>?_
 ·exact au _
 obtain rfl | ⟨r,rfl,hr⟩:=hq
 ·(try dsimp only[aj]);conv=>whnf
  refine ⟨_,_,⟨rfl,rfl,.inl rfl⟩,?_⟩
  refine ⟨⟨_,_,.refl _ _,?_⟩⟩
  conv=>whnf
  refine ⟨?_,rfl,by simp [nextId],.mk ?_ (by simp [ak])⟩
  ·all_goals exact wk
  ·all_goals exact wk
 ·(try dsimp only[aj]);conv=>whnf
  refine ⟨_,_,⟨rfl,rfl,.inr ⟨r,rfl,⟨fun e=>by omega,fun e=>by omega,fun e=>by omega,fun _=>hr,hr.ok⟩⟩⟩,?_⟩
  refine ⟨⟨_,_,.refl _ _,?_⟩⟩
  conv=>whnf
  refine ⟨?_,rfl,by simp [nextId],.mk ?_ (by simp [ak])⟩
  ·all_goals exact wk
  ·all_goals exact wk

theorem Jk (f : Fo) (h : yC f) (hc : tX f = true) : bJ Try.prog 22 [f.av] [] .dU []:=by
 have cs:=EX f h
 rw [hc] at cs
 refine bJ.intro lay mixed Try.func22 (by kernel_rfl) rfl (by kernel_rfl) rfl fun hok=>?_
 (try dsimp only[aU,aH]);(try dsimp only[aj]);conv=>whnf
 refine .pure _ _ ?_ ⟨rfl,rfl⟩ cs fun _=>?_
 ·exact au _
 (try dsimp only[aj]);conv=>whnf
 refine And.intro (fun e=>by cases e) (fun _=>?_)
 (try dsimp only[aj]);conv=>whnf
 refine fM ?_;(conv=>whnf);refine ⟨?_,rfl⟩;conv=>whnf
 all_goals exact wk

theorem xP {l : List (List Int)} {r : List Int} {n m : Nat} {X : AV} (hn : n = l.length) (hm : l.length <= m) (hX : ou X (iA r)) : dR ((l.map iA).take n ++ [X] ++ (l.map iA).drop m) ((l ++ [r]).map iA):=by
 rw [List.take_of_length_le (by simp; omega),List.drop_eq_nil_of_le (by simp; omega),List.append_nil,List.map_append]
 generalize l.map iA = u
 induction u with
 | nil=>exact ⟨hX,trivial⟩
 | cons x u ih=>exact ⟨kV x,ih⟩

structure sD (t : Fo) (k : Nat) (l : List (List Int)) : Prop where
 len : l.length = t.vars.toNat + k
 ev : ∀ i,i < t.vars.toNat -> l.getD i [] = [((2 ^ i : Nat) : Int)]
 nd : ∀ (i : Nat) (h : i < t.nodes.length),i < k -> NT t.nodes[i] (t.nodes[i].args.map fun a=>l.getD a.toNat []) (l.getD (t.vars.toNat + i) [])
 ok : ∀ x,x ∈ l -> bT x

theorem sD.snoc {t : Fo} {i : Nat} {l : List (List Int)} {r : List Int} (h : sD t i l) (hv : 0 <= t.vars) (k3 : ∀ (i : Nat) (h : i < t.nodes.length),Hq t.vars i t.nodes[i]) (hi : i < t.nodes.length)
  (hr : NT t.nodes[i] (t.nodes[i].args.map fun a=>l.getD a.toNat []) r) : sD t (i + 1) (l ++ [r]):=by
 have hl:=h.len
 have g : ∀ j,j < t.vars.toNat + i -> (l ++ [r]).getD j [] = l.getD j []:=fun j hj=>by
  rw [List.getD_eq_getElem?_getD,List.getElem?_append_left (by omega),<- List.getD_eq_getElem?_getD]
 have gm : ∀ (j : Nat) (hj : j < t.nodes.length),j <= i -> (t.nodes[j].args.map fun a=>(l ++ [r]).getD a.toNat []) = t.nodes[j].args.map fun a=>l.getD a.toNat []:=fun j hj hji=>by
  refine List.map_congr_left fun a ha=>g _ ?_
  have:=(k3 j hj).args a ha
  omega
 refine ⟨by simp; omega,fun j hj=>by rw [g j (by omega)]; exact h.ev j hj,fun j hj hji=>?_,fun x hx=>?_⟩
 ·rw [gm j hj (by omega)]
  rcases Nat.lt_or_ge j i with h1 | h1
  ·rw [g _ (by omega)]; exact h.nd j hj h1
  ·obtain rfl : j = i:=by omega
   rw [List.getD_eq_getElem?_getD (l:=l ++ [r]),List.getElem?_append_right (by omega),show t.vars.toNat + j - l.length = 0 by omega]
   exact hr
 ·rcases List.mem_append.1 hx with hx | hx
  ·exact h.ok x hx
  ·rw [List.mem_singleton.1 hx]; exact hr.ok

structure Ho (f : Fo) (m : List Int) : Prop where
 ex : ∃ l,sD (trimF f) (trimF f).nodes.length l /\ m = l.getD (trimF f).top.toNat []
 ok : bT m

theorem Ns (f : Fo) (h : yC f) (hc : tX f = true) : dK Try.prog 9 [f.av] [] (PQ (JG (Ho f))):=by
 have cc:=Jk f h hc
 have ct:=GU f h
 obtain ⟨k1,k2,k3,k4⟩:=(FM f h).1
 have hkind : ∀ (i : Nat) (hi : i < (trimF f).nodes.length),kZ (trimF f).nodes[i] = false:=fun i hi=>by
  unfold tX at hc
  rw [Bool.not_eq_true',List.any_eq_false] at hc
  have:=hc _ (List.getElem_mem hi)
  simpa using this
 have hF : ∀ m,(∃ l,sD (trimF f) (trimF f).nodes.length l /\ m = l.getD (trimF f).top.toNat []) -> bT m -> Ho f m:=fun m a b=>⟨a,b⟩
 generalize trimF f = t at *
 refine dK.intro lay mixed Try.func9 (by kernel_rfl) rfl (by kernel_rfl) rfl fun hok=>?_
 (try dsimp only[aU,aH]);(try dsimp only[aj]);conv=>whnf
 refine .pure _ _ ?_ ⟨rfl,rfl⟩ cc fun _=>?_
 ·exact au _
 (try dsimp only[aj]);conv=>whnf
 refine .pure _ _ ?_ ⟨rfl,rfl⟩ ct fun _=>?_
 ·exact au _
 (try dsimp only[aj]);conv=>whnf
 refine ⟨bP (by simp only [List.length_map]; omega) (by simp only [List.length_map]; omega),?_⟩
 (try dsimp only[aj]);conv=>whnf
 rw [show t.vars + ((t.nodes.map Nd.av).length : Int) = ((t.vars.toNat + t.nodes.length : Nat) : Int) by simp only [List.length_map]; omega]
 refine ⟨⟨by omega,by omega,by show ((t.vars.toNat + t.nodes.length : Nat) : Int) * ((24 : Nat) : Int) <= 281474976710656; omega,by omega⟩,.wr ?_⟩
 rw [Int.toNat_natCast]
 (try dsimp only[aj]);conv=>whnf
 refine aJ.of <| (aA.inv (.refl _ _) (fun k : Nat=>k <= t.vars.toNat) (fun k=>[(38,.int .i64 (k : Int)),(7,.ms 2 0 k (t.vars.toNat + t.nodes.length) 1)]) (fun k=>[(2,.arr 1 (t.vars.toNat + t.nodes.length) (((List.range k).map fun i=>[((2 ^ i : Nat) : Int)]).map iA)),(1,.box t.av),(0,.box f.av)]) (fun k=>t.vars.toNat - k) 0 (Nat.zero_le _) ?_ ?_ ?_)
 ·exact fun _=>rfl
 ·refine ⟨?_,.mk ?_ (by simp [ak])⟩
  ·all_goals exact wk
  ·all_goals exact wk
 intro k hk _
 (try dsimp only[aj]);conv=>whnf
 refine And.intro (fun g=>?_) (fun g=>?_)
 ·have hlt : k < t.vars.toNat:=by omega
  (try dsimp only[aj]);conv=>whnf
  refine ⟨by omega,?_⟩
  rw [sH (i:=k) (by omega)]
  (try dsimp only[aj]);conv=>whnf
  refine ⟨⟨by simp,by simp; omega,by simp; omega⟩,?_⟩
  (try dsimp only[aj]);conv=>whnf
  refine zA ?_;conv=>whnf
  refine ⟨k + 1,?_,?_,?_⟩
  ·exact hlt
  ·refine ⟨?_,.mk ?_ (by simp [ak])⟩
   ·all_goals exact wk
   ·repeat' first|exact rfl|exact trivial|exact wR|exact lR _|apply aI
    all_goals first | (rw [List.range_succ,List.map_append]; exact xP (by simp) (by simp) (kV _)) | skip
  ·omega
 have hk : k = t.vars.toNat:=by omega
 subst hk
 (try dsimp only[aj]);conv=>whnf
 refine aJ.of <| (aA.inv (.refl _ _) (fun x : Nat × List (List Int)=>x.1 <= t.nodes.length /\ sD t x.1 x.2) (fun x=>[(51,.int .i64 (x.1 : Int)),(7,.ms 2 0 (t.vars.toNat + x.1) (t.vars.toNat + t.nodes.length) 1)]) (fun x=>[(2,.arr 1 (t.vars.toNat + t.nodes.length) (x.2.map iA)),(1,.box t.av),(0,.box f.av)]) (fun x=>t.nodes.length - x.1) (0,(List.range t.vars.toNat).map fun i=>[((2 ^ i : Nat) : Int)]) ⟨Nat.zero_le _,⟨by simp,fun i hi=>?_,fun i h1 h2=>absurd h2 (Nat.not_lt_zero _),fun x hx=>?_⟩⟩ ?_ ?_ ?_)
 ·rw [List.getD_eq_getElem?_getD,List.getElem?_map,List.getElem?_range hi]; rfl
 ·obtain ⟨i,hi,rfl⟩:=List.mem_map.1 hx
  have hi:=List.mem_range.1 hi
  have : 2 ^ i <= 2 ^ 23:=Nat.pow_le_pow_right (by decide) (by omega)
  generalize 2 ^ i = z at *
  exact sZ (by omega)
 ·exact fun _=>rfl
 ·refine ⟨?_,.mk ?_ (by simp [ak])⟩
  ·all_goals exact wk
  ·all_goals exact wk
 rintro ⟨i,l⟩ ⟨hi,hl⟩ _
 dsimp only at hi hl
 have hll:=hl.len
 (try dsimp only[aj]);conv=>whnf
 refine And.intro (fun g=>?_) (fun g=>?_)
 ·have hlt : i < t.nodes.length:=by simpa using g
  have nk:=k3 i hlt
  have hkd:=hkind i hlt
  have hN : ∀ r,NT t.nodes[i] (t.nodes[i].args.map fun a=>l.getD a.toNat []) r -> sD t (i + 1) (l ++ [r]):=fun r hr=>hl.snoc k1.1 k3 hlt hr
  (try dsimp only[aj]);conv=>whnf
  refine iH hlt ?_
  generalize t.nodes[i] = x at *
  (try dsimp only[aj]);conv=>whnf
  have XC:=nk.num
  have Zk:=nk.args
  have hal : x.args.length <= 16:=by split at XC <;> (try split at XC) <;> omega
  refine aJ.of <| (aA.inv (.grow 11 1 [] .bH rfl (.inl ⟨rfl,rfl⟩) (.refl _ _)) (fun j : Nat=>j <= x.args.length) (fun j=>[(58,.int .i64 (j : Int)),(11,.sl 1 (((x.args.take j).map fun a=>l.getD a.toNat []).map iA) (.own 4))]) (fun j=>[(4,.tok 1 j),(3,.box x.av),(2,.arr 1 (t.vars.toNat + t.nodes.length) (l.map iA)),(1,.box t.av),(0,.box f.av)]) (fun j=>x.args.length - j) 0 (Nat.zero_le _) ?_ ?_ ?_)
  ·exact fun _=>rfl
  ·refine ⟨?_,.mk ?_ (by simp [ak])⟩
   ·all_goals exact wk
   ·all_goals exact wk
  intro j hj _
  (try dsimp only[aj]);conv=>whnf
  refine And.intro (fun g1=>?_) (fun g1=>?_)
  ·have hlj : j < x.args.length:=by simpa using g1
   have hs:=List.take_succ_eq_append_getElem hlj
   have haj:=Zk _ (List.getElem_mem hlj)
   (try dsimp only[aj]);conv=>whnf
   refine iH hlj ?_
   generalize x.args[j] = a at *
   (try dsimp only[aj]);conv=>whnf
   refine ⟨⟨by omega,by omega⟩,?_⟩
   (try dsimp only[aj]);conv=>whnf
   refine aO (i:=a.toNat) (by omega) (by omega) ⟨rfl,?_⟩
   (try dsimp only[aj]);conv=>whnf
   refine ⟨by simp; omega,.mk (by simp [maxL]; omega) (by simp; omega) ?_⟩
   (try dsimp only[aj]);conv=>whnf
   refine zA ?_;conv=>whnf
   refine ⟨j + 1,?_,?_,?_⟩
   ·exact hlj
   ·rw [hs,List.map_append,List.map_append]
    refine ⟨?_,.mk ?_ (by simp [ak])⟩
    ·repeat' first|exact rfl|exact trivial|exact wR|exact lR _|apply aI
     all_goals first | exact bF rfl | (simp; done) | skip
    ·repeat' first|exact rfl|exact trivial|exact wR|exact lR _|apply aI
     all_goals first | (simp; done) | (simp; omega) | skip
   ·omega
  have hj' : j = x.args.length:=by have : ¬ j < x.args.length:=by simpa using g1
                                   omega
  subst hj'
  rw [List.take_length]
  (try dsimp only[aj]);conv=>whnf
  have hargs : ∀ a,a ∈ (x.args.map fun a=>l.getD a.toNat []) -> bT a:=fun a ha=>by
   obtain ⟨y,hy,rfl⟩:=List.mem_map.1 ha
   have hyb:=Zk y hy
   rw [List.getD_eq_getElem?_getD,List.getElem?_eq_getElem (by omega)]
   exact hl.ok _ (List.getElem_mem (by omega))
  have hxk : x.kind = 0 \/ x.kind = 2 \/ x.kind = 3 \/ x.kind = 4:=by
   have:=nk.kind
   unfold kZ at hkd
   simp at hkd
   omega
  have hk4 : x.kind = 4 -> 1 <= x.k /\ x.k <= ((x.args.map fun a=>l.getD a.toNat []).length : Int):=fun e=>by
   have:=nk.k
   rw [if_neg (by omega),if_pos e] at this
   rw [List.length_map]; exact this
  refine .jf _ _ ?_ rfl (U9 x (x.args.map fun a=>l.getD a.toNat []) hargs (by rw [List.length_map]; exact hal) hxk hk4) fun R hq _=>?_
  ·all_goals exact wk
  obtain rfl | ⟨r,rfl,hr⟩:=hq
  ·(try dsimp only[aj]);conv=>whnf
   refine ⟨_,_,⟨rfl,rfl,.inl rfl⟩,?_⟩
   refine ⟨⟨_,_,.refl _ _,?_⟩⟩
   conv=>whnf
   refine ⟨?_,rfl,by simp [nextId],.mk ?_ (by simp [ak])⟩
   ·all_goals exact wk
   ·all_goals exact wk
  have hr':=hN r hr
  (try dsimp only[aj]);conv=>whnf
  refine ⟨⟨by simp; omega,by simp; omega,by simp; omega⟩,?_⟩
  (try dsimp only[aj]);conv=>whnf
  refine zA ?_;conv=>whnf
  refine ⟨(i + 1,l ++ [r]),⟨hlt,hr'⟩,?_,(by omega : t.nodes.length - (i + 1) < t.nodes.length - i)⟩
  refine ⟨?_,.mk ?_ (by simp [ak])⟩
  ·all_goals exact wk
  ·repeat' first|exact rfl|exact trivial|exact wR|exact lR _|apply aI
   all_goals exact xP (by omega) (by simp; omega) (kV _)
 ·have hk : i = t.nodes.length:=by have : ¬ i < t.nodes.length:=by simpa using g
                                   omega
  subst hk
  (try dsimp only[aj]);conv=>whnf
  refine ⟨⟨by omega,by omega⟩,?_⟩
  (try dsimp only[aj]);conv=>whnf
  refine aO (i:=t.top.toNat) (by omega) (by omega) ⟨rfl,?_⟩
  (try dsimp only[aj]);conv=>whnf
  have hm : bT (l.getD t.top.toNat []):=by
   rw [List.getD_eq_getElem?_getD,List.getElem?_eq_getElem (by omega)]
   exact hl.ok _ (List.getElem_mem (by omega))
  have hP:=hF _ ⟨l,hl,rfl⟩ hm
  rw [show l.getD t.top.toNat default = l.getD t.top.toNat [] from rfl]
  have hml:=hm.len
  generalize l.getD t.top.toNat [] = m at *
  refine .pure _ _ ?_ ⟨rfl,rfl⟩ (EW m (by omega)) fun _=>?_
  ·exact au _
  (try dsimp only[aj]);conv=>whnf
  refine ⟨_,_,⟨rfl,rfl,.inr ⟨m,rfl,hP⟩⟩,?_⟩
  refine ⟨⟨_,_,.refl _ _,?_⟩⟩
  conv=>whnf
  refine ⟨?_,rfl,by simp [nextId],.mk ?_ (by simp [ak])⟩
  ·all_goals exact wk
  ·all_goals exact wk

structure Rw where
 e : Nat
 b : Nat
 deriving DecidableEq

instance : Inhabited Rw:=⟨⟨0,0⟩⟩

abbrev Rw.av (r : Rw) : AV:=.ag [.int .i64 (r.e : Int),.ag [.int .u64 (r.b : Int),.int .u64 0]]

structure jJ (r : Rw) : Prop where
 e : r.e < 256
 b : r.b < 65536

theorem CW {a b : Nat} (ha : a < 2 ^ 63) : dF .andNot .u64 (a : Int) (b : Int) = (iC a b : Int):=by
 simp only [dF]
 show IntKind.wrap .u64 ((BitVec.ofInt 64 (a : Int) &&& ~~~ (BitVec.ofInt 64 (b : Int))).toNat : Int) = _
 rw [fD,fD]
 have:=AY (b:=b) ha
 exact wrap_u64 (by omega) (by unfold iC at this; omega)

theorem Qd {i : Nat} (hi : i < 63) : zh .u64 1 (i : Int) = ((2 ^ i : Nat) : Int):=by
 unfold zh
 have h1 : min (i : Int).toNat (IntKind.bits .u64) = i:=by show min i 64 = i; omega
 rw [h1,Int.one_mul]
 have h2 : 2 ^ i < 9223372036854775808:=Nat.lt_of_lt_of_le (Nat.pow_lt_pow_right (by omega) hi) (Nat.le_of_eq (by decide))
 have h3 : ((2 : Int) ^ i) = ((2 ^ i : Nat) : Int):=by simp
 rw [h3]
 generalize 2 ^ i = x at *
 exact wrap_u64 (by omega) (by omega)

theorem Qj {i : Nat} (hi : i < 64) : ((i : Int)).tdiv 64 = 0:=by rw [Int.tdiv_eq_ediv_of_nonneg (by omega)]; omega
theorem Qi {i : Nat} (hi : i < 64) : ((i : Int)).tmod 64 = (i : Int):=by rw [Int.tmod_eq_emod_of_nonneg (by omega)]; omega

theorem Vj {a b : Nat} : dF .and .u64 (a : Int) (b : Int) = ((a % 2 ^ 64 &&& b % 2 ^ 64 : Nat) : Int):=by
 simp only [dF]
 show IntKind.wrap .u64 ((BitVec.ofInt 64 (a : Int) &&& BitVec.ofInt 64 (b : Int)).toNat : Int) = _
 rw [fD,fD,BitVec.toNat_and,BitVec.toNat_ofNat,BitVec.toNat_ofNat]
 have : a % 2 ^ 64 &&& b % 2 ^ 64 <= a % 2 ^ 64:=Nat.and_le_left
 exact wrap_u64 (by omega) (by omega)

theorem Vh {a i : Nat} (ha : a < 2 ^ 63) (hi : i < 64) : dF .and .u64 (qK .u64 (a : Int) (i : Int)) 1 = if a.testBit i then 1 else 0:=by
 rw [vH hi]
 have hs : a / 2 ^ i <= a:=Nat.div_le_self _ _
 show dF .and .u64 _ ((1 : Nat) : Int) = _
 rw [Vj,Nat.mod_eq_of_lt (show a / 2 ^ i < 2 ^ 64 by omega)]
 rw [show 1 % 2 ^ 64 = 1 from rfl,Nat.and_one_is_mod,Nat.testBit_eq_decide_div_mod_eq]
 have h2:=Nat.mod_two_eq_zero_or_one (a / 2 ^ i)
 rcases h2 with h2 | h2 <;> simp [h2]

def bM (v : Nat) (r : Rw) (a : Int) : Rw:=if a < v then ⟨r.e ||| 2 ^ a.toNat,r.b⟩ else ⟨r.e,r.b ||| 2 ^ (a.toNat - v)⟩
def dP (r : Rw) (i : Nat) : Rw:=⟨r.e,iC r.b (2 ^ i)⟩
def nO (r s : Rw) : Bool:=decide (iC r.e s.e = 0) && decide (iC r.b s.b = 0)
def nI (r : Rw) : Int:=nD r.e + ones r.b + ones 0
def RD (r s : Rw) : Int:=nI r - nI s

theorem FH {v : Nat} {r : Rw} {a : Int} (h : jJ r) (hv : v <= 8) (ha : a < (v : Int) + 16) (h0 : 0 <= a) : jJ (bM v r a):=by
 obtain ⟨h1,h2⟩:=h
 unfold bM
 split
 ·have hp : 2 ^ a.toNat < 2 ^ 8:=Nat.pow_lt_pow_right (by decide) (by omega)
  exact ⟨Nat.or_lt_two_pow (n:=8) h1 hp,h2⟩
 ·have hp : 2 ^ (a.toNat - v) < 2 ^ 16:=Nat.pow_lt_pow_right (by decide) (by omega)
  exact ⟨h1,Nat.or_lt_two_pow (n:=16) h2 hp⟩

theorem Ah {r : Rw} {i : Nat} (h : jJ r) : jJ (dP r i):=by
 refine ⟨h.e,?_⟩
 have:=AY (a:=r.b) (b:=2 ^ i) (by have:=h.b; omega)
 have:=h.b
 show iC r.b (2 ^ i) < 65536
 omega

theorem X9 (r : Rw) (h : jJ r) (i : Nat) (hi : i < 16) : bJ Try.prog 38 [r.av,.int .i64 i] [] (.bool (r.b.testBit i)) []:=by
 have hb:=h.b
 refine bJ.intro lay mixed Try.func38 (by kernel_rfl) rfl (by kernel_rfl) rfl fun hok=>?_
 (try dsimp only[aU,aH]);(try dsimp only[aj]);conv=>whnf
 rw [Qj (by omega)]
 refine ⟨by decide,bP (by omega) (by omega),?_⟩
 (try dsimp only[aj]);conv=>whnf
 refine ⟨by omega,?_⟩
 (try dsimp only[aj]);conv=>whnf
 refine ⟨by decide,?_⟩
 rw [Qi (by omega)]
 (try dsimp only[aj]);conv=>whnf
 refine ⟨by omega,?_⟩
 (try dsimp only[aj]);conv=>whnf
 rw [Vh (by omega) (by omega)]
 (try dsimp only[aj]);conv=>whnf
 refine fM ?_;(conv=>whnf);refine ⟨?_,rfl⟩;conv=>whnf
 cases r.b.testBit i <;> simp

theorem Gz (f : Fo) (hv : 0 <= f.vars /\ f.vars <= 8) (r : Rw) (h : jJ r) (a : Int) (h0 : 0 <= a) (ha : a < f.vars + 16) : bJ Try.prog 36 [r.av,f.av,.int .i64 a] [] (bM f.vars.toNat r a).av []:=by
 have he:=h.e
 have hb:=h.b
 obtain ⟨k,rfl⟩ : ∃ k : Nat,a = k:=⟨a.toNat,by omega⟩
 refine bJ.intro lay mixed Try.func36 (by kernel_rfl) rfl (by kernel_rfl) rfl fun hok=>?_
 (try dsimp only[aU,aH]);(try dsimp only[aj]);conv=>whnf
 refine And.intro (fun g=>?_) (fun g=>?_)
 ·have hw : bM f.vars.toNat r k = ⟨r.e ||| 2 ^ k,r.b⟩:=if_pos (by omega)
  rw [hw]
  (try dsimp only[aj]);conv=>whnf
  refine bg.auto (by kernel_rfl) ?_;conv=>whnf
  refine ⟨by omega,?_⟩
  have hp : 2 ^ k < 2 ^ 8:=Nat.pow_lt_pow_right (by decide) (by omega)
  rw [sH (i:=k) (by omega)]
  conv=>whnf
  rw [Kw (by omega) (by omega)]
  (try dsimp only[aj]);conv=>whnf
  refine fM ?_;(conv=>whnf);refine ⟨?_,rfl⟩;conv=>whnf
  all_goals exact wk
 ·have hw : bM f.vars.toNat r k = ⟨r.e,r.b ||| 2 ^ (k - f.vars.toNat)⟩:=if_neg (by omega)
  rw [hw]
  (try dsimp only[aj]);conv=>whnf
  refine ⟨bP (by omega) (by omega),?_⟩
  rw [show (k : Int) - f.vars = ((k - f.vars.toNat : Nat) : Int) by omega]
  have hi : k - f.vars.toNat < 16:=by omega
  generalize k - f.vars.toNat = i at *
  (try dsimp only[aj]);conv=>whnf
  refine bg.auto (by kernel_rfl) ?_;conv=>whnf
  rw [Qj (by omega)]
  refine ⟨by decide,bP (by omega) (by omega),?_⟩
  conv=>whnf
  refine ⟨by omega,?_⟩
  conv=>whnf
  refine ⟨by decide,?_⟩
  rw [Qi (by omega)]
  conv=>whnf
  refine ⟨by omega,?_⟩
  have hp : 2 ^ i < 2 ^ 16:=Nat.pow_lt_pow_right (by decide) (by omega)
  rw [Qd (i:=i) (by omega)]
  conv=>whnf
  rw [V7 (by omega) (by omega)]
  conv=>whnf
  refine ⟨by omega,?_⟩
  conv=>whnf
  refine fM ?_;(conv=>whnf);refine ⟨?_,rfl⟩;conv=>whnf
  all_goals exact wk

theorem O9 (r : Rw) (h : jJ r) (i : Nat) (hi : i < 16) : bJ Try.prog 55 [r.av,.int .i64 i] [] (dP r i).av []:=by
 have hb:=h.b
 refine bJ.intro lay mixed Try.func55 (by kernel_rfl) rfl (by kernel_rfl) rfl fun hok=>?_
 (try dsimp only[aU,aH]);(try dsimp only[aj]);conv=>whnf
 refine bg.auto (by kernel_rfl) ?_;conv=>whnf
 rw [Qj (by omega)]
 refine ⟨by decide,bP (by omega) (by omega),?_⟩
 conv=>whnf
 refine ⟨by omega,?_⟩
 conv=>whnf
 refine ⟨by decide,?_⟩
 rw [Qi (by omega)]
 conv=>whnf
 refine ⟨by omega,?_⟩
 rw [Qd (i:=i) (by omega)]
 conv=>whnf
 rw [CW (by omega)]
 conv=>whnf
 refine ⟨by omega,?_⟩
 conv=>whnf
 refine fM ?_;(conv=>whnf);refine ⟨?_,rfl⟩;conv=>whnf
 all_goals exact wk

theorem U6 (r s : Rw) (h : jJ r) : bJ Try.prog 63 [r.av,s.av] [] (.bool (nO r s)) []:=by
 have he:=h.e
 have hb:=h.b
 have e : nO r s = (decide (iC r.e s.e = 0) && decide (iC r.b s.b = 0)):=rfl
 refine bJ.intro lay mixed Try.func63 (by kernel_rfl) rfl (by kernel_rfl) rfl fun hok=>?_
 (try dsimp only[aU,aH]);(try dsimp only[aj]);conv=>whnf
 rw [CX (by omega)]
 conv=>whnf
 refine And.intro (fun p=>?_) (fun p=>?_)
 ·have p : iC r.e s.e = 0:=by omega
  rw [e,p]
  (try dsimp only[aj]);conv=>whnf
  refine ⟨by omega,?_⟩
  (try dsimp only[aj]);conv=>whnf
  refine ⟨by omega,?_⟩
  (try dsimp only[aj]);conv=>whnf
  rw [CW (by omega)]
  (try dsimp only[aj]);conv=>whnf
  refine And.intro (fun q=>?_) (fun q=>?_)
  ·have q : iC r.b s.b = 0:=by omega
   rw [q]
   (try dsimp only[aj]);conv=>whnf
   refine ⟨by omega,?_⟩
   (try dsimp only[aj]);conv=>whnf
   refine ⟨by omega,?_⟩
   (try dsimp only[aj]);conv=>whnf
   refine fM ?_;(conv=>whnf);refine ⟨?_,rfl⟩;conv=>whnf
   exact ⟨fun _=>rfl,fun _=>by decide⟩
  ·have q : ¬ iC r.b s.b = 0:=by omega
   rw [show decide (iC r.b s.b = 0) = false from decide_eq_false q]
   (try dsimp only[aj]);conv=>whnf
   refine fM ?_;(conv=>whnf);refine ⟨?_,rfl⟩;conv=>whnf
   rfl
 ·have p : ¬ iC r.e s.e = 0:=by omega
  rw [e,show decide (iC r.e s.e = 0) = false from decide_eq_false p,Bool.false_and]
  (try dsimp only[aj]);conv=>whnf
  refine fM ?_;(conv=>whnf);refine ⟨?_,rfl⟩;conv=>whnf

theorem RN (r : Rw) : bJ Try.prog 60 [r.av] [] (.int .i64 (nI r)) []:=by
 have c1:=GV (r.e : Int)
 have c2:=CB (r.b : Int)
 have c3:=CB 0
 have r1:=jW (IntKind.u64.wrap (kX r.e))
 have r2:=jW (r.b : Int)
 have r3:=jW 0
 have e : nI r = nD r.e + ones r.b + ones 0:=rfl
 rw [show ones (IntKind.u64.wrap (kX r.e)) = nD r.e from rfl] at r1
 rw [e]
 generalize nD (r.e : Int) = x at *
 generalize ones (r.b : Int) = y at *
 generalize ones 0 = z at *
 refine bJ.intro lay mixed Try.func60 (by kernel_rfl) rfl (by kernel_rfl) rfl fun hok=>?_
 (try dsimp only[aU,aH]);(try dsimp only[aj]);conv=>whnf
 refine bg.auto (by kernel_rfl) ?_;conv=>whnf
 refine eu.pure _ _ ?_ ⟨rfl,rfl⟩ c1 ?_
 ·exact au _
 conv=>whnf
 refine ⟨by omega,?_⟩
 conv=>whnf
 refine eu.pure _ _ ?_ ⟨rfl,rfl⟩ c2 ?_
 ·exact au _
 conv=>whnf
 refine zA ?_;conv=>whnf
 refine ⟨by omega,?_⟩
 conv=>whnf
 refine eu.pure _ _ ?_ ⟨rfl,rfl⟩ c3 ?_
 ·exact au _
 conv=>whnf
 refine zA ?_;conv=>whnf
 refine fM ?_;(conv=>whnf);refine ⟨?_,rfl⟩;conv=>whnf
 all_goals exact wk

abbrev vw (cp : Nat) (l : List Rw) : Heap:=[(0,.arr 3 cp (l.map Rw.av))]

def PS (cf : Rw -> Rw -> Int) (g : Nat) : Prop:=∀ x y : Rw,bJ Try.prog g [x.av,y.av] [] (.int .i64 (cf x y)) []

theorem Lr {cf : Rw -> Rw -> Int} {g : Nat} (hcf : PS cf g) (n cp a b : Nat) (hN : n <= 4611686018427387904) (ha : a <= n) (hb : b <= n) (l : List Rw) (hl : l.length = n) :
  bJ Try.prog 90 [.ms 0 0 n cp 3,.int .i64 a,.int .i64 b,.fn g []] (vw cp l) (.dS []) (vw cp (qZ cf a b l)):=by
 refine bJ.intro lay mixed Try.func90 (by kernel_rfl) rfl (by kernel_rfl) rfl fun hok=>?_
 (try dsimp only[aU,aH]);(try dsimp only[aj]);conv=>whnf
 refine zA ?_;conv=>whnf
 refine aJ.of <| (aA.inv (.refl _ _) (fun k : Nat=>k <= b - (a + 1)) (fun k=>[(8,.int .i64 ((a + 1 + k : Nat) : Int))]) (fun k=>vw cp (tV cf a k l)) (fun k=>b - (a + 1) - k) 0 (Nat.zero_le _) ?_ ?_ ?_)
 ·exact fun _=>rfl
 ·refine ⟨?_,.mk ?_ (by simp [ak])⟩
  ·all_goals exact wk
  ·all_goals exact wk
 intro k hk _
 have hlk : (tV cf a k l).length = n:=by rw [(sU cf a l k (by omega)).length_eq,hl]
 generalize hm0 : tV cf a k l = m0 at *
 (try dsimp only[aj]);conv=>whnf
 refine And.intro (fun g1=>?_) (fun g1=>?_)
 ·have hib : a + 1 + k < b:=by omega
  have hstep : tV cf a (k + 1) l = Nw cf a (a + 1 + k) m0:=by rw [<- hm0]; rfl
  (try dsimp only[aj]);conv=>whnf
  refine aJ.of <| (aA.inv (.refl _ _) (fun x : Nat × List Rw=>x.1 <= a + 1 + k /\ x.2.length = n /\ Nw cf a x.1 x.2 = tV cf a (k + 1) l) (fun x=>[(9,.int .i64 (x.1 : Int))]) (fun x=>vw cp x.2) (fun x=>x.1) (a + 1 + k,m0) ?_ ?_ ?_ ?_)
  ·exact ⟨Nat.le_refl _,hlk,hstep.symm⟩
  ·exact fun _=>rfl
  ·refine ⟨?_,.mk ?_ (by simp [ak])⟩
   ·all_goals exact wk
   ·all_goals exact wk
  rintro ⟨j,m⟩ ⟨hj,hml,ru⟩ _
  dsimp only at hj hml ru ⊢
  (try dsimp only[aj]);conv=>whnf
  refine bg.auto (by kernel_rfl) ?_;conv=>whnf
  have hmj : j < m.length:=by omega
  refine And.intro (fun p=>?_) (fun p=>?_)
  ·have pj : a < j:=by omega
   obtain ⟨j,rfl⟩ : ∃ i,j = i + 1:=⟨j - 1,by omega⟩
   conv=>whnf
   refine ⟨by omega,?_⟩
   conv=>whnf
   refine aO (i:=j + 1) rfl (by omega) ⟨rfl,?_⟩
   conv=>whnf
   refine zA ?_;conv=>whnf
   refine ⟨by omega,?_⟩
   conv=>whnf
   refine aO (i:=j) (by omega) (by omega) ⟨rfl,?_⟩
   conv=>whnf
   refine eu.pure _ _ ?_ ⟨rfl,rfl⟩ (hcf (m.getD (j + 1) default) (m.getD j default)) ?_
   ·exact au _
   (try dsimp only[aj]);conv=>whnf
   refine And.intro (fun p2=>?_) (fun p2=>?_)
   ·rw [Nw,if_pos ⟨by omega,p2⟩] at ru
    (try dsimp only[aj]);conv=>whnf
    refine bg.auto (by kernel_rfl) ?_;conv=>whnf
    refine zA ?_;conv=>whnf
    refine zA ?_;conv=>whnf
    refine ⟨by omega,?_⟩
    conv=>whnf
    refine aO (i:=j) (by omega) (by omega) ⟨rfl,?_⟩
    conv=>whnf
    refine ⟨by omega,?_⟩
    conv=>whnf
    refine aO (i:=j + 1) rfl (by omega) ⟨rfl,?_⟩
    conv=>whnf
    refine ⟨by omega,?_⟩
    conv=>whnf
    refine ⟨by simp; omega,rfl,?_⟩
    conv=>whnf
    refine ⟨by omega,?_⟩
    conv=>whnf
    refine ⟨by simp; omega,rfl,?_⟩
    (try dsimp only[aj]);conv=>whnf
    refine zA ?_;conv=>whnf
    refine ⟨(j,swp m (j + 1) j),?_,?_,?_⟩
    ·exact ⟨by omega,by rw [zJ]; exact hml,ru⟩
    ·refine ⟨?_,.mk ?_ (by simp [ak])⟩
     ·repeat' first|exact rfl|exact trivial|exact wR|exact lR _|apply aI
      all_goals first | omega | skip
     ·repeat' first|exact rfl|exact trivial|exact wR|exact lR _|apply aI
      all_goals (refine bF ?_; exact fH rfl (by omega))
    ·exact Nat.lt_succ_self j
   ·rw [Nw,if_neg (fun h=>p2 h.2)] at ru
    (try dsimp only[aj]);conv=>whnf
    refine zA ?_;conv=>whnf
    refine ⟨k + 1,?_,?_,?_⟩
    ·show k + 1 <= b - (a + 1)
     omega
    ·rw [<- ru]
     refine ⟨?_,.mk ?_ (by simp [ak])⟩
     ·repeat' first|exact rfl|exact trivial|exact wR|exact lR _|apply aI
      all_goals first | omega | skip
     ·all_goals exact wk
    ·show b - (a + 1) - (k + 1) < b - (a + 1) - k
     omega
  ·have ru : m = tV cf a (k + 1) l:=by
    rw [<- ru]
    cases j with
    | zero=>rfl
    | succ j=>rw [Nw,if_neg (fun h=>p (by omega))]
   (try dsimp only[aj]);conv=>whnf
   refine zA ?_;conv=>whnf
   refine ⟨k + 1,?_,?_,?_⟩
   ·show k + 1 <= b - (a + 1)
    omega
   ·rw [<- ru]
    refine ⟨?_,.mk ?_ (by simp [ak])⟩
    ·repeat' first|exact rfl|exact trivial|exact wR|exact lR _|apply aI
     all_goals first | omega | skip
    ·all_goals exact wk
   ·show b - (a + 1) - (k + 1) < b - (a + 1) - k
    omega
 ·have hk' : k = b - (a + 1):=by omega
  subst hk'
  rw [show qZ cf a b l = m0 from hm0]
  (try dsimp only[aj]);conv=>whnf
  refine ⟨⟨_,_,.refl _ _,?_⟩⟩
  conv=>whnf
  refine ⟨?_,rfl,by simp [nextId],.mk ?_ (by simp [ak])⟩
  ·all_goals exact wk
  ·all_goals exact wk
theorem W9 : PS RD 59:=by
 intro x y
 have c1:=RN x
 have c2:=RN y
 have r1 : 0 <= nI x /\ nI x <= 381:=by
  have h1:=jW (IntKind.u64.wrap (kX x.e))
  have h2:=jW (x.b : Int)
  have h3:=jW 0
  unfold nI nD
  omega
 have r2 : 0 <= nI y /\ nI y <= 381:=by
  have h1:=jW (IntKind.u64.wrap (kX y.e))
  have h2:=jW (y.b : Int)
  have h3:=jW 0
  unfold nI nD
  omega
 have e : RD x y = nI x - nI y:=rfl
 rw [e]
 generalize nI x = u at *
 generalize nI y = v at *
 refine bJ.intro lay mixed Try.func59 (by kernel_rfl) rfl (by kernel_rfl) rfl fun hok=>?_
 (try dsimp only[aU,aH]);(try dsimp only[aj]);conv=>whnf
 refine bg.auto (by kernel_rfl) ?_;conv=>whnf
 refine eu.pure _ _ ?_ ⟨rfl,rfl⟩ c1 ?_
 ·exact au _
 conv=>whnf
 refine eu.pure _ _ ?_ ⟨rfl,rfl⟩ c2 ?_
 ·exact au _
 conv=>whnf
 refine zA ?_;conv=>whnf
 refine fM ?_;(conv=>whnf);refine ⟨?_,rfl⟩;conv=>whnf
 all_goals exact wk

def NR (cp : Nat) (l : List Rw) : AV -> Heap -> Prop:=fun R H'=>R = .dS [] /\ ∃ l',List.Perm l' l /\ H' = vw cp l'

theorem GH {g : Nat} (n cp a b k : Nat) (hN : n <= 1000000) (ha : a + k <= n) (hb : b + k <= n) (l : List Rw) (hl : l.length = n) :
  dK Try.prog 98 [.ms 0 0 n cp 3,.int .i64 a,.int .i64 b,.int .i64 k,.fn g []] (vw cp l) (NR cp l):=by
 refine dK.intro lay mixed Try.func98 (by kernel_rfl) rfl (by kernel_rfl) rfl fun hok=>?_
 (try dsimp only[aU,aH]);(try dsimp only[aj]);conv=>whnf
 refine aJ.of <| (aA.inv (.refl _ _) (fun x : Nat × List Rw=>x.1 <= k /\ List.Perm x.2 l) (fun x=>[(10,.int .i64 (x.1 : Int))]) (fun x=>vw cp x.2) (fun x=>k - x.1) (0,l) ⟨Nat.zero_le _,.refl _⟩ ?_ ?_ ?_)
 ·exact fun _=>rfl
 ·refine ⟨?_,.mk ?_ (by simp [ak])⟩
  ·all_goals exact wk
  ·all_goals exact wk
 rintro ⟨i,m⟩ ⟨hi,hp⟩ _
 dsimp only at hi hp ⊢
 have hml : m.length = n:=by rw [hp.length_eq,hl]
 (try dsimp only[aj]);conv=>whnf
 refine And.intro (fun p=>?_) (fun p=>?_)
 ·have hik : i < k:=by omega
  (try dsimp only[aj]);conv=>whnf
  refine bg.auto (by kernel_rfl) ?_;conv=>whnf
  refine zA ?_;conv=>whnf
  refine zA ?_;conv=>whnf
  refine zA ?_;conv=>whnf
  refine ⟨by omega,?_⟩
  conv=>whnf
  refine aO (i:=b + i) (by omega) (by omega) ⟨rfl,?_⟩
  conv=>whnf
  refine zA ?_;conv=>whnf
  refine ⟨by omega,?_⟩
  conv=>whnf
  refine aO (i:=a + i) (by omega) (by omega) ⟨rfl,?_⟩
  conv=>whnf
  refine ⟨by omega,?_⟩
  conv=>whnf
  refine ⟨by simp; omega,rfl,?_⟩
  conv=>whnf
  refine ⟨by omega,?_⟩
  conv=>whnf
  refine ⟨by simp; omega,rfl,?_⟩
  conv=>whnf
  refine zA ?_;conv=>whnf
  refine ⟨(i + 1,swp m (a + i) (b + i)),⟨by omega,(dX (by omega) (by omega)).trans hp⟩,?_,(by omega : k - (i + 1) < k - i)⟩
  refine ⟨?_,.mk ?_ (by simp [ak])⟩
  ·all_goals exact wk
  ·repeat' first|exact rfl|exact trivial|exact wR|exact lR _|apply aI
   all_goals (refine bF ?_; exact fH (by omega) (by omega))
 ·(try dsimp only[aj]);conv=>whnf
  refine ⟨_,_,⟨rfl,m,hp,rfl⟩,?_⟩
  refine ⟨⟨_,_,.refl _ _,?_⟩⟩
  conv=>whnf
  refine ⟨?_,rfl,by simp [nextId],.mk ?_ (by simp [ak])⟩
  ·all_goals exact wk
  ·all_goals exact wk

theorem WO {g : Nat} (n cp a c b : Nat) (hN : n <= 1000000) (hac : a < c) (hcb : c < b) (hb : b <= n) (l : List Rw) (hl : l.length = n) :
  dK Try.prog 96 [.ms 0 0 n cp 3,.int .i64 a,.int .i64 c,.int .i64 b,.fn g []] (vw cp l) (NR cp l):=by
 refine dK.intro lay mixed Try.func96 (by kernel_rfl) rfl (by kernel_rfl) rfl fun hok=>?_
 (try dsimp only[aU,aH]);(try dsimp only[aj]);conv=>whnf
 refine zA ?_;conv=>whnf
 refine zA ?_;conv=>whnf
 refine aJ.of <| (aA.inv (.refl _ _) (fun x : Nat × Nat × List Rw=>((1 <= x.1 /\ x.1 <= c) /\ 1 <= x.2.1 /\ c + x.2.1 <= n) /\ List.Perm x.2.2 l) (fun x=>[(10,.int .i64 (x.1 : Int)),(11,.int .i64 (x.2.1 : Int))]) (fun x=>vw cp x.2.2) (fun x=>x.1 + x.2.1) (c - a,b - c,l) ⟨by dsimp only; omega,.refl _⟩ ?_ ?_ ?_)
 ·exact fun _=>rfl
 ·refine ⟨?_,.mk ?_ (by simp [ak])⟩
  ·repeat' first|exact rfl|exact trivial|exact wR|exact lR _|apply aI
   all_goals (dsimp only; omega)
  ·all_goals exact wk
 rintro ⟨i,j,m⟩ ⟨⟨hi,hj⟩,hp⟩ _
 dsimp only at hi hj hp ⊢
 have hml : m.length = n:=by rw [hp.length_eq,hl]
 (try dsimp only[aj]);conv=>whnf
 refine And.intro (fun p=>?_) (fun p=>?_)
 ·have hne : i ≠ j:=by omega
  (try dsimp only[aj]);conv=>whnf
  refine And.intro (fun q=>?_) (fun q=>?_)
  ·(try dsimp only[aj]);conv=>whnf
   refine zA ?_;conv=>whnf
   rw [show (c : Int) - (i : Int) = ((c - i : Nat) : Int) by omega]
   refine .rel _ (GH n cp (c - i) c j hN (by omega) (by omega) m hml) fun R H' hq _=>?_
   obtain ⟨rfl,m2,hp2,rfl⟩:=hq
   (try dsimp only[aj]);conv=>whnf
   refine zA ?_;conv=>whnf
   refine ⟨(i - j,j,m2),⟨by dsimp only; omega,hp2.trans hp⟩,?_,(by omega : i - j + j < i + j)⟩
   refine ⟨?_,.mk ?_ (by simp [ak])⟩
   ·repeat' first|exact rfl|exact trivial|exact wR|exact lR _|apply aI
    all_goals (dsimp only; omega)
   ·all_goals exact wk
  ·(try dsimp only[aj]);conv=>whnf
   refine zA ?_;conv=>whnf
   refine zA ?_;conv=>whnf
   refine zA ?_;conv=>whnf
   rw [show (c : Int) - (i : Int) = ((c - i : Nat) : Int) by omega,show (c : Int) + (j : Int) - (i : Int) = ((c + j - i : Nat) : Int) by omega]
   refine .rel _ (GH n cp (c - i) (c + j - i) i hN (by omega) (by omega) m hml) fun R H' hq _=>?_
   obtain ⟨rfl,m2,hp2,rfl⟩:=hq
   (try dsimp only[aj]);conv=>whnf
   refine zA ?_;conv=>whnf
   refine ⟨(i,j - i,m2),⟨by dsimp only; omega,hp2.trans hp⟩,?_,(by omega : i + (j - i) < i + j)⟩
   refine ⟨?_,.mk ?_ (by simp [ak])⟩
   ·repeat' first|exact rfl|exact trivial|exact wR|exact lR _|apply aI
    all_goals (dsimp only; omega)
   ·all_goals exact wk
 ·have hne : i = j:=by omega
  (try dsimp only[aj]);conv=>whnf
  refine zA ?_;conv=>whnf
  rw [show (c : Int) - (i : Int) = ((c - i : Nat) : Int) by omega]
  refine .rel _ (GH n cp (c - i) c i hN (by omega) (by omega) m hml) fun R H' hq _=>?_
  obtain ⟨rfl,m2,hp2,rfl⟩:=hq
  (try dsimp only[aj]);conv=>whnf
  refine ⟨_,_,⟨rfl,m2,hp2.trans hp,rfl⟩,?_⟩
  refine ⟨⟨_,_,.refl _ _,?_⟩⟩
  conv=>whnf
  refine ⟨?_,rfl,by simp [nextId],.mk ?_ (by simp [ak])⟩
  ·all_goals exact wk
  ·all_goals exact wk

theorem Un {x : Nat} (hx : x < 4611686018427387904) : IntKind.i64.wrap (qK .u64 (IntKind.u64.wrap (x : Int)) 1) = ((x / 2 : Nat) : Int):=by
 rw [Eb (by omega)]
 have h:=vH (a:=x) (n:=1) (by omega)
 rw [show ((1 : Nat) : Int) = 1 from rfl] at h
 rw [h,Nat.pow_one]
 exact wrap64 (by omega) (by omega)

set_option maxHeartbeats 4000000 in
theorem Lj {cf : Rw -> Rw -> Int} {g : Nat} (hcf : PS cf g) (n cp : Nat) (hN : n <= 1000000) : ∀ (d a c b : Nat) (l : List Rw),l.length = n -> a < c -> c < b -> b <= n -> b - a <= d ->
  dK Try.prog 91 [.ms 0 0 n cp 3,.int .i64 a,.int .i64 c,.int .i64 b,.fn g []] (vw cp l) (NR cp l)
 | 0,a,c,b,l,hl,hac,hcb,hb,hd=>by omega
 | d + 1,a,c,b,l,hl,hac,hcb,hb,hd=>by
   have ih:=Lj hcf n cp hN d
   refine dK.mQ (.r 5 (.j .n (.r 3 (.j .n (.j .n .n))))) lay mixed Try.func91 (by kernel_rfl) rfl (by kernel_rfl) rfl fun hok=>?_
   (try dsimp only[aU,aH]);(try dsimp only[aj]);conv=>whnf
   rw [show (c : Int) - (a : Int) = ((c - a : Nat) : Int) by omega]
   refine ⟨bP (by omega) (by omega),?_⟩
   (try dsimp only[aj]);conv=>whnf
   refine And.intro (fun p=>?_) (fun p=>?_)
   ·have hc1 : c = a + 1:=by omega
    (try dsimp only[aj]);conv=>whnf
    refine aJ.of <| (aA.inv (.refl _ _) (fun x : Nat × Nat=>c <= x.1 /\ x.1 <= x.2 /\ x.2 <= b) (fun x=>[(10,.int .i64 (x.1 : Int)),(11,.int .i64 (x.2 : Int))]) (fun _=>vw cp l) (fun x=>x.2 - x.1) (c,b) ⟨Nat.le_refl _,by dsimp only; omega,Nat.le_refl _⟩ ?_ ?_ ?_)
    ·exact fun _=>rfl
    ·refine ⟨?_,.mk ?_ (by simp [ak])⟩
     ·all_goals exact wk
     ·all_goals exact wk
    rintro ⟨i,j⟩ ⟨h1,h2,h3⟩ _
    dsimp only at h1 h2 h3 ⊢
    (try dsimp only[aj]);conv=>whnf
    refine And.intro (fun q=>?_) (fun q=>?_)
    ·have hij : i < j:=by omega
     (try dsimp only[aj]);conv=>whnf
     refine zA ?_;conv=>whnf
     rw [show ((i : Nat) : Int) + ((j : Nat) : Int) = ((i + j : Nat) : Int) by omega]
     refine ⟨by decide,?_⟩
     (try dsimp only[aj]);conv=>whnf
     rw [Un (by omega)]
     obtain ⟨h,hh⟩ : ∃ h,h = (i + j) / 2:=⟨_,rfl⟩
     rw [<- hh]
     have hh1 : i <= h /\ h < j:=by omega
     refine bg.auto (by kernel_rfl) ?_;conv=>whnf
     refine ⟨by omega,?_⟩
     conv=>whnf
     refine aO (i:=h) (by omega) (by omega) ⟨rfl,?_⟩
     conv=>whnf
     refine ⟨by omega,?_⟩
     conv=>whnf
     refine aO (i:=a) (by omega) (by omega) ⟨rfl,?_⟩
     conv=>whnf
     refine eu.pure _ _ ?_ ⟨rfl,rfl⟩ (hcf (List.getD l (h) default) (List.getD l (a) default)) ?_
     ·exact au _
     (try dsimp only[aj]);conv=>whnf
     refine And.intro (fun z=>?_) (fun z=>?_)
     ·(try dsimp only[aj]);conv=>whnf
      refine zA ?_;conv=>whnf
      refine ⟨(h + 1,j),by dsimp only; omega,?_,by dsimp only; omega⟩
      refine ⟨?_,.mk ?_ (by simp [ak])⟩
      ·repeat' first|exact rfl|exact trivial|exact wR|exact lR _|apply aI
       all_goals first | omega | skip
      ·all_goals exact wk
     ·(try dsimp only[aj]);conv=>whnf
      refine ⟨(i,h),by dsimp only; omega,?_,by dsimp only; omega⟩
      refine ⟨?_,.mk ?_ (by simp [ak])⟩
      ·repeat' first|exact rfl|exact trivial|exact wR|exact lR _|apply aI
       all_goals first | omega | skip
      ·all_goals exact wk
    ·(try dsimp only[aj]);conv=>whnf
     refine aJ.of <| (aA.inv (.refl _ _) (fun x : Nat × List Rw=>a <= x.1 /\ List.Perm x.2 l) (fun x=>[(13,.int .i64 (x.1 : Int))]) (fun x=>vw cp x.2) (fun x=>i - x.1) (a,l) ⟨Nat.le_refl _,.refl _⟩ ?_ ?_ ?_)
     ·exact fun _=>rfl
     ·refine ⟨?_,.mk ?_ (by simp [ak])⟩
      ·all_goals exact wk
      ·all_goals exact wk
     rintro ⟨k,m⟩ ⟨hk,hp⟩ _
     dsimp only at hk hp ⊢
     have hml : m.length = n:=by rw [hp.length_eq,hl]
     (try dsimp only[aj]);conv=>whnf
     refine zA ?_;conv=>whnf
     refine And.intro (fun z=>?_) (fun z=>?_)
     ·have hki : k + 1 < i:=by omega
      (try dsimp only[aj]);conv=>whnf
      refine bg.auto (by kernel_rfl) ?_;conv=>whnf
      refine zA ?_;conv=>whnf
      refine zA ?_;conv=>whnf
      refine ⟨by omega,?_⟩
      conv=>whnf
      refine aO (i:=k + 1) (by omega) (by omega) ⟨rfl,?_⟩
      conv=>whnf
      refine ⟨by omega,?_⟩
      conv=>whnf
      refine aO (i:=k) (by omega) (by omega) ⟨rfl,?_⟩
      conv=>whnf
      refine ⟨by omega,?_⟩
      conv=>whnf
      refine ⟨by simp; omega,rfl,?_⟩
      conv=>whnf
      refine ⟨by omega,?_⟩
      conv=>whnf
      refine ⟨by simp; omega,rfl,?_⟩
      conv=>whnf
      refine zA ?_;conv=>whnf
      refine ⟨(k + 1,swp m (k) (k + 1)),⟨by omega,(dX (by omega) (by omega)).trans hp⟩,?_,by dsimp only; omega⟩
      refine ⟨?_,.mk ?_ (by simp [ak])⟩
      ·repeat' first|exact rfl|exact trivial|exact wR|exact lR _|apply aI
       all_goals first | omega | skip
      ·repeat' first|exact rfl|exact trivial|exact wR|exact lR _|apply aI
       all_goals (refine bF ?_; exact fH (by omega) (by omega))
     ·(try dsimp only[aj]);conv=>whnf
      refine ⟨_,_,⟨rfl,m,hp,rfl⟩,?_⟩
      refine ⟨⟨_,_,.refl _ _,?_⟩⟩
      conv=>whnf
      refine ⟨?_,rfl,by simp [nextId],.mk ?_ (by simp [ak])⟩
      ·all_goals exact wk
      ·all_goals exact wk
   (try dsimp only[aj]);conv=>whnf
   rw [show (b : Int) - (c : Int) = ((b - c : Nat) : Int) by omega]
   refine ⟨bP (by omega) (by omega),?_⟩
   (try dsimp only[aj]);conv=>whnf
   refine And.intro (fun p2=>?_) (fun p2=>?_)
   ·have hc1 : b = c + 1:=by omega
    (try dsimp only[aj]);conv=>whnf
    refine aJ.of <| (aA.inv (.refl _ _) (fun x : Nat × Nat=>a <= x.1 /\ x.1 <= x.2 /\ x.2 <= c) (fun x=>[(14,.int .i64 (x.1 : Int)),(15,.int .i64 (x.2 : Int))]) (fun _=>vw cp l) (fun x=>x.2 - x.1) (a,c) ⟨Nat.le_refl _,by dsimp only; omega,Nat.le_refl _⟩ ?_ ?_ ?_)
    ·exact fun _=>rfl
    ·refine ⟨?_,.mk ?_ (by simp [ak])⟩
     ·all_goals exact wk
     ·all_goals exact wk
    rintro ⟨i,j⟩ ⟨h1,h2,h3⟩ _
    dsimp only at h1 h2 h3 ⊢
    (try dsimp only[aj]);conv=>whnf
    refine And.intro (fun q=>?_) (fun q=>?_)
    ·have hij : i < j:=by omega
     (try dsimp only[aj]);conv=>whnf
     refine zA ?_;conv=>whnf
     rw [show ((i : Nat) : Int) + ((j : Nat) : Int) = ((i + j : Nat) : Int) by omega]
     refine ⟨by decide,?_⟩
     (try dsimp only[aj]);conv=>whnf
     rw [Un (by omega)]
     obtain ⟨h,hh⟩ : ∃ h,h = (i + j) / 2:=⟨_,rfl⟩
     rw [<- hh]
     have hh1 : i <= h /\ h < j:=by omega
     refine bg.auto (by kernel_rfl) ?_;conv=>whnf
     refine ⟨by omega,?_⟩
     conv=>whnf
     refine aO (i:=c) (by omega) (by omega) ⟨rfl,?_⟩
     conv=>whnf
     refine ⟨by omega,?_⟩
     conv=>whnf
     refine aO (i:=h) (by omega) (by omega) ⟨rfl,?_⟩
     conv=>whnf
     refine eu.pure _ _ ?_ ⟨rfl,rfl⟩ (hcf (List.getD l (c) default) (List.getD l (h) default)) ?_
     ·exact au _
     (try dsimp only[aj]);conv=>whnf
     refine And.intro (fun z=>?_) (fun z=>?_)
     ·(try dsimp only[aj]);conv=>whnf
      refine zA ?_;conv=>whnf
      refine ⟨(h + 1,j),by dsimp only; omega,?_,by dsimp only; omega⟩
      refine ⟨?_,.mk ?_ (by simp [ak])⟩
      ·repeat' first|exact rfl|exact trivial|exact wR|exact lR _|apply aI
       all_goals first | omega | skip
      ·all_goals exact wk
     ·(try dsimp only[aj]);conv=>whnf
      refine ⟨(i,h),by dsimp only; omega,?_,by dsimp only; omega⟩
      refine ⟨?_,.mk ?_ (by simp [ak])⟩
      ·repeat' first|exact rfl|exact trivial|exact wR|exact lR _|apply aI
       all_goals first | omega | skip
      ·all_goals exact wk
    ·(try dsimp only[aj]);conv=>whnf
     refine aJ.of <| (aA.inv (.refl _ _) (fun x : Nat × List Rw=>(i <= x.1 /\ x.1 <= c) /\ List.Perm x.2 l) (fun x=>[(17,.int .i64 (x.1 : Int))]) (fun x=>vw cp x.2) (fun x=>x.1 - i) (c,l) ⟨by dsimp only; omega,.refl _⟩ ?_ ?_ ?_)
     ·exact fun _=>rfl
     ·refine ⟨?_,.mk ?_ (by simp [ak])⟩
      ·all_goals exact wk
      ·all_goals exact wk
     rintro ⟨k,m⟩ ⟨hk,hp⟩ _
     dsimp only at hk hp ⊢
     have hml : m.length = n:=by rw [hp.length_eq,hl]
     (try dsimp only[aj]);conv=>whnf
     refine And.intro (fun z=>?_) (fun z=>?_)
     ·have hki : i < k:=by omega
      (try dsimp only[aj]);conv=>whnf
      refine bg.auto (by kernel_rfl) ?_;conv=>whnf
      refine zA ?_;conv=>whnf
      refine zA ?_;conv=>whnf
      refine ⟨by omega,?_⟩
      conv=>whnf
      refine aO (i:=k - 1) (by omega) (by omega) ⟨rfl,?_⟩
      conv=>whnf
      refine ⟨by omega,?_⟩
      conv=>whnf
      refine aO (i:=k) (by omega) (by omega) ⟨rfl,?_⟩
      conv=>whnf
      refine ⟨by omega,?_⟩
      conv=>whnf
      refine ⟨by simp; omega,rfl,?_⟩
      conv=>whnf
      refine ⟨by omega,?_⟩
      conv=>whnf
      refine ⟨by simp; omega,rfl,?_⟩
      conv=>whnf
      refine zA ?_;conv=>whnf
      refine ⟨(k - 1,swp m (k) (k - 1)),⟨by omega,(dX (by omega) (by omega)).trans hp⟩,?_,by dsimp only; omega⟩
      refine ⟨?_,.mk ?_ (by simp [ak])⟩
      ·repeat' first|exact rfl|exact trivial|exact wR|exact lR _|apply aI
       all_goals first | omega | skip
      ·repeat' first|exact rfl|exact trivial|exact wR|exact lR _|apply aI
       all_goals (refine bF ?_; exact fH (by omega) (by omega))
     ·(try dsimp only[aj]);conv=>whnf
      refine ⟨_,_,⟨rfl,m,hp,rfl⟩,?_⟩
      refine ⟨⟨_,_,.refl _ _,?_⟩⟩
      conv=>whnf
      refine ⟨?_,rfl,by simp [nextId],.mk ?_ (by simp [ak])⟩
      ·all_goals exact wk
      ·all_goals exact wk
   (try dsimp only[aj]);conv=>whnf
   refine zA ?_;conv=>whnf
   rw [show ((a : Nat) : Int) + ((b : Nat) : Int) = ((a + b : Nat) : Int) by omega]
   refine ⟨by decide,?_⟩
   (try dsimp only[aj]);conv=>whnf
   rw [Un (by omega)]
   obtain ⟨M,hM⟩ : ∃ M,M = (a + b) / 2:=⟨_,rfl⟩
   rw [<- hM]
   refine zA ?_;conv=>whnf
   rw [show (M : Int) + (c : Int) = ((M + c : Nat) : Int) by omega]
   (try dsimp only[aj]);conv=>whnf
   obtain ⟨lo,hi,hlh⟩ : ∃ lo hi : Nat,(M < c /\ lo + b = M + c /\ hi = M) \/ (c <= M /\ lo = a /\ hi = c):=by
    rcases Nat.lt_or_ge M c with h | h
    ·exact ⟨M + c - b,M,.inl ⟨h,by omega,rfl⟩⟩
    ·exact ⟨a,c,.inr ⟨h,rfl,rfl⟩⟩
   refine ⟨⟨Unit,fun _=>[(0,.ms 0 0 n cp 3),(1,.int .i64 (a : Int)),(2,.int .i64 (c : Int)),(3,.int .i64 (b : Int)),(4,.fn g []),(18,.int .i64 (M : Int)),(19,.int .i64 ((M + c : Nat) : Int)),(20,.int .i64 (lo : Int)),(21,.int .i64 (hi : Int))],fun _=>vw cp l,?_,?_⟩⟩
   ·(try dsimp only[aj]);conv=>whnf
    refine And.intro (fun q=>?_) (fun q=>?_)
    ·(try dsimp only[aj]);conv=>whnf
     refine zA ?_;conv=>whnf
     refine ⟨(),by simp [nextId],?_,.mk ?_ (by simp [ak])⟩
     ·repeat' first|exact rfl|exact trivial|exact wR|exact lR _|apply aI
      all_goals first | omega | skip
     ·all_goals exact wk
    ·(try dsimp only[aj]);conv=>whnf
     refine ⟨(),by simp [nextId],?_,.mk ?_ (by simp [ak])⟩
     ·repeat' first|exact rfl|exact trivial|exact wR|exact lR _|apply aI
      all_goals first | omega | skip
     ·all_goals exact wk
   rintro ⟨⟩ _
   (try dsimp only[aj]);conv=>whnf
   refine zA ?_;conv=>whnf
   refine aJ.of <| (aA.inv (.refl _ _) (fun x : Nat × Nat=>lo <= x.1 /\ x.1 <= x.2 /\ x.2 <= hi) (fun x=>[(20,.int .i64 (x.1 : Int)),(21,.int .i64 (x.2 : Int))]) (fun _=>vw cp l) (fun x=>x.2 - x.1) (lo,hi) ⟨Nat.le_refl _,by dsimp only; omega,Nat.le_refl _⟩ ?_ ?_ ?_)
   ·exact fun _=>rfl
   ·refine ⟨?_,.mk ?_ (by simp [ak])⟩
    ·all_goals exact wk
    ·all_goals exact wk
   rintro ⟨i,j⟩ ⟨h1,h2,h3⟩ _
   dsimp only at h1 h2 h3 ⊢
   (try dsimp only[aj]);conv=>whnf
   refine And.intro (fun q=>?_) (fun q=>?_)
   ·have hij : i < j:=by omega
    (try dsimp only[aj]);conv=>whnf
    refine zA ?_;conv=>whnf
    rw [show ((i : Nat) : Int) + ((j : Nat) : Int) = ((i + j : Nat) : Int) by omega]
    refine ⟨by decide,?_⟩
    (try dsimp only[aj]);conv=>whnf
    rw [Un (by omega)]
    obtain ⟨h,hh⟩ : ∃ h,h = (i + j) / 2:=⟨_,rfl⟩
    rw [<- hh]
    have hh1 : i <= h /\ h < j:=by omega
    refine bg.auto (by kernel_rfl) ?_;conv=>whnf
    refine zA ?_;conv=>whnf
    refine ⟨by omega,?_⟩
    conv=>whnf
    refine aO (i:=M + c - 1 - h) (by omega) (by omega) ⟨rfl,?_⟩
    conv=>whnf
    refine ⟨by omega,?_⟩
    conv=>whnf
    refine aO (i:=h) (by omega) (by omega) ⟨rfl,?_⟩
    conv=>whnf
    refine eu.pure _ _ ?_ ⟨rfl,rfl⟩ (hcf (List.getD l (M + c - 1 - h) default) (List.getD l (h) default)) ?_
    ·exact au _
    (try dsimp only[aj]);conv=>whnf
    refine And.intro (fun z=>?_) (fun z=>?_)
    ·(try dsimp only[aj]);conv=>whnf
     refine zA ?_;conv=>whnf
     refine ⟨(h + 1,j),by dsimp only; omega,?_,by dsimp only; omega⟩
     refine ⟨?_,.mk ?_ (by simp [ak])⟩
     ·repeat' first|exact rfl|exact trivial|exact wR|exact lR _|apply aI
      all_goals first | omega | skip
     ·all_goals exact wk
    ·(try dsimp only[aj]);conv=>whnf
     refine ⟨(i,h),by dsimp only; omega,?_,by dsimp only; omega⟩
     refine ⟨?_,.mk ?_ (by simp [ak])⟩
     ·repeat' first|exact rfl|exact trivial|exact wR|exact lR _|apply aI
      all_goals first | omega | skip
     ·all_goals exact wk
   (try dsimp only[aj]);conv=>whnf
   refine zA ?_;conv=>whnf
   rw [show ((M + c : Nat) : Int) - (i : Int) = ((M + c - i : Nat) : Int) by omega]
   (try dsimp only[aj]);conv=>whnf
   refine ⟨⟨{x : List Rw // List.Perm x l},fun _=>[(0,.ms 0 0 n cp 3),(1,.int .i64 (a : Int)),(2,.int .i64 (c : Int)),(3,.int .i64 (b : Int)),(4,.fn g []),(18,.int .i64 (M : Int)),(20,.int .i64 (i : Int)),(24,.int .i64 ((M + c - i : Nat) : Int))],fun x=>vw cp x.1,?_,?_⟩⟩
   ·(try dsimp only[aj]);conv=>whnf
    refine And.intro (fun q1=>?_) (fun q1=>?_)
    ·(try dsimp only[aj]);conv=>whnf
     refine And.intro (fun q2=>?_) (fun q2=>?_)
     ·(try dsimp only[aj]);conv=>whnf
      refine .rel _ (WO n cp i c (M + c - i) hN (by omega) (by omega) (by omega) l hl) fun R H' hq _=>?_
      obtain ⟨rfl,m2,hp2,rfl⟩:=hq
      (try dsimp only[aj]);conv=>whnf
      refine ⟨⟨m2,hp2⟩,by simp [nextId],?_,.mk ?_ (by simp [ak])⟩
      ·repeat' first|exact rfl|exact trivial|exact wR|exact lR _|apply aI
       all_goals first | omega | skip
      ·all_goals exact wk
     ·(try dsimp only[aj]);conv=>whnf
      refine ⟨⟨l,.refl _⟩,by simp [nextId],?_,.mk ?_ (by simp [ak])⟩
      ·repeat' first|exact rfl|exact trivial|exact wR|exact lR _|apply aI
       all_goals first | omega | skip
      ·all_goals exact wk
    ·(try dsimp only[aj]);conv=>whnf
     refine ⟨⟨l,.refl _⟩,by simp [nextId],?_,.mk ?_ (by simp [ak])⟩
     ·repeat' first|exact rfl|exact trivial|exact wR|exact lR _|apply aI
      all_goals first | omega | skip
     ·all_goals exact wk
   rintro ⟨m1,hp1⟩ _
   dsimp only at hp1 ⊢
   have Uw : m1.length = n:=by rw [hp1.length_eq,hl]
   (try dsimp only[aj]);conv=>whnf
   refine ⟨⟨{x : List Rw // List.Perm x l},fun _=>[(0,.ms 0 0 n cp 3),(1,.int .i64 (a : Int)),(2,.int .i64 (c : Int)),(3,.int .i64 (b : Int)),(4,.fn g []),(18,.int .i64 (M : Int)),(20,.int .i64 (i : Int)),(24,.int .i64 ((M + c - i : Nat) : Int))],fun x=>vw cp x.1,?_,?_⟩⟩
   ·(try dsimp only[aj]);conv=>whnf
    refine And.intro (fun q1=>?_) (fun q1=>?_)
    ·(try dsimp only[aj]);conv=>whnf
     refine And.intro (fun q2=>?_) (fun q2=>?_)
     ·(try dsimp only[aj]);conv=>whnf
      refine .rel _ (ih a i M m1 Uw (by omega) (by omega) (by omega) (by omega)) fun R H' hq _=>?_
      obtain ⟨rfl,m2,hp2,rfl⟩:=hq
      (try dsimp only[aj]);conv=>whnf
      refine ⟨⟨m2,hp2.trans hp1⟩,by simp [nextId],?_,.mk ?_ (by simp [ak])⟩
      ·repeat' first|exact rfl|exact trivial|exact wR|exact lR _|apply aI
       all_goals first | omega | skip
      ·all_goals exact wk
     ·(try dsimp only[aj]);conv=>whnf
      refine ⟨⟨m1,hp1⟩,by simp [nextId],?_,.mk ?_ (by simp [ak])⟩
      ·repeat' first|exact rfl|exact trivial|exact wR|exact lR _|apply aI
       all_goals first | omega | skip
      ·all_goals exact wk
    ·(try dsimp only[aj]);conv=>whnf
     refine ⟨⟨m1,hp1⟩,by simp [nextId],?_,.mk ?_ (by simp [ak])⟩
     ·repeat' first|exact rfl|exact trivial|exact wR|exact lR _|apply aI
      all_goals first | omega | skip
     ·all_goals exact wk
   rintro ⟨m,hp⟩ _
   dsimp only at hp ⊢
   have hml : m.length = n:=by rw [hp.length_eq,hl]
   (try dsimp only[aj]);conv=>whnf
   refine And.intro (fun q1=>?_) (fun q1=>?_)
   ·(try dsimp only[aj]);conv=>whnf
    refine And.intro (fun q2=>?_) (fun q2=>?_)
    ·(try dsimp only[aj]);conv=>whnf
     refine .rel _ (ih M (M + c - i) b m hml (by omega) (by omega) (by omega) (by omega)) fun R H' hq _=>?_
     obtain ⟨rfl,m2,hp2,rfl⟩:=hq
     (try dsimp only[aj]);conv=>whnf
     refine ⟨_,_,⟨rfl,m2,hp2.trans hp,rfl⟩,?_⟩
     refine ⟨⟨_,_,.refl _ _,?_⟩⟩
     conv=>whnf
     refine ⟨?_,rfl,by simp [nextId],.mk ?_ (by simp [ak])⟩
     ·all_goals exact wk
     ·all_goals exact wk
    ·(try dsimp only[aj]);conv=>whnf
     refine ⟨_,_,⟨rfl,m,hp,rfl⟩,?_⟩
     refine ⟨⟨_,_,.refl _ _,?_⟩⟩
     conv=>whnf
     refine ⟨?_,rfl,by simp [nextId],.mk ?_ (by simp [ak])⟩
     ·all_goals exact wk
     ·all_goals exact wk
   ·(try dsimp only[aj]);conv=>whnf
    refine ⟨_,_,⟨rfl,m,hp,rfl⟩,?_⟩
    refine ⟨⟨_,_,.refl _ _,?_⟩⟩
    conv=>whnf
    refine ⟨?_,rfl,by simp [nextId],.mk ?_ (by simp [ak])⟩
    ·all_goals exact wk
    ·all_goals exact wk

theorem U2 {cf : Rw -> Rw -> Int} {g : Nat} (hcf : PS cf g) (n cp : Nat) (hn : n < 20) (l : List Rw) (hl : l.length = n) :
  bJ Try.prog 78 [.ms 0 0 n cp 3,.int .i64 n,.fn g []] (vw cp l) (.dS []) (vw cp (qZ cf 0 n l)):=by
 have ci:=Lr hcf n cp 0 n (by omega) (by omega) (Nat.le_refl _) l hl
 refine bJ.intro lay mixed Try.func78 (by kernel_rfl) rfl (by kernel_rfl) rfl fun hok=>?_
 (try dsimp only[aU,aH]);(try dsimp only[aj]);conv=>whnf
 refine aJ.of <| (aA.inv (.refl _ _) (fun _ : Unit=>True) (fun _=>[(7,.int .i64 0),(8,.int .i64 20)]) (fun _=>vw cp l) (fun _=>0) () trivial ?_ ?_ ?_)
 ·exact fun _=>rfl
 ·refine ⟨?_,.mk ?_ (by simp [ak])⟩
  ·all_goals exact wk
  ·all_goals exact wk
 intro _ _ _
 (try dsimp only[aj]);conv=>whnf
 refine bN (by omega) ?_
 (try dsimp only[aj]);conv=>whnf
 refine .gen _ _ ci fun _=>?_
 (try dsimp only[aj]);conv=>whnf
 refine aJ.of <| (aA.inv (.refl _ _) (fun _ : Unit=>True) (fun _=>[(6,.int .i64 20)]) (fun _=>vw cp (qZ cf 0 n l)) (fun _=>0) () trivial ?_ ?_ ?_)
 ·exact fun _=>rfl
 ·refine ⟨?_,.mk ?_ (by simp [ak])⟩
  ·all_goals exact wk
  ·all_goals exact wk
 intro _ _ _
 (try dsimp only[aj]);conv=>whnf
 refine bN (by omega) ?_
 (try dsimp only[aj]);conv=>whnf
 refine ⟨⟨_,_,.refl _ _,?_⟩⟩
 conv=>whnf
 refine ⟨?_,rfl,by simp [nextId],.mk ?_ (by simp [ak])⟩
 ·all_goals exact wk
 ·all_goals exact wk

theorem U3 {cf : Rw -> Rw -> Int} {g : Nat} (hcf : PS cf g) (n cp : Nat) (hN : n <= 1000000) (l : List Rw) (hl : l.length = n) :
  dK Try.prog 78 [.ms 0 0 n cp 3,.int .i64 n,.fn g []] (vw cp l) (NR cp l):=by
 refine dK.intro lay mixed Try.func78 (by kernel_rfl) rfl (by kernel_rfl) rfl fun hok=>?_
 (try dsimp only[aU,aH]);(try dsimp only[aj]);conv=>whnf
 refine aJ.of <| (aA.inv (.refl _ _) (fun x : Nat × List Rw=>x.1 <= n /\ List.Perm x.2 l) (fun x=>[(7,.int .i64 (x.1 : Int)),(8,.int .i64 ((x.1 + 20 : Nat) : Int))]) (fun x=>vw cp x.2) (fun x=>n - x.1) (0,l) ⟨Nat.zero_le _,.refl _⟩ ?_ ?_ ?_)
 ·exact fun _=>rfl
 ·refine ⟨?_,.mk ?_ (by simp [ak])⟩
  ·all_goals exact wk
  ·all_goals exact wk
 rintro ⟨a,m⟩ ⟨ha,hp⟩ _
 dsimp only at ha hp ⊢
 have hml : m.length = n:=by rw [hp.length_eq,hl]
 (try dsimp only[aj]);conv=>whnf
 refine And.intro (fun q=>?_) (fun q=>?_)
 ·have hb : a + 20 <= n:=by omega
  (try dsimp only[aj]);conv=>whnf
  refine .gen _ _ (Lr hcf n cp a (a + 20) (by omega) (by omega) hb m hml) fun _=>?_
  (try dsimp only[aj]);conv=>whnf
  refine zA ?_;conv=>whnf
  refine ⟨(a + 20,qZ cf a (a + 20) m),⟨by dsimp only; omega,(oO cf (a:=a) (b:=a + 20) (l:=m) (by omega)).trans hp⟩,?_,by dsimp only; omega⟩
  refine ⟨?_,.mk ?_ (by simp [ak])⟩
  ·repeat' first|exact rfl|exact trivial|exact wR|exact lR _|apply aI
   all_goals first | omega | (dsimp only; omega) | skip
  ·all_goals exact wk
 (try dsimp only[aj]);conv=>whnf
 refine .gen _ _ (Lr hcf n cp a n (by omega) (by omega) (Nat.le_refl _) m hml) fun _=>?_
 have hp:=(oO cf (a:=a) (b:=n) (l:=m) (by omega)).trans hp
 generalize qZ cf a n m = m1 at *
 (try dsimp only[aj]);conv=>whnf
 refine aJ.of <| (aA.inv (.refl _ _) (fun x : Nat × List Rw=>(20 <= x.1 /\ x.1 <= 2 * n + 20) /\ List.Perm x.2 l) (fun x=>[(6,.int .i64 (x.1 : Int))]) (fun x=>vw cp x.2) (fun x=>n - x.1) (20,m1) ⟨by dsimp only; omega,hp⟩ ?_ ?_ ?_)
 ·exact fun _=>rfl
 ·refine ⟨?_,.mk ?_ (by simp [ak])⟩
  ·all_goals exact wk
  ·all_goals exact wk
 clear hml hp
 rintro ⟨bs,m⟩ ⟨hbs,hp⟩ _
 dsimp only at hbs hp ⊢
 (try dsimp only[aj]);conv=>whnf
 refine And.intro (fun q=>?_) (fun q=>?_)
 ·have hb : bs < n:=by omega
  (try dsimp only[aj]);conv=>whnf
  refine zA ?_;conv=>whnf
  refine aJ.of <| (aA.inv (.refl _ _) (fun x : Nat × List Rw=>x.1 <= n /\ List.Perm x.2 l) (fun x=>[(7,.int .i64 (x.1 : Int)),(8,.int .i64 ((x.1 + 2 * bs : Nat) : Int))]) (fun x=>vw cp x.2) (fun x=>n - x.1) (0,m) ⟨Nat.zero_le _,hp⟩ ?_ ?_ ?_)
  ·exact fun _=>rfl
  ·refine ⟨?_,.mk ?_ (by simp [ak])⟩
   ·repeat' first|exact rfl|exact trivial|exact wR|exact lR _|apply aI
    all_goals (dsimp only; omega)
   ·all_goals exact wk
  clear hp
  rintro ⟨a,m⟩ ⟨ha,hp⟩ _
  dsimp only at ha hp ⊢
  have hml : m.length = n:=by rw [hp.length_eq,hl]
  (try dsimp only[aj]);conv=>whnf
  refine And.intro (fun q1=>?_) (fun q1=>?_)
  ·have hb1 : a + 2 * bs <= n:=by omega
   (try dsimp only[aj]);conv=>whnf
   refine zA ?_;conv=>whnf
   rw [show (a : Int) + (bs : Int) = ((a + bs : Nat) : Int) by omega]
   refine .rel _ (Lj hcf n cp hN (a + 2 * bs - a) a (a + bs) (a + 2 * bs) m hml (by omega) (by omega) hb1 (Nat.le_refl _)) fun R H' hq _=>?_
   obtain ⟨rfl,m2,hp2,rfl⟩:=hq
   (try dsimp only[aj]);conv=>whnf
   refine zA ?_;conv=>whnf
   refine zA ?_;conv=>whnf
   refine ⟨(a + 2 * bs,m2),⟨by dsimp only; omega,hp2.trans hp⟩,?_,by dsimp only; omega⟩
   refine ⟨?_,.mk ?_ (by simp [ak])⟩
   ·repeat' first|exact rfl|exact trivial|exact wR|exact lR _|apply aI
    all_goals first | omega | (dsimp only; omega) | skip
   ·all_goals exact wk
  ·(try dsimp only[aj]);conv=>whnf
   refine zA ?_;conv=>whnf
   refine And.intro (fun q2=>?_) (fun q2=>?_)
   ·(try dsimp only[aj]);conv=>whnf
    rw [show (a : Int) + (bs : Int) = ((a + bs : Nat) : Int) by omega]
    refine .rel _ (Lj hcf n cp hN (n - a) a (a + bs) n m hml (by omega) (by omega) (Nat.le_refl _) (Nat.le_refl _)) fun R H' hq _=>?_
    obtain ⟨rfl,m2,hp2,rfl⟩:=hq
    (try dsimp only[aj]);conv=>whnf
    refine zA ?_;conv=>whnf
    refine ⟨(bs * 2,m2),⟨by dsimp only; omega,hp2.trans hp⟩,?_,by dsimp only; omega⟩
    refine ⟨?_,.mk ?_ (by simp [ak])⟩
    ·repeat' first|exact rfl|exact trivial|exact wR|exact lR _|apply aI
     all_goals first | omega | (dsimp only; omega) | skip
    ·all_goals exact wk
   ·(try dsimp only[aj]);conv=>whnf
    refine zA ?_;conv=>whnf
    refine ⟨(bs * 2,m),⟨by dsimp only; omega,hp⟩,?_,by dsimp only; omega⟩
    refine ⟨?_,.mk ?_ (by simp [ak])⟩
    ·repeat' first|exact rfl|exact trivial|exact wR|exact lR _|apply aI
     all_goals first | omega | (dsimp only; omega) | skip
    ·all_goals exact wk
 ·(try dsimp only[aj]);conv=>whnf
  refine ⟨_,_,⟨rfl,m,hp,rfl⟩,?_⟩
  refine ⟨⟨_,_,.refl _ _,?_⟩⟩
  conv=>whnf
  refine ⟨?_,rfl,by simp [nextId],.mk ?_ (by simp [ak])⟩
  ·all_goals exact wk
  ·all_goals exact wk

def VL (cf : Rw -> Rw -> Int) (cp : Nat) (l : List Rw) : AV -> Heap -> Prop:=fun R H'=>R = .dS [] /\ ∃ l',List.Perm l' l /\ (l.length < 20 -> l' = qZ cf 0 l.length l) /\ H' = vw cp l'

theorem U4 {cf : Rw -> Rw -> Int} {g : Nat} (hcf : PS cf g) (n cp : Nat) (hN : n <= 1000000) (l : List Rw) (hl : l.length = n) :
  dK Try.prog 58 [.ms 0 0 n cp 3,.fn g []] (vw cp l) (VL cf cp l):=by
 have cP : dK Try.prog 78 [.ms 0 0 n cp 3,.int .i64 n,.fn g []] (vw cp l) (VL cf cp l):=by
  by_cases h12 : n < 20
  ·refine bJ.toQ (U2 hcf n cp h12 l hl) ⟨rfl,_,oO cf (by omega),fun _=>by rw [hl],rfl⟩
  ·have:=U3 hcf n cp hN l hl
   refine ⟨this.1,fun c vs hr hv=>(this.2 c vs hr hv).mono ?_⟩
   rintro _ _ ⟨v,d,R,G,⟨h1,l',h2,h3⟩,h4⟩
   exact ⟨v,d,R,G,⟨h1,l',h2,fun h=>absurd h (by omega),h3⟩,h4⟩
 refine dK.intro lay mixed Try.func58 (by kernel_rfl) rfl (by kernel_rfl) rfl fun hok=>?_
 (try dsimp only[aU,aH]);(try dsimp only[aj]);conv=>whnf
 refine .rel _ cP fun R H' hq _=>?_
 obtain ⟨rfl,l',h1,h2,rfl⟩:=hq
 (try dsimp only[aj]);conv=>whnf
 refine ⟨_,_,⟨rfl,l',h1,h2,rfl⟩,?_⟩
 refine ⟨⟨_,_,.refl _ _,?_⟩⟩
 conv=>whnf
 refine ⟨?_,rfl,by simp [nextId],.mk ?_ (by simp [ak])⟩
 ·all_goals exact wk
 ·all_goals exact wk

theorem Vb {g : Nat} : bJ Try.prog 90 [.sl 3 [] .no,.int .i64 0,.int .i64 0,.fn g []] [] (.dS []) []:=by
 refine bJ.intro lay mixed Try.func90 (by kernel_rfl) rfl (by kernel_rfl) rfl fun hok=>?_
 (try dsimp only[aU,aH]);(try dsimp only[aj]);conv=>whnf
 refine zA ?_;conv=>whnf
 refine aJ.of <| (aA.inv (.refl _ _) (fun _ : Unit=>True) (fun _=>[(8,.int .i64 1)]) (fun _=>[]) (fun _=>0) () trivial ?_ ?_ ?_)
 ·exact fun _=>rfl
 ·refine ⟨?_,.mk ?_ (by simp [ak])⟩
  ·all_goals exact wk
  ·all_goals exact wk
 intro _ _ _
 (try dsimp only[aj]);conv=>whnf
 refine bN (by omega) ?_
 (try dsimp only[aj]);conv=>whnf
 refine ⟨⟨_,_,.refl _ _,?_⟩⟩
 conv=>whnf
 refine ⟨?_,rfl,by simp [nextId],.mk ?_ (by simp [ak])⟩
 ·all_goals exact wk
 ·all_goals exact wk

theorem U5 {g : Nat} : bJ Try.prog 58 [.sl 3 [] .no,.fn g []] [] (.dS []) []:=by
 have cP : bJ Try.prog 78 [.sl 3 [] .no,.int .i64 0,.fn g []] [] (.dS []) []:=by
  refine bJ.intro lay mixed Try.func78 (by kernel_rfl) rfl (by kernel_rfl) rfl fun hok=>?_
  (try dsimp only[aU,aH]);(try dsimp only[aj]);conv=>whnf
  refine aJ.of <| (aA.inv (.refl _ _) (fun _ : Unit=>True) (fun _=>[(7,.int .i64 0),(8,.int .i64 20)]) (fun _=>[]) (fun _=>0) () trivial ?_ ?_ ?_)
  ·exact fun _=>rfl
  ·refine ⟨?_,.mk ?_ (by simp [ak])⟩
   ·all_goals exact wk
   ·all_goals exact wk
  intro _ _ _
  (try dsimp only[aj]);conv=>whnf
  refine bN (by omega) ?_
  (try dsimp only[aj]);conv=>whnf
  refine .pure _ _ ?_ ⟨rfl,rfl⟩ (Vb (g:=g)) fun _=>?_
  ·exact au _
  (try dsimp only[aj]);conv=>whnf
  refine aJ.of <| (aA.inv (.refl _ _) (fun _ : Unit=>True) (fun _=>[(6,.int .i64 20)]) (fun _=>[]) (fun _=>0) () trivial ?_ ?_ ?_)
  ·exact fun _=>rfl
  ·refine ⟨?_,.mk ?_ (by simp [ak])⟩
   ·all_goals exact wk
   ·all_goals exact wk
  intro _ _ _
  (try dsimp only[aj]);conv=>whnf
  refine bN (by omega) ?_
  (try dsimp only[aj]);conv=>whnf
  refine ⟨⟨_,_,.refl _ _,?_⟩⟩
  conv=>whnf
  refine ⟨?_,rfl,by simp [nextId],.mk ?_ (by simp [ak])⟩
  ·all_goals exact wk
  ·all_goals exact wk
 refine bJ.intro lay mixed Try.func58 (by kernel_rfl) rfl (by kernel_rfl) rfl fun hok=>?_
 (try dsimp only[aU,aH]);(try dsimp only[aj]);conv=>whnf
 refine .pure _ _ ?_ ⟨rfl,rfl⟩ cP fun _=>?_
 ·exact au _
 (try dsimp only[aj]);conv=>whnf
 refine ⟨⟨_,_,.refl _ _,?_⟩⟩
 conv=>whnf
 refine ⟨?_,rfl,by simp [nextId],.mk ?_ (by simp [ak])⟩
 ·all_goals exact wk
 ·all_goals exact wk

theorem Sz (l : List Rw) (hN : l.length <= 1000000) : dK Try.prog 57 [.sl 3 (l.map Rw.av) .no] [] (fun R H'=>(l = [] /\ R = .sl 3 [] .no /\ H' = []) \/ ∃ cp,l.length <= cp /\ cp <= maxL /\ R = .ms 0 0 l.length cp 3 /\ H' = vw cp l):=by
 refine dK.intro lay mixed Try.func57 (by kernel_rfl) rfl (by kernel_rfl) rfl fun hok=>?_
 (try dsimp only[aU,aH]);(try dsimp only[aj]);conv=>whnf
 intro b hb
 (try dsimp only[aj]);conv=>whnf
 refine And.intro (fun h=>?_) (fun h=>?_)
 ·have hl : l = []:=by simpa using hb h
  (try dsimp only[aj]);conv=>whnf
  refine ⟨_,_,.inl ⟨hl,rfl,rfl⟩,?_⟩
  refine ⟨⟨_,_,.refl _ _,?_⟩⟩
  conv=>whnf
  refine ⟨?_,rfl,by simp [nextId],.mk ?_ (by simp [ak])⟩
  ·all_goals exact wk
  ·all_goals exact wk
 ·(try dsimp only[aj]);conv=>whnf
  by_cases hl : l = []
  ·subst hl
   refine .pure (by simp [maxL]) (by simp) ?_
   (try dsimp only[aj]);conv=>whnf
   refine ⟨_,_,.inl ⟨rfl,rfl,rfl⟩,?_⟩
   refine ⟨⟨_,_,.refl _ _,?_⟩⟩
   conv=>whnf
   refine ⟨?_,rfl,by simp [nextId],.mk ?_ (by simp [ak])⟩
   ·all_goals exact wk
   ·all_goals exact wk
  ·refine .wr (by simpa using hl) (by simp [maxL]; omega) (by simp; omega) ?_
   intro cp h1 h2
   rw [List.length_map,List.length_nil,Nat.zero_add] at h1 ⊢
   (try dsimp only[aj]);conv=>whnf
   refine ⟨_,_,.inr ⟨cp,h1,h2,rfl,rfl⟩,?_⟩
   refine ⟨⟨_,_,.refl _ _,?_⟩⟩
   conv=>whnf
   refine ⟨?_,rfl,by simp [nextId],.mk ?_ (by simp [ak])⟩
   ·all_goals exact wk
   ·all_goals exact wk

theorem GL (l : List Rw) (g : Nat) (cap : List AV) (p : Rw -> Bool) (H : Heap) (hg : ∀ x ∈ l,bJ Try.prog g (x.av :: cap) H (.bool (p x)) H) :
  bJ Try.prog 80 [.sl 3 (l.map Rw.av) .no,.fn g cap] H (.int .i64 (Gn p l)) H:=by
 refine bJ.intro lay mixed Try.func80 (by kernel_rfl) rfl (by kernel_rfl) rfl fun hok=>?_
 have hl : l.length <= 9223372036854775807:=by have:=hok.1.1; simpa [maxL] using this
 conv=>whnf
 refine aJ.of <| aA.inv (.refl _ _) (fun (i : Nat)=>i <= l.length /\ ∀ (j : Nat) (hj : j < l.length),j < i -> p l[j] = false) (fun (i : Nat)=>[(8,.int .i64 i)]) (fun _=>_) (fun (i : Nat)=>l.length - i) 0 ?_ (fun _=>rfl) ?_ ?_
 ·exact ⟨Nat.zero_le _,by omega⟩
 ·all_goals exact wk
 rintro i ⟨hi,hn⟩ _
 conv=>whnf
 refine And.intro (fun h=>?_) (fun h=>?_)
 ·have hlt : i < l.length:=by simpa using h
  conv=>whnf
  refine iH hlt ?_
  conv=>whnf
  refine .gen _ _ (hg _ (List.getElem_mem hlt)) fun _=>?_
  conv=>whnf
  refine And.intro (fun h=>?_) (fun h=>?_)
  ·conv=>whnf
   (refine iO.same ?_;(conv=>whnf);refine ⟨?_,rfl⟩;(conv=>whnf))
   exact ⟨rfl,(EH hlt h fun j hj=>hn j (by omega) hj).symm⟩
  ·conv=>whnf
   refine zA ?_;conv=>whnf
   refine ⟨i + 1,?_,?_,?_⟩
   ·refine ⟨hlt,fun j hj hji=>?_⟩
    by_cases WE : j = i
    ·subst WE; simpa using h
    ·exact hn j hj (by omega)
   ·all_goals exact wk
   ·omega
 ·have hi' : i = l.length:=by have : ¬ i < l.length:=by simpa using h
                              omega
  conv=>whnf
  (refine iO.same ?_;(conv=>whnf);refine ⟨?_,rfl⟩;(conv=>whnf))
  exact ⟨rfl,(EI fun j hj=>hn j hj (by omega)).symm⟩

theorem zx (l : List Rw) (g : Nat) (cap : List AV) (p : Rw -> Bool) (H : Heap) (hg : ∀ x ∈ l,bJ Try.prog g (x.av :: cap) H (.bool (p x)) H) :
  bJ Try.prog 61 [.sl 3 (l.map Rw.av) .no,.fn g cap] H (.bool (l.any p)) H:=by
 refine bJ.intro lay mixed Try.func61 (by kernel_rfl) rfl (by kernel_rfl) rfl fun hok=>?_
 conv=>whnf
 refine .gen _ _ (GL l g cap p H hg) fun _=>?_
 conv=>whnf
 (refine iO.same ?_;(conv=>whnf);refine ⟨?_,rfl⟩;(conv=>whnf))
 exact yN _ l

theorem WV (r s : Rw) (h : jJ s) : bJ Try.prog 62 [s.av,.cp r.av] [] (.bool (nO s r)) []:=by
 have c1:=U6 s r h
 generalize nO s r = b at *
 refine bJ.intro lay mixed Try.func62 (by kernel_rfl) rfl (by kernel_rfl) rfl fun hok=>?_
 (try dsimp only[aU,aH]);(try dsimp only[aj]);conv=>whnf
 refine .pure _ _ ?_ ⟨rfl,rfl⟩ c1 fun _=>?_
 ·exact au _
 (try dsimp only[aj]);conv=>whnf
 refine fM ?_;(conv=>whnf);refine ⟨?_,rfl⟩;conv=>whnf
 all_goals exact wk

def dZ (out : List Rw) (r : Rw) : List Rw:=if out.any (fun s=>nO s r) then out else out ++ [r]
def Wj (l : List Rw) : List Rw:=(qZ RD 0 l.length l).foldl dZ []

structure TF (l m : List Rw) : Prop where
 len : m.length <= l.length
 sub : ∀ x,x ∈ m -> x ∈ l
 Y2 : ∀ x,x ∈ l -> ∃ y,y ∈ m /\ nO y x = true
 ex : l.length < 20 -> m = Wj l

theorem AU {a : Nat} (h : a < 2 ^ 63) : iC a a = 0:=by
 apply Nat.eq_of_testBit_eq
 intro i
 rw [iV (by omega)]
 cases a.testBit i <;> simp

theorem Ku {r : Rw} (h : jJ r) : nO r r = true:=by
 obtain ⟨h1,h2⟩:=h
 unfold nO
 rw [AU (by omega),AU (by omega)]
 rfl

theorem Wn : ∀ (k : List Rw) (o : List Rw),(∀ x,x ∈ k -> jJ x) -> (∀ x,x ∈ k.foldl dZ o -> x ∈ o \/ x ∈ k) /\ (∀ x,x ∈ o -> x ∈ k.foldl dZ o) /\ (∀ x,x ∈ k -> ∃ y,y ∈ k.foldl dZ o /\ nO y x = true) /\ (k.foldl dZ o).length <= o.length + k.length
 | [],o,_=>by simp
 | s :: k,o,hk=>by
   obtain ⟨h1,h2,h3,h4⟩:=Wn k (dZ o s) fun x hx=>hk x (List.mem_cons_of_mem _ hx)
   have hs : ∃ y,y ∈ dZ o s /\ nO y s = true:=by
    unfold dZ; split
    ·rename_i h; obtain ⟨y,hy,h⟩:=List.any_eq_true.1 h; exact ⟨y,hy,h⟩
    ·exact ⟨s,by simp,Ku (hk s (by simp))⟩
   have ho : ∀ x,x ∈ o -> x ∈ dZ o s:=by intro x hx; unfold dZ; split <;> simp [hx]
   have hm : ∀ x,x ∈ dZ o s -> x ∈ o \/ x = s:=by intro x hx; unfold dZ at hx; split at hx <;> simp_all
   have hl : (dZ o s).length <= o.length + 1:=by unfold dZ; split <;> simp
   refine ⟨fun x hx=>?_,fun x hx=>h2 x (ho x hx),fun x hx=>?_,?_⟩
   ·rcases h1 x hx with h | h
    ·rcases hm x h with h | rfl
     ·exact .inl h
     ·exact .inr (by simp)
    ·exact .inr (by simp [h])
   ·rcases List.mem_cons.1 hx with rfl | hx
    ·obtain ⟨y,hy,h⟩:=hs; exact ⟨y,h2 y hy,h⟩
    ·exact h3 x hx
   ·simp only [List.foldl_cons,List.length_cons]; omega

theorem Ur {l k : List Rw} (hk : ∀ x,x ∈ l -> jJ x) (h1 : k.Perm l) (h3 : l.length < 20 -> k = qZ RD 0 l.length l) : TF l (k.foldl dZ []):=by
 obtain ⟨a1,a2,a3,a4⟩:=Wn k [] fun x hx=>hk x (h1.mem_iff.1 hx)
 refine ⟨by have:=h1.length_eq; simp at a4; omega,fun x hx=>?_,fun x hx=>a3 x (h1.mem_iff.2 hx),fun h=>by rw [h3 h]; rfl⟩
 rcases a1 x hx with h | h
 ·cases h
 ·exact h1.mem_iff.1 h

theorem RH (l : List Rw) (hN : l.length <= 1000000) (hk : ∀ x,x ∈ l -> jJ x) : dK Try.prog 41 [.sl 3 (l.map Rw.av) .no] [] (fun R H'=>H' = [] /\ ∃ m,R = .sl 3 (m.map Rw.av) .no /\ TF l m):=by
 have cc:=Sz l hN
 refine dK.mQ (.r 4 (.s (.s .n (.b (.b (.r 2 (.s (.b (.r 1 (.f [2] .n))) .n))))) .n)) lay mixed Try.func41 (by kernel_rfl) rfl (by kernel_rfl) rfl fun hok=>?_
 (try dsimp only[aU,aH]);(try dsimp only[aj]);conv=>whnf
 refine .rel _ cc fun R H' hq _=>?_
 rcases hq with ⟨rfl,rfl,rfl⟩ | ⟨cp,hcp1,hcp2,rfl,rfl⟩
 ·(try dsimp only[aj]);conv=>whnf
  refine .pure _ _ ?_ ⟨rfl,rfl⟩ (U5 (g:=59)) fun _=>?_
  ·exact au _
  (try dsimp only[aj]);conv=>whnf
  refine aJ.of <| (aA.inv (.refl _ _) (fun _ : Unit=>True) (fun _=>[(12,.int .i64 0),(3,.bH)]) (fun _=>[]) (fun _=>0) () trivial ?_ ?_ ?_)
  ·exact fun _=>rfl
  ·refine ⟨?_,.mk ?_ (by simp [ak])⟩
   ·all_goals exact wk
   ·all_goals exact wk
  intro _ _ _
  (try dsimp only[aj]);conv=>whnf
  refine bN (by decide) ?_
  (try dsimp only[aj]);conv=>whnf
  refine ⟨.sl 3 [] .no,_,⟨rfl,[],rfl,⟨by simp,by simp,by simp,fun _=>rfl⟩⟩,?_⟩
  refine ⟨⟨_,_,.refl _ _,?_⟩⟩
  conv=>whnf
  refine ⟨?_,rfl,by simp [nextId],.mk ?_ (by simp [ak])⟩
  ·all_goals exact wk
  ·all_goals exact wk
 (try dsimp only[aj]);conv=>whnf
 refine .rel _ (U4 (cf:=RD) W9 l.length cp hN l rfl) fun R H' hq _=>?_
 obtain ⟨rfl,k,hp,he,rfl⟩:=hq
 have hM:=Ur hk hp he
 have hk1:=hp.length_eq
 have hkk : ∀ x,x ∈ k -> jJ x:=fun x hx=>hk x (hp.mem_iff.1 hx)
 rw [<- hk1]
 (try dsimp only[aj]);conv=>whnf
 refine aJ.of <| (aA.inv (.grow 3 3 [] .bH rfl (.inl ⟨rfl,rfl⟩) (.refl _ _)) (fun i : Nat=>i <= k.length) (fun i=>[(12,.int .i64 (i : Int)),(3,.sl 3 (((k.take i).foldl dZ []).map Rw.av) (.own 1))]) (fun i=>[(1,.tok 3 ((k.take i).foldl dZ []).length),(0,.arr 3 cp (k.map Rw.av))]) (fun i=>k.length - i) 0 (Nat.zero_le _) ?_ ?_ ?_)
 ·exact fun _=>rfl
 ·refine ⟨?_,.mk ?_ (by simp [ak])⟩
  ·all_goals exact wk
  ·all_goals exact wk
 intro i hi _
 (try dsimp only[aj]);conv=>whnf
 refine And.intro (fun g=>?_) (fun g=>?_)
 ·have hlt : i < k.length:=by omega
  have hst : (k.take (i + 1)).foldl dZ [] = dZ ((k.take i).foldl dZ []) k[i]:=jh hlt
  obtain ⟨ha1,-,-,hlen⟩:=Wn (k.take i) [] fun x hx=>hkk x (List.mem_of_mem_take hx)
  rw [List.length_take] at hlen
  simp only [List.length_nil,Nat.zero_add] at hlen
  have ho : ∀ x,x ∈ (k.take i).foldl dZ [] -> jJ x:=fun x hx=>by
   rcases ha1 x hx with h | h
   ·cases h
   ·exact hkk x (List.mem_of_mem_take h)
  (try dsimp only[aj]);conv=>whnf
  refine ⟨by omega,?_⟩
  (try dsimp only[aj]);conv=>whnf
  refine aO (i:=i) rfl hlt ⟨rfl,?_⟩
  rw [show k.getD i default = k[i] by rw [List.getD_eq_getElem?_getD,List.getElem?_eq_getElem hlt]; rfl]
  generalize k[i] = x at *
  generalize (k.take i).foldl dZ [] = o at *
  have hc:=zx o 62 [.cp x.av] (fun t=>nO t x) [] (fun t ht=>WV x t (ho t ht))
  (try dsimp only[aj]);conv=>whnf
  refine ⟨⟨rfl,rfl⟩,?_⟩
  (try dsimp only[aj]);conv=>whnf
  refine .pure _ _ ?_ ⟨rfl,rfl⟩ hc fun _=>?_
  ·all_goals exact wk
  (try dsimp only[aj]);conv=>whnf
  generalize hab : (o.any fun t=>nO t x) = b
  refine And.intro (fun ha=>?_) (fun ha=>?_)
  ·have hf : b = false:=by simpa using ha
   subst hf
   rw [show dZ o x = o ++ [x] from if_neg (by rw [hab]; exact Bool.false_ne_true)] at hst
   (try dsimp only[aj]);conv=>whnf
   refine ⟨by rw [List.length_map],.mk (by simp [maxL]; omega) (by simp; omega) ?_⟩
   (try dsimp only[aj]);conv=>whnf
   refine zA ?_;conv=>whnf
   refine ⟨i + 1,?_,?_,?_⟩
   ·exact hlt
   ·rw [hst]
    refine ⟨?_,.mk ?_ (by simp [ak])⟩
    ·repeat' first|exact rfl|exact trivial|exact wR|exact lR _|apply aI
     all_goals first | (refine bF ?_; rw [List.map_append]; rfl) | (simp; done) | skip
    ·repeat' first|exact rfl|exact trivial|exact wR|exact lR _|apply aI
     all_goals first | (refine bF ?_; rw [List.map_append]; rfl) | (simp; done) | skip
   ·omega
  ·have hf : b = true:=by simpa using ha
   subst hf
   rw [show dZ o x = o from if_pos hab] at hst
   (try dsimp only[aj]);conv=>whnf
   refine zA ?_;conv=>whnf
   refine ⟨i + 1,?_,?_,?_⟩
   ·exact hlt
   ·rw [hst]
    refine ⟨?_,.mk ?_ (by simp [ak])⟩
    ·all_goals exact wk
    ·all_goals exact wk
   ·omega
 ·have hk : i = k.length:=by omega
  subst hk
  rw [List.take_length]
  (try dsimp only[aj]);conv=>whnf
  refine ⟨_,_,⟨rfl,_,rfl,hM⟩,?_⟩
  refine ⟨⟨_,_,.refl _ _,?_⟩⟩
  conv=>whnf
  refine ⟨?_,rfl,by simp [nextId],.mk ?_ (by simp [ak])⟩
  ·all_goals exact wk
  ·all_goals exact wk

abbrev rL (l : List Rw) : AV:=.sl 3 (l.map Rw.av) (.own 1)
abbrev hpL (l : List Rw) : Heap:=[(1,.tok 3 l.length),(0,.box (rL l))]

def jm (l : List Rw) (r : Rw) : List Rw:=if l.length <= 4096 then l ++ [r] else l

theorem oW {l : List Rw} {r : Rw} (h : l.length <= 4097) : (jm l r).length <= 4097:=by
 unfold jm; split
 ·simp; omega
 ·exact h

theorem yg (l : List Rw) (r : Rw) (h : l.length <= 4097) : bJ Try.prog 40 [.ptr 0 [] 0,r.av] (hpL l) (.dS []) (hpL (jm l r)):=by
 refine bJ.intro lay mixed Try.func40 (by kernel_rfl) rfl (by kernel_rfl) rfl fun hok=>?_
 (try dsimp only[aU,aH]);(try dsimp only[aj]);conv=>whnf
 refine And.intro (fun g=>?_) (fun g=>?_)
 ·have hl : l.length <= 4096:=by simp at g; omega
  rw [show jm l r = l ++ [r] from if_pos hl]
  (try dsimp only[aj]);conv=>whnf
  refine bg.auto (by kernel_rfl) ?_;conv=>whnf
  refine ⟨by rw [List.length_map],.mk (by simp [maxL]; omega) (by simp; omega) ?_⟩
  (try dsimp only[aj]);conv=>whnf
  refine ⟨⟨_,_,.refl _ _,?_⟩⟩
  conv=>whnf
  refine ⟨?_,rfl,by simp [nextId],.mk ?_ (by simp [ak])⟩
  ·all_goals exact wk
  ·repeat' first|exact rfl|exact trivial|exact wR|exact lR _|apply aI
   all_goals first | (show dR _ (List.map _ (_ ++ [_])); rw [List.map_append]; exact aP _) | (simp; done) | (simp; omega) | skip
 ·have hl : ¬ l.length <= 4096:=by simp at g; omega
  rw [show jm l r = l from if_neg hl]
  (try dsimp only[aj]);conv=>whnf
  refine ⟨⟨_,_,.refl _ _,?_⟩⟩
  conv=>whnf
  refine ⟨?_,rfl,by simp [nextId],.mk ?_ (by simp [ak])⟩
  ·all_goals exact wk
  ·repeat' first|exact rfl|exact trivial|exact wR|exact lR _|apply aI
   all_goals first | (show dR _ (List.map _ (_ ++ [_])); rw [List.map_append]; exact aP _) | (simp; done) | (simp; omega) | skip

def jH (v : Nat) : List Int -> Nat -> List Rw -> Rw -> List Rw
 | [],k,l,r=>if 4096 < l.length \/ 0 < k then l else jm l r
 | a :: bs,k,l,r=>if 4096 < l.length \/ bs.length + 1 < k then l else if k = 0 then jm l r else jH v bs k (jH v bs (k - 1) l (bM v r a)) r

theorem wQ {v : Nat} : ∀ {args : List Int} {k : Nat} {l : List Rw} {r : Rw},l.length <= 4097 -> (jH v args k l r).length <= 4097
 | [],k,l,r,h=>by
   unfold jH; split
   ·exact h
   ·exact oW h
 | a :: bs,k,l,r,h=>by
   unfold jH; split
   ·exact h
   ·split
    ·exact oW h
    ·exact wQ (wQ h)

theorem VF {a : Int} {bs : List Int} : List.take (((List.map (AV.int .i64) (a :: bs)).length : Int).toNat - Int.toNat 1) (List.drop (Int.toNat 1) (List.map (AV.int .i64) (a :: bs))) = bs.map (.int .i64):=by
 simp [List.take_of_length_le]

theorem Cj (f : Fo) (hv : 0 <= f.vars /\ f.vars <= 8) : ∀ (args : List Int) (k : Nat) (l : List Rw) (r : Rw),(∀ a,a ∈ args -> 0 <= a /\ a < f.vars + 16) -> args.length <= 16 -> k <= 100 -> jJ r -> l.length <= 4097 ->
  bJ Try.prog 56 [.ptr 0 [] 0,f.av,r.av,iA args,.int .i64 (k : Int)] (hpL l) (.dS []) (hpL (jH f.vars.toNat args k l r))
 | [],k,l,r,ha,hn,hk,hr,hl=>by
   have ca:=yg l r hl
   refine bJ.intro lay mixed Try.func56 (by kernel_rfl) rfl (by kernel_rfl) rfl fun hok=>?_
   (try dsimp only[aU,aH]);(try dsimp only[aj]);conv=>whnf
   refine And.intro (fun g=>?_) (fun g=>?_)
   ·rw [show jH f.vars.toNat [] k l r = l from if_pos (.inl (by simp at g; omega))]
    (try dsimp only[aj]);conv=>whnf
    refine ⟨⟨_,_,.refl _ _,?_⟩⟩
    conv=>whnf
    refine ⟨?_,rfl,by simp [nextId],.mk ?_ (by simp [ak])⟩
    ·all_goals exact wk
    ·repeat' first|exact rfl|exact trivial|exact wR|exact lR _|apply aI
     all_goals first | (show dR _ (List.map _ (_ ++ [_])); rw [List.map_append]; exact aP _) | (simp; done) | (simp; omega) | skip
   ·have g : ¬ 4096 < l.length:=by simp at g; omega
    (try dsimp only[aj]);conv=>whnf
    refine And.intro (fun g1=>?_) (fun g1=>?_)
    ·rw [show jH f.vars.toNat [] k l r = l from if_pos (.inr (by simp at g1; omega))]
     (try dsimp only[aj]);conv=>whnf
     refine ⟨⟨_,_,.refl _ _,?_⟩⟩
     conv=>whnf
     refine ⟨?_,rfl,by simp [nextId],.mk ?_ (by simp [ak])⟩
     ·all_goals exact wk
     ·repeat' first|exact rfl|exact trivial|exact wR|exact lR _|apply aI
      all_goals first | (show dR _ (List.map _ (_ ++ [_])); rw [List.map_append]; exact aP _) | (simp; done) | (simp; omega) | skip
    ·have g1 : k = 0:=by simp at g1; omega
     subst g1
     rw [show jH f.vars.toNat [] 0 l r = jm l r from if_neg (by simp; omega)]
     (try dsimp only[aj]);conv=>whnf
     refine bY (by decide) ?_
     (try dsimp only[aj]);conv=>whnf
     refine .gen _ _ (bJ.frame [0,1] ca ⟨rfl,rfl,rfl,rfl⟩ ?_ ?_) fun _=>?_
     ·all_goals exact wk
     ·all_goals exact wk
     (try dsimp only[aj]);conv=>whnf
     refine ⟨⟨_,_,.refl _ _,?_⟩⟩
     conv=>whnf
     refine ⟨?_,rfl,by simp [nextId],.mk ?_ (by simp [ak])⟩
     ·all_goals exact wk
     ·repeat' first|exact rfl|exact trivial|exact wR|exact lR _|apply aI
      all_goals first | (show dR _ (List.map _ (_ ++ [_])); rw [List.map_append]; exact aP _) | (simp; done) | (simp; omega) | skip
 | a :: bs,k,l,r,ha,hn,hk,hr,hl=>by
   have ca:=yg l r hl
   have hva:=ha a (by simp)
   have cw:=Gz f hv r hr a hva.1 hva.2
   have hw:=FH (v:=f.vars.toNat) hr (by omega) (a:=a) (by omega) hva.1
   simp only [List.length_cons] at hn
   have c1:=Cj f hv bs (k - 1) l (bM f.vars.toNat r a) (fun b hb=>ha b (by simp [hb])) (by omega) (by omega) hw hl
   have hl1:=wQ (v:=f.vars.toNat) (args:=bs) (k:=k - 1) (r:=bM f.vars.toNat r a) hl
   have c2:=Cj f hv bs k (jH f.vars.toNat bs (k - 1) l (bM f.vars.toNat r a)) r (fun b hb=>ha b (by simp [hb])) (by omega) hk hr hl1
   refine bJ.intro lay mixed Try.func56 (by kernel_rfl) rfl (by kernel_rfl) rfl fun hok=>?_
   (try dsimp only[aU,aH]);(try dsimp only[aj]);conv=>whnf
   refine And.intro (fun g=>?_) (fun g=>?_)
   ·rw [show jH f.vars.toNat (a :: bs) k l r = l from if_pos (.inl (by simp at g; omega))]
    (try dsimp only[aj]);conv=>whnf
    refine ⟨⟨_,_,.refl _ _,?_⟩⟩
    conv=>whnf
    refine ⟨?_,rfl,by simp [nextId],.mk ?_ (by simp [ak])⟩
    ·all_goals exact wk
    ·repeat' first|exact rfl|exact trivial|exact wR|exact lR _|apply aI
     all_goals first | (show dR _ (List.map _ (_ ++ [_])); rw [List.map_append]; exact aP _) | (simp; done) | (simp; omega) | skip
   ·have g : ¬ 4096 < l.length:=by simp at g; omega
    (try dsimp only[aj]);conv=>whnf
    refine And.intro (fun g1=>?_) (fun g1=>?_)
    ·rw [show jH f.vars.toNat (a :: bs) k l r = l from if_pos (.inr (by simp at g1; omega))]
     (try dsimp only[aj]);conv=>whnf
     refine ⟨⟨_,_,.refl _ _,?_⟩⟩
     conv=>whnf
     refine ⟨?_,rfl,by simp [nextId],.mk ?_ (by simp [ak])⟩
     ·all_goals exact wk
     ·repeat' first|exact rfl|exact trivial|exact wR|exact lR _|apply aI
      all_goals first | (show dR _ (List.map _ (_ ++ [_])); rw [List.map_append]; exact aP _) | (simp; done) | (simp; omega) | skip
    ·have g1 : k <= bs.length + 1:=by simp at g1; omega
     (try dsimp only[aj]);conv=>whnf
     refine And.intro (fun g2=>?_) (fun g2=>?_)
     ·have g2 : k = 0:=by omega
      rw [show jH f.vars.toNat (a :: bs) k l r = jm l r by unfold jH; rw [if_neg (by omega),if_pos g2]]
      (try dsimp only[aj]);conv=>whnf
      refine .gen _ _ (bJ.frame [0,1] ca ⟨rfl,rfl,rfl,rfl⟩ ?_ ?_) fun _=>?_
      ·all_goals exact wk
      ·all_goals exact wk
      (try dsimp only[aj]);conv=>whnf
      refine ⟨⟨_,_,.refl _ _,?_⟩⟩
      conv=>whnf
      refine ⟨?_,rfl,by simp [nextId],.mk ?_ (by simp [ak])⟩
      ·all_goals exact wk
      ·repeat' first|exact rfl|exact trivial|exact wR|exact lR _|apply aI
       all_goals first | (show dR _ (List.map _ (_ ++ [_])); rw [List.map_append]; exact aP _) | (simp; done) | (simp; omega) | skip
     ·have g2 : ¬ k = 0:=by omega
      rw [show jH f.vars.toNat (a :: bs) k l r = jH f.vars.toNat bs k (jH f.vars.toNat bs (k - 1) l (bM f.vars.toNat r a)) r by rw [jH]; rw [if_neg (by omega),if_neg g2]]
      generalize jH f.vars.toNat bs (k - 1) l (bM f.vars.toNat r a) = l1 at *
      generalize bM f.vars.toNat r a = r1 at *
      (try dsimp only[aj]);conv=>whnf
      refine bg.mk ⟨[true,false,false,false,true,true,true,true,true,true,true,true,false],by kernel_rfl,?_⟩
      conv=>whnf
      refine iY.mk ⟨_,⟨by decide,rfl⟩,?_⟩
      conv=>whnf
      refine eu.pure _ _ ?_ ⟨rfl,rfl⟩ cw ?_
      ·exact au _
      conv=>whnf
      refine Mc.mk ⟨by simp; omega,?_⟩
      conv=>whnf
      rw [VF]
      refine ⟨bP (by omega) (by omega),?_⟩
      rw [show (k : Int) - 1 = ((k - 1 : Nat) : Int) by omega]
      conv=>whnf
      refine .gen _ _ (bJ.frame [0,1] c1 ⟨rfl,rfl,rfl,rfl⟩ ?_ ?_) fun _=>?_
      ·all_goals exact wk
      ·all_goals exact wk
      (try dsimp only[aj]);conv=>whnf
      refine bg.mk ⟨[true,false,false,true,true,true,false],by kernel_rfl,?_⟩
      conv=>whnf
      refine Mc.mk ⟨by simp; omega,?_⟩
      conv=>whnf
      rw [VF]
      refine .gen _ _ (bJ.frame [0,1] c2 ⟨rfl,rfl,rfl,rfl⟩ ?_ ?_) fun _=>?_
      ·all_goals exact wk
      ·all_goals exact wk
      (try dsimp only[aj]);conv=>whnf
      refine ⟨⟨_,_,.refl _ _,?_⟩⟩
      conv=>whnf
      refine ⟨?_,rfl,by simp [nextId],.mk ?_ (by simp [ak])⟩
      ·all_goals exact wk
      ·repeat' first|exact rfl|exact trivial|exact wR|exact lR _|apply aI
       all_goals first | (show dR _ (List.map _ (_ ++ [_])); rw [List.map_append]; exact aP _) | (simp; done) | (simp; omega) | skip

def BF (v : Nat) (x : Nd) (i : Nat) (l : List Rw) (r : Rw) : List Rw :=
 if x.kind = 0 then (if x.k = 1 then jm l (dP r i) else l)
 else if x.kind = 2 then jm l (x.args.foldl (bM v) (dP r i))
 else if x.kind = 3 then x.args.foldl (fun l a=>jm l (bM v (dP r i) a)) l
 else jH v x.args x.k.toNat l (dP r i)

theorem Ia {v : Nat} (hv : v <= 8) : ∀ {args : List Int} {r : Rw},(∀ a,a ∈ args -> 0 <= a /\ a < (v : Int) + 16) -> jJ r -> jJ (args.foldl (bM v) r)
 | [],_,_,hr=>hr
 | a :: bs,r,ha,hr=>Ia (args:=bs) (r:=bM v r a) hv (fun b hb=>ha b (by simp [hb])) (FH hr hv (ha a (by simp)).2 (ha a (by simp)).1)

theorem CZ {v : Nat} : ∀ {args : List Int} {l : List Rw} {r : Rw},l.length <= 4097 -> (args.foldl (fun l a=>jm l (bM v r a)) l).length <= 4097
 | [],_,_,h=>h
 | a :: bs,l,r,h=>CZ (args:=bs) (l:=jm l (bM v r a)) (oW h)

theorem Q8 {v : Nat} {x : Nd} {i : Nat} {l : List Rw} {r : Rw} (h : l.length <= 4097) : (BF v x i l r).length <= 4097:=by
 unfold BF
 split
 ·split
  ·exact oW h
  ·exact h
 ·split
  ·exact oW h
  ·split
   ·exact CZ h
   ·exact wQ h

theorem Sm (f : Fo) (hv : 0 <= f.vars /\ f.vars <= 8) (i : Nat) (hi : i < f.nodes.length) (Uy : i < 16) (hx : f.nodes[i].kind = 0 \/ f.nodes[i].kind = 2 \/ f.nodes[i].kind = 3 \/ f.nodes[i].kind = 4) (hk : f.nodes[i].kind = 4 -> 0 <= f.nodes[i].k /\ f.nodes[i].k <= 100)
  (ha : ∀ a,a ∈ f.nodes[i].args -> 0 <= a /\ a < f.vars + 16) (hn : f.nodes[i].args.length <= 16) (l : List Rw) (hl : l.length <= 4097) (r : Rw) (hr : jJ r) :
  bJ Try.prog 39 [.ptr 0 [] 0,f.av,r.av,.int .i64 (i : Int)] (hpL l) (.dS []) (hpL (BF f.vars.toNat f.nodes[i] i l r)):=by
 have cw:=O9 r hr i Uy
 have hw:=Ah hr (i:=i)
 have e : ∀ x : Nd,BF f.vars.toNat x i l r = if x.kind = 0 then (if x.k = 1 then jm l (dP r i) else l)
  else if x.kind = 2 then jm l (x.args.foldl (bM f.vars.toNat) (dP r i))
  else if x.kind = 3 then x.args.foldl (fun l a=>jm l (bM f.vars.toNat (dP r i) a)) l
  else jH f.vars.toNat x.args x.k.toNat l (dP r i):=fun _=>rfl
 rw [e]
 generalize dP r i = r1 at *
 refine bJ.intro lay mixed Try.func39 (by kernel_rfl) rfl (by kernel_rfl) rfl fun hok=>?_
 (try dsimp only[aU,aH]);(try dsimp only[aj]);conv=>whnf
 refine iH hi ?_
 generalize f.nodes[i] = x at *
 (try dsimp only[aj]);conv=>whnf
 refine .pure _ _ ?_ ⟨rfl,rfl⟩ cw fun _=>?_
 ·exact au _
 (try dsimp only[aj]);conv=>whnf
 refine And.intro (fun e0=>?_) (fun e0=>?_)
 ·rw [if_pos e0]
  (try dsimp only[aj]);conv=>whnf
  refine And.intro (fun e1=>?_) (fun e1=>?_)
  ·rw [if_pos e1]
   (try dsimp only[aj]);conv=>whnf
   refine .gen _ _ (bJ.frame [0,1] (yg l r1 hl) ⟨rfl,rfl,rfl,rfl⟩ ?_ ?_) fun _=>?_
   ·all_goals exact wk
   ·all_goals exact wk
   (try dsimp only[aj]);conv=>whnf
   refine ⟨⟨_,_,.refl _ _,?_⟩⟩
   conv=>whnf
   refine ⟨?_,rfl,by simp [nextId],.mk ?_ (by simp [ak])⟩
   ·all_goals exact wk
   ·repeat' first|exact rfl|exact trivial|exact wR|exact lR _|apply aI
    all_goals first | (show dR _ (List.map _ (_ ++ [_])); rw [List.map_append]; exact aP _) | (simp; done) | (simp; omega) | skip
  ·rw [if_neg e1]
   (try dsimp only[aj]);conv=>whnf
   refine ⟨⟨_,_,.refl _ _,?_⟩⟩
   conv=>whnf
   refine ⟨?_,rfl,by simp [nextId],.mk ?_ (by simp [ak])⟩
   ·all_goals exact wk
   ·repeat' first|exact rfl|exact trivial|exact wR|exact lR _|apply aI
    all_goals first | (show dR _ (List.map _ (_ ++ [_])); rw [List.map_append]; exact aP _) | (simp; done) | (simp; omega) | skip
 rw [if_neg e0]
 (try dsimp only[aj]);conv=>whnf
 refine And.intro (fun e2=>?_) (fun e2=>?_)
 ·rw [if_pos e2]
  (try dsimp only[aj]);conv=>whnf
  refine aJ.of <| (aA.inv (.refl _ _) (fun j : Nat=>j <= x.args.length) (fun j=>[(44,.int .i64 (j : Int))]) (fun j=>[(4,.box x.av),(3,.box ((x.args.take j).foldl (bM f.vars.toNat) r1).av),(2,.box f.av),(1,.tok 3 l.length),(0,.box (rL l))]) (fun j=>x.args.length - j) 0 (Nat.zero_le _) ?_ ?_ ?_)
  ·exact fun _=>rfl
  ·refine ⟨?_,.mk ?_ (by simp [ak])⟩
   ·all_goals exact wk
   ·all_goals exact wk
  intro j hj _
  (try dsimp only[aj]);conv=>whnf
  refine And.intro (fun g=>?_) (fun g=>?_)
  ·have hlt : j < x.args.length:=by simp at g; omega
   have hst : (x.args.take (j + 1)).foldl (bM f.vars.toNat) r1 = bM f.vars.toNat ((x.args.take j).foldl (bM f.vars.toNat) r1) x.args[j]:=jh hlt
   have hax:=ha _ (List.getElem_mem hlt)
   have hro : jJ ((x.args.take j).foldl (bM f.vars.toNat) r1):=Ia (by omega) (fun b hb=>by have:=ha b (List.mem_of_mem_take hb); omega) hw
   (try dsimp only[aj]);conv=>whnf
   refine iH hlt ?_
   generalize x.args[j] = a at *
   generalize (x.args.take j).foldl (bM f.vars.toNat) r1 = r2 at *
   have c1:=Gz f hv r2 hro a hax.1 hax.2
   generalize bM f.vars.toNat r2 a = r3 at *
   (try dsimp only[aj]);conv=>whnf
   refine .pure _ _ ?_ ⟨rfl,rfl⟩ c1 fun _=>?_
   ·exact au _
   (try dsimp only[aj]);conv=>whnf
   refine zA ?_;conv=>whnf
   refine ⟨j + 1,?_,?_,?_⟩
   ·exact hlt
   ·rw [hst]
    refine ⟨?_,.mk ?_ (by simp [ak])⟩
    ·all_goals exact wk
    ·all_goals exact wk
   ·omega
  ·have hk : j = x.args.length:=by simp at g; omega
   subst hk
   rw [List.take_length]
   (try dsimp only[aj]);conv=>whnf
   refine .gen _ _ (bJ.frame [0,1] (yg l (x.args.foldl (bM f.vars.toNat) r1) hl) ⟨rfl,rfl,rfl,rfl⟩ ?_ ?_) fun _=>?_
   ·all_goals exact wk
   ·all_goals exact wk
   (try dsimp only[aj]);conv=>whnf
   refine ⟨⟨_,_,.refl _ _,?_⟩⟩
   conv=>whnf
   refine ⟨?_,rfl,by simp [nextId],.mk ?_ (by simp [ak])⟩
   ·all_goals exact wk
   ·repeat' first|exact rfl|exact trivial|exact wR|exact lR _|apply aI
    all_goals first | (show dR _ (List.map _ (_ ++ [_])); rw [List.map_append]; exact aP _) | (simp; done) | (simp; omega) | skip
 rw [if_neg e2]
 (try dsimp only[aj]);conv=>whnf
 refine And.intro (fun e3=>?_) (fun e3=>?_)
 ·rw [if_pos e3]
  (try dsimp only[aj]);conv=>whnf
  refine aJ.of <| (aA.inv (.refl _ _) (fun j : Nat=>j <= x.args.length) (fun j=>[(61,.int .i64 (j : Int))]) (fun j=>[(4,.box x.av),(3,.box r1.av),(2,.box f.av),(1,.tok 3 ((x.args.take j).foldl (fun l a=>jm l (bM f.vars.toNat r1 a)) l).length),(0,.box (rL ((x.args.take j).foldl (fun l a=>jm l (bM f.vars.toNat r1 a)) l)))]) (fun j=>x.args.length - j) 0 (Nat.zero_le _) ?_ ?_ ?_)
  ·exact fun _=>rfl
  ·refine ⟨?_,.mk ?_ (by simp [ak])⟩
   ·all_goals exact wk
   ·all_goals exact wk
  intro j hj _
  (try dsimp only[aj]);conv=>whnf
  refine And.intro (fun g=>?_) (fun g=>?_)
  ·have hlt : j < x.args.length:=by simp at g; omega
   have hst : (x.args.take (j + 1)).foldl (fun l a=>jm l (bM f.vars.toNat r1 a)) l = jm ((x.args.take j).foldl (fun l a=>jm l (bM f.vars.toNat r1 a)) l) (bM f.vars.toNat r1 x.args[j]):=jh hlt
   have hll:=CZ (v:=f.vars.toNat) (args:=x.args.take j) (r:=r1) hl
   have hax:=ha _ (List.getElem_mem hlt)
   (try dsimp only[aj]);conv=>whnf
   refine iH hlt ?_
   generalize x.args[j] = a at *
   generalize (x.args.take j).foldl (fun l a=>jm l (bM f.vars.toNat r1 a)) l = l2 at *
   have c1:=Gz f hv r1 hw a hax.1 hax.2
   generalize bM f.vars.toNat r1 a = r3 at *
   (try dsimp only[aj]);conv=>whnf
   refine .pure _ _ ?_ ⟨rfl,rfl⟩ c1 fun _=>?_
   ·exact au _
   (try dsimp only[aj]);conv=>whnf
   refine .gen _ _ (bJ.frame [0,1] (yg l2 r3 hll) ⟨rfl,rfl,rfl,rfl⟩ ?_ ?_) fun _=>?_
   ·all_goals exact wk
   ·all_goals exact wk
   (try dsimp only[aj]);conv=>whnf
   refine zA ?_;conv=>whnf
   refine ⟨j + 1,?_,?_,?_⟩
   ·exact hlt
   ·rw [hst]
    refine ⟨?_,.mk ?_ (by simp [ak])⟩
    ·all_goals exact wk
    ·all_goals exact wk
   ·omega
  ·have hk : j = x.args.length:=by simp at g; omega
   subst hk
   rw [List.take_length]
   (try dsimp only[aj]);conv=>whnf
   refine ⟨⟨_,_,.refl _ _,?_⟩⟩
   conv=>whnf
   refine ⟨?_,rfl,by simp [nextId],.mk ?_ (by simp [ak])⟩
   ·all_goals exact wk
   ·repeat' first|exact rfl|exact trivial|exact wR|exact lR _|apply aI
    all_goals first | (show dR _ (List.map _ (_ ++ [_])); rw [List.map_append]; exact aP _) | (simp; done) | (simp; omega) | skip
 have e4 : x.kind = 4:=by omega
 have hk4:=hk e4
 rw [if_neg e3]
 have cc:=Cj f hv x.args x.k.toNat l r1 ha hn (by omega) hw hl
 rw [show ((x.k.toNat : Nat) : Int) = x.k by omega] at cc
 (try dsimp only[aj]);conv=>whnf
 refine .gen _ _ (bJ.frame [0,1] (cc) ⟨rfl,rfl,rfl,rfl⟩ ?_ ?_) fun _=>?_
 ·all_goals exact wk
 ·all_goals exact wk
 (try dsimp only[aj]);conv=>whnf
 refine ⟨⟨_,_,.refl _ _,?_⟩⟩
 conv=>whnf
 refine ⟨?_,rfl,by simp [nextId],.mk ?_ (by simp [ak])⟩
 ·all_goals exact wk
 ·repeat' first|exact rfl|exact trivial|exact wR|exact lR _|apply aI
  all_goals first | (show dR _ (List.map _ (_ ++ [_])); rw [List.map_append]; exact aP _) | (simp; done) | (simp; omega) | skip

def ku (o : Int) (r : Rw) : Int:=if r.b = 0 then o else max o ((gy r.b : Int) - 1)
def lH (l : List Rw) : Int:=l.foldl ku (-1)

theorem zL : ∀ (l : List Rw) (o : Int),(∀ r,r ∈ l -> jJ r) -> -1 <= o -> o <= 15 -> -1 <= l.foldl ku o /\ l.foldl ku o <= 15
 | [],_,_,h1,h2=>⟨h1,h2⟩
 | r :: l,o,hk,h1,h2=>by
   have hr:=hk r (by simp)
   have hb : gy r.b <= 16:=qo (n:=16) hr.b
   refine zL l (ku o r) (fun x hx=>hk x (by simp [hx])) ?_ ?_
   ·unfold ku; split <;> omega
   ·unfold ku; split <;> omega

theorem Ls (l : List Rw) (hN : l.length <= 1000000) (hk : ∀ x,x ∈ l -> jJ x) : bJ Try.prog 37 [.sl 3 (l.map Rw.av) .no] [] (.int .i64 (lH l)) []:=by
 refine bJ.intro lay mixed Try.func37 (by kernel_rfl) rfl (by kernel_rfl) rfl fun hok=>?_
 (try dsimp only[aU,aH]);(try dsimp only[aj]);conv=>whnf
 refine aJ.of <| (aA.inv (.refl _ _) (fun j : Nat=>j <= l.length) (fun j=>[(9,.int .i64 (j : Int)),(3,.int .i64 ((l.take j).foldl ku (-1)))]) (fun _=>[]) (fun j=>l.length - j) 0 (Nat.zero_le _) ?_ ?_ ?_)
 ·exact fun _=>rfl
 ·refine ⟨?_,.mk ?_ (by simp [ak])⟩
  ·all_goals exact wk
  ·all_goals exact wk
 intro j hj _
 (try dsimp only[aj]);conv=>whnf
 refine And.intro (fun g=>?_) (fun g=>?_)
 ·have hlt : j < l.length:=by simp at g; omega
  have hst : (l.take (j + 1)).foldl ku (-1) = ku ((l.take j).foldl ku (-1)) l[j]:=jh hlt
  have hro:=hk _ (List.getElem_mem hlt)
  have hrg:=zL (l.take j) (-1) (fun b hb=>hk b (List.mem_of_mem_take hb)) (by omega) (by omega)
  (try dsimp only[aj]);conv=>whnf
  refine iH hlt ?_
  generalize l[j] = r at *
  generalize (l.take j).foldl ku (-1) = o at *
  have hb:=hro.b
  have hbl : gy r.b <= 16:=qo (n:=16) hb
  have hg : ∀ h : ¬ r.b = 0,ku o r = max o ((gy r.b : Int) - 1):=fun h=>if_neg h
  have hg0 : ∀ h : r.b = 0,ku o r = o:=fun h=>if_pos h
  have cL:=Nu r.b (by omega)
  generalize ku o r = o2 at *
  generalize gy r.b = B at *
  (try dsimp only[aj]);conv=>whnf
  refine aJ.step 3 ?_
  (try dsimp only[aj]);conv=>whnf
  refine bY (by decide) ?_
  (try dsimp only[aj]);conv=>whnf
  refine ⟨by decide,?_⟩
  (try dsimp only[aj]);conv=>whnf
  refine bN (by simp) ?_
  (try dsimp only[aj]);conv=>whnf
  refine zA ?_;conv=>whnf
  refine bY (by decide) ?_
  (try dsimp only[aj]);conv=>whnf
  refine ⟨by decide,?_⟩
  (try dsimp only[aj]);conv=>whnf
  refine And.intro (fun hz=>?_) (fun hz=>?_)
  ·have hz : ¬ r.b = 0:=by simp at hz; omega
   have hg:=hg hz
   (try dsimp only[aj]);conv=>whnf
   refine zA ?_;conv=>whnf
   refine ⟨by decide,?_⟩
   (try dsimp only[aj]);conv=>whnf
   refine .pure _ _ ?_ ⟨rfl,rfl⟩ cL fun _=>?_
   ·exact au _
   (try dsimp only[aj]);conv=>whnf
   refine zA ?_;conv=>whnf
   refine zA ?_;conv=>whnf
   refine zA ?_;conv=>whnf
   refine ⟨j + 1,?_,?_,?_⟩
   ·exact hlt
   ·rw [hst]
    refine ⟨?_,.mk ?_ (by simp [ak])⟩
    ·repeat' first|exact rfl|exact trivial|exact wR|exact lR _|apply aI
     all_goals first | (show (_ : Int) = _; omega) | skip
    ·all_goals exact wk
   ·omega
  ·have hz : r.b = 0:=by simp at hz; omega
   have hg:=hg0 hz
   (try dsimp only[aj]);conv=>whnf
   refine zA ?_;conv=>whnf
   refine bN (by decide) ?_
   (try dsimp only[aj]);conv=>whnf
   refine zA ?_;conv=>whnf
   refine ⟨j + 1,?_,?_,?_⟩
   ·exact hlt
   ·rw [hst,hg]
    refine ⟨?_,.mk ?_ (by simp [ak])⟩
    ·all_goals exact wk
    ·all_goals exact wk
   ·omega
 ·have hk : j = l.length:=by simp at g; omega
  subst hk
  rw [List.take_length]
  (try dsimp only[aj]);conv=>whnf
  refine fM ?_;(conv=>whnf);refine ⟨?_,rfl⟩;conv=>whnf
  all_goals exact wk

theorem MC {v : Nat} {l : List Nd} {d : List Bool} : ∀ {k i : Nat},k <= l.length -> ∀ h : i < l.length,i < k -> d.getD (v + i) false = true -> ∃ y,y ∈ (Hy v l d k).2 /\ y.kind = l[i].kind
 | 0,_,_,_,h,_=>absurd h (Nat.not_lt_zero _)
 | k + 1,i,hk,h,hik,hd=>by
   unfold Hy
   by_cases e : i = k
   ·subst e
    rw [if_pos hd]
    refine ⟨Ig (Hy v l d i).1 (l.getD i default),by simp,?_⟩
    show (l.getD i default).kind = _
    rw [List.getD_eq_getElem?_getD,List.getElem?_eq_getElem h]; rfl
   ·obtain ⟨y,hy,hyk⟩:=MC (v:=v) (d:=d) (k:=k) (by omega) h (by omega) hd
    split
    ·exact ⟨y,by simp [hy],hyk⟩
    ·exact ⟨y,hy,hyk⟩

theorem Jb {f : Fo} (h : yC f) (hc : tX f = true) {i : Nat} (hi : i < f.nodes.length) (hb : TY f.vars.toNat f.nodes f.top.toNat (f.vars.toNat + i)) :
  f.nodes[i].kind = 0 \/ f.nodes[i].kind = 2 \/ f.nodes[i].kind = 3 \/ f.nodes[i].kind = 4:=by
 have h1:=h.vars
 have h4:=h.top
 have hd:=(CQ (v:=f.vars.toNat) (l:=f.nodes) (top:=f.top.toNat) (by omega) h.args (f.vars.toNat + i)).2 hb
 obtain ⟨y,hy,hyk⟩:=MC (v:=f.vars.toNat) (d:=zy f) (Nat.le_refl f.nodes.length) hi hi hd
 unfold tX at hc
 rw [Bool.not_eq_true',List.any_eq_false] at hc
 have hy2:=hc y hy
 have nk:=(h.nodes i hi).kind
 unfold kZ at hy2
 simp at hy2
 omega

def jK (v : Nat) (tv : Nat -> Bool) (r : Rw) : Prop:=(∀ i,r.e.testBit i = true -> tv i = true) /\ ∀ i,r.b.testBit i = true -> tv (v + i) = true

structure JF (f : Fo) (r : Rw) : Prop where
 ok : jJ r
 e : ∀ i,r.e.testBit i = true -> i < f.vars.toNat
 b : ∀ i,r.b.testBit i = true -> i < f.nodes.length /\ TY f.vars.toNat f.nodes f.top.toNat (f.vars.toNat + i)

theorem Ec {f : Fo} (hv : 0 <= f.vars /\ f.vars <= 8) (hn : f.nodes.length <= 16) {r : Rw} (h : JF f r) {a : Int} (h0 : 0 <= a) (h1 : a < f.vars + f.nodes.length) (hb : TY f.vars.toNat f.nodes f.top.toNat a.toNat) : JF f (bM f.vars.toNat r a):=by
 refine ⟨FH h.ok (by omega) (by omega) h0,fun i hi=>?_,fun i hi=>?_⟩
 ·unfold bM at hi
  split at hi
  ·rw [Nat.testBit_or,Nat.testBit_two_pow,Bool.or_eq_true,decide_eq_true_eq] at hi
   rcases hi with hi | hi
   ·exact h.e i hi
   ·omega
  ·exact h.e i hi
 ·unfold bM at hi
  split at hi
  ·exact h.b i hi
  ·rw [Nat.testBit_or,Nat.testBit_two_pow,Bool.or_eq_true,decide_eq_true_eq] at hi
   rcases hi with hi | hi
   ·exact h.b i hi
   ·rename_i hva
    rw [show a.toNat = f.vars.toNat + i by omega] at hb
    exact ⟨by omega,hb⟩

theorem oJ {v : Nat} {tv : Nat -> Bool} {r : Rw} {a : Int} (h0 : 0 <= a) : jK v tv (bM v r a) ↔ jK v tv r /\ tv a.toNat = true:=by
 unfold jK bM
 split
 ·refine ⟨fun ⟨h1,h2⟩=>⟨⟨fun i hi=>h1 i ?_,h2⟩,h1 _ ?_⟩,fun ⟨⟨h1,h2⟩,h3⟩=>⟨fun i hi=>?_,h2⟩⟩
  ·show (r.e ||| 2 ^ a.toNat).testBit i = true
   rw [Nat.testBit_or,hi]; rfl
  ·show (r.e ||| 2 ^ a.toNat).testBit a.toNat = true
   rw [Nat.testBit_or,Nat.testBit_two_pow_self,Bool.or_true]
  ·have hi : (r.e ||| 2 ^ a.toNat).testBit i = true:=hi
   rw [Nat.testBit_or,Nat.testBit_two_pow,Bool.or_eq_true,decide_eq_true_eq] at hi
   rcases hi with hi | hi
   ·exact h1 i hi
   ·rw [<- hi]; exact h3
 ·rename_i hva
  refine ⟨fun ⟨h1,h2⟩=>⟨⟨h1,fun i hi=>h2 i ?_⟩,?_⟩,fun ⟨⟨h1,h2⟩,h3⟩=>⟨h1,fun i hi=>?_⟩⟩
  ·show (r.b ||| 2 ^ (a.toNat - v)).testBit i = true
   rw [Nat.testBit_or,hi]; rfl
  ·have:=h2 (a.toNat - v) (by show (r.b ||| 2 ^ (a.toNat - v)).testBit (a.toNat - v) = true; rw [Nat.testBit_or,Nat.testBit_two_pow_self,Bool.or_true])
   rwa [show v + (a.toNat - v) = a.toNat by omega] at this
  ·have hi : (r.b ||| 2 ^ (a.toNat - v)).testBit i = true:=hi
   rw [Nat.testBit_or,Nat.testBit_two_pow,Bool.or_eq_true,decide_eq_true_eq] at hi
   rcases hi with hi | hi
   ·exact h2 i hi
   ·rwa [show v + i = a.toNat by omega]

theorem JX {v : Nat} {r : Rw} {a : Int} {i : Nat} (h : r.b < 2 ^ i) (ha : a < (v : Int) + i) : (bM v r a).b < 2 ^ i:=by
 unfold bM
 split
 ·exact h
 ·exact Nat.or_lt_two_pow h (Nat.pow_lt_pow_right (by decide) (by omega))

theorem FB {r : Rw} (h : jJ r) {i j : Nat} : (dP r i).b.testBit j = (r.b.testBit j && !decide (i = j)):=by
 have:=h.b
 show (iC r.b (2 ^ i)).testBit j = _
 rw [iV (by omega),Nat.testBit_two_pow]

theorem FD {f : Fo} {r : Rw} (h : JF f r) {i : Nat} : JF f (dP r i):=by
 refine ⟨Ah h.ok,h.e,fun j hj=>?_⟩
 rw [FB h.ok] at hj
 simp at hj
 exact h.b j hj.1

theorem FC {v : Nat} {tv : Nat -> Bool} {r : Rw} (h : jJ r) {i : Nat} (hi : r.b.testBit i = true) : jK v tv r ↔ jK v tv (dP r i) /\ tv (v + i) = true:=by
 refine ⟨fun ⟨h1,h2⟩=>⟨⟨h1,fun j hj=>?_⟩,h2 i hi⟩,fun ⟨⟨h1,h2⟩,h3⟩=>⟨h1,fun j hj=>?_⟩⟩
 ·rw [FB h] at hj
  simp at hj
  exact h2 j hj.1
 ·by_cases e : i = j
  ·subst e; exact h3
  ·refine h2 j ?_
   rw [FB h,hj]; simp [e]

theorem EY {x i j : Nat} (h : x < 2 ^ i) (hij : i <= j) : x.testBit j = false :=
 Nat.testBit_lt_two_pow (Nat.lt_of_lt_of_le h (Nat.pow_le_pow_right (by decide) hij))

theorem DR {r : Rw} (h : jJ r) {i : Nat} (hr : r.b < 2 ^ (i + 1)) : (dP r i).b < 2 ^ i:=by
 refine Nat.lt_pow_two_of_testBit _ fun j hj=>?_
 rw [FB h]
 by_cases e : i = j
 ·simp [e]
 ·rw [EY hr (by omega)]; rfl

structure App (F : List Rw -> List Rw) (p : List Rw) : Prop where
 mono : ∀ l,l.length <= (F l).length
 eq : ∀ l,(F l).length <= 4096 -> F l = l ++ p

theorem App.id : App (fun l=>l) []:=⟨fun _=>Nat.le_refl _,fun _ _=>by simp⟩
theorem App.add (r : Rw) : App (fun l=>jm l r) [r]:=by
 refine ⟨fun l=>?_,fun l h=>?_⟩
 ·show l.length <= (jm l r).length
  unfold jm; split
  ·simp
  ·exact Nat.le_refl _
 ·show jm l r = _
  have h : (jm l r).length <= 4096:=h
  unfold jm at h ⊢
  split at h
  ·rw [if_pos (by assumption)]
  ·omega
theorem App.seq {F G : List Rw -> List Rw} {p q : List Rw} (h : App F p) (g : App G q) : App (fun l=>G (F l)) (p ++ q):=by
 refine ⟨fun l=>Nat.le_trans (h.mono l) (g.mono _),fun l hl=>?_⟩
 have h1:=g.eq (F l) hl
 have h2:=h.eq l (Nat.le_trans (g.mono _) hl)
 show G (F l) = _
 rw [h1,h2,List.append_assoc]
theorem App.fold {α : Type} {F : List Rw -> α -> List Rw} {p : α -> List Rw} : ∀ (args : List α),(∀ a,a ∈ args -> App (fun l=>F l a) (p a)) -> App (fun l=>args.foldl F l) (args.flatMap p)
 | [],_=>App.id
 | a :: bs,h=>by
   have h1:=App.seq (h a (by simp)) (App.fold bs fun b hb=>h b (by simp [hb]))
   rw [List.flatMap_cons]
   exact h1

def zu (v : Nat) : List Int -> Nat -> Rw -> List Rw
 | [],k,r=>if 0 < k then [] else [r]
 | a :: bs,k,r=>if bs.length + 1 < k then [] else if k = 0 then [r] else zu v bs (k - 1) (bM v r a) ++ zu v bs k r

theorem App.Y5 {v : Nat} : ∀ (args : List Int) (k : Nat) (r : Rw),App (fun l=>jH v args k l r) (zu v args k r)
 | [],k,r=>by
   have ha:=App.add r
   unfold zu
   refine ⟨fun l=>?_,fun l h=>?_⟩
   ·show l.length <= (jH v [] k l r).length
    unfold jH; split
    ·exact Nat.le_refl _
    ·exact ha.mono l
   ·have h : (jH v [] k l r).length <= 4096:=h
    show jH v [] k l r = _
    unfold jH at h ⊢
    split at h
    ·rename_i g
     rw [if_pos g,if_pos (by omega)]; simp
    ·rename_i g
     rw [if_neg g,if_neg (by omega)]
     exact ha.eq l h
 | a :: bs,k,r=>by
   have ha:=App.add r
   have hs:=App.seq (App.Y5 (v:=v) bs (k - 1) (bM v r a)) (App.Y5 (v:=v) bs k r)
   unfold zu
   refine ⟨fun l=>?_,fun l h=>?_⟩
   ·show l.length <= (jH v (a :: bs) k l r).length
    unfold jH; split
    ·exact Nat.le_refl _
    ·split
     ·exact ha.mono l
     ·exact hs.mono l
   ·have h : (jH v (a :: bs) k l r).length <= 4096:=h
    show jH v (a :: bs) k l r = _
    unfold jH at h ⊢
    split at h
    ·rename_i g
     have g1 : bs.length + 1 < k:=by omega
     rw [if_pos g,if_pos g1]; simp
    ·rename_i g
     have g1 : ¬ bs.length + 1 < k:=by omega
     rw [if_neg g,if_neg g1]
     split at h
     ·rename_i g2
      rw [if_pos g2,if_pos g2]; exact ha.eq l h
     ·rename_i g2
      rw [if_neg g2,if_neg g2]; exact hs.eq l h

def Gs (v : Nat) (x : Nd) (i : Nat) (r : Rw) : List Rw :=
 if x.kind = 0 then (if x.k = 1 then [dP r i] else [])
 else if x.kind = 2 then [x.args.foldl (bM v) (dP r i)]
 else if x.kind = 3 then x.args.flatMap (fun a=>[bM v (dP r i) a])
 else zu v x.args x.k.toNat (dP r i)

theorem App.exp {v : Nat} {x : Nd} {i : Nat} (r : Rw) : App (fun l=>BF v x i l r) (Gs v x i r):=by
 unfold BF Gs
 split
 ·split
  ·exact App.add _
  ·exact App.id
 ·split
  ·exact App.add _
  ·split
   ·exact App.fold (F:=fun l a=>jm l (bM v (dP r i) a)) _ fun a _=>App.add _
   ·exact App.Y5 _ _ _

def nH (v : Nat) (nodes : List Nd) (i : Nat) (rows : List Rw) : List Rw:=rows.foldl (fun l r=>if r.b.testBit i then BF v (nodes.getD i default) i l r else jm l r) []

theorem Qc {v : Nat} {nodes : List Nd} {i : Nat} {rows : List Rw} (h : (nH v nodes i rows).length <= 4096) :
  nH v nodes i rows = rows.flatMap fun r=>if r.b.testBit i then Gs v (nodes.getD i default) i r else [r]:=by
 have:=App.fold (F:=fun l r=>if r.b.testBit i then BF v (nodes.getD i default) i l r else jm l r) (p:=fun r=>if r.b.testBit i then Gs v (nodes.getD i default) i r else [r]) rows fun r _=>by
  cases r.b.testBit i
  ·exact App.add r
  ·exact App.exp r
 have h2:=this.eq [] h
 exact h2

def kC (tv : Nat -> Bool) (args : List Int) : Nat:=args.countP fun a=>tv a.toNat

structure TV (f : Fo) (tv : Nat -> Bool) : Prop where
 nd : ∀ (i : Nat) (h : i < f.nodes.length),tv (f.vars.toNat + i) = kD f.nodes[i] (kC tv f.nodes[i].args)

theorem yc {v : Nat} {tv : Nat -> Bool} : ∀ (args : List Int) (k : Nat) (r : Rw),(∀ a,a ∈ args -> 0 <= a) -> ((∃ x,x ∈ zu v args k r /\ jK v tv x) ↔ jK v tv r /\ k <= kC tv args)
 | [],k,r,_=>by
   unfold zu kC
   split
   ·simp; omega
   ·simp; omega
 | a :: bs,k,r,ha=>by
   have h0:=ha a (by simp)
   have h1:=yc (v:=v) (tv:=tv) bs (k - 1) (bM v r a) fun b hb=>ha b (by simp [hb])
   have h2:=yc (v:=v) (tv:=tv) bs k r fun b hb=>ha b (by simp [hb])
   have hc : kC tv (a :: bs) = kC tv bs + if tv a.toNat = true then 1 else 0:=by unfold kC; rw [List.countP_cons]
   have hb : kC tv bs <= bs.length:=List.countP_le_length
   unfold zu
   split
   ·have : ¬ k <= kC tv (a :: bs):=by rw [hc]; split <;> omega
    simp [this]
   ·split
    ·rename_i hk
     subst hk
     simp
    ·rename_i hk
     simp only [List.mem_append,or_and_right,exists_or]
     rw [h1,h2,hc,oJ h0]
     cases Yp : tv a.toNat
     ·simp
     ·simp
      intro h h'
      exact ⟨h,by omega⟩

theorem Ag {v : Nat} {tv : Nat -> Bool} : ∀ (args : List Int) (r : Rw),(∀ a,a ∈ args -> 0 <= a) -> (jK v tv (args.foldl (bM v) r) ↔ jK v tv r /\ kC tv args = args.length)
 | [],r,_=>by simp [kC]
 | a :: bs,r,ha=>by
   have hb : kC tv bs <= bs.length:=List.countP_le_length
   have hc : kC tv (a :: bs) = kC tv bs + if tv a.toNat = true then 1 else 0:=by unfold kC; rw [List.countP_cons]
   rw [List.foldl_cons,Ag bs _ fun b hb=>ha b (by simp [hb]),oJ (ha a (by simp)),hc]
   cases tv a.toNat <;> simp <;> omega

theorem Q7 {f : Fo} {tv : Nat -> Bool} (ht : TV f tv) {i : Nat} (hi : i < f.nodes.length) (hx : f.nodes[i].kind = 0 \/ f.nodes[i].kind = 2 \/ f.nodes[i].kind = 3 \/ f.nodes[i].kind = 4) (hk : f.nodes[i].kind = 4 -> 0 <= f.nodes[i].k)
  (ha : ∀ a,a ∈ f.nodes[i].args -> 0 <= a) {r : Rw} (hr : jJ r) (hb : r.b.testBit i = true) : (∃ x,x ∈ Gs f.vars.toNat f.nodes[i] i r /\ jK f.vars.toNat tv x) ↔ jK f.vars.toNat tv r:=by
 rw [FC hr hb,ht.nd i hi]
 generalize f.nodes[i] = x at *
 unfold Gs kD
 rcases hx with h | h | h | h <;> rw [h]
 ·rw [if_pos rfl,if_pos rfl]
  split <;> simp_all
 ·rw [if_neg (by decide),if_pos rfl,if_neg (by decide),if_neg (by decide),if_pos rfl]
  simp only [List.mem_singleton,exists_eq_left,decide_eq_true_eq]
  exact Ag _ _ ha
 ·rw [if_neg (by decide),if_neg (by decide),if_pos rfl,if_neg (by decide),if_neg (by decide),if_neg (by decide),if_pos rfl]
  simp only [decide_eq_true_eq,List.mem_flatMap,List.mem_singleton]
  unfold kC
  rw [List.countP_pos_iff]
  constructor
  ·rintro ⟨y,⟨a,h1,rfl⟩,h2⟩
   have h3:=(oJ (ha a h1)).1 h2
   exact ⟨h3.1,a,h1,h3.2⟩
  ·rintro ⟨h1,a,h2,h3⟩
   exact ⟨_,⟨a,h2,rfl⟩,(oJ (ha a h2)).2 ⟨h1,h3⟩⟩
 ·rw [if_neg (by decide),if_neg (by decide),if_neg (by decide),if_neg (by decide),if_neg (by decide),if_neg (by decide),if_neg (by decide),if_pos rfl]
  rw [yc _ _ _ ha]
  have:=hk h
  simp only [decide_eq_true_eq]
  refine and_congr Iff.rfl ?_
  omega

theorem x9 {v : Nat} {P : Rw -> Prop} : ∀ (args : List Int) (k : Nat) (r : Rw),(∀ a r,a ∈ args -> P r -> P (bM v r a)) -> P r -> ∀ x,x ∈ zu v args k r -> P x
 | [],k,r,_,h0,x,hx=>by
   unfold zu at hx
   split at hx
   ·cases hx
   ·rw [List.mem_singleton.1 hx]; exact h0
 | a :: bs,k,r,hs,h0,x,hx=>by
   unfold zu at hx
   split at hx
   ·cases hx
   ·split at hx
    ·rw [List.mem_singleton.1 hx]; exact h0
    ·rcases List.mem_append.1 hx with hx | hx
     ·exact x9 bs _ _ (fun b r hb=>hs b r (by simp [hb])) (hs a r (by simp) h0) x hx
     ·exact x9 bs _ _ (fun b r hb=>hs b r (by simp [hb])) h0 x hx

theorem Af {v : Nat} {P : Rw -> Prop} : ∀ (args : List Int) (r : Rw),(∀ a r,a ∈ args -> P r -> P (bM v r a)) -> P r -> P (args.foldl (bM v) r)
 | [],_,_,h0=>h0
 | a :: bs,r,hs,h0=>Af bs (bM v r a) (fun b r hb=>hs b r (by simp [hb])) (hs a r (by simp) h0)

theorem OU {v : Nat} {P : Rw -> Prop} {x : Nd} {i : Nat} {r : Rw} (hs : ∀ a r,a ∈ x.args -> P r -> P (bM v r a)) (h0 : P (dP r i)) : ∀ y,y ∈ Gs v x i r -> P y:=by
 intro y hy
 unfold Gs at hy
 split at hy
 ·split at hy
  ·rw [List.mem_singleton.1 hy]; exact h0
  ·cases hy
 ·split at hy
  ·rw [List.mem_singleton.1 hy]; exact Af _ _ hs h0
  ·split at hy
   ·obtain ⟨a,ha,h⟩:=List.mem_flatMap.1 hy
    rw [List.mem_singleton.1 h]; exact hs a _ ha h0
   ·exact x9 _ _ _ hs h0 y hy

theorem Ez {a b : Nat} (ha : a < 2 ^ 63) (h : iC a b = 0) {i : Nat} (hi : a.testBit i = true) : b.testBit i = true:=by
 have h1 : (iC a b).testBit i = false:=by rw [h]; exact Nat.zero_testBit i
 rw [iV (by omega),hi] at h1
 simpa using h1

theorem Ot {v : Nat} {tv : Nat -> Bool} {x y : Rw} (hy : jJ y) (h : nO y x = true) (hx : jK v tv x) : jK v tv y:=by
 have h1:=hy.e
 have h2:=hy.b
 unfold nO at h
 rw [Bool.and_eq_true,decide_eq_true_eq,decide_eq_true_eq] at h
 exact ⟨fun i hi=>hx.1 i (Ez (by omega) h.1 hi),fun i hi=>hx.2 i (Ez (by omega) h.2 hi)⟩

theorem QA {v : Nat} {tv : Nat -> Bool} {l m : List Rw} (h : TF l m) (hl : ∀ x,x ∈ l -> jJ x) : (∃ x,x ∈ m /\ jK v tv x) ↔ ∃ x,x ∈ l /\ jK v tv x:=by
 constructor
 ·rintro ⟨x,hx,hh⟩; exact ⟨x,h.sub x hx,hh⟩
 ·rintro ⟨x,hx,hh⟩
  obtain ⟨y,hy,hp⟩:=h.Y2 x hx
  exact ⟨y,hy,Ot (hl y (h.sub y hy)) hp hh⟩

theorem KP : ∀ (l : List Rw) (o : Int),o <= l.foldl ku o /\ ∀ r,r ∈ l -> (r.b = 0 \/ (gy r.b : Int) - 1 <= l.foldl ku o)
 | [],o=>⟨by simp,by simp⟩
 | r :: l,o=>by
   obtain ⟨h1,h2⟩:=KP l (ku o r)
   have h3 : o <= ku o r /\ (r.b = 0 \/ (gy r.b : Int) - 1 <= ku o r):=by unfold ku; split <;> omega
   rw [List.foldl_cons]
   refine ⟨by omega,fun x hx=>?_⟩
   rcases List.mem_cons.1 hx with rfl | hx
   ·omega
   ·exact h2 x hx

theorem QY {n : Nat} : ∀ (l : List Rw) (o : Int),o < n -> (∀ r,r ∈ l -> r.b < 2 ^ n) -> l.foldl ku o < n
 | [],o,h,_=>h
 | r :: l,o,h,hl=>by
   refine QY l (ku o r) ?_ fun x hx=>hl x (by simp [hx])
   have hb:=hl r (by simp)
   have : gy r.b <= n:=qo hb
   unfold ku; split <;> omega

theorem MW : ∀ (l : List Rw) (o : Int),l.foldl ku o = o \/ ∃ r,r ∈ l /\ r.b ≠ 0 /\ l.foldl ku o = (gy r.b : Int) - 1
 | [],_=>.inl rfl
 | r :: l,o=>by
   rw [List.foldl_cons]
   rcases MW l (ku o r) with h | ⟨x,h1,h2,h3⟩
   ·by_cases h0 : r.b = 0
    ·left; rw [h]; unfold ku; rw [if_pos h0]
    ·unfold ku at h ⊢
     rw [if_neg h0] at h ⊢
     rcases Int.le_total o ((gy r.b : Int) - 1) with h4 | h4
     ·right; exact ⟨r,by simp,h0,by rw [h]; omega⟩
     ·left; rw [h]; omega
   ·right; exact ⟨x,by simp [h1],h2,h3⟩

theorem UD {l : List Rw} {i : Nat} (h : lH l = (i : Int)) : ∀ r,r ∈ l -> r.b < 2 ^ (i + 1):=by
 intro r hr
 rcases (KP l (-1)).2 r hr with h0 | h1
 ·rw [h0]; exact Nat.two_pow_pos _
 ·by_cases hb : r.b = 0
  ·rw [hb]; exact Nat.two_pow_pos _
  ·obtain ⟨k,k1,k2,k3⟩:=mD hb
   unfold lH at h
   have : k <= i:=by omega
   exact Nat.lt_of_lt_of_le k3 (Nat.pow_le_pow_right (by decide) (by omega))

theorem UC {l : List Rw} {i : Nat} (h : lH l = (i : Int)) : ∃ r,r ∈ l /\ r.b.testBit i = true:=by
 rcases MW l (-1) with h0 | ⟨r,h1,h2,h3⟩
 ·unfold lH at h; omega
 ·refine ⟨r,h1,?_⟩
  obtain ⟨k,k1,k2,k3⟩:=mD h2
  unfold lH at h
  obtain rfl : k = i:=by omega
  rw [Nat.testBit_eq_decide_div_mod_eq]
  have : r.b / 2 ^ k = 1:=by
   have h4 : r.b / 2 ^ k < 2:=(Nat.div_lt_iff_lt_mul (Nat.two_pow_pos k)).2 (by rw [Nat.pow_succ] at k3; omega)
   have h5 : 1 <= r.b / 2 ^ k:=(Nat.le_div_iff_mul_le (Nat.two_pow_pos k)).2 (by omega)
   omega
  rw [this]; rfl

theorem UA {l : List Rw} (h : lH l < 0) : ∀ r,r ∈ l -> r.b = 0:=by
 intro r hr
 rcases (KP l (-1)).2 r hr with h0 | h1
 ·exact h0
 ·by_cases hb : r.b = 0
  ·exact hb
  ·obtain ⟨k,k1,_,_⟩:=mD hb
   unfold lH at h
   omega

def DT (v : Nat) (nodes : List Nd) : Nat -> List Rw -> Option (List Rw)
 | 0,_=>none
 | n + 1,rows=>if lH rows < 0 then some rows else if (nH v nodes (lH rows).toNat rows).length < 20 then DT v nodes n (Wj (nH v nodes (lH rows).toNat rows)) else none

def DU (f : Fo) : List Rw:=[bM f.vars.toNat ⟨0,0⟩ f.top]

structure D9 (f : Fo) (rows : List Rw) : Prop where
 good : ∀ r,r ∈ rows -> JF f r
 len : rows.length <= 1024
 sem : ∀ tv,TV f tv -> ((∃ r,r ∈ rows /\ jK f.vars.toNat tv r) ↔ tv f.top.toNat = true)
 ex : ∀ m,DT f.vars.toNat f.nodes 20 (DU f) = some m -> ∃ k,DT f.vars.toNat f.nodes k rows = some m

structure JH (f : Fo) : Prop where
 ok : yC f
 vars : f.vars <= 8
 len : f.nodes.length <= 16
 ZA : tX f = true

theorem Kr {f : Fo} (h : JH f) : D9 f (DU f):=by
 have hv:=h.ok.vars
 have ht:=h.ok.top
 have h8:=h.vars
 have h0 : JF f ⟨0,0⟩:=⟨⟨by decide,by decide⟩,by simp,by simp⟩
 have hg:=Ec ⟨hv.1,h8⟩ h.len h0 ht.1 ht.2 .root
 refine ⟨fun r hr=>?_,by simp [DU],fun tv _=>?_,fun m hm=>⟨20,hm⟩⟩
 ·rw [DU,List.mem_singleton] at hr; rw [hr]; exact hg
 ·unfold DU
  simp only [List.mem_singleton,exists_eq_left]
  rw [oJ ht.1]
  simp [jK]

theorem D9.nd {f : Fo} (h : JH f) {rows : List Rw} (hI : D9 f rows) {i : Nat} (hi : lH rows = (i : Int)) : ∃ hl : i < f.nodes.length,(f.nodes[i].kind = 0 \/ f.nodes[i].kind = 2 \/ f.nodes[i].kind = 3 \/ f.nodes[i].kind = 4) /\ TY f.vars.toNat f.nodes f.top.toNat (f.vars.toNat + i):=by
 obtain ⟨r,hr,hb⟩:=UC hi
 obtain ⟨h1,h2⟩:=(hI.good r hr).b i hb
 exact ⟨h1,Jb h.ok h.ZA h1 h2,h2⟩

theorem Eh {f : Fo} (h : JH f) {rows : List Rw} (hI : D9 f rows) {i : Nat} (hi : lH rows = (i : Int)) (hl : (nH f.vars.toNat f.nodes i rows).length <= 4096) :
  (∀ r,r ∈ nH f.vars.toNat f.nodes i rows -> JF f r /\ r.b < 2 ^ i) /\ ∀ tv,TV f tv -> ((∃ r,r ∈ nH f.vars.toNat f.nodes i rows /\ jK f.vars.toNat tv r) ↔ tv f.top.toNat = true):=by
 obtain ⟨hil,hk,hbel⟩:=hI.nd h hi
 have hv:=h.ok.vars
 have h8:=h.vars
 have nk:=h.ok.nodes i hil
 have WH:=UD hi
 have hnd : f.nodes.getD i default = f.nodes[i]:=by rw [List.getD_eq_getElem?_getD,List.getElem?_eq_getElem hil]; rfl
 rw [Qc hl,hnd]
 refine ⟨fun r hr=>?_,fun tv ht=>?_⟩
 ·obtain ⟨r0,h0,h1⟩:=List.mem_flatMap.1 hr
  have g0:=hI.good r0 h0
  have b0:=WH r0 h0
  split at h1
  ·rename_i hb
   refine OU (P:=fun r=>JF f r /\ r.b < 2 ^ i) (fun a r ha hp=>?_) ⟨FD g0,DR g0.ok b0⟩ r h1
   have hab:=nk.args a ha
   refine ⟨Ec ⟨hv.1,h8⟩ h.len hp.1 hab.1 (by omega) (.step hbel hil ?_),JX hp.2 (by omega)⟩
   unfold argsAt
   rw [hnd]; exact ha
  ·rename_i hb
   rw [List.mem_singleton.1 h1]
   refine ⟨g0,Nat.lt_pow_two_of_testBit _ fun j hj=>?_⟩
   by_cases e : i = j
   ·subst e; simpa using hb
   ·exact EY b0 (by omega)
 ·rw [<- hI.sem tv ht]
  have key : ∀ r,r ∈ rows -> ((∃ x,x ∈ (if r.b.testBit i = true then Gs f.vars.toNat f.nodes[i] i r else [r]) /\ jK f.vars.toNat tv x) ↔ jK f.vars.toNat tv r):=by
   intro r hr
   split
   ·rename_i hb
    have hk4 : f.nodes[i].kind = 4 -> 0 <= f.nodes[i].k:=fun e=>by
     have:=nk.k
     rw [if_neg (by omega),if_pos e] at this
     omega
    exact Q7 ht hil hk hk4 (fun a ha=>(nk.args a ha).1) (hI.good r hr).ok hb
   ·simp
  constructor
  ·rintro ⟨x,hx,hh⟩
   obtain ⟨r,hr,h1⟩:=List.mem_flatMap.1 hx
   exact ⟨r,hr,(key r hr).1 ⟨x,h1,hh⟩⟩
  ·rintro ⟨r,hr,hh⟩
   obtain ⟨x,h1,h2⟩:=(key r hr).2 hh
   exact ⟨x,List.mem_flatMap.2 ⟨r,hr,h1⟩,h2⟩

theorem D9.Zy {f : Fo} {rows : List Rw} (hI : D9 f rows) {i : Nat} (hi : lH rows = (i : Int)) {m : List Rw} (hm : DT f.vars.toNat f.nodes 20 (DU f) = some m) :
  (nH f.vars.toNat f.nodes i rows).length < 20 /\ ∃ k,DT f.vars.toNat f.nodes k (Wj (nH f.vars.toNat f.nodes i rows)) = some m:=by
 obtain ⟨k,hk⟩:=hI.ex m hm
 cases k with
 | zero=>cases hk
 | succ k =>
   unfold DT at hk
   rw [hi,if_neg (by omega),Int.toNat_natCast] at hk
   split at hk
   ·rename_i h1; exact ⟨h1,k,hk⟩
   ·cases hk

theorem Om {f : Fo} (h : JH f) {rows m : List Rw} (hI : D9 f rows) {i : Nat} (hi : lH rows = (i : Int)) (hl : (nH f.vars.toNat f.nodes i rows).length <= 4096) (hm : TF (nH f.vars.toNat f.nodes i rows) m) (hml : m.length <= 1024) :
  D9 f m /\ lH m < i:=by
 obtain ⟨h1,h2⟩:=Eh h hI hi hl
 refine ⟨⟨fun r hr=>(h1 r (hm.sub r hr)).1,hml,fun tv ht=>?_,fun y hy=>?_⟩,?_⟩
 ·rw [<- h2 tv ht]; exact QA hm fun x hx=>(h1 x hx).1.ok
 ·obtain ⟨h3,h4⟩:=hI.Zy hi hy
  rw [hm.ex h3]; exact h4
 ·exact QY m (-1) (by omega) fun r hr=>(h1 r (hm.sub r hr)).2

structure Xf (f : Fo) (rows : List Rw) : Prop where
 inv : D9 f rows
 neg : lH rows < 0

def Zb (f : Fo) (R : AV) : Prop:=(R = .dS [.bH,.bH,eL] /\ ∀ m,DT f.vars.toNat f.nodes 20 (DU f) ≠ some m) \/ ∃ rows steps,R = .dS [.sl 3 (rows.map Rw.av) .no,iA steps,.dU] /\ Xf f rows

theorem Pg (l : List Rw) (hN : l.length <= 1000000) (hk : ∀ x,x ∈ l -> jJ x) : dK Try.prog 41 [.sl 3 (l.map Rw.av) .no] [] (PQ fun R=>∃ m,R = .sl 3 (m.map Rw.av) .no /\ TF l m) :=
 dK.mono (RH l hN hk) fun _ _ ⟨h1,m,h2,h3⟩=>⟨h1,by rw [h2]; rfl,m,h2,h3⟩

theorem X5 (f : Fo) (h : JH f) : dK Try.prog 19 [f.av] [] (PQ (Zb f)):=by
 have cs:=EX f h.ok
 rw [h.ZA] at cs
 have hv:=h.ok.vars
 have h8:=h.vars
 have ht:=h.ok.top
 have hn:=h.len
 have cw:=Gz f ⟨hv.1,h8⟩ ⟨0,0⟩ ⟨by decide,by decide⟩ f.top ht.1 (by omega)
 have hS:=Kr h
 rw [DU] at hS
 generalize hw : bM f.vars.toNat ⟨0,0⟩ f.top = w at *
 refine dK.intro lay mixed Try.func19 (by kernel_rfl) rfl (by kernel_rfl) rfl fun hok=>?_
 (try dsimp only[aU,aH]);(try dsimp only[aj]);conv=>whnf
 refine .pure _ _ ?_ ⟨rfl,rfl⟩ cs fun _=>?_
 ·exact au _
 (try dsimp only[aj]);conv=>whnf
 refine And.intro (fun e=>by cases e) (fun _=>?_)
 (try dsimp only[aj]);conv=>whnf
 refine .pure _ _ ?_ ⟨rfl,rfl⟩ cw fun _=>?_
 ·exact au _
 (try dsimp only[aj]);conv=>whnf
 refine aJ.of <| (aA.inv (.grow 8 1 [] .bH rfl (.inl ⟨rfl,rfl⟩) (.refl _ _)) (fun x : List Rw × List Int=>D9 f x.1 /\ (x.2.length : Int) + lH x.1 <= 16) (fun x=>[(7,.sl 3 (x.1.map Rw.av) .no),(8,.sl 1 (x.2.map (.int .i64)) (.own 1))]) (fun x=>[(1,.tok 1 x.2.length),(0,.box f.av)]) (fun x=>(lH x.1 + 1).toNat) ([w],[]) ⟨hS,?_⟩ ?_ ?_ ?_)
 ·have:=zL [w] (-1) (fun r hr=>(hS.good r hr).ok) (by omega) (by omega)
  show ((0 : Nat) : Int) + lH [w] <= 16
  unfold lH
  omega
 ·exact fun _=>rfl
 ·refine ⟨?_,.mk ?_ (by simp [ak])⟩
  ·all_goals exact wk
  ·all_goals exact wk
 rintro ⟨rows,steps⟩ ⟨hI,hst⟩ _
 dsimp only at hI hst ⊢
 have hIl:=hI.len
 have cg:=Ls rows (by omega) fun r hr=>(hI.good r hr).ok
 have hgr:=zL rows (-1) (fun r hr=>(hI.good r hr).ok) (by omega) (by omega)
 have hgr : -1 <= lH rows /\ lH rows <= 15:=hgr
 have hneg : lH rows < 0 -> Xf f rows:=fun e=>⟨hI,e⟩
 obtain ⟨z,hz⟩ : ∃ z,z = lH rows:=⟨_,rfl⟩
 rw [<- hz] at cg hgr hneg hst
 (try dsimp only[aj]);conv=>whnf
 refine .pure _ _ ?_ ⟨rfl,rfl⟩ cg fun _=>?_
 ·exact au _
 (try dsimp only[aj]);conv=>whnf
 refine And.intro (fun g=>?_) (fun g=>?_)
 ·have hP:=hneg g
  (try dsimp only[aj]);conv=>whnf
  refine ⟨_,_,⟨rfl,rfl,.inr ⟨rows,steps,rfl,hP⟩⟩,?_⟩
  refine ⟨⟨_,_,.refl _ _,?_⟩⟩
  conv=>whnf
  refine ⟨?_,rfl,by simp [nextId],.mk ?_ (by simp [ak])⟩
  ·all_goals exact wk
  ·all_goals exact wk
 obtain ⟨i,hi⟩ : ∃ i : Nat,z = (i : Int):=⟨z.toNat,by omega⟩
 subst hi
 have Uy : i < 16:=by omega
 obtain ⟨hil,hk,hbel⟩:=hI.nd h hz.symm
 have nk:=h.ok.nodes i hil
 have hexp:=fun (l : List Rw) (hl : l.length <= 4097) (r : Rw) (hr : jJ r)=>Sm f ⟨hv.1,h8⟩ i hil Uy hk (fun e=>by
  have:=nk.k
  have h2:=nk.num
  rw [if_neg (by omega),if_pos e] at this
  rw [if_neg (by omega),if_neg (by omega)] at h2
  omega) (fun a ha=>by have:=nk.args a ha; omega) (by
  have h2:=nk.num
  split at h2
  ·omega
  ·split at h2 <;> omega) l hl r hr
 have hstep:=Eh h hI hz.symm
 have hstep2:=fun (m : List Rw)=>Om (m:=m) h hI hz.symm
 have hexL:=fun (m : List Rw)=>hI.Zy hz.symm (m:=m)
 have hro : ∀ r,r ∈ rows -> jJ r:=fun r hr=>(hI.good r hr).ok
 have hsd : nH f.vars.toNat f.nodes i rows = rows.foldl (fun l r=>if r.b.testBit i then BF f.vars.toNat f.nodes[i] i l r else jm l r) []:=by
  unfold nH
  rw [List.getD_eq_getElem?_getD,List.getElem?_eq_getElem hil]; rfl
 generalize f.nodes[i] = x at *
 obtain ⟨S,hS⟩ : ∃ S,S = fun (l : List Rw) (r : Rw)=>if r.b.testBit i then BF f.vars.toNat x i l r else jm l r:=⟨_,rfl⟩
 rw [<- hS] at hsd
 have hSl : ∀ (k : List Rw) (l : List Rw),l.length <= 4097 -> (k.foldl S l).length <= 4097:=by
  intro k
  induction k with
  | nil=>intro l hl; exact hl
  | cons r k ih =>
    intro l hl
    rw [List.foldl_cons]
    refine ih _ ?_
    rw [hS]
    dsimp only
    split
    ·exact Q8 hl
    ·exact oW hl
 (try dsimp only[aj]);conv=>whnf
 refine aJ.of <| (aA.inv (.MX 2 [] 3 [] .bH .bH _ rfl rfl (.inl ⟨rfl,rfl⟩) rfl (.refl _ _)) (fun j : Nat=>j <= rows.length) (fun j=>[(38,.int .i64 (j : Int))]) (fun j=>[(3,.tok 3 ((rows.take j).foldl S []).length),(2,.box (.sl 3 (((rows.take j).foldl S []).map Rw.av) (.own 3))),(1,.tok 1 steps.length),(0,.box f.av)]) (fun j=>rows.length - j) 0 (Nat.zero_le _) ?_ ?_ ?_)
 ·exact fun _=>rfl
 ·refine ⟨?_,.mk ?_ (by simp [ak])⟩
  ·all_goals exact wk
  ·all_goals exact wk
 intro j hj _
 (try dsimp only[aj]);conv=>whnf
 refine And.intro (fun g1=>?_) (fun g1=>?_)
 ·have hlt : j < rows.length:=by simp at g1; omega
  have hfs : (rows.take (j + 1)).foldl S [] = S ((rows.take j).foldl S []) rows[j]:=jh hlt
  have hll:=hSl (rows.take j) [] (by simp)
  have vk:=hro _ (List.getElem_mem hlt)
  (try dsimp only[aj]);conv=>whnf
  refine iH hlt ?_
  generalize rows[j] = r at *
  generalize (rows.take j).foldl S [] = l at *
  have ch:=X9 r vk i Uy
  have ce:=hexp l hll r vk
  have ca:=yg l r hll
  (try dsimp only[aj]);conv=>whnf
  refine .pure _ _ ?_ ⟨rfl,rfl⟩ ch fun _=>?_
  ·exact au _
  have Xp : ∀ b,r.b.testBit i = b -> S l r = if b then BF f.vars.toNat x i l r else jm l r:=by
   intro b hb; rw [hS,<- hb]
  generalize hbb : r.b.testBit i = b at *
  have Xp:=Xp b rfl
  (try dsimp only[aj]);conv=>whnf
  refine And.intro (fun hb=>?_) (fun hb=>?_)
  ·have hb : b = true:=by simpa using hb
   subst hb
   rw [if_pos rfl] at Xp
   rw [Xp] at hfs
   (try dsimp only[aj]);conv=>whnf
   refine .gen _ _ (bJ.frame [2,3] ce ⟨rfl,rfl,rfl,rfl⟩ ?_ ?_) fun _=>?_
   ·all_goals exact wk
   ·all_goals exact wk
   (try dsimp only[aj]);conv=>whnf
   refine zA ?_;conv=>whnf
   refine ⟨j + 1,?_,?_,?_⟩
   ·exact hlt
   ·rw [hfs]
    refine ⟨?_,.mk ?_ (by simp [ak])⟩
    ·all_goals exact wk
    ·all_goals exact wk
   ·omega
  ·have hb : b = false:=by simpa using hb
   subst hb
   rw [if_neg (by decide)] at Xp
   rw [Xp] at hfs
   (try dsimp only[aj]);conv=>whnf
   refine .gen _ _ (bJ.frame [2,3] ca ⟨rfl,rfl,rfl,rfl⟩ ?_ ?_) fun _=>?_
   ·all_goals exact wk
   ·all_goals exact wk
   (try dsimp only[aj]);conv=>whnf
   refine zA ?_;conv=>whnf
   refine ⟨j + 1,?_,?_,?_⟩
   ·exact hlt
   ·rw [hfs]
    refine ⟨?_,.mk ?_ (by simp [ak])⟩
    ·all_goals exact wk
    ·all_goals exact wk
   ·omega
 have hk : j = rows.length:=by simp at g1; omega
 subst hk
 have hll:=hSl rows [] (by simp)
 rw [List.take_length,<- hsd]
 rw [<- hsd] at hll
 generalize nH f.vars.toNat f.nodes i rows = nx at *
 (try dsimp only[aj]);conv=>whnf
 refine And.intro (fun g2=>?_) (fun g2=>?_)
 ·have g2 : 4096 < nx.length:=by simp at g2; omega
  (try dsimp only[aj]);conv=>whnf
  refine ⟨_,_,⟨rfl,rfl,.inl ⟨rfl,fun m hm=>?_⟩⟩,?_⟩
  ·have:=(hexL m hm).1; omega
  refine ⟨⟨_,_,.refl _ _,?_⟩⟩
  conv=>whnf
  refine ⟨?_,rfl,by simp [nextId],.mk ?_ (by simp [ak])⟩
  ·all_goals exact wk
  ·all_goals exact wk
 have g2 : nx.length <= 4096:=by simp at g2; omega
 obtain ⟨hs1,hs2⟩:=hstep g2
 (try dsimp only[aj]);conv=>whnf
 refine .jf _ _ ?_ rfl (Pg nx (by omega) fun r hr=>(hs1 r hr).1.ok) fun R hq _=>?_
 ·all_goals exact wk
 obtain ⟨m,rfl,hm⟩:=hq
 have hml:=hm.len
 have hs3:=fun h1=>hstep2 m g2 hm h1
 (try dsimp only[aj]);conv=>whnf
 refine And.intro (fun g3=>?_) (fun g3=>?_)
 ·have g3 : 1024 < m.length:=by simp at g3; omega
  (try dsimp only[aj]);conv=>whnf
  refine ⟨_,_,⟨rfl,rfl,.inl ⟨rfl,fun m' hm'=>?_⟩⟩,?_⟩
  ·have:=(hexL m' hm').1; omega
  refine ⟨⟨_,_,.refl _ _,?_⟩⟩
  conv=>whnf
  refine ⟨?_,rfl,by simp [nextId],.mk ?_ (by simp [ak])⟩
  ·all_goals exact wk
  ·all_goals exact wk
 have g3 : m.length <= 1024:=by simp at g3; omega
 obtain ⟨hs4,hs5⟩:=hs3 g3
 (try dsimp only[aj]);conv=>whnf
 refine ⟨by rw [List.length_map],.mk (by simp [maxL]; omega) (by simp; omega) ?_⟩
 (try dsimp only[aj]);conv=>whnf
 refine ⟨(m,steps ++ [(m.length : Int)]),⟨hs4,by dsimp only; rw [List.length_append,List.length_singleton]; omega⟩,?_,by dsimp only; omega⟩
 refine ⟨?_,.mk ?_ (by simp [ak])⟩
 ·repeat' first|exact rfl|exact trivial|exact wR|exact lR _|apply aI
  all_goals first | (refine bF ?_; simp [strip]; done) | skip
 ·repeat' first|exact rfl|exact trivial|exact wR|exact lR _|apply aI
  all_goals first | (refine bF ?_; simp [strip]; done) | (simp; done) | skip

def H6 (rows : List Rw) : List Int:=rows.map fun r=>(r.e : Int)

structure Vr (f : Fo) (l : List Int) : Prop where
 ex : ∃ rows,Xf f rows /\ l.Perm (H6 rows) /\ (rows.length <= 12 -> l = qZ Ld 0 rows.length (H6 rows))

def Ze (f : Fo) (R : AV) : Prop:=(R = .dS [.bH,eL] /\ ∀ m,DT f.vars.toNat f.nodes 20 (DU f) ≠ some m) \/ ∃ l,R = .dS [iA l,.dU] /\ Vr f l

theorem SE (f : Fo) (h : JH f) : dK Try.prog 8 [f.av] [] (PQ (Ze f)):=by
 have cr:=X5 f h
 refine dK.mQ (.r 5 (.t .n)) lay mixed Try.func8 (by kernel_rfl) rfl (by kernel_rfl) rfl fun hok=>?_
 (try dsimp only[aU,aH]);(try dsimp only[aj]);conv=>whnf
 refine .jf _ _ ?_ rfl cr fun R hq _=>?_
 ·exact au _
 rcases hq with ⟨rfl,hno⟩ | ⟨rows,steps,rfl,hP⟩
 ·(try dsimp only[aj]);conv=>whnf
  refine ⟨_,_,⟨rfl,rfl,.inl ⟨rfl,hno⟩⟩,?_⟩
  refine ⟨⟨_,_,.refl _ _,?_⟩⟩
  conv=>whnf
  refine ⟨?_,rfl,by simp [nextId],.mk ?_ (by simp [ak])⟩
  ·all_goals exact wk
  ·all_goals exact wk
 have hlen:=hP.inv.len
 by_cases h0 : rows = []
 ·subst h0
  (try dsimp only[aj]);conv=>whnf
  refine aJ.of <| (aA.inv (.refl _ _) (fun _ : Unit=>True) (fun _=>[(21,.int .i64 0),(7,.bH)]) (fun _=>[(0,.box f.av)]) (fun _=>0) () trivial ?_ ?_ ?_)
  ·exact fun _=>rfl
  ·refine ⟨?_,.mk ?_ (by simp [ak])⟩
   ·all_goals exact wk
   ·all_goals exact wk
  intro _ _ _
  (try dsimp only[aj]);conv=>whnf
  refine bN (by decide) ?_
  (try dsimp only[aj]);conv=>whnf
  refine .skip ?_
  (try dsimp only[aj]);conv=>whnf
  refine .pure _ _ ?_ ⟨rfl,rfl⟩ (Jj (g:=21)) fun _=>?_
  ·all_goals exact wk
  (try dsimp only[aj]);conv=>whnf
  refine ⟨.dS [.sl 1 [] .no,.dU],_,⟨rfl,rfl,.inr ⟨[],rfl,⟨[],hP,.refl _,fun _=>rfl⟩⟩⟩,?_⟩
  refine ⟨⟨_,_,.refl _ _,?_⟩⟩
  conv=>whnf
  refine ⟨?_,rfl,by simp [nextId],.mk ?_ (by simp [ak])⟩
  ·all_goals exact wk
  ·all_goals exact wk
 (try dsimp only[aj]);conv=>whnf
 refine aJ.of <| (aA.inv (.VD 7 1 rfl (.refl _ _)) (fun i : Nat=>i <= rows.length) (fun i=>[(21,.int .i64 (i : Int)),(7,.gs 1 ((H6 (rows.take i)).map (AV.int .i64)).length)]) (fun i=>[(1,.gV 1 ((H6 (rows.take i)).map (.int .i64))),(0,.box f.av)]) (fun i=>rows.length - i) 0 (Nat.zero_le _) ?_ ?_ ?_)
 ·exact fun _=>rfl
 ·refine ⟨?_,.mk ?_ (by simp [ak])⟩
  ·all_goals exact wk
  ·all_goals exact wk
 intro i hi _
 (try dsimp only[aj]);conv=>whnf
 refine And.intro (fun g=>?_) (fun g=>?_)
 ·have hlt : i < rows.length:=by simp at g; omega
  have hst : H6 (rows.take (i + 1)) = H6 (rows.take i) ++ [((rows[i]).e : Int)]:=by unfold H6; rw [List.take_succ_eq_append_getElem hlt,List.map_append]; rfl
  have hle : (H6 (rows.take i)).length = i:=by simp [H6]; omega
  (try dsimp only[aj]);conv=>whnf
  refine iH hlt ?_
  generalize rows[i] = r at *
  generalize H6 (rows.take i) = o at *
  (try dsimp only[aj]);conv=>whnf
  refine ⟨rfl,by simp,?_⟩
  (refine ⟨by simp [maxL] <;> omega,by simp <;> omega,?_⟩;(conv=>whnf))
  refine zA ?_;conv=>whnf
  refine ⟨i + 1,?_,?_,?_⟩
  ·exact hlt
  ·rw [hst]
   refine ⟨?_,.mk ?_ (by simp [ak])⟩
   ·repeat' first|exact rfl|exact trivial|exact wR|exact lR _|apply aI
    all_goals (rw [List.map_append,List.length_append]; exact rfl)
   ·repeat' first|exact rfl|exact trivial|exact wR|exact lR _|apply aI
    all_goals first | (refine bF ?_; rw [List.map_append]; rfl) | skip
  ·omega
 have hk : i = rows.length:=by simp at g; omega
 subst hk
 rw [List.take_length]
 have hel : (H6 rows).length = rows.length:=by simp [H6]
 (try dsimp only[aj]);conv=>whnf
 refine .go 7 1 1 ((H6 rows).map (.int .i64)) rfl rfl (by simp [H6,h0]) fun cp hc1 hc2=>?_
 rw [List.length_map] at hc1 ⊢
 have cS:=Np (cf:=Ld) LC (H6 rows).length cp (by omega) (H6 rows) rfl
 (try dsimp only[aj]);conv=>whnf
 refine .rel _ (dK.frame [2] cS ⟨rfl,rfl,rfl,rfl⟩ ?_ ?_) fun R H' hq _=>?_
 ·all_goals exact wk
 ·all_goals exact wk
 obtain ⟨_,_,⟨rfl,l',hp,he,rfl⟩,rfl,rfl⟩:=hq
 have hpl:=hp.length_eq
 (try dsimp only[aj]);conv=>whnf
 refine ⟨.dS [iA l',.dU],[],⟨rfl,rfl,.inr ⟨l',rfl,⟨rows,hP,hp,fun h12=>by rw [<- hel]; exact he (by omega)⟩⟩⟩,?_⟩
 refine ⟨⟨_,_,.freeze 2 2 _ _ _ _ _ _ rfl rfl ?_ (.refl _ _),?_⟩⟩
 ·simp; omega
 conv=>whnf
 refine ⟨?_,rfl,by simp [nextId],.mk ?_ (by simp [ak])⟩
 ·repeat' first|exact rfl|exact trivial|exact wR|exact lR _|apply aI
  all_goals (refine bF ?_; simp [List.take_of_length_le,hpl])
 ·all_goals exact wk

theorem Lc (V : List Bool) (args : List Int) : oV V args = kC (fun i=>V.getD i false) args:=by
 have key : ∀ (args : List Int) (n : Nat),args.foldl (fun n a=>if V.getD a.toNat false = true then n + 1 else n) n = n + args.countP fun a=>V.getD a.toNat false:=by
  intro args
  induction args with
  | nil=>intro n; simp
  | cons a l ih =>
    intro n
    rw [List.foldl_cons,ih,List.countP_cons]
    split <;> omega
 unfold oV kC
 rw [key]; simp

theorem U0 (l0 : List Bool) (nodes : List Nd) {k : Nat} (hk : k < nodes.length) {args : List Int} (ha : ∀ a,a ∈ args -> 0 <= a /\ a < (l0.length : Int) + k) : oV (dI l0 (nodes.take k)) args = oV (dI l0 nodes) args:=by
 have:=BX (u:=dI l0 (nodes.take k)) (w:=dI l0 nodes) (f:=fun a=>a) (args:=args) fun a h=>Ai l0 nodes (by have:=ha a h; omega) (by omega)
 rwa [List.map_id'] at this

theorem zG {f : Fo} (h : yC f) {l0 : List Bool} (hl : l0.length = f.vars.toNat) : TV f (fun i=>(dI l0 f.nodes).getD i false):=by
 refine ⟨fun i hi=>?_⟩
 have hv:=h.vars
 have nk:=h.nodes i hi
 have h1:=Aj l0 f.nodes hi
 rw [hl] at h1
 rw [h1,U0 l0 f.nodes hi fun a ha=>by have:=nk.args a ha; omega,Lc]

theorem zH {l0 : List Bool} {nodes : List Nd} {j : Nat} (hj : j < l0.length) : (dI l0 nodes).getD j false = l0.getD j false:=by
 have:=jU l0 [] nodes (j:=j) (by simp; omega)
 rw [List.nil_append] at this
 exact this

def jM (l : List Int) (w : Nat) : Prop:=∃ x,x ∈ l /\ kF x (w : Int) = true

theorem I9 {l : List Int} {w : Nat} : O7 l (w : Int) = true ↔ jM l w:=by
 unfold O7 jM
 rw [List.any_eq_true]

theorem Uc {x y : Int} {w : Nat} (hx : 0 <= x /\ x <= 16777215) (hy : 0 <= y /\ y <= 16777215) (h : kF y x = true) (g : kF x (w : Int) = true) : kF y (w : Int) = true:=by
 obtain ⟨a,rfl⟩ : ∃ n : Nat,x = n:=⟨x.toNat,by omega⟩
 obtain ⟨b,rfl⟩ : ∃ n : Nat,y = n:=⟨y.toNat,by omega⟩
 rw [mG (by omega)] at h g ⊢
 exact fun i hi hb=>g i hi (h i hi hb)

theorem zQ {l m : List Int} {w : Nat} (h : JQ l m) (hl : ∀ x,x ∈ l -> 0 <= x /\ x <= 16777215) : jM m w ↔ jM l w:=by
 constructor
 ·rintro ⟨x,hx,hs⟩; exact ⟨x,h.sub x hx,hs⟩
 ·rintro ⟨x,hx,hs⟩
  obtain ⟨y,hy,hyx⟩:=h.Y2 x hx
  exact ⟨y,hy,Uc (hl x hx) (hl y (h.sub y hy)) hyx hs⟩

theorem Qb {x y : Int} {w : Nat} (hx : 0 <= x /\ x <= 16777215) (hy : 0 <= y /\ y <= 16777215) : kF (Ky x y) (w : Int) = true ↔ kF x (w : Int) = true /\ kF y (w : Int) = true:=by
 obtain ⟨a,rfl⟩ : ∃ n : Nat,x = n:=⟨x.toNat,by omega⟩
 obtain ⟨b,rfl⟩ : ∃ n : Nat,y = n:=⟨y.toNat,by omega⟩
 have hor : a ||| b < 2 ^ 24:=Nat.or_lt_two_pow (by omega) (by omega)
 rw [MI (by omega) (by omega),mG (by omega),mG (by omega),mG (by omega)]
 constructor
 ·intro h
  refine ⟨fun i hi hb=>h i hi ?_,fun i hi hb=>h i hi ?_⟩
  ·rw [Nat.testBit_or,hb]; rfl
  ·rw [Nat.testBit_or,hb,Bool.or_true]
 ·rintro ⟨h1,h2⟩ i hi hb
  rw [Nat.testBit_or,Bool.or_eq_true] at hb
  rcases hb with hb | hb
  ·exact h1 i hi hb
  ·exact h2 i hi hb

theorem I8 {a b m : List Int} {w : Nat} (h : y7 a b m) (ha : bT a) (hb : bT b) : jM m w ↔ jM a w \/ jM b w:=by
 rw [zQ h.min fun x hx=>(List.mem_append.1 hx).elim (ha.val x) (hb.val x)]
 unfold jM
 simp only [List.mem_append,or_and_right,exists_or]

theorem I7 {a b m : List Int} {w : Nat} (h : y5 a b m) (ha : bT a) (hb : bT b) : jM m w ↔ jM a w /\ jM b w:=by
 obtain ⟨a',b',h1,h2,h3⟩:=h.ex
 have ra : ∀ x,x ∈ a' -> 0 <= x /\ x <= 16777215:=fun x hx=>ha.val x (h1.sub x hx)
 have rb : ∀ x,x ∈ b' -> 0 <= x /\ x <= 16777215:=fun x hx=>hb.val x (h2.sub x hx)
 rw [zQ h3 fun u hu=>by obtain ⟨x,hx,y,hy,rfl⟩:=nG.1 hu; exact MH (ra x hx) (rb y hy),<- zQ h1 ha.val,<- zQ h2 hb.val]
 constructor
 ·rintro ⟨u,hu,hs⟩
  obtain ⟨x,hx,y,hy,rfl⟩:=nG.1 hu
  have:=(Qb (ra x hx) (rb y hy)).1 hs
  exact ⟨⟨x,hx,this.1⟩,⟨y,hy,this.2⟩⟩
 ·rintro ⟨⟨x,hx,h1⟩,⟨y,hy,h2⟩⟩
  exact ⟨Ky x y,nG.2 ⟨x,hx,y,hy,rfl⟩,(Qb (ra x hx) (rb y hy)).2 ⟨h1,h2⟩⟩

theorem BR {w : Nat} : jM [0] w:=⟨0,by simp,(mG (a:=0) (by omega)).2 fun i _ h=>by rw [Nat.zero_testBit] at h; cases h⟩
theorem Gw {w : Nat} : ¬ jM [] w:=by rintro ⟨_,h,_⟩; cases h

theorem Jf {w : Nat} : ∀ {args : List (List Int)} {o m : List Int},oH y5 o args m -> bT o -> (∀ a,a ∈ args -> bT a) -> (jM m w ↔ jM o w /\ ∀ a,a ∈ args -> jM a w)
 | [],o,m,h,_,_=>by obtain rfl:=h; simp
 | a :: l,o,m,⟨o',h1,h2⟩,ho,ha=>by
   have hao:=ha a (by simp)
   rw [Jf h2 (vT h1 ho hao) fun b hb=>ha b (by simp [hb]),I7 h1 ho hao]
   simp [and_assoc]

theorem ET {w : Nat} : ∀ {args : List (List Int)} {o m : List Int},oH y7 o args m -> bT o -> (∀ a,a ∈ args -> bT a) -> (jM m w ↔ jM o w \/ ∃ a,a ∈ args /\ jM a w)
 | [],o,m,h,_,_=>by obtain rfl:=h; simp
 | a :: l,o,m,⟨o',h1,h2⟩,ho,ha=>by
   have hao:=ha a (by simp)
   rw [ET h2 (zK h1 ho hao) fun b hb=>ha b (by simp [hb]),I8 h1 ho hao]
   simp [or_assoc]

open Classical in
theorem PX {w m : Nat} {V X : List (List Int)} {args : List (List Int)} (h : E8 V args X) (hV : V = vG m) (ha : ∀ a,a ∈ args -> bT a) :
  X.length = m + 1 /\ ∀ k,k <= m -> bT (X.getD k []) /\ (jM (X.getD k []) w ↔ k <= args.countP fun a=>decide (jM a w)):=by
 induction h with
 | nil =>
   subst hV
   refine ⟨by simp [vG],fun k hk=>?_⟩
   cases k with
   | zero=>exact ⟨sZ (by omega),by simp [vG,BR]⟩
   | succ k =>
     have : (vG m).getD (k + 1) [] = []:=by
      unfold vG
      rw [List.getD_eq_getElem?_getD,List.getElem?_cons_succ,List.getElem?_replicate]
      split <;> rfl
     rw [this]
     exact ⟨wE,by simp [Gw]⟩
 | snoc h g ih =>
   rename_i W X l a
   obtain ⟨i1,i2⟩:=ih fun b hb=>ha b (by simp [hb])
   have hao:=ha a (by simp)
   refine ⟨by rw [g.len,i1],fun k hk=>?_⟩
   rw [List.countP_append]
   have hc : [a].countP (fun a=>decide (jM a w)) = if jM a w then 1 else 0:=by
    rw [List.countP_cons]; simp
   rw [hc]
   cases k with
   | zero=>rw [g.old 0 (Nat.le_refl _)]; exact ⟨(i2 0 (by omega)).1,by have:=(i2 0 (by omega)).2; simp at this ⊢; exact this⟩
   | succ k =>
     obtain ⟨p,h1,h2⟩:=g.new (k + 1) (by omega) (by omega)
     rw [Nat.add_sub_cancel] at h1
     obtain ⟨f1,c1⟩:=i2 k (by omega)
     obtain ⟨f2,c2⟩:=i2 (k + 1) hk
     have fp:=vT h1 f1 hao
     refine ⟨zK h2 f2 fp,?_⟩
     rw [I8 h2 f2 fp,I7 h1 f1 hao,c1,c2]
     by_cases hw : jM a w
     ·simp only [hw,if_true,and_true]; omega
     ·simp only [hw,if_false,and_false,or_false]; omega

def TS (v s : Nat) : Nat:=2 ^ v - 1 - s

theorem VT {v s i : Nat} (hs : s < 2 ^ v) (hi : i < v) : (TS v s).testBit i = !s.testBit i:=by
 unfold TS
 have:=Nat.testBit_two_pow_sub_succ hs i
 rw [show 2 ^ v - 1 - s = 2 ^ v - (s + 1) by omega,this]
 simp [hi]

theorem UZ {w i : Nat} (hi : i < 24) : jM [((2 ^ i : Nat) : Int)] w ↔ w.testBit i = true:=by
 have h2 : 2 ^ i < 2 ^ 24:=Nat.pow_lt_pow_right (by decide) hi
 unfold jM
 simp only [List.mem_singleton,exists_eq_left]
 rw [mG (by omega)]
 constructor
 ·intro h; exact h i hi (Nat.testBit_two_pow_self)
 ·intro h j _ hb
  rw [Nat.testBit_two_pow,decide_eq_true_eq] at hb
  rw [<- hb]; exact h

theorem EC {l : List (List Int)} {args : List Int} {P : List Int -> Prop} : (∀ a,a ∈ (args.map fun a=>l.getD a.toNat []) -> P a) ↔ ∀ a,a ∈ args -> P (l.getD a.toNat []):=by
 constructor
 ·intro h a ha; exact h _ (List.mem_map.2 ⟨a,ha,rfl⟩)
 ·intro h a ha
  obtain ⟨b,hb,rfl⟩:=List.mem_map.1 ha
  exact h b hb

open Classical in
theorem Ql {t : Fo} (h : yC t) (hk : ∀ (i : Nat) (hi : i < t.nodes.length),kZ t.nodes[i] = false) {l : List (List Int)} (hl : sD t t.nodes.length l) {s : Nat} (hs : s < 2 ^ t.vars.toNat) :
  ∀ j,j < t.vars.toNat + t.nodes.length -> (jM (l.getD j []) (TS t.vars.toNat s) ↔ (dI (evs t.vars.toNat s) t.nodes).getD j false = false):=by
 have hv:=h.vars
 have he : (evs t.vars.toNat s).length = t.vars.toNat:=by simp [evs]
 have Yp:=zG h he
 have YV : ∀ j,j < t.vars.toNat + t.nodes.length -> bT (l.getD j []):=fun j hj=>by
  have:=hl.len
  rw [List.getD_eq_getElem?_getD,List.getElem?_eq_getElem (by omega)]
  exact hl.ok _ (List.getElem_mem (by omega))
 generalize hw : TS t.vars.toNat s = w
 intro j
 induction j using Nat.strongRecOn with
 | _ j ih =>
 intro hj
 rcases Nat.lt_or_ge j t.vars.toNat with Ux | Ux
 ·rw [hl.ev j Ux,zH (by rw [he]; exact Ux),wF Ux,UZ (by omega),<- hw,VT hs Ux]
  cases s.testBit j <;> simp
 ·obtain ⟨i,rfl⟩ : ∃ i,j = t.vars.toNat + i:=⟨j - t.vars.toNat,by omega⟩
  have hi : i < t.nodes.length:=by omega
  have nk:=h.nodes i hi
  have nd:=hl.nd i hi hi
  have hkd:=hk i hi
  have hv1 : (dI (evs t.vars.toNat s) t.nodes).getD (t.vars.toNat + i) false = kD t.nodes[i] (kC (fun i=>(dI (evs t.vars.toNat s) t.nodes).getD i false) t.nodes[i].args):=Yp.nd i hi
  rw [hv1]
  generalize t.nodes[i] = x at *
  have iha : ∀ a,a ∈ x.args -> (jM (l.getD a.toNat []) w ↔ (dI (evs t.vars.toNat s) t.nodes).getD a.toNat false = false):=fun a ha=>by
   have:=nk.args a ha
   exact ih a.toNat (by omega) (by omega)
  have fa : ∀ a,a ∈ (x.args.map fun a=>l.getD a.toNat []) -> bT a:=EC.2 fun a ha=>by
   have:=nk.args a ha
   exact YV _ (by omega)
  generalize l.getD (t.vars.toNat + i) [] = r at *
  generalize dI (evs t.vars.toNat s) t.nodes = V at *
  have hcl : kC (fun i=>V.getD i false) x.args <= x.args.length:=List.countP_le_length
  have hkind : x.kind = 0 \/ x.kind = 2 \/ x.kind = 3 \/ x.kind = 4:=by
   have:=nk.kind
   unfold kZ at hkd
   simp at hkd
   omega
  have YJ:=nk.k
  unfold kD
  rcases hkind with e | e | e | e
  ·rw [nd.c e,e,if_pos rfl]
   rw [if_pos e] at YJ
   rcases YJ with e1 | e1 <;> rw [e1]
   ·simp [BR]
   ·simp [Gw]
  ·rw [e,if_neg (by decide),if_neg (by decide),if_pos rfl,ET (nd.a e).chain wE fa]
   simp only [Gw,false_or,decide_eq_false_iff_not]
   unfold kC
   rw [List.countP_eq_length]
   constructor
   ·rintro ⟨a,ha,hc⟩ hall
    obtain ⟨b,hb,rfl⟩:=List.mem_map.1 ha
    have:=(iha b hb).1 hc
    have h2 : V.getD b.toNat false = true:=hall b hb
    rw [h2] at this; cases this
   ·intro hn
    refine Classical.byContradiction fun hno=>hn fun b hb=>?_
    cases hvb : V.getD b.toNat false
    ·exact absurd ⟨_,List.mem_map.2 ⟨b,hb,rfl⟩,(iha b hb).2 hvb⟩ hno
    ·exact hvb
  ·rw [e,if_neg (by decide),if_neg (by decide),if_neg (by decide),if_pos rfl,Jf (nd.o e).chain (sZ (by omega)) fa]
   simp only [BR,true_and,decide_eq_false_iff_not]
   rw [EC]
   unfold kC
   rw [List.countP_pos_iff]
   constructor
   ·rintro hall ⟨a,ha,hc⟩
    have:=(iha a ha).1 (hall a ha)
    have hc : V.getD a.toNat false = true:=hc
    rw [this] at hc; cases hc
   ·intro hn a ha
    refine (iha a ha).2 ?_
    cases hvb : V.getD a.toNat false
    ·rfl
    ·exact absurd ⟨a,ha,hvb⟩ hn
  ·rw [e,if_neg (by decide),if_neg (by decide),if_neg (by decide),if_neg (by decide),if_pos rfl]
   rw [if_neg (by omega),if_pos e] at YJ
   obtain ⟨X,hX,rfl⟩:=(nd.v e).ex
   obtain ⟨_,hc⟩:=PX (w:=w) hX rfl fa
   rw [(hc _ (Nat.le_refl _)).2,List.countP_map]
   have hcnt : x.args.countP ((fun a=>decide (jM a w)) ∘ fun a=>l.getD a.toNat []) = x.args.countP fun a=>!V.getD a.toNat false:=by
    refine List.countP_congr fun a ha=>?_
    have:=iha a ha
    simp only [Function.comp,decide_eq_true_eq,Bool.not_eq_true']
    exact this
   rw [hcnt]
   rw [List.length_map]
   have hsum : x.args.countP (fun a=>!V.getD a.toNat false) + kC (fun i=>V.getD i false) x.args = x.args.length:=by
    have e0 : kC (fun i=>V.getD i false) x.args = x.args.countP fun a=>V.getD a.toNat false:=rfl
    rw [e0]
    have:=@List.length_eq_countP_add_countP Int (fun a=>V.getD a.toNat false) x.args
    have h2 : x.args.countP (fun a=>decide ¬(V.getD a.toNat false = true)) = x.args.countP fun a=>!V.getD a.toNat false:=List.countP_congr fun a _=>by simp
    omega
   simp only [decide_eq_false_iff_not]
   omega

theorem Oq {f : Fo} (h : yC f) (hc : tX f = true) {m : List Int} (hm : Ho f m) {s : Nat} (hs : s < 2 ^ f.vars.toNat) : jM m (TS f.vars.toNat s) ↔ (valsF f.vars.toNat s f.nodes).getD f.top.toNat false = false:=by
 obtain ⟨l,hl,rfl⟩:=hm.ex
 obtain ⟨h1,h2⟩:=FM f h
 have ht:=h1.top
 have hv:=h.vars
 have hbad : ∀ (i : Nat) (hi : i < (trimF f).nodes.length),kZ (trimF f).nodes[i] = false:=fun i hi=>by
  unfold tX at hc
  rw [Bool.not_eq_true',List.any_eq_false] at hc
  have:=hc _ (List.getElem_mem hi)
  simpa using this
 have hv2 : (trimF f).vars = f.vars:=rfl
 have:=Ql h1 hbad hl (s:=s) (by rw [hv2]; exact hs) (trimF f).top.toNat (by omega)
 rw [hv2,h2 _ (by simp [evs])] at this
 exact this

theorem Rz {f : Fo} (h : yC f) (YN : f.vars <= 8) {l : List Int} (hl : Vr f l) {s : Nat} : jM l s ↔ (valsF f.vars.toNat s f.nodes).getD f.top.toNat false = true:=by
 obtain ⟨rows,hP,hp,_⟩:=hl.ex
 have hv:=h.vars
 have he : (evs f.vars.toNat s).length = f.vars.toNat:=by simp [evs]
 have Yp:=zG h he
 have:=hP.inv.sem _ Yp
 show _ ↔ (dI (evs f.vars.toNat s) f.nodes).getD f.top.toNat false = true
 rw [<- this]
 have key : ∀ r,r ∈ rows -> (kF (r.e : Int) (s : Int) = true ↔ jK f.vars.toNat (fun i=>(dI (evs f.vars.toNat s) f.nodes).getD i false) r):=by
  intro r hr
  have hg:=hP.inv.good r hr
  have h0:=UA hP.neg r hr
  have hre:=hg.ok.e
  rw [mG (by omega)]
  constructor
  ·intro h1
   refine ⟨fun i hi=>?_,fun i hi=>?_⟩
   ·have hiv:=hg.e i hi
    show (dI (evs f.vars.toNat s) f.nodes).getD i false = true
    rw [zH (by rw [he]; exact hiv),wF hiv]
    exact h1 i (by omega) hi
   ·rw [h0,Nat.zero_testBit] at hi; cases hi
  ·rintro ⟨h1,_⟩ i _ hi
   have hiv:=hg.e i hi
   have : (dI (evs f.vars.toNat s) f.nodes).getD i false = true:=h1 i hi
   rwa [zH (by rw [he]; exact hiv),wF hiv] at this
 constructor
 ·rintro ⟨x,hx,hs⟩
  obtain ⟨r,hr,rfl⟩:=List.mem_map.1 (hp.mem_iff.1 hx)
  exact ⟨r,hr,(key r hr).1 hs⟩
 ·rintro ⟨r,hr,hh⟩
  exact ⟨_,hp.mem_iff.2 (List.mem_map.2 ⟨r,hr,rfl⟩),(key r hr).2 hh⟩

theorem Ry {f : Fo} {l : List Int} (hl : Vr f l) : bT l:=by
 obtain ⟨rows,hP,hp,_⟩:=hl.ex
 refine ⟨by rw [hp.length_eq]; simp [H6]; exact hP.inv.len,fun x hx=>?_⟩
 obtain ⟨r,hr,rfl⟩:=List.mem_map.1 (hp.mem_iff.1 hx)
 have:=(hP.inv.good r hr).ok.e
 omega

theorem Ja {p q : Int -> Bool} {l : List Int} (h : ∀ a,a ∈ l -> p a = true -> q a = true) : l.countP p <= l.countP q:=List.countP_mono_left h

theorem Qz {f : Fo} (h : yC f) (hc : tX f = true) {s s' : Nat} (hss : ∀ i,i < f.vars.toNat -> s.testBit i = true -> s'.testBit i = true)
  (ht : (valsF f.vars.toNat s f.nodes).getD f.top.toNat false = true) : (valsF f.vars.toNat s' f.nodes).getD f.top.toNat false = true:=by
 have hv:=h.vars
 have htop:=h.top
 have e1 : (evs f.vars.toNat s).length = f.vars.toNat:=by simp [evs]
 have e2 : (evs f.vars.toNat s').length = f.vars.toNat:=by simp [evs]
 have t1:=zG h e1
 have t2:=zG h e2
 have ht : (dI (evs f.vars.toNat s) f.nodes).getD f.top.toNat false = true:=ht
 show (dI (evs f.vars.toNat s') f.nodes).getD f.top.toNat false = true
 have key : ∀ j,j < f.vars.toNat + f.nodes.length -> TY f.vars.toNat f.nodes f.top.toNat j -> (dI (evs f.vars.toNat s) f.nodes).getD j false = true -> (dI (evs f.vars.toNat s') f.nodes).getD j false = true:=by
  intro j
  induction j using Nat.strongRecOn with
  | _ j ih =>
  intro hj hb hval
  rcases Nat.lt_or_ge j f.vars.toNat with Ux | Ux
  ·rw [zH (by omega),wF Ux] at hval ⊢
   exact hss j Ux hval
  ·obtain ⟨i,rfl⟩ : ∃ i,j = f.vars.toNat + i:=⟨j - f.vars.toNat,by omega⟩
   have hi : i < f.nodes.length:=by omega
   have nk:=h.nodes i hi
   have hkind:=Jb h hc hi hb
   have n1 : (dI (evs f.vars.toNat s) f.nodes).getD (f.vars.toNat + i) false = _:=t1.nd i hi
   have n2 : (dI (evs f.vars.toNat s') f.nodes).getD (f.vars.toNat + i) false = _:=t2.nd i hi
   rw [n1] at hval
   rw [n2]
   have hle : kC (fun i=>(dI (evs f.vars.toNat s) f.nodes).getD i false) f.nodes[i].args <= kC (fun i=>(dI (evs f.vars.toNat s') f.nodes).getD i false) f.nodes[i].args:=by
    refine Ja fun a ha hp=>?_
    have hab:=nk.args a ha
    refine ih a.toNat (by omega) (by omega) (.step hb hi ?_) hp
    unfold argsAt
    rw [List.getD_eq_getElem?_getD,List.getElem?_eq_getElem hi]; exact ha
   have hcl : kC (fun i=>(dI (evs f.vars.toNat s') f.nodes).getD i false) f.nodes[i].args <= f.nodes[i].args.length:=List.countP_le_length
   generalize f.nodes[i] = x at *
   generalize kC (fun i=>(dI (evs f.vars.toNat s) f.nodes).getD i false) x.args = c1 at *
   generalize kC (fun i=>(dI (evs f.vars.toNat s') f.nodes).getD i false) x.args = c2 at *
   unfold kD at hval ⊢
   rcases hkind with e | e | e | e
   ·rw [if_pos e] at hval ⊢; exact hval
   ·rw [if_neg (by omega),if_neg (by omega),if_pos e,decide_eq_true_eq] at hval ⊢; omega
   ·rw [if_neg (by omega),if_neg (by omega),if_neg (by omega),if_pos e,decide_eq_true_eq] at hval ⊢; omega
   ·rw [if_neg (by omega),if_neg (by omega),if_neg (by omega),if_neg (by omega),if_pos e,decide_eq_true_eq] at hval ⊢; omega
 exact key _ (by omega) .root ht
end S
