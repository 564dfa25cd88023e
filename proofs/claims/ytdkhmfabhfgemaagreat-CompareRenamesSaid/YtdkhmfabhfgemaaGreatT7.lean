/-
  Contracts of functions of the program. Nothing is assumed.
-/
import Derived.Test.YtdkhmfabhfgemaaGreatT6
open Go Go.AL Go.Proofs
namespace S
set_option maxRecDepth 100000
theorem b6A{i:Nat}(h:5<=i):ix [0,1,2,3,4] i=none:=by
 match i,h with
 |k+5,_=>rfl
theorem a4X{n:Nat}{G Y:Heap}:∀{X:Heap},(∀x∈X,5<=x.1)->CJ [0,1,2,3,4] n G (X++Y)=X++CJ [0,1,2,3,4] n G Y
 | [],_=>rfl
 |(i,o)::X,h=>by have hi:=h (i,o) ak;simp only[eP,CJ,b6A hi];rw[a4X λx hx=>h x (by simp[hx])]
theorem a2M{n:Nat}{k:HO->Prop}{Y:Heap}(hn:n<5):∀{X:Heap},(∀x∈X,5<=x.1)->(yt (X++Y) n k↔yt Y n k)
 | [],_=>jm
 | (i,o)::X,h=>by
   have hi:=h (i,o) ak;have:Nat.beq i n=false:=by
    cases hb:Nat.beq i n with
    |false=>rfl
    |true=>have:=aJ hb;simp at hi;omega
   simp only[eP,yt,this];exact a2M hn λx hx=>h x (by simp[hx])
theorem a5N{T:Tb}{X:Heap}(h:∀x∈X,5<=x.1):5<=nextId (X++yZ T):=by
 cases X with
 |nil=>exact aT _
 |cons x X=>have:=h x ak;obtain⟨i,o⟩:=x;simp[nextId]at this ⊢;omega
theorem NZ{f:Nat}{args:List AV}{R:AV}{T T':Tb}(X:Heap)(hX:∀x∈X,5<=x.1)(h:ZQ f args (yZ T) R (yZ T'))
  (ha:∀n,Uo (sg [0,1,2,3,4] n) args=args) (hR:∀n,yT (sg [0,1,2,3,4] n) R=R) (hb:vW 5 args=true) :
  ZQ f args (X++yZ T) R (X++yZ T'):=by
 have hn:=a5N (T:=T) hX;have h1:∀(k:Nat),k<5->∀(q:HO->Prop),yt (X++yZ T) k q↔yt (yZ T) k q:=λk hk q=>a2M hk hX;have:=qZ.frame (H:=X++yZ T) (args:=args) [0,1,2,3,4] h ⟨?_,rfl,rfl,hb⟩ ?_ (by rw[ha];exact rQ _);{rw[hR]at this;have e:Ri [0,1,2,3,4] (yZ T') (X++yZ T)=X++yZ T':=(by unfold Ri;rw[a4X hX];show X++CJ _ _ _ _=_;congr 1;show[(4,HO.tY Rh (zQ _ (xO T'.memo))),(3,HO.tY Rh (zQ _ (xO T'.uq))),_,_,_]=_;rw[Gf,Gf];rfl);rwa[e]at this};{have:∀k,k<5->Nat.blt k (nextId (X++yZ T))=true:=λk hk=>(by exact gI aj);simp only[KC,this 0 au,this 1 au,this 2 au,this 3 au,this 4 au]};refine⟨(h1 4 au _).2 ⟨⟨rfl,JL _ _⟩,qQ _ _⟩,(h1 3 au _).2 ⟨⟨rfl,JL _ _⟩,qQ _ _⟩,(h1 2 au _).2 ⟨⟨rfl,rfl⟩,rfl⟩,(h1 1 au _).2 ⟨⟨rfl,rfl,qX _⟩,rfl⟩,(h1 0 au _).2 ⟨?_,rfl⟩,trivial⟩;exact tZ _
theorem RP{T:Tb}(h:tJ T){r L:Int}(hr:T.Rf r)(_:0<=L)(hL:L<=T.lvl r)(hn:L<T.n) :
  T.Rf (T.kids r L).1/\T.Rf (T.kids r L).2/\L<T.lvl (T.kids r L).1/\L<T.lvl (T.kids r L).2 /\
  ∀s,ev T.nodes s r=if s (T.order.getD L.toNat 0)then ev T.nodes s (T.kids r L).2 else ev T.nodes s (T.kids r L).1:=by
 unfold Tb.kids;by_cases he:T.lvl r≠L;{rw[aG he];exact⟨hr,hr,by show L<T.lvl r;omega,by show L<T.lvl r;omega,λs=>ak⟩};rw[aB he];have he:T.lvl r=L:=(by simpa using he);have hr2:¬r<2:=by intro h;have:T.lvl r=T.n:=aG h;omega
 obtain⟨k1,k2,k3,k4,_⟩:=h.kid hr aj;have hv:T.order.getD L.toNat 0=(T.node r).1:=(by have e:T.lvl r=T.pl (T.node r).1:=aB hr2;have g:=(h.at hr aj).1;have:=(h.plc _ g.v.1 g.v.2).2.2;rw[<- e,he]at this;exact this);rw[hv];exact⟨k1,k2,by rw[<- he];exact k3,by rw[<- he];exact k4,(h.at hr aj).2⟩
theorem a5X{T:Tb}(h:tJ T){c a b r:Int}(g:T.Rf c/\T.Rf a/\T.Rf b/\T.Rf r/\min (min (T.lvl c) (T.lvl a)) (T.lvl b)<=T.lvl r/\∀s,ev T.nodes s r=if ev T.nodes s c then ev T.nodes s a else ev T.nodes s b) :
  tJ { T with memo:=mark T.memo (c,a,b) r }:=by
 refine⟨h.small,h.OB,h.ord,h.plc,λk hk=>?_,h.uq,λc' a' b' r' hm=>?_⟩;{have g:=h.nodes k hk;exact⟨g.v,g.lo,g.hi,g.ne,g.llo,g.lhi⟩};rw[CQ]at hm;split at hm;{rename_i e;obtain rfl:=aW hm;injection e with e1 e2;injection e2 with e2 e3;subst e1 e2 e3;exact g};exact h.memo _ _ _ _ hm
structure ChP(T T':Tb)(r L:Int)(f:(Int->Bool)->Bool):Prop where
 good:tJ T'
 ext:Xt T T'
 rf:T'.Rf r
 lvl:L<=T'.lvl r
 val:∀s,ev T'.nodes s r=f s
theorem SB(T:Tb)(hT:tJ T)(c a b:Int)(hc:T.Rf c)(ha:T.Rf a)(hb:T.Rf b)(e:c=1\/a=b\/c=0\/(a=1/\b=0)) :
  ∃ r,ZQ 119 [.ptr 0 [] 0,.int .i64 c,.int .i64 a,.int .i64 b] (yZ T) (.int .i64 r) (yZ T) /\
    ChP T T r (min (min (T.lvl c) (T.lvl a)) (T.lvl b)) (λs=>if ev T.nodes s c then ev T.nodes s a else ev T.nodes s b):=by
 by_cases e1:c=1
 ·subst e1;refine⟨a,?_,⟨hT,.refl _,ha,aj,λs=>rfl⟩⟩;refine ZN Tryz.func119 λhok=>?_;refine aQ (λ_=>?_) (λh=>absurd rfl h);refine ZW ?_;refine ZE ?_ ?_
  ·repeat' first|exact Zq|apply aI
   all_goals first|(rw[aC];done)|skip
  repeat' first|exact Zq|apply aI
  all_goals first|exact qP _|exact qQ _ _|(show tV _ (List.map _ (_++[_]));rw[aV];exact qX _)|(simp;done)|skip
 by_cases e2:a=b
 ·subst e2;refine⟨a,?_,⟨hT,.refl _,ha,aj,λs=>ak⟩⟩;refine ZN Tryz.func119 λhok=>?_;refine aQ (λh=>absurd h e1) (λ_=>ZW ?_);refine aQ (λ_=>?_) (λh=>absurd rfl h);refine ZW ?_;refine ZE ?_ ?_
  ·repeat' first|exact Zq|apply aI
   all_goals first|(rw[aC];done)|skip
  repeat' first|exact Zq|apply aI
  all_goals first|exact qP _|exact qQ _ _|(show tV _ (List.map _ (_++[_]));rw[aV];exact qX _)|(simp;done)|skip
 by_cases e3:c=0
 ·subst e3;refine⟨b,?_,⟨hT,.refl _,hb,aj,λs=>rfl⟩⟩;refine ZN Tryz.func119 λhok=>?_;refine aQ (λh=>absurd h e1) (λ_=>ZW ?_);refine aQ (λh=>absurd h e2) (λ_=>ZW ?_);refine aQ (λ_=>?_) (λh=>absurd rfl h);refine ZW ?_;refine ZE ?_ ?_
  ·repeat' first|exact Zq|apply aI
   all_goals first|(rw[aC];done)|skip
  repeat' first|exact Zq|apply aI
  all_goals first|exact qP _|exact qQ _ _|(show tV _ (List.map _ (_++[_]));rw[aV];exact qX _)|(simp;done)|skip
 have e4:a=1/\b=0:=(by rcases e with h|h|h|h;{exact absurd h e1};{exact absurd h e2};{exact absurd h e3};exact h);obtain⟨rfl,rfl⟩:=e4;refine⟨c,?_,⟨hT,.refl _,hc,aj,λs=>by rw[OW,F9];cases ev T.nodes s c <;> rfl⟩⟩;refine ZN Tryz.func119 λhok=>?_;refine aQ (λh=>absurd h e1) (λ_=>ZW ?_);refine aQ (λh=>absurd h e2) (λ_=>ZW ?_);refine aQ (λh=>absurd h e3) (λ_=>ZW ?_);refine aQ (λ_=>?_) (λh=>absurd rfl h);refine ZW ?_;refine aQ (λ_=>?_) (λh=>absurd rfl h);refine ZW ?_;refine ZE ?_ ?_
 ·repeat' first|exact Zq|apply aI
  all_goals first|(rw[aC];done)|skip
 repeat' first|exact Zq|apply aI
 all_goals first|exact qP _|exact qQ _ _|(show tV _ (List.map _ (_++[_]));rw[aV];exact qX _)|(simp;done)|skip
theorem Gu(d:Nat):∀(T:Tb),tJ T->∀(c a b:Int),T.Rf c->T.Rf a->T.Rf b->T.n-min (min (T.lvl c) (T.lvl a)) (T.lvl b)<=d->T.nodes.length+2^d<=1000000000 ->
  ∃ T' r,ZQ 119 [.ptr 0 [] 0,.int .i64 c,.int .i64 a,.int .i64 b] (yZ T) (.int .i64 r) (yZ T') /\
    ChP T T' r (min (min (T.lvl c) (T.lvl a)) (T.lvl b)) (λs=>if ev T.nodes s c then ev T.nodes s a else ev T.nodes s b)/\T'.nodes.length+1<=T.nodes.length+2^d:=by
 induction d with
 | zero =>
   intro T hT c a b hc ha hb hd hN;have hc2:c<2:=by have:=hT.kid hc;omega
   have:=hc.1;obtain⟨r,h1,h2⟩:=SB T hT c a b hc ha hb aj;exact⟨T,r,h1,h2,ak⟩
 | succ d ih =>
   intro T hT c a b hc ha hb hd hN;have h2d:0<2^d:=gG au;have h2e:2^(d+1)=2^d+2^d:=by rw[bU];omega
   by_cases he:c=1\/a=b\/c=0\/(a=1/\b=0);{obtain⟨r,h1,h2⟩:=SB T hT c a b hc ha hb he;exact⟨T,r,h1,h2,aj⟩};have e1:¬c=1:=λh=>he (.inl h);have e2:¬a=b:=λh=>he (.inr (.inl h));have e3:¬c=0:=λh=>he (.inr (.inr (.inl h)));have e4:¬(a=1/\b=0):=λh=>he (.inr (.inr (.inr h)));cases hl:lookO T.memo (c,a,b)with
   | some r =>
     obtain⟨_,_,_,g4,g5,g6⟩:=hT.memo _ _ _ _ hl;refine⟨T,r,?_,⟨hT,.refl _,g4,g5,g6⟩,aj⟩;refine ZN Tryz.func119 λhok=>?_;refine aQ (λh=>absurd h e1) (λ_=>ZW ?_);refine aQ (λh=>absurd h e2) (λ_=>ZW ?_);refine aQ (λh=>absurd h e3) (λ_=>?_);refine ZS ?_ ?_<;>intro h
     ·refine ZW ?_;refine aQ (λh'=>absurd ⟨h,h'⟩ e4) (λ_=>ZW ?_);refine ZR ?_;refine O9 (x:=(c,a,b)) hl (ZW ?_);refine ZE ?_ ?_
      ·repeat' first|exact Zq|apply aI
       all_goals first|(rw[aC];done)|skip
      repeat' first|exact Zq|apply aI
      all_goals first|exact qP _|exact qQ _ _|(show tV _ (List.map _ (_++[_]));rw[aV];exact qX _)|(simp;done)|skip
     refine ZW ?_;refine ZR ?_;refine O9 (x:=(c,a,b)) hl (ZW ?_);refine ZE ?_ ?_
     ·repeat' first|exact Zq|apply aI
      all_goals first|(rw[aC];done)|skip
     repeat' first|exact Zq|apply aI
     all_goals first|exact qP _|exact qQ _ _|(show tV _ (List.map _ (_++[_]));rw[aV];exact qX _)|(simp;done)|skip
   | none =>
     generalize hL:min (min (T.lvl c) (T.lvl a)) (T.lvl b)=L at *;have hc2:2<=c:=(by have:=hc.1;omega);have hcn:=hT.kid hc hc2;have hLc:L<=T.lvl c:=aj;have hLa:L<=T.lvl a:=aj;have hLb:L<=T.lvl b:=aj;have hLn:L<T.n:=aj;have hL0:0<=L:=(by have:=hT.F7 ha;have:=hT.F7 hb;omega);obtain⟨c1,c2,c3,c4,c5⟩:=RP hT hc hL0 hLc hLn;obtain⟨a1,a2,a3,a4,a5⟩:=RP hT ha hL0 hLa hLn;obtain⟨b1,b2,b3,b4,b5⟩:=RP hT hb hL0 hLb hLn;have qc:=a1I T hT aj c L hc hLn;have qa:=a1I T hT aj a L ha hLn;have qb:=a1I T hT aj b L hb hLn;generalize T.kids c L=kc at *;generalize T.kids a L=ka at *;generalize T.kids b L=kb at *;obtain⟨T1,lo,f1,p1,n1⟩:=ih T hT kc.1 ka.1 kb.1 c1 a1 b1 aj aj;have x1:=p1.ext;obtain⟨T2,hi,f2,p2,n2⟩:=ih T1 p1.good kc.2 ka.2 kb.2 (x1.rf c2) (x1.rf a2) (x1.rf b2) (by rw[x1.n,x1.lvl c2,x1.lvl a2,x1.lvl b2];omega) aj;rw[x1.lvl c2,x1.lvl a2,x1.lvl b2]at p2;have x2:=p2.ext;have x12:=x1.trans x2;obtain⟨o1,o2,o3⟩:=hT.ord L hL0 hLn;have hlo:T2.Rf lo:=x2.rf p1.rf;have b8i:T2.lvl lo=T1.lvl lo:=x2.lvl p1.rf;have Z5:T2.order=T.order:=x12.order;have m:=MZ p2.good (v:=T2.order.getD L.toNat 0) (lo:=lo) (hi:=hi) (by rw[x12.n,Z5];exact⟨o1,o2⟩) hlo p2.rf
      (by rw[x12.pl,Z5,o3,b8i];have:=p1.lvl;omega) (by rw[x12.pl,Z5,o3];have:=p2.lvl;omega)
     have qm:=a1H T2 (T2.order.getD L.toNat 0) lo hi aj;have hL2:0<=L/\L<(T2.order.length:Int):=(by rw[Z5];exact⟨hL0,hLn⟩);generalize T2.make (T2.order.getD L.toNat 0) lo hi=q at *;obtain⟨T3,r⟩:=q;obtain⟨m1,m2,m3,m4,m5,m6,m7⟩:=m;dsimp only at m1 m2 m3 m4 m5 m6 m7 qm;rw[Z5]at m4;simp only[Z5]at m7;have x3:=x12.trans m2;have hval:∀s,ev T3.nodes s r=if ev T.nodes s c then ev T.nodes s a else ev T.nodes s b:=(by intro s;rw[m7 s,p2.val s,x2.ev p1.rf,p1.val s,x1.ev c2,x1.ev a2,x1.ev b2,c5 s,a5 s,b5 s];by_cases hs:s (T.order.getD L.toNat 0)=true;{simp only[aG hs]};simp only[aB hs]);have hLr:L<=T3.lvl r:=(by rw[x12.pl,o3]at m4;exact m4);have g4:=a5X m1 (c:=c) (a:=a) (b:=b) (r:=r) ⟨x3.rf hc,x3.rf ha,x3.rf hb,m3,by rw[x3.lvl hc,x3.lvl ha,x3.lvl hb,hL];exact hLr,λs=>by rw[hval s,x3.ev hc,x3.ev ha,x3.ev hb]⟩;have x4:Xt T { T3 with memo:=mark T3.memo (c,a,b) r }:=x3.trans ⟨rfl,rfl,[],ak⟩;refine⟨{ T3 with memo:=mark T3.memo (c,a,b) r },r,?_,⟨g4,x4,m3,hLr,hval⟩,by show T3.nodes.length+1<=_;omega⟩;have hord:T3.order=T.order:=x3.order;have ql:=EY T hT aj c hc;have ql2:=EY T hT aj a ha;have ql3:=EY T hT aj b hb;clear ih;refine ZN Tryz.func119 λhok=>?_;refine aQ (λh=>absurd h e1) (λ_=>ZW ?_);refine aQ (λh=>absurd h e2) (λ_=>ZW ?_);refine aQ (λh=>absurd h e3) (λ_=>?_);refine ZS ?_ ?_<;>intro h
     ·refine ZW ?_;refine aQ (λh'=>absurd ⟨h,h'⟩ e4) (λ_=>ZW ?_);refine ZR ?_;refine Pj (x:=(c,a,b)) hl (ZW ?_);refine .gen _ _ (NZ [(5,_)] ak ql (λ_=>rfl) (λ_=>rfl) rfl) λ_=>ZW ?_;refine .gen _ _ (NZ [(5,_)] ak ql2 (λ_=>rfl) (λ_=>rfl) rfl) λ_=>ZW ?_;refine .gen _ _ (NZ [(5,_)] ak ql3 (λ_=>rfl) (λ_=>rfl) rfl) λ_=>ZW ?_;rw[hL];refine .gen _ _ (NZ [(5,_)] ak qc (λ_=>rfl) (λ_=>rfl) rfl) λ_=>ZW ?_;refine .gen _ _ (NZ [(5,_)] ak qa (λ_=>rfl) (λ_=>rfl) rfl) λ_=>ZW ?_;refine .gen _ _ (NZ [(5,_)] ak qb (λ_=>rfl) (λ_=>rfl) rfl) λ_=>ZW ?_;refine .gen _ _ (NZ [(5,_)] ak f1 (λ_=>rfl) (λ_=>rfl) rfl) λ_=>ZW ?_;refine .gen _ _ (NZ [(5,_)] ak f2 (λ_=>rfl) (λ_=>rfl) rfl) λ_=>ZW ?_;refine ug 0 hL2 (ZW ?_);refine .gen _ _ (NZ [(5,_)] ak qm (λ_=>rfl) (λ_=>rfl) rfl) λ_=>ZW ?_;refine ZR ?_;refine Nv (x:=(c,a,b)) (ZW ?_);refine ZE ?_ ?_
      ·repeat' first|exact Zq|apply aI
       all_goals first|(rw[aC];done)|skip
      repeat' first|exact Zq|apply aI
      all_goals first|exact qP _|exact qQ _ _|(show tV _ (List.map _ (_++[_]));rw[aV];exact qX _)|(simp;done)|skip
     refine ZW ?_;refine ZR ?_;refine Pj (x:=(c,a,b)) hl (ZW ?_);refine .gen _ _ (NZ [(5,_)] ak ql (λ_=>rfl) (λ_=>rfl) rfl) λ_=>ZW ?_;refine .gen _ _ (NZ [(5,_)] ak ql2 (λ_=>rfl) (λ_=>rfl) rfl) λ_=>ZW ?_;refine .gen _ _ (NZ [(5,_)] ak ql3 (λ_=>rfl) (λ_=>rfl) rfl) λ_=>ZW ?_;rw[hL];refine .gen _ _ (NZ [(5,_)] ak qc (λ_=>rfl) (λ_=>rfl) rfl) λ_=>ZW ?_;refine .gen _ _ (NZ [(5,_)] ak qa (λ_=>rfl) (λ_=>rfl) rfl) λ_=>ZW ?_;refine .gen _ _ (NZ [(5,_)] ak qb (λ_=>rfl) (λ_=>rfl) rfl) λ_=>ZW ?_;refine .gen _ _ (NZ [(5,_)] ak f1 (λ_=>rfl) (λ_=>rfl) rfl) λ_=>ZW ?_;refine .gen _ _ (NZ [(5,_)] ak f2 (λ_=>rfl) (λ_=>rfl) rfl) λ_=>ZW ?_;refine ug 0 hL2 (ZW ?_);refine .gen _ _ (NZ [(5,_)] ak qm (λ_=>rfl) (λ_=>rfl) rfl) λ_=>ZW ?_;refine ZR ?_;refine Nv (x:=(c,a,b)) (ZW ?_);refine ZE ?_ ?_
     ·repeat' first|exact Zq|apply aI
      all_goals first|(rw[aC];done)|skip
     repeat' first|exact Zq|apply aI
     all_goals first|exact qP _|exact qQ _ _|(show tV _ (List.map _ (_++[_]));rw[aV];exact qX _)|(simp;done)|skip
mutual
theorem Rw{σ:Nat->Nat}{m:Nat}(hσ:∀k,k<m->σ k=k):∀(A:AV),tH m A=true->yT σ A=A
 | .bool _,_ | .tt,_ | .ff,_ | .dec _,_ | .int _ _,_ | .str _,_ | .vK,_ | .qV,_ | .cp _,_ | .wo,_ | .rC,_ | .zF,_ | .und,_ | .sl _ _ .no,_ | .sl _ _ .full,_=>rfl
 | .uY t x,h=>by simp only[yT];rw[Rw hσ x (by simpa only[tH]using h)]
 | .sl _ _ (.own k),h=>by simp only[tH]at h;simp only[yT];rw[hσ k (bF h)]
 | .ms k _ _ _ _,h=>by simp only[tH]at h;simp only[yT];rw[hσ k (bF h)]
 | .ptr k _ _,h=>by simp only[tH]at h;simp only[yT];rw[hσ k (bF h)]
 | .mp k,h=>by simp only[tH]at h;simp only[yT];rw[hσ k (bF h)]
 | .gs k _,h=>by simp only[tH]at h;simp only[yT];rw[hσ k (bF h)]
 | .bm _ k,h=>by simp only[tH]at h;simp only[yT];rw[hσ k (bF h)]
 | .ag l,h=>by simp only[yT];rw[VU hσ l (by simpa only[tH]using h)]
 | .uy l,h=>by simp only[yT];rw[VU hσ l (by simpa only[tH]using h)]
 | .fn _ cap,h=>by simp only[yT];rw[VU hσ cap (by simpa only[tH]using h)]
theorem VU{σ:Nat->Nat}{m:Nat}(hσ:∀k,k<m->σ k=k):∀(l:List AV),vW m l=true->Uo σ l=l
 | [],_=>rfl
 | x::l,h=>by
   simp only[vW]at h;cases hx:tH m x with
   |false=>rw[hx]at h;cases h
   |true=>rw[hx]at h;simp only[Uo];rw[Rw hσ x hx,VU hσ l h]
end
theorem a5x{σ:Nat->Nat}{m:Nat}(hσ:∀k,k<m->σ k=k):∀(l:List (AV×AV)),EZ m l=true->zQ σ l=l
 | [],_=>rfl
 | (x,y)::l,h=>by
   simp only[EZ]at h;cases hx:tH m x with
   |false=>rw[hx]at h;cases h
   | true =>
     cases hy:tH m y with
     |false=>rw[hx,hy]at h;cases h
     |true=>rw[hx,hy]at h;simp only[zQ];rw[Rw hσ x hx,Rw hσ y hy,a5x hσ l h]
def b0E(m:Nat):Heap->Prop
 | []=>True
 |(_,o)::H=>(match o with | .tY _ es=>EZ m es=true|o=>Uw m o=true)/\b0E m H
theorem b0E.mem{m:Nat}:∀{H:Heap},b0E m H->∀k o,(k,o)∈H->(match o with | .tY _ es=>EZ m es=true|o=>Uw m o=true)
 | [],_,_,_,h=>by simp at h
 |(i,x)::H,h,k,o,hm=>by rcases aU.1 hm with e|e;{injection e with e1 e2;subst e2;exact h.1};exact h.2.mem k o e
theorem b0K{σ:Nat->Nat}{m:Nat}(hσ:∀k,k<m->σ k=k){o:HO}(h:match o with | .tY _ es=>EZ m es=true|o=>Uw m o=true):rnO σ o=o:=by
 cases o with
 |box A=>simp only[rnO];rw[Rw hσ A h]
 |tY sh es=>simp only[rnO];rw[a5x hσ es h]
 |_=>rfl
theorem Qn:∀{m:Nat} {H:Heap},Az m H=true->∀k o,(k,o)∈H->k<m
 | 0,[],_,_,_,h=>by simp at h
 | 0,_::_,h,_,_,_=>by simp[Az]at h
 |_+1,[],h,_,_,_=>by simp[Az]at h
 | m+1,(i,x)::H,h,k,o,hm=>by
   simp only[Az]at h;cases hb:Nat.beq i m with
   |false=>rw[hb]at h;cases h
   |true =>rw[hb]at h;have:=aJ hb;rcases aU.1 hm with e|e;{injection e with e1 e2;omega};have:=Qn h k o e;omega
theorem Xd:∀{m:Nat} {H:Heap},Az m H=true->∀k o,(k,o)∈H->hget H k=some o
 | 0,[],_,_,_,h=>by simp at h
 | 0,_::_,h,_,_,_=>by simp[Az]at h
 |_+1,[],h,_,_,_=>by simp[Az]at h
 | m+1,(i,x)::H,h,k,o,hm=>by
   simp only[Az]at h;cases hb:Nat.beq i m with
   |false=>rw[hb]at h;cases h
   | true =>
     rw[hb]at h;have hi:=aJ hb;simp only[hget];rcases aU.1 hm with e|e;{injection e with e1 e2;subst e1 e2;simp};have:=Qn h k o e;have hbk:Nat.beq i k=false:=by
      cases hb:Nat.beq i k with
      |false=>rfl
      |true=>have:=aJ hb;omega
     rw[hbk];exact Xd h k o e
theorem a2H{m i:Nat}:ix (List.range m) i=if i<m then some i else none:=by
 cases h:ix (List.range m) i with
 |some k =>obtain⟨hk,e⟩:=UM h;have hk':k<m:=(by simpa using hk);rw[nP]at e;rw[aG aj,e]
 |none =>have:=a1q h;rw[aB (by simpa using this)]
theorem a8D{m n k:Nat}(h:k<m):sg (List.range m) n k=k:=by rw[a5q (by simpa using h),nP]
theorem a2b{m n:Nat}{G Y:Heap}:∀{X:Heap},(∀x∈X,m<=x.1)->CJ (List.range m) n G (X++Y)=X++CJ (List.range m) n G Y
 | [],_=>rfl
 |(i,o)::X,h=>by have hi:=h (i,o) ak;simp only[eP,CJ,a2H];rw[aB (Nat.not_lt.2 hi),a2b λx hx=>h x (by simp[hx])]
theorem Y8{m n:Nat}{G:Heap}:∀{j:Nat} {Hs Gs:Heap},j<=m->Az j Hs=true->Az j Gs=true->(∀i o,(i,o)∈Gs->hget G i=some o/\rnO (sg (List.range m) n) o=o)->CJ (List.range m) n G Hs=Gs
 | 0,[],[],_,_,_,_=>rfl
 | 0,_::_,_,_,h,_,_=>by simp[Az]at h
 | 0,[],_::_,_,_,h,_=>by simp[Az]at h
 |_+1,[],_,_,h,_,_=>by simp[Az]at h
 |_+1,_::_,[],_,_,h,_=>by simp[Az]at h
 | j+1,(i,o)::Hs,(i',o')::Gs,hj,h,h',hg=>by
   simp only[Az]at h h';cases hb:Nat.beq i j with
   |false=>rw[hb]at h;cases h
   | true =>
     cases hb':Nat.beq i' j with
     |false=>rw[hb']at h';cases h'
     |true =>rw[hb]at h;rw[hb']at h';obtain rfl:=aJ hb;obtain rfl:=aJ hb';obtain⟨g1,g2⟩:=hg i' o' ak;simp only[CJ,a2H];rw[aG aj,Y8 aj h h' λi o hm=>hg i o (by simp[hm])];simp only[g1,g2]
theorem Nc{m n:Nat}{k:HO->Prop}{Y:Heap}(hn:n<m):∀{X:Heap},(∀x∈X,m<=x.1)->(yt (X++Y) n k↔yt Y n k)
 | [],_=>jm
 | (i,o)::X,h=>by
   have hi:=h (i,o) ak;have:Nat.beq i n=false:=by
    cases hb:Nat.beq i n with
    |false=>rfl
    |true=>have:=aJ hb;simp at hi;omega
   simp only[eP,yt,this];exact Nc hn λx hx=>h x (by simp[hx])
theorem qZ.top{f:Nat}{args:List AV}{R:AV}{H G:Heap}(m:Nat)(X:Heap)(hX:∀x∈X,m<=x.1)(h:ZQ f args H R G)(hf:Az m H=true/\Az m G=true)
  (hH:b0E m H) (hG:b0E m G) (hb:vW m args=true/\tH m R=true) (hl:KC (nextId (X++H)) (List.range m)=true/\nodupB (List.range m)=true):ZQ f args (X++H) R (X++G):=by
 have hσ:∀n k,k<m->sg (List.range m) n k=k:=λn k hk=>a8D hk;have hlen:(List.range m).length=m:=nR;have sub:∀K:Heap,(∀k o,(k,o)∈K->hget H k=some o/\k<m)->b0E m K->b4j (sg (List.range m) (nextId (X++H))) m (X++H) K:=by
  intro K;induction K with
  |nil=>intros;trivial
  |cons y K ih =>obtain⟨k,o⟩:=y;intro hk hB;obtain⟨g1,g2⟩:=hk k o ak;refine⟨?_,ih (λk o hm=>hk k o (by simp[hm])) hB.2⟩;rw[hσ _ k g2];refine(Nc g2 hX).2 (uo.2 ⟨o,g1,?_,hB.1⟩);rw[b0K (hσ _) hB.1];exact Qg o
 have:=qZ.frame (H:=X++H) (args:=args) (List.range m) h ⟨hl.1,hl.2,by rw[hlen];exact hf.1,by rw[hlen];exact hb.1⟩
  (by rw[hlen];exact sub H (λk o hm=>⟨Xd hf.1 k o hm,Qn hf.1 k o hm⟩) hH) (by rw[VU (hσ _) args hb.1];exact rQ _)
 rw[Rw (hσ _) R hb.2]at this;have e:Ri (List.range m) G (X++H)=X++G:=by
  unfold Ri;rw[a2b hX,Y8 (aT m) hf.1 hf.2 λi o hm=>⟨Xd hf.2 i o hm,b0K (hσ _) (hG.mem i o hm)⟩];cases G with
  |nil=>rfl
  | cons y G =>
    obtain⟨k,o⟩:=y;have hk:=Qn hf.2 k o ak;simp only[newH,hlen];have:Nat.ble m k=false:=by
     cases hb:Nat.ble m k with
     |false=>rfl
     |true=>have:=bF hb;omega
    rw[this]
 rwa[e]at this
abbrev MI:=List (Int×Int)
def yU:MI->Int->Option Int
 | [],_=>none
 |(y,v)::es,x=>if y=x then some v else yU es x
def GY:MI->Int->Int->MI
 | [],x,v=>[(x,v)]
 |(y,u)::es,x,v=>if y=x then(x,v)::es else(y,u)::GY es x v
abbrev encI(es:MI):List (AV×AV):=es.map λe=>(.int .i64 e.1,.int .i64 e.2)
theorem UL{x y:Int}:Ut (.int .i64 x)=Ut (.int .i64 y)↔x=y:=by simp[Ut]
theorem LW{es:MI}{x r:Int}{k:AV->Prop}(hl:yU es x=some r)(h:k (.uy [.int .i64 r,.tt])):FW (encI es) (.int .i64 x) λr=>DI true (.int .i64 0) r k:=by
 refine⟨some (.int .i64 r),?_,h⟩;induction es with
 |nil=>simp[yU]at hl
 |cons e es ih =>obtain⟨y,v⟩:=e;simp only[yU]at hl;by_cases hy:y=x;{subst hy;rw[aG rfl]at hl;obtain rfl:=aW hl;exact⟨_,dD,rfl,rfl⟩};rw[aB hy]at hl;obtain⟨z,hz,h3,h4⟩:=ih hl;exact⟨z,by simp only[encI,dF,aU];exact .inr hz,h3,h4⟩
theorem Iu{es:MI}{x:Int}{k:AV->Prop}(hl:yU es x=none)(h:k (.uy [.int .i64 0,.ff])):FW (encI es) (.int .i64 x) λr=>DI true (.int .i64 0) r k:=by
 refine⟨none,?_,h⟩;induction es with
 |nil=>intro z hz;simp[encI]at hz
 |cons e es ih =>obtain⟨y,v⟩:=e;simp only[yU]at hl;by_cases hy:y=x;{subst hy;rw[aG rfl]at hl;cases hl};rw[aB hy]at hl;intro z hz;simp only[encI,dF,aU]at hz;rcases hz with rfl|hz;{exact λe=>hy (UL.1 e)};exact ih hl z hz
theorem Uc{es:MI}{x v:Int}{k:List (AV×AV)->Prop}(h:k (encI (GY es x v))):b1B (encI es) (.int .i64 x) (.int .i64 v) k:=by
 refine⟨_,?_,h⟩;clear h;induction es with
 |nil=>exact .inl ⟨by simp[encI],rfl⟩
 |cons e es ih =>obtain⟨y,u⟩:=e;by_cases hy:y=x;{subst hy;exact .inr ⟨0,(.int .i64 y,.int .i64 u),rfl,rfl,by simp[GY,encI]⟩};simp only[GY,aB hy];rcases ih with⟨h1,h2⟩|⟨j,z,h1,h2,h3⟩;{refine .inl ⟨?_,?_⟩;{intro z hz;simp only[encI,dF,aU]at hz;rcases hz with rfl|hz;{exact λe=>hy (UL.1 e)};exact h1 z hz};simp only[encI,dF,eP]at h2 ⊢;rw[h2]};refine .inr ⟨j+1,z,by simpa[encI]using h1,h2,?_⟩;simp only[encI,dF,jL]at h3 ⊢;rw[h3]
theorem Bc{es:MI}{x y v:Int}:yU (GY es x v) y=if x=y then some v else yU es y:=by
 induction es with
 |nil=>simp[GY,yU]
 |cons e es ih =>obtain⟨z,u⟩:=e;simp only[GY];by_cases hz:z=x;{subst hz;rw[aG rfl];simp only[yU];split <;> rfl};rw[aB hz];simp only[yU,ih];by_cases h1:z=y;{subst h1;rw[aG rfl,aG rfl,aB (λe=>hz e.symm)]};rw[aB h1,aB h1]
theorem yO(n:Nat):∀es:MI,EZ n (encI es)=true
 | []=>rfl
 |_::es=>by show(match true,true with|true,true=>EZ n (encI es)|_,_=>false)=true;exact yO n es
def vJ(s:Int->Bool)(i:Int)(b:Bool):Int->Bool:=λj=>if j=i then b else s j
theorem Ls{T:Tb}(h:tJ T)(d:Nat):∀(r:Int),T.Rf r->r<=d->∀(s s':Int->Bool),(∀j,0<=j->j<T.n->T.lvl r<=T.pl j->s j=s' j)->ev T.nodes s r=ev T.nodes s' r:=by
 induction d with
 |zero =>intro r hr hd s s' _;have:=hr.1;obtain rfl:r=0:=aj;rfl
 |succ d ih =>intro r hr hd s s' hs;by_cases h2:r<2;{have:=hr.1;rcases(by omega:r=0\/r=1)with rfl|rfl <;> rfl};obtain⟨g,e⟩:=h.at hr aj;obtain⟨k1,k2,k3,k4,k5,k6⟩:=h.kid hr aj;have hv:s (T.node r).1=s' (T.node r).1:=hs _ g.v.1 g.v.2 (by rw[show T.lvl r=T.pl (T.node r).1 from aB h2];exact dQ _);have hlo:=g.lo.2;have hhi:=g.hi.2;have:=hr.2;rw[e s,e s',hv,ih _ k2 aj s s' λj a b c=>hs j a b aj,ih _ k1 aj s s' λj a b c=>hs j a b aj]
theorem Lr{T:Tb}(h:tJ T){r i:Int}(hr:T.Rf r)(hi:0<=i/\i<T.n)(hl:T.pl i<T.lvl r)(s:Int->Bool)(b:Bool):ev T.nodes (vJ s i b) r=ev T.nodes s r:=by refine Ls h r.toNat r hr (by have:=hr.1;omega) _ _ λj h0 h1 h2=>?_;unfold vJ;rw[aB];rintro rfl;omega
def Ui(T:Tb)(i:Int)(b:Bool)(D:MI):Prop :=
 ∀r x,yU D r=some x->T.Rf r/\T.Rf x/\T.lvl r<=T.lvl x/\∀s,ev T.nodes s x=ev T.nodes (vJ s i b) r
theorem Ui.ext{T T':Tb}{i:Int}{b:Bool}{D:MI}(h:Ui T i b D)(x:Xt T T'):Ui T' i b D:=by intro r y hl;obtain⟨h1,h2,h3,h4⟩:=h r y hl;exact⟨x.rf h1,x.rf h2,by rw[x.lvl h1,x.lvl h2];exact h3,λs=>by rw[x.ev h2,x.ev h1];exact h4 s⟩
theorem Ui.mark{T:Tb}{i:Int}{b:Bool}{D:MI}(h:Ui T i b D){r x:Int}(g:T.Rf r/\T.Rf x/\T.lvl r<=T.lvl x/\∀s,ev T.nodes s x=ev T.nodes (vJ s i b) r):Ui T i b (GY D r x):=by intro r' x' hl;rw[Bc]at hl;split at hl;{rename_i e;subst e;obtain rfl:=aW hl;exact g};exact h r' x' hl
abbrev byI(b:Bool):Int:=if b=true then 1 else 0
abbrev hpW(T:Tb)(i:Int)(b:Bool)(D:MI):Heap :=
 [(10,.box (.fn 230 [.ptr 5 [] 0,.ptr 6 [] 0,.ptr 9 [] 0,.ptr 7 [] 0,.ptr 10 [] 0])),(9,.box (.mp 8)),(8,.tY (.int .i64 0) (encI D)),(7,.box (.int .i64 (byI b))),(6,.box (.int .i64 i)),(5,.box (.ptr 0 [] 0))]++yZ T
theorem b7O(T:Tb)(m:Nat)(h:5<=m):b0E m (yZ T):=by have h1:Nat.blt 1 m=true:=gI aj;have h2:Nat.blt 2 m=true:=gI aj;have h3:Nat.blt 3 m=true:=gI aj;have h4:Nat.blt 4 m=true:=gI aj;refine⟨qQ _ _,qQ _ _,rfl,rfl,?_,trivial⟩;simp only[Uw,tH,vW,h1,h2,h3,h4]
theorem b6h(T:Tb)(i:Int)(b:Bool)(D:MI):b0E 11 (hpW T i b D) :=
 ⟨rfl,rfl,yO _ _,rfl,rfl,rfl,b7O T 11 au⟩
abbrev b3N(r:Int):List AV:=[.int .i64 r,.ptr 5 [] 0,.ptr 6 [] 0,.ptr 9 [] 0,.ptr 7 [] 0,.ptr 10 [] 0]
structure CmP(N:Nat)(i:Int)(b:Bool)(T T':Tb)(D':MI)(r x:Int):Prop where
 good:tJ T'
 ext:Xt T T'
 rf:T'.Rf x
 lvl:T.lvl r<=T'.lvl x
 val:∀s,ev T'.nodes s x=ev T.nodes (vJ s i b) r
 done:Ui T' i b D'
theorem a4z(T:Tb)(i:Int)(b:Bool)(D:MI)(hT:tJ T)(hn:T.nodes.length<=1000000000)(hi0:0<=i)(hi:i<T.n)(r x:Int)(hr:T.Rf r)(hlv:¬T.pl i<T.lvl r)(hl:yU D r=some x) :
  ZQ 230 (b3N r) (hpW T i b D) (.int .i64 x) (hpW T i b D):=by
 have hpi:T.place.getD ((i.toNat:Nat):Int).toNat 0=T.pl i:=(by unfold Tb.pl;rw[aO]);have ql:=EY T hT hn r hr;refine ZN Tryz.func230 λhok=>?_;refine xG.both [] [3,6,7,9] ⟨[false,true,false,false,true,true,false,false,true,false,true],by kernel_rfl,?_⟩;conv=>whnf
 refine .gen _ _ (NZ [(10,_),(9,_),(8,_),(7,_),(6,_),(5,_)] ak ql (λ_=>rfl) (λ_=>rfl) rfl) λ_=>?_;conv=>whnf
 (refine aI (by(conv=>whnf)<;>exact rfl) ?_;(conv=>whnf))
 (refine aI (by(conv=>whnf)<;>exact rfl) ?_;(conv=>whnf))
 (refine aI (by(conv=>whnf)<;>exact rfl) ?_;(conv=>whnf))
 refine⟨⟨hi0,by rw[hT.OB];exact hi⟩,?_⟩;conv=>whnf
 rw[bH];refine ug 0 ⟨aj,by rw[fJ hi0,hT.OB];exact hi⟩ ?_;conv=>whnf
 rw[hpi];refine⟨rfl,?_⟩;conv=>whnf
 refine aI ?_ ?_
 ·conv=>whnf
  refine ug 0 ⟨aj,by rw[fJ hi0,hT.OB];exact hi⟩ ?_;conv=>whnf
  rw[hpi];exact⟨rfl,rfl⟩
 refine ZW ?_;refine aQ (λh=>absurd h hlv) (λ_=>ZW ?_);refine LW hl (ZW ?_);refine ZE ?_ ?_;{exact wk};repeat' first|exact Zq|apply aI
 all_goals first|exact qP _|exact qQ _ _|exact yO _ _|(simp;done)|skip
theorem a0E(T:Tb)(i:Int)(b:Bool)(D:MI)(hT:tJ T)(hn:T.nodes.length<=1000000000)(hi0:0<=i)(hi:i<T.n)(r:Int)(hr:T.Rf r)(hlv:T.pl i<T.lvl r) :
  ZQ 230 (b3N r) (hpW T i b D) (.int .i64 r) (hpW T i b D):=by
 have hpi:T.place.getD ((i.toNat:Nat):Int).toNat 0=T.pl i:=(by unfold Tb.pl;rw[aO]);have ql:=EY T hT hn r hr;refine ZN Tryz.func230 λhok=>?_;refine xG.both [] [3,6,7,9] ⟨[false,true,false,false,true,true,false,false,true,false,true],by kernel_rfl,?_⟩;conv=>whnf
 refine .gen _ _ (NZ [(10,_),(9,_),(8,_),(7,_),(6,_),(5,_)] ak ql (λ_=>rfl) (λ_=>rfl) rfl) λ_=>?_;conv=>whnf
 (refine aI (by(conv=>whnf)<;>exact rfl) ?_;(conv=>whnf))
 (refine aI (by(conv=>whnf)<;>exact rfl) ?_;(conv=>whnf))
 (refine aI (by(conv=>whnf)<;>exact rfl) ?_;(conv=>whnf))
 refine⟨⟨hi0,by rw[hT.OB];exact hi⟩,?_⟩;conv=>whnf
 rw[bH];refine ug 0 ⟨aj,by rw[fJ hi0,hT.OB];exact hi⟩ ?_;conv=>whnf
 rw[hpi];refine⟨rfl,?_⟩;conv=>whnf
 refine aI ?_ ?_
 ·conv=>whnf
  refine ug 0 ⟨aj,by rw[fJ hi0,hT.OB];exact hi⟩ ?_;conv=>whnf
  rw[hpi];exact⟨rfl,rfl⟩
 refine ZW ?_;refine aQ (λ_=>?_) (λh=>absurd hlv h);refine ZW ?_;refine ZE ?_ ?_;{exact wk};repeat' first|exact Zq|apply aI
 all_goals first|exact qP _|exact qQ _ _|exact yO _ _|(simp;done)|skip
theorem a7C(T T':Tb)(i:Int)(b:Bool)(D:MI)(hT:tJ T)(hn:T.nodes.length<=1000000000)(hi0:0<=i)(hi:i<T.n)(r x:Int)(hr:T.Rf r)(h2:2<=r)(hlv:¬T.pl i<T.lvl r)(hl:yU D r=none)
  (hv:(T.nodes.getD (r-2).toNat default).1=i)
  (qc:ZQ 119 [.ptr 0 [] 0,.int .i64 (byI b),.int .i64 (T.nodes.getD (r-2).toNat default).2.2,.int .i64 (T.nodes.getD (r-2).toNat default).2.1] (yZ T) (.int .i64 x) (yZ T')) :
  ZQ 230 (b3N r) (hpW T i b D) (.int .i64 x) (hpW T' i b (GY D r x)):=by
 have hpi:T.place.getD ((i.toNat:Nat):Int).toNat 0=T.pl i:=(by unfold Tb.pl;rw[aO]);have ql:=EY T hT hn r hr;have hr2:=hr.2;refine ZN Tryz.func230 λhok=>?_;refine xG.both [] [3,6,7,9] ⟨[false,true,false,false,true,true,false,false,true,false,true],by kernel_rfl,?_⟩;conv=>whnf
 refine .gen _ _ (NZ [(10,_),(9,_),(8,_),(7,_),(6,_),(5,_)] ak ql (λ_=>rfl) (λ_=>rfl) rfl) λ_=>?_;conv=>whnf
 (refine aI (by(conv=>whnf)<;>exact rfl) ?_;(conv=>whnf))
 (refine aI (by(conv=>whnf)<;>exact rfl) ?_;(conv=>whnf))
 (refine aI (by(conv=>whnf)<;>exact rfl) ?_;(conv=>whnf))
 refine⟨⟨hi0,by rw[hT.OB];exact hi⟩,?_⟩;conv=>whnf
 rw[bH];refine ug 0 ⟨aj,by rw[fJ hi0,hT.OB];exact hi⟩ ?_;conv=>whnf
 rw[hpi];refine⟨rfl,?_⟩;conv=>whnf
 refine aI ?_ ?_
 ·conv=>whnf
  refine ug 0 ⟨aj,by rw[fJ hi0,hT.OB];exact hi⟩ ?_;conv=>whnf
  rw[hpi];exact⟨rfl,rfl⟩
 refine ZW ?_;refine aQ (λh=>absurd h hlv) (λ_=>ZW ?_);refine Iu hl (ZW ?_);refine⟨rW aj aj,ZW ?_⟩;refine ug default ⟨aj,aj⟩ (ZW ?_);refine aQ (λ_=>?_) (λh=>absurd hv h);refine ZW ?_;refine .gen _ _ (NZ [(11,_),(10,_),(9,_),(8,_),(7,_),(6,_),(5,_)] ak qc (λ_=>rfl) (λ_=>rfl) rfl) λ_=>ZW ?_;refine Uc (ZW ?_);refine ZE ?_ ?_;{exact wk};repeat' first|exact Zq|apply aI
 all_goals first|exact qP _|exact qQ _ _|exact yO _ _|(simp;done)|skip
theorem a7D(T T0 T1 T2 T3:Tb)(i:Int)(b:Bool)(D D1 D2:MI)(hT:tJ T)(hn:T.nodes.length<=1000000000)(hi0:0<=i)(hi:i<T.n)(r e xh xl x:Int)(hr:T.Rf r)(h2:2<=r)(hlv:¬T.pl i<T.lvl r)(hl:yU D r=none)
  (hv:¬(T.nodes.getD (r-2).toNat default).1=i)
  (qe:ZQ 115 [.ptr 0 [] 0,.int .i64 (T.nodes.getD (r-2).toNat default).1] (yZ T) (.int .i64 e) (yZ T0))
  (qh:ZQ 230 (b3N (T.nodes.getD (r-2).toNat default).2.2) (hpW T0 i b D) (.int .i64 xh) (hpW T1 i b D1))
  (qo:ZQ 230 (b3N (T.nodes.getD (r-2).toNat default).2.1) (hpW T1 i b D1) (.int .i64 xl) (hpW T2 i b D2))
  (qc:ZQ 119 [.ptr 0 [] 0,.int .i64 e,.int .i64 xh,.int .i64 xl] (yZ T2) (.int .i64 x) (yZ T3)) :
  ZQ 230 (b3N r) (hpW T i b D) (.int .i64 x) (hpW T3 i b (GY D2 r x)):=by
 have hpi:T.place.getD ((i.toNat:Nat):Int).toNat 0=T.pl i:=(by unfold Tb.pl;rw[aO]);have ql:=EY T hT hn r hr;have hr2:=hr.2;have th:=λK:AV=>qZ.top 11 [(11,.box K)] ak qh ⟨rfl,rfl⟩ (b6h _ _ _ _) (b6h _ _ _ _) ⟨rfl,rfl⟩ ⟨rfl,rfl⟩;have tl:=λK:AV=>qZ.top 11 [(11,.box K)] ak qo ⟨rfl,rfl⟩ (b6h _ _ _ _) (b6h _ _ _ _) ⟨rfl,rfl⟩ ⟨rfl,rfl⟩;refine ZN Tryz.func230 λhok=>?_;refine xG.both [] [3,6,7,9] ⟨[false,true,false,false,true,true,false,false,true,false,true],by kernel_rfl,?_⟩;conv=>whnf
 refine .gen _ _ (NZ [(10,_),(9,_),(8,_),(7,_),(6,_),(5,_)] ak ql (λ_=>rfl) (λ_=>rfl) rfl) λ_=>?_;conv=>whnf
 (refine aI (by(conv=>whnf)<;>exact rfl) ?_;(conv=>whnf))
 (refine aI (by(conv=>whnf)<;>exact rfl) ?_;(conv=>whnf))
 (refine aI (by(conv=>whnf)<;>exact rfl) ?_;(conv=>whnf))
 refine⟨⟨hi0,by rw[hT.OB];exact hi⟩,?_⟩;conv=>whnf
 rw[bH];refine ug 0 ⟨aj,by rw[fJ hi0,hT.OB];exact hi⟩ ?_;conv=>whnf
 rw[hpi];refine⟨rfl,?_⟩;conv=>whnf
 refine aI ?_ ?_
 ·conv=>whnf
  refine ug 0 ⟨aj,by rw[fJ hi0,hT.OB];exact hi⟩ ?_;conv=>whnf
  rw[hpi];exact⟨rfl,rfl⟩
 refine ZW ?_;refine aQ (λh=>absurd h hlv) (λ_=>ZW ?_);refine Iu hl (ZW ?_);refine⟨rW aj aj,ZW ?_⟩;refine ug default ⟨aj,aj⟩ (ZW ?_);refine aQ (λh=>absurd h hv) (λ_=>ZW ?_);refine xG.both [0] [5,7,9,11] ⟨[false,false,true,false,false,false,true,false,false,false,true,false,false,false,true],by kernel_rfl,?_⟩;conv=>whnf
 refine .gen _ _ (NZ [(11,_),(10,_),(9,_),(8,_),(7,_),(6,_),(5,_)] ak qe (λ_=>rfl) (λ_=>rfl) rfl) λ_=>?_;conv=>whnf
 (refine aI (by(conv=>whnf)<;>exact rfl) ?_;(conv=>whnf))
 (refine aI (by(conv=>whnf)<;>exact rfl) ?_;(conv=>whnf))
 (refine aI (by(conv=>whnf)<;>exact rfl) ?_;(conv=>whnf))
 refine .gen _ _ (th _) λ_=>?_;conv=>whnf
 (refine aI (by(conv=>whnf)<;>exact rfl) ?_;(conv=>whnf))
 (refine aI (by(conv=>whnf)<;>exact rfl) ?_;(conv=>whnf))
 (refine aI (by(conv=>whnf)<;>exact rfl) ?_;(conv=>whnf))
 (refine aI (by(conv=>whnf)<;>exact rfl) ?_;(conv=>whnf))
 (refine aI (by(conv=>whnf)<;>exact rfl) ?_;(conv=>whnf))
 refine .gen _ _ (tl _) λ_=>?_;conv=>whnf
 (refine aI (by(conv=>whnf)<;>exact rfl) ?_;(conv=>whnf))
 refine .gen _ _ (NZ [(11,_),(10,_),(9,_),(8,_),(7,_),(6,_),(5,_)] ak qc (λ_=>rfl) (λ_=>rfl) rfl) λ_=>?_;conv=>whnf
 (refine aI (by(conv=>whnf)<;>exact rfl) ?_;(conv=>whnf))
 refine Uc (ZW ?_);refine ZE ?_ ?_;{exact wk};repeat' first|exact Zq|apply aI
 all_goals first|exact qP _|exact qQ _ _|exact yO _ _|(simp;done)|skip
theorem a7y(N:Nat)(i:Int)(b:Bool)(hi0:0<=i)(d:Nat):∀(T:Tb) (D:MI),tJ T->T.n<=N->i<T.n->Ui T i b D->∀(r:Int),T.Rf r->T.n-T.lvl r<=d->T.nodes.length+2^d*(2^N+2)<=1000000000 ->
  ∃T' D' x,ZQ 230 (b3N r) (hpW T i b D) (.int .i64 x) (hpW T' i b D')/\CmP N i b T T' D' r x/\T'.nodes.length+(2^N+2)<=T.nodes.length+2^d*(2^N+2):=by
 have h2N:0<2^N:=gG au;induction d with
 |zero =>intro T D hT hN hi hD r hr hd hS;have hpl:=hT.plc i hi0 hi;have hlv:T.pl i<T.lvl r:=aj;rw[mX,gQ]at hS ⊢;exact⟨T,D,r,a0E T i b D hT aj hi0 hi r hr hlv,⟨hT,.refl _,hr,dQ _,λs=>(Lr hT hr ⟨hi0,hi⟩ hlv s b).symm,hD⟩,aT _⟩
 | succ d ih =>
   intro T D hT hN hi hD r hr hd hS;have hpl:=hT.plc i hi0 hi;have hM:2^(d+1)*(2^N+2)=2^d*(2^N+2)+2^d*(2^N+2):=by rw[bU,Nat.mul_two,dw]
   have hK:2^N+2<=2^d*(2^N+2):=Nat.le_mul_of_pos_left _ (gG au);rw[hM]at hS ⊢;generalize 2^d*(2^N+2)=M at *;by_cases hlv:T.pl i<T.lvl r;{exact⟨T,D,r,a0E T i b D hT aj hi0 hi r hr hlv,⟨hT,.refl _,hr,dQ _,λs=>(Lr hT hr ⟨hi0,hi⟩ hlv s b).symm,hD⟩,aj⟩};cases hl:yU D r with
   |some x =>obtain⟨g1,g2,g3,g4⟩:=hD r x hl;exact⟨T,D,x,a4z T i b D hT aj hi0 hi r x hr hlv hl,⟨hT,.refl _,g2,g3,g4,hD⟩,aj⟩
   | none =>
     have h2:2<=r:=(by apply aS;intro h;have:T.lvl r=T.n:=aG aj;omega);obtain⟨gn,gev⟩:=hT.at hr h2;obtain⟨k1,k2,k3,k4,k5,k6⟩:=hT.kid hr h2;have hlr:T.lvl r=T.pl (T.node r).1:=aB aj;by_cases hv:(T.node r).1=i
     ·obtain⟨x,qc,p⟩:=SB T hT (byI b) (T.node r).2.2 (T.node r).2.1 (by cases b <;> exact⟨au,by simp[byI];omega⟩) k2 k1 (by cases b <;> simp[byI]);have hby:T.lvl (byI b)=T.n:=aG (by cases b <;> decide);have hval:∀s,ev T.nodes s x=ev T.nodes (vJ s i b) r:=by
       intro s;have e1:vJ s i b (T.node r).1=b:=by rw[hv];exact aG rfl
       rw[p.val s,gev (vJ s i b),e1,Lr hT k1 ⟨hi0,hi⟩ (by rw[<- hv,<- hlr];exact k3),Lr hT k2 ⟨hi0,hi⟩ (by rw[<- hv,<- hlr];exact k4)];cases b <;> rfl
      have hlx:T.lvl r<=T.lvl x:=(by have:=p.lvl;omega);exact⟨T,GY D r x,x,a7C T T i b D hT aj hi0 hi r x hr h2 hlv hl hv qc,⟨hT,.refl _,p.rf,hlx,hval,hD.mark ⟨hr,p.rf,hlx,hval⟩⟩,aj⟩
     have qe:=a3f T (T.node r).1 aj;have m:=MZ hT (v:=(T.node r).1) (lo:=0) (hi:=1) gn.v (.zero T) (.one T) (by rw[<- hlr];exact k6) (by rw[<- hlr];exact k6);generalize T.make (T.node r).1 0 1=q at *;obtain⟨T0,e⟩:=q;obtain⟨m1,m2,m3,m4,m5,m6,m7⟩:=m;dsimp only at m1 m2 m3 m4 m5 m6 m7 qe;obtain⟨T1,D1,xh,f1,p1,n1⟩:=ih T0 D m1 (by rw[m2.n];exact hN) (by rw[m2.n];exact hi) (hD.ext m2) (T.node r).2.2 (m2.rf k2) (by rw[m2.n,m2.lvl k2];omega) aj;have x1:=m2.trans p1.ext;obtain⟨T2,D2,xl,f2,p2,n2⟩:=ih T1 D1 p1.good (by rw[x1.n];exact hN) (by rw[x1.n];exact hi) p1.done (T.node r).2.1 (x1.rf k1) (by rw[x1.n,x1.lvl k1];omega) aj;have x2:=x1.trans p2.ext;have r1:T2.Rf e:=p2.ext.rf (p1.ext.rf m3);have r2:T2.Rf xh:=p2.ext.rf p1.rf;have l1:T.lvl r<=T2.lvl e:=(by rw[p2.ext.lvl (p1.ext.rf m3),p1.ext.lvl m3,hlr];exact m4);have l2:T.lvl r<=T2.lvl xh:=(by rw[p2.ext.lvl p1.rf];have:=p1.lvl;rw[m2.lvl k2]at this;omega);have l3:T.lvl r<=T2.lvl xl:=(by have:=p2.lvl;rw[x1.lvl k1]at this;omega);have hn2:=x2.n;obtain⟨T3,x,qc,p3,n3⟩:=Gu N T2 p2.good e xh xl r1 r2 p2.rf (by rw[hn2];omega) aj;have x3:=x2.trans p3.ext;have hval:∀s,ev T3.nodes s x=ev T.nodes (vJ s i b) r:=by intro s;have e1:vJ s i b (T.node r).1=s (T.node r).1:=aB hv;rw[p3.val s,p2.ext.ev (p1.ext.rf m3),p1.ext.ev m3,m7 s,p2.ext.ev p1.rf,p1.val s,p2.val s,m2.ev k2,x1.ev k1,gev (vJ s i b),e1,OW,F9];cases s (T.node r).1 <;> rfl
     have hlx:T.lvl r<=T3.lvl x:=(by have:=p3.lvl;omega);refine⟨T3,GY D2 r x,x,a7D T T0 T1 T2 T3 i b D D1 D2 hT aj hi0 hi r e xh xl x hr h2 hlv hl hv qe f1 f2 qc,⟨p3.good,x3,p3.rf,hlx,hval,(p2.done.ext p3.ext).mark ⟨x3.rf hr,p3.rf,by rw[x3.lvl hr];exact hlx,λs=>by rw[hval s,x3.ev hr]⟩⟩,aj⟩
theorem b4t{T:Tb}(h:tJ T)(d:Nat):∀(r:Int),T.Rf r->r<=d->(r≠0->∃s,ev T.nodes s r=true)/\(r≠1->∃s,ev T.nodes s r=false):=by
 induction d with
 |zero =>intro r hr hd;have:=hr.1;obtain rfl:r=0:=aj;exact⟨λh=>absurd rfl h,λ_=>⟨λ_=>false,rfl⟩⟩
 | succ d ih =>
   intro r hr hd;by_cases h2:r<2;{have:=hr.1;rcases(by omega:r=0\/r=1)with rfl|rfl;{exact⟨λh=>absurd rfl h,λ_=>⟨λ_=>false,rfl⟩⟩};exact⟨λ_=>⟨λ_=>false,rfl⟩,λh=>absurd rfl h⟩};obtain⟨g,e⟩:=h.at hr aj;obtain⟨k1,k2,k3,k4,k5,k6⟩:=h.kid hr aj;have hlo:=g.lo.2;have hhi:=g.hi.2;have:=hr.2;obtain⟨a1,a2⟩:=ih _ k1 aj;obtain⟨b1,b2⟩:=ih _ k2 aj;have hlr:T.lvl r=T.pl (T.node r).1:=aB aj;have low:∀v:Bool,(∃s,ev T.nodes s (T.node r).2.1=v)->∃s,ev T.nodes s r=v:=by rintro v ⟨s,hs⟩;refine⟨vJ s (T.node r).1 false,?_⟩;rw[e,show vJ s (T.node r).1 false (T.node r).1=false from aG rfl,Lr h k1 g.v (by rw[<- hlr];exact k3)];simpa using hs
   have high:∀v:Bool,(∃s,ev T.nodes s (T.node r).2.2=v)->∃s,ev T.nodes s r=v:=(by rintro v ⟨s,hs⟩;refine⟨vJ s (T.node r).1 true,?_⟩;rw[e,show vJ s (T.node r).1 true (T.node r).1=true from aG rfl,Lr h k2 g.v (by rw[<- hlr];exact k4)];simpa using hs);have hne:=g.ne;constructor<;>intro _;{by_cases h0:(T.node r).2.1=0;{exact high true (b1 aj)};exact low true (a1 h0)};by_cases h0:(T.node r).2.1=1;{exact high false (b2 aj)};exact low false (a2 h0)
theorem tJ.sat{T:Tb}(h:tJ T){r:Int}(hr:T.Rf r):r=0↔∀s,ev T.nodes s r=false:=by constructor;{rintro rfl s;rfl};intro hs;apply aS;intro h0;obtain⟨s,hs'⟩:=(b4t h r.toNat r hr (by have:=hr.1;omega)).1 h0;rw[hs s]at hs';cases hs'
structure RsP(i:Int)(b:Bool)(T T':Tb)(r x:Int):Prop where
 good:tJ T'
 ext:Xt T T'
 rf:T'.Rf x
 lvl:T.lvl r<=T'.lvl x
 val:∀s,ev T'.nodes s x=ev T.nodes (vJ s i b) r
abbrev b8z(b:Bool):AV:=if b=true then .tt else .ff
theorem a4u(N:Nat)(i:Int)(b:Bool)(T:Tb)(hT:tJ T)(hN:T.n<=N)(hi0:0<=i)(hi:i<T.n)(r:Int)(hr:T.Rf r)(hS:T.nodes.length+2^N*(2^N+2)<=1000000000) :
  ∃T' x,ZQ 193 [.ptr 0 [] 0,.int .i64 r,.int .i64 i,.int .i64 (byI b)] (yZ T) (.int .i64 x) (yZ T')/\RsP i b T T' r x/\T'.nodes.length<=T.nodes.length+2^N*(2^N+2):=by
 have hlp:=hT.F7 hr;obtain⟨T',D',x,f,p,n⟩:=a7y N i b hi0 N T [] hT hN hi (λ_ _ h=>by cases h) r hr aj hS;refine⟨T',x,?_,⟨p.good,p.ext,p.rf,p.lvl,p.val⟩,dI (oq _ _) n⟩;refine ZN Tryz.func193 λhok=>?_;refine .gen _ _ f λ_=>ZW ?_;refine ZE ?_ ?_;{exact wk};repeat' first|exact Zq|apply aI
 all_goals first|exact qP _|exact qQ _ _|(simp;done)|skip
theorem a1G(N:Nat)(i:Int)(b:Bool)(T:Tb)(hT:tJ T)(hN:T.n<=N)(hi0:0<=i)(hi:i<T.n)(r:Int)(hr:T.Rf r)(hS:T.nodes.length+2^N*(2^N+2)<=1000000000) :
  ∃T' x,ZQ 122 [.ptr 0 [] 0,.int .i64 r,.int .i64 i,b8z b] (yZ T) (.int .i64 x) (yZ T')/\RsP i b T T' r x/\T'.nodes.length<=T.nodes.length+2^N*(2^N+2):=by
 obtain⟨T',x,f,p,n⟩:=a4u N i b T hT hN hi0 hi r hr hS;refine⟨T',x,?_,p,n⟩;cases b with
 | true =>
   refine ZN Tryz.func122 λhok=>?_;refine .gen _ _ f λ_=>ZW ?_;refine ZE ?_ ?_;{exact wk};repeat' first|exact Zq|apply aI
   all_goals first|exact qP _|exact qQ _ _|(simp;done)|skip
 | false =>
   refine ZN Tryz.func122 λhok=>?_;refine .gen _ _ f λ_=>ZW ?_;refine ZE ?_ ?_;{exact wk};repeat' first|exact Zq|apply aI
   all_goals first|exact qP _|exact qQ _ _|(simp;done)|skip
def G9(m:Nat):Int->Bool:=λj=>m.testBit j.toNat
def ovr(q i:Nat)(s:Int->Bool):Int->Bool:=λj=>if(i:Int)<=j then q.testBit (j-i).toNat else s j
theorem a5e(q:Nat)(b:Bool):(2*q+b.toNat).testBit 0=b:=by rw[Nat.testBit_zero];cases b <;> simp <;> omega
theorem a05(q:Nat)(b:Bool)(k:Nat):(2*q+b.toNat).testBit (k+1)=q.testBit k:=by rw[Nat.testBit_succ];congr 1;cases b <;> simp <;> omega
theorem V9(q i:Nat)(b:Bool)(s:Int->Bool):ovr (2*q+b.toNat) i s=ovr q (i+1) (vJ s i b):=by funext j;unfold ovr vJ;by_cases h1:((i+1:Nat):Int)<=j;{rw[aG aj,aG h1,show(j-(i:Int)).toNat=(j-((i+1:Nat):Int)).toNat+1 by omega,a05]};rw[aB h1];by_cases h2:j=(i:Int);{subst h2;rw[aG aj,aG rfl,show((i:Int)-(i:Int)).toNat=0 by omega,a5e]};rw[aB aj,aB h2]
theorem a8R(m i:Nat):ovr (m / 2^i) i (G9 m)=G9 m:=by funext j;unfold ovr G9;split;{rw[Nat.testBit_div_two_pow];congr 1;omega};rfl
theorem a8S(q i:Nat):2*q*2^i|||2^i=(2*q+1)*2^i:=by apply Nat.eq_of_testBit_eq;intro j;rw[Nat.testBit_or,Nat.testBit_mul_two_pow,Nat.testBit_mul_two_pow,lM];by_cases h:i<=j;{rcases Nat.lt_or_eq_of_le h with h1|h1;{obtain⟨k,hk⟩:∃k,j-i=k+1:=⟨j-i-1,aj⟩;have e1:=a05 q false k;have e2:=a05 q true k;simp only[Bool.toNat_false,Bool.toNat_true,dR]at e1 e2;rw[hk,e1,e2];have:¬i=j:=aj;simp[this]};subst h1;have e2:=a5e q true;simp only[Bool.toNat_true]at e2;rw[gJ,e2];simp};have:¬i=j:=aj;simp[h,this]
structure LsS where
 i:Nat
 T:Tb
 r:Int
 q:Nat
structure LeI(T:Tb)(r:Int)(S B:Nat)(s:LsS):Prop where
 good:tJ s.T
 ext:Xt T s.T
 rf:s.T.Rf s.r
 le:(s.i:Int)<=T.n
 sat:s.r≠0
 val:∀t,ev s.T.nodes t s.r=ev T.nodes (ovr s.q s.i t) r
 low:∀m,ev T.nodes (G9 m) r=true->s.q<=m / 2^s.i
 bnd:s.q<2^(T.n.toNat-s.i)
 size:s.T.nodes.length+2*s.i*S<=B
theorem G6{α:Type}(I:Nat->α->Prop)(R:Nat->α->α->Prop)(n:Nat)(s0:α)(h0:I 0 s0)(step:∀k s,k<n->I k s->∃s',I (k+1) s'/\R k s s') :
  ∃f:Nat->α,f 0=s0/\(∀k,k<=n->I k (f k))/\∀k,k<n->R k (f k) (f (k+1)):=by
 have:∀m,m<=n->∃f:Nat->α,f 0=s0/\(∀k,k<=m->I k (f k))/\∀k,k<m->R k (f k) (f (k+1)):=by
  intro m;induction m with
  |zero =>refine λ_=>⟨λ_=>s0,rfl,λk hk=>?_,λk hk=>absurd hk (gW _)⟩;obtain rfl:k=0:=aj;exact h0
  |succ m ih =>intro hm;obtain⟨f,f0,f1,f2⟩:=ih aj;obtain⟨s',g1,g2⟩:=step m (f m) aj (f1 m (aT _));refine⟨λk=>if k=m+1 then s' else f k,by simp[f0],λk hk=>?_,λk hk=>?_⟩;{by_cases h:k=m+1;{subst h;simp only[aG];exact g1};simp only[aB h];exact f1 k aj};by_cases h:k=m;{subst h;simp only[aG];rw[aB aj];exact g2};simp only[aB (show ¬k=m+1 by omega),aB (show ¬k+1=m+1 by omega)];exact f2 k aj
 exact this n (aT _)
def LeR(i:Nat)(s s':LsS):Prop :=
 ∃ T1 x,ZQ 122 [.ptr 0 [] 0,.int .i64 s.r,.int .i64 i,.ff] (yZ s.T) (.int .i64 x) (yZ T1) /\
   ((x≠0/\s'=⟨i,T1,x,2*s.q⟩)\/(x=0/\∃T2 y,ZQ 122 [.ptr 0 [] 0,.int .i64 s.r,.int .i64 i,.tt] (yZ T1) (.int .i64 y) (yZ T2)/\s'=⟨i,T2,y,2*s.q+1⟩))
theorem le_step(N:Nat)(T:Tb)(hN:T.n<=N)(r:Int)(_:T.Rf r)(i:Nat)(s:LsS)(B:Nat)(hB:B<=1000000000)(h:LeI T r (2^N*(2^N+2)) B s)(hi:s.i=i+1) :
  ∃s',(LeI T r (2^N*(2^N+2)) B s'/\s'.i=i)/\LeR i s s':=by
 obtain⟨h1,h2,h3,h4,h5,h6,h7,h8,h9⟩:=h;rw[hi]at h4 h6 h7 h8 h9;have hn:=h2.n;have hb2:2^(T.n.toNat-i)=2*2^(T.n.toNat-(i+1)):=(by rw[show T.n.toNat-i=(T.n.toNat-(i+1))+1 by omega,bU,dJ]);have Q:=a1G N;have h9':s.T.nodes.length+(2*i*(2^N*(2^N+2))+(2^N*(2^N+2)+2^N*(2^N+2)))<=B:=(by have:2*(i+1)*(2^N*(2^N+2))=2*i*(2^N*(2^N+2))+(2^N*(2^N+2)+2^N*(2^N+2)):=(by rw[dB,dw,iK,Nat.two_mul (2^N*(2^N+2))]);rw[<- this];exact h9);clear h9;generalize 2^N*(2^N+2)=S at *;obtain⟨W,hW⟩:∃W,W=2*i*S:=⟨_,rfl⟩;rw[<- hW]at h9';have hsz:∀L:Nat,L<=s.T.nodes.length+S+S->L+2*i*S<=B:=λL hL=>(by rw[<- hW];omega);obtain⟨T1,x,f1,p1,n1⟩:=Q (i:Int) false s.T h1 aj aj aj s.r h3 aj;have v1:∀t,ev T1.nodes t x=ev T.nodes (ovr (2*s.q+false.toNat) i t) r:=(by intro t;rw[p1.val,h6,V9]);by_cases hx:x=0
 ·obtain⟨T2,y,f2,p2,n2⟩:=Q (i:Int) true T1 p1.good (by rw[p1.ext.n];omega) aj (by rw[p1.ext.n];omega) s.r (p1.ext.rf h3) aj;have v2:∀t,ev T2.nodes t y=ev T.nodes (ovr (2*s.q+true.toNat) i t) r:=(by intro t;rw[p2.val,p1.ext.ev h3,h6,V9]);have hz:∀t,ev T.nodes (ovr (2*s.q+false.toNat) i t) r=false:=λt=>(by rw[<- v1 t,hx];rfl);refine⟨⟨i,T2,y,2*s.q+1⟩,⟨⟨p2.good,(h2.trans p1.ext).trans p2.ext,p2.rf,by show(i:Int)<=T.n;omega,λhy=>?_,v2,λm hm=>?_,?_,hsz _ (by show T2.nodes.length<=_;omega)⟩,rfl⟩,T1,x,f1,.inr ⟨hx,T2,y,f2,rfl⟩⟩
  ·-- one of both is true somewhere
   apply h5;refine(h1.sat h3).2 λt=>?_;rw[h6];have e:=V9 s.q i (t i) t;have e2:vJ t i (t i)=t:=(by funext j;unfold vJ;split;{rename_i h;rw[h]};rfl);rw[e2]at e;rw[<- e];cases t (i:Int)with
   |false=>exact hz t
   |true =>have hy:y=0:=hy;rw[<- v2 t,hy];rfl
  ·have h:=h7 m hm;rw[bU,<- iH]at h;have hne:m / 2^i≠2*s.q:=by intro e;have h':=hz (G9 m);rw[show 2*s.q+false.toNat=m / 2^i by rw[e];rfl,a8R,hm]at h';cases h'
   show 2*s.q+1<=m / 2^i;omega
  show 2*s.q+1<_;rw[hb2];omega
 refine⟨⟨i,T1,x,2*s.q⟩,⟨⟨p1.good,h2.trans p1.ext,p1.rf,by show(i:Int)<=T.n;omega,hx,v1,λm hm=>?_,?_,hsz _ (by show T1.nodes.length<=_;omega)⟩,rfl⟩,T1,x,f1,.inl ⟨hx,rfl⟩⟩;{have h:=h7 m hm;rw[bU,<- iH]at h;show 2*s.q<=m / 2^i;omega};show 2*s.q<_;rw[hb2];omega
theorem b3r(N:Nat)(b8N:N<=60)(T:Tb)(hT:tJ T)(hN:T.n<=N)(r:Int)(hr:T.Rf r)(hr0:r≠0)(B:Nat)(hB:B<=1000000000)(hS:T.nodes.length+2*T.n.toNat*(2^N*(2^N+2))<=B) :
  ∃T' q,ZQ 62 [.ptr 0 [] 0,.int .i64 r,.int .i64 T.n] (yZ T) (.int .i64 ((q:Nat):Int)) (yZ T')/\tJ T'/\Xt T T'/\ev T.nodes (G9 q) r=true/\(∀m,ev T.nodes (G9 m) r=true->q<=m)/\q<2^T.n.toNat/\T'.nodes.length<=B:=by
 have hn0:0<=T.n:=(by unfold Tb.n;omega);have hov:∀t,ev T.nodes (ovr 0 T.n.toNat t) r=ev T.nodes t r:=λt=>Ls hT r.toNat r hr (by have:=hr.1;omega) _ _ λj h0 h1 _=>(by unfold ovr;rw[aB aj]);obtain⟨f,f0,f1,f2⟩:=G6 (λk s=>LeI T r (2^N*(2^N+2)) B s/\s.i=T.n.toNat-k) (λk s s'=>LeR (T.n.toNat-(k+1)) s s') T.n.toNat ⟨T.n.toNat,T,r,0⟩
  ⟨⟨hT,.refl _,hr,by show((T.n.toNat:Nat):Int)<=T.n;omega,hr0,λt=>(hov t).symm,λ_ _=>aP _,gG au,hS⟩,rfl⟩
  (λk s hk h=>by
   obtain⟨s',h1,h2⟩:=le_step N T hN r hr (T.n.toNat-(k+1)) s B hB h.1 (by rw[h.2];omega);exact⟨s',h1,h2⟩)
 obtain⟨l1,l2⟩:=f1 T.n.toNat (aT _);rw[gJ]at l2;have hfin:=l1.val;have hlow:=l1.low;have hb:=l1.bnd;rw[l2]at hfin hlow hb;refine⟨(f T.n.toNat).T,(f T.n.toNat).q,?_,l1.good,l1.ext,?_,λm hm=>by have:=hlow m hm;rwa[mX,Nat.div_one]at this,by simpa using hb,by have:=l1.size;omega⟩
 ·generalize hn:T.n.toNat=n at *;have hnT:T.n=(n:Int):=aj;rw[hnT];have b8g:n<=60:=aj;refine ZN Tryz.func62 λhok=>?_;refine⟨rW aj aj,ZW ?_⟩;refine qW.of <| (qN.inv (.refl _ _) (λk:Nat=>k<=n) (λk=>[(8,.int .i64 (((n-k:Nat):Int)-1)),(7,.int .i64 (((f k).q*2^(n-k):Nat):Int)),(1,.int .i64 (f k).r)]) (λk=>yZ (f k).T) (λk=>n-k) 0 (aP _) ?_ ?_ ?_);{exact λ_=>rfl}
  ·rw[f0];refine Zv ?_ ?_
   ·repeat' first|exact Zq|apply aI
    all_goals first|(show(_:Int)=_;simp;done)|skip
   repeat' first|exact Zq|apply aI
   all_goals first|exact qP _|exact qQ _ _|skip
  intro k hk _;obtain⟨qk,qi⟩:=f1 k hk;have qb:=qk.bnd;rw[qi,hn]at qb;have hst:(f k).q*2^(n-k)<2^n:=by have:2^n=2^(n-(n-k))*2^(n-k):=(by rw[<- iY];congr 1;omega);rw[this];exact fZ qb (gG au)
  have h60:2^n<=2^60:=bZ au b8g;refine ZS ?_ ?_<;>intro h
  ·have hlt:k<n:=aj;have ek:((n-k:Nat):Int)-1=((n-(k+1):Nat):Int):=aj;obtain⟨T1,x,g1,alt⟩:=f2 k hlt;rw[ek];refine ZW ?_;refine .gen _ _ g1 λ_=>ZW ?_;have hkk:n-k=(n-(k+1))+1:=aj;have hin:n-(k+1)<60:=aj;have hlast:((n-(k+1):Nat):Int)-1=((n-(k+1):Nat):Int)-1:=rfl;rcases alt with⟨hx,hs⟩|⟨hx,T2,y,g2,hs⟩
   ·refine aQ (λh=>absurd h hx) (λ_=>ZW ?_);refine⟨rW aj aj,ZW ?_⟩;refine⟨k+1,?_,?_,?_⟩;{exact hlt}
    ·rw[hs];refine Zv ?_ ?_
     ·repeat' first|exact Zq|apply aI
      all_goals (show(_:Int)=_;congr 1;rw[hkk,bU,dJ 2,dA,dJ 2])
     repeat' first|exact Zq|apply aI
     all_goals first|exact qP _|exact qQ _ _|skip
    omega
   refine aQ (λ_=>?_) (λh=>absurd hx h);refine ZW ?_;refine .gen _ _ g2 λ_=>ZW ?_;refine⟨aj,?_⟩;rw[JF aj];refine ZW ?_;have hpw:2^(n-(k+1))<2^60:=jF au hin;rw[Wh aj aj];refine⟨rW aj aj,ZW ?_⟩;refine⟨k+1,?_,?_,?_⟩;{exact hlt}
   ·rw[hs];refine Zv ?_ ?_
    ·repeat' first|exact Zq|apply aI
     all_goals (show(_:Int)=_;congr 1;rw[hkk,bU,<- a8S];congr 1;rw[dJ 2,dA,dJ 2])
    repeat' first|exact Zq|apply aI
    all_goals first|exact qP _|exact qQ _ _|skip
   omega
  have hk:k=n:=aj;subst hk;refine ZW ?_;refine ZE ?_ ?_
  ·repeat' first|exact Zq|apply aI
   all_goals (rw[gJ,mX,iK])
  repeat' first|exact Zq|apply aI
  all_goals first|exact qP _|exact qQ _ _|skip
 obtain⟨t,ht⟩:∃t,ev (f T.n.toNat).T.nodes t (f T.n.toNat).r=true:=by
  apply aS;intro hn;exact l1.sat ((l1.good.sat l1.rf).2 λt=>by
   cases h:ev (f T.n.toNat).T.nodes t (f T.n.toNat).r with
   |true=>exact absurd ⟨t,h⟩ hn
   |false=>rfl)
 rw[hfin]at ht;rw[<- ht];refine Ls hT r.toNat r hr (by have:=hr.1;omega) _ _ λj h0 h1 _=>?_;unfold ovr G9;rw[aG aj];congr 1;omega
def FB(f:(Int->Bool)->Bool):Nat->(Int->Bool)->Nat
 | 0,s=>(f s).toNat
 |k+1,s=>FB f k (vJ s k false)+FB f k (vJ s k true)
theorem MJ{s:Int->Bool}{i j:Int}{a b:Bool}(h:i≠j):vJ (vJ s i a) j b=vJ (vJ s j b) i a:=by funext x;unfold vJ;by_cases h1:x=j;{subst h1;rw[aG rfl,aB (λe=>h e.symm),aG rfl]};rw[aB h1];by_cases h2:x=i;{rw[aG h2,aG h2]};rw[aB h2,aB h2,aB h1]
theorem CW{f g:(Int->Bool)->Bool}(h:∀s,f s=g s):∀(k:Nat) (s:Int->Bool),FB f k s=FB g k s
 | 0,s=>by simp only[FB,h s]
 |k+1,s=>by simp only[FB,CW h k]
theorem EW{f:(Int->Bool)->Bool}{v:Int}{b:Bool}:∀(k:Nat) (s:Int->Bool),(k:Int)<=v->FB f k (vJ s v b)=FB (λt=>f (vJ t v b)) k s
 | 0,s,_=>rfl
 |k+1,s,h=>by simp only[FB];rw[MJ (s:=s) (i:=v) (j:=(k:Int)) (a:=b) (b:=false) aj,MJ (s:=s) (i:=v) (j:=(k:Int)) (a:=b) (b:=true) aj,EW k (vJ s k false) aj,EW k (vJ s k true) aj]
theorem Sr{f l h:(Int->Bool)->Bool}{v:Nat}(hf:∀s,f s=if s v then h s else l s)(hl:∀s b,l (vJ s v b)=l s)(hh:∀s b,h (vJ s v b)=h s) :
  ∀(k:Nat) (s:Int->Bool),v<k->2*FB f k s=FB l k s+FB h k s
 | 0,_,hk=>aj
 | k+1,s,hk=>by
   by_cases hv:v=k
   ·subst hv;simp only[FB];have e1:∀t,(λt=>f (vJ t v false)) t=l t:=λt=>by show f (vJ t v false)=l t;rw[hf,show vJ t (v:Int) false v=false from aG rfl,hl];simp
    have e2:∀t,(λt=>f (vJ t v true)) t=h t:=λt=>(by show f (vJ t v true)=h t;rw[hf,show vJ t (v:Int) true v=true from aG rfl,hh];simp);rw[EW v s (dQ _),EW v s (dQ _),CW e1,CW e2];rw[EW (f:=l) v s (dQ _),EW (f:=l) v s (dQ _),EW (f:=h) v s (dQ _),EW (f:=h) v s (dQ _)];rw[CW (f:=λt=>l (vJ t v false)) (g:=l) (λt=>hl t false),CW (f:=λt=>l (vJ t v true)) (g:=l) (λt=>hl t true),CW (f:=λt=>h (vJ t v false)) (g:=h) (λt=>hh t false),CW (f:=λt=>h (vJ t v true)) (g:=h) (λt=>hh t true)];omega
   simp only[FB];have h1:=Sr hf hl hh k (vJ s k false) aj;have h2:=Sr hf hl hh k (vJ s k true) aj;omega
theorem OY{f:(Int->Bool)->Bool}:∀(k:Nat) (s:Int->Bool),FB f k s=(List.range (2^k)).countP λm=>f λj=>if 0<=j/\j<(k:Int)then m.testBit j.toNat else s j
 | 0,s=>by have:(λj:Int=>if 0<=j/\j<((0:Nat):Int)then(0:Nat).testBit j.toNat else s j)=s:=(by funext j;rw[aB aj]);simp only[FB,mX,List.range_one,iE,List.countP_nil,this];cases f s <;> rfl
 | k+1,s=>by
   simp only[FB];rw[OY k,OY k];have e:2^(k+1)=2^k+2^k:=by rw[bU];omega
   rw[e,List.range_add,kP,oz];congr 1;{apply List.countP_congr;intro m hm;have hm:m<2^k:=(by simpa using hm);have:(λj:Int=>if 0<=j/\j<(k:Int)then m.testBit j.toNat else vJ s k false j)=λj:Int=>if 0<=j/\j<((k+1:Nat):Int)then m.testBit j.toNat else s j:=(by funext j;by_cases h1:0<=j/\j<(k:Int);{rw[aG h1,aG aj]};rw[aB h1];unfold vJ;by_cases h2:j=(k:Int);{subst h2;rw[aG rfl,aG aj,aO,mV hm]};rw[aB h2,aB aj]);rw[this]};apply List.countP_congr;intro m hm;have hm:m<2^k:=(by simpa using hm);have:(λj:Int=>if 0<=j/\j<(k:Int)then m.testBit j.toNat else vJ s k true j)=λj:Int=>if 0<=j/\j<((k+1:Nat):Int)then(2^k+m).testBit j.toNat else s j:=(by funext j;by_cases h1:0<=j/\j<(k:Int);{rw[aG h1,aG aj];rw[Nat.testBit_two_pow_add_gt aj]};rw[aB h1];unfold vJ;by_cases h2:j=(k:Int);{subst h2;rw[aG rfl,aG aj,aO,Nat.testBit_two_pow_add_eq,mV hm];rfl};rw[aB h2,aB aj]);simp only[Function.comp_apply,this]
def zE:Int->Bool:=λ_=>false
def Tb.cnt(T:Tb)(r:Int):Nat:=FB (λs=>ev T.nodes s r) T.n.toNat zE
theorem a1C{f:(Int->Bool)->Bool}:∀(k:Nat) (s:Int->Bool),FB f k s<=2^k
 | 0,s=>by simp only[FB];cases f s <;> decide
 |k+1,s=>by have h1:=a1C (f:=f) k (vJ s k false);have h2:=a1C (f:=f) k (vJ s k true);simp only[FB];rw[bU];omega
theorem XF:∀(k:Nat) (s:Int->Bool),FB (λ_=>false) k s=0
 | 0,_=>rfl
 |k+1,s=>by simp only[FB,XF k]
theorem a0v:∀(k:Nat) (s:Int->Bool),FB (λ_=>true) k s=2^k
 | 0,_=>rfl
 |k+1,s=>by simp only[FB,a0v k];rw[bU];omega
theorem tJ.a9M{T:Tb}(h:tJ T){r:Int}(hr:T.Rf r)(h2:2<=r):T.cnt r=(T.cnt (T.node r).2.1+T.cnt (T.node r).2.2) / 2:=by
 obtain⟨g,e⟩:=h.at hr h2;obtain⟨k1,k2,k3,k4,k5,k6⟩:=h.kid hr h2;have hlr:T.lvl r=T.pl (T.node r).1:=aB aj;have hv:(((T.node r).1.toNat:Nat):Int)=(T.node r).1:=fJ g.v.1;have:=Sr (f:=λs=>ev T.nodes s r) (l:=λs=>ev T.nodes s (T.node r).2.1) (h:=λs=>ev T.nodes s (T.node r).2.2) (v:=(T.node r).1.toNat)
  (λs=>by rw[hv];exact e s) (λs b=>by rw[hv];exact Lr h k1 g.v (by rw[<- hlr];exact k3) s b) (λs b=>by rw[hv];exact Lr h k2 g.v (by rw[<- hlr];exact k4) s b) T.n.toNat zE (by have:=g.v;omega)
 unfold Tb.cnt;omega
abbrev encS(M:List Int):List (AV×AV):=M.map λk=>(.int .i64 k,.tt)
theorem a7O{M:List Int}{x:Int}{k:AV->Prop}(hm:x∈M)(h:k .tt):FW (encS M) (.int .i64 x) λr=>DI false .ff r k :=
 ⟨some .tt,⟨(.int .i64 x,.tt),lN (f:=λk=>(AV.int .i64 k,AV.tt)) hm,rfl,rfl⟩,h⟩
theorem a4E{M:List Int}{x:Int}{k:AV->Prop}(hm:x ∉ M)(h:k .ff):FW (encS M) (.int .i64 x) λr=>DI false .ff r k:=by refine⟨none,?_,h⟩;intro z hz e;obtain⟨y,hy,rfl⟩:=bg.1 hz;exact hm (UL.1 e ▸ hy)
theorem b7a{M:List Int}{x:Int}{k:List (AV×AV)->Prop}(hm:x ∉ M)(h:k (encS (M++[x]))):b1B (encS M) (.int .i64 x) .tt k:=by refine⟨_,.inl ⟨λz hz e=>?_,rfl⟩,by simpa[encS]using h⟩;obtain⟨y,hy,rfl⟩:=bg.1 hz;exact hm (UL.1 e ▸ hy)
theorem BZ(n:Nat):∀M:List Int,EZ n (encS M)=true
 | []=>rfl
 |_::M=>by show(match true,true with|true,true=>EZ n (encS M)|_,_=>false)=true;exact BZ n M
abbrev b7P(r:Int):List AV:=[.int .i64 r,.ptr 8 [] 0,.ptr 6 [] 0,.ptr 9 [] 0,.ptr 5 [] 0]
abbrev hpS(T:Tb)(most:Int)(M:List Int):Heap :=
 [(9,.box (.fn 121 [.ptr 8 [] 0,.ptr 6 [] 0,.ptr 9 [] 0,.ptr 5 [] 0])),(8,.box (.mp 7)),(7,.tY (.int .i64 0) (encS M)),(6,.box (.int .i64 most)),(5,.box (.ptr 0 [] 0))]++yZ T
theorem a7c(most:Int)(d:Nat):∀(T:Tb) (M:List Int),tJ T->T.nodes.length<=1000000000->∀(r:Int),T.Rf r->T.n-T.lvl r<=d->((M.length+2^d:Nat):Int)<=most+1->most<=1000000 ->
  ∃M',ZQ 121 (b7P r) (hpS T most M) (.uy []) (hpS T most M')/\M'.length+1<=M.length+2^d:=by
 have early:∀(T:Tb) (M:List Int) (r:Int),(r<2\/r∈M)->(M.length:Int)<=most->most<=1000000->ZQ 121 (b7P r) (hpS T most M) (.uy []) (hpS T most M):=by
  intro T M r h hm hmo;by_cases hr2:r<2
  ·refine ZN Tryz.func121 λhok=>?_;refine aQ (λ_=>?_) (λh=>absurd hr2 h);refine ZW ?_;refine ZE ?_ ?_;{exact wk};repeat' first|exact Zq|apply aI
   all_goals first|exact qP _|exact qQ _ _|exact BZ _ _|exact yO _ _|(simp;done)|skip
  have hmem:r∈M:=h.resolve_left hr2;refine ZN Tryz.func121 λhok=>?_;refine aQ (λh=>absurd h hr2) (λ_=>ZW ?_);refine a7O hmem (ZW ?_);refine ZE ?_ ?_;{exact wk};repeat' first|exact Zq|apply aI
  all_goals first|exact qP _|exact qQ _ _|exact BZ _ _|exact yO _ _|(simp;done)|skip
 induction d with
 | zero =>
   intro T M hT hn r hr hd hm hmo;have hr2:r<2:=by apply aS;intro h;have:=hT.kid hr aj;omega
   rw[mX]at hm ⊢;exact⟨M,early T M r (.inl hr2) aj hmo,aT _⟩
 | succ d ih =>
   intro T M hT hn r hr hd hm hmo;have h2d:0<2^d:=gG au;have h2e:2^(d+1)=2^d+2^d:=by rw[bU];omega
   rw[h2e]at hm ⊢;by_cases hr2:r<2;{exact⟨M,early T M r (.inl hr2) aj hmo,aj⟩};by_cases hmem:r∈M;{exact⟨M,early T M r (.inr hmem) aj hmo,aj⟩};obtain⟨k1,k2,k3,k4,k5,k6⟩:=hT.kid hr aj;have hr':=hr.2;obtain⟨M2,f1,n1⟩:=ih T (M++[r]) hT hn (T.node r).2.1 k1 aj (by rw[bC,jA];omega) hmo;rw[bC,jA]at n1;obtain⟨M3,f2,n2⟩:=ih T M2 hT hn (T.node r).2.2 k2 aj aj hmo;refine⟨M3,?_,aj⟩;refine ZN Tryz.func121 λhok=>?_;refine aQ (λh=>absurd h hr2) (λ_=>ZW ?_);refine a4E hmem (ZW ?_);refine⟨aA,ZW ?_⟩;refine aQ (λh=>by exfalso;simp only[aC]at h;omega) (λ_=>ZW ?_);refine b7a hmem (ZW ?_);refine xG.mk ⟨[false,false,true,true,false,true,true,true,true,false,false],by kernel_rfl,?_⟩;conv=>whnf
   refine⟨rW aj aj,?_⟩;conv=>whnf
   refine ug default ⟨aj,aj⟩ ?_;conv=>whnf
   refine .gen _ _ f1 λ_=>ZW ?_;refine xG.mk ⟨[false,false,true,true,false,true,true,true,true,false,false],by kernel_rfl,?_⟩;conv=>whnf
   refine⟨rW aj aj,?_⟩;conv=>whnf
   refine ug default ⟨aj,aj⟩ ?_;conv=>whnf
   refine .gen _ _ f2 λ_=>ZW ?_;refine ZE ?_ ?_;{exact wk};repeat' first|exact Zq|apply aI
   all_goals first|exact qP _|exact qQ _ _|exact BZ _ _|exact yO _ _|(simp;done)|skip
theorem a3e(N:Nat)(hN:N<=12)(T:Tb)(hT:tJ T)(hn:T.nodes.length<=1000000000)(hTN:T.n<=N)(r:Int)(hr:T.Rf r) :
  ZQ 61 [.ptr 0 [] 0,.int .i64 r,.int .i64 4096] (yZ T) .tt (yZ T):=by
 have hlp:=hT.F7 hr;have hp:2^N<=2^12:=bZ au hN;obtain⟨M',f,n⟩:=a7c 4096 N T [] hT hn r hr aj (by simp only[jh];omega) au;simp only[jh]at n;refine ZN Tryz.func61 λhok=>?_;refine .gen _ _ f λ_=>ZW ?_;refine⟨aA,ZW ?_⟩;refine ZE ?_ ?_;{show((encS M').length:Int)<=4096;rw[aC];omega};repeat' first|exact Zq|apply aI
 all_goals first|exact qP _|exact qQ _ _|skip
structure b54(T:Tb)(D:MI):Prop where
 zero:yU D 0=some 0
 one:yU D 1=some ((2^T.n.toNat:Nat):Int)
 all:∀r x,yU D r=some x->T.Rf r->x=(T.cnt r:Int)
abbrev b7Q(r:Int):List AV:=[.int .i64 r,.ptr 7 [] 0,.ptr 8 [] 0,.ptr 5 [] 0]
abbrev hpK(T:Tb)(D:MI):Heap :=
 [(8,.box (.fn 123 [.ptr 7 [] 0,.ptr 8 [] 0,.ptr 5 [] 0])),(7,.box (.mp 6)),(6,.tY (.int .i64 0) (encI D)),(5,.box (.ptr 0 [] 0))]++yZ T
theorem Tb.cnt_le(T:Tb)(r:Int):T.cnt r<=2^T.n.toNat:=a1C _ _
theorem Tb.LD(T:Tb):T.cnt 0=0:=XF _ _
theorem Tb.a6U(T:Tb):T.cnt 1=2^T.n.toNat:=a0v _ _
theorem a7e(d:Nat):∀(T:Tb) (D:MI),tJ T->T.nodes.length<=1000000000->b54 T D->∀(r:Int),T.Rf r->T.n-T.lvl r<=d ->
  ∃D',ZQ 123 (b7Q r) (hpK T D) (.int .i64 (T.cnt r:Nat)) (hpK T D')/\b54 T D':=by
 have known:∀(T:Tb) (D:MI) (r x:Int),yU D r=some x->ZQ 123 (b7Q r) (hpK T D) (.int .i64 x) (hpK T D):=by
  intro T D r x hl;refine ZN Tryz.func123 λhok=>?_;refine LW hl (ZW ?_);refine ZE ?_ ?_;{exact wk};repeat' first|exact Zq|apply aI
  all_goals first|exact qP _|exact qQ _ _|exact BZ _ _|exact yO _ _|(simp;done)|skip
 induction d with
 | zero =>
   intro T D hT hn hD r hr hd;have hr2:r<2:=by apply aS;intro h;have:=hT.kid hr aj;omega
   have hr0:=hr.1;rcases(by omega:r=0\/r=1)with rfl|rfl;{exact⟨D,by rw[T.LD];exact known T D 0 0 hD.zero,hD⟩};exact⟨D,by rw[T.a6U];exact known T D 1 _ hD.one,hD⟩
 | succ d ih =>
   intro T D hT hn hD r hr hd;cases hl:yU D r with
   |some x =>have:=hD.all r x hl hr;subst this;exact⟨D,known T D r _ hl,hD⟩
   | none =>
     have hr2:2<=r:=by apply aS;intro h;have hr0:=hr.1;rcases(by omega:r=0\/r=1)with rfl|rfl;{rw[hD.zero]at hl;cases hl};rw[hD.one]at hl;cases hl
     obtain⟨k1,k2,k3,k4,k5,k6⟩:=hT.kid hr hr2;have hr':=hr.2;have hsm:=hT.small;have hnn:T.n.toNat<=60:=(by unfold Tb.n;omega);have h60:2^T.n.toNat<=2^60:=bZ au hnn;have b1:=T.cnt_le (T.node r).2.1;have b2:=T.cnt_le (T.node r).2.2;have hc:=hT.a9M hr hr2;obtain⟨D1,f1,g1⟩:=ih T D hT hn hD (T.node r).2.1 k1 aj;obtain⟨D2,f2,g2⟩:=ih T D1 hT hn g1 (T.node r).2.2 k2 aj;refine⟨GY D2 r (T.cnt r:Nat),?_,⟨?_,?_,λr' x' h' hr'=>?_⟩⟩
     ·refine ZN Tryz.func123 λhok=>?_;refine Iu hl (ZW ?_);refine xG.both [] [11,12,15] ⟨[false,false,true,true,false,true,true,true,true,true,false,false,false,true,true,false,true,true,true,true,true,false,true,true,true],by kernel_rfl,?_⟩;conv=>whnf
      refine⟨rW aj aj,?_⟩;conv=>whnf
      refine ug default ⟨aj,aj⟩ ?_;conv=>whnf
      refine .gen _ _ f1 λ_=>?_;conv=>whnf
      (refine aI (by(conv=>whnf)<;>exact rfl) ?_;(conv=>whnf))
      (refine aI (by(conv=>whnf)<;>exact rfl) ?_;(conv=>whnf))
      (refine aI (by(conv=>whnf)<;>exact rfl) ?_;(conv=>whnf))
      refine⟨rW aj aj,?_⟩;conv=>whnf
      refine ug default ⟨aj,aj⟩ ?_;conv=>whnf
      refine .gen _ _ f2 λ_=>?_;conv=>whnf
      refine⟨rW aj aj,?_⟩;conv=>whnf
      refine⟨au,?_⟩;have ec:Int.tdiv (((T.cnt (T.node r).2.1:Nat):Int)+((T.cnt (T.node r).2.2:Nat):Int)) 2=((T.cnt r:Nat):Int):=(by rw[hc,Int.tdiv_eq_ediv_of_nonneg aj];omega);rw[ec];have b3:=T.cnt_le r;refine⟨rW aj aj,ZW ?_⟩;refine Uc (ZW ?_);refine ZE ?_ ?_;{exact wk};repeat' first|exact Zq|apply aI
      all_goals first|exact qP _|exact qQ _ _|exact BZ _ _|exact yO _ _|(simp;done)|skip
     ·rw[Bc,aB aj];exact g2.zero
     ·rw[Bc,aB aj];exact g2.one
     rw[Bc]at h';split at h';{rename_i e;subst e;exact(aW h').symm};exact g2.all r' x' h' hr'
theorem XI(T:Tb)(hT:tJ T)(hn:T.nodes.length<=1000000000)(r:Int)(hr:T.Rf r) :
  ZQ 63 [.ptr 0 [] 0,.int .i64 r] (yZ T) (.int .i64 (T.cnt r:Nat)) (yZ T):=by
 have hlp:=hT.F7 hr;have hsm:=hT.small;have h60:2^T.n.toNat<=2^60:=bZ au (by unfold Tb.n;omega);obtain⟨D',f,g⟩:=a7e T.n.toNat T [(0,0),(1,((2^T.n.toNat:Nat):Int))] hT hn ⟨rfl,rfl,λr x h hr=>by
  simp only[yU]at h;split at h;{rename_i e;subst e;rw[T.LD];exact(aW h).symm};split at h;{rename_i e;subst e;rw[T.a6U];exact(aW h).symm};cases h⟩ r hr aj
 refine ZN Tryz.func63 λhok=>?_;refine Uc (es:=[]) (ZW ?_);rw[aC];refine⟨aj,?_⟩;rw[JF aj];refine ZW ?_;rw[show 2^T.order.length=2^T.n.toNat from rfl];refine Uc (es:=[(0,0)]) (ZW ?_);refine .gen _ _ f λ_=>ZW ?_;refine ZE ?_ ?_;{exact wk};repeat' first|exact Zq|apply aI
 all_goals first|exact qP _|exact qQ _ _|exact BZ _ _|exact yO _ _|(simp;done)|skip
def Ei(T:Tb)(ns:List Node)(r:Int):Int:=if r<2 then T.n else T.pl (ns.getD (r-2).toNat default).1
structure Dt(T:Tb)(ns:List Node)(k:Nat)(x:Node):Prop where
 v:0<=x.1/\x.1<T.n
 lo:0<=x.2.1/\x.2.1<2+(k:Int)
 hi:0<=x.2.2/\x.2.2<2+(k:Int)
 llo:T.pl x.1<Ei T ns x.2.1
 lhi:T.pl x.1<Ei T ns x.2.2
structure ImS where
 T:Tb
 refs:List Int
def gR(refs:List Int)(r:Int):Int:=refs.getD r.toNat 0
structure ImI(T:Tb)(ns:List Node)(k:Nat)(s:ImS):Prop where
 good:tJ s.T
 ext:Xt T s.T
 len:s.refs.length=2+ns.length
 all:∀r:Int,0<=r->r<2+(k:Int)->s.T.Rf (gR s.refs r)/\Ei T ns r<=s.T.lvl (gR s.refs r)/\∀t,ev s.T.nodes t (gR s.refs r)=ev ns t r
 size:s.T.nodes.length<=T.nodes.length+k
def ImR(ns:List Node)(k:Nat)(s s':ImS):Prop :=
 ∃x,ZQ 118 [.ptr 0 [] 0,.int .i64 (ns.getD k default).1,.int .i64 (gR s.refs (ns.getD k default).2.1),.int .i64 (gR s.refs (ns.getD k default).2.2)] (yZ s.T) (.int .i64 x) (yZ s'.T)/\s'.refs=s.refs.set (2+k) x
theorem b5c{refs:List Int}{k:Nat}{x r:Int}(hk:k<refs.length)(h0:0<=r):gR (refs.set k x) r=if r=(k:Int)then x else gR refs r:=by unfold gR;rw[aF,jY];by_cases h:r=(k:Int);{subst h;rw[aG aj,aG hk,aG rfl];rfl};rw[aB aj,aB h,aF]
theorem b2x{T:Tb}{ns:List Node}(_:tJ T)(hns:∀(k:Nat) (h:k<ns.length),Dt T ns k ns[k])(hS:T.nodes.length+ns.length<=1000000000){k:Nat}(hk:k<ns.length){s:ImS}(h:ImI T ns k s) :
  ∃s',ImI T ns (k+1) s'/\ImR ns k s s':=by
 have g:=hns k hk;have ex:ns.getD k default=ns[k]:=(by rw[aF,aH hk];rfl);obtain⟨a1,a2,a3⟩:=h.all _ g.lo.1 g.lo.2;obtain⟨b1,b2,b3⟩:=h.all _ g.hi.1 g.hi.2;have m:=MZ h.good (v:=ns[k].1) (lo:=gR s.refs ns[k].2.1) (hi:=gR s.refs ns[k].2.2) (by rw[h.ext.n];exact g.v) a1 b1 (by rw[h.ext.pl];have:=g.llo;omega) (by rw[h.ext.pl];have:=g.lhi;omega);have hsz:=h.size;have q:=a1H s.T ns[k].1 (gR s.refs ns[k].2.1) (gR s.refs ns[k].2.2) aj;generalize s.T.make ns[k].1 (gR s.refs ns[k].2.1) (gR s.refs ns[k].2.2)=w at *;obtain⟨T',x⟩:=w;obtain⟨m1,m2,m3,m4,m5,m6,m7⟩:=m;dsimp only at m1 m2 m3 m4 m5 m6 m7 q;have hlen:=h.len;refine⟨⟨T',s.refs.set (2+k) x⟩,⟨m1,h.ext.trans m2,by show(s.refs.set (2+k) x).length=_;rw[ni];exact hlen,λr h0 h1=>?_,by show T'.nodes.length<=_;omega⟩,x,by rw[ex];exact q,rfl⟩;show T'.Rf (gR (s.refs.set (2+k) x) r)/\Ei T ns r<=T'.lvl (gR (s.refs.set (2+k) x) r)/\∀t,ev T'.nodes t (gR (s.refs.set (2+k) x) r)=ev ns t r;rw[b5c aj h0];by_cases hr:r=((2+k:Nat):Int);{rw[aG hr];have e1:(ns.getD (r-2).toNat default)=ns[k]:=(by rw[show(r-2).toNat=k by omega,ex]);refine⟨m3,?_,λt=>?_⟩;{unfold Ei;rw[aB aj,e1,<- h.ext.pl];exact m4};have:=JQ ns t hk g.lo.2 g.hi.2;rw[show r=2+(k:Int) by omega,this,m7 t,a3 t,b3 t]};rw[aB hr];obtain⟨c1,c2,c3⟩:=h.all r h0 aj;exact⟨m2.rf c1,by rw[m2.lvl c1];exact c2,λt=>by rw[m2.ev c1];exact c3 t⟩
abbrev Oc(order:List Int)(ns:List Node)(root:Int):AV:=.ag [.sl 1 (order.map (.int .i64)) .no,.sl 3 (ns.map OE) .no,.int .i64 root]
theorem a0x(T:Tb)(order:List Int)(ns:List Node)(root:Int)(hT:tJ T)(hns:∀(k:Nat) (h:k<ns.length),Dt T ns k ns[k])(hS:T.nodes.length+ns.length<=1000000000)(hr:0<=root/\root<2+(ns.length:Int)) :
  ∃T' x,ZQ 59 [.ptr 0 [] 0,Oc order ns root] (yZ T) (.int .i64 x) (yZ T')/\tJ T'/\Xt T T'/\T'.Rf x/\(∀t,ev T'.nodes t x=ev ns t root)/\T'.nodes.length<=T.nodes.length+ns.length:=by
 obtain⟨f,f0,f1,f2⟩:=G6 (λk s=>ImI T ns k s) (λk s s'=>ImR ns k s s') ns.length ⟨T,0::1::List.replicate ns.length 0⟩
  ⟨hT,.refl _,aA,λr h0 h1=>by
   rcases(by omega:r=0\/r=1)with rfl|rfl;{exact⟨.zero T,dQ _,λt=>rfl⟩};exact⟨.one T,dQ _,λt=>rfl⟩,aT _⟩
  (λk s hk h=>b2x hT hns hS hk h)
 have l:=f1 ns.length (aT _);obtain⟨r1,r2,r3⟩:=l.all root hr.1 hr.2;refine⟨(f ns.length).T,gR (f ns.length).refs root,?_,l.good,l.ext,r1,r3,l.size⟩;have hll:=l.len;refine ZN Tryz.func59 λhok=>?_;rw[aC];refine⟨rW aj aj,ZW ?_⟩;rw[show(2:Int)+(ns.length:Int)=((2+ns.length:Nat):Int) by omega];refine⟨⟨aj,dQ _,by show((2+ns.length:Nat):Int)*((8:Nat):Int)<=281474976710656;omega,aj⟩,.wr ?_⟩;rw[aO];refine ZW ?_;refine⟨⟨aj,aj⟩,ZW ?_⟩;refine⟨aA,rfl,ZW ?_⟩;rw[show(List.replicate (2+ns.length) (AV.int IntKind.i64 0)).set (0+Int.toNat 1) (strip (AV.int IntKind.i64 1))=(f 0).refs.map (.int .i64)from by
  rw[f0,kU 2];simp[nJ,strip]]
 refine qW.of <| (qN.inv (.refl _ _) (λk:Nat=>k<=ns.length) (λk=>[(18,.int .i64 k)]) (λk=>(6,.arr 1 (2+ns.length) ((f k).refs.map (.int .i64)))::(5,.box (Oc order ns root))::yZ (f k).T) (λk=>ns.length-k) 0 (aP _) ?_ ?_ ?_);{exact λ_=>rfl}
 ·have hT0:T=(f 0).T:=(by rw[f0]);refine Zv wk ?_;rw[<- hT0];repeat' first|exact Zq|apply aI
  all_goals first|exact qP _|exact qQ _ _|skip
 intro k hk _;have lk:=f1 k hk;have lkl:=lk.len;refine ZS ?_ ?_<;>intro h
 ·have hlt:k<ns.length:=(by simpa using h);obtain⟨x,g1,g2⟩:=f2 k hlt;have gk:=hns k hlt;have ex:ns.getD k default=ns[k]:=(by rw[aF,aH hlt];rfl);rw[ex]at g1;refine ZW ?_;refine sH hlt (ZW ?_);refine xG.mk ⟨[true,true,true,true,true,false,true,true,false,true,false,true,true,false,true,false,false,true,false],by kernel_rfl,?_⟩;conv=>whnf
  refine⟨rW aj aj,?_⟩;conv=>whnf
  refine⟨⟨gk.lo.1,by have:=gk.lo.2;omega⟩,?_⟩;conv=>whnf
  rw[bH];refine ug 0 ⟨aj,by have:=gk.lo.2;have:=gk.lo.1;omega⟩ ?_;conv=>whnf
  refine⟨rfl,?_⟩;conv=>whnf
  refine⟨⟨gk.hi.1,by have:=gk.hi.2;omega⟩,?_⟩;conv=>whnf
  rw[bH];refine ug 0 ⟨aj,by have:=gk.hi.2;have:=gk.hi.1;omega⟩ ?_;conv=>whnf
  refine⟨rfl,?_⟩;conv=>whnf
  rw[aO,aO];refine .gen _ _ (NZ [(7,_),(6,_),(5,_)] ak g1 (λ_=>rfl) (λ_=>rfl) rfl) λ_=>?_;conv=>whnf
  refine⟨⟨aj,aj⟩,?_⟩;conv=>whnf
  refine⟨by rw[aC];omega,rfl,ZW ?_⟩;rw[show 0+(2+(k:Int)).toNat=2+k by omega];refine ZG ?_;refine⟨k+1,?_,?_,?_⟩;{exact hlt}
  ·rw[g2];refine Zv wk ?_;repeat' first|exact Zq|apply aI
   all_goals first|exact qP _|exact qQ _ _|(rw[dP];exact qX _)|skip
  omega
 have hk:k=ns.length:=(by(have:¬k<ns.length:=by simpa using h);omega);subst hk;refine ZW ?_;refine⟨⟨hr.1,by have:=hr.2;omega⟩,ZW ?_⟩;rw[bH];refine ug 0 ⟨aj,by have:=hr.1;have:=hr.2;omega⟩ (ZW ?_);refine⟨rfl,ZW ?_⟩;rw[aO];refine ZE ?_ ?_;{exact wk};repeat' first|exact Zq|apply aI
 all_goals first|exact qP _|exact qQ _ _|(simp;done)|skip
theorem WI{T:Tb}{ns l:List Node}{x:Int}(h:x<2+(ns.length:Int)):Ei T (ns++l) x=Ei T ns x:=by unfold Ei;split;{rfl};rw[aF,aF,bI aj]
theorem Dt.app{T:Tb}{ns l:List Node}{k:Nat}{x:Node}(h:Dt T ns k x)(hk:k<=ns.length):Dt T (ns++l) k x :=
 ⟨h.v,h.lo,h.hi,by rw[WI (by have:=h.lo.2;omega)];exact h.llo,by rw[WI (by have:=h.hi.2;omega)];exact h.lhi⟩
structure ExR(T:Tb)(ns:List Node)(r x:Int):Prop where
 lo:0<=x
 hi:x<2+(ns.length:Int)
 lvl:Ei T ns x=T.lvl r
 val:∀t,ev ns t x=ev T.nodes t r
theorem ExR.app{T:Tb}{ns l:List Node}{r x:Int}(h:ExR T ns r x):ExR T (ns++l) r x :=
 ⟨h.lo,by have:=h.hi;rw[bC];omega,by rw[WI h.hi];exact h.lvl,λt=>by rw[RY _ _ _ h.hi];exact h.val t⟩
structure ExI(T:Tb)(D:MI)(ns:List Node):Prop where
 zero:∃x,yU D 0=some x
 one:∃x,yU D 1=some x
 all:∀r x,yU D r=some x->T.Rf r->ExR T ns r x
 nodes:∀(k:Nat) (h:k<ns.length),Dt T ns k ns[k]
abbrev b7R(r:Int):List AV:=[.int .i64 r,.ptr 9 [] 0,.ptr 5 [] 0,.ptr 10 [] 0,.ptr 7 [] 0]
abbrev b1D:AV:=.ag [.qV,.qV,.int .i64 0]
abbrev hpE(T:Tb)(D:MI)(ns:List Node):Heap :=
 [(11,.tok 3 ns.length),(10,.box (.fn 190 [.ptr 9 [] 0,.ptr 5 [] 0,.ptr 10 [] 0,.ptr 7 [] 0])),(9,.box (.mp 8)),(8,.tY (.int .i64 0) (encI D)),
  (7,.box (.ag [.sl 1 (T.order.map (.int .i64)) .no,.sl 3 (ns.map OE) (.own 11),.int .i64 0])),(6,.box b1D),(5,.box (.ptr 0 [] 0))]++yZ T
theorem b6i(T:Tb)(D:MI)(ns:List Node):b0E 12 (hpE T D ns):=⟨rfl,rfl,rfl,yO _ _,rfl,rfl,rfl,b7O T 12 au⟩
theorem a4F{es:MI}{x r:Int}{k:AV->Prop}(hl:yU es x=some r)(h:k (.int .i64 r)):FW (encI es) (.int .i64 x) λr=>DI false (.int .i64 0) r k:=by
 refine⟨some (.int .i64 r),?_,h⟩;induction es with
 |nil=>simp[yU]at hl
 |cons e es ih =>obtain⟨y,v⟩:=e;simp only[yU]at hl;by_cases hy:y=x;{subst hy;rw[aG rfl]at hl;obtain rfl:=aW hl;exact⟨_,dD,rfl,rfl⟩};rw[aB hy]at hl;obtain⟨z,hz,h3,h4⟩:=ih hl;exact⟨z,by simp only[encI,dF,aU];exact .inr hz,h3,h4⟩
theorem b5Q{es:MI}{x v w:Int}{k:List (AV×AV)->Prop}(e:w=v)(h:k (encI (GY es x v))):b1B (encI es) (.int .i64 x) (.int .i64 w) k:=by subst e;exact Uc h
theorem a4t(T:Tb)(hT:tJ T)(hn:T.nodes.length<=1000000000)(d:Nat):∀(D:MI) (ns:List Node),ExI T D ns->∀(r:Int),T.Rf r->T.n-T.lvl r<=d->ns.length+2^d<=1000000000 ->
  ∃D' ns' x,ZQ 190 (b7R r) (hpE T D ns) (.int .i64 x) (hpE T D' ns')/\ExI T D' ns'/\(∃l,ns'=ns++l)/\ExR T ns' r x/\ns'.length+1<=ns.length+2^d:=by
 have known:∀(D:MI) (ns:List Node) (r x:Int),yU D r=some x->ZQ 190 (b7R r) (hpE T D ns) (.int .i64 x) (hpE T D ns):=by
  intro D ns r x hl;refine ZN Tryz.func190 λhok=>?_;refine LW hl (ZW ?_);refine ZE ?_ ?_;{exact wk};repeat' first|exact Zq|apply aI
  all_goals first|exact qP _|exact qQ _ _|exact BZ _ _|exact yO _ _|(show tV _ (List.map _ (_++[_]));rw[aV];exact qX _)|(simp;done)|skip
 have h2d:∀d:Nat,0<2^d:=λd=>gG au;induction d with
 | zero =>
   intro D ns hD r hr hd hS;have hr2:r<2:=by apply aS;intro h;have:=hT.kid hr aj;omega
   have hr0:=hr.1;obtain⟨x,hl⟩:∃x,yU D r=some x:=(by rcases(by omega:r=0\/r=1)with rfl|rfl;{exact hD.zero};exact hD.one);exact⟨D,ns,x,known D ns r x hl,hD,⟨[],ak⟩,hD.all r x hl hr,aT _⟩
 | succ d ih =>
   intro D ns hD r hr hd hS;have h2e:2^(d+1)=2^d+2^d:=by rw[bU];omega
   have hp:=h2d d;rw[h2e]at hS ⊢;cases hl:yU D r with
   |some x=>exact⟨D,ns,x,known D ns r x hl,hD,⟨[],ak⟩,hD.all r x hl hr,aj⟩
   | none =>
     have hr2:2<=r:=by apply aS;intro h;have hr0:=hr.1;rcases(by omega:r=0\/r=1)with rfl|rfl;{obtain⟨x,h⟩:=hD.zero;rw[h]at hl;cases hl};obtain⟨x,h⟩:=hD.one;rw[h]at hl;cases hl
     obtain⟨k1,k2,k3,k4,k5,k6⟩:=hT.kid hr hr2;obtain⟨gn,ge⟩:=hT.at hr hr2;have hr':=hr.2;have hlr:T.lvl r=T.pl (T.node r).1:=aB aj;obtain⟨D1,n1,x1,f1,i1,⟨l1,e1⟩,p1,s1⟩:=ih D ns hD (T.node r).2.1 k1 aj aj;obtain⟨D2,n2,x2,f2,i2,⟨l2,e2⟩,p2,s2⟩:=ih D1 n1 i1 (T.node r).2.2 k2 aj aj;have p1':ExR T n2 (T.node r).2.1 x1:=(by rw[e2];exact p1.app);have hnew:∀h:n2.length<(n2++[((T.node r).1,x1,x2)]).length,(n2++[((T.node r).1,x1,x2)])[n2.length]=((T.node r).1,x1,x2):=λh=>ak;have b8t:Dt T (n2++[((T.node r).1,x1,x2)]) n2.length ((T.node r).1,x1,x2) :=
      Dt.app ⟨gn.v,⟨p1'.lo,p1'.hi⟩,⟨p2.lo,p2.hi⟩,by show T.pl (T.node r).1<Ei T n2 x1;rw[p1'.lvl,<- hlr];exact k3,by show T.pl (T.node r).1<Ei T n2 x2;rw[p2.lvl,<- hlr];exact k4⟩ (aT _)
     have b7z:ExR T (n2++[((T.node r).1,x1,x2)]) r (2+(n2.length:Int)):=(by refine⟨aj,aA,?_,λt=>?_⟩;{unfold Ei;rw[aB aj,show(2+(n2.length:Int)-2).toNat=n2.length by omega,aF,aH ak,hnew,hlr];rfl};have:=JQ (n2++[((T.node r).1,x1,x2)]) t (k:=n2.length) ak (by rw[hnew];exact p1'.hi) (by rw[hnew];exact p2.hi);rw[hnew]at this;rw[this,RY _ _ _ p1'.hi,RY _ _ _ p2.hi,p1'.val,p2.val,ge t]);refine⟨GY D2 r (2+(n2.length:Int)),n2++[((T.node r).1,x1,x2)],2+(n2.length:Int),?_,⟨?_,?_,λr' x' h' hr''=>?_,λk hk=>?_⟩,⟨l1++l2++[((T.node r).1,x1,x2)],by rw[e2,e1];simp⟩,b7z,aA⟩
     ·have t1:=λK:AV=>qZ.top 12 [(12,.box K)] ak f1 ⟨rfl,rfl⟩ (b6i _ _ _) (b6i _ _ _) ⟨rfl,rfl⟩ ⟨rfl,rfl⟩;have t2:=λK:AV=>qZ.top 12 [(12,.box K)] ak f2 ⟨rfl,rfl⟩ (b6i _ _ _) (b6i _ _ _) ⟨rfl,rfl⟩ ⟨rfl,rfl⟩;refine ZN Tryz.func190 λhok=>?_;refine Iu hl (ZW ?_);refine⟨rW aj aj,ZW ?_⟩;refine ug default ⟨aj,aj⟩ (ZW ?_);refine .gen _ _ (t1 _) λ_=>ZW ?_;refine .gen _ _ (t2 _) λ_=>ZW ?_;refine⟨by rw[aC],.mk (by simp[maxL];omega) aA (ZW ?_)⟩;refine⟨rW aA aA,ZW ?_⟩;refine b5Q (v:=2+(n2.length:Int)) aA (ZW ?_);refine a4F (r:=2+(n2.length:Int)) (by rw[Bc,aG rfl]) (ZW ?_);refine ZE ?_ ?_;{exact wk};repeat' first|exact Zq|apply aI
      all_goals first|exact qP _|exact qQ _ _|exact BZ _ _|exact yO _ _|(show tV _ (List.map _ (_++[_]));rw[aV];exact qX _)|(simp;done)|skip
     ·rw[Bc,aB aj];exact i2.zero
     ·rw[Bc,aB aj];exact i2.one
     ·rw[Bc]at h';split at h';{rename_i e;subst e;obtain rfl:=aW h';exact b7z};exact(i2.all r' x' h' hr'').app
     by_cases hkl:k<n2.length;{rw[kL hkl];exact(i2.nodes k hkl).app aj};obtain rfl:k=n2.length:=by simp at hk;omega
     rw[hnew];exact b8t
theorem a7d(T:Tb)(hT:tJ T)(hn:T.nodes.length<=1000000000)(hS:2^T.n.toNat<=1000000000)(r:Int)(hr:T.Rf r) :
  ∃ns x,ZQ 117 [.ptr 0 [] 0,.int .i64 r] (yZ T) (Oc T.order ns x) (yZ T)/\(∀(k:Nat) (h:k<ns.length),Dt T ns k ns[k])/\0<=x/\x<2+(ns.length:Int)/\(∀t,ev ns t x=ev T.nodes t r)/\ns.length<=2^T.n.toNat:=by
 have hlp:=hT.F7 hr;have hsm:=hT.small;have i0:ExI T [(0,0),(1,1)] []:=by refine⟨⟨0,rfl⟩,⟨1,rfl⟩,λr x h hr=>?_,λk hk=>absurd hk (gW _)⟩;simp only[yU]at h;split at h;{rename_i e;subst e;obtain rfl:=aW h;exact⟨aj,aj,rfl,λt=>rfl⟩};split at h;{rename_i e;subst e;obtain rfl:=aW h;exact⟨aj,aj,rfl,λt=>rfl⟩};cases h
 obtain⟨D',ns',x,f,g,⟨l,e⟩,p,n⟩:=a4t T hT hn T.n.toNat [(0,0),(1,1)] [] i0 r hr aj (by simpa using hS);simp only[jh,bH]at n;refine⟨ns',x,?_,g.nodes,p.lo,p.hi,p.val,aj⟩;refine ZN Tryz.func117 λhok=>?_;refine .pure (by simp[maxL];omega) aA (ZW ?_);refine Uc (es:=[]) (ZW ?_);refine Uc (es:=[(0,0)]) (ZW ?_);refine .gen _ _ (qZ.pre (.FU 7 [1] 3 [] (.ag [.sl 1 (T.order.map (.int .i64)) .no,.qV,.int .i64 0]) .qV _ rfl rfl (.inl ⟨rfl,rfl⟩) rfl (.refl _ _)) f) λ_=>ZW ?_;refine ZE ?_ ?_;{exact wk};repeat' first|exact Zq|apply aI
 all_goals first|exact qP _|exact qQ _ _|exact BZ _ _|exact yO _ _|(show tV _ (List.map _ (_++[_]));rw[aV];exact qX _)|(simp;done)|skip
structure NK(v:Int)(i:Nat)(x:Nd):Prop where
 kind:0<=x.kind/\x.kind<=5
 num:if x.kind=0 then x.args.length=0 else if x.kind=1 then x.args.length=1 else 1<=x.args.length/\x.args.length<=16
 args:∀a∈x.args,0<=a/\a<v+i
 k:if x.kind=0 then x.k=0\/x.k=1 else if x.kind=4 then 1<=x.k/\x.k<=x.args.length else x.k=0
structure Om(f:Fo):Prop where
 vars:0<=f.vars/\f.vars<=24
 len:f.nodes.length<=128
 nodes:∀(i:Nat) (h:i<f.nodes.length),NK f.vars i f.nodes[i]
 top:0<=f.top/\f.top<f.vars+f.nodes.length
theorem a0C(x:Nd)(v:Int)(i:Nat)(h:NK v i x):ZQ 229 [.int .i64 x.kind,.int .i64 x.args.length] [] .tt []:=by have h2:=h.num;refine ZN Tryz.func229 λhok=>?_;constructor<;>intro g;{rw[aG g]at h2;refine ZW ?_;refine ZF ?_;show(x.args.length:Int)=0;omega};rw[aB g]at h2;refine ZS ?_ ?_<;>intro g;{rw[aG g]at h2;refine ZW ?_;refine ZF ?_;show(x.args.length:Int)=1;omega};rw[aB g]at h2;refine ZW ?_;refine aQ (λg=>?_) (λg=>by exfalso;omega);refine ZW ?_;refine ZF ?_;show(x.args.length:Int)<=16;omega
theorem a0B(f:Fo)(hv:0<=f.vars/\f.vars<=24)(i:Nat)(hi:i<f.nodes.length)(hl:f.nodes.length<=128)(h:NK f.vars i f.nodes[i]):ZQ 183 [f.av,.int .i64 i] [] .vK []:=by have ca:=a0C _ _ _ h;obtain⟨h1,h2,h3,h4⟩:=h;have hal:f.nodes[i].args.length<=16:=(by split at h2;{omega};split at h2 <;> omega);refine ZN Tryz.func183 λhok=>?_;refine sH hi ?_;generalize f.nodes[i]=x at *;refine ZW ?_;refine aQ (λg=>by exfalso;omega) (λg=>ZW ?_);refine aQ (λg=>by exfalso;omega) (λg=>ZW ?_);rw[show(((x.args.map (AV.int .i64)).length:Nat):Int)=(x.args.length:Int) by simp];refine .zW ca ?_;refine qW.of <| qN.inv (.refl _ _) (fun(j:Nat)=>j<=x.args.length) (fun(j:Nat)=>[(33,.int .i64 j)]) (λ_=>_) (fun(j:Nat)=>x.args.length-j) 0 ?_ (λ_=>rfl) ?_ ?_;{exact aP _};{exact wk};intro j hj _;refine ZS ?_ ?_<;>intro g1;{have hjl:j<x.args.length:=(by simpa using g1);have ha:=h3 _ (aN hjl);refine ZW ?_;refine sH hjl ?_;generalize x.args[j]=a at *;refine ZW ?_;refine aQ (λg=>by exfalso;omega) (λg=>ZW ?_);refine ZG ?_;refine aQ (λg=>by exfalso;omega) (λg=>ZW ?_);refine ZG ?_;refine⟨j+1,?_,?_,?_⟩;{exact hjl};{exact wk};omega};refine ZS ?_ ?_<;>intro g;{rw[aG g]at h4;refine ZS ?_ ?_<;>intro g;{refine ZW ?_;refine aQ (λg=>by exfalso;omega) (λg=>?_);exact ZJ};exact ZJ};rw[aB g]at h4;refine ZS ?_ ?_<;>intro g;{rw[aG g]at h4;refine ZW ?_;refine aQ (λg=>by exfalso;omega) (λg=>ZW ?_);refine aQ (λg=>by exfalso;simp at g;omega) (λg=>?_);exact ZJ};rw[aB g]at h4;refine ZW ?_;refine aQ (λg=>by exfalso;omega) (λg=>?_);exact ZJ
theorem b0f(f:Fo)(h:Om f):ZQ 184 [f.av,.int .i64 f.top] [] .tt []:=by obtain⟨h1,h2,_,h4⟩:=h;refine ZN Tryz.func184 λhok=>?_;refine aQ (λ_=>?_) (λg=>by exfalso;omega);refine ZW ?_;refine aQ (λ_=>?_) (λg=>by exfalso;omega);refine ZS ?_ ?_<;>intro g;{exact ZJ};refine ZW ?_;refine ZG ?_;refine ZF ?_;show f.top-f.vars<(((f.nodes.map Nd.av).length:Nat):Int);simp;omega
theorem QK(f:Fo)(h:Om f):ZQ 110 [f.av] [] .vK []:=by have cv:=b0f f h;obtain⟨h1,h2,h3,h4⟩:=h;have cn:=λi hi=>a0B f h1 i hi h2 (h3 i hi);refine ZN Tryz.func110 λhok=>?_;refine aQ (λg=>by exfalso;omega) (λg=>ZW ?_);refine aQ (λg=>by exfalso;omega) (λg=>ZW ?_);refine aQ (λg=>by exfalso;simp at g;omega) (λg=>ZW ?_);refine qW.of <| qN.inv (.refl _ _) (fun(i:Nat)=>i<=f.nodes.length) (fun(i:Nat)=>[(22,.int .i64 i)]) (λ_=>_) (fun(i:Nat)=>f.nodes.length-i) 0 ?_ (λ_=>rfl) ?_ ?_;{exact aP _};{exact wk};intro i hi _;refine ZS ?_ ?_<;>intro g1;{have hil:i<f.nodes.length:=(by simpa using g1);refine ZW ?_;refine .zW (cn i hil) ?_;refine ZG ?_;refine⟨i+1,?_,?_,?_⟩;{exact hil};{exact wk};omega};refine ZW ?_;refine .zW cv ?_;exact ZH
def YS(v:List Bool)(args:List Int):Nat:=args.foldl (λn a=>if v.getD a.toNat false=true then n+1 else n) 0
def Ib(x:Nd)(n:Nat):Bool :=
 if x.kind=0 then decide (x.k=1)else if x.kind=1 then decide (n=0)else if x.kind=2 then decide (n=x.args.length)else if x.kind=3 then decide (0<n)
 else if x.kind=4 then decide (x.k<=n)else if x.kind=5 then decide (n % 2=1)else false
def b1G(v:List Bool)(x:Nd):List Bool:=v++[Ib x (YS v x.args)]
structure OpP(T T':Tb)(r:Int)(f:(Int->Bool)->Bool)(z:Nat):Prop where
 good:tJ T'
 ext:Xt T T'
 rf:T'.Rf r
 val:∀s,ev T'.nodes s r=f s
 size:T'.nodes.length<=T.nodes.length+z
theorem VE(T:Tb)(hT:tJ T)(N:Nat)(hN:T.n<=N)(a b c:Int)(ha:T.Rf a)(hb:T.Rf b)(hc:T.Rf c):T.n-min (min (T.lvl a) (T.lvl b)) (T.lvl c)<=N:=by have:=hT.F7 ha;have:=hT.F7 hb;have:=hT.F7 hc;omega
theorem b1a(N:Nat)(T:Tb)(hT:tJ T)(hN:T.n<=N)(a:Int)(ha:T.Rf a)(hS:T.nodes.length+2^N<=1000000000) :
  ∃T' r,ZQ 120 [.ptr 0 [] 0,.int .i64 a] (yZ T) (.int .i64 r) (yZ T')/\OpP T T' r (λs=>!ev T.nodes s a) (2^N):=by
 obtain⟨T',r,f,p,n⟩:=Gu N T hT a 0 1 ha (.zero T) (.one T) (VE T hT N hN _ _ _ ha (.zero T) (.one T)) hS;refine⟨T',r,?_,⟨p.good,p.ext,p.rf,λs=>by rw[p.val s,F9,OW];cases ev T.nodes s a <;> rfl,aj⟩⟩;refine ZN Tryz.func120 λhok=>?_;refine .gen _ _ f λ_=>ZW ?_;refine ZE ?_ ?_;{exact wk};repeat' first|exact Zq|apply aI
 all_goals first|exact qP _|exact qQ _ _|(simp;done)|skip
theorem a7f(N:Nat)(T:Tb)(hT:tJ T)(hN:T.n<=N)(a b:Int)(ha:T.Rf a)(hb:T.Rf b)(hS:T.nodes.length+2*2^N<=1000000000) :
  ∃T' r,ZQ 64 [.ptr 0 [] 0,.int .i64 a,.int .i64 b] (yZ T) (.int .i64 r) (yZ T')/\OpP T T' r (λs=>ev T.nodes s a&&ev T.nodes s b) (2*2^N):=by
 obtain⟨T',r,f,p,n⟩:=Gu N T hT a b 0 ha hb (.zero T) (VE T hT N hN _ _ _ ha hb (.zero T)) aj;refine⟨T',r,?_,⟨p.good,p.ext,p.rf,λs=>by rw[p.val s,F9];cases ev T.nodes s a <;> rfl,aj⟩⟩;refine ZN Tryz.func64 λhok=>?_;refine .gen _ _ f λ_=>ZW ?_;refine ZE ?_ ?_;{exact wk};repeat' first|exact Zq|apply aI
 all_goals first|exact qP _|exact qQ _ _|(simp;done)|skip
theorem b65(N:Nat)(T:Tb)(hT:tJ T)(hN:T.n<=N)(a b:Int)(ha:T.Rf a)(hb:T.Rf b)(hS:T.nodes.length+2*2^N<=1000000000) :
  ∃T' r,ZQ 188 [.ptr 0 [] 0,.int .i64 a,.int .i64 b] (yZ T) (.int .i64 r) (yZ T')/\OpP T T' r (λs=>ev T.nodes s a||ev T.nodes s b) (2*2^N):=by
 obtain⟨T',r,f,p,n⟩:=Gu N T hT a 1 b ha (.one T) hb (VE T hT N hN _ _ _ ha (.one T) hb) aj;refine⟨T',r,?_,⟨p.good,p.ext,p.rf,λs=>by rw[p.val s,OW];cases ev T.nodes s a <;> rfl,aj⟩⟩;refine ZN Tryz.func188 λhok=>?_;refine .gen _ _ f λ_=>ZW ?_;refine ZE ?_ ?_;{exact wk};repeat' first|exact Zq|apply aI
 all_goals first|exact qP _|exact qQ _ _|(simp;done)|skip
theorem b09(N:Nat)(T:Tb)(hT:tJ T)(hN:T.n<=N)(a b:Int)(ha:T.Rf a)(hb:T.Rf b)(hS:T.nodes.length+2*2^N<=1000000000) :
  ∃T' r,ZQ 60 [.ptr 0 [] 0,.int .i64 a,.int .i64 b] (yZ T) (.int .i64 r) (yZ T')/\OpP T T' r (λs=>ev T.nodes s a ^^ ev T.nodes s b) (2*2^N):=by
 obtain⟨T1,c,f1,p1⟩:=b1a N T hT hN b hb aj;have hs:=p1.size;obtain⟨T',r,f,p,n⟩:=Gu N T1 p1.good a c b (p1.ext.rf ha) p1.rf (p1.ext.rf hb) (VE T1 p1.good N (by rw[p1.ext.n];exact hN) _ _ _ (p1.ext.rf ha) p1.rf (p1.ext.rf hb)) aj;refine⟨T',r,?_,⟨p.good,p1.ext.trans p.ext,p.rf,λs=>by rw[p.val s,p1.val s,p1.ext.ev ha,p1.ext.ev hb];cases ev T.nodes s a <;> cases ev T.nodes s b <;> rfl,aj⟩⟩;refine ZN Tryz.func60 λhok=>?_;refine .gen _ _ f1 λ_=>ZW ?_;refine .gen _ _ f λ_=>ZW ?_;refine ZE ?_ ?_;{exact wk};repeat' first|exact Zq|apply aI
 all_goals first|exact qP _|exact qQ _ _|(simp;done)|skip
theorem b5G(f:Nat)(refs:List Int)(g:Nat->Tb×Int)(hg:∀k,k<refs.length->ZQ f [.ptr 0 [] 0,.int .i64 (g k).2,.int .i64 (refs.getD k 0)] (yZ (g k).1) (.int .i64 (g (k+1)).2) (yZ (g (k+1)).1)) :
  ZQ 187 [iL refs,.int .i64 (g 0).2,.bm f 0] (yZ (g 0).1) (.int .i64 (g refs.length).2) (yZ (g refs.length).1):=by
 refine ZI Tryz.func187 λhok=>?_;have hl:refs.length<=9223372036854775807:=(by have:=hok.1.1;simpa[maxL]using this);refine Z0 ?_;refine qW.of <| (qN.inv (.refl _ _) (λk:Nat=>k<=refs.length) (λk=>[(11,.int .i64 k),(1,.int .i64 (g k).2)]) (λk=>yZ (g k).1) (λk=>refs.length-k) 0 (aP _) ?_ ?_ ?_);{exact λ_=>rfl}
 ·refine Zv wk ?_;repeat' first|exact Zq|apply aI
  all_goals first|exact qP _|exact qQ _ _|skip
 intro k hk _;refine ZS ?_ ?_<;>intro h
 ·have hlt:k<refs.length:=(by simpa using h);have q:=hg k hlt;rw[aF,aH hlt]at q;refine ZW ?_;refine sH hlt (ZW ?_);refine .gen _ _ q λ_=>ZW ?_;refine ZG ?_;refine⟨k+1,?_,?_,?_⟩;{exact hlt}
  ·refine Zv wk ?_;repeat' first|exact Zq|apply aI
   all_goals first|exact qP _|exact qQ _ _|skip
  omega
 have hk:k=refs.length:=(by(have:¬k<refs.length:=by simpa using h);omega);subst hk;refine ZW ?_;refine ZE ?_ ?_;{exact wk};repeat' first|exact Zq|apply aI
 all_goals first|exact qP _|exact qQ _ _|(simp;done)|skip
theorem a1p(N:Nat)(F:Nat)(op:Bool->Bool->Bool)
  (hop:∀(T:Tb),tJ T->T.n<=N->∀(a b:Int),T.Rf a->T.Rf b->T.nodes.length+2*2^N<=1000000000->∃T' r,qZ Tryz.prog F [.ptr 0 [] 0,.int .i64 a,.int .i64 b] (yZ T) (.int .i64 r) (yZ T')/\OpP T T' r (λs=>op (ev T.nodes s a) (ev T.nodes s b)) (2*2^N))
  (T:Tb) (hT:tJ T) (hN:T.n<=N) (refs:List Int) (hr:∀r∈refs,T.Rf r) (first:Int) (hf:T.Rf first) (hS:T.nodes.length+(refs.length+1)*(2*2^N)<=1000000000) :
  ∃T' r,ZQ 187 [iL refs,.int .i64 first,.bm F 0] (yZ T) (.int .i64 r) (yZ T')/\OpP T T' r (λs=>(refs.map (ev T.nodes s)).foldl op (ev T.nodes s first)) (refs.length*(2*2^N)):=by
 generalize hZ:2*2^N=Z at *;obtain⟨g,g0,g1,g2⟩:=G6 (λk (q:Tb×Int)=>OpP T q.1 q.2 (λs=>((refs.take k).map (ev T.nodes s)).foldl op (ev T.nodes s first)) (k*Z))
  (λk q q'=>qZ Tryz.prog F [.ptr 0 [] 0,.int .i64 q.2,.int .i64 (refs.getD k 0)] (yZ q.1) (.int .i64 q'.2) (yZ q'.1)) refs.length (T,first)
  ⟨hT,.refl _,hf,λs=>rfl,ak⟩ (λk q hk h=>by
   have hrk:T.Rf refs[k]:=hr _ (aN hk);have hsz:=h.size;have hle:(k+1)*Z<=(refs.length+1)*Z:=bW _ aj;have e:(k+1)*Z=k*Z+Z:=(by rw[dw,gQ]);obtain⟨T',r,f,p⟩:=hop q.1 h.good (by rw[h.ext.n];exact hN) q.2 refs[k] h.rf (h.ext.rf hrk) aj;have hps:=p.size;refine⟨(T',r),⟨p.good,h.ext.trans p.ext,p.rf,λs=>?_,by show T'.nodes.length<=_;omega⟩,?_⟩;{show ev T'.nodes s r=_;rw[p.val s,h.val s,h.ext.ev hrk,bV hk,aV,gK];rfl};rw[aF,aH hk];exact f)
 have l:=g1 refs.length (aT _);have q:=b5G F refs g g2;rw[g0]at q;refine⟨(g refs.length).1,(g refs.length).2,q,⟨l.good,l.ext,l.rf,λs=>?_,l.size⟩⟩;have:=l.val s;rw[bn]at this;exact this
structure VoS where
 T:Tb
 need:List Int
def cB(T:Tb)(t:Int->Bool)(l:List Int):Nat:=l.countP λr=>ev T.nodes t r
structure VoI(T:Tb)(refs:List Int)(K Z m i:Nat)(s:VoS):Prop where
 good:tJ s.T
 ext:Xt T s.T
 len:s.need.length=K+1
 all:∀j,j<=K->s.T.Rf (s.need.getD j 0)/\∀t,ev s.T.nodes t (s.need.getD j 0)=decide (j<=cB T t (refs.take (if K-i<j then m+1 else m)))
 size:s.T.nodes.length<=T.nodes.length+(m*K+i)*Z
def VoR(refs:List Int)(K m i:Nat)(s s':VoS):Prop :=
 ∃x,ZQ 119 [.ptr 0 [] 0,.int .i64 (refs.getD m 0),.int .i64 (s.need.getD (K-(i+1)) 0),.int .i64 (s.need.getD (K-i) 0)] (yZ s.T) (.int .i64 x) (yZ s'.T)/\s'.need=s.need.set (K-i) x
theorem Ad{l:List Int}{i j:Nat}{x:Int}(hi:i<l.length):(l.set i x).getD j 0=if j=i then x else l.getD j 0:=by rw[aF,jY];by_cases h:i=j;{subst h;rw[aG rfl,aG hi,aG rfl];rfl};rw[aB h,aB (λe=>h e.symm),aF]
theorem b1E(N:Nat)(T:Tb)(hN:T.n<=N)(refs:List Int)(hr:∀r∈refs,T.Rf r)(K m i:Nat)(hm:m<refs.length)(hi:i<K)(hS:T.nodes.length+refs.length*K*2^N<=1000000000)(s:VoS)(h:VoI T refs K (2^N) m i s) :
  ∃s',VoI T refs K (2^N) m (i+1) s'/\VoR refs K m i s s':=by
 have hrm:T.Rf refs[m]:=hr _ (aN hm);have em:refs.getD m 0=refs[m]:=(by rw[aF,aH hm];rfl);obtain⟨a1,a2⟩:=h.all (K-(i+1)) aj;obtain⟨b1,b2⟩:=h.all (K-i) aj;have hsz:=h.size;have hb:(m*K+(i+1))*2^N<=refs.length*K*2^N:=(by refine bW _ ?_;have:(m+1)*K<=refs.length*K:=bW _ aj;rw[dw,gQ]at this;omega);have he:(m*K+(i+1))*2^N=(m*K+i)*2^N+2^N:=(by rw[<- iW,dw (m*K+i),gQ]);have hlen:=h.len;obtain⟨T',x,f,p,n⟩:=Gu N s.T h.good refs[m] (s.need.getD (K-(i+1)) 0) (s.need.getD (K-i) 0) (h.ext.rf hrm) a1 b1 (VE s.T h.good N (by rw[h.ext.n];exact hN) _ _ _ (h.ext.rf hrm) a1 b1) aj;refine⟨⟨T',s.need.set (K-i) x⟩,⟨p.good,h.ext.trans p.ext,by show(s.need.set (K-i) x).length=_;rw[ni];exact hlen,λj hj=>?_,by show T'.nodes.length<=_;omega⟩,x,by rw[em];exact f,rfl⟩;show T'.Rf ((s.need.set (K-i) x).getD j 0)/\∀t,ev T'.nodes t ((s.need.set (K-i) x).getD j 0)=_;rw[Ad aj];by_cases hji:j=K-i
 ·rw[aG hji];refine⟨p.rf,λt=>?_⟩;have c1:(if K-i<K-(i+1)then m+1 else m)=m:=aB aj;have c2:(if K-i<K-i then m+1 else m)=m:=aB aj;have c3:(if K-(i+1)<j then m+1 else m)=m+1:=aG aj;rw[p.val t,h.ext.ev hrm,a2 t,b2 t,c1,c2,c3,bV hm];unfold cB;rw[kP,List.countP_singleton];subst hji;generalize List.countP (λr=>ev T.nodes t r) (List.take m refs)=c;cases ev T.nodes t refs[m]with
  |true=>simp only[if_true];exact decide_eq_decide.2 aj
  |false=>simp
 rw[aB hji];obtain⟨c1,c2⟩:=h.all j hj;refine⟨p.ext.rf c1,λt=>?_⟩;rw[p.ext.ev c1,c2 t];by_cases hlt:K-i<j;{rw[aG hlt,aG aj]};rw[aB hlt,aB aj]
theorem b5s(N:Nat)(T:Tb)(hT:tJ T)(hN:T.n<=N)(refs:List Int)(hr:∀r∈refs,T.Rf r)(K:Nat)(hK:K<=1000)(hS:T.nodes.length+refs.length*K*2^N<=1000000000) :
  ∃T' r,ZQ 189 [.ptr 0 [] 0,iL refs,.int .i64 K] (yZ T) (.int .i64 r) (yZ T')/\OpP T T' r (λs=>decide (K<=cB T s refs)) (refs.length*K*2^N):=by
 obtain⟨g,g0,g1,g2⟩:=G6 (λm s=>VoI T refs K (2^N) m 0 s) (λm s s'=>∃h:Nat->VoS,h 0=s/\h K=s'/\(∀i,i<=K->VoI T refs K (2^N) m i (h i))/\∀i,i<K->VoR refs K m i (h i) (h (i+1))) refs.length ⟨T,1::List.replicate K 0⟩
  (by
   refine⟨hT,.refl _,ak,λj hj=>?_,ak⟩;cases j with
   |zero=>exact⟨.one T,λt=>by simp[OW]⟩
   |succ j =>have e:(1::List.replicate K 0).getD (j+1) 0=(0:Int):=(by simp[eH];split <;> rfl);show T.Rf ((1::List.replicate K 0).getD (j+1) 0)/\_;rw[e];exact⟨.zero T,λt=>by rw[aB aj];simp[cB,F9]⟩)
  (λm s hm h=>by
   obtain⟨f,f0,f1,f2⟩:=G6 (λi s=>VoI T refs K (2^N) m i s) (λi s s'=>VoR refs K m i s s') K s h (λi s hi h=>b1E N T hN refs hr K m i hm hi hS s h);have l:=f1 K (aT _);refine⟨f K,⟨l.good,l.ext,l.len,λj hj=>?_,?_⟩,f,f0,rfl,f1,f2⟩
   ·obtain⟨a,b⟩:=l.all j hj;refine⟨a,λt=>?_⟩;rw[b t];cases j with
    |zero=>simp
    |succ j =>have c1:(if K-K<j+1 then m+1 else m)=m+1:=aG aj;have c2:(if K-0<j+1 then m+1+1 else m+1)=m+1:=aB aj;rw[c1,c2]
   have:=l.size;rw[dR,dw m 1 K,gQ];exact this)
 have l:=g1 refs.length (aT _);obtain⟨r1,r2⟩:=l.all K (aT _);refine⟨(g refs.length).T,(g refs.length).need.getD K 0,?_,⟨l.good,l.ext,r1,λs=>?_,by have:=l.size;rwa[dR]at this⟩⟩
 ·have hll:=l.len;refine ZI Tryz.func189 λhok=>?_;have hrl:refs.length<=9223372036854775807:=(by have:=hok.2.1.1;simpa[maxL]using this);refine Z0 ?_;rw[show(K:Int)+1=((K+1:Nat):Int) by omega];refine⟨rW aj aj,ZW ?_⟩;refine⟨⟨aj,dQ _,by show((K+1:Nat):Int)*((8:Nat):Int)<=281474976710656;omega,aj⟩,.wr ?_⟩;rw[aO];refine ZW ?_;refine⟨⟨aj,aj⟩,ZW ?_⟩;refine⟨ak,rfl,ZW ?_⟩;rw[show(List.replicate (K+1) (AV.int IntKind.i64 0)).set (0+Int.toNat 0) (strip (AV.int IntKind.i64 1))=(g 0).need.map (.int .i64)from by
   rw[g0];simp[nJ,strip]]
  refine qW.of <| (qN.inv (.refl _ _) (λm:Nat=>m<=refs.length) (λm=>[(18,.int .i64 m)]) (λm=>(5,.arr 1 (K+1) ((g m).need.map (.int .i64)))::yZ (g m).T) (λm=>refs.length-m) 0 (aP _) ?_ ?_ ?_);{exact λ_=>rfl}
  ·have hT0:T=(g 0).T:=(by rw[g0]);refine Zv wk ?_;rw[<- hT0];repeat' first|exact Zq|apply aI
   all_goals first|exact qP _|exact qQ _ _|skip
  intro m hm _;refine ZS ?_ ?_<;>intro h
  ·have hlt:m<refs.length:=(by simpa using h);obtain⟨f,f0,fK,f1,f2⟩:=g2 m hlt;have em:refs.getD m 0=refs[m]:=(by rw[aF,aH hlt];rfl);refine ZW ?_;refine sH hlt (ZW ?_);refine qW.of <| (qN.inv (.refl _ _) (λi:Nat=>i<=K) (λi=>[(10,.int .i64 ((K-i:Nat):Int))]) (λi=>(5,.arr 1 (K+1) ((f i).need.map (.int .i64)))::yZ (f i).T) (λi=>K-i) 0 (aP _) ?_ ?_ ?_);{exact λ_=>rfl}
   ·rw[<- f0];refine Zv wk ?_;repeat' first|exact Zq|apply aI
    all_goals first|exact qP _|exact qQ _ _|skip
   intro i hi _;have lf:=(f1 i hi).len;refine ZS ?_ ?_<;>intro h
   ·have hilt:i<K:=aj;obtain⟨x,q1,q2⟩:=f2 i hilt;rw[em]at q1;refine ZW ?_;refine xG.mk ⟨[true,true,true,true,true,true,true,true,false,true,true,true,false,false,true,false],by kernel_rfl,?_⟩;conv=>whnf
    refine⟨rW aj aj,?_⟩;conv=>whnf
    rw[show((K-i:Nat):Int)-1=((K-(i+1):Nat):Int) by omega];refine⟨⟨aj,aj⟩,?_⟩;conv=>whnf
    rw[bH];refine ug 0 ⟨aj,aj⟩ ?_;conv=>whnf
    refine⟨rfl,?_⟩;conv=>whnf
    refine⟨⟨aj,aj⟩,?_⟩;conv=>whnf
    rw[bH];refine ug 0 ⟨aj,aj⟩ ?_;conv=>whnf
    refine⟨rfl,?_⟩;conv=>whnf
    rw[aO,aO,aO,aO];refine .gen _ _ (NZ [(5,_)] ak q1 (λ_=>rfl) (λ_=>rfl) rfl) λ_=>?_;conv=>whnf
    refine⟨⟨aj,aj⟩,?_⟩;conv=>whnf
    refine⟨by rw[aC];omega,rfl,ZW ?_⟩;refine⟨rW aj aj,ZW ?_⟩;refine⟨i+1,?_,?_,?_⟩;{exact hilt}
    ·rw[q2];refine Zv ?_ ?_
     ·repeat' first|exact Zq|apply aI
      all_goals (show(_:Int)=_;omega)
     repeat' first|exact Zq|apply aI
     all_goals first|exact qP _|exact qQ _ _|(refine qY ?_;rw[dP];congr 1;omega)|skip
    omega
   have hiK:i=K:=aj;subst hiK;refine ZW ?_;refine ZG ?_;rw[fK];refine⟨m+1,?_,?_,?_⟩;{exact hlt}
   ·refine Zv wk ?_;repeat' first|exact Zq|apply aI
    all_goals first|exact qP _|exact qQ _ _|skip
   omega
  have hk:m=refs.length:=(by(have:¬m<refs.length:=by simpa using h);omega);subst hk;refine ZW ?_;refine⟨⟨aj,aj⟩,ZW ?_⟩;rw[bH];refine ug 0 ⟨aj,aj⟩ (ZW ?_);refine⟨rfl,ZW ?_⟩;rw[aO,aO];refine ZE ?_ ?_;{exact wk};repeat' first|exact Zq|apply aI
  all_goals first|exact qP _|exact qQ _ _|(simp;done)|skip
 have:=r2 s;rw[aB aj,bn]at this;exact this
theorem a9v(l:List Bool)(b:Bool):l.foldl (λa c=>a&&c) b=(b&&l.all id):=by
 induction l generalizing b with
 |nil=>simp
 |cons x l ih=>rw[fA,ih];simp[Bool.and_assoc]
theorem b2N(l:List Bool)(b:Bool):l.foldl (λa c=>a||c) b=(b||l.any id):=by
 induction l generalizing b with
 |nil=>simp
 |cons x l ih=>rw[fA,ih];simp[Bool.or_assoc]
theorem a9u(l:List Bool)(b:Bool):l.foldl (λa c=>a ^^ c) b=(b ^^ decide (l.countP id % 2=1)):=by
 induction l generalizing b with
 |nil=>simp
 |cons x l ih =>rw[fA,ih,iE];have h:(List.countP id l) % 2=0\/(List.countP id l) % 2=1:=aj;rcases h with h|h <;> cases x <;> cases b <;> simp[h,Nat.add_mod]
theorem a7R(l:List Bool):l.all id=decide (l.countP id=l.length):=by rw[jE];simp[List.countP_eq_length]
theorem a7M(l:List Bool):l.any id=decide (0<l.countP id):=by rw[jE];simp[List.countP_pos_iff]
theorem a7F(T:Tb)(s:Int->Bool)(refs:List Int):(refs.map (ev T.nodes s)).countP id=cB T s refs:=by unfold cB;rw[oz];rfl
theorem b3w(N:Nat)(T:Tb)(hT:tJ T)(hN:T.n<=N)(v:Int)(i:Nat)(x:Nd)(hx:NK v i x)(refs:List Int)(hl:refs.length=x.args.length)(hr:∀r∈refs,T.Rf r)(hS:T.nodes.length+600*2^N<=1000000000) :
  ∃T' r,ZQ 116 [.ptr 0 [] 0,x.av,iL refs] (yZ T) (.int .i64 r) (yZ T')/\OpP T T' r (λs=>Ib x (cB T s refs)) (600*2^N):=by
 obtain⟨kind,k,args⟩:=x;obtain⟨hk,hn,_,hkk⟩:=hx;dsimp only at hk hn hkk hl;have b8K:refs.length<=16:=(by rw[hl];split at hn;{omega};split at hn <;> omega);have hp:0<2^N:=gG au;have weak:∀{T':Tb} {r:Int} {f:(Int->Bool)->Bool} {z:Nat},z<=600*2^N->OpP T T' r f z->(∀s,f s=Ib ⟨kind,k,args⟩ (cB T s refs))->OpP T T' r (λs=>Ib ⟨kind,k,args⟩ (cB T s refs)) (600*2^N) :=
  λhz p hf=>⟨p.good,p.ext,p.rf,λs=>by rw[p.val s];exact hf s,dI p.size aj⟩
 have hm:refs.length*(2*2^N)<=32*2^N:=(by rw[<- dA];exact bW _ aj);have hS1:T.nodes.length+(refs.length+1)*(2*2^N)<=1000000000:=(by rw[dw,gQ];omega);rcases(by omega:kind=0\/kind=1\/kind=2\/kind=3\/kind=4\/kind=5)with rfl|rfl|rfl|rfl|rfl|rfl
 ·-- a constant
  have hkk:k=0\/k=1:=(by simpa using hkk);have rfk:T.Rf k:=(by rcases hkk with h|h;{rw[h];exact .zero T};rw[h];exact .one T);refine⟨T,k,?_,⟨hT,.refl _,rfk,λs=>by rcases hkk with rfl|rfl <;> rfl,aj⟩⟩;refine ZN Tryz.func116 λhok=>?_;refine aQ (λ_=>?_) (λh=>absurd rfl h);refine ZW ?_;refine ZE ?_ ?_;{exact wk};repeat' first|exact Zq|apply aI
  all_goals first|exact qP _|exact qQ _ _|(simp;done)|skip
 ·have hn:args.length=1:=(by simpa using hn);obtain⟨a,rfl⟩:∃a,refs=[a]:=List.length_eq_one_iff.1 aj;obtain⟨T',r,f,p⟩:=b1a N T hT hN a (hr a ak) aj;refine⟨T',r,?_,weak aj p λs=>by simp[Ib,cB]⟩;refine ZN Tryz.func116 λhok=>?_;refine aQ (λh=>absurd h ak) (λ_=>ZW ?_);refine aQ (λ_=>?_) (λh=>absurd rfl h);refine ZW ?_;refine Ce.mk ⟨_,⟨au,rfl⟩,ZW ?_⟩;refine .gen _ _ (NZ [(5,_)] ak f (λ_=>rfl) (λ_=>rfl) rfl) λ_=>ZW ?_;refine ZE ?_ ?_;{exact wk};repeat' first|exact Zq|apply aI
  all_goals first|exact qP _|exact qQ _ _|(simp;done)|skip
 ·obtain⟨T',r,f,p⟩:=a1p N 64 (λa b=>a&&b) (λT hT hN a b ha hb hS=>a7f N T hT hN a b ha hb hS) T hT hN refs hr 1 (.one T) hS1;refine⟨T',r,?_,weak aj p λs=>by rw[a9v,OW,jo,a7R,a7F,aC,hl];simp[Ib]⟩;refine ZN Tryz.func116 λhok=>?_;refine aQ (λh=>absurd h ak) (λ_=>ZW ?_);refine aQ (λh=>absurd h ak) (λ_=>ZW ?_);refine aQ (λ_=>?_) (λh=>absurd rfl h);refine ZW ?_;refine .gen _ _ (NZ [(5,_)] ak f (λ_=>rfl) (λ_=>rfl) rfl) λ_=>ZW ?_;refine ZE ?_ ?_;{exact wk};repeat' first|exact Zq|apply aI
  all_goals first|exact qP _|exact qQ _ _|(simp;done)|skip
 ·obtain⟨T',r,f,p⟩:=a1p N 188 (λa b=>a||b) (λT hT hN a b ha hb hS=>b65 N T hT hN a b ha hb hS) T hT hN refs hr 0 (.zero T) hS1;refine⟨T',r,?_,weak aj p λs=>by rw[b2N,F9,fD,a7M,a7F];simp[Ib]⟩;refine ZN Tryz.func116 λhok=>?_;refine aQ (λh=>absurd h ak) (λ_=>ZW ?_);refine aQ (λh=>absurd h ak) (λ_=>ZW ?_);refine aQ (λh=>absurd h ak) (λ_=>ZW ?_);refine aQ (λ_=>?_) (λh=>absurd rfl h);refine ZW ?_;refine .gen _ _ (NZ [(5,_)] ak f (λ_=>rfl) (λ_=>rfl) rfl) λ_=>ZW ?_;refine ZE ?_ ?_;{exact wk};repeat' first|exact Zq|apply aI
  all_goals first|exact qP _|exact qQ _ _|(simp;done)|skip
 ·have hkk:1<=k/\k<=args.length:=(by simpa using hkk);obtain⟨K,rfl⟩:∃K:Nat,k=(K:Int):=⟨k.toNat,aj⟩;have hmk:refs.length*K*2^N<=256*2^N:=bW _ (by
   have:refs.length*K<=16*16:=gU aj aj;omega)
  obtain⟨T',r,f,p⟩:=b5s N T hT hN refs hr K aj aj;refine⟨T',r,?_,weak aj p λs=>by simp[Ib]⟩;refine ZN Tryz.func116 λhok=>?_;refine aQ (λh=>absurd h ak) (λ_=>ZW ?_);refine aQ (λh=>absurd h ak) (λ_=>ZW ?_);refine aQ (λh=>absurd h ak) (λ_=>ZW ?_);refine aQ (λh=>absurd h ak) (λ_=>ZW ?_);refine aQ (λh=>absurd h ak) (λ_=>ZW ?_);refine .gen _ _ (NZ [(5,_)] ak f (λ_=>rfl) (λ_=>rfl) rfl) λ_=>ZW ?_;refine ZE ?_ ?_;{exact wk};repeat' first|exact Zq|apply aI
  all_goals first|exact qP _|exact qQ _ _|(simp;done)|skip
 obtain⟨T',r,f,p⟩:=a1p N 60 (λa b=>a ^^ b) (λT hT hN a b ha hb hS=>b09 N T hT hN a b ha hb hS) T hT hN refs hr 0 (.zero T) hS1;refine⟨T',r,?_,weak aj p λs=>by rw[a9u,F9,Bool.false_xor,a7F];simp[Ib]⟩;refine ZN Tryz.func116 λhok=>?_;refine aQ (λh=>absurd h ak) (λ_=>ZW ?_);refine aQ (λh=>absurd h ak) (λ_=>ZW ?_);refine aQ (λh=>absurd h ak) (λ_=>ZW ?_);refine aQ (λh=>absurd h ak) (λ_=>ZW ?_);refine aQ (λ_=>?_) (λh=>absurd rfl h);refine ZW ?_;refine .gen _ _ (NZ [(5,_)] ak f (λ_=>rfl) (λ_=>rfl) rfl) λ_=>ZW ?_;refine ZE ?_ ?_;{exact wk};repeat' first|exact Zq|apply aI
 all_goals first|exact qP _|exact qQ _ _|(simp;done)|skip
abbrev WkO(T:HO):Prop:=leO T T/\(match T with | .tY _ es=>EZ 3 es=true|o=>Uw 3 o=true)
abbrev WkA(X:AV):Prop:=le0 X X/\tH 3 X=true
abbrev hpF(m:Md)(X:AV)(T M:HO):Heap:=[(2,T),(1,.box (.ag [m.av,X,.mp 0])),(0,M)]
theorem b3t(x:Pg)(s:Str)(h0:0<s.length):ZQ 240 [x.av,.ptr 0 [] 0] [(0,.box (.str s))] (.bool (decide (x.name=s.drop 1))) [(0,.box (.str s))]:=by
 refine ZN Tryz.func240 λhok=>?_;refine ZR ?_;refine⟨⟨aj,aj,aj⟩,?_⟩;rw[b5m];refine ZW ?_;refine⟨⟨_,_,.refl _ _,?_⟩⟩;conv=>whnf
 refine Zx ?_ ?_;{show _↔_;simp};exact wk
theorem a7v(x:Ev)(s:Str):ZQ 241 [x.av,.ptr 0 [] 0] [(0,.box (.str s))] (.bool (decide (x.name=s))) [(0,.box (.str s))]:=by
 refine ZN Tryz.func241 λhok=>?_;refine⟨⟨_,_,.refl _ _,?_⟩⟩;conv=>whnf
 refine Zx ?_ ?_;{show _↔_;simp};exact wk
theorem a7u(x:Hs)(s:Str):ZQ 242 [x.av,.ptr 0 [] 0] [(0,.box (.str s))] (.bool (decide (x.name=s))) [(0,.box (.str s))]:=by
 refine ZN Tryz.func242 λhok=>?_;refine⟨⟨_,_,.refl _ _,?_⟩⟩;conv=>whnf
 refine Zx ?_ ?_;{show _↔_;simp};exact wk
theorem a7t(x:Mg)(s:Str):ZQ 243 [x.av,.ptr 0 [] 0] [(0,.box (.str s))] (.bool (decide (x.name=s))) [(0,.box (.str s))]:=by
 refine ZN Tryz.func243 λhok=>?_;refine⟨⟨_,_,.refl _ _,?_⟩⟩;conv=>whnf
 refine Zx ?_ ?_;{show _↔_;simp};exact wk
theorem XV(m:Md)(X:AV)(T M B3 B4:HO)(a:Int)(h:a = -1\/(0<=a/\a<(m.pages.length:Int))):ZQ 216 [.ptr 1 [] 0,.int .i64 a] ((4,B4)::(3,B3)::hpF m X T M) (gL (qO m a)) ((4,B4)::(3,B3)::hpF m X T M):=by
 refine ZN Tryz.func216 λhok=>?_;constructor<;>intro h1
 ·rw[show qO m a=m.gates from aG h1];refine ZW ?_
  (refine vw.same ?_;(conv=>whnf);refine⟨?_,rfl⟩;(conv=>whnf))
  all_goals exact wk
 have hb:0<=a/\a<(m.pages.length:Int):=aj;rw[show qO m a=(m.pages.getD a.toNat default).gates from aB h1];refine ZW ?_;refine ug default hb (ZW ?_)
 (refine vw.same ?_;(conv=>whnf);refine⟨?_,rfl⟩;(conv=>whnf))
 all_goals exact wk
theorem b3z(m:Md)(X:AV)(T M:HO)(hX:WkA X)(hT:WkO T)(hO:WkO M)(a:Int)(s:Str)(h0:0<s.length)(ha:a = -1\/(0<=a/\a<(m.pages.length:Int)))(hp:EH s=true->0<=tq m.pages (s.drop 1)) :
  ZQ 215 [.ptr 1 [] 0,.int .i64 a,.str s] (hpF m X T M) (OE (yH m a s)) (hpF m X T M):=by
 have hpl:tq m.pages (s.drop 1)<(m.pages.length:Int):=EF _ _;refine ZN Tryz.func215 λhok=>?_;refine Tq h0 ?_;refine ZS ?_ ?_<;>intro h2
 ·have e:EH s=true:=(by simp only[EH,h0,h2,decide_true,jo]);have hp:=hp e;rw[show yH m a s=y7 m (tq m.pages (s.drop 1)) (sG m (tq m.pages (s.drop 1)))from aG e];have hpt:(m.pages.getD (tq m.pages (s.drop 1)).toNat default).top=sG m (tq m.pages (s.drop 1)):=rfl;refine ZW ?_;refine .gen _ _ (a3m m.pages 240 [.ptr 3 [] 0] (λx=>decide (x.name=s.drop 1)) _ λx _=>qZ.frame [3] (b3t x s h0) ⟨rfl,rfl,rfl,rfl⟩ (by(repeat' first|exact rfl|exact trivial|exact wR|exact lR _|apply aI)) (by(repeat' first|exact rfl|exact trivial|exact wR|exact lR _|apply aI))) λ_=>?_;rw[show yJ (λx=>decide (x.name=s.drop 1)) m.pages=tq m.pages (s.drop 1)from rfl];generalize tq m.pages (s.drop 1)=p at *;have hpb:p = -1\/(0<=p/\p<(m.pages.length:Int)):=.inr ⟨hp,hpl⟩;refine ZW ?_;refine ug default ⟨hp,hpl⟩ (ZW ?_);rw[hpt];generalize sG m p=t at *;refine ZW ?_;refine .gen _ _ (XT m.evs 241 [.ptr 3 [] 0] (λx=>decide (x.name=t)) _ λx _=>qZ.frame [3] (a7v x t) ⟨rfl,rfl,rfl,rfl⟩ (by(repeat' first|exact rfl|exact trivial|exact wR|exact lR _|apply aI)) (by(repeat' first|exact rfl|exact trivial|exact wR|exact lR _|apply aI))) λ_=>?_;refine ZS ?_ ?_<;>intro h3
  ·rw[show y7 m p t=(0,0,rM m.evs t)from aG h3];refine ZW ?_;refine ZE ?_ ?_;{exact wk};repeat' first|exact Zq|apply aI
   all_goals first|exact hT.1|exact hT.2|exact hO.1|exact hO.2|exact hX.1|(show(match tH 3 X with|true=>_|false=>_)=true;rw[hX.2];rfl)
  refine ZW ?_;refine .gen _ _ (XR m.hs 242 [.ptr 3 [] 0] (λx=>decide (x.name=t)) _ λx _=>qZ.frame [3] (a7u x t) ⟨rfl,rfl,rfl,rfl⟩ (by(repeat' first|exact rfl|exact trivial|exact wR|exact lR _|apply aI)) (by(repeat' first|exact rfl|exact trivial|exact wR|exact lR _|apply aI))) λ_=>?_;refine ZS ?_ ?_<;>intro h4
  ·rw[show y7 m p t=(1,0,tN m.hs t)from(aB h3).trans (aG h4)];refine ZW ?_;refine ZE ?_ ?_;{exact wk};repeat' first|exact Zq|apply aI
   all_goals first|exact hT.1|exact hT.2|exact hO.1|exact hO.2|exact hX.1|(show(match tH 3 X with|true=>_|false=>_)=true;rw[hX.2];rfl)
  rw[show y7 m p t=(2,p,tX (qO m p) t)from(aB h3).trans (aB h4)];refine ZW ?_;refine .gen _ _ (XV m X T M _ _ p (by assumption)) λ_=>ZW ?_;refine .gen _ _ (XQ (qO m p) 243 [.ptr 3 [] 0] (λx=>decide (x.name=t)) _ λx _=>qZ.frame [3] (a7t x t) ⟨rfl,rfl,rfl,rfl⟩ (by(repeat' first|exact rfl|exact trivial|exact wR|exact lR _|apply aI)) (by(repeat' first|exact rfl|exact trivial|exact wR|exact lR _|apply aI))) λ_=>ZW ?_;refine ZE ?_ ?_;{exact wk};repeat' first|exact Zq|apply aI
  all_goals first|exact hT.1|exact hT.2|exact hO.1|exact hO.2|exact hX.1|(show(match tH 3 X with|true=>_|false=>_)=true;rw[hX.2];rfl)
 have e:EH s=false:=(by simp only[EH,bM h2,kX]);rw[show yH m a s=y7 m a s from aB (by rw[e];simp)];refine ZW ?_;refine .gen _ _ (XT m.evs 241 [.ptr 3 [] 0] (λx=>decide (x.name=s)) _ λx _=>qZ.frame [3] (a7v x s) ⟨rfl,rfl,rfl,rfl⟩ (by(repeat' first|exact rfl|exact trivial|exact wR|exact lR _|apply aI)) (by(repeat' first|exact rfl|exact trivial|exact wR|exact lR _|apply aI))) λ_=>?_;refine ZS ?_ ?_<;>intro h3
 ·rw[show y7 m a s=(0,0,rM m.evs s)from aG h3];refine ZW ?_;refine ZE ?_ ?_;{exact wk};repeat' first|exact Zq|apply aI
  all_goals first|exact hT.1|exact hT.2|exact hO.1|exact hO.2|exact hX.1|(show(match tH 3 X with|true=>_|false=>_)=true;rw[hX.2];rfl)
 refine ZW ?_;refine .gen _ _ (XR m.hs 242 [.ptr 3 [] 0] (λx=>decide (x.name=s)) _ λx _=>qZ.frame [3] (a7u x s) ⟨rfl,rfl,rfl,rfl⟩ (by(repeat' first|exact rfl|exact trivial|exact wR|exact lR _|apply aI)) (by(repeat' first|exact rfl|exact trivial|exact wR|exact lR _|apply aI))) λ_=>?_;refine ZS ?_ ?_<;>intro h4
 ·rw[show y7 m a s=(1,0,tN m.hs s)from(aB h3).trans (aG h4)];refine ZW ?_;refine ZE ?_ ?_;{exact wk};repeat' first|exact Zq|apply aI
  all_goals first|exact hT.1|exact hT.2|exact hO.1|exact hO.2|exact hX.1|(show(match tH 3 X with|true=>_|false=>_)=true;rw[hX.2];rfl)
 rw[show y7 m a s=(2,a,tX (qO m a) s)from(aB h3).trans (aB h4)];refine ZW ?_;refine .gen _ _ (XV m X T M _ _ a (by assumption)) λ_=>ZW ?_;refine .gen _ _ (XQ (qO m a) 243 [.ptr 3 [] 0] (λx=>decide (x.name=s)) _ λx _=>qZ.frame [3] (a7t x s) ⟨rfl,rfl,rfl,rfl⟩ (by(repeat' first|exact rfl|exact trivial|exact wR|exact lR _|apply aI)) (by(repeat' first|exact rfl|exact trivial|exact wR|exact lR _|apply aI))) λ_=>ZW ?_;refine ZE ?_ ?_;{exact wk};repeat' first|exact Zq|apply aI
 all_goals first|exact hT.1|exact hT.2|exact hO.1|exact hO.2|exact hX.1|(show(match tH 3 X with|true=>_|false=>_)=true;rw[hX.2];rfl)
def YQ(x:Mg):Bool:=decide (x.ins.length<=40)&&xg x.zi
def NJ(l:List Mg):Bool:=l.all YQ&&decide (l.length<=100)
def evS(x:Ev):Bool:=xg x.p&&xg x.fail&&xg x.repair
def grS(x:Gr):Bool:=decide (x.mem.length<=60)&&decide (x.BX.length<=60)&&x.BX.all xg
def phS(x:Ph):Bool:=decide (x.vals.length<=60)&&x.vals.all λv=>xg v.p
def yS(m:Md):Bool:=decide (m.evs.length<=60)&&decide (m.hs.length<=60)&&decide (m.pages.length<=30)&&decide (m.y8.length<=30)&&decide (m.zS.length<=30)&&NJ m.gates &&
 m.evs.all evS&&(m.pages.all λp=>NJ p.gates)&&m.y8.all grS&&m.zS.all phS
theorem b5H(l:List Mg)(R:AV)(hR:R=.bool (NJ l)):ZQ 69 [gL l] [] R []:=by refine ZI Tryz.func69 λhok=>?_;have lg:l.length<=9223372036854775807:=(by have:=hok.1.1;simpa[maxL]using this);refine Z0 ?_;refine qW.of <| qN.inv (.refl _ _) (fun(i:Nat)=>i<=l.length/\(l.take i).all YQ=true) (fun(i:Nat)=>[(7,.int .i64 i)]) (λ_=>_) (fun(i:Nat)=>l.length-i) 0 ?_ (λ_=>rfl) ?_ ?_;{exact⟨aP _,ak⟩};{exact wk};rintro i ⟨hi,hn⟩ _;refine ZS ?_ ?_<;>intro h;{have hlt:i<l.length:=(by simpa using h);have hall:=Fg (p:=YQ) hlt;have hmem:=aN hlt;refine ZW ?_;refine sH hlt ?_;generalize l[i]=g at *;have no:YQ g=false->R=.bool false:=λh=>(by rw[hR];unfold NJ;rw[all_false hmem h];rfl);refine ZS ?_ ?_<;>intro h1;{have h1:¬g.ins.length<=40:=(by simp only[aC]at h1;omega);obtain rfl:=no (by simp[YQ,h1]);exact ZJ};have h1:g.ins.length<=40:=(by simp only[aC]at h1;omega);refine ZW ?_;refine .zW (Nu g.zi) ?_;constructor<;>intro h2;{have h2:xg g.zi=false:=(by simpa using h2);obtain rfl:=no (by simp[YQ,h2]);exact ZJ};have h2:xg g.zi=true:=(by simpa using h2);refine ZW ?_;refine ZG ?_;refine⟨i+1,?_,?_,?_⟩;{exact⟨hlt,by rw[hall,hn];simp[YQ,h1,h2]⟩};{refine⟨?_,.mk ?_ trivial⟩;{exact wk};exact wk};omega};have hil:i=l.length:=(by have:¬i<l.length:=(by simpa using h);omega);subst hil;rw[bn]at hn;subst hR;refine ZW ?_;refine ZF ?_;show _↔_;simp[NJ,hn];omega
theorem b0j(m:Md)(R:AV)(hR:R=.bool (yS m)):ZQ 21 [m.av] [] R []:=by refine ZN Tryz.func21 λhok=>?_;constructor<;>intro h1;{have h1:¬m.evs.length<=60:=(by simp only[aC]at h1;omega);obtain rfl:R=.bool false:=(by rw[hR];congr 1;unfold yS;rw[bM h1];simp);exact ZJ};have h1:m.evs.length<=60:=(by simp only[aC]at h1;omega);refine ZS ?_ ?_<;>intro h2;{have h2:¬m.hs.length<=60:=(by simp only[aC]at h2;omega);obtain rfl:R=.bool false:=(by rw[hR];congr 1;unfold yS;rw[bM h2];simp);exact ZJ};have h2:m.hs.length<=60:=(by simp only[aC]at h2;omega);refine ZS ?_ ?_<;>intro h3;{have h3:¬m.pages.length<=30:=(by simp only[aC]at h3;omega);obtain rfl:R=.bool false:=(by rw[hR];congr 1;unfold yS;rw[bM h3];simp);exact ZJ};have h3:m.pages.length<=30:=(by simp only[aC]at h3;omega);refine ZS ?_ ?_<;>intro h4;{have h4:¬m.y8.length<=30:=(by simp only[aC]at h4;omega);obtain rfl:R=.bool false:=(by rw[hR];congr 1;unfold yS;rw[bM h4];simp);exact ZJ};have h4:m.y8.length<=30:=(by simp only[aC]at h4;omega);refine ZS ?_ ?_<;>intro h5;{have h5:¬m.zS.length<=30:=(by simp only[aC]at h5;omega);obtain rfl:R=.bool false:=(by rw[hR];congr 1;unfold yS;rw[bM h5];simp);exact ZJ};have h5:m.zS.length<=30:=(by simp only[aC]at h5;omega);refine ZW ?_;refine .zW (b5H m.gates _ rfl) ?_;constructor<;>intro h6;{have h6:NJ m.gates=false:=(by simpa using h6);obtain rfl:R=.bool false:=(by rw[hR];congr 1;unfold yS;rw[h6];simp);exact ZJ};have h6:NJ m.gates=true:=(by simpa using h6);refine ZW ?_;refine qW.of <| qN.inv (.refl _ _) (fun(i:Nat)=>i<=m.evs.length/\(m.evs.take i).all evS=true) (fun(i:Nat)=>[(52,.int .i64 i)]) (λ_=>_) (fun(i:Nat)=>m.evs.length-i) 0 ?_ (λ_=>rfl) ?_ ?_;{exact⟨aP _,ak⟩};{exact wk};rintro i ⟨hi,hn⟩ _;refine ZS ?_ ?_<;>intro h;{have hlt:i<m.evs.length:=(by simpa using h);have hall:=Fg (p:=evS) hlt;have hmem:=aN hlt;refine ZW ?_;refine sH hlt ?_;generalize m.evs[i]=g at *;refine ZW ?_;refine .zW (Nu g.p) ?_;constructor<;>intro q1;{have q1:xg g.p=false:=(by simpa using q1);obtain rfl:R=.bool false:=(by rw[hR];congr 1;unfold yS;rw[all_false hmem (show evS g=false by simp[evS,q1])];simp);exact ZJ};have q1:xg g.p=true:=(by simpa using q1);refine ZW ?_;refine .zW (Nu g.fail) ?_;constructor<;>intro q2;{have q2:xg g.fail=false:=(by simpa using q2);obtain rfl:R=.bool false:=(by rw[hR];congr 1;unfold yS;rw[all_false hmem (show evS g=false by simp[evS,q2])];simp);exact ZJ};have q2:xg g.fail=true:=(by simpa using q2);refine ZW ?_;refine .zW (Nu g.repair) ?_;constructor<;>intro q3;{have q3:xg g.repair=false:=(by simpa using q3);obtain rfl:R=.bool false:=(by rw[hR];congr 1;unfold yS;rw[all_false hmem (show evS g=false by simp[evS,q3])];simp);exact ZJ};have q3:xg g.repair=true:=(by simpa using q3);refine ZW ?_;refine ZG ?_;refine⟨i+1,?_,?_,?_⟩;{exact⟨hlt,by rw[hall,hn];simp[evS,q1,q2,q3]⟩};{exact Zv wk wk};omega};have hil:i=m.evs.length:=(by have:¬i<m.evs.length:=(by simpa using h);omega);subst hil;rw[bn]at hn;have a1:=hn;clear h hi hn;refine ZW ?_;refine qW.of <| qN.inv (.refl _ _) (fun(i:Nat)=>i<=m.pages.length/\(m.pages.take i).all (λp=>NJ p.gates)=true) (fun(i:Nat)=>[(76,.int .i64 i)]) (λ_=>_) (fun(i:Nat)=>m.pages.length-i) 0 ?_ (λ_=>rfl) ?_ ?_;{exact⟨aP _,ak⟩};{exact wk};rintro i ⟨hi,hn⟩ _;refine ZS ?_ ?_<;>intro h;{have hlt:i<m.pages.length:=(by simpa using h);have hall:=Fg (p:=λp:Pg=>NJ p.gates) hlt;have hmem:=aN hlt;refine ZW ?_;refine sH hlt ?_;generalize m.pages[i]=g at *;refine ZW ?_;refine .zW (b5H g.gates _ rfl) ?_;constructor<;>intro q1;{have q1:NJ g.gates=false:=(by simpa using q1);obtain rfl:R=.bool false:=(by rw[hR];congr 1;unfold yS;rw[all_false (p:=λp:Pg=>NJ p.gates) hmem q1];simp);exact ZJ};have q1:NJ g.gates=true:=(by simpa using q1);refine ZW ?_;refine ZG ?_;refine⟨i+1,?_,?_,?_⟩;{exact⟨hlt,by rw[hall,hn];simp[q1]⟩};{exact Zv wk wk};omega};have hil:i=m.pages.length:=(by have:¬i<m.pages.length:=(by simpa using h);omega);subst hil;rw[bn]at hn;have a2:=hn;clear h hi hn;refine ZW ?_;refine qW.of <| qN.inv (.refl _ _) (fun(i:Nat)=>i<=m.y8.length/\(m.y8.take i).all grS=true) (fun(i:Nat)=>[(88,.int .i64 i)]) (λ_=>_) (fun(i:Nat)=>m.y8.length-i) 0 ?_ (λ_=>rfl) ?_ ?_;{exact⟨aP _,ak⟩};{exact wk};rintro i ⟨hi,hn⟩ _;refine ZS ?_ ?_<;>intro h;{have hlt:i<m.y8.length:=(by simpa using h);have hall:=Fg (p:=grS) hlt;have hmem:=aN hlt;refine ZW ?_;refine sH hlt ?_;generalize m.y8[i]=g at *;refine ZS ?_ ?_<;>intro q1;{have q1:¬g.mem.length<=60:=(by simp only[aC]at q1;omega);obtain rfl:R=.bool false:=(by rw[hR];congr 1;unfold yS;rw[all_false hmem (show grS g=false by simp[grS,q1])];simp);exact ZJ};have q1:g.mem.length<=60:=(by simp only[aC]at q1;omega);refine ZS ?_ ?_<;>intro q2;{have q2:¬g.BX.length<=60:=(by simp only[aC]at q2;omega);obtain rfl:R=.bool false:=(by rw[hR];congr 1;unfold yS;rw[all_false hmem (show grS g=false by simp[grS,q2])];simp);exact ZJ};have q2:g.BX.length<=60:=(by simp only[aC]at q2;omega);refine ZW ?_;refine qW.of <| qN.inv (.refl _ _) (fun(j:Nat)=>j<=g.BX.length/\(g.BX.take j).all xg=true) (fun(j:Nat)=>[(105,.int .i64 j)]) (λ_=>_) (fun(j:Nat)=>g.BX.length-j) 0 ?_ (λ_=>rfl) ?_ ?_;{exact⟨aP _,ak⟩};{exact wk};rintro j ⟨hj,tC⟩ _;refine ZS ?_ ?_<;>intro hh;{have hjl:j<g.BX.length:=(by simpa using hh);have b2J:=Fg (p:=xg) hjl;have hmj:=aN hjl;refine ZW ?_;refine sH hjl ?_;generalize g.BX[j]=r at *;refine ZW ?_;refine .zW (Nu r) ?_;constructor<;>intro q3;{have q3:xg r=false:=(by simpa using q3);obtain rfl:R=.bool false:=(by rw[hR];congr 1;unfold yS;rw[all_false hmem (show grS g=false by simp[grS,all_false hmj q3])];simp);exact ZJ};have q3:xg r=true:=(by simpa using q3);refine ZW ?_;refine ZG ?_;refine⟨j+1,?_,?_,?_⟩;{exact⟨hjl,by rw[b2J,tC,q3];rfl⟩};{exact Zv wk wk};omega};have hjl:j=g.BX.length:=(by have:¬j<g.BX.length:=(by simpa using hh);omega);subst hjl;rw[bn]at tC;refine ZW ?_;refine ZG ?_;refine⟨i+1,?_,?_,?_⟩;{exact⟨hlt,by rw[hall,hn];simp[grS,q1,q2,tC]⟩};{exact Zv wk wk};omega};have hil:i=m.y8.length:=(by have:¬i<m.y8.length:=(by simpa using h);omega);subst hil;rw[bn]at hn;have a3:=hn;clear h hi hn;refine ZW ?_;refine qW.of <| qN.inv (.refl _ _) (fun(i:Nat)=>i<=m.zS.length/\(m.zS.take i).all phS=true) (fun(i:Nat)=>[(117,.int .i64 i)]) (λ_=>_) (fun(i:Nat)=>m.zS.length-i) 0 ?_ (λ_=>rfl) ?_ ?_;{exact⟨aP _,ak⟩};{exact wk};rintro i ⟨hi,hn⟩ _;refine ZS ?_ ?_<;>intro h;{have hlt:i<m.zS.length:=(by simpa using h);have hall:=Fg (p:=phS) hlt;have hmem:=aN hlt;refine ZW ?_;refine sH hlt ?_;generalize m.zS[i]=g at *;refine ZS ?_ ?_<;>intro q1;{have q1:¬g.vals.length<=60:=(by simp only[aC]at q1;omega);obtain rfl:R=.bool false:=(by rw[hR];congr 1;unfold yS;rw[all_false hmem (show phS g=false by simp[phS,q1])];simp);exact ZJ};have q1:g.vals.length<=60:=(by simp only[aC]at q1;omega);refine ZW ?_;refine qW.of <| qN.inv (.refl _ _) (fun(j:Nat)=>j<=g.vals.length/\(g.vals.take j).all (λv=>xg v.p)=true) (fun(j:Nat)=>[(128,.int .i64 j)]) (λ_=>_) (fun(j:Nat)=>g.vals.length-j) 0 ?_ (λ_=>rfl) ?_ ?_;{exact⟨aP _,ak⟩};{exact wk};rintro j ⟨hj,tC⟩ _;refine ZS ?_ ?_<;>intro hh;{have hjl:j<g.vals.length:=(by simpa using hh);have b2J:=Fg (p:=λv:Pv=>xg v.p) hjl;have hmj:=aN hjl;refine ZW ?_;refine sH hjl ?_;generalize g.vals[j]=r at *;refine ZW ?_;refine .zW (Nu r.p) ?_;constructor<;>intro q3;{have q3:xg r.p=false:=(by simpa using q3);have q4:=all_false (p:=λv:Pv=>xg v.p) hmj q3;obtain rfl:R=.bool false:=(by rw[hR];congr 1;unfold yS;rw[all_false hmem (show phS g=false by unfold phS;rw[q4];simp)];simp);exact ZJ};have q3:xg r.p=true:=(by simpa using q3);refine ZW ?_;refine ZG ?_;refine⟨j+1,?_,?_,?_⟩;{exact⟨hjl,by rw[b2J,tC,q3];rfl⟩};{exact Zv wk wk};omega};have hjl:j=g.vals.length:=(by have:¬j<g.vals.length:=(by simpa using hh);omega);subst hjl;rw[bn]at tC;refine ZW ?_;refine ZG ?_;refine⟨i+1,?_,?_,?_⟩;{exact⟨hlt,by rw[hall,hn];unfold phS;rw[tC];simp[q1]⟩};{exact Zv wk wk};omega};have hil:i=m.zS.length:=(by have:¬i<m.zS.length:=(by simpa using h);omega);subst hil;rw[bn]at hn;obtain rfl:R=.bool true:=(by rw[hR];congr 1;unfold yS;rw[a1,a2,a3,hn,h6];simp[h1,h2,h3,h4,h5]);exact ZJ
theorem b2P{l:List Mg}(h:NJ l=true):l.length<=100/\(∀x∈l,x.ins.length<=40)/\mgC l:=by unfold NJ at h;simp only[aK,bT]at h;refine⟨h.2,λx hx=>?_,λx hx=>?_⟩;{have:=bD.1 h.1 x hx;simp only[YQ,aK,bT]at this;exact this.1};have:=bD.1 h.1 x hx;simp only[YQ,aK,bT]at this;exact I5 this.2
theorem a9f{m:Md}(h:yS m=true):KI m/\MdC m:=by unfold yS at h;simp only[aK,bT]at h;obtain⟨⟨⟨⟨⟨⟨⟨⟨⟨h1,h2⟩,h3⟩,h4⟩,h5⟩,h6⟩,h7⟩,h8⟩,h9⟩,h10⟩:=h;have f6:=b2P h6;refine⟨⟨h1,h2,⟨f6.1,f6.2.1⟩,h3,λp hp=>?_,h4,λg hg=>?_,h5,λp hp=>?_⟩,⟨λx hx=>?_,f6.2.2,λp hp=>?_,λg hg f hf=>?_,λp hp v hv=>?_⟩⟩;{have:=b2P (bD.1 h8 p hp);exact⟨this.1,this.2.1⟩};{have:=bD.1 h9 g hg;simp only[grS,aK,bT]at this;exact this.1};{have:=bD.1 h10 p hp;simp only[phS,aK,bT]at this;exact this.1};{have:=bD.1 h7 x hx;simp only[evS,aK]at this;exact⟨I5 this.1.1,I5 this.1.2,I5 this.2⟩};{exact(b2P (bD.1 h8 p hp)).2.2};{have:=bD.1 h9 g hg;simp only[grS,aK,bT]at this;exact I5 (bD.1 this.2 f hf)};have:=bD.1 h10 p hp;simp only[phS,aK,bT]at this;exact I5 (bD.1 this.2 v hv)
end S
open Go Go.AL Go.Proofs
namespace Go.AL
section
variable{P:Program}{ops:Array Oper}{Q:Exit->Act->World->Prop}{a:Act}{w:World}{o:Oper}{l:List Oper}
end
end Go.AL
namespace S
set_option maxRecDepth 100000
end S
open Go Go.AL Go.Proofs
namespace Go.AL
section
variable{P:Program}{L:Lay}{ops:Array Oper}{Q:Exit->Act->World->Prop}{a:Act}{w:World}{o:Oper}{l:List Oper}
end
end Go.AL
namespace S
set_option maxRecDepth 100000
section
variable{w:World}{Im:Nat->Nat->Prop}
end
end S