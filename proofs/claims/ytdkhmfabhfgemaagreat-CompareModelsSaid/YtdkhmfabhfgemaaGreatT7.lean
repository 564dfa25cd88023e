/-
  Contracts of functions of the program. Nothing is assumed.
-/
import Derived.Test.YtdkhmfabhfgemaaGreatT6
open Go Go.AL Go.Proofs
namespace S
set_option maxRecDepth 100000
theorem b55{i:Nat}(h:5<=i):ix [0,1,2,3,4] i=none:=by
 match i,h with
 |k+5,_=>rfl
theorem a4S{n:Nat}{G Y:Heap}:∀{X:Heap},(∀x∈X,5<=x.1)->Ci [0,1,2,3,4] n G (X++Y)=X++Ci [0,1,2,3,4] n G Y
 | [],_=>rfl
 |(i,o)::X,h=>by have hi:=h (i,o) ak;simp only[eX,Ci,b55 hi];rw[a4S λx hx=>h x (by simp[hx])]
theorem a2D{n:Nat}{k:HO->Prop}{Y:Heap}(hn:n<5):∀{X:Heap},(∀x∈X,5<=x.1)->(yh (X++Y) n k↔yh Y n k)
 | [],_=>jr
 | (i,o)::X,h=>by
   have hi:=h (i,o) ak;have:Nat.beq i n=false:=by
    cases hb:Nat.beq i n with
    |false=>rfl
    |true=>have:=aK hb;simp at hi;omega
   simp only[eX,yh,this];exact a2D hn λx hx=>h x (by simp[hx])
theorem a5C{T:Tb}{X:Heap}(h:∀x∈X,5<=x.1):5<=nextId (X++yT T):=by
 cases X with
 |nil=>exact aS _
 |cons x X=>have:=h x ak;obtain⟨i,o⟩:=x;simp[nextId]at this ⊢;omega
theorem Oc{f:Nat}{args:List AV}{R:AV}{T T':Tb}(X:Heap)(hX:∀x∈X,5<=x.1)(h:ZQ f args (yT T) R (yT T'))
  (ha:∀n,Us (sg [0,1,2,3,4] n) args=args) (hR:∀n,yO (sg [0,1,2,3,4] n) R=R) (hb:vT 5 args=true) :
  ZQ f args (X++yT T) R (X++yT T'):=by
 have hn:=a5C (T:=T) hX;have h1:∀(k:Nat),k<5->∀(q:HO->Prop),yh (X++yT T) k q↔yh (yT T) k q:=λk hk q=>a2D hk hX;have:=qX.frame (H:=X++yT T) (args:=args) [0,1,2,3,4] h ⟨?_,rfl,rfl,hb⟩ ?_ (by rw[ha];exact rM _);{rw[hR]at this;have e:Rj [0,1,2,3,4] (yT T') (X++yT T)=X++yT T':=(by unfold Rj;rw[a4S hX];show X++Ci _ _ _ _=_;congr 1;show[(4,HO.tN Ri (Zm _ (xM T'.memo))),(3,HO.tN Ri (Zm _ (xM T'.uq))),_,_,_]=_;rw[Gf,Gf];rfl);rwa[e]at this};{have:∀k,k<5->Nat.blt k (nextId (X++yT T))=true:=λk hk=>(by exact gU aj);simp only[KA,this 0 au,this 1 au,this 2 au,this 3 au,this 4 au]};refine⟨(h1 4 au _).2 ⟨⟨rfl,JK _ _⟩,qP _ _⟩,(h1 3 au _).2 ⟨⟨rfl,JK _ _⟩,qP _ _⟩,(h1 2 au _).2 ⟨⟨rfl,rfl⟩,rfl⟩,(h1 1 au _).2 ⟨⟨rfl,rfl,qU _⟩,rfl⟩,(h1 0 au _).2 ⟨?_,rfl⟩,trivial⟩;exact tV _
theorem RU{T:Tb}(h:tH T){r L:Int}(hr:T.Rf r)(_:0<=L)(hL:L<=T.lvl r)(hn:L<T.n) :
  T.Rf (T.kids r L).1/\T.Rf (T.kids r L).2/\L<T.lvl (T.kids r L).1/\L<T.lvl (T.kids r L).2 /\
  ∀s,ev T.nodes s r=if s (T.order.getD L.toNat 0)then ev T.nodes s (T.kids r L).2 else ev T.nodes s (T.kids r L).1:=by
 unfold Tb.kids;by_cases he:T.lvl r≠L;{rw[aG he];exact⟨hr,hr,by show L<T.lvl r;omega,by show L<T.lvl r;omega,λs=>ak⟩};rw[aB he];have he:T.lvl r=L:=(by simpa using he);have hr2:¬r<2:=by intro h;have:T.lvl r=T.n:=aG h;omega
 obtain⟨k1,k2,k3,k4,_⟩:=h.kid hr aj;have hv:T.order.getD L.toNat 0=(T.node r).1:=(by have e:T.lvl r=T.pl (T.node r).1:=aB hr2;have g:=(h.at hr aj).1;have:=(h.plc _ g.v.1 g.v.2).2.2;rw[<- e,he]at this;exact this);rw[hv];exact⟨k1,k2,by rw[<- he];exact k3,by rw[<- he];exact k4,(h.at hr aj).2⟩
theorem a5L{T:Tb}(h:tH T){c a b r:Int}(g:T.Rf c/\T.Rf a/\T.Rf b/\T.Rf r/\min (min (T.lvl c) (T.lvl a)) (T.lvl b)<=T.lvl r/\∀s,ev T.nodes s r=if ev T.nodes s c then ev T.nodes s a else ev T.nodes s b) :
  tH { T with memo:=mark T.memo (c,a,b) r }:=by
 refine⟨h.small,h.OC,h.ord,h.plc,λk hk=>?_,h.uq,λc' a' b' r' hm=>?_⟩;{have g:=h.nodes k hk;exact⟨g.v,g.lo,g.hi,g.ne,g.llo,g.lhi⟩};rw[CG]at hm;split at hm;{rename_i e;obtain rfl:=aW hm;injection e with e1 e2;injection e2 with e2 e3;subst e1 e2 e3;exact g};exact h.memo _ _ _ _ hm
structure ChP(T T':Tb)(r L:Int)(f:(Int->Bool)->Bool):Prop where
 good:tH T'
 ext:Xt T T'
 rf:T'.Rf r
 lvl:L<=T'.lvl r
 val:∀s,ev T'.nodes s r=f s
theorem SE(T:Tb)(hT:tH T)(c a b:Int)(hc:T.Rf c)(ha:T.Rf a)(hb:T.Rf b)(e:c=1\/a=b\/c=0\/(a=1/\b=0)) :
  ∃ r,ZQ 119 [.ptr 0 [] 0,.int .i64 c,.int .i64 a,.int .i64 b] (yT T) (.int .i64 r) (yT T) /\
    ChP T T r (min (min (T.lvl c) (T.lvl a)) (T.lvl b)) (λs=>if ev T.nodes s c then ev T.nodes s a else ev T.nodes s b):=by
 by_cases e1:c=1
 ·subst e1;refine⟨a,?_,⟨hT,.refl _,ha,aj,λs=>rfl⟩⟩;refine ZN Tryz.func119 λhok=>?_;refine aP (λ_=>?_) (λh=>absurd rfl h);refine ZW ?_;refine ZE ?_ ?_
  ·repeat' first|exact Zq|apply aI
   all_goals first|(rw[aC];done)|skip
  repeat' first|exact Zq|apply aI
  all_goals first|exact qO _|exact qP _ _|(show sS _ (List.map _ (_++[_]));rw[aV];exact qU _)|(simp;done)|skip
 by_cases e2:a=b
 ·subst e2;refine⟨a,?_,⟨hT,.refl _,ha,aj,λs=>ak⟩⟩;refine ZN Tryz.func119 λhok=>?_;refine aP (λh=>absurd h e1) (λ_=>ZW ?_);refine aP (λ_=>?_) (λh=>absurd rfl h);refine ZW ?_;refine ZE ?_ ?_
  ·repeat' first|exact Zq|apply aI
   all_goals first|(rw[aC];done)|skip
  repeat' first|exact Zq|apply aI
  all_goals first|exact qO _|exact qP _ _|(show sS _ (List.map _ (_++[_]));rw[aV];exact qU _)|(simp;done)|skip
 by_cases e3:c=0
 ·subst e3;refine⟨b,?_,⟨hT,.refl _,hb,aj,λs=>rfl⟩⟩;refine ZN Tryz.func119 λhok=>?_;refine aP (λh=>absurd h e1) (λ_=>ZW ?_);refine aP (λh=>absurd h e2) (λ_=>ZW ?_);refine aP (λ_=>?_) (λh=>absurd rfl h);refine ZW ?_;refine ZE ?_ ?_
  ·repeat' first|exact Zq|apply aI
   all_goals first|(rw[aC];done)|skip
  repeat' first|exact Zq|apply aI
  all_goals first|exact qO _|exact qP _ _|(show sS _ (List.map _ (_++[_]));rw[aV];exact qU _)|(simp;done)|skip
 have e4:a=1/\b=0:=(by rcases e with h|h|h|h;{exact absurd h e1};{exact absurd h e2};{exact absurd h e3};exact h);obtain⟨rfl,rfl⟩:=e4;refine⟨c,?_,⟨hT,.refl _,hc,aj,λs=>by rw[OX,F9];cases ev T.nodes s c <;> rfl⟩⟩;refine ZN Tryz.func119 λhok=>?_;refine aP (λh=>absurd h e1) (λ_=>ZW ?_);refine aP (λh=>absurd h e2) (λ_=>ZW ?_);refine aP (λh=>absurd h e3) (λ_=>ZW ?_);refine aP (λ_=>?_) (λh=>absurd rfl h);refine ZW ?_;refine aP (λ_=>?_) (λh=>absurd rfl h);refine ZW ?_;refine ZE ?_ ?_
 ·repeat' first|exact Zq|apply aI
  all_goals first|(rw[aC];done)|skip
 repeat' first|exact Zq|apply aI
 all_goals first|exact qO _|exact qP _ _|(show sS _ (List.map _ (_++[_]));rw[aV];exact qU _)|(simp;done)|skip
theorem Gt(d:Nat):∀(T:Tb),tH T->∀(c a b:Int),T.Rf c->T.Rf a->T.Rf b->T.n-min (min (T.lvl c) (T.lvl a)) (T.lvl b)<=d->T.nodes.length+2^d<=1000000000 ->
  ∃ T' r,ZQ 119 [.ptr 0 [] 0,.int .i64 c,.int .i64 a,.int .i64 b] (yT T) (.int .i64 r) (yT T') /\
    ChP T T' r (min (min (T.lvl c) (T.lvl a)) (T.lvl b)) (λs=>if ev T.nodes s c then ev T.nodes s a else ev T.nodes s b)/\T'.nodes.length+1<=T.nodes.length+2^d:=by
 induction d with
 | zero =>
   intro T hT c a b hc ha hb hd hN;have hc2:c<2:=by have:=hT.kid hc;omega
   have:=hc.1;obtain⟨r,h1,h2⟩:=SE T hT c a b hc ha hb aj;exact⟨T,r,h1,h2,ak⟩
 | succ d ih =>
   intro T hT c a b hc ha hb hd hN;have h2d:0<2^d:=gK au;have h2e:2^(d+1)=2^d+2^d:=by rw[bU];omega
   by_cases he:c=1\/a=b\/c=0\/(a=1/\b=0);{obtain⟨r,h1,h2⟩:=SE T hT c a b hc ha hb he;exact⟨T,r,h1,h2,aj⟩};have e1:¬c=1:=λh=>he (.inl h);have e2:¬a=b:=λh=>he (.inr (.inl h));have e3:¬c=0:=λh=>he (.inr (.inr (.inl h)));have e4:¬(a=1/\b=0):=λh=>he (.inr (.inr (.inr h)));cases hl:lookO T.memo (c,a,b)with
   | some r =>
     obtain⟨_,_,_,g4,g5,g6⟩:=hT.memo _ _ _ _ hl;refine⟨T,r,?_,⟨hT,.refl _,g4,g5,g6⟩,aj⟩;refine ZN Tryz.func119 λhok=>?_;refine aP (λh=>absurd h e1) (λ_=>ZW ?_);refine aP (λh=>absurd h e2) (λ_=>ZW ?_);refine aP (λh=>absurd h e3) (λ_=>?_);refine ZS ?_ ?_<;>intro h
     ·refine ZW ?_;refine aP (λh'=>absurd ⟨h,h'⟩ e4) (λ_=>ZW ?_);refine ZR ?_;refine O9 (x:=(c,a,b)) hl (ZW ?_);refine ZE ?_ ?_
      ·repeat' first|exact Zq|apply aI
       all_goals first|(rw[aC];done)|skip
      repeat' first|exact Zq|apply aI
      all_goals first|exact qO _|exact qP _ _|(show sS _ (List.map _ (_++[_]));rw[aV];exact qU _)|(simp;done)|skip
     refine ZW ?_;refine ZR ?_;refine O9 (x:=(c,a,b)) hl (ZW ?_);refine ZE ?_ ?_
     ·repeat' first|exact Zq|apply aI
      all_goals first|(rw[aC];done)|skip
     repeat' first|exact Zq|apply aI
     all_goals first|exact qO _|exact qP _ _|(show sS _ (List.map _ (_++[_]));rw[aV];exact qU _)|(simp;done)|skip
   | none =>
     generalize hL:min (min (T.lvl c) (T.lvl a)) (T.lvl b)=L at *;have hc2:2<=c:=(by have:=hc.1;omega);have hcn:=hT.kid hc hc2;have hLc:L<=T.lvl c:=aj;have hLa:L<=T.lvl a:=aj;have hLb:L<=T.lvl b:=aj;have hLn:L<T.n:=aj;have hL0:0<=L:=(by have:=hT.F7 ha;have:=hT.F7 hb;omega);obtain⟨c1,c2,c3,c4,c5⟩:=RU hT hc hL0 hLc hLn;obtain⟨a1,a2,a3,a4,a5⟩:=RU hT ha hL0 hLa hLn;obtain⟨b1,b2,b3,b4,b5⟩:=RU hT hb hL0 hLb hLn;have qc:=a1B T hT aj c L hc hLn;have qa:=a1B T hT aj a L ha hLn;have qb:=a1B T hT aj b L hb hLn;generalize T.kids c L=kc at *;generalize T.kids a L=ka at *;generalize T.kids b L=kb at *;obtain⟨T1,lo,f1,p1,n1⟩:=ih T hT kc.1 ka.1 kb.1 c1 a1 b1 aj aj;have x1:=p1.ext;obtain⟨T2,hi,f2,p2,n2⟩:=ih T1 p1.good kc.2 ka.2 kb.2 (x1.rf c2) (x1.rf a2) (x1.rf b2) (by rw[x1.n,x1.lvl c2,x1.lvl a2,x1.lvl b2];omega) aj;rw[x1.lvl c2,x1.lvl a2,x1.lvl b2]at p2;have x2:=p2.ext;have x12:=x1.trans x2;obtain⟨o1,o2,o3⟩:=hT.ord L hL0 hLn;have hlo:T2.Rf lo:=x2.rf p1.rf;have b7K:T2.lvl lo=T1.lvl lo:=x2.lvl p1.rf;have ZT:T2.order=T.order:=x12.order;have m:=Nj p2.good (v:=T2.order.getD L.toNat 0) (lo:=lo) (hi:=hi) (by rw[x12.n,ZT];exact⟨o1,o2⟩) hlo p2.rf
      (by rw[x12.pl,ZT,o3,b7K];have:=p1.lvl;omega) (by rw[x12.pl,ZT,o3];have:=p2.lvl;omega)
     have qm:=a1A T2 (T2.order.getD L.toNat 0) lo hi aj;have hL2:0<=L/\L<(T2.order.length:Int):=(by rw[ZT];exact⟨hL0,hLn⟩);generalize T2.make (T2.order.getD L.toNat 0) lo hi=q at *;obtain⟨T3,r⟩:=q;obtain⟨m1,m2,m3,m4,m5,m6,m7⟩:=m;dsimp only at m1 m2 m3 m4 m5 m6 m7 qm;rw[ZT]at m4;simp only[ZT]at m7;have x3:=x12.trans m2;have hval:∀s,ev T3.nodes s r=if ev T.nodes s c then ev T.nodes s a else ev T.nodes s b:=(by intro s;rw[m7 s,p2.val s,x2.ev p1.rf,p1.val s,x1.ev c2,x1.ev a2,x1.ev b2,c5 s,a5 s,b5 s];by_cases hs:s (T.order.getD L.toNat 0)=true;{simp only[aG hs]};simp only[aB hs]);have hLr:L<=T3.lvl r:=(by rw[x12.pl,o3]at m4;exact m4);have g4:=a5L m1 (c:=c) (a:=a) (b:=b) (r:=r) ⟨x3.rf hc,x3.rf ha,x3.rf hb,m3,by rw[x3.lvl hc,x3.lvl ha,x3.lvl hb,hL];exact hLr,λs=>by rw[hval s,x3.ev hc,x3.ev ha,x3.ev hb]⟩;have x4:Xt T { T3 with memo:=mark T3.memo (c,a,b) r }:=x3.trans ⟨rfl,rfl,[],ak⟩;refine⟨{ T3 with memo:=mark T3.memo (c,a,b) r },r,?_,⟨g4,x4,m3,hLr,hval⟩,by show T3.nodes.length+1<=_;omega⟩;have hord:T3.order=T.order:=x3.order;have ql:=EY T hT aj c hc;have ql2:=EY T hT aj a ha;have ql3:=EY T hT aj b hb;clear ih;refine ZN Tryz.func119 λhok=>?_;refine aP (λh=>absurd h e1) (λ_=>ZW ?_);refine aP (λh=>absurd h e2) (λ_=>ZW ?_);refine aP (λh=>absurd h e3) (λ_=>?_);refine ZS ?_ ?_<;>intro h
     ·refine ZW ?_;refine aP (λh'=>absurd ⟨h,h'⟩ e4) (λ_=>ZW ?_);refine ZR ?_;refine Pj (x:=(c,a,b)) hl (ZW ?_);refine .gen _ _ (Oc [(5,_)] ak ql (λ_=>rfl) (λ_=>rfl) rfl) λ_=>ZW ?_;refine .gen _ _ (Oc [(5,_)] ak ql2 (λ_=>rfl) (λ_=>rfl) rfl) λ_=>ZW ?_;refine .gen _ _ (Oc [(5,_)] ak ql3 (λ_=>rfl) (λ_=>rfl) rfl) λ_=>ZW ?_;rw[hL];refine .gen _ _ (Oc [(5,_)] ak qc (λ_=>rfl) (λ_=>rfl) rfl) λ_=>ZW ?_;refine .gen _ _ (Oc [(5,_)] ak qa (λ_=>rfl) (λ_=>rfl) rfl) λ_=>ZW ?_;refine .gen _ _ (Oc [(5,_)] ak qb (λ_=>rfl) (λ_=>rfl) rfl) λ_=>ZW ?_;refine .gen _ _ (Oc [(5,_)] ak f1 (λ_=>rfl) (λ_=>rfl) rfl) λ_=>ZW ?_;refine .gen _ _ (Oc [(5,_)] ak f2 (λ_=>rfl) (λ_=>rfl) rfl) λ_=>ZW ?_;refine sK 0 hL2 (ZW ?_);refine .gen _ _ (Oc [(5,_)] ak qm (λ_=>rfl) (λ_=>rfl) rfl) λ_=>ZW ?_;refine ZR ?_;refine NC (x:=(c,a,b)) (ZW ?_);refine ZE ?_ ?_
      ·repeat' first|exact Zq|apply aI
       all_goals first|(rw[aC];done)|skip
      repeat' first|exact Zq|apply aI
      all_goals first|exact qO _|exact qP _ _|(show sS _ (List.map _ (_++[_]));rw[aV];exact qU _)|(simp;done)|skip
     refine ZW ?_;refine ZR ?_;refine Pj (x:=(c,a,b)) hl (ZW ?_);refine .gen _ _ (Oc [(5,_)] ak ql (λ_=>rfl) (λ_=>rfl) rfl) λ_=>ZW ?_;refine .gen _ _ (Oc [(5,_)] ak ql2 (λ_=>rfl) (λ_=>rfl) rfl) λ_=>ZW ?_;refine .gen _ _ (Oc [(5,_)] ak ql3 (λ_=>rfl) (λ_=>rfl) rfl) λ_=>ZW ?_;rw[hL];refine .gen _ _ (Oc [(5,_)] ak qc (λ_=>rfl) (λ_=>rfl) rfl) λ_=>ZW ?_;refine .gen _ _ (Oc [(5,_)] ak qa (λ_=>rfl) (λ_=>rfl) rfl) λ_=>ZW ?_;refine .gen _ _ (Oc [(5,_)] ak qb (λ_=>rfl) (λ_=>rfl) rfl) λ_=>ZW ?_;refine .gen _ _ (Oc [(5,_)] ak f1 (λ_=>rfl) (λ_=>rfl) rfl) λ_=>ZW ?_;refine .gen _ _ (Oc [(5,_)] ak f2 (λ_=>rfl) (λ_=>rfl) rfl) λ_=>ZW ?_;refine sK 0 hL2 (ZW ?_);refine .gen _ _ (Oc [(5,_)] ak qm (λ_=>rfl) (λ_=>rfl) rfl) λ_=>ZW ?_;refine ZR ?_;refine NC (x:=(c,a,b)) (ZW ?_);refine ZE ?_ ?_
     ·repeat' first|exact Zq|apply aI
      all_goals first|(rw[aC];done)|skip
     repeat' first|exact Zq|apply aI
     all_goals first|exact qO _|exact qP _ _|(show sS _ (List.map _ (_++[_]));rw[aV];exact qU _)|(simp;done)|skip
mutual
theorem Rx{σ:Nat->Nat}{m:Nat}(hσ:∀k,k<m->σ k=k):∀(A:AV),tq m A=true->yO σ A=A
 | .bool _,_ | .tt,_ | .ff,_ | .dec _,_ | .int _ _,_ | .str _,_ | .vJ,_ | .qW,_ | .cp _,_ | .vW,_ | .ru,_ | .zq,_ | .und,_ | .sl _ _ .no,_ | .sl _ _ .full,_=>rfl
 | .uV t x,h=>by simp only[yO];rw[Rx hσ x (by simpa only[tq]using h)]
 | .sl _ _ (.own k),h=>by simp only[tq]at h;simp only[yO];rw[hσ k (bI h)]
 | .ms k _ _ _ _,h=>by simp only[tq]at h;simp only[yO];rw[hσ k (bI h)]
 | .ptr k _ _,h=>by simp only[tq]at h;simp only[yO];rw[hσ k (bI h)]
 | .mp k,h=>by simp only[tq]at h;simp only[yO];rw[hσ k (bI h)]
 | .gs k _,h=>by simp only[tq]at h;simp only[yO];rw[hσ k (bI h)]
 | .bm _ k,h=>by simp only[tq]at h;simp only[yO];rw[hσ k (bI h)]
 | .ag l,h=>by simp only[yO];rw[VW hσ l (by simpa only[tq]using h)]
 | .uf l,h=>by simp only[yO];rw[VW hσ l (by simpa only[tq]using h)]
 | .fn _ cap,h=>by simp only[yO];rw[VW hσ cap (by simpa only[tq]using h)]
theorem VW{σ:Nat->Nat}{m:Nat}(hσ:∀k,k<m->σ k=k):∀(l:List AV),vT m l=true->Us σ l=l
 | [],_=>rfl
 | x::l,h=>by
   simp only[vT]at h;cases hx:tq m x with
   |false=>rw[hx]at h;cases h
   |true=>rw[hx]at h;simp only[Us];rw[Rx hσ x hx,VW hσ l h]
end
theorem a5n{σ:Nat->Nat}{m:Nat}(hσ:∀k,k<m->σ k=k):∀(l:List (AV×AV)),EZ m l=true->Zm σ l=l
 | [],_=>rfl
 | (x,y)::l,h=>by
   simp only[EZ]at h;cases hx:tq m x with
   |false=>rw[hx]at h;cases h
   | true =>
     cases hy:tq m y with
     |false=>rw[hx,hy]at h;cases h
     |true=>rw[hx,hy]at h;simp only[Zm];rw[Rx hσ x hx,Rx hσ y hy,a5n hσ l h]
def b0r(m:Nat):Heap->Prop
 | []=>True
 |(_,o)::H=>(match o with | .tN _ es=>EZ m es=true|o=>Uz m o=true)/\b0r m H
theorem b0r.mem{m:Nat}:∀{H:Heap},b0r m H->∀k o,(k,o)∈H->(match o with | .tN _ es=>EZ m es=true|o=>Uz m o=true)
 | [],_,_,_,h=>by simp at h
 |(i,x)::H,h,k,o,hm=>by rcases aT.1 hm with e|e;{injection e with e1 e2;subst e2;exact h.1};exact h.2.mem k o e
theorem b0x{σ:Nat->Nat}{m:Nat}(hσ:∀k,k<m->σ k=k){o:HO}(h:match o with | .tN _ es=>EZ m es=true|o=>Uz m o=true):rnO σ o=o:=by
 cases o with
 |box A=>simp only[rnO];rw[Rx hσ A h]
 |tN sh es=>simp only[rnO];rw[a5n hσ es h]
 |_=>rfl
theorem Qk:∀{m:Nat} {H:Heap},Az m H=true->∀k o,(k,o)∈H->k<m
 | 0,[],_,_,_,h=>by simp at h
 | 0,_::_,h,_,_,_=>by simp[Az]at h
 |_+1,[],h,_,_,_=>by simp[Az]at h
 | m+1,(i,x)::H,h,k,o,hm=>by
   simp only[Az]at h;cases hb:Nat.beq i m with
   |false=>rw[hb]at h;cases h
   |true =>rw[hb]at h;have:=aK hb;rcases aT.1 hm with e|e;{injection e with e1 e2;omega};have:=Qk h k o e;omega
theorem Xc:∀{m:Nat} {H:Heap},Az m H=true->∀k o,(k,o)∈H->hget H k=some o
 | 0,[],_,_,_,h=>by simp at h
 | 0,_::_,h,_,_,_=>by simp[Az]at h
 |_+1,[],h,_,_,_=>by simp[Az]at h
 | m+1,(i,x)::H,h,k,o,hm=>by
   simp only[Az]at h;cases hb:Nat.beq i m with
   |false=>rw[hb]at h;cases h
   | true =>
     rw[hb]at h;have hi:=aK hb;simp only[hget];rcases aT.1 hm with e|e;{injection e with e1 e2;subst e1 e2;simp};have:=Qk h k o e;have hbk:Nat.beq i k=false:=by
      cases hb:Nat.beq i k with
      |false=>rfl
      |true=>have:=aK hb;omega
     rw[hbk];exact Xc h k o e
theorem a2z{m i:Nat}:ix (List.range m) i=if i<m then some i else none:=by
 cases h:ix (List.range m) i with
 |some k =>obtain⟨hk,e⟩:=UR h;have hk':k<m:=(by simpa using hk);rw[nT]at e;rw[aG aj,e]
 |none =>have:=a1k h;rw[aB (by simpa using this)]
theorem a8s{m n k:Nat}(h:k<m):sg (List.range m) n k=k:=by rw[a5k (by simpa using h),nT]
theorem a1Z{m n:Nat}{G Y:Heap}:∀{X:Heap},(∀x∈X,m<=x.1)->Ci (List.range m) n G (X++Y)=X++Ci (List.range m) n G Y
 | [],_=>rfl
 |(i,o)::X,h=>by have hi:=h (i,o) ak;simp only[eX,Ci,a2z];rw[aB (Nat.not_lt.2 hi),a1Z λx hx=>h x (by simp[hx])]
theorem Y5{m n:Nat}{G:Heap}:∀{j:Nat} {Hs Gs:Heap},j<=m->Az j Hs=true->Az j Gs=true->(∀i o,(i,o)∈Gs->hget G i=some o/\rnO (sg (List.range m) n) o=o)->Ci (List.range m) n G Hs=Gs
 | 0,[],[],_,_,_,_=>rfl
 | 0,_::_,_,_,h,_,_=>by simp[Az]at h
 | 0,[],_::_,_,_,h,_=>by simp[Az]at h
 |_+1,[],_,_,h,_,_=>by simp[Az]at h
 |_+1,_::_,[],_,_,h,_=>by simp[Az]at h
 | j+1,(i,o)::Hs,(i',o')::Gs,hj,h,h',hg=>by
   simp only[Az]at h h';cases hb:Nat.beq i j with
   |false=>rw[hb]at h;cases h
   | true =>
     cases hb':Nat.beq i' j with
     |false=>rw[hb']at h';cases h'
     |true =>rw[hb]at h;rw[hb']at h';obtain rfl:=aK hb;obtain rfl:=aK hb';obtain⟨g1,g2⟩:=hg i' o' ak;simp only[Ci,a2z];rw[aG aj,Y5 aj h h' λi o hm=>hg i o (by simp[hm])];simp only[g1,g2]
theorem Nl{m n:Nat}{k:HO->Prop}{Y:Heap}(hn:n<m):∀{X:Heap},(∀x∈X,m<=x.1)->(yh (X++Y) n k↔yh Y n k)
 | [],_=>jr
 | (i,o)::X,h=>by
   have hi:=h (i,o) ak;have:Nat.beq i n=false:=by
    cases hb:Nat.beq i n with
    |false=>rfl
    |true=>have:=aK hb;simp at hi;omega
   simp only[eX,yh,this];exact Nl hn λx hx=>h x (by simp[hx])
theorem qX.top{f:Nat}{args:List AV}{R:AV}{H G:Heap}(m:Nat)(X:Heap)(hX:∀x∈X,m<=x.1)(h:ZQ f args H R G)(hf:Az m H=true/\Az m G=true)
  (hH:b0r m H) (hG:b0r m G) (hb:vT m args=true/\tq m R=true) (hl:KA (nextId (X++H)) (List.range m)=true/\nodupB (List.range m)=true):ZQ f args (X++H) R (X++G):=by
 have hσ:∀n k,k<m->sg (List.range m) n k=k:=λn k hk=>a8s hk;have hlen:(List.range m).length=m:=lH;have sub:∀K:Heap,(∀k o,(k,o)∈K->hget H k=some o/\k<m)->b0r m K->b31 (sg (List.range m) (nextId (X++H))) m (X++H) K:=by
  intro K;induction K with
  |nil=>intros;trivial
  |cons y K ih =>obtain⟨k,o⟩:=y;intro hk hB;obtain⟨g1,g2⟩:=hk k o ak;refine⟨?_,ih (λk o hm=>hk k o (by simp[hm])) hB.2⟩;rw[hσ _ k g2];refine(Nl g2 hX).2 (uh.2 ⟨o,g1,?_,hB.1⟩);rw[b0x (hσ _) hB.1];exact Qc o
 have:=qX.frame (H:=X++H) (args:=args) (List.range m) h ⟨hl.1,hl.2,by rw[hlen];exact hf.1,by rw[hlen];exact hb.1⟩
  (by rw[hlen];exact sub H (λk o hm=>⟨Xc hf.1 k o hm,Qk hf.1 k o hm⟩) hH) (by rw[VW (hσ _) args hb.1];exact rM _)
 rw[Rx (hσ _) R hb.2]at this;have e:Rj (List.range m) G (X++H)=X++G:=by
  unfold Rj;rw[a1Z hX,Y5 (aS m) hf.1 hf.2 λi o hm=>⟨Xc hf.2 i o hm,b0x (hσ _) (hG.mem i o hm)⟩];cases G with
  |nil=>rfl
  | cons y G =>
    obtain⟨k,o⟩:=y;have hk:=Qk hf.2 k o ak;simp only[newH,hlen];have:Nat.ble m k=false:=by
     cases hb:Nat.ble m k with
     |false=>rfl
     |true=>have:=bI hb;omega
    rw[this]
 rwa[e]at this
abbrev MI:=List (Int×Int)
def yP:MI->Int->Option Int
 | [],_=>none
 |(y,v)::es,x=>if y=x then some v else yP es x
def GU:MI->Int->Int->MI
 | [],x,v=>[(x,v)]
 |(y,u)::es,x,v=>if y=x then(x,v)::es else(y,u)::GU es x v
abbrev encI(es:MI):List (AV×AV):=es.map λe=>(.int .i64 e.1,.int .i64 e.2)
theorem UQ{x y:Int}:Uw (.int .i64 x)=Uw (.int .i64 y)↔x=y:=by simp[Uw]
theorem L9{es:MI}{x r:Int}{k:AV->Prop}(hl:yP es x=some r)(h:k (.uf [.int .i64 r,.tt])):FW (encI es) (.int .i64 x) λr=>DI true (.int .i64 0) r k:=by
 refine⟨some (.int .i64 r),?_,h⟩;induction es with
 |nil=>simp[yP]at hl
 |cons e es ih =>obtain⟨y,v⟩:=e;simp only[yP]at hl;by_cases hy:y=x;{subst hy;rw[aG rfl]at hl;obtain rfl:=aW hl;exact⟨_,dD,rfl,rfl⟩};rw[aB hy]at hl;obtain⟨z,hz,h3,h4⟩:=ih hl;exact⟨z,by simp only[encI,dF,aT];exact .inr hz,h3,h4⟩
theorem Il{es:MI}{x:Int}{k:AV->Prop}(hl:yP es x=none)(h:k (.uf [.int .i64 0,.ff])):FW (encI es) (.int .i64 x) λr=>DI true (.int .i64 0) r k:=by
 refine⟨none,?_,h⟩;induction es with
 |nil=>intro z hz;simp[encI]at hz
 |cons e es ih =>obtain⟨y,v⟩:=e;simp only[yP]at hl;by_cases hy:y=x;{subst hy;rw[aG rfl]at hl;cases hl};rw[aB hy]at hl;intro z hz;simp only[encI,dF,aT]at hz;rcases hz with rfl|hz;{exact λe=>hy (UQ.1 e)};exact ih hl z hz
theorem Ud{es:MI}{x v:Int}{k:List (AV×AV)->Prop}(h:k (encI (GU es x v))):b1l (encI es) (.int .i64 x) (.int .i64 v) k:=by
 refine⟨_,?_,h⟩;clear h;induction es with
 |nil=>exact .inl ⟨by simp[encI],rfl⟩
 |cons e es ih =>obtain⟨y,u⟩:=e;by_cases hy:y=x;{subst hy;exact .inr ⟨0,(.int .i64 y,.int .i64 u),rfl,rfl,by simp[GU,encI]⟩};simp only[GU,aB hy];rcases ih with⟨h1,h2⟩|⟨j,z,h1,h2,h3⟩;{refine .inl ⟨?_,?_⟩;{intro z hz;simp only[encI,dF,aT]at hz;rcases hz with rfl|hz;{exact λe=>hy (UQ.1 e)};exact h1 z hz};simp only[encI,dF,eX]at h2 ⊢;rw[h2]};refine .inr ⟨j+1,z,by simpa[encI]using h1,h2,?_⟩;simp only[encI,dF,jT]at h3 ⊢;rw[h3]
theorem Bc{es:MI}{x y v:Int}:yP (GU es x v) y=if x=y then some v else yP es y:=by
 induction es with
 |nil=>simp[GU,yP]
 |cons e es ih =>obtain⟨z,u⟩:=e;simp only[GU];by_cases hz:z=x;{subst hz;rw[aG rfl];simp only[yP];split <;> rfl};rw[aB hz];simp only[yP,ih];by_cases h1:z=y;{subst h1;rw[aG rfl,aG rfl,aB (λe=>hz e.symm)]};rw[aB h1,aB h1]
theorem yK(n:Nat):∀es:MI,EZ n (encI es)=true
 | []=>rfl
 |_::es=>by show(match true,true with|true,true=>EZ n (encI es)|_,_=>false)=true;exact yK n es
def vG(s:Int->Bool)(i:Int)(b:Bool):Int->Bool:=λj=>if j=i then b else s j
theorem LH{T:Tb}(h:tH T)(d:Nat):∀(r:Int),T.Rf r->r<=d->∀(s s':Int->Bool),(∀j,0<=j->j<T.n->T.lvl r<=T.pl j->s j=s' j)->ev T.nodes s r=ev T.nodes s' r:=by
 induction d with
 |zero =>intro r hr hd s s' _;have:=hr.1;obtain rfl:r=0:=aj;rfl
 |succ d ih =>intro r hr hd s s' hs;by_cases h2:r<2;{have:=hr.1;rcases(by omega:r=0\/r=1)with rfl|rfl <;> rfl};obtain⟨g,e⟩:=h.at hr aj;obtain⟨k1,k2,k3,k4,k5,k6⟩:=h.kid hr aj;have hv:s (T.node r).1=s' (T.node r).1:=hs _ g.v.1 g.v.2 (by rw[show T.lvl r=T.pl (T.node r).1 from aB h2];exact dR _);have hlo:=g.lo.2;have hhi:=g.hi.2;have:=hr.2;rw[e s,e s',hv,ih _ k2 aj s s' λj a b c=>hs j a b aj,ih _ k1 aj s s' λj a b c=>hs j a b aj]
theorem LG{T:Tb}(h:tH T){r i:Int}(hr:T.Rf r)(hi:0<=i/\i<T.n)(hl:T.pl i<T.lvl r)(s:Int->Bool)(b:Bool):ev T.nodes (vG s i b) r=ev T.nodes s r:=by refine LH h r.toNat r hr (by have:=hr.1;omega) _ _ λj h0 h1 h2=>?_;unfold vG;rw[aB];rintro rfl;omega
def Uj(T:Tb)(i:Int)(b:Bool)(D:MI):Prop :=
 ∀r x,yP D r=some x->T.Rf r/\T.Rf x/\T.lvl r<=T.lvl x/\∀s,ev T.nodes s x=ev T.nodes (vG s i b) r
theorem Uj.ext{T T':Tb}{i:Int}{b:Bool}{D:MI}(h:Uj T i b D)(x:Xt T T'):Uj T' i b D:=by intro r y hl;obtain⟨h1,h2,h3,h4⟩:=h r y hl;exact⟨x.rf h1,x.rf h2,by rw[x.lvl h1,x.lvl h2];exact h3,λs=>by rw[x.ev h2,x.ev h1];exact h4 s⟩
theorem Uj.mark{T:Tb}{i:Int}{b:Bool}{D:MI}(h:Uj T i b D){r x:Int}(g:T.Rf r/\T.Rf x/\T.lvl r<=T.lvl x/\∀s,ev T.nodes s x=ev T.nodes (vG s i b) r):Uj T i b (GU D r x):=by intro r' x' hl;rw[Bc]at hl;split at hl;{rename_i e;subst e;obtain rfl:=aW hl;exact g};exact h r' x' hl
abbrev byI(b:Bool):Int:=if b=true then 1 else 0
abbrev hpW(T:Tb)(i:Int)(b:Bool)(D:MI):Heap :=
 [(10,.box (.fn 230 [.ptr 5 [] 0,.ptr 6 [] 0,.ptr 9 [] 0,.ptr 7 [] 0,.ptr 10 [] 0])),(9,.box (.mp 8)),(8,.tN (.int .i64 0) (encI D)),(7,.box (.int .i64 (byI b))),(6,.box (.int .i64 i)),(5,.box (.ptr 0 [] 0))]++yT T
theorem b7f(T:Tb)(m:Nat)(h:5<=m):b0r m (yT T):=by have h1:Nat.blt 1 m=true:=gU aj;have h2:Nat.blt 2 m=true:=gU aj;have h3:Nat.blt 3 m=true:=gU aj;have h4:Nat.blt 4 m=true:=gU aj;refine⟨qP _ _,qP _ _,rfl,rfl,?_,trivial⟩;simp only[Uz,tq,vT,h1,h2,h3,h4]
theorem b5O(T:Tb)(i:Int)(b:Bool)(D:MI):b0r 11 (hpW T i b D) :=
 ⟨rfl,rfl,yK _ _,rfl,rfl,rfl,b7f T 11 au⟩
abbrev b3w(r:Int):List AV:=[.int .i64 r,.ptr 5 [] 0,.ptr 6 [] 0,.ptr 9 [] 0,.ptr 7 [] 0,.ptr 10 [] 0]
structure CmP(N:Nat)(i:Int)(b:Bool)(T T':Tb)(D':MI)(r x:Int):Prop where
 good:tH T'
 ext:Xt T T'
 rf:T'.Rf x
 lvl:T.lvl r<=T'.lvl x
 val:∀s,ev T'.nodes s x=ev T.nodes (vG s i b) r
 done:Uj T' i b D'
theorem a4u(T:Tb)(i:Int)(b:Bool)(D:MI)(hT:tH T)(hn:T.nodes.length<=1000000000)(hi0:0<=i)(hi:i<T.n)(r x:Int)(hr:T.Rf r)(hlv:¬T.pl i<T.lvl r)(hl:yP D r=some x) :
  ZQ 230 (b3w r) (hpW T i b D) (.int .i64 x) (hpW T i b D):=by
 have hpi:T.place.getD ((i.toNat:Nat):Int).toNat 0=T.pl i:=(by unfold Tb.pl;rw[aJ]);have ql:=EY T hT hn r hr;refine ZN Tryz.func230 λhok=>?_;refine wX.both [] [3,6,7,9] ⟨[false,true,false,false,true,true,false,false,true,false,true],by kernel_rfl,?_⟩;conv=>whnf
 refine .gen _ _ (Oc [(10,_),(9,_),(8,_),(7,_),(6,_),(5,_)] ak ql (λ_=>rfl) (λ_=>rfl) rfl) λ_=>?_;conv=>whnf
 (refine aI (by(conv=>whnf)<;>exact rfl) ?_;(conv=>whnf))
 (refine aI (by(conv=>whnf)<;>exact rfl) ?_;(conv=>whnf))
 (refine aI (by(conv=>whnf)<;>exact rfl) ?_;(conv=>whnf))
 refine⟨⟨hi0,by rw[hT.OC];exact hi⟩,?_⟩;conv=>whnf
 rw[bC];refine sK 0 ⟨aj,by rw[fO hi0,hT.OC];exact hi⟩ ?_;conv=>whnf
 rw[hpi];refine⟨rfl,?_⟩;conv=>whnf
 refine aI ?_ ?_
 ·conv=>whnf
  refine sK 0 ⟨aj,by rw[fO hi0,hT.OC];exact hi⟩ ?_;conv=>whnf
  rw[hpi];exact⟨rfl,rfl⟩
 refine ZW ?_;refine aP (λh=>absurd h hlv) (λ_=>ZW ?_);refine L9 hl (ZW ?_);refine ZE ?_ ?_;{exact wk};repeat' first|exact Zq|apply aI
 all_goals first|exact qO _|exact qP _ _|exact yK _ _|(simp;done)|skip
theorem a0A(T:Tb)(i:Int)(b:Bool)(D:MI)(hT:tH T)(hn:T.nodes.length<=1000000000)(hi0:0<=i)(hi:i<T.n)(r:Int)(hr:T.Rf r)(hlv:T.pl i<T.lvl r) :
  ZQ 230 (b3w r) (hpW T i b D) (.int .i64 r) (hpW T i b D):=by
 have hpi:T.place.getD ((i.toNat:Nat):Int).toNat 0=T.pl i:=(by unfold Tb.pl;rw[aJ]);have ql:=EY T hT hn r hr;refine ZN Tryz.func230 λhok=>?_;refine wX.both [] [3,6,7,9] ⟨[false,true,false,false,true,true,false,false,true,false,true],by kernel_rfl,?_⟩;conv=>whnf
 refine .gen _ _ (Oc [(10,_),(9,_),(8,_),(7,_),(6,_),(5,_)] ak ql (λ_=>rfl) (λ_=>rfl) rfl) λ_=>?_;conv=>whnf
 (refine aI (by(conv=>whnf)<;>exact rfl) ?_;(conv=>whnf))
 (refine aI (by(conv=>whnf)<;>exact rfl) ?_;(conv=>whnf))
 (refine aI (by(conv=>whnf)<;>exact rfl) ?_;(conv=>whnf))
 refine⟨⟨hi0,by rw[hT.OC];exact hi⟩,?_⟩;conv=>whnf
 rw[bC];refine sK 0 ⟨aj,by rw[fO hi0,hT.OC];exact hi⟩ ?_;conv=>whnf
 rw[hpi];refine⟨rfl,?_⟩;conv=>whnf
 refine aI ?_ ?_
 ·conv=>whnf
  refine sK 0 ⟨aj,by rw[fO hi0,hT.OC];exact hi⟩ ?_;conv=>whnf
  rw[hpi];exact⟨rfl,rfl⟩
 refine ZW ?_;refine aP (λ_=>?_) (λh=>absurd hlv h);refine ZW ?_;refine ZE ?_ ?_;{exact wk};repeat' first|exact Zq|apply aI
 all_goals first|exact qO _|exact qP _ _|exact yK _ _|(simp;done)|skip
theorem a7s(T T':Tb)(i:Int)(b:Bool)(D:MI)(hT:tH T)(hn:T.nodes.length<=1000000000)(hi0:0<=i)(hi:i<T.n)(r x:Int)(hr:T.Rf r)(h2:2<=r)(hlv:¬T.pl i<T.lvl r)(hl:yP D r=none)
  (hv:(T.nodes.getD (r-2).toNat default).1=i)
  (qc:ZQ 119 [.ptr 0 [] 0,.int .i64 (byI b),.int .i64 (T.nodes.getD (r-2).toNat default).2.2,.int .i64 (T.nodes.getD (r-2).toNat default).2.1] (yT T) (.int .i64 x) (yT T')) :
  ZQ 230 (b3w r) (hpW T i b D) (.int .i64 x) (hpW T' i b (GU D r x)):=by
 have hpi:T.place.getD ((i.toNat:Nat):Int).toNat 0=T.pl i:=(by unfold Tb.pl;rw[aJ]);have ql:=EY T hT hn r hr;have hr2:=hr.2;refine ZN Tryz.func230 λhok=>?_;refine wX.both [] [3,6,7,9] ⟨[false,true,false,false,true,true,false,false,true,false,true],by kernel_rfl,?_⟩;conv=>whnf
 refine .gen _ _ (Oc [(10,_),(9,_),(8,_),(7,_),(6,_),(5,_)] ak ql (λ_=>rfl) (λ_=>rfl) rfl) λ_=>?_;conv=>whnf
 (refine aI (by(conv=>whnf)<;>exact rfl) ?_;(conv=>whnf))
 (refine aI (by(conv=>whnf)<;>exact rfl) ?_;(conv=>whnf))
 (refine aI (by(conv=>whnf)<;>exact rfl) ?_;(conv=>whnf))
 refine⟨⟨hi0,by rw[hT.OC];exact hi⟩,?_⟩;conv=>whnf
 rw[bC];refine sK 0 ⟨aj,by rw[fO hi0,hT.OC];exact hi⟩ ?_;conv=>whnf
 rw[hpi];refine⟨rfl,?_⟩;conv=>whnf
 refine aI ?_ ?_
 ·conv=>whnf
  refine sK 0 ⟨aj,by rw[fO hi0,hT.OC];exact hi⟩ ?_;conv=>whnf
  rw[hpi];exact⟨rfl,rfl⟩
 refine ZW ?_;refine aP (λh=>absurd h hlv) (λ_=>ZW ?_);refine Il hl (ZW ?_);refine⟨rQ aj aj,ZW ?_⟩;refine sK default ⟨aj,aj⟩ (ZW ?_);refine aP (λ_=>?_) (λh=>absurd hv h);refine ZW ?_;refine .gen _ _ (Oc [(11,_),(10,_),(9,_),(8,_),(7,_),(6,_),(5,_)] ak qc (λ_=>rfl) (λ_=>rfl) rfl) λ_=>ZW ?_;refine Ud (ZW ?_);refine ZE ?_ ?_;{exact wk};repeat' first|exact Zq|apply aI
 all_goals first|exact qO _|exact qP _ _|exact yK _ _|(simp;done)|skip
theorem a7t(T T0 T1 T2 T3:Tb)(i:Int)(b:Bool)(D D1 D2:MI)(hT:tH T)(hn:T.nodes.length<=1000000000)(hi0:0<=i)(hi:i<T.n)(r e xh xl x:Int)(hr:T.Rf r)(h2:2<=r)(hlv:¬T.pl i<T.lvl r)(hl:yP D r=none)
  (hv:¬(T.nodes.getD (r-2).toNat default).1=i)
  (qe:ZQ 115 [.ptr 0 [] 0,.int .i64 (T.nodes.getD (r-2).toNat default).1] (yT T) (.int .i64 e) (yT T0))
  (qh:ZQ 230 (b3w (T.nodes.getD (r-2).toNat default).2.2) (hpW T0 i b D) (.int .i64 xh) (hpW T1 i b D1))
  (qo:ZQ 230 (b3w (T.nodes.getD (r-2).toNat default).2.1) (hpW T1 i b D1) (.int .i64 xl) (hpW T2 i b D2))
  (qc:ZQ 119 [.ptr 0 [] 0,.int .i64 e,.int .i64 xh,.int .i64 xl] (yT T2) (.int .i64 x) (yT T3)) :
  ZQ 230 (b3w r) (hpW T i b D) (.int .i64 x) (hpW T3 i b (GU D2 r x)):=by
 have hpi:T.place.getD ((i.toNat:Nat):Int).toNat 0=T.pl i:=(by unfold Tb.pl;rw[aJ]);have ql:=EY T hT hn r hr;have hr2:=hr.2;have th:=λK:AV=>qX.top 11 [(11,.box K)] ak qh ⟨rfl,rfl⟩ (b5O _ _ _ _) (b5O _ _ _ _) ⟨rfl,rfl⟩ ⟨rfl,rfl⟩;have tl:=λK:AV=>qX.top 11 [(11,.box K)] ak qo ⟨rfl,rfl⟩ (b5O _ _ _ _) (b5O _ _ _ _) ⟨rfl,rfl⟩ ⟨rfl,rfl⟩;refine ZN Tryz.func230 λhok=>?_;refine wX.both [] [3,6,7,9] ⟨[false,true,false,false,true,true,false,false,true,false,true],by kernel_rfl,?_⟩;conv=>whnf
 refine .gen _ _ (Oc [(10,_),(9,_),(8,_),(7,_),(6,_),(5,_)] ak ql (λ_=>rfl) (λ_=>rfl) rfl) λ_=>?_;conv=>whnf
 (refine aI (by(conv=>whnf)<;>exact rfl) ?_;(conv=>whnf))
 (refine aI (by(conv=>whnf)<;>exact rfl) ?_;(conv=>whnf))
 (refine aI (by(conv=>whnf)<;>exact rfl) ?_;(conv=>whnf))
 refine⟨⟨hi0,by rw[hT.OC];exact hi⟩,?_⟩;conv=>whnf
 rw[bC];refine sK 0 ⟨aj,by rw[fO hi0,hT.OC];exact hi⟩ ?_;conv=>whnf
 rw[hpi];refine⟨rfl,?_⟩;conv=>whnf
 refine aI ?_ ?_
 ·conv=>whnf
  refine sK 0 ⟨aj,by rw[fO hi0,hT.OC];exact hi⟩ ?_;conv=>whnf
  rw[hpi];exact⟨rfl,rfl⟩
 refine ZW ?_;refine aP (λh=>absurd h hlv) (λ_=>ZW ?_);refine Il hl (ZW ?_);refine⟨rQ aj aj,ZW ?_⟩;refine sK default ⟨aj,aj⟩ (ZW ?_);refine aP (λh=>absurd h hv) (λ_=>ZW ?_);refine wX.both [0] [5,7,9,11] ⟨[false,false,true,false,false,false,true,false,false,false,true,false,false,false,true],by kernel_rfl,?_⟩;conv=>whnf
 refine .gen _ _ (Oc [(11,_),(10,_),(9,_),(8,_),(7,_),(6,_),(5,_)] ak qe (λ_=>rfl) (λ_=>rfl) rfl) λ_=>?_;conv=>whnf
 (refine aI (by(conv=>whnf)<;>exact rfl) ?_;(conv=>whnf))
 (refine aI (by(conv=>whnf)<;>exact rfl) ?_;(conv=>whnf))
 (refine aI (by(conv=>whnf)<;>exact rfl) ?_;(conv=>whnf))
 refine .gen _ _ (th _) λ_=>?_;conv=>whnf
 (refine aI (by(conv=>whnf)<;>exact rfl) ?_;(conv=>whnf))
 (refine aI (by(conv=>whnf)<;>exact rfl) ?_;(conv=>whnf))
 (refine aI (by(conv=>whnf)<;>exact rfl) ?_;(conv=>whnf))
 (refine aI (by(conv=>whnf)<;>exact rfl) ?_;(conv=>whnf))
 (refine aI (by(conv=>whnf)<;>exact rfl) ?_;(conv=>whnf))
 refine .gen _ _ (tl _) λ_=>?_;conv=>whnf
 (refine aI (by(conv=>whnf)<;>exact rfl) ?_;(conv=>whnf))
 refine .gen _ _ (Oc [(11,_),(10,_),(9,_),(8,_),(7,_),(6,_),(5,_)] ak qc (λ_=>rfl) (λ_=>rfl) rfl) λ_=>?_;conv=>whnf
 (refine aI (by(conv=>whnf)<;>exact rfl) ?_;(conv=>whnf))
 refine Ud (ZW ?_);refine ZE ?_ ?_;{exact wk};repeat' first|exact Zq|apply aI
 all_goals first|exact qO _|exact qP _ _|exact yK _ _|(simp;done)|skip
theorem a7o(N:Nat)(i:Int)(b:Bool)(hi0:0<=i)(d:Nat):∀(T:Tb) (D:MI),tH T->T.n<=N->i<T.n->Uj T i b D->∀(r:Int),T.Rf r->T.n-T.lvl r<=d->T.nodes.length+2^d*(2^N+2)<=1000000000 ->
  ∃T' D' x,ZQ 230 (b3w r) (hpW T i b D) (.int .i64 x) (hpW T' i b D')/\CmP N i b T T' D' r x/\T'.nodes.length+(2^N+2)<=T.nodes.length+2^d*(2^N+2):=by
 have h2N:0<2^N:=gK au;induction d with
 |zero =>intro T D hT hN hi hD r hr hd hS;have hpl:=hT.plc i hi0 hi;have hlv:T.pl i<T.lvl r:=aj;rw[mX,gX]at hS ⊢;exact⟨T,D,r,a0A T i b D hT aj hi0 hi r hr hlv,⟨hT,.refl _,hr,dR _,λs=>(LG hT hr ⟨hi0,hi⟩ hlv s b).symm,hD⟩,aS _⟩
 | succ d ih =>
   intro T D hT hN hi hD r hr hd hS;have hpl:=hT.plc i hi0 hi;have hM:2^(d+1)*(2^N+2)=2^d*(2^N+2)+2^d*(2^N+2):=by rw[bU,Nat.mul_two,dw]
   have hK:2^N+2<=2^d*(2^N+2):=Nat.le_mul_of_pos_left _ (gK au);rw[hM]at hS ⊢;generalize 2^d*(2^N+2)=M at *;by_cases hlv:T.pl i<T.lvl r;{exact⟨T,D,r,a0A T i b D hT aj hi0 hi r hr hlv,⟨hT,.refl _,hr,dR _,λs=>(LG hT hr ⟨hi0,hi⟩ hlv s b).symm,hD⟩,aj⟩};cases hl:yP D r with
   |some x =>obtain⟨g1,g2,g3,g4⟩:=hD r x hl;exact⟨T,D,x,a4u T i b D hT aj hi0 hi r x hr hlv hl,⟨hT,.refl _,g2,g3,g4,hD⟩,aj⟩
   | none =>
     have h2:2<=r:=(by apply aU;intro h;have:T.lvl r=T.n:=aG aj;omega);obtain⟨gn,gev⟩:=hT.at hr h2;obtain⟨k1,k2,k3,k4,k5,k6⟩:=hT.kid hr h2;have hlr:T.lvl r=T.pl (T.node r).1:=aB aj;by_cases hv:(T.node r).1=i
     ·obtain⟨x,qc,p⟩:=SE T hT (byI b) (T.node r).2.2 (T.node r).2.1 (by cases b <;> exact⟨au,by simp[byI];omega⟩) k2 k1 (by cases b <;> simp[byI]);have hby:T.lvl (byI b)=T.n:=aG (by cases b <;> decide);have hval:∀s,ev T.nodes s x=ev T.nodes (vG s i b) r:=by
       intro s;have e1:vG s i b (T.node r).1=b:=by rw[hv];exact aG rfl
       rw[p.val s,gev (vG s i b),e1,LG hT k1 ⟨hi0,hi⟩ (by rw[<- hv,<- hlr];exact k3),LG hT k2 ⟨hi0,hi⟩ (by rw[<- hv,<- hlr];exact k4)];cases b <;> rfl
      have hlx:T.lvl r<=T.lvl x:=(by have:=p.lvl;omega);exact⟨T,GU D r x,x,a7s T T i b D hT aj hi0 hi r x hr h2 hlv hl hv qc,⟨hT,.refl _,p.rf,hlx,hval,hD.mark ⟨hr,p.rf,hlx,hval⟩⟩,aj⟩
     have qe:=a2W T (T.node r).1 aj;have m:=Nj hT (v:=(T.node r).1) (lo:=0) (hi:=1) gn.v (.zero T) (.one T) (by rw[<- hlr];exact k6) (by rw[<- hlr];exact k6);generalize T.make (T.node r).1 0 1=q at *;obtain⟨T0,e⟩:=q;obtain⟨m1,m2,m3,m4,m5,m6,m7⟩:=m;dsimp only at m1 m2 m3 m4 m5 m6 m7 qe;obtain⟨T1,D1,xh,f1,p1,n1⟩:=ih T0 D m1 (by rw[m2.n];exact hN) (by rw[m2.n];exact hi) (hD.ext m2) (T.node r).2.2 (m2.rf k2) (by rw[m2.n,m2.lvl k2];omega) aj;have x1:=m2.trans p1.ext;obtain⟨T2,D2,xl,f2,p2,n2⟩:=ih T1 D1 p1.good (by rw[x1.n];exact hN) (by rw[x1.n];exact hi) p1.done (T.node r).2.1 (x1.rf k1) (by rw[x1.n,x1.lvl k1];omega) aj;have x2:=x1.trans p2.ext;have r1:T2.Rf e:=p2.ext.rf (p1.ext.rf m3);have r2:T2.Rf xh:=p2.ext.rf p1.rf;have l1:T.lvl r<=T2.lvl e:=(by rw[p2.ext.lvl (p1.ext.rf m3),p1.ext.lvl m3,hlr];exact m4);have l2:T.lvl r<=T2.lvl xh:=(by rw[p2.ext.lvl p1.rf];have:=p1.lvl;rw[m2.lvl k2]at this;omega);have l3:T.lvl r<=T2.lvl xl:=(by have:=p2.lvl;rw[x1.lvl k1]at this;omega);have hn2:=x2.n;obtain⟨T3,x,qc,p3,n3⟩:=Gt N T2 p2.good e xh xl r1 r2 p2.rf (by rw[hn2];omega) aj;have x3:=x2.trans p3.ext;have hval:∀s,ev T3.nodes s x=ev T.nodes (vG s i b) r:=by intro s;have e1:vG s i b (T.node r).1=s (T.node r).1:=aB hv;rw[p3.val s,p2.ext.ev (p1.ext.rf m3),p1.ext.ev m3,m7 s,p2.ext.ev p1.rf,p1.val s,p2.val s,m2.ev k2,x1.ev k1,gev (vG s i b),e1,OX,F9];cases s (T.node r).1 <;> rfl
     have hlx:T.lvl r<=T3.lvl x:=(by have:=p3.lvl;omega);refine⟨T3,GU D2 r x,x,a7t T T0 T1 T2 T3 i b D D1 D2 hT aj hi0 hi r e xh xl x hr h2 hlv hl hv qe f1 f2 qc,⟨p3.good,x3,p3.rf,hlx,hval,(p2.done.ext p3.ext).mark ⟨x3.rf hr,p3.rf,by rw[x3.lvl hr];exact hlx,λs=>by rw[hval s,x3.ev hr]⟩⟩,aj⟩
theorem b4c{T:Tb}(h:tH T)(d:Nat):∀(r:Int),T.Rf r->r<=d->(r≠0->∃s,ev T.nodes s r=true)/\(r≠1->∃s,ev T.nodes s r=false):=by
 induction d with
 |zero =>intro r hr hd;have:=hr.1;obtain rfl:r=0:=aj;exact⟨λh=>absurd rfl h,λ_=>⟨λ_=>false,rfl⟩⟩
 | succ d ih =>
   intro r hr hd;by_cases h2:r<2;{have:=hr.1;rcases(by omega:r=0\/r=1)with rfl|rfl;{exact⟨λh=>absurd rfl h,λ_=>⟨λ_=>false,rfl⟩⟩};exact⟨λ_=>⟨λ_=>false,rfl⟩,λh=>absurd rfl h⟩};obtain⟨g,e⟩:=h.at hr aj;obtain⟨k1,k2,k3,k4,k5,k6⟩:=h.kid hr aj;have hlo:=g.lo.2;have hhi:=g.hi.2;have:=hr.2;obtain⟨a1,a2⟩:=ih _ k1 aj;obtain⟨b1,b2⟩:=ih _ k2 aj;have hlr:T.lvl r=T.pl (T.node r).1:=aB aj;have low:∀v:Bool,(∃s,ev T.nodes s (T.node r).2.1=v)->∃s,ev T.nodes s r=v:=by rintro v ⟨s,hs⟩;refine⟨vG s (T.node r).1 false,?_⟩;rw[e,show vG s (T.node r).1 false (T.node r).1=false from aG rfl,LG h k1 g.v (by rw[<- hlr];exact k3)];simpa using hs
   have high:∀v:Bool,(∃s,ev T.nodes s (T.node r).2.2=v)->∃s,ev T.nodes s r=v:=(by rintro v ⟨s,hs⟩;refine⟨vG s (T.node r).1 true,?_⟩;rw[e,show vG s (T.node r).1 true (T.node r).1=true from aG rfl,LG h k2 g.v (by rw[<- hlr];exact k4)];simpa using hs);have hne:=g.ne;constructor<;>intro _;{by_cases h0:(T.node r).2.1=0;{exact high true (b1 aj)};exact low true (a1 h0)};by_cases h0:(T.node r).2.1=1;{exact high false (b2 aj)};exact low false (a2 h0)
theorem tH.sat{T:Tb}(h:tH T){r:Int}(hr:T.Rf r):r=0↔∀s,ev T.nodes s r=false:=by constructor;{rintro rfl s;rfl};intro hs;apply aU;intro h0;obtain⟨s,hs'⟩:=(b4c h r.toNat r hr (by have:=hr.1;omega)).1 h0;rw[hs s]at hs';cases hs'
structure RsP(i:Int)(b:Bool)(T T':Tb)(r x:Int):Prop where
 good:tH T'
 ext:Xt T T'
 rf:T'.Rf x
 lvl:T.lvl r<=T'.lvl x
 val:∀s,ev T'.nodes s x=ev T.nodes (vG s i b) r
abbrev b71(b:Bool):AV:=if b=true then .tt else .ff
theorem a4l(N:Nat)(i:Int)(b:Bool)(T:Tb)(hT:tH T)(hN:T.n<=N)(hi0:0<=i)(hi:i<T.n)(r:Int)(hr:T.Rf r)(hS:T.nodes.length+2^N*(2^N+2)<=1000000000) :
  ∃T' x,ZQ 193 [.ptr 0 [] 0,.int .i64 r,.int .i64 i,.int .i64 (byI b)] (yT T) (.int .i64 x) (yT T')/\RsP i b T T' r x/\T'.nodes.length<=T.nodes.length+2^N*(2^N+2):=by
 have hlp:=hT.F7 hr;obtain⟨T',D',x,f,p,n⟩:=a7o N i b hi0 N T [] hT hN hi (λ_ _ h=>by cases h) r hr aj hS;refine⟨T',x,?_,⟨p.good,p.ext,p.rf,p.lvl,p.val⟩,dH (oz _ _) n⟩;refine ZN Tryz.func193 λhok=>?_;refine .gen _ _ f λ_=>ZW ?_;refine ZE ?_ ?_;{exact wk};repeat' first|exact Zq|apply aI
 all_goals first|exact qO _|exact qP _ _|(simp;done)|skip
theorem a1z(N:Nat)(i:Int)(b:Bool)(T:Tb)(hT:tH T)(hN:T.n<=N)(hi0:0<=i)(hi:i<T.n)(r:Int)(hr:T.Rf r)(hS:T.nodes.length+2^N*(2^N+2)<=1000000000) :
  ∃T' x,ZQ 122 [.ptr 0 [] 0,.int .i64 r,.int .i64 i,b71 b] (yT T) (.int .i64 x) (yT T')/\RsP i b T T' r x/\T'.nodes.length<=T.nodes.length+2^N*(2^N+2):=by
 obtain⟨T',x,f,p,n⟩:=a4l N i b T hT hN hi0 hi r hr hS;refine⟨T',x,?_,p,n⟩;cases b with
 | true =>
   refine ZN Tryz.func122 λhok=>?_;refine .gen _ _ f λ_=>ZW ?_;refine ZE ?_ ?_;{exact wk};repeat' first|exact Zq|apply aI
   all_goals first|exact qO _|exact qP _ _|(simp;done)|skip
 | false =>
   refine ZN Tryz.func122 λhok=>?_;refine .gen _ _ f λ_=>ZW ?_;refine ZE ?_ ?_;{exact wk};repeat' first|exact Zq|apply aI
   all_goals first|exact qO _|exact qP _ _|(simp;done)|skip
def G7(m:Nat):Int->Bool:=λj=>m.testBit j.toNat
def ovr(q i:Nat)(s:Int->Bool):Int->Bool:=λj=>if(i:Int)<=j then q.testBit (j-i).toNat else s j
theorem a4Y(q:Nat)(b:Bool):(2*q+b.toNat).testBit 0=b:=by rw[Nat.testBit_zero];cases b <;> simp <;> omega
theorem a00(q:Nat)(b:Bool)(k:Nat):(2*q+b.toNat).testBit (k+1)=q.testBit k:=by rw[Nat.testBit_succ];congr 1;cases b <;> simp <;> omega
theorem Wh(q i:Nat)(b:Bool)(s:Int->Bool):ovr (2*q+b.toNat) i s=ovr q (i+1) (vG s i b):=by funext j;unfold ovr vG;by_cases h1:((i+1:Nat):Int)<=j;{rw[aG aj,aG h1,show(j-(i:Int)).toNat=(j-((i+1:Nat):Int)).toNat+1 by omega,a00]};rw[aB h1];by_cases h2:j=(i:Int);{subst h2;rw[aG aj,aG rfl,show((i:Int)-(i:Int)).toNat=0 by omega,a4Y]};rw[aB aj,aB h2]
theorem a8C(m i:Nat):ovr (m / 2^i) i (G7 m)=G7 m:=by funext j;unfold ovr G7;split;{rw[Nat.testBit_div_two_pow];congr 1;omega};rfl
theorem a8D(q i:Nat):2*q*2^i|||2^i=(2*q+1)*2^i:=by apply Nat.eq_of_testBit_eq;intro j;rw[Nat.testBit_or,Nat.testBit_mul_two_pow,Nat.testBit_mul_two_pow,lV];by_cases h:i<=j;{rcases Nat.lt_or_eq_of_le h with h1|h1;{obtain⟨k,hk⟩:∃k,j-i=k+1:=⟨j-i-1,aj⟩;have e1:=a00 q false k;have e2:=a00 q true k;simp only[Bool.toNat_false,Bool.toNat_true,dU]at e1 e2;rw[hk,e1,e2];have:¬i=j:=aj;simp[this]};subst h1;have e2:=a4Y q true;simp only[Bool.toNat_true]at e2;rw[gV,e2];simp};have:¬i=j:=aj;simp[h,this]
structure LsS where
 i:Nat
 T:Tb
 r:Int
 q:Nat
structure LeI(T:Tb)(r:Int)(S B:Nat)(s:LsS):Prop where
 good:tH s.T
 ext:Xt T s.T
 rf:s.T.Rf s.r
 le:(s.i:Int)<=T.n
 sat:s.r≠0
 val:∀t,ev s.T.nodes t s.r=ev T.nodes (ovr s.q s.i t) r
 low:∀m,ev T.nodes (G7 m) r=true->s.q<=m / 2^s.i
 bnd:s.q<2^(T.n.toNat-s.i)
 size:s.T.nodes.length+2*s.i*S<=B
theorem GZ{α:Type}(I:Nat->α->Prop)(R:Nat->α->α->Prop)(n:Nat)(s0:α)(h0:I 0 s0)(step:∀k s,k<n->I k s->∃s',I (k+1) s'/\R k s s') :
  ∃f:Nat->α,f 0=s0/\(∀k,k<=n->I k (f k))/\∀k,k<n->R k (f k) (f (k+1)):=by
 have:∀m,m<=n->∃f:Nat->α,f 0=s0/\(∀k,k<=m->I k (f k))/\∀k,k<m->R k (f k) (f (k+1)):=by
  intro m;induction m with
  |zero =>refine λ_=>⟨λ_=>s0,rfl,λk hk=>?_,λk hk=>absurd hk (gJ _)⟩;obtain rfl:k=0:=aj;exact h0
  |succ m ih =>intro hm;obtain⟨f,f0,f1,f2⟩:=ih aj;obtain⟨s',g1,g2⟩:=step m (f m) aj (f1 m (aS _));refine⟨λk=>if k=m+1 then s' else f k,by simp[f0],λk hk=>?_,λk hk=>?_⟩;{by_cases h:k=m+1;{subst h;simp only[aG];exact g1};simp only[aB h];exact f1 k aj};by_cases h:k=m;{subst h;simp only[aG];rw[aB aj];exact g2};simp only[aB (show ¬k=m+1 by omega),aB (show ¬k+1=m+1 by omega)];exact f2 k aj
 exact this n (aS _)
def LeR(i:Nat)(s s':LsS):Prop :=
 ∃ T1 x,ZQ 122 [.ptr 0 [] 0,.int .i64 s.r,.int .i64 i,.ff] (yT s.T) (.int .i64 x) (yT T1) /\
   ((x≠0/\s'=⟨i,T1,x,2*s.q⟩)\/(x=0/\∃T2 y,ZQ 122 [.ptr 0 [] 0,.int .i64 s.r,.int .i64 i,.tt] (yT T1) (.int .i64 y) (yT T2)/\s'=⟨i,T2,y,2*s.q+1⟩))
theorem le_step(N:Nat)(T:Tb)(hN:T.n<=N)(r:Int)(_:T.Rf r)(i:Nat)(s:LsS)(B:Nat)(hB:B<=1000000000)(h:LeI T r (2^N*(2^N+2)) B s)(hi:s.i=i+1) :
  ∃s',(LeI T r (2^N*(2^N+2)) B s'/\s'.i=i)/\LeR i s s':=by
 obtain⟨h1,h2,h3,h4,h5,h6,h7,h8,h9⟩:=h;rw[hi]at h4 h6 h7 h8 h9;have hn:=h2.n;have hb2:2^(T.n.toNat-i)=2*2^(T.n.toNat-(i+1)):=(by rw[show T.n.toNat-i=(T.n.toNat-(i+1))+1 by omega,bU,dK]);have Q:=a1z N;have h9':s.T.nodes.length+(2*i*(2^N*(2^N+2))+(2^N*(2^N+2)+2^N*(2^N+2)))<=B:=(by have:2*(i+1)*(2^N*(2^N+2))=2*i*(2^N*(2^N+2))+(2^N*(2^N+2)+2^N*(2^N+2)):=(by rw[dB,dw,iP,Nat.two_mul (2^N*(2^N+2))]);rw[<- this];exact h9);clear h9;generalize 2^N*(2^N+2)=S at *;obtain⟨W,hW⟩:∃W,W=2*i*S:=⟨_,rfl⟩;rw[<- hW]at h9';have hsz:∀L:Nat,L<=s.T.nodes.length+S+S->L+2*i*S<=B:=λL hL=>(by rw[<- hW];omega);obtain⟨T1,x,f1,p1,n1⟩:=Q (i:Int) false s.T h1 aj aj aj s.r h3 aj;have v1:∀t,ev T1.nodes t x=ev T.nodes (ovr (2*s.q+false.toNat) i t) r:=(by intro t;rw[p1.val,h6,Wh]);by_cases hx:x=0
 ·obtain⟨T2,y,f2,p2,n2⟩:=Q (i:Int) true T1 p1.good (by rw[p1.ext.n];omega) aj (by rw[p1.ext.n];omega) s.r (p1.ext.rf h3) aj;have v2:∀t,ev T2.nodes t y=ev T.nodes (ovr (2*s.q+true.toNat) i t) r:=(by intro t;rw[p2.val,p1.ext.ev h3,h6,Wh]);have hz:∀t,ev T.nodes (ovr (2*s.q+false.toNat) i t) r=false:=λt=>(by rw[<- v1 t,hx];rfl);refine⟨⟨i,T2,y,2*s.q+1⟩,⟨⟨p2.good,(h2.trans p1.ext).trans p2.ext,p2.rf,by show(i:Int)<=T.n;omega,λhy=>?_,v2,λm hm=>?_,?_,hsz _ (by show T2.nodes.length<=_;omega)⟩,rfl⟩,T1,x,f1,.inr ⟨hx,T2,y,f2,rfl⟩⟩
  ·-- one of both is true somewhere
   apply h5;refine(h1.sat h3).2 λt=>?_;rw[h6];have e:=Wh s.q i (t i) t;have e2:vG t i (t i)=t:=(by funext j;unfold vG;split;{rename_i h;rw[h]};rfl);rw[e2]at e;rw[<- e];cases t (i:Int)with
   |false=>exact hz t
   |true =>have hy:y=0:=hy;rw[<- v2 t,hy];rfl
  ·have h:=h7 m hm;rw[bU,<- iJ]at h;have hne:m / 2^i≠2*s.q:=by intro e;have h':=hz (G7 m);rw[show 2*s.q+false.toNat=m / 2^i by rw[e];rfl,a8C,hm]at h';cases h'
   show 2*s.q+1<=m / 2^i;omega
  show 2*s.q+1<_;rw[hb2];omega
 refine⟨⟨i,T1,x,2*s.q⟩,⟨⟨p1.good,h2.trans p1.ext,p1.rf,by show(i:Int)<=T.n;omega,hx,v1,λm hm=>?_,?_,hsz _ (by show T1.nodes.length<=_;omega)⟩,rfl⟩,T1,x,f1,.inl ⟨hx,rfl⟩⟩;{have h:=h7 m hm;rw[bU,<- iJ]at h;show 2*s.q<=m / 2^i;omega};show 2*s.q<_;rw[hb2];omega
theorem b3a(N:Nat)(b8f:N<=60)(T:Tb)(hT:tH T)(hN:T.n<=N)(r:Int)(hr:T.Rf r)(hr0:r≠0)(B:Nat)(hB:B<=1000000000)(hS:T.nodes.length+2*T.n.toNat*(2^N*(2^N+2))<=B) :
  ∃T' q,ZQ 62 [.ptr 0 [] 0,.int .i64 r,.int .i64 T.n] (yT T) (.int .i64 ((q:Nat):Int)) (yT T')/\tH T'/\Xt T T'/\ev T.nodes (G7 q) r=true/\(∀m,ev T.nodes (G7 m) r=true->q<=m)/\q<2^T.n.toNat/\T'.nodes.length<=B:=by
 have hn0:0<=T.n:=(by unfold Tb.n;omega);have hov:∀t,ev T.nodes (ovr 0 T.n.toNat t) r=ev T.nodes t r:=λt=>LH hT r.toNat r hr (by have:=hr.1;omega) _ _ λj h0 h1 _=>(by unfold ovr;rw[aB aj]);obtain⟨f,f0,f1,f2⟩:=GZ (λk s=>LeI T r (2^N*(2^N+2)) B s/\s.i=T.n.toNat-k) (λk s s'=>LeR (T.n.toNat-(k+1)) s s') T.n.toNat ⟨T.n.toNat,T,r,0⟩
  ⟨⟨hT,.refl _,hr,by show((T.n.toNat:Nat):Int)<=T.n;omega,hr0,λt=>(hov t).symm,λ_ _=>aO _,gK au,hS⟩,rfl⟩
  (λk s hk h=>by
   obtain⟨s',h1,h2⟩:=le_step N T hN r hr (T.n.toNat-(k+1)) s B hB h.1 (by rw[h.2];omega);exact⟨s',h1,h2⟩)
 obtain⟨l1,l2⟩:=f1 T.n.toNat (aS _);rw[gV]at l2;have hfin:=l1.val;have hlow:=l1.low;have hb:=l1.bnd;rw[l2]at hfin hlow hb;refine⟨(f T.n.toNat).T,(f T.n.toNat).q,?_,l1.good,l1.ext,?_,λm hm=>by have:=hlow m hm;rwa[mX,Nat.div_one]at this,by simpa using hb,by have:=l1.size;omega⟩
 ·generalize hn:T.n.toNat=n at *;have hnT:T.n=(n:Int):=aj;rw[hnT];have b7I:n<=60:=aj;refine ZN Tryz.func62 λhok=>?_;refine⟨rQ aj aj,ZW ?_⟩;refine qV.of <| (qM.inv (.refl _ _) (λk:Nat=>k<=n) (λk=>[(8,.int .i64 (((n-k:Nat):Int)-1)),(7,.int .i64 (((f k).q*2^(n-k):Nat):Int)),(1,.int .i64 (f k).r)]) (λk=>yT (f k).T) (λk=>n-k) 0 (aO _) ?_ ?_ ?_);{exact λ_=>rfl}
  ·rw[f0];refine Zv ?_ ?_
   ·repeat' first|exact Zq|apply aI
    all_goals first|(show(_:Int)=_;simp;done)|skip
   repeat' first|exact Zq|apply aI
   all_goals first|exact qO _|exact qP _ _|skip
  intro k hk _;obtain⟨qk,qi⟩:=f1 k hk;have qb:=qk.bnd;rw[qi,hn]at qb;have hst:(f k).q*2^(n-k)<2^n:=by have:2^n=2^(n-(n-k))*2^(n-k):=(by rw[<- jd];congr 1;omega);rw[this];exact gu qb (gK au)
  have h60:2^n<=2^60:=bQ au b7I;refine ZS ?_ ?_<;>intro h
  ·have hlt:k<n:=aj;have ek:((n-k:Nat):Int)-1=((n-(k+1):Nat):Int):=aj;obtain⟨T1,x,g1,alt⟩:=f2 k hlt;rw[ek];refine ZW ?_;refine .gen _ _ g1 λ_=>ZW ?_;have hkk:n-k=(n-(k+1))+1:=aj;have hin:n-(k+1)<60:=aj;have hlast:((n-(k+1):Nat):Int)-1=((n-(k+1):Nat):Int)-1:=rfl;rcases alt with⟨hx,hs⟩|⟨hx,T2,y,g2,hs⟩
   ·refine aP (λh=>absurd h hx) (λ_=>ZW ?_);refine⟨rQ aj aj,ZW ?_⟩;refine⟨k+1,?_,?_,?_⟩;{exact hlt}
    ·rw[hs];refine Zv ?_ ?_
     ·repeat' first|exact Zq|apply aI
      all_goals (show(_:Int)=_;congr 1;rw[hkk,bU,dK 2,dA,dK 2])
     repeat' first|exact Zq|apply aI
     all_goals first|exact qO _|exact qP _ _|skip
    omega
   refine aP (λ_=>?_) (λh=>absurd hx h);refine ZW ?_;refine .gen _ _ g2 λ_=>ZW ?_;refine⟨aj,?_⟩;rw[Hy aj];refine ZW ?_;have hpw:2^(n-(k+1))<2^60:=jJ au hin;rw[Wi aj aj];refine⟨rQ aj aj,ZW ?_⟩;refine⟨k+1,?_,?_,?_⟩;{exact hlt}
   ·rw[hs];refine Zv ?_ ?_
    ·repeat' first|exact Zq|apply aI
     all_goals (show(_:Int)=_;congr 1;rw[hkk,bU,<- a8D];congr 1;rw[dK 2,dA,dK 2])
    repeat' first|exact Zq|apply aI
    all_goals first|exact qO _|exact qP _ _|skip
   omega
  have hk:k=n:=aj;subst hk;refine ZW ?_;refine ZE ?_ ?_
  ·repeat' first|exact Zq|apply aI
   all_goals (rw[gV,mX,iP])
  repeat' first|exact Zq|apply aI
  all_goals first|exact qO _|exact qP _ _|skip
 obtain⟨t,ht⟩:∃t,ev (f T.n.toNat).T.nodes t (f T.n.toNat).r=true:=by
  apply aU;intro hn;exact l1.sat ((l1.good.sat l1.rf).2 λt=>by
   cases h:ev (f T.n.toNat).T.nodes t (f T.n.toNat).r with
   |true=>exact absurd ⟨t,h⟩ hn
   |false=>rfl)
 rw[hfin]at ht;rw[<- ht];refine LH hT r.toNat r hr (by have:=hr.1;omega) _ _ λj h0 h1 _=>?_;unfold ovr G7;rw[aG aj];congr 1;omega
def FD(f:(Int->Bool)->Bool):Nat->(Int->Bool)->Nat
 | 0,s=>(f s).toNat
 |k+1,s=>FD f k (vG s k false)+FD f k (vG s k true)
theorem MQ{s:Int->Bool}{i j:Int}{a b:Bool}(h:i≠j):vG (vG s i a) j b=vG (vG s j b) i a:=by funext x;unfold vG;by_cases h1:x=j;{subst h1;rw[aG rfl,aB (λe=>h e.symm),aG rfl]};rw[aB h1];by_cases h2:x=i;{rw[aG h2,aG h2]};rw[aB h2,aB h2,aB h1]
theorem CQ{f g:(Int->Bool)->Bool}(h:∀s,f s=g s):∀(k:Nat) (s:Int->Bool),FD f k s=FD g k s
 | 0,s=>by simp only[FD,h s]
 |k+1,s=>by simp only[FD,CQ h k]
theorem EW{f:(Int->Bool)->Bool}{v:Int}{b:Bool}:∀(k:Nat) (s:Int->Bool),(k:Int)<=v->FD f k (vG s v b)=FD (λt=>f (vG t v b)) k s
 | 0,s,_=>rfl
 |k+1,s,h=>by simp only[FD];rw[MQ (s:=s) (i:=v) (j:=(k:Int)) (a:=b) (b:=false) aj,MQ (s:=s) (i:=v) (j:=(k:Int)) (a:=b) (b:=true) aj,EW k (vG s k false) aj,EW k (vG s k true) aj]
theorem SA{f l h:(Int->Bool)->Bool}{v:Nat}(hf:∀s,f s=if s v then h s else l s)(hl:∀s b,l (vG s v b)=l s)(hh:∀s b,h (vG s v b)=h s) :
  ∀(k:Nat) (s:Int->Bool),v<k->2*FD f k s=FD l k s+FD h k s
 | 0,_,hk=>aj
 | k+1,s,hk=>by
   by_cases hv:v=k
   ·subst hv;simp only[FD];have e1:∀t,(λt=>f (vG t v false)) t=l t:=λt=>by show f (vG t v false)=l t;rw[hf,show vG t (v:Int) false v=false from aG rfl,hl];simp
    have e2:∀t,(λt=>f (vG t v true)) t=h t:=λt=>(by show f (vG t v true)=h t;rw[hf,show vG t (v:Int) true v=true from aG rfl,hh];simp);rw[EW v s (dR _),EW v s (dR _),CQ e1,CQ e2];rw[EW (f:=l) v s (dR _),EW (f:=l) v s (dR _),EW (f:=h) v s (dR _),EW (f:=h) v s (dR _)];rw[CQ (f:=λt=>l (vG t v false)) (g:=l) (λt=>hl t false),CQ (f:=λt=>l (vG t v true)) (g:=l) (λt=>hl t true),CQ (f:=λt=>h (vG t v false)) (g:=h) (λt=>hh t false),CQ (f:=λt=>h (vG t v true)) (g:=h) (λt=>hh t true)];omega
   simp only[FD];have h1:=SA hf hl hh k (vG s k false) aj;have h2:=SA hf hl hh k (vG s k true) aj;omega
theorem OZ{f:(Int->Bool)->Bool}:∀(k:Nat) (s:Int->Bool),FD f k s=(List.range (2^k)).countP λm=>f λj=>if 0<=j/\j<(k:Int)then m.testBit j.toNat else s j
 | 0,s=>by have:(λj:Int=>if 0<=j/\j<((0:Nat):Int)then(0:Nat).testBit j.toNat else s j)=s:=(by funext j;rw[aB aj]);simp only[FD,mX,List.range_one,iG,List.countP_nil,this];cases f s <;> rfl
 | k+1,s=>by
   simp only[FD];rw[OZ k,OZ k];have e:2^(k+1)=2^k+2^k:=by rw[bU];omega
   rw[e,List.range_add,kZ,oH];congr 1;{apply List.countP_congr;intro m hm;have hm:m<2^k:=(by simpa using hm);have:(λj:Int=>if 0<=j/\j<(k:Int)then m.testBit j.toNat else vG s k false j)=λj:Int=>if 0<=j/\j<((k+1:Nat):Int)then m.testBit j.toNat else s j:=(by funext j;by_cases h1:0<=j/\j<(k:Int);{rw[aG h1,aG aj]};rw[aB h1];unfold vG;by_cases h2:j=(k:Int);{subst h2;rw[aG rfl,aG aj,aJ,mV hm]};rw[aB h2,aB aj]);rw[this]};apply List.countP_congr;intro m hm;have hm:m<2^k:=(by simpa using hm);have:(λj:Int=>if 0<=j/\j<(k:Int)then m.testBit j.toNat else vG s k true j)=λj:Int=>if 0<=j/\j<((k+1:Nat):Int)then(2^k+m).testBit j.toNat else s j:=(by funext j;by_cases h1:0<=j/\j<(k:Int);{rw[aG h1,aG aj];rw[Nat.testBit_two_pow_add_gt aj]};rw[aB h1];unfold vG;by_cases h2:j=(k:Int);{subst h2;rw[aG rfl,aG aj,aJ,Nat.testBit_two_pow_add_eq,mV hm];rfl};rw[aB h2,aB aj]);simp only[Function.comp_apply,this]
def zE:Int->Bool:=λ_=>false
def Tb.cnt(T:Tb)(r:Int):Nat:=FD (λs=>ev T.nodes s r) T.n.toNat zE
theorem a1v{f:(Int->Bool)->Bool}:∀(k:Nat) (s:Int->Bool),FD f k s<=2^k
 | 0,s=>by simp only[FD];cases f s <;> decide
 |k+1,s=>by have h1:=a1v (f:=f) k (vG s k false);have h2:=a1v (f:=f) k (vG s k true);simp only[FD];rw[bU];omega
theorem XD:∀(k:Nat) (s:Int->Bool),FD (λ_=>false) k s=0
 | 0,_=>rfl
 |k+1,s=>by simp only[FD,XD k]
theorem a0q:∀(k:Nat) (s:Int->Bool),FD (λ_=>true) k s=2^k
 | 0,_=>rfl
 |k+1,s=>by simp only[FD,a0q k];rw[bU];omega
theorem tH.a9x{T:Tb}(h:tH T){r:Int}(hr:T.Rf r)(h2:2<=r):T.cnt r=(T.cnt (T.node r).2.1+T.cnt (T.node r).2.2) / 2:=by
 obtain⟨g,e⟩:=h.at hr h2;obtain⟨k1,k2,k3,k4,k5,k6⟩:=h.kid hr h2;have hlr:T.lvl r=T.pl (T.node r).1:=aB aj;have hv:(((T.node r).1.toNat:Nat):Int)=(T.node r).1:=fO g.v.1;have:=SA (f:=λs=>ev T.nodes s r) (l:=λs=>ev T.nodes s (T.node r).2.1) (h:=λs=>ev T.nodes s (T.node r).2.2) (v:=(T.node r).1.toNat)
  (λs=>by rw[hv];exact e s) (λs b=>by rw[hv];exact LG h k1 g.v (by rw[<- hlr];exact k3) s b) (λs b=>by rw[hv];exact LG h k2 g.v (by rw[<- hlr];exact k4) s b) T.n.toNat zE (by have:=g.v;omega)
 unfold Tb.cnt;omega
abbrev encS(M:List Int):List (AV×AV):=M.map λk=>(.int .i64 k,.tt)
theorem a7C{M:List Int}{x:Int}{k:AV->Prop}(hm:x∈M)(h:k .tt):FW (encS M) (.int .i64 x) λr=>DI false .ff r k :=
 ⟨some .tt,⟨(.int .i64 x,.tt),kR (f:=λk=>(AV.int .i64 k,AV.tt)) hm,rfl,rfl⟩,h⟩
theorem a4z{M:List Int}{x:Int}{k:AV->Prop}(hm:x ∉ M)(h:k .ff):FW (encS M) (.int .i64 x) λr=>DI false .ff r k:=by refine⟨none,?_,h⟩;intro z hz e;obtain⟨y,hy,rfl⟩:=bZ.1 hz;exact hm (UQ.1 e ▸ hy)
theorem b6D{M:List Int}{x:Int}{k:List (AV×AV)->Prop}(hm:x ∉ M)(h:k (encS (M++[x]))):b1l (encS M) (.int .i64 x) .tt k:=by refine⟨_,.inl ⟨λz hz e=>?_,rfl⟩,by simpa[encS]using h⟩;obtain⟨y,hy,rfl⟩:=bZ.1 hz;exact hm (UQ.1 e ▸ hy)
theorem BO(n:Nat):∀M:List Int,EZ n (encS M)=true
 | []=>rfl
 |_::M=>by show(match true,true with|true,true=>EZ n (encS M)|_,_=>false)=true;exact BO n M
abbrev b7g(r:Int):List AV:=[.int .i64 r,.ptr 8 [] 0,.ptr 6 [] 0,.ptr 9 [] 0,.ptr 5 [] 0]
abbrev hpS(T:Tb)(most:Int)(M:List Int):Heap :=
 [(9,.box (.fn 121 [.ptr 8 [] 0,.ptr 6 [] 0,.ptr 9 [] 0,.ptr 5 [] 0])),(8,.box (.mp 7)),(7,.tN (.int .i64 0) (encS M)),(6,.box (.int .i64 most)),(5,.box (.ptr 0 [] 0))]++yT T
theorem a6P(most:Int)(d:Nat):∀(T:Tb) (M:List Int),tH T->T.nodes.length<=1000000000->∀(r:Int),T.Rf r->T.n-T.lvl r<=d->((M.length+2^d:Nat):Int)<=most+1->most<=1000000 ->
  ∃M',ZQ 121 (b7g r) (hpS T most M) (.uf []) (hpS T most M')/\M'.length+1<=M.length+2^d:=by
 have early:∀(T:Tb) (M:List Int) (r:Int),(r<2\/r∈M)->(M.length:Int)<=most->most<=1000000->ZQ 121 (b7g r) (hpS T most M) (.uf []) (hpS T most M):=by
  intro T M r h hm hmo;by_cases hr2:r<2
  ·refine ZN Tryz.func121 λhok=>?_;refine aP (λ_=>?_) (λh=>absurd hr2 h);refine ZW ?_;refine ZE ?_ ?_;{exact wk};repeat' first|exact Zq|apply aI
   all_goals first|exact qO _|exact qP _ _|exact BO _ _|exact yK _ _|(simp;done)|skip
  have hmem:r∈M:=h.resolve_left hr2;refine ZN Tryz.func121 λhok=>?_;refine aP (λh=>absurd h hr2) (λ_=>ZW ?_);refine a7C hmem (ZW ?_);refine ZE ?_ ?_;{exact wk};repeat' first|exact Zq|apply aI
  all_goals first|exact qO _|exact qP _ _|exact BO _ _|exact yK _ _|(simp;done)|skip
 induction d with
 | zero =>
   intro T M hT hn r hr hd hm hmo;have hr2:r<2:=by apply aU;intro h;have:=hT.kid hr aj;omega
   rw[mX]at hm ⊢;exact⟨M,early T M r (.inl hr2) aj hmo,aS _⟩
 | succ d ih =>
   intro T M hT hn r hr hd hm hmo;have h2d:0<2^d:=gK au;have h2e:2^(d+1)=2^d+2^d:=by rw[bU];omega
   rw[h2e]at hm ⊢;by_cases hr2:r<2;{exact⟨M,early T M r (.inl hr2) aj hmo,aj⟩};by_cases hmem:r∈M;{exact⟨M,early T M r (.inr hmem) aj hmo,aj⟩};obtain⟨k1,k2,k3,k4,k5,k6⟩:=hT.kid hr aj;have hr':=hr.2;obtain⟨M2,f1,n1⟩:=ih T (M++[r]) hT hn (T.node r).2.1 k1 aj (by rw[bn,jC];omega) hmo;rw[bn,jC]at n1;obtain⟨M3,f2,n2⟩:=ih T M2 hT hn (T.node r).2.2 k2 aj aj hmo;refine⟨M3,?_,aj⟩;refine ZN Tryz.func121 λhok=>?_;refine aP (λh=>absurd h hr2) (λ_=>ZW ?_);refine a4z hmem (ZW ?_);refine⟨aA,ZW ?_⟩;refine aP (λh=>by exfalso;simp only[aC]at h;omega) (λ_=>ZW ?_);refine b6D hmem (ZW ?_);refine wX.mk ⟨[false,false,true,true,false,true,true,true,true,false,false],by kernel_rfl,?_⟩;conv=>whnf
   refine⟨rQ aj aj,?_⟩;conv=>whnf
   refine sK default ⟨aj,aj⟩ ?_;conv=>whnf
   refine .gen _ _ f1 λ_=>ZW ?_;refine wX.mk ⟨[false,false,true,true,false,true,true,true,true,false,false],by kernel_rfl,?_⟩;conv=>whnf
   refine⟨rQ aj aj,?_⟩;conv=>whnf
   refine sK default ⟨aj,aj⟩ ?_;conv=>whnf
   refine .gen _ _ f2 λ_=>ZW ?_;refine ZE ?_ ?_;{exact wk};repeat' first|exact Zq|apply aI
   all_goals first|exact qO _|exact qP _ _|exact BO _ _|exact yK _ _|(simp;done)|skip
theorem a2V(N:Nat)(hN:N<=12)(T:Tb)(hT:tH T)(hn:T.nodes.length<=1000000000)(hTN:T.n<=N)(r:Int)(hr:T.Rf r) :
  ZQ 61 [.ptr 0 [] 0,.int .i64 r,.int .i64 4096] (yT T) .tt (yT T):=by
 have hlp:=hT.F7 hr;have hp:2^N<=2^12:=bQ au hN;obtain⟨M',f,n⟩:=a6P 4096 N T [] hT hn r hr aj (by simp only[iQ];omega) au;simp only[iQ]at n;refine ZN Tryz.func61 λhok=>?_;refine .gen _ _ f λ_=>ZW ?_;refine⟨aA,ZW ?_⟩;refine ZE ?_ ?_;{show((encS M').length:Int)<=4096;rw[aC];omega};repeat' first|exact Zq|apply aI
 all_goals first|exact qO _|exact qP _ _|skip
structure b5D(T:Tb)(D:MI):Prop where
 zero:yP D 0=some 0
 one:yP D 1=some ((2^T.n.toNat:Nat):Int)
 all:∀r x,yP D r=some x->T.Rf r->x=(T.cnt r:Int)
abbrev b7h(r:Int):List AV:=[.int .i64 r,.ptr 7 [] 0,.ptr 8 [] 0,.ptr 5 [] 0]
abbrev hpK(T:Tb)(D:MI):Heap :=
 [(8,.box (.fn 123 [.ptr 7 [] 0,.ptr 8 [] 0,.ptr 5 [] 0])),(7,.box (.mp 6)),(6,.tN (.int .i64 0) (encI D)),(5,.box (.ptr 0 [] 0))]++yT T
theorem Tb.cnt_le(T:Tb)(r:Int):T.cnt r<=2^T.n.toNat:=a1v _ _
theorem Tb.LM(T:Tb):T.cnt 0=0:=XD _ _
theorem Tb.a6G(T:Tb):T.cnt 1=2^T.n.toNat:=a0q _ _
theorem a6R(d:Nat):∀(T:Tb) (D:MI),tH T->T.nodes.length<=1000000000->b5D T D->∀(r:Int),T.Rf r->T.n-T.lvl r<=d ->
  ∃D',ZQ 123 (b7h r) (hpK T D) (.int .i64 (T.cnt r:Nat)) (hpK T D')/\b5D T D':=by
 have known:∀(T:Tb) (D:MI) (r x:Int),yP D r=some x->ZQ 123 (b7h r) (hpK T D) (.int .i64 x) (hpK T D):=by
  intro T D r x hl;refine ZN Tryz.func123 λhok=>?_;refine L9 hl (ZW ?_);refine ZE ?_ ?_;{exact wk};repeat' first|exact Zq|apply aI
  all_goals first|exact qO _|exact qP _ _|exact BO _ _|exact yK _ _|(simp;done)|skip
 induction d with
 | zero =>
   intro T D hT hn hD r hr hd;have hr2:r<2:=by apply aU;intro h;have:=hT.kid hr aj;omega
   have hr0:=hr.1;rcases(by omega:r=0\/r=1)with rfl|rfl;{exact⟨D,by rw[T.LM];exact known T D 0 0 hD.zero,hD⟩};exact⟨D,by rw[T.a6G];exact known T D 1 _ hD.one,hD⟩
 | succ d ih =>
   intro T D hT hn hD r hr hd;cases hl:yP D r with
   |some x =>have:=hD.all r x hl hr;subst this;exact⟨D,known T D r _ hl,hD⟩
   | none =>
     have hr2:2<=r:=by apply aU;intro h;have hr0:=hr.1;rcases(by omega:r=0\/r=1)with rfl|rfl;{rw[hD.zero]at hl;cases hl};rw[hD.one]at hl;cases hl
     obtain⟨k1,k2,k3,k4,k5,k6⟩:=hT.kid hr hr2;have hr':=hr.2;have hsm:=hT.small;have hnn:T.n.toNat<=60:=(by unfold Tb.n;omega);have h60:2^T.n.toNat<=2^60:=bQ au hnn;have b1:=T.cnt_le (T.node r).2.1;have b2:=T.cnt_le (T.node r).2.2;have hc:=hT.a9x hr hr2;obtain⟨D1,f1,g1⟩:=ih T D hT hn hD (T.node r).2.1 k1 aj;obtain⟨D2,f2,g2⟩:=ih T D1 hT hn g1 (T.node r).2.2 k2 aj;refine⟨GU D2 r (T.cnt r:Nat),?_,⟨?_,?_,λr' x' h' hr'=>?_⟩⟩
     ·refine ZN Tryz.func123 λhok=>?_;refine Il hl (ZW ?_);refine wX.both [] [11,12,15] ⟨[false,false,true,true,false,true,true,true,true,true,false,false,false,true,true,false,true,true,true,true,true,false,true,true,true],by kernel_rfl,?_⟩;conv=>whnf
      refine⟨rQ aj aj,?_⟩;conv=>whnf
      refine sK default ⟨aj,aj⟩ ?_;conv=>whnf
      refine .gen _ _ f1 λ_=>?_;conv=>whnf
      (refine aI (by(conv=>whnf)<;>exact rfl) ?_;(conv=>whnf))
      (refine aI (by(conv=>whnf)<;>exact rfl) ?_;(conv=>whnf))
      (refine aI (by(conv=>whnf)<;>exact rfl) ?_;(conv=>whnf))
      refine⟨rQ aj aj,?_⟩;conv=>whnf
      refine sK default ⟨aj,aj⟩ ?_;conv=>whnf
      refine .gen _ _ f2 λ_=>?_;conv=>whnf
      refine⟨rQ aj aj,?_⟩;conv=>whnf
      refine⟨au,?_⟩;have ec:Int.tdiv (((T.cnt (T.node r).2.1:Nat):Int)+((T.cnt (T.node r).2.2:Nat):Int)) 2=((T.cnt r:Nat):Int):=(by rw[hc,Int.tdiv_eq_ediv_of_nonneg aj];omega);rw[ec];have b3:=T.cnt_le r;refine⟨rQ aj aj,ZW ?_⟩;refine Ud (ZW ?_);refine ZE ?_ ?_;{exact wk};repeat' first|exact Zq|apply aI
      all_goals first|exact qO _|exact qP _ _|exact BO _ _|exact yK _ _|(simp;done)|skip
     ·rw[Bc,aB aj];exact g2.zero
     ·rw[Bc,aB aj];exact g2.one
     rw[Bc]at h';split at h';{rename_i e;subst e;exact(aW h').symm};exact g2.all r' x' h' hr'
theorem XG(T:Tb)(hT:tH T)(hn:T.nodes.length<=1000000000)(r:Int)(hr:T.Rf r) :
  ZQ 63 [.ptr 0 [] 0,.int .i64 r] (yT T) (.int .i64 (T.cnt r:Nat)) (yT T):=by
 have hlp:=hT.F7 hr;have hsm:=hT.small;have h60:2^T.n.toNat<=2^60:=bQ au (by unfold Tb.n;omega);obtain⟨D',f,g⟩:=a6R T.n.toNat T [(0,0),(1,((2^T.n.toNat:Nat):Int))] hT hn ⟨rfl,rfl,λr x h hr=>by
  simp only[yP]at h;split at h;{rename_i e;subst e;rw[T.LM];exact(aW h).symm};split at h;{rename_i e;subst e;rw[T.a6G];exact(aW h).symm};cases h⟩ r hr aj
 refine ZN Tryz.func63 λhok=>?_;refine Ud (es:=[]) (ZW ?_);rw[aC];refine⟨aj,?_⟩;rw[Hy aj];refine ZW ?_;rw[show 2^T.order.length=2^T.n.toNat from rfl];refine Ud (es:=[(0,0)]) (ZW ?_);refine .gen _ _ f λ_=>ZW ?_;refine ZE ?_ ?_;{exact wk};repeat' first|exact Zq|apply aI
 all_goals first|exact qO _|exact qP _ _|exact BO _ _|exact yK _ _|(simp;done)|skip
def Ej(T:Tb)(ns:List Node)(r:Int):Int:=if r<2 then T.n else T.pl (ns.getD (r-2).toNat default).1
structure Dp(T:Tb)(ns:List Node)(k:Nat)(x:Node):Prop where
 v:0<=x.1/\x.1<T.n
 lo:0<=x.2.1/\x.2.1<2+(k:Int)
 hi:0<=x.2.2/\x.2.2<2+(k:Int)
 llo:T.pl x.1<Ej T ns x.2.1
 lhi:T.pl x.1<Ej T ns x.2.2
structure ImS where
 T:Tb
 refs:List Int
def gR(refs:List Int)(r:Int):Int:=refs.getD r.toNat 0
structure ImI(T:Tb)(ns:List Node)(k:Nat)(s:ImS):Prop where
 good:tH s.T
 ext:Xt T s.T
 len:s.refs.length=2+ns.length
 all:∀r:Int,0<=r->r<2+(k:Int)->s.T.Rf (gR s.refs r)/\Ej T ns r<=s.T.lvl (gR s.refs r)/\∀t,ev s.T.nodes t (gR s.refs r)=ev ns t r
 size:s.T.nodes.length<=T.nodes.length+k
def ImR(ns:List Node)(k:Nat)(s s':ImS):Prop :=
 ∃x,ZQ 118 [.ptr 0 [] 0,.int .i64 (ns.getD k default).1,.int .i64 (gR s.refs (ns.getD k default).2.1),.int .i64 (gR s.refs (ns.getD k default).2.2)] (yT s.T) (.int .i64 x) (yT s'.T)/\s'.refs=s.refs.set (2+k) x
theorem b4P{refs:List Int}{k:Nat}{x r:Int}(hk:k<refs.length)(h0:0<=r):gR (refs.set k x) r=if r=(k:Int)then x else gR refs r:=by unfold gR;rw[aF,kG];by_cases h:r=(k:Int);{subst h;rw[aG aj,aG hk,aG rfl];rfl};rw[aB aj,aB h,aF]
theorem b2c{T:Tb}{ns:List Node}(_:tH T)(hns:∀(k:Nat) (h:k<ns.length),Dp T ns k ns[k])(hS:T.nodes.length+ns.length<=1000000000){k:Nat}(hk:k<ns.length){s:ImS}(h:ImI T ns k s) :
  ∃s',ImI T ns (k+1) s'/\ImR ns k s s':=by
 have g:=hns k hk;have ex:ns.getD k default=ns[k]:=(by rw[aF,aH hk];rfl);obtain⟨a1,a2,a3⟩:=h.all _ g.lo.1 g.lo.2;obtain⟨b1,b2,b3⟩:=h.all _ g.hi.1 g.hi.2;have m:=Nj h.good (v:=ns[k].1) (lo:=gR s.refs ns[k].2.1) (hi:=gR s.refs ns[k].2.2) (by rw[h.ext.n];exact g.v) a1 b1 (by rw[h.ext.pl];have:=g.llo;omega) (by rw[h.ext.pl];have:=g.lhi;omega);have hsz:=h.size;have q:=a1A s.T ns[k].1 (gR s.refs ns[k].2.1) (gR s.refs ns[k].2.2) aj;generalize s.T.make ns[k].1 (gR s.refs ns[k].2.1) (gR s.refs ns[k].2.2)=w at *;obtain⟨T',x⟩:=w;obtain⟨m1,m2,m3,m4,m5,m6,m7⟩:=m;dsimp only at m1 m2 m3 m4 m5 m6 m7 q;have hlen:=h.len;refine⟨⟨T',s.refs.set (2+k) x⟩,⟨m1,h.ext.trans m2,by show(s.refs.set (2+k) x).length=_;rw[ni];exact hlen,λr h0 h1=>?_,by show T'.nodes.length<=_;omega⟩,x,by rw[ex];exact q,rfl⟩;show T'.Rf (gR (s.refs.set (2+k) x) r)/\Ej T ns r<=T'.lvl (gR (s.refs.set (2+k) x) r)/\∀t,ev T'.nodes t (gR (s.refs.set (2+k) x) r)=ev ns t r;rw[b4P aj h0];by_cases hr:r=((2+k:Nat):Int);{rw[aG hr];have e1:(ns.getD (r-2).toNat default)=ns[k]:=(by rw[show(r-2).toNat=k by omega,ex]);refine⟨m3,?_,λt=>?_⟩;{unfold Ej;rw[aB aj,e1,<- h.ext.pl];exact m4};have:=JL ns t hk g.lo.2 g.hi.2;rw[show r=2+(k:Int) by omega,this,m7 t,a3 t,b3 t]};rw[aB hr];obtain⟨c1,c2,c3⟩:=h.all r h0 aj;exact⟨m2.rf c1,by rw[m2.lvl c1];exact c2,λt=>by rw[m2.ev c1];exact c3 t⟩
abbrev Oh(order:List Int)(ns:List Node)(root:Int):AV:=.ag [.sl 1 (order.map (.int .i64)) .no,.sl 3 (ns.map OG) .no,.int .i64 root]
theorem a0s(T:Tb)(order:List Int)(ns:List Node)(root:Int)(hT:tH T)(hns:∀(k:Nat) (h:k<ns.length),Dp T ns k ns[k])(hS:T.nodes.length+ns.length<=1000000000)(hr:0<=root/\root<2+(ns.length:Int)) :
  ∃T' x,ZQ 59 [.ptr 0 [] 0,Oh order ns root] (yT T) (.int .i64 x) (yT T')/\tH T'/\Xt T T'/\T'.Rf x/\(∀t,ev T'.nodes t x=ev ns t root)/\T'.nodes.length<=T.nodes.length+ns.length:=by
 obtain⟨f,f0,f1,f2⟩:=GZ (λk s=>ImI T ns k s) (λk s s'=>ImR ns k s s') ns.length ⟨T,0::1::List.replicate ns.length 0⟩
  ⟨hT,.refl _,aA,λr h0 h1=>by
   rcases(by omega:r=0\/r=1)with rfl|rfl;{exact⟨.zero T,dR _,λt=>rfl⟩};exact⟨.one T,dR _,λt=>rfl⟩,aS _⟩
  (λk s hk h=>b2c hT hns hS hk h)
 have l:=f1 ns.length (aS _);obtain⟨r1,r2,r3⟩:=l.all root hr.1 hr.2;refine⟨(f ns.length).T,gR (f ns.length).refs root,?_,l.good,l.ext,r1,r3,l.size⟩;have hll:=l.len;refine ZN Tryz.func59 λhok=>?_;rw[aC];refine⟨rQ aj aj,ZW ?_⟩;rw[show(2:Int)+(ns.length:Int)=((2+ns.length:Nat):Int) by omega];refine⟨⟨aj,dR _,by show((2+ns.length:Nat):Int)*((8:Nat):Int)<=281474976710656;omega,aj⟩,.wr ?_⟩;rw[aJ];refine ZW ?_;refine⟨⟨aj,aj⟩,ZW ?_⟩;refine⟨aA,rfl,ZW ?_⟩;rw[show(List.replicate (2+ns.length) (AV.int IntKind.i64 0)).set (0+Int.toNat 1) (strip (AV.int IntKind.i64 1))=(f 0).refs.map (.int .i64)from by
  rw[f0,lF 2];simp[nM,strip]]
 refine qV.of <| (qM.inv (.refl _ _) (λk:Nat=>k<=ns.length) (λk=>[(18,.int .i64 k)]) (λk=>(6,.arr 1 (2+ns.length) ((f k).refs.map (.int .i64)))::(5,.box (Oh order ns root))::yT (f k).T) (λk=>ns.length-k) 0 (aO _) ?_ ?_ ?_);{exact λ_=>rfl}
 ·have hT0:T=(f 0).T:=(by rw[f0]);refine Zv wk ?_;rw[<- hT0];repeat' first|exact Zq|apply aI
  all_goals first|exact qO _|exact qP _ _|skip
 intro k hk _;have lk:=f1 k hk;have lkl:=lk.len;refine ZS ?_ ?_<;>intro h
 ·have hlt:k<ns.length:=(by simpa using h);obtain⟨x,g1,g2⟩:=f2 k hlt;have gk:=hns k hlt;have ex:ns.getD k default=ns[k]:=(by rw[aF,aH hlt];rfl);rw[ex]at g1;refine ZW ?_;refine rV hlt (ZW ?_);refine wX.mk ⟨[true,true,true,true,true,false,true,true,false,true,false,true,true,false,true,false,false,true,false],by kernel_rfl,?_⟩;conv=>whnf
  refine⟨rQ aj aj,?_⟩;conv=>whnf
  refine⟨⟨gk.lo.1,by have:=gk.lo.2;omega⟩,?_⟩;conv=>whnf
  rw[bC];refine sK 0 ⟨aj,by have:=gk.lo.2;have:=gk.lo.1;omega⟩ ?_;conv=>whnf
  refine⟨rfl,?_⟩;conv=>whnf
  refine⟨⟨gk.hi.1,by have:=gk.hi.2;omega⟩,?_⟩;conv=>whnf
  rw[bC];refine sK 0 ⟨aj,by have:=gk.hi.2;have:=gk.hi.1;omega⟩ ?_;conv=>whnf
  refine⟨rfl,?_⟩;conv=>whnf
  rw[aJ,aJ];refine .gen _ _ (Oc [(7,_),(6,_),(5,_)] ak g1 (λ_=>rfl) (λ_=>rfl) rfl) λ_=>?_;conv=>whnf
  refine⟨⟨aj,aj⟩,?_⟩;conv=>whnf
  refine⟨by rw[aC];omega,rfl,ZW ?_⟩;rw[show 0+(2+(k:Int)).toNat=2+k by omega];refine ZG ?_;refine⟨k+1,?_,?_,?_⟩;{exact hlt}
  ·rw[g2];refine Zv wk ?_;repeat' first|exact Zq|apply aI
   all_goals first|exact qO _|exact qP _ _|(rw[dP];exact qU _)|skip
  omega
 have hk:k=ns.length:=(by(have:¬k<ns.length:=by simpa using h);omega);subst hk;refine ZW ?_;refine⟨⟨hr.1,by have:=hr.2;omega⟩,ZW ?_⟩;rw[bC];refine sK 0 ⟨aj,by have:=hr.1;have:=hr.2;omega⟩ (ZW ?_);refine⟨rfl,ZW ?_⟩;rw[aJ];refine ZE ?_ ?_;{exact wk};repeat' first|exact Zq|apply aI
 all_goals first|exact qO _|exact qP _ _|(simp;done)|skip
theorem WI{T:Tb}{ns l:List Node}{x:Int}(h:x<2+(ns.length:Int)):Ej T (ns++l) x=Ej T ns x:=by unfold Ej;split;{rfl};rw[aF,aF,bH aj]
theorem Dp.app{T:Tb}{ns l:List Node}{k:Nat}{x:Node}(h:Dp T ns k x)(hk:k<=ns.length):Dp T (ns++l) k x :=
 ⟨h.v,h.lo,h.hi,by rw[WI (by have:=h.lo.2;omega)];exact h.llo,by rw[WI (by have:=h.hi.2;omega)];exact h.lhi⟩
structure ExR(T:Tb)(ns:List Node)(r x:Int):Prop where
 lo:0<=x
 hi:x<2+(ns.length:Int)
 lvl:Ej T ns x=T.lvl r
 val:∀t,ev ns t x=ev T.nodes t r
theorem ExR.app{T:Tb}{ns l:List Node}{r x:Int}(h:ExR T ns r x):ExR T (ns++l) r x :=
 ⟨h.lo,by have:=h.hi;rw[bn];omega,by rw[WI h.hi];exact h.lvl,λt=>by rw[Sj _ _ _ h.hi];exact h.val t⟩
structure ExI(T:Tb)(D:MI)(ns:List Node):Prop where
 zero:∃x,yP D 0=some x
 one:∃x,yP D 1=some x
 all:∀r x,yP D r=some x->T.Rf r->ExR T ns r x
 nodes:∀(k:Nat) (h:k<ns.length),Dp T ns k ns[k]
abbrev b7i(r:Int):List AV:=[.int .i64 r,.ptr 9 [] 0,.ptr 5 [] 0,.ptr 10 [] 0,.ptr 7 [] 0]
abbrev b1n:AV:=.ag [.qW,.qW,.int .i64 0]
abbrev hpE(T:Tb)(D:MI)(ns:List Node):Heap :=
 [(11,.tok 3 ns.length),(10,.box (.fn 190 [.ptr 9 [] 0,.ptr 5 [] 0,.ptr 10 [] 0,.ptr 7 [] 0])),(9,.box (.mp 8)),(8,.tN (.int .i64 0) (encI D)),
  (7,.box (.ag [.sl 1 (T.order.map (.int .i64)) .no,.sl 3 (ns.map OG) (.own 11),.int .i64 0])),(6,.box b1n),(5,.box (.ptr 0 [] 0))]++yT T
theorem b5P(T:Tb)(D:MI)(ns:List Node):b0r 12 (hpE T D ns):=⟨rfl,rfl,rfl,yK _ _,rfl,rfl,rfl,b7f T 12 au⟩
theorem a4A{es:MI}{x r:Int}{k:AV->Prop}(hl:yP es x=some r)(h:k (.int .i64 r)):FW (encI es) (.int .i64 x) λr=>DI false (.int .i64 0) r k:=by
 refine⟨some (.int .i64 r),?_,h⟩;induction es with
 |nil=>simp[yP]at hl
 |cons e es ih =>obtain⟨y,v⟩:=e;simp only[yP]at hl;by_cases hy:y=x;{subst hy;rw[aG rfl]at hl;obtain rfl:=aW hl;exact⟨_,dD,rfl,rfl⟩};rw[aB hy]at hl;obtain⟨z,hz,h3,h4⟩:=ih hl;exact⟨z,by simp only[encI,dF,aT];exact .inr hz,h3,h4⟩
theorem b5o{es:MI}{x v w:Int}{k:List (AV×AV)->Prop}(e:w=v)(h:k (encI (GU es x v))):b1l (encI es) (.int .i64 x) (.int .i64 w) k:=by subst e;exact Ud h
theorem a4k(T:Tb)(hT:tH T)(hn:T.nodes.length<=1000000000)(d:Nat):∀(D:MI) (ns:List Node),ExI T D ns->∀(r:Int),T.Rf r->T.n-T.lvl r<=d->ns.length+2^d<=1000000000 ->
  ∃D' ns' x,ZQ 190 (b7i r) (hpE T D ns) (.int .i64 x) (hpE T D' ns')/\ExI T D' ns'/\(∃l,ns'=ns++l)/\ExR T ns' r x/\ns'.length+1<=ns.length+2^d:=by
 have known:∀(D:MI) (ns:List Node) (r x:Int),yP D r=some x->ZQ 190 (b7i r) (hpE T D ns) (.int .i64 x) (hpE T D ns):=by
  intro D ns r x hl;refine ZN Tryz.func190 λhok=>?_;refine L9 hl (ZW ?_);refine ZE ?_ ?_;{exact wk};repeat' first|exact Zq|apply aI
  all_goals first|exact qO _|exact qP _ _|exact BO _ _|exact yK _ _|(show sS _ (List.map _ (_++[_]));rw[aV];exact qU _)|(simp;done)|skip
 have h2d:∀d:Nat,0<2^d:=λd=>gK au;induction d with
 | zero =>
   intro D ns hD r hr hd hS;have hr2:r<2:=by apply aU;intro h;have:=hT.kid hr aj;omega
   have hr0:=hr.1;obtain⟨x,hl⟩:∃x,yP D r=some x:=(by rcases(by omega:r=0\/r=1)with rfl|rfl;{exact hD.zero};exact hD.one);exact⟨D,ns,x,known D ns r x hl,hD,⟨[],ak⟩,hD.all r x hl hr,aS _⟩
 | succ d ih =>
   intro D ns hD r hr hd hS;have h2e:2^(d+1)=2^d+2^d:=by rw[bU];omega
   have hp:=h2d d;rw[h2e]at hS ⊢;cases hl:yP D r with
   |some x=>exact⟨D,ns,x,known D ns r x hl,hD,⟨[],ak⟩,hD.all r x hl hr,aj⟩
   | none =>
     have hr2:2<=r:=by apply aU;intro h;have hr0:=hr.1;rcases(by omega:r=0\/r=1)with rfl|rfl;{obtain⟨x,h⟩:=hD.zero;rw[h]at hl;cases hl};obtain⟨x,h⟩:=hD.one;rw[h]at hl;cases hl
     obtain⟨k1,k2,k3,k4,k5,k6⟩:=hT.kid hr hr2;obtain⟨gn,ge⟩:=hT.at hr hr2;have hr':=hr.2;have hlr:T.lvl r=T.pl (T.node r).1:=aB aj;obtain⟨D1,n1,x1,f1,i1,⟨l1,e1⟩,p1,s1⟩:=ih D ns hD (T.node r).2.1 k1 aj aj;obtain⟨D2,n2,x2,f2,i2,⟨l2,e2⟩,p2,s2⟩:=ih D1 n1 i1 (T.node r).2.2 k2 aj aj;have p1':ExR T n2 (T.node r).2.1 x1:=(by rw[e2];exact p1.app);have hnew:∀h:n2.length<(n2++[((T.node r).1,x1,x2)]).length,(n2++[((T.node r).1,x1,x2)])[n2.length]=((T.node r).1,x1,x2):=λh=>ak;have b7W:Dp T (n2++[((T.node r).1,x1,x2)]) n2.length ((T.node r).1,x1,x2) :=
      Dp.app ⟨gn.v,⟨p1'.lo,p1'.hi⟩,⟨p2.lo,p2.hi⟩,by show T.pl (T.node r).1<Ej T n2 x1;rw[p1'.lvl,<- hlr];exact k3,by show T.pl (T.node r).1<Ej T n2 x2;rw[p2.lvl,<- hlr];exact k4⟩ (aS _)
     have b6X:ExR T (n2++[((T.node r).1,x1,x2)]) r (2+(n2.length:Int)):=(by refine⟨aj,aA,?_,λt=>?_⟩;{unfold Ej;rw[aB aj,show(2+(n2.length:Int)-2).toNat=n2.length by omega,aF,aH ak,hnew,hlr];rfl};have:=JL (n2++[((T.node r).1,x1,x2)]) t (k:=n2.length) ak (by rw[hnew];exact p1'.hi) (by rw[hnew];exact p2.hi);rw[hnew]at this;rw[this,Sj _ _ _ p1'.hi,Sj _ _ _ p2.hi,p1'.val,p2.val,ge t]);refine⟨GU D2 r (2+(n2.length:Int)),n2++[((T.node r).1,x1,x2)],2+(n2.length:Int),?_,⟨?_,?_,λr' x' h' hr''=>?_,λk hk=>?_⟩,⟨l1++l2++[((T.node r).1,x1,x2)],by rw[e2,e1];simp⟩,b6X,aA⟩
     ·have t1:=λK:AV=>qX.top 12 [(12,.box K)] ak f1 ⟨rfl,rfl⟩ (b5P _ _ _) (b5P _ _ _) ⟨rfl,rfl⟩ ⟨rfl,rfl⟩;have t2:=λK:AV=>qX.top 12 [(12,.box K)] ak f2 ⟨rfl,rfl⟩ (b5P _ _ _) (b5P _ _ _) ⟨rfl,rfl⟩ ⟨rfl,rfl⟩;refine ZN Tryz.func190 λhok=>?_;refine Il hl (ZW ?_);refine⟨rQ aj aj,ZW ?_⟩;refine sK default ⟨aj,aj⟩ (ZW ?_);refine .gen _ _ (t1 _) λ_=>ZW ?_;refine .gen _ _ (t2 _) λ_=>ZW ?_;refine⟨by rw[aC],.mk (by simp[maxL];omega) aA (ZW ?_)⟩;refine⟨rQ aA aA,ZW ?_⟩;refine b5o (v:=2+(n2.length:Int)) aA (ZW ?_);refine a4A (r:=2+(n2.length:Int)) (by rw[Bc,aG rfl]) (ZW ?_);refine ZE ?_ ?_;{exact wk};repeat' first|exact Zq|apply aI
      all_goals first|exact qO _|exact qP _ _|exact BO _ _|exact yK _ _|(show sS _ (List.map _ (_++[_]));rw[aV];exact qU _)|(simp;done)|skip
     ·rw[Bc,aB aj];exact i2.zero
     ·rw[Bc,aB aj];exact i2.one
     ·rw[Bc]at h';split at h';{rename_i e;subst e;obtain rfl:=aW h';exact b6X};exact(i2.all r' x' h' hr'').app
     by_cases hkl:k<n2.length;{rw[kT hkl];exact(i2.nodes k hkl).app aj};obtain rfl:k=n2.length:=by simp at hk;omega
     rw[hnew];exact b7W
theorem a6Q(T:Tb)(hT:tH T)(hn:T.nodes.length<=1000000000)(hS:2^T.n.toNat<=1000000000)(r:Int)(hr:T.Rf r) :
  ∃ns x,ZQ 117 [.ptr 0 [] 0,.int .i64 r] (yT T) (Oh T.order ns x) (yT T)/\(∀(k:Nat) (h:k<ns.length),Dp T ns k ns[k])/\0<=x/\x<2+(ns.length:Int)/\(∀t,ev ns t x=ev T.nodes t r)/\ns.length<=2^T.n.toNat:=by
 have hlp:=hT.F7 hr;have hsm:=hT.small;have i0:ExI T [(0,0),(1,1)] []:=by refine⟨⟨0,rfl⟩,⟨1,rfl⟩,λr x h hr=>?_,λk hk=>absurd hk (gJ _)⟩;simp only[yP]at h;split at h;{rename_i e;subst e;obtain rfl:=aW h;exact⟨aj,aj,rfl,λt=>rfl⟩};split at h;{rename_i e;subst e;obtain rfl:=aW h;exact⟨aj,aj,rfl,λt=>rfl⟩};cases h
 obtain⟨D',ns',x,f,g,⟨l,e⟩,p,n⟩:=a4k T hT hn T.n.toNat [(0,0),(1,1)] [] i0 r hr aj (by simpa using hS);simp only[iQ,bC]at n;refine⟨ns',x,?_,g.nodes,p.lo,p.hi,p.val,aj⟩;refine ZN Tryz.func117 λhok=>?_;refine .pure (by simp[maxL];omega) aA (ZW ?_);refine Ud (es:=[]) (ZW ?_);refine Ud (es:=[(0,0)]) (ZW ?_);refine .gen _ _ (qX.pre (.GY 7 [1] 3 [] (.ag [.sl 1 (T.order.map (.int .i64)) .no,.qW,.int .i64 0]) .qW _ rfl rfl (.inl ⟨rfl,rfl⟩) rfl (.refl _ _)) f) λ_=>ZW ?_;refine ZE ?_ ?_;{exact wk};repeat' first|exact Zq|apply aI
 all_goals first|exact qO _|exact qP _ _|exact BO _ _|exact yK _ _|(show sS _ (List.map _ (_++[_]));rw[aV];exact qU _)|(simp;done)|skip
structure NR(v:Int)(i:Nat)(x:Nd):Prop where
 kind:0<=x.kind/\x.kind<=5
 num:if x.kind=0 then x.args.length=0 else if x.kind=1 then x.args.length=1 else 1<=x.args.length/\x.args.length<=16
 args:∀a∈x.args,0<=a/\a<v+i
 k:if x.kind=0 then x.k=0\/x.k=1 else if x.kind=4 then 1<=x.k/\x.k<=x.args.length else x.k=0
structure KL(f:Fo):Prop where
 vars:0<=f.vars/\f.vars<=24
 len:f.nodes.length<=128
 nodes:∀(i:Nat) (h:i<f.nodes.length),NR f.vars i f.nodes[i]
 top:0<=f.top/\f.top<f.vars+f.nodes.length
theorem a0y(x:Nd)(v:Int)(i:Nat)(h:NR v i x):ZQ 229 [.int .i64 x.kind,.int .i64 x.args.length] [] .tt []:=by have h2:=h.num;refine ZN Tryz.func229 λhok=>?_;constructor<;>intro g;{rw[aG g]at h2;refine ZW ?_;refine ZF ?_;show(x.args.length:Int)=0;omega};rw[aB g]at h2;refine ZS ?_ ?_<;>intro g;{rw[aG g]at h2;refine ZW ?_;refine ZF ?_;show(x.args.length:Int)=1;omega};rw[aB g]at h2;refine ZW ?_;refine aP (λg=>?_) (λg=>by exfalso;omega);refine ZW ?_;refine ZF ?_;show(x.args.length:Int)<=16;omega
theorem a0x(f:Fo)(hv:0<=f.vars/\f.vars<=24)(i:Nat)(hi:i<f.nodes.length)(hl:f.nodes.length<=128)(h:NR f.vars i f.nodes[i]):ZQ 183 [f.av,.int .i64 i] [] .vJ []:=by have ca:=a0y _ _ _ h;obtain⟨h1,h2,h3,h4⟩:=h;have hal:f.nodes[i].args.length<=16:=(by split at h2;{omega};split at h2 <;> omega);refine ZN Tryz.func183 λhok=>?_;refine rV hi ?_;generalize f.nodes[i]=x at *;refine ZW ?_;refine aP (λg=>by exfalso;omega) (λg=>ZW ?_);refine aP (λg=>by exfalso;omega) (λg=>ZW ?_);rw[show(((x.args.map (AV.int .i64)).length:Nat):Int)=(x.args.length:Int) by simp];refine .zW ca ?_;refine qV.of <| qM.inv (.refl _ _) (fun(j:Nat)=>j<=x.args.length) (fun(j:Nat)=>[(33,.int .i64 j)]) (λ_=>_) (fun(j:Nat)=>x.args.length-j) 0 ?_ (λ_=>rfl) ?_ ?_;{exact aO _};{exact wk};intro j hj _;refine ZS ?_ ?_<;>intro g1;{have hjl:j<x.args.length:=(by simpa using g1);have ha:=h3 _ (aQ hjl);refine ZW ?_;refine rV hjl ?_;generalize x.args[j]=a at *;refine ZW ?_;refine aP (λg=>by exfalso;omega) (λg=>ZW ?_);refine ZG ?_;refine aP (λg=>by exfalso;omega) (λg=>ZW ?_);refine ZG ?_;refine⟨j+1,?_,?_,?_⟩;{exact hjl};{exact wk};omega};refine ZS ?_ ?_<;>intro g;{rw[aG g]at h4;refine ZS ?_ ?_<;>intro g;{refine ZW ?_;refine aP (λg=>by exfalso;omega) (λg=>?_);exact ZJ};exact ZJ};rw[aB g]at h4;refine ZS ?_ ?_<;>intro g;{rw[aG g]at h4;refine ZW ?_;refine aP (λg=>by exfalso;omega) (λg=>ZW ?_);refine aP (λg=>by exfalso;simp at g;omega) (λg=>?_);exact ZJ};rw[aB g]at h4;refine ZW ?_;refine aP (λg=>by exfalso;omega) (λg=>?_);exact ZJ
theorem a9Y(f:Fo)(h:KL f):ZQ 184 [f.av,.int .i64 f.top] [] .tt []:=by obtain⟨h1,h2,_,h4⟩:=h;refine ZN Tryz.func184 λhok=>?_;refine aP (λ_=>?_) (λg=>by exfalso;omega);refine ZW ?_;refine aP (λ_=>?_) (λg=>by exfalso;omega);refine ZS ?_ ?_<;>intro g;{exact ZJ};refine ZW ?_;refine ZG ?_;refine ZF ?_;show f.top-f.vars<(((f.nodes.map Nd.av).length:Nat):Int);simp;omega
theorem QL(f:Fo)(h:KL f):ZQ 110 [f.av] [] .vJ []:=by have cv:=a9Y f h;obtain⟨h1,h2,h3,h4⟩:=h;have cn:=λi hi=>a0x f h1 i hi h2 (h3 i hi);refine ZN Tryz.func110 λhok=>?_;refine aP (λg=>by exfalso;omega) (λg=>ZW ?_);refine aP (λg=>by exfalso;omega) (λg=>ZW ?_);refine aP (λg=>by exfalso;simp at g;omega) (λg=>ZW ?_);refine qV.of <| qM.inv (.refl _ _) (fun(i:Nat)=>i<=f.nodes.length) (fun(i:Nat)=>[(22,.int .i64 i)]) (λ_=>_) (fun(i:Nat)=>f.nodes.length-i) 0 ?_ (λ_=>rfl) ?_ ?_;{exact aO _};{exact wk};intro i hi _;refine ZS ?_ ?_<;>intro g1;{have hil:i<f.nodes.length:=(by simpa using g1);refine ZW ?_;refine .zW (cn i hil) ?_;refine ZG ?_;refine⟨i+1,?_,?_,?_⟩;{exact hil};{exact wk};omega};refine ZW ?_;refine .zW cv ?_;exact ZH
def JU(v:List Bool)(args:List Int):Nat:=args.foldl (λn a=>if v.getD a.toNat false=true then n+1 else n) 0
def zS(x:Nd)(n:Nat):Bool :=
 if x.kind=0 then decide (x.k=1)else if x.kind=1 then decide (n=0)else if x.kind=2 then decide (n=x.args.length)else if x.kind=3 then decide (0<n)
 else if x.kind=4 then decide (x.k<=n)else if x.kind=5 then decide (n % 2=1)else false
def Ul(v:List Bool)(x:Nd):List Bool:=v++[zS x (JU v x.args)]
def valsF(vars set:Nat)(nodes:List Nd):List Bool:=nodes.foldl Ul (evs vars set)
theorem PD(vars set:Nat):∀(nodes:List Nd),(valsF vars set nodes).length=vars+nodes.length:=by
 have key:∀(l:List Nd) (v:List Bool),(l.foldl Ul v).length=v.length+l.length:=by
  intro l;induction l with
  |nil=>intro v;simp
  |cons x l ih=>intro v;simp only[dY,ih,Ul,bn,dW,iQ];omega
 intro nodes;unfold valsF;rw[key];simp[evs]
theorem a6H{v:List Bool}{args:List Int}{j:Nat}(h:j<args.length):JU v (args.take (j+1))=if v.getD (args[j]).toNat false=true then JU v (args.take j)+1 else JU v (args.take j):=by unfold JU;rw[eP,aH h,fU];rfl
theorem a6I(v:List Bool):∀(args:List Int),JU v args<=args.length:=by
 have key:∀(l:List Int) (n:Nat),l.foldl (λn a=>if v.getD a.toNat false=true then n+1 else n) n<=n+l.length:=by
  intro l;induction l with
  |nil=>intro n;simp
  |cons a l ih =>intro n;simp only[dY,dW];split;{have:=ih (n+1);omega};have:=ih n;omega
 intro args;have:=key args 0;unfold JU;omega
structure OpP(T T':Tb)(r:Int)(f:(Int->Bool)->Bool)(z:Nat):Prop where
 good:tH T'
 ext:Xt T T'
 rf:T'.Rf r
 val:∀s,ev T'.nodes s r=f s
 size:T'.nodes.length<=T.nodes.length+z
theorem VG(T:Tb)(hT:tH T)(N:Nat)(hN:T.n<=N)(a b c:Int)(ha:T.Rf a)(hb:T.Rf b)(hc:T.Rf c):T.n-min (min (T.lvl a) (T.lvl b)) (T.lvl c)<=N:=by have:=hT.F7 ha;have:=hT.F7 hb;have:=hT.F7 hc;omega
theorem b0T(N:Nat)(T:Tb)(hT:tH T)(hN:T.n<=N)(a:Int)(ha:T.Rf a)(hS:T.nodes.length+2^N<=1000000000) :
  ∃T' r,ZQ 120 [.ptr 0 [] 0,.int .i64 a] (yT T) (.int .i64 r) (yT T')/\OpP T T' r (λs=>!ev T.nodes s a) (2^N):=by
 obtain⟨T',r,f,p,n⟩:=Gt N T hT a 0 1 ha (.zero T) (.one T) (VG T hT N hN _ _ _ ha (.zero T) (.one T)) hS;refine⟨T',r,?_,⟨p.good,p.ext,p.rf,λs=>by rw[p.val s,F9,OX];cases ev T.nodes s a <;> rfl,aj⟩⟩;refine ZN Tryz.func120 λhok=>?_;refine .gen _ _ f λ_=>ZW ?_;refine ZE ?_ ?_;{exact wk};repeat' first|exact Zq|apply aI
 all_goals first|exact qO _|exact qP _ _|(simp;done)|skip
theorem a6S(N:Nat)(T:Tb)(hT:tH T)(hN:T.n<=N)(a b:Int)(ha:T.Rf a)(hb:T.Rf b)(hS:T.nodes.length+2*2^N<=1000000000) :
  ∃T' r,ZQ 64 [.ptr 0 [] 0,.int .i64 a,.int .i64 b] (yT T) (.int .i64 r) (yT T')/\OpP T T' r (λs=>ev T.nodes s a&&ev T.nodes s b) (2*2^N):=by
 obtain⟨T',r,f,p,n⟩:=Gt N T hT a b 0 ha hb (.zero T) (VG T hT N hN _ _ _ ha hb (.zero T)) aj;refine⟨T',r,?_,⟨p.good,p.ext,p.rf,λs=>by rw[p.val s,F9];cases ev T.nodes s a <;> rfl,aj⟩⟩;refine ZN Tryz.func64 λhok=>?_;refine .gen _ _ f λ_=>ZW ?_;refine ZE ?_ ?_;{exact wk};repeat' first|exact Zq|apply aI
 all_goals first|exact qO _|exact qP _ _|(simp;done)|skip
theorem b6z(N:Nat)(T:Tb)(hT:tH T)(hN:T.n<=N)(a b:Int)(ha:T.Rf a)(hb:T.Rf b)(hS:T.nodes.length+2*2^N<=1000000000) :
  ∃T' r,ZQ 188 [.ptr 0 [] 0,.int .i64 a,.int .i64 b] (yT T) (.int .i64 r) (yT T')/\OpP T T' r (λs=>ev T.nodes s a||ev T.nodes s b) (2*2^N):=by
 obtain⟨T',r,f,p,n⟩:=Gt N T hT a 1 b ha (.one T) hb (VG T hT N hN _ _ _ ha (.one T) hb) aj;refine⟨T',r,?_,⟨p.good,p.ext,p.rf,λs=>by rw[p.val s,OX];cases ev T.nodes s a <;> rfl,aj⟩⟩;refine ZN Tryz.func188 λhok=>?_;refine .gen _ _ f λ_=>ZW ?_;refine ZE ?_ ?_;{exact wk};repeat' first|exact Zq|apply aI
 all_goals first|exact qO _|exact qP _ _|(simp;done)|skip
theorem b0S(N:Nat)(T:Tb)(hT:tH T)(hN:T.n<=N)(a b:Int)(ha:T.Rf a)(hb:T.Rf b)(hS:T.nodes.length+2*2^N<=1000000000) :
  ∃T' r,ZQ 60 [.ptr 0 [] 0,.int .i64 a,.int .i64 b] (yT T) (.int .i64 r) (yT T')/\OpP T T' r (λs=>ev T.nodes s a ^^ ev T.nodes s b) (2*2^N):=by
 obtain⟨T1,c,f1,p1⟩:=b0T N T hT hN b hb aj;have hs:=p1.size;obtain⟨T',r,f,p,n⟩:=Gt N T1 p1.good a c b (p1.ext.rf ha) p1.rf (p1.ext.rf hb) (VG T1 p1.good N (by rw[p1.ext.n];exact hN) _ _ _ (p1.ext.rf ha) p1.rf (p1.ext.rf hb)) aj;refine⟨T',r,?_,⟨p.good,p1.ext.trans p.ext,p.rf,λs=>by rw[p.val s,p1.val s,p1.ext.ev ha,p1.ext.ev hb];cases ev T.nodes s a <;> cases ev T.nodes s b <;> rfl,aj⟩⟩;refine ZN Tryz.func60 λhok=>?_;refine .gen _ _ f1 λ_=>ZW ?_;refine .gen _ _ f λ_=>ZW ?_;refine ZE ?_ ?_;{exact wk};repeat' first|exact Zq|apply aI
 all_goals first|exact qO _|exact qP _ _|(simp;done)|skip
theorem b5b(f:Nat)(refs:List Int)(g:Nat->Tb×Int)(hg:∀k,k<refs.length->ZQ f [.ptr 0 [] 0,.int .i64 (g k).2,.int .i64 (refs.getD k 0)] (yT (g k).1) (.int .i64 (g (k+1)).2) (yT (g (k+1)).1)) :
  ZQ 187 [iL refs,.int .i64 (g 0).2,.bm f 0] (yT (g 0).1) (.int .i64 (g refs.length).2) (yT (g refs.length).1):=by
 refine ZI Tryz.func187 λhok=>?_;have hl:refs.length<=9223372036854775807:=(by have:=hok.1.1;simpa[maxL]using this);refine Z0 ?_;refine qV.of <| (qM.inv (.refl _ _) (λk:Nat=>k<=refs.length) (λk=>[(11,.int .i64 k),(1,.int .i64 (g k).2)]) (λk=>yT (g k).1) (λk=>refs.length-k) 0 (aO _) ?_ ?_ ?_);{exact λ_=>rfl}
 ·refine Zv wk ?_;repeat' first|exact Zq|apply aI
  all_goals first|exact qO _|exact qP _ _|skip
 intro k hk _;refine ZS ?_ ?_<;>intro h
 ·have hlt:k<refs.length:=(by simpa using h);have q:=hg k hlt;rw[aF,aH hlt]at q;refine ZW ?_;refine rV hlt (ZW ?_);refine .gen _ _ q λ_=>ZW ?_;refine ZG ?_;refine⟨k+1,?_,?_,?_⟩;{exact hlt}
  ·refine Zv wk ?_;repeat' first|exact Zq|apply aI
   all_goals first|exact qO _|exact qP _ _|skip
  omega
 have hk:k=refs.length:=(by(have:¬k<refs.length:=by simpa using h);omega);subst hk;refine ZW ?_;refine ZE ?_ ?_;{exact wk};repeat' first|exact Zq|apply aI
 all_goals first|exact qO _|exact qP _ _|(simp;done)|skip
theorem a1j(N:Nat)(F:Nat)(op:Bool->Bool->Bool)
  (hop:∀(T:Tb),tH T->T.n<=N->∀(a b:Int),T.Rf a->T.Rf b->T.nodes.length+2*2^N<=1000000000->∃T' r,qX Tryz.prog F [.ptr 0 [] 0,.int .i64 a,.int .i64 b] (yT T) (.int .i64 r) (yT T')/\OpP T T' r (λs=>op (ev T.nodes s a) (ev T.nodes s b)) (2*2^N))
  (T:Tb) (hT:tH T) (hN:T.n<=N) (refs:List Int) (hr:∀r∈refs,T.Rf r) (first:Int) (hf:T.Rf first) (hS:T.nodes.length+(refs.length+1)*(2*2^N)<=1000000000) :
  ∃T' r,ZQ 187 [iL refs,.int .i64 first,.bm F 0] (yT T) (.int .i64 r) (yT T')/\OpP T T' r (λs=>(refs.map (ev T.nodes s)).foldl op (ev T.nodes s first)) (refs.length*(2*2^N)):=by
 generalize hZ:2*2^N=Z at *;obtain⟨g,g0,g1,g2⟩:=GZ (λk (q:Tb×Int)=>OpP T q.1 q.2 (λs=>((refs.take k).map (ev T.nodes s)).foldl op (ev T.nodes s first)) (k*Z))
  (λk q q'=>qX Tryz.prog F [.ptr 0 [] 0,.int .i64 q.2,.int .i64 (refs.getD k 0)] (yT q.1) (.int .i64 q'.2) (yT q'.1)) refs.length (T,first)
  ⟨hT,.refl _,hf,λs=>rfl,ak⟩ (λk q hk h=>by
   have hrk:T.Rf refs[k]:=hr _ (aQ hk);have hsz:=h.size;have hle:(k+1)*Z<=(refs.length+1)*Z:=bV _ aj;have e:(k+1)*Z=k*Z+Z:=(by rw[dw,gX]);obtain⟨T',r,f,p⟩:=hop q.1 h.good (by rw[h.ext.n];exact hN) q.2 refs[k] h.rf (h.ext.rf hrk) aj;have hps:=p.size;refine⟨(T',r),⟨p.good,h.ext.trans p.ext,p.rf,λs=>?_,by show T'.nodes.length<=_;omega⟩,?_⟩;{show ev T'.nodes s r=_;rw[p.val s,h.val s,h.ext.ev hrk,bG hk,aV,fU];rfl};rw[aF,aH hk];exact f)
 have l:=g1 refs.length (aS _);have q:=b5b F refs g g2;rw[g0]at q;refine⟨(g refs.length).1,(g refs.length).2,q,⟨l.good,l.ext,l.rf,λs=>?_,l.size⟩⟩;have:=l.val s;rw[bg]at this;exact this
structure VoS where
 T:Tb
 need:List Int
def cB(T:Tb)(t:Int->Bool)(l:List Int):Nat:=l.countP λr=>ev T.nodes t r
structure VoI(T:Tb)(refs:List Int)(K Z m i:Nat)(s:VoS):Prop where
 good:tH s.T
 ext:Xt T s.T
 len:s.need.length=K+1
 all:∀j,j<=K->s.T.Rf (s.need.getD j 0)/\∀t,ev s.T.nodes t (s.need.getD j 0)=decide (j<=cB T t (refs.take (if K-i<j then m+1 else m)))
 size:s.T.nodes.length<=T.nodes.length+(m*K+i)*Z
def VoR(refs:List Int)(K m i:Nat)(s s':VoS):Prop :=
 ∃x,ZQ 119 [.ptr 0 [] 0,.int .i64 (refs.getD m 0),.int .i64 (s.need.getD (K-(i+1)) 0),.int .i64 (s.need.getD (K-i) 0)] (yT s.T) (.int .i64 x) (yT s'.T)/\s'.need=s.need.set (K-i) x
theorem Ad{l:List Int}{i j:Nat}{x:Int}(hi:i<l.length):(l.set i x).getD j 0=if j=i then x else l.getD j 0:=by rw[aF,kG];by_cases h:i=j;{subst h;rw[aG rfl,aG hi,aG rfl];rfl};rw[aB h,aB (λe=>h e.symm),aF]
theorem b1p(N:Nat)(T:Tb)(hN:T.n<=N)(refs:List Int)(hr:∀r∈refs,T.Rf r)(K m i:Nat)(hm:m<refs.length)(hi:i<K)(hS:T.nodes.length+refs.length*K*2^N<=1000000000)(s:VoS)(h:VoI T refs K (2^N) m i s) :
  ∃s',VoI T refs K (2^N) m (i+1) s'/\VoR refs K m i s s':=by
 have hrm:T.Rf refs[m]:=hr _ (aQ hm);have em:refs.getD m 0=refs[m]:=(by rw[aF,aH hm];rfl);obtain⟨a1,a2⟩:=h.all (K-(i+1)) aj;obtain⟨b1,b2⟩:=h.all (K-i) aj;have hsz:=h.size;have hb:(m*K+(i+1))*2^N<=refs.length*K*2^N:=(by refine bV _ ?_;have:(m+1)*K<=refs.length*K:=bV _ aj;rw[dw,gX]at this;omega);have he:(m*K+(i+1))*2^N=(m*K+i)*2^N+2^N:=(by rw[<- jc,dw (m*K+i),gX]);have hlen:=h.len;obtain⟨T',x,f,p,n⟩:=Gt N s.T h.good refs[m] (s.need.getD (K-(i+1)) 0) (s.need.getD (K-i) 0) (h.ext.rf hrm) a1 b1 (VG s.T h.good N (by rw[h.ext.n];exact hN) _ _ _ (h.ext.rf hrm) a1 b1) aj;refine⟨⟨T',s.need.set (K-i) x⟩,⟨p.good,h.ext.trans p.ext,by show(s.need.set (K-i) x).length=_;rw[ni];exact hlen,λj hj=>?_,by show T'.nodes.length<=_;omega⟩,x,by rw[em];exact f,rfl⟩;show T'.Rf ((s.need.set (K-i) x).getD j 0)/\∀t,ev T'.nodes t ((s.need.set (K-i) x).getD j 0)=_;rw[Ad aj];by_cases hji:j=K-i
 ·rw[aG hji];refine⟨p.rf,λt=>?_⟩;have c1:(if K-i<K-(i+1)then m+1 else m)=m:=aB aj;have c2:(if K-i<K-i then m+1 else m)=m:=aB aj;have c3:(if K-(i+1)<j then m+1 else m)=m+1:=aG aj;rw[p.val t,h.ext.ev hrm,a2 t,b2 t,c1,c2,c3,bG hm];unfold cB;rw[kZ,List.countP_singleton];subst hji;generalize List.countP (λr=>ev T.nodes t r) (List.take m refs)=c;cases ev T.nodes t refs[m]with
  |true=>simp only[if_true];exact decide_eq_decide.2 aj
  |false=>simp
 rw[aB hji];obtain⟨c1,c2⟩:=h.all j hj;refine⟨p.ext.rf c1,λt=>?_⟩;rw[p.ext.ev c1,c2 t];by_cases hlt:K-i<j;{rw[aG hlt,aG aj]};rw[aB hlt,aB aj]
theorem b41(N:Nat)(T:Tb)(hT:tH T)(hN:T.n<=N)(refs:List Int)(hr:∀r∈refs,T.Rf r)(K:Nat)(hK:K<=1000)(hS:T.nodes.length+refs.length*K*2^N<=1000000000) :
  ∃T' r,ZQ 189 [.ptr 0 [] 0,iL refs,.int .i64 K] (yT T) (.int .i64 r) (yT T')/\OpP T T' r (λs=>decide (K<=cB T s refs)) (refs.length*K*2^N):=by
 obtain⟨g,g0,g1,g2⟩:=GZ (λm s=>VoI T refs K (2^N) m 0 s) (λm s s'=>∃h:Nat->VoS,h 0=s/\h K=s'/\(∀i,i<=K->VoI T refs K (2^N) m i (h i))/\∀i,i<K->VoR refs K m i (h i) (h (i+1))) refs.length ⟨T,1::List.replicate K 0⟩
  (by
   refine⟨hT,.refl _,ak,λj hj=>?_,ak⟩;cases j with
   |zero=>exact⟨.one T,λt=>by simp[OX]⟩
   |succ j =>have e:(1::List.replicate K 0).getD (j+1) 0=(0:Int):=(by simp[eU];split <;> rfl);show T.Rf ((1::List.replicate K 0).getD (j+1) 0)/\_;rw[e];exact⟨.zero T,λt=>by rw[aB aj];simp[cB,F9]⟩)
  (λm s hm h=>by
   obtain⟨f,f0,f1,f2⟩:=GZ (λi s=>VoI T refs K (2^N) m i s) (λi s s'=>VoR refs K m i s s') K s h (λi s hi h=>b1p N T hN refs hr K m i hm hi hS s h);have l:=f1 K (aS _);refine⟨f K,⟨l.good,l.ext,l.len,λj hj=>?_,?_⟩,f,f0,rfl,f1,f2⟩
   ·obtain⟨a,b⟩:=l.all j hj;refine⟨a,λt=>?_⟩;rw[b t];cases j with
    |zero=>simp
    |succ j =>have c1:(if K-K<j+1 then m+1 else m)=m+1:=aG aj;have c2:(if K-0<j+1 then m+1+1 else m+1)=m+1:=aB aj;rw[c1,c2]
   have:=l.size;rw[dU,dw m 1 K,gX];exact this)
 have l:=g1 refs.length (aS _);obtain⟨r1,r2⟩:=l.all K (aS _);refine⟨(g refs.length).T,(g refs.length).need.getD K 0,?_,⟨l.good,l.ext,r1,λs=>?_,by have:=l.size;rwa[dU]at this⟩⟩
 ·have hll:=l.len;refine ZI Tryz.func189 λhok=>?_;have hrl:refs.length<=9223372036854775807:=(by have:=hok.2.1.1;simpa[maxL]using this);refine Z0 ?_;rw[show(K:Int)+1=((K+1:Nat):Int) by omega];refine⟨rQ aj aj,ZW ?_⟩;refine⟨⟨aj,dR _,by show((K+1:Nat):Int)*((8:Nat):Int)<=281474976710656;omega,aj⟩,.wr ?_⟩;rw[aJ];refine ZW ?_;refine⟨⟨aj,aj⟩,ZW ?_⟩;refine⟨ak,rfl,ZW ?_⟩;rw[show(List.replicate (K+1) (AV.int IntKind.i64 0)).set (0+Int.toNat 0) (strip (AV.int IntKind.i64 1))=(g 0).need.map (.int .i64)from by
   rw[g0];simp[nM,strip]]
  refine qV.of <| (qM.inv (.refl _ _) (λm:Nat=>m<=refs.length) (λm=>[(18,.int .i64 m)]) (λm=>(5,.arr 1 (K+1) ((g m).need.map (.int .i64)))::yT (g m).T) (λm=>refs.length-m) 0 (aO _) ?_ ?_ ?_);{exact λ_=>rfl}
  ·have hT0:T=(g 0).T:=(by rw[g0]);refine Zv wk ?_;rw[<- hT0];repeat' first|exact Zq|apply aI
   all_goals first|exact qO _|exact qP _ _|skip
  intro m hm _;refine ZS ?_ ?_<;>intro h
  ·have hlt:m<refs.length:=(by simpa using h);obtain⟨f,f0,fK,f1,f2⟩:=g2 m hlt;have em:refs.getD m 0=refs[m]:=(by rw[aF,aH hlt];rfl);refine ZW ?_;refine rV hlt (ZW ?_);refine qV.of <| (qM.inv (.refl _ _) (λi:Nat=>i<=K) (λi=>[(10,.int .i64 ((K-i:Nat):Int))]) (λi=>(5,.arr 1 (K+1) ((f i).need.map (.int .i64)))::yT (f i).T) (λi=>K-i) 0 (aO _) ?_ ?_ ?_);{exact λ_=>rfl}
   ·rw[<- f0];refine Zv wk ?_;repeat' first|exact Zq|apply aI
    all_goals first|exact qO _|exact qP _ _|skip
   intro i hi _;have lf:=(f1 i hi).len;refine ZS ?_ ?_<;>intro h
   ·have hilt:i<K:=aj;obtain⟨x,q1,q2⟩:=f2 i hilt;rw[em]at q1;refine ZW ?_;refine wX.mk ⟨[true,true,true,true,true,true,true,true,false,true,true,true,false,false,true,false],by kernel_rfl,?_⟩;conv=>whnf
    refine⟨rQ aj aj,?_⟩;conv=>whnf
    rw[show((K-i:Nat):Int)-1=((K-(i+1):Nat):Int) by omega];refine⟨⟨aj,aj⟩,?_⟩;conv=>whnf
    rw[bC];refine sK 0 ⟨aj,aj⟩ ?_;conv=>whnf
    refine⟨rfl,?_⟩;conv=>whnf
    refine⟨⟨aj,aj⟩,?_⟩;conv=>whnf
    rw[bC];refine sK 0 ⟨aj,aj⟩ ?_;conv=>whnf
    refine⟨rfl,?_⟩;conv=>whnf
    rw[aJ,aJ,aJ,aJ];refine .gen _ _ (Oc [(5,_)] ak q1 (λ_=>rfl) (λ_=>rfl) rfl) λ_=>?_;conv=>whnf
    refine⟨⟨aj,aj⟩,?_⟩;conv=>whnf
    refine⟨by rw[aC];omega,rfl,ZW ?_⟩;refine⟨rQ aj aj,ZW ?_⟩;refine⟨i+1,?_,?_,?_⟩;{exact hilt}
    ·rw[q2];refine Zv ?_ ?_
     ·repeat' first|exact Zq|apply aI
      all_goals (show(_:Int)=_;omega)
     repeat' first|exact Zq|apply aI
     all_goals first|exact qO _|exact qP _ _|(refine qY ?_;rw[dP];congr 1;omega)|skip
    omega
   have hiK:i=K:=aj;subst hiK;refine ZW ?_;refine ZG ?_;rw[fK];refine⟨m+1,?_,?_,?_⟩;{exact hlt}
   ·refine Zv wk ?_;repeat' first|exact Zq|apply aI
    all_goals first|exact qO _|exact qP _ _|skip
   omega
  have hk:m=refs.length:=(by(have:¬m<refs.length:=by simpa using h);omega);subst hk;refine ZW ?_;refine⟨⟨aj,aj⟩,ZW ?_⟩;rw[bC];refine sK 0 ⟨aj,aj⟩ (ZW ?_);refine⟨rfl,ZW ?_⟩;rw[aJ,aJ];refine ZE ?_ ?_;{exact wk};repeat' first|exact Zq|apply aI
  all_goals first|exact qO _|exact qP _ _|(simp;done)|skip
 have:=r2 s;rw[aB aj,bg]at this;exact this
theorem a9f(l:List Bool)(b:Bool):l.foldl (λa c=>a&&c) b=(b&&l.all id):=by
 induction l generalizing b with
 |nil=>simp
 |cons x l ih=>rw[dY,ih];simp[Bool.and_assoc]
theorem b2s(l:List Bool)(b:Bool):l.foldl (λa c=>a||c) b=(b||l.any id):=by
 induction l generalizing b with
 |nil=>simp
 |cons x l ih=>rw[dY,ih];simp[Bool.or_assoc]
theorem a9e(l:List Bool)(b:Bool):l.foldl (λa c=>a ^^ c) b=(b ^^ decide (l.countP id % 2=1)):=by
 induction l generalizing b with
 |nil=>simp
 |cons x l ih =>rw[dY,ih,iG];have h:(List.countP id l) % 2=0\/(List.countP id l) % 2=1:=aj;rcases h with h|h <;> cases x <;> cases b <;> simp[h,Nat.add_mod]
theorem a7F(l:List Bool):l.all id=decide (l.countP id=l.length):=by rw[jl];simp[List.countP_eq_length]
theorem a7A(l:List Bool):l.any id=decide (0<l.countP id):=by rw[jl];simp[List.countP_pos_iff]
theorem a7u(T:Tb)(s:Int->Bool)(refs:List Int):(refs.map (ev T.nodes s)).countP id=cB T s refs:=by unfold cB;rw[oH];rfl
theorem b3f(N:Nat)(T:Tb)(hT:tH T)(hN:T.n<=N)(v:Int)(i:Nat)(x:Nd)(hx:NR v i x)(refs:List Int)(hl:refs.length=x.args.length)(hr:∀r∈refs,T.Rf r)(hS:T.nodes.length+600*2^N<=1000000000) :
  ∃T' r,ZQ 116 [.ptr 0 [] 0,x.av,iL refs] (yT T) (.int .i64 r) (yT T')/\OpP T T' r (λs=>zS x (cB T s refs)) (600*2^N):=by
 obtain⟨kind,k,args⟩:=x;obtain⟨hk,hn,_,hkk⟩:=hx;dsimp only at hk hn hkk hl;have b8c:refs.length<=16:=(by rw[hl];split at hn;{omega};split at hn <;> omega);have hp:0<2^N:=gK au;have weak:∀{T':Tb} {r:Int} {f:(Int->Bool)->Bool} {z:Nat},z<=600*2^N->OpP T T' r f z->(∀s,f s=zS ⟨kind,k,args⟩ (cB T s refs))->OpP T T' r (λs=>zS ⟨kind,k,args⟩ (cB T s refs)) (600*2^N) :=
  λhz p hf=>⟨p.good,p.ext,p.rf,λs=>by rw[p.val s];exact hf s,dH p.size aj⟩
 have hm:refs.length*(2*2^N)<=32*2^N:=(by rw[<- dA];exact bV _ aj);have hS1:T.nodes.length+(refs.length+1)*(2*2^N)<=1000000000:=(by rw[dw,gX];omega);rcases(by omega:kind=0\/kind=1\/kind=2\/kind=3\/kind=4\/kind=5)with rfl|rfl|rfl|rfl|rfl|rfl
 ·-- a constant
  have hkk:k=0\/k=1:=(by simpa using hkk);have rfk:T.Rf k:=(by rcases hkk with h|h;{rw[h];exact .zero T};rw[h];exact .one T);refine⟨T,k,?_,⟨hT,.refl _,rfk,λs=>by rcases hkk with rfl|rfl <;> rfl,aj⟩⟩;refine ZN Tryz.func116 λhok=>?_;refine aP (λ_=>?_) (λh=>absurd rfl h);refine ZW ?_;refine ZE ?_ ?_;{exact wk};repeat' first|exact Zq|apply aI
  all_goals first|exact qO _|exact qP _ _|(simp;done)|skip
 ·have hn:args.length=1:=(by simpa using hn);obtain⟨a,rfl⟩:∃a,refs=[a]:=List.length_eq_one_iff.1 aj;obtain⟨T',r,f,p⟩:=b0T N T hT hN a (hr a ak) aj;refine⟨T',r,?_,weak aj p λs=>by simp[zS,cB]⟩;refine ZN Tryz.func116 λhok=>?_;refine aP (λh=>absurd h ak) (λ_=>ZW ?_);refine aP (λ_=>?_) (λh=>absurd rfl h);refine ZW ?_;refine DZ.mk ⟨_,⟨au,rfl⟩,ZW ?_⟩;refine .gen _ _ (Oc [(5,_)] ak f (λ_=>rfl) (λ_=>rfl) rfl) λ_=>ZW ?_;refine ZE ?_ ?_;{exact wk};repeat' first|exact Zq|apply aI
  all_goals first|exact qO _|exact qP _ _|(simp;done)|skip
 ·obtain⟨T',r,f,p⟩:=a1j N 64 (λa b=>a&&b) (λT hT hN a b ha hb hS=>a6S N T hT hN a b ha hb hS) T hT hN refs hr 1 (.one T) hS1;refine⟨T',r,?_,weak aj p λs=>by rw[a9f,OX,jv,a7F,a7u,aC,hl];simp[zS]⟩;refine ZN Tryz.func116 λhok=>?_;refine aP (λh=>absurd h ak) (λ_=>ZW ?_);refine aP (λh=>absurd h ak) (λ_=>ZW ?_);refine aP (λ_=>?_) (λh=>absurd rfl h);refine ZW ?_;refine .gen _ _ (Oc [(5,_)] ak f (λ_=>rfl) (λ_=>rfl) rfl) λ_=>ZW ?_;refine ZE ?_ ?_;{exact wk};repeat' first|exact Zq|apply aI
  all_goals first|exact qO _|exact qP _ _|(simp;done)|skip
 ·obtain⟨T',r,f,p⟩:=a1j N 188 (λa b=>a||b) (λT hT hN a b ha hb hS=>b6z N T hT hN a b ha hb hS) T hT hN refs hr 0 (.zero T) hS1;refine⟨T',r,?_,weak aj p λs=>by rw[b2s,F9,fE,a7A,a7u];simp[zS]⟩;refine ZN Tryz.func116 λhok=>?_;refine aP (λh=>absurd h ak) (λ_=>ZW ?_);refine aP (λh=>absurd h ak) (λ_=>ZW ?_);refine aP (λh=>absurd h ak) (λ_=>ZW ?_);refine aP (λ_=>?_) (λh=>absurd rfl h);refine ZW ?_;refine .gen _ _ (Oc [(5,_)] ak f (λ_=>rfl) (λ_=>rfl) rfl) λ_=>ZW ?_;refine ZE ?_ ?_;{exact wk};repeat' first|exact Zq|apply aI
  all_goals first|exact qO _|exact qP _ _|(simp;done)|skip
 ·have hkk:1<=k/\k<=args.length:=(by simpa using hkk);obtain⟨K,rfl⟩:∃K:Nat,k=(K:Int):=⟨k.toNat,aj⟩;have hmk:refs.length*K*2^N<=256*2^N:=bV _ (by
   have:refs.length*K<=16*16:=gY aj aj;omega)
  obtain⟨T',r,f,p⟩:=b41 N T hT hN refs hr K aj aj;refine⟨T',r,?_,weak aj p λs=>by simp[zS]⟩;refine ZN Tryz.func116 λhok=>?_;refine aP (λh=>absurd h ak) (λ_=>ZW ?_);refine aP (λh=>absurd h ak) (λ_=>ZW ?_);refine aP (λh=>absurd h ak) (λ_=>ZW ?_);refine aP (λh=>absurd h ak) (λ_=>ZW ?_);refine aP (λh=>absurd h ak) (λ_=>ZW ?_);refine .gen _ _ (Oc [(5,_)] ak f (λ_=>rfl) (λ_=>rfl) rfl) λ_=>ZW ?_;refine ZE ?_ ?_;{exact wk};repeat' first|exact Zq|apply aI
  all_goals first|exact qO _|exact qP _ _|(simp;done)|skip
 obtain⟨T',r,f,p⟩:=a1j N 60 (λa b=>a ^^ b) (λT hT hN a b ha hb hS=>b0S N T hT hN a b ha hb hS) T hT hN refs hr 0 (.zero T) hS1;refine⟨T',r,?_,weak aj p λs=>by rw[a9e,F9,Bool.false_xor,a7u];simp[zS]⟩;refine ZN Tryz.func116 λhok=>?_;refine aP (λh=>absurd h ak) (λ_=>ZW ?_);refine aP (λh=>absurd h ak) (λ_=>ZW ?_);refine aP (λh=>absurd h ak) (λ_=>ZW ?_);refine aP (λh=>absurd h ak) (λ_=>ZW ?_);refine aP (λ_=>?_) (λh=>absurd rfl h);refine ZW ?_;refine .gen _ _ (Oc [(5,_)] ak f (λ_=>rfl) (λ_=>rfl) rfl) λ_=>ZW ?_;refine ZE ?_ ?_;{exact wk};repeat' first|exact Zq|apply aI
 all_goals first|exact qO _|exact qP _ _|(simp;done)|skip
abbrev WkO(T:HO):Prop:=leO T T/\(match T with | .tN _ es=>EZ 3 es=true|o=>Uz 3 o=true)
abbrev WkA(X:AV):Prop:=le0 X X/\tq 3 X=true
abbrev hpF(m:Md)(X:AV)(T M:HO):Heap:=[(2,T),(1,.box (.ag [m.av,X,.mp 0])),(0,M)]
theorem b3c(x:Pg)(s:Str)(h0:0<s.length):ZQ 240 [x.av,.ptr 0 [] 0] [(0,.box (.str s))] (.bool (decide (x.name=s.drop 1))) [(0,.box (.str s))]:=by
 refine ZN Tryz.func240 λhok=>?_;refine ZR ?_;refine⟨⟨aj,aj,aj⟩,?_⟩;rw[b4X];refine ZW ?_;refine⟨⟨_,_,.refl _ _,?_⟩⟩;conv=>whnf
 refine Zx ?_ ?_;{show _↔_;simp};exact wk
theorem a7k(x:Ev)(s:Str):ZQ 241 [x.av,.ptr 0 [] 0] [(0,.box (.str s))] (.bool (decide (x.name=s))) [(0,.box (.str s))]:=by
 refine ZN Tryz.func241 λhok=>?_;refine⟨⟨_,_,.refl _ _,?_⟩⟩;conv=>whnf
 refine Zx ?_ ?_;{show _↔_;simp};exact wk
theorem a7j(x:Hs)(s:Str):ZQ 242 [x.av,.ptr 0 [] 0] [(0,.box (.str s))] (.bool (decide (x.name=s))) [(0,.box (.str s))]:=by
 refine ZN Tryz.func242 λhok=>?_;refine⟨⟨_,_,.refl _ _,?_⟩⟩;conv=>whnf
 refine Zx ?_ ?_;{show _↔_;simp};exact wk
theorem a7i(x:Mg)(s:Str):ZQ 243 [x.av,.ptr 0 [] 0] [(0,.box (.str s))] (.bool (decide (x.name=s))) [(0,.box (.str s))]:=by
 refine ZN Tryz.func243 λhok=>?_;refine⟨⟨_,_,.refl _ _,?_⟩⟩;conv=>whnf
 refine Zx ?_ ?_;{show _↔_;simp};exact wk
theorem XU(m:Md)(X:AV)(T M B3 B4:HO)(a:Int)(h:a = -1\/(0<=a/\a<(m.pages.length:Int))):ZQ 216 [.ptr 1 [] 0,.int .i64 a] ((4,B4)::(3,B3)::hpF m X T M) (gL (qN m a)) ((4,B4)::(3,B3)::hpF m X T M):=by
 refine ZN Tryz.func216 λhok=>?_;constructor<;>intro h1
 ·rw[show qN m a=m.gates from aG h1];refine ZW ?_
  (refine uZ.same ?_;(conv=>whnf);refine⟨?_,rfl⟩;(conv=>whnf))
  all_goals exact wk
 have hb:0<=a/\a<(m.pages.length:Int):=aj;rw[show qN m a=(m.pages.getD a.toNat default).gates from aB h1];refine ZW ?_;refine sK default hb (ZW ?_)
 (refine uZ.same ?_;(conv=>whnf);refine⟨?_,rfl⟩;(conv=>whnf))
 all_goals exact wk
theorem b3i(m:Md)(X:AV)(T M:HO)(hX:WkA X)(hT:WkO T)(hO:WkO M)(a:Int)(s:Str)(h0:0<s.length)(ha:a = -1\/(0<=a/\a<(m.pages.length:Int)))(hp:Ed s=true->0<=tK m.pages (s.drop 1)) :
  ZQ 215 [.ptr 1 [] 0,.int .i64 a,.str s] (hpF m X T M) (OG (zf m a s)) (hpF m X T M):=by
 have hpl:tK m.pages (s.drop 1)<(m.pages.length:Int):=ED _ _;refine ZN Tryz.func215 λhok=>?_;refine Tq h0 ?_;refine ZS ?_ ?_<;>intro h2
 ·have e:Ed s=true:=(by simp only[Ed,h0,h2,decide_true,jv]);have hp:=hp e;rw[show zf m a s=zJ m (tK m.pages (s.drop 1)) (tu m (tK m.pages (s.drop 1)))from aG e];have hpt:(m.pages.getD (tK m.pages (s.drop 1)).toNat default).top=tu m (tK m.pages (s.drop 1)):=rfl;refine ZW ?_;refine .gen _ _ (a3d m.pages 240 [.ptr 3 [] 0] (λx=>decide (x.name=s.drop 1)) _ λx _=>qX.frame [3] (b3c x s h0) ⟨rfl,rfl,rfl,rfl⟩ (by(repeat' first|exact rfl|exact trivial|exact wR|exact lR _|apply aI)) (by(repeat' first|exact rfl|exact trivial|exact wR|exact lR _|apply aI))) λ_=>?_;rw[show zG (λx=>decide (x.name=s.drop 1)) m.pages=tK m.pages (s.drop 1)from rfl];generalize tK m.pages (s.drop 1)=p at *;have hpb:p = -1\/(0<=p/\p<(m.pages.length:Int)):=.inr ⟨hp,hpl⟩;refine ZW ?_;refine sK default ⟨hp,hpl⟩ (ZW ?_);rw[hpt];generalize tu m p=t at *;refine ZW ?_;refine .gen _ _ (XR m.evs 241 [.ptr 3 [] 0] (λx=>decide (x.name=t)) _ λx _=>qX.frame [3] (a7k x t) ⟨rfl,rfl,rfl,rfl⟩ (by(repeat' first|exact rfl|exact trivial|exact wR|exact lR _|apply aI)) (by(repeat' first|exact rfl|exact trivial|exact wR|exact lR _|apply aI))) λ_=>?_;refine ZS ?_ ?_<;>intro h3
  ·rw[show zJ m p t=(0,0,sH m.evs t)from aG h3];refine ZW ?_;refine ZE ?_ ?_;{exact wk};repeat' first|exact Zq|apply aI
   all_goals first|exact hT.1|exact hT.2|exact hO.1|exact hO.2|exact hX.1|(show(match tq 3 X with|true=>_|false=>_)=true;rw[hX.2];rfl)
  refine ZW ?_;refine .gen _ _ (XQ m.hs 242 [.ptr 3 [] 0] (λx=>decide (x.name=t)) _ λx _=>qX.frame [3] (a7j x t) ⟨rfl,rfl,rfl,rfl⟩ (by(repeat' first|exact rfl|exact trivial|exact wR|exact lR _|apply aI)) (by(repeat' first|exact rfl|exact trivial|exact wR|exact lR _|apply aI))) λ_=>?_;refine ZS ?_ ?_<;>intro h4
  ·rw[show zJ m p t=(1,0,uM m.hs t)from(aB h3).trans (aG h4)];refine ZW ?_;refine ZE ?_ ?_;{exact wk};repeat' first|exact Zq|apply aI
   all_goals first|exact hT.1|exact hT.2|exact hO.1|exact hO.2|exact hX.1|(show(match tq 3 X with|true=>_|false=>_)=true;rw[hX.2];rfl)
  rw[show zJ m p t=(2,p,uU (qN m p) t)from(aB h3).trans (aB h4)];refine ZW ?_;refine .gen _ _ (XU m X T M _ _ p (by assumption)) λ_=>ZW ?_;refine .gen _ _ (XP (qN m p) 243 [.ptr 3 [] 0] (λx=>decide (x.name=t)) _ λx _=>qX.frame [3] (a7i x t) ⟨rfl,rfl,rfl,rfl⟩ (by(repeat' first|exact rfl|exact trivial|exact wR|exact lR _|apply aI)) (by(repeat' first|exact rfl|exact trivial|exact wR|exact lR _|apply aI))) λ_=>ZW ?_;refine ZE ?_ ?_;{exact wk};repeat' first|exact Zq|apply aI
  all_goals first|exact hT.1|exact hT.2|exact hO.1|exact hO.2|exact hX.1|(show(match tq 3 X with|true=>_|false=>_)=true;rw[hX.2];rfl)
 have e:Ed s=false:=(by simp only[Ed,bK h2,lJ]);rw[show zf m a s=zJ m a s from aB (by rw[e];simp)];refine ZW ?_;refine .gen _ _ (XR m.evs 241 [.ptr 3 [] 0] (λx=>decide (x.name=s)) _ λx _=>qX.frame [3] (a7k x s) ⟨rfl,rfl,rfl,rfl⟩ (by(repeat' first|exact rfl|exact trivial|exact wR|exact lR _|apply aI)) (by(repeat' first|exact rfl|exact trivial|exact wR|exact lR _|apply aI))) λ_=>?_;refine ZS ?_ ?_<;>intro h3
 ·rw[show zJ m a s=(0,0,sH m.evs s)from aG h3];refine ZW ?_;refine ZE ?_ ?_;{exact wk};repeat' first|exact Zq|apply aI
  all_goals first|exact hT.1|exact hT.2|exact hO.1|exact hO.2|exact hX.1|(show(match tq 3 X with|true=>_|false=>_)=true;rw[hX.2];rfl)
 refine ZW ?_;refine .gen _ _ (XQ m.hs 242 [.ptr 3 [] 0] (λx=>decide (x.name=s)) _ λx _=>qX.frame [3] (a7j x s) ⟨rfl,rfl,rfl,rfl⟩ (by(repeat' first|exact rfl|exact trivial|exact wR|exact lR _|apply aI)) (by(repeat' first|exact rfl|exact trivial|exact wR|exact lR _|apply aI))) λ_=>?_;refine ZS ?_ ?_<;>intro h4
 ·rw[show zJ m a s=(1,0,uM m.hs s)from(aB h3).trans (aG h4)];refine ZW ?_;refine ZE ?_ ?_;{exact wk};repeat' first|exact Zq|apply aI
  all_goals first|exact hT.1|exact hT.2|exact hO.1|exact hO.2|exact hX.1|(show(match tq 3 X with|true=>_|false=>_)=true;rw[hX.2];rfl)
 rw[show zJ m a s=(2,a,uU (qN m a) s)from(aB h3).trans (aB h4)];refine ZW ?_;refine .gen _ _ (XU m X T M _ _ a (by assumption)) λ_=>ZW ?_;refine .gen _ _ (XP (qN m a) 243 [.ptr 3 [] 0] (λx=>decide (x.name=s)) _ λx _=>qX.frame [3] (a7i x s) ⟨rfl,rfl,rfl,rfl⟩ (by(repeat' first|exact rfl|exact trivial|exact wR|exact lR _|apply aI)) (by(repeat' first|exact rfl|exact trivial|exact wR|exact lR _|apply aI))) λ_=>ZW ?_;refine ZE ?_ ?_;{exact wk};repeat' first|exact Zq|apply aI
 all_goals first|exact hT.1|exact hT.2|exact hO.1|exact hO.2|exact hX.1|(show(match tq 3 X with|true=>_|false=>_)=true;rw[hX.2];rfl)
def YN(x:Mg):Bool:=decide (x.ins.length<=40)&&wZ x.y5
def NQ(l:List Mg):Bool:=l.all YN&&decide (l.length<=100)
def evS(x:Ev):Bool:=wZ x.p&&wZ x.fail&&wZ x.repair
def grS(x:Gr):Bool:=decide (x.mem.length<=60)&&decide (x.ES.length<=60)&&x.ES.all wZ
def phS(x:Ph):Bool:=decide (x.vals.length<=60)&&x.vals.all λv=>wZ v.p
def yN(m:Md):Bool:=decide (m.evs.length<=60)&&decide (m.hs.length<=60)&&decide (m.pages.length<=30)&&decide (m.Bq.length<=30)&&decide (m.Di.length<=30)&&NQ m.gates &&
 m.evs.all evS&&(m.pages.all λp=>NQ p.gates)&&m.Bq.all grS&&m.Di.all phS
theorem b5d(l:List Mg)(R:AV)(hR:R=.bool (NQ l)):ZQ 69 [gL l] [] R []:=by refine ZI Tryz.func69 λhok=>?_;have lg:l.length<=9223372036854775807:=(by have:=hok.1.1;simpa[maxL]using this);refine Z0 ?_;refine qV.of <| qM.inv (.refl _ _) (fun(i:Nat)=>i<=l.length/\(l.take i).all YN=true) (fun(i:Nat)=>[(7,.int .i64 i)]) (λ_=>_) (fun(i:Nat)=>l.length-i) 0 ?_ (λ_=>rfl) ?_ ?_;{exact⟨aO _,ak⟩};{exact wk};rintro i ⟨hi,hn⟩ _;refine ZS ?_ ?_<;>intro h;{have hlt:i<l.length:=(by simpa using h);have hall:=Fg (p:=YN) hlt;have hmem:=aQ hlt;refine ZW ?_;refine rV hlt ?_;generalize l[i]=g at *;have no:YN g=false->R=.bool false:=λh=>(by rw[hR];unfold NQ;rw[all_false hmem h];rfl);refine ZS ?_ ?_<;>intro h1;{have h1:¬g.ins.length<=40:=(by simp only[aC]at h1;omega);obtain rfl:=no (by simp[YN,h1]);exact ZJ};have h1:g.ins.length<=40:=(by simp only[aC]at h1;omega);refine ZW ?_;refine .zW (Nz g.y5) ?_;constructor<;>intro h2;{have h2:wZ g.y5=false:=(by simpa using h2);obtain rfl:=no (by simp[YN,h2]);exact ZJ};have h2:wZ g.y5=true:=(by simpa using h2);refine ZW ?_;refine ZG ?_;refine⟨i+1,?_,?_,?_⟩;{exact⟨hlt,by rw[hall,hn];simp[YN,h1,h2]⟩};{refine⟨?_,.mk ?_ trivial⟩;{exact wk};exact wk};omega};have hil:i=l.length:=(by have:¬i<l.length:=(by simpa using h);omega);subst hil;rw[bg]at hn;subst hR;refine ZW ?_;refine ZF ?_;show _↔_;simp[NQ,hn];omega
theorem a96(m:Md)(R:AV)(hR:R=.bool (yN m)):ZQ 21 [m.av] [] R []:=by refine ZN Tryz.func21 λhok=>?_;constructor<;>intro h1;{have h1:¬m.evs.length<=60:=(by simp only[aC]at h1;omega);obtain rfl:R=.bool false:=(by rw[hR];congr 1;unfold yN;rw[bK h1];simp);exact ZJ};have h1:m.evs.length<=60:=(by simp only[aC]at h1;omega);refine ZS ?_ ?_<;>intro h2;{have h2:¬m.hs.length<=60:=(by simp only[aC]at h2;omega);obtain rfl:R=.bool false:=(by rw[hR];congr 1;unfold yN;rw[bK h2];simp);exact ZJ};have h2:m.hs.length<=60:=(by simp only[aC]at h2;omega);refine ZS ?_ ?_<;>intro h3;{have h3:¬m.pages.length<=30:=(by simp only[aC]at h3;omega);obtain rfl:R=.bool false:=(by rw[hR];congr 1;unfold yN;rw[bK h3];simp);exact ZJ};have h3:m.pages.length<=30:=(by simp only[aC]at h3;omega);refine ZS ?_ ?_<;>intro h4;{have h4:¬m.Bq.length<=30:=(by simp only[aC]at h4;omega);obtain rfl:R=.bool false:=(by rw[hR];congr 1;unfold yN;rw[bK h4];simp);exact ZJ};have h4:m.Bq.length<=30:=(by simp only[aC]at h4;omega);refine ZS ?_ ?_<;>intro h5;{have h5:¬m.Di.length<=30:=(by simp only[aC]at h5;omega);obtain rfl:R=.bool false:=(by rw[hR];congr 1;unfold yN;rw[bK h5];simp);exact ZJ};have h5:m.Di.length<=30:=(by simp only[aC]at h5;omega);refine ZW ?_;refine .zW (b5d m.gates _ rfl) ?_;constructor<;>intro h6;{have h6:NQ m.gates=false:=(by simpa using h6);obtain rfl:R=.bool false:=(by rw[hR];congr 1;unfold yN;rw[h6];simp);exact ZJ};have h6:NQ m.gates=true:=(by simpa using h6);refine ZW ?_;refine qV.of <| qM.inv (.refl _ _) (fun(i:Nat)=>i<=m.evs.length/\(m.evs.take i).all evS=true) (fun(i:Nat)=>[(52,.int .i64 i)]) (λ_=>_) (fun(i:Nat)=>m.evs.length-i) 0 ?_ (λ_=>rfl) ?_ ?_;{exact⟨aO _,ak⟩};{exact wk};rintro i ⟨hi,hn⟩ _;refine ZS ?_ ?_<;>intro h;{have hlt:i<m.evs.length:=(by simpa using h);have hall:=Fg (p:=evS) hlt;have hmem:=aQ hlt;refine ZW ?_;refine rV hlt ?_;generalize m.evs[i]=g at *;refine ZW ?_;refine .zW (Nz g.p) ?_;constructor<;>intro q1;{have q1:wZ g.p=false:=(by simpa using q1);obtain rfl:R=.bool false:=(by rw[hR];congr 1;unfold yN;rw[all_false hmem (show evS g=false by simp[evS,q1])];simp);exact ZJ};have q1:wZ g.p=true:=(by simpa using q1);refine ZW ?_;refine .zW (Nz g.fail) ?_;constructor<;>intro q2;{have q2:wZ g.fail=false:=(by simpa using q2);obtain rfl:R=.bool false:=(by rw[hR];congr 1;unfold yN;rw[all_false hmem (show evS g=false by simp[evS,q2])];simp);exact ZJ};have q2:wZ g.fail=true:=(by simpa using q2);refine ZW ?_;refine .zW (Nz g.repair) ?_;constructor<;>intro q3;{have q3:wZ g.repair=false:=(by simpa using q3);obtain rfl:R=.bool false:=(by rw[hR];congr 1;unfold yN;rw[all_false hmem (show evS g=false by simp[evS,q3])];simp);exact ZJ};have q3:wZ g.repair=true:=(by simpa using q3);refine ZW ?_;refine ZG ?_;refine⟨i+1,?_,?_,?_⟩;{exact⟨hlt,by rw[hall,hn];simp[evS,q1,q2,q3]⟩};{exact Zv wk wk};omega};have hil:i=m.evs.length:=(by have:¬i<m.evs.length:=(by simpa using h);omega);subst hil;rw[bg]at hn;have a1:=hn;clear h hi hn;refine ZW ?_;refine qV.of <| qM.inv (.refl _ _) (fun(i:Nat)=>i<=m.pages.length/\(m.pages.take i).all (λp=>NQ p.gates)=true) (fun(i:Nat)=>[(76,.int .i64 i)]) (λ_=>_) (fun(i:Nat)=>m.pages.length-i) 0 ?_ (λ_=>rfl) ?_ ?_;{exact⟨aO _,ak⟩};{exact wk};rintro i ⟨hi,hn⟩ _;refine ZS ?_ ?_<;>intro h;{have hlt:i<m.pages.length:=(by simpa using h);have hall:=Fg (p:=λp:Pg=>NQ p.gates) hlt;have hmem:=aQ hlt;refine ZW ?_;refine rV hlt ?_;generalize m.pages[i]=g at *;refine ZW ?_;refine .zW (b5d g.gates _ rfl) ?_;constructor<;>intro q1;{have q1:NQ g.gates=false:=(by simpa using q1);obtain rfl:R=.bool false:=(by rw[hR];congr 1;unfold yN;rw[all_false (p:=λp:Pg=>NQ p.gates) hmem q1];simp);exact ZJ};have q1:NQ g.gates=true:=(by simpa using q1);refine ZW ?_;refine ZG ?_;refine⟨i+1,?_,?_,?_⟩;{exact⟨hlt,by rw[hall,hn];simp[q1]⟩};{exact Zv wk wk};omega};have hil:i=m.pages.length:=(by have:¬i<m.pages.length:=(by simpa using h);omega);subst hil;rw[bg]at hn;have a2:=hn;clear h hi hn;refine ZW ?_;refine qV.of <| qM.inv (.refl _ _) (fun(i:Nat)=>i<=m.Bq.length/\(m.Bq.take i).all grS=true) (fun(i:Nat)=>[(88,.int .i64 i)]) (λ_=>_) (fun(i:Nat)=>m.Bq.length-i) 0 ?_ (λ_=>rfl) ?_ ?_;{exact⟨aO _,ak⟩};{exact wk};rintro i ⟨hi,hn⟩ _;refine ZS ?_ ?_<;>intro h;{have hlt:i<m.Bq.length:=(by simpa using h);have hall:=Fg (p:=grS) hlt;have hmem:=aQ hlt;refine ZW ?_;refine rV hlt ?_;generalize m.Bq[i]=g at *;refine ZS ?_ ?_<;>intro q1;{have q1:¬g.mem.length<=60:=(by simp only[aC]at q1;omega);obtain rfl:R=.bool false:=(by rw[hR];congr 1;unfold yN;rw[all_false hmem (show grS g=false by simp[grS,q1])];simp);exact ZJ};have q1:g.mem.length<=60:=(by simp only[aC]at q1;omega);refine ZS ?_ ?_<;>intro q2;{have q2:¬g.ES.length<=60:=(by simp only[aC]at q2;omega);obtain rfl:R=.bool false:=(by rw[hR];congr 1;unfold yN;rw[all_false hmem (show grS g=false by simp[grS,q2])];simp);exact ZJ};have q2:g.ES.length<=60:=(by simp only[aC]at q2;omega);refine ZW ?_;refine qV.of <| qM.inv (.refl _ _) (fun(j:Nat)=>j<=g.ES.length/\(g.ES.take j).all wZ=true) (fun(j:Nat)=>[(105,.int .i64 j)]) (λ_=>_) (fun(j:Nat)=>g.ES.length-j) 0 ?_ (λ_=>rfl) ?_ ?_;{exact⟨aO _,ak⟩};{exact wk};rintro j ⟨hj,sZ⟩ _;refine ZS ?_ ?_<;>intro hh;{have hjl:j<g.ES.length:=(by simpa using hh);have b2o:=Fg (p:=wZ) hjl;have hmj:=aQ hjl;refine ZW ?_;refine rV hjl ?_;generalize g.ES[j]=r at *;refine ZW ?_;refine .zW (Nz r) ?_;constructor<;>intro q3;{have q3:wZ r=false:=(by simpa using q3);obtain rfl:R=.bool false:=(by rw[hR];congr 1;unfold yN;rw[all_false hmem (show grS g=false by simp[grS,all_false hmj q3])];simp);exact ZJ};have q3:wZ r=true:=(by simpa using q3);refine ZW ?_;refine ZG ?_;refine⟨j+1,?_,?_,?_⟩;{exact⟨hjl,by rw[b2o,sZ,q3];rfl⟩};{exact Zv wk wk};omega};have hjl:j=g.ES.length:=(by have:¬j<g.ES.length:=(by simpa using hh);omega);subst hjl;rw[bg]at sZ;refine ZW ?_;refine ZG ?_;refine⟨i+1,?_,?_,?_⟩;{exact⟨hlt,by rw[hall,hn];simp[grS,q1,q2,sZ]⟩};{exact Zv wk wk};omega};have hil:i=m.Bq.length:=(by have:¬i<m.Bq.length:=(by simpa using h);omega);subst hil;rw[bg]at hn;have a3:=hn;clear h hi hn;refine ZW ?_;refine qV.of <| qM.inv (.refl _ _) (fun(i:Nat)=>i<=m.Di.length/\(m.Di.take i).all phS=true) (fun(i:Nat)=>[(117,.int .i64 i)]) (λ_=>_) (fun(i:Nat)=>m.Di.length-i) 0 ?_ (λ_=>rfl) ?_ ?_;{exact⟨aO _,ak⟩};{exact wk};rintro i ⟨hi,hn⟩ _;refine ZS ?_ ?_<;>intro h;{have hlt:i<m.Di.length:=(by simpa using h);have hall:=Fg (p:=phS) hlt;have hmem:=aQ hlt;refine ZW ?_;refine rV hlt ?_;generalize m.Di[i]=g at *;refine ZS ?_ ?_<;>intro q1;{have q1:¬g.vals.length<=60:=(by simp only[aC]at q1;omega);obtain rfl:R=.bool false:=(by rw[hR];congr 1;unfold yN;rw[all_false hmem (show phS g=false by simp[phS,q1])];simp);exact ZJ};have q1:g.vals.length<=60:=(by simp only[aC]at q1;omega);refine ZW ?_;refine qV.of <| qM.inv (.refl _ _) (fun(j:Nat)=>j<=g.vals.length/\(g.vals.take j).all (λv=>wZ v.p)=true) (fun(j:Nat)=>[(128,.int .i64 j)]) (λ_=>_) (fun(j:Nat)=>g.vals.length-j) 0 ?_ (λ_=>rfl) ?_ ?_;{exact⟨aO _,ak⟩};{exact wk};rintro j ⟨hj,sZ⟩ _;refine ZS ?_ ?_<;>intro hh;{have hjl:j<g.vals.length:=(by simpa using hh);have b2o:=Fg (p:=λv:Pv=>wZ v.p) hjl;have hmj:=aQ hjl;refine ZW ?_;refine rV hjl ?_;generalize g.vals[j]=r at *;refine ZW ?_;refine .zW (Nz r.p) ?_;constructor<;>intro q3;{have q3:wZ r.p=false:=(by simpa using q3);have q4:=all_false (p:=λv:Pv=>wZ v.p) hmj q3;obtain rfl:R=.bool false:=(by rw[hR];congr 1;unfold yN;rw[all_false hmem (show phS g=false by unfold phS;rw[q4];simp)];simp);exact ZJ};have q3:wZ r.p=true:=(by simpa using q3);refine ZW ?_;refine ZG ?_;refine⟨j+1,?_,?_,?_⟩;{exact⟨hjl,by rw[b2o,sZ,q3];rfl⟩};{exact Zv wk wk};omega};have hjl:j=g.vals.length:=(by have:¬j<g.vals.length:=(by simpa using hh);omega);subst hjl;rw[bg]at sZ;refine ZW ?_;refine ZG ?_;refine⟨i+1,?_,?_,?_⟩;{exact⟨hlt,by rw[hall,hn];unfold phS;rw[sZ];simp[q1]⟩};{exact Zv wk wk};omega};have hil:i=m.Di.length:=(by have:¬i<m.Di.length:=(by simpa using h);omega);subst hil;rw[bg]at hn;obtain rfl:R=.bool true:=(by rw[hR];congr 1;unfold yN;rw[a1,a2,a3,hn,h6];simp[h1,h2,h3,h4,h5]);exact ZJ
theorem b2u{l:List Mg}(h:NQ l=true):l.length<=100/\(∀x∈l,x.ins.length<=40)/\mgC l:=by unfold NQ at h;simp only[aN,bW]at h;refine⟨h.2,λx hx=>?_,λx hx=>?_⟩;{have:=bF.1 h.1 x hx;simp only[YN,aN,bW]at this;exact this.1};have:=bF.1 h.1 x hx;simp only[YN,aN,bW]at this;exact IX this.2
theorem a8T{m:Md}(h:yN m=true):KJ m/\MdC m:=by unfold yN at h;simp only[aN,bW]at h;obtain⟨⟨⟨⟨⟨⟨⟨⟨⟨h1,h2⟩,h3⟩,h4⟩,h5⟩,h6⟩,h7⟩,h8⟩,h9⟩,h10⟩:=h;have f6:=b2u h6;refine⟨⟨h1,h2,⟨f6.1,f6.2.1⟩,h3,λp hp=>?_,h4,λg hg=>?_,h5,λp hp=>?_⟩,⟨λx hx=>?_,f6.2.2,λp hp=>?_,λg hg f hf=>?_,λp hp v hv=>?_⟩⟩;{have:=b2u (bF.1 h8 p hp);exact⟨this.1,this.2.1⟩};{have:=bF.1 h9 g hg;simp only[grS,aN,bW]at this;exact this.1};{have:=bF.1 h10 p hp;simp only[phS,aN,bW]at this;exact this.1};{have:=bF.1 h7 x hx;simp only[evS,aN]at this;exact⟨IX this.1.1,IX this.1.2,IX this.2⟩};{exact(b2u (bF.1 h8 p hp)).2.2};{have:=bF.1 h9 g hg;simp only[grS,aN,bW]at this;exact IX (bF.1 this.2 f hf)};have:=bF.1 h10 p hp;simp only[phS,aN,bW]at this;exact IX (bF.1 this.2 v hv)
end S
open Go Go.AL Go.Proofs
namespace Go.AL
section
variable{P:Program}{ops:Array Oper}{Q:Exit->Act->World->Prop}{a:Act}{w:World}{o:Oper}{l:List Oper}
end
end Go.AL
namespace S
set_option maxRecDepth 100000
end S
open Go Go.AL Go.Proofs
namespace Go.AL
section
variable{P:Program}{L:Lay}{ops:Array Oper}{Q:Exit->Act->World->Prop}{a:Act}{w:World}{o:Oper}{l:List Oper}
end
end Go.AL
namespace S
set_option maxRecDepth 100000
section
variable{w:World}{Im:Nat->Nat->Prop}
end
end S