/-
  Contracts of functions of the program. Nothing is assumed.
-/
import Derived.Test.YtdkhmfabhfgemaaGreatT9
import Derived.Shelf.Slices.In.SortNone
import Derived.Shelf.Sort.Plain
import Derived.Sort.OwnSorted
open Go Go.AL Go.Proofs
namespace S
set_option maxRecDepth 100000
def NI(m:Md):Nat->Nat
 | 0=>0
 |k+1=>NI m k+(qO m ((k:Int)-1)).length
def A8(m:Md)(x:Node):Int:=x.2.2+NI m (x.2.1+1).toNat
theorem a1e{m:Md}(hB:KI m):∀{k:Nat},k<=m.pages.length+1->NI m k<=100*k
 | 0,_=>by simp[NI]
 |k+1,h=>by have:=a1e hB (k:=k) aj;have h2:=(hB.qO (a:=(k:Int)-1) aj).1;simp only[NI];omega
theorem XM(m:Md)(hB:KI m)(x:Node)(ha:x.2.1 = -1\/(0<=x.2.1/\x.2.1<(m.pages.length:Int)))(hi:0<=x.2.2/\x.2.2<1000000):ZQ 132 [m.av,.int .i64 x.2.1,.int .i64 x.2.2] [] (.int .i64 (A8 m x)) []:=by
 obtain⟨xk,a,i⟩:=x;dsimp only at ha hi ⊢;have hpl:=hB.pages;obtain⟨K,hK⟩:∃K:Nat,(K:Int)=a+1:=⟨(a+1).toNat,aj⟩;have hnum:A8 m (xk,a,i)=i+(NI m K:Nat):=(by unfold A8;dsimp only;rw[show(a+1).toNat=K from by omega]);rw[hnum];have haK:a=(K:Int)-1:=aj;subst haK;refine ZN Tryz.func132 λhok=>?_;refine qW.of <| qN.inv (.refl _ _) (fun(k:Nat)=>k<=K) (fun(k:Nat)=>[(8,.int .i64 ((k:Int)-1)),(7,.int .i64 (i+(NI m k:Nat)))]) (λ_=>_) (fun(k:Nat)=>K-k) 0 ?_ (λ_=>rfl) ?_ ?_;{exact aP _}
 ·repeat' first|exact Zq|apply aI
  all_goals first|(simp[NI];done)|skip
 rintro k hk _;refine ZS ?_ ?_<;>intro h
 ·have hkl:k<K:=aj;have hak:(k:Int)-1 = -1\/(0<=(k:Int)-1/\(k:Int)-1<(m.pages.length:Int)):=aj;have ho:=a1e hB (k:=k+1) aj;have hs:NI m (k+1)=NI m k+(qO m ((k:Int)-1)).length:=rfl;refine ZW ?_;refine .zW (DU m _ hak) ?_;refine⟨rW aA aA,ZW ?_⟩;refine ZG ?_;refine⟨k+1,?_,?_,?_⟩;{exact hkl}
  ·rw[hs];refine Zv ?_ ?_
   ·repeat' first|exact Zq|apply aI
    all_goals (show(_:Int)=_;first|omega|(rw[aC];omega))
   exact wk
  omega
 have hkl:k=K:=aj;subst hkl;exact ZJ
def Ky(m:Md)(a:Int)(l:List Str):List Int:=((l.map (uV m a)).filter λx=>decide (x.1=2)).map (A8 m)
def Gy(m:Md)(x:Node):List Int:=Ky m x.2.1 (rP m x).ins
def xq(m:Md):List (List Int):=(rE m).map (Gy m)
theorem a3M{m:Md}{a:Int}{s:Str}{l:List Str}:Ky m a (s::l)=if(uV m a s).1=2 then A8 m (uV m a s)::Ky m a l else Ky m a l:=by unfold Ky;rw[dF,kG];by_cases h:(uV m a s).1=2;{rw[aG h,aG (by simpa using h),dF]};rw[aB h,aB (by simpa using h)]
abbrev zL(l:List Int):AV:=.sl 1 (l.map (AV.int .i64)) .no
abbrev uL(l:List (List Int)):AV:=.sl 1 (l.map zL) .no
theorem OV{m:Md}{a:Int}{s:Str}(ha:a = -1\/(0<=a/\a<(m.pages.length:Int)))(h:(uV m a s).1=2):uV m a s∈rE m:=by
 have key:∀b t,(b = -1\/(0<=b/\b<(m.pages.length:Int)))->(zZ m b t).1=2->zZ m b t∈rE m:=by intro b t hb h;unfold zZ at h ⊢;by_cases h1:0<=rM m.evs t;{rw[aG h1]at h;cases h};rw[aB h1]at h ⊢;by_cases h2:0<=tN m.hs t;{rw[aG h2]at h;cases h};rw[aB h2]at h ⊢;by_cases h3:0<=tX (qO m b) t;{rw[aG h3];exact uN.2 ⟨rfl,hb,h3,EF _ _⟩};rw[aB h3]at h;cases h
 unfold uV at h ⊢;by_cases h1:EH s=true;{rw[aG h1]at h ⊢;by_cases h2:tq m.pages (s.drop 1)<0;{rw[aG h2]at h;cases h};rw[aB h2]at h ⊢;exact key _ _ (.inr ⟨aj,EF _ _⟩) h};rw[aB h1]at h ⊢;exact key _ _ ha h
theorem b08(m:Md)(hB:KI m)(ht:∀p:Int,0<=p->p<(m.pages.length:Int)->EH (sG m p)=false)(R:AV)(hR:R=uL (xq m)):ZQ 103 [m.av] [] R []:=by
 have hpl:=hB.pages;refine ZN Tryz.func103 λhok=>?_;refine qW.of <| qN.inv (.grow 3 1 [] _ rfl (.inl ⟨rfl,rfl⟩) (.refl _ _)) (fun(q:Nat×List (List Int))=>q.1<=m.pages.length+1/\q.2++(wQ m q.1).map (Gy m)=xq m/\q.2.length<=100*q.1)
  (λq=>[(4,.int .i64 ((q.1:Int)-1)),(3,.sl 1 (q.2.map zL) (.own 1))]) (λq=>[(1,.tok 1 q.2.length),(0,.box m.av)]) (λq=>m.pages.length+1-q.1) (0,[]) ?_ (λ_=>rfl) ?_ ?_
 ·exact⟨aP _,rfl,ak⟩
 ·exact Zv wk wk
 rintro⟨k,us⟩ ⟨hk,hn,hu⟩ _;dsimp only at hk hn hu;refine ZS ?_ ?_<;>intro h
 ·have hkl:k<m.pages.length+1:=(by simp only[aC]at h;omega);have ha:(k:Int)-1 = -1\/(0<=(k:Int)-1/\(k:Int)-1<(m.pages.length:Int)):=aj;have hBa:=hB.qO ha;have cG:=DU m _ ha;have cF:=λs=>XW m _ s ha ht;have hfg:=λs=>OV (m:=m) (s:=s) ha;have hNl:=λi (h:i<(qO m ((k:Int)-1)).length)=>yu? (H9 (m:=m) (a:=(k:Int)-1) h);have hga:∀(i:Nat) (h:i<(qO m ((k:Int)-1)).length),Gy m (2,(k:Int)-1,(i:Int))=Ky m ((k:Int)-1) (qO m ((k:Int)-1))[i].ins:=(by intro i h;unfold Gy rP;dsimp only;rw[aO,aF,aH h];rfl);rw[Ba hkl]at hn;clear h;generalize hrest:wQ m (k+1)=rest at *;have hle:=EN m ((k:Int)-1);generalize b6U:(k:Int)-1=a at *;generalize b8f:yR m a=nod at *;generalize hgs:qO m a=gs at *;refine ZW ?_;refine .zP cG λb2D=>?_;refine ZW ?_;refine qW.of <| qN.inv (.refl _ _) (fun(q:Nat×List (List Int))=>q.1<=gs.length/\q.2++(nod.drop q.1++rest).map (Gy m)=xq m/\q.2.length<=us.length+q.1)
   (λq=>[(24,.int .i64 q.1),(3,.sl 1 (q.2.map zL) (.own 1))]) (λq=>[(1,.tok 1 q.2.length),(0,.box m.av)]) (λq=>gs.length-q.1) (0,us) ?_ (λ_=>rfl) ?_ ?_
  ·exact⟨aP _,hn,ak⟩
  ·exact Zv wk wk
  rintro⟨i,u1⟩ ⟨hi,hni,hu1⟩ _;dsimp only at hi hni hu1;refine ZS ?_ ?_<;>intro h
  ·have hlt:i<gs.length:=(by simpa using h);have hxi:=hBa.2 _ (aN hlt);rw[hNl i hlt,eP,dF,hga i hlt]at hni;refine ZW ?_;refine sH hlt ?_;generalize gs[i]=g at *;refine ZW ?_;refine qW.of <| qN.inv (.grow 7 1 [] _ rfl (.inl ⟨rfl,rfl⟩) (.refl _ _)) (fun(q:Nat×List Int)=>q.1<=g.ins.length/\q.2++Ky m a (g.ins.drop q.1)=Ky m a g.ins/\q.2.length<=q.1)
    (λq=>[(31,.int .i64 q.1),(7,.sl 1 (q.2.map (AV.int .i64)) (.own 3))]) (λq=>[(3,.tok 1 q.2.length),(2,.box g.av),(1,.tok 1 u1.length),(0,.box m.av)]) (λq=>g.ins.length-q.1) (0,[]) ?_ (λ_=>rfl) ?_ ?_
   ·exact⟨aP _,rfl,ak⟩
   ·exact Zv wk wk
   rintro⟨j,l⟩ ⟨hj,tC,hl⟩ _;dsimp only at hj tC hl;refine ZS ?_ ?_<;>intro hh
   ·have hjl:j<g.ins.length:=(by simpa using hh);rw[aZ hjl,a3M]at tC;refine ZW ?_;refine sH hjl ?_;generalize g.ins[j]=x at *;have hfg:=hfg x;have cF:=cF x;generalize uV m a x=y at *;obtain⟨y1,y2,y3⟩:=y;refine ZW ?_;refine .zW cF ?_;constructor<;>intro g1
    ·obtain⟨_,hy2,hy3,hy4⟩:=uN.1 (hfg g1);have hb4:=(hB.qO hy2).1;have cN:=XM m hB (y1,y2,y3) hy2 ⟨hy3,by show y3<1000000;have:y3<((qO m y2).length:Int):=hy4;have:(qO m y2).length<=100:=hb4;omega⟩;rw[aG g1]at tC;generalize A8 m (y1,y2,y3)=z at *;refine ZW ?_;refine .zW cN ?_;refine⟨by rw[aC],.mk (by simp[maxL];omega) aA (ZW ?_)⟩;refine ZG ?_;refine⟨(j+1,l++[z]),?_,?_,?_⟩;{exact⟨hjl,by rw[<- tC];simp,by show(l++[z]).length<=j+1;simp;omega⟩}
     ·refine Zv ?_ ?_
      ·repeat' first|exact Zq|apply aI
       all_goals first|(refine qY ?_;simp[strip];done)|(simp;done)|(simp;omega)
      repeat' first|exact Zq|apply aI
      all_goals first|(refine qY ?_;simp[strip];done)|(simp;done)|(simp;omega)
     show g.ins.length-(j+1)<g.ins.length-j;omega
    rw[aB g1]at tC;refine ZW ?_;refine ZG ?_;refine⟨(j+1,l),?_,?_,?_⟩;{exact⟨hjl,tC,by show l.length<=j+1;omega⟩};{exact Zv wk wk};show g.ins.length-(j+1)<g.ins.length-j;omega
   have hjl:j=g.ins.length:=(by have:¬j<g.ins.length:=(by simpa using hh);omega);subst hjl;rw[iU,show Ky m a []=[]from rfl,iM]at tC;subst tC;generalize Ky m a g.ins=l at *;refine ZW ?_;refine⟨by rw[aC],.mk (by simp[maxL];omega) aA (ZW ?_)⟩;refine ZG ?_;refine⟨(i+1,u1++[l]),?_,?_,?_⟩;{exact⟨hlt,by rw[<- hni];simp,by show(u1++[l]).length<=us.length+(i+1);simp;omega⟩}
   ·refine Zv ?_ ?_
    ·repeat' first|exact Zq|apply aI
     all_goals first|(refine qY ?_;simp[strip];done)|(simp;done)|(simp;omega)
    repeat' first|exact Zq|apply aI
    all_goals first|(refine qY ?_;simp[strip];done)|(simp;done)|(simp;omega)
   show gs.length-(i+1)<gs.length-i;omega
  have hil:i=gs.length:=(by have:¬i<gs.length:=(by simpa using h);omega);rw[aX aj,fE]at hni;refine ZW ?_;refine ZG ?_;refine⟨(k+1,u1),?_,?_,?_⟩;{exact⟨hkl,by show u1++(wQ m (k+1)).map (Gy m)=_;rw[hrest];exact hni,by show u1.length<=100*(k+1);have:=hBa.1;omega⟩}
  ·refine Zv ?_ ?_
   ·repeat' first|exact Zq|apply aI
    all_goals (show _=_;congr 1 <;> omega)
   exact wk
  show m.pages.length+1-(k+1)<m.pages.length+1-k;omega
 have hkl:m.pages.length+1<=k:=(by simp only[aC]at h;omega);rw[EC hkl,List.map_nil,iM]at hn;subst hn;subst hR;exact ZJ
def KF(d:List Bool)(l:List Int):Bool:=l.all λk=>d.getD k.toNat false
def stepD(d:List Bool)(i:Nat)(l:List Int):List Bool:=d.set i (d.getD i false||KF d l)
def GL:Nat->List (List Int)->List Bool->List Bool
 |_,[],d=>d
 |i,l::us,d=>GL (i+1) us (stepD d i l)
def BA(us:List (List Int)):Nat->List Bool->List Bool
 | 0,d=>d
 |r+1,d=>BA us r (GL 0 us d)
def doneD(us:List (List Int)):List Bool:=BA us us.length (List.replicate us.length false)
def a9J(us:List (List Int)):Bool:=(doneD us).any λb=>!b
theorem MG{d:List Bool}{i:Nat}{l:List Int}:(stepD d i l).length=d.length:=by simp[stepD]
theorem a5y{d:List Bool}{l:List Int}{i:Nat}(h:i<l.length):KF d (l.take (i+1))=(KF d (l.take i)&&d.getD (l[i]).toNat false):=by unfold KF;rw[eG,aH h,List.all_append];simp
theorem Xm{m:Md}:∀{k:Nat},k<=m.pages.length+1->(rE m).drop (NI m k)=wQ m k
 | 0,_=>rfl
 |k+1,h=>by simp only[NI];rw[<- kE,Xm (by omega:k<=_),Ba aj,<- EN,List.drop_left]
theorem JK{m:Md}{x:Node}(hx:x∈rE m):0<=A8 m x/\(rE m)[(A8 m x).toNat]? = some x:=by obtain⟨h1,h2,h3,h4⟩:=uN.1 hx;obtain⟨xk,a,i⟩:=x;dsimp only at h1 h2 h3 h4;subst h1;have hb:(a+1).toNat<m.pages.length+1:=aj;have e:=Xm (m:=m) (k:=(a+1).toNat) aj;have ha:(((a+1).toNat:Nat):Int)-1=a:=aj;rw[Ba hb,ha]at e;have hi:i.toNat<(qO m a).length:=aj;have g:((rE m).drop (NI m (a+1).toNat))[i.toNat]? = some (2,a,i):=(by rw[e,bI (by rw[EN];exact hi),H9 hi,fJ h3]);rw[iC]at g;have hn:A8 m (2,a,i)=i+NI m (a+1).toNat:=rfl;refine⟨by rw[hn];omega,?_⟩;rw[hn,show(i+(NI m (a+1).toNat:Int)).toNat=NI m (a+1).toNat+i.toNat by omega];exact g
theorem a02{m:Md}:∀l∈xq m,∀k∈l,0<=k/\k<((xq m).length:Int):=by intro l hl k hk;unfold xq at hl;obtain⟨x,hx,rfl⟩:=bg.1 hl;unfold Gy Ky at hk;obtain⟨y,hy,rfl⟩:=bg.1 hk;obtain⟨hy,h2⟩:=dZ.1 hy;obtain⟨s,_,rfl⟩:=bg.1 hy;obtain⟨g1,g2⟩:=JK (OV (uN.1 hx).2.1 (eF h2));have:=(aY.1 g2).1;refine⟨g1,?_⟩;simp only[xq,aC];omega
theorem OH:∀(n:Nat),tV (List.replicate n AV.ff) ((List.replicate n false).map AV.bool)
 | 0=>trivial
 |n+1=>⟨rfl,OH n⟩
theorem Lc{A:AV}{b:Bool}(h:IY A (.bool b)):∀(d:List Bool) (i:Nat),tV ((d.map AV.bool).set i A) ((d.set i b).map AV.bool)
 | [],_=>trivial
 |_::_,0=>⟨h,qX _⟩
 |_::d,i+1=>⟨Qe _,Lc h d i⟩
theorem b3y(m:Md)(hB:KI m)(ht:∀p:Int,0<=p->p<(m.pages.length:Int)->EH (sG m p)=false)(hn:(xq m).length<=100000):ZQ 46 [m.av] [] (.bool (a9J (xq m))) []:=by
 have cu:=b08 m hB ht _ rfl;have hlt:=a02 (m:=m);refine ZN Tryz.func46 λhok=>?_;refine .zP cu λb6L=>?_;generalize xq m=us at *;refine ZW ?_;rw[show(((us.map zL).length:Nat):Int)=(us.length:Int) by simp];refine⟨⟨aj,aj,aA,aj⟩,.wr (ZW ?_)⟩;refine qW.of <| qN.inv (.refl _ _) (fun(q:Nat×List Bool)=>q.1<=us.length/\q.2.length=us.length/\BA us (us.length-q.1) q.2=doneD us)
  (λq=>[(19,.int .i64 q.1)]) (λq=>[(1,.arr 1 us.length (q.2.map .bool)),(0,.box m.av)]) (λq=>us.length-q.1) (0,List.replicate us.length false) ?_ (λ_=>rfl) ?_ ?_
 ·exact⟨aP _,ak,rfl⟩
 ·refine Zv wk ?_;repeat' first|exact Zq|apply aI
  all_goals first|(simp;done)|exact OH _
 rintro⟨r,d⟩ ⟨hr,hd,hF⟩ _;dsimp only at hr hd hF;refine ZS ?_ ?_<;>intro h
 ·have hrl:r<us.length:=(by simpa using h);rw[show us.length-r=(us.length-(r+1))+1 by omega]at hF;simp only[BA]at hF;clear h;refine ZW ?_;refine qW.of <| qN.inv (.refl _ _) (fun(q:Nat×List Bool)=>q.1<=us.length/\q.2.length=us.length/\GL 0 us d=GL q.1 (us.drop q.1) q.2)
   (λq=>[(23,.int .i64 q.1)]) (λq=>[(1,.arr 1 us.length (q.2.map .bool)),(0,.box m.av)]) (λq=>us.length-q.1) (0,d) ?_ (λ_=>rfl) ?_ ?_
  ·exact⟨aP _,hd,rfl⟩
  ·exact Zv wk wk
  rintro⟨i,d1⟩ ⟨hi,hd1,hP⟩ _;dsimp only at hi hd1 hP;refine ZS ?_ ?_<;>intro h
  ·have hil:i<us.length:=(by simpa using h);have hul:=hlt _ (aN hil);have hll:(us[i]).length<=9223372036854775807:=(by have:=J8 b6L.2 _ (aN hil);simp only[Ok]at this;simpa[maxL]using this.1);rw[aZ hil]at hP;simp only[GL]at hP;refine ZW ?_;refine sH hil ?_;generalize us[i]=l at *;refine ZW ?_;refine qW.of <| qN.inv (.refl _ _) (fun(q:Nat)=>q<=l.length)
    (λq=>[(30,.int .i64 q),(7,.bool (KF d1 (l.take q)))]) (λq=>[(1,.arr 1 us.length (d1.map .bool)),(0,.box m.av)]) (λq=>l.length-q) 0 ?_ (λ_=>rfl) ?_ ?_
   ·exact aP _
   ·exact Zv wk wk
   rintro q hq _;refine ZS ?_ ?_<;>intro hh;{have Du:q<l.length:=(by simpa using hh);have hrt:=a5y (d:=d1) Du;have hk:=hul _ (aN Du);refine ZW ?_;refine sH Du ?_;generalize l[q]=k at *;refine ZS ?_ ?_<;>intro hy;{refine ZW ?_;refine⟨aA,ZW ?_⟩;refine vH false (i:=k.toNat) ak aj ?_;refine⟨rfl,ZW ?_⟩;refine ZG ?_;refine⟨q+1,?_,?_,?_⟩;{exact Du};{rw[hrt,hy,jo];exact Zv wk wk};omega};refine ZW ?_;refine ZG ?_;refine⟨q+1,?_,?_,?_⟩;{exact Du};{rw[hrt,hy,Bool.false_and];exact Zv wk wk};omega};have Du:q=l.length:=(by have:¬q<l.length:=(by simpa using hh);omega);subst Du;rw[bn];refine ZW ?_;refine⟨aA,ZW ?_⟩;refine vH false (i:=i) ak aj ?_;refine⟨rfl,?_⟩;refine ZS ?_ ?_<;>intro hy
   ·refine ZW ?_;refine⟨aj,ZW ?_⟩;refine⟨aA,rfl,?_⟩;have hsd:stepD d1 i l=d1.set i true:=(by unfold stepD;rw[hy];rfl);refine ZW ?_;refine ZG ?_;refine⟨(i+1,stepD d1 i l),?_,?_,?_⟩;{exact⟨hil,by show(stepD d1 i l).length=_;rw[MG];exact hd1,hP⟩}
    ·rw[hsd];refine Zv wk ?_;repeat' first|exact Zq|apply aI
     all_goals first|(simp;done)|(rw[show 0+((i:Nat):Int).toNat=i by simp];exact Lc (A:=.tt) (b:=true) rfl d1 i)
    show us.length-(i+1)<us.length-i;omega
   refine ZW ?_;refine⟨aj,ZW ?_⟩;refine⟨aA,rfl,?_⟩;have hsd:stepD d1 i l=d1.set i (KF d1 l):=(by unfold stepD;rw[hy];rw[fD]);refine ZW ?_;refine ZG ?_;refine⟨(i+1,stepD d1 i l),?_,?_,?_⟩;{exact⟨hil,by show(stepD d1 i l).length=_;rw[MG];exact hd1,hP⟩}
   ·rw[hsd];refine Zv wk ?_;repeat' first|exact Zq|apply aI
    all_goals first|(simp;done)|(rw[show 0+((i:Nat):Int).toNat=i by simp];exact Lc (A:=.bool (KF d1 l)) (b:=(KF d1 l)) rfl d1 i)
   show us.length-(i+1)<us.length-i;omega
  have hil:i=us.length:=(by have:¬i<us.length:=(by simpa using h);omega);rw[aX aj]at hP;simp only[GL]at hP;rw[hP]at hF;refine ZW ?_;refine ZG ?_;refine⟨(r+1,d1),?_,?_,?_⟩;{exact⟨hrl,hd1,hF⟩};{exact Zv wk wk};show us.length-(r+1)<us.length-r;omega
 have hrl:r=us.length:=(by have:¬r<us.length:=(by simpa using h);omega);rw[hrl,gJ]at hF;simp only[BA]at hF;have hcy:a9J us=d.any λb=>!b:=(by unfold a9J;rw[hF]);rw[hcy];clear h;refine ZW ?_;refine qW.of <| qN.inv (.refl _ _) (fun(q:Nat)=>q<=us.length/\∀(z:Nat) (hz:z<d.length),z<q->d[z]=true)
  (λq=>[(56,.int .i64 q)]) (λq=>[(1,.arr 1 us.length (d.map .bool)),(0,.box m.av)]) (λq=>us.length-q) 0 ?_ (λ_=>rfl) ?_ ?_
 ·exact⟨aP _,aj⟩
 ·exact Zv wk wk
 rintro q ⟨hq,hz⟩ _;refine ZS ?_ ?_<;>intro hh;{have Du:q<us.length:=(by simpa using hh);have hqd:q<d.length:=aj;refine ZW ?_;refine⟨aj,ZW ?_⟩;refine vH false (i:=q) ak hqd ?_;refine⟨rfl,?_⟩;rw[vg hqd];refine ZS ?_ ?_<;>intro hy;{rw[show(d.any λb=>!b)=true from gB.2 ⟨d[q],aN hqd,by simpa using hy⟩];exact ZJ};refine ZW ?_;refine ZG ?_;refine⟨q+1,?_,?_,?_⟩;{refine⟨Du,λz hz1 hzq=>?_⟩;by_cases e:z=q;{subst e;simpa using hy};exact hz z hz1 aj};{exact Zv wk wk};omega};have Du:q=us.length:=(by have:¬q<us.length:=(by simpa using hh);omega);rw[show(d.any λb=>!b)=false from jZ.2 λb hb=>by
  obtain⟨z,hz1,rfl⟩:=dN hb;simp[hz z hz1 aj]]
 exact ZJ
theorem a0i{m:Md}{a:Int}{s:Str}(h:RF m (y7 m a s)):zZ m a s=y7 m a s:=by
 unfold zZ;by_cases h1:0<=rM m.evs s;{rw[aG h1];unfold y7;rw[aG h1]};by_cases h2:0<=tN m.hs s;{rw[aB h1,aG h2];unfold y7;rw[aB h1,aG h2]};have e:y7 m a s=(2,a,tX (qO m a) s):=by unfold y7;rw[aB h1,aB h2]
 rw[e]at h ⊢;have h3:0<=tX (qO m a) s:=(by rcases h with h|h|h;{exact absurd (show(2:Int)=0 from h.1) au};{exact absurd (show(2:Int)=1 from h.1) au};exact(uN.1 h).2.2.1);rw[aB h1,aB h2,aG h3]
theorem a2R{m:Md}{a:Int}{s:Str}(h:RF m (yH m a s))(hp:EH s=true->0<=tq m.pages (s.drop 1)):uV m a s=yH m a s:=by unfold uV;by_cases e:EH s=true;{have hr:yH m a s=y7 m (tq m.pages (s.drop 1)) (sG m (tq m.pages (s.drop 1))):=aG e;have:=hp e;rw[hr]at h ⊢;rw[aG e,aB aj,a0i h]};have hr:yH m a s=y7 m a s:=aB e;rw[hr]at h ⊢;rw[aB e,a0i h]
theorem MC{m:Md}(hc:AQ m){x:Node}(hx:x∈rE m):Gy m x=((sZ m x).filter λy=>decide (y.1=2)).map (A8 m):=by unfold Gy Ky sZ;have:(rP m x).ins.map (uV m x.2.1)=(rP m x).ins.map (yH m x.2.1):=lQ λs hs=>a2R (hc x hx s hs).2.2 (hc x hx s hs).2.1;rw[this]
def LeD(d e:List Bool):Prop:=∀i:Nat,d.getD i false=true->e.getD i false=true
theorem LeD.refl(d:List Bool):LeD d d:=λ_ h=>h
theorem LeD.trans{a b c:List Bool}(h:LeD a b)(g:LeD b c):LeD a c:=λi e=>g i (h i e)
theorem DN{d:List Bool}{i j:Nat}{b:Bool}:(d.set i b).getD j false=if i=j/\j<d.length then b else d.getD j false:=by rw[aF,jY,aF];by_cases e:i=j;{subst e;by_cases h:i<d.length;{simp[h]};simp[h]};simp[e]
theorem b1T{d e:List Bool}(h:LeD d e){l:List Int}(hr:KF d l=true):KF e l=true:=by unfold KF at hr ⊢;exact bD.2 λk hk=>h _ (bD.1 hr k hk)
theorem PG{d:List Bool}{i:Nat}{l:List Int}:LeD d (stepD d i l):=by intro j h;unfold stepD;rw[DN];split;{rename_i e;rw[e.1,h,nV]};exact h
theorem V7:∀(us:List (List Int)) (i:Nat) (d:List Bool),LeD d (GL i us d)
 | [],_,d=>.refl d
 |_::us,i,_=>PG.trans (V7 us (i+1) _)
theorem MO:∀(us:List (List Int)) (i:Nat) (d:List Bool),(GL i us d).length=d.length
 | [],_,_=>rfl
 |l::us,i,d=>by simp only[GL];rw[MO us,MG]
theorem V6:∀(us:List (List Int)) (j:Nat) (d:List Bool) (k:Nat) (h:k<us.length),j+k<d.length->KF d us[k]=true->(GL j us d).getD (j+k) false=true
 | [],_,_,_,h,_,_=>absurd h ak
 |l::us,j,d,0,_,hd,hr=>by simp only[GL];refine V7 us (j+1) _ _ ?_;unfold stepD;rw[DN,aG ⟨rfl,hd⟩];have hr:KF d l=true:=hr;rw[hr,Bool.or_true]
 |l::us,j,d,k+1,h,hd,hr=>by simp only[GL];have:=V6 us (j+1) (stepD d j l) k (by simpa using h) (by rw[MG];omega) (b1T PG hr);rw[show j+(k+1)=j+1+k by omega];exact this
theorem cnt_lt:∀(d e:List Bool),d.length=e.length->LeD d e->e.count false<=d.count false/\((∃i:Nat,i<d.length/\d.getD i false=false/\e.getD i false=true)->e.count false<d.count false)
 | [],[],_,_=>⟨aT _,by rintro⟨i,h,_⟩;simp at h⟩
 | [],_::_,h,_=>by simp at h
 |_::_,[],h,_=>by simp at h
 | x::d,y::e,h,hl=>by
   obtain⟨h1,h2⟩:=cnt_lt d e (by simpa using h) λi hi=>(by simpa using hl (i+1) (by simpa using hi));have h0:x=true->y=true:=λhx=>(by simpa using hl 0 (by simpa using hx));simp only[List.count_cons];refine⟨?_,?_⟩;{cases x <;> cases y <;> simp_all <;> omega};rintro⟨i,hi,hd,he⟩;cases i with
   |zero =>have hd:x=false:=(by simpa using hd);have he:y=true:=(by simpa using he);subst hd;subst he;simp;omega
   |succ i =>have h3:=h2 ⟨i,by simpa using hi,by simpa using hd,by simpa using he⟩;cases x <;> cases y <;> simp_all <;> omega
theorem Zr{us:List (List Int)}{d:List Bool}{rk:Nat->Nat}(hrk:∀(i:Nat) (h:i<us.length),∀k∈us[i],k.toNat<us.length/\rk k.toNat<rk i) :
  ∀(R i:Nat),i<us.length->rk i<=R->d.getD i false=false->∃(j:Nat) (h:j<us.length),d.getD j false=false/\KF d us[j]=true
 | R,i,hi,hR,hd=>by
   by_cases hr:KF d us[i]=true;{exact⟨i,hi,hd,hr⟩};have:∃k∈us[i],d.getD k.toNat false=false:=by unfold KF at hr;rw[lF,List.all_eq_false]at hr;obtain⟨k,hk,h⟩:=hr;exact⟨k,hk,by simpa using h⟩
   obtain⟨k,hk,hkd⟩:=this;obtain⟨h1,h2⟩:=hrk i hi k hk
   match R,hR with
   | 0,hR=>omega
   |R+1,hR=>exact Zr hrk R k.toNat h1 aj hkd
theorem a6S{d:List Bool}(h:d.count false≠0):∃i:Nat,i<d.length/\d.getD i false=false:=by have:false∈d:=List.count_pos_iff.1 aj;obtain⟨i,hi,e⟩:=dN this;exact⟨i,hi,by rw[vg hi];exact e⟩
theorem VQ{us:List (List Int)}{rk:Nat->Nat}(hrk:∀(i:Nat) (h:i<us.length),∀k∈us[i],k.toNat<us.length/\rk k.toNat<rk i) :
  ∀(r:Nat) (d:List Bool),d.length=us.length->d.count false<=r->(BA us r d).count false=0
 | 0,d,_,h=>by simp only[BA];omega
 |r+1,d,hd,h=>by simp only[BA];refine VQ hrk r _ (by rw[MO];exact hd) ?_;obtain⟨h1,h2⟩:=cnt_lt d (GL 0 us d) (MO us 0 d).symm (V7 us 0 d);by_cases h0:d.count false=0;{omega};obtain⟨i,hi,hid⟩:=a6S h0;obtain⟨j,hj,hjd,hjr⟩:=Zr hrk (rk i) i aj (aT _) hid;have:=h2 ⟨j,aj,hjd,by have:=V6 us 0 d j hj aj hjr;rwa[bH]at this⟩;omega
theorem a4n{us:List (List Int)}{rk:Nat->Nat}(hrk:∀(i:Nat) (h:i<us.length),∀k∈us[i],k.toNat<us.length/\rk k.toNat<rk i):a9J us=false:=by have:=VQ hrk us.length (List.replicate us.length false) ak (by rw[List.count_replicate_self];exact aT _);unfold a9J doneD;rw[jZ];intro b hb;have h0:=List.count_eq_zero.1 this;cases b;{exact absurd hb h0};simp
def S9(us:List (List Int))(d:List Bool):Prop:=∃rk:Nat->Nat,∀i,d.getD i false=true->∀k∈us.getD i [],d.getD k.toNat false=true/\rk k.toNat<rk i
theorem a5g{rk:Nat->Nat}:∀{l:List Int} {k:Int},k∈l->rk k.toNat<=(l.map λk=>rk k.toNat).sum
 | [],_,h=>by simp at h
 |x::l,k,h=>by simp only[dF,mM];rcases aU.1 h with rfl|h;{omega};have:=a5g (rk:=rk) h;omega
theorem S9.step{us:List (List Int)}{d:List Bool}(h:S9 us d){i:Nat}{l:List Int}(hl:us.getD i []=l):S9 us (stepD d i l):=by
 obtain⟨rk,hr⟩:=h;by_cases h0:d.getD i false=false/\KF d l=true
 ·obtain⟨h1,h2⟩:=h0;have hne:∀j,d.getD j false=true->j≠i:=λj hj e=>by rw[e,h1]at hj;cases hj
  refine⟨λj=>if j=i then 1+(l.map λk=>rk k.toNat).sum else rk j,λj hj k hk=>?_⟩;by_cases e:j=i;{subst e;rw[hl]at hk;have hkd:=bD.1 h2 k hk;refine⟨PG _ hkd,?_⟩;dsimp only;rw[aB (hne _ hkd),aG rfl];have:=a5g (rk:=rk) hk;omega};have hj:d.getD j false=true:=(by unfold stepD at hj;rw[DN,aB (λh=>e h.1.symm)]at hj;exact hj);obtain⟨g1,g2⟩:=hr j hj k hk;refine⟨PG _ g1,?_⟩;dsimp only;rw[aB (hne _ g1),aB e];exact g2
 have heq:∀j,(stepD d i l).getD j false=d.getD j false:=(by intro j;unfold stepD;rw[DN];split;{rename_i e;obtain⟨rfl,_⟩:=e;cases h1:d.getD i false;{cases h2:KF d l;{rfl};exact absurd ⟨h1,h2⟩ h0};rfl};rfl);refine⟨rk,λj hj k hk=>?_⟩;rw[heq]at hj;rw[heq];exact hr j hj k hk
theorem S9.pass{us:List (List Int)}:∀(l:List (List Int)) (i:Nat) (d:List Bool),us.drop i=l->S9 us d->S9 us (GL i l d)
 | [],_,_,_,h=>h
 | x::l,i,d,hl,h=>by
   simp only[GL];have h1:us[i]? = some x:=by rw[<- List.head?_drop,hl];rfl
   have h2:us.drop (i+1)=l:=(by rw[<- List.tail_drop,hl];rfl);exact S9.pass l (i+1) _ h2 (h.step (by rw[aF,h1];rfl))
theorem S9.rounds{us:List (List Int)}:∀(r:Nat) (d:List Bool),S9 us d->S9 us (BA us r d)
 | 0,_,h=>h
 |r+1,d,h=>by simp only[BA];exact S9.rounds r _ (S9.pass us 0 d rfl h)
theorem TA{us:List (List Int)}:∀(r:Nat) (d:List Bool),(BA us r d).length=d.length
 | 0,_=>rfl
 |r+1,d=>by simp only[BA];rw[TA r,MO]
theorem a6R{us:List (List Int)}(h:a9J us=false):∃rk:Nat->Nat,∀i,i<us.length->∀k∈us.getD i [],rk k.toNat<rk i:=by
 obtain⟨rk,hr⟩:=S9.rounds us.length (List.replicate us.length false) (us:=us) ⟨λ_=>0,λi hi=>by
  exfalso;rw[aF,eH]at hi;split at hi <;> simp at hi⟩
 refine⟨rk,λi hi k hk=>(hr i ?_ k hk).2⟩;unfold a9J doneD at h;have hlen:(BA us us.length (List.replicate us.length false)).length=us.length:=(by rw[TA];simp);rw[jZ]at h;rw[vg aj];simpa using h _ (aN aj)
theorem a1y{m:Md}(hc:AQ m){rank:Node->Nat}(hr:QX m rank):QC m=false:=by
 unfold QC;have key:∀(l:List Node) (s:WS Unit),(∀y∈l,RF m y)->(∀z,look s.es z≠1)->(yj (Vp m) l s).1=false:=by
  intro l;induction l with
  |nil=>intro s _ _;rfl
  |cons y l ih =>intro s hl hs;obtain⟨w1,w2⟩:=Vm (step:=fun(_:Unit) _=>()) (RF m) (λx hx h2=>(yL hc hx h2).2) rank hr (NW m) y s (hl y ak) (λ_ z hz=>absurd hz (hs z));simp only[yj];rw[aB (by show ¬(y5 (sZ m) (λ_ _=>()) (NW m) y s).1=true;rw[w1];simp)];exact ih _ (λz hz=>hl z (by simp[hz])) λz hz=>hs z (w2 z hz)
 exact key _ _ (λy hy=>.inr (.inr hy)) λz=>by simp[look]
theorem Vw{m:Md}{x:Node}(hx:x∈rE m):(xq m).getD (A8 m x).toNat []=Gy m x:=by obtain⟨_,h⟩:=JK hx;unfold xq;rw[aF,dS,h];rfl
theorem b5l{m:Md}(hc:AQ m):a9J (xq m)=QC m:=by
 cases h:QC m;{obtain⟨rank,hr⟩:=a2Z hc h;refine a4n (rk:=λi=>rank ((rE m).getD i default)) λi hi k hk=>?_;have hiN:i<(rE m).length:=(by simpa[xq]using hi);have hx:=aN hiN;have hui:(xq m)[i]=Gy m (rE m)[i]:=(by simp[xq]);rw[hui,MC hc hx]at hk;obtain⟨y,hy,rfl⟩:=bg.1 hk;obtain⟨hy,h2⟩:=dZ.1 hy;have h2:y.1=2:=eF h2;have hyo:=(yL hc (.inr (.inr hx)) (uN.1 hx).1).2 y hy;obtain⟨g1,g2⟩:=JK (yL hc hyo h2).1;have g3:=(aY.1 g2).1;refine⟨by simpa[xq]using g3,?_⟩;rw[vg hiN,aF,g2];exact hr _ (.inr (.inr hx)) (uN.1 hx).1 y hy h2};cases h2:a9J (xq m)
 ·exfalso;obtain⟨rk,hr⟩:=a6R h2;have:QC m=false:=a1y hc (rank:=λx=>rk (A8 m x).toNat) λx hx hx2 y hy hy2=>by have hxm:=(yL hc hx hx2).1;obtain⟨_,g2⟩:=JK hxm;have g3:=(aY.1 g2).1;refine hr (A8 m x).toNat (by simpa[xq]using g3) (A8 m y) ?_;rw[Vw hxm,MC hc hxm];exact bg.2 ⟨y,dZ.2 ⟨hy,by simpa using hy2⟩,rfl⟩
  rw[this]at h;cases h
 rfl
theorem MdX.qO{m:Md}(hX:MdX m){a:Int}(ha:a = -1\/(0<=a/\a<(m.pages.length:Int))):∀x∈qO m a,AY x.zi:=by unfold S.qO;split;{exact hX.gates};exact hX.pages _ (getD_mem aj)
theorem a2g{m:Md}(h1:rG m=0)(h2:uT m=0)(h3:yI m (Bo m) []=0):∀p:Int,0<=p->p<(m.pages.length:Int)->EH (sG m p)=false:=by intro p hp0 hp1;have hp:p = -1\/(0<=p/\p<(m.pages.length:Int)):=.inr ⟨hp0,hp1⟩;obtain⟨sp,hs⟩:=Gp h3 p (Ir.2 hp);rcases(GR hs).2 aj with h|h;{obtain⟨i,hi,_,e⟩:=Aj h;have:=Ej h2 hp i hi;unfold uU at this;split at this;{cases this};rename_i g;rw[<- e];exact BG (by simpa using g)};obtain⟨i,hi,_,e⟩:=Aj h;have:=(wI h1).2.2.1 i hi;unfold xZ at this;split at this;{cases this};rename_i g;rw[<- e];exact BG (by simpa using g)
theorem Vu{m:Md}(hB:KI m):(xq m).length<=100000:=by have e:=Xm (m:=m) (k:=m.pages.length+1) (aT _);rw[EC (aT _)]at e;have:=List.drop_eq_nil_iff.1 e;have:=a1e hB (k:=m.pages.length+1) (aT _);have:=hB.pages;simp only[xq,aC];omega
theorem JY(m:Md):rF m=if vY m≠0 then vY m else if uT m≠0 then uT m else if Ci m≠0 then Ci m
  else if vO m≠0 then vO m else if uX m≠0 then uX m else if QC m=true then 14 else 0:=by
 unfold rF vY Ci;by_cases h1:sV m.name=false;{rw[aG h1,aG h1,aG au]};rw[aB h1,aB h1];by_cases h2:rG m≠0;{rw[aG h2,aG h2,aG h2]};rw[aB h2,aB h2];by_cases h3:uP m≠0;{rw[aG h3,aG h3]};rw[aB h3,aB h3];by_cases h4:uT m≠0;{rw[aG h4,aG h4]};rw[aB h4,aB h4];by_cases h5:yI m (Bo m) []≠0;{rw[aG h5,aG h5,aG h5]};rw[aB h5,aB h5];by_cases h6:uZ m (-1) m.top=false;{rw[aG h6,aG h6,aG au]};rw[aB h6,aB h6,aB (show ¬(0:Int)≠0 by decide)]
theorem a4j{m:Md}(h:vY m=0):rG m=0:=by unfold vY at h;split at h;{cases h};split at h;{rename_i h1;exact absurd h h1};rename_i h1;simpa using h1
theorem O1(h1c:Y2)(m:Md)(hX:MdX m)(hB:KI m)(R:AV)(hR:R=.int .i64 (rF m)):ZQ 13 [m.av] [] R []:=by
 have hpl:=hB.pages;have cf:=b3s h1c m hX hB _ rfl;have ci:=b0a m hB _ rfl;have cg:=b0e h1c m hX hB _ rfl;have cp:=a94 h1c m hX hB _ rfl;refine ZN Tryz.func13 λhok=>?_;refine .zW cf ?_;constructor<;>intro g1;{obtain rfl:R=.int .i64 (vY m):=(by rw[hR,JY];rw[aG g1]);exact ZJ};have z1:vY m=0:=(by simpa using g1);refine ZW ?_;refine qW.of <| qN.inv (.refl _ _) (fun(k:Nat)=>k<=m.pages.length+1/\uT m=wW (λ_ a=>wW (uU m a) 0 (qO m a)) k ((Bo m).drop k)) (fun(k:Nat)=>[(4,.int .i64 ((k:Int)-1))]) (λ_=>_) (fun(k:Nat)=>m.pages.length+1-k) 0 ?_ (λ_=>rfl) ?_ ?_;{exact⟨aP _,rfl⟩};{exact wk};rintro k ⟨hk,hn⟩ _;refine ZS ?_ ?_<;>intro h
 ·have hkl:k<m.pages.length+1:=(by simp only[aC]at h;omega);have ha:(k:Int)-1 = -1\/(0<=(k:Int)-1/\(k:Int)-1<(m.pages.length:Int)):=aj;rw[yu? (QO hkl)]at hn;simp only[wW]at hn;have cG:=DU m _ ha;have hXa:=hX.qO ha;have cs:=λi hi=>b3d h1c m ((k:Int)-1) i ha hi (hXa _ (aN hi)) _ rfl;have hBa:=(hB.qO ha).1;clear h;generalize b6U:(k:Int)-1=a at *;refine ZW ?_;refine .zW cG ?_;refine qW.of <| qN.inv (.refl _ _) (fun(i:Nat)=>i<=(qO m a).length/\wW (uU m a) 0 (qO m a)=wW (uU m a) i ((qO m a).drop i)) (fun(i:Nat)=>[(25,.int .i64 i)]) (λ_=>_) (fun(i:Nat)=>(qO m a).length-i) 0 ?_ (λ_=>rfl) ?_ ?_;{exact⟨aP _,rfl⟩};{exact wk};rintro i ⟨hi,hni⟩ _;refine ZS ?_ ?_<;>intro h;{have hil:i<(qO m a).length:=(by simpa using h);have cs:=cs i hil;rw[zy hil]at hni;clear h;generalize uU m a i (qO m a)[i]=e at *;refine ZW ?_;refine .zW cs ?_;constructor<;>intro g2;{rw[aG g2]at hni;rw[hni,aG g2]at hn;obtain rfl:R=.int .i64 (e):=(by rw[hR,JY];rw[aB g1,hn,aG g2]);exact ZJ};rw[aB g2]at hni;refine ZW ?_;refine ZG ?_;refine⟨i+1,?_,?_,?_⟩;{exact⟨hil,hni⟩};{exact wk};omega};have hil:i=(qO m a).length:=(by have:¬i<(qO m a).length:=(by simpa using h);omega);rw[Ak aj]at hni;rw[hni,aB ak]at hn;refine ZW ?_;refine ZG ?_;refine⟨k+1,?_,?_,?_⟩;{exact⟨hkl,hn⟩}
  ·refine Zv ?_ ?_
   ·repeat' first|exact Zq|apply aI
    all_goals (show _=_;congr 1 <;> omega)
   exact wk
  omega
 have hkl:m.pages.length+1<=k:=(by simp only[aC]at h;omega);rw[aX (by rw[Nw];omega)]at hn;simp only[wW]at hn;have g2:¬uT m≠0:=(by rw[hn];simp);have z2:=hn;clear h hn hk hkl;have hck:=JY m;rw[aB g1,aB g2]at hck;have hz:Ci m=0->rG m=0/\yI m (Bo m) []=0:=(by intro h;refine⟨a4j z1,?_⟩;unfold Ci at h;split at h;{rename_i h1;exact absurd h h1};rename_i h1;simpa using h1);generalize Ci m=e1 at *;generalize vO m=e2 at *;generalize uX m=e3 at *;refine ZW ?_;refine ZR ?_;refine .zW ci ?_;refine .zW cg ?_;refine .zW cp ?_;refine qW.step 4 ?_;refine ZW ?_;refine aQ (λ_=>?_) (λh=>absurd ak h);refine ZW ?_;refine Ce.mk ⟨_,⟨au,rfl⟩,?_⟩;refine ZS ?_ ?_<;>intro g;{obtain rfl:R=.int .i64 e1:=(by rw[hR];rw[hck,aG g]);exact ZJ};rw[aB g]at hck;have z5:e1=0:=(by simpa using g);clear g;refine ZW ?_;refine ZG ?_;refine ZW ?_;refine aQ (λ_=>?_) (λh=>absurd ak h);refine ZW ?_;refine Ce.mk ⟨_,⟨au,rfl⟩,?_⟩;refine ZS ?_ ?_<;>intro g;{obtain rfl:R=.int .i64 e2:=(by rw[hR];rw[hck,aG g]);exact ZJ};rw[aB g]at hck;clear g;refine ZW ?_;refine ZG ?_;refine ZW ?_;refine aQ (λ_=>?_) (λh=>absurd ak h);refine ZW ?_;refine Ce.mk ⟨_,⟨au,rfl⟩,?_⟩;refine ZS ?_ ?_<;>intro g;{obtain rfl:R=.int .i64 e3:=(by rw[hR];rw[hck,aG g]);exact ZJ};rw[aB g]at hck;clear g;refine ZW ?_;refine ZG ?_;refine aQ (λh=>absurd h ak) (λ_=>?_);obtain⟨zE,zI⟩:=hz z5;have hnA:=a2g zE z2 zI;have cc:=b3y m hB hnA (Vu hB);rw[b5l (Sv zE z2 zI)]at cc;generalize QC m=cy at *;refine ZW ?_;refine .zW cc ?_;constructor<;>intro g;{obtain rfl:R=.int .i64 14:=(by rw[hR,hck,aG g]);exact ZJ};obtain rfl:R=.int .i64 0:=(by rw[hR,hck,aB (by simpa using g)]);exact ZJ
theorem UK{α:Type}{f:α->AV}:∀{l:List AV},(∀x∈l,∃y,x=f y)->∃m:List α,l=m.map f
 | [],_=>⟨[],rfl⟩
 |x::l,h=>by obtain⟨y,rfl⟩:=h x ak;obtain⟨m,rfl⟩:=UK (l:=l) λz hz=>h z (by simp[hz]);exact⟨y::m,rfl⟩
theorem a6i{sz:Nat}{k:IntKind}{A:AV}(h:(Sh.sl sz (.int k)).In A):∃l:List Int,A=.sl sz (l.map (.int k)) .no:=by simp only[Sh.In]at h;obtain⟨l,rfl,hl⟩:=h;obtain⟨m,rfl⟩:=UK hl;exact⟨m,rfl⟩
abbrev Tt:Sh:=.st [.bool,.sl 1 (.int .u32),.sl 1 (.int .u32)]
theorem Rat.of{A:AV}(h:Tt.In A):∃r:Rat,A=r.av:=by simp only[Sh.In,InL]at h;obtain⟨_,rfl,_,_,rfl,⟨b,rfl⟩,_,_,rfl,h1,_,_,rfl,h2,rfl⟩:=h;obtain⟨n,rfl⟩:=a6i (sz:=1) (k:=.u32) (by simp only[Sh.In];exact h1);obtain⟨d,rfl⟩:=a6i (sz:=1) (k:=.u32) (by simp only[Sh.In];exact h2);exact⟨⟨b,n,d⟩,rfl⟩
theorem b1W{A:AV}(h:(Sh.sl 3 Tt).In A):∃l:List Rat,A=.sl 3 (l.map Rat.av) .no:=by unfold Sh.In at h;obtain⟨l,rfl,hl⟩:=h;obtain⟨m,rfl⟩:=UK λx hx=>Rat.of (hl x hx);exact⟨m,rfl⟩
theorem WY{k:IntKind}{A:AV}(h:(Sh.int k).In A):∃n:Int,A=.int k n:=by simpa only[Sh.In]using h
theorem Ed{A:AV}(h:Sh.str.In A):∃s:List UInt8,A=.str s:=by simpa only[Sh.In]using h
theorem PK{α:Type}{f:α->AV}{sh:Sh}{sz:Nat}{A:AV}(hf:∀x,sh.In x->∃y,x=f y)(h:(Sh.sl sz sh).In A):∃l:List α,A=.sl sz (l.map f) .no:=by unfold Sh.In at h;obtain⟨l,rfl,hl⟩:=h;obtain⟨m,rfl⟩:=UK λx hx=>hf x (hl x hx);exact⟨m,rfl⟩
abbrev b7s:Sh:=.st [.str,Tt,Tt,Tt,.int .i64]
abbrev b7q:Sh:=.st [.str,.bool]
abbrev b6p:Sh:=.st [.str,.int .i64,.int .i64,.sl 1 .str,Tt]
abbrev b7o:Sh:=.st [.str,.str,.sl 7 b6p]
abbrev b7r:Sh:=.st [.str,.int .i64,.sl 1 .str,.sl 3 Tt]
abbrev b7m:Sh:=.st [.str,Tt]
abbrev b7n:Sh:=.st [.str,.str,.sl 4 b7m]
abbrev b7p:Sh:=.st [.str,.str,.sl 11 b7s,.sl 2 b7q,.sl 7 b6p,.sl 3 b7o,.sl 4 b7r,.sl 3 b7n]
theorem a5i{A:AV}(h:(Sh.sl 1 .str).In A):∃l:List Str,A=sL l:=PK (f:=AV.str) (λ_ hx=>Ed hx) h
theorem Ev.of{A:AV}(h:b7s.In A):∃x:Ev,A=x.av:=by unfold Sh.In at h;simp only[InL]at h;obtain⟨_,rfl,_,_,rfl,h0,_,_,rfl,h1,_,_,rfl,h2,_,_,rfl,h3,_,_,rfl,h4,rfl⟩:=h;obtain⟨a,rfl⟩:=Ed h0;obtain⟨b,rfl⟩:=Rat.of h1;obtain⟨c,rfl⟩:=Rat.of h2;obtain⟨d,rfl⟩:=Rat.of h3;obtain⟨e,rfl⟩:=WY h4;exact⟨⟨a,b,c,d,e⟩,rfl⟩
theorem Hs.of{A:AV}(h:b7q.In A):∃x:Hs,A=x.av:=by unfold Sh.In at h;simp only[InL]at h;obtain⟨_,rfl,_,_,rfl,h0,_,_,rfl,h1,rfl⟩:=h;obtain⟨a,rfl⟩:=Ed h0;simp only[Sh.In]at h1;obtain⟨b,rfl⟩:=h1;exact⟨⟨a,b⟩,rfl⟩
theorem Mg.of{A:AV}(h:b6p.In A):∃x:Mg,A=x.av:=by unfold Sh.In at h;simp only[InL]at h;obtain⟨_,rfl,_,_,rfl,h0,_,_,rfl,h1,_,_,rfl,h2,_,_,rfl,h3,_,_,rfl,h4,rfl⟩:=h;obtain⟨a,rfl⟩:=Ed h0;obtain⟨b,rfl⟩:=WY h1;obtain⟨c,rfl⟩:=WY h2;obtain⟨d,rfl⟩:=a5i h3;obtain⟨e,rfl⟩:=Rat.of h4;exact⟨⟨a,b,c,d,e⟩,rfl⟩
theorem Pg.of{A:AV}(h:b7o.In A):∃x:Pg,A=x.av:=by unfold Sh.In at h;simp only[InL]at h;obtain⟨_,rfl,_,_,rfl,h0,_,_,rfl,h1,_,_,rfl,h2,rfl⟩:=h;obtain⟨a,rfl⟩:=Ed h0;obtain⟨b,rfl⟩:=Ed h1;obtain⟨c,rfl⟩:=PK (f:=Mg.av) (λ_ hx=>Mg.of hx) h2;exact⟨⟨a,b,c⟩,rfl⟩
theorem Gr.of{A:AV}(h:b7r.In A):∃x:Gr,A=x.av:=by unfold Sh.In at h;simp only[InL]at h;obtain⟨_,rfl,_,_,rfl,h0,_,_,rfl,h1,_,_,rfl,h2,_,_,rfl,h3,rfl⟩:=h;obtain⟨a,rfl⟩:=Ed h0;obtain⟨b,rfl⟩:=WY h1;obtain⟨c,rfl⟩:=a5i h2;obtain⟨d,rfl⟩:=b1W h3;exact⟨⟨a,b,c,d⟩,rfl⟩
theorem Pv.of{A:AV}(h:b7m.In A):∃x:Pv,A=x.av:=by unfold Sh.In at h;simp only[InL]at h;obtain⟨_,rfl,_,_,rfl,h0,_,_,rfl,h1,rfl⟩:=h;obtain⟨a,rfl⟩:=Ed h0;obtain⟨b,rfl⟩:=Rat.of h1;exact⟨⟨a,b⟩,rfl⟩
theorem Ph.of{A:AV}(h:b7n.In A):∃x:Ph,A=x.av:=by unfold Sh.In at h;simp only[InL]at h;obtain⟨_,rfl,_,_,rfl,h0,_,_,rfl,h1,_,_,rfl,h2,rfl⟩:=h;obtain⟨a,rfl⟩:=Ed h0;obtain⟨b,rfl⟩:=Ed h1;obtain⟨c,rfl⟩:=PK (f:=Pv.av) (λ_ hx=>Pv.of hx) h2;exact⟨⟨a,b,c⟩,rfl⟩
theorem Md.of{A:AV}(h:b7p.In A):∃x:Md,A=x.av:=by unfold Sh.In at h;simp only[InL]at h;obtain⟨_,rfl,_,_,rfl,h0,_,_,rfl,h1,_,_,rfl,h2,_,_,rfl,h3,_,_,rfl,h4,_,_,rfl,h5,_,_,rfl,h6,_,_,rfl,h7,rfl⟩:=h;obtain⟨a,rfl⟩:=Ed h0;obtain⟨b,rfl⟩:=Ed h1;obtain⟨c,rfl⟩:=PK (f:=Ev.av) (λ_ hx=>Ev.of hx) h2;obtain⟨d,rfl⟩:=PK (f:=Hs.av) (λ_ hx=>Hs.of hx) h3;obtain⟨e,rfl⟩:=PK (f:=Mg.av) (λ_ hx=>Mg.of hx) h4;obtain⟨f,rfl⟩:=PK (f:=Pg.av) (λ_ hx=>Pg.of hx) h5;obtain⟨g,rfl⟩:=PK (f:=Gr.av) (λ_ hx=>Gr.of hx) h6;obtain⟨i,rfl⟩:=PK (f:=Ph.av) (λ_ hx=>Ph.of hx) h7;exact⟨⟨a,b,c,d,e,f,g,i⟩,rfl⟩
theorem J9.b58{m:Md}(h:J9 m):∀p:Int,0<=p->p<(m.pages.length:Int)->EH (sG m p)=false:=a2g h.evs h.gates h.ins
theorem a4a{m:Md}{x:Node}(h:RF m x):0<=x.1:=by rcases h with h|h|h;{omega};{omega};have:=(uN.1 h).1;omega
theorem Qq{m:Md}(hM:J9 m){a:Int}(ha:a = -1\/(0<=a/\a<(m.pages.length:Int))){s:Str}(hs:uZ m a s=true):uV m a s=yH m a s/\0<=(uV m a s).1:=by have hi:=hM.RU ha hs;have e:=a2R hi.ok hi.pg;rw[e];exact⟨rfl,a4a hi.ok⟩
theorem a6s{m:Md}{a:Int}{s:Str}(hs:uZ m a s=false):(uV m a s).1<0:=by cases e:EH s;{rw[a1t e]at hs;have:=jK hs;omega};have h:uZ m a s=decide (0<=tq m.pages (s.drop 1)):=aG e;rw[h]at hs;have:=jK hs;unfold uV;rw[aG e,aG aj];decide
def EP(d:List Bool)(i:Nat)(k:Int):List Bool:=d.set k.toNat (d.getD k.toNat false||d.getD i false)
def CP(i:Nat):List Int->List Bool->List Bool
 | [],d=>d
 |k::l,d=>CP i l (EP d i k)
def GN:Nat->List (List Int)->List Bool->List Bool
 |_,[],d=>d
 |i,l::us,d=>GN (i+1) us (CP i l d)
def zM(us:List (List Int)):Nat->List Bool->List Bool
 | 0,d=>d
 |r+1,d=>zM us r (GN 0 us d)
def IU(us:List (List Int))(f:Nat):List Bool:=zM us us.length ((List.replicate us.length false).set f true)
theorem MW{d:List Bool}{i:Nat}{k:Int}:(EP d i k).length=d.length:=by simp[EP]
theorem WT:∀(n i:Nat),tV ((List.replicate n AV.ff).set i .tt) (((List.replicate n false).set i true).map AV.bool)
 | 0,_=>trivial
 |n+1,0=>⟨rfl,OH n⟩
 |n+1,i+1=>⟨rfl,WT n i⟩
abbrev dL(d:List Bool):AV:=.sl 1 (d.map AV.bool) .no
theorem b3E(m:Md)(hB:KI m)(ht:∀p:Int,0<=p->p<(m.pages.length:Int)->EH (sG m p)=false)(hn:(xq m).length<=100000)(f:Nat)(hf:f<(xq m).length):ZQ 131 [m.av,.int .i64 f] [] (dL (IU (xq m) f)) []:=by
 have cu:=b08 m hB ht _ rfl;have hlt:=a02 (m:=m);refine ZN Tryz.func131 λhok=>?_;refine .zP cu λb6L=>?_;generalize xq m=us at *;refine ZW ?_;rw[show(((us.map zL).length:Nat):Int)=(us.length:Int) by simp];refine⟨⟨aj,aj,aA,aj⟩,.wr (ZW ?_)⟩;refine⟨aj,ZW ?_⟩;refine⟨aA,rfl,ZW ?_⟩;refine qW.of <| qN.inv (.refl _ _) (fun(q:Nat×List Bool)=>q.1<=us.length/\q.2.length=us.length/\zM us (us.length-q.1) q.2=IU us f)
  (λq=>[(21,.int .i64 q.1)]) (λq=>[(1,.arr 1 us.length (q.2.map .bool)),(0,.box m.av)]) (λq=>us.length-q.1) (0,(List.replicate us.length false).set f true) ?_ (λ_=>rfl) ?_ ?_
 ·exact⟨aP _,ak,rfl⟩
 ·refine Zv wk ?_;repeat' first|exact Zq|apply aI
  all_goals first|(simp;done)|(rw[bH];exact WT _ _)
 rintro⟨r,d⟩ ⟨hr,hd,hF⟩ _;dsimp only at hr hd hF;refine ZS ?_ ?_<;>intro h
 ·have hrl:r<us.length:=(by simpa using h);rw[show us.length-r=(us.length-(r+1))+1 by omega]at hF;simp only[zM]at hF;clear h;refine ZW ?_;refine qW.of <| qN.inv (.refl _ _) (fun(q:Nat×List Bool)=>q.1<=us.length/\q.2.length=us.length/\GN 0 us d=GN q.1 (us.drop q.1) q.2)
   (λq=>[(25,.int .i64 q.1)]) (λq=>[(1,.arr 1 us.length (q.2.map .bool)),(0,.box m.av)]) (λq=>us.length-q.1) (0,d) ?_ (λ_=>rfl) ?_ ?_
  ·exact⟨aP _,hd,rfl⟩
  ·exact Zv wk wk
  rintro⟨i,d1⟩ ⟨hi,hd1,hP⟩ _;dsimp only at hi hd1 hP;refine ZS ?_ ?_<;>intro h
  ·have hil:i<us.length:=(by simpa using h);have hul:=hlt _ (aN hil);have hll:(us[i]).length<=9223372036854775807:=(by have:=J8 b6L.2 _ (aN hil);simp only[Ok]at this;simpa[maxL]using this.1);rw[aZ hil]at hP;simp only[GN]at hP;refine ZW ?_;refine sH hil ?_;generalize us[i]=l at *;refine ZW ?_;refine qW.of <| qN.inv (.refl _ _) (fun(q:Nat×List Bool)=>q.1<=l.length/\q.2.length=us.length/\CP i l d1=CP i (l.drop q.1) q.2)
    (λq=>[(32,.int .i64 q.1)]) (λq=>[(1,.arr 1 us.length (q.2.map .bool)),(0,.box m.av)]) (λq=>l.length-q.1) (0,d1) ?_ (λ_=>rfl) ?_ ?_
   ·exact⟨aP _,hd1,rfl⟩
   ·exact Zv wk wk
   rintro⟨q,d2⟩ ⟨hq,hd2,hM⟩ _;dsimp only at hq hd2 hM;refine ZS ?_ ?_<;>intro hh
   ·have Du:q<l.length:=(by simpa using hh);have hk:=hul _ (aN Du);rw[aZ Du]at hM;simp only[CP]at hM;refine ZW ?_;refine sH Du ?_;generalize l[q]=k at *;refine ZW ?_;refine⟨aA,ZW ?_⟩;refine vH false (i:=k.toNat) ak aj ?_;refine⟨rfl,?_⟩;refine ZS ?_ ?_<;>intro hy
    ·refine ZW ?_;refine⟨aj,ZW ?_⟩;refine⟨aA,rfl,?_⟩;have hsd:EP d2 i k=d2.set k.toNat true:=(by unfold EP;rw[hy];rfl);refine ZW ?_;refine ZG ?_;refine⟨(q+1,EP d2 i k),?_,?_,?_⟩;{exact⟨Du,by show(EP d2 i k).length=_;rw[MW];exact hd2,hM⟩}
     ·rw[hsd];refine Zv wk ?_;repeat' first|exact Zq|apply aI
      all_goals first|(simp;done)|(rw[bH];exact Lc (A:=.tt) (b:=true) rfl d2 k.toNat)
     show l.length-(q+1)<l.length-q;omega
    refine ZW ?_;refine⟨aA,ZW ?_⟩;refine vH false (i:=i) ak aj ?_;refine⟨rfl,ZW ?_⟩;refine⟨aj,ZW ?_⟩;refine⟨aA,rfl,?_⟩;have hsd:EP d2 i k=d2.set k.toNat (d2.getD i false):=(by unfold EP;rw[hy,fD]);refine ZW ?_;refine ZG ?_;refine⟨(q+1,EP d2 i k),?_,?_,?_⟩;{exact⟨Du,by show(EP d2 i k).length=_;rw[MW];exact hd2,hM⟩}
    ·rw[hsd];refine Zv wk ?_;repeat' first|exact Zq|apply aI
     all_goals first|(simp;done)|(rw[bH];exact Lc (A:=.bool (d2.getD i false)) (b:=(d2.getD i false)) rfl d2 k.toNat)
    show l.length-(q+1)<l.length-q;omega
   have Du:q=l.length:=(by have:¬q<l.length:=(by simpa using hh);omega);rw[aX aj]at hM;simp only[CP]at hM;rw[hM]at hP;refine ZW ?_;refine ZG ?_;refine⟨(i+1,d2),?_,?_,?_⟩;{exact⟨hil,hd2,hP⟩};{exact Zv wk wk};show us.length-(i+1)<us.length-i;omega
  have hil:i=us.length:=(by have:¬i<us.length:=(by simpa using h);omega);rw[aX aj]at hP;simp only[GN]at hP;rw[hP]at hF;refine ZW ?_;refine ZG ?_;refine⟨(r+1,d1),?_,?_,?_⟩;{exact⟨hrl,hd1,hF⟩};{exact Zv wk wk};show us.length-(r+1)<us.length-r;omega
 have hrl:r=us.length:=(by have:¬r<us.length:=(by simpa using h);omega);rw[hrl,gJ]at hF;simp only[zM]at hF;rw[<- hF];clear h;refine ZW ?_;refine⟨⟨_,_,.freeze 4 1 0 us.length us.length us.length 1 _ rfl rfl aA (.refl _ _),?_⟩⟩;conv=>whnf
 refine⟨?_,rfl,by simp[nextId],.mk ?_ ?_⟩;{refine⟨rfl,?_⟩;refine qY ?_;simp;rw[bf aA]};{exact wk};trivial
theorem OG{i:Nat}:∀(l:List Int) (d:List Bool),(CP i l d).length=d.length
 | [],_=>rfl
 |k::l,d=>by simp only[CP];rw[OG l,MW]
theorem MP:∀(us:List (List Int)) (i:Nat) (d:List Bool),(GN i us d).length=d.length
 | [],_,_=>rfl
 |l::us,i,d=>by simp only[GN];rw[MP us,OG]
theorem TB{us:List (List Int)}:∀(r:Nat) (d:List Bool),(zM us r d).length=d.length
 | 0,_=>rfl
 |r+1,d=>by simp only[zM];rw[TB r,MP]
def Xj(m:Md)(a:Int):List Str->Nat->Nat
 | [],e=>e
 |s::l,e=>Xj m a l (if(uV m a s).1=0 then e|||2^(uV m a s).2.2.toNat else e)
def RZ(g:Mg):Bool:=decide (g.kind=6)||decide (g.kind=7)||decide (g.kind=8)
def Hz(m:Md)(F:List Bool)(p:Nat×Bool)(y:Node):Nat×Bool :=
 if F.getD (A8 m y).toNat false=true then(Xj m y.2.1 (rP m y).ins p.1,p.2||RZ (rP m y))else p
def OD(m:Md)(F:List Bool):Nat×Bool:=(rE m).foldl (Hz m F) (0,false)
def KZ(m:Md)(x:Node):Nat×Bool :=
 if x.1=0 then(2^x.2.2.toNat,false)else if x.1=1 then(0,false)else OD m (IU (xq m) (A8 m x).toNat)
theorem Lm{m:Md}{a:Int}{s:Str}(h:(uV m a s).1=0):0<=(uV m a s).2.2/\(uV m a s).2.2<(m.evs.length:Int):=by
 have key:∀b t,(zZ m b t).1=0->0<=(zZ m b t).2.2/\(zZ m b t).2.2<(m.evs.length:Int):=by intro b t h;unfold zZ at h ⊢;by_cases h1:0<=rM m.evs t;{rw[aG h1];exact⟨h1,EF _ _⟩};rw[aB h1]at h ⊢;by_cases h2:0<=tN m.hs t;{rw[aG h2]at h;cases h};rw[aB h2]at h ⊢;by_cases h3:0<=tX (qO m b) t;{rw[aG h3]at h;cases h};rw[aB h3]at h;cases h
 unfold uV at h ⊢;by_cases h1:EH s=true;{rw[aG h1]at h ⊢;by_cases h2:tq m.pages (s.drop 1)<0;{rw[aG h2]at h;cases h};rw[aB h2]at h ⊢;exact key _ _ h};rw[aB h1]at h ⊢;exact key _ _ h
theorem a1f{m:Md}{x:Node}(hx:x∈rE m):0<=A8 m x/\(A8 m x).toNat<(xq m).length:=by obtain⟨h1,h2⟩:=JK hx;exact⟨h1,by simpa[xq]using(aY.1 h2).1⟩
theorem b3C(m:Md)(hM:J9 m)(hB:KI m)(top:Str)(htop:uZ m (-1) top=true)(R:AV)(hR:R=.uy [.int .i64 (KZ m (uV m (-1) top)).1,.bool (KZ m (uV m (-1) top)).2]):ZQ 72 [m.av,.int .i64 (-1),.str top] [] R []:=by
 have hpl:=hB.pages;have hev:=hM.lens.1;have ht:=hM.b58;have cT:=XW m (-1) top (.inl rfl) ht;obtain⟨he,hn0⟩:=Qq hM (.inl rfl) htop;have hok:=(hM.RU (.inl rfl) htop).ok;rw[<- he]at hok;have hxe:=Lm (m:=m) (a:=-1) (s:=top);have hxg:=OV (m:=m) (a:=-1) (s:=top) (.inl rfl);clear he;generalize uV m (-1) top=x at *;have b6C:x.1≠0->x.1≠1->x.1=2:=(by intro h0 h1;rcases hok with h|h|h;{omega};{omega};exact(uN.1 h).1);clear hok;obtain⟨x1,x2,x3⟩:=x;dsimp only at hxe hn0 b6C;refine ZN Tryz.func72 λhok=>?_;refine .zW cT ?_;constructor<;>intro k0;{obtain⟨f1,f2⟩:=hxe k0;rw[show KZ m (x1,x2,x3)=(2^x3.toNat,false)from aG k0]at hR;subst hR;obtain⟨z,rfl⟩:∃z:Nat,x3=z:=⟨x3.toNat,aj⟩;rw[aO];refine ZW ?_;refine⟨aj,?_⟩;rw[JF aj];exact ZJ};refine ZS ?_ ?_<;>intro k1;{rw[show KZ m (x1,x2,x3)=(0,false)from(aB k0).trans (aG k1)]at hR;subst hR;exact ZJ};have k2:=b6C k0 k1;have hxm:=hxg k2;rw[show KZ m (x1,x2,x3)=OD m (IU (xq m) (A8 m (x1,x2,x3)).toNat)from(aB k0).trans (aB k1)]at hR;obtain⟨_,hy2,hy3,hy4⟩:=uN.1 hxm;have hb4:=(hB.qO hy2).1;have cN:=XM m hB (x1,x2,x3) hy2 ⟨hy3,by show x3<1000000;have:x3<((qO m x2).length:Int):=hy4;have:(qO m x2).length<=100:=hb4;omega⟩;obtain⟨n1,n2⟩:=a1f hxm;obtain⟨f,hf⟩:∃f:Nat,A8 m (x1,x2,x3)=f:=⟨(A8 m (x1,x2,x3)).toNat,aj⟩;rw[hf]at cN n2 hR;rw[aO]at n2 hR;have cb:=b3E m hB ht (Vu hB) f n2;have hFl:(IU (xq m) f).length=(rE m).length:=(by unfold IU;rw[TB];simp[xq]);clear hxg hxe b6C hxm;generalize IU (xq m) f=F at *;refine ZW ?_;refine ZR ?_;refine .zW cN ?_;refine .zW cb ?_;refine qW.of <| qN.inv (.refl _ _) (fun(q:Nat×Nat×Bool)=>q.1<=m.pages.length+1/\(wQ m q.1).foldl (Hz m F) q.2=OD m F/\q.2.1<2^24)
  (λq=>[(12,.int .i64 ((q.1:Int)-1)),(6,.int .i64 q.2.1),(7,.bool q.2.2)]) (λ_=>[(0,.box m.av)]) (λq=>m.pages.length+1-q.1) (0,0,false) ?_ (λ_=>rfl) ?_ ?_
 ·exact⟨aP _,rfl,au⟩
 ·exact Zv wk wk
 rintro⟨k,p1,p2⟩ ⟨hk,hn,hp⟩ _;dsimp only at hk hn hp;refine ZS ?_ ?_<;>intro h
 ·have hkl:k<m.pages.length+1:=(by simp only[aC]at h;omega);have ha:(k:Int)-1 = -1\/(0<=(k:Int)-1/\(k:Int)-1<(m.pages.length:Int)):=aj;have hBa:=hB.qO ha;have cG:=DU m _ ha;have cF:=λs=>XW m _ s ha ht;have hNl:=λi (h:i<(qO m ((k:Int)-1)).length)=>yu? (H9 (m:=m) (a:=(k:Int)-1) h);have hga:∀(i:Nat) (h:i<(qO m ((k:Int)-1)).length),rP m (2,(k:Int)-1,(i:Int))=(qO m ((k:Int)-1))[i]:=(by intro i h;unfold rP;dsimp only;rw[aO,aF,aH h];rfl);have hmem:∀(i:Nat) (h:i<(qO m ((k:Int)-1)).length),(2,(k:Int)-1,(i:Int))∈rE m:=λi h=>uN.2 ⟨rfl,ha,by show(0:Int)<=i;omega,by show(i:Int)<((qO m ((k:Int)-1)).length:Int);omega⟩;have cN:=fun(i:Nat) (h:i<1000000)=>XM m hB (2,(k:Int)-1,(i:Int)) ha ⟨by show(0:Int)<=i;omega,by show(i:Int)<1000000;omega⟩;rw[Ba hkl,gK]at hn;have hrest:∀p,(wQ m (k+1)).foldl (Hz m F) p=OD m F->(wQ m (k+1)).foldl (Hz m F) p=OD m F:=λ_ h=>h;clear h;generalize hrs:wQ m (k+1)=rest at *;have hle:=EN m ((k:Int)-1);generalize b6U:(k:Int)-1=a at *;generalize b8f:yR m a=nod at *;generalize hgs:qO m a=gs at *;refine ZW ?_;refine .zP cG λb2D=>?_;refine ZW ?_;refine qW.of <| qN.inv (.refl _ _) (fun(q:Nat×Nat×Bool)=>q.1<=gs.length/\rest.foldl (Hz m F) ((nod.drop q.1).foldl (Hz m F) q.2)=OD m F/\q.2.1<2^24)
   (λq=>[(51,.int .i64 q.1),(6,.int .i64 q.2.1),(7,.bool q.2.2)]) (λ_=>[(0,.box m.av)]) (λq=>gs.length-q.1) (0,p1,p2) ?_ (λ_=>rfl) ?_ ?_
  ·exact⟨aP _,hn,hp⟩
  ·exact Zv wk wk
  rintro⟨i,p1,p2⟩ ⟨hi,hni,hp⟩ _;dsimp only at hi hni hp;refine ZS ?_ ?_<;>intro h
  ·have hlt:i<gs.length:=(by simpa using h);have hxi:=hBa.2 _ (aN hlt);rw[hNl i hlt,fA]at hni;have hgi:=hga i hlt;have cN:=cN i (by have:=hBa.1;omega);obtain⟨n1,n2⟩:=a1f (hmem i hlt);have n3:(A8 m (2,a,(i:Int))).toNat<F.length:=(by rw[hFl];simpa[xq]using n2);have hst:Hz m F (p1,p2) (2,a,(i:Int))=if F.getD (A8 m (2,a,(i:Int))).toNat false=true then(Xj m a gs[i].ins p1,p2||RZ gs[i])else(p1,p2):=(by unfold Hz;dsimp only;rw[hgi]);rw[hst]at hni;clear hst;generalize A8 m (2,a,(i:Int))=w at *;refine ZW ?_;refine sH hlt ?_;generalize gs[i]=g at *;refine ZW ?_;refine .zW cN ?_;refine ug false ⟨n1,aj⟩ ?_;refine ZS ?_ ?_<;>intro hF;{have hF:F.getD w.toNat false=false:=(by simpa using hF);rw[hF,aB ak]at hni;refine ZW ?_;refine ZG ?_;refine⟨(i+1,p1,p2),?_,?_,?_⟩;{exact⟨hlt,hni,hp⟩};{exact Zv wk wk};show gs.length-(i+1)<gs.length-i;omega};have hF:F.getD w.toNat false=true:=(by simpa using hF);rw[aG hF]at hni;refine ZS ?_ ?_<;>intro hd
   ·refine ZW ?_;refine qW.of <| qN.inv (.refl _ _) (fun(q:Nat×Nat)=>q.1<=g.ins.length/\Xj m a g.ins p1=Xj m a (g.ins.drop q.1) q.2/\q.2<2^24)
     (λq=>[(83,.int .i64 q.1),(6,.int .i64 q.2)]) (λ_=>[(1,.box g.av),(0,.box m.av)]) (λq=>g.ins.length-q.1) (0,p1) ?_ (λ_=>rfl) ?_ ?_
    ·exact⟨aP _,rfl,hp⟩
    ·exact Zv wk wk
    rintro⟨j,e⟩ ⟨hj,tC,he⟩ _;dsimp only at hj tC he;refine ZS ?_ ?_<;>intro hh
    ·have hjl:j<g.ins.length:=(by simpa using hh);rw[aZ hjl]at tC;simp only[Xj]at tC;refine ZW ?_;refine sH hjl ?_;generalize g.ins[j]=s at *;have cF:=cF s;have hfe:=Lm (m:=m) (a:=a) (s:=s);generalize uV m a s=y at *;obtain⟨y1,y2,y3⟩:=y;dsimp only at hfe tC;refine ZW ?_;refine .zW cF ?_;constructor<;>intro g1
     ·obtain⟨f1,f2⟩:=hfe g1;rw[aG g1]at tC;obtain⟨z,rfl⟩:∃z:Nat,y3=z:=⟨y3.toNat,aj⟩;have hz:z<24:=aj;have hpz:2^z<2^24:=jF aj hz;rw[aO]at tC;have hor:=jd he hpz;refine ZW ?_;refine⟨aj,?_⟩;rw[JF aj];conv=>whnf
      rw[Wh aj aj];refine ZW ?_;refine ZG ?_;refine⟨(j+1,e|||2^z),?_,?_,?_⟩;{exact⟨hjl,tC,hor⟩};{exact Zv wk wk};show g.ins.length-(j+1)<g.ins.length-j;omega
     rw[aB g1]at tC;refine ZW ?_;refine ZG ?_;refine⟨(j+1,e),?_,?_,?_⟩;{exact⟨hjl,tC,he⟩};{exact Zv wk wk};show g.ins.length-(j+1)<g.ins.length-j;omega
    have hjl:j=g.ins.length:=(by have:¬j<g.ins.length:=(by simpa using hh);omega);rw[aX aj]at tC;simp only[Xj]at tC;rw[tC,hd,nV]at hni;refine ZW ?_;refine ZG ?_;refine⟨(i+1,e,true),?_,?_,?_⟩;{exact⟨hlt,hni,he⟩}
    ·refine Zv ?_ ?_
     ·repeat' first|exact Zq|apply aI
      all_goals first|(show(_:Bool)=_;rfl)|(show _↔_;simp)|rfl
     exact wk
    show gs.length-(i+1)<gs.length-i;omega
   rw[hd,fD]at hni;refine ZS ?_ ?_<;>intro k6
   ·refine ZW ?_;refine qW.of <| qN.inv (.refl _ _) (fun(q:Nat×Nat)=>q.1<=g.ins.length/\Xj m a g.ins p1=Xj m a (g.ins.drop q.1) q.2/\q.2<2^24)
     (λq=>[(83,.int .i64 q.1),(6,.int .i64 q.2)]) (λ_=>[(1,.box g.av),(0,.box m.av)]) (λq=>g.ins.length-q.1) (0,p1) ?_ (λ_=>rfl) ?_ ?_
    ·exact⟨aP _,rfl,hp⟩
    ·exact Zv wk wk
    rintro⟨j,e⟩ ⟨hj,tC,he⟩ _;dsimp only at hj tC he;refine ZS ?_ ?_<;>intro hh
    ·have hjl:j<g.ins.length:=(by simpa using hh);rw[aZ hjl]at tC;simp only[Xj]at tC;refine ZW ?_;refine sH hjl ?_;generalize g.ins[j]=s at *;have cF:=cF s;have hfe:=Lm (m:=m) (a:=a) (s:=s);generalize uV m a s=y at *;obtain⟨y1,y2,y3⟩:=y;dsimp only at hfe tC;refine ZW ?_;refine .zW cF ?_;constructor<;>intro g1
     ·obtain⟨f1,f2⟩:=hfe g1;rw[aG g1]at tC;obtain⟨z,rfl⟩:∃z:Nat,y3=z:=⟨y3.toNat,aj⟩;have hz:z<24:=aj;have hpz:2^z<2^24:=jF aj hz;rw[aO]at tC;have hor:=jd he hpz;refine ZW ?_;refine⟨aj,?_⟩;rw[JF aj];conv=>whnf
      rw[Wh aj aj];refine ZW ?_;refine ZG ?_;refine⟨(j+1,e|||2^z),?_,?_,?_⟩;{exact⟨hjl,tC,hor⟩};{exact Zv wk wk};show g.ins.length-(j+1)<g.ins.length-j;omega
     rw[aB g1]at tC;refine ZW ?_;refine ZG ?_;refine⟨(j+1,e),?_,?_,?_⟩;{exact⟨hjl,tC,he⟩};{exact Zv wk wk};show g.ins.length-(j+1)<g.ins.length-j;omega
    have hjl:j=g.ins.length:=(by have:¬j<g.ins.length:=(by simpa using hh);omega);rw[aX aj]at tC;simp only[Xj]at tC;rw[tC,show RZ g=true from by unfold RZ;rw[fC k6];rfl]at hni;refine ZW ?_;refine ZG ?_;refine⟨(i+1,e,true),?_,?_,?_⟩;{exact⟨hlt,hni,he⟩}
    ·refine Zv ?_ ?_
     ·repeat' first|exact Zq|apply aI
      all_goals first|(show(_:Bool)=_;rfl)|(show _↔_;simp)|rfl
     exact wk
    show gs.length-(i+1)<gs.length-i;omega
   refine ZS ?_ ?_<;>intro k7
   ·refine ZW ?_;refine qW.of <| qN.inv (.refl _ _) (fun(q:Nat×Nat)=>q.1<=g.ins.length/\Xj m a g.ins p1=Xj m a (g.ins.drop q.1) q.2/\q.2<2^24)
     (λq=>[(83,.int .i64 q.1),(6,.int .i64 q.2)]) (λ_=>[(1,.box g.av),(0,.box m.av)]) (λq=>g.ins.length-q.1) (0,p1) ?_ (λ_=>rfl) ?_ ?_
    ·exact⟨aP _,rfl,hp⟩
    ·exact Zv wk wk
    rintro⟨j,e⟩ ⟨hj,tC,he⟩ _;dsimp only at hj tC he;refine ZS ?_ ?_<;>intro hh
    ·have hjl:j<g.ins.length:=(by simpa using hh);rw[aZ hjl]at tC;simp only[Xj]at tC;refine ZW ?_;refine sH hjl ?_;generalize g.ins[j]=s at *;have cF:=cF s;have hfe:=Lm (m:=m) (a:=a) (s:=s);generalize uV m a s=y at *;obtain⟨y1,y2,y3⟩:=y;dsimp only at hfe tC;refine ZW ?_;refine .zW cF ?_;constructor<;>intro g1
     ·obtain⟨f1,f2⟩:=hfe g1;rw[aG g1]at tC;obtain⟨z,rfl⟩:∃z:Nat,y3=z:=⟨y3.toNat,aj⟩;have hz:z<24:=aj;have hpz:2^z<2^24:=jF aj hz;rw[aO]at tC;have hor:=jd he hpz;refine ZW ?_;refine⟨aj,?_⟩;rw[JF aj];conv=>whnf
      rw[Wh aj aj];refine ZW ?_;refine ZG ?_;refine⟨(j+1,e|||2^z),?_,?_,?_⟩;{exact⟨hjl,tC,hor⟩};{exact Zv wk wk};show g.ins.length-(j+1)<g.ins.length-j;omega
     rw[aB g1]at tC;refine ZW ?_;refine ZG ?_;refine⟨(j+1,e),?_,?_,?_⟩;{exact⟨hjl,tC,he⟩};{exact Zv wk wk};show g.ins.length-(j+1)<g.ins.length-j;omega
    have hjl:j=g.ins.length:=(by have:¬j<g.ins.length:=(by simpa using hh);omega);rw[aX aj]at tC;simp only[Xj]at tC;rw[tC,show RZ g=true from by unfold RZ;rw[fC k7];simp]at hni;refine ZW ?_;refine ZG ?_;refine⟨(i+1,e,true),?_,?_,?_⟩;{exact⟨hlt,hni,he⟩}
    ·refine Zv ?_ ?_
     ·repeat' first|exact Zq|apply aI
      all_goals first|(show(_:Bool)=_;rfl)|(show _↔_;simp)|rfl
     exact wk
    show gs.length-(i+1)<gs.length-i;omega
   have hdg:RZ g=decide (g.kind=8):=(by unfold RZ;rw[bM k6,bM k7];rfl);refine ZW ?_;refine qW.of <| qN.inv (.refl _ _) (fun(q:Nat×Nat)=>q.1<=g.ins.length/\Xj m a g.ins p1=Xj m a (g.ins.drop q.1) q.2/\q.2<2^24)
    (λq=>[(83,.int .i64 q.1),(6,.int .i64 q.2)]) (λ_=>[(1,.box g.av),(0,.box m.av)]) (λq=>g.ins.length-q.1) (0,p1) ?_ (λ_=>rfl) ?_ ?_
   ·exact⟨aP _,rfl,hp⟩
   ·exact Zv wk wk
   rintro⟨j,e⟩ ⟨hj,tC,he⟩ _;dsimp only at hj tC he;refine ZS ?_ ?_<;>intro hh
   ·have hjl:j<g.ins.length:=(by simpa using hh);rw[aZ hjl]at tC;simp only[Xj]at tC;refine ZW ?_;refine sH hjl ?_;generalize g.ins[j]=s at *;have cF:=cF s;have hfe:=Lm (m:=m) (a:=a) (s:=s);generalize uV m a s=y at *;obtain⟨y1,y2,y3⟩:=y;dsimp only at hfe tC;refine ZW ?_;refine .zW cF ?_;constructor<;>intro g1
    ·obtain⟨f1,f2⟩:=hfe g1;rw[aG g1]at tC;obtain⟨z,rfl⟩:∃z:Nat,y3=z:=⟨y3.toNat,aj⟩;have hz:z<24:=aj;have hpz:2^z<2^24:=jF aj hz;rw[aO]at tC;have hor:=jd he hpz;refine ZW ?_;refine⟨aj,?_⟩;rw[JF aj];conv=>whnf
     rw[Wh aj aj];refine ZW ?_;refine ZG ?_;refine⟨(j+1,e|||2^z),?_,?_,?_⟩;{exact⟨hjl,tC,hor⟩};{exact Zv wk wk};show g.ins.length-(j+1)<g.ins.length-j;omega
    rw[aB g1]at tC;refine ZW ?_;refine ZG ?_;refine⟨(j+1,e),?_,?_,?_⟩;{exact⟨hjl,tC,he⟩};{exact Zv wk wk};show g.ins.length-(j+1)<g.ins.length-j;omega
   have hjl:j=g.ins.length:=(by have:¬j<g.ins.length:=(by simpa using hh);omega);rw[aX aj]at tC;simp only[Xj]at tC;rw[tC,hdg]at hni;refine ZW ?_;refine ZG ?_;refine⟨(i+1,e,decide (g.kind=8)),?_,?_,?_⟩;{exact⟨hlt,hni,he⟩}
   ·refine Zv ?_ ?_
    ·repeat' first|exact Zq|apply aI
     all_goals first|(show(_:Bool)=_;rfl)|(show _↔_;simp)|rfl
    exact wk
   show gs.length-(i+1)<gs.length-i;omega
  have hil:i=gs.length:=(by have:¬i<gs.length:=(by simpa using h);omega);rw[aX aj]at hni;simp only[List.foldl_nil]at hni;refine ZW ?_;refine ZG ?_;refine⟨(k+1,p1,p2),?_,?_,?_⟩;{exact⟨hkl,by show(wQ m (k+1)).foldl (Hz m F) (p1,p2)=_;rw[hrs];exact hni,hp⟩}
  ·refine Zv ?_ ?_
   ·repeat' first|exact Zq|apply aI
    all_goals (show _=_;congr 1 <;> omega)
   exact wk
  show m.pages.length+1-(k+1)<m.pages.length+1-k;omega
 have hkl:m.pages.length+1<=k:=(by simp only[aC]at h;omega);rw[EC hkl]at hn;simp only[List.foldl_nil]at hn;rw[<- hn]at hR;subst hR;exact ZJ
inductive Reach(m:Md)(r:Node):Node->Prop
 |root:Reach m r r
 |step {x y:Node} (h:Reach m r x) (h2:x.1=2) (hy:y∈sZ m x):Reach m r y
theorem Reach.leaf{m:Md}{r x:Node}(h:Reach m r x)(hr:r.1≠2):x=r:=by
 induction h with
 |root=>rfl
 |step h h2 hy ih=>rw[ih]at h2;exact absurd h2 hr
theorem Reach.ok{m:Md}{r x:Node}(hc:AQ m)(hr:RF m r)(h:Reach m r x):RF m x:=by
 induction h with
 |root=>exact hr
 |step h h2 hy ih=>exact(yL hc ih h2).2 _ hy
inductive RI(us:List (List Int))(f:Nat):Nat->Prop
 |root:RI us f f
 |step {i:Nat} {k:Int} (h:RI us f i) (hk:k∈us.getD i []):RI us f k.toNat
theorem a2z{d:List Bool}{i:Nat}{k:Int}:LeD d (EP d i k):=by intro j h;unfold EP;rw[DN];split;{rename_i e;rw[e.1,h,nV]};exact h
theorem MV{i:Nat}:∀(l:List Int) (d:List Bool),LeD d (CP i l d)
 | [],d=>.refl d
 |_::l,_=>a2z.trans (MV l _)
theorem P6:∀(us:List (List Int)) (i:Nat) (d:List Bool),LeD d (GN i us d)
 | [],_,d=>.refl d
 |l::us,i,d=>(MV l d).trans (P6 us (i+1) _)
theorem a2x{i:Nat}:∀(l:List Int) (d:List Bool) (k:Int),k∈l->d.getD i false=true->k.toNat<d.length->(CP i l d).getD k.toNat false=true
 | [],_,_,h,_,_=>by simp at h
 |x::l,d,k,h,hd,hl=>by simp only[CP];rcases aU.1 h with rfl|h;{refine MV l _ _ ?_;unfold EP;rw[DN,aG ⟨rfl,hl⟩,hd,Bool.or_true]};exact a2x l _ k h (a2z _ hd) (by rw[MW];exact hl)
theorem Zu:∀(us:List (List Int)) (j:Nat) (d:List Bool) (i:Nat) (k:Int),k∈us.getD i []->d.getD (j+i) false=true->k.toNat<d.length->(GN j us d).getD k.toNat false=true
 | [],_,_,_,_,h,_,_=>by simp at h
 |l::us,j,d,0,k,h,hd,hl=>P6 us (j+1) _ _ (a2x l d k (by simpa using h) hd hl)
 |l::us,j,d,i+1,k,h,hd,hl=>Zu us (j+1) _ i k (by simpa using h) (MV l d _ (by rw[show j+1+i=j+(i+1) by omega];exact hd)) (by rw[OG];exact hl)
def Vj(us:List (List Int))(d:List Bool):Prop:=∀i:Nat,d.getD i false=true->∀k∈us.getD i [],d.getD k.toNat false=true
theorem KO{d:List Bool}{k:Nat}:d.set k (d.getD k false)=d:=by by_cases h:k<d.length;{rw[vg h];exact List.set_getElem_self h};exact List.set_eq_of_length_le aj
theorem WB{i:Nat}:∀(l:List Int) (d:List Bool),(d.getD i false=true->∀k∈l,d.getD k.toNat false=true)->CP i l d=d
 | [],_,_=>rfl
 | k::l,d,h=>by
   have e:EP d i k=d:=by unfold EP;cases hi:d.getD i false;{rw[Bool.or_false];exact KO};have:=h hi k ak;rw[Bool.or_true];rw[<- this];exact KO
   simp only[CP];rw[e];exact WB l d λhi k hk=>h hi k (by simp[hk])
theorem Zt:∀(us:List (List Int)) (j:Nat) (d:List Bool),(∀i:Nat,d.getD (j+i) false=true->∀k∈us.getD i [],d.getD k.toNat false=true)->GN j us d=d
 | [],_,_,_=>rfl
 |l::us,j,d,h=>by simp only[GN];rw[WB l d (λhi k hk=>h 0 (by simpa using hi) k (by simpa using hk))];exact Zt us (j+1) d λi hi k hk=>h (i+1) (by rw[show j+(i+1)=j+1+i by omega];exact hi) k (by simpa using hk)
theorem Tz{us:List (List Int)}{d:List Bool}(h:Vj us d):∀r,zM us r d=d
 | 0=>rfl
 |r+1=>by simp only[zM];rw[Zt us 0 d (λi hi=>h i (by rwa[bH]at hi))];exact Tz h r
theorem NR{us:List (List Int)}(hus:∀i,∀k∈us.getD i [],k.toNat<us.length):∀(r:Nat) (d:List Bool),d.length=us.length->d.count false<=r->Vj us (zM us r d)
 | 0,d,hd,h=>by simp only[zM];intro i _ k hk;have hk:=hus i k hk;have h0:¬false∈d:=List.count_eq_zero.1 aj;rw[vg aj];have hm:=aN (l:=d) (n:=k.toNat) aj;cases e:d[k.toNat]' aj;{rw[e]at hm;exact absurd hm h0};rfl
 | r+1,d,hd,h=>by
   by_cases hc:Vj us d;{rw[Tz hc];exact hc};simp only[zM];refine NR hus r _ (by rw[MP];exact hd) ?_;obtain⟨h1,h2⟩:=cnt_lt d (GN 0 us d) (MP us 0 d).symm (P6 us 0 d);have:∃i:Nat,d.getD i false=true/\∃k∈us.getD i [],¬d.getD k.toNat false=true:=by apply aS;intro hn;refine hc λi hi k hk=>?_;apply aS;intro hne;exact hn ⟨i,hi,k,hk,hne⟩
   obtain⟨i,hi,k,hk,hne⟩:=this;have hkl:=hus i k hk;have:=h2 ⟨k.toNat,aj,by simpa using hne,Zu us 0 d i k hk (by rwa[bH]) aj⟩;omega
theorem a0M{us:List (List Int)}(hus:∀i,∀k∈us.getD i [],k.toNat<us.length)(f:Nat):Vj us (IU us f) :=
 NR hus _ _ ak (by have:=List.count_le_length (a:=false) (l:=(List.replicate us.length false).set f true);simpa using this)
def a4J(us:List (List Int))(f:Nat)(d:List Bool):Prop:=∀j:Nat,d.getD j false=true->RI us f j
theorem a2y{us:List (List Int)}{f i:Nat}:∀(l:List Int) (d:List Bool),(∀k∈l,k∈us.getD i [])->a4J us f d->a4J us f (CP i l d)
 | [],_,_,h=>h
 |k::l,d,hl,h=>by simp only[CP];refine a2y l _ (λk hk=>hl k (by simp[hk])) λj hj=>?_;unfold EP at hj;rw[DN]at hj;split at hj;{rename_i e;rw[<- e.1];rw[fP]at hj;rcases hj with g|g;{exact h _ g};exact .step (h _ g) (hl k ak)};exact h j hj
theorem a5C{us:List (List Int)}{f:Nat}:∀(l:List (List Int)) (i:Nat) (d:List Bool),us.drop i=l->a4J us f d->a4J us f (GN i l d)
 | [],_,_,_,h=>h
 | x::l,i,d,hl,h=>by
   simp only[GN];have h1:us[i]? = some x:=by rw[<- List.head?_drop,hl];rfl
   have h2:us.drop (i+1)=l:=(by rw[<- List.tail_drop,hl];rfl);exact a5C l (i+1) _ h2 (a2y x d (λk hk=>by rw[aF,h1];exact hk) h)
theorem Zm{us:List (List Int)}{f:Nat}:∀(r:Nat) (d:List Bool),a4J us f d->a4J us f (zM us r d)
 | 0,_,h=>h
 |r+1,d,h=>by simp only[zM];exact Zm r _ (a5C us 0 d rfl h)
theorem Zl{us:List (List Int)}:∀(r:Nat) (d:List Bool),LeD d (zM us r d)
 | 0,d=>.refl d
 |r+1,d=>by simp only[zM];exact(P6 us 0 d).trans (Zl r _)
theorem a7H{us:List (List Int)}(hus:∀i,∀k∈us.getD i [],k.toNat<us.length){f:Nat}(hf:f<us.length)(j:Nat):(IU us f).getD j false=true↔RI us f j:=by
 constructor;{refine Zm (us:=us) us.length _ (λj hj=>?_) j;rw[DN]at hj;split at hj;{rename_i e;rw[<- e.1];exact .root};rw[aF,eH]at hj;split at hj <;> simp at hj};intro h;induction h with
 |root=>exact Zl _ _ _ (by rw[DN,aG ⟨rfl,by simpa using hf⟩])
 |step h hk ih=>exact a0M hus f _ ih _ hk
theorem a8u{m:Md}:∀i,∀k∈(xq m).getD i [],k.toNat<(xq m).length:=by intro i k hk;by_cases h:i<(xq m).length;{rw[vg h]at hk;have:=a02 _ (aN h) k hk;omega};rw[aF,gq aj]at hk;simp at hk
theorem b2i{m:Md}{x y:Node}(hx:x∈rE m)(hy:y∈rE m)(h:(A8 m x).toNat=(A8 m y).toNat):x=y:=by obtain⟨_,h1⟩:=JK hx;obtain⟨_,h2⟩:=JK hy;rw[h,h2]at h1;exact(aW h1).symm
theorem WC{m:Md}(hc:AQ m){r:Node}(hr:r∈rE m){y:Node}(hy:y∈rE m):(IU (xq m) (A8 m r).toNat).getD (A8 m y).toNat false=true↔Reach m r y:=by
 rw[a7H a8u (a1f hr).2];constructor
 ·intro h;have key:∀j,RI (xq m) (A8 m r).toNat j->∃z∈rE m,(A8 m z).toNat=j/\Reach m r z:=by
   intro j h;induction h with
   |root=>exact⟨r,hr,rfl,.root⟩
   |step h hk ih =>obtain⟨z,hz,e,hR⟩:=ih;rw[<- e,Vw hz,MC hc hz]at hk;obtain⟨w,hw,rfl⟩:=bg.1 hk;obtain⟨hw,h2⟩:=dZ.1 hw;have hz2:=(uN.1 hz).1;exact⟨w,(yL hc ((yL hc (.inr (.inr hz)) hz2).2 w hw) (eF h2)).1,rfl,.step hR hz2 hw⟩
  obtain⟨z,hz,e,hR⟩:=key _ h;rw[<- b2i hz hy e];exact hR
 intro h;have key:∀z,Reach m r z->z.1=2->RI (xq m) (A8 m r).toNat (A8 m z).toNat:=by
  intro z h;induction h with
  |root=>intro _;exact .root
  |step h h2 hy ih =>rename_i a b;intro hb;have ha:=(yL hc (h.ok hc (.inr (.inr hr))) h2).1;refine .step (ih h2) ?_;rw[Vw ha,MC hc ha];exact bg.2 ⟨b,dZ.2 ⟨hy,by simpa using hb⟩,rfl⟩
 exact key y h (uN.1 hy).1
theorem a6u{m:Md}{a:Int}{i:Nat}:∀(l:List Str) (e:Nat),(Xj m a l e).testBit i=true↔(e.testBit i=true\/∃s∈l,(uV m a s).1=0/\(uV m a s).2.2.toNat=i)
 | [],e=>by simp[Xj]
 |s::l,e=>by simp only[Xj];rw[a6u l];by_cases h:(uV m a s).1=0;{rw[aG h,Nat.testBit_or,lM];simp only[fP,bT,aU,nY];constructor;{rintro((h1|h1)|h1);{exact .inl h1};{exact .inr (.inl ⟨h,h1⟩)};exact .inr (.inr h1)};rintro(h1|h1|h1);{exact .inl (.inl h1)};{exact .inl (.inr h1.2)};exact .inr h1};rw[aB h];simp only[aU,nY];constructor;{rintro(h1|h1);{exact .inl h1};exact .inr (.inr h1)};rintro(h1|h1|h1);{exact .inl h1};{exact absurd h1.1 h};exact .inr h1
theorem Wv{m:Md}{F:List Bool}{i:Nat}:∀(l:List Node) (p:Nat×Bool),
  (((l.foldl (Hz m F) p).1.testBit i=true↔(p.1.testBit i=true\/∃y∈l,F.getD (A8 m y).toNat false=true/\∃s∈(rP m y).ins,(uV m y.2.1 s).1=0/\(uV m y.2.1 s).2.2.toNat=i)) /\
  ((l.foldl (Hz m F) p).2=true↔(p.2=true\/∃y∈l,F.getD (A8 m y).toNat false=true/\RZ (rP m y)=true)))
 | [],p=>ak
 |y::l,p=>by obtain⟨h1,h2⟩:=Wv (i:=i) l (Hz m F p y);simp only[fA];rw[h1,h2];simp only[aU,nY];by_cases h:F.getD (A8 m y).toNat false=true;{have e:Hz m F p y=(Xj m y.2.1 (rP m y).ins p.1,p.2||RZ (rP m y)):=aG h;rw[e];dsimp only;rw[a6u,fP];simp only[h,true_and,or_assoc,and_self]};have e:Hz m F p y=p:=aB h;rw[e];simp only[h,false_and,false_or,and_self,dO]
theorem a2i{m:Md}(hM:J9 m){y:Node}(hy:y∈rE m):Dw (rP m y).kind = !RZ (rP m y):=by obtain⟨_,h2,h3,h4⟩:=uN.1 hy;have hk:y.2.2.toNat<(qO m y.2.1).length:=aj;have ho:=(hM.gate h2 hk).own;have e:rP m y=(qO m y.2.1)[y.2.2.toNat]:=(by unfold rP;exact vg hk);rw[<- e]at ho;generalize rP m y=g at *;unfold uQ at ho;split at ho;{cases ho};split at ho;{cases ho};rename_i h5 h6;have:g.kind=0\/g.kind=1\/g.kind=2\/g.kind=3\/g.kind=4\/g.kind=5\/g.kind=6\/g.kind=7\/g.kind=8:=aj;unfold Dw RZ;rcases this with e|e|e|e|e|e|e|e|e <;> simp[e]
theorem Reach.trans{m:Md}{x y z:Node}(h:Reach m x y)(g:Reach m y z):Reach m x z:=by
 induction g with
 |root=>exact h
 |step _ h2 hy ih=>exact ih.step h2 hy
theorem a3a{m:Md}(hc:AQ m){rank:Node->Nat}(hr:QX m rank)(vars:Int):∀(n:Nat) (x:Node) (st:CS),RF m x->lvl rank x<n->(sF m vars n x st).1.1=true ->
  ∃y,Reach m x y/\y∈rE m/\Dw (rP m y).kind=false
 | 0,_,_,_,h,_=>aj
 | n+1,x,st,hx,hn,h=>by
   unfold sF at h;split at h;{cases h};rename_i h0;split at h;{cases h};split at h;{cases h};rename_i h1;have h2:x.1=2:=by rcases hx with h|h|h;{omega};{omega};exact(uN.1 h).1
   obtain⟨hxa,hk⟩:=yL hc hx h2;split at h;{exact⟨x,.root,hxa,by assumption⟩};split at h
   ·rename_i he;have hlv:rank x<n:=by unfold lvl at hn;rw[aG h2]at hn;omega
    have key:∀(l:List Node) (s:CS) (acc:List Int),(∀y∈l,y∈sZ m x)->(wB (sF m vars n) l s acc).1.1=true->∃y∈sZ m x,∃s,(sF m vars n y s).1.1=true:=by
     intro l;induction l with
     |nil=>intro s acc _ h;cases h
     |cons y l ih =>intro s acc hl h;unfold wB at h;split at h;{exact⟨y,hl y ak,s,by assumption⟩};exact ih _ _ (λz hz=>hl z (by simp[hz])) h
    obtain⟨y,hy,s,hs⟩:=key _ _ _ (λ_ h=>h) he;have hly:lvl rank y<n:=(by unfold lvl;split;{rename_i e;have:=hr x hx h2 y hy e;omega};omega);obtain⟨z,hz1,hz2,hz3⟩:=a3a hc hr vars n y s (hk y hy) hly hs;exact⟨z,(Reach.root.step h2 hy).trans hz1,hz2,hz3⟩
   cases h
def GoodS(m:Md)(st:CS):Prop:=∀z:Node,lookO st.es z≠none->z.1=2->Dw (rP m z).kind=true/\∀y∈sZ m z,y.1=0\/lookO st.es y≠none
def Done(st:CS)(x:Node):Prop:=x.1=0\/lookO st.es x≠none
def LeS(s t:CS):Prop:=∀z,lookO s.es z≠none->lookO t.es z≠none
theorem a0t{m:Md}(vars:Int):∀(n:Nat) (x:Node) (st:CS),GoodS m st->(sF m vars n x st).1.1=false->GoodS m (sF m vars n x st).2/\Done (sF m vars n x st).2 x/\LeS st (sF m vars n x st).2
 | 0,_,_,_,h=>by cases h
 | n+1,x,st,hg,h=>by
   have push:∀{s:CS} (nd:Nd),GoodS m s->LeS st s->(x.1=2->Dw (rP m x).kind=true/\∀y∈sZ m x,Done s y)->GoodS m (xM vars s x nd).2/\Done (xM vars s x nd).2 x/\LeS st (xM vars s x nd).2:=by
    intro s nd h1 h2 h3;have mono:LeS s (xM vars s x nd).2:=by intro z hz;show lookO (mark s.es x _) z≠none;rw[CQ];split;{simp};exact hz
    refine⟨λz hz hz2=>?_,.inr ?_,λz hz=>mono z (h2 z hz)⟩;{have hz:lookO (mark s.es x (vars+s.nodes.length)) z≠none:=hz;rw[CQ]at hz;by_cases e:x=z;{subst e;obtain⟨k1,k2⟩:=h3 hz2;exact⟨k1,λy hy=>(k2 y hy).imp id (mono y)⟩};rw[aB e]at hz;obtain⟨k1,k2⟩:=h1 z hz hz2;exact⟨k1,λy hy=>(k2 y hy).imp id (mono y)⟩};show lookO (mark s.es x _) x≠none;rw[CQ,aG rfl];simp
   unfold sF at h ⊢;split;{rename_i h0;exact⟨hg,.inl h0,λ_ h=>h⟩};rename_i h0;rw[aB h0]at h;split;{rename_i a ha;exact⟨hg,.inr (by rw[ha];simp),λ_ h=>h⟩};rename_i hn;simp only[hn]at h;split;{rename_i h1;exact push _ hg (λ_ h=>h) (λe=>by omega)};rename_i h1;rw[aB h1]at h;split;{rename_i hs;rw[aG hs]at h;cases h};rename_i hs;rw[aB hs]at h;have key:∀(l:List Node) (s:CS) (acc:List Int),GoodS m s->(wB (sF m vars n) l s acc).1.1=false->GoodS m (wB (sF m vars n) l s acc).2/\(∀y∈l,Done (wB (sF m vars n) l s acc).2 y)/\LeS s (wB (sF m vars n) l s acc).2:=by
    intro l;induction l with
    |nil=>intro s acc h _;exact⟨h,ak,λ_ h=>h⟩
    |cons y l ih =>intro s acc h he;unfold wB at he ⊢;split;{rename_i hb;rw[aG hb]at he;cases he};rename_i hb;rw[aB hb]at he;obtain⟨g1,g2,g3⟩:=a0t vars n y s h (by simpa using hb);obtain⟨i1,i2,i3⟩:=ih _ _ g1 he;refine⟨i1,λz hz=>?_,λz hz=>i3 z (g3 z hz)⟩;rcases aU.1 hz with rfl|hz;{exact g2.imp id (i3 z)};exact i2 z hz
   split;{rename_i he;rw[aG he]at h;cases h};rename_i he;obtain⟨k1,k2,k3⟩:=key _ _ _ hg (by simpa using he);exact push _ k1 k3 λ_=>⟨by simpa using hs,k2⟩
theorem a1z{m:Md}{vars:Int}{n:Nat}{x:Node}(h:(sF m vars n x ⟨[],[]⟩).1.1=false):∀y,Reach m x y->y.1=2->Dw (rP m y).kind=true:=by
 obtain⟨h1,h2,_⟩:=a0t (m:=m) vars n x ⟨[],[]⟩ (λz hz=>by simp[lookO]at hz) h;have key:∀y,Reach m x y->Done (sF m vars n x ⟨[],[]⟩).2 y:=by
  intro y hy;induction hy with
  |root=>exact h2
  |step _ hk hy ih =>rcases ih with e|e;{omega};exact(h1 _ e hk).2 _ hy
 intro y hy e;rcases key y hy with k|k;{omega};exact(h1 y k e).1
theorem a4o{m:Md}(hM:J9 m){s:Str}(hs:uZ m (-1) s=true):(wZ m s).1.1=(KZ m (uV m (-1) s)).2:=by
 obtain⟨he,_⟩:=Qq hM (.inl rfl) hs;have hok:=(hM.RU (.inl rfl) hs).ok;have hc:=hM.closed;obtain⟨rank,hr,hb⟩:=hM.rank;rw[he];unfold wZ;generalize yH m (-1) s=x at *;have hiff:(sF m m.evs.length (Il m) x ⟨[],[]⟩).1.1=true↔∃y,Reach m x y/\y∈rE m/\RZ (rP m y)=true:=by
  constructor;{intro h;obtain⟨y,h1,h2,h3⟩:=a3a hc hr _ _ x _ hok (hb x) h;refine⟨y,h1,h2,?_⟩;rw[a2i hM h2]at h3;simpa using h3};rintro⟨y,h1,h2,h3⟩;cases h:(sF m m.evs.length (Il m) x ⟨[],[]⟩).1.1 with
  |true=>rfl
  |false =>have:=a1z h y h1 (uN.1 h2).1;rw[a2i hM h2,h3]at this;cases this
 rw[jE,hiff];unfold KZ;by_cases h0:x.1=0;{rw[aG h0];refine⟨fun⟨y,h1,h2,_⟩=>?_,λh=>by cases h⟩;have:=h1.leaf aj;subst this;have:=(uN.1 h2).1;omega};rw[aB h0];by_cases h1:x.1=1;{rw[aG h1];refine⟨fun⟨y,h2,h3,_⟩=>?_,λh=>by cases h⟩;have:=h2.leaf aj;subst this;have:=(uN.1 h3).1;omega};rw[aB h1];have hx:x∈rE m:=(by rcases hok with h|h|h;{omega};{omega};exact h);unfold OD;rw[(Wv (i:=0) (rE m) (0,false)).2];constructor;{rintro⟨y,h2,h3,h4⟩;exact .inr ⟨y,h3,(WC hc hx h3).2 h2,h4⟩};rintro(h|⟨y,h2,h3,h4⟩);{cases h};exact⟨y,(WC hc hx h2).1 h3,h2,h4⟩
abbrev bAV(ve:Int)(st:CS):AV:=.ag [.ag [.int .i64 ve,.sl 3 (st.nodes.map Nd.av) (.own 2),.int .i64 0],.sl 3 (st.es.map λe=>OE e.1) (.own 1),.sl 1 (st.es.map λe=>.int .i64 e.2) (.own 0)]
abbrev hpR(st:CS):Heap:=[(2,.tok 3 st.nodes.length),(1,.tok 3 st.es.length),(0,.tok 1 st.es.length)]
theorem b3f(k:Int):ZQ 134 [.int .i64 k] [] (.int .i64 (if k=1 then 3 else if k=2 then 4 else if k=3 then 1 else if k=4 then 5 else 2)) []:=by
 obtain⟨a,ha⟩:∃a:Int,(if k=1 then 3 else if k=2 then 4 else if k=3 then 1 else if k=4 then 5 else 2)=a:=⟨_,rfl⟩;rw[ha];refine ZN Tryz.func134 λhok=>?_;repeat' (first|(refine aQ (λ_=>?_) (λ_=>?_) <;> ((try dsimp only[Ux]);(conv=>whnf))))
 all_goals
  refine ZF ?_
 all_goals
  rw[<- ha];repeat' first|exact Zq|apply aI
 all_goals simp_all
theorem a6f{k:Int}(h:Dw k=true):(if k=1 then(3:Int)else if k=2 then 4 else if k=3 then 1 else if k=4 then 5 else 2)=GZ k:=by unfold Dw at h;simp only[fP,bT]at h;unfold GZ;rcases h with((((h|h)|h)|h)|h)|h <;> subst h <;> rfl
theorem a7S{α:Type}{l:List α}{x:α}{k:α->Prop}(h:k x):Ce (l++[x]) ((((l++[x]).length:Nat):Int)-1) k :=
 ⟨⟨x,⟨ak,by
  have:((((l++[x]).length:Nat):Int)-1).toNat=l.length:=ak;rw[this];simp⟩,h⟩⟩
theorem a1K(ve:Int)(hv:0<=ve/\ve<=100)(st:CS)(hs:st.nodes.length<=100000/\st.es.length<=100000)(x:Node)(nd:Nd)(hn:lookO st.es x=none) :
  ZQ 133 [bAV ve st,OE x,nd.av] (hpR st) (.uy [bAV ve (xM ve st x nd).2,.int .i64 (ve+st.nodes.length)]) (hpR (xM ve st x nd).2):=by
 have e:(xM ve st x nd).2=⟨st.nodes++[nd],st.es++[(x,ve+st.nodes.length)]⟩:=(by unfold xM;rw[(WE hn).1]);rw[e];refine ZN Tryz.func133 λhok=>?_;refine⟨by rw[aC],.mk (by simp[maxL] <;> omega) (by simp <;> omega) (ZW ?_)⟩;refine⟨by rw[aC],.mk (by simp[maxL] <;> omega) (by simp <;> omega) (ZW ?_)⟩;refine⟨rW (by simp <;> omega) (by simp <;> omega),ZW ?_⟩;refine⟨rW (by simp <;> omega) (by simp <;> omega),ZW ?_⟩;refine⟨by rw[aC],.mk (by simp[maxL] <;> omega) (by simp <;> omega) (ZW ?_)⟩;refine xG.late [2,4] ⟨[false,true,false,true,false,true,true,true,true,false,true],by kernel_rfl,?_⟩;conv=>whnf
 refine⟨rW (by simp <;> omega) (by simp <;> omega),?_⟩;conv=>whnf
 refine a7S ?_;conv=>whnf
 (refine aI (by(conv=>whnf)<;>exact rfl) ?_;(conv=>whnf))
 (refine aI (by(conv=>whnf)<;>exact rfl) ?_;(conv=>whnf))
 refine ZE ?_ ?_
 ·repeat' first|exact Zq|apply aI
  all_goals first|(show tV _ (List.map _ (_++[_]));rw[aV];refine Ar ?_ (lR _);(repeat' first|exact rfl|exact trivial|exact lR _|apply aI);done)|(show tV _ (List.map _ (_++[_]));rw[aV];refine Ar ?_ (lR _);exact⟨rfl,by simp <;> omega⟩)|(simp;done)|(simp;omega)
 repeat' first|exact Zq|apply aI
 all_goals first|(simp;done)|(simp;omega)
theorem a2B{x:Node}:∀{es:Marks} {i:Nat} (h:i<es.length),es[i].1=x->(∀(j:Nat) (hj:j<es.length),j<i->es[j].1≠x)->lookO es x=some es[i].2
 | [],_,h,_,_=>by simp at h
 |(y,u)::es,0,_,h1,_=>by simp only[jO]at h1;exact aG h1
 |(y,u)::es,i+1,h,h1,h2=>by have:=h2 0 ak aj;simp only[jO]at this;simp only[lookO,aB this,mZ];exact a2B (by simpa using h) (by simpa using h1) λj hj hji=>by have:=h2 (j+1) (by simpa using hj) aj;simpa using this
theorem a2A{x:Node}:∀{es:Marks},(∀(j:Nat) (hj:j<es.length),es[j].1≠x)->lookO es x=none
 | [],_=>rfl
 |(y,u)::es,h=>by have:=h 0 ak;simp only[jO]at this;simp only[lookO,aB this];exact a2A λj hj=>by have:=h (j+1) (by simpa using hj);simpa using this
abbrev zB:AV:=.ag [.ag [.int .i64 0,.qV,.int .i64 0],.qV,.qV]
theorem IV.b0I{m:Md}(hB:KI m){st:CS}(h:IV m st):st.es.length<=20000:=by rw[<- h.len];exact h.short hB
theorem a4w(m:Md)(hM:J9 m)(hB:KI m)(rank:Node->Nat)(hr:QX m rank):∀(n:Nat) (a:Int) (s:Str) (st:CS),(a = -1\/(0<=a/\a<(m.pages.length:Int)))->uZ m a s=true->lvl rank (yH m a s)<n->IV m st ->
  (sF m m.evs.length n (yH m a s) st).1.1=false ->
  ZQ 73 [bAV m.evs.length st,m.av,.int .i64 a,.str s] (hpR st) (.uy [bAV m.evs.length (sF m m.evs.length n (yH m a s) st).2,.int .i64 (sF m m.evs.length n (yH m a s) st).1.2]) (hpR (sF m m.evs.length n (yH m a s) st).2):=by
 intro n;induction n with
 |zero=>intro a s st _ _ h;omega
 | succ n ih =>
   intro a s st ha hs hn hI hne;have hin:=hM.RU ha hs;have hev:=hM.lens.1;have cF:=XW m a s ha hM.b58;rw[(Qq hM ha hs).1]at cF;have hxo:=hin.ok;have hshort:=hI.short hB;have b6I:=hI.b0I hB;have hcl:=hM.closed;have hkk:=λh2=>yL hcl hxo h2;have hrk:=hr _ hxo;have hInv:=QD hcl hr m.evs.length n;generalize yH m a s=x at *;generalize hve:(m.evs.length:Int)=ve at *;obtain⟨x1,x2,x3⟩:=x;refine ZN Tryz.func73 λhok=>?_;refine .zW cF ?_;constructor<;>intro h0;{rw[show sF m ve (n+1) (x1,x2,x3) st=((false,x3),st)from aG h0];refine ZW ?_;exact ZX};refine ZW ?_;refine qW.of <| qN.inv (.refl _ _) (fun(i:Nat)=>i<=st.es.length/\∀(j:Nat) (hj:j<st.es.length),j<i->st.es[j].1≠(x1,x2,x3))
    (λi=>[(41,.int .i64 i)]) (λ_=>(6,.box (OE (x1,x2,x3)))::(5,.box zB)::(4,.box m.av)::(3,.box (bAV ve st))::hpR st) (λi=>st.es.length-i) 0 ?_ (λ_=>rfl) ?_ ?_
   ·exact⟨aP _,aj⟩
   ·exact ZV
   rintro i ⟨hi,hno⟩ _;refine ZS ?_ ?_<;>intro hh
   ·have hil:i<st.es.length:=(by simpa using hh);refine ZW ?_;refine sH (f:=λe:Node×Int=>OE e.1) hil ?_;refine ZS ?_ ?_<;>intro h3
    ·have hx:st.es[i].1=(x1,x2,x3):=(by generalize st.es[i].1=y at *;obtain⟨y1,y2,y3⟩:=y;simpa[Xk,eqP]using h3);have hlo:=a2B hil hx hno;have hR:sF m ve (n+1) (x1,x2,x3) st=((false,st.es[i].2),st):=(by unfold sF;rw[aB h0,hlo]);rw[hR];refine ZW ?_;refine xG.late [2] ⟨[false,true,false,true,true,true,false,true],by kernel_rfl,?_⟩;conv=>whnf
     refine sH (f:=λe:Node×Int=>.int .i64 e.2) hil ?_;conv=>whnf
     (refine aI (by(conv=>whnf)<;>exact rfl) ?_;(conv=>whnf))
     exact ZX
    refine ZW ?_;refine ZG ?_;refine⟨i+1,?_,?_,?_⟩;{refine⟨hil,λj hj hji e=>?_⟩;by_cases b8j:j=i;{subst b8j;apply h3;rw[e];simp[Xk,eqP]};exact hno j hj aj e};{exact ZV};omega
   have hil:i=st.es.length:=(by(have:¬i<st.es.length:=by simpa using hh);omega);subst hil;clear hh;have hlo:=a2A λj hj=>hno j hj hj;refine ZS ?_ ?_<;>intro h1;{have hh:0<=x3/\x3<(m.hs.length:Int):=(by rcases hxo with h|h|h;{exact absurd h.1 h0};{exact⟨h.2.2.1,h.2.2.2⟩};have:=(uN.1 h).1;dsimp only at this;omega);have hR:sF m ve (n+1) (x1,x2,x3) st=xM ve st (x1,x2,x3) ⟨0,if(Ij m (x1,x2,x3)).on=true then 1 else 0,[]⟩:=(by unfold sF;rw[aB h0,hlo];exact aG h1);rw[hR];refine ZW ?_;refine ug default hh ?_;rw[show m.hs.getD x3.toNat default=Ij m (x1,x2,x3)from rfl];generalize Ij m (x1,x2,x3)=hs at *;refine ZS ?_ ?_<;>intro g;{rw[aG g];have cN:=a1K ve aj st aj (x1,x2,x3) ⟨0,1,[]⟩ hlo;refine ZW ?_;refine .gen _ _ (qZ.frame [0,1,2] cN ⟨rfl,rfl,rfl,rfl⟩ ?_ ?_) λ_=>?_;{exact wk};{exact wk};refine ZW ?_;exact ZX};rw[aB (by rw[g];simp)];have cN:=a1K ve aj st aj (x1,x2,x3) ⟨0,0,[]⟩ hlo;refine ZW ?_;refine .gen _ _ (qZ.frame [0,1,2] cN ⟨rfl,rfl,rfl,rfl⟩ ?_ ?_) λ_=>?_;{exact wk};{exact wk};refine ZW ?_;exact ZX};have h2:x1=2:=(by rcases hxo with h|h|h;{exact absurd h.1 h0};{exact absurd h.1 h1};exact(uN.1 h).1);subst h2;obtain⟨hxa,hkk⟩:=hkk rfl;obtain⟨_,hpg,hix⟩:=uN.1 hxa;have hrk:=hrk rfl;have hlv:rank (2,x2,x3)<n:=(by unfold lvl at hn;rw[aG rfl]at hn;omega);have hgm:rP m (2,x2,x3)∈qO m x2:=(by unfold rP;rw[aF,aH (by dsimp only at hix ⊢;omega)];exact aN _);have hil:(rP m (2,x2,x3)).ins.length<=40:=by
    have:=hgm;unfold qO at this;split at this;{exact hB.gates.2 _ this};rw[aF]at this;cases hp:m.pages[x2.toNat]? with
    |none=>rw[hp]at this;exact absurd this (by show ¬rP m (2,x2,x3)∈([]:List Mg);simp)
    |some p=>rw[hp]at this;exact(hB.GI p (bP hp)).2 _ this
   have hins:∀(j:Nat) (h:j<(rP m (2,x2,x3)).ins.length),uZ m x2 (rP m (2,x2,x3)).ins[j]=true/\(sZ m (2,x2,x3))[j]? = some (yH m x2 (rP m (2,x2,x3)).ins[j]):=λj h =>
    ⟨hM.a2I hpg hgm (aN h),by simp[sZ,h]⟩
   have hlen:(sZ m (2,x2,x3)).length=(rP m (2,x2,x3)).ins.length:=(by simp[sZ]);have hmem:∀y∈sZ m (2,x2,x3),lvl rank y<n:=λy hy=>(by unfold lvl;split;{rename_i e;have:=hrk y hy e;omega};omega);have hR:sF m ve (n+1) (2,x2,x3) st=if Dw (rP m (2,x2,x3)).kind=false then((true,0),st)
    else if(wB (sF m ve n) (sZ m (2,x2,x3)) st []).1.1=true then((true,0),(wB (sF m ve n) (sZ m (2,x2,x3)) st []).2)
    else xM ve (wB (sF m ve n) (sZ m (2,x2,x3)) st []).2 (2,x2,x3) ⟨GZ (rP m (2,x2,x3)).kind,(rP m (2,x2,x3)).k,(wB (sF m ve n) (sZ m (2,x2,x3)) st []).1.2⟩:=by
    conv=>lhs;unfold sF
    rw[aB h0,hlo];exact aB h1
   rw[hR]at hne;have hst:Dw (rP m (2,x2,x3)).kind=true:=by
    cases hk:Dw (rP m (2,x2,x3)).kind with
    |true=>rfl
    |false=>rw[aG hk]at hne;cases hne
   rw[aB (by rw[hst];simp)]at hR hne;have hne2:(wB (sF m ve n) (sZ m (2,x2,x3)) st []).1.1=false:=by
    cases hk:(wB (sF m ve n) (sZ m (2,x2,x3)) st []).1.1 with
    |false=>rfl
    |true=>rw[aG hk]at hne;cases hne
   rw[aB (by rw[hne2];simp)]at hR;have cK:=b3f (rP m (2,x2,x3)).kind;rw[a6f hst]at cK;have cG:=DU m x2 hpg;refine ZW ?_;refine .zW cG ?_;refine ug default hix ?_;have hga:(qO m x2).getD x3.toNat default=rP m (2,x2,x3):=rfl;rw[hga];generalize rP m (2,x2,x3)=g at *;generalize sZ m (2,x2,x3)=K at *;refine ZW ?_;refine ZR ?_;refine .zW cK ?_;generalize hW:sF m ve n=W at *;generalize hS:wB W K st []=Rz at *;refine qW.of <| qN.inv (.FU 8 [2] 1 [] (.ag [.int .i64 (GZ g.kind),.int .i64 g.k,.qV]) .qV _ rfl rfl (.inl ⟨rfl,rfl⟩) rfl (.refl _ _))
    (fun(q:Nat×CS×List Int)=>q.1<=g.ins.length/\wB W (K.drop q.1) q.2.1 q.2.2=Rz/\q.2.2.length=q.1/\IV m q.2.1/\(∀z:Node,z.1=2->rank (2,x2,x3)<=rank z->lookO st.es z=none->lookO q.2.1.es z=none))
    (λq=>[(87,.int .i64 q.1)]) (λq=>(9,.tok 1 q.1)::(8,.box (.ag [.int .i64 (GZ g.kind),.int .i64 g.k,.sl 1 (q.2.2.map (.int .i64)) (.own 9)]))::(7,.gone)::(6,.box (OE (2,x2,x3)))::(5,.box zB)::(4,.box m.av)::(3,.box (bAV ve q.2.1))::hpR q.2.1) (λq=>g.ins.length-q.1) (0,st,[]) ?_ (λ_=>rfl) ?_ ?_
   ·exact⟨aP _,hS,rfl,hI,λ_ _ _ h=>h⟩
   ·exact ZV
   rintro⟨j,sj,acc⟩ ⟨hj,tC,hacc,hIj,hzj⟩ _;dsimp only at hj tC hacc hIj hzj;refine ZS ?_ ?_<;>intro hh
   ·have hjl:j<g.ins.length:=(by simpa using hh);obtain⟨hij,hKj⟩:=hins j hjl;rw[yu? hKj]at tC;unfold wB at tC;have hyK:=bP hKj;have hlj:=hmem _ hyK;have cw:=ih x2 g.ins[j] sj hpg hij hlj hIj;have hIr:=hInv (yH m x2 g.ins[j]) sj (hM.RU hpg hij).ok hIj;have hyr:=hrk _ hyK;refine ZW ?_;refine sH hjl ?_;generalize g.ins[j]=s2 at *;generalize yH m x2 s2=y at *;generalize hr0:W y sj=r at *;obtain⟨⟨rb,ra⟩,rs⟩:=r;dsimp only at tC hIr cw;have hrb:rb=false:=by
     cases rb with
     |false=>rfl
     |true=>rw[aG rfl]at tC;rw[<- tC]at hne2;cases hne2
    subst hrb;rw[aB ak]at tC;have cw:=cw rfl;refine ZW ?_;refine .gen _ _ (qZ.frame [0,1,2] cw ⟨rfl,rfl,rfl,rfl⟩ ?_ ?_) λ_=>?_;{exact wk};{exact wk};refine ZW ?_;refine⟨by rw[aC,hacc],.mk (by simp[maxL];omega) aA (ZW ?_)⟩;refine ZG ?_;refine⟨(j+1,rs,acc++[ra]),?_,?_,?_⟩;{exact⟨hjl,tC,by simp[hacc],hIr.1,λz hz hxz hs=>hIr.2 z hz (λe=>by have:=hyr e;omega) (hzj z hz hxz hs)⟩}
    ·refine Zv wk ?_;repeat' first|exact Zq|apply aI
     all_goals first|(show tV _ (List.map _ (_++[_]));rw[aV];exact lR _)|(simp[hacc];done)|(simp;omega)
    show g.ins.length-(j+1)<g.ins.length-j;omega
   have hjl:K.length<=j:=(by(have:¬j<g.ins.length:=by simpa using hh);omega);rw[aX hjl]at tC;unfold wB at tC;rw[<- tC]at hR;rw[hR];have cN:=a1K ve aj sj (by have:=hIj.short hB;have:=hIj.b0I hB;omega) (2,x2,x3) ⟨GZ g.kind,g.k,acc⟩ (hzj _ rfl (aT _) hlo);refine ZW ?_;refine .gen _ _ (qZ.frame [0,1,2] cN ⟨rfl,rfl,rfl,rfl⟩ ?_ ?_) λ_=>?_;{exact wk};{exact wk};refine ZW ?_;exact ZX
def zR:Rat:=⟨false,[],[]⟩
theorem b5y(m:Md)(hM:J9 m)(hB:KI m)(s:Str)(R:AV)(hR:R=.uy [(atR m s).1.av,.int .i64 (atR m s).2]):ZQ 22 [m.av,.str s] [] R []:=by
 have hc:=a6X hM;have hev:=hM.lens.1;have cF:=XW m (-1) s (.inl rfl) hM.b58;cases hs:uZ m (-1) s with
 |false =>have hn:=a6s hs;have hi:(wO m (-1) s).2=5:=(by unfold wO;rw[aB (by rw[hc];simp),aB aj,aB aj,aG hs]);rw[show atR m s=(⟨0,[],0⟩,5)from by unfold atR;rw[hi];exact aG au]at hR;subst hR;generalize uV m (-1) s=x at *;obtain⟨x1,x2,x3⟩:=x;refine ZN Tryz.func22 λhok=>?_;refine .zW cF ?_;refine aQ (λ_=>?_) (λh=>absurd hn h);refine ZW ?_;exact ZX
 | true =>
   obtain⟨he,hn⟩:=Qq hM (.inl rfl) hs;have hin:=hM.RU (.inl rfl) hs;have cN:=b3C m hM hB s hs _ rfl;have hcn:=a4o hM hs;have hi:(wO m (-1) s).2=0:=(by unfold wO;rw[aB (by rw[hc];simp),aB aj,aB aj,aB (by rw[hs];simp)]);have hA:atR m s=if(wZ m s).1.1=true then(⟨0,[],0⟩,7)else(⟨m.evs.length,(wZ m s).2.nodes,(wZ m s).1.2⟩,0):=aB (by rw[hi];simp);rw[hA]at hR;rw[<- hcn]at cN;obtain⟨rank,hr,hb⟩:=hM.rank;have cw:=a4w m hM hB rank hr (Il m) (-1) s ⟨[],[]⟩ (.inl rfl) hs (hb _) (.nil m);rw[show sF m m.evs.length (Il m) (yH m (-1) s) ⟨[],[]⟩=wZ m s from rfl]at cw;generalize (KZ m (uV m (-1) s)).1=nv at *;generalize uV m (-1) s=x at *;obtain⟨x1,x2,x3⟩:=x;dsimp only at hn;generalize wZ m s=r at *;obtain⟨⟨rb,ra⟩,rn,re⟩:=r;dsimp only at hR cN cw;cases rb with
   |true =>rw[aG rfl]at hR;subst hR;refine ZN Tryz.func22 λhok=>?_;refine .zW cF ?_;refine aQ (λh=>by exfalso;omega) (λ_=>ZW ?_);refine .zW cN ?_;refine aQ (λ_=>?_) (λh=>by cases h);refine ZW ?_;exact ZX
   |false =>rw[aB ak]at hR;subst hR;have cw:=cw rfl;refine ZN Tryz.func22 λhok=>?_;refine .zW cF ?_;refine aQ (λh=>by exfalso;omega) (λ_=>ZW ?_);refine .zW cN ?_;refine aQ (λh=>by cases h) (λ_=>ZW ?_);rw[show(((m.evs.map Ev.av).length:Nat):Int)=(m.evs.length:Int) by simp];refine .gen _ _ (qZ.b2K 0 [2] 1 rfl rfl rfl rfl rfl (qZ.b2K 0 [1] 3 rfl rfl rfl rfl rfl (qZ.b2K 0 [0,1] 3 rfl rfl rfl rfl rfl (qZ.frame [2,3,4] cw ⟨rfl,rfl,rfl,rfl⟩ ?_ ?_)))) λ_=>?_;{exact wk};{exact wk};refine ZW ?_;exact ZX
theorem VH{m:Md}(h:rF m=0):UA m=atR m m.top:=aB (by rw[h];simp)
def RJ(s:Str):List Str->Nat
 | []=>0
 |x::l=>if Op.bytesLess x s=true then RJ s l+1 else 0
theorem a5Z{s:Str}:∀{l:List Str} {i:Nat},i<=l.length->(∀(j:Nat) (h:j<l.length),j<i->Op.bytesLess l[j] s=true)->(∀h:i<l.length,Op.bytesLess l[i] s=false)->RJ s l=i
 | [],i,h,_,_=>by simp at h;subst h;rfl
 |x::l,0,_,_,h2=>by have:=h2 ak;rw[RJ,aB (by simpa using this)]
 |x::l,i+1,h,h1,h2=>by have h0:=h1 0 ak aj;rw[RJ,aG (by simpa using h0),a5Z (i:=i) (by simp at h;omega) (λj hj hji=>h1 (j+1) aA aj) (λhh=>h2 aA)]
def Ai(l:List Str)(s:Str):List Str:=if l[RJ s l]? = some s then l else l.take (RJ s l)++[s]++l.drop (RJ s l)
theorem a9l(l:List Str)(s:Str):(Ai l s).length<=l.length+1:=by unfold Ai;split;{omega};simp;omega
theorem a3l(l:List Str)(s:Str)(hl:l.length<=1000000):ZQ 23 [sL l,.str s] [] (sL (Ai l s)) []:=by
 generalize hR:Ai l s=R;unfold Ai at hR;refine ZN Tryz.func23 λhok=>?_;refine qW.of <| (qN.inv (.refl _ _) (λi:Nat=>i<=l.length/\∀(j:Nat) (h:j<l.length),j<i->Op.bytesLess l[j] s=true) (λi=>[(5,.int .i64 (i:Int))]) (λ_=>[]) (λi=>l.length-i) 0 ⟨aP _,λj _ h=>absurd h (gW j)⟩ ?_ ?_ ?_);{exact λ_=>rfl};{exact ZV};rintro i ⟨hi,hall⟩ _;refine ZW ?_;have b48:∀h:¬i<l.length\/∃hh:i<l.length,Op.bytesLess l[i] s=false,RJ s l=i:=λh=>(by refine a5Z hi hall λhh=>?_;rcases h with h|⟨_,h⟩;{exact absurd hh h};exact h);constructor<;>intro g
 ·have hlt:i<l.length:=(by simpa using g);refine ZW ?_;refine sH hlt (ZW ?_);cases hb:Op.bytesLess l[i] s with
  |true =>refine aQ (λ_=>?_) (λh=>by cases h);refine ZW ?_;refine ZG ?_;refine⟨i+1,?_,?_,?_⟩;{refine⟨hlt,λj hj hji=>?_⟩;rcases lT j i with h'|h';{exact hall j hj h'};obtain rfl:j=i:=aj;exact hb};{exact ZV};omega
  | false =>
    refine aQ (λh=>by cases h) (λ_=>?_);have hn:=b48 (.inr ⟨hlt,hb⟩);rw[hn,aH hlt]at hR;refine ZW ?_;refine bY g (ZW ?_);refine sH hlt ?_;refine ZS ?_ ?_<;>intro he;{rw[aG (by rw[he])]at hR;subst hR;refine ZW ?_;exact ZX};rw[aB (λh=>he (aW h))]at hR;subst hR;refine ZW ?_;refine .mk ⟨⟨au,aj,aA⟩,?_⟩;rw[show((l.map AV.str).drop (Int.toNat 0)).take ((i:Int).toNat-Int.toNat 0)=(l.take i).map AV.str by simp];refine ZW ?_;refine .tok (by simp[maxL];omega) aA (ZW ?_);refine⟨ak,.mk (by simp[maxL];omega) aA (ZW ?_)⟩;refine .mk ⟨⟨aj,aA,ak⟩,?_⟩;rw[show((l.map AV.str).drop (i:Int).toNat).take (((l.map AV.str).length:Int).toNat-(i:Int).toNat)=(l.drop i).map AV.str by rw[bf ak];simp];refine ZW ?_;refine⟨ak,.mk (by simp[maxL];omega) aA (ZW ?_)⟩;refine ZE ?_ ?_
    ·repeat' first|exact Zq|apply aI
     all_goals (refine qY ?_;simp[strip])
    exact wk
 have hn:=b48 (.inl (by simpa using g));have hil:i=l.length:=(by simp at g;omega);rw[hn,aB (by rw[gq aj];simp)]at hR;subst hR;refine ZW ?_;refine bN g (ZW ?_);refine .mk ⟨⟨au,aj,aA⟩,?_⟩;rw[show((l.map AV.str).drop (Int.toNat 0)).take ((i:Int).toNat-Int.toNat 0)=(l.take i).map AV.str by simp];refine ZW ?_;refine .tok (by simp[maxL];omega) aA (ZW ?_);refine⟨ak,.mk (by simp[maxL];omega) aA (ZW ?_)⟩;refine .mk ⟨⟨aj,aA,ak⟩,?_⟩;rw[show((l.map AV.str).drop (i:Int).toNat).take (((l.map AV.str).length:Int).toNat-(i:Int).toNat)=(l.drop i).map AV.str by rw[bf ak];simp];refine ZW ?_;refine⟨ak,.mk (by simp[maxL];omega) aA (ZW ?_)⟩;refine ZE ?_ ?_
 ·repeat' first|exact Zq|apply aI
  all_goals (refine qY ?_;simp[strip])
 exact wk
theorem Qh:∀(m l:List Str),(m.foldl Ai l).length<=l.length+m.length
 | [],l=>ak
 |x::m,l=>by rw[fA,dY];have:=Qh m (Ai l x);have:=a9l l x;omega
def BM(m:Md):List Str:=m.evs.map (·.name)
def CV(a b:Md):List Str:=(BM b).foldl Ai ((BM a).foldl Ai [])
theorem b0k(a b:Md)(ha:a.evs.length<=1000)(hb:b.evs.length<=1000):ZQ 8 [a.av,b.av] [] (sL (CV a b)) []:=by
 unfold CV BM;have hl1:((a.evs.map λx:Ev=>x.name).foldl Ai []).length<=1000:=by have:=Qh (a.evs.map λx:Ev=>x.name) [];simp at this;omega
 have h0:([]:List Str).length<=1000:=ak;refine ZN Tryz.func8 λhok=>?_;refine qW.of <| (qN.inv (.refl _ _) (λi:Nat=>i<=a.evs.length) (λi=>[(6,.int .i64 (i:Int)),(5,sL (((a.evs.map λx:Ev=>x.name).take i).foldl Ai ([]:List Str)))]) (λ_=>[(1,.box b.av),(0,.box a.av)]) (λi=>a.evs.length-i) 0 (aP _) ?_ ?_ ?_);{exact λ_=>rfl};{exact ZV};rintro i hi _;refine ZS ?_ ?_<;>intro g;{have hlt:i<a.evs.length:=(by simpa using g);have hlt2:i<(a.evs.map λx:Ev=>x.name).length:=(by simpa using hlt);have hst:((a.evs.map λx:Ev=>x.name).take (i+1)).foldl Ai ([]:List Str)=Ai (((a.evs.map λx:Ev=>x.name).take i).foldl Ai ([]:List Str)) (a.evs.map λx:Ev=>x.name)[i]:=JO hlt2;rw[show(a.evs.map λx:Ev=>x.name)[i]=a.evs[i].name by simp]at hst;have hlen:=Qh ((a.evs.map λx:Ev=>x.name).take i) ([]:List Str);rw[dh]at hlen;have ci:=a3l (((a.evs.map λx:Ev=>x.name).take i).foldl Ai ([]:List Str)) a.evs[i].name aj;refine ZW ?_;refine sH hlt ?_;generalize a.evs[i]=x at *;generalize ((a.evs.map λx:Ev=>x.name).take i).foldl Ai ([]:List Str)=l at *;refine ZW ?_;refine .zW ci ?_;refine ZG ?_;refine⟨i+1,?_,?_,?_⟩;{exact hlt};{rw[hst];exact ZV};omega};have hg:¬i<a.evs.length:=(by simpa using g);have hk:i=(a.evs.map λx:Ev=>x.name).length:=(by rw[aC];omega);rw[hk,bn];clear hk g hi hg;generalize (a.evs.map λx:Ev=>x.name).foldl Ai []=S at *;refine ZW ?_;refine qW.of <| (qN.inv (.refl _ _) (λi:Nat=>i<=b.evs.length) (λi=>[(7,.int .i64 (i:Int)),(5,sL (((b.evs.map λx:Ev=>x.name).take i).foldl Ai S))]) (λ_=>[(1,.box b.av),(0,.box a.av)]) (λi=>b.evs.length-i) 0 (aP _) ?_ ?_ ?_);{exact λ_=>rfl};{exact ZV};rintro i hi _;refine ZS ?_ ?_<;>intro g;{have hlt:i<b.evs.length:=(by simpa using g);have hlt2:i<(b.evs.map λx:Ev=>x.name).length:=(by simpa using hlt);have hst:((b.evs.map λx:Ev=>x.name).take (i+1)).foldl Ai S=Ai (((b.evs.map λx:Ev=>x.name).take i).foldl Ai S) (b.evs.map λx:Ev=>x.name)[i]:=JO hlt2;rw[show(b.evs.map λx:Ev=>x.name)[i]=b.evs[i].name by simp]at hst;have hlen:=Qh ((b.evs.map λx:Ev=>x.name).take i) S;rw[dh]at hlen;have ci:=a3l (((b.evs.map λx:Ev=>x.name).take i).foldl Ai S) b.evs[i].name aj;refine ZW ?_;refine sH hlt ?_;generalize b.evs[i]=x at *;generalize ((b.evs.map λx:Ev=>x.name).take i).foldl Ai S=l at *;refine ZW ?_;refine .zW ci ?_;refine ZG ?_;refine⟨i+1,?_,?_,?_⟩;{exact hlt};{rw[hst];exact ZV};omega};have hg:¬i<b.evs.length:=(by simpa using g);have hk:i=(b.evs.map λx:Ev=>x.name).length:=(by rw[aC];omega);rw[hk,bn];clear hk g hi hg;generalize (b.evs.map λx:Ev=>x.name).foldl Ai S=T at *;refine ZW ?_;exact ZX
def b1n(m:Md):List Str:=(m.gates.map λx:Mg=>x.name).foldl Ai ((m.hs.map λx:Hs=>x.name).foldl Ai ((m.evs.map λx:Ev=>x.name).foldl Ai []))
theorem b4F{x:Rat}(w1:Ws x.num)(w2:Ws x.den){k:Nat}(h1:x.num.length<=k)(h2:x.den.length<=k)(hk:1<=k):Sz (qv x) k:=by unfold qv;by_cases h0:val x.den=0;{rw[h0,Rat.mkRat_zero];exact a8h.mono hk};refine b3W h0 ?_ ?_;{rw[a06];have:=wE w1;omega};have:=wE w2;omega
theorem a6Y(q:QQ):valid (vU q)=true:=by
 unfold vU;split;{rfl};rename_i h;have h1:q.num.natAbs≠0:=aj;have h2:q.den≠0:=q.den_nz;unfold valid;have hw:wd q.num.natAbs≠[]:=λe=>by have:=Ja h1;rw[e]at this;cases this
 rw[aB (λe=>hw e.1)];rw[Ja h1,Ja h2,rV,rV];have:=q.reduced;simpa using this
theorem a8B(q:QQ):sign (vU q)=0↔q=0:=by
 unfold sign;rw[a6Y];constructor
 ·intro h;by_cases h0:q.num=0;{exact Rat.num_eq_zero.1 h0};have hw:(vU q).num≠[]:=λe=>by unfold vU at e;rw[aB h0]at e;have:=Ja (n:=q.num.natAbs) aj;dsimp only at e;rw[e]at this;cases this
  rw[aG ⟨rfl,hw⟩]at h;split at h <;> cases h
 rintro rfl;rfl
theorem b5A{p q:QQ}{k l:Nat}(hp:Sz p k)(hq:Sz q l)(hk:k<=100000)(hl:l<=100000):ZQ 157 [(vU p).av,(vU q).av] [] (.int .i64 (sign (vU (p-q)))) []:=by have c1:=a7k hp hq hk hl;have hl:=SY (hp.sub hq);have c2:=(KR (vU (p-q)) aj aj).s;generalize sign (vU (p-q))=S at *;generalize vU (p-q)=R at *;refine ZN Tryz.func157 λhok=>?_;refine .zW c1 ?_;refine .zW c2 ?_;exact ZX
structure b3X(r:Rat):Prop where
 v:valid r=true
 w1:Ws r.num
 w2:Ws r.den
 l1:r.num.length<=50000
 l2:r.den.length<=50000
theorem UW(a b:Rat)(ha:b3X a)(hb:b3X b):ZQ 86 [a.av,b.av] [] (.bool (decide (a=b))) []:=by have e1:=Rn ha.v ha.w1 ha.w2;have e2:=Rn hb.v hb.w1 hb.w2;have s1:=b4F ha.w1 ha.w2 (k:=50000) ha.l1 ha.l2 au;have s2:=b4F hb.w1 hb.w2 (k:=50000) hb.l1 hb.l2 au;have hd:sign (vU (qv a-qv b))=0↔a=b:=(by rw[a8B];refine⟨λh=>?_,λh=>by rw[h];exact _root_.Rat.sub_self⟩;have h3:qv a-qv b+qv b=qv a:=_root_.Rat.sub_add_cancel;rw[h,_root_.Rat.zero_add]at h3;rw[e1,e2,h3]);have cc:=b5A s1 s2 au au;rw[<- e1,<- e2]at cc;generalize sign (vU (qv a-qv b))=S at *;refine ZN Tryz.func86 λhok=>?_;refine .zW cc ?_;refine ZE ?_ ?_;{exact(show S=0↔decide (a=b)=true by rw[lU];exact hd)};exact wk
inductive Tg where
 |ev (x:Ev)|hs (x:Hs)|gt (x:Mg)
abbrev Tg.av:Tg->AV
 | .ev x=>.ag [.cp x.av,.wo,.wo]
 | .hs x=>.ag [.wo,.cp x.av,.wo]
 | .gt x=>.ag [.wo,.wo,.cp x.av]
abbrev MT:=List (Str×Tg)
abbrev DR(es:MT):List (AV×AV):=es.map λe=>(.str e.1,e.2.av)
def BQ:MT->Str->Option Tg
 | [],_=>none
 |(y,v)::es,x=>if y=x then some v else BQ es x
theorem a6e{x y:Str}:Ut (.str x)=Ut (.str y)↔x=y:=by simp[Ut]
theorem LV{es:MT}{x:Str}{r:Tg}{z:AV}{k:AV->Prop}(hl:BQ es x=some r)(h:k (.uy [r.av,.tt])):FW (DR es) (.str x) λr=>DI true z r k:=by
 refine⟨some r.av,?_,h⟩;induction es with
 |nil=>simp[BQ]at hl
 |cons e es ih =>obtain⟨y,v⟩:=e;simp only[BQ]at hl;by_cases hy:y=x;{subst hy;rw[aG rfl]at hl;obtain rfl:=aW hl;exact⟨_,dD,rfl,rfl⟩};rw[aB hy]at hl;obtain⟨z,hz,h3,h4⟩:=ih hl;exact⟨z,by simp only[DR,dF,aU];exact .inr hz,h3,h4⟩
theorem Uf{es:MT}{x:Str}{z:AV}{k:AV->Prop}(hl:BQ es x=none)(h:k (.uy [z,.ff])):FW (DR es) (.str x) λr=>DI true z r k:=by
 refine⟨none,?_,h⟩;clear h;induction es with
 |nil=>intro z hz;simp[DR]at hz
 |cons e es ih =>obtain⟨y,v⟩:=e;simp only[BQ]at hl;by_cases hy:y=x;{subst hy;rw[aG rfl]at hl;cases hl};rw[aB hy]at hl;intro z hz;simp only[DR,dF,aU]at hz;rcases hz with rfl|hz;{exact λe=>hy (a6e.1 e)};exact ih hl z hz
theorem b3L{M:MT}{x:Str}{v:Tg}{V:AV}{k:List (AV×AV)->Prop}(hm:x ∉ M.map (·.1))(hV:V=v.av)(h:k (DR (M++[(x,v)]))):b1B (DR M) (.str x) V k:=by subst hV;refine⟨_,.inl ⟨λz hz e=>?_,rfl⟩,by simpa[DR]using h⟩;obtain⟨y,hy,rfl⟩:=bg.1 hz;exact hm (a6e.1 e ▸ bg.2 ⟨y,hy,rfl⟩)
theorem yN(n:Nat):∀M:MT,EZ n (DR M)=true
 | []=>rfl
 |(x,v)::M=>by have:=yN n M;cases v <;> exact this
def thE(m:Md):MT:=m.evs.map λx=>(x.name,.ev x)
def thH(m:Md):MT:=m.hs.map λx=>(x.name,.hs x)
def thG(m:Md):MT:=m.gates.map λx=>(x.name,.gt x)
def zl(m:Md):MT:=thE m++thH m++thG m
theorem a1h{α:Type}{A B:List α}(h:(A++B).Nodup){i:Nat}(hi:i<B.length):B[i] ∉ A++B.take i:=by have e:A++B=(A++B.take i)++B[i]::B.drop (i+1):=(by rw[bK,<- aZ hi,fH]);rw[e,fQ]at h;exact λhm=>h.2.2 _ hm _ dD rfl
theorem a3d(m:Md)(h1:m.evs.length<=1000)(h2:m.hs.length<=1000)(h3:m.gates.length<=1000)(hd:((zl m).map (·.1)).Nodup):ZQ 30 [m.av] [] (.mp 1) [(1,.tY (.str []) (DR (zl m))),(0,.gone)]:=by
 have hd1:((thE m++thH m).map (λe:Str×Tg=>e.1)).Nodup:=(by unfold zl at hd;rw[aV,fQ]at hd;exact hd.1);have hd0:(([]++thE m).map (λe:Str×Tg=>e.1)).Nodup:=(by rw[aV,fQ]at hd1;exact hd1.1);unfold zl thE thH thG at *;refine ZN Tryz.func30 λhok=>?_;have b45:((([]:MT)).map (λe:Str×Tg=>e.1)++(m.evs.map λx=>(x.name,Tg.ev x)).map (λe:Str×Tg=>e.1)).Nodup:=(by rw[<- aV];exact hd0);refine qW.of <| (qN.inv (.refl _ _) (λi:Nat=>i<=m.evs.length) (λi=>[(11,.int .i64 (i:Int))]) (λi=>[(1,.tY (.str []) (DR ((([]:MT))++(m.evs.map λx=>(x.name,Tg.ev x)).take i))),(0,.box m.av)]) (λi=>m.evs.length-i) 0 (aP _) ?_ ?_ ?_);{exact λ_=>rfl}
 ·refine Zv wk ?_;repeat' first|exact Zq|apply aI
  all_goals first|exact qP _|exact yN _ _|(rw[kC,iM];exact qP _)|skip
 rintro i hi _;refine ZS ?_ ?_<;>intro g
 ·have hlt:i<m.evs.length:=(by simpa using g);have hlt2:i<(m.evs.map λx=>(x.name,Tg.ev x)).length:=(by simpa using hlt);have hlt3:i<((m.evs.map λx=>(x.name,Tg.ev x)).map (λe:Str×Tg=>e.1)).length:=(by simpa using hlt);have hst:(([]:MT))++(m.evs.map λx=>(x.name,Tg.ev x)).take (i+1)=((([]:MT))++(m.evs.map λx=>(x.name,Tg.ev x)).take i)++[(m.evs[i].name,Tg.ev m.evs[i])]:=(by rw[eG,aH hlt2,bK];simp);have hnm:=a1h b45 hlt3;rw[<- gX,<- aV,show((m.evs.map λx=>(x.name,Tg.ev x)).map (λe:Str×Tg=>e.1))[i]=m.evs[i].name by simp]at hnm;refine ZW ?_;refine ZR ?_;refine sH hlt (ZW ?_);refine sH hlt ?_;generalize m.evs[i]=x at *;generalize (([]:MT))++(m.evs.map λx=>(x.name,Tg.ev x)).take i=M at *;refine ZW ?_;refine b3L (v:=Tg.ev x) hnm rfl ?_;rw[<- hst];refine ZW ?_;refine ZG ?_;refine⟨i+1,?_,?_,?_⟩;{exact hlt}
  ·refine Zv wk ?_;repeat' first|exact Zq|apply aI
   all_goals first|exact qP _|exact yN _ _
  omega
 have hg:¬i<m.evs.length:=(by simpa using g);have hk:i=(m.evs.map λx=>(x.name,Tg.ev x)).length:=(by rw[aC];omega);rw[hk,bn];clear hk g hi hg b45;rw[fE];refine ZW ?_;have b44:((m.evs.map λx=>(x.name,Tg.ev x)).map (λe:Str×Tg=>e.1)++(m.hs.map λx=>(x.name,Tg.hs x)).map (λe:Str×Tg=>e.1)).Nodup:=(by rw[<- aV];exact hd1);refine qW.of <| (qN.inv (.refl _ _) (λi:Nat=>i<=m.hs.length) (λi=>[(30,.int .i64 (i:Int))]) (λi=>[(1,.tY (.str []) (DR ((m.evs.map λx=>(x.name,Tg.ev x))++(m.hs.map λx=>(x.name,Tg.hs x)).take i))),(0,.box m.av)]) (λi=>m.hs.length-i) 0 (aP _) ?_ ?_ ?_);{exact λ_=>rfl}
 ·refine Zv wk ?_;repeat' first|exact Zq|apply aI
  all_goals first|exact qP _|exact yN _ _|(rw[kC,iM];exact qP _)|skip
 rintro i hi _;refine ZS ?_ ?_<;>intro g
 ·have hlt:i<m.hs.length:=(by simpa using g);have hlt2:i<(m.hs.map λx=>(x.name,Tg.hs x)).length:=(by simpa using hlt);have hlt3:i<((m.hs.map λx=>(x.name,Tg.hs x)).map (λe:Str×Tg=>e.1)).length:=(by simpa using hlt);have hst:(m.evs.map λx=>(x.name,Tg.ev x))++(m.hs.map λx=>(x.name,Tg.hs x)).take (i+1)=((m.evs.map λx=>(x.name,Tg.ev x))++(m.hs.map λx=>(x.name,Tg.hs x)).take i)++[(m.hs[i].name,Tg.hs m.hs[i])]:=(by rw[eG,aH hlt2,bK];simp);have hnm:=a1h b44 hlt3;rw[<- gX,<- aV,show((m.hs.map λx=>(x.name,Tg.hs x)).map (λe:Str×Tg=>e.1))[i]=m.hs[i].name by simp]at hnm;refine ZW ?_;refine ZR ?_;refine sH hlt (ZW ?_);refine sH hlt ?_;generalize m.hs[i]=x at *;generalize (m.evs.map λx=>(x.name,Tg.ev x))++(m.hs.map λx=>(x.name,Tg.hs x)).take i=M at *;refine ZW ?_;refine b3L (v:=Tg.hs x) hnm rfl ?_;rw[<- hst];refine ZW ?_;refine ZG ?_;refine⟨i+1,?_,?_,?_⟩;{exact hlt}
  ·refine Zv wk ?_;repeat' first|exact Zq|apply aI
   all_goals first|exact qP _|exact yN _ _
  omega
 have hg:¬i<m.hs.length:=(by simpa using g);have hk:i=(m.hs.map λx=>(x.name,Tg.hs x)).length:=(by rw[aC];omega);rw[hk,bn];clear hk g hi hg b44;refine ZW ?_;have b43:(((m.evs.map λx=>(x.name,Tg.ev x))++(m.hs.map λx=>(x.name,Tg.hs x))).map (λe:Str×Tg=>e.1)++(m.gates.map λx=>(x.name,Tg.gt x)).map (λe:Str×Tg=>e.1)).Nodup:=(by rw[<- aV];exact hd);refine qW.of <| (qN.inv (.refl _ _) (λi:Nat=>i<=m.gates.length) (λi=>[(49,.int .i64 (i:Int))]) (λi=>[(1,.tY (.str []) (DR (((m.evs.map λx=>(x.name,Tg.ev x))++(m.hs.map λx=>(x.name,Tg.hs x)))++(m.gates.map λx=>(x.name,Tg.gt x)).take i))),(0,.box m.av)]) (λi=>m.gates.length-i) 0 (aP _) ?_ ?_ ?_);{exact λ_=>rfl}
 ·refine Zv wk ?_;repeat' first|exact Zq|apply aI
  all_goals first|exact qP _|exact yN _ _|(rw[kC,iM];exact qP _)|skip
 rintro i hi _;refine ZS ?_ ?_<;>intro g
 ·have hlt:i<m.gates.length:=(by simpa using g);have hlt2:i<(m.gates.map λx=>(x.name,Tg.gt x)).length:=(by simpa using hlt);have hlt3:i<((m.gates.map λx=>(x.name,Tg.gt x)).map (λe:Str×Tg=>e.1)).length:=(by simpa using hlt);have hst:((m.evs.map λx=>(x.name,Tg.ev x))++(m.hs.map λx=>(x.name,Tg.hs x)))++(m.gates.map λx=>(x.name,Tg.gt x)).take (i+1)=(((m.evs.map λx=>(x.name,Tg.ev x))++(m.hs.map λx=>(x.name,Tg.hs x)))++(m.gates.map λx=>(x.name,Tg.gt x)).take i)++[(m.gates[i].name,Tg.gt m.gates[i])]:=(by rw[eG,aH hlt2,bK];simp);have hnm:=a1h b43 hlt3;rw[<- gX,<- aV,show((m.gates.map λx=>(x.name,Tg.gt x)).map (λe:Str×Tg=>e.1))[i]=m.gates[i].name by simp]at hnm;refine ZW ?_;refine ZR ?_;refine sH hlt (ZW ?_);refine sH hlt ?_;generalize m.gates[i]=x at *;generalize ((m.evs.map λx=>(x.name,Tg.ev x))++(m.hs.map λx=>(x.name,Tg.hs x)))++(m.gates.map λx=>(x.name,Tg.gt x)).take i=M at *;refine ZW ?_;refine b3L (v:=Tg.gt x) hnm rfl ?_;rw[<- hst];refine ZW ?_;refine ZG ?_;refine⟨i+1,?_,?_,?_⟩;{exact hlt}
  ·refine Zv wk ?_;repeat' first|exact Zq|apply aI
   all_goals first|exact qP _|exact yN _ _
  omega
 have hg:¬i<m.gates.length:=(by simpa using g);have hk:i=(m.gates.map λx=>(x.name,Tg.gt x)).length:=(by rw[aC];omega);rw[hk,bn];clear hk g hi hg b43;generalize (m.evs.map λx=>(x.name,Tg.ev x))++(m.hs.map λx=>(x.name,Tg.hs x))++(m.gates.map λx=>(x.name,Tg.gt x))=M at *;refine ZW ?_;refine ZE ?_ ?_;{exact wk};repeat' first|exact Zq|apply aI
 all_goals first|exact qP _|exact yN _ _
theorem a4y(a b:List Str)(ha:a.length<=1000000)(_:b.length<=1000000):ZQ 87 [sL a,sL b] [] (.bool (decide (a=b))) []:=by generalize hB:decide (a=b)=B;refine ZN Tryz.func87 λhok=>?_;constructor<;>intro g;{have hne:a≠b:=λe=>g (by rw[e]);obtain rfl:B=false:=(by rw[<- hB];exact bM hne);refine ZW ?_;exact ZX};have hl:a.length=b.length:=(by simp at g;omega);refine ZW ?_;refine qW.of <| (qN.inv (.refl _ _) (λi:Nat=>i<=a.length/\a.take i=b.take i) (λi=>[(13,.int .i64 (i:Int))]) (λ_=>[]) (λi=>a.length-i) 0 ⟨aP _,ak⟩ ?_ ?_ ?_);{exact λ_=>rfl};{exact ZV};rintro i ⟨hi,hall⟩ _;refine ZS ?_ ?_<;>intro k1;{have hlt:i<a.length:=(by simpa using k1);have hlt2:i<b.length:=aj;have s1:a.take (i+1)=a.take i++[a[i]]:=(by rw[eG,aH hlt];rfl);have s2:b.take (i+1)=b.take i++[b[i]]:=(by rw[eG,aH hlt2];rfl);have hin:a[i]≠b[i]->B=false:=λh=>(by rw[<- hB];exact bM λe=>h (by simp[e]));refine ZW ?_;refine ZR ?_;refine sH hlt (ZW ?_);refine sH hlt2 ?_;refine ZS ?_ ?_<;>intro k2;{obtain rfl:=hin k2;refine ZW ?_;exact ZX};refine ZW ?_;refine ZG ?_;refine⟨i+1,?_,?_,?_⟩;{refine⟨hlt,?_⟩;rw[s1,s2,hall,Classical.not_not.1 k2]};{exact ZV};omega};have hk:¬i<a.length:=(by simpa using k1);have he:a=b:=(by rw[bf aj,bf aj]at hall;exact hall);obtain rfl:B=true:=(by rw[<- hB];exact fC he);refine ZW ?_;exact ZX
def b3V:Tg->Prop
 | .ev x=>b3X x.p/\b3X x.fail/\b3X x.repair
 | .hs _=>True
 | .gt x=>b3X x.zi/\x.ins.length<=1000000
def FM:Tg->Tg->Prop
 | .ev x,.ev y=>x.p=y.p/\x.fail=y.fail/\x.repair=y.repair/\x.cost=y.cost
 | .hs x,.hs y=>x.on=y.on
 | .gt x,.gt y=>x.kind=y.kind/\x.k=y.k/\x.ins=y.ins/\x.zi=y.zi
 |_,_=>False
theorem a9W(x y:Ev)(hx:b3V (.ev x))(hy:b3V (.ev y))(b:Bool)(hb:b=true↔FM (.ev x) (.ev y)):ZQ 31 [(Tg.ev x).av,(Tg.ev y).av] [] (.bool b) []:=by
 have c1:=UW x.p y.p hx.1 hy.1;have c2:=UW x.fail y.fail hx.2.1 hy.2.1;have c3:=UW x.repair y.repair hx.2.2 hy.2.2;unfold FM at hb;obtain⟨nx,xp,xf,xr,xc⟩:=x;obtain⟨ny,yp,yf,yr,yc⟩:=y;dsimp only at *;refine ZN Tryz.func31 λhok=>?_;refine ZR ?_;refine ZW ?_;refine ZR ?_;by_cases e1:xp=yp;case neg =>
  obtain rfl:b=false:=jf.2 λh=>e1 (hb.1 h).1;refine .zW (c1.weak (R':=.ff) (by show decide _=false;exact bM e1)) ?_;exact ZX
 refine .zW (c1.weak (R':=.tt) (by show decide _=true;exact fC e1)) ?_;by_cases e2:xf=yf;case neg =>
  obtain rfl:b=false:=jf.2 λh=>e2 (hb.1 h).2.1;refine .zW (c2.weak (R':=.ff) (by show decide _=false;exact bM e2)) ?_;exact ZX
 refine .zW (c2.weak (R':=.tt) (by show decide _=true;exact fC e2)) ?_;by_cases e3:xr=yr;case neg =>
  obtain rfl:b=false:=jf.2 λh=>e3 (hb.1 h).2.2.1;refine .zW (c3.weak (R':=.ff) (by show decide _=false;exact bM e3)) ?_;exact ZX
 refine .zW (c3.weak (R':=.tt) (by show decide _=true;exact fC e3)) ?_;have hb4:(xc=yc)↔b=true:=⟨λh=>hb.2 ⟨e1,e2,e3,h⟩,λh=>(hb.1 h).2.2.2⟩;refine ZE ?_ ?_
 ·repeat' first|exact Zq|apply aI
  all_goals exact hb4
 exact wk
theorem a9Q(x y:Hs)(b:Bool)(hb:b=true↔FM (.hs x) (.hs y)):ZQ 31 [(Tg.hs x).av,(Tg.hs y).av] [] (.bool b) []:=by
 unfold FM at hb;obtain⟨nx,xo⟩:=x;obtain⟨ny,yo⟩:=y;dsimp only at *;refine ZN Tryz.func31 λhok=>?_;refine ZR ?_;refine ZW ?_;refine ZE ?_ ?_
 ·repeat' first|exact Zq|apply aI
  all_goals exact hb.symm
 exact wk
theorem a9T(x y:Mg)(hx:b3V (.gt x))(hy:b3V (.gt y))(b:Bool)(hb:b=true↔FM (.gt x) (.gt y)):ZQ 31 [(Tg.gt x).av,(Tg.gt y).av] [] (.bool b) []:=by
 have c1:=a4y x.ins y.ins hx.2 hy.2;have c2:=UW x.zi y.zi hx.1 hy.1;unfold FM at hb;obtain⟨nx,xk,xn,xi,xd⟩:=x;obtain⟨ny,yk,yn,yi,yd⟩:=y;dsimp only at *;refine ZN Tryz.func31 λhok=>?_;refine ZR ?_;refine ZW ?_;refine ZR ?_;refine⟨λe1=>?_,λe1=>?_⟩;case refine_2 =>
  obtain rfl:b=false:=jf.2 λh=>e1 (hb.1 h).1;refine ZW ?_;exact ZX
 refine ZS ?_ ?_<;>intro e2;case refine_2 =>
  obtain rfl:b=false:=jf.2 λh=>e2 (hb.1 h).2.1;refine ZW ?_;exact ZX
 refine ZW ?_;by_cases e3:xi=yi;case neg =>
  obtain rfl:b=false:=jf.2 λh=>e3 (hb.1 h).2.2.1;refine .zW (c1.weak (R':=.ff) (by show decide _=false;exact bM e3)) ?_;exact ZX
 refine .zW (c1.weak (R':=.tt) (by show decide _=true;exact fC e3)) ?_;by_cases e4:xd=yd;case neg =>
  obtain rfl:b=false:=jf.2 λh=>e4 (hb.1 h).2.2.2;refine .zW (c2.weak (R':=.ff) (by show decide _=false;exact bM e4)) ?_;exact ZX
 obtain rfl:b=true:=hb.2 ⟨e1,e2,e3,e4⟩;refine .zW (c2.weak (R':=.tt) (by show decide _=true;exact fC e4)) ?_;exact ZX
theorem a9X(x:Ev)(y:Hs):ZQ 31 [(Tg.ev x).av,(Tg.hs y).av] [] (.bool false) []:=by refine ZN Tryz.func31 λhok=>?_;exact ZX
theorem a9Y(x:Ev)(y:Mg):ZQ 31 [(Tg.ev x).av,(Tg.gt y).av] [] (.bool false) []:=by refine ZN Tryz.func31 λhok=>?_;exact ZX
theorem a9S(x:Hs)(y:Ev):ZQ 31 [(Tg.hs x).av,(Tg.ev y).av] [] (.bool false) []:=by refine ZN Tryz.func31 λhok=>?_;exact ZX
theorem a9R(x:Hs)(y:Mg):ZQ 31 [(Tg.hs x).av,(Tg.gt y).av] [] (.bool false) []:=by refine ZN Tryz.func31 λhok=>?_;exact ZX
theorem a9V(x:Mg)(y:Ev):ZQ 31 [(Tg.gt x).av,(Tg.ev y).av] [] (.bool false) []:=by refine ZN Tryz.func31 λhok=>?_;exact ZX
theorem a9U(x:Mg)(y:Hs):ZQ 31 [(Tg.gt x).av,(Tg.hs y).av] [] (.bool false) []:=by refine ZN Tryz.func31 λhok=>?_;exact ZX
theorem b1c(x y:Tg)(hx:b3V x)(hy:b3V y)(b:Bool)(hb:b=true↔FM x y):ZQ 31 [x.av,y.av] [] (.bool b) []:=by
 have hf:¬FM x y->b=false:=λh=>jf.2 λe=>h (hb.1 e);cases x with
 | ev x=>cases y with
   |ev y=>exact a9W x y hx hy b hb
   |hs y=>rw[hf id];exact a9X x y
   |gt y=>rw[hf id];exact a9Y x y
 | hs x=>cases y with
   |ev y=>rw[hf id];exact a9S x y
   |hs y=>exact a9Q x y b hb
   |gt y=>rw[hf id];exact a9R x y
 | gt x=>cases y with
   |ev y=>rw[hf id];exact a9V x y
   |hs y=>rw[hf id];exact a9U x y
   |gt y=>exact a9T x y hx hy b hb
def b70:Go.Shelf.Ren:=⟨λx=>match x with|190=>32|125=>89|258=>88|128=>167|129=>168|302=>158|303=>159|304=>160|305=>161|306=>162|307=>163|308=>164|309=>165|310=>166|333=>218|329=>219|330=>220|334=>221|335=>222|336=>223|344=>244|n=>n,λx=>match x with|31=>33|46=>167|51=>179|53=>184|183=>238|182=>237|131=>152|218=>280|222=>284|228=>292|229=>171|n=>n,λx=>x⟩
theorem b2t:Go.Proofs.Lays.n190 Tryz.prog b70 where
 mixed:=mixed
 f125:=by kernel_rfl
 f128:=by kernel_rfl
 f129:=by kernel_rfl
 f190:=by kernel_rfl
 f258:=by kernel_rfl
 f302:=by kernel_rfl
 f303:=by kernel_rfl
 f304:=by kernel_rfl
 f305:=by kernel_rfl
 f306:=by kernel_rfl
 f307:=by kernel_rfl
 f308:=by kernel_rfl
 f309:=by kernel_rfl
 f310:=by kernel_rfl
 f329:=by kernel_rfl
 f330:=by kernel_rfl
 f333:=by kernel_rfl
 f334:=by kernel_rfl
 f335:=by kernel_rfl
 f336:=by kernel_rfl
 f344:=by kernel_rfl
 t0:=by kernel_rfl
 a0:=λw=>by rfl
 z0:=λw=>by rfl
 v0:=λw=>by rfl
 t3:=by kernel_rfl
 a3:=λw=>by rfl
 z3:=λw=>by rfl
 v3:=λw=>by rfl
 t4:=by kernel_rfl
 a4:=λw=>by rfl
 z4:=λw=>by rfl
 v4:=λw=>by rfl
 t5:=by kernel_rfl
 a5:=λw=>by rfl
 z5:=λw=>by rfl
 v5:=λw=>by rfl
 t9:=by kernel_rfl
 a9:=λw=>by rfl
 z9:=λw=>by rfl
 v9:=λw=>by rfl
 t31:=by kernel_rfl
 a31:=λw=>by rfl
 z31:=λw=>by rfl
 v31:=λw=>by rfl
 t46:=by kernel_rfl
 a46:=λw=>by rfl
 z46:=λw=>by rfl
 v46:=λw=>by rfl
 t51:=by kernel_rfl
 a51:=λw=>by rfl
 z51:=λw=>by rfl
 v51:=λw=>by rfl
 t53:=by kernel_rfl
 a53:=λw=>by rfl
 z53:=λw=>by rfl
 v53:=λw=>by rfl
 t131:=by kernel_rfl
 a131:=λw=>by rfl
 z131:=λw=>by rfl
 v131:=λw=>by rfl
 t182:=by kernel_rfl
 a182:=λw=>by rfl
 z182:=λw=>by rfl
 v182:=λw=>by rfl
 t183:=by kernel_rfl
 a183:=λw=>by rfl
 z183:=λw=>by rfl
 v183:=λw=>by rfl
 t218:=by kernel_rfl
 a218:=λw=>by rfl
 z218:=λw=>by rfl
 v218:=λw=>by rfl
 t222:=by kernel_rfl
 a222:=λw=>by rfl
 z222:=λw=>by rfl
 v222:=λw=>by rfl
 t228:=by kernel_rfl
 a228:=λw=>by rfl
 z228:=λw=>by rfl
 v228:=λw=>by rfl
 t229:=by kernel_rfl
 a229:=λw=>by rfl
 z229:=λw=>by rfl
 v229:=λw=>by rfl
abbrev sortL(l:List Str):List Str:=l.mergeSort λx y=>decide (x<=y)
theorem a1X{c:Cx}:∀{l:List Str} {cs:List Value},Pq c 1 (l.map .str) cs->cs.take l.length=l.map Go.Proofs.encStr
 | [],_,_=>ak
 |s::l,cs,h=>by obtain⟨a,d,rfl,h1,h2,h3⟩:=h;simp only[Rd]at h2;obtain⟨rfl,h4⟩:=h2;simp[a1X h3,Go.Proofs.encStr]
theorem a8d{c:Cx}:∀{l:List Str} {cs:List Value},Pq c 1 (l.map .str) cs->∀s∈l,s.length<=maxL
 | [],_,_=>ak
 |s::l,cs,h=>by obtain⟨a,d,rfl,h1,h2,h3⟩:=h;simp only[Rd]at h2;intro t ht;rcases aU.1 ht with rfl|ht;{exact h2.2};exact a8d h3 t ht
theorem a8j{w:World}{Im:Nat->Nat->Prop}:∀{l:List Str},(∀s∈l,s.length<=maxL)->Jw w Im 1 (l.map .str) (l.map Go.Proofs.encStr)
 | [],_=>by simp[Jw]
 |s::l,h=>by refine⟨[Go.Proofs.encStr s],l.map Go.Proofs.encStr,rfl,rfl,?_,a8j λt ht=>h t (cZ _ ht)⟩;simp only[Rd];exact⟨trivial,h s dD⟩
theorem Yk{c:Cx}{l:List Str}{cs:List Value}(h:∀s∈l,s.length<=maxL)(h2:cs.take l.length=l.map Go.Proofs.encStr):Pq c 1 (l.map .str) cs:=by have:=Dc (c:=c) (sz:=1) (rest:=cs.drop l.length) (a8j (w:=c.w) (Im:=c.Im) h);rw[<- h2,fH]at this;exact this
theorem Tr.b7t{c:Cx}{H:Heap}{k sz:Nat}{l l':List AV}{w':World}{b:Nat}{cs cs':List Value}{ty:TypeId}(hr:HR c H)(ho:hget H k=some (.uH sz l))(g1:(c.tk k).1=some ⟨b,0,none⟩)
  (g2:c.w.heap[b]? = some (.cells cs.toArray ty)) (g3:cs.length=(c.tk k).2*sz) (g5:(c.tk k).2<=maxL) (g7:∀o,¬c.Im b o) (gr:c.w.grownBy w' (some b)) (hb:w'.heap[b]? = some (.cells cs'.toArray ty)) (hl:cs'.length=cs.length)
  (hn:l'.length=l.length) (hle:l'.length<=(c.tk k).2) (hR:Pq { c with w:=w',tp:=uj (hset H k (.uH sz l')) } sz l' cs'):Tr c H { c with w:=w',tp:=uj (hset H k (.uH sz l')) } (hset H k (.uH sz l')):=by
 have hbk:ru c (k,.uH sz l)=some b:=(by simp[ru,g1]);have htp:uj (hset H k (.uH sz l'))=uj H:=(by funext j;by_cases hj:j=k;{subst hj;rw[Vy ho,hn];unfold uj;rw[ho]};unfold uj;rw[DK hj]);have le:c.Le { c with w:=w',tp:=uj (hset H k (.uH sz l')) }:=(by refine⟨λb' o h=>⟨h,wX ?_⟩,aT _,λ_ _=>rfl,λj n _ h=>.inl ⟨?_,rfl⟩⟩;{refine gr.block b' (hr.im b' o h) λe=>?_;obtain rfl:=aW e;exact g7 o h};have h':uj (hset H k (.uH sz l')) j=some n:=h;rw[hr.tp,<- htp];exact h');refine Tr.set hr ho le rfl rfl (λ_ _=>rfl) gr.os gr.tape gr.output gr.size (λb' h1 h2=>gr.block b' h1 λe=>h2 (by rw[hbk];exact e.symm)) (λ_ _ h=>.inl h) (λb' h=>.inr (by rw[hbk];simp only[ru,g1]at h;exact h)) ?_;exact .inr ⟨b,cs',ty,g1,hb,by rw[hl];exact g3,hle,g5,hR,g7⟩
theorem Nq(l:List Str)(hl:l.length<=1000000):ZQ 32 [.gs 0 l.length] [(0,.uH 1 (l.map .str))] (.uy []) [(0,.uH 1 ((sortL l).map .str))]:=by refine⟨⟨_,b2t.f190,by kernel_rfl,by kernel_rfl⟩,λc vs hr hv=>?_⟩;obtain⟨v,rfl,hw⟩:∃v,vs=[v]/\EV c (.gs 0 l.length) v:=(by obtain⟨v,r,rfl,h1,rfl⟩:=hv;exact⟨v,rfl,h1⟩);have hV:VV c (.gs 0 (l.map AV.str).length) v:=(by rw[aC];exact hw);have ho:hget [(0,HO.uH 1 (l.map AV.str))] 0=some (.uH 1 (l.map .str)):=rfl;obtain⟨e,hj,hc1,hc2⟩:=Ji hr ho hV;subst e;rcases hr.EM ho with⟨g1,g2,g3⟩|⟨b,cs,ty,g1,g2,g3,g4,g5,g6,g7⟩;{have hl0:l=[]:=(by simpa using g3);subst hl0;refine Calls.mono (Go.Proofs.Any.slices_Sort_string_none b2t _ _ c.w) ?_;rintro e w' ⟨rfl,rfl⟩;have es:sortL []=[]:=ak;rw[es];exact⟨_,c,rfl,rfl,Tr.refl hr,PL⟩};rw[aC]at g4 ⊢;rw[g1];have hb0:b<c.w.heap.size:=(dG.1 g2).1;refine Calls.mono (Go.Proofs.Any.slices_Sort_string b2t b 0 _ l c.w (Go.holds_of_block g2 (a1X g6)) hb0 aj) ?_;rintro e w' ⟨rfl,n,os,rfl⟩;have hlen:(sortL l).length=l.length:=iT l;refine⟨_,_,rfl,rfl,Tr.b7t (l':=(sortL l).map .str) (cs':=(Go.Sort.putCells Go.Proofs.encStr 0 (sortL l).toArray cs.toArray).toList) hr ho g1 g2 g3 g5 g7 (Go.grownBy_sorted _) ?_ ?_ ?_ ?_ ?_,PL⟩;{rw[jc];exact Go.heap_sorted _ g2};{simp[Go.Sort.putCells]};{simp[hlen]};{simpa[hlen]using g4};refine Yk (λs hs=>a8d g6 s ((nK l _).mem_iff.1 hs)) ?_;exact Go.take_putCells cs.toArray (sortL l) (by rw[hlen];simpa using dI g4 aj)
end S