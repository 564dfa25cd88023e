/-
  Contracts of functions of the program. Nothing is assumed.
-/
import Derived.Test.YtdkhmfabhfgemaaGreatT9
open Go Go.AL Go.Proofs
namespace S
set_option maxRecDepth 100000
theorem a9X(h1c:YZ)(m:Md)(hX:MdX m)(hB:KJ m)(R:AV)(hR:R=.int .i64 (wB m)):ZQ 44 [m.av] [] R []:=by
 have ce:=λs=>G5 m s;have hgl:=hB.Bq;refine ZN Tryz.func44 λhok=>?_;constructor<;>intro h1;{have h1:8<m.Bq.length:=(by simp only[aC]at h1;omega);obtain rfl:R=.int .i64 4:=(by rw[hR,show wB m=4 from aG h1]);exact ZJ};have h1:¬8<m.Bq.length:=(by simp only[aC]at h1;omega);have hge:wB m=FB m 0 m.Bq []:=aB h1;refine ZW ?_;refine qV.of <| qM.inv (.grow 3 1 [] _ rfl (.inl ⟨rfl,rfl⟩) (.refl _ _)) (fun(s:Nat×List Str)=>s.1<=m.Bq.length/\FB m 0 m.Bq []=FB m s.1 (m.Bq.drop s.1) s.2/\s.2.length<=60*s.1)
  (λs=>[(23,.int .i64 s.1),(3,.sl 1 (s.2.map .str) (.own 1))]) (λs=>[(1,.tok 1 s.2.length),(0,.box m.av)]) (λs=>m.Bq.length-s.1) (0,[]) ?_ (λ_=>rfl) ?_ ?_
 ·exact⟨aO _,rfl,ak⟩
 ·exact Zv wk wk
 rintro⟨i,sp⟩ ⟨hi,hn,hs1⟩ _;dsimp only at hi hn hs1;refine ZS ?_ ?_<;>intro h
 ·have hlt:i<m.Bq.length:=(by simpa using h);have hml:=hB.mem _ (aQ hlt);have hfc:=hX.Bq _ (aQ hlt);rw[aZ hlt]at hn;simp only[FB]at hn;have bad:∀e:Int,e≠0->(yV m i m.Bq[i] sp).1=e->wB m=e:=(by intro e he h;rw[h,aG he]at hn;rw[hge,hn]);refine ZW ?_;refine rV hlt ?_;generalize hx0:m.Bq[i]=x at *;refine ZW ?_;refine .zW (G6 x.name) ?_;constructor<;>intro g1;{have g1:tZ x.name=false:=(by simpa using g1);obtain rfl:R=.int .i64 5:=(by rw[hR,bad 5 au (by unfold yV;rw[aG g1])]);exact ZJ};have g1:¬tZ x.name=false:=(by simpa using g1);refine ZW ?_;refine⟨⟨ak,ak,aA⟩,?_⟩;rw[b6x];refine ZW ?_;refine qV.of <| qM.inv (.refl _ _) (fun(q:Nat)=>q<=i/\∀(y:Nat) (hy:y<m.Bq.length),y<q->m.Bq[y].name≠x.name) (fun(q:Nat)=>[(37,.int .i64 q)]) (λ_=>_) (fun(q:Nat)=>i-q) 0 ?_ (λ_=>rfl) ?_ ?_;{exact⟨aO _,aj⟩};{exact wk};rintro q ⟨hq,hnq⟩ _;refine ZS ?_ ?_<;>intro hz;{have Dq:q<(m.Bq.take i).length:=(by simpa using hz);have hqi:q<i:=(by rw[bD]at Dq;omega);have hqe:(m.Bq.take i)[q]=m.Bq[q]' aj:=lI;refine ZW ?_;refine rV Dq ?_;rw[hqe];refine ZS ?_ ?_<;>intro he;{have g2:zG (λy=>decide (y.name=x.name)) m.Bq<i:=(by have:=(Qd (p:=λy=>decide (y.name=x.name)) (l:=m.Bq) (k:=q) aj (by simpa using he)).2;omega);obtain rfl:R=.int .i64 6:=(by rw[hR,bad 6 au (by unfold yV;rw[aB g1,aG g2])]);exact ZJ};refine ZW ?_;refine ZG ?_;refine⟨q+1,?_,?_,?_⟩;{refine⟨hqi,λy hy hyq=>?_⟩;by_cases b2e:y=q;{subst b2e;exact he};exact hnq y hy aj};{exact Zv wk wk};omega};have Dq:q=i:=(by have:¬q<(m.Bq.take i).length:=(by simpa using hz);rw[bD]at this;omega);have g2:¬zG (λy=>decide (y.name=x.name)) m.Bq<i:=(by rw[wQ (p:=λy=>decide (y.name=x.name)) hlt (by simp[hx0]) λy hy=>by simpa using hnq y aj aj];omega);clear hz Dq hnq hq;refine ZS ?_ ?_<;>intro k0
  ·refine ZS ?_ ?_<;>intro k1;{obtain rfl:R=.int .i64 7:=(by rw[hR,bad 7 au (by unfold yV;rw[aB g1,aB g2,aG ⟨k0,k1⟩])]);exact ZJ};have k1:x.kind=1:=aj;have g3:¬(x.kind≠0/\x.kind≠1):=λh=>h.2 k1;refine ZW ?_;refine aP (λ_=>?_) (λh=>absurd k1 h);refine ZW ?_;refine ZR ?_;refine⟨rQ aA aA,?_⟩;rw[show((x.mem.map AV.str).length:Int)=(x.mem.length:Int) by simp];have e1:(if x.kind=1 then(4:Int)else 24)=4:=aG k1;have e2:(if x.kind=1 then(x.mem.length:Int)-1 else 1)=(x.mem.length:Int)-1:=aG k1;refine ZS ?_ ?_<;>intro g4;{have g4:x.mem.length<2:=(by simp only[aC]at g4;omega);obtain rfl:R=.int .i64 11:=(by rw[hR,bad 11 au (by unfold yV;rw[aB g1,aB g2,aB g3,aG g4])]);exact ZJ};have g4:¬x.mem.length<2:=(by simp only[aC]at g4;omega);refine ZS ?_ ?_<;>intro g5;{rw[show((x.mem.map AV.str).length:Int)=(x.mem.length:Int) by simp,<- e1]at g5;obtain rfl:R=.int .i64 11:=(by rw[hR,bad 11 au (by unfold yV;rw[aB g1,aB g2,aB g3,aB g4,aG g5])]);exact ZJ};rw[show((x.mem.map AV.str).length:Int)=(x.mem.length:Int) by simp,<- e1]at g5;refine ZS ?_ ?_<;>intro g6;{rw[show((x.ES.map Rat.av).length:Int)=(x.ES.length:Int) by simp,<- e2]at g6;obtain rfl:R=.int .i64 11:=(by rw[hR,bad 11 au (by unfold yV;rw[aB g1,aB g2,aB g3,aB g4,aB g5,aG g6])]);exact ZJ};rw[show((x.ES.map Rat.av).length:Int)=(x.ES.length:Int) by simp,<- e2]at g6;have hgr:yV m i x sp=if(wG m x.mem sp).1≠0 then wG m x.mem sp else if(x.ES.any λf=>!yH f)=true then(3,[])else wG m x.mem sp:=(by unfold yV;rw[aB g1,aB g2,aB g3,aB g4,aB g5,aB g6]);refine ZW ?_;refine qV.of <| qM.inv (.refl _ _) (fun(s:Nat×List Str)=>s.1<=x.mem.length/\wG m x.mem sp=wG m (x.mem.drop s.1) s.2/\s.2.length<=sp.length+s.1)
    (λs=>[(83,.int .i64 s.1),(3,.sl 1 (s.2.map .str) (.own 1))]) (λs=>[(2,.box x.av),(1,.tok 1 s.2.length),(0,.box m.av)]) (λs=>x.mem.length-s.1) (0,sp) ?_ (λ_=>rfl) ?_ ?_
   ·exact⟨aO _,rfl,ak⟩
   ·exact Zv wk wk
   rintro⟨j,s2⟩ ⟨hj,sZ,hs2⟩ _;dsimp only at hj sZ hs2;refine ZS ?_ ?_<;>intro hh
   ·have hjl:j<x.mem.length:=(by simpa using hh);rw[aZ hjl]at sZ;simp only[wG]at sZ;refine ZW ?_;refine rV hjl ?_;generalize x.mem[j]=y at *;refine ZW ?_;refine .zW (ce y) ?_;constructor<;>intro q1;{rw[aG q1]at sZ;obtain rfl:R=.int .i64 5:=(by rw[hR,bad 5 au (by rw[hgr,sZ];rfl)]);exact ZJ};rw[aB q1]at sZ;refine ZW ?_;refine qV.of <| qM.inv (.refl _ _) (fun(q:Nat)=>q<=s2.length/\∀(z:Nat) (hz:z<s2.length),z<q->s2[z]≠y) (fun(q:Nat)=>[(93,.int .i64 q)]) (λ_=>_) (fun(q:Nat)=>s2.length-q) 0 ?_ (λ_=>rfl) ?_ ?_;{exact⟨aO _,aj⟩};{exact wk};rintro q ⟨hq,hnq⟩ _;refine ZS ?_ ?_<;>intro hz;{have Dq:q<s2.length:=(by simpa using hz);refine ZW ?_;refine rV Dq ?_;refine ZS ?_ ?_<;>intro he;{rw[aG (O8 Dq he)]at sZ;obtain rfl:R=.int .i64 6:=(by rw[hR,bad 6 au (by rw[hgr,sZ];rfl)]);exact ZJ};refine ZW ?_;refine ZG ?_;refine⟨q+1,?_,?_,?_⟩;{refine⟨Dq,λz hz hzq=>?_⟩;by_cases b2d:z=q;{subst b2d;exact he};exact hnq z hz aj};{exact Zv wk wk};omega};have Dq:q=s2.length:=(by have:¬q<s2.length:=(by simpa using hz);omega);subst Dq;rw[aB (by rw[L6 λz hz _=>hnq z hz hz];simp)]at sZ;clear hz;refine ZW ?_;refine⟨by rw[aC],.mk (by simp[maxL];omega) aA (ZW ?_)⟩;refine ZG ?_;refine⟨(j+1,s2++[y]),?_,?_,?_⟩;{exact⟨hjl,sZ,by show(s2++[y]).length<=sp.length+(j+1);simp;omega⟩}
    ·refine Zv ?_ ?_
     ·repeat' first|exact Zq|apply aI
      all_goals first|(refine qY ?_;simp[strip];done)|(simp;done)|(simp;omega)
     repeat' first|exact Zq|apply aI
     all_goals first|(refine qY ?_;simp[strip];done)|(simp;done)|(simp;omega)
    show x.mem.length-(j+1)<x.mem.length-j;omega
   have hjl:j=x.mem.length:=(by have:¬j<x.mem.length:=(by simpa using hh);omega);rw[aX aj]at sZ;simp only[wG]at sZ;rw[sZ,aB ak]at hgr;clear hh;refine ZW ?_;refine qV.of <| qM.inv (.refl _ _) (fun(q:Nat)=>q<=x.ES.length/\∀(z:Nat) (hz:z<x.ES.length),z<q->yH x.ES[z]=true) (fun(q:Nat)=>[(109,.int .i64 q)]) (λ_=>_) (fun(q:Nat)=>x.ES.length-q) 0 ?_ (λ_=>rfl) ?_ ?_;{exact⟨aO _,aj⟩};{exact wk};rintro q ⟨hq,hnq⟩ _;refine ZS ?_ ?_<;>intro hz;{have Dq:q<x.ES.length:=(by simpa using hz);have hp:=LU h1c _ (hfc _ (aQ Dq));refine ZW ?_;refine rV Dq (ZW ?_);refine .zW hp ?_;constructor<;>intro q3;{rw[aG (iD.2 ⟨_,aQ Dq,by simpa using q3⟩)]at hgr;obtain rfl:R=.int .i64 3:=(by rw[hR,bad 3 au (by rw[hgr])]);exact ZJ};refine ZW ?_;refine ZG ?_;refine⟨q+1,?_,?_,?_⟩;{refine⟨Dq,λz hz hzq=>?_⟩;by_cases b2d:z=q;{subst b2d;simpa using q3};exact hnq z hz aj};{exact Zv wk wk};omega};have Dq:q=x.ES.length:=(by have:¬q<x.ES.length:=(by simpa using hz);omega);subst Dq;rw[aB (by
    rw[oD,kH];intro f hf;obtain⟨z,hz,rfl⟩:=dX hf;simp[hnq z hz hz])]at hgr
   rw[hgr,aB ak]at hn;refine ZW ?_;refine ZG ?_;refine⟨(i+1,s2),?_,?_,?_⟩;{exact⟨hlt,hn,by show s2.length<=60*(i+1);omega⟩};{exact Zv wk wk};show m.Bq.length-(i+1)<m.Bq.length-i;omega
  have k0:x.kind=0:=aj;have g3:¬(x.kind≠0/\x.kind≠1):=λh=>h.1 k0;refine ZW ?_;refine aP (λh=>by exfalso;omega) (λh1=>?_);have e1:(if x.kind=1 then(4:Int)else 24)=24:=aB h1;have e2:(if x.kind=1 then(x.mem.length:Int)-1 else 1)=1:=aB h1;refine ZS ?_ ?_<;>intro g4;{have g4:x.mem.length<2:=(by simp only[aC]at g4;omega);obtain rfl:R=.int .i64 11:=(by rw[hR,bad 11 au (by unfold yV;rw[aB g1,aB g2,aB g3,aG g4])]);exact ZJ};have g4:¬x.mem.length<2:=(by simp only[aC]at g4;omega);refine ZS ?_ ?_<;>intro g5;{rw[show((x.mem.map AV.str).length:Int)=(x.mem.length:Int) by simp,<- e1]at g5;obtain rfl:R=.int .i64 11:=(by rw[hR,bad 11 au (by unfold yV;rw[aB g1,aB g2,aB g3,aB g4,aG g5])]);exact ZJ};rw[show((x.mem.map AV.str).length:Int)=(x.mem.length:Int) by simp,<- e1]at g5;refine ZS ?_ ?_<;>intro g6;{rw[show((x.ES.map Rat.av).length:Int)=(x.ES.length:Int) by simp,<- e2]at g6;obtain rfl:R=.int .i64 11:=(by rw[hR,bad 11 au (by unfold yV;rw[aB g1,aB g2,aB g3,aB g4,aB g5,aG g6])]);exact ZJ};rw[show((x.ES.map Rat.av).length:Int)=(x.ES.length:Int) by simp,<- e2]at g6;have hgr:yV m i x sp=if(wG m x.mem sp).1≠0 then wG m x.mem sp else if(x.ES.any λf=>!yH f)=true then(3,[])else wG m x.mem sp:=(by unfold yV;rw[aB g1,aB g2,aB g3,aB g4,aB g5,aB g6]);refine ZW ?_;refine qV.of <| qM.inv (.refl _ _) (fun(s:Nat×List Str)=>s.1<=x.mem.length/\wG m x.mem sp=wG m (x.mem.drop s.1) s.2/\s.2.length<=sp.length+s.1)
   (λs=>[(83,.int .i64 s.1),(3,.sl 1 (s.2.map .str) (.own 1))]) (λs=>[(2,.box x.av),(1,.tok 1 s.2.length),(0,.box m.av)]) (λs=>x.mem.length-s.1) (0,sp) ?_ (λ_=>rfl) ?_ ?_
  ·exact⟨aO _,rfl,ak⟩
  ·exact Zv wk wk
  rintro⟨j,s2⟩ ⟨hj,sZ,hs2⟩ _;dsimp only at hj sZ hs2;refine ZS ?_ ?_<;>intro hh
  ·have hjl:j<x.mem.length:=(by simpa using hh);rw[aZ hjl]at sZ;simp only[wG]at sZ;refine ZW ?_;refine rV hjl ?_;generalize x.mem[j]=y at *;refine ZW ?_;refine .zW (ce y) ?_;constructor<;>intro q1;{rw[aG q1]at sZ;obtain rfl:R=.int .i64 5:=(by rw[hR,bad 5 au (by rw[hgr,sZ];rfl)]);exact ZJ};rw[aB q1]at sZ;refine ZW ?_;refine qV.of <| qM.inv (.refl _ _) (fun(q:Nat)=>q<=s2.length/\∀(z:Nat) (hz:z<s2.length),z<q->s2[z]≠y) (fun(q:Nat)=>[(93,.int .i64 q)]) (λ_=>_) (fun(q:Nat)=>s2.length-q) 0 ?_ (λ_=>rfl) ?_ ?_;{exact⟨aO _,aj⟩};{exact wk};rintro q ⟨hq,hnq⟩ _;refine ZS ?_ ?_<;>intro hz;{have Dq:q<s2.length:=(by simpa using hz);refine ZW ?_;refine rV Dq ?_;refine ZS ?_ ?_<;>intro he;{rw[aG (O8 Dq he)]at sZ;obtain rfl:R=.int .i64 6:=(by rw[hR,bad 6 au (by rw[hgr,sZ];rfl)]);exact ZJ};refine ZW ?_;refine ZG ?_;refine⟨q+1,?_,?_,?_⟩;{refine⟨Dq,λz hz hzq=>?_⟩;by_cases b2d:z=q;{subst b2d;exact he};exact hnq z hz aj};{exact Zv wk wk};omega};have Dq:q=s2.length:=(by have:¬q<s2.length:=(by simpa using hz);omega);subst Dq;rw[aB (by rw[L6 λz hz _=>hnq z hz hz];simp)]at sZ;clear hz;refine ZW ?_;refine⟨by rw[aC],.mk (by simp[maxL];omega) aA (ZW ?_)⟩;refine ZG ?_;refine⟨(j+1,s2++[y]),?_,?_,?_⟩;{exact⟨hjl,sZ,by show(s2++[y]).length<=sp.length+(j+1);simp;omega⟩}
   ·refine Zv ?_ ?_
    ·repeat' first|exact Zq|apply aI
     all_goals first|(refine qY ?_;simp[strip];done)|(simp;done)|(simp;omega)
    repeat' first|exact Zq|apply aI
    all_goals first|(refine qY ?_;simp[strip];done)|(simp;done)|(simp;omega)
   show x.mem.length-(j+1)<x.mem.length-j;omega
  have hjl:j=x.mem.length:=(by have:¬j<x.mem.length:=(by simpa using hh);omega);rw[aX aj]at sZ;simp only[wG]at sZ;rw[sZ,aB ak]at hgr;clear hh;refine ZW ?_;refine qV.of <| qM.inv (.refl _ _) (fun(q:Nat)=>q<=x.ES.length/\∀(z:Nat) (hz:z<x.ES.length),z<q->yH x.ES[z]=true) (fun(q:Nat)=>[(109,.int .i64 q)]) (λ_=>_) (fun(q:Nat)=>x.ES.length-q) 0 ?_ (λ_=>rfl) ?_ ?_;{exact⟨aO _,aj⟩};{exact wk};rintro q ⟨hq,hnq⟩ _;refine ZS ?_ ?_<;>intro hz;{have Dq:q<x.ES.length:=(by simpa using hz);have hp:=LU h1c _ (hfc _ (aQ Dq));refine ZW ?_;refine rV Dq (ZW ?_);refine .zW hp ?_;constructor<;>intro q3;{rw[aG (iD.2 ⟨_,aQ Dq,by simpa using q3⟩)]at hgr;obtain rfl:R=.int .i64 3:=(by rw[hR,bad 3 au (by rw[hgr])]);exact ZJ};refine ZW ?_;refine ZG ?_;refine⟨q+1,?_,?_,?_⟩;{refine⟨Dq,λz hz hzq=>?_⟩;by_cases b2d:z=q;{subst b2d;simpa using q3};exact hnq z hz aj};{exact Zv wk wk};omega};have Dq:q=x.ES.length:=(by have:¬q<x.ES.length:=(by simpa using hz);omega);subst Dq;rw[aB (by
   rw[oD,kH];intro f hf;obtain⟨z,hz,rfl⟩:=dX hf;simp[hnq z hz hz])]at hgr
  rw[hgr,aB ak]at hn;refine ZW ?_;refine ZG ?_;refine⟨(i+1,s2),?_,?_,?_⟩;{exact⟨hlt,hn,by show s2.length<=60*(i+1);omega⟩};{exact Zv wk wk};show m.Bq.length-(i+1)<m.Bq.length-i;omega
 have hil:i=m.Bq.length:=(by have:¬i<m.Bq.length:=(by simpa using h);omega);rw[aX aj]at hn;simp only[FB]at hn;rw[hge,hn]at hR;subst hR;exact ZJ
def NP(m:Md):Nat->Nat
 | 0=>0
 |k+1=>NP m k+(qN m ((k:Int)-1)).length
def A8(m:Md)(x:Node):Int:=x.2.2+NP m (x.2.1+1).toNat
theorem a09{m:Md}(hB:KJ m):∀{k:Nat},k<=m.pages.length+1->NP m k<=100*k
 | 0,_=>by simp[NP]
 |k+1,h=>by have:=a09 hB (k:=k) aj;have h2:=(hB.qN (a:=(k:Int)-1) aj).1;simp only[NP];omega
theorem XL(m:Md)(hB:KJ m)(x:Node)(ha:x.2.1 = -1\/(0<=x.2.1/\x.2.1<(m.pages.length:Int)))(hi:0<=x.2.2/\x.2.2<1000000):ZQ 132 [m.av,.int .i64 x.2.1,.int .i64 x.2.2] [] (.int .i64 (A8 m x)) []:=by
 obtain⟨xk,a,i⟩:=x;dsimp only at ha hi ⊢;have hpl:=hB.pages;obtain⟨K,hK⟩:∃K:Nat,(K:Int)=a+1:=⟨(a+1).toNat,aj⟩;have hnum:A8 m (xk,a,i)=i+(NP m K:Nat):=(by unfold A8;dsimp only;rw[show(a+1).toNat=K from by omega]);rw[hnum];have haK:a=(K:Int)-1:=aj;subst haK;refine ZN Tryz.func132 λhok=>?_;refine qV.of <| qM.inv (.refl _ _) (fun(k:Nat)=>k<=K) (fun(k:Nat)=>[(8,.int .i64 ((k:Int)-1)),(7,.int .i64 (i+(NP m k:Nat)))]) (λ_=>_) (fun(k:Nat)=>K-k) 0 ?_ (λ_=>rfl) ?_ ?_;{exact aO _}
 ·repeat' first|exact Zq|apply aI
  all_goals first|(simp[NP];done)|skip
 rintro k hk _;refine ZS ?_ ?_<;>intro h
 ·have hkl:k<K:=aj;have hak:(k:Int)-1 = -1\/(0<=(k:Int)-1/\(k:Int)-1<(m.pages.length:Int)):=aj;have ho:=a09 hB (k:=k+1) aj;have hs:NP m (k+1)=NP m k+(qN m ((k:Int)-1)).length:=rfl;refine ZW ?_;refine .zW (DT m _ hak) ?_;refine⟨rQ aA aA,ZW ?_⟩;refine ZG ?_;refine⟨k+1,?_,?_,?_⟩;{exact hkl}
  ·rw[hs];refine Zv ?_ ?_
   ·repeat' first|exact Zq|apply aI
    all_goals (show(_:Int)=_;first|omega|(rw[aC];omega))
   exact wk
  omega
 have hkl:k=K:=aj;subst hkl;exact ZJ
def Kw(m:Md)(a:Int)(l:List Str):List Int:=((l.map (uF m a)).filter λx=>decide (x.1=2)).map (A8 m)
def Gx(m:Md)(x:Node):List Int:=Kw m x.2.1 (rP m x).ins
def xg(m:Md):List (List Int):=(rD m).map (Gx m)
theorem a3F{m:Md}{a:Int}{s:Str}{l:List Str}:Kw m a (s::l)=if(uF m a s).1=2 then A8 m (uF m a s)::Kw m a l else Kw m a l:=by unfold Kw;rw[dF,kN];by_cases h:(uF m a s).1=2;{rw[aG h,aG (by simpa using h),dF]};rw[aB h,aB (by simpa using h)]
abbrev zL(l:List Int):AV:=.sl 1 (l.map (AV.int .i64)) .no
abbrev uL(l:List (List Int)):AV:=.sl 1 (l.map zL) .no
theorem OW{m:Md}{a:Int}{s:Str}(ha:a = -1\/(0<=a/\a<(m.pages.length:Int)))(h:(uF m a s).1=2):uF m a s∈rD m:=by
 have key:∀b t,(b = -1\/(0<=b/\b<(m.pages.length:Int)))->(zX m b t).1=2->zX m b t∈rD m:=by intro b t hb h;unfold zX at h ⊢;by_cases h1:0<=sH m.evs t;{rw[aG h1]at h;cases h};rw[aB h1]at h ⊢;by_cases h2:0<=uM m.hs t;{rw[aG h2]at h;cases h};rw[aB h2]at h ⊢;by_cases h3:0<=uU (qN m b) t;{rw[aG h3];exact uK.2 ⟨rfl,hb,h3,ED _ _⟩};rw[aB h3]at h;cases h
 unfold uF at h ⊢;by_cases h1:Ed s=true;{rw[aG h1]at h ⊢;by_cases h2:tK m.pages (s.drop 1)<0;{rw[aG h2]at h;cases h};rw[aB h2]at h ⊢;exact key _ _ (.inr ⟨aj,ED _ _⟩) h};rw[aB h1]at h ⊢;exact key _ _ ha h
theorem b0R(m:Md)(hB:KJ m)(ht:∀p:Int,0<=p->p<(m.pages.length:Int)->Ed (tu m p)=false)(R:AV)(hR:R=uL (xg m)):ZQ 103 [m.av] [] R []:=by
 have hpl:=hB.pages;refine ZN Tryz.func103 λhok=>?_;refine qV.of <| qM.inv (.grow 3 1 [] _ rfl (.inl ⟨rfl,rfl⟩) (.refl _ _)) (fun(q:Nat×List (List Int))=>q.1<=m.pages.length+1/\q.2++(wO m q.1).map (Gx m)=xg m/\q.2.length<=100*q.1)
  (λq=>[(4,.int .i64 ((q.1:Int)-1)),(3,.sl 1 (q.2.map zL) (.own 1))]) (λq=>[(1,.tok 1 q.2.length),(0,.box m.av)]) (λq=>m.pages.length+1-q.1) (0,[]) ?_ (λ_=>rfl) ?_ ?_
 ·exact⟨aO _,rfl,ak⟩
 ·exact Zv wk wk
 rintro⟨k,us⟩ ⟨hk,hn,hu⟩ _;dsimp only at hk hn hu;refine ZS ?_ ?_<;>intro h
 ·have hkl:k<m.pages.length+1:=(by simp only[aC]at h;omega);have ha:(k:Int)-1 = -1\/(0<=(k:Int)-1/\(k:Int)-1<(m.pages.length:Int)):=aj;have hBa:=hB.qN ha;have cG:=DT m _ ha;have cF:=λs=>XV m _ s ha ht;have hfg:=λs=>OW (m:=m) (s:=s) ha;have hNl:=λi (h:i<(qN m ((k:Int)-1)).length)=>yj? (H8 (m:=m) (a:=(k:Int)-1) h);have hga:∀(i:Nat) (h:i<(qN m ((k:Int)-1)).length),Gx m (2,(k:Int)-1,(i:Int))=Kw m ((k:Int)-1) (qN m ((k:Int)-1))[i].ins:=(by intro i h;unfold Gx rP;dsimp only;rw[aJ,aF,aH h];rfl);rw[Ba hkl]at hn;clear h;generalize hrest:wO m (k+1)=rest at *;have hle:=EM m ((k:Int)-1);generalize b6p:(k:Int)-1=a at *;generalize b7H:y7 m a=nod at *;generalize hgs:qN m a=gs at *;refine ZW ?_;refine .zP cG λb2i=>?_;refine ZW ?_;refine qV.of <| qM.inv (.refl _ _) (fun(q:Nat×List (List Int))=>q.1<=gs.length/\q.2++(nod.drop q.1++rest).map (Gx m)=xg m/\q.2.length<=us.length+q.1)
   (λq=>[(24,.int .i64 q.1),(3,.sl 1 (q.2.map zL) (.own 1))]) (λq=>[(1,.tok 1 q.2.length),(0,.box m.av)]) (λq=>gs.length-q.1) (0,us) ?_ (λ_=>rfl) ?_ ?_
  ·exact⟨aO _,hn,ak⟩
  ·exact Zv wk wk
  rintro⟨i,u1⟩ ⟨hi,hni,hu1⟩ _;dsimp only at hi hni hu1;refine ZS ?_ ?_<;>intro h
  ·have hlt:i<gs.length:=(by simpa using h);have hxi:=hBa.2 _ (aQ hlt);rw[hNl i hlt,eX,dF,hga i hlt]at hni;refine ZW ?_;refine rV hlt ?_;generalize gs[i]=g at *;refine ZW ?_;refine qV.of <| qM.inv (.grow 7 1 [] _ rfl (.inl ⟨rfl,rfl⟩) (.refl _ _)) (fun(q:Nat×List Int)=>q.1<=g.ins.length/\q.2++Kw m a (g.ins.drop q.1)=Kw m a g.ins/\q.2.length<=q.1)
    (λq=>[(31,.int .i64 q.1),(7,.sl 1 (q.2.map (AV.int .i64)) (.own 3))]) (λq=>[(3,.tok 1 q.2.length),(2,.box g.av),(1,.tok 1 u1.length),(0,.box m.av)]) (λq=>g.ins.length-q.1) (0,[]) ?_ (λ_=>rfl) ?_ ?_
   ·exact⟨aO _,rfl,ak⟩
   ·exact Zv wk wk
   rintro⟨j,l⟩ ⟨hj,sZ,hl⟩ _;dsimp only at hj sZ hl;refine ZS ?_ ?_<;>intro hh
   ·have hjl:j<g.ins.length:=(by simpa using hh);rw[aZ hjl,a3F]at sZ;refine ZW ?_;refine rV hjl ?_;generalize g.ins[j]=x at *;have hfg:=hfg x;have cF:=cF x;generalize uF m a x=y at *;obtain⟨y1,y2,y3⟩:=y;refine ZW ?_;refine .zW cF ?_;constructor<;>intro g1
    ·obtain⟨_,hy2,hy3,hy4⟩:=uK.1 (hfg g1);have hb4:=(hB.qN hy2).1;have cN:=XL m hB (y1,y2,y3) hy2 ⟨hy3,by show y3<1000000;have:y3<((qN m y2).length:Int):=hy4;have:(qN m y2).length<=100:=hb4;omega⟩;rw[aG g1]at sZ;generalize A8 m (y1,y2,y3)=z at *;refine ZW ?_;refine .zW cN ?_;refine⟨by rw[aC],.mk (by simp[maxL];omega) aA (ZW ?_)⟩;refine ZG ?_;refine⟨(j+1,l++[z]),?_,?_,?_⟩;{exact⟨hjl,by rw[<- sZ];simp,by show(l++[z]).length<=j+1;simp;omega⟩}
     ·refine Zv ?_ ?_
      ·repeat' first|exact Zq|apply aI
       all_goals first|(refine qY ?_;simp[strip];done)|(simp;done)|(simp;omega)
      repeat' first|exact Zq|apply aI
      all_goals first|(refine qY ?_;simp[strip];done)|(simp;done)|(simp;omega)
     show g.ins.length-(j+1)<g.ins.length-j;omega
    rw[aB g1]at sZ;refine ZW ?_;refine ZG ?_;refine⟨(j+1,l),?_,?_,?_⟩;{exact⟨hjl,sZ,by show l.length<=j+1;omega⟩};{exact Zv wk wk};show g.ins.length-(j+1)<g.ins.length-j;omega
   have hjl:j=g.ins.length:=(by have:¬j<g.ins.length:=(by simpa using hh);omega);subst hjl;rw[iY,show Kw m a []=[]from rfl,iT]at sZ;subst sZ;generalize Kw m a g.ins=l at *;refine ZW ?_;refine⟨by rw[aC],.mk (by simp[maxL];omega) aA (ZW ?_)⟩;refine ZG ?_;refine⟨(i+1,u1++[l]),?_,?_,?_⟩;{exact⟨hlt,by rw[<- hni];simp,by show(u1++[l]).length<=us.length+(i+1);simp;omega⟩}
   ·refine Zv ?_ ?_
    ·repeat' first|exact Zq|apply aI
     all_goals first|(refine qY ?_;simp[strip];done)|(simp;done)|(simp;omega)
    repeat' first|exact Zq|apply aI
    all_goals first|(refine qY ?_;simp[strip];done)|(simp;done)|(simp;omega)
   show gs.length-(i+1)<gs.length-i;omega
  have hil:i=gs.length:=(by have:¬i<gs.length:=(by simpa using h);omega);rw[aX aj,eG]at hni;refine ZW ?_;refine ZG ?_;refine⟨(k+1,u1),?_,?_,?_⟩;{exact⟨hkl,by show u1++(wO m (k+1)).map (Gx m)=_;rw[hrest];exact hni,by show u1.length<=100*(k+1);have:=hBa.1;omega⟩}
  ·refine Zv ?_ ?_
   ·repeat' first|exact Zq|apply aI
    all_goals (show _=_;congr 1 <;> omega)
   exact wk
  show m.pages.length+1-(k+1)<m.pages.length+1-k;omega
 have hkl:m.pages.length+1<=k:=(by simp only[aC]at h;omega);rw[Ez hkl,List.map_nil,iT]at hn;subst hn;subst hR;exact ZJ
def KH(d:List Bool)(l:List Int):Bool:=l.all λk=>d.getD k.toNat false
def stepD(d:List Bool)(i:Nat)(l:List Int):List Bool:=d.set i (d.getD i false||KH d l)
def GI:Nat->List (List Int)->List Bool->List Bool
 |_,[],d=>d
 |i,l::us,d=>GI (i+1) us (stepD d i l)
def Bz(us:List (List Int)):Nat->List Bool->List Bool
 | 0,d=>d
 |r+1,d=>Bz us r (GI 0 us d)
def doneD(us:List (List Int)):List Bool:=Bz us us.length (List.replicate us.length false)
def a9u(us:List (List Int)):Bool:=(doneD us).any λb=>!b
theorem MN{d:List Bool}{i:Nat}{l:List Int}:(stepD d i l).length=d.length:=by simp[stepD]
theorem a5o{d:List Bool}{l:List Int}{i:Nat}(h:i<l.length):KH d (l.take (i+1))=(KH d (l.take i)&&d.getD (l[i]).toNat false):=by unfold KH;rw[eP,aH h,List.all_append];simp
theorem Xk{m:Md}:∀{k:Nat},k<=m.pages.length+1->(rD m).drop (NP m k)=wO m k
 | 0,_=>rfl
 |k+1,h=>by simp only[NP];rw[<- kL,Xk (by omega:k<=_),Ba aj,<- EM,List.drop_left]
theorem JJ{m:Md}{x:Node}(hx:x∈rD m):0<=A8 m x/\(rD m)[(A8 m x).toNat]? = some x:=by obtain⟨h1,h2,h3,h4⟩:=uK.1 hx;obtain⟨xk,a,i⟩:=x;dsimp only at h1 h2 h3 h4;subst h1;have hb:(a+1).toNat<m.pages.length+1:=aj;have e:=Xk (m:=m) (k:=(a+1).toNat) aj;have ha:(((a+1).toNat:Nat):Int)-1=a:=aj;rw[Ba hb,ha]at e;have hi:i.toNat<(qN m a).length:=aj;have g:((rD m).drop (NP m (a+1).toNat))[i.toNat]? = some (2,a,i):=(by rw[e,bH (by rw[EM];exact hi),H8 hi,fO h3]);rw[gZ]at g;have hn:A8 m (2,a,i)=i+NP m (a+1).toNat:=rfl;refine⟨by rw[hn];omega,?_⟩;rw[hn,show(i+(NP m (a+1).toNat:Int)).toNat=NP m (a+1).toNat+i.toNat by omega];exact g
theorem a0X{m:Md}:∀l∈xg m,∀k∈l,0<=k/\k<((xg m).length:Int):=by intro l hl k hk;unfold xg at hl;obtain⟨x,hx,rfl⟩:=bZ.1 hl;unfold Gx Kw at hk;obtain⟨y,hy,rfl⟩:=bZ.1 hk;obtain⟨hy,h2⟩:=fF.1 hy;obtain⟨s,_,rfl⟩:=bZ.1 hy;obtain⟨g1,g2⟩:=JJ (OW (uK.1 hx).2.1 (eu h2));have:=(aY.1 g2).1;refine⟨g1,?_⟩;simp only[xg,aC];omega
theorem OI:∀(n:Nat),sS (List.replicate n AV.ff) ((List.replicate n false).map AV.bool)
 | 0=>trivial
 |n+1=>⟨rfl,OI n⟩
theorem Lj{A:AV}{b:Bool}(h:IC A (.bool b)):∀(d:List Bool) (i:Nat),sS ((d.map AV.bool).set i A) ((d.set i b).map AV.bool)
 | [],_=>trivial
 |_::_,0=>⟨h,qU _⟩
 |_::d,i+1=>⟨Lh _,Lj h d i⟩
theorem b3h(m:Md)(hB:KJ m)(ht:∀p:Int,0<=p->p<(m.pages.length:Int)->Ed (tu m p)=false)(hn:(xg m).length<=100000):ZQ 46 [m.av] [] (.bool (a9u (xg m))) []:=by
 have cu:=b0R m hB ht _ rfl;have hlt:=a0X (m:=m);refine ZN Tryz.func46 λhok=>?_;refine .zP cu λb6g=>?_;generalize xg m=us at *;refine ZW ?_;rw[show(((us.map zL).length:Nat):Int)=(us.length:Int) by simp];refine⟨⟨aj,aj,aA,aj⟩,.wr (ZW ?_)⟩;refine qV.of <| qM.inv (.refl _ _) (fun(q:Nat×List Bool)=>q.1<=us.length/\q.2.length=us.length/\Bz us (us.length-q.1) q.2=doneD us)
  (λq=>[(19,.int .i64 q.1)]) (λq=>[(1,.arr 1 us.length (q.2.map .bool)),(0,.box m.av)]) (λq=>us.length-q.1) (0,List.replicate us.length false) ?_ (λ_=>rfl) ?_ ?_
 ·exact⟨aO _,ak,rfl⟩
 ·refine Zv wk ?_;repeat' first|exact Zq|apply aI
  all_goals first|(simp;done)|exact OI _
 rintro⟨r,d⟩ ⟨hr,hd,hF⟩ _;dsimp only at hr hd hF;refine ZS ?_ ?_<;>intro h
 ·have hrl:r<us.length:=(by simpa using h);rw[show us.length-r=(us.length-(r+1))+1 by omega]at hF;simp only[Bz]at hF;clear h;refine ZW ?_;refine qV.of <| qM.inv (.refl _ _) (fun(q:Nat×List Bool)=>q.1<=us.length/\q.2.length=us.length/\GI 0 us d=GI q.1 (us.drop q.1) q.2)
   (λq=>[(23,.int .i64 q.1)]) (λq=>[(1,.arr 1 us.length (q.2.map .bool)),(0,.box m.av)]) (λq=>us.length-q.1) (0,d) ?_ (λ_=>rfl) ?_ ?_
  ·exact⟨aO _,hd,rfl⟩
  ·exact Zv wk wk
  rintro⟨i,d1⟩ ⟨hi,hd1,hP⟩ _;dsimp only at hi hd1 hP;refine ZS ?_ ?_<;>intro h
  ·have hil:i<us.length:=(by simpa using h);have hul:=hlt _ (aQ hil);have hll:(us[i]).length<=9223372036854775807:=(by have:=J8 b6g.2 _ (aQ hil);simp only[Ok]at this;simpa[maxL]using this.1);rw[aZ hil]at hP;simp only[GI]at hP;refine ZW ?_;refine rV hil ?_;generalize us[i]=l at *;refine ZW ?_;refine qV.of <| qM.inv (.refl _ _) (fun(q:Nat)=>q<=l.length)
    (λq=>[(30,.int .i64 q),(7,.bool (KH d1 (l.take q)))]) (λq=>[(1,.arr 1 us.length (d1.map .bool)),(0,.box m.av)]) (λq=>l.length-q) 0 ?_ (λ_=>rfl) ?_ ?_
   ·exact aO _
   ·exact Zv wk wk
   rintro q hq _;refine ZS ?_ ?_<;>intro hh;{have Dq:q<l.length:=(by simpa using hh);have hrt:=a5o (d:=d1) Dq;have hk:=hul _ (aQ Dq);refine ZW ?_;refine rV Dq ?_;generalize l[q]=k at *;refine ZS ?_ ?_<;>intro hy;{refine ZW ?_;refine⟨aA,ZW ?_⟩;refine vC false (i:=k.toNat) ak aj ?_;refine⟨rfl,ZW ?_⟩;refine ZG ?_;refine⟨q+1,?_,?_,?_⟩;{exact Dq};{rw[hrt,hy,jv];exact Zv wk wk};omega};refine ZW ?_;refine ZG ?_;refine⟨q+1,?_,?_,?_⟩;{exact Dq};{rw[hrt,hy,Bool.false_and];exact Zv wk wk};omega};have Dq:q=l.length:=(by have:¬q<l.length:=(by simpa using hh);omega);subst Dq;rw[bg];refine ZW ?_;refine⟨aA,ZW ?_⟩;refine vC false (i:=i) ak aj ?_;refine⟨rfl,?_⟩;refine ZS ?_ ?_<;>intro hy
   ·refine ZW ?_;refine⟨aj,ZW ?_⟩;refine⟨aA,rfl,?_⟩;have hsd:stepD d1 i l=d1.set i true:=(by unfold stepD;rw[hy];rfl);refine ZW ?_;refine ZG ?_;refine⟨(i+1,stepD d1 i l),?_,?_,?_⟩;{exact⟨hil,by show(stepD d1 i l).length=_;rw[MN];exact hd1,hP⟩}
    ·rw[hsd];refine Zv wk ?_;repeat' first|exact Zq|apply aI
     all_goals first|(simp;done)|(rw[show 0+((i:Nat):Int).toNat=i by simp];exact Lj (A:=.tt) (b:=true) rfl d1 i)
    show us.length-(i+1)<us.length-i;omega
   refine ZW ?_;refine⟨aj,ZW ?_⟩;refine⟨aA,rfl,?_⟩;have hsd:stepD d1 i l=d1.set i (KH d1 l):=(by unfold stepD;rw[hy];rw[fE]);refine ZW ?_;refine ZG ?_;refine⟨(i+1,stepD d1 i l),?_,?_,?_⟩;{exact⟨hil,by show(stepD d1 i l).length=_;rw[MN];exact hd1,hP⟩}
   ·rw[hsd];refine Zv wk ?_;repeat' first|exact Zq|apply aI
    all_goals first|(simp;done)|(rw[show 0+((i:Nat):Int).toNat=i by simp];exact Lj (A:=.bool (KH d1 l)) (b:=(KH d1 l)) rfl d1 i)
   show us.length-(i+1)<us.length-i;omega
  have hil:i=us.length:=(by have:¬i<us.length:=(by simpa using h);omega);rw[aX aj]at hP;simp only[GI]at hP;rw[hP]at hF;refine ZW ?_;refine ZG ?_;refine⟨(r+1,d1),?_,?_,?_⟩;{exact⟨hrl,hd1,hF⟩};{exact Zv wk wk};show us.length-(r+1)<us.length-r;omega
 have hrl:r=us.length:=(by have:¬r<us.length:=(by simpa using h);omega);rw[hrl,gV]at hF;simp only[Bz]at hF;have hcy:a9u us=d.any λb=>!b:=(by unfold a9u;rw[hF]);rw[hcy];clear h;refine ZW ?_;refine qV.of <| qM.inv (.refl _ _) (fun(q:Nat)=>q<=us.length/\∀(z:Nat) (hz:z<d.length),z<q->d[z]=true)
  (λq=>[(56,.int .i64 q)]) (λq=>[(1,.arr 1 us.length (d.map .bool)),(0,.box m.av)]) (λq=>us.length-q) 0 ?_ (λ_=>rfl) ?_ ?_
 ·exact⟨aO _,aj⟩
 ·exact Zv wk wk
 rintro q ⟨hq,hz⟩ _;refine ZS ?_ ?_<;>intro hh;{have Dq:q<us.length:=(by simpa using hh);have hqd:q<d.length:=aj;refine ZW ?_;refine⟨aj,ZW ?_⟩;refine vC false (i:=q) ak hqd ?_;refine⟨rfl,?_⟩;rw[uX hqd];refine ZS ?_ ?_<;>intro hy;{rw[show(d.any λb=>!b)=true from iD.2 ⟨d[q],aQ hqd,by simpa using hy⟩];exact ZJ};refine ZW ?_;refine ZG ?_;refine⟨q+1,?_,?_,?_⟩;{refine⟨Dq,λz hz1 hzq=>?_⟩;by_cases e:z=q;{subst e;simpa using hy};exact hz z hz1 aj};{exact Zv wk wk};omega};have Dq:q=us.length:=(by have:¬q<us.length:=(by simpa using hh);omega);rw[show(d.any λb=>!b)=false from kH.2 λb hb=>by
  obtain⟨z,hz1,rfl⟩:=dX hb;simp[hz z hz1 aj]]
 exact ZJ
theorem Z9{m:Md}{a:Int}{s:Str}(h:RG m (zJ m a s)):zX m a s=zJ m a s:=by
 unfold zX;by_cases h1:0<=sH m.evs s;{rw[aG h1];unfold zJ;rw[aG h1]};by_cases h2:0<=uM m.hs s;{rw[aB h1,aG h2];unfold zJ;rw[aB h1,aG h2]};have e:zJ m a s=(2,a,uU (qN m a) s):=by unfold zJ;rw[aB h1,aB h2]
 rw[e]at h ⊢;have h3:0<=uU (qN m a) s:=(by rcases h with h|h|h;{exact absurd (show(2:Int)=0 from h.1) au};{exact absurd (show(2:Int)=1 from h.1) au};exact(uK.1 h).2.2.1);rw[aB h1,aB h2,aG h3]
theorem a2I{m:Md}{a:Int}{s:Str}(h:RG m (zf m a s))(hp:Ed s=true->0<=tK m.pages (s.drop 1)):uF m a s=zf m a s:=by unfold uF;by_cases e:Ed s=true;{have hr:zf m a s=zJ m (tK m.pages (s.drop 1)) (tu m (tK m.pages (s.drop 1))):=aG e;have:=hp e;rw[hr]at h ⊢;rw[aG e,aB aj,Z9 h]};have hr:zf m a s=zJ m a s:=aB e;rw[hr]at h ⊢;rw[aB e,Z9 h]
theorem MK{m:Md}(hc:AQ m){x:Node}(hx:x∈rD m):Gx m x=((tC m x).filter λy=>decide (y.1=2)).map (A8 m):=by unfold Gx Kw tC;have:(rP m x).ins.map (uF m x.2.1)=(rP m x).ins.map (zf m x.2.1):=nO λs hs=>a2I (hc x hx s hs).2.2 (hc x hx s hs).2.1;rw[this]
def LeD(d e:List Bool):Prop:=∀i:Nat,d.getD i false=true->e.getD i false=true
theorem LeD.refl(d:List Bool):LeD d d:=λ_ h=>h
theorem LeD.trans{a b c:List Bool}(h:LeD a b)(g:LeD b c):LeD a c:=λi e=>g i (h i e)
theorem DL{d:List Bool}{i j:Nat}{b:Bool}:(d.set i b).getD j false=if i=j/\j<d.length then b else d.getD j false:=by rw[aF,kG,aF];by_cases e:i=j;{subst e;by_cases h:i<d.length;{simp[h]};simp[h]};simp[e]
theorem b1z{d e:List Bool}(h:LeD d e){l:List Int}(hr:KH d l=true):KH e l=true:=by unfold KH at hr ⊢;exact bF.2 λk hk=>h _ (bF.1 hr k hk)
theorem PI{d:List Bool}{i:Nat}{l:List Int}:LeD d (stepD d i l):=by intro j h;unfold stepD;rw[DL];split;{rename_i e;rw[e.1,h,nY]};exact h
theorem V8:∀(us:List (List Int)) (i:Nat) (d:List Bool),LeD d (GI i us d)
 | [],_,d=>.refl d
 |_::us,i,_=>PI.trans (V8 us (i+1) _)
theorem MW:∀(us:List (List Int)) (i:Nat) (d:List Bool),(GI i us d).length=d.length
 | [],_,_=>rfl
 |l::us,i,d=>by simp only[GI];rw[MW us,MN]
theorem V7:∀(us:List (List Int)) (j:Nat) (d:List Bool) (k:Nat) (h:k<us.length),j+k<d.length->KH d us[k]=true->(GI j us d).getD (j+k) false=true
 | [],_,_,_,h,_,_=>absurd h ak
 |l::us,j,d,0,_,hd,hr=>by simp only[GI];refine V8 us (j+1) _ _ ?_;unfold stepD;rw[DL,aG ⟨rfl,hd⟩];have hr:KH d l=true:=hr;rw[hr,Bool.or_true]
 |l::us,j,d,k+1,h,hd,hr=>by simp only[GI];have:=V7 us (j+1) (stepD d j l) k (by simpa using h) (by rw[MN];omega) (b1z PI hr);rw[show j+(k+1)=j+1+k by omega];exact this
theorem cnt_lt:∀(d e:List Bool),d.length=e.length->LeD d e->e.count false<=d.count false/\((∃i:Nat,i<d.length/\d.getD i false=false/\e.getD i false=true)->e.count false<d.count false)
 | [],[],_,_=>⟨aS _,by rintro⟨i,h,_⟩;simp at h⟩
 | [],_::_,h,_=>by simp at h
 |_::_,[],h,_=>by simp at h
 | x::d,y::e,h,hl=>by
   obtain⟨h1,h2⟩:=cnt_lt d e (by simpa using h) λi hi=>(by simpa using hl (i+1) (by simpa using hi));have h0:x=true->y=true:=λhx=>(by simpa using hl 0 (by simpa using hx));simp only[List.count_cons];refine⟨?_,?_⟩;{cases x <;> cases y <;> simp_all <;> omega};rintro⟨i,hi,hd,he⟩;cases i with
   |zero =>have hd:x=false:=(by simpa using hd);have he:y=true:=(by simpa using he);subst hd;subst he;simp;omega
   |succ i =>have h3:=h2 ⟨i,by simpa using hi,by simpa using hd,by simpa using he⟩;cases x <;> cases y <;> simp_all <;> omega
theorem Zo{us:List (List Int)}{d:List Bool}{rk:Nat->Nat}(hrk:∀(i:Nat) (h:i<us.length),∀k∈us[i],k.toNat<us.length/\rk k.toNat<rk i) :
  ∀(R i:Nat),i<us.length->rk i<=R->d.getD i false=false->∃(j:Nat) (h:j<us.length),d.getD j false=false/\KH d us[j]=true
 | R,i,hi,hR,hd=>by
   by_cases hr:KH d us[i]=true;{exact⟨i,hi,hd,hr⟩};have:∃k∈us[i],d.getD k.toNat false=false:=by unfold KH at hr;rw[oD,List.all_eq_false]at hr;obtain⟨k,hk,h⟩:=hr;exact⟨k,hk,by simpa using h⟩
   obtain⟨k,hk,hkd⟩:=this;obtain⟨h1,h2⟩:=hrk i hi k hk
   match R,hR with
   | 0,hR=>omega
   |R+1,hR=>exact Zo hrk R k.toNat h1 aj hkd
theorem a6E{d:List Bool}(h:d.count false≠0):∃i:Nat,i<d.length/\d.getD i false=false:=by have:false∈d:=List.count_pos_iff.1 aj;obtain⟨i,hi,e⟩:=dX this;exact⟨i,hi,by rw[uX hi];exact e⟩
theorem VU{us:List (List Int)}{rk:Nat->Nat}(hrk:∀(i:Nat) (h:i<us.length),∀k∈us[i],k.toNat<us.length/\rk k.toNat<rk i) :
  ∀(r:Nat) (d:List Bool),d.length=us.length->d.count false<=r->(Bz us r d).count false=0
 | 0,d,_,h=>by simp only[Bz];omega
 |r+1,d,hd,h=>by simp only[Bz];refine VU hrk r _ (by rw[MW];exact hd) ?_;obtain⟨h1,h2⟩:=cnt_lt d (GI 0 us d) (MW us 0 d).symm (V8 us 0 d);by_cases h0:d.count false=0;{omega};obtain⟨i,hi,hid⟩:=a6E h0;obtain⟨j,hj,hjd,hjr⟩:=Zo hrk (rk i) i aj (aS _) hid;have:=h2 ⟨j,aj,hjd,by have:=V7 us 0 d j hj aj hjr;rwa[bC]at this⟩;omega
theorem a4e{us:List (List Int)}{rk:Nat->Nat}(hrk:∀(i:Nat) (h:i<us.length),∀k∈us[i],k.toNat<us.length/\rk k.toNat<rk i):a9u us=false:=by have:=VU hrk us.length (List.replicate us.length false) ak (by rw[List.count_replicate_self];exact aS _);unfold a9u doneD;rw[kH];intro b hb;have h0:=List.count_eq_zero.1 this;cases b;{exact absurd hb h0};simp
def S9(us:List (List Int))(d:List Bool):Prop:=∃rk:Nat->Nat,∀i,d.getD i false=true->∀k∈us.getD i [],d.getD k.toNat false=true/\rk k.toNat<rk i
theorem a5a{rk:Nat->Nat}:∀{l:List Int} {k:Int},k∈l->rk k.toNat<=(l.map λk=>rk k.toNat).sum
 | [],_,h=>by simp at h
 |x::l,k,h=>by simp only[dF,mM];rcases aT.1 h with rfl|h;{omega};have:=a5a (rk:=rk) h;omega
theorem S9.step{us:List (List Int)}{d:List Bool}(h:S9 us d){i:Nat}{l:List Int}(hl:us.getD i []=l):S9 us (stepD d i l):=by
 obtain⟨rk,hr⟩:=h;by_cases h0:d.getD i false=false/\KH d l=true
 ·obtain⟨h1,h2⟩:=h0;have hne:∀j,d.getD j false=true->j≠i:=λj hj e=>by rw[e,h1]at hj;cases hj
  refine⟨λj=>if j=i then 1+(l.map λk=>rk k.toNat).sum else rk j,λj hj k hk=>?_⟩;by_cases e:j=i;{subst e;rw[hl]at hk;have hkd:=bF.1 h2 k hk;refine⟨PI _ hkd,?_⟩;dsimp only;rw[aB (hne _ hkd),aG rfl];have:=a5a (rk:=rk) hk;omega};have hj:d.getD j false=true:=(by unfold stepD at hj;rw[DL,aB (λh=>e h.1.symm)]at hj;exact hj);obtain⟨g1,g2⟩:=hr j hj k hk;refine⟨PI _ g1,?_⟩;dsimp only;rw[aB (hne _ g1),aB e];exact g2
 have heq:∀j,(stepD d i l).getD j false=d.getD j false:=(by intro j;unfold stepD;rw[DL];split;{rename_i e;obtain⟨rfl,_⟩:=e;cases h1:d.getD i false;{cases h2:KH d l;{rfl};exact absurd ⟨h1,h2⟩ h0};rfl};rfl);refine⟨rk,λj hj k hk=>?_⟩;rw[heq]at hj;rw[heq];exact hr j hj k hk
theorem S9.pass{us:List (List Int)}:∀(l:List (List Int)) (i:Nat) (d:List Bool),us.drop i=l->S9 us d->S9 us (GI i l d)
 | [],_,_,_,h=>h
 | x::l,i,d,hl,h=>by
   simp only[GI];have h1:us[i]? = some x:=by rw[<- List.head?_drop,hl];rfl
   have h2:us.drop (i+1)=l:=(by rw[<- List.tail_drop,hl];rfl);exact S9.pass l (i+1) _ h2 (h.step (by rw[aF,h1];rfl))
theorem S9.rounds{us:List (List Int)}:∀(r:Nat) (d:List Bool),S9 us d->S9 us (Bz us r d)
 | 0,_,h=>h
 |r+1,d,h=>by simp only[Bz];exact S9.rounds r _ (S9.pass us 0 d rfl h)
theorem TA{us:List (List Int)}:∀(r:Nat) (d:List Bool),(Bz us r d).length=d.length
 | 0,_=>rfl
 |r+1,d=>by simp only[Bz];rw[TA r,MW]
theorem a6D{us:List (List Int)}(h:a9u us=false):∃rk:Nat->Nat,∀i,i<us.length->∀k∈us.getD i [],rk k.toNat<rk i:=by
 obtain⟨rk,hr⟩:=S9.rounds us.length (List.replicate us.length false) (us:=us) ⟨λ_=>0,λi hi=>by
  exfalso;rw[aF,eU]at hi;split at hi <;> simp at hi⟩
 refine⟨rk,λi hi k hk=>(hr i ?_ k hk).2⟩;unfold a9u doneD at h;have hlen:(Bz us us.length (List.replicate us.length false)).length=us.length:=(by rw[TA];simp);rw[kH]at h;rw[uX aj];simpa using h _ (aQ aj)
theorem a1r{m:Md}(hc:AQ m){rank:Node->Nat}(hr:QY m rank):Qz m=false:=by
 unfold Qz;have key:∀(l:List Node) (s:WS Unit),(∀y∈l,RG m y)->(∀z,look s.es z≠1)->(yg (Vr m) l s).1=false:=by
  intro l;induction l with
  |nil=>intro s _ _;rfl
  |cons y l ih =>intro s hl hs;obtain⟨w1,w2⟩:=Vp (step:=fun(_:Unit) _=>()) (RG m) (λx hx h2=>(yI hc hx h2).2) rank hr (Oa m) y s (hl y ak) (λ_ z hz=>absurd hz (hs z));simp only[yg];rw[aB (by show ¬(yU (tC m) (λ_ _=>()) (Oa m) y s).1=true;rw[w1];simp)];exact ih _ (λz hz=>hl z (by simp[hz])) λz hz=>hs z (w2 z hz)
 exact key _ _ (λy hy=>.inr (.inr hy)) λz=>by simp[look]
theorem Vy{m:Md}{x:Node}(hx:x∈rD m):(xg m).getD (A8 m x).toNat []=Gx m x:=by obtain⟨_,h⟩:=JJ hx;unfold xg;rw[aF,dO,h];rfl
theorem b4W{m:Md}(hc:AQ m):a9u (xg m)=Qz m:=by
 cases h:Qz m;{obtain⟨rank,hr⟩:=a2Q hc h;refine a4e (rk:=λi=>rank ((rD m).getD i default)) λi hi k hk=>?_;have hiN:i<(rD m).length:=(by simpa[xg]using hi);have hx:=aQ hiN;have hui:(xg m)[i]=Gx m (rD m)[i]:=(by simp[xg]);rw[hui,MK hc hx]at hk;obtain⟨y,hy,rfl⟩:=bZ.1 hk;obtain⟨hy,h2⟩:=fF.1 hy;have h2:y.1=2:=eu h2;have hyo:=(yI hc (.inr (.inr hx)) (uK.1 hx).1).2 y hy;obtain⟨g1,g2⟩:=JJ (yI hc hyo h2).1;have g3:=(aY.1 g2).1;refine⟨by simpa[xg]using g3,?_⟩;rw[uX hiN,aF,g2];exact hr _ (.inr (.inr hx)) (uK.1 hx).1 y hy h2};cases h2:a9u (xg m)
 ·exfalso;obtain⟨rk,hr⟩:=a6D h2;have:Qz m=false:=a1r hc (rank:=λx=>rk (A8 m x).toNat) λx hx hx2 y hy hy2=>by have hxm:=(yI hc hx hx2).1;obtain⟨_,g2⟩:=JJ hxm;have g3:=(aY.1 g2).1;refine hr (A8 m x).toNat (by simpa[xg]using g3) (A8 m y) ?_;rw[Vy hxm,MK hc hxm];exact bZ.2 ⟨y,fF.2 ⟨hy,by simpa using hy2⟩,rfl⟩
  rw[this]at h;cases h
 rfl
theorem MdX.qN{m:Md}(hX:MdX m){a:Int}(ha:a = -1\/(0<=a/\a<(m.pages.length:Int))):∀x∈qN m a,Cj x.y5:=by unfold S.qN;split;{exact hX.gates};exact hX.pages _ (getD_mem aj)
theorem a19{m:Md}(h1:rF m=0)(h2:uS m=0)(h3:yG m (BP m) []=0):∀p:Int,0<=p->p<(m.pages.length:Int)->Ed (tu m p)=false:=by intro p hp0 hp1;have hp:p = -1\/(0<=p/\p<(m.pages.length:Int)):=.inr ⟨hp0,hp1⟩;obtain⟨sp,hs⟩:=Jd h3 p (JZ.2 hp);rcases(JI hs).2 aj with h|h;{obtain⟨i,hi,_,e⟩:=Lm h;have:=En h2 hp i hi;unfold uT at this;split at this;{cases this};rename_i g;rw[<- e];exact I9 (by simpa using g)};obtain⟨i,hi,_,e⟩:=Lm h;have:=(yZ h1).2.2.1 i hi;unfold yA at this;split at this;{cases this};rename_i g;rw[<- e];exact I9 (by simpa using g)
theorem Vx{m:Md}(hB:KJ m):(xg m).length<=100000:=by have e:=Xk (m:=m) (k:=m.pages.length+1) (aS _);rw[Ez (aS _)]at e;have:=List.drop_eq_nil_iff.1 e;have:=a09 hB (k:=m.pages.length+1) (aS _);have:=hB.pages;simp only[xg,aC];omega
theorem JW(m:Md):rJ m=if vV m≠0 then vV m else if uS m≠0 then uS m else if BU m≠0 then BU m
  else if wB m≠0 then wB m else if vH m≠0 then vH m else if Qz m=true then 14 else 0:=by
 unfold rJ vV BU;by_cases h1:tZ m.name=false;{rw[aG h1,aG h1,aG au]};rw[aB h1,aB h1];by_cases h2:rF m≠0;{rw[aG h2,aG h2,aG h2]};rw[aB h2,aB h2];by_cases h3:uO m≠0;{rw[aG h3,aG h3]};rw[aB h3,aB h3];by_cases h4:uS m≠0;{rw[aG h4,aG h4]};rw[aB h4,aB h4];by_cases h5:yG m (BP m) []≠0;{rw[aG h5,aG h5,aG h5]};rw[aB h5,aB h5];by_cases h6:vN m (-1) m.top=false;{rw[aG h6,aG h6,aG au]};rw[aB h6,aB h6,aB (show ¬(0:Int)≠0 by decide)]
theorem a4a{m:Md}(h:vV m=0):rF m=0:=by unfold vV at h;split at h;{cases h};split at h;{rename_i h1;exact absurd h h1};rename_i h1;simpa using h1
theorem XH(h1c:YZ)(m:Md)(hX:MdX m)(hB:KJ m)(R:AV)(hR:R=.int .i64 (rJ m)):ZQ 13 [m.av] [] R []:=by
 have hpl:=hB.pages;have cf:=b3b h1c m hX hB _ rfl;have ci:=a9T m hB _ rfl;have cg:=a9X h1c m hX hB _ rfl;have cp:=a9N h1c m hX hB _ rfl;refine ZN Tryz.func13 λhok=>?_;refine .zW cf ?_;constructor<;>intro g1;{obtain rfl:R=.int .i64 (vV m):=(by rw[hR,JW];rw[aG g1]);exact ZJ};have z1:vV m=0:=(by simpa using g1);refine ZW ?_;refine qV.of <| qM.inv (.refl _ _) (fun(k:Nat)=>k<=m.pages.length+1/\uS m=wU (λ_ a=>wU (uT m a) 0 (qN m a)) k ((BP m).drop k)) (fun(k:Nat)=>[(4,.int .i64 ((k:Int)-1))]) (λ_=>_) (fun(k:Nat)=>m.pages.length+1-k) 0 ?_ (λ_=>rfl) ?_ ?_;{exact⟨aO _,rfl⟩};{exact wk};rintro k ⟨hk,hn⟩ _;refine ZS ?_ ?_<;>intro h
 ·have hkl:k<m.pages.length+1:=(by simp only[aC]at h;omega);have ha:(k:Int)-1 = -1\/(0<=(k:Int)-1/\(k:Int)-1<(m.pages.length:Int)):=aj;rw[yj? (QS hkl)]at hn;simp only[wU]at hn;have cG:=DT m _ ha;have hXa:=hX.qN ha;have cs:=λi hi=>b2Q h1c m ((k:Int)-1) i ha hi (hXa _ (aQ hi)) _ rfl;have hBa:=(hB.qN ha).1;clear h;generalize b6p:(k:Int)-1=a at *;refine ZW ?_;refine .zW cG ?_;refine qV.of <| qM.inv (.refl _ _) (fun(i:Nat)=>i<=(qN m a).length/\wU (uT m a) 0 (qN m a)=wU (uT m a) i ((qN m a).drop i)) (fun(i:Nat)=>[(25,.int .i64 i)]) (λ_=>_) (fun(i:Nat)=>(qN m a).length-i) 0 ?_ (λ_=>rfl) ?_ ?_;{exact⟨aO _,rfl⟩};{exact wk};rintro i ⟨hi,hni⟩ _;refine ZS ?_ ?_<;>intro h;{have hil:i<(qN m a).length:=(by simpa using h);have cs:=cs i hil;rw[zo hil]at hni;clear h;generalize uT m a i (qN m a)[i]=e at *;refine ZW ?_;refine .zW cs ?_;constructor<;>intro g2;{rw[aG g2]at hni;rw[hni,aG g2]at hn;obtain rfl:R=.int .i64 (e):=(by rw[hR,JW];rw[aB g1,hn,aG g2]);exact ZJ};rw[aB g2]at hni;refine ZW ?_;refine ZG ?_;refine⟨i+1,?_,?_,?_⟩;{exact⟨hil,hni⟩};{exact wk};omega};have hil:i=(qN m a).length:=(by have:¬i<(qN m a).length:=(by simpa using h);omega);rw[Aj aj]at hni;rw[hni,aB ak]at hn;refine ZW ?_;refine ZG ?_;refine⟨k+1,?_,?_,?_⟩;{exact⟨hkl,hn⟩}
  ·refine Zv ?_ ?_
   ·repeat' first|exact Zq|apply aI
    all_goals (show _=_;congr 1 <;> omega)
   exact wk
  omega
 have hkl:m.pages.length+1<=k:=(by simp only[aC]at h;omega);rw[aX (by rw[ND];omega)]at hn;simp only[wU]at hn;have g2:¬uS m≠0:=(by rw[hn];simp);have z2:=hn;clear h hn hk hkl;have hck:=JW m;rw[aB g1,aB g2]at hck;have hz:BU m=0->rF m=0/\yG m (BP m) []=0:=(by intro h;refine⟨a4a z1,?_⟩;unfold BU at h;split at h;{rename_i h1;exact absurd h h1};rename_i h1;simpa using h1);generalize BU m=e1 at *;generalize wB m=e2 at *;generalize vH m=e3 at *;refine ZW ?_;refine ZR ?_;refine .zW ci ?_;refine .zW cg ?_;refine .zW cp ?_;refine qV.step 4 ?_;refine ZW ?_;refine aP (λ_=>?_) (λh=>absurd ak h);refine ZW ?_;refine DZ.mk ⟨_,⟨au,rfl⟩,?_⟩;refine ZS ?_ ?_<;>intro g;{obtain rfl:R=.int .i64 e1:=(by rw[hR];rw[hck,aG g]);exact ZJ};rw[aB g]at hck;have z5:e1=0:=(by simpa using g);clear g;refine ZW ?_;refine ZG ?_;refine ZW ?_;refine aP (λ_=>?_) (λh=>absurd ak h);refine ZW ?_;refine DZ.mk ⟨_,⟨au,rfl⟩,?_⟩;refine ZS ?_ ?_<;>intro g;{obtain rfl:R=.int .i64 e2:=(by rw[hR];rw[hck,aG g]);exact ZJ};rw[aB g]at hck;clear g;refine ZW ?_;refine ZG ?_;refine ZW ?_;refine aP (λ_=>?_) (λh=>absurd ak h);refine ZW ?_;refine DZ.mk ⟨_,⟨au,rfl⟩,?_⟩;refine ZS ?_ ?_<;>intro g;{obtain rfl:R=.int .i64 e3:=(by rw[hR];rw[hck,aG g]);exact ZJ};rw[aB g]at hck;clear g;refine ZW ?_;refine ZG ?_;refine aP (λh=>absurd h ak) (λ_=>?_);obtain⟨zE,zI⟩:=hz z5;have hnA:=a19 zE z2 zI;have cc:=b3h m hB hnA (Vx hB);rw[b4W (SB zE z2 zI)]at cc;generalize Qz m=cy at *;refine ZW ?_;refine .zW cc ?_;constructor<;>intro g;{obtain rfl:R=.int .i64 14:=(by rw[hR,hck,aG g]);exact ZJ};obtain rfl:R=.int .i64 0:=(by rw[hR,hck,aB (by simpa using g)]);exact ZJ
theorem UN{α:Type}{f:α->AV}:∀{l:List AV},(∀x∈l,∃y,x=f y)->∃m:List α,l=m.map f
 | [],_=>⟨[],rfl⟩
 |x::l,h=>by obtain⟨y,rfl⟩:=h x ak;obtain⟨m,rfl⟩:=UN (l:=l) λz hz=>h z (by simp[hz]);exact⟨y::m,rfl⟩
theorem a5V{sz:Nat}{k:IntKind}{A:AV}(h:(Sh.sl sz (.int k)).In A):∃l:List Int,A=.sl sz (l.map (.int k)) .no:=by simp only[Sh.In]at h;obtain⟨l,rfl,hl⟩:=h;obtain⟨m,rfl⟩:=UN hl;exact⟨m,rfl⟩
abbrev Tt:Sh:=.st [.bool,.sl 1 (.int .u32),.sl 1 (.int .u32)]
theorem Rat.of{A:AV}(h:Tt.In A):∃r:Rat,A=r.av:=by simp only[Sh.In,InL]at h;obtain⟨_,rfl,_,_,rfl,⟨b,rfl⟩,_,_,rfl,h1,_,_,rfl,h2,rfl⟩:=h;obtain⟨n,rfl⟩:=a5V (sz:=1) (k:=.u32) (by simp only[Sh.In];exact h1);obtain⟨d,rfl⟩:=a5V (sz:=1) (k:=.u32) (by simp only[Sh.In];exact h2);exact⟨⟨b,n,d⟩,rfl⟩
theorem b1C{A:AV}(h:(Sh.sl 3 Tt).In A):∃l:List Rat,A=.sl 3 (l.map Rat.av) .no:=by unfold Sh.In at h;obtain⟨l,rfl,hl⟩:=h;obtain⟨m,rfl⟩:=UN λx hx=>Rat.of (hl x hx);exact⟨m,rfl⟩
theorem a2A{k:IntKind}{A:AV}(h:(Sh.int k).In A):∃n:Int,A=.int k n:=by simpa only[Sh.In]using h
theorem Fz{A:AV}(h:Sh.str.In A):∃s:List UInt8,A=.str s:=by simpa only[Sh.In]using h
theorem PK{α:Type}{f:α->AV}{sh:Sh}{sz:Nat}{A:AV}(hf:∀x,sh.In x->∃y,x=f y)(h:(Sh.sl sz sh).In A):∃l:List α,A=.sl sz (l.map f) .no:=by unfold Sh.In at h;obtain⟨l,rfl,hl⟩:=h;obtain⟨m,rfl⟩:=UN λx hx=>hf x (hl x hx);exact⟨m,rfl⟩
abbrev b6T:Sh:=.st [.str,Tt,Tt,Tt,.int .i64]
abbrev b6R:Sh:=.st [.str,.bool]
abbrev b5W:Sh:=.st [.str,.int .i64,.int .i64,.sl 1 .str,Tt]
abbrev b6Q:Sh:=.st [.str,.str,.sl 7 b5W]
abbrev b6S:Sh:=.st [.str,.int .i64,.sl 1 .str,.sl 3 Tt]
abbrev b6O:Sh:=.st [.str,Tt]
abbrev b6P:Sh:=.st [.str,.str,.sl 4 b6O]
abbrev b5X:Sh:=.st [.str,.str,.sl 11 b6T,.sl 2 b6R,.sl 7 b5W,.sl 3 b6Q,.sl 4 b6S,.sl 3 b6P]
theorem a5c{A:AV}(h:(Sh.sl 1 .str).In A):∃l:List Str,A=sL l:=PK (f:=AV.str) (λ_ hx=>Fz hx) h
theorem Ev.of{A:AV}(h:b6T.In A):∃x:Ev,A=x.av:=by unfold Sh.In at h;simp only[InL]at h;obtain⟨_,rfl,_,_,rfl,h0,_,_,rfl,h1,_,_,rfl,h2,_,_,rfl,h3,_,_,rfl,h4,rfl⟩:=h;obtain⟨a,rfl⟩:=Fz h0;obtain⟨b,rfl⟩:=Rat.of h1;obtain⟨c,rfl⟩:=Rat.of h2;obtain⟨d,rfl⟩:=Rat.of h3;obtain⟨e,rfl⟩:=a2A h4;exact⟨⟨a,b,c,d,e⟩,rfl⟩
theorem Hs.of{A:AV}(h:b6R.In A):∃x:Hs,A=x.av:=by unfold Sh.In at h;simp only[InL]at h;obtain⟨_,rfl,_,_,rfl,h0,_,_,rfl,h1,rfl⟩:=h;obtain⟨a,rfl⟩:=Fz h0;simp only[Sh.In]at h1;obtain⟨b,rfl⟩:=h1;exact⟨⟨a,b⟩,rfl⟩
theorem Mg.of{A:AV}(h:b5W.In A):∃x:Mg,A=x.av:=by unfold Sh.In at h;simp only[InL]at h;obtain⟨_,rfl,_,_,rfl,h0,_,_,rfl,h1,_,_,rfl,h2,_,_,rfl,h3,_,_,rfl,h4,rfl⟩:=h;obtain⟨a,rfl⟩:=Fz h0;obtain⟨b,rfl⟩:=a2A h1;obtain⟨c,rfl⟩:=a2A h2;obtain⟨d,rfl⟩:=a5c h3;obtain⟨e,rfl⟩:=Rat.of h4;exact⟨⟨a,b,c,d,e⟩,rfl⟩
theorem Pg.of{A:AV}(h:b6Q.In A):∃x:Pg,A=x.av:=by unfold Sh.In at h;simp only[InL]at h;obtain⟨_,rfl,_,_,rfl,h0,_,_,rfl,h1,_,_,rfl,h2,rfl⟩:=h;obtain⟨a,rfl⟩:=Fz h0;obtain⟨b,rfl⟩:=Fz h1;obtain⟨c,rfl⟩:=PK (f:=Mg.av) (λ_ hx=>Mg.of hx) h2;exact⟨⟨a,b,c⟩,rfl⟩
theorem Gr.of{A:AV}(h:b6S.In A):∃x:Gr,A=x.av:=by unfold Sh.In at h;simp only[InL]at h;obtain⟨_,rfl,_,_,rfl,h0,_,_,rfl,h1,_,_,rfl,h2,_,_,rfl,h3,rfl⟩:=h;obtain⟨a,rfl⟩:=Fz h0;obtain⟨b,rfl⟩:=a2A h1;obtain⟨c,rfl⟩:=a5c h2;obtain⟨d,rfl⟩:=b1C h3;exact⟨⟨a,b,c,d⟩,rfl⟩
theorem Pv.of{A:AV}(h:b6O.In A):∃x:Pv,A=x.av:=by unfold Sh.In at h;simp only[InL]at h;obtain⟨_,rfl,_,_,rfl,h0,_,_,rfl,h1,rfl⟩:=h;obtain⟨a,rfl⟩:=Fz h0;obtain⟨b,rfl⟩:=Rat.of h1;exact⟨⟨a,b⟩,rfl⟩
theorem Ph.of{A:AV}(h:b6P.In A):∃x:Ph,A=x.av:=by unfold Sh.In at h;simp only[InL]at h;obtain⟨_,rfl,_,_,rfl,h0,_,_,rfl,h1,_,_,rfl,h2,rfl⟩:=h;obtain⟨a,rfl⟩:=Fz h0;obtain⟨b,rfl⟩:=Fz h1;obtain⟨c,rfl⟩:=PK (f:=Pv.av) (λ_ hx=>Pv.of hx) h2;exact⟨⟨a,b,c⟩,rfl⟩
theorem Md.of{A:AV}(h:b5X.In A):∃x:Md,A=x.av:=by unfold Sh.In at h;simp only[InL]at h;obtain⟨_,rfl,_,_,rfl,h0,_,_,rfl,h1,_,_,rfl,h2,_,_,rfl,h3,_,_,rfl,h4,_,_,rfl,h5,_,_,rfl,h6,_,_,rfl,h7,rfl⟩:=h;obtain⟨a,rfl⟩:=Fz h0;obtain⟨b,rfl⟩:=Fz h1;obtain⟨c,rfl⟩:=PK (f:=Ev.av) (λ_ hx=>Ev.of hx) h2;obtain⟨d,rfl⟩:=PK (f:=Hs.av) (λ_ hx=>Hs.of hx) h3;obtain⟨e,rfl⟩:=PK (f:=Mg.av) (λ_ hx=>Mg.of hx) h4;obtain⟨f,rfl⟩:=PK (f:=Pg.av) (λ_ hx=>Pg.of hx) h5;obtain⟨g,rfl⟩:=PK (f:=Gr.av) (λ_ hx=>Gr.of hx) h6;obtain⟨i,rfl⟩:=PK (f:=Ph.av) (λ_ hx=>Ph.of hx) h7;exact⟨⟨a,b,c,d,e,f,g,i⟩,rfl⟩
theorem KE.b4v{m:Md}(h:KE m):∀p:Int,0<=p->p<(m.pages.length:Int)->Ed (tu m p)=false:=a19 h.evs h.gates h.ins
theorem a3S{m:Md}{x:Node}(h:RG m x):0<=x.1:=by rcases h with h|h|h;{omega};{omega};have:=(uK.1 h).1;omega
theorem Qm{m:Md}(hM:KE m){a:Int}(ha:a = -1\/(0<=a/\a<(m.pages.length:Int))){s:Str}(hs:vN m a s=true):uF m a s=zf m a s/\0<=(uF m a s).1:=by have hi:=hM.RY ha hs;have e:=a2I hi.ok hi.pg;rw[e];exact⟨rfl,a3S hi.ok⟩
theorem a6e{m:Md}{a:Int}{s:Str}(hs:vN m a s=false):(uF m a s).1<0:=by cases e:Ed s;{rw[a1n e]at hs;have:=jR hs;omega};have h:vN m a s=decide (0<=tK m.pages (s.drop 1)):=aG e;rw[h]at hs;have:=jR hs;unfold uF;rw[aG e,aG aj];decide
def EO(d:List Bool)(i:Nat)(k:Int):List Bool:=d.set k.toNat (d.getD k.toNat false||d.getD i false)
def CB(i:Nat):List Int->List Bool->List Bool
 | [],d=>d
 |k::l,d=>CB i l (EO d i k)
def GK:Nat->List (List Int)->List Bool->List Bool
 |_,[],d=>d
 |i,l::us,d=>GK (i+1) us (CB i l d)
def zM(us:List (List Int)):Nat->List Bool->List Bool
 | 0,d=>d
 |r+1,d=>zM us r (GK 0 us d)
def IK(us:List (List Int))(f:Nat):List Bool:=zM us us.length ((List.replicate us.length false).set f true)
theorem Nc{d:List Bool}{i:Nat}{k:Int}:(EO d i k).length=d.length:=by simp[EO]
theorem WT:∀(n i:Nat),sS ((List.replicate n AV.ff).set i .tt) (((List.replicate n false).set i true).map AV.bool)
 | 0,_=>trivial
 |n+1,0=>⟨rfl,OI n⟩
 |n+1,i+1=>⟨rfl,WT n i⟩
abbrev dL(d:List Bool):AV:=.sl 1 (d.map AV.bool) .no
theorem b3n(m:Md)(hB:KJ m)(ht:∀p:Int,0<=p->p<(m.pages.length:Int)->Ed (tu m p)=false)(hn:(xg m).length<=100000)(f:Nat)(hf:f<(xg m).length):ZQ 131 [m.av,.int .i64 f] [] (dL (IK (xg m) f)) []:=by
 have cu:=b0R m hB ht _ rfl;have hlt:=a0X (m:=m);refine ZN Tryz.func131 λhok=>?_;refine .zP cu λb6g=>?_;generalize xg m=us at *;refine ZW ?_;rw[show(((us.map zL).length:Nat):Int)=(us.length:Int) by simp];refine⟨⟨aj,aj,aA,aj⟩,.wr (ZW ?_)⟩;refine⟨aj,ZW ?_⟩;refine⟨aA,rfl,ZW ?_⟩;refine qV.of <| qM.inv (.refl _ _) (fun(q:Nat×List Bool)=>q.1<=us.length/\q.2.length=us.length/\zM us (us.length-q.1) q.2=IK us f)
  (λq=>[(21,.int .i64 q.1)]) (λq=>[(1,.arr 1 us.length (q.2.map .bool)),(0,.box m.av)]) (λq=>us.length-q.1) (0,(List.replicate us.length false).set f true) ?_ (λ_=>rfl) ?_ ?_
 ·exact⟨aO _,ak,rfl⟩
 ·refine Zv wk ?_;repeat' first|exact Zq|apply aI
  all_goals first|(simp;done)|(rw[bC];exact WT _ _)
 rintro⟨r,d⟩ ⟨hr,hd,hF⟩ _;dsimp only at hr hd hF;refine ZS ?_ ?_<;>intro h
 ·have hrl:r<us.length:=(by simpa using h);rw[show us.length-r=(us.length-(r+1))+1 by omega]at hF;simp only[zM]at hF;clear h;refine ZW ?_;refine qV.of <| qM.inv (.refl _ _) (fun(q:Nat×List Bool)=>q.1<=us.length/\q.2.length=us.length/\GK 0 us d=GK q.1 (us.drop q.1) q.2)
   (λq=>[(25,.int .i64 q.1)]) (λq=>[(1,.arr 1 us.length (q.2.map .bool)),(0,.box m.av)]) (λq=>us.length-q.1) (0,d) ?_ (λ_=>rfl) ?_ ?_
  ·exact⟨aO _,hd,rfl⟩
  ·exact Zv wk wk
  rintro⟨i,d1⟩ ⟨hi,hd1,hP⟩ _;dsimp only at hi hd1 hP;refine ZS ?_ ?_<;>intro h
  ·have hil:i<us.length:=(by simpa using h);have hul:=hlt _ (aQ hil);have hll:(us[i]).length<=9223372036854775807:=(by have:=J8 b6g.2 _ (aQ hil);simp only[Ok]at this;simpa[maxL]using this.1);rw[aZ hil]at hP;simp only[GK]at hP;refine ZW ?_;refine rV hil ?_;generalize us[i]=l at *;refine ZW ?_;refine qV.of <| qM.inv (.refl _ _) (fun(q:Nat×List Bool)=>q.1<=l.length/\q.2.length=us.length/\CB i l d1=CB i (l.drop q.1) q.2)
    (λq=>[(32,.int .i64 q.1)]) (λq=>[(1,.arr 1 us.length (q.2.map .bool)),(0,.box m.av)]) (λq=>l.length-q.1) (0,d1) ?_ (λ_=>rfl) ?_ ?_
   ·exact⟨aO _,hd1,rfl⟩
   ·exact Zv wk wk
   rintro⟨q,d2⟩ ⟨hq,hd2,hM⟩ _;dsimp only at hq hd2 hM;refine ZS ?_ ?_<;>intro hh
   ·have Dq:q<l.length:=(by simpa using hh);have hk:=hul _ (aQ Dq);rw[aZ Dq]at hM;simp only[CB]at hM;refine ZW ?_;refine rV Dq ?_;generalize l[q]=k at *;refine ZW ?_;refine⟨aA,ZW ?_⟩;refine vC false (i:=k.toNat) ak aj ?_;refine⟨rfl,?_⟩;refine ZS ?_ ?_<;>intro hy
    ·refine ZW ?_;refine⟨aj,ZW ?_⟩;refine⟨aA,rfl,?_⟩;have hsd:EO d2 i k=d2.set k.toNat true:=(by unfold EO;rw[hy];rfl);refine ZW ?_;refine ZG ?_;refine⟨(q+1,EO d2 i k),?_,?_,?_⟩;{exact⟨Dq,by show(EO d2 i k).length=_;rw[Nc];exact hd2,hM⟩}
     ·rw[hsd];refine Zv wk ?_;repeat' first|exact Zq|apply aI
      all_goals first|(simp;done)|(rw[bC];exact Lj (A:=.tt) (b:=true) rfl d2 k.toNat)
     show l.length-(q+1)<l.length-q;omega
    refine ZW ?_;refine⟨aA,ZW ?_⟩;refine vC false (i:=i) ak aj ?_;refine⟨rfl,ZW ?_⟩;refine⟨aj,ZW ?_⟩;refine⟨aA,rfl,?_⟩;have hsd:EO d2 i k=d2.set k.toNat (d2.getD i false):=(by unfold EO;rw[hy,fE]);refine ZW ?_;refine ZG ?_;refine⟨(q+1,EO d2 i k),?_,?_,?_⟩;{exact⟨Dq,by show(EO d2 i k).length=_;rw[Nc];exact hd2,hM⟩}
    ·rw[hsd];refine Zv wk ?_;repeat' first|exact Zq|apply aI
     all_goals first|(simp;done)|(rw[bC];exact Lj (A:=.bool (d2.getD i false)) (b:=(d2.getD i false)) rfl d2 k.toNat)
    show l.length-(q+1)<l.length-q;omega
   have Dq:q=l.length:=(by have:¬q<l.length:=(by simpa using hh);omega);rw[aX aj]at hM;simp only[CB]at hM;rw[hM]at hP;refine ZW ?_;refine ZG ?_;refine⟨(i+1,d2),?_,?_,?_⟩;{exact⟨hil,hd2,hP⟩};{exact Zv wk wk};show us.length-(i+1)<us.length-i;omega
  have hil:i=us.length:=(by have:¬i<us.length:=(by simpa using h);omega);rw[aX aj]at hP;simp only[GK]at hP;rw[hP]at hF;refine ZW ?_;refine ZG ?_;refine⟨(r+1,d1),?_,?_,?_⟩;{exact⟨hrl,hd1,hF⟩};{exact Zv wk wk};show us.length-(r+1)<us.length-r;omega
 have hrl:r=us.length:=(by have:¬r<us.length:=(by simpa using h);omega);rw[hrl,gV]at hF;simp only[zM]at hF;rw[<- hF];clear h;refine ZW ?_;refine⟨⟨_,_,.freeze 4 1 0 us.length us.length us.length 1 _ rfl rfl aA (.refl _ _),?_⟩⟩;conv=>whnf
 refine⟨?_,rfl,by simp[nextId],.mk ?_ ?_⟩;{refine⟨rfl,?_⟩;refine qY ?_;simp;rw[bf aA]};{exact wk};trivial
theorem OH{i:Nat}:∀(l:List Int) (d:List Bool),(CB i l d).length=d.length
 | [],_=>rfl
 |k::l,d=>by simp only[CB];rw[OH l,Nc]
theorem MX:∀(us:List (List Int)) (i:Nat) (d:List Bool),(GK i us d).length=d.length
 | [],_,_=>rfl
 |l::us,i,d=>by simp only[GK];rw[MX us,OH]
theorem TB{us:List (List Int)}:∀(r:Nat) (d:List Bool),(zM us r d).length=d.length
 | 0,_=>rfl
 |r+1,d=>by simp only[zM];rw[TB r,MX]
def Xi(m:Md)(a:Int):List Str->Nat->Nat
 | [],e=>e
 |s::l,e=>Xi m a l (if(uF m a s).1=0 then e|||2^(uF m a s).2.2.toNat else e)
def Sl(g:Mg):Bool:=decide (g.kind=6)||decide (g.kind=7)||decide (g.kind=8)
def Hw(m:Md)(F:List Bool)(p:Nat×Bool)(y:Node):Nat×Bool :=
 if F.getD (A8 m y).toNat false=true then(Xi m y.2.1 (rP m y).ins p.1,p.2||Sl (rP m y))else p
def OE(m:Md)(F:List Bool):Nat×Bool:=(rD m).foldl (Hw m F) (0,false)
def Lc(m:Md)(x:Node):Nat×Bool :=
 if x.1=0 then(2^x.2.2.toNat,false)else if x.1=1 then(0,false)else OE m (IK (xg m) (A8 m x).toNat)
theorem Lu{m:Md}{a:Int}{s:Str}(h:(uF m a s).1=0):0<=(uF m a s).2.2/\(uF m a s).2.2<(m.evs.length:Int):=by
 have key:∀b t,(zX m b t).1=0->0<=(zX m b t).2.2/\(zX m b t).2.2<(m.evs.length:Int):=by intro b t h;unfold zX at h ⊢;by_cases h1:0<=sH m.evs t;{rw[aG h1];exact⟨h1,ED _ _⟩};rw[aB h1]at h ⊢;by_cases h2:0<=uM m.hs t;{rw[aG h2]at h;cases h};rw[aB h2]at h ⊢;by_cases h3:0<=uU (qN m b) t;{rw[aG h3]at h;cases h};rw[aB h3]at h;cases h
 unfold uF at h ⊢;by_cases h1:Ed s=true;{rw[aG h1]at h ⊢;by_cases h2:tK m.pages (s.drop 1)<0;{rw[aG h2]at h;cases h};rw[aB h2]at h ⊢;exact key _ _ h};rw[aB h1]at h ⊢;exact key _ _ h
theorem a1a{m:Md}{x:Node}(hx:x∈rD m):0<=A8 m x/\(A8 m x).toNat<(xg m).length:=by obtain⟨h1,h2⟩:=JJ hx;exact⟨h1,by simpa[xg]using(aY.1 h2).1⟩
theorem b3l(m:Md)(hM:KE m)(hB:KJ m)(top:Str)(htop:vN m (-1) top=true)(R:AV)(hR:R=.uf [.int .i64 (Lc m (uF m (-1) top)).1,.bool (Lc m (uF m (-1) top)).2]):ZQ 72 [m.av,.int .i64 (-1),.str top] [] R []:=by
 have hpl:=hB.pages;have hev:=hM.lens.1;have ht:=hM.b4v;have cT:=XV m (-1) top (.inl rfl) ht;obtain⟨he,hn0⟩:=Qm hM (.inl rfl) htop;have hok:=(hM.RY (.inl rfl) htop).ok;rw[<- he]at hok;have hxe:=Lu (m:=m) (a:=-1) (s:=top);have hxg:=OW (m:=m) (a:=-1) (s:=top) (.inl rfl);clear he;generalize uF m (-1) top=x at *;have b57:x.1≠0->x.1≠1->x.1=2:=(by intro h0 h1;rcases hok with h|h|h;{omega};{omega};exact(uK.1 h).1);clear hok;obtain⟨x1,x2,x3⟩:=x;dsimp only at hxe hn0 b57;refine ZN Tryz.func72 λhok=>?_;refine .zW cT ?_;constructor<;>intro k0;{obtain⟨f1,f2⟩:=hxe k0;rw[show Lc m (x1,x2,x3)=(2^x3.toNat,false)from aG k0]at hR;subst hR;obtain⟨z,rfl⟩:∃z:Nat,x3=z:=⟨x3.toNat,aj⟩;rw[aJ];refine ZW ?_;refine⟨aj,?_⟩;rw[Hy aj];exact ZJ};refine ZS ?_ ?_<;>intro k1;{rw[show Lc m (x1,x2,x3)=(0,false)from(aB k0).trans (aG k1)]at hR;subst hR;exact ZJ};have k2:=b57 k0 k1;have hxm:=hxg k2;rw[show Lc m (x1,x2,x3)=OE m (IK (xg m) (A8 m (x1,x2,x3)).toNat)from(aB k0).trans (aB k1)]at hR;obtain⟨_,hy2,hy3,hy4⟩:=uK.1 hxm;have hb4:=(hB.qN hy2).1;have cN:=XL m hB (x1,x2,x3) hy2 ⟨hy3,by show x3<1000000;have:x3<((qN m x2).length:Int):=hy4;have:(qN m x2).length<=100:=hb4;omega⟩;obtain⟨n1,n2⟩:=a1a hxm;obtain⟨f,hf⟩:∃f:Nat,A8 m (x1,x2,x3)=f:=⟨(A8 m (x1,x2,x3)).toNat,aj⟩;rw[hf]at cN n2 hR;rw[aJ]at n2 hR;have cb:=b3n m hB ht (Vx hB) f n2;have hFl:(IK (xg m) f).length=(rD m).length:=(by unfold IK;rw[TB];simp[xg]);clear hxg hxe b57 hxm;generalize IK (xg m) f=F at *;refine ZW ?_;refine ZR ?_;refine .zW cN ?_;refine .zW cb ?_;refine qV.of <| qM.inv (.refl _ _) (fun(q:Nat×Nat×Bool)=>q.1<=m.pages.length+1/\(wO m q.1).foldl (Hw m F) q.2=OE m F/\q.2.1<2^24)
  (λq=>[(12,.int .i64 ((q.1:Int)-1)),(6,.int .i64 q.2.1),(7,.bool q.2.2)]) (λ_=>[(0,.box m.av)]) (λq=>m.pages.length+1-q.1) (0,0,false) ?_ (λ_=>rfl) ?_ ?_
 ·exact⟨aO _,rfl,au⟩
 ·exact Zv wk wk
 rintro⟨k,p1,p2⟩ ⟨hk,hn,hp⟩ _;dsimp only at hk hn hp;refine ZS ?_ ?_<;>intro h
 ·have hkl:k<m.pages.length+1:=(by simp only[aC]at h;omega);have ha:(k:Int)-1 = -1\/(0<=(k:Int)-1/\(k:Int)-1<(m.pages.length:Int)):=aj;have hBa:=hB.qN ha;have cG:=DT m _ ha;have cF:=λs=>XV m _ s ha ht;have hNl:=λi (h:i<(qN m ((k:Int)-1)).length)=>yj? (H8 (m:=m) (a:=(k:Int)-1) h);have hga:∀(i:Nat) (h:i<(qN m ((k:Int)-1)).length),rP m (2,(k:Int)-1,(i:Int))=(qN m ((k:Int)-1))[i]:=(by intro i h;unfold rP;dsimp only;rw[aJ,aF,aH h];rfl);have hmem:∀(i:Nat) (h:i<(qN m ((k:Int)-1)).length),(2,(k:Int)-1,(i:Int))∈rD m:=λi h=>uK.2 ⟨rfl,ha,by show(0:Int)<=i;omega,by show(i:Int)<((qN m ((k:Int)-1)).length:Int);omega⟩;have cN:=fun(i:Nat) (h:i<1000000)=>XL m hB (2,(k:Int)-1,(i:Int)) ha ⟨by show(0:Int)<=i;omega,by show(i:Int)<1000000;omega⟩;rw[Ba hkl,fU]at hn;have hrest:∀p,(wO m (k+1)).foldl (Hw m F) p=OE m F->(wO m (k+1)).foldl (Hw m F) p=OE m F:=λ_ h=>h;clear h;generalize hrs:wO m (k+1)=rest at *;have hle:=EM m ((k:Int)-1);generalize b6p:(k:Int)-1=a at *;generalize b7H:y7 m a=nod at *;generalize hgs:qN m a=gs at *;refine ZW ?_;refine .zP cG λb2i=>?_;refine ZW ?_;refine qV.of <| qM.inv (.refl _ _) (fun(q:Nat×Nat×Bool)=>q.1<=gs.length/\rest.foldl (Hw m F) ((nod.drop q.1).foldl (Hw m F) q.2)=OE m F/\q.2.1<2^24)
   (λq=>[(51,.int .i64 q.1),(6,.int .i64 q.2.1),(7,.bool q.2.2)]) (λ_=>[(0,.box m.av)]) (λq=>gs.length-q.1) (0,p1,p2) ?_ (λ_=>rfl) ?_ ?_
  ·exact⟨aO _,hn,hp⟩
  ·exact Zv wk wk
  rintro⟨i,p1,p2⟩ ⟨hi,hni,hp⟩ _;dsimp only at hi hni hp;refine ZS ?_ ?_<;>intro h
  ·have hlt:i<gs.length:=(by simpa using h);have hxi:=hBa.2 _ (aQ hlt);rw[hNl i hlt,dY]at hni;have hgi:=hga i hlt;have cN:=cN i (by have:=hBa.1;omega);obtain⟨n1,n2⟩:=a1a (hmem i hlt);have n3:(A8 m (2,a,(i:Int))).toNat<F.length:=(by rw[hFl];simpa[xg]using n2);have hst:Hw m F (p1,p2) (2,a,(i:Int))=if F.getD (A8 m (2,a,(i:Int))).toNat false=true then(Xi m a gs[i].ins p1,p2||Sl gs[i])else(p1,p2):=(by unfold Hw;dsimp only;rw[hgi]);rw[hst]at hni;clear hst;generalize A8 m (2,a,(i:Int))=w at *;refine ZW ?_;refine rV hlt ?_;generalize gs[i]=g at *;refine ZW ?_;refine .zW cN ?_;refine sK false ⟨n1,aj⟩ ?_;refine ZS ?_ ?_<;>intro hF;{have hF:F.getD w.toNat false=false:=(by simpa using hF);rw[hF,aB ak]at hni;refine ZW ?_;refine ZG ?_;refine⟨(i+1,p1,p2),?_,?_,?_⟩;{exact⟨hlt,hni,hp⟩};{exact Zv wk wk};show gs.length-(i+1)<gs.length-i;omega};have hF:F.getD w.toNat false=true:=(by simpa using hF);rw[aG hF]at hni;refine ZS ?_ ?_<;>intro hd
   ·refine ZW ?_;refine qV.of <| qM.inv (.refl _ _) (fun(q:Nat×Nat)=>q.1<=g.ins.length/\Xi m a g.ins p1=Xi m a (g.ins.drop q.1) q.2/\q.2<2^24)
     (λq=>[(83,.int .i64 q.1),(6,.int .i64 q.2)]) (λ_=>[(1,.box g.av),(0,.box m.av)]) (λq=>g.ins.length-q.1) (0,p1) ?_ (λ_=>rfl) ?_ ?_
    ·exact⟨aO _,rfl,hp⟩
    ·exact Zv wk wk
    rintro⟨j,e⟩ ⟨hj,sZ,he⟩ _;dsimp only at hj sZ he;refine ZS ?_ ?_<;>intro hh
    ·have hjl:j<g.ins.length:=(by simpa using hh);rw[aZ hjl]at sZ;simp only[Xi]at sZ;refine ZW ?_;refine rV hjl ?_;generalize g.ins[j]=s at *;have cF:=cF s;have hfe:=Lu (m:=m) (a:=a) (s:=s);generalize uF m a s=y at *;obtain⟨y1,y2,y3⟩:=y;dsimp only at hfe sZ;refine ZW ?_;refine .zW cF ?_;constructor<;>intro g1
     ·obtain⟨f1,f2⟩:=hfe g1;rw[aG g1]at sZ;obtain⟨z,rfl⟩:∃z:Nat,y3=z:=⟨y3.toNat,aj⟩;have hz:z<24:=aj;have hpz:2^z<2^24:=jJ aj hz;rw[aJ]at sZ;have hor:=jg he hpz;refine ZW ?_;refine⟨aj,?_⟩;rw[Hy aj];conv=>whnf
      rw[Wi aj aj];refine ZW ?_;refine ZG ?_;refine⟨(j+1,e|||2^z),?_,?_,?_⟩;{exact⟨hjl,sZ,hor⟩};{exact Zv wk wk};show g.ins.length-(j+1)<g.ins.length-j;omega
     rw[aB g1]at sZ;refine ZW ?_;refine ZG ?_;refine⟨(j+1,e),?_,?_,?_⟩;{exact⟨hjl,sZ,he⟩};{exact Zv wk wk};show g.ins.length-(j+1)<g.ins.length-j;omega
    have hjl:j=g.ins.length:=(by have:¬j<g.ins.length:=(by simpa using hh);omega);rw[aX aj]at sZ;simp only[Xi]at sZ;rw[sZ,hd,nY]at hni;refine ZW ?_;refine ZG ?_;refine⟨(i+1,e,true),?_,?_,?_⟩;{exact⟨hlt,hni,he⟩}
    ·refine Zv ?_ ?_
     ·repeat' first|exact Zq|apply aI
      all_goals first|(show(_:Bool)=_;rfl)|(show _↔_;simp)|rfl
     exact wk
    show gs.length-(i+1)<gs.length-i;omega
   rw[hd,fE]at hni;refine ZS ?_ ?_<;>intro k6
   ·refine ZW ?_;refine qV.of <| qM.inv (.refl _ _) (fun(q:Nat×Nat)=>q.1<=g.ins.length/\Xi m a g.ins p1=Xi m a (g.ins.drop q.1) q.2/\q.2<2^24)
     (λq=>[(83,.int .i64 q.1),(6,.int .i64 q.2)]) (λ_=>[(1,.box g.av),(0,.box m.av)]) (λq=>g.ins.length-q.1) (0,p1) ?_ (λ_=>rfl) ?_ ?_
    ·exact⟨aO _,rfl,hp⟩
    ·exact Zv wk wk
    rintro⟨j,e⟩ ⟨hj,sZ,he⟩ _;dsimp only at hj sZ he;refine ZS ?_ ?_<;>intro hh
    ·have hjl:j<g.ins.length:=(by simpa using hh);rw[aZ hjl]at sZ;simp only[Xi]at sZ;refine ZW ?_;refine rV hjl ?_;generalize g.ins[j]=s at *;have cF:=cF s;have hfe:=Lu (m:=m) (a:=a) (s:=s);generalize uF m a s=y at *;obtain⟨y1,y2,y3⟩:=y;dsimp only at hfe sZ;refine ZW ?_;refine .zW cF ?_;constructor<;>intro g1
     ·obtain⟨f1,f2⟩:=hfe g1;rw[aG g1]at sZ;obtain⟨z,rfl⟩:∃z:Nat,y3=z:=⟨y3.toNat,aj⟩;have hz:z<24:=aj;have hpz:2^z<2^24:=jJ aj hz;rw[aJ]at sZ;have hor:=jg he hpz;refine ZW ?_;refine⟨aj,?_⟩;rw[Hy aj];conv=>whnf
      rw[Wi aj aj];refine ZW ?_;refine ZG ?_;refine⟨(j+1,e|||2^z),?_,?_,?_⟩;{exact⟨hjl,sZ,hor⟩};{exact Zv wk wk};show g.ins.length-(j+1)<g.ins.length-j;omega
     rw[aB g1]at sZ;refine ZW ?_;refine ZG ?_;refine⟨(j+1,e),?_,?_,?_⟩;{exact⟨hjl,sZ,he⟩};{exact Zv wk wk};show g.ins.length-(j+1)<g.ins.length-j;omega
    have hjl:j=g.ins.length:=(by have:¬j<g.ins.length:=(by simpa using hh);omega);rw[aX aj]at sZ;simp only[Xi]at sZ;rw[sZ,show Sl g=true from by unfold Sl;rw[dQ k6];rfl]at hni;refine ZW ?_;refine ZG ?_;refine⟨(i+1,e,true),?_,?_,?_⟩;{exact⟨hlt,hni,he⟩}
    ·refine Zv ?_ ?_
     ·repeat' first|exact Zq|apply aI
      all_goals first|(show(_:Bool)=_;rfl)|(show _↔_;simp)|rfl
     exact wk
    show gs.length-(i+1)<gs.length-i;omega
   refine ZS ?_ ?_<;>intro k7
   ·refine ZW ?_;refine qV.of <| qM.inv (.refl _ _) (fun(q:Nat×Nat)=>q.1<=g.ins.length/\Xi m a g.ins p1=Xi m a (g.ins.drop q.1) q.2/\q.2<2^24)
     (λq=>[(83,.int .i64 q.1),(6,.int .i64 q.2)]) (λ_=>[(1,.box g.av),(0,.box m.av)]) (λq=>g.ins.length-q.1) (0,p1) ?_ (λ_=>rfl) ?_ ?_
    ·exact⟨aO _,rfl,hp⟩
    ·exact Zv wk wk
    rintro⟨j,e⟩ ⟨hj,sZ,he⟩ _;dsimp only at hj sZ he;refine ZS ?_ ?_<;>intro hh
    ·have hjl:j<g.ins.length:=(by simpa using hh);rw[aZ hjl]at sZ;simp only[Xi]at sZ;refine ZW ?_;refine rV hjl ?_;generalize g.ins[j]=s at *;have cF:=cF s;have hfe:=Lu (m:=m) (a:=a) (s:=s);generalize uF m a s=y at *;obtain⟨y1,y2,y3⟩:=y;dsimp only at hfe sZ;refine ZW ?_;refine .zW cF ?_;constructor<;>intro g1
     ·obtain⟨f1,f2⟩:=hfe g1;rw[aG g1]at sZ;obtain⟨z,rfl⟩:∃z:Nat,y3=z:=⟨y3.toNat,aj⟩;have hz:z<24:=aj;have hpz:2^z<2^24:=jJ aj hz;rw[aJ]at sZ;have hor:=jg he hpz;refine ZW ?_;refine⟨aj,?_⟩;rw[Hy aj];conv=>whnf
      rw[Wi aj aj];refine ZW ?_;refine ZG ?_;refine⟨(j+1,e|||2^z),?_,?_,?_⟩;{exact⟨hjl,sZ,hor⟩};{exact Zv wk wk};show g.ins.length-(j+1)<g.ins.length-j;omega
     rw[aB g1]at sZ;refine ZW ?_;refine ZG ?_;refine⟨(j+1,e),?_,?_,?_⟩;{exact⟨hjl,sZ,he⟩};{exact Zv wk wk};show g.ins.length-(j+1)<g.ins.length-j;omega
    have hjl:j=g.ins.length:=(by have:¬j<g.ins.length:=(by simpa using hh);omega);rw[aX aj]at sZ;simp only[Xi]at sZ;rw[sZ,show Sl g=true from by unfold Sl;rw[dQ k7];simp]at hni;refine ZW ?_;refine ZG ?_;refine⟨(i+1,e,true),?_,?_,?_⟩;{exact⟨hlt,hni,he⟩}
    ·refine Zv ?_ ?_
     ·repeat' first|exact Zq|apply aI
      all_goals first|(show(_:Bool)=_;rfl)|(show _↔_;simp)|rfl
     exact wk
    show gs.length-(i+1)<gs.length-i;omega
   have hdg:Sl g=decide (g.kind=8):=(by unfold Sl;rw[bK k6,bK k7];rfl);refine ZW ?_;refine qV.of <| qM.inv (.refl _ _) (fun(q:Nat×Nat)=>q.1<=g.ins.length/\Xi m a g.ins p1=Xi m a (g.ins.drop q.1) q.2/\q.2<2^24)
    (λq=>[(83,.int .i64 q.1),(6,.int .i64 q.2)]) (λ_=>[(1,.box g.av),(0,.box m.av)]) (λq=>g.ins.length-q.1) (0,p1) ?_ (λ_=>rfl) ?_ ?_
   ·exact⟨aO _,rfl,hp⟩
   ·exact Zv wk wk
   rintro⟨j,e⟩ ⟨hj,sZ,he⟩ _;dsimp only at hj sZ he;refine ZS ?_ ?_<;>intro hh
   ·have hjl:j<g.ins.length:=(by simpa using hh);rw[aZ hjl]at sZ;simp only[Xi]at sZ;refine ZW ?_;refine rV hjl ?_;generalize g.ins[j]=s at *;have cF:=cF s;have hfe:=Lu (m:=m) (a:=a) (s:=s);generalize uF m a s=y at *;obtain⟨y1,y2,y3⟩:=y;dsimp only at hfe sZ;refine ZW ?_;refine .zW cF ?_;constructor<;>intro g1
    ·obtain⟨f1,f2⟩:=hfe g1;rw[aG g1]at sZ;obtain⟨z,rfl⟩:∃z:Nat,y3=z:=⟨y3.toNat,aj⟩;have hz:z<24:=aj;have hpz:2^z<2^24:=jJ aj hz;rw[aJ]at sZ;have hor:=jg he hpz;refine ZW ?_;refine⟨aj,?_⟩;rw[Hy aj];conv=>whnf
     rw[Wi aj aj];refine ZW ?_;refine ZG ?_;refine⟨(j+1,e|||2^z),?_,?_,?_⟩;{exact⟨hjl,sZ,hor⟩};{exact Zv wk wk};show g.ins.length-(j+1)<g.ins.length-j;omega
    rw[aB g1]at sZ;refine ZW ?_;refine ZG ?_;refine⟨(j+1,e),?_,?_,?_⟩;{exact⟨hjl,sZ,he⟩};{exact Zv wk wk};show g.ins.length-(j+1)<g.ins.length-j;omega
   have hjl:j=g.ins.length:=(by have:¬j<g.ins.length:=(by simpa using hh);omega);rw[aX aj]at sZ;simp only[Xi]at sZ;rw[sZ,hdg]at hni;refine ZW ?_;refine ZG ?_;refine⟨(i+1,e,decide (g.kind=8)),?_,?_,?_⟩;{exact⟨hlt,hni,he⟩}
   ·refine Zv ?_ ?_
    ·repeat' first|exact Zq|apply aI
     all_goals first|(show(_:Bool)=_;rfl)|(show _↔_;simp)|rfl
    exact wk
   show gs.length-(i+1)<gs.length-i;omega
  have hil:i=gs.length:=(by have:¬i<gs.length:=(by simpa using h);omega);rw[aX aj]at hni;simp only[List.foldl_nil]at hni;refine ZW ?_;refine ZG ?_;refine⟨(k+1,p1,p2),?_,?_,?_⟩;{exact⟨hkl,by show(wO m (k+1)).foldl (Hw m F) (p1,p2)=_;rw[hrs];exact hni,hp⟩}
  ·refine Zv ?_ ?_
   ·repeat' first|exact Zq|apply aI
    all_goals (show _=_;congr 1 <;> omega)
   exact wk
  show m.pages.length+1-(k+1)<m.pages.length+1-k;omega
 have hkl:m.pages.length+1<=k:=(by simp only[aC]at h;omega);rw[Ez hkl]at hn;simp only[List.foldl_nil]at hn;rw[<- hn]at hR;subst hR;exact ZJ
inductive Reach(m:Md)(r:Node):Node->Prop
 |root:Reach m r r
 |step {x y:Node} (h:Reach m r x) (h2:x.1=2) (hy:y∈tC m x):Reach m r y
theorem Reach.leaf{m:Md}{r x:Node}(h:Reach m r x)(hr:r.1≠2):x=r:=by
 induction h with
 |root=>rfl
 |step h h2 hy ih=>rw[ih]at h2;exact absurd h2 hr
theorem Reach.ok{m:Md}{r x:Node}(hc:AQ m)(hr:RG m r)(h:Reach m r x):RG m x:=by
 induction h with
 |root=>exact hr
 |step h h2 hy ih=>exact(yI hc ih h2).2 _ hy
inductive RI(us:List (List Int))(f:Nat):Nat->Prop
 |root:RI us f f
 |step {i:Nat} {k:Int} (h:RI us f i) (hk:k∈us.getD i []):RI us f k.toNat
theorem a2r{d:List Bool}{i:Nat}{k:Int}:LeD d (EO d i k):=by intro j h;unfold EO;rw[DL];split;{rename_i e;rw[e.1,h,nY]};exact h
theorem Nb{i:Nat}:∀(l:List Int) (d:List Bool),LeD d (CB i l d)
 | [],d=>.refl d
 |_::l,_=>a2r.trans (Nb l _)
theorem PZ:∀(us:List (List Int)) (i:Nat) (d:List Bool),LeD d (GK i us d)
 | [],_,d=>.refl d
 |l::us,i,d=>(Nb l d).trans (PZ us (i+1) _)
theorem a2p{i:Nat}:∀(l:List Int) (d:List Bool) (k:Int),k∈l->d.getD i false=true->k.toNat<d.length->(CB i l d).getD k.toNat false=true
 | [],_,_,h,_,_=>by simp at h
 |x::l,d,k,h,hd,hl=>by simp only[CB];rcases aT.1 h with rfl|h;{refine Nb l _ _ ?_;unfold EO;rw[DL,aG ⟨rfl,hl⟩,hd,Bool.or_true]};exact a2p l _ k h (a2r _ hd) (by rw[Nc];exact hl)
theorem Zr:∀(us:List (List Int)) (j:Nat) (d:List Bool) (i:Nat) (k:Int),k∈us.getD i []->d.getD (j+i) false=true->k.toNat<d.length->(GK j us d).getD k.toNat false=true
 | [],_,_,_,_,h,_,_=>by simp at h
 |l::us,j,d,0,k,h,hd,hl=>PZ us (j+1) _ _ (a2p l d k (by simpa using h) hd hl)
 |l::us,j,d,i+1,k,h,hd,hl=>Zr us (j+1) _ i k (by simpa using h) (Nb l d _ (by rw[show j+1+i=j+(i+1) by omega];exact hd)) (by rw[OH];exact hl)
def Vl(us:List (List Int))(d:List Bool):Prop:=∀i:Nat,d.getD i false=true->∀k∈us.getD i [],d.getD k.toNat false=true
theorem KP{d:List Bool}{k:Nat}:d.set k (d.getD k false)=d:=by by_cases h:k<d.length;{rw[uX h];exact List.set_getElem_self h};exact List.set_eq_of_length_le aj
theorem WB{i:Nat}:∀(l:List Int) (d:List Bool),(d.getD i false=true->∀k∈l,d.getD k.toNat false=true)->CB i l d=d
 | [],_,_=>rfl
 | k::l,d,h=>by
   have e:EO d i k=d:=by unfold EO;cases hi:d.getD i false;{rw[Bool.or_false];exact KP};have:=h hi k ak;rw[Bool.or_true];rw[<- this];exact KP
   simp only[CB];rw[e];exact WB l d λhi k hk=>h hi k (by simp[hk])
theorem Zp:∀(us:List (List Int)) (j:Nat) (d:List Bool),(∀i:Nat,d.getD (j+i) false=true->∀k∈us.getD i [],d.getD k.toNat false=true)->GK j us d=d
 | [],_,_,_=>rfl
 |l::us,j,d,h=>by simp only[GK];rw[WB l d (λhi k hk=>h 0 (by simpa using hi) k (by simpa using hk))];exact Zp us (j+1) d λi hi k hk=>h (i+1) (by rw[show j+(i+1)=j+1+i by omega];exact hi) k (by simpa using hk)
theorem Tz{us:List (List Int)}{d:List Bool}(h:Vl us d):∀r,zM us r d=d
 | 0=>rfl
 |r+1=>by simp only[zM];rw[Zp us 0 d (λi hi=>h i (by rwa[bC]at hi))];exact Tz h r
theorem NV{us:List (List Int)}(hus:∀i,∀k∈us.getD i [],k.toNat<us.length):∀(r:Nat) (d:List Bool),d.length=us.length->d.count false<=r->Vl us (zM us r d)
 | 0,d,hd,h=>by simp only[zM];intro i _ k hk;have hk:=hus i k hk;have h0:¬false∈d:=List.count_eq_zero.1 aj;rw[uX aj];have hm:=aQ (l:=d) (n:=k.toNat) aj;cases e:d[k.toNat]' aj;{rw[e]at hm;exact absurd hm h0};rfl
 | r+1,d,hd,h=>by
   by_cases hc:Vl us d;{rw[Tz hc];exact hc};simp only[zM];refine NV hus r _ (by rw[MX];exact hd) ?_;obtain⟨h1,h2⟩:=cnt_lt d (GK 0 us d) (MX us 0 d).symm (PZ us 0 d);have:∃i:Nat,d.getD i false=true/\∃k∈us.getD i [],¬d.getD k.toNat false=true:=by apply aU;intro hn;refine hc λi hi k hk=>?_;apply aU;intro hne;exact hn ⟨i,hi,k,hk,hne⟩
   obtain⟨i,hi,k,hk,hne⟩:=this;have hkl:=hus i k hk;have:=h2 ⟨k.toNat,aj,by simpa using hne,Zr us 0 d i k hk (by rwa[bC]) aj⟩;omega
theorem a0H{us:List (List Int)}(hus:∀i,∀k∈us.getD i [],k.toNat<us.length)(f:Nat):Vl us (IK us f) :=
 NV hus _ _ ak (by have:=List.count_le_length (a:=false) (l:=(List.replicate us.length false).set f true);simpa using this)
def a4E(us:List (List Int))(f:Nat)(d:List Bool):Prop:=∀j:Nat,d.getD j false=true->RI us f j
theorem a2q{us:List (List Int)}{f i:Nat}:∀(l:List Int) (d:List Bool),(∀k∈l,k∈us.getD i [])->a4E us f d->a4E us f (CB i l d)
 | [],_,_,h=>h
 |k::l,d,hl,h=>by simp only[CB];refine a2q l _ (λk hk=>hl k (by simp[hk])) λj hj=>?_;unfold EO at hj;rw[DL]at hj;split at hj;{rename_i e;rw[<- e.1];rw[gG]at hj;rcases hj with g|g;{exact h _ g};exact .step (h _ g) (hl k ak)};exact h j hj
theorem a5r{us:List (List Int)}{f:Nat}:∀(l:List (List Int)) (i:Nat) (d:List Bool),us.drop i=l->a4E us f d->a4E us f (GK i l d)
 | [],_,_,_,h=>h
 | x::l,i,d,hl,h=>by
   simp only[GK];have h1:us[i]? = some x:=by rw[<- List.head?_drop,hl];rfl
   have h2:us.drop (i+1)=l:=(by rw[<- List.tail_drop,hl];rfl);exact a5r l (i+1) _ h2 (a2q x d (λk hk=>by rw[aF,h1];exact hk) h)
theorem Zk{us:List (List Int)}{f:Nat}:∀(r:Nat) (d:List Bool),a4E us f d->a4E us f (zM us r d)
 | 0,_,h=>h
 |r+1,d,h=>by simp only[zM];exact Zk r _ (a5r us 0 d rfl h)
theorem Zj{us:List (List Int)}:∀(r:Nat) (d:List Bool),LeD d (zM us r d)
 | 0,d=>.refl d
 |r+1,d=>by simp only[zM];exact(PZ us 0 d).trans (Zj r _)
theorem a7w{us:List (List Int)}(hus:∀i,∀k∈us.getD i [],k.toNat<us.length){f:Nat}(hf:f<us.length)(j:Nat):(IK us f).getD j false=true↔RI us f j:=by
 constructor;{refine Zk (us:=us) us.length _ (λj hj=>?_) j;rw[DL]at hj;split at hj;{rename_i e;rw[<- e.1];exact .root};rw[aF,eU]at hj;split at hj <;> simp at hj};intro h;induction h with
 |root=>exact Zj _ _ _ (by rw[DL,aG ⟨rfl,by simpa using hf⟩])
 |step h hk ih=>exact a0H hus f _ ih _ hk
theorem a8j{m:Md}:∀i,∀k∈(xg m).getD i [],k.toNat<(xg m).length:=by intro i k hk;by_cases h:i<(xg m).length;{rw[uX h]at hk;have:=a0X _ (aQ h) k hk;omega};rw[aF,gy aj]at hk;simp at hk
theorem b1O{m:Md}{x y:Node}(hx:x∈rD m)(hy:y∈rD m)(h:(A8 m x).toNat=(A8 m y).toNat):x=y:=by obtain⟨_,h1⟩:=JJ hx;obtain⟨_,h2⟩:=JJ hy;rw[h,h2]at h1;exact(aW h1).symm
theorem WC{m:Md}(hc:AQ m){r:Node}(hr:r∈rD m){y:Node}(hy:y∈rD m):(IK (xg m) (A8 m r).toNat).getD (A8 m y).toNat false=true↔Reach m r y:=by
 rw[a7w a8j (a1a hr).2];constructor
 ·intro h;have key:∀j,RI (xg m) (A8 m r).toNat j->∃z∈rD m,(A8 m z).toNat=j/\Reach m r z:=by
   intro j h;induction h with
   |root=>exact⟨r,hr,rfl,.root⟩
   |step h hk ih =>obtain⟨z,hz,e,hR⟩:=ih;rw[<- e,Vy hz,MK hc hz]at hk;obtain⟨w,hw,rfl⟩:=bZ.1 hk;obtain⟨hw,h2⟩:=fF.1 hw;have hz2:=(uK.1 hz).1;exact⟨w,(yI hc ((yI hc (.inr (.inr hz)) hz2).2 w hw) (eu h2)).1,rfl,.step hR hz2 hw⟩
  obtain⟨z,hz,e,hR⟩:=key _ h;rw[<- b1O hz hy e];exact hR
 intro h;have key:∀z,Reach m r z->z.1=2->RI (xg m) (A8 m r).toNat (A8 m z).toNat:=by
  intro z h;induction h with
  |root=>intro _;exact .root
  |step h h2 hy ih =>rename_i a b;intro hb;have ha:=(yI hc (h.ok hc (.inr (.inr hr))) h2).1;refine .step (ih h2) ?_;rw[Vy ha,MK hc ha];exact bZ.2 ⟨b,fF.2 ⟨hy,by simpa using hb⟩,rfl⟩
 exact key y h (uK.1 hy).1
theorem a6g{m:Md}{a:Int}{i:Nat}:∀(l:List Str) (e:Nat),(Xi m a l e).testBit i=true↔(e.testBit i=true\/∃s∈l,(uF m a s).1=0/\(uF m a s).2.2.toNat=i)
 | [],e=>by simp[Xi]
 |s::l,e=>by simp only[Xi];rw[a6g l];by_cases h:(uF m a s).1=0;{rw[aG h,Nat.testBit_or,lV];simp only[gG,bW,aT,oh];constructor;{rintro((h1|h1)|h1);{exact .inl h1};{exact .inr (.inl ⟨h,h1⟩)};exact .inr (.inr h1)};rintro(h1|h1|h1);{exact .inl (.inl h1)};{exact .inl (.inr h1.2)};exact .inr h1};rw[aB h];simp only[aT,oh];constructor;{rintro(h1|h1);{exact .inl h1};exact .inr (.inr h1)};rintro(h1|h1|h1);{exact .inl h1};{exact absurd h1.1 h};exact .inr h1
theorem Wx{m:Md}{F:List Bool}{i:Nat}:∀(l:List Node) (p:Nat×Bool),
  (((l.foldl (Hw m F) p).1.testBit i=true↔(p.1.testBit i=true\/∃y∈l,F.getD (A8 m y).toNat false=true/\∃s∈(rP m y).ins,(uF m y.2.1 s).1=0/\(uF m y.2.1 s).2.2.toNat=i)) /\
  ((l.foldl (Hw m F) p).2=true↔(p.2=true\/∃y∈l,F.getD (A8 m y).toNat false=true/\Sl (rP m y)=true)))
 | [],p=>ak
 |y::l,p=>by obtain⟨h1,h2⟩:=Wx (i:=i) l (Hw m F p y);simp only[dY];rw[h1,h2];simp only[aT,oh];by_cases h:F.getD (A8 m y).toNat false=true;{have e:Hw m F p y=(Xi m y.2.1 (rP m y).ins p.1,p.2||Sl (rP m y)):=aG h;rw[e];dsimp only;rw[a6g,gG];simp only[h,true_and,or_assoc,and_self]};have e:Hw m F p y=p:=aB h;rw[e];simp only[h,false_and,false_or,and_self,dN]
theorem a2a{m:Md}(hM:KE m){y:Node}(hy:y∈rD m):Du (rP m y).kind = !Sl (rP m y):=by obtain⟨_,h2,h3,h4⟩:=uK.1 hy;have hk:y.2.2.toNat<(qN m y.2.1).length:=aj;have ho:=(hM.gate h2 hk).own;have e:rP m y=(qN m y.2.1)[y.2.2.toNat]:=(by unfold rP;exact uX hk);rw[<- e]at ho;generalize rP m y=g at *;unfold uP at ho;split at ho;{cases ho};split at ho;{cases ho};rename_i h5 h6;have:g.kind=0\/g.kind=1\/g.kind=2\/g.kind=3\/g.kind=4\/g.kind=5\/g.kind=6\/g.kind=7\/g.kind=8:=aj;unfold Du Sl;rcases this with e|e|e|e|e|e|e|e|e <;> simp[e]
theorem Reach.trans{m:Md}{x y z:Node}(h:Reach m x y)(g:Reach m y z):Reach m x z:=by
 induction g with
 |root=>exact h
 |step _ h2 hy ih=>exact ih.step h2 hy
theorem a2R{m:Md}(hc:AQ m){rank:Node->Nat}(hr:QY m rank)(vars:Int):∀(n:Nat) (x:Node) (st:CS),RG m x->lvl rank x<n->(su m vars n x st).1.1=true ->
  ∃y,Reach m x y/\y∈rD m/\Du (rP m y).kind=false
 | 0,_,_,_,h,_=>aj
 | n+1,x,st,hx,hn,h=>by
   unfold su at h;split at h;{cases h};rename_i h0;split at h;{cases h};split at h;{cases h};rename_i h1;have h2:x.1=2:=by rcases hx with h|h|h;{omega};{omega};exact(uK.1 h).1
   obtain⟨hxa,hk⟩:=yI hc hx h2;split at h;{exact⟨x,.root,hxa,by assumption⟩};split at h
   ·rename_i he;have hlv:rank x<n:=by unfold lvl at hn;rw[aG h2]at hn;omega
    have key:∀(l:List Node) (s:CS) (acc:List Int),(∀y∈l,y∈tC m x)->(vZ (su m vars n) l s acc).1.1=true->∃y∈tC m x,∃s,(su m vars n y s).1.1=true:=by
     intro l;induction l with
     |nil=>intro s acc _ h;cases h
     |cons y l ih =>intro s acc hl h;unfold vZ at h;split at h;{exact⟨y,hl y ak,s,by assumption⟩};exact ih _ _ (λz hz=>hl z (by simp[hz])) h
    obtain⟨y,hy,s,hs⟩:=key _ _ _ (λ_ h=>h) he;have hly:lvl rank y<n:=(by unfold lvl;split;{rename_i e;have:=hr x hx h2 y hy e;omega};omega);obtain⟨z,hz1,hz2,hz3⟩:=a2R hc hr vars n y s (hk y hy) hly hs;exact⟨z,(Reach.root.step h2 hy).trans hz1,hz2,hz3⟩
   cases h
def GoodS(m:Md)(st:CS):Prop:=∀z:Node,lookO st.es z≠none->z.1=2->Du (rP m z).kind=true/\∀y∈tC m z,y.1=0\/lookO st.es y≠none
def Done(st:CS)(x:Node):Prop:=x.1=0\/lookO st.es x≠none
def LeS(s t:CS):Prop:=∀z,lookO s.es z≠none->lookO t.es z≠none
theorem a0o{m:Md}(vars:Int):∀(n:Nat) (x:Node) (st:CS),GoodS m st->(su m vars n x st).1.1=false->GoodS m (su m vars n x st).2/\Done (su m vars n x st).2 x/\LeS st (su m vars n x st).2
 | 0,_,_,_,h=>by cases h
 | n+1,x,st,hg,h=>by
   have push:∀{s:CS} (nd:Nd),GoodS m s->LeS st s->(x.1=2->Du (rP m x).kind=true/\∀y∈tC m x,Done s y)->GoodS m (xK vars s x nd).2/\Done (xK vars s x nd).2 x/\LeS st (xK vars s x nd).2:=by
    intro s nd h1 h2 h3;have mono:LeS s (xK vars s x nd).2:=by intro z hz;show lookO (mark s.es x _) z≠none;rw[CG];split;{simp};exact hz
    refine⟨λz hz hz2=>?_,.inr ?_,λz hz=>mono z (h2 z hz)⟩;{have hz:lookO (mark s.es x (vars+s.nodes.length)) z≠none:=hz;rw[CG]at hz;by_cases e:x=z;{subst e;obtain⟨k1,k2⟩:=h3 hz2;exact⟨k1,λy hy=>(k2 y hy).imp id (mono y)⟩};rw[aB e]at hz;obtain⟨k1,k2⟩:=h1 z hz hz2;exact⟨k1,λy hy=>(k2 y hy).imp id (mono y)⟩};show lookO (mark s.es x _) x≠none;rw[CG,aG rfl];simp
   unfold su at h ⊢;split;{rename_i h0;exact⟨hg,.inl h0,λ_ h=>h⟩};rename_i h0;rw[aB h0]at h;split;{rename_i a ha;exact⟨hg,.inr (by rw[ha];simp),λ_ h=>h⟩};rename_i hn;simp only[hn]at h;split;{rename_i h1;exact push _ hg (λ_ h=>h) (λe=>by omega)};rename_i h1;rw[aB h1]at h;split;{rename_i hs;rw[aG hs]at h;cases h};rename_i hs;rw[aB hs]at h;have key:∀(l:List Node) (s:CS) (acc:List Int),GoodS m s->(vZ (su m vars n) l s acc).1.1=false->GoodS m (vZ (su m vars n) l s acc).2/\(∀y∈l,Done (vZ (su m vars n) l s acc).2 y)/\LeS s (vZ (su m vars n) l s acc).2:=by
    intro l;induction l with
    |nil=>intro s acc h _;exact⟨h,ak,λ_ h=>h⟩
    |cons y l ih =>intro s acc h he;unfold vZ at he ⊢;split;{rename_i hb;rw[aG hb]at he;cases he};rename_i hb;rw[aB hb]at he;obtain⟨g1,g2,g3⟩:=a0o vars n y s h (by simpa using hb);obtain⟨i1,i2,i3⟩:=ih _ _ g1 he;refine⟨i1,λz hz=>?_,λz hz=>i3 z (g3 z hz)⟩;rcases aT.1 hz with rfl|hz;{exact g2.imp id (i3 z)};exact i2 z hz
   split;{rename_i he;rw[aG he]at h;cases h};rename_i he;obtain⟨k1,k2,k3⟩:=key _ _ _ hg (by simpa using he);exact push _ k1 k3 λ_=>⟨by simpa using hs,k2⟩
theorem a1s{m:Md}{vars:Int}{n:Nat}{x:Node}(h:(su m vars n x ⟨[],[]⟩).1.1=false):∀y,Reach m x y->y.1=2->Du (rP m y).kind=true:=by
 obtain⟨h1,h2,_⟩:=a0o (m:=m) vars n x ⟨[],[]⟩ (λz hz=>by simp[lookO]at hz) h;have key:∀y,Reach m x y->Done (su m vars n x ⟨[],[]⟩).2 y:=by
  intro y hy;induction hy with
  |root=>exact h2
  |step _ hk hy ih =>rcases ih with e|e;{omega};exact(h1 _ e hk).2 _ hy
 intro y hy e;rcases key y hy with k|k;{omega};exact(h1 y k e).1
theorem a4f{m:Md}(hM:KE m){s:Str}(hs:vN m (-1) s=true):(y8 m s).1.1=(Lc m (uF m (-1) s)).2:=by
 obtain⟨he,_⟩:=Qm hM (.inl rfl) hs;have hok:=(hM.RY (.inl rfl) hs).ok;have hc:=hM.closed;obtain⟨rank,hr,hb⟩:=hM.rank;rw[he];unfold y8;generalize zf m (-1) s=x at *;have hiff:(su m m.evs.length (Lr m) x ⟨[],[]⟩).1.1=true↔∃y,Reach m x y/\y∈rD m/\Sl (rP m y)=true:=by
  constructor;{intro h;obtain⟨y,h1,h2,h3⟩:=a2R hc hr _ _ x _ hok (hb x) h;refine⟨y,h1,h2,?_⟩;rw[a2a hM h2]at h3;simpa using h3};rintro⟨y,h1,h2,h3⟩;cases h:(su m m.evs.length (Lr m) x ⟨[],[]⟩).1.1 with
  |true=>rfl
  |false =>have:=a1s h y h1 (uK.1 h2).1;rw[a2a hM h2,h3]at this;cases this
 rw[jl,hiff];unfold Lc;by_cases h0:x.1=0;{rw[aG h0];refine⟨fun⟨y,h1,h2,_⟩=>?_,λh=>by cases h⟩;have:=h1.leaf aj;subst this;have:=(uK.1 h2).1;omega};rw[aB h0];by_cases h1:x.1=1;{rw[aG h1];refine⟨fun⟨y,h2,h3,_⟩=>?_,λh=>by cases h⟩;have:=h2.leaf aj;subst this;have:=(uK.1 h3).1;omega};rw[aB h1];have hx:x∈rD m:=(by rcases hok with h|h|h;{omega};{omega};exact h);unfold OE;rw[(Wx (i:=0) (rD m) (0,false)).2];constructor;{rintro⟨y,h2,h3,h4⟩;exact .inr ⟨y,h3,(WC hc hx h3).2 h2,h4⟩};rintro(h|⟨y,h2,h3,h4⟩);{cases h};exact⟨y,(WC hc hx h2).1 h3,h2,h4⟩
abbrev bAV(ve:Int)(st:CS):AV:=.ag [.ag [.int .i64 ve,.sl 3 (st.nodes.map Nd.av) (.own 2),.int .i64 0],.sl 3 (st.es.map λe=>OG e.1) (.own 1),.sl 1 (st.es.map λe=>.int .i64 e.2) (.own 0)]
abbrev hpR(st:CS):Heap:=[(2,.tok 3 st.nodes.length),(1,.tok 3 st.es.length),(0,.tok 1 st.es.length)]
theorem b2S(k:Int):ZQ 134 [.int .i64 k] [] (.int .i64 (if k=1 then 3 else if k=2 then 4 else if k=3 then 1 else if k=4 then 5 else 2)) []:=by
 obtain⟨a,ha⟩:∃a:Int,(if k=1 then 3 else if k=2 then 4 else if k=3 then 1 else if k=4 then 5 else 2)=a:=⟨_,rfl⟩;rw[ha];refine ZN Tryz.func134 λhok=>?_;repeat' (first|(refine aP (λ_=>?_) (λ_=>?_) <;> ((try dsimp only[UA]);(conv=>whnf))))
 all_goals
  refine ZF ?_
 all_goals
  rw[<- ha];repeat' first|exact Zq|apply aI
 all_goals simp_all
theorem a5S{k:Int}(h:Du k=true):(if k=1 then(3:Int)else if k=2 then 4 else if k=3 then 1 else if k=4 then 5 else 2)=GV k:=by unfold Du at h;simp only[gG,bW]at h;unfold GV;rcases h with((((h|h)|h)|h)|h)|h <;> subst h <;> rfl
theorem a7H{α:Type}{l:List α}{x:α}{k:α->Prop}(h:k x):DZ (l++[x]) ((((l++[x]).length:Nat):Int)-1) k :=
 ⟨⟨x,⟨ak,by
  have:((((l++[x]).length:Nat):Int)-1).toNat=l.length:=ak;rw[this];simp⟩,h⟩⟩
theorem a1D(ve:Int)(hv:0<=ve/\ve<=100)(st:CS)(hs:st.nodes.length<=100000/\st.es.length<=100000)(x:Node)(nd:Nd)(hn:lookO st.es x=none) :
  ZQ 133 [bAV ve st,OG x,nd.av] (hpR st) (.uf [bAV ve (xK ve st x nd).2,.int .i64 (ve+st.nodes.length)]) (hpR (xK ve st x nd).2):=by
 have e:(xK ve st x nd).2=⟨st.nodes++[nd],st.es++[(x,ve+st.nodes.length)]⟩:=(by unfold xK;rw[(WE hn).1]);rw[e];refine ZN Tryz.func133 λhok=>?_;refine⟨by rw[aC],.mk (by simp[maxL] <;> omega) (by simp <;> omega) (ZW ?_)⟩;refine⟨by rw[aC],.mk (by simp[maxL] <;> omega) (by simp <;> omega) (ZW ?_)⟩;refine⟨rQ (by simp <;> omega) (by simp <;> omega),ZW ?_⟩;refine⟨rQ (by simp <;> omega) (by simp <;> omega),ZW ?_⟩;refine⟨by rw[aC],.mk (by simp[maxL] <;> omega) (by simp <;> omega) (ZW ?_)⟩;refine wX.late [2,4] ⟨[false,true,false,true,false,true,true,true,true,false,true],by kernel_rfl,?_⟩;conv=>whnf
 refine⟨rQ (by simp <;> omega) (by simp <;> omega),?_⟩;conv=>whnf
 refine a7H ?_;conv=>whnf
 (refine aI (by(conv=>whnf)<;>exact rfl) ?_;(conv=>whnf))
 (refine aI (by(conv=>whnf)<;>exact rfl) ?_;(conv=>whnf))
 refine ZE ?_ ?_
 ·repeat' first|exact Zq|apply aI
  all_goals first|(show sS _ (List.map _ (_++[_]));rw[aV];refine Ar ?_ (lR _);(repeat' first|exact rfl|exact trivial|exact lR _|apply aI);done)|(show sS _ (List.map _ (_++[_]));rw[aV];refine Ar ?_ (lR _);exact⟨rfl,by simp <;> omega⟩)|(simp;done)|(simp;omega)
 repeat' first|exact Zq|apply aI
 all_goals first|(simp;done)|(simp;omega)
theorem a2t{x:Node}:∀{es:Marks} {i:Nat} (h:i<es.length),es[i].1=x->(∀(j:Nat) (hj:j<es.length),j<i->es[j].1≠x)->lookO es x=some es[i].2
 | [],_,h,_,_=>by simp at h
 |(y,u)::es,0,_,h1,_=>by simp only[jW]at h1;exact aG h1
 |(y,u)::es,i+1,h,h1,h2=>by have:=h2 0 ak aj;simp only[jW]at this;simp only[lookO,aB this,mZ];exact a2t (by simpa using h) (by simpa using h1) λj hj hji=>by have:=h2 (j+1) (by simpa using hj) aj;simpa using this
theorem a2s{x:Node}:∀{es:Marks},(∀(j:Nat) (hj:j<es.length),es[j].1≠x)->lookO es x=none
 | [],_=>rfl
 |(y,u)::es,h=>by have:=h 0 ak;simp only[jW]at this;simp only[lookO,aB this];exact a2s λj hj=>by have:=h (j+1) (by simpa using hj);simpa using this
abbrev zB:AV:=.ag [.ag [.int .i64 0,.qW,.int .i64 0],.qW,.qW]
theorem IL.b0w{m:Md}(hB:KJ m){st:CS}(h:IL m st):st.es.length<=20000:=by rw[<- h.len];exact h.short hB
theorem a4n(m:Md)(hM:KE m)(hB:KJ m)(rank:Node->Nat)(hr:QY m rank):∀(n:Nat) (a:Int) (s:Str) (st:CS),(a = -1\/(0<=a/\a<(m.pages.length:Int)))->vN m a s=true->lvl rank (zf m a s)<n->IL m st ->
  (su m m.evs.length n (zf m a s) st).1.1=false ->
  ZQ 73 [bAV m.evs.length st,m.av,.int .i64 a,.str s] (hpR st) (.uf [bAV m.evs.length (su m m.evs.length n (zf m a s) st).2,.int .i64 (su m m.evs.length n (zf m a s) st).1.2]) (hpR (su m m.evs.length n (zf m a s) st).2):=by
 intro n;induction n with
 |zero=>intro a s st _ _ h;omega
 | succ n ih =>
   intro a s st ha hs hn hI hne;have hin:=hM.RY ha hs;have hev:=hM.lens.1;have cF:=XV m a s ha hM.b4v;rw[(Qm hM ha hs).1]at cF;have hxo:=hin.ok;have hshort:=hI.short hB;have b6d:=hI.b0w hB;have hcl:=hM.closed;have hkk:=λh2=>yI hcl hxo h2;have hrk:=hr _ hxo;have hInv:=QA hcl hr m.evs.length n;generalize zf m a s=x at *;generalize hve:(m.evs.length:Int)=ve at *;obtain⟨x1,x2,x3⟩:=x;refine ZN Tryz.func73 λhok=>?_;refine .zW cF ?_;constructor<;>intro h0;{rw[show su m ve (n+1) (x1,x2,x3) st=((false,x3),st)from aG h0];refine ZW ?_;exact ZX};refine ZW ?_;refine qV.of <| qM.inv (.refl _ _) (fun(i:Nat)=>i<=st.es.length/\∀(j:Nat) (hj:j<st.es.length),j<i->st.es[j].1≠(x1,x2,x3))
    (λi=>[(41,.int .i64 i)]) (λ_=>(6,.box (OG (x1,x2,x3)))::(5,.box zB)::(4,.box m.av)::(3,.box (bAV ve st))::hpR st) (λi=>st.es.length-i) 0 ?_ (λ_=>rfl) ?_ ?_
   ·exact⟨aO _,aj⟩
   ·exact ZV
   rintro i ⟨hi,hno⟩ _;refine ZS ?_ ?_<;>intro hh
   ·have hil:i<st.es.length:=(by simpa using hh);refine ZW ?_;refine rV (f:=λe:Node×Int=>OG e.1) hil ?_;refine ZS ?_ ?_<;>intro h3
    ·have hx:st.es[i].1=(x1,x2,x3):=(by generalize st.es[i].1=y at *;obtain⟨y1,y2,y3⟩:=y;simpa[YO,eqP]using h3);have hlo:=a2t hil hx hno;have hR:su m ve (n+1) (x1,x2,x3) st=((false,st.es[i].2),st):=(by unfold su;rw[aB h0,hlo]);rw[hR];refine ZW ?_;refine wX.late [2] ⟨[false,true,false,true,true,true,false,true],by kernel_rfl,?_⟩;conv=>whnf
     refine rV (f:=λe:Node×Int=>.int .i64 e.2) hil ?_;conv=>whnf
     (refine aI (by(conv=>whnf)<;>exact rfl) ?_;(conv=>whnf))
     exact ZX
    refine ZW ?_;refine ZG ?_;refine⟨i+1,?_,?_,?_⟩;{refine⟨hil,λj hj hji e=>?_⟩;by_cases b7L:j=i;{subst b7L;apply h3;rw[e];simp[YO,eqP]};exact hno j hj aj e};{exact ZV};omega
   have hil:i=st.es.length:=(by(have:¬i<st.es.length:=by simpa using hh);omega);subst hil;clear hh;have hlo:=a2s λj hj=>hno j hj hj;refine ZS ?_ ?_<;>intro h1;{have hh:0<=x3/\x3<(m.hs.length:Int):=(by rcases hxo with h|h|h;{exact absurd h.1 h0};{exact⟨h.2.2.1,h.2.2.2⟩};have:=(uK.1 h).1;dsimp only at this;omega);have hR:su m ve (n+1) (x1,x2,x3) st=xK ve st (x1,x2,x3) ⟨0,if(Ih m (x1,x2,x3)).on=true then 1 else 0,[]⟩:=(by unfold su;rw[aB h0,hlo];exact aG h1);rw[hR];refine ZW ?_;refine sK default hh ?_;rw[show m.hs.getD x3.toNat default=Ih m (x1,x2,x3)from rfl];generalize Ih m (x1,x2,x3)=hs at *;refine ZS ?_ ?_<;>intro g;{rw[aG g];have cN:=a1D ve aj st aj (x1,x2,x3) ⟨0,1,[]⟩ hlo;refine ZW ?_;refine .gen _ _ (qX.frame [0,1,2] cN ⟨rfl,rfl,rfl,rfl⟩ ?_ ?_) λ_=>?_;{exact wk};{exact wk};refine ZW ?_;exact ZX};rw[aB (by rw[g];simp)];have cN:=a1D ve aj st aj (x1,x2,x3) ⟨0,0,[]⟩ hlo;refine ZW ?_;refine .gen _ _ (qX.frame [0,1,2] cN ⟨rfl,rfl,rfl,rfl⟩ ?_ ?_) λ_=>?_;{exact wk};{exact wk};refine ZW ?_;exact ZX};have h2:x1=2:=(by rcases hxo with h|h|h;{exact absurd h.1 h0};{exact absurd h.1 h1};exact(uK.1 h).1);subst h2;obtain⟨hxa,hkk⟩:=hkk rfl;obtain⟨_,hpg,hix⟩:=uK.1 hxa;have hrk:=hrk rfl;have hlv:rank (2,x2,x3)<n:=(by unfold lvl at hn;rw[aG rfl]at hn;omega);have hgm:rP m (2,x2,x3)∈qN m x2:=(by unfold rP;rw[aF,aH (by dsimp only at hix ⊢;omega)];exact aQ _);have hil:(rP m (2,x2,x3)).ins.length<=40:=by
    have:=hgm;unfold qN at this;split at this;{exact hB.gates.2 _ this};rw[aF]at this;cases hp:m.pages[x2.toNat]? with
    |none=>rw[hp]at this;exact absurd this (by show ¬rP m (2,x2,x3)∈([]:List Mg);simp)
    |some p=>rw[hp]at this;exact(hB.KX p (cZ hp)).2 _ this
   have hins:∀(j:Nat) (h:j<(rP m (2,x2,x3)).ins.length),vN m x2 (rP m (2,x2,x3)).ins[j]=true/\(tC m (2,x2,x3))[j]? = some (zf m x2 (rP m (2,x2,x3)).ins[j]):=λj h =>
    ⟨hM.b0K hpg hgm (aQ h),by simp[tC,h]⟩
   have hlen:(tC m (2,x2,x3)).length=(rP m (2,x2,x3)).ins.length:=(by simp[tC]);have hmem:∀y∈tC m (2,x2,x3),lvl rank y<n:=λy hy=>(by unfold lvl;split;{rename_i e;have:=hrk y hy e;omega};omega);have hR:su m ve (n+1) (2,x2,x3) st=if Du (rP m (2,x2,x3)).kind=false then((true,0),st)
    else if(vZ (su m ve n) (tC m (2,x2,x3)) st []).1.1=true then((true,0),(vZ (su m ve n) (tC m (2,x2,x3)) st []).2)
    else xK ve (vZ (su m ve n) (tC m (2,x2,x3)) st []).2 (2,x2,x3) ⟨GV (rP m (2,x2,x3)).kind,(rP m (2,x2,x3)).k,(vZ (su m ve n) (tC m (2,x2,x3)) st []).1.2⟩:=by
    conv=>lhs;unfold su
    rw[aB h0,hlo];exact aB h1
   rw[hR]at hne;have hst:Du (rP m (2,x2,x3)).kind=true:=by
    cases hk:Du (rP m (2,x2,x3)).kind with
    |true=>rfl
    |false=>rw[aG hk]at hne;cases hne
   rw[aB (by rw[hst];simp)]at hR hne;have hne2:(vZ (su m ve n) (tC m (2,x2,x3)) st []).1.1=false:=by
    cases hk:(vZ (su m ve n) (tC m (2,x2,x3)) st []).1.1 with
    |false=>rfl
    |true=>rw[aG hk]at hne;cases hne
   rw[aB (by rw[hne2];simp)]at hR;have cK:=b2S (rP m (2,x2,x3)).kind;rw[a5S hst]at cK;have cG:=DT m x2 hpg;refine ZW ?_;refine .zW cG ?_;refine sK default hix ?_;have hga:(qN m x2).getD x3.toNat default=rP m (2,x2,x3):=rfl;rw[hga];generalize rP m (2,x2,x3)=g at *;generalize tC m (2,x2,x3)=K at *;refine ZW ?_;refine ZR ?_;refine .zW cK ?_;generalize hW:su m ve n=W at *;generalize hS:vZ W K st []=Rz at *;refine qV.of <| qM.inv (.GY 8 [2] 1 [] (.ag [.int .i64 (GV g.kind),.int .i64 g.k,.qW]) .qW _ rfl rfl (.inl ⟨rfl,rfl⟩) rfl (.refl _ _))
    (fun(q:Nat×CS×List Int)=>q.1<=g.ins.length/\vZ W (K.drop q.1) q.2.1 q.2.2=Rz/\q.2.2.length=q.1/\IL m q.2.1/\(∀z:Node,z.1=2->rank (2,x2,x3)<=rank z->lookO st.es z=none->lookO q.2.1.es z=none))
    (λq=>[(87,.int .i64 q.1)]) (λq=>(9,.tok 1 q.1)::(8,.box (.ag [.int .i64 (GV g.kind),.int .i64 g.k,.sl 1 (q.2.2.map (.int .i64)) (.own 9)]))::(7,.gone)::(6,.box (OG (2,x2,x3)))::(5,.box zB)::(4,.box m.av)::(3,.box (bAV ve q.2.1))::hpR q.2.1) (λq=>g.ins.length-q.1) (0,st,[]) ?_ (λ_=>rfl) ?_ ?_
   ·exact⟨aO _,hS,rfl,hI,λ_ _ _ h=>h⟩
   ·exact ZV
   rintro⟨j,sj,acc⟩ ⟨hj,sZ,hacc,hIj,hzj⟩ _;dsimp only at hj sZ hacc hIj hzj;refine ZS ?_ ?_<;>intro hh
   ·have hjl:j<g.ins.length:=(by simpa using hh);obtain⟨hij,hKj⟩:=hins j hjl;rw[yj? hKj]at sZ;unfold vZ at sZ;have hyK:=cZ hKj;have hlj:=hmem _ hyK;have cw:=ih x2 g.ins[j] sj hpg hij hlj hIj;have hIr:=hInv (zf m x2 g.ins[j]) sj (hM.RY hpg hij).ok hIj;have hyr:=hrk _ hyK;refine ZW ?_;refine rV hjl ?_;generalize g.ins[j]=s2 at *;generalize zf m x2 s2=y at *;generalize hr0:W y sj=r at *;obtain⟨⟨rb,ra⟩,rs⟩:=r;dsimp only at sZ hIr cw;have hrb:rb=false:=by
     cases rb with
     |false=>rfl
     |true=>rw[aG rfl]at sZ;rw[<- sZ]at hne2;cases hne2
    subst hrb;rw[aB ak]at sZ;have cw:=cw rfl;refine ZW ?_;refine .gen _ _ (qX.frame [0,1,2] cw ⟨rfl,rfl,rfl,rfl⟩ ?_ ?_) λ_=>?_;{exact wk};{exact wk};refine ZW ?_;refine⟨by rw[aC,hacc],.mk (by simp[maxL];omega) aA (ZW ?_)⟩;refine ZG ?_;refine⟨(j+1,rs,acc++[ra]),?_,?_,?_⟩;{exact⟨hjl,sZ,by simp[hacc],hIr.1,λz hz hxz hs=>hIr.2 z hz (λe=>by have:=hyr e;omega) (hzj z hz hxz hs)⟩}
    ·refine Zv wk ?_;repeat' first|exact Zq|apply aI
     all_goals first|(show sS _ (List.map _ (_++[_]));rw[aV];exact lR _)|(simp[hacc];done)|(simp;omega)
    show g.ins.length-(j+1)<g.ins.length-j;omega
   have hjl:K.length<=j:=(by(have:¬j<g.ins.length:=by simpa using hh);omega);rw[aX hjl]at sZ;unfold vZ at sZ;rw[<- sZ]at hR;rw[hR];have cN:=a1D ve aj sj (by have:=hIj.short hB;have:=hIj.b0w hB;omega) (2,x2,x3) ⟨GV g.kind,g.k,acc⟩ (hzj _ rfl (aS _) hlo);refine ZW ?_;refine .gen _ _ (qX.frame [0,1,2] cN ⟨rfl,rfl,rfl,rfl⟩ ?_ ?_) λ_=>?_;{exact wk};{exact wk};refine ZW ?_;exact ZX
def zR:Rat:=⟨false,[],[]⟩
theorem b2Y(m:Md)(hM:KE m)(hB:KJ m)(s:Str)(R:AV)(hR:R=.uf [(atR m s).1.av,.int .i64 (atR m s).2]):ZQ 22 [m.av,.str s] [] R []:=by
 have hc:=a6J hM;have hev:=hM.lens.1;have cF:=XV m (-1) s (.inl rfl) hM.b4v;cases hs:vN m (-1) s with
 |false =>have hn:=a6e hs;have hi:(xu m (-1) s).2=5:=(by unfold xu;rw[aB (by rw[hc];simp),aB aj,aB aj,aG hs]);rw[show atR m s=(⟨0,[],0⟩,5)from by unfold atR;rw[hi];exact aG au]at hR;subst hR;generalize uF m (-1) s=x at *;obtain⟨x1,x2,x3⟩:=x;refine ZN Tryz.func22 λhok=>?_;refine .zW cF ?_;refine aP (λ_=>?_) (λh=>absurd hn h);refine ZW ?_;exact ZX
 | true =>
   obtain⟨he,hn⟩:=Qm hM (.inl rfl) hs;have hin:=hM.RY (.inl rfl) hs;have cN:=b3l m hM hB s hs _ rfl;have hcn:=a4f hM hs;have hi:(xu m (-1) s).2=0:=(by unfold xu;rw[aB (by rw[hc];simp),aB aj,aB aj,aB (by rw[hs];simp)]);have hA:atR m s=if(y8 m s).1.1=true then(⟨0,[],0⟩,7)else(⟨m.evs.length,(y8 m s).2.nodes,(y8 m s).1.2⟩,0):=aB (by rw[hi];simp);rw[hA]at hR;rw[<- hcn]at cN;obtain⟨rank,hr,hb⟩:=hM.rank;have cw:=a4n m hM hB rank hr (Lr m) (-1) s ⟨[],[]⟩ (.inl rfl) hs (hb _) (.nil m);rw[show su m m.evs.length (Lr m) (zf m (-1) s) ⟨[],[]⟩=y8 m s from rfl]at cw;generalize (Lc m (uF m (-1) s)).1=nv at *;generalize uF m (-1) s=x at *;obtain⟨x1,x2,x3⟩:=x;dsimp only at hn;generalize y8 m s=r at *;obtain⟨⟨rb,ra⟩,rn,re⟩:=r;dsimp only at hR cN cw;cases rb with
   |true =>rw[aG rfl]at hR;subst hR;refine ZN Tryz.func22 λhok=>?_;refine .zW cF ?_;refine aP (λh=>by exfalso;omega) (λ_=>ZW ?_);refine .zW cN ?_;refine aP (λ_=>?_) (λh=>by cases h);refine ZW ?_;exact ZX
   |false =>rw[aB ak]at hR;subst hR;have cw:=cw rfl;refine ZN Tryz.func22 λhok=>?_;refine .zW cF ?_;refine aP (λh=>by exfalso;omega) (λ_=>ZW ?_);refine .zW cN ?_;refine aP (λh=>by cases h) (λ_=>ZW ?_);rw[show(((m.evs.map Ev.av).length:Nat):Int)=(m.evs.length:Int) by simp];refine .gen _ _ (qX.b2p 0 [2] 1 rfl rfl rfl rfl rfl (qX.b2p 0 [1] 3 rfl rfl rfl rfl rfl (qX.b2p 0 [0,1] 3 rfl rfl rfl rfl rfl (qX.frame [2,3,4] cw ⟨rfl,rfl,rfl,rfl⟩ ?_ ?_)))) λ_=>?_;{exact wk};{exact wk};refine ZW ?_;exact ZX
theorem VJ{m:Md}(h:rJ m=0):UE m=atR m m.top:=aB (by rw[h];simp)
def RP(s:Str):List Str->Nat
 | []=>0
 |x::l=>if Op.bytesLess x s=true then RP s l+1 else 0
theorem a5N{s:Str}:∀{l:List Str} {i:Nat},i<=l.length->(∀(j:Nat) (h:j<l.length),j<i->Op.bytesLess l[j] s=true)->(∀h:i<l.length,Op.bytesLess l[i] s=false)->RP s l=i
 | [],i,h,_,_=>by simp at h;subst h;rfl
 |x::l,0,_,_,h2=>by have:=h2 ak;rw[RP,aB (by simpa using this)]
 |x::l,i+1,h,h1,h2=>by have h0:=h1 0 ak aj;rw[RP,aG (by simpa using h0),a5N (i:=i) (by simp at h;omega) (λj hj hji=>h1 (j+1) aA aj) (λhh=>h2 aA)]
def wI(l:List Str)(s:Str):List Str:=if l[RP s l]? = some s then l else l.take (RP s l)++[s]++l.drop (RP s l)
theorem a8Z(l:List Str)(s:Str):(wI l s).length<=l.length+1:=by unfold wI;split;{omega};simp;omega
theorem LV(l:List Str)(s:Str)(hl:l.length<=1000000):ZQ 23 [sL l,.str s] [] (sL (wI l s)) []:=by
 generalize hR:wI l s=R;unfold wI at hR;refine ZN Tryz.func23 λhok=>?_;refine qV.of <| (qM.inv (.refl _ _) (λi:Nat=>i<=l.length/\∀(j:Nat) (h:j<l.length),j<i->Op.bytesLess l[j] s=true) (λi=>[(5,.int .i64 (i:Int))]) (λ_=>[]) (λi=>l.length-i) 0 ⟨aO _,λj _ h=>absurd h (gJ j)⟩ ?_ ?_ ?_);{exact λ_=>rfl};{exact ZV};rintro i ⟨hi,hall⟩ _;refine ZW ?_;have b4L:∀h:¬i<l.length\/∃hh:i<l.length,Op.bytesLess l[i] s=false,RP s l=i:=λh=>(by refine a5N hi hall λhh=>?_;rcases h with h|⟨_,h⟩;{exact absurd hh h};exact h);constructor<;>intro g
 ·have hlt:i<l.length:=(by simpa using g);refine ZW ?_;refine rV hlt (ZW ?_);cases hb:Op.bytesLess l[i] s with
  |true =>refine aP (λ_=>?_) (λh=>by cases h);refine ZW ?_;refine ZG ?_;refine⟨i+1,?_,?_,?_⟩;{refine⟨hlt,λj hj hji=>?_⟩;rcases jS j i with h'|h';{exact hall j hj h'};obtain rfl:j=i:=aj;exact hb};{exact ZV};omega
  | false =>
    refine aP (λh=>by cases h) (λ_=>?_);have hn:=b4L (.inr ⟨hlt,hb⟩);rw[hn,aH hlt]at hR;refine ZW ?_;refine bY g (ZW ?_);refine rV hlt ?_;refine ZS ?_ ?_<;>intro he;{rw[aG (by rw[he])]at hR;subst hR;refine ZW ?_;exact ZX};rw[aB (λh=>he (aW h))]at hR;subst hR;refine ZW ?_;refine .mk ⟨⟨au,aj,aA⟩,?_⟩;rw[show((l.map AV.str).drop (Int.toNat 0)).take ((i:Int).toNat-Int.toNat 0)=(l.take i).map AV.str by simp];refine ZW ?_;refine .tok (by simp[maxL];omega) aA (ZW ?_);refine⟨ak,.mk (by simp[maxL];omega) aA (ZW ?_)⟩;refine .mk ⟨⟨aj,aA,ak⟩,?_⟩;rw[show((l.map AV.str).drop (i:Int).toNat).take (((l.map AV.str).length:Int).toNat-(i:Int).toNat)=(l.drop i).map AV.str by rw[bf ak];simp];refine ZW ?_;refine⟨ak,.mk (by simp[maxL];omega) aA (ZW ?_)⟩;refine ZE ?_ ?_
    ·repeat' first|exact Zq|apply aI
     all_goals (refine qY ?_;simp[strip])
    exact wk
 have hn:=b4L (.inl (by simpa using g));have hil:i=l.length:=(by simp at g;omega);rw[hn,aB (by rw[gy aj];simp)]at hR;subst hR;refine ZW ?_;refine bN g (ZW ?_);refine .mk ⟨⟨au,aj,aA⟩,?_⟩;rw[show((l.map AV.str).drop (Int.toNat 0)).take ((i:Int).toNat-Int.toNat 0)=(l.take i).map AV.str by simp];refine ZW ?_;refine .tok (by simp[maxL];omega) aA (ZW ?_);refine⟨ak,.mk (by simp[maxL];omega) aA (ZW ?_)⟩;refine .mk ⟨⟨aj,aA,ak⟩,?_⟩;rw[show((l.map AV.str).drop (i:Int).toNat).take (((l.map AV.str).length:Int).toNat-(i:Int).toNat)=(l.drop i).map AV.str by rw[bf ak];simp];refine ZW ?_;refine⟨ak,.mk (by simp[maxL];omega) aA (ZW ?_)⟩;refine ZE ?_ ?_
 ·repeat' first|exact Zq|apply aI
  all_goals (refine qY ?_;simp[strip])
 exact wk
theorem Ai:∀(m l:List Str),(m.foldl wI l).length<=l.length+m.length
 | [],l=>ak
 |x::m,l=>by rw[dY,dW];have:=Ai m (wI l x);have:=a8Z l x;omega
def CP(m:Md):List Str:=m.evs.map (·.name)
def AU(a b:Md):List Str:=(CP b).foldl wI ((CP a).foldl wI [])
theorem XW(a b:Md)(ha:a.evs.length<=1000)(hb:b.evs.length<=1000):ZQ 8 [a.av,b.av] [] (sL (AU a b)) []:=by
 unfold AU CP;have hl1:((a.evs.map λx:Ev=>x.name).foldl wI []).length<=1000:=by have:=Ai (a.evs.map λx:Ev=>x.name) [];simp at this;omega
 have h0:([]:List Str).length<=1000:=ak;refine ZN Tryz.func8 λhok=>?_;refine qV.of <| (qM.inv (.refl _ _) (λi:Nat=>i<=a.evs.length) (λi=>[(6,.int .i64 (i:Int)),(5,sL (((a.evs.map λx:Ev=>x.name).take i).foldl wI ([]:List Str)))]) (λ_=>[(1,.box b.av),(0,.box a.av)]) (λi=>a.evs.length-i) 0 (aO _) ?_ ?_ ?_);{exact λ_=>rfl};{exact ZV};rintro i hi _;refine ZS ?_ ?_<;>intro g;{have hlt:i<a.evs.length:=(by simpa using g);have hlt2:i<(a.evs.map λx:Ev=>x.name).length:=(by simpa using hlt);have hst:((a.evs.map λx:Ev=>x.name).take (i+1)).foldl wI ([]:List Str)=wI (((a.evs.map λx:Ev=>x.name).take i).foldl wI ([]:List Str)) (a.evs.map λx:Ev=>x.name)[i]:=CO hlt2;rw[show(a.evs.map λx:Ev=>x.name)[i]=a.evs[i].name by simp]at hst;have hlen:=Ai ((a.evs.map λx:Ev=>x.name).take i) ([]:List Str);rw[bD]at hlen;have ci:=LV (((a.evs.map λx:Ev=>x.name).take i).foldl wI ([]:List Str)) a.evs[i].name aj;refine ZW ?_;refine rV hlt ?_;generalize a.evs[i]=x at *;generalize ((a.evs.map λx:Ev=>x.name).take i).foldl wI ([]:List Str)=l at *;refine ZW ?_;refine .zW ci ?_;refine ZG ?_;refine⟨i+1,?_,?_,?_⟩;{exact hlt};{rw[hst];exact ZV};omega};have hg:¬i<a.evs.length:=(by simpa using g);have hk:i=(a.evs.map λx:Ev=>x.name).length:=(by rw[aC];omega);rw[hk,bg];clear hk g hi hg;generalize (a.evs.map λx:Ev=>x.name).foldl wI []=S at *;refine ZW ?_;refine qV.of <| (qM.inv (.refl _ _) (λi:Nat=>i<=b.evs.length) (λi=>[(7,.int .i64 (i:Int)),(5,sL (((b.evs.map λx:Ev=>x.name).take i).foldl wI S))]) (λ_=>[(1,.box b.av),(0,.box a.av)]) (λi=>b.evs.length-i) 0 (aO _) ?_ ?_ ?_);{exact λ_=>rfl};{exact ZV};rintro i hi _;refine ZS ?_ ?_<;>intro g;{have hlt:i<b.evs.length:=(by simpa using g);have hlt2:i<(b.evs.map λx:Ev=>x.name).length:=(by simpa using hlt);have hst:((b.evs.map λx:Ev=>x.name).take (i+1)).foldl wI S=wI (((b.evs.map λx:Ev=>x.name).take i).foldl wI S) (b.evs.map λx:Ev=>x.name)[i]:=CO hlt2;rw[show(b.evs.map λx:Ev=>x.name)[i]=b.evs[i].name by simp]at hst;have hlen:=Ai ((b.evs.map λx:Ev=>x.name).take i) S;rw[bD]at hlen;have ci:=LV (((b.evs.map λx:Ev=>x.name).take i).foldl wI S) b.evs[i].name aj;refine ZW ?_;refine rV hlt ?_;generalize b.evs[i]=x at *;generalize ((b.evs.map λx:Ev=>x.name).take i).foldl wI S=l at *;refine ZW ?_;refine .zW ci ?_;refine ZG ?_;refine⟨i+1,?_,?_,?_⟩;{exact hlt};{rw[hst];exact ZV};omega};have hg:¬i<b.evs.length:=(by simpa using g);have hk:i=(b.evs.map λx:Ev=>x.name).length:=(by rw[aC];omega);rw[hk,bg];clear hk g hi hg;generalize (b.evs.map λx:Ev=>x.name).foldl wI S=T at *;refine ZW ?_;exact ZX
def Gg(m:Md):List Str:=(m.gates.map λx:Mg=>x.name).foldl wI ((m.hs.map λx:Hs=>x.name).foldl wI ((m.evs.map λx:Ev=>x.name).foldl wI []))
theorem a2Z(a:Md)(h1:a.evs.length<=1000)(h2:a.hs.length<=1000)(h3:a.gates.length<=1000):ZQ 35 [a.av] [] (sL (Gg a)) []:=by
 unfold Gg;have l1:((a.evs.map λx:Ev=>x.name).foldl wI []).length<=1000:=by have:=Ai (a.evs.map λx:Ev=>x.name) [];simp at this;omega
 have l0:([]:List Str).length<=1000:=ak;have l2:∀S:List Str,S.length<=1000->((a.hs.map λx:Hs=>x.name).foldl wI S).length<=2000:=λS hS=>(by have:=Ai (a.hs.map λx:Hs=>x.name) S;simp at this;omega);refine ZN Tryz.func35 λhok=>?_;refine qV.of <| (qM.inv (.refl _ _) (λi:Nat=>i<=a.evs.length) (λi=>[(4,.int .i64 (i:Int)),(3,sL (((a.evs.map λx:Ev=>x.name).take i).foldl wI ([]:List Str)))]) (λ_=>[(0,.box a.av)]) (λi=>a.evs.length-i) 0 (aO _) ?_ ?_ ?_);{exact λ_=>rfl};{exact ZV};rintro i hi _;refine ZS ?_ ?_<;>intro g;{have hlt:i<a.evs.length:=(by simpa using g);have hlt2:i<(a.evs.map λx:Ev=>x.name).length:=(by simpa using hlt);have hst:((a.evs.map λx:Ev=>x.name).take (i+1)).foldl wI ([]:List Str)=wI (((a.evs.map λx:Ev=>x.name).take i).foldl wI ([]:List Str)) (a.evs.map λx:Ev=>x.name)[i]:=CO hlt2;rw[show(a.evs.map λx:Ev=>x.name)[i]=a.evs[i].name by simp]at hst;have hlen:=Ai ((a.evs.map λx:Ev=>x.name).take i) ([]:List Str);rw[bD]at hlen;have ci:=LV (((a.evs.map λx:Ev=>x.name).take i).foldl wI ([]:List Str)) a.evs[i].name aj;refine ZW ?_;refine rV hlt ?_;generalize a.evs[i]=x at *;generalize ((a.evs.map λx:Ev=>x.name).take i).foldl wI ([]:List Str)=l at *;refine ZW ?_;refine .zW ci ?_;refine ZG ?_;refine⟨i+1,?_,?_,?_⟩;{exact hlt};{rw[hst];exact ZV};omega};have hg:¬i<a.evs.length:=(by simpa using g);have hk:i=(a.evs.map λx:Ev=>x.name).length:=(by rw[aC];omega);rw[hk,bg];clear hk g hi hg;generalize (a.evs.map λx:Ev=>x.name).foldl wI []=S at *;have l3:=l2 S l1;clear l2;refine ZW ?_;refine qV.of <| (qM.inv (.refl _ _) (λi:Nat=>i<=a.hs.length) (λi=>[(5,.int .i64 (i:Int)),(3,sL (((a.hs.map λx:Hs=>x.name).take i).foldl wI S))]) (λ_=>[(0,.box a.av)]) (λi=>a.hs.length-i) 0 (aO _) ?_ ?_ ?_);{exact λ_=>rfl};{exact ZV};rintro i hi _;refine ZS ?_ ?_<;>intro g;{have hlt:i<a.hs.length:=(by simpa using g);have hlt2:i<(a.hs.map λx:Hs=>x.name).length:=(by simpa using hlt);have hst:((a.hs.map λx:Hs=>x.name).take (i+1)).foldl wI S=wI (((a.hs.map λx:Hs=>x.name).take i).foldl wI S) (a.hs.map λx:Hs=>x.name)[i]:=CO hlt2;rw[show(a.hs.map λx:Hs=>x.name)[i]=a.hs[i].name by simp]at hst;have hlen:=Ai ((a.hs.map λx:Hs=>x.name).take i) S;rw[bD]at hlen;have ci:=LV (((a.hs.map λx:Hs=>x.name).take i).foldl wI S) a.hs[i].name aj;refine ZW ?_;refine rV hlt ?_;generalize a.hs[i]=x at *;generalize ((a.hs.map λx:Hs=>x.name).take i).foldl wI S=l at *;refine ZW ?_;refine .zW ci ?_;refine ZG ?_;refine⟨i+1,?_,?_,?_⟩;{exact hlt};{rw[hst];exact ZV};omega};have hg:¬i<a.hs.length:=(by simpa using g);have hk:i=(a.hs.map λx:Hs=>x.name).length:=(by rw[aC];omega);rw[hk,bg];clear hk g hi hg;generalize (a.hs.map λx:Hs=>x.name).foldl wI S=T at *;refine ZW ?_;refine qV.of <| (qM.inv (.refl _ _) (λi:Nat=>i<=a.gates.length) (λi=>[(6,.int .i64 (i:Int)),(3,sL (((a.gates.map λx:Mg=>x.name).take i).foldl wI T))]) (λ_=>[(0,.box a.av)]) (λi=>a.gates.length-i) 0 (aO _) ?_ ?_ ?_);{exact λ_=>rfl};{exact ZV};rintro i hi _;refine ZS ?_ ?_<;>intro g;{have hlt:i<a.gates.length:=(by simpa using g);have hlt2:i<(a.gates.map λx:Mg=>x.name).length:=(by simpa using hlt);have hst:((a.gates.map λx:Mg=>x.name).take (i+1)).foldl wI T=wI (((a.gates.map λx:Mg=>x.name).take i).foldl wI T) (a.gates.map λx:Mg=>x.name)[i]:=CO hlt2;rw[show(a.gates.map λx:Mg=>x.name)[i]=a.gates[i].name by simp]at hst;have hlen:=Ai ((a.gates.map λx:Mg=>x.name).take i) T;rw[bD]at hlen;have ci:=LV (((a.gates.map λx:Mg=>x.name).take i).foldl wI T) a.gates[i].name aj;refine ZW ?_;refine rV hlt ?_;generalize a.gates[i]=x at *;generalize ((a.gates.map λx:Mg=>x.name).take i).foldl wI T=l at *;refine ZW ?_;refine .zW ci ?_;refine ZG ?_;refine⟨i+1,?_,?_,?_⟩;{exact hlt};{rw[hst];exact ZV};omega};have hg:¬i<a.gates.length:=(by simpa using g);have hk:i=(a.gates.map λx:Mg=>x.name).length:=(by rw[aC];omega);rw[hk,bg];clear hk g hi hg;generalize (a.gates.map λx:Mg=>x.name).foldl wI T=U at *;refine ZW ?_;exact ZX
theorem b5c(l:List Str)(s:Str)(hl:l.length<=1000000):ZQ 36 [sL l,.str s] [] (.bool (l.contains s)) []:=by
 generalize hB:l.contains s=B;refine ZN Tryz.func36 λhok=>?_;refine qV.of <| (qM.inv (.refl _ _) (λi:Nat=>i<=l.length/\∀(j:Nat) (h:j<l.length),j<i->l[j]≠s) (λi=>[(5,.int .i64 (i:Int))]) (λ_=>[]) (λi=>l.length-i) 0 ⟨aO _,λj _ h=>absurd h (gJ j)⟩ ?_ ?_ ?_);{exact λ_=>rfl};{exact ZV};rintro i ⟨hi,hall⟩ _;refine ZS ?_ ?_<;>intro g;{have hlt:i<l.length:=(by simpa using g);refine ZW ?_;refine rV hlt ?_;refine ZS ?_ ?_<;>intro he;{obtain rfl:B=true:=(by rw[<- hB,nG];exact he ▸ aQ hlt);refine ZW ?_;exact ZX};refine ZW ?_;refine ZG ?_;refine⟨i+1,?_,?_,?_⟩;{refine⟨hlt,λj hj hji=>?_⟩;rcases jS j i with h'|h';{exact hall j hj h'};obtain rfl:j=i:=aj;exact he};{exact ZV};omega};have hk:¬i<l.length:=(by simpa using g);obtain rfl:B=false:=by
  rw[<- hB];cases hc:l.contains s with
  |false=>rfl
  |true =>rw[nG]at hc;obtain⟨j,hj,he⟩:=nJ.1 hc;exact absurd he (hall j hj aj)
 refine ZW ?_;exact ZX
theorem b4k{x:Rat}(w1:Ws x.num)(w2:Ws x.den){k:Nat}(h1:x.num.length<=k)(h2:x.den.length<=k)(hk:1<=k):Sz (qv x) k:=by unfold qv;by_cases h0:val x.den=0;{rw[h0,Rat.mkRat_zero];exact a7W.mono hk};refine b3F h0 ?_ ?_;{rw[a01];have:=wu w1;omega};have:=wu w2;omega
end S