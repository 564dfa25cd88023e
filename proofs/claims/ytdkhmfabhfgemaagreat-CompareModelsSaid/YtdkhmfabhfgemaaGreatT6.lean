/-
  Contracts of functions of the program. Nothing is assumed.
-/
import Derived.Test.YtdkhmfabhfgemaaGreatT5
open Go Go.AL Go.Proofs
namespace S
set_option maxRecDepth 100000
def wU{α:Type}(f:Nat->α->Int):Nat->List α->Int
 |_,[]=>0
 |i,x::l=>if f i x≠0 then f i x else wU f (i+1) l
theorem zo{α:Type}{f:Nat->α->Int}{l:List α}{i:Nat}(h:i<l.length):wU f i (l.drop i)=if f i l[i]≠0 then f i l[i]else wU f (i+1) (l.drop (i+1)):=by rw[aZ h];rfl
theorem Aj{α:Type}{f:Nat->α->Int}{l:List α}{i:Nat}(h:l.length<=i):wU f i (l.drop i)=0:=by rw[aX h];rfl
theorem Jg{α:Type}{f:Nat->α->Int}:∀{l:List α} {i:Nat},wU f i l=0↔∀(k:Nat) (h:k<l.length),f (i+k) l[k]=0
 | [],i=>by simp[wU]
 | x::l,i=>by
   simp only[wU];split;{rename_i h;constructor;{intro h2;exact absurd h2 h};intro h2;exact absurd (h2 0 ak) h};rename_i h;have h:f i x=0:=by simpa using h
   rw[Jg (l:=l) (i:=i+1)];constructor
   ·intro h2 k hk;cases k with
    |zero=>exact h
    |succ k=>have:=h2 k (by simpa using hk);rw[show i+(k+1)=i+1+k by omega];simpa using this
   intro h2 k hk;have:=h2 (k+1) (by simpa using hk);rw[show i+1+k=i+(k+1) by omega];simpa using this
def mgC(l:List Mg):Prop:=∀x∈l,Px x.y5
structure MdC(m:Md):Prop where
 evs:∀x∈m.evs,Px x.p/\Px x.fail/\Px x.repair
 gates:mgC m.gates
 pages:∀x∈m.pages,mgC x.gates
 Bq:∀x∈m.Bq,∀f∈x.ES,Px f
 Di:∀x∈m.Di,∀v∈x.vals,Px v.p
def yA(m:Md)(i:Nat)(x:Ev):Int :=
 if tZ x.name=false then 5 else if sH m.evs x.name<i then 6
 else if yH x.p=false then 3 else if Dw x.fail=false then 3 else if Dw x.repair=false then 3 else if x.cost<0 then 3 else if 1073741824<x.cost then 3 else 0
def Dk(m:Md)(i:Nat)(x:Hs):Int :=
 if tZ x.name=false then 5 else if 0<=sH m.evs x.name then 6 else if uM m.hs x.name<i then 6 else 0
def rF(m:Md):Int :=
 if 24<m.evs.length then 4 else if wU (yA m) 0 m.evs≠0 then wU (yA m) 0 m.evs
 else if 16<m.hs.length then 4 else wU (Dk m) 0 m.hs
theorem a0g(e:Int):tq 0 (zu e)=true:=by unfold zu;split <;> rfl
theorem YV(m:Md)(hC:MdC m)(R:AV)(hR:R=zu (rF m)):ZQ 75 [m.av] [] R []:=by have ce:=λs=>JX m s;have ch:=λs=>U0 m s;refine ZN Tryz.func75 λhok=>?_;constructor<;>intro h1;{have h1:24<m.evs.length:=(by simp only[aC]at h1;omega);obtain rfl:R=.uV 49 (.int .i64 4):=(by rw[hR,show rF m=4 from by unfold rF;rw[aG h1]];rfl);exact ZJ};have h1:¬24<m.evs.length:=(by simp only[aC]at h1;omega);refine ZW ?_;refine qV.of <| qM.inv (.refl _ _) (fun(i:Nat)=>i<=m.evs.length/\wU (yA m) 0 m.evs=wU (yA m) i (m.evs.drop i)) (fun(i:Nat)=>[(15,.int .i64 i)]) (λ_=>_) (fun(i:Nat)=>m.evs.length-i) 0 ?_ (λ_=>rfl) ?_ ?_;{exact⟨aO _,rfl⟩};{exact wk};rintro i ⟨hi,hn⟩ _;refine ZS ?_ ?_<;>intro h;{have hlt:i<m.evs.length:=(by simpa using h);obtain⟨rp,rf,rr⟩:=hC.evs _ (aQ hlt);rw[zo hlt]at hn;have cf:=b0X _ rf;have cr:=b0X _ rr;have bad:∀e:Int,e≠0->yA m i m.evs[i]=e->rF m=e:=(by intro e he h;unfold rF;rw[h,aG he]at hn;rw[aB h1,hn,aG he]);refine ZW ?_;refine rV hlt ?_;generalize m.evs[i]=x at *;refine ZW ?_;refine .zW (Bh x.name) ?_;constructor<;>intro g1;{have g1:tZ x.name=false:=(by simpa using g1);obtain rfl:R=.uV 49 (.int .i64 5):=(by rw[hR,show rF m=5 from by exact bad 5 au (by unfold yA;rw[aG g1])];rfl);exact ZJ};have g1:¬tZ x.name=false:=(by simpa using g1);refine ZW ?_;refine .zW (ce x.name) ?_;constructor<;>intro g2;{obtain rfl:R=.uV 49 (.int .i64 6):=(by rw[hR,show rF m=6 from by exact bad 6 au (by unfold yA;rw[aB g1,aG g2])];rfl);exact ZJ};refine ZW ?_;refine .zW rp.p ?_;constructor<;>intro g3;{have g3:yH x.p=false:=(by simpa using g3);obtain rfl:R=.uV 49 (.int .i64 3):=(by rw[hR,show rF m=3 from by exact bad 3 au (by unfold yA;rw[aB g1,aB g2,aG g3])];rfl);exact ZJ};have g3:¬yH x.p=false:=(by simpa using g3);refine ZW ?_;refine .zW cf ?_;constructor<;>intro g4;{have g4:Dw x.fail=false:=(by simpa using g4);obtain rfl:R=.uV 49 (.int .i64 3):=(by rw[hR,show rF m=3 from by exact bad 3 au (by unfold yA;rw[aB g1,aB g2,aB g3,aG g4])];rfl);exact ZJ};have g4:¬Dw x.fail=false:=(by simpa using g4);refine ZW ?_;refine .zW cr ?_;constructor<;>intro g5;{have g5:Dw x.repair=false:=(by simpa using g5);obtain rfl:R=.uV 49 (.int .i64 3):=(by rw[hR,show rF m=3 from by exact bad 3 au (by unfold yA;rw[aB g1,aB g2,aB g3,aB g4,aG g5])];rfl);exact ZJ};have g5:¬Dw x.repair=false:=(by simpa using g5);refine ZS ?_ ?_<;>intro g6;{obtain rfl:R=.uV 49 (.int .i64 3):=(by rw[hR,show rF m=3 from by exact bad 3 au (by unfold yA;rw[aB g1,aB g2,aB g3,aB g4,aB g5,aG g6])];rfl);exact ZJ};refine ZS ?_ ?_<;>intro g7;{obtain rfl:R=.uV 49 (.int .i64 3):=(by rw[hR,show rF m=3 from by exact bad 3 au (by unfold yA;rw[aB g1,aB g2,aB g3,aB g4,aB g5,aB g6,aG g7])];rfl);exact ZJ};refine ZW ?_;refine ZG ?_;refine⟨i+1,?_,?_,?_⟩;{exact⟨hlt,by rw[hn,aB (by rw[show yA m i x=0 from by unfold yA;rw[aB g1,aB g2,aB g3,aB g4,aB g5,aB g6,aB g7]];simp)]⟩};{exact Zv wk wk};omega};have hil:i=m.evs.length:=(by have:¬i<m.evs.length:=(by simpa using h);omega);rw[Aj aj]at hn;clear h;subst hil;have e1:¬wU (yA m) 0 m.evs≠0:=(by rw[hn];simp);refine ZS ?_ ?_<;>intro h2;{have h2:16<m.hs.length:=(by simp only[aC]at h2;omega);obtain rfl:R=.uV 49 (.int .i64 4):=(by rw[hR,show rF m=4 from by unfold rF;rw[aB h1,aB e1,aG h2]];rfl);exact ZJ};have h2:¬16<m.hs.length:=(by simp only[aC]at h2;omega);clear hn hi;refine ZW ?_;refine qV.of <| qM.inv (.refl _ _) (fun(i:Nat)=>i<=m.hs.length/\wU (Dk m) 0 m.hs=wU (Dk m) i (m.hs.drop i)) (fun(i:Nat)=>[(71,.int .i64 i)]) (λ_=>_) (fun(i:Nat)=>m.hs.length-i) 0 ?_ (λ_=>rfl) ?_ ?_;{exact⟨aO _,rfl⟩};{exact wk};rintro i ⟨hi,hn⟩ _;refine ZS ?_ ?_<;>intro h;{have hlt:i<m.hs.length:=(by simpa using h);rw[zo hlt]at hn;have bad:∀e:Int,e≠0->Dk m i m.hs[i]=e->rF m=e:=(by intro e he h;unfold rF;rw[h,aG he]at hn;rw[aB h1,aB e1,aB h2,hn]);refine ZW ?_;refine rV hlt ?_;generalize m.hs[i]=x at *;refine ZW ?_;refine .zW (Bh x.name) ?_;constructor<;>intro g1;{have g1:tZ x.name=false:=(by simpa using g1);obtain rfl:R=.uV 49 (.int .i64 5):=(by rw[hR,show rF m=5 from by exact bad 5 au (by unfold Dk;rw[aG g1])];rfl);exact ZJ};have g1:¬tZ x.name=false:=(by simpa using g1);refine ZW ?_;refine .zW (ce x.name) ?_;constructor<;>intro g2;{obtain rfl:R=.uV 49 (.int .i64 6):=(by rw[hR,show rF m=6 from by exact bad 6 au (by unfold Dk;rw[aB g1,aG g2])];rfl);exact ZJ};refine ZW ?_;refine .zW (ch x.name) ?_;constructor<;>intro g3;{obtain rfl:R=.uV 49 (.int .i64 6):=(by rw[hR,show rF m=6 from by exact bad 6 au (by unfold Dk;rw[aB g1,aB g2,aG g3])];rfl);exact ZJ};refine ZW ?_;refine ZG ?_;refine⟨i+1,?_,?_,?_⟩;{exact⟨hlt,by rw[hn,aB (by rw[show Dk m i x=0 from by unfold Dk;rw[aB g1,aB g2,aB g3]];simp)]⟩};{exact Zv wk wk};omega};have hil:i=m.hs.length:=(by have:¬i<m.hs.length:=(by simpa using h);omega);rw[Aj aj]at hn;obtain rfl:R=.vJ:=(by rw[hR,show rF m=0 from by unfold rF;rw[aB h1,aB e1,aB h2,hn]];rfl);exact ZJ
structure KJ(m:Md):Prop where
 evs:m.evs.length<=60
 hs:m.hs.length<=60
 gates:m.gates.length<=100/\∀x∈m.gates,x.ins.length<=40
 pages:m.pages.length<=30
 KX:∀p∈m.pages,p.gates.length<=100/\∀x∈p.gates,x.ins.length<=40
 Bq:m.Bq.length<=30
 mem:∀g∈m.Bq,g.mem.length<=60/\g.ES.length<=60
 Di:m.Di.length<=30
 vals:∀p∈m.Di,p.vals.length<=60
def JB(m:Md):Nat:=m.pages.foldl (λn x=>n+x.gates.length) m.gates.length
theorem VD:∀(l:List Pg) (n:Nat),(∀p∈l,p.gates.length<=100)->l.foldl (λn x=>n+x.gates.length) n<=n+100*l.length
 | [],n,_=>ak
 |p::l,n,h=>by have h1:=h p ak;have h2:=VD l (n+p.gates.length) λq hq=>h q (by simp[hq]);simp only[dY,dW];omega
def GH(m:Md)(i:Nat)(x:Pg):Int:=if tZ x.name=false then 5 else if tK m.pages x.name<i then 6 else 0
def uO(m:Md):Int:=if 8<m.pages.length then 4 else if 64<JB m then 4 else wU (GH m) 0 m.pages
theorem a0B(m:Md)(hB:KJ m)(R:AV)(hR:R=zu (uO m)):ZQ 76 [m.av] [] R []:=by
 have cp:=λs=>a7b m s;have hpl:=hB.pages;have hgl:=hB.gates.1;refine ZN Tryz.func76 λhok=>?_;refine qV.of <| qM.inv (.refl _ _) (fun(i:Nat)=>i<=m.pages.length) (fun(i:Nat)=>[(14,.int .i64 i),(3,.int .i64 ((m.pages.take i).foldl (λn x=>n+x.gates.length) m.gates.length:Nat))]) (λ_=>_) (fun(i:Nat)=>m.pages.length-i) 0 ?_ (λ_=>rfl) ?_ ?_;{exact aO _}
 ·repeat' first|exact Zq|apply aI
  simp
 rintro i hi _;refine ZS ?_ ?_<;>intro h
 ·have hlt:i<m.pages.length:=(by simpa using h);have hs:=CO (f:=fun(n:Nat) (x:Pg)=>n+x.gates.length) (s:=m.gates.length) hlt;have hb:=VD (m.pages.take i) m.gates.length λp hp=>(hB.KX p (kK hp)).1;rw[bD]at hb;have hx:=(hB.KX _ (aQ hlt)).1;generalize (m.pages.take i).foldl (λn x=>n+x.gates.length) m.gates.length=y at *;refine ZW ?_;refine rV hlt ?_;generalize m.pages[i]=x at *;refine ZW ?_;refine⟨rQ aA aA,ZW ?_⟩;refine ZG ?_;refine⟨i+1,?_,?_,?_⟩;{exact hlt}
  ·rw[hs];refine Zv ?_ ?_
   ·repeat' first|exact Zq|apply aI
    simp
   exact wk
  omega
 have hil:i=m.pages.length:=(by have:¬i<m.pages.length:=(by simpa using h);omega);subst hil;rw[bg,show m.pages.foldl (λn x=>n+x.gates.length) m.gates.length=JB m from rfl];refine ZS ?_ ?_<;>intro h1;{have h1:8<m.pages.length:=(by simp only[aC]at h1;omega);obtain rfl:R=.uV 49 (.int .i64 4):=(by rw[hR,show uO m=4 from by unfold uO;rw[aG h1]];rfl);exact ZJ};have h1:¬8<m.pages.length:=(by simp only[aC]at h1;omega);refine ZS ?_ ?_<;>intro h2;{have h2:64<JB m:=aj;obtain rfl:R=.uV 49 (.int .i64 4):=(by rw[hR,show uO m=4 from by unfold uO;rw[aB h1,aG h2]];rfl);exact ZJ};have h2:¬64<JB m:=aj;clear hi h;refine ZW ?_;refine qV.of <| qM.inv (.refl _ _) (fun(i:Nat)=>i<=m.pages.length/\wU (GH m) 0 m.pages=wU (GH m) i (m.pages.drop i)) (fun(i:Nat)=>[(36,.int .i64 i)]) (λ_=>_) (fun(i:Nat)=>m.pages.length-i) 0 ?_ (λ_=>rfl) ?_ ?_;{exact⟨aO _,rfl⟩};{exact wk};rintro i ⟨hi,hn⟩ _;refine ZS ?_ ?_<;>intro h;{have hlt:i<m.pages.length:=(by simpa using h);rw[zo hlt]at hn;have bad:∀e:Int,e≠0->GH m i m.pages[i]=e->uO m=e:=(by intro e he h;unfold uO;rw[h,aG he]at hn;rw[aB h1,aB h2,hn]);refine ZW ?_;refine rV hlt ?_;generalize m.pages[i]=x at *;refine ZW ?_;refine .zW (Bh x.name) ?_;constructor<;>intro g1;{have g1:tZ x.name=false:=(by simpa using g1);obtain rfl:R=.uV 49 (.int .i64 5):=(by rw[hR,show uO m=5 from by exact bad 5 au (by unfold GH;rw[aG g1])];rfl);exact ZJ};have g1:¬tZ x.name=false:=(by simpa using g1);refine ZW ?_;refine .zW (cp x.name) ?_;constructor<;>intro g2;{obtain rfl:R=.uV 49 (.int .i64 6):=(by rw[hR,show uO m=6 from by exact bad 6 au (by unfold GH;rw[aB g1,aG g2])];rfl);exact ZJ};refine ZW ?_;refine ZG ?_;refine⟨i+1,?_,?_,?_⟩;{exact⟨hlt,by rw[hn,aB (by rw[show GH m i x=0 from by unfold GH;rw[aB g1,aB g2]];simp)]⟩};{exact Zv wk wk};omega};have hil:i=m.pages.length:=(by have:¬i<m.pages.length:=(by simpa using h);omega);rw[Aj aj]at hn;obtain rfl:R=.vJ:=(by rw[hR,show uO m=0 from by unfold uO;rw[aB h1,aB h2,hn]];rfl);exact ZJ
theorem a7e(kind n:Int):ZQ 212 [.int .i64 kind,.int .i64 n] [] (.bool (Jo kind n)) []:=by
 refine ZN Tryz.func212 λhok=>?_
 (repeat' (first|(refine aI (λ_=>?_) (λ_=>?_)<;>(conv=>whnf))|(refine wX.auto (by kernel_rfl) ?_;(conv=>whnf))|(refine fM ?_;(conv=>whnf);refine⟨?_,rfl⟩;(conv=>whnf))|(refine aI (rQ aj aj) ?_;(conv=>whnf))|(refine aI au ?_;(conv=>whnf))))
 all_goals first|(simp_all [Jo];done)|(simp_all [Jo];omega)
theorem a7d(r:Rat):ZQ 213 [r.av] [] (.bool (FN r)) []:=by
 refine ZN Tryz.func213 λhok=>?_;constructor<;>intro h;all_goals
  refine ZW ?_
  (repeat' (first|(refine aI (λ_=>?_) (λ_=>?_)<;>(conv=>whnf))|(refine wX.auto (by kernel_rfl) ?_;(conv=>whnf))|(refine fM ?_;(conv=>whnf);refine⟨?_,rfl⟩;(conv=>whnf))|(refine aI (rQ aj aj) ?_;(conv=>whnf))|(refine aI au ?_;(conv=>whnf))))
 all_goals (simp_all [FN];done)
def uP(g:Mg):Int :=
 if g.kind<0 then 7 else if 8<g.kind then 7
 else if Jo g.kind g.ins.length=false then 11
 else if g.kind=2/\(g.k<1\/(g.ins.length:Int)<g.k)then 3
 else if g.kind≠2/\g.k≠0 then 2
 else if g.kind=7/\yH g.y5=false then 3
 else if g.kind≠7/\FN g.y5=false then 2
 else 0
theorem a0w(g:Mg)(hr:Px g.y5)(R:AV)(hR:R=zu (uP g)):ZQ 142 [g.av] [] R []:=by
 have ca:=a7e g.kind g.ins.length;refine ZN Tryz.func142 λhok=>?_;constructor<;>intro n1;{obtain rfl:R=.uV 49 (.int .i64 7):=(by rw[hR,show uP g=7 from by unfold uP;rw[aG n1]];rfl);exact ZJ};refine ZS ?_ ?_<;>intro n2;{obtain rfl:R=.uV 49 (.int .i64 7):=(by rw[hR,show uP g=7 from by unfold uP;rw[aB n1,aG n2]];rfl);exact ZJ};refine ZW ?_;refine .pure _ _ ?_ ⟨rfl,rfl⟩ ca λ_=>?_
 ·repeat' first|exact Zq|apply aI
  simp
 refine ZS ?_ ?_<;>intro n3;{have n3:Jo g.kind g.ins.length=false:=(by simpa using n3);obtain rfl:R=.uV 49 (.int .i64 11):=(by rw[hR,show uP g=11 from by unfold uP;rw[aB n1,aB n2,aG n3]];rfl);exact ZJ};have n3:¬Jo g.kind g.ins.length=false:=(by simpa using n3);refine ZS ?_ ?_<;>intro k2;{have n5:¬(g.kind≠2/\g.k≠0):=λh=>h.1 k2;refine ZS ?_ ?_<;>intro kk;{obtain rfl:R=.uV 49 (.int .i64 3):=(by rw[hR,show uP g=3 from by unfold uP;rw[aB n1,aB n2,aB n3,aG ⟨k2,.inl kk⟩]];rfl);exact ZJ};refine ZS ?_ ?_<;>intro kl;{have kl:(g.ins.length:Int)<g.k:=(by simpa using kl);obtain rfl:R=.uV 49 (.int .i64 3):=(by rw[hR,show uP g=3 from by unfold uP;rw[aB n1,aB n2,aB n3,aG ⟨k2,.inr kl⟩]];rfl);exact ZJ};have kl:¬(g.ins.length:Int)<g.k:=(by simpa using kl);have n4:¬(g.kind=2/\(g.k<1\/(g.ins.length:Int)<g.k)):=aj;refine ZS ?_ ?_<;>intro k7;{refine ZW ?_;refine .zW hr.p ?_;constructor<;>intro kp;{have kp:yH g.y5=false:=(by simpa using kp);obtain rfl:R=.uV 49 (.int .i64 3):=(by rw[hR,show uP g=3 from by unfold uP;rw[aB n1,aB n2,aB n3,aB n4,aB n5,aG ⟨k7,kp⟩]];rfl);exact ZJ};have kp:yH g.y5=true:=(by simpa using kp);obtain rfl:R=.vJ:=(by rw[hR,show uP g=0 from by unfold uP;rw[aB n1,aB n2,aB n3,aB n4,aB n5,aB (λh=>by rw[kp]at h;cases h.2),aB (λh=>h.1 k7)]];rfl);exact ZJ};refine ZW ?_;refine .zW (a7d g.y5) ?_;constructor<;>intro kz;{have kz:FN g.y5=false:=(by simpa using kz);obtain rfl:R=.uV 49 (.int .i64 2):=(by rw[hR,show uP g=2 from by unfold uP;rw[aB n1,aB n2,aB n3,aB n4,aB n5,aB (λh=>k7 h.1),aG ⟨k7,kz⟩]];rfl);exact ZJ};have kz:FN g.y5=true:=(by simpa using kz);obtain rfl:R=.vJ:=(by rw[hR,show uP g=0 from by unfold uP;rw[aB n1,aB n2,aB n3,aB n4,aB n5,aB (λh=>k7 h.1),aB (λh=>by rw[kz]at h;cases h.2)]];rfl);exact ZJ};have n4:¬(g.kind=2/\(g.k<1\/(g.ins.length:Int)<g.k)):=aj;refine ZS ?_ ?_<;>intro kk;{obtain rfl:R=.uV 49 (.int .i64 2):=(by rw[hR,show uP g=2 from by unfold uP;rw[aB n1,aB n2,aB n3,aB n4,aG ⟨k2,kk⟩]];rfl);exact ZJ};have n5:¬(g.kind≠2/\g.k≠0):=λh=>kk h.2;refine ZS ?_ ?_<;>intro k7;{refine ZW ?_;refine .zW hr.p ?_;constructor<;>intro kp;{have kp:yH g.y5=false:=(by simpa using kp);obtain rfl:R=.uV 49 (.int .i64 3):=(by rw[hR,show uP g=3 from by unfold uP;rw[aB n1,aB n2,aB n3,aB n4,aB n5,aG ⟨k7,kp⟩]];rfl);exact ZJ};have kp:yH g.y5=true:=(by simpa using kp);obtain rfl:R=.vJ:=(by rw[hR,show uP g=0 from by unfold uP;rw[aB n1,aB n2,aB n3,aB n4,aB n5,aB (λh=>by rw[kp]at h;cases h.2),aB (λh=>h.1 k7)]];rfl);exact ZJ};refine ZW ?_;refine .zW (a7d g.y5) ?_;constructor<;>intro kz;{have kz:FN g.y5=false:=(by simpa using kz);obtain rfl:R=.uV 49 (.int .i64 2):=(by rw[hR,show uP g=2 from by unfold uP;rw[aB n1,aB n2,aB n3,aB n4,aB n5,aB (λh=>k7 h.1),aG ⟨k7,kz⟩]];rfl);exact ZJ};have kz:FN g.y5=true:=(by simpa using kz);obtain rfl:R=.vJ:=(by rw[hR,show uP g=0 from by unfold uP;rw[aB n1,aB n2,aB n3,aB n4,aB n5,aB (λh=>k7 h.1),aB (λh=>by rw[kz]at h;cases h.2)]];rfl);exact ZJ
def uT(m:Md)(a:Int)(i:Nat)(x:Mg):Int :=
 if tZ x.name=false then 5 else if 0<=sH m.evs x.name then 6 else if 0<=uM m.hs x.name then 6 else if uU (qN m a) x.name<i then 6 else uP x
theorem a0C(m:Md)(a:Int)(ha:a = -1\/(0<=a/\a<(m.pages.length:Int)))(hC:mgC (qN m a))(R:AV)(hR:R=zu (wU (uT m a) 0 (qN m a))):ZQ 77 [m.av,.int .i64 a] [] R []:=by have ce:=λs=>JX m s;have ch:=λs=>U0 m s;have cg:=λs=>a3e (qN m a) s;have cG:=Gu m a ha;have hgm:∀i x,uT m a i x=if tZ x.name=false then 5 else if 0<=sH m.evs x.name then 6 else if 0<=uM m.hs x.name then 6 else if uU (qN m a) x.name<i then 6 else uP x:=λ_ _=>rfl;generalize uT m a=F at *;generalize qN m a=l at *;refine ZN Tryz.func77 λhok=>?_;refine .zP cG λb2i=>?_;have hll:l.length<=9223372036854775807:=(by have:=b2i.1;simpa[maxL]using this);refine ZW ?_;refine qV.of <| qM.inv (.refl _ _) (fun(i:Nat)=>i<=l.length/\wU F 0 l=wU F i (l.drop i)) (fun(i:Nat)=>[(14,.int .i64 i)]) (λ_=>_) (fun(i:Nat)=>l.length-i) 0 ?_ (λ_=>rfl) ?_ ?_;{exact⟨aO _,rfl⟩};{exact wk};rintro i ⟨hi,hn⟩ _;refine ZS ?_ ?_<;>intro h;{have hlt:i<l.length:=(by simpa using h);have hr:=hC _ (aQ hlt);have hgx:=hgm i l[i];rw[zo hlt]at hn;have bad:∀e:Int,e≠0->F i l[i]=e->wU F 0 l=e:=(by intro e he h;rw[h,aG he]at hn;rw[hn]);refine ZW ?_;refine rV hlt ?_;generalize l[i]=x at *;refine ZW ?_;refine .zW (Bh x.name) ?_;constructor<;>intro g1;{have g1:tZ x.name=false:=(by simpa using g1);obtain rfl:R=.uV 49 (.int .i64 5):=(by rw[hR,show wU F 0 l=5 from by exact bad 5 au (by rw[hgx,aG g1])];rfl);exact ZJ};have g1:¬tZ x.name=false:=(by simpa using g1);refine ZW ?_;refine .zW (ce x.name) ?_;constructor<;>intro g2;{obtain rfl:R=.uV 49 (.int .i64 6):=(by rw[hR,show wU F 0 l=6 from by exact bad 6 au (by rw[hgx,aB g1,aG g2])];rfl);exact ZJ};refine ZW ?_;refine .zW (ch x.name) ?_;constructor<;>intro g3;{obtain rfl:R=.uV 49 (.int .i64 6):=(by rw[hR,show wU F 0 l=6 from by exact bad 6 au (by rw[hgx,aB g1,aB g2,aG g3])];rfl);exact ZJ};refine ZW ?_;refine .zW (cg x.name) ?_;constructor<;>intro g4;{obtain rfl:R=.uV 49 (.int .i64 6):=(by rw[hR,show wU F 0 l=6 from by exact bad 6 au (by rw[hgx,aB g1,aB g2,aB g3,aG g4])];rfl);exact ZJ};rw[aB g1,aB g2,aB g3,aB g4]at hgx;have cm:=a0w x hr _ rfl;by_cases g5:uP x≠0;{rw[rW g5]at cm;rw[bad _ g5 hgx,rW g5]at hR;subst hR;refine ZW ?_;refine .zW cm ?_;exact ZH};have g5:uP x=0:=(by simpa using g5);rw[g5,sD]at cm;rw[g5]at hgx;refine ZW ?_;refine .zW cm ?_;refine ZG ?_;refine⟨i+1,?_,?_,?_⟩;{exact⟨hlt,by rw[hn,aB (by rw[show F i x=0 from by exact hgx];simp)]⟩};{exact Zv wk wk};omega};have hil:i=l.length:=(by have:¬i<l.length:=(by simpa using h);omega);rw[Aj aj]at hn;obtain rfl:R=.vJ:=(by rw[hR,hn];rfl);exact ZJ
def Ei(g:Mg)(k:Int):Bool:=decide (g.kind=7)||(decide (g.kind=8)&&decide (0<k))
theorem YQ(g:Mg)(k:Int):ZQ 143 [g.av,.int .i64 k] [] (.bool (Ei g k)) []:=by refine ZN Tryz.func143 λhok=>?_;constructor<;>intro h;{refine ZW ?_;refine ZF ?_;simp[Ei,h]};refine ZS ?_ ?_<;>intro h8;{refine ZW ?_;refine ZF ?_;simp[Ei,h8]};refine ZW ?_;refine ZF ?_;simp[Ei,h,h8]
theorem XO(l:List Str)(x:Str):ZQ 91 [sL l,.str x] [] (.int .i64 (zG (λy=>decide (x=y)) l)) []:=by refine ZI Tryz.func91 λhok=>?_;have hl:l.length<=9223372036854775807:=(by have:=hok.1.1;simpa[maxL]using this);refine Z0 ?_;refine qV.of <| qM.inv (.refl _ _) (fun(i:Nat)=>i<=l.length/\∀(j:Nat) (hj:j<l.length),j<i->(λy=>decide (x=y)) l[j]=false) (fun(i:Nat)=>[(8,.int .i64 i)]) (λ_=>_) (fun(i:Nat)=>l.length-i) 0 ?_ (λ_=>rfl) ?_ ?_;{exact⟨aO _,aj⟩};{exact wk};rintro i ⟨hi,hn⟩ _;refine ZS ?_ ?_<;>intro h;{have hlt:i<l.length:=(by simpa using h);refine ZW ?_;refine rV hlt ?_;refine ZS ?_ ?_<;>intro h;{refine ZW ?_;refine ZF ?_;exact⟨rfl,(wQ hlt (by simpa using h) λj hj=>hn j aj hj).symm⟩};refine ZW ?_;refine ZG ?_;refine⟨i+1,?_,?_,?_⟩;{refine⟨hlt,λj hj hji=>?_⟩;by_cases Lp:j=i;{subst Lp;simpa using h};exact hn j hj aj};{exact wk};omega};have hlt:i=l.length:=(by have:¬i<l.length:=(by simpa using h);omega);subst hlt;refine ZW ?_;refine ZF ?_;exact⟨rfl,(yw λj hj=>hn j hj hj).symm⟩
theorem EF(l:List Str)(x:Str):ZQ 144 [sL l,.str x] [] (.bool (l.any λy=>decide (x=y))) []:=by refine ZN Tryz.func144 λhok=>?_;refine .zW (XO l x) ?_;refine ZF ?_;exact TP _ l
def zh(m:Md)(a:Int)(g:Mg):Nat->List Str->List Str->Int×List Str
 |_,[],sp=>(0,sp)
 | k,s::l,sp=>if vN m a s=false then(5,[])else if Ei g k=true/\sH m.evs s<0 then(7,[])
   else if g.kind=7 then(if(sp.any λy=>decide (s=y))=true then(6,[])else zh m a g (k+1) l (sp++[s]))else zh m a g (k+1) l sp
def vF(m:Md)(a:Int):List Mg->List Str->Int×List Str
 | [],sp=>(0,sp)
 |g::l,sp=>if(zh m a g 0 g.ins sp).1≠0 then zh m a g 0 g.ins sp else vF m a l (zh m a g 0 g.ins sp).2
def tu(m:Md)(a:Int):Str:=(m.pages.getD a.toNat default).top
def yM(m:Md)(a:Int)(sp:List Str):Int×List Str :=
 if(vF m a (qN m a) sp).1≠0 then vF m a (qN m a) sp
 else if a ≠ -1/\uU (qN m a) (tu m a)<0/\sH m.evs (tu m a)<0 then(5,[])else vF m a (qN m a) sp
theorem OO{m:Md}{a:Int}{g:Mg}:∀{l:List Str} {k:Nat} {sp:List Str},(zh m a g k l sp).2.length<=sp.length+l.length
 | [],k,sp=>by simp[zh]
 |s::l,k,sp=>by simp only[zh];split;{simp};split;{simp};split;{split;{simp};have:=OO (m:=m) (a:=a) (g:=g) (l:=l) (k:=k+1) (sp:=sp++[s]);simp only[bn,dW,iQ]at this ⊢;omega};have:=OO (m:=m) (a:=a) (g:=g) (l:=l) (k:=k+1) (sp:=sp);simp only[dW];omega
theorem YT(m:Md)(a:Int)(sp:List Str)(ha:a = -1\/(0<=a/\a<(m.pages.length:Int)))(hB:(qN m a).length<=100/\∀x∈qN m a,x.ins.length<=40)(hsp:sp.length<=1000000)(R:AV)(G:Heap)
  (hR:R=if(yM m a sp).1=0 then .uf [.sl 1 ((yM m a sp).2.map .str) (.own 0),.vJ]else .uf [.qW,.uV 49 (.int .i64 (yM m a sp).1)])
  (hG:G=if(yM m a sp).1=0 then[(0,.tok 1 (yM m a sp).2.length)]else[(0,.gone)]) :
  ZQ 78 [m.av,.int .i64 a,.sl 1 (sp.map .str) (.own 0)] [(0,.tok 1 sp.length)] R G:=by
 have ce:=λs=>JX m s;have cg:=λs=>a3e (qN m a) s;have cG:=Gu m a ha;have ci:=λs=>Ny m a s ha;have err:∀e:Int,e≠0->(yM m a sp).1=e->R=.uf [.qW,.uV 49 (.int .i64 e)]/\G=[(0,.gone)]:=(by intro e h0 he;rw[hR,hG,he,aB h0,aB h0];exact⟨rfl,rfl⟩);have hpi:yM m a sp=if(vF m a (qN m a) sp).1≠0 then vF m a (qN m a) sp
  else if a ≠ -1/\uU (qN m a) (tu m a)<0/\sH m.evs (tu m a)<0 then(5,[])else vF m a (qN m a) sp:=rfl
 have hgl:a ≠ -1->qN m a=(m.pages.getD a.toNat default).gates:=λh=>aB h;refine ZN Tryz.func78 λhok=>?_;refine .zP cG λb2i=>?_;generalize hgs:qN m a=gs at *;refine ZW ?_;refine qV.of <| qM.inv (.refl _ _) (fun(s:Nat×List Str)=>s.1<=gs.length/\vF m a gs sp=vF m a (gs.drop s.1) s.2/\s.2.length<=sp.length+40*s.1)
  (λs=>[(17,.int .i64 s.1),(2,.sl 1 (s.2.map .str) (.own 0))]) (λs=>[(1,.box m.av),(0,.tok 1 s.2.length)]) (λs=>gs.length-s.1) (0,sp) ?_ (λ_=>rfl) ?_ ?_
 ·exact⟨aO _,rfl,ak⟩
 ·exact Zv wk wk
 rintro⟨i,s1⟩ ⟨hi,hn,hs1⟩ _;dsimp only at hi hn hs1;refine ZS ?_ ?_<;>intro h
 ·have hlt:i<gs.length:=(by simpa using h);have hxi:=hB.2 _ (aQ hlt);rw[aZ hlt]at hn;simp only[vF]at hn;have bad:∀e:Int,e≠0->(zh m a gs[i] 0 (gs[i]).ins s1).1=e->(yM m a sp).1=e:=(by intro e he h;rw[h,aG he]at hn;rw[hpi,hn,h,aG he,h]);refine ZW ?_;refine rV hlt ?_;generalize gs[i]=g at *;have cm:=λk=>YQ g k;refine ZW ?_;refine qV.of <| qM.inv (.refl _ _) (fun(s:Nat×List Str)=>s.1<=g.ins.length/\zh m a g 0 g.ins s1=zh m a g s.1 (g.ins.drop s.1) s.2/\s.2.length<=s1.length+s.1)
   (λs=>[(24,.int .i64 s.1),(2,.sl 1 (s.2.map .str) (.own 0))]) (λs=>[(2,.box g.av),(1,.box m.av),(0,.tok 1 s.2.length)]) (λs=>g.ins.length-s.1) (0,s1) ?_ (λ_=>rfl) ?_ ?_
  ·exact⟨aO _,rfl,ak⟩
  ·exact Zv wk wk
  rintro⟨j,s2⟩ ⟨hj,sZ,hs2⟩ _;dsimp only at hj sZ hs2;refine ZS ?_ ?_<;>intro hh
  ·have hjl:j<g.ins.length:=(by simpa using hh);rw[aZ hjl]at sZ;simp only[zh]at sZ;refine ZW ?_;refine rV hjl ?_;generalize g.ins[j]=x at *;refine ZW ?_;refine .zW (ci x) ?_;constructor<;>intro g1
   ·have g1:vN m a x=false:=(by simpa using g1);obtain⟨rfl,rfl⟩:=err 5 au (bad 5 au (by rw[sZ];rw[aG g1]));refine ZW ?_;refine⟨⟨_,_,.refl _ _,?_⟩⟩;conv=>whnf
    exact Zx wk wk
   have g1:¬vN m a x=false:=(by simpa using g1);refine ZW ?_;refine .zW (cm j) ?_;constructor<;>intro g2
   ·refine ZW ?_;refine .zW (ce x) ?_;constructor<;>intro g4
    ·obtain⟨rfl,rfl⟩:=err 7 au (bad 7 au (by rw[sZ];rw[aB g1,aG ⟨g2,g4⟩]));refine ZW ?_;refine⟨⟨_,_,.refl _ _,?_⟩⟩;conv=>whnf
     exact Zx wk wk
    refine ZS ?_ ?_<;>intro k7
    ·refine ZW ?_;refine .zW (EF s2 x) ?_;constructor<;>intro g3
     ·obtain⟨rfl,rfl⟩:=err 6 au (bad 6 au (by rw[sZ];rw[aB g1,aB (λh=>g4 h.2),aG k7,aG g3]));refine ZW ?_;refine⟨⟨_,_,.refl _ _,?_⟩⟩;conv=>whnf
      exact Zx wk wk
     have g3:¬(s2.any λy=>decide (x=y))=true:=(by rw[g3];simp);refine ZW ?_;refine⟨by rw[aC],.mk (by simp[maxL];omega) aA (ZW ?_)⟩;refine ZG ?_;refine⟨(j+1,s2++[x]),?_,?_,?_⟩;{exact⟨hjl,by rw[sZ];rw[aB g1,aB (λh=>g4 h.2),aG k7,aB g3],by first|(show s2.length<=s1.length+(j+1);omega)|(show(s2++[x]).length<=s1.length+(j+1);simp;omega)⟩}
     ·refine Zv ?_ ?_
      ·repeat' first|exact Zq|apply aI
       all_goals first|(refine qY ?_;simp[strip];done)|(simp;done)|(simp;omega)
      repeat' first|exact Zq|apply aI
      all_goals first|(refine qY ?_;simp[strip];done)|(simp;done)|(simp;omega)
     show g.ins.length-(j+1)<g.ins.length-j;omega
    refine ZW ?_;refine ZG ?_;refine⟨(j+1,s2),?_,?_,?_⟩;{exact⟨hjl,by rw[sZ];rw[aB g1,aB (λh=>g4 h.2),aB k7],by first|(show s2.length<=s1.length+(j+1);omega)|(show(s2++[x]).length<=s1.length+(j+1);simp;omega)⟩}
    ·refine Zv ?_ ?_
     ·repeat' first|exact Zq|apply aI
      all_goals first|(refine qY ?_;simp[strip];done)|(simp;done)|(simp;omega)
     repeat' first|exact Zq|apply aI
     all_goals first|(refine qY ?_;simp[strip];done)|(simp;done)|(simp;omega)
    show g.ins.length-(j+1)<g.ins.length-j;omega
   refine ZS ?_ ?_<;>intro k7
   ·refine ZW ?_;refine .zW (EF s2 x) ?_;constructor<;>intro g3
    ·obtain⟨rfl,rfl⟩:=err 6 au (bad 6 au (by rw[sZ];rw[aB g1,aB (λh=>by rw[g2]at h;cases h.1),aG k7,aG g3]));refine ZW ?_;refine⟨⟨_,_,.refl _ _,?_⟩⟩;conv=>whnf
     exact Zx wk wk
    have g3:¬(s2.any λy=>decide (x=y))=true:=(by rw[g3];simp);refine ZW ?_;refine⟨by rw[aC],.mk (by simp[maxL];omega) aA (ZW ?_)⟩;refine ZG ?_;refine⟨(j+1,s2++[x]),?_,?_,?_⟩;{exact⟨hjl,by rw[sZ];rw[aB g1,aB (λh=>by rw[g2]at h;cases h.1),aG k7,aB g3],by first|(show s2.length<=s1.length+(j+1);omega)|(show(s2++[x]).length<=s1.length+(j+1);simp;omega)⟩}
    ·refine Zv ?_ ?_
     ·repeat' first|exact Zq|apply aI
      all_goals first|(refine qY ?_;simp[strip];done)|(simp;done)|(simp;omega)
     repeat' first|exact Zq|apply aI
     all_goals first|(refine qY ?_;simp[strip];done)|(simp;done)|(simp;omega)
    show g.ins.length-(j+1)<g.ins.length-j;omega
   refine ZW ?_;refine ZG ?_;refine⟨(j+1,s2),?_,?_,?_⟩;{exact⟨hjl,by rw[sZ];rw[aB g1,aB (λh=>by rw[g2]at h;cases h.1),aB k7],by first|(show s2.length<=s1.length+(j+1);omega)|(show(s2++[x]).length<=s1.length+(j+1);simp;omega)⟩}
   ·refine Zv ?_ ?_
    ·repeat' first|exact Zq|apply aI
     all_goals first|(refine qY ?_;simp[strip];done)|(simp;done)|(simp;omega)
    repeat' first|exact Zq|apply aI
    all_goals first|(refine qY ?_;simp[strip];done)|(simp;done)|(simp;omega)
   show g.ins.length-(j+1)<g.ins.length-j;omega
  have hjl:j=g.ins.length:=(by have:¬j<g.ins.length:=(by simpa using hh);omega);subst hjl;rw[iY]at sZ;simp only[zh]at sZ;rw[sZ]at hn;refine ZW ?_;refine ZG ?_;refine⟨(i+1,s2),?_,?_,?_⟩;{exact⟨hlt,hn,by show s2.length<=sp.length+40*(i+1);omega⟩};{exact Zv wk wk};show gs.length-(i+1)<gs.length-i;omega
 have hil:i=gs.length:=(by have:¬i<gs.length:=(by simpa using h);omega);rw[aX aj]at hn;simp only[vF]at hn;clear h;rw[hn]at hpi;rw[aB ak]at hpi;refine ZS ?_ ?_<;>intro a1
 ·have hb:0<=a/\a<(m.pages.length:Int):=aj;have hgl:=hgl a1;have hpt:(m.pages.getD a.toNat default).top=tu m a:=rfl;generalize hpg:m.pages.getD a.toNat default=pg at *;refine ZW ?_;refine sK default hb ?_;rw[hpg];refine ZW ?_;refine sK default hb ?_;rw[hpg];refine ZW ?_;rw[<- hgl,hpt];refine .zW (cg (tu m a)) ?_;constructor<;>intro g1
  ·refine ZW ?_;refine .zW (ce (tu m a)) ?_;constructor<;>intro g2
   ·obtain⟨rfl,rfl⟩:=err 5 au (by rw[hpi,aG ⟨a1,g1,g2⟩]);refine ZW ?_;refine⟨⟨_,_,.refl _ _,?_⟩⟩;conv=>whnf
    exact Zx wk wk
   rw[aB (λh=>g2 h.2.2)]at hpi;rw[hpi,aG rfl]at hR hG;subst hR;subst hG;refine ZW ?_;refine⟨⟨_,_,.refl _ _,?_⟩⟩;conv=>whnf
   exact Zx wk wk
  rw[aB (λh=>g1 h.2.1)]at hpi;rw[hpi,aG rfl]at hR hG;subst hR;subst hG;refine ZW ?_;refine⟨⟨_,_,.refl _ _,?_⟩⟩;conv=>whnf
  exact Zx wk wk
 rw[aB (λh=>a1 h.1)]at hpi;rw[hpi,aG rfl]at hR hG;subst hR;subst hG;refine ZW ?_;refine⟨⟨_,_,.refl _ _,?_⟩⟩;conv=>whnf
 exact Zx wk wk
theorem a7g(l:List Rat)(g:Nat)(cap:List AV)(p:Rat->Bool)(H:Heap)(hg:∀x∈l,ZQ g (x.av::cap) H (.bool (p x)) H) :
  ZQ 194 [.sl 3 (l.map Rat.av) .no,.fn g cap] H (.int .i64 (zG p l)) H:=by
 refine ZI Tryz.func194 λhok=>?_;have hl:l.length<=9223372036854775807:=(by have:=hok.1.1;simpa[maxL]using this);refine Z0 ?_;refine qV.of <| qM.inv (.refl _ _) (fun(i:Nat)=>i<=l.length/\∀(j:Nat) (hj:j<l.length),j<i->p l[j]=false) (fun(i:Nat)=>[(8,.int .i64 i)]) (λ_=>_) (fun(i:Nat)=>l.length-i) 0 ?_ (λ_=>rfl) ?_ ?_;{exact⟨aO _,aj⟩};{exact wk};rintro i ⟨hi,hn⟩ _;refine ZS ?_ ?_<;>intro h
 ·have hlt:i<l.length:=(by simpa using h);refine ZW ?_;refine rV hlt (ZW ?_);refine .gen _ _ (hg _ (aQ hlt)) λ_=>?_;refine ZS ?_ ?_<;>intro h
  ·refine ZW ?_
   (refine uZ.same ?_;(conv=>whnf);refine⟨?_,rfl⟩;(conv=>whnf))
   exact⟨rfl,(wQ hlt h λj hj=>hn j aj hj).symm⟩
  refine ZW ?_;refine ZG ?_;refine⟨i+1,?_,?_,?_⟩;{refine⟨hlt,λj hj hji=>?_⟩;by_cases Lp:j=i;{subst Lp;exact h};exact hn j hj aj};{exact wk};omega
 have hlt:i=l.length:=(by have:¬i<l.length:=(by simpa using h);omega);subst hlt;refine ZW ?_
 (refine uZ.same ?_;(conv=>whnf);refine⟨?_,rfl⟩;(conv=>whnf))
 exact⟨rfl,(yw λj hj=>hn j hj hj).symm⟩
theorem IJ(l:List Rat)(g:Nat)(cap:List AV)(p:Rat->Bool)(H:Heap)(hg:∀x∈l,ZQ g (x.av::cap) H (.bool (p x)) H) :
  ZQ 124 [.sl 3 (l.map Rat.av) .no,.fn g cap] H (.bool (l.any p)) H:=by
 refine ZN Tryz.func124 λhok=>?_;refine .gen _ _ (a7g l g cap p H hg) λ_=>ZW ?_
 (refine uZ.same ?_;(conv=>whnf);refine⟨?_,rfl⟩;(conv=>whnf))
 exact TP _ l
theorem a0v(x:Rat)(hx:Px x):ZQ 147 [x.av] [] (.bool (!yH x)) []:=by refine ZN Tryz.func147 λhok=>?_;refine .zW hx.p ?_;exact ZH
def wG(m:Md):List Str->List Str->Int×List Str
 | [],sp=>(0,sp)
 |s::l,sp=>if sH m.evs s<0 then(5,[])else if(sp.any λy=>decide (s=y))=true then(6,[])else wG m l (sp++[s])
def yV(m:Md)(i:Nat)(x:Gr)(sp:List Str):Int×List Str :=
 if tZ x.name=false then(5,[])else if zG (λy=>decide (y.name=x.name)) m.Bq<i then(6,[])
 else if x.kind≠0/\x.kind≠1 then(7,[])
 else if x.mem.length<2 then(11,[])else if(if x.kind=1 then(4:Int)else 24)<x.mem.length then(11,[])
 else if(x.ES.length:Int)≠(if x.kind=1 then(x.mem.length:Int)-1 else 1)then(11,[])
 else if(wG m x.mem sp).1≠0 then wG m x.mem sp else if(x.ES.any λf=>!yH f)=true then(3,[])else wG m x.mem sp
def FB(m:Md):Nat->List Gr->List Str->Int
 |_,[],_=>0
 |i,x::l,sp=>if(yV m i x sp).1≠0 then(yV m i x sp).1 else FB m (i+1) l (yV m i x sp).2
def wB(m:Md):Int:=if 8<m.Bq.length then 4 else FB m 0 m.Bq []
theorem b5k(x y:Gr)(m:Md)(n:Nat):ZQ 146 [y.av,.ptr 2 [] 0] [(2,.box x.av),(1,.tok 1 n),(0,.box m.av)] (.bool (decide (y.name=x.name))) [(2,.box x.av),(1,.tok 1 n),(0,.box m.av)]:=by
 refine ZN Tryz.func146 λhok=>?_;refine⟨⟨_,_,.refl _ _,?_⟩⟩;conv=>whnf
 refine Zx ?_ ?_;{show _↔_;simp};exact wk
theorem YU(m:Md)(hC:MdC m)(hB:KJ m)(R:AV)(hR:R=zu (wB m)):ZQ 80 [m.av] [] R []:=by
 have ce:=λs=>JX m s;have hgl:=hB.Bq;refine ZN Tryz.func80 λhok=>?_;constructor<;>intro h1;{have h1:8<m.Bq.length:=(by simp only[aC]at h1;omega);obtain rfl:R=.uV 49 (.int .i64 4):=(by rw[hR,show wB m=4 from aG h1];rfl);exact ZJ};have h1:¬8<m.Bq.length:=(by simp only[aC]at h1;omega);have hge:wB m=FB m 0 m.Bq []:=aB h1;refine ZW ?_;refine qV.of <| qM.inv (.grow 3 1 [] _ rfl (.inl ⟨rfl,rfl⟩) (.refl _ _)) (fun(s:Nat×List Str)=>s.1<=m.Bq.length/\FB m 0 m.Bq []=FB m s.1 (m.Bq.drop s.1) s.2/\s.2.length<=60*s.1)
  (λs=>[(18,.int .i64 s.1),(3,.sl 1 (s.2.map .str) (.own 1))]) (λs=>[(1,.tok 1 s.2.length),(0,.box m.av)]) (λs=>m.Bq.length-s.1) (0,[]) ?_ (λ_=>rfl) ?_ ?_
 ·exact⟨aO _,rfl,ak⟩
 ·exact Zv wk wk
 rintro⟨i,sp⟩ ⟨hi,hn,hs1⟩ _;dsimp only at hi hn hs1;refine ZS ?_ ?_<;>intro h
 ·have hlt:i<m.Bq.length:=(by simpa using h);have hml:=hB.mem _ (aQ hlt);have hfc:=hC.Bq _ (aQ hlt);rw[aZ hlt]at hn;simp only[FB]at hn;have bad:∀e:Int,e≠0->(yV m i m.Bq[i] sp).1=e->wB m=e:=(by intro e he h;rw[h,aG he]at hn;rw[hge,hn]);refine ZW ?_;refine rV hlt ?_;generalize hx0:m.Bq[i]=x at *;refine ZW ?_;refine .zW (Bh x.name) ?_;constructor<;>intro g1;{have g1:tZ x.name=false:=(by simpa using g1);obtain rfl:R=.uV 49 (.int .i64 5):=(by rw[hR,bad 5 au (by unfold yV;rw[aG g1])];rfl);exact ZJ};have g1:¬tZ x.name=false:=(by simpa using g1);refine ZW ?_;refine .gen _ _ (a9W m.Bq 146 [.ptr 2 [] 0] (λy=>decide (y.name=x.name)) _ λy _=>b5k x y m sp.length) λ_=>?_;refine ZS ?_ ?_<;>intro g2;{obtain rfl:R=.uV 49 (.int .i64 6):=(by rw[hR,bad 6 au (by unfold yV;rw[aB g1,aG g2])];rfl);exact ZJ};refine ZS ?_ ?_<;>intro k0
  ·refine ZS ?_ ?_<;>intro k1;{obtain rfl:R=.uV 49 (.int .i64 7):=(by rw[hR,bad 7 au (by unfold yV;rw[aB g1,aB g2,aG ⟨k0,k1⟩])];rfl);exact ZJ};have k1:x.kind=1:=aj;have g3:¬(x.kind≠0/\x.kind≠1):=λh=>h.2 k1;refine ZW ?_;refine aP (λ_=>?_) (λh=>absurd k1 h);refine ZW ?_;refine ZR ?_;refine⟨rQ aA aA,?_⟩;rw[show((x.mem.map AV.str).length:Int)=(x.mem.length:Int) by simp];have e1:(if x.kind=1 then(4:Int)else 24)=4:=aG k1;have e2:(if x.kind=1 then(x.mem.length:Int)-1 else 1)=(x.mem.length:Int)-1:=aG k1;refine ZS ?_ ?_<;>intro g4;{have g4:x.mem.length<2:=(by simp only[aC]at g4;omega);obtain rfl:R=.uV 49 (.int .i64 11):=(by rw[hR,bad 11 au (by unfold yV;rw[aB g1,aB g2,aB g3,aG g4])];rfl);exact ZJ};have g4:¬x.mem.length<2:=(by simp only[aC]at g4;omega);refine ZS ?_ ?_<;>intro g5;{rw[show((x.mem.map AV.str).length:Int)=(x.mem.length:Int) by simp,<- e1]at g5;obtain rfl:R=.uV 49 (.int .i64 11):=(by rw[hR,bad 11 au (by unfold yV;rw[aB g1,aB g2,aB g3,aB g4,aG g5])];rfl);exact ZJ};rw[show((x.mem.map AV.str).length:Int)=(x.mem.length:Int) by simp,<- e1]at g5;refine ZS ?_ ?_<;>intro g6;{rw[show((x.ES.map Rat.av).length:Int)=(x.ES.length:Int) by simp,<- e2]at g6;obtain rfl:R=.uV 49 (.int .i64 11):=(by rw[hR,bad 11 au (by unfold yV;rw[aB g1,aB g2,aB g3,aB g4,aB g5,aG g6])];rfl);exact ZJ};rw[show((x.ES.map Rat.av).length:Int)=(x.ES.length:Int) by simp,<- e2]at g6;have hgr:yV m i x sp=if(wG m x.mem sp).1≠0 then wG m x.mem sp else if(x.ES.any λf=>!yH f)=true then(3,[])else wG m x.mem sp:=(by unfold yV;rw[aB g1,aB g2,aB g3,aB g4,aB g5,aB g6]);refine ZW ?_;refine qV.of <| qM.inv (.refl _ _) (fun(s:Nat×List Str)=>s.1<=x.mem.length/\wG m x.mem sp=wG m (x.mem.drop s.1) s.2/\s.2.length<=sp.length+s.1)
    (λs=>[(73,.int .i64 s.1),(3,.sl 1 (s.2.map .str) (.own 1))]) (λs=>[(2,.box x.av),(1,.tok 1 s.2.length),(0,.box m.av)]) (λs=>x.mem.length-s.1) (0,sp) ?_ (λ_=>rfl) ?_ ?_
   ·exact⟨aO _,rfl,ak⟩
   ·exact Zv wk wk
   rintro⟨j,s2⟩ ⟨hj,sZ,hs2⟩ _;dsimp only at hj sZ hs2;refine ZS ?_ ?_<;>intro hh
   ·have hjl:j<x.mem.length:=(by simpa using hh);rw[aZ hjl]at sZ;simp only[wG]at sZ;refine ZW ?_;refine rV hjl ?_;generalize x.mem[j]=y at *;refine ZW ?_;refine .zW (ce y) ?_;constructor<;>intro q1;{rw[aG q1]at sZ;obtain rfl:R=.uV 49 (.int .i64 5):=(by rw[hR,bad 5 au (by rw[hgr,sZ];rfl)];rfl);exact ZJ};rw[aB q1]at sZ;refine ZW ?_;refine .zW (EF s2 y) ?_;constructor<;>intro q2;{rw[aG q2]at sZ;obtain rfl:R=.uV 49 (.int .i64 6):=(by rw[hR,bad 6 au (by rw[hgr,sZ];rfl)];rfl);exact ZJ};rw[aB (by rw[q2];simp)]at sZ;refine ZW ?_;refine⟨by rw[aC],.mk (by simp[maxL];omega) aA (ZW ?_)⟩;refine ZG ?_;refine⟨(j+1,s2++[y]),?_,?_,?_⟩;{exact⟨hjl,sZ,by show(s2++[y]).length<=sp.length+(j+1);simp;omega⟩}
    ·refine Zv ?_ ?_
     ·repeat' first|exact Zq|apply aI
      all_goals first|(refine qY ?_;simp[strip];done)|(simp;done)|(simp;omega)
     repeat' first|exact Zq|apply aI
     all_goals first|(refine qY ?_;simp[strip];done)|(simp;done)|(simp;omega)
    show x.mem.length-(j+1)<x.mem.length-j;omega
   have hjl:j=x.mem.length:=(by have:¬j<x.mem.length:=(by simpa using hh);omega);rw[aX aj]at sZ;simp only[wG]at sZ;rw[sZ,aB ak]at hgr;refine ZW ?_;refine .gen _ _ (IJ x.ES 147 [] (λf=>!yH f) _ λf hf=>qX.vU (a0v f (hfc f hf)) (rM _) ⟨rfl,rfl⟩) λ_=>?_;refine ZS ?_ ?_<;>intro q3;{rw[aG q3]at hgr;obtain rfl:R=.uV 49 (.int .i64 3):=(by rw[hR,bad 3 au (by rw[hgr])];rfl);exact ZJ};rw[aB (by rw[q3];simp)]at hgr;rw[hgr,aB ak]at hn;refine ZW ?_;refine ZG ?_;refine⟨(i+1,s2),?_,?_,?_⟩;{exact⟨hlt,hn,by show s2.length<=60*(i+1);omega⟩};{exact Zv wk wk};show m.Bq.length-(i+1)<m.Bq.length-i;omega
  have k0:x.kind=0:=aj;have g3:¬(x.kind≠0/\x.kind≠1):=λh=>h.1 k0;refine ZW ?_;refine aP (λh=>by exfalso;omega) (λh1=>?_);have e1:(if x.kind=1 then(4:Int)else 24)=24:=aB h1;have e2:(if x.kind=1 then(x.mem.length:Int)-1 else 1)=1:=aB h1;refine ZS ?_ ?_<;>intro g4;{have g4:x.mem.length<2:=(by simp only[aC]at g4;omega);obtain rfl:R=.uV 49 (.int .i64 11):=(by rw[hR,bad 11 au (by unfold yV;rw[aB g1,aB g2,aB g3,aG g4])];rfl);exact ZJ};have g4:¬x.mem.length<2:=(by simp only[aC]at g4;omega);refine ZS ?_ ?_<;>intro g5;{rw[show((x.mem.map AV.str).length:Int)=(x.mem.length:Int) by simp,<- e1]at g5;obtain rfl:R=.uV 49 (.int .i64 11):=(by rw[hR,bad 11 au (by unfold yV;rw[aB g1,aB g2,aB g3,aB g4,aG g5])];rfl);exact ZJ};rw[show((x.mem.map AV.str).length:Int)=(x.mem.length:Int) by simp,<- e1]at g5;refine ZS ?_ ?_<;>intro g6;{rw[show((x.ES.map Rat.av).length:Int)=(x.ES.length:Int) by simp,<- e2]at g6;obtain rfl:R=.uV 49 (.int .i64 11):=(by rw[hR,bad 11 au (by unfold yV;rw[aB g1,aB g2,aB g3,aB g4,aB g5,aG g6])];rfl);exact ZJ};rw[show((x.ES.map Rat.av).length:Int)=(x.ES.length:Int) by simp,<- e2]at g6;have hgr:yV m i x sp=if(wG m x.mem sp).1≠0 then wG m x.mem sp else if(x.ES.any λf=>!yH f)=true then(3,[])else wG m x.mem sp:=(by unfold yV;rw[aB g1,aB g2,aB g3,aB g4,aB g5,aB g6]);refine ZW ?_;refine qV.of <| qM.inv (.refl _ _) (fun(s:Nat×List Str)=>s.1<=x.mem.length/\wG m x.mem sp=wG m (x.mem.drop s.1) s.2/\s.2.length<=sp.length+s.1)
   (λs=>[(73,.int .i64 s.1),(3,.sl 1 (s.2.map .str) (.own 1))]) (λs=>[(2,.box x.av),(1,.tok 1 s.2.length),(0,.box m.av)]) (λs=>x.mem.length-s.1) (0,sp) ?_ (λ_=>rfl) ?_ ?_
  ·exact⟨aO _,rfl,ak⟩
  ·exact Zv wk wk
  rintro⟨j,s2⟩ ⟨hj,sZ,hs2⟩ _;dsimp only at hj sZ hs2;refine ZS ?_ ?_<;>intro hh
  ·have hjl:j<x.mem.length:=(by simpa using hh);rw[aZ hjl]at sZ;simp only[wG]at sZ;refine ZW ?_;refine rV hjl ?_;generalize x.mem[j]=y at *;refine ZW ?_;refine .zW (ce y) ?_;constructor<;>intro q1;{rw[aG q1]at sZ;obtain rfl:R=.uV 49 (.int .i64 5):=(by rw[hR,bad 5 au (by rw[hgr,sZ];rfl)];rfl);exact ZJ};rw[aB q1]at sZ;refine ZW ?_;refine .zW (EF s2 y) ?_;constructor<;>intro q2;{rw[aG q2]at sZ;obtain rfl:R=.uV 49 (.int .i64 6):=(by rw[hR,bad 6 au (by rw[hgr,sZ];rfl)];rfl);exact ZJ};rw[aB (by rw[q2];simp)]at sZ;refine ZW ?_;refine⟨by rw[aC],.mk (by simp[maxL];omega) aA (ZW ?_)⟩;refine ZG ?_;refine⟨(j+1,s2++[y]),?_,?_,?_⟩;{exact⟨hjl,sZ,by show(s2++[y]).length<=sp.length+(j+1);simp;omega⟩}
   ·refine Zv ?_ ?_
    ·repeat' first|exact Zq|apply aI
     all_goals first|(refine qY ?_;simp[strip];done)|(simp;done)|(simp;omega)
    repeat' first|exact Zq|apply aI
    all_goals first|(refine qY ?_;simp[strip];done)|(simp;done)|(simp;omega)
   show x.mem.length-(j+1)<x.mem.length-j;omega
  have hjl:j=x.mem.length:=(by have:¬j<x.mem.length:=(by simpa using hh);omega);rw[aX aj]at sZ;simp only[wG]at sZ;rw[sZ,aB ak]at hgr;refine ZW ?_;refine .gen _ _ (IJ x.ES 147 [] (λf=>!yH f) _ λf hf=>qX.vU (a0v f (hfc f hf)) (rM _) ⟨rfl,rfl⟩) λ_=>?_;refine ZS ?_ ?_<;>intro q3;{rw[aG q3]at hgr;obtain rfl:R=.uV 49 (.int .i64 3):=(by rw[hR,bad 3 au (by rw[hgr])];rfl);exact ZJ};rw[aB (by rw[q3];simp)]at hgr;rw[hgr,aB ak]at hn;refine ZW ?_;refine ZG ?_;refine⟨(i+1,s2),?_,?_,?_⟩;{exact⟨hlt,hn,by show s2.length<=60*(i+1);omega⟩};{exact Zv wk wk};show m.Bq.length-(i+1)<m.Bq.length-i;omega
 have hil:i=m.Bq.length:=(by have:¬i<m.Bq.length:=(by simpa using h);omega);rw[aX aj]at hn;simp only[FB]at hn;rw[hge,hn]at hR;subst hR;exact ZJ
def Dx(m:Md)(x:Ph)(k:Nat)(v:Pv):Int :=
 if sH m.evs v.ev<0 then 5 else if zG (λy=>decide (y.ev=v.ev)) x.vals<k then 6 else if yH v.p=false then 3 else 0
def DC(m:Md)(i:Nat)(x:Ph):Int :=
 if tZ x.name=false then 5 else if zG (λy=>decide (y.name=x.name)) m.Di<i then 6
 else if vN m (-1) x.top=false then 5 else wU (Dx m x) 0 x.vals
def vH(m:Md):Int:=if 6<m.Di.length then 4 else wU (DC m) 0 m.Di
theorem b6C(x y:Ph)(m:Md):ZQ 149 [y.av,.ptr 1 [] 0] [(1,.box x.av),(0,.box m.av)] (.bool (decide (y.name=x.name))) [(1,.box x.av),(0,.box m.av)]:=by
 refine ZN Tryz.func149 λhok=>?_;refine⟨⟨_,_,.refl _ _,?_⟩⟩;conv=>whnf
 refine Zx ?_ ?_;{show _↔_;simp};exact wk
theorem b6B(v y:Pv)(x:Ph)(m:Md):ZQ 151 [y.av,.ptr 2 [] 0] [(2,.box v.av),(1,.box x.av),(0,.box m.av)] (.bool (decide (y.ev=v.ev))) [(2,.box v.av),(1,.box x.av),(0,.box m.av)]:=by
 refine ZN Tryz.func151 λhok=>?_;refine⟨⟨_,_,.refl _ _,?_⟩⟩;conv=>whnf
 refine Zx ?_ ?_;{show _↔_;simp};exact wk
theorem YS(m:Md)(hC:MdC m)(hB:KJ m)(R:AV)(hR:R=zu (vH m)):ZQ 81 [m.av] [] R []:=by have ce:=λs=>JX m s;have ci:=λs=>Ny m (-1) s (.inl rfl);have hpl:=hB.Di;refine ZN Tryz.func81 λhok=>?_;constructor<;>intro h1;{have h1:6<m.Di.length:=(by simp only[aC]at h1;omega);obtain rfl:R=.uV 49 (.int .i64 4):=(by rw[hR,show vH m=4 from aG h1];rfl);exact ZJ};have h1:¬6<m.Di.length:=(by simp only[aC]at h1;omega);have hge:vH m=wU (DC m) 0 m.Di:=aB h1;refine ZW ?_;refine qV.of <| qM.inv (.refl _ _) (fun(i:Nat)=>i<=m.Di.length/\wU (DC m) 0 m.Di=wU (DC m) i (m.Di.drop i)) (fun(i:Nat)=>[(15,.int .i64 i)]) (λ_=>_) (fun(i:Nat)=>m.Di.length-i) 0 ?_ (λ_=>rfl) ?_ ?_;{exact⟨aO _,rfl⟩};{exact wk};rintro i ⟨hi,hn⟩ _;refine ZS ?_ ?_<;>intro h;{have hlt:i<m.Di.length:=(by simpa using h);have hvl:=hB.vals _ (aQ hlt);have hfc:=hC.Di _ (aQ hlt);rw[zo hlt]at hn;have bad:∀e:Int,e≠0->DC m i m.Di[i]=e->vH m=e:=(by intro e he h;rw[h,aG he]at hn;rw[hge,hn]);refine ZW ?_;refine rV hlt ?_;generalize hx0:m.Di[i]=x at *;refine ZW ?_;refine .zW (Bh x.name) ?_;constructor<;>intro g1;{have g1:tZ x.name=false:=(by simpa using g1);obtain rfl:R=.uV 49 (.int .i64 5):=(by rw[hR,bad 5 au (by unfold DC;rw[aG g1])];rfl);exact ZJ};have g1:¬tZ x.name=false:=(by simpa using g1);refine ZW ?_;refine .gen _ _ (a9V m.Di 149 [.ptr 1 [] 0] (λy=>decide (y.name=x.name)) _ λy _=>b6C x y m) λ_=>?_;refine ZS ?_ ?_<;>intro g2;{obtain rfl:R=.uV 49 (.int .i64 6):=(by rw[hR,bad 6 au (by unfold DC;rw[aB g1,aG g2])];rfl);exact ZJ};refine ZW ?_;refine .zW (ci x.top) ?_;constructor<;>intro g3;{have g3:vN m (-1) x.top=false:=(by simpa using g3);obtain rfl:R=.uV 49 (.int .i64 5):=(by rw[hR,bad 5 au (by unfold DC;rw[aB g1,aB g2,aG g3])];rfl);exact ZJ};have g3:¬vN m (-1) x.top=false:=(by simpa using g3);have hph:DC m i x=wU (Dx m x) 0 x.vals:=(by unfold DC;rw[aB g1,aB g2,aB g3]);rw[hph]at bad hn;refine ZW ?_;refine qV.of <| qM.inv (.refl _ _) (fun(j:Nat)=>j<=x.vals.length/\wU (Dx m x) 0 x.vals=wU (Dx m x) j (x.vals.drop j)) (fun(j:Nat)=>[(41,.int .i64 j)]) (λ_=>_) (fun(j:Nat)=>x.vals.length-j) 0 ?_ (λ_=>rfl) ?_ ?_;{exact⟨aO _,rfl⟩};{exact wk};rintro j ⟨hj,sZ⟩ _;refine ZS ?_ ?_<;>intro hh;{have hjl:j<x.vals.length:=(by simpa using hh);have hp:=hfc _ (aQ hjl);rw[zo hjl]at sZ;have bad:∀e:Int,e≠0->Dx m x j x.vals[j]=e->vH m=e:=(by intro e he h;rw[h,aG he]at sZ;exact bad e he sZ);refine ZW ?_;refine rV hjl ?_;generalize x.vals[j]=v at *;refine ZW ?_;refine .zW (ce v.ev) ?_;constructor<;>intro q1;{obtain rfl:R=.uV 49 (.int .i64 5):=(by rw[hR,bad 5 au (by unfold Dx;rw[aG q1])];rfl);exact ZJ};refine ZW ?_;refine .gen _ _ (a9U x.vals 151 [.ptr 2 [] 0] (λy=>decide (y.ev=v.ev)) _ λy _=>b6B v y x m) λ_=>?_;refine ZS ?_ ?_<;>intro q2;{obtain rfl:R=.uV 49 (.int .i64 6):=(by rw[hR,bad 6 au (by unfold Dx;rw[aB q1,aG q2])];rfl);exact ZJ};refine ZW ?_;refine .zW hp.p ?_;constructor<;>intro q3;{have q3:yH v.p=false:=(by simpa using q3);obtain rfl:R=.uV 49 (.int .i64 3):=(by rw[hR,bad 3 au (by unfold Dx;rw[aB q1,aB q2,aG q3])];rfl);exact ZJ};have q3:¬yH v.p=false:=(by simpa using q3);refine ZW ?_;refine ZG ?_;refine⟨j+1,?_,?_,?_⟩;{exact⟨hjl,by rw[sZ,aB (by rw[show Dx m x j v=0 from by unfold Dx;rw[aB q1,aB q2,aB q3]];simp)]⟩};{exact Zv wk wk};omega};have hjl:j=x.vals.length:=(by have:¬j<x.vals.length:=(by simpa using hh);omega);rw[Aj aj]at sZ;rw[sZ,aB ak]at hn;refine ZW ?_;refine ZG ?_;refine⟨i+1,?_,?_,?_⟩;{exact⟨hlt,hn⟩};{exact Zv wk wk};omega};have hil:i=m.Di.length:=(by have:¬i<m.Di.length:=(by simpa using h);omega);rw[Aj aj]at hn;rw[hge,hn]at hR;subst hR;exact ZJ
abbrev Node:=Int×Int×Int
abbrev OG(x:Node):AV:=.ag [.int .i64 x.1,.int .i64 x.2.1,.int .i64 x.2.2]
def zJ(m:Md)(a:Int)(s:Str):Node :=
 if 0<=sH m.evs s then(0,0,sH m.evs s)else if 0<=uM m.hs s then(1,0,uM m.hs s)else(2,a,uU (qN m a) s)
def zf(m:Md)(a:Int)(s:Str):Node :=
 if Ed s=true then zJ m (tK m.pages (s.drop 1)) (tu m (tK m.pages (s.drop 1)))else zJ m a s
theorem ED{α:Type}(p:α->Bool)(l:List α):zG p l<(l.length:Int):=by rcases zF p l with⟨h,_⟩|⟨i,h,h1,_⟩ <;> omega
theorem a0t(m:Md)(a:Int)(s:Str)(h0:0<s.length)(ha:a = -1\/(0<=a/\a<(m.pages.length:Int)))(hp:Ed s=true->0<=tK m.pages (s.drop 1)):ZQ 214 [m.av,.int .i64 a,.str s] [] (OG (zf m a s)) []:=by have ce:=λs=>JX m s;have ch:=λs=>U0 m s;have cG:=λa h=>Gu m a h;have cg:=λa s=>a3e (qN m a) s;have cp:=a7b m (s.drop 1);have hpl:tK m.pages (s.drop 1)<(m.pages.length:Int):=ED _ _;refine ZN Tryz.func214 λhok=>?_;refine Tq h0 ?_;refine ZS ?_ ?_<;>intro h2;{have e:Ed s=true:=(by simp only[Ed,h0,h2,decide_true,jv]);have hp:=hp e;rw[show zf m a s=zJ m (tK m.pages (s.drop 1)) (tu m (tK m.pages (s.drop 1)))from aG e];have hpt:(m.pages.getD (tK m.pages (s.drop 1)).toNat default).top=tu m (tK m.pages (s.drop 1)):=rfl;refine ZW ?_;refine ZR ?_;refine⟨⟨aj,aj,aj⟩,?_⟩;rw[b4X];refine ZW ?_;refine .zP cp ?_;generalize tK m.pages (s.drop 1)=p at *;have hpb:p = -1\/(0<=p/\p<(m.pages.length:Int)):=.inr ⟨hp,hpl⟩;refine ZW ?_;refine sK default ⟨hp,hpl⟩ (ZW ?_);rw[hpt];generalize tu m p=t at *;refine ZW ?_;refine .zW (ce t) ?_;constructor<;>intro h3;{rw[show zJ m p t=(0,0,sH m.evs t)from aG h3];exact ZJ};refine ZW ?_;refine .zW (ch t) ?_;constructor<;>intro h4;{rw[show zJ m p t=(1,0,uM m.hs t)from(aB h3).trans (aG h4)];exact ZJ};rw[show zJ m p t=(2,p,uU (qN m p) t)from(aB h3).trans (aB h4)];refine ZW ?_;refine .zW (cG p (by assumption)) ?_;refine .zW (cg p t) ?_;exact ZH};have e:Ed s=false:=(by simp only[Ed,bK h2,lJ]);rw[show zf m a s=zJ m a s from aB (by rw[e];simp)];refine ZW ?_;refine .zW (ce s) ?_;constructor<;>intro h3;{rw[show zJ m a s=(0,0,sH m.evs s)from aG h3];exact ZJ};refine ZW ?_;refine .zW (ch s) ?_;constructor<;>intro h4;{rw[show zJ m a s=(1,0,uM m.hs s)from(aB h3).trans (aG h4)];exact ZJ};rw[show zJ m a s=(2,a,uU (qN m a) s)from(aB h3).trans (aB h4)];refine ZW ?_;refine .zW (cG a (by assumption)) ?_;refine .zW (cg a s) ?_;exact ZH
abbrev Marks:=List (Node×Int)
def look:Marks->Node->Int
 | [],_=>0
 |(y,v)::es,x=>if y=x then v else look es x
def mark:Marks->Node->Int->Marks
 | [],x,v=>[(x,v)]
 |(y,u)::es,x,v=>if y=x then(x,v)::es else(y,u)::mark es x v
abbrev xM(es:Marks):List (AV×AV):=es.map λe=>(OG e.1,.int .i64 e.2)
theorem a2y{x y:Node}:Uw (OG x)=Uw (OG y)↔x=y:=by obtain⟨a,b,c⟩:=x;obtain⟨d,e,f⟩:=y;simp[Uw,b5H]
theorem a3r{es:Marks}{x:Node}{k:AV->Prop}(h:k (.int .i64 (look es x))):FW (xM es) (OG x) λr=>DI false (.int .i64 0) r k:=by
 have key:∃r,a4D (xM es) (OG x) r/\DI false (.int .i64 0) r k:=by
  induction es with
  |nil=>exact⟨none,by simp[a4D,xM],h⟩
  | cons e es ih =>
    obtain⟨y,v⟩:=e;by_cases hy:y=x;{subst hy;refine⟨some (.int .i64 v),⟨_,dD,rfl,rfl⟩,?_⟩;rw[show look ((y,v)::es) y=v from aG rfl]at h;exact h};have h':k (.int .i64 (look es x)):=(by rw[show look ((y,v)::es) x=look es x from aB hy]at h;exact h);obtain⟨r,h1,h2⟩:=ih h';refine⟨r,?_,h2⟩;cases r with
    |none =>intro z hz;simp only[xM,dF,aT]at hz;rcases hz with rfl|hz;{exact λe=>hy (a2y.1 e)};exact h1 z hz
    |some w =>obtain⟨z,hz,h3,h4⟩:=h1;exact⟨z,by simp only[xM,dF,aT];exact .inr hz,h3,h4⟩
 exact⟨key⟩
theorem b37{es:Marks}{x:Node}{v:Int}:b7k (xM es) (OG x) (.int .i64 v) (xM (mark es x v)):=by
 induction es with
 |nil=>exact .inl ⟨by simp[xM],rfl⟩
 |cons e es ih =>obtain⟨y,u⟩:=e;by_cases hy:y=x;{subst hy;exact .inr ⟨0,(OG y,.int .i64 u),rfl,rfl,by simp[mark,xM]⟩};simp only[mark,aB hy];rcases ih with⟨h1,h2⟩|⟨j,z,h1,h2,h3⟩;{refine .inl ⟨?_,?_⟩;{intro z hz;simp only[xM,dF,aT]at hz;rcases hz with rfl|hz;{exact λe=>hy (a2y.1 e)};exact h1 z hz};simp only[xM,dF,eX]at h2 ⊢;rw[h2]};refine .inr ⟨j+1,z,by simpa[xM]using h1,h2,?_⟩;simp only[xM,dF,jT]at h3 ⊢;rw[h3]
theorem NC{es:Marks}{x:Node}{v:Int}{k:List (AV×AV)->Prop}(h:k (xM (mark es x v))):b1l (xM es) (OG x) (.int .i64 v) k:=⟨_,b37,h⟩
theorem wP{es:Marks}{x y:Node}{v:Int}:look (mark es x v) y=if x=y then v else look es y:=by
 induction es with
 |nil=>simp[mark,look]
 |cons e es ih =>obtain⟨z,u⟩:=e;simp only[mark];by_cases hz:z=x;{subst hz;rw[aG rfl];simp only[look];split <;> rfl};rw[aB hz];simp only[look,ih];by_cases h1:z=y;{subst h1;rw[aG rfl,aG rfl,aB (λe=>hz e.symm)]};rw[aB h1,aB h1]
structure WS(σ:Type) where
 es:Marks
 st:σ
def yg{σ:Type}(f:Node->WS σ->Bool×WS σ):List Node->WS σ->Bool×WS σ
 | [],s=>(false,s)
 |y::l,s=>if(f y s).1=true then f y s else yg f l (f y s).2
def yU{σ:Type}(kids:Node->List Node)(step:σ->Node->σ):Nat->Node->WS σ->Bool×WS σ
 | 0,_,s=>(false,s)
 | n+1,x,s =>
   if x.1≠2 then(false,⟨s.es,step s.st x⟩)
   else if look s.es x=1 then(true,s)
   else if look s.es x=2 then(false,s)
   else if(yg (yU kids step n) (kids x) ⟨mark s.es x 1,step s.st x⟩).1=true then yg (yU kids step n) (kids x) ⟨mark s.es x 1,step s.st x⟩
   else(false,⟨mark (yg (yU kids step n) (kids x) ⟨mark s.es x 1,step s.st x⟩).2.es x 2,(yg (yU kids step n) (kids x) ⟨mark s.es x 1,step s.st x⟩).2.st⟩)
def isM(es:Marks)(x:Node):Bool:=decide (look es x=1)||decide (look es x=2)
def free(all:List Node)(es:Marks):Nat:=(all.filter λx=>!isM es x).length
def MLe(es es':Marks):Prop:=∀x,isM es x=true->isM es' x=true
theorem MLe.refl(es:Marks):MLe es es:=λ_ h=>h
theorem MLe.trans{a b c:Marks}(h1:MLe a b)(h2:MLe b c):MLe a c:=λx h=>h2 x (h1 x h)
theorem WW{es:Marks}{x y:Node}{v:Int}(hv:v=1\/v=2):isM (mark es x v) y=if x=y then true else isM es y:=by unfold isM;rw[wP];split;{rcases hv with rfl|rfl <;> rfl};rfl
theorem MLe.mark{es:Marks}{x:Node}{v:Int}(hv:v=1\/v=2):MLe es (mark es x v):=by intro y hy;rw[WW hv];split;{rfl};exact hy
theorem IE{α:Type}{p q:α->Bool}:∀{l:List α},(∀x∈l,p x=true->q x=true)->(l.filter p).length<=(l.filter q).length
 | [],_=>ak
 | x::l,h=>by
   have ih:=IE (l:=l) λy hy=>h y (by simp[hy]);have hx:=h x ak;simp only[kN];cases hp:p x with
   |true=>rw[hx hp];simp;exact ih
   | false =>
     cases hq:q x with
     |true=>simp;omega
     |false=>simpa using ih
theorem Oe{α:Type}{p q:α->Bool}:∀{l:List α} {y:α},(∀x∈l,p x=true->q x=true)->y∈l->p y=false->q y=true->(l.filter p).length<(l.filter q).length
 | [],_,_,h,_,_=>by simp at h
 | x::l,y,h,hy,h1,h2=>by
   have b77:=IE (l:=l) λz hz=>h z (by simp[hz]);rcases aT.1 hy with rfl|hy;{simp only[kN,h1,h2];simp;omega};have ih:=Oe (l:=l) (λz hz=>h z (by simp[hz])) hy h1 h2;have hx:=h x ak;simp only[kN];cases hp:p x with
   |true=>rw[hx hp];simp;exact ih
   | false =>
     cases hq:q x with
     |true=>simp;omega
     |false=>simpa using ih
theorem a1m{all:List Node}{es es':Marks}(h:MLe es es'):free all es'<=free all es:=by
 unfold free;refine IE λx _ hx=>?_;have:=h x;cases h1:isM es x with
 |false=>rfl
 |true=>rw[this h1]at hx;cases hx
theorem a6b{all:List Node}{es:Marks}{x:Node}{v:Int}(hx:x∈all)(h1:look es x≠1)(h2:look es x≠2)(hv:v=1\/v=2):free all (mark es x v)<free all es:=by unfold free;refine Oe (y:=x) (λy _ hy=>?_) hx (by rw[WW hv,aG rfl];rfl) (by unfold isM;rw[bK h1,bK h2];rfl);rw[WW hv]at hy;split at hy;{cases hy};exact hy
theorem ZL{σ:Type}{f:Node->WS σ->Bool×WS σ}(hf:∀x s,MLe s.es (f x s).2.es):∀(l:List Node) (s:WS σ),MLe s.es (yg f l s).2.es
 | [],s=>.refl _
 |y::l,s=>by simp only[yg];split;{exact hf y s};exact(hf y s).trans (ZL hf l _)
theorem MJ{σ:Type}{kids:Node->List Node}{step:σ->Node->σ}:∀(n:Nat) (x:Node) (s:WS σ),MLe s.es (yU kids step n x s).2.es
 | 0,x,s=>.refl _
 |n+1,x,s=>by simp only[yU];split;{exact .refl _};split;{exact .refl _};split;{exact .refl _};have hk:=ZL (MJ (kids:=kids) (step:=step) n) (kids x) ⟨mark s.es x 1,step s.st x⟩;have h1:MLe s.es (mark s.es x 1):=.mark (.inl rfl);split;{exact h1.trans hk};exact(h1.trans hk).trans (.mark (.inr rfl))
abbrev Ri:AV:=.ag [.int .i64 0,.int .i64 0,.int .i64 0]
theorem yj?{α:Type}{l:List α}{j:Nat}{y:α}(h:l[j]? = some y):l.drop j=y::l.drop (j+1):=by obtain⟨h1,rfl⟩:=aY.1 h;exact aZ h1
def rP(m:Md)(x:Node):Mg:=(qN m x.2.1).getD x.2.2.toNat default
def tC(m:Md)(x:Node):List Node:=(rP m x).ins.map (zf m x.2.1)
structure b1h(m:Md)(all:List Node)(ok:Node->Prop)(x:Node):Prop where
 page:x.2.1 = -1\/(0<=x.2.1/\x.2.1<(m.pages.length:Int))
 idx:0<=x.2.2/\x.2.2<((qN m x.2.1).length:Int)
 mem:x∈all
 len:(rP m x).ins.length<=40
 ins:∀s∈(rP m x).ins,0<s.length/\(Ed s=true->0<=tK m.pages (s.drop 1))/\ok (zf m x.2.1 s)
theorem qP(n:Nat):∀es:Marks,EZ n (xM es)=true
 | []=>rfl
 |_::es=>by show(match true,true with|true,true=>EZ n (xM es)|_,_=>false)=true;exact qP n es
theorem Gf(f:Nat->Nat):∀es:Marks,Zm f (xM es)=xM es
 | []=>rfl
 |_::es=>by show _::Zm f (xM es)=_::xM es;rw[Gf f es];rfl
theorem JK(f:Nat->Nat)(es:Marks):leM (xM es) (Zm f (xM es)):=by rw[Gf];exact qO _
theorem DJ(f:Nat->Nat)(es:Marks):leM (Zm f (xM es)) (xM es):=by rw[Gf];exact qO _
abbrev hpA{σ:Type}(O:σ->AV)(s:WS σ)(_:Md):Heap:=[(1,.tN Ri (xM s.es)),(0,.box (O s.st))]
abbrev ehA{σ:Type}(O:σ->AV)(st:σ)(_:Md):Heap:=[(0,.box (O st))]
theorem b2J{σ:Type}(m:Md)(g:Nat)(O:σ->AV)(hO:∀st n,tq n (O st)=true)(hrn:∀st f,yO f (O st)=O st)(step:σ->Node->σ)(all:List Node)(ok:Node->Prop)(hN:∀x,ok x->x.1=2->b1h m all ok x)
  (hE:∀st x,ok x->ZQ g (OG x::[]) (ehA O st m) (.uf []) (ehA O (step st x) m)) :
  ∀(n:Nat) (x:Node) (s:WS σ),ok x->free all s.es<n->ZQ 152 [m.av,OG x,.mp 1,.fn g []] (hpA O s m) (.bool (yU (tC m) step n x s).1) (hpA O (yU (tC m) step n x s).2 m):=by
 have hle0:∀st f,le0 (O st) (yO f (O st)):=λst f=>(by rw[hrn];exact tV _);have hle1:∀st f,le0 (yO f (O st)) (O st):=λst f=>(by rw[hrn];exact tV _);intro n;induction n with
 |zero=>intro x s _ h;omega
 | succ n ih =>
   intro x s hx hf;refine ZN Tryz.func152 λhok=>?_;constructor<;>intro h1
   ·have e:yU (tC m) step (n+1) x s=(false,⟨s.es,step s.st x⟩):=(by simp only[yU];rw[aG h1]);rw[e];refine ZW ?_;refine .gen _ _ (qX.frame [0] (hE s.st x hx) ⟨rfl,rfl,rfl,rfl⟩ ?_ ?_) λ_=>?_
    ·repeat' first|exact Zq|apply aI
     all_goals first|exact hle0 _ _|exact hO _ _
    ·exact wk
    refine ZW ?_;refine⟨⟨_,_,.refl _ _,?_⟩⟩;conv=>whnf
    refine⟨rfl,rfl,by simp[nextId],.mk ?_ ?_⟩
    ·repeat' first|exact Zq|apply aI
     all_goals first|exact hle0 _ _|exact hle1 _ _|exact hO _ _|exact qO _|exact DJ _ _|exact qP _ _|exact tV _
    simp[uQ]
   have hk:x.1=2:=aj;obtain⟨hpg,hix,hmem,hil,hins⟩:=hN x hx hk;have cG:=Gu m x.2.1 hpg
   have hwf:yU (tC m) step (n+1) x s=if look s.es x=1 then(true,s)else if look s.es x=2 then(false,s)
     else if(yg (yU (tC m) step n) (tC m x) ⟨mark s.es x 1,step s.st x⟩).1=true then yg (yU (tC m) step n) (tC m x) ⟨mark s.es x 1,step s.st x⟩
     else(false,⟨mark (yg (yU (tC m) step n) (tC m x) ⟨mark s.es x 1,step s.st x⟩).2.es x 2,(yg (yU (tC m) step n) (tC m x) ⟨mark s.es x 1,step s.st x⟩).2.st⟩):=by
    simp only[yU];rw[aB h1]
   refine ZW ?_;refine a3r ?_;refine ZS ?_ ?_<;>intro h2
   ·rw[aG h2]at hwf;rw[hwf];refine ZW ?_;refine⟨⟨_,_,.refl _ _,?_⟩⟩;conv=>whnf
    refine⟨rfl,rfl,by simp[nextId],.mk ?_ ?_⟩
    ·repeat' first|exact Zq|apply aI
     all_goals first|exact hle0 _ _|exact hle1 _ _|exact hO _ _|exact qO _|exact DJ _ _|exact qP _ _|exact tV _
    simp[uQ]
   rw[aB h2]at hwf;refine ZS ?_ ?_<;>intro h3
   ·rw[aG h3]at hwf;rw[hwf];refine ZW ?_;refine⟨⟨_,_,.refl _ _,?_⟩⟩;conv=>whnf
    refine⟨rfl,rfl,by simp[nextId],.mk ?_ ?_⟩
    ·repeat' first|exact Zq|apply aI
     all_goals first|exact hle0 _ _|exact hle1 _ _|exact hO _ _|exact qO _|exact DJ _ _|exact qP _ _|exact tV _
    simp[uQ]
   rw[aB h3]at hwf;refine ZW ?_;refine NC (ZW ?_);refine .gen _ _ (qX.frame [0] (hE s.st x hx) ⟨rfl,rfl,rfl,rfl⟩ ?_ ?_) λ_=>?_
   ·repeat' first|exact Zq|apply aI
    all_goals first|exact hle0 _ _|exact hO _ _
   ·exact wk
   refine ZW ?_;refine ZR ?_;refine .zW cG ?_;refine sK default hix ?_;have hga:(qN m x.2.1).getD x.2.2.toNat default=rP m x:=rfl;rw[hga];have hlt0:=a6b (all:=all) (v:=1) hmem h2 h3 (.inl rfl);generalize hS1:(⟨mark s.es x 1,step s.st x⟩:WS σ)=S1 at *;have b7d:S1.es=mark s.es x 1:=(by rw[<- hS1]);have b7U:S1.st=step s.st x:=(by rw[<- hS1]);rw[<- b7d]at hlt0;have hKl:(tC m x).length=(rP m x).ins.length:=(by simp[tC]);have hKj:∀(j:Nat) (h:j<(rP m x).ins.length),(tC m x)[j]? = some (zf m x.2.1 (rP m x).ins[j]):=λj h=>(by simp[tC,h]);generalize rP m x=gt at *;generalize hW:yU (tC m) step n=W at *;generalize tC m x=K at *;refine ZW ?_;refine qV.of <| qM.inv (.refl _ _) (fun(q:Nat×WS σ)=>q.1<=gt.ins.length/\yg W K S1=yg W (K.drop q.1) q.2/\MLe S1.es q.2.es)
    (λq=>[(39,.int .i64 q.1)]) (λq=>(3,.box (OG x))::(2,.box m.av)::hpA O q.2 m) (λq=>gt.ins.length-q.1) (0,S1) ?_ (λ_=>rfl) ?_ ?_
   ·exact⟨aO _,rfl,.refl _⟩
   ·refine⟨?_,.mk ?_ ?_⟩;{exact wk}
    ·repeat' first|exact Zq|apply aI
     all_goals first|(rw[b7d];exact qO _)|(rw[b7U];exact hle1 _ _)|exact hO _ _|exact qP _ _
    simp[uQ]
   rintro⟨j,sj⟩ ⟨hj,hn,hle⟩ _;dsimp only at hj hn hle;refine ZS ?_ ?_<;>intro hh
   ·have hjl:j<gt.ins.length:=(by simpa using hh);have hfr:=a1m (all:=all) hle;obtain⟨i1,i2,i3⟩:=hins _ (aQ hjl);rw[yj? (hKj j hjl)]at hn;simp only[yg]at hn;have cr:=a0t m x.2.1 gt.ins[j] i1 hpg i2;have cw:=ih (zf m x.2.1 gt.ins[j]) sj i3 aj;have hml:=MJ (kids:=tC m) (step:=step) n (zf m x.2.1 gt.ins[j]) sj;rw[hW]at hml;refine ZW ?_;refine rV hjl ?_;generalize zf m x.2.1 gt.ins[j]=y at *;generalize W y sj=r at *;obtain⟨rb,rs⟩:=r;dsimp only at hn cw hml;refine ZW ?_;refine wX.mk ⟨[false,false,true,false,true,true,true,true,false],by kernel_rfl,?_⟩;conv=>whnf
    refine .zW cr ?_;refine .gen _ _ (qX.frame [0,1] cw ⟨rfl,rfl,rfl,rfl⟩ ?_ ?_) λ_=>?_
    ·repeat' first|exact Zq|apply aI
     all_goals first|exact JK _ _|exact hle0 _ _|exact hO _ _|exact qP _ _
    ·exact wk
    refine ZS ?_ ?_<;>intro hb
    ·rw[aG hb]at hn;rw[hn,aG hb]at hwf;rw[hwf,hb];refine ZW ?_;refine⟨⟨_,_,.refl _ _,?_⟩⟩;conv=>whnf
     refine⟨rfl,rfl,by simp[nextId],.mk ?_ ?_⟩
     ·repeat' first|exact Zq|apply aI
      all_goals first|exact hle0 _ _|exact hle1 _ _|exact hO _ _|exact qO _|exact DJ _ _|exact qP _ _|exact tV _
     simp[uQ]
    rw[aB (by rw[hb];simp)]at hn;refine ZW ?_;refine ZG ?_;refine⟨(j+1,rs),?_,?_,?_⟩;{exact⟨hjl,hn,hle.trans hml⟩}
    ·refine⟨?_,.mk ?_ ?_⟩;{exact wk}
     ·repeat' first|exact Zq|apply aI
      all_goals first|exact DJ _ _|exact hle1 _ _|exact hO _ _|exact qP _ _
     simp[uQ]
    show gt.ins.length-(j+1)<gt.ins.length-j;omega
   have hjl:K.length<=j:=(by have:¬j<gt.ins.length:=(by simpa using hh);omega);rw[aX hjl]at hn;simp only[yg]at hn;rw[hn,aB ak]at hwf;rw[hwf];refine ZW ?_;refine NC (ZW ?_);refine⟨⟨_,_,.refl _ _,?_⟩⟩;conv=>whnf
   refine⟨rfl,rfl,by simp[nextId],.mk ?_ ?_⟩
   ·repeat' first|exact Zq|apply aI
    all_goals first|exact hle0 _ _|exact hle1 _ _|exact hO _ _|exact qO _|exact DJ _ _|exact qP _ _|exact tV _
   simp[uQ]
def BP(m:Md):List Int:=(List.range (m.pages.length+1)).map fun(k:Nat)=>(k:Int)-1
def y7(m:Md)(a:Int):List Node:=(List.range (qN m a).length).map fun(i:Nat)=>((2:Int),a,(i:Int))
def wO(m:Md)(k:Nat):List Node:=((BP m).drop k).flatMap (y7 m)
def rD(m:Md):List Node:=(BP m).flatMap (y7 m)
theorem QS{m:Md}{k:Nat}(h:k<m.pages.length+1):(BP m)[k]? = some ((k:Int)-1):=by unfold BP;rw[dO,gQ h];rfl
theorem ND(m:Md):(BP m).length=m.pages.length+1:=by simp[BP]
theorem Ba{m:Md}{k:Nat}(h:k<m.pages.length+1):wO m k=y7 m ((k:Int)-1)++wO m (k+1):=by unfold wO;rw[yj? (QS h),nU]
theorem Ez{m:Md}{k:Nat}(h:m.pages.length+1<=k):wO m k=[]:=by unfold wO;rw[aX (by rw[ND];omega)];rfl
theorem H8{m:Md}{a:Int}{i:Nat}(h:i<(qN m a).length):(y7 m a)[i]? = some (2,a,(i:Int)):=by unfold y7;rw[dO,gQ h];rfl
theorem EM(m:Md)(a:Int):(y7 m a).length=(qN m a).length:=by simp[y7]
theorem JZ{m:Md}{a:Int}:a∈BP m↔(a = -1\/(0<=a/\a<(m.pages.length:Int))):=by unfold BP;simp only[bZ,iF];constructor;{rintro⟨k,hk,rfl⟩;omega};intro h;exact⟨(a+1).toNat,aj,aj⟩
theorem TL{m:Md}{a:Int}{x:Node}:x∈y7 m a↔x.1=2/\x.2.1=a/\0<=x.2.2/\x.2.2<((qN m a).length:Int):=by
 obtain⟨p,q,r⟩:=x;unfold y7;simp only[bZ,iF];constructor
 ·rintro⟨i,hi,h⟩;obtain⟨rfl,rfl,rfl⟩:2=p/\a=q/\(i:Int)=r:=by simpa using h
  exact⟨rfl,rfl,by show(0:Int)<=(i:Int);omega,by show(i:Int)<_;omega⟩
 rintro⟨h1,h2,h3,h4⟩;have h1:p=2:=h1;have h2:q=a:=h2;have h3:0<=r:=h3;have h4:r<((qN m a).length:Int):=h4;exact⟨r.toNat,aj,by rw[h1,h2,fO h3]⟩
theorem uK{m:Md}{x:Node}:x∈rD m↔x.1=2/\(x.2.1 = -1\/(0<=x.2.1/\x.2.1<(m.pages.length:Int)))/\0<=x.2.2/\x.2.2<((qN m x.2.1).length:Int):=by unfold rD;rw[List.mem_flatMap];constructor;{rintro⟨a,ha,hx⟩;obtain⟨h1,rfl,h3⟩:=TL.1 hx;exact⟨h1,JZ.1 ha,h3⟩};rintro⟨h1,h2,h3⟩;exact⟨x.2.1,JZ.2 h2,TL.2 ⟨h1,rfl,h3⟩⟩
def RG(m:Md)(x:Node):Prop :=
 (x.1=0/\x.2.1=0/\0<=x.2.2/\x.2.2<(m.evs.length:Int))\/(x.1=1/\x.2.1=0/\0<=x.2.2/\x.2.2<(m.hs.length:Int))\/x∈rD m
def AQ(m:Md):Prop:=∀x∈rD m,∀s∈(rP m x).ins,0<s.length/\(Ed s=true->0<=tK m.pages (s.drop 1))/\RG m (zf m x.2.1 s)
theorem KJ.qN{m:Md}(hB:KJ m){a:Int}(ha:a = -1\/(0<=a/\a<(m.pages.length:Int))):(qN m a).length<=100/\∀x∈qN m a,x.ins.length<=40:=by unfold S.qN;split;{exact hB.gates};exact hB.KX _ (getD_mem aj)
theorem b4t{m:Md}(hB:KJ m)(hc:AQ m)(x:Node)(hx:RG m x)(h2:x.1=2):b1h m (rD m) (RG m) x:=by have hm:x∈rD m:=(by rcases hx with h|h|h;{have:=h.1;omega};{have:=h.1;omega};exact h);obtain⟨_,h3,h4⟩:=uK.1 hm;exact⟨h3,h4,hm,(hB.qN h3).2 _ (getD_mem aj),hc x hm⟩
def Oa(m:Md):Nat:=(rD m).length+1
theorem Z5(m:Md)(es:Marks):free (rD m) es<Oa m:=by unfold free Oa;have:=fJ (λx=>!isM es x) (rD m);omega
abbrev Vr(m:Md):Node->WS Unit->Bool×WS Unit:=yU (tC m) (λ_ _=>()) (Oa m)
def Qz(m:Md):Bool:=(yg (Vr m) (rD m) ⟨[],()⟩).1
theorem b5f(x:Node)(m:Md):ZQ 153 [OG x] [(0,.box m.av)] (.uf []) [(0,.box m.av)]:=by
 refine ZN Tryz.func153 λhok=>?_;refine⟨⟨_,_,.refl _ _,?_⟩⟩;conv=>whnf
 refine Zx ?_ ?_;{exact trivial};exact wk
theorem a90(m:Md)(hB:KJ m)(hc:AQ m):ZQ 82 [m.av] [] (.bool (Qz m)) []:=by
 have cw:=b2J m 153 (λ_:Unit=>m.av) (λ_ _=>rfl) (λ_ _=>rfl) (λ_ _=>()) (rD m) (RG m) (b4t hB hc) (λ_ x _=>b5f x m) (Oa m);have cG:=λa h=>Gu m a h;have hcy:Qz m=(yg (Vr m) (wO m 0) ⟨[],()⟩).1:=rfl;have hpl:=hB.pages;refine ZN Tryz.func82 λhok=>?_;refine qV.of <| qM.inv (.refl _ _) (fun(q:Nat×WS Unit)=>q.1<=m.pages.length+1/\Qz m=(yg (Vr m) (wO m q.1) q.2).1)
  (λq=>[(4,.int .i64 ((q.1:Int)-1))]) (λq=>[(1,.tN Ri (xM q.2.es)),(0,.box m.av)]) (λq=>m.pages.length+1-q.1) (0,⟨[],()⟩) ?_ (λ_=>rfl) ?_ ?_
 ·exact⟨aO _,hcy⟩
 ·exact Zv wk wk
 rintro⟨k,s⟩ ⟨hk,hn⟩ _;dsimp only at hk hn;refine ZS ?_ ?_<;>intro h
 ·have hkl:k<m.pages.length+1:=(by simp only[aC]at h;omega);have ha:(k:Int)-1 = -1\/(0<=(k:Int)-1/\(k:Int)-1<(m.pages.length:Int)):=aj;have hgl:=(hB.qN ha).1;rw[Ba hkl]at hn;refine ZW ?_;refine .zW (cG _ ha) ?_;refine qV.of <| qM.inv (.refl _ _) (fun(q:Nat×WS Unit)=>q.1<=(qN m ((k:Int)-1)).length/\Qz m=(yg (Vr m) ((y7 m ((k:Int)-1)).drop q.1++wO m (k+1)) q.2).1)
   (λq=>[(18,.int .i64 q.1)]) (λq=>[(1,.tN Ri (xM q.2.es)),(0,.box m.av)]) (λq=>(qN m ((k:Int)-1)).length-q.1) (0,s) ?_ (λ_=>rfl) ?_ ?_
  ·exact⟨aO _,hn⟩
  ·refine Zv wk ?_;repeat' first|exact Zq|apply aI
   all_goals first|exact qO _|exact qP _ _
  rintro⟨i,s2⟩ ⟨hi,hn2⟩ _;dsimp only at hi hn2;refine ZS ?_ ?_<;>intro hh
  ·have hil:i<(qN m ((k:Int)-1)).length:=(by simpa using hh);rw[yj? (H8 hil),eX]at hn2;simp only[yg,Vr]at hn2;have hmem:(2,(k:Int)-1,(i:Int))∈rD m:=uK.2 ⟨rfl,ha,by show(0:Int)<=i;omega,by show(i:Int)<((qN m ((k:Int)-1)).length:Int);omega⟩;have cw:=cw (2,(k:Int)-1,(i:Int)) s2 (.inr (.inr hmem)) (Z5 m _);generalize hr:yU (tC m) (λ_ _=>()) (Oa m) (2,(k:Int)-1,(i:Int)) s2=r at *;obtain⟨rb,rs⟩:=r;dsimp only at hn2 cw;refine ZW ?_;refine .gen _ _ cw λ_=>?_;refine ZS ?_ ?_<;>intro hb;{rw[aG hb]at hn2;rw[hn2,hb];exact ZJ};rw[aB (by rw[hb];simp)]at hn2;refine ZW ?_;refine ZG ?_;refine⟨(i+1,rs),?_,?_,?_⟩;{exact⟨hil,hn2⟩}
   ·refine Zv wk ?_;repeat' first|exact Zq|apply aI
    all_goals first|exact qO _|exact qP _ _
   show(qN m ((k:Int)-1)).length-(i+1)<(qN m ((k:Int)-1)).length-i;omega
  have hil:(y7 m ((k:Int)-1)).length<=i:=(by have:¬i<(qN m ((k:Int)-1)).length:=(by simpa using hh);rw[EM];omega);rw[aX hil,eG]at hn2;refine ZW ?_;refine ZG ?_;refine⟨(k+1,s2),?_,?_,?_⟩;{exact⟨hkl,hn2⟩}
  ·refine Zv ?_ ?_
   ·repeat' first|exact Zq|apply aI
    all_goals (show _=_;congr 1;omega)
   repeat' first|exact Zq|apply aI
   all_goals first|exact qO _|exact qP _ _
  show m.pages.length+1-(k+1)<m.pages.length+1-k;omega
 have hkl:m.pages.length+1<=k:=(by simp only[aC]at h;omega);rw[Ez hkl]at hn;simp only[yg]at hn;rw[hn];exact ZJ
section
variable{σ:Type}(kids:Node->List Node)(step:σ->Node->σ)(V:σ->Node->Prop)
structure Inv(s:WS σ):Prop where
 rank:∃rank:Node->Nat,∀x,look s.es x=2->∀y∈kids x,y.1=2->look s.es y=2/\rank y<rank x
 met:∀x,look s.es x=2->V s.st x/\∀y∈kids x,y.1≠2->V s.st y
structure On(s s':WS σ):Prop where
 one:∀y,look s'.es y=1↔look s.es y=1
 two:∀y,look s.es y=2->look s'.es y=2
 met:∀y,V s.st y->V s'.st y
theorem On.refl(s:WS σ):On V s s:=⟨λ_=>jr,λ_ h=>h,λ_ h=>h⟩
theorem On.trans{a b c:WS σ}(h:On V a b)(g:On V b c):On V a c:=⟨λy=>(g.one y).trans (h.one y),λy e=>g.two y (h.two y e),λy e=>g.met y (h.met y e)⟩
structure After(x:Node)(s s':WS σ):Prop where
 inv:Inv kids V s'
 on:On V s s'
 done:x.1=2->look s'.es x=2
 leaf:x.1≠2->V s'.st x
variable{kids step V}
theorem OM{f:Node->WS σ->Bool×WS σ}(ok:Node->Prop)(m:Nat)(fr:Marks->Nat)(hfr:∀y s,fr (f y s).2.es<=fr s.es)
  (hf:∀y s,ok y->fr s.es<=m->Inv kids V s->(f y s).1=false->After kids V y s (f y s).2) :
  ∀ (l:List Node) (s:WS σ),(∀y∈l,ok y)->fr s.es<=m->Inv kids V s->(yg f l s).1=false ->
    Inv kids V (yg f l s).2/\On V s (yg f l s).2/\∀y∈l,(y.1=2->look (yg f l s).2.es y=2)/\(y.1≠2->V (yg f l s).2.st y)
 | [],s,_,_,hi,_=>⟨hi,.refl V s,ak⟩
 |y::l,s,hl,hm,hi,h=>by simp only[yg]at h ⊢;by_cases hb:(f y s).1=true;{rw[aG hb]at h;rw[hb]at h;cases h};rw[aB hb]at h ⊢;have hy:=hf y s (hl y ak) hm hi (by simpa using hb);have hm2:=hfr y s;obtain⟨h1,h2,h3⟩:=OM ok m fr hfr hf l (f y s).2 (λz hz=>hl z (by simp[hz])) aj hy.inv h;refine⟨h1,hy.on.trans V h2,λz hz=>?_⟩;rcases aT.1 hz with rfl|hz;{exact⟨λe=>h2.two _ (hy.done e),λe=>h2.met _ (hy.leaf e)⟩};exact h3 z hz
theorem b0v{rank:Node->Nat}:∀{l:List Node} {y:Node},y∈l->rank y<=(l.map rank).sum
 | [],_,h=>by simp at h
 |x::l,y,h=>by simp only[dF,mM];rcases aT.1 h with rfl|h;{omega};have:=b0v (rank:=rank) h;omega
theorem Vq(all:List Node)(ok:Node->Prop)(hok:∀x,ok x->x.1=2->x∈all/\∀y∈kids x,ok y)(hV1:∀st x,V (step st x) x)(hV2:∀st x y,V st y->V (step st x) y) :
  ∀(n:Nat) (x:Node) (s:WS σ),ok x->free all s.es<n->Inv kids V s->(yU kids step n x s).1=false->After kids V x s (yU kids step n x s).2
 | 0,_,_,_,h,_,_=>aj
 | n+1,x,s,hx,hf,hi,h=>by
   simp only[yU]at h ⊢;by_cases h1:x.1≠2;{rw[aG h1];exact⟨⟨hi.rank,λy hy=>⟨hV2 _ _ _ (hi.met y hy).1,λz hz e=>hV2 _ _ _ ((hi.met y hy).2 z hz e)⟩⟩,⟨λ_=>jr,λ_ h=>h,λy=>hV2 _ _ _⟩,λe=>absurd e h1,λ_=>hV1 _ _⟩};rw[aB h1]at h ⊢;by_cases h2:look s.es x=1;{rw[aG h2]at h;cases h};rw[aB h2]at h ⊢;by_cases h3:look s.es x=2;{rw[aG h3];exact⟨hi,.refl V s,λ_=>h3,λe=>absurd e h1⟩};rw[aB h3]at h ⊢;obtain⟨hm,hk⟩:=hok x hx aj;have hlt:=a6b (all:=all) (v:=1) hm h2 h3 (.inl rfl);have hi1:Inv kids V ⟨mark s.es x 1,step s.st x⟩:=by obtain⟨rank,hr⟩:=hi.rank;refine⟨⟨rank,λy hy z hz e=>?_⟩,λy hy=>?_⟩;{have hy:look (mark s.es x 1) y=2:=hy;rw[wP]at hy;split at hy;{cases hy};have:=hr y hy z hz e;refine⟨?_,this.2⟩;show look (mark s.es x 1) z=2;rw[wP,aB (λe=>h3 (by rw[e];exact this.1))];exact this.1};have hy:look (mark s.es x 1) y=2:=hy;rw[wP]at hy;split at hy;{cases hy};exact⟨hV2 _ _ _ (hi.met y hy).1,λz hz e=>hV2 _ _ _ ((hi.met y hy).2 z hz e)⟩
   by_cases hb:(yg (yU kids step n) (kids x) ⟨mark s.es x 1,step s.st x⟩).1=true;{rw[aG hb]at h;rw[hb]at h;cases h};rw[aB hb];obtain⟨k1,k2,k3⟩:=OM (kids:=kids) (V:=V) ok (n-1) (free all) (λy s=>a1m (MJ n y s)) (λy s hy hs hi hb=>Vq all ok hok hV1 hV2 n y s hy aj hi hb) (kids x) ⟨mark s.es x 1,step s.st x⟩ hk (by show free all (mark s.es x 1)<=n-1;omega) hi1 (by simpa using hb);generalize yg (yU kids step n) (kids x) ⟨mark s.es x 1,step s.st x⟩=r at *;obtain⟨rb,rs⟩:=r;dsimp only at k1 k2 k3 ⊢;have hx1:look rs.es x=1:=(k2.one x).2 (by show look (mark s.es x 1) x=1;rw[wP,aG rfl]);refine⟨⟨?_,λy hy=>?_⟩,⟨λy=>?_,λy hy=>?_,λy hy=>k2.met y (hV2 _ _ _ hy)⟩,λ_=>?_,λe=>absurd e h1⟩
   ·obtain⟨rank,hr⟩:=k1.rank;refine⟨λz=>if z=x then((kids x).map rank).sum+1 else rank z,λy hy z hz e=>?_⟩;show look (mark rs.es x 2) z=2/\_;by_cases hyx:y=x
    ·subst hyx;have hz2:=(k3 z hz).1 e;have hzx:z≠y:=λe=>by rw[e,hx1]at hz2;cases hz2
     rw[wP,aB (Ne.symm hzx)];refine⟨hz2,?_⟩;simp only[aB hzx,if_true];have:=b0v (rank:=rank) hz;omega
    have hy:look (mark rs.es x 2) y=2:=hy;rw[wP,aB (Ne.symm hyx)]at hy;have:=hr y hy z hz e;have hzx:z≠x:=λe=>by rw[e,hx1]at this;cases this.1
    rw[wP,aB (Ne.symm hzx)];refine⟨this.1,?_⟩;simp only[aB hzx,aB hyx];exact this.2
   ·have hy:look (mark rs.es x 2) y=2:=hy;rw[wP]at hy;split at hy;{rename_i e;subst e;exact⟨k2.met _ (hV1 _ _),λz hz e=>(k3 z hz).2 e⟩};exact k1.met y hy
   ·show look (mark rs.es x 2) y=1↔look s.es y=1;rw[wP];by_cases hyx:x=y;{subst hyx;rw[aG rfl];exact⟨λe=>absurd e au,λe=>absurd e h2⟩};rw[aB hyx,k2.one y];show look (mark s.es x 1) y=1↔_;rw[wP,aB hyx]
   ·show look (mark rs.es x 2) y=2;rw[wP];split;{rfl};rename_i hyx;refine k2.two y ?_;show look (mark s.es x 1) y=2;rw[wP,aB hyx];exact hy
   show look (mark rs.es x 2) x=2;rw[wP,aG rfl]
theorem Vp(ok:Node->Prop)(hok:∀x,ok x->x.1=2->∀y∈kids x,ok y)(rank:Node->Nat)(hr:∀x,ok x->x.1=2->∀y∈kids x,y.1=2->rank y<rank x) :
  ∀(n:Nat) (x:Node) (s:WS σ),ok x->(x.1=2->∀z,look s.es z=1->rank x<rank z)->(yU kids step n x s).1=false/\∀y,look (yU kids step n x s).2.es y=1->look s.es y=1
 | 0,_,_,_,_=>⟨rfl,λ_ h=>h⟩
 | n+1,x,s,hx,hz=>by
   simp only[yU];by_cases h1:x.1≠2;{rw[aG h1];exact⟨rfl,λ_ h=>h⟩};rw[aB h1];have h1:x.1=2:=aj;by_cases h2:look s.es x=1;{have:=hz h1 x h2;omega};rw[aB h2];by_cases h3:look s.es x=2;{rw[aG h3];exact⟨rfl,λ_ h=>h⟩};rw[aB h3]
   have key:∀(l:List Node) (t:WS σ),(∀y∈l,y∈kids x)->(∀z,look t.es z=1->z=x\/look s.es z=1) ->
     (yg (yU kids step n) l t).1=false/\∀z,look (yg (yU kids step n) l t).2.es z=1->z=x\/look s.es z=1:=by
    intro l;induction l with
    |nil=>intro t _ ht;exact⟨rfl,ht⟩
    | cons y l ih =>
      intro t hl ht;have hy:=hl y ak;obtain⟨w1,w2⟩:=Vp ok hok rank hr n y t (hok x hx h1 y hy) (λe z hz1=>by
       have hyx:=hr x hx h1 y hy e;rcases ht z hz1 with rfl|hz2;{exact hyx};have:=hz h1 z hz2;omega)
      simp only[yg];rw[aB (by rw[w1];simp)];exact ih _ (λz hz=>hl z (by simp[hz])) λz hz1=>ht z (w2 z hz1)
   obtain⟨k1,k2⟩:=key (kids x) ⟨mark s.es x 1,step s.st x⟩ (λy hy=>hy) (λz hz1=>by
    have hz1:look (mark s.es x 1) z=1:=hz1;rw[wP]at hz1;split at hz1;{rename_i e;exact .inl e.symm};exact .inr hz1)
   rw[aB (by rw[k1];simp)];refine⟨rfl,λy hy=>?_⟩;have hy:look (mark (yg (yU kids step n) (kids x) ⟨mark s.es x 1,step s.st x⟩).2.es x 2) y=1:=hy;rw[wP]at hy;split at hy;{cases hy};rename_i hne;rcases k2 y hy with e|e;{exact absurd e.symm hne};exact e
end
theorem yI{m:Md}(hc:AQ m){x:Node}(hx:RG m x)(h2:x.1=2):x∈rD m/\∀y∈tC m x,RG m y:=by have hm:x∈rD m:=(by rcases hx with h|h|h;{have:=h.1;omega};{have:=h.1;omega};exact h);refine⟨hm,λy hy=>?_⟩;unfold tC at hy;obtain⟨s,hs,rfl⟩:=bZ.1 hy;exact(hc x hm s hs).2.2
def QY(m:Md)(rank:Node->Nat):Prop:=∀x,RG m x->x.1=2->∀y∈tC m x,y.1=2->rank y<rank x
theorem a2Q{m:Md}(hc:AQ m)(h:Qz m=false):∃rank,QY m rank:=by
 have hi:Inv (tC m) (fun(_:Unit) _=>True) ⟨[],()⟩:=⟨⟨λ_=>0,λx hx=>by simp[look]at hx⟩,λx hx=>by simp[look]at hx⟩;obtain⟨k1,_,k3⟩:=OM (kids:=tC m) (V:=fun(_:Unit) _=>True) (RG m) (rD m).length (free (rD m)) (f:=Vr m) (λy s=>a1m (MJ _ y s))
  (λy s hy hs hi hb=>Vq (rD m) (RG m) (λx hx h2=>yI hc hx h2) (λ_ _=>trivial) (λ_ _ _ _=>trivial) (Oa m) y s hy (by unfold Oa;omega) hi hb)
  (rD m) ⟨[],()⟩ (λy hy=>.inr (.inr hy)) (by have:=Z5 m [];unfold Oa at this;show free (rD m) []<=_;omega) hi h
 obtain⟨rank,hr⟩:=k1.rank;refine⟨rank,λx hx h2 y hy e=>(hr x ?_ y hy e).2⟩;exact(k3 x (yI hc hx h2).1).1 h2
def uS(m:Md):Int:=wU (λ_ a=>wU (uT m a) 0 (qN m a)) 0 (BP m)
def yG(m:Md):List Int->List Str->Int
 | [],_=>0
 |a::l,sp=>if(yM m a sp).1≠0 then(yM m a sp).1 else yG m l (yM m a sp).2
def rJ(m:Md):Int :=
 if tZ m.name=false then 5 else if rF m≠0 then rF m else if uO m≠0 then uO m
 else if uS m≠0 then uS m else if yG m (BP m) []≠0 then yG m (BP m) []
 else if vN m (-1) m.top=false then 5 else if wB m≠0 then wB m else if vH m≠0 then vH m
 else if Qz m=true then 14 else 0
theorem RX{m:Md}{a:Int}{g:Mg}:∀{l:List Str} {k:Nat} {sp:List Str},(zh m a g k l sp).1=0->∀s∈l,vN m a s=true
 | [],_,_,_,s,hs=>by simp at hs
 | x::l,k,sp,h,s,hs=>by
   simp only[zh]at h;split at h;{cases h};rename_i h1;split at h;{cases h};have hx:vN m a x=true:=by simpa using h1
   rcases aT.1 hs with rfl|hs;{exact hx};split at h;{split at h;{cases h};exact RX h s hs};exact RX h s hs
theorem TU{m:Md}{a:Int}:∀{l:List Mg} {sp:List Str},(vF m a l sp).1=0->∀g∈l,∀s∈g.ins,vN m a s=true
 | [],_,_,g,hg=>by simp at hg
 | x::l,sp,h,g,hg=>by
   simp only[vF]at h;split at h;{rename_i h1;exact absurd h h1};rename_i h1;have h1:(zh m a x 0 x.ins sp).1=0:=by simpa using h1
   rcases aT.1 hg with rfl|hg;{exact RX h1};exact TU h g hg
theorem JI{m:Md}{a:Int}{sp:List Str}(h:(yM m a sp).1=0):(∀g∈qN m a,∀s∈g.ins,vN m a s=true)/\(a ≠ -1->0<=uU (qN m a) (tu m a)\/0<=sH m.evs (tu m a)):=by
 unfold yM at h;split at h;{rename_i h1;exact absurd h h1};rename_i h1;have h1:(vF m a (qN m a) sp).1=0:=by simpa using h1
 split at h;{cases h};rename_i h2;exact⟨TU h1,λha=>by
  rcases Int.lt_or_le (uU (qN m a) (tu m a)) 0 with h3|h3;{rcases Int.lt_or_le (sH m.evs (tu m a)) 0 with h4|h4;{exact absurd ⟨ha,h3,h4⟩ h2};exact .inr h4};exact .inl h3⟩
theorem Jd{m:Md}:∀{l:List Int} {sp:List Str},yG m l sp=0->∀a∈l,∃sp',(yM m a sp').1=0
 | [],_,_,a,ha=>by simp at ha
 |x::l,sp,h,a,ha=>by simp only[yG]at h;split at h;{rename_i h1;exact absurd h h1};rename_i h1;rcases aT.1 ha with rfl|ha;{exact⟨sp,by simpa using h1⟩};exact Jd h a ha
theorem RN{s:Str}(h:tZ s=true):0<s.length:=by unfold tZ at h;simp only[aN,bW]at h;exact h.1.1.1
theorem Lm{α:Type}{f:α->Str}{l:List α}{s:Str}(h:0<=zG (λx=>decide (f x=s)) l):∃(i:Nat) (hi:i<l.length),zG (λx=>decide (f x=s)) l=i/\f l[i]=s:=by rcases zF (λx=>decide (f x=s)) l with⟨h1,_⟩|⟨i,hi,h1,h2,_⟩;{omega};exact⟨i,hi,h1,eu h2⟩
theorem yZ{m:Md}(h:rF m=0):m.evs.length<=24/\m.hs.length<=16/\(∀(k:Nat) (hk:k<m.evs.length),yA m k m.evs[k]=0)/\(∀(k:Nat) (hk:k<m.hs.length),Dk m k m.hs[k]=0):=by
 unfold rF at h;split at h;{cases h};split at h;{rename_i h1;exact absurd h h1};rename_i h1;split at h;{cases h};have h1:wU (yA m) 0 m.evs=0:=by simpa using h1
 refine⟨aj,aj,λk hk=>?_,λk hk=>?_⟩;{have:=Jg.1 h1 k hk;simpa using this};have:=Jg.1 h k hk;simpa using this
theorem En{m:Md}(h:uS m=0){a:Int}(ha:a = -1\/(0<=a/\a<(m.pages.length:Int))):∀(k:Nat) (hk:k<(qN m a).length),uT m a k (qN m a)[k]=0:=by intro k hk;have hm:=JZ.2 ha;obtain⟨j,hj,rfl⟩:=dX hm;have:=Jg.1 h j hj;have:=Jg.1 this k hk;simpa using this
theorem b2x{m:Md}(h:rF m=0){s:Str}(hs:0<=sH m.evs s):0<s.length:=by obtain⟨i,hi,_,h2⟩:=Lm hs;have:=(yZ h).2.2.1 i hi;unfold yA at this;split at this;{cases this};rename_i h3;rw[<- h2];exact RN (by simpa using h3)
theorem b2g{m:Md}(h:rF m=0){s:Str}(hs:0<=uM m.hs s):0<s.length:=by obtain⟨i,hi,_,h2⟩:=Lm hs;have:=(yZ h).2.2.2 i hi;unfold Dk at this;split at this;{cases this};rename_i h3;rw[<- h2];exact RN (by simpa using h3)
theorem a6a{m:Md}(h:uS m=0){a:Int}(ha:a = -1\/(0<=a/\a<(m.pages.length:Int))){s:Str}(hs:0<=uU (qN m a) s):0<s.length:=by obtain⟨i,hi,_,h2⟩:=Lm hs;have:=En h ha i hi;unfold uT at this;split at this;{cases this};rename_i h3;rw[<- h2];exact RN (by simpa using h3)
theorem a2g{m:Md}{a:Int}{s:Str}(ha:a = -1\/(0<=a/\a<(m.pages.length:Int)))(h:0<=sH m.evs s\/0<=uM m.hs s\/0<=uU (qN m a) s):RG m (zJ m a s):=by unfold zJ;split;{rename_i h1;exact .inl ⟨rfl,rfl,h1,ED _ _⟩};split;{rename_i h2;exact .inr (.inl ⟨rfl,rfl,h2,ED _ _⟩)};exact .inr (.inr (uK.2 ⟨rfl,ha,by show 0<=uU _ _;omega,ED _ _⟩))
structure b5S(m:Md)(a:Int)(s:Str):Prop where
 pos:0<s.length
 pg:Ed s=true->0<=tK m.pages (s.drop 1)
 ok:RG m (zf m a s)
theorem RY{m:Md}(h1:rF m=0)(h2:uS m=0)(h3:yG m (BP m) []=0){a:Int}(ha:a = -1\/(0<=a/\a<(m.pages.length:Int))){s:Str}(hs:vN m a s=true):b5S m a s:=by unfold vN at hs;by_cases hat:Ed s=true;{rw[aG hat]at hs;have hs:0<=tK m.pages (s.drop 1):=eu hs;have hp:tK m.pages (s.drop 1)<(m.pages.length:Int):=ED _ _;refine⟨?_,λ_=>hs,?_⟩;{unfold Ed at hat;simp only[aN,bW]at hat;exact hat.1};unfold zf;rw[aG hat];obtain⟨sp,h4⟩:=Jd h3 _ (JZ.2 (.inr ⟨hs,hp⟩));refine a2g (.inr ⟨hs,hp⟩) ?_;rcases(JI h4).2 aj with h5|h5;{exact .inr (.inr h5)};exact .inl h5};rw[aB hat]at hs;have hs:0<=sH m.evs s\/0<=uM m.hs s\/0<=uU (qN m a) s:=(by simp only[gG,bW]at hs;rcases hs with(h|h)|h;{exact .inl h};{exact .inr (.inl h)};exact .inr (.inr h));refine⟨?_,λh=>absurd h hat,?_⟩;{rcases hs with h|h|h;{exact b2x h1 h};{exact b2g h1 h};exact a6a h2 ha h};unfold zf;rw[aB hat];exact a2g ha hs
theorem SB{m:Md}(h1:rF m=0)(h2:uS m=0)(h3:yG m (BP m) []=0):AQ m:=by intro x hx s hs;obtain⟨_,ha,hi⟩:=uK.1 hx;obtain⟨sp,h4⟩:=Jd h3 _ (JZ.2 ha);have hin:=(JI h4).1 (rP m x) (getD_mem aj) s hs;have:=RY h1 h2 h3 ha hin;exact⟨this.pos,this.pg,this.ok⟩
theorem MdC.qN{m:Md}(hC:MdC m){a:Int}(ha:a = -1\/(0<=a/\a<(m.pages.length:Int))):mgC (qN m a):=by unfold S.qN;split;{exact hC.gates};exact hC.pages _ (getD_mem aj)
theorem Qj{m:Md}{a:Int}:∀{l:List Mg} {sp:List Str},(∀x∈l,x.ins.length<=40)->(vF m a l sp).2.length<=sp.length+40*l.length
 | [],sp,_=>by simp[vF]
 |g::l,sp,h=>by have h1:=OO (m:=m) (a:=a) (g:=g) (l:=g.ins) (k:=0) (sp:=sp);have h2:=h g ak;simp only[vF];split;{simp only[dW];omega};have:=Qj (m:=m) (a:=a) (l:=l) (sp:=(zh m a g 0 g.ins sp).2) λx hx=>h x (by simp[hx]);simp only[dW];omega
theorem a04{m:Md}(hB:KJ m){a:Int}(ha:a = -1\/(0<=a/\a<(m.pages.length:Int))){sp:List Str}:(yM m a sp).2.length<=sp.length+4000:=by obtain⟨h1,h2⟩:=hB.qN ha;have:=Qj (m:=m) (a:=a) (l:=qN m a) (sp:=sp) h2;unfold yM;split;{omega};split;{simp};omega
theorem QJ(m:Md)(hC:MdC m)(hB:KJ m)(R:AV)(hR:R=zu (rJ m)):ZQ 24 [m.av] [] R []:=by
 have hpl:=hB.pages;refine ZN Tryz.func24 λhok=>?_;refine .zW (Bh m.name) ?_;constructor<;>intro g1;{have g1:tZ m.name=false:=(by simpa using g1);obtain rfl:R=.uV 49 (.int .i64 5):=(by rw[hR,show rJ m=5 from by unfold rJ;rw[aG g1]];rfl);exact ZJ};have g1:¬tZ m.name=false:=(by simpa using g1);refine ZW ?_;have cE:=YV m hC _ rfl;by_cases g2:rF m≠0;{obtain rfl:R=.uV 49 (.int .i64 (rF m)):=(by rw[hR,show rJ m=rF m from by unfold rJ;rw[aB g1];rw[aG g2],rW g2]);rw[rW g2]at cE;refine .zW cE ?_;exact ZH};rw[show rF m=0 from by simpa using g2,sD]at cE;refine .zW cE ?_;have cE:=a0B m hB _ rfl;by_cases g3:uO m≠0;{obtain rfl:R=.uV 49 (.int .i64 (uO m)):=(by rw[hR,show rJ m=uO m from by unfold rJ;rw[aB g1,aB g2];rw[aG g3],rW g3]);rw[rW g3]at cE;refine .zW cE ?_;exact ZH};rw[show uO m=0 from by simpa using g3,sD]at cE;refine .zW cE ?_;refine qV.of <| qM.inv (.refl _ _) (fun(k:Nat)=>k<=m.pages.length+1/\uS m=wU (λ_ a=>wU (uT m a) 0 (qN m a)) k ((BP m).drop k)) (fun(k:Nat)=>[(5,.int .i64 ((k:Int)-1))]) (λ_=>_) (fun(k:Nat)=>m.pages.length+1-k) 0 ?_ (λ_=>rfl) ?_ ?_;{exact⟨aO _,rfl⟩};{exact wk};rintro k ⟨hk,hn⟩ _;refine ZS ?_ ?_<;>intro h
 ·have hkl:k<m.pages.length+1:=(by simp only[aC]at h;omega);have ha:(k:Int)-1 = -1\/(0<=(k:Int)-1/\(k:Int)-1<(m.pages.length:Int)):=aj;rw[yj? (QS hkl)]at hn;simp only[wU]at hn;have cE:=a0C m _ ha (hC.qN ha) _ rfl;by_cases g4:wU (uT m ((k:Int)-1)) 0 (qN m ((k:Int)-1))≠0;{rw[aG g4]at hn;rw[<- hn]at cE g4;obtain rfl:R=.uV 49 (.int .i64 (uS m)):=(by rw[hR,show rJ m=uS m from by unfold rJ;rw[aB g1,aB g2,aB g3,aG g4],rW g4]);rw[rW g4]at cE;refine ZW ?_;refine .zW cE ?_;exact ZH};rw[aB g4]at hn;rw[show wU (uT m ((k:Int)-1)) 0 (qN m ((k:Int)-1))=0 from by simpa using g4,sD]at cE;refine ZW ?_;refine .zW cE ?_;refine ZG ?_;refine⟨k+1,?_,?_,?_⟩;{exact⟨hkl,hn⟩}
  ·refine Zv ?_ ?_
   ·repeat' first|exact Zq|apply aI
    all_goals (show _=_;congr 1;omega)
   exact wk
  omega
 have hkl:m.pages.length+1<=k:=(by simp only[aC]at h;omega);rw[aX (by rw[ND];omega)]at hn;simp only[wU]at hn;have g4:¬uS m≠0:=(by rw[hn];simp);have z4:=hn;clear h hn hk hkl;refine ZW ?_;refine qV.of <| qM.inv (.grow 7 1 [] _ rfl (.inl ⟨rfl,rfl⟩) (.refl _ _)) (fun(q:Nat×List Str)=>q.1<=m.pages.length+1/\yG m (BP m) []=yG m ((BP m).drop q.1) q.2/\q.2.length<=4000*q.1)
  (λq=>[(8,.int .i64 ((q.1:Int)-1)),(7,.sl 1 (q.2.map .str) (.own 1))]) (λq=>[(1,.tok 1 q.2.length),(0,.box m.av)]) (λq=>m.pages.length+1-q.1) (0,[]) ?_ (λ_=>rfl) ?_ ?_
 ·exact⟨aO _,rfl,ak⟩
 ·exact Zv wk wk
 rintro⟨k,sp⟩ ⟨hk,hn,hsp⟩ _;dsimp only at hk hn hsp;refine ZS ?_ ?_<;>intro h
 ·have hkl:k<m.pages.length+1:=(by simp only[aC]at h;omega);have ha:(k:Int)-1 = -1\/(0<=(k:Int)-1/\(k:Int)-1<(m.pages.length:Int)):=aj;rw[yj? (QS hkl)]at hn;simp only[yG]at hn;have hc:=λR G=>YT m ((k:Int)-1) sp ha (hB.qN ha) aj R G;have hpi:=a04 hB ha (sp:=sp);generalize yM m ((k:Int)-1) sp=pi at *;obtain⟨pe,ps⟩:=pi;dsimp only at hn hc hpi;refine ZW ?_;by_cases hE:pe=0
  ·rw[aB (by simp[hE])]at hn;refine .gen _ _ (qX.frame [1] (hc _ _ (by rw[aG hE]) (by rw[aG hE])) ⟨rfl,rfl,rfl,rfl⟩ ?_ ?_) λ_=>?_;{exact wk};{exact wk};refine ZW ?_;refine ZG ?_;refine⟨(k+1,ps),?_,?_,?_⟩;{exact⟨hkl,hn,by show ps.length<=4000*(k+1);omega⟩}
   ·refine Zv ?_ ?_
    ·repeat' first|exact Zq|apply aI
     all_goals (show _=_;congr 1;omega)
    exact wk
   show m.pages.length+1-(k+1)<m.pages.length+1-k;omega
  rw[aG hE]at hn;have g5:yG m (BP m) []≠0:=(by rw[hn];exact hE);obtain rfl:R=.uV 49 (.int .i64 pe):=(by rw[hR,show rJ m=pe from by unfold rJ;rw[aB g1,aB g2,aB g3,aB g4,aG g5,hn],rW hE]);refine .gen _ _ (qX.frame [1] (hc _ _ (by rw[aB hE]) (by rw[aB hE])) ⟨rfl,rfl,rfl,rfl⟩ ?_ ?_) λ_=>?_;{exact wk};{exact wk};exact ZJ
 have hkl:m.pages.length+1<=k:=(by simp only[aC]at h;omega);rw[aX (by rw[ND];omega)]at hn;simp only[yG]at hn;have g5:¬yG m (BP m) []≠0:=(by rw[hn];simp);have z5:=hn;clear h hn hk hkl hsp;refine ZW ?_;refine .zW (Ny m (-1) m.top (.inl rfl)) ?_;constructor<;>intro g6;{have g6:vN m (-1) m.top=false:=(by simpa using g6);obtain rfl:R=.uV 49 (.int .i64 5):=(by rw[hR,show rJ m=5 from by unfold rJ;rw[aB g1,aB g2,aB g3,aB g4,aB g5,aG g6]];rfl);exact ZJ};have g6:¬vN m (-1) m.top=false:=(by simpa using g6);refine ZW ?_;have cE:=YU m hC hB _ rfl;by_cases g7:wB m≠0;{obtain rfl:R=.uV 49 (.int .i64 (wB m)):=(by rw[hR,show rJ m=wB m from by unfold rJ;rw[aB g1,aB g2,aB g3,aB g4,aB g5,aB g6];rw[aG g7],rW g7]);rw[rW g7]at cE;refine .zW cE ?_;exact ZH};rw[show wB m=0 from by simpa using g7,sD]at cE;refine .zW cE ?_;have cE:=YS m hC hB _ rfl;by_cases g8:vH m≠0;{obtain rfl:R=.uV 49 (.int .i64 (vH m)):=(by rw[hR,show rJ m=vH m from by unfold rJ;rw[aB g1,aB g2,aB g3,aB g4,aB g5,aB g6,aB g7];rw[aG g8],rW g8]);rw[rW g8]at cE;refine .zW cE ?_;exact ZH};rw[show vH m=0 from by simpa using g8,sD]at cE;refine .zW cE ?_;have cy:=a90 m hB (SB (by simpa using g2) z4 z5);refine .zW cy ?_;constructor<;>intro g9;{obtain rfl:R=.uV 49 (.int .i64 14):=(by rw[hR,show rJ m=14 from by unfold rJ;rw[aB g1,aB g2,aB g3,aB g4,aB g5,aB g6,aB g7,aB g8,aG g9]];rfl);exact ZJ};obtain rfl:R=.vJ:=(by rw[hR,show rJ m=0 from by unfold rJ;rw[aB g1,aB g2,aB g3,aB g4,aB g5,aB g6,aB g7,aB g8,aB (by rw[g9];simp)]];rfl);exact ZJ
structure KE(m:Md):Prop where
 name:tZ m.name=true
 evs:rF m=0
 pages:uO m=0
 gates:uS m=0
 ins:yG m (BP m) []=0
 top:vN m (-1) m.top=true
 Bq:wB m=0
 Di:vH m=0
 cyc:Qz m=false
theorem wC{m:Md}(h:rJ m=0):KE m:=by unfold rJ at h;split at h;{cases h};rename_i h1;split at h;{rename_i h2;exact absurd h h2};rename_i h2;split at h;{rename_i h2;exact absurd h h2};rename_i h3;split at h;{rename_i h2;exact absurd h h2};rename_i h4;split at h;{rename_i h2;exact absurd h h2};rename_i h5;split at h;{cases h};rename_i h6;split at h;{rename_i h2;exact absurd h h2};rename_i h7;split at h;{rename_i h2;exact absurd h h2};rename_i h8;split at h;{cases h};rename_i h9;exact⟨by simpa using h1,by simpa using h2,by simpa using h3,by simpa using h4,by simpa using h5,by simpa using h6,by simpa using h7,by simpa using h8,by simpa using h9⟩
theorem a6J{m:Md}(h:KE m):rJ m=0:=by unfold rJ;rw[aB (by simp[h.name]),aB (by simp[h.evs]),aB (by simp[h.pages]),aB (by simp[h.gates]),aB (by simp[h.ins]),aB (by simp[h.top]),aB (by simp[h.Bq]),aB (by simp[h.Di]),aB (by simp[h.cyc])]
theorem KE.closed{m:Md}(h:KE m):AQ m:=SB h.evs h.gates h.ins
theorem KE.RY{m:Md}(h:KE m){a:Int}(ha:a = -1\/(0<=a/\a<(m.pages.length:Int))){s:Str}(hs:vN m a s=true):b5S m a s:=S.RY h.evs h.gates h.ins ha hs
theorem KE.lens{m:Md}(h:KE m):m.evs.length<=24/\m.hs.length<=16:=⟨(yZ h.evs).1,(yZ h.evs).2.1⟩
def xu(m:Md)(a:Int)(s:Str):Node×Int :=
 if rJ m≠0 then((0,0,0),rJ m)else if a < -1 then((0,0,0),10)else if(m.pages.length:Int)<=a then((0,0,0),10)
 else if vN m a s=false then((0,0,0),5)else(zf m a s,0)
theorem b3m(m:Md)(a:Int)(s:Str)(hC:MdC m)(hB:KJ m)(R:AV)(hR:R=.uf [.int .i64 (xu m a s).1.1,.int .i64 (xu m a s).1.2.1,.int .i64 (xu m a s).1.2.2,zu (xu m a s).2]):ZQ 154 [m.av,.int .i64 a,.str s] [] R []:=by have cc:=QJ m hC hB _ rfl;have hpl:=hB.pages;refine ZN Tryz.func154 λhok=>?_;refine .pure _ _ ?_ ⟨rfl,a0g _⟩ cc λ_=>?_;{exact rM _};by_cases g0:rJ m≠0;{rw[rW g0];rw[show xu m a s=((0,0,0),rJ m)from by unfold xu;rw[aG g0]]at hR;rw[rW g0]at hR;subst hR;exact ZJ};have h0:rJ m=0:=(by simpa using g0);have hM:=wC h0;rw[h0,sD];refine ZS ?_ ?_<;>intro g1;{rw[show xu m a s=((0,0,0),10)from by unfold xu;rw[aB g0,aG g1]]at hR;rw[rW au]at hR;subst hR;exact ZJ};refine ZS ?_ ?_<;>intro g2;{have g2:(m.pages.length:Int)<=a:=(by simpa using g2);rw[show xu m a s=((0,0,0),10)from by unfold xu;rw[aB g0,aB g1,aG g2]]at hR;rw[rW au]at hR;subst hR;exact ZJ};have g2:¬(m.pages.length:Int)<=a:=(by simpa using g2);have ha:a = -1\/(0<=a/\a<(m.pages.length:Int)):=aj;refine ZW ?_;refine .zW (Ny m a s ha) ?_;constructor<;>intro g3;{have g3:vN m a s=false:=(by simpa using g3);rw[show xu m a s=((0,0,0),5)from by unfold xu;rw[aB g0,aB g1,aB g2,aG g3]]at hR;rw[rW au]at hR;subst hR;exact ZJ};have g3:vN m a s=true:=(by simpa using g3);have hin:=hM.RY ha g3;have cr:=a0t m a s hin.pos ha hin.pg;rw[show xu m a s=(zf m a s,0)from by unfold xu;rw[aB g0,aB g1,aB g2,aB (by simp[g3])]]at hR;rw[sD]at hR;generalize zf m a s=r at *;subst hR;refine ZW ?_;refine .zW cr ?_;refine ZR ?_;exact ZH
structure b5B(m:Md)(a:Int)(k:Nat)(x:Mg):Prop where
 name:tZ x.name=true
 b6Z:sH m.evs x.name<0
 b6Y:uM m.hs x.name<0
 first:(k:Int)<=uU (qN m a) x.name
 own:uP x=0
theorem KE.gate{m:Md}(hM:KE m){a:Int}(ha:a = -1\/(0<=a/\a<(m.pages.length:Int))){k:Nat}(hk:k<(qN m a).length):b5B m a k (qN m a)[k]:=by have h:=En hM.gates ha k hk;unfold uT at h;split at h;{cases h};rename_i h1;split at h;{cases h};rename_i h2;split at h;{cases h};rename_i h3;split at h;{cases h};rename_i h4;exact⟨by simpa using h1,aj,aj,aj,h⟩
theorem Qd{α:Type}{p:α->Bool}{l:List α}{k:Nat}(hk:k<l.length)(hp:p l[k]=true):0<=zG p l/\zG p l<=k:=by rcases zF p l with⟨_,h2⟩|⟨i,hi,h1,_,h3⟩;{have:=h2 _ (aQ hk);rw[hp]at this;cases this};refine⟨aj,?_⟩;rw[h1];rcases jS k i with h|h;{have:=h3 k h;rw[hp]at this;cases this};omega
theorem KE.a9c{m:Md}(hM:KE m){a:Int}(ha:a = -1\/(0<=a/\a<(m.pages.length:Int))){k:Nat}(hk:k<(qN m a).length):uU (qN m a) (qN m a)[k].name=k:=by have h1:=(hM.gate ha hk).first;have h2:=(Qd (p:=λx=>decide (x.name=(qN m a)[k].name)) hk ak).2;unfold uU at h1 ⊢;omega
theorem I9{s:Str}(h:tZ s=true):Ed s=false:=by
 unfold tZ at h;simp only[aN,bW]at h;unfold Ed;rw[Bool.and_eq_false_iff];right;apply bK;intro e;have:=h.1.2;rw[e]at this
 revert this
 decide
theorem KE.b0K{m:Md}(hM:KE m){a:Int}(ha:a = -1\/(0<=a/\a<(m.pages.length:Int))){x:Mg}(hx:x∈qN m a){s:Str}(hs:s∈x.ins):vN m a s=true:=by obtain⟨sp,h4⟩:=Jd hM.ins _ (JZ.2 ha);exact(JI h4).1 x hx s hs
structure Nd where
 kind:Int
 k:Int
 args:List Int
 deriving DecidableEq,Inhabited
abbrev Nd.av(x:Nd):AV:=.ag [.int .i64 x.kind,.int .i64 x.k,iL x.args]
structure Fo where
 vars:Int
 nodes:List Nd
 top:Int
 deriving DecidableEq,Inhabited
abbrev Fo.av(x:Fo):AV:=.ag [.int .i64 x.vars,.sl 3 (x.nodes.map Nd.av) .no,.int .i64 x.top]
def lookO:Marks->Node->Option Int
 | [],_=>none
 |(y,v)::es,x=>if y=x then some v else lookO es x
theorem a7B{es:Marks}{x:Node}{k:AV->Prop}(h1:∀v,lookO es x=some v->k (.uf [.int .i64 v,.tt]))(h2:lookO es x=none->k (.uf [.int .i64 0,.ff])) :
  FW (xM es) (OG x) λr=>DI true (.int .i64 0) r k:=by
 have key:∃r,a4D (xM es) (OG x) r/\DI true (.int .i64 0) r k:=by
  induction es with
  |nil=>exact⟨none,by simp[a4D,xM],h2 rfl⟩
  | cons e es ih =>
    obtain⟨y,v⟩:=e;by_cases hy:y=x;{subst hy;exact⟨some (.int .i64 v),⟨_,dD,rfl,rfl⟩,h1 v (aG rfl)⟩};have e:lookO ((y,v)::es) x=lookO es x:=aB hy;rw[e]at h1 h2;obtain⟨r,g1,g2⟩:=ih h1 h2;refine⟨r,?_,g2⟩;cases r with
    |none =>intro z hz;simp only[xM,dF,aT]at hz;rcases hz with rfl|hz;{exact λe=>hy (a2y.1 e)};exact g1 z hz
    |some w =>obtain⟨z,hz,h3,h4⟩:=g1;exact⟨z,by simp only[xM,dF,aT];exact .inr hz,h3,h4⟩
 exact⟨key⟩
theorem CG{es:Marks}{x y:Node}{v:Int}:lookO (mark es x v) y=if x=y then some v else lookO es y:=by
 induction es with
 |nil=>simp[mark,lookO]
 |cons e es ih =>obtain⟨z,u⟩:=e;simp only[mark];by_cases hz:z=x;{subst hz;simp only[if_true,lookO];split <;> rfl};simp only[aB hz,lookO,ih];by_cases hzy:z=y;{subst hzy;rw[aG rfl,aB (λe=>hz e.symm)];simp};simp only[aB hzy]
theorem SI{es:Marks}{x:Node}{v:Int}{k:AV->Prop}(h:k (.int .i64 v)):FW (xM (mark es x v)) (OG x) λr=>DI false (.int .i64 0) r k:=by refine a3r ?_;rw[wP,aG rfl];exact h
def GV(k:Int):Int:=if k=0 then 2 else if k=5 then 2 else if k=1 then 3 else if k=2 then 4 else if k=3 then 1 else if k=4 then 5 else 0
def Du(k:Int):Bool:=decide (k=0)||decide (k=5)||decide (k=1)||decide (k=2)||decide (k=3)||decide (k=4)
structure CS where
 nodes:List Nd
 es:Marks
 deriving Inhabited
def xK(vars:Int)(s:CS)(x:Node)(nd:Nd):(Bool×Int)×CS:=((false,vars+s.nodes.length),⟨s.nodes++[nd],mark s.es x (vars+s.nodes.length)⟩)
def Ih(m:Md)(x:Node):Hs:=m.hs.getD x.2.2.toNat default
def vZ(f:Node->CS->(Bool×Int)×CS):List Node->CS->List Int->(Bool×List Int)×CS
 | [],s,acc=>((false,acc),s)
 |y::l,s,acc=>if(f y s).1.1=true then((true,acc),(f y s).2)else vZ f l (f y s).2 (acc++[(f y s).1.2])
def su(m:Md)(vars:Int):Nat->Node->CS->(Bool×Int)×CS
 | 0,_,s=>((true,0),s)
 | n+1,x,s=>if x.1=0 then((false,x.2.2),s)else
   match lookO s.es x with
   |some a=>((false,a),s)
   | none=>if x.1=1 then xK vars s x ⟨0,if(Ih m x).on=true then 1 else 0,[]⟩
     else if Du (rP m x).kind=false then((true,0),s)
     else if(vZ (su m vars n) (tC m x) s []).1.1=true then((true,0),(vZ (su m vars n) (tC m x) s []).2)
     else xK vars (vZ (su m vars n) (tC m x) s []).2 x ⟨GV (rP m x).kind,(rP m x).k,(vZ (su m vars n) (tC m x) s []).1.2⟩
structure Tb where
 order:List Int
 place:List Int
 nodes:List Node
 uq:Marks
 memo:Marks
def b4e(l:List Bool)(r:Int):Bool:=if r<=0 then false else if r=1 then true else l.getD (r-2).toNat false
def Za(s:Int->Bool)(l:List Bool)(x:Node):List Bool:=l++[if s x.1 then b4e l x.2.2 else b4e l x.2.1]
def Kv(s:Int->Bool)(nodes:List Node):List Bool:=nodes.foldl (Za s) []
def ev(nodes:List Node)(s:Int->Bool)(r:Int):Bool:=b4e (Kv s nodes) r
theorem vals_snoc(s:Int->Bool)(l:List Node)(x:Node):Kv s (l++[x])=Kv s l++[if s x.1 then ev l s x.2.2 else ev l s x.2.1]:=by unfold Kv;rw[fU];rfl
theorem Y2(s:Int->Bool)(l:List Node):(Kv s l).length=l.length:=by
 have:∀(l:List Node) (a:List Bool),(l.foldl (Za s) a).length=a.length+l.length:=by
  intro l;induction l with
  |nil=>intro a;rfl
  |cons x l ih=>intro a;rw[dY,ih];simp[Za];omega
 simpa[Kv]using this l []
theorem a8i(s:Int->Bool)(l m:List Node):∃t,Kv s (l++m)=Kv s l++t:=by
 have:∀(m:List Node) (a:List Bool),∃t,m.foldl (Za s) a=a++t:=by
  intro m;induction m with
  |nil=>intro a;exact⟨[],ak⟩
  |cons x m ih =>intro a;obtain⟨t,ht⟩:=ih (Za s a x);exact⟨_::t,by rw[dY,ht,Za,bP];rfl⟩
 obtain⟨t,ht⟩:=this m (Kv s l);exact⟨t,by rw[Kv,fU];exact ht⟩
theorem F9(l:List Node)(s:Int->Bool):ev l s 0=false:=rfl
theorem OX(l:List Node)(s:Int->Bool):ev l s 1=true:=rfl
theorem Sj(l m:List Node)(s:Int->Bool){r:Int}(h:r<2+(l.length:Int)):ev (l++m) s r=ev l s r:=by obtain⟨t,ht⟩:=a8i s l m;unfold ev b4e;rw[ht];split;{rfl};split;{rfl};have hl:(r-2).toNat<(Kv s l).length:=(by rw[Y2];omega);rw[aF,aF,bH hl]
theorem JL(l:List Node)(s:Int->Bool){k:Nat}(hk:k<l.length)(h1:l[k].2.1<2+(k:Int))(h2:l[k].2.2<2+(k:Int)) :
  ev l s (2+k)=if s l[k].1 then ev l s l[k].2.2 else ev l s l[k].2.1:=by
 have e:l=l.take k++[l[k]]++l.drop (k+1):=(by rw[<- bG hk,fH]);have hkl:(l.take k).length=k:=aA;have e1:∀r:Int,r<2+(k:Int)->ev l s r=ev (l.take k) s r:=by
  intro r hr;conv=>lhs;rw[e]
  rw[bP,Sj _ _ _ (by rw[hkl];exact hr)]
 rw[e1 _ h1,e1 _ h2];conv=>lhs;rw[e]
 rw[Sj _ _ _ aA];unfold ev b4e;rw[aB aj,aB aj,vals_snoc];have:(2+(k:Int)-2).toNat=(Kv s (l.take k)).length:=(by rw[Y2,hkl];omega);rw[this,aF,dJ (aS _),gV];rfl
def Tb.n(T:Tb):Int:=T.order.length
def Tb.pl(T:Tb)(i:Int):Int:=T.place.getD i.toNat 0
def Tb.node(T:Tb)(r:Int):Node:=T.nodes.getD (r-2).toNat default
def Tb.lvl(T:Tb)(r:Int):Int:=if r<2 then T.n else T.pl (T.node r).1
def Tb.Rf(T:Tb)(r:Int):Prop:=0<=r/\r<2+(T.nodes.length:Int)
structure b5A(T:Tb)(x:Node)(k:Nat):Prop where
 v:0<=x.1/\x.1<T.n
 lo:0<=x.2.1/\x.2.1<2+(k:Int)
 hi:0<=x.2.2/\x.2.2<2+(k:Int)
 ne:x.2.1≠x.2.2
 llo:T.pl x.1<T.lvl x.2.1
 lhi:T.pl x.1<T.lvl x.2.2
structure tH(T:Tb):Prop where
 small:T.order.length<=60
 OC:T.place.length=T.order.length
 ord:∀k:Int,0<=k->k<T.n->0<=T.order.getD k.toNat 0/\T.order.getD k.toNat 0<T.n/\T.pl (T.order.getD k.toNat 0)=k
 plc:∀i:Int,0<=i->i<T.n->0<=T.pl i/\T.pl i<T.n/\T.order.getD (T.pl i).toNat 0=i
 nodes:∀(k:Nat) (h:k<T.nodes.length),b5A T T.nodes[k] k
 uq:∀x r,lookO T.uq x=some r↔∃(k:Nat) (h:k<T.nodes.length),T.nodes[k]=x/\r=2+(k:Int)
 memo:∀c a b r,lookO T.memo (c,a,b)=some r->T.Rf c/\T.Rf a/\T.Rf b/\T.Rf r/\min (min (T.lvl c) (T.lvl a)) (T.lvl b)<=T.lvl r/\∀s,ev T.nodes s r=if ev T.nodes s c then ev T.nodes s a else ev T.nodes s b
structure Xt(T T':Tb):Prop where
 order:T'.order=T.order
 place:T'.place=T.place
 nodes:∃l,T'.nodes=T.nodes++l
theorem Xt.refl(T:Tb):Xt T T:=⟨rfl,rfl,[],ak⟩
theorem Xt.trans{A B C:Tb}(h:Xt A B)(g:Xt B C):Xt A C:=by obtain⟨l,hl⟩:=h.nodes;obtain⟨m,hm⟩:=g.nodes;exact⟨g.order.trans h.order,g.place.trans h.place,l++m,by rw[hm,hl,bP]⟩
theorem Xt.len{T T':Tb}(h:Xt T T'):T.nodes.length<=T'.nodes.length:=by obtain⟨l,hl⟩:=h.nodes;rw[hl];simp
theorem Xt.n{T T':Tb}(h:Xt T T'):T'.n=T.n:=by unfold Tb.n;rw[h.order]
theorem Xt.pl{T T':Tb}(h:Xt T T')(i:Int):T'.pl i=T.pl i:=by unfold Tb.pl;rw[h.place]
theorem Xt.rf{T T':Tb}(h:Xt T T'){r:Int}(hr:T.Rf r):T'.Rf r:=⟨hr.1,by have:=h.len;have:=hr.2;omega⟩
theorem Xt.node{T T':Tb}(h:Xt T T'){r:Int}(hr:T.Rf r)(h2:2<=r):T'.node r=T.node r:=by obtain⟨l,hl⟩:=h.nodes;unfold Tb.node;have:=hr.2;rw[hl,aF,aF,bH aj]
theorem Xt.lvl{T T':Tb}(h:Xt T T'){r:Int}(hr:T.Rf r):T'.lvl r=T.lvl r:=by unfold Tb.lvl;split;{exact h.n};rw[h.pl,h.node hr aj]
theorem Xt.ev{T T':Tb}(h:Xt T T'){r:Int}(hr:T.Rf r)(s:Int->Bool):ev T'.nodes s r=ev T.nodes s r:=by obtain⟨l,hl⟩:=h.nodes;rw[hl,Sj _ _ _ hr.2]
theorem Tb.Rf.zero(T:Tb):T.Rf 0:=⟨aj,aj⟩
theorem Tb.Rf.one(T:Tb):T.Rf 1:=⟨aj,aj⟩
theorem tH.at{T:Tb}(h:tH T){r:Int}(hr:T.Rf r)(h2:2<=r):b5A T (T.node r) (r-2).toNat/\∀s,S.ev T.nodes s r=if s (T.node r).1 then S.ev T.nodes s (T.node r).2.2 else S.ev T.nodes s (T.node r).2.1:=by have hk:(r-2).toNat<T.nodes.length:=(by have:=hr.2;omega);have e:T.node r=T.nodes[(r-2).toNat]:=(by unfold Tb.node;rw[aF,aH hk];rfl);have g:=h.nodes _ hk;rw[e];refine⟨g,λs=>?_⟩;have:=JL T.nodes s hk g.lo.2 g.hi.2;rw[<- this];congr 1;omega
theorem tH.F7{T:Tb}(h:tH T){r:Int}(hr:T.Rf r):0<=T.lvl r/\T.lvl r<=T.n:=by unfold Tb.lvl;split;{exact⟨by unfold Tb.n;omega,dR _⟩};have g:=(h.at hr aj).1;have:=h.plc _ g.v.1 g.v.2;omega
theorem tH.kid{T:Tb}(h:tH T){r:Int}(hr:T.Rf r)(h2:2<=r):T.Rf (T.node r).2.1/\T.Rf (T.node r).2.2/\T.lvl r<T.lvl (T.node r).2.1/\T.lvl r<T.lvl (T.node r).2.2/\0<=T.lvl r/\T.lvl r<T.n:=by have g:=(h.at hr h2).1;have:=hr.2;have hp:=h.plc _ g.v.1 g.v.2;have e:T.lvl r=T.pl (T.node r).1:=aB aj;rw[e];exact⟨⟨g.lo.1,by have:=g.lo.2;omega⟩,⟨g.hi.1,by have:=g.hi.2;omega⟩,g.llo,g.lhi,hp.1,hp.2.1⟩
def Tb.make(T:Tb)(v lo hi:Int):Tb×Int :=
 if lo=hi then(T,lo)else match lookO T.uq (v,lo,hi)with
  |some r=>(T,r)
  |none=>({ T with nodes:=T.nodes++[(v,lo,hi)],uq:=mark T.uq (v,lo,hi) (2+(T.nodes.length:Int)) },2+(T.nodes.length:Int))
theorem Nj{T:Tb}(h:tH T){v lo hi:Int}(hv:0<=v/\v<T.n)(hlo:T.Rf lo)(hhi:T.Rf hi)(h1:T.pl v<T.lvl lo)(h2:T.pl v<T.lvl hi) :
  tH (T.make v lo hi).1/\Xt T (T.make v lo hi).1/\(T.make v lo hi).1.Rf (T.make v lo hi).2/\T.pl v<=(T.make v lo hi).1.lvl (T.make v lo hi).2 /\
  (T.make v lo hi).1.nodes.length<=T.nodes.length+1/\(T.make v lo hi).1.memo=T.memo/\∀s,ev (T.make v lo hi).1.nodes s (T.make v lo hi).2=if s v then ev T.nodes s hi else ev T.nodes s lo:=by
 unfold Tb.make;by_cases he:lo=hi;{rw[aG he];subst he;exact⟨h,.refl _,hlo,Int.le_of_lt h1,ak,rfl,λs=>ak⟩};rw[aB he];cases hl:lookO T.uq (v,lo,hi)with
 |some r =>obtain⟨k,hk,e1,rfl⟩:=(h.uq _ _).1 hl;have g:=h.nodes k hk;have hrf:T.Rf (2+(k:Int)):=⟨aj,aj⟩;have en:T.node (2+(k:Int))=(v,lo,hi):=(by unfold Tb.node;rw[show(2+(k:Int)-2).toNat=k by omega,aF,aH hk];exact e1);refine⟨h,.refl _,hrf,?_,ak,rfl,λs=>?_⟩;{show _<=T.lvl (2+(k:Int));rw[show T.lvl (2+(k:Int))=T.pl (T.node (2+(k:Int))).1 from aB aj,en];exact dR _};have:=JL T.nodes s hk g.lo.2 g.hi.2;rw[e1]at this;exact this
 |none =>let T':Tb:={ T with nodes:=T.nodes++[(v,lo,hi)],uq:=mark T.uq (v,lo,hi) (2+(T.nodes.length:Int)) };have hx:Xt T T':=⟨rfl,rfl,_,rfl⟩;have hlen:T'.nodes.length=T.nodes.length+1:=(by simp[T']);have hnew:∀(hk:T.nodes.length<T'.nodes.length),T'.nodes[T.nodes.length]=(v,lo,hi):=λhk=>(by simp[T']);have hold:∀(k:Nat) (hk:k<T.nodes.length) (hk':k<T'.nodes.length),T'.nodes[k]=T.nodes[k]:=λk hk hk'=>(by simp only[T'];rw[kT hk]);have hev:∀s,ev T'.nodes s (2+(T.nodes.length:Int))=if s v then ev T.nodes s hi else ev T.nodes s lo:=(by intro s;have:=JL T'.nodes s (k:=T.nodes.length) aj (by rw[hnew];exact hlo.2) (by rw[hnew];exact hhi.2);rw[hnew]at this;rw[this,hx.ev hhi,hx.ev hlo]);have hgood:tH T':=(by refine⟨h.small,h.OC,h.ord,h.plc,λk hk=>?_,λx r=>?_,λc a b r hm=>?_⟩;{by_cases hkl:k<T.nodes.length;{rw[hold k hkl hk];have g:=h.nodes k hkl;exact⟨g.v,g.lo,g.hi,g.ne,by rw[hx.lvl ⟨g.lo.1,by have:=g.lo.2;omega⟩];exact g.llo,by rw[hx.lvl ⟨g.hi.1,by have:=g.hi.2;omega⟩];exact g.lhi⟩};obtain rfl:k=T.nodes.length:=aj;rw[hnew hk];exact⟨hv,hlo,hhi,he,by rw[hx.lvl hlo];exact h1,by rw[hx.lvl hhi];exact h2⟩};{show lookO (mark T.uq (v,lo,hi) (2+(T.nodes.length:Int))) x=some r↔_;rw[CG];by_cases hxe:(v,lo,hi)=x;{rw[aG hxe];subst hxe;constructor;{intro hr;obtain rfl:=aW hr;exact⟨T.nodes.length,aj,hnew _,rfl⟩};rintro⟨k,hk,e1,rfl⟩;by_cases hkl:k<T.nodes.length;{exfalso;have:lookO T.uq (v,lo,hi)=some (2+(k:Int)):=(h.uq _ _).2 ⟨k,hkl,(hold k hkl hk).symm.trans e1,rfl⟩;rw[hl]at this;cases this};obtain rfl:k=T.nodes.length:=aj;rfl};rw[aB hxe,h.uq];constructor;{rintro⟨k,hk,e1,rfl⟩;exact⟨k,aj,(hold k hk _).trans e1,rfl⟩};rintro⟨k,hk,e1,rfl⟩;by_cases hkl:k<T.nodes.length;{exact⟨k,hkl,(hold k hkl hk).symm.trans e1,rfl⟩};obtain rfl:k=T.nodes.length:=aj;exact absurd ((hnew hk).symm.trans e1) hxe};obtain⟨g1,g2,g3,g4,g5,g6⟩:=h.memo c a b r hm;exact⟨hx.rf g1,hx.rf g2,hx.rf g3,hx.rf g4,by rw[hx.lvl g1,hx.lvl g2,hx.lvl g3,hx.lvl g4];exact g5,λs=>by rw[hx.ev g1,hx.ev g2,hx.ev g3,hx.ev g4];exact g6 s⟩);have hrf:T'.Rf (2+(T.nodes.length:Int)):=⟨aj,by rw[hlen];omega⟩;refine⟨hgood,hx,hrf,?_,by rw[show(T',2+(T.nodes.length:Int)).1.nodes.length=T'.nodes.length from rfl,hlen];exact aS _,rfl,hev⟩;show T.pl v<=T'.lvl (2+(T.nodes.length:Int));have en:T'.node (2+(T.nodes.length:Int))=(v,lo,hi):=(by unfold Tb.node;rw[show(2+(T.nodes.length:Int)-2).toNat=T.nodes.length by omega,aF,aH aj,hnew];rfl);rw[show T'.lvl (2+(T.nodes.length:Int))=T'.pl (T'.node (2+(T.nodes.length:Int))).1 from aB aj,en];exact dR _
theorem O9{es:Marks}{x:Node}{r:Int}{k:AV->Prop}(hl:lookO es x=some r)(h:k (.uf [.int .i64 r,.tt])):FW (xM es) (OG x) λr=>DI true (.int .i64 0) r k:=by
 refine⟨some (.int .i64 r),?_,h⟩;induction es with
 |nil=>simp[lookO]at hl
 |cons e es ih =>obtain⟨y,v⟩:=e;simp only[lookO]at hl;by_cases hy:y=x;{subst hy;rw[aG rfl]at hl;obtain rfl:=aW hl;exact⟨_,dD,rfl,rfl⟩};rw[aB hy]at hl;obtain⟨z,hz,h3,h4⟩:=ih hl;exact⟨z,by simp only[xM,dF,aT];exact .inr hz,h3,h4⟩
theorem Pj{es:Marks}{x:Node}{k:AV->Prop}(hl:lookO es x=none)(h:k (.uf [.int .i64 0,.ff])):FW (xM es) (OG x) λr=>DI true (.int .i64 0) r k:=by
 refine⟨none,?_,h⟩;induction es with
 |nil=>intro z hz;simp[xM]at hz
 |cons e es ih =>obtain⟨y,v⟩:=e;simp only[lookO]at hl;by_cases hy:y=x;{subst hy;rw[aG rfl]at hl;cases hl};rw[aB hy]at hl;intro z hz;simp only[xM,dF,aT]at hz;rcases hz with rfl|hz;{exact λe=>hy (a2y.1 e)};exact ih hl z hz
abbrev xT(T:Tb):AV:=.ag [.sl 1 (T.order.map (.int .i64)) .no,.ms 1 0 T.place.length T.place.length 1,.sl 3 (T.nodes.map OG) (.own 2),.mp 3,.mp 4]
abbrev yT(T:Tb):Heap:=[(4,.tN Ri (xM T.memo)),(3,.tN Ri (xM T.uq)),(2,.tok 3 T.nodes.length),(1,.arr 1 T.place.length (T.place.map (.int .i64))),(0,.box (xT T))]
theorem a1A(T:Tb)(v lo hi:Int)(hn:T.nodes.length<=1000000000) :
  ZQ 118 [.ptr 0 [] 0,.int .i64 v,.int .i64 lo,.int .i64 hi] (yT T) (.int .i64 (T.make v lo hi).2) (yT (T.make v lo hi).1):=by
 by_cases he:lo=hi
 ·rw[show T.make v lo hi=(T,lo)from aG he];refine ZN Tryz.func118 λhok=>?_;refine aP (λ_=>?_) (λh=>absurd he h);refine ZW ?_;refine ZE ?_ ?_
  ·repeat' first|exact Zq|apply aI
   all_goals first|(rw[aC];done)|skip
  repeat' first|exact Zq|apply aI
  all_goals first|exact qO _|exact qP _ _|(show sS _ (List.map _ (_++[_]));rw[aV];exact qU _)|(simp;done)|skip
 cases hl:lookO T.uq (v,lo,hi)with
 | some r =>
   rw[show T.make v lo hi=(T,r)from by unfold Tb.make;rw[aB he,hl]];refine ZN Tryz.func118 λhok=>?_;refine aP (λh=>absurd h he) (λ_=>ZW ?_);refine ZR ?_;refine O9 (x:=(v,lo,hi)) hl (ZW ?_);refine ZE ?_ ?_
   ·repeat' first|exact Zq|apply aI
    all_goals first|(rw[aC];done)|skip
   repeat' first|exact Zq|apply aI
   all_goals first|exact qO _|exact qP _ _|(show sS _ (List.map _ (_++[_]));rw[aV];exact qU _)|(simp;done)|skip
 | none =>
   rw[show T.make v lo hi=({ T with nodes:=T.nodes++[(v,lo,hi)],uq:=mark T.uq (v,lo,hi) (2+(T.nodes.length:Int)) },2+(T.nodes.length:Int))from by unfold Tb.make;rw[aB he,hl]];refine ZN Tryz.func118 λhok=>?_;refine aP (λh=>absurd h he) (λ_=>ZW ?_);refine ZR ?_;refine Pj (x:=(v,lo,hi)) hl (ZW ?_);rw[aC];refine⟨rQ aj aj,ZW ?_⟩;refine ZR ?_;refine⟨by rw[aC],.mk (by simp[maxL];omega) aA (ZW ?_)⟩;refine ZR ?_;refine NC (x:=(v,lo,hi)) (ZW ?_);refine ZE ?_ ?_
   ·repeat' first|exact Zq|apply aI
    all_goals first|(rw[aC];done)|skip
   repeat' first|exact Zq|apply aI
   all_goals first|exact qO _|exact qP _ _|(show sS _ (List.map _ (_++[_]));rw[aV];exact qU _)|(simp;done)|skip
theorem a2W(T:Tb)(v:Int)(hn:T.nodes.length<=1000000000) :
  ZQ 115 [.ptr 0 [] 0,.int .i64 v] (yT T) (.int .i64 (T.make v 0 1).2) (yT (T.make v 0 1).1):=by
 refine ZN Tryz.func115 λhok=>?_;refine .gen _ _ (a1A T v 0 1 hn) λ_=>ZW ?_;refine ZE ?_ ?_
 ·repeat' first|exact Zq|apply aI
  all_goals first|(rw[aC];done)|skip
 repeat' first|exact Zq|apply aI
 all_goals first|exact qO _|exact qP _ _|(show sS _ (List.map _ (_++[_]));rw[aV];exact qU _)|(simp;done)|skip
theorem EY(T:Tb)(hT:tH T)(hn:T.nodes.length<=1000000000)(r:Int)(hr:T.Rf r) :
  ZQ 191 [.ptr 0 [] 0,.int .i64 r] (yT T) (.int .i64 (T.lvl r)) (yT T):=by
 have h0:=hr.1;have h1:=hr.2;by_cases h2:r<2
 ·rw[show T.lvl r=(T.order.length:Int)from aG h2];refine ZN Tryz.func191 λhok=>?_;refine aP (λ_=>?_) (λh=>absurd h2 h);refine ZW ?_;refine ZE ?_ ?_
  ·repeat' first|exact Zq|apply aI
   all_goals first|(rw[aC];done)|skip
  repeat' first|exact Zq|apply aI
  all_goals first|exact qO _|exact qP _ _|(show sS _ (List.map _ (_++[_]));rw[aV];exact qU _)|(simp;done)|skip
 have g:=(hT.at hr aj).1;have hp:=hT.OC;rw[show T.lvl r=T.pl (T.node r).1 from aB h2];refine ZN Tryz.func191 λhok=>?_;refine aP (λh=>absurd h h2) (λ_=>ZW ?_);refine ZR ?_;refine⟨rQ aj aj,?_⟩;conv=>whnf
 refine sK default ⟨aj,aj⟩ ?_;conv=>whnf
 have hv:0<=(T.nodes.getD (r-2).toNat default).1/\(T.nodes.getD (r-2).toNat default).1<(T.order.length:Int):=g.v;refine⟨⟨hv.1,by rw[hp];exact hv.2⟩,?_⟩;conv=>whnf
 rw[bC];refine sK 0 ⟨aj,aj⟩ ?_;conv=>whnf
 refine⟨rfl,ZW ?_⟩;refine ZE ?_ ?_
 ·repeat' first|exact Zq|apply aI
  all_goals first|(rw[aC];done)|skip
 repeat' first|exact Zq|apply aI
 all_goals first|exact qO _|exact qP _ _|(show sS _ (List.map _ (_++[_]));rw[aV];exact qU _)|(simp;done)|skip
def Tb.kids(T:Tb)(r L:Int):Int×Int:=if T.lvl r≠L then(r,r)else((T.node r).2.1,(T.node r).2.2)
theorem a1B(T:Tb)(hT:tH T)(hn:T.nodes.length<=1000000000)(r L:Int)(hr:T.Rf r)(hL:L<T.n) :
  ZQ 192 [.ptr 0 [] 0,.int .i64 r,.int .i64 L] (yT T) (.uf [.int .i64 (T.kids r L).1,.int .i64 (T.kids r L).2]) (yT T):=by
 have h0:=hr.1;have h1:=hr.2;have cl:=EY T hT hn r hr;by_cases h2:T.lvl r≠L
 ·rw[show T.kids r L=(r,r)from aG h2];refine ZN Tryz.func192 λhok=>?_;refine .gen _ _ cl λ_=>ZW ?_;refine aP (λ_=>?_) (λh=>absurd h2 h);refine ZW ?_;refine ZE ?_ ?_
  ·repeat' first|exact Zq|apply aI
   all_goals first|(rw[aC];done)|skip
  repeat' first|exact Zq|apply aI
  all_goals first|exact qO _|exact qP _ _|(show sS _ (List.map _ (_++[_]));rw[aV];exact qU _)|(simp;done)|skip
 have h2:T.lvl r=L:=(by simpa using h2);have hr2:¬r<2:=(by intro h;have:T.lvl r=T.n:=aG h;omega);rw[show T.kids r L=((T.node r).2.1,(T.node r).2.2)from aB aj];refine ZN Tryz.func192 λhok=>?_;refine .gen _ _ cl λ_=>ZW ?_;refine aP (λh=>absurd h2 h) (λ_=>ZW ?_);refine⟨rQ aj aj,ZW ?_⟩;refine sK default ⟨aj,aj⟩ (ZW ?_);refine ZR ?_;refine ZE ?_ ?_
 ·repeat' first|exact Zq|apply aI
  all_goals first|(rw[aC];done)|skip
 repeat' first|exact Zq|apply aI
 all_goals first|exact qO _|exact qP _ _|(show sS _ (List.map _ (_++[_]));rw[aV];exact qU _)|(simp;done)|skip
end S