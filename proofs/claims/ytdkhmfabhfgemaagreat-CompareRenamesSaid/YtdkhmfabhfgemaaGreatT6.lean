/-
  Contracts of functions of the program. Nothing is assumed.
-/
import Derived.Test.YtdkhmfabhfgemaaGreatT5
open Go Go.AL Go.Proofs
namespace S
set_option maxRecDepth 100000
def wW{α:Type}(f:Nat->α->Int):Nat->List α->Int
 |_,[]=>0
 |i,x::l=>if f i x≠0 then f i x else wW f (i+1) l
theorem zy{α:Type}{f:Nat->α->Int}{l:List α}{i:Nat}(h:i<l.length):wW f i (l.drop i)=if f i l[i]≠0 then f i l[i]else wW f (i+1) (l.drop (i+1)):=by rw[aZ h];rfl
theorem Ak{α:Type}{f:Nat->α->Int}{l:List α}{i:Nat}(h:l.length<=i):wW f i (l.drop i)=0:=by rw[aX h];rfl
theorem Em{α:Type}{f:Nat->α->Int}:∀{l:List α} {i:Nat},wW f i l=0↔∀(k:Nat) (h:k<l.length),f (i+k) l[k]=0
 | [],i=>by simp[wW]
 | x::l,i=>by
   simp only[wW];split;{rename_i h;constructor;{intro h2;exact absurd h2 h};intro h2;exact absurd (h2 0 ak) h};rename_i h;have h:f i x=0:=by simpa using h
   rw[Em (l:=l) (i:=i+1)];constructor
   ·intro h2 k hk;cases k with
    |zero=>exact h
    |succ k=>have:=h2 k (by simpa using hk);rw[show i+(k+1)=i+1+k by omega];simpa using this
   intro h2 k hk;have:=h2 (k+1) (by simpa using hk);rw[show i+1+k=i+(k+1) by omega];simpa using this
def mgC(l:List Mg):Prop:=∀x∈l,Px x.zi
structure MdC(m:Md):Prop where
 evs:∀x∈m.evs,Px x.p/\Px x.fail/\Px x.repair
 gates:mgC m.gates
 pages:∀x∈m.pages,mgC x.gates
 y8:∀x∈m.y8,∀f∈x.BX,Px f
 zS:∀x∈m.zS,∀v∈x.vals,Px v.p
def xZ(m:Md)(i:Nat)(x:Ev):Int :=
 if sV x.name=false then 5 else if rM m.evs x.name<i then 6
 else if yK x.p=false then 3 else if Dy x.fail=false then 3 else if Dy x.repair=false then 3 else if x.cost<0 then 3 else if 1073741824<x.cost then 3 else 0
def BR(m:Md)(i:Nat)(x:Hs):Int :=
 if sV x.name=false then 5 else if 0<=rM m.evs x.name then 6 else if tN m.hs x.name<i then 6 else 0
def rG(m:Md):Int :=
 if 24<m.evs.length then 4 else if wW (xZ m) 0 m.evs≠0 then wW (xZ m) 0 m.evs
 else if 16<m.hs.length then 4 else wW (BR m) 0 m.hs
theorem a0l(e:Int):tH 0 (zh e)=true:=by unfold zh;split <;> rfl
theorem YZ(m:Md)(hC:MdC m)(R:AV)(hR:R=zh (rG m)):ZQ 75 [m.av] [] R []:=by have ce:=λs=>Iq m s;have ch:=λs=>UU m s;refine ZN Tryz.func75 λhok=>?_;constructor<;>intro h1;{have h1:24<m.evs.length:=(by simp only[aC]at h1;omega);obtain rfl:R=.uY 49 (.int .i64 4):=(by rw[hR,show rG m=4 from by unfold rG;rw[aG h1]];rfl);exact ZJ};have h1:¬24<m.evs.length:=(by simp only[aC]at h1;omega);refine ZW ?_;refine qW.of <| qN.inv (.refl _ _) (fun(i:Nat)=>i<=m.evs.length/\wW (xZ m) 0 m.evs=wW (xZ m) i (m.evs.drop i)) (fun(i:Nat)=>[(15,.int .i64 i)]) (λ_=>_) (fun(i:Nat)=>m.evs.length-i) 0 ?_ (λ_=>rfl) ?_ ?_;{exact⟨aP _,rfl⟩};{exact wk};rintro i ⟨hi,hn⟩ _;refine ZS ?_ ?_<;>intro h;{have hlt:i<m.evs.length:=(by simpa using h);obtain⟨rp,rf,rr⟩:=hC.evs _ (aN hlt);rw[zy hlt]at hn;have cf:=b1e _ rf;have cr:=b1e _ rr;have bad:∀e:Int,e≠0->xZ m i m.evs[i]=e->rG m=e:=(by intro e he h;unfold rG;rw[h,aG he]at hn;rw[aB h1,hn,aG he]);refine ZW ?_;refine sH hlt ?_;generalize m.evs[i]=x at *;refine ZW ?_;refine .zW (Bh x.name) ?_;constructor<;>intro g1;{have g1:sV x.name=false:=(by simpa using g1);obtain rfl:R=.uY 49 (.int .i64 5):=(by rw[hR,show rG m=5 from by exact bad 5 au (by unfold xZ;rw[aG g1])];rfl);exact ZJ};have g1:¬sV x.name=false:=(by simpa using g1);refine ZW ?_;refine .zW (ce x.name) ?_;constructor<;>intro g2;{obtain rfl:R=.uY 49 (.int .i64 6):=(by rw[hR,show rG m=6 from by exact bad 6 au (by unfold xZ;rw[aB g1,aG g2])];rfl);exact ZJ};refine ZW ?_;refine .zW rp.p ?_;constructor<;>intro g3;{have g3:yK x.p=false:=(by simpa using g3);obtain rfl:R=.uY 49 (.int .i64 3):=(by rw[hR,show rG m=3 from by exact bad 3 au (by unfold xZ;rw[aB g1,aB g2,aG g3])];rfl);exact ZJ};have g3:¬yK x.p=false:=(by simpa using g3);refine ZW ?_;refine .zW cf ?_;constructor<;>intro g4;{have g4:Dy x.fail=false:=(by simpa using g4);obtain rfl:R=.uY 49 (.int .i64 3):=(by rw[hR,show rG m=3 from by exact bad 3 au (by unfold xZ;rw[aB g1,aB g2,aB g3,aG g4])];rfl);exact ZJ};have g4:¬Dy x.fail=false:=(by simpa using g4);refine ZW ?_;refine .zW cr ?_;constructor<;>intro g5;{have g5:Dy x.repair=false:=(by simpa using g5);obtain rfl:R=.uY 49 (.int .i64 3):=(by rw[hR,show rG m=3 from by exact bad 3 au (by unfold xZ;rw[aB g1,aB g2,aB g3,aB g4,aG g5])];rfl);exact ZJ};have g5:¬Dy x.repair=false:=(by simpa using g5);refine ZS ?_ ?_<;>intro g6;{obtain rfl:R=.uY 49 (.int .i64 3):=(by rw[hR,show rG m=3 from by exact bad 3 au (by unfold xZ;rw[aB g1,aB g2,aB g3,aB g4,aB g5,aG g6])];rfl);exact ZJ};refine ZS ?_ ?_<;>intro g7;{obtain rfl:R=.uY 49 (.int .i64 3):=(by rw[hR,show rG m=3 from by exact bad 3 au (by unfold xZ;rw[aB g1,aB g2,aB g3,aB g4,aB g5,aB g6,aG g7])];rfl);exact ZJ};refine ZW ?_;refine ZG ?_;refine⟨i+1,?_,?_,?_⟩;{exact⟨hlt,by rw[hn,aB (by rw[show xZ m i x=0 from by unfold xZ;rw[aB g1,aB g2,aB g3,aB g4,aB g5,aB g6,aB g7]];simp)]⟩};{exact Zv wk wk};omega};have hil:i=m.evs.length:=(by have:¬i<m.evs.length:=(by simpa using h);omega);rw[Ak aj]at hn;clear h;subst hil;have e1:¬wW (xZ m) 0 m.evs≠0:=(by rw[hn];simp);refine ZS ?_ ?_<;>intro h2;{have h2:16<m.hs.length:=(by simp only[aC]at h2;omega);obtain rfl:R=.uY 49 (.int .i64 4):=(by rw[hR,show rG m=4 from by unfold rG;rw[aB h1,aB e1,aG h2]];rfl);exact ZJ};have h2:¬16<m.hs.length:=(by simp only[aC]at h2;omega);clear hn hi;refine ZW ?_;refine qW.of <| qN.inv (.refl _ _) (fun(i:Nat)=>i<=m.hs.length/\wW (BR m) 0 m.hs=wW (BR m) i (m.hs.drop i)) (fun(i:Nat)=>[(71,.int .i64 i)]) (λ_=>_) (fun(i:Nat)=>m.hs.length-i) 0 ?_ (λ_=>rfl) ?_ ?_;{exact⟨aP _,rfl⟩};{exact wk};rintro i ⟨hi,hn⟩ _;refine ZS ?_ ?_<;>intro h;{have hlt:i<m.hs.length:=(by simpa using h);rw[zy hlt]at hn;have bad:∀e:Int,e≠0->BR m i m.hs[i]=e->rG m=e:=(by intro e he h;unfold rG;rw[h,aG he]at hn;rw[aB h1,aB e1,aB h2,hn]);refine ZW ?_;refine sH hlt ?_;generalize m.hs[i]=x at *;refine ZW ?_;refine .zW (Bh x.name) ?_;constructor<;>intro g1;{have g1:sV x.name=false:=(by simpa using g1);obtain rfl:R=.uY 49 (.int .i64 5):=(by rw[hR,show rG m=5 from by exact bad 5 au (by unfold BR;rw[aG g1])];rfl);exact ZJ};have g1:¬sV x.name=false:=(by simpa using g1);refine ZW ?_;refine .zW (ce x.name) ?_;constructor<;>intro g2;{obtain rfl:R=.uY 49 (.int .i64 6):=(by rw[hR,show rG m=6 from by exact bad 6 au (by unfold BR;rw[aB g1,aG g2])];rfl);exact ZJ};refine ZW ?_;refine .zW (ch x.name) ?_;constructor<;>intro g3;{obtain rfl:R=.uY 49 (.int .i64 6):=(by rw[hR,show rG m=6 from by exact bad 6 au (by unfold BR;rw[aB g1,aB g2,aG g3])];rfl);exact ZJ};refine ZW ?_;refine ZG ?_;refine⟨i+1,?_,?_,?_⟩;{exact⟨hlt,by rw[hn,aB (by rw[show BR m i x=0 from by unfold BR;rw[aB g1,aB g2,aB g3]];simp)]⟩};{exact Zv wk wk};omega};have hil:i=m.hs.length:=(by have:¬i<m.hs.length:=(by simpa using h);omega);rw[Ak aj]at hn;obtain rfl:R=.vK:=(by rw[hR,show rG m=0 from by unfold rG;rw[aB h1,aB e1,aB h2,hn]];rfl);exact ZJ
structure KI(m:Md):Prop where
 evs:m.evs.length<=60
 hs:m.hs.length<=60
 gates:m.gates.length<=100/\∀x∈m.gates,x.ins.length<=40
 pages:m.pages.length<=30
 GI:∀p∈m.pages,p.gates.length<=100/\∀x∈p.gates,x.ins.length<=40
 y8:m.y8.length<=30
 mem:∀g∈m.y8,g.mem.length<=60/\g.BX.length<=60
 zS:m.zS.length<=30
 vals:∀p∈m.zS,p.vals.length<=60
def JC(m:Md):Nat:=m.pages.foldl (λn x=>n+x.gates.length) m.gates.length
theorem Vz:∀(l:List Pg) (n:Nat),(∀p∈l,p.gates.length<=100)->l.foldl (λn x=>n+x.gates.length) n<=n+100*l.length
 | [],n,_=>ak
 |p::l,n,h=>by have h1:=h p ak;have h2:=Vz l (n+p.gates.length) λq hq=>h q (by simp[hq]);simp only[fA,dY];omega
def GK(m:Md)(i:Nat)(x:Pg):Int:=if sV x.name=false then 5 else if tq m.pages x.name<i then 6 else 0
def uP(m:Md):Int:=if 8<m.pages.length then 4 else if 64<JC m then 4 else wW (GK m) 0 m.pages
theorem a0G(m:Md)(hB:KI m)(R:AV)(hR:R=zh (uP m)):ZQ 76 [m.av] [] R []:=by
 have cp:=λs=>a7m m s;have hpl:=hB.pages;have hgl:=hB.gates.1;refine ZN Tryz.func76 λhok=>?_;refine qW.of <| qN.inv (.refl _ _) (fun(i:Nat)=>i<=m.pages.length) (fun(i:Nat)=>[(14,.int .i64 i),(3,.int .i64 ((m.pages.take i).foldl (λn x=>n+x.gates.length) m.gates.length:Nat))]) (λ_=>_) (fun(i:Nat)=>m.pages.length-i) 0 ?_ (λ_=>rfl) ?_ ?_;{exact aP _}
 ·repeat' first|exact Zq|apply aI
  simp
 rintro i hi _;refine ZS ?_ ?_<;>intro h
 ·have hlt:i<m.pages.length:=(by simpa using h);have hs:=JO (f:=fun(n:Nat) (x:Pg)=>n+x.gates.length) (s:=m.gates.length) hlt;have hb:=Vz (m.pages.take i) m.gates.length λp hp=>(hB.GI p (kD hp)).1;rw[dh]at hb;have hx:=(hB.GI _ (aN hlt)).1;generalize (m.pages.take i).foldl (λn x=>n+x.gates.length) m.gates.length=y at *;refine ZW ?_;refine sH hlt ?_;generalize m.pages[i]=x at *;refine ZW ?_;refine⟨rW aA aA,ZW ?_⟩;refine ZG ?_;refine⟨i+1,?_,?_,?_⟩;{exact hlt}
  ·rw[hs];refine Zv ?_ ?_
   ·repeat' first|exact Zq|apply aI
    simp
   exact wk
  omega
 have hil:i=m.pages.length:=(by have:¬i<m.pages.length:=(by simpa using h);omega);subst hil;rw[bn,show m.pages.foldl (λn x=>n+x.gates.length) m.gates.length=JC m from rfl];refine ZS ?_ ?_<;>intro h1;{have h1:8<m.pages.length:=(by simp only[aC]at h1;omega);obtain rfl:R=.uY 49 (.int .i64 4):=(by rw[hR,show uP m=4 from by unfold uP;rw[aG h1]];rfl);exact ZJ};have h1:¬8<m.pages.length:=(by simp only[aC]at h1;omega);refine ZS ?_ ?_<;>intro h2;{have h2:64<JC m:=aj;obtain rfl:R=.uY 49 (.int .i64 4):=(by rw[hR,show uP m=4 from by unfold uP;rw[aB h1,aG h2]];rfl);exact ZJ};have h2:¬64<JC m:=aj;clear hi h;refine ZW ?_;refine qW.of <| qN.inv (.refl _ _) (fun(i:Nat)=>i<=m.pages.length/\wW (GK m) 0 m.pages=wW (GK m) i (m.pages.drop i)) (fun(i:Nat)=>[(36,.int .i64 i)]) (λ_=>_) (fun(i:Nat)=>m.pages.length-i) 0 ?_ (λ_=>rfl) ?_ ?_;{exact⟨aP _,rfl⟩};{exact wk};rintro i ⟨hi,hn⟩ _;refine ZS ?_ ?_<;>intro h;{have hlt:i<m.pages.length:=(by simpa using h);rw[zy hlt]at hn;have bad:∀e:Int,e≠0->GK m i m.pages[i]=e->uP m=e:=(by intro e he h;unfold uP;rw[h,aG he]at hn;rw[aB h1,aB h2,hn]);refine ZW ?_;refine sH hlt ?_;generalize m.pages[i]=x at *;refine ZW ?_;refine .zW (Bh x.name) ?_;constructor<;>intro g1;{have g1:sV x.name=false:=(by simpa using g1);obtain rfl:R=.uY 49 (.int .i64 5):=(by rw[hR,show uP m=5 from by exact bad 5 au (by unfold GK;rw[aG g1])];rfl);exact ZJ};have g1:¬sV x.name=false:=(by simpa using g1);refine ZW ?_;refine .zW (cp x.name) ?_;constructor<;>intro g2;{obtain rfl:R=.uY 49 (.int .i64 6):=(by rw[hR,show uP m=6 from by exact bad 6 au (by unfold GK;rw[aB g1,aG g2])];rfl);exact ZJ};refine ZW ?_;refine ZG ?_;refine⟨i+1,?_,?_,?_⟩;{exact⟨hlt,by rw[hn,aB (by rw[show GK m i x=0 from by unfold GK;rw[aB g1,aB g2]];simp)]⟩};{exact Zv wk wk};omega};have hil:i=m.pages.length:=(by have:¬i<m.pages.length:=(by simpa using h);omega);rw[Ak aj]at hn;obtain rfl:R=.vK:=(by rw[hR,show uP m=0 from by unfold uP;rw[aB h1,aB h2,hn]];rfl);exact ZJ
theorem a7p(kind n:Int):ZQ 212 [.int .i64 kind,.int .i64 n] [] (.bool (Jr kind n)) []:=by
 refine ZN Tryz.func212 λhok=>?_
 (repeat' (first|(refine aI (λ_=>?_) (λ_=>?_)<;>(conv=>whnf))|(refine xG.auto (by kernel_rfl) ?_;(conv=>whnf))|(refine fM ?_;(conv=>whnf);refine⟨?_,rfl⟩;(conv=>whnf))|(refine aI (rW aj aj) ?_;(conv=>whnf))|(refine aI au ?_;(conv=>whnf))))
 all_goals first|(simp_all [Jr];done)|(simp_all [Jr];omega)
theorem a7o(r:Rat):ZQ 213 [r.av] [] (.bool (FK r)) []:=by
 refine ZN Tryz.func213 λhok=>?_;constructor<;>intro h;all_goals
  refine ZW ?_
  (repeat' (first|(refine aI (λ_=>?_) (λ_=>?_)<;>(conv=>whnf))|(refine xG.auto (by kernel_rfl) ?_;(conv=>whnf))|(refine fM ?_;(conv=>whnf);refine⟨?_,rfl⟩;(conv=>whnf))|(refine aI (rW aj aj) ?_;(conv=>whnf))|(refine aI au ?_;(conv=>whnf))))
 all_goals (simp_all [FK];done)
def uQ(g:Mg):Int :=
 if g.kind<0 then 7 else if 8<g.kind then 7
 else if Jr g.kind g.ins.length=false then 11
 else if g.kind=2/\(g.k<1\/(g.ins.length:Int)<g.k)then 3
 else if g.kind≠2/\g.k≠0 then 2
 else if g.kind=7/\yK g.zi=false then 3
 else if g.kind≠7/\FK g.zi=false then 2
 else 0
theorem a0A(g:Mg)(hr:Px g.zi)(R:AV)(hR:R=zh (uQ g)):ZQ 142 [g.av] [] R []:=by
 have ca:=a7p g.kind g.ins.length;refine ZN Tryz.func142 λhok=>?_;constructor<;>intro n1;{obtain rfl:R=.uY 49 (.int .i64 7):=(by rw[hR,show uQ g=7 from by unfold uQ;rw[aG n1]];rfl);exact ZJ};refine ZS ?_ ?_<;>intro n2;{obtain rfl:R=.uY 49 (.int .i64 7):=(by rw[hR,show uQ g=7 from by unfold uQ;rw[aB n1,aG n2]];rfl);exact ZJ};refine ZW ?_;refine .pure _ _ ?_ ⟨rfl,rfl⟩ ca λ_=>?_
 ·repeat' first|exact Zq|apply aI
  simp
 refine ZS ?_ ?_<;>intro n3;{have n3:Jr g.kind g.ins.length=false:=(by simpa using n3);obtain rfl:R=.uY 49 (.int .i64 11):=(by rw[hR,show uQ g=11 from by unfold uQ;rw[aB n1,aB n2,aG n3]];rfl);exact ZJ};have n3:¬Jr g.kind g.ins.length=false:=(by simpa using n3);refine ZS ?_ ?_<;>intro k2;{have n5:¬(g.kind≠2/\g.k≠0):=λh=>h.1 k2;refine ZS ?_ ?_<;>intro kk;{obtain rfl:R=.uY 49 (.int .i64 3):=(by rw[hR,show uQ g=3 from by unfold uQ;rw[aB n1,aB n2,aB n3,aG ⟨k2,.inl kk⟩]];rfl);exact ZJ};refine ZS ?_ ?_<;>intro kl;{have kl:(g.ins.length:Int)<g.k:=(by simpa using kl);obtain rfl:R=.uY 49 (.int .i64 3):=(by rw[hR,show uQ g=3 from by unfold uQ;rw[aB n1,aB n2,aB n3,aG ⟨k2,.inr kl⟩]];rfl);exact ZJ};have kl:¬(g.ins.length:Int)<g.k:=(by simpa using kl);have n4:¬(g.kind=2/\(g.k<1\/(g.ins.length:Int)<g.k)):=aj;refine ZS ?_ ?_<;>intro k7;{refine ZW ?_;refine .zW hr.p ?_;constructor<;>intro kp;{have kp:yK g.zi=false:=(by simpa using kp);obtain rfl:R=.uY 49 (.int .i64 3):=(by rw[hR,show uQ g=3 from by unfold uQ;rw[aB n1,aB n2,aB n3,aB n4,aB n5,aG ⟨k7,kp⟩]];rfl);exact ZJ};have kp:yK g.zi=true:=(by simpa using kp);obtain rfl:R=.vK:=(by rw[hR,show uQ g=0 from by unfold uQ;rw[aB n1,aB n2,aB n3,aB n4,aB n5,aB (λh=>by rw[kp]at h;cases h.2),aB (λh=>h.1 k7)]];rfl);exact ZJ};refine ZW ?_;refine .zW (a7o g.zi) ?_;constructor<;>intro kz;{have kz:FK g.zi=false:=(by simpa using kz);obtain rfl:R=.uY 49 (.int .i64 2):=(by rw[hR,show uQ g=2 from by unfold uQ;rw[aB n1,aB n2,aB n3,aB n4,aB n5,aB (λh=>k7 h.1),aG ⟨k7,kz⟩]];rfl);exact ZJ};have kz:FK g.zi=true:=(by simpa using kz);obtain rfl:R=.vK:=(by rw[hR,show uQ g=0 from by unfold uQ;rw[aB n1,aB n2,aB n3,aB n4,aB n5,aB (λh=>k7 h.1),aB (λh=>by rw[kz]at h;cases h.2)]];rfl);exact ZJ};have n4:¬(g.kind=2/\(g.k<1\/(g.ins.length:Int)<g.k)):=aj;refine ZS ?_ ?_<;>intro kk;{obtain rfl:R=.uY 49 (.int .i64 2):=(by rw[hR,show uQ g=2 from by unfold uQ;rw[aB n1,aB n2,aB n3,aB n4,aG ⟨k2,kk⟩]];rfl);exact ZJ};have n5:¬(g.kind≠2/\g.k≠0):=λh=>kk h.2;refine ZS ?_ ?_<;>intro k7;{refine ZW ?_;refine .zW hr.p ?_;constructor<;>intro kp;{have kp:yK g.zi=false:=(by simpa using kp);obtain rfl:R=.uY 49 (.int .i64 3):=(by rw[hR,show uQ g=3 from by unfold uQ;rw[aB n1,aB n2,aB n3,aB n4,aB n5,aG ⟨k7,kp⟩]];rfl);exact ZJ};have kp:yK g.zi=true:=(by simpa using kp);obtain rfl:R=.vK:=(by rw[hR,show uQ g=0 from by unfold uQ;rw[aB n1,aB n2,aB n3,aB n4,aB n5,aB (λh=>by rw[kp]at h;cases h.2),aB (λh=>h.1 k7)]];rfl);exact ZJ};refine ZW ?_;refine .zW (a7o g.zi) ?_;constructor<;>intro kz;{have kz:FK g.zi=false:=(by simpa using kz);obtain rfl:R=.uY 49 (.int .i64 2):=(by rw[hR,show uQ g=2 from by unfold uQ;rw[aB n1,aB n2,aB n3,aB n4,aB n5,aB (λh=>k7 h.1),aG ⟨k7,kz⟩]];rfl);exact ZJ};have kz:FK g.zi=true:=(by simpa using kz);obtain rfl:R=.vK:=(by rw[hR,show uQ g=0 from by unfold uQ;rw[aB n1,aB n2,aB n3,aB n4,aB n5,aB (λh=>k7 h.1),aB (λh=>by rw[kz]at h;cases h.2)]];rfl);exact ZJ
def uU(m:Md)(a:Int)(i:Nat)(x:Mg):Int :=
 if sV x.name=false then 5 else if 0<=rM m.evs x.name then 6 else if 0<=tN m.hs x.name then 6 else if tX (qO m a) x.name<i then 6 else uQ x
theorem a0H(m:Md)(a:Int)(ha:a = -1\/(0<=a/\a<(m.pages.length:Int)))(hC:mgC (qO m a))(R:AV)(hR:R=zh (wW (uU m a) 0 (qO m a))):ZQ 77 [m.av,.int .i64 a] [] R []:=by have ce:=λs=>Iq m s;have ch:=λs=>UU m s;have cg:=λs=>a3n (qO m a) s;have cG:=Gv m a ha;have hgm:∀i x,uU m a i x=if sV x.name=false then 5 else if 0<=rM m.evs x.name then 6 else if 0<=tN m.hs x.name then 6 else if tX (qO m a) x.name<i then 6 else uQ x:=λ_ _=>rfl;generalize uU m a=F at *;generalize qO m a=l at *;refine ZN Tryz.func77 λhok=>?_;refine .zP cG λb2D=>?_;have hll:l.length<=9223372036854775807:=(by have:=b2D.1;simpa[maxL]using this);refine ZW ?_;refine qW.of <| qN.inv (.refl _ _) (fun(i:Nat)=>i<=l.length/\wW F 0 l=wW F i (l.drop i)) (fun(i:Nat)=>[(14,.int .i64 i)]) (λ_=>_) (fun(i:Nat)=>l.length-i) 0 ?_ (λ_=>rfl) ?_ ?_;{exact⟨aP _,rfl⟩};{exact wk};rintro i ⟨hi,hn⟩ _;refine ZS ?_ ?_<;>intro h;{have hlt:i<l.length:=(by simpa using h);have hr:=hC _ (aN hlt);have hgx:=hgm i l[i];rw[zy hlt]at hn;have bad:∀e:Int,e≠0->F i l[i]=e->wW F 0 l=e:=(by intro e he h;rw[h,aG he]at hn;rw[hn]);refine ZW ?_;refine sH hlt ?_;generalize l[i]=x at *;refine ZW ?_;refine .zW (Bh x.name) ?_;constructor<;>intro g1;{have g1:sV x.name=false:=(by simpa using g1);obtain rfl:R=.uY 49 (.int .i64 5):=(by rw[hR,show wW F 0 l=5 from by exact bad 5 au (by rw[hgx,aG g1])];rfl);exact ZJ};have g1:¬sV x.name=false:=(by simpa using g1);refine ZW ?_;refine .zW (ce x.name) ?_;constructor<;>intro g2;{obtain rfl:R=.uY 49 (.int .i64 6):=(by rw[hR,show wW F 0 l=6 from by exact bad 6 au (by rw[hgx,aB g1,aG g2])];rfl);exact ZJ};refine ZW ?_;refine .zW (ch x.name) ?_;constructor<;>intro g3;{obtain rfl:R=.uY 49 (.int .i64 6):=(by rw[hR,show wW F 0 l=6 from by exact bad 6 au (by rw[hgx,aB g1,aB g2,aG g3])];rfl);exact ZJ};refine ZW ?_;refine .zW (cg x.name) ?_;constructor<;>intro g4;{obtain rfl:R=.uY 49 (.int .i64 6):=(by rw[hR,show wW F 0 l=6 from by exact bad 6 au (by rw[hgx,aB g1,aB g2,aB g3,aG g4])];rfl);exact ZJ};rw[aB g1,aB g2,aB g3,aB g4]at hgx;have cm:=a0A x hr _ rfl;by_cases g5:uQ x≠0;{rw[rY g5]at cm;rw[bad _ g5 hgx,rY g5]at hR;subst hR;refine ZW ?_;refine .zW cm ?_;exact ZH};have g5:uQ x=0:=(by simpa using g5);rw[g5,rZ]at cm;rw[g5]at hgx;refine ZW ?_;refine .zW cm ?_;refine ZG ?_;refine⟨i+1,?_,?_,?_⟩;{exact⟨hlt,by rw[hn,aB (by rw[show F i x=0 from by exact hgx];simp)]⟩};{exact Zv wk wk};omega};have hil:i=l.length:=(by have:¬i<l.length:=(by simpa using h);omega);rw[Ak aj]at hn;obtain rfl:R=.vK:=(by rw[hR,hn];rfl);exact ZJ
def Eh(g:Mg)(k:Int):Bool:=decide (g.kind=7)||(decide (g.kind=8)&&decide (0<k))
theorem YT(g:Mg)(k:Int):ZQ 143 [g.av,.int .i64 k] [] (.bool (Eh g k)) []:=by refine ZN Tryz.func143 λhok=>?_;constructor<;>intro h;{refine ZW ?_;refine ZF ?_;simp[Eh,h]};refine ZS ?_ ?_<;>intro h8;{refine ZW ?_;refine ZF ?_;simp[Eh,h8]};refine ZW ?_;refine ZF ?_;simp[Eh,h,h8]
theorem XP(l:List Str)(x:Str):ZQ 91 [sL l,.str x] [] (.int .i64 (yJ (λy=>decide (x=y)) l)) []:=by refine ZI Tryz.func91 λhok=>?_;have hl:l.length<=9223372036854775807:=(by have:=hok.1.1;simpa[maxL]using this);refine Z0 ?_;refine qW.of <| qN.inv (.refl _ _) (fun(i:Nat)=>i<=l.length/\∀(j:Nat) (hj:j<l.length),j<i->(λy=>decide (x=y)) l[j]=false) (fun(i:Nat)=>[(8,.int .i64 i)]) (λ_=>_) (fun(i:Nat)=>l.length-i) 0 ?_ (λ_=>rfl) ?_ ?_;{exact⟨aP _,aj⟩};{exact wk};rintro i ⟨hi,hn⟩ _;refine ZS ?_ ?_<;>intro h;{have hlt:i<l.length:=(by simpa using h);refine ZW ?_;refine sH hlt ?_;refine ZS ?_ ?_<;>intro h;{refine ZW ?_;refine ZF ?_;exact⟨rfl,(wU hlt (by simpa using h) λj hj=>hn j aj hj).symm⟩};refine ZW ?_;refine ZG ?_;refine⟨i+1,?_,?_,?_⟩;{refine⟨hlt,λj hj hji=>?_⟩;by_cases Lj:j=i;{subst Lj;simpa using h};exact hn j hj aj};{exact wk};omega};have hlt:i=l.length:=(by have:¬i<l.length:=(by simpa using h);omega);subst hlt;refine ZW ?_;refine ZF ?_;exact⟨rfl,(yA λj hj=>hn j hj hj).symm⟩
theorem EG(l:List Str)(x:Str):ZQ 144 [sL l,.str x] [] (.bool (l.any λy=>decide (x=y))) []:=by refine ZN Tryz.func144 λhok=>?_;refine .zW (XP l x) ?_;refine ZF ?_;exact Lh _ l
def zn(m:Md)(a:Int)(g:Mg):Nat->List Str->List Str->Int×List Str
 |_,[],sp=>(0,sp)
 | k,s::l,sp=>if uZ m a s=false then(5,[])else if Eh g k=true/\rM m.evs s<0 then(7,[])
   else if g.kind=7 then(if(sp.any λy=>decide (s=y))=true then(6,[])else zn m a g (k+1) l (sp++[s]))else zn m a g (k+1) l sp
def vI(m:Md)(a:Int):List Mg->List Str->Int×List Str
 | [],sp=>(0,sp)
 |g::l,sp=>if(zn m a g 0 g.ins sp).1≠0 then zn m a g 0 g.ins sp else vI m a l (zn m a g 0 g.ins sp).2
def sG(m:Md)(a:Int):Str:=(m.pages.getD a.toNat default).top
def yQ(m:Md)(a:Int)(sp:List Str):Int×List Str :=
 if(vI m a (qO m a) sp).1≠0 then vI m a (qO m a) sp
 else if a ≠ -1/\tX (qO m a) (sG m a)<0/\rM m.evs (sG m a)<0 then(5,[])else vI m a (qO m a) sp
theorem OM{m:Md}{a:Int}{g:Mg}:∀{l:List Str} {k:Nat} {sp:List Str},(zn m a g k l sp).2.length<=sp.length+l.length
 | [],k,sp=>by simp[zn]
 |s::l,k,sp=>by simp only[zn];split;{simp};split;{simp};split;{split;{simp};have:=OM (m:=m) (a:=a) (g:=g) (l:=l) (k:=k+1) (sp:=sp++[s]);simp only[bC,dY,jh]at this ⊢;omega};have:=OM (m:=m) (a:=a) (g:=g) (l:=l) (k:=k+1) (sp:=sp);simp only[dY];omega
theorem YW(m:Md)(a:Int)(sp:List Str)(ha:a = -1\/(0<=a/\a<(m.pages.length:Int)))(hB:(qO m a).length<=100/\∀x∈qO m a,x.ins.length<=40)(hsp:sp.length<=1000000)(R:AV)(G:Heap)
  (hR:R=if(yQ m a sp).1=0 then .uy [.sl 1 ((yQ m a sp).2.map .str) (.own 0),.vK]else .uy [.qV,.uY 49 (.int .i64 (yQ m a sp).1)])
  (hG:G=if(yQ m a sp).1=0 then[(0,.tok 1 (yQ m a sp).2.length)]else[(0,.gone)]) :
  ZQ 78 [m.av,.int .i64 a,.sl 1 (sp.map .str) (.own 0)] [(0,.tok 1 sp.length)] R G:=by
 have ce:=λs=>Iq m s;have cg:=λs=>a3n (qO m a) s;have cG:=Gv m a ha;have ci:=λs=>Ns m a s ha;have err:∀e:Int,e≠0->(yQ m a sp).1=e->R=.uy [.qV,.uY 49 (.int .i64 e)]/\G=[(0,.gone)]:=(by intro e h0 he;rw[hR,hG,he,aB h0,aB h0];exact⟨rfl,rfl⟩);have hpi:yQ m a sp=if(vI m a (qO m a) sp).1≠0 then vI m a (qO m a) sp
  else if a ≠ -1/\tX (qO m a) (sG m a)<0/\rM m.evs (sG m a)<0 then(5,[])else vI m a (qO m a) sp:=rfl
 have hgl:a ≠ -1->qO m a=(m.pages.getD a.toNat default).gates:=λh=>aB h;refine ZN Tryz.func78 λhok=>?_;refine .zP cG λb2D=>?_;generalize hgs:qO m a=gs at *;refine ZW ?_;refine qW.of <| qN.inv (.refl _ _) (fun(s:Nat×List Str)=>s.1<=gs.length/\vI m a gs sp=vI m a (gs.drop s.1) s.2/\s.2.length<=sp.length+40*s.1)
  (λs=>[(17,.int .i64 s.1),(2,.sl 1 (s.2.map .str) (.own 0))]) (λs=>[(1,.box m.av),(0,.tok 1 s.2.length)]) (λs=>gs.length-s.1) (0,sp) ?_ (λ_=>rfl) ?_ ?_
 ·exact⟨aP _,rfl,ak⟩
 ·exact Zv wk wk
 rintro⟨i,s1⟩ ⟨hi,hn,hs1⟩ _;dsimp only at hi hn hs1;refine ZS ?_ ?_<;>intro h
 ·have hlt:i<gs.length:=(by simpa using h);have hxi:=hB.2 _ (aN hlt);rw[aZ hlt]at hn;simp only[vI]at hn;have bad:∀e:Int,e≠0->(zn m a gs[i] 0 (gs[i]).ins s1).1=e->(yQ m a sp).1=e:=(by intro e he h;rw[h,aG he]at hn;rw[hpi,hn,h,aG he,h]);refine ZW ?_;refine sH hlt ?_;generalize gs[i]=g at *;have cm:=λk=>YT g k;refine ZW ?_;refine qW.of <| qN.inv (.refl _ _) (fun(s:Nat×List Str)=>s.1<=g.ins.length/\zn m a g 0 g.ins s1=zn m a g s.1 (g.ins.drop s.1) s.2/\s.2.length<=s1.length+s.1)
   (λs=>[(24,.int .i64 s.1),(2,.sl 1 (s.2.map .str) (.own 0))]) (λs=>[(2,.box g.av),(1,.box m.av),(0,.tok 1 s.2.length)]) (λs=>g.ins.length-s.1) (0,s1) ?_ (λ_=>rfl) ?_ ?_
  ·exact⟨aP _,rfl,ak⟩
  ·exact Zv wk wk
  rintro⟨j,s2⟩ ⟨hj,tC,hs2⟩ _;dsimp only at hj tC hs2;refine ZS ?_ ?_<;>intro hh
  ·have hjl:j<g.ins.length:=(by simpa using hh);rw[aZ hjl]at tC;simp only[zn]at tC;refine ZW ?_;refine sH hjl ?_;generalize g.ins[j]=x at *;refine ZW ?_;refine .zW (ci x) ?_;constructor<;>intro g1
   ·have g1:uZ m a x=false:=(by simpa using g1);obtain⟨rfl,rfl⟩:=err 5 au (bad 5 au (by rw[tC];rw[aG g1]));refine ZW ?_;refine⟨⟨_,_,.refl _ _,?_⟩⟩;conv=>whnf
    exact Zx wk wk
   have g1:¬uZ m a x=false:=(by simpa using g1);refine ZW ?_;refine .zW (cm j) ?_;constructor<;>intro g2
   ·refine ZW ?_;refine .zW (ce x) ?_;constructor<;>intro g4
    ·obtain⟨rfl,rfl⟩:=err 7 au (bad 7 au (by rw[tC];rw[aB g1,aG ⟨g2,g4⟩]));refine ZW ?_;refine⟨⟨_,_,.refl _ _,?_⟩⟩;conv=>whnf
     exact Zx wk wk
    refine ZS ?_ ?_<;>intro k7
    ·refine ZW ?_;refine .zW (EG s2 x) ?_;constructor<;>intro g3
     ·obtain⟨rfl,rfl⟩:=err 6 au (bad 6 au (by rw[tC];rw[aB g1,aB (λh=>g4 h.2),aG k7,aG g3]));refine ZW ?_;refine⟨⟨_,_,.refl _ _,?_⟩⟩;conv=>whnf
      exact Zx wk wk
     have g3:¬(s2.any λy=>decide (x=y))=true:=(by rw[g3];simp);refine ZW ?_;refine⟨by rw[aC],.mk (by simp[maxL];omega) aA (ZW ?_)⟩;refine ZG ?_;refine⟨(j+1,s2++[x]),?_,?_,?_⟩;{exact⟨hjl,by rw[tC];rw[aB g1,aB (λh=>g4 h.2),aG k7,aB g3],by first|(show s2.length<=s1.length+(j+1);omega)|(show(s2++[x]).length<=s1.length+(j+1);simp;omega)⟩}
     ·refine Zv ?_ ?_
      ·repeat' first|exact Zq|apply aI
       all_goals first|(refine qY ?_;simp[strip];done)|(simp;done)|(simp;omega)
      repeat' first|exact Zq|apply aI
      all_goals first|(refine qY ?_;simp[strip];done)|(simp;done)|(simp;omega)
     show g.ins.length-(j+1)<g.ins.length-j;omega
    refine ZW ?_;refine ZG ?_;refine⟨(j+1,s2),?_,?_,?_⟩;{exact⟨hjl,by rw[tC];rw[aB g1,aB (λh=>g4 h.2),aB k7],by first|(show s2.length<=s1.length+(j+1);omega)|(show(s2++[x]).length<=s1.length+(j+1);simp;omega)⟩}
    ·refine Zv ?_ ?_
     ·repeat' first|exact Zq|apply aI
      all_goals first|(refine qY ?_;simp[strip];done)|(simp;done)|(simp;omega)
     repeat' first|exact Zq|apply aI
     all_goals first|(refine qY ?_;simp[strip];done)|(simp;done)|(simp;omega)
    show g.ins.length-(j+1)<g.ins.length-j;omega
   refine ZS ?_ ?_<;>intro k7
   ·refine ZW ?_;refine .zW (EG s2 x) ?_;constructor<;>intro g3
    ·obtain⟨rfl,rfl⟩:=err 6 au (bad 6 au (by rw[tC];rw[aB g1,aB (λh=>by rw[g2]at h;cases h.1),aG k7,aG g3]));refine ZW ?_;refine⟨⟨_,_,.refl _ _,?_⟩⟩;conv=>whnf
     exact Zx wk wk
    have g3:¬(s2.any λy=>decide (x=y))=true:=(by rw[g3];simp);refine ZW ?_;refine⟨by rw[aC],.mk (by simp[maxL];omega) aA (ZW ?_)⟩;refine ZG ?_;refine⟨(j+1,s2++[x]),?_,?_,?_⟩;{exact⟨hjl,by rw[tC];rw[aB g1,aB (λh=>by rw[g2]at h;cases h.1),aG k7,aB g3],by first|(show s2.length<=s1.length+(j+1);omega)|(show(s2++[x]).length<=s1.length+(j+1);simp;omega)⟩}
    ·refine Zv ?_ ?_
     ·repeat' first|exact Zq|apply aI
      all_goals first|(refine qY ?_;simp[strip];done)|(simp;done)|(simp;omega)
     repeat' first|exact Zq|apply aI
     all_goals first|(refine qY ?_;simp[strip];done)|(simp;done)|(simp;omega)
    show g.ins.length-(j+1)<g.ins.length-j;omega
   refine ZW ?_;refine ZG ?_;refine⟨(j+1,s2),?_,?_,?_⟩;{exact⟨hjl,by rw[tC];rw[aB g1,aB (λh=>by rw[g2]at h;cases h.1),aB k7],by first|(show s2.length<=s1.length+(j+1);omega)|(show(s2++[x]).length<=s1.length+(j+1);simp;omega)⟩}
   ·refine Zv ?_ ?_
    ·repeat' first|exact Zq|apply aI
     all_goals first|(refine qY ?_;simp[strip];done)|(simp;done)|(simp;omega)
    repeat' first|exact Zq|apply aI
    all_goals first|(refine qY ?_;simp[strip];done)|(simp;done)|(simp;omega)
   show g.ins.length-(j+1)<g.ins.length-j;omega
  have hjl:j=g.ins.length:=(by have:¬j<g.ins.length:=(by simpa using hh);omega);subst hjl;rw[iU]at tC;simp only[zn]at tC;rw[tC]at hn;refine ZW ?_;refine ZG ?_;refine⟨(i+1,s2),?_,?_,?_⟩;{exact⟨hlt,hn,by show s2.length<=sp.length+40*(i+1);omega⟩};{exact Zv wk wk};show gs.length-(i+1)<gs.length-i;omega
 have hil:i=gs.length:=(by have:¬i<gs.length:=(by simpa using h);omega);rw[aX aj]at hn;simp only[vI]at hn;clear h;rw[hn]at hpi;rw[aB ak]at hpi;refine ZS ?_ ?_<;>intro a1
 ·have hb:0<=a/\a<(m.pages.length:Int):=aj;have hgl:=hgl a1;have hpt:(m.pages.getD a.toNat default).top=sG m a:=rfl;generalize hpg:m.pages.getD a.toNat default=pg at *;refine ZW ?_;refine ug default hb ?_;rw[hpg];refine ZW ?_;refine ug default hb ?_;rw[hpg];refine ZW ?_;rw[<- hgl,hpt];refine .zW (cg (sG m a)) ?_;constructor<;>intro g1
  ·refine ZW ?_;refine .zW (ce (sG m a)) ?_;constructor<;>intro g2
   ·obtain⟨rfl,rfl⟩:=err 5 au (by rw[hpi,aG ⟨a1,g1,g2⟩]);refine ZW ?_;refine⟨⟨_,_,.refl _ _,?_⟩⟩;conv=>whnf
    exact Zx wk wk
   rw[aB (λh=>g2 h.2.2)]at hpi;rw[hpi,aG rfl]at hR hG;subst hR;subst hG;refine ZW ?_;refine⟨⟨_,_,.refl _ _,?_⟩⟩;conv=>whnf
   exact Zx wk wk
  rw[aB (λh=>g1 h.2.1)]at hpi;rw[hpi,aG rfl]at hR hG;subst hR;subst hG;refine ZW ?_;refine⟨⟨_,_,.refl _ _,?_⟩⟩;conv=>whnf
  exact Zx wk wk
 rw[aB (λh=>a1 h.1)]at hpi;rw[hpi,aG rfl]at hR hG;subst hR;subst hG;refine ZW ?_;refine⟨⟨_,_,.refl _ _,?_⟩⟩;conv=>whnf
 exact Zx wk wk
theorem a7r(l:List Rat)(g:Nat)(cap:List AV)(p:Rat->Bool)(H:Heap)(hg:∀x∈l,ZQ g (x.av::cap) H (.bool (p x)) H) :
  ZQ 194 [.sl 3 (l.map Rat.av) .no,.fn g cap] H (.int .i64 (yJ p l)) H:=by
 refine ZI Tryz.func194 λhok=>?_;have hl:l.length<=9223372036854775807:=(by have:=hok.1.1;simpa[maxL]using this);refine Z0 ?_;refine qW.of <| qN.inv (.refl _ _) (fun(i:Nat)=>i<=l.length/\∀(j:Nat) (hj:j<l.length),j<i->p l[j]=false) (fun(i:Nat)=>[(8,.int .i64 i)]) (λ_=>_) (fun(i:Nat)=>l.length-i) 0 ?_ (λ_=>rfl) ?_ ?_;{exact⟨aP _,aj⟩};{exact wk};rintro i ⟨hi,hn⟩ _;refine ZS ?_ ?_<;>intro h
 ·have hlt:i<l.length:=(by simpa using h);refine ZW ?_;refine sH hlt (ZW ?_);refine .gen _ _ (hg _ (aN hlt)) λ_=>?_;refine ZS ?_ ?_<;>intro h
  ·refine ZW ?_
   (refine vw.same ?_;(conv=>whnf);refine⟨?_,rfl⟩;(conv=>whnf))
   exact⟨rfl,(wU hlt h λj hj=>hn j aj hj).symm⟩
  refine ZW ?_;refine ZG ?_;refine⟨i+1,?_,?_,?_⟩;{refine⟨hlt,λj hj hji=>?_⟩;by_cases Lj:j=i;{subst Lj;exact h};exact hn j hj aj};{exact wk};omega
 have hlt:i=l.length:=(by have:¬i<l.length:=(by simpa using h);omega);subst hlt;refine ZW ?_
 (refine vw.same ?_;(conv=>whnf);refine⟨?_,rfl⟩;(conv=>whnf))
 exact⟨rfl,(yA λj hj=>hn j hj hj).symm⟩
theorem IQ(l:List Rat)(g:Nat)(cap:List AV)(p:Rat->Bool)(H:Heap)(hg:∀x∈l,ZQ g (x.av::cap) H (.bool (p x)) H) :
  ZQ 124 [.sl 3 (l.map Rat.av) .no,.fn g cap] H (.bool (l.any p)) H:=by
 refine ZN Tryz.func124 λhok=>?_;refine .gen _ _ (a7r l g cap p H hg) λ_=>ZW ?_
 (refine vw.same ?_;(conv=>whnf);refine⟨?_,rfl⟩;(conv=>whnf))
 exact Lh _ l
theorem a0z(x:Rat)(hx:Px x):ZQ 147 [x.av] [] (.bool (!yK x)) []:=by refine ZN Tryz.func147 λhok=>?_;refine .zW hx.p ?_;exact ZH
def vM(m:Md):List Str->List Str->Int×List Str
 | [],sp=>(0,sp)
 |s::l,sp=>if rM m.evs s<0 then(5,[])else if(sp.any λy=>decide (s=y))=true then(6,[])else vM m l (sp++[s])
def yM(m:Md)(i:Nat)(x:Gr)(sp:List Str):Int×List Str :=
 if sV x.name=false then(5,[])else if yJ (λy=>decide (y.name=x.name)) m.y8<i then(6,[])
 else if x.kind≠0/\x.kind≠1 then(7,[])
 else if x.mem.length<2 then(11,[])else if(if x.kind=1 then(4:Int)else 24)<x.mem.length then(11,[])
 else if(x.BX.length:Int)≠(if x.kind=1 then(x.mem.length:Int)-1 else 1)then(11,[])
 else if(vM m x.mem sp).1≠0 then vM m x.mem sp else if(x.BX.any λf=>!yK f)=true then(3,[])else vM m x.mem sp
def DL(m:Md):Nat->List Gr->List Str->Int
 |_,[],_=>0
 |i,x::l,sp=>if(yM m i x sp).1≠0 then(yM m i x sp).1 else DL m (i+1) l (yM m i x sp).2
def vO(m:Md):Int:=if 8<m.y8.length then 4 else DL m 0 m.y8 []
theorem b5N(x y:Gr)(m:Md)(n:Nat):ZQ 146 [y.av,.ptr 2 [] 0] [(2,.box x.av),(1,.tok 1 n),(0,.box m.av)] (.bool (decide (y.name=x.name))) [(2,.box x.av),(1,.tok 1 n),(0,.box m.av)]:=by
 refine ZN Tryz.func146 λhok=>?_;refine⟨⟨_,_,.refl _ _,?_⟩⟩;conv=>whnf
 refine Zx ?_ ?_;{show _↔_;simp};exact wk
theorem YX(m:Md)(hC:MdC m)(hB:KI m)(R:AV)(hR:R=zh (vO m)):ZQ 80 [m.av] [] R []:=by
 have ce:=λs=>Iq m s;have hgl:=hB.y8;refine ZN Tryz.func80 λhok=>?_;constructor<;>intro h1;{have h1:8<m.y8.length:=(by simp only[aC]at h1;omega);obtain rfl:R=.uY 49 (.int .i64 4):=(by rw[hR,show vO m=4 from aG h1];rfl);exact ZJ};have h1:¬8<m.y8.length:=(by simp only[aC]at h1;omega);have hge:vO m=DL m 0 m.y8 []:=aB h1;refine ZW ?_;refine qW.of <| qN.inv (.grow 3 1 [] _ rfl (.inl ⟨rfl,rfl⟩) (.refl _ _)) (fun(s:Nat×List Str)=>s.1<=m.y8.length/\DL m 0 m.y8 []=DL m s.1 (m.y8.drop s.1) s.2/\s.2.length<=60*s.1)
  (λs=>[(18,.int .i64 s.1),(3,.sl 1 (s.2.map .str) (.own 1))]) (λs=>[(1,.tok 1 s.2.length),(0,.box m.av)]) (λs=>m.y8.length-s.1) (0,[]) ?_ (λ_=>rfl) ?_ ?_
 ·exact⟨aP _,rfl,ak⟩
 ·exact Zv wk wk
 rintro⟨i,sp⟩ ⟨hi,hn,hs1⟩ _;dsimp only at hi hn hs1;refine ZS ?_ ?_<;>intro h
 ·have hlt:i<m.y8.length:=(by simpa using h);have hml:=hB.mem _ (aN hlt);have hfc:=hC.y8 _ (aN hlt);rw[aZ hlt]at hn;simp only[DL]at hn;have bad:∀e:Int,e≠0->(yM m i m.y8[i] sp).1=e->vO m=e:=(by intro e he h;rw[h,aG he]at hn;rw[hge,hn]);refine ZW ?_;refine sH hlt ?_;generalize hx0:m.y8[i]=x at *;refine ZW ?_;refine .zW (Bh x.name) ?_;constructor<;>intro g1;{have g1:sV x.name=false:=(by simpa using g1);obtain rfl:R=.uY 49 (.int .i64 5):=(by rw[hR,bad 5 au (by unfold yM;rw[aG g1])];rfl);exact ZJ};have g1:¬sV x.name=false:=(by simpa using g1);refine ZW ?_;refine .gen _ _ (b0d m.y8 146 [.ptr 2 [] 0] (λy=>decide (y.name=x.name)) _ λy _=>b5N x y m sp.length) λ_=>?_;refine ZS ?_ ?_<;>intro g2;{obtain rfl:R=.uY 49 (.int .i64 6):=(by rw[hR,bad 6 au (by unfold yM;rw[aB g1,aG g2])];rfl);exact ZJ};refine ZS ?_ ?_<;>intro k0
  ·refine ZS ?_ ?_<;>intro k1;{obtain rfl:R=.uY 49 (.int .i64 7):=(by rw[hR,bad 7 au (by unfold yM;rw[aB g1,aB g2,aG ⟨k0,k1⟩])];rfl);exact ZJ};have k1:x.kind=1:=aj;have g3:¬(x.kind≠0/\x.kind≠1):=λh=>h.2 k1;refine ZW ?_;refine aQ (λ_=>?_) (λh=>absurd k1 h);refine ZW ?_;refine ZR ?_;refine⟨rW aA aA,?_⟩;rw[show((x.mem.map AV.str).length:Int)=(x.mem.length:Int) by simp];have e1:(if x.kind=1 then(4:Int)else 24)=4:=aG k1;have e2:(if x.kind=1 then(x.mem.length:Int)-1 else 1)=(x.mem.length:Int)-1:=aG k1;refine ZS ?_ ?_<;>intro g4;{have g4:x.mem.length<2:=(by simp only[aC]at g4;omega);obtain rfl:R=.uY 49 (.int .i64 11):=(by rw[hR,bad 11 au (by unfold yM;rw[aB g1,aB g2,aB g3,aG g4])];rfl);exact ZJ};have g4:¬x.mem.length<2:=(by simp only[aC]at g4;omega);refine ZS ?_ ?_<;>intro g5;{rw[show((x.mem.map AV.str).length:Int)=(x.mem.length:Int) by simp,<- e1]at g5;obtain rfl:R=.uY 49 (.int .i64 11):=(by rw[hR,bad 11 au (by unfold yM;rw[aB g1,aB g2,aB g3,aB g4,aG g5])];rfl);exact ZJ};rw[show((x.mem.map AV.str).length:Int)=(x.mem.length:Int) by simp,<- e1]at g5;refine ZS ?_ ?_<;>intro g6;{rw[show((x.BX.map Rat.av).length:Int)=(x.BX.length:Int) by simp,<- e2]at g6;obtain rfl:R=.uY 49 (.int .i64 11):=(by rw[hR,bad 11 au (by unfold yM;rw[aB g1,aB g2,aB g3,aB g4,aB g5,aG g6])];rfl);exact ZJ};rw[show((x.BX.map Rat.av).length:Int)=(x.BX.length:Int) by simp,<- e2]at g6;have hgr:yM m i x sp=if(vM m x.mem sp).1≠0 then vM m x.mem sp else if(x.BX.any λf=>!yK f)=true then(3,[])else vM m x.mem sp:=(by unfold yM;rw[aB g1,aB g2,aB g3,aB g4,aB g5,aB g6]);refine ZW ?_;refine qW.of <| qN.inv (.refl _ _) (fun(s:Nat×List Str)=>s.1<=x.mem.length/\vM m x.mem sp=vM m (x.mem.drop s.1) s.2/\s.2.length<=sp.length+s.1)
    (λs=>[(73,.int .i64 s.1),(3,.sl 1 (s.2.map .str) (.own 1))]) (λs=>[(2,.box x.av),(1,.tok 1 s.2.length),(0,.box m.av)]) (λs=>x.mem.length-s.1) (0,sp) ?_ (λ_=>rfl) ?_ ?_
   ·exact⟨aP _,rfl,ak⟩
   ·exact Zv wk wk
   rintro⟨j,s2⟩ ⟨hj,tC,hs2⟩ _;dsimp only at hj tC hs2;refine ZS ?_ ?_<;>intro hh
   ·have hjl:j<x.mem.length:=(by simpa using hh);rw[aZ hjl]at tC;simp only[vM]at tC;refine ZW ?_;refine sH hjl ?_;generalize x.mem[j]=y at *;refine ZW ?_;refine .zW (ce y) ?_;constructor<;>intro q1;{rw[aG q1]at tC;obtain rfl:R=.uY 49 (.int .i64 5):=(by rw[hR,bad 5 au (by rw[hgr,tC];rfl)];rfl);exact ZJ};rw[aB q1]at tC;refine ZW ?_;refine .zW (EG s2 y) ?_;constructor<;>intro q2;{rw[aG q2]at tC;obtain rfl:R=.uY 49 (.int .i64 6):=(by rw[hR,bad 6 au (by rw[hgr,tC];rfl)];rfl);exact ZJ};rw[aB (by rw[q2];simp)]at tC;refine ZW ?_;refine⟨by rw[aC],.mk (by simp[maxL];omega) aA (ZW ?_)⟩;refine ZG ?_;refine⟨(j+1,s2++[y]),?_,?_,?_⟩;{exact⟨hjl,tC,by show(s2++[y]).length<=sp.length+(j+1);simp;omega⟩}
    ·refine Zv ?_ ?_
     ·repeat' first|exact Zq|apply aI
      all_goals first|(refine qY ?_;simp[strip];done)|(simp;done)|(simp;omega)
     repeat' first|exact Zq|apply aI
     all_goals first|(refine qY ?_;simp[strip];done)|(simp;done)|(simp;omega)
    show x.mem.length-(j+1)<x.mem.length-j;omega
   have hjl:j=x.mem.length:=(by have:¬j<x.mem.length:=(by simpa using hh);omega);rw[aX aj]at tC;simp only[vM]at tC;rw[tC,aB ak]at hgr;refine ZW ?_;refine .gen _ _ (IQ x.BX 147 [] (λf=>!yK f) _ λf hf=>qZ.vX (a0z f (hfc f hf)) (rQ _) ⟨rfl,rfl⟩) λ_=>?_;refine ZS ?_ ?_<;>intro q3;{rw[aG q3]at hgr;obtain rfl:R=.uY 49 (.int .i64 3):=(by rw[hR,bad 3 au (by rw[hgr])];rfl);exact ZJ};rw[aB (by rw[q3];simp)]at hgr;rw[hgr,aB ak]at hn;refine ZW ?_;refine ZG ?_;refine⟨(i+1,s2),?_,?_,?_⟩;{exact⟨hlt,hn,by show s2.length<=60*(i+1);omega⟩};{exact Zv wk wk};show m.y8.length-(i+1)<m.y8.length-i;omega
  have k0:x.kind=0:=aj;have g3:¬(x.kind≠0/\x.kind≠1):=λh=>h.1 k0;refine ZW ?_;refine aQ (λh=>by exfalso;omega) (λh1=>?_);have e1:(if x.kind=1 then(4:Int)else 24)=24:=aB h1;have e2:(if x.kind=1 then(x.mem.length:Int)-1 else 1)=1:=aB h1;refine ZS ?_ ?_<;>intro g4;{have g4:x.mem.length<2:=(by simp only[aC]at g4;omega);obtain rfl:R=.uY 49 (.int .i64 11):=(by rw[hR,bad 11 au (by unfold yM;rw[aB g1,aB g2,aB g3,aG g4])];rfl);exact ZJ};have g4:¬x.mem.length<2:=(by simp only[aC]at g4;omega);refine ZS ?_ ?_<;>intro g5;{rw[show((x.mem.map AV.str).length:Int)=(x.mem.length:Int) by simp,<- e1]at g5;obtain rfl:R=.uY 49 (.int .i64 11):=(by rw[hR,bad 11 au (by unfold yM;rw[aB g1,aB g2,aB g3,aB g4,aG g5])];rfl);exact ZJ};rw[show((x.mem.map AV.str).length:Int)=(x.mem.length:Int) by simp,<- e1]at g5;refine ZS ?_ ?_<;>intro g6;{rw[show((x.BX.map Rat.av).length:Int)=(x.BX.length:Int) by simp,<- e2]at g6;obtain rfl:R=.uY 49 (.int .i64 11):=(by rw[hR,bad 11 au (by unfold yM;rw[aB g1,aB g2,aB g3,aB g4,aB g5,aG g6])];rfl);exact ZJ};rw[show((x.BX.map Rat.av).length:Int)=(x.BX.length:Int) by simp,<- e2]at g6;have hgr:yM m i x sp=if(vM m x.mem sp).1≠0 then vM m x.mem sp else if(x.BX.any λf=>!yK f)=true then(3,[])else vM m x.mem sp:=(by unfold yM;rw[aB g1,aB g2,aB g3,aB g4,aB g5,aB g6]);refine ZW ?_;refine qW.of <| qN.inv (.refl _ _) (fun(s:Nat×List Str)=>s.1<=x.mem.length/\vM m x.mem sp=vM m (x.mem.drop s.1) s.2/\s.2.length<=sp.length+s.1)
   (λs=>[(73,.int .i64 s.1),(3,.sl 1 (s.2.map .str) (.own 1))]) (λs=>[(2,.box x.av),(1,.tok 1 s.2.length),(0,.box m.av)]) (λs=>x.mem.length-s.1) (0,sp) ?_ (λ_=>rfl) ?_ ?_
  ·exact⟨aP _,rfl,ak⟩
  ·exact Zv wk wk
  rintro⟨j,s2⟩ ⟨hj,tC,hs2⟩ _;dsimp only at hj tC hs2;refine ZS ?_ ?_<;>intro hh
  ·have hjl:j<x.mem.length:=(by simpa using hh);rw[aZ hjl]at tC;simp only[vM]at tC;refine ZW ?_;refine sH hjl ?_;generalize x.mem[j]=y at *;refine ZW ?_;refine .zW (ce y) ?_;constructor<;>intro q1;{rw[aG q1]at tC;obtain rfl:R=.uY 49 (.int .i64 5):=(by rw[hR,bad 5 au (by rw[hgr,tC];rfl)];rfl);exact ZJ};rw[aB q1]at tC;refine ZW ?_;refine .zW (EG s2 y) ?_;constructor<;>intro q2;{rw[aG q2]at tC;obtain rfl:R=.uY 49 (.int .i64 6):=(by rw[hR,bad 6 au (by rw[hgr,tC];rfl)];rfl);exact ZJ};rw[aB (by rw[q2];simp)]at tC;refine ZW ?_;refine⟨by rw[aC],.mk (by simp[maxL];omega) aA (ZW ?_)⟩;refine ZG ?_;refine⟨(j+1,s2++[y]),?_,?_,?_⟩;{exact⟨hjl,tC,by show(s2++[y]).length<=sp.length+(j+1);simp;omega⟩}
   ·refine Zv ?_ ?_
    ·repeat' first|exact Zq|apply aI
     all_goals first|(refine qY ?_;simp[strip];done)|(simp;done)|(simp;omega)
    repeat' first|exact Zq|apply aI
    all_goals first|(refine qY ?_;simp[strip];done)|(simp;done)|(simp;omega)
   show x.mem.length-(j+1)<x.mem.length-j;omega
  have hjl:j=x.mem.length:=(by have:¬j<x.mem.length:=(by simpa using hh);omega);rw[aX aj]at tC;simp only[vM]at tC;rw[tC,aB ak]at hgr;refine ZW ?_;refine .gen _ _ (IQ x.BX 147 [] (λf=>!yK f) _ λf hf=>qZ.vX (a0z f (hfc f hf)) (rQ _) ⟨rfl,rfl⟩) λ_=>?_;refine ZS ?_ ?_<;>intro q3;{rw[aG q3]at hgr;obtain rfl:R=.uY 49 (.int .i64 3):=(by rw[hR,bad 3 au (by rw[hgr])];rfl);exact ZJ};rw[aB (by rw[q3];simp)]at hgr;rw[hgr,aB ak]at hn;refine ZW ?_;refine ZG ?_;refine⟨(i+1,s2),?_,?_,?_⟩;{exact⟨hlt,hn,by show s2.length<=60*(i+1);omega⟩};{exact Zv wk wk};show m.y8.length-(i+1)<m.y8.length-i;omega
 have hil:i=m.y8.length:=(by have:¬i<m.y8.length:=(by simpa using h);omega);rw[aX aj]at hn;simp only[DL]at hn;rw[hge,hn]at hR;subst hR;exact ZJ
def Dl(m:Md)(x:Ph)(k:Nat)(v:Pv):Int :=
 if rM m.evs v.ev<0 then 5 else if yJ (λy=>decide (y.ev=v.ev)) x.vals<k then 6 else if yK v.p=false then 3 else 0
def Dn(m:Md)(i:Nat)(x:Ph):Int :=
 if sV x.name=false then 5 else if yJ (λy=>decide (y.name=x.name)) m.zS<i then 6
 else if uZ m (-1) x.top=false then 5 else wW (Dl m x) 0 x.vals
def uX(m:Md):Int:=if 6<m.zS.length then 4 else wW (Dn m) 0 m.zS
theorem b68(x y:Ph)(m:Md):ZQ 149 [y.av,.ptr 1 [] 0] [(1,.box x.av),(0,.box m.av)] (.bool (decide (y.name=x.name))) [(1,.box x.av),(0,.box m.av)]:=by
 refine ZN Tryz.func149 λhok=>?_;refine⟨⟨_,_,.refl _ _,?_⟩⟩;conv=>whnf
 refine Zx ?_ ?_;{show _↔_;simp};exact wk
theorem b67(v y:Pv)(x:Ph)(m:Md):ZQ 151 [y.av,.ptr 2 [] 0] [(2,.box v.av),(1,.box x.av),(0,.box m.av)] (.bool (decide (y.ev=v.ev))) [(2,.box v.av),(1,.box x.av),(0,.box m.av)]:=by
 refine ZN Tryz.func151 λhok=>?_;refine⟨⟨_,_,.refl _ _,?_⟩⟩;conv=>whnf
 refine Zx ?_ ?_;{show _↔_;simp};exact wk
theorem YV(m:Md)(hC:MdC m)(hB:KI m)(R:AV)(hR:R=zh (uX m)):ZQ 81 [m.av] [] R []:=by have ce:=λs=>Iq m s;have ci:=λs=>Ns m (-1) s (.inl rfl);have hpl:=hB.zS;refine ZN Tryz.func81 λhok=>?_;constructor<;>intro h1;{have h1:6<m.zS.length:=(by simp only[aC]at h1;omega);obtain rfl:R=.uY 49 (.int .i64 4):=(by rw[hR,show uX m=4 from aG h1];rfl);exact ZJ};have h1:¬6<m.zS.length:=(by simp only[aC]at h1;omega);have hge:uX m=wW (Dn m) 0 m.zS:=aB h1;refine ZW ?_;refine qW.of <| qN.inv (.refl _ _) (fun(i:Nat)=>i<=m.zS.length/\wW (Dn m) 0 m.zS=wW (Dn m) i (m.zS.drop i)) (fun(i:Nat)=>[(15,.int .i64 i)]) (λ_=>_) (fun(i:Nat)=>m.zS.length-i) 0 ?_ (λ_=>rfl) ?_ ?_;{exact⟨aP _,rfl⟩};{exact wk};rintro i ⟨hi,hn⟩ _;refine ZS ?_ ?_<;>intro h;{have hlt:i<m.zS.length:=(by simpa using h);have hvl:=hB.vals _ (aN hlt);have hfc:=hC.zS _ (aN hlt);rw[zy hlt]at hn;have bad:∀e:Int,e≠0->Dn m i m.zS[i]=e->uX m=e:=(by intro e he h;rw[h,aG he]at hn;rw[hge,hn]);refine ZW ?_;refine sH hlt ?_;generalize hx0:m.zS[i]=x at *;refine ZW ?_;refine .zW (Bh x.name) ?_;constructor<;>intro g1;{have g1:sV x.name=false:=(by simpa using g1);obtain rfl:R=.uY 49 (.int .i64 5):=(by rw[hR,bad 5 au (by unfold Dn;rw[aG g1])];rfl);exact ZJ};have g1:¬sV x.name=false:=(by simpa using g1);refine ZW ?_;refine .gen _ _ (b0c m.zS 149 [.ptr 1 [] 0] (λy=>decide (y.name=x.name)) _ λy _=>b68 x y m) λ_=>?_;refine ZS ?_ ?_<;>intro g2;{obtain rfl:R=.uY 49 (.int .i64 6):=(by rw[hR,bad 6 au (by unfold Dn;rw[aB g1,aG g2])];rfl);exact ZJ};refine ZW ?_;refine .zW (ci x.top) ?_;constructor<;>intro g3;{have g3:uZ m (-1) x.top=false:=(by simpa using g3);obtain rfl:R=.uY 49 (.int .i64 5):=(by rw[hR,bad 5 au (by unfold Dn;rw[aB g1,aB g2,aG g3])];rfl);exact ZJ};have g3:¬uZ m (-1) x.top=false:=(by simpa using g3);have hph:Dn m i x=wW (Dl m x) 0 x.vals:=(by unfold Dn;rw[aB g1,aB g2,aB g3]);rw[hph]at bad hn;refine ZW ?_;refine qW.of <| qN.inv (.refl _ _) (fun(j:Nat)=>j<=x.vals.length/\wW (Dl m x) 0 x.vals=wW (Dl m x) j (x.vals.drop j)) (fun(j:Nat)=>[(41,.int .i64 j)]) (λ_=>_) (fun(j:Nat)=>x.vals.length-j) 0 ?_ (λ_=>rfl) ?_ ?_;{exact⟨aP _,rfl⟩};{exact wk};rintro j ⟨hj,tC⟩ _;refine ZS ?_ ?_<;>intro hh;{have hjl:j<x.vals.length:=(by simpa using hh);have hp:=hfc _ (aN hjl);rw[zy hjl]at tC;have bad:∀e:Int,e≠0->Dl m x j x.vals[j]=e->uX m=e:=(by intro e he h;rw[h,aG he]at tC;exact bad e he tC);refine ZW ?_;refine sH hjl ?_;generalize x.vals[j]=v at *;refine ZW ?_;refine .zW (ce v.ev) ?_;constructor<;>intro q1;{obtain rfl:R=.uY 49 (.int .i64 5):=(by rw[hR,bad 5 au (by unfold Dl;rw[aG q1])];rfl);exact ZJ};refine ZW ?_;refine .gen _ _ (b0b x.vals 151 [.ptr 2 [] 0] (λy=>decide (y.ev=v.ev)) _ λy _=>b67 v y x m) λ_=>?_;refine ZS ?_ ?_<;>intro q2;{obtain rfl:R=.uY 49 (.int .i64 6):=(by rw[hR,bad 6 au (by unfold Dl;rw[aB q1,aG q2])];rfl);exact ZJ};refine ZW ?_;refine .zW hp.p ?_;constructor<;>intro q3;{have q3:yK v.p=false:=(by simpa using q3);obtain rfl:R=.uY 49 (.int .i64 3):=(by rw[hR,bad 3 au (by unfold Dl;rw[aB q1,aB q2,aG q3])];rfl);exact ZJ};have q3:¬yK v.p=false:=(by simpa using q3);refine ZW ?_;refine ZG ?_;refine⟨j+1,?_,?_,?_⟩;{exact⟨hjl,by rw[tC,aB (by rw[show Dl m x j v=0 from by unfold Dl;rw[aB q1,aB q2,aB q3]];simp)]⟩};{exact Zv wk wk};omega};have hjl:j=x.vals.length:=(by have:¬j<x.vals.length:=(by simpa using hh);omega);rw[Ak aj]at tC;rw[tC,aB ak]at hn;refine ZW ?_;refine ZG ?_;refine⟨i+1,?_,?_,?_⟩;{exact⟨hlt,hn⟩};{exact Zv wk wk};omega};have hil:i=m.zS.length:=(by have:¬i<m.zS.length:=(by simpa using h);omega);rw[Ak aj]at hn;rw[hge,hn]at hR;subst hR;exact ZJ
abbrev Node:=Int×Int×Int
abbrev OE(x:Node):AV:=.ag [.int .i64 x.1,.int .i64 x.2.1,.int .i64 x.2.2]
def y7(m:Md)(a:Int)(s:Str):Node :=
 if 0<=rM m.evs s then(0,0,rM m.evs s)else if 0<=tN m.hs s then(1,0,tN m.hs s)else(2,a,tX (qO m a) s)
def yH(m:Md)(a:Int)(s:Str):Node :=
 if EH s=true then y7 m (tq m.pages (s.drop 1)) (sG m (tq m.pages (s.drop 1)))else y7 m a s
theorem EF{α:Type}(p:α->Bool)(l:List α):yJ p l<(l.length:Int):=by rcases zH p l with⟨h,_⟩|⟨i,h,h1,_⟩ <;> omega
theorem a0y(m:Md)(a:Int)(s:Str)(h0:0<s.length)(ha:a = -1\/(0<=a/\a<(m.pages.length:Int)))(hp:EH s=true->0<=tq m.pages (s.drop 1)):ZQ 214 [m.av,.int .i64 a,.str s] [] (OE (yH m a s)) []:=by have ce:=λs=>Iq m s;have ch:=λs=>UU m s;have cG:=λa h=>Gv m a h;have cg:=λa s=>a3n (qO m a) s;have cp:=a7m m (s.drop 1);have hpl:tq m.pages (s.drop 1)<(m.pages.length:Int):=EF _ _;refine ZN Tryz.func214 λhok=>?_;refine Tq h0 ?_;refine ZS ?_ ?_<;>intro h2;{have e:EH s=true:=(by simp only[EH,h0,h2,decide_true,jo]);have hp:=hp e;rw[show yH m a s=y7 m (tq m.pages (s.drop 1)) (sG m (tq m.pages (s.drop 1)))from aG e];have hpt:(m.pages.getD (tq m.pages (s.drop 1)).toNat default).top=sG m (tq m.pages (s.drop 1)):=rfl;refine ZW ?_;refine ZR ?_;refine⟨⟨aj,aj,aj⟩,?_⟩;rw[b5m];refine ZW ?_;refine .zP cp ?_;generalize tq m.pages (s.drop 1)=p at *;have hpb:p = -1\/(0<=p/\p<(m.pages.length:Int)):=.inr ⟨hp,hpl⟩;refine ZW ?_;refine ug default ⟨hp,hpl⟩ (ZW ?_);rw[hpt];generalize sG m p=t at *;refine ZW ?_;refine .zW (ce t) ?_;constructor<;>intro h3;{rw[show y7 m p t=(0,0,rM m.evs t)from aG h3];exact ZJ};refine ZW ?_;refine .zW (ch t) ?_;constructor<;>intro h4;{rw[show y7 m p t=(1,0,tN m.hs t)from(aB h3).trans (aG h4)];exact ZJ};rw[show y7 m p t=(2,p,tX (qO m p) t)from(aB h3).trans (aB h4)];refine ZW ?_;refine .zW (cG p (by assumption)) ?_;refine .zW (cg p t) ?_;exact ZH};have e:EH s=false:=(by simp only[EH,bM h2,kX]);rw[show yH m a s=y7 m a s from aB (by rw[e];simp)];refine ZW ?_;refine .zW (ce s) ?_;constructor<;>intro h3;{rw[show y7 m a s=(0,0,rM m.evs s)from aG h3];exact ZJ};refine ZW ?_;refine .zW (ch s) ?_;constructor<;>intro h4;{rw[show y7 m a s=(1,0,tN m.hs s)from(aB h3).trans (aG h4)];exact ZJ};rw[show y7 m a s=(2,a,tX (qO m a) s)from(aB h3).trans (aB h4)];refine ZW ?_;refine .zW (cG a (by assumption)) ?_;refine .zW (cg a s) ?_;exact ZH
abbrev Marks:=List (Node×Int)
def look:Marks->Node->Int
 | [],_=>0
 |(y,v)::es,x=>if y=x then v else look es x
def mark:Marks->Node->Int->Marks
 | [],x,v=>[(x,v)]
 |(y,u)::es,x,v=>if y=x then(x,v)::es else(y,u)::mark es x v
abbrev xO(es:Marks):List (AV×AV):=es.map λe=>(OE e.1,.int .i64 e.2)
theorem a2G{x y:Node}:Ut (OE x)=Ut (OE y)↔x=y:=by obtain⟨a,b,c⟩:=x;obtain⟨d,e,f⟩:=y;simp[Ut,b6a]
theorem a3z{es:Marks}{x:Node}{k:AV->Prop}(h:k (.int .i64 (look es x))):FW (xO es) (OE x) λr=>DI false (.int .i64 0) r k:=by
 have key:∃r,a4I (xO es) (OE x) r/\DI false (.int .i64 0) r k:=by
  induction es with
  |nil=>exact⟨none,by simp[a4I,xO],h⟩
  | cons e es ih =>
    obtain⟨y,v⟩:=e;by_cases hy:y=x;{subst hy;refine⟨some (.int .i64 v),⟨_,dD,rfl,rfl⟩,?_⟩;rw[show look ((y,v)::es) y=v from aG rfl]at h;exact h};have h':k (.int .i64 (look es x)):=(by rw[show look ((y,v)::es) x=look es x from aB hy]at h;exact h);obtain⟨r,h1,h2⟩:=ih h';refine⟨r,?_,h2⟩;cases r with
    |none =>intro z hz;simp only[xO,dF,aU]at hz;rcases hz with rfl|hz;{exact λe=>hy (a2G.1 e)};exact h1 z hz
    |some w =>obtain⟨z,hz,h3,h4⟩:=h1;exact⟨z,by simp only[xO,dF,aU];exact .inr hz,h3,h4⟩
 exact⟨key⟩
theorem b4o{es:Marks}{x:Node}{v:Int}:b7T (xO es) (OE x) (.int .i64 v) (xO (mark es x v)):=by
 induction es with
 |nil=>exact .inl ⟨by simp[xO],rfl⟩
 |cons e es ih =>obtain⟨y,u⟩:=e;by_cases hy:y=x;{subst hy;exact .inr ⟨0,(OE y,.int .i64 u),rfl,rfl,by simp[mark,xO]⟩};simp only[mark,aB hy];rcases ih with⟨h1,h2⟩|⟨j,z,h1,h2,h3⟩;{refine .inl ⟨?_,?_⟩;{intro z hz;simp only[xO,dF,aU]at hz;rcases hz with rfl|hz;{exact λe=>hy (a2G.1 e)};exact h1 z hz};simp only[xO,dF,eP]at h2 ⊢;rw[h2]};refine .inr ⟨j+1,z,by simpa[xO]using h1,h2,?_⟩;simp only[xO,dF,jL]at h3 ⊢;rw[h3]
theorem Nv{es:Marks}{x:Node}{v:Int}{k:List (AV×AV)->Prop}(h:k (xO (mark es x v))):b1B (xO es) (OE x) (.int .i64 v) k:=⟨_,b4o,h⟩
theorem wS{es:Marks}{x y:Node}{v:Int}:look (mark es x v) y=if x=y then v else look es y:=by
 induction es with
 |nil=>simp[mark,look]
 |cons e es ih =>obtain⟨z,u⟩:=e;simp only[mark];by_cases hz:z=x;{subst hz;rw[aG rfl];simp only[look];split <;> rfl};rw[aB hz];simp only[look,ih];by_cases h1:z=y;{subst h1;rw[aG rfl,aG rfl,aB (λe=>hz e.symm)]};rw[aB h1,aB h1]
structure WS(σ:Type) where
 es:Marks
 st:σ
def yj{σ:Type}(f:Node->WS σ->Bool×WS σ):List Node->WS σ->Bool×WS σ
 | [],s=>(false,s)
 |y::l,s=>if(f y s).1=true then f y s else yj f l (f y s).2
def y5{σ:Type}(kids:Node->List Node)(step:σ->Node->σ):Nat->Node->WS σ->Bool×WS σ
 | 0,_,s=>(false,s)
 | n+1,x,s =>
   if x.1≠2 then(false,⟨s.es,step s.st x⟩)
   else if look s.es x=1 then(true,s)
   else if look s.es x=2 then(false,s)
   else if(yj (y5 kids step n) (kids x) ⟨mark s.es x 1,step s.st x⟩).1=true then yj (y5 kids step n) (kids x) ⟨mark s.es x 1,step s.st x⟩
   else(false,⟨mark (yj (y5 kids step n) (kids x) ⟨mark s.es x 1,step s.st x⟩).2.es x 2,(yj (y5 kids step n) (kids x) ⟨mark s.es x 1,step s.st x⟩).2.st⟩)
def isM(es:Marks)(x:Node):Bool:=decide (look es x=1)||decide (look es x=2)
def free(all:List Node)(es:Marks):Nat:=(all.filter λx=>!isM es x).length
def MLe(es es':Marks):Prop:=∀x,isM es x=true->isM es' x=true
theorem MLe.refl(es:Marks):MLe es es:=λ_ h=>h
theorem MLe.trans{a b c:Marks}(h1:MLe a b)(h2:MLe b c):MLe a c:=λx h=>h2 x (h1 x h)
theorem WW{es:Marks}{x y:Node}{v:Int}(hv:v=1\/v=2):isM (mark es x v) y=if x=y then true else isM es y:=by unfold isM;rw[wS];split;{rcases hv with rfl|rfl <;> rfl};rfl
theorem MLe.mark{es:Marks}{x:Node}{v:Int}(hv:v=1\/v=2):MLe es (mark es x v):=by intro y hy;rw[WW hv];split;{rfl};exact hy
theorem IK{α:Type}{p q:α->Bool}:∀{l:List α},(∀x∈l,p x=true->q x=true)->(l.filter p).length<=(l.filter q).length
 | [],_=>ak
 | x::l,h=>by
   have ih:=IK (l:=l) λy hy=>h y (by simp[hy]);have hx:=h x ak;simp only[kG];cases hp:p x with
   |true=>rw[hx hp];simp;exact ih
   | false =>
     cases hq:q x with
     |true=>simp;omega
     |false=>simpa using ih
theorem Oa{α:Type}{p q:α->Bool}:∀{l:List α} {y:α},(∀x∈l,p x=true->q x=true)->y∈l->p y=false->q y=true->(l.filter p).length<(l.filter q).length
 | [],_,_,h,_,_=>by simp at h
 | x::l,y,h,hy,h1,h2=>by
   have b8F:=IK (l:=l) λz hz=>h z (by simp[hz]);rcases aU.1 hy with rfl|hy;{simp only[kG,h1,h2];simp;omega};have ih:=Oa (l:=l) (λz hz=>h z (by simp[hz])) hy h1 h2;have hx:=h x ak;simp only[kG];cases hp:p x with
   |true=>rw[hx hp];simp;exact ih
   | false =>
     cases hq:q x with
     |true=>simp;omega
     |false=>simpa using ih
theorem a1s{all:List Node}{es es':Marks}(h:MLe es es'):free all es'<=free all es:=by
 unfold free;refine IK λx _ hx=>?_;have:=h x;cases h1:isM es x with
 |false=>rfl
 |true=>rw[this h1]at hx;cases hx
theorem a6p{all:List Node}{es:Marks}{x:Node}{v:Int}(hx:x∈all)(h1:look es x≠1)(h2:look es x≠2)(hv:v=1\/v=2):free all (mark es x v)<free all es:=by unfold free;refine Oa (y:=x) (λy _ hy=>?_) hx (by rw[WW hv,aG rfl];rfl) (by unfold isM;rw[bM h1,bM h2];rfl);rw[WW hv]at hy;split at hy;{cases hy};exact hy
theorem ZP{σ:Type}{f:Node->WS σ->Bool×WS σ}(hf:∀x s,MLe s.es (f x s).2.es):∀(l:List Node) (s:WS σ),MLe s.es (yj f l s).2.es
 | [],s=>.refl _
 |y::l,s=>by simp only[yj];split;{exact hf y s};exact(hf y s).trans (ZP hf l _)
theorem MB{σ:Type}{kids:Node->List Node}{step:σ->Node->σ}:∀(n:Nat) (x:Node) (s:WS σ),MLe s.es (y5 kids step n x s).2.es
 | 0,x,s=>.refl _
 |n+1,x,s=>by simp only[y5];split;{exact .refl _};split;{exact .refl _};split;{exact .refl _};have hk:=ZP (MB (kids:=kids) (step:=step) n) (kids x) ⟨mark s.es x 1,step s.st x⟩;have h1:MLe s.es (mark s.es x 1):=.mark (.inl rfl);split;{exact h1.trans hk};exact(h1.trans hk).trans (.mark (.inr rfl))
abbrev Rh:AV:=.ag [.int .i64 0,.int .i64 0,.int .i64 0]
theorem yu?{α:Type}{l:List α}{j:Nat}{y:α}(h:l[j]? = some y):l.drop j=y::l.drop (j+1):=by obtain⟨h1,rfl⟩:=aY.1 h;exact aZ h1
def rP(m:Md)(x:Node):Mg:=(qO m x.2.1).getD x.2.2.toNat default
def sZ(m:Md)(x:Node):List Node:=(rP m x).ins.map (yH m x.2.1)
structure b1x(m:Md)(all:List Node)(ok:Node->Prop)(x:Node):Prop where
 page:x.2.1 = -1\/(0<=x.2.1/\x.2.1<(m.pages.length:Int))
 idx:0<=x.2.2/\x.2.2<((qO m x.2.1).length:Int)
 mem:x∈all
 len:(rP m x).ins.length<=40
 ins:∀s∈(rP m x).ins,0<s.length/\(EH s=true->0<=tq m.pages (s.drop 1))/\ok (yH m x.2.1 s)
theorem qQ(n:Nat):∀es:Marks,EZ n (xO es)=true
 | []=>rfl
 |_::es=>by show(match true,true with|true,true=>EZ n (xO es)|_,_=>false)=true;exact qQ n es
theorem Gf(f:Nat->Nat):∀es:Marks,zQ f (xO es)=xO es
 | []=>rfl
 |_::es=>by show _::zQ f (xO es)=_::xO es;rw[Gf f es];rfl
theorem JL(f:Nat->Nat)(es:Marks):leM (xO es) (zQ f (xO es)):=by rw[Gf];exact qP _
theorem DJ(f:Nat->Nat)(es:Marks):leM (zQ f (xO es)) (xO es):=by rw[Gf];exact qP _
abbrev hpA{σ:Type}(O:σ->AV)(s:WS σ)(_:Md):Heap:=[(1,.tY Rh (xO s.es)),(0,.box (O s.st))]
abbrev ehA{σ:Type}(O:σ->AV)(st:σ)(_:Md):Heap:=[(0,.box (O st))]
theorem b23{σ:Type}(m:Md)(g:Nat)(O:σ->AV)(hO:∀st n,tH n (O st)=true)(hrn:∀st f,yT f (O st)=O st)(step:σ->Node->σ)(all:List Node)(ok:Node->Prop)(hN:∀x,ok x->x.1=2->b1x m all ok x)
  (hE:∀st x,ok x->ZQ g (OE x::[]) (ehA O st m) (.uy []) (ehA O (step st x) m)) :
  ∀(n:Nat) (x:Node) (s:WS σ),ok x->free all s.es<n->ZQ 152 [m.av,OE x,.mp 1,.fn g []] (hpA O s m) (.bool (y5 (sZ m) step n x s).1) (hpA O (y5 (sZ m) step n x s).2 m):=by
 have hle0:∀st f,le0 (O st) (yT f (O st)):=λst f=>(by rw[hrn];exact tZ _);have hle1:∀st f,le0 (yT f (O st)) (O st):=λst f=>(by rw[hrn];exact tZ _);intro n;induction n with
 |zero=>intro x s _ h;omega
 | succ n ih =>
   intro x s hx hf;refine ZN Tryz.func152 λhok=>?_;constructor<;>intro h1
   ·have e:y5 (sZ m) step (n+1) x s=(false,⟨s.es,step s.st x⟩):=(by simp only[y5];rw[aG h1]);rw[e];refine ZW ?_;refine .gen _ _ (qZ.frame [0] (hE s.st x hx) ⟨rfl,rfl,rfl,rfl⟩ ?_ ?_) λ_=>?_
    ·repeat' first|exact Zq|apply aI
     all_goals first|exact hle0 _ _|exact hO _ _
    ·exact wk
    refine ZW ?_;refine⟨⟨_,_,.refl _ _,?_⟩⟩;conv=>whnf
    refine⟨rfl,rfl,by simp[nextId],.mk ?_ ?_⟩
    ·repeat' first|exact Zq|apply aI
     all_goals first|exact hle0 _ _|exact hle1 _ _|exact hO _ _|exact qP _|exact DJ _ _|exact qQ _ _|exact tZ _
    simp[uS]
   have hk:x.1=2:=aj;obtain⟨hpg,hix,hmem,hil,hins⟩:=hN x hx hk;have cG:=Gv m x.2.1 hpg
   have hwf:y5 (sZ m) step (n+1) x s=if look s.es x=1 then(true,s)else if look s.es x=2 then(false,s)
     else if(yj (y5 (sZ m) step n) (sZ m x) ⟨mark s.es x 1,step s.st x⟩).1=true then yj (y5 (sZ m) step n) (sZ m x) ⟨mark s.es x 1,step s.st x⟩
     else(false,⟨mark (yj (y5 (sZ m) step n) (sZ m x) ⟨mark s.es x 1,step s.st x⟩).2.es x 2,(yj (y5 (sZ m) step n) (sZ m x) ⟨mark s.es x 1,step s.st x⟩).2.st⟩):=by
    simp only[y5];rw[aB h1]
   refine ZW ?_;refine a3z ?_;refine ZS ?_ ?_<;>intro h2
   ·rw[aG h2]at hwf;rw[hwf];refine ZW ?_;refine⟨⟨_,_,.refl _ _,?_⟩⟩;conv=>whnf
    refine⟨rfl,rfl,by simp[nextId],.mk ?_ ?_⟩
    ·repeat' first|exact Zq|apply aI
     all_goals first|exact hle0 _ _|exact hle1 _ _|exact hO _ _|exact qP _|exact DJ _ _|exact qQ _ _|exact tZ _
    simp[uS]
   rw[aB h2]at hwf;refine ZS ?_ ?_<;>intro h3
   ·rw[aG h3]at hwf;rw[hwf];refine ZW ?_;refine⟨⟨_,_,.refl _ _,?_⟩⟩;conv=>whnf
    refine⟨rfl,rfl,by simp[nextId],.mk ?_ ?_⟩
    ·repeat' first|exact Zq|apply aI
     all_goals first|exact hle0 _ _|exact hle1 _ _|exact hO _ _|exact qP _|exact DJ _ _|exact qQ _ _|exact tZ _
    simp[uS]
   rw[aB h3]at hwf;refine ZW ?_;refine Nv (ZW ?_);refine .gen _ _ (qZ.frame [0] (hE s.st x hx) ⟨rfl,rfl,rfl,rfl⟩ ?_ ?_) λ_=>?_
   ·repeat' first|exact Zq|apply aI
    all_goals first|exact hle0 _ _|exact hO _ _
   ·exact wk
   refine ZW ?_;refine ZR ?_;refine .zW cG ?_;refine ug default hix ?_;have hga:(qO m x.2.1).getD x.2.2.toNat default=rP m x:=rfl;rw[hga];have hlt0:=a6p (all:=all) (v:=1) hmem h2 h3 (.inl rfl);generalize hS1:(⟨mark s.es x 1,step s.st x⟩:WS σ)=S1 at *;have b7M:S1.es=mark s.es x 1:=(by rw[<- hS1]);have b8r:S1.st=step s.st x:=(by rw[<- hS1]);rw[<- b7M]at hlt0;have hKl:(sZ m x).length=(rP m x).ins.length:=(by simp[sZ]);have hKj:∀(j:Nat) (h:j<(rP m x).ins.length),(sZ m x)[j]? = some (yH m x.2.1 (rP m x).ins[j]):=λj h=>(by simp[sZ,h]);generalize rP m x=gt at *;generalize hW:y5 (sZ m) step n=W at *;generalize sZ m x=K at *;refine ZW ?_;refine qW.of <| qN.inv (.refl _ _) (fun(q:Nat×WS σ)=>q.1<=gt.ins.length/\yj W K S1=yj W (K.drop q.1) q.2/\MLe S1.es q.2.es)
    (λq=>[(39,.int .i64 q.1)]) (λq=>(3,.box (OE x))::(2,.box m.av)::hpA O q.2 m) (λq=>gt.ins.length-q.1) (0,S1) ?_ (λ_=>rfl) ?_ ?_
   ·exact⟨aP _,rfl,.refl _⟩
   ·refine⟨?_,.mk ?_ ?_⟩;{exact wk}
    ·repeat' first|exact Zq|apply aI
     all_goals first|(rw[b7M];exact qP _)|(rw[b8r];exact hle1 _ _)|exact hO _ _|exact qQ _ _
    simp[uS]
   rintro⟨j,sj⟩ ⟨hj,hn,hle⟩ _;dsimp only at hj hn hle;refine ZS ?_ ?_<;>intro hh
   ·have hjl:j<gt.ins.length:=(by simpa using hh);have hfr:=a1s (all:=all) hle;obtain⟨i1,i2,i3⟩:=hins _ (aN hjl);rw[yu? (hKj j hjl)]at hn;simp only[yj]at hn;have cr:=a0y m x.2.1 gt.ins[j] i1 hpg i2;have cw:=ih (yH m x.2.1 gt.ins[j]) sj i3 aj;have hml:=MB (kids:=sZ m) (step:=step) n (yH m x.2.1 gt.ins[j]) sj;rw[hW]at hml;refine ZW ?_;refine sH hjl ?_;generalize yH m x.2.1 gt.ins[j]=y at *;generalize W y sj=r at *;obtain⟨rb,rs⟩:=r;dsimp only at hn cw hml;refine ZW ?_;refine xG.mk ⟨[false,false,true,false,true,true,true,true,false],by kernel_rfl,?_⟩;conv=>whnf
    refine .zW cr ?_;refine .gen _ _ (qZ.frame [0,1] cw ⟨rfl,rfl,rfl,rfl⟩ ?_ ?_) λ_=>?_
    ·repeat' first|exact Zq|apply aI
     all_goals first|exact JL _ _|exact hle0 _ _|exact hO _ _|exact qQ _ _
    ·exact wk
    refine ZS ?_ ?_<;>intro hb
    ·rw[aG hb]at hn;rw[hn,aG hb]at hwf;rw[hwf,hb];refine ZW ?_;refine⟨⟨_,_,.refl _ _,?_⟩⟩;conv=>whnf
     refine⟨rfl,rfl,by simp[nextId],.mk ?_ ?_⟩
     ·repeat' first|exact Zq|apply aI
      all_goals first|exact hle0 _ _|exact hle1 _ _|exact hO _ _|exact qP _|exact DJ _ _|exact qQ _ _|exact tZ _
     simp[uS]
    rw[aB (by rw[hb];simp)]at hn;refine ZW ?_;refine ZG ?_;refine⟨(j+1,rs),?_,?_,?_⟩;{exact⟨hjl,hn,hle.trans hml⟩}
    ·refine⟨?_,.mk ?_ ?_⟩;{exact wk}
     ·repeat' first|exact Zq|apply aI
      all_goals first|exact DJ _ _|exact hle1 _ _|exact hO _ _|exact qQ _ _
     simp[uS]
    show gt.ins.length-(j+1)<gt.ins.length-j;omega
   have hjl:K.length<=j:=(by have:¬j<gt.ins.length:=(by simpa using hh);omega);rw[aX hjl]at hn;simp only[yj]at hn;rw[hn,aB ak]at hwf;rw[hwf];refine ZW ?_;refine Nv (ZW ?_);refine⟨⟨_,_,.refl _ _,?_⟩⟩;conv=>whnf
   refine⟨rfl,rfl,by simp[nextId],.mk ?_ ?_⟩
   ·repeat' first|exact Zq|apply aI
    all_goals first|exact hle0 _ _|exact hle1 _ _|exact hO _ _|exact qP _|exact DJ _ _|exact qQ _ _|exact tZ _
   simp[uS]
def Bo(m:Md):List Int:=(List.range (m.pages.length+1)).map fun(k:Nat)=>(k:Int)-1
def yR(m:Md)(a:Int):List Node:=(List.range (qO m a).length).map fun(i:Nat)=>((2:Int),a,(i:Int))
def wQ(m:Md)(k:Nat):List Node:=((Bo m).drop k).flatMap (yR m)
def rE(m:Md):List Node:=(Bo m).flatMap (yR m)
theorem QO{m:Md}{k:Nat}(h:k<m.pages.length+1):(Bo m)[k]? = some ((k:Int)-1):=by unfold Bo;rw[dS,lS h];rfl
theorem Nw(m:Md):(Bo m).length=m.pages.length+1:=by simp[Bo]
theorem Ba{m:Md}{k:Nat}(h:k<m.pages.length+1):wQ m k=yR m ((k:Int)-1)++wQ m (k+1):=by unfold wQ;rw[yu? (QO h),nS]
theorem EC{m:Md}{k:Nat}(h:m.pages.length+1<=k):wQ m k=[]:=by unfold wQ;rw[aX (by rw[Nw];omega)];rfl
theorem H9{m:Md}{a:Int}{i:Nat}(h:i<(qO m a).length):(yR m a)[i]? = some (2,a,(i:Int)):=by unfold yR;rw[dS,lS h];rfl
theorem EN(m:Md)(a:Int):(yR m a).length=(qO m a).length:=by simp[yR]
theorem Ir{m:Md}{a:Int}:a∈Bo m↔(a = -1\/(0<=a/\a<(m.pages.length:Int))):=by unfold Bo;simp only[bg,iy];constructor;{rintro⟨k,hk,rfl⟩;omega};intro h;exact⟨(a+1).toNat,aj,aj⟩
theorem TL{m:Md}{a:Int}{x:Node}:x∈yR m a↔x.1=2/\x.2.1=a/\0<=x.2.2/\x.2.2<((qO m a).length:Int):=by
 obtain⟨p,q,r⟩:=x;unfold yR;simp only[bg,iy];constructor
 ·rintro⟨i,hi,h⟩;obtain⟨rfl,rfl,rfl⟩:2=p/\a=q/\(i:Int)=r:=by simpa using h
  exact⟨rfl,rfl,by show(0:Int)<=(i:Int);omega,by show(i:Int)<_;omega⟩
 rintro⟨h1,h2,h3,h4⟩;have h1:p=2:=h1;have h2:q=a:=h2;have h3:0<=r:=h3;have h4:r<((qO m a).length:Int):=h4;exact⟨r.toNat,aj,by rw[h1,h2,fJ h3]⟩
theorem uN{m:Md}{x:Node}:x∈rE m↔x.1=2/\(x.2.1 = -1\/(0<=x.2.1/\x.2.1<(m.pages.length:Int)))/\0<=x.2.2/\x.2.2<((qO m x.2.1).length:Int):=by unfold rE;rw[List.mem_flatMap];constructor;{rintro⟨a,ha,hx⟩;obtain⟨h1,rfl,h3⟩:=TL.1 hx;exact⟨h1,Ir.1 ha,h3⟩};rintro⟨h1,h2,h3⟩;exact⟨x.2.1,Ir.2 h2,TL.2 ⟨h1,rfl,h3⟩⟩
def RF(m:Md)(x:Node):Prop :=
 (x.1=0/\x.2.1=0/\0<=x.2.2/\x.2.2<(m.evs.length:Int))\/(x.1=1/\x.2.1=0/\0<=x.2.2/\x.2.2<(m.hs.length:Int))\/x∈rE m
def AQ(m:Md):Prop:=∀x∈rE m,∀s∈(rP m x).ins,0<s.length/\(EH s=true->0<=tq m.pages (s.drop 1))/\RF m (yH m x.2.1 s)
theorem KI.qO{m:Md}(hB:KI m){a:Int}(ha:a = -1\/(0<=a/\a<(m.pages.length:Int))):(qO m a).length<=100/\∀x∈qO m a,x.ins.length<=40:=by unfold S.qO;split;{exact hB.gates};exact hB.GI _ (getD_mem aj)
theorem b4Q{m:Md}(hB:KI m)(hc:AQ m)(x:Node)(hx:RF m x)(h2:x.1=2):b1x m (rE m) (RF m) x:=by have hm:x∈rE m:=(by rcases hx with h|h|h;{have:=h.1;omega};{have:=h.1;omega};exact h);obtain⟨_,h3,h4⟩:=uN.1 hm;exact⟨h3,h4,hm,(hB.qO h3).2 _ (getD_mem aj),hc x hm⟩
def NW(m:Md):Nat:=(rE m).length+1
theorem a0f(m:Md)(es:Marks):free (rE m) es<NW m:=by unfold free NW;have:=iw (λx=>!isM es x) (rE m);omega
abbrev Vp(m:Md):Node->WS Unit->Bool×WS Unit:=y5 (sZ m) (λ_ _=>()) (NW m)
def QC(m:Md):Bool:=(yj (Vp m) (rE m) ⟨[],()⟩).1
theorem b5J(x:Node)(m:Md):ZQ 153 [OE x] [(0,.box m.av)] (.uy []) [(0,.box m.av)]:=by
 refine ZN Tryz.func153 λhok=>?_;refine⟨⟨_,_,.refl _ _,?_⟩⟩;conv=>whnf
 refine Zx ?_ ?_;{exact trivial};exact wk
theorem b0g(m:Md)(hB:KI m)(hc:AQ m):ZQ 82 [m.av] [] (.bool (QC m)) []:=by
 have cw:=b23 m 153 (λ_:Unit=>m.av) (λ_ _=>rfl) (λ_ _=>rfl) (λ_ _=>()) (rE m) (RF m) (b4Q hB hc) (λ_ x _=>b5J x m) (NW m);have cG:=λa h=>Gv m a h;have hcy:QC m=(yj (Vp m) (wQ m 0) ⟨[],()⟩).1:=rfl;have hpl:=hB.pages;refine ZN Tryz.func82 λhok=>?_;refine qW.of <| qN.inv (.refl _ _) (fun(q:Nat×WS Unit)=>q.1<=m.pages.length+1/\QC m=(yj (Vp m) (wQ m q.1) q.2).1)
  (λq=>[(4,.int .i64 ((q.1:Int)-1))]) (λq=>[(1,.tY Rh (xO q.2.es)),(0,.box m.av)]) (λq=>m.pages.length+1-q.1) (0,⟨[],()⟩) ?_ (λ_=>rfl) ?_ ?_
 ·exact⟨aP _,hcy⟩
 ·exact Zv wk wk
 rintro⟨k,s⟩ ⟨hk,hn⟩ _;dsimp only at hk hn;refine ZS ?_ ?_<;>intro h
 ·have hkl:k<m.pages.length+1:=(by simp only[aC]at h;omega);have ha:(k:Int)-1 = -1\/(0<=(k:Int)-1/\(k:Int)-1<(m.pages.length:Int)):=aj;have hgl:=(hB.qO ha).1;rw[Ba hkl]at hn;refine ZW ?_;refine .zW (cG _ ha) ?_;refine qW.of <| qN.inv (.refl _ _) (fun(q:Nat×WS Unit)=>q.1<=(qO m ((k:Int)-1)).length/\QC m=(yj (Vp m) ((yR m ((k:Int)-1)).drop q.1++wQ m (k+1)) q.2).1)
   (λq=>[(18,.int .i64 q.1)]) (λq=>[(1,.tY Rh (xO q.2.es)),(0,.box m.av)]) (λq=>(qO m ((k:Int)-1)).length-q.1) (0,s) ?_ (λ_=>rfl) ?_ ?_
  ·exact⟨aP _,hn⟩
  ·refine Zv wk ?_;repeat' first|exact Zq|apply aI
   all_goals first|exact qP _|exact qQ _ _
  rintro⟨i,s2⟩ ⟨hi,hn2⟩ _;dsimp only at hi hn2;refine ZS ?_ ?_<;>intro hh
  ·have hil:i<(qO m ((k:Int)-1)).length:=(by simpa using hh);rw[yu? (H9 hil),eP]at hn2;simp only[yj,Vp]at hn2;have hmem:(2,(k:Int)-1,(i:Int))∈rE m:=uN.2 ⟨rfl,ha,by show(0:Int)<=i;omega,by show(i:Int)<((qO m ((k:Int)-1)).length:Int);omega⟩;have cw:=cw (2,(k:Int)-1,(i:Int)) s2 (.inr (.inr hmem)) (a0f m _);generalize hr:y5 (sZ m) (λ_ _=>()) (NW m) (2,(k:Int)-1,(i:Int)) s2=r at *;obtain⟨rb,rs⟩:=r;dsimp only at hn2 cw;refine ZW ?_;refine .gen _ _ cw λ_=>?_;refine ZS ?_ ?_<;>intro hb;{rw[aG hb]at hn2;rw[hn2,hb];exact ZJ};rw[aB (by rw[hb];simp)]at hn2;refine ZW ?_;refine ZG ?_;refine⟨(i+1,rs),?_,?_,?_⟩;{exact⟨hil,hn2⟩}
   ·refine Zv wk ?_;repeat' first|exact Zq|apply aI
    all_goals first|exact qP _|exact qQ _ _
   show(qO m ((k:Int)-1)).length-(i+1)<(qO m ((k:Int)-1)).length-i;omega
  have hil:(yR m ((k:Int)-1)).length<=i:=(by have:¬i<(qO m ((k:Int)-1)).length:=(by simpa using hh);rw[EN];omega);rw[aX hil,fE]at hn2;refine ZW ?_;refine ZG ?_;refine⟨(k+1,s2),?_,?_,?_⟩;{exact⟨hkl,hn2⟩}
  ·refine Zv ?_ ?_
   ·repeat' first|exact Zq|apply aI
    all_goals (show _=_;congr 1;omega)
   repeat' first|exact Zq|apply aI
   all_goals first|exact qP _|exact qQ _ _
  show m.pages.length+1-(k+1)<m.pages.length+1-k;omega
 have hkl:m.pages.length+1<=k:=(by simp only[aC]at h;omega);rw[EC hkl]at hn;simp only[yj]at hn;rw[hn];exact ZJ
section
variable{σ:Type}(kids:Node->List Node)(step:σ->Node->σ)(V:σ->Node->Prop)
structure Inv(s:WS σ):Prop where
 rank:∃rank:Node->Nat,∀x,look s.es x=2->∀y∈kids x,y.1=2->look s.es y=2/\rank y<rank x
 met:∀x,look s.es x=2->V s.st x/\∀y∈kids x,y.1≠2->V s.st y
structure On(s s':WS σ):Prop where
 one:∀y,look s'.es y=1↔look s.es y=1
 two:∀y,look s.es y=2->look s'.es y=2
 met:∀y,V s.st y->V s'.st y
theorem On.refl(s:WS σ):On V s s:=⟨λ_=>jm,λ_ h=>h,λ_ h=>h⟩
theorem On.trans{a b c:WS σ}(h:On V a b)(g:On V b c):On V a c:=⟨λy=>(g.one y).trans (h.one y),λy e=>g.two y (h.two y e),λy e=>g.met y (h.met y e)⟩
structure After(x:Node)(s s':WS σ):Prop where
 inv:Inv kids V s'
 on:On V s s'
 done:x.1=2->look s'.es x=2
 leaf:x.1≠2->V s'.st x
variable{kids step V}
theorem OL{f:Node->WS σ->Bool×WS σ}(ok:Node->Prop)(m:Nat)(fr:Marks->Nat)(hfr:∀y s,fr (f y s).2.es<=fr s.es)
  (hf:∀y s,ok y->fr s.es<=m->Inv kids V s->(f y s).1=false->After kids V y s (f y s).2) :
  ∀ (l:List Node) (s:WS σ),(∀y∈l,ok y)->fr s.es<=m->Inv kids V s->(yj f l s).1=false ->
    Inv kids V (yj f l s).2/\On V s (yj f l s).2/\∀y∈l,(y.1=2->look (yj f l s).2.es y=2)/\(y.1≠2->V (yj f l s).2.st y)
 | [],s,_,_,hi,_=>⟨hi,.refl V s,ak⟩
 |y::l,s,hl,hm,hi,h=>by simp only[yj]at h ⊢;by_cases hb:(f y s).1=true;{rw[aG hb]at h;rw[hb]at h;cases h};rw[aB hb]at h ⊢;have hy:=hf y s (hl y ak) hm hi (by simpa using hb);have hm2:=hfr y s;obtain⟨h1,h2,h3⟩:=OL ok m fr hfr hf l (f y s).2 (λz hz=>hl z (by simp[hz])) aj hy.inv h;refine⟨h1,hy.on.trans V h2,λz hz=>?_⟩;rcases aU.1 hz with rfl|hz;{exact⟨λe=>h2.two _ (hy.done e),λe=>h2.met _ (hy.leaf e)⟩};exact h3 z hz
theorem b0H{rank:Node->Nat}:∀{l:List Node} {y:Node},y∈l->rank y<=(l.map rank).sum
 | [],_,h=>by simp at h
 |x::l,y,h=>by simp only[dF,mM];rcases aU.1 h with rfl|h;{omega};have:=b0H (rank:=rank) h;omega
theorem Vo(all:List Node)(ok:Node->Prop)(hok:∀x,ok x->x.1=2->x∈all/\∀y∈kids x,ok y)(hV1:∀st x,V (step st x) x)(hV2:∀st x y,V st y->V (step st x) y) :
  ∀(n:Nat) (x:Node) (s:WS σ),ok x->free all s.es<n->Inv kids V s->(y5 kids step n x s).1=false->After kids V x s (y5 kids step n x s).2
 | 0,_,_,_,h,_,_=>aj
 | n+1,x,s,hx,hf,hi,h=>by
   simp only[y5]at h ⊢;by_cases h1:x.1≠2;{rw[aG h1];exact⟨⟨hi.rank,λy hy=>⟨hV2 _ _ _ (hi.met y hy).1,λz hz e=>hV2 _ _ _ ((hi.met y hy).2 z hz e)⟩⟩,⟨λ_=>jm,λ_ h=>h,λy=>hV2 _ _ _⟩,λe=>absurd e h1,λ_=>hV1 _ _⟩};rw[aB h1]at h ⊢;by_cases h2:look s.es x=1;{rw[aG h2]at h;cases h};rw[aB h2]at h ⊢;by_cases h3:look s.es x=2;{rw[aG h3];exact⟨hi,.refl V s,λ_=>h3,λe=>absurd e h1⟩};rw[aB h3]at h ⊢;obtain⟨hm,hk⟩:=hok x hx aj;have hlt:=a6p (all:=all) (v:=1) hm h2 h3 (.inl rfl);have hi1:Inv kids V ⟨mark s.es x 1,step s.st x⟩:=by obtain⟨rank,hr⟩:=hi.rank;refine⟨⟨rank,λy hy z hz e=>?_⟩,λy hy=>?_⟩;{have hy:look (mark s.es x 1) y=2:=hy;rw[wS]at hy;split at hy;{cases hy};have:=hr y hy z hz e;refine⟨?_,this.2⟩;show look (mark s.es x 1) z=2;rw[wS,aB (λe=>h3 (by rw[e];exact this.1))];exact this.1};have hy:look (mark s.es x 1) y=2:=hy;rw[wS]at hy;split at hy;{cases hy};exact⟨hV2 _ _ _ (hi.met y hy).1,λz hz e=>hV2 _ _ _ ((hi.met y hy).2 z hz e)⟩
   by_cases hb:(yj (y5 kids step n) (kids x) ⟨mark s.es x 1,step s.st x⟩).1=true;{rw[aG hb]at h;rw[hb]at h;cases h};rw[aB hb];obtain⟨k1,k2,k3⟩:=OL (kids:=kids) (V:=V) ok (n-1) (free all) (λy s=>a1s (MB n y s)) (λy s hy hs hi hb=>Vo all ok hok hV1 hV2 n y s hy aj hi hb) (kids x) ⟨mark s.es x 1,step s.st x⟩ hk (by show free all (mark s.es x 1)<=n-1;omega) hi1 (by simpa using hb);generalize yj (y5 kids step n) (kids x) ⟨mark s.es x 1,step s.st x⟩=r at *;obtain⟨rb,rs⟩:=r;dsimp only at k1 k2 k3 ⊢;have hx1:look rs.es x=1:=(k2.one x).2 (by show look (mark s.es x 1) x=1;rw[wS,aG rfl]);refine⟨⟨?_,λy hy=>?_⟩,⟨λy=>?_,λy hy=>?_,λy hy=>k2.met y (hV2 _ _ _ hy)⟩,λ_=>?_,λe=>absurd e h1⟩
   ·obtain⟨rank,hr⟩:=k1.rank;refine⟨λz=>if z=x then((kids x).map rank).sum+1 else rank z,λy hy z hz e=>?_⟩;show look (mark rs.es x 2) z=2/\_;by_cases hyx:y=x
    ·subst hyx;have hz2:=(k3 z hz).1 e;have hzx:z≠y:=λe=>by rw[e,hx1]at hz2;cases hz2
     rw[wS,aB (Ne.symm hzx)];refine⟨hz2,?_⟩;simp only[aB hzx,if_true];have:=b0H (rank:=rank) hz;omega
    have hy:look (mark rs.es x 2) y=2:=hy;rw[wS,aB (Ne.symm hyx)]at hy;have:=hr y hy z hz e;have hzx:z≠x:=λe=>by rw[e,hx1]at this;cases this.1
    rw[wS,aB (Ne.symm hzx)];refine⟨this.1,?_⟩;simp only[aB hzx,aB hyx];exact this.2
   ·have hy:look (mark rs.es x 2) y=2:=hy;rw[wS]at hy;split at hy;{rename_i e;subst e;exact⟨k2.met _ (hV1 _ _),λz hz e=>(k3 z hz).2 e⟩};exact k1.met y hy
   ·show look (mark rs.es x 2) y=1↔look s.es y=1;rw[wS];by_cases hyx:x=y;{subst hyx;rw[aG rfl];exact⟨λe=>absurd e au,λe=>absurd e h2⟩};rw[aB hyx,k2.one y];show look (mark s.es x 1) y=1↔_;rw[wS,aB hyx]
   ·show look (mark rs.es x 2) y=2;rw[wS];split;{rfl};rename_i hyx;refine k2.two y ?_;show look (mark s.es x 1) y=2;rw[wS,aB hyx];exact hy
   show look (mark rs.es x 2) x=2;rw[wS,aG rfl]
theorem Vm(ok:Node->Prop)(hok:∀x,ok x->x.1=2->∀y∈kids x,ok y)(rank:Node->Nat)(hr:∀x,ok x->x.1=2->∀y∈kids x,y.1=2->rank y<rank x) :
  ∀(n:Nat) (x:Node) (s:WS σ),ok x->(x.1=2->∀z,look s.es z=1->rank x<rank z)->(y5 kids step n x s).1=false/\∀y,look (y5 kids step n x s).2.es y=1->look s.es y=1
 | 0,_,_,_,_=>⟨rfl,λ_ h=>h⟩
 | n+1,x,s,hx,hz=>by
   simp only[y5];by_cases h1:x.1≠2;{rw[aG h1];exact⟨rfl,λ_ h=>h⟩};rw[aB h1];have h1:x.1=2:=aj;by_cases h2:look s.es x=1;{have:=hz h1 x h2;omega};rw[aB h2];by_cases h3:look s.es x=2;{rw[aG h3];exact⟨rfl,λ_ h=>h⟩};rw[aB h3]
   have key:∀(l:List Node) (t:WS σ),(∀y∈l,y∈kids x)->(∀z,look t.es z=1->z=x\/look s.es z=1) ->
     (yj (y5 kids step n) l t).1=false/\∀z,look (yj (y5 kids step n) l t).2.es z=1->z=x\/look s.es z=1:=by
    intro l;induction l with
    |nil=>intro t _ ht;exact⟨rfl,ht⟩
    | cons y l ih =>
      intro t hl ht;have hy:=hl y ak;obtain⟨w1,w2⟩:=Vm ok hok rank hr n y t (hok x hx h1 y hy) (λe z hz1=>by
       have hyx:=hr x hx h1 y hy e;rcases ht z hz1 with rfl|hz2;{exact hyx};have:=hz h1 z hz2;omega)
      simp only[yj];rw[aB (by rw[w1];simp)];exact ih _ (λz hz=>hl z (by simp[hz])) λz hz1=>ht z (w2 z hz1)
   obtain⟨k1,k2⟩:=key (kids x) ⟨mark s.es x 1,step s.st x⟩ (λy hy=>hy) (λz hz1=>by
    have hz1:look (mark s.es x 1) z=1:=hz1;rw[wS]at hz1;split at hz1;{rename_i e;exact .inl e.symm};exact .inr hz1)
   rw[aB (by rw[k1];simp)];refine⟨rfl,λy hy=>?_⟩;have hy:look (mark (yj (y5 kids step n) (kids x) ⟨mark s.es x 1,step s.st x⟩).2.es x 2) y=1:=hy;rw[wS]at hy;split at hy;{cases hy};rename_i hne;rcases k2 y hy with e|e;{exact absurd e.symm hne};exact e
end
theorem yL{m:Md}(hc:AQ m){x:Node}(hx:RF m x)(h2:x.1=2):x∈rE m/\∀y∈sZ m x,RF m y:=by have hm:x∈rE m:=(by rcases hx with h|h|h;{have:=h.1;omega};{have:=h.1;omega};exact h);refine⟨hm,λy hy=>?_⟩;unfold sZ at hy;obtain⟨s,hs,rfl⟩:=bg.1 hy;exact(hc x hm s hs).2.2
def QX(m:Md)(rank:Node->Nat):Prop:=∀x,RF m x->x.1=2->∀y∈sZ m x,y.1=2->rank y<rank x
theorem a2Z{m:Md}(hc:AQ m)(h:QC m=false):∃rank,QX m rank:=by
 have hi:Inv (sZ m) (fun(_:Unit) _=>True) ⟨[],()⟩:=⟨⟨λ_=>0,λx hx=>by simp[look]at hx⟩,λx hx=>by simp[look]at hx⟩;obtain⟨k1,_,k3⟩:=OL (kids:=sZ m) (V:=fun(_:Unit) _=>True) (RF m) (rE m).length (free (rE m)) (f:=Vp m) (λy s=>a1s (MB _ y s))
  (λy s hy hs hi hb=>Vo (rE m) (RF m) (λx hx h2=>yL hc hx h2) (λ_ _=>trivial) (λ_ _ _ _=>trivial) (NW m) y s hy (by unfold NW;omega) hi hb)
  (rE m) ⟨[],()⟩ (λy hy=>.inr (.inr hy)) (by have:=a0f m [];unfold NW at this;show free (rE m) []<=_;omega) hi h
 obtain⟨rank,hr⟩:=k1.rank;refine⟨rank,λx hx h2 y hy e=>(hr x ?_ y hy e).2⟩;exact(k3 x (yL hc hx h2).1).1 h2
def uT(m:Md):Int:=wW (λ_ a=>wW (uU m a) 0 (qO m a)) 0 (Bo m)
def yI(m:Md):List Int->List Str->Int
 | [],_=>0
 |a::l,sp=>if(yQ m a sp).1≠0 then(yQ m a sp).1 else yI m l (yQ m a sp).2
def rF(m:Md):Int :=
 if sV m.name=false then 5 else if rG m≠0 then rG m else if uP m≠0 then uP m
 else if uT m≠0 then uT m else if yI m (Bo m) []≠0 then yI m (Bo m) []
 else if uZ m (-1) m.top=false then 5 else if vO m≠0 then vO m else if uX m≠0 then uX m
 else if QC m=true then 14 else 0
theorem RS{m:Md}{a:Int}{g:Mg}:∀{l:List Str} {k:Nat} {sp:List Str},(zn m a g k l sp).1=0->∀s∈l,uZ m a s=true
 | [],_,_,_,s,hs=>by simp at hs
 | x::l,k,sp,h,s,hs=>by
   simp only[zn]at h;split at h;{cases h};rename_i h1;split at h;{cases h};have hx:uZ m a x=true:=by simpa using h1
   rcases aU.1 hs with rfl|hs;{exact hx};split at h;{split at h;{cases h};exact RS h s hs};exact RS h s hs
theorem TT{m:Md}{a:Int}:∀{l:List Mg} {sp:List Str},(vI m a l sp).1=0->∀g∈l,∀s∈g.ins,uZ m a s=true
 | [],_,_,g,hg=>by simp at hg
 | x::l,sp,h,g,hg=>by
   simp only[vI]at h;split at h;{rename_i h1;exact absurd h h1};rename_i h1;have h1:(zn m a x 0 x.ins sp).1=0:=by simpa using h1
   rcases aU.1 hg with rfl|hg;{exact RS h1};exact TT h g hg
theorem GR{m:Md}{a:Int}{sp:List Str}(h:(yQ m a sp).1=0):(∀g∈qO m a,∀s∈g.ins,uZ m a s=true)/\(a ≠ -1->0<=tX (qO m a) (sG m a)\/0<=rM m.evs (sG m a)):=by
 unfold yQ at h;split at h;{rename_i h1;exact absurd h h1};rename_i h1;have h1:(vI m a (qO m a) sp).1=0:=by simpa using h1
 split at h;{cases h};rename_i h2;exact⟨TT h1,λha=>by
  rcases Int.lt_or_le (tX (qO m a) (sG m a)) 0 with h3|h3;{rcases Int.lt_or_le (rM m.evs (sG m a)) 0 with h4|h4;{exact absurd ⟨ha,h3,h4⟩ h2};exact .inr h4};exact .inl h3⟩
theorem Gp{m:Md}:∀{l:List Int} {sp:List Str},yI m l sp=0->∀a∈l,∃sp',(yQ m a sp').1=0
 | [],_,_,a,ha=>by simp at ha
 |x::l,sp,h,a,ha=>by simp only[yI]at h;split at h;{rename_i h1;exact absurd h h1};rename_i h1;rcases aU.1 ha with rfl|ha;{exact⟨sp,by simpa using h1⟩};exact Gp h a ha
theorem Jd{s:Str}(h:sV s=true):0<s.length:=by unfold sV at h;simp only[aK,bT]at h;exact h.1.1.1
theorem Aj{α:Type}{f:α->Str}{l:List α}{s:Str}(h:0<=yJ (λx=>decide (f x=s)) l):∃(i:Nat) (hi:i<l.length),yJ (λx=>decide (f x=s)) l=i/\f l[i]=s:=by rcases zH (λx=>decide (f x=s)) l with⟨h1,_⟩|⟨i,hi,h1,h2,_⟩;{omega};exact⟨i,hi,h1,eF h2⟩
theorem wI{m:Md}(h:rG m=0):m.evs.length<=24/\m.hs.length<=16/\(∀(k:Nat) (hk:k<m.evs.length),xZ m k m.evs[k]=0)/\(∀(k:Nat) (hk:k<m.hs.length),BR m k m.hs[k]=0):=by
 unfold rG at h;split at h;{cases h};split at h;{rename_i h1;exact absurd h h1};rename_i h1;split at h;{cases h};have h1:wW (xZ m) 0 m.evs=0:=by simpa using h1
 refine⟨aj,aj,λk hk=>?_,λk hk=>?_⟩;{have:=Em.1 h1 k hk;simpa using this};have:=Em.1 h k hk;simpa using this
theorem Ej{m:Md}(h:uT m=0){a:Int}(ha:a = -1\/(0<=a/\a<(m.pages.length:Int))):∀(k:Nat) (hk:k<(qO m a).length),uU m a k (qO m a)[k]=0:=by intro k hk;have hm:=Ir.2 ha;obtain⟨j,hj,rfl⟩:=dN hm;have:=Em.1 h j hj;have:=Em.1 this k hk;simpa using this
theorem b2Q{m:Md}(h:rG m=0){s:Str}(hs:0<=rM m.evs s):0<s.length:=by obtain⟨i,hi,_,h2⟩:=Aj hs;have:=(wI h).2.2.1 i hi;unfold xZ at this;split at this;{cases this};rename_i h3;rw[<- h2];exact Jd (by simpa using h3)
theorem b2B{m:Md}(h:rG m=0){s:Str}(hs:0<=tN m.hs s):0<s.length:=by obtain⟨i,hi,_,h2⟩:=Aj hs;have:=(wI h).2.2.2 i hi;unfold BR at this;split at this;{cases this};rename_i h3;rw[<- h2];exact Jd (by simpa using h3)
theorem a6o{m:Md}(h:uT m=0){a:Int}(ha:a = -1\/(0<=a/\a<(m.pages.length:Int))){s:Str}(hs:0<=tX (qO m a) s):0<s.length:=by obtain⟨i,hi,_,h2⟩:=Aj hs;have:=Ej h ha i hi;unfold uU at this;split at this;{cases this};rename_i h3;rw[<- h2];exact Jd (by simpa using h3)
theorem a2p{m:Md}{a:Int}{s:Str}(ha:a = -1\/(0<=a/\a<(m.pages.length:Int)))(h:0<=rM m.evs s\/0<=tN m.hs s\/0<=tX (qO m a) s):RF m (y7 m a s):=by unfold y7;split;{rename_i h1;exact .inl ⟨rfl,rfl,h1,EF _ _⟩};split;{rename_i h2;exact .inr (.inl ⟨rfl,rfl,h2,EF _ _⟩)};exact .inr (.inr (uN.2 ⟨rfl,ha,by show 0<=tX _ _;omega,EF _ _⟩))
structure b6l(m:Md)(a:Int)(s:Str):Prop where
 pos:0<s.length
 pg:EH s=true->0<=tq m.pages (s.drop 1)
 ok:RF m (yH m a s)
theorem RU{m:Md}(h1:rG m=0)(h2:uT m=0)(h3:yI m (Bo m) []=0){a:Int}(ha:a = -1\/(0<=a/\a<(m.pages.length:Int))){s:Str}(hs:uZ m a s=true):b6l m a s:=by unfold uZ at hs;by_cases hat:EH s=true;{rw[aG hat]at hs;have hs:0<=tq m.pages (s.drop 1):=eF hs;have hp:tq m.pages (s.drop 1)<(m.pages.length:Int):=EF _ _;refine⟨?_,λ_=>hs,?_⟩;{unfold EH at hat;simp only[aK,bT]at hat;exact hat.1};unfold yH;rw[aG hat];obtain⟨sp,h4⟩:=Gp h3 _ (Ir.2 (.inr ⟨hs,hp⟩));refine a2p (.inr ⟨hs,hp⟩) ?_;rcases(GR h4).2 aj with h5|h5;{exact .inr (.inr h5)};exact .inl h5};rw[aB hat]at hs;have hs:0<=rM m.evs s\/0<=tN m.hs s\/0<=tX (qO m a) s:=(by simp only[fP,bT]at hs;rcases hs with(h|h)|h;{exact .inl h};{exact .inr (.inl h)};exact .inr (.inr h));refine⟨?_,λh=>absurd h hat,?_⟩;{rcases hs with h|h|h;{exact b2Q h1 h};{exact b2B h1 h};exact a6o h2 ha h};unfold yH;rw[aB hat];exact a2p ha hs
theorem Sv{m:Md}(h1:rG m=0)(h2:uT m=0)(h3:yI m (Bo m) []=0):AQ m:=by intro x hx s hs;obtain⟨_,ha,hi⟩:=uN.1 hx;obtain⟨sp,h4⟩:=Gp h3 _ (Ir.2 ha);have hin:=(GR h4).1 (rP m x) (getD_mem aj) s hs;have:=RU h1 h2 h3 ha hin;exact⟨this.pos,this.pg,this.ok⟩
theorem MdC.qO{m:Md}(hC:MdC m){a:Int}(ha:a = -1\/(0<=a/\a<(m.pages.length:Int))):mgC (qO m a):=by unfold S.qO;split;{exact hC.gates};exact hC.pages _ (getD_mem aj)
theorem Qm{m:Md}{a:Int}:∀{l:List Mg} {sp:List Str},(∀x∈l,x.ins.length<=40)->(vI m a l sp).2.length<=sp.length+40*l.length
 | [],sp,_=>by simp[vI]
 |g::l,sp,h=>by have h1:=OM (m:=m) (a:=a) (g:=g) (l:=g.ins) (k:=0) (sp:=sp);have h2:=h g ak;simp only[vI];split;{simp only[dY];omega};have:=Qm (m:=m) (a:=a) (l:=l) (sp:=(zn m a g 0 g.ins sp).2) λx hx=>h x (by simp[hx]);simp only[dY];omega
theorem a09{m:Md}(hB:KI m){a:Int}(ha:a = -1\/(0<=a/\a<(m.pages.length:Int))){sp:List Str}:(yQ m a sp).2.length<=sp.length+4000:=by obtain⟨h1,h2⟩:=hB.qO ha;have:=Qm (m:=m) (a:=a) (l:=qO m a) (sp:=sp) h2;unfold yQ;split;{omega};split;{simp};omega
theorem Jo(m:Md)(hC:MdC m)(hB:KI m)(R:AV)(hR:R=zh (rF m)):ZQ 24 [m.av] [] R []:=by
 have hpl:=hB.pages;refine ZN Tryz.func24 λhok=>?_;refine .zW (Bh m.name) ?_;constructor<;>intro g1;{have g1:sV m.name=false:=(by simpa using g1);obtain rfl:R=.uY 49 (.int .i64 5):=(by rw[hR,show rF m=5 from by unfold rF;rw[aG g1]];rfl);exact ZJ};have g1:¬sV m.name=false:=(by simpa using g1);refine ZW ?_;have cE:=YZ m hC _ rfl;by_cases g2:rG m≠0;{obtain rfl:R=.uY 49 (.int .i64 (rG m)):=(by rw[hR,show rF m=rG m from by unfold rF;rw[aB g1];rw[aG g2],rY g2]);rw[rY g2]at cE;refine .zW cE ?_;exact ZH};rw[show rG m=0 from by simpa using g2,rZ]at cE;refine .zW cE ?_;have cE:=a0G m hB _ rfl;by_cases g3:uP m≠0;{obtain rfl:R=.uY 49 (.int .i64 (uP m)):=(by rw[hR,show rF m=uP m from by unfold rF;rw[aB g1,aB g2];rw[aG g3],rY g3]);rw[rY g3]at cE;refine .zW cE ?_;exact ZH};rw[show uP m=0 from by simpa using g3,rZ]at cE;refine .zW cE ?_;refine qW.of <| qN.inv (.refl _ _) (fun(k:Nat)=>k<=m.pages.length+1/\uT m=wW (λ_ a=>wW (uU m a) 0 (qO m a)) k ((Bo m).drop k)) (fun(k:Nat)=>[(5,.int .i64 ((k:Int)-1))]) (λ_=>_) (fun(k:Nat)=>m.pages.length+1-k) 0 ?_ (λ_=>rfl) ?_ ?_;{exact⟨aP _,rfl⟩};{exact wk};rintro k ⟨hk,hn⟩ _;refine ZS ?_ ?_<;>intro h
 ·have hkl:k<m.pages.length+1:=(by simp only[aC]at h;omega);have ha:(k:Int)-1 = -1\/(0<=(k:Int)-1/\(k:Int)-1<(m.pages.length:Int)):=aj;rw[yu? (QO hkl)]at hn;simp only[wW]at hn;have cE:=a0H m _ ha (hC.qO ha) _ rfl;by_cases g4:wW (uU m ((k:Int)-1)) 0 (qO m ((k:Int)-1))≠0;{rw[aG g4]at hn;rw[<- hn]at cE g4;obtain rfl:R=.uY 49 (.int .i64 (uT m)):=(by rw[hR,show rF m=uT m from by unfold rF;rw[aB g1,aB g2,aB g3,aG g4],rY g4]);rw[rY g4]at cE;refine ZW ?_;refine .zW cE ?_;exact ZH};rw[aB g4]at hn;rw[show wW (uU m ((k:Int)-1)) 0 (qO m ((k:Int)-1))=0 from by simpa using g4,rZ]at cE;refine ZW ?_;refine .zW cE ?_;refine ZG ?_;refine⟨k+1,?_,?_,?_⟩;{exact⟨hkl,hn⟩}
  ·refine Zv ?_ ?_
   ·repeat' first|exact Zq|apply aI
    all_goals (show _=_;congr 1;omega)
   exact wk
  omega
 have hkl:m.pages.length+1<=k:=(by simp only[aC]at h;omega);rw[aX (by rw[Nw];omega)]at hn;simp only[wW]at hn;have g4:¬uT m≠0:=(by rw[hn];simp);have z4:=hn;clear h hn hk hkl;refine ZW ?_;refine qW.of <| qN.inv (.grow 7 1 [] _ rfl (.inl ⟨rfl,rfl⟩) (.refl _ _)) (fun(q:Nat×List Str)=>q.1<=m.pages.length+1/\yI m (Bo m) []=yI m ((Bo m).drop q.1) q.2/\q.2.length<=4000*q.1)
  (λq=>[(8,.int .i64 ((q.1:Int)-1)),(7,.sl 1 (q.2.map .str) (.own 1))]) (λq=>[(1,.tok 1 q.2.length),(0,.box m.av)]) (λq=>m.pages.length+1-q.1) (0,[]) ?_ (λ_=>rfl) ?_ ?_
 ·exact⟨aP _,rfl,ak⟩
 ·exact Zv wk wk
 rintro⟨k,sp⟩ ⟨hk,hn,hsp⟩ _;dsimp only at hk hn hsp;refine ZS ?_ ?_<;>intro h
 ·have hkl:k<m.pages.length+1:=(by simp only[aC]at h;omega);have ha:(k:Int)-1 = -1\/(0<=(k:Int)-1/\(k:Int)-1<(m.pages.length:Int)):=aj;rw[yu? (QO hkl)]at hn;simp only[yI]at hn;have hc:=λR G=>YW m ((k:Int)-1) sp ha (hB.qO ha) aj R G;have hpi:=a09 hB ha (sp:=sp);generalize yQ m ((k:Int)-1) sp=pi at *;obtain⟨pe,ps⟩:=pi;dsimp only at hn hc hpi;refine ZW ?_;by_cases hE:pe=0
  ·rw[aB (by simp[hE])]at hn;refine .gen _ _ (qZ.frame [1] (hc _ _ (by rw[aG hE]) (by rw[aG hE])) ⟨rfl,rfl,rfl,rfl⟩ ?_ ?_) λ_=>?_;{exact wk};{exact wk};refine ZW ?_;refine ZG ?_;refine⟨(k+1,ps),?_,?_,?_⟩;{exact⟨hkl,hn,by show ps.length<=4000*(k+1);omega⟩}
   ·refine Zv ?_ ?_
    ·repeat' first|exact Zq|apply aI
     all_goals (show _=_;congr 1;omega)
    exact wk
   show m.pages.length+1-(k+1)<m.pages.length+1-k;omega
  rw[aG hE]at hn;have g5:yI m (Bo m) []≠0:=(by rw[hn];exact hE);obtain rfl:R=.uY 49 (.int .i64 pe):=(by rw[hR,show rF m=pe from by unfold rF;rw[aB g1,aB g2,aB g3,aB g4,aG g5,hn],rY hE]);refine .gen _ _ (qZ.frame [1] (hc _ _ (by rw[aB hE]) (by rw[aB hE])) ⟨rfl,rfl,rfl,rfl⟩ ?_ ?_) λ_=>?_;{exact wk};{exact wk};exact ZJ
 have hkl:m.pages.length+1<=k:=(by simp only[aC]at h;omega);rw[aX (by rw[Nw];omega)]at hn;simp only[yI]at hn;have g5:¬yI m (Bo m) []≠0:=(by rw[hn];simp);have z5:=hn;clear h hn hk hkl hsp;refine ZW ?_;refine .zW (Ns m (-1) m.top (.inl rfl)) ?_;constructor<;>intro g6;{have g6:uZ m (-1) m.top=false:=(by simpa using g6);obtain rfl:R=.uY 49 (.int .i64 5):=(by rw[hR,show rF m=5 from by unfold rF;rw[aB g1,aB g2,aB g3,aB g4,aB g5,aG g6]];rfl);exact ZJ};have g6:¬uZ m (-1) m.top=false:=(by simpa using g6);refine ZW ?_;have cE:=YX m hC hB _ rfl;by_cases g7:vO m≠0;{obtain rfl:R=.uY 49 (.int .i64 (vO m)):=(by rw[hR,show rF m=vO m from by unfold rF;rw[aB g1,aB g2,aB g3,aB g4,aB g5,aB g6];rw[aG g7],rY g7]);rw[rY g7]at cE;refine .zW cE ?_;exact ZH};rw[show vO m=0 from by simpa using g7,rZ]at cE;refine .zW cE ?_;have cE:=YV m hC hB _ rfl;by_cases g8:uX m≠0;{obtain rfl:R=.uY 49 (.int .i64 (uX m)):=(by rw[hR,show rF m=uX m from by unfold rF;rw[aB g1,aB g2,aB g3,aB g4,aB g5,aB g6,aB g7];rw[aG g8],rY g8]);rw[rY g8]at cE;refine .zW cE ?_;exact ZH};rw[show uX m=0 from by simpa using g8,rZ]at cE;refine .zW cE ?_;have cy:=b0g m hB (Sv (by simpa using g2) z4 z5);refine .zW cy ?_;constructor<;>intro g9;{obtain rfl:R=.uY 49 (.int .i64 14):=(by rw[hR,show rF m=14 from by unfold rF;rw[aB g1,aB g2,aB g3,aB g4,aB g5,aB g6,aB g7,aB g8,aG g9]];rfl);exact ZJ};obtain rfl:R=.vK:=(by rw[hR,show rF m=0 from by unfold rF;rw[aB g1,aB g2,aB g3,aB g4,aB g5,aB g6,aB g7,aB g8,aB (by rw[g9];simp)]];rfl);exact ZJ
structure J9(m:Md):Prop where
 name:sV m.name=true
 evs:rG m=0
 pages:uP m=0
 gates:uT m=0
 ins:yI m (Bo m) []=0
 top:uZ m (-1) m.top=true
 y8:vO m=0
 zS:uX m=0
 cyc:QC m=false
theorem vZ{m:Md}(h:rF m=0):J9 m:=by unfold rF at h;split at h;{cases h};rename_i h1;split at h;{rename_i h2;exact absurd h h2};rename_i h2;split at h;{rename_i h2;exact absurd h h2};rename_i h3;split at h;{rename_i h2;exact absurd h h2};rename_i h4;split at h;{rename_i h2;exact absurd h h2};rename_i h5;split at h;{cases h};rename_i h6;split at h;{rename_i h2;exact absurd h h2};rename_i h7;split at h;{rename_i h2;exact absurd h h2};rename_i h8;split at h;{cases h};rename_i h9;exact⟨by simpa using h1,by simpa using h2,by simpa using h3,by simpa using h4,by simpa using h5,by simpa using h6,by simpa using h7,by simpa using h8,by simpa using h9⟩
theorem a6X{m:Md}(h:J9 m):rF m=0:=by unfold rF;rw[aB (by simp[h.name]),aB (by simp[h.evs]),aB (by simp[h.pages]),aB (by simp[h.gates]),aB (by simp[h.ins]),aB (by simp[h.top]),aB (by simp[h.y8]),aB (by simp[h.zS]),aB (by simp[h.cyc])]
theorem J9.closed{m:Md}(h:J9 m):AQ m:=Sv h.evs h.gates h.ins
theorem J9.RU{m:Md}(h:J9 m){a:Int}(ha:a = -1\/(0<=a/\a<(m.pages.length:Int))){s:Str}(hs:uZ m a s=true):b6l m a s:=S.RU h.evs h.gates h.ins ha hs
theorem J9.lens{m:Md}(h:J9 m):m.evs.length<=24/\m.hs.length<=16:=⟨(wI h.evs).1,(wI h.evs).2.1⟩
def wO(m:Md)(a:Int)(s:Str):Node×Int :=
 if rF m≠0 then((0,0,0),rF m)else if a < -1 then((0,0,0),10)else if(m.pages.length:Int)<=a then((0,0,0),10)
 else if uZ m a s=false then((0,0,0),5)else(yH m a s,0)
theorem b3D(m:Md)(a:Int)(s:Str)(hC:MdC m)(hB:KI m)(R:AV)(hR:R=.uy [.int .i64 (wO m a s).1.1,.int .i64 (wO m a s).1.2.1,.int .i64 (wO m a s).1.2.2,zh (wO m a s).2]):ZQ 154 [m.av,.int .i64 a,.str s] [] R []:=by have cc:=Jo m hC hB _ rfl;have hpl:=hB.pages;refine ZN Tryz.func154 λhok=>?_;refine .pure _ _ ?_ ⟨rfl,a0l _⟩ cc λ_=>?_;{exact rQ _};by_cases g0:rF m≠0;{rw[rY g0];rw[show wO m a s=((0,0,0),rF m)from by unfold wO;rw[aG g0]]at hR;rw[rY g0]at hR;subst hR;exact ZJ};have h0:rF m=0:=(by simpa using g0);have hM:=vZ h0;rw[h0,rZ];refine ZS ?_ ?_<;>intro g1;{rw[show wO m a s=((0,0,0),10)from by unfold wO;rw[aB g0,aG g1]]at hR;rw[rY au]at hR;subst hR;exact ZJ};refine ZS ?_ ?_<;>intro g2;{have g2:(m.pages.length:Int)<=a:=(by simpa using g2);rw[show wO m a s=((0,0,0),10)from by unfold wO;rw[aB g0,aB g1,aG g2]]at hR;rw[rY au]at hR;subst hR;exact ZJ};have g2:¬(m.pages.length:Int)<=a:=(by simpa using g2);have ha:a = -1\/(0<=a/\a<(m.pages.length:Int)):=aj;refine ZW ?_;refine .zW (Ns m a s ha) ?_;constructor<;>intro g3;{have g3:uZ m a s=false:=(by simpa using g3);rw[show wO m a s=((0,0,0),5)from by unfold wO;rw[aB g0,aB g1,aB g2,aG g3]]at hR;rw[rY au]at hR;subst hR;exact ZJ};have g3:uZ m a s=true:=(by simpa using g3);have hin:=hM.RU ha g3;have cr:=a0y m a s hin.pos ha hin.pg;rw[show wO m a s=(yH m a s,0)from by unfold wO;rw[aB g0,aB g1,aB g2,aB (by simp[g3])]]at hR;rw[rZ]at hR;generalize yH m a s=r at *;subst hR;refine ZW ?_;refine .zW cr ?_;refine ZR ?_;exact ZH
structure b52(m:Md)(a:Int)(k:Nat)(x:Mg):Prop where
 name:sV x.name=true
 b6x:rM m.evs x.name<0
 b6w:tN m.hs x.name<0
 first:(k:Int)<=tX (qO m a) x.name
 own:uQ x=0
theorem J9.gate{m:Md}(hM:J9 m){a:Int}(ha:a = -1\/(0<=a/\a<(m.pages.length:Int))){k:Nat}(hk:k<(qO m a).length):b52 m a k (qO m a)[k]:=by have h:=Ej hM.gates ha k hk;unfold uU at h;split at h;{cases h};rename_i h1;split at h;{cases h};rename_i h2;split at h;{cases h};rename_i h3;split at h;{cases h};rename_i h4;exact⟨by simpa using h1,aj,aj,aj,h⟩
theorem JM{α:Type}{p:α->Bool}{l:List α}{k:Nat}(hk:k<l.length)(hp:p l[k]=true):0<=yJ p l/\yJ p l<=k:=by rcases zH p l with⟨_,h2⟩|⟨i,hi,h1,_,h3⟩;{have:=h2 _ (aN hk);rw[hp]at this;cases this};refine⟨aj,?_⟩;rw[h1];rcases lT k i with h|h;{have:=h3 k h;rw[hp]at this;cases this};omega
theorem J9.a9r{m:Md}(hM:J9 m){a:Int}(ha:a = -1\/(0<=a/\a<(m.pages.length:Int))){k:Nat}(hk:k<(qO m a).length):tX (qO m a) (qO m a)[k].name=k:=by have h1:=(hM.gate ha hk).first;have h2:=(JM (p:=λx=>decide (x.name=(qO m a)[k].name)) hk ak).2;unfold tX at h1 ⊢;omega
theorem BG{s:Str}(h:sV s=true):EH s=false:=by
 unfold sV at h;simp only[aK,bT]at h;unfold EH;rw[Bool.and_eq_false_iff];right;apply bM;intro e;have:=h.1.2;rw[e]at this
 revert this
 decide
theorem J9.a2I{m:Md}(hM:J9 m){a:Int}(ha:a = -1\/(0<=a/\a<(m.pages.length:Int))){x:Mg}(hx:x∈qO m a){s:Str}(hs:s∈x.ins):uZ m a s=true:=by obtain⟨sp,h4⟩:=Gp hM.ins _ (Ir.2 ha);exact(GR h4).1 x hx s hs
theorem J9.a8Q{m:Md}(hM:J9 m){p:Int}(hp:0<=p/\p<(m.pages.length:Int)):(0<=tX (qO m p) (sG m p)/\tN m.hs (sG m p)<0)\/0<=rM m.evs (sG m p):=by obtain⟨sp,h4⟩:=Gp hM.ins _ (Ir.2 (.inr hp));rcases(GR h4).2 aj with h|h;{left;refine⟨h,?_⟩;obtain⟨i,hi,_,h2⟩:=Aj h;have:=(hM.gate (.inr hp) hi).b6w;rw[h2]at this;exact this};exact .inr h
structure Nd where
 kind:Int
 k:Int
 args:List Int
 deriving DecidableEq,Inhabited
abbrev Nd.av(x:Nd):AV:=.ag [.int .i64 x.kind,.int .i64 x.k,iL x.args]
structure Fo where
 vars:Int
 nodes:List Nd
 top:Int
 deriving DecidableEq,Inhabited
abbrev Fo.av(x:Fo):AV:=.ag [.int .i64 x.vars,.sl 3 (x.nodes.map Nd.av) .no,.int .i64 x.top]
def lookO:Marks->Node->Option Int
 | [],_=>none
 |(y,v)::es,x=>if y=x then some v else lookO es x
theorem a7N{es:Marks}{x:Node}{k:AV->Prop}(h1:∀v,lookO es x=some v->k (.uy [.int .i64 v,.tt]))(h2:lookO es x=none->k (.uy [.int .i64 0,.ff])) :
  FW (xO es) (OE x) λr=>DI true (.int .i64 0) r k:=by
 have key:∃r,a4I (xO es) (OE x) r/\DI true (.int .i64 0) r k:=by
  induction es with
  |nil=>exact⟨none,by simp[a4I,xO],h2 rfl⟩
  | cons e es ih =>
    obtain⟨y,v⟩:=e;by_cases hy:y=x;{subst hy;exact⟨some (.int .i64 v),⟨_,dD,rfl,rfl⟩,h1 v (aG rfl)⟩};have e:lookO ((y,v)::es) x=lookO es x:=aB hy;rw[e]at h1 h2;obtain⟨r,g1,g2⟩:=ih h1 h2;refine⟨r,?_,g2⟩;cases r with
    |none =>intro z hz;simp only[xO,dF,aU]at hz;rcases hz with rfl|hz;{exact λe=>hy (a2G.1 e)};exact g1 z hz
    |some w =>obtain⟨z,hz,h3,h4⟩:=g1;exact⟨z,by simp only[xO,dF,aU];exact .inr hz,h3,h4⟩
 exact⟨key⟩
theorem CQ{es:Marks}{x y:Node}{v:Int}:lookO (mark es x v) y=if x=y then some v else lookO es y:=by
 induction es with
 |nil=>simp[mark,lookO]
 |cons e es ih =>obtain⟨z,u⟩:=e;simp only[mark];by_cases hz:z=x;{subst hz;simp only[if_true,lookO];split <;> rfl};simp only[aB hz,lookO,ih];by_cases hzy:z=y;{subst hzy;rw[aG rfl,aB (λe=>hz e.symm)];simp};simp only[aB hzy]
theorem SI{es:Marks}{x:Node}{v:Int}{k:AV->Prop}(h:k (.int .i64 v)):FW (xO (mark es x v)) (OE x) λr=>DI false (.int .i64 0) r k:=by refine a3z ?_;rw[wS,aG rfl];exact h
def GZ(k:Int):Int:=if k=0 then 2 else if k=5 then 2 else if k=1 then 3 else if k=2 then 4 else if k=3 then 1 else if k=4 then 5 else 0
def Dw(k:Int):Bool:=decide (k=0)||decide (k=5)||decide (k=1)||decide (k=2)||decide (k=3)||decide (k=4)
structure CS where
 nodes:List Nd
 es:Marks
 deriving Inhabited
def xM(vars:Int)(s:CS)(x:Node)(nd:Nd):(Bool×Int)×CS:=((false,vars+s.nodes.length),⟨s.nodes++[nd],mark s.es x (vars+s.nodes.length)⟩)
def Ij(m:Md)(x:Node):Hs:=m.hs.getD x.2.2.toNat default
def wB(f:Node->CS->(Bool×Int)×CS):List Node->CS->List Int->(Bool×List Int)×CS
 | [],s,acc=>((false,acc),s)
 |y::l,s,acc=>if(f y s).1.1=true then((true,acc),(f y s).2)else wB f l (f y s).2 (acc++[(f y s).1.2])
def sF(m:Md)(vars:Int):Nat->Node->CS->(Bool×Int)×CS
 | 0,_,s=>((true,0),s)
 | n+1,x,s=>if x.1=0 then((false,x.2.2),s)else
   match lookO s.es x with
   |some a=>((false,a),s)
   | none=>if x.1=1 then xM vars s x ⟨0,if(Ij m x).on=true then 1 else 0,[]⟩
     else if Dw (rP m x).kind=false then((true,0),s)
     else if(wB (sF m vars n) (sZ m x) s []).1.1=true then((true,0),(wB (sF m vars n) (sZ m x) s []).2)
     else xM vars (wB (sF m vars n) (sZ m x) s []).2 x ⟨GZ (rP m x).kind,(rP m x).k,(wB (sF m vars n) (sZ m x) s []).1.2⟩
structure Tb where
 order:List Int
 place:List Int
 nodes:List Node
 uq:Marks
 memo:Marks
def b4z(l:List Bool)(r:Int):Bool:=if r<=0 then false else if r=1 then true else l.getD (r-2).toNat false
def Zc(s:Int->Bool)(l:List Bool)(x:Node):List Bool:=l++[if s x.1 then b4z l x.2.2 else b4z l x.2.1]
def Kw(s:Int->Bool)(nodes:List Node):List Bool:=nodes.foldl (Zc s) []
def ev(nodes:List Node)(s:Int->Bool)(r:Int):Bool:=b4z (Kw s nodes) r
theorem vals_snoc(s:Int->Bool)(l:List Node)(x:Node):Kw s (l++[x])=Kw s l++[if s x.1 then ev l s x.2.2 else ev l s x.2.1]:=by unfold Kw;rw[gK];rfl
theorem Y5(s:Int->Bool)(l:List Node):(Kw s l).length=l.length:=by
 have:∀(l:List Node) (a:List Bool),(l.foldl (Zc s) a).length=a.length+l.length:=by
  intro l;induction l with
  |nil=>intro a;rfl
  |cons x l ih=>intro a;rw[fA,ih];simp[Zc];omega
 simpa[Kw]using this l []
theorem a8t(s:Int->Bool)(l m:List Node):∃t,Kw s (l++m)=Kw s l++t:=by
 have:∀(m:List Node) (a:List Bool),∃t,m.foldl (Zc s) a=a++t:=by
  intro m;induction m with
  |nil=>intro a;exact⟨[],ak⟩
  |cons x m ih =>intro a;obtain⟨t,ht⟩:=ih (Zc s a x);exact⟨_::t,by rw[fA,ht,Zc,bK];rfl⟩
 obtain⟨t,ht⟩:=this m (Kw s l);exact⟨t,by rw[Kw,gK];exact ht⟩
theorem F9(l:List Node)(s:Int->Bool):ev l s 0=false:=rfl
theorem OW(l:List Node)(s:Int->Bool):ev l s 1=true:=rfl
theorem RY(l m:List Node)(s:Int->Bool){r:Int}(h:r<2+(l.length:Int)):ev (l++m) s r=ev l s r:=by obtain⟨t,ht⟩:=a8t s l m;unfold ev b4z;rw[ht];split;{rfl};split;{rfl};have hl:(r-2).toNat<(Kw s l).length:=(by rw[Y5];omega);rw[aF,aF,bI hl]
theorem JQ(l:List Node)(s:Int->Bool){k:Nat}(hk:k<l.length)(h1:l[k].2.1<2+(k:Int))(h2:l[k].2.2<2+(k:Int)) :
  ev l s (2+k)=if s l[k].1 then ev l s l[k].2.2 else ev l s l[k].2.1:=by
 have e:l=l.take k++[l[k]]++l.drop (k+1):=(by rw[<- bV hk,fH]);have hkl:(l.take k).length=k:=aA;have e1:∀r:Int,r<2+(k:Int)->ev l s r=ev (l.take k) s r:=by
  intro r hr;conv=>lhs;rw[e]
  rw[bK,RY _ _ _ (by rw[hkl];exact hr)]
 rw[e1 _ h1,e1 _ h2];conv=>lhs;rw[e]
 rw[RY _ _ _ aA];unfold ev b4z;rw[aB aj,aB aj,vals_snoc];have:(2+(k:Int)-2).toNat=(Kw s (l.take k)).length:=(by rw[Y5,hkl];omega);rw[this,aF,dK (aT _),gJ];rfl
def Tb.n(T:Tb):Int:=T.order.length
def Tb.pl(T:Tb)(i:Int):Int:=T.place.getD i.toNat 0
def Tb.node(T:Tb)(r:Int):Node:=T.nodes.getD (r-2).toNat default
def Tb.lvl(T:Tb)(r:Int):Int:=if r<2 then T.n else T.pl (T.node r).1
def Tb.Rf(T:Tb)(r:Int):Prop:=0<=r/\r<2+(T.nodes.length:Int)
structure b51(T:Tb)(x:Node)(k:Nat):Prop where
 v:0<=x.1/\x.1<T.n
 lo:0<=x.2.1/\x.2.1<2+(k:Int)
 hi:0<=x.2.2/\x.2.2<2+(k:Int)
 ne:x.2.1≠x.2.2
 llo:T.pl x.1<T.lvl x.2.1
 lhi:T.pl x.1<T.lvl x.2.2
structure tJ(T:Tb):Prop where
 small:T.order.length<=60
 OB:T.place.length=T.order.length
 ord:∀k:Int,0<=k->k<T.n->0<=T.order.getD k.toNat 0/\T.order.getD k.toNat 0<T.n/\T.pl (T.order.getD k.toNat 0)=k
 plc:∀i:Int,0<=i->i<T.n->0<=T.pl i/\T.pl i<T.n/\T.order.getD (T.pl i).toNat 0=i
 nodes:∀(k:Nat) (h:k<T.nodes.length),b51 T T.nodes[k] k
 uq:∀x r,lookO T.uq x=some r↔∃(k:Nat) (h:k<T.nodes.length),T.nodes[k]=x/\r=2+(k:Int)
 memo:∀c a b r,lookO T.memo (c,a,b)=some r->T.Rf c/\T.Rf a/\T.Rf b/\T.Rf r/\min (min (T.lvl c) (T.lvl a)) (T.lvl b)<=T.lvl r/\∀s,ev T.nodes s r=if ev T.nodes s c then ev T.nodes s a else ev T.nodes s b
structure Xt(T T':Tb):Prop where
 order:T'.order=T.order
 place:T'.place=T.place
 nodes:∃l,T'.nodes=T.nodes++l
theorem Xt.refl(T:Tb):Xt T T:=⟨rfl,rfl,[],ak⟩
theorem Xt.trans{A B C:Tb}(h:Xt A B)(g:Xt B C):Xt A C:=by obtain⟨l,hl⟩:=h.nodes;obtain⟨m,hm⟩:=g.nodes;exact⟨g.order.trans h.order,g.place.trans h.place,l++m,by rw[hm,hl,bK]⟩
theorem Xt.len{T T':Tb}(h:Xt T T'):T.nodes.length<=T'.nodes.length:=by obtain⟨l,hl⟩:=h.nodes;rw[hl];simp
theorem Xt.n{T T':Tb}(h:Xt T T'):T'.n=T.n:=by unfold Tb.n;rw[h.order]
theorem Xt.pl{T T':Tb}(h:Xt T T')(i:Int):T'.pl i=T.pl i:=by unfold Tb.pl;rw[h.place]
theorem Xt.rf{T T':Tb}(h:Xt T T'){r:Int}(hr:T.Rf r):T'.Rf r:=⟨hr.1,by have:=h.len;have:=hr.2;omega⟩
theorem Xt.node{T T':Tb}(h:Xt T T'){r:Int}(hr:T.Rf r)(h2:2<=r):T'.node r=T.node r:=by obtain⟨l,hl⟩:=h.nodes;unfold Tb.node;have:=hr.2;rw[hl,aF,aF,bI aj]
theorem Xt.lvl{T T':Tb}(h:Xt T T'){r:Int}(hr:T.Rf r):T'.lvl r=T.lvl r:=by unfold Tb.lvl;split;{exact h.n};rw[h.pl,h.node hr aj]
theorem Xt.ev{T T':Tb}(h:Xt T T'){r:Int}(hr:T.Rf r)(s:Int->Bool):ev T'.nodes s r=ev T.nodes s r:=by obtain⟨l,hl⟩:=h.nodes;rw[hl,RY _ _ _ hr.2]
theorem Tb.Rf.zero(T:Tb):T.Rf 0:=⟨aj,aj⟩
theorem Tb.Rf.one(T:Tb):T.Rf 1:=⟨aj,aj⟩
theorem tJ.at{T:Tb}(h:tJ T){r:Int}(hr:T.Rf r)(h2:2<=r):b51 T (T.node r) (r-2).toNat/\∀s,S.ev T.nodes s r=if s (T.node r).1 then S.ev T.nodes s (T.node r).2.2 else S.ev T.nodes s (T.node r).2.1:=by have hk:(r-2).toNat<T.nodes.length:=(by have:=hr.2;omega);have e:T.node r=T.nodes[(r-2).toNat]:=(by unfold Tb.node;rw[aF,aH hk];rfl);have g:=h.nodes _ hk;rw[e];refine⟨g,λs=>?_⟩;have:=JQ T.nodes s hk g.lo.2 g.hi.2;rw[<- this];congr 1;omega
theorem tJ.F7{T:Tb}(h:tJ T){r:Int}(hr:T.Rf r):0<=T.lvl r/\T.lvl r<=T.n:=by unfold Tb.lvl;split;{exact⟨by unfold Tb.n;omega,dQ _⟩};have g:=(h.at hr aj).1;have:=h.plc _ g.v.1 g.v.2;omega
theorem tJ.kid{T:Tb}(h:tJ T){r:Int}(hr:T.Rf r)(h2:2<=r):T.Rf (T.node r).2.1/\T.Rf (T.node r).2.2/\T.lvl r<T.lvl (T.node r).2.1/\T.lvl r<T.lvl (T.node r).2.2/\0<=T.lvl r/\T.lvl r<T.n:=by have g:=(h.at hr h2).1;have:=hr.2;have hp:=h.plc _ g.v.1 g.v.2;have e:T.lvl r=T.pl (T.node r).1:=aB aj;rw[e];exact⟨⟨g.lo.1,by have:=g.lo.2;omega⟩,⟨g.hi.1,by have:=g.hi.2;omega⟩,g.llo,g.lhi,hp.1,hp.2.1⟩
def Tb.make(T:Tb)(v lo hi:Int):Tb×Int :=
 if lo=hi then(T,lo)else match lookO T.uq (v,lo,hi)with
  |some r=>(T,r)
  |none=>({ T with nodes:=T.nodes++[(v,lo,hi)],uq:=mark T.uq (v,lo,hi) (2+(T.nodes.length:Int)) },2+(T.nodes.length:Int))
theorem MZ{T:Tb}(h:tJ T){v lo hi:Int}(hv:0<=v/\v<T.n)(hlo:T.Rf lo)(hhi:T.Rf hi)(h1:T.pl v<T.lvl lo)(h2:T.pl v<T.lvl hi) :
  tJ (T.make v lo hi).1/\Xt T (T.make v lo hi).1/\(T.make v lo hi).1.Rf (T.make v lo hi).2/\T.pl v<=(T.make v lo hi).1.lvl (T.make v lo hi).2 /\
  (T.make v lo hi).1.nodes.length<=T.nodes.length+1/\(T.make v lo hi).1.memo=T.memo/\∀s,ev (T.make v lo hi).1.nodes s (T.make v lo hi).2=if s v then ev T.nodes s hi else ev T.nodes s lo:=by
 unfold Tb.make;by_cases he:lo=hi;{rw[aG he];subst he;exact⟨h,.refl _,hlo,Int.le_of_lt h1,ak,rfl,λs=>ak⟩};rw[aB he];cases hl:lookO T.uq (v,lo,hi)with
 |some r =>obtain⟨k,hk,e1,rfl⟩:=(h.uq _ _).1 hl;have g:=h.nodes k hk;have hrf:T.Rf (2+(k:Int)):=⟨aj,aj⟩;have en:T.node (2+(k:Int))=(v,lo,hi):=(by unfold Tb.node;rw[show(2+(k:Int)-2).toNat=k by omega,aF,aH hk];exact e1);refine⟨h,.refl _,hrf,?_,ak,rfl,λs=>?_⟩;{show _<=T.lvl (2+(k:Int));rw[show T.lvl (2+(k:Int))=T.pl (T.node (2+(k:Int))).1 from aB aj,en];exact dQ _};have:=JQ T.nodes s hk g.lo.2 g.hi.2;rw[e1]at this;exact this
 |none =>let T':Tb:={ T with nodes:=T.nodes++[(v,lo,hi)],uq:=mark T.uq (v,lo,hi) (2+(T.nodes.length:Int)) };have hx:Xt T T':=⟨rfl,rfl,_,rfl⟩;have hlen:T'.nodes.length=T.nodes.length+1:=(by simp[T']);have hnew:∀(hk:T.nodes.length<T'.nodes.length),T'.nodes[T.nodes.length]=(v,lo,hi):=λhk=>(by simp[T']);have hold:∀(k:Nat) (hk:k<T.nodes.length) (hk':k<T'.nodes.length),T'.nodes[k]=T.nodes[k]:=λk hk hk'=>(by simp only[T'];rw[kL hk]);have hev:∀s,ev T'.nodes s (2+(T.nodes.length:Int))=if s v then ev T.nodes s hi else ev T.nodes s lo:=(by intro s;have:=JQ T'.nodes s (k:=T.nodes.length) aj (by rw[hnew];exact hlo.2) (by rw[hnew];exact hhi.2);rw[hnew]at this;rw[this,hx.ev hhi,hx.ev hlo]);have hgood:tJ T':=(by refine⟨h.small,h.OB,h.ord,h.plc,λk hk=>?_,λx r=>?_,λc a b r hm=>?_⟩;{by_cases hkl:k<T.nodes.length;{rw[hold k hkl hk];have g:=h.nodes k hkl;exact⟨g.v,g.lo,g.hi,g.ne,by rw[hx.lvl ⟨g.lo.1,by have:=g.lo.2;omega⟩];exact g.llo,by rw[hx.lvl ⟨g.hi.1,by have:=g.hi.2;omega⟩];exact g.lhi⟩};obtain rfl:k=T.nodes.length:=aj;rw[hnew hk];exact⟨hv,hlo,hhi,he,by rw[hx.lvl hlo];exact h1,by rw[hx.lvl hhi];exact h2⟩};{show lookO (mark T.uq (v,lo,hi) (2+(T.nodes.length:Int))) x=some r↔_;rw[CQ];by_cases hxe:(v,lo,hi)=x;{rw[aG hxe];subst hxe;constructor;{intro hr;obtain rfl:=aW hr;exact⟨T.nodes.length,aj,hnew _,rfl⟩};rintro⟨k,hk,e1,rfl⟩;by_cases hkl:k<T.nodes.length;{exfalso;have:lookO T.uq (v,lo,hi)=some (2+(k:Int)):=(h.uq _ _).2 ⟨k,hkl,(hold k hkl hk).symm.trans e1,rfl⟩;rw[hl]at this;cases this};obtain rfl:k=T.nodes.length:=aj;rfl};rw[aB hxe,h.uq];constructor;{rintro⟨k,hk,e1,rfl⟩;exact⟨k,aj,(hold k hk _).trans e1,rfl⟩};rintro⟨k,hk,e1,rfl⟩;by_cases hkl:k<T.nodes.length;{exact⟨k,hkl,(hold k hkl hk).symm.trans e1,rfl⟩};obtain rfl:k=T.nodes.length:=aj;exact absurd ((hnew hk).symm.trans e1) hxe};obtain⟨g1,g2,g3,g4,g5,g6⟩:=h.memo c a b r hm;exact⟨hx.rf g1,hx.rf g2,hx.rf g3,hx.rf g4,by rw[hx.lvl g1,hx.lvl g2,hx.lvl g3,hx.lvl g4];exact g5,λs=>by rw[hx.ev g1,hx.ev g2,hx.ev g3,hx.ev g4];exact g6 s⟩);have hrf:T'.Rf (2+(T.nodes.length:Int)):=⟨aj,by rw[hlen];omega⟩;refine⟨hgood,hx,hrf,?_,by rw[show(T',2+(T.nodes.length:Int)).1.nodes.length=T'.nodes.length from rfl,hlen];exact aT _,rfl,hev⟩;show T.pl v<=T'.lvl (2+(T.nodes.length:Int));have en:T'.node (2+(T.nodes.length:Int))=(v,lo,hi):=(by unfold Tb.node;rw[show(2+(T.nodes.length:Int)-2).toNat=T.nodes.length by omega,aF,aH aj,hnew];rfl);rw[show T'.lvl (2+(T.nodes.length:Int))=T'.pl (T'.node (2+(T.nodes.length:Int))).1 from aB aj,en];exact dQ _
theorem O9{es:Marks}{x:Node}{r:Int}{k:AV->Prop}(hl:lookO es x=some r)(h:k (.uy [.int .i64 r,.tt])):FW (xO es) (OE x) λr=>DI true (.int .i64 0) r k:=by
 refine⟨some (.int .i64 r),?_,h⟩;induction es with
 |nil=>simp[lookO]at hl
 |cons e es ih =>obtain⟨y,v⟩:=e;simp only[lookO]at hl;by_cases hy:y=x;{subst hy;rw[aG rfl]at hl;obtain rfl:=aW hl;exact⟨_,dD,rfl,rfl⟩};rw[aB hy]at hl;obtain⟨z,hz,h3,h4⟩:=ih hl;exact⟨z,by simp only[xO,dF,aU];exact .inr hz,h3,h4⟩
theorem Pj{es:Marks}{x:Node}{k:AV->Prop}(hl:lookO es x=none)(h:k (.uy [.int .i64 0,.ff])):FW (xO es) (OE x) λr=>DI true (.int .i64 0) r k:=by
 refine⟨none,?_,h⟩;induction es with
 |nil=>intro z hz;simp[xO]at hz
 |cons e es ih =>obtain⟨y,v⟩:=e;simp only[lookO]at hl;by_cases hy:y=x;{subst hy;rw[aG rfl]at hl;cases hl};rw[aB hy]at hl;intro z hz;simp only[xO,dF,aU]at hz;rcases hz with rfl|hz;{exact λe=>hy (a2G.1 e)};exact ih hl z hz
abbrev xT(T:Tb):AV:=.ag [.sl 1 (T.order.map (.int .i64)) .no,.ms 1 0 T.place.length T.place.length 1,.sl 3 (T.nodes.map OE) (.own 2),.mp 3,.mp 4]
abbrev yZ(T:Tb):Heap:=[(4,.tY Rh (xO T.memo)),(3,.tY Rh (xO T.uq)),(2,.tok 3 T.nodes.length),(1,.arr 1 T.place.length (T.place.map (.int .i64))),(0,.box (xT T))]
theorem a1H(T:Tb)(v lo hi:Int)(hn:T.nodes.length<=1000000000) :
  ZQ 118 [.ptr 0 [] 0,.int .i64 v,.int .i64 lo,.int .i64 hi] (yZ T) (.int .i64 (T.make v lo hi).2) (yZ (T.make v lo hi).1):=by
 by_cases he:lo=hi
 ·rw[show T.make v lo hi=(T,lo)from aG he];refine ZN Tryz.func118 λhok=>?_;refine aQ (λ_=>?_) (λh=>absurd he h);refine ZW ?_;refine ZE ?_ ?_
  ·repeat' first|exact Zq|apply aI
   all_goals first|(rw[aC];done)|skip
  repeat' first|exact Zq|apply aI
  all_goals first|exact qP _|exact qQ _ _|(show tV _ (List.map _ (_++[_]));rw[aV];exact qX _)|(simp;done)|skip
 cases hl:lookO T.uq (v,lo,hi)with
 | some r =>
   rw[show T.make v lo hi=(T,r)from by unfold Tb.make;rw[aB he,hl]];refine ZN Tryz.func118 λhok=>?_;refine aQ (λh=>absurd h he) (λ_=>ZW ?_);refine ZR ?_;refine O9 (x:=(v,lo,hi)) hl (ZW ?_);refine ZE ?_ ?_
   ·repeat' first|exact Zq|apply aI
    all_goals first|(rw[aC];done)|skip
   repeat' first|exact Zq|apply aI
   all_goals first|exact qP _|exact qQ _ _|(show tV _ (List.map _ (_++[_]));rw[aV];exact qX _)|(simp;done)|skip
 | none =>
   rw[show T.make v lo hi=({ T with nodes:=T.nodes++[(v,lo,hi)],uq:=mark T.uq (v,lo,hi) (2+(T.nodes.length:Int)) },2+(T.nodes.length:Int))from by unfold Tb.make;rw[aB he,hl]];refine ZN Tryz.func118 λhok=>?_;refine aQ (λh=>absurd h he) (λ_=>ZW ?_);refine ZR ?_;refine Pj (x:=(v,lo,hi)) hl (ZW ?_);rw[aC];refine⟨rW aj aj,ZW ?_⟩;refine ZR ?_;refine⟨by rw[aC],.mk (by simp[maxL];omega) aA (ZW ?_)⟩;refine ZR ?_;refine Nv (x:=(v,lo,hi)) (ZW ?_);refine ZE ?_ ?_
   ·repeat' first|exact Zq|apply aI
    all_goals first|(rw[aC];done)|skip
   repeat' first|exact Zq|apply aI
   all_goals first|exact qP _|exact qQ _ _|(show tV _ (List.map _ (_++[_]));rw[aV];exact qX _)|(simp;done)|skip
theorem a3f(T:Tb)(v:Int)(hn:T.nodes.length<=1000000000) :
  ZQ 115 [.ptr 0 [] 0,.int .i64 v] (yZ T) (.int .i64 (T.make v 0 1).2) (yZ (T.make v 0 1).1):=by
 refine ZN Tryz.func115 λhok=>?_;refine .gen _ _ (a1H T v 0 1 hn) λ_=>ZW ?_;refine ZE ?_ ?_
 ·repeat' first|exact Zq|apply aI
  all_goals first|(rw[aC];done)|skip
 repeat' first|exact Zq|apply aI
 all_goals first|exact qP _|exact qQ _ _|(show tV _ (List.map _ (_++[_]));rw[aV];exact qX _)|(simp;done)|skip
theorem EY(T:Tb)(hT:tJ T)(hn:T.nodes.length<=1000000000)(r:Int)(hr:T.Rf r) :
  ZQ 191 [.ptr 0 [] 0,.int .i64 r] (yZ T) (.int .i64 (T.lvl r)) (yZ T):=by
 have h0:=hr.1;have h1:=hr.2;by_cases h2:r<2
 ·rw[show T.lvl r=(T.order.length:Int)from aG h2];refine ZN Tryz.func191 λhok=>?_;refine aQ (λ_=>?_) (λh=>absurd h2 h);refine ZW ?_;refine ZE ?_ ?_
  ·repeat' first|exact Zq|apply aI
   all_goals first|(rw[aC];done)|skip
  repeat' first|exact Zq|apply aI
  all_goals first|exact qP _|exact qQ _ _|(show tV _ (List.map _ (_++[_]));rw[aV];exact qX _)|(simp;done)|skip
 have g:=(hT.at hr aj).1;have hp:=hT.OB;rw[show T.lvl r=T.pl (T.node r).1 from aB h2];refine ZN Tryz.func191 λhok=>?_;refine aQ (λh=>absurd h h2) (λ_=>ZW ?_);refine ZR ?_;refine⟨rW aj aj,?_⟩;conv=>whnf
 refine ug default ⟨aj,aj⟩ ?_;conv=>whnf
 have hv:0<=(T.nodes.getD (r-2).toNat default).1/\(T.nodes.getD (r-2).toNat default).1<(T.order.length:Int):=g.v;refine⟨⟨hv.1,by rw[hp];exact hv.2⟩,?_⟩;conv=>whnf
 rw[bH];refine ug 0 ⟨aj,aj⟩ ?_;conv=>whnf
 refine⟨rfl,ZW ?_⟩;refine ZE ?_ ?_
 ·repeat' first|exact Zq|apply aI
  all_goals first|(rw[aC];done)|skip
 repeat' first|exact Zq|apply aI
 all_goals first|exact qP _|exact qQ _ _|(show tV _ (List.map _ (_++[_]));rw[aV];exact qX _)|(simp;done)|skip
def Tb.kids(T:Tb)(r L:Int):Int×Int:=if T.lvl r≠L then(r,r)else((T.node r).2.1,(T.node r).2.2)
theorem a1I(T:Tb)(hT:tJ T)(hn:T.nodes.length<=1000000000)(r L:Int)(hr:T.Rf r)(hL:L<T.n) :
  ZQ 192 [.ptr 0 [] 0,.int .i64 r,.int .i64 L] (yZ T) (.uy [.int .i64 (T.kids r L).1,.int .i64 (T.kids r L).2]) (yZ T):=by
 have h0:=hr.1;have h1:=hr.2;have cl:=EY T hT hn r hr;by_cases h2:T.lvl r≠L
 ·rw[show T.kids r L=(r,r)from aG h2];refine ZN Tryz.func192 λhok=>?_;refine .gen _ _ cl λ_=>ZW ?_;refine aQ (λ_=>?_) (λh=>absurd h2 h);refine ZW ?_;refine ZE ?_ ?_
  ·repeat' first|exact Zq|apply aI
   all_goals first|(rw[aC];done)|skip
  repeat' first|exact Zq|apply aI
  all_goals first|exact qP _|exact qQ _ _|(show tV _ (List.map _ (_++[_]));rw[aV];exact qX _)|(simp;done)|skip
 have h2:T.lvl r=L:=(by simpa using h2);have hr2:¬r<2:=(by intro h;have:T.lvl r=T.n:=aG h;omega);rw[show T.kids r L=((T.node r).2.1,(T.node r).2.2)from aB aj];refine ZN Tryz.func192 λhok=>?_;refine .gen _ _ cl λ_=>ZW ?_;refine aQ (λh=>absurd h2 h) (λ_=>ZW ?_);refine⟨rW aj aj,ZW ?_⟩;refine ug default ⟨aj,aj⟩ (ZW ?_);refine ZR ?_;refine ZE ?_ ?_
 ·repeat' first|exact Zq|apply aI
  all_goals first|(rw[aC];done)|skip
 repeat' first|exact Zq|apply aI
 all_goals first|exact qP _|exact qQ _ _|(show tV _ (List.map _ (_++[_]));rw[aV];exact qX _)|(simp;done)|skip
end S