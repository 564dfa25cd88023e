/-
  Contracts of functions of the program. Nothing is assumed.
-/
import Derived.Test.YtdkhmfabhfgemaaGreatT11
open Go Go.AL Go.Proofs
namespace S
set_option maxRecDepth 100000
structure WsM(m:Md):Prop where
 evs:∀x∈m.evs,(Ws x.p.num/\Ws x.p.den)/\(Ws x.fail.num/\Ws x.fail.den)/\(Ws x.repair.num/\Ws x.repair.den)
 gts:∀x∈m.gates,Ws x.y5.num/\Ws x.y5.den
theorem WsM.ok{m:Md}(h:Ok m.av):WsM m:=by obtain⟨_,_,h1,_,h2,_⟩:=h;have hr:∀x:Rat,Ok x.av->Ws x.num/\Ws x.den:=λx hx=>⟨Ws.ok hx.2.1.2,Ws.ok hx.2.2.1.2⟩;constructor;{intro x hx;have:=J8 h1.2 x hx;exact⟨hr _ this.2.1,hr _ this.2.2.1,hr _ this.2.2.2.1⟩};intro x hx;have:=J8 h2.2 x hx;exact hr _ this.2.2.2.2.1
theorem a2B{α:Type}{f:α->Str}{l:List α}{k:Nat}(hk:k<l.length)(h:¬zG (λx=>decide (f x=f l[k])) l<k):zG (λx=>decide (f x=f l[k])) l=k:=by have h2:=(Qd (p:=λx=>decide (f x=f l[k])) hk ak).2;omega
theorem WZ{α:Type}{f:α->Str}{l:List α}{s:Str}(h:¬0<=zG (λx=>decide (f x=s)) l):∀x∈l,f x≠s:=by intro x hx e;rcases zF (λx=>decide (f x=s)) l with⟨_,h2⟩|⟨i,_,h1,_⟩;{have:=jR (h2 x hx);exact this e};omega
theorem RJ{α:Type}{f:α->Str}{l:List α}(h:∀(k:Nat) (hk:k<l.length),zG (λx=>decide (f x=f l[k])) l=k):(l.map f).Nodup:=by rw[List.nodup_iff_pairwise_ne,fP];intro i j hi hj hij e;rw[mP,mP]at e;have h1:=h i (by simpa using hi);have h2:=h j (by simpa using hj);rw[e]at h1;omega
structure b5y(m:Md):Prop where
 nodup:((zy m).map (·.1)).Nodup
 atT:∀e∈zy m,AtT m e.1 e.2
 b4v:∀e∈zy m,Ed e.1=false
 ok:∀e∈zy m,b0n e.2
theorem UG{x:Rat}(h:valid x=true)(hw:Ws x.num/\Ws x.den)(hs:Cj x):b3G x:=⟨h,hw.1,hw.2,by have:=hs.1;omega,by have:=hs.2;omega⟩
theorem b5E{m:Md}(hM:KE m)(hX:MdX m)(hB:KJ m)(hW:WsM m):b5y m:=by
 obtain⟨_,_,he,hh⟩:=yZ hM.evs;have hg:=λk hk=>hM.gate (a:=-1) (.inl rfl) (k:=k) hk;rw[show qN m (-1)=m.gates from rfl]at hg;have he2:∀(k:Nat) (hk:k<m.evs.length),tZ (m.evs[k]).name=true/\sH m.evs (m.evs[k]).name=k/\yH (m.evs[k]).p=true/\Dw (m.evs[k]).fail=true/\Dw (m.evs[k]).repair=true:=(by intro k hk;have:=he k hk;unfold yA at this;split at this;{cases this};split at this;{cases this};split at this;{cases this};split at this;{cases this};split at this;{cases this};rename_i h1 h2 h3 h4 h5;exact⟨by simpa using h1,a2B hk h2,by simpa using h3,by simpa using h4,by simpa using h5⟩);have hh2:∀(k:Nat) (hk:k<m.hs.length),tZ (m.hs[k]).name=true/\¬0<=sH m.evs (m.hs[k]).name/\uM m.hs (m.hs[k]).name=k:=(by intro k hk;have:=hh k hk;unfold Dk at this;split at this;{cases this};split at this;{cases this};split at this;{cases this};rename_i h1 h2 h3;exact⟨by simpa using h1,h2,a2B hk h3⟩);have hg2:∀(k:Nat) (hk:k<m.gates.length),uU m.gates (m.gates[k]).name=k:=λk hk=>hM.a9c (a:=-1) (.inl rfl) (k:=k) hk;have mem:∀e∈zy m,(∃(i:Nat) (h:i<m.evs.length),e=((m.evs[i]).name,Tg.ev m.evs[i]))\/(∃(i:Nat) (h:i<m.hs.length),e=((m.hs[i]).name,Tg.hs m.hs[i]))\/(∃(i:Nat) (h:i<m.gates.length),e=((m.gates[i]).name,Tg.gt m.gates[i])):=(by intro e h;simp only[zy,thE,thH,thG,dM,bZ]at h;rcases h with(⟨x,hx,rfl⟩|⟨x,hx,rfl⟩)|⟨x,hx,rfl⟩;{obtain⟨i,hi,rfl⟩:=dX hx;exact .inl ⟨i,hi,rfl⟩};{obtain⟨i,hi,rfl⟩:=dX hx;exact .inr (.inl ⟨i,hi,rfl⟩)};obtain⟨i,hi,rfl⟩:=dX hx;exact .inr (.inr ⟨i,hi,rfl⟩));have na:∀e∈zy m,Ed e.1=false:=(by intro e h;rcases mem e h with⟨i,hi,rfl⟩|⟨i,hi,rfl⟩|⟨i,hi,rfl⟩;{exact I9 (he2 i hi).1};{exact I9 (hh2 i hi).1};exact I9 (hg i hi).name);refine⟨?_,?_,na,?_⟩;{unfold zy thE thH thG;rw[aV,aV,jV,jV,jV];show(((m.evs.map λx=>x.name)++(m.hs.map λx=>x.name))++(m.gates.map λx=>x.name)).Nodup;rw[iK,iK];refine⟨⟨RJ λk hk=>(he2 k hk).2.1,RJ λk hk=>(hh2 k hk).2.2,?_⟩,RJ hg2,?_⟩;{intro x hx y hy e;subst e;obtain⟨u,hu,e1⟩:=bZ.1 hx;obtain⟨v,hv,e2⟩:=bZ.1 hy;obtain⟨k,hk,rfl⟩:=dX hv;exact WZ (hh2 k hk).2.1 u hu (e1.trans e2.symm)};intro x hx y hy e;subst e;obtain⟨v,hv,e2⟩:=bZ.1 hy;obtain⟨k,hk,rfl⟩:=dX hv;have g1:=(hg k hk).b6Z;have g2:=(hg k hk).b6Y;rcases dM.1 hx with hx|hx;{obtain⟨u,hu,e1⟩:=bZ.1 hx;exact WZ (f:=Ev.name) (by unfold sH at g1;omega) u hu (e1.trans e2.symm)};obtain⟨u,hu,e1⟩:=bZ.1 hx;exact WZ (f:=Hs.name) (by unfold uM at g2;omega) u hu (e1.trans e2.symm)};{intro e h;have hna:=na e h;rcases mem e h with⟨i,hi,rfl⟩|⟨i,hi,rfl⟩|⟨i,hi,rfl⟩;{refine⟨i,hi,?_,rfl⟩;have:=(he2 i hi).2.1;unfold uF;rw[aB (by rw[hna];simp)];unfold zX;rw[this,aG aj]};{refine⟨i,hi,?_,rfl⟩;have h1:=(hh2 i hi).2.1;have h2:=(hh2 i hi).2.2;unfold uF;rw[aB (by rw[hna];simp)];unfold zX;rw[aB h1,h2,aG aj]};refine⟨i,hi,?_,rfl⟩;have h1:=(hg i hi).b6Z;have h2:=(hg i hi).b6Y;have h3:=hg2 i hi;unfold uF;rw[aB (by rw[hna];simp)];unfold zX;dsimp only;rw[show qN m (-1)=m.gates from rfl,aB aj,aB aj,h3,aG aj]};intro e h;rcases mem e h with⟨i,hi,rfl⟩|⟨i,hi,rfl⟩|⟨i,hi,rfl⟩;{obtain⟨_,_,p1,p2,p3⟩:=he2 i hi;obtain⟨w1,w2,w3⟩:=hW.evs _ (aQ hi);obtain⟨s1,s2,s3⟩:=hX.evs _ (aQ hi);unfold yH at p1;unfold Dw at p2 p3;simp only[aN]at p1 p2 p3;exact⟨UG p1.1.1 w1 s1,UG p2.1 w2 s2,UG p3.1 w3 s3⟩};{trivial};have g:=(hg i hi).own;have w:=hW.gts _ (aQ hi);have s:=hX.gates _ (aQ hi);have l:=hB.gates.2 _ (aQ hi);refine⟨UG ?_ w s,aj⟩;unfold uP at g;split at g;{cases g};split at g;{cases g};split at g;{cases g};split at g;{cases g};split at g;{cases g};split at g;{cases g};split at g;{cases g};rename_i h6 h7;by_cases hk:(m.gates[i]).kind=7
 ·have:yH (m.gates[i]).y5=true:=by
   cases hp:yH (m.gates[i]).y5 with
   |true=>rfl
   |false=>exact absurd ⟨hk,hp⟩ h6
  unfold yH at this;simp only[aN]at this;exact this.1.1
 have:FN (m.gates[i]).y5=true:=by
  cases hp:FN (m.gates[i]).y5 with
  |true=>rfl
  |false=>exact absurd ⟨hk,hp⟩ h7
 unfold FN at this;simp only[aN,bW,jP]at this;unfold valid;rw[aG ⟨this.1.2,this.2⟩];exact this.1.1
theorem WM{es:MT}{x:Str}{t:Tg}(h:Dj es x=some t):(x,t)∈es:=by
 induction es with
 |nil=>cases h
 |cons e es ih =>obtain⟨y,v⟩:=e;simp only[Dj]at h;split at h;{rename_i hy;subst hy;cases h;exact dD};exact dh _ (ih h)
theorem WO{es:MT}{x:Str}:Dj es x=none↔x ∉ es.map (·.1):=by
 induction es with
 |nil=>simp[Dj]
 |cons e es ih =>obtain⟨y,v⟩:=e;simp only[Dj,dF,aT];split;{rename_i hy;subst hy;simp};rename_i hy;rw[ih];constructor;{rintro h (rfl|h');{exact hy rfl};exact h h'};exact λh h'=>h (.inr h')
theorem RQ{es:MT}(hd:(es.map (·.1)).Nodup){x:Str}{t:Tg}(h:(x,t)∈es):Dj es x=some t:=by
 induction es with
 |nil=>cases h
 |cons e es ih =>obtain⟨y,v⟩:=e;rw[dF,ng]at hd;simp only[Dj];rcases aT.1 h with h|h;{cases h;rw[aG rfl]};rw[aB (λe=>hd.1 (by rw[e];exact kR (f:=(·.1)) h)),ih hd.2 h]
theorem b0A{v:Int}{ns E:List Str}(hv:v=ns.length)(hm:∀s∈ns,s∈E){a:Int}{k:Nat}(h0:0<=a)(h1:a<v+k):0<=ovI v ns E a/\ovI v ns E a<(E.length:Int)+k:=by unfold ovI;split;{have ha:a.toNat<ns.length:=aj;have hs:ns.getD a.toNat []∈E:=(by rw[aF,aH ha];exact hm _ (aQ ha));obtain⟨i,hi,e,_⟩:=Y7 hs;unfold toE at e;omega};omega
theorem a2k{f:Fo}{ns E:List Str}(h:KL f)(hv:f.vars=ns.length)(hm:∀s∈ns,s∈E)(hE:E.length<=24):KL (ovF f ns E):=by obtain⟨h1,h2,h3,h4⟩:=h;refine⟨⟨by show(0:Int)<=(E.length:Int);omega,by show(E.length:Int)<=24;omega⟩,by show(f.nodes.map _).length<=128;rw[aC];exact h2,λi hi=>?_,?_⟩;{have hi':i<f.nodes.length:=(by have:i<(f.nodes.map (ovN f.vars ns E)).length:=hi;rwa[aC]at this);have g:=h3 i hi';have e:(ovF f ns E).nodes[i]=ovN f.vars ns E f.nodes[i]:=mP _;rw[e];refine⟨g.kind,?_,?_,?_⟩;{have:=g.num;simpa[ovN]using this};{intro a ha;obtain⟨a',ha',rfl⟩:=bZ.1 ha;have:=g.args a' ha';exact b0A hv hm this.1 this.2};have:=g.k;simpa[ovN]using this};have:=b0A (k:=f.nodes.length) hv hm h4.1 h4.2;show 0<=ovI f.vars ns E f.top/\ovI f.vars ns E f.top<(E.length:Int)+((f.nodes.map _).length:Nat);rw[aC];exact this
def a8M(a b:Md):List Str:=(Gg b).filter λs=>!(Gg a).contains s
def b3Y(a b:Md)(chg:Str->Bool):List Str:=(Gg b).filter λs=>(Gg a).contains s&&chg s
def b2z(a b:Md):Df:=II (ovF (atR a a.top).1 (CP a) (AU a b)) (ovF (atR b b.top).1 (CP b) (AU a b))
theorem a3s(m:Md)(h1:m.evs.length<=1000)(h2:m.hs.length<=1000)(h3:m.gates.length<=1000):(Gg m).length<=3000:=by unfold Gg;have k1:=Ai (m.evs.map λx:Ev=>x.name) [];have k2:=Ai (m.hs.map λx:Hs=>x.name) ((m.evs.map λx:Ev=>x.name).foldl wI []);have k3:=Ai (m.gates.map λx:Mg=>x.name) ((m.hs.map λx:Hs=>x.name).foldl wI ((m.evs.map λx:Ev=>x.name).foldl wI []));simp at k1 k2 k3;omega
theorem LC{α:Type}{l:List α}{i:Nat}(h:i<l.length)(p:α->Bool):(l.take (i+1)).filter p=if p l[i]=true then(l.take i).filter p++[l[i]]else(l.take i).filter p:=by rw[bG h,kY];split;{rename_i e;simp[e]};rename_i e;simp[e]
theorem a6W(a b:Md)(ha:KJ a)(hb:KJ b)(ma:KE a)(mb:KE b)(e1:(atR a a.top).2=0)(e2:(atR b b.top).2=0)(hE:(AU a b).length<=10)(chg:Str->Bool)
  (hd:∀s∈Gg b,s∈Gg a->ZQ 37 [a.av,b.av,.str s] [] (.bool (chg s)) []) :
  ZQ 12 [a.av,b.av] [] (cmR (a8M a b) (a8M b a) (b3Y a b chg) (AU a b) (b2z a b)) []:=by
 have ea:=ha.evs;have eb:=hb.evs;have ga:=ha.gates.1;have gb:=hb.gates.1;have sa:=ha.hs;have sb:=hb.hs;have cE:=XW a b aj aj;have cn1:=a2Z a aj aj aj;have cn2:=a2Z b aj aj aj;obtain⟨f1,v1⟩:=J3 ma e1;obtain⟨f2,v2⟩:=J3 mb e2;have m1:∀s∈CP a,s∈AU a b:=λs hs=>(LD a b s).2 (.inl hs);have m2:∀s∈CP b,s∈AU a b:=λs hs=>(LD a b s).2 (.inr hs);have o1:=a6V a (AU a b) ha ma e1 aj λx hx=>m1 _ (kR (f:=(·.name)) hx);have o2:=a6V b (AU a b) hb mb e2 aj λx hx=>m2 _ (kR (f:=(·.name)) hx);have cc:=a0u _ _ (a2k f1 (by rw[v1];simp[CP]) m1 aj) (a2k f2 (by rw[v2];simp[CP]) m2 aj) rfl (by show((AU a b).length:Int)<=10;omega);rw[show II _ _=b2z a b from rfl]at cc;have hl1:=a3s a aj aj aj;have hl2:=a3s b aj aj aj;have ch1:=λs=>b5c (Gg a) s aj;have ch2:=λs=>b5c (Gg b) s aj;have hd':∀(i:Nat) (h:i<(Gg b).length),(Gg a).contains (Gg b)[i]=true->ZQ 37 [a.av,b.av,.str (Gg b)[i]] [] (.bool (chg (Gg b)[i])) []:=λi h hc=>hd _ (aQ h) (nG.1 hc);unfold a8M b3Y;generalize AU a b=E at *;generalize b2z a b=D at *;generalize Gg a=was at *;generalize Gg b=now at *;clear hd f1 f2 m1 m2;generalize ovF (atR a a.top).1 (CP a) E=fa at *;generalize ovF (atR b b.top).1 (CP b) E=fb at *;refine ZN Tryz.func12 λhok=>?_;refine .zW cE ?_;refine ZR ?_;refine .zW cn1 ?_;refine .zW cn2 ?_;clear cE cn1 cn2 hE;refine qV.of <| (qM.inv (.GY 3 [0] 1 [] _ .qW _ rfl rfl (.inl ⟨rfl,rfl⟩) rfl (.GY 3 [2] 1 [] _ .qW _ rfl rfl (.inl ⟨rfl,rfl⟩) rfl (.GY 3 [1] 1 [] _ .qW _ rfl rfl (.inl ⟨rfl,rfl⟩) rfl (.refl _ _)))) (λi:Nat=>i<=now.length) (λi=>[(8,.int .i64 i)])
  (λi=>[(6,.tok 1 0),(5,.tok 1 ((now.take i).filter λs=>was.contains s&&chg s).length),(4,.tok 1 ((now.take i).filter λs=>!was.contains s).length),(3,.box (.ag [.sl 1 (((now.take i).filter λs=>!was.contains s).map .str) (.own 4),.sl 1 [] (.own 6),.sl 1 (((now.take i).filter λs=>was.contains s&&chg s).map .str) (.own 5),sL E,zDf])),(2,.box (.ag [.qW,.qW,.qW,.qW,zDf])),(1,.box b.av),(0,.box a.av)]) (λi=>now.length-i) 0 (aO _) ?_ ?_ ?_)
 ·exact λ_=>rfl
 ·refine Zv wk ?_;repeat' first|exact Zq|apply aI
  all_goals first|trivial|skip
 intro i hi _;have l1:((now.take i).filter λs=>!was.contains s).length<=i:=dH (fJ _ _) (by rw[bD];omega);have l2:((now.take i).filter λs=>was.contains s&&chg s).length<=i:=dH (fJ _ _) (by rw[bD];omega);refine ZS ?_ ?_<;>intro g
 ·have hlt:i<now.length:=(by simpa using g);have st1:=LC hlt λs=>!was.contains s;have st2:=LC hlt λs=>was.contains s&&chg s;have c1:=ch1 now[i];have d1:=hd' i hlt;generalize (now.take i).filter (λs=>!was.contains s)=A at *;generalize (now.take i).filter (λs=>was.contains s&&chg s)=C at *;generalize hx:now[i]=x at *;refine ZW ?_;refine rV hlt ?_;rw[hx];cases hc:was.contains x with
  | false =>
    rw[hc]at c1;have c1:=c1.weak (R':=.ff) rfl;have st1:=st1.trans (aG (by rw[hc];rfl));have st2:=st2.trans (aB (by rw[hc];simp));refine ZW ?_;refine .zW c1 ?_;refine ZR ?_;refine rV hlt ?_;rw[hx];refine ZW ?_;refine⟨by rw[aC],.mk (by simp[maxL];omega) aA (ZW ?_)⟩;refine ZG ?_;refine⟨i+1,?_,?_,?_⟩;{exact hlt}
    ·rw[st1,st2];refine Zv wk ?_;repeat' first|exact Zq|apply aI
     all_goals first|(simp;done)|(show sS _ (List.map _ (_++[_]));rw[aV];exact qU _)|skip
    omega
  | true =>
    rw[hc]at c1;have c1:=c1.weak (R':=.tt) rfl;have st1:=st1.trans (aB (by rw[hc];simp));have d1:=d1 hc;refine ZW ?_;refine .zW c1 ?_;refine ZR ?_;refine rV hlt ?_;rw[hx];refine ZW ?_;cases hg:chg x with
    | true =>
      rw[hg]at d1;have d1:=d1.weak (R':=.tt) rfl;have st2:=st2.trans (aG (by rw[hc,hg];rfl));refine .zW d1 ?_;refine ZR ?_;refine rV hlt ?_;rw[hx];refine ZW ?_;refine⟨by rw[aC],.mk (by simp[maxL];omega) aA (ZW ?_)⟩;refine ZG ?_;refine⟨i+1,?_,?_,?_⟩;{exact hlt}
      ·rw[st1,st2];refine Zv wk ?_;repeat' first|exact Zq|apply aI
       all_goals first|(simp;done)|(show sS _ (List.map _ (_++[_]));rw[aV];exact qU _)|skip
      omega
    |false =>rw[hg]at d1;have d1:=d1.weak (R':=.ff) rfl;have st2:=st2.trans (aB (by rw[hc,hg];simp));refine .zW d1 ?_;refine ZG ?_;refine⟨i+1,?_,?_,?_⟩;{exact hlt};{rw[st1,st2];exact ZV};omega
 have hk:i=now.length:=(by(have:¬i<now.length:=by simpa using g);omega);subst hk;rw[bg]at *;generalize now.filter (λs=>!was.contains s)=A at *;generalize now.filter (λs=>was.contains s&&chg s)=C at *;clear hd' ch1 hl2;refine ZW ?_;refine qV.of <| (qM.inv (.refl _ _) (λi:Nat=>i<=was.length) (λi=>[(9,.int .i64 i)])
  (λi=>[(6,.tok 1 ((was.take i).filter λs=>!now.contains s).length),(5,.tok 1 C.length),(4,.tok 1 A.length),(3,.box (.ag [.sl 1 (A.map .str) (.own 4),.sl 1 (((was.take i).filter λs=>!now.contains s).map .str) (.own 6),.sl 1 (C.map .str) (.own 5),sL E,zDf])),(2,.box (.ag [.qW,.qW,.qW,.qW,zDf])),(1,.box b.av),(0,.box a.av)]) (λi=>was.length-i) 0 (aO _) ?_ ?_ ?_)
 ·exact λ_=>rfl
 ·exact ZV
 intro i hi _;have l3:((was.take i).filter λs=>!now.contains s).length<=i:=dH (fJ _ _) (by rw[bD];omega);refine ZS ?_ ?_<;>intro g
 ·have hlt:i<was.length:=(by simpa using g);have st1:=LC hlt λs=>!now.contains s;have c1:=ch2 was[i];generalize (was.take i).filter (λs=>!now.contains s)=B at *;generalize hx:was[i]=x at *;refine ZW ?_;refine rV hlt ?_;rw[hx];cases hc:now.contains x with
  | false =>
    rw[hc]at c1;have c1:=c1.weak (R':=.ff) rfl;have st1:=st1.trans (aG (by rw[hc];rfl));refine ZW ?_;refine .zW c1 ?_;refine ZR ?_;refine rV hlt ?_;rw[hx];refine ZW ?_;refine⟨by rw[aC],.mk (by simp[maxL];omega) aA (ZW ?_)⟩;refine ZG ?_;refine⟨i+1,?_,?_,?_⟩;{exact hlt}
    ·rw[st1];refine Zv wk ?_;repeat' first|exact Zq|apply aI
     all_goals first|(simp;done)|(show sS _ (List.map _ (_++[_]));rw[aV];exact qU _)|skip
    omega
  |true =>rw[hc]at c1;have c1:=c1.weak (R':=.tt) rfl;have st1:=st1.trans (aB (by rw[hc];simp));refine ZW ?_;refine .zW c1 ?_;refine ZG ?_;refine⟨i+1,?_,?_,?_⟩;{exact hlt};{rw[st1];exact ZV};omega
 have hk:i=was.length:=(by(have:¬i<was.length:=by simpa using g);omega);subst hk;rw[bg]at *;generalize was.filter (λs=>!now.contains s)=B at *;refine ZW ?_;refine ZR ?_;refine .zW o1 ?_;refine .zW o2 ?_;refine .zW cc ?_;exact ZX
theorem a3T{v:Int}{i:Nat}{x:Nd}(h:NR v i x):y9 v i x=0:=by have hn:=h.num;have hk:=h.k;have e2:Wq x.kind x.args.length=true:=(by unfold Wq;split;{rename_i e;rw[aG e]at hn;simpa using hn};rename_i e;rw[aB e]at hn;split;{rename_i e;rw[aG e]at hn;simpa using hn};rename_i e;rw[aB e]at hn;simpa using hn);have e3:¬x.args.any (b0e v i)=true:=(by rw[iD];rintro⟨a,ha,hb⟩;have:=h.args a ha;unfold b0e at hb;have:=eu hb;omega);unfold y9;rw[aB (by have:=h.kind;omega),aB (by rw[e2];simp),aB e3];unfold b2b;split;{rename_i e;rw[aG e]at hk;rw[aB aj]};rename_i e;rw[aB e]at hk;split;{rename_i e;rw[aG e]at hk;rw[aB aj]};rename_i e;rw[aB e]at hk;rw[aB aj]
theorem TK{v:Int}:∀(l:List Nd) (i:Nat),(∀(k:Nat) (h:k<l.length),NR v (i+k) l[k])->DF v i l=0
 | [],_,_=>rfl
 |x::l,i,h=>by unfold DF;have h0:NR v i x:=h 0 ak;rw[aB (by rw[a3T h0];simp)];exact TK l (i+1) λk hk=>by have:=h (k+1) (by simpa using hk);rw[show i+(k+1)=i+1+k by omega]at this;exact this
theorem Xg{f:Fo}(h:KL f):Bg f=0:=by obtain⟨h1,h2,h3,h4⟩:=h;unfold Bg;rw[aB aj,aB aj,aB (by rw[TK f.nodes 0 λk hk=>by rw[bC];exact h3 k hk];simp),aB aj]
theorem a1w{a b:Fo}(ha:KL a)(hb:KL b)(hv:a.vars=b.vars):zi a b=0:=by unfold zi;rw[aB (by rw[Xg ha];simp),aB (by rw[Xg hb];simp),aB (λh=>h hv)]
theorem a4x(a b:Md)(ma:KE a)(mb:KE b)(e1:(atR a a.top).2=0)(e2:(atR b b.top).2=0)(hE:(AU a b).length<=10) :
  ZQ 17 [(ovF (atR a a.top).1 (CP a) (AU a b)).av,(ovF (atR b b.top).1 (CP b) (AU a b)).av] [] (.uf [(b2z a b).av,.vJ]) []:=by
 obtain⟨f1,v1⟩:=J3 ma e1;obtain⟨f2,v2⟩:=J3 mb e2;have m1:∀s∈CP a,s∈AU a b:=λs hs=>(LD a b s).2 (.inl hs);have m2:∀s∈CP b,s∈AU a b:=λs hs=>(LD a b s).2 (.inr hs);exact a0D _ _ (a1w (a2k f1 (by rw[v1];simp[CP]) m1 aj) (a2k f2 (by rw[v2];simp[CP]) m2 aj) rfl) (by show((AU a b).length:Int)<=10;omega)
open Classical in
noncomputable def b0Q(a b:Md)(s:Str):Bool:=match Dj (zy a) s,Dj (zy b) s with
 |some x,some y=>decide (¬BK x y)
 |_,_=>false
def P8(m:MT)(e:Str×Tg):Bool:=(Dj m e.1).isNone
open Classical in
noncomputable def cgB(m:MT)(e:Str×Tg):Bool:=match Dj m e.1 with
 |some x=>decide (¬BK e.2 x)
 |none=>false
abbrev nms(q:MT):List Str:=q.map (·.1)
theorem a3J(x y:Tg):BK x y↔BK y x:=by cases x <;> cases y <;> simp only[BK] <;> constructor <;> (intro h;simp[h])
theorem Zw{q:MT}(h:(nms q).Nodup)(p:Str×Tg->Bool):(nms (q.filter p)).Nodup:=(List.filter_sublist.map _).nodup h
theorem Zb{a b:Md}(tb:b5y b){A:List Str}(h:A.Perm (nms ((zy b).filter (P8 (zy a))))):sortL A=a8M a b:=by refine SS.ext (a2c (h.nodup_iff.2 (Zw tb.nodup _))) ((a7G b).filter _) λx=>?_;rw[MO,h.mem_iff];unfold a8M;rw[fF,Jp,bZ];simp only[fF,eF,List.contains_eq_mem,decide_eq_false_iff_not,Jp,bZ (l:=zy b)];constructor;{rintro⟨e,⟨he,h2⟩,rfl⟩;exact⟨⟨e,he,rfl⟩,WO.1 (Option.isNone_iff_eq_none.1 h2)⟩};rintro⟨⟨e,he,rfl⟩,h2⟩;exact⟨e,⟨he,Option.isNone_iff_eq_none.2 (WO.2 h2)⟩,rfl⟩
theorem a5f{a b:Md}(tb:b5y b){A:List Str}(h:A.Perm (nms ((zy b).filter (cgB (zy a))))):sortL A=b3Y a b (b0Q a b):=by
 refine SS.ext (a2c (h.nodup_iff.2 (Zw tb.nodup _))) ((a7G b).filter _) λx=>?_;have hc:∀e∈zy b,(cgB (zy a) e=true↔e.1∈(zy a).map (·.1)/\b0Q a b e.1=true):=by
  intro e he;unfold cgB b0Q;rw[RQ tb.nodup he];cases hl:Dj (zy a) e.1 with
  |none =>constructor;{exact λg=>nomatch g};exact λg=>nomatch g.2
  |some x =>have hm:e.1∈(zy a).map (·.1):=kR (f:=(·.1)) (WM hl);simp only[bW];rw[a3J e.2 x];exact⟨λg=>⟨hm,g⟩,λg=>g.2⟩
 rw[MO,h.mem_iff];unfold b3Y;rw[fF,Jp,bZ];simp only[fF,aN,List.contains_eq_mem,bW,Jp,bZ (l:=zy b)];constructor;{rintro⟨e,⟨he,h2⟩,rfl⟩;exact⟨⟨e,he,rfl⟩,(hc e he).1 h2⟩};rintro⟨⟨e,he,rfl⟩,h2⟩;exact⟨e,⟨he,(hc e he).2 h2⟩,rfl⟩
theorem ZB{m:Md}(h:KE m):∀s∈CP m,s.length<=24:=by obtain⟨_,_,he,_⟩:=yZ h.evs;intro s hs;obtain⟨x,hx,rfl⟩:=bZ.1 hs;obtain⟨k,hk,rfl⟩:=dX hx;have:=he k hk;unfold yA at this;split at this;{cases this};rename_i e;have hn:tZ m.evs[k].name=true:=(by simpa using e);unfold tZ at hn;simp only[aN,bW]at hn;exact hn.1.1.2
theorem a0i{p:MT}{k v:AV}{rest:List (AV×AV)}(h:(DN p).Perm ((k,v)::rest)):∃e q,p.Perm (e::q)/\k=.str e.1/\v=e.2.av/\(DN q).Perm rest:=by have hm:(k,v)∈DN p:=h.mem_iff.2 dD;obtain⟨e,he,h1⟩:=bZ.1 hm;obtain⟨s,t,rfl⟩:=List.append_of_mem he;have hp:(s++e::t).Perm (e::(s++t)):=List.perm_middle;have h2:=(hp.map λe:Str×Tg=>(AV.str e.1,e.2.av)).symm.trans h;rw[dF,h1]at h2;exact⟨e,s++t,hp,(lQ Prod.fst h1).symm,(lQ Prod.snd h1).symm,h2.cons_inv⟩
theorem PE(n:Nat)(G:Heap):∀X:Heap,Ci [] n G X=X
 | []=>rfl
 |(i,o)::X=>by show(i,o)::Ci [] n G X=_;rw[PE n G X]
theorem b2y(σ:Nat->Nat)(M:MT):Zm σ (DN M)=DN M:=a5n (m:=0) (λ_ h=>absurd h (gJ _)) _ (yJ 0 M)
theorem Y8{m:Md}{M:MT}(h:ZQ 30 [m.av] [] (.mp 1) [(1,.tN (.str []) (DN M)),(0,.gone)])(k:Nat)(o:HO)(X:Heap) :
  ZQ 30 [m.av] ((k,o)::X) (.mp (k+2)) ((k+2,.tN (.str []) (DN M))::(k+1,.gone)::(k,o)::X):=by
 have q:=qX.frame (H:=(k,o)::X) [] h ⟨rfl,rfl,rfl,rfl⟩ trivial (rM _);have e:Rj [] [(1,.tN (.str []) (DN M)),(0,.gone)] ((k,o)::X)=(k+2,.tN (.str []) (DN M))::(k+1,.gone)::(k,o)::X:=(by unfold Rj;rw[PE];show(k+2,HO.tN (.str []) (Zm _ (DN M)))::(k+1,.gone)::_=_;rw[b2y];rfl);rw[e]at q;exact q
theorem a8O{m:Md}{l:List Str}(h:ZQ 29 [m.av] [] (.sl 1 (l.map .str) (.own 1)) [(1,.tok 1 l.length),(0,.gone)])(k:Nat)(o:HO)(X:Heap) :
  ZQ 29 [m.av] ((k,o)::X) (.sl 1 (l.map .str) (.own (k+2))) ((k+2,.tok 1 l.length)::(k+1,.gone)::(k,o)::X):=by
 have q:=qX.frame (H:=(k,o)::X) [] h ⟨rfl,rfl,rfl,rfl⟩ trivial (rM _);have e:Rj [] [(1,.tok 1 l.length),(0,.gone)] ((k,o)::X)=(k+2,.tok 1 l.length)::(k+1,.gone)::(k,o)::X:=(by unfold Rj;rw[PE];rfl);rw[e]at q;exact q
theorem a5e{l l':List Str}(h:ZQ 27 [.fn 85 [.cp (sL l')]] [] (.gs 0 l.length) [(0,.uD 1 (l.map .str))])(k:Nat)(o:HO)(X:Heap) :
  ZQ 27 [.fn 85 [.cp (sL l')]] ((k,o)::X) (.gs (k+1) l.length) ((k+1,.uD 1 (l.map .str))::(k,o)::X):=by
 have q:=qX.frame (H:=(k,o)::X) [] h ⟨rfl,rfl,rfl,rfl⟩ trivial (args:=[.fn 85 [.cp (sL l')]]) (rM _);have e:Rj [] [(0,.uD 1 (l.map .str))] ((k,o)::X)=(k+1,.uD 1 (l.map .str))::(k,o)::X:=(by unfold Rj;rw[PE];rfl);rw[e]at q;exact q
structure Bw(m:Md):Prop where
 b:KJ m
 c:MdC m
 x:MdX m
 evs:m.evs.length<=60
noncomputable def mdR(a b:Md):AV:=if ckM a b=0 then cmR (a8M a b) (a8M b a) (b3Y a b (b0Q a b)) (AU a b) (b2z a b)else .ag [.qW,.qW,.qW,.qW,zDf]
set_option maxHeartbeats 4000000 in
theorem a95(a b:Md)(ha:Bw a)(hb:Bw b)(wa:WsM a)(wb:WsM b)(hE:ckM a b=0->(AU a b).length<=10):UD Tryz.prog 9 [a.av,b.av] [] (λR H=>R=.uf [mdR a b,zu (ckM a b)]/\H=[]):=by
 have la:=ha.evs;have lb:=hb.evs;have k1:rJ a≠0->ckM a b=rJ a:=λh=>aG h;have k2:rJ a=0->rJ b≠0->ckM a b=rJ b:=λe1 h=>(aB λg=>g e1).trans (aG h);have k3:rJ a=0->rJ b=0->(atR a a.top).2≠0->ckM a b=(atR a a.top).2:=λe1 e2 h=>(aB λg=>g e1).trans ((aB λg=>g e2).trans (aG h));have k4:rJ a=0->rJ b=0->(atR a a.top).2=0->(atR b b.top).2≠0->ckM a b=(atR b b.top).2:=λe1 e2 h1 h=>(aB λg=>g e1).trans ((aB λg=>g e2).trans ((aB λg=>g h1).trans (aG h)));have k5:rJ a=0->rJ b=0->(atR a a.top).2=0->(atR b b.top).2=0->ckM a b=if 24<(AU a b).length then 4 else 0:=λe1 e2 h1 h2=>(aB λg=>g e1).trans ((aB λg=>g e2).trans ((aB λg=>g h1).trans (aB λg=>g h2)));have ck1:=QJ a ha.c ha.b _ rfl;have ck2:=QJ b hb.c hb.b _ rfl;have cs1:rJ a=0->ZQ 25 [a.av] [] (.uf [(atR a a.top).1.av,zu (atR a a.top).2]) []:=λe1=>a3i a ha.c ha.b _ (by rw[VJ e1]);have cs2:rJ b=0->ZQ 25 [b.av] [] (.uf [(atR b b.top).1.av,zu (atR b b.top).2]) []:=λe2=>a3i b hb.c hb.b _ (by rw[VJ e2]);have cn1:=a3g a aj;have cnT:=a7r a aj;have cn2:=a3g b aj;have el1:(CP a).length<=60:=(by unfold CP;rw[aC];exact la);have el2:(CP b).length<=60:=(by unfold CP;rw[aC];exact lb);have hEl:Xz (sortL (CP a++CP b))=AU a b:=b4S a b;have cv:=a1y (CP a++CP b);have sl:(sortL (CP a++CP b)).length=(CP a++CP b).length:=kF _;have sle:(CP a++CP b).length<=120:=(by rw[bn];omega);have cso:=a9A (CP a++CP b) aj;rw[<- sl]at cso;have ccp:=fun(e1:rJ a=0) (e2:rJ b=0)=>a7p (sortL (CP a++CP b)) aj (λs hs=>by
  rcases dM.1 ((MO _ _).1 hs)with h|h;{exact dH (ZB (wC e1) s h) au};exact dH (ZB (wC e2) s h) au)
 rw[hEl]at ccp;have co1:=fun(e1:rJ a=0) (h1:(atR a a.top).2=0) (hE:(AU a b).length<=10)=>b03 (atR a a.top).1 (CP a) (AU a b) (J3 (wC e1) h1).1 (by rw[(J3 (wC e1) h1).2];simp[CP]) aj;have co2:=fun(e2:rJ b=0) (h2:(atR b b.top).2=0) (hE:(AU a b).length<=10)=>b03 (atR b b.top).1 (CP b) (AU a b) (J3 (wC e2) h2).1 (by rw[(J3 (wC e2) h2).2];simp[CP]) aj;have ta:=λe1:rJ a=0=>b5E (wC e1) ha.x ha.b wa;have tb:=λe2:rJ b=0=>b5E (wC e2) hb.x hb.b wb;have ct1:=λh=>a2U a aj (by have:=ha.b.hs;omega) (by have:=ha.b.gates.1;omega) (ta h).nodup;have ct2:=λh=>a2U b aj (by have:=hb.b.hs;omega) (by have:=hb.b.gates.1;omega) (tb h).nodup;have cC:=λe1 e2 h1 h2=>a4x a b (wC e1) (wC e2) h1 h2;unfold mdR;generalize AU a b=E at *;generalize b2z a b=D at *;generalize ovF (atR a a.top).1 (CP a) E=oa at *;generalize ovF (atR b b.top).1 (CP b) E=ob at *;generalize (atR a a.top).1=fa at *;generalize (atR b b.top).1=fb at *;generalize sortL (CP a++CP b)=srt at *;refine UD.b4D (.s .n (.s (.f [0,1] .n) (.r 7 (.f (.f (.f (.m (.m (.o 6 (.f (.f (.f (.x .n)))))))))))) ) lay mixed Tryz.func9 (by kernel_rfl) rfl (by kernel_rfl) rfl λhok=>?_;refine Z0 ?_;refine⟨⟨rfl,rfl⟩,⟨rfl,rfl⟩,ZW ?_⟩;refine qV.step 2 ?_;refine ZW ?_;refine aP (λ_=>?_) (λh=>absurd ak h);refine ZW ?_;refine DZ.mk ⟨_,⟨au,rfl⟩,ZW ?_⟩;by_cases e1:rJ a=0;case neg =>
  rw[rW e1]at ck1;refine .zW ck1 ?_;refine ZW ?_;refine⟨.uf [.ag [.qW,.qW,.qW,.qW,zDf],.uV 49 (.int .i64 (rJ a))],[],⟨by rw[k1 e1,aB e1,rW e1],rfl⟩,?_⟩;exact ZX
 rw[e1,sD]at ck1;refine .zW ck1 ?_;refine ZG ?_;refine aP (λ_=>?_) (λh=>absurd ak h);refine ZW ?_;refine DZ.mk ⟨_,⟨au,rfl⟩,ZW ?_⟩;by_cases e2:rJ b=0;case neg =>
  rw[rW e2]at ck2;refine .zW ck2 ?_;refine ZW ?_;refine⟨.uf [.ag [.qW,.qW,.qW,.qW,zDf],.uV 49 (.int .i64 (rJ b))],[],⟨by rw[k2 e1 e2,aB e2,rW e2],rfl⟩,?_⟩;exact ZX
 rw[e2,sD]at ck2;refine .zW ck2 ?_;refine ZG ?_;refine aP (λh=>absurd h ak) (λ_=>ZW ?_);refine qV.step 2 ?_;refine ZW ?_;refine aP (λ_=>?_) (λh=>absurd ak h);refine ZW ?_;refine DZ.mk ⟨_,⟨au,rfl⟩,ZW ?_⟩;have cs1:=cs1 e1;by_cases h1:(atR a a.top).2=0;case neg =>
  rw[rW h1]at cs1;refine .zW cs1 ?_;refine ZW ?_;refine⟨.uf [.ag [.qW,.qW,.qW,.qW,zDf],.uV 49 (.int .i64 ((atR a a.top).2))],[],⟨by rw[k3 e1 e2 h1,aB h1,rW h1],rfl⟩,?_⟩;exact ZX
 rw[h1,sD]at cs1;refine .zW cs1 ?_;refine⟨au,ZW ?_⟩;refine ZG ?_;refine aP (λ_=>?_) (λh=>absurd ak h);refine ZW ?_;refine DZ.mk ⟨_,⟨au,rfl⟩,ZW ?_⟩;have cs2:=cs2 e2;by_cases h2:(atR b b.top).2=0;case neg =>
  rw[rW h2]at cs2;refine .zW cs2 ?_;refine ZW ?_;refine⟨.uf [.ag [.qW,.qW,.qW,.qW,zDf],.uV 49 (.int .i64 ((atR b b.top).2))],[],⟨by rw[k4 e1 e2 h1 h2,aB h2,rW h2],rfl⟩,?_⟩;exact ZX
 rw[h2,sD]at cs2;refine .zW cs2 ?_;refine⟨au,ZW ?_⟩;refine ZG ?_;refine aP (λh=>absurd h ak) (λ_=>ZW ?_);refine wX.mk ⟨[true,false,true,true,false,true,false,false,true,false],by kernel_rfl,?_⟩;conv=>whnf
 refine .gen _ _ (YM (a8O cnT _ _ _) ?_) λ_=>?_;{exact wk};conv=>whnf
 refine .zK cn2 ?_;refine⟨by rw[aC],.mk (by simp[maxL];omega) aA ?_⟩;rw[<- aV];conv=>whnf
 refine .zK cv ?_;refine .gen _ _ (YM (a5e cso _ _ _) ?_) λ_=>?_;{exact wk};conv=>whnf
 refine .gen _ _ (YM (qX.frame [13] (ccp e1 e2) ⟨rfl,rfl,rfl,rfl⟩ ?_ (rM _)) ?_) λ_=>?_;{exact wk};{exact wk};conv=>whnf
 have k5:=k5 e1 e2 h1 h2;constructor<;>intro g;{have k5:=k5.trans (aG (by simp at g;omega));refine ZW ?_;refine⟨.uf [.ag [.qW,.qW,.qW,.qW,zDf],.uV 49 (.int .i64 (4))],[],⟨by rw[k5,aB (by decide:(4:Int)≠0),rW (by decide:(4:Int)≠0)],rfl⟩,?_⟩;exact ZX};have k5:=k5.trans (aB (by simp at g;omega));rw[k5,aG rfl,sD];have hE:=hE k5;have ta:=ta e1;have tb:=tb e2;have ct1:=ct1 e1;have ct2:=ct2 e2;have co1:=co1 e1 h1 hE;have co2:=co2 e2 h2 hE;have cC:=cC e1 e2 h1 h2 hE;refine ZW ?_;refine wX.mk ⟨[true,false,true,false,true,true],by kernel_rfl,?_⟩;conv=>whnf
 refine .gen _ _ (YM (Y8 ct1 _ _ _) ?_) λ_=>?_;{exact wk};conv=>whnf
 refine .gen _ _ (YM (Y8 ct2 _ _ _) ?_) λ_=>?_;{exact wk};refine ZW ?_;refine .grow 10 [0] 1 _ _ rfl rfl rfl (ZW ?_);refine .grow 10 [2] 1 _ _ rfl rfl rfl (ZW ?_);refine .grow 10 [1] 1 _ _ rfl rfl rfl (ZW ?_);refine⟨⟨17,84,85,86,88⟩,17,.str [],DN (zy b),{p:MT×MT // (p.1++p.2).Perm (zy b)},λi=>DN i.1.2,λ_=>[(15,.ptr 10 [] 0),(16,.mp 15),(17,.mp 17),(10,.ptr 5 [] 0),(4,.ptr 2 [] 0),(2,.cp a.av),(3,.cp b.av)],
  λi=>[(20,.uD 1 []),(19,.uD 1 ((nms (i.1.1.filter (cgB (zy a)))).map .str)),(18,.uD 1 ((nms (i.1.1.filter (P8 (zy a)))).map .str)),(17,.gone),(15,.tN (.str []) (DN (zy a))),(10,.box (.ag [.gs 18 (nms (i.1.1.filter (P8 (zy a)))).length,.gs 20 0,.gs 19 (nms (i.1.1.filter (cgB (zy a)))).length,sL E,zDf])),(5,.box (.ag [fa.av,fb.av])),(2,.box (.ag [.qW,.qW,.qW,.qW,zDf]))],
  ⟨⟨rfl,rfl,rfl⟩,⟨⟨_,rfl,_,_,Tryz.underlying84⟩,rfl,rfl⟩,⟨rfl,rfl,rfl⟩,⟨rfl,rfl,rfl⟩,⟨rfl,rfl,rfl⟩,⟨rfl,rfl,rfl,rfl,rfl⟩,by kernel_rfl,by kernel_rfl,by kernel_rfl⟩,rfl,rfl,⟨⟨([],zy b),.refl _⟩,rfl,aS 21,?_,.mk ?_ (by simp[uQ])⟩,λ_=>rfl,?_,?_⟩
 ·exact wk
 ·repeat' first|exact Zq|apply aI
  all_goals first|exact qO _|exact yJ _ _|skip
 ·rintro⟨⟨p1,p2⟩,hp⟩ b2j hz;have hz:p2=[]:=List.map_eq_nil_iff.1 hz;subst hz;have hp:p1.Perm (zy b):=by simpa using hp
  have hA:(nms (p1.filter (P8 (zy a)))).Perm (nms ((zy b).filter (P8 (zy a)))):=(hp.filter _).map _;have hC:(nms (p1.filter (cgB (zy a)))).Perm (nms ((zy b).filter (cgB (zy a)))):=(hp.filter _).map _;have hlen:p1.length<=300:=(by have:=hp.length_eq;simp only[zy,thE,thH,thG,bn,aC]at this;have:=hb.b.hs;have:=hb.b.gates.1;omega);have b1:(nms (p1.filter (P8 (zy a)))).length<=300:=(by rw[aC];exact dH (fJ _ _) hlen);have b2:(nms (p1.filter (cgB (zy a)))).length<=300:=(by rw[aC];exact dH (fJ _ _) hlen);clear b2j;dsimp only;generalize nms (p1.filter (P8 (zy a)))=A at *;generalize nms (p1.filter (cgB (zy a)))=C at *;clear hp hlen;refine ZW ?_;refine⟨⟨16,117,118,119,121⟩,15,.str [],DN (zy a),{p:MT×MT // (p.1++p.2).Perm (zy a)},λi=>DN i.1.2,λ_=>[(15,.ptr 10 [] 0),(16,.mp 15),(17,.mp 17),(10,.ptr 5 [] 0),(4,.ptr 2 [] 0),(2,.cp a.av),(3,.cp b.av)],
   λi=>[(20,.uD 1 ((nms (i.1.1.filter (P8 (zy b)))).map .str)),(19,.uD 1 (C.map .str)),(18,.uD 1 (A.map .str)),(17,.tN (.str []) (DN (zy b))),(15,.gone),(10,.box (.ag [.gs 18 A.length,.gs 20 (nms (i.1.1.filter (P8 (zy b)))).length,.gs 19 C.length,sL E,zDf])),(5,.box (.ag [fa.av,fb.av])),(2,.box (.ag [.qW,.qW,.qW,.qW,zDf]))],
   ⟨⟨rfl,rfl,rfl⟩,⟨⟨_,rfl,_,_,Tryz.underlying84⟩,rfl,rfl⟩,⟨rfl,rfl,rfl⟩,⟨rfl,rfl,rfl⟩,⟨rfl,rfl,rfl⟩,⟨rfl,rfl,rfl,rfl,rfl⟩,by kernel_rfl,by kernel_rfl,by kernel_rfl⟩,rfl,rfl,⟨⟨([],zy a),.refl _⟩,rfl,aS 21,?_,.mk ?_ (by simp[uQ])⟩,λ_=>rfl,?_,?_⟩
  ·exact wk
  ·repeat' first|exact Zq|apply aI
   all_goals first|exact qO _|exact yJ _ _|exact qU _|skip
  ·rintro⟨⟨p1,p2⟩,hp⟩ b2j hz;have hz:p2=[]:=List.map_eq_nil_iff.1 hz;subst hz;have hp:p1.Perm (zy a):=by simpa using hp
   have hB:(nms (p1.filter (P8 (zy b)))).Perm (nms ((zy a).filter (P8 (zy b)))):=(hp.filter _).map _;have hlen:p1.length<=300:=(by have:=hp.length_eq;simp only[zy,thE,thH,thG,bn,aC]at this;have:=ha.b.hs;have:=ha.b.gates.1;omega);have b3:(nms (p1.filter (P8 (zy b)))).length<=300:=(by rw[aC];exact dH (fJ _ _) hlen);clear b2j hp hlen;dsimp only;generalize nms (p1.filter (P8 (zy b)))=B at *;have sA:=Nv A aj;have sB:=Nv B aj;have sC:=Nv C aj;have lA:A.length=((sortL A).map AV.str).length:=(by rw[aC];exact(kF _).symm);have lB:B.length=((sortL B).map AV.str).length:=(by rw[aC];exact(kF _).symm);have lC:C.length=((sortL C).map AV.str).length:=(by rw[aC];exact(kF _).symm);rw[Zb ta hB,Zb tb hA,a5f tb hC]at *;refine ZW ?_;refine⟨⟨93,33,138,140,142,143,18,19,20,A.length,C.length,B.length,rfl,rfl,rfl,rfl,⟨rfl,rfl,rfl⟩,⟨rfl,rfl⟩,ZW ?_⟩⟩;refine qV.step 3 ?_;refine ZW ?_;refine aP (λ_=>?_) (λh=>absurd ak h);refine ZW ?_;refine⟨au,ZW ?_⟩;refine .gen _ _ (YM (qX.frame [18] sA ⟨rfl,rfl,rfl,rfl⟩ ?_ (rM _)) ?_) λ_=>?_;{exact wk};{exact wk};refine ZW ?_;refine ZG ?_;refine aP (λ_=>?_) (λh=>absurd ak h);refine ZW ?_;refine⟨au,ZW ?_⟩;refine .gen _ _ (YM (qX.frame [19] sC ⟨rfl,rfl,rfl,rfl⟩ ?_ (rM _)) ?_) λ_=>?_;{exact wk};{exact wk};refine ZW ?_;refine ZG ?_;refine aP (λ_=>?_) (λh=>absurd ak h);refine ZW ?_;refine⟨au,ZW ?_⟩;refine .gen _ _ (YM (qX.frame [20] sB ⟨rfl,rfl,rfl,rfl⟩ ?_ (rM _)) ?_) λ_=>?_;{exact wk};{exact wk};refine ZW ?_;refine ZG ?_;refine aP (λh=>absurd h ak) (λ_=>ZW ?_);refine .Xe 10 [0] 18 1 _ _ _ rfl (lQ (λn=>some (AV.gs 18 n)) lA) rfl (by rw[<- lA];simp[maxL];omega) rfl (ZW ?_);refine .Xe 10 [2] 19 1 _ _ _ rfl (lQ (λn=>some (AV.gs 19 n)) lC) rfl (by rw[<- lC];simp[maxL];omega) rfl (ZW ?_);refine .Xe 10 [1] 20 1 _ _ _ rfl (lQ (λn=>some (AV.gs 20 n)) lB) rfl (by rw[<- lB];simp[maxL];omega) rfl (ZW ?_);refine ZR ?_;refine⟨au,?_⟩;conv=>whnf
   refine .zK cn1 ?_;refine .zK co1 ?_;refine⟨au,?_⟩;conv=>whnf
   refine .zK cn2 ?_;refine .zK co2 ?_;refine .zK cC ?_;refine⟨_,[],⟨rfl,rfl⟩,?_⟩;exact ZX
  rintro⟨⟨p1,p2⟩,hp⟩ k v rest b2j hperm;obtain⟨⟨nm,th⟩,q,hq,rfl,rfl,hrest⟩:=a0i hperm;have hq:p2.Perm ((nm,th)::q):=hq;have hp:(p1++p2).Perm (zy a):=hp;have hp':((p1++[(nm,th)])++q).Perm (zy a):=by refine List.Perm.trans ?_ hp;rw[bP];exact(hq.symm.append_left p1)
  have hlen:p1.length<=300:=(by have:=hp.length_eq;simp only[zy,thE,thH,thG,bn,aC]at this;have:=ha.b.hs;have:=ha.b.gates.1;omega);have b3:(nms (p1.filter (P8 (zy b)))).length<=300:=(by rw[aC];exact dH (fJ _ _) hlen);have n1:nms ((p1++[(nm,th)]).filter (P8 (zy b)))=if P8 (zy b) (nm,th)=true then nms (p1.filter (P8 (zy b)))++[nm]else nms (p1.filter (P8 (zy b))):=(by rw[kY];split;{rename_i e;simp[e]};rename_i e;simp[e]);generalize p1++[(nm,th)]=p1' at *;clear hperm b2j hp hq;dsimp only;generalize nms (p1.filter (P8 (zy b)))=B at *;cases hl:Dj (zy b) nm with
  | none =>
    have m1:=n1.trans (aG (by unfold P8;rw[hl];rfl));clear n1;refine ZW ?_;refine Ug hl (ZW ?_);refine⟨by rw[aC],ak,.mk (by simp[maxL];omega) aA (ZW ?_)⟩;refine⟨⟨(p1',q),hp'⟩,hrest,aS 21,?_,.mk ?_ (by simp[uQ])⟩;{exact wk};dsimp only;rw[m1];repeat' first|exact Zq|apply aI
    all_goals first|exact qO _|exact yJ _ _|(show sS _ (List.map _ (_++[_]));rw[aV];exact qU _)|(rw[bn];exact tV _)|exact qU _|skip
  | some x =>
    have m1:=n1.trans (aB (by unfold P8;rw[hl];simp));clear n1;cases x;all_goals
     refine ZW ?_;refine L8 hl (ZW ?_);refine⟨⟨(p1',q),hp'⟩,hrest,aS 21,?_,.mk ?_ (by simp[uQ])⟩;{exact wk};dsimp only;rw[m1];repeat' first|exact Zq|apply aI
     all_goals first|exact qO _|exact yJ _ _|exact qU _|skip
 rintro⟨⟨p1,p2⟩,hp⟩ k v rest b2j hperm;obtain⟨⟨nm,th⟩,q,hq,rfl,rfl,hrest⟩:=a0i hperm;have hq:p2.Perm ((nm,th)::q):=hq;have hp:(p1++p2).Perm (zy b):=hp;have hp':((p1++[(nm,th)])++q).Perm (zy b):=by refine List.Perm.trans ?_ hp;rw[bP];exact(hq.symm.append_left p1)
 have hmem:(nm,th)∈zy b:=hp'.mem_iff.1 ak;have hlen:p1.length<=300:=(by have:=hp.length_eq;simp only[zy,thE,thH,thG,bn,aC]at this;have:=hb.b.hs;have:=hb.b.gates.1;omega);have b1:(nms (p1.filter (P8 (zy a)))).length<=300:=(by rw[aC];exact dH (fJ _ _) hlen);have b2:(nms (p1.filter (cgB (zy a)))).length<=300:=(by rw[aC];exact dH (fJ _ _) hlen);have n1:nms ((p1++[(nm,th)]).filter (P8 (zy a)))=if P8 (zy a) (nm,th)=true then nms (p1.filter (P8 (zy a)))++[nm]else nms (p1.filter (P8 (zy a))):=(by rw[kY];split;{rename_i e;simp[e]};rename_i e;simp[e]);have n2:nms ((p1++[(nm,th)]).filter (cgB (zy a)))=if cgB (zy a) (nm,th)=true then nms (p1.filter (cgB (zy a)))++[nm]else nms (p1.filter (cgB (zy a))):=(by rw[kY];split;{rename_i e;simp[e]};rename_i e;simp[e]);have hth:=tb.ok _ hmem;generalize p1++[(nm,th)]=p1' at *;clear hperm b2j;dsimp only;generalize nms (p1.filter (P8 (zy a)))=A at *;generalize nms (p1.filter (cgB (zy a)))=C at *;cases hl:Dj (zy a) nm with
 | none =>
   have m1:=n1.trans (aG (by unfold P8;rw[hl];rfl));have m2:=n2.trans (aB (by unfold cgB;rw[hl];simp));clear n1 n2;cases th;all_goals
    refine ZW ?_;refine Ug hl (ZW ?_);refine⟨by rw[aC],ak,.mk (by simp[maxL];omega) aA (ZW ?_)⟩;refine⟨⟨(p1',q),hp'⟩,hrest,aS 21,?_,.mk ?_ (by simp[uQ])⟩;{exact wk};dsimp only;rw[m1,m2];repeat' first|exact Zq|apply aI
    all_goals first|exact qO _|exact yJ _ _|(show sS _ (List.map _ (_++[_]));rw[aV];exact qU _)|(rw[bn];exact tV _)|skip
 | some x =>
   have hx:=ta.ok _ (WM hl);have m1:=n1.trans (aB (by unfold P8;rw[hl];simp));by_cases hs:BK th x
   ·have cs:=b0V th x hth hx true (by simp[hs]);have m2:=n2.trans (aB (by unfold cgB;rw[hl];simp[hs]));have cs:=cs.weak (R':=.tt) rfl;clear n1 n2;cases th <;> cases x;all_goals
     refine ZW ?_;refine L8 hl (ZW ?_);refine .zW cs ?_;refine⟨⟨(p1',q),hp'⟩,hrest,aS 21,?_,.mk ?_ (by simp[uQ])⟩;{exact wk};dsimp only;rw[m1,m2];repeat' first|exact Zq|apply aI
     all_goals first|exact qO _|exact yJ _ _|skip
   have cs:=b0V th x hth hx false (by simp[hs]);have m2:=n2.trans (aG (by unfold cgB;rw[hl];simp[hs]));have cs:=cs.weak (R':=.ff) rfl;clear n1 n2;cases th <;> cases x;all_goals
    refine ZW ?_;refine L8 hl (ZW ?_);refine .zW cs ?_;refine⟨by rw[aC],ak,.mk (by simp[maxL];omega) aA (ZW ?_)⟩;refine⟨⟨(p1',q),hp'⟩,hrest,aS 21,?_,.mk ?_ (by simp[uQ])⟩;{exact wk};dsimp only;rw[m1,m2];repeat' first|exact Zq|apply aI
    all_goals first|exact qO _|exact yJ _ _|(show sS _ (List.map _ (_++[_]));rw[aV];exact qU _)|(rw[bn];exact tV _)|skip
theorem b7r{f:Nat}{args:List AV}{H:Heap}{R:AV}{G:Heap}(h:UD Tryz.prog f args H λR' G'=>R'=R/\G'=G):ZQ f args H R G:=by refine⟨h.1,λc vs hr hv=>(h.2 c vs hr hv).mono ?_⟩;rintro _ _ ⟨v,d,_,_,⟨rfl,rfl⟩,h3⟩;exact⟨v,d,h3⟩
theorem a9y{a b:Md}(h:ckM a b=0):rJ a=0/\rJ b=0/\(atR a a.top).2=0/\(atR b b.top).2=0:=by unfold ckM at h;split at h;{rename_i g;exact absurd h g};split at h;{rename_i g;exact absurd h g};split at h;{rename_i g;exact absurd h g};split at h;{rename_i g;exact absurd h g};rename_i g1 g2 g3 g4;exact⟨ji.1 g1,ji.1 g2,ji.1 g3,ji.1 g4⟩
open Classical in
theorem a7n{a b:Md}(ta:b5y a)(tb:b5y b):∀s∈Gg b,s∈Gg a->ZQ 37 [a.av,b.av,.str s] [] (.bool (b0Q a b s)) []:=by
 intro s hb ha;obtain⟨y,hy,rfl⟩:=bZ.1 ((Jp b s).1 hb);obtain⟨x,hx,e⟩:=bZ.1 ((Jp a _).1 ha);refine a9Z a b _ (tb.b4v y hy) x.2 y.2 (e ▸ ta.atT x hx) (tb.atT y hy) (ta.ok x hx) (tb.ok y hy) _ ?_;have hx':(y.1,x.2)∈zy a:=by rw[<- e];exact hx
 unfold b0Q;rw[RQ ta.nodup hx',RQ tb.nodup hy];exact⟨λh=>eu h,λh=>dQ h⟩
theorem Uy(h1c:YZ)(a b:Md):ZQ 3 [a.av,b.av] [] (.bool true) []:=by
 have g1:=b5g a;have g2:=b5g b;cases ha:b0b a with
 |true =>rw[ha]at g1;have g1:=g1.weak (R':=.tt) rfl;refine ZN Tryz.func3 λhok=>?_;refine .zW Jk ?_;refine .zW g1 ?_;refine .zW Jk ?_;exact ZX
 | false=>cases hb:b0b b with
   |true =>rw[ha]at g1;rw[hb]at g2;have g1:=g1.weak (R':=.ff) rfl;have g2:=g2.weak (R':=.tt) rfl;refine ZN Tryz.func3 λhok=>?_;refine .zW Jk ?_;refine .zW g1 ?_;refine .zW g2 ?_;refine .zW Jk ?_;exact ZX
   |false =>have Ha:=b5n ha;have Hb:=b5n hb;rw[ha]at g1;rw[hb]at g2;have g1:=g1.weak (R':=.ff) rfl;have g2:=g2.weak (R':=.ff) rfl;have cc:=YW h1c a b Ha Hb;have ce:=XW a b (by have:=Ha.evs;omega) (by have:=Hb.evs;omega);refine ZI Tryz.func3 λhok=>?_;have cM:=λh=>b7r (a95 a b ⟨Ha.b,Ha.c,Ha.x,Ha.evs⟩ ⟨Hb.b,Hb.c,Hb.x,Hb.evs⟩ (WsM.ok hok.1) (WsM.ok hok.2.1) h);refine Z0 ?_;refine .zW Jk ?_;refine .zW g1 ?_;refine .zW g2 ?_;refine .zW cc ?_;by_cases hk:ckM a b=0;{refine aP (λ_=>?_) (λg=>absurd hk g);refine ZW ?_;refine .zW ce ?_;refine⟨λ_=>?_,λg=>?_⟩;{refine ZW ?_;exact ZX};have hE:(AU a b).length<=10:=(by simp at g;omega);have cM:=cM λ_=>hE;rw[show mdR a b=_ from aG hk,hk,sD]at cM;obtain⟨e1,e2,h1,h2⟩:=a9y hk;have ta:=b5E (wC e1) Ha.x Ha.b (WsM.ok hok.1);have tb:=b5E (wC e2) Hb.x Hb.b (WsM.ok hok.2.1);have cR:=a6W a b Ha.b Hb.b (wC e1) (wC e2) h1 h2 hE (b0Q a b) (a7n ta tb);have cS:=a3h (a8M a b) (a8M b a) (b3Y a b (b0Q a b)) (AU a b) (b2z a b);refine ZW ?_;refine .zW cM ?_;refine aP (λg=>absurd hk g) (λ_=>?_);refine ZR ?_;refine .zK cR ?_;refine .zK cS ?_;exact ZX};refine aP (λg=>absurd g hk) (λ_=>?_);have cM:=cM λh=>absurd h hk;have cN:=b6A (ckM a b);rw[show mdR a b=_ from aB hk,rW hk]at cM;rw[rW hk]at cN;have cS:=a3h [] [] [] [] ⟨false,0,0,0,0⟩;refine ZW ?_;refine .zW cM ?_;refine aP (λ_=>?_) (λg=>absurd hk g);refine ZW ?_;refine .zW cS ?_;refine .zW cN ?_;refine ZE ?_ ?_;{show _↔_;simp};exact wk
theorem one:YZ:=b7u
end S