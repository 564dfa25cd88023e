/-
  Contracts of functions of the program. Nothing is assumed.
-/
import Derived.Test.YtdkhmfabhfgemaaGreatT4
open Go Go.AL Go.Proofs
namespace S
set_option maxRecDepth 100000
theorem yD(a:List Int)(hsz:a.length<=35184372088832):ZQ 176 [wL a] [] (wL (wd (val a))) []:=by
 refine ZI Tryz.func176 λhok=>?_;have hl:a.length<=9223372036854775807:=(by simpa[KD,Ok,maxL]using hok.1.1);have hw:Ws a:=Ws.ok hok.1.2;conv=>whnf
 refine qV.of <| qM.inv (.refl _ _) (fun(n:Nat)=>n<=a.length/\∀k,n<=k->a.getD k 0=0) (fun(n:Nat)=>[(3,.int .i64 n)]) (λ_=>_) (fun(n:Nat)=>n) a.length ?_ (λ_=>rfl) ?_ ?_;{exact⟨aS _,λk hk=>by rw[aF,gy hk];rfl⟩}
 ·repeat' first|exact Zq|apply aI
  simp
 rintro n ⟨hn,hz⟩ _;have fin:(n=0\/a.getD (n-1) 0≠0)->a.take n=wd (val a):=a0Z hw hn hz;have cut:a.take n=wd (val a)->((a.map (AV.int .u32)).drop (0:Int).toNat).take ((n:Int).toNat-(0:Int).toNat)=(wd (val a)).map (AV.int .u32):=by intro e;rw[<- e];simp
 have hll:a.take n=wd (val a)->(wd (val a)).length<=a.length:=(by intro e;rw[<- e];simp;omega);conv=>whnf
 constructor<;>intro h
 ·conv=>whnf
  refine ZG ?_;refine vC 0 (i:=n-1) aj aj ?_;conv=>whnf
  constructor<;>intro h0
  ·(conv=>whnf);refine ZG ?_
   refine⟨n-1,?_,?_,?_⟩;{refine⟨aj,λk hk=>?_⟩;by_cases hkn:k=n-1;{subst hkn;exact h0};exact hz k aj}
   ·repeat' first|exact Zq|apply aI
    omega
   omega
  have e:=fin (.inr h0);have hlen:=hll e;conv=>whnf
  refine⟨⟨aj,aj,aA⟩,?_⟩;rw[cut e];conv=>whnf
  refine .tok (by simp[maxL];omega) aA ?_;conv=>whnf
  refine ZF ?_;exact⟨rfl,qY ak⟩
 have e:=fin (.inl aj);have hlen:=hll e;conv=>whnf
 refine⟨⟨aj,aj,aA⟩,?_⟩;rw[cut e];conv=>whnf
 refine .tok (by simp[maxL];omega) aA ?_;conv=>whnf
 refine ZF ?_;exact⟨rfl,qY ak⟩
theorem yC(a:List Int)(i:Nat):ZQ 178 [wL a,.int .i64 i] [] (.int .u64 (a.getD i 0)) []:=by
 refine ZI Tryz.func178 λhok=>?_;have hw:Ws a:=Ws.ok hok.1.2;conv=>whnf
 constructor<;>intro h
 ·have h:i<a.length:=(by simp only[aC]at h;omega);conv=>whnf
  refine vC 0 rfl h ?_;conv=>whnf
  refine ZF ?_;have:=hw.getD (i:=i);exact⟨rfl,wrap_u64 aj aj⟩
 have h:a.length<=i:=(by simp only[aC]at h;omega);conv=>whnf
 refine ZF ?_;refine⟨rfl,?_⟩;rw[aF,gy h];rfl
theorem a5p:ZQ 54 [.int .i64 1] [] (wL [1,0]) []:=by refine ZI Tryz.func54 λhok=>?_;refine ZU ?_;refine ZF ?_;exact⟨rfl,⟨rfl,ay⟩,⟨rfl,ay⟩,trivial⟩
theorem b0z:ZQ 107 [wL [1,0]] [] (.int .i64 1) []:=by refine ZI Tryz.func107 λhok=>?_;refine ZU ?_;refine ZF ?_;exact⟨rfl,ay⟩
theorem b1E:ZQ 177 [wL [1],.int .i64 31] [] (wL [2147483648]) []:=by have ct:=yD [2147483648,0] au;rw[show wd (val [2147483648,0])=[2147483648]from by decide +kernel]at ct;refine ZI Tryz.func177 λhok=>?_;refine ZU ?_;refine .zR ct ?_;exact ZH
theorem b5Z:ZQ 177 [wL [1,0],.int .i64 31] [] (wL [2147483648]) []:=by have ct:=yD [2147483648,0,0] au;rw[show wd (val [2147483648,0,0])=[2147483648]from by decide +kernel]at ct;refine ZI Tryz.func177 λhok=>?_;refine ZU ?_;refine .zR ct ?_;exact ZH
theorem b1H:ZQ 180 [wL [2147483648],wL [2147483648]] [] (.int .i64 0) []:=by have cw:=yC [2147483648] 0;refine ZI Tryz.func180 λhok=>?_;refine ZU ?_;refine .zR cw ?_;refine .zR cw ?_;refine .zR cw ?_;refine .zR cw ?_;refine ZF ?_;exact⟨rfl,rfl⟩
theorem b4f:ZQ 181 [wL [2147483648],wL [2147483648]] [] (.uf [wL [],.int .i64 0]) []:=by have cw:=yC [2147483648] 0;have ct:=yD [0] au;rw[show wd (val [0])=[]from by decide +kernel]at ct;refine ZI Tryz.func181 λhok=>?_;refine ZU ?_;refine .zR b1H ?_;refine .zR cw ?_;refine .zR cw ?_;refine .zR ct ?_;exact ZH
theorem b0y:ZQ 182 [wL [],.int .i64 31] [] (wL []) []:=by have ct:=yD [] au;rw[show wd (val [])=[]from by decide +kernel]at ct;refine ZI Tryz.func182 λhok=>?_;refine ZU ?_;refine .zR ct ?_;exact ZH
theorem b4g:ZQ 179 [wL [2147483648],wL [1]] [] (wL [2147483648]) []:=by
 have cw0:=yC [1] 0;have cw1:=yC [1] 1;have ct:=yD [2147483648,0,0] au;rw[show wd (val [2147483648,0,0])=[2147483648]from by decide +kernel]at ct;refine ZI Tryz.func179 λhok=>?_;refine ZU ?_;refine IU.pure _ _ ?_ ⟨rfl,rfl⟩ (cw0) ?_
 ·(repeat' (first|exact trivial|refine aI ?_ ?_|decide +kernel|exact rfl))
 refine ZU ?_;refine IU.pure _ _ ?_ ⟨rfl,rfl⟩ (cw1) ?_
 ·(repeat' (first|exact trivial|refine aI ?_ ?_|decide +kernel|exact rfl))
 refine ZU ?_;refine .gen _ _ (qX.Xe 0 rfl rfl ay (qX.vU (ct) ?_ ⟨rfl,rfl⟩)) λ_=>?_
 ·(repeat' (first|exact trivial|refine aI ?_ ?_|decide +kernel|exact rfl))
 refine ZU ?_;exact ZH
theorem b1G:ZQ 109 [wL [1],wL [1]] [] (.uf [wL [1],wL [],.int .i64 0]) []:=by
 have cw0:=yC [2147483648] 0;have cw1:=yC [2147483648] 1;have ct1:=yD [1] au;rw[show wd (val [1])=[1]from by decide +kernel]at ct1;have ct2:=yD [2147483648] au;rw[show wd (val [2147483648])=[2147483648]from by decide +kernel]at ct2;refine ZI Tryz.func109 λhok=>?_;conv=>whnf
 refine .zR ct1 ?_;refine .pure _ _ ?_ ⟨rfl,rfl⟩ (b1E) λ_=>?_
 ·(repeat' (first|exact trivial|refine aI ?_ ?_|decide +kernel|exact rfl))
 conv=>whnf
 refine .pure _ _ ?_ ⟨rfl,rfl⟩ (b1E) λ_=>?_
 ·(repeat' (first|exact trivial|refine aI ?_ ?_|decide +kernel|exact rfl))
 conv=>whnf
 refine wX.mk ⟨[true,true,false,true,true,true,true,true,true,true,true,true,true,true,true],by kernel_rfl,?_⟩;conv=>whnf
 refine aP ay (.wr ?_);conv=>whnf
 refine aP (rQ ay ay) ?_;conv=>whnf
 refine aP (rQ ay ay) ?_;conv=>whnf
 refine b1m.mk ⟨ay,?_⟩;conv=>whnf
 refine Ou.pure ay ay ⟨rfl,?_⟩;refine ZU ?_;refine .zR ct2 ?_;refine .zR cw1 ?_;refine .zR cw0 ?_;refine .zR cw0 ?_;refine .zR b4g ?_;refine .zR b1H ?_;refine .zR b4f ?_;refine .gen _ _ (qX.Xe 0 rfl rfl ay (qX.vU (ct1) ?_ ⟨rfl,rfl⟩)) λ_=>?_
 ·(repeat' (first|exact trivial|refine aI ?_ ?_|decide +kernel|exact rfl))
 refine ZU ?_;refine .zR b0y ?_;refine ZF ?_
 (repeat' (first|exact trivial|refine aI ?_ ?_|decide +kernel|exact rfl))
theorem a2i:ZQ 109 [wL [1,0],wL [1]] [] (.uf [wL [1],wL [],.int .i64 0]) []:=by
 have cw0:=yC [2147483648] 0;have cw1:=yC [2147483648] 1;have ct1:=yD [1] au;rw[show wd (val [1])=[1]from by decide +kernel]at ct1;have ct2:=yD [2147483648] au;rw[show wd (val [2147483648])=[2147483648]from by decide +kernel]at ct2;refine ZI Tryz.func109 λhok=>?_;conv=>whnf
 refine .zR ct1 ?_;refine .pure _ _ ?_ ⟨rfl,rfl⟩ (b5Z) λ_=>?_
 ·(repeat' (first|exact trivial|refine aI ?_ ?_|decide +kernel|exact rfl))
 conv=>whnf
 refine .pure _ _ ?_ ⟨rfl,rfl⟩ (b1E) λ_=>?_
 ·(repeat' (first|exact trivial|refine aI ?_ ?_|decide +kernel|exact rfl))
 conv=>whnf
 refine wX.mk ⟨[true,true,false,true,true,true,true,true,true,true,true,true,true,true,true],by kernel_rfl,?_⟩;conv=>whnf
 refine aP ay (.wr ?_);conv=>whnf
 refine aP (rQ ay ay) ?_;conv=>whnf
 refine aP (rQ ay ay) ?_;conv=>whnf
 refine b1m.mk ⟨ay,?_⟩;conv=>whnf
 refine Ou.pure ay ay ⟨rfl,?_⟩;refine ZU ?_;refine .zR ct2 ?_;refine .zR cw1 ?_;refine .zR cw0 ?_;refine .zR cw0 ?_;refine .zR b4g ?_;refine .zR b1H ?_;refine .zR b4f ?_;refine .gen _ _ (qX.Xe 0 rfl rfl ay (qX.vU (ct1) ?_ ⟨rfl,rfl⟩)) λ_=>?_
 ·(repeat' (first|exact trivial|refine aI ?_ ?_|decide +kernel|exact rfl))
 refine ZU ?_;refine .zR b0y ?_;refine ZF ?_
 (repeat' (first|exact trivial|refine aI ?_ ?_|decide +kernel|exact rfl))
theorem b50:ZQ 108 [wL [1,0],wL [1,0]] [] (wL [1]) []:=by
 have ct:=yD [1,0] au;rw[show wd (val [1,0])=[1]from by decide +kernel]at ct;refine ZI Tryz.func108 λhok=>?_;conv=>whnf
 refine .zR ct ?_;refine .zR ct ?_;refine .zR b1G ?_;refine ZF ?_
 (repeat' (first|exact trivial|refine aI ?_ ?_|decide +kernel|exact rfl))
theorem b4j:ZQ 53 [.bool false,wL [1,0],wL [1,0]] [] (.uf [Rat.av ⟨false,[1],[1]⟩,.int .i64 0]) []:=by
 refine ZI Tryz.func53 λhok=>?_;conv=>whnf
 refine .zR b0z ?_;refine .zR b0z ?_;refine .zR b50 ?_;refine .zR a2i ?_;refine .zR a2i ?_;refine ZF ?_
 (repeat' (first|exact trivial|refine aI ?_ ?_|decide +kernel|exact rfl))
theorem b4h:ZQ 16 [.int .i64 1,.int .i64 1] [] (.uf [Rat.av ⟨false,[1],[1]⟩,.int .i64 0]) []:=by
 refine ZI Tryz.func16 λhok=>?_;conv=>whnf
 refine .zR a5p ?_;refine .zR a5p ?_;refine .pure _ _ ?_ ⟨rfl,rfl⟩ b4j λ_=>?_;{refine⟨?_,tV _,tV _,trivial⟩;show _↔_;simp};conv=>whnf
 refine ZF ?_
 (repeat' (first|exact trivial|refine aI ?_ ?_|decide +kernel|exact rfl))
theorem b7u:ZQ 175 [.int .i64 1] [] (Rat.av ⟨false,[1],[1]⟩) []:=by
 refine ZI Tryz.func175 λhok=>?_;conv=>whnf
 refine .zR b4h ?_;refine ZF ?_
 (repeat' (first|exact trivial|refine aI ?_ ?_|decide +kernel|exact rfl))
theorem WJ{a b:List Int}(ha:Ws a)(hb:Ws b){i:Nat}(h:val (a.drop i)<val (b.drop i)):val a<val b:=by rw[<- KN ha,<- KN hb]at h;apply aU;intro hn;have:=Nat.div_le_div_right (c:=4294967296^i) (Nat.le_of_not_lt hn);omega
theorem a6Y(a b:List Int)(ha:a.length<=35184372088832)(hb:b.length<=35184372088832):ZQ 180 [wL a,wL b] [] (.int .i64 (EX (val a) (val b))) []:=by
 refine ZI Tryz.func180 λhok=>?_;have wa:Ws a:=Ws.ok hok.1.2;have wb:Ws b:=Ws.ok hok.2.1.2;conv=>whnf
 obtain⟨m,hm⟩:∃m:Nat,max (((a.map (AV.int .u32)).length:Nat):Int) (((b.map (AV.int .u32)).length:Nat):Int)=(m:Int):=⟨max a.length b.length,aA⟩;have hm1:a.length<=m/\b.length<=m/\m<=35184372088832:=(by simp at hm;omega);rw[hm];refine⟨rQ aj aj,?_⟩;conv=>whnf
 refine qV.of <| qM.inv (.refl _ _) (fun(n:Nat)=>n<=m/\val (a.drop n)=val (b.drop n)) (fun(n:Nat)=>[(5,.int .i64 ((n:Int)-1))]) (λ_=>_) (fun(n:Nat)=>n) m ?_ (λ_=>rfl) ?_ ?_;{exact⟨aS _,by rw[aX hm1.1,aX hm1.2.1]⟩};{exact wk};rintro n ⟨hn,hd⟩ _;conv=>whnf
 constructor<;>intro h0
 ·obtain⟨i,rfl⟩:∃i,n=i+1:=⟨n-1,aj⟩;have e1:(((i+1:Nat):Int)-1)=(i:Int):=aj;have ca:=yC a i;have cb:=yC b i;have hva:=Ce a i;have hvb:=Ce b i;have hxa:=wa.getD (i:=i);have hxb:=wb.getD (i:=i);rw[e1];generalize a.getD i 0=x at *;generalize b.getD i 0=y at *;conv=>whnf
  refine .zK ca ?_;refine .zK cb ?_;constructor<;>intro h1
  ·(conv=>whnf);refine ZF ?_
   refine⟨rfl,?_⟩;rw[EX,aG (WJ wa wb (i:=i) aj)]
  conv=>whnf
  refine .zK ca ?_;refine .zK cb ?_;constructor<;>intro h2
  ·have:=WJ wb wa (i:=i) aj;conv=>whnf
   refine ZF ?_;refine⟨rfl,?_⟩;rw[EX,aB aj,aG this]
  conv=>whnf
  refine ZG ?_;refine⟨i,?_,?_,?_⟩;{exact⟨aj,aj⟩};{exact wk};omega
 have hn0:n=0:=aj;subst hn0;simp only[fD]at hd;conv=>whnf
 refine ZF ?_;refine⟨rfl,?_⟩;rw[EX,aB aj,aB aj]
theorem Tj{l:List Int}{n:Nat}(h:val l<4294967296^n):val (l.take n)=val l:=by by_cases hn:n<=l.length;{have e:=uI n hn;have h0:val (l.drop n)=0:=(by apply aU;intro hne;have:4294967296^n*1<=4294967296^n*val (l.drop n):=dn _ aj;omega);rw[h0,gB]at e;omega};rw[bf aj]
theorem VT{p B x low b y b' va vb s:Nat}(h1:x+B*b'=y+low+b)(h:va+p*b=s+vb):va+p*x+p*B*b'=s+p*y+(vb+p*low):=by have e1:p*(x+B*b')=p*(y+low+b):=(by rw[h1]);rw[dB,dB,dB,<- dA]at e1;omega
theorem a2Y(a b:List Int)(ha:a.length<=35184372088832)(hb:b.length<=35184372088832)(R:AV)(hR:R=if val a<val b then .uf [wL [],.int .i64 3]else .uf [wL (wd (val a-val b)),.int .i64 0]) :
  ZQ 181 [wL a,wL b] [] R []:=by
 refine ZI Tryz.func181 λhok=>?_;have wa:Ws a:=Ws.ok hok.1.2;have wb:Ws b:=Ws.ok hok.2.1.2;conv=>whnf
 refine .zK (a6Y a b aj aj) ?_;constructor<;>intro h
 ·have hlt:val a<val b:=by
   unfold EX at h;split at h
   ·assumption
   split at h <;> omega
  rw[aG hlt]at hR;subst hR;conv=>whnf
  exact ZH
 have hge:¬val a<val b:=(by intro hlt;unfold EX at h;rw[aG hlt]at h;omega);rw[aB hge]at hR;subst hR;conv=>whnf
 refine qV.of <| qM.inv (.grow 6 1 [] _ rfl (.inl ⟨rfl,rfl⟩) (.refl _ _)) (λx:Nat×Nat×List Int=>x.1<=a.length/\x.2.1<=1/\Ws x.2.2/\x.2.2.length=x.1/\val (a.take x.1)+4294967296^x.1*x.2.1=val x.2.2+val (b.take x.1))
  (fun|(i,b,s)=>[(16,.int .i64 i),(7,.int .u64 b),(6,.sl 1 (s.map (.int .u32)) (.own 0))]) (fun|(_,_,s)=>[(0,.tok 1 s.length)])
  (λx=>a.length-x.1) (0,0,[]) ?_ (λ_=>rfl) ?_ ?_
 ·exact⟨aO _,ak,Ws.nil,rfl,by simp[val]⟩
 ·exact Zv wk wk
 rintro⟨i,bo,s⟩ ⟨hi,hbo,hws,hsl,hv⟩ _;simp only at hi hbo hws hsl hv;refine ZS ?_ ?_<;>intro h
 ·have hlt:i<a.length:=(by simpa using h);have ca:=yC a i;have cb:=yC b i;have hva:=sN (l:=a) (i:=i);have hvb:=sN (l:=b) (i:=i);have hxa:=wa.getD (i:=i);have hxb:=wb.getD (i:=i);generalize a.getD i 0=x0 at *;generalize b.getD i 0=y0 at *;obtain⟨x,rfl⟩:∃x:Nat,x0=x:=⟨x0.toNat,aj⟩;obtain⟨w,rfl⟩:∃x:Nat,y0=x:=⟨y0.toNat,aj⟩;rw[aJ]at hva hvb;conv=>whnf
  refine .gen _ _ (qX.vU ca (rM _) ⟨rfl,rfl⟩) λ_=>?_;conv=>whnf
  refine .gen _ _ (qX.vU cb (rM _) ⟨rfl,rfl⟩) λ_=>?_;conv=>whnf
  obtain⟨D,hD,hD1,hD2,hD3⟩:=VI (x:=x) (low:=w) (b:=bo) aj aj hbo;rw[hD];conv=>whnf
  rw[vM (a:=D)];have hy:D % 4294967296<4294967296:=gI _ au;generalize D % 4294967296=y at *;refine⟨by rw[aC],?_⟩;refine⟨by simp[maxL];omega,aA,?_⟩;conv=>whnf
  refine⟨au,?_⟩;rw[a5h];conv=>whnf
  refine ZG ?_;refine⟨(i+1,D / 9223372036854775808,s++[(y:Int)]),?_,?_,?_⟩;{refine⟨hlt,hD2,hws.append (Ws.cons aj Ws.nil),by simp[hsl],?_⟩;show val (a.take (i+1))+4294967296^(i+1)*(D / 9223372036854775808)=val (s++[(y:Int)])+val (b.take (i+1));have e1:val (s++[(y:Int)])=val s+4294967296^i*y:=(by rw[val_append,hsl];simp[val]);rw[hva,hvb,e1,bU];exact VT hD3 hv}
  ·refine Zv ?_ ?_
   ·repeat' first|exact Zq|apply aI
    all_goals first|(refine qY ?_;simp[strip];done)|simp
   repeat' first|exact Zq|apply aI
   all_goals simp
  show a.length-(i+1)<a.length-i;omega
 have hil:i=a.length:=(by have:¬i<a.length:=(by simpa using h);omega);subst hil;rw[bg]at hv;have hva:=wJ wa;rw[Tj aj]at hv;have hvs:=wJ hws;rw[hsl]at hvs;have hfin:val s=val a-val b:=(by have hb2:bo=0\/bo=1:=aj;rcases hb2 with rfl|rfl;{omega};omega);have ct:=yD s aj;rw[hfin]at ct;conv=>whnf
 refine .zK ct ?_;exact ZH
theorem b51{c x n:Nat}(hn:n<32)(hc:c<2^n)(hx:x<4294967296):Am .or .u64 (c:Int) ((x*2^n:Nat):Int)=((c+x*2^n:Nat):Int):=by have h3:2^n<=2^31:=bQ aj aj;have h4:x*2^n<=4294967295*2^31:=gY aj h3;rw[a2m aj aj];have:=lS (i:=n) hc x;rw[oq]at this;rw[Nat.or_comm,<- this,lF]
theorem a8k{c x n:Nat}(hc:c<2^n)(hx:x<4294967296):(c+x*2^n) / 4294967296<2^n:=by rw[eY aj];have h1:(x+1)*2^n<=4294967296*2^n:=bV _ aj;rw[dK (2^n) 4294967296];rw[dw]at h1;omega
theorem a8l{p B c x P C vs va:Nat}(hC:C=c+x*P)(h:vs+p*c=va*P):vs+p*(C % B)+p*B*(C / B)=(va+p*x)*P:=by have e1:p*(C % B)+p*B*(C / B)=p*C:=(by rw[dA,<- dB,jY]);rw[dw,<- h,dA p x,jc,jc,e1,hC,dB]
theorem b42(a:List Int)(n:Nat)(hn:n<32)(ha:a.length<=35184372088831):ZQ 177 [wL a,.int .i64 n] [] (wL (wd (val a*2^n))) []:=by
 refine ZI Tryz.func177 λhok=>?_;have wa:Ws a:=Ws.ok hok.1.2;conv=>whnf
 refine qV.of <| qM.inv (.grow 5 1 [] _ rfl (.inl ⟨rfl,rfl⟩) (.refl _ _)) (λx:Nat×Nat×List Int=>x.1<=a.length/\x.2.1<2^n/\Ws x.2.2/\x.2.2.length=x.1/\val x.2.2+4294967296^x.1*x.2.1=val (a.take x.1)*2^n)
  (fun|(i,c,s)=>[(11,.int .i64 i),(6,.int .u64 c),(5,.sl 1 (s.map (.int .u32)) (.own 0))]) (fun|(_,_,s)=>[(0,.tok 1 s.length)])
  (λx=>a.length-x.1) (0,0,[]) ?_ (λ_=>rfl) ?_ ?_
 ·exact⟨aO _,jF _,Ws.nil,rfl,by simp[val]⟩
 ·exact Zv wk wk
 rintro⟨i,c,s⟩ ⟨hi,hc,hws,hsl,hv⟩ _;simp only at hi hc hws hsl hv;have hn31:2^n<=2^31:=bQ aj aj;refine ZS ?_ ?_<;>intro h
 ·have hlt:i<a.length:=(by simpa using h);have hva:=sN (l:=a) (i:=i);have hxa:=wa.getD (i:=i);conv=>whnf
  refine vC 0 rfl hlt ?_;generalize a.getD i 0=x0 at *;obtain⟨x,rfl⟩:∃x:Nat,x0=x:=⟨x0.toNat,aj⟩;rw[aJ]at hva;conv=>whnf
  rw[wrap_u64 (n:=(x:Int)) aj aj];refine⟨aj,?_⟩;rw[a5i aj hn];conv=>whnf
  rw[b51 hn hc aj];have hcar:=a8k hc (x:=x) aj;obtain⟨C,hC⟩:∃C,c+x*2^n=C:=⟨_,rfl⟩;rw[hC]at hcar ⊢;conv=>whnf
  rw[vM (a:=C)];refine⟨by rw[aC],?_⟩;refine⟨by simp[maxL];omega,aA,?_⟩;conv=>whnf
  refine⟨au,?_⟩;rw[Dv rfl];conv=>whnf
  refine ZG ?_;refine⟨(i+1,C / 4294967296,s++[((C % 4294967296:Nat):Int)]),?_,?_,?_⟩;{refine⟨hlt,hcar,hws.append (Ws.cons aj Ws.nil),by simp[hsl],?_⟩;show val (s++[((C % 4294967296:Nat):Int)])+4294967296^(i+1)*(C / 4294967296)=val (a.take (i+1))*2^n;have e1:val (s++[((C % 4294967296:Nat):Int)])=val s+4294967296^i*(C % 4294967296):=(by rw[val_append,hsl];simp only[val,aJ,gB,dU]);rw[hva,e1,bU];exact a8l hC.symm hv}
  ·refine Zv ?_ ?_
   ·repeat' first|exact Zq|apply aI
    all_goals first|(refine qY ?_;simp[strip];done)|simp
   repeat' first|exact Zq|apply aI
   all_goals simp
  show a.length-(i+1)<a.length-i;omega
 have hil:i=a.length:=(by have:¬i<a.length:=(by simpa using h);omega);subst hil;rw[bg]at hv;have ct:=yD (s++[(c:Int)]) aA;rw[val_append,hsl,show val [(c:Int)]=c by simp[val],hv]at ct;conv=>whnf
 rw[wrap_u32 (n:=(c:Int)) aj aj];refine⟨by rw[aC],?_⟩;refine⟨by simp[maxL];omega,aA,?_⟩;conv=>whnf
 refine .gen _ _ (qX.vU ct ?_ ⟨rfl,rfl⟩) λ_=>?_
 ·repeat' first|exact Zq|apply aI
  refine qY ?_;simp[strip]
 conv=>whnf
 exact ZH
theorem b2W(a:List Int)(n:Nat)(hn:n<32)(ha:a.length<=35184372088832):ZQ 182 [wL a,.int .i64 n] [] (wL (wd (val a / 2^n))) []:=by
 refine ZI Tryz.func182 λhok=>?_;have wa:Ws a:=Ws.ok hok.1.2;conv=>whnf
 refine qV.of <| qM.inv (.grow 5 1 [] _ rfl (.inl ⟨rfl,rfl⟩) (.refl _ _)) (λi:Nat=>i<=a.length)
  (λi=>[(9,.int .i64 i),(5,.sl 1 ((Fv i (val a / 2^n)).map (.int .u32)) (.own 0))]) (λi=>[(0,.tok 1 i)])
  (λi=>a.length-i) 0 ?_ (λ_=>rfl) ?_ ?_
 ·exact aO _
 ·exact Zv wk wk
 intro i hi _;refine ZS ?_ ?_<;>intro h
 ·have hlt:i<a.length:=(by simpa using h);have ca:=yC a i;have cb:=yC a (i+1);have hx:=wa.getD (i:=i);have hy:=wa.getD (i:=i+1);have hrw:=VY wa (i:=i) hn;have b6c:Fv (i+1) (val a / 2^n)=Fv i (val a / 2^n)++[((val a / 2^n / 4294967296^i % 4294967296:Nat):Int)]:=(by refine(b0t (by simp[vK]) λk hk=>?_).symm;by_cases hki:k<i;{rw[aF,bH (by rw[vK];exact hki),<- aF];exact a0W hki};have:k=i:=aj;subst this;rw[aF,dJ (by rw[vK];omega),vK];simp);generalize a.getD i 0=x0 at *;generalize a.getD (i+1) 0=y0 at *;obtain⟨x,rfl⟩:∃x:Nat,x0=x:=⟨x0.toNat,aj⟩;obtain⟨y,rfl⟩:∃y:Nat,y0=y:=⟨y0.toNat,aj⟩;simp only[aJ]at hrw;conv=>whnf
  refine .gen _ _ (qX.vU ca (rM _) ⟨rfl,rfl⟩) λ_=>?_;conv=>whnf
  refine ZG ?_;refine .gen _ _ (qX.vU cb (rM _) ⟨rfl,rfl⟩) λ_=>?_;conv=>whnf
  refine⟨au,?_⟩;rw[IY aj];conv=>whnf
  rw[a2l aj aj];refine⟨aj,?_⟩;rw[a5g aj];conv=>whnf
  rw[vM,hrw];refine⟨by simp[vK],?_⟩;refine⟨by simp[maxL,vK];omega,by simp[vK];omega,?_⟩;conv=>whnf
  refine ZG ?_;refine⟨i+1,?_,?_,?_⟩;{exact hlt}
  ·rw[b6c];refine Zv ?_ ?_
   ·repeat' first|exact Zq|apply aI
    all_goals first|(refine qY ?_;simp[strip];done)|simp
   repeat' first|exact Zq|apply aI
   all_goals simp[vK]
  omega
 have hil:i=a.length:=(by have:¬i<a.length:=(by simpa using h);omega);subst hil;have hva:=wJ wa;have hle:val a / 2^n<=val a:=jG _ _;have ct:=yD (Fv a.length (val a / 2^n)) (by rw[vK];omega);rw[Ey aj]at ct;conv=>whnf
 refine .gen _ _ (qX.vU ct ?_ ⟨rfl,rfl⟩) λ_=>?_;{exact wk};conv=>whnf
 exact ZH
theorem a8P{p B x y o c C v0 vb vn:Nat}{w:Nat}(hC:C=x*y+o+c)(e:vn+p*o=v0+p*(C % B))(h:v0+p*c=w+x*vb):vn+p*B*(C / B)=w+x*vb+p*(x*y):=by have e1:p*(C % B)+p*B*(C / B)=p*C:=(by rw[dA,<- dB,jY]);have e2:p*C=p*(x*y)+p*o+p*c:=(by rw[hC,dB,dB]);omega
theorem ZC{p q x y:Nat}:p*q*(x*y)=p*x*(q*y):=by rw[dA,dA,lD q]
theorem carry_zero{P Q A b o c:Nat}(h:o+P*Q*c=A*b)(h1:A<P)(h2:b<Q):c=0:=by apply aU;intro hne;have k1:P*Q*1<=P*Q*c:=dn _ aj;have k2:A*b<=P*b:=bV _ aj;have k3:P*b<P*Q:=Nat.mul_lt_mul_of_pos_left h2 aj;omega
theorem a3a(a b:List Int)(hab:a.length+b.length<=35184372088831):ZQ 179 [wL a,wL b] [] (wL (wd (val a*val b))) []:=by
 refine ZI Tryz.func179 λhok=>?_;have wa:Ws a:=Ws.ok hok.1.2;have wb:Ws b:=Ws.ok hok.2.1.2;conv=>whnf
 refine⟨rQ aA aA,?_⟩;conv=>whnf
 refine⟨rQ aA aA,?_⟩;obtain⟨m,hm⟩:∃m,a.length+b.length+1=m:=⟨_,rfl⟩;rw[show(((a.map (AV.int .u32)).length:Nat):Int)+(((b.map (AV.int .u32)).length:Nat):Int)+1=(m:Int) by simp;omega];conv=>whnf
 refine⟨⟨aj,aj,aA,aj⟩,.wr ?_⟩;conv=>whnf
 refine qV.of <| qM.inv (.refl _ _) (λx:Nat×List Int=>x.1<=a.length/\Ws x.2/\x.2.length=m/\val x.2=val (a.take x.1)*val b)
  (fun|(i,_)=>[(20,.int .i64 i)]) (fun|(_,out)=>[(0,.arr 1 m (out.map (.int .u32)))])
  (λx=>a.length-x.1) (0,List.replicate m 0) ?_ (λ_=>rfl) ?_ ?_
 ·refine⟨aO _,?_,ak,?_⟩;{intro x hx;rw[(fG.1 hx).2];omega};rw[CZ (λx hx=>(fG.1 hx).2)];simp[val]
 ·refine Zv wk ?_;repeat' first|exact Zq|apply aI
  all_goals first|(simp;done)|exact qY ak
 rintro⟨i,out⟩ ⟨hi,hwo,hol,hv⟩ _;simp only at hi hwo hol hv;refine ZS ?_ ?_<;>intro h
 ·have hlt:i<a.length:=(by simpa using h);have hva:=sN (l:=a) (i:=i);have hxa:=wa.getD (i:=i);conv=>whnf
  refine vC 0 rfl hlt ?_;generalize a.getD i 0=x0 at *;obtain⟨x,rfl⟩:∃x:Nat,x0=x:=⟨x0.toNat,aj⟩;rw[aJ]at hva;conv=>whnf
  refine⟨rQ aA aA,?_⟩;rw[show(((b.map (AV.int .u32)).length:Nat):Int)+1=((b.length+1:Nat):Int) by simp];conv=>whnf
  refine qV.of <| qM.inv (.refl _ _) (λz:Nat×Nat×List Int=>z.1<=b.length+1/\z.2.1<4294967296/\Ws z.2.2/\z.2.2.length=m/\val z.2.2+4294967296^(i+z.1)*z.2.1=val out+4294967296^i*x*val (b.take z.1))
   (fun|(j,c,_)=>[(28,.int .i64 j),(8,.int .u64 c)]) (fun|(_,_,o)=>[(0,.arr 1 m (o.map (.int .u32)))])
   (λz=>b.length+1-z.1) (0,0,out) ?_ (λ_=>rfl) ?_ ?_
  ·exact⟨aO _,(by omega:0<4294967296),hwo,hol,by simp[val]⟩
  ·exact Zv wk wk
  rintro⟨j,c,o⟩ ⟨hj,hc,a81,b2h,hv2⟩ _;simp only at hj hc a81 b2h hv2;refine ZS ?_ ?_<;>intro h
  ·have hjlt:j<b.length+1:=aj;have cw:=yC b j;have hvb:=sN (l:=b) (i:=j);have hxb:=wb.getD (i:=j);have hoo:=a81.getD (i:=i+j);have hij:i+j<o.length:=aj;generalize b.getD j 0=y0 at *;obtain⟨y,rfl⟩:∃x:Nat,y0=x:=⟨y0.toNat,aj⟩;rw[aJ]at hvb;have hxy:x*y<=4294967295*4294967295:=gY aj aj;conv=>whnf
   refine ZR ?_;refine IU.pure _ _ (rM _) ⟨rfl,rfl⟩ cw ?_;conv=>whnf
   rw[wrap_u64 (n:=(x:Int)) aj aj];rw[show((x:Int)*(y:Int))=((x*y:Nat):Int)from(lU x y).symm,wrap_u64 (n:=((x*y:Nat):Int)) aj aj];refine ZG ?_;refine⟨⟨aj,aj⟩,?_⟩;conv=>whnf
   refine vC 0 (i:=i+j) aj hij ?_;refine⟨rfl,?_⟩;obtain⟨ow,how⟩:∃w:Nat,o.getD (i+j) 0=w:=⟨(o.getD (i+j) 0).toNat,aj⟩;rw[how]at hoo ⊢;conv=>whnf
   rw[wrap_u64 (n:=(ow:Int)) aj aj];rw[show(((x*y:Nat):Int)+(ow:Int))=((x*y+ow:Nat):Int)from(iC (x*y) ow).symm,wrap_u64 (n:=((x*y+ow:Nat):Int)) aj aj];rw[show(((x*y+ow:Nat):Int)+(c:Int))=((x*y+ow+c:Nat):Int)from(iC (x*y+ow) c).symm,wrap_u64 (n:=((x*y+ow+c:Nat):Int)) aj aj];obtain⟨C,hC⟩:∃C,x*y+ow+c=C:=⟨_,rfl⟩;rw[hC];conv=>whnf
   refine ZG ?_;rw[vM (a:=C)];refine⟨⟨aj,aj⟩,?_⟩;dsimp only[Cm];rw[Hu];dsimp only[zV];dsimp only[O6,xH];conv=>whnf
   refine⟨by rw[aC];omega,rfl,?_⟩;conv=>whnf
   refine⟨au,?_⟩;rw[Dv rfl];conv=>whnf
   refine ZG ?_;have hCl:C / 4294967296<4294967296:=aj;have hset:=Jz (x:=((C % 4294967296:Nat):Int)) hij;rw[<- uX (x:=0) hij,how,aJ,aJ]at hset;refine⟨(j+1,C / 4294967296,o.set (i+j) ((C % 4294967296:Nat):Int)),?_,?_,?_⟩;{refine⟨hjlt,hCl,a81.set aj,by simpa using b2h,?_⟩;show val (o.set (i+j) ((C % 4294967296:Nat):Int))+4294967296^(i+(j+1))*(C / 4294967296)=val out+4294967296^i*x*val (b.take (j+1));rw[<- jc,bU,hvb,dB,<- ZC (x:=x),<- jd,<- jc];have:=a8P (p:=4294967296^(i+j)) (x:=x) (y:=y) (o:=ow) (c:=c) (v0:=val o) (vn:=val (o.set (i+j) ((C % 4294967296:Nat):Int))) (w:=val out+4294967296^i*x*val (b.take j)) (vb:=0) hC.symm hset (by rw[gB,dU];exact hv2);rw[gB,dU]at this;exact this}
   ·refine Zv wk ?_;repeat' first|exact Zq|apply aI
    refine qY ?_;rw[dP,show(0+((i:Int)+(j:Int)).toNat)=i+j by omega];simp[strip]
   show b.length+1-(j+1)<b.length+1-j;omega
  have hjl:j=b.length+1:=aj;subst hjl;rw[bf (by omega:b.length<=b.length+1),hv]at hv2;have h2:val (a.take i)*val b+4294967296^i*x*val b=val (a.take (i+1))*val b:=(by rw[hva,dw]);have h3:=JC wa (i+1);have h4:=wJ wb;have hcz:c=0:=(by refine carry_zero (P:=4294967296^(i+1)) (Q:=4294967296^b.length) (A:=val (a.take (i+1))) (b:=val b) (o:=val o) ?_ h3 h4;rw[<- h2,<- hv2,<- jd,show i+1+b.length=i+(b.length+1) by omega]);rw[hcz,gB,dU,h2]at hv2;conv=>whnf
  refine ZG ?_;refine⟨(i+1,o),?_,?_,?_⟩;{refine⟨hlt,a81,b2h,?_⟩;exact hv2};{exact Zv wk wk};show a.length-(i+1)<a.length-i;omega
 have hil:i=a.length:=(by have:¬i<a.length:=(by simpa using h);omega);subst hil;rw[bg]at hv;have ct:=yD out aj;rw[hv]at ct;conv=>whnf
 refine .gen _ _ (qX.Xe 0 rfl rfl aA (qX.vU ct ?_ ⟨rfl,rfl⟩)) λ_=>?_
 ·repeat' first|exact Zq|apply aI
  refine qY ?_;simp;rw[bf aA]
 conv=>whnf
 exact ZH
theorem b3s{x k:Nat}(hx:x<4294967296)(hk:k<32):Am .and .u32 (KG .u32 (x:Int) (k:Int)) 1=if x.testBit k then 1 else 0:=by rw[UF hk];have hd:x / 2^k<=x:=jG _ _;have e:∀z:Nat,BitVec.ofInt 32 (z:Int)=BitVec.ofNat 32 z:=(by intro z;apply lK;simp);simp only[Am];have h1:(BitVec.ofInt 32 ((x / 2^k:Nat):Int)&&&BitVec.ofInt 32 (1:Int)).toNat=(x / 2^k)&&&1:=(by rw[show(1:Int)=((1:Nat):Int)from rfl,e,e,oG,gq,gq,dS aj]);show IntKind.wrap .u32 ((BitVec.ofInt 32 ((x / 2^k:Nat):Int)&&&BitVec.ofInt 32 (1:Int)).toNat:Int)=_;rw[h1,Nat.and_one_is_mod,jI];have:x / 2^k % 2<2:=gI _ aj;rw[wrap_u32 aj aj];by_cases h:x / 2^k % 2=1;{simp[h]};have:x / 2^k % 2=0:=aj;simp[this]
theorem a5G{x k:Nat}:x % 2^(k+1)=x % 2^k+2^k*(if x.testBit k then 1 else 0):=by rw[jI,Nat.mod_pow_succ];have:x / 2^k % 2<2:=gI _ aj;by_cases h:x / 2^k % 2=1;{simp[h]};have:x / 2^k % 2=0:=aj;simp[this]
theorem a8B(i k:Nat):4294967296^i*2^k=2^(32*i+k):=by rw[jd,Nat.pow_mul]
theorem b0a{v x i k:Nat}(hv:v<4294967296^i)(hb:x.testBit k=true):zx (v+4294967296^i*(x % 2^(k+1)))=32*i+k+1:=by have e:=a8B i k;have e2:=a8B i (k+1);have hm:x % 2^(k+1)<2^(k+1):=gI _ (jF _);have hge:2^k<=x % 2^(k+1):=(by rw[a5G,hb];simp);refine X0 ?_ ?_;{rw[<- e];have:4294967296^i*2^k<=4294967296^i*(x % 2^(k+1)):=dn _ hge;omega};rw[show 32*i+k+1=32*i+(k+1) by omega,<- e2];have h1:4294967296^i*(x % 2^(k+1)+1)<=4294967296^i*2^(k+1):=dn _ hm;rw[dB]at h1;omega
theorem QG(a:List Int)(ha:a.length<=35184372088832):ZQ 107 [wL a] [] (.int .i64 (zx (val a))) []:=by
 refine ZI Tryz.func107 λhok=>?_;have wa:Ws a:=Ws.ok hok.1.2;conv=>whnf
 refine qV.of <| qM.inv (.refl _ _) (fun(i:Nat)=>i<=a.length) (fun(i:Nat)=>[(9,.int .i64 i),(3,.int .i64 (zx (val (a.take i))))]) (λ_=>_) (fun(i:Nat)=>a.length-i) 0 ?_ (λ_=>rfl) ?_ ?_;{exact aO _};{exact wk};intro i hi _;refine ZS ?_ ?_<;>intro h
 ·have hlt:i<a.length:=(by simpa using h);have hva:=sN (l:=a) (i:=i);have hxa:=wa.getD (i:=i);have htl:=JC wa i;conv=>whnf
  refine vC 0 rfl hlt ?_;generalize a.getD i 0=x0 at *;obtain⟨x,rfl⟩:∃x:Nat,x0=x:=⟨x0.toNat,aj⟩;rw[aJ]at hva;generalize val (a.take i)=v at *;conv=>whnf
  refine qV.of <| qM.inv (.refl _ _) (fun(k:Nat)=>k<=32) (fun(k:Nat)=>[(14,.int .i64 k),(3,.int .i64 (zx (v+4294967296^i*(x % 2^k))))]) (λ_=>_) (fun(k:Nat)=>32-k) 0 ?_ (λ_=>rfl) ?_ ?_;{exact aO _}
  ·repeat' first|exact Zq|apply aI
   rw[show x % 2^0=0 from Nat.mod_one x,gB,dU]
  intro k hk _;refine ZS ?_ ?_<;>intro h
  ·have hk2:k<32:=aj;conv=>whnf
   refine⟨aj,?_⟩;conv=>whnf
   rw[b3s aj hk2];cases hb:x.testBit k with
   | true =>
     have hbl:=b0a (x:=x) htl hb;conv=>whnf
     refine aP (λ_=>?_) (λh=>absurd rfl h);conv=>whnf
     refine⟨rQ aj aj,?_⟩;conv=>whnf
     refine ZG ?_;refine ZG ?_;refine ZG ?_;refine⟨k+1,?_,?_,?_⟩;{exact hk2};{rw[hbl];all_goals exact wk};omega
   | false =>
     have hbl:x % 2^(k+1)=x % 2^k:=(by rw[a5G,hb];simp);conv=>whnf
     refine aP (λh=>absurd h au) (λ_=>?_);conv=>whnf
     refine ZG ?_;refine⟨k+1,?_,?_,?_⟩;{exact hk2};{rw[hbl];all_goals exact wk};omega
  have hk3:k=32:=aj;subst hk3;have hx32:x % 2^32=x:=dS aj;rw[hx32,<- hva];conv=>whnf
  refine ZG ?_;refine⟨i+1,?_,?_,?_⟩;{exact hlt};{exact wk};omega
 have hil:i=a.length:=(by have:¬i<a.length:=(by simpa using h);omega);subst hil;rw[bg];conv=>whnf
 exact ZH
theorem b1v{a n:Nat}(hn:n<32)(h:a*2^n<4294967296):VN .u32 (a:Int) (n:Int)=((a*2^n:Nat):Int):=by
 unfold VN;have h1:min (n:Int).toNat (IntKind.bits .u32)=n:=by show min n 32=n;omega
 rw[h1];have h2:(a:Int)*2^n=((a*2^n:Nat):Int):=ak;rw[h2];exact wrap_u32 aj aj
theorem b5r{a:Nat}(h:a<4294967296):Am .and .u32 (a:Int) 2147483648=0↔a<2147483648:=by
 have e:∀z:Nat,BitVec.ofInt 32 (z:Int)=BitVec.ofNat 32 z:=(by intro z;apply lK;simp);simp only[Am];have h1:(BitVec.ofInt 32 (a:Int)&&&BitVec.ofInt 32 (2147483648:Int)).toNat=a&&&2^31:=(by rw[show(2147483648:Int)=((2^31:Nat):Int)from rfl,e,e,oG,gq,gq,dS aj,dS aj]);show IntKind.wrap .u32 ((BitVec.ofInt 32 (a:Int)&&&BitVec.ofInt 32 (2147483648:Int)).toNat:Int)=0↔_;have hle:a&&&2^31<=a:=Nat.and_le_left;rw[h1,wrap_u32 aj aj];have key:a&&&2^31=0↔a<2147483648:=by
  constructor
  ·intro h0;apply aU;intro hn;have hbit:a.testBit 31=true:=by rw[jI];simp;omega
   have:(a&&&2^31).testBit 31=true:=(by rw[Nat.testBit_and,hbit,Nat.testBit_two_pow_self];rfl);rw[h0]at this;simp at this
  intro h0;apply Nat.eq_of_testBit_eq;intro i;rw[Nat.testBit_and,lV];by_cases hi:31=i;{subst hi;rw[mV aj];simp};simp[hi]
 omega
theorem a4K{x n:Nat}(h1:4294967296^(n-1)<=x)(h2:x<4294967296^n)(hn:1<=n):(wd x).length=n:=by have hw:=EH x;have hv:=rU x;have hl:=wJ hw;rw[hv]at hl;have a1:¬(wd x).length<=n-1:=(by intro h;have:4294967296^(wd x).length<=4294967296^(n-1):=bQ aj h;omega);have a2:(wd x).length<=n:=(by have:=wu (Iw n x);rw[Ey h2,vK]at this;exact this);omega
structure RInv(V L:Nat)(al:List Int)(j r:Nat)(Q:List Int):Prop where
 jle:j<=L
 wq:Ws Q
 lq:Q.length=L
 lt:r<V
 eq:val (al.drop j)=r+V*val (Q.drop j)
 z:∀k,k<j->Q.getD k 0=0
theorem a1Y(x:Int)(l:List Int):val (x::l)=x.toNat+4294967296*val l:=rfl
theorem RInv.step{V L j r:Nat}{al Q:List Int}(h:RInv V L al (j+1) r Q)(hV0:0<V)(hx:(al.getD j 0).toNat<4294967296) :
  (al.getD j 0).toNat+4294967296*r<4294967296*V /\
  RInv V L al j (((al.getD j 0).toNat+4294967296*r) % V) (Q.set j ((((al.getD j 0).toNat+4294967296*r) / V:Nat):Int)):=by
 have hlt:=h.lt;have h1:(al.getD j 0).toNat+4294967296*r<4294967296*V:=aj;refine⟨h1,?_⟩;have hj:j<L:=h.jle;have hq:((al.getD j 0).toNat+4294967296*r) / V<4294967296:=(by rw[eY hV0];exact h1);have hjq:j<Q.length:=(by rw[h.lq];exact hj);have hvd:=Ce al j;have he:=h.eq;generalize (al.getD j 0).toNat=x at *;generalize hs:x+4294967296*r=s at *;have hdm:=jH s V;generalize hqq:s / V=q at *;generalize s % V=m at *;refine⟨?_,h.wq.set aj,by simpa using h.lq,?_,?_,?_⟩;{omega};{have hm:s-V*q<V:=(by rw[<- hqq];have:=gI s hV0;have:=jH s V;omega);omega};{have e1:(Q.set j (q:Int)).drop j=(q:Int)::Q.drop (j+1):=(by rw[aZ (by simpa using hjq),nD,List.drop_set_of_lt aj]);rw[e1,a1Y,aJ,hvd,he,dB,dB,lD 4294967296 V];omega};intro k hk;have:=h.z k aj;rw[aF]at this ⊢;rw[je aj];exact this
theorem b4d{V p s top:Nat}(hp:0<p)(ht:0<top)(hV:top*p<=V)(hq:s / V<4294967296):s / V<=min (s / p / top) 4294967295:=by have h1:s / V<=s / p / top:=(by refine a2E (p:=p) ht hV ?_;have:=kW (a:=s) hp;rw[dw,gX];exact this);omega
theorem Ee{x n:Nat}(h2:x<4294967296^n):(wd x).length<=n:=by have:=wu (Iw n x);rw[Ey h2,vK]at this;exact this
theorem a4L(x i:Nat):(wd x).getD i 0=((x / 4294967296^i % 4294967296:Nat):Int):=by have h1:=KN (EH x) i;have h2:=Ce (wd x) i;have h3:=(EH x).getD (i:=i);rw[rU]at h1;rw[h1,h2];omega
theorem head_eq{S n:Nat}(hn:1<=n)(h:S<4294967296^(n+1)):(S / 4294967296^n % 4294967296)*4294967296+S / 4294967296^(n-1) % 4294967296=S / 4294967296^(n-1):=by obtain⟨m,rfl⟩:∃m,n=m+1:=⟨n-1,aj⟩;rw[show m+1-1=m by omega];have e:S / 4294967296^(m+1)=S / 4294967296^m / 4294967296:=(by rw[iJ,bU]);have hl:S / 4294967296^m<4294967296*4294967296:=(by rw[eY (gK aj)];rw[bU,bU,dA,dK]at h;exact h);rw[e];generalize S / 4294967296^m=z at *;omega
theorem a8x{V S q:Nat}(hq:S / V=q):S-V*q=S % V:=by subst hq;have:=jH S V;omega
theorem b1A{V S q g:Nat}(hV:0<V)(hq:S / V=q)(h1:q<=g)(h2:¬S<V*g):g=q:=by subst hq;have:g<=S / V:=(by rw[ku hV,dK];omega);omega
theorem b1B{V S q g:Nat}(hq:S / V=q)(h2:S<V*g):q<g:=by subst hq;apply aU;intro hn;have h3:V*g<=V*(S / V):=dn _ aj;have h4:=Nat.mul_div_le S V;omega
set_option maxHeartbeats 2000000 in
theorem XJ(a b:List Int)(ha:a.length<=35184372088320)(hb:b.length<=35184372088320)(h0:val b≠0):ZQ 109 [wL a,wL b] [] (.uf [wL (wd (val a / val b)),wL (wd (val a % val b)),.int .i64 0]) []:=by
 refine ZI Tryz.func109 λhok=>?_;have wa:Ws a:=Ws.ok hok.1.2;have wb0:Ws b:=Ws.ok hok.2.1.2;refine Z0 ?_;refine .zP (yD b aj) λ_=>?_;have hbl:=wu wb0;have hwy:=EH (val b);have hvy:=rU (val b);have hpy:=Y1 (val b);have hn1:1<=(wd (val b)).length:=(by rw[BL h0];simp);generalize hyv:val b=y at *;generalize wd y=bl at *;obtain⟨n,hn⟩:∃n,bl.length=n:=⟨_,rfl⟩;rw[hn]at hn1;have htb:=hwy.getD (i:=n-1);have htn:bl.getD (n-1) 0≠0:=(by rcases hpy with h|h;{rw[h]at hn;simp at hn;omega};rw[iV,iW,hn]at h;rw[aF];exact h);have e1:=uI (l:=bl) (n-1) aj;rw[Ce bl (n-1),aX (by omega:bl.length<=n-1+1),hvy]at e1;have e2:=JC hwy (n-1);have hge:=Gw hpy (by intro e;rw[e]at hn;simp at hn;omega) hwy;rw[hn,hvy]at hge;generalize htt:bl.getD (n-1) 0=tb0 at *;obtain⟨tb,rfl⟩:∃tb:Nat,tb0=tb:=⟨tb0.toNat,aj⟩;have eln:(((bl.map (AV.int .u32)).length:Nat):Int)=(n:Int):=(by simp[hn]);conv=>whnf
 rw[eln];refine aP (λh=>by exfalso;omega) (λ_=>?_);conv=>whnf
 refine qV.of <| qM.inv (.refl _ _) (fun(s:Nat)=>s<32/\tb*2^s<4294967296) (fun(s:Nat)=>[(8,.int .i64 s)]) (λ_=>_) (fun(s:Nat)=>32-s) 0 ?_ (λ_=>rfl) ?_ ?_;{exact⟨(by omega:0<32),aj⟩};{exact wk};rintro s ⟨hs,hts⟩ _;refine ZW ?_;refine ZG ?_;refine vC 0 (i:=n-1) aj aj ?_;rw[htt];conv=>whnf
 refine⟨aj,?_⟩;rw[b1v hs hts];conv=>whnf
 constructor<;>intro h
 ·have h:=(b5r hts).1 h;have b78:s<31:=(by have h1:1*2^s<=tb*2^s:=bV _ aj;have h2:2^s<2^31:=aj;exact(Nat.pow_lt_pow_iff_right (a:=2) aj).1 h2);conv=>whnf
  refine ZG ?_;refine⟨s+1,?_,?_,?_⟩;{exact⟨(by omega:s+1<32),(by rw[bU,<- dA];omega:tb*2^(s+1)<4294967296)⟩};{exact wk};omega
 have hp2:=jF s;have hV1:4294967296^(n-1)<=y*2^s:=dH hge (Nat.le_mul_of_pos_right _ hp2);have hV2:y*2^s<4294967296^n:=(by have e3:y<4294967296^(n-1)*(tb+1):=(by rw[dB];simp only[aJ,val,gB,dU]at e1;omega);have hdvd:(tb+1)*2^s<=4294967296:=(by have e32:(4294967296:Nat)=2^(32-s)*2^s:=(by rw[<- jd,show 32-s+s=32 by omega]);rw[e32]at hts ⊢;have:=iI hts;exact bV _ this);have e5:y*2^s<4294967296^(n-1)*(tb+1)*2^s:=gu e3 hp2;have e6:4294967296^(n-1)*((tb+1)*2^s)<=4294967296^(n-1)*4294967296:=dn _ hdvd;rw[<- bU,show(n-1).succ=n by omega,<- dA]at e6;omega);have hVl:=a4K hV1 hV2 hn1;have hxa:=wJ wa;have hres:val a*2^s / (y*2^s)=val a / y/\val a*2^s % (y*2^s) / 2^s=val a % y:=(by refine⟨Nat.mul_div_mul_right _ _ hp2,?_⟩;rw[nC,Nat.mul_div_cancel _ hp2]);have hAl:(wd (val a*2^s)).length<=a.length+1:=(by refine Ee ?_;have k1:2^s<=4294967296:=dH (bQ aj (show s<=32 by omega)) au;have k2:val a*2^s<4294967296^a.length*2^s:=gu hxa hp2;have k3:4294967296^a.length*2^s<=4294967296^a.length*4294967296:=dn _ k1;rw[bU];omega);have cua:=b42 a s hs aj;have cub:=b42 bl s hs aj;rw[hvy]at cub;have hwA:=EH (val a*2^s);have hvA:=rU (val a*2^s);have hwV:=EH (y*2^s);have hvV:=rU (y*2^s);have hgV:=a4L (y*2^s) (n-1);generalize val a*2^s=A at *;generalize y*2^s=V at *;have htop:V / 4294967296^(n-1)<4294967296:=(by rw[eY (gK aj),dK,<- bU,show(n-1).succ=n by omega];exact hV2);have TQ:1<=V / 4294967296^(n-1):=(by rw[ku (gK aj),gX];exact hV1);have b6b:V / 4294967296^(n-1)*4294967296^(n-1)<=V:=jm _ _;rw[dS htop]at hgV;generalize V / 4294967296^(n-1)=top at *;have hVp:0<V:=(by have:=gK (n:=n-1) (show 0<4294967296 by omega);omega);conv=>whnf
 refine .zK cua ?_;refine .zP cub λ_=>?_;generalize wd A=al at *;have b7Y:=λg:Nat=>fun(hg:g<4294967296)=>a3a (wd V) [(g:Int)] (by simp only[jC];omega);generalize wd V=vl at *;obtain⟨L,hL⟩:∃L,al.length=L:=⟨_,rfl⟩;have ell:(((al.map (AV.int .u32)).length:Nat):Int)=(L:Int):=(by simp[hL]);conv=>whnf
 refine wX.mk ⟨[true,true,false,true,true,true,true,true,true,true,true,true,true,true,true],by kernel_rfl,?_⟩;conv=>whnf
 rw[ell];refine⟨⟨aj,aj,aA,aj⟩,.wr ?_⟩;conv=>whnf
 rw[ell];refine ZG ?_;refine ZG ?_;rw[show max (0:Int) ((L:Int)-(n:Int)+1)=((L+1-n:Nat):Int) by omega];refine⟨⟨aj,aj,ak⟩,?_⟩;have hcut:((al.map (AV.int .u32)).drop ((L+1-n:Nat):Int).toNat).take ((((al.map (AV.int .u32)).length:Nat):Int).toNat-((L+1-n:Nat):Int).toNat)=(al.drop (L+1-n)).map (AV.int .u32):=(by rw[bf ak,aJ,mO]);rw[hcut];conv=>whnf
 refine .pure (by simp[maxL];omega) aA ⟨rfl,?_⟩;conv=>whnf
 refine ZG ?_;have hinit:∃j:Nat,(((L:Int)-(n:Int)=(j:Int)-1)\/((L:Int)-(n:Int)<0/\j=0))/\RInv V L al j (val (al.drop (L+1-n))) (List.replicate L 0):=(by have hrz:val (List.replicate L (0:Int))=0:=CZ λx hx=>(fG.1 hx).2;have hzw:Ws (List.replicate L (0:Int)):=(by intro x hx;rw[(fG.1 hx).2];omega);have hz:∀k,(List.replicate L (0:Int)).getD k 0=0:=(by intro k;rw[aF,eU];split <;> rfl);have hdz:∀k,val ((List.replicate L (0:Int)).drop k)=0:=λk=>CZ λx hx=>(fG.1 (nI hx)).2;have hlt:val (al.drop (L+1-n))<V:=(by have h1:=wJ (hwA.drop (L+1-n));have h2:4294967296^(al.drop (L+1-n)).length<=4294967296^(n-1):=bQ aj (by rw[fQ];omega);omega);by_cases hLn:n<=L;{refine⟨L+1-n,.inl aj,aj,hzw,ak,hlt,?_,λk _=>hz k⟩;rw[hdz,gB];rfl};refine⟨0,?_,aj,hzw,ak,hlt,?_,λk _=>hz k⟩;{by_cases h:(L:Int)-(n:Int)=((0:Nat):Int)-1;{exact .inl h};exact .inr ⟨aj,rfl⟩};rw[hdz,gB,dU,show L+1-n=0 by omega]);obtain⟨j0,hj0,hI0⟩:=hinit;have b7C:Ws (al.drop (L+1-n)):=hwA.drop _;have b7F:(al.drop (L+1-n)).length<=35184372088321:=(by rw[fQ];omega);conv=>whnf
 refine qV.of <| qM.inv (.refl _ _) (λx:Int×Nat×List Int×List Int=>((x.1=(x.2.1:Int)-1)\/(x.1<0/\x.2.1=0)) /\ -35184372088832<=x.1/\Ws x.2.2.1/\x.2.2.1.length<=35184372088321/\RInv V L al x.2.1 (val x.2.2.1) x.2.2.2)
  (fun|(e,_,r,_)=>[(11,.int .i64 e),(10,wL r)]) (fun|(_,_,_,Q)=>[(0,.arr 1 L (Q.map (.int .u32)))])
  (λx=>x.2.1) ((L:Int)-(n:Int),j0,al.drop (L+1-n),List.replicate L 0) ?_ (λ_=>rfl) ?_ ?_
 ·exact⟨hj0,(by omega : -35184372088832<=(L:Int)-(n:Int)),b7C,b7F,hI0⟩
 ·refine Zv ?_ ?_
  ·repeat' first|exact Zq|apply aI
   omega
  repeat' first|exact Zq|apply aI
  all_goals first|(simp;done)|exact qY ak
 rintro⟨e,j,rl,Q⟩ ⟨hej,hem,hwr,hrl,hI⟩ _;simp only at hej hem hwr hrl hI;refine ZS ?_ ?_<;>intro h
 ·obtain⟨k,rfl⟩:∃k,j=k+1:=⟨j-1,aj⟩;have hek:e=(k:Int):=aj;subst hek;have hjle:=hI.jle;have hQL:=hI.lq;have hkL:k<L:=aj;have hxa:=hwA.getD (i:=k);obtain⟨hS,hst⟩:=hI.step hVp aj;conv=>whnf
  refine vC 0 rfl aj ?_;generalize al.getD k 0=x0 at *;obtain⟨x,rfl⟩:∃x:Nat,x0=x:=⟨x0.toNat,aj⟩;rw[aJ]at hS hst;have ct:=yD ((x:Int)::rl) aA;rw[a1Y,aJ]at ct;generalize hSS:x+4294967296*val rl=S at *;have hSB:S<4294967296^(n+1):=(by have k1:4294967296*V<=4294967296*4294967296^n:=dn _ aj;rw[bU,dK];omega);conv=>whnf
  refine .pure (by simp[maxL];omega) aA ?_;conv=>whnf
  refine .gen _ _ (qX.vU ct ?_ ⟨rfl,rfl⟩) λ_=>?_;{exact wk};have cw1:=yC (wd S) n;have cw0:=yC (wd S) (n-1);have cwt:=yC vl (n-1);rw[a4L]at cw1 cw0;rw[hgV]at cwt;have hhd:=head_eq hn1 hSB;have hh1:S / 4294967296^n % 4294967296<4294967296:=gI _ aj;have hh0:S / 4294967296^(n-1) % 4294967296<4294967296:=gI _ aj;have b7c:=b4d (V:=V) (s:=S) (p:=4294967296^(n-1)) (gK aj) TQ b6b (by rw[eY hVp];exact hS);generalize S / 4294967296^n % 4294967296=z1 at *;generalize S / 4294967296^(n-1) % 4294967296=z0 at *;generalize S / 4294967296^(n-1)=head at *;obtain⟨q,hq⟩:∃q,S / V=q:=⟨_,rfl⟩;rw[hq]at b7c hst;conv=>whnf
  refine .gen _ _ (qX.vU cw1 (rM _) ⟨rfl,rfl⟩) λ_=>?_;conv=>whnf
  refine⟨au,?_⟩;rw[IY aj];conv=>whnf
  refine ZG ?_;rw[show(n:Int)-1=((n-1:Nat):Int) by omega];refine .gen _ _ (qX.vU cw0 (rM _) ⟨rfl,rfl⟩) λ_=>?_;conv=>whnf
  rw[P6 aj aj,hhd];conv=>whnf
  refine ZG ?_;rw[show(n:Int)-1=((n-1:Nat):Int) by omega];refine .gen _ _ (qX.vU cwt (rM _) ⟨rfl,rfl⟩) λ_=>?_;conv=>whnf
  refine⟨aj,?_⟩;rw[VF];conv=>whnf
  have hht:head / top<=head:=jG _ _;rw[wrap_u64 (n:=((head / top:Nat):Int)) aj aj];rw[show min ((head / top:Nat):Int) 4294967295=((min (head / top) 4294967295:Nat):Int) by omega];have hg1:min (head / top) 4294967295<4294967296:=aj;generalize min (head / top) 4294967295=g0 at *;rw[wrap_u32 (n:=(g0:Int)) aj aj];have cm:=b7Y g0 hg1;rw[hvV,show val [(g0:Int)]=g0 by simp[val]]at cm;refine .gen _ _ (qX.vU cm ?_ ⟨rfl,rfl⟩) λ_=>?_;{exact wk};conv=>whnf
  have hVg:∀g,g<4294967296->(wd (V*g)).length<=n+1:=(by intro g hg;refine Ee ?_;rw[bU];exact Nat.mul_lt_mul_of_lt_of_le hV2 aj aj);have hSl:=Ee hSB;refine qV.of <| qM.inv (.refl _ _) (λg:Nat=>q<=g/\g<4294967296) (λg=>[(12,.int .u64 g),(13,wL (wd (V*g)))]) (λ_=>[(0,.arr 1 L (Q.map (.int .u32)))])
   (λg=>g) g0 ?_ (λ_=>rfl) ?_ ?_
  ·exact⟨b7c,hg1⟩
  ·refine⟨?_,.refl rfl⟩;all_goals exact wk
  rintro g ⟨hqg,hgB⟩ _;have hgl:=hVg g hgB;have cc:=a6Y (wd (V*g)) (wd S) aj aj;rw[rU,rU]at cc;have hcmp:(0<EX (V*g) S)↔S<V*g:=by unfold EX;split;{omega};split <;> omega
  refine ZW ?_;refine .gen _ _ (qX.vU cc (rM _) ⟨rfl,rfl⟩) λ_=>?_;conv=>whnf
  constructor<;>intro h
  ·have b79:=b1B hq (hcmp.1 h);have cs:=a2Y (wd (V*g)) vl aj aj _ rfl;have hsub:V*g-V=V*(g-1):=(by rw[Nat.mul_sub,iP]);have b7P:¬V*g<V:=(by have:V*1<=V*g:=dn _ aj;omega);rw[rU,hvV,aB b7P,hsub]at cs;conv=>whnf
   rw[show((g:Int)-1)=((g-1:Nat):Int) by omega,wrap_u64 (n:=((g-1:Nat):Int)) aj aj];conv=>whnf
   refine .gen _ _ (qX.vU cs (rM _) ⟨rfl,rfl⟩) λ_=>?_;conv=>whnf
   refine⟨g-1,?_,?_,?_⟩;{exact⟨aj,aj⟩};{refine⟨?_,.refl rfl⟩;all_goals exact wk};show g-1<g;omega
  have hgq:=b1A hVp hq hqg (λhh=>h (hcmp.2 hh));subst hgq;have cs:=a2Y (wd S) (wd (V*g)) aj aj _ rfl;rw[rU,rU,aB (λhh=>h (hcmp.2 hh)),a8x hq]at cs;have hrl2:(wd (S % V)).length<=n:=Ee (fV (gI _ hVp) aj);conv=>whnf
  refine .gen _ _ (qX.vU cs (rM _) ⟨rfl,rfl⟩) λ_=>?_;conv=>whnf
  rw[wrap_u32 (n:=(g:Int)) aj aj];refine⟨⟨aj,aj⟩,?_⟩;dsimp only[Cm];rw[Hu];dsimp only[zV];dsimp only[O6,xH];conv=>whnf
  refine⟨by rw[aC,hQL];omega,rfl,?_⟩;conv=>whnf
  refine ZG ?_;refine⟨((k:Int)-1,k,wd (S % V),Q.set k (g:Int)),?_,?_,?_⟩;{refine⟨.inl rfl,(by omega : -35184372088832<=(k:Int)-1),EH _,(by omega:(wd (S % V)).length<=35184372088321),?_⟩;show RInv V L al k (val (wd (S % V))) (Q.set k (g:Int));rw[rU];exact hst}
  ·refine Zv wk ?_;repeat' first|exact Zq|apply aI
   refine qY ?_;rw[dP];simp[strip]
  show k<k+1;omega
 have hj:j=0:=aj;subst hj;have he:=hI.eq;have hl:=hI.lt;have hQL:=hI.lq;simp only[fD]at he;have f1:val Q=A / V:=(by rw[<- hvA,he,kJ _ _ hVp,jL hl,bC]);have f2:val rl=A % V:=(by rw[<- hvA,he,kP,dS hl]);have hcq:=yD Q aj;rw[f1,hres.1]at hcq;have hcd:=b2W rl s hs aj;rw[f2,hres.2]at hcd;conv=>whnf
 refine .gen _ _ (qX.Xe 0 rfl rfl aA (qX.vU hcq ?_ ⟨rfl,rfl⟩)) λ_=>?_
 ·repeat' first|exact Zq|apply aI
  refine qY ?_;simp;rw[bf aA]
 conv=>whnf
 refine .gen _ _ (qX.vU hcd (rM _) ⟨rfl,rfl⟩) λ_=>?_;conv=>whnf
 exact ZH
theorem a7v{v w i:Nat}(hv:v<4294967296^i)(hw:w≠0):zx (v+4294967296^i*w)=32*i+zx w:=by
 obtain⟨l,h1,h2,h3⟩:=Jl hw;rw[h1];have e:=a8B i l;have e2:=a8B i (l+1);have:=X0 (x:=v+4294967296^i*w) (l:=32*i+l) (by
  rw[<- e];have:4294967296^i*2^l<=4294967296^i*w:=dn _ h2;omega) (by
  rw[show 32*i+l+1=32*i+(l+1) by omega,<- e2];have h4:4294967296^i*(w+1)<=4294967296^i*2^(l+1):=dn _ h3;rw[dB]at h4;omega)
 rw[this];omega
theorem b24(a:List Int)(ha:a.length<=1000000):ZQ 237 [wL a] [] (.int .i64 (zx (val a))) []:=by
 refine ZI Tryz.func237 λhok=>?_;have wa:Ws a:=Ws.ok hok.1.2;conv=>whnf
 refine⟨rQ aA aA,?_⟩;conv=>whnf
 refine qV.of <| qM.inv (.refl _ _) (fun(n:Nat)=>n<=a.length/\val (a.drop n)=0) (fun(n:Nat)=>[(3,.int .i64 ((n:Int)-1))]) (λ_=>_) (fun(n:Nat)=>n) a.length ?_ (λ_=>rfl) ?_ ?_;{exact⟨aS _,by rw[iY];rfl⟩}
 ·repeat' first|exact Zq|apply aI
  simp
 rintro n ⟨hn,hd⟩ _;refine ZS ?_ ?_<;>intro h
 ·obtain⟨i,rfl⟩:∃i,n=i+1:=⟨n-1,aj⟩;have e1:(((i+1:Nat):Int)-1)=(i:Int):=aj;rw[e1];have hx:=wa.getD (i:=i);have hvd:=uI (l:=a) i aj;have hhd:=Ce a i;have htl:=JC wa i;conv=>whnf
  refine vC 0 rfl aj ?_;obtain⟨x,hxx⟩:∃x:Nat,a.getD i 0=x:=⟨(a.getD i 0).toNat,aj⟩;rw[hxx]at hx hhd ⊢;rw[hd,gB,dU,aJ]at hhd;rw[hhd]at hvd;conv=>whnf
  constructor<;>intro h1
  ·have hb:=JY (x:=x) (n:=32) aj;conv=>whnf
   refine⟨rQ aj aj,?_⟩;conv=>whnf
   refine vC 0 rfl aj ?_;rw[hxx];conv=>whnf
   refine .zK (a7f x aj) ?_;refine ZG ?_;refine ZF ?_;refine⟨rfl,?_⟩;rw[hvd,a7v htl aj];omega
  have hx0:x=0:=aj;conv=>whnf
  refine ZG ?_;refine⟨i,?_,?_,?_⟩;{exact⟨aj,by rw[hhd,hx0]⟩};{exact wk};omega
 have hn0:n=0:=aj;subst hn0;rw[fD]at hd;conv=>whnf
 refine ZF ?_;rw[hd];exact⟨rfl,rfl⟩
theorem a5F{p B x y o c C v0 vn w:Nat}(hC:C=c+(x*y+o))(e:vn+p*o=v0+p*(C % B))(h:v0+p*c=w):vn+p*B*(C / B)=w+p*(x*y):=by have e1:p*(C % B)+p*B*(C / B)=p*C:=(by rw[dA,<- dB,jY]);have e2:p*C=p*c+(p*(x*y)+p*o):=(by rw[hC,dB,dB]);omega
theorem b1S{P Q c vo vn x vb w:Nat}(h:vo+P*c=w+Q*x*vb)(e:vn=vo+P*c):vn=w+Q*x*vb:=aj
theorem XK(a b:List Int)(ha:a.length<=400000)(hb:b.length<=400000):ZQ 200 [wL a,wL b] [] (wL (wd (val a*val b))) []:=by
 refine ZI Tryz.func200 λhok=>?_;have wa:Ws a:=Ws.ok hok.1.2;have wb:Ws b:=Ws.ok hok.2.1.2;conv=>whnf
 refine⟨rQ aA aA,?_⟩;obtain⟨m,hm⟩:∃m,a.length+b.length=m:=⟨_,rfl⟩;rw[show(((a.map (AV.int .u32)).length:Nat):Int)+(((b.map (AV.int .u32)).length:Nat):Int)=(m:Int) by simp;omega];conv=>whnf
 refine⟨⟨aj,aj,aA,aj⟩,.wr ?_⟩;conv=>whnf
 refine qV.of <| qM.inv (.refl _ _) (λx:Nat×List Int=>x.1<=a.length/\Ws x.2/\x.2.length=m/\val x.2=val (a.take x.1)*val b/\∀k,x.1+b.length<=k->x.2.getD k 0=0)
  (fun|(i,_)=>[(19,.int .i64 i)]) (fun|(_,out)=>[(0,.arr 1 m (out.map (.int .u32)))])
  (λx=>a.length-x.1) (0,List.replicate m 0) ?_ (λ_=>rfl) ?_ ?_
 ·refine⟨aO _,?_,ak,?_,?_⟩;{intro x hx;rw[(fG.1 hx).2];omega};{rw[CZ (λx hx=>(fG.1 hx).2)];simp[val]};intro k _;rw[aF,eU];split <;> rfl
 ·refine Zv wk ?_;repeat' first|exact Zq|apply aI
  all_goals first|(simp;done)|exact qY ak
 rintro⟨i,out⟩ ⟨hi,hwo,hol,hv,hz⟩ _;simp only at hi hwo hol hv hz;refine ZS ?_ ?_<;>intro h
 ·have hlt:i<a.length:=(by simpa using h);have hva:=sN (l:=a) (i:=i);have hxa:=wa.getD (i:=i);conv=>whnf
  refine vC 0 rfl hlt ?_;generalize a.getD i 0=x0 at *;obtain⟨x,rfl⟩:∃x:Nat,x0=x:=⟨x0.toNat,aj⟩;rw[aJ]at hva;conv=>whnf
  refine qV.of <| qM.inv (.refl _ _) (λz:Nat×Nat×List Int=>z.1<=b.length/\z.2.1<4294967296/\Ws z.2.2/\z.2.2.length=m/\val z.2.2+4294967296^(i+z.1)*z.2.1=val out+4294967296^i*x*val (b.take z.1)/\∀k,i+b.length<=k->z.2.2.getD k 0=0)
   (fun|(j,c,_)=>[(26,.int .i64 j),(8,.int .u64 c)]) (fun|(_,_,o)=>[(0,.arr 1 m (o.map (.int .u32)))])
   (λz=>b.length-z.1) (0,0,out) ?_ (λ_=>rfl) ?_ ?_
  ·exact⟨aO _,(by omega:0<4294967296),hwo,hol,by simp[val],hz⟩
  ·exact Zv wk wk
  rintro⟨j,c,o⟩ ⟨hj,hc,a81,b2h,hv2,hz2⟩ _;simp only at hj hc a81 b2h hv2 hz2;refine ZS ?_ ?_<;>intro h
  ·have hjlt:j<b.length:=(by simpa using h);have hvb:=sN (l:=b) (i:=j);have hxb:=wb.getD (i:=j);have hoo:=a81.getD (i:=i+j);have hij:i+j<o.length:=aj;conv=>whnf
   refine vC 0 rfl hjlt ?_;generalize b.getD j 0=y0 at *;obtain⟨y,rfl⟩:∃x:Nat,y0=x:=⟨y0.toNat,aj⟩;rw[aJ]at hvb;have hxy:x*y<=4294967295*4294967295:=gY aj aj;conv=>whnf
   rw[wrap_u64 (n:=(x:Int)) aj aj,wrap_u64 (n:=(y:Int)) aj aj];rw[show((x:Int)*(y:Int))=((x*y:Nat):Int)from(lU x y).symm,wrap_u64 (n:=((x*y:Nat):Int)) aj aj];refine ZG ?_;refine⟨⟨aj,aj⟩,?_⟩;conv=>whnf
   refine vC 0 (i:=i+j) aj hij ?_;refine⟨rfl,?_⟩;obtain⟨ow,how⟩:∃w:Nat,o.getD (i+j) 0=w:=⟨(o.getD (i+j) 0).toNat,aj⟩;rw[how]at hoo ⊢;conv=>whnf
   rw[wrap_u64 (n:=(ow:Int)) aj aj];rw[show(((x*y:Nat):Int)+(ow:Int))=((x*y+ow:Nat):Int)from(iC (x*y) ow).symm,wrap_u64 (n:=((x*y+ow:Nat):Int)) aj aj];rw[show((c:Int)+((x*y+ow:Nat):Int))=((c+(x*y+ow):Nat):Int)from(iC c (x*y+ow)).symm,wrap_u64 (n:=((c+(x*y+ow):Nat):Int)) aj aj];obtain⟨C,hC⟩:∃C,c+(x*y+ow)=C:=⟨_,rfl⟩;rw[hC];conv=>whnf
   refine ZG ?_;rw[vM (a:=C)];refine⟨⟨aj,aj⟩,?_⟩;dsimp only[Cm];rw[Hu];dsimp only[zV];dsimp only[O6,xH];conv=>whnf
   refine⟨by rw[aC];omega,rfl,?_⟩;conv=>whnf
   refine⟨au,?_⟩;rw[Dv rfl];conv=>whnf
   refine ZG ?_;have hCl:C / 4294967296<4294967296:=aj;have hset:=Jz (x:=((C % 4294967296:Nat):Int)) hij;rw[<- uX (x:=0) hij,how,aJ,aJ]at hset;refine⟨(j+1,C / 4294967296,o.set (i+j) ((C % 4294967296:Nat):Int)),?_,?_,?_⟩;{refine⟨hjlt,hCl,a81.set aj,by simpa using b2h,?_,?_⟩;{show val (o.set (i+j) ((C % 4294967296:Nat):Int))+4294967296^(i+(j+1))*(C / 4294967296)=val out+4294967296^i*x*val (b.take (j+1));rw[<- jc,bU,hvb,dB,<- ZC (x:=x),<- jd,<- jc];exact a5F (p:=4294967296^(i+j)) (x:=x) (y:=y) (o:=ow) (c:=c) hC.symm hset hv2};intro k hk;have h1:=hz2 k hk;show(o.set (i+j) _).getD k 0=0;rw[aF]at h1 ⊢;rw[je aj];exact h1}
   ·refine Zv wk ?_;repeat' first|exact Zq|apply aI
    refine qY ?_;rw[dP,show(0+((i:Int)+(j:Int)).toNat)=i+j by omega];simp[strip]
   show b.length-(j+1)<b.length-j;omega
  have hjl:j=b.length:=(by have:¬j<b.length:=(by simpa using h);omega);subst hjl;rw[bg,hv]at hv2;have hij:i+b.length<o.length:=aj;have hset:=Jz (x:=(c:Int)) hij;have h0:=hz2 (i+b.length) (aS _);rw[<- uX (x:=0) hij,h0,aJ]at hset;rw[show(0:Int).toNat=0 from rfl,gB,dU]at hset;conv=>whnf
  refine⟨rQ aA aA,?_⟩;rw[show(i:Int)+(((b.map (AV.int .u32)).length:Nat):Int)=((i+b.length:Nat):Int) by simp];conv=>whnf
  rw[wrap_u32 (n:=(c:Int)) aj aj];refine⟨⟨aj,aj⟩,?_⟩;dsimp only[Cm];rw[Hu];dsimp only[zV];dsimp only[O6,xH];conv=>whnf
  refine⟨by rw[aC];omega,rfl,?_⟩;conv=>whnf
  refine ZG ?_;refine⟨(i+1,o.set (i+b.length) (c:Int)),?_,?_,?_⟩;{refine⟨hlt,a81.set aj,by simpa using b2h,?_,?_⟩;{show val (o.set (i+b.length) (c:Int))=val (a.take (i+1))*val b;rw[hva,dw];exact b1S hv2 hset};intro k hk;have hk:i+1+b.length<=k:=hk;have h1:=hz2 k aj;show(o.set (i+b.length) _).getD k 0=0;rw[aF]at h1 ⊢;rw[je aj];exact h1}
  ·refine Zv wk ?_;repeat' first|exact Zq|apply aI
   refine qY ?_;rw[dP];simp[strip];try rw[show((i:Int)+(b.length:Int)).toNat=i+b.length by omega]
  show a.length-(i+1)<a.length-i;omega
 have hil:i=a.length:=(by have:¬i<a.length:=(by simpa using h);omega);subst hil;rw[bg]at hv;have ct:=CU out aj;rw[hv]at ct;conv=>whnf
 refine .gen _ _ (qX.Xe 0 rfl rfl aA (qX.vU ct ?_ ⟨rfl,rfl⟩)) λ_=>?_
 ·repeat' first|exact Zq|apply aI
  refine qY ?_;simp;rw[bf aA]
 conv=>whnf
 exact ZH
def yX(neg:Bool)(n d:Nat):Rat:=if n=0 then⟨false,[],[]⟩else⟨neg,wd (n / Nat.gcd n d),wd (d / Nat.gcd n d)⟩
def qQ(r:Rat):Bool×Nat×Nat:=if valid r=true/\r.num≠[]then(r.neg,val r.num,val r.den)else(false,0,1)
def mulR(a b:Rat):Rat:=yX (decide ((qQ a).1≠(qQ b).1)) ((qQ a).2.1*(qQ b).2.1) ((qQ a).2.2*(qQ b).2.2)
theorem vY{x y k l:Nat}(hx:(wd x).length<=k)(hy:(wd y).length<=l):(wd (x*y)).length<=k+l:=by refine Ee ?_;have h1:=wJ (EH x);have h2:=wJ (EH y);rw[rU]at h1 h2;have h3:4294967296^(wd x).length<=4294967296^k:=bQ aj hx;have h4:4294967296^(wd y).length<=4294967296^l:=bQ aj hy;rw[jd];exact Nat.mul_lt_mul_of_lt_of_le aj aj aj
theorem Dl{x:Nat}:zx x=0↔x=0:=by unfold zx;split;{simp[*]};simp[*]
theorem a99{x:Nat}:zx x=1↔x=1:=by
 by_cases h:x=0;{subst h;simp[zx]};obtain⟨l,h1,h2,h3⟩:=Jl h;rw[h1];constructor;{intro e;obtain rfl:l=0:=aj;simp at h3;omega};intro e;subst e;have:2^l<=2^0:=by simpa using h2
 have:=(Nat.pow_le_pow_iff_right (a:=2) aj).1 this;omega
theorem SC(neg:Bool)(n d:Nat)(hn:(wd n).length<=900000)(hd:(wd d).length<=900000)(_:d≠0):ZQ 201 [.bool neg,wL (wd n),wL (wd d)] [] (yX neg n d).av []:=by
 have cb:=b24 (wd n) aj;rw[rU]at cb;by_cases hz:n=0
 ·have hb:zx n=0:=Dl.2 hz;rw[hb]at cb;rw[show yX neg n d=⟨false,[],[]⟩from aG hz];refine ZI Tryz.func201 λhok=>?_;conv=>whnf
  refine .zK cb ?_;refine aP (λ_=>?_) (λh=>absurd rfl h);conv=>whnf
  exact ZH
 have hb:zx n≠0:=λh=>hz (Dl.1 h);have hg0:Nat.gcd n d≠0:=(by have:=jh d (show 0<n by omega);omega);have hgn:Nat.gcd n d<=n:=kU d aj;have hgl:=sQ hgn;have cg:=b5j (wd n) (wd d) aj aj λx y hy hx hy'=>(by rw[rU,rU]at hx hy';have k:∀z,z<=max n d->(wd z).length<=900000:=(by intro z hz;rcases Nat.le_total n d with hab|hab;{rw[Nat.max_eq_right hab]at hz;have:=sQ hz;omega};rw[Nat.max_eq_left hab]at hz;have:=sQ hz;omega);have k1:=k x hx;have k2:=k y hy';exact divC x y aj aj hy);rw[rU,rU]at cg;have d1:=divC n (Nat.gcd n d) aj aj hg0;have d2:=divC d (Nat.gcd n d) aj aj hg0;unfold b1k at d1 d2;rw[show yX neg n d=⟨neg,wd (n / Nat.gcd n d),wd (d / Nat.gcd n d)⟩from aB hz];generalize Nat.gcd n d=g at *;refine ZI Tryz.func201 λhok=>?_;conv=>whnf
 refine .zK cb ?_;refine aP (λh=>by exfalso;omega) (λ_=>?_);conv=>whnf
 refine .zK cg ?_;refine .zK d1 ?_;refine .zK d2 ?_;exact ZH
theorem Dz{l:List Int}(h:wK l=true)(hw:Ws l):wd (val l)=l/\val l≠0:=by simp only[wK,aN,bW]at h;have e:=a4J hw (.inr h.2);refine⟨e,λh0=>h.1 ?_⟩;rw[h0,yt]at e;exact e.symm
structure b3H(r:Rat):Prop where
 den:(qQ r).2.2≠0
 ln:(wd (qQ r).2.1).length<=400000
 ld:(wd (qQ r).2.2).length<=400000
 eq:(if valid r=true/\r.num≠[]then AV.uf [.bool r.neg,wL r.num,wL r.den]else .uf [.bool false,wL [],wL [1]])=.uf [.bool (qQ r).1,wL (wd (qQ r).2.1),wL (wd (qQ r).2.2)]
theorem UL{r:Rat}(w1:Ws r.num)(w2:Ws r.den):(qQ r).2.2≠0/\(if valid r=true/\r.num≠[]then AV.uf [.bool r.neg,wL r.num,wL r.den]else .uf [.bool false,wL [],wL [1]])=.uf [.bool (qQ r).1,wL (wd (qQ r).2.1),wL (wd (qQ r).2.2)]:=by by_cases h:valid r=true/\r.num≠[];{have hp:qQ r=(r.neg,val r.num,val r.den):=aG h;obtain⟨h1,h2⟩:=h;have h1':=h1;unfold valid at h1;rw[aB (λh=>h2 h.1)]at h1;simp only[aN]at h1;obtain⟨e1,_⟩:=Dz h1.1.1 w1;obtain⟨e2,n2⟩:=Dz h1.1.2 w2;refine⟨?_,?_⟩;{rw[hp];exact n2};rw[aG ⟨h1',h2⟩,hp,show wd (r.neg,val r.num,val r.den).2.1=r.num from e1,show wd (r.neg,val r.num,val r.den).2.2=r.den from e2]};have hp:qQ r=(false,0,1):=aB h;have e1:wd 1=[1]:=Dt aj aj;refine⟨?_,?_⟩;{rw[hp];decide};rw[aB h,hp,show wd ((false,0,1):Bool×Nat×Nat).2.1=[]from yt,show wd ((false,0,1):Bool×Nat×Nat).2.2=[1]from e1]
theorem MZ{r:Rat}(w1:Ws r.num)(w2:Ws r.den)(l1:r.num.length<=400000)(l2:r.den.length<=400000):b3H r:=by obtain⟨g1,g2⟩:=UL w1 w2;have hl:(wd (qQ r).2.1).length<=400000/\(wd (qQ r).2.2).length<=400000:=(by by_cases h:valid r=true/\r.num≠[];{have hp:qQ r=(r.neg,val r.num,val r.den):=aG h;rw[hp];exact⟨dH (wu w1) l1,dH (wu w2) l2⟩};have e1:wd 1=[1]:=Dt aj aj;rw[show qQ r=(false,0,1)from aB h,show wd ((false,0,1):Bool×Nat×Nat).2.1=[]from yt,show wd ((false,0,1):Bool×Nat×Nat).2.2=[1]from e1];simp);exact⟨g1,hl.1,hl.2,g2⟩
theorem yu{r:Rat}{l:List AV}(h:KD (r.av::l)):Ws r.num/\Ws r.den:=⟨Ws.ok h.1.2.1.2,Ws.ok h.1.2.2.1.2⟩
theorem a9R(a b:Rat)(a1:a.num.length<=400000)(a2:a.den.length<=400000)(b1:b.num.length<=400000)(b2:b.den.length<=400000):ZQ 236 [a.av,b.av] [] (mulR a b).av []:=by
 have ca:=Nw a (KT a aj aj).v;have cb:=Nw b (KT b aj aj).v;refine ZI Tryz.func236 λhok=>?_;have pa:=MZ (yu hok).1 (yu hok).2 a1 a2;have pb:=MZ (yu hok.2).1 (yu hok.2).2 b1 b2;rw[pa.eq]at ca;rw[pb.eq]at cb;have hm:mulR a b=yX (decide ((qQ a).1≠(qQ b).1)) ((qQ a).2.1*(qQ b).2.1) ((qQ a).2.2*(qQ b).2.2):=rfl;have m1:=XK (wd (qQ a).2.1) (wd (qQ b).2.1) pa.ln pb.ln;have m2:=XK (wd (qQ a).2.2) (wd (qQ b).2.2) pa.ld pb.ld;rw[rU,rU]at m1 m2;have l1:=vY pa.ln pb.ln;have l2:=vY pa.ld pb.ld;have hne:(qQ a).2.2*(qQ b).2.2≠0:=jX pa.den pb.den;have cf:=SC (decide ((qQ a).1≠(qQ b).1)) ((qQ a).2.1*(qQ b).2.1) ((qQ a).2.2*(qQ b).2.2) aj aj hne;rw[<- hm]at cf;generalize mulR a b=R at *;clear hm;generalize (qQ a).2.1*(qQ b).2.1=n at *;generalize (qQ a).2.2*(qQ b).2.2=d at *;conv=>whnf
 refine .zK ca ?_;refine .zK cb ?_;refine .zK m1 ?_;refine .zK m2 ?_;refine .pure _ _ ?_ ⟨rfl,rfl⟩ cf λ_=>?_;{refine⟨?_,tV _,tV _,trivial⟩;show _↔_;simp};conv=>whnf
 exact ZH
theorem a6X(a b:List Int)(ha:a.length<=35184372088320)(hb:b.length<=35184372088320):ZQ 108 [wL a,wL b] [] (wL (wd (Nat.gcd (val a) (val b)))) []:=by
 refine ZI Tryz.func108 λhok=>?_;have wa:Ws a:=Ws.ok hok.1.2;have wb:Ws b:=Ws.ok hok.2.1.2;have la:=wu wa;have lb:=wu wb;conv=>whnf
 refine .zK (yD a aj) ?_;refine .zK (yD b aj) ?_;refine qV.of <| qM.inv (.refl _ _) (fun(x:Nat×Nat)=>(wd x.1).length<=35184372088320/\(wd x.2).length<=35184372088320/\Nat.gcd x.1 x.2=Nat.gcd (val a) (val b)) (fun(x:Nat×Nat)=>[(0,wL (wd x.1)),(1,wL (wd x.2))]) (λ_=>_) (fun(x:Nat×Nat)=>x.2) (val a,val b) ?_ (λ_=>rfl) ?_ ?_;{exact⟨(by omega:(wd (val a)).length<=35184372088320),(by omega:(wd (val b)).length<=35184372088320),rfl⟩};{exact wk};rintro⟨x,y⟩ ⟨h1,h2,h3⟩ _;simp only at h1 h2 h3;refine ZS ?_ ?_<;>intro h
 ·have h0:y≠0:=(by intro e;subst e;simp[yt]at h);have cd:=XJ (wd x) (wd y) h1 h2 (by rw[rU];exact h0);rw[rU,rU]at cd;have hm:x % y<y:=gI _ aj;have hml:=sQ (Nat.le_of_lt hm);conv=>whnf
  refine .zK cd ?_;refine⟨(y,x % y),?_,?_,?_⟩;{refine⟨h2,(by omega:(wd (x % y)).length<=35184372088320),?_⟩;show Nat.gcd y (x % y)=_;rw[<- h3,mY x y,Nat.gcd_rec y x];try exact mY _ _};{exact wk};show x % y<y;exact hm
 have h0:y=0:=(by apply aU;intro hy;apply h;show(0:Int)<((wd y).map _).length;rw[BL hy];simp);subst h0;conv=>whnf
 refine ZF ?_;refine⟨rfl,qY ?_⟩;rw[<- h3,Nat.gcd_zero_right]
theorem F8(a:List Int)(k:Nat)(e:k=a.length-1):a.getD k 0=a.getLastD 0:=by subst e;rw[iV,iW,aF]
theorem XI(r:Rat)(l1:r.num.length<=35184372088320)(l2:r.den.length<=35184372088320):ZQ 172 [r.av] [] (.bool (valid r)) []:=by
 have cg:=a6X r.num r.den l1 l2;refine ZI Tryz.func172 λhok=>?_;have w:=yu hok;have hgl:(wd (Nat.gcd (val r.num) (val r.den))).length<=35184372088832:=(by have k1:=wu w.1;have k2:=wu w.2;by_cases h0:val r.num=0;{rw[h0,Nat.gcd_zero_left];omega};have:=sQ (kU (val r.den) (by omega:0<val r.num));omega);have cb:=QG (wd (Nat.gcd (val r.num) (val r.den))) hgl;rw[rU]at cb;have h1:=a99 (x:=Nat.gcd (val r.num) (val r.den));have hval:¬r.num=[]->(valid r=true↔wK r.num=true/\wK r.den=true/\Nat.gcd (val r.num) (val r.den)=1):=λn1=>(by simp[valid,n1,and_assoc]);generalize Nat.gcd (val r.num) (val r.den)=g at *;have en:(((r.num.map (AV.int .u32)).length:Nat):Int)=(r.num.length:Int):=ak;have ed:(((r.den.map (AV.int .u32)).length:Nat):Int)=(r.den.length:Int):=ak;conv=>whnf
 refine ZR ?_;constructor<;>intro n1
 ·have n1:r.num=[]:=bT (by rw[en]at n1;omega);conv=>whnf
  constructor<;>intro n2
  ·(conv=>whnf);constructor<;>intro n3
   ·have n3:r.den=[]:=bT (by rw[ed]at n3;omega);conv=>whnf
    refine ZF ?_;simp[valid,n1,n3]
   have n3:¬r.den=[]:=λe=>n3 (by rw[e];rfl);conv=>whnf
   refine ZF ?_;simp[valid,n1,n3,wK]
  exact absurd (by rw[n1];rfl) n2
 have n1:¬r.num=[]:=λe=>n1 (by rw[e];rfl);conv=>whnf
 constructor<;>intro n2
 ·have n2:r.den=[]:=bT (by rw[ed]at n2;omega);conv=>whnf
  constructor<;>intro n3;{exact absurd (bT (by rw[en]at n3;omega)) n1};conv=>whnf
  refine ZF ?_;simp[valid,n1,n2,wK]
 have n2:¬r.den=[]:=λe=>n2 (by rw[e];rfl);have p1:0<r.num.length:=jq.2 n1;have p2:0<r.den.length:=jq.2 n2;refine ZW ?_;refine aP (rQ (by rw[en];omega) (by rw[en];omega)) (ZW ?_);refine vC 0 (i:=r.num.length-1) (by rw[en];omega) aj ?_;refine ZS ?_ ?_<;>intro n3;{refine ZW ?_;refine aP (rQ (by rw[ed];omega) (by rw[ed];omega)) (ZW ?_);refine vC 0 (i:=r.den.length-1) (by rw[ed];omega) aj ?_;refine ZS ?_ ?_<;>intro n4;{refine ZW ?_;refine .zW cg ?_;refine .zW cb ?_;refine ZF ?_;show _↔_;have n3:¬r.num.getLastD 0=0:=(by rw[<- F8 r.num _ rfl];simpa using n3);have n4:¬r.den.getLastD 0=0:=(by rw[<- F8 r.den _ rfl];simpa using n4);rw[hval n1];have q1:wK r.num=true:=(by simp[wK,n1,n3,-List.getLastD_eq_getLast?]);have q2:wK r.den=true:=(by simp[wK,n2,n4,-List.getLastD_eq_getLast?]);rw[q1,q2];simp;omega};refine ZW ?_;refine ZF ?_;have n4:r.den.getLastD 0=0:=(by rw[<- F8 r.den _ rfl];simpa using n4);have q:wK r.den=false:=(by simp[wK,n4,-List.getLastD_eq_getLast?]);simp[valid,n1,q]};refine ZW ?_;refine ZF ?_;have n3:r.num.getLastD 0=0:=(by rw[<- F8 r.num _ rfl];simpa using n3);have q:wK r.num=false:=(by simp[wK,n3,-List.getLastD_eq_getLast?]);simp[valid,n1,q]
theorem QF(r:Rat)(l1:r.num.length<=35184372088320)(l2:r.den.length<=35184372088320) :
  ZQ 227 [r.av] [] (if valid r=true/\r.num≠[]then .uf [.bool r.neg,wL r.num,wL r.den]else .uf [.bool false,wL [],wL [1]]) []:=by
 have cv:=XI r l1 l2;generalize hR:(if valid r=true/\r.num≠[]then AV.uf [.bool r.neg,wL r.num,wL r.den]else .uf [.bool false,wL [],wL [1]])=R;refine ZI Tryz.func227 λhok=>?_;have en:(((r.num.map (AV.int .u32)).length:Nat):Int)=(r.num.length:Int):=ak;refine Z0 ?_;refine .zW cv ?_;constructor<;>intro p1;{have p1:valid r=false:=(by simpa using p1);rw[aB (by simp[p1])]at hR;subst hR;exact ZJ};have p1:valid r=true:=(by simpa using p1);refine ZS ?_ ?_<;>intro p2;{have p2:r.num=[]:=bT (by rw[en]at p2;omega);rw[aB (by simp[p2])]at hR;subst hR;exact ZJ};have p2:¬r.num=[]:=λe=>p2 (by rw[e];rfl);rw[aG ⟨p1,p2⟩]at hR;subst hR;refine ZW ?_;refine ZR ?_;exact ZH
theorem UZ(neg:Bool)(n d:Nat)(hn:(wd n).length<=35184372088320)(hd:(wd d).length<=35184372088320)(h0:d≠0):ZQ 53 [.bool neg,wL (wd n),wL (wd d)] [] (.uf [(yX neg n d).av,.int .i64 0]) []:=by have cb:=QG (wd n) aj;have cd:=QG (wd d) aj;rw[rU]at cb cd;have hbd:zx d≠0:=λh=>h0 (Dl.1 h);by_cases hz:n=0;{have hb:zx n=0:=Dl.2 hz;rw[hb]at cb;rw[show yX neg n d=⟨false,[],[]⟩from aG hz];refine ZN Tryz.func53 λhok=>?_;refine .zW cd ?_;refine aP (λh=>by exfalso;omega) (λ_=>ZW ?_);refine .zW cb ?_;refine aP (λ_=>?_) (λh=>absurd rfl h);exact ZJ};have hb:zx n≠0:=λh=>hz (Dl.1 h);have hg0:Nat.gcd n d≠0:=(by have:=jh d (show 0<n by omega);omega);have hgn:Nat.gcd n d<=n:=kU d aj;have hgl:=sQ hgn;have cg:=a6X (wd n) (wd d) aj aj;rw[rU,rU]at cg;have d1:=XJ (wd n) (wd (Nat.gcd n d)) aj aj (by rw[rU];exact hg0);have d2:=XJ (wd d) (wd (Nat.gcd n d)) aj aj (by rw[rU];exact hg0);rw[rU,rU]at d1 d2;rw[show yX neg n d=⟨neg,wd (n / Nat.gcd n d),wd (d / Nat.gcd n d)⟩from aB hz];generalize Nat.gcd n d=g at *;refine ZN Tryz.func53 λhok=>?_;refine .zW cd ?_;refine aP (λh=>by exfalso;omega) (λ_=>ZW ?_);refine .zW cb ?_;refine aP (λh=>by exfalso;omega) (λ_=>ZW ?_);refine .zW cg ?_;refine .zW d1 ?_;refine .zW d2 ?_;exact ZH
theorem KY{r:Rat}{N:Nat}(hN:1<=N)(w1:Ws r.num)(w2:Ws r.den)(l1:r.num.length<=N)(l2:r.den.length<=N):(wd (qQ r).2.1).length<=N/\(wd (qQ r).2.2).length<=N:=by by_cases h:valid r=true/\r.num≠[];{have hp:qQ r=(r.neg,val r.num,val r.den):=aG h;obtain⟨h1,h2⟩:=h;unfold valid at h1;rw[aB (λh=>h2 h.1)]at h1;simp only[aN]at h1;obtain⟨e1,_⟩:=Dz h1.1.1 w1;obtain⟨e2,n2⟩:=Dz h1.1.2 w2;rw[hp,show wd (r.neg,val r.num,val r.den).2.1=r.num from e1,show wd (r.neg,val r.num,val r.den).2.2=r.den from e2];exact⟨l1,l2⟩};have hp:qQ r=(false,0,1):=aB h;have e1:wd 1=[1]:=Dt aj aj;rw[hp,show wd ((false,0,1):Bool×Nat×Nat).2.1=[]from yt,show wd ((false,0,1):Bool×Nat×Nat).2.2=[1]from e1];exact⟨ak,by simpa using hN⟩
theorem UK{r:Rat}(w1:Ws r.num)(w2:Ws r.den)(l1:r.num.length<=100000)(l2:r.den.length<=100000):(wd (qQ r).2.1).length<=100000/\(wd (qQ r).2.2).length<=100000:=KY aj w1 w2 l1 l2
theorem a6L(a b:List Int):ZQ 68 [wL a,wL b] [] (.bool (decide (a=b))) []:=by
 refine ZI Tryz.func68 λhok=>?_;have ha:a.length<=9223372036854775807:=(by simpa[KD,Ok,maxL]using hok.1.1);refine Z0 ?_;constructor<;>intro h
 ·have h:a≠b:=(by intro e;apply h;rw[e]);conv=>whnf
  refine ZF ?_;simpa using h
 have h:a.length=b.length:=(by simp only[aC]at h;omega);refine ZW ?_;refine qV.of <| qM.inv (.refl _ _) (fun(i:Nat)=>i<=a.length/\(a=b↔a.drop i=b.drop i)) (fun(i:Nat)=>[(13,.int .i64 i)]) (λ_=>_) (fun(i:Nat)=>a.length-i) 0 ?_ (λ_=>rfl) ?_ ?_;{exact⟨aO _,ak⟩};{exact wk};rintro i ⟨hi,hx⟩ _;refine ZS ?_ ?_<;>intro h1;{have hlt:i<a.length:=(by simpa using h1);have hlt2:i<b.length:=aj;rw[aZ hlt,aZ hlt2]at hx;refine ZW ?_;refine ZR ?_;refine rV hlt (ZW ?_);refine rV hlt2 ?_;refine ZS ?_ ?_<;>intro h2;{refine ZW ?_;refine ZF ?_;have:¬a=b:=λe=>h2 (by simpa using(nR (hx.1 e)).1);simpa using this};have h2:a[i]=b[i]:=(by simpa using h2);refine ZW ?_;refine ZG ?_;refine⟨i+1,?_,?_,?_⟩;{refine⟨hlt,?_⟩;rw[hx,h2];exact⟨λe=>(nR e).2,λe=>by rw[e]⟩};{exact wk};omega};have hil:i=a.length:=(by have:¬i<a.length:=(by simpa using h1);omega);refine ZW ?_;refine ZF ?_;have:a=b:=hx.2 (by rw[hil,iY,h,iY]);simpa using this
theorem QE(a b:Rat):ZQ 20 [a.av,b.av] [] (.bool (decide (a=b))) []:=by
 have c1:=a6L a.num b.num;have c2:=a6L a.den b.den;have e:a=b↔a.neg=b.neg/\a.num=b.num/\a.den=b.den:=by cases a;cases b;simp
 refine ZN Tryz.func20 λhok=>?_;constructor<;>intro h1;{refine ZW ?_;refine .zW c1 ?_;constructor<;>intro h2;{have h2:a.num=b.num:=(by simpa using h2);refine ZW ?_;refine .zW c2 ?_;refine ZF ?_;simp[e,h1,h2]};have h2:¬a.num=b.num:=(by simpa using h2);refine ZW ?_;refine ZF ?_;simp[e,h2]};refine ZW ?_;refine ZF ?_;simp[e,h1]
theorem b6A(e:Int):ZQ 11 [zu e] [] (.int .i64 e) []:=by by_cases h0:e=0;{subst h0;rw[sD];refine ZN Tryz.func11 λhok=>?_;exact ZH};rw[rW h0];refine ZN Tryz.func11 λhok=>?_;exact ZH
def DU(k:Int):Int×Int :=
 if k=0\/k=1\/k=4\/k=2 then(1,16)else if k=3 then(1,1)else if k=5 then(2,2)else if k=6\/k=7\/k=8 then(2,16)else(0,0)
theorem V5{p x y c s va vb D:Nat}(hD:x+y+c=D)(h:s+p*c=va+vb):s+p*(D % 4294967296)+p*4294967296*(D / 4294967296)=va+p*x+(vb+p*y):=by have e:D=D % 4294967296+4294967296*(D / 4294967296):=(jY _ _).symm;have e2:p*D=p*(D % 4294967296)+p*(4294967296*(D / 4294967296)):=(by rw[<- dB,<- e]);have e3:p*D=p*x+p*y+p*c:=(by rw[<- hD,dB,dB]);rw[<- dA]at e2;omega
theorem a2h{B m la lb a b s c:Nat}(hB:2<=B)(ha:a<B^la)(hb:b<B^lb)(hla:la<m)(hlb:lb<m)(h:s+B^m*c=a+b):s=a+b:=by
 have h1:B^la<=B^(m-1):=bQ aj aj;have h2:B^lb<=B^(m-1):=bQ aj aj;have h3:B^m=B^(m-1)*B:=(by rw[<- bU];congr 1;omega);have h4:B^(m-1)*2<=B^(m-1)*B:=dn _ hB;cases c with
 |zero=>simpa using h
 |succ c =>exfalso;have h5:B^m*1<=B^m*(c+1):=dn _ aj;rw[h3]at h5 h;omega
theorem b21(a b:List Int)(ha:a.length<=35184372088831)(hb:b.length<=35184372088831):ZQ 254 [wL a,wL b] [] (wL (wd (val a+val b))) []:=by
 refine ZI Tryz.func254 λhok=>?_;have wa:Ws a:=Ws.ok hok.1.2;have wb:Ws b:=Ws.ok hok.2.1.2;refine Z0 ?_;obtain⟨m,hm⟩:∃m,max a.length b.length+1=m:=⟨_,rfl⟩;have em:max (((a.map (AV.int .u32)).length:Nat):Int) (((b.map (AV.int .u32)).length:Nat):Int)+1=(m:Int):=(by simp only[aC];omega);refine aP (by rw[em];exact rQ aj aj) ?_;rw[em];conv=>whnf
 refine qV.of <| qM.inv (.grow 5 1 [] _ rfl (.inl ⟨rfl,rfl⟩) (.refl _ _)) (λx:Nat×Nat×List Int=>x.1<=m/\x.2.1<=1/\Ws x.2.2/\x.2.2.length=x.1/\val x.2.2+4294967296^x.1*x.2.1=val (a.take x.1)+val (b.take x.1))
  (fun|(i,c,s)=>[(15,.int .i64 i),(6,.int .u64 c),(5,.sl 1 (s.map (.int .u32)) (.own 0))]) (fun|(_,_,s)=>[(0,.tok 1 s.length)])
  (λx=>m-x.1) (0,0,[]) ?_ (λ_=>rfl) ?_ ?_
 ·exact⟨aO _,ak,Ws.nil,rfl,by simp[val]⟩
 ·exact Zv wk wk
 rintro⟨i,c,s⟩ ⟨hi,hc,hws,hsl,hv⟩ _;simp only at hi hc hws hsl hv;refine ZS ?_ ?_<;>intro h
 ·have hlt:i<m:=aj;have ca:=yC a i;have cb:=yC b i;have hva:=sN (l:=a) (i:=i);have hvb:=sN (l:=b) (i:=i);have hxa:=wa.getD (i:=i);have hxb:=wb.getD (i:=i);generalize a.getD i 0=x0 at *;generalize b.getD i 0=y0 at *;obtain⟨x,rfl⟩:∃x:Nat,x0=x:=⟨x0.toNat,aj⟩;obtain⟨w,rfl⟩:∃x:Nat,y0=x:=⟨y0.toNat,aj⟩;rw[aJ]at hva hvb;refine ZW ?_;refine .gen _ _ (qX.vU ca (rM _) ⟨rfl,rfl⟩) λ_=>ZW ?_;refine .gen _ _ (qX.vU cb (rM _) ⟨rfl,rfl⟩) λ_=>?_;conv=>whnf
  rw[show((x:Int)+(w:Int))=((x+w:Nat):Int)from(iC x w).symm,wrap_u64 (n:=((x+w:Nat):Int)) aj aj];rw[show(((x+w:Nat):Int)+(c:Int))=((x+w+c:Nat):Int)from(iC (x+w) c).symm,wrap_u64 (n:=((x+w+c:Nat):Int)) aj aj];obtain⟨D,hD⟩:∃D,x+w+c=D:=⟨_,rfl⟩;rw[hD];conv=>whnf
  rw[vM (a:=D)];refine⟨by rw[aC],?_⟩;refine⟨by simp[maxL];omega,aA,?_⟩;conv=>whnf
  refine⟨au,?_⟩;rw[Dv rfl];conv=>whnf
  refine ZG ?_;refine⟨(i+1,D / 4294967296,s++[((D % 4294967296:Nat):Int)]),?_,?_,?_⟩;{refine⟨hlt,(by omega:D / 4294967296<=1),hws.append (Ws.cons aj Ws.nil),by simp[hsl],?_⟩;show val (s++[((D % 4294967296:Nat):Int)])+4294967296^(i+1)*(D / 4294967296)=val (a.take (i+1))+val (b.take (i+1));have e1:val (s++[((D % 4294967296:Nat):Int)])=val s+4294967296^i*(D % 4294967296):=(by rw[val_append,hsl];show _+_*((((D % 4294967296:Nat):Int)).toNat+4294967296*0)=_;rw[aJ];rfl);rw[hva,hvb,e1,bU];exact V5 hD hv}
  ·refine Zv ?_ ?_
   ·repeat' first|exact Zq|apply aI
    all_goals first|(refine qY ?_;simp[strip];done)|simp
   repeat' first|exact Zq|apply aI
   all_goals simp
  show m-(i+1)<m-i;omega
 have hil:i=m:=aj;subst hil;rw[bf aj,bf aj]at hv;have hfin:val s=val a+val b:=a2h aj (wJ wa) (wJ wb) aj aj hv;have ct:=yD s aj;rw[hfin]at ct;refine ZW ?_;refine .zW ct ?_;exact ZH
def negR(a:Rat):Rat:=yX (!(qQ a).1) (qQ a).2.1 (qQ a).2.2
def Un(s t:Bool)(x y d:Nat):Rat:=if s=t then yX s (x+y) d else if x<y then yX t (y-x) d else yX s (x-y) d
def J5(a b:Rat):Rat:=Un (qQ a).1 (qQ b).1 ((qQ a).2.1*(qQ b).2.2) ((qQ b).2.1*(qQ a).2.2) ((qQ a).2.2*(qQ b).2.2)
theorem b43(a:Rat)(a1:a.num.length<=100000)(a2:a.den.length<=100000):ZQ 246 [a.av] [] (negR a).av []:=by have ca:=QF a aj aj;refine ZI Tryz.func246 λhok=>?_;have pa:=MZ (yu hok).1 (yu hok).2 aj aj;have qa:=UK (yu hok).1 (yu hok).2 a1 a2;rw[pa.eq]at ca;have cf:=UZ (!(qQ a).1) (qQ a).2.1 (qQ a).2.2 aj aj pa.den;have hm:negR a=yX (!(qQ a).1) (qQ a).2.1 (qQ a).2.2:=rfl;rw[<- hm]at cf;generalize negR a=R at *;refine Z0 ?_;refine .zW ca ?_;refine .zW cf ?_;exact ZH
theorem Rl{x:Nat}:wd x=[]↔x=0:=by constructor;{intro h;apply aU;intro h0;rw[BL h0]at h;cases h};rintro rfl;exact yt
theorem Jw{x y k:Nat}(hx:(wd x).length<=k)(hy:(wd y).length<=k):(wd (x+y)).length<=k+1:=by refine Ee ?_;have h1:=wJ (EH x);have h2:=wJ (EH y);rw[rU]at h1 h2;have h3:4294967296^(wd x).length<=4294967296^k:=bQ aj hx;have h4:4294967296^(wd y).length<=4294967296^k:=bQ aj hy;rw[bU];generalize 4294967296^k=p at *;generalize 4294967296^(wd x).length=q at *;generalize 4294967296^(wd y).length=r at *;omega
theorem b2Z(a b:Rat){A B:Nat}(a1:a.num.length<=A)(a2:a.den.length<=A)(b1:b.num.length<=B)(b2:b.den.length<=B)(hA:1<=A)(hB:1<=B)(hAB:A+B<=35184372088000):ZQ 245 [a.av,b.av] [] (J5 a b).av []:=by
 have ca:=QF a aj aj;have cb:=QF b aj aj;refine ZI Tryz.func245 λhok=>?_;have pa:=UL (yu hok).1 (yu hok).2;have pb:=UL (yu hok.2).1 (yu hok.2).2;have qa:=KY hA (yu hok).1 (yu hok).2 a1 a2;have qb:=KY hB (yu hok.2).1 (yu hok.2).2 b1 b2;rw[pa.2]at ca;rw[pb.2]at cb;have hR:J5 a b=Un (qQ a).1 (qQ b).1 ((qQ a).2.1*(qQ b).2.2) ((qQ b).2.1*(qQ a).2.2) ((qQ a).2.2*(qQ b).2.2):=rfl;have m1:=a3a (wd (qQ a).2.1) (wd (qQ b).2.2) aj;have m2:=a3a (wd (qQ b).2.1) (wd (qQ a).2.2) aj;have m3:=a3a (wd (qQ a).2.2) (wd (qQ b).2.2) aj;rw[rU,rU]at m1 m2 m3;have l1:=vY qa.1 qb.2;have l2:=vY qb.1 qa.2;have l3:=vY qa.2 qb.2;have hne:(qQ a).2.2*(qQ b).2.2≠0:=jX pa.1 pb.1;generalize J5 a b=R at *;generalize (qQ a).2.1*(qQ b).2.2=x at *;generalize (qQ b).2.1*(qQ a).2.2=y at *;generalize (qQ a).2.2*(qQ b).2.2=d at *;rw[lF B A]at l2;have l4:=Jw l1 (dH l2 (aS _));have l5:=sQ (mW x y);have l6:=sQ (mW y x);have cA:=b21 (wd x) (wd y) aj aj;have cC:=a6Y (wd x) (wd y) aj aj;have cS:=a2Y (wd x) (wd y) aj aj _ rfl;have cS2:=a2Y (wd y) (wd x) aj aj _ rfl;rw[rU,rU]at cA cC cS cS2;have cf1:=UZ (qQ a).1 (x+y) d aj aj hne;have cf2:=UZ (qQ a).1 (x-y) d aj aj hne;have cf3:=UZ (qQ b).1 (y-x) d aj aj hne;unfold Un at hR;generalize (qQ a).1=s at *;generalize (qQ b).1=t at *;refine Z0 ?_;refine .zW ca ?_;refine .zW cb ?_;refine .zW m1 ?_;refine .zW m2 ?_;refine .zW m3 ?_;constructor<;>intro hst;{have hst:s=t:=(by simpa using hst);rw[aG hst]at hR;subst hR;refine ZW ?_;refine .zW cA ?_;refine .zW cf1 ?_;exact ZH};have hst:¬s=t:=(by simpa using hst);rw[aB hst]at hR;refine ZW ?_;refine .zW cC ?_;constructor<;>intro hxy
 ·have hlt:x<y:=by
   unfold EX at hxy;split at hxy
   ·assumption
   split at hxy <;> omega
  rw[aG hlt]at hR;subst hR;rw[aB aj]at cS2;refine ZW ?_;refine .zW cS2 ?_;refine .zW cf3 ?_;exact ZH
 have hlt:¬x<y:=(by intro hlt;unfold EX at hxy;rw[aG hlt]at hxy;omega);rw[aB hlt]at hR;subst hR;rw[aB hlt]at cS;refine ZW ?_;refine .zW cS ?_;refine .zW cf2 ?_;exact ZH
def IW(r:Rat):Int:=if(qQ r).2.1=0 then 0 else if(qQ r).1=true then -1 else 1
theorem a1E(a:Rat)(a1:a.num.length<=35184372088320)(a2:a.den.length<=35184372088320):ZQ 173 [a.av] [] (.int .i64 (IW a)) []:=by have ca:=QF a aj aj;have hR:IW a=if(qQ a).2.1=0 then 0 else if(qQ a).1=true then -1 else 1:=rfl;refine ZI Tryz.func173 λhok=>?_;have pa:=UL (yu hok).1 (yu hok).2;rw[pa.2]at ca;have hz:=Rl (x:=(qQ a).2.1);generalize IW a=R at *;generalize (qQ a).2.1=x at *;generalize (qQ a).1=s at *;refine Z0 ?_;refine .zW ca ?_;constructor<;>intro h;{have h0:x=0:=hz.1 (bT (by simpa using h));rw[aG h0]at hR;subst hR;exact ZJ};have h0:¬x=0:=(by intro h0;apply h;rw[hz.2 h0];rfl);rw[aB h0]at hR;refine ZS ?_ ?_<;>intro hs;{rw[aG hs]at hR;subst hR;exact ZJ};rw[aB (by simp[hs])]at hR;subst hR;exact ZJ
abbrev Str:=List UInt8
abbrev sL(l:List Str):AV:=.sl 1 (l.map .str) .no
structure Ev where
 name:Str
 p:Rat
 fail:Rat
 repair:Rat
 cost:Int
 deriving DecidableEq,Inhabited
abbrev Ev.av(x:Ev):AV:=.ag [.str x.name,x.p.av,x.fail.av,x.repair.av,.int .i64 x.cost]
structure Hs where
 name:Str
 on:Bool
 deriving DecidableEq,Inhabited
abbrev Hs.av(x:Hs):AV:=.ag [.str x.name,.bool x.on]
structure Mg where
 name:Str
 kind:Int
 k:Int
 ins:List Str
 y5:Rat
 deriving DecidableEq,Inhabited
abbrev Mg.av(x:Mg):AV:=.ag [.str x.name,.int .i64 x.kind,.int .i64 x.k,sL x.ins,x.y5.av]
abbrev gL(l:List Mg):AV:=.sl 7 (l.map Mg.av) .no
structure Pg where
 name:Str
 top:Str
 gates:List Mg
 deriving DecidableEq,Inhabited
abbrev Pg.av(x:Pg):AV:=.ag [.str x.name,.str x.top,gL x.gates]
structure Gr where
 name:Str
 kind:Int
 mem:List Str
 ES:List Rat
 deriving DecidableEq,Inhabited
abbrev Gr.av(x:Gr):AV:=.ag [.str x.name,.int .i64 x.kind,sL x.mem,.sl 3 (x.ES.map Rat.av) .no]
structure Pv where
 ev:Str
 p:Rat
 deriving DecidableEq,Inhabited
abbrev Pv.av(x:Pv):AV:=.ag [.str x.ev,x.p.av]
structure Ph where
 name:Str
 top:Str
 vals:List Pv
 deriving DecidableEq,Inhabited
abbrev Ph.av(x:Ph):AV:=.ag [.str x.name,.str x.top,.sl 4 (x.vals.map Pv.av) .no]
structure Md where
 name:Str
 top:Str
 evs:List Ev
 hs:List Hs
 gates:List Mg
 pages:List Pg
 Bq:List Gr
 Di:List Ph
 deriving DecidableEq,Inhabited
abbrev Md.av(m:Md):AV:=.ag [.str m.name,.str m.top,.sl 11 (m.evs.map Ev.av) .no,.sl 2 (m.hs.map Hs.av) .no,gL m.gates,.sl 3 (m.pages.map Pg.av) .no,.sl 4 (m.Bq.map Gr.av) .no,.sl 3 (m.Di.map Ph.av) .no]
def Ib(n:Int):Bool:=decide (65<=n/\n<=90)||decide (97<=n/\n<=122)
def Xl(n:Int):Bool:=decide (48<=n/\n<=57)
def RZ(n:Int):Bool:=Ib n||Xl n||decide (n=95)||decide (n=46)
theorem a3c(n:Int):ZQ 135 [.int .u8 n] [] (.bool (Ib n)) []:=by
 refine ZN Tryz.func135 λhok=>?_;repeat' (first|(refine aP (λ_=>?_) (λ_=>?_) <;> ((try dsimp only[UA]);(conv=>whnf))))
 all_goals
  refine ZF ?_;try simp_all [Ib]
 all_goals omega
theorem b3g(n:Int):ZQ 204 [.int .u8 n] [] (.bool (Xl n)) []:=by
 refine ZN Tryz.func204 λhok=>?_;repeat' (first|(refine aP (λ_=>?_) (λ_=>?_) <;> ((try dsimp only[UA]);(conv=>whnf))))
 all_goals
  refine ZF ?_;try simp_all [Xl]
 all_goals omega
def a4I(s:Str):Int:=if zG (λc=>!RZ c.toNat) s<0 then s.length else zG (λc=>!RZ c.toNat) s
def tZ(s:Str):Bool:=decide (0<s.length)&&decide (s.length<=24)&&Ib (s.getD 0 0).toNat&&s.all λc=>RZ c.toNat
theorem a4H(s:Str):a4I s=s.length↔(s.all λc=>RZ c.toNat)=true:=by unfold a4I;rcases zF (λc:UInt8=>!RZ c.toNat) s with⟨h1,h2⟩|⟨i,h,h1,h2,_⟩;{rw[h1,aG aj];refine⟨λ_=>bF.2 λx hx=>by simpa using h2 x hx,λ_=>rfl⟩};rw[h1,aB aj];constructor;{intro h;omega};intro ha;have:=bF.1 ha _ (aQ h);simp[this]at h2
theorem b4a{s:List UInt8}{i:Nat}{k:UInt8->Prop}(h:i<s.length)(hk:k s[i]):DZ s (i:Int) k :=
 ⟨⟨_,⟨aj,by rw[aJ,aH h]⟩,hk⟩⟩
theorem Tq{s:List UInt8}{k:UInt8->Prop}(h:0<s.length)(hk:k (s.getD 0 0)):DZ s 0 k:=by rw[getD_lt h]at hk;exact⟨⟨_,⟨aj,aH h⟩,hk⟩⟩
theorem a6M(s:Str):ZQ 136 [.str s,.int .i64 0] [] (.int .i64 (a4I s)) []:=by refine ZI Tryz.func136 λhok=>?_;have hl:s.length<=9223372036854775807:=(by have:=hok.1;simpa[maxL,Ok]using this);refine Z0 ?_;refine qV.of <| qM.inv (.refl _ _) (fun(i:Nat)=>i<=s.length/\∀(j:Nat) (hj:j<s.length),j<i->RZ s[j].toNat=true) (fun(i:Nat)=>[(1,.int .i64 i)]) (λ_=>_) (fun(i:Nat)=>s.length-i) 0 ?_ (λ_=>rfl) ?_ ?_;{exact⟨aO _,aj⟩};{exact wk};rintro i ⟨hi,hn⟩ _;have fin:i=s.length\/(∃h:i<s.length,RZ s[i].toNat=false)->a4I s=i:=(by unfold a4I;rintro(h|⟨h,hf⟩);{rw[yw λj hj=>by rw[hn j hj aj];rfl,aG aj,h]};rw[wQ h (by rw[hf];rfl) λj hj=>by rw[hn j aj hj];rfl,aB aj]);refine ZS ?_ ?_<;>intro h;{have hlt:i<s.length:=aj;have cl:=a3c s[i].toNat;have cd:=b3g s[i].toNat;have fin:=λh=>fin (.inr ⟨hlt,h⟩);refine ZW ?_;refine b4a hlt ?_;generalize hc:s[i].toNat=c at *;refine ZW ?_;refine .zW cl ?_;constructor<;>intro h1;{refine ZW ?_;refine ZG ?_;refine⟨i+1,?_,?_,?_⟩;{refine⟨hlt,λj hj hji=>?_⟩;by_cases e:j=i;{subst e;show RZ _=true;unfold RZ;rw[hc,h1];rfl};exact hn j hj aj};{exact wk};omega};refine ZW ?_;refine b4a hlt ?_;rw[hc];refine ZW ?_;refine .zW cd ?_;constructor<;>intro h2;{refine ZW ?_;refine ZG ?_;refine⟨i+1,?_,?_,?_⟩;{refine⟨hlt,λj hj hji=>?_⟩;by_cases e:j=i;{subst e;show RZ _=true;unfold RZ;rw[hc,h1,h2];rfl};exact hn j hj aj};{exact wk};omega};refine ZW ?_;refine b4a hlt ?_;rw[hc];refine ZS ?_ ?_<;>intro h3;{refine ZW ?_;refine ZG ?_;refine⟨i+1,?_,?_,?_⟩;{refine⟨hlt,λj hj hji=>?_⟩;by_cases e:j=i;{subst e;show RZ _=true;unfold RZ;rw[hc,h1,h2,h3];rfl};exact hn j hj aj};{exact wk};omega};refine ZW ?_;refine b4a hlt ?_;rw[hc];refine ZS ?_ ?_<;>intro h4;{refine ZW ?_;refine ZG ?_;refine⟨i+1,?_,?_,?_⟩;{refine⟨hlt,λj hj hji=>?_⟩;by_cases e:j=i;{subst e;show RZ _=true;unfold RZ;rw[hc,h1,h2,h4];rfl};exact hn j hj aj};{exact wk};omega};rw[fin (by unfold RZ;rw[h1,h2,bK h3,bK h4];rfl)];exact ZJ};have hil:i=s.length:=aj;rw[fin (.inl hil)];exact ZJ
theorem Bh(s:Str):ZQ 74 [.str s] [] (.bool (tZ s)) []:=by have cl:=a3c (s.getD 0 0).toNat;have cw:=a6M s;have hw:=a4H s;refine ZN Tryz.func74 λhok=>?_;constructor<;>intro h1;{have h1:0<s.length:=aj;refine ZS ?_ ?_<;>intro h2;{have h2:s.length<=24:=aj;refine ZW ?_;refine Tq h1 (ZW ?_);refine .zW cl ?_;constructor<;>intro h3;{refine ZW ?_;refine .zW cw ?_;refine ZF ?_;rw[hw];simp only[tZ,h1,h2,h3,decide_true,jv]};refine ZW ?_;refine ZF ?_;simp only[tZ,h3,lJ,Bool.false_and];all_goals exact wk};have h2:¬s.length<=24:=aj;refine ZW ?_;refine ZF ?_;simp[tZ,h2]};have h1:¬0<s.length:=aj;refine ZW ?_;refine ZF ?_;simp[tZ,h1]
theorem XR(l:List Ev)(g:Nat)(cap:List AV)(p:Ev->Bool)(H:Heap)(hg:∀x∈l,ZQ g (x.av::cap) H (.bool (p x)) H) :
  ZQ 104 [.sl 11 (l.map Ev.av) .no,.fn g cap] H (.int .i64 (zG p l)) H:=by
 refine ZI Tryz.func104 λhok=>?_;have hl:l.length<=9223372036854775807:=(by have:=hok.1.1;simpa[maxL]using this);refine Z0 ?_;refine qV.of <| qM.inv (.refl _ _) (fun(i:Nat)=>i<=l.length/\∀(j:Nat) (hj:j<l.length),j<i->p l[j]=false) (fun(i:Nat)=>[(8,.int .i64 i)]) (λ_=>_) (fun(i:Nat)=>l.length-i) 0 ?_ (λ_=>rfl) ?_ ?_;{exact⟨aO _,aj⟩};{exact wk};rintro i ⟨hi,hn⟩ _;refine ZS ?_ ?_<;>intro h
 ·have hlt:i<l.length:=(by simpa using h);refine ZW ?_;refine rV hlt (ZW ?_);refine .gen _ _ (hg _ (aQ hlt)) λ_=>?_;refine ZS ?_ ?_<;>intro h
  ·refine ZW ?_
   (refine uZ.same ?_;(conv=>whnf);refine⟨?_,rfl⟩;(conv=>whnf))
   exact⟨rfl,(wQ hlt h λj hj=>hn j aj hj).symm⟩
  refine ZW ?_;refine ZG ?_;refine⟨i+1,?_,?_,?_⟩;{refine⟨hlt,λj hj hji=>?_⟩;by_cases Lp:j=i;{subst Lp;exact h};exact hn j hj aj};{exact wk};omega
 have hlt:i=l.length:=(by have:¬i<l.length:=(by simpa using h);omega);subst hlt;refine ZW ?_
 (refine uZ.same ?_;(conv=>whnf);refine⟨?_,rfl⟩;(conv=>whnf))
 exact⟨rfl,(yw λj hj=>hn j hj hj).symm⟩
theorem XQ(l:List Hs)(g:Nat)(cap:List AV)(p:Hs->Bool)(H:Heap)(hg:∀x∈l,ZQ g (x.av::cap) H (.bool (p x)) H) :
  ZQ 206 [.sl 2 (l.map Hs.av) .no,.fn g cap] H (.int .i64 (zG p l)) H:=by
 refine ZI Tryz.func206 λhok=>?_;have hl:l.length<=9223372036854775807:=(by have:=hok.1.1;simpa[maxL]using this);refine Z0 ?_;refine qV.of <| qM.inv (.refl _ _) (fun(i:Nat)=>i<=l.length/\∀(j:Nat) (hj:j<l.length),j<i->p l[j]=false) (fun(i:Nat)=>[(8,.int .i64 i)]) (λ_=>_) (fun(i:Nat)=>l.length-i) 0 ?_ (λ_=>rfl) ?_ ?_;{exact⟨aO _,aj⟩};{exact wk};rintro i ⟨hi,hn⟩ _;refine ZS ?_ ?_<;>intro h
 ·have hlt:i<l.length:=(by simpa using h);refine ZW ?_;refine rV hlt (ZW ?_);refine .gen _ _ (hg _ (aQ hlt)) λ_=>?_;refine ZS ?_ ?_<;>intro h
  ·refine ZW ?_
   (refine uZ.same ?_;(conv=>whnf);refine⟨?_,rfl⟩;(conv=>whnf))
   exact⟨rfl,(wQ hlt h λj hj=>hn j aj hj).symm⟩
  refine ZW ?_;refine ZG ?_;refine⟨i+1,?_,?_,?_⟩;{refine⟨hlt,λj hj hji=>?_⟩;by_cases Lp:j=i;{subst Lp;exact h};exact hn j hj aj};{exact wk};omega
 have hlt:i=l.length:=(by have:¬i<l.length:=(by simpa using h);omega);subst hlt;refine ZW ?_
 (refine uZ.same ?_;(conv=>whnf);refine⟨?_,rfl⟩;(conv=>whnf))
 exact⟨rfl,(yw λj hj=>hn j hj hj).symm⟩
theorem XP(l:List Mg)(g:Nat)(cap:List AV)(p:Mg->Bool)(H:Heap)(hg:∀x∈l,ZQ g (x.av::cap) H (.bool (p x)) H) :
  ZQ 210 [.sl 7 (l.map Mg.av) .no,.fn g cap] H (.int .i64 (zG p l)) H:=by
 refine ZI Tryz.func210 λhok=>?_;have hl:l.length<=9223372036854775807:=(by have:=hok.1.1;simpa[maxL]using this);refine Z0 ?_;refine qV.of <| qM.inv (.refl _ _) (fun(i:Nat)=>i<=l.length/\∀(j:Nat) (hj:j<l.length),j<i->p l[j]=false) (fun(i:Nat)=>[(8,.int .i64 i)]) (λ_=>_) (fun(i:Nat)=>l.length-i) 0 ?_ (λ_=>rfl) ?_ ?_;{exact⟨aO _,aj⟩};{exact wk};rintro i ⟨hi,hn⟩ _;refine ZS ?_ ?_<;>intro h
 ·have hlt:i<l.length:=(by simpa using h);refine ZW ?_;refine rV hlt (ZW ?_);refine .gen _ _ (hg _ (aQ hlt)) λ_=>?_;refine ZS ?_ ?_<;>intro h
  ·refine ZW ?_
   (refine uZ.same ?_;(conv=>whnf);refine⟨?_,rfl⟩;(conv=>whnf))
   exact⟨rfl,(wQ hlt h λj hj=>hn j aj hj).symm⟩
  refine ZW ?_;refine ZG ?_;refine⟨i+1,?_,?_,?_⟩;{refine⟨hlt,λj hj hji=>?_⟩;by_cases Lp:j=i;{subst Lp;exact h};exact hn j hj aj};{exact wk};omega
 have hlt:i=l.length:=(by have:¬i<l.length:=(by simpa using h);omega);subst hlt;refine ZW ?_
 (refine uZ.same ?_;(conv=>whnf);refine⟨?_,rfl⟩;(conv=>whnf))
 exact⟨rfl,(yw λj hj=>hn j hj hj).symm⟩
theorem a3d(l:List Pg)(g:Nat)(cap:List AV)(p:Pg->Bool)(H:Heap)(hg:∀x∈l,ZQ g (x.av::cap) H (.bool (p x)) H) :
  ZQ 208 [.sl 3 (l.map Pg.av) .no,.fn g cap] H (.int .i64 (zG p l)) H:=by
 refine ZI Tryz.func208 λhok=>?_;have hl:l.length<=9223372036854775807:=(by have:=hok.1.1;simpa[maxL]using this);refine Z0 ?_;refine qV.of <| qM.inv (.refl _ _) (fun(i:Nat)=>i<=l.length/\∀(j:Nat) (hj:j<l.length),j<i->p l[j]=false) (fun(i:Nat)=>[(8,.int .i64 i)]) (λ_=>_) (fun(i:Nat)=>l.length-i) 0 ?_ (λ_=>rfl) ?_ ?_;{exact⟨aO _,aj⟩};{exact wk};rintro i ⟨hi,hn⟩ _;refine ZS ?_ ?_<;>intro h
 ·have hlt:i<l.length:=(by simpa using h);refine ZW ?_;refine rV hlt (ZW ?_);refine .gen _ _ (hg _ (aQ hlt)) λ_=>?_;refine ZS ?_ ?_<;>intro h
  ·refine ZW ?_
   (refine uZ.same ?_;(conv=>whnf);refine⟨?_,rfl⟩;(conv=>whnf))
   exact⟨rfl,(wQ hlt h λj hj=>hn j aj hj).symm⟩
  refine ZW ?_;refine ZG ?_;refine⟨i+1,?_,?_,?_⟩;{refine⟨hlt,λj hj hji=>?_⟩;by_cases Lp:j=i;{subst Lp;exact h};exact hn j hj aj};{exact wk};omega
 have hlt:i=l.length:=(by have:¬i<l.length:=(by simpa using h);omega);subst hlt;refine ZW ?_
 (refine uZ.same ?_;(conv=>whnf);refine⟨?_,rfl⟩;(conv=>whnf))
 exact⟨rfl,(yw λj hj=>hn j hj hj).symm⟩
theorem a9W(l:List Gr)(g:Nat)(cap:List AV)(p:Gr->Bool)(H:Heap)(hg:∀x∈l,ZQ g (x.av::cap) H (.bool (p x)) H) :
  ZQ 145 [.sl 4 (l.map Gr.av) .no,.fn g cap] H (.int .i64 (zG p l)) H:=by
 refine ZI Tryz.func145 λhok=>?_;have hl:l.length<=9223372036854775807:=(by have:=hok.1.1;simpa[maxL]using this);refine Z0 ?_;refine qV.of <| qM.inv (.refl _ _) (fun(i:Nat)=>i<=l.length/\∀(j:Nat) (hj:j<l.length),j<i->p l[j]=false) (fun(i:Nat)=>[(8,.int .i64 i)]) (λ_=>_) (fun(i:Nat)=>l.length-i) 0 ?_ (λ_=>rfl) ?_ ?_;{exact⟨aO _,aj⟩};{exact wk};rintro i ⟨hi,hn⟩ _;refine ZS ?_ ?_<;>intro h
 ·have hlt:i<l.length:=(by simpa using h);refine ZW ?_;refine rV hlt (ZW ?_);refine .gen _ _ (hg _ (aQ hlt)) λ_=>?_;refine ZS ?_ ?_<;>intro h
  ·refine ZW ?_
   (refine uZ.same ?_;(conv=>whnf);refine⟨?_,rfl⟩;(conv=>whnf))
   exact⟨rfl,(wQ hlt h λj hj=>hn j aj hj).symm⟩
  refine ZW ?_;refine ZG ?_;refine⟨i+1,?_,?_,?_⟩;{refine⟨hlt,λj hj hji=>?_⟩;by_cases Lp:j=i;{subst Lp;exact h};exact hn j hj aj};{exact wk};omega
 have hlt:i=l.length:=(by have:¬i<l.length:=(by simpa using h);omega);subst hlt;refine ZW ?_
 (refine uZ.same ?_;(conv=>whnf);refine⟨?_,rfl⟩;(conv=>whnf))
 exact⟨rfl,(yw λj hj=>hn j hj hj).symm⟩
theorem a9V(l:List Ph)(g:Nat)(cap:List AV)(p:Ph->Bool)(H:Heap)(hg:∀x∈l,ZQ g (x.av::cap) H (.bool (p x)) H) :
  ZQ 148 [.sl 3 (l.map Ph.av) .no,.fn g cap] H (.int .i64 (zG p l)) H:=by
 refine ZI Tryz.func148 λhok=>?_;have hl:l.length<=9223372036854775807:=(by have:=hok.1.1;simpa[maxL]using this);refine Z0 ?_;refine qV.of <| qM.inv (.refl _ _) (fun(i:Nat)=>i<=l.length/\∀(j:Nat) (hj:j<l.length),j<i->p l[j]=false) (fun(i:Nat)=>[(8,.int .i64 i)]) (λ_=>_) (fun(i:Nat)=>l.length-i) 0 ?_ (λ_=>rfl) ?_ ?_;{exact⟨aO _,aj⟩};{exact wk};rintro i ⟨hi,hn⟩ _;refine ZS ?_ ?_<;>intro h
 ·have hlt:i<l.length:=(by simpa using h);refine ZW ?_;refine rV hlt (ZW ?_);refine .gen _ _ (hg _ (aQ hlt)) λ_=>?_;refine ZS ?_ ?_<;>intro h
  ·refine ZW ?_
   (refine uZ.same ?_;(conv=>whnf);refine⟨?_,rfl⟩;(conv=>whnf))
   exact⟨rfl,(wQ hlt h λj hj=>hn j aj hj).symm⟩
  refine ZW ?_;refine ZG ?_;refine⟨i+1,?_,?_,?_⟩;{refine⟨hlt,λj hj hji=>?_⟩;by_cases Lp:j=i;{subst Lp;exact h};exact hn j hj aj};{exact wk};omega
 have hlt:i=l.length:=(by have:¬i<l.length:=(by simpa using h);omega);subst hlt;refine ZW ?_
 (refine uZ.same ?_;(conv=>whnf);refine⟨?_,rfl⟩;(conv=>whnf))
 exact⟨rfl,(yw λj hj=>hn j hj hj).symm⟩
theorem a9U(l:List Pv)(g:Nat)(cap:List AV)(p:Pv->Bool)(H:Heap)(hg:∀x∈l,ZQ g (x.av::cap) H (.bool (p x)) H) :
  ZQ 150 [.sl 4 (l.map Pv.av) .no,.fn g cap] H (.int .i64 (zG p l)) H:=by
 refine ZI Tryz.func150 λhok=>?_;have hl:l.length<=9223372036854775807:=(by have:=hok.1.1;simpa[maxL]using this);refine Z0 ?_;refine qV.of <| qM.inv (.refl _ _) (fun(i:Nat)=>i<=l.length/\∀(j:Nat) (hj:j<l.length),j<i->p l[j]=false) (fun(i:Nat)=>[(8,.int .i64 i)]) (λ_=>_) (fun(i:Nat)=>l.length-i) 0 ?_ (λ_=>rfl) ?_ ?_;{exact⟨aO _,aj⟩};{exact wk};rintro i ⟨hi,hn⟩ _;refine ZS ?_ ?_<;>intro h
 ·have hlt:i<l.length:=(by simpa using h);refine ZW ?_;refine rV hlt (ZW ?_);refine .gen _ _ (hg _ (aQ hlt)) λ_=>?_;refine ZS ?_ ?_<;>intro h
  ·refine ZW ?_
   (refine uZ.same ?_;(conv=>whnf);refine⟨?_,rfl⟩;(conv=>whnf))
   exact⟨rfl,(wQ hlt h λj hj=>hn j aj hj).symm⟩
  refine ZW ?_;refine ZG ?_;refine⟨i+1,?_,?_,?_⟩;{refine⟨hlt,λj hj hji=>?_⟩;by_cases Lp:j=i;{subst Lp;exact h};exact hn j hj aj};{exact wk};omega
 have hlt:i=l.length:=(by have:¬i<l.length:=(by simpa using h);omega);subst hlt;refine ZW ?_
 (refine uZ.same ?_;(conv=>whnf);refine⟨?_,rfl⟩;(conv=>whnf))
 exact⟨rfl,(yw λj hj=>hn j hj hj).symm⟩
def sH(l:List Ev)(s:Str):Int:=zG (λx=>decide (x.name=s)) l
theorem a98(x:Ev)(s:Str)(m:Md):ZQ 105 [x.av,.ptr 1 [] 0] [(1,.box (.str s)),(0,.box m.av)] (.bool (decide (x.name=s))) [(1,.box (.str s)),(0,.box m.av)]:=by
 refine ZN Tryz.func105 λhok=>?_;refine⟨⟨_,_,.refl _ _,?_⟩⟩;conv=>whnf
 refine Zx ?_ ?_;{show _↔_;simp};exact wk
theorem JX(m:Md)(s:Str):ZQ 47 [m.av,.str s] [] (.int .i64 (sH m.evs s)) []:=by refine ZN Tryz.func47 λhok=>?_;refine .gen _ _ (XR m.evs 105 [.ptr 1 [] 0] (λx=>decide (x.name=s)) _ λx _=>a98 x s m) λ_=>?_;exact ZJ
def uM(l:List Hs)(s:Str):Int:=zG (λx=>decide (x.name=s)) l
theorem a97(x:Hs)(s:Str)(m:Md):ZQ 207 [x.av,.ptr 1 [] 0] [(1,.box (.str s)),(0,.box m.av)] (.bool (decide (x.name=s))) [(1,.box (.str s)),(0,.box m.av)]:=by
 refine ZN Tryz.func207 λhok=>?_;refine⟨⟨_,_,.refl _ _,?_⟩⟩;conv=>whnf
 refine Zx ?_ ?_;{show _↔_;simp};exact wk
theorem U0(m:Md)(s:Str):ZQ 138 [m.av,.str s] [] (.int .i64 (uM m.hs s)) []:=by refine ZN Tryz.func138 λhok=>?_;refine .gen _ _ (XQ m.hs 207 [.ptr 1 [] 0] (λx=>decide (x.name=s)) _ λx _=>a97 x s m) λ_=>?_;exact ZJ
def tK(l:List Pg)(s:Str):Int:=zG (λx=>decide (x.name=s)) l
theorem b3p(x:Pg)(s:Str)(m:Md):ZQ 209 [x.av,.ptr 1 [] 0] [(1,.box (.str s)),(0,.box m.av)] (.bool (decide (x.name=s))) [(1,.box (.str s)),(0,.box m.av)]:=by
 refine ZN Tryz.func209 λhok=>?_;refine⟨⟨_,_,.refl _ _,?_⟩⟩;conv=>whnf
 refine Zx ?_ ?_;{show _↔_;simp};exact wk
theorem a7b(m:Md)(s:Str):ZQ 139 [m.av,.str s] [] (.int .i64 (tK m.pages s)) []:=by refine ZN Tryz.func139 λhok=>?_;refine .gen _ _ (a3d m.pages 209 [.ptr 1 [] 0] (λx=>decide (x.name=s)) _ λx _=>b3p x s m) λ_=>?_;exact ZJ
def uU(l:List Mg)(s:Str):Int:=zG (λx=>decide (x.name=s)) l
theorem b3q(x:Mg)(s:Str):ZQ 211 [x.av,.ptr 0 [] 0] [(0,.box (.str s))] (.bool (decide (x.name=s))) [(0,.box (.str s))]:=by
 refine ZN Tryz.func211 λhok=>?_;refine⟨⟨_,_,.refl _ _,?_⟩⟩;conv=>whnf
 refine Zx ?_ ?_;{show _↔_;simp};exact wk
theorem a3e(l:List Mg)(s:Str):ZQ 141 [gL l,.str s] [] (.int .i64 (uU l s)) []:=by refine ZN Tryz.func141 λhok=>?_;refine .gen _ _ (XP l 211 [.ptr 0 [] 0] (λx=>decide (x.name=s)) _ λx _=>b3q x s) λ_=>?_;exact ZJ
def qN(m:Md)(at_:Int):List Mg:=if at_ = -1 then m.gates else(m.pages.getD at_.toNat default).gates
theorem Gu(m:Md)(a:Int)(h:a = -1\/(0<=a/\a<(m.pages.length:Int))):ZQ 140 [m.av,.int .i64 a] [] (gL (qN m a)) []:=by refine ZN Tryz.func140 λhok=>?_;constructor<;>intro h1;{rw[show qN m a=m.gates from aG h1];exact ZJ};rw[show qN m a=(m.pages.getD a.toNat default).gates from aB h1];refine ZW ?_;refine sK default aj ?_;exact ZJ
def Dw(x:Rat):Bool:=valid x&&decide (0<=sign x)
theorem b0X(x:Rat)(hx:Px x):ZQ 137 [x.av] [] (.bool (Dw x)) []:=by refine ZN Tryz.func137 λhok=>?_;refine .zW hx.v ?_;constructor<;>intro h1;{refine ZW ?_;refine .zW hx.s ?_;refine ZF ?_;simp[Dw,h1]};refine ZW ?_;refine ZF ?_;simp[Dw,h1]
def Ed(s:Str):Bool:=decide (0<s.length)&&decide (((s.getD 0 0).toNat:Int)=64)
def vN(m:Md)(a:Int)(s:Str):Bool:=if Ed s=true then decide (0<=tK m.pages (s.drop 1))else
 decide (0<=sH m.evs s)||decide (0<=uM m.hs s)||decide (0<=uU (qN m a) s)
theorem b4X{s:Str}:(s.drop (1:Int).toNat).take ((s.length:Int).toNat-(1:Int).toNat)=s.drop 1:=by rw[bf ak];rfl
theorem Ny(m:Md)(a:Int)(s:Str)(h:a = -1\/(0<=a/\a<(m.pages.length:Int))):ZQ 79 [m.av,.int .i64 a,.str s] [] (.bool (vN m a s)) []:=by have cp:=a7b m (s.drop 1);have ce:=JX m s;have ch:=U0 m s;have cg:=a3e (qN m a) s;have cG:=Gu m a h;refine ZN Tryz.func79 λhok=>?_;constructor<;>intro h1;{have h1:0<s.length:=aj;refine ZW ?_;refine Tq h1 ?_;refine ZS ?_ ?_<;>intro h2;{have e:vN m a s=decide (0<=tK m.pages (s.drop 1)):=aG (by simp only[Ed,h1,h2,decide_true,jv]);rw[e];refine ZW ?_;refine ZR ?_;refine⟨⟨aj,aj,aj⟩,?_⟩;rw[b4X];refine ZW ?_;refine .zW cp ?_;refine ZF ?_;show _↔_;simp};have e:Ed s=false:=(by simp only[Ed,bK h2,lJ]);have e:vN m a s=(decide (0<=sH m.evs s)||decide (0<=uM m.hs s)||decide (0<=uU (qN m a) s)):=aB (by rw[e];simp);rw[e];refine ZW ?_;refine .zW ce ?_;constructor<;>intro h3;{refine ZW ?_;refine ZF ?_;simp[h3]};refine ZW ?_;refine .zW ch ?_;constructor<;>intro h4;{refine ZW ?_;refine ZF ?_;simp[h4]};refine ZW ?_;refine .zW cG ?_;refine .zW cg ?_;refine ZF ?_;simp[h3,h4]};have e:Ed s=false:=(by simp only[Ed];rw[bK aj];rfl);have e:vN m a s=(decide (0<=sH m.evs s)||decide (0<=uM m.hs s)||decide (0<=uU (qN m a) s)):=aB (by rw[e];simp);rw[e];refine ZW ?_;refine .zW ce ?_;constructor<;>intro h3;{refine ZW ?_;refine ZF ?_;simp[h3]};refine ZW ?_;refine .zW ch ?_;constructor<;>intro h4;{refine ZW ?_;refine ZF ?_;simp[h4]};refine ZW ?_;refine .zW cG ?_;refine .zW cg ?_;refine ZF ?_;simp[h3,h4]
end S