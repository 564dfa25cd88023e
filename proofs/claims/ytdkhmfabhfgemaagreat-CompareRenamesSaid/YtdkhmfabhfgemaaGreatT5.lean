/-
  Contracts of functions of the program. Nothing is assumed.
-/
import Derived.Test.YtdkhmfabhfgemaaGreatT4
open Go Go.AL Go.Proofs
namespace S
set_option maxRecDepth 100000
theorem yE(a:List Int)(hsz:a.length<=35184372088832):ZQ 176 [wL a] [] (wL (wd (val a))) []:=by
 refine ZI Tryz.func176 λhok=>?_;have hl:a.length<=9223372036854775807:=(by simpa[KH,Ok,maxL]using hok.1.1);have hw:Ws a:=Ws.ok hok.1.2;conv=>whnf
 refine qW.of <| qN.inv (.refl _ _) (fun(n:Nat)=>n<=a.length/\∀k,n<=k->a.getD k 0=0) (fun(n:Nat)=>[(3,.int .i64 n)]) (λ_=>_) (fun(n:Nat)=>n) a.length ?_ (λ_=>rfl) ?_ ?_;{exact⟨aT _,λk hk=>by rw[aF,gq hk];rfl⟩}
 ·repeat' first|exact Zq|apply aI
  simp
 rintro n ⟨hn,hz⟩ _;have fin:(n=0\/a.getD (n-1) 0≠0)->a.take n=wd (val a):=a04 hw hn hz;have cut:a.take n=wd (val a)->((a.map (AV.int .u32)).drop (0:Int).toNat).take ((n:Int).toNat-(0:Int).toNat)=(wd (val a)).map (AV.int .u32):=by intro e;rw[<- e];simp
 have hll:a.take n=wd (val a)->(wd (val a)).length<=a.length:=(by intro e;rw[<- e];simp;omega);conv=>whnf
 constructor<;>intro h
 ·conv=>whnf
  refine ZG ?_;refine vH 0 (i:=n-1) aj aj ?_;conv=>whnf
  constructor<;>intro h0
  ·(conv=>whnf);refine ZG ?_
   refine⟨n-1,?_,?_,?_⟩;{refine⟨aj,λk hk=>?_⟩;by_cases hkn:k=n-1;{subst hkn;exact h0};exact hz k aj}
   ·repeat' first|exact Zq|apply aI
    omega
   omega
  have e:=fin (.inr h0);have hlen:=hll e;conv=>whnf
  refine⟨⟨aj,aj,aA⟩,?_⟩;rw[cut e];conv=>whnf
  refine .tok (by simp[maxL];omega) aA ?_;conv=>whnf
  refine ZF ?_;exact⟨rfl,qY ak⟩
 have e:=fin (.inl aj);have hlen:=hll e;conv=>whnf
 refine⟨⟨aj,aj,aA⟩,?_⟩;rw[cut e];conv=>whnf
 refine .tok (by simp[maxL];omega) aA ?_;conv=>whnf
 refine ZF ?_;exact⟨rfl,qY ak⟩
theorem yD(a:List Int)(i:Nat):ZQ 178 [wL a,.int .i64 i] [] (.int .u64 (a.getD i 0)) []:=by
 refine ZI Tryz.func178 λhok=>?_;have hw:Ws a:=Ws.ok hok.1.2;conv=>whnf
 constructor<;>intro h
 ·have h:i<a.length:=(by simp only[aC]at h;omega);conv=>whnf
  refine vH 0 rfl h ?_;conv=>whnf
  refine ZF ?_;have:=hw.getD (i:=i);exact⟨rfl,wrap_u64 aj aj⟩
 have h:a.length<=i:=(by simp only[aC]at h;omega);conv=>whnf
 refine ZF ?_;refine⟨rfl,?_⟩;rw[aF,gq h];rfl
theorem a5z:ZQ 54 [.int .i64 1] [] (wL [1,0]) []:=by refine ZI Tryz.func54 λhok=>?_;refine ZU ?_;refine ZF ?_;exact⟨rfl,⟨rfl,ay⟩,⟨rfl,ay⟩,trivial⟩
theorem b0M:ZQ 107 [wL [1,0]] [] (.int .i64 1) []:=by refine ZI Tryz.func107 λhok=>?_;refine ZU ?_;refine ZF ?_;exact⟨rfl,ay⟩
theorem b1Y:ZQ 177 [wL [1],.int .i64 31] [] (wL [2147483648]) []:=by have ct:=yE [2147483648,0] au;rw[show wd (val [2147483648,0])=[2147483648]from by decide +kernel]at ct;refine ZI Tryz.func177 λhok=>?_;refine ZU ?_;refine .zR ct ?_;exact ZH
theorem b6s:ZQ 177 [wL [1,0],.int .i64 31] [] (wL [2147483648]) []:=by have ct:=yE [2147483648,0,0] au;rw[show wd (val [2147483648,0,0])=[2147483648]from by decide +kernel]at ct;refine ZI Tryz.func177 λhok=>?_;refine ZU ?_;refine .zR ct ?_;exact ZH
theorem b2b:ZQ 180 [wL [2147483648],wL [2147483648]] [] (.int .i64 0) []:=by have cw:=yD [2147483648] 0;refine ZI Tryz.func180 λhok=>?_;refine ZU ?_;refine .zR cw ?_;refine .zR cw ?_;refine .zR cw ?_;refine .zR cw ?_;refine ZF ?_;exact⟨rfl,rfl⟩
theorem b4A:ZQ 181 [wL [2147483648],wL [2147483648]] [] (.uy [wL [],.int .i64 0]) []:=by have cw:=yD [2147483648] 0;have ct:=yE [0] au;rw[show wd (val [0])=[]from by decide +kernel]at ct;refine ZI Tryz.func181 λhok=>?_;refine ZU ?_;refine .zR b2b ?_;refine .zR cw ?_;refine .zR cw ?_;refine .zR ct ?_;exact ZH
theorem b0L:ZQ 182 [wL [],.int .i64 31] [] (wL []) []:=by have ct:=yE [] au;rw[show wd (val [])=[]from by decide +kernel]at ct;refine ZI Tryz.func182 λhok=>?_;refine ZU ?_;refine .zR ct ?_;exact ZH
theorem b4B:ZQ 179 [wL [2147483648],wL [1]] [] (wL [2147483648]) []:=by
 have cw0:=yD [1] 0;have cw1:=yD [1] 1;have ct:=yE [2147483648,0,0] au;rw[show wd (val [2147483648,0,0])=[2147483648]from by decide +kernel]at ct;refine ZI Tryz.func179 λhok=>?_;refine ZU ?_;refine IX.pure _ _ ?_ ⟨rfl,rfl⟩ (cw0) ?_
 ·(repeat' (first|exact trivial|refine aI ?_ ?_|decide +kernel|exact rfl))
 refine ZU ?_;refine IX.pure _ _ ?_ ⟨rfl,rfl⟩ (cw1) ?_
 ·(repeat' (first|exact trivial|refine aI ?_ ?_|decide +kernel|exact rfl))
 refine ZU ?_;refine .gen _ _ (qZ.YN 0 rfl rfl ay (qZ.vX (ct) ?_ ⟨rfl,rfl⟩)) λ_=>?_
 ·(repeat' (first|exact trivial|refine aI ?_ ?_|decide +kernel|exact rfl))
 refine ZU ?_;exact ZH
theorem b2a:ZQ 109 [wL [1],wL [1]] [] (.uy [wL [1],wL [],.int .i64 0]) []:=by
 have cw0:=yD [2147483648] 0;have cw1:=yD [2147483648] 1;have ct1:=yE [1] au;rw[show wd (val [1])=[1]from by decide +kernel]at ct1;have ct2:=yE [2147483648] au;rw[show wd (val [2147483648])=[2147483648]from by decide +kernel]at ct2;refine ZI Tryz.func109 λhok=>?_;conv=>whnf
 refine .zR ct1 ?_;refine .pure _ _ ?_ ⟨rfl,rfl⟩ (b1Y) λ_=>?_
 ·(repeat' (first|exact trivial|refine aI ?_ ?_|decide +kernel|exact rfl))
 conv=>whnf
 refine .pure _ _ ?_ ⟨rfl,rfl⟩ (b1Y) λ_=>?_
 ·(repeat' (first|exact trivial|refine aI ?_ ?_|decide +kernel|exact rfl))
 conv=>whnf
 refine xG.mk ⟨[true,true,false,true,true,true,true,true,true,true,true,true,true,true,true],by kernel_rfl,?_⟩;conv=>whnf
 refine aQ ay (.wr ?_);conv=>whnf
 refine aQ (rW ay ay) ?_;conv=>whnf
 refine aQ (rW ay ay) ?_;conv=>whnf
 refine b1C.mk ⟨ay,?_⟩;conv=>whnf
 refine Oq.pure ay ay ⟨rfl,?_⟩;refine ZU ?_;refine .zR ct2 ?_;refine .zR cw1 ?_;refine .zR cw0 ?_;refine .zR cw0 ?_;refine .zR b4B ?_;refine .zR b2b ?_;refine .zR b4A ?_;refine .gen _ _ (qZ.YN 0 rfl rfl ay (qZ.vX (ct1) ?_ ⟨rfl,rfl⟩)) λ_=>?_
 ·(repeat' (first|exact trivial|refine aI ?_ ?_|decide +kernel|exact rfl))
 refine ZU ?_;refine .zR b0L ?_;refine ZF ?_
 (repeat' (first|exact trivial|refine aI ?_ ?_|decide +kernel|exact rfl))
theorem a2r:ZQ 109 [wL [1,0],wL [1]] [] (.uy [wL [1],wL [],.int .i64 0]) []:=by
 have cw0:=yD [2147483648] 0;have cw1:=yD [2147483648] 1;have ct1:=yE [1] au;rw[show wd (val [1])=[1]from by decide +kernel]at ct1;have ct2:=yE [2147483648] au;rw[show wd (val [2147483648])=[2147483648]from by decide +kernel]at ct2;refine ZI Tryz.func109 λhok=>?_;conv=>whnf
 refine .zR ct1 ?_;refine .pure _ _ ?_ ⟨rfl,rfl⟩ (b6s) λ_=>?_
 ·(repeat' (first|exact trivial|refine aI ?_ ?_|decide +kernel|exact rfl))
 conv=>whnf
 refine .pure _ _ ?_ ⟨rfl,rfl⟩ (b1Y) λ_=>?_
 ·(repeat' (first|exact trivial|refine aI ?_ ?_|decide +kernel|exact rfl))
 conv=>whnf
 refine xG.mk ⟨[true,true,false,true,true,true,true,true,true,true,true,true,true,true,true],by kernel_rfl,?_⟩;conv=>whnf
 refine aQ ay (.wr ?_);conv=>whnf
 refine aQ (rW ay ay) ?_;conv=>whnf
 refine aQ (rW ay ay) ?_;conv=>whnf
 refine b1C.mk ⟨ay,?_⟩;conv=>whnf
 refine Oq.pure ay ay ⟨rfl,?_⟩;refine ZU ?_;refine .zR ct2 ?_;refine .zR cw1 ?_;refine .zR cw0 ?_;refine .zR cw0 ?_;refine .zR b4B ?_;refine .zR b2b ?_;refine .zR b4A ?_;refine .gen _ _ (qZ.YN 0 rfl rfl ay (qZ.vX (ct1) ?_ ⟨rfl,rfl⟩)) λ_=>?_
 ·(repeat' (first|exact trivial|refine aI ?_ ?_|decide +kernel|exact rfl))
 refine ZU ?_;refine .zR b0L ?_;refine ZF ?_
 (repeat' (first|exact trivial|refine aI ?_ ?_|decide +kernel|exact rfl))
theorem b6t:ZQ 108 [wL [1,0],wL [1,0]] [] (wL [1]) []:=by
 have ct:=yE [1,0] au;rw[show wd (val [1,0])=[1]from by decide +kernel]at ct;refine ZI Tryz.func108 λhok=>?_;conv=>whnf
 refine .zR ct ?_;refine .zR ct ?_;refine .zR b2a ?_;refine ZF ?_
 (repeat' (first|exact trivial|refine aI ?_ ?_|decide +kernel|exact rfl))
theorem b4E:ZQ 53 [.bool false,wL [1,0],wL [1,0]] [] (.uy [Rat.av ⟨false,[1],[1]⟩,.int .i64 0]) []:=by
 refine ZI Tryz.func53 λhok=>?_;conv=>whnf
 refine .zR b0M ?_;refine .zR b0M ?_;refine .zR b6t ?_;refine .zR a2r ?_;refine .zR a2r ?_;refine ZF ?_
 (repeat' (first|exact trivial|refine aI ?_ ?_|decide +kernel|exact rfl))
theorem b4C:ZQ 16 [.int .i64 1,.int .i64 1] [] (.uy [Rat.av ⟨false,[1],[1]⟩,.int .i64 0]) []:=by
 refine ZI Tryz.func16 λhok=>?_;conv=>whnf
 refine .zR a5z ?_;refine .zR a5z ?_;refine .pure _ _ ?_ ⟨rfl,rfl⟩ b4E λ_=>?_;{refine⟨?_,tZ _,tZ _,trivial⟩;show _↔_;simp};conv=>whnf
 refine ZF ?_
 (repeat' (first|exact trivial|refine aI ?_ ?_|decide +kernel|exact rfl))
theorem b72:ZQ 175 [.int .i64 1] [] (Rat.av ⟨false,[1],[1]⟩) []:=by
 refine ZI Tryz.func175 λhok=>?_;conv=>whnf
 refine .zR b4C ?_;refine ZF ?_
 (repeat' (first|exact trivial|refine aI ?_ ?_|decide +kernel|exact rfl))
theorem WJ{a b:List Int}(ha:Ws a)(hb:Ws b){i:Nat}(h:val (a.drop i)<val (b.drop i)):val a<val b:=by rw[<- KJ ha,<- KJ hb]at h;apply aS;intro hn;have:=Nat.div_le_div_right (c:=4294967296^i) (Nat.le_of_not_lt hn);omega
theorem a7j(a b:List Int)(ha:a.length<=35184372088832)(hb:b.length<=35184372088832):ZQ 180 [wL a,wL b] [] (.int .i64 (EX (val a) (val b))) []:=by
 refine ZI Tryz.func180 λhok=>?_;have wa:Ws a:=Ws.ok hok.1.2;have wb:Ws b:=Ws.ok hok.2.1.2;conv=>whnf
 obtain⟨m,hm⟩:∃m:Nat,max (((a.map (AV.int .u32)).length:Nat):Int) (((b.map (AV.int .u32)).length:Nat):Int)=(m:Int):=⟨max a.length b.length,aA⟩;have hm1:a.length<=m/\b.length<=m/\m<=35184372088832:=(by simp at hm;omega);rw[hm];refine⟨rW aj aj,?_⟩;conv=>whnf
 refine qW.of <| qN.inv (.refl _ _) (fun(n:Nat)=>n<=m/\val (a.drop n)=val (b.drop n)) (fun(n:Nat)=>[(5,.int .i64 ((n:Int)-1))]) (λ_=>_) (fun(n:Nat)=>n) m ?_ (λ_=>rfl) ?_ ?_;{exact⟨aT _,by rw[aX hm1.1,aX hm1.2.1]⟩};{exact wk};rintro n ⟨hn,hd⟩ _;conv=>whnf
 constructor<;>intro h0
 ·obtain⟨i,rfl⟩:∃i,n=i+1:=⟨n-1,aj⟩;have e1:(((i+1:Nat):Int)-1)=(i:Int):=aj;have ca:=yD a i;have cb:=yD b i;have hva:=CG a i;have hvb:=CG b i;have hxa:=wa.getD (i:=i);have hxb:=wb.getD (i:=i);rw[e1];generalize a.getD i 0=x at *;generalize b.getD i 0=y at *;conv=>whnf
  refine .zK ca ?_;refine .zK cb ?_;constructor<;>intro h1
  ·(conv=>whnf);refine ZF ?_
   refine⟨rfl,?_⟩;rw[EX,aG (WJ wa wb (i:=i) aj)]
  conv=>whnf
  refine .zK ca ?_;refine .zK cb ?_;constructor<;>intro h2
  ·have:=WJ wb wa (i:=i) aj;conv=>whnf
   refine ZF ?_;refine⟨rfl,?_⟩;rw[EX,aB aj,aG this]
  conv=>whnf
  refine ZG ?_;refine⟨i,?_,?_,?_⟩;{exact⟨aj,aj⟩};{exact wk};omega
 have hn0:n=0:=aj;subst hn0;simp only[fG]at hd;conv=>whnf
 refine ZF ?_;refine⟨rfl,?_⟩;rw[EX,aB aj,aB aj]
theorem Tj{l:List Int}{n:Nat}(h:val l<4294967296^n):val (l.take n)=val l:=by by_cases hn:n<=l.length;{have e:=uK n hn;have h0:val (l.drop n)=0:=(by apply aS;intro hne;have:4294967296^n*1<=4294967296^n*val (l.drop n):=dn _ aj;omega);rw[h0,gu]at e;omega};rw[bf aj]
theorem VP{p B x low b y b' va vb s:Nat}(h1:x+B*b'=y+low+b)(h:va+p*b=s+vb):va+p*x+p*B*b'=s+p*y+(vb+p*low):=by have e1:p*(x+B*b')=p*(y+low+b):=(by rw[h1]);rw[dB,dB,dB,<- dA]at e1;omega
theorem a3h(a b:List Int)(ha:a.length<=35184372088832)(hb:b.length<=35184372088832)(R:AV)(hR:R=if val a<val b then .uy [wL [],.int .i64 3]else .uy [wL (wd (val a-val b)),.int .i64 0]) :
  ZQ 181 [wL a,wL b] [] R []:=by
 refine ZI Tryz.func181 λhok=>?_;have wa:Ws a:=Ws.ok hok.1.2;have wb:Ws b:=Ws.ok hok.2.1.2;conv=>whnf
 refine .zK (a7j a b aj aj) ?_;constructor<;>intro h
 ·have hlt:val a<val b:=by
   unfold EX at h;split at h
   ·assumption
   split at h <;> omega
  rw[aG hlt]at hR;subst hR;conv=>whnf
  exact ZH
 have hge:¬val a<val b:=(by intro hlt;unfold EX at h;rw[aG hlt]at h;omega);rw[aB hge]at hR;subst hR;conv=>whnf
 refine qW.of <| qN.inv (.grow 6 1 [] _ rfl (.inl ⟨rfl,rfl⟩) (.refl _ _)) (λx:Nat×Nat×List Int=>x.1<=a.length/\x.2.1<=1/\Ws x.2.2/\x.2.2.length=x.1/\val (a.take x.1)+4294967296^x.1*x.2.1=val x.2.2+val (b.take x.1))
  (fun|(i,b,s)=>[(16,.int .i64 i),(7,.int .u64 b),(6,.sl 1 (s.map (.int .u32)) (.own 0))]) (fun|(_,_,s)=>[(0,.tok 1 s.length)])
  (λx=>a.length-x.1) (0,0,[]) ?_ (λ_=>rfl) ?_ ?_
 ·exact⟨aP _,ak,Ws.nil,rfl,by simp[val]⟩
 ·exact Zv wk wk
 rintro⟨i,bo,s⟩ ⟨hi,hbo,hws,hsl,hv⟩ _;simp only at hi hbo hws hsl hv;refine ZS ?_ ?_<;>intro h
 ·have hlt:i<a.length:=(by simpa using h);have ca:=yD a i;have cb:=yD b i;have hva:=sO (l:=a) (i:=i);have hvb:=sO (l:=b) (i:=i);have hxa:=wa.getD (i:=i);have hxb:=wb.getD (i:=i);generalize a.getD i 0=x0 at *;generalize b.getD i 0=y0 at *;obtain⟨x,rfl⟩:∃x:Nat,x0=x:=⟨x0.toNat,aj⟩;obtain⟨w,rfl⟩:∃x:Nat,y0=x:=⟨y0.toNat,aj⟩;rw[aO]at hva hvb;conv=>whnf
  refine .gen _ _ (qZ.vX ca (rQ _) ⟨rfl,rfl⟩) λ_=>?_;conv=>whnf
  refine .gen _ _ (qZ.vX cb (rQ _) ⟨rfl,rfl⟩) λ_=>?_;conv=>whnf
  obtain⟨D,hD,hD1,hD2,hD3⟩:=VG (x:=x) (low:=w) (b:=bo) aj aj hbo;rw[hD];conv=>whnf
  rw[vS (a:=D)];have hy:D % 4294967296<4294967296:=gy _ au;generalize D % 4294967296=y at *;refine⟨by rw[aC],?_⟩;refine⟨by simp[maxL];omega,aA,?_⟩;conv=>whnf
  refine⟨au,?_⟩;rw[a5n];conv=>whnf
  refine ZG ?_;refine⟨(i+1,D / 9223372036854775808,s++[(y:Int)]),?_,?_,?_⟩;{refine⟨hlt,hD2,hws.append (Ws.cons aj Ws.nil),by simp[hsl],?_⟩;show val (a.take (i+1))+4294967296^(i+1)*(D / 9223372036854775808)=val (s++[(y:Int)])+val (b.take (i+1));have e1:val (s++[(y:Int)])=val s+4294967296^i*y:=(by rw[val_append,hsl];simp[val]);rw[hva,hvb,e1,bU];exact VP hD3 hv}
  ·refine Zv ?_ ?_
   ·repeat' first|exact Zq|apply aI
    all_goals first|(refine qY ?_;simp[strip];done)|simp
   repeat' first|exact Zq|apply aI
   all_goals simp
  show a.length-(i+1)<a.length-i;omega
 have hil:i=a.length:=(by have:¬i<a.length:=(by simpa using h);omega);subst hil;rw[bn]at hv;have hva:=wK wa;rw[Tj aj]at hv;have hvs:=wK hws;rw[hsl]at hvs;have hfin:val s=val a-val b:=(by have hb2:bo=0\/bo=1:=aj;rcases hb2 with rfl|rfl;{omega};omega);have ct:=yE s aj;rw[hfin]at ct;conv=>whnf
 refine .zK ct ?_;exact ZH
theorem b6u{c x n:Nat}(hn:n<32)(hc:c<2^n)(hx:x<4294967296):BN .or .u64 (c:Int) ((x*2^n:Nat):Int)=((c+x*2^n:Nat):Int):=by have h3:2^n<=2^31:=bZ aj aj;have h4:x*2^n<=4294967295*2^31:=gU aj h3;rw[a2u aj aj];have:=lG (i:=n) hc x;rw[nZ]at this;rw[Nat.or_comm,<- this,kU]
theorem a8v{c x n:Nat}(hc:c<2^n)(hx:x<4294967296):(c+x*2^n) / 4294967296<2^n:=by rw[eU aj];have h1:(x+1)*2^n<=4294967296*2^n:=bW _ aj;rw[dJ (2^n) 4294967296];rw[dw]at h1;omega
theorem a8w{p B c x P C vs va:Nat}(hC:C=c+x*P)(h:vs+p*c=va*P):vs+p*(C % B)+p*B*(C / B)=(va+p*x)*P:=by have e1:p*(C % B)+p*B*(C / B)=p*C:=(by rw[dA,<- dB,jR]);rw[dw,<- h,dA p x,iW,iW,e1,hC,dB]
theorem b5w(a:List Int)(n:Nat)(hn:n<32)(ha:a.length<=35184372088831):ZQ 177 [wL a,.int .i64 n] [] (wL (wd (val a*2^n))) []:=by
 refine ZI Tryz.func177 λhok=>?_;have wa:Ws a:=Ws.ok hok.1.2;conv=>whnf
 refine qW.of <| qN.inv (.grow 5 1 [] _ rfl (.inl ⟨rfl,rfl⟩) (.refl _ _)) (λx:Nat×Nat×List Int=>x.1<=a.length/\x.2.1<2^n/\Ws x.2.2/\x.2.2.length=x.1/\val x.2.2+4294967296^x.1*x.2.1=val (a.take x.1)*2^n)
  (fun|(i,c,s)=>[(11,.int .i64 i),(6,.int .u64 c),(5,.sl 1 (s.map (.int .u32)) (.own 0))]) (fun|(_,_,s)=>[(0,.tok 1 s.length)])
  (λx=>a.length-x.1) (0,0,[]) ?_ (λ_=>rfl) ?_ ?_
 ·exact⟨aP _,jC _,Ws.nil,rfl,by simp[val]⟩
 ·exact Zv wk wk
 rintro⟨i,c,s⟩ ⟨hi,hc,hws,hsl,hv⟩ _;simp only at hi hc hws hsl hv;have hn31:2^n<=2^31:=bZ aj aj;refine ZS ?_ ?_<;>intro h
 ·have hlt:i<a.length:=(by simpa using h);have hva:=sO (l:=a) (i:=i);have hxa:=wa.getD (i:=i);conv=>whnf
  refine vH 0 rfl hlt ?_;generalize a.getD i 0=x0 at *;obtain⟨x,rfl⟩:∃x:Nat,x0=x:=⟨x0.toNat,aj⟩;rw[aO]at hva;conv=>whnf
  rw[wrap_u64 (n:=(x:Int)) aj aj];refine⟨aj,?_⟩;rw[a5o aj hn];conv=>whnf
  rw[b6u hn hc aj];have hcar:=a8v hc (x:=x) aj;obtain⟨C,hC⟩:∃C,c+x*2^n=C:=⟨_,rfl⟩;rw[hC]at hcar ⊢;conv=>whnf
  rw[vS (a:=C)];refine⟨by rw[aC],?_⟩;refine⟨by simp[maxL];omega,aA,?_⟩;conv=>whnf
  refine⟨au,?_⟩;rw[Dx rfl];conv=>whnf
  refine ZG ?_;refine⟨(i+1,C / 4294967296,s++[((C % 4294967296:Nat):Int)]),?_,?_,?_⟩;{refine⟨hlt,hcar,hws.append (Ws.cons aj Ws.nil),by simp[hsl],?_⟩;show val (s++[((C % 4294967296:Nat):Int)])+4294967296^(i+1)*(C / 4294967296)=val (a.take (i+1))*2^n;have e1:val (s++[((C % 4294967296:Nat):Int)])=val s+4294967296^i*(C % 4294967296):=(by rw[val_append,hsl];simp only[val,aO,gu,dR]);rw[hva,e1,bU];exact a8w hC.symm hv}
  ·refine Zv ?_ ?_
   ·repeat' first|exact Zq|apply aI
    all_goals first|(refine qY ?_;simp[strip];done)|simp
   repeat' first|exact Zq|apply aI
   all_goals simp
  show a.length-(i+1)<a.length-i;omega
 have hil:i=a.length:=(by have:¬i<a.length:=(by simpa using h);omega);subst hil;rw[bn]at hv;have ct:=yE (s++[(c:Int)]) aA;rw[val_append,hsl,show val [(c:Int)]=c by simp[val],hv]at ct;conv=>whnf
 rw[wrap_u32 (n:=(c:Int)) aj aj];refine⟨by rw[aC],?_⟩;refine⟨by simp[maxL];omega,aA,?_⟩;conv=>whnf
 refine .gen _ _ (qZ.vX ct ?_ ⟨rfl,rfl⟩) λ_=>?_
 ·repeat' first|exact Zq|apply aI
  refine qY ?_;simp[strip]
 conv=>whnf
 exact ZH
theorem b3k(a:List Int)(n:Nat)(hn:n<32)(ha:a.length<=35184372088832):ZQ 182 [wL a,.int .i64 n] [] (wL (wd (val a / 2^n))) []:=by
 refine ZI Tryz.func182 λhok=>?_;have wa:Ws a:=Ws.ok hok.1.2;conv=>whnf
 refine qW.of <| qN.inv (.grow 5 1 [] _ rfl (.inl ⟨rfl,rfl⟩) (.refl _ _)) (λi:Nat=>i<=a.length)
  (λi=>[(9,.int .i64 i),(5,.sl 1 ((Fv i (val a / 2^n)).map (.int .u32)) (.own 0))]) (λi=>[(0,.tok 1 i)])
  (λi=>a.length-i) 0 ?_ (λ_=>rfl) ?_ ?_
 ·exact aP _
 ·exact Zv wk wk
 intro i hi _;refine ZS ?_ ?_<;>intro h
 ·have hlt:i<a.length:=(by simpa using h);have ca:=yD a i;have cb:=yD a (i+1);have hx:=wa.getD (i:=i);have hy:=wa.getD (i:=i+1);have hrw:=VX wa (i:=i) hn;have b6H:Fv (i+1) (val a / 2^n)=Fv i (val a / 2^n)++[((val a / 2^n / 4294967296^i % 4294967296:Nat):Int)]:=(by refine(b0G (by simp[vP]) λk hk=>?_).symm;by_cases hki:k<i;{rw[aF,bI (by rw[vP];exact hki),<- aF];exact a01 hki};have:k=i:=aj;subst this;rw[aF,dK (by rw[vP];omega),vP];simp);generalize a.getD i 0=x0 at *;generalize a.getD (i+1) 0=y0 at *;obtain⟨x,rfl⟩:∃x:Nat,x0=x:=⟨x0.toNat,aj⟩;obtain⟨y,rfl⟩:∃y:Nat,y0=y:=⟨y0.toNat,aj⟩;simp only[aO]at hrw;conv=>whnf
  refine .gen _ _ (qZ.vX ca (rQ _) ⟨rfl,rfl⟩) λ_=>?_;conv=>whnf
  refine ZG ?_;refine .gen _ _ (qZ.vX cb (rQ _) ⟨rfl,rfl⟩) λ_=>?_;conv=>whnf
  refine⟨au,?_⟩;rw[I7 aj];conv=>whnf
  rw[a2t aj aj];refine⟨aj,?_⟩;rw[a5m aj];conv=>whnf
  rw[vS,hrw];refine⟨by simp[vP],?_⟩;refine⟨by simp[maxL,vP];omega,by simp[vP];omega,?_⟩;conv=>whnf
  refine ZG ?_;refine⟨i+1,?_,?_,?_⟩;{exact hlt}
  ·rw[b6H];refine Zv ?_ ?_
   ·repeat' first|exact Zq|apply aI
    all_goals first|(refine qY ?_;simp[strip];done)|simp
   repeat' first|exact Zq|apply aI
   all_goals simp[vP]
  omega
 have hil:i=a.length:=(by have:¬i<a.length:=(by simpa using h);omega);subst hil;have hva:=wK wa;have hle:val a / 2^n<=val a:=jS _ _;have ct:=yE (Fv a.length (val a / 2^n)) (by rw[vP];omega);rw[Ez aj]at ct;conv=>whnf
 refine .gen _ _ (qZ.vX ct ?_ ⟨rfl,rfl⟩) λ_=>?_;{exact wk};conv=>whnf
 exact ZH
theorem a9b{p B x y o c C v0 vb vn:Nat}{w:Nat}(hC:C=x*y+o+c)(e:vn+p*o=v0+p*(C % B))(h:v0+p*c=w+x*vb):vn+p*B*(C / B)=w+x*vb+p*(x*y):=by have e1:p*(C % B)+p*B*(C / B)=p*C:=(by rw[dA,<- dB,jR]);have e2:p*C=p*(x*y)+p*o+p*c:=(by rw[hC,dB,dB]);omega
theorem ZL{p q x y:Nat}:p*q*(x*y)=p*x*(q*y):=by rw[dA,dA,kT q]
theorem carry_zero{P Q A b o c:Nat}(h:o+P*Q*c=A*b)(h1:A<P)(h2:b<Q):c=0:=by apply aS;intro hne;have k1:P*Q*1<=P*Q*c:=dn _ aj;have k2:A*b<=P*b:=bW _ aj;have k3:P*b<P*Q:=Nat.mul_lt_mul_of_pos_left h2 aj;omega
theorem a3i(a b:List Int)(hab:a.length+b.length<=35184372088831):ZQ 179 [wL a,wL b] [] (wL (wd (val a*val b))) []:=by
 refine ZI Tryz.func179 λhok=>?_;have wa:Ws a:=Ws.ok hok.1.2;have wb:Ws b:=Ws.ok hok.2.1.2;conv=>whnf
 refine⟨rW aA aA,?_⟩;conv=>whnf
 refine⟨rW aA aA,?_⟩;obtain⟨m,hm⟩:∃m,a.length+b.length+1=m:=⟨_,rfl⟩;rw[show(((a.map (AV.int .u32)).length:Nat):Int)+(((b.map (AV.int .u32)).length:Nat):Int)+1=(m:Int) by simp;omega];conv=>whnf
 refine⟨⟨aj,aj,aA,aj⟩,.wr ?_⟩;conv=>whnf
 refine qW.of <| qN.inv (.refl _ _) (λx:Nat×List Int=>x.1<=a.length/\Ws x.2/\x.2.length=m/\val x.2=val (a.take x.1)*val b)
  (fun|(i,_)=>[(20,.int .i64 i)]) (fun|(_,out)=>[(0,.arr 1 m (out.map (.int .u32)))])
  (λx=>a.length-x.1) (0,List.replicate m 0) ?_ (λ_=>rfl) ?_ ?_
 ·refine⟨aP _,?_,ak,?_⟩;{intro x hx;rw[(fF.1 hx).2];omega};rw[Di (λx hx=>(fF.1 hx).2)];simp[val]
 ·refine Zv wk ?_;repeat' first|exact Zq|apply aI
  all_goals first|(simp;done)|exact qY ak
 rintro⟨i,out⟩ ⟨hi,hwo,hol,hv⟩ _;simp only at hi hwo hol hv;refine ZS ?_ ?_<;>intro h
 ·have hlt:i<a.length:=(by simpa using h);have hva:=sO (l:=a) (i:=i);have hxa:=wa.getD (i:=i);conv=>whnf
  refine vH 0 rfl hlt ?_;generalize a.getD i 0=x0 at *;obtain⟨x,rfl⟩:∃x:Nat,x0=x:=⟨x0.toNat,aj⟩;rw[aO]at hva;conv=>whnf
  refine⟨rW aA aA,?_⟩;rw[show(((b.map (AV.int .u32)).length:Nat):Int)+1=((b.length+1:Nat):Int) by simp];conv=>whnf
  refine qW.of <| qN.inv (.refl _ _) (λz:Nat×Nat×List Int=>z.1<=b.length+1/\z.2.1<4294967296/\Ws z.2.2/\z.2.2.length=m/\val z.2.2+4294967296^(i+z.1)*z.2.1=val out+4294967296^i*x*val (b.take z.1))
   (fun|(j,c,_)=>[(28,.int .i64 j),(8,.int .u64 c)]) (fun|(_,_,o)=>[(0,.arr 1 m (o.map (.int .u32)))])
   (λz=>b.length+1-z.1) (0,0,out) ?_ (λ_=>rfl) ?_ ?_
  ·exact⟨aP _,(by omega:0<4294967296),hwo,hol,by simp[val]⟩
  ·exact Zv wk wk
  rintro⟨j,c,o⟩ ⟨hj,hc,a9m,b2C,hv2⟩ _;simp only at hj hc a9m b2C hv2;refine ZS ?_ ?_<;>intro h
  ·have hjlt:j<b.length+1:=aj;have cw:=yD b j;have hvb:=sO (l:=b) (i:=j);have hxb:=wb.getD (i:=j);have hoo:=a9m.getD (i:=i+j);have hij:i+j<o.length:=aj;generalize b.getD j 0=y0 at *;obtain⟨y,rfl⟩:∃x:Nat,y0=x:=⟨y0.toNat,aj⟩;rw[aO]at hvb;have hxy:x*y<=4294967295*4294967295:=gU aj aj;conv=>whnf
   refine ZR ?_;refine IX.pure _ _ (rQ _) ⟨rfl,rfl⟩ cw ?_;conv=>whnf
   rw[wrap_u64 (n:=(x:Int)) aj aj];rw[show((x:Int)*(y:Int))=((x*y:Nat):Int)from(lK x y).symm,wrap_u64 (n:=((x*y:Nat):Int)) aj aj];refine ZG ?_;refine⟨⟨aj,aj⟩,?_⟩;conv=>whnf
   refine vH 0 (i:=i+j) aj hij ?_;refine⟨rfl,?_⟩;obtain⟨ow,how⟩:∃w:Nat,o.getD (i+j) 0=w:=⟨(o.getD (i+j) 0).toNat,aj⟩;rw[how]at hoo ⊢;conv=>whnf
   rw[wrap_u64 (n:=(ow:Int)) aj aj];rw[show(((x*y:Nat):Int)+(ow:Int))=((x*y+ow:Nat):Int)from(gY (x*y) ow).symm,wrap_u64 (n:=((x*y+ow:Nat):Int)) aj aj];rw[show(((x*y+ow:Nat):Int)+(c:Int))=((x*y+ow+c:Nat):Int)from(gY (x*y+ow) c).symm,wrap_u64 (n:=((x*y+ow+c:Nat):Int)) aj aj];obtain⟨C,hC⟩:∃C,x*y+ow+c=C:=⟨_,rfl⟩;rw[hC];conv=>whnf
   refine ZG ?_;rw[vS (a:=C)];refine⟨⟨aj,aj⟩,?_⟩;dsimp only[CO];rw[Hy];dsimp only[zX];dsimp only[O6,xI];conv=>whnf
   refine⟨by rw[aC];omega,rfl,?_⟩;conv=>whnf
   refine⟨au,?_⟩;rw[Dx rfl];conv=>whnf
   refine ZG ?_;have hCl:C / 4294967296<4294967296:=aj;have hset:=JA (x:=((C % 4294967296:Nat):Int)) hij;rw[<- vg (x:=0) hij,how,aO,aO]at hset;refine⟨(j+1,C / 4294967296,o.set (i+j) ((C % 4294967296:Nat):Int)),?_,?_,?_⟩;{refine⟨hjlt,hCl,a9m.set aj,by simpa using b2C,?_⟩;show val (o.set (i+j) ((C % 4294967296:Nat):Int))+4294967296^(i+(j+1))*(C / 4294967296)=val out+4294967296^i*x*val (b.take (j+1));rw[<- iW,bU,hvb,dB,<- ZL (x:=x),<- iY,<- iW];have:=a9b (p:=4294967296^(i+j)) (x:=x) (y:=y) (o:=ow) (c:=c) (v0:=val o) (vn:=val (o.set (i+j) ((C % 4294967296:Nat):Int))) (w:=val out+4294967296^i*x*val (b.take j)) (vb:=0) hC.symm hset (by rw[gu,dR];exact hv2);rw[gu,dR]at this;exact this}
   ·refine Zv wk ?_;repeat' first|exact Zq|apply aI
    refine qY ?_;rw[dP,show(0+((i:Int)+(j:Int)).toNat)=i+j by omega];simp[strip]
   show b.length+1-(j+1)<b.length+1-j;omega
  have hjl:j=b.length+1:=aj;subst hjl;rw[bf (by omega:b.length<=b.length+1),hv]at hv2;have h2:val (a.take i)*val b+4294967296^i*x*val b=val (a.take (i+1))*val b:=(by rw[hva,dw]);have h3:=JD wa (i+1);have h4:=wK wb;have hcz:c=0:=(by refine carry_zero (P:=4294967296^(i+1)) (Q:=4294967296^b.length) (A:=val (a.take (i+1))) (b:=val b) (o:=val o) ?_ h3 h4;rw[<- h2,<- hv2,<- iY,show i+1+b.length=i+(b.length+1) by omega]);rw[hcz,gu,dR,h2]at hv2;conv=>whnf
  refine ZG ?_;refine⟨(i+1,o),?_,?_,?_⟩;{refine⟨hlt,a9m,b2C,?_⟩;exact hv2};{exact Zv wk wk};show a.length-(i+1)<a.length-i;omega
 have hil:i=a.length:=(by have:¬i<a.length:=(by simpa using h);omega);subst hil;rw[bn]at hv;have ct:=yE out aj;rw[hv]at ct;conv=>whnf
 refine .gen _ _ (qZ.YN 0 rfl rfl aA (qZ.vX ct ?_ ⟨rfl,rfl⟩)) λ_=>?_
 ·repeat' first|exact Zq|apply aI
  refine qY ?_;simp;rw[bf aA]
 conv=>whnf
 exact ZH
theorem b3J{x k:Nat}(hx:x<4294967296)(hk:k<32):BN .and .u32 (Ox .u32 (x:Int) (k:Int)) 1=if x.testBit k then 1 else 0:=by rw[UC hk];have hd:x / 2^k<=x:=jS _ _;have e:∀z:Nat,BitVec.ofInt 32 (z:Int)=BitVec.ofNat 32 z:=(by intro z;apply kZ;simp);simp only[BN];have h1:(BitVec.ofInt 32 ((x / 2^k:Nat):Int)&&&BitVec.ofInt 32 (1:Int)).toNat=(x / 2^k)&&&1:=(by rw[show(1:Int)=((1:Nat):Int)from rfl,e,e,BitVec.toNat_and,gV,gV,dW aj]);show IntKind.wrap .u32 ((BitVec.ofInt 32 ((x / 2^k:Nat):Int)&&&BitVec.ofInt 32 (1:Int)).toNat:Int)=_;rw[h1,Nat.and_one_is_mod,kS];have:x / 2^k % 2<2:=gy _ aj;rw[wrap_u32 aj aj];by_cases h:x / 2^k % 2=1;{simp[h]};have:x / 2^k % 2=0:=aj;simp[this]
theorem a5S{x k:Nat}:x % 2^(k+1)=x % 2^k+2^k*(if x.testBit k then 1 else 0):=by rw[kS,Nat.mod_pow_succ];have:x / 2^k % 2<2:=gy _ aj;by_cases h:x / 2^k % 2=1;{simp[h]};have:x / 2^k % 2=0:=aj;simp[this]
theorem a8P(i k:Nat):4294967296^i*2^k=2^(32*i+k):=by rw[iY,Nat.pow_mul]
theorem b0o{v x i k:Nat}(hv:v<4294967296^i)(hb:x.testBit k=true):zG (v+4294967296^i*(x % 2^(k+1)))=32*i+k+1:=by have e:=a8P i k;have e2:=a8P i (k+1);have hm:x % 2^(k+1)<2^(k+1):=gy _ (jC _);have hge:2^k<=x % 2^(k+1):=(by rw[a5S,hb];simp);refine X0 ?_ ?_;{rw[<- e];have:4294967296^i*2^k<=4294967296^i*(x % 2^(k+1)):=dn _ hge;omega};rw[show 32*i+k+1=32*i+(k+1) by omega,<- e2];have h1:4294967296^i*(x % 2^(k+1)+1)<=4294967296^i*2^(k+1):=dn _ hm;rw[dB]at h1;omega
theorem QI(a:List Int)(ha:a.length<=35184372088832):ZQ 107 [wL a] [] (.int .i64 (zG (val a))) []:=by
 refine ZI Tryz.func107 λhok=>?_;have wa:Ws a:=Ws.ok hok.1.2;conv=>whnf
 refine qW.of <| qN.inv (.refl _ _) (fun(i:Nat)=>i<=a.length) (fun(i:Nat)=>[(9,.int .i64 i),(3,.int .i64 (zG (val (a.take i))))]) (λ_=>_) (fun(i:Nat)=>a.length-i) 0 ?_ (λ_=>rfl) ?_ ?_;{exact aP _};{exact wk};intro i hi _;refine ZS ?_ ?_<;>intro h
 ·have hlt:i<a.length:=(by simpa using h);have hva:=sO (l:=a) (i:=i);have hxa:=wa.getD (i:=i);have htl:=JD wa i;conv=>whnf
  refine vH 0 rfl hlt ?_;generalize a.getD i 0=x0 at *;obtain⟨x,rfl⟩:∃x:Nat,x0=x:=⟨x0.toNat,aj⟩;rw[aO]at hva;generalize val (a.take i)=v at *;conv=>whnf
  refine qW.of <| qN.inv (.refl _ _) (fun(k:Nat)=>k<=32) (fun(k:Nat)=>[(14,.int .i64 k),(3,.int .i64 (zG (v+4294967296^i*(x % 2^k))))]) (λ_=>_) (fun(k:Nat)=>32-k) 0 ?_ (λ_=>rfl) ?_ ?_;{exact aP _}
  ·repeat' first|exact Zq|apply aI
   rw[show x % 2^0=0 from Nat.mod_one x,gu,dR]
  intro k hk _;refine ZS ?_ ?_<;>intro h
  ·have hk2:k<32:=aj;conv=>whnf
   refine⟨aj,?_⟩;conv=>whnf
   rw[b3J aj hk2];cases hb:x.testBit k with
   | true =>
     have hbl:=b0o (x:=x) htl hb;conv=>whnf
     refine aQ (λ_=>?_) (λh=>absurd rfl h);conv=>whnf
     refine⟨rW aj aj,?_⟩;conv=>whnf
     refine ZG ?_;refine ZG ?_;refine ZG ?_;refine⟨k+1,?_,?_,?_⟩;{exact hk2};{rw[hbl];all_goals exact wk};omega
   | false =>
     have hbl:x % 2^(k+1)=x % 2^k:=(by rw[a5S,hb];simp);conv=>whnf
     refine aQ (λh=>absurd h au) (λ_=>?_);conv=>whnf
     refine ZG ?_;refine⟨k+1,?_,?_,?_⟩;{exact hk2};{rw[hbl];all_goals exact wk};omega
  have hk3:k=32:=aj;subst hk3;have hx32:x % 2^32=x:=dW aj;rw[hx32,<- hva];conv=>whnf
  refine ZG ?_;refine⟨i+1,?_,?_,?_⟩;{exact hlt};{exact wk};omega
 have hil:i=a.length:=(by have:¬i<a.length:=(by simpa using h);omega);subst hil;rw[bn];conv=>whnf
 exact ZH
theorem b1I{a n:Nat}(hn:n<32)(h:a*2^n<4294967296):VK .u32 (a:Int) (n:Int)=((a*2^n:Nat):Int):=by
 unfold VK;have h1:min (n:Int).toNat (IntKind.bits .u32)=n:=by show min n 32=n;omega
 rw[h1];have h2:(a:Int)*2^n=((a*2^n:Nat):Int):=ak;rw[h2];exact wrap_u32 aj aj
theorem b5T{a:Nat}(h:a<4294967296):BN .and .u32 (a:Int) 2147483648=0↔a<2147483648:=by
 have e:∀z:Nat,BitVec.ofInt 32 (z:Int)=BitVec.ofNat 32 z:=(by intro z;apply kZ;simp);simp only[BN];have h1:(BitVec.ofInt 32 (a:Int)&&&BitVec.ofInt 32 (2147483648:Int)).toNat=a&&&2^31:=(by rw[show(2147483648:Int)=((2^31:Nat):Int)from rfl,e,e,BitVec.toNat_and,gV,gV,dW aj,dW aj]);show IntKind.wrap .u32 ((BitVec.ofInt 32 (a:Int)&&&BitVec.ofInt 32 (2147483648:Int)).toNat:Int)=0↔_;have hle:a&&&2^31<=a:=Nat.and_le_left;rw[h1,wrap_u32 aj aj];have key:a&&&2^31=0↔a<2147483648:=by
  constructor
  ·intro h0;apply aS;intro hn;have hbit:a.testBit 31=true:=by rw[kS];simp;omega
   have:(a&&&2^31).testBit 31=true:=(by rw[Nat.testBit_and,hbit,Nat.testBit_two_pow_self];rfl);rw[h0]at this;simp at this
  intro h0;apply Nat.eq_of_testBit_eq;intro i;rw[Nat.testBit_and,lM];by_cases hi:31=i;{subst hi;rw[mV aj];simp};simp[hi]
 omega
theorem a4P{x n:Nat}(h1:4294967296^(n-1)<=x)(h2:x<4294967296^n)(hn:1<=n):(wd x).length=n:=by have hw:=EJ x;have hv:=rV x;have hl:=wK hw;rw[hv]at hl;have a1:¬(wd x).length<=n-1:=(by intro h;have:4294967296^(wd x).length<=4294967296^(n-1):=bZ aj h;omega);have a2:(wd x).length<=n:=(by have:=wE (IE n x);rw[Ez h2,vP]at this;exact this);omega
structure RInv(V L:Nat)(al:List Int)(j r:Nat)(Q:List Int):Prop where
 jle:j<=L
 wq:Ws Q
 lq:Q.length=L
 lt:r<V
 eq:val (al.drop j)=r+V*val (Q.drop j)
 z:∀k,k<j->Q.getD k 0=0
theorem a2a(x:Int)(l:List Int):val (x::l)=x.toNat+4294967296*val l:=rfl
theorem RInv.step{V L j r:Nat}{al Q:List Int}(h:RInv V L al (j+1) r Q)(hV0:0<V)(hx:(al.getD j 0).toNat<4294967296) :
  (al.getD j 0).toNat+4294967296*r<4294967296*V /\
  RInv V L al j (((al.getD j 0).toNat+4294967296*r) % V) (Q.set j ((((al.getD j 0).toNat+4294967296*r) / V:Nat):Int)):=by
 have hlt:=h.lt;have h1:(al.getD j 0).toNat+4294967296*r<4294967296*V:=aj;refine⟨h1,?_⟩;have hj:j<L:=h.jle;have hq:((al.getD j 0).toNat+4294967296*r) / V<4294967296:=(by rw[eU hV0];exact h1);have hjq:j<Q.length:=(by rw[h.lq];exact hj);have hvd:=CG al j;have he:=h.eq;generalize (al.getD j 0).toNat=x at *;generalize hs:x+4294967296*r=s at *;have hdm:=jD s V;generalize hqq:s / V=q at *;generalize s % V=m at *;refine⟨?_,h.wq.set aj,by simpa using h.lq,?_,?_,?_⟩;{omega};{have hm:s-V*q<V:=(by rw[<- hqq];have:=gy s hV0;have:=jD s V;omega);omega};{have e1:(Q.set j (q:Int)).drop j=(q:Int)::Q.drop (j+1):=(by rw[aZ (by simpa using hjq),nD,List.drop_set_of_lt aj]);rw[e1,a2a,aO,hvd,he,dB,dB,kT 4294967296 V];omega};intro k hk;have:=h.z k aj;rw[aF]at this ⊢;rw[iZ aj];exact this
theorem b4y{V p s top:Nat}(hp:0<p)(ht:0<top)(hV:top*p<=V)(hq:s / V<4294967296):s / V<=min (s / p / top) 4294967295:=by have h1:s / V<=s / p / top:=(by refine a2N (p:=p) ht hV ?_;have:=kN (a:=s) hp;rw[dw,gQ];exact this);omega
theorem Ec{x n:Nat}(h2:x<4294967296^n):(wd x).length<=n:=by have:=wE (IE n x);rw[Ez h2,vP]at this;exact this
theorem a4Q(x i:Nat):(wd x).getD i 0=((x / 4294967296^i % 4294967296:Nat):Int):=by have h1:=KJ (EJ x) i;have h2:=CG (wd x) i;have h3:=(EJ x).getD (i:=i);rw[rV]at h1;rw[h1,h2];omega
theorem head_eq{S n:Nat}(hn:1<=n)(h:S<4294967296^(n+1)):(S / 4294967296^n % 4294967296)*4294967296+S / 4294967296^(n-1) % 4294967296=S / 4294967296^(n-1):=by obtain⟨m,rfl⟩:∃m,n=m+1:=⟨n-1,aj⟩;rw[show m+1-1=m by omega];have e:S / 4294967296^(m+1)=S / 4294967296^m / 4294967296:=(by rw[iH,bU]);have hl:S / 4294967296^m<4294967296*4294967296:=(by rw[eU (gG aj)];rw[bU,bU,dA,dJ]at h;exact h);rw[e];generalize S / 4294967296^m=z at *;omega
theorem a8L{V S q:Nat}(hq:S / V=q):S-V*q=S % V:=by subst hq;have:=jD S V;omega
theorem b1U{V S q g:Nat}(hV:0<V)(hq:S / V=q)(h1:q<=g)(h2:¬S<V*g):g=q:=by subst hq;have:g<=S / V:=(by rw[jU hV,dJ];omega);omega
theorem b1V{V S q g:Nat}(hq:S / V=q)(h2:S<V*g):q<g:=by subst hq;apply aS;intro hn;have h3:V*g<=V*(S / V):=dn _ aj;have h4:=Nat.mul_div_le S V;omega
set_option maxHeartbeats 2000000 in
theorem XK(a b:List Int)(ha:a.length<=35184372088320)(hb:b.length<=35184372088320)(h0:val b≠0):ZQ 109 [wL a,wL b] [] (.uy [wL (wd (val a / val b)),wL (wd (val a % val b)),.int .i64 0]) []:=by
 refine ZI Tryz.func109 λhok=>?_;have wa:Ws a:=Ws.ok hok.1.2;have wb0:Ws b:=Ws.ok hok.2.1.2;refine Z0 ?_;refine .zP (yE b aj) λ_=>?_;have hbl:=wE wb0;have hwy:=EJ (val b);have hvy:=rV (val b);have hpy:=Y4 (val b);have hn1:1<=(wd (val b)).length:=(by rw[BO h0];simp);generalize hyv:val b=y at *;generalize wd y=bl at *;obtain⟨n,hn⟩:∃n,bl.length=n:=⟨_,rfl⟩;rw[hn]at hn1;have htb:=hwy.getD (i:=n-1);have htn:bl.getD (n-1) 0≠0:=(by rcases hpy with h|h;{rw[h]at hn;simp at hn;omega};rw[iP,iQ,hn]at h;rw[aF];exact h);have e1:=uK (l:=bl) (n-1) aj;rw[CG bl (n-1),aX (by omega:bl.length<=n-1+1),hvy]at e1;have e2:=JD hwy (n-1);have hge:=Gx hpy (by intro e;rw[e]at hn;simp at hn;omega) hwy;rw[hn,hvy]at hge;generalize htt:bl.getD (n-1) 0=tb0 at *;obtain⟨tb,rfl⟩:∃tb:Nat,tb0=tb:=⟨tb0.toNat,aj⟩;have eln:(((bl.map (AV.int .u32)).length:Nat):Int)=(n:Int):=(by simp[hn]);conv=>whnf
 rw[eln];refine aQ (λh=>by exfalso;omega) (λ_=>?_);conv=>whnf
 refine qW.of <| qN.inv (.refl _ _) (fun(s:Nat)=>s<32/\tb*2^s<4294967296) (fun(s:Nat)=>[(8,.int .i64 s)]) (λ_=>_) (fun(s:Nat)=>32-s) 0 ?_ (λ_=>rfl) ?_ ?_;{exact⟨(by omega:0<32),aj⟩};{exact wk};rintro s ⟨hs,hts⟩ _;refine ZW ?_;refine ZG ?_;refine vH 0 (i:=n-1) aj aj ?_;rw[htt];conv=>whnf
 refine⟨aj,?_⟩;rw[b1I hs hts];conv=>whnf
 constructor<;>intro h
 ·have h:=(b5T hts).1 h;have b8G:s<31:=(by have h1:1*2^s<=tb*2^s:=bW _ aj;have h2:2^s<2^31:=aj;exact(Nat.pow_lt_pow_iff_right (a:=2) aj).1 h2);conv=>whnf
  refine ZG ?_;refine⟨s+1,?_,?_,?_⟩;{exact⟨(by omega:s+1<32),(by rw[bU,<- dA];omega:tb*2^(s+1)<4294967296)⟩};{exact wk};omega
 have hp2:=jC s;have hV1:4294967296^(n-1)<=y*2^s:=dI hge (Nat.le_mul_of_pos_right _ hp2);have hV2:y*2^s<4294967296^n:=(by have e3:y<4294967296^(n-1)*(tb+1):=(by rw[dB];simp only[aO,val,gu,dR]at e1;omega);have hdvd:(tb+1)*2^s<=4294967296:=(by have e32:(4294967296:Nat)=2^(32-s)*2^s:=(by rw[<- iY,show 32-s+s=32 by omega]);rw[e32]at hts ⊢;have:=iG hts;exact bW _ this);have e5:y*2^s<4294967296^(n-1)*(tb+1)*2^s:=fZ e3 hp2;have e6:4294967296^(n-1)*((tb+1)*2^s)<=4294967296^(n-1)*4294967296:=dn _ hdvd;rw[<- bU,show(n-1).succ=n by omega,<- dA]at e6;omega);have hVl:=a4P hV1 hV2 hn1;have hxa:=wK wa;have hres:val a*2^s / (y*2^s)=val a / y/\val a*2^s % (y*2^s) / 2^s=val a % y:=(by refine⟨Nat.mul_div_mul_right _ _ hp2,?_⟩;rw[nC,Nat.mul_div_cancel _ hp2]);have hAl:(wd (val a*2^s)).length<=a.length+1:=(by refine Ec ?_;have k1:2^s<=4294967296:=dI (bZ aj (show s<=32 by omega)) au;have k2:val a*2^s<4294967296^a.length*2^s:=fZ hxa hp2;have k3:4294967296^a.length*2^s<=4294967296^a.length*4294967296:=dn _ k1;rw[bU];omega);have cua:=b5w a s hs aj;have cub:=b5w bl s hs aj;rw[hvy]at cub;have hwA:=EJ (val a*2^s);have hvA:=rV (val a*2^s);have hwV:=EJ (y*2^s);have hvV:=rV (y*2^s);have hgV:=a4Q (y*2^s) (n-1);generalize val a*2^s=A at *;generalize y*2^s=V at *;have htop:V / 4294967296^(n-1)<4294967296:=(by rw[eU (gG aj),dJ,<- bU,show(n-1).succ=n by omega];exact hV2);have TP:1<=V / 4294967296^(n-1):=(by rw[jU (gG aj),gQ];exact hV1);have b6G:V / 4294967296^(n-1)*4294967296^(n-1)<=V:=ji _ _;rw[dW htop]at hgV;generalize V / 4294967296^(n-1)=top at *;have hVp:0<V:=(by have:=gG (n:=n-1) (show 0<4294967296 by omega);omega);conv=>whnf
 refine .zK cua ?_;refine .zP cub λ_=>?_;generalize wd A=al at *;have b8v:=λg:Nat=>fun(hg:g<4294967296)=>a3i (wd V) [(g:Int)] (by simp only[jA];omega);generalize wd V=vl at *;obtain⟨L,hL⟩:∃L,al.length=L:=⟨_,rfl⟩;have ell:(((al.map (AV.int .u32)).length:Nat):Int)=(L:Int):=(by simp[hL]);conv=>whnf
 refine xG.mk ⟨[true,true,false,true,true,true,true,true,true,true,true,true,true,true,true],by kernel_rfl,?_⟩;conv=>whnf
 rw[ell];refine⟨⟨aj,aj,aA,aj⟩,.wr ?_⟩;conv=>whnf
 rw[ell];refine ZG ?_;refine ZG ?_;rw[show max (0:Int) ((L:Int)-(n:Int)+1)=((L+1-n:Nat):Int) by omega];refine⟨⟨aj,aj,ak⟩,?_⟩;have hcut:((al.map (AV.int .u32)).drop ((L+1-n:Nat):Int).toNat).take ((((al.map (AV.int .u32)).length:Nat):Int).toNat-((L+1-n:Nat):Int).toNat)=(al.drop (L+1-n)).map (AV.int .u32):=(by rw[bf ak,aO,mO]);rw[hcut];conv=>whnf
 refine .pure (by simp[maxL];omega) aA ⟨rfl,?_⟩;conv=>whnf
 refine ZG ?_;have hinit:∃j:Nat,(((L:Int)-(n:Int)=(j:Int)-1)\/((L:Int)-(n:Int)<0/\j=0))/\RInv V L al j (val (al.drop (L+1-n))) (List.replicate L 0):=(by have hrz:val (List.replicate L (0:Int))=0:=Di λx hx=>(fF.1 hx).2;have hzw:Ws (List.replicate L (0:Int)):=(by intro x hx;rw[(fF.1 hx).2];omega);have hz:∀k,(List.replicate L (0:Int)).getD k 0=0:=(by intro k;rw[aF,eH];split <;> rfl);have hdz:∀k,val ((List.replicate L (0:Int)).drop k)=0:=λk=>Di λx hx=>(fF.1 (nH hx)).2;have hlt:val (al.drop (L+1-n))<V:=(by have h1:=wK (hwA.drop (L+1-n));have h2:4294967296^(al.drop (L+1-n)).length<=4294967296^(n-1):=bZ aj (by rw[iD];omega);omega);by_cases hLn:n<=L;{refine⟨L+1-n,.inl aj,aj,hzw,ak,hlt,?_,λk _=>hz k⟩;rw[hdz,gu];rfl};refine⟨0,?_,aj,hzw,ak,hlt,?_,λk _=>hz k⟩;{by_cases h:(L:Int)-(n:Int)=((0:Nat):Int)-1;{exact .inl h};exact .inr ⟨aj,rfl⟩};rw[hdz,gu,dR,show L+1-n=0 by omega]);obtain⟨j0,hj0,hI0⟩:=hinit;have b8a:Ws (al.drop (L+1-n)):=hwA.drop _;have b8d:(al.drop (L+1-n)).length<=35184372088321:=(by rw[iD];omega);conv=>whnf
 refine qW.of <| qN.inv (.refl _ _) (λx:Int×Nat×List Int×List Int=>((x.1=(x.2.1:Int)-1)\/(x.1<0/\x.2.1=0)) /\ -35184372088832<=x.1/\Ws x.2.2.1/\x.2.2.1.length<=35184372088321/\RInv V L al x.2.1 (val x.2.2.1) x.2.2.2)
  (fun|(e,_,r,_)=>[(11,.int .i64 e),(10,wL r)]) (fun|(_,_,_,Q)=>[(0,.arr 1 L (Q.map (.int .u32)))])
  (λx=>x.2.1) ((L:Int)-(n:Int),j0,al.drop (L+1-n),List.replicate L 0) ?_ (λ_=>rfl) ?_ ?_
 ·exact⟨hj0,(by omega : -35184372088832<=(L:Int)-(n:Int)),b8a,b8d,hI0⟩
 ·refine Zv ?_ ?_
  ·repeat' first|exact Zq|apply aI
   omega
  repeat' first|exact Zq|apply aI
  all_goals first|(simp;done)|exact qY ak
 rintro⟨e,j,rl,Q⟩ ⟨hej,hem,hwr,hrl,hI⟩ _;simp only at hej hem hwr hrl hI;refine ZS ?_ ?_<;>intro h
 ·obtain⟨k,rfl⟩:∃k,j=k+1:=⟨j-1,aj⟩;have hek:e=(k:Int):=aj;subst hek;have hjle:=hI.jle;have hQL:=hI.lq;have hkL:k<L:=aj;have hxa:=hwA.getD (i:=k);obtain⟨hS,hst⟩:=hI.step hVp aj;conv=>whnf
  refine vH 0 rfl aj ?_;generalize al.getD k 0=x0 at *;obtain⟨x,rfl⟩:∃x:Nat,x0=x:=⟨x0.toNat,aj⟩;rw[aO]at hS hst;have ct:=yE ((x:Int)::rl) aA;rw[a2a,aO]at ct;generalize hSS:x+4294967296*val rl=S at *;have hSB:S<4294967296^(n+1):=(by have k1:4294967296*V<=4294967296*4294967296^n:=dn _ aj;rw[bU,dJ];omega);conv=>whnf
  refine .pure (by simp[maxL];omega) aA ?_;conv=>whnf
  refine .gen _ _ (qZ.vX ct ?_ ⟨rfl,rfl⟩) λ_=>?_;{exact wk};have cw1:=yD (wd S) n;have cw0:=yD (wd S) (n-1);have cwt:=yD vl (n-1);rw[a4Q]at cw1 cw0;rw[hgV]at cwt;have hhd:=head_eq hn1 hSB;have hh1:S / 4294967296^n % 4294967296<4294967296:=gy _ aj;have hh0:S / 4294967296^(n-1) % 4294967296<4294967296:=gy _ aj;have b7L:=b4y (V:=V) (s:=S) (p:=4294967296^(n-1)) (gG aj) TP b6G (by rw[eU hVp];exact hS);generalize S / 4294967296^n % 4294967296=z1 at *;generalize S / 4294967296^(n-1) % 4294967296=z0 at *;generalize S / 4294967296^(n-1)=head at *;obtain⟨q,hq⟩:∃q,S / V=q:=⟨_,rfl⟩;rw[hq]at b7L hst;conv=>whnf
  refine .gen _ _ (qZ.vX cw1 (rQ _) ⟨rfl,rfl⟩) λ_=>?_;conv=>whnf
  refine⟨au,?_⟩;rw[I7 aj];conv=>whnf
  refine ZG ?_;rw[show(n:Int)-1=((n-1:Nat):Int) by omega];refine .gen _ _ (qZ.vX cw0 (rQ _) ⟨rfl,rfl⟩) λ_=>?_;conv=>whnf
  rw[P8 aj aj,hhd];conv=>whnf
  refine ZG ?_;rw[show(n:Int)-1=((n-1:Nat):Int) by omega];refine .gen _ _ (qZ.vX cwt (rQ _) ⟨rfl,rfl⟩) λ_=>?_;conv=>whnf
  refine⟨aj,?_⟩;rw[VD];conv=>whnf
  have hht:head / top<=head:=jS _ _;rw[wrap_u64 (n:=((head / top:Nat):Int)) aj aj];rw[show min ((head / top:Nat):Int) 4294967295=((min (head / top) 4294967295:Nat):Int) by omega];have hg1:min (head / top) 4294967295<4294967296:=aj;generalize min (head / top) 4294967295=g0 at *;rw[wrap_u32 (n:=(g0:Int)) aj aj];have cm:=b8v g0 hg1;rw[hvV,show val [(g0:Int)]=g0 by simp[val]]at cm;refine .gen _ _ (qZ.vX cm ?_ ⟨rfl,rfl⟩) λ_=>?_;{exact wk};conv=>whnf
  have hVg:∀g,g<4294967296->(wd (V*g)).length<=n+1:=(by intro g hg;refine Ec ?_;rw[bU];exact Nat.mul_lt_mul_of_lt_of_le hV2 aj aj);have hSl:=Ec hSB;refine qW.of <| qN.inv (.refl _ _) (λg:Nat=>q<=g/\g<4294967296) (λg=>[(12,.int .u64 g),(13,wL (wd (V*g)))]) (λ_=>[(0,.arr 1 L (Q.map (.int .u32)))])
   (λg=>g) g0 ?_ (λ_=>rfl) ?_ ?_
  ·exact⟨b7L,hg1⟩
  ·refine⟨?_,.refl rfl⟩;all_goals exact wk
  rintro g ⟨hqg,hgB⟩ _;have hgl:=hVg g hgB;have cc:=a7j (wd (V*g)) (wd S) aj aj;rw[rV,rV]at cc;have hcmp:(0<EX (V*g) S)↔S<V*g:=by unfold EX;split;{omega};split <;> omega
  refine ZW ?_;refine .gen _ _ (qZ.vX cc (rQ _) ⟨rfl,rfl⟩) λ_=>?_;conv=>whnf
  constructor<;>intro h
  ·have b8H:=b1V hq (hcmp.1 h);have cs:=a3h (wd (V*g)) vl aj aj _ rfl;have hsub:V*g-V=V*(g-1):=(by rw[Nat.mul_sub,iK]);have b8n:¬V*g<V:=(by have:V*1<=V*g:=dn _ aj;omega);rw[rV,hvV,aB b8n,hsub]at cs;conv=>whnf
   rw[show((g:Int)-1)=((g-1:Nat):Int) by omega,wrap_u64 (n:=((g-1:Nat):Int)) aj aj];conv=>whnf
   refine .gen _ _ (qZ.vX cs (rQ _) ⟨rfl,rfl⟩) λ_=>?_;conv=>whnf
   refine⟨g-1,?_,?_,?_⟩;{exact⟨aj,aj⟩};{refine⟨?_,.refl rfl⟩;all_goals exact wk};show g-1<g;omega
  have hgq:=b1U hVp hq hqg (λhh=>h (hcmp.2 hh));subst hgq;have cs:=a3h (wd S) (wd (V*g)) aj aj _ rfl;rw[rV,rV,aB (λhh=>h (hcmp.2 hh)),a8L hq]at cs;have hrl2:(wd (S % V)).length<=n:=Ec (fU (gy _ hVp) aj);conv=>whnf
  refine .gen _ _ (qZ.vX cs (rQ _) ⟨rfl,rfl⟩) λ_=>?_;conv=>whnf
  rw[wrap_u32 (n:=(g:Int)) aj aj];refine⟨⟨aj,aj⟩,?_⟩;dsimp only[CO];rw[Hy];dsimp only[zX];dsimp only[O6,xI];conv=>whnf
  refine⟨by rw[aC,hQL];omega,rfl,?_⟩;conv=>whnf
  refine ZG ?_;refine⟨((k:Int)-1,k,wd (S % V),Q.set k (g:Int)),?_,?_,?_⟩;{refine⟨.inl rfl,(by omega : -35184372088832<=(k:Int)-1),EJ _,(by omega:(wd (S % V)).length<=35184372088321),?_⟩;show RInv V L al k (val (wd (S % V))) (Q.set k (g:Int));rw[rV];exact hst}
  ·refine Zv wk ?_;repeat' first|exact Zq|apply aI
   refine qY ?_;rw[dP];simp[strip]
  show k<k+1;omega
 have hj:j=0:=aj;subst hj;have he:=hI.eq;have hl:=hI.lt;have hQL:=hI.lq;simp only[fG]at he;have f1:val Q=A / V:=(by rw[<- hvA,he,ku _ _ hVp,jH hl,bH]);have f2:val rl=A % V:=(by rw[<- hvA,he,kH,dW hl]);have hcq:=yE Q aj;rw[f1,hres.1]at hcq;have hcd:=b3k rl s hs aj;rw[f2,hres.2]at hcd;conv=>whnf
 refine .gen _ _ (qZ.YN 0 rfl rfl aA (qZ.vX hcq ?_ ⟨rfl,rfl⟩)) λ_=>?_
 ·repeat' first|exact Zq|apply aI
  refine qY ?_;simp;rw[bf aA]
 conv=>whnf
 refine .gen _ _ (qZ.vX hcd (rQ _) ⟨rfl,rfl⟩) λ_=>?_;conv=>whnf
 exact ZH
theorem a7G{v w i:Nat}(hv:v<4294967296^i)(hw:w≠0):zG (v+4294967296^i*w)=32*i+zG w:=by
 obtain⟨l,h1,h2,h3⟩:=Jp hw;rw[h1];have e:=a8P i l;have e2:=a8P i (l+1);have:=X0 (x:=v+4294967296^i*w) (l:=32*i+l) (by
  rw[<- e];have:4294967296^i*2^l<=4294967296^i*w:=dn _ h2;omega) (by
  rw[show 32*i+l+1=32*i+(l+1) by omega,<- e2];have h4:4294967296^i*(w+1)<=4294967296^i*2^(l+1):=dn _ h3;rw[dB]at h4;omega)
 rw[this];omega
theorem b3o(a:List Int)(ha:a.length<=1000000):ZQ 237 [wL a] [] (.int .i64 (zG (val a))) []:=by
 refine ZI Tryz.func237 λhok=>?_;have wa:Ws a:=Ws.ok hok.1.2;conv=>whnf
 refine⟨rW aA aA,?_⟩;conv=>whnf
 refine qW.of <| qN.inv (.refl _ _) (fun(n:Nat)=>n<=a.length/\val (a.drop n)=0) (fun(n:Nat)=>[(3,.int .i64 ((n:Int)-1))]) (λ_=>_) (fun(n:Nat)=>n) a.length ?_ (λ_=>rfl) ?_ ?_;{exact⟨aT _,by rw[iU];rfl⟩}
 ·repeat' first|exact Zq|apply aI
  simp
 rintro n ⟨hn,hd⟩ _;refine ZS ?_ ?_<;>intro h
 ·obtain⟨i,rfl⟩:∃i,n=i+1:=⟨n-1,aj⟩;have e1:(((i+1:Nat):Int)-1)=(i:Int):=aj;rw[e1];have hx:=wa.getD (i:=i);have hvd:=uK (l:=a) i aj;have hhd:=CG a i;have htl:=JD wa i;conv=>whnf
  refine vH 0 rfl aj ?_;obtain⟨x,hxx⟩:∃x:Nat,a.getD i 0=x:=⟨(a.getD i 0).toNat,aj⟩;rw[hxx]at hx hhd ⊢;rw[hd,gu,dR,aO]at hhd;rw[hhd]at hvd;conv=>whnf
  constructor<;>intro h1
  ·have hb:=JZ (x:=x) (n:=32) aj;conv=>whnf
   refine⟨rW aj aj,?_⟩;conv=>whnf
   refine vH 0 rfl aj ?_;rw[hxx];conv=>whnf
   refine .zK (a7q x aj) ?_;refine ZG ?_;refine ZF ?_;refine⟨rfl,?_⟩;rw[hvd,a7G htl aj];omega
  have hx0:x=0:=aj;conv=>whnf
  refine ZG ?_;refine⟨i,?_,?_,?_⟩;{exact⟨aj,by rw[hhd,hx0]⟩};{exact wk};omega
 have hn0:n=0:=aj;subst hn0;rw[fG]at hd;conv=>whnf
 refine ZF ?_;rw[hd];exact⟨rfl,rfl⟩
theorem a5R{p B x y o c C v0 vn w:Nat}(hC:C=c+(x*y+o))(e:vn+p*o=v0+p*(C % B))(h:v0+p*c=w):vn+p*B*(C / B)=w+p*(x*y):=by have e1:p*(C % B)+p*B*(C / B)=p*C:=(by rw[dA,<- dB,jR]);have e2:p*C=p*c+(p*(x*y)+p*o):=(by rw[hC,dB,dB]);omega
theorem b2m{P Q c vo vn x vb w:Nat}(h:vo+P*c=w+Q*x*vb)(e:vn=vo+P*c):vn=w+Q*x*vb:=aj
theorem XL(a b:List Int)(ha:a.length<=400000)(hb:b.length<=400000):ZQ 200 [wL a,wL b] [] (wL (wd (val a*val b))) []:=by
 refine ZI Tryz.func200 λhok=>?_;have wa:Ws a:=Ws.ok hok.1.2;have wb:Ws b:=Ws.ok hok.2.1.2;conv=>whnf
 refine⟨rW aA aA,?_⟩;obtain⟨m,hm⟩:∃m,a.length+b.length=m:=⟨_,rfl⟩;rw[show(((a.map (AV.int .u32)).length:Nat):Int)+(((b.map (AV.int .u32)).length:Nat):Int)=(m:Int) by simp;omega];conv=>whnf
 refine⟨⟨aj,aj,aA,aj⟩,.wr ?_⟩;conv=>whnf
 refine qW.of <| qN.inv (.refl _ _) (λx:Nat×List Int=>x.1<=a.length/\Ws x.2/\x.2.length=m/\val x.2=val (a.take x.1)*val b/\∀k,x.1+b.length<=k->x.2.getD k 0=0)
  (fun|(i,_)=>[(19,.int .i64 i)]) (fun|(_,out)=>[(0,.arr 1 m (out.map (.int .u32)))])
  (λx=>a.length-x.1) (0,List.replicate m 0) ?_ (λ_=>rfl) ?_ ?_
 ·refine⟨aP _,?_,ak,?_,?_⟩;{intro x hx;rw[(fF.1 hx).2];omega};{rw[Di (λx hx=>(fF.1 hx).2)];simp[val]};intro k _;rw[aF,eH];split <;> rfl
 ·refine Zv wk ?_;repeat' first|exact Zq|apply aI
  all_goals first|(simp;done)|exact qY ak
 rintro⟨i,out⟩ ⟨hi,hwo,hol,hv,hz⟩ _;simp only at hi hwo hol hv hz;refine ZS ?_ ?_<;>intro h
 ·have hlt:i<a.length:=(by simpa using h);have hva:=sO (l:=a) (i:=i);have hxa:=wa.getD (i:=i);conv=>whnf
  refine vH 0 rfl hlt ?_;generalize a.getD i 0=x0 at *;obtain⟨x,rfl⟩:∃x:Nat,x0=x:=⟨x0.toNat,aj⟩;rw[aO]at hva;conv=>whnf
  refine qW.of <| qN.inv (.refl _ _) (λz:Nat×Nat×List Int=>z.1<=b.length/\z.2.1<4294967296/\Ws z.2.2/\z.2.2.length=m/\val z.2.2+4294967296^(i+z.1)*z.2.1=val out+4294967296^i*x*val (b.take z.1)/\∀k,i+b.length<=k->z.2.2.getD k 0=0)
   (fun|(j,c,_)=>[(26,.int .i64 j),(8,.int .u64 c)]) (fun|(_,_,o)=>[(0,.arr 1 m (o.map (.int .u32)))])
   (λz=>b.length-z.1) (0,0,out) ?_ (λ_=>rfl) ?_ ?_
  ·exact⟨aP _,(by omega:0<4294967296),hwo,hol,by simp[val],hz⟩
  ·exact Zv wk wk
  rintro⟨j,c,o⟩ ⟨hj,hc,a9m,b2C,hv2,hz2⟩ _;simp only at hj hc a9m b2C hv2 hz2;refine ZS ?_ ?_<;>intro h
  ·have hjlt:j<b.length:=(by simpa using h);have hvb:=sO (l:=b) (i:=j);have hxb:=wb.getD (i:=j);have hoo:=a9m.getD (i:=i+j);have hij:i+j<o.length:=aj;conv=>whnf
   refine vH 0 rfl hjlt ?_;generalize b.getD j 0=y0 at *;obtain⟨y,rfl⟩:∃x:Nat,y0=x:=⟨y0.toNat,aj⟩;rw[aO]at hvb;have hxy:x*y<=4294967295*4294967295:=gU aj aj;conv=>whnf
   rw[wrap_u64 (n:=(x:Int)) aj aj,wrap_u64 (n:=(y:Int)) aj aj];rw[show((x:Int)*(y:Int))=((x*y:Nat):Int)from(lK x y).symm,wrap_u64 (n:=((x*y:Nat):Int)) aj aj];refine ZG ?_;refine⟨⟨aj,aj⟩,?_⟩;conv=>whnf
   refine vH 0 (i:=i+j) aj hij ?_;refine⟨rfl,?_⟩;obtain⟨ow,how⟩:∃w:Nat,o.getD (i+j) 0=w:=⟨(o.getD (i+j) 0).toNat,aj⟩;rw[how]at hoo ⊢;conv=>whnf
   rw[wrap_u64 (n:=(ow:Int)) aj aj];rw[show(((x*y:Nat):Int)+(ow:Int))=((x*y+ow:Nat):Int)from(gY (x*y) ow).symm,wrap_u64 (n:=((x*y+ow:Nat):Int)) aj aj];rw[show((c:Int)+((x*y+ow:Nat):Int))=((c+(x*y+ow):Nat):Int)from(gY c (x*y+ow)).symm,wrap_u64 (n:=((c+(x*y+ow):Nat):Int)) aj aj];obtain⟨C,hC⟩:∃C,c+(x*y+ow)=C:=⟨_,rfl⟩;rw[hC];conv=>whnf
   refine ZG ?_;rw[vS (a:=C)];refine⟨⟨aj,aj⟩,?_⟩;dsimp only[CO];rw[Hy];dsimp only[zX];dsimp only[O6,xI];conv=>whnf
   refine⟨by rw[aC];omega,rfl,?_⟩;conv=>whnf
   refine⟨au,?_⟩;rw[Dx rfl];conv=>whnf
   refine ZG ?_;have hCl:C / 4294967296<4294967296:=aj;have hset:=JA (x:=((C % 4294967296:Nat):Int)) hij;rw[<- vg (x:=0) hij,how,aO,aO]at hset;refine⟨(j+1,C / 4294967296,o.set (i+j) ((C % 4294967296:Nat):Int)),?_,?_,?_⟩;{refine⟨hjlt,hCl,a9m.set aj,by simpa using b2C,?_,?_⟩;{show val (o.set (i+j) ((C % 4294967296:Nat):Int))+4294967296^(i+(j+1))*(C / 4294967296)=val out+4294967296^i*x*val (b.take (j+1));rw[<- iW,bU,hvb,dB,<- ZL (x:=x),<- iY,<- iW];exact a5R (p:=4294967296^(i+j)) (x:=x) (y:=y) (o:=ow) (c:=c) hC.symm hset hv2};intro k hk;have h1:=hz2 k hk;show(o.set (i+j) _).getD k 0=0;rw[aF]at h1 ⊢;rw[iZ aj];exact h1}
   ·refine Zv wk ?_;repeat' first|exact Zq|apply aI
    refine qY ?_;rw[dP,show(0+((i:Int)+(j:Int)).toNat)=i+j by omega];simp[strip]
   show b.length-(j+1)<b.length-j;omega
  have hjl:j=b.length:=(by have:¬j<b.length:=(by simpa using h);omega);subst hjl;rw[bn,hv]at hv2;have hij:i+b.length<o.length:=aj;have hset:=JA (x:=(c:Int)) hij;have h0:=hz2 (i+b.length) (aT _);rw[<- vg (x:=0) hij,h0,aO]at hset;rw[show(0:Int).toNat=0 from rfl,gu,dR]at hset;conv=>whnf
  refine⟨rW aA aA,?_⟩;rw[show(i:Int)+(((b.map (AV.int .u32)).length:Nat):Int)=((i+b.length:Nat):Int) by simp];conv=>whnf
  rw[wrap_u32 (n:=(c:Int)) aj aj];refine⟨⟨aj,aj⟩,?_⟩;dsimp only[CO];rw[Hy];dsimp only[zX];dsimp only[O6,xI];conv=>whnf
  refine⟨by rw[aC];omega,rfl,?_⟩;conv=>whnf
  refine ZG ?_;refine⟨(i+1,o.set (i+b.length) (c:Int)),?_,?_,?_⟩;{refine⟨hlt,a9m.set aj,by simpa using b2C,?_,?_⟩;{show val (o.set (i+b.length) (c:Int))=val (a.take (i+1))*val b;rw[hva,dw];exact b2m hv2 hset};intro k hk;have hk:i+1+b.length<=k:=hk;have h1:=hz2 k aj;show(o.set (i+b.length) _).getD k 0=0;rw[aF]at h1 ⊢;rw[iZ aj];exact h1}
  ·refine Zv wk ?_;repeat' first|exact Zq|apply aI
   refine qY ?_;rw[dP];simp[strip];try rw[show((i:Int)+(b.length:Int)).toNat=i+b.length by omega]
  show a.length-(i+1)<a.length-i;omega
 have hil:i=a.length:=(by have:¬i<a.length:=(by simpa using h);omega);subst hil;rw[bn]at hv;have ct:=CX out aj;rw[hv]at ct;conv=>whnf
 refine .gen _ _ (qZ.YN 0 rfl rfl aA (qZ.vX ct ?_ ⟨rfl,rfl⟩)) λ_=>?_
 ·repeat' first|exact Zq|apply aI
  refine qY ?_;simp;rw[bf aA]
 conv=>whnf
 exact ZH
def y9(neg:Bool)(n d:Nat):Rat:=if n=0 then⟨false,[],[]⟩else⟨neg,wd (n / Nat.gcd n d),wd (d / Nat.gcd n d)⟩
def qR(r:Rat):Bool×Nat×Nat:=if valid r=true/\r.num≠[]then(r.neg,val r.num,val r.den)else(false,0,1)
def mulR(a b:Rat):Rat:=y9 (decide ((qR a).1≠(qR b).1)) ((qR a).2.1*(qR b).2.1) ((qR a).2.2*(qR b).2.2)
theorem wz{x y k l:Nat}(hx:(wd x).length<=k)(hy:(wd y).length<=l):(wd (x*y)).length<=k+l:=by refine Ec ?_;have h1:=wK (EJ x);have h2:=wK (EJ y);rw[rV]at h1 h2;have h3:4294967296^(wd x).length<=4294967296^k:=bZ aj hx;have h4:4294967296^(wd y).length<=4294967296^l:=bZ aj hy;rw[iY];exact Nat.mul_lt_mul_of_lt_of_le aj aj aj
theorem Dp{x:Nat}:zG x=0↔x=0:=by unfold zG;split;{simp[*]};simp[*]
theorem b0n{x:Nat}:zG x=1↔x=1:=by
 by_cases h:x=0;{subst h;simp[zG]};obtain⟨l,h1,h2,h3⟩:=Jp h;rw[h1];constructor;{intro e;obtain rfl:l=0:=aj;simp at h3;omega};intro e;subst e;have:2^l<=2^0:=by simpa using h2
 have:=(Nat.pow_le_pow_iff_right (a:=2) aj).1 this;omega
theorem SA(neg:Bool)(n d:Nat)(hn:(wd n).length<=900000)(hd:(wd d).length<=900000)(_:d≠0):ZQ 201 [.bool neg,wL (wd n),wL (wd d)] [] (y9 neg n d).av []:=by
 have cb:=b3o (wd n) aj;rw[rV]at cb;by_cases hz:n=0
 ·have hb:zG n=0:=Dp.2 hz;rw[hb]at cb;rw[show y9 neg n d=⟨false,[],[]⟩from aG hz];refine ZI Tryz.func201 λhok=>?_;conv=>whnf
  refine .zK cb ?_;refine aQ (λ_=>?_) (λh=>absurd rfl h);conv=>whnf
  exact ZH
 have hb:zG n≠0:=λh=>hz (Dp.1 h);have hg0:Nat.gcd n d≠0:=(by have:=je d (show 0<n by omega);omega);have hgn:Nat.gcd n d<=n:=kM d aj;have hgl:=sS hgn;have cg:=b5M (wd n) (wd d) aj aj λx y hy hx hy'=>(by rw[rV,rV]at hx hy';have k:∀z,z<=max n d->(wd z).length<=900000:=(by intro z hz;rcases Nat.le_total n d with hab|hab;{rw[Nat.max_eq_right hab]at hz;have:=sS hz;omega};rw[Nat.max_eq_left hab]at hz;have:=sS hz;omega);have k1:=k x hx;have k2:=k y hy';exact divC x y aj aj hy);rw[rV,rV]at cg;have d1:=divC n (Nat.gcd n d) aj aj hg0;have d2:=divC d (Nat.gcd n d) aj aj hg0;unfold b1A at d1 d2;rw[show y9 neg n d=⟨neg,wd (n / Nat.gcd n d),wd (d / Nat.gcd n d)⟩from aB hz];generalize Nat.gcd n d=g at *;refine ZI Tryz.func201 λhok=>?_;conv=>whnf
 refine .zK cb ?_;refine aQ (λh=>by exfalso;omega) (λ_=>?_);conv=>whnf
 refine .zK cg ?_;refine .zK d1 ?_;refine .zK d2 ?_;exact ZH
theorem DC{l:List Int}(h:wM l=true)(hw:Ws l):wd (val l)=l/\val l≠0:=by simp only[wM,aK,bT]at h;have e:=a4O hw (.inr h.2);refine⟨e,λh0=>h.1 ?_⟩;rw[h0,yw]at e;exact e.symm
structure b3Y(r:Rat):Prop where
 den:(qR r).2.2≠0
 ln:(wd (qR r).2.1).length<=400000
 ld:(wd (qR r).2.2).length<=400000
 eq:(if valid r=true/\r.num≠[]then AV.uy [.bool r.neg,wL r.num,wL r.den]else .uy [.bool false,wL [],wL [1]])=.uy [.bool (qR r).1,wL (wd (qR r).2.1),wL (wd (qR r).2.2)]
theorem UH{r:Rat}(w1:Ws r.num)(w2:Ws r.den):(qR r).2.2≠0/\(if valid r=true/\r.num≠[]then AV.uy [.bool r.neg,wL r.num,wL r.den]else .uy [.bool false,wL [],wL [1]])=.uy [.bool (qR r).1,wL (wd (qR r).2.1),wL (wd (qR r).2.2)]:=by by_cases h:valid r=true/\r.num≠[];{have hp:qR r=(r.neg,val r.num,val r.den):=aG h;obtain⟨h1,h2⟩:=h;have h1':=h1;unfold valid at h1;rw[aB (λh=>h2 h.1)]at h1;simp only[aK]at h1;obtain⟨e1,_⟩:=DC h1.1.1 w1;obtain⟨e2,n2⟩:=DC h1.1.2 w2;refine⟨?_,?_⟩;{rw[hp];exact n2};rw[aG ⟨h1',h2⟩,hp,show wd (r.neg,val r.num,val r.den).2.1=r.num from e1,show wd (r.neg,val r.num,val r.den).2.2=r.den from e2]};have hp:qR r=(false,0,1):=aB h;have e1:wd 1=[1]:=Dv aj aj;refine⟨?_,?_⟩;{rw[hp];decide};rw[aB h,hp,show wd ((false,0,1):Bool×Nat×Nat).2.1=[]from yw,show wd ((false,0,1):Bool×Nat×Nat).2.2=[1]from e1]
theorem MQ{r:Rat}(w1:Ws r.num)(w2:Ws r.den)(l1:r.num.length<=400000)(l2:r.den.length<=400000):b3Y r:=by obtain⟨g1,g2⟩:=UH w1 w2;have hl:(wd (qR r).2.1).length<=400000/\(wd (qR r).2.2).length<=400000:=(by by_cases h:valid r=true/\r.num≠[];{have hp:qR r=(r.neg,val r.num,val r.den):=aG h;rw[hp];exact⟨dI (wE w1) l1,dI (wE w2) l2⟩};have e1:wd 1=[1]:=Dv aj aj;rw[show qR r=(false,0,1)from aB h,show wd ((false,0,1):Bool×Nat×Nat).2.1=[]from yw,show wd ((false,0,1):Bool×Nat×Nat).2.2=[1]from e1];simp);exact⟨g1,hl.1,hl.2,g2⟩
theorem yx{r:Rat}{l:List AV}(h:KH (r.av::l)):Ws r.num/\Ws r.den:=⟨Ws.ok h.1.2.1.2,Ws.ok h.1.2.2.1.2⟩
theorem a98(a b:Rat)(a1:a.num.length<=400000)(a2:a.den.length<=400000)(b1:b.num.length<=400000)(b2:b.den.length<=400000):ZQ 236 [a.av,b.av] [] (mulR a b).av []:=by
 have ca:=Nr a (KR a aj aj).v;have cb:=Nr b (KR b aj aj).v;refine ZI Tryz.func236 λhok=>?_;have pa:=MQ (yx hok).1 (yx hok).2 a1 a2;have pb:=MQ (yx hok.2).1 (yx hok.2).2 b1 b2;rw[pa.eq]at ca;rw[pb.eq]at cb;have hm:mulR a b=y9 (decide ((qR a).1≠(qR b).1)) ((qR a).2.1*(qR b).2.1) ((qR a).2.2*(qR b).2.2):=rfl;have m1:=XL (wd (qR a).2.1) (wd (qR b).2.1) pa.ln pb.ln;have m2:=XL (wd (qR a).2.2) (wd (qR b).2.2) pa.ld pb.ld;rw[rV,rV]at m1 m2;have l1:=wz pa.ln pb.ln;have l2:=wz pa.ld pb.ld;have hne:(qR a).2.2*(qR b).2.2≠0:=jQ pa.den pb.den;have cf:=SA (decide ((qR a).1≠(qR b).1)) ((qR a).2.1*(qR b).2.1) ((qR a).2.2*(qR b).2.2) aj aj hne;rw[<- hm]at cf;generalize mulR a b=R at *;clear hm;generalize (qR a).2.1*(qR b).2.1=n at *;generalize (qR a).2.2*(qR b).2.2=d at *;conv=>whnf
 refine .zK ca ?_;refine .zK cb ?_;refine .zK m1 ?_;refine .zK m2 ?_;refine .pure _ _ ?_ ⟨rfl,rfl⟩ cf λ_=>?_;{refine⟨?_,tZ _,tZ _,trivial⟩;show _↔_;simp};conv=>whnf
 exact ZH
theorem a0F(l:List Int)(hl:l.length<=1000000):ZQ 106 [wL l] [] (wL l) []:=by
 refine ZI Tryz.func106 λhok=>?_;conv=>whnf
 intro b hb;conv=>whnf
 constructor<;>intro h
 ·have:l=[]:=(by simpa using hb h);subst this;conv=>whnf
  refine ZF ?_;rfl
 conv=>whnf
 refine .pure (by simp[maxL];omega) aA ?_;conv=>whnf
 exact ZH
theorem a7i(a b:List Int)(ha:a.length<=35184372088320)(hb:b.length<=35184372088320):ZQ 108 [wL a,wL b] [] (wL (wd (Nat.gcd (val a) (val b)))) []:=by
 refine ZI Tryz.func108 λhok=>?_;have wa:Ws a:=Ws.ok hok.1.2;have wb:Ws b:=Ws.ok hok.2.1.2;have la:=wE wa;have lb:=wE wb;conv=>whnf
 refine .zK (yE a aj) ?_;refine .zK (yE b aj) ?_;refine qW.of <| qN.inv (.refl _ _) (fun(x:Nat×Nat)=>(wd x.1).length<=35184372088320/\(wd x.2).length<=35184372088320/\Nat.gcd x.1 x.2=Nat.gcd (val a) (val b)) (fun(x:Nat×Nat)=>[(0,wL (wd x.1)),(1,wL (wd x.2))]) (λ_=>_) (fun(x:Nat×Nat)=>x.2) (val a,val b) ?_ (λ_=>rfl) ?_ ?_;{exact⟨(by omega:(wd (val a)).length<=35184372088320),(by omega:(wd (val b)).length<=35184372088320),rfl⟩};{exact wk};rintro⟨x,y⟩ ⟨h1,h2,h3⟩ _;simp only at h1 h2 h3;refine ZS ?_ ?_<;>intro h
 ·have h0:y≠0:=(by intro e;subst e;simp[yw]at h);have cd:=XK (wd x) (wd y) h1 h2 (by rw[rV];exact h0);rw[rV,rV]at cd;have hm:x % y<y:=gy _ aj;have hml:=sS (Nat.le_of_lt hm);conv=>whnf
  refine .zK cd ?_;refine⟨(y,x % y),?_,?_,?_⟩;{refine⟨h2,(by omega:(wd (x % y)).length<=35184372088320),?_⟩;show Nat.gcd y (x % y)=_;rw[<- h3,mY x y,Nat.gcd_rec y x];try exact mY _ _};{exact wk};show x % y<y;exact hm
 have h0:y=0:=(by apply aS;intro hy;apply h;show(0:Int)<((wd y).map _).length;rw[BO hy];simp);subst h0;conv=>whnf
 refine ZF ?_;refine⟨rfl,qY ?_⟩;rw[<- h3,Nat.gcd_zero_right]
theorem F8(a:List Int)(k:Nat)(e:k=a.length-1):a.getD k 0=a.getLastD 0:=by subst e;rw[iP,iQ,aF]
theorem XJ(r:Rat)(l1:r.num.length<=35184372088320)(l2:r.den.length<=35184372088320):ZQ 172 [r.av] [] (.bool (valid r)) []:=by
 have cg:=a7i r.num r.den l1 l2;refine ZI Tryz.func172 λhok=>?_;have w:=yx hok;have hgl:(wd (Nat.gcd (val r.num) (val r.den))).length<=35184372088832:=(by have k1:=wE w.1;have k2:=wE w.2;by_cases h0:val r.num=0;{rw[h0,Nat.gcd_zero_left];omega};have:=sS (kM (val r.den) (by omega:0<val r.num));omega);have cb:=QI (wd (Nat.gcd (val r.num) (val r.den))) hgl;rw[rV]at cb;have h1:=b0n (x:=Nat.gcd (val r.num) (val r.den));have hval:¬r.num=[]->(valid r=true↔wM r.num=true/\wM r.den=true/\Nat.gcd (val r.num) (val r.den)=1):=λn1=>(by simp[valid,n1,and_assoc]);generalize Nat.gcd (val r.num) (val r.den)=g at *;have en:(((r.num.map (AV.int .u32)).length:Nat):Int)=(r.num.length:Int):=ak;have ed:(((r.den.map (AV.int .u32)).length:Nat):Int)=(r.den.length:Int):=ak;conv=>whnf
 refine ZR ?_;constructor<;>intro n1
 ·have n1:r.num=[]:=bQ (by rw[en]at n1;omega);conv=>whnf
  constructor<;>intro n2
  ·(conv=>whnf);constructor<;>intro n3
   ·have n3:r.den=[]:=bQ (by rw[ed]at n3;omega);conv=>whnf
    refine ZF ?_;simp[valid,n1,n3]
   have n3:¬r.den=[]:=λe=>n3 (by rw[e];rfl);conv=>whnf
   refine ZF ?_;simp[valid,n1,n3,wM]
  exact absurd (by rw[n1];rfl) n2
 have n1:¬r.num=[]:=λe=>n1 (by rw[e];rfl);conv=>whnf
 constructor<;>intro n2
 ·have n2:r.den=[]:=bQ (by rw[ed]at n2;omega);conv=>whnf
  constructor<;>intro n3;{exact absurd (bQ (by rw[en]at n3;omega)) n1};conv=>whnf
  refine ZF ?_;simp[valid,n1,n2,wM]
 have n2:¬r.den=[]:=λe=>n2 (by rw[e];rfl);have p1:0<r.num.length:=jl.2 n1;have p2:0<r.den.length:=jl.2 n2;refine ZW ?_;refine aQ (rW (by rw[en];omega) (by rw[en];omega)) (ZW ?_);refine vH 0 (i:=r.num.length-1) (by rw[en];omega) aj ?_;refine ZS ?_ ?_<;>intro n3;{refine ZW ?_;refine aQ (rW (by rw[ed];omega) (by rw[ed];omega)) (ZW ?_);refine vH 0 (i:=r.den.length-1) (by rw[ed];omega) aj ?_;refine ZS ?_ ?_<;>intro n4;{refine ZW ?_;refine .zW cg ?_;refine .zW cb ?_;refine ZF ?_;show _↔_;have n3:¬r.num.getLastD 0=0:=(by rw[<- F8 r.num _ rfl];simpa using n3);have n4:¬r.den.getLastD 0=0:=(by rw[<- F8 r.den _ rfl];simpa using n4);rw[hval n1];have q1:wM r.num=true:=(by simp[wM,n1,n3,-List.getLastD_eq_getLast?]);have q2:wM r.den=true:=(by simp[wM,n2,n4,-List.getLastD_eq_getLast?]);rw[q1,q2];simp;omega};refine ZW ?_;refine ZF ?_;have n4:r.den.getLastD 0=0:=(by rw[<- F8 r.den _ rfl];simpa using n4);have q:wM r.den=false:=(by simp[wM,n4,-List.getLastD_eq_getLast?]);simp[valid,n1,q]};refine ZW ?_;refine ZF ?_;have n3:r.num.getLastD 0=0:=(by rw[<- F8 r.num _ rfl];simpa using n3);have q:wM r.num=false:=(by simp[wM,n3,-List.getLastD_eq_getLast?]);simp[valid,n1,q]
theorem QG(r:Rat)(l1:r.num.length<=35184372088320)(l2:r.den.length<=35184372088320) :
  ZQ 227 [r.av] [] (if valid r=true/\r.num≠[]then .uy [.bool r.neg,wL r.num,wL r.den]else .uy [.bool false,wL [],wL [1]]) []:=by
 have cv:=XJ r l1 l2;generalize hR:(if valid r=true/\r.num≠[]then AV.uy [.bool r.neg,wL r.num,wL r.den]else .uy [.bool false,wL [],wL [1]])=R;refine ZI Tryz.func227 λhok=>?_;have en:(((r.num.map (AV.int .u32)).length:Nat):Int)=(r.num.length:Int):=ak;refine Z0 ?_;refine .zW cv ?_;constructor<;>intro p1;{have p1:valid r=false:=(by simpa using p1);rw[aB (by simp[p1])]at hR;subst hR;exact ZJ};have p1:valid r=true:=(by simpa using p1);refine ZS ?_ ?_<;>intro p2;{have p2:r.num=[]:=bQ (by rw[en]at p2;omega);rw[aB (by simp[p2])]at hR;subst hR;exact ZJ};have p2:¬r.num=[]:=λe=>p2 (by rw[e];rfl);rw[aG ⟨p1,p2⟩]at hR;subst hR;refine ZW ?_;refine ZR ?_;exact ZH
theorem UR(neg:Bool)(n d:Nat)(hn:(wd n).length<=35184372088320)(hd:(wd d).length<=35184372088320)(h0:d≠0):ZQ 53 [.bool neg,wL (wd n),wL (wd d)] [] (.uy [(y9 neg n d).av,.int .i64 0]) []:=by have cb:=QI (wd n) aj;have cd:=QI (wd d) aj;rw[rV]at cb cd;have hbd:zG d≠0:=λh=>h0 (Dp.1 h);by_cases hz:n=0;{have hb:zG n=0:=Dp.2 hz;rw[hb]at cb;rw[show y9 neg n d=⟨false,[],[]⟩from aG hz];refine ZN Tryz.func53 λhok=>?_;refine .zW cd ?_;refine aQ (λh=>by exfalso;omega) (λ_=>ZW ?_);refine .zW cb ?_;refine aQ (λ_=>?_) (λh=>absurd rfl h);exact ZJ};have hb:zG n≠0:=λh=>hz (Dp.1 h);have hg0:Nat.gcd n d≠0:=(by have:=je d (show 0<n by omega);omega);have hgn:Nat.gcd n d<=n:=kM d aj;have hgl:=sS hgn;have cg:=a7i (wd n) (wd d) aj aj;rw[rV,rV]at cg;have d1:=XK (wd n) (wd (Nat.gcd n d)) aj aj (by rw[rV];exact hg0);have d2:=XK (wd d) (wd (Nat.gcd n d)) aj aj (by rw[rV];exact hg0);rw[rV,rV]at d1 d2;rw[show y9 neg n d=⟨neg,wd (n / Nat.gcd n d),wd (d / Nat.gcd n d)⟩from aB hz];generalize Nat.gcd n d=g at *;refine ZN Tryz.func53 λhok=>?_;refine .zW cd ?_;refine aQ (λh=>by exfalso;omega) (λ_=>ZW ?_);refine .zW cb ?_;refine aQ (λh=>by exfalso;omega) (λ_=>ZW ?_);refine .zW cg ?_;refine .zW d1 ?_;refine .zW d2 ?_;exact ZH
theorem KW{r:Rat}{N:Nat}(hN:1<=N)(w1:Ws r.num)(w2:Ws r.den)(l1:r.num.length<=N)(l2:r.den.length<=N):(wd (qR r).2.1).length<=N/\(wd (qR r).2.2).length<=N:=by by_cases h:valid r=true/\r.num≠[];{have hp:qR r=(r.neg,val r.num,val r.den):=aG h;obtain⟨h1,h2⟩:=h;unfold valid at h1;rw[aB (λh=>h2 h.1)]at h1;simp only[aK]at h1;obtain⟨e1,_⟩:=DC h1.1.1 w1;obtain⟨e2,n2⟩:=DC h1.1.2 w2;rw[hp,show wd (r.neg,val r.num,val r.den).2.1=r.num from e1,show wd (r.neg,val r.num,val r.den).2.2=r.den from e2];exact⟨l1,l2⟩};have hp:qR r=(false,0,1):=aB h;have e1:wd 1=[1]:=Dv aj aj;rw[hp,show wd ((false,0,1):Bool×Nat×Nat).2.1=[]from yw,show wd ((false,0,1):Bool×Nat×Nat).2.2=[1]from e1];exact⟨ak,by simpa using hN⟩
theorem UG{r:Rat}(w1:Ws r.num)(w2:Ws r.den)(l1:r.num.length<=100000)(l2:r.den.length<=100000):(wd (qR r).2.1).length<=100000/\(wd (qR r).2.2).length<=100000:=KW aj w1 w2 l1 l2
theorem a6Z(a b:List Int):ZQ 68 [wL a,wL b] [] (.bool (decide (a=b))) []:=by
 refine ZI Tryz.func68 λhok=>?_;have ha:a.length<=9223372036854775807:=(by simpa[KH,Ok,maxL]using hok.1.1);refine Z0 ?_;constructor<;>intro h
 ·have h:a≠b:=(by intro e;apply h;rw[e]);conv=>whnf
  refine ZF ?_;simpa using h
 have h:a.length=b.length:=(by simp only[aC]at h;omega);refine ZW ?_;refine qW.of <| qN.inv (.refl _ _) (fun(i:Nat)=>i<=a.length/\(a=b↔a.drop i=b.drop i)) (fun(i:Nat)=>[(13,.int .i64 i)]) (λ_=>_) (fun(i:Nat)=>a.length-i) 0 ?_ (λ_=>rfl) ?_ ?_;{exact⟨aP _,ak⟩};{exact wk};rintro i ⟨hi,hx⟩ _;refine ZS ?_ ?_<;>intro h1;{have hlt:i<a.length:=(by simpa using h1);have hlt2:i<b.length:=aj;rw[aZ hlt,aZ hlt2]at hx;refine ZW ?_;refine ZR ?_;refine sH hlt (ZW ?_);refine sH hlt2 ?_;refine ZS ?_ ?_<;>intro h2;{refine ZW ?_;refine ZF ?_;have:¬a=b:=λe=>h2 (by simpa using(nN (hx.1 e)).1);simpa using this};have h2:a[i]=b[i]:=(by simpa using h2);refine ZW ?_;refine ZG ?_;refine⟨i+1,?_,?_,?_⟩;{refine⟨hlt,?_⟩;rw[hx,h2];exact⟨λe=>(nN e).2,λe=>by rw[e]⟩};{exact wk};omega};have hil:i=a.length:=(by have:¬i<a.length:=(by simpa using h1);omega);refine ZW ?_;refine ZF ?_;have:a=b:=hx.2 (by rw[hil,iU,h,iU]);simpa using this
theorem b3h(a b:Rat):ZQ 20 [a.av,b.av] [] (.bool (decide (a=b))) []:=by
 have c1:=a6Z a.num b.num;have c2:=a6Z a.den b.den;have e:a=b↔a.neg=b.neg/\a.num=b.num/\a.den=b.den:=by cases a;cases b;simp
 refine ZN Tryz.func20 λhok=>?_;constructor<;>intro h1;{refine ZW ?_;refine .zW c1 ?_;constructor<;>intro h2;{have h2:a.num=b.num:=(by simpa using h2);refine ZW ?_;refine .zW c2 ?_;refine ZF ?_;simp[e,h1,h2]};have h2:¬a.num=b.num:=(by simpa using h2);refine ZW ?_;refine ZF ?_;simp[e,h2]};refine ZW ?_;refine ZF ?_;simp[e,h1]
def DV(k:Int):Int×Int :=
 if k=0\/k=1\/k=4\/k=2 then(1,16)else if k=3 then(1,1)else if k=5 then(2,2)else if k=6\/k=7\/k=8 then(2,16)else(0,0)
theorem V4{p x y c s va vb D:Nat}(hD:x+y+c=D)(h:s+p*c=va+vb):s+p*(D % 4294967296)+p*4294967296*(D / 4294967296)=va+p*x+(vb+p*y):=by have e:D=D % 4294967296+4294967296*(D / 4294967296):=(jR _ _).symm;have e2:p*D=p*(D % 4294967296)+p*(4294967296*(D / 4294967296)):=(by rw[<- dB,<- e]);have e3:p*D=p*x+p*y+p*c:=(by rw[<- hD,dB,dB]);rw[<- dA]at e2;omega
theorem a2q{B m la lb a b s c:Nat}(hB:2<=B)(ha:a<B^la)(hb:b<B^lb)(hla:la<m)(hlb:lb<m)(h:s+B^m*c=a+b):s=a+b:=by
 have h1:B^la<=B^(m-1):=bZ aj aj;have h2:B^lb<=B^(m-1):=bZ aj aj;have h3:B^m=B^(m-1)*B:=(by rw[<- bU];congr 1;omega);have h4:B^(m-1)*2<=B^(m-1)*B:=dn _ hB;cases c with
 |zero=>simpa using h
 |succ c =>exfalso;have h5:B^m*1<=B^m*(c+1):=dn _ aj;rw[h3]at h5 h;omega
theorem b3n(a b:List Int)(ha:a.length<=35184372088831)(hb:b.length<=35184372088831):ZQ 254 [wL a,wL b] [] (wL (wd (val a+val b))) []:=by
 refine ZI Tryz.func254 λhok=>?_;have wa:Ws a:=Ws.ok hok.1.2;have wb:Ws b:=Ws.ok hok.2.1.2;refine Z0 ?_;obtain⟨m,hm⟩:∃m,max a.length b.length+1=m:=⟨_,rfl⟩;have em:max (((a.map (AV.int .u32)).length:Nat):Int) (((b.map (AV.int .u32)).length:Nat):Int)+1=(m:Int):=(by simp only[aC];omega);refine aQ (by rw[em];exact rW aj aj) ?_;rw[em];conv=>whnf
 refine qW.of <| qN.inv (.grow 5 1 [] _ rfl (.inl ⟨rfl,rfl⟩) (.refl _ _)) (λx:Nat×Nat×List Int=>x.1<=m/\x.2.1<=1/\Ws x.2.2/\x.2.2.length=x.1/\val x.2.2+4294967296^x.1*x.2.1=val (a.take x.1)+val (b.take x.1))
  (fun|(i,c,s)=>[(15,.int .i64 i),(6,.int .u64 c),(5,.sl 1 (s.map (.int .u32)) (.own 0))]) (fun|(_,_,s)=>[(0,.tok 1 s.length)])
  (λx=>m-x.1) (0,0,[]) ?_ (λ_=>rfl) ?_ ?_
 ·exact⟨aP _,ak,Ws.nil,rfl,by simp[val]⟩
 ·exact Zv wk wk
 rintro⟨i,c,s⟩ ⟨hi,hc,hws,hsl,hv⟩ _;simp only at hi hc hws hsl hv;refine ZS ?_ ?_<;>intro h
 ·have hlt:i<m:=aj;have ca:=yD a i;have cb:=yD b i;have hva:=sO (l:=a) (i:=i);have hvb:=sO (l:=b) (i:=i);have hxa:=wa.getD (i:=i);have hxb:=wb.getD (i:=i);generalize a.getD i 0=x0 at *;generalize b.getD i 0=y0 at *;obtain⟨x,rfl⟩:∃x:Nat,x0=x:=⟨x0.toNat,aj⟩;obtain⟨w,rfl⟩:∃x:Nat,y0=x:=⟨y0.toNat,aj⟩;rw[aO]at hva hvb;refine ZW ?_;refine .gen _ _ (qZ.vX ca (rQ _) ⟨rfl,rfl⟩) λ_=>ZW ?_;refine .gen _ _ (qZ.vX cb (rQ _) ⟨rfl,rfl⟩) λ_=>?_;conv=>whnf
  rw[show((x:Int)+(w:Int))=((x+w:Nat):Int)from(gY x w).symm,wrap_u64 (n:=((x+w:Nat):Int)) aj aj];rw[show(((x+w:Nat):Int)+(c:Int))=((x+w+c:Nat):Int)from(gY (x+w) c).symm,wrap_u64 (n:=((x+w+c:Nat):Int)) aj aj];obtain⟨D,hD⟩:∃D,x+w+c=D:=⟨_,rfl⟩;rw[hD];conv=>whnf
  rw[vS (a:=D)];refine⟨by rw[aC],?_⟩;refine⟨by simp[maxL];omega,aA,?_⟩;conv=>whnf
  refine⟨au,?_⟩;rw[Dx rfl];conv=>whnf
  refine ZG ?_;refine⟨(i+1,D / 4294967296,s++[((D % 4294967296:Nat):Int)]),?_,?_,?_⟩;{refine⟨hlt,(by omega:D / 4294967296<=1),hws.append (Ws.cons aj Ws.nil),by simp[hsl],?_⟩;show val (s++[((D % 4294967296:Nat):Int)])+4294967296^(i+1)*(D / 4294967296)=val (a.take (i+1))+val (b.take (i+1));have e1:val (s++[((D % 4294967296:Nat):Int)])=val s+4294967296^i*(D % 4294967296):=(by rw[val_append,hsl];show _+_*((((D % 4294967296:Nat):Int)).toNat+4294967296*0)=_;rw[aO];rfl);rw[hva,hvb,e1,bU];exact V4 hD hv}
  ·refine Zv ?_ ?_
   ·repeat' first|exact Zq|apply aI
    all_goals first|(refine qY ?_;simp[strip];done)|simp
   repeat' first|exact Zq|apply aI
   all_goals simp
  show m-(i+1)<m-i;omega
 have hil:i=m:=aj;subst hil;rw[bf aj,bf aj]at hv;have hfin:val s=val a+val b:=a2q aj (wK wa) (wK wb) aj aj hv;have ct:=yE s aj;rw[hfin]at ct;refine ZW ?_;refine .zW ct ?_;exact ZH
def negR(a:Rat):Rat:=y9 (!(qR a).1) (qR a).2.1 (qR a).2.2
def Ul(s t:Bool)(x y d:Nat):Rat:=if s=t then y9 s (x+y) d else if x<y then y9 t (y-x) d else y9 s (x-y) d
def J5(a b:Rat):Rat:=Ul (qR a).1 (qR b).1 ((qR a).2.1*(qR b).2.2) ((qR b).2.1*(qR a).2.2) ((qR a).2.2*(qR b).2.2)
theorem b5x(a:Rat)(a1:a.num.length<=100000)(a2:a.den.length<=100000):ZQ 246 [a.av] [] (negR a).av []:=by have ca:=QG a aj aj;refine ZI Tryz.func246 λhok=>?_;have pa:=MQ (yx hok).1 (yx hok).2 aj aj;have qa:=UG (yx hok).1 (yx hok).2 a1 a2;rw[pa.eq]at ca;have cf:=UR (!(qR a).1) (qR a).2.1 (qR a).2.2 aj aj pa.den;have hm:negR a=y9 (!(qR a).1) (qR a).2.1 (qR a).2.2:=rfl;rw[<- hm]at cf;generalize negR a=R at *;refine Z0 ?_;refine .zW ca ?_;refine .zW cf ?_;exact ZH
theorem Rk{x:Nat}:wd x=[]↔x=0:=by constructor;{intro h;apply aS;intro h0;rw[BO h0]at h;cases h};rintro rfl;exact yw
theorem Jy{x y k:Nat}(hx:(wd x).length<=k)(hy:(wd y).length<=k):(wd (x+y)).length<=k+1:=by refine Ec ?_;have h1:=wK (EJ x);have h2:=wK (EJ y);rw[rV]at h1 h2;have h3:4294967296^(wd x).length<=4294967296^k:=bZ aj hx;have h4:4294967296^(wd y).length<=4294967296^k:=bZ aj hy;rw[bU];generalize 4294967296^k=p at *;generalize 4294967296^(wd x).length=q at *;generalize 4294967296^(wd y).length=r at *;omega
theorem b3m(a b:Rat){A B:Nat}(a1:a.num.length<=A)(a2:a.den.length<=A)(b1:b.num.length<=B)(b2:b.den.length<=B)(hA:1<=A)(hB:1<=B)(hAB:A+B<=35184372088000):ZQ 245 [a.av,b.av] [] (J5 a b).av []:=by
 have ca:=QG a aj aj;have cb:=QG b aj aj;refine ZI Tryz.func245 λhok=>?_;have pa:=UH (yx hok).1 (yx hok).2;have pb:=UH (yx hok.2).1 (yx hok.2).2;have qa:=KW hA (yx hok).1 (yx hok).2 a1 a2;have qb:=KW hB (yx hok.2).1 (yx hok.2).2 b1 b2;rw[pa.2]at ca;rw[pb.2]at cb;have hR:J5 a b=Ul (qR a).1 (qR b).1 ((qR a).2.1*(qR b).2.2) ((qR b).2.1*(qR a).2.2) ((qR a).2.2*(qR b).2.2):=rfl;have m1:=a3i (wd (qR a).2.1) (wd (qR b).2.2) aj;have m2:=a3i (wd (qR b).2.1) (wd (qR a).2.2) aj;have m3:=a3i (wd (qR a).2.2) (wd (qR b).2.2) aj;rw[rV,rV]at m1 m2 m3;have l1:=wz qa.1 qb.2;have l2:=wz qb.1 qa.2;have l3:=wz qa.2 qb.2;have hne:(qR a).2.2*(qR b).2.2≠0:=jQ pa.1 pb.1;generalize J5 a b=R at *;generalize (qR a).2.1*(qR b).2.2=x at *;generalize (qR b).2.1*(qR a).2.2=y at *;generalize (qR a).2.2*(qR b).2.2=d at *;rw[kU B A]at l2;have l4:=Jy l1 (dI l2 (aT _));have l5:=sS (mW x y);have l6:=sS (mW y x);have cA:=b3n (wd x) (wd y) aj aj;have cC:=a7j (wd x) (wd y) aj aj;have cS:=a3h (wd x) (wd y) aj aj _ rfl;have cS2:=a3h (wd y) (wd x) aj aj _ rfl;rw[rV,rV]at cA cC cS cS2;have cf1:=UR (qR a).1 (x+y) d aj aj hne;have cf2:=UR (qR a).1 (x-y) d aj aj hne;have cf3:=UR (qR b).1 (y-x) d aj aj hne;unfold Ul at hR;generalize (qR a).1=s at *;generalize (qR b).1=t at *;refine Z0 ?_;refine .zW ca ?_;refine .zW cb ?_;refine .zW m1 ?_;refine .zW m2 ?_;refine .zW m3 ?_;constructor<;>intro hst;{have hst:s=t:=(by simpa using hst);rw[aG hst]at hR;subst hR;refine ZW ?_;refine .zW cA ?_;refine .zW cf1 ?_;exact ZH};have hst:¬s=t:=(by simpa using hst);rw[aB hst]at hR;refine ZW ?_;refine .zW cC ?_;constructor<;>intro hxy
 ·have hlt:x<y:=by
   unfold EX at hxy;split at hxy
   ·assumption
   split at hxy <;> omega
  rw[aG hlt]at hR;subst hR;rw[aB aj]at cS2;refine ZW ?_;refine .zW cS2 ?_;refine .zW cf3 ?_;exact ZH
 have hlt:¬x<y:=(by intro hlt;unfold EX at hxy;rw[aG hlt]at hxy;omega);rw[aB hlt]at hR;subst hR;rw[aB hlt]at cS;refine ZW ?_;refine .zW cS ?_;refine .zW cf2 ?_;exact ZH
def I4(r:Rat):Int:=if(qR r).2.1=0 then 0 else if(qR r).1=true then -1 else 1
theorem a1L(a:Rat)(a1:a.num.length<=35184372088320)(a2:a.den.length<=35184372088320):ZQ 173 [a.av] [] (.int .i64 (I4 a)) []:=by have ca:=QG a aj aj;have hR:I4 a=if(qR a).2.1=0 then 0 else if(qR a).1=true then -1 else 1:=rfl;refine ZI Tryz.func173 λhok=>?_;have pa:=UH (yx hok).1 (yx hok).2;rw[pa.2]at ca;have hz:=Rk (x:=(qR a).2.1);generalize I4 a=R at *;generalize (qR a).2.1=x at *;generalize (qR a).1=s at *;refine Z0 ?_;refine .zW ca ?_;constructor<;>intro h;{have h0:x=0:=hz.1 (bQ (by simpa using h));rw[aG h0]at hR;subst hR;exact ZJ};have h0:¬x=0:=(by intro h0;apply h;rw[hz.2 h0];rfl);rw[aB h0]at hR;refine ZS ?_ ?_<;>intro hs;{rw[aG hs]at hR;subst hR;exact ZJ};rw[aB (by simp[hs])]at hR;subst hR;exact ZJ
abbrev Str:=List UInt8
abbrev sL(l:List Str):AV:=.sl 1 (l.map .str) .no
structure Ev where
 name:Str
 p:Rat
 fail:Rat
 repair:Rat
 cost:Int
 deriving DecidableEq,Inhabited
abbrev Ev.av(x:Ev):AV:=.ag [.str x.name,x.p.av,x.fail.av,x.repair.av,.int .i64 x.cost]
structure Hs where
 name:Str
 on:Bool
 deriving DecidableEq,Inhabited
abbrev Hs.av(x:Hs):AV:=.ag [.str x.name,.bool x.on]
structure Mg where
 name:Str
 kind:Int
 k:Int
 ins:List Str
 zi:Rat
 deriving DecidableEq,Inhabited
abbrev Mg.av(x:Mg):AV:=.ag [.str x.name,.int .i64 x.kind,.int .i64 x.k,sL x.ins,x.zi.av]
abbrev gL(l:List Mg):AV:=.sl 7 (l.map Mg.av) .no
structure Pg where
 name:Str
 top:Str
 gates:List Mg
 deriving DecidableEq,Inhabited
abbrev Pg.av(x:Pg):AV:=.ag [.str x.name,.str x.top,gL x.gates]
structure Gr where
 name:Str
 kind:Int
 mem:List Str
 BX:List Rat
 deriving DecidableEq,Inhabited
abbrev Gr.av(x:Gr):AV:=.ag [.str x.name,.int .i64 x.kind,sL x.mem,.sl 3 (x.BX.map Rat.av) .no]
structure Pv where
 ev:Str
 p:Rat
 deriving DecidableEq,Inhabited
abbrev Pv.av(x:Pv):AV:=.ag [.str x.ev,x.p.av]
structure Ph where
 name:Str
 top:Str
 vals:List Pv
 deriving DecidableEq,Inhabited
abbrev Ph.av(x:Ph):AV:=.ag [.str x.name,.str x.top,.sl 4 (x.vals.map Pv.av) .no]
structure Md where
 name:Str
 top:Str
 evs:List Ev
 hs:List Hs
 gates:List Mg
 pages:List Pg
 y8:List Gr
 zS:List Ph
 deriving DecidableEq,Inhabited
abbrev Md.av(m:Md):AV:=.ag [.str m.name,.str m.top,.sl 11 (m.evs.map Ev.av) .no,.sl 2 (m.hs.map Hs.av) .no,gL m.gates,.sl 3 (m.pages.map Pg.av) .no,.sl 4 (m.y8.map Gr.av) .no,.sl 3 (m.zS.map Ph.av) .no]
def Ie(n:Int):Bool:=decide (65<=n/\n<=90)||decide (97<=n/\n<=122)
def Xn(n:Int):Bool:=decide (48<=n/\n<=57)
def RV(n:Int):Bool:=Ie n||Xn n||decide (n=95)||decide (n=46)
theorem a3k(n:Int):ZQ 135 [.int .u8 n] [] (.bool (Ie n)) []:=by
 refine ZN Tryz.func135 λhok=>?_;repeat' (first|(refine aQ (λ_=>?_) (λ_=>?_) <;> ((try dsimp only[Ux]);(conv=>whnf))))
 all_goals
  refine ZF ?_;try simp_all [Ie]
 all_goals omega
theorem b3x(n:Int):ZQ 204 [.int .u8 n] [] (.bool (Xn n)) []:=by
 refine ZN Tryz.func204 λhok=>?_;repeat' (first|(refine aQ (λ_=>?_) (λ_=>?_) <;> ((try dsimp only[Ux]);(conv=>whnf))))
 all_goals
  refine ZF ?_;try simp_all [Xn]
 all_goals omega
def a4N(s:Str):Int:=if yJ (λc=>!RV c.toNat) s<0 then s.length else yJ (λc=>!RV c.toNat) s
def sV(s:Str):Bool:=decide (0<s.length)&&decide (s.length<=24)&&Ie (s.getD 0 0).toNat&&s.all λc=>RV c.toNat
theorem a4M(s:Str):a4N s=s.length↔(s.all λc=>RV c.toNat)=true:=by unfold a4N;rcases zH (λc:UInt8=>!RV c.toNat) s with⟨h1,h2⟩|⟨i,h,h1,h2,_⟩;{rw[h1,aG aj];refine⟨λ_=>bD.2 λx hx=>by simpa using h2 x hx,λ_=>rfl⟩};rw[h1,aB aj];constructor;{intro h;omega};intro ha;have:=bD.1 ha _ (aN h);simp[this]at h2
theorem b4r{s:List UInt8}{i:Nat}{k:UInt8->Prop}(h:i<s.length)(hk:k s[i]):Ce s (i:Int) k :=
 ⟨⟨_,⟨aj,by rw[aO,aH h]⟩,hk⟩⟩
theorem Tq{s:List UInt8}{k:UInt8->Prop}(h:0<s.length)(hk:k (s.getD 0 0)):Ce s 0 k:=by rw[getD_lt h]at hk;exact⟨⟨_,⟨aj,aH h⟩,hk⟩⟩
theorem a7a(s:Str):ZQ 136 [.str s,.int .i64 0] [] (.int .i64 (a4N s)) []:=by refine ZI Tryz.func136 λhok=>?_;have hl:s.length<=9223372036854775807:=(by have:=hok.1;simpa[maxL,Ok]using this);refine Z0 ?_;refine qW.of <| qN.inv (.refl _ _) (fun(i:Nat)=>i<=s.length/\∀(j:Nat) (hj:j<s.length),j<i->RV s[j].toNat=true) (fun(i:Nat)=>[(1,.int .i64 i)]) (λ_=>_) (fun(i:Nat)=>s.length-i) 0 ?_ (λ_=>rfl) ?_ ?_;{exact⟨aP _,aj⟩};{exact wk};rintro i ⟨hi,hn⟩ _;have fin:i=s.length\/(∃h:i<s.length,RV s[i].toNat=false)->a4N s=i:=(by unfold a4N;rintro(h|⟨h,hf⟩);{rw[yA λj hj=>by rw[hn j hj aj];rfl,aG aj,h]};rw[wU h (by rw[hf];rfl) λj hj=>by rw[hn j aj hj];rfl,aB aj]);refine ZS ?_ ?_<;>intro h;{have hlt:i<s.length:=aj;have cl:=a3k s[i].toNat;have cd:=b3x s[i].toNat;have fin:=λh=>fin (.inr ⟨hlt,h⟩);refine ZW ?_;refine b4r hlt ?_;generalize hc:s[i].toNat=c at *;refine ZW ?_;refine .zW cl ?_;constructor<;>intro h1;{refine ZW ?_;refine ZG ?_;refine⟨i+1,?_,?_,?_⟩;{refine⟨hlt,λj hj hji=>?_⟩;by_cases e:j=i;{subst e;show RV _=true;unfold RV;rw[hc,h1];rfl};exact hn j hj aj};{exact wk};omega};refine ZW ?_;refine b4r hlt ?_;rw[hc];refine ZW ?_;refine .zW cd ?_;constructor<;>intro h2;{refine ZW ?_;refine ZG ?_;refine⟨i+1,?_,?_,?_⟩;{refine⟨hlt,λj hj hji=>?_⟩;by_cases e:j=i;{subst e;show RV _=true;unfold RV;rw[hc,h1,h2];rfl};exact hn j hj aj};{exact wk};omega};refine ZW ?_;refine b4r hlt ?_;rw[hc];refine ZS ?_ ?_<;>intro h3;{refine ZW ?_;refine ZG ?_;refine⟨i+1,?_,?_,?_⟩;{refine⟨hlt,λj hj hji=>?_⟩;by_cases e:j=i;{subst e;show RV _=true;unfold RV;rw[hc,h1,h2,h3];rfl};exact hn j hj aj};{exact wk};omega};refine ZW ?_;refine b4r hlt ?_;rw[hc];refine ZS ?_ ?_<;>intro h4;{refine ZW ?_;refine ZG ?_;refine⟨i+1,?_,?_,?_⟩;{refine⟨hlt,λj hj hji=>?_⟩;by_cases e:j=i;{subst e;show RV _=true;unfold RV;rw[hc,h1,h2,h4];rfl};exact hn j hj aj};{exact wk};omega};rw[fin (by unfold RV;rw[h1,h2,bM h3,bM h4];rfl)];exact ZJ};have hil:i=s.length:=aj;rw[fin (.inl hil)];exact ZJ
theorem Bh(s:Str):ZQ 74 [.str s] [] (.bool (sV s)) []:=by have cl:=a3k (s.getD 0 0).toNat;have cw:=a7a s;have hw:=a4M s;refine ZN Tryz.func74 λhok=>?_;constructor<;>intro h1;{have h1:0<s.length:=aj;refine ZS ?_ ?_<;>intro h2;{have h2:s.length<=24:=aj;refine ZW ?_;refine Tq h1 (ZW ?_);refine .zW cl ?_;constructor<;>intro h3;{refine ZW ?_;refine .zW cw ?_;refine ZF ?_;rw[hw];simp only[sV,h1,h2,h3,decide_true,jo]};refine ZW ?_;refine ZF ?_;simp only[sV,h3,kX,Bool.false_and];all_goals exact wk};have h2:¬s.length<=24:=aj;refine ZW ?_;refine ZF ?_;simp[sV,h2]};have h1:¬0<s.length:=aj;refine ZW ?_;refine ZF ?_;simp[sV,h1]
theorem XT(l:List Ev)(g:Nat)(cap:List AV)(p:Ev->Bool)(H:Heap)(hg:∀x∈l,ZQ g (x.av::cap) H (.bool (p x)) H) :
  ZQ 104 [.sl 11 (l.map Ev.av) .no,.fn g cap] H (.int .i64 (yJ p l)) H:=by
 refine ZI Tryz.func104 λhok=>?_;have hl:l.length<=9223372036854775807:=(by have:=hok.1.1;simpa[maxL]using this);refine Z0 ?_;refine qW.of <| qN.inv (.refl _ _) (fun(i:Nat)=>i<=l.length/\∀(j:Nat) (hj:j<l.length),j<i->p l[j]=false) (fun(i:Nat)=>[(8,.int .i64 i)]) (λ_=>_) (fun(i:Nat)=>l.length-i) 0 ?_ (λ_=>rfl) ?_ ?_;{exact⟨aP _,aj⟩};{exact wk};rintro i ⟨hi,hn⟩ _;refine ZS ?_ ?_<;>intro h
 ·have hlt:i<l.length:=(by simpa using h);refine ZW ?_;refine sH hlt (ZW ?_);refine .gen _ _ (hg _ (aN hlt)) λ_=>?_;refine ZS ?_ ?_<;>intro h
  ·refine ZW ?_
   (refine vw.same ?_;(conv=>whnf);refine⟨?_,rfl⟩;(conv=>whnf))
   exact⟨rfl,(wU hlt h λj hj=>hn j aj hj).symm⟩
  refine ZW ?_;refine ZG ?_;refine⟨i+1,?_,?_,?_⟩;{refine⟨hlt,λj hj hji=>?_⟩;by_cases Lj:j=i;{subst Lj;exact h};exact hn j hj aj};{exact wk};omega
 have hlt:i=l.length:=(by have:¬i<l.length:=(by simpa using h);omega);subst hlt;refine ZW ?_
 (refine vw.same ?_;(conv=>whnf);refine⟨?_,rfl⟩;(conv=>whnf))
 exact⟨rfl,(yA λj hj=>hn j hj hj).symm⟩
theorem XR(l:List Hs)(g:Nat)(cap:List AV)(p:Hs->Bool)(H:Heap)(hg:∀x∈l,ZQ g (x.av::cap) H (.bool (p x)) H) :
  ZQ 206 [.sl 2 (l.map Hs.av) .no,.fn g cap] H (.int .i64 (yJ p l)) H:=by
 refine ZI Tryz.func206 λhok=>?_;have hl:l.length<=9223372036854775807:=(by have:=hok.1.1;simpa[maxL]using this);refine Z0 ?_;refine qW.of <| qN.inv (.refl _ _) (fun(i:Nat)=>i<=l.length/\∀(j:Nat) (hj:j<l.length),j<i->p l[j]=false) (fun(i:Nat)=>[(8,.int .i64 i)]) (λ_=>_) (fun(i:Nat)=>l.length-i) 0 ?_ (λ_=>rfl) ?_ ?_;{exact⟨aP _,aj⟩};{exact wk};rintro i ⟨hi,hn⟩ _;refine ZS ?_ ?_<;>intro h
 ·have hlt:i<l.length:=(by simpa using h);refine ZW ?_;refine sH hlt (ZW ?_);refine .gen _ _ (hg _ (aN hlt)) λ_=>?_;refine ZS ?_ ?_<;>intro h
  ·refine ZW ?_
   (refine vw.same ?_;(conv=>whnf);refine⟨?_,rfl⟩;(conv=>whnf))
   exact⟨rfl,(wU hlt h λj hj=>hn j aj hj).symm⟩
  refine ZW ?_;refine ZG ?_;refine⟨i+1,?_,?_,?_⟩;{refine⟨hlt,λj hj hji=>?_⟩;by_cases Lj:j=i;{subst Lj;exact h};exact hn j hj aj};{exact wk};omega
 have hlt:i=l.length:=(by have:¬i<l.length:=(by simpa using h);omega);subst hlt;refine ZW ?_
 (refine vw.same ?_;(conv=>whnf);refine⟨?_,rfl⟩;(conv=>whnf))
 exact⟨rfl,(yA λj hj=>hn j hj hj).symm⟩
theorem XQ(l:List Mg)(g:Nat)(cap:List AV)(p:Mg->Bool)(H:Heap)(hg:∀x∈l,ZQ g (x.av::cap) H (.bool (p x)) H) :
  ZQ 210 [.sl 7 (l.map Mg.av) .no,.fn g cap] H (.int .i64 (yJ p l)) H:=by
 refine ZI Tryz.func210 λhok=>?_;have hl:l.length<=9223372036854775807:=(by have:=hok.1.1;simpa[maxL]using this);refine Z0 ?_;refine qW.of <| qN.inv (.refl _ _) (fun(i:Nat)=>i<=l.length/\∀(j:Nat) (hj:j<l.length),j<i->p l[j]=false) (fun(i:Nat)=>[(8,.int .i64 i)]) (λ_=>_) (fun(i:Nat)=>l.length-i) 0 ?_ (λ_=>rfl) ?_ ?_;{exact⟨aP _,aj⟩};{exact wk};rintro i ⟨hi,hn⟩ _;refine ZS ?_ ?_<;>intro h
 ·have hlt:i<l.length:=(by simpa using h);refine ZW ?_;refine sH hlt (ZW ?_);refine .gen _ _ (hg _ (aN hlt)) λ_=>?_;refine ZS ?_ ?_<;>intro h
  ·refine ZW ?_
   (refine vw.same ?_;(conv=>whnf);refine⟨?_,rfl⟩;(conv=>whnf))
   exact⟨rfl,(wU hlt h λj hj=>hn j aj hj).symm⟩
  refine ZW ?_;refine ZG ?_;refine⟨i+1,?_,?_,?_⟩;{refine⟨hlt,λj hj hji=>?_⟩;by_cases Lj:j=i;{subst Lj;exact h};exact hn j hj aj};{exact wk};omega
 have hlt:i=l.length:=(by have:¬i<l.length:=(by simpa using h);omega);subst hlt;refine ZW ?_
 (refine vw.same ?_;(conv=>whnf);refine⟨?_,rfl⟩;(conv=>whnf))
 exact⟨rfl,(yA λj hj=>hn j hj hj).symm⟩
theorem a3m(l:List Pg)(g:Nat)(cap:List AV)(p:Pg->Bool)(H:Heap)(hg:∀x∈l,ZQ g (x.av::cap) H (.bool (p x)) H) :
  ZQ 208 [.sl 3 (l.map Pg.av) .no,.fn g cap] H (.int .i64 (yJ p l)) H:=by
 refine ZI Tryz.func208 λhok=>?_;have hl:l.length<=9223372036854775807:=(by have:=hok.1.1;simpa[maxL]using this);refine Z0 ?_;refine qW.of <| qN.inv (.refl _ _) (fun(i:Nat)=>i<=l.length/\∀(j:Nat) (hj:j<l.length),j<i->p l[j]=false) (fun(i:Nat)=>[(8,.int .i64 i)]) (λ_=>_) (fun(i:Nat)=>l.length-i) 0 ?_ (λ_=>rfl) ?_ ?_;{exact⟨aP _,aj⟩};{exact wk};rintro i ⟨hi,hn⟩ _;refine ZS ?_ ?_<;>intro h
 ·have hlt:i<l.length:=(by simpa using h);refine ZW ?_;refine sH hlt (ZW ?_);refine .gen _ _ (hg _ (aN hlt)) λ_=>?_;refine ZS ?_ ?_<;>intro h
  ·refine ZW ?_
   (refine vw.same ?_;(conv=>whnf);refine⟨?_,rfl⟩;(conv=>whnf))
   exact⟨rfl,(wU hlt h λj hj=>hn j aj hj).symm⟩
  refine ZW ?_;refine ZG ?_;refine⟨i+1,?_,?_,?_⟩;{refine⟨hlt,λj hj hji=>?_⟩;by_cases Lj:j=i;{subst Lj;exact h};exact hn j hj aj};{exact wk};omega
 have hlt:i=l.length:=(by have:¬i<l.length:=(by simpa using h);omega);subst hlt;refine ZW ?_
 (refine vw.same ?_;(conv=>whnf);refine⟨?_,rfl⟩;(conv=>whnf))
 exact⟨rfl,(yA λj hj=>hn j hj hj).symm⟩
theorem b0d(l:List Gr)(g:Nat)(cap:List AV)(p:Gr->Bool)(H:Heap)(hg:∀x∈l,ZQ g (x.av::cap) H (.bool (p x)) H) :
  ZQ 145 [.sl 4 (l.map Gr.av) .no,.fn g cap] H (.int .i64 (yJ p l)) H:=by
 refine ZI Tryz.func145 λhok=>?_;have hl:l.length<=9223372036854775807:=(by have:=hok.1.1;simpa[maxL]using this);refine Z0 ?_;refine qW.of <| qN.inv (.refl _ _) (fun(i:Nat)=>i<=l.length/\∀(j:Nat) (hj:j<l.length),j<i->p l[j]=false) (fun(i:Nat)=>[(8,.int .i64 i)]) (λ_=>_) (fun(i:Nat)=>l.length-i) 0 ?_ (λ_=>rfl) ?_ ?_;{exact⟨aP _,aj⟩};{exact wk};rintro i ⟨hi,hn⟩ _;refine ZS ?_ ?_<;>intro h
 ·have hlt:i<l.length:=(by simpa using h);refine ZW ?_;refine sH hlt (ZW ?_);refine .gen _ _ (hg _ (aN hlt)) λ_=>?_;refine ZS ?_ ?_<;>intro h
  ·refine ZW ?_
   (refine vw.same ?_;(conv=>whnf);refine⟨?_,rfl⟩;(conv=>whnf))
   exact⟨rfl,(wU hlt h λj hj=>hn j aj hj).symm⟩
  refine ZW ?_;refine ZG ?_;refine⟨i+1,?_,?_,?_⟩;{refine⟨hlt,λj hj hji=>?_⟩;by_cases Lj:j=i;{subst Lj;exact h};exact hn j hj aj};{exact wk};omega
 have hlt:i=l.length:=(by have:¬i<l.length:=(by simpa using h);omega);subst hlt;refine ZW ?_
 (refine vw.same ?_;(conv=>whnf);refine⟨?_,rfl⟩;(conv=>whnf))
 exact⟨rfl,(yA λj hj=>hn j hj hj).symm⟩
theorem b0c(l:List Ph)(g:Nat)(cap:List AV)(p:Ph->Bool)(H:Heap)(hg:∀x∈l,ZQ g (x.av::cap) H (.bool (p x)) H) :
  ZQ 148 [.sl 3 (l.map Ph.av) .no,.fn g cap] H (.int .i64 (yJ p l)) H:=by
 refine ZI Tryz.func148 λhok=>?_;have hl:l.length<=9223372036854775807:=(by have:=hok.1.1;simpa[maxL]using this);refine Z0 ?_;refine qW.of <| qN.inv (.refl _ _) (fun(i:Nat)=>i<=l.length/\∀(j:Nat) (hj:j<l.length),j<i->p l[j]=false) (fun(i:Nat)=>[(8,.int .i64 i)]) (λ_=>_) (fun(i:Nat)=>l.length-i) 0 ?_ (λ_=>rfl) ?_ ?_;{exact⟨aP _,aj⟩};{exact wk};rintro i ⟨hi,hn⟩ _;refine ZS ?_ ?_<;>intro h
 ·have hlt:i<l.length:=(by simpa using h);refine ZW ?_;refine sH hlt (ZW ?_);refine .gen _ _ (hg _ (aN hlt)) λ_=>?_;refine ZS ?_ ?_<;>intro h
  ·refine ZW ?_
   (refine vw.same ?_;(conv=>whnf);refine⟨?_,rfl⟩;(conv=>whnf))
   exact⟨rfl,(wU hlt h λj hj=>hn j aj hj).symm⟩
  refine ZW ?_;refine ZG ?_;refine⟨i+1,?_,?_,?_⟩;{refine⟨hlt,λj hj hji=>?_⟩;by_cases Lj:j=i;{subst Lj;exact h};exact hn j hj aj};{exact wk};omega
 have hlt:i=l.length:=(by have:¬i<l.length:=(by simpa using h);omega);subst hlt;refine ZW ?_
 (refine vw.same ?_;(conv=>whnf);refine⟨?_,rfl⟩;(conv=>whnf))
 exact⟨rfl,(yA λj hj=>hn j hj hj).symm⟩
theorem b0b(l:List Pv)(g:Nat)(cap:List AV)(p:Pv->Bool)(H:Heap)(hg:∀x∈l,ZQ g (x.av::cap) H (.bool (p x)) H) :
  ZQ 150 [.sl 4 (l.map Pv.av) .no,.fn g cap] H (.int .i64 (yJ p l)) H:=by
 refine ZI Tryz.func150 λhok=>?_;have hl:l.length<=9223372036854775807:=(by have:=hok.1.1;simpa[maxL]using this);refine Z0 ?_;refine qW.of <| qN.inv (.refl _ _) (fun(i:Nat)=>i<=l.length/\∀(j:Nat) (hj:j<l.length),j<i->p l[j]=false) (fun(i:Nat)=>[(8,.int .i64 i)]) (λ_=>_) (fun(i:Nat)=>l.length-i) 0 ?_ (λ_=>rfl) ?_ ?_;{exact⟨aP _,aj⟩};{exact wk};rintro i ⟨hi,hn⟩ _;refine ZS ?_ ?_<;>intro h
 ·have hlt:i<l.length:=(by simpa using h);refine ZW ?_;refine sH hlt (ZW ?_);refine .gen _ _ (hg _ (aN hlt)) λ_=>?_;refine ZS ?_ ?_<;>intro h
  ·refine ZW ?_
   (refine vw.same ?_;(conv=>whnf);refine⟨?_,rfl⟩;(conv=>whnf))
   exact⟨rfl,(wU hlt h λj hj=>hn j aj hj).symm⟩
  refine ZW ?_;refine ZG ?_;refine⟨i+1,?_,?_,?_⟩;{refine⟨hlt,λj hj hji=>?_⟩;by_cases Lj:j=i;{subst Lj;exact h};exact hn j hj aj};{exact wk};omega
 have hlt:i=l.length:=(by have:¬i<l.length:=(by simpa using h);omega);subst hlt;refine ZW ?_
 (refine vw.same ?_;(conv=>whnf);refine⟨?_,rfl⟩;(conv=>whnf))
 exact⟨rfl,(yA λj hj=>hn j hj hj).symm⟩
def rM(l:List Ev)(s:Str):Int:=yJ (λx=>decide (x.name=s)) l
theorem b0m(x:Ev)(s:Str)(m:Md):ZQ 105 [x.av,.ptr 1 [] 0] [(1,.box (.str s)),(0,.box m.av)] (.bool (decide (x.name=s))) [(1,.box (.str s)),(0,.box m.av)]:=by
 refine ZN Tryz.func105 λhok=>?_;refine⟨⟨_,_,.refl _ _,?_⟩⟩;conv=>whnf
 refine Zx ?_ ?_;{show _↔_;simp};exact wk
theorem Iq(m:Md)(s:Str):ZQ 47 [m.av,.str s] [] (.int .i64 (rM m.evs s)) []:=by refine ZN Tryz.func47 λhok=>?_;refine .gen _ _ (XT m.evs 105 [.ptr 1 [] 0] (λx=>decide (x.name=s)) _ λx _=>b0m x s m) λ_=>?_;exact ZJ
def tN(l:List Hs)(s:Str):Int:=yJ (λx=>decide (x.name=s)) l
theorem b0l(x:Hs)(s:Str)(m:Md):ZQ 207 [x.av,.ptr 1 [] 0] [(1,.box (.str s)),(0,.box m.av)] (.bool (decide (x.name=s))) [(1,.box (.str s)),(0,.box m.av)]:=by
 refine ZN Tryz.func207 λhok=>?_;refine⟨⟨_,_,.refl _ _,?_⟩⟩;conv=>whnf
 refine Zx ?_ ?_;{show _↔_;simp};exact wk
theorem UU(m:Md)(s:Str):ZQ 138 [m.av,.str s] [] (.int .i64 (tN m.hs s)) []:=by refine ZN Tryz.func138 λhok=>?_;refine .gen _ _ (XR m.hs 207 [.ptr 1 [] 0] (λx=>decide (x.name=s)) _ λx _=>b0l x s m) λ_=>?_;exact ZJ
def tq(l:List Pg)(s:Str):Int:=yJ (λx=>decide (x.name=s)) l
theorem b3G(x:Pg)(s:Str)(m:Md):ZQ 209 [x.av,.ptr 1 [] 0] [(1,.box (.str s)),(0,.box m.av)] (.bool (decide (x.name=s))) [(1,.box (.str s)),(0,.box m.av)]:=by
 refine ZN Tryz.func209 λhok=>?_;refine⟨⟨_,_,.refl _ _,?_⟩⟩;conv=>whnf
 refine Zx ?_ ?_;{show _↔_;simp};exact wk
theorem a7m(m:Md)(s:Str):ZQ 139 [m.av,.str s] [] (.int .i64 (tq m.pages s)) []:=by refine ZN Tryz.func139 λhok=>?_;refine .gen _ _ (a3m m.pages 209 [.ptr 1 [] 0] (λx=>decide (x.name=s)) _ λx _=>b3G x s m) λ_=>?_;exact ZJ
def tX(l:List Mg)(s:Str):Int:=yJ (λx=>decide (x.name=s)) l
theorem b3H(x:Mg)(s:Str):ZQ 211 [x.av,.ptr 0 [] 0] [(0,.box (.str s))] (.bool (decide (x.name=s))) [(0,.box (.str s))]:=by
 refine ZN Tryz.func211 λhok=>?_;refine⟨⟨_,_,.refl _ _,?_⟩⟩;conv=>whnf
 refine Zx ?_ ?_;{show _↔_;simp};exact wk
theorem a3n(l:List Mg)(s:Str):ZQ 141 [gL l,.str s] [] (.int .i64 (tX l s)) []:=by refine ZN Tryz.func141 λhok=>?_;refine .gen _ _ (XQ l 211 [.ptr 0 [] 0] (λx=>decide (x.name=s)) _ λx _=>b3H x s) λ_=>?_;exact ZJ
def qO(m:Md)(at_:Int):List Mg:=if at_ = -1 then m.gates else(m.pages.getD at_.toNat default).gates
theorem Gv(m:Md)(a:Int)(h:a = -1\/(0<=a/\a<(m.pages.length:Int))):ZQ 140 [m.av,.int .i64 a] [] (gL (qO m a)) []:=by refine ZN Tryz.func140 λhok=>?_;constructor<;>intro h1;{rw[show qO m a=m.gates from aG h1];exact ZJ};rw[show qO m a=(m.pages.getD a.toNat default).gates from aB h1];refine ZW ?_;refine ug default aj ?_;exact ZJ
def Dy(x:Rat):Bool:=valid x&&decide (0<=sign x)
theorem b1e(x:Rat)(hx:Px x):ZQ 137 [x.av] [] (.bool (Dy x)) []:=by refine ZN Tryz.func137 λhok=>?_;refine .zW hx.v ?_;constructor<;>intro h1;{refine ZW ?_;refine .zW hx.s ?_;refine ZF ?_;simp[Dy,h1]};refine ZW ?_;refine ZF ?_;simp[Dy,h1]
def EH(s:Str):Bool:=decide (0<s.length)&&decide (((s.getD 0 0).toNat:Int)=64)
def uZ(m:Md)(a:Int)(s:Str):Bool:=if EH s=true then decide (0<=tq m.pages (s.drop 1))else
 decide (0<=rM m.evs s)||decide (0<=tN m.hs s)||decide (0<=tX (qO m a) s)
theorem b5m{s:Str}:(s.drop (1:Int).toNat).take ((s.length:Int).toNat-(1:Int).toNat)=s.drop 1:=by rw[bf ak];rfl
theorem Ns(m:Md)(a:Int)(s:Str)(h:a = -1\/(0<=a/\a<(m.pages.length:Int))):ZQ 79 [m.av,.int .i64 a,.str s] [] (.bool (uZ m a s)) []:=by have cp:=a7m m (s.drop 1);have ce:=Iq m s;have ch:=UU m s;have cg:=a3n (qO m a) s;have cG:=Gv m a h;refine ZN Tryz.func79 λhok=>?_;constructor<;>intro h1;{have h1:0<s.length:=aj;refine ZW ?_;refine Tq h1 ?_;refine ZS ?_ ?_<;>intro h2;{have e:uZ m a s=decide (0<=tq m.pages (s.drop 1)):=aG (by simp only[EH,h1,h2,decide_true,jo]);rw[e];refine ZW ?_;refine ZR ?_;refine⟨⟨aj,aj,aj⟩,?_⟩;rw[b5m];refine ZW ?_;refine .zW cp ?_;refine ZF ?_;show _↔_;simp};have e:EH s=false:=(by simp only[EH,bM h2,kX]);have e:uZ m a s=(decide (0<=rM m.evs s)||decide (0<=tN m.hs s)||decide (0<=tX (qO m a) s)):=aB (by rw[e];simp);rw[e];refine ZW ?_;refine .zW ce ?_;constructor<;>intro h3;{refine ZW ?_;refine ZF ?_;simp[h3]};refine ZW ?_;refine .zW ch ?_;constructor<;>intro h4;{refine ZW ?_;refine ZF ?_;simp[h4]};refine ZW ?_;refine .zW cG ?_;refine .zW cg ?_;refine ZF ?_;simp[h3,h4]};have e:EH s=false:=(by simp only[EH];rw[bM aj];rfl);have e:uZ m a s=(decide (0<=rM m.evs s)||decide (0<=tN m.hs s)||decide (0<=tX (qO m a) s)):=aB (by rw[e];simp);rw[e];refine ZW ?_;refine .zW ce ?_;constructor<;>intro h3;{refine ZW ?_;refine ZF ?_;simp[h3]};refine ZW ?_;refine .zW ch ?_;constructor<;>intro h4;{refine ZW ?_;refine ZF ?_;simp[h4]};refine ZW ?_;refine .zW cG ?_;refine .zW cg ?_;refine ZF ?_;simp[h3,h4]
end S