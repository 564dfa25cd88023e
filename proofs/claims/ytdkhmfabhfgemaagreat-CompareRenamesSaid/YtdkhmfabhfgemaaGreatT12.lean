/-
  Contracts of functions of the program. Nothing is assumed.
-/
import Derived.Test.YtdkhmfabhfgemaaGreatT11
open Go Go.AL Go.Proofs
namespace S
set_option maxRecDepth 100000
theorem Nb{α β:Type}{f:α->β}{p:β->Bool}:∀l:List α,yJ p (l.map f)=yJ (λx=>p (f x)) l
 | []=>rfl
 |x::l=>by simp only[dF,yJ];rw[Nb l]
theorem a2K{α:Type}{p q:α->Bool}:∀{l:List α},(∀x∈l,p x=q x)->yJ p l=yJ q l
 | [],_=>rfl
 |x::l,h=>by simp only[yJ];rw[h x ak,a2K λy hy=>h y (by simp[hy])]
def Fr(old new s:Str):Prop:=s=new->new=old
theorem Fr.back{old new s:Str}(h:Fr old new s):Gm new old (Gm old new s)=s:=by unfold Gm;by_cases e:s=old;{rw[aG e,aG rfl,e]};rw[aB e];by_cases e2:s=new;{rw[aG e2];exact(e2.trans (h e2)).symm};rw[aB e2]
structure Ew(m:Md)(old new:Str):Prop where
 ev:0<=rM m.evs old
 evs:∀x∈m.evs,Fr old new x.name
 top:Fr old new m.top
 gates:∀g∈m.gates,∀s∈g.ins,Fr old new s
 pages:∀p∈m.pages,Fr old new p.top/\∀g∈p.gates,∀s∈g.ins,Fr old new s
 y8:∀g∈m.y8,∀s∈g.mem,Fr old new s
 zS:∀p∈m.zS,Fr old new p.top/\∀v∈p.vals,Fr old new v.ev
 b4P:sV old=true
 nnew:sV new=true
theorem b1S{old new s t:Str}(hs:Fr old new s)(ht:Fr old new t):Gm old new s=Gm old new t↔s=t:=by constructor;{intro e;have:=kR (Gm new old) e;rwa[hs.back,ht.back]at this};rintro rfl;rfl
theorem a8I{m:Md}{old new s:Str}(h:Ew m old new)(hs:Fr old new s):rM (zQ m old new).evs (Gm old new s)=rM m.evs s:=by unfold rM;show yJ _ (m.evs.map (rnE old new))=_;rw[Nb];refine a2K λx hx=>?_;rw[decide_eq_decide];exact b1S (h.evs x hx) hs
theorem VT(m:Md)(old new:Str)(a:Int):qO (zQ m old new) a=(qO m a).map (rnG old new):=by unfold qO;split;{rfl};show((m.pages.map (rnP old new)).getD a.toNat default).gates=_;rw[aF,dS,aF];cases m.pages[a.toNat]? <;> rfl
theorem a5w(m:Md)(old new:Str)(a:Int)(s:Str):tX (qO (zQ m old new) a) s=tX (qO m a) s:=by unfold tX;rw[VT,Nb];rfl
theorem b1M(m:Md)(old new:Str)(s:Str):tq (zQ m old new).pages s=tq m.pages s:=by unfold tq;show yJ _ (m.pages.map (rnP old new))=_;rw[Nb];rfl
theorem b1R{old new:Str}(h:sV old=true):Gm old new []=[]:=by unfold Gm;rw[aB];intro e;have:=Jd h;rw[<- e]at this;simp at this
theorem a5t{m:Md}{old new:Str}(h:Ew m old new)(a:Int):sG (zQ m old new) a=Gm old new (sG m a)/\Fr old new (sG m a):=by
 unfold sG;show((m.pages.map (rnP old new)).getD a.toNat default).top=_/\_;rw[aF,dS,aF];cases hp:m.pages[a.toNat]? with
 |none =>refine⟨(b1R h.b4P).symm,λe=>?_⟩;have:=Jd h.nnew;rw[<- e]at this;exact absurd this au
 |some p=>exact⟨rfl,(h.pages p (bP hp)).1⟩
theorem b4u{m:Md}{old new:Str}(h:Ew m old new)(a:Int):∀g∈qO m a,∀s∈g.ins,Fr old new s:=by
 intro g hg;unfold qO at hg;split at hg;{exact h.gates g hg};rw[aF]at hg;cases hp:m.pages[a.toNat]? with
 |none=>rw[hp]at hg;exact absurd hg (by show ¬g∈([]:List Mg);simp)
 |some p=>rw[hp]at hg;exact(h.pages p (bP hp)).2 g hg
theorem a2l{m:Md}{old new s:Str}(h:Ew m old new)(hs:Fr old new s)(a:Int):y7 (zQ m old new) a (Gm old new s)=y7 m a s:=by unfold y7;rw[a8I h hs,a5w];by_cases e:s=old;{rw[aG (by rw[e];exact h.ev),aG (by rw[e];exact h.ev)]};rw[show Gm old new s=s from aB e];rfl
theorem b6q{old new s:Str}(ho:sV old=true)(hn:sV new=true):EH (Gm old new s)=EH s:=by unfold Gm;by_cases e:s=old;{rw[aG e,e,BG ho,BG hn]};rw[aB e]
theorem b0J{m:Md}{old new s:Str}(h:Ew m old new)(hs:Fr old new s)(a:Int):yH (zQ m old new) a (Gm old new s)=yH m a s:=by
 unfold yH;rw[b6q h.b4P h.nnew];by_cases e:EH s=true
 ·have hne:s≠old:=by rintro rfl;rw[BG h.b4P]at e;cases e
  rw[aG e,aG e,show Gm old new s=s from aB hne,b1M,(a5t h _).1];exact a2l h (a5t h _).2 _
 rw[aB e,aB e];exact a2l h hs a
theorem Zn(m:Md)(old new:Str)(x:Node):rP (zQ m old new) x=rnG old new (rP m x):=by unfold rP;rw[VT,aF,dS,aF];cases(qO m x.2.1)[x.2.2.toNat]? <;> rfl
theorem b1P{m:Md}{old new:Str}(h:Ew m old new):sZ (zQ m old new)=sZ m:=by
 funext x;unfold sZ;rw[Zn];show((rP m x).ins.map (Gm old new)).map _=_;rw[gZ];refine lQ λs hs=>b0J h ?_ _;unfold rP at hs;rw[aF]at hs;cases hg:(qO m x.2.1)[x.2.2.toNat]? with
 |none=>rw[hg]at hs;exact absurd hs (by show ¬s∈([]:List Str);simp)
 |some g=>rw[hg]at hs;exact b4u h _ g (bP hg) s hs
theorem a8H(m:Md)(old new:Str):rE (zQ m old new)=rE m:=by
 unfold rE;have h1:Bo (zQ m old new)=Bo m:=by unfold Bo;show(List.range ((m.pages.map (rnP old new)).length+1)).map _=_;rw[aC]
 rw[h1];congr 1;funext a;unfold yR;rw[VT,aC]
theorem b5g{m:Md}(h:rG m=0){s:Str}(hs:0<=rM m.evs s):sV s=true:=by obtain⟨i,hi,_,h2⟩:=Aj hs;have:=(wI h).2.2.1 i hi;unfold xZ at this;split at this;{cases this};rename_i h3;rw[<- h2];simpa using h3
theorem Xi{m:Md}(h:rG m=0){i:Nat}(hi:i<m.evs.length):(i:Int)<=rM m.evs m.evs[i].name:=by have:=(wI h).2.2.1 i hi;unfold xZ at this;split at this;{cases this};split at this;{cases this};omega
theorem PX{old new:Str}:Gm old new old=new:=aG rfl
theorem b2w{m:Md}{old new:Str}{a:Int}{s:Str}(hn:sV new=true)(h:new≠old->rM m.evs new<0/\tN m.hs new<0/\tX (qO m a) new<0)(hs:uZ m a s=true):Fr old new s:=by rintro rfl;apply aS;intro hne;obtain⟨h1,h2,h3⟩:=h hne;unfold uZ at hs;rw[aB (by rw[BG hn];simp)]at hs;simp only[fP,bT]at hs;omega
theorem ZM{m:Md}:∀{l sp:List Str},(vM m l sp).1=0->∀s∈l,0<=rM m.evs s
 | [],_,_,s,hs=>by simp at hs
 |x::l,sp,h,s,hs=>by simp only[vM]at h;split at h;{cases h};rename_i h1;split at h;{cases h};rcases aU.1 hs with rfl|hs;{omega};exact ZM h s hs
theorem a9q{m:Md}{i:Nat}{x:Gr}{sp:List Str}(h:(yM m i x sp).1=0):∀s∈x.mem,0<=rM m.evs s:=by
 have key:(vM m x.mem sp).1=0:=by
  unfold yM at h;have step:∀{c:Prop} [Decidable c] {n:Int} {A:Int×List Str},n≠0->(if c then((n,[]):Int×List Str)else A).1=0->A.1=0:=by intro c _ n A hn h;split at h;{exact absurd h hn};exact h
  have h:=step au (step au (step au (step au (step au (step au h)))));by_cases hm:(vM m x.mem sp).1≠0;{rw[aG hm]at h;exact h};simpa using hm
 exact ZM key
theorem Z7{m:Md}:∀{l:List Gr} {i:Nat} {sp:List Str},DL m i l sp=0->∀g∈l,∀s∈g.mem,0<=rM m.evs s
 | [],_,_,_,g,hg,_,_=>by simp at hg
 |x::l,i,sp,h,g,hg,s,hs=>by simp only[DL]at h;split at h;{rename_i hne;exact absurd h hne};rename_i hne;rcases aU.1 hg with rfl|hg;{exact a9q (by simpa using hne) s hs};exact Z7 h g hg s hs
theorem a6m{m:Md}(h:vO m=0):∀g∈m.y8,∀s∈g.mem,0<=rM m.evs s:=by unfold vO at h;split at h;{cases h};exact Z7 h
theorem a5B{m:Md}(h:uX m=0):∀p∈m.zS,uZ m (-1) p.top=true/\∀v∈p.vals,0<=rM m.evs v.ev:=by unfold uX at h;split at h;{cases h};intro p hp;obtain⟨i,hi,rfl⟩:=dN hp;have:=Em.1 h i hi;unfold Dn at this;split at this;{cases this};split at this;{cases this};split at this;{cases this};rename_i h3;refine⟨by simpa using h3,λv hv=>?_⟩;obtain⟨j,hj,rfl⟩:=dN hv;have:=Em.1 this j hj;unfold Dl at this;split at this;{cases this};omega
theorem a9t{m:Md}{old new:Str}(hM:J9 m)(ho:0<=rM m.evs old)(hN:J9 (zQ m old new)):Ew m old new:=by
 have hev:0<=rM (zQ m old new).evs new:=by
  unfold rM;rw[Lh,gB];obtain⟨i,hi,_,h2⟩:=Aj ho;exact⟨rnE old new m.evs[i],bg.2 ⟨_,aN hi,rfl⟩,by
   show decide (Gm old new m.evs[i].name=new)=true;rw[h2,PX];simp⟩
 have nnew:=b5g hN.evs hev;have b4P:=b5g hM.evs ho;have e1:new≠old->rM m.evs new<0:=by
  intro hne;apply aS;intro hc;have hc:0<=rM m.evs new:=aj;obtain⟨i,hi,_,h2⟩:=Aj ho;obtain⟨j,hj,_,h3⟩:=Aj hc;have hi':i<(zQ m old new).evs.length:=by show i<(m.evs.map _).length;rw[aC];exact hi
  have hj':j<(zQ m old new).evs.length:=(by show j<(m.evs.map _).length;rw[aC];exact hj);have gi:(zQ m old new).evs[i].name=new:=(by show((m.evs.map (rnE old new))[i]'(by simpa using hi)).name=new;rw[kF];show Gm old new _=_;rw[h2,PX]);have gj:(zQ m old new).evs[j].name=new:=(by show((m.evs.map (rnE old new))[j]'(by simpa using hj)).name=new;rw[kF];show Gm old new _=_;rw[h3];exact aB hne);have f1:=Xi hN.evs hi';have f2:=Xi hN.evs hj';rw[gi]at f1;rw[gj]at f2;have l1:=(JM (p:=λx=>decide (x.name=new)) hi' (by simpa using gi)).2;have l2:=(JM (p:=λx=>decide (x.name=new)) hj' (by simpa using gj)).2;unfold rM at f1 f2;have:i=j:=aj;subst this;rw[h2]at h3;exact hne h3.symm
 have e2:tN m.hs new<0:=(by apply aS;intro hc;have hc:0<=tN (zQ m old new).hs new:=(by show 0<=tN m.hs new;omega);obtain⟨i,hi,_,h2⟩:=Aj hc;have:=(wI hN.evs).2.2.2 i hi;unfold BR at this;split at this;{cases this};split at this;{cases this};rename_i h4;exact h4 (by rw[h2];exact hev));have e3:∀a:Int,a = -1\/(0<=a/\a<(m.pages.length:Int))->tX (qO m a) new<0:=by
  intro a ha;apply aS;intro hc;have hc:0<=tX (qO (zQ m old new) a) new:=by rw[a5w];omega
  obtain⟨i,hi,_,h2⟩:=Aj hc;have ha':a = -1\/(0<=a/\a<((zQ m old new).pages.length:Int)):=(by show a = -1\/(0<=a/\a<((m.pages.map (rnP old new)).length:Int));rw[aC];exact ha);have:=(hN.gate ha' hi).b6x;rw[h2]at this;omega
 have fr:∀{a:Int} {s:Str},a = -1\/(0<=a/\a<(m.pages.length:Int))->uZ m a s=true->Fr old new s:=λha hs=>b2w nnew (λhne=>⟨e1 hne,e2,e3 _ ha⟩) hs;have fe:∀{s:Str},0<=rM m.evs s->Fr old new s:=(by intro s hs e;apply aS;intro hne;have:=e1 hne;rw[<- e]at this;omega);refine⟨ho,λx hx=>?_,fr (.inl rfl) hM.top,λg hg s hs=>fr (.inl rfl) (hM.a2I (.inl rfl) hg hs),λp hp=>?_,λg hg s hs=>?_,λp hp=>?_,b4P,nnew⟩;{obtain⟨i,hi,rfl⟩:=dN hx;exact fe (by have:=Xi hM.evs hi;omega)};{obtain⟨i,hi,rfl⟩:=dN hp;have ha:(0:Int)<=i/\(i:Int)<(m.pages.length:Int):=aj;have hpt:sG m i=m.pages[i].top:=(by unfold sG;rw[aO,aF,aH hi];rfl);have hpg:qO m i=m.pages[i].gates:=(by unfold qO;rw[aB aj,aO,aF,aH hi];rfl);refine⟨?_,λg hg s hs=>fr (.inr ha) (hM.a2I (.inr ha) (by rw[hpg];exact hg) hs)⟩;rw[<- hpt];rcases hM.a8Q ha with⟨h1,_⟩|h1;{intro e;rw[e]at h1;have:=e3 _ (.inr ha);omega};exact fe h1};{exact fe (a6m hM.y8 g hg s hs)};obtain⟨h1,h2⟩:=a5B hM.zS p hp;exact⟨fr (.inl rfl) h1,λv hv=>fe (h2 v hv)⟩
theorem a4h{m:Md}(h0:rF m=0):wO m (-1) m.top=(yH m (-1) m.top,0):=by have hM:=vZ h0;unfold wO;rw[aB (by simp[h0]),aB aj,aB aj,aB (by rw[hM.top];simp)]
theorem a1R{m:Md}(h0:rF m=0):atR m m.top=if(wZ m m.top).1.1=true then(⟨0,[],0⟩,7)else(⟨m.evs.length,(wZ m m.top).2.nodes,(wZ m m.top).1.2⟩,0):=by unfold atR;rw[a4h h0,aB ak]
theorem a2m{m:Md}{old new:Str}(h:Ew m old new)(vars:Int):∀n,sF (zQ m old new) vars n=sF m vars n
 | 0=>rfl
 |n+1=>by funext x s;simp only[sF];rw[a2m h vars n,b1P h,Zn];rfl
theorem b4w{m:Md}{old new:Str}(h0:rF m=0)(hn:rF (zQ m old new)=0)(hF:Ew m old new):(atR (zQ m old new) (zQ m old new).top).2=(atR m m.top).2:=by
 have e:wZ (zQ m old new) (zQ m old new).top=wZ m m.top:=by
  unfold wZ;rw[a2m hF,show yH (zQ m old new) (-1) (zQ m old new).top=yH m (-1) m.top from b0J hF hF.top (-1),show Il (zQ m old new)=Il m from by unfold Il;rw[a8H],
   show(zQ m old new).evs.length=m.evs.length from aC _]
 rw[a1R hn,a1R h0,e];split <;> rfl
theorem a7I{m:Md}(h0:rF m=0)(h:(atR m m.top).2≠0):(atR m m.top).2=7:=by rw[a1R h0]at h ⊢;split;{rfl};rename_i g;rw[aB g]at h;exact absurd rfl h
theorem a6V(f:Fo):Jm f f=⟨true,0,0,0,0⟩:=by obtain⟨h1,h2,_,h4,h5,h6⟩:=Xo (faV f) (faV f) (2^f.vars.toNat);have e:=h1.2 λ_ _=>rfl;have e2:=h2 e;unfold Jm;generalize Sj (faV f) (faV f) (2^f.vars.toNat)=d at *;obtain⟨a,b,c,x,y⟩:=d;dsimp only at *;subst e e2;simp only[Bool.xor_self,Bool.false_and,List.countP_false]at h4 h5 h6;subst h4 h5 h6;rfl
theorem a3R(x:Tg):FM x x:=by cases x <;> simp[FM]
theorem a5P(m:Md):YI m m=[]:=by unfold YI;rw[List.filter_eq_nil_iff];intro s hs;simp[hs]
theorem a6W(m:Md):b5q m m (b4g m m)=[]:=by
 unfold b5q;rw[List.filter_eq_nil_iff];intro s _;unfold b4g;cases BQ (zl m) s with
 |none=>simp
 |some x=>simp[a3R x]
theorem b06{m:Md}(t:Yo m):(BM m).Nodup:=by have h:=t.nodup;simp only[zl,thE,thH,thG,aV,gZ]at h;exact(fQ.1 (fQ.1 h).1).1
theorem a0k{m:Md}(t:Yo m):(CV m m).length=m.evs.length:=by have e:CV m m=sortL (BM m):=SS.ext (a1u m m) (PI (b06 t)) λx=>(by rw[Lp,Gj];simp);rw[e];exact(iT _).trans (aC _)
def hgN(m:Md):List Str:=m.hs.map (λx:Hs=>x.name)++m.gates.map (λx:Mg=>x.name)
theorem Wx(m:Md):(zl m).map (·.1)=BM m++hgN m:=by simp only[zl,thE,thH,thG,BM,hgN,aV,gZ,bK];rfl
theorem b4v(m:Md)(old new:Str):BM (zQ m old new)=(BM m).map (Gm old new):=by unfold BM zQ;rw[gZ,gZ];rfl
theorem a5v(m:Md)(old new:Str):hgN (zQ m old new)=hgN m:=by unfold hgN zQ;rw[gZ];rfl
theorem J3(m:Md)(x:Str):x∈b1n m↔x∈BM m\/x∈hgN m:=by rw[LX,Wx,dM]
theorem a5u{m:Md}{old new:Str}(x:Str):x∈BM (zQ m old new)↔∃s∈BM m,Gm old new s=x:=by rw[b4v,bg]
theorem b0U{m:Md}{old new:Str}(hF:Ew m old new)(hne:new≠old):new ∉ BM m:=λh=>by obtain⟨x,hx,e⟩:=bg.1 h;exact hne (hF.evs x hx e)
theorem b4T{m:Md}{old new:Str}(tn:Yo (zQ m old new))(ho:old∈BM m):new ∉ hgN m:=λh=>by have hd:=tn.nodup;rw[Wx,a5v]at hd;exact(fQ.1 hd).2.2 new ((a5u new).2 ⟨old,ho,PX⟩) new h rfl
theorem b4M{m:Md}{old:Str}(tm:Yo m)(ho:old∈BM m):old ∉ hgN m:=λh=>by have hd:=tm.nodup;rw[Wx]at hd;exact(fQ.1 hd).2.2 old ho old h rfl
theorem b4N{m:Md}{old new:Str}(hne:new≠old):old ∉ BM (zQ m old new):=λh=>by obtain⟨s,_,e⟩:=(a5u old).1 h;unfold Gm at e;split at e;{exact hne e};rename_i g;exact g e
theorem b1O{m:Md}{old new:Str}(hF:Ew m old new)(tn:Yo (zQ m old new))(ho:old∈BM m)(hne:new≠old):YI m (zQ m old new)=[new]:=by refine SS.ext ((Va _).filter _) (List.pairwise_singleton _ _) λx=>?_;unfold YI;rw[dZ,dU,<- lF,List.contains_iff_mem,J3,J3,a5v,a5u,jr];constructor;{rintro⟨⟨s,hs,e⟩|h,g⟩;{unfold Gm at e;split at e;{exact e.symm};subst e;exact absurd (.inl hs) g};exact absurd (.inr h) g};rintro rfl;exact⟨.inl ⟨old,ho,PX⟩,λg=>g.elim (b0U hF hne) (b4T tn ho)⟩
theorem b1N{m:Md}{old new:Str}(tm:Yo m)(ho:old∈BM m)(hne:new≠old):YI (zQ m old new) m=[old]:=by refine SS.ext ((Va _).filter _) (List.pairwise_singleton _ _) λx=>?_;unfold YI;rw[dZ,dU,<- lF,List.contains_iff_mem,J3,J3,a5v,jr];constructor;{rintro⟨h|h,g⟩;{apply aS;intro hx;exact g (.inl ((a5u x).2 ⟨x,h,aB hx⟩))};exact absurd (.inr h) g};rintro rfl;exact⟨.inl ho,λg=>g.elim (b4N hne) (b4M tm ho)⟩
theorem b1Q{m:Md}{old new:Str}(hF:Ew m old new)(tm:Yo m)(ho:old∈BM m)(hne:new≠old):(CV m (zQ m old new)).length=m.evs.length+1:=by have hd:(new::BM m).Nodup:=lJ.2 ⟨b0U hF hne,b06 tm⟩;have e:CV m (zQ m old new)=sortL (new::BM m):=SS.ext (a1u _ _) (PI hd) λx=>(by rw[Lp,Gj,aU,a5u];constructor;{rintro(h|⟨s,hs,e⟩);{exact .inr h};unfold Gm at e;split at e;{exact .inl e.symm};subst e;exact .inr hs};rintro(rfl|h);{exact .inr ⟨old,ho,PX⟩};exact .inl h);rw[e];refine(iT _).trans ?_;rw[dY];unfold BM;rw[aC]
theorem b7w{m:Md}{old new:Str}(h:WsM m):WsM (zQ m old new):=by constructor;{intro x hx;obtain⟨y,hy,rfl⟩:=bg.1 hx;exact h.evs y hy};intro x hx;obtain⟨y,hy,rfl⟩:=bg.1 hx;exact h.gts y hy
theorem a9N{m:Md}(h0:rF m=0)(t:Yo m)(h9:m.evs.length<=9):ckM m m=(atR m m.top).2:=by unfold ckM;rw[aB (λg=>g h0),aB (λg=>g h0),a0k t];split;{rfl};rename_i g;rw[aB aj];exact(Classical.not_not.1 g).symm
theorem b5o{m:Md}{old new:Str}(h0:rF m=0)(hn:rF (zQ m old new)=0)(hF:Ew m old new)(h1:(atR m m.top).2=0)(hl:(CV m (zQ m old new)).length<=10):ckM m (zQ m old new)=0:=by unfold ckM;rw[aB (λg=>g h0),aB (λg=>g hn),aB (λg=>g h1),aB (λg=>g ((b4w h0 hn hF).trans h1)),aB aj]
theorem SC(h1c:Y2)(m:Md)(k:Int)(s:Str):ZQ 4 [m.av,.int .u8 k,.str s] [] (.bool true) []:=by
 have g1:=b66 m;cases hb:b1l m with
 |true =>rw[hb]at g1;have g1:=g1.weak (R':=.tt) rfl;refine ZN Tryz.func4 λhok=>?_;refine .zW Ep ?_;refine .zW g1 ?_;refine .zW Ep ?_;exact ZX
 | false =>
   rw[hb]at g1;have g1:=g1.weak (R':=.ff) rfl;have Hm:=b69 hb;have cr:=O1 h1c m Hm.x Hm.b _ rfl;refine ZI Tryz.func4 λhok=>?_;have wm:=WsM.ok hok.1;have bm:Bw m:=⟨Hm.b,Hm.c,Hm.x,Hm.evs⟩;refine Z0 ?_;refine .zW Ep ?_;refine .zW g1 ?_;refine⟨λg=>?_,λb8P=>?_⟩;{refine ZW ?_;refine .zW Ep ?_;exact ZX};refine ZW ?_;refine .zW cr ?_;refine⟨λg=>?_,λg0=>?_⟩;{refine ZW ?_;refine .zW Ep ?_;exact ZX};refine ZW ?_;refine⟨λg=>?_,λge=>?_⟩;{refine ZW ?_;refine .zW Ep ?_;exact ZX};refine ZW ?_;refine⟨λg=>?_,λg9=>?_⟩;{refine ZW ?_;refine .zW Ep ?_;exact ZX};have h0:rF m=0:=(by simpa using g0);have tm:=b55 (vZ h0) Hm.x Hm.b wm;have l9:m.evs.length<=9:=(by rw[aC]at g9;omega);have l0:0<m.evs.length:=(by rw[aC]at ge;omega);have hk:=a9N h0 tm l9;have cM:=b7l (a3r m m bm bm wm wm λ_=>by rw[a0k tm];omega);have cC:=Y0 h1c m m Hm Hm;refine ZW ?_;by_cases h1:(atR m m.top).2=0;case neg =>
    have h7:=a7I h0 h1;rw[h7]at hk;have hk':ckM m m≠0:=(by rw[hk];decide);rw[show mdR m m=_ from aB hk',hk,show zh 7=.uY 49 (.int .i64 7)from rfl]at cM;rw[hk]at cC;have ci:=(b8y 7 7).weak (R':=.tt) rfl;rw[show zh 7=.uY 49 (.int .i64 7)from rfl]at ci;refine .zW cM ?_;refine .zW ci ?_;refine .zW cC ?_;refine ZE ?_ ?_;{show _↔_;simp};exact wk
   rw[h1]at hk;rw[show mdR m m=_ from aG hk,hk,rZ,a5P,a6W,show b5i m m=⟨true,0,0,0,0⟩from a6V _]at cM;refine .zW cM ?_;refine⟨rW au au,ZW ?_⟩;refine⟨rW au au,ZW ?_⟩;refine aQ (λg=>absurd g au) (λ_=>ZW ?_);refine aQ (λg=>absurd g ?_) (λ_=>?_);{simp[Xk,eqP,isT]};refine ZW ?_;obtain⟨j,hj,ej⟩:∃j:Nat,j<m.evs.length/\(IntKind.i64.wrap k).tmod ((m.evs.map Ev.av).length:Int)=j:=(by have hk8:0<=k/\k<=255:=hok.2.1;rw[wrap64 aj aj,aC,Int.tmod_eq_emod_of_nonneg hk8.1];have:=Int.emod_nonneg k (b:=(m.evs.length:Int)) aj;have:=Int.emod_lt_of_pos k (b:=(m.evs.length:Int)) aj;exact⟨(k % (m.evs.length:Int)).toNat,aj,aj⟩);refine ZR ?_;refine⟨by rw[aC];omega,ZW ?_⟩;refine Ce.mk ⟨(m.evs[j]).av,⟨by rw[ej];omega,by rw[ej,aO,dS,aH hj];rfl⟩,?_⟩;refine ZW ?_;have ho:(m.evs[j]).name∈BM m:=lN (f:=λx:Ev=>x.name) (aN hj);generalize (m.evs[j]).name=old at *;have cR:=b0i m old s Hm.c Hm.b Hm.x h0 _ rfl;by_cases hr:PY m old s=0;case neg =>
    rw[aB hr]at cR;refine .zW cR ?_;exact ZX
   rw[aG hr]at cR;refine .zW cR ?_;refine⟨λg=>?_,λhne=>?_⟩;{refine ZW ?_;exact ZX};have hne:s≠old:=λe=>hne e.symm;have hr2:0<=rM m.evs old/\rF (zQ m old s)=0:=(by unfold PY at hr;split at hr;{cases hr};exact⟨aj,hr⟩);have hF:=a9t (vZ h0) hr2.1 (vZ hr2.2);have tn:=b55 (vZ hr2.2) (b7v Hm.x) (b57 Hm.b) (b7w wm);have eE:=b1Q hF tm ho hne;have hkn:=b5o h0 hr2.2 hF h1 (by rw[eE];omega);have cN:=b7l (a3r m (zQ m old s) bm ⟨b57 Hm.b,b7x Hm.c,b7v Hm.x,(b57 Hm.b).evs⟩ wm (b7w wm) λ_=>by rw[eE];omega);rw[show mdR m (zQ m old s)=_ from aG hkn,hkn,rZ,b1O hF tn ho hne,b1N tm ho hne]at cN;generalize b5i m (zQ m old s)=D at *;refine ZW ?_;refine .zW cN ?_;refine aQ (λ_=>?_) (λg=>absurd ak g);refine ZW ?_;refine Ce.mk ⟨_,⟨au,rfl⟩,ZW ?_⟩;refine aQ (λ_=>?_) (λg=>absurd rfl g);refine ZW ?_;refine aQ (λ_=>?_) (λg=>absurd ak g);refine ZW ?_;refine Ce.mk ⟨_,⟨au,rfl⟩,ZW ?_⟩;refine aQ (λ_=>?_) (λg=>absurd rfl g);refine ZW ?_;rw[aC];refine⟨rW aj aj,ZW ?_⟩;refine ZE ?_ ?_;{show _↔_;rw[aC,eE];simp};exact wk
theorem one:Y2:=b72
end S