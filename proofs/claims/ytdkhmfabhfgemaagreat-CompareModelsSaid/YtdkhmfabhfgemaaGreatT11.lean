/-
  Contracts of functions of the program. Nothing is assumed.
-/
import Derived.Test.YtdkhmfabhfgemaaGreatT10
import Derived.Shelf.Slices.In.SortNone
import Derived.Shelf.Sort.Plain
import Derived.Sort.OwnSorted
import Derived.Shelf.SlIter.Collect
import Derived.RangeFuncLeaves
import Derived.Shelf.Slices.CompactS
import Derived.Lib.RowBridge
import Derived.Maps.RangeRun
import Derived.Sort.Walk0
open Go Go.AL Go.Proofs
namespace S
set_option maxRecDepth 100000
theorem a6K(q:QQ):valid (vP q)=true:=by
 unfold vP;split;{rfl};rename_i h;have h1:q.num.natAbs≠0:=aj;have h2:q.den≠0:=q.den_nz;unfold valid;have hw:wd q.num.natAbs≠[]:=λe=>by have:=I5 h1;rw[e]at this;cases this
 rw[aB (λe=>hw e.1)];rw[I5 h1,I5 h2,rU,rU];have:=q.reduced;simpa using this
theorem a8q(q:QQ):sign (vP q)=0↔q=0:=by
 unfold sign;rw[a6K];constructor
 ·intro h;by_cases h0:q.num=0;{exact Rat.num_eq_zero.1 h0};have hw:(vP q).num≠[]:=λe=>by unfold vP at e;rw[aB h0]at e;have:=I5 (n:=q.num.natAbs) aj;dsimp only at e;rw[e]at this;cases this
  rw[aG ⟨rfl,hw⟩]at h;split at h <;> cases h
 rintro rfl;rfl
theorem b45{p q:QQ}{k l:Nat}(hp:Sz p k)(hq:Sz q l)(hk:k<=100000)(hl:l<=100000):ZQ 157 [(vP p).av,(vP q).av] [] (.int .i64 (sign (vP (p-q)))) []:=by have c1:=a6Z hp hq hk hl;have hl:=SY (hp.sub hq);have c2:=(KT (vP (p-q)) aj aj).s;generalize sign (vP (p-q))=S at *;generalize vP (p-q)=R at *;refine ZN Tryz.func157 λhok=>?_;refine .zW c1 ?_;refine .zW c2 ?_;exact ZX
structure b3G(r:Rat):Prop where
 v:valid r=true
 w1:Ws r.num
 w2:Ws r.den
 l1:r.num.length<=50000
 l2:r.den.length<=50000
theorem Va(a b:Rat)(ha:b3G a)(hb:b3G b):ZQ 86 [a.av,b.av] [] (.bool (decide (a=b))) []:=by have e1:=Ro ha.v ha.w1 ha.w2;have e2:=Ro hb.v hb.w1 hb.w2;have s1:=b4k ha.w1 ha.w2 (k:=50000) ha.l1 ha.l2 au;have s2:=b4k hb.w1 hb.w2 (k:=50000) hb.l1 hb.l2 au;have hd:sign (vP (qv a-qv b))=0↔a=b:=(by rw[a8q];refine⟨λh=>?_,λh=>by rw[h];exact _root_.Rat.sub_self⟩;have h3:qv a-qv b+qv b=qv a:=_root_.Rat.sub_add_cancel;rw[h,_root_.Rat.zero_add]at h3;rw[e1,e2,h3]);have cc:=b45 s1 s2 au au;rw[<- e1,<- e2]at cc;generalize sign (vP (qv a-qv b))=S at *;refine ZN Tryz.func86 λhok=>?_;refine .zW cc ?_;refine ZE ?_ ?_;{exact(show S=0↔decide (a=b)=true by rw[gW];exact hd)};exact wk
inductive Tg where
 |ev (x:Ev)|hs (x:Hs)|gt (x:Mg)
abbrev Tg.av:Tg->AV
 | .ev x=>.ag [.cp x.av,.vW,.vW]
 | .hs x=>.ag [.vW,.cp x.av,.vW]
 | .gt x=>.ag [.vW,.vW,.cp x.av]
abbrev MT:=List (Str×Tg)
abbrev DN(es:MT):List (AV×AV):=es.map λe=>(.str e.1,e.2.av)
def Dj:MT->Str->Option Tg
 | [],_=>none
 |(y,v)::es,x=>if y=x then some v else Dj es x
theorem a5R{x y:Str}:Uw (.str x)=Uw (.str y)↔x=y:=by simp[Uw]
theorem L8{es:MT}{x:Str}{r:Tg}{z:AV}{k:AV->Prop}(hl:Dj es x=some r)(h:k (.uf [r.av,.tt])):FW (DN es) (.str x) λr=>DI true z r k:=by
 refine⟨some r.av,?_,h⟩;induction es with
 |nil=>simp[Dj]at hl
 |cons e es ih =>obtain⟨y,v⟩:=e;simp only[Dj]at hl;by_cases hy:y=x;{subst hy;rw[aG rfl]at hl;obtain rfl:=aW hl;exact⟨_,dD,rfl,rfl⟩};rw[aB hy]at hl;obtain⟨z,hz,h3,h4⟩:=ih hl;exact⟨z,by simp only[DN,dF,aT];exact .inr hz,h3,h4⟩
theorem Ug{es:MT}{x:Str}{z:AV}{k:AV->Prop}(hl:Dj es x=none)(h:k (.uf [z,.ff])):FW (DN es) (.str x) λr=>DI true z r k:=by
 refine⟨none,?_,h⟩;clear h;induction es with
 |nil=>intro z hz;simp[DN]at hz
 |cons e es ih =>obtain⟨y,v⟩:=e;simp only[Dj]at hl;by_cases hy:y=x;{subst hy;rw[aG rfl]at hl;cases hl};rw[aB hy]at hl;intro z hz;simp only[DN,dF,aT]at hz;rcases hz with rfl|hz;{exact λe=>hy (a5R.1 e)};exact ih hl z hz
theorem b3u{M:MT}{x:Str}{v:Tg}{V:AV}{k:List (AV×AV)->Prop}(hm:x ∉ M.map (·.1))(hV:V=v.av)(h:k (DN (M++[(x,v)]))):b1l (DN M) (.str x) V k:=by subst hV;refine⟨_,.inl ⟨λz hz e=>?_,rfl⟩,by simpa[DN]using h⟩;obtain⟨y,hy,rfl⟩:=bZ.1 hz;exact hm (a5R.1 e ▸ bZ.2 ⟨y,hy,rfl⟩)
theorem yJ(n:Nat):∀M:MT,EZ n (DN M)=true
 | []=>rfl
 |(x,v)::M=>by have:=yJ n M;cases v <;> exact this
def thE(m:Md):MT:=m.evs.map λx=>(x.name,.ev x)
def thH(m:Md):MT:=m.hs.map λx=>(x.name,.hs x)
def thG(m:Md):MT:=m.gates.map λx=>(x.name,.gt x)
def zy(m:Md):MT:=thE m++thH m++thG m
theorem a1c{α:Type}{A B:List α}(h:(A++B).Nodup){i:Nat}(hi:i<B.length):B[i] ∉ A++B.take i:=by have e:A++B=(A++B.take i)++B[i]::B.drop (i+1):=(by rw[bP,<- aZ hi,fH]);rw[e,iK]at h;exact λhm=>h.2.2 _ hm _ dD rfl
theorem a2U(m:Md)(h1:m.evs.length<=1000)(h2:m.hs.length<=1000)(h3:m.gates.length<=1000)(hd:((zy m).map (·.1)).Nodup):ZQ 30 [m.av] [] (.mp 1) [(1,.tN (.str []) (DN (zy m))),(0,.gone)]:=by
 have hd1:((thE m++thH m).map (λe:Str×Tg=>e.1)).Nodup:=(by unfold zy at hd;rw[aV,iK]at hd;exact hd.1);have hd0:(([]++thE m).map (λe:Str×Tg=>e.1)).Nodup:=(by rw[aV,iK]at hd1;exact hd1.1);unfold zy thE thH thG at *;refine ZN Tryz.func30 λhok=>?_;have b4I:((([]:MT)).map (λe:Str×Tg=>e.1)++(m.evs.map λx=>(x.name,Tg.ev x)).map (λe:Str×Tg=>e.1)).Nodup:=(by rw[<- aV];exact hd0);refine qV.of <| (qM.inv (.refl _ _) (λi:Nat=>i<=m.evs.length) (λi=>[(11,.int .i64 (i:Int))]) (λi=>[(1,.tN (.str []) (DN ((([]:MT))++(m.evs.map λx=>(x.name,Tg.ev x)).take i))),(0,.box m.av)]) (λi=>m.evs.length-i) 0 (aO _) ?_ ?_ ?_);{exact λ_=>rfl}
 ·refine Zv wk ?_;repeat' first|exact Zq|apply aI
  all_goals first|exact qO _|exact yJ _ _|(rw[jO,iT];exact qO _)|skip
 rintro i hi _;refine ZS ?_ ?_<;>intro g
 ·have hlt:i<m.evs.length:=(by simpa using g);have hlt2:i<(m.evs.map λx=>(x.name,Tg.ev x)).length:=(by simpa using hlt);have hlt3:i<((m.evs.map λx=>(x.name,Tg.ev x)).map (λe:Str×Tg=>e.1)).length:=(by simpa using hlt);have hst:(([]:MT))++(m.evs.map λx=>(x.name,Tg.ev x)).take (i+1)=((([]:MT))++(m.evs.map λx=>(x.name,Tg.ev x)).take i)++[(m.evs[i].name,Tg.ev m.evs[i])]:=(by rw[eP,aH hlt2,bP];simp);have hnm:=a1c b4I hlt3;rw[<- iy,<- aV,show((m.evs.map λx=>(x.name,Tg.ev x)).map (λe:Str×Tg=>e.1))[i]=m.evs[i].name by simp]at hnm;refine ZW ?_;refine ZR ?_;refine rV hlt (ZW ?_);refine rV hlt ?_;generalize m.evs[i]=x at *;generalize (([]:MT))++(m.evs.map λx=>(x.name,Tg.ev x)).take i=M at *;refine ZW ?_;refine b3u (v:=Tg.ev x) hnm rfl ?_;rw[<- hst];refine ZW ?_;refine ZG ?_;refine⟨i+1,?_,?_,?_⟩;{exact hlt}
  ·refine Zv wk ?_;repeat' first|exact Zq|apply aI
   all_goals first|exact qO _|exact yJ _ _
  omega
 have hg:¬i<m.evs.length:=(by simpa using g);have hk:i=(m.evs.map λx=>(x.name,Tg.ev x)).length:=(by rw[aC];omega);rw[hk,bg];clear hk g hi hg b4I;rw[eG];refine ZW ?_;have b4H:((m.evs.map λx=>(x.name,Tg.ev x)).map (λe:Str×Tg=>e.1)++(m.hs.map λx=>(x.name,Tg.hs x)).map (λe:Str×Tg=>e.1)).Nodup:=(by rw[<- aV];exact hd1);refine qV.of <| (qM.inv (.refl _ _) (λi:Nat=>i<=m.hs.length) (λi=>[(30,.int .i64 (i:Int))]) (λi=>[(1,.tN (.str []) (DN ((m.evs.map λx=>(x.name,Tg.ev x))++(m.hs.map λx=>(x.name,Tg.hs x)).take i))),(0,.box m.av)]) (λi=>m.hs.length-i) 0 (aO _) ?_ ?_ ?_);{exact λ_=>rfl}
 ·refine Zv wk ?_;repeat' first|exact Zq|apply aI
  all_goals first|exact qO _|exact yJ _ _|(rw[jO,iT];exact qO _)|skip
 rintro i hi _;refine ZS ?_ ?_<;>intro g
 ·have hlt:i<m.hs.length:=(by simpa using g);have hlt2:i<(m.hs.map λx=>(x.name,Tg.hs x)).length:=(by simpa using hlt);have hlt3:i<((m.hs.map λx=>(x.name,Tg.hs x)).map (λe:Str×Tg=>e.1)).length:=(by simpa using hlt);have hst:(m.evs.map λx=>(x.name,Tg.ev x))++(m.hs.map λx=>(x.name,Tg.hs x)).take (i+1)=((m.evs.map λx=>(x.name,Tg.ev x))++(m.hs.map λx=>(x.name,Tg.hs x)).take i)++[(m.hs[i].name,Tg.hs m.hs[i])]:=(by rw[eP,aH hlt2,bP];simp);have hnm:=a1c b4H hlt3;rw[<- iy,<- aV,show((m.hs.map λx=>(x.name,Tg.hs x)).map (λe:Str×Tg=>e.1))[i]=m.hs[i].name by simp]at hnm;refine ZW ?_;refine ZR ?_;refine rV hlt (ZW ?_);refine rV hlt ?_;generalize m.hs[i]=x at *;generalize (m.evs.map λx=>(x.name,Tg.ev x))++(m.hs.map λx=>(x.name,Tg.hs x)).take i=M at *;refine ZW ?_;refine b3u (v:=Tg.hs x) hnm rfl ?_;rw[<- hst];refine ZW ?_;refine ZG ?_;refine⟨i+1,?_,?_,?_⟩;{exact hlt}
  ·refine Zv wk ?_;repeat' first|exact Zq|apply aI
   all_goals first|exact qO _|exact yJ _ _
  omega
 have hg:¬i<m.hs.length:=(by simpa using g);have hk:i=(m.hs.map λx=>(x.name,Tg.hs x)).length:=(by rw[aC];omega);rw[hk,bg];clear hk g hi hg b4H;refine ZW ?_;have b4G:(((m.evs.map λx=>(x.name,Tg.ev x))++(m.hs.map λx=>(x.name,Tg.hs x))).map (λe:Str×Tg=>e.1)++(m.gates.map λx=>(x.name,Tg.gt x)).map (λe:Str×Tg=>e.1)).Nodup:=(by rw[<- aV];exact hd);refine qV.of <| (qM.inv (.refl _ _) (λi:Nat=>i<=m.gates.length) (λi=>[(49,.int .i64 (i:Int))]) (λi=>[(1,.tN (.str []) (DN (((m.evs.map λx=>(x.name,Tg.ev x))++(m.hs.map λx=>(x.name,Tg.hs x)))++(m.gates.map λx=>(x.name,Tg.gt x)).take i))),(0,.box m.av)]) (λi=>m.gates.length-i) 0 (aO _) ?_ ?_ ?_);{exact λ_=>rfl}
 ·refine Zv wk ?_;repeat' first|exact Zq|apply aI
  all_goals first|exact qO _|exact yJ _ _|(rw[jO,iT];exact qO _)|skip
 rintro i hi _;refine ZS ?_ ?_<;>intro g
 ·have hlt:i<m.gates.length:=(by simpa using g);have hlt2:i<(m.gates.map λx=>(x.name,Tg.gt x)).length:=(by simpa using hlt);have hlt3:i<((m.gates.map λx=>(x.name,Tg.gt x)).map (λe:Str×Tg=>e.1)).length:=(by simpa using hlt);have hst:((m.evs.map λx=>(x.name,Tg.ev x))++(m.hs.map λx=>(x.name,Tg.hs x)))++(m.gates.map λx=>(x.name,Tg.gt x)).take (i+1)=(((m.evs.map λx=>(x.name,Tg.ev x))++(m.hs.map λx=>(x.name,Tg.hs x)))++(m.gates.map λx=>(x.name,Tg.gt x)).take i)++[(m.gates[i].name,Tg.gt m.gates[i])]:=(by rw[eP,aH hlt2,bP];simp);have hnm:=a1c b4G hlt3;rw[<- iy,<- aV,show((m.gates.map λx=>(x.name,Tg.gt x)).map (λe:Str×Tg=>e.1))[i]=m.gates[i].name by simp]at hnm;refine ZW ?_;refine ZR ?_;refine rV hlt (ZW ?_);refine rV hlt ?_;generalize m.gates[i]=x at *;generalize ((m.evs.map λx=>(x.name,Tg.ev x))++(m.hs.map λx=>(x.name,Tg.hs x)))++(m.gates.map λx=>(x.name,Tg.gt x)).take i=M at *;refine ZW ?_;refine b3u (v:=Tg.gt x) hnm rfl ?_;rw[<- hst];refine ZW ?_;refine ZG ?_;refine⟨i+1,?_,?_,?_⟩;{exact hlt}
  ·refine Zv wk ?_;repeat' first|exact Zq|apply aI
   all_goals first|exact qO _|exact yJ _ _
  omega
 have hg:¬i<m.gates.length:=(by simpa using g);have hk:i=(m.gates.map λx=>(x.name,Tg.gt x)).length:=(by rw[aC];omega);rw[hk,bg];clear hk g hi hg b4G;generalize (m.evs.map λx=>(x.name,Tg.ev x))++(m.hs.map λx=>(x.name,Tg.hs x))++(m.gates.map λx=>(x.name,Tg.gt x))=M at *;refine ZW ?_;refine ZE ?_ ?_;{exact wk};repeat' first|exact Zq|apply aI
 all_goals first|exact qO _|exact yJ _ _
theorem a4q(a b:List Str)(ha:a.length<=1000000)(_:b.length<=1000000):ZQ 87 [sL a,sL b] [] (.bool (decide (a=b))) []:=by generalize hB:decide (a=b)=B;refine ZN Tryz.func87 λhok=>?_;constructor<;>intro g;{have hne:a≠b:=λe=>g (by rw[e]);obtain rfl:B=false:=(by rw[<- hB];exact bK hne);refine ZW ?_;exact ZX};have hl:a.length=b.length:=(by simp at g;omega);refine ZW ?_;refine qV.of <| (qM.inv (.refl _ _) (λi:Nat=>i<=a.length/\a.take i=b.take i) (λi=>[(13,.int .i64 (i:Int))]) (λ_=>[]) (λi=>a.length-i) 0 ⟨aO _,ak⟩ ?_ ?_ ?_);{exact λ_=>rfl};{exact ZV};rintro i ⟨hi,hall⟩ _;refine ZS ?_ ?_<;>intro k1;{have hlt:i<a.length:=(by simpa using k1);have hlt2:i<b.length:=aj;have s1:a.take (i+1)=a.take i++[a[i]]:=(by rw[eP,aH hlt];rfl);have s2:b.take (i+1)=b.take i++[b[i]]:=(by rw[eP,aH hlt2];rfl);have hin:a[i]≠b[i]->B=false:=λh=>(by rw[<- hB];exact bK λe=>h (by simp[e]));refine ZW ?_;refine ZR ?_;refine rV hlt (ZW ?_);refine rV hlt2 ?_;refine ZS ?_ ?_<;>intro k2;{obtain rfl:=hin k2;refine ZW ?_;exact ZX};refine ZW ?_;refine ZG ?_;refine⟨i+1,?_,?_,?_⟩;{refine⟨hlt,?_⟩;rw[s1,s2,hall,ji.1 k2]};{exact ZV};omega};have hk:¬i<a.length:=(by simpa using k1);have he:a=b:=(by rw[bf aj,bf aj]at hall;exact hall);obtain rfl:B=true:=(by rw[<- hB];exact dQ he);refine ZW ?_;exact ZX
def b0n:Tg->Prop
 | .ev x=>b3G x.p/\b3G x.fail/\b3G x.repair
 | .hs _=>True
 | .gt x=>b3G x.y5/\x.ins.length<=1000000
def BK:Tg->Tg->Prop
 | .ev x,.ev y=>x.p=y.p/\x.fail=y.fail/\x.repair=y.repair/\x.cost=y.cost
 | .hs x,.hs y=>x.on=y.on
 | .gt x,.gt y=>x.kind=y.kind/\x.k=y.k/\x.ins=y.ins/\x.y5=y.y5
 |_,_=>False
theorem a9H(x y:Ev)(hx:b0n (.ev x))(hy:b0n (.ev y))(b:Bool)(hb:b=true↔BK (.ev x) (.ev y)):ZQ 31 [(Tg.ev x).av,(Tg.ev y).av] [] (.bool b) []:=by
 have c1:=Va x.p y.p hx.1 hy.1;have c2:=Va x.fail y.fail hx.2.1 hy.2.1;have c3:=Va x.repair y.repair hx.2.2 hy.2.2;unfold BK at hb;obtain⟨nx,xp,xf,xr,xc⟩:=x;obtain⟨ny,yp,yf,yr,yc⟩:=y;dsimp only at *;refine ZN Tryz.func31 λhok=>?_;refine ZR ?_;refine ZW ?_;refine ZR ?_;by_cases e1:xp=yp;case neg =>
  obtain rfl:b=false:=jk.2 λh=>e1 (hb.1 h).1;refine .zW (c1.weak (R':=.ff) (by show decide _=false;exact bK e1)) ?_;exact ZX
 refine .zW (c1.weak (R':=.tt) (by show decide _=true;exact dQ e1)) ?_;by_cases e2:xf=yf;case neg =>
  obtain rfl:b=false:=jk.2 λh=>e2 (hb.1 h).2.1;refine .zW (c2.weak (R':=.ff) (by show decide _=false;exact bK e2)) ?_;exact ZX
 refine .zW (c2.weak (R':=.tt) (by show decide _=true;exact dQ e2)) ?_;by_cases e3:xr=yr;case neg =>
  obtain rfl:b=false:=jk.2 λh=>e3 (hb.1 h).2.2.1;refine .zW (c3.weak (R':=.ff) (by show decide _=false;exact bK e3)) ?_;exact ZX
 refine .zW (c3.weak (R':=.tt) (by show decide _=true;exact dQ e3)) ?_;have hb4:(xc=yc)↔b=true:=⟨λh=>hb.2 ⟨e1,e2,e3,h⟩,λh=>(hb.1 h).2.2.2⟩;refine ZE ?_ ?_
 ·repeat' first|exact Zq|apply aI
  all_goals exact hb4
 exact wk
theorem a9B(x y:Hs)(b:Bool)(hb:b=true↔BK (.hs x) (.hs y)):ZQ 31 [(Tg.hs x).av,(Tg.hs y).av] [] (.bool b) []:=by
 unfold BK at hb;obtain⟨nx,xo⟩:=x;obtain⟨ny,yo⟩:=y;dsimp only at *;refine ZN Tryz.func31 λhok=>?_;refine ZR ?_;refine ZW ?_;refine ZE ?_ ?_
 ·repeat' first|exact Zq|apply aI
  all_goals exact hb.symm
 exact wk
theorem a9E(x y:Mg)(hx:b0n (.gt x))(hy:b0n (.gt y))(b:Bool)(hb:b=true↔BK (.gt x) (.gt y)):ZQ 31 [(Tg.gt x).av,(Tg.gt y).av] [] (.bool b) []:=by
 have c1:=a4q x.ins y.ins hx.2 hy.2;have c2:=Va x.y5 y.y5 hx.1 hy.1;unfold BK at hb;obtain⟨nx,xk,xn,xi,xd⟩:=x;obtain⟨ny,yk,yn,yi,yd⟩:=y;dsimp only at *;refine ZN Tryz.func31 λhok=>?_;refine ZR ?_;refine ZW ?_;refine ZR ?_;refine⟨λe1=>?_,λe1=>?_⟩;case refine_2 =>
  obtain rfl:b=false:=jk.2 λh=>e1 (hb.1 h).1;refine ZW ?_;exact ZX
 refine ZS ?_ ?_<;>intro e2;case refine_2 =>
  obtain rfl:b=false:=jk.2 λh=>e2 (hb.1 h).2.1;refine ZW ?_;exact ZX
 refine ZW ?_;by_cases e3:xi=yi;case neg =>
  obtain rfl:b=false:=jk.2 λh=>e3 (hb.1 h).2.2.1;refine .zW (c1.weak (R':=.ff) (by show decide _=false;exact bK e3)) ?_;exact ZX
 refine .zW (c1.weak (R':=.tt) (by show decide _=true;exact dQ e3)) ?_;by_cases e4:xd=yd;case neg =>
  obtain rfl:b=false:=jk.2 λh=>e4 (hb.1 h).2.2.2;refine .zW (c2.weak (R':=.ff) (by show decide _=false;exact bK e4)) ?_;exact ZX
 obtain rfl:b=true:=hb.2 ⟨e1,e2,e3,e4⟩;refine .zW (c2.weak (R':=.tt) (by show decide _=true;exact dQ e4)) ?_;exact ZX
theorem a9I(x:Ev)(y:Hs):ZQ 31 [(Tg.ev x).av,(Tg.hs y).av] [] (.bool false) []:=by refine ZN Tryz.func31 λhok=>?_;exact ZX
theorem a9J(x:Ev)(y:Mg):ZQ 31 [(Tg.ev x).av,(Tg.gt y).av] [] (.bool false) []:=by refine ZN Tryz.func31 λhok=>?_;exact ZX
theorem a9D(x:Hs)(y:Ev):ZQ 31 [(Tg.hs x).av,(Tg.ev y).av] [] (.bool false) []:=by refine ZN Tryz.func31 λhok=>?_;exact ZX
theorem a9C(x:Hs)(y:Mg):ZQ 31 [(Tg.hs x).av,(Tg.gt y).av] [] (.bool false) []:=by refine ZN Tryz.func31 λhok=>?_;exact ZX
theorem a9G(x:Mg)(y:Ev):ZQ 31 [(Tg.gt x).av,(Tg.ev y).av] [] (.bool false) []:=by refine ZN Tryz.func31 λhok=>?_;exact ZX
theorem a9F(x:Mg)(y:Hs):ZQ 31 [(Tg.gt x).av,(Tg.hs y).av] [] (.bool false) []:=by refine ZN Tryz.func31 λhok=>?_;exact ZX
theorem b0V(x y:Tg)(hx:b0n x)(hy:b0n y)(b:Bool)(hb:b=true↔BK x y):ZQ 31 [x.av,y.av] [] (.bool b) []:=by
 have hf:¬BK x y->b=false:=λh=>jk.2 λe=>h (hb.1 e);cases x with
 | ev x=>cases y with
   |ev y=>exact a9H x y hx hy b hb
   |hs y=>rw[hf id];exact a9I x y
   |gt y=>rw[hf id];exact a9J x y
 | hs x=>cases y with
   |ev y=>rw[hf id];exact a9D x y
   |hs y=>exact a9B x y b hb
   |gt y=>rw[hf id];exact a9C x y
 | gt x=>cases y with
   |ev y=>rw[hf id];exact a9G x y
   |hs y=>rw[hf id];exact a9F x y
   |gt y=>exact a9E x y hx hy b hb
def b7s:Go.Shelf.Ren:=⟨λx=>match x with|190=>32|125=>89|258=>88|128=>167|129=>168|302=>158|303=>159|304=>160|305=>161|306=>162|307=>163|308=>164|309=>165|310=>166|333=>218|329=>219|330=>220|334=>221|335=>222|336=>223|344=>244|n=>n,λx=>match x with|31=>33|46=>167|51=>179|53=>184|183=>238|182=>237|131=>152|218=>280|222=>284|228=>292|229=>171|n=>n,λx=>x⟩
theorem b1Z:Go.Proofs.Lays.n190 Tryz.prog b7s where
 mixed:=mixed
 f125:=by kernel_rfl
 f128:=by kernel_rfl
 f129:=by kernel_rfl
 f190:=by kernel_rfl
 f258:=by kernel_rfl
 f302:=by kernel_rfl
 f303:=by kernel_rfl
 f304:=by kernel_rfl
 f305:=by kernel_rfl
 f306:=by kernel_rfl
 f307:=by kernel_rfl
 f308:=by kernel_rfl
 f309:=by kernel_rfl
 f310:=by kernel_rfl
 f329:=by kernel_rfl
 f330:=by kernel_rfl
 f333:=by kernel_rfl
 f334:=by kernel_rfl
 f335:=by kernel_rfl
 f336:=by kernel_rfl
 f344:=by kernel_rfl
 t0:=by kernel_rfl
 a0:=λw=>by rfl
 z0:=λw=>by rfl
 v0:=λw=>by rfl
 t3:=by kernel_rfl
 a3:=λw=>by rfl
 z3:=λw=>by rfl
 v3:=λw=>by rfl
 t4:=by kernel_rfl
 a4:=λw=>by rfl
 z4:=λw=>by rfl
 v4:=λw=>by rfl
 t5:=by kernel_rfl
 a5:=λw=>by rfl
 z5:=λw=>by rfl
 v5:=λw=>by rfl
 t9:=by kernel_rfl
 a9:=λw=>by rfl
 z9:=λw=>by rfl
 v9:=λw=>by rfl
 t31:=by kernel_rfl
 a31:=λw=>by rfl
 z31:=λw=>by rfl
 v31:=λw=>by rfl
 t46:=by kernel_rfl
 a46:=λw=>by rfl
 z46:=λw=>by rfl
 v46:=λw=>by rfl
 t51:=by kernel_rfl
 a51:=λw=>by rfl
 z51:=λw=>by rfl
 v51:=λw=>by rfl
 t53:=by kernel_rfl
 a53:=λw=>by rfl
 z53:=λw=>by rfl
 v53:=λw=>by rfl
 t131:=by kernel_rfl
 a131:=λw=>by rfl
 z131:=λw=>by rfl
 v131:=λw=>by rfl
 t182:=by kernel_rfl
 a182:=λw=>by rfl
 z182:=λw=>by rfl
 v182:=λw=>by rfl
 t183:=by kernel_rfl
 a183:=λw=>by rfl
 z183:=λw=>by rfl
 v183:=λw=>by rfl
 t218:=by kernel_rfl
 a218:=λw=>by rfl
 z218:=λw=>by rfl
 v218:=λw=>by rfl
 t222:=by kernel_rfl
 a222:=λw=>by rfl
 z222:=λw=>by rfl
 v222:=λw=>by rfl
 t228:=by kernel_rfl
 a228:=λw=>by rfl
 z228:=λw=>by rfl
 v228:=λw=>by rfl
 t229:=by kernel_rfl
 a229:=λw=>by rfl
 z229:=λw=>by rfl
 v229:=λw=>by rfl
abbrev sortL(l:List Str):List Str:=l.mergeSort λx y=>decide (x<=y)
theorem a1Q{c:Cx}:∀{l:List Str} {cs:List Value},Pq c 1 (l.map .str) cs->cs.take l.length=l.map Go.Proofs.encStr
 | [],_,_=>ak
 |s::l,cs,h=>by obtain⟨a,d,rfl,h1,h2,h3⟩:=h;simp only[Rd]at h2;obtain⟨rfl,h4⟩:=h2;simp[a1Q h3,Go.Proofs.encStr]
theorem a7S{c:Cx}:∀{l:List Str} {cs:List Value},Pq c 1 (l.map .str) cs->∀s∈l,s.length<=maxL
 | [],_,_=>ak
 |s::l,cs,h=>by obtain⟨a,d,rfl,h1,h2,h3⟩:=h;simp only[Rd]at h2;intro t ht;rcases aT.1 ht with rfl|ht;{exact h2.2};exact a7S h3 t ht
theorem a7Y{w:World}{Im:Nat->Nat->Prop}:∀{l:List Str},(∀s∈l,s.length<=maxL)->Jv w Im 1 (l.map .str) (l.map Go.Proofs.encStr)
 | [],_=>by simp[Jv]
 |s::l,h=>by refine⟨[Go.Proofs.encStr s],l.map Go.Proofs.encStr,rfl,rfl,?_,a7Y λt ht=>h t (dh _ ht)⟩;simp only[Rd];exact⟨trivial,h s dD⟩
theorem Yk{c:Cx}{l:List Str}{cs:List Value}(h:∀s∈l,s.length<=maxL)(h2:cs.take l.length=l.map Go.Proofs.encStr):Pq c 1 (l.map .str) cs:=by have:=CX (c:=c) (sz:=1) (rest:=cs.drop l.length) (a7Y (w:=c.w) (Im:=c.Im) h);rw[<- h2,fH]at this;exact this
theorem Tr.b6U{c:Cx}{H:Heap}{k sz:Nat}{l l':List AV}{w':World}{b:Nat}{cs cs':List Value}{ty:TypeId}(hr:HR c H)(ho:hget H k=some (.uD sz l))(g1:(c.tk k).1=some ⟨b,0,none⟩)
  (g2:c.w.heap[b]? = some (.cells cs.toArray ty)) (g3:cs.length=(c.tk k).2*sz) (g5:(c.tk k).2<=maxL) (g7:∀o,¬c.Im b o) (gr:c.w.grownBy w' (some b)) (hb:w'.heap[b]? = some (.cells cs'.toArray ty)) (hl:cs'.length=cs.length)
  (hn:l'.length=l.length) (hle:l'.length<=(c.tk k).2) (hR:Pq { c with w:=w',tp:=ug (hset H k (.uD sz l')) } sz l' cs'):Tr c H { c with w:=w',tp:=ug (hset H k (.uD sz l')) } (hset H k (.uD sz l')):=by
 have hbk:qZ c (k,.uD sz l)=some b:=(by simp[qZ,g1]);have htp:ug (hset H k (.uD sz l'))=ug H:=(by funext j;by_cases hj:j=k;{subst hj;rw[VB ho,hn];unfold ug;rw[ho]};unfold ug;rw[DK hj]);have le:c.Le { c with w:=w',tp:=ug (hset H k (.uD sz l')) }:=(by refine⟨λb' o h=>⟨h,wW ?_⟩,aS _,λ_ _=>rfl,λj n _ h=>.inl ⟨?_,rfl⟩⟩;{refine gr.block b' (hr.im b' o h) λe=>?_;obtain rfl:=aW e;exact g7 o h};have h':ug (hset H k (.uD sz l')) j=some n:=h;rw[hr.tp,<- htp];exact h');refine Tr.set hr ho le rfl rfl (λ_ _=>rfl) gr.os gr.tape gr.output gr.size (λb' h1 h2=>gr.block b' h1 λe=>h2 (by rw[hbk];exact e.symm)) (λ_ _ h=>.inl h) (λb' h=>.inr (by rw[hbk];simp only[qZ,g1]at h;exact h)) ?_;exact .inr ⟨b,cs',ty,g1,hb,by rw[hl];exact g3,hle,g5,hR,g7⟩
theorem Nv(l:List Str)(hl:l.length<=1000000):ZQ 32 [.gs 0 l.length] [(0,.uD 1 (l.map .str))] (.uf []) [(0,.uD 1 ((sortL l).map .str))]:=by refine⟨⟨_,b1Z.f190,by kernel_rfl,by kernel_rfl⟩,λc vs hr hv=>?_⟩;obtain⟨v,rfl,hw⟩:∃v,vs=[v]/\EV c (.gs 0 l.length) v:=(by obtain⟨v,r,rfl,h1,rfl⟩:=hv;exact⟨v,rfl,h1⟩);have hV:VV c (.gs 0 (l.map AV.str).length) v:=(by rw[aC];exact hw);have ho:hget [(0,HO.uD 1 (l.map AV.str))] 0=some (.uD 1 (l.map .str)):=rfl;obtain⟨e,hj,hc1,hc2⟩:=Jf hr ho hV;subst e;rcases hr.EL ho with⟨g1,g2,g3⟩|⟨b,cs,ty,g1,g2,g3,g4,g5,g6,g7⟩;{have hl0:l=[]:=(by simpa using g3);subst hl0;refine Calls.mono (Go.Proofs.Any.slices_Sort_string_none b1Z _ _ c.w) ?_;rintro e w' ⟨rfl,rfl⟩;have es:sortL []=[]:=ak;rw[es];exact⟨_,c,rfl,rfl,Tr.refl hr,PL⟩};rw[aC]at g4 ⊢;rw[g1];have hb0:b<c.w.heap.size:=(dG.1 g2).1;refine Calls.mono (Go.Proofs.Any.slices_Sort_string b1Z b 0 _ l c.w (Go.holds_of_block g2 (a1Q g6)) hb0 aj) ?_;rintro e w' ⟨rfl,n,os,rfl⟩;have hlen:(sortL l).length=l.length:=kF l;refine⟨_,_,rfl,rfl,Tr.b6U (l':=(sortL l).map .str) (cs':=(Go.Sort.putCells Go.Proofs.encStr 0 (sortL l).toArray cs.toArray).toList) hr ho g1 g2 g3 g5 g7 (Go.grownBy_sorted _) ?_ ?_ ?_ ?_ ?_,PL⟩;{rw[jf];exact Go.heap_sorted _ g2};{simp[Go.Sort.putCells]};{simp[hlen]};{simpa[hlen]using g4};refine Yk (λs hs=>a7S g6 s ((nN l _).mem_iff.1 hs)) ?_;exact Go.take_putCells cs.toArray (sortL l) (by rw[hlen];simpa using dH g4 aj)
end S
section
open Go Go.AL Go.Proofs Go.RowKit Go.Maps Go.Sort Go.Shelf
namespace S
set_option maxRecDepth 100000
set_option maxHeartbeats 2000000 in
theorem b1q(n:Nat)(hn:1<=n)(lp n0:Nat)(a:Addr)(base:Option Addr)(cap:Nat)(l:List Str)(W0 W:World)(J:List Str->World->Prop)
  (hl:l.length<=1000000) (hab:a.block<n0) (ha0:W0.cell? a=some (.slice base l.length cap)) (hc:l≠[]->∃b off,base=some ⟨b,off,none⟩/\b<n0/\∀j s,l[j]? = some s->W0.cell? ⟨b,off+j,none⟩=some (encStr s))
  (hB:∀pre W',J pre W'->Below n0 W0 W')
  (hY:∀pre x W',J pre W'->pre.length<l.length->YieldAt Fence.wide (n-1) Tryz.prog lp #[encStr x] W' λe W''=>e=.returned (.bool true)/\J (pre++[x]) W''/\KeepsWalks W' W'')
  (h0:J [] W) :
  CallsIn Fence.wide n Tryz.prog 85 #[.func (.yield lp) #[] #[],.pointer (some a)] W λe W'=>(∃v,e=.returned v)/\J l W':=by
 have sas:=@Oper.semAt_some;have ha:W.cell? a=some (.slice base l.length cap):=((hB _ _ h0).cell (p:=a) hab).trans ha0;refine callsIn_of_wp Tryz.func85 rfl trivial ?_ rfl;simp only[Tryz.ntmps85,jK,dW,iQ,Nat.reduceAdd,Nat.reduceSub,Array.replicate_succ,Array.replicate_zero,List.push_toArray,List.append_toArray,eG,eX]
 gi_wp2
 gi_loopw [7] (λi wr=>∃k:Nat,k<=l.length/\i=.int .i64 k/\J (l.take k) wr)
  (λi _=>l.length-(Go.Proofs.intOf i).toNat)
 case atStart=>exact⟨0,aO _,rfl,by simpa using h0⟩
 case round =>
  obtain⟨k,hk,rfl,hJs⟩:=hrel;by_cases hlt:k<l.length
  ·obtain⟨b,off,rfl,hb,hcs⟩:=hc (by rintro rfl;simp at hlt);have hcx:wr.cell? ⟨b,off+k,none⟩=some (encStr l[k]):=((hB _ _ hJs).cell (p:=⟨b,off+k,none⟩) hb).trans (hcs k _ (aH hlt));obtain⟨fn,tmps,assign,body,hy,hR⟩:=hY _ l[k] wr hJs (by rw[bD];omega)
   gi_wp2
   refine hR.mono ?_;rintro e W3 ⟨rfl,hJ3,hk3⟩
   gi_wp2
   go_roundw
   case rel=>exact⟨k+1,aj,ak,by rw[bG hlt];exact hJ3⟩
   case measure=>simp[Go.Proofs.intOf];omega
  obtain rfl:k=l.length:=aj
  gi_wp2
  go_end0
  exact⟨⟨_,rfl⟩,by simpa using hJs⟩
def rnZ:Go.Shelf.Ren:=⟨λx=>match x with|11=>156|n=>n,λx=>match x with|24=>33|26=>9|28=>81|33=>159|n=>n,λx=>x⟩
theorem Bf:SlLaysZ.n11 Tryz.prog rnZ where
 mixed:=mixed
 f11:=⟨Tryz.f156.name,by kernel_rfl,by kernel_rfl⟩
 t0:=by kernel_rfl
 a0:=λw=>by rfl
 z0:=λw=>by rfl
 v0:=λw=>by rfl
 t24:=by kernel_rfl
 a24:=λw=>by rfl
 z24:=λw=>by rfl
 v24:=λw=>by rfl
 t26:=by kernel_rfl
 a26:=λw=>by rfl
 z26:=λw=>by rfl
 v26:=λw=>by rfl
 t28:=by kernel_rfl
 a28:=λw=>by rfl
 z28:=λw=>by rfl
 v28:=λw=>by rfl
 i26:=by kernel_rfl
set_option maxHeartbeats 2000000 in
theorem appendSeq(a:Addr)(base:Option Addr)(cap:Nat)(l:List Str)(w:World)(hl:l.length<=1000000)(hab:a.block<w.heap.size)(ha:w.cell? a=some (.slice base l.length cap))
  (hc:l≠[]->∃b off,base=some ⟨b,off,none⟩/\b<w.heap.size/\∀j s,l[j]? = some s->w.cell? ⟨b,off+j,none⟩=some (encStr s)) :
  Calls Tryz.prog 156 #[.slice none 0 0,.func (.func 85) #[] #[.pointer (some a)]] w λe w'=>∃v,e=.returned v/\w'.ownsRow w.heap.size 9 1 v l.length (l.map encStr)/\(v=.slice none 0 0↔l=[])/\Below w.heap.size w w':=by
 rw[<- callsIn_wide (n:=9)];have eg:∀args w,(callFunc 85 args).run Tryz.prog w=.ok (.enter 85 args) w:=enters_of Tryz.func85 (by kernel_rfl) rfl;obtain⟨_,_,FG⟩:=Bf.f11;refine callsIn_of_wp_marks FG rfl trivial ?_ rfl;simp only[SlBodyZ.n11_ntmps rnZ,jK,dW,iQ,Nat.reduceAdd,Nat.reduceSub,Array.replicate_succ,Array.replicate_zero,List.push_toArray,List.append_toArray,eG,eX];have mixed:=Bf.mixed;have t0:=Bf.t0;have a0:=Bf.a0;have z0:=Bf.z0;have v0:=Bf.v0;have t24:=Bf.t24;have a24:=Bf.a24;have z24:=Bf.z24;have v24:=Bf.v24;have t26:=Bf.t26;have a26:=Bf.a26;have z26:=Bf.z26;have v26:=Bf.v26;have t28:=Bf.t28;have a28:=Bf.a28;have z28:=Bf.z28;have v28:=Bf.v28;have hne:rnZ.t 24≠rnZ.t 26:=au;have u0:=run_underlying Bf.t0;have u24:=run_underlying Bf.t24;have u26:=run_underlying Bf.t26;have u28:=run_underlying Bf.t28
 gi_wp2
 refine wpIn_rangeFunc ?_;intro fn hfn;rw[show Fence.wide.round=none from rfl];generalize hsv:Value.func (Fn.func 85) #[] #[Value.pointer (some a)]=sv;obtain⟨W0,hW0⟩:∃W0,w.alloc (.cells #[.slice none 0 0] (rnZ.t 24))=W0:=⟨_,rfl⟩;have hs0:W0.heap.size=w.heap.size+1:=(by rw[<- hW0];simp);have hv0:W0.heap[w.heap.size]? = some (.cells #[.slice none 0 0] (rnZ.t 24) (0,0)):=(by rw[<- hW0];exact World.alloc_heap_new w _);have hb0:Below w.heap.size w W0:=(by rw[<- hW0];exact(Below.refl _ w).alloc (aS _) _);rw[hW0];obtain⟨W1,hW1⟩:∃W1,(W0.alloc (.deferred (some []))).alloc (.loop (AnyZ.apRec rnZ fn sv w.heap.size W0.heap.size .ready none))=W1:=⟨_,rfl⟩;have hold:∀k,k<W0.heap.size->W1.heap[k]? = W0.heap[k]?:=λk hk=>(by rw[<- hW1];exact(Below.heap_alloc _ _ k aA).trans (Below.heap_alloc _ _ k hk));have hb1:Below w.heap.size w W1:=(by rw[<- hW1];exact(hb0.alloc hb0.size _).alloc (by have:=hb0.size;simp;omega) _);have hs1:W1.heap.size=W0.heap.size+2:=(by rw[<- hW1];simp);have hM:AnyZ.ApAt rnZ w fn sv w.heap.size (W0.heap.size+1) W0.heap.size [] W1 :=
  ⟨⟨_,(hold w.heap.size aj).trans hv0,⟨rfl,.inl ⟨rfl,rfl⟩⟩,ak⟩,
   by rw[<- hW1];have:=World.alloc_heap_new (W0.alloc (.deferred (some []))) (.loop (AnyZ.apRec rnZ fn sv w.heap.size W0.heap.size .ready none));rwa[World.size_alloc]at this,
   by rw[<- hW1];exact(Below.heap_alloc _ _ _ ak).trans (World.alloc_heap_new W0 _),hb1⟩
 refine⟨W0.heap.size+1,[{ target:=.collected W0.heap.size,args:=#[] }],W1,{ target:=.fn (.func 85) #[.pointer (some a)],args:=#[.func (.yield (W0.heap.size+1)) #[] #[]] },W1,85,
  #[.func (.yield (W0.heap.size+1)) #[] #[],.pointer (some a)],W1,?_,?_,?_,?_,λ_=>au,?_⟩
 ·rw[<- hW1];exact run_enterLoop_outer _ _ _ _ _
 ·rw[<- hsv];simp[resolve,go_sem]
 ·intro f' hf';trivial
 ·simp[invoke,go_sem,eg]
 refine(b1q 8 au (W0.heap.size+1) w.heap.size a base cap l w W1 (AnyZ.ApAt rnZ w fn sv w.heap.size (W0.heap.size+1) W0.heap.size) hl hab ha hc (λ_ _ h=>h.below)
  (λpre x W hJ hl'=>AnyZ.apYield Bf Fence.wide 7 w fn trivial _ w.heap.size (W0.heap.size+1) W0.heap.size aj aj aj (aS _) aj 1000000 (by simp[maxLen]) aj pre x W hJ aj) hM).mono ?_
 rintro e W2 ⟨⟨v0,rfl⟩,h2⟩;obtain⟨v,hv,hrow,hnil⟩:=h2.box;have hend:=run_endLoop (P:=Tryz.prog) h2.L (by simp[AnyZ.apRec]);obtain⟨W3,hW3⟩:∃W3,W2.putObj (W0.heap.size+1) (.loop { AnyZ.apRec rnZ fn sv w.heap.size W0.heap.size .ready none with state:=.exhausted })=W3:=⟨_,rfl⟩;rw[hW3]at hend;have hg3:W2.grownBy W3 (some (W0.heap.size+1)):=by rw[<- hW3];exact grownBy_putObj_a _ _ _
 have hv3:W3.heap[w.heap.size]? = some (.cells #[v] (rnZ.t 24) (0,0)):=(by rw[<- hW3];exact(World.putObj_heap_other aj).trans hv);have hK3:W3.heap[W0.heap.size]? = some (.deferred (some [])):=(by rw[<- hW3];exact(World.putObj_heap_other aj).trans h2.K);have hrow3:=hrow.kept hg3 (ownsRow_ne_a hrow h2.L (λcur e=>by first|cases e|exact hne (Obj.cells.inj e).2.1));have hb3:Below w.heap.size w W3:=h2.below.grown hg3 h2.below.size (λk e=>by cases e;omega);obtain⟨hc3,hf3⟩:=cell_of_box_a hv3;clear hW3;refine⟨none,W3,hend,?_⟩
 gi_wp2
 rw[<- hs0];refine⟨ak,.inl ⟨_,_,rfl,run_takeDeferred hK3,?_⟩⟩;exact⟨_,results_tmp rfl _ _ _,v,rfl,hrow3.kept (grownBy_putObj_a _ _ _) (ownsRow_ne_a hrow3 hK3 (λcur e=>by first|cases e|exact hne (Obj.cells.inj e).2.1)),hnil,hb3.grown (grownBy_putObj_a _ _ _) hb3.size (λk e=>by cases e;omega)⟩
end S
end
section
open Go Go.AL Go.Proofs Go.RowKit Go.Maps Go.Shelf
namespace S
set_option maxRecDepth 100000
theorem b3P{c:Cx}{f:Nat}{l:List Str}{v:Value}(hr:HR c [])(h:EV c (.fn f [.cp (sL l)]) v) :
  ∃ a base cap,v=.func (.func f) #[] #[.pointer (some a)]/\a.block<c.w.heap.size/\c.w.cell? a=some (.slice base l.length cap)/\(∀s∈l,s.length<=maxL) /\
    (l≠[]->∃b off,base=some ⟨b,off,none⟩/\b<c.w.heap.size/\∀j s,l[j]? = some s->c.w.cell? ⟨b,off+j,none⟩=some (encStr s)):=by
 obtain⟨h1,h2⟩:VV c (.fn f [.cp (sL l)]) v:=h;have e:=h1.2 rfl;rw[e]at h2;simp only[VR]at h2;obtain⟨vs,h3,h4⟩:=h2;simp only[VA]at h4;obtain⟨v1,r,rfl,h5,h6,rfl⟩:=h4;have e1:=h5.2 rfl;rw[e1]at h6;simp only[VR,Rd]at h6;obtain⟨a,ds,h7,h8,h9,h10⟩:=h6;obtain⟨ab,ao,asp⟩:=a;simp only at h8;subst h8;have hv1:v1=.pointer (some ⟨ab,ao,none⟩):=(by simpa using h7);subst hv1;have hv:v=.func (.func f) #[] #[.pointer (some ⟨ab,ao,none⟩)]:=(by simpa using h3);refine⟨⟨ab,ao,none⟩,?_⟩;rcases h10 with⟨_,⟨h11,rfl⟩|⟨a',cap,rfl,_,_,h12,h13⟩⟩;{have hl0:l=[]:=(by simpa using h11);subst hl0;obtain⟨g1,g2⟩:=h9 0 _ rfl;exact⟨none,0,hv,hr.im _ _ g2,by simpa using g1,ak,λh=>absurd rfl h⟩};obtain⟨g1,g2⟩:=h9 0 _ rfl;obtain⟨bb,bo,bsp⟩:=a';have hE:∀(l:List Str) (off:Nat),IV c.w c.Im 1 bb (l.map .str) off->∀j s,l[j]? = some s->c.w.cell? ⟨bb,off+j,none⟩=some (encStr s)/\s.length<=maxL/\c.Im bb (off+j):=by
  intro l;induction l with
  |nil=>intro off h j s hj;simp at hj
  | cons x l ih =>
    intro off h j s hj;simp only[dF,IV,Rd]at h;obtain⟨⟨cs,_,k1,rfl,k3⟩,k4⟩:=h;cases j with
    |zero =>have:=k1 0 _ rfl;simp only[dZ,mg]at hj;subst hj;exact⟨this.1,k3,this.2⟩
    |succ j =>have:=ih (off+1) k4 j s (by simpa using hj);rw[show off+(j+1)=off+1+j by omega];exact this
 refine⟨some ⟨bb,bo,bsp⟩,cap,hv,hr.im _ _ g2,by simpa using g1,?_,?_⟩;{intro s hs;obtain⟨j,hj⟩:=List.getElem?_of_mem hs;exact(hE l bo h13 j s hj).2.1};intro hne;have hsp:bsp=none:=h12 (by simpa using hne);subst hsp;obtain⟨s,t,rfl⟩:=List.exists_cons_of_ne_nil hne;exact⟨bb,bo,rfl,hr.im _ _ (hE _ bo h13 0 s rfl).2.2,λj s' hj=>(hE _ bo h13 j s' hj).1⟩
theorem Tr.grown{c:Cx}{w':World}{v:Value}{l:List Str}{ty:TypeId}(hr:HR c [])(hb:Below c.w.heap.size c.w w')(hs:∀s∈l,s.length<=maxL)
  (ho:w'.ownsRow c.w.heap.size ty 1 v l.length (l.map encStr)):∃d,d.w=w'/\Tr c [] d [(0,.uD 1 (l.map .str))]/\EV d (.gs 0 l.length) v:=by
 have hnx:c.nx=0:=hr.nx;obtain⟨base,cap,hv,hok⟩:∃(base:Option Addr) (cap:Nat),v=.slice base l.length cap/\((base=none/\cap=0/\l=[])\/∃b cs,base=some ⟨b,0,none⟩/\c.w.heap.size<=b/\w'.heap[b]? = some (.cells (Array.mk cs) ty)/\cs.length=cap*1/\l.length<=cap/\cap<=maxL/\cs.take l.length=l.map encStr):=(by rcases ho.2 with⟨h1,h2⟩|⟨g,cap,cur,h1,h2,h3,h4,h5,h6,h7⟩;{exact⟨none,0,by rw[h1,h2],.inl ⟨rfl,rfl,bT h2⟩⟩};refine⟨_,cap,h1,.inr ⟨g,cur.toList,rfl,h2,h3,by simpa using h6,h4,by simpa[maxL,maxLen]using h5,by simpa using h7⟩⟩);let d:Cx:={ c with w:=w',nx:=1,tk:=λk=>if k=0 then(base,cap)else c.tk k,tp:=ug [(0,.uD 1 (l.map .str))] };have htk:d.tk 0=(base,cap):=(by simp[d]);have le:c.Le d:=(by refine⟨λb o h=>⟨h,wW ?_⟩,by simp[d,hnx],λ_ _=>rfl,λk n hk=>absurd hk aj⟩;exact hb.block b (hr.im b o h));refine⟨d,rfl,⟨⟨rfl,rfl,⟨ak,trivial⟩,λb o h=>fV (hr.im b o h) hb.size,?_,ak⟩,le,hb.os,hb.tape,hb.output,hb.size,λb h _=>hb.block b h,?_,λ_ _ h=>.inl h⟩,?_⟩;{intro x hx;obtain rfl:x=_:=kX.1 hx;rcases hok with⟨rfl,rfl,rfl⟩|⟨b,cs,rfl,h2,h3,h4,h5,h6,h7⟩;{exact .inl ⟨by rw[htk],by rw[htk],rfl⟩};exact .inr ⟨b,cs,ty,by rw[htk],h3,by rw[htk];exact h4,by rw[htk];simpa using h5,by rw[htk];exact h6,Yk hs h7,λo h=>absurd (hr.im _ _ h) aj⟩};{intro y hy b hb';obtain rfl:y=_:=kX.1 hy;simp only[qZ,htk]at hb';rcases hok with⟨rfl,rfl,rfl⟩|⟨b',cs,rfl,h2,h3,h4,h5,h6,h7⟩;{simp at hb'};simp at hb';exact .inl aj};rw[hv];exact a5Y (c:=d) (j:=0) (by simp[d]) (by show ug [(0,.uD 1 (l.map .str))] 0=some l.length;simp[ug,hget]) htk
theorem a1H(l:List Str)(hl:l.length<=1000000):ZQ 156 [.qW,.fn 85 [.cp (sL l)]] [] (.gs 0 l.length) [(0,.uD 1 (l.map .str))]:=by refine⟨⟨_,Tryz.func156,by kernel_rfl,by kernel_rfl⟩,λc vs hr hv=>?_⟩;obtain⟨v1,v2,rfl,h1,h2⟩:∃v1 v2,vs=[v1,v2]/\EV c .qW v1/\EV c (.fn 85 [.cp (sL l)]) v2:=(by obtain⟨v,r,rfl,h1,v',r',rfl,h2,rfl⟩:=hv;exact⟨v,v',rfl,h1,h2⟩);obtain rfl:v1=.slice none 0 0:=DV h1;obtain⟨a,base,cap,rfl,k1,k2,k3,k4⟩:=b3P hr h2;refine Calls.mono (appendSeq a base cap l c.w hl k1 k2 k4) ?_;rintro e w' ⟨v,rfl,h3,_,h4⟩;obtain⟨d,h5,h6,h7⟩:=Tr.grown hr h4 k3 h3;exact⟨v,d,rfl,h5,h6,h7⟩
end S
end
open Go Go.AL Go.Proofs
namespace S
set_option maxRecDepth 100000
theorem a7q(l:List Str)(hl:l.length<=1000000):ZQ 84 [.fn 85 [.cp (sL l)]] [] (.gs 0 l.length) [(0,.uD 1 (l.map .str))]:=by
 refine ZI Tryz.func84 λhok=>?_;conv=>whnf
 refine .gen _ _ (a1H l hl) λ_=>?_;conv=>whnf
 exact ZX
def rnC:Go.Shelf.Ren:=⟨λx=>match x with|194=>26|n=>n,λx=>match x with|31=>33|n=>n,λx=>x⟩
theorem laysC:Go.Proofs.Lays.n194 Tryz.prog rnC where
 mixed:=mixed
 f194:=by kernel_rfl
 t0:=by kernel_rfl
 a0:=λw=>by rfl
 z0:=λw=>by rfl
 v0:=λw=>by rfl
 t3:=by kernel_rfl
 a3:=λw=>by rfl
 z3:=λw=>by rfl
 v3:=λw=>by rfl
 t4:=by kernel_rfl
 a4:=λw=>by rfl
 z4:=λw=>by rfl
 v4:=λw=>by rfl
 t9:=by kernel_rfl
 a9:=λw=>by rfl
 z9:=λw=>by rfl
 v9:=λw=>by rfl
 t31:=by kernel_rfl
 a31:=λw=>by rfl
 z31:=λw=>by rfl
 v31:=λw=>by rfl
theorem a1l{w:World}{g n:Nat}(d:Array (List UInt8)):w.grownBy (Go.Sort.putRow encStr (Go.Sort.ahead w n) g 0 d) (some g):=by have:=Go.grownBy_sorted (w:=w) (g:=g) (n:=n) (os:=#[]) d;rwa[show Go.Sort.grow (Go.Sort.putRow encStr (Go.Sort.ahead w n) g 0 d) #[]=Go.Sort.putRow encStr (Go.Sort.ahead w n) g 0 d by simp only[Go.Sort.grow,Array.append_empty]]at this
abbrev Xz(l:List Str):List Str:=Go.Lib.compact l
theorem a9v{l:List Str}{s:Str}(h:s∈Xz l):s∈l:=by simp only[Xz,Go.Lib.compact,Go.Lib.compactUpTo,bZ,fF,iF]at h;obtain⟨j,⟨h1,_⟩,rfl⟩:=h;simp[h1]
theorem a7p(l:List Str)(hl:l.length<=1000000)(hm:∀s∈l,s.length<=1000000):ZQ 26 [.gs 0 l.length] [(0,.uD 1 (l.map .str))] (sL (Xz l)) [(0,.gone)]:=by
 refine⟨⟨_,laysC.f194,by kernel_rfl,by kernel_rfl⟩,λc vs hr hv=>?_⟩;obtain⟨v,rfl,hw⟩:∃v,vs=[v]/\EV c (.gs 0 l.length) v:=(by obtain⟨v,r,rfl,h1,rfl⟩:=hv;exact⟨v,rfl,h1⟩);have hV:VV c (.gs 0 (l.map AV.str).length) v:=(by rw[aC];exact hw);have ho:hget [(0,HO.uD 1 (l.map AV.str))] 0=some (.uD 1 (l.map .str)):=rfl;obtain⟨e,hj,hc1,hc2⟩:=Jf hr ho hV;subst e;rcases hr.EL ho with⟨g1,g2,g3⟩|⟨b,cs,ty,g1,g2,g3,g4,g5,g6,g7⟩;{have hl0:l=[]:=(by simpa using g3);subst hl0;obtain⟨d,d1,d2,d3⟩:=Tr.Nr hr ho (by simp[maxL]) hV;refine Calls.mono (Go.Proofs.Any.slices_Compact_string_empty laysC _ _ c.w) ?_;rintro e w' ⟨rfl,rfl⟩;exact⟨_,d,rfl,d1,d2,d3⟩};rw[aC]at g4 ⊢;rw[g1];refine Calls.mono (Go.Proofs.Any.slices_Compact_string laysC b 0 _ l c.w (Go.holds_of_block g2 (a1Q g6)) aj g4) ?_;rintro e w' ⟨rfl,n,rfl⟩;have hle:(Xz l).length<=l.length:=Go.Lib.compact_length_le l;generalize hL:(Xz l++List.replicate (l.length-(Xz l).length) [])=l';have hlen:l'.length=l.length:=(by rw[<- hL];simp;omega);have hb2:=Go.heap_sorted (w:=c.w) (n:=n) (os:=#[]) l'.toArray g2;rw[show Go.Sort.grow (Go.Sort.putRow encStr (Go.Sort.ahead c.w n) b 0 l'.toArray) #[]=Go.Sort.putRow encStr (Go.Sort.ahead c.w n) b 0 l'.toArray by simp only[Go.Sort.grow,Array.append_empty]]at hb2;have hml:∀s∈l',s.length<=maxL:=(by intro s hs;rw[<- hL]at hs;rcases dM.1 hs with hs|hs;{exact dH (hm s (a9v hs)) (by simp[maxL])};rw[List.eq_of_mem_replicate hs];simp[maxL]);have T:=Tr.b6U (l':=l'.map .str) (cs':=(Go.Sort.putCells Go.Proofs.encStr 0 l'.toArray cs.toArray).toList) hr ho g1 g2 g3 g5 g7 (a1l l'.toArray) (by rw[jf];exact hb2) (by simp[Go.Sort.putCells]) (by simp[hlen]) (by simpa[hlen]using g4)
  (Yk hml (Go.take_putCells cs.toArray l' (by rw[hlen];simpa using dH g4 aj)))
 have hV1:=a5Y (c:={ c with w:=Go.Sort.putRow encStr (Go.Sort.ahead c.w n) b 0 l'.toArray,tp:=ug (hset [(0,HO.uD 1 (l.map AV.str))] 0 (.uD 1 (l'.map .str))) }) (j:=0) (n:=(l'.map AV.str).length) (b:=some ⟨b,0,none⟩) (cap:=(c.tk 0).2) hj (by simp[ug,hget,hset]) (by show c.tk 0=_;rw[<- g1]);obtain⟨d,d1,d2,d3⟩:=Tr.Nr T.hr rfl (by rw[aC,hlen];simp[maxL];omega) hV1;refine⟨_,d,rfl,d1,T.trans d2,?_⟩;have h4:Rd d.w d.Im (.sl 1 (l'.map .str) .no) [.slice (some ⟨b,0,none⟩) (l'.map AV.str).length (c.tk 0).2]:=d3.2;simp only[Rd]at h4;refine vw rfl rfl ?_;simp only[VR,Rd];refine⟨by rw[aC];simp[maxL];omega,.inr ⟨⟨b,0,none⟩,_,by rw[aC],by rw[aC];omega,g5,λ_=>rfl,?_⟩⟩;rcases h4.2 with⟨h5,h6⟩|⟨a,cap,h5,_,_,_,h6⟩;{simp at h6};obtain rfl:a=⟨b,0,none⟩:=(by simp at h5;exact h5.1.symm);have h7:=Yt (Xz l).length h6;rw[<- iy,<- hL,List.take_left]at h7;exact h7
end S
namespace Go.AL
section
variable{P:Program}
end
end Go.AL
namespace Go.AL
section
variable{P:Program}{L:Lay}(F:FT)(vS:AV->Prop)(L:Lay)
end
section
variable{P:Program}{L:Lay}{F:FT}
end
end Go.AL
namespace Go.AL
inductive Mk where
 |n|s (x y:Mk)|j (x y:Mk)|f (js:List Nat) (x:Mk)|c (x y:Mk)|b (x:Mk)|t (x:Mk)
def Mk.r:Nat->Mk->Mk
 | 0,m=>m
 |k+1,m=>.s .n (Mk.r k m)
structure b6I(vS:AV->Prop)(H:Heap)(A:(AX->Env->Heap->Prop)->Prop)(B:Env->Heap->Prop)(Q:AX->Env->Heap->Prop):Prop where
 ex:∃(ι:Type) (E:ι->Env) (HS:ι->Heap),A (λx e' H'=>match x with
   | .normal=>∃i,nextId H<=nextId (HS i)/\WkE e' (nextId (HS i)) (E i)/\HWk H' (HS i)
   |x=>Q x e' H')/\∀i,(∀t A,(t,A)∈E i->vS A)->B (E i) (HS i)
inductive b5x(e:Env)(H:Heap)(K:Env->Heap->Prop):Prop where
 |skip (h:K e H)
 | go (t j sz:Nat) (l:List AV) (h:uY e t=some (.gs j l.length)) (ho:hget H j=some (.uD sz l)) (ne:l≠[])
   (next:∀cp,l.length<=cp->cp<=maxL->K ((t,.ms (nextId H) 0 l.length cp sz)::e) ((nextId H,.arr sz cp l)::hset H j .gone))
section
variable(F:FT)(vS:AV->Prop)(L:Lay)
def FH:Mk->Code->(AX->Env->Heap->Prop)->Env->Heap->Prop
 | .n,c,Q,e,H=>UA F vS L c Q e H
 | .s x y,.seq a b,Q,e,H=>FH x a (λz e' H'=>match z with | .normal=>FH y b Q e' H'|z=>Q z e' H') e H
 | .j x y,.seq a b,Q,e,H=>b6I vS H (λK=>FH x a K e H) (FH y b Q) Q
 | .f js m,c,Q,e,H=>YJ js e H λe' H'=>FH m c Q e' H'
 | .t m,c,Q,e,H=>b5x e H λe' H'=>FH m c Q e' H'
 | .c x y,.cond o a b,Q,e,H=>uj e o λA=>br A (FH x a Q e H) (FH y b Q e H)
 | .b m,.block i b,Q,e,H=>FH m b (λx e' H'=>match x with
   | .exit j=>(match Nat.beq j i with|true=>Q .normal e' H'|false=>Q (.exit j) e' H')
   |x=>Q x e' H') e H
 | .b m,.loop b,Q,e,H=>qV vS (writes b) (FH m b) Q e H
 |_,_,_,_,_=>False
end
section
variable{P:Program}{L:Lay}{F:FT}
theorem xA(hL:uo P L)(hm:P.follows .mixedOrders=true)(hFn:FS P F){n:Nat} :
  ∀ (m:Mk) (code:Code) (Q:AX->Env->Heap->Prop) (e:Env) (H:Heap) (c:Cx) (a:Act),AB n code=true->HR c H->BR n c e a->FH F Ok L m code Q e H ->
    code.wp P (Post n (writes code) c H a Q) a c.w
 | .n,code,Q,e,H,c,a,hc,hr,ha,h=>Au hL hm hFn code Q e H c a hc hr ha (by simpa only[FH]using h)
 | .s m1 m2,.seq x y,Q,e,H,c,a,hc,hr,ha,h=>by
   simp only[AB,aN]at hc;simp only[FH]at h;refine wp_seq (wp_mono (xA hL hm hFn m1 x _ e H c a hc.1 hr ha h) ?_);rintro ex a' w' ⟨x',e',H',c',rfl,hq,rfl,htr,ha',hf⟩;cases x' with
   |normal =>refine wp_mono (xA hL hm hFn m2 y _ e' H' c' a' hc.2 htr.hr ha' hq) ?_;rintro ex a'' w'' ⟨x',e'',QZ,c'',rfl,hq,rfl,xG,BH,hf'⟩;exact⟨x',e'',QZ,c'',rfl,hq,rfl,htr.trans xG,BH,hf.trans hf'⟩
   |exit i=>exact⟨.exit i,e',H',c',rfl,hq,rfl,htr,ha',hf.mono λt ht=>eH _ ht⟩
   |ret=>exact⟨.ret,e',H',c',rfl,hq,rfl,htr,ha',hf.mono λt ht=>eH _ ht⟩
 | .j m1 m2,.seq x y,Q,e,H,c,a,hc,hr,ha,h=>by
   simp only[AB,aN]at hc;simp only[FH]at h;obtain⟨ι,E,HS,hA,hB⟩:=h.ex;refine wp_seq (wp_mono (xA hL hm hFn m1 x _ e H c a hc.1 hr ha hA) ?_);rintro ex a' w' ⟨x',e',H',c',rfl,hq,rfl,htr,ha',hf⟩;cases x' with
   |normal =>obtain⟨i,hn,hwE,hwH⟩:=hq;have hwH:=hwH.to0 htr.hr;have hall:=QW ha'.env htr.hr hwH hwE;have xG:=htr.cut hwH (by rw[hr.nx];exact hn);have ha1:BR n (c'.cut (HS i)) (E i) a':=⟨λt A hA=>hall t A (Qq hA),ha'.defers,ha'.size⟩;refine wp_mono (xA hL hm hFn m2 y _ (E i) (HS i) (c'.cut (HS i)) a' hc.2 xG.hr ha1 (hB i λt A hm=>MH (hall t A hm))) ?_;rintro ex a'' w'' ⟨x',e'',QZ,c'',rfl,hq,rfl,b58,BH,hf'⟩;exact⟨x',e'',QZ,c'',rfl,hq,rfl,xG.trans b58,BH,hf.trans hf'⟩
   |exit i=>exact⟨.exit i,e',H',c',rfl,hq,rfl,htr,ha',hf.mono λt ht=>eH _ ht⟩
   |ret=>exact⟨.ret,e',H',c',rfl,hq,rfl,htr,ha',hf.mono λt ht=>eH _ ht⟩
 | .f js m,code,Q,e,H,c,a,hc,hr,ha,h=>by have h:YJ js e H λe' H'=>FH F Ok L m code Q e' H':=(by simpa only[FH]using h);obtain⟨e1,H1,d,hw,htr,ha1,h1⟩:=OV hr ha h;rw[<- hw];refine wp_mono (xA hL hm hFn m code Q e1 H1 d a hc htr.hr ha1 h1) ?_;rintro ex a' w' ⟨x',e',H',c',rfl,hq,rfl,xG,ha',hf'⟩;exact⟨x',e',H',c',rfl,hq,rfl,htr.trans xG,ha',hf'⟩
 | .t m,code,Q,e,H,c,a,hc,hr,ha,h=>by
   have h:b5x e H λe' H'=>FH F Ok L m code Q e' H':=(by simpa only[FH]using h);cases h with
   |skip h=>exact xA hL hm hFn m code Q e H c a hc hr ha h
   | go t j sz l he ho ne next =>
     have hv:=ha.env t _ he;obtain⟨cp,h1,h2,d,hw,htr,hV⟩:=Tr.thaw hr ho ne hv;have h:=next cp h1 h2
     have ha':=ha.mono htr.le;have:=xA hL hm hFn m code Q _ _ d a hc htr.hr ⟨λt' B hB=>by
      simp only[uY]at hB;cases hb:Nat.beq t t' with
      |true =>rw[hb]at hB;obtain rfl:=aK hb;obtain rfl:=aW hB;exact rZ hV
      |false=>rw[hb]at hB;exact ha'.env _ _ hB,ha.defers,ha.size⟩ h
     rw[hw]at this;refine wp_mono this ?_;rintro ex a'' w'' ⟨x'',e'',QZ,c'',rfl,hq,rfl,xG,BH,hf'⟩;exact⟨x'',e'',QZ,c'',rfl,hq,rfl,htr.trans xG,BH,hf'⟩
 | .c m1 m2,.cond o x y,Q,e,H,c,a,hc,hr,ha,h=>by simp only[AB,aN]at hc;simp only[FH]at h;obtain⟨A,hA,h⟩:=rH ha.env hc.1.1 h;obtain⟨b,hb,h1,h2⟩:=a3j hA h;refine wp_cond_split hb (λhb=>?_) (λhb=>?_);{refine wp_mono (xA hL hm hFn m1 x Q e H c a hc.1.2 hr ha (h1 hb)) ?_;rintro ex a' w' ⟨x',e',H',c',g1,g2,g3,g4,g5,g6⟩;exact⟨x',e',H',c',g1,g2,g3,g4,g5,g6.mono λt ht=>eH _ ht⟩};refine wp_mono (xA hL hm hFn m2 y Q e H c a hc.2 hr ha (h2 hb)) ?_;rintro ex a' w' ⟨x',e',H',c',g1,g2,g3,g4,g5,g6⟩;exact⟨x',e',H',c',g1,g2,g3,g4,g5,g6.mono λt ht=>kE _ ht⟩
 | .b m,.block i b,Q,e,H,c,a,hc,hr,ha,h=>by
   simp only[FH]at h;refine wp_block (wp_mono (xA hL hm hFn m b _ e H c a hc hr ha h) ?_);rintro ex a' w' ⟨x',e',H',c',rfl,hq,g3,g4,g5,g6⟩;cases x' with
   |normal=>exact⟨.normal,e',H',c',rfl,hq,g3,g4,g5,g6⟩
   | exit j =>
     simp only[AX.toE,Exit.inBlock];cases hb:Nat.beq j i with
     |true =>have hq:(match Nat.beq j i with|true=>Q .normal e' H'|false=>Q (.exit j) e' H'):=hq;rw[hb]at hq;rw[aG (aK hb)];exact⟨.normal,e',H',c',rfl,hq,g3,g4,g5,g6⟩
     |false =>have hq:(match Nat.beq j i with|true=>Q .normal e' H'|false=>Q (.exit j) e' H'):=hq;rw[hb]at hq;rw[aB (xw hb)];exact⟨.exit j,e',H',c',rfl,hq,g3,g4,g5,g6⟩
   |ret=>exact⟨.ret,e',H',c',rfl,hq,g3,g4,g5,g6⟩
 | .b m,.loop b,Q,e,H,c,a,hc,hr,ha,h=>WL (λQ e H c a=>xA hL hm hFn m b Q e H c a hc) hr ha (by simpa only[FH]using h)
theorem UD.b0J (m:Mk) (hL:uo P L) (hm:P.follows .mixedOrders=true) {f:Nat} {fn:Func} {code:Code} (hf:P.funcs[f]? = some fn) (hn:(fn.name== "runtime.NumGoroutine")=false) (hb:fn.body=some code)
  (hc:AB fn.ntmps code=true) {args:List AV} {H:Heap} {Q:AV->Heap->Prop} (ha:Nat.ble args.length fn.ntmps=true)
  (h:KD args->b07 0 args λe=>FH (FP P) Ok L m code (b6J L fn.results.toList H Q) e H):UD P f args H Q :=
 UD.a5W (B:=FH (FP P) Ok L m code) (λQ' e H' c a hr ha h=>xA hL hm (b3L P) m code Q' e H' c a hc hr ha h) hL hf hn hb (λ_ _ _ h=>h) ha h
end
end Go.AL
namespace Go.AL
end Go.AL
namespace Go.AL
end Go.AL
namespace Go.AL
open Go.ChangeMaps (setBlock)
theorem Tr.b7w{c0 c:Cx}{H0 H:Heap}(T:Tr c0 H0 c H){r:Nat}(hf:Free c H r)(h0:c0.w.heap.size<=r){w1:World}(hw:w1=c.w\/w1=c.w.drew)(o':Obj) :
  Tr c0 H0 { c with w:=setBlock w1 r o' } H/\c.Le { c with w:=setBlock w1 r o' }:=by
 have hheap:w1.heap=c.w.heap:=(by rcases hw with rfl|rfl <;> rfl);have hos:w1.os=c.w.os/\w1.tape=c.w.tape/\w1.output=c.w.output:=(by rcases hw with rfl|rfl <;> exact⟨rfl,rfl,rfl⟩);have hsize:(setBlock w1 r o').heap.size=c.w.heap.size:=(by simp[setBlock,hheap]);have hother:∀b,b≠r->(setBlock w1 r o').heap[b]? = c.w.heap[b]?:=λb hb=>(by simp only[setBlock,hheap];rw[iU (λe=>hb e.symm)]);have le:c.Le { c with w:=setBlock w1 r o' }:=⟨λb x h=>⟨h,wW (hother b λe=>hf.im x (e ▸ h))⟩,aS _,λ_ _=>rfl,λ_ _ _ h=>.inl ⟨h,rfl⟩⟩;have hr:=T.hr;refine⟨⟨⟨hr.nx,hr.tp,hr.ids,λb o h=>?_,λx hx=>?_,hr.apart⟩,T.le.trans le,hos.1.trans T.os,hos.2.1.trans T.tape,hos.2.2.trans T.output,?_,λb hb hn=>?_,T.own,T.imb⟩,le⟩;{show b<(setBlock w1 r o').heap.size;rw[hsize];exact hr.im b o h};{exact DY le (by rw[hr.nx];exact sG hr.ids x hx) rfl (λb hb=>⟨hother b λe=>hf.own x hx (e ▸ hb),λ_ h=>h⟩) (hr.ok x hx)};{show _<=(setBlock w1 r o').heap.size;rw[hsize];exact T.size};exact(hother b aj).trans (T.fr b hb hn)
theorem a3w{c:Cx}{e:MapEntry}:∀{l:List (AV×AV)} {es:List MapEntry},Py c l es->e∈es->(es.map (·.born)).Nodup ->
  ∃k v l',l.Perm ((k,v)::l')/\VV c k e.key/\VV c v e.val/\Py c l' (es.filter λx=>x.born != e.born)
 | [],es,h,he,_=>by obtain rfl:=h;cases he
 |(k,v)::l,es,h,he,hn=>by obtain⟨e1,r,rfl,h1,h2,h3⟩:=h;rw[dF,ng]at hn;rcases aT.1 he with rfl|he;{refine⟨k,v,l,.refl _,h1,h2,?_⟩;rw[kN,aB ak];rw[List.filter_eq_self.2];{exact h3};intro x hx;have:x.born≠e.born:=λhb=>hn.1 (bZ.2 ⟨x,hx,hb⟩);simpa using this};obtain⟨k',v',l',g1,g2,g3,g4⟩:=a3w h3 he hn.2;refine⟨k',v',(k,v)::l',(g1.cons _).trans (.swap _ _ _),g2,g3,?_⟩;have hne:e1.born≠e.born:=λhb=>hn.1 (bZ.2 ⟨e,he,hb.symm⟩);rw[kN,aG (by simpa using hne)];exact⟨e1,_,rfl,h1,h2,g4⟩
theorem a5O(es:Array MapEntry)(seen:Array Nat)(b:Nat):(leftOf es (seen.push b)).toList=(leftOf es seen).toList.filter λx=>x.born != b:=by unfold leftOf;rw[kS,kS,List.filter_filter];congr 1;funext x;by_cases hx:x.born=b <;> simp[hx]
theorem a3V(es:Array MapEntry):(leftOf es #[]).toList=es.toList:=by unfold leftOf;rw[kS,List.filter_eq_self.2];intro x _;simp
structure RgD where
 i1:Nat
 i2:Nat
 i3:Nat
 bk:Nat
 bk2:Nat
 mv:Oper
 rg:Oper
 nx:Oper
 ex:Oper
 en:Oper
 tk:Nat
 ops:List Oper
 rest:Code
def rgA(d:RgD):Code:=.region d.i1 #[d.mv,d.rg] false
def VZ(d:RgD):Code:=.seq (.region d.i2 #[d.nx,d.ex] false) (.seq (.cond (.tmp d.tk) .skip (.exit d.bk)) (.block d.bk2 (.seq (.region d.i3 (d.en::d.ops).toArray false) d.rest)))
def rgB(d:RgD):Code:=.block d.bk (.loop (VZ d))
structure RgT where
 ms:Nat
 mt:Nat
 it:Nat
 tn:Nat
 te:Nat
structure RgOk(P:Program)(n:Nat)(d:RgD)(t:RgT):Prop where
 mv:d.mv.op=.move (.tmp t.ms)/\d.mv.dst=some t.mt/\d.mv.guard=none
 rg:(∃ty,d.rg.op=.range ty (.tmp t.mt)/\∃k e,P.underlying ty=some (.map k e))/\d.rg.dst=some t.it/\d.rg.guard=none
 nx:d.nx.op=.next (.tmp t.it) false/\d.nx.dst=some t.tn/\d.nx.guard=none
 ex:d.ex.op=.extract (.tmp t.tn) 0/\d.ex.dst=some d.tk/\d.ex.guard=none
 en:d.en.op=.entry (.tmp t.it)/\d.en.dst=some t.te/\d.en.guard=none
 lt:Nat.blt t.mt n=true/\Nat.blt t.it n=true/\Nat.blt t.tn n=true/\Nat.blt d.tk n=true/\Nat.blt t.te n=true
 ne:(t.tn::d.tk::t.te::(rX d.ops++writes d.rest)).contains t.it=false
 ops:d.ops.all (GL n)=true/\AB n d.rest=true
structure b1f(P:Program)(F:FT)(L:Lay)(n:Nat)(d:RgD)(K:Env->Heap->Prop)(e:Env)(H:Heap):Prop where
 ex:∃(t:RgT) (m:Nat) (sh:AV) (es:List (AV×AV)) (ι:Type) (lf:ι->List (AV×AV)) (E:ι->Env) (HS:ι->Heap),
  RgOk P n d t/\uY e t.ms=some (.mp m)/\hget H m=some (.tN sh es) /\
  (∃i,lf i=es/\nextId H<=nextId (HS i)/\WkE ((t.it,.und)::(t.mt,.und)::e) (nextId (HS i)) (E i)/\HWk (hset H m .gone) (HS i)) /\
  (∀i,hget (HS i) m=some .gone) /\
  (∀i,(∀s A,(s,A)∈E i->Ok A)->lf i=[]->K ((d.tk,.ff)::(t.tn,.und)::E i) (hset (HS i) m (.tN sh es))) /\
  (∀i k v rest,(∀s A,(s,A)∈E i->Ok A)->(lf i).Perm ((k,v)::rest) ->
   Hu F Ok L (d.en::d.ops) d.ops ((t.te,.uf [k,v])::(d.tk,.tt)::(t.tn,.und)::E i) (HS i) λe' H'=>UA F Ok L d.rest (λx e' H'=>match x with
    | .normal=>∃i',(lf i').Perm rest/\nextId (HS i)<=nextId (HS i')/\WkE e' (nextId (HS i')) (E i')/\HWk H' (HS i')
    |_=>False) e' H')
structure Yx(c:Cx)(H:Heap)(b:Nat):Prop where
 lt:b<c.w.heap.size
 own:∀x∈H,qZ c x≠some b
theorem Yx.tr{c d:Cx}{H H':Heap}{b:Nat}(h:Yx c H b)(t:Tr c H d H'):Yx d H' b/\d.w.heap[b]? = c.w.heap[b]?:=by have h1:=h.lt;refine⟨⟨by have:=t.size;omega,λy hy hb=>?_⟩,t.fr b h1 h.own⟩;rcases t.own y hy b hb with h2|⟨x,h2,h3⟩;{omega};exact h.own x h2 h3
theorem Tr.back{c c':Cx}{H G:Heap}{m:Nat}{sh:AV}{es:List (AV×AV)}{ents:Array MapEntry}{clock:Nat}(hr:HR c H)(hm:hget H m=some (.tN sh es))(T:Tr c (hset H m .gone) c' G)(hg:hget G m=some .gone)
  (hb:c'.w.heap[c.ρ m]? = some (.map ents clock)) (hv:Py c es ents.toList) (hk:KSh sh es) (h4:(∀e∈ents.toList,e.born<clock)/\(ents.toList.map (·.born)).Nodup) (h5:ents.toList.Pairwise λa b=>a.key≠b.key)
  (hf:Yx c' G (c.ρ m)):Tr c H c' (hset G m (.tN sh es)):=by
 have hρ:c'.ρ m=c.ρ m:=T.le.ρ m (hr.lt hm);have hmem:∀x∈hset H m .gone,∀b,qZ c x=some b->x∈H:=λx hx b hb=>(by rcases wF hr.ids hx with rfl|h;{cases hb};exact h.1);have hG:=T.hr;refine⟨⟨?_,?_,CJ hG.ids,hG.im,λx hx=>?_,?_⟩,T.le,T.os,T.tape,T.output,T.size,λb hb hn=>T.fr b hb λx hx hbx=>hn x (hmem x hx b hbx) hbx,λy hy b hb=>?_,λb o h=>(T.imb b o h).imp id (Or.imp id fun⟨x,h1,h2⟩=>⟨x,hmem x h1 b h2,h2⟩)⟩;{rw[H9];exact hG.nx};{rw[xq hg (by intros;simp) (by intros;simp)];exact hG.tp};{rcases wF hG.ids hx with rfl|h;{exact⟨ents,clock,by rw[hρ];exact hb,Hl T.le hv,hk,h4,h5⟩};exact hG.ok x h.1};{refine wH (CJ hG.ids) λx hx y hy hne b hb hb'=>?_;rcases wF hG.ids hx with rfl|h1 <;> rcases wF hG.ids hy with rfl|h2;{exact hne rfl};{have:b=c.ρ m:=(by rw[<- hρ];exact(aW hb).symm);exact hf.own y h2.1 (this ▸ hb')};{have:b=c.ρ m:=(by rw[<- hρ];exact(aW hb').symm);exact hf.own x h1.1 (this ▸ hb)};exact hG.apart' h1.1 h2.1 hne hb hb'};rcases wF hG.ids hy with rfl|h;{refine .inr ⟨_,wS hm,?_⟩;rw[show qZ c (m,HO.tN sh es)=some (c.ρ m)from rfl,<- hρ];exact hb};rcases T.own y h.1 b hb with h1|⟨x,h1,h2⟩;{exact .inl h1};exact .inr ⟨x,hmem x h1 b h2,h2⟩
theorem Fr.step{W ws:List Nat}{a b d:Act}(h:Fr W a b)(g:Fr ws b d)(hs:∀t∈ws,t∈W):Fr W a d:=λt ht=>(g t λh'=>ht (hs t h')).trans (h t ht)
section
variable{P:Program}{L:Lay}{F:FT}
theorem KR{o:Oper}{a:Act}{w w':World}{v:Value}{l ops:_}{Q:Exit->Act->World->Prop}(hg:o.guard=none)(hrun:(execOp a.eval o).run P w=.ok (.value v) w')(h:wpList P ops Q l (a.put o.dst v) w'):wpList P ops Q (o::l) a w:=by refine wpList_plain hg λK hK=>?_;unfold Oper.wp;rw[hrun,Oper.upon_value];exact hK _ _ h
theorem MV{a:Act}{t n:Nat}{v:Value}(hs:a.tmps.size=n)(ht:Nat.blt t n=true):(a.put (some t) v).tmps.getD t undef=v:=by have:=bI ht;simp only[Act.put];rw[dI,iZ aj];rfl
theorem a5q{a:Act}{t s:Nat}{v:Value}(h:s≠t):(a.put (some t) v).tmps.getD s undef=a.tmps.getD s undef:=by simp only[Act.put];exact getD_set_ne (λe=>h e.symm)
theorem a03(hL:uo P L)(hm:P.follows .mixedOrders=true)(hFn:FS P F){n:Nat}{d:RgD}{K:Env->Heap->Prop}{e:Env}{H:Heap}{c:Cx}{a:Act}(hr:HR c H)(ha:BR n c e a)(h:b1f P F L n d K e H)
  {z:Code} {Qp:Exit->Act->World->Prop} (hz:∀e' H' c' a',K e' H'->Tr c H c' H'->BR n c' e' a'->Fr (writes (rgA d)++writes (rgB d)) a a'->z.wp P Qp a' c'.w) :
  (Code.seq (.seq (rgA d) (rgB d)) z).wp P Qp a c.w:=by
 obtain⟨t,m,sh,es,ι,lf,E,HS,ok,hms,hm0,⟨i0,hi0,hn0,hE0,hH0⟩,W9,hdone,hstep⟩:=h.ex;obtain⟨_,e1⟩:=b3O (ha.env t.ms _ hms);obtain⟨ents,clock,g1,g2,g3,g4,g5⟩:=hr.EL hm0;obtain⟨l1,l2,l3,l4,l5⟩:=ok.lt;have hW:∀s,s∈[t.mt,t.it,t.tn,d.tk,t.te]++(rX d.ops++writes d.rest)->s∈writes (rgA d)++writes (rgB d):=(by intro s hs;simp only[rgA,rgB,VZ,writes,rX,ok.mv.2.1,ok.rg.2.1,ok.nx.2.1,ok.ex.2.1,ok.en.2.1,dM,aT,List.not_mem_nil,or_false]at hs ⊢;rcases hs with(h|h|h|h|h)|h|h <;> simp[h]);generalize hWd:writes (rgA d)++writes (rgB d)=W at hW hz;have hbm:c.ρ m<c.w.heap.size:=(dG.1 g1).1;generalize b6n:c.ρ m=bm at *
 -- the map is nobody's
 have T0:Tr c H c (hset H m .gone):=(by refine Tr.set hr hm0 (.refl c) rfl (by rw[xq hm0 (by intros;simp) (by intros;simp)];exact hr.tp) (λ_ _=>rfl) rfl rfl rfl (aS _) (λ_ _ _=>rfl) (λb x h=>.inl h) (λb h=>by cases h) trivial);have hF0:Yx c (hset H m .gone) bm:=⟨hbm,λx hx hb=>by
  rcases wF hr.ids hx with rfl|⟨h1,h2⟩;{cases hb};refine hr.apart' (wS hm0) h1 (λe=>h2 e.symm) (b:=bm) ?_ hb;show some (c.ρ m)=some bm;rw[b6n]⟩
 obtain⟨S1,S2⟩:=Tr.spare T0.hr (.mapIter (some bm) clock #[] clock);have hrr:(c.w.alloc (.mapIter (some bm) clock #[] clock)).heap[c.w.heap.size]? = some (.mapIter (some bm) clock #[] clock):=alloc_heap_new _ _;have hw0:=hH0.to0 S1.hr;have b7a:c.nx<=nextId (HS i0):=(by rw[hr.nx];exact hn0);have T1:Tr c (hset H m .gone) (({ c with w:=c.w.alloc (.mapIter (some bm) clock #[] clock) }:Cx).cut (HS i0)) (HS i0):=S1.cut hw0 b7a;have T1':Tr { c with w:=c.w.alloc (.mapIter (some bm) clock #[] clock) } (hset H m .gone) (({ c with w:=c.w.alloc (.mapIter (some bm) clock #[] clock) }:Cx).cut (HS i0)) (HS i0):=(Tr.refl S1.hr).cut hw0 b7a;obtain⟨S3,_⟩:=S2.tr T1';obtain⟨B1,B2⟩:=hF0.tr T1;have ha1:BR n { c with w:=c.w.alloc (.mapIter (some bm) clock #[] clock) } ((t.it,.und)::(t.mt,.und)::e) ((a.put (some t.mt) (.map (some bm))).put (some t.it) (.pointer (some ⟨c.w.heap.size,0,none⟩))) :=
  ((ha.mono S1.le).put (bI l1) (A:=.und) trivial).put (bI l2) (A:=.und) trivial
 have hall0:=QW ha1.env S1.hr hw0 hE0;generalize hc1:(({ c with w:=c.w.alloc (.mapIter (some bm) clock #[] clock) }:Cx).cut (HS i0))=c1 at *;have hw1:c1.w=c.w.alloc (.mapIter (some bm) clock #[] clock):=(by rw[<- hc1];rfl);generalize b4N:((a.put (some t.mt) (.map (some bm))).put (some t.it) (.pointer (some ⟨c.w.heap.size,0,none⟩)))=a1 at *;have hF1:Fr W a a1:=(by rw[<- b4N];exact((Fr.refl W a).step (Fr.put) (λs hs=>hW s (by simp at hs;simp[hs]))).step Fr.put (λs hs=>hW s (by simp at hs;simp[hs])));have b7N:a1.tmps.getD t.it undef=.pointer (some ⟨c.w.heap.size,0,none⟩):=by rw[<- b4N];exact MV (n:=n) (by simp[Act.put,ha.size]) l2
 -- the loop
 let Inv:Nat->Act->World->Prop:=λk a' w'=>∃i c' seen l,c'.w=w'/\Tr c (hset H m .gone) c' (HS i)/\(∀s A,(s,A)∈E i->EV c' A (a'.tmps.getD s undef))/\a'.defers=[]/\a'.tmps.size=n/\Fr W a a'/\(lf i).length=k /\
  a'.tmps.getD t.it undef=.pointer (some ⟨c.w.heap.size,0,none⟩)/\w'.heap[c.w.heap.size]? = some (.mapIter (some bm) clock seen clock)/\Free c' (HS i) c.w.heap.size/\Yx c' (HS i) bm/\w'.heap[bm]? = some (.map ents clock) /\
  (lf i).Perm l/\Py c' l (leftOf ents seen).toList
 let PB:Exit->Act->World->Prop:=λex a' w'=>ex=.exit d.bk/\∃e' H' c',K e' H'/\c'.w=w'/\Tr c H c' H'/\BR n c' e' a'/\Fr W a a';have round:∀k a' w',Inv k a' w'->(VZ d).wp P (Exit.then (λa'' w''=>∃k',k'<k/\Inv k' a'' w'') PB) a' w':=by
  rintro k a' w' ⟨i,c',seen,l,rfl,T,hall,hdf,hsz,hFr,hk,hit,b7D,hfr,hfb,hbb,hp,hv⟩;have b69:∀s A,(s,A)∈E i->Ok A:=λs A hm=>MH (hall s A hm);have ha':BR n c' (E i) a':=⟨λs A h=>hall s A (Qq h),hdf,hsz⟩;unfold VZ;refine wp_seq (wp_region_list ?_);show wpList P _ _ [d.nx,d.ex] a' c'.w;rcases run_next_at (P:=P) c'.w d.nx.type c.w.heap.size bm clock clock seen ents clock b7D hbb (λx hx=>g4.1 x hx) (aS _)with⟨hz0,hrun⟩|⟨e0,he0,w1,hw1,hrun⟩;{have hrun1:(execOp a'.eval d.nx).run P c'.w=.ok (.value (.tuple #[.bool false])) c'.w:=(by have hev:a'.eval (.tmp t.it)=.pointer (some ⟨c.w.heap.size,0,none⟩):=hit;unfold execOp;rw[ok.nx.1];simp only[hev,Sem.run_bind,hrun,Result.andThen_ok,Sem.run_pure]);refine KR ok.nx.2.2 hrun1 ?_;rw[ok.nx.2.1];have ha2:BR n c' ((t.tn,.und)::E i) (a'.put (some t.tn) (.tuple #[.bool false])):=ha'.put (bI l3) (A:=.und) trivial;have htn:(a'.put (some t.tn) (.tuple #[.bool false])).eval (.tmp t.tn)=.tuple #[.bool false]:=MV hsz l3;have hF2:=hFr.step (d:=a'.put (some t.tn) (.tuple #[.bool false])) Fr.put (λs hs=>hW s (by simp at hs;simp[hs]));generalize a'.put (some t.tn) (.tuple #[.bool false])=a2 at *;have hrun2:(execOp a2.eval d.ex).run P c'.w=.ok (.value (.bool false)) c'.w:=(by unfold execOp;rw[ok.ex.1];simp only[htn,Instr.extract,Sem.run_bind,Sem.run_pure];rfl);refine KR ok.ex.2.2 hrun2 ?_;rw[ok.ex.2.1];have ha3:BR n c' ((d.tk,.ff)::(t.tn,.und)::E i) (a2.put (some d.tk) (.bool false)):=ha2.put (bI l4) (rZ (vw rfl rfl (by simp only[VR,Rd])));have htk:(a2.put (some d.tk) (.bool false)).eval (.tmp d.tk)=.bool false:=MV ha2.size l4;have hF3:=hF2.step (d:=a2.put (some d.tk) (.bool false)) Fr.put (λs hs=>hW s (by simp at hs;simp[hs]));refine wp_seq (wp_cond_split htk (λh=>by cases h) λ_=>wp_exit ?_);have hl0:lf i=[]:=(by have h1:(leftOf ents seen).toList=[]:=jP.1 (by rw[bM];exact hz0);have h2:=a1P hv;rw[h1]at h2;have h3:l=[]:=jP.1 h2.symm;rw[h3]at hp;exact hp.eq_nil);exact⟨rfl,_,_,c',hdone i b69 hl0,rfl,Tr.back hr hm0 T (W9 i) (by rw[b6n];exact hbb) g2 g3 g4 g5 (by rw[b6n];exact hfb),ha3,hF3⟩};obtain⟨T2,le2⟩:=T.b7w hfr (aS _) hw1 (.mapIter (some bm) clock (seen.push e0.born) clock);have hheap:w1.heap=c'.w.heap:=(by rcases hw1 with rfl|rfl <;> rfl);have hrun1:(execOp a'.eval d.nx).run P c'.w=.ok (.value (.tuple #[.bool true,e0.key,e0.val])) (setBlock w1 c.w.heap.size (.mapIter (some bm) clock (seen.push e0.born) clock)):=(by have hev:a'.eval (.tmp t.it)=.pointer (some ⟨c.w.heap.size,0,none⟩):=hit;unfold execOp;rw[ok.nx.1];simp only[hev,Sem.run_bind,hrun,Result.andThen_ok,Sem.run_pure]);have hr2:(setBlock w1 c.w.heap.size (.mapIter (some bm) clock (seen.push e0.born) clock)).heap[c.w.heap.size]? = some (.mapIter (some bm) clock (seen.push e0.born) clock):=(by simp only[setBlock,hheap];rw[iZ hfr.lt]);have hb2:(setBlock w1 c.w.heap.size (.mapIter (some bm) clock (seen.push e0.born) clock)).heap[bm]? = some (.map ents clock):=(by simp only[setBlock,hheap];rw[iU aj];exact hbb);have hsz2:(setBlock w1 c.w.heap.size (.mapIter (some bm) clock (seen.push e0.born) clock)).heap.size=c'.w.heap.size:=(by simp[setBlock,hheap]);generalize setBlock w1 c.w.heap.size (.mapIter (some bm) clock (seen.push e0.born) clock)=w2 at *;generalize hc2:({ c' with w:=w2 }:Cx)=c2 at *;have hcw:c2.w=w2:=(by rw[<- hc2]);have hfr2:Free c2 (HS i) c.w.heap.size:=(by rw[<- hc2];exact⟨by show _<w2.heap.size;rw[hsz2];exact hfr.lt,hfr.own,hfr.im⟩);have b7Q:Yx c2 (HS i) bm:=(by rw[<- hc2];exact⟨by show _<w2.heap.size;rw[hsz2];exact hfb.lt,hfb.own⟩);rw[<- hcw]at hrun1 hr2 hb2;have he1:e0∈ents.toList:=(by unfold leftOf at he0;rw[kS]at he0;exact(fF.1 he0).1);have hnd:((leftOf ents seen).toList.map (·.born)).Nodup:=(by unfold leftOf;rw[kS];exact g4.2.sublist (List.filter_sublist.map _));obtain⟨k1,v1,l',hperm,hk1,hv1,hv'⟩:=a3w hv he0 hnd;rw[<- a5O]at hv';refine KR ok.nx.2.2 hrun1 ?_;rw[ok.nx.2.1];have ha2:BR n c2 ((t.tn,.und)::E i) (a'.put (some t.tn) (.tuple #[.bool true,e0.key,e0.val])):=(ha'.mono le2).put (bI l3) (A:=.und) trivial;have htn:(a'.put (some t.tn) (.tuple #[.bool true,e0.key,e0.val])).eval (.tmp t.tn)=.tuple #[.bool true,e0.key,e0.val]:=MV hsz l3;have hF2:=hFr.step (d:=a'.put (some t.tn) (.tuple #[.bool true,e0.key,e0.val])) Fr.put (λs hs=>hW s (by simp at hs;simp[hs]));have hne:=ok.ne;simp only[List.contains_cons,Bool.or_eq_false_iff,beq_eq_false_iff_ne]at hne;obtain⟨n1,n2,n3,n4⟩:=hne;have hit2:(a'.put (some t.tn) (.tuple #[.bool true,e0.key,e0.val])).tmps.getD t.it undef=.pointer (some ⟨c.w.heap.size,0,none⟩):=(a5q n1).trans hit;generalize a'.put (some t.tn) (.tuple #[.bool true,e0.key,e0.val])=a2 at *;have hrun2:(execOp a2.eval d.ex).run P c2.w=.ok (.value (.bool true)) c2.w:=(by unfold execOp;rw[ok.ex.1];simp only[htn,Instr.extract,Sem.run_bind,Sem.run_pure];rfl);refine KR ok.ex.2.2 hrun2 ?_;rw[ok.ex.2.1];have ha3:BR n c2 ((d.tk,.tt)::(t.tn,.und)::E i) (a2.put (some d.tk) (.bool true)):=ha2.put (bI l4) (rZ (vw rfl rfl (by simp only[VR,Rd])));have htk:(a2.put (some d.tk) (.bool true)).eval (.tmp d.tk)=.bool true:=MV ha2.size l4;have hF3:=hF2.step (d:=a2.put (some d.tk) (.bool true)) Fr.put (λs hs=>hW s (by simp at hs;simp[hs]));have hit3:(a2.put (some d.tk) (.bool true)).tmps.getD t.it undef=.pointer (some ⟨c.w.heap.size,0,none⟩):=(a5q n2).trans hit2;generalize a2.put (some d.tk) (.bool true)=a3 at *;refine wp_seq (wp_cond_split htk (λ_=>wp_skip ?_) (λh=>by cases h));refine wp_block (wp_seq (wp_region_list ?_));have hrun3:(execOp a3.eval d.en).run P c2.w=.ok (.value (.tuple #[e0.key,e0.val])) c2.w:=(by have hev:a3.eval (.tmp t.it)=.pointer (some ⟨c.w.heap.size,0,none⟩):=hit3;unfold execOp;rw[ok.en.1];simp only[hev,Sem.run_bind,run_entry_at c2.w c.w.heap.size bm clock seen ents clock e0 hr2 hb2 he1 g4.2,Result.andThen_ok,Sem.run_pure]);show wpList P (d.en::d.ops).toArray _ (d.en::d.ops) a3 c2.w;refine KR ok.en.2.2 hrun3 ?_;rw[ok.en.2.1];have hek:EV c2 (.uf [k1,v1]) (.tuple #[e0.key,e0.val]):=(by refine⟨#[e0.key,e0.val],rfl,?_⟩;have q1:=Cb le2 hk1;have q2:=Cb le2 hv1;simp only[VA];exact⟨_,_,rfl,q1.1,q1.2,_,_,rfl,q2.1,q2.2,rfl⟩);have ha4:BR n c2 ((t.te,.uf [k1,v1])::(d.tk,.tt)::(t.tn,.und)::E i) (a3.put (some t.te) (.tuple #[e0.key,e0.val])):=ha3.put (bI l5) hek;have hF4:=hF3.step (d:=a3.put (some t.te) (.tuple #[e0.key,e0.val])) Fr.put (λs hs=>hW s (by simp at hs;simp[hs]));have b7M:(a3.put (some t.te) (.tuple #[e0.key,e0.val])).tmps.getD t.it undef=.pointer (some ⟨c.w.heap.size,0,none⟩):=(a5q n3).trans hit3;generalize a3.put (some t.te) (.tuple #[e0.key,e0.val])=a4 at *;refine G9 hL hFn ok.ops.1 T2.hr ha4 (hstep i k1 v1 l' b69 (hp.trans hperm)) λe' H' c3 a5 q1 q2 q3 q4=>?_;refine wp_mono (Au hL hm hFn d.rest _ e' H' c3 a5 ok.ops.2 q2.hr q3 q1) ?_;rintro ex a6 w6 ⟨x,e6,H6,c6,rfl,hq,rfl,b7A,ha6,hf6⟩;cases x with
  |exit j=>exact hq.elim
  |ret=>exact hq.elim
  | normal =>
    obtain⟨i',hp',hn',hE',hH'⟩:=hq;have Tb:=q2.trans b7A;have hw6:=hH'.to0 Tb.hr;have b7G:c2.nx<=nextId (HS i'):=(by rw[T2.hr.nx];exact hn');have T6:Tr c2 (HS i) (c6.cut (HS i')) (HS i'):=Tb.cut hw6 b7G;have T7:=T2.trans T6;obtain⟨f1,f2⟩:=hfr2.tr T6;obtain⟨f3,f4⟩:=b7Q.tr T6;have hall7:=QW ha6.env Tb.hr hw6 hE';have nm:t.it ∉ rX d.ops++writes d.rest:=λhm=>by have:(rX d.ops++writes d.rest).contains t.it=true:=(by simpa using hm);rw[n4]at this;cases this
    rw[dM,not_or]at nm;refine⟨l'.length,?_,i',c6.cut (HS i'),seen.push e0.born,l',rfl,T7,hall7,ha6.defers,ha6.size,?_,hp'.length_eq,?_,f2.trans hr2,f1,f3,f4.trans hb2,hp',Hl (le2.trans T6.le) hv'⟩;{rw[<- hk,(hp.trans hperm).length_eq];exact ou _};{exact(hF4.step q4 λs hs=>hW s (kE _ (eH _ hs))).step hf6 λs hs=>hW s (kE _ (kE _ hs))};rw[hf6 _ nm.2,q4 _ nm.1];exact b7M
 have hloop:=(xQ.ghost Inv round (lf i0).length a1 c1.w ⟨i0,c1,#[],es,rfl,T1,hall0,by rw[<- b4N];exact ha.defers,by rw[<- b4N];simp[Act.put,ha.size],hF1,rfl,b7N,by rw[hw1];exact hrr,S3,B1,B2.trans g1,by rw[hi0],by rw[a3V];exact Hl T1.le g2⟩).wp;rw[hw1]at hloop;refine wp_seq (wp_seq (wp_region_list ?_));show wpList P _ _ [d.mv,d.rg] a c.w;have hrunA:(execOp a.eval d.mv).run P c.w=.ok (.value (.map (some bm))) c.w:=(by have hev:a.eval (.tmp t.ms)=.map (some bm):=e1;unfold execOp;rw[ok.mv.1];simp only[hev,Sem.run_pure]);refine KR ok.mv.2.2 hrunA ?_;rw[ok.mv.2.1];obtain⟨ty,b7E,k,el,hty⟩:=ok.rg.1;have b6e:(execOp (a.put (some t.mt) (.map (some bm))).eval d.rg).run P c.w=.ok (.value (.pointer (some ⟨c.w.heap.size,0,none⟩))) (c.w.alloc (.mapIter (some bm) clock #[] clock)):=(by have hev:(a.put (some t.mt) (.map (some bm))).eval (.tmp t.mt)=.map (some bm):=MV ha.size l1;unfold execOp;rw[b7E];simp only[hev,Instr.range,Sem.run_bind,run_underlying hty,Result.andThen_ok,jE g1,Sem.run_pure,run_newObj,World.alloc_eq]);refine KR ok.rg.2.2 b6e ?_;rw[ok.rg.2.1,b4N];refine wp_block (wp_mono hloop ?_);rintro ex a' w' ⟨rfl,e',H',c',hK,rfl,T',ha',hF'⟩;simp only[Exit.inBlock];rw[aG trivial];exact hz e' H' c' a' hK T' ha' hF'
theorem a0G{c:Cx}{H:Heap}{j:Nat}{A B0:AV}{p:List Nat}(hr:HR c H)(ho:hget H j=some (.box A))(hp:OU A p=some B0)(hag:uz B0=false) :
  ∃v,VV c B0 v/\∀(d:Cx) (H1:Heap) (B' A':AV),Tr c H d H1->d.w=c.w->hget H1 j=some (.box A)->VV d B' v->uz B'=false->IZ A p B' (λx=>x=A')->Tr d H1 d (hset H1 j (.box A')):=by
 obtain⟨cs,ty,h1,h2,h3⟩:=hr.EL ho;obtain⟨pre,xs,post,rfl,h4,h5⟩:=NH h2 hp;obtain⟨v,rfl,_⟩:=Aq h5 hag;refine⟨v,Gi h5 hag,λd H1 B' A' htr hw ho' hV hag' hs=>?_⟩;have hρ:d.ρ j=c.ρ j:=htr.le.ρ j (hr.lt ho);obtain⟨_,_,_,_,q3⟩:=htr.hr.EL ho';obtain⟨A'',x1,pre',xs',post',g1,g2,g3,g4,g5,g6⟩:=Dc (SX hV hag') (DW htr.le _ _ h2) hs;obtain rfl:B0=x1:=(by rw[hp]at g1;exact aW g1);obtain⟨u,rfl⟩:∃u,xs'=[u]:=(by obtain⟨u,rfl,_⟩:=Aq g4 hag;exact⟨u,rfl⟩);have hpl:pre.length=pre'.length:=(by rw[h4,g3]);have hcs:pre'++[v]++post'=pre++[v]++post:=(by rw[bP,bP]at g2;obtain⟨r1,r2⟩:=jZ g2 hpl;obtain⟨r3,r4⟩:=jZ r2 rfl;rw[r1,r4]);rw[hcs,g6]at g5;refine Tr.set htr.hr ho' (Cx.Le.refl _) rfl (by rw[xq ho' (by intros;simp) (by intros;simp)];exact htr.hr.tp) (λ_ _=>rfl) rfl rfl rfl (aS _) (λ_ _ _=>rfl) (λ_ _ h=>.inl h) ?_ ?_;{intro b hb;exact .inr hb};exact⟨_,ty,by rw[hw,hρ];exact h1,g5,q3⟩
inductive a3C(e:Env)(H:Heap)(K:Env->Heap->Prop):Prop where
 | grow (j:Nat) (p:List Nat) (sz:Nat) (A A':AV) (ho:hget H j=some (.box A)) (hp:OU A p=some .qW) (hs:IZ A p (.gs (nextId H) 0) (λx=>x=A'))
   (next:K e (hset ((nextId H,.uD sz [])::H) j (.box A')))
 | Xe (j:Nat) (p:List Nat) (k sz:Nat) (l:List AV) (A A':AV) (ho:hget H j=some (.box A)) (hp:OU A p=some (.gs k l.length)) (hk:hget H k=some (.uD sz l)) (hl:l.length<=maxL) (hs:IZ A p (.sl sz l .no) (λx=>x=A'))
   (next:K e (hset (hset H k .gone) j (.box A')))
theorem a3C.sound{n:Nat}{c:Cx}{e:Env}{H:Heap}{a:Act}{K:Env->Heap->Prop}(hr:HR c H)(ha:BR n c e a)(h:a3C e H K):∃d H',d.w=c.w/\Tr c H d H'/\BR n d e a/\K e H':=by
 cases h with
 | grow j p sz A A' ho hp hs next =>
   obtain⟨v,hv,hf⟩:=a0G hr ho hp rfl;obtain rfl:=DV hv;obtain⟨d,hw,htr,hV⟩:=Tr.a4F sz hr;have hjl:j<nextId H:=sG hr.ids _ (wS ho);have ho':hget ((nextId H,.uD sz [])::H) j=some (.box A):=by
    have:Nat.beq (nextId H) j=false:=by
     cases hb:Nat.beq (nextId H) j with
     |false=>rfl
     |true=>have:=aK hb;omega
    simp only[hget,this];exact ho
   have T:=htr.trans (hf d _ _ A' htr hw ho' hV rfl hs);exact⟨d,_,hw,T,ha.mono T.le,next⟩
 | Xe j p k sz l A A' ho hp hk hl hs next =>
   obtain⟨v,hv,hf⟩:=a0G hr ho hp rfl;obtain⟨d,hw,htr,hV⟩:=Tr.Nr hr hk hl hv;have hjk:j≠k:=λe=>by rw[e,hk]at ho;cases ho
   have ho':hget (hset H k .gone) j=some (.box A):=(by rw[DK hjk];exact ho);have T:=htr.trans (hf d _ _ A' htr hw ho' hV rfl hs);exact⟨d,_,hw,T,ha.mono T.le,next⟩
theorem a4Q{o:Oper}{a:Act}{next next':Act->World->Prop}{Q Q':Exit->Act->World->Prop}(hn:∀a w,next a w->next' a w)(hq:∀ex a w,ex≠.normal->Q ex a w->Q' ex a w) :
  ∀r,o.upon P a next Q r->o.upon P a next' Q' r:=by
 intro r h;unfold Oper.upon at *;split at h;{exact hn _ _ h};{exact hn _ _ h};{exact hn _ _ h}
 ·refine Calls.mono h λe w' he=>?_;cases e with
  |returned v=>exact hn _ _ he
  |panicked ch=>exact hq _ _ _ ak he
  |outgrown=>obtain⟨a',w'',hx⟩:=he;exact⟨a',w'',hq _ _ _ ak hx⟩
 ·exact Rows.mono h λv w'' h1=>hn _ _ h1
 ·exact hq _ _ _ ak h
 exact h.elim
theorem Ov{ops:Array Oper}{Q:Exit->Act->World->Prop}{rest:List Oper}:∀(pre:List Oper) (a:Act) (w:World),
  wpList P ops (λex a w=>match ex with | .normal=>wpList P ops Q rest a w|ex=>Q ex a w) pre a w->wpList P ops Q (pre++rest) a w
 | [],_,_,h=>h
 | o::l,a,w,h=>by
   have hq:∀ex a w,ex≠.normal->(match ex with | .normal=>wpList P ops Q rest a w|ex=>Q ex a w)->Q ex a w:=λex a w hne h=>by
    cases ex with
    |normal=>exact absurd rfl hne
    |_=>exact h
   simp only[eX,wpList]at h ⊢;split at h;{rename_i hw;rw[aG hw];rcases h with h|⟨h1,a',w',h2⟩;{exact .inl (a4Q (Ov l) hq _ h)};exact .inr ⟨h1,a',w',hq _ _ _ ak h2⟩};rename_i hw;rw[aB hw];exact Ov l _ _ h
structure a3D(L:Lay)(n:Nat)(o:Oper)(e:Env)(H:Heap)(K:Env->Heap->Prop):Prop where
 ex:∃t el s0 s1 s2 d k0 k1 k2 n0 n1 n2:Nat,o.op=.buildSlice t 3 #[(0,.tmp s0),(1,.tmp s1),(2,.tmp s2)]/\o.dst=some d/\o.guard=none/\Nat.blt d n=true /\
  (uY e s0=some (.gs k0 n0)/\uY e s1=some (.gs k1 n1)/\uY e s2=some (.gs k2 n2))/\(L.sO t λi=>i.desc=.slice el/\L.sO el λei=>flat ei.zero=1) /\
  K ((d,.ms (nextId H) 0 3 3 1)::e) ((nextId H,.box (.ag [.gs k0 n0,.gs k1 n1,.gs k2 n2]))::H)
theorem a3D.sound(hL:uo P L){n:Nat}{o:Oper}{e:Env}{H:Heap}{c:Cx}{a:Act}{K:Env->Heap->Prop}(hr:HR c H)(ha:BR n c e a)(h:a3D L n o e H K)
  {ops:Array Oper} {Q:Exit->Act->World->Prop} {rest:List Oper} (hk:∀e' H' c' a',K e' H'->Tr c H c' H'->BR n c' e' a'->Fr (rX [o]) a a'->wpList P ops Q rest a' c'.w):wpList P ops Q (o::rest) a c.w:=by
 obtain⟨t,el,s0,s1,s2,d,k0,k1,k2,n0,n1,n2,ho,hd,hg,hdn,⟨g0,g1,g2⟩,hl,hK⟩:=h.ex;obtain⟨i,hT,hl⟩:=Lay.rY hL hl;obtain⟨hi,hl⟩:=hl;obtain⟨dd,hu,hdd⟩:=hT.under;obtain rfl:=sJ (hdd.trans hi);obtain⟨ei,hE,hf⟩:=Lay.rY hL hl;obtain⟨info,z,q1,q2,q3,q4,q5,q6⟩:=hE.info;have v0:VV c (.gs k0 n0) (a.eval (.tmp s0)):=ha.env _ _ g0;have v1:VV c (.gs k1 n1) (a.eval (.tmp s1)):=ha.env _ _ g1;have v2:VV c (.gs k2 n2) (a.eval (.tmp s2)):=ha.env _ _ g2;generalize hx0:a.eval (.tmp s0)=x0 at *;generalize hx1:a.eval (.tmp s1)=x1 at *;generalize hx2:a.eval (.tmp s2)=x2 at *;have hs1:info.size=1:=(by rw[q2,hf]);have b6k:Instr.fill (λi=>some (i*info.size,info.size)) ((Array.range (3*info.size)).map (z.cells[· % z.cells.size]!)) [(0,x0),(1,x1),(2,x2)]=some #[x0,x1,x2]:=(by rw[hs1];simp[Instr.fill,v0.1.2 rfl,v1.1.2 rfl,v2.1.2 rfl];rw[show Array.range 3 = #[0,1,2]from by decide];simp);have hrun:(execOp a.eval o).run P c.w=.ok (.value (.slice (some ⟨c.w.heap.size,0,none⟩) 3 3)) (c.w.alloc (.cells #[x0,x1,x2] el)):=(by have h1:=Go.run_buildSlice (P:=P) c.w t el 3 #[(0,x0),(1,x1),(2,x2)] #[x0,x1,x2] info z hu q1 q4 (by rw[q2,hf];decide) (by rw[q2,hf];decide) b6k;unfold execOp;rw[ho];simp only[Sem.run_bind,List.map_toArray,dF,List.map_nil,hx0,hx1,hx2,h1,Result.andThen_ok,Sem.run_pure]);refine KR hg hrun ?_;rw[hd];generalize hHO:HO.box (.ag [.gs k0 n0,.gs k1 n1,.gs k2 n2])=ho1 at *;have le:=UH hr (.cells #[x0,x1,x2] el) ho1;have htr:Tr c H (c.push (.cells #[x0,x1,x2] el) ((nextId H,ho1)::H)) ((nextId H,ho1)::H):=(by refine Tr.push hr _ _ (λ_=>by rw[<- hHO];rfl) ?_;rw[<- hHO];rw[<- hHO]at le;have m:∀{k nn:Nat} {x:Value},VV c (.gs k nn) x->VR (c.push (.cells #[x0,x1,x2] el) ((nextId H,HO.box (.ag [.gs k0 n0,.gs k1 n1,.gs k2 n2]))::H)) (.gs k nn) [x]:=fun{k nn x} h=>(by have:=(Cb le h).2;rwa[h.1.2 rfl]at this);refine⟨[x0,x1,x2],el,?_,?_,?_⟩;{rw[EKρ hr];simp only[Cx.push];exact alloc_heap_new _ _};{simp only[VR,Ea];exact⟨[x0],[x1,x2],rfl,by simpa only[VR]using m v0,[x1],[x2],rfl,by simpa only[VR]using m v1,[x2],[],rfl,by simpa only[VR]using m v2,rfl⟩};intro y hy;rw[EKρ hr]at hy;have:=hr.im _ _ hy;omega);have hms:EV (c.push (.cells #[x0,x1,x2] el) ((nextId H,ho1)::H)) (.ms (nextId H) 0 3 3 1) (.slice (some ⟨c.w.heap.size,0,none⟩) 3 3):=(by refine rZ (vw rfl rfl ?_);simp only[VR];rw[EKρ hr];refine⟨by simp only[Cx.push,hr.nx];omega,ak,aj,by simp[maxL]⟩);refine hk _ _ _ _ hK htr ((ha.mono le).put (bI hdn) hms) ?_;have:rX [o]=[d]:=(by simp[rX,hd]);rw[this];exact Fr.put
theorem Iu:∀l m:List Oper,rX (l++m)=rX l++rX m
 | [],_=>rfl
 |o::l,m=>by simp only[eX,rX];rw[Iu l m];cases o.dst <;> simp
theorem Vm(o:Oper)(l:List Oper):rX (o::l)=rX [o]++rX l:=Iu [o] l
inductive Mr where
 |x (m:Mk)|s (m:Mk) (y:Mr)|m (y:Mr)|f (y:Mr)|o (k:Nat) (y:Mr)
def Mr.r:Nat->Mr->Mr
 | 0,y=>y
 |k+1,y=>.s .n (Mr.r k y)
def b6V:Code->Option (Nat×Nat×Nat×Nat×List Oper×List Oper×Nat×Code)
 | .block bk (.loop (.seq (.region i2 o2 false) (.seq (.cond (.tmp tk) .skip (.exit bk')) (.block bk2 (.seq (.region i3 o3 false) rest)))))=>if bk'=bk then some (bk,i2,i3,bk2,o2.toList,o3.toList,tk,rest)else none
 |_=>none
def b1y(a b:Code):Option RgD :=
 match a with
 | .region i1 o1 false=>(match o1.toList,b6V b with
   | [mv,rg],some (bk,i2,i3,bk2,[nx,ex],en::ops,tk,rest)=>some ⟨i1,i2,i3,bk,bk2,mv,rg,nx,ex,en,tk,ops,rest⟩
   |_,_=>none)
 |_=>none
theorem a8v{a b:Code}{d:RgD}(h:b1y a b=some d):a=rgA d/\b=rgB d:=by unfold b1y at h;split at h;{rename_i i1 o1;split at h;{rename_i mv rg bk i2 i3 bk2 nx ex en ops tk rest h1 h2;obtain rfl:=aW h;refine⟨?_,?_⟩;{unfold rgA;rw[<- h1]};unfold b6V at h2;split at h2;{split at h2;{rename_i e;simp only[mg,mJ]at h2;obtain⟨rfl,rfl,rfl,rfl,e2,e3,rfl,rfl⟩:=h2;unfold rgB VZ;rw[<- e2,<- e3,e]};cases h2};cases h2};cases h};cases h
def SH(P:Program)(F:FT)(L:Lay)(n:Nat):Mr->Code->(AX->Env->Heap->Prop)->Env->Heap->Prop
 | .x m,c,Q,e,H=>FH F Ok L m c Q e H
 | .s m y,.seq a b,Q,e,H=>FH F Ok L m a (λz e' H'=>match z with | .normal=>SH P F L n y b Q e' H'|z=>Q z e' H') e H
 | .m y,.seq (.seq a b) z,Q,e,H=>(match b1y a b with
   |some d=>b1f P F L n d (λe' H'=>SH P F L n y z Q e' H') e H
   |none=>False)
 | .f y,c,Q,e,H=>a3C e H λe' H'=>SH P F L n y c Q e' H'
 | .o k y,.seq (.seq (.region _ ops false) b) z,Q,e,H=>(match ops.toList.drop k with
   | bs::post=>Hu F Ok L ops.toList (ops.toList.take k) e H λe' H'=>a3D L n bs e' H' λe' H'=>Hu F Ok L ops.toList post e' H' λe' H' =>
     UA F Ok L b (λx e' H'=>match x with | .normal=>SH P F L n y z Q e' H'|x=>Q x e' H') e' H'
   | []=>False)
 |_,_,_,_,_=>False
def LK(n:Nat):Mr->Code->Bool
 | .x _,c=>AB n c
 | .s _ y,.seq a b=>AB n a&&LK n y b
 | .m y,.seq (.seq _ _) z=>LK n y z
 | .f y,c=>LK n y c
 | .o _ y,.seq (.seq (.region _ ops _) b) z=>ops.toList.all (GL n)&&AB n b&&LK n y z
 |_,_=>false
theorem G8(hL:uo P L)(hm:P.follows .mixedOrders=true)(hFn:FS P F){n:Nat} :
  ∀ (y:Mr) (code:Code) (Q:AX->Env->Heap->Prop) (e:Env) (H:Heap) (c:Cx) (a:Act),LK n y code=true->HR c H->BR n c e a->SH P F L n y code Q e H ->
    code.wp P (Post n (writes code) c H a Q) a c.w
 | .x m,code,Q,e,H,c,a,hc,hr,ha,h=>xA hL hm hFn m code Q e H c a (by simpa only[LK]using hc) hr ha (by simpa only[SH]using h)
 | .s m y,.seq a b,Q,e,H,c,s,hc,hr,ha,h=>by
   simp only[LK,aN]at hc;simp only[SH]at h;refine wp_seq (wp_mono (xA hL hm hFn m a _ e H c s hc.1 hr ha h) ?_);rintro ex a' w' ⟨x',e',H',c',rfl,hq,rfl,htr,ha',hf⟩;cases x' with
   |normal =>refine wp_mono (G8 hL hm hFn y b _ e' H' c' a' hc.2 htr.hr ha' hq) ?_;rintro ex a'' w'' ⟨x',e'',QZ,c'',rfl,hq,rfl,xG,BH,hf'⟩;exact⟨x',e'',QZ,c'',rfl,hq,rfl,htr.trans xG,BH,hf.trans hf'⟩
   |exit i=>exact⟨.exit i,e',H',c',rfl,hq,rfl,htr,ha',hf.mono λt ht=>eH _ ht⟩
   |ret=>exact⟨.ret,e',H',c',rfl,hq,rfl,htr,ha',hf.mono λt ht=>eH _ ht⟩
 | .m y,.seq (.seq a b) z,Q,e,H,c,s,hc,hr,ha,h=>by simp only[LK]at hc;simp only[SH]at h;split at h;{rename_i d hd;obtain⟨rfl,rfl⟩:=a8v hd;refine a03 hL hm hFn hr ha h λe' H' c' a' hK htr ha' hf=>?_;refine wp_mono (G8 hL hm hFn y z Q e' H' c' a' hc htr.hr ha' hK) ?_;rintro ex a'' w'' ⟨x',e'',QZ,c'',rfl,hq,rfl,xG,BH,hf'⟩;refine⟨x',e'',QZ,c'',rfl,hq,rfl,htr.trans xG,BH,(hf.trans hf').mono λt ht=>?_⟩;simp only[writes,bP]at ht ⊢;exact ht};exact h.elim
 | .f y,code,Q,e,H,c,s,hc,hr,ha,h=>by
   simp only[LK]at hc;have h:a3C e H λe' H'=>SH P F L n y code Q e' H':=by simpa only[SH]using h
   obtain⟨d,H',hw,htr,ha',hK⟩:=h.sound hr ha;have:=G8 hL hm hFn y code Q e H' d s hc htr.hr ha' hK;rw[hw]at this;refine wp_mono this ?_;rintro ex a'' w'' ⟨x',e'',QZ,c'',rfl,hq,rfl,xG,BH,hf'⟩;exact⟨x',e'',QZ,c'',rfl,hq,rfl,htr.trans xG,BH,hf'⟩
 | .o k y,.seq (.seq (.region i ops false) b) z,Q,e,H,c,s,hc,hr,ha,h=>by
   simp only[LK,aN]at hc;obtain⟨⟨hc1,hc2⟩,hc3⟩:=hc;simp only[SH]at h;split at h;case h_2=>exact h.elim
   rename_i bs post hd;have hall:∀o∈ops.toList,GL n o=true:=bF.1 hc1;have hpost:post.all (GL n)=true:=bF.2 λo ho=>hall o (nI (by rw[hd];exact dh _ ho));have hw:∀t,t∈rX (ops.toList.take k)++rX [bs]++rX post->t∈rX ops.toList:=by intro t ht;rw[<- fH k ops.toList,hd,Iu,Vm bs post,<- bP];exact ht
   refine wp_seq (wp_seq (wp_region_list ?_));have e0:ops.toList=ops.toList.take k++(bs::post):=(by rw[<- hd,fH]);rw[e0];refine Ov _ _ _ (G9 hL hFn (bF.2 λo ho=>hall o (kK ho)) hr ha h λe1 H1 c1 a1 h1 t1 r1 f1=>?_);refine a3D.sound hL t1.hr r1 h1 λe2 H2 c2 a2 h2 t2 r2 f2=>?_;refine G9 hL hFn hpost t2.hr r2 h2 λe3 H3 c3 a3 h3 t3 r3 f3=>?_;have T:=(t1.trans t2).trans t3;have Fa:Fr (rX ops.toList) s a3:=((f1.trans f2).trans f3).mono hw;refine wp_mono (Au hL hm hFn b _ e3 H3 c3 a3 hc2 t3.hr r3 h3) ?_;rintro ex a4 w4 ⟨x,e4,H4,c4,rfl,hq,rfl,t4,r4,f4⟩;cases x with
   |normal =>refine wp_mono (G8 hL hm hFn y z Q e4 H4 c4 a4 hc3 t4.hr r4 hq) ?_;rintro ex a'' w'' ⟨x',e'',QZ,c'',rfl,hq,rfl,xG,BH,hf'⟩;refine⟨x',e'',QZ,c'',rfl,hq,rfl,(T.trans t4).trans xG,BH,((Fa.trans f4).trans hf').mono λt ht=>?_⟩;simpa only[writes,bP]using ht
   |exit i=>exact⟨.exit i,e4,H4,c4,rfl,hq,rfl,T.trans t4,r4,(Fa.trans f4).mono λt ht=>by simp only[writes];exact eH _ ht⟩
   |ret=>exact⟨.ret,e4,H4,c4,rfl,hq,rfl,T.trans t4,r4,(Fa.trans f4).mono λt ht=>by simp only[writes];exact eH _ ht⟩
theorem UD.b4D (y:Mr) (hL:uo P L) (hm:P.follows .mixedOrders=true) {f:Nat} {fn:Func} {code:Code} (hf:P.funcs[f]? = some fn) (hn:(fn.name== "runtime.NumGoroutine")=false) (hb:fn.body=some code)
  (hc:LK fn.ntmps y code=true) {args:List AV} {H:Heap} {Q:AV->Heap->Prop} (ha:Nat.ble args.length fn.ntmps=true)
  (h:KD args->b07 0 args λe=>SH P (FP P) L fn.ntmps y code (b6J L fn.results.toList H Q) e H):UD P f args H Q :=
 UD.a5W (B:=SH P (FP P) L fn.ntmps y code) (λQ' e H' c a hr ha h=>G8 hL hm (b3L P) y code Q' e H' c a hc hr ha h) hL hf hn hb (λ_ _ _ h=>h) ha h
end
end Go.AL
open Go Go.AL Go.Proofs
namespace S
set_option maxRecDepth 100000
theorem a9A(l:List Str)(hl:l.length<=1000000):ZQ 27 [.fn 85 [.cp (sL l)]] [] (.gs 0 l.length) [(0,.uD 1 ((sortL l).map .str))]:=by
 refine ZI Tryz.func27 λhok=>?_;conv=>whnf
 refine .gen _ _ (a7q l hl) λ_=>?_;conv=>whnf
 refine .gen _ _ (Nv l hl) λ_=>?_;conv=>whnf
 exact ZX
theorem b6N{P:Program}{f:Nat}{args:List AV}{H:Heap}{R:AV}{G:Heap}(h:UD P f args H λR' G'=>R'=R/\G'=G):qX P f args H R G:=by refine⟨h.1,λc vs hr hv=>(h.2 c vs hr hv).mono ?_⟩;rintro _ _ ⟨v,d,_,_,⟨rfl,rfl⟩,h3⟩;exact⟨v,d,h3⟩
theorem a1y(l:List Str):ZQ 28 [sL l] [] (.fn 85 [.cp (sL l)]) []:=by refine b6N ?_;refine UD.b0J (.r 1 (.f [0] .n)) lay mixed Tryz.func28 (by kernel_rfl) rfl (by kernel_rfl) rfl λhok=>?_;refine Z0 ?_;refine⟨⟨rfl,rfl⟩,ZW ?_⟩;refine⟨_,_,⟨rfl,rfl⟩,?_⟩;exact ZX
theorem a3g(m:Md)(hb:m.evs.length<=1000):ZQ 29 [m.av] [] (sL (CP m)) []:=by
 unfold CP;refine ZN Tryz.func29 λhok=>?_;refine qV.of <| qM.inv (.grow 3 1 [] _ rfl (.inl ⟨rfl,rfl⟩) (.refl _ _)) (λi:Nat=>i<=m.evs.length) (λi=>[(9,.int .i64 i),(3,.sl 1 (((m.evs.take i).map Ev.name).map .str) (.own 1))]) (λi=>[(1,.tok 1 i),(0,.box m.av)]) (λi=>m.evs.length-i) 0 (aO _) (λ_=>rfl) ?_ ?_;{exact wk};intro i hi _;refine ZS ?_ ?_<;>intro h1
 ·have hlt:i<m.evs.length:=(by simpa using h1);refine ZW ?_;refine rV hlt (ZW ?_);refine⟨aA,?_⟩
  (refine⟨by simp[maxL] <;> omega,by simp <;> omega,?_⟩;(conv=>whnf))
  refine ZG ?_;refine⟨i+1,?_,?_,?_⟩;{exact hlt}
  ·refine⟨?_,.mk ?_ ?_⟩
   ·repeat' first|exact Zq|apply aI
    refine qY ?_;rw[show m.evs.take (i+1)=m.evs.take i++[m.evs[i]]from bG hlt];simp only[aV];rfl
   ·repeat' first|exact Zq|apply aI
    simp;omega
   exact⟨ak,ak,trivial⟩
  omega
 have hl:i=m.evs.length:=(by(have:¬i<m.evs.length:=by simpa using h1);omega);subst hl;clear h1;rw[bg];exact ZJ
theorem a7r(m:Md)(hb:m.evs.length<=1000):ZQ 29 [m.av] [] (.sl 1 ((CP m).map .str) (.own 1)) [(1,.tok 1 (CP m).length),(0,.gone)]:=by
 unfold CP;refine ZN Tryz.func29 λhok=>?_;refine qV.of <| qM.inv (.grow 3 1 [] _ rfl (.inl ⟨rfl,rfl⟩) (.refl _ _)) (λi:Nat=>i<=m.evs.length) (λi=>[(9,.int .i64 i),(3,.sl 1 (((m.evs.take i).map Ev.name).map .str) (.own 1))]) (λi=>[(1,.tok 1 i),(0,.box m.av)]) (λi=>m.evs.length-i) 0 (aO _) (λ_=>rfl) ?_ ?_;{exact wk};intro i hi _;refine ZS ?_ ?_<;>intro h1
 ·have hlt:i<m.evs.length:=(by simpa using h1);refine ZW ?_;refine rV hlt (ZW ?_);refine⟨aA,?_⟩
  (refine⟨by simp[maxL] <;> omega,by simp <;> omega,?_⟩;(conv=>whnf))
  refine ZG ?_;refine⟨i+1,?_,?_,?_⟩;{exact hlt}
  ·refine⟨?_,.mk ?_ ?_⟩
   ·repeat' first|exact Zq|apply aI
    refine qY ?_;rw[show m.evs.take (i+1)=m.evs.take i++[m.evs[i]]from bG hlt];simp only[aV];rfl
   ·repeat' first|exact Zq|apply aI
    simp;omega
   exact⟨ak,ak,trivial⟩
  omega
 have hl:i=m.evs.length:=(by(have:¬i<m.evs.length:=by simpa using h1);omega);subst hl;clear h1;rw[bg];refine ZW ?_;refine ZE ?_ ?_;{exact wk};repeat' first|exact Zq|apply aI
 all_goals first|(rw[aC])|skip
def ovI(v:Int)(ns es:List Str)(i:Int):Int:=if i<v then zG (λy=>decide (ns.getD i.toNat []=y)) es else i-v+es.length
theorem b26(f:Fo)(ns es:List Str)(i:Int)(h0:0<=i)(h1:i<=100000)(hv:0<=f.vars/\f.vars<=100)(hn:i<f.vars->i<ns.length)(he:es.length<=1000) :
  ZQ 90 [.int .i64 i,.cp f.av,.cp (sL es),.cp (sL ns)] [] (.int .i64 (ovI f.vars ns es i)) []:=by
 have ci:=XO es (ns.getD i.toNat []);refine ZN Tryz.func90 λhok=>?_;constructor<;>intro g
 ·rw[show ovI f.vars ns es i=_ from aG g];have hi:i.toNat<ns.length:=(by have:=hn g;omega);refine ZW ?_;refine ZR ?_;refine sK [] ⟨aj,aj⟩ ?_;conv=>whnf
  refine .zK ci ?_;exact ZX
 rw[show ovI f.vars ns es i=_ from aB g];refine ZW ?_;refine⟨rQ aj aj,ZW ?_⟩;rw[aC];refine⟨rQ aj aj,ZW ?_⟩;exact ZX
def ovN(v:Int)(ns es:List Str)(x:Nd):Nd:=⟨x.kind,x.k,x.args.map (ovI v ns es)⟩
def ovF(f:Fo)(ns es:List Str):Fo:=⟨es.length,f.nodes.map (ovN f.vars ns es),ovI f.vars ns es f.top⟩
theorem b03(f:Fo)(ns es:List Str)(h:KL f)(hn:f.vars<=ns.length)(he:es.length<=1000):ZQ 33 [f.av,sL ns,sL es] [] (ovF f ns es).av []:=by
 obtain⟨h1,h2,h3,h4⟩:=h;have c1:=λi g0 g1=>b26 f ns es i g0 g1 aj aj he;unfold ovF;refine b6N ?_;refine UD.b0J (.r 1 (.f [0,1,2] .n)) lay mixed Tryz.func33 (by kernel_rfl) rfl (by kernel_rfl) rfl λhok=>?_;refine Z0 ?_;refine⟨⟨rfl,rfl⟩,⟨rfl,rfl⟩,⟨rfl,rfl⟩,ZW ?_⟩;refine ZR ?_;refine .zW (c1 f.top h4.1 aj) ?_;rw[show(es.map AV.str).length=es.length from aC _];generalize ovI f.vars ns es f.top=tp at *;have hov:∀l:List Nd,l.map (ovN f.vars ns es)=l.map λx=>⟨x.kind,x.k,x.args.map (ovI f.vars ns es)⟩:=λ_=>rfl;rw[hov];have hc:∀i,0<=i->i<=100000->ZQ 90 [.int .i64 i,.cp f.av,.cp (sL es),.cp (sL ns)] [] (.int .i64 (ovI f.vars ns es i)) []:=c1;clear c1 hov;generalize ovI f.vars ns es=ov at *;refine qV.of <| (qM.inv (.GY 4 [1] 3 [] (.ag [.int .i64 es.length,.qW,.int .i64 tp]) .qW _ rfl rfl (.inl ⟨rfl,rfl⟩) rfl (.refl _ _)) (λk:Nat=>k<=f.nodes.length) (λk=>[(25,.int .i64 k)]) (λk=>[(5,.tok 3 k),(4,.box (.ag [.int .i64 es.length,.sl 3 (((f.nodes.take k).map λx=>(⟨x.kind,x.k,x.args.map ov⟩:Nd)).map Nd.av) (.own 5),.int .i64 tp])),(3,.box (.ag [.int .i64 0,.qW,.int .i64 0])),(2,.gone),(1,.gone),(0,.gone)]) (λk=>f.nodes.length-k) 0 (aO _) ?_ ?_ ?_);{exact λ_=>rfl};{exact ZV};intro k hk _;have hkl:((f.nodes.take k).map λx=>(⟨x.kind,x.k,x.args.map ov⟩:Nd)).length=k:=(by rw[aC,bD];omega);refine ZS ?_ ?_<;>intro g
 ·have hlt:k<f.nodes.length:=(by simpa using g);have hst:(f.nodes.take (k+1)).map (λx=>(⟨x.kind,x.k,x.args.map ov⟩:Nd))=((f.nodes.take k).map λx=>(⟨x.kind,x.k,x.args.map ov⟩:Nd))++[⟨(f.nodes[k]).kind,(f.nodes[k]).k,(f.nodes[k]).args.map ov⟩]:=(by rw[bG hlt,aV];rfl);have hnx:=h3 _ hlt;have hna:=hnx.args;have hnl:(f.nodes[k]).args.length<=16:=(by have hal:=hnx.num;split at hal;{omega};split at hal <;> omega);refine ZW ?_;refine rV hlt ?_;generalize f.nodes[k]=x at *;generalize (f.nodes.take k).map (λx=>(⟨x.kind,x.k,x.args.map ov⟩:Nd))=out at *;refine ZW ?_;refine qV.of <| (qM.inv (.grow 11 1 [] _ rfl (.inl ⟨rfl,rfl⟩) (.refl _ _)) (λj:Nat=>j<=x.args.length) (λj=>[(32,.int .i64 j),(11,.sl 1 (((x.args.take j).map ov).map (.int .i64)) (.own 7))]) (λj=>[(7,.tok 1 j),(6,.box x.av),(5,.tok 3 k),(4,.box (.ag [.int .i64 es.length,.sl 3 (out.map Nd.av) (.own 5),.int .i64 tp])),(3,.box (.ag [.int .i64 0,.qW,.int .i64 0])),(2,.gone),(1,.gone),(0,.gone)]) (λj=>x.args.length-j) 0 (aO _) ?_ ?_ ?_);{exact λ_=>rfl};{exact ZV};intro j hj _;have htl:((x.args.take j).map ov).length=j:=(by rw[aC,bD];omega);refine ZS ?_ ?_<;>intro g3
  ·have hjl:j<x.args.length:=(by simpa using g3);have ha:=hna _ (aQ hjl);have ht1:(x.args.take (j+1)).map ov=(x.args.take j).map ov++[ov x.args[j]]:=(by rw[bG hjl,aV];rfl);refine ZW ?_;refine rV hjl ?_;generalize x.args[j]=a at *;generalize (x.args.take j).map ov=al at *;refine ZW ?_;refine .zW (hc a ha.1 aj) ?_;refine⟨aA,?_⟩
   (refine⟨by simp[maxL] <;> omega,by simp <;> omega,?_⟩;(conv=>whnf))
   refine ZG ?_;refine⟨j+1,?_,?_,?_⟩;{exact hjl}
   ·rw[ht1];refine Zv ?_ ?_
    ·repeat' first|exact Zq|apply aI
     all_goals first|(show sS _ (List.map _ (_++[_]));rw[aV];exact qU _)|skip
    repeat' first|exact Zq|apply aI
    all_goals first|(simp;omega)|skip
   omega
  have hjl:j=x.args.length:=(by(have:¬j<x.args.length:=by simpa using g3);omega);subst hjl;rw[bg];refine ZW ?_;refine⟨by rw[aC,hkl],.mk (by simp[maxL];omega) aA (ZW ?_)⟩;refine ZG ?_;refine⟨k+1,?_,?_,?_⟩;{exact hlt}
  ·rw[hst];refine Zv wk ?_;repeat' first|exact Zq|apply aI
   all_goals first|(simp;done)|(simp;omega)|(show sS _ (List.map _ (_++[_]));rw[aV];exact qU _)|skip
  omega
 have hk:k=f.nodes.length:=(by(have:¬k<f.nodes.length:=by simpa using g);omega);subst hk;rw[bg];refine ZW ?_;refine⟨_,_,⟨rfl,rfl⟩,?_⟩;exact ZX
theorem a7E{m:Md}(hM:KE m):(rD m).length<=64:=by
 have ht:JB m<=64:=(by have:=hM.pages;unfold uO at this;split at this;{cases this};omega);have h1:∀(l:List Pg) (n:Nat),l.foldl (λn x=>n+x.gates.length) n=n+(l.map λp=>p.gates.length).sum:=by
  intro l;induction l with
  |nil=>intro n;simp
  |cons p l ih=>intro n;simp only[dY,ih,dF,mM];omega
 have h2:∀(l:List Int),(l.flatMap (y7 m)).length=(l.map λa=>(qN m a).length).sum:=by
  intro l;induction l with
  |nil=>simp
  |cons a l ih=>simp only[nU,bn,ih,dF,mM];simp[y7]
 have h3:(BP m).map (λa=>(qN m a).length)=m.gates.length::m.pages.map λp=>p.gates.length:=(by unfold BP;rw[jV,List.range_succ_eq_map,dF,jV];congr 1;apply lN;{simp};intro i h1 h2;simp only[aC,lH]at h1;simp only[mP,nT,Function.comp];unfold qN;rw[aB aj];have:(((i+1:Nat):Int)-1).toNat=i:=aj;rw[show((Nat.succ i:Nat):Int)-1=(i:Int) by simp];rw[aJ,aF,aH h1];rfl);unfold JB at ht;rw[h1]at ht;unfold rD;rw[h2,h3,mM];exact ht
theorem IL.a8r{m:Md}(hM:KE m){st:CS}(h:IL m st):st.nodes.length<=128:=by have:=Eh h.nd (u:=univ m) λx hx=>(by obtain⟨e,he,rfl⟩:=bZ.1 hx;exact a15 (h.ok e he).1 (h.ok e he).2);rw[aC]at this;have h1:=a7E hM;have h2:=hM.lens.2;have:(univ m).length=m.hs.length+(rD m).length:=(by simp[univ]);rw[h.len];omega
structure Yn(vars:Int)(st:CS):Prop where
 nd:∀(i:Nat) (h:i<st.nodes.length),NR vars i st.nodes[i]
 va:∀z v,lookO st.es z=some v->0<=v/\v<vars+st.nodes.length
theorem Yn.push{vars:Int}(hv:0<=vars){st:CS}(h:Yn vars st)(x:Node)(nd:Nd)(hn:NR vars st.nodes.length nd):Yn vars (xK vars st x nd).2:=by refine⟨?_,?_⟩;{show ∀(i:Nat) (h:i<(st.nodes++[nd]).length),NR vars i (st.nodes++[nd])[i];intro i hi;by_cases hl:i<st.nodes.length;{rw[kT hl];exact h.nd i hl};obtain rfl:i=st.nodes.length:=(by simp at hi;omega);rw[l7 (aS _)];simpa using hn};show ∀z v,lookO (mark st.es x (vars+st.nodes.length)) z=some v->0<=v/\v<vars+((st.nodes++[nd]).length:Int);intro z v hz;rw[CG]at hz;rw[bn];split at hz;{obtain rfl:=aW hz;simp;omega};have:=h.va z v hz;simp;omega
theorem b2q{m:Md}(hM:KE m){x:Node}(hx:x∈rD m)(hs:Du (rP m x).kind=true){vars:Int}{i:Nat}{args:List Int}(hl:args.length=(rP m x).ins.length)(ha:∀a∈args,0<=a/\a<vars+i) :
  NR vars i ⟨GV (rP m x).kind,(rP m x).k,args⟩:=by
 obtain⟨_,h2,h3,h4⟩:=uK.1 hx;have hk:x.2.2.toNat<(qN m x.2.1).length:=aj;have ho:=(hM.gate h2 hk).own;have e:rP m x=(qN m x.2.1)[x.2.2.toNat]:=(by unfold rP;rw[aF,aH hk];rfl);rw[<- e]at ho;generalize rP m x=g at *;clear e;have hf:Jo g.kind g.ins.length=true/\¬(g.kind=2/\(g.k<1\/(g.ins.length:Int)<g.k))/\¬(g.kind≠2/\g.k≠0):=(by unfold uP at ho;split at ho;{cases ho};split at ho;{cases ho};split at ho;{cases ho};split at ho;{cases ho};split at ho;{cases ho};rename_i q1 q2 q3;exact⟨by simpa using q1,q2,q3⟩);obtain⟨f1,f2,f3⟩:=hf;unfold Du at hs;simp only[gG,bW]at hs;rcases hs with((((e|e)|e)|e)|e)|e <;> rw[e]at f1 f2 f3 ⊢ <;> simp[Jo]at f1 f2 f3 <;> refine⟨?_,?_,ha,?_⟩ <;> simp[GV] <;> omega
theorem a0p(f:Node->CS->(Bool×Int)×CS):∀(l:List Node) (s:CS) (acc:List Int),(vZ f l s acc).1.1=false->(vZ f l s acc).1.2.length=acc.length+l.length
 | [],_,_,_=>rfl
 |y::l,s,acc,h=>by unfold vZ at h ⊢;split;{rename_i hb;rw[aG hb]at h;cases h};rename_i hb;rw[aB hb]at h;rw[a0p f l _ _ h];simp;omega
theorem a6F{m:Md}(hM:KE m)(vars:Int)(hv:vars=m.evs.length):∀(n:Nat) (x:Node) (st:CS),RG m x->Yn vars st->(su m vars n x st).1.1=false ->
  Yn vars (su m vars n x st).2/\(0<=(su m vars n x st).1.2/\(su m vars n x st).1.2<vars+(su m vars n x st).2.nodes.length)/\∃r,(su m vars n x st).2.nodes=st.nodes++r
 | 0,_,_,_,_,h=>by cases h
 | n+1,x,st,hx,hI,h=>by
   have hv0:0<=vars:=aj;unfold su at h ⊢;split;{rename_i h0;refine⟨hI,?_,[],ak⟩;rcases hx with hx|hx|hx;{dsimp only;omega};{omega};have:=(uK.1 hx).1;omega};rename_i h0;rw[aB h0]at h;split;{rename_i a ha;exact⟨hI,hI.va x a ha,[],ak⟩};rename_i hn;simp only[hn]at h;have hpush:∀{s:CS} (nd:Nd),Yn vars s->NR vars s.nodes.length nd->(∃r,s.nodes=st.nodes++r)->Yn vars (xK vars s x nd).2/\(0<=(xK vars s x nd).1.2/\(xK vars s x nd).1.2<vars+(xK vars s x nd).2.nodes.length)/\∃r,(xK vars s x nd).2.nodes=st.nodes++r:=(by intro s nd h1 h2 ⟨r,hr⟩;refine⟨h1.push hv0 x nd h2,?_,r++[nd],?_⟩;{show 0<=vars+(s.nodes.length:Int)/\vars+(s.nodes.length:Int)<vars+((s.nodes++[nd]).length:Int);rw[bn];simp;omega};show s.nodes++[nd]=_;rw[hr,bP]);split;{rename_i h1;refine hpush _ hI ⟨ak,ak,ak,?_⟩ ⟨[],ak⟩;simp;try (cases(Ih m x).on <;> simp)};rename_i h1;rw[aB h1]at h;have h2:x.1=2:=(by rcases hx with h|h|h;{omega};{omega};exact(uK.1 h).1);obtain⟨hxa,hk⟩:=yI hM.closed hx h2;split;{rename_i hs;rw[aG hs]at h;cases h};rename_i hs;rw[aB hs]at h
   have key:∀(l:List Node) (s:CS) (acc:List Int),(∀y∈l,RG m y)->Yn vars s->(∀a∈acc,0<=a/\a<vars+s.nodes.length)->(vZ (su m vars n) l s acc).1.1=false ->
     Yn vars (vZ (su m vars n) l s acc).2/\(∀a∈(vZ (su m vars n) l s acc).1.2,0<=a/\a<vars+(vZ (su m vars n) l s acc).2.nodes.length)/\∃r,(vZ (su m vars n) l s acc).2.nodes=s.nodes++r:=by
    intro l;induction l with
    |nil=>intro s acc _ h1 h2 _;exact⟨h1,h2,[],by simp[vZ]⟩
    | cons y l ih =>
      intro s acc hl h1 h2 he;unfold vZ at he ⊢;split;{rename_i hb;rw[aG hb]at he;cases he};rename_i hb;rw[aB hb]at he;obtain⟨g1,g2,r,g3⟩:=a6F hM vars hv n y s (hl y ak) h1 (by simpa using hb);have hle:(s.nodes.length:Int)<=(su m vars n y s).2.nodes.length:=by rw[g3,bn];omega
      obtain⟨i1,i2,r',i3⟩:=ih _ _ (λz hz=>hl z (by simp[hz])) g1 (λa ha=>by
       rcases dM.1 ha with ha|ha;{have:=h2 a ha;omega};simp at ha;subst ha;exact g2) he
      exact⟨i1,i2,r++r',by rw[i3,g3,bP]⟩
   split;{rename_i he;rw[aG he]at h;cases h};rename_i he;have he:(vZ (su m vars n) (tC m x) st []).1.1=false:=by simpa using he
   obtain⟨k1,k2,k3⟩:=key _ _ _ hk hI ak he;refine hpush _ k1 (b2q hM hxa (by simpa using hs) ?_ k2) k3;rw[a0p _ _ _ _ he];simp[tC]
theorem Yn.nil(vars:Int):Yn vars ⟨[],[]⟩:=⟨λi h=>by simp at h,λz v h=>by cases h⟩
theorem b6E{m:Md}(hM:KE m){s:Str}(hs:vN m (-1) s=true)(he:(y8 m s).1.1=false):KL ⟨m.evs.length,(y8 m s).2.nodes,(y8 m s).1.2⟩:=by have hok:=(hM.RY (.inl rfl) hs).ok;obtain⟨rank,hr,_⟩:=hM.rank;obtain⟨h1,h2,_⟩:=a6F hM m.evs.length rfl (Lr m) _ ⟨[],[]⟩ hok (.nil _) he;have h3:=(QA hM.closed hr m.evs.length (Lr m) _ ⟨[],[]⟩ hok (.nil m)).1.a8r hM;have:=hM.lens.1;exact⟨⟨ak,by show(m.evs.length:Int)<=24;omega⟩,h3,h1.nd,h2⟩
def b0b(m:Md):Bool:=!yN m||(decide (12<m.evs.length)&&decide (m.evs.length<=24))||decide (100<m.evs.length)||decide (100<m.gates.length)||decide (20<m.pages.length)
theorem b5g(m:Md):ZQ 6 [m.av] [] (.bool (b0b m)) []:=by
 have cl:=a96 m _ rfl;cases hL:yN m with
 |false =>rw[hL]at cl;have cl:=cl.weak (R':=.ff) rfl;rw[show b0b m=true from by unfold b0b;rw[hL];rfl];refine ZN Tryz.func6 λhok=>?_;refine .zW cl ?_;exact ZX
 | true =>
   rw[hL]at cl;have cl:=cl.weak (R':=.tt) rfl;have hb:∀b:Bool,((12<m.evs.length/\m.evs.length<=24)\/100<m.evs.length\/100<m.gates.length\/20<m.pages.length↔b=true)->b0b m=b:=λb h=>(by unfold b0b;rw[hL];rw[jl,<- h];simp[or_assoc]);obtain⟨b,h⟩:∃b:Bool,((12<m.evs.length/\m.evs.length<=24)\/100<m.evs.length\/100<m.gates.length\/20<m.pages.length↔b=true):=⟨decide _,(gW).symm⟩;rw[hb b h];clear hb;refine ZN Tryz.func6 λhok=>?_;refine .zW cl ?_;constructor<;>intro g1
   ·refine ZS ?_ ?_<;>intro g2;{obtain rfl:b=true:=h.1 (by simp only[aC]at g1 g2;omega);refine ZW ?_;exact ZX};refine ZS ?_ ?_<;>intro g3;{obtain rfl:b=true:=h.1 (by simp only[aC]at g3;omega);refine ZW ?_;exact ZX};refine ZS ?_ ?_<;>intro g4;{obtain rfl:b=true:=h.1 (by simp only[aC]at g4;omega);refine ZW ?_;exact ZX};refine ZW ?_;refine ZE ?_ ?_
    ·repeat' first|exact Zq|apply aI
     all_goals (simp only[aC]at *;show _↔_;rw[<- h];omega)
    exact wk
   refine ZS ?_ ?_<;>intro g3;{obtain rfl:b=true:=h.1 (by simp only[aC]at g3;omega);refine ZW ?_;exact ZX};refine ZS ?_ ?_<;>intro g4;{obtain rfl:b=true:=h.1 (by simp only[aC]at g4;omega);refine ZW ?_;exact ZX};refine ZW ?_;refine ZE ?_ ?_
   ·repeat' first|exact Zq|apply aI
    all_goals (simp only[aC]at *;show _↔_;rw[<- h];omega)
   exact wk
structure Bd(m:Md):Prop where
 light:yN m=true
 b:KJ m
 c:MdC m
 x:MdX m
 evs:m.evs.length<=60
 page:m.pages.length<=20
theorem b5n{m:Md}(h:b0b m=false):Bd m:=by unfold b0b at h;simp only[Bool.or_eq_false_iff,Bool.not_eq_false',decide_eq_false_iff_not]at h;obtain⟨⟨⟨⟨h1,_⟩,h3⟩,h4⟩,h5⟩:=h;obtain⟨hB,hC⟩:=a8T h1;exact⟨h1,hB,hC,a8S h1,hB.evs,aj⟩
def ckM(a b:Md):Int:=if rJ a≠0 then rJ a else if rJ b≠0 then rJ b else if(atR a a.top).2≠0 then(atR a a.top).2 else if(atR b b.top).2≠0 then(atR b b.top).2 else if 24<(AU a b).length then 4 else 0
theorem YW(h1c:YZ)(a b:Md)(ha:Bd a)(hb:Bd b):ZQ 7 [a.av,b.av] [] (.int .i64 (ckM a b)) []:=by have ca:=XH h1c a ha.x ha.b _ rfl;have cb:=XH h1c b hb.x hb.b _ rfl;have ce:=XW a b (by have:=ha.evs;omega) (by have:=hb.evs;omega);by_cases e1:rJ a≠0;{rw[show ckM a b=rJ a from aG e1];generalize rJ a=e at *;refine ZN Tryz.func7 λhok=>?_;refine .zW ca ?_;refine aP (λ_=>?_) (λg=>absurd e1 g);refine ZW ?_;exact ZX};have e1:rJ a=0:=(by simpa using e1);have ma:=wC e1;have ra:=b2Y a ma ha.b a.top _ rfl;by_cases e2:rJ b≠0;{rw[show ckM a b=rJ b from(aB (by rw[e1];simp)).trans (aG e2)];rw[e1]at ca;generalize rJ b=e at *;refine ZN Tryz.func7 λhok=>?_;refine .zW ca ?_;refine aP (λg=>absurd rfl g) (λ_=>ZW ?_);refine .zW cb ?_;refine aP (λ_=>?_) (λg=>absurd e2 g);refine ZW ?_;exact ZX};have e2:rJ b=0:=(by simpa using e2);have mb:=wC e2;have rb:=b2Y b mb hb.b b.top _ rfl;have ck:ckM a b=if(atR a a.top).2≠0 then(atR a a.top).2 else if(atR b b.top).2≠0 then(atR b b.top).2 else if 24<(AU a b).length then 4 else 0:=(aB (by rw[e1];simp)).trans (aB (by rw[e2];simp));rw[ck];rw[e1]at ca;rw[e2]at cb;clear ck e1 e2;generalize atR a a.top=fa at *;generalize atR b b.top=fb at *;obtain⟨fa,ea⟩:=fa;obtain⟨fb,eb⟩:=fb;generalize AU a b=es at *;dsimp only at *;refine ZN Tryz.func7 λhok=>?_;refine .zW ca ?_;refine aP (λg=>absurd rfl g) (λ_=>ZW ?_);refine .zW cb ?_;refine aP (λg=>absurd rfl g) (λ_=>ZW ?_);refine .zW ra ?_;constructor<;>intro g;{rw[aG g];refine ZW ?_;exact ZX};rw[aB g];refine ZW ?_;refine .zW rb ?_;constructor<;>intro g;{rw[aG g];refine ZW ?_;exact ZX};rw[aB g];refine ZW ?_;refine .zW ce ?_;constructor<;>intro g;{rw[aG (by simp only[aC]at g;omega)];refine ZW ?_;exact ZX};rw[aB (by simp only[aC]at g;omega)];refine ZW ?_;exact ZX
theorem QC(a:List Str):ZQ 34 [sL a,sL a] [] .tt []:=by refine ZI Tryz.func34 λhok=>?_;have ha:a.length<=9223372036854775807:=(by simpa[KD,Ok,maxL]using hok.1.1);refine Z0 ?_;refine aP (λh=>absurd rfl h) (λ_=>ZW ?_);refine qV.of <| qM.inv (.refl _ _) (fun(i:Nat)=>i<=a.length) (fun(i:Nat)=>[(13,.int .i64 i)]) (λ_=>_) (fun(i:Nat)=>a.length-i) 0 ?_ (λ_=>rfl) ?_ ?_;{exact aO _};{exact wk};intro i hi _;refine ZS ?_ ?_<;>intro h1;{have hlt:i<a.length:=(by simpa using h1);refine ZW ?_;refine ZR ?_;refine rV hlt (ZW ?_);refine rV hlt (ZW ?_);refine aP (λh2=>absurd rfl h2) (λ_=>ZW ?_);refine ZG ?_;refine⟨i+1,?_,?_,?_⟩;{exact hlt};{exact wk};omega};have hl:i=a.length:=(by(have:¬i<a.length:=by simpa using h1);omega);subst hl;clear h1;exact ZJ
abbrev cmR(p q r e:List Str)(d:Df):AV:=.ag [sL p,sL q,sL r,sL e,d.av]
theorem a3h(p q r e:List Str)(d:Df):ZQ 10 [cmR p q r e d,cmR p q r e d] [] .tt []:=by
 have c1:=QC p;have c2:=QC q;have c3:=QC r;have c4:=QC e;unfold cmR Df.av;refine ZN Tryz.func10 λhok=>?_;refine .zW c1 ?_;refine .zW c2 ?_;refine .zW c3 ?_;refine .zW c4 ?_;refine ZE ?_ ?_
 ·repeat' first|exact Zq|apply aI
  all_goals simp[eqP]
 exact wk
def toE(E:List Str)(s:Str):Int:=zG (λy=>decide (s=y)) E
theorem Y7{E:List Str}{s:Str}(h:s∈E):∃(i:Nat) (hi:i<E.length),toE E s=i/\E[i]=s/\∀(j:Nat) (hj:j<i),E[j]≠s:=by rcases zF (λy=>decide (s=y)) E with⟨_,h2⟩|⟨i,hi,e,h1,h2⟩;{have:=h2 _ h;simp at this};exact⟨i,hi,e,(eu h1).symm,λj hj h3=>by have:=jR (h2 j hj);exact this h3.symm⟩
theorem J3{m:Md}(hM:KE m)(h0:(atR m m.top).2=0):KL (atR m m.top).1/\(atR m m.top).1.vars=m.evs.length:=by unfold atR at *;split at h0;{rename_i h;exact absurd h0 h};split at h0;{cases h0};rename_i h1 h2;rw[aB h1,aB h2];exact⟨b6E hM hM.top (by simpa using h2),rfl⟩
def toK(ns E:List Str)(k:Nat):List Int:=ns.map (toE E)++(List.range k).map fun(i:Nat)=>((E.length:Int)+(i:Int))
theorem b1r(ns E:List Str)(k:Nat):(toK ns E k).length=ns.length+k:=by simp[toK]
theorem b1s(ns E:List Str)(k:Nat){a:Int}(h0:0<=a)(h1:a<ns.length+k):(toK ns E k).getD a.toNat 0=ovI ns.length ns E a:=by unfold toK ovI;rw[aF];split;{have h:a.toNat<ns.length:=aj;rw[bH (by simpa using h)];simp only[dO,aH h,iq,kM,aF];rfl};rw[dJ aA];simp only[aC,dO];rw[gQ aj];simp only[iq,kM];omega
theorem a6V(m:Md)(E:List Str)(hB:KJ m)(hM:KE m)(h0:(atR m m.top).2=0)(hE:E.length<=200)(hmem:∀x∈m.evs,x.name∈E):ZQ 39 [m.av,sL E] [] (ovF (atR m m.top).1 (CP m) E).av []:=by
 have ra:=b2Y m hM hB m.top _ rfl;have hev:=hM.lens.1;rw[h0]at ra;obtain⟨⟨h1,h2,h3,h4⟩,hv⟩:=J3 hM h0;unfold ovF ovN;generalize (atR m m.top).1=f at *;have tg:=λk a h0 h1=>b1s (CP m) E k (a:=a) h0 h1;have tl:=b1r (CP m) E;have ts:∀k,toK (CP m) E (k+1)=toK (CP m) E k++[(E.length:Int)+(k:Int)]:=λk=>(by simp[toK,kV]);have t0:toK (CP m) E 0=m.evs.map λx=>toE E x.name:=(by simp[toK,CP]);rw[show(CP m).length=m.evs.length from aC _]at tg tl;rw[<- hv]at tg;generalize toK (CP m) E=tk at *;generalize ovI f.vars (CP m) E=ov at *;clear h0;refine ZN Tryz.func39 λhok=>?_;refine .zW ra ?_;refine qV.of <| qM.inv (.grow 7 1 [] _ rfl (.inl ⟨rfl,rfl⟩) (.refl _ _)) (λi:Nat=>i<=m.evs.length) (λi=>[(8,.int .i64 i),(7,.sl 1 (((m.evs.take i).map λx=>toE E x.name).map (.int .i64)) (.own 3))]) (λi=>[(3,.tok 1 i),(2,.box f.av),(1,.box (.ag [.int .i64 0,.qW,.int .i64 0])),(0,.box m.av)]) (λi=>m.evs.length-i) 0 (aO _) (λ_=>rfl) ?_ ?_;{exact wk};intro i hi _;refine ZS ?_ ?_<;>intro h1
 ·have hlt:i<m.evs.length:=(by simpa using h1);have hx:=hmem _ (aQ hlt);have hst:(m.evs.take (i+1)).map (λx=>toE E x.name)=(m.evs.take i).map (λx=>toE E x.name)++[toE E (m.evs[i]).name]:=(by rw[bG hlt,aV];rfl);obtain⟨n,hn,e1,e2,e3⟩:=Y7 hx;rw[e1]at hst;have hl:((m.evs.take i).map λx=>toE E x.name).length=i:=(by rw[aC,bD];omega);generalize (m.evs.take i).map (λx=>toE E x.name)=to at *;refine ZW ?_;refine qV.of <| qM.inv (.refl _ _) (λj:Nat=>j<=n) (λj=>[(9,.int .i64 j)]) (λ_=>[(3,.tok 1 i),(2,.box f.av),(1,.box (.ag [.int .i64 0,.qW,.int .i64 0])),(0,.box m.av)]) (λj=>n-j) 0 (aO _) (λ_=>rfl) ?_ ?_;{exact wk};intro j hj _;have hjE:j<E.length:=aj;refine ZW ?_;refine ZR ?_;refine rV hjE (ZW ?_);refine rV hlt ?_;refine ZS ?_ ?_<;>intro g;{have hjn:j<n:=(by rcases jS j n with h|h;{exact h};exfalso;obtain rfl:j=n:=aj;exact g e2);refine ZW ?_;refine ZG ?_;refine⟨j+1,?_,?_,?_⟩;{exact hjn};{exact wk};omega};obtain rfl:j=n:=(by rcases jS j n with h|h;{exact absurd (Decidable.of_not_not g) (e3 j h)};omega);refine ZW ?_;refine⟨aA,?_⟩
  (refine⟨by simp[maxL] <;> omega,by simp <;> omega,?_⟩;(conv=>whnf))
  refine ZG ?_;refine⟨i+1,?_,?_,?_⟩;{exact hlt}
  ·rw[hst];refine Zv ?_ ?_
   ·repeat' first|exact Zq|apply aI
    all_goals first|(show sS _ (List.map _ (_++[_]));rw[aV];exact qU _)|skip
   repeat' first|exact Zq|apply aI
   all_goals first|(simp;omega)|skip
  omega
 have hk:i=m.evs.length:=(by(have:¬i<m.evs.length:=by simpa using h1);omega);subst hk;rw[bg];refine ZW ?_;rw[<- t0,show(E.map AV.str).length=E.length from aC _];clear ra hmem;have tl':∀k,(tk k).length=f.vars.toNat+k:=λk=>(by have:=tl k;omega);refine qV.of <| (qM.inv (.GY 4 [1] 3 [] (.ag [.int .i64 E.length,.qW,.int .i64 0]) .qW _ rfl rfl (.inl ⟨rfl,rfl⟩) rfl (.refl _ _)) (λk:Nat=>k<=f.nodes.length) (λk=>[(11,.int .i64 k),(7,.sl 1 ((tk k).map (.int .i64)) (.own 3))]) (λk=>[(5,.tok 3 k),(4,.box (.ag [.int .i64 E.length,.sl 3 (((f.nodes.take k).map λx=>(⟨x.kind,x.k,x.args.map ov⟩:Nd)).map Nd.av) (.own 5),.int .i64 0])),(3,.tok 1 (f.vars.toNat+k)),(2,.box f.av),(1,.box (.ag [.int .i64 0,.qW,.int .i64 0])),(0,.box m.av)]) (λk=>f.nodes.length-k) 0 (aO _) ?_ ?_ ?_);{exact λ_=>rfl}
 ·refine Zv wk ?_;repeat' first|exact Zq|apply aI
  all_goals first|(simp;omega)|skip
 intro k hk _;have hkl:((f.nodes.take k).map λx=>(⟨x.kind,x.k,x.args.map ov⟩:Nd)).length=k:=by rw[aC,bD];omega
 have tlk:=tl' k;refine ZS ?_ ?_<;>intro g
 ·have hlt:k<f.nodes.length:=(by simpa using g);have hst:(f.nodes.take (k+1)).map (λx=>(⟨x.kind,x.k,x.args.map ov⟩:Nd))=((f.nodes.take k).map λx=>(⟨x.kind,x.k,x.args.map ov⟩:Nd))++[⟨(f.nodes[k]).kind,(f.nodes[k]).k,(f.nodes[k]).args.map ov⟩]:=(by rw[bG hlt,aV];rfl);have hts:=ts k;have htg:=λa=>tg k a;have hnx:=h3 _ hlt;have hna:=hnx.args;have hnl:(f.nodes[k]).args.length<=16:=(by have hal:=hnx.num;split at hal;{omega};split at hal <;> omega);generalize tk k=to at *;refine ZW ?_;refine ZR ?_;refine rV hlt (ZW ?_);refine rV hlt (ZW ?_);generalize (f.nodes.take k).map (λx=>(⟨x.kind,x.k,x.args.map ov⟩:Nd))=out at *;generalize hx:f.nodes[k]=x at *;refine qV.of <| (qM.inv (.GY 6 [2] 1 [] (.ag [.int .i64 x.kind,.int .i64 x.k,.qW]) .qW _ rfl rfl (.inl ⟨rfl,rfl⟩) rfl (.refl _ _)) (λj:Nat=>j<=x.args.length) (λj=>[(13,.int .i64 j)]) (λj=>[(7,.tok 1 j),(6,.box (.ag [.int .i64 x.kind,.int .i64 x.k,.sl 1 (((x.args.take j).map ov).map (.int .i64)) (.own 7)])),(5,.tok 3 k),(4,.box (.ag [.int .i64 E.length,.sl 3 (out.map Nd.av) (.own 5),.int .i64 0])),(3,.tok 1 (f.vars.toNat+k)),(2,.box f.av),(1,.box (.ag [.int .i64 0,.qW,.int .i64 0])),(0,.box m.av)]) (λj=>x.args.length-j) 0 (aO _) ?_ ?_ ?_);{exact λ_=>rfl};{exact ZV};intro j hj _;have htl:((x.args.take j).map ov).length=j:=(by rw[aC,bD];omega);refine ZW ?_;refine rV hlt ?_;rw[hx];refine ZS ?_ ?_<;>intro g3
  ·have hjl:j<x.args.length:=(by simpa using g3);have ha:=hna _ (aQ hjl);have ht1:(x.args.take (j+1)).map ov=(x.args.take j).map ov++[ov x.args[j]]:=(by rw[bG hjl,aV];rfl);refine ZW ?_;refine ZR ?_;refine rV hlt ?_;rw[hx];refine ZW ?_;refine rV hjl ?_;generalize x.args[j]=a at *;generalize (x.args.take j).map ov=al at *;refine ZW ?_;refine sK 0 ⟨aj,aj⟩ ?_;rw[htg a ha.1 aj];conv=>whnf
   refine⟨by rw[aC,htl],.mk (by simp[maxL];omega) aA (ZW ?_)⟩;refine ZG ?_;refine⟨j+1,?_,?_,?_⟩;{exact hjl}
   ·rw[ht1];refine Zv wk ?_;repeat' first|exact Zq|apply aI
    all_goals first|(simp;done)|(simp;omega)|(show sS _ (List.map _ (_++[_]));rw[aV];exact qU _)|skip
   omega
  have hjl:j=x.args.length:=(by(have:¬j<x.args.length:=by simpa using g3);omega);subst hjl;rw[bg];refine ZW ?_;refine⟨rQ aj aj,ZW ?_⟩;refine⟨aA,?_⟩
  (refine⟨by simp[maxL] <;> omega,by simp <;> omega,?_⟩;(conv=>whnf))
  refine⟨by rw[aC,hkl],.mk (by simp[maxL];omega) aA (ZW ?_)⟩;refine ZG ?_;refine⟨k+1,?_,?_,?_⟩;{exact hlt}
  ·rw[hst,hts];refine Zv ?_ ?_
   ·repeat' first|exact Zq|apply aI
    all_goals first|(show sS _ (List.map _ (_++[_]));rw[aV];exact qU _)|skip
   repeat' first|exact Zq|apply aI
   all_goals first|(simp;done)|(simp;omega)|(show sS _ (List.map _ (_++[_]));rw[aV];exact qU _)|skip
  omega
 have hk:k=f.nodes.length:=(by(have:¬k<f.nodes.length:=by simpa using g);omega);subst hk;rw[bg];refine ZW ?_;refine sK 0 ⟨aj,aj⟩ ?_;rw[tg _ _ h4.1 aj];refine ZW ?_;exact ZX
theorem a6N(a b:List Str)(ha:a.length<=1000000)(_:b.length<=1000000):ZQ 34 [sL a,sL b] [] (.bool (decide (a=b))) []:=by generalize hB:decide (a=b)=B;refine ZN Tryz.func34 λhok=>?_;constructor<;>intro g;{have hne:a≠b:=λe=>g (by rw[e]);obtain rfl:B=false:=(by rw[<- hB];exact bK hne);refine ZW ?_;exact ZX};have hl:a.length=b.length:=(by simp at g;omega);refine ZW ?_;refine qV.of <| (qM.inv (.refl _ _) (λi:Nat=>i<=a.length/\a.take i=b.take i) (λi=>[(13,.int .i64 (i:Int))]) (λ_=>[]) (λi=>a.length-i) 0 ⟨aO _,ak⟩ ?_ ?_ ?_);{exact λ_=>rfl};{exact ZV};rintro i ⟨hi,hall⟩ _;refine ZS ?_ ?_<;>intro k1;{have hlt:i<a.length:=(by simpa using k1);have hlt2:i<b.length:=aj;have s1:a.take (i+1)=a.take i++[a[i]]:=(by rw[eP,aH hlt];rfl);have s2:b.take (i+1)=b.take i++[b[i]]:=(by rw[eP,aH hlt2];rfl);have hin:a[i]≠b[i]->B=false:=λh=>(by rw[<- hB];exact bK λe=>h (by simp[e]));refine ZW ?_;refine ZR ?_;refine rV hlt (ZW ?_);refine rV hlt2 ?_;refine ZS ?_ ?_<;>intro k2;{obtain rfl:=hin k2;refine ZW ?_;exact ZX};refine ZW ?_;refine ZG ?_;refine⟨i+1,?_,?_,?_⟩;{refine⟨hlt,?_⟩;rw[s1,s2,hall,ji.1 k2]};{exact ZV};omega};have hk:¬i<a.length:=(by simpa using k1);have he:a=b:=(by rw[bf aj,bf aj]at hall;exact hall);obtain rfl:B=true:=(by rw[<- hB];exact dQ he);refine ZW ?_;exact ZX
def AtT(m:Md)(s:Str):Tg->Prop
 | .ev x=>∃(i:Nat) (h:i<m.evs.length),uF m (-1) s=(0,0,(i:Int))/\m.evs[i]=x
 | .hs x=>∃(i:Nat) (h:i<m.hs.length),uF m (-1) s=(1,0,(i:Int))/\m.hs[i]=x
 | .gt x=>∃(i:Nat) (h:i<m.gates.length),uF m (-1) s=(2,-1,(i:Int))/\m.gates[i]=x
theorem a4t(m n:Md)(s:Str)(hs:Ed s=false)(x y:Ev)(hx:AtT m s (.ev x))(hy:AtT n s (.ev y))(b:Bool)(hb:b=true↔¬BK (.ev x) (.ev y)):ZQ 37 [m.av,n.av,.str s] [] (.bool b) []:=by
 have ca:=BZ m (-1) s (.inl rfl) hs;have cb:=BZ n (-1) s (.inl rfl) hs;obtain⟨i,hi,e1,e2⟩:=hx;obtain⟨j,hj,e3,e4⟩:=hy;rw[e1]at ca;rw[e3]at cb;have c1:=QE x.p y.p;have c2:=QE x.fail y.fail;have c3:=QE x.repair y.repair;unfold BK at hb;have ca:ZQ 71 [m.av,.int .i64 (-1),.str s] [] (.uf [.int .i64 0,.int .i64 0,.int .i64 (i:Int)]) []:=ca;have cb:ZQ 71 [n.av,.int .i64 (-1),.str s] [] (.uf [.int .i64 0,.int .i64 0,.int .i64 (j:Int)]) []:=cb;refine ZN Tryz.func37 λhok=>?_;refine .zW ca ?_;refine .zW cb ?_;refine aP (λg=>absurd rfl g) (λ_=>ZW ?_);refine aP (λ_=>?_) (λg=>absurd rfl g);refine ZW ?_;refine wX.Xe [0,1] ?_;conv=>whnf
 refine aP ⟨rfl,rfl⟩ ?_;conv=>whnf
 refine aP ⟨rfl,rfl⟩ ?_;conv=>whnf
 refine⟨[true,true,true,true,true,true,true,true,true,true,false,false,false,false],by kernel_rfl,?_⟩;conv=>whnf
 refine rV hi ?_;rw[e2];refine ZW ?_;refine rV hj ?_;rw[e4];clear e1 e2 e3 e4;obtain⟨nx,xp,xf,xr,xc⟩:=x;obtain⟨ny,yp,yf,yr,yc⟩:=y;dsimp only at *;refine ZW ?_;by_cases f1:xp=yp;case neg =>
  obtain rfl:b=true:=hb.2 λh=>f1 (by simp[h]);refine .zW (c1.weak (R':=.ff) (by show decide _=false;exact bK f1)) ?_;exact ZX
 refine .zW (c1.weak (R':=.tt) (by show decide _=true;exact dQ f1)) ?_;by_cases f2:xf=yf;case neg =>
  obtain rfl:b=true:=hb.2 λh=>f2 (by simp[h]);refine .zW (c2.weak (R':=.ff) (by show decide _=false;exact bK f2)) ?_;exact ZX
 refine .zW (c2.weak (R':=.tt) (by show decide _=true;exact dQ f2)) ?_;by_cases f3:xr=yr;case neg =>
  obtain rfl:b=true:=hb.2 λh=>f3 (by simp[h]);refine .zW (c3.weak (R':=.ff) (by show decide _=false;exact bK f3)) ?_;exact ZX
 refine .zW (c3.weak (R':=.tt) (by show decide _=true;exact dQ f3)) ?_;refine ZE ?_ ?_
 ·repeat' first|exact Zq|apply aI
  all_goals (show _↔_;rw[hb];simp[f1,f2,f3])
 exact wk
theorem a4r(m n:Md)(s:Str)(hs:Ed s=false)(x y:Hs)(hx:AtT m s (.hs x))(hy:AtT n s (.hs y))(b:Bool)(hb:b=true↔¬BK (.hs x) (.hs y)):ZQ 37 [m.av,n.av,.str s] [] (.bool b) []:=by
 have ca:=BZ m (-1) s (.inl rfl) hs;have cb:=BZ n (-1) s (.inl rfl) hs;obtain⟨i,hi,e1,e2⟩:=hx;obtain⟨j,hj,e3,e4⟩:=hy;rw[e1]at ca;rw[e3]at cb;unfold BK at hb;have ca:ZQ 71 [m.av,.int .i64 (-1),.str s] [] (.uf [.int .i64 1,.int .i64 0,.int .i64 (i:Int)]) []:=ca;have cb:ZQ 71 [n.av,.int .i64 (-1),.str s] [] (.uf [.int .i64 1,.int .i64 0,.int .i64 (j:Int)]) []:=cb;refine ZN Tryz.func37 λhok=>?_;refine .zW ca ?_;refine .zW cb ?_;refine aP (λg=>absurd rfl g) (λ_=>ZW ?_);refine aP (λg=>absurd g au) (λ_=>ZW ?_);refine aP (λ_=>?_) (λg=>absurd rfl g);refine ZW ?_;refine ZR ?_;refine rV hi ?_;rw[e2];refine ZW ?_;refine rV hj ?_;rw[e4];clear e1 e2 e3 e4;obtain⟨nx,xo⟩:=x;obtain⟨ny,yo⟩:=y;dsimp only at *;refine ZW ?_;refine ZE ?_ ?_
 ·repeat' first|exact Zq|apply aI
  all_goals (show _↔_;rw[hb])
 exact wk
theorem a4s(m n:Md)(s:Str)(hs:Ed s=false)(x y:Mg)(hx:AtT m s (.gt x))(hy:AtT n s (.gt y))(lx:x.ins.length<=1000000)(ly:y.ins.length<=1000000)(b:Bool)(hb:b=true↔¬BK (.gt x) (.gt y)):ZQ 37 [m.av,n.av,.str s] [] (.bool b) []:=by
 have ca:=BZ m (-1) s (.inl rfl) hs;have cb:=BZ n (-1) s (.inl rfl) hs;obtain⟨i,hi,e1,e2⟩:=hx;obtain⟨j,hj,e3,e4⟩:=hy;rw[e1]at ca;rw[e3]at cb;have c1:=a6N x.ins y.ins lx ly;have c2:=QE x.y5 y.y5;unfold BK at hb;have ca:ZQ 71 [m.av,.int .i64 (-1),.str s] [] (.uf [.int .i64 2,.int .i64 (-1),.int .i64 (i:Int)]) []:=ca;have cb:ZQ 71 [n.av,.int .i64 (-1),.str s] [] (.uf [.int .i64 2,.int .i64 (-1),.int .i64 (j:Int)]) []:=cb;refine ZN Tryz.func37 λhok=>?_;refine .zW ca ?_;refine .zW cb ?_;refine aP (λg=>absurd rfl g) (λ_=>ZW ?_);refine aP (λg=>absurd g au) (λ_=>ZW ?_);refine aP (λg=>absurd g au) (λ_=>ZW ?_);refine wX.Xe [0,1] ?_;conv=>whnf
 refine aP ⟨rfl,rfl⟩ ?_;conv=>whnf
 refine aP ⟨rfl,rfl⟩ ?_;conv=>whnf
 refine⟨[true,true,true,true,true,true,true,true,true,true,false,false,false,false],by kernel_rfl,?_⟩;conv=>whnf
 refine rV hi ?_;rw[e2];refine ZW ?_;refine rV hj ?_;rw[e4];clear e1 e2 e3 e4;obtain⟨nx,xk,xn,xi,xd⟩:=x;obtain⟨ny,yk,yn,yi,yd⟩:=y;dsimp only at *;refine ZS ?_ ?_<;>intro g;{obtain rfl:b=true:=hb.2 λh=>g h.1;refine ZW ?_;exact ZX};have g:=ji.1 g;refine ZS ?_ ?_<;>intro g2;{obtain rfl:b=true:=hb.2 λh=>g2 h.2.1;refine ZW ?_;exact ZX};have g2:=ji.1 g2;refine ZW ?_;by_cases f1:xi=yi;case neg =>
  obtain rfl:b=true:=hb.2 λh=>f1 (by simp[h]);refine .zW (c1.weak (R':=.ff) (by show decide _=false;exact bK f1)) ?_;exact ZX
 refine .zW (c1.weak (R':=.tt) (by show decide _=true;exact dQ f1)) ?_;refine .zW c2 ?_;refine ZE ?_ ?_
 ·repeat' first|exact Zq|apply aI
  have e:(!decide (xd=yd))=b:=(by have g':xk=yk:=g;have g2':xn=yn:=g2;rw[jl,hb];simp[g',g2',f1]);rw[e];exact rfl
 exact wk
theorem Gv(m n:Md)(s:Str)(hs:Ed s=false)(k p i k' p' i':Int)(e1:uF m (-1) s=(k,p,i))(e2:uF n (-1) s=(k',p',i'))(hk:k≠k'):ZQ 37 [m.av,n.av,.str s] [] (.bool true) []:=by have ca:=BZ m (-1) s (.inl rfl) hs;have cb:=BZ n (-1) s (.inl rfl) hs;rw[e1]at ca;rw[e2]at cb;have ca:ZQ 71 [m.av,.int .i64 (-1),.str s] [] (.uf [.int .i64 k,.int .i64 p,.int .i64 i]) []:=ca;have cb:ZQ 71 [n.av,.int .i64 (-1),.str s] [] (.uf [.int .i64 k',.int .i64 p',.int .i64 i']) []:=cb;refine ZN Tryz.func37 λhok=>?_;refine .zW ca ?_;refine .zW cb ?_;refine aP (λ_=>?_) (λg=>absurd hk g);refine ZW ?_;exact ZX
theorem a9Z(m n:Md)(s:Str)(hs:Ed s=false)(x y:Tg)(hx:AtT m s x)(hy:AtT n s y)(ox:b0n x)(oy:b0n y)(b:Bool)(hb:b=true↔¬BK x y):ZQ 37 [m.av,n.av,.str s] [] (.bool b) []:=by
 have hf:¬BK x y->b=true:=λh=>hb.2 h;cases x with
 | ev x=>cases y with
   |ev y=>exact a4t m n s hs x y hx hy b hb
   |hs y=>obtain⟨i,_,e1,_⟩:=hx;obtain⟨j,_,e2,_⟩:=hy;rw[hf id];exact Gv m n s hs _ _ _ _ _ _ e1 e2 au
   |gt y=>obtain⟨i,_,e1,_⟩:=hx;obtain⟨j,_,e2,_⟩:=hy;rw[hf id];exact Gv m n s hs _ _ _ _ _ _ e1 e2 au
 | hs x=>cases y with
   |ev y=>obtain⟨i,_,e1,_⟩:=hx;obtain⟨j,_,e2,_⟩:=hy;rw[hf id];exact Gv m n s hs _ _ _ _ _ _ e1 e2 au
   |hs y=>exact a4r m n s hs x y hx hy b hb
   |gt y=>obtain⟨i,_,e1,_⟩:=hx;obtain⟨j,_,e2,_⟩:=hy;rw[hf id];exact Gv m n s hs _ _ _ _ _ _ e1 e2 au
 | gt x=>cases y with
   |ev y=>obtain⟨i,_,e1,_⟩:=hx;obtain⟨j,_,e2,_⟩:=hy;rw[hf id];exact Gv m n s hs _ _ _ _ _ _ e1 e2 au
   |hs y=>obtain⟨i,_,e1,_⟩:=hx;obtain⟨j,_,e2,_⟩:=hy;rw[hf id];exact Gv m n s hs _ _ _ _ _ _ e1 e2 au
   |gt y=>exact a4s m n s hs x y hx hy ox.2 oy.2 b hb
abbrev SS(l:List Str):Prop:=l.Pairwise (· < ·)
theorem b5m{x y:Str}:Op.bytesLess x y=true↔x<y:=by rw[Go.Proofs.bytesLess_eq,gW]
theorem SS.nodup{l:List Str}(h:SS l):l.Nodup:=h.imp λh e=>by subst e;exact List.lt_irrefl _ h
theorem SS.ext{l m:List Str}(h:SS l)(h':SS m)(e:∀x,x∈l↔x∈m):l=m:=by have hp:l.Perm m:=(List.perm_ext_iff_of_nodup h.nodup h'.nodup).2 e;exact List.Perm.eq_of_pairwise (le:=λa b=>a<=b) (λa b _ _ h1 h2=>lM h1 h2) (h.imp λh=>List.le_of_lt h) (h'.imp λh=>List.le_of_lt h) hp
theorem a5d{x y:Str}(h:¬x<y)(hn:x≠y):y<x:=by rcases List.le_total x y with h1|h1;{exfalso;exact hn (lM h1 (List.not_lt.1 h))};apply aU;intro h2;exact hn (lM (List.not_lt.1 h2) h1)
theorem YH{s x:Str}{l:List Str}(h:x<s):RP s (x::l)=RP s l+1:=aG (b5m.2 h)
theorem NY{s x:Str}{l:List Str}(h:¬x<s):RP s (x::l)=0:=aB (λg=>h (b5m.1 g))
theorem ZP{x s:Str}{l:List Str}(h:x<s):wI (x::l) s=x::wI l s:=by unfold wI;rw[YH h];simp only[dV,jo,nP];split <;> simp
theorem WY(s:Str):∀(l:List Str) (x:Str),x∈wI l s↔x∈l\/x=s
 | [],x=>by simp[wI,RP]
 |y::l,x=>by by_cases h:y<s;{rw[ZP h,aT,WY s l x,aT,or_assoc]};unfold wI;rw[NY h];simp only[dZ,jO,fD,eG];split;{rename_i e;obtain rfl:=aW e;constructor;{exact .inl};rintro(h|rfl);{exact h};exact dD};show x∈s::(y::l)↔_;rw[aT,or_comm]
theorem a5X(s:Str):∀{l:List Str},SS l->SS (wI l s)
 | [],_=>by simp[wI,RP]
 |y::l,hs=>by rw[SS,fB]at hs;by_cases h:y<s;{rw[ZP h,SS,fB];refine⟨λz hz=>?_,a5X s hs.2⟩;rcases(WY s l z).1 hz with hz|rfl;{exact hs.1 z hz};exact h};unfold wI;rw[NY h];simp only[dZ,jO,fD,eG];split;{rw[SS,fB];exact hs};rename_i e;have hlt:s<y:=a5d h λg=>e (by rw[g]);show SS (s::(y::l));rw[SS,fB];refine⟨λz hz=>?_,by rw[fB];exact hs⟩;rcases aT.1 hz with rfl|hz;{exact hlt};exact List.lt_trans hlt (hs.1 z hz)
theorem Nk:∀(m:List Str) {l:List Str},SS l->SS (m.foldl wI l)
 | [],_,h=>h
 |x::m,_,h=>Nk m (a5X x h)
theorem Jc:∀(m l:List Str) (x:Str),x∈m.foldl wI l↔x∈l\/x∈m
 | [],l,x=>ak
 |y::m,l,x=>by rw[dY,Jc m,WY,aT,or_assoc]
theorem b2w(a b:Md):SS (AU a b):=Nk _ (Nk _ List.Pairwise.nil)
theorem LD(a b:Md)(x:Str):x∈AU a b↔x∈CP a\/x∈CP b:=by unfold AU;rw[Jc,Jc];simp
theorem a7G(m:Md):SS (Gg m):=Nk _ (Nk _ (Nk _ List.Pairwise.nil))
theorem Jp(m:Md)(x:Str):x∈Gg m↔x∈(zy m).map (·.1):=by unfold Gg;rw[Jc,Jc,Jc];simp[zy,thE,thH,thG,or_assoc]
theorem MO(l:List Str)(x:Str):x∈sortL l↔x∈l:=(nN l _).mem_iff
theorem VK(l:List Str):(sortL l).Pairwise (· <= ·):=by have:=List.pairwise_mergeSort (le:=λx y:Str=>decide (x<=y)) (λa b c h1 h2=>by simp only[bW]at *;exact List.le_trans h1 h2) (λa b=>by simp only[gG,bW];exact List.le_total a b) l;exact this.imp λh=>eu h
theorem lt_of_le_ne{x y:Str}(h:x<=y)(hn:x≠y):x<y:=by apply aU;intro g;exact hn (lM h (List.not_lt.1 g))
theorem a2c{l:List Str}(h:l.Nodup):SS (sortL l):=by have h1:=VK l;have h2:(sortL l).Nodup:=(nN l _).nodup_iff.2 h;exact(h1.and h2).imp fun⟨a,b⟩=>lt_of_le_ne a b
theorem Xy(l:List Str):∀m,(hm:m<=l.length)->l.Pairwise (· <= ·)->SS (Go.Lib.compactUpTo l.toArray m)/\(∀x,x∈Go.Lib.compactUpTo l.toArray m↔x∈l.take m)
 | 0,_,_=>by simp[Go.Lib.compactUpTo]
 | m+1,hm,hl=>by
   obtain⟨h1,h2⟩:=Xy l m aj hl;have hml:m<l.length:=aj;have hg:l.toArray[m]! = l[m]:=(by simp[hml]);have ht:l.take (m+1)=l.take m++[l[m]]:=bG hml;rw[Go.Lib.compactUpTo_succ,hg];have hle:∀x∈l.take m,x<=l[m]:=by
    intro x hx;have:(l.take m++[l[m]]).Pairwise (· <= ·):=by rw[<- ht];exact hl.sublist (List.take_sublist _ _)
    exact(nH.1 this).2.2 x hx _ ak
   cases hk:Go.Lib.keeps l.toArray m with
   | true =>
     rw[aG rfl];refine⟨nH.2 ⟨h1,ak,λx hx y hy=>?_⟩,λx=>by rw[ht,dM,dM,h2]⟩;obtain rfl:y=l[m]:=(by simpa using hy);have hx':=(h2 x).1 hx;refine lt_of_le_ne (hle x hx') λe=>?_;unfold Go.Lib.keeps at hk;have hk:=eu hk;rcases hk with rfl|hk;{simp at hx'};cases m with
     |zero=>simp at hx'
     |succ m =>rw[hg,Nat.add_sub_cancel]at hk;have hm2:m<l.length:=aj;rw[show l.toArray[m]! = l[m] by simp[hm2]]at hk;have hp:=fP.1 hl;obtain⟨j,hj,e2⟩:=dX hx';rw[lI]at e2;rw[bD]at hj;have hjm:l[j]<=l[m]:=(by rcases jS j m with h|h;{exact hp j m aj hm2 h};obtain rfl:j=m:=aj;exact List.le_refl _);have h3:=hp m (m+1) hm2 hml aj;rw[e2,e]at hjm;exact hk (lM hjm h3)
   |false =>rw[aB ak,iT];refine⟨h1,λx=>?_⟩;rw[h2,ht,dM];constructor;{exact .inl};rintro(h|h);{exact h};obtain rfl:x=l[m]:=(by simpa using h);unfold Go.Lib.keeps at hk;have hk:=jR hk;have hm0:m≠0:=λe=>hk (.inl e);have e:l[m]=l.toArray[m-1]!:=(by apply aU;intro g;exact hk (.inr (by rw[hg];exact g)));rw[e,show l.toArray[m-1]! = l[m-1] by simp[show m-1<l.length by omega]];exact List.mem_take_iff_getElem.2 ⟨m-1,aj,rfl⟩
theorem b4Y{l:List Str}(h:l.Pairwise (· <= ·)):SS (Xz l):=(Xy l l.length (aS _) h).1
theorem b2H{l:List Str}(h:l.Pairwise (· <= ·))(x:Str):x∈Xz l↔x∈l:=by have:=(Xy l l.length (aS _) h).2 x;rwa[bg]at this
theorem b4S(a b:Md):Xz (sortL (CP a++CP b))=AU a b :=
 (b4Y (VK _)).ext (b2w a b) λx=>by rw[b2H (VK _),MO,LD,dM]
end S