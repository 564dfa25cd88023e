/-
  Contracts of functions of the program. Nothing is assumed.
-/
import Derived.Test.YtdkhmfabhfgemaaGreatT7
open Go Go.AL Go.Proofs
namespace S
set_option maxRecDepth 100000
structure IV(m:Md)(st:CS):Prop where
 len:st.nodes.length=st.es.length
 nd:(st.es.map (·.1)).Nodup
 ok:∀e∈st.es,RF m e.1/\e.1.1≠0
def univ(m:Md):List Node:=(List.range m.hs.length).map (fun(i:Nat)=>((1,0,(i:Int)):Node))++rE m
theorem a2e{m:Md}{x:Node}(h:RF m x)(h0:x.1≠0):x∈univ m:=by unfold univ;rw[dM];rcases h with h|h|h;{omega};{left;obtain⟨x1,x2,x3⟩:=x;obtain⟨rfl,rfl,h3,h4⟩:=h;rw[bg];dsimp only at h3 h4;exact⟨x3.toNat,by rw[iy];omega,by rw[fJ h3]⟩};exact .inr h
theorem Ef{α:Type} [DecidableEq α]:∀{l u:List α},l.Nodup->(∀x∈l,x∈u)->l.length<=u.length
 | [],_,_,_=>aP _
 |x::l,u,hn,hs=>by rw[lJ]at hn;have hx:=hs x ak;have:=Ef (u:=u.erase x) hn.2 λy hy=>(List.mem_erase_of_ne (λe=>hn.1 (by rw[<- e];exact hy))).2 (hs y (by simp[hy]));rw[List.length_erase_of_mem hx]at this;have:=List.length_pos_of_mem hx;simp only[dY];omega
theorem b3O{m:Md}(hB:KI m):(rE m).length<=10000:=by
 have key:∀(l:List Int),(∀a∈l,(qO m a).length<=100)->(l.flatMap (yR m)).length<=100*l.length:=by
  intro l;induction l with
  |nil=>intro _;simp
  | cons a l ih =>
    intro h;simp only[nS,bC,dY];have h1:=ih λb hb=>h b (by simp[hb]);have h2:=h a ak;have h3:(yR m a).length=(qO m a).length:=by simp[yR]
    omega
 have h1:=key (Bo m) λa _=>by
  unfold qO;split;{exact hB.gates.1};rw[aF];cases hp:m.pages[a.toNat]? with
  |none=>exact aP _
  |some p=>exact(hB.GI p (bP hp)).1
 rw[Nw]at h1;have:=hB.pages;unfold rE;omega
theorem IV.short{m:Md}(hB:KI m){st:CS}(h:IV m st):st.nodes.length<=20000:=by have:=Ef h.nd (u:=univ m) λx hx=>(by obtain⟨e,he,rfl⟩:=bg.1 hx;exact a2e (h.ok e he).1 (h.ok e he).2);rw[aC]at this;have h1:=b3O hB;have h2:=hB.hs;have:(univ m).length=m.hs.length+(rE m).length:=(by simp[univ]);rw[h.len];omega
theorem WE{x:Node}{v:Int}:∀{es:Marks},lookO es x=none->mark es x v=es++[(x,v)]/\x ∉ es.map (·.1)
 | [],_=>⟨rfl,ak⟩
 |(y,u)::es,h=>by simp only[lookO]at h;split at h;{cases h};rename_i hy;obtain⟨h1,h2⟩:=WE h;refine⟨?_,?_⟩;{simp only[mark,aB hy];rw[h1];rfl};simp only[dF,aU,not_or];exact⟨λe=>hy e.symm,h2⟩
theorem IV.push{m:Md}{st:CS}(h:IV m st){x:Node}(hx:RF m x)(h0:x.1≠0)(hn:lookO st.es x=none)(vars:Int)(nd:Nd):IV m (xM vars st x nd).2:=by obtain⟨h1,h2⟩:=WE (v:=vars+st.nodes.length) hn;refine⟨?_,?_,?_⟩;{show(st.nodes++[nd]).length=(mark _ _ _).length;rw[h1,bC,bC,h.len];rfl};{show((mark _ _ _).map (·.1)).Nodup;rw[h1,aV,fQ];refine⟨h.nd,ak,?_⟩;intro a ha b hb;simp at hb;subst hb;exact λe=>h2 (e ▸ ha)};show ∀e∈mark _ _ _,_;rw[h1];intro e he;rcases dM.1 he with he|he;{exact h.ok e he};simp at he;subst he;exact⟨hx,h0⟩
theorem QD{m:Md}(hc:AQ m){rank:Node->Nat}(hr:QX m rank)(vars:Int):∀(n:Nat) (x:Node) (st:CS),RF m x->IV m st ->
  IV m (sF m vars n x st).2/\∀z:Node,z.1=2->(x.1=2->rank x<rank z)->lookO st.es z=none->lookO (sF m vars n x st).2.es z=none
 | 0,_,_,_,h=>⟨h,λ_ _ _ h=>h⟩
 | n+1,x,st,hx,h=>by
   have push:∀{s:CS} (nd:Nd),IV m s->x.1≠0->lookO s.es x=none->(∀z:Node,z.1=2->(x.1=2->rank x<rank z)->lookO st.es z=none->lookO s.es z=none) ->
     IV m (xM vars s x nd).2/\∀z:Node,z.1=2->(x.1=2->rank x<rank z)->lookO st.es z=none->lookO (xM vars s x nd).2.es z=none:=by
    intro s nd h1 h2 h3 h4;refine⟨h1.push hx h2 h3 vars nd,λz hz hxz hs=>?_⟩;show lookO (mark s.es x _) z=none;rw[CQ,aB];{exact h4 z hz hxz hs};rintro rfl;have:=hxz hz;omega
   unfold sF;split;{exact⟨h,λ_ _ _ h=>h⟩};rename_i h0;split;{exact⟨h,λ_ _ _ h=>h⟩};rename_i hn;split;{exact push _ h h0 hn λ_ _ _ h=>h};rename_i h1;split;{exact⟨h,λ_ _ _ h=>h⟩};have h2:x.1=2:=by rcases hx with h|h|h;{omega};{omega};exact(uN.1 h).1
   have hk:=(yL hc hx h2).2
   have key:∀(l:List Node) (s:CS) (acc:List Int),(∀y∈l,RF m y/\(y.1=2->rank y<rank x))->IV m s->IV m (wB (sF m vars n) l s acc).2 /\
     ∀z:Node,z.1=2->rank x<=rank z->lookO s.es z=none->lookO (wB (sF m vars n) l s acc).2.es z=none:=by
    intro l;induction l with
    |nil=>intro s acc _ h;exact⟨h,λ_ _ _ h=>h⟩
    |cons y l ih =>intro s acc hl h;unfold wB;obtain⟨hy,hyr⟩:=hl y ak;obtain⟨h',g'⟩:=QD hc hr vars n y s hy h;have g2:∀z:Node,z.1=2->rank x<=rank z->lookO s.es z=none->lookO (sF m vars n y s).2.es z=none:=λz hz hxz hs=>g' z hz (λe=>by have:=hyr e;omega) hs;split;{exact⟨h',g2⟩};obtain⟨i1,i2⟩:=ih (sF m vars n y s).2 (acc++[(sF m vars n y s).1.2]) (λz hz=>hl z (by simp[hz])) h';exact⟨i1,λz hz hxz hs=>i2 z hz hxz (g2 z hz hxz hs)⟩
   obtain⟨k1,k2⟩:=key (sZ m x) st [] (λy hy=>⟨hk y hy,hr x hx h2 y hy⟩) h;split;{exact⟨k1,λz hz hxz hs=>k2 z hz (by have:=hxz h2;omega) hs⟩};exact push _ k1 h0 (k2 x h2 (aT _) hn) λz hz hxz hs=>k2 z hz (by have:=hxz h2;omega) hs
structure KD(o:List Int)(n:Nat):Prop where
 len:o.length=n
 rng:∀x∈o,0<=x/\x<(n:Int)
 nd:o.Nodup
theorem KD.mem{o:List Int}{n:Nat}(h:KD o n){i:Int}(h0:0<=i)(h1:i<(n:Int)):i∈o:=by
 apply aS;intro hi;have:=Ef (l:=i::o) (u:=(List.range n).map (λk:Nat=>(k:Int))) (lJ.2 ⟨hi,h.nd⟩) (λx hx=>by
  have hr:0<=x/\x<(n:Int):=(by rcases aU.1 hx with rfl|hx;{exact⟨h0,h1⟩};exact h.rng x hx);exact bg.2 ⟨x.toNat,iy.2 aj,aj⟩)
 simp[h.len]at this;omega
def FZ(o:List Int):Nat->List Int
 | 0=>List.replicate o.length 0
 |k+1=>(FZ o k).set (o.getD k 0).toNat k
theorem AZ(o:List Int):∀k,(FZ o k).length=o.length
 | 0=>by simp[FZ]
 |k+1=>by simp[FZ,AZ o k]
theorem b2c{o:List Int}{n:Nat}(h:KD o n):∀(k:Nat),k<=n->∀(j:Nat),j<k->(FZ o k).getD (o.getD j 0).toNat 0=(j:Int):=by
 intro k;induction k with
 |zero=>intro _ j hj;omega
 | succ k ih =>
   intro hk j hj;have hlk:k<o.length:=by rw[h.len];omega
   have hlj:j<o.length:=(by rw[h.len];omega);have ek:o.getD k 0=o[k]:=(by rw[aF,aH hlk];rfl);have ej:o.getD j 0=o[j]:=(by rw[aF,aH hlj];rfl);have rk:=h.rng _ (aN hlk);have rj:=h.rng _ (aN hlj);show((FZ o k).set (o.getD k 0).toNat k).getD _ 0=_;rw[Ad (by rw[AZ,h.len,ek];omega)];split;{rename_i e;rw[ek,ej]at e;have e2:o[j]=o[k]:=aj;by_cases hjk:j=k;{rw[hjk]};exact absurd e2 (fO.1 h.nd j k hlj hlk aj)};rename_i e;have hjk:j≠k:=λe'=>e (by rw[e']);exact ih aj j aj
def Tb.new(o:List Int):Tb:=⟨o,FZ o o.length,[],[],[]⟩
theorem Wu{o:List Int}{n:Nat}(h:KD o n)(hn:n<=60):tJ (Tb.new o):=by have hl:=h.len;have at':=b2c h n (aT _);refine⟨by show o.length<=60;omega,AZ _ _,λk h0 h1=>?_,λi h0 h1=>?_,λk hk=>absurd hk (gW _),λx r=>?_,λc a b r hh=>by cases hh⟩;{have h1:k<(o.length:Int):=h1;have hlk:k.toNat<o.length:=aj;have ek:o.getD k.toNat 0=o[k.toNat]:=(by rw[aF,aH hlk];rfl);have rk:=h.rng _ (aN hlk);refine⟨?_,?_,?_⟩;{show 0<=o.getD k.toNat 0;rw[ek];exact rk.1};{show o.getD k.toNat 0<(o.length:Int);rw[ek,hl];exact rk.2};show(FZ o o.length).getD (o.getD k.toNat 0).toNat 0=k;rw[hl,at' k.toNat aj];omega};{have h1:i<(o.length:Int):=h1;obtain⟨k,hk,e⟩:=List.mem_iff_getElem.1 (h.mem h0 aj);have ek:o.getD k 0=i:=(by rw[aF,aH hk];exact e);have:=at' k aj;rw[ek]at this;have hp:(Tb.new o).pl i=(k:Int):=(by show(FZ o o.length).getD i.toNat 0=_;rw[hl];exact this);rw[hp];refine⟨aj,by show(k:Int)<(o.length:Int);omega,?_⟩;show o.getD (k:Int).toNat 0=i;rw[aO];exact ek};constructor;{intro hh;cases hh};rintro⟨k,hk,_⟩;exact absurd hk (gW _)
abbrev xN(o:List Int)(nd:AV):AV:=.ag [.sl 1 (o.map (.int .i64)) .no,.ms 0 0 o.length o.length 1,nd,.mp 1,.mp 2]
abbrev b7H(o:List Int)(p:List Int):Heap:=[(3,.box (xN o .qV)),(2,.tY Rh []),(1,.tY Rh []),(0,.arr 1 o.length (p.map (.int .i64)))]
abbrev hpN(o:List Int):Heap:=[(4,.tok 3 0),(3,.box (xN o (.sl 3 [] (.own 4)))),(2,.tY Rh []),(1,.tY Rh []),(0,.arr 1 o.length ((FZ o o.length).map (.int .i64)))]
theorem b29{o:List Int}{n:Nat}(h:KD o n)(hn:n<=60) :
  ZQ 57 [iL o] [] (.ptr 3 [] 0) (b7H o (FZ o o.length)):=by
 have hl:=h.len;refine ZN Tryz.func57 λhok=>?_;refine xG.mk ⟨[true,true,true,true,false,false,false,true,false,true],by kernel_rfl,?_⟩;conv=>whnf
 refine .pure (by simp[maxL];omega) aA ?_;refine⟨rfl,?_⟩;conv=>whnf
 rw[aC];refine⟨⟨aj,dQ _,by show(o.length:Int)*((8:Nat):Int)<=281474976710656;omega,aj⟩,.wr ?_⟩;rw[aO];conv=>whnf
 refine qW.of <| (qN.inv (.refl _ _) (λk:Nat=>k<=o.length) (λk=>[(17,.int .i64 k)]) (λk=>b7H o (FZ o k)) (λk=>o.length-k) 0 (aP _) ?_ ?_ ?_);{exact λ_=>rfl}
 ·refine Zv wk ?_;repeat' first|exact Zq|apply aI
  all_goals first|(show tV (List.replicate o.length _) (List.map _ (List.replicate o.length 0));rw[jM];exact qX _)|skip
 intro k hk _;have hpl:=AZ o k;refine ZS ?_ ?_<;>intro g
 ·have hlt:k<o.length:=(by simpa using g);have rk:=h.rng _ (aN hlt);have ek:o.getD k 0=o[k]:=(by rw[aF,aH hlt];rfl);have es:FZ o (k+1)=(FZ o k).set (o[k]).toNat k:=(by show(FZ o k).set (o.getD k 0).toNat k=_;rw[ek]);refine ZW ?_;refine sH hlt (ZW ?_);refine⟨⟨rk.1,aj⟩,ZW ?_⟩;refine⟨by rw[aC];omega,rfl,ZW ?_⟩;refine ZG ?_;refine⟨k+1,?_,?_,?_⟩;{exact hlt}
  ·rw[es];refine Zv wk ?_;repeat' first|exact Zq|apply aI
   all_goals first|(rw[bH,dP];exact qX _)|skip
  omega
 have hk:k=o.length:=(by(have:¬k<o.length:=by simpa using g);omega);subst hk;refine ZW ?_;exact ZX
theorem b1b{o:List Int}{n:Nat}(h:KD o n)(hn:n<=60):ZQ 57 [iL o] [] (.ptr 3 [] 0) (hpN o) :=
 qZ.cv (b29 h hn) (.FU 3 [2] 3 [] (xN o .qV) .qV _ rfl rfl (.inl ⟨rfl,rfl⟩) rfl (.refl _ _)) rfl
def Ic(d:List Bool)(args:List Int):List Bool:=args.foldl (λd a=>d.set a.toNat true) d
theorem MX:∀(args:List Int) (d:List Bool),(Ic d args).length=d.length
 | [],_=>rfl
 |a::l,d=>by show(Ic (d.set a.toNat true) l).length=_;rw[MX l];simp
theorem Gq{d:List Bool}{i j:Nat}:(d.set i true).getD j false=true↔d.getD j false=true\/(j<d.length/\i=j):=by rw[aF,aF,jY];by_cases h:i=j;{subst h;rw[aG rfl];by_cases hl:i<d.length;{rw[aG hl];simp[hl]};rw[aB hl];simp[hl]};rw[aB h];simp[h]
theorem Je:∀(args:List Int) (d:List Bool) (j:Nat),(Ic d args).getD j false=true↔d.getD j false=true\/(j<d.length/\∃a∈args,a.toNat=j)
 | [],d,j=>by simp[Ic]
 |a::l,d,j=>by show(Ic (d.set a.toNat true) l).getD j false=true↔_;rw[Je l,Gq];simp only[ni,aU];constructor;{rintro((h|⟨h1,h2⟩)|⟨h1,b,h2,h3⟩);{exact .inl h};{exact .inr ⟨h1,a,.inl rfl,h2⟩};exact .inr ⟨h1,b,.inr h2,h3⟩};rintro(h|⟨h1,b,rfl|h2,h3⟩);{exact .inl (.inl h)};{exact .inl (.inr ⟨h1,h3⟩)};exact .inr ⟨h1,b,h2,h3⟩
theorem WG{d:List Bool}{args:List Int}{j:Nat}(h:j<args.length):Ic d (args.take (j+1))=(Ic d (args.take j)).set args[j].toNat true:=by unfold Ic;rw[eG,aH h,gK];rfl
def argsAt(l:List Nd)(i:Nat):List Int:=(l.getD i default).args
def Jq(v:Nat)(l:List Nd)(top:Nat):Nat->List Bool
 | 0=>(List.replicate (v+l.length) false).set top true
 |k+1=>if(Jq v l top k).getD (v+(l.length-1-k)) false=true then Ic (Jq v l top k) (argsAt l (l.length-1-k))else Jq v l top k
def belF(v:Nat)(l:List Nd)(top:Nat):List Bool:=Jq v l top l.length
theorem Fb(v:Nat)(l:List Nd)(top:Nat):∀k,(Jq v l top k).length=v+l.length
 | 0=>by simp[Jq]
 |k+1=>by unfold Jq;split;{rw[MX,Fb]};exact Fb v l top k
inductive Bel(v:Nat)(l:List Nd)(top:Nat):Nat->Prop
 |root:Bel v l top top
 |step {i:Nat} {a:Int} (h:Bel v l top (v+i)) (hi:i<l.length) (ha:a∈argsAt l i):Bel v l top a.toNat
theorem a3t{v:Nat}{l:List Nd}{top:Nat}(ht:top<v+l.length)(hw:∀i<l.length,∀a∈argsAt l i,0<=a/\a<(v:Int)+i):∀k,k<=l.length ->
  (∀j,(Jq v l top k).getD j false=true->Bel v l top j)/\(Jq v l top k).getD top false=true /\
  ∀i,l.length<=i+k->i<l.length->(Jq v l top k).getD (v+i) false=true->∀a∈argsAt l i,(Jq v l top k).getD a.toNat false=true
 | 0,_=>by refine⟨λj h=>?_,?_,λi h1 h2=>aj⟩;{unfold Jq at h;rw[Gq]at h;rcases h with h|⟨_,rfl⟩;{rw[aF,eH]at h;split at h <;> cases h};exact .root};unfold Jq;rw[Gq];exact .inr ⟨by simpa using ht,rfl⟩
 |k+1,hk=>by obtain⟨h1,h2,h3⟩:=a3t ht hw k aj;have hl:=Fb v l top k;unfold Jq;split;{rename_i hm;refine⟨λj h=>?_,?_,λi g1 g2 g3 a ha=>?_⟩;{rw[Je]at h;rcases h with h|⟨_,a,ha,rfl⟩;{exact h1 j h};exact .step (h1 _ hm) aj ha};{rw[Je];exact .inl h2};rw[Je]at g3 ⊢;by_cases e:i=l.length-1-k;{subst e;have:=hw _ g2 a ha;exact .inr ⟨by rw[hl];omega,a,ha,rfl⟩};rcases g3 with g3|⟨_,b,hb,g4⟩;{exact .inl (h3 i aj g2 g3 a ha)};have:=hw _ aj b hb;omega};rename_i hm;refine⟨h1,h2,λi g1 g2 g3 a ha=>?_⟩;by_cases e:i=l.length-1-k;{subst e;exact absurd g3 hm};exact h3 i aj g2 g3 a ha
theorem X5{v:Nat}{l:List Nd}{top:Nat}(ht:top<v+l.length)(hw:∀i<l.length,∀a∈argsAt l i,0<=a/\a<(v:Int)+i)(j:Nat):(belF v l top).getD j false=true↔Bel v l top j:=by
 obtain⟨h1,h2,h3⟩:=a3t ht hw l.length (aT _);refine⟨h1 j,λh=>?_⟩;unfold belF;induction h with
 |root=>exact h2
 |step _ hi ha ih=>exact h3 _ aj hi ih _ ha
theorem Om.args{f:Fo}(h:Om f):∀i<f.nodes.length,∀a∈argsAt f.nodes i,0<=a/\a<(f.vars.toNat:Int)+i:=by intro i hi a ha;have hv:=h.vars;unfold argsAt at ha;rw[aF,aH hi]at ha;have:=(h.nodes i hi).args a ha;omega
theorem Jf{A:AV}(h:IY A (.bool true)):∀(d:List Bool) (i:Nat),tV ((d.map AV.bool).set i A) ((d.set i true).map AV.bool)
 | [],_=>trivial
 |_::_,0=>⟨h,qX _⟩
 |_::d,i+1=>⟨Qe _,Jf h d i⟩
theorem ZO{A:AV}(h:IY A (.bool true)):∀(n i:Nat),tV ((List.replicate n AV.ff).set i A) (((List.replicate n false).set i true).map AV.bool)
 | 0,_=>trivial
 |n+1,0=>⟨h,by
    show tV (List.replicate n AV.ff) ((List.replicate n false).map AV.bool);induction n with
    |zero=>trivial
    |succ n ih=>exact⟨rfl,ih⟩⟩
 |n+1,i+1=>⟨rfl,ZO h n i⟩
theorem a3o(f:Fo)(h:Om f):ZQ 186 [f.av] [] (.sl 1 ((belF f.vars.toNat f.nodes f.top.toNat).map .bool) .no) []:=by
 have hw:=h.args;obtain⟨h1,h2,h3,h4⟩:=h;have htn:f.top.toNat<f.vars.toNat+f.nodes.length:=aj;refine ZN Tryz.func186 λhok=>?_;refine⟨rW aA aA,ZW ?_⟩;refine⟨by refine⟨aj,aj,aA,aA⟩,?_⟩;refine .wr (ZW ?_);refine⟨⟨aj,aA⟩,ZW ?_⟩;refine⟨aA,rfl,ZW ?_⟩;refine⟨rW aA aA,ZW ?_⟩;refine qW.of <| qN.inv (.refl _ _) (λk:Nat=>k<=f.nodes.length) (λk=>[(4,.int .i64 ((f.nodes.length:Int)-1-k))]) (λk=>[(1,.arr 1 (f.vars+((f.nodes.map Nd.av).length:Int)).toNat ((Jq f.vars.toNat f.nodes f.top.toNat k).map .bool)),(0,.box f.av)]) (λk=>f.nodes.length-k) 0 ?_ (λ_=>rfl) ?_ ?_;{exact aP _}
 ·refine⟨?_,.mk ?_ ?_⟩
  ·repeat' first|exact Zq|apply aI
   all_goals (simp;done)
  ·repeat' first|exact Zq|apply aI
   all_goals (rw[bH,show(f.vars+((f.nodes.map Nd.av).length:Int)).toNat=f.vars.toNat+f.nodes.length by simp;omega];refine ZO ?_ _ _;first|exact rfl|(show _↔_;simp))
  exact⟨ak,ak,trivial⟩
 intro k hk _;have hbl:=Fb f.vars.toNat f.nodes f.top.toNat k;refine ZS ?_ ?_<;>intro g1
 ·have hlt:k<f.nodes.length:=aj;have hb1:Jq f.vars.toNat f.nodes f.top.toNat (k+1)=if(Jq f.vars.toNat f.nodes f.top.toNat k).getD (f.vars.toNat+(f.nodes.length-1-k)) false=true then Ic (Jq f.vars.toNat f.nodes f.top.toNat k) (argsAt f.nodes (f.nodes.length-1-k))else Jq f.vars.toNat f.nodes f.top.toNat k:=rfl;have hai:=hw (f.nodes.length-1-k) aj;have hia:f.nodes.length-1-k<f.nodes.length:=aj;have hae:argsAt f.nodes (f.nodes.length-1-k)=(f.nodes[f.nodes.length-1-k]).args:=(by unfold argsAt;rw[aF,aH hia];rfl);rw[hae]at hb1 hai;have hnl:(f.nodes[f.nodes.length-1-k]).args.length<=16:=(by have hal:=(h3 _ hia).num;split at hal;{omega};split at hal <;> omega);generalize Jq f.vars.toNat f.nodes f.top.toNat k=d at *;rw[show(f.nodes.length:Int)-1-k=((f.nodes.length-1-k:Nat):Int) by omega];refine ZW ?_;refine⟨rW aj aj,ZW ?_⟩;refine⟨⟨aj,aA⟩,ZW ?_⟩;rw[show 0+(f.vars+((f.nodes.length-1-k:Nat):Int)).toNat=f.vars.toNat+(f.nodes.length-1-k) by omega];refine ug false aA (ZW ?_);refine⟨rfl,?_⟩;refine ZS ?_ ?_<;>intro g2
  ·rw[aO]at g2;rw[aG g2]at hb1;refine ZW ?_;refine sH hia ?_;generalize f.nodes[f.nodes.length-1-k]=x at *;refine ZW ?_;refine qW.of <| qN.inv (.refl _ _) (λj:Nat=>j<=x.args.length) (λj=>[(40,.int .i64 j)]) (λj=>[(1,.arr 1 (f.vars+((f.nodes.map Nd.av).length:Int)).toNat ((Ic d (x.args.take j)).map .bool)),(0,.box f.av)]) (λj=>x.args.length-j) 0 ?_ (λ_=>rfl) ?_ ?_;{exact aP _};{refine⟨?_,.mk ?_ ?_⟩;{exact wk};{exact wk};exact⟨ak,ak,trivial⟩};intro j hj _;have hml:=MX (x.args.take j) d;refine ZS ?_ ?_<;>intro g3
   ·have hjl:j<x.args.length:=(by simpa using g3);have hmt:=WG (d:=d) hjl;have ha:=hai _ (aN hjl);refine ZW ?_;refine sH hjl ?_;generalize x.args[j]=a at *;refine ZW ?_;refine⟨⟨aj,aA⟩,ZW ?_⟩;refine⟨aA,rfl,ZW ?_⟩;refine ZG ?_;refine⟨j+1,?_,?_,?_⟩;{exact hjl}
    ·rw[hmt];refine⟨?_,.mk ?_ ?_⟩;{exact wk}
     ·repeat' first|exact Zq|apply aI
      all_goals (rw[bH];refine Jf ?_ _ _;first|exact rfl|(show _↔_;simp))
     exact⟨ak,ak,trivial⟩
    omega
   have hjl:j=x.args.length:=(by(have:¬j<x.args.length:=by simpa using g3);omega);subst hjl;clear g3;rw[bn,<- hb1];refine ZW ?_;refine⟨rW aj aj,ZW ?_⟩;refine⟨k+1,?_,?_,?_⟩;{exact hlt}
   ·refine⟨?_,.mk ?_ ?_⟩
    ·repeat' first|exact Zq|apply aI
     all_goals (push_cast;omega)
    ·exact wk
    exact⟨ak,ak,trivial⟩
   omega
  rw[aO]at g2;rw[aB (by rw[g2];simp)]at hb1;rw[<- hb1];refine ZW ?_;refine⟨rW aj aj,ZW ?_⟩;refine⟨k+1,?_,?_,?_⟩;{exact hlt}
  ·refine⟨?_,.mk ?_ ?_⟩
   ·repeat' first|exact Zq|apply aI
    all_goals (push_cast;omega)
   ·exact wk
   exact⟨ak,ak,trivial⟩
  omega
 have hkl:k=f.nodes.length:=aj;subst hkl;refine ZW ?_;refine⟨⟨_,_,.keep 2 1 _ _ _ _ rfl rfl ?_ (.refl _ _),?_⟩⟩;{have:=Fb f.vars.toNat f.nodes f.top.toNat f.nodes.length;simp[this];omega};conv=>whnf
 refine Zx ?_ ?_
 ·repeat' first|exact Zq|apply aI
  all_goals (refine qY ?_;rw[bf (by rw[aC,Fb];simp;omega)];rfl)
 exact wk
def Eb(v:Nat)(l:List Nd)(d:List Bool)(n:Nat):Nat×Nat:=(List.range n).foldl (λp i=>if d.getD (v+i) false=true then(p.1+1,p.2+(argsAt l i).length)else p) (0,0)
theorem VJ(v:Nat)(l:List Nd)(d:List Bool)(n:Nat):Eb v l d (n+1)=if d.getD (v+n) false=true then((Eb v l d n).1+1,(Eb v l d n).2+(argsAt l n).length)else Eb v l d n:=by unfold Eb;rw[ng,gK];rfl
theorem b3v(f:Fo)(h:Om f):ZQ 112 [f.av] [] (.uy [.int .i64 (Eb f.vars.toNat f.nodes (belF f.vars.toNat f.nodes f.top.toNat) f.nodes.length).1,.int .i64 (Eb f.vars.toNat f.nodes (belF f.vars.toNat f.nodes f.top.toNat) f.nodes.length).2,.vK]) []:=by
 have cc:=QK f h;have cb:=a3o f h;have hbl:(belF f.vars.toNat f.nodes f.top.toNat).length=f.vars.toNat+f.nodes.length:=Fb _ _ _ _;obtain⟨h1,h2,h3,h4⟩:=h;generalize belF f.vars.toNat f.nodes f.top.toNat=d at *;refine ZN Tryz.func112 λhok=>?_;refine .zW cc ?_;refine ZR ?_;refine .zW cb ?_;have hle:((d.map AV.bool).drop f.vars.toNat).take (((d.map AV.bool).length:Int).toNat-f.vars.toNat)=(d.drop f.vars.toNat).map AV.bool:=(by rw[<- mO,<- gX,bf ak]);refine b1C.mk ⟨aA,?_⟩;rw[hle];refine ZW ?_;have hdl:(d.drop f.vars.toNat).length=f.nodes.length:=(by rw[iD];omega);refine qW.of <| qN.inv (.refl _ _) (fun(i:Nat)=>i<=f.nodes.length/\(Eb f.vars.toNat f.nodes d i).1<=i/\(Eb f.vars.toNat f.nodes d i).2<=16*i) (fun(i:Nat)=>[(19,.int .i64 i),(2,.int .i64 (Eb f.vars.toNat f.nodes d i).1),(3,.int .i64 (Eb f.vars.toNat f.nodes d i).2)]) (λ_=>_) (fun(i:Nat)=>f.nodes.length-i) 0 ?_ (λ_=>rfl) ?_ ?_;{exact⟨aP _,aT _,aT _⟩};{exact wk};rintro i ⟨hi,hs1,hs2⟩ _;refine ZS ?_ ?_<;>intro g1
 ·have hil:i<f.nodes.length:=(by simp at g1;omega);have hsn:=VJ f.vars.toNat f.nodes d i;have hae:argsAt f.nodes i=(f.nodes[i]).args:=(by unfold argsAt;rw[aF,aH hil];rfl);rw[hae]at hsn;have hnl:(f.nodes[i]).args.length<=16:=(by have hal:=(h3 _ hil).num;split at hal;{omega};split at hal <;> omega);refine ZW ?_;refine ug false aj ?_;rw[show(d.drop f.vars.toNat).getD ((i:Nat):Int).toNat false=d.getD (f.vars.toNat+i) false by rw[aO,aF,aF,iC]];generalize Eb f.vars.toNat f.nodes d i=p at *;refine ZS ?_ ?_<;>intro g2
  ·rw[aG g2]at hsn;refine ZW ?_;refine ZG ?_;refine ZW ?_;refine sH hil ?_;generalize f.nodes[i]=x at *;refine ZW ?_;refine⟨rW aA aA,ZW ?_⟩;refine ZG ?_;refine⟨i+1,?_,?_,?_⟩;{rw[hsn];exact⟨hil,by dsimp only;omega,by dsimp only;omega⟩}
   ·rw[hsn];refine Zv ?_ ?_
    ·repeat' first|exact Zq|apply aI
     all_goals (simp;done)
    exact wk
   omega
  rw[aB (by rw[g2];simp)]at hsn;refine ZW ?_;refine ZG ?_;refine⟨i+1,?_,?_,?_⟩;{rw[hsn];exact⟨hil,aj,aj⟩};{rw[hsn];exact ZV};omega
 have hil:i=f.nodes.length:=(by simp at g1;omega);subst hil;exact ZJ
theorem a1k:∀(n:Nat),tV (List.replicate n AV.ff) ((List.replicate n false).map AV.bool)
 | 0=>trivial
 |n+1=>⟨rfl,a1k n⟩
theorem a97{o:List Int}{n:Nat}(h:KD o n)(hn:n<=24):ZQ 113 [iL o,.int .i64 n] [] .vK []:=by
 have hl:=h.len;refine ZN Tryz.func113 λhok=>?_;refine aQ (λg=>by exfalso;omega) (λg=>ZW ?_);refine aQ (λg=>by exfalso;omega) (λg=>ZW ?_);refine aQ (λg=>by exfalso;simp at g;omega) (λg=>ZW ?_);refine⟨⟨aj,dQ _,by show(n:Int)*((1:Nat):Int)<=281474976710656;omega,aj⟩,.wr ?_⟩;rw[aO];refine ZW ?_;refine qW.of <| (qN.inv (.refl _ _) (λk:Nat=>k<=o.length) (λk=>[(26,.int .i64 k)]) (λk=>[(0,.arr 1 n ((Ic (List.replicate n false) (o.take k)).map .bool))]) (λk=>o.length-k) 0 (aP _) ?_ ?_ ?_);{exact λ_=>rfl}
 ·refine Zv wk ?_;repeat' first|exact Zq|apply aI
  all_goals first|(show tV (List.replicate n _) (List.map _ (List.replicate n false));exact a1k n)|skip
 intro k hk _;have hml:=MX (o.take k) (List.replicate n false);rw[jX]at hml;refine ZS ?_ ?_<;>intro g
 ·have hlt:k<o.length:=(by simpa using g);have rk:=h.rng _ (aN hlt);have hmt:=WG (d:=List.replicate n false) hlt;have hno:¬(Ic (List.replicate n false) (o.take k)).getD (o[k]).toNat false=true:=(by rw[Je];rintro(h1|⟨_,b,hb,e⟩);{rw[aF,eH]at h1;split at h1 <;> cases h1};obtain⟨j,hj,ej⟩:=List.mem_iff_getElem.1 hb;have hj':j<k:=(by rw[dh]at hj;omega);rw[kW]at ej;have rb:=h.rng b (kD hb);have:o[j]=o[k]:=(by rw[ej];omega);exact absurd this (fO.1 h.nd j k aj hlt hj'));generalize Ic (List.replicate n false) (o.take k)=d at *;refine ZW ?_;refine sH hlt ?_;generalize o[k]=x at *;refine ZW ?_;refine aQ (λg=>by exfalso;omega) (λg=>ZW ?_);refine aQ (λg=>by exfalso;omega) (λg=>ZW ?_);refine⟨⟨rk.1,rk.2⟩,ZW ?_⟩;rw[bH];refine ug false ⟨aj,aj⟩ (ZW ?_);refine⟨rfl,ZW ?_⟩;refine aQ (λg=>absurd g (by rw[aO];exact hno)) (λg=>ZW ?_);refine⟨⟨rk.1,rk.2⟩,ZW ?_⟩;refine⟨by rw[aC];omega,rfl,ZW ?_⟩;refine ZG ?_;refine⟨k+1,?_,?_,?_⟩;{exact hlt}
  ·rw[hmt];refine Zv wk ?_;repeat' first|exact Zq|apply aI
   all_goals (rw[bH];refine Jf ?_ _ _;first|exact rfl|(show _↔_;simp))
  omega
 refine ZW ?_;exact ZX
def Uj (v:Nat) (l:List Nd):Nat->Int->List Bool×List Int->List Bool×List Int
 | 0,_,s=>s
 |n+1,a,s=>if s.1.getD a.toNat false=true then s
    else if a<(v:Int)then(s.1.set a.toNat true,s.2++[a])
    else(argsAt l (a.toNat-v)).foldl (λs b=>Uj v l n b s) (s.1.set a.toNat true,s.2)
structure VsI(v m:Nat)(s:List Bool×List Int):Prop where
 len:s.1.length=v+m
 ev:∀e∈s.2,0<=e/\e<(v:Int)/\s.1.getD e.toNat false=true
 nd:s.2.Nodup
 all:∀i:Nat,i<v->s.1.getD i false=true->(i:Int)∈s.2
theorem VsI.short{v m:Nat}{s:List Bool×List Int}(h:VsI v m s):s.2.length<=v:=by
 have:=Ef (l:=s.2) (u:=(List.range v).map (λk:Nat=>(k:Int))) h.nd (λx hx=>by
  have:=h.ev x hx;exact bg.2 ⟨x.toNat,iy.2 aj,aj⟩)
 simpa using this
theorem VsI.mark{v m:Nat}{s:List Bool×List Int}(h:VsI v m s){a:Int}(h0:0<=a)(h1:a<((v+m:Nat):Int))(hm:¬s.1.getD a.toNat false=true) :
  VsI v m (s.1.set a.toNat true,if a<(v:Int)then s.2++[a]else s.2):=by
 have hl:=h.len;refine⟨by simp[hl],λe he=>?_,?_,λi hi hs=>?_⟩;{have old:e∈s.2->0<=e/\e<(v:Int)/\(s.1.set a.toNat true).getD e.toNat false=true:=λhe=>(by obtain⟨q1,q2,q3⟩:=h.ev e he;exact⟨q1,q2,Gq.2 (.inl q3)⟩);dsimp only at he;split at he;{rename_i hv;rcases dM.1 he with he|he;{exact old he};obtain rfl:=jr.1 he;exact⟨h0,hv,Gq.2 (.inr ⟨aj,rfl⟩)⟩};exact old he};{dsimp only;split;{refine fQ.2 ⟨h.nd,ak,λx hx y hy e=>?_⟩;obtain rfl:=jr.1 hy;exact hm (e ▸ (h.ev x hx).2.2)};exact h.nd};dsimp only at hs ⊢;rcases Gq.1 hs with hs|⟨_,hs⟩;{have:=h.all i hi hs;split;{exact dM.2 (.inl this)};exact this};rw[aG aj];exact dM.2 (.inr (by rw[jr];omega))
theorem Vq{v:Nat}{l:List Nd}(hw:∀i<l.length,∀a∈argsAt l i,0<=a/\a<(v:Int)+i):∀(n:Nat) (a:Int) (s:List Bool×List Int),VsI v l.length s->0<=a->a<((v+l.length:Nat):Int)->VsI v l.length (Uj v l n a s)
 | 0,_,_,h,_,_=>h
 | n+1,a,s,h,h0,h1=>by
   unfold Uj;split;{exact h};rename_i hm;have hk:=h.mark h0 h1 hm;split;{rename_i hv;rw[aG hv]at hk;exact hk};rename_i hv;rw[aB hv]at hk;have hwa:=hw (a.toNat-v) aj;generalize argsAt l (a.toNat-v)=args at *;generalize (s.1.set a.toNat true,s.2)=s' at *;induction args generalizing s' with
   |nil=>exact hk
   |cons b args ih =>have hb:=hwa b ak;exact ih (λx hx=>hwa x (by simp[hx])) _ (Vq hw n b s' hk hb.1 aj)
theorem a0g{α β:Type}(f:β->α->β)(s:β){l:List α}{j:Nat}(h:j<l.length):(l.take (j+1)).foldl f s=f ((l.take j).foldl f s) l[j]:=by rw[eG,aH h,gK];rfl
abbrev hpV(f:Fo)(s:List Bool×List Int):Heap :=
 [(2,.tok 1 s.2.length),(1,.arr 1 (f.vars.toNat+f.nodes.length) (s.1.map .bool)),(0,.box (.ag [f.av,.sl 1 (s.2.map (.int .i64)) (.own 2),.ms 1 0 (f.vars.toNat+f.nodes.length) (f.vars.toNat+f.nodes.length) 1]))]
theorem b24(f:Fo)(h:Om f):∀(n:Nat) (a:Int) (s:List Bool×List Int),VsI f.vars.toNat f.nodes.length s->0<=a->a<((f.vars.toNat+f.nodes.length:Nat):Int)->a<(n:Int) ->
  ZQ 185 [.ptr 0 [] 0,.int .i64 a] (hpV f s) (.uy []) (hpV f (Uj f.vars.toNat f.nodes n a s)):=by
 intro n;induction n with
 |zero=>intro a s _ h0 _ h1;omega
 | succ n ih =>
   intro a s hs h0 h1 han;have hlen:=hs.len;have hsh:=hs.short;have hw:=h.args;have hal:∀i,i<f.nodes.length->(argsAt f.nodes i).length<=16:=λi hi=>by have hal:=(h.nodes i hi).num;have e:argsAt f.nodes i=f.nodes[i].args:=(by unfold argsAt;rw[aF,aH hi];rfl);rw[e];split at hal;{omega};split at hal <;> omega
   obtain⟨g1,g2,g3,g4⟩:=h;refine ZN Tryz.func185 λhok=>?_;refine⟨⟨h0,h1⟩,ZW ?_⟩;rw[bH];refine ug false ⟨aj,aj⟩ (ZW ?_);refine⟨rfl,ZW ?_⟩;rw[aO];constructor<;>intro g;{rw[show Uj f.vars.toNat f.nodes (n+1) a s=s from aG g];refine ZW ?_;exact ZX};have hm:¬s.1.getD a.toNat false=true:=(by rw[g];simp);have hmk:=hs.mark h0 h1 hm;refine ZW ?_;refine⟨⟨h0,h1⟩,ZW ?_⟩;refine⟨by rw[aC];omega,rfl,?_⟩;refine ZS ?_ ?_<;>intro g5
   ·have g5':a<(f.vars.toNat:Int):=aj;rw[show Uj f.vars.toNat f.nodes (n+1) a s=(s.1.set a.toNat true,s.2++[a])from(aB hm).trans (aG g5')];refine ZW ?_;refine⟨by rw[aC],.mk (by simp[maxL];omega) aA (ZW ?_)⟩;refine ZE ?_ ?_;{exact wk};repeat' first|exact Zq|apply aI
    all_goals first|(simp;done)|(rw[bH];refine Jf ?_ _ _;first|exact rfl|(show _↔_;simp))|(show tV _ (List.map _ (_++[_]));rw[aV];exact qX _)
   have g5':¬a<(f.vars.toNat:Int):=aj;rw[aB g5']at hmk;have hwa:=hw (a.toNat-f.vars.toNat) aj;have b8M:=hal (a.toNat-f.vars.toNat) aj;rw[show Uj f.vars.toNat f.nodes (n+1) a s=(argsAt f.nodes (a.toNat-f.vars.toNat)).foldl (λs b=>Uj f.vars.toNat f.nodes n b s) (s.1.set a.toNat true,s.2)from(aB hm).trans (aB g5')];have hinv:∀j,j<=(argsAt f.nodes (a.toNat-f.vars.toNat)).length->VsI f.vars.toNat f.nodes.length (((argsAt f.nodes (a.toNat-f.vars.toNat)).take j).foldl (λs b=>Uj f.vars.toNat f.nodes n b s) (s.1.set a.toNat true,s.2)):=by
    intro j;induction j with
    |zero=>intro _;exact hmk
    |succ j ihj =>intro hj;rw[a0g _ _ (show j<(argsAt f.nodes (a.toNat-f.vars.toNat)).length by omega)];have:=hwa _ (aN (show j<(argsAt f.nodes (a.toNat-f.vars.toNat)).length by omega));exact Vq hw n _ _ (ihj aj) this.1 aj
   refine ZW ?_;refine ZR ?_;refine⟨rW aj aj,?_⟩;conv=>whnf
   refine ug default ⟨aj,aj⟩ ?_;rw[show(a-f.vars).toNat=a.toNat-f.vars.toNat by omega];conv=>whnf
   rw[show(f.nodes.getD (a.toNat-f.vars.toNat) default).args=argsAt f.nodes (a.toNat-f.vars.toNat)from rfl];generalize argsAt f.nodes (a.toNat-f.vars.toNat)=args at *;refine qW.of <| (qN.inv (.refl _ _) (λk:Nat=>k<=args.length) (λk=>[(52,.int .i64 k)]) (λk=>hpV f ((args.take k).foldl (λs b=>Uj f.vars.toNat f.nodes n b s) (s.1.set a.toNat true,s.2))) (λk=>args.length-k) 0 (aP _) ?_ ?_ ?_);{exact λ_=>rfl}
   ·refine Zv wk ?_;repeat' first|exact Zq|apply aI
    all_goals first|(rw[bH];refine Jf ?_ _ _;first|exact rfl|(show _↔_;simp))|skip
   intro k hk _;have hik:=hinv k hk;refine ZS ?_ ?_<;>intro g6;{have hlt:k<args.length:=(by simpa using g6);have hb:=hwa _ (aN hlt);have q:=ih (args[k]) _ hik hb.1 aj aj;rw[<- a0g (λs b=>Uj f.vars.toNat f.nodes n b s) _ hlt]at q;refine ZW ?_;refine sH hlt (ZW ?_);refine .gen _ _ q λ_=>ZW ?_;refine ZG ?_;refine⟨k+1,?_,?_,?_⟩;{exact hlt};{exact ZV};omega};have hk:k=args.length:=(by(have:¬k<args.length:=by simpa using g6);omega);subst hk;rw[bn];refine ZW ?_;exact ZX
def Jl(_:Nat)(s:List Bool×List Int)(k:Nat):List Int:=s.2++((List.range k).filter λi=>!s.1.getD i false).map λi:Nat=>(i:Int)
theorem a6N(v:Nat)(s:List Bool×List Int)(k:Nat):Jl v s (k+1)=if s.1.getD k false=true then Jl v s k else Jl v s k++[(k:Int)]:=by
 unfold Jl;rw[ng,lX];cases h:s.1.getD k false with
 |true =>have h':s.1[k]?.getD false=true:=(by simpa using h);simp[h']
 |false =>have h':s.1[k]?.getD false=false:=(by simpa using h);simp[h']
theorem a6O{v m:Nat}{s:List Bool×List Int}(h:VsI v m s):KD (Jl v s v) v:=by
 have hmem:∀i:Nat,i<v->(i:Int)∈Jl v s v:=λi hi=>(by unfold Jl;by_cases hs:s.1.getD i false=true;{exact dM.2 (.inl (h.all i hi hs))};refine dM.2 (.inr (bg.2 ⟨i,dZ.2 ⟨iy.2 hi,?_⟩,rfl⟩));simpa using hs);have hr:∀x∈Jl v s v,0<=x/\x<(v:Int):=λx hx=>(by unfold Jl at hx;rcases dM.1 hx with hx|hx;{exact⟨(h.ev x hx).1,(h.ev x hx).2.1⟩};obtain⟨i,hi,rfl⟩:=bg.1 hx;have:=iy.1 (dZ.1 hi).1;omega);have hn:(Jl v s v).Nodup:=by unfold Jl;refine fQ.2 ⟨h.nd,?_,λx hx y hy e=>?_⟩;{refine List.Pairwise.map _ (R:=(· ≠ ·)) (λa b hab e=>hab aj) ?_;exact List.Pairwise.filter _ List.nodup_range};obtain⟨i,hi,rfl⟩:=bg.1 hy;have h1:=(dZ.1 hi).2;subst e;have:=(h.ev _ hx).2.2;rw[aO]at this;rw[this]at h1;cases h1
 refine⟨Nat.le_antisymm ?_ ?_,hr,hn⟩
 ·have:=Ef (l:=Jl v s v) (u:=(List.range v).map (λk:Nat=>(k:Int))) hn (λx hx=>by
   have:=hr x hx;exact bg.2 ⟨x.toNat,iy.2 aj,aj⟩)
  simpa using this
 have:=Ef (l:=(List.range v).map (λk:Nat=>(k:Int))) (u:=Jl v s v) (by
  refine List.Pairwise.map _ (R:=(· ≠ ·)) (λa b hab e=>hab aj) List.nodup_range) (λx hx=>by
  obtain⟨i,hi,rfl⟩:=bg.1 hx;exact hmem i (iy.1 hi))
 simpa using this
def b5k(f:Fo):List Bool×List Int:=Uj f.vars.toNat f.nodes (f.top.toNat+1) f.top (List.replicate (f.vars.toNat+f.nodes.length) false,[])
def b4e(f:Fo):List Int:=Jl f.vars.toNat (b5k f) f.vars.toNat
theorem a2Y(f:Fo)(h:Om f):VsI f.vars.toNat f.nodes.length (b5k f):=by have h4:=h.top;have h1:=h.vars;refine Vq h.args _ _ _ ⟨ak,λe he=>(by cases he),List.nodup_nil,λi hi hs=>?_⟩ h4.1 aj;rw[aF,eH]at hs;split at hs <;> cases hs
theorem a96(f:Fo)(h:Om f):ZQ 111 [f.av] [] (.uy [iL (b4e f),.sl 1 ((b5k f).1.map .bool) .no]) []:=by
 have hs:=a2Y f h;have h1:=h.vars;have h4:=h.top;have c:ZQ 185 [.ptr 0 [] 0,.int .i64 f.top] (hpV f (List.replicate (f.vars.toNat+f.nodes.length) false,[])) (.uy []) (hpV f (b5k f)):=b24 f h (f.top.toNat+1) f.top (List.replicate (f.vars.toNat+f.nodes.length) false,[]) ⟨ak,λe he=>(by cases he),List.nodup_nil,λi hi hs=>by
  rw[aF,eH]at hs;split at hs <;> cases hs⟩ h4.1 aj aj
 unfold b4e;generalize b5k f=s at *;obtain⟨g1,g2,g3,g4⟩:=h;refine ZN Tryz.func111 λhok=>?_;refine xG.YN [0] ?_;conv=>whnf
 refine aQ ⟨rfl,rfl⟩ ?_;conv=>whnf
 refine⟨[true,true,true,true,true,true,true,false,true,false,true],by kernel_rfl,?_⟩;conv=>whnf
 rw[aC];refine⟨rW aj aj,?_⟩;conv=>whnf
 rw[show f.vars+(f.nodes.length:Int)=((f.vars.toNat+f.nodes.length:Nat):Int) by omega];refine⟨⟨aj,dQ _,by show((f.vars.toNat+f.nodes.length:Nat):Int)*((1:Nat):Int)<=281474976710656;omega,aj⟩,.wr ?_⟩;rw[aO];conv=>whnf
 refine .gen _ _ (qZ.pre (.FU 2 [1] 1 [] (.ag [f.av,.qV,.ms 1 0 (f.vars.toNat+f.nodes.length) (f.vars.toNat+f.nodes.length) 1]) .qV _ rfl rfl (.inl ⟨rfl,rfl⟩) rfl (.refl _ _)) (qZ.frame [2,1,3] c ⟨rfl,rfl,rfl,rfl⟩ ?_ ?_)) λ_=>?_
 ·repeat' first|exact Zq|apply aI
  all_goals first|(show tV (List.replicate _ AV.ff) (List.map _ (List.replicate _ false));exact a1k _)|skip
 ·exact wk
 have hsl:=hs.len;have hss:=hs.short;have hdl:∀k,k<=f.vars.toNat->(Jl f.vars.toNat s k).length<=48:=λk hk=>(by unfold Jl;rw[bC,aC];have:=iw (λi=>!s.1.getD i false) (List.range k);rw[nR]at this;omega);refine ZW ?_;refine qW.of <| (qN.inv (.refl _ _) (λk:Nat=>k<=f.vars.toNat) (λk=>[(22,.int .i64 k)]) (λk=>[(3,.tok 1 (Jl f.vars.toNat s k).length),(2,.box (.ag [f.av,.sl 1 ((Jl f.vars.toNat s k).map (.int .i64)) (.own 3),.ms 1 0 (f.vars.toNat+f.nodes.length) (f.vars.toNat+f.nodes.length) 1])),(1,.arr 1 (f.vars.toNat+f.nodes.length) (s.1.map .bool)),(0,.gone)]) (λk=>f.vars.toNat-k) 0 (aP _) ?_ ?_ ?_);{exact λ_=>rfl}
 ·refine Zv wk ?_;repeat' first|exact Zq|apply aI
  all_goals first|(show tV _ (List.map _ (s.2++[]));rw[iM];exact qX _)|(unfold Jl;simp;done)|skip
 intro k hk _;have hdk:=hdl k hk;have hds:=a6N f.vars.toNat s k;refine ZS ?_ ?_<;>intro g
 ·have hlt:k<f.vars.toNat:=aj;generalize Jl f.vars.toNat s k=d at *;refine ZW ?_;refine⟨⟨aj,aj⟩,ZW ?_⟩;rw[bH];refine ug false ⟨aj,aj⟩ ?_;rw[aO];refine ZW ?_;refine⟨rfl,?_⟩;refine ZS ?_ ?_<;>intro g2
  ·have g2':s.1.getD k false=false:=by
    cases h:s.1.getD k false with
    |false=>rfl
    |true=>rw[aO,h]at g2;cases g2
   rw[aB (by rw[g2'];simp)]at hds;refine ZW ?_;refine⟨by rw[aC],.mk (by simp[maxL];omega) aA (ZW ?_)⟩;refine ZG ?_;refine⟨k+1,?_,?_,?_⟩;{exact hlt}
   ·rw[hds];refine Zv wk ?_;repeat' first|exact Zq|apply aI
    all_goals first|(simp;done)|(show tV _ (List.map _ (_++[_]));rw[aV];exact qX _)
   omega
  have g2':s.1.getD k false=true:=by
   cases h:s.1.getD k false with
   |true=>rfl
   |false=>rw[aO,h]at g2;cases g2
  rw[aG g2']at hds;refine ZW ?_;refine ZG ?_;refine⟨k+1,?_,?_,?_⟩;{exact hlt};{rw[hds];exact ZV};omega
 have hk:k=f.vars.toNat:=aj;subst hk;refine ZW ?_;refine ZR ?_;refine⟨⟨_,_,.freeze 3 1 _ _ _ _ _ _ rfl rfl ?_ (.refl _ _),?_⟩⟩;{rw[aC];omega};conv=>whnf
 refine Zx ?_ ?_
 ·repeat' first|exact Zq|apply aI
  all_goals first|(refine qY ?_;rw[fG,bf (by rw[aC];omega)])|skip
 exact wk
theorem a3j(f:Fo)(h:Om f):ZQ 56 [f.av] [] (.uy [iL (b4e f),.vK]) []:=by have cc:=QK f h;have cd:=a96 f h;refine ZN Tryz.func56 λhok=>?_;refine .zW cc ?_;refine .zW cd ?_;exact ZH
theorem a0q(f:Fo)(h:Om f):KD (b4e f) f.vars.toNat:=a6O (a2Y f h)
def zJ(l0:List Bool)(nodes:List Nd):List Bool:=nodes.foldl b1G l0
theorem Y6(l0:List Bool):∀(nodes:List Nd),(zJ l0 nodes).length=l0.length+nodes.length:=by
 intro nodes;unfold zJ;induction nodes generalizing l0 with
 |nil=>simp
 |cons x l ih=>rw[fA,ih];simp[b1G];omega
theorem a4T(l0:List Bool)(l r:List Nd):∃t,zJ l0 (l++r)=zJ l0 l++t:=by
 unfold zJ;rw[gK];generalize l.foldl b1G l0=u;induction r generalizing u with
 |nil=>exact⟨[],ak⟩
 |cons x r ih =>obtain⟨t,ht⟩:=ih (b1G u x);exact⟨[Ib x (YS u x.args)]++t,by rw[fA,ht];simp[b1G]⟩
theorem Bv(l0:List Bool)(l r:List Nd){j:Nat}(h:j<l0.length+l.length):(zJ l0 (l++r)).getD j false=(zJ l0 l).getD j false:=by obtain⟨t,ht⟩:=a4T l0 l r;rw[ht,aF,bI (by rw[Y6];exact h),<- aF]
theorem Vs(l0:List Bool)(l:List Nd){k:Nat}(h:k<l.length):(zJ l0 l).getD (l0.length+k) false=Ib l[k] (YS (zJ l0 (l.take k)) l[k].args):=by have e:l=(l.take k++[l[k]])++l.drop (k+1):=(by rw[<- bV h,fH]);have hl:(l.take k).length=k:=(by rw[dh];omega);have:=Bv l0 (l.take k++[l[k]]) (l.drop (k+1)) (j:=l0.length+k) aA;rw[<- e]at this;rw[this];unfold zJ;rw[gK];show((b1G (zJ l0 (l.take k)) l[k]).getD _ false)=_;have hv:=Y6 l0 (l.take k);rw[hl]at hv;unfold b1G;rw[aF,dK aj,hv,gJ];rfl
theorem Vr(l0:List Bool)(l:List Nd){j k:Nat}(h:j<l0.length+k)(hk:k<=l.length):(zJ l0 (l.take k)).getD j false=(zJ l0 l).getD j false:=by have:=Bv l0 (l.take k) (l.drop k) (j:=j) (by rw[dh];omega);rw[fH]at this;exact this.symm
theorem a4q{u w:List Bool}{f:Int->Int}:∀{args:List Int},(∀a∈args,u.getD (f a).toNat false=w.getD a.toNat false)->YS u (args.map f)=YS w args:=by
 have key:∀(args:List Int) (n:Nat),(∀a∈args,u.getD (f a).toNat false=w.getD a.toNat false)->(args.map f).foldl (λn a=>if u.getD a.toNat false=true then n+1 else n) n=args.foldl (λn a=>if w.getD a.toNat false=true then n+1 else n) n:=by
  intro args;induction args with
  |nil=>intro n _;rfl
  |cons a l ih =>intro n h;rw[dF,fA,fA,h a ak];exact ih _ λb hb=>h b (by simp[hb])
 intro args h;exact key args 0 h
theorem a5Q{k n:Int}{a b:List Int}(h:a.length=b.length)(c:Nat):Ib ⟨k,n,a⟩ c=Ib ⟨k,n,b⟩ c:=by unfold Ib;simp only[h]
def Tn(to:List Int)(a:Int):Int:=to.getD a.toNat 0
def b39(to:List Int)(x:Nd):Nd:=⟨x.kind,x.k,x.args.map (Tn to)⟩
def trK(v:Nat)(l:List Nd)(d:List Bool):Nat->List Int×List Nd
 | 0=>((List.range v).map (λi:Nat=>(i:Int))++List.replicate l.length 0,[])
 |k+1=>if d.getD (v+k) false=true then((trK v l d k).1.set (v+k) ((v:Int)+(trK v l d k).2.length),(trK v l d k).2++[b39 (trK v l d k).1 (l.getD k default)])else trK v l d k
structure TrI(v:Nat)(l:List Nd)(d:List Bool)(k:Nat)(s:List Int×List Nd):Prop where
 len:s.1.length=v+l.length
 out:s.2.length<=k
 ref:∀j:Nat,j<v+k->(j<v\/d.getD j false=true)->0<=s.1.getD j 0/\s.1.getD j 0<(v:Int)+s.2.length
 nd:∀(i:Nat) (h:i<s.2.length),NK v i s.2[i]
 val:∀l0:List Bool,l0.length=v->∀j:Nat,j<v+k->(j<v\/d.getD j false=true)->(zJ l0 s.2).getD (s.1.getD j 0).toNat false=(zJ l0 l).getD j false
theorem a5b{v:Nat}{l:List Nd}{d:List Bool}(hn:∀(i:Nat) (h:i<l.length),NK v i l[i])(hd:∀i<l.length,d.getD (v+i) false=true->∀a∈argsAt l i,a<(v:Int)\/d.getD a.toNat false=true) :
  ∀k,k<=l.length->TrI v l d k (trK v l d k)
 | 0,_=>by have h0:∀j:Nat,j<v->((List.range v).map (λi:Nat=>(i:Int))++List.replicate l.length 0).getD j 0=(j:Int):=λj hj=>(by rw[aF,bI (by simpa using hj),dS,lS hj];rfl);refine⟨by simp[trK],aT _,λj hj _=>?_,λi h=>absurd h (gW _),λl0 hl j hj _=>?_⟩;{show 0<=(_++_:List Int).getD j 0/\(_++_:List Int).getD j 0<_;rw[h0 j hj];simp[trK];omega};show(zJ l0 []).getD ((_++_:List Int).getD j 0).toNat false=_;rw[h0 j hj,aO];have:=Bv l0 [] l (j:=j) aA;exact this.symm
 | k+1,hk=>by
   have ih:=a5b hn hd k aj;have hkl:k<l.length:=aj;have ex:l.getD k default=l[k]:=(by rw[aF,aH hkl];rfl);have ea:argsAt l k=l[k].args:=(by unfold argsAt;rw[ex]);unfold trK;generalize trK v l d k=s at *;obtain⟨i1,i2,i3,i4,i5⟩:=ih;split
   ·rename_i hm;have nk:=hn k hkl;have hda:=hd k hkl hm;rw[ea]at hda;rw[ex];have aok:∀a∈l[k].args,0<=a/\a.toNat<v+k/\(a.toNat<v\/d.getD a.toNat false=true):=λa ha=>by have h1:=nk.args a ha;exact⟨h1.1,aj,(hda a ha).imp (λh=>by omega) id⟩
    have hg:∀j,(s.1.set (v+k) ((v:Int)+s.2.length)).getD j 0=if j=v+k then(v:Int)+s.2.length else s.1.getD j 0:=λj=>Ad aj;refine⟨by simp[i1],aA,λj hj hjd=>?_,λi hi=>?_,λl0 hl j hj hjd=>?_⟩;{dsimp only;rw[hg];split;{simp;omega};rename_i hne;have h5:=i3 j aj hjd;refine⟨h5.1,?_⟩;rw[bC,jA];omega}
    ·dsimp only at hi ⊢;by_cases hlt:i<s.2.length;{rw[kL hlt];exact i4 i hlt};obtain rfl:i=s.2.length:=by simp at hi;omega
     rw[lZ (aT _)];simp only[gJ,jO];refine⟨nk.kind,?_,λa ha=>?_,?_⟩;{simp only[b39,aC];exact nk.num};{obtain⟨b,hb,rfl⟩:=bg.1 ha;have h1:=aok b hb;exact i3 b.toNat h1.2.1 h1.2.2};simp only[b39,aC];exact nk.k
    dsimp only;rw[hg];split
    ·rename_i e;subst e;rw[show((v:Int)+(s.2.length:Int)).toNat=l0.length+s.2.length by omega];have h1:=Vs l0 (s.2++[b39 s.1 l[k]]) (k:=s.2.length) ak;have h2:=Vs l0 l hkl;rw[h1,<- hl,h2,List.take_left']
     ·simp only[lZ (aT _),gJ,jO];have hc:YS (zJ l0 s.2) (b39 s.1 l[k]).args=YS (zJ l0 (l.take k)) l[k].args:=by refine a4q λa ha=>?_;have h3:=aok a ha;rw[Vr l0 l aj aj];exact i5 l0 hl a.toNat h3.2.1 h3.2.2
      rw[hc];exact a5Q ak _
     rfl
    rename_i hne;have h3:=i3 j aj hjd;rw[Bv l0 s.2 _ aj];exact i5 l0 hl j aj hjd
   rename_i hm;refine⟨i1,aj,λj hj hjd=>?_,i4,λl0 hl j hj hjd=>?_⟩;{rcases lT j (v+k)with h|h;{exact i3 j h hjd};obtain rfl:j=v+k:=aj;rcases hjd with h'|h';{omega};exact absurd h' hm};rcases lT j (v+k)with h|h;{exact i5 l0 hl j h hjd};obtain rfl:j=v+k:=aj;rcases hjd with h'|h';{omega};exact absurd h' hm
def QN(f:Fo):List Bool:=belF f.vars.toNat f.nodes f.top.toNat
def trS(f:Fo)(k:Nat):List Int×List Nd:=trK f.vars.toNat f.nodes (QN f) k
def trimF(f:Fo):Fo:=⟨f.vars,(trS f f.nodes.length).2,Tn (trS f f.nodes.length).1 f.top⟩
theorem a5a(f:Fo)(h:Om f)(k:Nat)(hk:k<=f.nodes.length):TrI f.vars.toNat f.nodes (QN f) k (trS f k):=by have h1:=h.vars;have h4:=h.top;have ha:=h.args;have hb:=λj=>X5 (v:=f.vars.toNat) (l:=f.nodes) (top:=f.top.toNat) aj ha j;refine a5b (λi hi=>?_) (λi hi hd a haa=>?_) k hk;{have:=h.nodes i hi;rw[show(f.vars.toNat:Int)=f.vars by omega];exact this};refine .inr ?_;have h2:=(hb _).1 hd;exact(hb _).2 (.step h2 hi haa)
theorem a4Z(f:Fo)(h:Om f):Om (trimF f)/\∀l0:List Bool,l0.length=f.vars.toNat->(zJ l0 (trimF f).nodes).getD (trimF f).top.toNat false=(zJ l0 f.nodes).getD f.top.toNat false:=by have h1:=h.vars;have h3:=h.len;have h4:=h.top;have ti:=a5a f h f.nodes.length (aT _);have hb:=λj=>X5 (v:=f.vars.toNat) (l:=f.nodes) (top:=f.top.toNat) aj h.args j;have ht:f.top.toNat<f.vars.toNat\/(QN f).getD f.top.toNat false=true:=.inr ((hb _).2 .root);have rf:=ti.ref f.top.toNat aj ht;have out:=ti.out;refine⟨⟨h1,by show(trS f f.nodes.length).2.length<=128;omega,λi hi=>?_,?_⟩,λl0 hl=>?_⟩;{have:=ti.nd i hi;rw[show(f.vars.toNat:Int)=f.vars by omega]at this;exact this};{show 0<=Tn _ f.top/\Tn _ f.top<f.vars+_;unfold Tn trimF;dsimp only;omega};exact ti.val l0 hl f.top.toNat aj ht
def Qr(n k:Nat):List Int:=(List.range k).map (λi:Nat=>(i:Int))++List.replicate (n-k) 0
theorem a4k{n k:Nat}(h:k<n):(Qr n k).set k (k:Int)=Qr n (k+1):=by unfold Qr;obtain⟨m,hm⟩:∃m,n-k=m+1:=⟨n-k-1,aj⟩;rw[hm,show n-(k+1)=m by omega,kY _ _ ak,ng,aV,bK];simp[nJ]
theorem a6t{n k:Nat}(h:k<=n):(Qr n k).length=n:=by simp[Qr];omega
theorem b3u(f:Fo)(h:Om f):ZQ 114 [f.av] [] (.uy [(trimF f).av,.vK]) []:=by
 have cc:=QK f h;have cb:=a3o f h;have hbl:(belF f.vars.toNat f.nodes f.top.toNat).length=f.vars.toNat+f.nodes.length:=Fb _ _ _ _;have hinv:=a5a f h;obtain⟨h1,h2,h3,h4⟩:=h;refine ZN Tryz.func114 λhok=>?_;refine .zW cc ?_;refine⟨rW aA aA,ZW ?_⟩;rw[aC,show f.vars+(f.nodes.length:Int)=((f.vars.toNat+f.nodes.length:Nat):Int) by omega];refine⟨⟨aj,dQ _,by show((f.vars.toNat+f.nodes.length:Nat):Int)*((8:Nat):Int)<=281474976710656;omega,aj⟩,.wr ?_⟩;rw[aO];refine ZW ?_;refine qW.of <| (qN.inv (.refl _ _) (λk:Nat=>k<=f.vars.toNat) (λk=>[(32,.int .i64 k)]) (λk=>[(3,.arr 1 (f.vars.toNat+f.nodes.length) ((Qr (f.vars.toNat+f.nodes.length) k).map (.int .i64))),(2,.box (.ag [.int .i64 f.vars,.qV,.int .i64 0])),(1,.box (.ag [.int .i64 0,.qV,.int .i64 0])),(0,.box f.av)]) (λk=>f.vars.toNat-k) 0 (aP _) ?_ ?_ ?_);{exact λ_=>rfl}
 ·refine Zv wk ?_;repeat' first|exact Zq|apply aI
  all_goals first|(show tV (List.replicate _ _) (List.map _ ([]++List.replicate _ 0));rw[fE,jM];exact qX _)|skip
 intro k hk _;have hfl:=a6t (n:=f.vars.toNat+f.nodes.length) (k:=k) aj;refine ZS ?_ ?_<;>intro g
 ·have hlt:k<f.vars.toNat:=aj;have hfs:=a4k (n:=f.vars.toNat+f.nodes.length) (k:=k) aj;generalize Qr (f.vars.toNat+f.nodes.length) k=d at *;refine ZW ?_;refine⟨⟨aj,aj⟩,ZW ?_⟩;refine⟨by rw[aC];omega,rfl,ZW ?_⟩;refine ZG ?_;refine⟨k+1,?_,?_,?_⟩;{exact hlt}
  ·rw[<- hfs];refine Zv wk ?_;repeat' first|exact Zq|apply aI
   all_goals (rw[bH,aO,dP];exact qX _)
  omega
 have hk:k=f.vars.toNat:=aj;subst hk;clear g;have e0:Qr (f.vars.toNat+f.nodes.length) f.vars.toNat=(trS f 0).1:=(by show _=_++List.replicate f.nodes.length 0;unfold Qr;rw[jI]);rw[e0];have cb':ZQ 186 [f.av] [] (.sl 1 ((QN f).map .bool) .no) []:=cb;have b8L:(QN f).length=f.vars.toNat+f.nodes.length:=hbl;unfold trimF;have htr:∀k,trS f (k+1)=if(QN f).getD (f.vars.toNat+k) false=true then((trS f k).1.set (f.vars.toNat+k) ((f.vars.toNat:Int)+(trS f k).2.length),(trS f k).2++[b39 (trS f k).1 (f.nodes.getD k default)])else trS f k:=λk=>rfl;have b7F:(trS f 0).2=[]:=rfl;generalize trS f=tr at *;generalize QN f=d at *;refine ZW ?_;refine ZR ?_;refine .zK cb' ?_;have hle:((d.map AV.bool).drop f.vars.toNat).take (((d.map AV.bool).length:Int).toNat-f.vars.toNat)=(d.drop f.vars.toNat).map AV.bool:=(by rw[<- mO,<- gX,bf ak]);refine b1C.mk ⟨aA,?_⟩;rw[hle];conv=>whnf
 have hdl:(d.drop f.vars.toNat).length=f.nodes.length:=(by rw[iD];omega);refine qW.of <| (qN.inv (.FU 2 [1] 3 [] (.ag [.int .i64 f.vars,.qV,.int .i64 0]) .qV _ rfl rfl (.inl ⟨rfl,rfl⟩) rfl (.refl _ _)) (λk:Nat=>k<=f.nodes.length) (λk=>[(46,.int .i64 k)]) (λk=>[(4,.tok 3 (tr k).2.length),(3,.arr 1 (f.vars.toNat+f.nodes.length) ((tr k).1.map (.int .i64))),(2,.box (.ag [.int .i64 f.vars,.sl 3 ((tr k).2.map Nd.av) (.own 4),.int .i64 0])),(1,.box (.ag [.int .i64 0,.qV,.int .i64 0])),(0,.box f.av)]) (λk=>f.nodes.length-k) 0 (aP _) ?_ ?_ ?_);{exact λ_=>rfl}
 ·refine Zv wk ?_;repeat' first|exact Zq|apply aI
  all_goals first|(rw[b7F];trivial)|(rw[b7F];rfl)|skip
 intro k hk _;have ik:=hinv k hk;refine ZS ?_ ?_<;>intro g
 ·have hlt:k<f.nodes.length:=(by simp at g;omega);have hs1:=htr k;have hnl:(f.nodes[k]).args.length<=16:=(by have hal:=(h3 _ hlt).num;split at hal;{omega};split at hal <;> omega);have hna:=(h3 _ hlt).args;have ex:f.nodes.getD k default=f.nodes[k]:=(by rw[aF,aH hlt];rfl);rw[ex]at hs1;refine ZW ?_;refine ug false aj ?_;rw[show(d.drop f.vars.toNat).getD ((k:Nat):Int).toNat false=d.getD (f.vars.toNat+k) false by rw[aO,aF,aF,iC]];refine ZS ?_ ?_<;>intro g2
  ·have g2':¬d.getD (f.vars.toNat+k) false=true:=by intro h;rw[h]at g2;cases g2
   rw[aB g2']at hs1;refine ZW ?_;refine ZG ?_;refine⟨k+1,?_,?_,?_⟩;{exact hlt};{rw[hs1];exact ZV};omega
  have g2':d.getD (f.vars.toNat+k) false=true:=by
   cases h:d.getD (f.vars.toNat+k) false with
   |true=>rfl
   |false=>rw[h]at g2;cases g2
  rw[aG g2']at hs1;refine ZW ?_;refine sH hlt ?_;generalize f.nodes[k]=x at *;obtain⟨il,io,ir,ind,iv⟩:=ik;generalize tr k=st at *;obtain⟨to,out⟩:=st;dsimp only at *;refine ZW ?_;refine qW.of <| (qN.inv (.FU 6 [2] 1 [] (.ag [.int .i64 x.kind,.int .i64 x.k,.qV]) .qV _ rfl rfl (.inl ⟨rfl,rfl⟩) rfl (.refl _ _)) (λj:Nat=>j<=x.args.length) (λj=>[(66,.int .i64 j)]) (λj=>[(7,.tok 1 j),(6,.box (.ag [.int .i64 x.kind,.int .i64 x.k,.sl 1 (((x.args.take j).map (Tn to)).map (.int .i64)) (.own 7)])),(5,.box x.av),(4,.tok 3 out.length),(3,.arr 1 (f.vars.toNat+f.nodes.length) (to.map (.int .i64))),(2,.box (.ag [.int .i64 f.vars,.sl 3 (out.map Nd.av) (.own 4),.int .i64 0])),(1,.box (.ag [.int .i64 0,.qV,.int .i64 0])),(0,.box f.av)]) (λj=>x.args.length-j) 0 (aP _) ?_ ?_ ?_);{exact λ_=>rfl};{exact ZV};intro j hj _;have htl:((x.args.take j).map (Tn to)).length=j:=(by rw[aC,dh];omega);refine ZS ?_ ?_<;>intro g3
  ·have hjl:j<x.args.length:=(by simpa using g3);have ha:=hna _ (aN hjl);have ht1:(x.args.take (j+1)).map (Tn to)=(x.args.take j).map (Tn to)++[Tn to x.args[j]]:=(by rw[bV hjl,aV];rfl);refine ZW ?_;refine sH hjl ?_;generalize x.args[j]=a at *;refine ZW ?_;refine ZR ?_;refine⟨⟨aj,aj⟩,?_⟩;conv=>whnf
   rw[bH];refine ug 0 ⟨aj,aj⟩ ?_;conv=>whnf
   refine⟨rfl,?_⟩;conv=>whnf
   refine⟨by rw[aC,htl],.mk (by simp[maxL];omega) aA (ZW ?_)⟩;refine ZG ?_;refine⟨j+1,?_,?_,?_⟩;{exact hjl}
   ·rw[ht1];refine Zv wk ?_;repeat' first|exact Zq|apply aI
    all_goals first|(simp;omega)|(show tV _ (List.map _ (_++[_]));rw[aV];exact qX _)
   omega
  have hjl:j=x.args.length:=(by(have:¬j<x.args.length:=by simpa using g3);omega);subst hjl;rw[bn];refine ZW ?_;refine⟨rW aj aj,ZW ?_⟩;refine⟨rW aA aA,ZW ?_⟩;refine⟨⟨aj,aj⟩,ZW ?_⟩;refine⟨by rw[aC];omega,rfl,ZW ?_⟩;refine⟨by rw[aC],.mk (by simp[maxL];omega) aA (ZW ?_)⟩;refine ZG ?_;refine⟨k+1,?_,?_,?_⟩;{exact hlt}
  ·rw[hs1];refine Zv wk ?_;repeat' first|exact Zq|apply aI
   all_goals first|(simp;done)|(show tV _ (List.map _ (_++[_]));rw[aV];exact qX _)|(rw[dP,bH,aC,show(f.vars+(k:Int)).toNat=f.vars.toNat+k by omega,show f.vars+(out.length:Int)=(f.vars.toNat:Int)+out.length by omega];exact qX _)|skip
  omega
 have hk:k=f.nodes.length:=(by simp at g;omega);subst hk;obtain⟨il,io,ir,ind,iv⟩:=ik;generalize tr f.nodes.length=st at *;obtain⟨to,out⟩:=st;dsimp only at *;refine ZW ?_;refine⟨⟨h4.1,aj⟩,ZW ?_⟩;rw[bH];refine ug 0 ⟨aj,aj⟩ (ZW ?_);refine⟨rfl,ZW ?_⟩;exact ZX
theorem YP{f:Nat}{As Bs:List AV}{R:AV}{H H':Heap}(h:ZQ f As H R H')(hle:Ld Bs As):ZQ f Bs H R H' :=
 ⟨h.1,λc vs hr hv=>h.2 c vs hr (Ih hle hv)⟩
theorem b4Z{i:Nat}(h:7<=i):ix [5,2,6,3,4] i=none:=by
 match i,h with
 |k+7,_=>rfl
theorem a2d{n:Nat}{G Y:Heap}:∀{X:Heap},(∀x∈X,7<=x.1)->CJ [5,2,6,3,4] n G (X++Y)=X++CJ [5,2,6,3,4] n G Y
 | [],_=>rfl
 |(i,o)::X,h=>by have hi:=h (i,o) ak;simp only[eP,CJ,b4Z hi];rw[a2d λx hx=>h x (by simp[hx])]
abbrev tb2(T:Tb)(Y:Heap):Heap:=(6,.tok 3 T.nodes.length)::(5,.box (.ag [.sl 1 (T.order.map (.int .i64)) .no,.ms 2 0 T.place.length T.place.length 1,.sl 3 (T.nodes.map OE) (.own 6),.mp 3,.mp 4])) ::
 (4,.tY Rh (xO T.memo))::(3,.tY Rh (xO T.uq))::(2,.arr 1 T.place.length (T.place.map (.int .i64)))::Y
theorem b03{f:Nat}{args As:List AV}{R R':AV}{T T':Tb}(X:Heap){o1 o0:HO}(hX:∀x∈X,7<=x.1)(h:ZQ f args (yZ T) R (yZ T'))
  (ha:∀n,Uo (sg [5,2,6,3,4] n) args=As) (hR:∀n,yT (sg [5,2,6,3,4] n) R=R') (hb:vW 5 args=true) :
  ZQ f As (X++tb2 T [(1,o1),(0,o0)]) R' (X++tb2 T' [(1,o1),(0,o0)]):=by
 have hn:7<=nextId (X++tb2 T [(1,o1),(0,o0)]):=by
  cases X with
  |nil=>exact aT _
  |cons x X=>have:=hX x ak;obtain⟨i,o⟩:=x;simp[nextId]at this ⊢;omega
 have h1:∀(k:Nat),k<7->∀(q:HO->Prop),yt (X++tb2 T [(1,o1),(0,o0)]) k q↔yt (tb2 T [(1,o1),(0,o0)]) k q:=λk hk q=>Nc hk hX;have:=qZ.frame (H:=X++tb2 T [(1,o1),(0,o0)]) (args:=As) [5,2,6,3,4] h ⟨?_,rfl,rfl,hb⟩ ?_ (by rw[ha];exact rQ _);{rw[hR]at this;have e:Ri [5,2,6,3,4] (yZ T') (X++tb2 T [(1,o1),(0,o0)])=X++tb2 T' [(1,o1),(0,o0)]:=(by unfold Ri;rw[a2d hX];show X++CJ _ _ _ _=_;congr 1;show(6,_)::(5,_)::(4,HO.tY Rh (zQ _ (xO T'.memo)))::(3,HO.tY Rh (zQ _ (xO T'.uq)))::_=_;rw[Gf,Gf];rfl);rwa[e]at this};{have:∀k,k<7->Nat.blt k (nextId (X++tb2 T [(1,o1),(0,o0)]))=true:=λk hk=>(by exact gI aj);simp only[KC,this 2 au,this 3 au,this 4 au,this 5 au,this 6 au]};refine⟨(h1 4 au _).2 ⟨⟨rfl,JL _ _⟩,qQ _ _⟩,(h1 3 au _).2 ⟨⟨rfl,JL _ _⟩,qQ _ _⟩,(h1 6 au _).2 ⟨⟨rfl,rfl⟩,rfl⟩,(h1 2 au _).2 ⟨⟨rfl,rfl,qX _⟩,rfl⟩,(h1 5 au _).2 ⟨?_,rfl⟩,trivial⟩;exact tZ _
theorem b4Y{i:Nat}(h:8<=i):ix [6,3,7,4,5] i=none:=by
 match i,h with
 |k+8,_=>rfl
theorem a2c{n:Nat}{G Y:Heap}:∀{X:Heap},(∀x∈X,8<=x.1)->CJ [6,3,7,4,5] n G (X++Y)=X++CJ [6,3,7,4,5] n G Y
 | [],_=>rfl
 |(i,o)::X,h=>by have hi:=h (i,o) ak;simp only[eP,CJ,b4Y hi];rw[a2c λx hx=>h x (by simp[hx])]
abbrev tb3(T:Tb)(Y:Heap):Heap:=(7,.tok 3 T.nodes.length)::(6,.box (.ag [.sl 1 (T.order.map (.int .i64)) .no,.ms 3 0 T.place.length T.place.length 1,.sl 3 (T.nodes.map OE) (.own 7),.mp 4,.mp 5])) ::
 (5,.tY Rh (xO T.memo))::(4,.tY Rh (xO T.uq))::(3,.arr 1 T.place.length (T.place.map (.int .i64)))::Y
theorem YO{f:Nat}{args As:List AV}{R R':AV}{T T':Tb}(X:Heap){o2 o1 o0:HO}(hX:∀x∈X,8<=x.1)(h:ZQ f args (yZ T) R (yZ T'))
  (ha:∀n,Uo (sg [6,3,7,4,5] n) args=As) (hR:∀n,yT (sg [6,3,7,4,5] n) R=R') (hb:vW 5 args=true) :
  ZQ f As (X++tb3 T [(2,o2),(1,o1),(0,o0)]) R' (X++tb3 T' [(2,o2),(1,o1),(0,o0)]):=by
 have hn:8<=nextId (X++tb3 T [(2,o2),(1,o1),(0,o0)]):=by
  cases X with
  |nil=>exact aT _
  |cons x X=>have:=hX x ak;obtain⟨i,o⟩:=x;simp[nextId]at this ⊢;omega
 have h1:∀(k:Nat),k<8->∀(q:HO->Prop),yt (X++tb3 T [(2,o2),(1,o1),(0,o0)]) k q↔yt (tb3 T [(2,o2),(1,o1),(0,o0)]) k q:=λk hk q=>Nc hk hX;have:=qZ.frame (H:=X++tb3 T [(2,o2),(1,o1),(0,o0)]) (args:=As) [6,3,7,4,5] h ⟨?_,rfl,rfl,hb⟩ ?_ (by rw[ha];exact rQ _);{rw[hR]at this;have e:Ri [6,3,7,4,5] (yZ T') (X++tb3 T [(2,o2),(1,o1),(0,o0)])=X++tb3 T' [(2,o2),(1,o1),(0,o0)]:=(by unfold Ri;rw[a2c hX];show X++CJ _ _ _ _=_;congr 1;show(7,_)::(6,_)::(5,HO.tY Rh (zQ _ (xO T'.memo)))::(4,HO.tY Rh (zQ _ (xO T'.uq)))::_=_;rw[Gf,Gf];rfl);rwa[e]at this};{have:∀k,k<8->Nat.blt k (nextId (X++tb3 T [(2,o2),(1,o1),(0,o0)]))=true:=λk hk=>(by exact gI aj);simp only[KC,this 3 au,this 4 au,this 5 au,this 6 au,this 7 au]};refine⟨(h1 5 au _).2 ⟨⟨rfl,JL _ _⟩,qQ _ _⟩,(h1 4 au _).2 ⟨⟨rfl,JL _ _⟩,qQ _ _⟩,(h1 7 au _).2 ⟨⟨rfl,rfl⟩,rfl⟩,(h1 3 au _).2 ⟨⟨rfl,rfl,qX _⟩,rfl⟩,(h1 6 au _).2 ⟨?_,rfl⟩,trivial⟩;exact tZ _
def l0(v:Nat)(t:Int->Bool):List Bool:=(List.range v).map λi:Nat=>t (i:Int)
theorem a2F(v:Nat)(t:Int->Bool):(l0 v t).length=v:=by simp[l0]
theorem b4X(v:Nat)(t:Int->Bool){j:Nat}(h:j<v):(l0 v t).getD j false=t (j:Int):=by unfold l0;rw[aF,dS,lS h];rfl
theorem a1B(v:List Bool):∀(args:List Int),YS v args=args.countP λa=>v.getD a.toNat false:=by
 have k1:∀(args:List Int) (n:Nat),args.foldl (λn a=>if v.getD a.toNat false=true then n+1 else n) n=n+args.countP λa=>v.getD a.toNat false:=by
  intro args;induction args with
  |nil=>intro n;simp
  |cons a l ih =>intro n;rw[fA,ih,iE];by_cases hf:v.getD a.toNat false=true;{rw[aG hf,aG hf];omega};rw[aB hf,aB hf];omega
 intro args;unfold YS;rw[k1,bH]
theorem b3F{T:Tb}{t:Int->Bool}{to:List Int}{u:List Bool}:∀{args:List Int},(∀a∈args,ev T.nodes t (to.getD a.toNat 0)=u.getD a.toNat false)->cB T t (args.map (Tn to))=YS u args:=by
 intro args h;rw[a1B];unfold cB;rw[oz];induction args with
 |nil=>rfl
 |cons a l ih =>rw[iE,iE,ih λb hb=>h b (by simp[hb])];have e:((λr=>ev T.nodes t r) ∘ Tn to) a=u.getD a.toNat false:=h a ak;rw[e]
structure BdI(g:Fo)(T0:Tb)(Z:Nat)(k:Nat)(s:ImS):Prop where
 good:tJ s.T
 ext:Xt T0 s.T
 len:s.refs.length=g.vars.toNat+g.nodes.length
 all:∀j:Nat,j<k->s.T.Rf (s.refs.getD j 0)/\∀t,ev s.T.nodes t (s.refs.getD j 0)=(zJ (l0 g.vars.toNat t) g.nodes).getD j false
 size:s.T.nodes.length<=Z
def b7Z(k:Nat)(s s':ImS):Prop:=∃x,ZQ 115 [.ptr 0 [] 0,.int .i64 (k:Int)] (yZ s.T) (.int .i64 x) (yZ s'.T)/\s'.refs=s.refs.set k x
theorem b0q{g:Fo}{T0:Tb}{Z k:Nat}{s:ImS}(hZ:Z<=100000000)(hk:k<g.vars.toNat)(hn:T0.n=g.vars.toNat)(h:BdI g T0 Z k s):∃s',BdI g T0 (Z+1) (k+1) s'/\b7Z k s s':=by obtain⟨hg,hx,hl,ha,hz⟩:=h;have hnn:s.T.n=g.vars.toNat:=(by rw[hx.n,hn]);have hp:=hg.plc (k:Int) aj aj;have hl0:s.T.lvl 0=s.T.n:=aG aj;have hl1:s.T.lvl 1=s.T.n:=aG aj;obtain⟨m1,m2,m3,m4,m5,m6,m7⟩:=MZ hg (v:=(k:Int)) (lo:=0) (hi:=1) ⟨aj,aj⟩ (.zero _) (.one _) aj aj;have c:=a3f s.T (k:Int) aj;generalize s.T.make (k:Int) 0 1=q at *;refine⟨⟨q.1,s.refs.set k q.2⟩,⟨m1,hx.trans m2,by simp[hl],λj hj=>?_,by show q.1.nodes.length<=_;omega⟩,q.2,c,rfl⟩;dsimp only;rw[Ad aj];split;{rename_i e;subst e;refine⟨m3,λt=>?_⟩;have:=Bv (l0 g.vars.toNat t) [] g.nodes (j:=j) (by rw[a2F];simpa using hk);rw[m7,F9,OW];rw[fE]at this;rw[this];show _=(l0 g.vars.toNat t).getD j false;rw[b4X _ _ hk];cases t (j:Int) <;> rfl};have:=ha j aj;exact⟨m2.rf this.1,λt=>by rw[m2.ev this.1];exact this.2 t⟩
def b7Y(g:Fo)(i:Nat)(s s':ImS):Prop :=
 ∃ x,ZQ 116 [.ptr 0 [] 0,(g.nodes.getD i default).av,iL ((g.nodes.getD i default).args.map (Tn s.refs))] (yZ s.T) (.int .i64 x) (yZ s'.T)/\s'.refs=s.refs.set (g.vars.toNat+i) x /\
   ZQ 61 [.ptr 0 [] 0,.int .i64 x,.int .i64 4096] (yZ s'.T) .tt (yZ s'.T)
theorem b0p{g:Fo}(hok:Om g){N:Nat}(hN:N<=12)(hv:g.vars<=N){T0:Tb}{Z i:Nat}{s:ImS}(hZ:Z+600*2^N<=1000000000)(hi:i<g.nodes.length)(hn:T0.n=g.vars.toNat)(h:BdI g T0 Z (g.vars.toNat+i) s) :
  ∃s',BdI g T0 (Z+600*2^N) (g.vars.toNat+i+1) s'/\b7Y g i s s':=by
 obtain⟨hg,hx,hl,ha,hz⟩:=h;have hvs:=hok.vars;have hnn:s.T.n=g.vars.toNat:=(by rw[hx.n,hn]);have nk:=hok.nodes i hi;have ex:g.nodes.getD i default=g.nodes[i]:=(by rw[aF,aH hi];rfl);have hrf:∀a∈g.nodes[i].args,a.toNat<g.vars.toNat+i:=λa haa=>(by have:=nk.args a haa;omega);obtain⟨T',r,c,p⟩:=b3w N s.T hg aj g.vars i g.nodes[i] nk (g.nodes[i].args.map (Tn s.refs)) ak (λr hr=>by
  obtain⟨a,haa,rfl⟩:=bg.1 hr;exact(ha a.toNat (hrf a haa)).1) aj
 have p5:=p.size;have csm:=a3e N hN T' p.good aj (by rw[p.ext.n];omega) r p.rf;refine⟨⟨T',s.refs.set (g.vars.toNat+i) r⟩,⟨p.good,hx.trans p.ext,by simp[hl],λj hj=>?_,by show T'.nodes.length<=_;omega⟩,r,by rw[ex];exact c,rfl,csm⟩;dsimp only;rw[Ad aj];split;{rename_i e;subst e;refine⟨p.rf,λt=>?_⟩;have h1:=Vs (l0 g.vars.toNat t) g.nodes hi;rw[a2F]at h1;rw[p.val t,h1];congr 1;refine b3F λa haa=>?_;rw[(ha a.toNat (hrf a haa)).2 t];exact(Vr (l0 g.vars.toNat t) g.nodes (by rw[a2F];exact hrf a haa) aj).symm};have:=ha j aj;exact⟨p.ext.rf this.1,λt=>by rw[p.ext.ev this.1];exact this.2 t⟩
theorem Dt.tr{T T':Tb}(h:Xt T T'){ns:List Node}{k:Nat}{x:Node}(g:Dt T' ns k x):Dt T ns k x:=by have e:∀r,Ei T' ns r=Ei T ns r:=λr=>(by unfold Ei;rw[h.n,h.pl]);obtain⟨a,b,c,d,f⟩:=g;rw[h.n]at a;rw[h.pl,e]at d f;exact⟨a,b,c,d,f⟩
structure NrF(f g:Fo):Prop where
 ok:Om g
 vars:g.vars=f.vars
 val:∀l0:List Bool,l0.length=f.vars.toNat->(zJ l0 g.nodes).getD g.top.toNat false=(zJ l0 f.nodes).getD f.top.toNat false
theorem Zf(v:Nat)(l:List Nd)(d:List Bool):∀n,(Eb v l d n).1=0->∀i<n,d.getD (v+i) false=false
 | 0,_,i,hi=>absurd hi (gW _)
 |n+1,h,i,hi=>by rw[VJ]at h;split at h;{simp at h};rename_i hm;by_cases e:i=n;{subst e;simpa using hm};exact Zf v l d n h i aj
theorem b2j(f:Fo)(h:Om f):NrF f (trimF f):=⟨(a4Z f h).1,rfl,(a4Z f h).2⟩
theorem b4O(f:Fo)(h:Om f)(hz:(Eb f.vars.toNat f.nodes (QN f) f.nodes.length).1=0):NrF f ⟨f.vars,[],f.top⟩:=by
 have h1:=h.vars;have h4:=h.top;have hb:=λj=>X5 (v:=f.vars.toNat) (l:=f.nodes) (top:=f.top.toNat) aj h.args j;have ht:f.top.toNat<f.vars.toNat:=by apply aS;intro hn;have:=Zf _ _ _ _ hz (f.top.toNat-f.vars.toNat) aj;rw[show f.vars.toNat+(f.top.toNat-f.vars.toNat)=f.top.toNat by omega]at this;have h2:=(hb f.top.toNat).2 .root;unfold QN at this;rw[h2]at this;cases this
 refine⟨⟨h1,ak,λi hi=>absurd hi (gW _),h4.1,by show f.top<f.vars+0;omega⟩,rfl,λl0 hl=>?_⟩;have:=Bv l0 [] f.nodes (j:=f.top.toNat) (by rw[hl,jh];omega);exact this.symm
abbrev bdX(v:Nat)(refs:List Int):Nat×HO:=(7,.arr 1 v (refs.map (.int .i64)))
theorem XU {N:Nat} (hN:N<=10) (f:Fo) (h:Om f) (hv:f.vars<=N) {o:List Int} (ho:KD o f.vars.toNat) :
  ∃ns x,ZQ 58 [f.av,iL o] [] (.uy [Oc o ns x,.vK]) []/\(∀(k:Nat) (h:k<ns.length),Dt (Tb.new o) ns k ns[k])/\0<=x/\x<2+(ns.length:Int)/\(∀t,ev ns t x=(zJ (l0 f.vars.toNat t) f.nodes).getD f.top.toNat false)/\ns.length<=1024:=by
 have hvs:=h.vars;have hol:=ho.len;have key:∃(g:Fo) (b:Bool),NrF f g/\(if b=true then g=trimF f/\0<(Eb f.vars.toNat f.nodes (QN f) f.nodes.length).1 else g=⟨f.vars,[],f.top⟩/\(Eb f.vars.toNat f.nodes (QN f) f.nodes.length).1=0):=(by by_cases hz:(Eb f.vars.toNat f.nodes (QN f) f.nodes.length).1=0;{exact⟨_,false,b4O f h hz,by simp[hz]⟩};exact⟨_,true,b2j f h,aA⟩);obtain⟨g,b,nr,hb⟩:=key;have hgv:=nr.vars;have hgl:=nr.ok.len;have b8I:2^N<=2^10:=bZ au hN;have hT0:tJ (Tb.new o):=Wu ho aj;have hn0:(Tb.new o).n=g.vars.toNat:=(by show(o.length:Int)=_;omega);obtain⟨F,F0,F1,F2⟩:=G6 (λk s=>BdI g (Tb.new o) k k s) b7Z g.vars.toNat ⟨Tb.new o,List.replicate (g.vars.toNat+g.nodes.length) 0⟩
  ⟨hT0,.refl _,ak,λj hj=>absurd hj (gW _),aT _⟩ (λk s hk hs=>b0q aj hk hn0 hs)
 obtain⟨G,G0,G1,G2⟩:=G6 (λk s=>BdI g (Tb.new o) (g.vars.toNat+k*(600*2^N)) (g.vars.toNat+k) s) (b7Y g) g.nodes.length (F g.vars.toNat)
  (by have:=F1 g.vars.toNat (aT _);simpa using this) (λk s hk hs=>by
   have h1:k*(600*2^N)<=128*(600*2^10):=gU aj aj;have:=b0p (N:=N) nr.ok aj aj aj hk hn0 hs;rw[show g.vars.toNat+(k+1)*(600*2^N)=g.vars.toNat+k*(600*2^N)+600*2^N by rw[dw];omega];exact this)
 have last:=G1 g.nodes.length (aT _);have hsz:=last.size;have h1:g.nodes.length*(600*2^N)<=128*(600*2^10):=gU aj aj;have b8O:=nr.ok.top;have b8s:=nr.ok.vars;have lt:=last.all g.top.toNat aj;have hnG:(G g.nodes.length).T.n=g.vars.toNat:=(by rw[last.ext.n,hn0]);obtain⟨ns,x,c,c1,c2,c3,c4,c5⟩:=a7d (G g.nodes.length).T last.good aj (by
  rw[hnG,aO];have:2^g.vars.toNat<=2^10:=bZ au aj;omega) _ lt.1
 have hord:(G g.nodes.length).T.order=o:=last.ext.order;rw[hord]at c;refine⟨ns,x,?_,λk hk=>(c1 k hk).tr last.ext,c2,c3,λt=>?_,?_⟩
 ·have cs:=b3v f h;have ct:=b3u f h;have co:=a97 ho aj;have cn:=b1b ho aj;have hFG:=G0.symm;have b6T:belF f.vars.toNat f.nodes f.top.toNat=QN f:=rfl;rw[b6T]at cs;generalize Eb f.vars.toNat f.nodes (QN f) f.nodes.length=sz at *;rw[show(f.vars.toNat:Int)=f.vars by omega]at co;refine ZN Tryz.func58 λhok=>?_;refine .zW cs ?_;refine .zW co ?_;constructor<;>intro g1
  ·cases b with
   |false=>exfalso;simp at hb;omega
   | true =>
     obtain⟨rfl,hb⟩:=hb;generalize trimF f=g at *;refine ZW ?_;refine .zW ct ?_;refine .gen _ _ (qZ.frame [] cn ⟨rfl,rfl,rfl,rfl⟩ trivial (rQ _)) λ_=>ZW ?_;rw[aC];refine⟨rW aj aj,ZW ?_⟩;rw[show g.vars+(g.nodes.length:Int)=((g.vars.toNat+g.nodes.length:Nat):Int) by omega];refine⟨⟨aj,dQ _,by show((g.vars.toNat+g.nodes.length:Nat):Int)*((8:Nat):Int)<=281474976710656;omega,aj⟩,.wr ?_⟩;rw[aO];refine ZW ?_;refine qW.of <| (qN.inv (.refl _ _) (λk:Nat=>k<=g.vars.toNat) (λk=>[(59,.int .i64 k)]) (λk=>bdX (g.vars.toNat+g.nodes.length) (F k).refs::tb2 (F k).T [(1,.box b1D),(0,.box g.av)]) (λk=>g.vars.toNat-k) 0 (aP _) ?_ ?_ ?_);{exact λ_=>rfl}
     ·rw[F0];refine Zv wk ?_;repeat' first|exact Zq|apply aI
      all_goals first|(rw[bQ hgn];rfl)|(show tV (List.replicate _ _) (List.map _ (List.replicate _ 0));rw[jM];exact qX _)|(show le0 _ (AV.ms 2 0 (FZ o o.length).length (FZ o o.length).length 1);rw[AZ];rfl)|exact AZ _ _|exact(AZ _ _).symm|skip
     intro k hk _;have fk:=F1 k hk;have fkl:=fk.len;refine ZS ?_ ?_<;>intro h
     ·have hlt:k<g.vars.toNat:=aj;obtain⟨x,q,e⟩:=F2 k hlt;refine ZW ?_;refine .gen _ _ (b03 [(7,_)] ak q (λ_=>rfl) (λ_=>rfl) rfl) λ_=>ZW ?_;refine⟨⟨aj,aj⟩,ZW ?_⟩;refine⟨by rw[aC];omega,rfl,ZW ?_⟩;refine ZG ?_;refine⟨k+1,?_,?_,?_⟩;{exact hlt}
      ·rw[e];refine Zv wk ?_;repeat' first|exact Zq|apply aI
       all_goals first|exact qP _|exact qQ _ _|(rw[bH,aO,dP];exact qX _)|skip
      omega
     have hk:k=g.vars.toNat:=aj;subst hk;clear h fkl fk;rw[hFG];refine ZW ?_;refine qW.of <| (qN.inv (.refl _ _) (λk:Nat=>k<=g.nodes.length) (λk=>[(72,.int .i64 k)]) (λk=>bdX (g.vars.toNat+g.nodes.length) (G k).refs::tb2 (G k).T [(1,.box b1D),(0,.box g.av)]) (λk=>g.nodes.length-k) 0 (aP _) ?_ ?_ ?_);{exact λ_=>rfl}
     ·refine Zv wk ?_;repeat' first|exact Zq|apply aI
      all_goals first|exact qP _|exact qQ _ _|skip
     intro k hk _;have fk:=G1 k hk;have fkl:=fk.len;constructor<;>intro h
     ·have hlt:k<g.nodes.length:=(by simp at h;omega);obtain⟨x,q,e,qs⟩:=G2 k hlt;have ex:g.nodes.getD k default=g.nodes[k]:=(by rw[aF,aH hlt];rfl);have nk:=nr.ok.nodes k hlt;have hnl:(g.nodes[k]).args.length<=16:=(by have hal:=nk.num;split at hal;{omega};split at hal <;> omega);have hna:=nk.args;rw[ex]at q;refine ZW ?_;refine sH hlt ?_;generalize g.nodes[k]=nd at *;generalize G k=s at *;refine ZW ?_;refine qW.of <| (qN.inv (.grow 15 1 [] .qV rfl (.inl ⟨rfl,rfl⟩) (.refl _ _)) (λj:Nat=>j<=nd.args.length) (λj=>[(80,.int .i64 j),(15,.sl 1 (((nd.args.take j).map (Tn s.refs)).map (.int .i64)) (.own 9))]) (λj=>(9,.tok 1 j)::(8,.box nd.av)::bdX (g.vars.toNat+g.nodes.length) s.refs::tb2 s.T [(1,.box b1D),(0,.box g.av)]) (λj=>nd.args.length-j) 0 (aP _) ?_ ?_ ?_);{exact λ_=>rfl}
      ·refine Zv wk ?_;repeat' first|exact Zq|apply aI
       all_goals first|exact qP _|exact qQ _ _|skip
      intro j hj _;have htl:((nd.args.take j).map (Tn s.refs)).length=j:=by rw[aC,dh];omega
      refine ZS ?_ ?_<;>intro g3
      ·have hjl:j<nd.args.length:=(by simpa using g3);have ha:=hna _ (aN hjl);have ht1:(nd.args.take (j+1)).map (Tn s.refs)=(nd.args.take j).map (Tn s.refs)++[Tn s.refs nd.args[j]]:=(by rw[bV hjl,aV];rfl);refine ZW ?_;refine sH hjl ?_;generalize nd.args[j]=a at *;refine ZW ?_;refine⟨⟨aj,aj⟩,ZW ?_⟩;rw[bH];refine ug 0 ⟨aj,aj⟩ (ZW ?_);refine⟨rfl,ZW ?_⟩;refine⟨by rw[aC,htl],.mk (by simp[maxL];omega) aA (ZW ?_)⟩;refine ZG ?_;refine⟨j+1,?_,?_,?_⟩;{exact hjl}
       ·rw[ht1];refine Zv ?_ ?_
        ·repeat' first|exact Zq|apply aI
         all_goals first|(show tV _ (List.map _ (_++[_]));rw[aV];exact qX _)|skip
        repeat' first|exact Zq|apply aI
        all_goals first|exact qP _|exact qQ _ _|(simp;omega)|skip
       omega
      have hjl:j=nd.args.length:=(by(have:¬j<nd.args.length:=by simpa using g3);omega);subst hjl;rw[bn];refine ZW ?_;refine xG.late [2] ⟨[true,true,false,true,true,true,false,true,false,true,false],by kernel_rfl,?_⟩;conv=>whnf
      refine⟨rW aj aj,?_⟩;conv=>whnf
      refine .gen _ _ (YP (b03 (As:=[.ptr 5 [] 0,nd.av,iL (nd.args.map (Tn s.refs))]) [(9,_),(8,_),(7,_)] ak q (λ_=>rfl) (λ_=>rfl) rfl) ?_) λ_=>?_;{exact wk};conv=>whnf
      (refine aI (by(conv=>whnf)<;>exact rfl) ?_;(conv=>whnf))
      refine⟨⟨aj,aj⟩,?_⟩;conv=>whnf
      refine⟨by rw[aC];omega,rfl,?_⟩;conv=>whnf
      (refine aI (by(conv=>whnf)<;>exact rfl) ?_;(conv=>whnf))
      refine⟨rW aj aj,ZW ?_⟩;refine⟨⟨aj,aj⟩,?_⟩;rw[show(List.map (AV.int .i64) s.refs).set (0+(g.vars+(k:Int)).toNat) (strip (.int .i64 x))=(s.refs.set (g.vars.toNat+k) x).map (.int .i64)from by rw[dP,bH,show(g.vars+(k:Int)).toNat=g.vars.toNat+k by omega];rfl];rw[<- e];refine ZW ?_;have fk1:=(G1 (k+1) hlt).len;have ev1:(G (k+1)).refs.getD (g.vars.toNat+k) 0=x:=(by rw[e,Ad aj,aG rfl]);rw[show 0+(g.vars+(k:Int)).toNat=g.vars.toNat+k by omega];refine ug 0 ⟨aj,aj⟩ ?_;rw[aO,ev1];refine ZW ?_;refine⟨rfl,ZW ?_⟩;refine .gen _ _ (b03 (As:=[.ptr 5 [] 0,.int .i64 x,.int .i64 4096]) [(9,_),(8,_),(7,_)] ak qs (λ_=>rfl) (λ_=>rfl) rfl) λ_=>ZW ?_;refine ZG ?_;refine⟨k+1,?_,?_,?_⟩;{exact hlt}
      ·refine Zv wk ?_;repeat' first|exact Zq|apply aI
       all_goals first|exact qP _|exact qQ _ _|skip
      omega
     have hk:k=g.nodes.length:=(by simp at h;omega);subst hk;generalize G g.nodes.length=s at *;refine ZW ?_;refine⟨⟨aj,aj⟩,ZW ?_⟩;rw[bH];refine ug 0 ⟨aj,aj⟩ ?_;rw[aO];refine ZW ?_;refine⟨rfl,ZW ?_⟩;refine .gen _ _ (b03 (As:=[.ptr 5 [] 0,.int .i64 (s.refs.getD g.top.toNat 0)]) (R':=Oc o ns x) [(7,_)] ak c (λ_=>rfl) (λ_=>rfl) rfl) λ_=>ZW ?_;exact ZX
  cases b with
  |true=>exfalso;simp at hb;omega
  | false =>
    obtain⟨hge,hb⟩:=hb;have hgn:g.nodes.length=0:=(by rw[hge];rfl);have hnil:AV.ag [.int .i64 f.vars,.qV,.int .i64 f.top]=AV.ag [.int .i64 g.vars,.qV,.int .i64 g.top]:=(by rw[hge]);refine ZW ?_;refine .gen _ _ (qZ.frame [] cn ⟨rfl,rfl,rfl,rfl⟩ trivial (rQ _)) λ_=>ZW ?_;refine⟨rW aj aj,ZW ?_⟩;rw[show f.vars+(0:Int)=((g.vars.toNat+g.nodes.length:Nat):Int) by omega];refine⟨⟨aj,dQ _,by show((g.vars.toNat+g.nodes.length:Nat):Int)*((8:Nat):Int)<=281474976710656;omega,aj⟩,.wr ?_⟩;rw[aO];rw[hnil];refine ZW ?_;refine qW.of <| (qN.inv (.refl _ _) (λk:Nat=>k<=g.vars.toNat) (λk=>[(59,.int .i64 k)]) (λk=>bdX (g.vars.toNat+g.nodes.length) (F k).refs::tb2 (F k).T [(1,.box b1D),(0,.box g.av)]) (λk=>g.vars.toNat-k) 0 (aP _) ?_ ?_ ?_);{exact λ_=>rfl}
    ·rw[F0];refine Zv wk ?_;repeat' first|exact Zq|apply aI
     all_goals first|(rw[bQ hgn];rfl)|(show tV (List.replicate _ _) (List.map _ (List.replicate _ 0));rw[jM];exact qX _)|(show le0 _ (AV.ms 2 0 (FZ o o.length).length (FZ o o.length).length 1);rw[AZ];rfl)|exact AZ _ _|exact(AZ _ _).symm|skip
    intro k hk _;have fk:=F1 k hk;have fkl:=fk.len;refine ZS ?_ ?_<;>intro h
    ·have hlt:k<g.vars.toNat:=aj;obtain⟨x,q,e⟩:=F2 k hlt;refine ZW ?_;refine .gen _ _ (b03 [(7,_)] ak q (λ_=>rfl) (λ_=>rfl) rfl) λ_=>ZW ?_;refine⟨⟨aj,aj⟩,ZW ?_⟩;refine⟨by rw[aC];omega,rfl,ZW ?_⟩;refine ZG ?_;refine⟨k+1,?_,?_,?_⟩;{exact hlt}
     ·rw[e];refine Zv wk ?_;repeat' first|exact Zq|apply aI
      all_goals first|exact qP _|exact qQ _ _|(rw[bH,aO,dP];exact qX _)|skip
     omega
    have hk:k=g.vars.toNat:=aj;subst hk;clear h fkl fk;rw[hFG];refine ZW ?_;refine qW.of <| (qN.inv (.refl _ _) (λk:Nat=>k<=g.nodes.length) (λk=>[(72,.int .i64 k)]) (λk=>bdX (g.vars.toNat+g.nodes.length) (G k).refs::tb2 (G k).T [(1,.box b1D),(0,.box g.av)]) (λk=>g.nodes.length-k) 0 (aP _) ?_ ?_ ?_);{exact λ_=>rfl}
    ·refine Zv wk ?_;repeat' first|exact Zq|apply aI
     all_goals first|exact qP _|exact qQ _ _|skip
    intro k hk _;have fk:=G1 k hk;have fkl:=fk.len;constructor<;>intro h
    ·have hlt:k<g.nodes.length:=(by simp at h;omega);obtain⟨x,q,e,qs⟩:=G2 k hlt;have ex:g.nodes.getD k default=g.nodes[k]:=(by rw[aF,aH hlt];rfl);have nk:=nr.ok.nodes k hlt;have hnl:(g.nodes[k]).args.length<=16:=(by have hal:=nk.num;split at hal;{omega};split at hal <;> omega);have hna:=nk.args;rw[ex]at q;refine ZW ?_;refine sH hlt ?_;generalize g.nodes[k]=nd at *;generalize G k=s at *;refine ZW ?_;refine qW.of <| (qN.inv (.grow 15 1 [] .qV rfl (.inl ⟨rfl,rfl⟩) (.refl _ _)) (λj:Nat=>j<=nd.args.length) (λj=>[(80,.int .i64 j),(15,.sl 1 (((nd.args.take j).map (Tn s.refs)).map (.int .i64)) (.own 9))]) (λj=>(9,.tok 1 j)::(8,.box nd.av)::bdX (g.vars.toNat+g.nodes.length) s.refs::tb2 s.T [(1,.box b1D),(0,.box g.av)]) (λj=>nd.args.length-j) 0 (aP _) ?_ ?_ ?_);{exact λ_=>rfl}
     ·refine Zv wk ?_;repeat' first|exact Zq|apply aI
      all_goals first|exact qP _|exact qQ _ _|skip
     intro j hj _;have htl:((nd.args.take j).map (Tn s.refs)).length=j:=by rw[aC,dh];omega
     refine ZS ?_ ?_<;>intro g3
     ·have hjl:j<nd.args.length:=(by simpa using g3);have ha:=hna _ (aN hjl);have ht1:(nd.args.take (j+1)).map (Tn s.refs)=(nd.args.take j).map (Tn s.refs)++[Tn s.refs nd.args[j]]:=(by rw[bV hjl,aV];rfl);refine ZW ?_;refine sH hjl ?_;generalize nd.args[j]=a at *;refine ZW ?_;refine⟨⟨aj,aj⟩,ZW ?_⟩;rw[bH];refine ug 0 ⟨aj,aj⟩ (ZW ?_);refine⟨rfl,ZW ?_⟩;refine⟨by rw[aC,htl],.mk (by simp[maxL];omega) aA (ZW ?_)⟩;refine ZG ?_;refine⟨j+1,?_,?_,?_⟩;{exact hjl}
      ·rw[ht1];refine Zv ?_ ?_
       ·repeat' first|exact Zq|apply aI
        all_goals first|(show tV _ (List.map _ (_++[_]));rw[aV];exact qX _)|skip
       repeat' first|exact Zq|apply aI
       all_goals first|exact qP _|exact qQ _ _|(simp;omega)|skip
      omega
     have hjl:j=nd.args.length:=(by(have:¬j<nd.args.length:=by simpa using g3);omega);subst hjl;rw[bn];refine ZW ?_;refine xG.late [2] ⟨[true,true,false,true,true,true,false,true,false,true,false],by kernel_rfl,?_⟩;conv=>whnf
     refine⟨rW aj aj,?_⟩;conv=>whnf
     refine .gen _ _ (YP (b03 (As:=[.ptr 5 [] 0,nd.av,iL (nd.args.map (Tn s.refs))]) [(9,_),(8,_),(7,_)] ak q (λ_=>rfl) (λ_=>rfl) rfl) ?_) λ_=>?_;{exact wk};conv=>whnf
     (refine aI (by(conv=>whnf)<;>exact rfl) ?_;(conv=>whnf))
     refine⟨⟨aj,aj⟩,?_⟩;conv=>whnf
     refine⟨by rw[aC];omega,rfl,?_⟩;conv=>whnf
     (refine aI (by(conv=>whnf)<;>exact rfl) ?_;(conv=>whnf))
     refine⟨rW aj aj,ZW ?_⟩;refine⟨⟨aj,aj⟩,?_⟩;rw[show(List.map (AV.int .i64) s.refs).set (0+(g.vars+(k:Int)).toNat) (strip (.int .i64 x))=(s.refs.set (g.vars.toNat+k) x).map (.int .i64)from by rw[dP,bH,show(g.vars+(k:Int)).toNat=g.vars.toNat+k by omega];rfl];rw[<- e];refine ZW ?_;have fk1:=(G1 (k+1) hlt).len;have ev1:(G (k+1)).refs.getD (g.vars.toNat+k) 0=x:=(by rw[e,Ad aj,aG rfl]);rw[show 0+(g.vars+(k:Int)).toNat=g.vars.toNat+k by omega];refine ug 0 ⟨aj,aj⟩ ?_;rw[aO,ev1];refine ZW ?_;refine⟨rfl,ZW ?_⟩;refine .gen _ _ (b03 (As:=[.ptr 5 [] 0,.int .i64 x,.int .i64 4096]) [(9,_),(8,_),(7,_)] ak qs (λ_=>rfl) (λ_=>rfl) rfl) λ_=>ZW ?_;refine ZG ?_;refine⟨k+1,?_,?_,?_⟩;{exact hlt}
     ·refine Zv wk ?_;repeat' first|exact Zq|apply aI
      all_goals first|exact qP _|exact qQ _ _|skip
     omega
    have hk:k=g.nodes.length:=(by simp at h;omega);subst hk;generalize G g.nodes.length=s at *;refine ZW ?_;refine⟨⟨aj,aj⟩,ZW ?_⟩;rw[bH];refine ug 0 ⟨aj,aj⟩ ?_;rw[aO];refine ZW ?_;refine⟨rfl,ZW ?_⟩;refine .gen _ _ (b03 (As:=[.ptr 5 [] 0,.int .i64 (s.refs.getD g.top.toNat 0)]) (R':=Oc o ns x) [(7,_)] ak c (λ_=>rfl) (λ_=>rfl) rfl) λ_=>ZW ?_;exact ZX
 ·rw[c4,lt.2,<- nr.val (l0 f.vars.toNat t) (a2F _ _),hgv]
 have:2^(G g.nodes.length).T.n.toNat<=2^10:=bZ au (by rw[hnG];omega);omega
def Wp(k:Int)(n:Nat):Bool:=if k=0 then decide (n=0)else if k=1 then decide (n=1)else decide (1<=n/\n<=16)
def b0r(v:Int)(i:Nat)(a:Int):Bool:=decide (a<0\/v+i<=a)
def b2v(x:Nd):Int:=if x.kind=0 then(if x.k≠0/\x.k≠1 then 3 else 0)else if x.kind=4 then(if x.k<1\/(x.args.length:Int)<x.k then 3 else 0)else if x.k≠0 then 2 else 0
def zk(v:Int)(i:Nat)(x:Nd):Int:=if x.kind<0\/5<x.kind then 7 else if Wp x.kind x.args.length=false then 11 else if x.args.any (b0r v i)=true then 10 else b2v x
def DF(v:Int):Nat->List Nd->Int
 |_,[]=>0
 |i,x::l=>if zk v i x≠0 then zk v i x else DF v (i+1) l
def Bg(f:Fo):Int:=if f.vars<0\/24<f.vars then 3 else if 128<f.nodes.length then 4 else if DF f.vars 0 f.nodes≠0 then DF f.vars 0 f.nodes else if ¬(0<=f.top/\f.top<f.vars+f.nodes.length)then 10 else 0
theorem a88{v:Int}{i:Nat}{x:Nd}(h:zk v i x=0):NK v i x:=by
 unfold zk at h;split at h;{cases h};rename_i h1;split at h;{cases h};rename_i h2;split at h;{cases h};rename_i h3;have h2:Wp x.kind x.args.length=true:=by simpa using h2
 have h3:∀a∈x.args,0<=a/\a<v+i:=λa ha=>by
  have:b0r v i a=false:=by
   cases hb:b0r v i a with
   |false=>rfl
   |true=>exact absurd (gB.2 ⟨a,ha,hb⟩) h3
  unfold b0r at this;have:=jK this;omega
 refine⟨aj,?_,h3,?_⟩;{unfold Wp at h2;split;{rename_i e;rw[aG e]at h2;simpa using h2};rename_i e;rw[aB e]at h2;split;{rename_i e;rw[aG e]at h2;simpa using h2};rename_i e;rw[aB e]at h2;simpa using h2};unfold b2v at h;split;{rename_i e;rw[aG e]at h;split at h;{cases h};omega};rename_i e;rw[aB e]at h;split;{rename_i e;rw[aG e]at h;split at h;{cases h};omega};rename_i e;rw[aB e]at h;split at h;{cases h};omega
theorem ZC{v:Int}:∀(l:List Nd) (i:Nat),DF v i l=0->∀(k:Nat) (h:k<l.length),NK v (i+k) l[k]
 | [],_,_,k,h=>absurd h (gW _)
 | x::l,i,he,k,h=>by
   unfold DF at he;split at he;{contradiction};rename_i e;have e:zk v i x=0:=by simpa using e
   cases k with
   |zero=>exact a88 e
   |succ k =>have:=ZC l (i+1) he k (by simpa using h);rw[show i+1+k=i+(k+1) by omega]at this;exact this
theorem a2P{f:Fo}(h:Bg f=0):Om f:=by unfold Bg at h;split at h;{cases h};split at h;{cases h};split at h;{contradiction};split at h;{cases h};rename_i h1 h2 h3 h4;refine⟨aj,aj,λi hi=>?_,aj⟩;have:=ZC f.nodes 0 (by simpa using h3) i hi;rw[bH]at this;exact this
theorem a1g{v:Int}{l:List Nd}{i:Nat}(h:i<l.length):DF v i (l.drop i)=if zk v i l[i]≠0 then zk v i l[i]else DF v (i+1) (l.drop (i+1)):=by rw[aZ h];rfl
theorem b5I(k:Int)(n:Nat):ZQ 229 [.int .i64 k,.int .i64 n] [] (.bool (Wp k n)) []:=by refine ZN Tryz.func229 λhok=>?_;constructor<;>intro g;{rw[show Wp k n=decide (n=0)from aG g];refine ZW ?_;refine ZF ?_;show((n:Int)=0)↔_;simp};rw[show Wp k n=if k=1 then decide (n=1)else decide (1<=n/\n<=16)from aB g];refine ZS ?_ ?_<;>intro g;{rw[aG g];refine ZW ?_;refine ZF ?_;show((n:Int)=1)↔_;simp;omega};rw[aB g];refine ZS ?_ ?_<;>intro g;{refine ZW ?_;refine ZF ?_;show((n:Int)<=16)↔_;simp;omega};refine ZW ?_;refine ZF ?_;show decide (1<=n/\n<=16)=false;exact bM aj
theorem a7L{p:Int->Bool}{l:List Int}{j:Nat}(h:j<l.length)(h1:(l.take j).any p=false)(h2:p l[j]=false):(l.take (j+1)).any p=false:=by rw[bV h,List.any_append,h1];simp[h2]
theorem YU(f:Fo)(hv:0<=f.vars/\f.vars<=24)(i:Nat)(hi:i<f.nodes.length)(hl:f.nodes.length<=128)(R:AV)(hR:R=zh (zk f.vars i f.nodes[i])):ZQ 183 [f.av,.int .i64 i] [] R []:=by refine ZN Tryz.func183 λhok=>?_;refine sH hi ?_;generalize f.nodes[i]=x at *;have ca:=b5I x.kind x.args.length;refine ZS ?_ ?_<;>intro g;{have hE:zk f.vars i x=7:=aG (.inl g);obtain rfl:R=.uY 49 (.int .i64 7):=(by rw[hR];first|(rw[show zk f.vars i x=7 from hE];rfl)|rfl);exact ZJ};refine ZW ?_;refine aQ (λg'=>?_) (λg'=>?_);{have hE:zk f.vars i x=7:=aG (.inr g');obtain rfl:R=.uY 49 (.int .i64 7):=(by rw[hR];first|(rw[show zk f.vars i x=7 from hE];rfl)|rfl);exact ZJ};have hE1:zk f.vars i x=if Wp x.kind x.args.length=false then 11 else if x.args.any (b0r f.vars i)=true then 10 else b2v x:=aB aj;refine ZW ?_;rw[show(((x.args.map (AV.int .i64)).length:Nat):Int)=(x.args.length:Int) by simp];refine .zW ca ?_;constructor<;>intro g;{have hE:=hE1.trans (aG (by simpa using g));obtain rfl:R=.uY 49 (.int .i64 11):=(by rw[hR];first|(rw[show zk f.vars i x=11 from hE];rfl)|rfl);exact ZJ};have hE2:=hE1.trans (aB (by simpa using g));have hal:x.args.length<=16:=(by have:Wp x.kind x.args.length=true:=(by simpa using g);unfold Wp at this;split at this;{have:=eF this;omega};split at this;{have:=eF this;omega};have:=eF this;omega);clear hE1;refine ZW ?_;refine qW.of <| qN.inv (.refl _ _) (fun(j:Nat)=>j<=x.args.length/\(x.args.take j).any (b0r f.vars i)=false) (fun(j:Nat)=>[(33,.int .i64 j)]) (λ_=>_) (fun(j:Nat)=>x.args.length-j) 0 ?_ (λ_=>rfl) ?_ ?_;{exact⟨aP _,rfl⟩};{exact wk};rintro j ⟨hj,hany⟩ _;refine ZS ?_ ?_<;>intro g1;{have hjl:j<x.args.length:=(by simpa using g1);have hat:=a7L hjl hany;have hin:=aN hjl;refine ZW ?_;refine sH hjl ?_;generalize x.args[j]=a at *;have bad:b0r f.vars i a=true->zk f.vars i x=10:=λhb=>hE2.trans (aG (gB.2 ⟨a,hin,hb⟩));refine ZS ?_ ?_<;>intro g;{have hE:=bad (fC (.inl g));obtain rfl:R=.uY 49 (.int .i64 10):=(by rw[hR];first|(rw[show zk f.vars i x=10 from hE];rfl)|rfl);exact ZJ};refine ZW ?_;refine ZG ?_;refine aQ (λg'=>?_) (λg'=>?_);{have hE:=bad (fC (.inr g'));obtain rfl:R=.uY 49 (.int .i64 10):=(by rw[hR];first|(rw[show zk f.vars i x=10 from hE];rfl)|rfl);exact ZJ};refine ZW ?_;refine ZG ?_;refine⟨j+1,?_,?_,?_⟩;{exact⟨hjl,hat (bM aj)⟩};{exact wk};omega};have hjl:j=x.args.length:=(by(have:¬j<x.args.length:=by simpa using g1);omega);subst hjl;rw[bn]at hany;have hK:=hE2.trans (aB (by rw[hany];simp));refine ZS ?_ ?_<;>intro g;{rw[show b2v x=if x.k≠0/\x.k≠1 then 3 else 0 from aG g]at hK;refine ZS ?_ ?_<;>intro g;{refine ZW ?_;refine aQ (λg'=>?_) (λg'=>?_);{have hE:=hK.trans (aG ⟨g,g'⟩);obtain rfl:R=.uY 49 (.int .i64 3):=(by rw[hR];first|(rw[show zk f.vars i x=3 from hE];rfl)|rfl);exact ZJ};have hE:=hK.trans (aB (λh=>g' h.2));obtain rfl:R=.vK:=(by rw[hR,show zk f.vars i x=0 from hE];rfl);exact ZJ};have hE:=hK.trans (aB (λh=>g h.1));obtain rfl:R=.vK:=(by rw[hR,show zk f.vars i x=0 from hE];rfl);exact ZJ};have gk:=g;refine ZS ?_ ?_<;>intro g;{rw[show b2v x=if x.k<1\/(x.args.length:Int)<x.k then 3 else 0 from(aB gk).trans (aG g)]at hK;refine ZS ?_ ?_<;>intro g;{have hE:=hK.trans (aG (.inl g));obtain rfl:R=.uY 49 (.int .i64 3):=(by rw[hR];first|(rw[show zk f.vars i x=3 from hE];rfl)|rfl);exact ZJ};refine ZW ?_;refine aQ (λg'=>?_) (λg'=>?_);{have hE:=hK.trans (aG (.inr (by simpa using g')));obtain rfl:R=.uY 49 (.int .i64 3):=(by rw[hR];first|(rw[show zk f.vars i x=3 from hE];rfl)|rfl);exact ZJ};have hE:=hK.trans (aB (λh=>h.elim g (λh=>g' (by simpa using h))));obtain rfl:R=.vK:=(by rw[hR,show zk f.vars i x=0 from hE];rfl);exact ZJ};rw[show b2v x=if x.k≠0 then 2 else 0 from(aB gk).trans (aB g)]at hK;refine ZS ?_ ?_<;>intro g;{have hE:=hK.trans (aG g);obtain rfl:R=.uY 49 (.int .i64 2):=(by rw[hR];first|(rw[show zk f.vars i x=2 from hE];rfl)|rfl);exact ZJ};have hE:=hK.trans (aB g);obtain rfl:R=.vK:=(by rw[hR,show zk f.vars i x=0 from hE];rfl);exact ZJ
theorem a7w(f:Fo)(hv:0<=f.vars/\f.vars<=24):ZQ 184 [f.av,.int .i64 f.top] [] (.bool (decide (0<=f.top/\f.top<f.vars+f.nodes.length))) []:=by refine ZI Tryz.func184 λhok=>?_;have hi1 : -9223372036854775808<=f.top/\f.top<=9223372036854775807:=hok.1.2.2.1;refine Z0 ?_;refine aQ (λ_=>?_) (λg=>by exfalso;omega);refine ZS ?_ ?_<;>intro g0;{refine ZS ?_ ?_<;>intro g;{refine ZW ?_;refine ZF ?_;exact fC aj};refine ZW ?_;refine ZG ?_;refine ZF ?_;show(f.top-f.vars<(((f.nodes.map Nd.av).length:Nat):Int))↔_;rw[lU,aC];omega};refine ZW ?_;refine ZF ?_;exact bM aj
theorem a0D(f:Fo)(R:AV)(hR:R=zh (Bg f)):ZQ 110 [f.av] [] R []:=by refine ZN Tryz.func110 λhok=>?_;constructor<;>intro g;{have hE:Bg f=3:=aG (.inl g);obtain rfl:R=.uY 49 (.int .i64 3):=(by rw[hR,show Bg f=3 from hE];rfl);exact ZJ};refine ZW ?_;refine aQ (λg'=>?_) (λg'=>?_);{have hE:Bg f=3:=aG (.inr g');obtain rfl:R=.uY 49 (.int .i64 3):=(by rw[hR,show Bg f=3 from hE];rfl);exact ZJ};have hE1:Bg f=if 128<f.nodes.length then 4 else if DF f.vars 0 f.nodes≠0 then DF f.vars 0 f.nodes else if ¬(0<=f.top/\f.top<f.vars+f.nodes.length)then 10 else 0:=aB aj;refine ZW ?_;rw[aC];constructor<;>intro g2;{have hE:=hE1.trans (aG aj);obtain rfl:R=.uY 49 (.int .i64 4):=(by rw[hR,show Bg f=4 from hE];rfl);exact ZJ};have hE2:=hE1.trans (aB aj);clear hE1;have cv:=a7w f aj;have cn:=λi hi=>YU f aj i hi aj;refine ZW ?_;refine qW.of <| qN.inv (.refl _ _) (fun(i:Nat)=>i<=f.nodes.length/\DF f.vars 0 f.nodes=DF f.vars i (f.nodes.drop i)) (fun(i:Nat)=>[(22,.int .i64 i)]) (λ_=>_) (fun(i:Nat)=>f.nodes.length-i) 0 ?_ (λ_=>rfl) ?_ ?_;{exact⟨aP _,rfl⟩};{exact wk};rintro i ⟨hi,hnd⟩ _;refine ZS ?_ ?_<;>intro g1;{have hil:i<f.nodes.length:=(by simpa using g1);have cni:=cn i hil _ rfl;rw[a1g hil]at hnd;by_cases he:zk f.vars i f.nodes[i]≠0;{rw[aG he]at hnd;rw[rY he]at cni;have hE:=hE2.trans (aG (by rw[hnd];exact he));rw[hnd]at hE;generalize zk f.vars i f.nodes[i]=ee at *;obtain rfl:R=.uY 49 (.int .i64 ee):=(by rw[hR,hE,rY he]);refine ZW ?_;refine .zW cni ?_;exact ZH};rw[aB he]at hnd;have he0:zk f.vars i f.nodes[i]=0:=(by simpa using he);rw[he0,rZ]at cni;refine ZW ?_;refine .zW cni ?_;refine ZG ?_;refine⟨i+1,?_,?_,?_⟩;{exact⟨hil,hnd⟩};{exact wk};omega};have hil:i=f.nodes.length:=(by(have:¬i<f.nodes.length:=by simpa using g1);omega);subst hil;rw[iU]at hnd;have hE3:=hE2.trans (aB (by rw[hnd];simp[DF]));refine ZW ?_;refine .zW cv ?_;constructor<;>intro g4;{have hE:=hE3.trans (aG (λh=>by rw[fC h]at g4;cases g4));obtain rfl:R=.uY 49 (.int .i64 10):=(by rw[hR,show Bg f=10 from hE];rfl);exact ZJ};have hE:=hE3.trans (aB (λh=>by rw[bM h]at g4;cases g4));obtain rfl:R=.vK:=(by rw[hR,hE];rfl);exact ZJ
def zo(a b:Fo):Int:=if Bg a≠0 then Bg a else if Bg b≠0 then Bg b else if a.vars≠b.vars then 11 else 0
theorem a0w{a b:Fo}(h:zo a b=0):Om a/\Om b/\a.vars=b.vars:=by unfold zo at h;split at h;{contradiction};split at h;{contradiction};split at h;{cases h};rename_i h1 h2 h3;exact⟨a2P (by simpa using h1),a2P (by simpa using h2),by simpa using h3⟩
theorem O4(a b:Fo)(R:AV)(hR:R=zh (zo a b)):ZQ 55 [a.av,b.av] [] R []:=by have ca:=a0D a _ rfl;have cb:=a0D b _ rfl;refine ZN Tryz.func55 λhok=>?_;refine qW.step 2 ?_;refine ZW ?_;refine aQ (λ_=>?_) (λh=>absurd ak h);refine ZW ?_;refine Ce.mk ⟨_,⟨au,rfl⟩,ZW ?_⟩;by_cases ha:Bg a≠0;{rw[rY ha]at ca;rw[show zo a b=Bg a from aG ha,rY ha]at hR;subst hR;refine .zW ca ?_;exact ZH};rw[show Bg a=0 by simpa using ha,rZ]at ca;rw[show zo a b=if Bg b≠0 then Bg b else if a.vars≠b.vars then 11 else 0 from aB ha]at hR;refine .zW ca ?_;refine ZG ?_;refine aQ (λ_=>?_) (λh=>absurd ak h);refine ZW ?_;refine Ce.mk ⟨_,⟨au,rfl⟩,ZW ?_⟩;by_cases hb:Bg b≠0;{rw[rY hb]at cb;rw[aG hb,rY hb]at hR;subst hR;refine .zW cb ?_;exact ZH};rw[show Bg b=0 by simpa using hb,rZ]at cb;rw[aB hb]at hR;refine .zW cb ?_;refine ZG ?_;refine aQ (λh=>absurd h ak) (λ_=>?_);refine ZS ?_ ?_<;>intro g;{rw[aG g]at hR;obtain rfl:R=.uY 49 (.int .i64 11):=(by rw[hR];rfl);exact ZJ};rw[aB g]at hR;obtain rfl:R=.vK:=(by rw[hR];rfl);exact ZJ
structure Df where
 eq:Bool
 st:Nat
 cnt:Nat
 ga:Nat
 lo:Nat
 deriving DecidableEq
def Df.av(d:Df):AV:=.ag [.bool d.eq,.int .i64 d.st,.int .i64 d.cnt,.int .i64 d.ga,.int .i64 d.lo]
def Sj(va vb:Nat->Bool):Nat->Df
 | 0=>⟨true,0,0,0,0⟩
 |s+1=>if va s=vb s then Sj va vb s else⟨false,if(Sj va vb s).eq=true then s else(Sj va vb s).st,(Sj va vb s).cnt+1,if vb s=true then(Sj va vb s).ga+1 else(Sj va vb s).ga,if vb s=true then(Sj va vb s).lo else(Sj va vb s).lo+1⟩
def faV(f:Fo)(m:Nat):Bool:=(zJ (l0 f.vars.toNat (G9 m)) f.nodes).getD f.top.toNat false
def Jm(a b:Fo):Df:=Sj (faV a) (faV b) (2^a.vars.toNat)
theorem Xo(va vb:Nat->Bool):∀n,((Sj va vb n).eq=true↔∀m<n,va m=vb m)/\((Sj va vb n).eq=true->(Sj va vb n).st=0) /\
  ((Sj va vb n).eq=false->(Sj va vb n).st<n/\va (Sj va vb n).st≠vb (Sj va vb n).st/\∀m<n,va m≠vb m->(Sj va vb n).st<=m) /\
  (Sj va vb n).cnt=(List.range n).countP (λm=>va m ^^ vb m)/\(Sj va vb n).ga=(List.range n).countP (λm=>(va m ^^ vb m)&&vb m)/\(Sj va vb n).lo=(List.range n).countP (λm=>(va m ^^ vb m)&&va m)
 | 0=>by simp[Sj]
 | n+1=>by
   obtain⟨h1,h2,h3,h4,h5,h6⟩:=Xo va vb n;unfold Sj;generalize Sj va vb n=d at *;rw[ng,kP,kP,kP];split;{rename_i e;refine⟨h1.trans ⟨λh m hm=>?_,λh m hm=>h m aj⟩,h2,λh=>?_,?_,?_,?_⟩;{by_cases hmn:m=n;{rw[hmn];exact e};exact h m aj};{obtain⟨q1,q2,q3⟩:=h3 h;refine⟨aj,q2,λm hm hne=>?_⟩;by_cases hmn:m=n;{rw[hmn]at hne;exact absurd e hne};exact q3 m aj hne};{rw[h4];simp[e]};{rw[h5];simp[e]};rw[h6];simp[e]};rename_i e;have hx:(va n ^^ vb n)=true:=by cases hv:va n <;> cases hw:vb n <;> simp_all
   refine⟨⟨λh=>(by cases h),λh=>absurd (h n aj) e⟩,λh=>(by cases h),λ_=>?_,?_,?_,?_⟩;{dsimp only;split;{rename_i hd;refine⟨aj,e,λm hm hne=>?_⟩;by_cases hmn:m=n;{omega};exact absurd (h1.1 hd m aj) hne};rename_i hd;obtain⟨q1,q2,q3⟩:=h3 (by simpa using hd);refine⟨aj,q2,λm hm hne=>?_⟩;by_cases hmn:m=n;{omega};exact q3 m aj hne};{dsimp only;rw[h4];simp[hx]};{dsimp only;rw[h5];cases hv:vb n <;> cases hw:va n <;> simp_all};dsimp only;rw[h6];cases hv:va n <;> cases hw:vb n <;> simp_all
theorem Dt.to{T T':Tb}(h:Xt T T'){ns:List Node}{k:Nat}{x:Node}(g:Dt T ns k x):Dt T' ns k x:=by have e:∀r,Ei T' ns r=Ei T ns r:=λr=>(by unfold Ei;rw[h.n,h.pl]);obtain⟨a,b,c,d,f⟩:=g;rw[<- h.n]at a;rw[<- h.pl,<- e]at d f;exact⟨a,b,c,d,f⟩
theorem EU{α:Type}{p q:α->Bool}:∀{l:List α},(∀x∈l,p x=q x)->l.countP p=l.countP q
 | [],_=>rfl
 |x::l,h=>by rw[iE,iE,EU λy hy=>h y (by simp[hy]),h x ak]
theorem XE{T:Tb}(hT:tJ T){r:Int}(hr:T.Rf r):T.cnt r=(List.range (2^T.n.toNat)).countP λm=>ev T.nodes (G9 m) r:=by unfold Tb.cnt;rw[OY];refine EU λm _=>?_;refine Ls hT r.toNat r hr (by have:=hr.1;omega) _ _ λj h0 h1 _=>?_;rw[aG ⟨h0,aj⟩];rfl
theorem b26{o:List Int}{n:Nat}(h:KD o n)(hn:n<=60)(o2 o1 o0:HO):ZQ 57 [iL o] [(2,o2),(1,o1),(0,o0)] (.ptr 6 [] 0) (tb3 (Tb.new o) [(2,o2),(1,o1),(0,o0)]):=by
 have c:=b1b h hn;have:=qZ.frame (H:=[(2,o2),(1,o1),(0,o0)]) (args:=[iL o]) [] c ⟨rfl,rfl,rfl,rfl⟩ trivial (rQ _);have e:Ri [] (hpN o) [(2,o2),(1,o1),(0,o0)]=tb3 (Tb.new o) [(2,o2),(1,o1),(0,o0)]:=by
  show(7,HO.tok 3 0)::(6,HO.box (.ag [.sl 1 (o.map (.int .i64)) .no,.ms 3 0 o.length o.length 1,.sl 3 [] (.own 7),.mp 4,.mp 5]))::(5,HO.tY Rh [])::(4,HO.tY Rh [])::(3,.arr 1 o.length ((FZ o o.length).map (.int .i64)))::_ =
   (7,HO.tok 3 0)::(6,HO.box (.ag [.sl 1 (o.map (.int .i64)) .no,.ms 3 0 (FZ o o.length).length (FZ o o.length).length 1,.sl 3 [] (.own 7),.mp 4,.mp 5]))::(5,HO.tY Rh [])::(4,HO.tY Rh [])::(3,.arr 1 (FZ o o.length).length ((FZ o o.length).map (.int .i64)))::_
  rw[AZ];rfl
 rw[e]at this;exact this
theorem a2U{va vb:Nat->Bool}:∀{n:Nat},(∀m<n,va m=vb m)->Sj va vb n=⟨true,0,0,0,0⟩
 | 0,_=>rfl
 |n+1,h=>by unfold Sj;rw[aG (h n aj)];exact a2U λm hm=>h m aj
theorem b5j{d:Df}{e:Bool}{s c g l:Nat}(h1:d.eq=e)(h2:d.st=s)(h3:d.cnt=c)(h4:d.ga=g)(h5:d.lo=l):d=⟨e,s,c,g,l⟩:=by obtain⟨_,_,_,_,_⟩:=d;dsimp only at *;subst h1 h2 h3 h4 h5;rfl
abbrev zDf:AV:=.ag [.ff,.int .i64 0,.int .i64 0,.int .i64 0,.int .i64 0]
theorem a0I(a b:Fo)(h0:zo a b=0)(h7:a.vars<=10):ZQ 17 [a.av,b.av] [] (.uy [(Jm a b).av,.vK]) []:=by
 obtain⟨ha,hb,hab⟩:=a0w h0;have cc:=O4 a b _ rfl;rw[h0,rZ]at cc;have hav:=ha.vars;have hp:=a0q a ha;have cd:=a3j a ha;generalize b4e a=o at *;have hpb:KD o b.vars.toNat:=(by rw[<- hab];exact hp);have hT0:tJ (Tb.new o):=Wu hp aj;have hn0:(Tb.new o).n=a.vars:=(by show(o.length:Int)=_;rw[hp.len];omega);obtain⟨nsa,xa,ba,ga,ra0,ra1,va,la⟩:=XU (N:=10) aj a ha aj hp;obtain⟨nsb,xb,bb,gb,rb0,rb1,vb,lb⟩:=XU (N:=10) aj b hb aj hpb;have hz:(Tb.new o).nodes.length=0:=rfl;obtain⟨T1,ya,ia,g1,x1,r1,v1,s1⟩:=a0x (Tb.new o) o nsa xa hT0 ga aj ⟨ra0,ra1⟩;obtain⟨T2,yb,ib,g2,x2,r2,v2,s2⟩:=a0x T1 o nsb xb g1 (λk hk=>(gb k hk).to x1) aj ⟨rb0,rb1⟩;have hn2:T2.n=a.vars:=(by rw[x2.n,x1.n,hn0]);have r12:=x2.rf r1;obtain⟨T3,d,xo,p3⟩:=b09 10 T2 g2 aj ya yb r12 r2 aj;have s3:=p3.size;have hn3:T3.n=a.vars:=(by rw[p3.ext.n,hn2]);have sm:=a3e 10 aj T3 p3.good aj aj d p3.rf;have cn:=λo2 o1 o0=>b26 hp aj o2 o1 o0;have ea:∀t,ev T2.nodes t ya=(zJ (l0 a.vars.toNat t) a.nodes).getD a.top.toNat false:=λt=>(by rw[x2.ev r1,v1,va]);have eb:∀t,ev T2.nodes t yb=(zJ (l0 b.vars.toNat t) b.nodes).getD b.top.toNat false:=λt=>(by rw[v2,vb]);have ed:∀m,ev T3.nodes (G9 m) d=(faV a m ^^ faV b m):=λm=>(by rw[p3.val,ea,eb];rfl);have spec:=Xo (faV a) (faV b) (2^a.vars.toNat);have hcmp:Jm a b=Sj (faV a) (faV b) (2^a.vars.toNat):=rfl;rw[<- hcmp]at spec;have iR:∀(m:Nat) (t:Int->Bool),(∀j,0<=j->j<T3.n->G9 m j=t j)->ev T3.nodes t d=ev T3.nodes (G9 m) d:=λm t ht =>
  Ls p3.good d.toNat d p3.rf (by have:=p3.rf.1;omega) _ _ λj h0 h1 _=>(ht j h0 h1).symm
 refine ZN Tryz.func17 λhok=>?_;refine .zW cc ?_;refine .zW cd ?_;refine .gen _ _ (cn _ _ _) λ_=>ZW ?_;refine qW.step 2 ?_;refine ZW ?_;refine aQ (λ_=>?_) (λh=>absurd ak h);refine ZW ?_;refine Ce.mk ⟨_,⟨au,rfl⟩,ZW ?_⟩;refine .zW ba ?_;refine .gen _ _ (YO (As:=[.ptr 6 [] 0,Oc o nsa xa]) (R':=.int .i64 ya) [(10,_),(9,_),(8,_)] ak ia (λ_=>rfl) (λ_=>rfl) rfl) λ_=>ZW ?_;refine⟨au,ZW ?_⟩;refine ZG ?_;refine aQ (λ_=>?_) (λh=>absurd ak h);refine ZW ?_;refine Ce.mk ⟨_,⟨au,rfl⟩,ZW ?_⟩;refine .zW bb ?_;refine .gen _ _ (YO (As:=[.ptr 6 [] 0,Oc o nsb xb]) (R':=.int .i64 yb) [(12,_),(11,_),(10,_),(9,_),(8,_)] ak ib (λ_=>rfl) (λ_=>rfl) rfl) λ_=>ZW ?_;refine⟨au,ZW ?_⟩;refine ZG ?_;refine aQ (λh=>absurd h ak) (λ_=>ZW ?_);refine⟨au,ZW ?_⟩;refine⟨au,ZW ?_⟩;refine .gen _ _ (YO (As:=[.ptr 6 [] 0,.int .i64 ya,.int .i64 yb]) (R':=.int .i64 d) [(12,_),(11,_),(10,_),(9,_),(8,_)] ak xo (λ_=>rfl) (λ_=>rfl) rfl) λ_=>ZW ?_;refine .gen _ _ (YO (As:=[.ptr 6 [] 0,.int .i64 d,.int .i64 4096]) (R':=.tt) [(12,_),(11,_),(10,_),(9,_),(8,_)] ak sm (λ_=>rfl) (λ_=>rfl) rfl) λ_=>?_;refine ZS ?_ ?_<;>intro hd
 ·have hsame:Jm a b=⟨true,0,0,0,0⟩:=by rw[hcmp];refine a2U λm _=>?_;have:=ed m;rw[hd,F9]at this;cases hx:faV a m <;> cases hy:faV b m <;> rw[hx,hy]at this <;> first|rfl|cases this
  rw[hsame];exact ZJ
 have hdr:=p3.rf;obtain⟨T4,q,l4,g4,x4,q1,q2,q3,s4⟩:=b3r 10 aj T3 p3.good aj d hdr hd 30000000 aj (by
  have:2*T3.n.toNat*(2^10*(2^10+2))<=2*10*(2^10*(2^10+2)):=gU aj (aT _);omega)
 rw[hn3]at l4;have hn4:T4.n=a.vars:=(by rw[x4.n,hn3]);have hd4:=x4.rf hdr;have ct1:=XI T4 g4 aj d hd4;have b77:=x4.rf (p3.ext.rf r2);have b7E:=x4.rf (p3.ext.rf r12);obtain⟨T5,e1,an1,p5⟩:=a7f 10 T4 g4 aj d yb hd4 b77 aj;have s5:=p5.size;have hn5:T5.n=a.vars:=(by rw[p5.ext.n,hn4]);have ct2:=XI T5 p5.good aj e1 p5.rf;obtain⟨T6,e2,an2,p6⟩:=a7f 10 T5 p5.good aj d ya (p5.ext.rf hd4) (p5.ext.rf b7E) aj;have s6:=p6.size;have hn6:T6.n=a.vars:=(by rw[p6.ext.n,hn5]);have ct3:=XI T6 p6.good aj e2 p6.rf;have eb3:∀m,ev T3.nodes (G9 m) yb=faV b m:=λm=>(by rw[p3.ext.ev r2,eb];rfl);have ea3:∀m,ev T3.nodes (G9 m) ya=faV a m:=λm=>(by rw[p3.ext.ev r12,ea];rfl);have k1:T4.cnt d=(Jm a b).cnt:=(by rw[XE g4 hd4,spec.2.2.2.1,hn4];exact EU λm _=>by rw[x4.ev hdr,ed]);have k2:T5.cnt e1=(Jm a b).ga:=(by rw[XE p5.good p5.rf,spec.2.2.2.2.1,hn5];exact EU λm _=>by rw[p5.val,x4.ev hdr,x4.ev (p3.ext.rf r2),ed,eb3]);have k3:T6.cnt e2=(Jm a b).lo:=(by rw[XE p6.good p6.rf,spec.2.2.2.2.2,hn6];exact EU λm _=>by rw[p6.val,p5.ext.ev hd4,p5.ext.ev b7E,x4.ev hdr,x4.ev (p3.ext.rf r12),ed,ea3]);have k4:(Jm a b).eq=false:=by
  cases he:(Jm a b).eq with
  |false=>rfl
  |true =>have h1:=spec.1.1 he q (by rw[<- hn3];exact q3);rw[ed,h1]at q1;cases hy:faV b q <;> simp[hy]at q1
 have k5:(Jm a b).st=q:=by
  obtain⟨w1,w2,w3⟩:=spec.2.2.1 k4;have h1:=w3 q (by rw[<- hn3];exact q3) (λh1=>by
   rw[ed,h1]at q1;cases hy:faV b q <;> simp[hy]at q1)
  have h2:=q2 (Jm a b).st (by
   rw[ed];cases hx:faV a (Jm a b).st <;> cases hy:faV b (Jm a b).st <;> simp_all)
  omega
 have hfin:Jm a b=⟨false,q,T4.cnt d,T5.cnt e1,T6.cnt e2⟩:=b5j k4 k5 k1.symm k2.symm k3.symm;rw[hfin];clear hfin k1 k2 k3 k4 k5 spec;refine xG.both [] [12,19] ⟨[true,true,true,false,false,true,true,false,true,true,true,true,false,false,false,true,true,true,true,false,false,false,true,false,true],by kernel_rfl,?_⟩;conv=>whnf
 refine .gen _ _ (YO (As:=[.ptr 6 [] 0,.int .i64 d,.int .i64 a.vars]) (R':=.int .i64 q) [(12,_),(11,_),(10,_),(9,_),(8,_)] ak l4 (λ_=>rfl) (λ_=>rfl) rfl) λ_=>?_;conv=>whnf
 refine .gen _ _ (YO (As:=[.ptr 6 [] 0,.int .i64 d]) (R':=.int .i64 (T4.cnt d:Nat)) [(12,_),(11,_),(10,_),(9,_),(8,_)] ak ct1 (λ_=>rfl) (λ_=>rfl) rfl) λ_=>?_;conv=>whnf
 refine⟨au,?_⟩;conv=>whnf
 (repeat (refine aI (by(conv=>whnf)<;>exact rfl) ?_;(conv=>whnf)))
 refine .gen _ _ (YO (As:=[.ptr 6 [] 0,.int .i64 d,.int .i64 yb]) (R':=.int .i64 e1) [(12,_),(11,_),(10,_),(9,_),(8,_)] ak an1 (λ_=>rfl) (λ_=>rfl) rfl) λ_=>?_;conv=>whnf
 refine .gen _ _ (YO (As:=[.ptr 6 [] 0,.int .i64 e1]) (R':=.int .i64 (T5.cnt e1:Nat)) [(12,_),(11,_),(10,_),(9,_),(8,_)] ak ct2 (λ_=>rfl) (λ_=>rfl) rfl) λ_=>?_;conv=>whnf
 refine⟨au,?_⟩;conv=>whnf
 (repeat (refine aI (by(conv=>whnf)<;>exact rfl) ?_;(conv=>whnf)))
 refine .gen _ _ (YO (As:=[.ptr 6 [] 0,.int .i64 d,.int .i64 ya]) (R':=.int .i64 e2) [(12,_),(11,_),(10,_),(9,_),(8,_)] ak an2 (λ_=>rfl) (λ_=>rfl) rfl) λ_=>?_;conv=>whnf
 refine .gen _ _ (YO (As:=[.ptr 6 [] 0,.int .i64 e2]) (R':=.int .i64 (T6.cnt e2:Nat)) [(12,_),(11,_),(10,_),(9,_),(8,_)] ak ct3 (λ_=>rfl) (λ_=>rfl) rfl) λ_=>?_;conv=>whnf
 exact ZH
abbrev QQ:=_root_.Rat
def Um(s:Bool)(n:Nat):Int:=if s=true then -(n:Int)else n
def vU(q:QQ):Rat:=if q.num=0 then⟨false,[],[]⟩else⟨decide (q.num<0),wd q.num.natAbs,wd q.den⟩
theorem a06(s:Bool)(n:Nat):(Um s n).natAbs=n:=by cases s <;> simp[Um]
theorem PO(z:Int):Um (decide (z<0)) z.natAbs=z:=by unfold Um;by_cases h:z<0;{rw[aG (by simpa using h)];omega};rw[aB (by simpa using h)];omega
theorem ES(s:Bool)(n d:Nat)(hd:d≠0):y9 s n d=vU (mkRat (Um s n) d):=by
 have e1:=Rat.num_mkRat (Um s n) d;have e2:=Rat.den_mkRat (Um s n) d;rw[aB hd,a06]at e1 e2;unfold vU y9;rw[e1,e2];have hgd:d.gcd n ∣ n:=Nat.gcd_dvd_right d n;have hgp:0<d.gcd n:=je n aj;have hge:n.gcd d=d.gcd n:=mY n d;rw[hge];generalize d.gcd n=g at *;have ediv:(Um s n) / (g:Int)=Um s (n / g):=by cases s;{show(n:Int) / (g:Int)=((n / g:Nat):Int);exact(Int.natCast_ediv n g).symm};show -(n:Int) / (g:Int) = -((n / g:Nat):Int);rw[Int.natCast_ediv];exact Int.neg_ediv_of_dvd (by obtain⟨c,rfl⟩:=hgd;exact⟨(c:Int),ak⟩)
 rw[ediv,a06];by_cases hz:n=0;{subst hz;rw[aG rfl,aG (by cases s <;> simp[Um])]};have hq:0<n / g:=Nat.div_pos (Nat.le_of_dvd aj hgd) hgp;rw[aB hz,aB (by cases s <;> simp[Um] <;> omega)];congr 1;generalize n / g=m at *;cases s
 ·symm;simp[Um];
 symm;simp[Um];omega
theorem Ja{n:Nat}(h:n≠0):wM (wd n)=true:=by
 induction n using Nat.strongRecOn with
 | _ n ih =>
   rw[BO h];by_cases h2:n / 4294967296=0;{rw[h2,yw];simp[wM];omega};have:=ih _ (lI aj aj) h2;generalize wd (n / 4294967296)=l at *;simp only[wM,aK,bT]at this ⊢;refine⟨ak,?_⟩;cases l with
   |nil=>exact absurd rfl this.1
   |cons x l=>simpa[List.getLastD]using this.2
theorem Jb(q:QQ):qR (vU q)=(decide (q.num<0),q.num.natAbs,q.den):=by by_cases h:q.num=0;{have e:vU q=⟨false,[],[]⟩:=aG h;have hd:q.den=1:=(by have:=q.reduced;rw[h]at this;simpa using this);rw[e,h,hd];rfl};have e:vU q=⟨decide (q.num<0),wd q.num.natAbs,wd q.den⟩:=aB h;have hn:q.num.natAbs≠0:=aj;have hne:wd q.num.natAbs≠[]:=(by rw[BO hn];simp);rw[e];unfold qR;have hv:valid ⟨decide (q.num<0),wd q.num.natAbs,wd q.den⟩=true:=(by unfold valid;rw[aB (λh=>hne h.1)];dsimp only;rw[Ja hn,Ja q.den_nz,rV,rV];simpa using q.reduced);rw[aG ⟨hv,hne⟩];dsimp only;rw[rV,rV]
theorem b2n(p q:QQ):mulR (vU p) (vU q)=vU (p*q):=by
 unfold mulR;rw[Jb,Jb];dsimp only;rw[ES _ _ _ (jQ p.den_nz q.den_nz)];congr 1;rw[<- iF p,<- iF q,Rat.mkRat_mul_mkRat,iF,iF];congr 1;rw[<- lY];have h1:=PO p.num;have h2:=PO q.num;conv=>rhs;rw[<- h1,<- h2]
 rw[lY];generalize decide (p.num<0)=s;generalize decide (q.num<0)=t;cases s <;> cases t <;> simp[Um] <;> grind
theorem b1H(s t:Bool)(x y d:Nat)(hd:d≠0):Ul s t x y d=vU (mkRat (Um s x+Um t y) d):=by unfold Ul;split;{rename_i h;subst h;rw[ES _ _ _ hd];congr 2;cases s <;> simp[Um];omega};rename_i h;split;{rename_i hl;rw[ES _ _ _ hd];congr 2;cases s <;> cases t <;> simp[Um]at h ⊢ <;> omega};rename_i hl;rw[ES _ _ _ hd];congr 2;cases s <;> cases t <;> simp[Um]at h ⊢ <;> omega
theorem b3R(p q:QQ):J5 (vU p) (vU q)=vU (p+q):=by
 unfold J5;rw[Jb,Jb];dsimp only;rw[b1H _ _ _ _ _ (jQ p.den_nz q.den_nz)];congr 1;conv=>rhs;rw[<- iF p,<- iF q]
 rw[Rat.mkRat_add_mkRat _ _ p.den_nz q.den_nz];congr 1;have h1:=PO p.num;have h2:=PO q.num;conv=>rhs;rw[<- h1,<- h2]
 generalize decide (p.num<0)=s;generalize decide (q.num<0)=t;generalize p.num.natAbs=a;generalize q.num.natAbs=b;cases s <;> cases t <;> simp[Um] <;> grind
theorem b2l(p:QQ):negR (vU p)=vU (-p):=by
 unfold negR;rw[Jb];dsimp only;rw[ES _ _ _ p.den_nz];congr 1;conv=>rhs;rw[<- iF p,Rat.neg_mkRat]
 congr 1;have h1:=PO p.num;conv=>rhs;rw[<- h1]
 generalize decide (p.num<0)=s;cases s <;> simp[Um]
def qv(r:Rat):QQ:=mkRat (Um r.neg (val r.num)) (val r.den)
theorem Rn{r:Rat}(h:valid r=true)(w1:Ws r.num)(w2:Ws r.den):r=vU (qv r):=by
 obtain⟨neg,num,den⟩:=r;dsimp only at w1 w2;unfold valid at h;split at h
 ·rename_i e;dsimp only at e h;obtain⟨rfl,rfl⟩:=e;have:neg=false:=by simpa using h
  subst this;rfl
 simp only[aK,bT]at h;obtain⟨⟨h1,h2⟩,h3⟩:=h;obtain⟨e1,n1⟩:=DC h1 w1;obtain⟨e2,n2⟩:=DC h2 w2;dsimp only at *;have:=ES neg (val num) (val den) n2;unfold qv;rw[<- this];unfold y9;rw[aB n1,h3,Nat.div_one,Nat.div_one,e1,e2]
def Sz(q:QQ)(k:Nat):Prop:=(wd q.num.natAbs).length<=k/\(wd q.den).length<=k
theorem Sz.mono{q:QQ}{k l:Nat}(h:Sz q k)(hl:k<=l):Sz q l:=⟨by have:=h.1;omega,by have:=h.2;omega⟩
theorem Sz.neg{q:QQ}{k:Nat}(h:Sz q k):Sz (-q) k:=by unfold Sz;rw[Rat.neg_num,Rat.neg_den,Int.natAbs_neg];exact h
theorem b3W{z:Int}{d k:Nat}(hd:d≠0)(h1:(wd z.natAbs).length<=k)(h2:(wd d).length<=k):Sz (mkRat z d) k:=by unfold Sz;rw[Rat.num_mkRat,Rat.den_mkRat,aB hd,aB hd];have hg:0<d.gcd z.natAbs:=je _ aj;generalize d.gcd z.natAbs=g at *;refine⟨dI (sS ?_) h1,dI (sS (jS d g)) h2⟩;have:=Int.natAbs_ediv_le_natAbs z (g:Int);exact this
theorem Sz.mul{p q:QQ}{k l:Nat}(hp:Sz p k)(hq:Sz q l):Sz (p*q) (k+l):=by rw[<- iF p,<- iF q,Rat.mkRat_mul_mkRat];refine b3W (jQ p.den_nz q.den_nz) ?_ (wz hp.2 hq.2);rw[lY];exact wz hp.1 hq.1
theorem Sz.add{p q:QQ}{k l:Nat}(hp:Sz p k)(hq:Sz q l):Sz (p+q) (k+l+1):=by rw[<- iF p,<- iF q,Rat.mkRat_add_mkRat _ _ p.den_nz q.den_nz];have h1:=wz hp.1 hq.2;have h2:=wz hq.1 hp.2;refine b3W (jQ p.den_nz q.den_nz) ?_ (by have:=wz hp.2 hq.2;omega);refine dI (sS (y:=p.num.natAbs*q.den+q.num.natAbs*p.den) ?_) (Jy h1 aj);refine dI (Int.natAbs_add_le _ _) ?_;rw[lY,lY];simp
theorem SY{q:QQ}{k:Nat}(h:Sz q k):(vU q).num.length<=k/\(vU q).den.length<=k:=by unfold vU;split;{exact⟨aP _,aP _⟩};exact h
theorem Zh{s:List Int}{i m:Nat}{d:Int}(h:s.length=i)(hi:i<m):(s++List.replicate (m-i) 0).set i d=(s++[d])++List.replicate (m-(i+1)) 0:=by obtain⟨k,hk⟩:∃k,m-i=k+1:=⟨m-i-1,aj⟩;rw[hk,show m-(i+1)=k by omega,kY _ _ aj,h,gJ,bK];rfl
theorem b5E(a b:List Int)(ha:a.length<=900000)(hb:b.length<=900000):ZQ 202 [wL a,wL b] [] (wL (wd (val a+val b))) []:=by
 refine ZI Tryz.func202 λhok=>?_;have wa:Ws a:=Ws.ok hok.1.2;have wb:Ws b:=Ws.ok hok.2.1.2;refine Z0 ?_;obtain⟨m,hm⟩:∃m,max a.length b.length+1=m:=⟨_,rfl⟩;have em:max (((a.map (AV.int .u32)).length:Nat):Int) (((b.map (AV.int .u32)).length:Nat):Int)+1=(m:Int):=(by simp only[aC];omega);refine aQ (by rw[em];exact rW aj aj) ?_;rw[em];conv=>whnf
 refine⟨⟨aj,aj,aA,aj⟩,.wr ?_⟩;conv=>whnf
 refine qW.of <| qN.inv (.refl _ _) (λx:Nat×Nat×List Int=>x.1<=m/\x.2.1<=1/\Ws x.2.2/\x.2.2.length=x.1/\val x.2.2+4294967296^x.1*x.2.1=val (a.take x.1)+val (b.take x.1))
  (fun|(i,c,s)=>[(17,.int .i64 i),(6,.int .u64 c)]) (fun|(i,_,s)=>[(0,.arr 1 m ((s++List.replicate (m-i) 0).map (.int .u32)))])
  (λx=>m-x.1) (0,0,[]) ?_ (λ_=>rfl) ?_ ?_
 ·exact⟨aP _,ak,Ws.nil,rfl,by simp[val]⟩
 ·refine Zv wk ?_;repeat' first|exact Zq|apply aI
  all_goals first|(show tV (List.replicate _ _) (List.map _ ([]++List.replicate _ 0));rw[fE,jM];exact qX _)|skip
 rintro⟨i,c,s⟩ ⟨hi,hc,hws,hsl,hv⟩ _;simp only at hi hc hws hsl hv;refine ZS ?_ ?_<;>intro h
 ·have hlt:i<m:=aj;have ca:=LH a i;have cb:=LH b i;have hva:=sO (l:=a) (i:=i);have hvb:=sO (l:=b) (i:=i);have hxa:=wa.getD (i:=i);have hxb:=wb.getD (i:=i);generalize a.getD i 0=x0 at *;generalize b.getD i 0=y0 at *;obtain⟨x,rfl⟩:∃x:Nat,x0=x:=⟨x0.toNat,aj⟩;obtain⟨w,rfl⟩:∃x:Nat,y0=x:=⟨y0.toNat,aj⟩;rw[aO]at hva hvb;refine ZW ?_;refine .gen _ _ (qZ.vX ca (rQ _) ⟨rfl,rfl⟩) λ_=>ZW ?_;refine .gen _ _ (qZ.vX cb (rQ _) ⟨rfl,rfl⟩) λ_=>?_;conv=>whnf
  rw[show((x:Int)+(w:Int))=((x+w:Nat):Int)from(gY x w).symm,wrap_u64 (n:=((x+w:Nat):Int)) aj aj];rw[show((c:Int)+((x+w:Nat):Int))=((x+w+c:Nat):Int) by omega,wrap_u64 (n:=((x+w+c:Nat):Int)) aj aj];obtain⟨D,hD⟩:∃D,x+w+c=D:=⟨_,rfl⟩;rw[hD];conv=>whnf
  rw[vS (a:=D)];refine⟨⟨aj,aj⟩,?_⟩;conv=>whnf
  refine⟨by rw[aC,bC,jX];omega,rfl,?_⟩;conv=>whnf
  refine⟨au,?_⟩;rw[Dx rfl];conv=>whnf
  refine ZG ?_;refine⟨(i+1,D / 4294967296,s++[((D % 4294967296:Nat):Int)]),?_,?_,?_⟩;{refine⟨hlt,(by omega:D / 4294967296<=1),hws.append (Ws.cons aj Ws.nil),by simp[hsl],?_⟩;show val (s++[((D % 4294967296:Nat):Int)])+4294967296^(i+1)*(D / 4294967296)=val (a.take (i+1))+val (b.take (i+1));have e1:val (s++[((D % 4294967296:Nat):Int)])=val s+4294967296^i*(D % 4294967296):=(by rw[val_append,hsl];show _+_*((((D % 4294967296:Nat):Int)).toNat+4294967296*0)=_;rw[aO];rfl);rw[hva,hvb,e1,bU];exact V4 hD hv}
  ·refine Zv wk ?_;repeat' first|exact Zq|apply aI
   all_goals (refine qY ?_;rw[<- Zh hsl hlt,dP,bH,aO];rfl)
  show m-(i+1)<m-i;omega
 have hil:i=m:=aj;subst hil;rw[bf aj,bf aj]at hv;have hfin:val s=val a+val b:=a2q aj (wK wa) (wK wb) aj aj hv;have ct:=CX s aj;rw[hfin]at ct;refine ZW ?_;refine .gen _ _ (qZ.YN 0 rfl rfl aA (qZ.vX ct ?_ ⟨rfl,rfl⟩)) λ_=>?_
 ·repeat' first|exact Zq|apply aI
  all_goals (refine qY ?_;rw[gJ,List.replicate_zero,iM,fG,bf aA])
 exact ZJ
theorem b1i(a b:List Int)(ha:a.length<=1000000)(hb:b.length<=1000000)(hge:val b<=val a):ZQ 203 [wL a,wL b] [] (.uy [wL (wd (val a-val b)),.vK]) []:=by
 refine ZI Tryz.func203 λhok=>?_;have wa:Ws a:=Ws.ok hok.1.2;have wb:Ws b:=Ws.ok hok.2.1.2;refine Z0 ?_;refine .zK (a4D a b aj aj) ?_;constructor<;>intro h;{exfalso;unfold EX at h;rw[aB aj]at h;split at h <;> omega};conv=>whnf
 rw[aC];refine⟨⟨aj,aj,aA,aj⟩,.wr ?_⟩;conv=>whnf
 refine qW.of <| qN.inv (.refl _ _) (λx:Nat×Nat×List Int=>x.1<=a.length/\x.2.1<=1/\Ws x.2.2/\x.2.2.length=x.1/\val (a.take x.1)+4294967296^x.1*x.2.1=val x.2.2+val (b.take x.1))
  (fun|(i,b,s)=>[(20,.int .i64 i),(7,.int .u64 b)]) (fun|(i,_,s)=>[(0,.arr 1 a.length ((s++List.replicate (a.length-i) 0).map (.int .u32)))])
  (λx=>a.length-x.1) (0,0,[]) ?_ (λ_=>rfl) ?_ ?_
 ·exact⟨aP _,ak,Ws.nil,rfl,by simp[val]⟩
 ·refine Zv wk ?_;repeat' first|exact Zq|apply aI
  all_goals first|(show tV (List.replicate _ _) (List.map _ ([]++List.replicate _ 0));rw[fE,jM];exact qX _)|skip
 rintro⟨i,bo,s⟩ ⟨hi,hbo,hws,hsl,hv⟩ _;simp only at hi hbo hws hsl hv;refine ZS ?_ ?_<;>intro h
 ·have hlt:i<a.length:=aj;have ca:=LH a i;have cb:=LH b i;have hva:=sO (l:=a) (i:=i);have hvb:=sO (l:=b) (i:=i);have hxa:=wa.getD (i:=i);have hxb:=wb.getD (i:=i);generalize a.getD i 0=x0 at *;generalize b.getD i 0=y0 at *;obtain⟨x,rfl⟩:∃x:Nat,x0=x:=⟨x0.toNat,aj⟩;obtain⟨w,rfl⟩:∃x:Nat,y0=x:=⟨y0.toNat,aj⟩;rw[aO]at hva hvb;refine ZW ?_;refine .gen _ _ (qZ.vX ca (rQ _) ⟨rfl,rfl⟩) λ_=>ZW ?_;refine .gen _ _ (qZ.vX cb (rQ _) ⟨rfl,rfl⟩) λ_=>?_;conv=>whnf
  obtain⟨D,hD,hD1,hD2,hD3⟩:=VG (x:=x) (low:=w) (b:=bo) aj aj hbo;rw[hD];conv=>whnf
  rw[vS (a:=D)];have hy:D % 4294967296<4294967296:=gy _ au;generalize D % 4294967296=y at *;refine⟨⟨aj,aj⟩,?_⟩;conv=>whnf
  refine⟨by rw[aC,bC,jX];omega,rfl,?_⟩;conv=>whnf
  refine⟨au,?_⟩;rw[a5n];conv=>whnf
  refine ZG ?_;refine⟨(i+1,D / 9223372036854775808,s++[(y:Int)]),?_,?_,?_⟩;{refine⟨hlt,hD2,hws.append (Ws.cons aj Ws.nil),by simp[hsl],?_⟩;show val (a.take (i+1))+4294967296^(i+1)*(D / 9223372036854775808)=val (s++[(y:Int)])+val (b.take (i+1));have e1:val (s++[(y:Int)])=val s+4294967296^i*y:=(by rw[val_append,hsl];simp[val]);rw[hva,hvb,e1,bU];exact VP hD3 hv}
  ·refine Zv wk ?_;repeat' first|exact Zq|apply aI
   all_goals (refine qY ?_;rw[<- Zh hsl hlt,dP,bH,aO];rfl)
  show a.length-(i+1)<a.length-i;omega
 have hil:i=a.length:=aj;subst hil;rw[bn]at hv;have hva:=wK wa;rw[Tj aj]at hv;have hvs:=wK hws;rw[hsl]at hvs;have hfin:val s=val a-val b:=(by have hb2:bo=0\/bo=1:=aj;rcases hb2 with rfl|rfl;{omega};omega);have ct:=CX s aj;rw[hfin]at ct;refine ZW ?_;refine .gen _ _ (qZ.YN 0 rfl rfl aA (qZ.vX ct ?_ ⟨rfl,rfl⟩)) λ_=>?_
 ·repeat' first|exact Zq|apply aI
  all_goals (refine qY ?_;rw[gJ,List.replicate_zero,iM,fG,bf aA])
 exact ZJ
theorem b5C(a:Rat)(a1:a.num.length<=100000)(a2:a.den.length<=100000):ZQ 130 [a.av] [] (negR a).av []:=by have ca:=Nr a (KR a aj aj).v;refine ZI Tryz.func130 λhok=>?_;have pa:=MQ (yx hok).1 (yx hok).2 aj aj;have qa:=UG (yx hok).1 (yx hok).2 a1 a2;rw[pa.eq]at ca;have cf:=SA (!(qR a).1) (qR a).2.1 (qR a).2.2 aj aj pa.den;have hm:negR a=y9 (!(qR a).1) (qR a).2.1 (qR a).2.2:=rfl;rw[<- hm]at cf;generalize negR a=R at *;refine Z0 ?_;refine .zW ca ?_;refine .zW cf ?_;exact ZH
theorem b5D(a b:Rat)(a1:a.num.length<=100000)(a2:a.den.length<=100000)(b1:b.num.length<=100000)(b2:b.den.length<=100000):ZQ 129 [a.av,b.av] [] (J5 a b).av []:=by
 have ca:=Nr a (KR a aj aj).v;have cb:=Nr b (KR b aj aj).v;refine ZI Tryz.func129 λhok=>?_;have pa:=MQ (yx hok).1 (yx hok).2 aj aj;have pb:=MQ (yx hok.2).1 (yx hok.2).2 aj aj;have qa:=UG (yx hok).1 (yx hok).2 a1 a2;have qb:=UG (yx hok.2).1 (yx hok.2).2 b1 b2;rw[pa.eq]at ca;rw[pb.eq]at cb;have hR:J5 a b=Ul (qR a).1 (qR b).1 ((qR a).2.1*(qR b).2.2) ((qR b).2.1*(qR a).2.2) ((qR a).2.2*(qR b).2.2):=rfl;have m1:=XL (wd (qR a).2.1) (wd (qR b).2.2) pa.ln pb.ld;have m2:=XL (wd (qR b).2.1) (wd (qR a).2.2) pb.ln pa.ld;have m3:=XL (wd (qR a).2.2) (wd (qR b).2.2) pa.ld pb.ld;rw[rV,rV]at m1 m2 m3;have l1:=wz qa.1 qb.2;have l2:=wz qb.1 qa.2;have l3:=wz qa.2 qb.2;have hne:(qR a).2.2*(qR b).2.2≠0:=jQ pa.den pb.den;generalize J5 a b=R at *;generalize (qR a).2.1*(qR b).2.2=x at *;generalize (qR b).2.1*(qR a).2.2=y at *;generalize (qR a).2.2*(qR b).2.2=d at *;have l4:=Jy l1 l2;have l5:=sS (mW x y);have l6:=sS (mW y x);have cA:=b5E (wd x) (wd y) aj aj;have cC:=a4D (wd x) (wd y) aj aj;have cS:=λh=>b1i (wd x) (wd y) aj aj h;have cS2:=λh=>b1i (wd y) (wd x) aj aj h;simp only[rV]at cA cC cS cS2;have cf1:=SA (qR a).1 (x+y) d aj aj hne;have cf2:=SA (qR a).1 (x-y) d aj aj hne;have cf3:=SA (qR b).1 (y-x) d aj aj hne;unfold Ul at hR;generalize (qR a).1=s at *;generalize (qR b).1=t at *;refine Z0 ?_;refine .zW ca ?_;refine .zW cb ?_;refine .zW m1 ?_;refine .zW m2 ?_;refine .zW m3 ?_;constructor<;>intro hst;{have hst:s=t:=(by simpa using hst);rw[aG hst]at hR;subst hR;refine ZW ?_;refine .zW cA ?_;refine .zW cf1 ?_;exact ZH};have hst:¬s=t:=(by simpa using hst);rw[aB hst]at hR;refine ZW ?_;refine .zW cC ?_;constructor<;>intro hxy;{have hlt:¬x<y:=(by intro hlt;unfold EX at hxy;rw[aG hlt]at hxy;omega);rw[aB hlt]at hR;subst hR;refine ZW ?_;refine .zW (cS aj) ?_;refine .zW cf2 ?_;exact ZH};have hlt:x<y:=by
  unfold EX at hxy;split at hxy
  ·assumption
  split at hxy <;> omega
 rw[aG hlt]at hR;subst hR;refine ZW ?_;refine .zW (cS2 aj) ?_;refine .zW cf3 ?_;exact ZH
theorem b5B(n:Nat)(hn:n<2^31):ZQ 197 [.int .i64 n] [] (vU (n:QQ)).av []:=by
 have cn:=a7n n aj;have e1:wd 1=[1]:=Dv aj aj;have cf:=SA false n 1 (by
  have:=Ec (x:=n) (n:=1) aj;omega) (by rw[e1];simp) aj
 rw[ES _ _ _ aj,e1,show mkRat (Um false n) 1=(n:QQ)from by rw[show Um false n=(n:Int)from rfl,Rat.mkRat_one];rfl]at cf;have cs:ZQ 235 [.int .i64 n] [] (wL (wd n)) []:=(by refine ZN Tryz.func235 λhok=>?_;refine aQ (λh=>by exfalso;omega) (λ_=>ZW ?_);refine⟨rW aj aj,ZW ?_⟩;rw[show max (n:Int) (0-(n:Int))=(n:Int) by omega];refine .zW cn ?_;exact ZH);generalize vU (n:QQ)=R at *;refine ZN Tryz.func197 λhok=>?_;refine .zW cs ?_;refine .zW a95 ?_;refine .pure _ _ ?_ ⟨rfl,rfl⟩ cf λ_=>?_;{refine⟨?_,tZ _,tZ _,trivial⟩;show _↔_;simp};exact ZJ
theorem b5z{p:QQ}{k:Nat}(hp:Sz p k)(hk:k<=100000):ZQ 130 [(vU p).av] [] (vU (-p)).av []:=by have l:=SY hp;rw[<- b2l];exact b5C _ aj aj
theorem b1g{p q:QQ}{k l:Nat}(hp:Sz p k)(hq:Sz q l)(hk:k<=100000)(hl:l<=100000):ZQ 129 [(vU p).av,(vU q).av] [] (vU (p+q)).av []:=by have l1:=SY hp;have l2:=SY hq;rw[<- b3R];exact b5D _ _ aj aj aj aj
theorem b1f{p q:QQ}{k l:Nat}(hp:Sz p k)(hq:Sz q l)(hk:k<=100000)(hl:l<=100000):ZQ 236 [(vU p).av,(vU q).av] [] (vU (p*q)).av []:=by have l1:=SY hp;have l2:=SY hq;rw[<- b2n];exact a98 _ _ aj aj aj aj
theorem a7k{p q:QQ}{k l:Nat}(hp:Sz p k)(hq:Sz q l)(hk:k<=100000)(hl:l<=100000):ZQ 67 [(vU p).av,(vU q).av] [] (vU (p-q)).av []:=by have c1:=b5z hq hl;have c2:=b1g hp hq.neg hk hl;rw[<- Rat.sub_eq_add_neg]at c2;generalize vU (p-q)=R at *;generalize vU (-q)=N at *;refine ZN Tryz.func67 λhok=>?_;refine ZR ?_;refine .zW c1 ?_;refine .zW c2 ?_;exact ZH
def exR(p:List QQ)(f:(Int->Bool)->Bool):Nat->(Int->Bool)->QQ
 | 0,s=>if f s=true then 1 else 0
 |k+1,s=>(1-p.getD k 0)*exR p f k (vJ s k false)+p.getD k 0*exR p f k (vJ s k true)
theorem zx{p:List QQ}{f g:(Int->Bool)->Bool}(h:∀s,f s=g s):∀(k:Nat) (s:Int->Bool),exR p f k s=exR p g k s
 | 0,s=>by simp[exR,h]
 |k+1,s=>by simp only[exR];rw[zx h k,zx h k]
theorem Io{p:List QQ}{f:(Int->Bool)->Bool}{v:Int}{b:Bool}:∀(k:Nat) (s:Int->Bool),(k:Int)<=v->exR p f k (vJ s v b)=exR p (λt=>f (vJ t v b)) k s
 | 0,s,_=>rfl
 |k+1,s,hk=>by simp only[exR];rw[MJ (s:=s) (i:=v) (j:=(k:Int)) (a:=b) (b:=false) aj,MJ (s:=s) (i:=v) (j:=(k:Int)) (a:=b) (b:=true) aj,Io k (vJ s k false) aj,Io k (vJ s k true) aj]
theorem Xh{p:List QQ}{f l h:(Int->Bool)->Bool}{v:Nat}(hf:∀s,f s=if s v then h s else l s)(hl:∀s b,l (vJ s v b)=l s)(hh:∀s b,h (vJ s v b)=h s) :
  ∀(k:Nat) (s:Int->Bool),v<k->exR p f k s=(1-p.getD v 0)*exR p l k s+p.getD v 0*exR p h k s
 | 0,_,hk=>aj
 | k+1,s,hk=>by
   by_cases hv:v=k
   ·subst hv;simp only[exR];have e1:∀t,(λt=>f (vJ t v false)) t=l t:=λt=>by show f (vJ t v false)=l t;rw[hf,show vJ t (v:Int) false v=false from aG rfl,hl];simp
    have e2:∀t,(λt=>f (vJ t v true)) t=h t:=λt=>(by show f (vJ t v true)=h t;rw[hf,show vJ t (v:Int) true v=true from aG rfl,hh];simp);rw[Io v s (dQ _),Io v s (dQ _),zx e1,zx e2];rw[Io (f:=l) v s (dQ _),Io (f:=l) v s (dQ _),Io (f:=h) v s (dQ _),Io (f:=h) v s (dQ _)];rw[zx (f:=λt=>l (vJ t v false)) (g:=l) (λt=>hl t false),zx (f:=λt=>l (vJ t v true)) (g:=l) (λt=>hl t true),zx (f:=λt=>h (vJ t v false)) (g:=h) (λt=>hh t false),zx (f:=λt=>h (vJ t v true)) (g:=h) (λt=>hh t true)]
    grind
   simp only[exR];have h1:=Xh (p:=p) hf hl hh k (vJ s k false) aj;have h2:=Xh (p:=p) hf hl hh k (vJ s k true) aj;rw[h1,h2]
   grind
theorem Nl{p:List QQ}{b:Bool}:∀(k:Nat) (s:Int->Bool),exR p (λ_=>b) k s=if b=true then 1 else 0
 | 0,s=>rfl
 |k+1,s=>by simp only[exR];rw[Nl k,Nl k];grind
def Wn(v:List QQ)(r:Int):QQ:=if r<2 then((r.toNat:Nat):QQ)else v.getD (r-2).toNat 0
def ndQ(p v:List QQ)(x:Node):QQ:=(1-p.getD x.1.toNat 0)*Wn v x.2.1+p.getD x.1.toNat 0*Wn v x.2.2
def P5(p:List QQ)(ns:List Node):List QQ:=ns.foldl (λv x=>v++[ndQ p v x]) []
theorem V5(p:List QQ)(l:List Node)(x:Node):P5 p (l++[x])=P5 p l++[ndQ p (P5 p l) x]:=by unfold P5;rw[gK];rfl
theorem UF(p:List QQ)(l:List Node):(P5 p l).length=l.length:=by
 have key:∀(l:List Node) (v:List QQ),(l.foldl (λv x=>v++[ndQ p v x]) v).length=v.length+l.length:=by
  intro l;induction l with
  |nil=>intro v;simp
  |cons x l ih=>intro v;rw[fA,ih];simp;omega
 have:=key l [];unfold P5;simpa using this
theorem a6Q{T:Tb}{ns:List Node}(hns:∀(k:Nat) (h:k<ns.length),Dt T ns k ns[k])(d:Nat):∀(r:Int),0<=r->r<2+(ns.length:Int)->r<=d->∀(s s':Int->Bool),(∀j,0<=j->j<T.n->Ei T ns r<=T.pl j->s j=s' j)->ev ns s r=ev ns s' r:=by
 induction d with
 |zero =>intro r h0 h1 h2 s s' _;obtain rfl:r=0:=aj;rfl
 | succ d ih =>
   intro r h0 h1 h2 s s' hs;by_cases hr2:r<2;{rcases(by omega:r=0\/r=1)with rfl|rfl <;> rfl};obtain⟨k,rfl⟩:∃k:Nat,r=2+(k:Int):=⟨(r-2).toNat,aj⟩;have hk:k<ns.length:=aj;have g:=hns k hk;have e1:=λs=>JQ ns s hk g.lo.2 g.hi.2;rw[e1,e1];have hl:Ei T ns (2+(k:Int))=T.pl (ns[k]).1:=by unfold Ei;rw[aB aj,show(2+(k:Int)-2).toNat=k by omega,aF,aH hk];rfl
   rw[hl]at hs;have gl:=g.llo;have gh:=g.lhi;rw[hs _ g.v.1 g.v.2 (dQ _)];rw[ih _ g.lo.1 (by have:=g.lo.2;omega) (by have:=g.lo.2;omega) s s' (λj q1 q2 q3=>hs j q1 q2 aj),
    ih _ g.hi.1 (by have:=g.hi.2;omega) (by have:=g.hi.2;omega) s s' (λj q1 q2 q3=>hs j q1 q2 aj)]
theorem a6P{T:Tb}{ns:List Node}(hns:∀(k:Nat) (h:k<ns.length),Dt T ns k ns[k]){r i:Int}(h0:0<=r)(h1:r<2+(ns.length:Int))(hl:T.pl i<Ei T ns r)(s:Int->Bool)(b:Bool):ev ns (vJ s i b) r=ev ns s r:=by refine a6Q hns r.toNat r h0 h1 aj _ _ λj q1 q2 q3=>?_;unfold vJ;rw[aB (λe=>by subst e;omega)]
theorem b4H{T:Tb}{ns:List Node}(hns:∀(k:Nat) (h:k<ns.length),Dt T ns k ns[k])(p:List QQ){n:Nat}(hn:T.n=n):∀(k:Nat),k<=ns.length->∀(r:Int),0<=r->r<2+(k:Int)->Wn (P5 p (ns.take k)) r=exR p (λs=>ev ns s r) n zE
 | 0,_,r,h0,h1=>by rcases(by omega:r=0\/r=1)with rfl|rfl;{rw[zx (p:=p) (f:=λs=>ev ns s 0) (g:=λ_=>false) (λs=>rfl),Nl];rfl};rw[zx (p:=p) (f:=λs=>ev ns s 1) (g:=λ_=>true) (λs=>rfl),Nl];rfl
 |k+1,hk,r,h0,h1=>by have ih:=b4H hns p hn k aj;have hlt:k<ns.length:=aj;have hl:=UF p (ns.take k);rw[dh,jg aj]at hl;rw[bV hlt,V5];by_cases hr:r<2+(k:Int);{rw[<- ih r h0 hr];unfold Wn;split;{rfl};rw[aF,bI aj,<- aF]};obtain rfl:r=2+(k:Int):=aj;have g:=hns k hlt;have e0:Wn (P5 p (ns.take k)++[ndQ p (P5 p (ns.take k)) ns[k]]) (2+(k:Int))=ndQ p (P5 p (ns.take k)) ns[k]:=(by unfold Wn;rw[aB aj,show(2+(k:Int)-2).toNat=k by omega,aF,dK aj,hl,gJ];rfl);rw[e0];unfold ndQ;rw[ih _ g.lo.1 g.lo.2,ih _ g.hi.1 g.hi.2];have e1:=λs=>JQ ns s hlt g.lo.2 g.hi.2;have gl:=g.llo;have gh:=g.lhi;have hlo:=a6P hns (i:=(ns[k]).1) g.lo.1 (by have:=g.lo.2;omega) gl;have hhi:=a6P hns (i:=(ns[k]).1) g.hi.1 (by have:=g.hi.2;omega) gh;have hv:=g.v;generalize ns[k]=x at *;obtain⟨v,hvv⟩:∃v:Nat,x.1=v:=⟨x.1.toNat,aj⟩;rw[hvv]at hlo hhi hv;rw[zx (f:=λs=>ev ns s (2+(k:Int))) (g:=λs=>if s v then ev ns s x.2.2 else ev ns s x.2.1) (λs=>by rw[e1,hvv])];rw[Xh (v:=v) (λs=>rfl) (λs b=>hlo s b) (λs b=>hhi s b) n zE aj,hvv,aO]
def szB(K:Nat):Nat->Nat
 | 0=>1
 |d+1=>2*szB K d+2*K+10
theorem PE(K:Nat):∀{a b:Nat},a<=b->szB K a<=szB K b:=by
 intro a b h;induction b with
 | zero=>obtain rfl:a=0:=by omega
         exact aT _
 |succ b ih =>by_cases e:a=b+1;{rw[e];exact aT _};have:=ih aj;show _<=2*szB K b+2*K+10;omega
theorem a8h:Sz 0 1:=⟨by show(wd 0).length<=1;rw[yw];simp,by show(wd 1).length<=1;rw[Dv aj aj];simp⟩
theorem Yp:Sz 1 1:=⟨by show(wd 1).length<=1;rw[Dv aj aj];simp,by show(wd 1).length<=1;rw[Dv aj aj];simp⟩
theorem Sz.sub{p q:QQ}{k l:Nat}(hp:Sz p k)(hq:Sz q l):Sz (p-q) (k+l+1):=by rw[Rat.sub_eq_add_neg];exact hp.add hq.neg
theorem b4U{q a b:QQ}{K k:Nat}(hq:Sz q K)(ha:Sz a k)(hb:Sz b k):Sz ((1-q)*a+q*b) (2*k+2*K+10) :=
 (((Yp.sub hq).mul ha).add (hq.mul hb)).mono aj
theorem b4G{T:Tb}{ns:List Node}(hns:∀(k:Nat) (h:k<ns.length),Dt T ns k ns[k])(hpl:∀i:Int,0<=i->i<T.n->0<=T.pl i/\T.pl i<T.n){p:List QQ}{K:Nat}(hp:∀q∈p,Sz q K)(hpn:T.n=p.length) :
  ∀(k:Nat),k<=ns.length->∀(r:Int),0<=r->r<2+(k:Int)->Sz (Wn (P5 p (ns.take k)) r) (szB K (T.n-Ei T ns r).toNat)
 | 0,_,r,h0,h1=>by have:∀d,1<=szB K d:=λd=>PE K (aP d);rcases(by omega:r=0\/r=1)with rfl|rfl;{exact a8h.mono (this _)};exact Yp.mono (this _)
 |k+1,hk,r,h0,h1=>by have ih:=b4G hns hpl hp hpn k aj;have hlt:k<ns.length:=aj;have hl:=UF p (ns.take k);rw[dh,jg aj]at hl;rw[bV hlt,V5];by_cases hr:r<2+(k:Int);{have:=ih r h0 hr;have e:Wn (P5 p (ns.take k)++[ndQ p (P5 p (ns.take k)) ns[k]]) r=Wn (P5 p (ns.take k)) r:=(by unfold Wn;split;{rfl};rw[aF,bI aj,<- aF]);rw[e];exact this};obtain rfl:r=2+(k:Int):=aj;have g:=hns k hlt;have e0:Wn (P5 p (ns.take k)++[ndQ p (P5 p (ns.take k)) ns[k]]) (2+(k:Int))=ndQ p (P5 p (ns.take k)) ns[k]:=(by unfold Wn;rw[aB aj,show(2+(k:Int)-2).toNat=k by omega,aF,dK aj,hl,gJ];rfl);rw[e0];have hl:Ei T ns (2+(k:Int))=T.pl (ns[k]).1:=(by unfold Ei;rw[aB aj,show(2+(k:Int)-2).toNat=k by omega,aF,aH hlt];rfl);have gl:=g.llo;have gh:=g.lhi;have hv:=g.v;have s1:=ih _ g.lo.1 g.lo.2;have s2:=ih _ g.hi.1 g.hi.2;have hp0:=hpl _ hv.1 hv.2;rw[hl];obtain⟨d,hd⟩:∃d,(T.n-T.pl (ns[k]).1).toNat=d+1:=⟨(T.n-T.pl (ns[k]).1).toNat-1,aj⟩;rw[hd];have q:Sz (p.getD (ns[k]).1.toNat 0) K:=(by have hj:(ns[k]).1.toNat<p.length:=aj;rw[aF,aH hj];exact hp _ (aN hj));exact b4U q (s1.mono (PE K aj)) (s2.mono (PE K aj))
end S