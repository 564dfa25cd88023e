/-
  Contracts of functions of the program. Nothing is assumed.
-/
import Derived.Test.YtdkhmfabhfgemaaGreatT7
open Go Go.AL Go.Proofs
namespace S
set_option maxRecDepth 100000
structure IL(m:Md)(st:CS):Prop where
 len:st.nodes.length=st.es.length
 nd:(st.es.map (·.1)).Nodup
 ok:∀e∈st.es,RG m e.1/\e.1.1≠0
def univ(m:Md):List Node:=(List.range m.hs.length).map (fun(i:Nat)=>((1,0,(i:Int)):Node))++rD m
theorem a15{m:Md}{x:Node}(h:RG m x)(h0:x.1≠0):x∈univ m:=by unfold univ;rw[dM];rcases h with h|h|h;{omega};{left;obtain⟨x1,x2,x3⟩:=x;obtain⟨rfl,rfl,h3,h4⟩:=h;rw[bZ];dsimp only at h3 h4;exact⟨x3.toNat,by rw[iF];omega,by rw[fO h3]⟩};exact .inr h
theorem Eh{α:Type} [DecidableEq α]:∀{l u:List α},l.Nodup->(∀x∈l,x∈u)->l.length<=u.length
 | [],_,_,_=>aO _
 |x::l,u,hn,hs=>by rw[ng]at hn;have hx:=hs x ak;have:=Eh (u:=u.erase x) hn.2 λy hy=>(List.mem_erase_of_ne (λe=>hn.1 (by rw[<- e];exact hy))).2 (hs y (by simp[hy]));rw[List.length_erase_of_mem hx]at this;have:=List.length_pos_of_mem hx;simp only[dW];omega
theorem b3y{m:Md}(hB:KJ m):(rD m).length<=10000:=by
 have key:∀(l:List Int),(∀a∈l,(qN m a).length<=100)->(l.flatMap (y7 m)).length<=100*l.length:=by
  intro l;induction l with
  |nil=>intro _;simp
  | cons a l ih =>
    intro h;simp only[nU,bn,dW];have h1:=ih λb hb=>h b (by simp[hb]);have h2:=h a ak;have h3:(y7 m a).length=(qN m a).length:=by simp[y7]
    omega
 have h1:=key (BP m) λa _=>by
  unfold qN;split;{exact hB.gates.1};rw[aF];cases hp:m.pages[a.toNat]? with
  |none=>exact aO _
  |some p=>exact(hB.KX p (cZ hp)).1
 rw[ND]at h1;have:=hB.pages;unfold rD;omega
theorem IL.short{m:Md}(hB:KJ m){st:CS}(h:IL m st):st.nodes.length<=20000:=by have:=Eh h.nd (u:=univ m) λx hx=>(by obtain⟨e,he,rfl⟩:=bZ.1 hx;exact a15 (h.ok e he).1 (h.ok e he).2);rw[aC]at this;have h1:=b3y hB;have h2:=hB.hs;have:(univ m).length=m.hs.length+(rD m).length:=(by simp[univ]);rw[h.len];omega
theorem WE{x:Node}{v:Int}:∀{es:Marks},lookO es x=none->mark es x v=es++[(x,v)]/\x ∉ es.map (·.1)
 | [],_=>⟨rfl,ak⟩
 |(y,u)::es,h=>by simp only[lookO]at h;split at h;{cases h};rename_i hy;obtain⟨h1,h2⟩:=WE h;refine⟨?_,?_⟩;{simp only[mark,aB hy];rw[h1];rfl};simp only[dF,aT,not_or];exact⟨λe=>hy e.symm,h2⟩
theorem IL.push{m:Md}{st:CS}(h:IL m st){x:Node}(hx:RG m x)(h0:x.1≠0)(hn:lookO st.es x=none)(vars:Int)(nd:Nd):IL m (xK vars st x nd).2:=by obtain⟨h1,h2⟩:=WE (v:=vars+st.nodes.length) hn;refine⟨?_,?_,?_⟩;{show(st.nodes++[nd]).length=(mark _ _ _).length;rw[h1,bn,bn,h.len];rfl};{show((mark _ _ _).map (·.1)).Nodup;rw[h1,aV,iK];refine⟨h.nd,ak,?_⟩;intro a ha b hb;simp at hb;subst hb;exact λe=>h2 (e ▸ ha)};show ∀e∈mark _ _ _,_;rw[h1];intro e he;rcases dM.1 he with he|he;{exact h.ok e he};simp at he;subst he;exact⟨hx,h0⟩
theorem QA{m:Md}(hc:AQ m){rank:Node->Nat}(hr:QY m rank)(vars:Int):∀(n:Nat) (x:Node) (st:CS),RG m x->IL m st ->
  IL m (su m vars n x st).2/\∀z:Node,z.1=2->(x.1=2->rank x<rank z)->lookO st.es z=none->lookO (su m vars n x st).2.es z=none
 | 0,_,_,_,h=>⟨h,λ_ _ _ h=>h⟩
 | n+1,x,st,hx,h=>by
   have push:∀{s:CS} (nd:Nd),IL m s->x.1≠0->lookO s.es x=none->(∀z:Node,z.1=2->(x.1=2->rank x<rank z)->lookO st.es z=none->lookO s.es z=none) ->
     IL m (xK vars s x nd).2/\∀z:Node,z.1=2->(x.1=2->rank x<rank z)->lookO st.es z=none->lookO (xK vars s x nd).2.es z=none:=by
    intro s nd h1 h2 h3 h4;refine⟨h1.push hx h2 h3 vars nd,λz hz hxz hs=>?_⟩;show lookO (mark s.es x _) z=none;rw[CG,aB];{exact h4 z hz hxz hs};rintro rfl;have:=hxz hz;omega
   unfold su;split;{exact⟨h,λ_ _ _ h=>h⟩};rename_i h0;split;{exact⟨h,λ_ _ _ h=>h⟩};rename_i hn;split;{exact push _ h h0 hn λ_ _ _ h=>h};rename_i h1;split;{exact⟨h,λ_ _ _ h=>h⟩};have h2:x.1=2:=by rcases hx with h|h|h;{omega};{omega};exact(uK.1 h).1
   have hk:=(yI hc hx h2).2
   have key:∀(l:List Node) (s:CS) (acc:List Int),(∀y∈l,RG m y/\(y.1=2->rank y<rank x))->IL m s->IL m (vZ (su m vars n) l s acc).2 /\
     ∀z:Node,z.1=2->rank x<=rank z->lookO s.es z=none->lookO (vZ (su m vars n) l s acc).2.es z=none:=by
    intro l;induction l with
    |nil=>intro s acc _ h;exact⟨h,λ_ _ _ h=>h⟩
    |cons y l ih =>intro s acc hl h;unfold vZ;obtain⟨hy,hyr⟩:=hl y ak;obtain⟨h',g'⟩:=QA hc hr vars n y s hy h;have g2:∀z:Node,z.1=2->rank x<=rank z->lookO s.es z=none->lookO (su m vars n y s).2.es z=none:=λz hz hxz hs=>g' z hz (λe=>by have:=hyr e;omega) hs;split;{exact⟨h',g2⟩};obtain⟨i1,i2⟩:=ih (su m vars n y s).2 (acc++[(su m vars n y s).1.2]) (λz hz=>hl z (by simp[hz])) h';exact⟨i1,λz hz hxz hs=>i2 z hz hxz (g2 z hz hxz hs)⟩
   obtain⟨k1,k2⟩:=key (tC m x) st [] (λy hy=>⟨hk y hy,hr x hx h2 y hy⟩) h;split;{exact⟨k1,λz hz hxz hs=>k2 z hz (by have:=hxz h2;omega) hs⟩};exact push _ k1 h0 (k2 x h2 (aS _) hn) λz hz hxz hs=>k2 z hz (by have:=hxz h2;omega) hs
structure KC(o:List Int)(n:Nat):Prop where
 len:o.length=n
 rng:∀x∈o,0<=x/\x<(n:Int)
 nd:o.Nodup
theorem KC.mem{o:List Int}{n:Nat}(h:KC o n){i:Int}(h0:0<=i)(h1:i<(n:Int)):i∈o:=by
 apply aU;intro hi;have:=Eh (l:=i::o) (u:=(List.range n).map (λk:Nat=>(k:Int))) (ng.2 ⟨hi,h.nd⟩) (λx hx=>by
  have hr:0<=x/\x<(n:Int):=(by rcases aT.1 hx with rfl|hx;{exact⟨h0,h1⟩};exact h.rng x hx);exact bZ.2 ⟨x.toNat,iF.2 aj,aj⟩)
 simp[h.len]at this;omega
def FZ(o:List Int):Nat->List Int
 | 0=>List.replicate o.length 0
 |k+1=>(FZ o k).set (o.getD k 0).toNat k
theorem AZ(o:List Int):∀k,(FZ o k).length=o.length
 | 0=>by simp[FZ]
 |k+1=>by simp[FZ,AZ o k]
theorem b1I{o:List Int}{n:Nat}(h:KC o n):∀(k:Nat),k<=n->∀(j:Nat),j<k->(FZ o k).getD (o.getD j 0).toNat 0=(j:Int):=by
 intro k;induction k with
 |zero=>intro _ j hj;omega
 | succ k ih =>
   intro hk j hj;have hlk:k<o.length:=by rw[h.len];omega
   have hlj:j<o.length:=(by rw[h.len];omega);have ek:o.getD k 0=o[k]:=(by rw[aF,aH hlk];rfl);have ej:o.getD j 0=o[j]:=(by rw[aF,aH hlj];rfl);have rk:=h.rng _ (aQ hlk);have rj:=h.rng _ (aQ hlj);show((FZ o k).set (o.getD k 0).toNat k).getD _ 0=_;rw[Ad (by rw[AZ,h.len,ek];omega)];split;{rename_i e;rw[ek,ej]at e;have e2:o[j]=o[k]:=aj;by_cases hjk:j=k;{rw[hjk]};exact absurd e2 (fP.1 h.nd j k hlj hlk aj)};rename_i e;have hjk:j≠k:=λe'=>e (by rw[e']);exact ih aj j aj
def Tb.new(o:List Int):Tb:=⟨o,FZ o o.length,[],[],[]⟩
theorem Wv{o:List Int}{n:Nat}(h:KC o n)(hn:n<=60):tH (Tb.new o):=by have hl:=h.len;have at':=b1I h n (aS _);refine⟨by show o.length<=60;omega,AZ _ _,λk h0 h1=>?_,λi h0 h1=>?_,λk hk=>absurd hk (gJ _),λx r=>?_,λc a b r hh=>by cases hh⟩;{have h1:k<(o.length:Int):=h1;have hlk:k.toNat<o.length:=aj;have ek:o.getD k.toNat 0=o[k.toNat]:=(by rw[aF,aH hlk];rfl);have rk:=h.rng _ (aQ hlk);refine⟨?_,?_,?_⟩;{show 0<=o.getD k.toNat 0;rw[ek];exact rk.1};{show o.getD k.toNat 0<(o.length:Int);rw[ek,hl];exact rk.2};show(FZ o o.length).getD (o.getD k.toNat 0).toNat 0=k;rw[hl,at' k.toNat aj];omega};{have h1:i<(o.length:Int):=h1;obtain⟨k,hk,e⟩:=nJ.1 (h.mem h0 aj);have ek:o.getD k 0=i:=(by rw[aF,aH hk];exact e);have:=at' k aj;rw[ek]at this;have hp:(Tb.new o).pl i=(k:Int):=(by show(FZ o o.length).getD i.toNat 0=_;rw[hl];exact this);rw[hp];refine⟨aj,by show(k:Int)<(o.length:Int);omega,?_⟩;show o.getD (k:Int).toNat 0=i;rw[aJ];exact ek};constructor;{intro hh;cases hh};rintro⟨k,hk,_⟩;exact absurd hk (gJ _)
abbrev xN(o:List Int)(nd:AV):AV:=.ag [.sl 1 (o.map (.int .i64)) .no,.ms 0 0 o.length o.length 1,nd,.mp 1,.mp 2]
abbrev b68(o:List Int)(p:List Int):Heap:=[(3,.box (xN o .qW)),(2,.tN Ri []),(1,.tN Ri []),(0,.arr 1 o.length (p.map (.int .i64)))]
abbrev hpN(o:List Int):Heap:=[(4,.tok 3 0),(3,.box (xN o (.sl 3 [] (.own 4)))),(2,.tN Ri []),(1,.tN Ri []),(0,.arr 1 o.length ((FZ o o.length).map (.int .i64)))]
theorem b2M{o:List Int}{n:Nat}(h:KC o n)(hn:n<=60) :
  ZQ 57 [iL o] [] (.ptr 3 [] 0) (b68 o (FZ o o.length)):=by
 have hl:=h.len;refine ZN Tryz.func57 λhok=>?_;refine wX.mk ⟨[true,true,true,true,false,false,false,true,false,true],by kernel_rfl,?_⟩;conv=>whnf
 refine .pure (by simp[maxL];omega) aA ?_;refine⟨rfl,?_⟩;conv=>whnf
 rw[aC];refine⟨⟨aj,dR _,by show(o.length:Int)*((8:Nat):Int)<=281474976710656;omega,aj⟩,.wr ?_⟩;rw[aJ];conv=>whnf
 refine qV.of <| (qM.inv (.refl _ _) (λk:Nat=>k<=o.length) (λk=>[(17,.int .i64 k)]) (λk=>b68 o (FZ o k)) (λk=>o.length-k) 0 (aO _) ?_ ?_ ?_);{exact λ_=>rfl}
 ·refine Zv wk ?_;repeat' first|exact Zq|apply aI
  all_goals first|(show sS (List.replicate o.length _) (List.map _ (List.replicate o.length 0));rw[jU];exact qU _)|skip
 intro k hk _;have hpl:=AZ o k;refine ZS ?_ ?_<;>intro g
 ·have hlt:k<o.length:=(by simpa using g);have rk:=h.rng _ (aQ hlt);have ek:o.getD k 0=o[k]:=(by rw[aF,aH hlt];rfl);have es:FZ o (k+1)=(FZ o k).set (o[k]).toNat k:=(by show(FZ o k).set (o.getD k 0).toNat k=_;rw[ek]);refine ZW ?_;refine rV hlt (ZW ?_);refine⟨⟨rk.1,aj⟩,ZW ?_⟩;refine⟨by rw[aC];omega,rfl,ZW ?_⟩;refine ZG ?_;refine⟨k+1,?_,?_,?_⟩;{exact hlt}
  ·rw[es];refine Zv wk ?_;repeat' first|exact Zq|apply aI
   all_goals first|(rw[bC,dP];exact qU _)|skip
  omega
 have hk:k=o.length:=(by(have:¬k<o.length:=by simpa using g);omega);subst hk;refine ZW ?_;exact ZX
theorem b0U{o:List Int}{n:Nat}(h:KC o n)(hn:n<=60):ZQ 57 [iL o] [] (.ptr 3 [] 0) (hpN o) :=
 qX.cv (b2M h hn) (.GY 3 [2] 3 [] (xN o .qW) .qW _ rfl rfl (.inl ⟨rfl,rfl⟩) rfl (.refl _ _)) rfl
def Ia(d:List Bool)(args:List Int):List Bool:=args.foldl (λd a=>d.set a.toNat true) d
theorem Nh:∀(args:List Int) (d:List Bool),(Ia d args).length=d.length
 | [],_=>rfl
 |a::l,d=>by show(Ia (d.set a.toNat true) l).length=_;rw[Nh l];simp
theorem Gp{d:List Bool}{i j:Nat}:(d.set i true).getD j false=true↔d.getD j false=true\/(j<d.length/\i=j):=by rw[aF,aF,kG];by_cases h:i=j;{subst h;rw[aG rfl];by_cases hl:i<d.length;{rw[aG hl];simp[hl]};rw[aB hl];simp[hl]};rw[aB h];simp[h]
theorem Ja:∀(args:List Int) (d:List Bool) (j:Nat),(Ia d args).getD j false=true↔d.getD j false=true\/(j<d.length/\∃a∈args,a.toNat=j)
 | [],d,j=>by simp[Ia]
 |a::l,d,j=>by show(Ia (d.set a.toNat true) l).getD j false=true↔_;rw[Ja l,Gp];simp only[ni,aT];constructor;{rintro((h|⟨h1,h2⟩)|⟨h1,b,h2,h3⟩);{exact .inl h};{exact .inr ⟨h1,a,.inl rfl,h2⟩};exact .inr ⟨h1,b,.inr h2,h3⟩};rintro(h|⟨h1,b,rfl|h2,h3⟩);{exact .inl (.inl h)};{exact .inl (.inr ⟨h1,h3⟩)};exact .inr ⟨h1,b,h2,h3⟩
theorem WG{d:List Bool}{args:List Int}{j:Nat}(h:j<args.length):Ia d (args.take (j+1))=(Ia d (args.take j)).set args[j].toNat true:=by unfold Ia;rw[eP,aH h,fU];rfl
def argsAt(l:List Nd)(i:Nat):List Int:=(l.getD i default).args
def Jm(v:Nat)(l:List Nd)(top:Nat):Nat->List Bool
 | 0=>(List.replicate (v+l.length) false).set top true
 |k+1=>if(Jm v l top k).getD (v+(l.length-1-k)) false=true then Ia (Jm v l top k) (argsAt l (l.length-1-k))else Jm v l top k
def belF(v:Nat)(l:List Nd)(top:Nat):List Bool:=Jm v l top l.length
theorem Fb(v:Nat)(l:List Nd)(top:Nat):∀k,(Jm v l top k).length=v+l.length
 | 0=>by simp[Jm]
 |k+1=>by unfold Jm;split;{rw[Nh,Fb]};exact Fb v l top k
inductive Bel(v:Nat)(l:List Nd)(top:Nat):Nat->Prop
 |root:Bel v l top top
 |step {i:Nat} {a:Int} (h:Bel v l top (v+i)) (hi:i<l.length) (ha:a∈argsAt l i):Bel v l top a.toNat
theorem a3l{v:Nat}{l:List Nd}{top:Nat}(ht:top<v+l.length)(hw:∀i<l.length,∀a∈argsAt l i,0<=a/\a<(v:Int)+i):∀k,k<=l.length ->
  (∀j,(Jm v l top k).getD j false=true->Bel v l top j)/\(Jm v l top k).getD top false=true /\
  ∀i,l.length<=i+k->i<l.length->(Jm v l top k).getD (v+i) false=true->∀a∈argsAt l i,(Jm v l top k).getD a.toNat false=true
 | 0,_=>by refine⟨λj h=>?_,?_,λi h1 h2=>aj⟩;{unfold Jm at h;rw[Gp]at h;rcases h with h|⟨_,rfl⟩;{rw[aF,eU]at h;split at h <;> cases h};exact .root};unfold Jm;rw[Gp];exact .inr ⟨by simpa using ht,rfl⟩
 |k+1,hk=>by obtain⟨h1,h2,h3⟩:=a3l ht hw k aj;have hl:=Fb v l top k;unfold Jm;split;{rename_i hm;refine⟨λj h=>?_,?_,λi g1 g2 g3 a ha=>?_⟩;{rw[Ja]at h;rcases h with h|⟨_,a,ha,rfl⟩;{exact h1 j h};exact .step (h1 _ hm) aj ha};{rw[Ja];exact .inl h2};rw[Ja]at g3 ⊢;by_cases e:i=l.length-1-k;{subst e;have:=hw _ g2 a ha;exact .inr ⟨by rw[hl];omega,a,ha,rfl⟩};rcases g3 with g3|⟨_,b,hb,g4⟩;{exact .inl (h3 i aj g2 g3 a ha)};have:=hw _ aj b hb;omega};rename_i hm;refine⟨h1,h2,λi g1 g2 g3 a ha=>?_⟩;by_cases e:i=l.length-1-k;{subst e;exact absurd g3 hm};exact h3 i aj g2 g3 a ha
theorem X5{v:Nat}{l:List Nd}{top:Nat}(ht:top<v+l.length)(hw:∀i<l.length,∀a∈argsAt l i,0<=a/\a<(v:Int)+i)(j:Nat):(belF v l top).getD j false=true↔Bel v l top j:=by
 obtain⟨h1,h2,h3⟩:=a3l ht hw l.length (aS _);refine⟨h1 j,λh=>?_⟩;unfold belF;induction h with
 |root=>exact h2
 |step _ hi ha ih=>exact h3 _ aj hi ih _ ha
theorem KL.args{f:Fo}(h:KL f):∀i<f.nodes.length,∀a∈argsAt f.nodes i,0<=a/\a<(f.vars.toNat:Int)+i:=by intro i hi a ha;have hv:=h.vars;unfold argsAt at ha;rw[aF,aH hi]at ha;have:=(h.nodes i hi).args a ha;omega
theorem Jb{A:AV}(h:IC A (.bool true)):∀(d:List Bool) (i:Nat),sS ((d.map AV.bool).set i A) ((d.set i true).map AV.bool)
 | [],_=>trivial
 |_::_,0=>⟨h,qU _⟩
 |_::d,i+1=>⟨Lh _,Jb h d i⟩
theorem ZK{A:AV}(h:IC A (.bool true)):∀(n i:Nat),sS ((List.replicate n AV.ff).set i A) (((List.replicate n false).set i true).map AV.bool)
 | 0,_=>trivial
 |n+1,0=>⟨h,by
    show sS (List.replicate n AV.ff) ((List.replicate n false).map AV.bool);induction n with
    |zero=>trivial
    |succ n ih=>exact⟨rfl,ih⟩⟩
 |n+1,i+1=>⟨rfl,ZK h n i⟩
theorem a3f(f:Fo)(h:KL f):ZQ 186 [f.av] [] (.sl 1 ((belF f.vars.toNat f.nodes f.top.toNat).map .bool) .no) []:=by
 have hw:=h.args;obtain⟨h1,h2,h3,h4⟩:=h;have htn:f.top.toNat<f.vars.toNat+f.nodes.length:=aj;refine ZN Tryz.func186 λhok=>?_;refine⟨rQ aA aA,ZW ?_⟩;refine⟨by refine⟨aj,aj,aA,aA⟩,?_⟩;refine .wr (ZW ?_);refine⟨⟨aj,aA⟩,ZW ?_⟩;refine⟨aA,rfl,ZW ?_⟩;refine⟨rQ aA aA,ZW ?_⟩;refine qV.of <| qM.inv (.refl _ _) (λk:Nat=>k<=f.nodes.length) (λk=>[(4,.int .i64 ((f.nodes.length:Int)-1-k))]) (λk=>[(1,.arr 1 (f.vars+((f.nodes.map Nd.av).length:Int)).toNat ((Jm f.vars.toNat f.nodes f.top.toNat k).map .bool)),(0,.box f.av)]) (λk=>f.nodes.length-k) 0 ?_ (λ_=>rfl) ?_ ?_;{exact aO _}
 ·refine⟨?_,.mk ?_ ?_⟩
  ·repeat' first|exact Zq|apply aI
   all_goals (simp;done)
  ·repeat' first|exact Zq|apply aI
   all_goals (rw[bC,show(f.vars+((f.nodes.map Nd.av).length:Int)).toNat=f.vars.toNat+f.nodes.length by simp;omega];refine ZK ?_ _ _;first|exact rfl|(show _↔_;simp))
  exact⟨ak,ak,trivial⟩
 intro k hk _;have hbl:=Fb f.vars.toNat f.nodes f.top.toNat k;refine ZS ?_ ?_<;>intro g1
 ·have hlt:k<f.nodes.length:=aj;have hb1:Jm f.vars.toNat f.nodes f.top.toNat (k+1)=if(Jm f.vars.toNat f.nodes f.top.toNat k).getD (f.vars.toNat+(f.nodes.length-1-k)) false=true then Ia (Jm f.vars.toNat f.nodes f.top.toNat k) (argsAt f.nodes (f.nodes.length-1-k))else Jm f.vars.toNat f.nodes f.top.toNat k:=rfl;have hai:=hw (f.nodes.length-1-k) aj;have hia:f.nodes.length-1-k<f.nodes.length:=aj;have hae:argsAt f.nodes (f.nodes.length-1-k)=(f.nodes[f.nodes.length-1-k]).args:=(by unfold argsAt;rw[aF,aH hia];rfl);rw[hae]at hb1 hai;have hnl:(f.nodes[f.nodes.length-1-k]).args.length<=16:=(by have hal:=(h3 _ hia).num;split at hal;{omega};split at hal <;> omega);generalize Jm f.vars.toNat f.nodes f.top.toNat k=d at *;rw[show(f.nodes.length:Int)-1-k=((f.nodes.length-1-k:Nat):Int) by omega];refine ZW ?_;refine⟨rQ aj aj,ZW ?_⟩;refine⟨⟨aj,aA⟩,ZW ?_⟩;rw[show 0+(f.vars+((f.nodes.length-1-k:Nat):Int)).toNat=f.vars.toNat+(f.nodes.length-1-k) by omega];refine sK false aA (ZW ?_);refine⟨rfl,?_⟩;refine ZS ?_ ?_<;>intro g2
  ·rw[aJ]at g2;rw[aG g2]at hb1;refine ZW ?_;refine rV hia ?_;generalize f.nodes[f.nodes.length-1-k]=x at *;refine ZW ?_;refine qV.of <| qM.inv (.refl _ _) (λj:Nat=>j<=x.args.length) (λj=>[(40,.int .i64 j)]) (λj=>[(1,.arr 1 (f.vars+((f.nodes.map Nd.av).length:Int)).toNat ((Ia d (x.args.take j)).map .bool)),(0,.box f.av)]) (λj=>x.args.length-j) 0 ?_ (λ_=>rfl) ?_ ?_;{exact aO _};{refine⟨?_,.mk ?_ ?_⟩;{exact wk};{exact wk};exact⟨ak,ak,trivial⟩};intro j hj _;have hml:=Nh (x.args.take j) d;refine ZS ?_ ?_<;>intro g3
   ·have hjl:j<x.args.length:=(by simpa using g3);have hmt:=WG (d:=d) hjl;have ha:=hai _ (aQ hjl);refine ZW ?_;refine rV hjl ?_;generalize x.args[j]=a at *;refine ZW ?_;refine⟨⟨aj,aA⟩,ZW ?_⟩;refine⟨aA,rfl,ZW ?_⟩;refine ZG ?_;refine⟨j+1,?_,?_,?_⟩;{exact hjl}
    ·rw[hmt];refine⟨?_,.mk ?_ ?_⟩;{exact wk}
     ·repeat' first|exact Zq|apply aI
      all_goals (rw[bC];refine Jb ?_ _ _;first|exact rfl|(show _↔_;simp))
     exact⟨ak,ak,trivial⟩
    omega
   have hjl:j=x.args.length:=(by(have:¬j<x.args.length:=by simpa using g3);omega);subst hjl;clear g3;rw[bg,<- hb1];refine ZW ?_;refine⟨rQ aj aj,ZW ?_⟩;refine⟨k+1,?_,?_,?_⟩;{exact hlt}
   ·refine⟨?_,.mk ?_ ?_⟩
    ·repeat' first|exact Zq|apply aI
     all_goals (push_cast;omega)
    ·exact wk
    exact⟨ak,ak,trivial⟩
   omega
  rw[aJ]at g2;rw[aB (by rw[g2];simp)]at hb1;rw[<- hb1];refine ZW ?_;refine⟨rQ aj aj,ZW ?_⟩;refine⟨k+1,?_,?_,?_⟩;{exact hlt}
  ·refine⟨?_,.mk ?_ ?_⟩
   ·repeat' first|exact Zq|apply aI
    all_goals (push_cast;omega)
   ·exact wk
   exact⟨ak,ak,trivial⟩
  omega
 have hkl:k=f.nodes.length:=aj;subst hkl;refine ZW ?_;refine⟨⟨_,_,.keep 2 1 _ _ _ _ rfl rfl ?_ (.refl _ _),?_⟩⟩;{have:=Fb f.vars.toNat f.nodes f.top.toNat f.nodes.length;simp[this];omega};conv=>whnf
 refine Zx ?_ ?_
 ·repeat' first|exact Zq|apply aI
  all_goals (refine qY ?_;rw[bf (by rw[aC,Fb];simp;omega)];rfl)
 exact wk
def Eb(v:Nat)(l:List Nd)(d:List Bool)(n:Nat):Nat×Nat:=(List.range n).foldl (λp i=>if d.getD (v+i) false=true then(p.1+1,p.2+(argsAt l i).length)else p) (0,0)
theorem VL(v:Nat)(l:List Nd)(d:List Bool)(n:Nat):Eb v l d (n+1)=if d.getD (v+n) false=true then((Eb v l d n).1+1,(Eb v l d n).2+(argsAt l n).length)else Eb v l d n:=by unfold Eb;rw[kV,fU];rfl
theorem b3e(f:Fo)(h:KL f):ZQ 112 [f.av] [] (.uf [.int .i64 (Eb f.vars.toNat f.nodes (belF f.vars.toNat f.nodes f.top.toNat) f.nodes.length).1,.int .i64 (Eb f.vars.toNat f.nodes (belF f.vars.toNat f.nodes f.top.toNat) f.nodes.length).2,.vJ]) []:=by
 have cc:=QL f h;have cb:=a3f f h;have hbl:(belF f.vars.toNat f.nodes f.top.toNat).length=f.vars.toNat+f.nodes.length:=Fb _ _ _ _;obtain⟨h1,h2,h3,h4⟩:=h;generalize belF f.vars.toNat f.nodes f.top.toNat=d at *;refine ZN Tryz.func112 λhok=>?_;refine .zW cc ?_;refine ZR ?_;refine .zW cb ?_;have hle:((d.map AV.bool).drop f.vars.toNat).take (((d.map AV.bool).length:Int).toNat-f.vars.toNat)=(d.drop f.vars.toNat).map AV.bool:=(by rw[<- mO,<- iy,bf ak]);refine b1m.mk ⟨aA,?_⟩;rw[hle];refine ZW ?_;have hdl:(d.drop f.vars.toNat).length=f.nodes.length:=(by rw[fQ];omega);refine qV.of <| qM.inv (.refl _ _) (fun(i:Nat)=>i<=f.nodes.length/\(Eb f.vars.toNat f.nodes d i).1<=i/\(Eb f.vars.toNat f.nodes d i).2<=16*i) (fun(i:Nat)=>[(19,.int .i64 i),(2,.int .i64 (Eb f.vars.toNat f.nodes d i).1),(3,.int .i64 (Eb f.vars.toNat f.nodes d i).2)]) (λ_=>_) (fun(i:Nat)=>f.nodes.length-i) 0 ?_ (λ_=>rfl) ?_ ?_;{exact⟨aO _,aS _,aS _⟩};{exact wk};rintro i ⟨hi,hs1,hs2⟩ _;refine ZS ?_ ?_<;>intro g1
 ·have hil:i<f.nodes.length:=(by simp at g1;omega);have hsn:=VL f.vars.toNat f.nodes d i;have hae:argsAt f.nodes i=(f.nodes[i]).args:=(by unfold argsAt;rw[aF,aH hil];rfl);rw[hae]at hsn;have hnl:(f.nodes[i]).args.length<=16:=(by have hal:=(h3 _ hil).num;split at hal;{omega};split at hal <;> omega);refine ZW ?_;refine sK false aj ?_;rw[show(d.drop f.vars.toNat).getD ((i:Nat):Int).toNat false=d.getD (f.vars.toNat+i) false by rw[aJ,aF,aF,gZ]];generalize Eb f.vars.toNat f.nodes d i=p at *;refine ZS ?_ ?_<;>intro g2
  ·rw[aG g2]at hsn;refine ZW ?_;refine ZG ?_;refine ZW ?_;refine rV hil ?_;generalize f.nodes[i]=x at *;refine ZW ?_;refine⟨rQ aA aA,ZW ?_⟩;refine ZG ?_;refine⟨i+1,?_,?_,?_⟩;{rw[hsn];exact⟨hil,by dsimp only;omega,by dsimp only;omega⟩}
   ·rw[hsn];refine Zv ?_ ?_
    ·repeat' first|exact Zq|apply aI
     all_goals (simp;done)
    exact wk
   omega
  rw[aB (by rw[g2];simp)]at hsn;refine ZW ?_;refine ZG ?_;refine⟨i+1,?_,?_,?_⟩;{rw[hsn];exact⟨hil,aj,aj⟩};{rw[hsn];exact ZV};omega
 have hil:i=f.nodes.length:=(by simp at g1;omega);subst hil;exact ZJ
theorem UO:∀(n:Nat),sS (List.replicate n AV.ff) ((List.replicate n false).map AV.bool)
 | 0=>trivial
 |n+1=>⟨rfl,UO n⟩
theorem a9Q{o:List Int}{n:Nat}(h:KC o n)(hn:n<=24):ZQ 113 [iL o,.int .i64 n] [] .vJ []:=by
 have hl:=h.len;refine ZN Tryz.func113 λhok=>?_;refine aP (λg=>by exfalso;omega) (λg=>ZW ?_);refine aP (λg=>by exfalso;omega) (λg=>ZW ?_);refine aP (λg=>by exfalso;simp at g;omega) (λg=>ZW ?_);refine⟨⟨aj,dR _,by show(n:Int)*((1:Nat):Int)<=281474976710656;omega,aj⟩,.wr ?_⟩;rw[aJ];refine ZW ?_;refine qV.of <| (qM.inv (.refl _ _) (λk:Nat=>k<=o.length) (λk=>[(26,.int .i64 k)]) (λk=>[(0,.arr 1 n ((Ia (List.replicate n false) (o.take k)).map .bool))]) (λk=>o.length-k) 0 (aO _) ?_ ?_ ?_);{exact λ_=>rfl}
 ·refine Zv wk ?_;repeat' first|exact Zq|apply aI
  all_goals first|(show sS (List.replicate n _) (List.map _ (List.replicate n false));exact UO n)|skip
 intro k hk _;have hml:=Nh (o.take k) (List.replicate n false);rw[jD]at hml;refine ZS ?_ ?_<;>intro g
 ·have hlt:k<o.length:=(by simpa using g);have rk:=h.rng _ (aQ hlt);have hmt:=WG (d:=List.replicate n false) hlt;have hno:¬(Ia (List.replicate n false) (o.take k)).getD (o[k]).toNat false=true:=(by rw[Ja];rintro(h1|⟨_,b,hb,e⟩);{rw[aF,eU]at h1;split at h1 <;> cases h1};obtain⟨j,hj,ej⟩:=nJ.1 hb;have hj':j<k:=(by rw[bD]at hj;omega);rw[lI]at ej;have rb:=h.rng b (kK hb);have:o[j]=o[k]:=(by rw[ej];omega);exact absurd this (fP.1 h.nd j k aj hlt hj'));generalize Ia (List.replicate n false) (o.take k)=d at *;refine ZW ?_;refine rV hlt ?_;generalize o[k]=x at *;refine ZW ?_;refine aP (λg=>by exfalso;omega) (λg=>ZW ?_);refine aP (λg=>by exfalso;omega) (λg=>ZW ?_);refine⟨⟨rk.1,rk.2⟩,ZW ?_⟩;rw[bC];refine sK false ⟨aj,aj⟩ (ZW ?_);refine⟨rfl,ZW ?_⟩;refine aP (λg=>absurd g (by rw[aJ];exact hno)) (λg=>ZW ?_);refine⟨⟨rk.1,rk.2⟩,ZW ?_⟩;refine⟨by rw[aC];omega,rfl,ZW ?_⟩;refine ZG ?_;refine⟨k+1,?_,?_,?_⟩;{exact hlt}
  ·rw[hmt];refine Zv wk ?_;repeat' first|exact Zq|apply aI
   all_goals (rw[bC];refine Jb ?_ _ _;first|exact rfl|(show _↔_;simp))
  omega
 refine ZW ?_;exact ZX
def Uk (v:Nat) (l:List Nd):Nat->Int->List Bool×List Int->List Bool×List Int
 | 0,_,s=>s
 |n+1,a,s=>if s.1.getD a.toNat false=true then s
    else if a<(v:Int)then(s.1.set a.toNat true,s.2++[a])
    else(argsAt l (a.toNat-v)).foldl (λs b=>Uk v l n b s) (s.1.set a.toNat true,s.2)
structure VsI(v m:Nat)(s:List Bool×List Int):Prop where
 len:s.1.length=v+m
 ev:∀e∈s.2,0<=e/\e<(v:Int)/\s.1.getD e.toNat false=true
 nd:s.2.Nodup
 all:∀i:Nat,i<v->s.1.getD i false=true->(i:Int)∈s.2
theorem VsI.short{v m:Nat}{s:List Bool×List Int}(h:VsI v m s):s.2.length<=v:=by
 have:=Eh (l:=s.2) (u:=(List.range v).map (λk:Nat=>(k:Int))) h.nd (λx hx=>by
  have:=h.ev x hx;exact bZ.2 ⟨x.toNat,iF.2 aj,aj⟩)
 simpa using this
theorem VsI.mark{v m:Nat}{s:List Bool×List Int}(h:VsI v m s){a:Int}(h0:0<=a)(h1:a<((v+m:Nat):Int))(hm:¬s.1.getD a.toNat false=true) :
  VsI v m (s.1.set a.toNat true,if a<(v:Int)then s.2++[a]else s.2):=by
 have hl:=h.len;refine⟨by simp[hl],λe he=>?_,?_,λi hi hs=>?_⟩;{have old:e∈s.2->0<=e/\e<(v:Int)/\(s.1.set a.toNat true).getD e.toNat false=true:=λhe=>(by obtain⟨q1,q2,q3⟩:=h.ev e he;exact⟨q1,q2,Gp.2 (.inl q3)⟩);dsimp only at he;split at he;{rename_i hv;rcases dM.1 he with he|he;{exact old he};obtain rfl:=kX.1 he;exact⟨h0,hv,Gp.2 (.inr ⟨aj,rfl⟩)⟩};exact old he};{dsimp only;split;{refine iK.2 ⟨h.nd,ak,λx hx y hy e=>?_⟩;obtain rfl:=kX.1 hy;exact hm (e ▸ (h.ev x hx).2.2)};exact h.nd};dsimp only at hs ⊢;rcases Gp.1 hs with hs|⟨_,hs⟩;{have:=h.all i hi hs;split;{exact dM.2 (.inl this)};exact this};rw[aG aj];exact dM.2 (.inr (by rw[kX];omega))
theorem Vs{v:Nat}{l:List Nd}(hw:∀i<l.length,∀a∈argsAt l i,0<=a/\a<(v:Int)+i):∀(n:Nat) (a:Int) (s:List Bool×List Int),VsI v l.length s->0<=a->a<((v+l.length:Nat):Int)->VsI v l.length (Uk v l n a s)
 | 0,_,_,h,_,_=>h
 | n+1,a,s,h,h0,h1=>by
   unfold Uk;split;{exact h};rename_i hm;have hk:=h.mark h0 h1 hm;split;{rename_i hv;rw[aG hv]at hk;exact hk};rename_i hv;rw[aB hv]at hk;have hwa:=hw (a.toNat-v) aj;generalize argsAt l (a.toNat-v)=args at *;generalize (s.1.set a.toNat true,s.2)=s' at *;induction args generalizing s' with
   |nil=>exact hk
   |cons b args ih =>have hb:=hwa b ak;exact ih (λx hx=>hwa x (by simp[hx])) _ (Vs hw n b s' hk hb.1 aj)
theorem Z7{α β:Type}(f:β->α->β)(s:β){l:List α}{j:Nat}(h:j<l.length):(l.take (j+1)).foldl f s=f ((l.take j).foldl f s) l[j]:=by rw[eP,aH h,fU];rfl
abbrev hpV(f:Fo)(s:List Bool×List Int):Heap :=
 [(2,.tok 1 s.2.length),(1,.arr 1 (f.vars.toNat+f.nodes.length) (s.1.map .bool)),(0,.box (.ag [f.av,.sl 1 (s.2.map (.int .i64)) (.own 2),.ms 1 0 (f.vars.toNat+f.nodes.length) (f.vars.toNat+f.nodes.length) 1]))]
theorem b2K(f:Fo)(h:KL f):∀(n:Nat) (a:Int) (s:List Bool×List Int),VsI f.vars.toNat f.nodes.length s->0<=a->a<((f.vars.toNat+f.nodes.length:Nat):Int)->a<(n:Int) ->
  ZQ 185 [.ptr 0 [] 0,.int .i64 a] (hpV f s) (.uf []) (hpV f (Uk f.vars.toNat f.nodes n a s)):=by
 intro n;induction n with
 |zero=>intro a s _ h0 _ h1;omega
 | succ n ih =>
   intro a s hs h0 h1 han;have hlen:=hs.len;have hsh:=hs.short;have hw:=h.args;have hal:∀i,i<f.nodes.length->(argsAt f.nodes i).length<=16:=λi hi=>by have hal:=(h.nodes i hi).num;have e:argsAt f.nodes i=f.nodes[i].args:=(by unfold argsAt;rw[aF,aH hi];rfl);rw[e];split at hal;{omega};split at hal <;> omega
   obtain⟨g1,g2,g3,g4⟩:=h;refine ZN Tryz.func185 λhok=>?_;refine⟨⟨h0,h1⟩,ZW ?_⟩;rw[bC];refine sK false ⟨aj,aj⟩ (ZW ?_);refine⟨rfl,ZW ?_⟩;rw[aJ];constructor<;>intro g;{rw[show Uk f.vars.toNat f.nodes (n+1) a s=s from aG g];refine ZW ?_;exact ZX};have hm:¬s.1.getD a.toNat false=true:=(by rw[g];simp);have hmk:=hs.mark h0 h1 hm;refine ZW ?_;refine⟨⟨h0,h1⟩,ZW ?_⟩;refine⟨by rw[aC];omega,rfl,?_⟩;refine ZS ?_ ?_<;>intro g5
   ·have g5':a<(f.vars.toNat:Int):=aj;rw[show Uk f.vars.toNat f.nodes (n+1) a s=(s.1.set a.toNat true,s.2++[a])from(aB hm).trans (aG g5')];refine ZW ?_;refine⟨by rw[aC],.mk (by simp[maxL];omega) aA (ZW ?_)⟩;refine ZE ?_ ?_;{exact wk};repeat' first|exact Zq|apply aI
    all_goals first|(simp;done)|(rw[bC];refine Jb ?_ _ _;first|exact rfl|(show _↔_;simp))|(show sS _ (List.map _ (_++[_]));rw[aV];exact qU _)
   have g5':¬a<(f.vars.toNat:Int):=aj;rw[aB g5']at hmk;have hwa:=hw (a.toNat-f.vars.toNat) aj;have b8e:=hal (a.toNat-f.vars.toNat) aj;rw[show Uk f.vars.toNat f.nodes (n+1) a s=(argsAt f.nodes (a.toNat-f.vars.toNat)).foldl (λs b=>Uk f.vars.toNat f.nodes n b s) (s.1.set a.toNat true,s.2)from(aB hm).trans (aB g5')];have hinv:∀j,j<=(argsAt f.nodes (a.toNat-f.vars.toNat)).length->VsI f.vars.toNat f.nodes.length (((argsAt f.nodes (a.toNat-f.vars.toNat)).take j).foldl (λs b=>Uk f.vars.toNat f.nodes n b s) (s.1.set a.toNat true,s.2)):=by
    intro j;induction j with
    |zero=>intro _;exact hmk
    |succ j ihj =>intro hj;rw[Z7 _ _ (show j<(argsAt f.nodes (a.toNat-f.vars.toNat)).length by omega)];have:=hwa _ (aQ (show j<(argsAt f.nodes (a.toNat-f.vars.toNat)).length by omega));exact Vs hw n _ _ (ihj aj) this.1 aj
   refine ZW ?_;refine ZR ?_;refine⟨rQ aj aj,?_⟩;conv=>whnf
   refine sK default ⟨aj,aj⟩ ?_;rw[show(a-f.vars).toNat=a.toNat-f.vars.toNat by omega];conv=>whnf
   rw[show(f.nodes.getD (a.toNat-f.vars.toNat) default).args=argsAt f.nodes (a.toNat-f.vars.toNat)from rfl];generalize argsAt f.nodes (a.toNat-f.vars.toNat)=args at *;refine qV.of <| (qM.inv (.refl _ _) (λk:Nat=>k<=args.length) (λk=>[(52,.int .i64 k)]) (λk=>hpV f ((args.take k).foldl (λs b=>Uk f.vars.toNat f.nodes n b s) (s.1.set a.toNat true,s.2))) (λk=>args.length-k) 0 (aO _) ?_ ?_ ?_);{exact λ_=>rfl}
   ·refine Zv wk ?_;repeat' first|exact Zq|apply aI
    all_goals first|(rw[bC];refine Jb ?_ _ _;first|exact rfl|(show _↔_;simp))|skip
   intro k hk _;have hik:=hinv k hk;refine ZS ?_ ?_<;>intro g6;{have hlt:k<args.length:=(by simpa using g6);have hb:=hwa _ (aQ hlt);have q:=ih (args[k]) _ hik hb.1 aj aj;rw[<- Z7 (λs b=>Uk f.vars.toNat f.nodes n b s) _ hlt]at q;refine ZW ?_;refine rV hlt (ZW ?_);refine .gen _ _ q λ_=>ZW ?_;refine ZG ?_;refine⟨k+1,?_,?_,?_⟩;{exact hlt};{exact ZV};omega};have hk:k=args.length:=(by(have:¬k<args.length:=by simpa using g6);omega);subst hk;rw[bg];refine ZW ?_;exact ZX
def Jj(_:Nat)(s:List Bool×List Int)(k:Nat):List Int:=s.2++((List.range k).filter λi=>!s.1.getD i false).map λi:Nat=>(i:Int)
theorem a6z(v:Nat)(s:List Bool×List Int)(k:Nat):Jj v s (k+1)=if s.1.getD k false=true then Jj v s k else Jj v s k++[(k:Int)]:=by
 unfold Jj;rw[kV,kY];cases h:s.1.getD k false with
 |true =>have h':s.1[k]?.getD false=true:=(by simpa using h);simp[h']
 |false =>have h':s.1[k]?.getD false=false:=(by simpa using h);simp[h']
theorem a6A{v m:Nat}{s:List Bool×List Int}(h:VsI v m s):KC (Jj v s v) v:=by
 have hmem:∀i:Nat,i<v->(i:Int)∈Jj v s v:=λi hi=>(by unfold Jj;by_cases hs:s.1.getD i false=true;{exact dM.2 (.inl (h.all i hi hs))};refine dM.2 (.inr (bZ.2 ⟨i,fF.2 ⟨iF.2 hi,?_⟩,rfl⟩));simpa using hs);have hr:∀x∈Jj v s v,0<=x/\x<(v:Int):=λx hx=>(by unfold Jj at hx;rcases dM.1 hx with hx|hx;{exact⟨(h.ev x hx).1,(h.ev x hx).2.1⟩};obtain⟨i,hi,rfl⟩:=bZ.1 hx;have:=iF.1 (fF.1 hi).1;omega);have hn:(Jj v s v).Nodup:=by unfold Jj;refine iK.2 ⟨h.nd,?_,λx hx y hy e=>?_⟩;{refine List.Pairwise.map _ (R:=(· ≠ ·)) (λa b hab e=>hab aj) ?_;exact List.Pairwise.filter _ List.nodup_range};obtain⟨i,hi,rfl⟩:=bZ.1 hy;have h1:=(fF.1 hi).2;subst e;have:=(h.ev _ hx).2.2;rw[aJ]at this;rw[this]at h1;cases h1
 refine⟨Nat.le_antisymm ?_ ?_,hr,hn⟩
 ·have:=Eh (l:=Jj v s v) (u:=(List.range v).map (λk:Nat=>(k:Int))) hn (λx hx=>by
   have:=hr x hx;exact bZ.2 ⟨x.toNat,iF.2 aj,aj⟩)
  simpa using this
 have:=Eh (l:=(List.range v).map (λk:Nat=>(k:Int))) (u:=Jj v s v) (by
  refine List.Pairwise.map _ (R:=(· ≠ ·)) (λa b hab e=>hab aj) List.nodup_range) (λx hx=>by
  obtain⟨i,hi,rfl⟩:=bZ.1 hx;exact hmem i (iF.1 hi))
 simpa using this
def b4V(f:Fo):List Bool×List Int:=Uk f.vars.toNat f.nodes (f.top.toNat+1) f.top (List.replicate (f.vars.toNat+f.nodes.length) false,[])
def b3W(f:Fo):List Int:=Jj f.vars.toNat (b4V f) f.vars.toNat
theorem a2P(f:Fo)(h:KL f):VsI f.vars.toNat f.nodes.length (b4V f):=by have h4:=h.top;have h1:=h.vars;refine Vs h.args _ _ _ ⟨ak,λe he=>(by cases he),List.nodup_nil,λi hi hs=>?_⟩ h4.1 aj;rw[aF,eU]at hs;split at hs <;> cases hs
theorem a9P(f:Fo)(h:KL f):ZQ 111 [f.av] [] (.uf [iL (b3W f),.sl 1 ((b4V f).1.map .bool) .no]) []:=by
 have hs:=a2P f h;have h1:=h.vars;have h4:=h.top;have c:ZQ 185 [.ptr 0 [] 0,.int .i64 f.top] (hpV f (List.replicate (f.vars.toNat+f.nodes.length) false,[])) (.uf []) (hpV f (b4V f)):=b2K f h (f.top.toNat+1) f.top (List.replicate (f.vars.toNat+f.nodes.length) false,[]) ⟨ak,λe he=>(by cases he),List.nodup_nil,λi hi hs=>by
  rw[aF,eU]at hs;split at hs <;> cases hs⟩ h4.1 aj aj
 unfold b3W;generalize b4V f=s at *;obtain⟨g1,g2,g3,g4⟩:=h;refine ZN Tryz.func111 λhok=>?_;refine wX.Xe [0] ?_;conv=>whnf
 refine aP ⟨rfl,rfl⟩ ?_;conv=>whnf
 refine⟨[true,true,true,true,true,true,true,false,true,false,true],by kernel_rfl,?_⟩;conv=>whnf
 rw[aC];refine⟨rQ aj aj,?_⟩;conv=>whnf
 rw[show f.vars+(f.nodes.length:Int)=((f.vars.toNat+f.nodes.length:Nat):Int) by omega];refine⟨⟨aj,dR _,by show((f.vars.toNat+f.nodes.length:Nat):Int)*((1:Nat):Int)<=281474976710656;omega,aj⟩,.wr ?_⟩;rw[aJ];conv=>whnf
 refine .gen _ _ (qX.pre (.GY 2 [1] 1 [] (.ag [f.av,.qW,.ms 1 0 (f.vars.toNat+f.nodes.length) (f.vars.toNat+f.nodes.length) 1]) .qW _ rfl rfl (.inl ⟨rfl,rfl⟩) rfl (.refl _ _)) (qX.frame [2,1,3] c ⟨rfl,rfl,rfl,rfl⟩ ?_ ?_)) λ_=>?_
 ·repeat' first|exact Zq|apply aI
  all_goals first|(show sS (List.replicate _ AV.ff) (List.map _ (List.replicate _ false));exact UO _)|skip
 ·exact wk
 have hsl:=hs.len;have hss:=hs.short;have hdl:∀k,k<=f.vars.toNat->(Jj f.vars.toNat s k).length<=48:=λk hk=>(by unfold Jj;rw[bn,aC];have:=fJ (λi=>!s.1.getD i false) (List.range k);rw[lH]at this;omega);refine ZW ?_;refine qV.of <| (qM.inv (.refl _ _) (λk:Nat=>k<=f.vars.toNat) (λk=>[(22,.int .i64 k)]) (λk=>[(3,.tok 1 (Jj f.vars.toNat s k).length),(2,.box (.ag [f.av,.sl 1 ((Jj f.vars.toNat s k).map (.int .i64)) (.own 3),.ms 1 0 (f.vars.toNat+f.nodes.length) (f.vars.toNat+f.nodes.length) 1])),(1,.arr 1 (f.vars.toNat+f.nodes.length) (s.1.map .bool)),(0,.gone)]) (λk=>f.vars.toNat-k) 0 (aO _) ?_ ?_ ?_);{exact λ_=>rfl}
 ·refine Zv wk ?_;repeat' first|exact Zq|apply aI
  all_goals first|(show sS _ (List.map _ (s.2++[]));rw[iT];exact qU _)|(unfold Jj;simp;done)|skip
 intro k hk _;have hdk:=hdl k hk;have hds:=a6z f.vars.toNat s k;refine ZS ?_ ?_<;>intro g
 ·have hlt:k<f.vars.toNat:=aj;generalize Jj f.vars.toNat s k=d at *;refine ZW ?_;refine⟨⟨aj,aj⟩,ZW ?_⟩;rw[bC];refine sK false ⟨aj,aj⟩ ?_;rw[aJ];refine ZW ?_;refine⟨rfl,?_⟩;refine ZS ?_ ?_<;>intro g2
  ·have g2':s.1.getD k false=false:=by
    cases h:s.1.getD k false with
    |false=>rfl
    |true=>rw[aJ,h]at g2;cases g2
   rw[aB (by rw[g2'];simp)]at hds;refine ZW ?_;refine⟨by rw[aC],.mk (by simp[maxL];omega) aA (ZW ?_)⟩;refine ZG ?_;refine⟨k+1,?_,?_,?_⟩;{exact hlt}
   ·rw[hds];refine Zv wk ?_;repeat' first|exact Zq|apply aI
    all_goals first|(simp;done)|(show sS _ (List.map _ (_++[_]));rw[aV];exact qU _)
   omega
  have g2':s.1.getD k false=true:=by
   cases h:s.1.getD k false with
   |true=>rfl
   |false=>rw[aJ,h]at g2;cases g2
  rw[aG g2']at hds;refine ZW ?_;refine ZG ?_;refine⟨k+1,?_,?_,?_⟩;{exact hlt};{rw[hds];exact ZV};omega
 have hk:k=f.vars.toNat:=aj;subst hk;refine ZW ?_;refine ZR ?_;refine⟨⟨_,_,.freeze 3 1 _ _ _ _ _ _ rfl rfl ?_ (.refl _ _),?_⟩⟩;{rw[aC];omega};conv=>whnf
 refine Zx ?_ ?_
 ·repeat' first|exact Zq|apply aI
  all_goals first|(refine qY ?_;rw[fD,bf (by rw[aC];omega)])|skip
 exact wk
theorem a3b(f:Fo)(h:KL f):ZQ 56 [f.av] [] (.uf [iL (b3W f),.vJ]) []:=by have cc:=QL f h;have cd:=a9P f h;refine ZN Tryz.func56 λhok=>?_;refine .zW cc ?_;refine .zW cd ?_;exact ZH
theorem a0l(f:Fo)(h:KL f):KC (b3W f) f.vars.toNat:=a6A (a2P f h)
def zH(l0:List Bool)(nodes:List Nd):List Bool:=nodes.foldl Ul l0
theorem Y3(l0:List Bool):∀(nodes:List Nd),(zH l0 nodes).length=l0.length+nodes.length:=by
 intro nodes;unfold zH;induction nodes generalizing l0 with
 |nil=>simp
 |cons x l ih=>rw[dY,ih];simp[Ul];omega
theorem a4O(l0:List Bool)(l r:List Nd):∃t,zH l0 (l++r)=zH l0 l++t:=by
 unfold zH;rw[fU];generalize l.foldl Ul l0=u;induction r generalizing u with
 |nil=>exact⟨[],ak⟩
 |cons x r ih =>obtain⟨t,ht⟩:=ih (Ul u x);exact⟨[zS x (JU u x.args)]++t,by rw[dY,ht];simp[Ul]⟩
theorem zZ(l0:List Bool)(l r:List Nd){j:Nat}(h:j<l0.length+l.length):(zH l0 (l++r)).getD j false=(zH l0 l).getD j false:=by obtain⟨t,ht⟩:=a4O l0 l r;rw[ht,aF,bH (by rw[Y3];exact h),<- aF]
theorem Vu(l0:List Bool)(l:List Nd){k:Nat}(h:k<l.length):(zH l0 l).getD (l0.length+k) false=zS l[k] (JU (zH l0 (l.take k)) l[k].args):=by have e:l=(l.take k++[l[k]])++l.drop (k+1):=(by rw[<- bG h,fH]);have hl:(l.take k).length=k:=(by rw[bD];omega);have:=zZ l0 (l.take k++[l[k]]) (l.drop (k+1)) (j:=l0.length+k) aA;rw[<- e]at this;rw[this];unfold zH;rw[fU];show((Ul (zH l0 (l.take k)) l[k]).getD _ false)=_;have hv:=Y3 l0 (l.take k);rw[hl]at hv;unfold Ul;rw[aF,dJ aj,hv,gV];rfl
theorem Vt(l0:List Bool)(l:List Nd){j k:Nat}(h:j<l0.length+k)(hk:k<=l.length):(zH l0 (l.take k)).getD j false=(zH l0 l).getD j false:=by have:=zZ l0 (l.take k) (l.drop k) (j:=j) (by rw[bD];omega);rw[fH]at this;exact this.symm
theorem a4h{u w:List Bool}{f:Int->Int}:∀{args:List Int},(∀a∈args,u.getD (f a).toNat false=w.getD a.toNat false)->JU u (args.map f)=JU w args:=by
 have key:∀(args:List Int) (n:Nat),(∀a∈args,u.getD (f a).toNat false=w.getD a.toNat false)->(args.map f).foldl (λn a=>if u.getD a.toNat false=true then n+1 else n) n=args.foldl (λn a=>if w.getD a.toNat false=true then n+1 else n) n:=by
  intro args;induction args with
  |nil=>intro n _;rfl
  |cons a l ih =>intro n h;rw[dF,dY,dY,h a ak];exact ih _ λb hb=>h b (by simp[hb])
 intro args h;exact key args 0 h
theorem a5E{k n:Int}{a b:List Int}(h:a.length=b.length)(c:Nat):zS ⟨k,n,a⟩ c=zS ⟨k,n,b⟩ c:=by unfold zS;simp only[h]
def Tn(to:List Int)(a:Int):Int:=to.getD a.toNat 0
def b3S(to:List Int)(x:Nd):Nd:=⟨x.kind,x.k,x.args.map (Tn to)⟩
def trK(v:Nat)(l:List Nd)(d:List Bool):Nat->List Int×List Nd
 | 0=>((List.range v).map (λi:Nat=>(i:Int))++List.replicate l.length 0,[])
 |k+1=>if d.getD (v+k) false=true then((trK v l d k).1.set (v+k) ((v:Int)+(trK v l d k).2.length),(trK v l d k).2++[b3S (trK v l d k).1 (l.getD k default)])else trK v l d k
structure TrI(v:Nat)(l:List Nd)(d:List Bool)(k:Nat)(s:List Int×List Nd):Prop where
 len:s.1.length=v+l.length
 out:s.2.length<=k
 ref:∀j:Nat,j<v+k->(j<v\/d.getD j false=true)->0<=s.1.getD j 0/\s.1.getD j 0<(v:Int)+s.2.length
 nd:∀(i:Nat) (h:i<s.2.length),NR v i s.2[i]
 val:∀l0:List Bool,l0.length=v->∀j:Nat,j<v+k->(j<v\/d.getD j false=true)->(zH l0 s.2).getD (s.1.getD j 0).toNat false=(zH l0 l).getD j false
theorem a4W{v:Nat}{l:List Nd}{d:List Bool}(hn:∀(i:Nat) (h:i<l.length),NR v i l[i])(hd:∀i<l.length,d.getD (v+i) false=true->∀a∈argsAt l i,a<(v:Int)\/d.getD a.toNat false=true) :
  ∀k,k<=l.length->TrI v l d k (trK v l d k)
 | 0,_=>by have h0:∀j:Nat,j<v->((List.range v).map (λi:Nat=>(i:Int))++List.replicate l.length 0).getD j 0=(j:Int):=λj hj=>(by rw[aF,bH (by simpa using hj),dO,gQ hj];rfl);refine⟨by simp[trK],aS _,λj hj _=>?_,λi h=>absurd h (gJ _),λl0 hl j hj _=>?_⟩;{show 0<=(_++_:List Int).getD j 0/\(_++_:List Int).getD j 0<_;rw[h0 j hj];simp[trK];omega};show(zH l0 []).getD ((_++_:List Int).getD j 0).toNat false=_;rw[h0 j hj,aJ];have:=zZ l0 [] l (j:=j) aA;exact this.symm
 | k+1,hk=>by
   have ih:=a4W hn hd k aj;have hkl:k<l.length:=aj;have ex:l.getD k default=l[k]:=(by rw[aF,aH hkl];rfl);have ea:argsAt l k=l[k].args:=(by unfold argsAt;rw[ex]);unfold trK;generalize trK v l d k=s at *;obtain⟨i1,i2,i3,i4,i5⟩:=ih;split
   ·rename_i hm;have nk:=hn k hkl;have hda:=hd k hkl hm;rw[ea]at hda;rw[ex];have aok:∀a∈l[k].args,0<=a/\a.toNat<v+k/\(a.toNat<v\/d.getD a.toNat false=true):=λa ha=>by have h1:=nk.args a ha;exact⟨h1.1,aj,(hda a ha).imp (λh=>by omega) id⟩
    have hg:∀j,(s.1.set (v+k) ((v:Int)+s.2.length)).getD j 0=if j=v+k then(v:Int)+s.2.length else s.1.getD j 0:=λj=>Ad aj;refine⟨by simp[i1],aA,λj hj hjd=>?_,λi hi=>?_,λl0 hl j hj hjd=>?_⟩;{dsimp only;rw[hg];split;{simp;omega};rename_i hne;have h5:=i3 j aj hjd;refine⟨h5.1,?_⟩;rw[bn,jC];omega}
    ·dsimp only at hi ⊢;by_cases hlt:i<s.2.length;{rw[kT hlt];exact i4 i hlt};obtain rfl:i=s.2.length:=by simp at hi;omega
     rw[l7 (aS _)];simp only[gV,jW];refine⟨nk.kind,?_,λa ha=>?_,?_⟩;{simp only[b3S,aC];exact nk.num};{obtain⟨b,hb,rfl⟩:=bZ.1 ha;have h1:=aok b hb;exact i3 b.toNat h1.2.1 h1.2.2};simp only[b3S,aC];exact nk.k
    dsimp only;rw[hg];split
    ·rename_i e;subst e;rw[show((v:Int)+(s.2.length:Int)).toNat=l0.length+s.2.length by omega];have h1:=Vu l0 (s.2++[b3S s.1 l[k]]) (k:=s.2.length) ak;have h2:=Vu l0 l hkl;rw[h1,<- hl,h2,List.take_left']
     ·simp only[l7 (aS _),gV,jW];have hc:JU (zH l0 s.2) (b3S s.1 l[k]).args=JU (zH l0 (l.take k)) l[k].args:=by refine a4h λa ha=>?_;have h3:=aok a ha;rw[Vt l0 l aj aj];exact i5 l0 hl a.toNat h3.2.1 h3.2.2
      rw[hc];exact a5E ak _
     rfl
    rename_i hne;have h3:=i3 j aj hjd;rw[zZ l0 s.2 _ aj];exact i5 l0 hl j aj hjd
   rename_i hm;refine⟨i1,aj,λj hj hjd=>?_,i4,λl0 hl j hj hjd=>?_⟩;{rcases jS j (v+k)with h|h;{exact i3 j h hjd};obtain rfl:j=v+k:=aj;rcases hjd with h'|h';{omega};exact absurd h' hm};rcases jS j (v+k)with h|h;{exact i5 l0 hl j h hjd};obtain rfl:j=v+k:=aj;rcases hjd with h'|h';{omega};exact absurd h' hm
def QO(f:Fo):List Bool:=belF f.vars.toNat f.nodes f.top.toNat
def trS(f:Fo)(k:Nat):List Int×List Nd:=trK f.vars.toNat f.nodes (QO f) k
def trimF(f:Fo):Fo:=⟨f.vars,(trS f f.nodes.length).2,Tn (trS f f.nodes.length).1 f.top⟩
theorem a4V(f:Fo)(h:KL f)(k:Nat)(hk:k<=f.nodes.length):TrI f.vars.toNat f.nodes (QO f) k (trS f k):=by have h1:=h.vars;have h4:=h.top;have ha:=h.args;have hb:=λj=>X5 (v:=f.vars.toNat) (l:=f.nodes) (top:=f.top.toNat) aj ha j;refine a4W (λi hi=>?_) (λi hi hd a haa=>?_) k hk;{have:=h.nodes i hi;rw[show(f.vars.toNat:Int)=f.vars by omega];exact this};refine .inr ?_;have h2:=(hb _).1 hd;exact(hb _).2 (.step h2 hi haa)
theorem a4U(f:Fo)(h:KL f):KL (trimF f)/\∀l0:List Bool,l0.length=f.vars.toNat->(zH l0 (trimF f).nodes).getD (trimF f).top.toNat false=(zH l0 f.nodes).getD f.top.toNat false:=by have h1:=h.vars;have h3:=h.len;have h4:=h.top;have ti:=a4V f h f.nodes.length (aS _);have hb:=λj=>X5 (v:=f.vars.toNat) (l:=f.nodes) (top:=f.top.toNat) aj h.args j;have ht:f.top.toNat<f.vars.toNat\/(QO f).getD f.top.toNat false=true:=.inr ((hb _).2 .root);have rf:=ti.ref f.top.toNat aj ht;have out:=ti.out;refine⟨⟨h1,by show(trS f f.nodes.length).2.length<=128;omega,λi hi=>?_,?_⟩,λl0 hl=>?_⟩;{have:=ti.nd i hi;rw[show(f.vars.toNat:Int)=f.vars by omega]at this;exact this};{show 0<=Tn _ f.top/\Tn _ f.top<f.vars+_;unfold Tn trimF;dsimp only;omega};exact ti.val l0 hl f.top.toNat aj ht
def Qn(n k:Nat):List Int:=(List.range k).map (λi:Nat=>(i:Int))++List.replicate (n-k) 0
theorem a4b{n k:Nat}(h:k<n):(Qn n k).set k (k:Int)=Qn n (k+1):=by unfold Qn;obtain⟨m,hm⟩:∃m,n-k=m+1:=⟨n-k-1,aj⟩;rw[hm,show n-(k+1)=m by omega,kC _ _ ak,kV,aV,bP];simp[nM]
theorem a6f{n k:Nat}(h:k<=n):(Qn n k).length=n:=by simp[Qn];omega
theorem b3d(f:Fo)(h:KL f):ZQ 114 [f.av] [] (.uf [(trimF f).av,.vJ]) []:=by
 have cc:=QL f h;have cb:=a3f f h;have hbl:(belF f.vars.toNat f.nodes f.top.toNat).length=f.vars.toNat+f.nodes.length:=Fb _ _ _ _;have hinv:=a4V f h;obtain⟨h1,h2,h3,h4⟩:=h;refine ZN Tryz.func114 λhok=>?_;refine .zW cc ?_;refine⟨rQ aA aA,ZW ?_⟩;rw[aC,show f.vars+(f.nodes.length:Int)=((f.vars.toNat+f.nodes.length:Nat):Int) by omega];refine⟨⟨aj,dR _,by show((f.vars.toNat+f.nodes.length:Nat):Int)*((8:Nat):Int)<=281474976710656;omega,aj⟩,.wr ?_⟩;rw[aJ];refine ZW ?_;refine qV.of <| (qM.inv (.refl _ _) (λk:Nat=>k<=f.vars.toNat) (λk=>[(32,.int .i64 k)]) (λk=>[(3,.arr 1 (f.vars.toNat+f.nodes.length) ((Qn (f.vars.toNat+f.nodes.length) k).map (.int .i64))),(2,.box (.ag [.int .i64 f.vars,.qW,.int .i64 0])),(1,.box (.ag [.int .i64 0,.qW,.int .i64 0])),(0,.box f.av)]) (λk=>f.vars.toNat-k) 0 (aO _) ?_ ?_ ?_);{exact λ_=>rfl}
 ·refine Zv wk ?_;repeat' first|exact Zq|apply aI
  all_goals first|(show sS (List.replicate _ _) (List.map _ ([]++List.replicate _ 0));rw[eG,jU];exact qU _)|skip
 intro k hk _;have hfl:=a6f (n:=f.vars.toNat+f.nodes.length) (k:=k) aj;refine ZS ?_ ?_<;>intro g
 ·have hlt:k<f.vars.toNat:=aj;have hfs:=a4b (n:=f.vars.toNat+f.nodes.length) (k:=k) aj;generalize Qn (f.vars.toNat+f.nodes.length) k=d at *;refine ZW ?_;refine⟨⟨aj,aj⟩,ZW ?_⟩;refine⟨by rw[aC];omega,rfl,ZW ?_⟩;refine ZG ?_;refine⟨k+1,?_,?_,?_⟩;{exact hlt}
  ·rw[<- hfs];refine Zv wk ?_;repeat' first|exact Zq|apply aI
   all_goals (rw[bC,aJ,dP];exact qU _)
  omega
 have hk:k=f.vars.toNat:=aj;subst hk;clear g;have e0:Qn (f.vars.toNat+f.nodes.length) f.vars.toNat=(trS f 0).1:=(by show _=_++List.replicate f.nodes.length 0;unfold Qn;rw[jM]);rw[e0];have cb':ZQ 186 [f.av] [] (.sl 1 ((QO f).map .bool) .no) []:=cb;have b8d:(QO f).length=f.vars.toNat+f.nodes.length:=hbl;unfold trimF;have htr:∀k,trS f (k+1)=if(QO f).getD (f.vars.toNat+k) false=true then((trS f k).1.set (f.vars.toNat+k) ((f.vars.toNat:Int)+(trS f k).2.length),(trS f k).2++[b3S (trS f k).1 (f.nodes.getD k default)])else trS f k:=λk=>rfl;have b66:(trS f 0).2=[]:=rfl;generalize trS f=tr at *;generalize QO f=d at *;refine ZW ?_;refine ZR ?_;refine .zK cb' ?_;have hle:((d.map AV.bool).drop f.vars.toNat).take (((d.map AV.bool).length:Int).toNat-f.vars.toNat)=(d.drop f.vars.toNat).map AV.bool:=(by rw[<- mO,<- iy,bf ak]);refine b1m.mk ⟨aA,?_⟩;rw[hle];conv=>whnf
 have hdl:(d.drop f.vars.toNat).length=f.nodes.length:=(by rw[fQ];omega);refine qV.of <| (qM.inv (.GY 2 [1] 3 [] (.ag [.int .i64 f.vars,.qW,.int .i64 0]) .qW _ rfl rfl (.inl ⟨rfl,rfl⟩) rfl (.refl _ _)) (λk:Nat=>k<=f.nodes.length) (λk=>[(46,.int .i64 k)]) (λk=>[(4,.tok 3 (tr k).2.length),(3,.arr 1 (f.vars.toNat+f.nodes.length) ((tr k).1.map (.int .i64))),(2,.box (.ag [.int .i64 f.vars,.sl 3 ((tr k).2.map Nd.av) (.own 4),.int .i64 0])),(1,.box (.ag [.int .i64 0,.qW,.int .i64 0])),(0,.box f.av)]) (λk=>f.nodes.length-k) 0 (aO _) ?_ ?_ ?_);{exact λ_=>rfl}
 ·refine Zv wk ?_;repeat' first|exact Zq|apply aI
  all_goals first|(rw[b66];trivial)|(rw[b66];rfl)|skip
 intro k hk _;have ik:=hinv k hk;refine ZS ?_ ?_<;>intro g
 ·have hlt:k<f.nodes.length:=(by simp at g;omega);have hs1:=htr k;have hnl:(f.nodes[k]).args.length<=16:=(by have hal:=(h3 _ hlt).num;split at hal;{omega};split at hal <;> omega);have hna:=(h3 _ hlt).args;have ex:f.nodes.getD k default=f.nodes[k]:=(by rw[aF,aH hlt];rfl);rw[ex]at hs1;refine ZW ?_;refine sK false aj ?_;rw[show(d.drop f.vars.toNat).getD ((k:Nat):Int).toNat false=d.getD (f.vars.toNat+k) false by rw[aJ,aF,aF,gZ]];refine ZS ?_ ?_<;>intro g2
  ·have g2':¬d.getD (f.vars.toNat+k) false=true:=by intro h;rw[h]at g2;cases g2
   rw[aB g2']at hs1;refine ZW ?_;refine ZG ?_;refine⟨k+1,?_,?_,?_⟩;{exact hlt};{rw[hs1];exact ZV};omega
  have g2':d.getD (f.vars.toNat+k) false=true:=by
   cases h:d.getD (f.vars.toNat+k) false with
   |true=>rfl
   |false=>rw[h]at g2;cases g2
  rw[aG g2']at hs1;refine ZW ?_;refine rV hlt ?_;generalize f.nodes[k]=x at *;obtain⟨il,io,ir,ind,iv⟩:=ik;generalize tr k=st at *;obtain⟨to,out⟩:=st;dsimp only at *;refine ZW ?_;refine qV.of <| (qM.inv (.GY 6 [2] 1 [] (.ag [.int .i64 x.kind,.int .i64 x.k,.qW]) .qW _ rfl rfl (.inl ⟨rfl,rfl⟩) rfl (.refl _ _)) (λj:Nat=>j<=x.args.length) (λj=>[(66,.int .i64 j)]) (λj=>[(7,.tok 1 j),(6,.box (.ag [.int .i64 x.kind,.int .i64 x.k,.sl 1 (((x.args.take j).map (Tn to)).map (.int .i64)) (.own 7)])),(5,.box x.av),(4,.tok 3 out.length),(3,.arr 1 (f.vars.toNat+f.nodes.length) (to.map (.int .i64))),(2,.box (.ag [.int .i64 f.vars,.sl 3 (out.map Nd.av) (.own 4),.int .i64 0])),(1,.box (.ag [.int .i64 0,.qW,.int .i64 0])),(0,.box f.av)]) (λj=>x.args.length-j) 0 (aO _) ?_ ?_ ?_);{exact λ_=>rfl};{exact ZV};intro j hj _;have htl:((x.args.take j).map (Tn to)).length=j:=(by rw[aC,bD];omega);refine ZS ?_ ?_<;>intro g3
  ·have hjl:j<x.args.length:=(by simpa using g3);have ha:=hna _ (aQ hjl);have ht1:(x.args.take (j+1)).map (Tn to)=(x.args.take j).map (Tn to)++[Tn to x.args[j]]:=(by rw[bG hjl,aV];rfl);refine ZW ?_;refine rV hjl ?_;generalize x.args[j]=a at *;refine ZW ?_;refine ZR ?_;refine⟨⟨aj,aj⟩,?_⟩;conv=>whnf
   rw[bC];refine sK 0 ⟨aj,aj⟩ ?_;conv=>whnf
   refine⟨rfl,?_⟩;conv=>whnf
   refine⟨by rw[aC,htl],.mk (by simp[maxL];omega) aA (ZW ?_)⟩;refine ZG ?_;refine⟨j+1,?_,?_,?_⟩;{exact hjl}
   ·rw[ht1];refine Zv wk ?_;repeat' first|exact Zq|apply aI
    all_goals first|(simp;omega)|(show sS _ (List.map _ (_++[_]));rw[aV];exact qU _)
   omega
  have hjl:j=x.args.length:=(by(have:¬j<x.args.length:=by simpa using g3);omega);subst hjl;rw[bg];refine ZW ?_;refine⟨rQ aj aj,ZW ?_⟩;refine⟨rQ aA aA,ZW ?_⟩;refine⟨⟨aj,aj⟩,ZW ?_⟩;refine⟨by rw[aC];omega,rfl,ZW ?_⟩;refine⟨by rw[aC],.mk (by simp[maxL];omega) aA (ZW ?_)⟩;refine ZG ?_;refine⟨k+1,?_,?_,?_⟩;{exact hlt}
  ·rw[hs1];refine Zv wk ?_;repeat' first|exact Zq|apply aI
   all_goals first|(simp;done)|(show sS _ (List.map _ (_++[_]));rw[aV];exact qU _)|(rw[dP,bC,aC,show(f.vars+(k:Int)).toNat=f.vars.toNat+k by omega,show f.vars+(out.length:Int)=(f.vars.toNat:Int)+out.length by omega];exact qU _)|skip
  omega
 have hk:k=f.nodes.length:=(by simp at g;omega);subst hk;obtain⟨il,io,ir,ind,iv⟩:=ik;generalize tr f.nodes.length=st at *;obtain⟨to,out⟩:=st;dsimp only at *;refine ZW ?_;refine⟨⟨h4.1,aj⟩,ZW ?_⟩;rw[bC];refine sK 0 ⟨aj,aj⟩ (ZW ?_);refine⟨rfl,ZW ?_⟩;exact ZX
theorem YM{f:Nat}{As Bs:List AV}{R:AV}{H H':Heap}(h:ZQ f As H R H')(hle:Ll Bs As):ZQ f Bs H R H' :=
 ⟨h.1,λc vs hr hv=>h.2 c vs hr (Ie hle hv)⟩
theorem b4C{i:Nat}(h:7<=i):ix [5,2,6,3,4] i=none:=by
 match i,h with
 |k+7,_=>rfl
theorem a14{n:Nat}{G Y:Heap}:∀{X:Heap},(∀x∈X,7<=x.1)->Ci [5,2,6,3,4] n G (X++Y)=X++Ci [5,2,6,3,4] n G Y
 | [],_=>rfl
 |(i,o)::X,h=>by have hi:=h (i,o) ak;simp only[eX,Ci,b4C hi];rw[a14 λx hx=>h x (by simp[hx])]
abbrev tb2(T:Tb)(Y:Heap):Heap:=(6,.tok 3 T.nodes.length)::(5,.box (.ag [.sl 1 (T.order.map (.int .i64)) .no,.ms 2 0 T.place.length T.place.length 1,.sl 3 (T.nodes.map OG) (.own 6),.mp 3,.mp 4])) ::
 (4,.tN Ri (xM T.memo))::(3,.tN Ri (xM T.uq))::(2,.arr 1 T.place.length (T.place.map (.int .i64)))::Y
theorem b0M{f:Nat}{args As:List AV}{R R':AV}{T T':Tb}(X:Heap){o1 o0:HO}(hX:∀x∈X,7<=x.1)(h:ZQ f args (yT T) R (yT T'))
  (ha:∀n,Us (sg [5,2,6,3,4] n) args=As) (hR:∀n,yO (sg [5,2,6,3,4] n) R=R') (hb:vT 5 args=true) :
  ZQ f As (X++tb2 T [(1,o1),(0,o0)]) R' (X++tb2 T' [(1,o1),(0,o0)]):=by
 have hn:7<=nextId (X++tb2 T [(1,o1),(0,o0)]):=by
  cases X with
  |nil=>exact aS _
  |cons x X=>have:=hX x ak;obtain⟨i,o⟩:=x;simp[nextId]at this ⊢;omega
 have h1:∀(k:Nat),k<7->∀(q:HO->Prop),yh (X++tb2 T [(1,o1),(0,o0)]) k q↔yh (tb2 T [(1,o1),(0,o0)]) k q:=λk hk q=>Nl hk hX;have:=qX.frame (H:=X++tb2 T [(1,o1),(0,o0)]) (args:=As) [5,2,6,3,4] h ⟨?_,rfl,rfl,hb⟩ ?_ (by rw[ha];exact rM _);{rw[hR]at this;have e:Rj [5,2,6,3,4] (yT T') (X++tb2 T [(1,o1),(0,o0)])=X++tb2 T' [(1,o1),(0,o0)]:=(by unfold Rj;rw[a14 hX];show X++Ci _ _ _ _=_;congr 1;show(6,_)::(5,_)::(4,HO.tN Ri (Zm _ (xM T'.memo)))::(3,HO.tN Ri (Zm _ (xM T'.uq)))::_=_;rw[Gf,Gf];rfl);rwa[e]at this};{have:∀k,k<7->Nat.blt k (nextId (X++tb2 T [(1,o1),(0,o0)]))=true:=λk hk=>(by exact gU aj);simp only[KA,this 2 au,this 3 au,this 4 au,this 5 au,this 6 au]};refine⟨(h1 4 au _).2 ⟨⟨rfl,JK _ _⟩,qP _ _⟩,(h1 3 au _).2 ⟨⟨rfl,JK _ _⟩,qP _ _⟩,(h1 6 au _).2 ⟨⟨rfl,rfl⟩,rfl⟩,(h1 2 au _).2 ⟨⟨rfl,rfl,qU _⟩,rfl⟩,(h1 5 au _).2 ⟨?_,rfl⟩,trivial⟩;exact tV _
theorem b4B{i:Nat}(h:8<=i):ix [6,3,7,4,5] i=none:=by
 match i,h with
 |k+8,_=>rfl
theorem a13{n:Nat}{G Y:Heap}:∀{X:Heap},(∀x∈X,8<=x.1)->Ci [6,3,7,4,5] n G (X++Y)=X++Ci [6,3,7,4,5] n G Y
 | [],_=>rfl
 |(i,o)::X,h=>by have hi:=h (i,o) ak;simp only[eX,Ci,b4B hi];rw[a13 λx hx=>h x (by simp[hx])]
abbrev tb3(T:Tb)(Y:Heap):Heap:=(7,.tok 3 T.nodes.length)::(6,.box (.ag [.sl 1 (T.order.map (.int .i64)) .no,.ms 3 0 T.place.length T.place.length 1,.sl 3 (T.nodes.map OG) (.own 7),.mp 4,.mp 5])) ::
 (5,.tN Ri (xM T.memo))::(4,.tN Ri (xM T.uq))::(3,.arr 1 T.place.length (T.place.map (.int .i64)))::Y
theorem YL{f:Nat}{args As:List AV}{R R':AV}{T T':Tb}(X:Heap){o2 o1 o0:HO}(hX:∀x∈X,8<=x.1)(h:ZQ f args (yT T) R (yT T'))
  (ha:∀n,Us (sg [6,3,7,4,5] n) args=As) (hR:∀n,yO (sg [6,3,7,4,5] n) R=R') (hb:vT 5 args=true) :
  ZQ f As (X++tb3 T [(2,o2),(1,o1),(0,o0)]) R' (X++tb3 T' [(2,o2),(1,o1),(0,o0)]):=by
 have hn:8<=nextId (X++tb3 T [(2,o2),(1,o1),(0,o0)]):=by
  cases X with
  |nil=>exact aS _
  |cons x X=>have:=hX x ak;obtain⟨i,o⟩:=x;simp[nextId]at this ⊢;omega
 have h1:∀(k:Nat),k<8->∀(q:HO->Prop),yh (X++tb3 T [(2,o2),(1,o1),(0,o0)]) k q↔yh (tb3 T [(2,o2),(1,o1),(0,o0)]) k q:=λk hk q=>Nl hk hX;have:=qX.frame (H:=X++tb3 T [(2,o2),(1,o1),(0,o0)]) (args:=As) [6,3,7,4,5] h ⟨?_,rfl,rfl,hb⟩ ?_ (by rw[ha];exact rM _);{rw[hR]at this;have e:Rj [6,3,7,4,5] (yT T') (X++tb3 T [(2,o2),(1,o1),(0,o0)])=X++tb3 T' [(2,o2),(1,o1),(0,o0)]:=(by unfold Rj;rw[a13 hX];show X++Ci _ _ _ _=_;congr 1;show(7,_)::(6,_)::(5,HO.tN Ri (Zm _ (xM T'.memo)))::(4,HO.tN Ri (Zm _ (xM T'.uq)))::_=_;rw[Gf,Gf];rfl);rwa[e]at this};{have:∀k,k<8->Nat.blt k (nextId (X++tb3 T [(2,o2),(1,o1),(0,o0)]))=true:=λk hk=>(by exact gU aj);simp only[KA,this 3 au,this 4 au,this 5 au,this 6 au,this 7 au]};refine⟨(h1 5 au _).2 ⟨⟨rfl,JK _ _⟩,qP _ _⟩,(h1 4 au _).2 ⟨⟨rfl,JK _ _⟩,qP _ _⟩,(h1 7 au _).2 ⟨⟨rfl,rfl⟩,rfl⟩,(h1 3 au _).2 ⟨⟨rfl,rfl,qU _⟩,rfl⟩,(h1 6 au _).2 ⟨?_,rfl⟩,trivial⟩;exact tV _
def l0(v:Nat)(t:Int->Bool):List Bool:=(List.range v).map λi:Nat=>t (i:Int)
theorem a2x(v:Nat)(t:Int->Bool):(l0 v t).length=v:=by simp[l0]
theorem b4A(v:Nat)(t:Int->Bool){j:Nat}(h:j<v):(l0 v t).getD j false=t (j:Int):=by unfold l0;rw[aF,dO,gQ h];rfl
theorem a1u(v:List Bool):∀(args:List Int),JU v args=args.countP λa=>v.getD a.toNat false:=by
 have k1:∀(args:List Int) (n:Nat),args.foldl (λn a=>if v.getD a.toNat false=true then n+1 else n) n=n+args.countP λa=>v.getD a.toNat false:=by
  intro args;induction args with
  |nil=>intro n;simp
  |cons a l ih =>intro n;rw[dY,ih,iG];by_cases hf:v.getD a.toNat false=true;{rw[aG hf,aG hf];omega};rw[aB hf,aB hf];omega
 intro args;unfold JU;rw[k1,bC]
theorem b3o{T:Tb}{t:Int->Bool}{to:List Int}{u:List Bool}:∀{args:List Int},(∀a∈args,ev T.nodes t (to.getD a.toNat 0)=u.getD a.toNat false)->cB T t (args.map (Tn to))=JU u args:=by
 intro args h;rw[a1u];unfold cB;rw[oH];induction args with
 |nil=>rfl
 |cons a l ih =>rw[iG,iG,ih λb hb=>h b (by simp[hb])];have e:((λr=>ev T.nodes t r) ∘ Tn to) a=u.getD a.toNat false:=h a ak;rw[e]
structure BdI(g:Fo)(T0:Tb)(Z:Nat)(k:Nat)(s:ImS):Prop where
 good:tH s.T
 ext:Xt T0 s.T
 len:s.refs.length=g.vars.toNat+g.nodes.length
 all:∀j:Nat,j<k->s.T.Rf (s.refs.getD j 0)/\∀t,ev s.T.nodes t (s.refs.getD j 0)=(zH (l0 g.vars.toNat t) g.nodes).getD j false
 size:s.T.nodes.length<=Z
def b7q(k:Nat)(s s':ImS):Prop:=∃x,ZQ 115 [.ptr 0 [] 0,.int .i64 (k:Int)] (yT s.T) (.int .i64 x) (yT s'.T)/\s'.refs=s.refs.set k x
theorem b0d{g:Fo}{T0:Tb}{Z k:Nat}{s:ImS}(hZ:Z<=100000000)(hk:k<g.vars.toNat)(hn:T0.n=g.vars.toNat)(h:BdI g T0 Z k s):∃s',BdI g T0 (Z+1) (k+1) s'/\b7q k s s':=by obtain⟨hg,hx,hl,ha,hz⟩:=h;have hnn:s.T.n=g.vars.toNat:=(by rw[hx.n,hn]);have hp:=hg.plc (k:Int) aj aj;have hl0:s.T.lvl 0=s.T.n:=aG aj;have hl1:s.T.lvl 1=s.T.n:=aG aj;obtain⟨m1,m2,m3,m4,m5,m6,m7⟩:=Nj hg (v:=(k:Int)) (lo:=0) (hi:=1) ⟨aj,aj⟩ (.zero _) (.one _) aj aj;have c:=a2W s.T (k:Int) aj;generalize s.T.make (k:Int) 0 1=q at *;refine⟨⟨q.1,s.refs.set k q.2⟩,⟨m1,hx.trans m2,by simp[hl],λj hj=>?_,by show q.1.nodes.length<=_;omega⟩,q.2,c,rfl⟩;dsimp only;rw[Ad aj];split;{rename_i e;subst e;refine⟨m3,λt=>?_⟩;have:=zZ (l0 g.vars.toNat t) [] g.nodes (j:=j) (by rw[a2x];simpa using hk);rw[m7,F9,OX];rw[eG]at this;rw[this];show _=(l0 g.vars.toNat t).getD j false;rw[b4A _ _ hk];cases t (j:Int) <;> rfl};have:=ha j aj;exact⟨m2.rf this.1,λt=>by rw[m2.ev this.1];exact this.2 t⟩
def b7p(g:Fo)(i:Nat)(s s':ImS):Prop :=
 ∃ x,ZQ 116 [.ptr 0 [] 0,(g.nodes.getD i default).av,iL ((g.nodes.getD i default).args.map (Tn s.refs))] (yT s.T) (.int .i64 x) (yT s'.T)/\s'.refs=s.refs.set (g.vars.toNat+i) x /\
   ZQ 61 [.ptr 0 [] 0,.int .i64 x,.int .i64 4096] (yT s'.T) .tt (yT s'.T)
theorem b0c{g:Fo}(hok:KL g){N:Nat}(hN:N<=12)(hv:g.vars<=N){T0:Tb}{Z i:Nat}{s:ImS}(hZ:Z+600*2^N<=1000000000)(hi:i<g.nodes.length)(hn:T0.n=g.vars.toNat)(h:BdI g T0 Z (g.vars.toNat+i) s) :
  ∃s',BdI g T0 (Z+600*2^N) (g.vars.toNat+i+1) s'/\b7p g i s s':=by
 obtain⟨hg,hx,hl,ha,hz⟩:=h;have hvs:=hok.vars;have hnn:s.T.n=g.vars.toNat:=(by rw[hx.n,hn]);have nk:=hok.nodes i hi;have ex:g.nodes.getD i default=g.nodes[i]:=(by rw[aF,aH hi];rfl);have hrf:∀a∈g.nodes[i].args,a.toNat<g.vars.toNat+i:=λa haa=>(by have:=nk.args a haa;omega);obtain⟨T',r,c,p⟩:=b3f N s.T hg aj g.vars i g.nodes[i] nk (g.nodes[i].args.map (Tn s.refs)) ak (λr hr=>by
  obtain⟨a,haa,rfl⟩:=bZ.1 hr;exact(ha a.toNat (hrf a haa)).1) aj
 have p5:=p.size;have csm:=a2V N hN T' p.good aj (by rw[p.ext.n];omega) r p.rf;refine⟨⟨T',s.refs.set (g.vars.toNat+i) r⟩,⟨p.good,hx.trans p.ext,by simp[hl],λj hj=>?_,by show T'.nodes.length<=_;omega⟩,r,by rw[ex];exact c,rfl,csm⟩;dsimp only;rw[Ad aj];split;{rename_i e;subst e;refine⟨p.rf,λt=>?_⟩;have h1:=Vu (l0 g.vars.toNat t) g.nodes hi;rw[a2x]at h1;rw[p.val t,h1];congr 1;refine b3o λa haa=>?_;rw[(ha a.toNat (hrf a haa)).2 t];exact(Vt (l0 g.vars.toNat t) g.nodes (by rw[a2x];exact hrf a haa) aj).symm};have:=ha j aj;exact⟨p.ext.rf this.1,λt=>by rw[p.ext.ev this.1];exact this.2 t⟩
theorem Dp.tr{T T':Tb}(h:Xt T T'){ns:List Node}{k:Nat}{x:Node}(g:Dp T' ns k x):Dp T ns k x:=by have e:∀r,Ej T' ns r=Ej T ns r:=λr=>(by unfold Ej;rw[h.n,h.pl]);obtain⟨a,b,c,d,f⟩:=g;rw[h.n]at a;rw[h.pl,e]at d f;exact⟨a,b,c,d,f⟩
structure NrF(f g:Fo):Prop where
 ok:KL g
 vars:g.vars=f.vars
 val:∀l0:List Bool,l0.length=f.vars.toNat->(zH l0 g.nodes).getD g.top.toNat false=(zH l0 f.nodes).getD f.top.toNat false
theorem Zd(v:Nat)(l:List Nd)(d:List Bool):∀n,(Eb v l d n).1=0->∀i<n,d.getD (v+i) false=false
 | 0,_,i,hi=>absurd hi (gJ _)
 |n+1,h,i,hi=>by rw[VL]at h;split at h;{simp at h};rename_i hm;by_cases e:i=n;{subst e;simpa using hm};exact Zd v l d n h i aj
theorem b1P(f:Fo)(h:KL f):NrF f (trimF f):=⟨(a4U f h).1,rfl,(a4U f h).2⟩
theorem b4s(f:Fo)(h:KL f)(hz:(Eb f.vars.toNat f.nodes (QO f) f.nodes.length).1=0):NrF f ⟨f.vars,[],f.top⟩:=by
 have h1:=h.vars;have h4:=h.top;have hb:=λj=>X5 (v:=f.vars.toNat) (l:=f.nodes) (top:=f.top.toNat) aj h.args j;have ht:f.top.toNat<f.vars.toNat:=by apply aU;intro hn;have:=Zd _ _ _ _ hz (f.top.toNat-f.vars.toNat) aj;rw[show f.vars.toNat+(f.top.toNat-f.vars.toNat)=f.top.toNat by omega]at this;have h2:=(hb f.top.toNat).2 .root;unfold QO at this;rw[h2]at this;cases this
 refine⟨⟨h1,ak,λi hi=>absurd hi (gJ _),h4.1,by show f.top<f.vars+0;omega⟩,rfl,λl0 hl=>?_⟩;have:=zZ l0 [] f.nodes (j:=f.top.toNat) (by rw[hl,iQ];omega);exact this.symm
abbrev bdX(v:Nat)(refs:List Int):Nat×HO:=(7,.arr 1 v (refs.map (.int .i64)))
theorem XT {N:Nat} (hN:N<=10) (f:Fo) (h:KL f) (hv:f.vars<=N) {o:List Int} (ho:KC o f.vars.toNat) :
  ∃ns x,ZQ 58 [f.av,iL o] [] (.uf [Oh o ns x,.vJ]) []/\(∀(k:Nat) (h:k<ns.length),Dp (Tb.new o) ns k ns[k])/\0<=x/\x<2+(ns.length:Int)/\(∀t,ev ns t x=(zH (l0 f.vars.toNat t) f.nodes).getD f.top.toNat false)/\ns.length<=1024:=by
 have hvs:=h.vars;have hol:=ho.len;have key:∃(g:Fo) (b:Bool),NrF f g/\(if b=true then g=trimF f/\0<(Eb f.vars.toNat f.nodes (QO f) f.nodes.length).1 else g=⟨f.vars,[],f.top⟩/\(Eb f.vars.toNat f.nodes (QO f) f.nodes.length).1=0):=(by by_cases hz:(Eb f.vars.toNat f.nodes (QO f) f.nodes.length).1=0;{exact⟨_,false,b4s f h hz,by simp[hz]⟩};exact⟨_,true,b1P f h,aA⟩);obtain⟨g,b,nr,hb⟩:=key;have hgv:=nr.vars;have hgl:=nr.ok.len;have b8a:2^N<=2^10:=bQ au hN;have hT0:tH (Tb.new o):=Wv ho aj;have hn0:(Tb.new o).n=g.vars.toNat:=(by show(o.length:Int)=_;omega);obtain⟨F,F0,F1,F2⟩:=GZ (λk s=>BdI g (Tb.new o) k k s) b7q g.vars.toNat ⟨Tb.new o,List.replicate (g.vars.toNat+g.nodes.length) 0⟩
  ⟨hT0,.refl _,ak,λj hj=>absurd hj (gJ _),aS _⟩ (λk s hk hs=>b0d aj hk hn0 hs)
 obtain⟨G,G0,G1,G2⟩:=GZ (λk s=>BdI g (Tb.new o) (g.vars.toNat+k*(600*2^N)) (g.vars.toNat+k) s) (b7p g) g.nodes.length (F g.vars.toNat)
  (by have:=F1 g.vars.toNat (aS _);simpa using this) (λk s hk hs=>by
   have h1:k*(600*2^N)<=128*(600*2^10):=gY aj aj;have:=b0c (N:=N) nr.ok aj aj aj hk hn0 hs;rw[show g.vars.toNat+(k+1)*(600*2^N)=g.vars.toNat+k*(600*2^N)+600*2^N by rw[dw];omega];exact this)
 have last:=G1 g.nodes.length (aS _);have hsz:=last.size;have h1:g.nodes.length*(600*2^N)<=128*(600*2^10):=gY aj aj;have b8g:=nr.ok.top;have b7V:=nr.ok.vars;have lt:=last.all g.top.toNat aj;have hnG:(G g.nodes.length).T.n=g.vars.toNat:=(by rw[last.ext.n,hn0]);obtain⟨ns,x,c,c1,c2,c3,c4,c5⟩:=a6Q (G g.nodes.length).T last.good aj (by
  rw[hnG,aJ];have:2^g.vars.toNat<=2^10:=bQ au aj;omega) _ lt.1
 have hord:(G g.nodes.length).T.order=o:=last.ext.order;rw[hord]at c;refine⟨ns,x,?_,λk hk=>(c1 k hk).tr last.ext,c2,c3,λt=>?_,?_⟩
 ·have cs:=b3e f h;have ct:=b3d f h;have co:=a9Q ho aj;have cn:=b0U ho aj;have hFG:=G0.symm;have b6o:belF f.vars.toNat f.nodes f.top.toNat=QO f:=rfl;rw[b6o]at cs;generalize Eb f.vars.toNat f.nodes (QO f) f.nodes.length=sz at *;rw[show(f.vars.toNat:Int)=f.vars by omega]at co;refine ZN Tryz.func58 λhok=>?_;refine .zW cs ?_;refine .zW co ?_;constructor<;>intro g1
  ·cases b with
   |false=>exfalso;simp at hb;omega
   | true =>
     obtain⟨rfl,hb⟩:=hb;generalize trimF f=g at *;refine ZW ?_;refine .zW ct ?_;refine .gen _ _ (qX.frame [] cn ⟨rfl,rfl,rfl,rfl⟩ trivial (rM _)) λ_=>ZW ?_;rw[aC];refine⟨rQ aj aj,ZW ?_⟩;rw[show g.vars+(g.nodes.length:Int)=((g.vars.toNat+g.nodes.length:Nat):Int) by omega];refine⟨⟨aj,dR _,by show((g.vars.toNat+g.nodes.length:Nat):Int)*((8:Nat):Int)<=281474976710656;omega,aj⟩,.wr ?_⟩;rw[aJ];refine ZW ?_;refine qV.of <| (qM.inv (.refl _ _) (λk:Nat=>k<=g.vars.toNat) (λk=>[(59,.int .i64 k)]) (λk=>bdX (g.vars.toNat+g.nodes.length) (F k).refs::tb2 (F k).T [(1,.box b1n),(0,.box g.av)]) (λk=>g.vars.toNat-k) 0 (aO _) ?_ ?_ ?_);{exact λ_=>rfl}
     ·rw[F0];refine Zv wk ?_;repeat' first|exact Zq|apply aI
      all_goals first|(rw[bT hgn];rfl)|(show sS (List.replicate _ _) (List.map _ (List.replicate _ 0));rw[jU];exact qU _)|(show le0 _ (AV.ms 2 0 (FZ o o.length).length (FZ o o.length).length 1);rw[AZ];rfl)|exact AZ _ _|exact(AZ _ _).symm|skip
     intro k hk _;have fk:=F1 k hk;have fkl:=fk.len;refine ZS ?_ ?_<;>intro h
     ·have hlt:k<g.vars.toNat:=aj;obtain⟨x,q,e⟩:=F2 k hlt;refine ZW ?_;refine .gen _ _ (b0M [(7,_)] ak q (λ_=>rfl) (λ_=>rfl) rfl) λ_=>ZW ?_;refine⟨⟨aj,aj⟩,ZW ?_⟩;refine⟨by rw[aC];omega,rfl,ZW ?_⟩;refine ZG ?_;refine⟨k+1,?_,?_,?_⟩;{exact hlt}
      ·rw[e];refine Zv wk ?_;repeat' first|exact Zq|apply aI
       all_goals first|exact qO _|exact qP _ _|(rw[bC,aJ,dP];exact qU _)|skip
      omega
     have hk:k=g.vars.toNat:=aj;subst hk;clear h fkl fk;rw[hFG];refine ZW ?_;refine qV.of <| (qM.inv (.refl _ _) (λk:Nat=>k<=g.nodes.length) (λk=>[(72,.int .i64 k)]) (λk=>bdX (g.vars.toNat+g.nodes.length) (G k).refs::tb2 (G k).T [(1,.box b1n),(0,.box g.av)]) (λk=>g.nodes.length-k) 0 (aO _) ?_ ?_ ?_);{exact λ_=>rfl}
     ·refine Zv wk ?_;repeat' first|exact Zq|apply aI
      all_goals first|exact qO _|exact qP _ _|skip
     intro k hk _;have fk:=G1 k hk;have fkl:=fk.len;constructor<;>intro h
     ·have hlt:k<g.nodes.length:=(by simp at h;omega);obtain⟨x,q,e,qs⟩:=G2 k hlt;have ex:g.nodes.getD k default=g.nodes[k]:=(by rw[aF,aH hlt];rfl);have nk:=nr.ok.nodes k hlt;have hnl:(g.nodes[k]).args.length<=16:=(by have hal:=nk.num;split at hal;{omega};split at hal <;> omega);have hna:=nk.args;rw[ex]at q;refine ZW ?_;refine rV hlt ?_;generalize g.nodes[k]=nd at *;generalize G k=s at *;refine ZW ?_;refine qV.of <| (qM.inv (.grow 15 1 [] .qW rfl (.inl ⟨rfl,rfl⟩) (.refl _ _)) (λj:Nat=>j<=nd.args.length) (λj=>[(80,.int .i64 j),(15,.sl 1 (((nd.args.take j).map (Tn s.refs)).map (.int .i64)) (.own 9))]) (λj=>(9,.tok 1 j)::(8,.box nd.av)::bdX (g.vars.toNat+g.nodes.length) s.refs::tb2 s.T [(1,.box b1n),(0,.box g.av)]) (λj=>nd.args.length-j) 0 (aO _) ?_ ?_ ?_);{exact λ_=>rfl}
      ·refine Zv wk ?_;repeat' first|exact Zq|apply aI
       all_goals first|exact qO _|exact qP _ _|skip
      intro j hj _;have htl:((nd.args.take j).map (Tn s.refs)).length=j:=by rw[aC,bD];omega
      refine ZS ?_ ?_<;>intro g3
      ·have hjl:j<nd.args.length:=(by simpa using g3);have ha:=hna _ (aQ hjl);have ht1:(nd.args.take (j+1)).map (Tn s.refs)=(nd.args.take j).map (Tn s.refs)++[Tn s.refs nd.args[j]]:=(by rw[bG hjl,aV];rfl);refine ZW ?_;refine rV hjl ?_;generalize nd.args[j]=a at *;refine ZW ?_;refine⟨⟨aj,aj⟩,ZW ?_⟩;rw[bC];refine sK 0 ⟨aj,aj⟩ (ZW ?_);refine⟨rfl,ZW ?_⟩;refine⟨by rw[aC,htl],.mk (by simp[maxL];omega) aA (ZW ?_)⟩;refine ZG ?_;refine⟨j+1,?_,?_,?_⟩;{exact hjl}
       ·rw[ht1];refine Zv ?_ ?_
        ·repeat' first|exact Zq|apply aI
         all_goals first|(show sS _ (List.map _ (_++[_]));rw[aV];exact qU _)|skip
        repeat' first|exact Zq|apply aI
        all_goals first|exact qO _|exact qP _ _|(simp;omega)|skip
       omega
      have hjl:j=nd.args.length:=(by(have:¬j<nd.args.length:=by simpa using g3);omega);subst hjl;rw[bg];refine ZW ?_;refine wX.late [2] ⟨[true,true,false,true,true,true,false,true,false,true,false],by kernel_rfl,?_⟩;conv=>whnf
      refine⟨rQ aj aj,?_⟩;conv=>whnf
      refine .gen _ _ (YM (b0M (As:=[.ptr 5 [] 0,nd.av,iL (nd.args.map (Tn s.refs))]) [(9,_),(8,_),(7,_)] ak q (λ_=>rfl) (λ_=>rfl) rfl) ?_) λ_=>?_;{exact wk};conv=>whnf
      (refine aI (by(conv=>whnf)<;>exact rfl) ?_;(conv=>whnf))
      refine⟨⟨aj,aj⟩,?_⟩;conv=>whnf
      refine⟨by rw[aC];omega,rfl,?_⟩;conv=>whnf
      (refine aI (by(conv=>whnf)<;>exact rfl) ?_;(conv=>whnf))
      refine⟨rQ aj aj,ZW ?_⟩;refine⟨⟨aj,aj⟩,?_⟩;rw[show(List.map (AV.int .i64) s.refs).set (0+(g.vars+(k:Int)).toNat) (strip (.int .i64 x))=(s.refs.set (g.vars.toNat+k) x).map (.int .i64)from by rw[dP,bC,show(g.vars+(k:Int)).toNat=g.vars.toNat+k by omega];rfl];rw[<- e];refine ZW ?_;have fk1:=(G1 (k+1) hlt).len;have ev1:(G (k+1)).refs.getD (g.vars.toNat+k) 0=x:=(by rw[e,Ad aj,aG rfl]);rw[show 0+(g.vars+(k:Int)).toNat=g.vars.toNat+k by omega];refine sK 0 ⟨aj,aj⟩ ?_;rw[aJ,ev1];refine ZW ?_;refine⟨rfl,ZW ?_⟩;refine .gen _ _ (b0M (As:=[.ptr 5 [] 0,.int .i64 x,.int .i64 4096]) [(9,_),(8,_),(7,_)] ak qs (λ_=>rfl) (λ_=>rfl) rfl) λ_=>ZW ?_;refine ZG ?_;refine⟨k+1,?_,?_,?_⟩;{exact hlt}
      ·refine Zv wk ?_;repeat' first|exact Zq|apply aI
       all_goals first|exact qO _|exact qP _ _|skip
      omega
     have hk:k=g.nodes.length:=(by simp at h;omega);subst hk;generalize G g.nodes.length=s at *;refine ZW ?_;refine⟨⟨aj,aj⟩,ZW ?_⟩;rw[bC];refine sK 0 ⟨aj,aj⟩ ?_;rw[aJ];refine ZW ?_;refine⟨rfl,ZW ?_⟩;refine .gen _ _ (b0M (As:=[.ptr 5 [] 0,.int .i64 (s.refs.getD g.top.toNat 0)]) (R':=Oh o ns x) [(7,_)] ak c (λ_=>rfl) (λ_=>rfl) rfl) λ_=>ZW ?_;exact ZX
  cases b with
  |true=>exfalso;simp at hb;omega
  | false =>
    obtain⟨hge,hb⟩:=hb;have hgn:g.nodes.length=0:=(by rw[hge];rfl);have hnil:AV.ag [.int .i64 f.vars,.qW,.int .i64 f.top]=AV.ag [.int .i64 g.vars,.qW,.int .i64 g.top]:=(by rw[hge]);refine ZW ?_;refine .gen _ _ (qX.frame [] cn ⟨rfl,rfl,rfl,rfl⟩ trivial (rM _)) λ_=>ZW ?_;refine⟨rQ aj aj,ZW ?_⟩;rw[show f.vars+(0:Int)=((g.vars.toNat+g.nodes.length:Nat):Int) by omega];refine⟨⟨aj,dR _,by show((g.vars.toNat+g.nodes.length:Nat):Int)*((8:Nat):Int)<=281474976710656;omega,aj⟩,.wr ?_⟩;rw[aJ];rw[hnil];refine ZW ?_;refine qV.of <| (qM.inv (.refl _ _) (λk:Nat=>k<=g.vars.toNat) (λk=>[(59,.int .i64 k)]) (λk=>bdX (g.vars.toNat+g.nodes.length) (F k).refs::tb2 (F k).T [(1,.box b1n),(0,.box g.av)]) (λk=>g.vars.toNat-k) 0 (aO _) ?_ ?_ ?_);{exact λ_=>rfl}
    ·rw[F0];refine Zv wk ?_;repeat' first|exact Zq|apply aI
     all_goals first|(rw[bT hgn];rfl)|(show sS (List.replicate _ _) (List.map _ (List.replicate _ 0));rw[jU];exact qU _)|(show le0 _ (AV.ms 2 0 (FZ o o.length).length (FZ o o.length).length 1);rw[AZ];rfl)|exact AZ _ _|exact(AZ _ _).symm|skip
    intro k hk _;have fk:=F1 k hk;have fkl:=fk.len;refine ZS ?_ ?_<;>intro h
    ·have hlt:k<g.vars.toNat:=aj;obtain⟨x,q,e⟩:=F2 k hlt;refine ZW ?_;refine .gen _ _ (b0M [(7,_)] ak q (λ_=>rfl) (λ_=>rfl) rfl) λ_=>ZW ?_;refine⟨⟨aj,aj⟩,ZW ?_⟩;refine⟨by rw[aC];omega,rfl,ZW ?_⟩;refine ZG ?_;refine⟨k+1,?_,?_,?_⟩;{exact hlt}
     ·rw[e];refine Zv wk ?_;repeat' first|exact Zq|apply aI
      all_goals first|exact qO _|exact qP _ _|(rw[bC,aJ,dP];exact qU _)|skip
     omega
    have hk:k=g.vars.toNat:=aj;subst hk;clear h fkl fk;rw[hFG];refine ZW ?_;refine qV.of <| (qM.inv (.refl _ _) (λk:Nat=>k<=g.nodes.length) (λk=>[(72,.int .i64 k)]) (λk=>bdX (g.vars.toNat+g.nodes.length) (G k).refs::tb2 (G k).T [(1,.box b1n),(0,.box g.av)]) (λk=>g.nodes.length-k) 0 (aO _) ?_ ?_ ?_);{exact λ_=>rfl}
    ·refine Zv wk ?_;repeat' first|exact Zq|apply aI
     all_goals first|exact qO _|exact qP _ _|skip
    intro k hk _;have fk:=G1 k hk;have fkl:=fk.len;constructor<;>intro h
    ·have hlt:k<g.nodes.length:=(by simp at h;omega);obtain⟨x,q,e,qs⟩:=G2 k hlt;have ex:g.nodes.getD k default=g.nodes[k]:=(by rw[aF,aH hlt];rfl);have nk:=nr.ok.nodes k hlt;have hnl:(g.nodes[k]).args.length<=16:=(by have hal:=nk.num;split at hal;{omega};split at hal <;> omega);have hna:=nk.args;rw[ex]at q;refine ZW ?_;refine rV hlt ?_;generalize g.nodes[k]=nd at *;generalize G k=s at *;refine ZW ?_;refine qV.of <| (qM.inv (.grow 15 1 [] .qW rfl (.inl ⟨rfl,rfl⟩) (.refl _ _)) (λj:Nat=>j<=nd.args.length) (λj=>[(80,.int .i64 j),(15,.sl 1 (((nd.args.take j).map (Tn s.refs)).map (.int .i64)) (.own 9))]) (λj=>(9,.tok 1 j)::(8,.box nd.av)::bdX (g.vars.toNat+g.nodes.length) s.refs::tb2 s.T [(1,.box b1n),(0,.box g.av)]) (λj=>nd.args.length-j) 0 (aO _) ?_ ?_ ?_);{exact λ_=>rfl}
     ·refine Zv wk ?_;repeat' first|exact Zq|apply aI
      all_goals first|exact qO _|exact qP _ _|skip
     intro j hj _;have htl:((nd.args.take j).map (Tn s.refs)).length=j:=by rw[aC,bD];omega
     refine ZS ?_ ?_<;>intro g3
     ·have hjl:j<nd.args.length:=(by simpa using g3);have ha:=hna _ (aQ hjl);have ht1:(nd.args.take (j+1)).map (Tn s.refs)=(nd.args.take j).map (Tn s.refs)++[Tn s.refs nd.args[j]]:=(by rw[bG hjl,aV];rfl);refine ZW ?_;refine rV hjl ?_;generalize nd.args[j]=a at *;refine ZW ?_;refine⟨⟨aj,aj⟩,ZW ?_⟩;rw[bC];refine sK 0 ⟨aj,aj⟩ (ZW ?_);refine⟨rfl,ZW ?_⟩;refine⟨by rw[aC,htl],.mk (by simp[maxL];omega) aA (ZW ?_)⟩;refine ZG ?_;refine⟨j+1,?_,?_,?_⟩;{exact hjl}
      ·rw[ht1];refine Zv ?_ ?_
       ·repeat' first|exact Zq|apply aI
        all_goals first|(show sS _ (List.map _ (_++[_]));rw[aV];exact qU _)|skip
       repeat' first|exact Zq|apply aI
       all_goals first|exact qO _|exact qP _ _|(simp;omega)|skip
      omega
     have hjl:j=nd.args.length:=(by(have:¬j<nd.args.length:=by simpa using g3);omega);subst hjl;rw[bg];refine ZW ?_;refine wX.late [2] ⟨[true,true,false,true,true,true,false,true,false,true,false],by kernel_rfl,?_⟩;conv=>whnf
     refine⟨rQ aj aj,?_⟩;conv=>whnf
     refine .gen _ _ (YM (b0M (As:=[.ptr 5 [] 0,nd.av,iL (nd.args.map (Tn s.refs))]) [(9,_),(8,_),(7,_)] ak q (λ_=>rfl) (λ_=>rfl) rfl) ?_) λ_=>?_;{exact wk};conv=>whnf
     (refine aI (by(conv=>whnf)<;>exact rfl) ?_;(conv=>whnf))
     refine⟨⟨aj,aj⟩,?_⟩;conv=>whnf
     refine⟨by rw[aC];omega,rfl,?_⟩;conv=>whnf
     (refine aI (by(conv=>whnf)<;>exact rfl) ?_;(conv=>whnf))
     refine⟨rQ aj aj,ZW ?_⟩;refine⟨⟨aj,aj⟩,?_⟩;rw[show(List.map (AV.int .i64) s.refs).set (0+(g.vars+(k:Int)).toNat) (strip (.int .i64 x))=(s.refs.set (g.vars.toNat+k) x).map (.int .i64)from by rw[dP,bC,show(g.vars+(k:Int)).toNat=g.vars.toNat+k by omega];rfl];rw[<- e];refine ZW ?_;have fk1:=(G1 (k+1) hlt).len;have ev1:(G (k+1)).refs.getD (g.vars.toNat+k) 0=x:=(by rw[e,Ad aj,aG rfl]);rw[show 0+(g.vars+(k:Int)).toNat=g.vars.toNat+k by omega];refine sK 0 ⟨aj,aj⟩ ?_;rw[aJ,ev1];refine ZW ?_;refine⟨rfl,ZW ?_⟩;refine .gen _ _ (b0M (As:=[.ptr 5 [] 0,.int .i64 x,.int .i64 4096]) [(9,_),(8,_),(7,_)] ak qs (λ_=>rfl) (λ_=>rfl) rfl) λ_=>ZW ?_;refine ZG ?_;refine⟨k+1,?_,?_,?_⟩;{exact hlt}
     ·refine Zv wk ?_;repeat' first|exact Zq|apply aI
      all_goals first|exact qO _|exact qP _ _|skip
     omega
    have hk:k=g.nodes.length:=(by simp at h;omega);subst hk;generalize G g.nodes.length=s at *;refine ZW ?_;refine⟨⟨aj,aj⟩,ZW ?_⟩;rw[bC];refine sK 0 ⟨aj,aj⟩ ?_;rw[aJ];refine ZW ?_;refine⟨rfl,ZW ?_⟩;refine .gen _ _ (b0M (As:=[.ptr 5 [] 0,.int .i64 (s.refs.getD g.top.toNat 0)]) (R':=Oh o ns x) [(7,_)] ak c (λ_=>rfl) (λ_=>rfl) rfl) λ_=>ZW ?_;exact ZX
 ·rw[c4,lt.2,<- nr.val (l0 f.vars.toNat t) (a2x _ _),hgv]
 have:2^(G g.nodes.length).T.n.toNat<=2^10:=bQ au (by rw[hnG];omega);omega
def Wq(k:Int)(n:Nat):Bool:=if k=0 then decide (n=0)else if k=1 then decide (n=1)else decide (1<=n/\n<=16)
def b0e(v:Int)(i:Nat)(a:Int):Bool:=decide (a<0\/v+i<=a)
def b2b(x:Nd):Int:=if x.kind=0 then(if x.k≠0/\x.k≠1 then 3 else 0)else if x.kind=4 then(if x.k<1\/(x.args.length:Int)<x.k then 3 else 0)else if x.k≠0 then 2 else 0
def y9(v:Int)(i:Nat)(x:Nd):Int:=if x.kind<0\/5<x.kind then 7 else if Wq x.kind x.args.length=false then 11 else if x.args.any (b0e v i)=true then 10 else b2b x
def DF(v:Int):Nat->List Nd->Int
 |_,[]=>0
 |i,x::l=>if y9 v i x≠0 then y9 v i x else DF v (i+1) l
def Bg(f:Fo):Int:=if f.vars<0\/24<f.vars then 3 else if 128<f.nodes.length then 4 else if DF f.vars 0 f.nodes≠0 then DF f.vars 0 f.nodes else if ¬(0<=f.top/\f.top<f.vars+f.nodes.length)then 10 else 0
theorem a8N{v:Int}{i:Nat}{x:Nd}(h:y9 v i x=0):NR v i x:=by
 unfold y9 at h;split at h;{cases h};rename_i h1;split at h;{cases h};rename_i h2;split at h;{cases h};rename_i h3;have h2:Wq x.kind x.args.length=true:=by simpa using h2
 have h3:∀a∈x.args,0<=a/\a<v+i:=λa ha=>by
  have:b0e v i a=false:=by
   cases hb:b0e v i a with
   |false=>rfl
   |true=>exact absurd (iD.2 ⟨a,ha,hb⟩) h3
  unfold b0e at this;have:=jR this;omega
 refine⟨aj,?_,h3,?_⟩;{unfold Wq at h2;split;{rename_i e;rw[aG e]at h2;simpa using h2};rename_i e;rw[aB e]at h2;split;{rename_i e;rw[aG e]at h2;simpa using h2};rename_i e;rw[aB e]at h2;simpa using h2};unfold b2b at h;split;{rename_i e;rw[aG e]at h;split at h;{cases h};omega};rename_i e;rw[aB e]at h;split;{rename_i e;rw[aG e]at h;split at h;{cases h};omega};rename_i e;rw[aB e]at h;split at h;{cases h};omega
theorem ZA{v:Int}:∀(l:List Nd) (i:Nat),DF v i l=0->∀(k:Nat) (h:k<l.length),NR v (i+k) l[k]
 | [],_,_,k,h=>absurd h (gJ _)
 | x::l,i,he,k,h=>by
   unfold DF at he;split at he;{contradiction};rename_i e;have e:y9 v i x=0:=by simpa using e
   cases k with
   |zero=>exact a8N e
   |succ k =>have:=ZA l (i+1) he k (by simpa using h);rw[show i+1+k=i+(k+1) by omega]at this;exact this
theorem a2G{f:Fo}(h:Bg f=0):KL f:=by unfold Bg at h;split at h;{cases h};split at h;{cases h};split at h;{contradiction};split at h;{cases h};rename_i h1 h2 h3 h4;refine⟨aj,aj,λi hi=>?_,aj⟩;have:=ZA f.nodes 0 (by simpa using h3) i hi;rw[bC]at this;exact this
theorem a1b{v:Int}{l:List Nd}{i:Nat}(h:i<l.length):DF v i (l.drop i)=if y9 v i l[i]≠0 then y9 v i l[i]else DF v (i+1) (l.drop (i+1)):=by rw[aZ h];rfl
theorem b5e(k:Int)(n:Nat):ZQ 229 [.int .i64 k,.int .i64 n] [] (.bool (Wq k n)) []:=by refine ZN Tryz.func229 λhok=>?_;constructor<;>intro g;{rw[show Wq k n=decide (n=0)from aG g];refine ZW ?_;refine ZF ?_;show((n:Int)=0)↔_;simp};rw[show Wq k n=if k=1 then decide (n=1)else decide (1<=n/\n<=16)from aB g];refine ZS ?_ ?_<;>intro g;{rw[aG g];refine ZW ?_;refine ZF ?_;show((n:Int)=1)↔_;simp;omega};rw[aB g];refine ZS ?_ ?_<;>intro g;{refine ZW ?_;refine ZF ?_;show((n:Int)<=16)↔_;simp;omega};refine ZW ?_;refine ZF ?_;show decide (1<=n/\n<=16)=false;exact bK aj
theorem a7z{p:Int->Bool}{l:List Int}{j:Nat}(h:j<l.length)(h1:(l.take j).any p=false)(h2:p l[j]=false):(l.take (j+1)).any p=false:=by rw[bG h,List.any_append,h1];simp[h2]
theorem YR(f:Fo)(hv:0<=f.vars/\f.vars<=24)(i:Nat)(hi:i<f.nodes.length)(hl:f.nodes.length<=128)(R:AV)(hR:R=zu (y9 f.vars i f.nodes[i])):ZQ 183 [f.av,.int .i64 i] [] R []:=by refine ZN Tryz.func183 λhok=>?_;refine rV hi ?_;generalize f.nodes[i]=x at *;have ca:=b5e x.kind x.args.length;refine ZS ?_ ?_<;>intro g;{have hE:y9 f.vars i x=7:=aG (.inl g);obtain rfl:R=.uV 49 (.int .i64 7):=(by rw[hR];first|(rw[show y9 f.vars i x=7 from hE];rfl)|rfl);exact ZJ};refine ZW ?_;refine aP (λg'=>?_) (λg'=>?_);{have hE:y9 f.vars i x=7:=aG (.inr g');obtain rfl:R=.uV 49 (.int .i64 7):=(by rw[hR];first|(rw[show y9 f.vars i x=7 from hE];rfl)|rfl);exact ZJ};have hE1:y9 f.vars i x=if Wq x.kind x.args.length=false then 11 else if x.args.any (b0e f.vars i)=true then 10 else b2b x:=aB aj;refine ZW ?_;rw[show(((x.args.map (AV.int .i64)).length:Nat):Int)=(x.args.length:Int) by simp];refine .zW ca ?_;constructor<;>intro g;{have hE:=hE1.trans (aG (by simpa using g));obtain rfl:R=.uV 49 (.int .i64 11):=(by rw[hR];first|(rw[show y9 f.vars i x=11 from hE];rfl)|rfl);exact ZJ};have hE2:=hE1.trans (aB (by simpa using g));have hal:x.args.length<=16:=(by have:Wq x.kind x.args.length=true:=(by simpa using g);unfold Wq at this;split at this;{have:=eu this;omega};split at this;{have:=eu this;omega};have:=eu this;omega);clear hE1;refine ZW ?_;refine qV.of <| qM.inv (.refl _ _) (fun(j:Nat)=>j<=x.args.length/\(x.args.take j).any (b0e f.vars i)=false) (fun(j:Nat)=>[(33,.int .i64 j)]) (λ_=>_) (fun(j:Nat)=>x.args.length-j) 0 ?_ (λ_=>rfl) ?_ ?_;{exact⟨aO _,rfl⟩};{exact wk};rintro j ⟨hj,hany⟩ _;refine ZS ?_ ?_<;>intro g1;{have hjl:j<x.args.length:=(by simpa using g1);have hat:=a7z hjl hany;have hin:=aQ hjl;refine ZW ?_;refine rV hjl ?_;generalize x.args[j]=a at *;have bad:b0e f.vars i a=true->y9 f.vars i x=10:=λhb=>hE2.trans (aG (iD.2 ⟨a,hin,hb⟩));refine ZS ?_ ?_<;>intro g;{have hE:=bad (dQ (.inl g));obtain rfl:R=.uV 49 (.int .i64 10):=(by rw[hR];first|(rw[show y9 f.vars i x=10 from hE];rfl)|rfl);exact ZJ};refine ZW ?_;refine ZG ?_;refine aP (λg'=>?_) (λg'=>?_);{have hE:=bad (dQ (.inr g'));obtain rfl:R=.uV 49 (.int .i64 10):=(by rw[hR];first|(rw[show y9 f.vars i x=10 from hE];rfl)|rfl);exact ZJ};refine ZW ?_;refine ZG ?_;refine⟨j+1,?_,?_,?_⟩;{exact⟨hjl,hat (bK aj)⟩};{exact wk};omega};have hjl:j=x.args.length:=(by(have:¬j<x.args.length:=by simpa using g1);omega);subst hjl;rw[bg]at hany;have hK:=hE2.trans (aB (by rw[hany];simp));refine ZS ?_ ?_<;>intro g;{rw[show b2b x=if x.k≠0/\x.k≠1 then 3 else 0 from aG g]at hK;refine ZS ?_ ?_<;>intro g;{refine ZW ?_;refine aP (λg'=>?_) (λg'=>?_);{have hE:=hK.trans (aG ⟨g,g'⟩);obtain rfl:R=.uV 49 (.int .i64 3):=(by rw[hR];first|(rw[show y9 f.vars i x=3 from hE];rfl)|rfl);exact ZJ};have hE:=hK.trans (aB (λh=>g' h.2));obtain rfl:R=.vJ:=(by rw[hR,show y9 f.vars i x=0 from hE];rfl);exact ZJ};have hE:=hK.trans (aB (λh=>g h.1));obtain rfl:R=.vJ:=(by rw[hR,show y9 f.vars i x=0 from hE];rfl);exact ZJ};have gk:=g;refine ZS ?_ ?_<;>intro g;{rw[show b2b x=if x.k<1\/(x.args.length:Int)<x.k then 3 else 0 from(aB gk).trans (aG g)]at hK;refine ZS ?_ ?_<;>intro g;{have hE:=hK.trans (aG (.inl g));obtain rfl:R=.uV 49 (.int .i64 3):=(by rw[hR];first|(rw[show y9 f.vars i x=3 from hE];rfl)|rfl);exact ZJ};refine ZW ?_;refine aP (λg'=>?_) (λg'=>?_);{have hE:=hK.trans (aG (.inr (by simpa using g')));obtain rfl:R=.uV 49 (.int .i64 3):=(by rw[hR];first|(rw[show y9 f.vars i x=3 from hE];rfl)|rfl);exact ZJ};have hE:=hK.trans (aB (λh=>h.elim g (λh=>g' (by simpa using h))));obtain rfl:R=.vJ:=(by rw[hR,show y9 f.vars i x=0 from hE];rfl);exact ZJ};rw[show b2b x=if x.k≠0 then 2 else 0 from(aB gk).trans (aB g)]at hK;refine ZS ?_ ?_<;>intro g;{have hE:=hK.trans (aG g);obtain rfl:R=.uV 49 (.int .i64 2):=(by rw[hR];first|(rw[show y9 f.vars i x=2 from hE];rfl)|rfl);exact ZJ};have hE:=hK.trans (aB g);obtain rfl:R=.vJ:=(by rw[hR,show y9 f.vars i x=0 from hE];rfl);exact ZJ
theorem a7l(f:Fo)(hv:0<=f.vars/\f.vars<=24):ZQ 184 [f.av,.int .i64 f.top] [] (.bool (decide (0<=f.top/\f.top<f.vars+f.nodes.length))) []:=by refine ZI Tryz.func184 λhok=>?_;have hi1 : -9223372036854775808<=f.top/\f.top<=9223372036854775807:=hok.1.2.2.1;refine Z0 ?_;refine aP (λ_=>?_) (λg=>by exfalso;omega);refine ZS ?_ ?_<;>intro g0;{refine ZS ?_ ?_<;>intro g;{refine ZW ?_;refine ZF ?_;exact dQ aj};refine ZW ?_;refine ZG ?_;refine ZF ?_;show(f.top-f.vars<(((f.nodes.map Nd.av).length:Nat):Int))↔_;rw[gW,aC];omega};refine ZW ?_;refine ZF ?_;exact bK aj
theorem a0z(f:Fo)(R:AV)(hR:R=zu (Bg f)):ZQ 110 [f.av] [] R []:=by refine ZN Tryz.func110 λhok=>?_;constructor<;>intro g;{have hE:Bg f=3:=aG (.inl g);obtain rfl:R=.uV 49 (.int .i64 3):=(by rw[hR,show Bg f=3 from hE];rfl);exact ZJ};refine ZW ?_;refine aP (λg'=>?_) (λg'=>?_);{have hE:Bg f=3:=aG (.inr g');obtain rfl:R=.uV 49 (.int .i64 3):=(by rw[hR,show Bg f=3 from hE];rfl);exact ZJ};have hE1:Bg f=if 128<f.nodes.length then 4 else if DF f.vars 0 f.nodes≠0 then DF f.vars 0 f.nodes else if ¬(0<=f.top/\f.top<f.vars+f.nodes.length)then 10 else 0:=aB aj;refine ZW ?_;rw[aC];constructor<;>intro g2;{have hE:=hE1.trans (aG aj);obtain rfl:R=.uV 49 (.int .i64 4):=(by rw[hR,show Bg f=4 from hE];rfl);exact ZJ};have hE2:=hE1.trans (aB aj);clear hE1;have cv:=a7l f aj;have cn:=λi hi=>YR f aj i hi aj;refine ZW ?_;refine qV.of <| qM.inv (.refl _ _) (fun(i:Nat)=>i<=f.nodes.length/\DF f.vars 0 f.nodes=DF f.vars i (f.nodes.drop i)) (fun(i:Nat)=>[(22,.int .i64 i)]) (λ_=>_) (fun(i:Nat)=>f.nodes.length-i) 0 ?_ (λ_=>rfl) ?_ ?_;{exact⟨aO _,rfl⟩};{exact wk};rintro i ⟨hi,hnd⟩ _;refine ZS ?_ ?_<;>intro g1;{have hil:i<f.nodes.length:=(by simpa using g1);have cni:=cn i hil _ rfl;rw[a1b hil]at hnd;by_cases he:y9 f.vars i f.nodes[i]≠0;{rw[aG he]at hnd;rw[rW he]at cni;have hE:=hE2.trans (aG (by rw[hnd];exact he));rw[hnd]at hE;generalize y9 f.vars i f.nodes[i]=ee at *;obtain rfl:R=.uV 49 (.int .i64 ee):=(by rw[hR,hE,rW he]);refine ZW ?_;refine .zW cni ?_;exact ZH};rw[aB he]at hnd;have he0:y9 f.vars i f.nodes[i]=0:=(by simpa using he);rw[he0,sD]at cni;refine ZW ?_;refine .zW cni ?_;refine ZG ?_;refine⟨i+1,?_,?_,?_⟩;{exact⟨hil,hnd⟩};{exact wk};omega};have hil:i=f.nodes.length:=(by(have:¬i<f.nodes.length:=by simpa using g1);omega);subst hil;rw[iY]at hnd;have hE3:=hE2.trans (aB (by rw[hnd];simp[DF]));refine ZW ?_;refine .zW cv ?_;constructor<;>intro g4;{have hE:=hE3.trans (aG (λh=>by rw[dQ h]at g4;cases g4));obtain rfl:R=.uV 49 (.int .i64 10):=(by rw[hR,show Bg f=10 from hE];rfl);exact ZJ};have hE:=hE3.trans (aB (λh=>by rw[bK h]at g4;cases g4));obtain rfl:R=.vJ:=(by rw[hR,hE];rfl);exact ZJ
def zi(a b:Fo):Int:=if Bg a≠0 then Bg a else if Bg b≠0 then Bg b else if a.vars≠b.vars then 11 else 0
theorem a0r{a b:Fo}(h:zi a b=0):KL a/\KL b/\a.vars=b.vars:=by unfold zi at h;split at h;{contradiction};split at h;{contradiction};split at h;{cases h};rename_i h1 h2 h3;exact⟨a2G (by simpa using h1),a2G (by simpa using h2),by simpa using h3⟩
theorem O4(a b:Fo)(R:AV)(hR:R=zu (zi a b)):ZQ 55 [a.av,b.av] [] R []:=by have ca:=a0z a _ rfl;have cb:=a0z b _ rfl;refine ZN Tryz.func55 λhok=>?_;refine qV.step 2 ?_;refine ZW ?_;refine aP (λ_=>?_) (λh=>absurd ak h);refine ZW ?_;refine DZ.mk ⟨_,⟨au,rfl⟩,ZW ?_⟩;by_cases ha:Bg a≠0;{rw[rW ha]at ca;rw[show zi a b=Bg a from aG ha,rW ha]at hR;subst hR;refine .zW ca ?_;exact ZH};rw[show Bg a=0 by simpa using ha,sD]at ca;rw[show zi a b=if Bg b≠0 then Bg b else if a.vars≠b.vars then 11 else 0 from aB ha]at hR;refine .zW ca ?_;refine ZG ?_;refine aP (λ_=>?_) (λh=>absurd ak h);refine ZW ?_;refine DZ.mk ⟨_,⟨au,rfl⟩,ZW ?_⟩;by_cases hb:Bg b≠0;{rw[rW hb]at cb;rw[aG hb,rW hb]at hR;subst hR;refine .zW cb ?_;exact ZH};rw[show Bg b=0 by simpa using hb,sD]at cb;rw[aB hb]at hR;refine .zW cb ?_;refine ZG ?_;refine aP (λh=>absurd h ak) (λ_=>?_);refine ZS ?_ ?_<;>intro g;{rw[aG g]at hR;obtain rfl:R=.uV 49 (.int .i64 11):=(by rw[hR];rfl);exact ZJ};rw[aB g]at hR;obtain rfl:R=.vJ:=(by rw[hR];rfl);exact ZJ
structure Df where
 eq:Bool
 st:Nat
 cnt:Nat
 ga:Nat
 lo:Nat
 deriving DecidableEq
def Df.av(d:Df):AV:=.ag [.bool d.eq,.int .i64 d.st,.int .i64 d.cnt,.int .i64 d.ga,.int .i64 d.lo]
def Ju(va vb:Nat->Bool):Nat->Df
 | 0=>⟨true,0,0,0,0⟩
 |s+1=>if va s=vb s then Ju va vb s else⟨false,if(Ju va vb s).eq=true then s else(Ju va vb s).st,(Ju va vb s).cnt+1,if vb s=true then(Ju va vb s).ga+1 else(Ju va vb s).ga,if vb s=true then(Ju va vb s).lo else(Ju va vb s).lo+1⟩
def Ec(f:Fo)(m:Nat):Bool:=(zH (l0 f.vars.toNat (G7 m)) f.nodes).getD f.top.toNat false
def II(a b:Fo):Df:=Ju (Ec a) (Ec b) (2^a.vars.toNat)
theorem Xm(va vb:Nat->Bool):∀n,((Ju va vb n).eq=true↔∀m<n,va m=vb m)/\((Ju va vb n).eq=true->(Ju va vb n).st=0) /\
  ((Ju va vb n).eq=false->(Ju va vb n).st<n/\va (Ju va vb n).st≠vb (Ju va vb n).st/\∀m<n,va m≠vb m->(Ju va vb n).st<=m) /\
  (Ju va vb n).cnt=(List.range n).countP (λm=>va m ^^ vb m)/\(Ju va vb n).ga=(List.range n).countP (λm=>(va m ^^ vb m)&&vb m)/\(Ju va vb n).lo=(List.range n).countP (λm=>(va m ^^ vb m)&&va m)
 | 0=>by simp[Ju]
 | n+1=>by
   obtain⟨h1,h2,h3,h4,h5,h6⟩:=Xm va vb n;unfold Ju;generalize Ju va vb n=d at *;rw[kV,kZ,kZ,kZ];split;{rename_i e;refine⟨h1.trans ⟨λh m hm=>?_,λh m hm=>h m aj⟩,h2,λh=>?_,?_,?_,?_⟩;{by_cases hmn:m=n;{rw[hmn];exact e};exact h m aj};{obtain⟨q1,q2,q3⟩:=h3 h;refine⟨aj,q2,λm hm hne=>?_⟩;by_cases hmn:m=n;{rw[hmn]at hne;exact absurd e hne};exact q3 m aj hne};{rw[h4];simp[e]};{rw[h5];simp[e]};rw[h6];simp[e]};rename_i e;have hx:(va n ^^ vb n)=true:=by cases hv:va n <;> cases hw:vb n <;> simp_all
   refine⟨⟨λh=>(by cases h),λh=>absurd (h n aj) e⟩,λh=>(by cases h),λ_=>?_,?_,?_,?_⟩;{dsimp only;split;{rename_i hd;refine⟨aj,e,λm hm hne=>?_⟩;by_cases hmn:m=n;{omega};exact absurd (h1.1 hd m aj) hne};rename_i hd;obtain⟨q1,q2,q3⟩:=h3 (by simpa using hd);refine⟨aj,q2,λm hm hne=>?_⟩;by_cases hmn:m=n;{omega};exact q3 m aj hne};{dsimp only;rw[h4];simp[hx]};{dsimp only;rw[h5];cases hv:vb n <;> cases hw:va n <;> simp_all};dsimp only;rw[h6];cases hv:va n <;> cases hw:vb n <;> simp_all
theorem Dp.to{T T':Tb}(h:Xt T T'){ns:List Node}{k:Nat}{x:Node}(g:Dp T ns k x):Dp T' ns k x:=by have e:∀r,Ej T' ns r=Ej T ns r:=λr=>(by unfold Ej;rw[h.n,h.pl]);obtain⟨a,b,c,d,f⟩:=g;rw[<- h.n]at a;rw[<- h.pl,<- e]at d f;exact⟨a,b,c,d,f⟩
theorem EU{α:Type}{p q:α->Bool}:∀{l:List α},(∀x∈l,p x=q x)->l.countP p=l.countP q
 | [],_=>rfl
 |x::l,h=>by rw[iG,iG,EU λy hy=>h y (by simp[hy]),h x ak]
theorem XC{T:Tb}(hT:tH T){r:Int}(hr:T.Rf r):T.cnt r=(List.range (2^T.n.toNat)).countP λm=>ev T.nodes (G7 m) r:=by unfold Tb.cnt;rw[OZ];refine EU λm _=>?_;refine LH hT r.toNat r hr (by have:=hr.1;omega) _ _ λj h0 h1 _=>?_;rw[aG ⟨h0,aj⟩];rfl
theorem b2L{o:List Int}{n:Nat}(h:KC o n)(hn:n<=60)(o2 o1 o0:HO):ZQ 57 [iL o] [(2,o2),(1,o1),(0,o0)] (.ptr 6 [] 0) (tb3 (Tb.new o) [(2,o2),(1,o1),(0,o0)]):=by
 have c:=b0U h hn;have:=qX.frame (H:=[(2,o2),(1,o1),(0,o0)]) (args:=[iL o]) [] c ⟨rfl,rfl,rfl,rfl⟩ trivial (rM _);have e:Rj [] (hpN o) [(2,o2),(1,o1),(0,o0)]=tb3 (Tb.new o) [(2,o2),(1,o1),(0,o0)]:=by
  show(7,HO.tok 3 0)::(6,HO.box (.ag [.sl 1 (o.map (.int .i64)) .no,.ms 3 0 o.length o.length 1,.sl 3 [] (.own 7),.mp 4,.mp 5]))::(5,HO.tN Ri [])::(4,HO.tN Ri [])::(3,.arr 1 o.length ((FZ o o.length).map (.int .i64)))::_ =
   (7,HO.tok 3 0)::(6,HO.box (.ag [.sl 1 (o.map (.int .i64)) .no,.ms 3 0 (FZ o o.length).length (FZ o o.length).length 1,.sl 3 [] (.own 7),.mp 4,.mp 5]))::(5,HO.tN Ri [])::(4,HO.tN Ri [])::(3,.arr 1 (FZ o o.length).length ((FZ o o.length).map (.int .i64)))::_
  rw[AZ];rfl
 rw[e]at this;exact this
theorem a2L{va vb:Nat->Bool}:∀{n:Nat},(∀m<n,va m=vb m)->Ju va vb n=⟨true,0,0,0,0⟩
 | 0,_=>rfl
 |n+1,h=>by unfold Ju;rw[aG (h n aj)];exact a2L λm hm=>h m aj
theorem b4U{d:Df}{e:Bool}{s c g l:Nat}(h1:d.eq=e)(h2:d.st=s)(h3:d.cnt=c)(h4:d.ga=g)(h5:d.lo=l):d=⟨e,s,c,g,l⟩:=by obtain⟨_,_,_,_,_⟩:=d;dsimp only at *;subst h1 h2 h3 h4 h5;rfl
abbrev zDf:AV:=.ag [.ff,.int .i64 0,.int .i64 0,.int .i64 0,.int .i64 0]
theorem a0D(a b:Fo)(h0:zi a b=0)(h7:a.vars<=10):ZQ 17 [a.av,b.av] [] (.uf [(II a b).av,.vJ]) []:=by
 obtain⟨ha,hb,hab⟩:=a0r h0;have cc:=O4 a b _ rfl;rw[h0,sD]at cc;have hav:=ha.vars;have hp:=a0l a ha;have cd:=a3b a ha;generalize b3W a=o at *;have hpb:KC o b.vars.toNat:=(by rw[<- hab];exact hp);have hT0:tH (Tb.new o):=Wv hp aj;have hn0:(Tb.new o).n=a.vars:=(by show(o.length:Int)=_;rw[hp.len];omega);obtain⟨nsa,xa,ba,ga,ra0,ra1,va,la⟩:=XT (N:=10) aj a ha aj hp;obtain⟨nsb,xb,bb,gb,rb0,rb1,vb,lb⟩:=XT (N:=10) aj b hb aj hpb;have hz:(Tb.new o).nodes.length=0:=rfl;obtain⟨T1,ya,ia,g1,x1,r1,v1,s1⟩:=a0s (Tb.new o) o nsa xa hT0 ga aj ⟨ra0,ra1⟩;obtain⟨T2,yb,ib,g2,x2,r2,v2,s2⟩:=a0s T1 o nsb xb g1 (λk hk=>(gb k hk).to x1) aj ⟨rb0,rb1⟩;have hn2:T2.n=a.vars:=(by rw[x2.n,x1.n,hn0]);have r12:=x2.rf r1;obtain⟨T3,d,xo,p3⟩:=b0S 10 T2 g2 aj ya yb r12 r2 aj;have s3:=p3.size;have hn3:T3.n=a.vars:=(by rw[p3.ext.n,hn2]);have sm:=a2V 10 aj T3 p3.good aj aj d p3.rf;have cn:=λo2 o1 o0=>b2L hp aj o2 o1 o0;have ea:∀t,ev T2.nodes t ya=(zH (l0 a.vars.toNat t) a.nodes).getD a.top.toNat false:=λt=>(by rw[x2.ev r1,v1,va]);have eb:∀t,ev T2.nodes t yb=(zH (l0 b.vars.toNat t) b.nodes).getD b.top.toNat false:=λt=>(by rw[v2,vb]);have ed:∀m,ev T3.nodes (G7 m) d=(Ec a m ^^ Ec b m):=λm=>(by rw[p3.val,ea,eb];rfl);have spec:=Xm (Ec a) (Ec b) (2^a.vars.toNat);have hcmp:II a b=Ju (Ec a) (Ec b) (2^a.vars.toNat):=rfl;rw[<- hcmp]at spec;have iR:∀(m:Nat) (t:Int->Bool),(∀j,0<=j->j<T3.n->G7 m j=t j)->ev T3.nodes t d=ev T3.nodes (G7 m) d:=λm t ht =>
  LH p3.good d.toNat d p3.rf (by have:=p3.rf.1;omega) _ _ λj h0 h1 _=>(ht j h0 h1).symm
 refine ZN Tryz.func17 λhok=>?_;refine .zW cc ?_;refine .zW cd ?_;refine .gen _ _ (cn _ _ _) λ_=>ZW ?_;refine qV.step 2 ?_;refine ZW ?_;refine aP (λ_=>?_) (λh=>absurd ak h);refine ZW ?_;refine DZ.mk ⟨_,⟨au,rfl⟩,ZW ?_⟩;refine .zW ba ?_;refine .gen _ _ (YL (As:=[.ptr 6 [] 0,Oh o nsa xa]) (R':=.int .i64 ya) [(10,_),(9,_),(8,_)] ak ia (λ_=>rfl) (λ_=>rfl) rfl) λ_=>ZW ?_;refine⟨au,ZW ?_⟩;refine ZG ?_;refine aP (λ_=>?_) (λh=>absurd ak h);refine ZW ?_;refine DZ.mk ⟨_,⟨au,rfl⟩,ZW ?_⟩;refine .zW bb ?_;refine .gen _ _ (YL (As:=[.ptr 6 [] 0,Oh o nsb xb]) (R':=.int .i64 yb) [(12,_),(11,_),(10,_),(9,_),(8,_)] ak ib (λ_=>rfl) (λ_=>rfl) rfl) λ_=>ZW ?_;refine⟨au,ZW ?_⟩;refine ZG ?_;refine aP (λh=>absurd h ak) (λ_=>ZW ?_);refine⟨au,ZW ?_⟩;refine⟨au,ZW ?_⟩;refine .gen _ _ (YL (As:=[.ptr 6 [] 0,.int .i64 ya,.int .i64 yb]) (R':=.int .i64 d) [(12,_),(11,_),(10,_),(9,_),(8,_)] ak xo (λ_=>rfl) (λ_=>rfl) rfl) λ_=>ZW ?_;refine .gen _ _ (YL (As:=[.ptr 6 [] 0,.int .i64 d,.int .i64 4096]) (R':=.tt) [(12,_),(11,_),(10,_),(9,_),(8,_)] ak sm (λ_=>rfl) (λ_=>rfl) rfl) λ_=>?_;refine ZS ?_ ?_<;>intro hd
 ·have hsame:II a b=⟨true,0,0,0,0⟩:=by rw[hcmp];refine a2L λm _=>?_;have:=ed m;rw[hd,F9]at this;cases hx:Ec a m <;> cases hy:Ec b m <;> rw[hx,hy]at this <;> first|rfl|cases this
  rw[hsame];exact ZJ
 have hdr:=p3.rf;obtain⟨T4,q,l4,g4,x4,q1,q2,q3,s4⟩:=b3a 10 aj T3 p3.good aj d hdr hd 30000000 aj (by
  have:2*T3.n.toNat*(2^10*(2^10+2))<=2*10*(2^10*(2^10+2)):=gY aj (aS _);omega)
 rw[hn3]at l4;have hn4:T4.n=a.vars:=(by rw[x4.n,hn3]);have hd4:=x4.rf hdr;have ct1:=XG T4 g4 aj d hd4;have b7z:=x4.rf (p3.ext.rf r2);have b65:=x4.rf (p3.ext.rf r12);obtain⟨T5,e1,an1,p5⟩:=a6S 10 T4 g4 aj d yb hd4 b7z aj;have s5:=p5.size;have hn5:T5.n=a.vars:=(by rw[p5.ext.n,hn4]);have ct2:=XG T5 p5.good aj e1 p5.rf;obtain⟨T6,e2,an2,p6⟩:=a6S 10 T5 p5.good aj d ya (p5.ext.rf hd4) (p5.ext.rf b65) aj;have s6:=p6.size;have hn6:T6.n=a.vars:=(by rw[p6.ext.n,hn5]);have ct3:=XG T6 p6.good aj e2 p6.rf;have eb3:∀m,ev T3.nodes (G7 m) yb=Ec b m:=λm=>(by rw[p3.ext.ev r2,eb];rfl);have ea3:∀m,ev T3.nodes (G7 m) ya=Ec a m:=λm=>(by rw[p3.ext.ev r12,ea];rfl);have k1:T4.cnt d=(II a b).cnt:=(by rw[XC g4 hd4,spec.2.2.2.1,hn4];exact EU λm _=>by rw[x4.ev hdr,ed]);have k2:T5.cnt e1=(II a b).ga:=(by rw[XC p5.good p5.rf,spec.2.2.2.2.1,hn5];exact EU λm _=>by rw[p5.val,x4.ev hdr,x4.ev (p3.ext.rf r2),ed,eb3]);have k3:T6.cnt e2=(II a b).lo:=(by rw[XC p6.good p6.rf,spec.2.2.2.2.2,hn6];exact EU λm _=>by rw[p6.val,p5.ext.ev hd4,p5.ext.ev b65,x4.ev hdr,x4.ev (p3.ext.rf r12),ed,ea3]);have k4:(II a b).eq=false:=by
  cases he:(II a b).eq with
  |false=>rfl
  |true =>have h1:=spec.1.1 he q (by rw[<- hn3];exact q3);rw[ed,h1]at q1;cases hy:Ec b q <;> simp[hy]at q1
 have k5:(II a b).st=q:=by
  obtain⟨w1,w2,w3⟩:=spec.2.2.1 k4;have h1:=w3 q (by rw[<- hn3];exact q3) (λh1=>by
   rw[ed,h1]at q1;cases hy:Ec b q <;> simp[hy]at q1)
  have h2:=q2 (II a b).st (by
   rw[ed];cases hx:Ec a (II a b).st <;> cases hy:Ec b (II a b).st <;> simp_all)
  omega
 have hfin:II a b=⟨false,q,T4.cnt d,T5.cnt e1,T6.cnt e2⟩:=b4U k4 k5 k1.symm k2.symm k3.symm;rw[hfin];clear hfin k1 k2 k3 k4 k5 spec;refine wX.both [] [12,19] ⟨[true,true,true,false,false,true,true,false,true,true,true,true,false,false,false,true,true,true,true,false,false,false,true,false,true],by kernel_rfl,?_⟩;conv=>whnf
 refine .gen _ _ (YL (As:=[.ptr 6 [] 0,.int .i64 d,.int .i64 a.vars]) (R':=.int .i64 q) [(12,_),(11,_),(10,_),(9,_),(8,_)] ak l4 (λ_=>rfl) (λ_=>rfl) rfl) λ_=>?_;conv=>whnf
 refine .gen _ _ (YL (As:=[.ptr 6 [] 0,.int .i64 d]) (R':=.int .i64 (T4.cnt d:Nat)) [(12,_),(11,_),(10,_),(9,_),(8,_)] ak ct1 (λ_=>rfl) (λ_=>rfl) rfl) λ_=>?_;conv=>whnf
 refine⟨au,?_⟩;conv=>whnf
 (repeat (refine aI (by(conv=>whnf)<;>exact rfl) ?_;(conv=>whnf)))
 refine .gen _ _ (YL (As:=[.ptr 6 [] 0,.int .i64 d,.int .i64 yb]) (R':=.int .i64 e1) [(12,_),(11,_),(10,_),(9,_),(8,_)] ak an1 (λ_=>rfl) (λ_=>rfl) rfl) λ_=>?_;conv=>whnf
 refine .gen _ _ (YL (As:=[.ptr 6 [] 0,.int .i64 e1]) (R':=.int .i64 (T5.cnt e1:Nat)) [(12,_),(11,_),(10,_),(9,_),(8,_)] ak ct2 (λ_=>rfl) (λ_=>rfl) rfl) λ_=>?_;conv=>whnf
 refine⟨au,?_⟩;conv=>whnf
 (repeat (refine aI (by(conv=>whnf)<;>exact rfl) ?_;(conv=>whnf)))
 refine .gen _ _ (YL (As:=[.ptr 6 [] 0,.int .i64 d,.int .i64 ya]) (R':=.int .i64 e2) [(12,_),(11,_),(10,_),(9,_),(8,_)] ak an2 (λ_=>rfl) (λ_=>rfl) rfl) λ_=>?_;conv=>whnf
 refine .gen _ _ (YL (As:=[.ptr 6 [] 0,.int .i64 e2]) (R':=.int .i64 (T6.cnt e2:Nat)) [(12,_),(11,_),(10,_),(9,_),(8,_)] ak ct3 (λ_=>rfl) (λ_=>rfl) rfl) λ_=>?_;conv=>whnf
 exact ZH
theorem Em{A:AV}{b:Bool}(h:IC A (.bool b)):∀(d:List Bool) (i:Nat),sS ((d.map AV.bool).set i A) ((d.set i b).map AV.bool)
 | [],_=>trivial
 |_::_,0=>⟨h,qU _⟩
 |_::d,i+1=>⟨Lh _,Em h d i⟩
def ofV(v set:Nat)(w:List Bool)(a:Nat):Bool:=if a<v then set.testBit a else w.getD (a-v) false
theorem a9M(f:Fo)(hv:0<=f.vars/\f.vars<=24)(w:List Bool)(set a:Nat)(hs:set<2^63)(ha:a<f.vars.toNat+w.length)(hw:w.length<=128) :
  ZQ 224 [f.av,.ms 0 0 w.length w.length 1,.int .i64 set,.int .i64 a] [(0,.arr 1 w.length (w.map .bool))] (.bool (ofV f.vars.toNat set w a)) [(0,.arr 1 w.length (w.map .bool))]:=by
 refine ZN Tryz.func224 λhok=>?_;constructor<;>intro g
 ·rw[show ofV f.vars.toNat set w a=set.testBit a from aG aj];refine ZW ?_;refine⟨aj,ZW ?_⟩;refine ZE ?_ ?_
  ·repeat' first|exact Zq|apply aI
   all_goals (show _↔_;rw[a3k hs aj];cases set.testBit a <;> simp)
  exact wk
 rw[show ofV f.vars.toNat set w a=w.getD (a-f.vars.toNat) false from aB aj];refine ZW ?_;refine⟨rQ aj aj,ZW ?_⟩;refine⟨⟨aj,aj⟩,ZW ?_⟩;rw[bC];refine sK false ⟨aj,aj⟩ ?_;rw[aJ,show((a:Int)-f.vars).toNat=a-f.vars.toNat by omega];refine ZW ?_;refine⟨rfl,ZW ?_⟩;exact ZX
theorem b23(f:Fo)(hv:0<=f.vars/\f.vars<=24)(w:List Bool)(set a:Nat)(hs:set<2^63)(ha:a<f.vars.toNat+w.length)(hw:w.length<=128) :
  ZQ 224 [f.av,.sl 1 (w.map .bool) .no,.int .i64 set,.int .i64 a] [] (.bool (ofV f.vars.toNat set w a)) []:=by
 refine ZN Tryz.func224 λhok=>?_;constructor<;>intro g;{rw[show ofV f.vars.toNat set w a=set.testBit a from aG aj];refine ZW ?_;refine⟨aj,?_⟩;refine ZW ?_;refine ZF ?_;show _↔_;rw[a3k hs aj];cases set.testBit a <;> simp};rw[show ofV f.vars.toNat set w a=w.getD (a-f.vars.toNat) false from aB aj];refine ZW ?_;refine⟨rQ aj aj,ZW ?_⟩;refine sK false ⟨aj,aj⟩ ?_;rw[show((a:Int)-f.vars).toNat=a-f.vars.toNat by omega];exact ZJ
def wV(f:Fo)(set i:Nat):List Bool:=(valsF f.vars.toNat set (f.nodes.take i)).drop f.vars.toNat++List.replicate (f.nodes.length-i) false
theorem a9g{v set a:Nat}(h:a<v):(evs v set).getD a false=set.testBit a:=by unfold evs;rw[aF,dO,gQ h];rfl
theorem b4r(f:Fo)(set i a:Nat)(hi:i<=f.nodes.length)(ha:a<f.vars.toNat+i):ofV f.vars.toNat set (wV f set i) a=(valsF f.vars.toNat set (f.nodes.take i)).getD a false:=by have hl:=PD f.vars.toNat set (f.nodes.take i);rw[bD,iw hi]at hl;unfold ofV;split;{rename_i h;have:=zZ (evs f.vars.toNat set) [] (f.nodes.take i) (j:=a) (by rw[b2v];simpa using h);rw[eG]at this;rw[<- a9g h];exact this.symm};unfold wV;rw[aF,bH (by rw[fQ];omega),gZ,show f.vars.toNat+(a-f.vars.toNat)=a by omega,<- aF]
theorem b0u(f:Fo)(set i:Nat)(hi:i<=f.nodes.length):(wV f set i).length=f.nodes.length:=by have hl:=PD f.vars.toNat set (f.nodes.take i);rw[bD,iw hi]at hl;unfold wV;rw[bn,fQ,jD];omega
theorem b1o(f:Fo)(set i:Nat)(hi:i<f.nodes.length){b:Bool}(hb:valsF f.vars.toNat set (f.nodes.take (i+1))=valsF f.vars.toNat set (f.nodes.take i)++[b]):(wV f set i).set i b=wV f set (i+1):=by have hl:=PD f.vars.toNat set (f.nodes.take i);rw[bD,iw aj]at hl;unfold wV;rw[hb];generalize valsF f.vars.toNat set (f.nodes.take i)=V at *;obtain⟨m,hm⟩:∃m,f.nodes.length-i=m+1:=⟨f.nodes.length-i-1,aj⟩;rw[hm,show f.nodes.length-(i+1)=m by omega,kC _ _ (by rw[fQ];omega),fQ,hl,jQ aj,bP];rw[show i-(f.vars.toNat+i-f.vars.toNat)=0 by omega];rfl
theorem a1F (f:Fo) (h:KL f) (set:Nat) (hs:set<2^63):ZQ 225 [f.av,.int .i64 set] [] (.sl 1 ((wV f set f.nodes.length).map .bool) .no) []:=by
 obtain⟨h1,h2,h3,h4⟩:=h;have hwl:=b0u f set;refine ZN Tryz.func225 λhok=>?_;rw[aC];refine⟨⟨aj,dR _,by show(f.nodes.length:Int)*((1:Nat):Int)<=281474976710656;omega,aj⟩,.wr ?_⟩;rw[aJ];refine ZW ?_;refine qV.of <| (qM.inv (.refl _ _) (λi:Nat=>i<=f.nodes.length) (λi=>[(18,.int .i64 i)]) (λi=>[(1,.arr 1 f.nodes.length ((wV f set i).map .bool)),(0,.box f.av)]) (λi=>f.nodes.length-i) 0 (aO _) ?_ ?_ ?_);{exact λ_=>rfl}
 ·refine Zv wk ?_;repeat' first|exact Zq|apply aI
  all_goals first|(have e0:wV f set 0=List.replicate f.nodes.length false:=by unfold wV;rw[jO,List.drop_of_length_le (by rw[PD];simp),eG,Nat.sub_zero]
                   rw[e0];exact UO _)|skip
 intro i hi _;have hwi:=hwl i hi;refine ZS ?_ ?_<;>intro g1
 ·have hlt:i<f.nodes.length:=(by simpa using g1);have hok:=h3 i hlt;have hvs:valsF f.vars.toNat set (f.nodes.take (i+1))=Ul (valsF f.vars.toNat set (f.nodes.take i)) f.nodes[i]:=(by unfold valsF;rw[eP,aH hlt,fU];rfl);have how:=λa=>b4r f set i a hi;have hsu:=λb=>b1o f set i hlt (b:=b);refine ZW ?_;refine rV hlt ?_;generalize f.nodes[i]=x at *;generalize valsF f.vars.toNat set (f.nodes.take i)=V at *;generalize wV f set i=w at *;have b7T:x.args.length<=16:=(by have hal:=hok.num;split at hal;{omega};split at hal <;> omega);refine ZW ?_;refine qV.of <| (qM.inv (.refl _ _) (λj:Nat=>j<=x.args.length) (λj=>[(26,.int .i64 j),(8,.int .i64 (JU V (x.args.take j)))]) (λ_=>[(2,.box x.av),(1,.arr 1 f.nodes.length (w.map .bool)),(0,.box f.av)]) (λj=>x.args.length-j) 0 (aO _) ?_ ?_ ?_);{exact λ_=>rfl};{exact ZV};intro j hj _;refine ZS ?_ ?_<;>intro g2;{have hjl:j<x.args.length:=(by simpa using g2);have ha:=hok.args _ (aQ hjl);have hc:=a6H (v:=V) hjl;have hcl:=a6I V (x.args.take j);rw[bD]at hcl;have co:=a9M f h1 w set (x.args[j]).toNat hs aj aj;rw[how _ aj,hwi,show(((x.args[j]).toNat:Nat):Int)=x.args[j] by omega]at co;refine ZW ?_;refine rV hjl ?_;generalize x.args[j]=a at *;refine ZW ?_;refine .gen _ _ (qX.frame [1] co ⟨rfl,rfl,rfl,rfl⟩ ?_ ?_) λ_=>?_;{exact wk};{exact wk};refine ZS ?_ ?_<;>intro g3;{rw[aG g3]at hc;refine ZW ?_;refine ZG ?_;refine ZW ?_;refine ZG ?_;refine⟨j+1,?_,?_,?_⟩;{exact hjl};{rw[hc];exact ZV};omega};rw[aB (by rw[g3];simp)]at hc;refine ZW ?_;refine ZG ?_;refine⟨j+1,?_,?_,?_⟩;{exact hjl};{rw[hc];exact ZV};omega};have hjl:j=x.args.length:=(by(have:¬j<x.args.length:=by simpa using g2);omega);subst hjl;clear g2;rw[bg];have hk:=hok.kind;have hnd:∀b:Bool,zS x (JU V x.args)=b->w.set i b=wV f set (i+1):=λb hb=>hsu b (by rw[hvs,Ul,hb]);have hcl:=a6I V x.args;clear hvs hsu how;generalize JU V x.args=c at *;refine ZS ?_ ?_<;>intro k0
  ·have hb:zS x c=decide (x.k=1):=(by unfold zS;rw[aG k0]);refine ZW ?_;refine⟨⟨aj,aj⟩,ZW ?_⟩;refine⟨by rw[aC];omega,rfl,ZW ?_⟩;refine ZG ?_;refine⟨i+1,?_,?_,?_⟩;{exact hlt}
   ·rw[<- hnd _ hb];refine Zv wk ?_;repeat' first|exact Zq|apply aI
    all_goals first|(rw[bC,aJ];refine Em ?_ _ _;show _↔_;simp only[gW];try (first|omega|(rw[show(2:Int)=((2:Nat):Int)from rfl,EI];omega)))|skip
   omega
  refine ZS ?_ ?_<;>intro k1
  ·have hb:zS x c=decide (c=0):=(by unfold zS;rw[aB k0,aG k1]);refine ZW ?_;refine⟨⟨aj,aj⟩,ZW ?_⟩;refine⟨by rw[aC];omega,rfl,ZW ?_⟩;refine ZG ?_;refine⟨i+1,?_,?_,?_⟩;{exact hlt}
   ·rw[<- hnd _ hb];refine Zv wk ?_;repeat' first|exact Zq|apply aI
    all_goals first|(rw[bC,aJ];refine Em ?_ _ _;show _↔_;simp only[gW];try (first|omega|(rw[show(2:Int)=((2:Nat):Int)from rfl,EI];omega)))|skip
   omega
  refine ZS ?_ ?_<;>intro k2
  ·have hb:zS x c=decide (c=x.args.length):=(by unfold zS;rw[aB k0,aB k1,aG k2]);refine ZW ?_;rw[aC];refine ZW ?_;refine⟨⟨aj,aj⟩,ZW ?_⟩;refine⟨by rw[aC];omega,rfl,ZW ?_⟩;refine ZG ?_;refine⟨i+1,?_,?_,?_⟩;{exact hlt}
   ·rw[<- hnd _ hb];refine Zv wk ?_;repeat' first|exact Zq|apply aI
    all_goals first|(rw[bC,aJ];refine Em ?_ _ _;show _↔_;simp only[gW];try (first|omega|(rw[show(2:Int)=((2:Nat):Int)from rfl,EI];omega)))|skip
   omega
  refine ZS ?_ ?_<;>intro k3
  ·have hb:zS x c=decide (0<c):=(by unfold zS;rw[aB k0,aB k1,aB k2,aG k3]);refine ZW ?_;refine⟨⟨aj,aj⟩,ZW ?_⟩;refine⟨by rw[aC];omega,rfl,ZW ?_⟩;refine ZG ?_;refine⟨i+1,?_,?_,?_⟩;{exact hlt}
   ·rw[<- hnd _ hb];refine Zv wk ?_;repeat' first|exact Zq|apply aI
    all_goals first|(rw[bC,aJ];refine Em ?_ _ _;show _↔_;simp only[gW];try (first|omega|(rw[show(2:Int)=((2:Nat):Int)from rfl,EI];omega)))|skip
   omega
  refine ZS ?_ ?_<;>intro k4
  ·have hb:zS x c=decide (x.k<=c):=(by unfold zS;rw[aB k0,aB k1,aB k2,aB k3,aG k4]);refine ZW ?_;refine⟨⟨aj,aj⟩,ZW ?_⟩;refine⟨by rw[aC];omega,rfl,ZW ?_⟩;refine ZG ?_;refine⟨i+1,?_,?_,?_⟩;{exact hlt}
   ·rw[<- hnd _ hb];refine Zv wk ?_;repeat' first|exact Zq|apply aI
    all_goals first|(rw[bC,aJ];refine Em ?_ _ _;show _↔_;simp only[gW];try (first|omega|(rw[show(2:Int)=((2:Nat):Int)from rfl,EI];omega)))|skip
   omega
  have hb:zS x c=decide (c % 2=1):=(by unfold zS;rw[aB k0,aB k1,aB k2,aB k3,aB k4,aG aj]);refine ZW ?_;refine⟨au,ZW ?_⟩;refine⟨⟨aj,aj⟩,ZW ?_⟩;refine⟨by rw[aC];omega,rfl,ZW ?_⟩;refine ZG ?_;refine⟨i+1,?_,?_,?_⟩;{exact hlt}
  ·rw[<- hnd _ hb];refine Zv wk ?_;repeat' first|exact Zq|apply aI
   all_goals first|(rw[bC,aJ];refine Em ?_ _ _;show _↔_;simp only[gW];try (first|omega|(rw[show(2:Int)=((2:Nat):Int)from rfl,EI];omega)))|skip
  omega
 have hil:i=f.nodes.length:=(by(have:¬i<f.nodes.length:=by simpa using g1);omega);subst hil;refine ZW ?_;refine⟨⟨_,_,.freeze 4 1 _ _ _ _ _ _ rfl rfl ?_ (.refl _ _),?_⟩⟩;{rw[aC];omega};conv=>whnf
 refine Zx ?_ ?_
 ·repeat' first|exact Zq|apply aI
  all_goals first|(refine qY ?_;rw[fD,bf (by rw[aC];omega)])|skip
 exact wk
theorem a4o(f:Fo)(h:KL f)(set:Nat)(hs:set<2^63):ZQ 169 [f.av,.int .i64 set] [] (.bool (Ec f set)) []:=by
 have cv:=a1F f h set hs;have hwl:=b0u f set f.nodes.length (aS _);have h1:=h.vars;have h2:=h.len;have h4:=h.top;have co:=b23 f h1 (wV f set f.nodes.length) set f.top.toNat hs aj aj;rw[b4r f set f.nodes.length f.top.toNat (aS _) aj,bg,show((f.top.toNat:Nat):Int)=f.top by omega]at co;have e:Ec f set=(valsF f.vars.toNat set f.nodes).getD f.top.toNat false:=rfl;rw[e];refine ZN Tryz.func169 λhok=>?_
 (refine wX.b2r [0] (by kernel_rfl) ?_;(conv=>whnf);(repeat (refine aP ⟨rfl,rfl⟩ ?_;(conv=>whnf))))
 refine .zK cv ?_;refine .zK co ?_;exact ZH
theorem QI(f:Fo)(h:KL f)(h7:f.vars<=12):ZQ 92 [f.av] [] (.sl 1 (((List.range (2^f.vars.toNat)).map (Ec f)).map .bool) .no) []:=by
 have h1:=h.vars;have hp:2^f.vars.toNat<=2^12:=bQ au aj;have cv:=λset hs=>a4o f h set hs;have hsh:=Hy (i:=f.vars.toNat) aj;rw[show((f.vars.toNat:Nat):Int)=f.vars by omega]at hsh;refine ZN Tryz.func92 λhok=>?_;refine qV.of <| (qM.inv (.grow 3 1 [] .qW rfl (.inl ⟨rfl,rfl⟩) (.refl _ _)) (λk:Nat=>k<=2^f.vars.toNat) (λk=>[(4,.int .i64 k),(3,.sl 1 (((List.range k).map (Ec f)).map .bool) (.own 1))]) (λk=>[(1,.tok 1 k),(0,.box f.av)]) (λk=>2^f.vars.toNat-k) 0 (aO _) ?_ ?_ ?_);{exact λ_=>rfl};{exact ZV};intro k hk _;refine ZW ?_;refine⟨aj,?_⟩;rw[hsh];refine ZS ?_ ?_<;>intro g
 ·have hlt:k<2^f.vars.toNat:=aj;refine ZW ?_;refine .zW (cv k aj) ?_;refine⟨ak,.mk (by simp[maxL];omega) aA (ZW ?_)⟩;refine ZG ?_;refine⟨k+1,?_,?_,?_⟩;{exact hlt}
  ·refine Zv ?_ ?_
   ·repeat' first|exact Zq|apply aI
    all_goals (show sS _ (List.map _ (List.map _ (List.range (k+1))));rw[kV,aV,aV];exact qU _)
   repeat' first|exact Zq|apply aI
   all_goals first|(simp;done)|skip
  omega
 have hk:k=2^f.vars.toNat:=aj;subst hk;exact ZJ
theorem a0u(a b:Fo)(ha:KL a)(hb:KL b)(hab:a.vars=b.vars)(h7:a.vars<=10):ZQ 38 [a.av,b.av] [] (II a b).av []:=by
 have h1:=ha.vars;have hp:2^a.vars.toNat<=2^10:=bQ au aj;have ca:=QI a ha aj;have cb:=QI b hb aj;rw[<- hab]at cb;unfold II;have hdk:∀k,Ju (Ec a) (Ec b) (k+1)=if Ec a k=Ec b k then Ju (Ec a) (Ec b) k else⟨false,if(Ju (Ec a) (Ec b) k).eq=true then k else(Ju (Ec a) (Ec b) k).st,(Ju (Ec a) (Ec b) k).cnt+1,if Ec b k=true then(Ju (Ec a) (Ec b) k).ga+1 else(Ju (Ec a) (Ec b) k).ga,if Ec b k=true then(Ju (Ec a) (Ec b) k).lo else(Ju (Ec a) (Ec b) k).lo+1⟩:=λk=>rfl;have hdb:∀k,(Ju (Ec a) (Ec b) k).cnt<=k/\(Ju (Ec a) (Ec b) k).ga<=k/\(Ju (Ec a) (Ec b) k).lo<=k:=λk=>(by obtain⟨_,_,_,q4,q5,q6⟩:=Xm (Ec a) (Ec b) k;rw[q4,q5,q6];have:=λp=>List.countP_le_length (p:=p) (l:=List.range k);simp only[lH]at this;exact⟨this _,this _,this _⟩);have hd0:Ju (Ec a) (Ec b) 0=⟨true,0,0,0,0⟩:=rfl;generalize Ju (Ec a) (Ec b)=D at *;generalize Ec a=va at *;generalize Ec b=vb at *;generalize 2^a.vars.toNat=n at *;refine ZN Tryz.func38 λhok=>?_;refine ZR ?_;refine .zK ca ?_;refine .zW cb ?_;refine qV.of <| (qM.inv (.refl _ _) (λk:Nat=>k<=n) (λk=>[(8,.int .i64 k)]) (λk=>[(3,.box (D k).av),(2,.box zDf),(1,.box b.av),(0,.box a.av)]) (λk=>n-k) 0 (aO _) ?_ ?_ ?_);{exact λ_=>rfl};{rw[hd0];exact ZV};intro k hk _;have hd1:=hdk k;obtain⟨b1,b2,b3⟩:=hdb k;generalize hDk:D k=d at *;refine ZW ?_;rw[aC,aC,lH];constructor<;>intro g
 ·have hlt:k<n:=aj;refine ZW ?_;refine ZR ?_;refine sK false ⟨aj,aA⟩ ?_;rw[show((List.range n).map va).getD ((k:Nat):Int).toNat false=va k by rw[aJ,aF,dO,gQ hlt];rfl];conv=>whnf
  refine sK false ⟨aj,aA⟩ ?_;rw[show((List.range n).map vb).getD ((k:Nat):Int).toNat false=vb k by rw[aJ,aF,dO,gQ hlt];rfl];conv=>whnf
  constructor<;>intro g1;{rw[aG g1]at hd1;refine ZW ?_;refine ZG ?_;refine⟨k+1,?_,?_,?_⟩;{exact hlt};{rw[hd1];exact ZV};omega};rw[aB g1]at hd1;refine ZS ?_ ?_<;>intro g2;{rw[aG g2]at hd1;refine ZW ?_;refine⟨rQ aj aj,ZW ?_⟩;refine sK false ⟨aj,aA⟩ ?_;rw[show((List.range n).map vb).getD ((k:Nat):Int).toNat false=vb k by rw[aJ,aF,dO,gQ hlt];rfl];refine ZS ?_ ?_<;>intro g3;{rw[aG g3,aG g3]at hd1;refine ZW ?_;refine⟨rQ aj aj,ZW ?_⟩;refine ZG ?_;refine⟨k+1,?_,?_,?_⟩;{exact hlt};{rw[hd1];exact ZV};omega};rw[aB (by rw[g3];simp),aB (by rw[g3];simp)]at hd1;refine ZW ?_;refine⟨rQ aj aj,ZW ?_⟩;refine ZG ?_;refine⟨k+1,?_,?_,?_⟩;{exact hlt};{rw[hd1];exact ZV};omega};rw[aB (by rw[g2];simp)]at hd1;refine ZW ?_;refine⟨rQ aj aj,ZW ?_⟩;refine sK false ⟨aj,aA⟩ ?_;rw[show((List.range n).map vb).getD ((k:Nat):Int).toNat false=vb k by rw[aJ,aF,dO,gQ hlt];rfl];refine ZS ?_ ?_<;>intro g3;{rw[aG g3,aG g3]at hd1;refine ZW ?_;refine⟨rQ aj aj,ZW ?_⟩;refine ZG ?_;refine⟨k+1,?_,?_,?_⟩;{exact hlt};{rw[hd1];exact ZV};omega};rw[aB (by rw[g3];simp),aB (by rw[g3];simp)]at hd1;refine ZW ?_;refine⟨rQ aj aj,ZW ?_⟩;refine ZG ?_;refine⟨k+1,?_,?_,?_⟩;{exact hlt};{rw[hd1];exact ZV};omega
 have hk:k=n:=aj;subst hk;rw[hDk];exact ZJ
abbrev QQ:=_root_.Rat
def Uo(s:Bool)(n:Nat):Int:=if s=true then -(n:Int)else n
def vP(q:QQ):Rat:=if q.num=0 then⟨false,[],[]⟩else⟨decide (q.num<0),wd q.num.natAbs,wd q.den⟩
theorem a01(s:Bool)(n:Nat):(Uo s n).natAbs=n:=by cases s <;> simp[Uo]
theorem PO(z:Int):Uo (decide (z<0)) z.natAbs=z:=by unfold Uo;by_cases h:z<0;{rw[aG (by simpa using h)];omega};rw[aB (by simpa using h)];omega
theorem ER(s:Bool)(n d:Nat)(hd:d≠0):yX s n d=vP (mkRat (Uo s n) d):=by
 have e1:=Rat.num_mkRat (Uo s n) d;have e2:=Rat.den_mkRat (Uo s n) d;rw[aB hd,a01]at e1 e2;unfold vP yX;rw[e1,e2];have hgd:d.gcd n ∣ n:=Nat.gcd_dvd_right d n;have hgp:0<d.gcd n:=jh n aj;have hge:n.gcd d=d.gcd n:=mY n d;rw[hge];generalize d.gcd n=g at *;have ediv:(Uo s n) / (g:Int)=Uo s (n / g):=by cases s;{show(n:Int) / (g:Int)=((n / g:Nat):Int);exact(Int.natCast_ediv n g).symm};show -(n:Int) / (g:Int) = -((n / g:Nat):Int);rw[Int.natCast_ediv];exact Int.neg_ediv_of_dvd (by obtain⟨c,rfl⟩:=hgd;exact⟨(c:Int),ak⟩)
 rw[ediv,a01];by_cases hz:n=0;{subst hz;rw[aG rfl,aG (by cases s <;> simp[Uo])]};have hq:0<n / g:=Nat.div_pos (Nat.le_of_dvd aj hgd) hgp;rw[aB hz,aB (by cases s <;> simp[Uo] <;> omega)];congr 1;generalize n / g=m at *;cases s
 ·symm;simp[Uo];
 symm;simp[Uo];omega
theorem I5{n:Nat}(h:n≠0):wK (wd n)=true:=by
 induction n using Nat.strongRecOn with
 | _ n ih =>
   rw[BL h];by_cases h2:n / 4294967296=0;{rw[h2,yt];simp[wK];omega};have:=ih _ (lT aj aj) h2;generalize wd (n / 4294967296)=l at *;simp only[wK,aN,bW]at this ⊢;refine⟨ak,?_⟩;cases l with
   |nil=>exact absurd rfl this.1
   |cons x l=>simpa[List.getLastD]using this.2
theorem I7(q:QQ):qQ (vP q)=(decide (q.num<0),q.num.natAbs,q.den):=by by_cases h:q.num=0;{have e:vP q=⟨false,[],[]⟩:=aG h;have hd:q.den=1:=(by have:=q.reduced;rw[h]at this;simpa using this);rw[e,h,hd];rfl};have e:vP q=⟨decide (q.num<0),wd q.num.natAbs,wd q.den⟩:=aB h;have hn:q.num.natAbs≠0:=aj;have hne:wd q.num.natAbs≠[]:=(by rw[BL hn];simp);rw[e];unfold qQ;have hv:valid ⟨decide (q.num<0),wd q.num.natAbs,wd q.den⟩=true:=(by unfold valid;rw[aB (λh=>hne h.1)];dsimp only;rw[I5 hn,I5 q.den_nz,rU,rU];simpa using q.reduced);rw[aG ⟨hv,hne⟩];dsimp only;rw[rU,rU]
theorem b1T(p q:QQ):mulR (vP p) (vP q)=vP (p*q):=by
 unfold mulR;rw[I7,I7];dsimp only;rw[ER _ _ _ (jX p.den_nz q.den_nz)];congr 1;rw[<- iH p,<- iH q,Rat.mkRat_mul_mkRat,iH,iH];congr 1;rw[<- lY];have h1:=PO p.num;have h2:=PO q.num;conv=>rhs;rw[<- h1,<- h2]
 rw[lY];generalize decide (p.num<0)=s;generalize decide (q.num<0)=t;cases s <;> cases t <;> simp[Uo] <;> grind
theorem b1t(s t:Bool)(x y d:Nat)(hd:d≠0):Un s t x y d=vP (mkRat (Uo s x+Uo t y) d):=by unfold Un;split;{rename_i h;subst h;rw[ER _ _ _ hd];congr 2;cases s <;> simp[Uo];omega};rename_i h;split;{rename_i hl;rw[ER _ _ _ hd];congr 2;cases s <;> cases t <;> simp[Uo]at h ⊢ <;> omega};rename_i hl;rw[ER _ _ _ hd];congr 2;cases s <;> cases t <;> simp[Uo]at h ⊢ <;> omega
theorem b3B(p q:QQ):J5 (vP p) (vP q)=vP (p+q):=by
 unfold J5;rw[I7,I7];dsimp only;rw[b1t _ _ _ _ _ (jX p.den_nz q.den_nz)];congr 1;conv=>rhs;rw[<- iH p,<- iH q]
 rw[Rat.mkRat_add_mkRat _ _ p.den_nz q.den_nz];congr 1;have h1:=PO p.num;have h2:=PO q.num;conv=>rhs;rw[<- h1,<- h2]
 generalize decide (p.num<0)=s;generalize decide (q.num<0)=t;generalize p.num.natAbs=a;generalize q.num.natAbs=b;cases s <;> cases t <;> simp[Uo] <;> grind
theorem b1R(p:QQ):negR (vP p)=vP (-p):=by
 unfold negR;rw[I7];dsimp only;rw[ER _ _ _ p.den_nz];congr 1;conv=>rhs;rw[<- iH p,Rat.neg_mkRat]
 congr 1;have h1:=PO p.num;conv=>rhs;rw[<- h1]
 generalize decide (p.num<0)=s;cases s <;> simp[Uo]
def qv(r:Rat):QQ:=mkRat (Uo r.neg (val r.num)) (val r.den)
theorem Ro{r:Rat}(h:valid r=true)(w1:Ws r.num)(w2:Ws r.den):r=vP (qv r):=by
 obtain⟨neg,num,den⟩:=r;dsimp only at w1 w2;unfold valid at h;split at h
 ·rename_i e;dsimp only at e h;obtain⟨rfl,rfl⟩:=e;have:neg=false:=by simpa using h
  subst this;rfl
 simp only[aN,bW]at h;obtain⟨⟨h1,h2⟩,h3⟩:=h;obtain⟨e1,n1⟩:=Dz h1 w1;obtain⟨e2,n2⟩:=Dz h2 w2;dsimp only at *;have:=ER neg (val num) (val den) n2;unfold qv;rw[<- this];unfold yX;rw[aB n1,h3,Nat.div_one,Nat.div_one,e1,e2]
def Sz(q:QQ)(k:Nat):Prop:=(wd q.num.natAbs).length<=k/\(wd q.den).length<=k
theorem Sz.mono{q:QQ}{k l:Nat}(h:Sz q k)(hl:k<=l):Sz q l:=⟨by have:=h.1;omega,by have:=h.2;omega⟩
theorem Sz.neg{q:QQ}{k:Nat}(h:Sz q k):Sz (-q) k:=by unfold Sz;rw[Rat.neg_num,Rat.neg_den,Int.natAbs_neg];exact h
theorem b3F{z:Int}{d k:Nat}(hd:d≠0)(h1:(wd z.natAbs).length<=k)(h2:(wd d).length<=k):Sz (mkRat z d) k:=by unfold Sz;rw[Rat.num_mkRat,Rat.den_mkRat,aB hd,aB hd];have hg:0<d.gcd z.natAbs:=jh _ aj;generalize d.gcd z.natAbs=g at *;refine⟨dH (sQ ?_) h1,dH (sQ (jG d g)) h2⟩;have:=Int.natAbs_ediv_le_natAbs z (g:Int);exact this
theorem Sz.mul{p q:QQ}{k l:Nat}(hp:Sz p k)(hq:Sz q l):Sz (p*q) (k+l):=by rw[<- iH p,<- iH q,Rat.mkRat_mul_mkRat];refine b3F (jX p.den_nz q.den_nz) ?_ (vY hp.2 hq.2);rw[lY];exact vY hp.1 hq.1
theorem Sz.add{p q:QQ}{k l:Nat}(hp:Sz p k)(hq:Sz q l):Sz (p+q) (k+l+1):=by rw[<- iH p,<- iH q,Rat.mkRat_add_mkRat _ _ p.den_nz q.den_nz];have h1:=vY hp.1 hq.2;have h2:=vY hq.1 hp.2;refine b3F (jX p.den_nz q.den_nz) ?_ (by have:=vY hp.2 hq.2;omega);refine dH (sQ (y:=p.num.natAbs*q.den+q.num.natAbs*p.den) ?_) (Jw h1 aj);refine dH (Int.natAbs_add_le _ _) ?_;rw[lY,lY];simp
theorem SY{q:QQ}{k:Nat}(h:Sz q k):(vP q).num.length<=k/\(vP q).den.length<=k:=by unfold vP;split;{exact⟨aO _,aO _⟩};exact h
end S