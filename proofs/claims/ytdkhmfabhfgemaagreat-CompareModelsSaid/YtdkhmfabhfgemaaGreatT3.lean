/-
  A logic for calls of Go functions: a call in a greater heap, numbers. Nothing is assumed.
-/
import Derived.Test.YtdkhmfabhfgemaaGreatT2
import Derived.DeepKeys3
import Derived.Below
import Derived.ChangeArms
import Derived.ChangeShapes
import Derived.Carry
namespace Go.AL
def O5:Nat->List AV->Env
 |_,[]=>[]
 |n,A::l=>(n,A)::O5 (n+1) l
def b07:Nat->List AV->(Env->Prop)->Prop
 |_,[],k=>k []
 |n,A::l,k=>a5b n λm=>b07 m l λe=>k ((n,A)::e)
theorem a3n{k:Env->Prop}:∀{l:List AV} {n:Nat},b07 n l k↔k (O5 n l)
 | [],_=>jr
 |A::l,n=>by simp only[b07,Y9,O5];exact a3n
def V3(L:Lay)(e:Env)(H:Heap):List ResultVar->(List AV->Prop)->Prop
 | [],k=>k []
 | .tmp t::l,k=>Og e t λA=>V3 L e H l λAs=>k (A::As)
 | .cell t ty::l,k=>Og e t λA=>Ap L ty A H λR=>V3 L e H l λAs=>k (R::As)
def YC(l:List AV)(k:AV->Prop):Prop :=
 match l with
 | [A]=>k A
 |l=>Ti l (k (.uf l))
structure uZ(L:Lay)(res:List ResultVar)(H0:Heap)(R:AV)(H':Heap)(e:Env)(H:Heap):Prop where
 ex:∃e1 H1,Cv e H e1 H1/\V3 L e1 H1 res λAs=>YC As λA=>le A R/\tq (nextId H') R=true/\nextId H0<=nextId H'/\HWk H1 H'
def Fin(L:Lay)(res:List ResultVar)(H0:Heap)(R:AV)(H':Heap):AX->Env->Heap->Prop :=
 λx e H=>match x with
  | .exit _=>False
  |_=>uZ L res H0 R H' e H
def b6J(L:Lay)(res:List ResultVar)(H0:Heap)(Q:AV->Heap->Prop):AX->Env->Heap->Prop :=
 λx e H=>match x with
  | .exit _=>False
  |_=>∃R H',Q R H'/\uZ L res H0 R H' e H
section
variable{P:Program}{L:Lay}{F:FT}
theorem a8f{c:Cx}:∀{As:List AV} {vs:List Value} {n t:Nat} {A:AV},Ot c As vs->uY (O5 n As) t=some A->∃v,n<=t/\vs[t-n]? = some v/\EV c A v
 | [],_,_,_,_,_,h=>by simp[O5,uY]at h
 | B::As,vs,n,t,A,hv,h=>by
   obtain⟨v,r,rfl,h1,h2⟩:=hv;simp only[O5,uY]at h;cases hb:Nat.beq n t with
   |true =>rw[hb]at h;obtain rfl:=aK hb;obtain rfl:=aW h;exact⟨v,aS _,ak,h1⟩
   |false =>rw[hb]at h;obtain⟨u,h3,h4,h5⟩:=a8f h2 h;refine⟨u,aj,?_,h5⟩;have:t-n=(t-(n+1))+1:=aj;rw[this,dV];exact h4
theorem a1U{c:Cx}:∀{As:List AV} {vs:List Value},Ot c As vs->vs.length=As.length
 | [],_,h=>by obtain rfl:=h;rfl
 |A::As,vs,h=>by obtain⟨v,r,rfl,_,h2⟩:=h;simp[a1U h2]
theorem a8e{c:Cx}:∀{As:List AV} {vs:List Value},Ot c As vs->KD As
 | [],_,_=>by simp only[KD]
 |A::As,vs,h=>by obtain⟨v,r,rfl,h1,h2⟩:=h;simp only[KD];exact⟨MH h1,a8e h2⟩
theorem OA(hL:uo P L){n:Nat}{c:Cx}{e:Env}{H:Heap}{a:Act}(hr:HR c H)(ha:BR n c e a) :
  ∀ {res:List ResultVar} {k:List AV->Prop},V3 L e H res k ->
    ∃As vs,(res.mapM (fun | .tmp t=>pure (a.tmps.getD t undef) | .cell b t=>do loadVar t (<- asAddr (a.tmps.getD b undef)):ResultVar->Sem Value)).run P c.w=.ok vs c.w/\Ot c As vs/\k As
 | [],k,h=>⟨[],[],ak,rfl,h⟩
 | .tmp t::l,k,h=>by obtain⟨A,h1,h2⟩:=yB.1 h;obtain⟨As,vs,h3,h4,h5⟩:=OA hL hr ha h2;refine⟨A::As,a.tmps.getD t undef::vs,?_,⟨_,_,rfl,ha.env t A h1,h4⟩,h5⟩;simp only[lG,Sem.run_bind,Sem.run_pure,Result.andThen_ok,h3]
 | .cell t ty::l,k,h=>by obtain⟨A,h1,h2⟩:=yB.1 h;obtain⟨ad,r,R,e1,hrun,hV,h2⟩:=Uh hL hr (ha.env t A h1) h2;obtain⟨As,vs,h3,h4,h5⟩:=OA hL hr ha h2;refine⟨R::As,r::vs,?_,⟨_,_,rfl,rZ hV,h4⟩,h5⟩;have e2:(asAddr (Value.pointer (some ad))).run P c.w=.ok ad c.w:=rfl;simp only[lG,Sem.run_bind,e1,e2,hrun,Sem.run_pure,Result.andThen_ok,h3]
theorem YD(hL:uo P L){n:Nat}{c:Cx}{e:Env}{H:Heap}{a:Act}{fn:Func}(hr:HR c H)(ha:BR n c e a){k:AV->Prop}
  (h:V3 L e H fn.results.toList λAs=>YC As k):∃A v,(results fn a.tmps).run P c.w=.ok v c.w/\EV c A v/\k A:=by
 obtain⟨As,vs,h1,h2,h3⟩:=OA hL hr ha h;have hrun:∀v,(if h:vs.toArray.size=1 then vs.toArray[0]else .tuple vs.toArray)=v->(results fn a.tmps).run P c.w=.ok v c.w:=(by rintro v rfl;unfold results;rw[Array.mapM_eq_mapM_toList];simp only[Sem.run_bind,map_eq_pure_bind,Sem.run_pure];erw [h1];simp only[Result.andThen_ok]);unfold YC at h3;split at h3;{rename_i A;obtain⟨v,rfl,h4⟩:=NJ h2;exact⟨A,v,hrun _ ak,h4,h3⟩};rename_i hne;obtain⟨h4,h5⟩:=Rn h3;refine⟨.uf As,.tuple vs.toArray,hrun _ ?_,⟨vs.toArray,rfl,by simpa using b3E h2 h4⟩,h5⟩;rw[dif_neg];intro hs;have hl:=a1U h2;simp at hs;rw[hs]at hl
 match As,hl with
 | [A],_=>exact hne A rfl
theorem UD.a5W{B:(AX->Env->Heap->Prop)->Env->Heap->Prop}{f:Nat}{fn:Func}{code:Code}
  (hB:∀(Q:AX->Env->Heap->Prop) (e:Env) (H:Heap) (c:Cx) (a:Act),HR c H->BR fn.ntmps c e a->B Q e H->code.wp P (Post fn.ntmps (writes code) c H a Q) a c.w)
  (hL:uo P L) (hf:P.funcs[f]? = some fn) (hn:(fn.name== "runtime.NumGoroutine")=false) (hb:fn.body=some code)
  {args:List AV} {H:Heap} {Q:AV->Heap->Prop} {K:AX->Env->Heap->Prop} (hK:∀x e G,K x e G->b6J L fn.results.toList H Q x e G) (ha:Nat.ble args.length fn.ntmps=true)
  (h:KD args->b07 0 args λe=>B K e H):UD P f args H Q:=by
 refine⟨⟨fn,hf,hn,by rw[hb];rfl⟩,λc vs hr hv=>?_⟩;have h0:=a3n.1 (h (a8e hv));have hlen:=a1U hv;have hle:=bI ha;refine calls_of_wp hf hb ?_;have ha0:BR fn.ntmps c (O5 0 args) { tmps:=vs.toArray++Array.replicate (fn.ntmps-vs.toArray.size) undef,defers:=[] }:=(by refine⟨λt A hA=>?_,rfl,aA⟩;obtain⟨v,h1,h2,h3⟩:=a8f hv hA;simp only[Nat.sub_zero]at h2;have hlt:=(aY.1 h2).1;rw[dI,Array.getElem?_append_left (by simpa using hlt),fA,h2];exact h3);refine wp_mono (hB _ _ H c _ hr ha0 h0) ?_;rintro ex a w ⟨x,e,H1,c1,rfl,hq,rfl,htr,ha1,_⟩;have hq:=hK _ _ _ hq;have fin:(∃R H',Q R H'/\uZ L fn.results.toList H R H' e H1)->(a.defers=[]/\∃v,(results fn a.tmps).run P c1.w=.ok v c1.w/\(∃v' d R H',Q R H'/\Ending.returned v=.returned v'/\d.w=c1.w/\Tr c H d H'/\EV d R v')):=(by rintro⟨R,H',hQ,e1,H2,hcv,hres⟩;obtain⟨d,hw,xG,ha'⟩:=Fq hcv htr.hr ha1;obtain⟨A,v,hrun,hA,hle,b7R,hnx,hwk⟩:=YD hL xG.hr ha' hres;rw[hw]at hrun;have hwk:=hwk.to0 xG.hr;refine⟨ha1.defers,v,hrun,v,d.cut H',R,H',hQ,rfl,hw,?_,?_⟩;{exact(htr.trans xG).cut hwk (by rw[hr.nx];exact hnx)};exact Tc (λk n hn=>by rw[xG.hr.tp];exact hwk.tp k n hn) b7R (b1Y hle hA));cases x with
 |normal=>exact fin hq
 |ret=>exact fin hq
 |exit i=>exact hq.elim
theorem qX.intro (hL:uo P L) (hm:P.follows .mixedOrders=true) {f:Nat} {fn:Func} {code:Code} (hf:P.funcs[f]? = some fn) (hn:(fn.name== "runtime.NumGoroutine")=false) (hb:fn.body=some code)
  (hc:AB fn.ntmps code=true) {args:List AV} {H:Heap} {R:AV} {H':Heap} (ha:Nat.ble args.length fn.ntmps=true)
  (h:KD args->b07 0 args λe=>UA (FP P) Ok L code (Fin L fn.results.toList H R H') e H):qX P f args H R H':=by
 obtain⟨h1,h2⟩:=UD.a5W (Q:=λR' G=>R'=R/\G=H') (λQ' e H' c a hr ha h=>Au hL hm (b3L P) code Q' e H' c a hc hr ha h) hL hf hn hb (λx e G hq=>by
  cases x with
  |exit i=>exact hq.elim
  |normal=>exact⟨R,H',⟨rfl,rfl⟩,hq⟩
  |ret=>exact⟨R,H',⟨rfl,rfl⟩,hq⟩) ha h
 refine⟨h1,λc vs hr hv=>(h2 c vs hr hv).mono ?_⟩;rintro _ _ ⟨v,d,_,_,⟨rfl,rfl⟩,h3⟩;exact⟨v,d,h3⟩
end
end Go.AL
namespace Go.AL
deriving instance DecidableEq for TD
mutual
def zB:AV->List Value->Option (List Value)
 | .ff,.bool false::r=>some r
 | .int k 0,.int k' 0::r=>match Ht k k' with|true=>some r|false=>none
 | .str [],.string s::r=>match s.data.toList with|[]=>some r|_=>none
 | .vJ,.nilIface::r=>some r
 | .qW,.slice none 0 0::r=>some r
 | .vW,.pointer none::r=>some r
 | .ru,.nilFunc::r=>some r
 | .zq,.map none::r=>some r
 | .ag l,cs=>zBL l cs
 |_,_=>none
def zBL:List AV->List Value->Option (List Value)
 | [],cs=>some cs
 |x::l,cs=>match zB x cs with|some r=>zBL l r|none=>none
end
theorem a8h(k:IntKind):KF k 0:=by cases k <;> simp[KF,IntKind.min,IntKind.max,IntKind.signed,IntKind.bits]
mutual
theorem a1W{w:World}{Im:Nat->Nat->Prop}:∀(A:AV) (cs r:List Value),zB A cs=some r->∃d,cs=d++r/\Rd w Im A d
 | .ag l,cs,r,h=>by have h:zBL l cs=some r:=(by simpa only[zB]using h);obtain⟨d,h1,h2⟩:=Y0 (w:=w) (Im:=Im) l cs r h;exact⟨d,h1,by simpa only[Rd]using h2⟩
 | .ff,cs,r,h=>by
   unfold zB at h;split at h <;> first|contradiction|skip
   injection h with h;subst h;exact⟨[_],rfl,by simp only[Rd]⟩
 | .int k n,cs,r,h=>by
   unfold zB at h;split at h <;> first|contradiction|skip
   split at h <;> first|contradiction|skip
   have:=xY ‹_›;subst this;cases ‹AV.int _ _=AV.int _ _›;injection h with h;subst h;exact⟨[_],rfl,by simp only[Rd];exact⟨trivial,a8h _⟩⟩
 | .str s,cs,r,h=>by
   unfold zB at h;split at h <;> first|contradiction|skip
   split at h <;> first|contradiction|skip
   rename_i hs;cases ‹AV.str _=AV.str _›;injection h with h;subst h
   refine⟨[_],rfl,?_⟩;simp only[Rd];refine⟨?_,by simp[maxL]⟩;congr 2;rw[<- hs]
 | .vJ,cs,r,h=>by
   unfold zB at h;split at h <;> first|contradiction|skip
   injection h with h;subst h;exact⟨[_],rfl,by simp only[Rd]⟩
 | .qW,cs,r,h=>by
   unfold zB at h;split at h <;> first|contradiction|skip
   injection h with h;subst h;exact⟨[_],rfl,by simp only[Rd]⟩
 | .vW,cs,r,h=>by
   unfold zB at h;split at h <;> first|contradiction|skip
   injection h with h;subst h;exact⟨[_],rfl,by simp only[Rd]⟩
 | .ru,cs,r,h=>by
   unfold zB at h;split at h <;> first|contradiction|skip
   injection h with h;subst h;exact⟨[_],rfl,by simp only[Rd]⟩
 | .zq,cs,r,h=>by
   unfold zB at h;split at h <;> first|contradiction|skip
   injection h with h;subst h;exact⟨[_],rfl,by simp only[Rd]⟩
 | .bool _,_,_,h=>by simp[zB]at h
 | .tt,_,_,h=>by simp[zB]at h
 | .dec _,_,_,h=>by simp[zB]at h
 | .uV _ _,_,_,h=>by simp[zB]at h
 | .sl _ _ _,_,_,h=>by simp[zB]at h
 | .ms _ _ _ _ _,_,_,h=>by simp[zB]at h
 | .uf _,_,_,h=>by simp[zB]at h
 | .ptr _ _ _,_,_,h=>by simp[zB]at h
 | .cp _,_,_,h=>by simp[zB]at h
 | .fn _ _,_,_,h=>by simp[zB]at h
 | .mp _,_,_,h=>by simp[zB]at h
 | .gs _ _,_,_,h=>by simp[zB]at h
 | .bm _ _,_,_,h=>by simp[zB]at h
 | .und,_,_,h=>by simp[zB]at h
theorem Y0{w:World}{Im:Nat->Nat->Prop}:∀(l:List AV) (cs r:List Value),zBL l cs=some r->∃d,cs=d++r/\DX w Im l d
 | [],cs,r,h=>by simp only[zBL]at h;injection h with h;subst h;exact⟨[],rfl,by simp only[DX]⟩
 | x::l,cs,r,h=>by
   simp only[zBL]at h;cases hx:zB x cs with
   |none=>simp[hx]at h
   |some r' =>simp only[hx]at h;obtain⟨d,h1,h2⟩:=a1W (w:=w) (Im:=Im) x cs r' hx;obtain⟨d',h3,h4⟩:=Y0 (w:=w) (Im:=Im) l r' r h;exact⟨d++d',by rw[h1,h3,bP],by simp only[DX];exact⟨d,d',rfl,h2,h4⟩⟩
end
def Jy:Value->Bool
 | .agg _=>true
 |_=>false
def b3V(P:Program):List Field->List AV->Nat->Bool
 | [],[],_=>true
 | f::fs,x::xs,n=>Nat.beq f.offset n&&Nat.beq (P.cellsOf f.type) 1&&(f.name != "_")&&(match P.underlying f.type,x with
   |some (.int q),.int q' _=>Ht q q'
   |some .string,.str _=>true
   |_,_=>false)&&b3V P fs xs (n+1)
 |_,_,_=>false
def b5K(d:Option TypeDesc):List AV->Bool
 | []=>true
 | x::xs=>(match d,x with
   |some (.int q),.int q' _=>Ht q q'
   |some .string,.str _=>true
   |_,_=>false)&&b5K d xs
def b54(P:Program)(k:Nat)(sh:AV):Bool :=
 match P.underlying k,sh with
 |some (.int q),.int q' _=>Ht q q'
 |some .string,.str _=>true
 |some (.struct fs),.ag zs=>P.keyTypeAt 2 k&&P.keyType k&&P.tiled 2 k&&Nat.ble 1 P.types.size&&Nat.beq (P.cellsOf k) zs.length&&b3V P fs.toList zs 0
 |some (.array n e),.ag zs=>P.keyTypeAt 2 k&&P.keyType k&&P.tiled 2 k&&Nat.ble 1 P.types.size&&Nat.beq (P.cellsOf k) zs.length&&(Nat.beq n zs.length&&Nat.beq (P.cellsOf e) 1&&b5K (P.underlying e) zs)
 |_,_=>false
theorem b2t{P:Program}{w:World}{Im:Nat->Nat->Prop}{f:Field}{x y:AV}{c:List Value}{D:Nat}(h:(match P.underlying f.type,x with
  |some (.int q),.int q' _=>Ht q q'
  |some .string,.str _=>true
  |_,_=>false)=true) (hs:qR x y=true) (hr:Rd w Im y c):c.length=1/\∃a,P.keyLits (D+1) f.type c=some a:=by
 split at h
 ·rename_i q q' n hq;obtain rfl:=xY h;cases y <;> first|(simp[qR]at hs;done)|skip
  obtain rfl:=xY hs;simp only[Rd]at hr;obtain⟨rfl,hi⟩:=hr;rename_i m;refine⟨rfl,[.int q m],?_⟩;unfold Program.keyLits;simp only[hq];rw[aG ⟨trivial,by simpa[Lit.wf,KF]using hi⟩]
 ·rename_i hq;cases y <;> first|(simp[qR]at hs;done)|skip
  rename_i s;simp only[Rd]at hr;obtain⟨rfl,hi⟩:=hr;refine⟨rfl,[.string s],?_⟩;unfold Program.keyLits;simp only[hq];have hi':s.length<=maxLen:=hi;rw[aG (by simpa[ByteArray.size]using hi')]
 cases h
theorem a6c{P:Program}{w:World}{Im:Nat->Nat->Prop}{D:Nat}{cs:List Value}:∀{fs:List Field} {xs ys:List AV} {n:Nat},b3V P fs xs n=true->uy xs ys=true->DX w Im ys (cs.drop n) ->
  (∃ as,(fs.mapM fun f=>P.keyLits (D+1) f.type ((cs.drop f.offset).take (P.cellsOf f.type)))=some as)/\(cs.drop n).length=xs.length/\fs.all (·.name != "_")=true
 | [],[],ys,n,_,hs,hr=>by
   cases ys with
   |nil=>simp only[DX]at hr;exact⟨⟨[],rfl⟩,by rw[hr];rfl,rfl⟩
   |cons y ys=>simp[uy]at hs
 | [],_::_,_,_,h,_,_=>by simp[b3V]at h
 |_::_,[],_,_,h,_,_=>by simp[b3V]at h
 | f::fs,x::xs,ys,n,h,hs,hr=>by
   cases ys with
   |nil=>simp[uy]at hs
   |cons y ys =>simp only[b3V,aN]at h;obtain⟨⟨⟨⟨h1,h2⟩,h3⟩,h4⟩,h5⟩:=h;simp only[uy,aN]at hs;simp only[DX]at hr;obtain⟨c,d,e,g1,g2⟩:=hr;obtain⟨k1,a,k2⟩:=b2t (D:=D) h4 hs.1 g1;have hd:cs.drop (n+1)=d:=(by rw[<- kL,e,jQ aj,aX aj,eG]);obtain⟨⟨as,m1⟩,m2,m3⟩:=a6c (P:=P) (D:=D) (cs:=cs) (n:=n+1) h5 hs.2 (by rw[hd];exact g2);have h1:=aK h1;have h2:=aK h2;have ht:(cs.drop f.offset).take (P.cellsOf f.type)=c:=(by rw[h1,h2,e,iE aj,bf aj]);refine⟨⟨a::as,?_⟩,?_,?_⟩;{rw[lG,ht,k2,m1];rfl};{rw[e,bn,k1,<- hd,m2,dW];omega};simp only[nS,aN];exact⟨h3,m3⟩
theorem mapM_some{α β:Type}{f:α->Option β}:∀{l:List α},(∀x∈l,∃a,f x=some a)->∃as,l.mapM f=some as
 | [],_=>⟨[],rfl⟩
 |x::l,h=>by obtain⟨a,ha⟩:=h x ak;obtain⟨as,h'⟩:=mapM_some (l:=l) λy hy=>h y (by simp[hy]);exact⟨a::as,by rw[lG,ha,h'];rfl⟩
theorem a9h{P:Program}{w:World}{Im:Nat->Nat->Prop}{t:Nat}{x y:AV}{c:List Value}{D:Nat}(h:(match P.underlying t,x with
  |some (.int q),.int q' _=>Ht q q'
  |some .string,.str _=>true
  |_,_=>false)=true) (hs:qR x y=true) (hr:Rd w Im y c):c.length=1/\∃a,P.keyLits (D+1) t c=some a:=by
 split at h
 ·rename_i q q' n hq;obtain rfl:=xY h;cases y <;> first|(simp[qR]at hs;done)|skip
  obtain rfl:=xY hs;simp only[Rd]at hr;obtain⟨rfl,hi⟩:=hr;rename_i m;refine⟨rfl,[.int q m],?_⟩;unfold Program.keyLits;simp only[hq];rw[aG ⟨trivial,by simpa[Lit.wf,KF]using hi⟩]
 ·rename_i hq;cases y <;> first|(simp[qR]at hs;done)|skip
  rename_i s;simp only[Rd]at hr;obtain⟨rfl,hi⟩:=hr;refine⟨rfl,[.string s],?_⟩;unfold Program.keyLits;simp only[hq];have hi':s.length<=maxLen:=hi;rw[aG (by simpa[ByteArray.size]using hi')]
 cases h
theorem a2K {P:Program} {w:World} {Im:Nat->Nat->Prop} {D e:Nat}:∀{xs ys:List AV} {cs:List Value},b5K (P.underlying e) xs=true->uy xs ys=true->DX w Im ys cs ->
  cs.length=xs.length/\∀i,i<cs.length->∃a,P.keyLits (D+1) e ((cs.drop i).take 1)=some a
 | [],ys,cs,_,hs,hr=>by
   cases ys with
   |nil=>simp only[DX]at hr;subst hr;exact⟨rfl,λi hi=>by simp at hi⟩
   |cons y ys=>simp[uy]at hs
 | x::xs,ys,cs,h,hs,hr=>by
   cases ys with
   |nil=>simp[uy]at hs
   | cons y ys =>
     simp only[b5K,aN]at h;simp only[uy,aN]at hs;simp only[DX]at hr;obtain⟨c,d,rfl,g1,g2⟩:=hr;obtain⟨k1,a,k2⟩:=a9h (D:=D) h.1 hs.1 g1;obtain⟨m1,m2⟩:=a2K (P:=P) (D:=D) (e:=e) h.2 hs.2 g2;refine⟨by simp[k1,m1];omega,λi hi=>?_⟩;cases i with
     |zero=>exact⟨a,by rw[fD,iE aj,bf aj];exact k2⟩
     | succ i =>
       obtain⟨a',h'⟩:=m2 i (by simp[k1]at hi;omega);refine⟨a',?_⟩;have:(c++d).drop (i+1)=d.drop i:=by
        match c,k1 with
        | [v],_=>rfl
       rw[this];exact h'
theorem a3X{P:Program}{k:Nat}{sh:AV}(h:b54 P k sh=true):b0p P k sh:=by
 unfold b54 at h;split at h
 ·rename_i q q' n hq;obtain rfl:=xY h;refine⟨Go.Maps.int_keyed hq,λw Im A v hs hv hr=>?_⟩;cases A <;> first|(simp[qR]at hs;done)|skip
  obtain rfl:=xY hs;rename_i m;simp only[Rd]at hr;have hc:=hv.2 rfl;rw[hc]at hr;have hv':v=.int q m:=(by simpa using hr.1);subst hv';exact⟨_,Go.Maps.keyOf_int_mk hq (by simpa[Lit.wf,KF]using hr.2)⟩
 ·rename_i hq;refine⟨Go.Maps.string_keyed hq,λw Im A v hs hv hr=>?_⟩;cases A <;> first|(simp[qR]at hs;done)|skip
  rename_i m;simp only[Rd]at hr;have hc:=hv.2 rfl;rw[hc]at hr;have hv':v=.string ⟨m.toArray⟩:=by simpa using hr.1
  subst hv';refine⟨.string m,?_⟩;simp only[keyOf,hq,mapKey];have hi':m.length<=maxLen:=hr.2;rw[aG (by simpa[ByteArray.size]using hi')]
 ·rename_i fs zs hq;simp only[aN]at h;obtain⟨⟨⟨⟨⟨h1,h2⟩,h3⟩,h4⟩,h5⟩,h6⟩:=h;have h4:=bI h4;have h5:=aK h5;have hwide:(match P.underlying k with|some (.array _ _)|some (.struct _)=>true|_=>false)=true:=by rw[hq]
  refine⟨Go.Maps.Keyed.of_law (deep_law (m:=2) aj h1 h3 hwide),λw Im A v hs hv hr=>?_⟩;cases A <;> first|(simp[qR]at hs;done)|skip
  rename_i l;obtain⟨cs,rfl⟩:=hv.1 rfl;have hr:DX w Im l cs.toList:=by simpa only[Rd,Value.cells]using hr
  obtain⟨D,hD⟩:∃D,P.types.size=D+1:=⟨P.types.size-1,aj⟩;obtain⟨⟨as,m1⟩,m2,m3⟩:=a6c (P:=P) (D:=D) (cs:=cs.toList) (n:=0) h6 hs (by simpa using hr);have hsz:cs.size=P.cellsOf k:=(by rw[h5];simpa using m2);have hform:(Value.agg cs).formed P k=true:=(by simp[Value.formed,hq,hsz]);unfold keyOf;simp only[hq,h2,hform,jw,if_true,Value.cells];rw[hD];have:P.keyLits (D+1+1) k cs.toList=some as.flatten:=by
   conv=>lhs;unfold Program.keyLits
   simp only[hq];rw[aG ⟨by simpa using hsz,by simpa using m3⟩,m1];rfl
  rw[this];exact⟨_,rfl⟩
 ·rename_i n e zs hq;simp only[aN]at h;obtain⟨⟨⟨⟨⟨h1,h2⟩,h3⟩,h4⟩,h5⟩,⟨g1,g2⟩,g3⟩:=h;have h4:=bI h4;have h5:=aK h5;have g1:=aK g1;have g2:=aK g2;have hwide:(match P.underlying k with|some (.array _ _)|some (.struct _)=>true|_=>false)=true:=by rw[hq]
  refine⟨Go.Maps.Keyed.of_law (deep_law (m:=2) aj h1 h3 hwide),λw Im A v hs hv hr=>?_⟩;cases A <;> first|(simp[qR]at hs;done)|skip
  rename_i l;obtain⟨cs,rfl⟩:=hv.1 rfl;have hr:DX w Im l cs.toList:=by simpa only[Rd,Value.cells]using hr
  obtain⟨D,hD⟩:∃D,P.types.size=D+1:=⟨P.types.size-1,aj⟩;obtain⟨m1,m2⟩:=a2K (P:=P) (D:=D) (e:=e) g3 hs hr;have hsz:cs.size=P.cellsOf k:=(by rw[h5];simpa using m1);have hform:(Value.agg cs).formed P k=true:=(by simp[Value.formed,hq,hsz]);unfold keyOf;simp only[hq,h2,hform,jw,if_true,Value.cells];rw[hD];obtain⟨as,m3⟩:=mapM_some (l:=List.range n) (f:=λi=>P.keyLits (D+1) e ((cs.toList.drop (i*P.cellsOf e)).take (P.cellsOf e))) λi hi=>(by rw[g2,iP];exact m2 i (by rw[m1,<- g1];simpa using hi));have:P.keyLits (D+1+1) k cs.toList=some as.flatten:=by
   conv=>lhs;unfold Program.keyLits
   simp only[hq];rw[aG (by simpa using hsz),m3];rfl
  rw[this];exact⟨_,rfl⟩
 cases h
def b3U(P:Program):List Field->List AV->Nat->Bool
 | [],[],_=>true
 | f::fs,x::xs,n=>Nat.beq f.offset n&&Nat.beq (P.cellsOf f.type) 1&&(f.name != "_")&&(match P.underlying f.type,x with
   |some (.int q),.int q' _=>Ht q q'
   |some .string,.str _=>true
   |some .bool,.ff=>true
   |_,_=>false)&&b3U P fs xs (n+1)
 |_,_,_=>false
def b5J(P:Program)(d:Option TypeDesc):List AV->Bool
 | []=>true
 | x::xs=>(match d,x with
   |some (.int q),.int q' _=>Ht q q'
   |some .string,.str _=>true
   |some .bool,.ff=>true
   |_,_=>false)&&b5J P d xs
def b6y(P:Program)(t:Nat)(zs:List AV):Bool :=
 P.keyTypeAt 2 t&&P.keyType t&&P.tiled 2 t&&Nat.ble 1 P.types.size&&Nat.beq (P.cellsOf t) zs.length && !P.eqGuardType P.depth t&&(match P.underlying t with
 |some (.struct fs)=>b3U P fs.toList zs 0
 |some (.array n e)=>Nat.beq n zs.length&&Nat.beq (P.cellsOf e) 1&&b5J P (P.underlying e) zs
 |_=>false)
theorem a2j{P:Program}{w:World}{Im:Nat->Nat->Prop}{t:Nat}{x y:AV}{c:List Value}{D:Nat}(h:(match P.underlying t,x with
  |some (.int q),.int q' _=>Ht q q'
  |some .string,.str _=>true
  |some .bool,.ff=>true
  |_,_=>false)=true) (hs:Aw x y=true) (hr:Rd w Im y c):c.length=1/\∃a,P.keyLits (D+1) t c=some a:=by
 split at h
 ·rename_i q q' n hq;obtain rfl:=xY h;cases y <;> first|(simp[Aw]at hs;done)|skip
  obtain rfl:=xY hs;simp only[Rd]at hr;obtain⟨rfl,hi⟩:=hr;rename_i m;refine⟨rfl,[.int q m],?_⟩;unfold Program.keyLits;simp only[hq];rw[aG ⟨trivial,by simpa[Lit.wf,KF]using hi⟩]
 ·rename_i hq;cases y <;> first|(simp[Aw]at hs;done)|skip
  rename_i s;simp only[Rd]at hr;obtain⟨rfl,hi⟩:=hr;refine⟨rfl,[.string s],?_⟩;unfold Program.keyLits;simp only[hq];have hi':s.length<=maxLen:=hi;rw[aG (by simpa[ByteArray.size]using hi')]
 ·rename_i hq;have:∃b,c=[.bool b]:=by
   cases y <;> first|(simp[Aw]at hs;done)|skip
   ·simp only[Rd]at hr;exact⟨_,hr⟩
   ·simp only[Rd]at hr;exact⟨_,hr⟩
   ·simp only[Rd]at hr;exact⟨_,hr⟩
   simp only[Rd]at hr;obtain⟨b,h,_⟩:=hr;exact⟨b,h⟩
  obtain⟨b,rfl⟩:=this;refine⟨rfl,[.bool b],?_⟩;unfold Program.keyLits;simp only[hq]
 cases h
theorem a2H{P:Program}{w:World}{Im:Nat->Nat->Prop}{D:Nat}{cs:List Value}:∀{fs:List Field} {xs ys:List AV} {n:Nat},b3U P fs xs n=true->yF xs ys=true->DX w Im ys (cs.drop n) ->
  (∃ as,(fs.mapM fun f=>P.keyLits (D+1) f.type ((cs.drop f.offset).take (P.cellsOf f.type)))=some as)/\(cs.drop n).length=xs.length/\fs.all (·.name != "_")=true
 | [],[],ys,n,_,hs,hr=>by
   cases ys with
   |nil=>simp only[DX]at hr;exact⟨⟨[],rfl⟩,by rw[hr];rfl,rfl⟩
   |cons y ys=>simp[yF]at hs
 | [],_::_,_,_,h,_,_=>by simp[b3U]at h
 |_::_,[],_,_,h,_,_=>by simp[b3U]at h
 | f::fs,x::xs,ys,n,h,hs,hr=>by
   cases ys with
   |nil=>simp[yF]at hs
   | cons y ys =>
     simp only[b3U,aN]at h;obtain⟨⟨⟨⟨h1,h2⟩,h3⟩,h4⟩,h5⟩:=h;simp only[yF]at hs;cases qx:Aw x y with
     |false=>simp[qx]at hs
     |true =>
     rw[qx]at hs;simp only[DX]at hr;obtain⟨c,d,e,g1,g2⟩:=hr;obtain⟨k1,a,k2⟩:=a2j (D:=D) h4 qx g1;have hd:cs.drop (n+1)=d:=(by rw[<- kL,e,jQ aj,aX aj,eG]);obtain⟨⟨as,m1⟩,m2,m3⟩:=a2H (P:=P) (D:=D) (cs:=cs) (n:=n+1) h5 hs (by rw[hd];exact g2);have h1:=aK h1;have h2:=aK h2;have ht:(cs.drop f.offset).take (P.cellsOf f.type)=c:=(by rw[h1,h2,e,iE aj,bf aj]);refine⟨⟨a::as,?_⟩,?_,?_⟩;{rw[lG,ht,k2,m1];rfl};{rw[e,bn,k1,<- hd,m2,dW];omega};simp only[nS,aN];exact⟨h3,m3⟩
theorem a2J {P:Program} {w:World} {Im:Nat->Nat->Prop} {D e:Nat}:∀{xs ys:List AV} {cs:List Value},b5J P (P.underlying e) xs=true->yF xs ys=true->DX w Im ys cs ->
  cs.length=xs.length/\∀i,i<cs.length->∃a,P.keyLits (D+1) e ((cs.drop i).take 1)=some a
 | [],ys,cs,_,hs,hr=>by
   cases ys with
   |nil=>simp only[DX]at hr;subst hr;exact⟨rfl,λi hi=>by simp at hi⟩
   |cons y ys=>simp[yF]at hs
 | x::xs,ys,cs,h,hs,hr=>by
   cases ys with
   |nil=>simp[yF]at hs
   | cons y ys =>
     simp only[b5J,aN]at h;simp only[yF]at hs;cases qx:Aw x y with
     |false=>simp[qx]at hs
     |true =>
     rw[qx]at hs;simp only[DX]at hr;obtain⟨c,d,rfl,g1,g2⟩:=hr;obtain⟨k1,a,k2⟩:=a2j (D:=D) h.1 qx g1;obtain⟨m1,m2⟩:=a2J (P:=P) (D:=D) (e:=e) h.2 hs g2;refine⟨by simp[k1,m1];omega,λi hi=>?_⟩;cases i with
     |zero=>exact⟨a,by rw[fD,iE aj,bf aj];exact k2⟩
     | succ i =>
       obtain⟨a',h'⟩:=m2 i (by simp[k1]at hi;omega);refine⟨a',?_⟩;have:(c++d).drop (i+1)=d.drop i:=by
        match c,k1 with
        | [v],_=>rfl
       rw[this];exact h'
theorem a4i{P:Program}{t:Nat}{zs:List AV}(h:b6y P t zs=true):b7n P t zs:=by
 unfold b6y at h;simp only[aN]at h;obtain⟨⟨⟨⟨⟨⟨h1,h2⟩,h3⟩,h4⟩,h5⟩,h6⟩,h7⟩:=h;have h4:=bI h4;have h5:=aK h5;obtain⟨D,hD⟩:∃D,P.types.size=D+1:=⟨P.types.size-1,aj⟩;have hwide:(match P.underlying t with|some (.array _ _)|some (.struct _)=>true|_=>false)=true:=by split at h7 <;> first|(rename_i hq;rw[hq])|cases h7
 have rd:∀w Im l (cs:Array Value),yF zs l=true->DX w Im l cs.toList->∃k,keyOf P t (.agg cs)=some k:=by
  intro w Im l cs hs hr;split at h7
  ·rename_i fs hq;obtain⟨⟨as,m1⟩,m2,m3⟩:=a2H (P:=P) (D:=D) (cs:=cs.toList) (n:=0) h7 hs (by simpa using hr);have hsz:cs.size=P.cellsOf t:=by rw[h5];simpa using m2
   have hform:(Value.agg cs).formed P t=true:=(by simp[Value.formed,hq,hsz]);unfold keyOf;simp only[hq,h2,hform,jw,if_true,Value.cells];rw[hD];have:P.keyLits (D+1+1) t cs.toList=some as.flatten:=by
    conv=>lhs;unfold Program.keyLits
    simp only[hq];rw[aG ⟨by simpa using hsz,by simpa using m3⟩,m1];rfl
   rw[this];exact⟨_,rfl⟩
  ·rename_i n e hq;simp only[aN]at h7;obtain⟨⟨g1,g2⟩,g3⟩:=h7;have g1:=aK g1;have g2:=aK g2;obtain⟨m1,m2⟩:=a2J (P:=P) (D:=D) (e:=e) g3 hs hr;have hsz:cs.size=P.cellsOf t:=by rw[h5];simpa using m1
   have hform:(Value.agg cs).formed P t=true:=(by simp[Value.formed,hq,hsz]);unfold keyOf;simp only[hq,h2,hform,jw,if_true,Value.cells];rw[hD];obtain⟨as,m3⟩:=mapM_some (l:=List.range n) (f:=λi=>P.keyLits (D+1) e ((cs.toList.drop (i*P.cellsOf e)).take (P.cellsOf e))) λi hi=>(by rw[g2,iP];exact m2 i (by rw[m1,<- g1];simpa using hi));have:P.keyLits (D+1+1) t cs.toList=some as.flatten:=by
    conv=>lhs;unfold Program.keyLits
    simp only[hq];rw[aG (by simpa using hsz),m3];rfl
   rw[this];exact⟨_,rfl⟩
  cases h7
 refine⟨λw Im l m cs ds q1 q2 r1 r2=>?_,by simpa using h6⟩;obtain⟨lx,e1⟩:=rd w Im l cs q1 r1;obtain⟨ly,e2⟩:=rd w Im m ds q2 r2;obtain⟨r,hrun,hiff⟩:=run_equal_deep w (m:=2) aj h1 hwide e1 e2;refine⟨r,hrun,hiff.trans ⟨λe=>?_,λe=>?_⟩⟩;{have K:=deep_law (m:=2) aj h1 h3 hwide;have:=K.inj (e1.trans (by rw[e])) e2;exact(Value.agg.injEq _ _).mp this};subst e;exact aW (e1.symm.trans e2)
def tiB(P:Program)(t:Nat)(i:TI):Bool :=
 (match i.cmp,i.zero with
 |true,.ag zs=>b6y P t zs
 |_,_=>true) &&
 (match i.desc,i.key with
 | .map k _,some sh=>b54 P k sh
 |_,none=>true
 |_,some _=>false) &&
 (match P.info? t with
 | some x=>Nat.beq x.size (flat i.zero)&&Nat.beq x.bytes i.bytes&&(match x.zero with
   |some v=>(match zB i.zero v.cells.toList with|some []=>true|_=>false)&&(uz i.zero==Jy v) && !(match v with | .tuple _=>true|_=>false)
   |none=>false)
 |none=>false) &&
 (match P.underlying t with
 |some d=>decide (descOf P d=i.desc)
 |none=>false) &&
 (b0I i.desc==uz i.zero) &&
 (match i.desc,i.zero with
 | .struct fs,.ag zs=>decide (fs.map (λf=>(f.1,f.2.1))=KZ 0 zs)&&fs.all λf=>(P.info? f.2.2).isSome
 | .struct _,_=>false
 |_,_=>true)
theorem XF{v:Value}(h:Jy v=false):(∃vs,v=.tuple vs)\/v.cells = #[v]:=by cases v <;> first|(simp[Jy]at h;done)|exact .inl ⟨_,rfl⟩|exact .inr rfl
theorem a4X{P:Program}{t:Nat}{i:TI}(h:tiB P t i=true):Gj P t i:=by
 unfold tiB at h;simp only[aN]at h;obtain⟨⟨⟨⟨⟨hq,h0⟩,h1⟩,h2⟩,h3⟩,h4⟩:=h;refine⟨λhc zs hz=>a4i (by rw[hc,hz]at hq;exact hq),λk e sh hd hk=>a3X (by rw[hd,hk]at h0;exact h0),?_,?_,by simpa using h3,?_,?_⟩
 ·cases hx:P.info? t with
  |none=>simp[hx]at h1
  | some x =>
    simp only[hx,aN]at h1;obtain⟨⟨g1,g2⟩,g3⟩:=h1;cases hz:x.zero with
    |none=>simp[hz]at g3
    |some v =>simp only[hz,aN]at g3;obtain⟨⟨g4,g5⟩,g6⟩:=g3;refine⟨x,v,rfl,aK g1,aK g2,hz,⟨λhA=>?_,λhA=>?_⟩,λw Im=>?_⟩;{rw[hA]at g5;cases v <;> simp[Jy]at g5;exact⟨_,rfl⟩};{rw[hA]at g5;rcases XF (v:=v) (by simpa using g5)with⟨vs,rfl⟩|h;{simp at g6};exact h};split at g4;{obtain⟨d,e1,e2⟩:=a1W (w:=w) (Im:=Im) _ _ _ ‹_›;rw[e1,iT];exact e2};cases g4
 ·cases hd:P.underlying t with
  |none=>simp[hd]at h2
  |some d=>simp only[hd]at h2;simp[eu h2]
 ·intro fs hfs;rw[hfs]at h4;cases hz:i.zero <;> simp only[hz]at h4 <;> first|(cases h4;done)|skip
  simp only[aN]at h4;exact⟨_,rfl,eu h4.1⟩
 intro fs hfs f hf;rw[hfs]at h4;cases hz:i.zero <;> simp only[hz]at h4 <;> first|(cases h4;done)|skip
 simp only[aN]at h4;have:=bF.1 h4.2 f hf;exact Option.isSome_iff_exists.1 this
def b5G(P:Program):Lay->Bool
 | .nil=>true
 | .node l t i r=>b5G P l&&tiB P t i&&b5G P r
theorem OJ{P:Program}:∀{L:Lay},b5G P L=true->uo P L
 | .nil,_=>trivial
 | .node l t i r,h=>by simp only[b5G,aN]at h;exact⟨a4X h.1.2,OJ h.1.1,OJ h.2⟩
end Go.AL
namespace Go.AL
def a8R:List Nat->Nat->Bool
 | [],_=>false
 |x::l,t=>match Nat.beq x t with|true=>true|false=>a8R l t
theorem WA{t:Nat}:∀{l:List Nat},a8R l t=false->t ∉ l
 | [],_=>ak
 | x::l,h=>by
   simp only[a8R]at h;cases hb:Nat.beq x t with
   |true=>rw[hb]at h;cases h
   |false =>rw[hb]at h;have:=xw hb;simp only[aT,not_or];exact⟨λe=>this e.symm,WA h⟩
def keep(ws:List Nat):Env->Env
 | []=>[]
 | (t,A)::e=>match a8R ws t with
   |true=>keep ws e
   |false=>(t,A)::keep (t::ws) e
def ZO(ws:List Nat):Env->(Env->Prop)->Prop
 | [],k=>k []
 | (t,A)::e,k=>match a8R ws t with
   |true=>ZO ws e k
   |false=>ZO (t::ws) e λm=>k ((t,A)::m)
theorem RV:∀{e:Env} {ws:List Nat} {k:Env->Prop},ZO ws e k↔k (keep ws e)
 | [],_,_=>jr
 | (t,A)::e,ws,k=>by
   simp only[ZO,keep];cases a8R ws t with
   |true=>exact RV
   |false=>exact RV
theorem WV:∀{e:Env} {ws:List Nat} {t:Nat} {A:AV},(t,A)∈keep ws e->uY e t=some A/\t ∉ ws
 | [],_,_,_,h=>by simp[keep]at h
 | (i,B)::e,ws,t,A,h=>by
   simp only[keep]at h;cases hm:a8R ws i with
   | true =>
     rw[hm]at h;obtain⟨h1,h2⟩:=WV h;have hne:i≠t:=by
      intro e;subst e;have hf:∀{l:List Nat},i ∉ l->a8R l i=false:=by
       intro l;induction l with
       |nil=>intro _;rfl
       | cons x l ih =>
         intro hn;simp only[aT,not_or]at hn;simp only[a8R];cases hb:Nat.beq x i with
         |true=>exact absurd (aK hb).symm hn.1
         |false=>exact ih hn.2
      rw[hf h2]at hm;cases hm
     simp only[uY];cases hb:Nat.beq i t with
     |true=>exact absurd (aK hb) hne
     |false=>exact⟨h1,h2⟩
   | false =>
     rw[hm]at h;rcases aT.1 h with h|h;{simp at h;obtain⟨rfl,rfl⟩:=h;exact⟨by simp[uY],WA hm⟩};obtain⟨h1,h2⟩:=WV h;simp only[aT,not_or]at h2;simp only[uY];cases hb:Nat.beq i t with
     |true=>exact absurd (aK hb).symm h2.1
     |false=>exact⟨h1,h2.2⟩
def b5q:Env->Env->(Env->Prop)->Prop
 | [],m,k=>k m
 |x::l,m,k=>b5q l m λl'=>k (x::l')
theorem a3p{m:Env}{k:Env->Prop}:∀{l:Env},b5q l m k↔k (l++m)
 | []=>jr
 |x::l=>by simp only[b5q];exact a3p
def OkE:Env->Prop
 | []=>True
 |(_,A)::e=>Ok A/\OkE e
theorem b1g:∀{e:Env},(∀t A,(t,A)∈e->Ok A)->OkE e
 | [],_=>trivial
 |(t,A)::e,h=>⟨h t A ak,b1g λt A hm=>h t A (by simp[hm])⟩
theorem qM.run{ws:List Nat}{body:(AX->Env->Heap->Prop)->Env->Heap->Prop}{Q:AX->Env->Heap->Prop}{e:Env}{H:Heap}{e₁:Env}{H₁:Heap}
  (cv:Cv e H e₁ H₁) (ι:Type) (E:ι->Env) (HS:ι->Heap) (μ:ι->Nat) (i₀:ι) (hn:∀i,nextId (HS i)=nextId H₁) (h0:WkE e₁ (nextId H₁) (E i₀)/\HWk H₁ (HS i₀))
  (OQ:∀i,OkE (E i)->ZO ws e₁ λkept=>b5q (E i) kept λe'=>body (λx e' H'=>match x with
    | .normal=>∃i',(WkE e' (nextId (HS i')) (E i')/\HWk H' (HS i'))/\μ i'<μ i
    |x=>Q x e' H') e' (HS i)):qM Ok ws body Q e H:=by
 refine⟨e₁,H₁,ι,E,keep ws e₁,HS,μ,i₀,λi e' H'=>∃i',(WkE e' (nextId (HS i')) (E i')/\HWk H' (HS i'))/\μ i'<μ i,λi e' H' h=>?_,cv,λt A hm=>?_,hn,h0,λi hi=>?_⟩;{obtain⟨i',h1,h2⟩:=h;exact⟨i',e',H',.refl _ _,h1,h2⟩};{obtain⟨h1,h2⟩:=WV hm;exact⟨h1,by simpa using h2⟩};exact a3p.1 (RV.1 (OQ i (b1g hi)))
end Go.AL
namespace Go.AL
theorem qM.inv{ws:List Nat}{body:(AX->Env->Heap->Prop)->Env->Heap->Prop}{Q:AX->Env->Heap->Prop}{e:Env}{H:Heap}{e₁:Env}{H₁:Heap}
  (cv:Cv e H e₁ H₁) {ι:Type} (Inv:ι->Prop) (E:ι->Env) (HS:ι->Heap) (μ:ι->Nat) (i₀:ι) (hI:Inv i₀) (hn:∀i,nextId (HS i)=nextId H₁) (h0:WkE e₁ (nextId H₁) (E i₀)/\HWk H₁ (HS i₀))
  (OQ:∀i,Inv i->OkE (E i)->ZO ws e₁ λkept=>b5q (E i) kept λe'=>body (λx e' H'=>match x with
    | .normal=>∃i',Inv i'/\(WkE e' (nextId (HS i')) (E i')/\HWk H' (HS i'))/\μ i'<μ i
    |x=>Q x e' H') e' (HS i)):qM Ok ws body Q e H:=by
 refine qM.run cv { i:ι // Inv i } (λi=>E i.1) (λi=>HS i.1) (λi=>μ i.1) ⟨i₀,hI⟩ (λi=>hn i.1) h0 λi hi=>?_;have:=OQ i.1 i.2 hi
 have he:(fun(x:AX) (e':Env) (H':Heap)=>match x with
       | .normal=>∃i',Inv i'/\(WkE e' (nextId (HS i')) (E i')/\HWk H' (HS i'))/\μ i'<μ i.1
       |x=>Q x e' H')=(fun(x:AX) (e':Env) (H':Heap)=>match x with
       | .normal=>∃i':{ i:ι // Inv i },(WkE e' (nextId (HS i'.1)) (E i'.1)/\HWk H' (HS i'.1))/\μ i'.1<μ i.1
       |x=>Q x e' H'):=by
  funext x e H;cases x with
  |normal=>exact propext ⟨fun⟨i',h1,h2,h3⟩=>⟨⟨i',h1⟩,h2,h3⟩,fun⟨i',h2,h3⟩=>⟨i'.1,i'.2,h2,h3⟩⟩
  |_=>rfl
 rw[he]at this;exact this
theorem qV.of{ws:List Nat}{body:(AX->Env->Heap->Prop)->Env->Heap->Prop}{Q:AX->Env->Heap->Prop}{e:Env}{H:Heap}(h:qM Ok ws body Q e H):qV Ok ws body Q e H:=.ex ⟨0,h⟩
theorem qV.step{ws:List Nat}{body:(AX->Env->Heap->Prop)->Env->Heap->Prop}{Q:AX->Env->Heap->Prop}{e:Env}{H:Heap}(n:Nat)
  (h:body (λx e' H'=>match x with | .normal=>LoopN Ok ws body Q n e' H'|x=>Q x e' H') e H):qV Ok ws body Q e H:=.ex ⟨n+1,h⟩
theorem MS{L:Lay}{e:Env}{H:Heap}:∀{res:List ResultVar} {k k':List AV->Prop},(∀As,k As->k' As)->V3 L e H res k->V3 L e H res k'
 | [],k,k',hk,h=>hk _ h
 | .tmp t::l,k,k',hk,h=>by obtain⟨A,h1,h2⟩:=yB.1 h;exact yB.2 ⟨A,h1,MS (λAs=>hk _) h2⟩
 | .cell t ty::l,k,k',hk,h=>by obtain⟨A,h1,h2⟩:=yB.1 h;refine yB.2 ⟨A,h1,?_⟩;obtain⟨R,h3,h4⟩:=Ak L ty A H _ h2;exact h4 _ (MS (λAs=>hk _) h3)
theorem Y6{l:List AV}{k k':AV->Prop}(hk:∀A,k A->k' A)(h:YC l k):YC l k':=by unfold YC at h ⊢;split;{rename_i A;exact hk _ h};rename_i hne;split at h;{exact absurd rfl (hne _)};obtain⟨h1,h2⟩:=Xn _ _ h;exact h2 _ (hk _ h1)
theorem uZ.mono{L:Lay}{res:List ResultVar}{R:AV}{e:Env}{H:Heap}(h:V3 L e H res λAs=>YC As λA=>le A R/\tq 0 R=true):uZ L res [] R [] e H:=by refine⟨e,H,.refl _ _,MS (λAs=>Y6 λA h=>?_) h⟩;exact⟨h.1,h.2,aS _,.mk trivial trivial⟩
theorem fM{L:Lay}{res:List ResultVar}{R:AV}{e:Env}{H:Heap}(h:V3 L e H res λAs=>YC As λA=>le A R/\tq 0 R=true):uZ L res [] R [] e H:=uZ.mono h
theorem aI{p q:Prop}(a:p)(b:q):p/\q:=⟨a,b⟩
theorem wR{H:Heap}:HWk H H:=.refl rfl
theorem lR(l:List AV):sS l l:=qU l
theorem bY{p A B:Prop}(h:p)(k:A):(p->A)/\(¬p->B):=⟨λ_=>k,λh'=>absurd h h'⟩
theorem bN{p A B:Prop}(h:¬p)(k:B):(p->A)/\(¬p->B):=⟨λh'=>absurd h' h,λ_=>k⟩
theorem uZ.same{L:Lay}{res:List ResultVar}{R:AV}{e:Env}{H:Heap}(h:V3 L e H res λAs=>YC As λA=>le A R/\tq (nextId H) R=true):uZ L res H R H e H:=by refine⟨e,H,.refl _ _,MS (λAs=>Y6 λA h=>?_) h⟩;exact⟨h.1,h.2,aS _,.refl rfl⟩
theorem wX.auto{F:FT}{L:Lay}{ops:List Oper}{e:Env}{H:Heap}{k:Env->Heap->Prop}(h1:TW ops (ops.map λo=>b3X o.op)=true)
  (h2:FK F L ops (ops.zip (ops.map λo=>b3X o.op)) e H k):wX F L ops e H k:=.mk ⟨_,h1,h2⟩
theorem wX.b2r {F:FT} {L:Lay} {ops:List Oper} {e:Env} {H:Heap} {k:Env->Heap->Prop} (js:List Nat) (h1:TW ops (ops.map λo=>b3X o.op)=true)
  (h2:YJ js e H λe' H'=>FK F L ops (ops.zip (ops.map λo=>b3X o.op)) e' H' k):wX F L ops e H k:=by
 refine .Xe js ?_;have mono:∀(js:List Nat) {e:Env} {H:Heap} {k k':Env->Heap->Prop},(∀e H,k e H->k' e H)->YJ js e H k->YJ js e H k':=by
  intro js;induction js with
  |nil=>intro e H k k' hk h;exact hk _ _ h
  | cons j js ih =>
    intro e H k k' hk h;simp only[YJ]at h ⊢;obtain⟨o,h1,h2⟩:=uh.1 h;refine uh.2 ⟨o,h1,?_⟩;split at h2
    ·refine⟨h2.1,?_⟩;have me:∀{e:Env} {p q:Env->Prop} (B:AV),(∀x,p x->q x)->a9d j B e p->a9d j B e q:=by
      intro e;induction e with
      |nil=>intro p q B hpq h;exact hpq _ h
      | cons x e ihe =>
        intro p q B hpq h;obtain⟨t,A⟩:=x;simp only[a9d]at h ⊢;cases hp:b0L j A with
        |false=>rw[hp]at h;exact ihe B (λ_=>hpq _) h
        |true=>rw[hp]at h;exact EP.2 (ihe B (λ_=>hpq _) (EP.1 h))
     have mh:∀{H:Heap} {p q:Heap->Prop} (B:AV),(∀x,p x->q x)->YK j B H p->YK j B H q:=by
      intro H;induction H with
      |nil=>intro p q B hpq h;exact hpq _ h
      | cons x H ihh =>
        intro p q B hpq h;obtain⟨t,o⟩:=x;simp only[YK]at h ⊢;cases hb:Nat.beq t j with
        |true=>rw[hb]at h;exact ihh B (λ_=>hpq _) h
        | false =>
          rw[hb]at h;dsimp only at h ⊢;split at h
          ·rename_i A;cases hp:b0L j A with
           |false=>rw[hp]at h;exact ihh B (λ_=>hpq _) h
           |true=>rw[hp]at h;exact EP.2 (ihh B (λ_=>hpq _) (EP.1 h))
          exact ihh B (λ_=>hpq _) h
     exact me _ (λ_=>mh _ λ_=>ih hk) h2.2
    exact h2.elim
 exact mono js (λe H h=>⟨_,h1,h⟩) h2
theorem rV{α:Type}{f:α->AV}{l:List α}{i:Nat}{k:AV->Prop}(h:i<l.length)(hk:k (f l[i])):DZ (l.map f) (i:Int) k :=
 ⟨⟨f l[i],⟨jA _,by simp[h]⟩,hk⟩⟩
theorem sK{α:Type}(d:α){f:α->AV}{l:List α}{n:Int}{k:AV->Prop}(h:0<=n/\n<(l.length:Int))(hk:k (f (l.getD n.toNat d))):DZ (l.map f) n k:=by have hlt:n.toNat<l.length:=aj;refine⟨⟨f (l.getD n.toNat d),⟨h.1,?_⟩,hk⟩⟩;simp[hlt]
theorem rQ{n:Int}(h1 : -9223372036854775808<=n)(h2:n<=9223372036854775807):KF .i64 n:=by simp[KF,IntKind.min,IntKind.max,IntKind.signed,IntKind.bits];omega
end Go.AL
namespace Go.AL
def sg:List Nat->Nat->Nat->Nat
 | [],n,k=>n+k
 |x::_,_,0=>x
 |_::l,n,k+1=>sg l n k
def ix:List Nat->Nat->Option Nat
 | [],_=>none
 | x::l,i=>match Nat.beq x i with
   |true=>some 0
   | false=>match ix l i with
     |some k=>some (k+1)
     |none=>none
mutual
def yO(σ:Nat->Nat):AV->AV
 | .ptr k p o=>.ptr (σ k) p o
 | .ms k a b c d=>.ms (σ k) a b c d
 | .mp k=>.mp (σ k)
 | .gs k n=>.gs (σ k) n
 | .bm f k=>.bm f (σ k)
 | .sl s l (.own k)=>.sl s l (.own (σ k))
 | .fn f cap=>.fn f (Us σ cap)
 | .ag l=>.ag (Us σ l)
 | .uf l=>.uf (Us σ l)
 | .uV t x=>.uV t (yO σ x)
 |A=>A
def Us(σ:Nat->Nat):List AV->List AV
 | []=>[]
 |x::l=>yO σ x::Us σ l
end
def Zm(σ:Nat->Nat):List (AV×AV)->List (AV×AV)
 | []=>[]
 |(x,y)::l=>(yO σ x,yO σ y)::Zm σ l
def rnO(σ:Nat->Nat):HO->HO
 | .box A=>.box (yO σ A)
 | .tN sh es=>.tN sh (Zm σ es)
 |o=>o
def Ci(l:List Nat)(n:Nat)(G:Heap):Heap->Heap
 | []=>[]
 | (i,o)::H=>(i,match ix l i with
   |some k=>(match hget G k with|some o'=>rnO (sg l n) o'|none=>.gone)
   |none=>o)::Ci l n G H
def newH(l:List Nat)(n:Nat):Heap->Heap->Heap
 | [],H=>H
 | (k,o)::G,H=>match Nat.ble l.length k with
   |true=>(sg l n k,rnO (sg l n) o)::newH l n G H
   |false=>H
def Rj(l:List Nat)(G H:Heap):Heap:=newH l (nextId H) G (Ci l (nextId H) G H)
def Az:Nat->Heap->Bool
 | 0,[]=>true
 |m+1,(i,_)::H=>match Nat.beq i m with|true=>Az m H|false=>false
 |_,_=>false
def nodupB:List Nat->Bool
 | []=>true
 |x::l=>match ix l x with|some _=>false|none=>nodupB l
def KA(n:Nat):List Nat->Bool
 | []=>true
 |x::l=>match Nat.blt x n with|true=>KA n l|false=>false
def b31(σ:Nat->Nat)(m:Nat)(H:Heap):Heap->Prop
 | []=>True
 |(k,o)::G=>yh H (σ k) (λo'=>leO o' (rnO σ o)/\(match o with | .tN _ es=>EZ m es=true|o=>Uz m o=true))/\b31 σ m H G
theorem VO:∀{l:List Nat} {n k:Nat},l.length<=k->sg l n k=n+(k-l.length)
 | [],n,k,_=>by simp[sg]
 |x::l,n,0,h=>by simp at h
 |x::l,n,k+1,h=>by simp only[sg];rw[VO (by simpa using h)];simp
theorem a5k:∀{l:List Nat} {n k:Nat} (h:k<l.length),sg l n k=l[k]
 | [],_,_,h=>by simp at h
 |x::l,n,0,_=>rfl
 |x::l,n,k+1,h=>by simp only[sg];rw[a5k (by simpa using h)];rfl
theorem UR:∀{l:List Nat} {i k:Nat},ix l i=some k->∃h:k<l.length,l[k]=i
 | [],_,_,h=>by simp[ix]at h
 | x::l,i,k,h=>by
   simp only[ix]at h;cases hb:Nat.beq x i with
   |true =>rw[hb]at h;obtain rfl:=aK hb;obtain rfl:=aW h;exact⟨ak,rfl⟩
   | false =>
     rw[hb]at h;cases hx:ix l i with
     |none=>simp[hx]at h
     |some j =>simp only[hx]at h;obtain rfl:=aW h;obtain⟨h1,h2⟩:=UR hx;exact⟨by simpa using h1,by simpa using h2⟩
theorem a1k:∀{l:List Nat} {i:Nat},ix l i=none->i ∉ l
 | [],_,_=>ak
 | x::l,i,h=>by
   simp only[ix]at h;cases hb:Nat.beq x i with
   |true=>rw[hb]at h;cases h
   | false =>
     rw[hb]at h;cases hx:ix l i with
     |some j=>simp[hx]at h
     |none=>simp only[aT,not_or];exact⟨λe=>xw hb e.symm,a1k hx⟩
theorem b0H:∀{l:List Nat} {k:Nat} (h:k<l.length),nodupB l=true->ix l l[k]=some k
 | [],_,h,_=>by simp at h
 |x::l,0,_,_=>by simp[ix]
 | x::l,k+1,h,hn=>by
   simp only[nodupB]at hn;cases hx:ix l x with
   |some j=>simp[hx]at hn
   | none =>
     simp only[hx]at hn;have:=b0H (l:=l) (k:=k) (by simpa using h) hn;simp only[mZ,ix,this];have hne:x≠l[k]'(by simpa using h):=λe=>a1k hx (e ▸ aQ _);cases hb:Nat.beq x (l[k]'(by simpa using h))with
     |true=>exact absurd (aK hb) hne
     |false=>rfl
theorem SK{n:Nat}:∀{l:List Nat},KA n l=true->∀x∈l,x<n
 | [],_,x,hx=>by simp at hx
 | y::l,h,x,hx=>by
   simp only[KA]at h;cases hb:Nat.blt y n with
   |false=>rw[hb]at h;cases h
   |true =>rw[hb]at h;rcases aT.1 hx with hx|hx;{subst hx;simpa using hb};exact SK h x hx
def inv(l:List Nat)(n:Nat)(i:Nat):Option Nat:=if n<=i then some (i-n+l.length)else ix l i
theorem a5U{l:List Nat}{n:Nat}(hd:nodupB l=true)(hl:KA n l=true)(k:Nat):inv l n (sg l n k)=some k:=by unfold inv;by_cases hk:k<l.length;{rw[a5k hk,aB (by have:=SK hl _ (aQ hk);omega)];exact b0H hk hd};rw[VO aj,aG aj];congr 1;omega
theorem WX{l:List Nat}{n i k:Nat}(h:inv l n i=some k):sg l n k=i:=by unfold inv at h;split at h;{obtain rfl:=aW h;rw[VO aj];omega};obtain⟨h1,h2⟩:=UR h;rw[a5k h1,h2]
theorem b4b{l:List Nat}{n:Nat}(hd:nodupB l=true)(hl:KA n l=true){j k:Nat}(h:sg l n j=sg l n k):j=k:=by have h1:=a5U hd hl j;rw[h,a5U hd hl k]at h1;exact(aW h1).symm
theorem b1w{l:List Nat}{n k:Nat}(hl:KA n l=true)(hk:k<l.length):sg l n k<n:=by rw[a5k hk];exact SK hl _ (aQ hk)
theorem a2C{l:List Nat}{n:Nat}{G:Heap}:∀{H:Heap} {i:Nat},hget (Ci l n G H) i=(hget H i).map λo=>match ix l i with
  |some k=>(match hget G k with|some o'=>rnO (sg l n) o'|none=>.gone)
  |none=>o
 | [],_=>rfl
 | (j,o)::H,i=>by
   simp only[Ci,hget];cases hb:Nat.beq j i with
   |true=>obtain rfl:=aK hb;rfl
   |false=>exact a2C
theorem a4R{l:List Nat}{n:Nat}{G:Heap}:∀{H:Heap},uQ H->uQ (Ci l n G H)/\(∀x∈Ci l n G H,∃y∈H,y.1=x.1)/\nextId (Ci l n G H)=nextId H
 | [],_=>⟨trivial,by simp[Ci],rfl⟩
 |(j,o)::H,h=>by simp only[uQ]at h;obtain⟨h1,h2,_⟩:=a4R (l:=l) (n:=n) (G:=G) h.2;refine⟨?_,?_,rfl⟩;{simp only[Ci,uQ];refine⟨λx hx=>?_,h1⟩;obtain⟨y,hy,he⟩:=h2 x hx;rw[<- he];exact h.1 y hy};intro x hx;simp only[Ci,aT]at hx;rcases hx with rfl|hx;{exact⟨(j,o),ak,rfl⟩};obtain⟨y,hy,he⟩:=h2 x hx;exact⟨y,by simp[hy],he⟩
theorem a5D{l:List Nat}{n:Nat}{U:Heap}(hU:uQ U)(hn:nextId U=n):∀{G:Heap},uQ G ->
  uQ (newH l n G U)/\(∀x∈newH l n G U,x∈U\/∃k o,(k,o)∈G/\l.length<=k/\x=(sg l n k,rnO (sg l n) o))/\(l.length<=nextId G->nextId (newH l n G U)=n+(nextId G-l.length))
 | [],_=>⟨hU,λx hx=>.inl hx,λh=>by show nextId U=n+(0-l.length);omega⟩
 | (k,o)::G,hG=>by
   simp only[uQ]at hG;obtain⟨h1,h2,h3⟩:=a5D (l:=l) hU hn hG.2;simp only[newH];cases hb:Nat.ble l.length k with
   | false =>
     refine⟨hU,λx hx=>.inl hx,λh=>?_⟩;have:¬l.length<=k:=λh=>by rw[gU h]at hb;cases hb
     show nextId U=n+(k+1-l.length);have h:l.length<=k+1:=h;omega
   |true =>have hk:=bI hb;refine⟨⟨λx hx=>?_,h1⟩,λx hx=>?_,λ_=>?_⟩;{rw[VO hk];rcases h2 x hx with hx|⟨k',o',hm,hk',rfl⟩;{have:=sG hU x hx;omega};have:=hG.1 _ hm;rw[VO hk'];simp at this ⊢;omega};{rcases aT.1 hx with rfl|hx;{exact .inr ⟨k,o,ak,hk,rfl⟩};rcases h2 x hx with hx|⟨k',o',hm,hk',rfl⟩;{exact .inl hx};exact .inr ⟨k',o',by simp[hm],hk',rfl⟩};simp only[nextId];rw[VO hk];omega
theorem Ig{σ:Nat->Nat}(A:AV):uz (yO σ A)=uz A:=by cases A <;> first|rfl|(rename_i t;cases t <;> rfl)
section
variable{c d:Cx}{σ:Nat->Nat}{m:Nat}
mutual
theorem JH(hw:d.w=c.w)(hI:d.Im=c.Im)(hm:d.nx=m)(hρ:∀k,k<m->d.ρ k=c.ρ (σ k))(htk:∀k,k<m->d.tk k=c.tk (σ k))(htp:∀k n,k<m->d.tp k=some n->c.tp (σ k)=some n) :
  ∀(A:AV) (cs:List Value),tq m A=true->VR c (yO σ A) cs->VR d A cs
 | .ptr k p o,cs,hb,h=>by have hk:k<m:=(by simpa[tq]using hb);simp only[yO,VR]at h ⊢;rw[hm,hρ k hk];exact⟨hk,h.2⟩
 | .ms k _ _ _ _,cs,hb,h=>by have hk:k<m:=(by simpa[tq]using hb);simp only[yO,VR]at h ⊢;rw[hm,hρ k hk];exact⟨hk,h.2⟩
 | .mp k,cs,hb,h=>by have hk:k<m:=(by simpa[tq]using hb);simp only[yO,VR]at h ⊢;rw[hm,hρ k hk];exact⟨hk,h.2⟩
 | .bm f k,cs,hb,h=>by have hk:k<m:=(by simpa[tq]using hb);simp only[yO,VR]at h ⊢;rw[hm,hρ k hk];exact⟨hk,h.2⟩
 | .gs k _,cs,hb,h=>by have hk:k<m:=(by simpa[tq]using hb);simp only[yO,VR]at h ⊢;rw[hm,htk k hk];exact⟨hk,h.2.1,λn hn=>h.2.2 n (htp k n hk hn)⟩
 | .sl s l (.own k),cs,hb,h=>by have hk:k<m:=(by simpa[tq]using hb);simp only[yO,VR]at h ⊢;rw[hw,hI,hm,htk k hk];exact⟨hk,h.2.1,λn hn=>h.2.2 n (htp k n hk hn)⟩
 | .fn f cap,cs,hb,h=>by simp only[tq]at hb;simp only[yO,VR]at h ⊢;obtain⟨vs,h1,h2⟩:=h;exact⟨vs,h1,VX hw hI hm hρ htk htp cap vs hb h2⟩
 | .ag l,cs,hb,h=>by simp only[tq]at hb;simp only[yO,VR]at h ⊢;exact a2f hw hI hm hρ htk htp l cs hb h
 | .uf l,cs,hb,h=>by simp only[yO,VR,Rd]at h
 | .uV t x,cs,hb,h=>by simp only[tq]at hb;simp only[yO,VR]at h ⊢;obtain⟨v,h1,h2,h3⟩:=h;refine⟨v,h1,?_,JH hw hI hm hρ htk htp x _ hb h3⟩;unfold wE at *;rw[Ig]at h2;exact h2
 | .bool _,_,_,h=>by simp only[yO,VR]at h ⊢;rw[hw,hI];exact h
 | .tt,_,_,h=>by simp only[yO,VR]at h ⊢;rw[hw,hI];exact h
 | .ff,_,_,h=>by simp only[yO,VR]at h ⊢;rw[hw,hI];exact h
 | .dec _,_,_,h=>by simp only[yO,VR]at h ⊢;rw[hw,hI];exact h
 | .int _ _,_,_,h=>by simp only[yO,VR]at h ⊢;rw[hw,hI];exact h
 | .str _,_,_,h=>by simp only[yO,VR]at h ⊢;rw[hw,hI];exact h
 | .vJ,_,_,h=>by simp only[yO,VR]at h ⊢;rw[hw,hI];exact h
 | .qW,_,_,h=>by simp only[yO,VR]at h ⊢;rw[hw,hI];exact h
 | .sl _ _ .no,_,_,h=>by simp only[yO,VR]at h ⊢;rw[hw,hI];exact h
 | .sl _ _ .full,_,_,h=>by simp only[yO,VR]at h ⊢;rw[hw,hI];exact h
 | .cp _,_,_,h=>by simp only[yO,VR]at h ⊢;rw[hw,hI];exact h
 | .vW,_,_,h=>by simp only[yO,VR]at h ⊢;rw[hw,hI];exact h
 | .ru,_,_,h=>by simp only[yO,VR]at h ⊢;rw[hw,hI];exact h
 | .zq,_,_,h=>by simp only[yO,VR]at h ⊢;rw[hw,hI];exact h
 | .und,_,_,h=>by simp only[yO,VR,Rd]at h
theorem a2f(hw:d.w=c.w)(hI:d.Im=c.Im)(hm:d.nx=m)(hρ:∀k,k<m->d.ρ k=c.ρ (σ k))(htk:∀k,k<m->d.tk k=c.tk (σ k))(htp:∀k n,k<m->d.tp k=some n->c.tp (σ k)=some n) :
  ∀(l:List AV) (cs:List Value),vT m l=true->Ea c (Us σ l) cs->Ea d l cs
 | [],_,_,h=>by simpa only[Us,Ea]using h
 | x::l,cs,hb,h=>by
   simp only[vT]at hb;simp only[Us,Ea]at h ⊢;obtain⟨a,e,h1,h2,h3⟩:=h;cases hx:tq m x with
   |false=>rw[hx]at hb;cases hb
   |true=>rw[hx]at hb;exact⟨a,e,h1,JH hw hI hm hρ htk htp x _ hx h2,a2f hw hI hm hρ htk htp l _ hb h3⟩
theorem VX(hw:d.w=c.w)(hI:d.Im=c.Im)(hm:d.nx=m)(hρ:∀k,k<m->d.ρ k=c.ρ (σ k))(htk:∀k,k<m->d.tk k=c.tk (σ k))(htp:∀k n,k<m->d.tp k=some n->c.tp (σ k)=some n) :
  ∀(l:List AV) (vs:List Value),vT m l=true->VA c (Us σ l) vs->VA d l vs
 | [],_,_,h=>by simpa only[Us,VA]using h
 | x::l,vs,hb,h=>by
   simp only[vT]at hb;simp only[Us,VA]at h ⊢;obtain⟨v,r,h1,h2,h3,h4⟩:=h;cases hx:tq m x with
   |false=>rw[hx]at hb;cases hb
   |true =>rw[hx]at hb;refine⟨v,r,h1,?_,JH hw hI hm hρ htk htp x _ hx h3,VX hw hI hm hρ htk htp l _ hb h4⟩;unfold wE at *;rw[Ig]at h2;exact h2
end
mutual
theorem Gy(hw:d.w=c.w)(hI:d.Im=c.Im)(hnx:∀k,k<c.nx->σ k<d.nx)(hρ:∀k,k<c.nx->d.ρ (σ k)=c.ρ k)(htk:∀k,k<c.nx->d.tk (σ k)=c.tk k)(htp:∀k n,k<c.nx->d.tp (σ k)=some n->c.tp k=some n) :
  ∀(A:AV) (cs:List Value),VR c A cs->VR d (yO σ A) cs
 | .ptr k p o,cs,h=>by simp only[yO,VR]at h ⊢;rw[hρ k h.1];exact⟨hnx k h.1,h.2⟩
 | .ms k _ _ _ _,cs,h=>by simp only[yO,VR]at h ⊢;rw[hρ k h.1];exact⟨hnx k h.1,h.2⟩
 | .mp k,cs,h=>by simp only[yO,VR]at h ⊢;rw[hρ k h.1];exact⟨hnx k h.1,h.2⟩
 | .bm f k,cs,h=>by simp only[yO,VR]at h ⊢;rw[hρ k h.1];exact⟨hnx k h.1,h.2⟩
 | .gs k _,cs,h=>by simp only[yO,VR]at h ⊢;rw[htk k h.1];exact⟨hnx k h.1,h.2.1,λn hn=>h.2.2 n (htp k n h.1 hn)⟩
 | .sl s l (.own k),cs,h=>by simp only[yO,VR]at h ⊢;rw[hw,hI,htk k h.1];exact⟨hnx k h.1,h.2.1,λn hn=>h.2.2 n (htp k n h.1 hn)⟩
 | .fn f cap,cs,h=>by simp only[yO,VR]at h ⊢;obtain⟨vs,h1,h2⟩:=h;exact⟨vs,h1,Ry hw hI hnx hρ htk htp cap vs h2⟩
 | .ag l,cs,h=>by simp only[yO,VR]at h ⊢;exact Zn hw hI hnx hρ htk htp l cs h
 | .uf l,cs,h=>by simp only[VR,Rd]at h
 | .uV t x,cs,h=>by simp only[yO,VR]at h ⊢;obtain⟨v,h1,h2,h3⟩:=h;refine⟨v,h1,?_,Gy hw hI hnx hρ htk htp x _ h3⟩;unfold wE at *;rw[Ig];exact h2
 | .bool _,_,h=>by simp only[yO,VR]at h ⊢;rw[hw,hI];exact h
 | .tt,_,h=>by simp only[yO,VR]at h ⊢;rw[hw,hI];exact h
 | .ff,_,h=>by simp only[yO,VR]at h ⊢;rw[hw,hI];exact h
 | .dec _,_,h=>by simp only[yO,VR]at h ⊢;rw[hw,hI];exact h
 | .int _ _,_,h=>by simp only[yO,VR]at h ⊢;rw[hw,hI];exact h
 | .str _,_,h=>by simp only[yO,VR]at h ⊢;rw[hw,hI];exact h
 | .vJ,_,h=>by simp only[yO,VR]at h ⊢;rw[hw,hI];exact h
 | .qW,_,h=>by simp only[yO,VR]at h ⊢;rw[hw,hI];exact h
 | .sl _ _ .no,_,h=>by simp only[yO,VR]at h ⊢;rw[hw,hI];exact h
 | .sl _ _ .full,_,h=>by simp only[yO,VR]at h ⊢;rw[hw,hI];exact h
 | .cp _,_,h=>by simp only[yO,VR]at h ⊢;rw[hw,hI];exact h
 | .vW,_,h=>by simp only[yO,VR]at h ⊢;rw[hw,hI];exact h
 | .ru,_,h=>by simp only[yO,VR]at h ⊢;rw[hw,hI];exact h
 | .zq,_,h=>by simp only[yO,VR]at h ⊢;rw[hw,hI];exact h
 | .und,_,h=>by simp only[VR,Rd]at h
theorem Zn(hw:d.w=c.w)(hI:d.Im=c.Im)(hnx:∀k,k<c.nx->σ k<d.nx)(hρ:∀k,k<c.nx->d.ρ (σ k)=c.ρ k)(htk:∀k,k<c.nx->d.tk (σ k)=c.tk k)(htp:∀k n,k<c.nx->d.tp (σ k)=some n->c.tp k=some n) :
  ∀(l:List AV) (cs:List Value),Ea c l cs->Ea d (Us σ l) cs
 | [],_,h=>by simpa only[Us,Ea]using h
 |x::l,cs,h=>by simp only[Us,Ea]at h ⊢;obtain⟨a,e,h1,h2,h3⟩:=h;exact⟨a,e,h1,Gy hw hI hnx hρ htk htp x _ h2,Zn hw hI hnx hρ htk htp l _ h3⟩
theorem Ry(hw:d.w=c.w)(hI:d.Im=c.Im)(hnx:∀k,k<c.nx->σ k<d.nx)(hρ:∀k,k<c.nx->d.ρ (σ k)=c.ρ k)(htk:∀k,k<c.nx->d.tk (σ k)=c.tk k)(htp:∀k n,k<c.nx->d.tp (σ k)=some n->c.tp k=some n) :
  ∀(l:List AV) (vs:List Value),VA c l vs->VA d (Us σ l) vs
 | [],_,h=>by simpa only[Us,VA]using h
 |x::l,vs,h=>by simp only[Us,VA]at h ⊢;obtain⟨v,r,h1,h2,h3,h4⟩:=h;refine⟨v,r,h1,?_,Gy hw hI hnx hρ htk htp x _ h3,Ry hw hI hnx hρ htk htp l _ h4⟩;unfold wE at *;rw[Ig];exact h2
end
end
theorem a2e{c d:Cx}{σ:Nat->Nat}{m:Nat}(hw:d.w=c.w)(hI:d.Im=c.Im)(hm:d.nx=m)(hρ:∀k,k<m->d.ρ k=c.ρ (σ k))(htk:∀k,k<m->d.tk k=c.tk (σ k))(htp:∀k n,k<m->d.tp k=some n->c.tp (σ k)=some n) :
  ∀{l:List (AV×AV)} {es:List MapEntry},EZ m l=true->Py c (Zm σ l) es->Py d l es
 | [],_,_,h=>h
 | (x,y)::l,es,hb,h=>by
   obtain⟨e,r,h1,h2,h3,h4⟩:=h;simp only[EZ]at hb;cases hx:tq m x with
   |false=>rw[hx]at hb;cases hb
   | true =>
     cases hy:tq m y with
     |false=>rw[hx,hy]at hb;cases hb
     |true =>rw[hx,hy]at hb;have sh:∀{A:AV} {v:Value},wE (yO σ A) v->wE A v:=λh=>(by unfold wE at *;rw[Ig]at h;exact h);exact⟨e,r,h1,⟨sh h2.1,JH hw hI hm hρ htk htp _ _ hx h2.2⟩,⟨sh h3.1,JH hw hI hm hρ htk htp _ _ hy h3.2⟩,a2e hw hI hm hρ htk htp hb h4⟩
theorem Zl{c d:Cx}{σ:Nat->Nat}(hw:d.w=c.w)(hI:d.Im=c.Im)(hnx:∀k,k<c.nx->σ k<d.nx)(hρ:∀k,k<c.nx->d.ρ (σ k)=c.ρ k)(htk:∀k,k<c.nx->d.tk (σ k)=c.tk k)(htp:∀k n,k<c.nx->d.tp (σ k)=some n->c.tp k=some n) :
  ∀{l:List (AV×AV)} {es:List MapEntry},Py c l es->Py d (Zm σ l) es
 | [],_,h=>h
 |(x,y)::l,es,h=>by obtain⟨e,r,h1,h2,h3,h4⟩:=h;have sh:∀{A:AV} {v:Value},wE A v->wE (yO σ A) v:=λh=>(by unfold wE at *;rw[Ig];exact h);exact⟨e,r,h1,⟨sh h2.1,Gy hw hI hnx hρ htk htp _ _ h2.2⟩,⟨sh h3.1,Gy hw hI hnx hρ htk htp _ _ h3.2⟩,Zl hw hI hnx hρ htk htp h4⟩
theorem a3K{c d:Cx}{σ:Nat->Nat}(hw:d.w=c.w)(hI:d.Im=c.Im)(hnx:∀k,k<c.nx->σ k<d.nx)(hρ:∀k,k<c.nx->d.ρ (σ k)=c.ρ k)(htk:∀k,k<c.nx->d.tk (σ k)=c.tk k)(htp:∀k n,k<c.nx->d.tp (σ k)=some n->c.tp k=some n){A:AV}{v:Value}(h:EV c A v):EV d (yO σ A) v:=by
 have pl:VV c A v->(∀B,yO σ A≠.uf B)->yO σ A≠.und->EV d (yO σ A) v:=(by intro h _ _;refine rZ ⟨?_,Gy hw hI hnx hρ htk htp _ _ h.2⟩;have:=h.1;unfold wE at *;rw[Ig];exact this);cases A with
 |und=>trivial
 |uf l =>obtain⟨vs,h1,h2⟩:=h;exact⟨vs,h1,Ry hw hI hnx hρ htk htp _ _ h2⟩
 |sl s l t=>cases t <;> exact pl h (by simp[yO]) (by simp[yO])
 |_=>exact pl h (by simp[yO]) (by simp[yO])
theorem a7T{c d:Cx}(h:c.Le d){sz:Nat}:∀{l:List AV} {cs:List Value},Pq c sz l cs->Pq d sz l cs
 | [],_,_=>trivial
 |x::l,cs,g=>by obtain⟨a,e,h1,h2,h3,h4⟩:=g;exact⟨a,e,h1,h2,wo h.im _ _ h3,a7T h h4⟩
theorem Yl{c d:Cx}(hw:d.w=c.w)(hI:d.Im=c.Im){sz:Nat}:∀{l:List AV} {cs:List Value},Pq c sz l cs->Pq d sz l cs
 | [],_,_=>trivial
 |x::l,cs,g=>by obtain⟨a,e,h1,h2,h3,h4⟩:=g;exact⟨a,e,h1,h2,by rw[hw,hI];exact h3,Yl hw hI h4⟩
theorem b09{c d:Cx}(h:c.Le d):∀{l:List (AV×AV)} {es:List MapEntry},Py c l es->Py d l es
 | [],_,g=>g
 |(x,y)::l,es,g=>by obtain⟨e,r,h1,h2,h3,h4⟩:=g;exact⟨e,r,h1,Cb h h2,Cb h h3,b09 h h4⟩
theorem Yp{σ:Nat->Nat}{m:Nat}{H:Heap}:∀{G:Heap},b31 σ m H G->∀k o,(k,o)∈G->∃o',hget H (σ k)=some o'/\leO o' (rnO σ o)/\(match o with | .tN _ es=>EZ m es=true|o=>Uz m o=true)
 | [],_,_,_,h=>by simp at h
 |(j,x)::G,h,k,o,hm=>by simp only[b31]at h;rcases aT.1 hm with hm|hm;{simp at hm;obtain⟨rfl,rfl⟩:=hm;obtain⟨o',h1,h2⟩:=uh.1 h.1;exact⟨o',h1,h2⟩};exact Yp h.2 k o hm
theorem ZY:∀{m:Nat} {H:Heap},Az m H=true->uQ H/\nextId H=m/\(∀x∈H,x.1<m)/\∀k,k<m->∃o,(k,o)∈H
 | 0,[],_=>⟨trivial,rfl,ak,ak⟩
 | 0,_::_,h=>by simp[Az]at h
 |m+1,[],h=>by simp[Az]at h
 | m+1,(i,o)::H,h=>by
   simp only[Az]at h;cases hb:Nat.beq i m with
   |false=>rw[hb]at h;cases h
   |true =>rw[hb]at h;obtain rfl:=aK hb;obtain⟨h1,h2,h3,h4⟩:=ZY h;refine⟨⟨h3,h1⟩,rfl,?_,?_⟩;{intro x hx;rcases aT.1 hx with rfl|hx;{simp};have:=h3 x hx;omega};intro k hk;by_cases hki:k=i;{subst hki;exact⟨o,ak⟩};obtain⟨o',ho'⟩:=h4 k aj;exact⟨o',by simp[ho']⟩
theorem HO.b6H{c:Cx}{k:Nat}{o' o:HO}(h:leO o' o)(hok:o'.Ok c k):o.Ok c k:=by
 by_cases W9:o=.gone;{subst W9;trivial};cases o' <;> cases o <;> simp only[leO]at h <;> first|exact absurd rfl W9|skip
 ·obtain⟨cs,ty,g1,g2,g3⟩:=hok;exact⟨cs,ty,g1,(WU _ _ _ h g2).1,g3⟩
 ·obtain⟨rfl,rfl,h⟩:=h;obtain⟨cs,ty,g1,g2,g3,g4,g5,g6⟩:=hok;exact⟨cs,ty,g1,g2,by rw[<- yQ h];exact g3,g4,MF h g5,g6⟩
 ·obtain⟨rfl,rfl⟩:=h;exact hok
 ·obtain⟨rfl,h⟩:=h;obtain⟨ents,clock,g1,g2,g3,g4⟩:=hok;exact⟨ents,clock,g1,a1g h g2,a1h h g3,g4⟩
 ·obtain⟨rfl,h⟩:=h;have hl:=yQ h;rcases hok with⟨g1,g2,g3⟩|⟨b,cs,ty,g1,g2,g3,g4,g5,g6,g7⟩;{subst g3;exact .inl ⟨g1,g2,jP.1 (by rw[<- hl];rfl)⟩};exact .inr ⟨b,cs,ty,g1,g2,g3,by rw[<- hl];exact g4,g5,MF h g6,g7⟩
 obtain⟨rfl,rfl⟩:=h;exact hok
mutual
theorem Zg{σ:Nat->Nat}:∀(S A:AV),qR S (yO σ A)=qR S A
 | S,.ag l=>by
   simp only[yO];cases S <;> first|rfl|skip
   simp only[qR];exact VQ _ l
 |S,.bool _=>rfl
 |S,.tt=>rfl
 |S,.ff=>rfl
 |S,.dec _=>rfl
 |S,.int _ _=>rfl
 |S,.str _=>rfl
 |S,.vJ=>rfl
 |S,.uV _ _=>by simp only[yO];cases S <;> rfl
 |S,.qW=>rfl
 |S,.sl _ _ .no=>rfl
 |S,.sl _ _ .full=>rfl
 |S,.sl _ _ (.own _)=>by simp only[yO];cases S <;> rfl
 |S,.ms _ _ _ _ _=>by simp only[yO];cases S <;> rfl
 |S,.uf _=>by simp only[yO];cases S <;> rfl
 |S,.ptr _ _ _=>by simp only[yO];cases S <;> rfl
 |S,.cp _=>rfl
 |S,.vW=>rfl
 |S,.fn _ _=>by simp only[yO];cases S <;> rfl
 |S,.ru=>rfl
 |S,.mp _=>by simp only[yO];cases S <;> rfl
 |S,.gs _ _=>by simp only[yO];cases S <;> rfl
 |S,.bm _ _=>by simp only[yO];cases S <;> rfl
 |S,.zq=>rfl
 |S,.und=>rfl
theorem VQ{σ:Nat->Nat}:∀(s l:List AV),uy s (Us σ l)=uy s l
 | [],[]=>rfl
 |_::_,[]=>rfl
 | [],_::_=>rfl
 |x::s,y::l=>by simp only[Us,uy,Zg x y,VQ s l]
end
theorem a8c{σ:Nat->Nat}{sh:AV}:∀{l:List (AV×AV)},KSh sh (Zm σ l)↔KSh sh l
 | []=>jr
 |(x,y)::l=>by simp only[Zm,KSh,Zg,a8c (l:=l)]
theorem HO.b3I{c d:Cx}{σ:Nat->Nat}{m k:Nat}{o:HO}(hk:k<m)(hb:match o with | .tN _ es=>EZ m es=true|o=>Uz m o=true)(hw:d.w=c.w)(hI:d.Im=c.Im)(hm:d.nx=m)(hρ:∀k,k<m->d.ρ k=c.ρ (σ k))(htk:∀k,k<m->d.tk k=c.tk (σ k))(htp:∀k n,k<m->d.tp k=some n->c.tp (σ k)=some n)
  (h:(rnO σ o).Ok c (σ k)):o.Ok d k:=by
 cases o with
 |box A =>obtain⟨cs,ty,g1,g2,g3⟩:=h;refine⟨cs,ty,by rw[hw,hρ k hk];exact g1,JH hw hI hm hρ htk htp _ _ hb g2,by rw[hI,hρ k hk];exact g3⟩
 |arr sz cap l =>obtain⟨cs,ty,g1,g2,g3,g4,g5,g6⟩:=h;exact⟨cs,ty,by rw[hw,hρ k hk];exact g1,g2,g3,g4,Yl hw hI g5,by rw[hI,hρ k hk];exact g6⟩
 |tok sz top =>have h:(HO.tok sz top).Ok c (σ k):=h;simp only[HO.Ok]at h ⊢;rw[htk k hk,hw,hI];exact h
 |tN sh es =>obtain⟨ents,clock,g1,g2,g3,g4⟩:=h;exact⟨ents,clock,by rw[hw,hρ k hk];exact g1,a2e hw hI hm hρ htk htp hb g2,a8c.1 g3,g4⟩
 |uD sz l =>have h:(HO.uD sz l).Ok c (σ k):=h;simp only[HO.Ok]at h ⊢;rw[htk k hk,hw,hI];exact h.imp id fun⟨b,cs,ty,g1,g2,g3,g4,g5,g6,g7⟩=>⟨b,cs,ty,g1,g2,g3,g4,g5,Yl hw hI g6,g7⟩
 |glob g cs =>have h:(HO.glob g cs).Ok c (σ k):=h;show(HO.glob g cs).Ok d k;simp only[HO.Ok]at h ⊢;rw[hw,hI];exact h
 |gone=>trivial
theorem HO.b0o{c d:Cx}{σ:Nat->Nat}{k:Nat}{o:HO}(hk:k<c.nx)(hw:d.w=c.w)(hI:d.Im=c.Im)(hnx:∀k,k<c.nx->σ k<d.nx)(hρ:∀k,k<c.nx->d.ρ (σ k)=c.ρ k)(htk:∀k,k<c.nx->d.tk (σ k)=c.tk k)(htp:∀k n,k<c.nx->d.tp (σ k)=some n->c.tp k=some n)
  (h:o.Ok c k):(rnO σ o).Ok d (σ k):=by
 cases o with
 |box A =>obtain⟨cs,ty,g1,g2,g3⟩:=h;refine⟨cs,ty,by rw[hw,hρ k hk];exact g1,Gy hw hI hnx hρ htk htp _ _ g2,by rw[hI,hρ k hk];exact g3⟩
 |arr sz cap l =>obtain⟨cs,ty,g1,g2,g3,g4,g5,g6⟩:=h;exact⟨cs,ty,by rw[hw,hρ k hk];exact g1,g2,g3,g4,Yl hw hI g5,by rw[hI,hρ k hk];exact g6⟩
 |tok sz top =>show(HO.tok sz top).Ok d (σ k);simp only[HO.Ok]at h ⊢;rw[htk k hk,hw,hI];exact h
 |tN sh es =>obtain⟨ents,clock,g1,g2,g3,g4⟩:=h;exact⟨ents,clock,by rw[hw,hρ k hk];exact g1,Zl hw hI hnx hρ htk htp g2,a8c.2 g3,g4⟩
 |uD sz l =>show(HO.uD sz l).Ok d (σ k);simp only[HO.Ok]at h ⊢;rw[htk k hk,hw,hI];exact h.imp id fun⟨b,cs,ty,g1,g2,g3,g4,g5,g6,g7⟩=>⟨b,cs,ty,g1,g2,g3,g4,g5,Yl hw hI g6,g7⟩
 |glob g cs =>show(HO.glob g cs).Ok d (σ k);simp only[HO.Ok]at h ⊢;rw[hw,hI];exact h
 |gone=>trivial
theorem b06{c d:Cx}{σ:Nat->Nat}{k:Nat}{o:HO}(hρ:d.ρ (σ k)=c.ρ k)(htk:d.tk (σ k)=c.tk k):qZ d (σ k,rnO σ o)=qZ c (k,o):=by cases o <;> simp only[rnO,qZ,hρ,htk]
theorem UD.frame{P:Program}{f:Nat}{args Bs:List AV}{H H1:Heap}{Q:AV->Heap->Prop}(l:List Nat)(hF:UD P f Bs H1 Q)(hl:KA (nextId H) l=true/\nodupB l=true/\Az l.length H1=true/\vT l.length Bs=true)
  (hsub:b31 (sg l (nextId H)) l.length H H1) (hle:Ll args (Us (sg l (nextId H)) Bs)):UD P f args H (λR' H'=>∃R G,Q R G/\R'=yO (sg l (nextId H)) R/\H'=Rj l G H):=by
 obtain⟨hlt,hnd,hfull,hbd⟩:=hl;obtain⟨b4K,hnx1,hlt1,b7S⟩:=ZY hfull;refine⟨hF.1,λc vs hr hv=>?_⟩;have hcn:=hr.nx;generalize hn:nextId H=n at *;generalize hm:l.length=m at *;let σ:=sg l n;have σlt:∀k,k<m->σ k<n:=λk hk=>b1w hlt aj;have σge:∀k,m<=k->σ k=n+(k-m):=λk hk=>(by rw[<- hm]at hk ⊢;exact VO hk);have σinj:∀{j k},σ j=σ k->j=k:=λh=>b4b hnd hlt h;let c1:Cx:={ w:=c.w,Im:=c.Im,ρ:=λk=>c.ρ (σ k),nx:=m,tk:=λk=>c.tk (σ k),tp:=ug H1 };have b4E:∀k x,k<m->c1.tp k=some x->c.tp (σ k)=some x:=by
  intro k x hk hx;have hx:ug H1 k=some x:=hx;rw[hr.tp];unfold ug at hx ⊢;cases hg:hget H1 k with
  |none=>simp[hg]at hx
  | some o =>
    rw[hg]at hx;obtain⟨o',h1,h2,_⟩:=Yp hsub k _ (wS hg);cases o <;> simp at hx;{subst hx;obtain rfl:=a1f h2;show(match hget H (σ k)with|some (.tok _ n)=>some n|some (.uD _ l)=>some l.length|_=>none)=_;rw[h1]}
    subst hx;obtain⟨l',rfl,h3⟩:=a2w h2;show(match hget H (σ k)with|some (.tok _ n)=>some n|some (.uD _ l)=>some l.length|_=>none)=_;rw[h1];simp[yQ h3]
 have b2l:∀k o,(k,o)∈H1->∃o',(σ k,o')∈H/\o.Ok c1 k/\∀b,qZ c1 (k,o)=some b->qZ c (σ k,o')=some b:=(by intro k o hm';obtain⟨o',h1,h2,h3⟩:=Yp hsub k o hm';have hk:=hlt1 _ hm';refine⟨o',wS h1,HO.b3I (c:=c) (d:=c1) (σ:=σ) (m:=m) hk h3 rfl rfl rfl (λ_ _=>rfl) (λ_ _=>rfl) b4E (HO.b6H h2 (hr.EL h1)),?_⟩;intro b hb;rw[<- b06 (c:=c1) (d:=c) (σ:=σ) rfl rfl]at hb;exact a5P (c:=c) (d:=c) rfl rfl h2 hb);have hr1:HR c1 H1:=(by refine⟨hnx1.symm,rfl,b4K,hr.im,λx hx=>(b2l x.1 x.2 hx).choose_spec.2.1,?_⟩;refine wH b4K λx hx y hy hne b hb hb'=>?_;obtain⟨o1,h1,_,e1⟩:=b2l x.1 x.2 hx;obtain⟨o2,h2,_,e2⟩:=b2l y.1 y.2 hy;exact hr.apart' h1 h2 (λh=>hne (σinj h)) (e1 b hb) (e2 b hb'));have hv1:Ot c1 Bs vs:=by
  have:=Ie hle hv
  revert this hbd
  clear hle hv hF;induction Bs generalizing vs with
  |nil=>intro _ h;exact h
  | cons B Bs ih =>
    intro hbd h;obtain⟨v,r,rfl,h1,h2⟩:=h;simp only[vT]at hbd;cases hB:tq m B with
    |false=>rw[hB]at hbd;cases hbd
    | true =>
      rw[hB]at hbd;refine⟨v,r,rfl,?_,ih _ hbd h2⟩;have sh:∀{A:AV},wE (yO σ A) v->wE A v:=λh=>(by unfold wE at *;rw[Ig]at h;exact h);have back:=JH (c:=c) (d:=c1) (σ:=σ) (m:=m) rfl rfl rfl (λ_ _=>rfl) (λ_ _=>rfl) b4E;have pl:VV c (yO σ B) v->(∀X,B≠.uf X)->EV c1 B v:=λh _=>rZ ⟨sh h.1,back _ _ hB h.2⟩;cases B with
      |und=>trivial
      |uf X =>obtain⟨ws,e1,e2⟩:=h1;exact⟨ws,e1,VX (c:=c) (d:=c1) (σ:=σ) (m:=m) rfl rfl rfl (λ_ _=>rfl) (λ_ _=>rfl) b4E _ _ hB e2⟩
      |sl s X t=>cases t <;> exact pl h1 ak
      |_=>exact pl h1 ak
 refine(hF.2 c1 vs hr1 hv1).mono ?_;rintro e w' ⟨v,d1,R,G,hQ,rfl,rfl,htr,hR⟩;have hd1:d1.nx=nextId G:=htr.hr.nx;have hmG:m<=nextId G:=(by rw[<- hd1];exact htr.le.nx);obtain⟨u1,u2,u3⟩:=a4R (l:=l) (n:=n) (G:=G) hr.ids;obtain⟨w1,w2,w3⟩:=a5D (l:=l) (n:=n) u1 (u3.trans hn) htr.hr.ids;rw[hm]at w2 w3;have hG':Rj l G H=newH l n G (Ci l n G H):=(by unfold Rj;rw[hn]);have hnG:=w3 hmG;let d:Cx:={ w:=d1.w,Im:=d1.Im,ρ:=λi=>(match inv l n i with|some k=>d1.ρ k|none=>c.ρ i),nx:=n+(nextId G-m),tk:=λi=>(match inv l n i with|some k=>d1.tk k|none=>c.tk i),tp:=ug (Rj l G H) };have b3Tσ:∀k,inv l n (σ k)=some k:=λk=>a5U hnd hlt k;have dρ:∀k,d.ρ (σ k)=d1.ρ k:=λk=>(by show(match inv l n (σ k)with|some k=>d1.ρ k|none=>c.ρ (σ k))=_;rw[b3Tσ]);have dtk:∀k,d.tk (σ k)=d1.tk k:=λk=>(by show(match inv l n (σ k)with|some k=>d1.tk k|none=>c.tk (σ k))=_;rw[b3Tσ]);have dρ0:∀i,inv l n i=none->d.ρ i=c.ρ i:=λi h=>(by show(match inv l n i with|some k=>d1.ρ k|none=>c.ρ i)=_;rw[h]);have b5L:∀i,inv l n i=none->d.tk i=c.tk i:=λi h=>by show(match inv l n i with|some k=>d1.tk k|none=>c.tk i)=_;rw[h]
 -- the members of the new heap
 have hmem:∀x∈Rj l G H,(∃k o,(k,o)∈G/\x=(σ k,rnO σ o))\/(∃k,k<m/\x=(σ k,.gone))\/(x∈H/\inv l n x.1=none):=by
  intro x hx;rw[hG']at hx;rcases w2 x hx with hx|⟨k,o,h1,h2,h3⟩
  ·have hxg:hget (Ci l n G H) x.1=some x.2:=EN u1 hx;rw[a2C]at hxg;cases hg:hget H x.1 with
   |none=>simp[hg]at hxg
   | some o =>
     rw[hg]at hxg;have hxn:x.1<n:=(by have:=sG hr.ids _ (wS hg);rw[hn]at this;exact this);have hinv:inv l n x.1=ix l x.1:=(by unfold inv;rw[aB aj]);cases hi:ix l x.1 with
     |none =>simp only[iq,hi,mg]at hxg;subst hxg;exact .inr (.inr ⟨wS hg,by rw[hinv,hi]⟩)
     | some k =>
       have hs:σ k=x.1:=WX (by rw[hinv,hi]);have hkm:k<m:=(by obtain⟨h1,_⟩:=UR hi;omega);simp only[iq,hi,mg]at hxg;cases hGk:hget G k with
       |none=>rw[hGk]at hxg;exact .inr (.inl ⟨k,hkm,by rw[hs,show HO.gone=x.2 from hxg]⟩)
       |some o1=>rw[hGk]at hxg;exact .inl ⟨k,o1,wS hGk,by rw[hs];exact Prod.ext rfl hxg.symm⟩
  exact .inl ⟨k,o,h1,h3⟩
 have b63:uQ (Rj l G H):=by rw[hG'];exact w1
 -- tokens
 have tpσ:∀k x,d.tp (σ k)=some x->d1.tp k=some x:=by
  intro k x hx;have hx:ug (Rj l G H) (σ k)=some x:=hx;rw[htr.hr.tp];unfold ug at hx ⊢;cases hg:hget (Rj l G H) (σ k)with
  |none=>simp[hg]at hx
  |some o =>rw[hg]at hx;rcases hmem _ (wS hg)with⟨j,o1,h1,h2⟩|⟨j,_,h2⟩|⟨_,h2⟩;{simp only[mJ]at h2;obtain⟨h2,rfl⟩:=h2;obtain rfl:=σinj h2;rw[EN htr.hr.ids h1];cases o1 <;> simp[rnO]at hx ⊢ <;> exact hx};{simp only[mJ]at h2;obtain⟨_,rfl⟩:=h2;simp at hx};rw[b3Tσ]at h2;cases h2
 have tp0:∀i x,i<n->inv l n i=none->d.tp i=some x->c.tp i=some x:=by
  intro i x hi hin hx;have hx:ug (Rj l G H) i=some x:=hx;rw[hr.tp];unfold ug at hx ⊢;cases hg:hget (Rj l G H) i with
  |none=>simp[hg]at hx
  |some o =>rw[hg]at hx;rcases hmem _ (wS hg)with⟨j,o1,h1,h2⟩|⟨j,_,h2⟩|⟨h1,_⟩;{simp only[mJ]at h2;rw[h2.1,b3Tσ]at hin;cases hin};{simp only[mJ]at h2;rw[h2.1,b3Tσ]at hin;cases hin};rw[EN hr.ids h1];exact hx
 have hle':c.Le d:=by
  refine⟨htr.le.im,by rw[hcn];exact oz _ _,λk hk=>?_,λi x hi hx=>?_⟩
  ·cases hin:inv l n k with
   |none=>exact dρ0 k hin
   |some j =>have hs:σ j=k:=WX hin;have hjm:j<m:=aU λh=>(by have:=σge j aj;omega);rw[<- hs,dρ,htr.le.ρ j hjm]
  cases hin:inv l n i with
  |none=>exact .inl ⟨tp0 i x aj hin hx,b5L i hin⟩
  |some j =>have hs:σ j=i:=WX hin;have hjm:j<m:=aU λh=>(by have:=σge j aj;omega);rw[<- hs]at hx ⊢;rcases htr.le.tk j x hjm (tpσ j x hx)with⟨h1,h2⟩|⟨y,h1,h2⟩;{exact .inl ⟨b4E j x hjm h1,by rw[dtk,h2]⟩};exact .inr ⟨y,b4E j y hjm h1,h2⟩
 have hnxσ:∀k,k<d1.nx->σ k<d.nx:=(by intro k hk;show σ k<n+(nextId G-m);by_cases hkm:k<m;{have:=σlt k hkm;omega};rw[σge k aj];omega);have forth:=fun{k:Nat} {o:HO} (hk:k<d1.nx) (h:o.Ok d1 k)=>HO.b0o (c:=d1) (d:=d) (σ:=σ) (k:=k) (o:=o) hk rfl rfl hnxσ (λk _=>dρ k) (λk _=>dtk k) (λk x _ h=>tpσ k x h) h
 -- blocks
 have b5R:∀k o,qZ d (σ k,rnO σ o)=qZ d1 (k,o):=λk o=>b06 (dρ k) (dtk k);have b5Q:∀x:Nat×HO,inv l n x.1=none->qZ d x=qZ c x:=by rintro⟨i,o⟩ hi;cases o <;> simp only[qZ,dρ0 i hi,b5L i hi]
 have Vb:∀k,qZ d (σ k,.gone)=none:=λk=>rfl;have a2n:∀x∈H,inv l n x.1=none->∀b,qZ c x=some b->∀y∈H1,qZ c1 y≠some b:=(by intro x hx hin b hb y hy hb';obtain⟨o',h1,_,e1⟩:=b2l y.1 y.2 hy;exact hr.apart' hx h1 (λh=>by rw[h,b3Tσ]at hin;cases hin) hb (e1 b hb'));have b3r:∀x∈H,∀b,qZ c x=some b->b<c.w.heap.size:=by
  intro x hx b hb;have hok:=hr.ok x hx;obtain⟨i,o⟩:=x;cases o with
  |box A=>obtain⟨cs,ty,g1,_⟩:=hok;simp[qZ]at hb;subst hb;exact(dG.1 g1).1
  |arr sz cap l=>obtain⟨cs,ty,g1,_⟩:=hok;simp[qZ]at hb;subst hb;exact(dG.1 g1).1
  |tN sh es=>obtain⟨ents,clock,g1,_⟩:=hok;simp[qZ]at hb;subst hb;exact(dG.1 g1).1
  |gone=>simp[qZ]at hb
  |glob _ _=>simp[qZ]at hb
  |uD sz l=>exact b1i hok hb
  |tok sz top =>simp only[qZ]at hb;rcases hok with h|⟨b',cs,ty,h1,h2,_⟩;{rw[aG h]at hb;cases hb};split at hb;{cases hb};have h1:(c.tk i).1=some ⟨b',0,none⟩:=h1;rw[h1]at hb;simp at hb;subst hb;exact(dG.1 h2).1
 have same:∀x∈H,inv l n x.1=none->∀b,qZ c x=some b->d1.w.heap[b]? = c.w.heap[b]? /\ ∀o,d1.Im b o->c.Im b o:=(by intro x hx hin b hb;have hno:=a2n x hx hin b hb;refine⟨htr.fr b (b3r x hx b hb) hno,λo ho=>?_⟩;rcases htr.imb b o ho with h|h|⟨y,hy,h⟩;{exact h};{have:=b3r x hx b hb;have h:c.w.heap.size<=b:=h;omega};exact absurd h (hno y hy));have okH:∀x∈H,inv l n x.1=none->x.2.Ok d x.1:=by
  rintro⟨i,o⟩ hx hin;have hok:=hr.ok _ hx;have hs:=same _ hx hin;cases o with
  |box A =>obtain⟨cs,ty,g1,g2,g3⟩:=hok;obtain⟨s1,s2⟩:=hs (c.ρ i) rfl;refine⟨cs,ty,?_,DW hle' _ _ g2,λo h=>?_⟩;{rw[dρ0 i hin];exact s1.trans g1};rw[dρ0 i hin]at h;exact g3 o (s2 o h)
  |arr sz cap l =>obtain⟨cs,ty,g1,g2,g3,g4,g5,g6⟩:=hok;obtain⟨s1,s2⟩:=hs (c.ρ i) rfl;refine⟨cs,ty,?_,g2,g3,g4,a7T hle' g5,λo h=>?_⟩;{rw[dρ0 i hin];exact s1.trans g1};rw[dρ0 i hin]at h;exact g6 o (s2 o h)
  |tN sh es =>obtain⟨ents,clock,g1,g2,g3⟩:=hok;obtain⟨s1,s2⟩:=hs (c.ρ i) rfl;refine⟨ents,clock,?_,b09 hle' g2,g3⟩;rw[dρ0 i hin];exact s1.trans g1
  |uD sz l =>have hok:(HO.uD sz l).Ok c i:=hok;show(HO.uD sz l).Ok d i;simp only[HO.Ok]at hok ⊢;rw[b5L i hin];rcases hok with h|⟨b,cs,ty,h1,h2,h3,h4,h5,h6,h7⟩;{exact .inl h};obtain⟨s1,s2⟩:=hs b (by simp only[qZ,h1];rfl);exact .inr ⟨b,cs,ty,h1,s1.trans h2,h3,h4,h5,a7T hle' h6,λo h=>h7 o (s2 o h)⟩
  |glob g cs =>intro j v hv;have hok:(HO.glob g cs).Ok c i:=hok;obtain⟨h1,h2⟩:=hok j v hv;obtain⟨g1,g2⟩:=hle'.im _ _ h1;exact⟨g1,g2.trans h2⟩
  |gone=>trivial
  |tok sz top =>have hok:(HO.tok sz top).Ok c i:=hok;show(HO.tok sz top).Ok d i;simp only[HO.Ok]at hok ⊢;rw[b5L i hin];rcases hok with h|⟨b,cs,ty,h1,h2,h3,h4,h5,h6⟩;{exact .inl h};by_cases ht:(c.tk i).2=top;{exact .inl ht};obtain⟨s1,s2⟩:=hs b (by simp only[qZ,aB ht,h1];rfl);exact .inr ⟨b,cs,ty,h1,s1.trans h2,h3,h4,h5,λo ho h=>h6 o ho (s2 o h)⟩
 have b7x:∀y∈Rj l G H,∀b,qZ d y=some b->(c.w.heap.size<=b\/∃x∈H,qZ c x=some b):=(by intro y hy b hb;rcases hmem y hy with⟨k,o,h1,rfl⟩|⟨k,_,rfl⟩|⟨h1,h2⟩;{rw[b5R]at hb;rcases htr.own _ h1 b hb with h|⟨x,hx,hxb⟩;{exact .inl h};obtain⟨o',g1,_,g3⟩:=b2l x.1 x.2 hx;exact .inr ⟨_,g1,g3 b hxb⟩};{rw[Vb]at hb;cases hb};rw[b5Q y h2]at hb;exact .inr ⟨y,h1,hb⟩);have mixed:∀k o,(k,o)∈G->∀y∈H,inv l n y.1=none->∀b,qZ d1 (k,o)=some b->qZ c y≠some b:=(by intro k o h1 y hy hin b hb hb';rcases htr.own _ h1 b hb with h|⟨x,hx,hxb⟩;{have:=b3r y hy b hb';have h:c.w.heap.size<=b:=h;omega};exact a2n y hy hin b hb' x hx hxb);have hrF:HR d (Rj l G H):=(by refine⟨by rw[hG',hnG],rfl,b63,htr.hr.im,?_,?_⟩;{intro x hx;rcases hmem x hx with⟨k,o,h1,rfl⟩|⟨k,_,rfl⟩|⟨h1,h2⟩;{exact forth (by rw[hd1];exact sG htr.hr.ids _ h1) (htr.hr.ok _ h1)};{trivial};exact okH x h1 h2};refine wH b63 λx hx y hy hne b hb hb'=>?_;rcases hmem x hx with⟨k,o,h1,rfl⟩|⟨k,_,rfl⟩|⟨h1,h2⟩;{rw[b5R]at hb;rcases hmem y hy with⟨k',o',h1',rfl⟩|⟨k',_,rfl⟩|⟨h1',h2'⟩;{rw[b5R]at hb';exact htr.hr.apart' h1 h1' (λh=>hne (lQ σ h)) hb hb'};{rw[Vb]at hb';cases hb'};rw[b5Q y h2']at hb';exact mixed k o h1 y h1' h2' b hb hb'};{rw[Vb]at hb;cases hb};rw[b5Q x h2]at hb;rcases hmem y hy with⟨k',o',h1',rfl⟩|⟨k',_,rfl⟩|⟨h1',h2'⟩;{rw[b5R]at hb';exact mixed k' o' h1' x h1 h2 b hb' hb};{rw[Vb]at hb';cases hb'};rw[b5Q y h2']at hb';exact hr.apart' h1 h1' hne hb hb');refine⟨v,d,_,_,⟨R,G,hQ,rfl,rfl⟩,rfl,rfl,⟨hrF,hle',htr.os,htr.tape,htr.output,htr.size,λb hb hno=>htr.fr b hb λx hx hxb=>?_,b7x,λb o h=>?_⟩,?_⟩;{obtain⟨o',g1,_,g3⟩:=b2l x.1 x.2 hx;exact hno _ g1 (g3 b hxb)};{rcases htr.imb b o h with h|h|⟨x,hx,hxb⟩;{exact .inl h};{exact .inr (.inl h)};obtain⟨o',g1,_,g3⟩:=b2l x.1 x.2 hx;exact .inr (.inr ⟨_,g1,g3 b hxb⟩)};exact a3K (c:=d1) (d:=d) (σ:=σ) rfl rfl hnxσ (λk _=>dρ k) (λk _=>dtk k) (λk x _ h=>tpσ k x h) hR
theorem qX.frame{P:Program}{f:Nat}{args Bs:List AV}{H H1 G:Heap}{R:AV}(l:List Nat)(hF:qX P f Bs H1 R G)(hl:KA (nextId H) l=true/\nodupB l=true/\Az l.length H1=true/\vT l.length Bs=true)
  (hsub:b31 (sg l (nextId H)) l.length H H1) (hle:Ll args (Us (sg l (nextId H)) Bs)):qX P f args H (yO (sg l (nextId H)) R) (Rj l G H):=by
 have hQ:UD P f Bs H1 (λR' G'=>R'=R/\G'=G):=⟨hF.1,λc vs hr hv=>(hF.2 c vs hr hv).mono λ_ _ ⟨v,d,h⟩=>⟨v,d,R,G,⟨rfl,rfl⟩,h⟩⟩;have:=UD.frame l hQ hl hsub hle;refine⟨this.1,λc vs hr hv=>(this.2 c vs hr hv).mono ?_⟩;rintro _ _ ⟨v,d,_,_,⟨_,_,⟨rfl,rfl⟩,rfl,rfl⟩,h⟩;exact⟨v,d,h⟩
end Go.AL
namespace Go.AL
theorem wrap64{n:Int}(h1 : -9223372036854775808<=n)(h2:n<=9223372036854775807):IntKind.wrap .i64 n=n:=by simp[IntKind.wrap,IntKind.bits,IntKind.signed];omega
theorem wrap_u32{n:Int}(h1:0<=n)(h2:n<4294967296):IntKind.wrap .u32 n=n:=by simp[IntKind.wrap,IntKind.bits,IntKind.signed];omega
theorem wrap_u64{n:Int}(h1:0<=n)(h2:n<18446744073709551616):IntKind.wrap .u64 n=n:=by simp[IntKind.wrap,IntKind.bits,IntKind.signed];omega
theorem Gm(a:Nat):BitVec.ofInt 64 (a:Int)=BitVec.ofNat 64 a:=by apply lK;simp
theorem b3x{a b:Nat}(ha:a<2^63)(hb:b<2^63):Am .and .i64 (a:Int) (b:Int)=((a&&&b:Nat):Int):=by simp only[Am];have h1:(BitVec.ofInt 64 (a:Int)&&&BitVec.ofInt 64 (b:Int)).toNat=a&&&b:=(by rw[Gm,Gm,oG,gq,gq,dS aj,dS aj]);show IntKind.wrap .i64 ((BitVec.ofInt 64 (a:Int)&&&BitVec.ofInt 64 (b:Int)).toNat:Int)=_;rw[h1];have:=Nat.and_le_left (n:=a) (m:=b);exact wrap64 aj aj
theorem Wi{a b:Nat}(ha:a<2^63)(hb:b<2^63):Am .or .i64 (a:Int) (b:Int)=((a|||b:Nat):Int):=by simp only[Am];have h1:(BitVec.ofInt 64 (a:Int)|||BitVec.ofInt 64 (b:Int)).toNat=a|||b:=(by rw[Gm,Gm,oI,gq,gq,dS aj,dS aj]);show IntKind.wrap .i64 ((BitVec.ofInt 64 (a:Int)|||BitVec.ofInt 64 (b:Int)).toNat:Int)=_;rw[h1];have:=jg ha hb;exact wrap64 aj aj
theorem Hy{i:Nat}(hi:i<63):VN .i64 1 (i:Int)=((2^i:Nat):Int):=by
 unfold VN;have h1:min (i:Int).toNat (IntKind.bits .i64)=i:=by show min i 64=i;omega
 rw[h1,Int.one_mul];have h2:2^i<9223372036854775808:=fV (jJ aj hi) (Nat.le_of_eq au);have h3:((2:Int)^i)=((2^i:Nat):Int):=ak;rw[h3];generalize 2^i=x at *;exact wrap64 aj aj
theorem b1u{a i:Nat}(hi:i<=64):KG .i64 (a:Int) (i:Int)=((a>>>i:Nat):Int):=by
 unfold KG;have h1:min (i:Int).toNat (IntKind.bits .i64)=i:=by show min i 64=i;omega
 rw[h1,lZ];have h3:((2:Int)^i)=((2^i:Nat):Int):=ak;rw[h3,iM _ (jA _)];simp
theorem a3k{a i:Nat}(ha:a<2^63)(hi:i<=64):Am .and .i64 (KG .i64 (a:Int) (i:Int)) 1=if a.testBit i then 1 else 0:=by rw[b1u hi];have h1:a>>>i<=a:=(by rw[lZ];exact jG _ _);have:=b3x (a:=a>>>i) (b:=1) aj au;rw[show((1:Nat):Int)=1 from rfl]at this;rw[this,Nat.and_one_is_mod];rw[jI,lZ];have:a / 2^i % 2<2:=gI _ aj;by_cases h:a / 2^i % 2=1;{simp[h]};have:a / 2^i % 2=0:=aj;simp[this]
end Go.AL
namespace Go.AL
section
variable{P:Program}
theorem qX.vU{f:Nat}{As Bs:List AV}{R:AV}{H:Heap}(h:qX P f Bs [] R [])(hle:Ll As Bs)(hb:vT 0 Bs=true/\tq 0 R=true):qX P f As H R H :=
 ⟨h.1,λ_ _ hr hv=>qX.pure h hb.1 hb.2 hr (Ie hle hv)⟩
theorem qX.weak{f:Nat}{As:List AV}{R R':AV}{H H':Heap}(h:qX P f As H R H')(hle:le R R'):qX P f As H R' H':=by refine⟨h.1,λc vs hr hv=>(h.2 c vs hr hv).mono ?_⟩;rintro e w' ⟨v,d,h1,h2,h3,h4⟩;exact⟨v,d,h1,h2,h3,b1Y hle h4⟩
theorem qX.cv{f:Nat}{As:List AV}{R R':AV}{H H' QZ:Heap}{e'':Env}(h:qX P f As H R H')(hcv:Cv [(0,R)] H' e'' QZ)(hR:uY e'' 0=some R'):qX P f As H R' QZ:=by
 refine⟨h.1,λc vs hr hv=>(h.2 c vs hr hv).mono ?_⟩;rintro e w' ⟨v,d,h1,h2,h3,h4⟩;have ha:BR 1 d [(0,R)] { tmps:=#[v],defers:=[] }:=by
  refine⟨λt A hA=>?_,rfl,rfl⟩;simp only[uY]at hA;cases hb:Nat.beq 0 t with
  |true =>rw[hb]at hA;obtain rfl:=aK hb;obtain rfl:=aW hA;exact h4
  |false=>rw[hb]at hA;cases hA
 obtain⟨d',g1,g2,g3⟩:=Fq hcv h3.hr ha;exact⟨v,d',h1,by rw[g1];exact h2,h3.trans g2,g3.env 0 _ hR⟩
theorem qX.heap{f:Nat}{As:List AV}{R:AV}{H H' G:Heap}(h:qX P f As H R H')(hw:HWk H' G)(hn:nextId H<=nextId G)(hb:tq (nextId G) R=true):qX P f As H R G:=by refine⟨h.1,λc vs hr hv=>(h.2 c vs hr hv).mono ?_⟩;rintro e w' ⟨v,d,h1,h2,h3,h4⟩;have hw0:=hw.to0 h3.hr;exact⟨v,d.cut G,h1,h2,h3.cut hw0 (by rw[hr.nx];exact hn),Tc (λk n hn=>by rw[h3.hr.tp];exact hw0.tp k n hn) hb h4⟩
theorem Vk{c d:Cx}(le:c.Le d){A:AV}:∀{As:List AV} {vs:List Value} {i:Nat} {v:Value},Ot c As vs->vs[i]? = some v->EV d A v->Ot d (As.set i A) vs
 | [],vs,i,v,h,hi,_=>by obtain rfl:=h;simp at hi
 |B::As,vs,0,v,h,hi,hA=>by obtain⟨u,r,rfl,h1,h2⟩:=h;simp at hi;subst hi;exact⟨u,r,rfl,hA,mono h2⟩
 |B::As,vs,i+1,v,h,hi,hA=>by obtain⟨u,r,rfl,h1,h2⟩:=h;exact⟨u,r,rfl,Cc le h1,Vk le h2 (by simpa using hi) hA⟩
where mono:∀{As:List AV} {vs:List Value},Ot c As vs->Ot d As vs
 | [],_,h=>h
 |B::As,vs,h=>by obtain⟨u,r,rfl,h1,h2⟩:=h;exact⟨u,r,rfl,Cc le h1,mono h2⟩
theorem Yz{c:Cx}:∀{As:List AV} {vs:List Value} {i:Nat} {A:AV},Ot c As vs->As[i]? = some A->∃v,vs[i]? = some v/\EV c A v
 | [],_,_,_,_,h=>by simp at h
 |B::As,vs,0,A,h,hi=>by obtain⟨u,r,rfl,h1,h2⟩:=h;simp at hi;subst hi;exact⟨u,rfl,h1⟩
 |B::As,vs,i+1,A,h,hi=>by obtain⟨u,r,rfl,h1,h2⟩:=h;simpa using Yz h2 (by simpa using hi)
theorem qX.Xe{f:Nat}{args:List AV}{R:AV}{H G:Heap}{j off len cap cp sz:Nat}{l:List AV}(i:Nat)(h1:args[i]? = some (.ms j off len cap sz))(ho:hget H j=some (.arr sz cp l))(hl:off+len<=l.length)
  (h:qX P f (args.set i (.sl sz ((l.drop off).take len) .no)) (hset H j .gone) R G):qX P f args H R G:=by
 refine⟨h.1,λc vs hr hv=>?_⟩;obtain⟨v,hvi,hA⟩:=Yz hv h1;have ha:BR 1 c [(0,.ms j off len cap sz)] { tmps:=#[v],defers:=[] }:=by
  refine⟨λt A hA'=>?_,rfl,rfl⟩;simp only[uY]at hA';cases hb:Nat.beq 0 t with
  |true =>rw[hb]at hA';obtain rfl:=aK hb;obtain rfl:=aW hA';exact hA
  |false=>rw[hb]at hA';cases hA'
 obtain⟨d,g1,g2,g3⟩:=Fq (.freeze 0 j off len cap cp sz l rfl ho hl (.refl _ _)) hr ha;have hd:EV d (.sl sz ((l.drop off).take len) .no) v:=g3.env 0 _ rfl;have:=h.2 d vs g2.hr (Vk g2.le hv hvi hd);rw[g1]at this;refine this.mono ?_;rintro e w' ⟨v',d',k1,k2,k3,k4⟩;exact⟨v',d',k1,k2,g2.trans k3,k4⟩
end
end Go.AL
namespace Go.AL
theorem a2m{a b:Nat}(ha:a<2^64)(hb:b<2^64):Am .or .u64 (a:Int) (b:Int)=((a|||b:Nat):Int):=by simp only[Am];have h1:(BitVec.ofInt 64 (a:Int)|||BitVec.ofInt 64 (b:Int)).toNat=a|||b:=(by rw[Gm,Gm,oI,gq,gq,dS ha,dS hb]);show IntKind.wrap .u64 ((BitVec.ofInt 64 (a:Int)|||BitVec.ofInt 64 (b:Int)).toNat:Int)=_;rw[h1];have:=jg ha hb;exact wrap_u64 aj aj
theorem P6{a b:Nat}(ha:a<4294967296)(hb:b<4294967296):Am .or .u64 ((a*4294967296:Nat):Int) (b:Int)=((a*4294967296+b:Nat):Int):=by rw[a2m aj aj];have:=lS (i:=32) (b:=b) aj a;rw[oq]at this;rw[this]
theorem IY{a:Nat}(ha:a<4294967296):VN .u64 (a:Int) 32=((a*4294967296:Nat):Int):=by unfold VN;have h1:min (32:Int).toNat (IntKind.bits .u64)=32:=au;rw[h1];have:(a:Int)*2^32=((a*4294967296:Nat):Int):=ak;rw[this];exact wrap_u64 aj aj
theorem Dv{k:IntKind}(hk:k.bits=64){a:Nat}:KG k (a:Int) 32=((a / 4294967296:Nat):Int):=by
 unfold KG;have h1:min (32:Int).toNat (IntKind.bits k)=32:=by rw[hk];decide
 rw[h1];rw[iM _ au];simp
theorem vM{a:Nat}:IntKind.wrap .u32 (a:Int)=((a % 4294967296:Nat):Int):=by simp[IntKind.wrap,IntKind.bits,IntKind.signed]
theorem VF{a b:Nat}:(a:Int).tdiv (b:Int)=((a / b:Nat):Int):=by rw[Int.tdiv_eq_ediv_of_nonneg aj];simp
theorem EI{a b:Nat}:(a:Int).tmod (b:Int)=((a % b:Nat):Int):=by rw[Int.tmod_eq_emod_of_nonneg aj];simp
end Go.AL
namespace Go.AL
open Go.RowKit
def cx0(w:World):Cx:={ w:=w,Im:=λb _=>b<w.heap.size,ρ:=λ_=>0,nx:=0,tk:=λ_=>(none,0),tp:=ug [] }
theorem b5z(w:World):HR (cx0 w) []:=⟨rfl,rfl,trivial,λ_ _ h=>h,ak,.nil⟩
theorem qX.law{P:Program}{f:Nat}{args:List AV}(h:qX P f args [] (.bool true) []){w:World}{vs:List Value}(hv:Ot (cx0 w) args vs) :
  Calls P f vs.toArray w λe w'=>e=.returned (.bool true)/\Below w.heap.size w w':=by
 refine(h.2 (cx0 w) vs (b5z w) hv).mono ?_;rintro e w' ⟨v,d,rfl,rfl,htr,hV⟩;refine⟨by rw[yE hV],⟨htr.os,htr.tape,htr.output,htr.size,λk hk=>htr.fr k hk ak⟩⟩
end Go.AL
namespace Go.AL
open Go.ChangeShapes Go.RowKit
inductive Sh where
 |bool|int (k:IntKind)|str|sl (sz:Nat) (s:Sh)|st (l:List Sh)|spl
def b5F(P:Program)(t:TypeId):List Field->Bool
 | [f,g,h]=>Nat.beq (P.cellsOf t) 3&&Nat.beq f.offset 0&&Nat.beq g.offset 1&&Nat.beq h.offset 2&&Nat.beq (P.cellsOf f.type) 1&&Nat.beq (P.cellsOf g.type) 1&&Nat.beq (P.cellsOf h.type) 1 &&
   (match P.underlying f.type with|some (.int k)=>Ht .i64 k|_=>false)&&(match P.underlying g.type with|some (.slice e)=>Nat.beq e t|_=>false)&&(match P.underlying h.type with|some (.int k)=>Ht .i64 k|_=>false)
 |_=>false
inductive b33:AV->Prop where
 |mk (v r:Int) (ks:List AV) (h:∀k∈ks,b33 k):b33 (.ag [.int .i64 v,.sl 3 ks .no,.int .i64 r])
mutual
def shB(P:Program):Sh->TypeId->Bool
 | .bool,t=>match P.underlying t with|some .bool=>true|_=>false
 | .int k,t=>match P.underlying t with|some (.int k')=>Ht k k'|_=>false
 | .str,t=>match P.underlying t with|some .string=>true|_=>false
 | .sl sz s,t=>match P.underlying t with|some (.slice e)=>Nat.beq (P.cellsOf e) sz&&Nat.blt 0 sz&&shB P s e|_=>false
 | .st l,t=>match P.underlying t with|some (.struct fs)=>fieldsB P (P.cellsOf t) l fs.toList 0|_=>false
 | .spl,t=>match P.underlying t with|some (.struct fs)=>b5F P t fs.toList|_=>false
def fieldsB(P:Program)(n:Nat):List Sh->List Field->Nat->Bool
 | [],[],off=>Nat.beq off n
 |s::l,f::fs,off=>Nat.beq f.offset off&&shB P s f.type&&fieldsB P n l fs (off+P.cellsOf f.type)
 |_,_,_=>false
end
mutual
def Sh.In:Sh->AV->Prop
 | .bool,A=>∃b,A=.bool b
 | .int k,A=>∃n,A=.int k n
 | .str,A=>∃s,A=.str s
 | .sl sz s,A=>∃l,A=.sl sz l .no/\∀x∈l,s.In x
 | .st l,A=>∃as,A=.ag as/\InL l as
 | .spl,A=>b33 A
def InL:List Sh->List AV->Prop
 | [],as=>as=[]
 |s::l,as=>∃x r,as=x::r/\s.In x/\InL l r
end
abbrev Im0(w:World):Nat->Nat->Prop:=λb _=>b<w.heap.size
theorem cell_lt{w:World}{a:Addr}{v:Value}(h:w.cell? a=some v):a.block<w.heap.size:=by apply aU;intro hn;have:w.heap[a.block]? = none:=Array.getElem?_eq_none (by simpa using hn);simp[World.cell?,this]at h
theorem cells_at{w:World}{base n:Nat}{a:Addr}{cs:List Value}(h:w.cells? base a n=some cs)(hs:a.spot=none):cs.length=n/\AO w (Im0 w) a.block a.off cs:=by obtain⟨_,hl,hc⟩:=World.cells?_some h;refine⟨hl,λj v hj=>?_⟩;have hjn:j<n:=(by rw[<- hl];exact(aY.1 hj).1);have h1:=hc j hjn;rw[hj]at h1;obtain⟨b,off,spot⟩:=a;simp only at hs;subst hs;have h2:w.cell? ⟨b,off+j,none⟩=some v:=(by by_cases hj0:j=0;{subst hj0;simpa[Addr.add]using h1};simpa[Addr.add,hj0]using h1);exact⟨h2,cell_lt (a:=⟨b,off+j,none⟩) h2⟩
theorem a7Z{w:World}{Im:Nat->Nat->Prop}{sz b:Nat}:∀{l:List AV} {off:Nat},(∀i x,l[i]? = some x->∃cs,cs.length=sz/\AO w Im b (off+i*sz) cs/\Rd w Im x cs)->IV w Im sz b l off
 | [],_,_=>by simp only[IV]
 |x::l,off,h=>by simp only[IV];refine⟨?_,a7Z λi y hy=>?_⟩;{have:=h 0 x rfl;simpa using this};have:=h (i+1) y (by simpa using hy);rw[show off+(i+1)*sz=off+sz+i*sz by rw[dw];omega]at this;exact this
theorem a4G{k:IntKind}{n:Int}(h:(Lit.int k n).wf=true):KF k n:=by simpa[Lit.wf,KF]using h
theorem Ld{α:Type}{p:Nat->α->Prop}:∀{n:Nat},(∀i,i<n->∃x,p i x)->∃l:List α,l.length=n/\∀i x,l[i]? = some x->p i x
 | 0,_=>⟨[],rfl,λi x h=>by simp at h⟩
 |n+1,h=>by obtain⟨l,hl,hp⟩:=Ld (n:=n) λi hi=>h i aj;obtain⟨x,hx⟩:=h n aj;refine⟨l++[x],by simp[hl],λi y hy=>?_⟩;by_cases hi:i<n;{rw[bH aj]at hy;exact hp i y hy};rw[dJ aj]at hy;have:i-l.length=0:=(by have:=(aY.1 hy).1;simp at this;omega);rw[this]at hy;simp at hy;subst hy;rw[show i=n by omega];exact hx
section
variable{H:Type}{enc:TypeId×Value->H}{P:Program}{w:World}{base:Nat}{spare:Nat->Bool}{held:Bool}
theorem a3G{e:TypeId}{n:Nat}{sz:Nat}(h2:0<sz)(Q:AV->Prop){a:Addr}{len:Nat}{elems:List (DataW H×List MemPlace)}(hel:elems.length=len)
  (hat:∀i,i<len->(w.cells? base (a.add (i*sz)) sz).bind (DataW.trod enc P w base spare held n e)=elems[i]?)
  (hq:∀(cs:List Value) (x:DataW H×List MemPlace),x∈elems->DataW.trod enc P w base spare held n e cs=some x->∃A,Q A/\Rd w (Im0 w) A cs) :
  ∃l:List AV,l.length=len/\(∀y∈l,Q y)/\(l≠[]->a.spot=none)/\IV w (Im0 w) sz a.block l a.off:=by
 have key:∀i,i<len->∃A:AV,Q A/\a.spot=none/\∃cs,cs.length=sz/\AO w (Im0 w) a.block (a.off+i*sz) cs/\Rd w (Im0 w) A cs:=by
  intro i hi;have:=hat i hi;rw[aH aj]at this;obtain⟨cs',g1,g2⟩:=lu.1 this;obtain⟨A,hA,hR⟩:=hq _ _ (aQ _) g2;have hsp:a.spot=none:=by have:=hat 0 aj;rw[aH aj]at this;obtain⟨cs0,g1,_⟩:=lu.1 this;obtain⟨_,hl,hc⟩:=World.cells?_some g1;have h0:=hc 0 h2;rw[aH aj]at h0;have:=World.cell?_spot h0;obtain⟨b,off,spot⟩:=a;simpa[Addr.add]using this
  refine⟨A,hA,hsp,cs',?_⟩;obtain⟨b,off,spot⟩:=a;simp only at hsp;subst hsp;have hadd:(Addr.add ⟨b,off,none⟩ (i*sz))=⟨b,off+i*sz,none⟩:=(by unfold Addr.add;split;{rename_i h0;rw[h0];rfl};rfl);rw[hadd]at g1;obtain⟨k1,k2⟩:=cells_at g1 rfl;exact⟨k1,k2,hR⟩
 obtain⟨l,hll,hl⟩:=Ld key;refine⟨l,hll,λy hy=>?_,λhne=>?_,a7Z λi y hy=>(hl i y hy).2.2⟩;{obtain⟨i,hi⟩:=kD.1 hy;exact(hl i y hi).1}
 match l,hne,hl with
 |y::l,_,hl=>exact(hl 0 y rfl).2.1
theorem take1{cs:List Value}(h:cs.length=3):∃a b c,cs=[a,b,c]:=by
 match cs,h with
 | [a,b,c],_=>exact⟨a,b,c,rfl⟩
theorem a8n{t:TypeId}{fs:Array Field}(hfs:P.underlying t=some (.struct fs))(hs:b5F P t fs.toList=true):∀(fuel:Nat) (cs:List Value) (x:DataW H×List MemPlace),
  DataW.trod enc P w base spare held fuel t cs=some x->∃A,b33 A/\Rd w (Im0 w) A cs:=by
 obtain⟨f,g,h,hfl⟩:∃f g h,fs.toList=[f,g,h]:=by unfold b5F at hs;split at hs;{exact⟨_,_,_,‹_›⟩};cases hs
 rw[hfl]at hs;simp only[b5F,aN]at hs;obtain⟨⟨⟨⟨⟨⟨⟨⟨⟨c3,o0⟩,o1⟩,o2⟩,s0⟩,s1⟩,s2⟩,u0⟩,u1⟩,u2⟩:=hs;have c3:=aK c3;have o0:=aK o0;have o1:=aK o1;have o2:=aK o2;have s0:=aK s0;have s1:=aK s1;have s2:=aK s2;split at u0 <;> first|contradiction|skip
 rename_i k0 hu0;obtain rfl:=xY u0;split at u1 <;> first|contradiction|skip
 rename_i e hu1;obtain rfl:=aK u1;split at u2 <;> first|contradiction|skip
 rename_i k2 hu2;obtain rfl:=xY u2;intro fuel;induction fuel using Nat.strongRecOn with
 |_ fuel ih =>
 intro cs x hx;obtain⟨xs,n,rfl,_,hl,hxl,hf⟩:=DataW.trod_struct hfs hx;have hsz:fs.size=3:=by rw[<- bM,hfl];rfl
 have gf:∀(i:Nat) (q:Field),[f,g,h][i]? = some q->fs[i]? = some q:=λi q hq=>(by rw[<- bJ,hfl];exact hq);have hxs:∀i,i<3->∃y,xs[i]? = some y:=λi hi=>⟨_,aH aj⟩;obtain⟨a,b,c,rfl⟩:=take1 (by rw[hl];exact c3);obtain⟨y0,e0⟩:=hxs 0 aj;obtain⟨y1,e1⟩:=hxs 1 aj;obtain⟨y2,e2⟩:=hxs 2 aj;have t0:=hf 0 f (gf 0 f rfl);have t1:=hf 1 g (gf 1 g rfl);have t2:=hf 2 h (gf 2 h rfl);rw[o0,s0,e0]at t0;rw[o1,s1,e1]at t1;rw[o2,s2,e2]at t2;simp only[fD,jo,jO,nP]at t0 t1 t2;obtain⟨v,hv,_,w0⟩:=DataW.trod_int hu0 t0;obtain⟨r,hr,_,w2⟩:=DataW.trod_int hu2 t2;obtain rfl:a=_:=(nR hv).1;obtain rfl:c=_:=(nR hr).1;have mid:∃ks:List AV,(∀k∈ks,b33 k)/\Rd w (Im0 w) (.sl 3 ks .no) [b]:=(by rcases DataW.trod_slice hu1 t1 with⟨hb,_⟩|⟨ad,len,cap,elems,rest,m,hm,hb,_,_,hlc,hcm,hel,hat,_,_⟩;{refine⟨[],ak,?_⟩;rw[hb];simp only[Rd];exact⟨by simp[maxL],.inl ⟨trivial,trivial⟩⟩};rw[c3]at hat;obtain⟨l,hll,hq,hsp,hR⟩:=a3G aj b33 hel hat (λcs x _ hx=>ih m aj cs x hx);refine⟨l,hq,?_⟩;rw[hb];simp only[Rd];subst hll;exact⟨dH hlc hcm,.inr ⟨ad,cap,rfl,hlc,hcm,hsp,hR⟩⟩);obtain⟨ks,hks,hR⟩:=mid;refine⟨_,.mk v r ks hks,?_⟩;simp only[Rd,DX];refine⟨[.int .i64 v],[b,.int .i64 r],rfl,⟨rfl,a4G w0⟩,[b],[.int .i64 r],rfl,?_,[.int .i64 r],[],rfl,⟨rfl,a4G w2⟩,rfl⟩;simpa only[Rd]using hR
mutual
theorem a0Y:∀(S:Sh) {t:TypeId} {fuel:Nat} {cs:List Value} {x:DataW H×List MemPlace},shB P S t=true->DataW.trod enc P w base spare held fuel t cs=some x->∃A,S.In A/\Rd w (Im0 w) A cs
 | .bool,t,fuel,cs,x,hs,h=>by
   simp only[shB]at hs;split at hs <;> first|contradiction|skip
   obtain⟨b,rfl,_⟩:=DataW.trod_bool ‹_› h;exact⟨.bool b,⟨b,rfl⟩,by simp only[Rd]⟩
 | .int k,t,fuel,cs,x,hs,h=>by
   simp only[shB]at hs;split at hs <;> first|contradiction|skip
   obtain rfl:=xY hs;obtain⟨n,rfl,_,hw⟩:=DataW.trod_int ‹_› h;exact⟨.int k n,⟨n,rfl⟩,by simp only[Rd];exact⟨trivial,a4G hw⟩⟩
 | .str,t,fuel,cs,x,hs,h=>by
   simp only[shB]at hs;split at hs <;> first|contradiction|skip
   obtain⟨s,rfl,_,hl⟩:=DataW.trod_string ‹_› h;refine⟨.str s.data.toList,⟨_,rfl⟩,?_⟩;simp only[Rd];refine⟨trivial,?_⟩;have:s.size=s.data.toList.length:=(by rw[bM];rfl);rw[<- this];exact hl
 | .sl sz s,t,fuel,cs,x,hs,h=>by
   simp only[shB]at hs;split at hs <;> first|contradiction|skip
   rename_i e he;simp only[aN]at hs;obtain⟨⟨h1,h2⟩,h3⟩:=hs;have h1:=aK h1;have h2:0<sz:=bI h2;rcases DataW.trod_slice he h with⟨rfl,_⟩|⟨a,len,cap,elems,rest,n,_,rfl,_,_,hlc,hcm,hel,hat,_,_⟩;{exact⟨.sl sz [] .no,⟨[],rfl,ak⟩,by simp only[Rd];exact⟨by simp[maxL],.inl ⟨trivial,trivial⟩⟩⟩};rw[h1]at hat;have key:∀i,i<len->∃A:AV,s.In A/\a.spot=none/\∃cs,cs.length=sz/\AO w (Im0 w) a.block (a.off+i*sz) cs/\Rd w (Im0 w) A cs:=by
    intro i hi;have:=hat i hi;rw[aH aj]at this;obtain⟨cs',g1,g2⟩:=lu.1 this;obtain⟨A,hA,hR⟩:=a0Y s h3 g2;have hsp:a.spot=none:=by have:=hat 0 aj;rw[aH aj]at this;obtain⟨cs0,g1,_⟩:=lu.1 this;obtain⟨_,hl,hc⟩:=World.cells?_some g1;have h0:=hc 0 h2;rw[aH aj]at h0;have:=World.cell?_spot h0;obtain⟨b,off,spot⟩:=a;simpa[Addr.add]using this
    refine⟨A,hA,hsp,cs',?_⟩;obtain⟨b,off,spot⟩:=a;simp only at hsp;subst hsp;have hadd:(Addr.add ⟨b,off,none⟩ (i*sz))=⟨b,off+i*sz,none⟩:=(by unfold Addr.add;split;{rename_i h0;rw[h0];rfl};rfl);rw[hadd]at g1;obtain⟨k1,k2⟩:=cells_at g1 rfl;exact⟨k1,k2,hR⟩
   obtain⟨l,hll,hl⟩:=Ld key;refine⟨.sl sz l .no,⟨l,rfl,λy hy=>?_⟩,?_⟩;{obtain⟨i,hi⟩:=kD.1 hy;exact(hl i y hi).1};simp only[Rd];subst hll;refine⟨dH hlc hcm,.inr ⟨a,cap,rfl,hlc,hcm,λhne=>?_,a7Z λi y hy=>(hl i y hy).2.2⟩⟩
   match l,hne,hl with
   |y::l,_,hl=>exact(hl 0 y rfl).2.1
 | .st l,t,fuel,cs,x,hs,h=>by
   simp only[shB]at hs;split at hs <;> first|contradiction|skip
   rename_i fs hfs;obtain⟨xs,n,_,_,hl,hx,hf⟩:=DataW.trod_struct hfs h;have hf':∀(i:Nat) (f:Field),fs.toList[i]? = some f->∃x,DataW.trod enc P w base spare held n f.type ((cs.drop f.offset).take (P.cellsOf f.type))=some x:=by
    intro i f hi;have hi':fs[i]? = some f:=by simpa using hi
    have:=hf i f hi';rw[aH (by rw[hx];exact(dG.1 hi').1)]at this;exact⟨_,this⟩
   obtain⟨as,h1,h2⟩:=a18 l (n:=P.cellsOf t) (fs:=fs.toList) (off:=0) hs aj hf';exact⟨.ag as,⟨as,rfl,h1⟩,by simp only[Rd];simpa using h2⟩
 | .spl,t,fuel,cs,x,hs,h=>by
   simp only[shB]at hs;split at hs <;> first|contradiction|skip
   rename_i fs hfs;exact a8n hfs hs fuel cs x h
theorem a18:∀(l:List Sh) {n:Nat} {fs:List Field} {off fuel:Nat} {cs:List Value},fieldsB P n l fs off=true->cs.length=n ->
  (∀(i:Nat) f,fs[i]? = some f->∃x:DataW H×List MemPlace,DataW.trod enc P w base spare held fuel f.type ((cs.drop f.offset).take (P.cellsOf f.type))=some x)->∃as,InL l as/\DX w (Im0 w) as (cs.drop off)
 | [],n,[],off,fuel,cs,hb,hl,_=>by simp only[fieldsB]at hb;obtain rfl:=aK hb;exact⟨[],rfl,by simp only[DX];exact aX aj⟩
 | [],n,_::_,off,fuel,cs,hb,hl,_=>by simp[fieldsB]at hb
 |s::l,n,[],off,fuel,cs,hb,hl,_=>by simp[fieldsB]at hb
 |s::l,n,f::fs,off,fuel,cs,hb,hl,hf=>by simp only[fieldsB,aN]at hb;obtain⟨⟨h1,h2⟩,h3⟩:=hb;have h1:=aK h1;obtain⟨x,hx⟩:=hf 0 f rfl;obtain⟨A,hA,hR⟩:=a0Y s h2 hx;obtain⟨as,g1,g2⟩:=a18 l (n:=n) (fs:=fs) (off:=off+P.cellsOf f.type) h3 hl λi f hi=>hf (i+1) f (by simpa using hi);refine⟨A::as,⟨A,as,rfl,hA,g1⟩,?_⟩;simp only[DX];rw[h1]at hR;refine⟨_,_,?_,hR,g2⟩;rw[<- kL,fH]
end
theorem b3M{r:Reach}{b0:Nat}{t:TypeId}{v:Value}{d:DataW H}{ps:List MemPlace}(S:Sh)(hs:shB P S t=true)(hval:Value.okWide P w r b0 t v)(h:DataW.Trod enc P w base spare held t v d ps) :
  ∃A,S.In A/\EV (cx0 w) A v:=by
 obtain⟨fuel,hf⟩:=h;obtain⟨A,hA,hR⟩:=a0Y S hs hf;refine⟨A,hA,rZ (b0k ?_ hR)⟩;cases S with
 | spl =>
   obtain⟨_,_,_,_⟩:=hA;simp only[shB]at hs;split at hs <;> first|contradiction|skip
   rename_i fs hfs;unfold Value.okWide at hval;rw[hfs]at hval;obtain⟨cs,rfl,_⟩:=hval;exact⟨λ_=>⟨cs,rfl⟩,λhn=>by simp[uz]at hn⟩
 | st l =>
   obtain⟨as,rfl,_⟩:=hA;simp only[shB]at hs;split at hs <;> first|contradiction|skip
   rename_i fs hfs;unfold Value.okWide at hval;rw[hfs]at hval;obtain⟨cs,rfl,_⟩:=hval;exact⟨λ_=>⟨cs,rfl⟩,λhn=>by simp[uz]at hn⟩
 | bool =>
   obtain⟨b,rfl⟩:=hA;simp only[shB]at hs;split at hs <;> first|contradiction|skip
   rename_i ht;unfold Value.okWide at hval;simp only[ht,Cell.okWide,Cell.ok]at hval;refine⟨λhn=>by simp[uz]at hn,λ_=>?_⟩;cases v <;> first|rfl|simp at hval
 | int k =>
   obtain⟨b,rfl⟩:=hA;simp only[shB]at hs;split at hs <;> first|contradiction|skip
   rename_i ht;unfold Value.okWide at hval;simp only[ht,Cell.okWide,Cell.ok]at hval;refine⟨λhn=>by simp[uz]at hn,λ_=>?_⟩;cases v <;> first|rfl|simp at hval
 | str =>
   obtain⟨b,rfl⟩:=hA;simp only[shB]at hs;split at hs <;> first|contradiction|skip
   rename_i ht;unfold Value.okWide at hval;simp only[ht,Cell.okWide,Cell.ok]at hval;refine⟨λhn=>by simp[uz]at hn,λ_=>?_⟩;cases v <;> first|rfl|simp at hval
 | sl sz s =>
   obtain⟨l,rfl,_⟩:=hA;simp only[shB]at hs;split at hs <;> first|contradiction|skip
   rename_i ht;unfold Value.okWide at hval;simp only[ht,Cell.okWide,Cell.ok]at hval;refine⟨λhn=>by simp[uz]at hn,λ_=>?_⟩;cases v <;> first|rfl|simp at hval
end
end Go.AL
namespace Go.AL
theorem qX.pre{P:Program}{f:Nat}{args:List AV}{R:AV}{H H' G:Heap}(hcv:Cv [] H [] H')(h:qX P f args H' R G):qX P f args H R G:=by refine⟨h.1,λc vs hr hv=>?_⟩;have ha:BR 0 c [] { tmps:=#[],defers:=[] }:=⟨λt A hA=>by simp[uY]at hA,rfl,rfl⟩;obtain⟨d,g1,g2,_⟩:=Fq hcv hr ha;have:=h.2 d vs g2.hr (Vk.mono g2.le hv);rw[g1]at this;refine this.mono ?_;rintro e w' ⟨v,d',k1,k2,k3,k4⟩;exact⟨v,d',k1,k2,g2.trans k3,k4⟩
theorem qX.b2p{P:Program}{f:Nat}{args:List AV}{R:AV}{H G:Heap}(i:Nat)(p:List Nat)(sz:Nat){A A':AV}(h1:args[i]? = some A)(hA:uz A=true)(hp:Kz A p λx=>x=.qW)
  (hs:IZ A p (.sl sz [] (.own (nextId H))) λx=>x=A') (hA':uz A'=true) (h:qX P f (args.set i A') ((nextId H,.tok sz 0)::H) R G):qX P f args H R G:=by
 refine⟨h.1,λc vs hr hv=>?_⟩;obtain⟨v,hvi,hAv⟩:=Yz hv h1;have hval:isVal A=true:=by cases A <;> simp[uz]at hA <;> rfl
 have hVV:=Ew hAv hval;obtain⟨cs,rfl⟩:=hVV.1.1 hA;have h2:VR c A cs.toList:=hVV.2;obtain⟨B0,hp0,rfl⟩:=BI.1 hp;obtain⟨pre,xs,post,e0,h4,h5⟩:=NH h2 hp0;obtain⟨u,rfl,_⟩:=Aq h5 rfl;have hu:VV c .qW u:=Gi h5 rfl;obtain⟨base,e1,hR⟩:=I8 (sz:=sz) hu;obtain⟨d,hw,htr,hV⟩:=Tr.Ox hr hR;rw[<- e1]at hV;obtain⟨A'',x1,pre',xs',post',g1,g2,g3,g4,g5,g6⟩:=Dc (SX hV rfl) (DW htr.le _ _ h2) hs;obtain rfl:AV.qW=x1:=(by rw[hp0]at g1;exact aW g1);obtain⟨u',rfl,_⟩:=Aq g4 rfl;have hpl:pre.length=pre'.length:=(by rw[h4,g3]);have hcs:pre'++[u]++post'=cs.toList:=(by rw[e0]at g2 ⊢;rw[bP,bP]at g2;obtain⟨r1,r2⟩:=jZ g2 hpl;obtain⟨r3,r4⟩:=jZ r2 rfl;rw[r1,r4]);rw[hcs,g6]at g5;have hd:EV d A' (.agg cs):=rZ ⟨⟨λ_=>⟨cs,rfl⟩,λh=>by rw[hA']at h;cases h⟩,g5⟩;have:=h.2 d vs htr.hr (Vk htr.le hv hvi hd);rw[hw]at this;refine this.mono ?_;rintro e w' ⟨v',d',k1,k2,k3,k4⟩;exact⟨v',d',k1,k2,htr.trans k3,k4⟩
end Go.AL
namespace Go.AL
theorem zA{n:Int}{p:Prop}(k:p)(h1 : -9223372036854775808<=n:=by omega)(h2:n<=9223372036854775807:=by omega):KF .i64 n/\p:=⟨rQ h1 h2,k⟩
theorem zY{p A B:Prop}(k:A)(h:p:=by decide +kernel):(p->A)/\(¬p->B):=bY h k
theorem zN{p A B:Prop}(k:B)(h:¬p:=by decide +kernel):(p->A)/\(¬p->B):=bN h k
theorem zI{n:Int}{p:Prop}(k:p)(h1 : -9223372036854775808<=n:=by decide +kernel)(h2:n<=9223372036854775807:=by decide +kernel):KF .i64 n/\p:=⟨rQ h1 h2,k⟩
theorem zD{p q:Prop}(k:q)(h:p:=by decide +kernel):p/\q:=⟨h,k⟩
theorem zC{α:Type}{l:List α}{lo hi:Int}{k:List α->Prop}(h':k ((l.drop lo.toNat).take (hi.toNat-lo.toNat)))(h:0<=lo/\lo<=hi/\hi<=(l.length:Int):=by decide +kernel):b1m l lo hi k:=⟨h,h'⟩
theorem zT{sz bytes:Nat}{l m:List AV}{H:Heap}{k:AV->Heap->Prop}(next:Gz H (.tok sz (l.length+m.length)) λj H'=>k (.sl sz (l++m) (.own j)) H')(len:l.length+m.length<=maxL:=by decide +kernel)(room:(l.length+m.length)*bytes<=140737488355328:=by decide +kernel):Ou sz bytes l m H k:=.tok len room next
theorem zU{sz bytes:Nat}{l m:List AV}{H:Heap}{k:AV->Heap->Prop}(next:Gz H (.tok sz (l.length+m.length)) λj H'=>k (.sl sz (l++m) (.own j)) H')(len:l.length+m.length<=maxL:=by decide +kernel)(room:(l.length+m.length)*bytes<=140737488355328:=by decide +kernel):b3Q sz bytes l m H k:=.tok len room next
theorem w1{p:Prop}(h:p:=by first|exact rfl|exact trivial|exact wR|exact lR _):p:=h
theorem wk{p:Prop}(h:p:=by repeat' first|exact rfl|exact trivial|exact wR|exact lR _|apply aI):p:=h
end Go.AL
namespace Go.AL
theorem ZW{p q:Prop}(k:q)(e:p=q:=by(conv=>lhs;(try dsimp only[UA]);whnf);(try exact rfl)):p:=Eq.mpr e k
theorem Z0{p q:Prop}(k:q)(e:p=q:=by(conv=>lhs;(try dsimp only[b07,a5b]);(try dsimp only[UA]);whnf);(try exact rfl)):p:=Eq.mpr e k
theorem ZG{n:Int}{p q:Prop}(k:q)(h1 : -9223372036854775808<=n:=by omega)(h2:n<=9223372036854775807:=by omega)(e:p=q:=by(conv=>lhs;whnf);(try exact rfl)):KF .i64 n/\p:=⟨rQ h1 h2,Eq.mpr e k⟩
theorem ZF{L:Lay}{res:List ResultVar}{R:AV}{e:Env}{H:Heap}{a b q:Prop}(k:q)(h1:(V3 L e H res λAs=>YC As λA=>le A R/\tq 0 R=true)=(a/\b):=by(conv=>lhs;whnf);(try exact rfl))(h2:b:=by exact rfl)(h3:a=q:=by(conv=>lhs;whnf);(try exact rfl)):uZ L res [] R [] e H:=uZ.mono (Eq.mpr h1 ⟨Eq.mpr h3 k,h2⟩)
theorem ZR{F:FT}{L:Lay}{ops:List Oper}{e:Env}{H:Heap}{k:Env->Heap->Prop}{q:Prop}(k':q)(h1:TW ops (ops.map λo=>b3X o.op)=true:=by kernel_rfl)(h2:(FK F L ops (ops.zip (ops.map λo=>b3X o.op)) e H k)=q:=by(conv=>lhs;whnf);(try exact rfl)):wX F L ops e H k:=wX.auto h1 (Eq.mpr h2 k')
theorem IQ.zP{F:FT}{vS:AV->Prop}{f:Nat}{args Bs:List AV}{H:Heap}{k:AV->Heap->Prop}{R:AV}(h:F f Bs [] R [])(h':vS R->k R H)(hle:Ll args Bs:=by first|exact rM _|(repeat' first|exact rfl|exact trivial|exact wR|exact lR _|apply aI))(hb:vT 0 Bs=true/\tq 0 R=true:=by exact⟨rfl,rfl⟩):IQ F vS f args H k:=.pure Bs R hle hb h h'
theorem Ir.zP{F:FT}{vS:AV->Prop}{f:Nat}{args Bs:List AV}{H:Heap}{k:AV->Heap->Prop}{R:AV}(h:F f Bs [] R [])(h':vS R->k R H)(hle:Ll args Bs:=by first|exact rM _|(repeat' first|exact rfl|exact trivial|exact wR|exact lR _|apply aI))(hb:vT 0 Bs=true/\tq 0 R=true:=by exact⟨rfl,rfl⟩):Ir F vS f args H k:=.pure Bs R hle hb h h'
theorem IU.zP{F:FT}{f:Nat}{args Bs:List AV}{k:AV->Prop}{R:AV}(h:F f Bs [] R [])(h':k R)(hle:Ll args Bs:=by first|exact rM _|(repeat' first|exact rfl|exact trivial|exact wR|exact lR _|apply aI))(hb:vT 0 Bs=true/\tq 0 R=true:=by exact⟨rfl,rfl⟩):IU F f args k:=.pure Bs R hle hb h h'
theorem ZJ{p:Prop}(h:p:=by refine ZW ?_;refine ZF ?_;exact wk):p:=h
theorem ZH{p:Prop}(h:p:=by refine ZF ?_;exact wk):p:=h
theorem Zv{a:Prop}{H G:Heap}(x:a)(y:WkH H (nextId G) G)(z:uQ G:=by simp[uQ]):a/\HWk H G:=⟨x,.mk y z⟩
theorem Zx{a b c:Prop}{H G:Heap}(x:a)(y:WkH H (nextId G) G)(h1:b:=by exact rfl)(h2:c:=by simp[nextId])(z:uQ G:=by simp[uQ]):a/\b/\c/\HWk H G:=⟨x,h1,h2,.mk y z⟩
theorem Zq{p:Prop}(h:p:=by first|exact rfl|exact trivial|exact wR|exact lR _):p:=h
theorem ZX{p:Prop}(h:p:=by refine⟨⟨_,_,.refl _ _,?_⟩⟩;(conv=>whnf);refine⟨?_,rfl,by simp[nextId],.mk ?_ (by simp[uQ])⟩ <;> exact wk):p:=h
theorem ZV{p:Prop}(h:p:=by refine⟨?_,.mk ?_ (by simp[uQ])⟩ <;> exact wk):p:=h
theorem IQ.zW{F:FT}{vS:AV->Prop}{f:Nat}{args Bs:List AV}{H:Heap}{k:AV->Heap->Prop}{R:AV}{q:Prop}(h:F f Bs [] R [])(k':q)(hle:Ll args Bs:=by first|exact rM _|(repeat' first|exact rfl|exact trivial|exact wR|exact lR _|apply aI))(hb:vT 0 Bs=true/\tq 0 R=true:=by exact⟨rfl,rfl⟩)(e:k R H=q:=by(conv=>lhs;(try dsimp only[UA]);whnf);(try exact rfl)):IQ F vS f args H k:=.pure Bs R hle hb h λ_=>Eq.mpr e k'
theorem IQ.zK{F:FT}{vS:AV->Prop}{f:Nat}{args Bs:List AV}{H:Heap}{k:AV->Heap->Prop}{R:AV}{q:Prop}(h:F f Bs [] R [])(k':q)(hle:Ll args Bs:=by first|exact rM _|(repeat' first|exact rfl|exact trivial|exact wR|exact lR _|apply aI))(hb:vT 0 Bs=true/\tq 0 R=true:=by exact⟨rfl,rfl⟩)(e:k R H=q:=by(conv=>lhs;whnf);(try exact rfl)):IQ F vS f args H k:=.pure Bs R hle hb h λ_=>Eq.mpr e k'
theorem IQ.zR{F:FT}{vS:AV->Prop}{f:Nat}{args Bs:List AV}{H:Heap}{k:AV->Heap->Prop}{R:AV}{q:Prop}(h:F f Bs [] R [])(k':q)(hle:Ll args Bs:=by(repeat' (first|exact trivial|refine aI ?_ ?_|decide +kernel|exact rfl)))(hb:vT 0 Bs=true/\tq 0 R=true:=by exact⟨rfl,rfl⟩)(e:q->k R H:=by intro k';(conv=>whnf);(repeat' ((first|refine qV.step 300 ?_|refine zY ?_|refine zN ?_|refine zI ?_|refine zD ?_|refine DZ.mk ⟨_,⟨ay,rfl⟩,?_⟩|refine zC ?_|refine zT ?_|refine zU ?_|refine b3R.mk ay ay ?_|refine YB.wr ?_|refine wX.auto (by kernel_rfl) ?_);(conv=>whnf)));exact k'):IQ F vS f args H k:=.pure Bs R hle hb h λ_=>e k'
theorem Ir.zW{F:FT}{vS:AV->Prop}{f:Nat}{args Bs:List AV}{H:Heap}{k:AV->Heap->Prop}{R:AV}{q:Prop}(h:F f Bs [] R [])(k':q)(hle:Ll args Bs:=by first|exact rM _|(repeat' first|exact rfl|exact trivial|exact wR|exact lR _|apply aI))(hb:vT 0 Bs=true/\tq 0 R=true:=by exact⟨rfl,rfl⟩)(e:k R H=q:=by(conv=>lhs;(try dsimp only[UA]);whnf);(try exact rfl)):Ir F vS f args H k:=.pure Bs R hle hb h λ_=>Eq.mpr e k'
theorem Ir.zK{F:FT}{vS:AV->Prop}{f:Nat}{args Bs:List AV}{H:Heap}{k:AV->Heap->Prop}{R:AV}{q:Prop}(h:F f Bs [] R [])(k':q)(hle:Ll args Bs:=by first|exact rM _|(repeat' first|exact rfl|exact trivial|exact wR|exact lR _|apply aI))(hb:vT 0 Bs=true/\tq 0 R=true:=by exact⟨rfl,rfl⟩)(e:k R H=q:=by(conv=>lhs;whnf);(try exact rfl)):Ir F vS f args H k:=.pure Bs R hle hb h λ_=>Eq.mpr e k'
theorem Ir.zR{F:FT}{vS:AV->Prop}{f:Nat}{args Bs:List AV}{H:Heap}{k:AV->Heap->Prop}{R:AV}{q:Prop}(h:F f Bs [] R [])(k':q)(hle:Ll args Bs:=by(repeat' (first|exact trivial|refine aI ?_ ?_|decide +kernel|exact rfl)))(hb:vT 0 Bs=true/\tq 0 R=true:=by exact⟨rfl,rfl⟩)(e:q->k R H:=by intro k';(conv=>whnf);(repeat' ((first|refine qV.step 300 ?_|refine zY ?_|refine zN ?_|refine zI ?_|refine zD ?_|refine DZ.mk ⟨_,⟨ay,rfl⟩,?_⟩|refine zC ?_|refine zT ?_|refine zU ?_|refine b3R.mk ay ay ?_|refine YB.wr ?_|refine wX.auto (by kernel_rfl) ?_);(conv=>whnf)));exact k'):Ir F vS f args H k:=.pure Bs R hle hb h λ_=>e k'
theorem IU.zW{F:FT}{f:Nat}{args Bs:List AV}{k:AV->Prop}{R:AV}{q:Prop}(h:F f Bs [] R [])(k':q)(hle:Ll args Bs:=by first|exact rM _|(repeat' first|exact rfl|exact trivial|exact wR|exact lR _|apply aI))(hb:vT 0 Bs=true/\tq 0 R=true:=by exact⟨rfl,rfl⟩)(e:k R=q:=by(conv=>lhs;(try dsimp only[UA]);whnf);(try exact rfl)):IU F f args k:=.pure Bs R hle hb h (Eq.mpr e k')
theorem IU.zK{F:FT}{f:Nat}{args Bs:List AV}{k:AV->Prop}{R:AV}{q:Prop}(h:F f Bs [] R [])(k':q)(hle:Ll args Bs:=by first|exact rM _|(repeat' first|exact rfl|exact trivial|exact wR|exact lR _|apply aI))(hb:vT 0 Bs=true/\tq 0 R=true:=by exact⟨rfl,rfl⟩)(e:k R=q:=by(conv=>lhs;whnf);(try exact rfl)):IU F f args k:=.pure Bs R hle hb h (Eq.mpr e k')
theorem ZU{p q:Prop}(k:q)(e:q->p:=by intro k;(conv=>whnf);(repeat' ((first|refine qV.step 300 ?_|refine zY ?_|refine zN ?_|refine zI ?_|refine zD ?_|refine DZ.mk ⟨_,⟨ay,rfl⟩,?_⟩|refine zC ?_|refine zT ?_|refine zU ?_|refine b3R.mk ay ay ?_|refine YB.wr ?_|refine wX.auto (by kernel_rfl) ?_);(conv=>whnf)));exact k):p:=e k
theorem ZS{p x y:Prop}(k1:x)(k2:y)(e:p=(x/\y):=by(conv=>lhs;(try dsimp only[UA]);whnf);(try exact rfl)):p:=Eq.mpr e ⟨k1,k2⟩
theorem ZE{p a:Prop}{H G:Heap}(x:a)(y:WkH H (nextId G) G)(e:a->WkH H (nextId G) G->p:=by intro x y;(refine⟨⟨_,_,.refl _ _,?_⟩⟩);(conv=>whnf);exact⟨x,rfl,by simp[nextId],.mk y (by simp[uQ])⟩):p:=e x y
end Go.AL