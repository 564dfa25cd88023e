/-
  A logic for calls of Go functions: code is sound. Nothing is assumed.
-/
import Derived.Test.YtdkhmfabhfgemaaGreatT1
import Derived.Orders
namespace Go.AL
def J6(l:List Operand)(e e':Env):Prop:=∀t,.tmp t∈l->uY e t=uY e' t
theorem a7I{e e':Env}{x:Operand}(h:∀t,x=.tmp t->uY e t=uY e' t):uj e x=uj e' x:=by
 funext k;cases x with
 |tmp t =>simp only[uj];apply propext;rw[yB,yB,h t rfl]
 |_=>rfl
theorem J6.uj{l:List Operand}{e e':Env}(h:J6 l e e'){x:Operand}(hx:x∈l):uj e x=uj e' x :=
 a7I λt ht=>h t (by rw[<- ht];exact hx)
theorem J4{e e':Env}:∀{l:List Operand},J6 l e e'->FI e l=FI e' l
 | [],_=>rfl
 |x::l,h=>by funext k;simp only[FI];rw[h.uj ak,J4 (l:=l) λt ht=>h t (by simp[ht])]
theorem QN{e e':Env}:∀{ps:List (Nat×Operand)},J6 (ps.map (·.2)) e e'->zk e ps=zk e' ps
 | [],_=>rfl
 |(i,x)::ps,h=>by funext zs k;simp only[zk];rw[h.uj ak,QN (ps:=ps) λt ht=>h t (by simp at ht ⊢;exact .inr ht)]
theorem Om{e e':Env}:∀{ps:List (Nat×Operand)},J6 (ps.map (·.2)) e e'->zO e ps=zO e' ps
 | [],_=>rfl
 |(i,x)::ps,h=>by funext zs k;simp only[zO];rw[h.uj ak,Om (ps:=ps) λt ht=>h t (by simp at ht ⊢;exact .inr ht)]
theorem XZ{e e':Env}{x:Option Operand}{d:Int}(h:J6 x.toList e e'):LX e x d=LX e' x d:=by
 funext k;cases x with
 |none=>rfl
 |some y=>simp only[LX];rw[h.uj ak]
theorem a0I{L:Lay}{t:Nat}{e e':Env}{A:AV}{lo hi:Option Operand}(h:J6 (lo.toList++hi.toList) e e'):aslice L t e A lo hi=aslice L t e' A lo hi:=by have h1:∀d,LX e lo d=LX e' lo d:=λd=>XZ λt ht=>h t (by simp[ht]);have h2:∀d,LX e hi d=LX e' hi d:=λd=>XZ λt ht=>h t (by simp[ht]);funext k;simp only[aslice,h1,h2]
theorem a7x{F:FT}{vS:AV->Prop}{L:Lay}{op:Op}{e e':Env}(h:J6 (tJ op) e e'):xH F vS L op e=xH F vS L op e':=by
 funext H k ks;cases op with
 |move x=>simp only[xH];rw[h.uj (by simp[tJ])]
 |assign x=>simp only[xH];rw[h.uj (by simp[tJ])]
 |pick x y z=>simp only[xH];rw[h.uj (x:=x) (by simp[tJ]),h.uj (x:=y) (by simp[tJ]),h.uj (x:=z) (by simp[tJ])]
 |box t x=>simp only[xH];rw[h.uj (by simp[tJ])]
 |build t ps=>simp only[xH];rw[QN h]
 |buildSlice t n ps=>simp only[xH];rw[Om h]
 |load t x=>simp only[xH];rw[h.uj (by simp[tJ])]
 |store t x y=>simp only[xH];rw[h.uj (x:=x) (by simp[tJ]),h.uj (x:=y) (by simp[tJ])]
 |nilCheck x=>simp only[xH];rw[h.uj (by simp[tJ])]
 |binOp op t x y ty=>simp only[xH];rw[h.uj (x:=x) (by simp[tJ]),h.uj (x:=y) (by simp[tJ])]
 |unOp op t x=>simp only[xH];rw[h.uj (by simp[tJ])]
 |typeAssert x xt s ok=>simp only[xH];rw[h.uj (by simp[tJ])]
 |lookup t x y ok=>simp only[xH];rw[h.uj (x:=x) (by simp[tJ]),h.uj (x:=y) (by simp[tJ])]
 |mapUpdate t x y z=>simp only[xH];rw[h.uj (x:=x) (by simp[tJ]),h.uj (x:=y) (by simp[tJ]),h.uj (x:=z) (by simp[tJ])]
 |convert s d x=>simp only[xH];rw[h.uj (by simp[tJ])]
 |makeInterface t x=>simp only[xH];rw[h.uj (by simp[tJ])]
 |makeFunc f first cap=>simp only[xH];rw[J4 (l:=cap.toList) h]
 |makeSlice t x y=>simp only[xH];rw[h.uj (x:=x) (by simp[tJ]),h.uj (x:=y) (by simp[tJ])]
 |slice t x lo hi mx =>simp only[xH];rw[h.uj (x:=x) (by simp[tJ])];have:=λA=>a0I (L:=L) (t:=t) (A:=A) (lo:=lo) (hi:=hi) (e:=e) (e':=e') λt ht=>h t (by simp only[tJ,aT];exact .inr ht);simp only[this]
 |fieldAddr t x f=>simp only[xH];rw[h.uj (by simp[tJ])]
 |indexAddr t x y=>simp only[xH];rw[h.uj (x:=x) (by simp[tJ]),h.uj (x:=y) (by simp[tJ])]
 |index t x y=>simp only[xH];rw[h.uj (x:=x) (by simp[tJ]),h.uj (x:=y) (by simp[tJ])]
 |extract x i=>simp only[xH];rw[h.uj (by simp[tJ])]
 | call cl =>
   cases hc:cl.callee with
   |value f =>simp only[xH,hc];simp only[tJ,hc]at h;rw[h.uj (x:=f) ak,J4 λt ht=>h t (by simp[ht])]
   |builtin b =>simp only[xH,hc];simp only[tJ,hc]at h;rw[J4 λt ht=>h t (by simp[ht])]
   |invoke r m=>simp only[xH,hc]
 |_=>rfl
end Go.AL
namespace Go.AL
def vX{α:Type}(T:(α->Prop)->Prop):Prop:=∀k,T k->∃x,k x/\∀k':α->Prop,k' x->T k'
def YA(T:Prop->Prop):Prop:=∀k,T k->k/\∀k':Prop,k'->T k'
theorem vX.bind{α β:Type}{T:(α->Prop)->Prop}{U:α->(β->Prop)->Prop}(h:vX T)(g:∀a,vX (U a)):vX λk=>T λa=>U a k:=by intro k hk;obtain⟨a,h1,h2⟩:=h _ hk;obtain⟨b,h3,h4⟩:=g a _ h1;exact⟨b,h3,λk' hk'=>h2 _ (h4 k' hk')⟩
theorem YA.bind{β:Type}{T:Prop->Prop}{U:(β->Prop)->Prop}(h:YA T)(g:vX U):vX λk=>T (U k):=by intro k hk;obtain⟨h1,h2⟩:=h _ hk;obtain⟨b,h3,h4⟩:=g _ h1;exact⟨b,h3,λk' hk'=>h2 _ (h4 k' hk')⟩
theorem vX.pure{α:Type}(x:α):vX λk=>k x:=λ_ h=>⟨x,h,λ_ h=>h⟩
theorem vX.no{α:Type}:vX fun(_:α->Prop)=>False:=λ_ h=>h.elim
theorem vX.map{α β:Type}{T:(α->Prop)->Prop}(h:vX T)(f:α->β):vX λk=>T λa=>k (f a):=h.bind λa=>vX.pure (f a)
theorem vX.and{α:Type}{p:Prop}{T:(α->Prop)->Prop}(h:vX T):vX λk=>p/\T k:=by rintro k ⟨hp,hk⟩;obtain⟨x,h1,h2⟩:=h k hk;exact⟨x,h1,λk' hk'=>⟨hp,h2 k' hk'⟩⟩
theorem vX.cases{α:Type}{p:Prop}{T U:(α->Prop)->Prop}(h:vX T)(g:vX U):vX λk=>(p->T k)/\(¬p->U k):=by rintro k ⟨h1,h2⟩;by_cases hp:p;{obtain⟨x,h3,h4⟩:=h k (h1 hp);exact⟨x,h3,λk' hk'=>⟨λ_=>h4 k' hk',λhn=>absurd hp hn⟩⟩};obtain⟨x,h3,h4⟩:=g k (h2 hp);exact⟨x,h3,λk' hk'=>⟨λhn=>absurd hn hp,λ_=>h4 k' hk'⟩⟩
theorem vX.b40{α:Type}{b:Bool}{T U:(α->Prop)->Prop}(h:vX T)(g:vX U):vX λk=>(b=true->T k)/\(b=false->U k):=by
 rintro k ⟨h1,h2⟩;cases b with
 |true=>obtain⟨x,h3,h4⟩:=h k (h1 rfl);exact⟨x,h3,λk' hk'=>⟨(λ_=>h4 k' hk'),(λhn=>by cases hn)⟩⟩
 |false=>obtain⟨x,h3,h4⟩:=g k (h2 rfl);exact⟨x,h3,λk' hk'=>⟨(λhn=>by cases hn),λ_=>h4 k' hk'⟩⟩
theorem JO{α:Type}{T:(α->Prop)->Prop}{p:α->Prop}(h:∀k,T k↔∃x,p x/\k x):vX T:=by intro k hk;obtain⟨x,h1,h2⟩:=(h k).1 hk;exact⟨x,h2,λk' hk'=>(h k').2 ⟨x,h1,hk'⟩⟩
theorem Sr{α:Type}{T:(α->Prop)->Prop}{x:α}(h:∀k,T k↔k x):vX T:=λk hk=>⟨x,(h k).1 hk,λk' hk'=>(h k').2 hk'⟩
theorem Xu{T:Prop->Prop}{p:Prop}(h:∀k,T k↔p/\k):YA T:=λk hk=>⟨((h k).1 hk).2,λk' hk'=>(h k').2 ⟨((h k).1 hk).1,hk'⟩⟩
theorem a9o(e:Env)(t:Nat):vX (Og e t):=JO λ_=>yB
theorem Ji(H:Heap)(n:Nat):vX (yh H n):=JO λ_=>uh
theorem JQ{α:Type}(l:List α)(n:Nat):vX (Hr l n):=JO λ_=>zQ
theorem a2M(l:List Nat)(x:Nat):vX (Zc l x):=Sr λ_=>MP
theorem UW(l m:List AV):vX (YX l m):=Sr λ_=>QT
theorem b2B(z:AV)(n:Nat):vX (a8w z n):=Sr λ_=>V4
theorem Qx(A:AV)(p:List Nat):vX (Kz A p):=JO λ_=>BI
theorem xJ(a b:Nat):YA (BM a b):=Xu λ_=>sV
theorem a6y(a b:Nat):YA (SG a b):=Xu λ_=>X4
theorem UU(A:AV):YA (Vw A):=Xu λ_=>KO
theorem Xn:∀(l:List AV),YA (Ti l)
 | []=>λ_ h=>⟨h,λ_ h=>h⟩
 |A::l=>by intro k h;obtain⟨h1,h2⟩:=UU A _ h;obtain⟨h3,h4⟩:=Xn l _ h1;exact⟨h3,λk' hk'=>h2 _ (h4 _ hk')⟩
theorem JM(y:AV):∀(l:List AV) (i:Nat),vX (Aa l i y)
 | [],_=>vX.no
 |_::_,0=>vX.pure _
 |_::l,i+1=>(JM y l i).map _
theorem Xo(B:AV):∀(p:List Nat) (A:AV),vX λk=>IZ A p B k
 | [],A=>by cases A <;> exact vX.pure B
 | i::p,A=>by
   cases A with
   |ag l=>exact(JQ l i).bind λx=>(Xo B p x).bind λx'=>(JM x' l i).map _
   |_=>exact vX.no
theorem rO:∀(L:Lay) (t:Nat),vX (L.sO t)
 | .nil,_=>vX.no
 | .node l t' i r,t=>by
   intro k h;simp only[Lay.sO]at h ⊢;cases hb:Nat.beq t t' with
   |true=>rw[hb]at h;exact⟨i,h,λ_ h=>h⟩
   | false =>
     rw[hb]at h;cases hc:Nat.ble t t' with
     |true=>rw[hc]at h;exact rO l t k h
     |false=>rw[hc]at h;exact rO r t k h
theorem DR(L:Lay)(t:Nat)(x:AV):YA (O1 L t x):=by
 intro k h;unfold O1 at h;obtain⟨h1,h2⟩:=UU x _ h;obtain⟨i,h3,h4⟩:=rO L t _ h1
 have key:k/\∀k':Prop,k'->(match Nat.beq (flat x) (flat i.zero)with
   |false=>False
   | true=>match uz x,uz i.zero with
     |true,true=>k'
     |false,false=>k'
     |_,_=>False):=by
  cases hb:Nat.beq (flat x) (flat i.zero)with
  |false=>rw[hb]at h3;exact h3.elim
  |true =>rw[hb]at h3;cases h5:uz x <;> cases h6:uz i.zero <;> rw[h5,h6]at h3 <;> first|exact h3.elim|exact⟨h3,λ_ h=>h⟩
 exact⟨key.1,λk' hk'=>by unfold O1;exact h2 _ (h4 _ (key.2 k' hk'))⟩
theorem LJ(H:Heap)(n:Nat)(o:HO):vX (GX H n o):=by intro k h;obtain⟨h1,h2⟩:=yx.1 h;exact⟨_,h2,λk' hk'=>yx.2 ⟨h1,hk'⟩⟩
theorem a6w(v:Value):vX (XA v):=by intro k h;unfold XA at h ⊢;split at h <;> first|exact h.elim|exact⟨_,h,λ_ h=>h⟩
theorem sF(e:Env)(x:Operand):vX (uj e x):=by
 cases x with
 |tmp t=>exact a9o e t
 |const v=>exact a6w v
 |func f=>exact vX.pure _
 |global g=>exact vX.no
theorem AA(e:Env):∀(l:List Operand),vX (FI e l)
 | []=>vX.pure _
 |x::l=>(sF e x).bind λ_=>(AA e l).map _
theorem Qw{α:Type}(l:List α)(n:Int):vX (DZ l n):=by rintro k ⟨x,h1,h2⟩;exact⟨x,h2,λk' hk'=>⟨x,h1,hk'⟩⟩
theorem a6v{α:Type}(l:List α)(lo hi:Int):vX (b1m l lo hi):=by rintro k ⟨h1,h2⟩;exact⟨_,h2,λk' hk'=>⟨h1,hk'⟩⟩
theorem Xp(A:AV):vX (NW A):=by intro k h;unfold NW at h ⊢;split at h <;> first|exact h.elim|exact⟨_,h,λ_ h=>h⟩
theorem Sv(kd:IntKind)(z:Int):vX (arith kd z):=by cases kd <;> first|exact vX.pure _|exact vX.and (vX.pure _)
theorem Qv(A:AV):vX (KI A):=by cases A <;> first|exact vX.pure _|exact vX.no
theorem a6x(A:AV):vX (XY A):=by cases A <;> first|exact vX.pure _|exact vX.no
theorem a6u(A B:AV):vX (eqB A B):=by intro k h;unfold eqB at h ⊢;split at h <;> first|exact h.elim|exact a6x _ k h|exact Qv _ k h|exact⟨_,h,λ_ h=>h⟩
theorem a0k(A B:AV):vX (TJ A B):=by intro k h;unfold TJ at h ⊢;split at h <;> first|exact h.elim|exact⟨_,h,λ_ h=>h⟩
theorem Xq(A B:AV):vX (La A B):=by intro k h;unfold La at h ⊢;split at h <;> first|exact h.elim|exact⟨_,h,λ_ h=>h⟩
theorem b2F(d:TD)(op:BinOp)(hc:Bool)(A B:AV):vX (b5s d op hc A B):=by
 intro k h;unfold b5s at h ⊢;split at h <;> first
  |exact h.elim
  |exact a6u A B k h
  |exact((a6u A B).bind λR=>Qv R) k h
  |exact Xq A B k h
  |exact((Xq A B).bind λR=>Qv R) k h
  |(split at h <;> first|exact h.elim|exact a0k A B k h|exact((a0k A B).bind λR=>Qv R) k h)
theorem a9t(i:TI)(op:BinOp)(A B:AV):vX (b08 i op A B):=by intro k h;unfold b08 at h ⊢;split at h;{split at h;{split at h <;> first|exact⟨_,h,λ_ h=>h⟩|exact h.elim};exact h.elim};exact h.elim
theorem a9q(i:TI)(op:BinOp)(hc:Bool)(A B:AV)(hd:vX (SV i.desc op hc A B)):vX λk=>match uz A with
      |true=>b08 i op A B k
      |false=>SV i.desc op hc A B k:=by
 cases uz A with
 |true=>exact a9t i op A B
 |false=>exact hd
theorem b2G(d:TD)(op:BinOp)(hc:Bool)(A B:AV):vX (SV d op hc A B):=by
 intro k h;unfold SV at h ⊢;split at h
 ·rename_i ka a kb b;cases op <;> simp only at h ⊢;case shl=>exact⟨_,h.2,λk' hk'=>⟨h.1,hk'⟩⟩
  case shr=>exact⟨_,h.2,λk' hk'=>⟨h.1,hk'⟩⟩
  all_goals
   cases hk:Ht ka kb with
   |false=>rw[hk]at h;exact h.elim
   | true =>
     rw[hk]at h;simp only at h ⊢;first
      |exact⟨_,h,λ_ h=>h⟩
      |exact Sv _ _ k h
      |exact(vX.and (Sv _ _)) k h
      |exact⟨_,h.2,λk' hk'=>⟨h.1,hk'⟩⟩
 ·cases op <;> simp only at h ⊢ <;> first
   |exact h.elim
   |exact⟨_,h,λ_ h=>h⟩
   |exact⟨_,h.2,λk' hk'=>⟨h.1,hk'⟩⟩
 exact b2F d op hc _ _ k h
theorem Ak(L:Lay)(t:Nat)(A:AV)(H:Heap):vX (Ap L t A H):=by intro k h;unfold Ap at h ⊢;split at h;{exact((DR L t _).bind (vX.pure _)) k h};{obtain⟨o,h1,h2⟩:=Ji H _ _ h;split at h1;{obtain⟨x,h3,h4⟩:=((Qx _ _).bind λx=>(xJ _ _).bind ((DR L t x).bind (vX.pure x))) k h1;exact⟨x,h3,λk' hk'=>h2 _ (h4 k' hk')⟩};{split at h1;{obtain⟨x,h3,h4⟩:=((Qw _ _).bind λx=>vX.and ((DR L t x).bind (vX.pure x))) k h1;exact⟨x,h3,λk' hk'=>h2 _ (h4 k' hk')⟩};{obtain⟨x,h3,h4⟩:=((Qw _ _).bind λx=>(Qx _ _).bind λy=>vX.and ((DR L t y).bind (vX.pure y))) k h1;exact⟨x,h3,λk' hk'=>h2 _ (h4 k' hk')⟩};exact h1.elim};exact h1.elim};exact h.elim
theorem a6p(L:Lay)(t:Nat)(A B:AV)(H:Heap):vX (X7 L t A B H):=by intro k h;unfold X7 at h ⊢;split at h;{obtain⟨o,h1,h2⟩:=Ji H _ _ h;split at h1;{obtain⟨x,h3,h4⟩:=((Qx _ _).bind λx=>(xJ _ _).bind ((DR L t B).bind ((xJ _ _).bind ((Xo B _ _).bind λA'=>LJ H _ _)))) k h1;exact⟨x,h3,λk' hk'=>h2 _ (h4 k' hk')⟩};{split at h1;{obtain⟨x,h3,h4⟩:=((Xp B).bind λB'=>(xJ _ _).bind ((DR L t B).bind (vX.and (vX.and (LJ H _ _))))) k h1;exact⟨x,h3,λk' hk'=>h2 _ (h4 k' hk')⟩};{obtain⟨x,h3,h4⟩:=((Qw _ _).bind λx=>(Qx _ _).bind λy=>vX.and ((DR L t B).bind ((xJ _ _).bind ((Xo B _ _).bind λA'=>(Xp A').bind λA''=>LJ H _ _)))) k h1;exact⟨x,h3,λk' hk'=>h2 _ (h4 k' hk')⟩};exact h1.elim};exact h1.elim};exact h.elim
end Go.AL
namespace Go.AL
theorem a6t(L:Lay)(t:Nat)(A:AV)(f:Nat):vX (SN L t A f):=by
 intro k h;unfold SN at h ⊢;obtain⟨i,h1,h2⟩:=rO L t _ h;suffices hs:∃x,k x/\∀k':AV->Prop,k' x->_ from
  let⟨x,h3,h4⟩:=hs;⟨x,h3,λk' hk'=>h2 _ (h4 k' hk')⟩
 split at h1
 ·split at h1
  ·obtain⟨x,h3,h4⟩:=((xJ _ _).bind ((JQ _ _).bind (U:=λz k=>match flat z with|0=>False|_+1=>Hr _ _ λx=>k (.cp x)) λz=>by
    cases flat z with
    |zero=>exact vX.no
    |succ n=>exact(JQ _ _).map _)) k h1
   exact⟨x,h3,h4⟩
  ·obtain⟨z,h3,h4⟩:=JQ _ _ _ h1;cases hz:flat z with
   |zero=>rw[hz]at h3;exact h3.elim
   |succ n =>rw[hz]at h3;obtain⟨p',h5,h6⟩:=a2M _ _ _ h3;exact⟨_,h5,λk' hk'=>h4 _ (by rw[hz];exact h6 _ hk')⟩
  exact h1.elim
 exact h1.elim
theorem YP(L:Lay)(t:Nat)(A I:AV):vX (Es L t A I):=by
 intro k h;unfold Es at h ⊢;split at h
 ·obtain⟨i,h1,h2⟩:=rO L t _ h;suffices hs:∃x,k x/\∀k':AV->Prop,k' x->_ from
   let⟨x,h3,h4⟩:=hs;⟨x,h3,λk' hk'=>h2 _ (h4 k' hk')⟩
  split at h1;{obtain⟨x,h3,h4⟩:=((rO L _).bind λei=>(xJ _ _).bind ((Qw _ _).map AV.cp)) k h1;exact⟨x,h3,h4⟩};{obtain⟨x,h3,h4⟩:=((rO L _).bind λei=>(xJ _ _).bind (vX.and (vX.pure _))) k h1;exact⟨x,h3,h4⟩};{obtain⟨x,h3,h4⟩:=((rO L _).bind λei=>vX.and ((a2M _ _).map λp'=>AV.ptr _ p' _)) k h1;exact⟨x,h3,h4⟩};exact h1.elim
 exact h.elim
theorem a6s(L:Lay)(t:Nat)(A I:AV):vX (SL L t A I):=by
 intro k h;unfold SL at h ⊢;split at h
 ·obtain⟨i,h1,h2⟩:=rO L t _ h;suffices hs:∃x,k x/\∀k':AV->Prop,k' x->_ from
   let⟨x,h3,h4⟩:=hs;⟨x,h3,λk' hk'=>h2 _ (h4 k' hk')⟩
  split at h1;{exact((Qw _ _).map _) k h1};exact h1.elim
 exact h.elim
theorem Ik(e:Env)(x:Option Operand)(d:Int):vX (LX e x d):=by
 cases x with
 |none=>exact vX.pure _
 |some x =>refine(sF e x).bind (U:=λA k=>match A with | .int _ n=>k n|_=>False) λA=>?_;cases A <;> first|exact vX.pure _|exact vX.no
theorem a6q(L:Lay)(t:Nat)(e:Env)(A:AV)(lo hi:Option Operand):vX (aslice L t e A lo hi):=by
 intro k h;unfold aslice at h ⊢;obtain⟨i,h1,h2⟩:=rO L t _ h;suffices hs:∃x,k x/\∀k':AV->Prop,k' x->_ from
  let⟨x,h3,h4⟩:=hs;⟨x,h3,λk' hk'=>h2 _ (h4 k' hk')⟩
 split at h1;{exact((Ik e lo _).bind λa=>(Ik e hi _).bind λb=>(a6v _ _ _).map _) k h1};{exact((rO L _).bind λei=>(xJ _ _).bind ((Ik e lo _).bind λa=>(Ik e hi _).bind λb=>(a6v _ _ _).map _)) k h1};{exact((rO L _).bind λei=>(xJ _ _).bind ((Ik e lo _).bind λa=>(Ik e hi _).bind λb=>vX.and (vX.and (vX.pure _)))) k h1};{exact((rO L _).bind λei=>(Ik e lo _).bind λa=>(Ik e hi _).bind λb=>vX.and (vX.pure _)) k h1};exact h1.elim
theorem BX(H:Heap)(sz:Nat)(B:AV):vX (Oy H sz B):=by
 intro k h;unfold Oy at h ⊢;split at h;{exact⟨_,h,λ_ h=>h⟩};{exact((xJ _ _).bind (vX.pure _)) k h}
 ·obtain⟨o,h1,h2⟩:=Ji H _ _ h;suffices hs:∃x,k x/\∀k':List AV->Prop,k' x->_ from
   let⟨x,h3,h4⟩:=hs;⟨x,h3,λk' hk'=>h2 _ (h4 k' hk')⟩
  split at h1;{exact((xJ _ _).bind ((xJ _ _).bind (vX.and (vX.pure _)))) k h1};exact h1.elim
 ·exact((xJ _ _).bind (vX.pure _)) k h
 exact h.elim
theorem b2E(d:TD)(A:AV)(H:Heap):vX (b0g d A H):=by intro k h;unfold b0g at h ⊢;split at h <;> first|exact h.elim|exact⟨_,h,λ_ h=>h⟩
theorem b2D(A B:AV):vX (b1W A B):=by intro k h;unfold b1W at h ⊢;split at h;{split at h <;> first|exact h.elim|exact⟨_,h,λ_ h=>h⟩};exact h.elim
theorem b2C(A B:AV):vX (Uu A B):=by intro k h;unfold Uu at h ⊢;split at h;{split at h <;> first|exact h.elim|exact⟨_,h,λ_ h=>h⟩};exact h.elim
def xX(T:(AV->Heap->Prop)->Prop):Prop:=∀k,T k->∃A H',k A H'/\∀k':AV->Heap->Prop,k' A H'->T k'
theorem vX.tX{α:Type}{T:(α->Prop)->Prop}{U:α->(AV->Heap->Prop)->Prop}(h:vX T)(g:∀a,xX (U a)):xX λk=>T λa=>U a k:=by intro k hk;obtain⟨a,h1,h2⟩:=h _ hk;obtain⟨A,H',h3,h4⟩:=g a _ h1;exact⟨A,H',h3,λk' hk'=>h2 _ (h4 k' hk')⟩
theorem YA.tX{T:Prop->Prop}{U:(AV->Heap->Prop)->Prop}(h:YA T)(g:xX U):xX λk=>T (U k):=by intro k hk;obtain⟨h1,h2⟩:=h _ hk;obtain⟨A,H',h3,h4⟩:=g _ h1;exact⟨A,H',h3,λk' hk'=>h2 _ (h4 k' hk')⟩
theorem xX.pure(A:AV)(H:Heap):xX λk=>k A H:=λ_ h=>⟨A,H,h,λ_ h=>h⟩
theorem xX.no:xX λ_=>False:=λ_ h=>h.elim
theorem xX.and{p:Prop}{T:(AV->Heap->Prop)->Prop}(h:xX T):xX λk=>p/\T k:=by rintro k ⟨hp,hk⟩;obtain⟨A,H',h1,h2⟩:=h k hk;exact⟨A,H',h1,λk' hk'=>⟨hp,h2 k' hk'⟩⟩
theorem vX.with{T:(AV->Prop)->Prop}(h:vX T)(H:Heap):xX λk=>T λA=>k A H:=h.tX λA=>xX.pure A H
theorem Qs(H:Heap)(o:HO){U:Nat->AV}:xX λk=>Gz H o λj H'=>k (U j) H':=by intro k h;exact⟨_,_,wz.1 h,λk' hk'=>wz.2 hk'⟩
theorem a9m(e n sz:Nat)(z:AV)(H:Heap):xX (YB e n sz z H):=by rintro k (⟨h1,h2⟩|h);{exact⟨_,_,h2,λk' hk'=>.pure ⟨h1,hk'⟩⟩};exact⟨_,_,h,λk' hk'=>.wr hk'⟩
theorem a9s(sz bytes:Nat)(l m:List AV){U:(AV->Heap->Prop)->Prop}(h:xX U):xX λk=>b3R sz bytes l m (U k):=by rintro k ⟨h1,h2,h3⟩;obtain⟨A,H',h4,h5⟩:=h k h3;exact⟨A,H',h4,λk' hk'=>⟨h1,h2,h5 k' hk'⟩⟩
theorem a2O(sz bytes:Nat)(l m:List AV)(H:Heap):xX (Ou sz bytes l m H):=by rintro k (⟨h1,h2,h3⟩|⟨h1,h2,h3⟩);{obtain⟨A,H',h4,h5⟩:=(Qs H (.tok sz (l.length+m.length)) (U:=λj=>.sl sz (l++m) (.own j))) k h3;exact⟨A,H',h4,λk' hk'=>.tok h1 h2 (h5 k' hk')⟩};exact⟨_,_,h3,λk' hk'=>.pure h1 h2 hk'⟩
theorem Xr(L:Lay)(t:Nat)(A B:AV)(H:Heap):xX (AP L t A B H):=by
 intro k h;unfold AP at h ⊢;obtain⟨i,h1,h2⟩:=rO L t _ h;suffices hs:∃x H',k x H'/\∀k':AV->Heap->Prop,k' x H'->_ from
  let⟨x,H',h3,h4⟩:=hs;⟨x,H',h3,λk' hk'=>h2 _ (h4 k' hk')⟩
 split at h1
 ·obtain⟨ei,h3,h4⟩:=rO L _ _ h1;suffices hs:∃x H',k x H'/\∀k':AV->Heap->Prop,k' x H'->_ from
   let⟨x,H',h5,h6⟩:=hs;⟨x,H',h5,λk' hk'=>h4 _ (h6 k' hk')⟩
  split at h3;{exact((BX H _ B).tX λm=>a2O _ _ _ _ _) k h3};{exact((xJ _ _).tX ((BX H _ B).tX λm=>a2O _ _ _ _ _)) k h3}
  ·obtain⟨h5,h6⟩:=xJ _ _ _ h3;obtain⟨m,h7,h8⟩:=BX H _ B _ h5;obtain⟨o,h9,h10⟩:=Ji H _ _ h7;cases o with
   |tok sz' top =>obtain⟨x,H',g1,g2⟩:=((xJ _ _).tX (xX.and (a9s _ _ _ _ ((LJ H _ _).tX λH'=>xX.pure _ _)))) k h9;exact⟨x,H',g1,λk' hk'=>h6 _ (h8 _ (h10 _ (g2 k' hk')))⟩
   |_=>exact h9.elim
  exact h3.elim
 exact h1.elim
theorem ET(L:Lay)(b:Builtin)(ts:List Nat)(As:List AV)(H:Heap):xX (xO L b ts As H):=by
 intro k h;unfold xO at h ⊢;split at h;{exact((rO L _).tX λi=>(b2E _ _ _).with H) k h}
 ·obtain⟨i,h1,h2⟩:=rO L _ _ h;cases hi:i.desc with
  |slice e =>rw[hi]at h1;obtain⟨x,H',g1,g2⟩:=Xr L _ _ _ H k h1;exact⟨x,H',g1,λk' hk'=>h2 _ (by rw[hi];exact g2 k' hk')⟩
  |str =>rw[hi]at h1;obtain⟨x,H',g1,g2⟩:=Xr L _ _ _ H k h1;exact⟨x,H',g1,λk' hk'=>h2 _ (by rw[hi];exact g2 k' hk')⟩
  |_=>rw[hi]at h1;exact h1.elim
 ·exact((b2D _ _).with H) k h
 ·exact((b2C _ _).with H) k h
 exact h.elim
end Go.AL
namespace Go.AL
theorem OY(e:Env):∀(ps:List (Nat×Operand)) (zs:List AV),vX (zk e ps zs)
 | [],zs=>vX.pure zs
 |(i,x)::ps,zs=>by intro k h;simp only[zk]at h ⊢;obtain⟨A,h1,h2⟩:=sF e x _ h;obtain⟨h3,h4⟩:=UU A _ h1;obtain⟨z,h5,h6⟩:=JQ zs i _ h3;obtain⟨h7,h8⟩:=xJ _ _ _ h5;have hs:vX λk=>Aa zs i A λzs'=>zk e ps zs' k:=(JM A zs i).bind λzs'=>OY e ps zs';cases hA:uz A <;> cases hz:uz z <;> rw[hA,hz]at h7;{obtain⟨l,g1,g2⟩:=hs k h7;exact⟨l,g1,λk' hk'=>h2 _ (h4 _ (h6 _ (h8 _ (by rw[hA,hz];exact g2 k' hk'))))⟩};{exact h7.elim};{exact h7.elim};obtain⟨l,g1,g2⟩:=hs k h7;exact⟨l,g1,λk' hk'=>h2 _ (h4 _ (h6 _ (h8 _ (by rw[hA,hz];exact g2 k' hk'))))⟩
theorem TY(e:Env):∀(ps:List (Nat×Operand)) (zs:List AV),vX (zO e ps zs)
 | [],zs=>vX.pure zs
 |(i,x)::ps,zs=>by intro k h;simp only[zO]at h ⊢;obtain⟨A,h1,h2⟩:=sF e x _ h;obtain⟨z,h5,h6⟩:=JQ zs i _ h1;obtain⟨h7,h8⟩:=xJ _ _ _ h5;have hs:vX λk=>NW A λB=>Aa zs i B λzs'=>zO e ps zs' k:=(Xp A).bind λB=>(JM B zs i).bind λzs'=>TY e ps zs';cases hA:uz A <;> cases hz:uz z <;> rw[hA,hz]at h7;{obtain⟨l,g1,g2⟩:=hs k h7;exact⟨l,g1,λk' hk'=>h2 _ (h6 _ (h8 _ (by rw[hA,hz];exact g2 k' hk')))⟩};{exact h7.elim};{exact h7.elim};obtain⟨l,g1,g2⟩:=hs k h7;exact⟨l,g1,λk' hk'=>h2 _ (h6 _ (h8 _ (by rw[hA,hz];exact g2 k' hk')))⟩
def b7o(T:(AV->Heap->Prop)->(Heap->Prop)->Prop):Prop:=∀k ks,T k ks ->
 (∃A H',k A H'/\∀(k':AV->Heap->Prop) ks',k' A H'->T k' ks')\/(∃H',ks H'/\∀k' (ks':Heap->Prop),ks' H'->T k' ks')
theorem xX.o{T:(AV->Heap->Prop)->Prop}(h:xX T):b7o λk _=>T k:=by intro k ks hk;obtain⟨A,H',h1,h2⟩:=h k hk;exact .inl ⟨A,H',h1,λk' _ hk'=>h2 k' hk'⟩
theorem a9p{F:FT}(f:Nat)(args:List AV)(H:Heap):xX (Ir F (λ_=>True) f args H):=by rintro k (⟨R,H',h,h'⟩|⟨Bs,R,hle,hb,h,h'⟩);{exact⟨R,H',h' trivial,λk' hk'=>.gen R H' h λ_=>hk'⟩};exact⟨R,H,h' trivial,λk' hk'=>.pure Bs R hle hb h λ_=>hk'⟩
theorem Qu(b:Bool):YA (Zu b):=by intro k h;obtain⟨h1,h2⟩:=H7.1 h;exact⟨h2,λk' hk'=>H7.2 ⟨h1,hk'⟩⟩
theorem a9n(es:List (AV×AV))(K:AV):vX (FW es K):=by rintro k ⟨r,h1,h2⟩;exact⟨r,h2,λk' hk'=>⟨r,h1,hk'⟩⟩
theorem b2A(es:List (AV×AV))(K V:AV):vX (b1l es K V):=by rintro k ⟨r,h1,h2⟩;exact⟨r,h2,λk' hk'=>⟨r,h1,hk'⟩⟩
theorem a6r(ok:Bool)(z:AV)(r:Option AV):vX (DI ok z r):=by unfold DI;cases ok <;> cases r <;> exact vX.pure _
theorem a9r(z:AV)(s:Nat)(A:AV)(ok:Bool):vX (b0f z s A ok):=by
 unfold b0f;cases A <;> cases ok <;> first|exact vX.no|exact vX.pure _|skip
 all_goals
  rename_i t y;dsimp only;cases Nat.beq t s <;> first|exact vX.no|exact vX.pure _
theorem a4d(L:Lay)(t:Nat)(A K V:AV)(H:Heap):vX (QU L t A K V H):=by
 refine(rO L t).bind λi=>?_;cases i.desc <;> first|exact vX.no|skip
 cases i.key <;> first|exact vX.no|skip
 refine(Qu _).bind ((DR L _ _).bind ?_);cases A <;> first|exact vX.no|skip
 refine(Ji H _).bind λo=>?_;cases o <;> first|exact vX.no|skip
 exact(Qu _).bind ((b2A _ _ _).bind λes'=>LJ H _ _)
theorem a2N {F:FT} {L:Lay} {op:Op} {e:Env} {H:Heap} (hn:F5 op=false):b7o (xH F (λ_=>True) L op e H):=by
 cases op with
 |move x=>exact((sF e x).with H).o
 |assign x=>exact((sF e x).with H).o
 | pick x y z =>
   refine((sF e x).tX (U:=λC k=>match C with
   | .tt=>uj e y λA=>k A H
   | .ff=>uj e z λA=>k A H
   | .bool x=>(x=true->uj e y λA=>k A H)/\(x=false->uj e z λA=>k A H)
   | .dec p=>(p->uj e y λA=>k A H)/\(¬p->uj e z λA=>k A H)
   |_=>False) λC=>?_).o
   cases C with
   |tt=>exact(sF e y).with H
   |ff=>exact(sF e z).with H
   |bool b =>intro k h;obtain⟨A,h1,h2⟩:=(vX.b40 (b:=b) (sF e y) (sF e z)) (λA=>k A H) h;exact⟨A,H,h1,λk' hk'=>h2 (λA=>k' A H) hk'⟩
   |dec p =>intro k h;obtain⟨A,h1,h2⟩:=(vX.cases (p:=p) (sF e y) (sF e z)) (λA=>k A H) h;exact⟨A,H,h1,λk' hk'=>h2 (λA=>k' A H) hk'⟩
   |_=>exact xX.no
 |alloc t=>exact((rO L t).tX λi=>Qs H _).o
 |box t x=>exact((sF e x).tX λA=>(DR L t A).tX (Qs H _)).o
 | build t ps =>
   refine((rO L t).tX (U:=λi k=>match i.desc,i.zero with
   | .struct _,.ag zs=>zk e ps.toList zs λl=>k (.ag l) H
   | .arr _ el,.ag zs=>L.sO el λei=>BM (flat ei.zero) 1 (Zu (Ql zs) (zk e ps.toList zs λl=>k (.ag l) H))
   |_,_=>False) λi=>?_).o
   cases i.desc <;> cases i.zero <;> first|exact xX.no|exact((OY e _ _).map _).with H|exact(rO L _).tX λei=>(xJ _ _).tX ((Qu _).tX (((OY e _ _).map _).with H))
 | buildSlice t n ps =>
   refine((rO L t).tX (U:=λi k=>match i.desc with
   | .slice el=>L.sO el λei=>SG (n*flat ei.zero) 16777216 <| SG n 16777216 <| a8w ei.zero n λzs=>zO e ps.toList zs λl=>k (.sl (flat ei.zero) l .full) H
   |_=>False) λi=>?_).o
   cases i.desc <;> first|exact xX.no|exact(rO L _).tX λei=>(a6y _ _).tX ((a6y _ _).tX ((b2B _ _).tX λzs=>((TY e _ zs).map _).with H))
 |load t x=>exact((sF e x).tX λA=>(Ak L t A H).with H).o
 |store t x y =>intro k ks h;obtain⟨A,h1,h2⟩:=sF e x _ h;obtain⟨B,h3,h4⟩:=sF e y _ h1;obtain⟨H',h5,h6⟩:=a6p L t A B H _ h3;exact .inr ⟨H',h5,λk' ks' hk'=>h2 _ (h4 _ (h6 _ hk'))⟩
 | nilCheck x =>
   refine((sF e x).tX (U:=λA k=>match A with
   | .ptr _ _ _=>k A H
   | .cp _=>k A H
   | .fn _ _=>k A H
   |_=>False) λA=>?_).o
   cases A <;> first|exact xX.no|exact xX.pure _ _
 | binOp op t x y ty =>
   intro k ks h;simp only[xH,hn]at h ⊢
   revert h
   revert k ks
   exact((sF e x).tX λA=>(sF e y).tX λB=>(rO L t).tX λi=>(a9q i _ _ A B (b2G _ _ _ _ _)).with H).o
 | typeAssert x xt s ok =>
   clear hn;refine((sF e x).tX (U:=λA k=>L.sO s λi=>(match i.desc with
   | .iface=>False
   |_=>b0f i.zero s A ok λR=>k R H)) λA=>(rO L s).tX λi=>?_).o
   cases i.desc <;> first|exact xX.no|exact(a9r _ _ _ _).with H
 | makeMap t r =>
   clear hn;cases r with
   |none =>refine((rO L t).tX (U:=λi k=>match i.key with|some sh=>Gz H (.tN sh []) λj H'=>k (.mp j) H'|none=>False) λi=>?_).o;cases i.key <;> first|exact xX.no|exact Qs H _
   |some x=>exact xX.no.o
 | lookup t x y ok =>
   clear hn;refine((sF e x).tX λA=>(sF e y).tX (U:=λK k=>L.sO t λi=>(match i.desc,i.key with
   | .map _ et,some sh=>Zu (qR sh K) <| L.sO et λei=>(match A with
     | .mp j=>yh H j λo=>(match o with
       | .tN sh' es=>Zu (qR sh' sh) <| FW es K λr=>DI ok ei.zero r λR=>k R H
       |_=>False)
     |_=>False)
   |_,_=>False)) λK=>(rO L t).tX λi=>?_).o
   cases i.desc <;> first|exact xX.no|skip
   cases i.key <;> first|exact xX.no|skip
   refine(Qu _).tX ((rO L _).tX λei=>?_);cases A <;> first|exact xX.no|skip
   refine(Ji H _).tX λo=>?_;cases o <;> first|exact xX.no|skip
   exact(Qu _).tX ((a9n _ _).tX λr=>(a6r _ _ r).with H)
 |mapUpdate t x y z =>clear hn;intro k ks h;simp only[xH]at h ⊢;obtain⟨A,h1,h2⟩:=sF e x _ h;obtain⟨K,h3,h4⟩:=sF e y _ h1;obtain⟨V,h5,h6⟩:=sF e z _ h3;obtain⟨H',k1,k2⟩:=a4d L t A K V H _ h5;exact .inr ⟨H',k1,λk' ks' hk'=>h2 _ (h4 _ (h6 _ (k2 _ hk')))⟩
 | unOp op t x =>
   clear hn;refine((sF e x).tX (U:=λA k=>match op,A with
   | .not,A=>KI A λR=>k R H
   | .neg,.int ka a=>arith ka (0-a) λR=>k R H
   |_,_=>False) λA=>?_).o
   cases op with
   |not=>exact(Qv A).with H
   |neg=>cases A <;> first|exact xX.no|exact(Sv _ _).with H
   |_=>exact xX.no
 | convert s d x =>
   refine((sF e x).tX (U:=λA k=>L.sO s λ_=>L.sO d λi=>(match i.desc,A with
   | .int kd,.int _ n=>k (.int kd (kd.wrap n)) H
   | .str,.str s=>k (.str s) H
   |_,_=>False)) λA=>(rO L s).tX λ_=>(rO L d).tX λi=>?_).o
   cases i.desc <;> cases A <;> first|exact xX.no|exact xX.pure _ _
 | makeInterface t x =>
   refine((sF e x).tX (U:=λA k=>L.sO t λi=>(match i.desc with
   | .iface=>False
   |_=>Vw A (k (.uV t A) H))) λA=>(rO L t).tX λi=>?_).o
   cases i.desc <;> first|exact xX.no|exact(UU A).tX (xX.pure _ _)
 | makeFunc f first cap =>
   cases f with
   | func g =>
     cases hf:first.toList with
     |nil =>have:xX λk=>FI e cap.toList λAs=>Ti As (k (.fn g As) H):=(AA e _).tX λAs=>(Xn As).tX (xX.pure _ _);intro k ks h;simp only[xH,hf]at h ⊢;exact this.o k ks h
     |cons y l=>intro k ks h;simp only[xH,hf]at h
   |_=>intro k ks h;exact h.elim
 | makeSlice t x y =>
   refine((sF e x).tX λA=>(sF e y).tX (U:=λB k=>L.sO t λi=>(match i.desc,A,B with
   | .slice el,.int _ n,.int _ m=>L.sO el λei=>(0<=n/\n<=m/\m*(ei.bytes:Int)<=281474976710656/\m<=9223372036854775807) /\
     YB m.toNat n.toNat (flat ei.zero) ei.zero H k
   |_,_,_=>False)) λB=>(rO L t).tX λi=>?_).o
   cases i.desc <;> first|exact xX.no|skip
   cases A <;> first|exact xX.no|skip
   cases B <;> first|exact xX.no|skip
   exact(rO L _).tX λei=>xX.and (a9m _ _ _ _ _)
 | slice t x lo hi mx =>
   cases mx with
   |none=>exact((sF e x).tX λA=>(a6q L t e A lo hi).with H).o
   |some y=>exact xX.no.o
 |fieldAddr t x f=>exact((sF e x).tX λA=>(a6t L t A f).with H).o
 |indexAddr t x y=>exact((sF e x).tX λA=>(sF e y).tX λI=>(YP L t A I).with H).o
 |index t x y=>exact((sF e x).tX λA=>(sF e y).tX λI=>(a6s L t A I).with H).o
 | extract x i =>
   refine((sF e x).tX (U:=λA k=>match A with
   | .uf l=>Hr l i λR=>k R H
   |_=>False) λA=>?_).o
   cases A <;> first|exact xX.no|exact(JQ _ _).with H
 | call cl =>
   cases hc:cl.callee with
   | value f =>
     have:xX λk=>uj e f λA=>(match A with
      | .fn g cap=>FI e cl.args.toList λAs=>YX As cap λBs=>Ir F (λ_=>True) g Bs H k
      | _=>False):=(sF e f).tX λA=>by
        cases A <;> first|exact xX.no|exact(AA e _).tX λAs=>(UW As _).tX λBs=>a9p _ Bs H
     intro k ks h;simp only[xH,hc]at h ⊢;exact this.o k ks h
   |builtin b =>have:xX λk=>FI e cl.args.toList λAs=>xO L b cl.argTypes.toList As H k:=(AA e _).tX λAs=>ET L b _ As H;intro k ks h;simp only[xH,hc]at h ⊢;exact this.o k ks h
   |invoke r m=>intro k ks h;simp only[xH,hc]at h
 |_=>exact xX.no.o
end Go.AL
namespace Go.AL
theorem Qr{acc:List Nat}{i:Nat}:∀{l:List Edge} {s:Nat},(Jh acc l s).testBit i=true->s.testBit i=true\/∃e∈l,Region.binds .any e=true/\(e.on=i\/(acc.getD e.on 0).testBit i=true)
 | [],s,h=>.inl h
 | e::l,s,h=>by
   simp only[Jh]at h;rcases Qr h with h|⟨e',h1,h2⟩
   ·cases hb:Region.binds .any e with
    |false=>rw[hb]at h;exact .inl h
    |true =>rw[hb]at h;simp only[Nat.testBit_or,gG,lV,bW]at h;rcases h with(h|h)|h;{exact .inl h};{exact .inr ⟨e,ak,hb,.inl h⟩};exact .inr ⟨e,ak,hb,.inr h⟩
   exact .inr ⟨e',by simp[h1],h2⟩
theorem X6:∀{l:List Oper} {acc:List Nat} {j:Nat},j<acc.length->(LZ l acc)[j]? = acc[j]?
 | [],_,_,_=>rfl
 |o::l,acc,j,h=>by simp only[LZ];rw[X6 aA,bH h]
theorem a3m:∀{l:List Oper} {acc:List Nat} {m:Nat} {o:Oper},l[m]? = some o->∃pre,pre.length=acc.length+m/\(LZ l acc)[acc.length+m]? = some (Jh pre o.after.toList 0)/\∀j,j<acc.length+m->pre[j]? = (LZ l acc)[j]?
 | [],_,_,_,h=>by simp at h
 |o::l,acc,0,o',h=>by simp at h;subst h;refine⟨acc,rfl,?_,λj hj=>?_⟩;{simp only[LZ,dU];rw[X6 ak];simp};simp only[LZ];rw[X6 aA,bH aj]
 |o::l,acc,m+1,o',h=>by simp at h;obtain⟨pre,h1,h2,h3⟩:=a3m (acc:=acc++[Jh acc o.after.toList 0]) h;simp only[LZ];simp only[bn,jC]at h1 h2 h3;refine⟨pre,aj,?_,λj hj=>h3 j aj⟩;rw[show acc.length+(m+1)=acc.length+1+m by omega];exact h2
def Closed(ops:List Oper)(D:Nat->Prop):Prop:=∀j o,D j->ops[j]? = some o->∀e∈o.after.toList,Region.binds .any e=true->D e.on
theorem a1J{ops:List Oper}{D:Nat->Prop}(hD:Closed ops D){i:Nat}:∀(j:Nat) (o:Oper),ops[j]? = some o->(∀e∈o.after.toList,Region.binds .any e=true->D e.on) ->
  ((LZ ops []).getD j 0).testBit i=true->D i:=by
 intro j;induction j using Nat.strongRecOn with
 |_ j ih =>intro o ho he hb;obtain⟨pre,h1,h2,h3⟩:=a3m (acc:=[]) ho;simp only[iQ,bC]at h1 h2 h3;rw[aF,h2]at hb;rcases Qr (s:=0) hb with h|⟨e,h4,h5,h6⟩;{simp at h};rcases h6 with rfl|h6;{exact he e h4 h5};by_cases hlt:e.on<j;{have hDe:=he e h4 h5;rw[aF,h3 _ hlt,<- aF]at h6;have hlt':e.on<ops.length:=(by have:=(aY.1 ho).1;omega);exact ih e.on hlt _ (aH hlt') (λe' he' hb'=>hD e.on _ hDe (aH hlt') e' he' hb') h6};rw[aF,gy aj]at h6;simp at h6
end Go.AL
namespace Go.AL
def b30(T:Heap->(AV->Heap->Prop)->Prop):Prop:=∃U:(AV->Prop)->Prop,∀H k,T H k↔U λA=>k A H
theorem wM{α:Type}{V:(α->Prop)->Prop}{T:α->Heap->(AV->Heap->Prop)->Prop}(h:∀a,b30 (T a)):b30 λH k=>V λa=>T a H k:=by have hc:∃U:α->(AV->Prop)->Prop,∀a H k,T a H k↔U a λA=>k A H:=⟨λa=>(h a).choose,λa=>(h a).choose_spec⟩;obtain⟨U,hU⟩:=hc;refine⟨λk=>V λa=>U a k,λH k=>?_⟩;have:(λa=>T a H k)=λa=>U a λA=>k A H:=(by funext a;exact propext (hU a H k));show V (λa=>T a H k)↔_;rw[this]
theorem wY{U:(AV->Prop)->Prop}:b30 λH k=>U λA=>k A H:=⟨U,λ_ _=>jr⟩
theorem xI:b30 λ_ _=>False:=⟨λ_=>False,λ_ _=>jr⟩
theorem a0e(L:Lay)(b:Builtin)(hb:b=.len\/b=.max\/b=.min)(ts:List Nat)(As:List AV):b30 λH k=>xO L b ts As H k:=by
 rcases hb with rfl|rfl|rfl
 ·match ts,As with
  |t::r,[A] =>refine wM (V:=L.sO t) (T:=λi H k=>b0g i.desc A H λR=>k R H) λi=>?_;refine⟨λk=>b0g i.desc A [] k,λH k=>?_⟩;unfold b0g;exact jr
  | [],_=>exact xI
  |_::_,[]=>exact xI
  |_::_,_::_::_=>exact xI
 ·match As with
  | [A,B]=>exact wY (U:=b1W A B)
  | []=>exact xI
  | [_]=>exact xI
  |_::_::_::_=>exact xI
 match As with
 | [A,B]=>exact wY (U:=Uu A B)
 | []=>exact xI
 | [_]=>exact xI
 |_::_::_::_=>exact xI
theorem b1Q{F:FT}{vS:AV->Prop}{L:Lay}{op:Op}{e:Env}(hn:Qa op=true)(hc:∀cl f,op=.call cl->cl.callee≠.value f)(hs:∀t x y,op≠.makeSlice t x y)(hap:∀cl,op=.call cl->cl.callee≠.builtin .append)(ks:Heap->Prop) :
  b30 λH k=>xH F vS L op e H k ks:=by
 cases op with
 |move x=>exact wY (U:=uj e x)
 |assign x=>exact wY (U:=uj e x)
 | pick x y z =>
   refine wM (V:=uj e x) (T:=λC H k=>match C with
   | .tt=>uj e y λA=>k A H
   | .ff=>uj e z λA=>k A H
   | .bool x=>(x=true->uj e y λA=>k A H)/\(x=false->uj e z λA=>k A H)
   | .dec p=>(p->uj e y λA=>k A H)/\(¬p->uj e z λA=>k A H)
   |_=>False) λC=>?_
   cases C with
   |tt=>exact wY (U:=uj e y)
   |ff=>exact wY (U:=uj e z)
   |bool b=>exact wY (U:=λk=>(b=true->uj e y k)/\(b=false->uj e z k))
   |dec p=>exact wY (U:=λk=>(p->uj e y k)/\(¬p->uj e z k))
   |_=>exact xI
 | build t ps =>
   refine wM (V:=L.sO t) (T:=λi H k=>match i.desc,i.zero with
   | .struct _,.ag zs=>zk e ps.toList zs λl=>k (.ag l) H
   | .arr _ el,.ag zs=>L.sO el λei=>BM (flat ei.zero) 1 (Zu (Ql zs) (zk e ps.toList zs λl=>k (.ag l) H))
   |_,_=>False) λi=>?_
   cases i.desc <;> cases i.zero <;> first|exact xI|exact wY (U:=λk=>zk e ps.toList _ λl=>k (.ag l))|exact wY (U:=λk=>L.sO _ λei=>BM (flat ei.zero) 1 (Zu (Ql _) (zk e ps.toList _ λl=>k (.ag l))))
 | buildSlice t n ps =>
   refine wM (V:=L.sO t) (T:=λi H k=>match i.desc with
   | .slice el=>L.sO el λei=>SG (n*flat ei.zero) 16777216 <| SG n 16777216 <| a8w ei.zero n λzs=>zO e ps.toList zs λl=>k (.sl (flat ei.zero) l .full) H
   |_=>False) λi=>?_
   cases i.desc <;> first|exact xI|exact wY (U:=λk=>L.sO _ λei=>SG (n*flat ei.zero) 16777216 <| SG n 16777216 <| a8w ei.zero n λzs=>zO e ps.toList zs λl=>k (.sl (flat ei.zero) l .full))
 | nilCheck x =>
   refine wM (V:=uj e x) (T:=λA H k=>match A with
   | .ptr _ _ _=>k A H
   | .cp _=>k A H
   | .fn _ _=>k A H
   |_=>False) λA=>?_
   cases A <;> first|exact xI|exact wY (U:=λk=>k _)
 | binOp op t x y ty =>
   clear hc hs hap;cases hb:F5 (.binOp op t x y ty)with
   |true =>simp only[xH,hb];refine wM (V:=uj e x) (T:=λA H k=>L.sO t λi=>(match i.desc with | .slice _=>b3Z op A λR=>k R H|_=>False)) λA=>wM (V:=L.sO t) λi=>?_;cases i.desc <;> first|exact xI|exact wY (U:=b3Z op A)
   | false =>
     simp only[xH,hb];exact wY (U:=λk=>uj e x λA=>uj e y λB=>L.sO t λi=>match uz A with
      |true=>b08 i op A B k
      |false=>SV i.desc op (Ah x||Ah y) A B k)
 | typeAssert x xt s ok =>
   refine wM (V:=uj e x) (T:=λA H k=>L.sO s λi=>(match i.desc with
   | .iface=>False
   |_=>b0f i.zero s A ok λR=>k R H)) λA=>wM (V:=L.sO s) λi=>?_
   cases i.desc <;> first|exact xI|exact wY (U:=b0f i.zero s A ok)
 |makeSlice t x y=>exact absurd rfl (hs t x y)
 | unOp op t x =>
   clear hn hc hs hap;refine wM (V:=uj e x) (T:=λA H k=>match op,A with
   | .not,A=>KI A λR=>k R H
   | .neg,.int ka a=>arith ka (0-a) λR=>k R H
   |_,_=>False) λA=>?_
   cases op with
   |not=>exact wY (U:=KI A)
   |neg=>cases A <;> first|exact xI|exact wY (U:=arith _ _)
   |_=>exact xI
 | convert s d x =>
   refine wM (V:=uj e x) (T:=λA H k=>L.sO s λ_=>L.sO d λi=>(match i.desc,A with
   | .int kd,.int _ n=>k (.int kd (kd.wrap n)) H
   | .str,.str s=>k (.str s) H
   |_,_=>False)) λA=>wM (V:=L.sO s) λ_=>wM (V:=L.sO d) λi=>?_
   cases i.desc <;> cases A <;> first|exact xI|exact wY (U:=λk=>k _)
 | makeInterface t x =>
   refine wM (V:=uj e x) (T:=λA H k=>L.sO t λi=>(match i.desc with
   | .iface=>False
   |_=>Vw A (k (.uV t A) H))) λA=>wM (V:=L.sO t) λi=>?_
   cases i.desc <;> first|exact xI|exact wY (U:=λk=>Vw A (k (.uV t A)))
 | makeFunc f first cap =>
   cases f with
   | func g =>
     cases hf:first.toList with
     |nil =>refine⟨λk=>FI e cap.toList λAs=>Ti As (k (.fn g As)),λH k=>?_⟩;simp only[xH,hf]
     |cons y l=>refine⟨λ_=>False,λH k=>?_⟩;simp only[xH,hf]
   |_=>exact xI
 | slice t x lo hi mx =>
   cases mx with
   |none=>exact wY (U:=λk=>uj e x λA=>aslice L t e A lo hi k)
   |some y=>exact xI
 |fieldAddr t x f=>exact wY (U:=λk=>uj e x λA=>SN L t A f k)
 |indexAddr t x y=>exact wY (U:=λk=>uj e x λA=>uj e y λI=>Es L t A I k)
 |index t x y=>exact wY (U:=λk=>uj e x λA=>uj e y λI=>SL L t A I k)
 | extract x i =>
   refine wM (V:=uj e x) (T:=λA H k=>match A with
   | .uf l=>Hr l i λR=>k R H
   |_=>False) λA=>?_
   cases A <;> first|exact xI|exact wY (U:=Hr _ i)
 | call cl =>
   cases hcl:cl.callee with
   |value f=>exact absurd hcl (hc cl f rfl)
   |invoke r m=>simp[Qa,hcl]at hn
   | builtin b =>
     have hb:b=.len\/b=.max\/b=.min:=by have:=hap cl rfl;simp only[Qa,hcl]at hn;cases b <;> first|(exact absurd hcl this)|(simp at hn;done)|simp
     obtain⟨U,hU⟩:=wM (V:=FI e cl.args.toList) (T:=λAs H k=>xO L b cl.argTypes.toList As H k) λAs=>a0e L b hb _ As;refine⟨U,λH k=>?_⟩;simp only[xH,hcl];exact hU H k
 |_=>simp[Qa]at hn
end Go.AL
namespace Go.AL
theorem a3q{F:FT}{L:Lay}{op:Op}{e:Env}{H:Heap}{k:AV->Heap->Prop}{ks:Heap->Prop}(O O':AV->Prop)(hc:∀cl f,op=.call cl->cl.callee≠.value f) :
  xH F O L op e H k ks↔xH F O' L op e H k ks:=by
 cases op with
 | call cl =>
   cases hcl:cl.callee with
   |value f=>exact absurd hcl (hc cl f rfl)
   |_=>simp only[xH,hcl]
 |_=>exact jr
theorem a2b{sz:Nat}{B:AV}{H:Heap}{k:List AV->Prop}(h:Oy [] sz B k):Oy H sz B k:=by unfold Oy at h ⊢;split at h;{exact h};{exact h};{exact h.elim};{exact h};exact h.elim
theorem a1L{L:Lay}{ts:List Nat}{As:List AV}{H:Heap}{K:AV->Prop}(h:xO L .append ts As [] λA H'=>H'=[]/\K A) :
  xO L .append ts As H λA H'=>K A/\H'=H:=by
 have ap0:∀{sz bytes:Nat} {l m:List AV},Ou sz bytes l m [] (λA H'=>H'=[]/\K A)->Ou sz bytes l m H λA H'=>K A/\H'=H:=(by rintro sz bytes l m (⟨h1,h2,h3⟩|⟨h1,h2,h3⟩);{have:=(wz.1 h3).1;cases this};exact .pure h1 h2 ⟨h3.2,rfl⟩);have app:∀{t:Nat} {A B:AV},AP L t A B [] (λA H'=>H'=[]/\K A)->AP L t A B H λA H'=>K A/\H'=H:=(by intro t A B h;unfold AP at h ⊢;obtain⟨i,h1,h2⟩:=rO L t _ h;refine h2 _ ?_;split at h1;{obtain⟨ei,h3,h4⟩:=rO L _ _ h1;refine h4 _ ?_;split at h3;{obtain⟨m,h5,h6⟩:=BX [] _ B _ h3;exact a2b (h6 _ (ap0 h5))};{obtain⟨h5,h6⟩:=xJ _ _ _ h3;refine h6 _ ?_;obtain⟨m,h7,h8⟩:=BX [] _ B _ h5;exact a2b (h8 _ (ap0 h7))};{obtain⟨h5,h6⟩:=xJ _ _ _ h3;obtain⟨m,h7,h8⟩:=BX [] _ B _ h5;exact h7.elim};exact h3.elim};exact h1.elim);unfold xO at h ⊢;split at h;{rename_i hb;cases hb};{obtain⟨i,h1,h2⟩:=rO L _ _ h;refine h2 _ ?_;split at h1;{exact app h1};{exact app h1};exact h1.elim};{rename_i hb;cases hb};{rename_i hb;cases hb};exact h.elim
theorem Gn{op:Op}{k:Prop}:noNil op k↔F5 op=false/\k:=by unfold noNil;cases F5 op <;> simp
theorem a7y{F:FT}{L:Lay}{op:Op}{e:Env}{K:AV->Prop}(hn:Zz op=true)(h:O7 F L op e K)(H:Heap) :
  xH F Ok L op e H (λA H'=>K A/\H'=H) (λ_=>False):=by
 by_cases hld:∃t x,op=.load t x;{obtain⟨t,x,rfl⟩:=hld;have h:uj e x λA=>Ap L t A [] λR=>K R:=h;show uj e x λA=>Ap L t A H λR=>K R/\H=H;obtain⟨A,h1,h2⟩:=sF _ _ _ h;refine h2 _ ?_;obtain⟨R,h3,h4⟩:=Ak _ _ _ _ _ h1;have h5:=h4 (λR'=>K R'/\H=H) ⟨h3,rfl⟩;unfold Ap at h5 ⊢;split at h5;{exact h5};{exact h5.elim};exact h5.elim};have hn:Qa op=true:=by
  unfold Zz at hn;rcases Bool.or_eq_true_iff.1 hn with h|h;{exact h};exfalso;cases op with
  |load t x=>exact hld ⟨t,x,rfl⟩
  |_=>simp[sW]at h
 have gen:(∀cl f,op=.call cl->cl.callee≠.value f)->(∀t x y,op≠.makeSlice t x y)->(∀cl,op=.call cl->cl.callee≠.builtin .append)->xH F (λ_=>True) L op e [] (λA _=>K A) (λ_=>False)->xH F Ok L op e H (λA H'=>K A/\H'=H) (λ_=>False):=by
  intro hc hs hap h;obtain⟨U,hU⟩:=b1Q (F:=F) (vS:=λ_=>True) (L:=L) (e:=e) hn hc hs hap (λ_=>False);rw[a3q Ok (λ_=>True) hc];have h1:=(hU [] _).1 h;refine(hU H _).2 ?_;have:(λA=>K A/\H=H)=K:=by funext A;simp
  rw[this];exact h1
 have b7X:(∀cl f,op=.call cl->cl.callee≠.value f)->(∀t x y,op≠.makeSlice t x y)->(∀cl,op=.call cl->cl.callee≠.builtin .append)->(noNil op <| xH F (λ_=>True) L op e [] (λA _=>K A) (λ_=>False))->xH F Ok L op e H (λA H'=>K A/\H'=H) (λ_=>False) :=
  λhc hs hap h=>gen hc hs hap (Gn.1 h).2
 cases op with
 | call cl =>
   cases hcl:cl.callee with
   | value f =>
     simp only[O7,hcl]at h;simp only[xH,hcl];obtain⟨A,h1,h2⟩:=sF e f _ h;cases A with
     |fn g cap =>obtain⟨As,h3,h4⟩:=AA e _ _ h1;obtain⟨Bs,h5,h6⟩:=UW As cap _ h3;obtain⟨Cs,R,hle,hb,hF,hK⟩:=h5;exact h2 _ (h4 _ (h6 _ (.pure Cs R hle hb hF λ_=>⟨hK,rfl⟩)))
     |_=>exact h1.elim
   |builtin b =>by_cases hb:b=.append;{subst hb;simp only[O7,hcl]at h;simp only[xH,hcl];obtain⟨As,h3,h4⟩:=AA e _ _ h;exact h4 _ (a1L h3)};refine gen (λcl' f he=>by cases he;rw[hcl];simp) (λ_ _ _ he=>by cases he) (λcl' he=>by cases he;rw[hcl];simpa using hb) ?_;simp only[xH,hcl];cases b <;> first|exact absurd rfl hb|(simp only[O7,hcl]at h;exact h)
   |invoke r m=>simp[Qa,hcl]at hn
 |makeSlice t x y =>simp only[O7]at h;simp only[xH];obtain⟨A,h1,h2⟩:=sF e x _ h;refine h2 _ ?_;obtain⟨B,h3,h4⟩:=sF e y _ h1;refine h4 _ ?_;obtain⟨i,h5,h6⟩:=rO L t _ h3;refine h6 _ ?_;split at h5;{obtain⟨ei,⟨h7,h8,h9⟩,h10⟩:=rO L _ _ h5;exact h10 _ ⟨h7,.pure ⟨h8,h9,rfl⟩⟩};exact h5.elim
 |_=>exact b7X (λcl' f he=>by cases he) (λ_ _ _ he=>by cases he) (λcl' he=>by cases he) h
theorem a1q{F:FT}{L:Lay}{op:Op}{e:Env}:vX (O7 F L op e):=by
 have gen:vX λK=>noNil op <| xH F (λ_=>True) L op e [] (λA _=>K A) (λ_=>False):=(by intro K h;obtain⟨hn,h⟩:=Gn.1 h;rcases a2N hn _ _ h with⟨A,H',h1,h2⟩|⟨H',h1,_⟩;{exact⟨A,h1,λk' hk'=>Gn.2 ⟨hn,h2 _ _ hk'⟩⟩};exact h1.elim);cases op with
 | call cl =>
   cases hcl:cl.callee with
   | value f =>
     intro K h;simp only[O7,hcl]at h ⊢;obtain⟨A,h1,h2⟩:=sF e f _ h;cases A with
     |fn g cap =>obtain⟨As,h3,h4⟩:=AA e _ _ h1;obtain⟨Bs,h5,h6⟩:=UW As cap _ h3;obtain⟨Cs,R,hle,hb,hF,hK⟩:=h5;exact⟨R,hK,λk' hk'=>h2 _ (h4 _ (h6 _ (.pure Cs R hle hb hF hk')))⟩
     |_=>exact h1.elim
   | builtin b =>
     intro K h;by_cases hb:b=.append;{subst hb;simp only[O7,hcl]at h ⊢;obtain⟨As,h3,h4⟩:=AA e _ _ h;obtain⟨A,H',h5,h6⟩:=ET L .append _ As [] _ h3;exact⟨A,h5.2,λk' hk'=>h4 _ (h6 _ ⟨h5.1,hk'⟩)⟩};have key:∀K:AV->Prop,O7 F L (.call cl) e K↔FI e cl.args.toList λAs=>xO L b cl.argTypes.toList As [] λA _=>K A:=by intro K;cases b <;> first|exact absurd rfl hb|(simp only[O7,hcl])
     obtain⟨As,h3,h4⟩:=AA e _ _ ((key K).1 h);obtain⟨A,H',h5,h6⟩:=ET L b _ As [] _ h3;exact⟨A,h5,λk' hk'=>(key k').2 (h4 _ (h6 _ hk'))⟩
   |invoke r m=>intro K h;simp only[O7,hcl]at h
 |makeSlice t x y =>refine(sF e x).bind λA=>(sF e y).bind λB=>(rO L t).bind λi=>?_;split;{refine(rO L _).bind λei=>?_;rintro K ⟨h7,h8,h9⟩;exact⟨_,h9,λk' hk'=>⟨h7,h8,hk'⟩⟩};exact vX.no
 |_=>exact gen
end Go.AL
namespace Go.AL
structure Rec where
 o:Oper
 nb:Bool
 ran:Bool
 e:Env
 A:AV
 H:Heap
 H':Heap
def uN(e e':Env):Prop:=∀t A',uY e' t=some A'->∃A,uY e t=some A/\∀c v,EV c A v->EV c A' v
theorem uN.refl(e:Env):uN e e:=λ_ A h=>⟨A,h,λ_ _ h=>h⟩
def Dn(ops:List Oper)(g:Option (Nat×Bool))(e:Env)(b:Bool):Prop :=
 match g with
 |none=>b=true
 |some (j,want)=>∃oj d A,ops[j]? = some oj/\oj.dst=some d/\uY e d=some A/\∀c v,EV c A v->(∃x,v=.bool x/\b=(x==want))\/(v=undef/\b=false)
def KU(dst:Option Nat)(A:AV)(e:Env):Env:=match dst with|some d=>(d,A)::e|none=>e
theorem Dy{dst:Option Nat}{A:AV}{e:Env}{k:Env->Prop}:Cm dst A e k↔k (KU dst A e):=by cases dst <;> exact jr
def Does(F:FT)(L:Lay)(r:Rec):Prop :=
 (r.nb=true/\r.H'=r.H/\∀K:AV->Prop,K r.A->O7 F L r.o.op r.e K) \/
 (r.nb=false/\∀(k:AV->Heap->Prop) ks,k r.A r.H'->xH F (λ_=>True) L r.o.op r.e r.H k ks) \/
 (r.nb=false/\r.o.dst=none/\∀k (ks:Heap->Prop),ks r.H'->xH F (λ_=>True) L r.o.op r.e r.H k ks)
def FV (F:FT) (L:Lay) (ops:List Oper):List Rec->Env->Heap->Env->Heap->Prop
 | [],e,H,ef,Hf=>ef=e/\Hf=H
 |r::l,e,H,ef,Hf=>r.H=H/\uN e r.e/\Dn ops r.o.guard e r.ran/\(r.ran=true->Does F L r)/\(r.ran=false->r.A=.uf []/\r.H'=H) /\
    FV F L ops l (KU r.o.dst r.A r.e) r.H' ef Hf
theorem Kq{c:Cx}{v:Value}(h:v=.bool true):EV c .tt v:=by subst h;exact rZ (vw rfl rfl (by simp only[VR,Rd]))
theorem Kr{c:Cx}{v:Value}(h:v=.bool false):EV c .ff v:=by subst h;exact rZ (vw rfl rfl (by simp only[VR,Rd]))
theorem Dh{e:Env}{d:Nat}{A A':AV}(h:uY e d=some A)(hA:∀c v,EV c A v->EV c A' v):uN e ((d,A')::e):=by
 intro t B hB;simp only[uY]at hB;cases hb:Nat.beq d t with
 |true =>rw[hb]at hB;obtain rfl:=aK hb;obtain rfl:=aW hB;exact⟨A,h,hA⟩
 |false=>rw[hb]at hB;exact⟨B,hB,λ_ _ h=>h⟩
theorem OT{ops:List Oper}{g:Option (Nat×Bool)}{e:Env}{yes no:Env->Prop}(h:zV ops g e yes no) :
  ∃e' b,uN e e'/\Dn ops g e b/\(b=true->yes e')/\(b=false->no e'):=by
 unfold zV at h;split at h;{exact⟨e,true,.refl e,rfl,λ_=>h,λh=>by cases h⟩};rename_i j b;obtain⟨oj,d,h1,h2,h3⟩:=Xj h;obtain⟨A,h4,h5⟩:=yB.1 h3;have say:∀(x:Bool),(∀c v,EV c A v->v=.bool x)->Dn ops (some (j,b)) e (x==b):=λx hx=>⟨oj,d,A,h1,h2,h4,λc v hv=>.inl ⟨x,hx c v hv,rfl⟩⟩;split at h5;{exact⟨e,true,.refl e,by simpa using say true λc v hv=>Mc hv,λ_=>h5,λh=>by cases h⟩};{exact⟨e,false,.refl e,by simpa using say true λc v hv=>Mc hv,(λh=>by cases h),λ_=>h5⟩};{exact⟨e,false,.refl e,by simpa using say false λc v hv=>Me hv,(λh=>by cases h),λ_=>h5⟩};{exact⟨e,true,.refl e,by simpa using say false λc v hv=>Me hv,λ_=>h5,λh=>by cases h⟩}
 ·rename_i x;cases x with
  |true=>exact⟨_,true,Dh h4 λc v hv=>Kq (yE hv),by simpa using say true λc v hv=>yE hv,λ_=>h5.1 rfl,λh=>by cases h⟩
  |false=>exact⟨_,false,Dh h4 λc v hv=>Kr (yE hv),by simpa using say false λc v hv=>yE hv,(λh=>by cases h),λ_=>h5.2 rfl⟩
 ·rename_i x;cases x with
  |true=>exact⟨_,false,Dh h4 λc v hv=>Kq (yE hv),by simpa using say true λc v hv=>yE hv,(λh=>by cases h),λ_=>h5.1 rfl⟩
  |false=>exact⟨_,true,Dh h4 λc v hv=>Kr (yE hv),by simpa using say false λc v hv=>yE hv,λ_=>h5.2 rfl,λh=>by cases h⟩
 ·rename_i p;have dt:p->∀c v,EV c (.dec p) v->v=.bool true:=λhp c v hv=>(by obtain⟨x,e1,e2⟩:=CW hv;rw[e2.2 hp]at e1;exact e1);have df:¬p->∀c v,EV c (.dec p) v->v=.bool false:=λhp c v hv=>by
   obtain⟨x,e1,e2⟩:=CW hv;cases x with
   |true=>exact absurd (e2.1 rfl) hp
   |false=>exact e1
  by_cases hp:p;{exact⟨_,true,Dh h4 λc v hv=>Kq (dt hp c v hv),by simpa using say true (dt hp),λ_=>h5.1 hp,λh=>by cases h⟩};exact⟨_,false,Dh h4 λc v hv=>Kr (df hp c v hv),by simpa using say false (df hp),(λh=>by cases h),λ_=>h5.2 hp⟩
 ·rename_i p;have dt:p->∀c v,EV c (.dec p) v->v=.bool true:=λhp c v hv=>(by obtain⟨x,e1,e2⟩:=CW hv;rw[e2.2 hp]at e1;exact e1);have df:¬p->∀c v,EV c (.dec p) v->v=.bool false:=λhp c v hv=>by
   obtain⟨x,e1,e2⟩:=CW hv;cases x with
   |true=>exact absurd (e2.1 rfl) hp
   |false=>exact e1
  by_cases hp:p;{exact⟨_,false,Dh h4 λc v hv=>Kq (dt hp c v hv),by simpa using say true (dt hp),(λh=>by cases h),λ_=>h5.1 hp⟩};exact⟨_,true,Dh h4 λc v hv=>Kr (df hp c v hv),by simpa using say false (df hp),λ_=>h5.2 hp,λh=>by cases h⟩
 ·exact⟨e,false,.refl e,⟨oj,d,_,h1,h2,h4,λc v hv=>.inr ⟨a8d hv,rfl⟩⟩,(λh=>by cases h),λ_=>h5⟩
 exact h5.elim
theorem He{F:FT}{L:Lay}{ops:List Oper}{k:Env->Heap->Prop}:∀{l:List (Oper×Bool)} {e:Env} {H:Heap},FK F L ops l e H k ->
  ∃rs ef Hf,rs.map (λr=>(r.o,r.nb))=l/\FV F L ops rs e H ef Hf/\k ef Hf
 | [],e,H,h=>⟨[],e,H,rfl,⟨rfl,rfl⟩,h⟩
 | (o,nb)::l,e,H,h=>by
   simp only[FK]at h;obtain⟨e',b,h1,h2,h3,h4⟩:=OT h;cases b with
   |false =>obtain⟨rs,ef,Hf,g1,g2,g3⟩:=He (Dy.1 (h4 rfl));exact⟨⟨o,nb,false,e',.uf [],H,H⟩::rs,ef,Hf,by simp[g1],⟨rfl,h1,h2,(λh=>by cases h),λ_=>⟨rfl,rfl⟩,g2⟩,g3⟩
   | true =>
     have h3:=h3 rfl;cases nb with
     |true =>obtain⟨A,h5,h6⟩:=a1q _ h3;obtain⟨rs,ef,Hf,g1,g2,g3⟩:=He (Dy.1 h5);exact⟨⟨o,true,true,e',A,H,H⟩::rs,ef,Hf,by simp[g1],⟨rfl,h1,h2,(λ_=>.inl ⟨rfl,rfl,h6⟩),(λh=>by cases h),g2⟩,g3⟩
     | false =>
       obtain⟨hn,h3⟩:=Gn.1 h3;rcases a2N hn _ _ h3 with⟨A,H',h5,h6⟩|⟨H',h5,h6⟩;{obtain⟨rs,ef,Hf,g1,g2,g3⟩:=He (Dy.1 h5);exact⟨⟨o,false,true,e',A,H,H'⟩::rs,ef,Hf,by simp[g1],⟨rfl,h1,h2,(λ_=>.inr (.inl ⟨rfl,h6⟩)),(λh=>by cases h),g2⟩,g3⟩};cases hd:o.dst with
       |some d=>simp only[hd]at h5
       |none =>simp only[hd]at h5;obtain⟨rs,ef,Hf,g1,g2,g3⟩:=He h5;refine⟨⟨o,false,true,e',.und,H,H'⟩::rs,ef,Hf,by simp[g1],⟨rfl,h1,h2,(λ_=>.inr (.inr ⟨rfl,hd,h6⟩)),(λh=>by cases h),?_⟩,g3⟩;simpa[KU,hd]using g2
end Go.AL
namespace Go.AL
theorem uN.trans{a b c:Env}(h:uN a b)(g:uN b c):uN a c:=by intro t A hA;obtain⟨B,h1,h2⟩:=g t A hA;obtain⟨C,h3,h4⟩:=h t B h1;exact⟨C,h3,λc v hv=>h2 c v (h4 c v hv)⟩
theorem uN.push{a b:Env}(h:uN a b)(d:Option Nat)(A:AV):uN (KU d A a) (KU d A b):=by
 cases d with
 |none=>exact h
 | some d =>
   intro t B hB;simp only[KU,uY]at hB ⊢;cases hb:Nat.beq d t with
   |true=>rw[hb]at hB;exact⟨B,hB,λ_ _ h=>h⟩
   |false=>rw[hb]at hB;exact h t B hB
theorem Dn.refine{ops:List Oper}{g:Option (Nat×Bool)}{e e':Env}{b:Bool}(h:uN e e')(hg:Dn ops g e' b):Dn ops g e b:=by unfold Dn at hg ⊢;split;{exact hg};obtain⟨oj,d,A,h1,h2,h3,h4⟩:=hg;obtain⟨B,h5,h6⟩:=h d A h3;exact⟨oj,d,B,h1,h2,h5,λc v hv=>h4 c v (h6 c v hv)⟩
def E0:List Rec->Env->Nat->Env
 | [],e,_=>e
 |_::_,e,0=>e
 |r::l,e,j+1=>E0 l (KU r.o.dst r.A e) j
def Hs:List Rec->Heap->Nat->Heap
 | [],H,_=>H
 |_::_,H,0=>H
 |r::l,_,j+1=>Hs l r.H' j
section
variable{F:FT}{L:Lay}{ops:List Oper}
theorem xW:∀{rs:List Rec} {e0 e:Env} {H:Heap} {ef:Env} {Hf:Heap} {j:Nat} {r:Rec},FV F L ops rs e H ef Hf->uN e0 e->rs[j]? = some r ->
  r.H=Hs rs H j/\uN (E0 rs e0 j) r.e/\Dn ops r.o.guard (E0 rs e0 j) r.ran/\(r.ran=true->Does F L r)/\(r.ran=false->r.A=.uf []/\r.H'=r.H)
 | [],_,_,_,_,_,_,_,_,_,h=>by simp at h
 |x::l,e0,e,H,ef,Hf,0,r,hr,hre,h=>by simp at h;subst h;obtain⟨h1,h2,h3,h4,h5,_⟩:=hr;exact⟨h1,hre.trans h2,h3.refine hre,h4,λh=>⟨(h5 h).1,(h5 h).2.trans h1.symm⟩⟩
 |x::l,e0,e,H,ef,Hf,j+1,r,hr,hre,h=>by obtain⟨h1,h2,h3,h4,h5,h6⟩:=hr;have:=xW (rs:=l) (j:=j) h6 ((hre.trans h2).push x.o.dst x.A) (by simpa using h);exact this
theorem a0N:∀{rs:List Rec} {e0 e:Env} {H:Heap} {ef:Env} {Hf:Heap},FV F L ops rs e H ef Hf->uN e0 e->uN (E0 rs e0 rs.length) ef/\Hf=Hs rs H rs.length
 | [],e0,e,H,ef,Hf,hr,hre=>by obtain⟨rfl,rfl⟩:=hr;exact⟨hre,rfl⟩
 |x::l,e0,e,H,ef,Hf,hr,hre=>by obtain⟨h1,h2,h3,h4,h5,h6⟩:=hr;have:=a0N (rs:=l) h6 ((hre.trans h2).push x.o.dst x.A);exact this
theorem J9:∀{rs:List Rec} {H:Heap} {j:Nat} {r:Rec},rs[j]? = some r->Hs rs H (j+1)=r.H'
 | [],_,_,_,h=>by simp at h
 |x::l,H,0,r,h=>by simp at h;subst h;cases l <;> rfl
 |x::l,H,j+1,r,h=>by simp only[Hs];exact J9 (by simpa using h)
theorem b3J{rs:List Rec}{H:Heap}:Hs rs H 0=H:=by cases rs <;> rfl
theorem a8g:∀{rs:List Rec} {e:Env} {j t:Nat} {A:AV},j<=rs.length->uY (E0 rs e j) t=some A ->
  (∃i r,i<j/\rs[i]? = some r/\r.o.dst=some t/\r.A=A/\∀i' r',i'<j->rs[i']? = some r'->r'.o.dst=some t->i'<=i) \/
  ((∀i r,i<j->rs[i]? = some r->r.o.dst≠some t)/\uY e t=some A)
 | [],e,j,t,A,hj,h=>by simp at hj;subst hj;exact .inr ⟨λi r hi=>aj,h⟩
 |x::l,e,0,t,A,_,h=>.inr ⟨λi r hi=>aj,h⟩
 | x::l,e,j+1,t,A,hj,h=>by
   simp only[E0]at h;rcases a8g (by simpa using hj) h with⟨i,r,h1,h2,h3,h4,h5⟩|⟨h1,h2⟩
   ·refine .inl ⟨i+1,r,aj,by simpa using h2,h3,h4,λi' r' hi' hr' hd'=>?_⟩;cases i' with
    |zero=>omega
    |succ i'=>have:=h5 i' r' aj (by simpa using hr') hd';omega
   by_cases hx:x.o.dst=some t
   ·rw[hx]at h2;simp only[KU,uY,Nat.beq_refl]at h2;refine .inl ⟨0,x,aj,rfl,hx,aW h2,λi' r' hi' hr' hd'=>?_⟩;cases i' with
    |zero=>omega
    |succ i'=>exact absurd hd' (h1 i' r' aj (by simpa using hr'))
   refine .inr ⟨λi r hi hr=>?_,?_⟩
   ·cases i with
    |zero=>simp at hr;subst hr;exact hx
    |succ i=>exact h1 i r aj (by simpa using hr)
   cases hd:x.o.dst with
   |none=>rw[hd]at h2;exact h2
   | some d =>
     rw[hd]at h2;simp only[KU,uY]at h2;cases hb:Nat.beq d t with
     |true=>exact absurd (by rw[hd,aK hb]) hx
     |false=>rw[hb]at h2;exact h2
end
end Go.AL
namespace Go.AL
theorem NG{F:FT}{L:Lay}{op:Op}{e:Env}{H:Heap}{k:AV->Heap->Prop}{ks:Heap->Prop}(h:xH F (λ_=>True) L op e H k ks):xH F Ok L op e H k ks:=by
 by_cases hc:∀cl f,op=.call cl->cl.callee≠.value f;{exact(a3q _ _ hc).1 h};have hc':∃cl f,op=.call cl/\cl.callee=.value f:=by apply aU;intro hn;exact hc λcl f h1 h2=>hn ⟨cl,f,h1,h2⟩
 obtain⟨cl,f,rfl,hcl⟩:=hc';simp only[xH,hcl]at h ⊢;obtain⟨A,h1,h2⟩:=sF e f _ h;cases A with
 | fn g cap =>
   obtain⟨As,h3,h4⟩:=AA e _ _ h1;obtain⟨Bs,h5,h6⟩:=UW As cap _ h3;cases h5 with
   |gen R H' hF hK=>exact h2 _ (h4 _ (h6 _ (.gen R H' hF λ_=>hK trivial)))
   |pure Cs R hle hb hF hK=>exact h2 _ (h4 _ (h6 _ (.pure Cs R hle hb hF λ_=>hK trivial)))
 |_=>exact h1.elim
structure zl(X:Nat->Nat->Prop)(ops:List Oper)(rs:List Rec):Prop where
 len:rs.length=ops.length
 get:∀(j:Nat) (r:Rec),rs[j]? = some r->ops[j]? = some r.o
 b7y:∀(j:Nat) (r:Rec),rs[j]? = some r->r.nb=true->Zz r.o.op=true
 back:∀(j:Nat) (o:Oper),ops[j]? = some o->∀e∈o.after.toList,Region.binds .any e=true->e.on<j
 first:∀(i j:Nat) (ri rj:Rec),i<j->rs[i]? = some ri->rs[j]? = some rj->Ep ops (ri.o,ri.nb) (rj.o,rj.nb)=true->((LZ ops []).getD j 0).testBit i=true\/X i j
 exm:∀(i j:Nat) (ri rj:Rec),X i j->rs[i]? = some ri->rs[j]? = some rj->(sW ri.o.op=true/\ri.nb=false\/(ri.nb=false/\sW ri.o.op=false)/\sW rj.o.op=true/\rj.nb=false/\(ops.all λo=>!BD o.op)=true)/\True/\(∀t,ri.o.dst=some t->t ∉ uJ ops rj.o)/\∀t,rj.o.dst=some t->t ∉ uJ ops ri.o
 b60:∀(j:Nat) (r:Rec),rs[j]? = some r->r.nb=false->BD r.o.op=true->r.o.guard=none/\∃d,r.o.dst=some d
 late:∀(i j k:Nat) (ri rj rk:Rec) (d:Nat),i<j->j<k->rs[i]? = some ri->rs[j]? = some rj->rs[k]? = some rk->ri.nb=false->sW ri.o.op=false->rj.nb=false->BD rj.o.op=true->rj.o.dst=some d ->
  d∈uJ ops rk.o->((LZ ops []).getD j 0).testBit i=true\/((LZ ops []).getD k 0).testBit i=true
theorem tY{α:Type}{l:List α}{p:α×Nat->Bool}(h:l.zipIdx.all p=true){j:Nat}{x:α}(hx:l[j]? = some x):p (x,j)=true:=by rw[bF]at h;apply h;rw[List.mem_zipIdx_iff_getElem?];simpa using hx
theorem a9k{ops:List Oper}{mask:List Bool}{rs:List Rec}(h:TW ops mask=true)(hm:rs.map (λr=>(r.o,r.nb))=ops.zip mask):zl (λ_ _=>False) ops rs:=by
 unfold TW at h;simp only[aN]at h;obtain⟨⟨⟨⟨h1,h2⟩,h3⟩,h5⟩,h4⟩:=h;have hlen:=aK h1;have hget:∀(j:Nat) (r:Rec),rs[j]? = some r->(ops.zip mask)[j]? = some (r.o,r.nb):=by intro j r hr;rw[<- hm,dO,hr];rfl
 refine⟨?_,λj r hr=>?_,λj r hr hn=>?_,λj o ho e he hb=>?_,λi j ri rj hij hi hj hc=>.inl ?_,λ_ _ _ _ h=>h.elim,λj r hr hn hw=>?_,λi j k ri rj rk d hij hjk hi hj hk hn hl hn' hw hd hm=>?_⟩;{have:=lQ List.length hm;simp at this;omega};{have:=hget j r hr;rw[l9]at this;exact this.1};{have:=bF.1 h2 _ (cZ (hget j r hr));simpa[hn]using this};{have:=tY h3 ho;have:=bF.1 this e he;rw[hb]at this;simpa using this};{have:=tY h4 (hget j rj hj);have:=tY this (hget i ri hi);have hlt:Nat.blt i j=true:=(by simpa using hij);simp only[hlt,hc,fZ,fE]at this;exact this}
 ·have:=tY h5 (hget j r hr);simp only[hn,hw,jB,jw,fZ,fE,aN]at this;obtain⟨g1,g2⟩:=this;refine⟨?_,?_⟩
  ·cases hg:r.o.guard with
   |none=>rfl
   |some g=>rw[hg]at g1;cases g1
  cases hd:r.o.dst with
  |none=>rw[hd]at g2;cases g2
  |some d=>exact⟨d,rfl⟩
 have:=tY h5 (hget j rj hj);simp only[hn',hw,jB,jw,fZ,fE,aN,hd]at this;have:=tY this.2 (hget i ri hi);have hlt:Nat.blt i j=true:=(by simpa using hij);have hlt2:Nat.blt j k=true:=(by simpa using hjk);simp only[hlt,hn,hl,fZ,fE,gG]at this;rcases this with this|this;{exact .inl this};have:=tY this (hget k rk hk);have hc:(uJ ops rk.o).contains d=true:=(by simpa using hm);simp only[hlt2,hc,fZ,fE]at this;exact .inr this
section
variable{X:Nat->Nat->Prop}{ops:List Oper}{rs:List Rec}{listed:Array Bool}
def rC(listed:Array Bool)(j:Nat):Prop:=listed.getD j false=true
theorem WQ{j i:Nat}(hj:j<listed.size):rC (listed.setIfInBounds j true) i↔i=j\/rC listed i:=by unfold rC;by_cases hij:i=j;{subst hij;simp[hj]};simp[hij,iU (Ne.symm hij)]
theorem BJ(hd:zl X ops rs)(hc:Closed ops (rC listed)){i j:Nat}{ri rj:Rec}(hij:i<j)(hi:rs[i]? = some ri)(hj:rs[j]? = some rj)
  (hcl:Ep ops (ri.o,ri.nb) (rj.o,rj.nb)=true) (hx:¬X i j) (hje:∀e∈rj.o.after.toList,Region.binds .any e=true->rC listed e.on):rC listed i :=
 a1J hc j rj.o (hd.get j rj hj) hje ((hd.first i j ri rj hij hi hj hcl).resolve_right hx)
theorem BN(hd:zl X ops rs)(hc:Closed ops (rC listed)){i j:Nat}{ri rj:Rec}(hij:i<j)(hi:rs[i]? = some ri)(hj:rs[j]? = some rj)
  (hcl:Ep ops (ri.o,ri.nb) (rj.o,rj.nb)=true) (hx:¬X i j) (hl:rC listed j):rC listed i :=
 BJ hd hc hij hi hj hcl hx (hc j rj.o hl (hd.get j rj hj))
def eff(r:Rec):Bool:=!r.nb && !sW r.o.op
theorem zl.nx1(hd:zl X ops rs){i j:Nat}{ri rj:Rec}(hi:rs[i]? = some ri)(hj:rs[j]? = some rj){t:Nat}(h:ri.o.dst=some t)(ht:t∈uJ ops rj.o):¬X i j :=
 λx=>(hd.exm i j ri rj x hi hj).2.2.1 t h ht
theorem zl.nx2(hd:zl X ops rs){i j:Nat}{ri rj:Rec}(hi:rs[i]? = some ri)(hj:rs[j]? = some rj){t:Nat}(h:rj.o.dst=some t)(ht:t∈uJ ops ri.o):¬X i j :=
 λx=>(hd.exm i j ri rj x hi hj).2.2.2 t h ht
theorem zl.nxe(hd:zl X ops rs){i j:Nat}{ri rj:Rec}(hi:rs[i]? = some ri)(hj:rs[j]? = some rj)(h:eff ri=true)(h':eff rj=true):¬X i j:=by intro x;rcases(hd.exm i j ri rj x hi hj).1 with g|g;{simp[eff,g.1]at h};simp[eff,g.2.1]at h'
theorem zl.nxl(hd:zl X ops rs){i j:Nat}{ri rj:Rec}(hi:rs[i]? = some ri)(hj:rs[j]? = some rj)(h:eff ri=true)(x:X i j):sW rj.o.op=true/\(ops.all λo=>!BD o.op)=true:=by rcases(hd.exm i j ri rj x hi hj).1 with g|g;{simp[eff,g.1]at h};exact⟨g.2.1,g.2.2.2⟩
theorem Gq{x y:Rec}(hx:eff x=true)(hy:y.nb=false):(BD y.o.op=false->(sW y.o.op=false\/UC x.o.op=false\/(ops.all λo=>!BD o.op)=false)->Ep ops (x.o,x.nb) (y.o,y.nb)=true)/\(BD x.o.op=false->(sW y.o.op=false\/Pm x.o.op=false)->Ep ops (y.o,y.nb) (x.o,x.nb)=true):=by simp only[eff,aN,eF]at hx;refine⟨λh hn=>?_,λhn h=>?_⟩;{unfold Ep;rcases hn with hn|hn|hn <;> simp only[hx.1,hx.2,hy,h,hn,jB,Bool.and_true,Bool.false_and,lJ,nY]};have ha:UC y.o.op=true->sW x.o.op=false:=λ_=>hx.2;rcases h with h|h <;> simp[Ep,hx.1,hx.2,hy,h,hn]
theorem Nu{x y:Rec}{t:Nat}(hx:x.o.dst=some t)(hy:t∈uJ ops y.o):Ep ops (x.o,x.nb) (y.o,y.nb)=true/\Ep ops (y.o,y.nb) (x.o,x.nb)=true:=by constructor <;> simp[Ep,hx,hy]
end
structure Free(c:Cx)(H:Heap)(b:Nat):Prop where
 lt:b<c.w.heap.size
 own:∀x∈H,qZ c x≠some b
 im:∀o,¬c.Im b o
theorem Free.tr{c d:Cx}{H H':Heap}{b:Nat}(h:Free c H b)(t:Tr c H d H'):Free d H' b/\d.w.heap[b]? = c.w.heap[b]?:=by have h1:=h.lt;refine⟨⟨by have:=t.size;omega,λy hy hb=>?_,λo ho=>?_⟩,t.fr b h1 h.own⟩;{rcases t.own y hy b hb with h2|⟨x,h2,h3⟩;{omega};exact h.own x h2 h3};rcases t.imb b o ho with h2|h2|⟨x,h2,h3⟩;{exact h.im o h2};{omega};exact h.own x h2 h3
inductive SpB(b:Nat):Obj->Value->HO->(Nat->AV)->Prop
 |box {cs:List Value} {ty:Nat} {z:AV} (h:∀c:Cx,VR c z cs):SpB b (.cells cs.toArray ty) (.pointer (some ⟨b,0,none⟩)) (.box z) (λj=>.ptr j [] 0)
 |map {sh:AV}:SpB b (.map #[] 0) (.map (some b)) (.tN sh []) .mp
def Cx.adopt(c:Cx)(H:Heap)(b:Nat)(z:HO):Cx:={ c with ρ:=λk=>if k=c.nx then b else c.ρ k,nx:=c.nx+1,tp:=ug ((nextId H,z)::H) }
theorem Tr.adopt{c0 c:Cx}{H0 H:Heap}(tr:Tr c0 H0 c H){b:Nat}(hf:Free c H b)(h0:c0.w.heap.size<=b){o:Obj}{v:Value}{z:HO}{f:Nat->AV}(hh:c.w.heap[b]? = some o)(hz:SpB b o v z f) :
  Tr c0 H0 (c.adopt H b z) ((nextId H,z)::H)/\c.Le (c.adopt H b z)/\EV (c.adopt H b z) (f (nextId H)) v/\∀b',b'≠b->Free c H b'->Free (c.adopt H b z) ((nextId H,z)::H) b':=by
 have hr:=tr.hr;have hlt:∀x∈H,x.1<c.nx:=λx hx=>(by rw[hr.nx];exact sG hr.ids x hx);have le:c.Le (c.adopt H b z):=(by refine⟨λb x h=>⟨h,rfl⟩,mF _,λk hk=>?_,λk n hk hn=>?_⟩;{simp only[Cx.adopt];rw[aB aj]};refine .inl ⟨?_,rfl⟩;have:nextId H≠k:=(by rw[<- hr.nx];omega);simp only[Cx.adopt]at hn;rw[Bv this]at hn;rw[hr.tp];exact hn);have hbk:∀x∈H,qZ (c.adopt H b z) x=qZ c x:=λx hx=>Bl (le.ρ _ (hlt x hx)) rfl;have hρ:(c.adopt H b z).ρ (nextId H)=b:=(by simp only[Cx.adopt];rw[aG hr.nx.symm]);have hnew:qZ (c.adopt H b z) (nextId H,z)=some b:=by
  have:qZ (c.adopt H b z) (nextId H,z)=some ((c.adopt H b z).ρ (nextId H)):=by cases hz <;> rfl
  rw[this,hρ]
 refine⟨⟨⟨?_,rfl,?_,?_,?_,?_⟩,tr.le.trans le,tr.os,tr.tape,tr.output,tr.size,tr.fr,?_,tr.imb⟩,le,?_,?_⟩;{simp only[Cx.adopt,nextId,hr.nx]};{exact⟨λx hx=>sG hr.ids x hx,hr.ids⟩};{exact hr.im}
 ·intro x hx;rcases aT.1 hx with rfl|hx
  ·cases hz with
   | @box cs ty z hz =>refine⟨cs,ty,?_,hz _,?_⟩;{rw[hρ];exact hh};rw[hρ];exact hf.im
   |map =>refine⟨#[],0,?_,rfl,trivial,ak,ak⟩;rw[hρ];exact hh
  exact DY le (hlt x hx) rfl (λb hb=>⟨rfl,λy hy=>hy⟩) (hr.ok x hx)
 ·rw[fB];constructor;{intro y hy b' hb hb';rw[hnew]at hb;obtain rfl:=aW hb;rw[hbk y hy]at hb';exact hf.own y hy hb'};exact BA hr.apart λx hx y hy h b hb=>by rw[hbk y hy];rw[hbk x hx]at hb;exact h b hb
 ·intro y hy b' hb;rcases aT.1 hy with rfl|hy;{rw[hnew]at hb;obtain rfl:=aW hb;exact .inl h0};rw[hbk y hy]at hb;exact tr.own y hy b' hb
 ·have hlt':nextId H<(c.adopt H b z).nx:=(by simp only[Cx.adopt,hr.nx];omega);cases hz with
  |box hz =>have:=Jq (c:=c.adopt H b _) (i:=nextId H) (off:=0) (p:=[]) hlt';rw[hρ]at this;exact rZ this
  |map =>refine rZ (vw rfl rfl ?_);simp only[VR];exact⟨hlt',by rw[hρ]⟩
 intro b' hne h;refine⟨h.lt,λy hy hb=>?_,h.im⟩;rcases aT.1 hy with rfl|hy;{rw[hnew]at hb;exact hne (aW hb).symm};rw[hbk y hy]at hb;exact h.own y hy hb
structure b7m(c0:Cx)(a:Act)(c:Cx)(H:Heap)(r:Rec)(b:Nat):Prop where
 b56:BD r.o.op=true
 free:Free c H b
 low:c0.w.heap.size<=b
 cells:∃o v z f,c.w.heap[b]? = some o/\SpB b o v z f/\r.H'=(nextId r.H,z)::r.H/\r.A=f (nextId r.H)/\∀d,r.o.dst=some d->a.tmps.getD d undef=v
structure Jt(ops:List Oper)(rs:List Rec)(c0:Cx)(H0:Heap)(e:Env)(a0:Act)(n:Nat)(listed:Array Bool)(m:Nat)(a:Act)(c:Cx)(pd:Nat->Nat):Prop where
 size:listed.size=ops.length
 closed:Closed ops (rC listed)
 mle:m<=rs.length
 below:∀(j:Nat) (r:Rec),j<m->rs[j]? = some r->eff r=true->rC listed j
 above:∀(j:Nat) (r:Rec),m<=j->rs[j]? = some r->eff r=true->rC listed j->b7m c0 a c (Hs rs H0 m) r (pd j)
 inj:∀(i j:Nat) (ri rj:Rec),m<=i->m<=j->rs[i]? = some ri->rs[j]? = some rj->eff ri=true->eff rj=true->rC listed i->rC listed j->pd i=pd j->i=j
 tr:Tr c0 H0 c (Hs rs H0 m)
 old:∀(t:Nat) (A:AV),(∀(j:Nat) (r:Rec),rC listed j->rs[j]? = some r->r.o.dst≠some t)->uY e t=some A->EV c A (a.tmps.getD t undef)
 new:∀(t j:Nat) (r:Rec),rC listed j->rs[j]? = some r->r.o.dst=some t->(∀(i:Nat) (ri:Rec),rC listed i->rs[i]? = some ri->ri.o.dst=some t->i<=j)->(eff r=true->j<m)->EV c r.A (a.tmps.getD t undef)
 defers:a.defers=[]
 a8m:a.tmps.size=n
 fr:Fr (rX ops) a0 a
def Adv(rs:List Rec)(listed:Array Bool)(m:Nat):Prop :=
 ∀(j:Nat) (r:Rec),m<=j->rs[j]? = some r->eff r=true->rC listed j->∃(x:Nat) (rx:Rec),m<=x/\x<j/\rs[x]? = some rx/\eff rx=true/\¬rC listed x
end Go.AL
namespace Go.AL
def sub(e:Env):List Operand->Env
 | []=>[]
 | .tmp t::l=>match uY e t with|some A=>(t,A)::sub e l|none=>sub e l
 | .const _::l=>sub e l
 | .func _::l=>sub e l
 | .global _::l=>sub e l
theorem JD{e:Env}:∀{l:List Operand} {t:Nat} {A:AV},uY (sub e l) t=some A->uY e t=some A/\Operand.tmp t∈l
 | [],_,_,h=>by simp[sub,uY]at h
 | .tmp s::l,t,A,h=>by
   simp only[sub]at h;cases hs:uY e s with
   |none=>rw[hs]at h;have:=JD h;exact⟨this.1,by simp[this.2]⟩
   | some B =>
     rw[hs]at h;simp only[uY]at h;cases hb:Nat.beq s t with
     |true =>rw[hb]at h;obtain rfl:=aK hb;obtain rfl:=aW h;exact⟨hs,ak⟩
     |false=>rw[hb]at h;have:=JD h;exact⟨this.1,by simp[this.2]⟩
 | .const _::l,t,A,h=>by have:=JD (l:=l) h;exact⟨this.1,by simp[this.2]⟩
 | .func _::l,t,A,h=>by have:=JD (l:=l) h;exact⟨this.1,by simp[this.2]⟩
 | .global _::l,t,A,h=>by have:=JD (l:=l) h;exact⟨this.1,by simp[this.2]⟩
theorem ML{e:Env}{A:AV}{t:Nat}(he:uY e t=some A):∀{l:List Operand},Operand.tmp t∈l->uY (sub e l) t=some A
 | [],h=>by simp at h
 | .tmp s::l,h=>by
   simp only[sub];cases hs:uY e s with
   | none =>
     have:t≠s:=λe'=>by subst e';rw[he]at hs;cases hs
     exact ML he (l:=l) (by simpa[this]using h)
   | some B =>
     simp only[uY];cases hb:Nat.beq s t with
     |true =>obtain rfl:=aK hb;rw[hs]at he;exact he
     |false =>have:t≠s:=λe'=>xw hb e'.symm;exact ML he (l:=l) (by simpa[this]using h)
 | .const _::l,h=>ML he (l:=l) (by simpa using h)
 | .func _::l,h=>ML he (l:=l) (by simpa using h)
 | .global _::l,h=>ML he (l:=l) (by simpa using h)
theorem a8p{e:Env}{l:List Operand}:J6 l (sub e l) e:=by
 intro t ht;cases he:uY e t with
 |some A=>exact ML he ht
 | none =>
   cases hs:uY (sub e l) t with
   |none=>rfl
   |some B=>rw[(JD hs).1]at he;cases he
theorem GR{t:Nat}:∀{l:List Operand},Operand.tmp t∈l->t∈Wj l
 | [],h=>by simp at h
 | .tmp s::l,h=>by simp only[Wj,aT];rcases aT.1 h with h|h;{exact .inl (by cases h;rfl)};exact .inr (GR h)
 | .const _::l,h=>GR (l:=l) (by simpa using h)
 | .func _::l,h=>GR (l:=l) (by simpa using h)
 | .global _::l,h=>GR (l:=l) (by simpa using h)
theorem EC{d:Nat}:∀{l:List Oper} {o:Oper},o∈l->o.dst=some d->d∈rX l
 | [],_,h,_=>by simp at h
 | x::l,o,h,hd=>by
   simp only[rX];rcases aT.1 h with h|h;{subst h;rw[hd];simp};cases x.dst with
   |none=>exact EC h hd
   |some d'=>exact dh _ (EC h hd)
section
variable{F:FT}{L:Lay}{ops:List Oper}{rs:List Rec}
theorem Vj{e:Env}{H:Heap}{ef:Env}{Hf:Heap}(hr:FV F L ops rs e H ef Hf){p:Nat}:∀(q:Nat),p<=q->q<=rs.length ->
  (∀j r,p<=j->j<q->rs[j]? = some r->r.H'=r.H)->Hs rs H p=Hs rs H q
 | 0,hpq,_,_=>by obtain rfl:p=0:=aj;rfl
 |q+1,hpq,hq,h=>by by_cases hp:p=q+1;{rw[hp]};have hlt:q<rs.length:=aj;have hr':=xW hr (uN.refl e) (aH hlt);rw[J9 (aH hlt),h q _ aj aj (aH hlt),hr'.1];exact Vj hr q aj aj λj r h1 h2 h3=>h j r h1 aj h3
theorem BF{e:Env}{H:Heap}{ef:Env}{Hf:Heap}(hr:FV F L ops rs e H ef Hf){j:Nat}{r:Rec}(hj:rs[j]? = some r)(he:eff r=false):r.H'=r.H:=by
 have hr':=xW hr (uN.refl e) hj;cases Je:r.ran with
 |false=>exact(hr'.2.2.2.2 Je).2
 | true =>
   rcases hr'.2.2.2.1 Je with⟨_,h,_⟩|⟨hn,h⟩|⟨hn,_,h⟩;{exact h}
   ·have hl:sW r.o.op=true:=(by simpa[eff,hn]using he);cases ho:r.o.op with
    |load t x =>rw[ho]at h;have:=h (λA H'=>A=r.A/\H'=r.H') (λ_=>False) ⟨rfl,rfl⟩;simp only[xH]at this;obtain⟨A,h1,_⟩:=sF _ _ _ this;obtain⟨R,h2,_⟩:=Ak _ _ _ _ _ h1;exact h2.2.symm
    |_=>simp[ho,sW]at hl
   have hl:sW r.o.op=true:=(by simpa[eff,hn]using he);cases ho:r.o.op with
   |load t x =>rw[ho]at h;have:=h (λ_ _=>False) (λH'=>H'=r.H') rfl;simp only[xH]at this;obtain⟨A,h1,_⟩:=sF _ _ _ this;obtain⟨R,h2,_⟩:=Ak _ _ _ _ _ h1;exact h2.elim
   |_=>simp[ho,sW]at hl
end
section
variable{F:FT}{L:Lay}{ops:List Oper}{rs:List Rec}
def b5l:HO->Bool
 | .box _=>true
 | .arr ..=>true
 |_=>false
def Keep(H H':Heap):Prop:=∀y∈H,b5l y.2=true->y∈H'
theorem Keep.refl(H:Heap):Keep H H:=λ_ h _=>h
theorem Keep.cons(x:Nat×HO)(H:Heap):Keep H (x::H):=λ_ h _=>dh _ h
theorem Keep.set{o':HO}{j:Nat}{o:HO}(hb:b5l o=false):∀{H:Heap},hget H j=some o->Keep H (hset H j o')
 | [],h=>by simp[hget]at h
 | (i,p)::H,h=>by
   simp only[hget]at h;simp only[hset];intro y hy hby
   cases hbq:Nat.beq i j with
   | true =>
     rw[hbq]at h;obtain rfl:=aW h;rcases aT.1 hy with rfl|hy
     ·rw[hb]at hby;cases hby
     exact dh _ hy
   |false =>rw[hbq]at h;rcases aT.1 hy with rfl|hy;{exact dD};exact dh _ (Keep.set hb h y hy hby)
theorem a0J{sz bytes:Nat}{l m:List AV}{H X:Heap}(h:Ou sz bytes l m H λ_ H'=>H'=X):Keep H X:=by
 cases h with
 |tok _ _ next=>rw[<- wz.1 next];exact .cons _ _
 |pure _ _ next=>rw[<- next];exact .refl _
theorem Ue{t:Nat}{A B:AV}{H X:Heap}(h:AP L t A B H λ_ H'=>H'=X):Keep H X:=by unfold AP at h;obtain⟨i,h,_⟩:=rO _ _ _ h;split at h;{obtain⟨ei,h,_⟩:=rO _ _ _ h;split at h;{obtain⟨m,h,_⟩:=BX _ _ _ _ h;exact a0J h};{obtain⟨_,h⟩:=sV.1 h;obtain⟨m,h,_⟩:=BX _ _ _ _ h;exact a0J h};{obtain⟨_,h⟩:=sV.1 h;obtain⟨m,h,_⟩:=BX _ _ _ _ h;obtain⟨o,h1,h⟩:=uh.1 h;split at h;{obtain⟨_,_,h⟩:=sV.1 h;have h:=(yx.1 h.next).2;rw[<- h];exact Keep.set rfl h1};exact h.elim};exact h.elim};exact h.elim
theorem a0E{ts:List Nat}{As:List AV}{H X:Heap}(h:xO L .append ts As H λ_ H'=>H'=X):Keep H X:=by
 unfold xO at h;split at h;all_goals first|(rename_i h0;cases h0;done)|skip
 all_goals first|exact h.elim|skip
 all_goals
  obtain⟨i,h,_⟩:=rO _ _ _ h;split at h;{exact Ue h};{exact Ue h};exact h.elim
theorem Keep.b38{x:Nat×HO}(hb:b5l x.2=false)(H:Heap):Keep (x::H) H:=λy h hy=>by rcases aT.1 h with rfl|h;{rw[hb]at hy;cases hy};exact h
theorem Keep.unset{o':HO}{j:Nat}(hb:b5l o'=false):∀{H:Heap},Keep (hset H j o') H
 | []=>.refl _
 | (i,p)::H=>by
   simp only[hset];intro y hy hby
   cases hbq:Nat.beq i j with
   | true =>
     rw[hbq]at hy;rcases aT.1 hy with rfl|hy
     ·rw[hb]at hby;cases hby
     exact dh _ hy
   |false =>rw[hbq]at hy;rcases aT.1 hy with rfl|hy;{exact dD};exact dh _ (Keep.unset hb y hy hby)
theorem a0K{sz bytes:Nat}{l m:List AV}{H X:Heap}(h:Ou sz bytes l m H λ_ H'=>H'=X):Keep X H:=by
 cases h with
 |tok _ _ next=>rw[<- wz.1 next];exact .b38 rfl _
 |pure _ _ next=>rw[<- next];exact .refl _
theorem Uf{t:Nat}{A B:AV}{H X:Heap}(h:AP L t A B H λ_ H'=>H'=X):Keep X H:=by unfold AP at h;obtain⟨i,h,_⟩:=rO _ _ _ h;split at h;{obtain⟨ei,h,_⟩:=rO _ _ _ h;split at h;{obtain⟨m,h,_⟩:=BX _ _ _ _ h;exact a0K h};{obtain⟨_,h⟩:=sV.1 h;obtain⟨m,h,_⟩:=BX _ _ _ _ h;exact a0K h};{obtain⟨_,h⟩:=sV.1 h;obtain⟨m,h,_⟩:=BX _ _ _ _ h;obtain⟨o,h1,h⟩:=uh.1 h;split at h;{obtain⟨_,_,h⟩:=sV.1 h;have h:=(yx.1 h.next).2;rw[<- h];exact Keep.unset rfl};exact h.elim};exact h.elim};exact h.elim
theorem a0F{ts:List Nat}{As:List AV}{H X:Heap}(h:xO L .append ts As H λ_ H'=>H'=X):Keep X H:=by
 unfold xO at h;split at h;all_goals first|(rename_i h0;cases h0;done)|skip
 all_goals first|exact h.elim|skip
 all_goals
  obtain⟨i,h,_⟩:=rO _ _ _ h;split at h;{exact Uf h};{exact Uf h};exact h.elim
theorem a3o{e:Env}{H:Heap}{ef:Env}{Hf:Heap}(hr:FV F L ops rs e H ef Hf){j:Nat}{r:Rec}(hj:rs[j]? = some r)(ha:UC r.o.op=true):Keep r.H' r.H:=by
 have hr':=xW hr (uN.refl e) hj;cases Je:r.ran with
 |false=>rw[(hr'.2.2.2.2 Je).2];exact .refl _
 | true =>
   cases ho:r.o.op with
   | call c =>
     have hc:c.callee=.builtin .append:=by
      rw[ho]at ha;simp only[UC]at ha;split at ha
      ·assumption
      cases ha
     rcases hr'.2.2.2.1 Je with⟨_,h,_⟩|⟨hn,h⟩|⟨hn,_,h⟩;{rw[h];exact .refl _};{rw[ho]at h;have:=h (λ_ H'=>H'=r.H') (λ_=>False) rfl;simp only[xH,hc]at this;obtain⟨As,h1,_⟩:=AA _ _ _ this;exact a0F h1};rw[ho]at h;have:=h (λ_ _=>False) (λH'=>H'=r.H') rfl;simp only[xH,hc]at this;obtain⟨As,h1,_⟩:=AA _ _ _ this;obtain⟨_,_,h2,_⟩:=ET _ _ _ _ _ _ h1;exact h2.elim
   |_=>simp[ho,UC]at ha
theorem a4C{e:Env}{H:Heap}{ef:Env}{Hf:Heap}(hr:FV F L ops rs e H ef Hf){j:Nat}{r:Rec}(hj:rs[j]? = some r)(ha:Pm r.o.op=true):Keep r.H r.H':=by
 have hr':=xW hr (uN.refl e) hj;cases Je:r.ran with
 |false=>rw[(hr'.2.2.2.2 Je).2];exact .refl _
 | true =>
   cases ho:r.o.op with
   |alloc t =>rcases hr'.2.2.2.1 Je with⟨_,h,_⟩|⟨hn,h⟩|⟨hn,_,h⟩;{rw[h];exact .refl _};{rw[ho]at h;have:=h (λA H'=>A=r.A/\H'=r.H') (λ_=>False) ⟨rfl,rfl⟩;simp only[xH]at this;obtain⟨i,h1,_⟩:=rO _ _ _ this;rw[<- (wz.1 h1).2];exact .cons _ _};rw[ho]at h;have:=h (λ_ _=>False) (λH'=>H'=r.H') rfl;simp only[xH]at this;obtain⟨i,h1,_⟩:=rO _ _ _ this;exact(wz.1 h1).elim
   | call c =>
     have hc:c.callee=.builtin .append:=by
      rw[ho]at ha;simp only[Pm]at ha;split at ha
      ·assumption
      cases ha
     rcases hr'.2.2.2.1 Je with⟨_,h,_⟩|⟨hn,h⟩|⟨hn,_,h⟩;{rw[h];exact .refl _};{rw[ho]at h;have:=h (λ_ H'=>H'=r.H') (λ_=>False) rfl;simp only[xH,hc]at this;obtain⟨As,h1,_⟩:=AA _ _ _ this;exact a0E h1};rw[ho]at h;have:=h (λ_ _=>False) (λH'=>H'=r.H') rfl;simp only[xH,hc]at this;obtain⟨As,h1,_⟩:=AA _ _ _ this;obtain⟨_,_,h2,_⟩:=ET _ _ _ _ _ _ h1;exact h2.elim
   |makeMap t z =>rcases hr'.2.2.2.1 Je with⟨_,h,_⟩|⟨hn,h⟩|⟨hn,_,h⟩;{rw[h];exact .refl _};{rw[ho]at h;have:=h (λA H'=>A=r.A/\H'=r.H') (λ_=>False) ⟨rfl,rfl⟩;simp only[xH]at this;split at this;{obtain⟨i,h1,_⟩:=rO _ _ _ this;split at h1;{rw[<- (wz.1 h1).2];exact .cons _ _};exact h1.elim};exact this.elim};rw[ho]at h;have:=h (λ_ _=>False) (λH'=>H'=r.H') rfl;simp only[xH]at this;split at this;{obtain⟨i,h1,_⟩:=rO _ _ _ this;split at h1;{exact(wz.1 h1).elim};exact h1.elim};exact this.elim
   |_=>simp[ho,Pm]at ha
theorem a1T{e:Env}{H:Heap}{ef:Env}{Hf:Heap}(hr:FV F L ops rs e H ef Hf){p:Nat}:∀(q:Nat),p<=q->q<=rs.length ->
  (∀j r,p<=j->j<q->rs[j]? = some r->Keep r.H' r.H)->Keep (Hs rs H q) (Hs rs H p)
 | 0,hpq,_,_,y,hy,_=>by obtain rfl:p=0:=aj;exact hy
 |q+1,hpq,hq,h,y,hy,hb=>by by_cases hp:p=q+1;{rw[hp];exact hy};have hlt:q<rs.length:=aj;have hr':=xW hr (uN.refl e) (aH hlt);rw[J9 (aH hlt)]at hy;have:=h q _ aj aj (aH hlt) y hy hb;rw[hr'.1]at this;exact a1T hr q aj aj (λj r h1 h2 h3=>h j r h1 aj h3) y this hb
theorem a4B{t:Nat}{A:AV}{H H':Heap}{k:AV->Prop}(hs:Keep H H')(hi:uQ H')(h:Ap L t A H k):Ap L t A H' k:=by
 unfold Ap at h ⊢;split at h;{exact h}
 ·obtain⟨o,h1,h2⟩:=uh.1 h;have hb:b5l o=true:=by
   cases o with
   |box _=>rfl
   |arr _ _ _=>rfl
   |_=>exact h2.elim
  exact uh.2 ⟨o,EN hi (hs _ (wS h1) hb),h2⟩
 exact h.elim
end
def cnt(listed:Array Bool):Nat:=listed.toList.countP λb=>!b
theorem Oi:∀{l:List Bool} {i:Nat},l[i]? = some false->(l.set i true).countP (λb=>!b)<l.countP (λb=>!b)
 | [],_,h=>by simp at h
 |x::l,0,h=>by simp at h;subst h;simp
 |x::l,i+1,h=>by have:=Oi (l:=l) (i:=i) (by simpa using h);simp only[jT,iG];omega
theorem a1t{listed:Array Bool}{i:Nat}(hi:i<listed.size)(h:¬rC listed i):cnt (listed.setIfInBounds i true)<cnt listed:=by unfold cnt;rw[Array.toList_setIfInBounds];refine Oi ?_;unfold rC at h;rw[dI]at h;rw[bJ,fC hi];rw[fC hi]at h;simpa using h
theorem LM{listed:Array Bool}(h:cnt listed=0){i:Nat}(hi:i<listed.size):rC listed i:=by apply aU;intro hn;have:=a1t hi hn;omega
theorem I4{ops:Array Oper}{listed:Array Bool}(hs:listed.size=ops.size){i:Nat} :
  i∈Region.ready .any ops listed↔∃o,ops[i]? = some o/\¬rC listed i/\∀e∈o.after.toList,Region.binds .any e=true->rC listed e.on:=by
 unfold Region.ready;rw[fF,iF];constructor;{rintro⟨h1,h2⟩;simp only[aN]at h2;have hx:=fC h1;refine⟨ops[i],hx,?_,?_⟩;{unfold rC;rw[dI];have hi:i<listed.size:=aj;have:=h2.1;rw[dI,fC hi]at this;rw[fC hi];simpa using this};intro e he hb;have:=h2.2;rw[hx]at this;simp only[iq,kM]at this;rw[<- Array.all_toList,bF]at this;have:=this e he;rw[hb]at this;simpa[rC]using this};rintro⟨o,h1,h2,h3⟩;have hi:i<ops.size:=(dG.1 h1).1;refine⟨hi,?_⟩;simp only[aN];refine⟨?_,?_⟩;{unfold rC at h2;have hi:i<listed.size:=aj;rw[dI,fC hi]at h2;rw[dI,fC hi];simpa using h2};rw[h1];simp only[iq,kM];rw[<- Array.all_toList,bF];intro e he;cases hb:Region.binds .any e with
 |false=>rfl
 |true=>simpa[rC]using h3 e he hb
theorem ready_nil{ops:Array Oper}{listed:Array Bool}(hs:listed.size=ops.size)(hback:∀(j:Nat) (o:Oper),ops.toList[j]? = some o->∀e∈o.after.toList,Region.binds .any e=true->e.on<j)
  (h:Region.ready .any ops listed=[]):∀j,j<ops.size->rC listed j:=by
 intro j;induction j using Nat.strongRecOn with
 | _ j ih =>
   intro hj;apply aU;intro hn;have hx:=fC hj;have:j∈Region.ready .any ops listed:=(I4 hs).2 ⟨_,hx,hn,λe he hb=>by
    have hlt:=hback j _ (by rw[bJ];exact hx) e he hb;exact ih e.on hlt aj⟩
   rw[h]at this;simp at this
section
variable{X:Nat->Nat->Prop}{P:Program}{F:FT}{L:Lay}{ops:Array Oper}{rs:List Rec}{c0:Cx}{H0:Heap}{e:Env}{a0 a:Act}{n m:Nat}{listed:Array Bool}{c:Cx}{ef:Env}{Hf:Heap}{pd:Nat->Nat}
theorem Jt.notYet(hd:zl X ops.toList rs)(I:Jt ops.toList rs c0 H0 e a0 n listed m a c pd)(Rk:Adv rs listed m){i j:Nat}{r rj:Rec}(hi:rs[i]? = some r)
  (hbef:∀e∈r.o.after.toList,Region.binds .any e=true->rC listed e.on) {t:Nat} (ht:t∈uJ ops.toList r.o) (hji:j<i) (hj:rs[j]? = some rj) (hdj:rj.o.dst=some t) (hl:rC listed j) (he:eff rj=true):j<m:=by
 apply aU;intro hm;obtain⟨x,rx,h1,h2,h3,h4,h5⟩:=Rk j rj aj hj he hl;have hp:=(I.above j rj aj hj he hl).b56;simp only[eff,aN,eF]at h4 he;rcases hd.late x j i rx rj r t h2 hji h3 hj hi h4.1 h4.2 he.1 hp hdj ht with hb|hb;{exact h5 (a1J I.closed j rj.o (hd.get j rj hj) (I.closed j rj.o hl (hd.get j rj hj)) hb)};exact h5 (a1J I.closed i r.o (hd.get i r hi) hbef hb)
theorem Jt.slot(hd:zl X ops.toList rs)(I:Jt ops.toList rs c0 H0 e a0 n listed m a c pd)(Rk:Adv rs listed m){i:Nat}{r:Rec}(hi:rs[i]? = some r)(hn:¬rC listed i)
  (hbef:∀e∈r.o.after.toList,Region.binds .any e=true->rC listed e.on) {t:Nat} {A:AV} (ht:t∈uJ ops.toList r.o) (hA:uY (E0 rs e i) t=some A):EV c A (a.tmps.getD t undef):=by
 have hlt:i<rs.length:=(aY.1 hi).1;have a5A:∀(j:Nat) (rj:Rec),rC listed j->rs[j]? = some rj->rj.o.dst=some t->j<i:=(by intro j rj hl hj hdj;rcases mD j i with h|h|h;{exact h};{subst h;exact absurd hl hn};exact absurd (BN hd I.closed h hi hj (Nu hdj ht).2 (hd.nx2 hi hj hdj ht) hl) hn);rcases a8g aj hA with⟨j,rj,h1,h2,h3,rfl,h5⟩|⟨h1,h2⟩;{have hl:=BJ hd I.closed h1 h2 hi (Nu h3 ht).1 (hd.nx1 h2 hi h3 ht) hbef;exact I.new t j rj hl h2 h3 (λi' ri' hl hi' hd'=>h5 i' ri' (a5A i' ri' hl hi' hd') hi' hd') λhe=>I.notYet hd Rk hi hbef ht h1 h2 h3 hl he};exact I.old t A (λj rj hl hj hdj=>h1 j rj (a5A j rj hl hj hdj) hj hdj) h2
theorem Jt.ahead (hd:zl X ops.toList rs) (I:Jt ops.toList rs c0 H0 e a0 n listed m a c pd) (Rk:Adv rs listed m) {i:Nat} {r:Rec} (hi:rs[i]? = some r)
  (hbef:∀e∈r.o.after.toList,Region.binds .any e=true->rC listed e.on) (hnb:r.nb=false) (hnew:BD r.o.op=false) {j:Nat} {rj:Rec} (h1:m<=j) (h2:j<i) (hj:rs[j]? = some rj):eff rj=false\/(sW r.o.op=true/\UC rj.o.op=true)\/(sW r.o.op=true/\X j i):=by
 cases he:eff rj with
 |false=>exact .inl rfl
 | true =>
   have sZ:rj.nb=false:=(by simp[eff]at he;exact he.1);by_cases hXj:X j i;{exact .inr (.inr ⟨(hd.nxl hj hi he hXj).1,hXj⟩)};cases hx:sW r.o.op&&UC rj.o.op&&(ops.toList.all λo=>!BD o.op)with
   |true=>simp only[aN]at hx;exact .inr (.inl hx.1)
   | false =>
     have hcl:∀(x:Rec),(sW r.o.op&&UC x.o.op&&(ops.toList.all λo=>!BD o.op))=false->sW r.o.op=false\/UC x.o.op=false\/(ops.toList.all λo=>!BD o.op)=false:=by
      intro x hx;cases h1:sW r.o.op with
      |false=>exact .inl rfl
      | true =>
        cases h2:UC x.o.op with
        |false=>exact .inr (.inl rfl)
        |true=>rw[h1,h2]at hx;exact .inr (.inr (by simpa using hx))
     have hlj:=BJ hd I.closed h2 hj hi ((Gq he hnb).1 hnew (hcl rj hx)) hXj hbef;obtain⟨x,rx,g1,g2,g3,g4,g5⟩:=Rk j rj h1 hj he hlj;have b4u:(ops.toList.all λo=>!BD o.op)=true->False:=λhy=>(by have hnw:BD rj.o.op=false:=(by have:=bF.1 hy rj.o (cZ (hd.get j rj hj));simpa using this);have hlb:sW rj.o.op=false:=(by simp[eff]at he;exact he.2);exact absurd (BN hd I.closed g2 g3 hj ((Gq g4 sZ).1 hnw (.inl hlb)) (hd.nxe g3 hj g4 he) hlj) g5);by_cases hXx:X x i;{exact(b4u (hd.nxl g3 hi g4 hXx).2).elim};cases hy:sW r.o.op&&UC rx.o.op&&(ops.toList.all λo=>!BD o.op)with
     |false=>exact absurd (BJ hd I.closed aj g3 hi ((Gq g4 hnb).1 hnew (hcl rx hy)) hXx hbef) g5
     |true =>simp only[aN]at hy;exact(b4u hy.2).elim
theorem Jt.heap(hd:zl X ops.toList rs)(hrun:FV F L ops.toList rs e H0 ef Hf)(I:Jt ops.toList rs c0 H0 e a0 n listed m a c pd)(Rk:Adv rs listed m){i:Nat}{r:Rec}(hi:rs[i]? = some r)(hn:¬rC listed i)
  (hbef:∀e∈r.o.after.toList,Region.binds .any e=true->rC listed e.on) (hef:eff r=true) (hnew:BD r.o.op=false):Hs rs H0 m=r.H:=by
 have hnb:r.nb=false:=(by simp[eff]at hef;exact hef.1);have hlt:i<rs.length:=(aY.1 hi).1;have hmi:m<=i:=(by apply aU;intro h;exact hn (I.below i r aj hi hef));rw[(xW hrun (uN.refl e) hi).1];exact Vj hrun i hmi aj λj rj h1 h2 hj=>BF hrun hj ((I.ahead hd Rk hi hbef hnb hnew h1 h2 hj).resolve_right λh=>by rcases h with h|h <;> simp[eff,h.1]at hef)
def xE(F:FT)(L:Lay)(r:Rec)(H:Heap):Prop:=xH F Ok L r.o.op r.e H (λA H'=>A=r.A/\H'=H) λ_=>False
theorem xE.keep{r:Rec}{H H':Heap}(hl:sW r.o.op=true)(hs:Keep H H')(hi:uQ H')(h:xE F L r H):xE F L r H':=by
 unfold xE at h ⊢;cases ho:r.o.op with
 |load t x =>rw[ho]at h;simp only[xH]at h ⊢;obtain⟨A,h5,h6⟩:=sF _ _ _ h;refine h6 _ (a4B hs hi ?_);obtain⟨R,h7,h8⟩:=Ak _ _ _ _ _ h5;exact h8 _ ⟨h7.1,trivial⟩
 |_=>simp[ho,sW]at hl
theorem exists_least{p:Nat->Prop}(h:∃n,p n):∃n,p n/\∀k,k<n->¬p k:=by
 apply aU;intro hn;have:∀n,¬p n:=by
  intro n;induction n using Nat.strongRecOn with
  |_ n ih=>exact λhp=>hn ⟨n,hp,ih⟩
 exact h.elim this
theorem Jt.b6l (hd:zl X ops.toList rs) (hX:∀(i j:Nat) (ri rj:Rec),X i j->rs[i]? = some ri->rs[j]? = some rj->ri.ran=true->rj.ran=true->(sW ri.o.op=true->xE F L ri rj.H')/\(eff ri=true->xE F L rj ri.H)) (hrun:FV F L ops.toList rs e H0 ef Hf)
  (I:Jt ops.toList rs c0 H0 e a0 n listed m a c pd) (Rk:Adv rs listed m) {i:Nat} {r:Rec} (hi:rs[i]? = some r) (hn:¬rC listed i)
  (hbef:∀e∈r.o.after.toList,Region.binds .any e=true->rC listed e.on) (hnb:r.nb=false) (hld:sW r.o.op=true) (Je:r.ran=true) (h0:xE F L r r.H):xE F L r (Hs rs H0 m):=by
 have hlt:i<rs.length:=(aY.1 hi).1;have hnew:BD r.o.op=false:=by cases ho:r.o.op <;> simp[ho,sW]at hld <;> rfl
 rw[(xW hrun (uN.refl e) hi).1]at h0;rcases Nat.le_total m i with h|h
 ·by_cases hex:∃q,m<=q/\q<i/\X q i/\∃rq,rs[q]? = some rq/\eff rq=true/\rq.ran=true
  ·obtain⟨q,⟨q1,q2,q3,rq,q4,q5,q6⟩,b7v⟩:=exists_least hex;have h1:=(hX q i rq r q3 q4 hi q6 Je).2 q5;rw[(xW hrun (uN.refl e) q4).1]at h1;refine xE.keep hld ?_ I.tr.hr.ids h1;refine a1T hrun q q1 aj λj rj h1 h2 hj=>?_;rcases I.ahead hd Rk hi hbef hnb hnew h1 aj hj with he|he|he;{rw[BF hrun hj he];exact .refl _};{exact a3o hrun hj he.2};cases hef:eff rj with
   |false=>rw[BF hrun hj hef];exact .refl _
   | true =>
     cases Si:rj.ran with
     |false=>rw[((xW hrun (uN.refl e) hj).2.2.2.2 Si).2];exact .refl _
     |true=>exact absurd ⟨h1,aj,he.2,rj,hj,hef,Si⟩ (b7v j h2)
  refine xE.keep hld ?_ I.tr.hr.ids h0;refine a1T hrun i h aj λj rj h1 h2 hj=>?_;rcases I.ahead hd Rk hi hbef hnb hnew h1 h2 hj with he|he|he;{rw[BF hrun hj he];exact .refl _};{exact a3o hrun hj he.2};cases hef:eff rj with
  |false=>rw[BF hrun hj hef];exact .refl _
  | true =>
    cases Si:rj.ran with
    |false=>rw[((xW hrun (uN.refl e) hj).2.2.2.2 Si).2];exact .refl _
    |true=>exact absurd ⟨j,h1,h2,he.2,rj,hj,hef,Si⟩ hex
 have key:∀q,i<=q->q<=m->∃G,xE F L r G/\Keep G (Hs rs H0 q):=by
  intro q;induction q with
  | zero=>intro h1 _;obtain rfl:i=0:=by omega
          exact⟨_,h0,.refl _⟩
  | succ q ih =>
    intro h1 h2;rcases jS q i with h3|h3;{obtain rfl:i=q+1:=aj;exact⟨_,h0,.refl _⟩};obtain⟨G,g1,g2⟩:=ih h3 aj;have hq:q<rs.length:=(by have:=I.mle;omega);have hj:=aH hq;generalize rs[q]=rj at hj;have hH:=(xW hrun (uN.refl e) hj).1;rw[J9 hj];rw[<- hH]at g2;cases he:eff rj with
    |false=>rw[BF hrun hj he];exact⟨G,g1,g2⟩
    | true =>
      cases hal:Pm rj.o.op with
      |true=>exact⟨G,g1,λy hy hb=>a4C hrun hj hal y (g2 y hy hb) hb⟩
      | false =>
        have hl:=I.below q rj aj hj he;have sZ:BD rj.o.op=false:=by cases ho:rj.o.op <;> simp[ho,Pm]at hal <;> rfl
        rcases Nat.lt_or_eq_of_le h3 with h4|h4
        ·by_cases hx:X i q
         ·cases Si:rj.ran with
          |true=>exact⟨_,(hX i q r rj hx hi hj Je Si).1 hld,.refl _⟩
          |false=>rw[((xW hrun (uN.refl e) hj).2.2.2.2 Si).2];exact⟨G,g1,g2⟩
         exact absurd (BN hd I.closed h4 hi hj ((Gq he hnb).2 sZ (.inr hal)) hx hl) hn
        subst h4;exact absurd hl hn
 obtain⟨G,g1,g2⟩:=key m h (aS _);exact g1.keep hld g2 I.tr.hr.ids
theorem Jt.step(hd:zl X ops.toList rs)(I:Jt ops.toList rs c0 H0 e a0 n listed m a c pd)(Rk:Adv rs listed m){i:Nat}{r:Rec}(hi:rs[i]? = some r)(hn:¬rC listed i)
  (hbef:∀e∈r.o.after.toList,Region.binds .any e=true->rC listed e.on) (hdst:∀d,r.o.dst=some d->d<n) {v:Value} {c':Cx} {H':Heap} {m':Nat}
  (htr:Tr c (Hs rs H0 m) c' H') (hH:H'=Hs rs H0 m')
  (hm:(eff r=false/\m'=m/\∀t,r.o.dst=some t->EV c' r.A v)\/(eff r=true/\BD r.o.op=false/\m'=i+1/\∀t,r.o.dst=some t->EV c' r.A v) \/
   (eff r=true/\m'=m/\∃(b:Nat) (d:Nat),r.o.dst=some d/\BD r.o.op=true/\c.w.heap.size<=b/\Free c' H' b /\
    ∃o z f,c'.w.heap[b]? = some o/\SpB b o v z f/\r.H'=(nextId r.H,z)::r.H/\r.A=f (nextId r.H))) :
  ∃pd',Jt ops.toList rs c0 H0 e a0 n (listed.setIfInBounds i true) m' (a.put r.o.dst v) c' pd':=by
 have hlt:i<rs.length:=(aY.1 hi).1;have hsz:i<listed.size:=(by rw[I.size,<- hd.len];exact hlt);have hls:∀j,rC (listed.setIfInBounds i true) j↔j=i\/rC listed j:=λj=>WQ hsz;have hmi:eff r=true->m<=i:=(by intro hef;apply aU;intro h;exact hn (I.below i r aj hi hef));have hmm:m<=m':=by rcases hm with⟨_,h,_⟩|⟨h1,_,h,_⟩|⟨_,h,_⟩;{omega};{have:=hmi h1;omega};omega
 -- the slot of what is ahead of its time stays
 have hkeep:∀(j:Nat) (rj:Rec) (d:Nat),m<=j->rs[j]? = some rj->eff rj=true->rC listed j->rj.o.dst=some d->r.o.dst≠some d:=(by intro j rj d h1 hj he hl hdj hdi;rcases mD j i with h|h|h;{have:=I.notYet hd Rk hi hbef (t:=d) (by simp[uJ,hdi]) h hj hdj hl he;omega};{subst h;exact hn hl};exact hn (BN hd I.closed h hi hj (Nu hdi (by simp[uJ,hdj])).1 (hd.nx1 hi hj hdi (by simp[uJ,hdj])) hl));have hput:∀d,r.o.dst≠some d->(a.put r.o.dst v).tmps.getD d undef=a.tmps.getD d undef:=by
  intro d h1;cases hdd:r.o.dst with
  |none=>rfl
  |some d' =>simp only[Act.put];rw[getD_set_ne (λh=>h1 (by rw[hdd,h]))]
 have b4F:∀d,r.o.dst=some d->(a.put r.o.dst v).tmps.getD d undef=v:=(by intro d hdd;rw[hdd];simp only[Act.put];rw[TT (by rw[I.a8m];exact hdst d hdd)]);have b6f:∀(j:Nat) (rj:Rec),m<=j->rs[j]? = some rj->eff rj=true->rC listed j->b7m c0 (a.put r.o.dst v) c' H' rj (pd j):=(by intro j rj h1 hj he hl;obtain⟨g1,g2,g3,⟨ob,u,z,f,g4,g5,g6,g8,g7⟩⟩:=I.above j rj h1 hj he hl;obtain⟨f1,f2⟩:=g2.tr htr;exact⟨g1,f1,g3,⟨ob,u,z,f,by rw[f2];exact g4,g5,g6,g8,λd hdj=>by rw[hput d (hkeep j rj d h1 hj he hl hdj)];exact g7 d hdj⟩⟩);let pd':Nat->Nat:=λj=>if j=i then(match v with | .pointer (some ad)=>ad.block | .map (some b)=>b|_=>0)else pd j;have hpd:∀j,j≠i->pd' j=pd j:=λj hj=>aB hj;refine⟨pd',by simpa using I.size,?_,?_,?_,?_,?_,?_,?_,?_,?_,?_,?_⟩;{intro j o hj ho e' he' hb;rw[hls]at hj ⊢;rcases hj with rfl|hj;{have:=hd.get j r hi;rw[this]at ho;obtain rfl:=aW ho;exact .inr (hbef e' he' hb)};exact .inr (I.closed j o hj ho e' he' hb)};{rcases hm with⟨_,h,_⟩|⟨_,_,h,_⟩|⟨_,h,_⟩;{rw[h];exact I.mle};{omega};rw[h];exact I.mle};{intro j rj hj Si he;rw[hls];rcases hm with⟨_,h,_⟩|⟨hef,hnw,h,_⟩|⟨_,h,_⟩;{exact .inr (I.below j rj aj Si he)};{by_cases hji:j=i;{exact .inl hji};exact .inr (BJ hd I.closed aj Si hi ((Gq he (by simp[eff]at hef;exact hef.1)).1 hnw (.inl (by simp[eff]at hef;exact hef.2))) (hd.nxe Si hi he hef) hbef)};exact .inr (I.below j rj aj Si he)}
 ·intro j rj hj Si he hl;rw[hls]at hl;rw[<- hH];by_cases hji:j=i
  ·subst hji;rw[hi]at Si;obtain rfl:=aW Si;rcases hm with⟨h,_⟩|⟨_,_,h,_⟩|⟨_,h,b,d,hdd,hnw,hb,hf,ob,z,f,q1,q2,q3,q4⟩;{rw[he]at h;cases h};{omega};have hpb:pd' j=b:=by cases q2 <;> simp[pd']
   rw[hpb];exact⟨hnw,hf,by have:=I.tr.size;omega,⟨ob,v,z,f,q1,q2,q3,q4,λd' hd'=>b4F d' hd'⟩⟩
  rw[hpd j hji];exact b6f j rj aj Si he (hl.resolve_left hji)
 ·intro j k rj rk hj hk Si hrk hej hek hlj hlk hjk;rw[hls]at hlj hlk;have other:∀(x:Nat) (rx:Rec),m'<=i->i=i->x≠i->m'<=x->rs[x]? = some rx->eff rx=true->rC listed x->eff r=true->pd x=pd' i->False:=by
   intro x rx b8b _ hxi hx hrx hex hlx her hpe;rcases hm with⟨h,_⟩|⟨_,_,h,_⟩|⟨_,h,b,d,hdd,hnw,hb,hf,ob,z,f,q1,q2,q3,q4⟩;{rw[her]at h;cases h};{omega};have hpb:pd' i=b:=by cases q2 <;> simp[pd']
   have:=(I.above x rx aj hrx hex hlx).free.lt;omega
  by_cases hji:j=i;{by_cases hki:k=i;{omega};subst hji;rw[hi]at Si;obtain rfl:=aW Si;rw[hpd k hki]at hjk;exact(other k rk hj rfl hki hk hrk hek (hlk.resolve_left hki) hej hjk.symm).elim};by_cases hki:k=i;{subst hki;rw[hi]at hrk;obtain rfl:=aW hrk;rw[hpd j hji]at hjk;exact(other j rj hk rfl hji hj Si hej (hlj.resolve_left hji) hek hjk).elim};rw[hpd j hji,hpd k hki]at hjk;exact I.inj j k rj rk aj aj Si hrk hej hek (hlj.resolve_left hji) (hlk.resolve_left hki) hjk
 ·rw[<- hH];exact I.tr.trans htr
 ·intro t A hno ht;have h1:r.o.dst≠some t:=hno i r ((hls i).2 (.inl rfl)) hi;rw[hput t h1];exact Cc htr.le (I.old t A (λj rj hl hj=>hno j rj ((hls j).2 (.inr hl)) hj) ht)
 ·intro t j rj hl hj hdj hmax hact;rw[hls]at hl;by_cases hji:j=i;{subst hji;rw[hi]at hj;obtain rfl:=aW hj;rw[b4F t hdj];rcases hm with⟨_,_,h⟩|⟨_,_,_,h⟩|⟨hef,h,_⟩;{exact h t hdj};{exact h t hdj};have:=hact hef;have:=hmi hef;omega};have hl:rC listed j:=hl.resolve_left hji;have b6r:eff rj=true->j<m:=(by intro he;have h1:=hact he;apply aU;intro h2;obtain⟨x,rx,g1,g2,g3,g4,g5⟩:=Rk j rj aj hj he hl;rcases hm with⟨_,h,_⟩|⟨hef,hnw,h,_⟩|⟨_,h,_⟩;{omega};{exact g5 (BJ hd I.closed aj g3 hi ((Gq g4 (by simp[eff]at hef;exact hef.1)).1 hnw (.inl (by simp[eff]at hef;exact hef.2))) (hd.nxe g3 hi g4 hef) hbef)};omega);have h1:r.o.dst≠some t:=by
   intro h;have hle:=hmax i r ((hls i).2 (.inl rfl)) hi h;have hmem:t∈uJ ops.toList rj.o:=by simp[uJ,hdj]
   exact hn (BN hd I.closed aj hi hj (Nu h hmem).1 (hd.nx1 hi hj h hmem) hl)
  rw[hput t h1];exact Cc htr.le (I.new t j rj hl hj hdj (λi' ri' hl'=>hmax i' ri' ((hls i').2 (.inr hl'))) b6r)
 ·cases hdd:r.o.dst <;> simp only[Act.put] <;> exact I.defers
 ·cases hdd:r.o.dst <;> simp[Act.put,I.a8m]
 cases hdd:r.o.dst with
 |none=>exact I.fr
 |some d =>intro t ht;simp only[Act.put];rw[getD_set_ne (λh=>ht (by rw[<- h];exact EC (cZ (hd.get i r hi)) hdd))];exact I.fr t ht
theorem a6d:∀(j:Nat) (rj:Rec),m<=j->rs[j]? = some rj->eff rj=true->rC listed j->(∀(x:Nat) (rx:Rec),m<=x->x<j->rs[x]? = some rx->eff rx=true->rC listed x) ->
  ∃(j:Nat) (rj:Rec),m<=j/\rs[j]? = some rj/\eff rj=true/\rC listed j/\∀(x:Nat) (rx:Rec),m<=x->x<j->rs[x]? = some rx->eff rx=false:=by
 intro j;induction j using Nat.strongRecOn with
 | _ j ihj =>
   intro rj h1 hj he hl hno;by_cases hx:∃(x:Nat) (rx:Rec),m<=x/\x<j/\rs[x]? = some rx/\eff rx=true;{obtain⟨x,rx,g1,g2,g3,g4⟩:=hx;exact ihj x g2 rx g1 g3 g4 (hno x rx g1 g2 g3 g4) λy ry f1 f2 f3 f4=>hno y ry f1 aj f3 f4};refine⟨j,rj,h1,hj,he,hl,λx rx g1 g2 g3=>?_⟩;cases he':eff rx with
   |false=>rfl
   |true=>exact absurd ⟨x,rx,g1,g2,g3,he'⟩ hx
theorem Jt.settle(_:zl X ops.toList rs)(hrun:FV F L ops.toList rs e H0 ef Hf):∀(k m:Nat) (c:Cx),rs.length-m<=k->Jt ops.toList rs c0 H0 e a0 n listed m a c pd ->
  ∃m' c',c'.w=c.w/\Jt ops.toList rs c0 H0 e a0 n listed m' a c' pd/\Adv rs listed m':=by
 intro k;induction k with
 |zero =>intro m c hk I;refine⟨m,c,rfl,I,λj r hj hr=>?_⟩;have:=(aY.1 hr).1;omega
 | succ k ih =>
   intro m c hk I;by_cases hA:Adv rs listed m;{exact⟨m,c,rfl,I,hA⟩};have hA:=hA;unfold Adv at hA;obtain⟨j,hA⟩:=Classical.not_forall.1 hA;obtain⟨rj,hA⟩:=Classical.not_forall.1 hA;simp only[not_imp]at hA;obtain⟨h1,hj,he,hl,hno⟩:=hA;have hno:∀(x:Nat) (rx:Rec),m<=x->x<j->rs[x]? = some rx->eff rx=true->rC listed x:=by intro x rx g1 g2 g3 g4;apply aU;intro g5;exact hno ⟨x,rx,g1,g2,g3,g4,g5⟩
   obtain⟨j,rj,h1,hj,he,hl,hno⟩:=a6d j rj h1 hj he hl hno;have hjl:j<rs.length:=(aY.1 hj).1;obtain⟨g1,g2,g3,⟨ob,u,z,f,g4,g5,g6,g7,g8⟩⟩:=I.above j rj h1 hj he hl;have hHj:Hs rs H0 m=rj.H:=(by rw[(xW hrun (uN.refl e) hj).1];exact Vj hrun j h1 aj λx rx f1 f2 f3=>BF hrun f3 (hno x rx f1 f2 f3));obtain⟨t1,t2,t3,t4⟩:=Tr.adopt I.tr g2 g3 g4 g5;have hHn:Hs rs H0 (j+1)=(nextId (Hs rs H0 m),z)::Hs rs H0 m:=(by rw[J9 hj,g6,hHj]);rw[<- hHn]at t1 t4;have I':Jt ops.toList rs c0 H0 e a0 n listed (j+1) a (c.adopt (Hs rs H0 m) (pd j) z) pd:=by
    refine⟨I.size,I.closed,aj,?_,?_,?_,t1,?_,?_,I.defers,I.a8m,I.fr⟩;{intro x rx hx hrx hex;rcases mD x m with h|h|h;{exact I.below x rx h hrx hex};{by_cases hxj:x=j;{rw[hxj];exact hl};rw[hno x rx aj aj hrx]at hex;cases hex};by_cases hxj:x=j;{rw[hxj];exact hl};rw[hno x rx aj aj hrx]at hex;cases hex}
    ·intro x rx hx hrx hex hlx;obtain⟨p1,p2,p3,p4⟩:=I.above x rx aj hrx hex hlx;have hne:pd x≠pd j:=λh=>by have:=I.inj x j rx rj aj h1 hrx hj hex he hlx hl h;omega
     exact⟨p1,t4 _ hne p2,p3,p4⟩
    ·intro x y rx ry hx hy hrx hry hex hey hlx hly hxy;exact I.inj x y rx ry aj aj hrx hry hex hey hlx hly hxy
    ·intro t A hno' ht;exact Cc t2 (I.old t A hno' ht)
    intro t x rx hlx hrx hdx hmax hact;by_cases hxj:x=j;{subst hxj;rw[hj]at hrx;obtain rfl:=aW hrx;rw[g8 t hdx,g7,<- hHj];exact t3};refine Cc t2 (I.new t x rx hlx hrx hdx hmax λhex=>?_);have:=hact hex;apply aU;intro h;rw[hno x rx aj aj hrx]at hex;cases hex
   obtain⟨m',c',hw,I'',Rk⟩:=ih (j+1) _ aj I';exact⟨m',c',hw,I'',Rk⟩
theorem a7D(hL:uo P L){r:Rec}{t:Nat}(ho:r.o.op=.alloc t)(hnb:r.nb=false)(Xa:Does F L r) :
  ∃i,Gj P t i/\r.H'=(nextId r.H,.box i.zero)::r.H/\r.A=.ptr (nextId r.H) [] 0:=by
 rcases Xa with⟨h1,_⟩|⟨_,h⟩|⟨_,_,h⟩;{rw[hnb]at h1;cases h1};{rw[ho]at h;have:=h (λA H'=>A=r.A/\H'=r.H') (λ_=>False) ⟨rfl,rfl⟩;simp only[xH]at this;obtain⟨i,hT,h1⟩:=Lay.rY hL this;have:=wz.1 h1;exact⟨i,hT,this.2.symm,this.1.symm⟩};rw[ho]at h;have:=h (λ_ _=>False) (λH'=>H'=r.H') rfl;simp only[xH]at this;obtain⟨i,hT,h1⟩:=Lay.rY hL this;exact(wz.1 h1).elim
theorem b1X(hL:uo P L){r:Rec}{t:Nat}(ho:r.o.op=.makeMap t none)(hnb:r.nb=false)(Xa:Does F L r) :
  ∃sh,r.H'=(nextId r.H,.tN sh [])::r.H/\r.A=.mp (nextId r.H):=by
 have key:∀{k:AV->Heap->Prop} {ks:Heap->Prop},xH F (λ_=>True) L r.o.op r.e r.H k ks->∃sh,k (.mp (nextId r.H)) ((nextId r.H,.tN sh [])::r.H):=(by intro k ks h;rw[ho]at h;simp only[xH]at h;obtain⟨i,hT,h1⟩:=Lay.rY hL h;split at h1;{exact⟨_,wz.1 h1⟩};exact h1.elim);rcases Xa with⟨h1,_⟩|⟨_,h⟩|⟨_,_,h⟩;{rw[hnb]at h1;cases h1};{obtain⟨sh,h1,h2⟩:=key (h (λA H'=>A=r.A/\H'=r.H') (λ_=>False) ⟨rfl,rfl⟩);exact⟨sh,h2.symm,h1.symm⟩};obtain⟨sh,h1⟩:=key (h (λ_ _=>False) (λH'=>H'=r.H') rfl);exact h1.elim
theorem run_map{t:Nat}{o:Oper}{ρ:Operand->Value}{w:World}(ho:o.op=.makeMap t none) :
  (execOp ρ o).run P w=.ok (.value (.map (some w.heap.size))) (w.alloc (.map #[] 0)):=by
 unfold execOp;rw[ho];simp only[Instr.makeMap,Sem.run_bind,run_newObj,Result.andThen_ok,Sem.run_pure,iO,World.alloc_eq]
theorem a5m{t:Nat}{i:TI}{o:Oper}{ρ:Operand->Value}{w:World}(hT:Gj P t i)(ho:o.op=.alloc t) :
  ∃v:Value,(execOp ρ o).run P w=.ok (.value (.pointer (some ⟨w.heap.size,0,none⟩))) (w.alloc (.cells v.cells t))/\∀c:Cx,VR c i.zero v.cells.toList:=by
 obtain⟨v,h1,h2,h3⟩:=hT.KQ w;refine⟨v,?_,λc=>yL _ _ (h3 _ _)⟩;unfold execOp;rw[ho];simp only[Instr.alloc,Sem.run_bind,h1,Result.andThen_ok,newVar,newRow,run_newObj,Sem.run_pure,World.alloc_eq]
theorem Tr.spare{c:Cx}{H:Heap}(hr:HR c H)(o:Obj):Tr c H { c with w:=c.w.alloc o } H/\Free { c with w:=c.w.alloc o } H c.w.heap.size:=by constructor;{refine Tr.keep hr ⟨λb x h=>⟨h,wW (xB _ _ (hr.im b x h))⟩,aS _,λ_ _=>rfl,λ_ _ _ h=>.inl ⟨h,rfl⟩⟩ rfl rfl rfl rfl rfl rfl ak (λb hb=>xB _ _ hb) (λb x h=>.inl h)};refine⟨ak,λx hx hb=>?_,λo ho=>?_⟩;{have:=hr.LY (x:=x) hx (b:=c.w.heap.size) hb;omega};have:=hr.im _ _ ho;omega
theorem a9i (hL:uo P L) (hFn:FS P F) {Q:Exit->Act->World->Prop} (hd:zl X ops.toList rs) (hX:∀(i j:Nat) (ri rj:Rec),X i j->rs[i]? = some ri->rs[j]? = some rj->ri.ran=true->rj.ran=true->(sW ri.o.op=true->xE F L ri rj.H')/\(eff ri=true->xE F L rj ri.H)) (hrun:FV F L ops.toList rs e H0 ef Hf)
  (hops:ops.toList.all (GL n)=true) (hq:∀a' c',Tr c0 H0 c' Hf->BR n c' ef a'->Fr (rX ops.toList) a0 a'->Q .normal a' c'.w) :
  ∀(fuel:Nat) (listed:Array Bool) (m:Nat) (a:Act) (c:Cx) (pd:Nat->Nat),Jt ops.toList rs c0 H0 e a0 n listed m a c pd->Adv rs listed m->cnt listed<=fuel->wpAny P .any ops Q fuel listed a c.w:=by
 have fin:∀(listed:Array Bool) (m:Nat) (a:Act) (c:Cx) (pd:Nat->Nat),Jt ops.toList rs c0 H0 e a0 n listed m a c pd->Adv rs listed m->(∀j,j<ops.size->rC listed j)->Q .normal a c.w:=by
  intro listed m a c pd I Rk hall;have hlen:=hd.len;have hall':∀(j:Nat) (r:Rec),rs[j]? = some r->rC listed j:=λj r hj=>hall j (by
   have:=(aY.1 hj).1;rw[<- bM];omega)
  obtain⟨h1,h2⟩:=a0N hrun (uN.refl e);have hH:Hs rs H0 m=Hf:=by
   rw[h2];refine Vj hrun rs.length I.mle (aS _) λj r h3 _ hj=>BF hrun hj ?_;cases he:eff r with
   |false=>rfl
   |true =>obtain⟨x,rx,_,_,g3,_,g5⟩:=Rk j r h3 hj he (hall' j r hj);exact absurd (hall' x rx g3) g5
  refine hq a c (by rw[<- hH];exact I.tr) ⟨λt A hA=>?_,I.defers,I.a8m⟩ I.fr;obtain⟨B,h3,h4⟩:=h1 t A hA;refine h4 _ _ ?_;rcases a8g (aS _) h3 with⟨j,rj,h5,h6,h7,rfl,h8⟩|⟨h5,h6⟩;{exact I.new t j rj (hall' j rj h6) h6 h7 (λi' ri' _ hi' hd'=>h8 i' ri' ((aY.1 hi').1) hi' hd') λhe=>by apply aU;intro hmj;obtain⟨x,rx,_,_,g3,_,g5⟩:=Rk j rj aj h6 he (hall' j rj h6);exact absurd (hall' x rx g3) g5};exact I.old t B (λj rj _ hj hdj=>h5 j rj ((aY.1 hj).1) hj hdj) h6
 intro fuel;induction fuel with
 | zero =>
   intro listed m a c pd I Rk hc;have hsz:listed.size=ops.size:=by rw[I.size,bM]
   have hall:∀j,j<ops.size->rC listed j:=λj hj=>LM aj aj;refine⟨?_,fin listed m a c pd I Rk hall⟩;apply oC.2;intro i hi;obtain⟨o,h1,h2,_⟩:=(I4 hsz).1 hi;exact h2 (hall i (dG.1 h1).1)
 | succ fuel ih =>
   intro listed m a c pd I Rk hc;have hsz:listed.size=ops.size:=by rw[I.size,bM]
   refine⟨λhnil=>fin listed m a c pd I Rk (ready_nil hsz hd.back hnil),λi hi=>?_⟩;obtain⟨o,ho,hn,hbef⟩:=(I4 hsz).1 hi;have hlt:i<ops.size:=(dG.1 ho).1;have b7J:i<rs.length:=(by rw[hd.len];simpa using hlt);have hir:rs[i]? = some rs[i]:=aH b7J;generalize rs[i]=r at hir;have hro:r.o=o:=(by have:=hd.get i r hir;rw[bJ,ho]at this;exact(aW this).symm);subst hro;have hcnt:cnt (listed.setIfInBounds i true)<=fuel:=(by have:=a1t (by omega:i<listed.size) hn;omega);have hop:=bF.1 hops r.o (cZ (hd.get i r hir));simp only[GL,aN]at hop;obtain⟨hb,hdst⟩:=hop;have b6m:∀d,r.o.dst=some d->d<n:=λd hdd=>(by rw[hdd]at hdst;exact bI hdst);obtain⟨hH,href,hguard,Xa,hnot⟩:=xW hrun (uN.refl e) hir;have hwant:Region.wanted r.o (yielded ops a.tmps)=r.ran:=by
    cases hg:r.o.guard with
    |none=>rw[Tf hg];rw[hg]at hguard;exact hguard.symm
    |some g =>obtain⟨j,b⟩:=g;rw[hg]at hguard;obtain⟨oj,d,A,g1,g2,g3,g4⟩:=hguard;have hmem:d∈uJ ops.toList r.o:=(by unfold uJ;rw[hg];simp only[g1];simp[g2]);rcases g4 c _ (I.slot hd Rk hir hn hbef hmem g3)with⟨x,g5,g6⟩|⟨g5,g6⟩;{rw[Td hg (by rw[<- bJ];exact g1) g2 g5,g6]};rw[Pz hg (by rw[<- bJ];exact g1) g2 g5,g6]
   have cont:∀(v:Value) (c':Cx) (H':Heap) (m':Nat),Tr c (Hs rs H0 m) c' H'->H'=Hs rs H0 m' ->
     ((eff r=false/\m'=m/\∀t,r.o.dst=some t->EV c' r.A v)\/(eff r=true/\BD r.o.op=false/\m'=i+1/\∀t,r.o.dst=some t->EV c' r.A v) \/
    (eff r=true/\m'=m/\∃(b:Nat) (d:Nat),r.o.dst=some d/\BD r.o.op=true/\c.w.heap.size<=b/\Free c' H' b /\
     ∃o z f,c'.w.heap[b]? = some o/\SpB b o v z f/\r.H'=(nextId r.H,z)::r.H/\r.A=f (nextId r.H))) ->
     wpAny P .any ops Q fuel (listed.setIfInBounds i true) (a.put r.o.dst v) c'.w:=by
    intro v c' H' m' htr hH' hm;obtain⟨pd',I'⟩:=I.step hd Rk hir hn hbef b6m htr hH' hm;obtain⟨m'',c'',hw,I'',b73⟩:=Jt.settle hd hrun rs.length m' c' aj I';rw[<- hw];exact ih _ _ _ _ _ I'' b73 hcnt
   have a9w:BD r.o.op=false\/eff r=false->∀(v:Value) (c':Cx) (H':Heap),Tr c (Hs rs H0 m) c' H'->(∀t,r.o.dst=some t->EV c' r.A v)->H'=Hs rs H0 (if eff r then i+1 else m) ->
     wpAny P .any ops Q fuel (listed.setIfInBounds i true) (a.put r.o.dst v) c'.w:=by
    intro hnw v c' H' htr hv hH';cases hef:eff r with
    |false=>rw[hef]at hH';exact cont v c' H' m htr hH' (.inl ⟨hef,rfl,hv⟩)
    |true =>rw[hef]at hH' hnw;exact cont v c' H' (i+1) htr hH' (.inr (.inl ⟨hef,by simpa using hnw,rfl,hv⟩))
   unfold wpOp;rw[ho];simp only[hwant];cases Je:r.ran with
   | false =>
     simp only[dN,if_false];obtain⟨h1,h2⟩:=hnot Je;have hnw:BD r.o.op=false\/eff r=false:=by
      cases hef:eff r with
      |false=>exact .inr rfl
      | true =>
        cases hw:BD r.o.op with
        |false=>exact .inl rfl
        |true =>exfalso;have:=(hd.b60 i r hir (by simp[eff]at hef;exact hef.1) hw).1;rw[this]at hguard;rw[Je]at hguard;cases hguard
     refine a9w hnw undef c _ (.refl I.tr.hr) (λ_ _=>by rw[h1];exact PL) ?_;split;{rename_i he;rw[J9 hir,h2];exact I.heap hd hrun Rk hir hn hbef he (hnw.resolve_right (by rw[he];simp))};rfl
   | true =>
     simp only[if_true];refine .inl ?_;by_cases hnew:eff r=true/\BD r.o.op=true
     ·obtain⟨hef,hnw⟩:=hnew;have hnb:r.nb=false:=(by simp[eff]at hef;exact hef.1);obtain⟨d,hdd⟩:=(hd.b60 i r hir hnb hnw).2;cases ho':r.o.op with
      |alloc t =>obtain⟨ti,hT,g1,g2⟩:=a7D hL ho' hnb (Xa Je);obtain⟨v,g3,g4⟩:=a5m (ρ:=a.eval) (w:=c.w) hT ho';unfold Oper.wp;rw[g3,Oper.upon_value];obtain⟨s1,s2⟩:=Tr.spare I.tr.hr (.cells v.cells t);refine cont _ { c with w:=c.w.alloc (.cells v.cells t) } _ m s1 rfl (.inr (.inr ⟨hef,rfl,_,d,hdd,hnw,aS _,s2,.cells v.cells.toList.toArray t,.box ti.zero,λj=>.ptr j [] 0,?_,.box g4,g1,g2⟩));show(c.w.alloc _).heap[_]? = _;rw[alloc_heap_new,jf]
      | makeMap t z =>
        cases z with
        |some _=>simp[ho',BD]at hnw
        |none =>obtain⟨sh,g1,g2⟩:=b1X hL ho' hnb (Xa Je);unfold Oper.wp;rw[run_map ho',Oper.upon_value];obtain⟨s1,s2⟩:=Tr.spare I.tr.hr (.map #[] 0);refine cont _ { c with w:=c.w.alloc (.map #[] 0) } _ m s1 rfl (.inr (.inr ⟨hef,rfl,_,d,hdd,hnw,aS _,s2,.map #[] 0,.tN sh [],.mp,?_,.map,g1,g2⟩));show(c.w.alloc _).heap[_]? = _;rw[alloc_heap_new]
      |_=>simp[ho',BD]at hnw
     have hnw:BD r.o.op=false\/eff r=false:=by
      cases hef:eff r with
      |false=>exact .inr rfl
      | true =>
        cases hw:BD r.o.op with
        |false=>exact .inl rfl
        |true=>exact absurd ⟨hef,hw⟩ hnew
     have henv:xR c (sub r.e (tJ r.o.op)) a:=(by intro t A hA;obtain⟨h1,h2⟩:=JD hA;obtain⟨B,h3,h4⟩:=href t A h1;refine h4 _ _ (I.slot hd Rk hir hn hbef ?_ h3);simp only[uJ,dM];exact .inl (.inr (GR h2)));have hcongr:=a7x (F:=F) (vS:=Ok) (L:=L) (a8p (e:=r.e) (l:=tJ r.o.op));have hHs:eff r=true->Hs rs H0 m=r.H:=λhe=>I.heap hd hrun Rk hir hn hbef he (hnw.resolve_right (by rw[he];simp));have hH':∀H',(eff r=false->H'=Hs rs H0 m)->(eff r=true->H'=r.H')->H'=Hs rs H0 (if eff r then i+1 else m):=by
      intro H' g1 g2;cases hef:eff r with
      |false=>simpa using g1 hef
      |true =>rw[aG rfl,J9 hir];exact g2 hef
     have key:∃(k:AV->Heap->Prop) (ks:Heap->Prop),xH F Ok L r.o.op r.e (Hs rs H0 m) k ks/\(∀A H',k A H'->A=r.A/\(eff r=false->H'=Hs rs H0 m)/\(eff r=true->H'=r.H')) /\
       (∀H',ks H'->r.o.dst=none/\(eff r=false->H'=Hs rs H0 m)/\(eff r=true->H'=r.H')):=by
      rcases Xa Je with⟨h1,h2,h3⟩|⟨h1,h3⟩|⟨h1,h2,h3⟩;{have h4:=a7y (hd.b7y i r hir h1) (h3 (λA=>A=r.A) rfl) (Hs rs H0 m);have hef:eff r=false:=(by simp[eff,h1]);exact⟨_,_,h4,λA H' ⟨g1,g2⟩=>⟨g1,λ_=>g2,λh=>by rw[hef]at h;cases h⟩,λ_ h=>h.elim⟩}
      ·cases hef:eff r with
       |true =>rw[hHs hef];exact⟨λA H'=>A=r.A/\H'=r.H',λ_=>False,NG (h3 _ _ ⟨rfl,rfl⟩),λA H' ⟨g1,g2⟩=>⟨g1,(λh=>by cases h),λ_=>g2⟩,λ_ h=>h.elim⟩
       |false =>have hl:sW r.o.op=true:=(by simpa[eff,h1]using hef);have hsame:=BF hrun hir hef;have h4:xE F L r r.H:=NG (h3 (λA H'=>A=r.A/\H'=r.H) (λ_=>False) ⟨rfl,hsame⟩);have h5:=I.b6l hd hX hrun Rk hir hn hbef h1 hl Je h4;exact⟨λA H'=>A=r.A/\H'=Hs rs H0 m,λ_=>False,h5,λA H' ⟨g1,g2⟩=>⟨g1,λ_=>g2,λh=>by cases h⟩,λ_ h=>h.elim⟩
      have hef:eff r=true:=by
       cases hef:eff r with
       |true=>rfl
       | false =>
         exfalso;have hl:sW r.o.op=true:=by simpa[eff,h1]using hef
         cases ho:r.o.op with
         |load t x =>rw[ho]at h3;have h4:=h3 (λ_ _=>False) (λH'=>H'=r.H') rfl;simp only[xH]at h4;obtain⟨A,h5,_⟩:=sF _ _ _ h4;obtain⟨R,h7,_⟩:=Ak _ _ _ _ _ h5;exact h7
         |_=>simp[ho,sW]at hl
      rw[hHs hef];exact⟨λ_ _=>False,λH'=>H'=r.H',NG (h3 _ _ rfl),λ_ _ h=>h.elim,λH' g=>⟨h2,(λh=>by rw[hef]at h;cases h),λ_=>g⟩⟩
     obtain⟨k,ks,key,hk,hks⟩:=key;rw[<- hcongr]at key;have hres:=GN hL hFn I.tr.hr henv hb key;unfold Oper.wp;rcases hres with⟨v,d,A,H',g1,g2,g3,g4⟩|⟨d,H',g1,g2,g3⟩|⟨f,args,g1,g2⟩;{obtain⟨rfl,g4,g5⟩:=hk _ _ g4;rw[g1,Oper.upon_value];exact a9w hnw v d H' g2 (λ_ _=>g3) (hH' H' g4 g5)};{obtain⟨g3,g4,g5⟩:=hks _ g3;rw[g1,Oper.upon_skip];exact a9w hnw undef d H' g2 (λt ht=>by rw[g3]at ht;cases ht) (hH' H' g4 g5)};rw[g1,Oper.upon_enter];refine Calls.mono g2 ?_;rintro _ w' ⟨v,d,R,H',rfl,rfl,g6,g7,g4⟩;obtain⟨rfl,g4,g5⟩:=hk _ _ g4;exact a9w hnw v d H' g6 (λ_ _=>g7) (hH' H' g4 g5)
end
end Go.AL
namespace Go.AL
section
variable{P:Program}{F:FT}{L:Lay}
theorem any_beq{ls:List Nat}{i:Nat}:ls.any (Nat.beq i)=true↔i∈ls:=by rw[iD];constructor;{rintro⟨x,hx,h⟩;rw[aK h];exact hx};intro h;exact⟨i,h,Nat.beq_refl i⟩
theorem X8{f:Nat->Prop}:∀{l:List Nat},a7J l f->∀i∈l,f i
 | [],_,i,h=>by simp at h
 |x::l,h,i,hi=>by rcases aT.1 hi with rfl|hi;{exact h.1};exact X8 h.2 i hi
theorem b3z{listed:Array Bool}(h:∀j,j<listed.size->rC listed j):cnt listed=0:=by
 unfold cnt;rw[List.countP_eq_zero];intro b hb;obtain⟨j,hj,rfl⟩:=dX hb;have:=h j (by simpa using hj);unfold rC at this;rw[dI]at this;have hj':j<listed.size:=by simpa using hj
 simp[hj']at this;simp[this]
theorem Oj:∀{l:List Bool} {i:Nat},l[i]? = some false->(l.set i true).countP (λb=>!b)+1=l.countP (λb=>!b)
 | [],_,h=>by simp at h
 |x::l,0,h=>by simp at h;subst h;simp
 |x::l,i+1,h=>by have:=Oj (l:=l) (i:=i) (by simpa using h);simp only[jT,iG];omega
theorem a4g{listed:Array Bool}{i:Nat}(hi:i<listed.size)(h:¬rC listed i):cnt (listed.setIfInBounds i true)+1=cnt listed:=by unfold cnt;rw[Array.toList_setIfInBounds];refine Oj ?_;unfold rC at h;rw[dI]at h;rw[bJ,fC hi];rw[fC hi]at h;simpa using h
theorem a1O(hL:uo P L)(hFn:FS P F){n:Nat}{ops:Array Oper}{Q:Exit->Act->World->Prop}{k:Env->Heap->Prop}{c0:Cx}{H0:Heap}{a0:Act}
  (hops:ops.toList.all (GL n)=true) (hb:b3t ops.toList=true) (hq:∀e' H' c' a',k e' H'->Tr c0 H0 c' H'->BR n c' e' a'->Fr (rX ops.toList) a0 a'->Q .normal a' c'.w) :
  ∀ (fuel:Nat) (ls:List Nat) (listed:Array Bool) (e:Env) (H:Heap) (c:Cx) (a:Act),listed.size=ops.size->(∀j,rC listed j↔j∈ls)->cnt listed=fuel ->
    Tr c0 H0 c H->BR n c e a->Fr (rX ops.toList) a0 a->Ya F L ops.toList fuel ls e H k->wpAny P .any ops Q fuel listed a c.w:=by
 have hback:∀(j:Nat) (o:Oper),ops.toList[j]? = some o->∀e∈o.after.toList,Region.binds .any e=true->e.on<j:=(by intro j o ho e he hbd;have:=tY hb ho;have:=bF.1 this e he;rw[hbd]at this;simpa using this);intro fuel;induction fuel with
 |zero =>intro ls listed e H c a hsz hls hc htr ha hfr h;refine⟨?_,hq e H c a h htr ha hfr⟩;apply oC.2;intro i hi;obtain⟨o,h1,h2,_⟩:=(I4 hsz).1 hi;exact h2 (LM hc (by have:=(dG.1 h1).1;omega))
 | succ fuel ih =>
   intro ls listed e H c a hsz hls hc htr ha hfr h;refine⟨λhnil=>?_,λi hi=>?_⟩;{have:=b3z (listed:=listed) λj hj=>ready_nil hsz hback hnil j aj;omega};obtain⟨o,ho,hn,hbef⟩:=(I4 hsz).1 hi;have hlt:i<ops.size:=(dG.1 ho).1;have hol:ops.toList[i]? = some o:=(by rw[bJ];exact ho);have hmem:i∈(List.range ops.toList.length).filter (b5Y ops.toList ls):=by
    rw[fF,iF];refine⟨by simpa using hlt,?_⟩;unfold b5Y;rw[hol];simp only[aN,eF,bF,gG];refine⟨?_,λed hed=>?_⟩
    ·cases hx:ls.any (Nat.beq i)with
     |false=>rfl
     |true=>exact absurd ((hls i).2 (any_beq.1 hx)) hn
    cases hbd:Region.binds .any ed with
    |false=>exact .inl rfl
    |true=>exact .inr (any_beq.2 ((hls _).1 (hbef ed hed hbd)))
   have h:=X8 h i hmem;simp only[hol]at h;have hop:=bF.1 hops o (cZ hol);simp only[GL,aN]at hop;obtain⟨hb',hdst⟩:=hop;have b6m:∀d,o.dst=some d->d<n:=λd hd=>(by rw[hd]at hdst;exact bI hdst);have hsz':i<listed.size:=aj;have hcnt:cnt (listed.setIfInBounds i true)=fuel:=(by have h1:=a1t hsz' hn;have h2:=a4g hsz' hn;omega);have b7b:∀j,rC (listed.setIfInBounds i true) j↔j∈i::ls:=by intro j;rw[WQ hsz',hls j,aT]
   have cont:∀(v:Value) (A:AV) (c':Cx) (H':Heap) (e1:Env),Tr c H c' H'->BR n c' e1 a->EV c' A v->Cm o.dst A e1 (λe'=>Ya F L ops.toList fuel (i::ls) e' H' k) ->
     wpAny P .any ops Q fuel (listed.setIfInBounds i true) (a.put o.dst v) c'.w:=by
    intro v A c' H' e1 xG ha' hv hk;have hw:∀d,o.dst=some d->d∈rX ops.toList:=λd hd=>EC (cZ hol) hd;cases hd:o.dst with
    |none =>rw[hd]at hk;exact ih (i::ls) _ e1 H' c' a (by simpa using hsz) b7b hcnt (htr.trans xG) ha' hfr hk
    |some d =>rw[hd]at hk;refine ih (i::ls) _ _ H' c' _ (by simpa using hsz) b7b hcnt (htr.trans xG) (ha'.put (b6m d hd) hv) ?_ hk;intro t ht;simp only[Act.put];rw[getD_set_ne (λh=>ht (by rw[<- h];exact hw d hd))];exact hfr t ht
   obtain⟨e1,ha1,hcase⟩:=Qh ha h;unfold wpOp;rw[ho];simp only[];rcases hcase with⟨hw,h1⟩|⟨hw,h1⟩
   ·rw[aG hw];refine .inl ?_;have hop:=GN hL hFn htr.hr ha1.env hb' (NG h1);unfold Oper.wp;rcases hop with⟨v,d,A,H',g1,g2,g3,g4⟩|⟨d,H',g1,g2,g3⟩|⟨f,args,g1,g2⟩;{rw[g1,Oper.upon_value];exact cont v A d H' e1 g2 (ha1.mono g2.le) g3 g4}
    ·rw[g1,Oper.upon_skip];cases hd:o.dst with
     |none=>rw[hd]at g3;exact hd ▸ cont undef .und d H' e1 g2 (ha1.mono g2.le) trivial (by rw[hd];exact g3)
     |some d'=>rw[hd]at g3;exact g3.elim
    rw[g1,Oper.upon_enter];refine Calls.mono g2 ?_;rintro _ w' ⟨v,d,R,H',rfl,rfl,g4,g5,g3⟩;exact cont v R d H' e1 g4 (ha1.mono g4.le) g5 g3
   rw[hw];simp only[dN,if_false];exact cont undef (.uf []) c H e1 (.refl htr.hr) ha1 PL h1
end
end Go.AL
namespace Go.AL
mutual
theorem EP{j:Nat}{B:AV}:∀{A:AV} {k:AV->Prop},Xd j B A k↔k (FC j B A)
 | .ptr i p off,k=>by simp only[Xd,FC];split <;> exact jr
 | .fn f cap,k=>by simp only[Xd,FC];exact Nq
 | .ag l,k=>by simp only[Xd,FC];exact Nq
 | .uf l,k=>by simp only[Xd,FC];exact Nq
 | .uV t x,k=>by simp only[Xd,FC];exact EP
 | .bool _,_ | .tt,_ | .ff,_ | .dec _,_ | .int _ _,_ | .str _,_ | .vJ,_ | .qW,_ | .sl _ _ _,_ | .ms _ _ _ _ _,_ | .cp _,_ | .vW,_ | .ru,_ | .mp _,_ | .gs _ _,_ | .bm _ _,_ | .zq,_ | .und,_=>by simp only[Xd,FC]
theorem Nq{j:Nat}{B:AV}:∀{l:List AV} {k:List AV->Prop},Z4 j B l k↔k (Ob j B l)
 | [],_=>jr
 |x::l,k=>by simp only[Z4,Ob];exact EP.trans Nq
end
theorem a8Y{j:Nat}{B:AV}(A:AV):uz (FC j B A)=uz A:=by
 cases A <;> first
  |rfl
  |(simp only[FC];split <;> rfl)
theorem Oz{j:Nat}{B A:AV}{v:Value}(h:wE A v):wE (FC j B A) v:=by unfold wE at *;rw[a8Y];exact h
mutual
theorem Ye{d:Cx}{j:Nat}{B:AV}(hP:∀cs,VR d (.ptr j [] 0) cs->VR d (.cp B) cs):∀(A:AV) (cs:List Value),VR d A cs->VR d (FC j B A) cs
 | .ptr i p off,cs,h=>by simp only[FC];split;{rename_i hb;rw[aK hb]at h;exact hP cs h};exact h
 | .fn f cap,cs,h=>by simp only[FC,VR]at h ⊢;obtain⟨vs,h1,h2⟩:=h;exact⟨vs,h1,a7U hP cap vs h2⟩
 | .ag l,cs,h=>by simp only[FC,VR]at h ⊢;exact a7P hP l cs h
 | .uf l,cs,h=>by simp only[VR,Rd]at h
 | .uV t x,cs,h=>by simp only[FC,VR]at h ⊢;obtain⟨v,h1,h2,h3⟩:=h;exact⟨v,h1,Oz h2,Ye hP x _ h3⟩
 | .bool _,_,h | .tt,_,h | .ff,_,h | .dec _,_,h | .int _ _,_,h | .str _,_,h | .vJ,_,h | .qW,_,h | .sl _ _ _,_,h | .ms _ _ _ _ _,_,h | .cp _,_,h | .vW,_,h | .ru,_,h | .mp _,_,h | .gs _ _,_,h | .bm _ _,_,h | .zq,_,h | .und,_,h=>by simp only[FC];exact h
theorem a7P{d:Cx}{j:Nat}{B:AV}(hP:∀cs,VR d (.ptr j [] 0) cs->VR d (.cp B) cs):∀(l:List AV) (cs:List Value),Ea d l cs->Ea d (Ob j B l) cs
 | [],_,h=>h
 |x::l,cs,h=>by simp only[Ea,Ob]at h ⊢;obtain⟨a,b,h1,h2,h3⟩:=h;exact⟨a,b,h1,Ye hP x _ h2,a7P hP l _ h3⟩
theorem a7U{d:Cx}{j:Nat}{B:AV}(hP:∀cs,VR d (.ptr j [] 0) cs->VR d (.cp B) cs):∀(l:List AV) (vs:List Value),VA d l vs->VA d (Ob j B l) vs
 | [],_,h=>h
 |x::l,vs,h=>by simp only[VA,Ob]at h ⊢;obtain⟨v,r,h1,h2,h3,h4⟩:=h;exact⟨v,r,h1,Oz h2,Ye hP x _ h3,a7U hP l _ h4⟩
end
theorem b5C{d:Cx}{j:Nat}{B:AV}(hP:∀cs,VR d (.ptr j [] 0) cs->VR d (.cp B) cs){A:AV}{v:Value}(h:EV d A v):EV d (FC j B A) v:=by
 have key:VV d A v->VV d (FC j B A) v:=λh=>⟨Oz h.1,Ye hP _ _ h.2⟩;cases A with
 |und=>trivial
 |uf l =>obtain⟨vs,h1,h2⟩:=h;exact⟨vs,h1,a7U hP l _ h2⟩
 |ptr i p off=>exact rZ (key h)
 |_=>exact key h
theorem a2F{j:Nat}{B:AV}:∀{e:Env} {k:Env->Prop},a9d j B e k->∃e',k e'/\∀t A',uY e' t=some A'->∃A,uY e t=some A/\(A'=A\/A'=FC j B A)
 | [],k,h=>⟨[],h,λt A h=>by simp[uY]at h⟩
 | (i,A)::e,k,h=>by
   simp only[a9d]at h;have key:∀A1,(A1=A\/A1=FC j B A)->(a9d j B e λm=>k ((i,A1)::m))->∃e',k e'/\∀t A',uY e' t=some A'->∃A0,uY ((i,A)::e) t=some A0/\(A'=A0\/A'=FC j B A0):=by
    intro A1 hA1 h;obtain⟨e',h1,h2⟩:=a2F h;refine⟨_,h1,λt A' h=>?_⟩;simp only[uY]at h ⊢;cases hb:Nat.beq i t with
    |true =>rw[hb]at h;obtain rfl:=aW h;exact⟨A,rfl,hA1⟩
    |false=>rw[hb]at h;exact h2 t A' h
   cases hp:b0L j A with
   |false=>rw[hp]at h;exact key A (.inl rfl) h
   |true=>rw[hp]at h;exact key _ (.inr rfl) (EP.1 h)
inductive Ko(j:Nat)(B:AV):Heap->Heap->Prop where
 |nil:Ko j B [] []
 |gone (i:Nat) (o:HO) (hb:Nat.beq i j=true) {H G:Heap} (h:Ko j B H G):Ko j B ((i,o)::H) ((i,.gone)::G)
 |keep (i:Nat) (o:HO) (hb:Nat.beq i j=false) {H G:Heap} (h:Ko j B H G):Ko j B ((i,o)::H) ((i,o)::G)
 |box (i:Nat) (A:AV) (hb:Nat.beq i j=false) {H G:Heap} (h:Ko j B H G):Ko j B ((i,.box A)::H) ((i,.box (FC j B A))::G)
theorem Ls{j:Nat}{B:AV}:∀{H:Heap} {k:Heap->Prop},YK j B H k->∃G,k G/\Ko j B H G
 | [],k,h=>⟨[],h,.nil⟩
 | (i,o)::H,k,h=>by
   simp only[YK]at h;cases hb:Nat.beq i j with
   |true =>rw[hb]at h;obtain⟨G,h1,h2⟩:=Ls h;exact⟨_,h1,.gone i o hb h2⟩
   | false =>
     rw[hb]at h;dsimp only at h;split at h
     ·rename_i A;cases hp:b0L j A with
      |false =>rw[hp]at h;obtain⟨G,h1,h2⟩:=Ls h;exact⟨_,h1,.keep i _ hb h2⟩
      |true =>rw[hp]at h;obtain⟨G,h1,h2⟩:=Ls (EP.1 h);exact⟨_,h1,.box i A hb h2⟩
     obtain⟨G,h1,h2⟩:=Ls h;exact⟨_,h1,.keep i _ hb h2⟩
theorem Ko.mem{j:Nat}{B:AV}{H G:Heap}(h:Ko j B H G):∀y∈G,(y.1=j/\y.2=.gone)\/∃o,(y.1,o)∈H/\y.1≠j/\(y.2=o\/∃A,o=.box A/\y.2=.box (FC j B A)):=by
 induction h with
 |nil=>simp
 |gone i o hb h ih =>intro y hy;rcases aT.1 hy with rfl|hy;{exact .inl ⟨aK hb,rfl⟩};exact(ih y hy).imp id fun⟨o',h1,h2⟩=>⟨o',dh _ h1,h2⟩
 |keep i o hb h ih =>intro y hy;rcases aT.1 hy with rfl|hy;{exact .inr ⟨o,dD,xw hb,.inl rfl⟩};exact(ih y hy).imp id fun⟨o',h1,h2⟩=>⟨o',dh _ h1,h2⟩
 |box i A hb h ih =>intro y hy;rcases aT.1 hy with rfl|hy;{exact .inr ⟨_,dD,xw hb,.inr ⟨A,rfl,rfl⟩⟩};exact(ih y hy).imp id fun⟨o',h1,h2⟩=>⟨o',dh _ h1,h2⟩
theorem Ko.next{j:Nat}{B:AV}{H G:Heap}(h:Ko j B H G):nextId G=nextId H:=by cases h <;> rfl
theorem Ko.ids{j:Nat}{B:AV}{H G:Heap}(h:Ko j B H G):uQ H->uQ G:=by
 have lt:∀{H G:Heap},Ko j B H G->∀n,(∀x∈H,x.1<n)->∀y∈G,y.1<n:=by
  intro H G h;induction h with
  |nil=>simp
  |gone i o hb h ih=>intro n hn y hy;rcases aT.1 hy with rfl|hy;exact hn (i,o) dD;exact ih n (λx hx=>hn x (dh _ hx)) y hy
  |keep i o hb h ih=>intro n hn y hy;rcases aT.1 hy with rfl|hy;exact hn (i,o) dD;exact ih n (λx hx=>hn x (dh _ hx)) y hy
  |box i A hb h ih=>intro n hn y hy;rcases aT.1 hy with rfl|hy;exact hn (i,.box A) dD;exact ih n (λx hx=>hn x (dh _ hx)) y hy
 induction h with
 |nil=>exact id
 |gone i o hb h ih=>intro hi;simp only[uQ]at hi ⊢;exact⟨lt h i hi.1,ih hi.2⟩
 |keep i o hb h ih=>intro hi;simp only[uQ]at hi ⊢;exact⟨lt h i hi.1,ih hi.2⟩
 |box i A hb h ih=>intro hi;simp only[uQ]at hi ⊢;exact⟨lt h i hi.1,ih hi.2⟩
theorem Ko.tp{j:Nat}{B:AV}{H G:Heap}(h:Ko j B H G){A0:AV}(hj:hget H j=some (.box A0)):ug G=ug H:=by
 have key:∀{H G:Heap},Ko j B H G->∀k,k≠j->ug G k=ug H k:=by
  intro H G h;induction h with
  |nil=>intro k _;rfl
  | gone i o hb h ih =>
    intro k hk;have hik:Nat.beq i k=false:=by
     cases h':Nat.beq i k with
     |false=>rfl
     |true=>exact absurd ((aK h').symm.trans (aK hb)) hk
    have:=ih k hk;simp only[ug,hget,hik]at this ⊢;exact this
  | keep i o hb h ih =>
    intro k hk;have:=ih k hk;simp only[ug,hget]at this ⊢;cases Nat.beq i k with
    |true=>rfl
    |false=>exact this
  | box i A hb h ih =>
    intro k hk;have:=ih k hk;simp only[ug,hget]at this ⊢;cases Nat.beq i k with
    |true=>rfl
    |false=>exact this
 have kj:∀{H G:Heap},Ko j B H G->hget G j=none\/hget G j=some .gone:=by
  intro H G h;induction h with
  |nil=>exact .inl rfl
  |gone i o hb h ih=>simp only[hget,hb];exact .inr trivial
  |keep i o hb h ih=>simp only[hget,hb];exact ih
  |box i A hb h ih=>simp only[hget,hb];exact ih
 funext k;by_cases hk:k=j
 ·subst hk;have h1:ug H k=none:=by simp only[ug,hj]
  rw[h1];rcases kj h with h2|h2 <;> simp only[ug,h2]
 exact key h k hk
theorem TM:∀{H:Heap} {k i:Nat} {o o':HO},(i,o)∈H->i≠k->(i,o)∈hset H k o'
 | (x,y)::H,k,i,o,o',h,hn=>by
   simp only[hset];cases hb:Nat.beq x k with
   |true =>rcases aT.1 h with h|h;{exact absurd (by rw[<- aK hb];exact lQ Prod.fst h) hn};exact dh _ h
   |false =>rcases aT.1 h with h|h;{rw[h];exact dD};exact dh _ (TM h hn)
theorem OV{n:Nat}:∀{js:List Nat} {e:Env} {H:Heap} {c:Cx} {a:Act} {k:Env->Heap->Prop},HR c H->BR n c e a->YJ js e H k->∃e1 H1 d,d.w=c.w/\Tr c H d H1/\BR n d e1 a/\k e1 H1
 | [],e,H,c,a,k,hr,ha,h=>⟨e,H,c,rfl,.refl hr,ha,h⟩
 | j::js,e,H,c,a,k,hr,ha,h=>by
   simp only[YJ]at h;obtain⟨o,ho,h⟩:=uh.1 h;split at h;case h_2=>exact h.elim
   rename_i A;obtain⟨⟨hpu,hst⟩,h⟩:=h;obtain⟨e1,h,he1⟩:=a2F h;obtain⟨G,h,hG⟩:=Ls h;obtain⟨cs,ty,g1,g2,g3⟩:=hr.EL ho;let d:Cx:={ c with Im:=λb o=>c.Im b o\/b=c.ρ j };have le:c.Le d:=⟨λb o h=>⟨.inl h,rfl⟩,aS _,λ_ _=>rfl,λ_ _ _ h=>.inl ⟨h,rfl⟩⟩;have hRd:Rd d.w d.Im A cs:=by have:=Ho A cs hpu g2;rw[hst]at this;exact wo le.im _ _ this
   have hP:∀cs',VR d (.ptr j [] 0) cs'->VR d (.cp A) cs':=(by intro cs' h;simp only[VR]at h;obtain⟨_,rfl⟩:=h;simp only[VR,Rd];refine⟨_,cs,rfl,rfl,λi v hi=>⟨?_,.inr rfl⟩,hRd⟩;show c.w.cell? _=_;rw[cell_of_heap g1];simpa using hi);have htr:Tr c H d (hset H j .gone):=(by refine Tr.set hr ho le rfl (by rw[xq ho (by intros;simp) (by intros;simp)];exact hr.tp) (λ_ _=>rfl) rfl rfl rfl (aS _) (λ_ _ _=>rfl) ?_ ?_ trivial;{rintro b x (h|h);{exact .inl h};exact .inr (.inr (by simp[qZ,h]))};intro b h;simp[qZ]at h);have YI:=hG.ids hr.ids;have hmem:∀y∈G,(y.1=j/\y.2=.gone)\/∃o,(y.1,o)∈hset H j .gone/\qZ d y=qZ d (y.1,o)/\(o.Ok d y.1->y.2.Ok d y.1):=(by intro y hy;rcases hG.mem y hy with h|⟨o,h1,h2,h3⟩;{exact .inl h};refine .inr ⟨o,?_,?_,?_⟩;{exact TM h1 h2};{obtain⟨i,y2⟩:=y;rcases h3 with rfl|⟨A',rfl,h3⟩;{rfl};dsimp only at h3;subst h3;rfl};intro hok;obtain⟨i,y2⟩:=y;rcases h3 with rfl|⟨A',rfl,h3⟩;{exact hok};dsimp only at h3;subst h3;obtain⟨cs',ty',k1,k2,k3⟩:=hok;exact⟨cs',ty',k1,Ye hP _ _ k2,k3⟩);have hr2:HR d G:=(by refine⟨?_,?_,YI,htr.hr.im,?_,?_⟩;{rw[hG.next];exact hr.nx};{rw[hG.tp ho];exact hr.tp};{intro y hy;rcases hmem y hy with⟨_,h⟩|⟨o,h1,_,h3⟩;{rw[h];trivial};exact h3 (htr.hr.ok _ h1)};refine wH YI λx hx y hy hn b hb hb'=>?_;rcases hmem x hx with⟨_,h⟩|⟨o,h1,h2,_⟩;{simp[qZ,h]at hb};rcases hmem y hy with⟨_,h⟩|⟨o',h1',h2',_⟩;{simp[qZ,h]at hb'};rw[h2]at hb;rw[h2']at hb';exact htr.hr.apart' h1 h1' hn hb hb');have Ux:Tr c H d G:=(by refine⟨hr2,le,rfl,rfl,rfl,aS _,λ_ _ _=>rfl,?_,htr.imb⟩;intro y hy b hb;rcases hmem y hy with⟨_,h⟩|⟨o,h1,h2,_⟩;{simp[qZ,h]at hb};rw[h2]at hb;exact htr.own _ h1 b hb);have ha1:BR n d e1 a:=(by have ha':=ha.mono le;refine⟨λt A' hA'=>?_,ha.defers,ha.size⟩;obtain⟨A0,h1,h2⟩:=he1 t A' hA';rcases h2 with rfl|rfl;{exact ha'.env t _ h1};exact b5C hP (ha'.env t _ h1));obtain⟨e2,H2,d2,k1,k2,k3,k4⟩:=OV hr2 ha1 h;exact⟨e2,H2,d2,k1,Ux.trans k2,k3,k4⟩
theorem LP{L:Lay}{H:Heap}:∀{pl:List (Nat×AV×AV)} {k:Prop},b0P L H pl k↔(∀p∈pl,Ap L p.1 p.2.1 H λR=>R=p.2.2)/\k
 | [],k=>by simp[b0P]
 |(t,A,R)::pl,k=>by simp only[b0P,LP,aT,forall_eq_or_imp,and_assoc]
theorem Fh {F:FT} {L:Lay} {ops:List Oper} {fl:List Nat} {k:Env->Heap->Prop}:∀{l:List (Oper×Bool)} {i:Nat} {pl:List (Nat×AV×AV)} {e:Env} {H:Heap},Io F L ops fl i l pl e H k ->
  ∃ rs ef Hf,rs.map (λr=>(r.o,r.nb))=l/\FV F L ops rs e H ef Hf/\k ef Hf /\
    (∀p∈pl,∀rj∈rs,rj.nb=false->rj.ran=true->JV fl rj.o.op=true->Ap L p.1 p.2.1 rj.H' λR=>R=p.2.2) /\
    ∀(a b:Nat) (ra rb:Rec),a<b->rs[a]? = some ra->rs[b]? = some rb->IB fl (i+a)=true->sW ra.o.op=true->ra.nb=false->ra.ran=true->rb.nb=false->rb.ran=true->JV fl rb.o.op=true->xE F L ra rb.H'
 | [],i,pl,e,H,h=>⟨[],e,H,rfl,⟨rfl,rfl⟩,h,ak,λa b ra rb _ h=>by simp at h⟩
 | (o,nb)::l,i,pl,e,H,h=>by
   simp only[Io]at h;obtain⟨e',b,h1,h2,h3,h4⟩:=OT h
   -- what is known of the rest does for the whole,if the first is no such load
   have step:∀{r:Rec} {rs:List Rec} {Ut:List (Nat×AV×AV)},(∀p∈pl,p∈Ut)->(∀p∈pl,r.nb=false->r.ran=true->JV fl r.o.op=true->Ap L p.1 p.2.1 r.H' λR=>R=p.2.2) ->
     (∀p∈Ut,∀rj∈rs,rj.nb=false->rj.ran=true->JV fl rj.o.op=true->Ap L p.1 p.2.1 rj.H' λR=>R=p.2.2) ->
     (IB fl i=true->sW r.o.op=true->r.nb=false->r.ran=true->∃t x B,r.o.op=.load t x/\(t,B,r.A)∈Ut/\∀K:AV->Prop,K B->uj r.e x K) ->
     (∀(a b:Nat) (ra rb:Rec),a<b->rs[a]? = some ra->rs[b]? = some rb->IB fl (i+1+a)=true->sW ra.o.op=true->ra.nb=false->ra.ran=true->rb.nb=false->rb.ran=true->JV fl rb.o.op=true->xE F L ra rb.H') ->
     (∀p∈pl,∀rj∈r::rs,rj.nb=false->rj.ran=true->JV fl rj.o.op=true->Ap L p.1 p.2.1 rj.H' λR=>R=p.2.2) /\
     ∀(a b:Nat) (ra rb:Rec),a<b->(r::rs)[a]? = some ra->(r::rs)[b]? = some rb->IB fl (i+a)=true->sW ra.o.op=true->ra.nb=false->ra.ran=true->rb.nb=false->rb.ran=true->JV fl rb.o.op=true->xE F L ra rb.H':=by
    intro r rs Ut s1 s2 s3 s4 s5;refine⟨λp hp rj hj=>?_,λa b ra rb hab ha hb g1 g2 g3 g4 g5 g6 g7=>?_⟩;{rcases aT.1 hj with rfl|hj;{exact s2 p hp};exact s3 p (s1 p hp) rj hj};obtain⟨b,rfl⟩:∃c,b=c+1:=⟨b-1,aj⟩;simp only[dV]at hb;cases a with
    |zero =>simp at ha;subst ha;obtain⟨t,x,B,k1,k2,k3⟩:=s4 g1 g2 g3 g4;have:=s3 _ k2 rb (cZ hb) g5 g6 g7;unfold xE;rw[k1];simp only[xH];refine k3 _ ?_;obtain⟨R,k4,k5⟩:=Ak _ _ _ _ _ this;exact k5 _ ⟨k4,trivial⟩
    |succ a =>simp only[dV]at ha;exact s5 a b ra rb aj ha hb (by rw[show i+1+a=i+(a+1) by omega];exact g1) g2 g3 g4 g5 g6 g7
   cases b with
   |false =>obtain⟨rs,ef,Hf,g1,g2,g3,g4,g5⟩:=Fh (Dy.1 (h4 rfl));exact⟨⟨o,nb,false,e',.uf [],H,H⟩::rs,ef,Hf,by simp[g1],⟨rfl,h1,h2,(λh=>by cases h),λ_=>⟨rfl,rfl⟩,g2⟩,g3,step (λ_ h=>h) (λ_ _ _ h=>by cases h) g4 (λ_ _ _ h=>by cases h) g5⟩
   | true =>
     have h3:=h3 rfl;cases nb with
     |true =>obtain⟨A,h5,h6⟩:=a1q _ h3;obtain⟨rs,ef,Hf,g1,g2,g3,g4,g5⟩:=Fh (Dy.1 h5);exact⟨⟨o,true,true,e',A,H,H⟩::rs,ef,Hf,by simp[g1],⟨rfl,h1,h2,(λ_=>.inl ⟨rfl,rfl,h6⟩),(λh=>by cases h),g2⟩,g3,step (λ_ h=>h) (λ_ _ h=>by cases h) g4 (λ_ _ h=>by cases h) g5⟩
     | false =>
       obtain⟨hn,h3⟩:=Gn.1 h3;rcases a2N hn _ _ h3 with⟨A,H',h5,h6⟩|⟨H',h5,h6⟩
       ·obtain⟨c1,h5⟩:=LP.1 h5;have hadd:∃Ut,(∀p∈pl,p∈Ut)/\(IB fl i=true->sW o.op=true->∃t x B,o.op=.load t x/\(t,B,A)∈Ut/\∀K:AV->Prop,K B->uj e' x K)/\Cm o.dst A e' λe'=>Io F L ops fl (i+1) l Ut e' H' k:=by
         unfold b5t at h5;split at h5;{rename_i t x _ ho;obtain⟨B,h7,h8⟩:=sF _ _ _ h5;exact⟨_,λp hp=>dh _ hp,λ_ _=>⟨t,x,B,ho,dD,h8⟩,h7⟩};rename_i hne;refine⟨pl,λ_ h=>h,λhm hl=>?_,h5⟩;cases ho:o.op with
         |load t x=>exact(hne t x hm ho).elim
         |_=>simp[ho,sW]at hl
        obtain⟨Ut,p1,p2,h5⟩:=hadd;obtain⟨rs,ef,Hf,g1,g2,g3,g4,g5⟩:=Fh (Dy.1 h5);refine⟨⟨o,false,true,e',A,H,H'⟩::rs,ef,Hf,by simp[g1],⟨rfl,h1,h2,(λ_=>.inr (.inl ⟨rfl,h6⟩)),(λh=>by cases h),g2⟩,g3,step p1 (λp hp _ _ hv=>?_) g4 (λhm hl _ _=>p2 hm hl) g5⟩;dsimp only at hv;rw[hv]at c1;exact c1 p hp
       cases hd:o.dst with
       |some d=>simp only[hd]at h5
       | none =>
         simp only[hd]at h5;obtain⟨c1,h5⟩:=LP.1 h5;obtain⟨rs,ef,Hf,g1,g2,g3,g4,g5⟩:=Fh h5;have hnv:∀t x,o.op≠.load t x:=by intro t x ho;rw[ho]at h6;have:=h6 (λ_ _=>False) (λ_=>True) trivial;simp only[xH]at this;obtain⟨A,q1,_⟩:=sF _ _ _ this;obtain⟨R,q2,_⟩:=Ak _ _ _ _ _ q1;exact q2
         refine⟨⟨o,false,true,e',.und,H,H'⟩::rs,ef,Hf,by simp[g1],⟨rfl,h1,h2,(λ_=>.inr (.inr ⟨rfl,hd,h6⟩)),(λh=>by cases h),?_⟩,g3,step (λ_ h=>h) (λp hp _ _ hv=>by dsimp only at hv;rw[hv]at c1;exact c1 p hp) g4 (λ_ h=>?_) g5⟩;{simpa[KU,hd]using g2};exfalso;cases ho:o.op with
         |load t x=>exact hnv t x ho
         |_=>simp[ho,sW]at h
theorem a2S{L:Lay}{t:Nat}{A R:AV}:∀{hs:List Heap} {k:Prop},b4Z L t A R hs k↔(∀G∈hs,Ap L t A G λR'=>R'=R)/\k
 | [],k=>by simp[b4Z]
 |G::hs,k=>by simp only[b4Z,a2S,aT,forall_eq_or_imp,and_assoc]
structure GF(F:FT)(L:Lay)(gl:List Nat)(i:Nat)(hs:List Heap)(rs:List Rec):Prop where
 g1:∀G∈hs,∀(b:Nat) (rb:Rec),rs[b]? = some rb->IB gl (i+b)=true->sW rb.o.op=true->rb.nb=false->rb.ran=true->xE F L rb G
 g2:∀(a b:Nat) (ra rb:Rec),a<b->rs[a]? = some ra->rs[b]? = some rb->IB gl (i+b)=true->sW rb.o.op=true->rb.nb=false->rb.ran=true->ra.nb=false->sW ra.o.op=false->ra.ran=true->xE F L rb ra.H
theorem GF.step{F:FT}{L:Lay}{gl:List Nat}{i:Nat}{hs hs':List Heap}{r:Rec}{rs:List Rec}(t1:∀G∈hs,G∈hs')
  (t2:IB gl i=true->sW r.o.op=true->r.nb=false->r.ran=true->∀G∈hs,xE F L r G) (t3:r.nb=false->sW r.o.op=false->r.ran=true->r.H∈hs') (h:GF F L gl (i+1) hs' rs):GF F L gl i hs (r::rs):=by
 refine⟨λG hG b rb hb k1 k2 k3 k4=>?_,λa b ra rb hab ha hb k1 k2 k3 k4 k5 k6 k7=>?_⟩
 ·cases b with
  |zero=>simp at hb;subst hb;exact t2 k1 k2 k3 k4 G hG
  |succ b =>simp only[dV]at hb;exact h.g1 G (t1 G hG) b rb hb (by rw[show i+1+b=i+(b+1) by omega];exact k1) k2 k3 k4
 obtain⟨b,rfl⟩:∃c,b=c+1:=⟨b-1,aj⟩;simp only[dV]at hb;have k1:IB gl (i+1+b)=true:=(by rw[show i+1+b=i+(b+1) by omega];exact k1);cases a with
 |zero=>simp at ha;subst ha;exact h.g1 _ (t3 k5 k6 k7) b rb hb k1 k2 k3 k4
 |succ a =>simp only[dV]at ha;exact h.g2 a b ra rb aj ha hb k1 k2 k3 k4 k5 k6 k7
theorem Fj {F:FT} {L:Lay} {ops:List Oper} {fl gl:List Nat} {k:Env->Heap->Prop}:∀{l:List (Oper×Bool)} {i:Nat} {pl:List (Nat×AV×AV)} {hs:List Heap} {e:Env} {H:Heap},Gh F L ops fl gl i l pl hs e H k ->
  ∃ rs ef Hf,rs.map (λr=>(r.o,r.nb))=l/\FV F L ops rs e H ef Hf/\k ef Hf /\
    ((∀p∈pl,∀rj∈rs,rj.nb=false->rj.ran=true->JV fl rj.o.op=true->Ap L p.1 p.2.1 rj.H' λR=>R=p.2.2) /\
    ∀(a b:Nat) (ra rb:Rec),a<b->rs[a]? = some ra->rs[b]? = some rb->IB fl (i+a)=true->sW ra.o.op=true->ra.nb=false->ra.ran=true->rb.nb=false->rb.ran=true->JV fl rb.o.op=true->xE F L ra rb.H')/\GF F L gl i hs rs
 | [],i,pl,hs,e,H,h=>⟨[],e,H,rfl,⟨rfl,rfl⟩,h,⟨ak,λa b ra rb _ h=>by simp at h⟩,⟨λG _ b rb h=>by simp at h,λa b ra rb _ h=>by simp at h⟩⟩
 | (o,nb)::l,i,pl,hs,e,H,h=>by
   simp only[Gh]at h;obtain⟨e',b,h1,h2,h3,h4⟩:=OT h
   -- what is known of the rest does for the whole,if the first is no such load
   have step:∀{r:Rec} {rs:List Rec} {Ut:List (Nat×AV×AV)},(∀p∈pl,p∈Ut)->(∀p∈pl,r.nb=false->r.ran=true->JV fl r.o.op=true->Ap L p.1 p.2.1 r.H' λR=>R=p.2.2) ->
     (∀p∈Ut,∀rj∈rs,rj.nb=false->rj.ran=true->JV fl rj.o.op=true->Ap L p.1 p.2.1 rj.H' λR=>R=p.2.2) ->
     (IB fl i=true->sW r.o.op=true->r.nb=false->r.ran=true->∃t x B,r.o.op=.load t x/\(t,B,r.A)∈Ut/\∀K:AV->Prop,K B->uj r.e x K) ->
     (∀(a b:Nat) (ra rb:Rec),a<b->rs[a]? = some ra->rs[b]? = some rb->IB fl (i+1+a)=true->sW ra.o.op=true->ra.nb=false->ra.ran=true->rb.nb=false->rb.ran=true->JV fl rb.o.op=true->xE F L ra rb.H') ->
     (∀p∈pl,∀rj∈r::rs,rj.nb=false->rj.ran=true->JV fl rj.o.op=true->Ap L p.1 p.2.1 rj.H' λR=>R=p.2.2) /\
     ∀(a b:Nat) (ra rb:Rec),a<b->(r::rs)[a]? = some ra->(r::rs)[b]? = some rb->IB fl (i+a)=true->sW ra.o.op=true->ra.nb=false->ra.ran=true->rb.nb=false->rb.ran=true->JV fl rb.o.op=true->xE F L ra rb.H':=by
    intro r rs Ut s1 s2 s3 s4 s5;refine⟨λp hp rj hj=>?_,λa b ra rb hab ha hb g1 g2 g3 g4 g5 g6 g7=>?_⟩;{rcases aT.1 hj with rfl|hj;{exact s2 p hp};exact s3 p (s1 p hp) rj hj};obtain⟨b,rfl⟩:∃c,b=c+1:=⟨b-1,aj⟩;simp only[dV]at hb;cases a with
    |zero =>simp at ha;subst ha;obtain⟨t,x,B,k1,k2,k3⟩:=s4 g1 g2 g3 g4;have:=s3 _ k2 rb (cZ hb) g5 g6 g7;unfold xE;rw[k1];simp only[xH];refine k3 _ ?_;obtain⟨R,k4,k5⟩:=Ak _ _ _ _ _ this;exact k5 _ ⟨k4,trivial⟩
    |succ a =>simp only[dV]at ha;exact s5 a b ra rb aj ha hb (by rw[show i+1+a=i+(a+1) by omega];exact g1) g2 g3 g4 g5 g6 g7
   cases b with
   |false =>obtain⟨rs,ef,Hf,g1,g2,g3,⟨g4,g5⟩,g6⟩:=Fj (Dy.1 (h4 rfl));exact⟨⟨o,nb,false,e',.uf [],H,H⟩::rs,ef,Hf,by simp[g1],⟨rfl,h1,h2,(λh=>by cases h),λ_=>⟨rfl,rfl⟩,g2⟩,g3,step (λ_ h=>h) (λ_ _ _ h=>by cases h) g4 (λ_ _ _ h=>by cases h) g5,.step (λ_ h=>h) (λ_ _ _ h=>by cases h) (λ_ _ h=>by cases h) g6⟩
   | true =>
     have h3:=h3 rfl;cases nb with
     |true =>obtain⟨A,h5,h6⟩:=a1q _ h3;obtain⟨rs,ef,Hf,g1,g2,g3,⟨g4,g5⟩,g6⟩:=Fj (Dy.1 h5);exact⟨⟨o,true,true,e',A,H,H⟩::rs,ef,Hf,by simp[g1],⟨rfl,h1,h2,(λ_=>.inl ⟨rfl,rfl,h6⟩),(λh=>by cases h),g2⟩,g3,step (λ_ h=>h) (λ_ _ h=>by cases h) g4 (λ_ _ h=>by cases h) g5,.step (λ_ h=>h) (λ_ _ h=>by cases h) (λh=>by cases h) g6⟩
     | false =>
       obtain⟨hn,h3⟩:=Gn.1 h3;rcases a2N hn _ _ h3 with⟨A,H',h5,h6⟩|⟨H',h5,h6⟩
       ·obtain⟨c1,h5⟩:=LP.1 h5;have b6q:(IB gl i=true->sW o.op=true->∀G∈hs,xE F L ⟨o,false,true,e',A,H,H'⟩ G)/\b5t fl i o.op e' A pl λUt=>Cm o.dst A e' λe'=>Gh F L ops fl gl (i+1) l Ut (match sW o.op with|true=>hs|false=>H::hs) e' H' k:=by
         unfold b7j at h5;split at h5;{rename_i t x _ ho;obtain⟨B,h7,h8⟩:=sF _ _ _ h5;obtain⟨h9,h7⟩:=a2S.1 h7;refine⟨λ_ _ G hG=>?_,h7⟩;unfold xE;dsimp only;rw[ho];simp only[xH];refine h8 _ ?_;obtain⟨R,k4,k5⟩:=Ak _ _ _ _ _ (h9 G hG);exact k5 _ ⟨k4,trivial⟩};rename_i hne;refine⟨λhm hl=>?_,h5⟩;cases ho:o.op with
         |load t x=>exact(hne t x hm ho).elim
         |_=>simp[ho,sW]at hl
        obtain⟨hgG,h5⟩:=b6q;have hadd:∃Ut,(∀p∈pl,p∈Ut)/\(IB fl i=true->sW o.op=true->∃t x B,o.op=.load t x/\(t,B,A)∈Ut/\∀K:AV->Prop,K B->uj e' x K)/\Cm o.dst A e' λe'=>Gh F L ops fl gl (i+1) l Ut (match sW o.op with|true=>hs|false=>H::hs) e' H' k:=by
         unfold b5t at h5;split at h5;{rename_i t x _ ho;obtain⟨B,h7,h8⟩:=sF _ _ _ h5;exact⟨_,λp hp=>dh _ hp,λ_ _=>⟨t,x,B,ho,dD,h8⟩,h7⟩};rename_i hne;refine⟨pl,λ_ h=>h,λhm hl=>?_,h5⟩;cases ho:o.op with
         |load t x=>exact(hne t x hm ho).elim
         |_=>simp[ho,sW]at hl
        obtain⟨Ut,p1,p2,h5⟩:=hadd;obtain⟨rs,ef,Hf,g1,g2,g3,⟨g4,g5⟩,g6⟩:=Fj (Dy.1 h5);refine⟨⟨o,false,true,e',A,H,H'⟩::rs,ef,Hf,by simp[g1],⟨rfl,h1,h2,(λ_=>.inr (.inl ⟨rfl,h6⟩)),(λh=>by cases h),g2⟩,g3,step p1 (λp hp _ _ hv=>?_) g4 (λhm hl _ _=>p2 hm hl) g5,.step (λG hG=>?_) (λhm hl _ _=>hgG hm hl) (λ_ hl _=>?_) g6⟩;{dsimp only at hv;rw[hv]at c1;exact c1 p hp}
        ·cases sW o.op with
         |true=>exact hG
         |false=>exact dh _ hG
        dsimp only at hl;rw[hl];exact dD
       cases hd:o.dst with
       |some d=>simp only[hd]at h5
       | none =>
         simp only[hd]at h5;obtain⟨c1,h5⟩:=LP.1 h5;obtain⟨rs,ef,Hf,g1,g2,g3,⟨g4,g5⟩,g6⟩:=Fj h5;have hnv:∀t x,o.op≠.load t x:=by intro t x ho;rw[ho]at h6;have:=h6 (λ_ _=>False) (λ_=>True) trivial;simp only[xH]at this;obtain⟨A,q1,_⟩:=sF _ _ _ this;obtain⟨R,q2,_⟩:=Ak _ _ _ _ _ q1;exact q2
         refine⟨⟨o,false,true,e',.und,H,H'⟩::rs,ef,Hf,by simp[g1],⟨rfl,h1,h2,(λ_=>.inr (.inr ⟨rfl,hd,h6⟩)),(λh=>by cases h),?_⟩,g3,step (λ_ h=>h) (λp hp _ _ hv=>by dsimp only at hv;rw[hv]at c1;exact c1 p hp) g4 (λ_ h=>?_) g5,.step (λG hG=>dh _ hG) (λ_ h=>?_) (λ_ _ _=>dD) g6⟩;{simpa[KU,hd]using g2};all_goals
          exfalso;cases ho:o.op with
          |load t x=>exact hnv t x ho
          |_=>simp[ho,sW]at h
theorem a6j{ops:List Oper}{mask:List Bool}{fl:List Nat}{rs:List Rec}(h:a6k ops mask fl=true)(hm:rs.map (λr=>(r.o,r.nb))=ops.zip mask) :
  zl (λi j=>∃ri rj,i<j/\rs[i]? = some ri/\rs[j]? = some rj/\b0N ops fl ((ri.o,ri.nb),i) ((rj.o,rj.nb),j)=true) ops rs:=by
 have hget:∀(j:Nat) (r:Rec),rs[j]? = some r->(ops.zip mask)[j]? = some (r.o,r.nb):=(by intro j r hr;rw[<- hm,dO,hr];rfl);have h0:=h;unfold a6k at h;simp only[aN]at h;obtain⟨⟨⟨⟨h1,h2⟩,h3⟩,h5⟩,h4⟩:=h
 -- all but the clashes is as before
 have hlen:=aK h1;refine⟨?_,λj r hr=>?_,λj r hr hn=>?_,λj o ho e he hb=>?_,λi j ri rj hij hi hj hc=>?_,λi j ri rj hx hi hj=>?_,λj r hr hn hw=>?_,λi j k ri rj rk d hij hjk hi hj hk hn hl hn' hw hd hm=>?_⟩;{have:=lQ List.length hm;simp at this;omega};{have:=hget j r hr;rw[l9]at this;exact this.1};{have:=bF.1 h2 _ (cZ (hget j r hr));simpa[hn]using this};{have:=tY h3 ho;have:=bF.1 this e he;rw[hb]at this;simpa using this};{have:=tY h4 (hget j rj hj);have:=tY this (hget i ri hi);have hlt:Nat.blt i j=true:=(by simpa using hij);simp only[hlt,hc,fZ,fE,gG]at this;exact this.imp id λh=>⟨ri,rj,hij,hi,hj,h⟩};{obtain⟨ri',rj',_,hi',hj',he⟩:=hx;rw[hi]at hi';obtain rfl:=aW hi';rw[hj]at hj';obtain rfl:=aW hj';simp only[b0N,aN,eF]at he;obtain⟨⟨⟨⟨⟨⟨e1,e2⟩,e3⟩,e4⟩,e5⟩,e6⟩,e7⟩:=he;refine⟨.inl ⟨e2,e3⟩,trivial,λt ht hm=>?_,λt ht hm=>?_⟩;{rw[ht]at e6;simp only[eF]at e6;have:(uJ ops rj.o).contains t=true:=(by simpa using hm);rw[this]at e6;cases e6};rw[ht]at e7;simp only[eF]at e7;have:(uJ ops ri.o).contains t=true:=(by simpa using hm);rw[this]at e7;cases e7}
 ·have:=tY h5 (hget j r hr);simp only[hn,hw,jB,jw,fZ,fE,aN]at this;obtain⟨g1,g2⟩:=this;refine⟨?_,?_⟩
  ·cases hg:r.o.guard with
   |none=>rfl
   |some g=>rw[hg]at g1;cases g1
  cases hd:r.o.dst with
  |none=>rw[hd]at g2;cases g2
  |some d=>exact⟨d,rfl⟩
 have:=tY h5 (hget j rj hj);simp only[hn',hw,jB,jw,fZ,fE,aN,hd]at this;have:=tY this.2 (hget i ri hi);have hlt:Nat.blt i j=true:=(by simpa using hij);have hlt2:Nat.blt j k=true:=(by simpa using hjk);simp only[hlt,hn,hl,fZ,fE,gG]at this;rcases this with this|this;{exact .inl this};have:=tY this (hget k rk hk);have hc:(uJ ops rk.o).contains d=true:=(by simpa using hm);simp only[hlt2,hc,fZ,fE]at this;exact .inr this
theorem a6l{ops:List Oper}{mask:List Bool}{fl gl:List Nat}{rs:List Rec}(h:a6m ops mask fl gl=true)(hm:rs.map (λr=>(r.o,r.nb))=ops.zip mask) :
  zl (λi j=>∃ri rj,i<j/\rs[i]? = some ri/\rs[j]? = some rj/\(b0N ops fl ((ri.o,ri.nb),i) ((rj.o,rj.nb),j)=true\/b5I ops gl ((ri.o,ri.nb),i) ((rj.o,rj.nb),j)=true)) ops rs:=by
 have hget:∀(j:Nat) (r:Rec),rs[j]? = some r->(ops.zip mask)[j]? = some (r.o,r.nb):=(by intro j r hr;rw[<- hm,dO,hr];rfl);have h0:=h;unfold a6m at h;simp only[aN]at h;obtain⟨⟨⟨⟨h1,h2⟩,h3⟩,h5⟩,h4⟩:=h
 -- all but the clashes is as before
 have hlen:=aK h1;refine⟨?_,λj r hr=>?_,λj r hr hn=>?_,λj o ho e he hb=>?_,λi j ri rj hij hi hj hc=>?_,λi j ri rj hx hi hj=>?_,λj r hr hn hw=>?_,λi j k ri rj rk d hij hjk hi hj hk hn hl hn' hw hd hm=>?_⟩;{have:=lQ List.length hm;simp at this;omega};{have:=hget j r hr;rw[l9]at this;exact this.1};{have:=bF.1 h2 _ (cZ (hget j r hr));simpa[hn]using this};{have:=tY h3 ho;have:=bF.1 this e he;rw[hb]at this;simpa using this};{have:=tY h4 (hget j rj hj);have:=tY this (hget i ri hi);have hlt:Nat.blt i j=true:=(by simpa using hij);simp only[hlt,hc,fZ,fE,gG]at this;rcases this with(this|this)|this;{exact .inl this};{exact .inr ⟨ri,rj,hij,hi,hj,.inl this⟩};exact .inr ⟨ri,rj,hij,hi,hj,.inr this⟩};{obtain⟨ri',rj',_,hi',hj',he⟩:=hx;rw[hi]at hi';obtain rfl:=aW hi';rw[hj]at hj';obtain rfl:=aW hj';rcases he with he|he;{simp only[b0N,aN,eF]at he;obtain⟨⟨⟨⟨⟨⟨e1,e2⟩,e3⟩,e4⟩,e5⟩,e6⟩,e7⟩:=he;refine⟨.inl ⟨e2,e3⟩,trivial,λt ht hm=>?_,λt ht hm=>?_⟩;{rw[ht]at e6;simp only[eF]at e6;have:(uJ ops rj.o).contains t=true:=(by simpa using hm);rw[this]at e6;cases e6};rw[ht]at e7;simp only[eF]at e7;have:(uJ ops ri.o).contains t=true:=(by simpa using hm);rw[this]at e7;cases e7};simp only[b5I,aN,eF]at he;obtain⟨⟨⟨⟨⟨⟨⟨e1,e2⟩,e3⟩,e4⟩,e5⟩,e0⟩,e6⟩,e7⟩:=he;refine⟨.inr ⟨⟨e4,e5⟩,e2,e3,e0⟩,trivial,λt ht hm=>?_,λt ht hm=>?_⟩;{rw[ht]at e6;simp only[eF]at e6;have:(uJ ops rj.o).contains t=true:=(by simpa using hm);rw[this]at e6;cases e6};rw[ht]at e7;simp only[eF]at e7;have:(uJ ops ri.o).contains t=true:=(by simpa using hm);rw[this]at e7;cases e7}
 ·have:=tY h5 (hget j r hr);simp only[hn,hw,jB,jw,fZ,fE,aN]at this;obtain⟨g1,g2⟩:=this;refine⟨?_,?_⟩
  ·cases hg:r.o.guard with
   |none=>rfl
   |some g=>rw[hg]at g1;cases g1
  cases hd:r.o.dst with
  |none=>rw[hd]at g2;cases g2
  |some d=>exact⟨d,rfl⟩
 have:=tY h5 (hget j rj hj);simp only[hn',hw,jB,jw,fZ,fE,aN,hd]at this;have:=tY this.2 (hget i ri hi);have hlt:Nat.blt i j=true:=(by simpa using hij);have hlt2:Nat.blt j k=true:=(by simpa using hjk);simp only[hlt,hn,hl,fZ,fE,gG]at this;rcases this with this|this;{exact .inl this};have:=tY this (hget k rk hk);have hc:(uJ ops rk.o).contains d=true:=(by simpa using hm);simp only[hlt2,hc,fZ,fE]at this;exact .inr this
end Go.AL
namespace Go.AL
def AX.toE:AX->Exit
 | .normal=>.normal
 | .exit i=>.exit i
 | .ret=>.ret
def AB(n:Nat):Code->Bool
 | .skip=>true
 | .region _ ops _=>ops.toList.all (GL n)
 | .seq a b=>AB n a&&AB n b
 | .cond c a b=>sU c&&AB n a&&AB n b
 | .block _ b=>AB n b
 | .loop b=>AB n b
 | .exit _=>true
 | .ret=>true
 | .label _=>true
 |_=>false
def Post(n:Nat)(ws:List Nat)(c0:Cx)(H0:Heap)(a0:Act)(Q:AX->Env->Heap->Prop):Exit->Act->World->Prop :=
 λex a w=>∃x e H c,ex=AX.toE x/\Q x e H/\c.w=w/\Tr c0 H0 c H/\BR n c e a/\Fr ws a0 a
def xQ(P:Program)(Q:Exit->Act->World->Prop)(c:Code)(a:Act)(w:World):Prop :=
 ∀b k cs,∃e a' w',Q e a' w'/\Arrives P (lone (b.at a (.code c::.inLoop c::k)) cs w) b k cs e a' w'
theorem xQ.mono{P:Program}{Q Q':Exit->Act->World->Prop}{c:Code}{a:Act}{w:World}(h:xQ P Q c a w)(hq:∀e a w,Q e a w->Q' e a w):xQ P Q' c a w:=by intro b k cs;obtain⟨e,a',w',h1,h2⟩:=h b k cs;exact⟨e,a',w',hq _ _ _ h1,h2⟩
theorem xQ.wp{P:Program}{Q:Exit->Act->World->Prop}{c:Code}{a:Act}{w:World}(h:xQ P Q c a w):(Code.loop c).wp P Q a w:=by intro b k cs;obtain⟨e,a',w',hq,harr⟩:=h b k cs;exact⟨e,a',w',hq,.of_steps (.one step_loop) harr⟩
theorem xQ.a4T{P:Program}{Q:Exit->Act->World->Prop}{c:Code}{a:Act}{w:World}(h:c.wp P (Exit.then (λa' w'=>xQ P Q c a' w') Q) a w):xQ P Q c a w:=by
 intro b k cs;obtain⟨e,a₁,w₁,hq,harr⟩:=h b (.inLoop c::k) cs;cases e with
 |normal =>obtain⟨e₂,a₂,w₂,hq₂,harr₂⟩:=hq b k cs;exact⟨e₂,a₂,w₂,hq₂,.of_steps (Steps.trans harr (.one step_inLoop)) harr₂⟩
 |exit id=>exact⟨_,a₁,w₁,hq,.pass (x:=.inLoop c) rfl (λ_ _=>.inl ak) harr⟩
 |goto l=>exact⟨_,a₁,w₁,hq,.pass (x:=.inLoop c) rfl (λ_ _=>.inl ak) harr⟩
 |ret=>exact⟨_,a₁,w₁,hq,.pass (x:=.inLoop c) rfl (λ_ _=>.inl ak) harr⟩
 |panic ch=>exact⟨_,a₁,w₁,hq,.pass (x:=.inLoop c) rfl (λ_ _=>.inl ak) harr⟩
 |outgrown=>exact⟨_,a₁,w₁,hq,.pass (x:=.inLoop c) rfl (λ_ _=>.inl ak) harr⟩
theorem xQ.ghost{P:Program}{Q:Exit->Act->World->Prop}{c:Code}(I:Nat->Act->World->Prop)
  (round:∀n a w,I n a w->c.wp P (Exit.then (λa' w'=>∃m,m<n/\I m a' w') Q) a w):∀(n:Nat) (a:Act) (w:World),I n a w->xQ P Q c a w:=by
 intro n;induction n using Nat.strongRecOn with
 | _ n ih =>
   intro a w hI;refine .a4T (wp_mono (round n a w hI) ?_);intro e a' w' h;cases e with
   |normal=>obtain⟨m,h1,h2⟩:=h;exact ih m h1 a' w' h2
   |_=>exact h
section
variable{P:Program}{L:Lay}{F:FT}
theorem Tr.a8X{c:Cx}{H:Heap}{j len cp sz:Nat}{l:List AV}(hr:HR c H)(ho:hget H j=some (.arr sz cp l))(hl:len<=l.length) :
  ∃d,d.w=c.w/\Tr c H d ((nextId H,.tok sz len)::hset H j .gone)/\(len<=cp->cp<=maxL->VV d (.sl sz (l.take len) (.own (nextId H))) (.slice (some ⟨c.ρ j,0,none⟩) len cp)):=by
 obtain⟨cs,ty,g1,g2,g3,g4,g5,g6⟩:=hr.EL ho;obtain⟨a',d',rfl,g7⟩:=CY g5;have hjm:=wS ho;have hjs:c.ρ j<c.w.heap.size:=(dG.1 g1).1;let d:Cx:={ c with Im:=λb o=>c.Im b o\/(b=c.ρ j/\o<len*sz),nx:=c.nx+1,tk:=λk=>if k=c.nx then(some ⟨c.ρ j,0,none⟩,cp)else c.tk k,tp:=ug ((nextId H,.tok sz len)::hset H j .gone) };have hlt:∀x∈H,x.1<c.nx:=λx hx=>(by rw[hr.nx];exact sG hr.ids x hx);have hjl:j<c.nx:=hlt _ hjm;have htk:d.tk (nextId H)=(some ⟨c.ρ j,0,none⟩,cp):=(by simp[d,hr.nx]);have YI:=CJ (k:=j) (o':=.gone) hr.ids;have le:c.Le d:=(by refine⟨λb o h=>⟨.inl h,rfl⟩,mF _,λ_ _=>rfl,λk n hk hn=>.inl ⟨?_,?_⟩⟩;{have hne:nextId H≠k:=(by rw[<- hr.nx];omega);simp only[d]at hn;rw[Bv hne,xq ho (by intros;simp) (by intros;simp)]at hn;rw[hr.tp];exact hn};simp only[d];rw[aB aj]);have hbk:∀x∈H,qZ d x=qZ c x:=λx hx=>Bl rfl (by have:=hlt x hx;simp only[d];rw[aB aj]);have hbn:∀b,qZ d (nextId H,.tok sz len)=some b->b=c.ρ j:=(by intro b hb;simp only[qZ,htk]at hb;split at hb;{cases hb};simpa using hb.symm);have hbj:qZ c (j,.arr sz cp l)=some (c.ρ j):=rfl;have hne:∀x∈H,x.1≠j->∀b,qZ c x=some b->b≠c.ρ j:=λx hx hn b hb e=>hr.apart' hx hjm hn hb (by rw[e];exact hbj);refine⟨d,rfl,⟨⟨?_,rfl,⟨λx hx=>?_,YI⟩,?_,?_,?_⟩,le,rfl,rfl,rfl,aS _,λ_ _ _=>rfl,?_,?_⟩,?_⟩;{simp only[d,nextId,hr.nx]};{have:=sG YI x hx;rw[H9]at this;exact this};{rintro b o (h|⟨rfl,_⟩);{exact hr.im b o h};exact hjs};{intro x hx;rcases aT.1 hx with rfl|hx;{show(HO.tok sz len).Ok d (nextId H);simp only[HO.Ok,htk];refine .inr ⟨c.ρ j,_,ty,rfl,g1,by simpa using g2,aj,g4,?_⟩;rintro o h1 (h|⟨_,h⟩);{exact g6 o h};omega};rcases wF hr.ids hx with rfl|⟨hx,hn⟩;{trivial};refine DY le (hlt x hx) ?_ (λb hb=>⟨rfl,λy hy=>?_⟩) (hr.ok x hx);{have:=hlt x hx;simp only[d];rw[aB aj]};rcases hy with hy|⟨e,_⟩;{exact hy};exact absurd e (hne x hx hn b hb)};{rw[fB];constructor;{intro y hy b hb hb';obtain rfl:=hbn b hb;rcases wF hr.ids hy with rfl|⟨hy,hn⟩;{simp[qZ]at hb'};rw[hbk y hy]at hb';exact hne y hy hn _ hb' rfl};refine wH YI λx hx y hy hn b hb hb'=>?_;rcases wF hr.ids hx with rfl|⟨hx,_⟩;{simp[qZ]at hb};rcases wF hr.ids hy with rfl|⟨hy,_⟩;{simp[qZ]at hb'};rw[hbk x hx]at hb;rw[hbk y hy]at hb';exact hr.apart' hx hy hn hb hb'};{intro y hy b hb;rcases aT.1 hy with rfl|hy;{obtain rfl:=hbn b hb;exact .inr ⟨_,hjm,hbj⟩};rcases wF hr.ids hy with rfl|⟨hy,_⟩;{simp[qZ]at hb};rw[hbk y hy]at hb;exact .inr ⟨y,hy,hb⟩};{rintro b o (h|⟨rfl,_⟩);{exact .inl h};exact .inr (.inr ⟨_,hjm,hbj⟩)};intro h1 h2;refine vw rfl rfl ?_;simp only[VR];have hlen:(l.take len).length=len:=aA;have hf:=MG len (xP le.im g7);have hal:=vO g7;refine⟨by simp only[d];rw[hr.nx];omega,?_,λn hn=>?_⟩;{simp only[Rd];refine⟨by rw[hlen];omega,.inr ⟨⟨c.ρ j,0,none⟩,cp,by rw[hlen],by rw[hlen];exact h1,h2,λ_=>rfl,?_⟩⟩;refine Bo hf λx v hx=>⟨?_,.inr ⟨rfl,?_⟩⟩;{rw[jy]at hx;split at hx;{show c.w.cell? _=_;rw[cell_of_heap g1];have:x<a'.length:=(aY.1 hx).1;simp[bH this,hx]};simp at hx};rw[jy]at hx;split at hx;{simpa using ‹_›};simp at hx};have hn:ug ((nextId H,.tok sz len)::hset H j .gone) (nextId H)=some n:=hn;rw[JA]at hn;obtain rfl:=aW hn;rw[hlen,htk];exact⟨aS _,λ_=>rfl⟩
theorem Fq{e e':Env}{H H':Heap}(h:Cv e H e' H'):∀{n:Nat} {c:Cx} {a:Act},HR c H->BR n c e a->∃d,d.w=c.w/\Tr c H d H'/\BR n d e' a:=by
 induction h with
 |refl e H=>intro n c a hr ha;exact⟨c,rfl,.refl hr,ha⟩
 | grow t sz l A he hA h' ih =>
   intro n c a hr ha;have hv:=ha.env t A he;obtain⟨base,e1,hR⟩:∃base,a.tmps.getD t undef=.slice base l.length l.length/\Rd c.w c.Im (.sl sz l .no) [.slice base l.length l.length]:=by rcases hA with⟨rfl,rfl⟩|rfl;{exact I8 hv};exact Np hv
   obtain⟨d,hw,htr,hV⟩:=Tr.Ox hr hR;have ha':=ha.mono htr.le;refine(λBH=>by
    obtain⟨d',h1,h2,h3⟩:=ih htr.hr BH;exact⟨d',h1.trans hw,htr.trans h2,h3⟩) ?_
   refine⟨λt' B hB=>?_,ha.defers,ha.size⟩;simp only[uY]at hB;cases hb:Nat.beq t t' with
   |true =>rw[hb]at hB;obtain rfl:=aK hb;obtain rfl:=aW hB;rw[e1];exact rZ hV
   |false=>rw[hb]at hB;exact ha'.env _ _ hB
 | b6t t sz he h' ih =>
   intro n c a hr ha;obtain e1:=DV (ha.env t _ he);obtain⟨d,hw,htr,hV⟩:=Tr.a4F sz hr;have ha':=ha.mono htr.le;obtain⟨d',h1,h2,h3⟩:=ih htr.hr (a:=a) (by
    refine⟨λt' B hB=>?_,ha.defers,ha.size⟩;simp only[uY]at hB;cases hb:Nat.beq t t' with
    |true =>rw[hb]at hB;obtain rfl:=aK hb;obtain rfl:=aW hB;rw[e1];exact rZ hV
    |false=>rw[hb]at hB;exact ha'.env _ _ hB)
   exact⟨d',h1.trans hw,htr.trans h2,h3⟩
 | Nr t j sz l he ho hl h' ih =>
   intro n c a hr ha;obtain⟨d,hw,htr,hV⟩:=Tr.Nr hr ho hl (ha.env t _ he);have ha':=ha.mono htr.le;obtain⟨d',h1,h2,h3⟩:=ih htr.hr (a:=a) (by
    refine⟨λt' B hB=>?_,ha.defers,ha.size⟩;simp only[uY]at hB;cases hb:Nat.beq t t' with
    |true =>rw[hb]at hB;obtain rfl:=aK hb;obtain rfl:=aW hB;exact rZ hV
    |false=>rw[hb]at hB;exact ha'.env _ _ hB)
   exact⟨d',h1.trans hw,htr.trans h2,h3⟩
 | @GY e H e' H' j p sz l A B A' ho hp hB hs h' ih =>
   intro n c a hr ha;obtain⟨B0,hp0,rfl⟩:=BI.1 hp;clear hp;have hp:=hp0;obtain⟨cs,ty,h1,h2,h3⟩:=hr.EL ho;obtain⟨pre,xs,post,rfl,h4,h5⟩:=NH h2 hp;have hag:uz B0=false:=by rcases hB with⟨rfl,rfl⟩|rfl <;> rfl
   obtain⟨v,rfl,_⟩:=Aq h5 hag;have hv:VV c B0 v:=Gi h5 hag;obtain⟨base,e1,hR⟩:∃base,v=.slice base l.length l.length/\Rd c.w c.Im (.sl sz l .no) [.slice base l.length l.length]:=(by rcases hB with⟨rfl,rfl⟩|rfl;{exact I8 hv};exact Np hv);obtain⟨d,hw,htr,hV⟩:=Tr.Ox hr hR;rw[<- e1]at hV;have hjl:j<nextId H:=sG hr.ids _ (wS ho);have ho':hget ((nextId H,.tok sz l.length)::H) j=some (.box A):=by
    have:Nat.beq (nextId H) j=false:=by
     cases hb:Nat.beq (nextId H) j with
     |false=>rfl
     |true=>have:=aK hb;omega
    simp only[hget,this];exact ho
   have hρ:d.ρ j=c.ρ j:=htr.le.ρ j (by rw[hr.nx];exact hjl);obtain⟨_,_,_,_,q3⟩:=htr.hr.EL ho';obtain⟨A'',x1,pre',xs',post',g1,g2,g3,g4,g5,g6⟩:=Dc (SX hV rfl) (DW htr.le _ _ h2) hs;obtain rfl:B0=x1:=(by rw[hp]at g1;exact aW g1);have hxl:xs'.length=1:=(by obtain⟨u,rfl,_⟩:=Aq g4 hag;rfl);obtain⟨u,rfl⟩:∃u,xs'=[u]:=(by obtain⟨u,rfl,_⟩:=Aq g4 hag;exact⟨u,rfl⟩);have hpl:pre.length=pre'.length:=(by rw[h4,g3]);have hcs:pre'++[v]++post'=pre++[v]++post:=(by rw[bP,bP]at g2;obtain⟨r1,r2⟩:=jZ g2 hpl;obtain⟨r3,r4⟩:=jZ r2 rfl;rw[r1,r4]);rw[hcs,g6]at g5;have Ux:Tr d ((nextId H,.tok sz l.length)::H) d (hset ((nextId H,.tok sz l.length)::H) j (.box A')):=(by refine Tr.set htr.hr ho' (Cx.Le.refl _) rfl (by rw[xq ho' (by intros;simp) (by intros;simp)];exact htr.hr.tp) (λ_ _=>rfl) rfl rfl rfl (aS _) (λ_ _ _=>rfl) (λ_ _ h=>.inl h) ?_ ?_;{intro b hb;exact .inr hb};exact⟨_,ty,by rw[hw,hρ];exact h1,g5,q3⟩);have ha':=ha.mono htr.le;obtain⟨d',k1,k2,k3⟩:=ih Ux.hr ha';exact⟨d',k1.trans hw,(htr.trans Ux).trans k2,k3⟩
 | @freeze e H e' H' t j off len cap cp sz l he ho hl h' ih =>
   intro n c a hr ha;obtain⟨hj,e1,hlc,hcm⟩:=Oo (ha.env t _ he);obtain⟨cs,ty,g1,g2,g3,g4,g5,g6⟩:=hr.EL ho;obtain⟨a',d',rfl,g7⟩:=CY g5;let d:Cx:={ c with Im:=λb o=>c.Im b o\/b=c.ρ j };have le:c.Le d:=⟨λb o h=>⟨.inl h,rfl⟩,aS _,λ_ _=>rfl,λ_ _ _ h=>.inl ⟨h,rfl⟩⟩;have htr:Tr c H d (hset H j .gone):=by refine Tr.set hr ho le rfl (by rw[xq ho (by intros;simp) (by intros;simp)];exact hr.tp) (λ_ _=>rfl) rfl rfl rfl (aS _) (λ_ _ _=>rfl) ?_ ?_ trivial;{rintro b x (h|h);{exact .inl h};exact .inr (.inr (by simp[qZ,h]))};intro b h;simp[qZ]at h
   have hlen:((l.drop off).take len).length=len:=aA;have hf:=MG len (Yr off (xP le.im g7) aj);have hal:=vO g7;have hV:VV d (.sl sz ((l.drop off).take len) .no) (a.tmps.getD t undef):=(by rw[e1];refine vw rfl rfl ?_;simp only[VR,Rd];refine⟨by rw[hlen];omega,.inr ⟨⟨c.ρ j,off*sz,none⟩,cap,by rw[hlen],by rw[hlen];exact hlc,hcm,λ_=>rfl,?_⟩⟩;refine Bo hf λx v hx=>⟨?_,.inr rfl⟩;rw[jy]at hx;split at hx;{rw[gZ]at hx;show c.w.cell? _=_;rw[cell_of_heap g1];have:off*sz+x<a'.length:=(aY.1 hx).1;simp[bH this,hx]};simp at hx);have ha':=ha.mono le;refine(λBH=>by
    obtain⟨d',h1,h2,h3⟩:=ih htr.hr BH;exact⟨d',h1,htr.trans h2,h3⟩) ?_
   refine⟨λt' B hB=>?_,ha.defers,ha.size⟩;simp only[uY]at hB;cases hb:Nat.beq t t' with
   |true =>rw[hb]at hB;obtain rfl:=aK hb;obtain rfl:=aW hB;exact rZ hV
   |false=>rw[hb]at hB;exact ha'.env _ _ hB
 | @keep e H e' H' t j len cp sz l he ho hl h' ih =>
   intro n c a hr ha;obtain⟨hj,e1,hlc,hcm⟩:=Oo (ha.env t _ he);obtain⟨d,hw,htr,hV⟩:=Tr.a8X hr ho hl;have hV:=hV hlc hcm;have e1:a.tmps.getD t undef=.slice (some ⟨c.ρ j,0,none⟩) len cp:=by rw[e1];simp
   have ha':=ha.mono htr.le;refine(λBH=>by
    obtain⟨d',h1,h2,h3⟩:=ih htr.hr BH;exact⟨d',h1.trans hw,htr.trans h2,h3⟩) ?_
   refine⟨λt' B hB=>?_,ha.defers,ha.size⟩;simp only[uY]at hB;cases hb:Nat.beq t t' with
   |true =>rw[hb]at hB;obtain rfl:=aK hb;obtain rfl:=aW hB;rw[e1];exact rZ hV
   |false=>rw[hb]at hB;exact ha'.env _ _ hB
theorem TV{E K:Env}{t:Nat}{A:AV}(h:uY (E++K) t=some A):(t,A)∈E\/(t,A)∈K:=by have:=Qq h;simpa using this
theorem a3j{c:Cx}{A:AV}{v:Value}{kt kf:Prop}(hA:EV c A v)(h:br A kt kf):∃b,v=.bool b/\(b=true->kt)/\(b=false->kf):=by unfold br at h;split at h;{exact⟨true,Mc hA,λ_=>h,λh=>by cases h⟩};{exact⟨false,Me hA,(λh=>by cases h),λ_=>h⟩};{exact⟨_,yE hA,h⟩};{obtain⟨b,h4,h5⟩:=CW hA;exact⟨b,h4,λhb=>h.1 (h5.1 hb),λhb=>h.2 (λhp=>by rw[h5.2 hp]at hb;cases hb)⟩};exact h.elim
theorem Ol{n:Nat}:cnt (Array.replicate n false)=n:=by unfold cnt;rw[Array.toList_replicate,List.countP_replicate];simp
theorem a9j(hL:uo P L)(hm:P.follows .mixedOrders=true)(hFn:FS P F){n i:Nat}{ops:Array Oper}{e:Env}{H:Heap}{c:Cx}{a:Act}{k:Env->Heap->Prop}
  {Q:Exit->Act->World->Prop} (hl:ops.toList.all (GL n)=true) (hr:HR c H) (ha:BR n c e a) (hB:b3t ops.toList=true) (h:Ya F L ops.toList ops.toList.length [] e H k)
  (hq:∀e' H' c' a',k e' H'->Tr c H c' H'->BR n c' e' a'->Fr (rX ops.toList) a a'->Q .normal a' c'.w):(Code.region i ops true).wp P Q a c.w:=by
 have htr:=Tr.drew hr;have hle:c.Le { c with w:=c.w.drew }:=htr.le;refine wp_region_any hm ?_;have hnl:∀j,¬rC (Array.replicate ops.size false) j:=(by intro j;unfold rC;rw[dI];by_cases hj:j<ops.size;{simp[hj]};simp[hj]);have hlen:ops.toList.length=ops.size:=ak;rw[hlen]at h;exact a1O (c0:=c) (H0:=H) (a0:=a) hL hFn hl hB hq ops.size [] _ e H { c with w:=c.w.drew } a ak (λj=>⟨λh=>absurd h (hnl j),λh=>by simp at h⟩) Ol htr (ha.mono hle) (Fr.refl _ _) h
theorem Sm(hL:uo P L)(hm:P.follows .mixedOrders=true)(hFn:FS P F){n i:Nat}{ops:Array Oper}{e:Env}{H:Heap}{c:Cx}{a:Act}{k:Env->Heap->Prop}
  {Q:Exit->Act->World->Prop} (hl:ops.toList.all (GL n)=true) (hr:HR c H) (ha:BR n c e a) {X:Nat->Nat->Prop} {rs:List Rec} {ef:Env} {Hf:Heap} (hd:zl X ops.toList rs)
  (hX:∀(i j:Nat) (ri rj:Rec),X i j->rs[i]? = some ri->rs[j]? = some rj->ri.ran=true->rj.ran=true->(sW ri.o.op=true->xE F L ri rj.H')/\(eff ri=true->xE F L rj ri.H)) (h2:FV F L ops.toList rs e H ef Hf) (h3:k ef Hf)
  (hq:∀e' H' c' a',k e' H'->Tr c H c' H'->BR n c' e' a'->Fr (rX ops.toList) a a'->Q .normal a' c'.w):(Code.region i ops true).wp P Q a c.w:=by
 have htr:=Tr.drew hr;have hle:c.Le { c with w:=c.w.drew }:=htr.le;refine wp_region_any hm ?_;have hnl:∀j,¬rC (Array.replicate ops.size false) j:=(by intro j;unfold rC;rw[dI];by_cases hj:j<ops.size;{simp[hj]};simp[hj]);refine a9i (c0:=c) hL hFn hd hX h2 hl (λa' c' g1 g2 g3=>hq ef Hf c' a' h3 g1 g2 g3) ops.size (Array.replicate ops.size false) 0 a { c with w:=c.w.drew } (λ_=>0) ?_ (λj r _ _ _ hj=>absurd hj (hnl j)) (by rw[Ol];exact aS _);refine⟨ak,λj o hj=>absurd hj (hnl j),aO _,λj r hj=>aj,λj r _ _ _ hj=>absurd hj (hnl j),λi j ri rj _ _ _ _ _ _ hj=>absurd hj (hnl i),?_,λt A _ hA=>Cc hle (ha.env t A hA),λt j r hj=>absurd hj (hnl j),ha.defers,ha.size,Fr.refl _ _⟩;rw[b3J];exact htr
theorem a0j(hL:uo P L)(hm:P.follows .mixedOrders=true)(hFn:FS P F){n i:Nat}{ops:Array Oper}{e:Env}{H:Heap}{c:Cx}{a:Act}{k:Env->Heap->Prop}
  {Q:Exit->Act->World->Prop} (hl:ops.toList.all (GL n)=true) (hr:HR c H) (ha:BR n c e a) {mask:List Bool} (hB:TW ops.toList mask=true) (hrun:FK F L ops.toList (ops.toList.zip mask) e H k)
  (hq:∀e' H' c' a',k e' H'->Tr c H c' H'->BR n c' e' a'->Fr (rX ops.toList) a a'->Q .normal a' c'.w):(Code.region i ops true).wp P Q a c.w:=by
 obtain⟨rs,ef,Hf,h1,h2,h3⟩:=He hrun;exact Sm hL hm hFn hl hr ha (a9k hB h1) (λ_ _ _ _ h=>h.elim) h2 h3 hq
theorem a4c(hL:uo P L)(hm:P.follows .mixedOrders=true)(hFn:FS P F){n i:Nat}{ops:Array Oper}{e:Env}{H:Heap}{c:Cx}{a:Act}{k:Env->Heap->Prop}
  {Q:Exit->Act->World->Prop} (hl:ops.toList.all (GL n)=true) (hr:HR c H) (ha:BR n c e a) (h:wX F L ops.toList e H k)
  (hq:∀e' H' c' a',k e' H'->Tr c H c' H'->BR n c' e' a'->Fr (rX ops.toList) a a'->Q .normal a' c'.w):(Code.region i ops true).wp P Q a c.w:=by
 rcases h with⟨mask,hB,hrun⟩|⟨hB,hall⟩|⟨fl,mask,hB,hrun⟩|⟨fl,gl,mask,hB,hrun⟩|⟨js,hj⟩;case all=>exact a9j hL hm hFn hl hr ha hB hall hq
 case late =>
  obtain⟨rs,ef,Hf,h1,h2,h3,_,h4⟩:=Fh hrun;refine Sm hL hm hFn hl hr ha (a6j hB h1) ?_ h2 h3 hq;rintro i j ri rj ⟨ri',rj',hij,hi',hj',he⟩ hi hj hri Si;rw[hi]at hi';obtain rfl:=aW hi';rw[hj]at hj';obtain rfl:=aW hj';simp only[b0N,aN,eF]at he;obtain⟨⟨⟨⟨⟨⟨e1,e2⟩,e3⟩,e4⟩,e5⟩,_⟩,_⟩:=he;exact⟨λ_=>h4 i j ri rj hij hi hj (by rw[bC];exact e1) e2 e3 hri e5 Si e4,λhe=>by simp[eff,e2]at he⟩
 case both =>
  obtain⟨rs,ef,Hf,h1,h2,h3,⟨_,h4⟩,h5⟩:=Fj hrun;refine Sm hL hm hFn hl hr ha (a6l hB h1) ?_ h2 h3 hq;rintro i j ri rj ⟨ri',rj',hij,hi',hj',he⟩ hi hj hri Si;rw[hi]at hi';obtain rfl:=aW hi';rw[hj]at hj';obtain rfl:=aW hj';rcases he with he|he;{simp only[b0N,aN,eF]at he;obtain⟨⟨⟨⟨⟨⟨e1,e2⟩,e3⟩,e4⟩,e5⟩,_⟩,_⟩:=he;exact⟨λ_=>h4 i j ri rj hij hi hj (by rw[bC];exact e1) e2 e3 hri e5 Si e4,λhe=>by simp[eff,e2]at he⟩};simp only[b5I,aN,eF]at he;obtain⟨⟨⟨⟨⟨⟨⟨e1,e2⟩,e3⟩,e4⟩,e5⟩,_⟩,_⟩,_⟩:=he;exact⟨λhl=>(by rw[e5]at hl;cases hl),λ_=>h5.g2 i j ri rj hij hi hj (by rw[bC];exact e1) e2 e3 Si e4 e5 hri⟩
 case Xe =>
  obtain⟨e1,H1,d,hw,htr,ha1,mask,hB,hrun⟩:=OV hr ha hj;rw[<- hw];exact a0j hL hm hFn hl htr.hr ha1 hB hrun λe' H' c' a' g1 g2 g3 g4=>hq e' H' c' a' g1 (htr.trans g2) g3 g4
 exact a0j hL hm hFn hl hr ha hB hrun hq
theorem TN{n:Nat}{b:Code}{B:(AX->Env->Heap->Prop)->Env->Heap->Prop}
  (ihb:∀(Q:AX->Env->Heap->Prop) (e:Env) (H:Heap) (c:Cx) (a:Act),HR c H->BR n c e a->B Q e H->b.wp P (Post n (writes b) c H a Q) a c.w)
  {Q:AX->Env->Heap->Prop}:∀(m:Nat) (e:Env) (H:Heap) (c:Cx) (a:Act),HR c H->BR n c e a->LoopN Ok (writes b) B Q m e H->xQ P (Post n (writes b) c H a Q) b a c.w:=by
 intro m e H c a hr ha h;induction m generalizing e H c a with
 | succ m ih =>
   refine xQ.a4T (wp_mono (ihb _ e H c a hr ha h) ?_);rintro ex a' w' ⟨x',e',H',c',rfl,hq,rfl,htr,ha',hf⟩;cases x' with
   |normal =>refine(ih e' H' c' a' htr.hr ha' hq).mono ?_;rintro ex a'' w'' ⟨x'',e'',QZ,c'',rfl,hq,rfl,xG,BH,hf'⟩;exact⟨x'',e'',QZ,c'',rfl,hq,rfl,htr.trans xG,BH,λt ht=>(hf' t ht).trans (hf t ht)⟩
   |exit j=>exact⟨.exit j,e',H',c',rfl,hq,rfl,htr,ha',hf⟩
   |ret=>exact⟨.ret,e',H',c',rfl,hq,rfl,htr,ha',hf⟩
 |zero =>
 obtain⟨e₁,H₁,ι,E,kept,HS,μ,i₀,R,hR,hcv,hkept,hnext,⟨hE,hH⟩,OQ⟩:=h.ex;obtain⟨c₁,hw,htr₁,ha₁⟩:=Fq hcv hr ha;have hnx:c₁.nx=nextId H₁:=htr₁.hr.nx;let I:Nat->Act->World->Prop:=λm a' w'=>∃i c',m=μ i/\c'.w=w'/\Tr c₁ H₁ c' (HS i)/\BR n c' (E i++kept) a'/\(∀t A,(t,A)∈E i->Ok A)/\Fr (writes b) a a';have a5T:∀(c':Cx) (a':Act),c₁.Le c'->Fr (writes b) a a'->∀t A,(t,A)∈kept->EV c' A (a'.tmps.getD t undef):=(by intro c' a' le hf t A hm;obtain⟨g1,g2⟩:=hkept t A hm;rw[hf t (by simpa using g2)];exact Cc le (ha₁.env t A g1));have enter:∀(c':Cx) (e':Env) (H':Heap) (a':Act) (i:ι),Tr c₁ H₁ c' H'->BR n c' e' a'->Fr (writes b) a a'->WkE e' (nextId (HS i)) (E i)->HWk H' (HS i)->I (μ i) a' c'.w:=(by intro c' e' H' a' i htr ha' hf hwE hwH;have hwH:=hwH.to0 htr.hr;have hall:=QW ha'.env htr.hr hwH hwE;have xG:=htr.cut hwH (by rw[hnext i,hnx];exact aS _);refine⟨i,c'.cut (HS i),rfl,rfl,xG,⟨λt A hA=>?_,ha'.defers,ha'.size⟩,λt A hm=>MH (hall t A hm),hf⟩;rcases TV hA with h|h;{exact hall t A h};exact a5T _ a' xG.le hf t A h);have h0:I (μ i₀) a c.w:=(by rw[<- hw];exact enter c₁ e₁ H₁ a i₀ (.refl htr₁.hr) ha₁ (Fr.refl _ _) (by rw[hnext];exact hE) hH);refine xQ.ghost I ?_ _ _ _ h0;rintro m a' w' ⟨i,c',rfl,rfl,htr,ha',hok,hf⟩;refine wp_mono (ihb _ _ _ c' a' htr.hr ha' (OQ i hok)) ?_;rintro ex a'' w'' ⟨x',e',H',c'',rfl,hq,rfl,xG,BH,hf'⟩;have hff:Fr (writes b) a a'':=λt ht=>(hf' t ht).trans (hf t ht);cases x' with
 |normal =>obtain⟨i',e₂,H₂,hcv₂,⟨hwE,hwH⟩,hlt⟩:=hR _ _ _ hq;obtain⟨c₂,hw₂,htr₂,ha₂⟩:=Fq hcv₂ xG.hr BH;rw[<- hw₂];exact⟨_,hlt,enter c₂ e₂ H₂ a'' i' (htr.trans (xG.trans htr₂)) ha₂ hff hwE hwH⟩
 |exit j=>exact⟨.exit j,e',H',c'',rfl,hq,rfl,htr₁.trans (htr.trans xG),BH,hff⟩
 |ret=>exact⟨.ret,e',H',c'',rfl,hq,rfl,htr₁.trans (htr.trans xG),BH,hff⟩
theorem a1d{n:Nat}{b:Code}{B:(AX->Env->Heap->Prop)->Env->Heap->Prop}
  (ihb:∀(Q:AX->Env->Heap->Prop) (e:Env) (H:Heap) (c:Cx) (a:Act),HR c H->BR n c e a->B Q e H->b.wp P (Post n (writes b) c H a Q) a c.w)
  {Q:AX->Env->Heap->Prop} {e:Env} {H:Heap} {c:Cx} {a:Act} (hr:HR c H) (ha:BR n c e a) (h:a0S Ok (writes b) B Q e H):xQ P (Post n (writes b) c H a Q) b a c.w:=by
 obtain⟨e₁,H₁,ι,E,kept,HS,μ,i₀,R,hR,hcv,hkept,hnext,⟨hE,hH⟩,OQ⟩:=h.ex;obtain⟨c₁,hw,htr₁,ha₁⟩:=Fq hcv hr ha;have hnx:c₁.nx=nextId H₁:=htr₁.hr.nx;let I:Nat->Act->World->Prop:=λm a' w'=>∃i c',m=μ i/\c'.w=w'/\Tr c₁ H₁ c' (HS i)/\BR n c' (E i++kept) a'/\(∀t A,(t,A)∈E i->Ok A)/\Fr (writes b) a a';have a5T:∀(c':Cx) (a':Act),c₁.Le c'->Fr (writes b) a a'->∀t A,(t,A)∈kept->EV c' A (a'.tmps.getD t undef):=(by intro c' a' le hf t A hm;obtain⟨g1,g2⟩:=hkept t A hm;rw[hf t (by simpa using g2)];exact Cc le (ha₁.env t A g1));have enter:∀(c':Cx) (e':Env) (H':Heap) (a':Act) (i:ι),Tr c₁ H₁ c' H'->BR n c' e' a'->Fr (writes b) a a'->WkE e' (nextId (HS i)) (E i)->HWk H' (HS i)->I (μ i) a' c'.w:=(by intro c' e' H' a' i htr ha' hf hwE hwH;have hwH:=hwH.to0 htr.hr;have hall:=QW ha'.env htr.hr hwH hwE;have xG:=htr.cut hwH (by rw[hnext i,hnx];exact aS _);refine⟨i,c'.cut (HS i),rfl,rfl,xG,⟨λt A hA=>?_,ha'.defers,ha'.size⟩,λt A hm=>MH (hall t A hm),hf⟩;rcases TV hA with h|h;{exact hall t A h};exact a5T _ a' xG.le hf t A h);have main:∀(k:Nat) (a':Act) (w':World),I k a' w'->xQ P (Post n (writes b) c H a Q) b a' w':=by
  intro k;induction k using Nat.strongRecOn with
  |_ k ihk =>
  rintro a' w' ⟨i,c',rfl,rfl,htr,ha',hok,hf⟩;refine xQ.a4T (wp_mono (ihb _ _ _ c' a' htr.hr ha' (OQ i hok)) ?_);rintro ex a'' w'' ⟨x',e',H',c'',rfl,hq,rfl,xG,BH,hf'⟩;have hff:Fr (writes b) a a'':=λt ht=>(hf' t ht).trans (hf t ht);cases x' with
  |normal =>rcases hq with hq|⟨m,hq⟩;{obtain⟨i',e₂,H₂,hcv₂,⟨hwE,hwH⟩,hlt⟩:=hR _ _ _ hq;obtain⟨c₂,hw₂,htr₂,ha₂⟩:=Fq hcv₂ xG.hr BH;rw[<- hw₂];exact ihk _ hlt _ _ (enter c₂ e₂ H₂ a'' i' (htr.trans (xG.trans htr₂)) ha₂ hff hwE hwH)};refine(TN ihb m e' H' c'' a'' xG.hr BH hq).mono ?_;rintro ex a3 w3 ⟨x3,e3,H3,c3,rfl,hq3,rfl,b7B,ha3,hf3⟩;exact⟨x3,e3,H3,c3,rfl,hq3,rfl,htr₁.trans (htr.trans (xG.trans b7B)),ha3,λt ht=>(hf3 t ht).trans (hff t ht)⟩
  |exit j=>exact⟨.exit j,e',H',c'',rfl,hq,rfl,htr₁.trans (htr.trans xG),BH,hff⟩
  |ret=>exact⟨.ret,e',H',c'',rfl,hq,rfl,htr₁.trans (htr.trans xG),BH,hff⟩
 refine main (μ i₀) a c.w ?_;rw[<- hw];exact enter c₁ e₁ H₁ a i₀ (.refl htr₁.hr) ha₁ (Fr.refl _ _) (by rw[hnext];exact hE) hH
theorem WL{n:Nat}{b:Code}{B:(AX->Env->Heap->Prop)->Env->Heap->Prop}
  (ihb:∀(Q:AX->Env->Heap->Prop) (e:Env) (H:Heap) (c:Cx) (a:Act),HR c H->BR n c e a->B Q e H->b.wp P (Post n (writes b) c H a Q) a c.w)
  {Q:AX->Env->Heap->Prop} {e:Env} {H:Heap} {c:Cx} {a:Act} (hr:HR c H) (ha:BR n c e a) (h:qV Ok (writes b) B Q e H):(Code.loop b).wp P (Post n (writes (.loop b)) c H a Q) a c.w:=by
 refine xQ.wp ?_;have key:=λm e H c a=>TN (Q:=Q) ihb m e H c a;cases h with
 |esc h=>exact a1d ihb hr ha h
 |ex h' =>obtain⟨m,h⟩:=h';exact key m e H c a hr ha h
 | thaw t j sz l he ho ne next =>
   have hv:=ha.env t _ he;obtain⟨cp,h1,h2,d,hw,htr,hV⟩:=Tr.thaw hr ho ne hv;obtain⟨m,h⟩:=next cp h1 h2
   have ha':=ha.mono htr.le;have:=key m _ _ d a htr.hr ⟨λt' B hB=>by
    simp only[uY]at hB;cases hb:Nat.beq t t' with
    |true =>rw[hb]at hB;obtain rfl:=aK hb;obtain rfl:=aW hB;exact rZ hV
    |false=>rw[hb]at hB;exact ha'.env _ _ hB,ha.defers,ha.size⟩ h
   rw[hw]at this;refine this.mono ?_;rintro ex a'' w'' ⟨x'',e'',QZ,c'',rfl,hq,rfl,xG,BH,hf'⟩;exact⟨x'',e'',QZ,c'',rfl,hq,rfl,htr.trans xG,BH,hf'⟩
theorem Au(hL:uo P L)(hm:P.follows .mixedOrders=true)(hFn:FS P F){n:Nat} :
  ∀ (code:Code) (Q:AX->Env->Heap->Prop) (e:Env) (H:Heap) (c:Cx) (a:Act),AB n code=true->HR c H->BR n c e a->UA F Ok L code Q e H ->
    code.wp P (Post n (writes code) c H a Q) a c.w
 | .skip,Q,e,H,c,a,_,hr,ha,h=>wp_skip ⟨.normal,e,H,c,rfl,h,rfl,.refl hr,ha,Fr.refl _ _⟩
 | .region i ops d,Q,e,H,c,a,hc,hr,ha,h=>by
   simp only[AB]at hc;cases d with
   |true =>refine a4c hL hm hFn hc hr ha h λe' H' c' a' g1 g2 g3 g4=>?_;exact⟨.normal,e',H',c',rfl,g1,rfl,g2,g3,g4⟩
   |false =>refine wp_region_list (G9 hL hFn hc hr ha h λe' H' c' a' g1 g2 g3 g4=>?_);exact⟨.normal,e',H',c',rfl,g1,rfl,g2,g3,g4⟩
 | .seq x y,Q,e,H,c,a,hc,hr,ha,h=>by
   simp only[AB,aN]at hc;refine wp_seq (wp_mono (Au hL hm hFn x _ e H c a hc.1 hr ha h) ?_);rintro ex a' w' ⟨x',e',H',c',rfl,hq,rfl,htr,ha',hf⟩;cases x' with
   |normal =>refine wp_mono (Au hL hm hFn y _ e' H' c' a' hc.2 htr.hr ha' hq) ?_;rintro ex a'' w'' ⟨x',e'',QZ,c'',rfl,hq,rfl,xG,BH,hf'⟩;exact⟨x',e'',QZ,c'',rfl,hq,rfl,htr.trans xG,BH,hf.trans hf'⟩
   |exit i=>exact⟨.exit i,e',H',c',rfl,hq,rfl,htr,ha',hf.mono λt ht=>eH _ ht⟩
   |ret=>exact⟨.ret,e',H',c',rfl,hq,rfl,htr,ha',hf.mono λt ht=>eH _ ht⟩
 | .cond o x y,Q,e,H,c,a,hc,hr,ha,h=>by simp only[AB,aN]at hc;obtain⟨A,hA,h⟩:=rH ha.env hc.1.1 h;obtain⟨b,hb,h1,h2⟩:=a3j hA h;refine wp_cond_split hb (λhb=>?_) (λhb=>?_);{refine wp_mono (Au hL hm hFn x Q e H c a hc.1.2 hr ha (h1 hb)) ?_;rintro ex a' w' ⟨x',e',H',c',g1,g2,g3,g4,g5,g6⟩;exact⟨x',e',H',c',g1,g2,g3,g4,g5,g6.mono λt ht=>eH _ ht⟩};refine wp_mono (Au hL hm hFn y Q e H c a hc.2 hr ha (h2 hb)) ?_;rintro ex a' w' ⟨x',e',H',c',g1,g2,g3,g4,g5,g6⟩;exact⟨x',e',H',c',g1,g2,g3,g4,g5,g6.mono λt ht=>kE _ ht⟩
 | .block i b,Q,e,H,c,a,hc,hr,ha,h=>by
   refine wp_block (wp_mono (Au hL hm hFn b _ e H c a hc hr ha h) ?_);rintro ex a' w' ⟨x',e',H',c',rfl,hq,g3,g4,g5,g6⟩;cases x' with
   |normal=>exact⟨.normal,e',H',c',rfl,hq,g3,g4,g5,g6⟩
   | exit j =>
     simp only[AX.toE,Exit.inBlock];cases hb:Nat.beq j i with
     |true =>have hq:(match Nat.beq j i with|true=>Q .normal e' H'|false=>Q (.exit j) e' H'):=hq;rw[hb]at hq;rw[aG (aK hb)];exact⟨.normal,e',H',c',rfl,hq,g3,g4,g5,g6⟩
     |false =>have hq:(match Nat.beq j i with|true=>Q .normal e' H'|false=>Q (.exit j) e' H'):=hq;rw[hb]at hq;rw[aB (xw hb)];exact⟨.exit j,e',H',c',rfl,hq,g3,g4,g5,g6⟩
   |ret=>exact⟨.ret,e',H',c',rfl,hq,g3,g4,g5,g6⟩
 | .loop b,Q,e,H,c,a,hc,hr,ha,h=>WL (λQ e H c a=>Au hL hm hFn b Q e H c a hc) hr ha h
 | .exit i,Q,e,H,c,a,_,hr,ha,h=>wp_exit ⟨.exit i,e,H,c,rfl,h,rfl,.refl hr,ha,Fr.refl _ _⟩
 | .ret,Q,e,H,c,a,_,hr,ha,h=>wp_ret ⟨.ret,e,H,c,rfl,h,rfl,.refl hr,ha,Fr.refl _ _⟩
 | .label l,Q,e,H,c,a,_,hr,ha,h=>wp_label ⟨.normal,e,H,c,rfl,h,rfl,.refl hr,ha,Fr.refl _ _⟩
 | .goto _,_,_,_,_,_,hc,_,_,_=>by simp[AB]at hc
 | .scope _,_,_,_,_,_,hc,_,_,_=>by simp[AB]at hc
 | .rangeFunc ..,_,_,_,_,_,hc,_,_,_=>by simp[AB]at hc
 | .refuse _,_,_,_,_,_,hc,_,_,_=>by simp[AB]at hc
end
end Go.AL