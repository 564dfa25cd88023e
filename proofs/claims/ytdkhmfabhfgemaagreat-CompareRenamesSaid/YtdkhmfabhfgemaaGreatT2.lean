/-
  A logic for calls of Go functions: code is sound. Nothing is assumed.
-/
import Derived.Test.YtdkhmfabhfgemaaGreatT1
import Derived.Orders
namespace Go.AL
def J6(l:List Operand)(e e':Env):Prop:=∀t,.tmp t∈l->vk e t=vk e' t
theorem a7T{e e':Env}{x:Operand}(h:∀t,x=.tmp t->vk e t=vk e' t):uw e x=uw e' x:=by
 funext k;cases x with
 |tmp t =>simp only[uw];apply propext;rw[yC,yC,h t rfl]
 |_=>rfl
theorem J6.uw{l:List Operand}{e e':Env}(h:J6 l e e'){x:Operand}(hx:x∈l):uw e x=uw e' x :=
 a7T λt ht=>h t (by rw[<- ht];exact hx)
theorem J4{e e':Env}:∀{l:List Operand},J6 l e e'->FD e l=FD e' l
 | [],_=>rfl
 |x::l,h=>by funext k;simp only[FD];rw[h.uw ak,J4 (l:=l) λt ht=>h t (by simp[ht])]
theorem QM{e e':Env}:∀{ps:List (Nat×Operand)},J6 (ps.map (·.2)) e e'->zq e ps=zq e' ps
 | [],_=>rfl
 |(i,x)::ps,h=>by funext zs k;simp only[zq];rw[h.uw ak,QM (ps:=ps) λt ht=>h t (by simp at ht ⊢;exact .inr ht)]
theorem Oi{e e':Env}:∀{ps:List (Nat×Operand)},J6 (ps.map (·.2)) e e'->zO e ps=zO e' ps
 | [],_=>rfl
 |(i,x)::ps,h=>by funext zs k;simp only[zO];rw[h.uw ak,Oi (ps:=ps) λt ht=>h t (by simp at ht ⊢;exact .inr ht)]
theorem XZ{e e':Env}{x:Option Operand}{d:Int}(h:J6 x.toList e e'):LM e x d=LM e' x d:=by
 funext k;cases x with
 |none=>rfl
 |some y=>simp only[LM];rw[h.uw ak]
theorem a0N{L:Lay}{t:Nat}{e e':Env}{A:AV}{lo hi:Option Operand}(h:J6 (lo.toList++hi.toList) e e'):aslice L t e A lo hi=aslice L t e' A lo hi:=by have h1:∀d,LM e lo d=LM e' lo d:=λd=>XZ λt ht=>h t (by simp[ht]);have h2:∀d,LM e hi d=LM e' hi d:=λd=>XZ λt ht=>h t (by simp[ht]);funext k;simp only[aslice,h1,h2]
theorem a7J{F:FT}{vV:AV->Prop}{L:Lay}{op:Op}{e e':Env}(h:J6 (tK op) e e'):xI F vV L op e=xI F vV L op e':=by
 funext H k ks;cases op with
 |move x=>simp only[xI];rw[h.uw (by simp[tK])]
 |assign x=>simp only[xI];rw[h.uw (by simp[tK])]
 |pick x y z=>simp only[xI];rw[h.uw (x:=x) (by simp[tK]),h.uw (x:=y) (by simp[tK]),h.uw (x:=z) (by simp[tK])]
 |box t x=>simp only[xI];rw[h.uw (by simp[tK])]
 |build t ps=>simp only[xI];rw[QM h]
 |buildSlice t n ps=>simp only[xI];rw[Oi h]
 |load t x=>simp only[xI];rw[h.uw (by simp[tK])]
 |store t x y=>simp only[xI];rw[h.uw (x:=x) (by simp[tK]),h.uw (x:=y) (by simp[tK])]
 |nilCheck x=>simp only[xI];rw[h.uw (by simp[tK])]
 |binOp op t x y ty=>simp only[xI];rw[h.uw (x:=x) (by simp[tK]),h.uw (x:=y) (by simp[tK])]
 |unOp op t x=>simp only[xI];rw[h.uw (by simp[tK])]
 |typeAssert x xt s ok=>simp only[xI];rw[h.uw (by simp[tK])]
 |lookup t x y ok=>simp only[xI];rw[h.uw (x:=x) (by simp[tK]),h.uw (x:=y) (by simp[tK])]
 |mapUpdate t x y z=>simp only[xI];rw[h.uw (x:=x) (by simp[tK]),h.uw (x:=y) (by simp[tK]),h.uw (x:=z) (by simp[tK])]
 |convert s d x=>simp only[xI];rw[h.uw (by simp[tK])]
 |makeInterface t x=>simp only[xI];rw[h.uw (by simp[tK])]
 |makeFunc f first cap=>simp only[xI];rw[J4 (l:=cap.toList) h]
 |makeSlice t x y=>simp only[xI];rw[h.uw (x:=x) (by simp[tK]),h.uw (x:=y) (by simp[tK])]
 |slice t x lo hi mx =>simp only[xI];rw[h.uw (x:=x) (by simp[tK])];have:=λA=>a0N (L:=L) (t:=t) (A:=A) (lo:=lo) (hi:=hi) (e:=e) (e':=e') λt ht=>h t (by simp only[tK,aU];exact .inr ht);simp only[this]
 |fieldAddr t x f=>simp only[xI];rw[h.uw (by simp[tK])]
 |indexAddr t x y=>simp only[xI];rw[h.uw (x:=x) (by simp[tK]),h.uw (x:=y) (by simp[tK])]
 |index t x y=>simp only[xI];rw[h.uw (x:=x) (by simp[tK]),h.uw (x:=y) (by simp[tK])]
 |extract x i=>simp only[xI];rw[h.uw (by simp[tK])]
 | call cl =>
   cases hc:cl.callee with
   |value f =>simp only[xI,hc];simp only[tK,hc]at h;rw[h.uw (x:=f) ak,J4 λt ht=>h t (by simp[ht])]
   |builtin b =>simp only[xI,hc];simp only[tK,hc]at h;rw[J4 λt ht=>h t (by simp[ht])]
   |invoke r m=>simp only[xI,hc]
 |_=>rfl
end Go.AL
namespace Go.AL
def wu{α:Type}(T:(α->Prop)->Prop):Prop:=∀k,T k->∃x,k x/\∀k':α->Prop,k' x->T k'
def YB(T:Prop->Prop):Prop:=∀k,T k->k/\∀k':Prop,k'->T k'
theorem wu.bind{α β:Type}{T:(α->Prop)->Prop}{U:α->(β->Prop)->Prop}(h:wu T)(g:∀a,wu (U a)):wu λk=>T λa=>U a k:=by intro k hk;obtain⟨a,h1,h2⟩:=h _ hk;obtain⟨b,h3,h4⟩:=g a _ h1;exact⟨b,h3,λk' hk'=>h2 _ (h4 k' hk')⟩
theorem YB.bind{β:Type}{T:Prop->Prop}{U:(β->Prop)->Prop}(h:YB T)(g:wu U):wu λk=>T (U k):=by intro k hk;obtain⟨h1,h2⟩:=h _ hk;obtain⟨b,h3,h4⟩:=g _ h1;exact⟨b,h3,λk' hk'=>h2 _ (h4 k' hk')⟩
theorem wu.pure{α:Type}(x:α):wu λk=>k x:=λ_ h=>⟨x,h,λ_ h=>h⟩
theorem wu.no{α:Type}:wu fun(_:α->Prop)=>False:=λ_ h=>h.elim
theorem wu.map{α β:Type}{T:(α->Prop)->Prop}(h:wu T)(f:α->β):wu λk=>T λa=>k (f a):=h.bind λa=>wu.pure (f a)
theorem wu.and{α:Type}{p:Prop}{T:(α->Prop)->Prop}(h:wu T):wu λk=>p/\T k:=by rintro k ⟨hp,hk⟩;obtain⟨x,h1,h2⟩:=h k hk;exact⟨x,h1,λk' hk'=>⟨hp,h2 k' hk'⟩⟩
theorem wu.cases{α:Type}{p:Prop}{T U:(α->Prop)->Prop}(h:wu T)(g:wu U):wu λk=>(p->T k)/\(¬p->U k):=by rintro k ⟨h1,h2⟩;by_cases hp:p;{obtain⟨x,h3,h4⟩:=h k (h1 hp);exact⟨x,h3,λk' hk'=>⟨λ_=>h4 k' hk',λhn=>absurd hp hn⟩⟩};obtain⟨x,h3,h4⟩:=g k (h2 hp);exact⟨x,h3,λk' hk'=>⟨λhn=>absurd hn hp,λ_=>h4 k' hk'⟩⟩
theorem wu.b5r{α:Type}{b:Bool}{T U:(α->Prop)->Prop}(h:wu T)(g:wu U):wu λk=>(b=true->T k)/\(b=false->U k):=by
 rintro k ⟨h1,h2⟩;cases b with
 |true=>obtain⟨x,h3,h4⟩:=h k (h1 rfl);exact⟨x,h3,λk' hk'=>⟨(λ_=>h4 k' hk'),(λhn=>by cases hn)⟩⟩
 |false=>obtain⟨x,h3,h4⟩:=g k (h2 rfl);exact⟨x,h3,λk' hk'=>⟨(λhn=>by cases hn),λ_=>h4 k' hk'⟩⟩
theorem JU{α:Type}{T:(α->Prop)->Prop}{p:α->Prop}(h:∀k,T k↔∃x,p x/\k x):wu T:=by intro k hk;obtain⟨x,h1,h2⟩:=(h k).1 hk;exact⟨x,h2,λk' hk'=>(h k').2 ⟨x,h1,hk'⟩⟩
theorem Sl{α:Type}{T:(α->Prop)->Prop}{x:α}(h:∀k,T k↔k x):wu T:=λk hk=>⟨x,(h k).1 hk,λk' hk'=>(h k').2 hk'⟩
theorem Xw{T:Prop->Prop}{p:Prop}(h:∀k,T k↔p/\k):YB T:=λk hk=>⟨((h k).1 hk).2,λk' hk'=>(h k').2 ⟨((h k).1 hk).1,hk'⟩⟩
theorem a9D(e:Env)(t:Nat):wu (Ob e t):=JU λ_=>yC
theorem Jk(H:Heap)(n:Nat):wu (yt H n):=JU λ_=>uo
theorem JV{α:Type}(l:List α)(n:Nat):wu (Hu l n):=JU λ_=>zV
theorem a2V(l:List Nat)(x:Nat):wu (Ze l x):=Sl λ_=>MH
theorem UO(l m:List AV):wu (Y1 l m):=Sl λ_=>QS
theorem b2T(z:AV)(n:Nat):wu (a8K z n):=Sl λ_=>V3
theorem QA(A:AV)(p:List Nat):wu (KA A p):=JU λ_=>BK
theorem xK(a b:Nat):YB (BP a b):=Xw λ_=>sW
theorem a6M(a b:Nat):YB (SE a b):=Xw λ_=>X4
theorem UN(A:AV):YB (Vt A):=Xw λ_=>KL
theorem Xp:∀(l:List AV),YB (Ti l)
 | []=>λ_ h=>⟨h,λ_ h=>h⟩
 |A::l=>by intro k h;obtain⟨h1,h2⟩:=UN A _ h;obtain⟨h3,h4⟩:=Xp l _ h1;exact⟨h3,λk' hk'=>h2 _ (h4 _ hk')⟩
theorem JR(y:AV):∀(l:List AV) (i:Nat),wu (Aa l i y)
 | [],_=>wu.no
 |_::_,0=>wu.pure _
 |_::l,i+1=>(JR y l i).map _
theorem Xq(B:AV):∀(p:List Nat) (A:AV),wu λk=>I8 A p B k
 | [],A=>by cases A <;> exact wu.pure B
 | i::p,A=>by
   cases A with
   |ag l=>exact(JV l i).bind λx=>(Xq B p x).bind λx'=>(JR x' l i).map _
   |_=>exact wu.no
theorem rU:∀(L:Lay) (t:Nat),wu (L.sQ t)
 | .nil,_=>wu.no
 | .node l t' i r,t=>by
   intro k h;simp only[Lay.sQ]at h ⊢;cases hb:Nat.beq t t' with
   |true=>rw[hb]at h;exact⟨i,h,λ_ h=>h⟩
   | false =>
     rw[hb]at h;cases hc:Nat.ble t t' with
     |true=>rw[hc]at h;exact rU l t k h
     |false=>rw[hc]at h;exact rU r t k h
theorem DT(L:Lay)(t:Nat)(x:AV):YB (OZ L t x):=by
 intro k h;unfold OZ at h;obtain⟨h1,h2⟩:=UN x _ h;obtain⟨i,h3,h4⟩:=rU L t _ h1
 have key:k/\∀k':Prop,k'->(match Nat.beq (flat x) (flat i.zero)with
   |false=>False
   | true=>match uG x,uG i.zero with
     |true,true=>k'
     |false,false=>k'
     |_,_=>False):=by
  cases hb:Nat.beq (flat x) (flat i.zero)with
  |false=>rw[hb]at h3;exact h3.elim
  |true =>rw[hb]at h3;cases h5:uG x <;> cases h6:uG i.zero <;> rw[h5,h6]at h3 <;> first|exact h3.elim|exact⟨h3,λ_ h=>h⟩
 exact⟨key.1,λk' hk'=>by unfold OZ;exact h2 _ (h4 _ (key.2 k' hk'))⟩
theorem Lu(H:Heap)(n:Nat)(o:HO):wu (G5 H n o):=by intro k h;obtain⟨h1,h2⟩:=yB.1 h;exact⟨_,h2,λk' hk'=>yB.2 ⟨h1,hk'⟩⟩
theorem a6K(v:Value):wu (XC v):=by intro k h;unfold XC at h ⊢;split at h <;> first|exact h.elim|exact⟨_,h,λ_ h=>h⟩
theorem sJ(e:Env)(x:Operand):wu (uw e x):=by
 cases x with
 |tmp t=>exact a9D e t
 |const v=>exact a6K v
 |func f=>exact wu.pure _
 |global g=>exact wu.no
theorem AA(e:Env):∀(l:List Operand),wu (FD e l)
 | []=>wu.pure _
 |x::l=>(sJ e x).bind λ_=>(AA e l).map _
theorem Qz{α:Type}(l:List α)(n:Int):wu (Ce l n):=by rintro k ⟨x,h1,h2⟩;exact⟨x,h2,λk' hk'=>⟨x,h1,hk'⟩⟩
theorem a6J{α:Type}(l:List α)(lo hi:Int):wu (b1C l lo hi):=by rintro k ⟨h1,h2⟩;exact⟨_,h2,λk' hk'=>⟨h1,hk'⟩⟩
theorem Xr(A:AV):wu (NT A):=by intro k h;unfold NT at h ⊢;split at h <;> first|exact h.elim|exact⟨_,h,λ_ h=>h⟩
theorem Sm(kd:IntKind)(z:Int):wu (arith kd z):=by cases kd <;> first|exact wu.pure _|exact wu.and (wu.pure _)
theorem Qy(A:AV):wu (KG A):=by cases A <;> first|exact wu.pure _|exact wu.no
theorem a6L(A:AV):wu (XY A):=by cases A <;> first|exact wu.pure _|exact wu.no
theorem a6I(A B:AV):wu (eqB A B):=by intro k h;unfold eqB at h ⊢;split at h <;> first|exact h.elim|exact a6L _ k h|exact Qy _ k h|exact⟨_,h,λ_ h=>h⟩
theorem a0p(A B:AV):wu (TJ A B):=by intro k h;unfold TJ at h ⊢;split at h <;> first|exact h.elim|exact⟨_,h,λ_ h=>h⟩
theorem Xu(A B:AV):wu (KY A B):=by intro k h;unfold KY at h ⊢;split at h <;> first|exact h.elim|exact⟨_,h,λ_ h=>h⟩
theorem b2X(d:TD)(op:BinOp)(hc:Bool)(A B:AV):wu (b5U d op hc A B):=by
 intro k h;unfold b5U at h ⊢;split at h <;> first
  |exact h.elim
  |exact a6I A B k h
  |exact((a6I A B).bind λR=>Qy R) k h
  |exact Xu A B k h
  |exact((Xu A B).bind λR=>Qy R) k h
  |(split at h <;> first|exact h.elim|exact a0p A B k h|exact((a0p A B).bind λR=>Qy R) k h)
theorem a9I(i:TI)(op:BinOp)(A B:AV):wu (b1o i op A B):=by intro k h;unfold b1o at h ⊢;split at h;{split at h;{split at h <;> first|exact⟨_,h,λ_ h=>h⟩|exact h.elim};exact h.elim};exact h.elim
theorem a9F(i:TI)(op:BinOp)(hc:Bool)(A B:AV)(hd:wu (SV i.desc op hc A B)):wu λk=>match uG A with
      |true=>b1o i op A B k
      |false=>SV i.desc op hc A B k:=by
 cases uG A with
 |true=>exact a9I i op A B
 |false=>exact hd
theorem b2Y(d:TD)(op:BinOp)(hc:Bool)(A B:AV):wu (SV d op hc A B):=by
 intro k h;unfold SV at h ⊢;split at h
 ·rename_i ka a kb b;cases op <;> simp only at h ⊢;case shl=>exact⟨_,h.2,λk' hk'=>⟨h.1,hk'⟩⟩
  case shr=>exact⟨_,h.2,λk' hk'=>⟨h.1,hk'⟩⟩
  all_goals
   cases hk:Hw ka kb with
   |false=>rw[hk]at h;exact h.elim
   | true =>
     rw[hk]at h;simp only at h ⊢;first
      |exact⟨_,h,λ_ h=>h⟩
      |exact Sm _ _ k h
      |exact(wu.and (Sm _ _)) k h
      |exact⟨_,h.2,λk' hk'=>⟨h.1,hk'⟩⟩
 ·cases op <;> simp only at h ⊢ <;> first
   |exact h.elim
   |exact⟨_,h,λ_ h=>h⟩
   |exact⟨_,h.2,λk' hk'=>⟨h.1,hk'⟩⟩
 exact b2X d op hc _ _ k h
theorem Am(L:Lay)(t:Nat)(A:AV)(H:Heap):wu (Ap L t A H):=by intro k h;unfold Ap at h ⊢;split at h;{exact((DT L t _).bind (wu.pure _)) k h};{obtain⟨o,h1,h2⟩:=Jk H _ _ h;split at h1;{obtain⟨x,h3,h4⟩:=((QA _ _).bind λx=>(xK _ _).bind ((DT L t x).bind (wu.pure x))) k h1;exact⟨x,h3,λk' hk'=>h2 _ (h4 k' hk')⟩};{split at h1;{obtain⟨x,h3,h4⟩:=((Qz _ _).bind λx=>wu.and ((DT L t x).bind (wu.pure x))) k h1;exact⟨x,h3,λk' hk'=>h2 _ (h4 k' hk')⟩};{obtain⟨x,h3,h4⟩:=((Qz _ _).bind λx=>(QA _ _).bind λy=>wu.and ((DT L t y).bind (wu.pure y))) k h1;exact⟨x,h3,λk' hk'=>h2 _ (h4 k' hk')⟩};exact h1.elim};exact h1.elim};exact h.elim
theorem a6D(L:Lay)(t:Nat)(A B:AV)(H:Heap):wu (X7 L t A B H):=by intro k h;unfold X7 at h ⊢;split at h;{obtain⟨o,h1,h2⟩:=Jk H _ _ h;split at h1;{obtain⟨x,h3,h4⟩:=((QA _ _).bind λx=>(xK _ _).bind ((DT L t B).bind ((xK _ _).bind ((Xq B _ _).bind λA'=>Lu H _ _)))) k h1;exact⟨x,h3,λk' hk'=>h2 _ (h4 k' hk')⟩};{split at h1;{obtain⟨x,h3,h4⟩:=((Xr B).bind λB'=>(xK _ _).bind ((DT L t B).bind (wu.and (wu.and (Lu H _ _))))) k h1;exact⟨x,h3,λk' hk'=>h2 _ (h4 k' hk')⟩};{obtain⟨x,h3,h4⟩:=((Qz _ _).bind λx=>(QA _ _).bind λy=>wu.and ((DT L t B).bind ((xK _ _).bind ((Xq B _ _).bind λA'=>(Xr A').bind λA''=>Lu H _ _)))) k h1;exact⟨x,h3,λk' hk'=>h2 _ (h4 k' hk')⟩};exact h1.elim};exact h1.elim};exact h.elim
end Go.AL
namespace Go.AL
theorem a6H(L:Lay)(t:Nat)(A:AV)(f:Nat):wu (SN L t A f):=by
 intro k h;unfold SN at h ⊢;obtain⟨i,h1,h2⟩:=rU L t _ h;suffices hs:∃x,k x/\∀k':AV->Prop,k' x->_ from
  let⟨x,h3,h4⟩:=hs;⟨x,h3,λk' hk'=>h2 _ (h4 k' hk')⟩
 split at h1
 ·split at h1
  ·obtain⟨x,h3,h4⟩:=((xK _ _).bind ((JV _ _).bind (U:=λz k=>match flat z with|0=>False|_+1=>Hu _ _ λx=>k (.cp x)) λz=>by
    cases flat z with
    |zero=>exact wu.no
    |succ n=>exact(JV _ _).map _)) k h1
   exact⟨x,h3,h4⟩
  ·obtain⟨z,h3,h4⟩:=JV _ _ _ h1;cases hz:flat z with
   |zero=>rw[hz]at h3;exact h3.elim
   |succ n =>rw[hz]at h3;obtain⟨p',h5,h6⟩:=a2V _ _ _ h3;exact⟨_,h5,λk' hk'=>h4 _ (by rw[hz];exact h6 _ hk')⟩
  exact h1.elim
 exact h1.elim
theorem YR(L:Lay)(t:Nat)(A I:AV):wu (Es L t A I):=by
 intro k h;unfold Es at h ⊢;split at h
 ·obtain⟨i,h1,h2⟩:=rU L t _ h;suffices hs:∃x,k x/\∀k':AV->Prop,k' x->_ from
   let⟨x,h3,h4⟩:=hs;⟨x,h3,λk' hk'=>h2 _ (h4 k' hk')⟩
  split at h1;{obtain⟨x,h3,h4⟩:=((rU L _).bind λei=>(xK _ _).bind ((Qz _ _).map AV.cp)) k h1;exact⟨x,h3,h4⟩};{obtain⟨x,h3,h4⟩:=((rU L _).bind λei=>(xK _ _).bind (wu.and (wu.pure _))) k h1;exact⟨x,h3,h4⟩};{obtain⟨x,h3,h4⟩:=((rU L _).bind λei=>wu.and ((a2V _ _).map λp'=>AV.ptr _ p' _)) k h1;exact⟨x,h3,h4⟩};exact h1.elim
 exact h.elim
theorem a6G(L:Lay)(t:Nat)(A I:AV):wu (SL L t A I):=by
 intro k h;unfold SL at h ⊢;split at h
 ·obtain⟨i,h1,h2⟩:=rU L t _ h;suffices hs:∃x,k x/\∀k':AV->Prop,k' x->_ from
   let⟨x,h3,h4⟩:=hs;⟨x,h3,λk' hk'=>h2 _ (h4 k' hk')⟩
  split at h1;{exact((Qz _ _).map _) k h1};exact h1.elim
 exact h.elim
theorem Ip(e:Env)(x:Option Operand)(d:Int):wu (LM e x d):=by
 cases x with
 |none=>exact wu.pure _
 |some x =>refine(sJ e x).bind (U:=λA k=>match A with | .int _ n=>k n|_=>False) λA=>?_;cases A <;> first|exact wu.pure _|exact wu.no
theorem a6E(L:Lay)(t:Nat)(e:Env)(A:AV)(lo hi:Option Operand):wu (aslice L t e A lo hi):=by
 intro k h;unfold aslice at h ⊢;obtain⟨i,h1,h2⟩:=rU L t _ h;suffices hs:∃x,k x/\∀k':AV->Prop,k' x->_ from
  let⟨x,h3,h4⟩:=hs;⟨x,h3,λk' hk'=>h2 _ (h4 k' hk')⟩
 split at h1;{exact((Ip e lo _).bind λa=>(Ip e hi _).bind λb=>(a6J _ _ _).map _) k h1};{exact((rU L _).bind λei=>(xK _ _).bind ((Ip e lo _).bind λa=>(Ip e hi _).bind λb=>(a6J _ _ _).map _)) k h1};{exact((rU L _).bind λei=>(xK _ _).bind ((Ip e lo _).bind λa=>(Ip e hi _).bind λb=>wu.and (wu.and (wu.pure _)))) k h1};{exact((rU L _).bind λei=>(Ip e lo _).bind λa=>(Ip e hi _).bind λb=>wu.and (wu.pure _)) k h1};exact h1.elim
theorem Cj(H:Heap)(sz:Nat)(B:AV):wu (Ov H sz B):=by
 intro k h;unfold Ov at h ⊢;split at h;{exact⟨_,h,λ_ h=>h⟩};{exact((xK _ _).bind (wu.pure _)) k h}
 ·obtain⟨o,h1,h2⟩:=Jk H _ _ h;suffices hs:∃x,k x/\∀k':List AV->Prop,k' x->_ from
   let⟨x,h3,h4⟩:=hs;⟨x,h3,λk' hk'=>h2 _ (h4 k' hk')⟩
  split at h1;{exact((xK _ _).bind ((xK _ _).bind (wu.and (wu.pure _)))) k h1};exact h1.elim
 ·exact((xK _ _).bind (wu.pure _)) k h
 exact h.elim
theorem b2W(d:TD)(A:AV)(H:Heap):wu (b0t d A H):=by intro k h;unfold b0t at h ⊢;split at h <;> first|exact h.elim|exact⟨_,h,λ_ h=>h⟩
theorem b2V(A B:AV):wu (b2q A B):=by intro k h;unfold b2q at h ⊢;split at h;{split at h <;> first|exact h.elim|exact⟨_,h,λ_ h=>h⟩};exact h.elim
theorem b2U(A B:AV):wu (Us A B):=by intro k h;unfold Us at h ⊢;split at h;{split at h <;> first|exact h.elim|exact⟨_,h,λ_ h=>h⟩};exact h.elim
def xY(T:(AV->Heap->Prop)->Prop):Prop:=∀k,T k->∃A H',k A H'/\∀k':AV->Heap->Prop,k' A H'->T k'
theorem wu.uf{α:Type}{T:(α->Prop)->Prop}{U:α->(AV->Heap->Prop)->Prop}(h:wu T)(g:∀a,xY (U a)):xY λk=>T λa=>U a k:=by intro k hk;obtain⟨a,h1,h2⟩:=h _ hk;obtain⟨A,H',h3,h4⟩:=g a _ h1;exact⟨A,H',h3,λk' hk'=>h2 _ (h4 k' hk')⟩
theorem YB.uf{T:Prop->Prop}{U:(AV->Heap->Prop)->Prop}(h:YB T)(g:xY U):xY λk=>T (U k):=by intro k hk;obtain⟨h1,h2⟩:=h _ hk;obtain⟨A,H',h3,h4⟩:=g _ h1;exact⟨A,H',h3,λk' hk'=>h2 _ (h4 k' hk')⟩
theorem xY.pure(A:AV)(H:Heap):xY λk=>k A H:=λ_ h=>⟨A,H,h,λ_ h=>h⟩
theorem xY.no:xY λ_=>False:=λ_ h=>h.elim
theorem xY.and{p:Prop}{T:(AV->Heap->Prop)->Prop}(h:xY T):xY λk=>p/\T k:=by rintro k ⟨hp,hk⟩;obtain⟨A,H',h1,h2⟩:=h k hk;exact⟨A,H',h1,λk' hk'=>⟨hp,h2 k' hk'⟩⟩
theorem wu.with{T:(AV->Prop)->Prop}(h:wu T)(H:Heap):xY λk=>T λA=>k A H:=h.uf λA=>xY.pure A H
theorem Qw(H:Heap)(o:HO){U:Nat->AV}:xY λk=>GH H o λj H'=>k (U j) H':=by intro k h;exact⟨_,_,wF.1 h,λk' hk'=>wF.2 hk'⟩
theorem a9B(e n sz:Nat)(z:AV)(H:Heap):xY (YC e n sz z H):=by rintro k (⟨h1,h2⟩|h);{exact⟨_,_,h2,λk' hk'=>.pure ⟨h1,hk'⟩⟩};exact⟨_,_,h,λk' hk'=>.wr hk'⟩
theorem a9H(sz bytes:Nat)(l m:List AV){U:(AV->Heap->Prop)->Prop}(h:xY U):xY λk=>b38 sz bytes l m (U k):=by rintro k ⟨h1,h2,h3⟩;obtain⟨A,H',h4,h5⟩:=h k h3;exact⟨A,H',h4,λk' hk'=>⟨h1,h2,h5 k' hk'⟩⟩
theorem a2X(sz bytes:Nat)(l m:List AV)(H:Heap):xY (Oq sz bytes l m H):=by rintro k (⟨h1,h2,h3⟩|⟨h1,h2,h3⟩);{obtain⟨A,H',h4,h5⟩:=(Qw H (.tok sz (l.length+m.length)) (U:=λj=>.sl sz (l++m) (.own j))) k h3;exact⟨A,H',h4,λk' hk'=>.tok h1 h2 (h5 k' hk')⟩};exact⟨_,_,h3,λk' hk'=>.pure h1 h2 hk'⟩
theorem Xv(L:Lay)(t:Nat)(A B:AV)(H:Heap):xY (AP L t A B H):=by
 intro k h;unfold AP at h ⊢;obtain⟨i,h1,h2⟩:=rU L t _ h;suffices hs:∃x H',k x H'/\∀k':AV->Heap->Prop,k' x H'->_ from
  let⟨x,H',h3,h4⟩:=hs;⟨x,H',h3,λk' hk'=>h2 _ (h4 k' hk')⟩
 split at h1
 ·obtain⟨ei,h3,h4⟩:=rU L _ _ h1;suffices hs:∃x H',k x H'/\∀k':AV->Heap->Prop,k' x H'->_ from
   let⟨x,H',h5,h6⟩:=hs;⟨x,H',h5,λk' hk'=>h4 _ (h6 k' hk')⟩
  split at h3;{exact((Cj H _ B).uf λm=>a2X _ _ _ _ _) k h3};{exact((xK _ _).uf ((Cj H _ B).uf λm=>a2X _ _ _ _ _)) k h3}
  ·obtain⟨h5,h6⟩:=xK _ _ _ h3;obtain⟨m,h7,h8⟩:=Cj H _ B _ h5;obtain⟨o,h9,h10⟩:=Jk H _ _ h7;cases o with
   |tok sz' top =>obtain⟨x,H',g1,g2⟩:=((xK _ _).uf (xY.and (a9H _ _ _ _ ((Lu H _ _).uf λH'=>xY.pure _ _)))) k h9;exact⟨x,H',g1,λk' hk'=>h6 _ (h8 _ (h10 _ (g2 k' hk')))⟩
   |_=>exact h9.elim
  exact h3.elim
 exact h1.elim
theorem ET(L:Lay)(b:Builtin)(ts:List Nat)(As:List AV)(H:Heap):xY (xP L b ts As H):=by
 intro k h;unfold xP at h ⊢;split at h;{exact((rU L _).uf λi=>(b2W _ _ _).with H) k h}
 ·obtain⟨i,h1,h2⟩:=rU L _ _ h;cases hi:i.desc with
  |slice e =>rw[hi]at h1;obtain⟨x,H',g1,g2⟩:=Xv L _ _ _ H k h1;exact⟨x,H',g1,λk' hk'=>h2 _ (by rw[hi];exact g2 k' hk')⟩
  |str =>rw[hi]at h1;obtain⟨x,H',g1,g2⟩:=Xv L _ _ _ H k h1;exact⟨x,H',g1,λk' hk'=>h2 _ (by rw[hi];exact g2 k' hk')⟩
  |_=>rw[hi]at h1;exact h1.elim
 ·exact((b2V _ _).with H) k h
 ·exact((b2U _ _).with H) k h
 exact h.elim
end Go.AL
namespace Go.AL
theorem OX(e:Env):∀(ps:List (Nat×Operand)) (zs:List AV),wu (zq e ps zs)
 | [],zs=>wu.pure zs
 |(i,x)::ps,zs=>by intro k h;simp only[zq]at h ⊢;obtain⟨A,h1,h2⟩:=sJ e x _ h;obtain⟨h3,h4⟩:=UN A _ h1;obtain⟨z,h5,h6⟩:=JV zs i _ h3;obtain⟨h7,h8⟩:=xK _ _ _ h5;have hs:wu λk=>Aa zs i A λzs'=>zq e ps zs' k:=(JR A zs i).bind λzs'=>OX e ps zs';cases hA:uG A <;> cases hz:uG z <;> rw[hA,hz]at h7;{obtain⟨l,g1,g2⟩:=hs k h7;exact⟨l,g1,λk' hk'=>h2 _ (h4 _ (h6 _ (h8 _ (by rw[hA,hz];exact g2 k' hk'))))⟩};{exact h7.elim};{exact h7.elim};obtain⟨l,g1,g2⟩:=hs k h7;exact⟨l,g1,λk' hk'=>h2 _ (h4 _ (h6 _ (h8 _ (by rw[hA,hz];exact g2 k' hk'))))⟩
theorem TW(e:Env):∀(ps:List (Nat×Operand)) (zs:List AV),wu (zO e ps zs)
 | [],zs=>wu.pure zs
 |(i,x)::ps,zs=>by intro k h;simp only[zO]at h ⊢;obtain⟨A,h1,h2⟩:=sJ e x _ h;obtain⟨z,h5,h6⟩:=JV zs i _ h1;obtain⟨h7,h8⟩:=xK _ _ _ h5;have hs:wu λk=>NT A λB=>Aa zs i B λzs'=>zO e ps zs' k:=(Xr A).bind λB=>(JR B zs i).bind λzs'=>TW e ps zs';cases hA:uG A <;> cases hz:uG z <;> rw[hA,hz]at h7;{obtain⟨l,g1,g2⟩:=hs k h7;exact⟨l,g1,λk' hk'=>h2 _ (h6 _ (h8 _ (by rw[hA,hz];exact g2 k' hk')))⟩};{exact h7.elim};{exact h7.elim};obtain⟨l,g1,g2⟩:=hs k h7;exact⟨l,g1,λk' hk'=>h2 _ (h6 _ (h8 _ (by rw[hA,hz];exact g2 k' hk')))⟩
def b7X(T:(AV->Heap->Prop)->(Heap->Prop)->Prop):Prop:=∀k ks,T k ks ->
 (∃A H',k A H'/\∀(k':AV->Heap->Prop) ks',k' A H'->T k' ks')\/(∃H',ks H'/\∀k' (ks':Heap->Prop),ks' H'->T k' ks')
theorem xY.o{T:(AV->Heap->Prop)->Prop}(h:xY T):b7X λk _=>T k:=by intro k ks hk;obtain⟨A,H',h1,h2⟩:=h k hk;exact .inl ⟨A,H',h1,λk' _ hk'=>h2 k' hk'⟩
theorem a9E{F:FT}(f:Nat)(args:List AV)(H:Heap):xY (IB F (λ_=>True) f args H):=by rintro k (⟨R,H',h,h'⟩|⟨Bs,R,hle,hb,h,h'⟩);{exact⟨R,H',h' trivial,λk' hk'=>.gen R H' h λ_=>hk'⟩};exact⟨R,H,h' trivial,λk' hk'=>.pure Bs R hle hb h λ_=>hk'⟩
theorem Qx(b:Bool):YB (Zy b):=by intro k h;obtain⟨h1,h2⟩:=H8.1 h;exact⟨h2,λk' hk'=>H8.2 ⟨h1,hk'⟩⟩
theorem a9C(es:List (AV×AV))(K:AV):wu (FW es K):=by rintro k ⟨r,h1,h2⟩;exact⟨r,h2,λk' hk'=>⟨r,h1,hk'⟩⟩
theorem b2S(es:List (AV×AV))(K V:AV):wu (b1B es K V):=by rintro k ⟨r,h1,h2⟩;exact⟨r,h2,λk' hk'=>⟨r,h1,hk'⟩⟩
theorem a6F(ok:Bool)(z:AV)(r:Option AV):wu (DI ok z r):=by unfold DI;cases ok <;> cases r <;> exact wu.pure _
theorem a9G(z:AV)(s:Nat)(A:AV)(ok:Bool):wu (b0s z s A ok):=by
 unfold b0s;cases A <;> cases ok <;> first|exact wu.no|exact wu.pure _|skip
 all_goals
  rename_i t y;dsimp only;cases Nat.beq t s <;> first|exact wu.no|exact wu.pure _
theorem a4m(L:Lay)(t:Nat)(A K V:AV)(H:Heap):wu (QT L t A K V H):=by
 refine(rU L t).bind λi=>?_;cases i.desc <;> first|exact wu.no|skip
 cases i.key <;> first|exact wu.no|skip
 refine(Qx _).bind ((DT L _ _).bind ?_);cases A <;> first|exact wu.no|skip
 refine(Jk H _).bind λo=>?_;cases o <;> first|exact wu.no|skip
 exact(Qx _).bind ((b2S _ _ _).bind λes'=>Lu H _ _)
theorem a2W {F:FT} {L:Lay} {op:Op} {e:Env} {H:Heap} (hn:F5 op=false):b7X (xI F (λ_=>True) L op e H):=by
 cases op with
 |move x=>exact((sJ e x).with H).o
 |assign x=>exact((sJ e x).with H).o
 | pick x y z =>
   refine((sJ e x).uf (U:=λC k=>match C with
   | .tt=>uw e y λA=>k A H
   | .ff=>uw e z λA=>k A H
   | .bool x=>(x=true->uw e y λA=>k A H)/\(x=false->uw e z λA=>k A H)
   | .dec p=>(p->uw e y λA=>k A H)/\(¬p->uw e z λA=>k A H)
   |_=>False) λC=>?_).o
   cases C with
   |tt=>exact(sJ e y).with H
   |ff=>exact(sJ e z).with H
   |bool b =>intro k h;obtain⟨A,h1,h2⟩:=(wu.b5r (b:=b) (sJ e y) (sJ e z)) (λA=>k A H) h;exact⟨A,H,h1,λk' hk'=>h2 (λA=>k' A H) hk'⟩
   |dec p =>intro k h;obtain⟨A,h1,h2⟩:=(wu.cases (p:=p) (sJ e y) (sJ e z)) (λA=>k A H) h;exact⟨A,H,h1,λk' hk'=>h2 (λA=>k' A H) hk'⟩
   |_=>exact xY.no
 |alloc t=>exact((rU L t).uf λi=>Qw H _).o
 |box t x=>exact((sJ e x).uf λA=>(DT L t A).uf (Qw H _)).o
 | build t ps =>
   refine((rU L t).uf (U:=λi k=>match i.desc,i.zero with
   | .struct _,.ag zs=>zq e ps.toList zs λl=>k (.ag l) H
   | .arr _ el,.ag zs=>L.sQ el λei=>BP (flat ei.zero) 1 (Zy (Qo zs) (zq e ps.toList zs λl=>k (.ag l) H))
   |_,_=>False) λi=>?_).o
   cases i.desc <;> cases i.zero <;> first|exact xY.no|exact((OX e _ _).map _).with H|exact(rU L _).uf λei=>(xK _ _).uf ((Qx _).uf (((OX e _ _).map _).with H))
 | buildSlice t n ps =>
   refine((rU L t).uf (U:=λi k=>match i.desc with
   | .slice el=>L.sQ el λei=>SE (n*flat ei.zero) 16777216 <| SE n 16777216 <| a8K ei.zero n λzs=>zO e ps.toList zs λl=>k (.sl (flat ei.zero) l .full) H
   |_=>False) λi=>?_).o
   cases i.desc <;> first|exact xY.no|exact(rU L _).uf λei=>(a6M _ _).uf ((a6M _ _).uf ((b2T _ _).uf λzs=>((TW e _ zs).map _).with H))
 |load t x=>exact((sJ e x).uf λA=>(Am L t A H).with H).o
 |store t x y =>intro k ks h;obtain⟨A,h1,h2⟩:=sJ e x _ h;obtain⟨B,h3,h4⟩:=sJ e y _ h1;obtain⟨H',h5,h6⟩:=a6D L t A B H _ h3;exact .inr ⟨H',h5,λk' ks' hk'=>h2 _ (h4 _ (h6 _ hk'))⟩
 | nilCheck x =>
   refine((sJ e x).uf (U:=λA k=>match A with
   | .ptr _ _ _=>k A H
   | .cp _=>k A H
   | .fn _ _=>k A H
   |_=>False) λA=>?_).o
   cases A <;> first|exact xY.no|exact xY.pure _ _
 | binOp op t x y ty =>
   intro k ks h;simp only[xI,hn]at h ⊢
   revert h
   revert k ks
   exact((sJ e x).uf λA=>(sJ e y).uf λB=>(rU L t).uf λi=>(a9F i _ _ A B (b2Y _ _ _ _ _)).with H).o
 | typeAssert x xt s ok =>
   clear hn;refine((sJ e x).uf (U:=λA k=>L.sQ s λi=>(match i.desc with
   | .iface=>False
   |_=>b0s i.zero s A ok λR=>k R H)) λA=>(rU L s).uf λi=>?_).o
   cases i.desc <;> first|exact xY.no|exact(a9G _ _ _ _).with H
 | makeMap t r =>
   clear hn;cases r with
   |none =>refine((rU L t).uf (U:=λi k=>match i.key with|some sh=>GH H (.tY sh []) λj H'=>k (.mp j) H'|none=>False) λi=>?_).o;cases i.key <;> first|exact xY.no|exact Qw H _
   |some x=>exact xY.no.o
 | lookup t x y ok =>
   clear hn;refine((sJ e x).uf λA=>(sJ e y).uf (U:=λK k=>L.sQ t λi=>(match i.desc,i.key with
   | .map _ et,some sh=>Zy (qU sh K) <| L.sQ et λei=>(match A with
     | .mp j=>yt H j λo=>(match o with
       | .tY sh' es=>Zy (qU sh' sh) <| FW es K λr=>DI ok ei.zero r λR=>k R H
       |_=>False)
     |_=>False)
   |_,_=>False)) λK=>(rU L t).uf λi=>?_).o
   cases i.desc <;> first|exact xY.no|skip
   cases i.key <;> first|exact xY.no|skip
   refine(Qx _).uf ((rU L _).uf λei=>?_);cases A <;> first|exact xY.no|skip
   refine(Jk H _).uf λo=>?_;cases o <;> first|exact xY.no|skip
   exact(Qx _).uf ((a9C _ _).uf λr=>(a6F _ _ r).with H)
 |mapUpdate t x y z =>clear hn;intro k ks h;simp only[xI]at h ⊢;obtain⟨A,h1,h2⟩:=sJ e x _ h;obtain⟨K,h3,h4⟩:=sJ e y _ h1;obtain⟨V,h5,h6⟩:=sJ e z _ h3;obtain⟨H',k1,k2⟩:=a4m L t A K V H _ h5;exact .inr ⟨H',k1,λk' ks' hk'=>h2 _ (h4 _ (h6 _ (k2 _ hk')))⟩
 | unOp op t x =>
   clear hn;refine((sJ e x).uf (U:=λA k=>match op,A with
   | .not,A=>KG A λR=>k R H
   | .neg,.int ka a=>arith ka (0-a) λR=>k R H
   |_,_=>False) λA=>?_).o
   cases op with
   |not=>exact(Qy A).with H
   |neg=>cases A <;> first|exact xY.no|exact(Sm _ _).with H
   |_=>exact xY.no
 | convert s d x =>
   refine((sJ e x).uf (U:=λA k=>L.sQ s λ_=>L.sQ d λi=>(match i.desc,A with
   | .int kd,.int _ n=>k (.int kd (kd.wrap n)) H
   | .str,.str s=>k (.str s) H
   |_,_=>False)) λA=>(rU L s).uf λ_=>(rU L d).uf λi=>?_).o
   cases i.desc <;> cases A <;> first|exact xY.no|exact xY.pure _ _
 | makeInterface t x =>
   refine((sJ e x).uf (U:=λA k=>L.sQ t λi=>(match i.desc with
   | .iface=>False
   |_=>Vt A (k (.uY t A) H))) λA=>(rU L t).uf λi=>?_).o
   cases i.desc <;> first|exact xY.no|exact(UN A).uf (xY.pure _ _)
 | makeFunc f first cap =>
   cases f with
   | func g =>
     cases hf:first.toList with
     |nil =>have:xY λk=>FD e cap.toList λAs=>Ti As (k (.fn g As) H):=(AA e _).uf λAs=>(Xp As).uf (xY.pure _ _);intro k ks h;simp only[xI,hf]at h ⊢;exact this.o k ks h
     |cons y l=>intro k ks h;simp only[xI,hf]at h
   |_=>intro k ks h;exact h.elim
 | makeSlice t x y =>
   refine((sJ e x).uf λA=>(sJ e y).uf (U:=λB k=>L.sQ t λi=>(match i.desc,A,B with
   | .slice el,.int _ n,.int _ m=>L.sQ el λei=>(0<=n/\n<=m/\m*(ei.bytes:Int)<=281474976710656/\m<=9223372036854775807) /\
     YC m.toNat n.toNat (flat ei.zero) ei.zero H k
   |_,_,_=>False)) λB=>(rU L t).uf λi=>?_).o
   cases i.desc <;> first|exact xY.no|skip
   cases A <;> first|exact xY.no|skip
   cases B <;> first|exact xY.no|skip
   exact(rU L _).uf λei=>xY.and (a9B _ _ _ _ _)
 | slice t x lo hi mx =>
   cases mx with
   |none=>exact((sJ e x).uf λA=>(a6E L t e A lo hi).with H).o
   |some y=>exact xY.no.o
 |fieldAddr t x f=>exact((sJ e x).uf λA=>(a6H L t A f).with H).o
 |indexAddr t x y=>exact((sJ e x).uf λA=>(sJ e y).uf λI=>(YR L t A I).with H).o
 |index t x y=>exact((sJ e x).uf λA=>(sJ e y).uf λI=>(a6G L t A I).with H).o
 | extract x i =>
   refine((sJ e x).uf (U:=λA k=>match A with
   | .uy l=>Hu l i λR=>k R H
   |_=>False) λA=>?_).o
   cases A <;> first|exact xY.no|exact(JV _ _).with H
 | call cl =>
   cases hc:cl.callee with
   | value f =>
     have:xY λk=>uw e f λA=>(match A with
      | .fn g cap=>FD e cl.args.toList λAs=>Y1 As cap λBs=>IB F (λ_=>True) g Bs H k
      | _=>False):=(sJ e f).uf λA=>by
        cases A <;> first|exact xY.no|exact(AA e _).uf λAs=>(UO As _).uf λBs=>a9E _ Bs H
     intro k ks h;simp only[xI,hc]at h ⊢;exact this.o k ks h
   |builtin b =>have:xY λk=>FD e cl.args.toList λAs=>xP L b cl.argTypes.toList As H k:=(AA e _).uf λAs=>ET L b _ As H;intro k ks h;simp only[xI,hc]at h ⊢;exact this.o k ks h
   |invoke r m=>intro k ks h;simp only[xI,hc]at h
 |_=>exact xY.no.o
end Go.AL
namespace Go.AL
theorem Qv{acc:List Nat}{i:Nat}:∀{l:List Edge} {s:Nat},(Jj acc l s).testBit i=true->s.testBit i=true\/∃e∈l,Region.binds .any e=true/\(e.on=i\/(acc.getD e.on 0).testBit i=true)
 | [],s,h=>.inl h
 | e::l,s,h=>by
   simp only[Jj]at h;rcases Qv h with h|⟨e',h1,h2⟩
   ·cases hb:Region.binds .any e with
    |false=>rw[hb]at h;exact .inl h
    |true =>rw[hb]at h;simp only[Nat.testBit_or,fP,lM,bT]at h;rcases h with(h|h)|h;{exact .inl h};{exact .inr ⟨e,ak,hb,.inl h⟩};exact .inr ⟨e,ak,hb,.inr h⟩
   exact .inr ⟨e',by simp[h1],h2⟩
theorem X6:∀{l:List Oper} {acc:List Nat} {j:Nat},j<acc.length->(LQ l acc)[j]? = acc[j]?
 | [],_,_,_=>rfl
 |o::l,acc,j,h=>by simp only[LQ];rw[X6 aA,bI h]
theorem a3u:∀{l:List Oper} {acc:List Nat} {m:Nat} {o:Oper},l[m]? = some o->∃pre,pre.length=acc.length+m/\(LQ l acc)[acc.length+m]? = some (Jj pre o.after.toList 0)/\∀j,j<acc.length+m->pre[j]? = (LQ l acc)[j]?
 | [],_,_,_,h=>by simp at h
 |o::l,acc,0,o',h=>by simp at h;subst h;refine⟨acc,rfl,?_,λj hj=>?_⟩;{simp only[LQ,dR];rw[X6 ak];simp};simp only[LQ];rw[X6 aA,bI aj]
 |o::l,acc,m+1,o',h=>by simp at h;obtain⟨pre,h1,h2,h3⟩:=a3u (acc:=acc++[Jj acc o.after.toList 0]) h;simp only[LQ];simp only[bC,jA]at h1 h2 h3;refine⟨pre,aj,?_,λj hj=>h3 j aj⟩;rw[show acc.length+(m+1)=acc.length+1+m by omega];exact h2
def Closed(ops:List Oper)(D:Nat->Prop):Prop:=∀j o,D j->ops[j]? = some o->∀e∈o.after.toList,Region.binds .any e=true->D e.on
theorem a1P{ops:List Oper}{D:Nat->Prop}(hD:Closed ops D){i:Nat}:∀(j:Nat) (o:Oper),ops[j]? = some o->(∀e∈o.after.toList,Region.binds .any e=true->D e.on) ->
  ((LQ ops []).getD j 0).testBit i=true->D i:=by
 intro j;induction j using Nat.strongRecOn with
 |_ j ih =>intro o ho he hb;obtain⟨pre,h1,h2,h3⟩:=a3u (acc:=[]) ho;simp only[jh,bH]at h1 h2 h3;rw[aF,h2]at hb;rcases Qv (s:=0) hb with h|⟨e,h4,h5,h6⟩;{simp at h};rcases h6 with rfl|h6;{exact he e h4 h5};by_cases hlt:e.on<j;{have hDe:=he e h4 h5;rw[aF,h3 _ hlt,<- aF]at h6;have hlt':e.on<ops.length:=(by have:=(aY.1 ho).1;omega);exact ih e.on hlt _ (aH hlt') (λe' he' hb'=>hD e.on _ hDe (aH hlt') e' he' hb') h6};rw[aF,gq aj]at h6;simp at h6
end Go.AL
namespace Go.AL
def b4i(T:Heap->(AV->Heap->Prop)->Prop):Prop:=∃U:(AV->Prop)->Prop,∀H k,T H k↔U λA=>k A H
theorem wP{α:Type}{V:(α->Prop)->Prop}{T:α->Heap->(AV->Heap->Prop)->Prop}(h:∀a,b4i (T a)):b4i λH k=>V λa=>T a H k:=by have hc:∃U:α->(AV->Prop)->Prop,∀a H k,T a H k↔U a λA=>k A H:=⟨λa=>(h a).choose,λa=>(h a).choose_spec⟩;obtain⟨U,hU⟩:=hc;refine⟨λk=>V λa=>U a k,λH k=>?_⟩;have:(λa=>T a H k)=λa=>U a λA=>k A H:=(by funext a;exact propext (hU a H k));show V (λa=>T a H k)↔_;rw[this]
theorem wY{U:(AV->Prop)->Prop}:b4i λH k=>U λA=>k A H:=⟨U,λ_ _=>jm⟩
theorem xJ:b4i λ_ _=>False:=⟨λ_=>False,λ_ _=>jm⟩
theorem a0e(L:Lay)(b:Builtin)(hb:b=.len\/b=.max\/b=.min)(ts:List Nat)(As:List AV):b4i λH k=>xP L b ts As H k:=by
 rcases hb with rfl|rfl|rfl
 ·match ts,As with
  |t::r,[A] =>refine wP (V:=L.sQ t) (T:=λi H k=>b0t i.desc A H λR=>k R H) λi=>?_;refine⟨λk=>b0t i.desc A [] k,λH k=>?_⟩;unfold b0t;exact jm
  | [],_=>exact xJ
  |_::_,[]=>exact xJ
  |_::_,_::_::_=>exact xJ
 ·match As with
  | [A,B]=>exact wY (U:=b2q A B)
  | []=>exact xJ
  | [_]=>exact xJ
  |_::_::_::_=>exact xJ
 match As with
 | [A,B]=>exact wY (U:=Us A B)
 | []=>exact xJ
 | [_]=>exact xJ
 |_::_::_::_=>exact xJ
theorem b2k{F:FT}{vV:AV->Prop}{L:Lay}{op:Op}{e:Env}(hn:Qc op=true)(hc:∀cl f,op=.call cl->cl.callee≠.value f)(hs:∀t x y,op≠.makeSlice t x y)(hap:∀cl,op=.call cl->cl.callee≠.builtin .append)(ks:Heap->Prop) :
  b4i λH k=>xI F vV L op e H k ks:=by
 cases op with
 |move x=>exact wY (U:=uw e x)
 |assign x=>exact wY (U:=uw e x)
 | pick x y z =>
   refine wP (V:=uw e x) (T:=λC H k=>match C with
   | .tt=>uw e y λA=>k A H
   | .ff=>uw e z λA=>k A H
   | .bool x=>(x=true->uw e y λA=>k A H)/\(x=false->uw e z λA=>k A H)
   | .dec p=>(p->uw e y λA=>k A H)/\(¬p->uw e z λA=>k A H)
   |_=>False) λC=>?_
   cases C with
   |tt=>exact wY (U:=uw e y)
   |ff=>exact wY (U:=uw e z)
   |bool b=>exact wY (U:=λk=>(b=true->uw e y k)/\(b=false->uw e z k))
   |dec p=>exact wY (U:=λk=>(p->uw e y k)/\(¬p->uw e z k))
   |_=>exact xJ
 | build t ps =>
   refine wP (V:=L.sQ t) (T:=λi H k=>match i.desc,i.zero with
   | .struct _,.ag zs=>zq e ps.toList zs λl=>k (.ag l) H
   | .arr _ el,.ag zs=>L.sQ el λei=>BP (flat ei.zero) 1 (Zy (Qo zs) (zq e ps.toList zs λl=>k (.ag l) H))
   |_,_=>False) λi=>?_
   cases i.desc <;> cases i.zero <;> first|exact xJ|exact wY (U:=λk=>zq e ps.toList _ λl=>k (.ag l))|exact wY (U:=λk=>L.sQ _ λei=>BP (flat ei.zero) 1 (Zy (Qo _) (zq e ps.toList _ λl=>k (.ag l))))
 | buildSlice t n ps =>
   refine wP (V:=L.sQ t) (T:=λi H k=>match i.desc with
   | .slice el=>L.sQ el λei=>SE (n*flat ei.zero) 16777216 <| SE n 16777216 <| a8K ei.zero n λzs=>zO e ps.toList zs λl=>k (.sl (flat ei.zero) l .full) H
   |_=>False) λi=>?_
   cases i.desc <;> first|exact xJ|exact wY (U:=λk=>L.sQ _ λei=>SE (n*flat ei.zero) 16777216 <| SE n 16777216 <| a8K ei.zero n λzs=>zO e ps.toList zs λl=>k (.sl (flat ei.zero) l .full))
 | nilCheck x =>
   refine wP (V:=uw e x) (T:=λA H k=>match A with
   | .ptr _ _ _=>k A H
   | .cp _=>k A H
   | .fn _ _=>k A H
   |_=>False) λA=>?_
   cases A <;> first|exact xJ|exact wY (U:=λk=>k _)
 | binOp op t x y ty =>
   clear hc hs hap;cases hb:F5 (.binOp op t x y ty)with
   |true =>simp only[xI,hb];refine wP (V:=uw e x) (T:=λA H k=>L.sQ t λi=>(match i.desc with | .slice _=>b4h op A λR=>k R H|_=>False)) λA=>wP (V:=L.sQ t) λi=>?_;cases i.desc <;> first|exact xJ|exact wY (U:=b4h op A)
   | false =>
     simp only[xI,hb];exact wY (U:=λk=>uw e x λA=>uw e y λB=>L.sQ t λi=>match uG A with
      |true=>b1o i op A B k
      |false=>SV i.desc op (Ah x||Ah y) A B k)
 | typeAssert x xt s ok =>
   refine wP (V:=uw e x) (T:=λA H k=>L.sQ s λi=>(match i.desc with
   | .iface=>False
   |_=>b0s i.zero s A ok λR=>k R H)) λA=>wP (V:=L.sQ s) λi=>?_
   cases i.desc <;> first|exact xJ|exact wY (U:=b0s i.zero s A ok)
 |makeSlice t x y=>exact absurd rfl (hs t x y)
 | unOp op t x =>
   clear hn hc hs hap;refine wP (V:=uw e x) (T:=λA H k=>match op,A with
   | .not,A=>KG A λR=>k R H
   | .neg,.int ka a=>arith ka (0-a) λR=>k R H
   |_,_=>False) λA=>?_
   cases op with
   |not=>exact wY (U:=KG A)
   |neg=>cases A <;> first|exact xJ|exact wY (U:=arith _ _)
   |_=>exact xJ
 | convert s d x =>
   refine wP (V:=uw e x) (T:=λA H k=>L.sQ s λ_=>L.sQ d λi=>(match i.desc,A with
   | .int kd,.int _ n=>k (.int kd (kd.wrap n)) H
   | .str,.str s=>k (.str s) H
   |_,_=>False)) λA=>wP (V:=L.sQ s) λ_=>wP (V:=L.sQ d) λi=>?_
   cases i.desc <;> cases A <;> first|exact xJ|exact wY (U:=λk=>k _)
 | makeInterface t x =>
   refine wP (V:=uw e x) (T:=λA H k=>L.sQ t λi=>(match i.desc with
   | .iface=>False
   |_=>Vt A (k (.uY t A) H))) λA=>wP (V:=L.sQ t) λi=>?_
   cases i.desc <;> first|exact xJ|exact wY (U:=λk=>Vt A (k (.uY t A)))
 | makeFunc f first cap =>
   cases f with
   | func g =>
     cases hf:first.toList with
     |nil =>refine⟨λk=>FD e cap.toList λAs=>Ti As (k (.fn g As)),λH k=>?_⟩;simp only[xI,hf]
     |cons y l=>refine⟨λ_=>False,λH k=>?_⟩;simp only[xI,hf]
   |_=>exact xJ
 | slice t x lo hi mx =>
   cases mx with
   |none=>exact wY (U:=λk=>uw e x λA=>aslice L t e A lo hi k)
   |some y=>exact xJ
 |fieldAddr t x f=>exact wY (U:=λk=>uw e x λA=>SN L t A f k)
 |indexAddr t x y=>exact wY (U:=λk=>uw e x λA=>uw e y λI=>Es L t A I k)
 |index t x y=>exact wY (U:=λk=>uw e x λA=>uw e y λI=>SL L t A I k)
 | extract x i =>
   refine wP (V:=uw e x) (T:=λA H k=>match A with
   | .uy l=>Hu l i λR=>k R H
   |_=>False) λA=>?_
   cases A <;> first|exact xJ|exact wY (U:=Hu _ i)
 | call cl =>
   cases hcl:cl.callee with
   |value f=>exact absurd hcl (hc cl f rfl)
   |invoke r m=>simp[Qc,hcl]at hn
   | builtin b =>
     have hb:b=.len\/b=.max\/b=.min:=by have:=hap cl rfl;simp only[Qc,hcl]at hn;cases b <;> first|(exact absurd hcl this)|(simp at hn;done)|simp
     obtain⟨U,hU⟩:=wP (V:=FD e cl.args.toList) (T:=λAs H k=>xP L b cl.argTypes.toList As H k) λAs=>a0e L b hb _ As;refine⟨U,λH k=>?_⟩;simp only[xI,hcl];exact hU H k
 |_=>simp[Qc]at hn
end Go.AL
namespace Go.AL
theorem a3y{F:FT}{L:Lay}{op:Op}{e:Env}{H:Heap}{k:AV->Heap->Prop}{ks:Heap->Prop}(O O':AV->Prop)(hc:∀cl f,op=.call cl->cl.callee≠.value f) :
  xI F O L op e H k ks↔xI F O' L op e H k ks:=by
 cases op with
 | call cl =>
   cases hcl:cl.callee with
   |value f=>exact absurd hcl (hc cl f rfl)
   |_=>simp only[xI,hcl]
 |_=>exact jm
theorem a2j{sz:Nat}{B:AV}{H:Heap}{k:List AV->Prop}(h:Ov [] sz B k):Ov H sz B k:=by unfold Ov at h ⊢;split at h;{exact h};{exact h};{exact h.elim};{exact h};exact h.elim
theorem a1S{L:Lay}{ts:List Nat}{As:List AV}{H:Heap}{K:AV->Prop}(h:xP L .append ts As [] λA H'=>H'=[]/\K A) :
  xP L .append ts As H λA H'=>K A/\H'=H:=by
 have ap0:∀{sz bytes:Nat} {l m:List AV},Oq sz bytes l m [] (λA H'=>H'=[]/\K A)->Oq sz bytes l m H λA H'=>K A/\H'=H:=(by rintro sz bytes l m (⟨h1,h2,h3⟩|⟨h1,h2,h3⟩);{have:=(wF.1 h3).1;cases this};exact .pure h1 h2 ⟨h3.2,rfl⟩);have app:∀{t:Nat} {A B:AV},AP L t A B [] (λA H'=>H'=[]/\K A)->AP L t A B H λA H'=>K A/\H'=H:=(by intro t A B h;unfold AP at h ⊢;obtain⟨i,h1,h2⟩:=rU L t _ h;refine h2 _ ?_;split at h1;{obtain⟨ei,h3,h4⟩:=rU L _ _ h1;refine h4 _ ?_;split at h3;{obtain⟨m,h5,h6⟩:=Cj [] _ B _ h3;exact a2j (h6 _ (ap0 h5))};{obtain⟨h5,h6⟩:=xK _ _ _ h3;refine h6 _ ?_;obtain⟨m,h7,h8⟩:=Cj [] _ B _ h5;exact a2j (h8 _ (ap0 h7))};{obtain⟨h5,h6⟩:=xK _ _ _ h3;obtain⟨m,h7,h8⟩:=Cj [] _ B _ h5;exact h7.elim};exact h3.elim};exact h1.elim);unfold xP at h ⊢;split at h;{rename_i hb;cases hb};{obtain⟨i,h1,h2⟩:=rU L _ _ h;refine h2 _ ?_;split at h1;{exact app h1};{exact app h1};exact h1.elim};{rename_i hb;cases hb};{rename_i hb;cases hb};exact h.elim
theorem Gn{op:Op}{k:Prop}:noNil op k↔F5 op=false/\k:=by unfold noNil;cases F5 op <;> simp
theorem a7K{F:FT}{L:Lay}{op:Op}{e:Env}{K:AV->Prop}(hn:ZB op=true)(h:O7 F L op e K)(H:Heap) :
  xI F Ok L op e H (λA H'=>K A/\H'=H) (λ_=>False):=by
 by_cases hld:∃t x,op=.load t x;{obtain⟨t,x,rfl⟩:=hld;have h:uw e x λA=>Ap L t A [] λR=>K R:=h;show uw e x λA=>Ap L t A H λR=>K R/\H=H;obtain⟨A,h1,h2⟩:=sJ _ _ _ h;refine h2 _ ?_;obtain⟨R,h3,h4⟩:=Am _ _ _ _ _ h1;have h5:=h4 (λR'=>K R'/\H=H) ⟨h3,rfl⟩;unfold Ap at h5 ⊢;split at h5;{exact h5};{exact h5.elim};exact h5.elim};have hn:Qc op=true:=by
  unfold ZB at hn;rcases Bool.or_eq_true_iff.1 hn with h|h;{exact h};exfalso;cases op with
  |load t x=>exact hld ⟨t,x,rfl⟩
  |_=>simp[tu]at h
 have gen:(∀cl f,op=.call cl->cl.callee≠.value f)->(∀t x y,op≠.makeSlice t x y)->(∀cl,op=.call cl->cl.callee≠.builtin .append)->xI F (λ_=>True) L op e [] (λA _=>K A) (λ_=>False)->xI F Ok L op e H (λA H'=>K A/\H'=H) (λ_=>False):=by
  intro hc hs hap h;obtain⟨U,hU⟩:=b2k (F:=F) (vV:=λ_=>True) (L:=L) (e:=e) hn hc hs hap (λ_=>False);rw[a3y Ok (λ_=>True) hc];have h1:=(hU [] _).1 h;refine(hU H _).2 ?_;have:(λA=>K A/\H=H)=K:=by funext A;simp
  rw[this];exact h1
 have b8u:(∀cl f,op=.call cl->cl.callee≠.value f)->(∀t x y,op≠.makeSlice t x y)->(∀cl,op=.call cl->cl.callee≠.builtin .append)->(noNil op <| xI F (λ_=>True) L op e [] (λA _=>K A) (λ_=>False))->xI F Ok L op e H (λA H'=>K A/\H'=H) (λ_=>False) :=
  λhc hs hap h=>gen hc hs hap (Gn.1 h).2
 cases op with
 | call cl =>
   cases hcl:cl.callee with
   | value f =>
     simp only[O7,hcl]at h;simp only[xI,hcl];obtain⟨A,h1,h2⟩:=sJ e f _ h;cases A with
     |fn g cap =>obtain⟨As,h3,h4⟩:=AA e _ _ h1;obtain⟨Bs,h5,h6⟩:=UO As cap _ h3;obtain⟨Cs,R,hle,hb,hF,hK⟩:=h5;exact h2 _ (h4 _ (h6 _ (.pure Cs R hle hb hF λ_=>⟨hK,rfl⟩)))
     |_=>exact h1.elim
   |builtin b =>by_cases hb:b=.append;{subst hb;simp only[O7,hcl]at h;simp only[xI,hcl];obtain⟨As,h3,h4⟩:=AA e _ _ h;exact h4 _ (a1S h3)};refine gen (λcl' f he=>by cases he;rw[hcl];simp) (λ_ _ _ he=>by cases he) (λcl' he=>by cases he;rw[hcl];simpa using hb) ?_;simp only[xI,hcl];cases b <;> first|exact absurd rfl hb|(simp only[O7,hcl]at h;exact h)
   |invoke r m=>simp[Qc,hcl]at hn
 |makeSlice t x y =>simp only[O7]at h;simp only[xI];obtain⟨A,h1,h2⟩:=sJ e x _ h;refine h2 _ ?_;obtain⟨B,h3,h4⟩:=sJ e y _ h1;refine h4 _ ?_;obtain⟨i,h5,h6⟩:=rU L t _ h3;refine h6 _ ?_;split at h5;{obtain⟨ei,⟨h7,h8,h9⟩,h10⟩:=rU L _ _ h5;exact h10 _ ⟨h7,.pure ⟨h8,h9,rfl⟩⟩};exact h5.elim
 |_=>exact b8u (λcl' f he=>by cases he) (λ_ _ _ he=>by cases he) (λcl' he=>by cases he) h
theorem a1x{F:FT}{L:Lay}{op:Op}{e:Env}:wu (O7 F L op e):=by
 have gen:wu λK=>noNil op <| xI F (λ_=>True) L op e [] (λA _=>K A) (λ_=>False):=(by intro K h;obtain⟨hn,h⟩:=Gn.1 h;rcases a2W hn _ _ h with⟨A,H',h1,h2⟩|⟨H',h1,_⟩;{exact⟨A,h1,λk' hk'=>Gn.2 ⟨hn,h2 _ _ hk'⟩⟩};exact h1.elim);cases op with
 | call cl =>
   cases hcl:cl.callee with
   | value f =>
     intro K h;simp only[O7,hcl]at h ⊢;obtain⟨A,h1,h2⟩:=sJ e f _ h;cases A with
     |fn g cap =>obtain⟨As,h3,h4⟩:=AA e _ _ h1;obtain⟨Bs,h5,h6⟩:=UO As cap _ h3;obtain⟨Cs,R,hle,hb,hF,hK⟩:=h5;exact⟨R,hK,λk' hk'=>h2 _ (h4 _ (h6 _ (.pure Cs R hle hb hF hk')))⟩
     |_=>exact h1.elim
   | builtin b =>
     intro K h;by_cases hb:b=.append;{subst hb;simp only[O7,hcl]at h ⊢;obtain⟨As,h3,h4⟩:=AA e _ _ h;obtain⟨A,H',h5,h6⟩:=ET L .append _ As [] _ h3;exact⟨A,h5.2,λk' hk'=>h4 _ (h6 _ ⟨h5.1,hk'⟩)⟩};have key:∀K:AV->Prop,O7 F L (.call cl) e K↔FD e cl.args.toList λAs=>xP L b cl.argTypes.toList As [] λA _=>K A:=by intro K;cases b <;> first|exact absurd rfl hb|(simp only[O7,hcl])
     obtain⟨As,h3,h4⟩:=AA e _ _ ((key K).1 h);obtain⟨A,H',h5,h6⟩:=ET L b _ As [] _ h3;exact⟨A,h5,λk' hk'=>(key k').2 (h4 _ (h6 _ hk'))⟩
   |invoke r m=>intro K h;simp only[O7,hcl]at h
 |makeSlice t x y =>refine(sJ e x).bind λA=>(sJ e y).bind λB=>(rU L t).bind λi=>?_;split;{refine(rU L _).bind λei=>?_;rintro K ⟨h7,h8,h9⟩;exact⟨_,h9,λk' hk'=>⟨h7,h8,hk'⟩⟩};exact wu.no
 |_=>exact gen
end Go.AL
namespace Go.AL
structure Rec where
 o:Oper
 nb:Bool
 ran:Bool
 e:Env
 A:AV
 H:Heap
 H':Heap
def uO(e e':Env):Prop:=∀t A',vk e' t=some A'->∃A,vk e t=some A/\∀c v,EV c A v->EV c A' v
theorem uO.refl(e:Env):uO e e:=λ_ A h=>⟨A,h,λ_ _ h=>h⟩
def Dq(ops:List Oper)(g:Option (Nat×Bool))(e:Env)(b:Bool):Prop :=
 match g with
 |none=>b=true
 |some (j,want)=>∃oj d A,ops[j]? = some oj/\oj.dst=some d/\vk e d=some A/\∀c v,EV c A v->(∃x,v=.bool x/\b=(x==want))\/(v=undef/\b=false)
def KT(dst:Option Nat)(A:AV)(e:Env):Env:=match dst with|some d=>(d,A)::e|none=>e
theorem Dz{dst:Option Nat}{A:AV}{e:Env}{k:Env->Prop}:CO dst A e k↔k (KT dst A e):=by cases dst <;> exact jm
def Does(F:FT)(L:Lay)(r:Rec):Prop :=
 (r.nb=true/\r.H'=r.H/\∀K:AV->Prop,K r.A->O7 F L r.o.op r.e K) \/
 (r.nb=false/\∀(k:AV->Heap->Prop) ks,k r.A r.H'->xI F (λ_=>True) L r.o.op r.e r.H k ks) \/
 (r.nb=false/\r.o.dst=none/\∀k (ks:Heap->Prop),ks r.H'->xI F (λ_=>True) L r.o.op r.e r.H k ks)
def FV (F:FT) (L:Lay) (ops:List Oper):List Rec->Env->Heap->Env->Heap->Prop
 | [],e,H,ef,Hf=>ef=e/\Hf=H
 |r::l,e,H,ef,Hf=>r.H=H/\uO e r.e/\Dq ops r.o.guard e r.ran/\(r.ran=true->Does F L r)/\(r.ran=false->r.A=.uy []/\r.H'=H) /\
    FV F L ops l (KT r.o.dst r.A r.e) r.H' ef Hf
theorem Kr{c:Cx}{v:Value}(h:v=.bool true):EV c .tt v:=by subst h;exact sD (vG rfl rfl (by simp only[VR,Rd]))
theorem Kt{c:Cx}{v:Value}(h:v=.bool false):EV c .ff v:=by subst h;exact sD (vG rfl rfl (by simp only[VR,Rd]))
theorem Dk{e:Env}{d:Nat}{A A':AV}(h:vk e d=some A)(hA:∀c v,EV c A v->EV c A' v):uO e ((d,A')::e):=by
 intro t B hB;simp only[vk]at hB;cases hb:Nat.beq d t with
 |true =>rw[hb]at hB;obtain rfl:=aJ hb;obtain rfl:=aW hB;exact⟨A,h,hA⟩
 |false=>rw[hb]at hB;exact⟨B,hB,λ_ _ h=>h⟩
theorem OQ{ops:List Oper}{g:Option (Nat×Bool)}{e:Env}{yes no:Env->Prop}(h:zX ops g e yes no) :
  ∃e' b,uO e e'/\Dq ops g e b/\(b=true->yes e')/\(b=false->no e'):=by
 unfold zX at h;split at h;{exact⟨e,true,.refl e,rfl,λ_=>h,λh=>by cases h⟩};rename_i j b;obtain⟨oj,d,h1,h2,h3⟩:=Xl h;obtain⟨A,h4,h5⟩:=yC.1 h3;have say:∀(x:Bool),(∀c v,EV c A v->v=.bool x)->Dq ops (some (j,b)) e (x==b):=λx hx=>⟨oj,d,A,h1,h2,h4,λc v hv=>.inl ⟨x,hx c v hv,rfl⟩⟩;split at h5;{exact⟨e,true,.refl e,by simpa using say true λc v hv=>LY hv,λ_=>h5,λh=>by cases h⟩};{exact⟨e,false,.refl e,by simpa using say true λc v hv=>LY hv,(λh=>by cases h),λ_=>h5⟩};{exact⟨e,false,.refl e,by simpa using say false λc v hv=>LZ hv,(λh=>by cases h),λ_=>h5⟩};{exact⟨e,true,.refl e,by simpa using say false λc v hv=>LZ hv,λ_=>h5,λh=>by cases h⟩}
 ·rename_i x;cases x with
  |true=>exact⟨_,true,Dk h4 λc v hv=>Kr (yF hv),by simpa using say true λc v hv=>yF hv,λ_=>h5.1 rfl,λh=>by cases h⟩
  |false=>exact⟨_,false,Dk h4 λc v hv=>Kt (yF hv),by simpa using say false λc v hv=>yF hv,(λh=>by cases h),λ_=>h5.2 rfl⟩
 ·rename_i x;cases x with
  |true=>exact⟨_,false,Dk h4 λc v hv=>Kr (yF hv),by simpa using say true λc v hv=>yF hv,(λh=>by cases h),λ_=>h5.1 rfl⟩
  |false=>exact⟨_,true,Dk h4 λc v hv=>Kt (yF hv),by simpa using say false λc v hv=>yF hv,λ_=>h5.2 rfl,λh=>by cases h⟩
 ·rename_i p;have dt:p->∀c v,EV c (.dec p) v->v=.bool true:=λhp c v hv=>(by obtain⟨x,e1,e2⟩:=CZ hv;rw[e2.2 hp]at e1;exact e1);have df:¬p->∀c v,EV c (.dec p) v->v=.bool false:=λhp c v hv=>by
   obtain⟨x,e1,e2⟩:=CZ hv;cases x with
   |true=>exact absurd (e2.1 rfl) hp
   |false=>exact e1
  by_cases hp:p;{exact⟨_,true,Dk h4 λc v hv=>Kr (dt hp c v hv),by simpa using say true (dt hp),λ_=>h5.1 hp,λh=>by cases h⟩};exact⟨_,false,Dk h4 λc v hv=>Kt (df hp c v hv),by simpa using say false (df hp),(λh=>by cases h),λ_=>h5.2 hp⟩
 ·rename_i p;have dt:p->∀c v,EV c (.dec p) v->v=.bool true:=λhp c v hv=>(by obtain⟨x,e1,e2⟩:=CZ hv;rw[e2.2 hp]at e1;exact e1);have df:¬p->∀c v,EV c (.dec p) v->v=.bool false:=λhp c v hv=>by
   obtain⟨x,e1,e2⟩:=CZ hv;cases x with
   |true=>exact absurd (e2.1 rfl) hp
   |false=>exact e1
  by_cases hp:p;{exact⟨_,false,Dk h4 λc v hv=>Kr (dt hp c v hv),by simpa using say true (dt hp),(λh=>by cases h),λ_=>h5.1 hp⟩};exact⟨_,true,Dk h4 λc v hv=>Kt (df hp c v hv),by simpa using say false (df hp),λ_=>h5.2 hp,λh=>by cases h⟩
 ·exact⟨e,false,.refl e,⟨oj,d,_,h1,h2,h4,λc v hv=>.inr ⟨a8o hv,rfl⟩⟩,(λh=>by cases h),λ_=>h5⟩
 exact h5.elim
theorem Hl{F:FT}{L:Lay}{ops:List Oper}{k:Env->Heap->Prop}:∀{l:List (Oper×Bool)} {e:Env} {H:Heap},FH F L ops l e H k ->
  ∃rs ef Hf,rs.map (λr=>(r.o,r.nb))=l/\FV F L ops rs e H ef Hf/\k ef Hf
 | [],e,H,h=>⟨[],e,H,rfl,⟨rfl,rfl⟩,h⟩
 | (o,nb)::l,e,H,h=>by
   simp only[FH]at h;obtain⟨e',b,h1,h2,h3,h4⟩:=OQ h;cases b with
   |false =>obtain⟨rs,ef,Hf,g1,g2,g3⟩:=Hl (Dz.1 (h4 rfl));exact⟨⟨o,nb,false,e',.uy [],H,H⟩::rs,ef,Hf,by simp[g1],⟨rfl,h1,h2,(λh=>by cases h),λ_=>⟨rfl,rfl⟩,g2⟩,g3⟩
   | true =>
     have h3:=h3 rfl;cases nb with
     |true =>obtain⟨A,h5,h6⟩:=a1x _ h3;obtain⟨rs,ef,Hf,g1,g2,g3⟩:=Hl (Dz.1 h5);exact⟨⟨o,true,true,e',A,H,H⟩::rs,ef,Hf,by simp[g1],⟨rfl,h1,h2,(λ_=>.inl ⟨rfl,rfl,h6⟩),(λh=>by cases h),g2⟩,g3⟩
     | false =>
       obtain⟨hn,h3⟩:=Gn.1 h3;rcases a2W hn _ _ h3 with⟨A,H',h5,h6⟩|⟨H',h5,h6⟩;{obtain⟨rs,ef,Hf,g1,g2,g3⟩:=Hl (Dz.1 h5);exact⟨⟨o,false,true,e',A,H,H'⟩::rs,ef,Hf,by simp[g1],⟨rfl,h1,h2,(λ_=>.inr (.inl ⟨rfl,h6⟩)),(λh=>by cases h),g2⟩,g3⟩};cases hd:o.dst with
       |some d=>simp only[hd]at h5
       |none =>simp only[hd]at h5;obtain⟨rs,ef,Hf,g1,g2,g3⟩:=Hl h5;refine⟨⟨o,false,true,e',.und,H,H'⟩::rs,ef,Hf,by simp[g1],⟨rfl,h1,h2,(λ_=>.inr (.inr ⟨rfl,hd,h6⟩)),(λh=>by cases h),?_⟩,g3⟩;simpa[KT,hd]using g2
end Go.AL
namespace Go.AL
theorem uO.trans{a b c:Env}(h:uO a b)(g:uO b c):uO a c:=by intro t A hA;obtain⟨B,h1,h2⟩:=g t A hA;obtain⟨C,h3,h4⟩:=h t B h1;exact⟨C,h3,λc v hv=>h2 c v (h4 c v hv)⟩
theorem uO.push{a b:Env}(h:uO a b)(d:Option Nat)(A:AV):uO (KT d A a) (KT d A b):=by
 cases d with
 |none=>exact h
 | some d =>
   intro t B hB;simp only[KT,vk]at hB ⊢;cases hb:Nat.beq d t with
   |true=>rw[hb]at hB;exact⟨B,hB,λ_ _ h=>h⟩
   |false=>rw[hb]at hB;exact h t B hB
theorem Dq.refine{ops:List Oper}{g:Option (Nat×Bool)}{e e':Env}{b:Bool}(h:uO e e')(hg:Dq ops g e' b):Dq ops g e b:=by unfold Dq at hg ⊢;split;{exact hg};obtain⟨oj,d,A,h1,h2,h3,h4⟩:=hg;obtain⟨B,h5,h6⟩:=h d A h3;exact⟨oj,d,B,h1,h2,h5,λc v hv=>h4 c v (h6 c v hv)⟩
def E0:List Rec->Env->Nat->Env
 | [],e,_=>e
 |_::_,e,0=>e
 |r::l,e,j+1=>E0 l (KT r.o.dst r.A e) j
def Hs:List Rec->Heap->Nat->Heap
 | [],H,_=>H
 |_::_,H,0=>H
 |r::l,_,j+1=>Hs l r.H' j
section
variable{F:FT}{L:Lay}{ops:List Oper}
theorem xX:∀{rs:List Rec} {e0 e:Env} {H:Heap} {ef:Env} {Hf:Heap} {j:Nat} {r:Rec},FV F L ops rs e H ef Hf->uO e0 e->rs[j]? = some r ->
  r.H=Hs rs H j/\uO (E0 rs e0 j) r.e/\Dq ops r.o.guard (E0 rs e0 j) r.ran/\(r.ran=true->Does F L r)/\(r.ran=false->r.A=.uy []/\r.H'=r.H)
 | [],_,_,_,_,_,_,_,_,_,h=>by simp at h
 |x::l,e0,e,H,ef,Hf,0,r,hr,hre,h=>by simp at h;subst h;obtain⟨h1,h2,h3,h4,h5,_⟩:=hr;exact⟨h1,hre.trans h2,h3.refine hre,h4,λh=>⟨(h5 h).1,(h5 h).2.trans h1.symm⟩⟩
 |x::l,e0,e,H,ef,Hf,j+1,r,hr,hre,h=>by obtain⟨h1,h2,h3,h4,h5,h6⟩:=hr;have:=xX (rs:=l) (j:=j) h6 ((hre.trans h2).push x.o.dst x.A) (by simpa using h);exact this
theorem a0S:∀{rs:List Rec} {e0 e:Env} {H:Heap} {ef:Env} {Hf:Heap},FV F L ops rs e H ef Hf->uO e0 e->uO (E0 rs e0 rs.length) ef/\Hf=Hs rs H rs.length
 | [],e0,e,H,ef,Hf,hr,hre=>by obtain⟨rfl,rfl⟩:=hr;exact⟨hre,rfl⟩
 |x::l,e0,e,H,ef,Hf,hr,hre=>by obtain⟨h1,h2,h3,h4,h5,h6⟩:=hr;have:=a0S (rs:=l) h6 ((hre.trans h2).push x.o.dst x.A);exact this
theorem Ko:∀{rs:List Rec} {H:Heap} {j:Nat} {r:Rec},rs[j]? = some r->Hs rs H (j+1)=r.H'
 | [],_,_,_,h=>by simp at h
 |x::l,H,0,r,h=>by simp at h;subst h;cases l <;> rfl
 |x::l,H,j+1,r,h=>by simp only[Hs];exact Ko (by simpa using h)
theorem b30{rs:List Rec}{H:Heap}:Hs rs H 0=H:=by cases rs <;> rfl
theorem a8r:∀{rs:List Rec} {e:Env} {j t:Nat} {A:AV},j<=rs.length->vk (E0 rs e j) t=some A ->
  (∃i r,i<j/\rs[i]? = some r/\r.o.dst=some t/\r.A=A/\∀i' r',i'<j->rs[i']? = some r'->r'.o.dst=some t->i'<=i) \/
  ((∀i r,i<j->rs[i]? = some r->r.o.dst≠some t)/\vk e t=some A)
 | [],e,j,t,A,hj,h=>by simp at hj;subst hj;exact .inr ⟨λi r hi=>aj,h⟩
 |x::l,e,0,t,A,_,h=>.inr ⟨λi r hi=>aj,h⟩
 | x::l,e,j+1,t,A,hj,h=>by
   simp only[E0]at h;rcases a8r (by simpa using hj) h with⟨i,r,h1,h2,h3,h4,h5⟩|⟨h1,h2⟩
   ·refine .inl ⟨i+1,r,aj,by simpa using h2,h3,h4,λi' r' hi' hr' hd'=>?_⟩;cases i' with
    |zero=>omega
    |succ i'=>have:=h5 i' r' aj (by simpa using hr') hd';omega
   by_cases hx:x.o.dst=some t
   ·rw[hx]at h2;simp only[KT,vk,Nat.beq_refl]at h2;refine .inl ⟨0,x,aj,rfl,hx,aW h2,λi' r' hi' hr' hd'=>?_⟩;cases i' with
    |zero=>omega
    |succ i'=>exact absurd hd' (h1 i' r' aj (by simpa using hr'))
   refine .inr ⟨λi r hi hr=>?_,?_⟩
   ·cases i with
    |zero=>simp at hr;subst hr;exact hx
    |succ i=>exact h1 i r aj (by simpa using hr)
   cases hd:x.o.dst with
   |none=>rw[hd]at h2;exact h2
   | some d =>
     rw[hd]at h2;simp only[KT,vk]at h2;cases hb:Nat.beq d t with
     |true=>exact absurd (by rw[hd,aJ hb]) hx
     |false=>rw[hb]at h2;exact h2
end
end Go.AL
namespace Go.AL
theorem Ny{F:FT}{L:Lay}{op:Op}{e:Env}{H:Heap}{k:AV->Heap->Prop}{ks:Heap->Prop}(h:xI F (λ_=>True) L op e H k ks):xI F Ok L op e H k ks:=by
 by_cases hc:∀cl f,op=.call cl->cl.callee≠.value f;{exact(a3y _ _ hc).1 h};have hc':∃cl f,op=.call cl/\cl.callee=.value f:=by apply aS;intro hn;exact hc λcl f h1 h2=>hn ⟨cl,f,h1,h2⟩
 obtain⟨cl,f,rfl,hcl⟩:=hc';simp only[xI,hcl]at h ⊢;obtain⟨A,h1,h2⟩:=sJ e f _ h;cases A with
 | fn g cap =>
   obtain⟨As,h3,h4⟩:=AA e _ _ h1;obtain⟨Bs,h5,h6⟩:=UO As cap _ h3;cases h5 with
   |gen R H' hF hK=>exact h2 _ (h4 _ (h6 _ (.gen R H' hF λ_=>hK trivial)))
   |pure Cs R hle hb hF hK=>exact h2 _ (h4 _ (h6 _ (.pure Cs R hle hb hF λ_=>hK trivial)))
 |_=>exact h1.elim
structure zu(X:Nat->Nat->Prop)(ops:List Oper)(rs:List Rec):Prop where
 len:rs.length=ops.length
 get:∀(j:Nat) (r:Rec),rs[j]? = some r->ops[j]? = some r.o
 b76:∀(j:Nat) (r:Rec),rs[j]? = some r->r.nb=true->ZB r.o.op=true
 back:∀(j:Nat) (o:Oper),ops[j]? = some o->∀e∈o.after.toList,Region.binds .any e=true->e.on<j
 first:∀(i j:Nat) (ri rj:Rec),i<j->rs[i]? = some ri->rs[j]? = some rj->Eo ops (ri.o,ri.nb) (rj.o,rj.nb)=true->((LQ ops []).getD j 0).testBit i=true\/X i j
 exm:∀(i j:Nat) (ri rj:Rec),X i j->rs[i]? = some ri->rs[j]? = some rj->(tu ri.o.op=true/\ri.nb=false\/(ri.nb=false/\tu ri.o.op=false)/\tu rj.o.op=true/\rj.nb=false/\(ops.all λo=>!BF o.op)=true)/\True/\(∀t,ri.o.dst=some t->t ∉ uM ops rj.o)/\∀t,rj.o.dst=some t->t ∉ uM ops ri.o
 b7A:∀(j:Nat) (r:Rec),rs[j]? = some r->r.nb=false->BF r.o.op=true->r.o.guard=none/\∃d,r.o.dst=some d
 late:∀(i j k:Nat) (ri rj rk:Rec) (d:Nat),i<j->j<k->rs[i]? = some ri->rs[j]? = some rj->rs[k]? = some rk->ri.nb=false->tu ri.o.op=false->rj.nb=false->BF rj.o.op=true->rj.o.dst=some d ->
  d∈uM ops rk.o->((LQ ops []).getD j 0).testBit i=true\/((LQ ops []).getD k 0).testBit i=true
theorem uh{α:Type}{l:List α}{p:α×Nat->Bool}(h:l.zipIdx.all p=true){j:Nat}{x:α}(hx:l[j]? = some x):p (x,j)=true:=by rw[bD]at h;apply h;rw[List.mem_zipIdx_iff_getElem?];simpa using hx
theorem a9z{ops:List Oper}{mask:List Bool}{rs:List Rec}(h:TV ops mask=true)(hm:rs.map (λr=>(r.o,r.nb))=ops.zip mask):zu (λ_ _=>False) ops rs:=by
 unfold TV at h;simp only[aK]at h;obtain⟨⟨⟨⟨h1,h2⟩,h3⟩,h5⟩,h4⟩:=h;have hlen:=aJ h1;have hget:∀(j:Nat) (r:Rec),rs[j]? = some r->(ops.zip mask)[j]? = some (r.o,r.nb):=by intro j r hr;rw[<- hm,dS,hr];rfl
 refine⟨?_,λj r hr=>?_,λj r hr hn=>?_,λj o ho e he hb=>?_,λi j ri rj hij hi hj hc=>.inl ?_,λ_ _ _ _ h=>h.elim,λj r hr hn hw=>?_,λi j k ri rj rk d hij hjk hi hj hk hn hl hn' hw hd hm=>?_⟩;{have:=kR List.length hm;simp at this;omega};{have:=hget j r hr;rw[l7]at this;exact this.1};{have:=bD.1 h2 _ (bP (hget j r hr));simpa[hn]using this};{have:=uh h3 ho;have:=bD.1 this e he;rw[hb]at this;simpa using this};{have:=uh h4 (hget j rj hj);have:=uh this (hget i ri hi);have hlt:Nat.blt i j=true:=(by simpa using hij);simp only[hlt,hc,fV,fD]at this;exact this}
 ·have:=uh h5 (hget j r hr);simp only[hn,hw,jy,jq,fV,fD,aK]at this;obtain⟨g1,g2⟩:=this;refine⟨?_,?_⟩
  ·cases hg:r.o.guard with
   |none=>rfl
   |some g=>rw[hg]at g1;cases g1
  cases hd:r.o.dst with
  |none=>rw[hd]at g2;cases g2
  |some d=>exact⟨d,rfl⟩
 have:=uh h5 (hget j rj hj);simp only[hn',hw,jy,jq,fV,fD,aK,hd]at this;have:=uh this.2 (hget i ri hi);have hlt:Nat.blt i j=true:=(by simpa using hij);have hlt2:Nat.blt j k=true:=(by simpa using hjk);simp only[hlt,hn,hl,fV,fD,fP]at this;rcases this with this|this;{exact .inl this};have:=uh this (hget k rk hk);have hc:(uM ops rk.o).contains d=true:=(by simpa using hm);simp only[hlt2,hc,fV,fD]at this;exact .inr this
section
variable{X:Nat->Nat->Prop}{ops:List Oper}{rs:List Rec}{listed:Array Bool}
def rD(listed:Array Bool)(j:Nat):Prop:=listed.getD j false=true
theorem WQ{j i:Nat}(hj:j<listed.size):rD (listed.setIfInBounds j true) i↔i=j\/rD listed i:=by unfold rD;by_cases hij:i=j;{subst hij;simp[hj]};simp[hij,iO (Ne.symm hij)]
theorem BL(hd:zu X ops rs)(hc:Closed ops (rD listed)){i j:Nat}{ri rj:Rec}(hij:i<j)(hi:rs[i]? = some ri)(hj:rs[j]? = some rj)
  (hcl:Eo ops (ri.o,ri.nb) (rj.o,rj.nb)=true) (hx:¬X i j) (hje:∀e∈rj.o.after.toList,Region.binds .any e=true->rD listed e.on):rD listed i :=
 a1P hc j rj.o (hd.get j rj hj) hje ((hd.first i j ri rj hij hi hj hcl).resolve_right hx)
theorem BU(hd:zu X ops rs)(hc:Closed ops (rD listed)){i j:Nat}{ri rj:Rec}(hij:i<j)(hi:rs[i]? = some ri)(hj:rs[j]? = some rj)
  (hcl:Eo ops (ri.o,ri.nb) (rj.o,rj.nb)=true) (hx:¬X i j) (hl:rD listed j):rD listed i :=
 BL hd hc hij hi hj hcl hx (hc j rj.o hl (hd.get j rj hj))
def eff(r:Rec):Bool:=!r.nb && !tu r.o.op
theorem zu.nx1(hd:zu X ops rs){i j:Nat}{ri rj:Rec}(hi:rs[i]? = some ri)(hj:rs[j]? = some rj){t:Nat}(h:ri.o.dst=some t)(ht:t∈uM ops rj.o):¬X i j :=
 λx=>(hd.exm i j ri rj x hi hj).2.2.1 t h ht
theorem zu.nx2(hd:zu X ops rs){i j:Nat}{ri rj:Rec}(hi:rs[i]? = some ri)(hj:rs[j]? = some rj){t:Nat}(h:rj.o.dst=some t)(ht:t∈uM ops ri.o):¬X i j :=
 λx=>(hd.exm i j ri rj x hi hj).2.2.2 t h ht
theorem zu.nxe(hd:zu X ops rs){i j:Nat}{ri rj:Rec}(hi:rs[i]? = some ri)(hj:rs[j]? = some rj)(h:eff ri=true)(h':eff rj=true):¬X i j:=by intro x;rcases(hd.exm i j ri rj x hi hj).1 with g|g;{simp[eff,g.1]at h};simp[eff,g.2.1]at h'
theorem zu.nxl(hd:zu X ops rs){i j:Nat}{ri rj:Rec}(hi:rs[i]? = some ri)(hj:rs[j]? = some rj)(h:eff ri=true)(x:X i j):tu rj.o.op=true/\(ops.all λo=>!BF o.op)=true:=by rcases(hd.exm i j ri rj x hi hj).1 with g|g;{simp[eff,g.1]at h};exact⟨g.2.1,g.2.2.2⟩
theorem Gt{x y:Rec}(hx:eff x=true)(hy:y.nb=false):(BF y.o.op=false->(tu y.o.op=false\/Uy x.o.op=false\/(ops.all λo=>!BF o.op)=false)->Eo ops (x.o,x.nb) (y.o,y.nb)=true)/\(BF x.o.op=false->(tu y.o.op=false\/Pm x.o.op=false)->Eo ops (y.o,y.nb) (x.o,x.nb)=true):=by simp only[eff,aK,dU]at hx;refine⟨λh hn=>?_,λhn h=>?_⟩;{unfold Eo;rcases hn with hn|hn|hn <;> simp only[hx.1,hx.2,hy,h,hn,jy,Bool.and_true,Bool.false_and,kX,nV]};have ha:Uy y.o.op=true->tu x.o.op=false:=λ_=>hx.2;rcases h with h|h <;> simp[Eo,hx.1,hx.2,hy,h,hn]
theorem Np{x y:Rec}{t:Nat}(hx:x.o.dst=some t)(hy:t∈uM ops y.o):Eo ops (x.o,x.nb) (y.o,y.nb)=true/\Eo ops (y.o,y.nb) (x.o,x.nb)=true:=by constructor <;> simp[Eo,hx,hy]
end
structure Free(c:Cx)(H:Heap)(b:Nat):Prop where
 lt:b<c.w.heap.size
 own:∀x∈H,ru c x≠some b
 im:∀o,¬c.Im b o
theorem Free.tr{c d:Cx}{H H':Heap}{b:Nat}(h:Free c H b)(t:Tr c H d H'):Free d H' b/\d.w.heap[b]? = c.w.heap[b]?:=by have h1:=h.lt;refine⟨⟨by have:=t.size;omega,λy hy hb=>?_,λo ho=>?_⟩,t.fr b h1 h.own⟩;{rcases t.own y hy b hb with h2|⟨x,h2,h3⟩;{omega};exact h.own x h2 h3};rcases t.imb b o ho with h2|h2|⟨x,h2,h3⟩;{exact h.im o h2};{omega};exact h.own x h2 h3
inductive SpB(b:Nat):Obj->Value->HO->(Nat->AV)->Prop
 |box {cs:List Value} {ty:Nat} {z:AV} (h:∀c:Cx,VR c z cs):SpB b (.cells cs.toArray ty) (.pointer (some ⟨b,0,none⟩)) (.box z) (λj=>.ptr j [] 0)
 |map {sh:AV}:SpB b (.map #[] 0) (.map (some b)) (.tY sh []) .mp
def Cx.adopt(c:Cx)(H:Heap)(b:Nat)(z:HO):Cx:={ c with ρ:=λk=>if k=c.nx then b else c.ρ k,nx:=c.nx+1,tp:=uj ((nextId H,z)::H) }
theorem Tr.adopt{c0 c:Cx}{H0 H:Heap}(tr:Tr c0 H0 c H){b:Nat}(hf:Free c H b)(h0:c0.w.heap.size<=b){o:Obj}{v:Value}{z:HO}{f:Nat->AV}(hh:c.w.heap[b]? = some o)(hz:SpB b o v z f) :
  Tr c0 H0 (c.adopt H b z) ((nextId H,z)::H)/\c.Le (c.adopt H b z)/\EV (c.adopt H b z) (f (nextId H)) v/\∀b',b'≠b->Free c H b'->Free (c.adopt H b z) ((nextId H,z)::H) b':=by
 have hr:=tr.hr;have hlt:∀x∈H,x.1<c.nx:=λx hx=>(by rw[hr.nx];exact sK hr.ids x hx);have le:c.Le (c.adopt H b z):=(by refine⟨λb x h=>⟨h,rfl⟩,mF _,λk hk=>?_,λk n hk hn=>?_⟩;{simp only[Cx.adopt];rw[aB aj]};refine .inl ⟨?_,rfl⟩;have:nextId H≠k:=(by rw[<- hr.nx];omega);simp only[Cx.adopt]at hn;rw[Bz this]at hn;rw[hr.tp];exact hn);have hbk:∀x∈H,ru (c.adopt H b z) x=ru c x:=λx hx=>Bl (le.ρ _ (hlt x hx)) rfl;have hρ:(c.adopt H b z).ρ (nextId H)=b:=(by simp only[Cx.adopt];rw[aG hr.nx.symm]);have hnew:ru (c.adopt H b z) (nextId H,z)=some b:=by
  have:ru (c.adopt H b z) (nextId H,z)=some ((c.adopt H b z).ρ (nextId H)):=by cases hz <;> rfl
  rw[this,hρ]
 refine⟨⟨⟨?_,rfl,?_,?_,?_,?_⟩,tr.le.trans le,tr.os,tr.tape,tr.output,tr.size,tr.fr,?_,tr.imb⟩,le,?_,?_⟩;{simp only[Cx.adopt,nextId,hr.nx]};{exact⟨λx hx=>sK hr.ids x hx,hr.ids⟩};{exact hr.im}
 ·intro x hx;rcases aU.1 hx with rfl|hx
  ·cases hz with
   | @box cs ty z hz =>refine⟨cs,ty,?_,hz _,?_⟩;{rw[hρ];exact hh};rw[hρ];exact hf.im
   |map =>refine⟨#[],0,?_,rfl,trivial,ak,ak⟩;rw[hρ];exact hh
  exact DZ le (hlt x hx) rfl (λb hb=>⟨rfl,λy hy=>hy⟩) (hr.ok x hx)
 ·rw[eY];constructor;{intro y hy b' hb hb';rw[hnew]at hb;obtain rfl:=aW hb;rw[hbk y hy]at hb';exact hf.own y hy hb'};exact BD hr.apart λx hx y hy h b hb=>by rw[hbk y hy];rw[hbk x hx]at hb;exact h b hb
 ·intro y hy b' hb;rcases aU.1 hy with rfl|hy;{rw[hnew]at hb;obtain rfl:=aW hb;exact .inl h0};rw[hbk y hy]at hb;exact tr.own y hy b' hb
 ·have hlt':nextId H<(c.adopt H b z).nx:=(by simp only[Cx.adopt,hr.nx];omega);cases hz with
  |box hz =>have:=Js (c:=c.adopt H b _) (i:=nextId H) (off:=0) (p:=[]) hlt';rw[hρ]at this;exact sD this
  |map =>refine sD (vG rfl rfl ?_);simp only[VR];exact⟨hlt',by rw[hρ]⟩
 intro b' hne h;refine⟨h.lt,λy hy hb=>?_,h.im⟩;rcases aU.1 hy with rfl|hy;{rw[hnew]at hb;exact hne (aW hb).symm};rw[hbk y hy]at hb;exact h.own y hy hb
structure b7V(c0:Cx)(a:Act)(c:Cx)(H:Heap)(r:Rec)(b:Nat):Prop where
 b6B:BF r.o.op=true
 free:Free c H b
 low:c0.w.heap.size<=b
 cells:∃o v z f,c.w.heap[b]? = some o/\SpB b o v z f/\r.H'=(nextId r.H,z)::r.H/\r.A=f (nextId r.H)/\∀d,r.o.dst=some d->a.tmps.getD d undef=v
structure Jv(ops:List Oper)(rs:List Rec)(c0:Cx)(H0:Heap)(e:Env)(a0:Act)(n:Nat)(listed:Array Bool)(m:Nat)(a:Act)(c:Cx)(pd:Nat->Nat):Prop where
 size:listed.size=ops.length
 closed:Closed ops (rD listed)
 mle:m<=rs.length
 below:∀(j:Nat) (r:Rec),j<m->rs[j]? = some r->eff r=true->rD listed j
 above:∀(j:Nat) (r:Rec),m<=j->rs[j]? = some r->eff r=true->rD listed j->b7V c0 a c (Hs rs H0 m) r (pd j)
 inj:∀(i j:Nat) (ri rj:Rec),m<=i->m<=j->rs[i]? = some ri->rs[j]? = some rj->eff ri=true->eff rj=true->rD listed i->rD listed j->pd i=pd j->i=j
 tr:Tr c0 H0 c (Hs rs H0 m)
 old:∀(t:Nat) (A:AV),(∀(j:Nat) (r:Rec),rD listed j->rs[j]? = some r->r.o.dst≠some t)->vk e t=some A->EV c A (a.tmps.getD t undef)
 new:∀(t j:Nat) (r:Rec),rD listed j->rs[j]? = some r->r.o.dst=some t->(∀(i:Nat) (ri:Rec),rD listed i->rs[i]? = some ri->ri.o.dst=some t->i<=j)->(eff r=true->j<m)->EV c r.A (a.tmps.getD t undef)
 defers:a.defers=[]
 a8x:a.tmps.size=n
 fr:Fr (rX ops) a0 a
def Adv(rs:List Rec)(listed:Array Bool)(m:Nat):Prop :=
 ∀(j:Nat) (r:Rec),m<=j->rs[j]? = some r->eff r=true->rD listed j->∃(x:Nat) (rx:Rec),m<=x/\x<j/\rs[x]? = some rx/\eff rx=true/\¬rD listed x
end Go.AL
namespace Go.AL
def sub(e:Env):List Operand->Env
 | []=>[]
 | .tmp t::l=>match vk e t with|some A=>(t,A)::sub e l|none=>sub e l
 | .const _::l=>sub e l
 | .func _::l=>sub e l
 | .global _::l=>sub e l
theorem JE{e:Env}:∀{l:List Operand} {t:Nat} {A:AV},vk (sub e l) t=some A->vk e t=some A/\Operand.tmp t∈l
 | [],_,_,h=>by simp[sub,vk]at h
 | .tmp s::l,t,A,h=>by
   simp only[sub]at h;cases hs:vk e s with
   |none=>rw[hs]at h;have:=JE h;exact⟨this.1,by simp[this.2]⟩
   | some B =>
     rw[hs]at h;simp only[vk]at h;cases hb:Nat.beq s t with
     |true =>rw[hb]at h;obtain rfl:=aJ hb;obtain rfl:=aW h;exact⟨hs,ak⟩
     |false=>rw[hb]at h;have:=JE h;exact⟨this.1,by simp[this.2]⟩
 | .const _::l,t,A,h=>by have:=JE (l:=l) h;exact⟨this.1,by simp[this.2]⟩
 | .func _::l,t,A,h=>by have:=JE (l:=l) h;exact⟨this.1,by simp[this.2]⟩
 | .global _::l,t,A,h=>by have:=JE (l:=l) h;exact⟨this.1,by simp[this.2]⟩
theorem MF{e:Env}{A:AV}{t:Nat}(he:vk e t=some A):∀{l:List Operand},Operand.tmp t∈l->vk (sub e l) t=some A
 | [],h=>by simp at h
 | .tmp s::l,h=>by
   simp only[sub];cases hs:vk e s with
   | none =>
     have:t≠s:=λe'=>by subst e';rw[he]at hs;cases hs
     exact MF he (l:=l) (by simpa[this]using h)
   | some B =>
     simp only[vk];cases hb:Nat.beq s t with
     |true =>obtain rfl:=aJ hb;rw[hs]at he;exact he
     |false =>have:t≠s:=λe'=>xw hb e'.symm;exact MF he (l:=l) (by simpa[this]using h)
 | .const _::l,h=>MF he (l:=l) (by simpa using h)
 | .func _::l,h=>MF he (l:=l) (by simpa using h)
 | .global _::l,h=>MF he (l:=l) (by simpa using h)
theorem a8A{e:Env}{l:List Operand}:J6 l (sub e l) e:=by
 intro t ht;cases he:vk e t with
 |some A=>exact MF he ht
 | none =>
   cases hs:vk (sub e l) t with
   |none=>rfl
   |some B=>rw[(JE hs).1]at he;cases he
theorem GX{t:Nat}:∀{l:List Operand},Operand.tmp t∈l->t∈Wi l
 | [],h=>by simp at h
 | .tmp s::l,h=>by simp only[Wi,aU];rcases aU.1 h with h|h;{exact .inl (by cases h;rfl)};exact .inr (GX h)
 | .const _::l,h=>GX (l:=l) (by simpa using h)
 | .func _::l,h=>GX (l:=l) (by simpa using h)
 | .global _::l,h=>GX (l:=l) (by simpa using h)
theorem ED{d:Nat}:∀{l:List Oper} {o:Oper},o∈l->o.dst=some d->d∈rX l
 | [],_,h,_=>by simp at h
 | x::l,o,h,hd=>by
   simp only[rX];rcases aU.1 h with h|h;{subst h;rw[hd];simp};cases x.dst with
   |none=>exact ED h hd
   |some d'=>exact cZ _ (ED h hd)
section
variable{F:FT}{L:Lay}{ops:List Oper}{rs:List Rec}
theorem Vg{e:Env}{H:Heap}{ef:Env}{Hf:Heap}(hr:FV F L ops rs e H ef Hf){p:Nat}:∀(q:Nat),p<=q->q<=rs.length ->
  (∀j r,p<=j->j<q->rs[j]? = some r->r.H'=r.H)->Hs rs H p=Hs rs H q
 | 0,hpq,_,_=>by obtain rfl:p=0:=aj;rfl
 |q+1,hpq,hq,h=>by by_cases hp:p=q+1;{rw[hp]};have hlt:q<rs.length:=aj;have hr':=xX hr (uO.refl e) (aH hlt);rw[Ko (aH hlt),h q _ aj aj (aH hlt),hr'.1];exact Vg hr q aj aj λj r h1 h2 h3=>h j r h1 aj h3
theorem BH{e:Env}{H:Heap}{ef:Env}{Hf:Heap}(hr:FV F L ops rs e H ef Hf){j:Nat}{r:Rec}(hj:rs[j]? = some r)(he:eff r=false):r.H'=r.H:=by
 have hr':=xX hr (uO.refl e) hj;cases Jh:r.ran with
 |false=>exact(hr'.2.2.2.2 Jh).2
 | true =>
   rcases hr'.2.2.2.1 Jh with⟨_,h,_⟩|⟨hn,h⟩|⟨hn,_,h⟩;{exact h}
   ·have hl:tu r.o.op=true:=(by simpa[eff,hn]using he);cases ho:r.o.op with
    |load t x =>rw[ho]at h;have:=h (λA H'=>A=r.A/\H'=r.H') (λ_=>False) ⟨rfl,rfl⟩;simp only[xI]at this;obtain⟨A,h1,_⟩:=sJ _ _ _ this;obtain⟨R,h2,_⟩:=Am _ _ _ _ _ h1;exact h2.2.symm
    |_=>simp[ho,tu]at hl
   have hl:tu r.o.op=true:=(by simpa[eff,hn]using he);cases ho:r.o.op with
   |load t x =>rw[ho]at h;have:=h (λ_ _=>False) (λH'=>H'=r.H') rfl;simp only[xI]at this;obtain⟨A,h1,_⟩:=sJ _ _ _ this;obtain⟨R,h2,_⟩:=Am _ _ _ _ _ h1;exact h2.elim
   |_=>simp[ho,tu]at hl
end
section
variable{F:FT}{L:Lay}{ops:List Oper}{rs:List Rec}
def b5O:HO->Bool
 | .box _=>true
 | .arr ..=>true
 |_=>false
def Keep(H H':Heap):Prop:=∀y∈H,b5O y.2=true->y∈H'
theorem Keep.refl(H:Heap):Keep H H:=λ_ h _=>h
theorem Keep.cons(x:Nat×HO)(H:Heap):Keep H (x::H):=λ_ h _=>cZ _ h
theorem Keep.set{o':HO}{j:Nat}{o:HO}(hb:b5O o=false):∀{H:Heap},hget H j=some o->Keep H (hset H j o')
 | [],h=>by simp[hget]at h
 | (i,p)::H,h=>by
   simp only[hget]at h;simp only[hset];intro y hy hby
   cases hbq:Nat.beq i j with
   | true =>
     rw[hbq]at h;obtain rfl:=aW h;rcases aU.1 hy with rfl|hy
     ·rw[hb]at hby;cases hby
     exact cZ _ hy
   |false =>rw[hbq]at h;rcases aU.1 hy with rfl|hy;{exact dD};exact cZ _ (Keep.set hb h y hy hby)
theorem a0O{sz bytes:Nat}{l m:List AV}{H X:Heap}(h:Oq sz bytes l m H λ_ H'=>H'=X):Keep H X:=by
 cases h with
 |tok _ _ next=>rw[<- wF.1 next];exact .cons _ _
 |pure _ _ next=>rw[<- next];exact .refl _
theorem Ud{t:Nat}{A B:AV}{H X:Heap}(h:AP L t A B H λ_ H'=>H'=X):Keep H X:=by unfold AP at h;obtain⟨i,h,_⟩:=rU _ _ _ h;split at h;{obtain⟨ei,h,_⟩:=rU _ _ _ h;split at h;{obtain⟨m,h,_⟩:=Cj _ _ _ _ h;exact a0O h};{obtain⟨_,h⟩:=sW.1 h;obtain⟨m,h,_⟩:=Cj _ _ _ _ h;exact a0O h};{obtain⟨_,h⟩:=sW.1 h;obtain⟨m,h,_⟩:=Cj _ _ _ _ h;obtain⟨o,h1,h⟩:=uo.1 h;split at h;{obtain⟨_,_,h⟩:=sW.1 h;have h:=(yB.1 h.next).2;rw[<- h];exact Keep.set rfl h1};exact h.elim};exact h.elim};exact h.elim
theorem a0J{ts:List Nat}{As:List AV}{H X:Heap}(h:xP L .append ts As H λ_ H'=>H'=X):Keep H X:=by
 unfold xP at h;split at h;all_goals first|(rename_i h0;cases h0;done)|skip
 all_goals first|exact h.elim|skip
 all_goals
  obtain⟨i,h,_⟩:=rU _ _ _ h;split at h;{exact Ud h};{exact Ud h};exact h.elim
theorem Keep.b4p{x:Nat×HO}(hb:b5O x.2=false)(H:Heap):Keep (x::H) H:=λy h hy=>by rcases aU.1 h with rfl|h;{rw[hb]at hy;cases hy};exact h
theorem Keep.unset{o':HO}{j:Nat}(hb:b5O o'=false):∀{H:Heap},Keep (hset H j o') H
 | []=>.refl _
 | (i,p)::H=>by
   simp only[hset];intro y hy hby
   cases hbq:Nat.beq i j with
   | true =>
     rw[hbq]at hy;rcases aU.1 hy with rfl|hy
     ·rw[hb]at hby;cases hby
     exact cZ _ hy
   |false =>rw[hbq]at hy;rcases aU.1 hy with rfl|hy;{exact dD};exact cZ _ (Keep.unset hb y hy hby)
theorem a0P{sz bytes:Nat}{l m:List AV}{H X:Heap}(h:Oq sz bytes l m H λ_ H'=>H'=X):Keep X H:=by
 cases h with
 |tok _ _ next=>rw[<- wF.1 next];exact .b4p rfl _
 |pure _ _ next=>rw[<- next];exact .refl _
theorem Ue{t:Nat}{A B:AV}{H X:Heap}(h:AP L t A B H λ_ H'=>H'=X):Keep X H:=by unfold AP at h;obtain⟨i,h,_⟩:=rU _ _ _ h;split at h;{obtain⟨ei,h,_⟩:=rU _ _ _ h;split at h;{obtain⟨m,h,_⟩:=Cj _ _ _ _ h;exact a0P h};{obtain⟨_,h⟩:=sW.1 h;obtain⟨m,h,_⟩:=Cj _ _ _ _ h;exact a0P h};{obtain⟨_,h⟩:=sW.1 h;obtain⟨m,h,_⟩:=Cj _ _ _ _ h;obtain⟨o,h1,h⟩:=uo.1 h;split at h;{obtain⟨_,_,h⟩:=sW.1 h;have h:=(yB.1 h.next).2;rw[<- h];exact Keep.unset rfl};exact h.elim};exact h.elim};exact h.elim
theorem a0K{ts:List Nat}{As:List AV}{H X:Heap}(h:xP L .append ts As H λ_ H'=>H'=X):Keep X H:=by
 unfold xP at h;split at h;all_goals first|(rename_i h0;cases h0;done)|skip
 all_goals first|exact h.elim|skip
 all_goals
  obtain⟨i,h,_⟩:=rU _ _ _ h;split at h;{exact Ue h};{exact Ue h};exact h.elim
theorem a3w{e:Env}{H:Heap}{ef:Env}{Hf:Heap}(hr:FV F L ops rs e H ef Hf){j:Nat}{r:Rec}(hj:rs[j]? = some r)(ha:Uy r.o.op=true):Keep r.H' r.H:=by
 have hr':=xX hr (uO.refl e) hj;cases Jh:r.ran with
 |false=>rw[(hr'.2.2.2.2 Jh).2];exact .refl _
 | true =>
   cases ho:r.o.op with
   | call c =>
     have hc:c.callee=.builtin .append:=by
      rw[ho]at ha;simp only[Uy]at ha;split at ha
      ·assumption
      cases ha
     rcases hr'.2.2.2.1 Jh with⟨_,h,_⟩|⟨hn,h⟩|⟨hn,_,h⟩;{rw[h];exact .refl _};{rw[ho]at h;have:=h (λ_ H'=>H'=r.H') (λ_=>False) rfl;simp only[xI,hc]at this;obtain⟨As,h1,_⟩:=AA _ _ _ this;exact a0K h1};rw[ho]at h;have:=h (λ_ _=>False) (λH'=>H'=r.H') rfl;simp only[xI,hc]at this;obtain⟨As,h1,_⟩:=AA _ _ _ this;obtain⟨_,_,h2,_⟩:=ET _ _ _ _ _ _ h1;exact h2.elim
   |_=>simp[ho,Uy]at ha
theorem a4H{e:Env}{H:Heap}{ef:Env}{Hf:Heap}(hr:FV F L ops rs e H ef Hf){j:Nat}{r:Rec}(hj:rs[j]? = some r)(ha:Pm r.o.op=true):Keep r.H r.H':=by
 have hr':=xX hr (uO.refl e) hj;cases Jh:r.ran with
 |false=>rw[(hr'.2.2.2.2 Jh).2];exact .refl _
 | true =>
   cases ho:r.o.op with
   |alloc t =>rcases hr'.2.2.2.1 Jh with⟨_,h,_⟩|⟨hn,h⟩|⟨hn,_,h⟩;{rw[h];exact .refl _};{rw[ho]at h;have:=h (λA H'=>A=r.A/\H'=r.H') (λ_=>False) ⟨rfl,rfl⟩;simp only[xI]at this;obtain⟨i,h1,_⟩:=rU _ _ _ this;rw[<- (wF.1 h1).2];exact .cons _ _};rw[ho]at h;have:=h (λ_ _=>False) (λH'=>H'=r.H') rfl;simp only[xI]at this;obtain⟨i,h1,_⟩:=rU _ _ _ this;exact(wF.1 h1).elim
   | call c =>
     have hc:c.callee=.builtin .append:=by
      rw[ho]at ha;simp only[Pm]at ha;split at ha
      ·assumption
      cases ha
     rcases hr'.2.2.2.1 Jh with⟨_,h,_⟩|⟨hn,h⟩|⟨hn,_,h⟩;{rw[h];exact .refl _};{rw[ho]at h;have:=h (λ_ H'=>H'=r.H') (λ_=>False) rfl;simp only[xI,hc]at this;obtain⟨As,h1,_⟩:=AA _ _ _ this;exact a0J h1};rw[ho]at h;have:=h (λ_ _=>False) (λH'=>H'=r.H') rfl;simp only[xI,hc]at this;obtain⟨As,h1,_⟩:=AA _ _ _ this;obtain⟨_,_,h2,_⟩:=ET _ _ _ _ _ _ h1;exact h2.elim
   |makeMap t z =>rcases hr'.2.2.2.1 Jh with⟨_,h,_⟩|⟨hn,h⟩|⟨hn,_,h⟩;{rw[h];exact .refl _};{rw[ho]at h;have:=h (λA H'=>A=r.A/\H'=r.H') (λ_=>False) ⟨rfl,rfl⟩;simp only[xI]at this;split at this;{obtain⟨i,h1,_⟩:=rU _ _ _ this;split at h1;{rw[<- (wF.1 h1).2];exact .cons _ _};exact h1.elim};exact this.elim};rw[ho]at h;have:=h (λ_ _=>False) (λH'=>H'=r.H') rfl;simp only[xI]at this;split at this;{obtain⟨i,h1,_⟩:=rU _ _ _ this;split at h1;{exact(wF.1 h1).elim};exact h1.elim};exact this.elim
   |_=>simp[ho,Pm]at ha
theorem a13{e:Env}{H:Heap}{ef:Env}{Hf:Heap}(hr:FV F L ops rs e H ef Hf){p:Nat}:∀(q:Nat),p<=q->q<=rs.length ->
  (∀j r,p<=j->j<q->rs[j]? = some r->Keep r.H' r.H)->Keep (Hs rs H q) (Hs rs H p)
 | 0,hpq,_,_,y,hy,_=>by obtain rfl:p=0:=aj;exact hy
 |q+1,hpq,hq,h,y,hy,hb=>by by_cases hp:p=q+1;{rw[hp];exact hy};have hlt:q<rs.length:=aj;have hr':=xX hr (uO.refl e) (aH hlt);rw[Ko (aH hlt)]at hy;have:=h q _ aj aj (aH hlt) y hy hb;rw[hr'.1]at this;exact a13 hr q aj aj (λj r h1 h2 h3=>h j r h1 aj h3) y this hb
theorem a4G{t:Nat}{A:AV}{H H':Heap}{k:AV->Prop}(hs:Keep H H')(hi:uS H')(h:Ap L t A H k):Ap L t A H' k:=by
 unfold Ap at h ⊢;split at h;{exact h}
 ·obtain⟨o,h1,h2⟩:=uo.1 h;have hb:b5O o=true:=by
   cases o with
   |box _=>rfl
   |arr _ _ _=>rfl
   |_=>exact h2.elim
  exact uo.2 ⟨o,EO hi (hs _ (wV h1) hb),h2⟩
 exact h.elim
end
def cnt(listed:Array Bool):Nat:=listed.toList.countP λb=>!b
theorem Oe:∀{l:List Bool} {i:Nat},l[i]? = some false->(l.set i true).countP (λb=>!b)<l.countP (λb=>!b)
 | [],_,h=>by simp at h
 |x::l,0,h=>by simp at h;subst h;simp
 |x::l,i+1,h=>by have:=Oe (l:=l) (i:=i) (by simpa using h);simp only[jL,iE];omega
theorem a1A{listed:Array Bool}{i:Nat}(hi:i<listed.size)(h:¬rD listed i):cnt (listed.setIfInBounds i true)<cnt listed:=by unfold cnt;rw[Array.toList_setIfInBounds];refine Oe ?_;unfold rD at h;rw[dH]at h;rw[bG,fB hi];rw[fB hi]at h;simpa using h
theorem LD{listed:Array Bool}(h:cnt listed=0){i:Nat}(hi:i<listed.size):rD listed i:=by apply aS;intro hn;have:=a1A hi hn;omega
theorem I9{ops:Array Oper}{listed:Array Bool}(hs:listed.size=ops.size){i:Nat} :
  i∈Region.ready .any ops listed↔∃o,ops[i]? = some o/\¬rD listed i/\∀e∈o.after.toList,Region.binds .any e=true->rD listed e.on:=by
 unfold Region.ready;rw[dZ,iy];constructor;{rintro⟨h1,h2⟩;simp only[aK]at h2;have hx:=fB h1;refine⟨ops[i],hx,?_,?_⟩;{unfold rD;rw[dH];have hi:i<listed.size:=aj;have:=h2.1;rw[dH,fB hi]at this;rw[fB hi];simpa using this};intro e he hb;have:=h2.2;rw[hx]at this;simp only[iI,mP]at this;rw[<- Array.all_toList,bD]at this;have:=this e he;rw[hb]at this;simpa[rD]using this};rintro⟨o,h1,h2,h3⟩;have hi:i<ops.size:=(dG.1 h1).1;refine⟨hi,?_⟩;simp only[aK];refine⟨?_,?_⟩;{unfold rD at h2;have hi:i<listed.size:=aj;rw[dH,fB hi]at h2;rw[dH,fB hi];simpa using h2};rw[h1];simp only[iI,mP];rw[<- Array.all_toList,bD];intro e he;cases hb:Region.binds .any e with
 |false=>rfl
 |true=>simpa[rD]using h3 e he hb
theorem ready_nil{ops:Array Oper}{listed:Array Bool}(hs:listed.size=ops.size)(hback:∀(j:Nat) (o:Oper),ops.toList[j]? = some o->∀e∈o.after.toList,Region.binds .any e=true->e.on<j)
  (h:Region.ready .any ops listed=[]):∀j,j<ops.size->rD listed j:=by
 intro j;induction j using Nat.strongRecOn with
 | _ j ih =>
   intro hj;apply aS;intro hn;have hx:=fB hj;have:j∈Region.ready .any ops listed:=(I9 hs).2 ⟨_,hx,hn,λe he hb=>by
    have hlt:=hback j _ (by rw[bG];exact hx) e he hb;exact ih e.on hlt aj⟩
   rw[h]at this;simp at this
section
variable{X:Nat->Nat->Prop}{P:Program}{F:FT}{L:Lay}{ops:Array Oper}{rs:List Rec}{c0:Cx}{H0:Heap}{e:Env}{a0 a:Act}{n m:Nat}{listed:Array Bool}{c:Cx}{ef:Env}{Hf:Heap}{pd:Nat->Nat}
theorem Jv.notYet(hd:zu X ops.toList rs)(I:Jv ops.toList rs c0 H0 e a0 n listed m a c pd)(Rj:Adv rs listed m){i j:Nat}{r rj:Rec}(hi:rs[i]? = some r)
  (hbef:∀e∈r.o.after.toList,Region.binds .any e=true->rD listed e.on) {t:Nat} (ht:t∈uM ops.toList r.o) (hji:j<i) (hj:rs[j]? = some rj) (hdj:rj.o.dst=some t) (hl:rD listed j) (he:eff rj=true):j<m:=by
 apply aS;intro hm;obtain⟨x,rx,h1,h2,h3,h4,h5⟩:=Rj j rj aj hj he hl;have hp:=(I.above j rj aj hj he hl).b6B;simp only[eff,aK,dU]at h4 he;rcases hd.late x j i rx rj r t h2 hji h3 hj hi h4.1 h4.2 he.1 hp hdj ht with hb|hb;{exact h5 (a1P I.closed j rj.o (hd.get j rj hj) (I.closed j rj.o hl (hd.get j rj hj)) hb)};exact h5 (a1P I.closed i r.o (hd.get i r hi) hbef hb)
theorem Jv.slot(hd:zu X ops.toList rs)(I:Jv ops.toList rs c0 H0 e a0 n listed m a c pd)(Rj:Adv rs listed m){i:Nat}{r:Rec}(hi:rs[i]? = some r)(hn:¬rD listed i)
  (hbef:∀e∈r.o.after.toList,Region.binds .any e=true->rD listed e.on) {t:Nat} {A:AV} (ht:t∈uM ops.toList r.o) (hA:vk (E0 rs e i) t=some A):EV c A (a.tmps.getD t undef):=by
 have hlt:i<rs.length:=(aY.1 hi).1;have a5L:∀(j:Nat) (rj:Rec),rD listed j->rs[j]? = some rj->rj.o.dst=some t->j<i:=(by intro j rj hl hj hdj;rcases mD j i with h|h|h;{exact h};{subst h;exact absurd hl hn};exact absurd (BU hd I.closed h hi hj (Np hdj ht).2 (hd.nx2 hi hj hdj ht) hl) hn);rcases a8r aj hA with⟨j,rj,h1,h2,h3,rfl,h5⟩|⟨h1,h2⟩;{have hl:=BL hd I.closed h1 h2 hi (Np h3 ht).1 (hd.nx1 h2 hi h3 ht) hbef;exact I.new t j rj hl h2 h3 (λi' ri' hl hi' hd'=>h5 i' ri' (a5L i' ri' hl hi' hd') hi' hd') λhe=>I.notYet hd Rj hi hbef ht h1 h2 h3 hl he};exact I.old t A (λj rj hl hj hdj=>h1 j rj (a5L j rj hl hj hdj) hj hdj) h2
theorem Jv.ahead (hd:zu X ops.toList rs) (I:Jv ops.toList rs c0 H0 e a0 n listed m a c pd) (Rj:Adv rs listed m) {i:Nat} {r:Rec} (hi:rs[i]? = some r)
  (hbef:∀e∈r.o.after.toList,Region.binds .any e=true->rD listed e.on) (hnb:r.nb=false) (hnew:BF r.o.op=false) {j:Nat} {rj:Rec} (h1:m<=j) (h2:j<i) (hj:rs[j]? = some rj):eff rj=false\/(tu r.o.op=true/\Uy rj.o.op=true)\/(tu r.o.op=true/\X j i):=by
 cases he:eff rj with
 |false=>exact .inl rfl
 | true =>
   have tC:rj.nb=false:=(by simp[eff]at he;exact he.1);by_cases hXj:X j i;{exact .inr (.inr ⟨(hd.nxl hj hi he hXj).1,hXj⟩)};cases hx:tu r.o.op&&Uy rj.o.op&&(ops.toList.all λo=>!BF o.op)with
   |true=>simp only[aK]at hx;exact .inr (.inl hx.1)
   | false =>
     have hcl:∀(x:Rec),(tu r.o.op&&Uy x.o.op&&(ops.toList.all λo=>!BF o.op))=false->tu r.o.op=false\/Uy x.o.op=false\/(ops.toList.all λo=>!BF o.op)=false:=by
      intro x hx;cases h1:tu r.o.op with
      |false=>exact .inl rfl
      | true =>
        cases h2:Uy x.o.op with
        |false=>exact .inr (.inl rfl)
        |true=>rw[h1,h2]at hx;exact .inr (.inr (by simpa using hx))
     have hlj:=BL hd I.closed h2 hj hi ((Gt he hnb).1 hnew (hcl rj hx)) hXj hbef;obtain⟨x,rx,g1,g2,g3,g4,g5⟩:=Rj j rj h1 hj he hlj;have b4R:(ops.toList.all λo=>!BF o.op)=true->False:=λhy=>(by have hnw:BF rj.o.op=false:=(by have:=bD.1 hy rj.o (bP (hd.get j rj hj));simpa using this);have hlb:tu rj.o.op=false:=(by simp[eff]at he;exact he.2);exact absurd (BU hd I.closed g2 g3 hj ((Gt g4 tC).1 hnw (.inl hlb)) (hd.nxe g3 hj g4 he) hlj) g5);by_cases hXx:X x i;{exact(b4R (hd.nxl g3 hi g4 hXx).2).elim};cases hy:tu r.o.op&&Uy rx.o.op&&(ops.toList.all λo=>!BF o.op)with
     |false=>exact absurd (BL hd I.closed aj g3 hi ((Gt g4 hnb).1 hnew (hcl rx hy)) hXx hbef) g5
     |true =>simp only[aK]at hy;exact(b4R hy.2).elim
theorem Jv.heap(hd:zu X ops.toList rs)(hrun:FV F L ops.toList rs e H0 ef Hf)(I:Jv ops.toList rs c0 H0 e a0 n listed m a c pd)(Rj:Adv rs listed m){i:Nat}{r:Rec}(hi:rs[i]? = some r)(hn:¬rD listed i)
  (hbef:∀e∈r.o.after.toList,Region.binds .any e=true->rD listed e.on) (hef:eff r=true) (hnew:BF r.o.op=false):Hs rs H0 m=r.H:=by
 have hnb:r.nb=false:=(by simp[eff]at hef;exact hef.1);have hlt:i<rs.length:=(aY.1 hi).1;have hmi:m<=i:=(by apply aS;intro h;exact hn (I.below i r aj hi hef));rw[(xX hrun (uO.refl e) hi).1];exact Vg hrun i hmi aj λj rj h1 h2 hj=>BH hrun hj ((I.ahead hd Rj hi hbef hnb hnew h1 h2 hj).resolve_right λh=>by rcases h with h|h <;> simp[eff,h.1]at hef)
def xE(F:FT)(L:Lay)(r:Rec)(H:Heap):Prop:=xI F Ok L r.o.op r.e H (λA H'=>A=r.A/\H'=H) λ_=>False
theorem xE.keep{r:Rec}{H H':Heap}(hl:tu r.o.op=true)(hs:Keep H H')(hi:uS H')(h:xE F L r H):xE F L r H':=by
 unfold xE at h ⊢;cases ho:r.o.op with
 |load t x =>rw[ho]at h;simp only[xI]at h ⊢;obtain⟨A,h5,h6⟩:=sJ _ _ _ h;refine h6 _ (a4G hs hi ?_);obtain⟨R,h7,h8⟩:=Am _ _ _ _ _ h5;exact h8 _ ⟨h7.1,trivial⟩
 |_=>simp[ho,tu]at hl
theorem exists_least{p:Nat->Prop}(h:∃n,p n):∃n,p n/\∀k,k<n->¬p k:=by
 apply aS;intro hn;have:∀n,¬p n:=by
  intro n;induction n using Nat.strongRecOn with
  |_ n ih=>exact λhp=>hn ⟨n,hp,ih⟩
 exact h.elim this
theorem Jv.b6Q (hd:zu X ops.toList rs) (hX:∀(i j:Nat) (ri rj:Rec),X i j->rs[i]? = some ri->rs[j]? = some rj->ri.ran=true->rj.ran=true->(tu ri.o.op=true->xE F L ri rj.H')/\(eff ri=true->xE F L rj ri.H)) (hrun:FV F L ops.toList rs e H0 ef Hf)
  (I:Jv ops.toList rs c0 H0 e a0 n listed m a c pd) (Rj:Adv rs listed m) {i:Nat} {r:Rec} (hi:rs[i]? = some r) (hn:¬rD listed i)
  (hbef:∀e∈r.o.after.toList,Region.binds .any e=true->rD listed e.on) (hnb:r.nb=false) (hld:tu r.o.op=true) (Jh:r.ran=true) (h0:xE F L r r.H):xE F L r (Hs rs H0 m):=by
 have hlt:i<rs.length:=(aY.1 hi).1;have hnew:BF r.o.op=false:=by cases ho:r.o.op <;> simp[ho,tu]at hld <;> rfl
 rw[(xX hrun (uO.refl e) hi).1]at h0;rcases Nat.le_total m i with h|h
 ·by_cases hex:∃q,m<=q/\q<i/\X q i/\∃rq,rs[q]? = some rq/\eff rq=true/\rq.ran=true
  ·obtain⟨q,⟨q1,q2,q3,rq,q4,q5,q6⟩,b73⟩:=exists_least hex;have h1:=(hX q i rq r q3 q4 hi q6 Jh).2 q5;rw[(xX hrun (uO.refl e) q4).1]at h1;refine xE.keep hld ?_ I.tr.hr.ids h1;refine a13 hrun q q1 aj λj rj h1 h2 hj=>?_;rcases I.ahead hd Rj hi hbef hnb hnew h1 aj hj with he|he|he;{rw[BH hrun hj he];exact .refl _};{exact a3w hrun hj he.2};cases hef:eff rj with
   |false=>rw[BH hrun hj hef];exact .refl _
   | true =>
     cases RX:rj.ran with
     |false=>rw[((xX hrun (uO.refl e) hj).2.2.2.2 RX).2];exact .refl _
     |true=>exact absurd ⟨h1,aj,he.2,rj,hj,hef,RX⟩ (b73 j h2)
  refine xE.keep hld ?_ I.tr.hr.ids h0;refine a13 hrun i h aj λj rj h1 h2 hj=>?_;rcases I.ahead hd Rj hi hbef hnb hnew h1 h2 hj with he|he|he;{rw[BH hrun hj he];exact .refl _};{exact a3w hrun hj he.2};cases hef:eff rj with
  |false=>rw[BH hrun hj hef];exact .refl _
  | true =>
    cases RX:rj.ran with
    |false=>rw[((xX hrun (uO.refl e) hj).2.2.2.2 RX).2];exact .refl _
    |true=>exact absurd ⟨j,h1,h2,he.2,rj,hj,hef,RX⟩ hex
 have key:∀q,i<=q->q<=m->∃G,xE F L r G/\Keep G (Hs rs H0 q):=by
  intro q;induction q with
  | zero=>intro h1 _;obtain rfl:i=0:=by omega
          exact⟨_,h0,.refl _⟩
  | succ q ih =>
    intro h1 h2;rcases lT q i with h3|h3;{obtain rfl:i=q+1:=aj;exact⟨_,h0,.refl _⟩};obtain⟨G,g1,g2⟩:=ih h3 aj;have hq:q<rs.length:=(by have:=I.mle;omega);have hj:=aH hq;generalize rs[q]=rj at hj;have hH:=(xX hrun (uO.refl e) hj).1;rw[Ko hj];rw[<- hH]at g2;cases he:eff rj with
    |false=>rw[BH hrun hj he];exact⟨G,g1,g2⟩
    | true =>
      cases hal:Pm rj.o.op with
      |true=>exact⟨G,g1,λy hy hb=>a4H hrun hj hal y (g2 y hy hb) hb⟩
      | false =>
        have hl:=I.below q rj aj hj he;have tC:BF rj.o.op=false:=by cases ho:rj.o.op <;> simp[ho,Pm]at hal <;> rfl
        rcases Nat.lt_or_eq_of_le h3 with h4|h4
        ·by_cases hx:X i q
         ·cases RX:rj.ran with
          |true=>exact⟨_,(hX i q r rj hx hi hj Jh RX).1 hld,.refl _⟩
          |false=>rw[((xX hrun (uO.refl e) hj).2.2.2.2 RX).2];exact⟨G,g1,g2⟩
         exact absurd (BU hd I.closed h4 hi hj ((Gt he hnb).2 tC (.inr hal)) hx hl) hn
        subst h4;exact absurd hl hn
 obtain⟨G,g1,g2⟩:=key m h (aT _);exact g1.keep hld g2 I.tr.hr.ids
theorem Jv.step(hd:zu X ops.toList rs)(I:Jv ops.toList rs c0 H0 e a0 n listed m a c pd)(Rj:Adv rs listed m){i:Nat}{r:Rec}(hi:rs[i]? = some r)(hn:¬rD listed i)
  (hbef:∀e∈r.o.after.toList,Region.binds .any e=true->rD listed e.on) (hdst:∀d,r.o.dst=some d->d<n) {v:Value} {c':Cx} {H':Heap} {m':Nat}
  (htr:Tr c (Hs rs H0 m) c' H') (hH:H'=Hs rs H0 m')
  (hm:(eff r=false/\m'=m/\∀t,r.o.dst=some t->EV c' r.A v)\/(eff r=true/\BF r.o.op=false/\m'=i+1/\∀t,r.o.dst=some t->EV c' r.A v) \/
   (eff r=true/\m'=m/\∃(b:Nat) (d:Nat),r.o.dst=some d/\BF r.o.op=true/\c.w.heap.size<=b/\Free c' H' b /\
    ∃o z f,c'.w.heap[b]? = some o/\SpB b o v z f/\r.H'=(nextId r.H,z)::r.H/\r.A=f (nextId r.H))) :
  ∃pd',Jv ops.toList rs c0 H0 e a0 n (listed.setIfInBounds i true) m' (a.put r.o.dst v) c' pd':=by
 have hlt:i<rs.length:=(aY.1 hi).1;have hsz:i<listed.size:=(by rw[I.size,<- hd.len];exact hlt);have hls:∀j,rD (listed.setIfInBounds i true) j↔j=i\/rD listed j:=λj=>WQ hsz;have hmi:eff r=true->m<=i:=(by intro hef;apply aS;intro h;exact hn (I.below i r aj hi hef));have hmm:m<=m':=by rcases hm with⟨_,h,_⟩|⟨h1,_,h,_⟩|⟨_,h,_⟩;{omega};{have:=hmi h1;omega};omega
 -- the slot of what is ahead of its time stays
 have hkeep:∀(j:Nat) (rj:Rec) (d:Nat),m<=j->rs[j]? = some rj->eff rj=true->rD listed j->rj.o.dst=some d->r.o.dst≠some d:=(by intro j rj d h1 hj he hl hdj hdi;rcases mD j i with h|h|h;{have:=I.notYet hd Rj hi hbef (t:=d) (by simp[uM,hdi]) h hj hdj hl he;omega};{subst h;exact hn hl};exact hn (BU hd I.closed h hi hj (Np hdi (by simp[uM,hdj])).1 (hd.nx1 hi hj hdi (by simp[uM,hdj])) hl));have hput:∀d,r.o.dst≠some d->(a.put r.o.dst v).tmps.getD d undef=a.tmps.getD d undef:=by
  intro d h1;cases hdd:r.o.dst with
  |none=>rfl
  |some d' =>simp only[Act.put];rw[getD_set_ne (λh=>h1 (by rw[hdd,h]))]
 have b42:∀d,r.o.dst=some d->(a.put r.o.dst v).tmps.getD d undef=v:=(by intro d hdd;rw[hdd];simp only[Act.put];rw[TS (by rw[I.a8x];exact hdst d hdd)]);have b6K:∀(j:Nat) (rj:Rec),m<=j->rs[j]? = some rj->eff rj=true->rD listed j->b7V c0 (a.put r.o.dst v) c' H' rj (pd j):=(by intro j rj h1 hj he hl;obtain⟨g1,g2,g3,⟨ob,u,z,f,g4,g5,g6,g8,g7⟩⟩:=I.above j rj h1 hj he hl;obtain⟨f1,f2⟩:=g2.tr htr;exact⟨g1,f1,g3,⟨ob,u,z,f,by rw[f2];exact g4,g5,g6,g8,λd hdj=>by rw[hput d (hkeep j rj d h1 hj he hl hdj)];exact g7 d hdj⟩⟩);let pd':Nat->Nat:=λj=>if j=i then(match v with | .pointer (some ad)=>ad.block | .map (some b)=>b|_=>0)else pd j;have hpd:∀j,j≠i->pd' j=pd j:=λj hj=>aB hj;refine⟨pd',by simpa using I.size,?_,?_,?_,?_,?_,?_,?_,?_,?_,?_,?_⟩;{intro j o hj ho e' he' hb;rw[hls]at hj ⊢;rcases hj with rfl|hj;{have:=hd.get j r hi;rw[this]at ho;obtain rfl:=aW ho;exact .inr (hbef e' he' hb)};exact .inr (I.closed j o hj ho e' he' hb)};{rcases hm with⟨_,h,_⟩|⟨_,_,h,_⟩|⟨_,h,_⟩;{rw[h];exact I.mle};{omega};rw[h];exact I.mle};{intro j rj hj RX he;rw[hls];rcases hm with⟨_,h,_⟩|⟨hef,hnw,h,_⟩|⟨_,h,_⟩;{exact .inr (I.below j rj aj RX he)};{by_cases hji:j=i;{exact .inl hji};exact .inr (BL hd I.closed aj RX hi ((Gt he (by simp[eff]at hef;exact hef.1)).1 hnw (.inl (by simp[eff]at hef;exact hef.2))) (hd.nxe RX hi he hef) hbef)};exact .inr (I.below j rj aj RX he)}
 ·intro j rj hj RX he hl;rw[hls]at hl;rw[<- hH];by_cases hji:j=i
  ·subst hji;rw[hi]at RX;obtain rfl:=aW RX;rcases hm with⟨h,_⟩|⟨_,_,h,_⟩|⟨_,h,b,d,hdd,hnw,hb,hf,ob,z,f,q1,q2,q3,q4⟩;{rw[he]at h;cases h};{omega};have hpb:pd' j=b:=by cases q2 <;> simp[pd']
   rw[hpb];exact⟨hnw,hf,by have:=I.tr.size;omega,⟨ob,v,z,f,q1,q2,q3,q4,λd' hd'=>b42 d' hd'⟩⟩
  rw[hpd j hji];exact b6K j rj aj RX he (hl.resolve_left hji)
 ·intro j k rj rk hj hk RX hrk hej hek hlj hlk hjk;rw[hls]at hlj hlk;have other:∀(x:Nat) (rx:Rec),m'<=i->i=i->x≠i->m'<=x->rs[x]? = some rx->eff rx=true->rD listed x->eff r=true->pd x=pd' i->False:=by
   intro x rx b8J _ hxi hx hrx hex hlx her hpe;rcases hm with⟨h,_⟩|⟨_,_,h,_⟩|⟨_,h,b,d,hdd,hnw,hb,hf,ob,z,f,q1,q2,q3,q4⟩;{rw[her]at h;cases h};{omega};have hpb:pd' i=b:=by cases q2 <;> simp[pd']
   have:=(I.above x rx aj hrx hex hlx).free.lt;omega
  by_cases hji:j=i;{by_cases hki:k=i;{omega};subst hji;rw[hi]at RX;obtain rfl:=aW RX;rw[hpd k hki]at hjk;exact(other k rk hj rfl hki hk hrk hek (hlk.resolve_left hki) hej hjk.symm).elim};by_cases hki:k=i;{subst hki;rw[hi]at hrk;obtain rfl:=aW hrk;rw[hpd j hji]at hjk;exact(other j rj hk rfl hji hj RX hej (hlj.resolve_left hji) hek hjk).elim};rw[hpd j hji,hpd k hki]at hjk;exact I.inj j k rj rk aj aj RX hrk hej hek (hlj.resolve_left hji) (hlk.resolve_left hki) hjk
 ·rw[<- hH];exact I.tr.trans htr
 ·intro t A hno ht;have h1:r.o.dst≠some t:=hno i r ((hls i).2 (.inl rfl)) hi;rw[hput t h1];exact CB htr.le (I.old t A (λj rj hl hj=>hno j rj ((hls j).2 (.inr hl)) hj) ht)
 ·intro t j rj hl hj hdj hmax hact;rw[hls]at hl;by_cases hji:j=i;{subst hji;rw[hi]at hj;obtain rfl:=aW hj;rw[b42 t hdj];rcases hm with⟨_,_,h⟩|⟨_,_,_,h⟩|⟨hef,h,_⟩;{exact h t hdj};{exact h t hdj};have:=hact hef;have:=hmi hef;omega};have hl:rD listed j:=hl.resolve_left hji;have b6W:eff rj=true->j<m:=(by intro he;have h1:=hact he;apply aS;intro h2;obtain⟨x,rx,g1,g2,g3,g4,g5⟩:=Rj j rj aj hj he hl;rcases hm with⟨_,h,_⟩|⟨hef,hnw,h,_⟩|⟨_,h,_⟩;{omega};{exact g5 (BL hd I.closed aj g3 hi ((Gt g4 (by simp[eff]at hef;exact hef.1)).1 hnw (.inl (by simp[eff]at hef;exact hef.2))) (hd.nxe g3 hi g4 hef) hbef)};omega);have h1:r.o.dst≠some t:=by
   intro h;have hle:=hmax i r ((hls i).2 (.inl rfl)) hi h;have hmem:t∈uM ops.toList rj.o:=by simp[uM,hdj]
   exact hn (BU hd I.closed aj hi hj (Np h hmem).1 (hd.nx1 hi hj h hmem) hl)
  rw[hput t h1];exact CB htr.le (I.new t j rj hl hj hdj (λi' ri' hl'=>hmax i' ri' ((hls i').2 (.inr hl'))) b6W)
 ·cases hdd:r.o.dst <;> simp only[Act.put] <;> exact I.defers
 ·cases hdd:r.o.dst <;> simp[Act.put,I.a8x]
 cases hdd:r.o.dst with
 |none=>exact I.fr
 |some d =>intro t ht;simp only[Act.put];rw[getD_set_ne (λh=>ht (by rw[<- h];exact ED (bP (hd.get i r hi)) hdd))];exact I.fr t ht
theorem a6r:∀(j:Nat) (rj:Rec),m<=j->rs[j]? = some rj->eff rj=true->rD listed j->(∀(x:Nat) (rx:Rec),m<=x->x<j->rs[x]? = some rx->eff rx=true->rD listed x) ->
  ∃(j:Nat) (rj:Rec),m<=j/\rs[j]? = some rj/\eff rj=true/\rD listed j/\∀(x:Nat) (rx:Rec),m<=x->x<j->rs[x]? = some rx->eff rx=false:=by
 intro j;induction j using Nat.strongRecOn with
 | _ j ihj =>
   intro rj h1 hj he hl hno;by_cases hx:∃(x:Nat) (rx:Rec),m<=x/\x<j/\rs[x]? = some rx/\eff rx=true;{obtain⟨x,rx,g1,g2,g3,g4⟩:=hx;exact ihj x g2 rx g1 g3 g4 (hno x rx g1 g2 g3 g4) λy ry f1 f2 f3 f4=>hno y ry f1 aj f3 f4};refine⟨j,rj,h1,hj,he,hl,λx rx g1 g2 g3=>?_⟩;cases he':eff rx with
   |false=>rfl
   |true=>exact absurd ⟨x,rx,g1,g2,g3,he'⟩ hx
theorem Jv.settle(_:zu X ops.toList rs)(hrun:FV F L ops.toList rs e H0 ef Hf):∀(k m:Nat) (c:Cx),rs.length-m<=k->Jv ops.toList rs c0 H0 e a0 n listed m a c pd ->
  ∃m' c',c'.w=c.w/\Jv ops.toList rs c0 H0 e a0 n listed m' a c' pd/\Adv rs listed m':=by
 intro k;induction k with
 |zero =>intro m c hk I;refine⟨m,c,rfl,I,λj r hj hr=>?_⟩;have:=(aY.1 hr).1;omega
 | succ k ih =>
   intro m c hk I;by_cases hA:Adv rs listed m;{exact⟨m,c,rfl,I,hA⟩};have hA:=hA;unfold Adv at hA;obtain⟨j,hA⟩:=Classical.not_forall.1 hA;obtain⟨rj,hA⟩:=Classical.not_forall.1 hA;simp only[not_imp]at hA;obtain⟨h1,hj,he,hl,hno⟩:=hA;have hno:∀(x:Nat) (rx:Rec),m<=x->x<j->rs[x]? = some rx->eff rx=true->rD listed x:=by intro x rx g1 g2 g3 g4;apply aS;intro g5;exact hno ⟨x,rx,g1,g2,g3,g4,g5⟩
   obtain⟨j,rj,h1,hj,he,hl,hno⟩:=a6r j rj h1 hj he hl hno;have hjl:j<rs.length:=(aY.1 hj).1;obtain⟨g1,g2,g3,⟨ob,u,z,f,g4,g5,g6,g7,g8⟩⟩:=I.above j rj h1 hj he hl;have hHj:Hs rs H0 m=rj.H:=(by rw[(xX hrun (uO.refl e) hj).1];exact Vg hrun j h1 aj λx rx f1 f2 f3=>BH hrun f3 (hno x rx f1 f2 f3));obtain⟨t1,t2,t3,t4⟩:=Tr.adopt I.tr g2 g3 g4 g5;have hHn:Hs rs H0 (j+1)=(nextId (Hs rs H0 m),z)::Hs rs H0 m:=(by rw[Ko hj,g6,hHj]);rw[<- hHn]at t1 t4;have I':Jv ops.toList rs c0 H0 e a0 n listed (j+1) a (c.adopt (Hs rs H0 m) (pd j) z) pd:=by
    refine⟨I.size,I.closed,aj,?_,?_,?_,t1,?_,?_,I.defers,I.a8x,I.fr⟩;{intro x rx hx hrx hex;rcases mD x m with h|h|h;{exact I.below x rx h hrx hex};{by_cases hxj:x=j;{rw[hxj];exact hl};rw[hno x rx aj aj hrx]at hex;cases hex};by_cases hxj:x=j;{rw[hxj];exact hl};rw[hno x rx aj aj hrx]at hex;cases hex}
    ·intro x rx hx hrx hex hlx;obtain⟨p1,p2,p3,p4⟩:=I.above x rx aj hrx hex hlx;have hne:pd x≠pd j:=λh=>by have:=I.inj x j rx rj aj h1 hrx hj hex he hlx hl h;omega
     exact⟨p1,t4 _ hne p2,p3,p4⟩
    ·intro x y rx ry hx hy hrx hry hex hey hlx hly hxy;exact I.inj x y rx ry aj aj hrx hry hex hey hlx hly hxy
    ·intro t A hno' ht;exact CB t2 (I.old t A hno' ht)
    intro t x rx hlx hrx hdx hmax hact;by_cases hxj:x=j;{subst hxj;rw[hj]at hrx;obtain rfl:=aW hrx;rw[g8 t hdx,g7,<- hHj];exact t3};refine CB t2 (I.new t x rx hlx hrx hdx hmax λhex=>?_);have:=hact hex;apply aS;intro h;rw[hno x rx aj aj hrx]at hex;cases hex
   obtain⟨m',c',hw,I'',Rj⟩:=ih (j+1) _ aj I';exact⟨m',c',hw,I'',Rj⟩
theorem a7P(hL:uz P L){r:Rec}{t:Nat}(ho:r.o.op=.alloc t)(hnb:r.nb=false)(Xb:Does F L r) :
  ∃i,Gi P t i/\r.H'=(nextId r.H,.box i.zero)::r.H/\r.A=.ptr (nextId r.H) [] 0:=by
 rcases Xb with⟨h1,_⟩|⟨_,h⟩|⟨_,_,h⟩;{rw[hnb]at h1;cases h1};{rw[ho]at h;have:=h (λA H'=>A=r.A/\H'=r.H') (λ_=>False) ⟨rfl,rfl⟩;simp only[xI]at this;obtain⟨i,hT,h1⟩:=Lay.su hL this;have:=wF.1 h1;exact⟨i,hT,this.2.symm,this.1.symm⟩};rw[ho]at h;have:=h (λ_ _=>False) (λH'=>H'=r.H') rfl;simp only[xI]at this;obtain⟨i,hT,h1⟩:=Lay.su hL this;exact(wF.1 h1).elim
theorem b2r(hL:uz P L){r:Rec}{t:Nat}(ho:r.o.op=.makeMap t none)(hnb:r.nb=false)(Xb:Does F L r) :
  ∃sh,r.H'=(nextId r.H,.tY sh [])::r.H/\r.A=.mp (nextId r.H):=by
 have key:∀{k:AV->Heap->Prop} {ks:Heap->Prop},xI F (λ_=>True) L r.o.op r.e r.H k ks->∃sh,k (.mp (nextId r.H)) ((nextId r.H,.tY sh [])::r.H):=(by intro k ks h;rw[ho]at h;simp only[xI]at h;obtain⟨i,hT,h1⟩:=Lay.su hL h;split at h1;{exact⟨_,wF.1 h1⟩};exact h1.elim);rcases Xb with⟨h1,_⟩|⟨_,h⟩|⟨_,_,h⟩;{rw[hnb]at h1;cases h1};{obtain⟨sh,h1,h2⟩:=key (h (λA H'=>A=r.A/\H'=r.H') (λ_=>False) ⟨rfl,rfl⟩);exact⟨sh,h2.symm,h1.symm⟩};obtain⟨sh,h1⟩:=key (h (λ_ _=>False) (λH'=>H'=r.H') rfl);exact h1.elim
theorem run_map{t:Nat}{o:Oper}{ρ:Operand->Value}{w:World}(ho:o.op=.makeMap t none) :
  (execOp ρ o).run P w=.ok (.value (.map (some w.heap.size))) (w.alloc (.map #[] 0)):=by
 unfold execOp;rw[ho];simp only[Instr.makeMap,Sem.run_bind,run_newObj,Result.andThen_ok,Sem.run_pure,iJ,World.alloc_eq]
theorem a5s{t:Nat}{i:TI}{o:Oper}{ρ:Operand->Value}{w:World}(hT:Gi P t i)(ho:o.op=.alloc t) :
  ∃v:Value,(execOp ρ o).run P w=.ok (.value (.pointer (some ⟨w.heap.size,0,none⟩))) (w.alloc (.cells v.cells t))/\∀c:Cx,VR c i.zero v.cells.toList:=by
 obtain⟨v,h1,h2,h3⟩:=hT.KP w;refine⟨v,?_,λc=>yP _ _ (h3 _ _)⟩;unfold execOp;rw[ho];simp only[Instr.alloc,Sem.run_bind,h1,Result.andThen_ok,newVar,newRow,run_newObj,Sem.run_pure,World.alloc_eq]
theorem Tr.spare{c:Cx}{H:Heap}(hr:HR c H)(o:Obj):Tr c H { c with w:=c.w.alloc o } H/\Free { c with w:=c.w.alloc o } H c.w.heap.size:=by constructor;{refine Tr.keep hr ⟨λb x h=>⟨h,wX (xB _ _ (hr.im b x h))⟩,aT _,λ_ _=>rfl,λ_ _ _ h=>.inl ⟨h,rfl⟩⟩ rfl rfl rfl rfl rfl rfl ak (λb hb=>xB _ _ hb) (λb x h=>.inl h)};refine⟨ak,λx hx hb=>?_,λo ho=>?_⟩;{have:=hr.LP (x:=x) hx (b:=c.w.heap.size) hb;omega};have:=hr.im _ _ ho;omega
theorem a9x (hL:uz P L) (hFn:FS P F) {Q:Exit->Act->World->Prop} (hd:zu X ops.toList rs) (hX:∀(i j:Nat) (ri rj:Rec),X i j->rs[i]? = some ri->rs[j]? = some rj->ri.ran=true->rj.ran=true->(tu ri.o.op=true->xE F L ri rj.H')/\(eff ri=true->xE F L rj ri.H)) (hrun:FV F L ops.toList rs e H0 ef Hf)
  (hops:ops.toList.all (GU n)=true) (hq:∀a' c',Tr c0 H0 c' Hf->Cc n c' ef a'->Fr (rX ops.toList) a0 a'->Q .normal a' c'.w) :
  ∀(fuel:Nat) (listed:Array Bool) (m:Nat) (a:Act) (c:Cx) (pd:Nat->Nat),Jv ops.toList rs c0 H0 e a0 n listed m a c pd->Adv rs listed m->cnt listed<=fuel->wpAny P .any ops Q fuel listed a c.w:=by
 have fin:∀(listed:Array Bool) (m:Nat) (a:Act) (c:Cx) (pd:Nat->Nat),Jv ops.toList rs c0 H0 e a0 n listed m a c pd->Adv rs listed m->(∀j,j<ops.size->rD listed j)->Q .normal a c.w:=by
  intro listed m a c pd I Rj hall;have hlen:=hd.len;have hall':∀(j:Nat) (r:Rec),rs[j]? = some r->rD listed j:=λj r hj=>hall j (by
   have:=(aY.1 hj).1;rw[<- bJ];omega)
  obtain⟨h1,h2⟩:=a0S hrun (uO.refl e);have hH:Hs rs H0 m=Hf:=by
   rw[h2];refine Vg hrun rs.length I.mle (aT _) λj r h3 _ hj=>BH hrun hj ?_;cases he:eff r with
   |false=>rfl
   |true =>obtain⟨x,rx,_,_,g3,_,g5⟩:=Rj j r h3 hj he (hall' j r hj);exact absurd (hall' x rx g3) g5
  refine hq a c (by rw[<- hH];exact I.tr) ⟨λt A hA=>?_,I.defers,I.a8x⟩ I.fr;obtain⟨B,h3,h4⟩:=h1 t A hA;refine h4 _ _ ?_;rcases a8r (aT _) h3 with⟨j,rj,h5,h6,h7,rfl,h8⟩|⟨h5,h6⟩;{exact I.new t j rj (hall' j rj h6) h6 h7 (λi' ri' _ hi' hd'=>h8 i' ri' ((aY.1 hi').1) hi' hd') λhe=>by apply aS;intro hmj;obtain⟨x,rx,_,_,g3,_,g5⟩:=Rj j rj aj h6 he (hall' j rj h6);exact absurd (hall' x rx g3) g5};exact I.old t B (λj rj _ hj hdj=>h5 j rj ((aY.1 hj).1) hj hdj) h6
 intro fuel;induction fuel with
 | zero =>
   intro listed m a c pd I Rj hc;have hsz:listed.size=ops.size:=by rw[I.size,bJ]
   have hall:∀j,j<ops.size->rD listed j:=λj hj=>LD aj aj;refine⟨?_,fin listed m a c pd I Rj hall⟩;apply ou.2;intro i hi;obtain⟨o,h1,h2,_⟩:=(I9 hsz).1 hi;exact h2 (hall i (dG.1 h1).1)
 | succ fuel ih =>
   intro listed m a c pd I Rj hc;have hsz:listed.size=ops.size:=by rw[I.size,bJ]
   refine⟨λhnil=>fin listed m a c pd I Rj (ready_nil hsz hd.back hnil),λi hi=>?_⟩;obtain⟨o,ho,hn,hbef⟩:=(I9 hsz).1 hi;have hlt:i<ops.size:=(dG.1 ho).1;have b8h:i<rs.length:=(by rw[hd.len];simpa using hlt);have hir:rs[i]? = some rs[i]:=aH b8h;generalize rs[i]=r at hir;have hro:r.o=o:=(by have:=hd.get i r hir;rw[bG,ho]at this;exact(aW this).symm);subst hro;have hcnt:cnt (listed.setIfInBounds i true)<=fuel:=(by have:=a1A (by omega:i<listed.size) hn;omega);have hop:=bD.1 hops r.o (bP (hd.get i r hir));simp only[GU,aK]at hop;obtain⟨hb,hdst⟩:=hop;have b6R:∀d,r.o.dst=some d->d<n:=λd hdd=>(by rw[hdd]at hdst;exact bF hdst);obtain⟨hH,href,hguard,Xb,hnot⟩:=xX hrun (uO.refl e) hir;have hwant:Region.wanted r.o (yielded ops a.tmps)=r.ran:=by
    cases hg:r.o.guard with
    |none=>rw[Tf hg];rw[hg]at hguard;exact hguard.symm
    |some g =>obtain⟨j,b⟩:=g;rw[hg]at hguard;obtain⟨oj,d,A,g1,g2,g3,g4⟩:=hguard;have hmem:d∈uM ops.toList r.o:=(by unfold uM;rw[hg];simp only[g1];simp[g2]);rcases g4 c _ (I.slot hd Rj hir hn hbef hmem g3)with⟨x,g5,g6⟩|⟨g5,g6⟩;{rw[Td hg (by rw[<- bG];exact g1) g2 g5,g6]};rw[Pz hg (by rw[<- bG];exact g1) g2 g5,g6]
   have cont:∀(v:Value) (c':Cx) (H':Heap) (m':Nat),Tr c (Hs rs H0 m) c' H'->H'=Hs rs H0 m' ->
     ((eff r=false/\m'=m/\∀t,r.o.dst=some t->EV c' r.A v)\/(eff r=true/\BF r.o.op=false/\m'=i+1/\∀t,r.o.dst=some t->EV c' r.A v) \/
    (eff r=true/\m'=m/\∃(b:Nat) (d:Nat),r.o.dst=some d/\BF r.o.op=true/\c.w.heap.size<=b/\Free c' H' b /\
     ∃o z f,c'.w.heap[b]? = some o/\SpB b o v z f/\r.H'=(nextId r.H,z)::r.H/\r.A=f (nextId r.H))) ->
     wpAny P .any ops Q fuel (listed.setIfInBounds i true) (a.put r.o.dst v) c'.w:=by
    intro v c' H' m' htr hH' hm;obtain⟨pd',I'⟩:=I.step hd Rj hir hn hbef b6R htr hH' hm;obtain⟨m'',c'',hw,I'',b8B⟩:=Jv.settle hd hrun rs.length m' c' aj I';rw[<- hw];exact ih _ _ _ _ _ I'' b8B hcnt
   have a9L:BF r.o.op=false\/eff r=false->∀(v:Value) (c':Cx) (H':Heap),Tr c (Hs rs H0 m) c' H'->(∀t,r.o.dst=some t->EV c' r.A v)->H'=Hs rs H0 (if eff r then i+1 else m) ->
     wpAny P .any ops Q fuel (listed.setIfInBounds i true) (a.put r.o.dst v) c'.w:=by
    intro hnw v c' H' htr hv hH';cases hef:eff r with
    |false=>rw[hef]at hH';exact cont v c' H' m htr hH' (.inl ⟨hef,rfl,hv⟩)
    |true =>rw[hef]at hH' hnw;exact cont v c' H' (i+1) htr hH' (.inr (.inl ⟨hef,by simpa using hnw,rfl,hv⟩))
   unfold wpOp;rw[ho];simp only[hwant];cases Jh:r.ran with
   | false =>
     simp only[dO,if_false];obtain⟨h1,h2⟩:=hnot Jh;have hnw:BF r.o.op=false\/eff r=false:=by
      cases hef:eff r with
      |false=>exact .inr rfl
      | true =>
        cases hw:BF r.o.op with
        |false=>exact .inl rfl
        |true =>exfalso;have:=(hd.b7A i r hir (by simp[eff]at hef;exact hef.1) hw).1;rw[this]at hguard;rw[Jh]at hguard;cases hguard
     refine a9L hnw undef c _ (.refl I.tr.hr) (λ_ _=>by rw[h1];exact PL) ?_;split;{rename_i he;rw[Ko hir,h2];exact I.heap hd hrun Rj hir hn hbef he (hnw.resolve_right (by rw[he];simp))};rfl
   | true =>
     simp only[if_true];refine .inl ?_;by_cases hnew:eff r=true/\BF r.o.op=true
     ·obtain⟨hef,hnw⟩:=hnew;have hnb:r.nb=false:=(by simp[eff]at hef;exact hef.1);obtain⟨d,hdd⟩:=(hd.b7A i r hir hnb hnw).2;cases ho':r.o.op with
      |alloc t =>obtain⟨ti,hT,g1,g2⟩:=a7P hL ho' hnb (Xb Jh);obtain⟨v,g3,g4⟩:=a5s (ρ:=a.eval) (w:=c.w) hT ho';unfold Oper.wp;rw[g3,Oper.upon_value];obtain⟨s1,s2⟩:=Tr.spare I.tr.hr (.cells v.cells t);refine cont _ { c with w:=c.w.alloc (.cells v.cells t) } _ m s1 rfl (.inr (.inr ⟨hef,rfl,_,d,hdd,hnw,aT _,s2,.cells v.cells.toList.toArray t,.box ti.zero,λj=>.ptr j [] 0,?_,.box g4,g1,g2⟩));show(c.w.alloc _).heap[_]? = _;rw[alloc_heap_new,jc]
      | makeMap t z =>
        cases z with
        |some _=>simp[ho',BF]at hnw
        |none =>obtain⟨sh,g1,g2⟩:=b2r hL ho' hnb (Xb Jh);unfold Oper.wp;rw[run_map ho',Oper.upon_value];obtain⟨s1,s2⟩:=Tr.spare I.tr.hr (.map #[] 0);refine cont _ { c with w:=c.w.alloc (.map #[] 0) } _ m s1 rfl (.inr (.inr ⟨hef,rfl,_,d,hdd,hnw,aT _,s2,.map #[] 0,.tY sh [],.mp,?_,.map,g1,g2⟩));show(c.w.alloc _).heap[_]? = _;rw[alloc_heap_new]
      |_=>simp[ho',BF]at hnw
     have hnw:BF r.o.op=false\/eff r=false:=by
      cases hef:eff r with
      |false=>exact .inr rfl
      | true =>
        cases hw:BF r.o.op with
        |false=>exact .inl rfl
        |true=>exact absurd ⟨hef,hw⟩ hnew
     have henv:xU c (sub r.e (tK r.o.op)) a:=(by intro t A hA;obtain⟨h1,h2⟩:=JE hA;obtain⟨B,h3,h4⟩:=href t A h1;refine h4 _ _ (I.slot hd Rj hir hn hbef ?_ h3);simp only[uM,dM];exact .inl (.inr (GX h2)));have hcongr:=a7J (F:=F) (vV:=Ok) (L:=L) (a8A (e:=r.e) (l:=tK r.o.op));have hHs:eff r=true->Hs rs H0 m=r.H:=λhe=>I.heap hd hrun Rj hir hn hbef he (hnw.resolve_right (by rw[he];simp));have hH':∀H',(eff r=false->H'=Hs rs H0 m)->(eff r=true->H'=r.H')->H'=Hs rs H0 (if eff r then i+1 else m):=by
      intro H' g1 g2;cases hef:eff r with
      |false=>simpa using g1 hef
      |true =>rw[aG rfl,Ko hir];exact g2 hef
     have key:∃(k:AV->Heap->Prop) (ks:Heap->Prop),xI F Ok L r.o.op r.e (Hs rs H0 m) k ks/\(∀A H',k A H'->A=r.A/\(eff r=false->H'=Hs rs H0 m)/\(eff r=true->H'=r.H')) /\
       (∀H',ks H'->r.o.dst=none/\(eff r=false->H'=Hs rs H0 m)/\(eff r=true->H'=r.H')):=by
      rcases Xb Jh with⟨h1,h2,h3⟩|⟨h1,h3⟩|⟨h1,h2,h3⟩;{have h4:=a7K (hd.b76 i r hir h1) (h3 (λA=>A=r.A) rfl) (Hs rs H0 m);have hef:eff r=false:=(by simp[eff,h1]);exact⟨_,_,h4,λA H' ⟨g1,g2⟩=>⟨g1,λ_=>g2,λh=>by rw[hef]at h;cases h⟩,λ_ h=>h.elim⟩}
      ·cases hef:eff r with
       |true =>rw[hHs hef];exact⟨λA H'=>A=r.A/\H'=r.H',λ_=>False,Ny (h3 _ _ ⟨rfl,rfl⟩),λA H' ⟨g1,g2⟩=>⟨g1,(λh=>by cases h),λ_=>g2⟩,λ_ h=>h.elim⟩
       |false =>have hl:tu r.o.op=true:=(by simpa[eff,h1]using hef);have hsame:=BH hrun hir hef;have h4:xE F L r r.H:=Ny (h3 (λA H'=>A=r.A/\H'=r.H) (λ_=>False) ⟨rfl,hsame⟩);have h5:=I.b6Q hd hX hrun Rj hir hn hbef h1 hl Jh h4;exact⟨λA H'=>A=r.A/\H'=Hs rs H0 m,λ_=>False,h5,λA H' ⟨g1,g2⟩=>⟨g1,λ_=>g2,λh=>by cases h⟩,λ_ h=>h.elim⟩
      have hef:eff r=true:=by
       cases hef:eff r with
       |true=>rfl
       | false =>
         exfalso;have hl:tu r.o.op=true:=by simpa[eff,h1]using hef
         cases ho:r.o.op with
         |load t x =>rw[ho]at h3;have h4:=h3 (λ_ _=>False) (λH'=>H'=r.H') rfl;simp only[xI]at h4;obtain⟨A,h5,_⟩:=sJ _ _ _ h4;obtain⟨R,h7,_⟩:=Am _ _ _ _ _ h5;exact h7
         |_=>simp[ho,tu]at hl
      rw[hHs hef];exact⟨λ_ _=>False,λH'=>H'=r.H',Ny (h3 _ _ rfl),λ_ _ h=>h.elim,λH' g=>⟨h2,(λh=>by rw[hef]at h;cases h),λ_=>g⟩⟩
     obtain⟨k,ks,key,hk,hks⟩:=key;rw[<- hcongr]at key;have hres:=GV hL hFn I.tr.hr henv hb key;unfold Oper.wp;rcases hres with⟨v,d,A,H',g1,g2,g3,g4⟩|⟨d,H',g1,g2,g3⟩|⟨f,args,g1,g2⟩;{obtain⟨rfl,g4,g5⟩:=hk _ _ g4;rw[g1,Oper.upon_value];exact a9L hnw v d H' g2 (λ_ _=>g3) (hH' H' g4 g5)};{obtain⟨g3,g4,g5⟩:=hks _ g3;rw[g1,Oper.upon_skip];exact a9L hnw undef d H' g2 (λt ht=>by rw[g3]at ht;cases ht) (hH' H' g4 g5)};rw[g1,Oper.upon_enter];refine Calls.mono g2 ?_;rintro _ w' ⟨v,d,R,H',rfl,rfl,g6,g7,g4⟩;obtain⟨rfl,g4,g5⟩:=hk _ _ g4;exact a9L hnw v d H' g6 (λ_ _=>g7) (hH' H' g4 g5)
end
end Go.AL
namespace Go.AL
section
variable{P:Program}{F:FT}{L:Lay}
theorem any_beq{ls:List Nat}{i:Nat}:ls.any (Nat.beq i)=true↔i∈ls:=by rw[gB];constructor;{rintro⟨x,hx,h⟩;rw[aJ h];exact hx};intro h;exact⟨i,h,Nat.beq_refl i⟩
theorem X8{f:Nat->Prop}:∀{l:List Nat},a7U l f->∀i∈l,f i
 | [],_,i,h=>by simp at h
 |x::l,h,i,hi=>by rcases aU.1 hi with rfl|hi;{exact h.1};exact X8 h.2 i hi
theorem b3P{listed:Array Bool}(h:∀j,j<listed.size->rD listed j):cnt listed=0:=by
 unfold cnt;rw[List.countP_eq_zero];intro b hb;obtain⟨j,hj,rfl⟩:=dN hb;have:=h j (by simpa using hj);unfold rD at this;rw[dH]at this;have hj':j<listed.size:=by simpa using hj
 simp[hj']at this;simp[this]
theorem Og:∀{l:List Bool} {i:Nat},l[i]? = some false->(l.set i true).countP (λb=>!b)+1=l.countP (λb=>!b)
 | [],_,h=>by simp at h
 |x::l,0,h=>by simp at h;subst h;simp
 |x::l,i+1,h=>by have:=Og (l:=l) (i:=i) (by simpa using h);simp only[jL,iE];omega
theorem a4p{listed:Array Bool}{i:Nat}(hi:i<listed.size)(h:¬rD listed i):cnt (listed.setIfInBounds i true)+1=cnt listed:=by unfold cnt;rw[Array.toList_setIfInBounds];refine Og ?_;unfold rD at h;rw[dH]at h;rw[bG,fB hi];rw[fB hi]at h;simpa using h
theorem a1V(hL:uz P L)(hFn:FS P F){n:Nat}{ops:Array Oper}{Q:Exit->Act->World->Prop}{k:Env->Heap->Prop}{c0:Cx}{H0:Heap}{a0:Act}
  (hops:ops.toList.all (GU n)=true) (hb:b3K ops.toList=true) (hq:∀e' H' c' a',k e' H'->Tr c0 H0 c' H'->Cc n c' e' a'->Fr (rX ops.toList) a0 a'->Q .normal a' c'.w) :
  ∀ (fuel:Nat) (ls:List Nat) (listed:Array Bool) (e:Env) (H:Heap) (c:Cx) (a:Act),listed.size=ops.size->(∀j,rD listed j↔j∈ls)->cnt listed=fuel ->
    Tr c0 H0 c H->Cc n c e a->Fr (rX ops.toList) a0 a->Ya F L ops.toList fuel ls e H k->wpAny P .any ops Q fuel listed a c.w:=by
 have hback:∀(j:Nat) (o:Oper),ops.toList[j]? = some o->∀e∈o.after.toList,Region.binds .any e=true->e.on<j:=(by intro j o ho e he hbd;have:=uh hb ho;have:=bD.1 this e he;rw[hbd]at this;simpa using this);intro fuel;induction fuel with
 |zero =>intro ls listed e H c a hsz hls hc htr ha hfr h;refine⟨?_,hq e H c a h htr ha hfr⟩;apply ou.2;intro i hi;obtain⟨o,h1,h2,_⟩:=(I9 hsz).1 hi;exact h2 (LD hc (by have:=(dG.1 h1).1;omega))
 | succ fuel ih =>
   intro ls listed e H c a hsz hls hc htr ha hfr h;refine⟨λhnil=>?_,λi hi=>?_⟩;{have:=b3P (listed:=listed) λj hj=>ready_nil hsz hback hnil j aj;omega};obtain⟨o,ho,hn,hbef⟩:=(I9 hsz).1 hi;have hlt:i<ops.size:=(dG.1 ho).1;have hol:ops.toList[i]? = some o:=(by rw[bG];exact ho);have hmem:i∈(List.range ops.toList.length).filter (b6r ops.toList ls):=by
    rw[dZ,iy];refine⟨by simpa using hlt,?_⟩;unfold b6r;rw[hol];simp only[aK,dU,bD,fP];refine⟨?_,λed hed=>?_⟩
    ·cases hx:ls.any (Nat.beq i)with
     |false=>rfl
     |true=>exact absurd ((hls i).2 (any_beq.1 hx)) hn
    cases hbd:Region.binds .any ed with
    |false=>exact .inl rfl
    |true=>exact .inr (any_beq.2 ((hls _).1 (hbef ed hed hbd)))
   have h:=X8 h i hmem;simp only[hol]at h;have hop:=bD.1 hops o (bP hol);simp only[GU,aK]at hop;obtain⟨hb',hdst⟩:=hop;have b6R:∀d,o.dst=some d->d<n:=λd hd=>(by rw[hd]at hdst;exact bF hdst);have hsz':i<listed.size:=aj;have hcnt:cnt (listed.setIfInBounds i true)=fuel:=(by have h1:=a1A hsz' hn;have h2:=a4p hsz' hn;omega);have b7K:∀j,rD (listed.setIfInBounds i true) j↔j∈i::ls:=by intro j;rw[WQ hsz',hls j,aU]
   have cont:∀(v:Value) (A:AV) (c':Cx) (H':Heap) (e1:Env),Tr c H c' H'->Cc n c' e1 a->EV c' A v->CO o.dst A e1 (λe'=>Ya F L ops.toList fuel (i::ls) e' H' k) ->
     wpAny P .any ops Q fuel (listed.setIfInBounds i true) (a.put o.dst v) c'.w:=by
    intro v A c' H' e1 xH ha' hv hk;have hw:∀d,o.dst=some d->d∈rX ops.toList:=λd hd=>ED (bP hol) hd;cases hd:o.dst with
    |none =>rw[hd]at hk;exact ih (i::ls) _ e1 H' c' a (by simpa using hsz) b7K hcnt (htr.trans xH) ha' hfr hk
    |some d =>rw[hd]at hk;refine ih (i::ls) _ _ H' c' _ (by simpa using hsz) b7K hcnt (htr.trans xH) (ha'.put (b6R d hd) hv) ?_ hk;intro t ht;simp only[Act.put];rw[getD_set_ne (λh=>ht (by rw[<- h];exact hw d hd))];exact hfr t ht
   obtain⟨e1,ha1,hcase⟩:=Qk ha h;unfold wpOp;rw[ho];simp only[];rcases hcase with⟨hw,h1⟩|⟨hw,h1⟩
   ·rw[aG hw];refine .inl ?_;have hop:=GV hL hFn htr.hr ha1.env hb' (Ny h1);unfold Oper.wp;rcases hop with⟨v,d,A,H',g1,g2,g3,g4⟩|⟨d,H',g1,g2,g3⟩|⟨f,args,g1,g2⟩;{rw[g1,Oper.upon_value];exact cont v A d H' e1 g2 (ha1.mono g2.le) g3 g4}
    ·rw[g1,Oper.upon_skip];cases hd:o.dst with
     |none=>rw[hd]at g3;exact hd ▸ cont undef .und d H' e1 g2 (ha1.mono g2.le) trivial (by rw[hd];exact g3)
     |some d'=>rw[hd]at g3;exact g3.elim
    rw[g1,Oper.upon_enter];refine Calls.mono g2 ?_;rintro _ w' ⟨v,d,R,H',rfl,rfl,g4,g5,g3⟩;exact cont v R d H' e1 g4 (ha1.mono g4.le) g5 g3
   rw[hw];simp only[dO,if_false];exact cont undef (.uy []) c H e1 (.refl htr.hr) ha1 PL h1
end
end Go.AL
namespace Go.AL
mutual
theorem ER{j:Nat}{B:AV}:∀{A:AV} {k:AV->Prop},Xe j B A k↔k (Fz j B A)
 | .ptr i p off,k=>by simp only[Xe,Fz];split <;> exact jm
 | .fn f cap,k=>by simp only[Xe,Fz];exact Nj
 | .ag l,k=>by simp only[Xe,Fz];exact Nj
 | .uy l,k=>by simp only[Xe,Fz];exact Nj
 | .uY t x,k=>by simp only[Xe,Fz];exact ER
 | .bool _,_ | .tt,_ | .ff,_ | .dec _,_ | .int _ _,_ | .str _,_ | .vK,_ | .qV,_ | .sl _ _ _,_ | .ms _ _ _ _ _,_ | .cp _,_ | .wo,_ | .rC,_ | .mp _,_ | .gs _ _,_ | .bm _ _,_ | .zF,_ | .und,_=>by simp only[Xe,Fz]
theorem Nj{j:Nat}{B:AV}:∀{l:List AV} {k:List AV->Prop},Z9 j B l k↔k (NY j B l)
 | [],_=>jm
 |x::l,k=>by simp only[Z9,NY];exact ER.trans Nj
end
theorem a9k{j:Nat}{B:AV}(A:AV):uG (Fz j B A)=uG A:=by
 cases A <;> first
  |rfl
  |(simp only[Fz];split <;> rfl)
theorem Oy{j:Nat}{B A:AV}{v:Value}(h:wG A v):wG (Fz j B A) v:=by unfold wG at *;rw[a9k];exact h
mutual
theorem Ye{d:Cx}{j:Nat}{B:AV}(hP:∀cs,VR d (.ptr j [] 0) cs->VR d (.cp B) cs):∀(A:AV) (cs:List Value),VR d A cs->VR d (Fz j B A) cs
 | .ptr i p off,cs,h=>by simp only[Fz];split;{rename_i hb;rw[aJ hb]at h;exact hP cs h};exact h
 | .fn f cap,cs,h=>by simp only[Fz,VR]at h ⊢;obtain⟨vs,h1,h2⟩:=h;exact⟨vs,h1,a8f hP cap vs h2⟩
 | .ag l,cs,h=>by simp only[Fz,VR]at h ⊢;exact a8a hP l cs h
 | .uy l,cs,h=>by simp only[VR,Rd]at h
 | .uY t x,cs,h=>by simp only[Fz,VR]at h ⊢;obtain⟨v,h1,h2,h3⟩:=h;exact⟨v,h1,Oy h2,Ye hP x _ h3⟩
 | .bool _,_,h | .tt,_,h | .ff,_,h | .dec _,_,h | .int _ _,_,h | .str _,_,h | .vK,_,h | .qV,_,h | .sl _ _ _,_,h | .ms _ _ _ _ _,_,h | .cp _,_,h | .wo,_,h | .rC,_,h | .mp _,_,h | .gs _ _,_,h | .bm _ _,_,h | .zF,_,h | .und,_,h=>by simp only[Fz];exact h
theorem a8a{d:Cx}{j:Nat}{B:AV}(hP:∀cs,VR d (.ptr j [] 0) cs->VR d (.cp B) cs):∀(l:List AV) (cs:List Value),Ea d l cs->Ea d (NY j B l) cs
 | [],_,h=>h
 |x::l,cs,h=>by simp only[Ea,NY]at h ⊢;obtain⟨a,b,h1,h2,h3⟩:=h;exact⟨a,b,h1,Ye hP x _ h2,a8a hP l _ h3⟩
theorem a8f{d:Cx}{j:Nat}{B:AV}(hP:∀cs,VR d (.ptr j [] 0) cs->VR d (.cp B) cs):∀(l:List AV) (vs:List Value),VA d l vs->VA d (NY j B l) vs
 | [],_,h=>h
 |x::l,vs,h=>by simp only[VA,NY]at h ⊢;obtain⟨v,r,h1,h2,h3,h4⟩:=h;exact⟨v,r,h1,Oy h2,Ye hP x _ h3,a8f hP l _ h4⟩
end
theorem b53{d:Cx}{j:Nat}{B:AV}(hP:∀cs,VR d (.ptr j [] 0) cs->VR d (.cp B) cs){A:AV}{v:Value}(h:EV d A v):EV d (Fz j B A) v:=by
 have key:VV d A v->VV d (Fz j B A) v:=λh=>⟨Oy h.1,Ye hP _ _ h.2⟩;cases A with
 |und=>trivial
 |uy l =>obtain⟨vs,h1,h2⟩:=h;exact⟨vs,h1,a8f hP l _ h2⟩
 |ptr i p off=>exact sD (key h)
 |_=>exact key h
theorem a2O{j:Nat}{B:AV}:∀{e:Env} {k:Env->Prop},a9s j B e k->∃e',k e'/\∀t A',vk e' t=some A'->∃A,vk e t=some A/\(A'=A\/A'=Fz j B A)
 | [],k,h=>⟨[],h,λt A h=>by simp[vk]at h⟩
 | (i,A)::e,k,h=>by
   simp only[a9s]at h;have key:∀A1,(A1=A\/A1=Fz j B A)->(a9s j B e λm=>k ((i,A1)::m))->∃e',k e'/\∀t A',vk e' t=some A'->∃A0,vk ((i,A)::e) t=some A0/\(A'=A0\/A'=Fz j B A0):=by
    intro A1 hA1 h;obtain⟨e',h1,h2⟩:=a2O h;refine⟨_,h1,λt A' h=>?_⟩;simp only[vk]at h ⊢;cases hb:Nat.beq i t with
    |true =>rw[hb]at h;obtain rfl:=aW h;exact⟨A,rfl,hA1⟩
    |false=>rw[hb]at h;exact h2 t A' h
   cases hp:b0Z j A with
   |false=>rw[hp]at h;exact key A (.inl rfl) h
   |true=>rw[hp]at h;exact key _ (.inr rfl) (ER.1 h)
inductive Kq(j:Nat)(B:AV):Heap->Heap->Prop where
 |nil:Kq j B [] []
 |gone (i:Nat) (o:HO) (hb:Nat.beq i j=true) {H G:Heap} (h:Kq j B H G):Kq j B ((i,o)::H) ((i,.gone)::G)
 |keep (i:Nat) (o:HO) (hb:Nat.beq i j=false) {H G:Heap} (h:Kq j B H G):Kq j B ((i,o)::H) ((i,o)::G)
 |box (i:Nat) (A:AV) (hb:Nat.beq i j=false) {H G:Heap} (h:Kq j B H G):Kq j B ((i,.box A)::H) ((i,.box (Fz j B A))::G)
theorem Ll{j:Nat}{B:AV}:∀{H:Heap} {k:Heap->Prop},YM j B H k->∃G,k G/\Kq j B H G
 | [],k,h=>⟨[],h,.nil⟩
 | (i,o)::H,k,h=>by
   simp only[YM]at h;cases hb:Nat.beq i j with
   |true =>rw[hb]at h;obtain⟨G,h1,h2⟩:=Ll h;exact⟨_,h1,.gone i o hb h2⟩
   | false =>
     rw[hb]at h;dsimp only at h;split at h
     ·rename_i A;cases hp:b0Z j A with
      |false =>rw[hp]at h;obtain⟨G,h1,h2⟩:=Ll h;exact⟨_,h1,.keep i _ hb h2⟩
      |true =>rw[hp]at h;obtain⟨G,h1,h2⟩:=Ll (ER.1 h);exact⟨_,h1,.box i A hb h2⟩
     obtain⟨G,h1,h2⟩:=Ll h;exact⟨_,h1,.keep i _ hb h2⟩
theorem Kq.mem{j:Nat}{B:AV}{H G:Heap}(h:Kq j B H G):∀y∈G,(y.1=j/\y.2=.gone)\/∃o,(y.1,o)∈H/\y.1≠j/\(y.2=o\/∃A,o=.box A/\y.2=.box (Fz j B A)):=by
 induction h with
 |nil=>simp
 |gone i o hb h ih =>intro y hy;rcases aU.1 hy with rfl|hy;{exact .inl ⟨aJ hb,rfl⟩};exact(ih y hy).imp id fun⟨o',h1,h2⟩=>⟨o',cZ _ h1,h2⟩
 |keep i o hb h ih =>intro y hy;rcases aU.1 hy with rfl|hy;{exact .inr ⟨o,dD,xw hb,.inl rfl⟩};exact(ih y hy).imp id fun⟨o',h1,h2⟩=>⟨o',cZ _ h1,h2⟩
 |box i A hb h ih =>intro y hy;rcases aU.1 hy with rfl|hy;{exact .inr ⟨_,dD,xw hb,.inr ⟨A,rfl,rfl⟩⟩};exact(ih y hy).imp id fun⟨o',h1,h2⟩=>⟨o',cZ _ h1,h2⟩
theorem Kq.next{j:Nat}{B:AV}{H G:Heap}(h:Kq j B H G):nextId G=nextId H:=by cases h <;> rfl
theorem Kq.ids{j:Nat}{B:AV}{H G:Heap}(h:Kq j B H G):uS H->uS G:=by
 have lt:∀{H G:Heap},Kq j B H G->∀n,(∀x∈H,x.1<n)->∀y∈G,y.1<n:=by
  intro H G h;induction h with
  |nil=>simp
  |gone i o hb h ih=>intro n hn y hy;rcases aU.1 hy with rfl|hy;exact hn (i,o) dD;exact ih n (λx hx=>hn x (cZ _ hx)) y hy
  |keep i o hb h ih=>intro n hn y hy;rcases aU.1 hy with rfl|hy;exact hn (i,o) dD;exact ih n (λx hx=>hn x (cZ _ hx)) y hy
  |box i A hb h ih=>intro n hn y hy;rcases aU.1 hy with rfl|hy;exact hn (i,.box A) dD;exact ih n (λx hx=>hn x (cZ _ hx)) y hy
 induction h with
 |nil=>exact id
 |gone i o hb h ih=>intro hi;simp only[uS]at hi ⊢;exact⟨lt h i hi.1,ih hi.2⟩
 |keep i o hb h ih=>intro hi;simp only[uS]at hi ⊢;exact⟨lt h i hi.1,ih hi.2⟩
 |box i A hb h ih=>intro hi;simp only[uS]at hi ⊢;exact⟨lt h i hi.1,ih hi.2⟩
theorem Kq.tp{j:Nat}{B:AV}{H G:Heap}(h:Kq j B H G){A0:AV}(hj:hget H j=some (.box A0)):uj G=uj H:=by
 have key:∀{H G:Heap},Kq j B H G->∀k,k≠j->uj G k=uj H k:=by
  intro H G h;induction h with
  |nil=>intro k _;rfl
  | gone i o hb h ih =>
    intro k hk;have hik:Nat.beq i k=false:=by
     cases h':Nat.beq i k with
     |false=>rfl
     |true=>exact absurd ((aJ h').symm.trans (aJ hb)) hk
    have:=ih k hk;simp only[uj,hget,hik]at this ⊢;exact this
  | keep i o hb h ih =>
    intro k hk;have:=ih k hk;simp only[uj,hget]at this ⊢;cases Nat.beq i k with
    |true=>rfl
    |false=>exact this
  | box i A hb h ih =>
    intro k hk;have:=ih k hk;simp only[uj,hget]at this ⊢;cases Nat.beq i k with
    |true=>rfl
    |false=>exact this
 have kj:∀{H G:Heap},Kq j B H G->hget G j=none\/hget G j=some .gone:=by
  intro H G h;induction h with
  |nil=>exact .inl rfl
  |gone i o hb h ih=>simp only[hget,hb];exact .inr trivial
  |keep i o hb h ih=>simp only[hget,hb];exact ih
  |box i A hb h ih=>simp only[hget,hb];exact ih
 funext k;by_cases hk:k=j
 ·subst hk;have h1:uj H k=none:=by simp only[uj,hj]
  rw[h1];rcases kj h with h2|h2 <;> simp only[uj,h2]
 exact key h k hk
theorem TM:∀{H:Heap} {k i:Nat} {o o':HO},(i,o)∈H->i≠k->(i,o)∈hset H k o'
 | (x,y)::H,k,i,o,o',h,hn=>by
   simp only[hset];cases hb:Nat.beq x k with
   |true =>rcases aU.1 h with h|h;{exact absurd (by rw[<- aJ hb];exact kR Prod.fst h) hn};exact cZ _ h
   |false =>rcases aU.1 h with h|h;{rw[h];exact dD};exact cZ _ (TM h hn)
theorem OU{n:Nat}:∀{js:List Nat} {e:Env} {H:Heap} {c:Cx} {a:Act} {k:Env->Heap->Prop},HR c H->Cc n c e a->YL js e H k->∃e1 H1 d,d.w=c.w/\Tr c H d H1/\Cc n d e1 a/\k e1 H1
 | [],e,H,c,a,k,hr,ha,h=>⟨e,H,c,rfl,.refl hr,ha,h⟩
 | j::js,e,H,c,a,k,hr,ha,h=>by
   simp only[YL]at h;obtain⟨o,ho,h⟩:=uo.1 h;split at h;case h_2=>exact h.elim
   rename_i A;obtain⟨⟨hpu,hst⟩,h⟩:=h;obtain⟨e1,h,he1⟩:=a2O h;obtain⟨G,h,hG⟩:=Ll h;obtain⟨cs,ty,g1,g2,g3⟩:=hr.EM ho;let d:Cx:={ c with Im:=λb o=>c.Im b o\/b=c.ρ j };have le:c.Le d:=⟨λb o h=>⟨.inl h,rfl⟩,aT _,λ_ _=>rfl,λ_ _ _ h=>.inl ⟨h,rfl⟩⟩;have hRd:Rd d.w d.Im A cs:=by have:=Hr A cs hpu g2;rw[hst]at this;exact wC le.im _ _ this
   have hP:∀cs',VR d (.ptr j [] 0) cs'->VR d (.cp A) cs':=(by intro cs' h;simp only[VR]at h;obtain⟨_,rfl⟩:=h;simp only[VR,Rd];refine⟨_,cs,rfl,rfl,λi v hi=>⟨?_,.inr rfl⟩,hRd⟩;show c.w.cell? _=_;rw[cell_of_heap g1];simpa using hi);have htr:Tr c H d (hset H j .gone):=(by refine Tr.set hr ho le rfl (by rw[xu ho (by intros;simp) (by intros;simp)];exact hr.tp) (λ_ _=>rfl) rfl rfl rfl (aT _) (λ_ _ _=>rfl) ?_ ?_ trivial;{rintro b x (h|h);{exact .inl h};exact .inr (.inr (by simp[ru,h]))};intro b h;simp[ru]at h);have YK:=hG.ids hr.ids;have hmem:∀y∈G,(y.1=j/\y.2=.gone)\/∃o,(y.1,o)∈hset H j .gone/\ru d y=ru d (y.1,o)/\(o.Ok d y.1->y.2.Ok d y.1):=(by intro y hy;rcases hG.mem y hy with h|⟨o,h1,h2,h3⟩;{exact .inl h};refine .inr ⟨o,?_,?_,?_⟩;{exact TM h1 h2};{obtain⟨i,y2⟩:=y;rcases h3 with rfl|⟨A',rfl,h3⟩;{rfl};dsimp only at h3;subst h3;rfl};intro hok;obtain⟨i,y2⟩:=y;rcases h3 with rfl|⟨A',rfl,h3⟩;{exact hok};dsimp only at h3;subst h3;obtain⟨cs',ty',k1,k2,k3⟩:=hok;exact⟨cs',ty',k1,Ye hP _ _ k2,k3⟩);have hr2:HR d G:=(by refine⟨?_,?_,YK,htr.hr.im,?_,?_⟩;{rw[hG.next];exact hr.nx};{rw[hG.tp ho];exact hr.tp};{intro y hy;rcases hmem y hy with⟨_,h⟩|⟨o,h1,_,h3⟩;{rw[h];trivial};exact h3 (htr.hr.ok _ h1)};refine wJ YK λx hx y hy hn b hb hb'=>?_;rcases hmem x hx with⟨_,h⟩|⟨o,h1,h2,_⟩;{simp[ru,h]at hb};rcases hmem y hy with⟨_,h⟩|⟨o',h1',h2',_⟩;{simp[ru,h]at hb'};rw[h2]at hb;rw[h2']at hb';exact htr.hr.apart' h1 h1' hn hb hb');have Uu:Tr c H d G:=(by refine⟨hr2,le,rfl,rfl,rfl,aT _,λ_ _ _=>rfl,?_,htr.imb⟩;intro y hy b hb;rcases hmem y hy with⟨_,h⟩|⟨o,h1,h2,_⟩;{simp[ru,h]at hb};rw[h2]at hb;exact htr.own _ h1 b hb);have ha1:Cc n d e1 a:=(by have ha':=ha.mono le;refine⟨λt A' hA'=>?_,ha.defers,ha.size⟩;obtain⟨A0,h1,h2⟩:=he1 t A' hA';rcases h2 with rfl|rfl;{exact ha'.env t _ h1};exact b53 hP (ha'.env t _ h1));obtain⟨e2,H2,d2,k1,k2,k3,k4⟩:=OU hr2 ha1 h;exact⟨e2,H2,d2,k1,Uu.trans k2,k3,k4⟩
theorem LG{L:Lay}{H:Heap}:∀{pl:List (Nat×AV×AV)} {k:Prop},b07 L H pl k↔(∀p∈pl,Ap L p.1 p.2.1 H λR=>R=p.2.2)/\k
 | [],k=>by simp[b07]
 |(t,A,R)::pl,k=>by simp only[b07,LG,aU,forall_eq_or_imp,and_assoc]
theorem Fh {F:FT} {L:Lay} {ops:List Oper} {fl:List Nat} {k:Env->Heap->Prop}:∀{l:List (Oper×Bool)} {i:Nat} {pl:List (Nat×AV×AV)} {e:Env} {H:Heap},Iw F L ops fl i l pl e H k ->
  ∃ rs ef Hf,rs.map (λr=>(r.o,r.nb))=l/\FV F L ops rs e H ef Hf/\k ef Hf /\
    (∀p∈pl,∀rj∈rs,rj.nb=false->rj.ran=true->JX fl rj.o.op=true->Ap L p.1 p.2.1 rj.H' λR=>R=p.2.2) /\
    ∀(a b:Nat) (ra rb:Rec),a<b->rs[a]? = some ra->rs[b]? = some rb->IJ fl (i+a)=true->tu ra.o.op=true->ra.nb=false->ra.ran=true->rb.nb=false->rb.ran=true->JX fl rb.o.op=true->xE F L ra rb.H'
 | [],i,pl,e,H,h=>⟨[],e,H,rfl,⟨rfl,rfl⟩,h,ak,λa b ra rb _ h=>by simp at h⟩
 | (o,nb)::l,i,pl,e,H,h=>by
   simp only[Iw]at h;obtain⟨e',b,h1,h2,h3,h4⟩:=OQ h
   -- what is known of the rest does for the whole,if the first is no such load
   have step:∀{r:Rec} {rs:List Rec} {Ur:List (Nat×AV×AV)},(∀p∈pl,p∈Ur)->(∀p∈pl,r.nb=false->r.ran=true->JX fl r.o.op=true->Ap L p.1 p.2.1 r.H' λR=>R=p.2.2) ->
     (∀p∈Ur,∀rj∈rs,rj.nb=false->rj.ran=true->JX fl rj.o.op=true->Ap L p.1 p.2.1 rj.H' λR=>R=p.2.2) ->
     (IJ fl i=true->tu r.o.op=true->r.nb=false->r.ran=true->∃t x B,r.o.op=.load t x/\(t,B,r.A)∈Ur/\∀K:AV->Prop,K B->uw r.e x K) ->
     (∀(a b:Nat) (ra rb:Rec),a<b->rs[a]? = some ra->rs[b]? = some rb->IJ fl (i+1+a)=true->tu ra.o.op=true->ra.nb=false->ra.ran=true->rb.nb=false->rb.ran=true->JX fl rb.o.op=true->xE F L ra rb.H') ->
     (∀p∈pl,∀rj∈r::rs,rj.nb=false->rj.ran=true->JX fl rj.o.op=true->Ap L p.1 p.2.1 rj.H' λR=>R=p.2.2) /\
     ∀(a b:Nat) (ra rb:Rec),a<b->(r::rs)[a]? = some ra->(r::rs)[b]? = some rb->IJ fl (i+a)=true->tu ra.o.op=true->ra.nb=false->ra.ran=true->rb.nb=false->rb.ran=true->JX fl rb.o.op=true->xE F L ra rb.H':=by
    intro r rs Ur s1 s2 s3 s4 s5;refine⟨λp hp rj hj=>?_,λa b ra rb hab ha hb g1 g2 g3 g4 g5 g6 g7=>?_⟩;{rcases aU.1 hj with rfl|hj;{exact s2 p hp};exact s3 p (s1 p hp) rj hj};obtain⟨b,rfl⟩:∃c,b=c+1:=⟨b-1,aj⟩;simp only[dV]at hb;cases a with
    |zero =>simp at ha;subst ha;obtain⟨t,x,B,k1,k2,k3⟩:=s4 g1 g2 g3 g4;have:=s3 _ k2 rb (bP hb) g5 g6 g7;unfold xE;rw[k1];simp only[xI];refine k3 _ ?_;obtain⟨R,k4,k5⟩:=Am _ _ _ _ _ this;exact k5 _ ⟨k4,trivial⟩
    |succ a =>simp only[dV]at ha;exact s5 a b ra rb aj ha hb (by rw[show i+1+a=i+(a+1) by omega];exact g1) g2 g3 g4 g5 g6 g7
   cases b with
   |false =>obtain⟨rs,ef,Hf,g1,g2,g3,g4,g5⟩:=Fh (Dz.1 (h4 rfl));exact⟨⟨o,nb,false,e',.uy [],H,H⟩::rs,ef,Hf,by simp[g1],⟨rfl,h1,h2,(λh=>by cases h),λ_=>⟨rfl,rfl⟩,g2⟩,g3,step (λ_ h=>h) (λ_ _ _ h=>by cases h) g4 (λ_ _ _ h=>by cases h) g5⟩
   | true =>
     have h3:=h3 rfl;cases nb with
     |true =>obtain⟨A,h5,h6⟩:=a1x _ h3;obtain⟨rs,ef,Hf,g1,g2,g3,g4,g5⟩:=Fh (Dz.1 h5);exact⟨⟨o,true,true,e',A,H,H⟩::rs,ef,Hf,by simp[g1],⟨rfl,h1,h2,(λ_=>.inl ⟨rfl,rfl,h6⟩),(λh=>by cases h),g2⟩,g3,step (λ_ h=>h) (λ_ _ h=>by cases h) g4 (λ_ _ h=>by cases h) g5⟩
     | false =>
       obtain⟨hn,h3⟩:=Gn.1 h3;rcases a2W hn _ _ h3 with⟨A,H',h5,h6⟩|⟨H',h5,h6⟩
       ·obtain⟨c1,h5⟩:=LG.1 h5;have hadd:∃Ur,(∀p∈pl,p∈Ur)/\(IJ fl i=true->tu o.op=true->∃t x B,o.op=.load t x/\(t,B,A)∈Ur/\∀K:AV->Prop,K B->uw e' x K)/\CO o.dst A e' λe'=>Iw F L ops fl (i+1) l Ur e' H' k:=by
         unfold b5V at h5;split at h5;{rename_i t x _ ho;obtain⟨B,h7,h8⟩:=sJ _ _ _ h5;exact⟨_,λp hp=>cZ _ hp,λ_ _=>⟨t,x,B,ho,dD,h8⟩,h7⟩};rename_i hne;refine⟨pl,λ_ h=>h,λhm hl=>?_,h5⟩;cases ho:o.op with
         |load t x=>exact(hne t x hm ho).elim
         |_=>simp[ho,tu]at hl
        obtain⟨Ur,p1,p2,h5⟩:=hadd;obtain⟨rs,ef,Hf,g1,g2,g3,g4,g5⟩:=Fh (Dz.1 h5);refine⟨⟨o,false,true,e',A,H,H'⟩::rs,ef,Hf,by simp[g1],⟨rfl,h1,h2,(λ_=>.inr (.inl ⟨rfl,h6⟩)),(λh=>by cases h),g2⟩,g3,step p1 (λp hp _ _ hv=>?_) g4 (λhm hl _ _=>p2 hm hl) g5⟩;dsimp only at hv;rw[hv]at c1;exact c1 p hp
       cases hd:o.dst with
       |some d=>simp only[hd]at h5
       | none =>
         simp only[hd]at h5;obtain⟨c1,h5⟩:=LG.1 h5;obtain⟨rs,ef,Hf,g1,g2,g3,g4,g5⟩:=Fh h5;have hnv:∀t x,o.op≠.load t x:=by intro t x ho;rw[ho]at h6;have:=h6 (λ_ _=>False) (λ_=>True) trivial;simp only[xI]at this;obtain⟨A,q1,_⟩:=sJ _ _ _ this;obtain⟨R,q2,_⟩:=Am _ _ _ _ _ q1;exact q2
         refine⟨⟨o,false,true,e',.und,H,H'⟩::rs,ef,Hf,by simp[g1],⟨rfl,h1,h2,(λ_=>.inr (.inr ⟨rfl,hd,h6⟩)),(λh=>by cases h),?_⟩,g3,step (λ_ h=>h) (λp hp _ _ hv=>by dsimp only at hv;rw[hv]at c1;exact c1 p hp) g4 (λ_ h=>?_) g5⟩;{simpa[KT,hd]using g2};exfalso;cases ho:o.op with
         |load t x=>exact hnv t x ho
         |_=>simp[ho,tu]at h
theorem a3b{L:Lay}{t:Nat}{A R:AV}:∀{hs:List Heap} {k:Prop},b5p L t A R hs k↔(∀G∈hs,Ap L t A G λR'=>R'=R)/\k
 | [],k=>by simp[b5p]
 |G::hs,k=>by simp only[b5p,a3b,aU,forall_eq_or_imp,and_assoc]
structure GF(F:FT)(L:Lay)(gl:List Nat)(i:Nat)(hs:List Heap)(rs:List Rec):Prop where
 g1:∀G∈hs,∀(b:Nat) (rb:Rec),rs[b]? = some rb->IJ gl (i+b)=true->tu rb.o.op=true->rb.nb=false->rb.ran=true->xE F L rb G
 g2:∀(a b:Nat) (ra rb:Rec),a<b->rs[a]? = some ra->rs[b]? = some rb->IJ gl (i+b)=true->tu rb.o.op=true->rb.nb=false->rb.ran=true->ra.nb=false->tu ra.o.op=false->ra.ran=true->xE F L rb ra.H
theorem GF.step{F:FT}{L:Lay}{gl:List Nat}{i:Nat}{hs hs':List Heap}{r:Rec}{rs:List Rec}(t1:∀G∈hs,G∈hs')
  (t2:IJ gl i=true->tu r.o.op=true->r.nb=false->r.ran=true->∀G∈hs,xE F L r G) (t3:r.nb=false->tu r.o.op=false->r.ran=true->r.H∈hs') (h:GF F L gl (i+1) hs' rs):GF F L gl i hs (r::rs):=by
 refine⟨λG hG b rb hb k1 k2 k3 k4=>?_,λa b ra rb hab ha hb k1 k2 k3 k4 k5 k6 k7=>?_⟩
 ·cases b with
  |zero=>simp at hb;subst hb;exact t2 k1 k2 k3 k4 G hG
  |succ b =>simp only[dV]at hb;exact h.g1 G (t1 G hG) b rb hb (by rw[show i+1+b=i+(b+1) by omega];exact k1) k2 k3 k4
 obtain⟨b,rfl⟩:∃c,b=c+1:=⟨b-1,aj⟩;simp only[dV]at hb;have k1:IJ gl (i+1+b)=true:=(by rw[show i+1+b=i+(b+1) by omega];exact k1);cases a with
 |zero=>simp at ha;subst ha;exact h.g1 _ (t3 k5 k6 k7) b rb hb k1 k2 k3 k4
 |succ a =>simp only[dV]at ha;exact h.g2 a b ra rb aj ha hb k1 k2 k3 k4 k5 k6 k7
theorem Fj {F:FT} {L:Lay} {ops:List Oper} {fl gl:List Nat} {k:Env->Heap->Prop}:∀{l:List (Oper×Bool)} {i:Nat} {pl:List (Nat×AV×AV)} {hs:List Heap} {e:Env} {H:Heap},Gg F L ops fl gl i l pl hs e H k ->
  ∃ rs ef Hf,rs.map (λr=>(r.o,r.nb))=l/\FV F L ops rs e H ef Hf/\k ef Hf /\
    ((∀p∈pl,∀rj∈rs,rj.nb=false->rj.ran=true->JX fl rj.o.op=true->Ap L p.1 p.2.1 rj.H' λR=>R=p.2.2) /\
    ∀(a b:Nat) (ra rb:Rec),a<b->rs[a]? = some ra->rs[b]? = some rb->IJ fl (i+a)=true->tu ra.o.op=true->ra.nb=false->ra.ran=true->rb.nb=false->rb.ran=true->JX fl rb.o.op=true->xE F L ra rb.H')/\GF F L gl i hs rs
 | [],i,pl,hs,e,H,h=>⟨[],e,H,rfl,⟨rfl,rfl⟩,h,⟨ak,λa b ra rb _ h=>by simp at h⟩,⟨λG _ b rb h=>by simp at h,λa b ra rb _ h=>by simp at h⟩⟩
 | (o,nb)::l,i,pl,hs,e,H,h=>by
   simp only[Gg]at h;obtain⟨e',b,h1,h2,h3,h4⟩:=OQ h
   -- what is known of the rest does for the whole,if the first is no such load
   have step:∀{r:Rec} {rs:List Rec} {Ur:List (Nat×AV×AV)},(∀p∈pl,p∈Ur)->(∀p∈pl,r.nb=false->r.ran=true->JX fl r.o.op=true->Ap L p.1 p.2.1 r.H' λR=>R=p.2.2) ->
     (∀p∈Ur,∀rj∈rs,rj.nb=false->rj.ran=true->JX fl rj.o.op=true->Ap L p.1 p.2.1 rj.H' λR=>R=p.2.2) ->
     (IJ fl i=true->tu r.o.op=true->r.nb=false->r.ran=true->∃t x B,r.o.op=.load t x/\(t,B,r.A)∈Ur/\∀K:AV->Prop,K B->uw r.e x K) ->
     (∀(a b:Nat) (ra rb:Rec),a<b->rs[a]? = some ra->rs[b]? = some rb->IJ fl (i+1+a)=true->tu ra.o.op=true->ra.nb=false->ra.ran=true->rb.nb=false->rb.ran=true->JX fl rb.o.op=true->xE F L ra rb.H') ->
     (∀p∈pl,∀rj∈r::rs,rj.nb=false->rj.ran=true->JX fl rj.o.op=true->Ap L p.1 p.2.1 rj.H' λR=>R=p.2.2) /\
     ∀(a b:Nat) (ra rb:Rec),a<b->(r::rs)[a]? = some ra->(r::rs)[b]? = some rb->IJ fl (i+a)=true->tu ra.o.op=true->ra.nb=false->ra.ran=true->rb.nb=false->rb.ran=true->JX fl rb.o.op=true->xE F L ra rb.H':=by
    intro r rs Ur s1 s2 s3 s4 s5;refine⟨λp hp rj hj=>?_,λa b ra rb hab ha hb g1 g2 g3 g4 g5 g6 g7=>?_⟩;{rcases aU.1 hj with rfl|hj;{exact s2 p hp};exact s3 p (s1 p hp) rj hj};obtain⟨b,rfl⟩:∃c,b=c+1:=⟨b-1,aj⟩;simp only[dV]at hb;cases a with
    |zero =>simp at ha;subst ha;obtain⟨t,x,B,k1,k2,k3⟩:=s4 g1 g2 g3 g4;have:=s3 _ k2 rb (bP hb) g5 g6 g7;unfold xE;rw[k1];simp only[xI];refine k3 _ ?_;obtain⟨R,k4,k5⟩:=Am _ _ _ _ _ this;exact k5 _ ⟨k4,trivial⟩
    |succ a =>simp only[dV]at ha;exact s5 a b ra rb aj ha hb (by rw[show i+1+a=i+(a+1) by omega];exact g1) g2 g3 g4 g5 g6 g7
   cases b with
   |false =>obtain⟨rs,ef,Hf,g1,g2,g3,⟨g4,g5⟩,g6⟩:=Fj (Dz.1 (h4 rfl));exact⟨⟨o,nb,false,e',.uy [],H,H⟩::rs,ef,Hf,by simp[g1],⟨rfl,h1,h2,(λh=>by cases h),λ_=>⟨rfl,rfl⟩,g2⟩,g3,step (λ_ h=>h) (λ_ _ _ h=>by cases h) g4 (λ_ _ _ h=>by cases h) g5,.step (λ_ h=>h) (λ_ _ _ h=>by cases h) (λ_ _ h=>by cases h) g6⟩
   | true =>
     have h3:=h3 rfl;cases nb with
     |true =>obtain⟨A,h5,h6⟩:=a1x _ h3;obtain⟨rs,ef,Hf,g1,g2,g3,⟨g4,g5⟩,g6⟩:=Fj (Dz.1 h5);exact⟨⟨o,true,true,e',A,H,H⟩::rs,ef,Hf,by simp[g1],⟨rfl,h1,h2,(λ_=>.inl ⟨rfl,rfl,h6⟩),(λh=>by cases h),g2⟩,g3,step (λ_ h=>h) (λ_ _ h=>by cases h) g4 (λ_ _ h=>by cases h) g5,.step (λ_ h=>h) (λ_ _ h=>by cases h) (λh=>by cases h) g6⟩
     | false =>
       obtain⟨hn,h3⟩:=Gn.1 h3;rcases a2W hn _ _ h3 with⟨A,H',h5,h6⟩|⟨H',h5,h6⟩
       ·obtain⟨c1,h5⟩:=LG.1 h5;have b6V:(IJ gl i=true->tu o.op=true->∀G∈hs,xE F L ⟨o,false,true,e',A,H,H'⟩ G)/\b5V fl i o.op e' A pl λUr=>CO o.dst A e' λe'=>Gg F L ops fl gl (i+1) l Ur (match tu o.op with|true=>hs|false=>H::hs) e' H' k:=by
         unfold b7S at h5;split at h5;{rename_i t x _ ho;obtain⟨B,h7,h8⟩:=sJ _ _ _ h5;obtain⟨h9,h7⟩:=a3b.1 h7;refine⟨λ_ _ G hG=>?_,h7⟩;unfold xE;dsimp only;rw[ho];simp only[xI];refine h8 _ ?_;obtain⟨R,k4,k5⟩:=Am _ _ _ _ _ (h9 G hG);exact k5 _ ⟨k4,trivial⟩};rename_i hne;refine⟨λhm hl=>?_,h5⟩;cases ho:o.op with
         |load t x=>exact(hne t x hm ho).elim
         |_=>simp[ho,tu]at hl
        obtain⟨hgG,h5⟩:=b6V;have hadd:∃Ur,(∀p∈pl,p∈Ur)/\(IJ fl i=true->tu o.op=true->∃t x B,o.op=.load t x/\(t,B,A)∈Ur/\∀K:AV->Prop,K B->uw e' x K)/\CO o.dst A e' λe'=>Gg F L ops fl gl (i+1) l Ur (match tu o.op with|true=>hs|false=>H::hs) e' H' k:=by
         unfold b5V at h5;split at h5;{rename_i t x _ ho;obtain⟨B,h7,h8⟩:=sJ _ _ _ h5;exact⟨_,λp hp=>cZ _ hp,λ_ _=>⟨t,x,B,ho,dD,h8⟩,h7⟩};rename_i hne;refine⟨pl,λ_ h=>h,λhm hl=>?_,h5⟩;cases ho:o.op with
         |load t x=>exact(hne t x hm ho).elim
         |_=>simp[ho,tu]at hl
        obtain⟨Ur,p1,p2,h5⟩:=hadd;obtain⟨rs,ef,Hf,g1,g2,g3,⟨g4,g5⟩,g6⟩:=Fj (Dz.1 h5);refine⟨⟨o,false,true,e',A,H,H'⟩::rs,ef,Hf,by simp[g1],⟨rfl,h1,h2,(λ_=>.inr (.inl ⟨rfl,h6⟩)),(λh=>by cases h),g2⟩,g3,step p1 (λp hp _ _ hv=>?_) g4 (λhm hl _ _=>p2 hm hl) g5,.step (λG hG=>?_) (λhm hl _ _=>hgG hm hl) (λ_ hl _=>?_) g6⟩;{dsimp only at hv;rw[hv]at c1;exact c1 p hp}
        ·cases tu o.op with
         |true=>exact hG
         |false=>exact cZ _ hG
        dsimp only at hl;rw[hl];exact dD
       cases hd:o.dst with
       |some d=>simp only[hd]at h5
       | none =>
         simp only[hd]at h5;obtain⟨c1,h5⟩:=LG.1 h5;obtain⟨rs,ef,Hf,g1,g2,g3,⟨g4,g5⟩,g6⟩:=Fj h5;have hnv:∀t x,o.op≠.load t x:=by intro t x ho;rw[ho]at h6;have:=h6 (λ_ _=>False) (λ_=>True) trivial;simp only[xI]at this;obtain⟨A,q1,_⟩:=sJ _ _ _ this;obtain⟨R,q2,_⟩:=Am _ _ _ _ _ q1;exact q2
         refine⟨⟨o,false,true,e',.und,H,H'⟩::rs,ef,Hf,by simp[g1],⟨rfl,h1,h2,(λ_=>.inr (.inr ⟨rfl,hd,h6⟩)),(λh=>by cases h),?_⟩,g3,step (λ_ h=>h) (λp hp _ _ hv=>by dsimp only at hv;rw[hv]at c1;exact c1 p hp) g4 (λ_ h=>?_) g5,.step (λG hG=>cZ _ hG) (λ_ h=>?_) (λ_ _ _=>dD) g6⟩;{simpa[KT,hd]using g2};all_goals
          exfalso;cases ho:o.op with
          |load t x=>exact hnv t x ho
          |_=>simp[ho,tu]at h
theorem a6x{ops:List Oper}{mask:List Bool}{fl:List Nat}{rs:List Rec}(h:a6y ops mask fl=true)(hm:rs.map (λr=>(r.o,r.nb))=ops.zip mask) :
  zu (λi j=>∃ri rj,i<j/\rs[i]? = some ri/\rs[j]? = some rj/\b04 ops fl ((ri.o,ri.nb),i) ((rj.o,rj.nb),j)=true) ops rs:=by
 have hget:∀(j:Nat) (r:Rec),rs[j]? = some r->(ops.zip mask)[j]? = some (r.o,r.nb):=(by intro j r hr;rw[<- hm,dS,hr];rfl);have h0:=h;unfold a6y at h;simp only[aK]at h;obtain⟨⟨⟨⟨h1,h2⟩,h3⟩,h5⟩,h4⟩:=h
 -- all but the clashes is as before
 have hlen:=aJ h1;refine⟨?_,λj r hr=>?_,λj r hr hn=>?_,λj o ho e he hb=>?_,λi j ri rj hij hi hj hc=>?_,λi j ri rj hx hi hj=>?_,λj r hr hn hw=>?_,λi j k ri rj rk d hij hjk hi hj hk hn hl hn' hw hd hm=>?_⟩;{have:=kR List.length hm;simp at this;omega};{have:=hget j r hr;rw[l7]at this;exact this.1};{have:=bD.1 h2 _ (bP (hget j r hr));simpa[hn]using this};{have:=uh h3 ho;have:=bD.1 this e he;rw[hb]at this;simpa using this};{have:=uh h4 (hget j rj hj);have:=uh this (hget i ri hi);have hlt:Nat.blt i j=true:=(by simpa using hij);simp only[hlt,hc,fV,fD,fP]at this;exact this.imp id λh=>⟨ri,rj,hij,hi,hj,h⟩};{obtain⟨ri',rj',_,hi',hj',he⟩:=hx;rw[hi]at hi';obtain rfl:=aW hi';rw[hj]at hj';obtain rfl:=aW hj';simp only[b04,aK,dU]at he;obtain⟨⟨⟨⟨⟨⟨e1,e2⟩,e3⟩,e4⟩,e5⟩,e6⟩,e7⟩:=he;refine⟨.inl ⟨e2,e3⟩,trivial,λt ht hm=>?_,λt ht hm=>?_⟩;{rw[ht]at e6;simp only[dU]at e6;have:(uM ops rj.o).contains t=true:=(by simpa using hm);rw[this]at e6;cases e6};rw[ht]at e7;simp only[dU]at e7;have:(uM ops ri.o).contains t=true:=(by simpa using hm);rw[this]at e7;cases e7}
 ·have:=uh h5 (hget j r hr);simp only[hn,hw,jy,jq,fV,fD,aK]at this;obtain⟨g1,g2⟩:=this;refine⟨?_,?_⟩
  ·cases hg:r.o.guard with
   |none=>rfl
   |some g=>rw[hg]at g1;cases g1
  cases hd:r.o.dst with
  |none=>rw[hd]at g2;cases g2
  |some d=>exact⟨d,rfl⟩
 have:=uh h5 (hget j rj hj);simp only[hn',hw,jy,jq,fV,fD,aK,hd]at this;have:=uh this.2 (hget i ri hi);have hlt:Nat.blt i j=true:=(by simpa using hij);have hlt2:Nat.blt j k=true:=(by simpa using hjk);simp only[hlt,hn,hl,fV,fD,fP]at this;rcases this with this|this;{exact .inl this};have:=uh this (hget k rk hk);have hc:(uM ops rk.o).contains d=true:=(by simpa using hm);simp only[hlt2,hc,fV,fD]at this;exact .inr this
theorem a6z{ops:List Oper}{mask:List Bool}{fl gl:List Nat}{rs:List Rec}(h:a6A ops mask fl gl=true)(hm:rs.map (λr=>(r.o,r.nb))=ops.zip mask) :
  zu (λi j=>∃ri rj,i<j/\rs[i]? = some ri/\rs[j]? = some rj/\(b04 ops fl ((ri.o,ri.nb),i) ((rj.o,rj.nb),j)=true\/b6b ops gl ((ri.o,ri.nb),i) ((rj.o,rj.nb),j)=true)) ops rs:=by
 have hget:∀(j:Nat) (r:Rec),rs[j]? = some r->(ops.zip mask)[j]? = some (r.o,r.nb):=(by intro j r hr;rw[<- hm,dS,hr];rfl);have h0:=h;unfold a6A at h;simp only[aK]at h;obtain⟨⟨⟨⟨h1,h2⟩,h3⟩,h5⟩,h4⟩:=h
 -- all but the clashes is as before
 have hlen:=aJ h1;refine⟨?_,λj r hr=>?_,λj r hr hn=>?_,λj o ho e he hb=>?_,λi j ri rj hij hi hj hc=>?_,λi j ri rj hx hi hj=>?_,λj r hr hn hw=>?_,λi j k ri rj rk d hij hjk hi hj hk hn hl hn' hw hd hm=>?_⟩;{have:=kR List.length hm;simp at this;omega};{have:=hget j r hr;rw[l7]at this;exact this.1};{have:=bD.1 h2 _ (bP (hget j r hr));simpa[hn]using this};{have:=uh h3 ho;have:=bD.1 this e he;rw[hb]at this;simpa using this};{have:=uh h4 (hget j rj hj);have:=uh this (hget i ri hi);have hlt:Nat.blt i j=true:=(by simpa using hij);simp only[hlt,hc,fV,fD,fP]at this;rcases this with(this|this)|this;{exact .inl this};{exact .inr ⟨ri,rj,hij,hi,hj,.inl this⟩};exact .inr ⟨ri,rj,hij,hi,hj,.inr this⟩};{obtain⟨ri',rj',_,hi',hj',he⟩:=hx;rw[hi]at hi';obtain rfl:=aW hi';rw[hj]at hj';obtain rfl:=aW hj';rcases he with he|he;{simp only[b04,aK,dU]at he;obtain⟨⟨⟨⟨⟨⟨e1,e2⟩,e3⟩,e4⟩,e5⟩,e6⟩,e7⟩:=he;refine⟨.inl ⟨e2,e3⟩,trivial,λt ht hm=>?_,λt ht hm=>?_⟩;{rw[ht]at e6;simp only[dU]at e6;have:(uM ops rj.o).contains t=true:=(by simpa using hm);rw[this]at e6;cases e6};rw[ht]at e7;simp only[dU]at e7;have:(uM ops ri.o).contains t=true:=(by simpa using hm);rw[this]at e7;cases e7};simp only[b6b,aK,dU]at he;obtain⟨⟨⟨⟨⟨⟨⟨e1,e2⟩,e3⟩,e4⟩,e5⟩,e0⟩,e6⟩,e7⟩:=he;refine⟨.inr ⟨⟨e4,e5⟩,e2,e3,e0⟩,trivial,λt ht hm=>?_,λt ht hm=>?_⟩;{rw[ht]at e6;simp only[dU]at e6;have:(uM ops rj.o).contains t=true:=(by simpa using hm);rw[this]at e6;cases e6};rw[ht]at e7;simp only[dU]at e7;have:(uM ops ri.o).contains t=true:=(by simpa using hm);rw[this]at e7;cases e7}
 ·have:=uh h5 (hget j r hr);simp only[hn,hw,jy,jq,fV,fD,aK]at this;obtain⟨g1,g2⟩:=this;refine⟨?_,?_⟩
  ·cases hg:r.o.guard with
   |none=>rfl
   |some g=>rw[hg]at g1;cases g1
  cases hd:r.o.dst with
  |none=>rw[hd]at g2;cases g2
  |some d=>exact⟨d,rfl⟩
 have:=uh h5 (hget j rj hj);simp only[hn',hw,jy,jq,fV,fD,aK,hd]at this;have:=uh this.2 (hget i ri hi);have hlt:Nat.blt i j=true:=(by simpa using hij);have hlt2:Nat.blt j k=true:=(by simpa using hjk);simp only[hlt,hn,hl,fV,fD,fP]at this;rcases this with this|this;{exact .inl this};have:=uh this (hget k rk hk);have hc:(uM ops rk.o).contains d=true:=(by simpa using hm);simp only[hlt2,hc,fV,fD]at this;exact .inr this
end Go.AL
namespace Go.AL
def AX.toE:AX->Exit
 | .normal=>.normal
 | .exit i=>.exit i
 | .ret=>.ret
def AB(n:Nat):Code->Bool
 | .skip=>true
 | .region _ ops _=>ops.toList.all (GU n)
 | .seq a b=>AB n a&&AB n b
 | .cond c a b=>sU c&&AB n a&&AB n b
 | .block _ b=>AB n b
 | .loop b=>AB n b
 | .exit _=>true
 | .ret=>true
 | .label _=>true
 |_=>false
def Post(n:Nat)(ws:List Nat)(c0:Cx)(H0:Heap)(a0:Act)(Q:AX->Env->Heap->Prop):Exit->Act->World->Prop :=
 λex a w=>∃x e H c,ex=AX.toE x/\Q x e H/\c.w=w/\Tr c0 H0 c H/\Cc n c e a/\Fr ws a0 a
def xR(P:Program)(Q:Exit->Act->World->Prop)(c:Code)(a:Act)(w:World):Prop :=
 ∀b k cs,∃e a' w',Q e a' w'/\Arrives P (lone (b.at a (.code c::.inLoop c::k)) cs w) b k cs e a' w'
theorem xR.mono{P:Program}{Q Q':Exit->Act->World->Prop}{c:Code}{a:Act}{w:World}(h:xR P Q c a w)(hq:∀e a w,Q e a w->Q' e a w):xR P Q' c a w:=by intro b k cs;obtain⟨e,a',w',h1,h2⟩:=h b k cs;exact⟨e,a',w',hq _ _ _ h1,h2⟩
theorem xR.wp{P:Program}{Q:Exit->Act->World->Prop}{c:Code}{a:Act}{w:World}(h:xR P Q c a w):(Code.loop c).wp P Q a w:=by intro b k cs;obtain⟨e,a',w',hq,harr⟩:=h b k cs;exact⟨e,a',w',hq,.of_steps (.one step_loop) harr⟩
theorem xR.a4Y{P:Program}{Q:Exit->Act->World->Prop}{c:Code}{a:Act}{w:World}(h:c.wp P (Exit.then (λa' w'=>xR P Q c a' w') Q) a w):xR P Q c a w:=by
 intro b k cs;obtain⟨e,a₁,w₁,hq,harr⟩:=h b (.inLoop c::k) cs;cases e with
 |normal =>obtain⟨e₂,a₂,w₂,hq₂,harr₂⟩:=hq b k cs;exact⟨e₂,a₂,w₂,hq₂,.of_steps (Steps.trans harr (.one step_inLoop)) harr₂⟩
 |exit id=>exact⟨_,a₁,w₁,hq,.pass (x:=.inLoop c) rfl (λ_ _=>.inl ak) harr⟩
 |goto l=>exact⟨_,a₁,w₁,hq,.pass (x:=.inLoop c) rfl (λ_ _=>.inl ak) harr⟩
 |ret=>exact⟨_,a₁,w₁,hq,.pass (x:=.inLoop c) rfl (λ_ _=>.inl ak) harr⟩
 |panic ch=>exact⟨_,a₁,w₁,hq,.pass (x:=.inLoop c) rfl (λ_ _=>.inl ak) harr⟩
 |outgrown=>exact⟨_,a₁,w₁,hq,.pass (x:=.inLoop c) rfl (λ_ _=>.inl ak) harr⟩
theorem xR.ghost{P:Program}{Q:Exit->Act->World->Prop}{c:Code}(I:Nat->Act->World->Prop)
  (round:∀n a w,I n a w->c.wp P (Exit.then (λa' w'=>∃m,m<n/\I m a' w') Q) a w):∀(n:Nat) (a:Act) (w:World),I n a w->xR P Q c a w:=by
 intro n;induction n using Nat.strongRecOn with
 | _ n ih =>
   intro a w hI;refine .a4Y (wp_mono (round n a w hI) ?_);intro e a' w' h;cases e with
   |normal=>obtain⟨m,h1,h2⟩:=h;exact ih m h1 a' w' h2
   |_=>exact h
section
variable{P:Program}{L:Lay}{F:FT}
theorem Tr.a9j{c:Cx}{H:Heap}{j len cp sz:Nat}{l:List AV}(hr:HR c H)(ho:hget H j=some (.arr sz cp l))(hl:len<=l.length) :
  ∃d,d.w=c.w/\Tr c H d ((nextId H,.tok sz len)::hset H j .gone)/\(len<=cp->cp<=maxL->VV d (.sl sz (l.take len) (.own (nextId H))) (.slice (some ⟨c.ρ j,0,none⟩) len cp)):=by
 obtain⟨cs,ty,g1,g2,g3,g4,g5,g6⟩:=hr.EM ho;obtain⟨a',d',rfl,g7⟩:=Dh g5;have hjm:=wV ho;have hjs:c.ρ j<c.w.heap.size:=(dG.1 g1).1;let d:Cx:={ c with Im:=λb o=>c.Im b o\/(b=c.ρ j/\o<len*sz),nx:=c.nx+1,tk:=λk=>if k=c.nx then(some ⟨c.ρ j,0,none⟩,cp)else c.tk k,tp:=uj ((nextId H,.tok sz len)::hset H j .gone) };have hlt:∀x∈H,x.1<c.nx:=λx hx=>(by rw[hr.nx];exact sK hr.ids x hx);have hjl:j<c.nx:=hlt _ hjm;have htk:d.tk (nextId H)=(some ⟨c.ρ j,0,none⟩,cp):=(by simp[d,hr.nx]);have YK:=CU (k:=j) (o':=.gone) hr.ids;have le:c.Le d:=(by refine⟨λb o h=>⟨.inl h,rfl⟩,mF _,λ_ _=>rfl,λk n hk hn=>.inl ⟨?_,?_⟩⟩;{have hne:nextId H≠k:=(by rw[<- hr.nx];omega);simp only[d]at hn;rw[Bz hne,xu ho (by intros;simp) (by intros;simp)]at hn;rw[hr.tp];exact hn};simp only[d];rw[aB aj]);have hbk:∀x∈H,ru d x=ru c x:=λx hx=>Bl rfl (by have:=hlt x hx;simp only[d];rw[aB aj]);have hbn:∀b,ru d (nextId H,.tok sz len)=some b->b=c.ρ j:=(by intro b hb;simp only[ru,htk]at hb;split at hb;{cases hb};simpa using hb.symm);have hbj:ru c (j,.arr sz cp l)=some (c.ρ j):=rfl;have hne:∀x∈H,x.1≠j->∀b,ru c x=some b->b≠c.ρ j:=λx hx hn b hb e=>hr.apart' hx hjm hn hb (by rw[e];exact hbj);refine⟨d,rfl,⟨⟨?_,rfl,⟨λx hx=>?_,YK⟩,?_,?_,?_⟩,le,rfl,rfl,rfl,aT _,λ_ _ _=>rfl,?_,?_⟩,?_⟩;{simp only[d,nextId,hr.nx]};{have:=sK YK x hx;rw[Ia]at this;exact this};{rintro b o (h|⟨rfl,_⟩);{exact hr.im b o h};exact hjs};{intro x hx;rcases aU.1 hx with rfl|hx;{show(HO.tok sz len).Ok d (nextId H);simp only[HO.Ok,htk];refine .inr ⟨c.ρ j,_,ty,rfl,g1,by simpa using g2,aj,g4,?_⟩;rintro o h1 (h|⟨_,h⟩);{exact g6 o h};omega};rcases wH hr.ids hx with rfl|⟨hx,hn⟩;{trivial};refine DZ le (hlt x hx) ?_ (λb hb=>⟨rfl,λy hy=>?_⟩) (hr.ok x hx);{have:=hlt x hx;simp only[d];rw[aB aj]};rcases hy with hy|⟨e,_⟩;{exact hy};exact absurd e (hne x hx hn b hb)};{rw[eY];constructor;{intro y hy b hb hb';obtain rfl:=hbn b hb;rcases wH hr.ids hy with rfl|⟨hy,hn⟩;{simp[ru]at hb'};rw[hbk y hy]at hb';exact hne y hy hn _ hb' rfl};refine wJ YK λx hx y hy hn b hb hb'=>?_;rcases wH hr.ids hx with rfl|⟨hx,_⟩;{simp[ru]at hb};rcases wH hr.ids hy with rfl|⟨hy,_⟩;{simp[ru]at hb'};rw[hbk x hx]at hb;rw[hbk y hy]at hb';exact hr.apart' hx hy hn hb hb'};{intro y hy b hb;rcases aU.1 hy with rfl|hy;{obtain rfl:=hbn b hb;exact .inr ⟨_,hjm,hbj⟩};rcases wH hr.ids hy with rfl|⟨hy,_⟩;{simp[ru]at hb};rw[hbk y hy]at hb;exact .inr ⟨y,hy,hb⟩};{rintro b o (h|⟨rfl,_⟩);{exact .inl h};exact .inr (.inr ⟨_,hjm,hbj⟩)};intro h1 h2;refine vG rfl rfl ?_;simp only[VR];have hlen:(l.take len).length=len:=aA;have hf:=Mc len (xQ le.im g7);have hal:=vT g7;refine⟨by simp only[d];rw[hr.nx];omega,?_,λn hn=>?_⟩;{simp only[Rd];refine⟨by rw[hlen];omega,.inr ⟨⟨c.ρ j,0,none⟩,cp,by rw[hlen],by rw[hlen];exact h1,h2,λ_=>rfl,?_⟩⟩;refine Bq hf λx v hx=>⟨?_,.inr ⟨rfl,?_⟩⟩;{rw[jv]at hx;split at hx;{show c.w.cell? _=_;rw[cell_of_heap g1];have:x<a'.length:=(aY.1 hx).1;simp[bI this,hx]};simp at hx};rw[jv]at hx;split at hx;{simpa using ‹_›};simp at hx};have hn:uj ((nextId H,.tok sz len)::hset H j .gone) (nextId H)=some n:=hn;rw[JB]at hn;obtain rfl:=aW hn;rw[hlen,htk];exact⟨aT _,λ_=>rfl⟩
theorem Fq{e e':Env}{H H':Heap}(h:Cv e H e' H'):∀{n:Nat} {c:Cx} {a:Act},HR c H->Cc n c e a->∃d,d.w=c.w/\Tr c H d H'/\Cc n d e' a:=by
 induction h with
 |refl e H=>intro n c a hr ha;exact⟨c,rfl,.refl hr,ha⟩
 | grow t sz l A he hA h' ih =>
   intro n c a hr ha;have hv:=ha.env t A he;obtain⟨base,e1,hR⟩:∃base,a.tmps.getD t undef=.slice base l.length l.length/\Rd c.w c.Im (.sl sz l .no) [.slice base l.length l.length]:=by rcases hA with⟨rfl,rfl⟩|rfl;{exact Jc hv};exact Nh hv
   obtain⟨d,hw,htr,hV⟩:=Tr.Ou hr hR;have ha':=ha.mono htr.le;refine(λBJ=>by
    obtain⟨d',h1,h2,h3⟩:=ih htr.hr BJ;exact⟨d',h1.trans hw,htr.trans h2,h3⟩) ?_
   refine⟨λt' B hB=>?_,ha.defers,ha.size⟩;simp only[vk]at hB;cases hb:Nat.beq t t' with
   |true =>rw[hb]at hB;obtain rfl:=aJ hb;obtain rfl:=aW hB;rw[e1];exact sD hV
   |false=>rw[hb]at hB;exact ha'.env _ _ hB
 | b6Y t sz he h' ih =>
   intro n c a hr ha;obtain e1:=DW (ha.env t _ he);obtain⟨d,hw,htr,hV⟩:=Tr.a4K sz hr;have ha':=ha.mono htr.le;obtain⟨d',h1,h2,h3⟩:=ih htr.hr (a:=a) (by
    refine⟨λt' B hB=>?_,ha.defers,ha.size⟩;simp only[vk]at hB;cases hb:Nat.beq t t' with
    |true =>rw[hb]at hB;obtain rfl:=aJ hb;obtain rfl:=aW hB;rw[e1];exact sD hV
    |false=>rw[hb]at hB;exact ha'.env _ _ hB)
   exact⟨d',h1.trans hw,htr.trans h2,h3⟩
 | Nk t j sz l he ho hl h' ih =>
   intro n c a hr ha;obtain⟨d,hw,htr,hV⟩:=Tr.Nk hr ho hl (ha.env t _ he);have ha':=ha.mono htr.le;obtain⟨d',h1,h2,h3⟩:=ih htr.hr (a:=a) (by
    refine⟨λt' B hB=>?_,ha.defers,ha.size⟩;simp only[vk]at hB;cases hb:Nat.beq t t' with
    |true =>rw[hb]at hB;obtain rfl:=aJ hb;obtain rfl:=aW hB;exact sD hV
    |false=>rw[hb]at hB;exact ha'.env _ _ hB)
   exact⟨d',h1.trans hw,htr.trans h2,h3⟩
 | @FU e H e' H' j p sz l A B A' ho hp hB hs h' ih =>
   intro n c a hr ha;obtain⟨B0,hp0,rfl⟩:=BK.1 hp;clear hp;have hp:=hp0;obtain⟨cs,ty,h1,h2,h3⟩:=hr.EM ho;obtain⟨pre,xs,post,rfl,h4,h5⟩:=Nz h2 hp;have hag:uG B0=false:=by rcases hB with⟨rfl,rfl⟩|rfl <;> rfl
   obtain⟨v,rfl,_⟩:=Aq h5 hag;have hv:VV c B0 v:=Gh h5 hag;obtain⟨base,e1,hR⟩:∃base,v=.slice base l.length l.length/\Rd c.w c.Im (.sl sz l .no) [.slice base l.length l.length]:=(by rcases hB with⟨rfl,rfl⟩|rfl;{exact Jc hv};exact Nh hv);obtain⟨d,hw,htr,hV⟩:=Tr.Ou hr hR;rw[<- e1]at hV;have hjl:j<nextId H:=sK hr.ids _ (wV ho);have ho':hget ((nextId H,.tok sz l.length)::H) j=some (.box A):=by
    have:Nat.beq (nextId H) j=false:=by
     cases hb:Nat.beq (nextId H) j with
     |false=>rfl
     |true=>have:=aJ hb;omega
    simp only[hget,this];exact ho
   have hρ:d.ρ j=c.ρ j:=htr.le.ρ j (by rw[hr.nx];exact hjl);obtain⟨_,_,_,_,q3⟩:=htr.hr.EM ho';obtain⟨A'',x1,pre',xs',post',g1,g2,g3,g4,g5,g6⟩:=Dj (SX hV rfl) (DX htr.le _ _ h2) hs;obtain rfl:B0=x1:=(by rw[hp]at g1;exact aW g1);have hxl:xs'.length=1:=(by obtain⟨u,rfl,_⟩:=Aq g4 hag;rfl);obtain⟨u,rfl⟩:∃u,xs'=[u]:=(by obtain⟨u,rfl,_⟩:=Aq g4 hag;exact⟨u,rfl⟩);have hpl:pre.length=pre'.length:=(by rw[h4,g3]);have hcs:pre'++[v]++post'=pre++[v]++post:=(by rw[bK,bK]at g2;obtain⟨r1,r2⟩:=jT g2 hpl;obtain⟨r3,r4⟩:=jT r2 rfl;rw[r1,r4]);rw[hcs,g6]at g5;have Uu:Tr d ((nextId H,.tok sz l.length)::H) d (hset ((nextId H,.tok sz l.length)::H) j (.box A')):=(by refine Tr.set htr.hr ho' (Cx.Le.refl _) rfl (by rw[xu ho' (by intros;simp) (by intros;simp)];exact htr.hr.tp) (λ_ _=>rfl) rfl rfl rfl (aT _) (λ_ _ _=>rfl) (λ_ _ h=>.inl h) ?_ ?_;{intro b hb;exact .inr hb};exact⟨_,ty,by rw[hw,hρ];exact h1,g5,q3⟩);have ha':=ha.mono htr.le;obtain⟨d',k1,k2,k3⟩:=ih Uu.hr ha';exact⟨d',k1.trans hw,(htr.trans Uu).trans k2,k3⟩
 | @freeze e H e' H' t j off len cap cp sz l he ho hl h' ih =>
   intro n c a hr ha;obtain⟨hj,e1,hlc,hcm⟩:=Oj (ha.env t _ he);obtain⟨cs,ty,g1,g2,g3,g4,g5,g6⟩:=hr.EM ho;obtain⟨a',d',rfl,g7⟩:=Dh g5;let d:Cx:={ c with Im:=λb o=>c.Im b o\/b=c.ρ j };have le:c.Le d:=⟨λb o h=>⟨.inl h,rfl⟩,aT _,λ_ _=>rfl,λ_ _ _ h=>.inl ⟨h,rfl⟩⟩;have htr:Tr c H d (hset H j .gone):=by refine Tr.set hr ho le rfl (by rw[xu ho (by intros;simp) (by intros;simp)];exact hr.tp) (λ_ _=>rfl) rfl rfl rfl (aT _) (λ_ _ _=>rfl) ?_ ?_ trivial;{rintro b x (h|h);{exact .inl h};exact .inr (.inr (by simp[ru,h]))};intro b h;simp[ru]at h
   have hlen:((l.drop off).take len).length=len:=aA;have hf:=Mc len (Yt off (xQ le.im g7) aj);have hal:=vT g7;have hV:VV d (.sl sz ((l.drop off).take len) .no) (a.tmps.getD t undef):=(by rw[e1];refine vG rfl rfl ?_;simp only[VR,Rd];refine⟨by rw[hlen];omega,.inr ⟨⟨c.ρ j,off*sz,none⟩,cap,by rw[hlen],by rw[hlen];exact hlc,hcm,λ_=>rfl,?_⟩⟩;refine Bq hf λx v hx=>⟨?_,.inr rfl⟩;rw[jv]at hx;split at hx;{rw[iC]at hx;show c.w.cell? _=_;rw[cell_of_heap g1];have:off*sz+x<a'.length:=(aY.1 hx).1;simp[bI this,hx]};simp at hx);have ha':=ha.mono le;refine(λBJ=>by
    obtain⟨d',h1,h2,h3⟩:=ih htr.hr BJ;exact⟨d',h1,htr.trans h2,h3⟩) ?_
   refine⟨λt' B hB=>?_,ha.defers,ha.size⟩;simp only[vk]at hB;cases hb:Nat.beq t t' with
   |true =>rw[hb]at hB;obtain rfl:=aJ hb;obtain rfl:=aW hB;exact sD hV
   |false=>rw[hb]at hB;exact ha'.env _ _ hB
 | @keep e H e' H' t j len cp sz l he ho hl h' ih =>
   intro n c a hr ha;obtain⟨hj,e1,hlc,hcm⟩:=Oj (ha.env t _ he);obtain⟨d,hw,htr,hV⟩:=Tr.a9j hr ho hl;have hV:=hV hlc hcm;have e1:a.tmps.getD t undef=.slice (some ⟨c.ρ j,0,none⟩) len cp:=by rw[e1];simp
   have ha':=ha.mono htr.le;refine(λBJ=>by
    obtain⟨d',h1,h2,h3⟩:=ih htr.hr BJ;exact⟨d',h1.trans hw,htr.trans h2,h3⟩) ?_
   refine⟨λt' B hB=>?_,ha.defers,ha.size⟩;simp only[vk]at hB;cases hb:Nat.beq t t' with
   |true =>rw[hb]at hB;obtain rfl:=aJ hb;obtain rfl:=aW hB;rw[e1];exact sD hV
   |false=>rw[hb]at hB;exact ha'.env _ _ hB
theorem TU{E K:Env}{t:Nat}{A:AV}(h:vk (E++K) t=some A):(t,A)∈E\/(t,A)∈K:=by have:=Qu h;simpa using this
theorem a3s{c:Cx}{A:AV}{v:Value}{kt kf:Prop}(hA:EV c A v)(h:br A kt kf):∃b,v=.bool b/\(b=true->kt)/\(b=false->kf):=by unfold br at h;split at h;{exact⟨true,LY hA,λ_=>h,λh=>by cases h⟩};{exact⟨false,LZ hA,(λh=>by cases h),λ_=>h⟩};{exact⟨_,yF hA,h⟩};{obtain⟨b,h4,h5⟩:=CZ hA;exact⟨b,h4,λhb=>h.1 (h5.1 hb),λhb=>h.2 (λhp=>by rw[h5.2 hp]at hb;cases hb)⟩};exact h.elim
theorem Oh{n:Nat}:cnt (Array.replicate n false)=n:=by unfold cnt;rw[Array.toList_replicate,List.countP_replicate];simp
theorem a9y(hL:uz P L)(hm:P.follows .mixedOrders=true)(hFn:FS P F){n i:Nat}{ops:Array Oper}{e:Env}{H:Heap}{c:Cx}{a:Act}{k:Env->Heap->Prop}
  {Q:Exit->Act->World->Prop} (hl:ops.toList.all (GU n)=true) (hr:HR c H) (ha:Cc n c e a) (hB:b3K ops.toList=true) (h:Ya F L ops.toList ops.toList.length [] e H k)
  (hq:∀e' H' c' a',k e' H'->Tr c H c' H'->Cc n c' e' a'->Fr (rX ops.toList) a a'->Q .normal a' c'.w):(Code.region i ops true).wp P Q a c.w:=by
 have htr:=Tr.drew hr;have hle:c.Le { c with w:=c.w.drew }:=htr.le;refine wp_region_any hm ?_;have hnl:∀j,¬rD (Array.replicate ops.size false) j:=(by intro j;unfold rD;rw[dH];by_cases hj:j<ops.size;{simp[hj]};simp[hj]);have hlen:ops.toList.length=ops.size:=ak;rw[hlen]at h;exact a1V (c0:=c) (H0:=H) (a0:=a) hL hFn hl hB hq ops.size [] _ e H { c with w:=c.w.drew } a ak (λj=>⟨λh=>absurd h (hnl j),λh=>by simp at h⟩) Oh htr (ha.mono hle) (Fr.refl _ _) h
theorem Si(hL:uz P L)(hm:P.follows .mixedOrders=true)(hFn:FS P F){n i:Nat}{ops:Array Oper}{e:Env}{H:Heap}{c:Cx}{a:Act}{k:Env->Heap->Prop}
  {Q:Exit->Act->World->Prop} (hl:ops.toList.all (GU n)=true) (hr:HR c H) (ha:Cc n c e a) {X:Nat->Nat->Prop} {rs:List Rec} {ef:Env} {Hf:Heap} (hd:zu X ops.toList rs)
  (hX:∀(i j:Nat) (ri rj:Rec),X i j->rs[i]? = some ri->rs[j]? = some rj->ri.ran=true->rj.ran=true->(tu ri.o.op=true->xE F L ri rj.H')/\(eff ri=true->xE F L rj ri.H)) (h2:FV F L ops.toList rs e H ef Hf) (h3:k ef Hf)
  (hq:∀e' H' c' a',k e' H'->Tr c H c' H'->Cc n c' e' a'->Fr (rX ops.toList) a a'->Q .normal a' c'.w):(Code.region i ops true).wp P Q a c.w:=by
 have htr:=Tr.drew hr;have hle:c.Le { c with w:=c.w.drew }:=htr.le;refine wp_region_any hm ?_;have hnl:∀j,¬rD (Array.replicate ops.size false) j:=(by intro j;unfold rD;rw[dH];by_cases hj:j<ops.size;{simp[hj]};simp[hj]);refine a9x (c0:=c) hL hFn hd hX h2 hl (λa' c' g1 g2 g3=>hq ef Hf c' a' h3 g1 g2 g3) ops.size (Array.replicate ops.size false) 0 a { c with w:=c.w.drew } (λ_=>0) ?_ (λj r _ _ _ hj=>absurd hj (hnl j)) (by rw[Oh];exact aT _);refine⟨ak,λj o hj=>absurd hj (hnl j),aP _,λj r hj=>aj,λj r _ _ _ hj=>absurd hj (hnl j),λi j ri rj _ _ _ _ _ _ hj=>absurd hj (hnl i),?_,λt A _ hA=>CB hle (ha.env t A hA),λt j r hj=>absurd hj (hnl j),ha.defers,ha.size,Fr.refl _ _⟩;rw[b30];exact htr
theorem a0o(hL:uz P L)(hm:P.follows .mixedOrders=true)(hFn:FS P F){n i:Nat}{ops:Array Oper}{e:Env}{H:Heap}{c:Cx}{a:Act}{k:Env->Heap->Prop}
  {Q:Exit->Act->World->Prop} (hl:ops.toList.all (GU n)=true) (hr:HR c H) (ha:Cc n c e a) {mask:List Bool} (hB:TV ops.toList mask=true) (hrun:FH F L ops.toList (ops.toList.zip mask) e H k)
  (hq:∀e' H' c' a',k e' H'->Tr c H c' H'->Cc n c' e' a'->Fr (rX ops.toList) a a'->Q .normal a' c'.w):(Code.region i ops true).wp P Q a c.w:=by
 obtain⟨rs,ef,Hf,h1,h2,h3⟩:=Hl hrun;exact Si hL hm hFn hl hr ha (a9z hB h1) (λ_ _ _ _ h=>h.elim) h2 h3 hq
theorem a4l(hL:uz P L)(hm:P.follows .mixedOrders=true)(hFn:FS P F){n i:Nat}{ops:Array Oper}{e:Env}{H:Heap}{c:Cx}{a:Act}{k:Env->Heap->Prop}
  {Q:Exit->Act->World->Prop} (hl:ops.toList.all (GU n)=true) (hr:HR c H) (ha:Cc n c e a) (h:xG F L ops.toList e H k)
  (hq:∀e' H' c' a',k e' H'->Tr c H c' H'->Cc n c' e' a'->Fr (rX ops.toList) a a'->Q .normal a' c'.w):(Code.region i ops true).wp P Q a c.w:=by
 rcases h with⟨mask,hB,hrun⟩|⟨hB,hall⟩|⟨fl,mask,hB,hrun⟩|⟨fl,gl,mask,hB,hrun⟩|⟨js,hj⟩;case all=>exact a9y hL hm hFn hl hr ha hB hall hq
 case late =>
  obtain⟨rs,ef,Hf,h1,h2,h3,_,h4⟩:=Fh hrun;refine Si hL hm hFn hl hr ha (a6x hB h1) ?_ h2 h3 hq;rintro i j ri rj ⟨ri',rj',hij,hi',hj',he⟩ hi hj hri RX;rw[hi]at hi';obtain rfl:=aW hi';rw[hj]at hj';obtain rfl:=aW hj';simp only[b04,aK,dU]at he;obtain⟨⟨⟨⟨⟨⟨e1,e2⟩,e3⟩,e4⟩,e5⟩,_⟩,_⟩:=he;exact⟨λ_=>h4 i j ri rj hij hi hj (by rw[bH];exact e1) e2 e3 hri e5 RX e4,λhe=>by simp[eff,e2]at he⟩
 case both =>
  obtain⟨rs,ef,Hf,h1,h2,h3,⟨_,h4⟩,h5⟩:=Fj hrun;refine Si hL hm hFn hl hr ha (a6z hB h1) ?_ h2 h3 hq;rintro i j ri rj ⟨ri',rj',hij,hi',hj',he⟩ hi hj hri RX;rw[hi]at hi';obtain rfl:=aW hi';rw[hj]at hj';obtain rfl:=aW hj';rcases he with he|he;{simp only[b04,aK,dU]at he;obtain⟨⟨⟨⟨⟨⟨e1,e2⟩,e3⟩,e4⟩,e5⟩,_⟩,_⟩:=he;exact⟨λ_=>h4 i j ri rj hij hi hj (by rw[bH];exact e1) e2 e3 hri e5 RX e4,λhe=>by simp[eff,e2]at he⟩};simp only[b6b,aK,dU]at he;obtain⟨⟨⟨⟨⟨⟨⟨e1,e2⟩,e3⟩,e4⟩,e5⟩,_⟩,_⟩,_⟩:=he;exact⟨λhl=>(by rw[e5]at hl;cases hl),λ_=>h5.g2 i j ri rj hij hi hj (by rw[bH];exact e1) e2 e3 RX e4 e5 hri⟩
 case YN =>
  obtain⟨e1,H1,d,hw,htr,ha1,mask,hB,hrun⟩:=OU hr ha hj;rw[<- hw];exact a0o hL hm hFn hl htr.hr ha1 hB hrun λe' H' c' a' g1 g2 g3 g4=>hq e' H' c' a' g1 (htr.trans g2) g3 g4
 exact a0o hL hm hFn hl hr ha hB hrun hq
theorem TN{n:Nat}{b:Code}{B:(AX->Env->Heap->Prop)->Env->Heap->Prop}
  (ihb:∀(Q:AX->Env->Heap->Prop) (e:Env) (H:Heap) (c:Cx) (a:Act),HR c H->Cc n c e a->B Q e H->b.wp P (Post n (writes b) c H a Q) a c.w)
  {Q:AX->Env->Heap->Prop}:∀(m:Nat) (e:Env) (H:Heap) (c:Cx) (a:Act),HR c H->Cc n c e a->LoopN Ok (writes b) B Q m e H->xR P (Post n (writes b) c H a Q) b a c.w:=by
 intro m e H c a hr ha h;induction m generalizing e H c a with
 | succ m ih =>
   refine xR.a4Y (wp_mono (ihb _ e H c a hr ha h) ?_);rintro ex a' w' ⟨x',e',H',c',rfl,hq,rfl,htr,ha',hf⟩;cases x' with
   |normal =>refine(ih e' H' c' a' htr.hr ha' hq).mono ?_;rintro ex a'' w'' ⟨x'',e'',QY,c'',rfl,hq,rfl,xH,BJ,hf'⟩;exact⟨x'',e'',QY,c'',rfl,hq,rfl,htr.trans xH,BJ,λt ht=>(hf' t ht).trans (hf t ht)⟩
   |exit j=>exact⟨.exit j,e',H',c',rfl,hq,rfl,htr,ha',hf⟩
   |ret=>exact⟨.ret,e',H',c',rfl,hq,rfl,htr,ha',hf⟩
 |zero =>
 obtain⟨e₁,H₁,ι,E,kept,HS,μ,i₀,R,hR,hcv,hkept,hnext,⟨hE,hH⟩,OO⟩:=h.ex;obtain⟨c₁,hw,htr₁,ha₁⟩:=Fq hcv hr ha;have hnx:c₁.nx=nextId H₁:=htr₁.hr.nx;let I:Nat->Act->World->Prop:=λm a' w'=>∃i c',m=μ i/\c'.w=w'/\Tr c₁ H₁ c' (HS i)/\Cc n c' (E i++kept) a'/\(∀t A,(t,A)∈E i->Ok A)/\Fr (writes b) a a';have a6g:∀(c':Cx) (a':Act),c₁.Le c'->Fr (writes b) a a'->∀t A,(t,A)∈kept->EV c' A (a'.tmps.getD t undef):=(by intro c' a' le hf t A hm;obtain⟨g1,g2⟩:=hkept t A hm;rw[hf t (by simpa using g2)];exact CB le (ha₁.env t A g1));have enter:∀(c':Cx) (e':Env) (H':Heap) (a':Act) (i:ι),Tr c₁ H₁ c' H'->Cc n c' e' a'->Fr (writes b) a a'->WkE e' (nextId (HS i)) (E i)->HWk H' (HS i)->I (μ i) a' c'.w:=(by intro c' e' H' a' i htr ha' hf hwE hwH;have hwH:=hwH.to0 htr.hr;have hall:=QV ha'.env htr.hr hwH hwE;have xH:=htr.cut hwH (by rw[hnext i,hnx];exact aT _);refine⟨i,c'.cut (HS i),rfl,rfl,xH,⟨λt A hA=>?_,ha'.defers,ha'.size⟩,λt A hm=>Me (hall t A hm),hf⟩;rcases TU hA with h|h;{exact hall t A h};exact a6g _ a' xH.le hf t A h);have h0:I (μ i₀) a c.w:=(by rw[<- hw];exact enter c₁ e₁ H₁ a i₀ (.refl htr₁.hr) ha₁ (Fr.refl _ _) (by rw[hnext];exact hE) hH);refine xR.ghost I ?_ _ _ _ h0;rintro m a' w' ⟨i,c',rfl,rfl,htr,ha',hok,hf⟩;refine wp_mono (ihb _ _ _ c' a' htr.hr ha' (OO i hok)) ?_;rintro ex a'' w'' ⟨x',e',H',c'',rfl,hq,rfl,xH,BJ,hf'⟩;have hff:Fr (writes b) a a'':=λt ht=>(hf' t ht).trans (hf t ht);cases x' with
 |normal =>obtain⟨i',e₂,H₂,hcv₂,⟨hwE,hwH⟩,hlt⟩:=hR _ _ _ hq;obtain⟨c₂,hw₂,htr₂,ha₂⟩:=Fq hcv₂ xH.hr BJ;rw[<- hw₂];exact⟨_,hlt,enter c₂ e₂ H₂ a'' i' (htr.trans (xH.trans htr₂)) ha₂ hff hwE hwH⟩
 |exit j=>exact⟨.exit j,e',H',c'',rfl,hq,rfl,htr₁.trans (htr.trans xH),BJ,hff⟩
 |ret=>exact⟨.ret,e',H',c'',rfl,hq,rfl,htr₁.trans (htr.trans xH),BJ,hff⟩
theorem a1i{n:Nat}{b:Code}{B:(AX->Env->Heap->Prop)->Env->Heap->Prop}
  (ihb:∀(Q:AX->Env->Heap->Prop) (e:Env) (H:Heap) (c:Cx) (a:Act),HR c H->Cc n c e a->B Q e H->b.wp P (Post n (writes b) c H a Q) a c.w)
  {Q:AX->Env->Heap->Prop} {e:Env} {H:Heap} {c:Cx} {a:Act} (hr:HR c H) (ha:Cc n c e a) (h:a0X Ok (writes b) B Q e H):xR P (Post n (writes b) c H a Q) b a c.w:=by
 obtain⟨e₁,H₁,ι,E,kept,HS,μ,i₀,R,hR,hcv,hkept,hnext,⟨hE,hH⟩,OO⟩:=h.ex;obtain⟨c₁,hw,htr₁,ha₁⟩:=Fq hcv hr ha;have hnx:c₁.nx=nextId H₁:=htr₁.hr.nx;let I:Nat->Act->World->Prop:=λm a' w'=>∃i c',m=μ i/\c'.w=w'/\Tr c₁ H₁ c' (HS i)/\Cc n c' (E i++kept) a'/\(∀t A,(t,A)∈E i->Ok A)/\Fr (writes b) a a';have a6g:∀(c':Cx) (a':Act),c₁.Le c'->Fr (writes b) a a'->∀t A,(t,A)∈kept->EV c' A (a'.tmps.getD t undef):=(by intro c' a' le hf t A hm;obtain⟨g1,g2⟩:=hkept t A hm;rw[hf t (by simpa using g2)];exact CB le (ha₁.env t A g1));have enter:∀(c':Cx) (e':Env) (H':Heap) (a':Act) (i:ι),Tr c₁ H₁ c' H'->Cc n c' e' a'->Fr (writes b) a a'->WkE e' (nextId (HS i)) (E i)->HWk H' (HS i)->I (μ i) a' c'.w:=(by intro c' e' H' a' i htr ha' hf hwE hwH;have hwH:=hwH.to0 htr.hr;have hall:=QV ha'.env htr.hr hwH hwE;have xH:=htr.cut hwH (by rw[hnext i,hnx];exact aT _);refine⟨i,c'.cut (HS i),rfl,rfl,xH,⟨λt A hA=>?_,ha'.defers,ha'.size⟩,λt A hm=>Me (hall t A hm),hf⟩;rcases TU hA with h|h;{exact hall t A h};exact a6g _ a' xH.le hf t A h);have main:∀(k:Nat) (a':Act) (w':World),I k a' w'->xR P (Post n (writes b) c H a Q) b a' w':=by
  intro k;induction k using Nat.strongRecOn with
  |_ k ihk =>
  rintro a' w' ⟨i,c',rfl,rfl,htr,ha',hok,hf⟩;refine xR.a4Y (wp_mono (ihb _ _ _ c' a' htr.hr ha' (OO i hok)) ?_);rintro ex a'' w'' ⟨x',e',H',c'',rfl,hq,rfl,xH,BJ,hf'⟩;have hff:Fr (writes b) a a'':=λt ht=>(hf' t ht).trans (hf t ht);cases x' with
  |normal =>rcases hq with hq|⟨m,hq⟩;{obtain⟨i',e₂,H₂,hcv₂,⟨hwE,hwH⟩,hlt⟩:=hR _ _ _ hq;obtain⟨c₂,hw₂,htr₂,ha₂⟩:=Fq hcv₂ xH.hr BJ;rw[<- hw₂];exact ihk _ hlt _ _ (enter c₂ e₂ H₂ a'' i' (htr.trans (xH.trans htr₂)) ha₂ hff hwE hwH)};refine(TN ihb m e' H' c'' a'' xH.hr BJ hq).mono ?_;rintro ex a3 w3 ⟨x3,e3,H3,c3,rfl,hq3,rfl,b79,ha3,hf3⟩;exact⟨x3,e3,H3,c3,rfl,hq3,rfl,htr₁.trans (htr.trans (xH.trans b79)),ha3,λt ht=>(hf3 t ht).trans (hff t ht)⟩
  |exit j=>exact⟨.exit j,e',H',c'',rfl,hq,rfl,htr₁.trans (htr.trans xH),BJ,hff⟩
  |ret=>exact⟨.ret,e',H',c'',rfl,hq,rfl,htr₁.trans (htr.trans xH),BJ,hff⟩
 refine main (μ i₀) a c.w ?_;rw[<- hw];exact enter c₁ e₁ H₁ a i₀ (.refl htr₁.hr) ha₁ (Fr.refl _ _) (by rw[hnext];exact hE) hH
theorem WL{n:Nat}{b:Code}{B:(AX->Env->Heap->Prop)->Env->Heap->Prop}
  (ihb:∀(Q:AX->Env->Heap->Prop) (e:Env) (H:Heap) (c:Cx) (a:Act),HR c H->Cc n c e a->B Q e H->b.wp P (Post n (writes b) c H a Q) a c.w)
  {Q:AX->Env->Heap->Prop} {e:Env} {H:Heap} {c:Cx} {a:Act} (hr:HR c H) (ha:Cc n c e a) (h:qW Ok (writes b) B Q e H):(Code.loop b).wp P (Post n (writes (.loop b)) c H a Q) a c.w:=by
 refine xR.wp ?_;have key:=λm e H c a=>TN (Q:=Q) ihb m e H c a;cases h with
 |esc h=>exact a1i ihb hr ha h
 |ex h' =>obtain⟨m,h⟩:=h';exact key m e H c a hr ha h
 | thaw t j sz l he ho ne next =>
   have hv:=ha.env t _ he;obtain⟨cp,h1,h2,d,hw,htr,hV⟩:=Tr.thaw hr ho ne hv;obtain⟨m,h⟩:=next cp h1 h2
   have ha':=ha.mono htr.le;have:=key m _ _ d a htr.hr ⟨λt' B hB=>by
    simp only[vk]at hB;cases hb:Nat.beq t t' with
    |true =>rw[hb]at hB;obtain rfl:=aJ hb;obtain rfl:=aW hB;exact sD hV
    |false=>rw[hb]at hB;exact ha'.env _ _ hB,ha.defers,ha.size⟩ h
   rw[hw]at this;refine this.mono ?_;rintro ex a'' w'' ⟨x'',e'',QY,c'',rfl,hq,rfl,xH,BJ,hf'⟩;exact⟨x'',e'',QY,c'',rfl,hq,rfl,htr.trans xH,BJ,hf'⟩
theorem Au(hL:uz P L)(hm:P.follows .mixedOrders=true)(hFn:FS P F){n:Nat} :
  ∀ (code:Code) (Q:AX->Env->Heap->Prop) (e:Env) (H:Heap) (c:Cx) (a:Act),AB n code=true->HR c H->Cc n c e a->Ux F Ok L code Q e H ->
    code.wp P (Post n (writes code) c H a Q) a c.w
 | .skip,Q,e,H,c,a,_,hr,ha,h=>wp_skip ⟨.normal,e,H,c,rfl,h,rfl,.refl hr,ha,Fr.refl _ _⟩
 | .region i ops d,Q,e,H,c,a,hc,hr,ha,h=>by
   simp only[AB]at hc;cases d with
   |true =>refine a4l hL hm hFn hc hr ha h λe' H' c' a' g1 g2 g3 g4=>?_;exact⟨.normal,e',H',c',rfl,g1,rfl,g2,g3,g4⟩
   |false =>refine wp_region_list (Hg hL hFn hc hr ha h λe' H' c' a' g1 g2 g3 g4=>?_);exact⟨.normal,e',H',c',rfl,g1,rfl,g2,g3,g4⟩
 | .seq x y,Q,e,H,c,a,hc,hr,ha,h=>by
   simp only[AB,aK]at hc;refine wp_seq (wp_mono (Au hL hm hFn x _ e H c a hc.1 hr ha h) ?_);rintro ex a' w' ⟨x',e',H',c',rfl,hq,rfl,htr,ha',hf⟩;cases x' with
   |normal =>refine wp_mono (Au hL hm hFn y _ e' H' c' a' hc.2 htr.hr ha' hq) ?_;rintro ex a'' w'' ⟨x',e'',QY,c'',rfl,hq,rfl,xH,BJ,hf'⟩;exact⟨x',e'',QY,c'',rfl,hq,rfl,htr.trans xH,BJ,hf.trans hf'⟩
   |exit i=>exact⟨.exit i,e',H',c',rfl,hq,rfl,htr,ha',hf.mono λt ht=>eu _ ht⟩
   |ret=>exact⟨.ret,e',H',c',rfl,hq,rfl,htr,ha',hf.mono λt ht=>eu _ ht⟩
 | .cond o x y,Q,e,H,c,a,hc,hr,ha,h=>by simp only[AB,aK]at hc;obtain⟨A,hA,h⟩:=rO ha.env hc.1.1 h;obtain⟨b,hb,h1,h2⟩:=a3s hA h;refine wp_cond_split hb (λhb=>?_) (λhb=>?_);{refine wp_mono (Au hL hm hFn x Q e H c a hc.1.2 hr ha (h1 hb)) ?_;rintro ex a' w' ⟨x',e',H',c',g1,g2,g3,g4,g5,g6⟩;exact⟨x',e',H',c',g1,g2,g3,g4,g5,g6.mono λt ht=>eu _ ht⟩};refine wp_mono (Au hL hm hFn y Q e H c a hc.2 hr ha (h2 hb)) ?_;rintro ex a' w' ⟨x',e',H',c',g1,g2,g3,g4,g5,g6⟩;exact⟨x',e',H',c',g1,g2,g3,g4,g5,g6.mono λt ht=>jW _ ht⟩
 | .block i b,Q,e,H,c,a,hc,hr,ha,h=>by
   refine wp_block (wp_mono (Au hL hm hFn b _ e H c a hc hr ha h) ?_);rintro ex a' w' ⟨x',e',H',c',rfl,hq,g3,g4,g5,g6⟩;cases x' with
   |normal=>exact⟨.normal,e',H',c',rfl,hq,g3,g4,g5,g6⟩
   | exit j =>
     simp only[AX.toE,Exit.inBlock];cases hb:Nat.beq j i with
     |true =>have hq:(match Nat.beq j i with|true=>Q .normal e' H'|false=>Q (.exit j) e' H'):=hq;rw[hb]at hq;rw[aG (aJ hb)];exact⟨.normal,e',H',c',rfl,hq,g3,g4,g5,g6⟩
     |false =>have hq:(match Nat.beq j i with|true=>Q .normal e' H'|false=>Q (.exit j) e' H'):=hq;rw[hb]at hq;rw[aB (xw hb)];exact⟨.exit j,e',H',c',rfl,hq,g3,g4,g5,g6⟩
   |ret=>exact⟨.ret,e',H',c',rfl,hq,g3,g4,g5,g6⟩
 | .loop b,Q,e,H,c,a,hc,hr,ha,h=>WL (λQ e H c a=>Au hL hm hFn b Q e H c a hc) hr ha h
 | .exit i,Q,e,H,c,a,_,hr,ha,h=>wp_exit ⟨.exit i,e,H,c,rfl,h,rfl,.refl hr,ha,Fr.refl _ _⟩
 | .ret,Q,e,H,c,a,_,hr,ha,h=>wp_ret ⟨.ret,e,H,c,rfl,h,rfl,.refl hr,ha,Fr.refl _ _⟩
 | .label l,Q,e,H,c,a,_,hr,ha,h=>wp_label ⟨.normal,e,H,c,rfl,h,rfl,.refl hr,ha,Fr.refl _ _⟩
 | .goto _,_,_,_,_,_,hc,_,_,_=>by simp[AB]at hc
 | .scope _,_,_,_,_,_,hc,_,_,_=>by simp[AB]at hc
 | .rangeFunc ..,_,_,_,_,_,hc,_,_,_=>by simp[AB]at hc
 | .refuse _,_,_,_,_,_,hc,_,_,_=>by simp[AB]at hc
end
end Go.AL