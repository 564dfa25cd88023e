/-
  A logic for calls of Go functions: each operation is sound. Nothing is assumed.
-/
import Derived.Test.YtdkhmfabhfgemaaGreatT0
import Derived.Laws.Strings
import Derived.Laws.StructEq
import Derived.Great.BuildSlice
import Derived.Tactics
import Derived.Lib.AppendZeros
namespace Go.AL
def qX(P:Program)(f:Nat)(args:List AV)(H:Heap)(R:AV)(H':Heap):Prop :=
 (∃ fn,P.funcs[f]? = some fn/\(fn.name== "runtime.NumGoroutine")=false/\fn.body.isSome=true) /\
 ∀(c:Cx) (vs:List Value),HR c H->Ot c args vs->Calls P f vs.toArray c.w λe w'=>∃v d,e=.returned v/\d.w=w'/\Tr c H d H'/\EV d R v
def UD(P:Program)(f:Nat)(args:List AV)(H:Heap)(Q:AV->Heap->Prop):Prop :=
 (∃ fn,P.funcs[f]? = some fn/\(fn.name== "runtime.NumGoroutine")=false/\fn.body.isSome=true) /\
 ∀(c:Cx) (vs:List Value),HR c H->Ot c args vs->Calls P f vs.toArray c.w λe w'=>∃v d R H',Q R H'/\e=.returned v/\d.w=w'/\Tr c H d H'/\EV d R v
abbrev FP(P:Program):FT:={ h:=qX P,q:=UD P }
structure FS(P:Program)(F:FT):Prop where
 h:∀f args H R H',F f args H R H'->qX P f args H R H'
 q:∀f args H Q,F.q f args H Q->UD P f args H Q
theorem b3L(P:Program):FS P (FP P):=⟨λ_ _ _ _ _ h=>h,λ_ _ _ _ h=>h⟩
def uw(P:Program)(o:Oper)(ρ:Operand->Value)(c:Cx)(H:Heap)(k:AV->Heap->Prop)(ks:Heap->Prop):Prop :=
 (∃v d A H',(execOp ρ o).run P c.w=.ok (.value v) d.w/\Tr c H d H'/\EV d A v/\k A H') \/
 (∃d H',(execOp ρ o).run P c.w=.ok .skip d.w/\Tr c H d H'/\ks H') \/
 (∃f args,(execOp ρ o).run P c.w=.ok (.enter f args) c.w /\
  Calls P f args c.w λe w'=>∃v d R H',e=.returned v/\d.w=w'/\Tr c H d H'/\EV d R v/\k R H')
section
variable{P:Program}{L:Lay}{c:Cx}{H:Heap}{e:Env}{a:Act}{k:AV->Heap->Prop}{ks:Heap->Prop}{o:Oper}
theorem uw.pure(hr:HR c H){v:Value}{A:AV}(hrun:(execOp a.eval o).run P c.w=.ok (.value v) c.w)(hv:EV c A v)(hk:k A H):uw P o a.eval c H k ks :=
 .inl ⟨v,c,A,H,hrun,.refl hr,hv,hk⟩
theorem Af{kd:IntKind}{n:Int}{v:Value}(h:EV c (.int kd n) v):v=.int kd n/\KF kd n:=b5v h
theorem Yy{s:List UInt8}{v:Value}(h:EV c (.str s) v):v=.string ⟨s.toArray⟩/\s.length<=maxL:=a7L h
theorem VE(s:List UInt8):ByteArray.toList ⟨s.toArray⟩=s:=ByteArray.toList_mk s
theorem a5w(hr:HR c H)(he:xR c e a){x:Operand}(hx:sU x=true)(ho:o.op=.move x\/o.op=.assign x)(h:uj e x λA=>k A H):uw P o a.eval c H k ks:=by obtain⟨A,h1,h2⟩:=rH he hx h;refine .pure hr (v:=a.eval x) ?_ h1 h2;rcases ho with ho|ho <;> simp[execOp,ho]
theorem a8u{cc x y:Operand}(ho:o.op=.pick cc x y){b:Bool}(hb:a.eval cc=.bool b):(execOp a.eval o).run P c.w=.ok (.value (if b then a.eval x else a.eval y)) c.w:=by unfold execOp;rw[ho];simp only[hb,asBool];cases b <;> rfl
theorem b1K(hr:HR c H)(he:xR c e a){cc x y:Operand}(h1:sU cc=true)(h2:sU x=true)(h3:sU y=true)(ho:o.op=.pick cc x y)
  (h:uj e cc λC=>(match C with
  | .tt=>uj e x λA=>k A H
  | .ff=>uj e y λA=>k A H
  | .bool b=>(b=true->uj e x λA=>k A H)/\(b=false->uj e y λA=>k A H)
  | .dec p=>(p->uj e x λA=>k A H)/\(¬p->uj e y λA=>k A H)
  |_=>False)):uw P o a.eval c H k ks:=by
 obtain⟨C,g1,g2⟩:=rH he h1 h;have key:∃b,a.eval cc=.bool b/\(b=true->uj e x λA=>k A H)/\(b=false->uj e y λA=>k A H):=(by split at g2;{exact⟨true,Mc g1,λ_=>g2,λh=>by cases h⟩};{exact⟨false,Me g1,(λh=>by cases h),λ_=>g2⟩};{exact⟨_,yE g1,g2⟩};{obtain⟨b,h4,h5⟩:=CW g1;exact⟨b,h4,λhb=>g2.1 (h5.1 hb),λhb=>g2.2 (λhp=>by rw[h5.2 hp]at hb;cases hb)⟩};exact g2.elim);obtain⟨b,hb,hy,hn⟩:=key;have hrun:=a8u (P:=P) (c:=c) ho hb;cases b with
 |true =>obtain⟨A,h4,h5⟩:=rH he h2 (hy rfl);exact .pure hr hrun (by simpa using h4) h5
 |false =>obtain⟨A,h4,h5⟩:=rH he h3 (hn rfl);exact .pure hr hrun (by simpa using h4) h5
theorem yR{op:BinOp}{t:Nat}{x y:Operand}{v u:Value}(h:¬(∃cs ds,v=.agg cs/\u=.agg ds))
  (h':v=.nilIface->u=.nilIface->(op=.eql\/op=.neq)->(Ah x||Ah y)=true):(eqGuard op t x y v u).run P c.w=.ok () c.w:=by
 unfold eqGuard;cases op;case eql =>
  simp only[fZ,dN,if_false];split;{have h3:=h' rfl rfl (.inl rfl);cases x <;> cases y <;> first|(simp[Ah]at h3;done)|rfl};{exact absurd ⟨_,_,rfl,rfl⟩ h};rfl
 case neq =>
  simp only[fZ,dN,if_false];split;{have h3:=h' rfl rfl (.inr rfl);cases x <;> cases y <;> first|(simp[Ah]at h3;done)|rfl};{exact absurd ⟨_,_,rfl,rfl⟩ h};rfl
 all_goals rfl
theorem Ac{op:BinOp}{t ty:Nat}{x y:Operand}(ho:o.op=.binOp op t x y ty){r:Value}
  (hg:(eqGuard op t x y (a.eval x) (a.eval y)).run P c.w=.ok () c.w) (h:(binOp op t (a.eval x) (a.eval y)).run P c.w=.ok r c.w) :
  (execOp a.eval o).run P c.w=.ok (.value r) c.w:=by
 unfold execOp;rw[ho];simp only[Sem.run_bind,hg,Result.andThen_ok,h,Sem.run_pure]
theorem run_equalIn_bool{t:Nat}(ht:P.underlying t=some .bool)(d:Nat)(x y:Bool)(w:World):(Op.equalIn (d+1) t (.bool x) (.bool y)).run P w=.ok (x==y) w:=by simp only[Op.equalIn,Sem.run_bind,run_underlying ht,Result.andThen_ok,Sem.run_pure]
theorem run_equal_bool{t:Nat}(ht:P.underlying t=some .bool)(x y:Bool)(w:World):(Op.equal t (.bool x) (.bool y)).run P w=.ok (x==y) w :=
 run_equalIn_bool ht 9999 x y w
theorem PW{t:Nat}{ms:Array (String×TypeId)}(ht:P.underlying t=some (.interface ms)){v u:Value}{b:Bool}
  (h:(v=.nilIface/\u=.nilIface/\b=true)\/(v=.nilIface/\(∃t x,u=.iface t x)/\b=false)\/((∃t x,v=.iface t x)/\u=.nilIface/\b=false)) (d:Nat) (w:World) :
  (Op.equalIn (d+1) t v u).run P w=.ok b w:=by
 rcases h with⟨rfl,rfl,rfl⟩|⟨rfl,⟨t,x,rfl⟩,rfl⟩|⟨⟨t,x,rfl⟩,rfl,rfl⟩ <;> simp only[Op.equalIn,Sem.run_bind,run_underlying ht,Result.andThen_ok,Sem.run_pure]
theorem Ky{t:Nat}{ms:Array (String×TypeId)}(ht:P.underlying t=some (.interface ms)){v u:Value}{b:Bool}
  (h:(v=.nilIface/\u=.nilIface/\b=true)\/(v=.nilIface/\(∃t x,u=.iface t x)/\b=false)\/((∃t x,v=.iface t x)/\u=.nilIface/\b=false)) (w:World) :
  (Op.equal t v u).run P w=.ok b w:=PW ht h 9999 w
theorem Ur{t el:Nat}(ht:P.underlying t=some (.pointer el))(p:Option Addr)(d:Nat)(w:World) :
  (Op.equalIn (d+1) t (.pointer p) (.pointer none)).run P w=.ok p.isNone w:=by
 cases p <;> simp only[Op.equalIn,Sem.run_bind,run_underlying ht,Result.andThen_ok,Sem.run_pure] <;> rfl
theorem NU{t el:Nat}(ht:P.underlying t=some (.pointer el))(p:Option Addr)(w:World) :
  (Op.equal t (.pointer p) (.pointer none)).run P w=.ok p.isNone w:=Ur ht p 9999 w
theorem Ua{d:TypeDesc}(h:descOf P d=.bool):d=.bool:=by cases d <;> simp[descOf]at h;rfl
theorem Qy{d:TypeDesc}(h:descOf P d=.iface):∃ms,d=.interface ms:=by cases d <;> simp[descOf]at h;exact⟨_,rfl⟩
theorem Xv{d:TypeDesc}{n:Nat}(h:descOf P d=.ptr n):d=.pointer n:=by cases d <;> simp[descOf]at h;subst h;rfl
theorem sJ{d:TypeDesc}{n:Nat}(h:descOf P d=.slice n):d=.slice n:=by cases d <;> simp[descOf]at h;subst h;rfl
theorem Xw{d:TypeDesc}{kd:IntKind}(h:descOf P d=.int kd):d=.int kd:=by cases d <;> simp[descOf]at h;subst h;rfl
theorem Eo{d:TypeDesc}(h:descOf P d=.str):d=.string:=by cases d <;> simp[descOf]at h;rfl
theorem IG{d:TypeDesc}{fs:List (Nat×Nat×Nat)}(h:descOf P d=.struct fs):∃gs,d=.struct gs/\fs=gs.toList.map λf=>(f.offset,P.cellsOf f.type,f.type):=by cases d <;> simp[descOf]at h;exact⟨_,rfl,by simp[h]⟩
theorem Xx{d:TypeDesc}{n m:Nat}(h:descOf P d=.arr n m):d=.array n m:=by cases d <;> simp[descOf]at h;obtain⟨rfl,rfl⟩:=h;rfl
theorem JR{d:TypeDesc}{n m:Nat}(h:descOf P d=.map n m):d=.map n m:=by cases d <;> simp[descOf]at h;obtain⟨rfl,rfl⟩:=h;rfl
theorem b0j{d:TD}{op:BinOp}{hc:Bool}{ka kb:IntKind}{m n:Int}{k:AV->Prop}(t:Nat)(w:World)(ha:KF ka m)(h:SV d op hc (.int ka m) (.int kb n) k) :
  ∃r R,(binOp op t (.int ka m) (.int kb n)).run P w=.ok r w/\VV c R r/\k R:=by
 have hk:op≠.shl->op≠.shr->ka=kb:=by
  intro h1 h2;unfold SV at h;cases hq:Ht ka kb with
  |true=>exact xY hq
  |false=>exfalso;cases op <;> first|exact h1 rfl|exact h2 rfl|(simp only[hq]at h)
 have hq:Ht ka ka=true:=by cases ka <;> rfl
 unfold SV at h;cases op;case shl =>
  simp only at h;refine⟨_,_,?_,uG (kd:=ka) (n:=VN ka m n) (EG _ _),h.2⟩;have:¬n<0:=aj;simp[binOp,Op.shift,this,VN]
 case shr =>
  simp only at h;refine⟨_,_,?_,uG (kd:=ka) (n:=KG ka m n) (a0U ha _),h.2⟩;have:¬n<0:=aj;simp[binOp,Op.shift,this,KG]
 all_goals
  obtain rfl:=hk ak ak;simp only[hq]at h
 case add=>obtain⟨R,h1,h2⟩:=Fe (c:=c) h;exact⟨_,R,by simp[binOp,Op.intArith],h1,h2⟩
 case sub=>obtain⟨R,h1,h2⟩:=Fe (c:=c) h;exact⟨_,R,by simp[binOp,Op.intArith],h1,h2⟩
 case mul=>obtain⟨R,h1,h2⟩:=Fe (c:=c) h;exact⟨_,R,by simp[binOp,Op.intArith],h1,h2⟩
 case quo=>obtain⟨R,h1,h2⟩:=Fe (c:=c) h.2;exact⟨_,R,by simp[binOp,Op.intDiv,h.1],h1,h2⟩
 case rem=>exact⟨_,_,by simp[binOp,Op.intDiv,h.1],uG (b0q ha),h.2⟩
 case and=>exact⟨_,_,by simp[binOp,Op.intBits,Am],uG (kd:=ka) (n:=Am .and ka m n) (EG _ _),h⟩
 case or=>exact⟨_,_,by simp[binOp,Op.intBits,Am],uG (kd:=ka) (n:=Am .or ka m n) (EG _ _),h⟩
 case xor=>exact⟨_,_,by simp[binOp,Op.intBits,Am],uG (kd:=ka) (n:=Am .xor ka m n) (EG _ _),h⟩
 case andNot=>exact⟨_,_,by simp[binOp,Op.intBits,Am],uG (kd:=ka) (n:=Am .andNot ka m n) (EG _ _),h⟩
 case eql=>exact⟨.bool (m==n),_,by simp[binOp,Op.intCmp],yS ak,h⟩
 case neq=>exact⟨.bool (m != n),_,by simp[binOp,Op.intCmp],yS ak,h⟩
 case lss=>exact⟨.bool (decide (m<n)),_,by simp[binOp,Op.intCmp],yS ak,h⟩
 case leq=>exact⟨.bool (decide (m<=n)),_,by simp[binOp,Op.intCmp],yS ak,h⟩
 case gtr=>exact⟨.bool (decide (m>n)),_,by simp[binOp,Op.intCmp],yS ak,h⟩
 case geq=>exact⟨.bool (decide (m≥n)),_,by simp[binOp,Op.intCmp],yS ak,h⟩
theorem b0i{d:TD}{op:BinOp}{hc:Bool}{p q:List UInt8}{k:AV->Prop}(t:Nat)(w:World)(h:SV d op hc (.str p) (.str q) k) :
  ∃r R,(binOp op t (.string ⟨p.toArray⟩) (.string ⟨q.toArray⟩)).run P w=.ok r w/\VV c R r/\k R:=by
 have e1:ByteArray.toList ⟨p.toArray⟩=p:=VE p;have e2:ByteArray.toList ⟨q.toArray⟩=q:=VE q;unfold SV at h;cases op <;> simp only at h;case add =>
  refine⟨_,_,?_,a0L (s:=p++q) (by simpa using h.1),h.2⟩;have h1:¬(((⟨p.toArray⟩:ByteArray).size+(⟨q.toArray⟩:ByteArray).size:Nat):Int)>IntKind.i64.max:=(by have:=h.1;simp[maxL]at this;simp[ByteArray.size,IntKind.max,IntKind.signed,IntKind.bits];omega);simp only[binOp,Op.stringOp,h1,if_false,Sem.run_pure];congr 2
 case eql=>exact⟨.bool (p==q),_,by simp[binOp,Op.stringOp,e1,e2],yS ak,h⟩
 case neq=>exact⟨.bool (!(p==q)),_,by simp[binOp,Op.stringOp,e1,e2],yS ak,h⟩
 case lss=>exact⟨_,_,by simp only[binOp,Op.stringOp,e1,e2,Sem.run_pure],Et _,h⟩
end
end Go.AL
namespace Go.AL
section
variable{P:Program}{L:Lay}{c:Cx}{H:Heap}{e:Env}{a:Act}{k:AV->Heap->Prop}{ks:Heap->Prop}{o:Oper}
theorem vk{A:AV}{v:Value}(h:EV c A v)(hn:∀l,A≠.uf l)(hu:A≠.und):VV c A v:=by
 cases A <;> first
  |exact h
  |exact absurd rfl (hn _)
  |exact absurd rfl hu
theorem a6i{A B:AV}{k:AV->Prop}(h:eqB A B k):(∀l,A≠.uf l)/\A≠.und/\(∀l,B≠.uf l)/\B≠.und:=by refine⟨?_,?_,?_,?_⟩ <;> intros <;> intro e <;> subst e <;> (first|(cases A <;> simp[eqB,KI,XY]at h;done)|(cases B <;> simp[eqB,KI,XY]at h;done))
theorem Zy{A B:AV}{k:AV->Prop}(h:TJ A B k):(∀l,A≠.uf l)/\A≠.und/\(∀l,B≠.uf l)/\B≠.und:=by unfold TJ at h;split at h <;> first|exact h.elim|(refine⟨?_,?_,?_,?_⟩ <;> intros <;> intro e <;> cases e)
theorem Wu{A B:AV}{k:AV->Prop}(h:La A B k):(∀l,A≠.uf l)/\A≠.und/\(∀l,B≠.uf l)/\B≠.und:=by unfold La at h;split at h <;> first|exact h.elim|(refine⟨?_,?_,?_,?_⟩ <;> intros <;> intro e <;> cases e)
theorem b52{op:BinOp}{t ty:Nat}{x y:Operand}(hr:HR c H)(ho:o.op=.binOp op t x y ty){i:TI}(hT:Gj P t i){A B:AV}(hA:EV c A (a.eval x))(hB:EV c B (a.eval y))
  (h:b5s i.desc op (Ah x||Ah y) A B λR=>k R H):uw P o a.eval c H k ks:=by
 obtain⟨d,hd,hdd⟩:=hT.under
 have fin:∀(b:Bool) (R:AV),(op=.eql\/op=.neq)->(Op.equal t (a.eval x) (a.eval y)).run P c.w=.ok b c.w ->
   (eqGuard op t x y (a.eval x) (a.eval y)).run P c.w=.ok () c.w->(∀k n k' n',a.eval x=.int k n->a.eval y=.int k' n'->False)->(∀s s',a.eval x=.string s->a.eval y=.string s'->False) ->
   (∀k n k' n',a.eval x=.float k n->a.eval y=.float k' n'->False)->(∀k n m k' n' m',a.eval x=.complex k n m->a.eval y=.complex k' n' m'->False) ->
   VV c R (.bool (if op=.neq then !b else b))->k R H->uw P o a.eval c H k ks:=by
  intro b R hop hq hg h1 h2 h3 h4 hR hk;refine .pure hr (Ac ho hg ?_) (rZ hR) hk;rcases hop with rfl|rfl
  ·generalize a.eval x=v at *;generalize a.eval y=u at *;cases v <;> cases u <;> first
    |exact(h1 _ _ _ _ rfl rfl).elim|exact(h2 _ _ rfl rfl).elim|exact(h3 _ _ _ _ rfl rfl).elim|exact(h4 _ _ _ _ _ _ rfl rfl).elim
    |simp[binOp,hq]
  generalize a.eval x=v at *;generalize a.eval y=u at *;cases v <;> cases u <;> first
   |exact(h1 _ _ _ _ rfl rfl).elim|exact(h2 _ _ rfl rfl).elim|exact(h3 _ _ _ _ rfl rfl).elim|exact(h4 _ _ _ _ _ _ rfl rfl).elim
   |simp[binOp,hq]
 unfold b5s at h;split at h;{rename_i hi;obtain rfl:=Ua (hdd.trans hi);obtain⟨n1,n2,n3,n4⟩:=a6i h;obtain⟨p,q,R,e1,e2,h3,h4⟩:=a0h (vk hA n1 n2) (vk hB n3 n4) h;rw[e1,e2]at fin;exact fin (p==q) R (.inl rfl) (run_equal_bool hd _ _ _) (yR (by rintro⟨_,_,h,_⟩;cases h) (by intro h;cases h)) (by intros;contradiction) (by intros;contradiction) (by intros;contradiction) (by intros;contradiction) (by simpa using h3) h4};{rename_i hi;obtain rfl:=Ua (hdd.trans hi);obtain⟨n1,n2,n3,n4⟩:=a6i h;obtain⟨p,q,R,e1,e2,h3,h4⟩:=a0h (vk hA n1 n2) (vk hB n3 n4) h;obtain⟨R',h5,h6⟩:=Ef h3 h4;rw[e1,e2]at fin;exact fin (p==q) R' (.inr rfl) (run_equal_bool hd _ _ _) (yR (by rintro⟨_,_,h,_⟩;cases h) (by intro h;cases h)) (by intros;contradiction) (by intros;contradiction) (by intros;contradiction) (by intros;contradiction) (by simpa using h5) h6}
 ·rename_i hi;obtain⟨ms,rfl⟩:=Qy (hdd.trans hi);split at h
  ·rename_i hc;obtain⟨n1,n2,n3,n4⟩:=Zy h;obtain⟨b,R,e1,h3,h4⟩:=TG (vk hA n1 n2) (vk hB n3 n4) h;refine fin b R (.inl rfl) (Ky hd e1 _) (yR ?_ (λ_ _ _=>hc)) ?_ ?_ ?_ ?_ (by simpa using h3) h4;{rintro⟨_,_,h1,h2⟩;rcases e1 with⟨e1,e2,_⟩|⟨e1,⟨_,_,e2⟩,_⟩|⟨⟨_,_,e1⟩,e2,_⟩ <;> rw[e1]at h1 <;> cases h1};all_goals
    intros
    rename_i h1 h2;rcases e1 with⟨e1,e2,_⟩|⟨e1,⟨_,_,e2⟩,_⟩|⟨⟨_,_,e1⟩,e2,_⟩ <;> rw[e1]at h1 <;> cases h1
  exact h.elim
 ·rename_i hi;obtain⟨ms,rfl⟩:=Qy (hdd.trans hi);split at h
  ·rename_i hc;obtain⟨n1,n2,n3,n4⟩:=Zy h;obtain⟨b,R,e1,h3,h4⟩:=TG (vk hA n1 n2) (vk hB n3 n4) h;obtain⟨R',h5,h6⟩:=Ef h3 h4;refine fin b R' (.inr rfl) (Ky hd e1 _) (yR ?_ (λ_ _ _=>hc)) ?_ ?_ ?_ ?_ (by simpa using h5) h6;{rintro⟨_,_,h1,h2⟩;rcases e1 with⟨e1,e2,_⟩|⟨e1,⟨_,_,e2⟩,_⟩|⟨⟨_,_,e1⟩,e2,_⟩ <;> rw[e1]at h1 <;> cases h1};all_goals
    intros
    rename_i h1 h2;rcases e1 with⟨e1,e2,_⟩|⟨e1,⟨_,_,e2⟩,_⟩|⟨⟨_,_,e1⟩,e2,_⟩ <;> rw[e1]at h1 <;> cases h1
  exact h.elim
 ·rename_i hi;obtain rfl:=Xv (hdd.trans hi);obtain⟨n1,n2,n3,n4⟩:=Wu h;obtain⟨b,R,p,e1,e2,rfl,h3,h4⟩:=P9 (vk hA n1 n2) (vk hB n3 n4) h;rw[e1,e2]at fin;exact fin p.isNone R (.inl rfl) (NU hd _ _) (yR (by rintro⟨_,_,h,_⟩;cases h) (by intro h;cases h)) (by intros;contradiction) (by intros;contradiction) (by intros;contradiction) (by intros;contradiction) (by simpa using h3) h4
 ·rename_i hi;obtain rfl:=Xv (hdd.trans hi);obtain⟨n1,n2,n3,n4⟩:=Wu h;obtain⟨b,R,p,e1,e2,rfl,h3,h4⟩:=P9 (vk hA n1 n2) (vk hB n3 n4) h;obtain⟨R',h5,h6⟩:=Ef h3 h4;rw[e1,e2]at fin;exact fin p.isNone R' (.inr rfl) (NU hd _ _) (yR (by rintro⟨_,_,h,_⟩;cases h) (by intro h;cases h)) (by intros;contradiction) (by intros;contradiction) (by intros;contradiction) (by intros;contradiction) (by simpa using h5) h6
 exact h.elim
theorem a5l{z x y:AV}{w:World}{Im:Nat->Nat->Prop}{cs ds:List Value}(hx:Aw z x=true)(hy:Aw z y=true)(h1:Rd w Im x cs)(h2:Rd w Im y ds) :
  cs.length=1/\ds.length=1/\(cs=ds↔eqP x y):=by
 have hb:∀{A:AV} {c:List Value},Aw .ff A=true->Rd w Im A c->∃b,c=[.bool b]/\(b=true↔isT A):=by
  intro A c hA h;cases A <;> first|(simp[Aw]at hA;done)|skip
  ·simp only[Rd]at h;exact⟨_,h,by simp[isT]⟩
  ·simp only[Rd]at h;exact⟨_,h,by simp[isT]⟩
  ·simp only[Rd]at h;exact⟨_,h,by simp[isT]⟩
  simp only[Rd]at h;exact h
 cases z <;> first|(simp[Aw]at hx;done)|skip
 ·obtain⟨b,rfl,g1⟩:=hb hx h1;obtain⟨b',rfl,g2⟩:=hb hy h2;refine⟨rfl,rfl,?_⟩;have he:eqP x y↔(isT x↔isT y):=by
   cases x <;> first|(simp[Aw]at hx;done)|skip
   all_goals cases y <;> first|(simp[Aw]at hy;done)|exact jr
  rw[he,<- g1,<- g2];cases b <;> cases b' <;> simp
 ·cases x <;> first|(simp[Aw]at hx;done)|skip
  cases y <;> first|(simp[Aw]at hy;done)|skip
  obtain rfl:=xY hx;obtain rfl:=xY hy;simp only[Rd]at h1 h2;obtain⟨rfl,_⟩:=h1;obtain⟨rfl,_⟩:=h2;simp[eqP]
 cases x <;> first|(simp[Aw]at hx;done)|skip
 cases y <;> first|(simp[Aw]at hy;done)|skip
 simp only[Rd]at h1 h2;obtain⟨rfl,_⟩:=h1;obtain⟨rfl,_⟩:=h2;simp[eqP]
theorem Zh{w:World}{Im:Nat->Nat->Prop}:∀{zs l m:List AV} {cs ds:List Value},yF zs l=true->yF zs m=true->DX w Im l cs->DX w Im m ds->(cs=ds↔YO l m)
 | [],[],[],cs,ds,_,_,h1,h2=>by simp only[DX]at h1 h2;subst h1;subst h2;simp[YO]
 | [],[],_::_,_,_,_,h,_,_=>by simp[yF]at h
 | [],_::_,_,_,_,h,_,_,_=>by simp[yF]at h
 |_::_,[],_,_,_,h,_,_,_=>by simp[yF]at h
 |_::_,_::_,[],_,_,_,h,_,_=>by simp[yF]at h
 | z::zs,x::l,y::m,cs,ds,hx,hy,h1,h2=>by
   simp only[yF]at hx hy;cases qx:Aw z x with
   |false=>simp[qx]at hx
   | true =>
     cases qy:Aw z y with
     |false=>simp[qy]at hy
     |true =>rw[qx]at hx;rw[qy]at hy;simp only[DX]at h1 h2;obtain⟨a,b,rfl,g1,g2⟩:=h1;obtain⟨a',b',rfl,g3,g4⟩:=h2;obtain⟨k1,k2,k3⟩:=a5l qx qy g1 g3;have ih:=Zh hx hy g2 g4;simp only[YO];rw[<- k3,<- ih];constructor;{intro e;exact jZ e aj};rintro⟨rfl,rfl⟩;rfl
theorem a8t{z x:AV}{cs:List Value}(hx:Aw z x=true)(h:VR c x cs):Rd c.w c.Im x cs:=by
 cases z <;> first|(simp[Aw]at hx;done)|skip
 all_goals cases x <;> first|(simp[Aw]at hx;done)|(simpa only[VR]using h)
theorem Ru:∀{zs l:List AV} {cs:List Value},yF zs l=true->Ea c l cs->DX c.w c.Im l cs
 | [],[],_,_,h=>by simpa only[Ea,DX]using h
 | [],_::_,_,h,_=>by simp[yF]at h
 |_::_,[],_,h,_=>by simp[yF]at h
 | z::zs,x::l,cs,hx,h=>by
   simp only[yF]at hx;cases qx:Aw z x with
   |false=>simp[qx]at hx
   |true =>rw[qx]at hx;simp only[Ea]at h;obtain⟨a,b,rfl,g1,g2⟩:=h;simp only[DX];exact⟨a,b,rfl,a8t qx g1,Ru hx g2⟩
theorem b1N{op:BinOp}{t ty:Nat}{x y:Operand}(hr:HR c H)(ho:o.op=.binOp op t x y ty){i:TI}(hT:Gj P t i){A B:AV}(hA:EV c A (a.eval x))(hB:EV c B (a.eval y))
  (h:b08 i op A B λR=>k R H):uw P o a.eval c H k ks:=by
 unfold b08 at h;split at h;case h_2=>exact h.elim
 rename_i zs l m hc hz;split at h;case h_2=>exact h.elim
 rename_i q1 q2;have E:=hT.b7Z hc zs hz;obtain⟨cs,e1⟩:=hA.1.1 rfl;obtain⟨ds,e2⟩:=hB.1.1 rfl;have r1:DX c.w c.Im l cs.toList:=by have:=hA.2;rw[e1]at this;exact Ru q1 this
 have r2:DX c.w c.Im m ds.toList:=(by have:=hB.2;rw[e2]at this;exact Ru q2 this);obtain⟨r,hrun,hiff⟩:=E.run c.w c.Im l m cs ds q1 q2 r1 r2;have he:=Zh q1 q2 r1 r2;have he:r=true↔YO l m:=(by rw[hiff,<- he];constructor;{rintro rfl;rfl};intro e;exact Array.toList_inj.1 e);split at h;{refine .pure hr (v:=.bool r) (Ac ho ?_ ?_) (rZ (vw rfl rfl ?_)) h;{rw[e1,e2];exact run_eqGuard_agg c.w _ t x y cs ds E.grd};{rw[e1,e2,run_eql_struct];show((Op.equal t _ _).run P c.w).andThen _=_;rw[hrun];rfl};simp only[VR,Rd];exact⟨r,rfl,he⟩};{refine .pure hr (v:=.bool (!r)) (Ac ho ?_ ?_) (rZ (vw rfl rfl ?_)) h;{rw[e1,e2];exact run_eqGuard_agg c.w _ t x y cs ds E.grd};{rw[e1,e2,run_neq_struct];show((Op.equal t _ _).run P c.w).andThen _=_;rw[hrun];rfl};simp only[VR,Rd];exact⟨!r,rfl,by rw[<- he];cases r <;> simp⟩};exact h.elim
theorem b4q(hL:uo P L){op:BinOp}{t ty:Nat}{x y:Operand}(hr:HR c H)(he:xR c e a)(hx:sU x=true)(hy:sU y=true)(ho:o.op=.binOp op t x y ty)
  (h:uj e x λA=>uj e y λB=>L.sO t λi=>match uz A with
   |true=>b08 i op A B λR=>k R H
   |false=>SV i.desc op (Ah x||Ah y) A B λR=>k R H):uw P o a.eval c H k ks:=by
 obtain⟨A,hA,h⟩:=rH he hx h;obtain⟨B,hB,h⟩:=rH he hy h;obtain⟨i,hT,h⟩:=Lay.rY hL h;cases hag:uz A with
 |true=>rw[hag]at h;exact b1N hr ho hT hA hB h
 |false =>
 rw[hag]at h;dsimp only at h;by_cases h1:(∃ka m,A=.int ka m)/\(∃kb n,B=.int kb n);{obtain⟨⟨ka,m,rfl⟩,⟨kb,n,rfl⟩⟩:=h1;obtain⟨e1,r1⟩:=Af hA;obtain⟨e2,_⟩:=Af hB;obtain⟨r,R,h2,h3,h4⟩:=b0j (P:=P) t c.w r1 h;refine .pure hr (Ac ho ?_ (by rw[e1,e2];exact h2)) (rZ h3) h4;rw[e1,e2];exact yR (by rintro⟨_,_,h,_⟩;cases h) (by intro h;cases h)};by_cases h2:(∃p,A=.str p)/\(∃q,B=.str q);{obtain⟨⟨p,rfl⟩,⟨q,rfl⟩⟩:=h2;obtain⟨e1,_⟩:=Yy hA;obtain⟨e2,_⟩:=Yy hB;obtain⟨r,R,h2,h3,h4⟩:=b0i (P:=P) (c:=c) t c.w h;refine .pure hr (Ac ho ?_ (by rw[e1,e2];exact h2)) (rZ h3) h4;rw[e1,e2];exact yR (by rintro⟨_,_,h,_⟩;cases h) (by intro h;cases h)};refine b52 hr ho hT hA hB ?_;unfold SV at h;split at h;{exact absurd ⟨⟨_,_,rfl⟩,⟨_,_,rfl⟩⟩ h1};{exact absurd ⟨⟨_,rfl⟩,⟨_,rfl⟩⟩ h2};exact h
end
end Go.AL
namespace Go.AL
theorem Js{c:Cx}{sz:Nat}:∀{l:List AV} {cs:List Value} {j:Nat} {x:AV},Pq c sz l cs->l[j]? = some x ->
  ∃ pre xs post,cs=pre++xs++post/\pre.length=j*sz/\xs.length=sz/\Rd c.w c.Im x xs /\
    ∀y ys,Rd c.w c.Im y ys->ys.length=sz->Pq c sz (l.set j y) (pre++ys++post)
 | [],_,_,_,_,h=>by simp at h
 |z::l,cs,0,x,hr,h=>by obtain⟨a,d,rfl,h2,h3,h4⟩:=hr;obtain rfl:z=x:=(by simpa using h);refine⟨[],a,d,ak,ak,h2,h3,λy ys hy hl=>?_⟩;exact⟨ys,d,ak,hl,hy,h4⟩
 |z::l,cs,j+1,x,hr,h=>by obtain⟨a,d,rfl,h2,h3,h4⟩:=hr;obtain⟨pre,xs,post,rfl,h5,h6,h7,h8⟩:=Js h4 (by simpa using h:l[j]? = some x);refine⟨a++pre,xs,post,ak,by simp[h2,h5,dw];omega,h6,h7,λy ys hy hl=>?_⟩;exact⟨a,pre++ys++post,ak,h2,h3,h8 y ys hy hl⟩
theorem Qi{α:Type}(pre xs post:List α){j:Nat}{v:α}(h:xs[j]? = some v):(pre++xs++post)[pre.length+j]? = some v:=by have hj:j<xs.length:=(aY.1 h).1;rw[bP,dJ aj,jM,bH hj,h]
theorem X9{a:Addr}(h:a.spot=none):a=⟨a.block,a.off,none⟩:=by cases a;simp_all
section
variable{P:Program}{L:Lay}{c:Cx}{H:Heap}{e:Env}{a:Act}{k:AV->Heap->Prop}{ks:Heap->Prop}{o:Oper}
theorem a02{t:Nat}{x:Operand}{ad:Addr}(ho:o.op=.load t x)(hx:a.eval x=.pointer (some ad)){v:Value}(h:(loadVar t ad).run P c.w=.ok v c.w) :
  (execOp a.eval o).run P c.w=.ok (.value v) c.w:=by
 unfold execOp;rw[ho];simp only[Instr.loadAt,hx,Instr.sureAddr,Sem.run_bind,Sem.run_pure,Result.andThen_ok,h]
theorem Uh(hL:uo P L)(hr:HR c H){t:Nat}{A:AV}{v:Value}{k:AV->Prop}(hA:EV c A v)(h:Ap L t A H k) :
  ∃ad r R,v=.pointer (some ad)/\(loadVar t ad).run P c.w=.ok r c.w/\VV c R r/\k R:=by
 unfold Ap at h;split at h;{rename_i x;obtain⟨ad,ds,e1,hs,hc,hx⟩:=b0l hA;obtain⟨_,i,hT,hf,hg,hk⟩:=Ae hL h;have hx':VR c x ds:=yL _ _ hx;refine⟨ad,mkV x ds,x,e1,?_,a3u hx',hk⟩;rw[X9 hs];exact HY hT hf hg hx' λj v hj=>(hc j v hj).1};{rename_i i p off;obtain⟨hk,e1⟩:=Po hA;obtain⟨ob,hob,h⟩:=uh.1 h;have hok:=hr.EL hob;split at h;{rename_i B;obtain⟨x,hp,h⟩:=BI.1 h;obtain⟨hoff,h⟩:=sV.1 h;obtain⟨_,ti,hT,hf,hg,hkk⟩:=Ae hL h;subst hoff;obtain⟨cs,ty,h1,h2,_⟩:=hok;obtain⟨pre,xs,post,rfl,h4,h5⟩:=NH h2 hp;refine⟨_,mkV x xs,x,e1,?_,a3u h5,hkk⟩;refine HY hT hf hg h5 λj v hj=>?_;rw[cell_of_heap h1,<- h4,fA];exact Qi _ _ _ hj};{rename_i sz cap l;split at h;{rename_i j;obtain⟨x,⟨_,hx⟩,hoff,h'⟩:=h.ex;obtain⟨_,ti,hT,hf,hg,hkk⟩:=Ae hL h';subst hoff;obtain⟨cs,ty,h1,h2,h3,h4,h5,_⟩:=hok;obtain⟨pre,xs,post,rfl,h6,h7,h8,_⟩:=Js h5 (by simpa using hx);have h8':VR c x xs:=yL _ _ h8;refine⟨_,mkV x xs,x,e1,?_,a3u h8',hkk⟩;refine HY hT hf hg h8' λj v hj=>?_;rw[cell_of_heap h1,<- h6,fA];exact Qi _ _ _ hj};{rename_i j q _;obtain⟨x,⟨_,hx⟩,h⟩:=h.ex;obtain⟨y,hp,hoff,h'⟩:=BI.1 h;obtain⟨_,ti,hT,hf,hg,hkk⟩:=Ae hL h';subst hoff;obtain⟨cs,ty,h1,h2,h3,h4,h5,_⟩:=hok;obtain⟨pre,xs,post,rfl,h6,h7,h8,_⟩:=Js h5 (by simpa using hx);have h8':VR c x xs:=yL _ _ h8;obtain⟨pre',xs',post',rfl,h9,h10⟩:=NH h8' hp;refine⟨_,mkV y xs',y,e1,?_,a3u h10,hkk⟩;refine HY hT hf hg h10 λj v hj=>?_;rw[cell_of_heap h1,<- h6,<- h9,fA];have:=Qi (pre++pre') xs' (post'++post) hj;simpa[bP,jc]using this};exact h.elim};exact h.elim};exact h.elim
theorem b1M(hL:uo P L){t:Nat}{x:Operand}(hr:HR c H)(he:xR c e a)(hx:sU x=true)(ho:o.op=.load t x)
  (h:uj e x λA=>Ap L t A H λR=>k R H):uw P o a.eval c H k ks:=by
 obtain⟨A,hA,h⟩:=rH he hx h;obtain⟨ad,r,R,e1,h1,h2,h3⟩:=Uh hL hr hA h;exact .pure hr (a02 ho e1 h1) (rZ h2) h3
theorem JE{t:Nat}{x y:Operand}{ad:Addr}(ho:o.op=.store t x y)(hx:a.eval x=.pointer (some ad)){w':World}(h:(storeVar t ad (a.eval y)).run P c.w=.ok () w') :
  (execOp a.eval o).run P c.w=.ok .skip w':=by
 unfold execOp;rw[ho];simp only[Instr.storeAt,hx,Instr.sureAddr,Sem.run_bind,Sem.run_pure,Result.andThen_ok,h]
theorem KW{A:AV}{k:AV->Prop}(h:NW A k):FU A=true/\k (strip A):=by unfold NW at h;split at h;{exact⟨‹_›,h⟩};exact h.elim
theorem Iz(pre xs post bs:List Value)(hl:bs.length=xs.length) :
  (pre++xs++post).take pre.length++bs++(pre++xs++post).drop (pre.length+bs.length)=pre++bs++post:=by
 have e1:(pre++xs++post).take pre.length=pre:=(by rw[bP,List.take_left]);have e2:(pre++xs++post).drop (pre.length+bs.length)=post:=(by rw[hl,<- bn,List.drop_left]);rw[e1,e2]
theorem a8E(hL:uo P L){t:Nat}{x y:Operand}(hr:HR c H)(he:xR c e a)(hx:sU x=true)(hy:sU y=true)(ho:o.op=.store t x y)
  (h:uj e x λA=>uj e y λB=>X7 L t A B H ks):uw P o a.eval c H k ks:=by
 obtain⟨A,hA,h⟩:=rH he hx h;obtain⟨B,hB,h⟩:=rH he hy h;unfold X7 at h;split at h
 ·rename_i i p off _;obtain⟨hk,e1⟩:=Po hA;obtain⟨ob,hob,h⟩:=uh.1 h;have hok:=hr.EL hob;split at h
  ·rename_i _ A0;obtain⟨x0,hp,h⟩:=BI.1 h;obtain⟨hoff,h⟩:=sV.1 h;obtain⟨hval,ti,hT,hf,hg,h⟩:=Ae hL h;obtain⟨hfl,h⟩:=sV.1 h;obtain⟨cs,ty,h1,h2,h3⟩:=hok;have hBv:=Ew hB hval;obtain⟨A',x1,pre,xs,post,g1,rfl,g3,g4,g5,g6⟩:=Dc hBv.2 h2 h;obtain rfl:x0=x1:=by rw[hp]at g1;exact aW g1
   have hbl:(a.eval y).cells.toList.length=xs.length:=(by rw[xU _ _ hBv.2,xU _ _ g4,hfl]);have hbs:(a.eval y).cells.size=xs.length:=(by rw[<- hbl,bM]);obtain⟨⟨_,_⟩,g7⟩:=yx.1 g6;have hrun:=JF (P:=P) (w:=c.w) (v:=a.eval y) (off:=off) hT (by rw[<- hf,<- xU _ _ hBv.2,bM]) h1
    (by rw[<- hoff,<- g3,hbs];simp) (Eu _ _ hBv.2)
   rw[<- hoff,<- g3,nK,<- bM,Iz _ _ _ _ hbl]at hrun;refine .inr (.inl ⟨{ c with w:=c.w.setRow (c.ρ i) (pre++(a.eval y).cells.toList++post).toArray },_,JE ho (by rw[e1,<- hoff,<- g3]) hrun,?_,g7⟩);refine Tr.write hr hob h1 (λ_=>rfl) (λ_=>rfl) h3 (by intros;simp) (by intros;simp) ?_;have le:c.Le { c with w:=c.w.setRow (c.ρ i) (pre++(a.eval y).cells.toList++post).toArray }:=(by refine⟨λb x h=>⟨h,wW (setRow_other c.w _ b _ (λe=>h3 x (e ▸ h)))⟩,aS _,λ_ _=>rfl,λ_ _ _ h=>.inl ⟨h,rfl⟩⟩);exact⟨_,ty,setRow_heap c.w _ _ _ _ _ h1,DW le _ _ g5,h3⟩
  ·rename_i _ sz cap l;split at h
   ·rename_i j _ _;obtain⟨hpu,h⟩:=KW h;obtain⟨hsz,h⟩:=sV.1 h;obtain⟨hval,ti,hT,hf,hg,hj,hoff,h⟩:=Ae hL h;obtain⟨cs,ty,h1,h2,h3,h4,h5,h6⟩:=hok;have hBv:=Ew hB hval;obtain⟨x0,hx0⟩:∃x0,l[j]? = some x0:=⟨_,aH hj⟩;obtain⟨pre,xs,post,rfl,g3,g4,g5,g6⟩:=Js h5 hx0;have hbl:(a.eval y).cells.toList.length=xs.length:=by rw[xU _ _ hBv.2,g4,hsz]
    have hbs:(a.eval y).cells.size=xs.length:=(by rw[<- hbl,bM]);obtain⟨⟨_,_⟩,g7⟩:=yx.1 h;have hrun:=JF (P:=P) (w:=c.w) (v:=a.eval y) (off:=off) hT (by rw[<- hf,<- xU _ _ hBv.2,bM]) h1
     (by rw[hoff,<- g3,hbs];simp) (Eu _ _ hBv.2)
    rw[hoff,<- g3,nK,<- bM,Iz _ _ _ _ hbl]at hrun;refine .inr (.inl ⟨{ c with w:=c.w.setRow (c.ρ i) (pre++(a.eval y).cells.toList++post).toArray },_,JE ho (by rw[e1,hoff,<- g3]) hrun,?_,g7⟩);refine Tr.write hr hob h1 (λ_=>rfl) (λ_=>rfl) h6 (by intros;simp) (by intros;simp) ?_;have le:c.Le { c with w:=c.w.setRow (c.ρ i) (pre++(a.eval y).cells.toList++post).toArray }:=(by refine⟨λb x h=>⟨h,wW (setRow_other c.w _ b _ (λe=>h6 x (e ▸ h)))⟩,aS _,λ_ _=>rfl,λ_ _ _ h=>.inl ⟨h,rfl⟩⟩);refine⟨_,ty,setRow_heap c.w _ _ _ _ _ h1,?_,by simpa using h3,h4,Fp le (g6 _ _ (Ho _ _ hpu hBv.2) (hbl.trans g4)),h6⟩;rw[<- h2];simp;omega
   ·rename_i j q _ _;obtain⟨x0,⟨_,hx0⟩,h⟩:=h.ex;obtain⟨y0,hp,hoff,h⟩:=BI.1 h;obtain⟨hval,ti,hT,hf,hg,h⟩:=Ae hL h;obtain⟨hfl,h⟩:=sV.1 h;obtain⟨cs,ty,h1,h2,h3,h4,h5,h6⟩:=hok;have hBv:=Ew hB hval;obtain⟨pre,ys,post,rfl,g3,g4,g5,g6⟩:=Js h5 (by simpa using hx0);obtain⟨A',x1,pre',xs,post',q1,rfl,q3,q4,q5,h⟩:=Dc hBv.2 (yL _ _ g5) h;obtain rfl:y0=x1:=by rw[hp]at q1;exact aW q1
    obtain⟨hpu,h⟩:=KW h;have hbl:(a.eval y).cells.toList.length=xs.length:=(by rw[xU _ _ hBv.2,xU _ _ q4,hfl]);have hbs:(a.eval y).cells.size=xs.length:=(by rw[<- hbl,bM]);obtain⟨⟨_,_⟩,g7⟩:=yx.1 h;have hrow:pre++(pre'++xs++post')++post=(pre++pre')++xs++(post'++post):=(by simp);have b2k:off=(pre++pre').length:=(by rw[hoff,<- g3,<- q3,bn]);have h1':=h1;rw[hrow]at h1';have hrun:=JF (P:=P) (w:=c.w) (v:=a.eval y) (off:=off) hT (by rw[<- hf,<- xU _ _ hBv.2,bM]) h1'
     (by rw[b2k,hbs];simp;omega) (Eu _ _ hBv.2)
    rw[b2k,nK,<- bM,Iz _ _ _ _ hbl]at hrun;refine .inr (.inl ⟨{ c with w:=c.w.setRow (c.ρ i) ((pre++pre')++(a.eval y).cells.toList++(post'++post)).toArray },_,JE ho (by rw[e1,b2k]) hrun,?_,g7⟩);refine Tr.write hr hob h1 (λ_=>rfl) (λ_=>rfl) h6 (by intros;simp) (by intros;simp) ?_;have le:c.Le { c with w:=c.w.setRow (c.ρ i) ((pre++pre')++(a.eval y).cells.toList++(post'++post)).toArray }:=(by refine⟨λb x h=>⟨h,wW (setRow_other c.w _ b _ (λe=>h6 x (e ▸ h)))⟩,aS _,λ_ _=>rfl,λ_ _ _ h=>.inl ⟨h,rfl⟩⟩);have hl':(pre'++(a.eval y).cells.toList++post').length=sz:=(by rw[<- g4];simp only[bn];omega);refine⟨_,ty,setRow_heap c.w _ _ _ _ _ h1,?_,by simpa using h3,h4,?_,h6⟩;{rw[<- h2];simp only[bn];omega};have:=Fp le (g6 _ _ (Ho _ _ hpu q5) hl');simpa only[bP]using this
   exact h.elim
  exact h.elim
 exact h.elim
end
end Go.AL
namespace Go.AL
theorem OD:∀{zs:List AV} {n f:Nat} {z:AV},zs[f]? = some z->(KZ n zs)[f]? = some (n+yY (zs.take f),flat z)
 | [],_,_,_,h=>by simp at h
 |x::l,n,0,z,h=>by obtain rfl:x=z:=(by simpa using h);simp[KZ,yY]
 |x::l,n,f+1,z,h=>by simp only[KZ,dV,jo,yY];rw[OD (by simpa using h:l[f]? = some z),jc]
section
variable{P:Program}{L:Lay}{c:Cx}{H:Heap}{e:Env}{a:Act}{k:AV->Heap->Prop}{ks:Heap->Prop}{o:Oper}
theorem Gj.field{t f:Nat}{i:TI}{zs:List AV}{z:AV}(h:Gj P t i)(hd:∃fs,i.desc=.struct fs)(hz:i.zero=.ag zs)(hf:zs[f]? = some z) :
  ∃gs fd,P.underlying t=some (.struct gs)/\gs[f]? = some fd/\fd.offset=yY (zs.take f)/\P.cellsOf fd.type=flat z:=by
 obtain⟨fs,hd⟩:=hd;obtain⟨d,h1,h2⟩:=h.under;obtain⟨gs,rfl,hfs⟩:=IG (h2.trans hd);obtain⟨zs',hz',h3⟩:=h.b7e fs hd;rw[hz]at hz';cases hz';subst hfs;have h4:=OD (n:=0) hf;rw[<- h3]at h4;simp only[jV,dO,bJ]at h4;cases hg:gs[f]? with
 |none=>simp[hg]at h4
 |some fd =>simp[hg]at h4;exact⟨gs,fd,h1,hg,h4.1,h4.2⟩
theorem Rw{t:Nat}{n:Nat}(h:P.cellsOf t=n+1)(w:World):(sizeOf t).run P w=.ok (n+1) w:=by
 unfold Program.cellsOf at h;cases hi:P.info? t with
 |none=>simp[hi]at h
 |some x=>simp[hi]at h;unfold sizeOf typeInfo;simp[hi,h]
theorem addr_add(b off n:Nat):(⟨b,off,none⟩:Addr).add n=⟨b,off+n,none⟩:=by unfold Addr.add;split;{rename_i h;subst h;rfl};rfl
theorem a0P{w:World}{Im:Nat->Nat->Prop}:∀{l:List AV} {cs:List Value} {i:Nat} {x:AV},DX w Im l cs->l[i]? = some x ->
  ∃pre xs post,cs=pre++xs++post/\pre.length=yY (l.take i)/\Rd w Im x xs
 | [],_,_,_,_,h=>by simp at h
 | z::l,cs,0,x,hr,h=>by
   simp only[DX]at hr;obtain⟨a,d,rfl,h2,h3⟩:=hr;obtain rfl:z=x:=by simpa using h
   exact⟨[],a,d,ak,by simp[yY],h2⟩
 |z::l,cs,i+1,x,hr,h=>by simp only[DX]at hr;obtain⟨a,d,rfl,h2,h3⟩:=hr;obtain⟨pre,xs,post,rfl,h5,h6⟩:=a0P h3 (by simpa using h:l[i]? = some x);exact⟨a++pre,xs,post,ak,by simp[yY,uH _ _ h2,h5],h6⟩
theorem a1x{w:World}{Im:Nat->Nat->Prop}{b off:Nat}{pre xs post:List Value}(h:AO w Im b off (pre++xs++post)):AO w Im b (off+pre.length) xs:=by intro j v hj;have:=h (pre.length+j) v (Qi pre xs post hj);rw[jc];exact this
theorem a3v{x:AV}{b off:Nat}{ds:List Value}(hc:AO c.w c.Im b off ds)(hx:Rd c.w c.Im x ds):VV c (.cp x) (.pointer (some ⟨b,off,none⟩)) :=
 vw rfl rfl (by simp only[VR,Rd];exact⟨_,ds,rfl,rfl,hc,hx⟩)
theorem Jq{i off:Nat}{p:List Nat}(h:i<c.nx):VV c (.ptr i p off) (.pointer (some ⟨c.ρ i,off,none⟩)) :=
 vw rfl rfl (by simp only[VR];exact⟨h,trivial⟩)
theorem a0c(hL:uo P L){t f:Nat}{x:Operand}(hr:HR c H)(he:xR c e a)(hx:sU x=true)(ho:o.op=.fieldAddr t x f)
  (h:uj e x λA=>SN L t A f λR=>k R H):uw P o a.eval c H k ks:=by
 obtain⟨A,hA,h⟩:=rH he hx h;unfold SN at h;obtain⟨i,hT,h⟩:=Lay.rY hL h
 have run:∀(b off:Nat) (zs:List AV) (z:AV) (n:Nat),(∃fs,i.desc=.struct fs)->i.zero=.ag zs->zs[f]? = some z->flat z=n+1->a.eval x=.pointer (some ⟨b,off,none⟩) ->
   (execOp a.eval o).run P c.w=.ok (.value (.pointer (some ⟨b,off+yY (zs.take f),none⟩))) c.w:=by
  intro b off zs z n hd hz hf hn hp;obtain⟨gs,fd,h1,h2,h3,h4⟩:=hT.field hd hz hf;unfold execOp;rw[ho];simp only[Instr.fieldAt,hp,Instr.sureAddr,Sem.run_bind,run_underlying h1,Result.andThen_ok,h2,Sem.run_pure,fieldPlace,Rw (h4.trans hn)];simp[addr_add,h3]
 split at h;{rename_i fs zs hd hz;split at h;{rename_i l;obtain⟨hfl,h⟩:=sV.1 h;obtain⟨z,hf,h⟩:=zQ.1 h;split at h;{exact h.elim};rename_i n hn;obtain⟨y,hy,h⟩:=zQ.1 h;obtain⟨ad,ds,e1,e2,hc,hrd⟩:=b0l hA;simp only[Rd]at hrd;obtain⟨pre,xs,post,rfl,h5,h6⟩:=a0P hrd hy;rw[X9 e2]at e1;refine .pure hr (run _ _ zs z n ⟨_,hd⟩ hz hf hn e1) (rZ (a3v ?_ h6)) h;rw[<- hfl,<- h5];exact a1x hc};{rename_i j p off;obtain⟨z,hf,h⟩:=zQ.1 h;split at h;{exact h.elim};rename_i n hn;have h:=MP.1 h;obtain⟨hk,e1⟩:=Po hA;exact .pure hr (run _ _ zs z n ⟨_,hd⟩ hz hf hn e1) (rZ (Jq hk)) h};exact h.elim};exact h.elim
theorem MR{kd:IntKind}{n:Int}{w:World}:(asIntOf (.int kd n)).run P w=.ok (kd,n) w:=rfl
theorem FQ{t el:Nat}{x y:Operand}{ei:TI}(ho:o.op=.indexAddr t x y)(ht:P.underlying t=some (.slice el))(hE:Gj P el ei){ad:Addr}{len cap:Nat}{kd:IntKind}{n:Int}
  (hx:a.eval x=.slice (some ad) len cap) (hy:a.eval y=.int kd n) (h0:0<=n) (h1:n<(len:Int)) :
  (execOp a.eval o).run P c.w=.ok (.value (.pointer (some (ad.add (n.toNat*flat ei.zero))))) c.w:=by
 unfold execOp;rw[ho];simp only[Instr.indexAt,hx,hy,Sem.run_bind,MR,Result.andThen_ok,run_underlying ht,Sem.run_pure,h0,h1,and_self,if_true,hE.EJ]
theorem PV{t el m:Nat}{x y:Operand}{ei:TI}(ho:o.op=.indexAddr t x y)(ht:P.underlying t=some (.array m el))(hE:Gj P el ei){ad:Addr}{kd:IntKind}{n:Int}
  (hx:a.eval x=.pointer (some ad)) (hy:a.eval y=.int kd n) (h0:0<=n) (h1:n<(m:Int)) :
  (execOp a.eval o).run P c.w=.ok (.value (.pointer (some (ad.add (n.toNat*flat ei.zero))))) c.w:=by
 unfold execOp;rw[ho];simp only[Instr.indexAt,hx,hy,Sem.run_bind,MR,Result.andThen_ok,run_underlying ht,Instr.sureAddr,Sem.run_pure,h0,h1,and_self,if_true,hE.EJ]
theorem a0b(hL:uo P L){t:Nat}{x y:Operand}(hr:HR c H)(he:xR c e a)(hx:sU x=true)(hy:sU y=true)(ho:o.op=.indexAddr t x y)
  (h:uj e x λA=>uj e y λI=>Es L t A I λR=>k R H):uw P o a.eval c H k ks:=by
 obtain⟨A,hA,h⟩:=rH he hx h;obtain⟨I,hI,h⟩:=rH he hy h;unfold Es at h;split at h;{rename_i kd n;obtain⟨e2,_⟩:=Af hI;obtain⟨i,hT,h⟩:=Lay.rY hL h;obtain⟨d,hd,hdd⟩:=hT.under;split at h;{rename_i el sz l tok hi _ _;obtain rfl:=sJ (hdd.trans hi);obtain⟨ei,hE,h⟩:=Lay.rY hL h;obtain⟨hsz,hix⟩:=sV.1 h;subst hsz;obtain⟨z,⟨h0,hz⟩,hk⟩:=hix.ex;have hlt:n.toNat<l.length:=(aY.1 hz).1;rcases(Yc hA).2 with⟨rfl,_⟩|⟨ad,cap,e1,_,_,hs,hre⟩;{simp at hlt};obtain⟨cs,g1,g2,g3⟩:=a8a hre hz;have hsp:=hs (by intro e;subst e;simp at hlt);rw[X9 hsp]at e1;have hrun:=FQ (P:=P) (c:=c) ho hd hE e1 e2 h0 aj;rw[addr_add]at hrun;exact .pure hr hrun (rZ (a3v g2 g3)) hk};{rename_i el j off len cap sz hi _ _;obtain rfl:=sJ (hdd.trans hi);obtain⟨ei,hE,h⟩:=Lay.rY hL h;obtain⟨rfl,⟨h0,h1⟩,hk⟩:=sV.1 h;obtain⟨hj,e1,_⟩:=Oo hA;have hrun:=FQ (P:=P) (c:=c) ho hd hE e1 e2 h0 h1;rw[addr_add,<- dw]at hrun;exact .pure hr hrun (rZ (Jq hj)) hk};{rename_i m el j p off hi _ _;obtain rfl:=Xx (hdd.trans hi);obtain⟨ei,hE,⟨h0,h1⟩,h⟩:=Lay.rY hL h;have hk:=MP.1 h;obtain⟨hj,e1⟩:=Po hA;have hrun:=PV (P:=P) (c:=c) ho hd hE e1 e2 h0 h1;rw[addr_add]at hrun;exact .pure hr hrun (rZ (Jq hj)) hk};exact h.elim};exact h.elim
theorem a8G(hL:uo P L){t:Nat}{x y:Operand}(hr:HR c H)(he:xR c e a)(hx:sU x=true)(hy:sU y=true)(ho:o.op=.index t x y)
  (h:uj e x λA=>uj e y λI=>SL L t A I λR=>k R H):uw P o a.eval c H k ks:=by
 obtain⟨A,hA,h⟩:=rH he hx h;obtain⟨I,hI,h⟩:=rH he hy h;have h':∃s kd n,A=.str s/\I=.int kd n/\L.sO t λi=>(match i.desc with
  | .str=>DZ s n λb=>k (.int .u8 b.toNat) H
  |_=>False):=by
  unfold SL at h;cases A <;> cases I <;> first|exact h.elim|exact⟨_,_,_,rfl,rfl,h⟩
 clear h;obtain⟨s,kd,n,rfl,rfl,h⟩:=h';obtain⟨e2,_⟩:=Af hI;obtain⟨e1,_⟩:=Yy hA;obtain⟨i,hT,h⟩:=Lay.rY hL h;obtain⟨d,hd,hdd⟩:=hT.under;split at h;{rename_i hi;obtain rfl:=Eo (hdd.trans hi);obtain⟨b,⟨h0,hb⟩,hk⟩:=h.ex;refine .pure hr (v:=.int .u8 b.toNat) ?_ (rZ (uG ?_)) hk;{have hlt:n.toNat<s.length:=(aY.1 hb).1;have hs:(⟨s.toArray⟩:ByteArray)[n.toNat]? = some b:=(by rw[aH hlt]at hb;have h2:n.toNat<(⟨s.toArray⟩:ByteArray).size:=(by simpa[ByteArray.size]using hlt);rw[getElem?_pos (⟨s.toArray⟩:ByteArray) n.toNat h2];exact hb);unfold execOp;rw[ho];simp only[Instr.index,e1,e2,Sem.run_bind,MR,Result.andThen_ok,run_underlying hd,h0,if_true,hs,Sem.run_pure]};have:=b.toNat_lt;simp[KF,IntKind.min,IntKind.max,IntKind.signed,IntKind.bits];omega};exact h.elim
theorem a05{x:Operand}(hr:HR c H)(he:xR c e a)(hx:sU x=true)(ho:o.op=.nilCheck x)
  (h:uj e x λA=>(match A with
  | .ptr _ _ _=>k A H
  | .cp _=>k A H
  | .fn _ _=>k A H
  |_=>False)):uw P o a.eval c H k ks:=by
 obtain⟨A,hA,h⟩:=rH he hx h;have run:∀v,a.eval x=v->((∃ad,v=.pointer (some ad))\/(∃f x y,v=.func (.func f) x y))->(execOp a.eval o).run P c.w=.ok (.value v) c.w:=(by rintro v hv (⟨ad,rfl⟩|⟨f,x,y,rfl⟩) <;> (unfold execOp;rw[ho];simp only[hv];rfl));split at h;{obtain⟨_,e1⟩:=Po hA;exact .pure hr (run _ rfl (.inl ⟨_,e1⟩)) hA h};{obtain⟨ad,ds,e1,_⟩:=b0l hA;exact .pure hr (run _ rfl (.inl ⟨_,e1⟩)) hA h};{obtain⟨vs,e1,_⟩:=b3D hA;exact .pure hr (run _ rfl (.inr ⟨_,_,_,e1⟩)) hA h};exact h.elim
theorem b1b:∀{l:List AV} {vs:List Value} {i:Nat} {x:AV},VA c l vs->l[i]? = some x->∃v,vs[i]? = some v/\VV c x v
 | [],_,_,_,_,h=>by simp at h
 | y::l,vs,0,x,hr,h=>by
   simp only[VA]at hr;obtain⟨v,r,rfl,h2,h3,h4⟩:=hr;obtain rfl:y=x:=by simpa using h
   exact⟨v,rfl,h2,h3⟩
 |y::l,vs,i+1,x,hr,h=>by simp only[VA]at hr;obtain⟨v,r,rfl,h2,h3,h4⟩:=hr;obtain⟨u,g1,g2⟩:=b1b (l:=l) (i:=i) h4 (by simpa using h);exact⟨u,by simpa using g1,g2⟩
theorem a3M{x:Operand}{i:Nat}(hr:HR c H)(he:xR c e a)(hx:sU x=true)(ho:o.op=.extract x i)
  (h:uj e x λA=>(match A with
  | .uf l=>Hr l i λR=>k R H
  |_=>False)):uw P o a.eval c H k ks:=by
 obtain⟨A,hA,h⟩:=rH he hx h;split at h;{obtain⟨R,hR,h⟩:=zQ.1 h;obtain⟨vs,e1,h2⟩:=hA;obtain⟨v,h3,h4⟩:=b1b h2 hR;refine .pure hr (v:=v) ?_ (rZ h4) h;unfold execOp;rw[ho];rw[bJ]at h3;simp only[Instr.extract,e1,h3,Sem.run_bind,Sem.run_pure,Result.andThen_ok]};exact h.elim
theorem b1J{op:UnOp}{t:Nat}{x:Operand}(hr:HR c H)(he:xR c e a)(hx:sU x=true)(ho:o.op=.unOp op t x)
  {F:FT} {vS:AV->Prop} (h:xH F vS L (.unOp op t x) e H k ks):uw P o a.eval c H k ks:=by
 simp only[xH]at h;cases op with
 |not =>obtain⟨A,hA,h⟩:=rH he hx h;have h:KI A λR=>k R H:=h;have hn:(∀l,A≠.uf l)/\A≠.und:=(by refine⟨?_,?_⟩ <;> intros <;> intro e <;> subst e <;> simp[KI]at h);have hV:=vk hA hn.1 hn.2;obtain⟨b,hb⟩:=RH hV h;rw[hb]at hV;obtain⟨R,h1,h2⟩:=Ef hV h;refine .pure hr (v:=.bool !b) ?_ (rZ h1) h2;unfold execOp;rw[ho];simp only[Op.unary,hb,Sem.run_bind,Sem.run_pure,Result.andThen_ok]
 | neg =>
   obtain⟨A,hA,h⟩:=rH he hx h;have h':∃ka n,A=.int ka n/\arith ka (0-n) λR=>k R H:=by cases A <;> first|exact h.elim|exact⟨_,_,rfl,h⟩
   obtain⟨ka,n,rfl,h⟩:=h';obtain⟨e1,_⟩:=Af hA;obtain⟨R,h1,h2⟩:=Fe (c:=c) h;refine .pure hr ?_ (rZ h1) h2;unfold execOp;rw[ho];simp only[Op.unary,e1,Op.intArith,Sem.run_bind,Sem.run_pure,Result.andThen_ok]
 |xor=>obtain⟨A,hA,h⟩:=rH he hx h;exact h.elim
 |plus=>obtain⟨A,hA,h⟩:=rH he hx h;exact h.elim
end
end Go.AL
namespace Go.AL
section
variable{P:Program}{L:Lay}{c:Cx}{H:Heap}{e:Env}{a:Act}{k:AV->Heap->Prop}{ks:Heap->Prop}{o:Oper}
theorem a8z(hr:HR c H){A:AV}{v:Value}(t:Nat)(hv:VV c A v) :
  Tr c H (c.push (.cells v.cells t) ((nextId H,.box A)::H)) ((nextId H,.box A)::H):=by
 refine Tr.push hr _ _ (λ_=>rfl) ?_;refine⟨v.cells.toList,t,?_,DW (UH hr _ _) _ _ hv.2,?_⟩;{rw[EKρ hr];simp only[Cx.push,jf];exact alloc_heap_new _ _};intro x hx;rw[EKρ hr]at hx;have:=hr.im _ _ hx;omega
theorem b0C(hr:HR c H){A:AV}{v:Value}(t:Nat)(hv:VV c A v)(hrun:(execOp a.eval o).run P c.w=.ok (.value (.pointer (some ⟨c.w.heap.size,0,none⟩))) (c.w.alloc (.cells v.cells t)))
  (h:Gz H (.box A) λj H'=>k (.ptr j [] 0) H'):uw P o a.eval c H k ks:=by
 have h:=wz.1 h;have htr:=a8z hr t hv;refine .inl ⟨_,c.push (.cells v.cells t) ((nextId H,.box A)::H),_,_,hrun,htr,?_,h⟩;have:=Jq (c:=c.push (.cells v.cells t) ((nextId H,.box A)::H)) (i:=nextId H) (off:=0) (p:=[]) (by simp only[Cx.push,hr.nx];omega);rw[EKρ hr]at this;exact rZ this
theorem a8K(hL:uo P L){t:Nat}(hr:HR c H)(ho:o.op=.alloc t)(h:L.sO t λi=>Gz H (.box i.zero) λj H'=>k (.ptr j [] 0) H'):uw P o a.eval c H k ks:=by obtain⟨i,hT,h⟩:=Lay.rY hL h;obtain⟨v,h1,h2,h3⟩:=hT.KQ c.w;refine b0C hr t (A:=i.zero) (v:=v) ⟨h2,yL _ _ (h3 _ _)⟩ ?_ h;unfold execOp;rw[ho];simp only[Instr.alloc,Sem.run_bind,h1,Result.andThen_ok,newVar,newRow,run_newObj,Sem.run_pure,World.alloc_eq]
theorem b4p(hL:uo P L){t:Nat}{x:Operand}(hr:HR c H)(he:xR c e a)(hx:sU x=true)(ho:o.op=.box t x)
  (h:uj e x λA=>O1 L t A (Gz H (.box A) λj H'=>k (.ptr j [] 0) H')):uw P o a.eval c H k ks:=by
 obtain⟨A,hA,h⟩:=rH he hx h;obtain⟨hval,i,hT,_,_,h⟩:=Ae hL h;refine b0C hr t (Ew hA hval) ?_ h;unfold execOp;rw[ho];simp only[Instr.box,Sem.run_bind,Result.andThen_ok,newVar,newRow,run_newObj,Sem.run_pure,World.alloc_eq]
theorem Bj{x:Option Operand}{d:Int}{k:Int->Prop}(he:xR c e a)(hx:x.all sU=true)(h:LX e x d k) :
  ∃n,k n/\((x=none/\n=d)\/∃y kd,x=some y/\a.eval y=.int kd n):=by
 cases x with
 |none=>exact⟨d,h,.inl ⟨rfl,rfl⟩⟩
 |some y =>obtain⟨A,hA,h⟩:=rH he (by simpa using hx) h;cases A <;> first|exact h.elim|exact⟨_,h,.inr ⟨_,_,rfl,(Af hA).1⟩⟩
theorem run_sliceBound{kd:IntKind}{n:Int}{m:Nat}{w:World}{cd:BoundsCode}(h0:0<=n)(h1:n<=(m:Int)):(Instr.sliceBound (.int kd n) m cd).run P w=.ok n.toNat w:=by unfold Instr.sliceBound;simp only[Sem.run_bind,MR,Result.andThen_ok,h0,h1,and_self,if_true,Sem.run_pure]
theorem Ag{b:Bool}{len cap:Nat}{lo hi:Option Operand}{w:World}{l h:Int}(hlc:len<=cap)
  (hl:(lo=none/\l=0)\/∃y kd,lo=some y/\a.eval y=.int kd l) (hh:(hi=none/\h=(len:Int))\/∃y kd,hi=some y/\a.eval y=.int kd h)
  (h0:0<=l) (h1:l<=h) (h2:h<=(len:Int)):(Instr.sliceBounds b len cap (lo.map a.eval) (hi.map a.eval) none).run P w=.ok (l.toNat,h.toNat,cap) w:=by
 unfold Instr.sliceBounds;rcases hh with⟨rfl,rfl⟩|⟨y,kd,rfl,ey⟩ <;> rcases hl with⟨rfl,rfl⟩|⟨z,kd',rfl,ez⟩;{simp only[iO,Sem.run_bind,Sem.run_pure,Result.andThen_ok];rfl};{simp only[iO,iq,Sem.run_bind,Sem.run_pure,Result.andThen_ok,ez,run_sliceBound h0 h1,aJ]};{simp only[iO,iq,Sem.run_bind,Sem.run_pure,Result.andThen_ok,ey];rw[run_sliceBound aj aj];rfl};simp only[iq,Sem.run_bind,Sem.run_pure,Result.andThen_ok,ey,ez];rw[run_sliceBound aj aj];simp only[Result.andThen_ok];rw[run_sliceBound h0 aj];rfl
theorem a8F(hL:uo P L){t:Nat}{x:Operand}{lo hi:Option Operand}(hr:HR c H)(he:xR c e a)(hx:sU x=true)(hlo:lo.all sU=true)(hhi:hi.all sU=true)
  (ho:o.op=.slice t x lo hi none) (h:uj e x λA=>aslice L t e A lo hi λR=>k R H):uw P o a.eval c H k ks:=by
 obtain⟨A,hA,h⟩:=rH he hx h;unfold aslice at h;obtain⟨i,hT,h⟩:=Lay.rY hL h;obtain⟨d,hd,hdd⟩:=hT.under;split at h;{rename_i s hi' _;obtain rfl:=Eo (hdd.trans hi');obtain⟨e1,hs⟩:=Yy hA;obtain⟨l,h,hl⟩:=Bj he hlo h;obtain⟨m,h,hm⟩:=Bj he hhi h;obtain⟨⟨h0,h1,h2⟩,hk⟩:=h.ex;refine .pure hr (v:=.string ⟨((s.drop l.toNat).take (m.toNat-l.toNat)).toArray⟩) ?_ (rZ (a0L ?_)) hk;{have hsz:(⟨s.toArray⟩:ByteArray).size=s.length:=(by simp[ByteArray.size]);unfold execOp;rw[ho];simp only[Instr.sliceAt,Instr.slice,e1,Sem.run_bind,run_underlying hd,Result.andThen_ok,Option.isSome_none,dN,if_false,hsz,Sem.run_pure,iO];rw[Ag (P:=P) (a:=a) (aS _) hl hm h0 h1 h2];simp only[Result.andThen_ok];congr 3;apply ByteArray.ext;simp[ByteArray.data_extract]};have:((s.drop l.toNat).take (m.toNat-l.toNat)).length<=s.length:=aA;omega};{rename_i el sz l tok hi' _;obtain rfl:=sJ (hdd.trans hi');obtain⟨ei,hE,h⟩:=Lay.rY hL h;obtain⟨hsz,h⟩:=sV.1 h;subst hsz;obtain⟨p,h,hp⟩:=Bj he hlo h;obtain⟨q,h,hq⟩:=Bj he hhi h;obtain⟨⟨h0,h1,h2⟩,hk⟩:=h.ex;obtain⟨hml,hv⟩:=Yc hA;have hlen:((l.drop p.toNat).take (q.toNat-p.toNat)).length=q.toNat-p.toNat:=aA;rcases hv with⟨rfl,e1⟩|⟨ad,cap,e1,hc1,hc2,hs,hre⟩;{have hp0:p=0:=(by simp at h2;omega);have hq0:q=0:=(by simp at h2;omega);subst hp0;subst hq0;refine .pure hr (v:=.slice none 0 0) ?_ (rZ (vw rfl rfl ?_)) hk;{unfold execOp;rw[ho];simp only[Instr.sliceAt,Instr.slice,e1,Sem.run_bind,run_underlying hd,Result.andThen_ok,iO];rw[Ag (P:=P) (a:=a) (aS _) hp (h:=0) (by rcases hq with⟨h1,_⟩|h1;exact .inl ⟨h1,rfl⟩;exact .inr h1) aj aj ak];simp only[Result.andThen_ok,hE.EJ];rfl};simp only[VR,Rd];exact⟨ak,.inl ⟨ak,trivial⟩⟩};refine .pure hr (v:=.slice (if cap=p.toNat then some ad else some (ad.add (p.toNat*flat ei.zero))) (q.toNat-p.toNat) (cap-p.toNat)) ?_ (rZ (vw rfl rfl ?_)) hk;{unfold execOp;rw[ho];simp only[Instr.sliceAt,Instr.slice,e1,Sem.run_bind,run_underlying hd,Result.andThen_ok,iO];rw[Ag (P:=P) (a:=a) hc1 hp hq h0 h1 h2];simp only[Result.andThen_ok,hE.EJ,iq,Sem.run_pure]};simp only[VR,Rd,hlen];refine⟨aj,.inr ?_⟩;by_cases hcp:cap=p.toNat;{rw[aG hcp];have hq':q.toNat-p.toNat=0:=aj;refine⟨ad,cap-p.toNat,by rw[hq'],aj,aj,?_,?_⟩;{intro hne;exact absurd (bT (by rw[hlen,hq'])) hne};rw[hq',jO];simp only[IV]};rw[aB hcp];refine⟨ad.add (p.toNat*flat ei.zero),cap-p.toNat,rfl,aj,aj,?_,?_⟩;{intro hne;unfold Addr.add;split;{refine hs ?_;intro e;subst e;exact hne ak};rfl};have hb:(ad.add (p.toNat*flat ei.zero)).block=ad.block/\(ad.add (p.toNat*flat ei.zero)).off=ad.off+p.toNat*flat ei.zero:=(by unfold Addr.add;split;{rename_i h0;rw[h0];exact⟨rfl,rfl⟩};exact⟨rfl,rfl⟩);rw[hb.1,hb.2];exact Yt _ (a3A _ hre aj)};{rename_i el j off len cap sz hi' _;obtain rfl:=sJ (hdd.trans hi');obtain⟨ei,hE,h⟩:=Lay.rY hL h;obtain⟨hsz,h⟩:=sV.1 h;subst hsz;obtain⟨p,h,hp⟩:=Bj he hlo h;obtain⟨q,h,hq⟩:=Bj he hhi h;obtain⟨⟨h0,h1,h2⟩,hcp,hk⟩:=h;obtain⟨hj,e1,hc1,hc2⟩:=Oo hA;refine .pure hr (v:=.slice (some ⟨c.ρ j,(off+p.toNat)*flat ei.zero,none⟩) (q.toNat-p.toNat) (cap-p.toNat)) ?_ (rZ (vw rfl rfl ?_)) hk;{unfold execOp;rw[ho];simp only[Instr.sliceAt,Instr.slice,e1,Sem.run_bind,run_underlying hd,Result.andThen_ok,iO];rw[Ag (P:=P) (a:=a) hc1 hp hq h0 h1 h2];simp only[Result.andThen_ok,hE.EJ,iq,Sem.run_pure];rw[aB aj,addr_add,dw]};simp only[VR];exact⟨hj,trivial,aj,aj⟩};{rename_i el hi' _;obtain rfl:=sJ (hdd.trans hi');obtain⟨ei,hE,h⟩:=Lay.rY hL h;obtain⟨p,h,hp⟩:=Bj he hlo h;obtain⟨q,h,hq⟩:=Bj he hhi h;obtain⟨⟨rfl,rfl⟩,hk⟩:=h;have e1:=DV hA;refine .pure hr (v:=.slice none 0 0) ?_ (e1 ▸ hA) hk;unfold execOp;rw[ho];simp only[Instr.sliceAt,Instr.slice,e1,Sem.run_bind,run_underlying hd,Result.andThen_ok,iO];rw[Ag (P:=P) (a:=a) (aS _) hp (h:=0) hq aj aj ak];simp only[Result.andThen_ok,hE.EJ];rfl};exact h.elim
end
end Go.AL
namespace Go.AL
theorem b3E{c:Cx}:∀{As:List AV} {vs:List Value},Ot c As vs->(∀A∈As,isVal A=true)->VA c As vs
 | [],vs,h,_=>by simp only[VA];exact h
 |A::As,vs,h,hv=>by obtain⟨v,r,rfl,h1,h2⟩:=h;simp only[VA];exact⟨v,r,rfl,(Ew h1 (hv A ak)).1,(Ew h1 (hv A ak)).2,b3E h2 λx hx=>hv x (by simp[hx])⟩
theorem Rn{k:Prop}:∀{As:List AV},Ti As k->(∀A∈As,isVal A=true)/\k
 | [],h=>⟨ak,h⟩
 |A::As,h=>by simp only[Ti]at h;obtain⟨h1,h2⟩:=KO.1 h;obtain⟨h3,h4⟩:=Rn h2;exact⟨by intro x hx;rcases aT.1 hx with rfl|hx;exact h1;exact h3 x hx,h4⟩
section
variable{P:Program}{L:Lay}{c:Cx}{H:Heap}{e:Env}{a:Act}{k:AV->Heap->Prop}{ks:Heap->Prop}{o:Oper}
theorem a3N(hL:uo P L){s d:Nat}{x:Operand}(hr:HR c H)(he:xR c e a)(hx:sU x=true)(ho:o.op=.convert s d x)
  (h:uj e x λA=>L.sO s λ_=>L.sO d λi=>(match i.desc,A with
  | .int kd,.int _ n=>k (.int kd (kd.wrap n)) H
  | .str,.str s=>k (.str s) H
  |_,_=>False)):uw P o a.eval c H k ks:=by
 obtain⟨A,hA,h⟩:=rH he hx h;obtain⟨i0,hT0,h0⟩:=Lay.rY hL h;clear h;obtain⟨i,hT,h⟩:=Lay.rY hL h0;clear h0;obtain⟨u,hd,hdd⟩:=hT.under;obtain⟨us,hs,_⟩:=hT0.under;split at h;{rename_i _ _ kd kd' n hi;obtain rfl:=Xw (hdd.trans hi);obtain⟨e1,_⟩:=Af hA;refine .pure hr (v:=.int kd (kd.wrap n)) ?_ (rZ (uG (EG _ _))) h;unfold execOp;rw[ho];simp only[convert,e1,Sem.run_bind,run_underlying hs,run_underlying hd,Result.andThen_ok,Conv.intToInt,Sem.run_pure]};{rename_i _ _ b hi;obtain rfl:=Eo (hdd.trans hi);obtain⟨e1,h1⟩:=Yy hA;refine .pure hr (v:=a.eval x) ?_ hA h;unfold execOp;rw[ho];simp only[convert,e1,Sem.run_bind,run_underlying hs,run_underlying hd,Result.andThen_ok,Sem.run_pure]};exact h.elim
theorem RF(hL:uo P L){t:Nat}{x:Operand}(hr:HR c H)(he:xR c e a)(hx:sU x=true)(ho:o.op=.makeInterface t x)
  (h:uj e x λA=>L.sO t λi=>(match i.desc with
  | .iface=>False
  |_=>Vw A (k (.uV t A) H))):uw P o a.eval c H k ks:=by
 obtain⟨A,hA,h⟩:=rH he hx h;obtain⟨i,hT,h⟩:=Lay.rY hL h;obtain⟨u,hd,hdd⟩:=hT.under;have h':i.desc≠.iface/\isVal A=true/\k (.uV t A) H:=by cases hi:i.desc <;> simp only[hi]at h <;> first|exact h.elim|exact⟨ak,KO.1 h⟩
 obtain⟨hne,hval,hk⟩:=h';have hV:=Ew hA hval;refine .pure hr (v:=.iface t (a.eval x)) ?_ (rZ (vw rfl rfl ?_)) hk
 ·unfold execOp;rw[ho];have:∀ms,u≠.interface ms:=by intro ms e;subst e;exact hne hdd.symm
  simp only[Instr.makeInterface,Sem.run_bind,run_underlying hd,Result.andThen_ok];cases u <;> first|rfl|exact absurd rfl (this _)
 simp only[VR];exact⟨_,rfl,hV.1,hV.2⟩
theorem a06{f:Fn}{first cap:Array Operand}(hr:HR c H)(he:xR c e a)(hx:cap.toList.all sU=true)(ho:o.op=.makeFunc f first cap)
  {F:FT} {vS:AV->Prop} (h:xH F vS L (.makeFunc f first cap) e H k ks):uw P o a.eval c H k ks:=by
 simp only[xH]at h;cases f with
 | func g =>
   cases hf:first.toList with
   | nil =>
     rw[hf]at h;obtain⟨As,h1,h2⟩:=CV he hx h;obtain⟨h3,h4⟩:=Rn h2;have hV:=b3E h1 h3;obtain rfl:first = #[]:=by cases first;simp_all
     refine .pure hr (v:=.func (.func g) #[] (cap.toList.map a.eval).toArray) ?_ (rZ (vw rfl rfl ?_)) h4;{unfold execOp;rw[ho];simp[Instr.makeFunc];exact Array.ext' ak};simp only[VR];exact⟨_,rfl,hV⟩
   |cons x l=>rw[hf]at h;exact h.elim
 |_=>exact h.elim
theorem Ku:∀{As Bs:List AV} {vs us:List Value},Ot c As vs->Ot c Bs us->Ot c (As++Bs) (vs++us)
 | [],_,_,_,h,g=>by obtain rfl:=h;exact g
 |A::As,Bs,vs,us,h,g=>by obtain⟨v,r,rfl,h1,h2⟩:=h;exact⟨v,r++us,rfl,h1,Ku h2 g⟩
theorem NK:∀{As:List AV} {vs:List Value},VA c As vs->Ot c As vs
 | [],_,h=>by simp only[VA]at h;exact h
 |A::As,vs,h=>by simp only[VA]at h;obtain⟨v,r,rfl,h1,h2,h3⟩:=h;exact⟨v,r,rfl,rZ ⟨h1,h2⟩,NK h3⟩
theorem b4z{A B:AV}{v:Value}(h:le0 A B)(hv:EV c A v):EV c B v:=by
 cases A with
 |uf l=>cases B <;> simp only[le0]at h <;> cases h;exact hv
 |und=>cases B <;> simp only[le0]at h <;> first|(cases h;done)|trivial
 |_=>exact rZ (RS h hv)
theorem Ie:∀{l m:List AV} {vs:List Value},Ll l m->Ot c l vs->Ot c m vs
 | [],[],_,_,hr=>hr
 | [],_::_,_,h,_=>by simp only[Ll]at h
 |_::_,[],_,h,_=>by simp only[Ll]at h
 |x::l,y::m,vs,h,hr=>by simp only[Ll]at h;obtain⟨v,r,h1,h2,h3⟩:=hr;exact⟨v,r,h1,b4z h.1 h2,Ie h.2 h3⟩
theorem a1V{G:Heap}(htp:∀k n,ug G k=some n->c.tp k=some n):∀{l:List AV} {vs:List Value},vT (nextId G) l=true->Ot c l vs->Ot (c.cut G) l vs
 | [],_,_,hr=>hr
 | x::l,vs,hb,hr=>by
   simp only[vT]at hb;obtain⟨v,r,h1,h2,h3⟩:=hr;cases hx:tq (nextId G) x with
   |false=>rw[hx]at hb;cases hb
   |true=>rw[hx]at hb;exact⟨v,r,h1,Tc htp hx h2,a1V htp hb h3⟩
theorem qX.pure{f:Nat}{Bs:List AV}{R:AV}(h:qX P f Bs [] R [])(hB:vT 0 Bs=true)(hR:tq 0 R=true)(hr:HR c H){vs:List Value}(hv:Ot c Bs vs) :
  Calls P f vs.toArray c.w λe w'=>∃v d,e=.returned v/\d.w=w'/\Tr c H d H/\EV d R v:=by
 have hr0:HR (c.cut []) []:=⟨rfl,rfl,trivial,hr.im,ak,.nil⟩;have hv0:Ot (c.cut []) Bs vs:=a1V (G:=[]) (λk n hn=>by cases hn) hB hv;refine Calls.mono (w:=(c.cut []).w) (h.2 (c.cut []) vs hr0 hv0) ?_;rintro _ w' ⟨v,d,rfl,rfl,htr,hV⟩;refine⟨v,{ c with w:=d.w,Im:=d.Im },rfl,rfl,?_,?_⟩;{refine Tr.keep hr ⟨htr.le.im,aS _,λ_ _=>rfl,λ_ _ _ h=>.inl ⟨h,rfl⟩⟩ rfl rfl rfl htr.os htr.tape htr.output htr.size (λb hb=>htr.fr b hb ak) (λb o ho=>?_);rcases htr.imb b o ho with h|h|⟨x,hx,_⟩;{exact .inl h};{exact .inr ⟨h,htr.hr.im b o ho⟩};simp at hx};have h1:EV (d.cut []) R v:=Tc (G:=[]) (λk n hn=>by cases hn) hR hV;refine Cc (c:=d.cut []) (d:={ c with w:=d.w,Im:=d.Im }) ⟨λ_ _ h=>⟨h,rfl⟩,aO _,λk hk=>?_,λk n hk=>?_⟩ h1;{simp[Cx.cut,nextId]at hk};simp[Cx.cut,nextId]at hk
theorem YF{F:FT}(hFn:FS P F){f:Operand}{cl:Call}(hr:HR c H)(he:xR c e a)(hf:sU f=true)(hx:cl.args.toList.all sU=true)(ho:o.op=.call cl)(hc:cl.callee=.value f)
  (h:uj e f λA=>(match A with
   | .fn g cap=>FI e cl.args.toList λAs=>YX As cap λBs=>Ir F Ok g Bs H k
   |_=>False)):uw P o a.eval c H k ks:=by
 obtain⟨A,hA,h⟩:=rH he hf h;split at h
 ·rename_i g cap;obtain⟨vs,e1,h1⟩:=b3D hA;obtain⟨As,h2,h3⟩:=CV he hx h;have h3:=QT.1 h3
  have key:∃ R H',(∃ fn,P.funcs[g]? = some fn/\(fn.name== "runtime.NumGoroutine")=false/\fn.body.isSome=true) /\
    (Calls P g (cl.args.toList.map a.eval++vs).toArray c.w λe w'=>∃v d,e=.returned v/\d.w=w'/\Tr c H d H'/\EV d R v)/\k R H':=by
   have fin:∀{R H'},(Calls P g (cl.args.toList.map a.eval++vs).toArray c.w λe w'=>∃v d,e=.returned v/\d.w=w'/\Tr c H d H'/\EV d R v)->Ok R:=(by intro R H' hcall;obtain⟨e',w',fr,⟨v,d,_,_,_,h8⟩,_⟩:=hcall [];exact MH h8);cases h3 with
   |gen R H' hF hk =>have hF:=hFn.h _ _ _ _ _ hF;have hcall:=hF.2 c _ hr (Ku h2 (NK h1));exact⟨R,H',hF.1,hcall,hk (fin hcall)⟩
   |pure Bs R hle hb hF hk =>have hF:=hFn.h _ _ _ _ _ hF;have hcall:=qX.pure hF hb.1 hb.2 hr (Ie hle (Ku h2 (NK h1)));exact⟨R,H,hF.1,hcall,hk (fin hcall)⟩
  obtain⟨R,H',⟨fn,f1,f2,f3⟩,hcall,hk⟩:=key;refine .inr (.inr ⟨g,_,?_,hcall.mono λ_ _ ⟨v,d,h1,h2,h3,h4⟩=>⟨v,d,R,H',h1,h2,h3,h4,hk⟩⟩);unfold execOp;rw[ho];simp only[resolve,hc,e1,Deferred.ofValue,Sem.run_bind,Sem.run_pure,Result.andThen_ok,invoke,callFunc,run_program,f1,f2,dN,if_false];have:fn.body.isNone=false:=by cases hb:fn.body <;> simp[hb]at f3 ⊢
  simp only[this,dN,if_false,Sem.run_pure];congr 2;simp
 exact h.elim
theorem UD.pure{f:Nat}{Bs:List AV}{Q:AV->Prop}(h:UD P f Bs [] λR H'=>H'=[]/\tq 0 R=true/\Q R)(hB:vT 0 Bs=true)(hr:HR c H){vs:List Value}(hv:Ot c Bs vs) :
  Calls P f vs.toArray c.w λe w'=>∃v d R H',(H'=H/\Q R)/\e=.returned v/\d.w=w'/\Tr c H d H'/\EV d R v:=by
 have hr0:HR (c.cut []) []:=⟨rfl,rfl,trivial,hr.im,ak,.nil⟩;have hv0:Ot (c.cut []) Bs vs:=a1V (G:=[]) (λk n hn=>by cases hn) hB hv;refine Calls.mono (w:=(c.cut []).w) (h.2 (c.cut []) vs hr0 hv0) ?_;rintro _ w' ⟨v,d,R,_,⟨rfl,hR,hQ⟩,rfl,rfl,htr,hV⟩;refine⟨v,{ c with w:=d.w,Im:=d.Im },R,H,⟨rfl,hQ⟩,rfl,rfl,?_,?_⟩;{refine Tr.keep hr ⟨htr.le.im,aS _,λ_ _=>rfl,λ_ _ _ h=>.inl ⟨h,rfl⟩⟩ rfl rfl rfl htr.os htr.tape htr.output htr.size (λb hb=>htr.fr b hb ak) (λb o ho=>?_);rcases htr.imb b o ho with h|h|⟨x,hx,_⟩;{exact .inl h};{exact .inr ⟨h,htr.hr.im b o ho⟩};simp at hx};have h1:EV (d.cut []) R v:=Tc (G:=[]) (λk n hn=>by cases hn) hR hV;refine Cc (c:=d.cut []) (d:={ c with w:=d.w,Im:=d.Im }) ⟨λ_ _ h=>⟨h,rfl⟩,aO _,λk hk=>?_,λk n hk=>?_⟩ h1;{simp[Cx.cut,nextId]at hk};simp[Cx.cut,nextId]at hk
theorem a07{F:FT}(hFn:FS P F){f:Operand}{cl:Call}(hr:HR c H)(he:xR c e a)(hx:cl.args.toList.all sU=true)(ho:o.op=.call cl)(hc:cl.callee=.value f){g:Nat}{cap:List AV}(hA:EV c (.fn g cap) (a.eval f))
  (h:FI e cl.args.toList λAs=>YX As cap λBs=>IQ F Ok g Bs H k):uw P o a.eval c H k ks:=by
 obtain⟨vs,e1,h1⟩:=b3D hA;obtain⟨As,h2,h3⟩:=CV he hx h;have h3:=QT.1 h3;have hv:=Ku h2 (NK h1)
 have key:(∃ fn,P.funcs[g]? = some fn/\(fn.name== "runtime.NumGoroutine")=false/\fn.body.isSome=true) /\
   (Calls P g (cl.args.toList.map a.eval++vs).toArray c.w λe w'=>∃v d R H',e=.returned v/\d.w=w'/\Tr c H d H'/\EV d R v/\k R H'):=by
  cases h3 with
  |gen R H' hF hk =>have hF:=hFn.h _ _ _ _ _ hF;exact⟨hF.1,(hF.2 c _ hr hv).mono λ_ _ ⟨v,d,h1,h2,h3,h4⟩=>⟨v,d,R,H',h1,h2,h3,h4,hk (MH h4)⟩⟩
  |pure Bs R hle hb hF hk =>have hF:=hFn.h _ _ _ _ _ hF;exact⟨hF.1,(qX.pure hF hb.1 hb.2 hr (Ie hle hv)).mono λ_ _ ⟨v,d,h1,h2,h3,h4⟩=>⟨v,d,R,H,h1,h2,h3,h4,hk (MH h4)⟩⟩
  |rel Q hF hk =>have hF:=hFn.q _ _ _ _ hF;exact⟨hF.1,(hF.2 c _ hr hv).mono λ_ _ ⟨v,d,R,H',hQ,h1,h2,h3,h4⟩=>⟨v,d,R,H',h1,h2,h3,h4,hk R H' hQ (MH h4)⟩⟩
  |b7t Bs Q hle hb hF hk =>have hF:=hFn.q _ _ _ _ hF;refine⟨hF.1,(UD.pure hF hb hr (Ie hle hv)).mono ?_⟩;rintro _ _ ⟨v,d,R,_,⟨rfl,hQ⟩,h1,h2,h3,h4⟩;exact⟨v,d,R,_,h1,h2,h3,h4,hk R hQ (MH h4)⟩
 obtain⟨⟨fn,f1,f2,f3⟩,hcall⟩:=key;refine .inr (.inr ⟨g,_,?_,hcall⟩);unfold execOp;rw[ho];simp only[resolve,hc,e1,Deferred.ofValue,Sem.run_bind,Sem.run_pure,Result.andThen_ok,invoke,callFunc,run_program,f1,f2,dN,if_false];have:fn.body.isNone=false:=by cases hb:fn.body <;> simp[hb]at f3 ⊢
 simp only[this,dN,if_false,Sem.run_pure];congr 2;simp
theorem xZ{cl:Call}{b:Builtin}(ho:o.op=.call cl)(hc:cl.callee=.builtin b){w:World} :
  (execOp a.eval o).run P w=(builtin b cl.argTypes o.type (cl.args.map fun | .const _=>true|_=>false) (cl.args.map a.eval)).run P w:=by
 unfold execOp;rw[ho];simp only[resolve,hc,Sem.run_bind,Sem.run_pure,Result.andThen_ok,invoke];rfl
theorem NJ{A:AV}{vs:List Value}(h:Ot c [A] vs):∃v,vs=[v]/\EV c A v:=by obtain⟨v,r,rfl,h1,h2⟩:=h;obtain rfl:=h2;exact⟨v,rfl,h1⟩
theorem Kt{A B:AV}{vs:List Value}(h:Ot c [A,B] vs):∃v u,vs=[v,u]/\EV c A v/\EV c B u:=by obtain⟨v,r,rfl,h1,h2⟩:=h;obtain⟨u,rfl,h3⟩:=NJ h2;exact⟨v,u,rfl,h1,h3⟩
theorem x9{xs:Array Operand}{ρ:Operand->Value}{vs:List Value}(h:xs.toList.map ρ=vs):xs.map ρ=vs.toArray:=by subst h;exact Array.ext' ak
end
end Go.AL
namespace Go.AL
def Jv(w:World)(Im:Nat->Nat->Prop)(sz:Nat):List AV->List Value->Prop
 | [],cs=>cs=[]
 |x::l,cs=>∃a d,cs=a++d/\a.length=sz/\Rd w Im x a/\Jv w Im sz l d
theorem vO{w:World}{Im:Nat->Nat->Prop}{sz:Nat}:∀{l:List AV} {cs:List Value},Jv w Im sz l cs->cs.length=l.length*sz
 | [],_,h=>by obtain rfl:=h;simp
 |x::l,cs,h=>by obtain⟨a,d,rfl,h1,_,h3⟩:=h;simp only[bn,dW,dw,vO h3,h1];omega
theorem Hq{w:World}{Im:Nat->Nat->Prop}{sz:Nat}:∀{l m:List AV} {cs ds:List Value},Jv w Im sz l cs->Jv w Im sz m ds->Jv w Im sz (l++m) (cs++ds)
 | [],_,_,_,h,g=>by obtain rfl:=h;exact g
 |x::l,m,cs,ds,h,g=>by obtain⟨a,d,rfl,h1,h2,h3⟩:=h;exact⟨a,d++ds,ak,h1,h2,Hq h3 g⟩
theorem xP{w w':World}{Im Im':Nat->Nat->Prop}(h:∀b o,Im b o->Im' b o/\w'.cell? ⟨b,o,none⟩=w.cell? ⟨b,o,none⟩){sz:Nat} :
  ∀{l:List AV} {cs:List Value},Jv w Im sz l cs->Jv w' Im' sz l cs
 | [],_,hr=>hr
 |x::l,cs,hr=>by obtain⟨a,d,h1,h2,h3,h4⟩:=hr;exact⟨a,d,h1,h2,wo h _ _ h3,xP h h4⟩
theorem Ip{c:Cx}{sz:Nat}:∀{l:List AV} {cs:List Value},Jv c.w c.Im sz l cs->∀u∈cs,u.oneCell'=true
 | [],_,h=>by obtain rfl:=h;simp
 |x::l,cs,h=>by obtain⟨a,d,rfl,h1,h2,h3⟩:=h;intro u hu;rcases dM.1 hu with hu|hu;{exact Eu x a (yL _ _ h2) u hu};exact Ip h3 u hu
theorem J7{w:World}{Im:Nat->Nat->Prop}{sz b:Nat}:∀{l:List AV} {off:Nat},IV w Im sz b l off ->
  ∃cs,Jv w Im sz l cs/\∀j v,cs[j]? = some v->w.cell? ⟨b,off+j,none⟩=some v
 | [],off,_=>⟨[],rfl,ak⟩
 |x::l,off,h=>by simp only[IV]at h;obtain⟨⟨a,h1,h2,h3⟩,h4⟩:=h;obtain⟨d,h5,h6⟩:=J7 h4;refine⟨a++d,⟨a,d,rfl,h1,h3,h5⟩,λj v hj=>?_⟩;by_cases hlt:j<a.length;{rw[bH hlt]at hj;exact(h2 j v hj).1};rw[dJ aj]at hj;have:=h6 _ v hj;have e:off+sz+(j-a.length)=off+j:=aj;rw[e]at this;exact this
theorem Bo{w:World}{Im:Nat->Nat->Prop}{sz b:Nat}:∀{l:List AV} {cs:List Value} {off:Nat},Jv w Im sz l cs->AO w Im b off cs->IV w Im sz b l off
 | [],_,_,_,_=>by simp only[IV]
 |x::l,cs,off,h,hc=>by obtain⟨a,d,rfl,h1,h2,h3⟩:=h;simp only[IV];refine⟨⟨a,h1,λj v hj=>hc j v (by rw[bH (aY.1 hj).1];exact hj),h2⟩,Bo h3 λj v hj=>?_⟩;have:=hc (a.length+j) v (by rw[dJ aj,jM];exact hj);rw[<- h1,jc];exact this
theorem CY{c:Cx}{sz:Nat}:∀{l:List AV} {cs:List Value},Pq c sz l cs->∃a d,cs=a++d/\Jv c.w c.Im sz l a
 | [],cs,_=>⟨[],cs,rfl,rfl⟩
 |x::l,cs,h=>by obtain⟨a,d,rfl,h1,h2,h3⟩:=h;obtain⟨a',d',rfl,h4⟩:=CY h3;exact⟨a++a',d',ak,a,a',rfl,h1,h2,h4⟩
theorem CX{c:Cx}{sz:Nat}{rest:List Value}:∀{l:List AV} {cs:List Value},Jv c.w c.Im sz l cs->Pq c sz l (cs++rest)
 | [],_,_=>trivial
 |x::l,cs,h=>by obtain⟨a,d,rfl,h1,h2,h3⟩:=h;exact⟨a,d++rest,ak,h1,h2,CX h3⟩
theorem Yr{w:World}{Im:Nat->Nat->Prop}{sz:Nat}:∀{l:List AV} {cs:List Value} (n:Nat),Jv w Im sz l cs->n<=l.length->Jv w Im sz (l.drop n) (cs.drop (n*sz))
 |l,cs,0,h,_=>by simpa using h
 | [],cs,n+1,_,h=>by simp at h
 |x::l,cs,n+1,h,hn=>by obtain⟨a,d,rfl,h1,h2,h3⟩:=h;have:=Yr n h3 (by simpa using hn);have e:(n+1)*sz=a.length+n*sz:=(by rw[dw,h1];omega);simp only[nP];rw[e,List.drop_append,aX (as:=a) aj,jM,eG];exact this
theorem MG{w:World}{Im:Nat->Nat->Prop}{sz:Nat}:∀{l:List AV} {cs:List Value} (n:Nat),Jv w Im sz l cs->Jv w Im sz (l.take n) (cs.take (n*sz))
 |l,cs,0,h=>by simp[Jv]
 | [],cs,n+1,h=>by obtain rfl:=h;simp[Jv]
 |x::l,cs,n+1,h=>by obtain⟨a,d,rfl,h1,h2,h3⟩:=h;have:=MG n h3;have e:(n+1)*sz=a.length+n*sz:=(by rw[dw,h1];omega);simp only[jo];rw[e,List.take_append,bf (l:=a) aj,jM];exact⟨a,_,rfl,h1,h2,this⟩
section
variable{P:Program}{L:Lay}{c:Cx}{H:Heap}{e:Env}{a:Act}{k:AV->Heap->Prop}{ks:Heap->Prop}{o:Oper}
theorem Ic{n:Nat}(h:n<=maxL):KF .i64 (n:Int):=by unfold maxL at h;simp[KF,IntKind.min,IntKind.max,IntKind.signed,IntKind.bits];omega
theorem b0F{cl:Call}{t:Nat}{i:TI}{A:AV}(hr:HR c H)(ho:o.op=.call cl)(hc:cl.callee=.builtin .len)(hat:cl.argTypes[0]? = some t)(hT:Gj P t i)
  {v:Value} (hv:cl.args.toList.map a.eval=[v]) (hA:EV c A v) (h:b0g i.desc A H λR=>k R H):uw P o a.eval c H k ks:=by
 obtain⟨d,hd,hdd⟩:=hT.under;have run:∀r,(Builtin.len_ cl.argTypes o.type #[v]).run P c.w=.ok r c.w->(execOp a.eval o).run P c.w=.ok (.value r) c.w:=by intro r hrr;rw[xZ ho hc,x9 hv];simp only[builtin,Sem.run_bind,hrr,Result.andThen_ok,Sem.run_pure]
 have base:∀(u:Value) (n:Int),v=u->((d=.string/\∃s,u=.string s/\n=s.size)\/(∃el,d=.slice el)/\(∃b m cp,u=.slice b m cp/\n=m)\/(∃p q,d=.map p q)/\u=.map none/\n=0) ->
   (execOp a.eval o).run P c.w=.ok (.value (.int .i64 n)) c.w:=by
  rintro u n rfl hcases;refine run _ ?_;unfold Builtin.len_;rcases hcases with⟨rfl,s,rfl,rfl⟩|⟨⟨el,rfl⟩,b,m,cp,rfl,rfl⟩|⟨⟨p,q,rfl⟩,rfl,rfl⟩;{simp only[hat,fA,dZ,Sem.run_bind,run_underlying hd,Result.andThen_ok,Sem.run_pure,goInt]};{simp only[hat,fA,dZ,Sem.run_bind,run_underlying hd,Result.andThen_ok,Sem.run_pure,goInt]};simp only[hat,fA,dZ,Sem.run_bind,run_underlying hd,Result.andThen_ok,Sem.run_pure,goInt]
 unfold b0g at h;split at h;{rename_i el hi;obtain rfl:=sJ (hdd.trans hi);exact .pure hr (base _ 0 (DV hA) (.inr (.inl ⟨⟨_,rfl⟩,_,_,_,rfl,rfl⟩))) (rZ (uG (Ic (n:=0) (by simp[maxL])))) h};{rename_i el sz l tok hi;obtain rfl:=sJ (hdd.trans hi);obtain⟨h1,h2⟩:=Yc hA;refine .pure hr (base v l.length rfl (.inr (.inl ⟨⟨_,rfl⟩,?_⟩))) (rZ (uG (Ic h1))) h;rcases h2 with⟨rfl,e⟩|⟨ad,cap,e,_⟩;{exact⟨_,_,_,e,rfl⟩};exact⟨_,_,_,e,rfl⟩};{rename_i el j off len cap sz hi;obtain rfl:=sJ (hdd.trans hi);obtain⟨_,e,h1,h2⟩:=Oo hA;exact .pure hr (base _ len e (.inr (.inl ⟨⟨_,rfl⟩,_,_,_,rfl,rfl⟩))) (rZ (uG (Ic (dH h1 h2)))) h};{rename_i s hi;obtain rfl:=Eo (hdd.trans hi);obtain⟨e,h1⟩:=a7L hA;exact .pure hr (base _ s.length e (.inl ⟨rfl,_,rfl,by simp[ByteArray.size]⟩)) (rZ (uG (Ic h1))) h};{rename_i p q hi;obtain rfl:=JR (hdd.trans hi);exact .pure hr (base _ 0 (b3C hA) (.inr (.inr ⟨⟨_,_,rfl⟩,rfl,rfl⟩))) (rZ (uG (Ic (n:=0) (by simp[maxL])))) h};exact h.elim
theorem b0E{cl:Call}{A B:AV}(hr:HR c H)(ho:o.op=.call cl)(hc:cl.callee=.builtin .max){v u:Value}(hv:cl.args.toList.map a.eval=[v,u])(hA:EV c A v)(hB:EV c B u)
  (h:b1W A B λR=>k R H):uw P o a.eval c H k ks:=by
 unfold b1W at h;split at h;{rename_i ka m kb n;split at h;{obtain rfl:=xY ‹_›;obtain⟨rfl,r1⟩:=Af hA;obtain⟨rfl,r2⟩:=Af hB;refine .pure hr (v:=.int ka (max m n)) ?_ (rZ (uG ?_)) h;{rw[xZ ho hc,x9 hv];have:(if n>m then n else m)=max m n:=aj;simp[builtin,Builtin.max_,Builtin.max2,this]};unfold KF at *;omega};exact h.elim};exact h.elim
theorem b0D{cl:Call}{A B:AV}(hr:HR c H)(ho:o.op=.call cl)(hc:cl.callee=.builtin .min){v u:Value}(hv:cl.args.toList.map a.eval=[v,u])(hA:EV c A v)(hB:EV c B u)
  (h:Uu A B λR=>k R H):uw P o a.eval c H k ks:=by
 unfold Uu at h;split at h;{rename_i ka m kb n;split at h;{obtain rfl:=xY ‹_›;obtain⟨rfl,r1⟩:=Af hA;obtain⟨rfl,r2⟩:=Af hB;refine .pure hr (v:=.int ka (min m n)) ?_ (rZ (uG ?_)) h;{rw[xZ ho hc,x9 hv];have:(if n<m then n else m)=min m n:=aj;simp[builtin,Builtin.min_,Builtin.min2,this]};unfold KF at *;omega};exact h.elim};exact h.elim
theorem b1L{cl:Call}{A B C:AV}(hr:HR c H)(ho:o.op=.call cl)(hc:cl.callee=.builtin .min){v u x:Value}(hv:cl.args.toList.map a.eval=[v,u,x])(hA:EV c A v)(hB:EV c B u)(hC:EV c C x)
  (h:Uu A B λR=>Uu R C λR=>k R H):uw P o a.eval c H k ks:=by
 unfold Uu at h;split at h;{rename_i ka m kb n;split at h;{obtain rfl:=xY ‹_›;obtain⟨rfl,r1⟩:=Af hA;obtain⟨rfl,r2⟩:=Af hB;split at h;{rename_i kc p kd q he;injection he with e1 e2;subst e1 e2;split at h;{obtain rfl:=xY ‹_›;obtain⟨rfl,r3⟩:=Af hC;refine .pure hr (v:=.int ka (min (min m n) q)) ?_ (rZ (uG ?_)) h;{rw[xZ ho hc,x9 hv];have h1:(if n<m then n else m)=min m n:=aj;have h2:(if q<min m n then q else min m n)=min (min m n) q:=aj;simp[builtin,Builtin.min_,Builtin.min2,h1,h2]};unfold KF at *;omega};exact h.elim};exact h.elim};exact h.elim};exact h.elim
end
end Go.AL
namespace Go.AL
section
variable{P:Program}{L:Lay}{c:Cx}{H:Heap}{e:Env}{a:Act}{k:AV->Heap->Prop}{ks:Heap->Prop}{o:Oper}
theorem WH(z:Array Value)(m:Nat)(_hz:0<z.size):(madeCells z ((m+1)*z.size)).toList=z.toList++(madeCells z (m*z.size)).toList:=by
 unfold madeCells;simp only[mQ,Array.toList_range];have e1:(m+1)*z.size=z.size+m*z.size:=by rw[dw];omega
 rw[e1,List.range_add,aV,jV];congr 1;{apply lN;{simp};intro i h1 h2;simp at h1 h2;simp[dS h1,h1]};apply nO;intro x _;simp
theorem a3z{w:World}{Im:Nat->Nat->Prop}{z:AV}{v:Value}(hv:Rd w Im z v.cells.toList):∀(m:Nat),Jv w Im (flat z) (List.replicate m z) (madeCells v.cells (m*flat z)).toList:=by
 have hsz:v.cells.size=flat z:=(by rw[<- bM];exact uH _ _ hv);intro m;rcases Nat.eq_zero_or_pos (flat z)with h0|hp
 ·have:(madeCells v.cells (m*flat z)).toList=[]:=(by rw[h0];simp[madeCells]);rw[this];have hvz:v.cells.toList=[]:=bT (by rw[bM,hsz,h0]);induction m with
  |zero=>rfl
  |succ m ih=>exact⟨[],[],rfl,by simp[h0],by rw[<- hvz];exact hv,ih (by rw[h0];simp[madeCells])⟩
 induction m with
 |zero=>simp[madeCells,Jv]
 |succ m ih =>have:=WH v.cells m aj;rw[hsz]at this;rw[this];exact⟨_,_,rfl,by rw[bM,hsz],hv,ih⟩
theorem a7X{w:World}{Im:Nat->Nat->Prop}{sz n m:Nat}{z:AV}{cs:List Value}(h:Jv w Im sz (List.replicate m z) cs)(hn:n<=m) :
  Jv w Im sz (List.replicate n z) (cs.take (n*sz)):=by
 have:=MG n h;rwa[List.take_replicate,iw hn]at this
theorem a0a(hL:uo P L){t:Nat}{x y:Operand}(hr:HR c H)(he:xR c e a)(hx:sU x=true)(hy:sU y=true)(ho:o.op=.makeSlice t x y)
  (h:uj e x λA=>uj e y λB=>L.sO t λi=>(match i.desc,A,B with
  | .slice el,.int _ n,.int _ m=>L.sO el λei=>(0<=n/\n<=m/\m*(ei.bytes:Int)<=281474976710656/\m<=9223372036854775807) /\
    YB m.toNat n.toNat (flat ei.zero) ei.zero H k
  |_,_,_=>False)):uw P o a.eval c H k ks:=by
 obtain⟨A,hA,h⟩:=rH he hx h;obtain⟨B,hB,h⟩:=rH he hy h;obtain⟨i,hT,h⟩:=Lay.rY hL h;obtain⟨d,hd,hdd⟩:=hT.under;split at h
 ·rename_i el ka n kb m hi _ _;obtain rfl:=sJ (hdd.trans hi);obtain⟨ei,hE,⟨h0,h1,h2,h3⟩,h⟩:=Lay.rY hL h;obtain⟨e1,_⟩:=Af hA;obtain⟨e2,_⟩:=Af hB;obtain⟨info,z,g1,g2,g3,g4,g5,g6⟩:=hE.info;have hrun:=run_make (P:=P) c.w t el info z hd g1 g4 ka kb n m h0 h1 (by rw[g3,Int.mul_comm];exact h2) h3;rw[g2]at hrun;have hex:(execOp a.eval o).run P c.w=.ok (.value (.slice (some ⟨c.w.heap.size,0,none⟩) n.toNat m.toNat)) (c.w.alloc (.cells (madeCells z.cells (m.toNat*flat ei.zero)) el)):=by unfold execOp;rw[ho];simp only[e1,e2,Sem.run_bind,hrun,Result.andThen_ok,Sem.run_pure]
  have hcs:∀w Im,Jv w Im (flat ei.zero) (List.replicate m.toNat ei.zero) (madeCells z.cells (m.toNat*flat ei.zero)).toList:=λw Im=>a3z (g6 w Im) _;cases h with
  |pure h =>refine .inl ⟨_,c.alloc _,_,H,hex,Tr.alloc hr _,rZ (vw rfl rfl ?_),h.2⟩;simp only[VR,Rd];have hnm:n.toNat=m.toNat:=h.1;refine⟨⟨by simp[maxL];omega,.inr ⟨⟨c.w.heap.size,0,none⟩,m.toNat,ak,aA,by simp[maxL];omega,λ_=>rfl,?_⟩⟩,⟨some ⟨c.w.heap.size,0,none⟩,by simp[hnm]⟩⟩;rw[hnm];refine Bo (hcs _ _) λj v hj=>⟨?_,.inr rfl⟩;rw[bC];show(c.w.alloc _).cell? ⟨c.w.heap.size,j,none⟩=_;rw[cell_of_heap (alloc_heap_new c.w _),<- bJ];exact hj
  |wr h =>have htr:Tr c H (c.push (.cells (madeCells z.cells (m.toNat*flat ei.zero)) el) ((nextId H,.arr (flat ei.zero) m.toNat (List.replicate n.toNat ei.zero))::H)) ((nextId H,.arr (flat ei.zero) m.toNat (List.replicate n.toNat ei.zero))::H):=(by refine Tr.push hr _ _ (λ_=>rfl) ?_;refine⟨(madeCells z.cells (m.toNat*flat ei.zero)).toList,el,?_,?_,aA,by simp[maxL];omega,?_,?_⟩;{rw[EKρ hr];simp only[Cx.push,jf];exact alloc_heap_new _ _};{rw[bM,size_madeCells]};{have h5:=a7X (n:=n.toNat) (hcs (c.push (.cells (madeCells z.cells (m.toNat*flat ei.zero)) el) ((nextId H,.arr (flat ei.zero) m.toNat (List.replicate n.toNat ei.zero))::H)).w (c.push (.cells (madeCells z.cells (m.toNat*flat ei.zero)) el) ((nextId H,.arr (flat ei.zero) m.toNat (List.replicate n.toNat ei.zero))::H)).Im) aj;have h6:=CX (c:=c.push (.cells (madeCells z.cells (m.toNat*flat ei.zero)) el) ((nextId H,.arr (flat ei.zero) m.toNat (List.replicate n.toNat ei.zero))::H)) (rest:=(madeCells z.cells (m.toNat*flat ei.zero)).toList.drop (n.toNat*flat ei.zero)) h5;rwa[fH]at h6};intro y hy;rw[EKρ hr]at hy;have:=hr.im _ _ hy;omega);refine .inl ⟨_,_,_,_,hex,htr,rZ (vw rfl rfl ?_),h⟩;simp only[VR];rw[EKρ hr];refine⟨by simp only[Cx.push,hr.nx];omega,ak,aj,by simp[maxL];omega⟩
 exact h.elim
end
end Go.AL
namespace Go.AL
structure Src(P:Program)(sz:Nat)(w:World)(x:Value)(m:Nat)(news:List Value):Prop where
 len:∀w',(Builtin.lenOf x).run P w'=.ok m w'
 cells:∀n',(Builtin.firstCells sz m x).run P { w with drawn:=n' }=.ok news.toArray { w with drawn:=n' }
section
variable{P:Program}{w:World}{t u ty el sz:Nat}{info:TypeInfo}{z:Value}{base:Option Addr}{n cap m:Nat}{x:Value}{news:List Value}
theorem FY{d:TypeDesc}(ht:P.underlying t=some (.slice el))(hu:P.underlying u=some d)(hd:(∃e,d=.slice e)\/d=.string)(hi:P.info? el=some info)(hs:info.size=sz)
  (hx:Src P sz w x m news) (hc:n+m<=cap) {w':World}
  (hst:∀ad,base=some ad->(storeCells (ad.add (n*sz)) news).run P w=.ok () w') (hno:base=none->w'=w) :
  (Builtin.append_ #[t,u] ty #[.slice base n cap,x]).run P w=.ok (.slice base (n+m) cap) w':=by
 have h1:=hx.len w;have h2:=hx.cells w.drawn;have hsz:(sizeOf el).run P w=.ok sz w:=(by unfold sizeOf typeInfo;simp[hi,hs]);unfold Builtin.append_;simp only[fA,dZ,dV,Sem.run_bind,run_underlying ht,run_underlying hu,Result.andThen_ok,hsz,Sem.run_pure];rcases hd with⟨e',rfl⟩|rfl;all_goals
  simp only[dN,if_false,jB,if_true,h1,Result.andThen_ok,hc,Sem.run_bind];have h2':(Builtin.firstCells sz m x).run P w=.ok news.toArray w:=h2;simp only[h2',Result.andThen_ok];cases base with
  |none=>obtain rfl:=hno rfl;rfl
  |some ad =>simp only[Sem.run_bind,hst ad rfl,Result.andThen_ok];rfl
theorem JG{d:TypeDesc}(ht:P.underlying t=some (.slice el))(hu:P.underlying u=some d)(hd:(∃e,d=.slice e)\/d=.string)(hi:P.info? el=some info)(hs:info.size=sz)(hz:info.zero=some z)
  (hx:Src P sz w x m news) (hc:cap<n+m) (hm:n+m<=maxL) (hb:(n+m)*info.bytes<=140737488355328) {olds:List Value}
  (hold:∀n',(Builtin.firstCells sz n (.slice base n cap)).run P { w with drawn:=n' }=.ok olds.toArray { w with drawn:=n' }) :
  (Builtin.append_ #[t,u] ty #[.slice base n cap,x]).run P w=.ok (.slice (some ⟨w.heap.size,0,none⟩) (n+m) (grownCap w (n+m) cap el))
   (w.drew.alloc (.cells (olds.toArray++news.toArray++Builtin.zeroCells z.cells (grownCap w (n+m) cap el-(n+m))) el)):=by
 have h1:=hx.len w;have h2:(Builtin.firstCells sz m x).run P w.drew=.ok news.toArray w.drew:=hx.cells (w.drawn+1);have h3:(Builtin.firstCells sz n (.slice base n cap)).run P w.drew=.ok olds.toArray w.drew:=hold (w.drawn+1);have hsz:(sizeOf el).run P w=.ok sz w:=(by unfold sizeOf typeInfo;simp[hi,hs]);have hti:∀w,(typeInfo el).run P w=.ok info w:=(by intro w;unfold typeInfo;simp[hi]);have hzv:∀w,(zeroValue el).run P w=.ok z w:=(by intro w;unfold zeroValue;simp[hti,hz]);have hfit:=growslice_fits hc hb;have e1:¬(n+m<=cap):=aj;have e2:¬(((n+m:Nat):Int)>IntKind.i64.max/\(False\/info.bytes=0)):=(by rintro⟨h,_⟩;simp[IntKind.max,IntKind.signed,IntKind.bits]at h;unfold maxL at hm;omega);have e3:¬(Builtin.nextslicecap (n+m) cap*info.bytes>2^48):=(by have:(2:Nat)^48=281474976710656:=au;omega);unfold Builtin.append_;simp only[fA,dZ,dV,Sem.run_bind,run_underlying ht,run_underlying hu,Result.andThen_ok,hsz,Sem.run_pure];rcases hd with⟨e',rfl⟩|rfl;all_goals
  simp only[dN,if_false,jB,if_true,h1,Result.andThen_ok,e1,Sem.run_bind,hti];simp only[e2,if_false,e3,Result.andThen_ok,run_choose,Question.forced,dN,Sem.run_bind,hti,run_askRoom,World.drew_eq,h3,h2,hzv,newRow,run_newObj,Sem.run_pure,World.alloc_eq];rfl
end
theorem Src.slice{P:Program}{c:Cx}{sz:Nat}{ad:Addr}{m cp:Nat}{news:List Value}(hl:news.length=m*sz)(h:∀j v,news[j]? = some v->c.w.cell? (ad.add j)=some v) :
  Src P sz c.w (.slice (some ad) m cp) m news :=
 ⟨λ_=>rfl,λn'=>run_firstCells_some (P:=P) { c.w with drawn:=n' } sz m ad m cp news hl h⟩
theorem Src.nil{P:Program}{w:World}{sz cp:Nat}:Src P sz w (.slice none 0 cp) 0 []:=⟨λ_=>rfl,λ_=>rfl⟩
theorem Src.str{P:Program}{w:World}(s:List UInt8):Src P 1 w (.string ⟨s.toArray⟩) s.length (s.map λb=>Value.int .u8 b.toNat):=by refine⟨λ_=>by simp[Builtin.lenOf,ByteArray.size],λn'=>?_⟩;simp only[Builtin.firstCells,Sem.run_pure];congr 1;have:(ByteArray.extract ⟨s.toArray⟩ 0 s.length).data=s.toArray:=(by simp[ByteArray.data_extract]);rw[this];simp
section
variable{P:Program}{L:Lay}{c:Cx}{H:Heap}{e:Env}{a:Act}{k:AV->Heap->Prop}{ks:Heap->Prop}{o:Oper}
theorem Pn{w:World}{b off:Nat}{ad:Addr}{cs:List Value}(h1:ad.block=b)(h2:ad.off=off)(h3:cs≠[]->ad.spot=none)
  (h:∀j v,cs[j]? = some v->w.cell? ⟨b,off+j,none⟩=some v):∀j v,cs[j]? = some v->w.cell? (ad.add j)=some v:=by
 intro j v hj;have hne:cs≠[]:=by intro e;subst e;simp at hj
 have:ad=⟨b,off,none⟩:=by cases ad;simp_all
 rw[this,addr_add];exact h j v hj
theorem AY(hr:HR c H){sz:Nat}{B:AV}{x:Value}{k:List AV->Prop}(hB:EV c B x)(h:Oy H sz B k) :
  ∃l news,Src P sz c.w x l.length news/\Jv c.w c.Im sz l news/\k l:=by
 unfold Oy at h;split at h;{obtain rfl:=DV hB;exact⟨[],[],Src.nil,rfl,h⟩};{rename_i sz' l tok;obtain⟨hs,hk⟩:=sV.1 h;subst hs;obtain⟨h1,h2⟩:=Yc hB;rcases h2 with⟨rfl,rfl⟩|⟨ad,cap,rfl,_,_,hsp,hre⟩;{exact⟨[],[],Src.nil,rfl,hk⟩};obtain⟨news,g1,g2⟩:=J7 hre;refine⟨l,news,Src.slice (vO g1) (Pn rfl rfl (λhne=>hsp (λe=>?_)) g2),g1,hk⟩;subst e;exact hne g1};{rename_i j off len cap sz';obtain⟨ob,hob,h⟩:=uh.1 h;have hok:=hr.EL hob;split at h;{rename_i b39 cp l;obtain⟨hs,h⟩:=sV.1 h;subst hs;obtain⟨hs,hin,hk⟩:=sV.1 h;subst hs;obtain⟨_,e,hlc,hcm⟩:=Oo hB;subst e;obtain⟨cs,ty,g1,g2,g3,g4,g5,g6⟩:=hok;obtain⟨a',d',rfl,g7⟩:=CY g5;have hl:((l.drop off).take len).length=len:=aA;have hf:=MG len (Yr off g7 aj);have hal:=vO g7;refine⟨(l.drop off).take len,(a'.drop (off*b39)).take (len*b39),?_,hf,hk⟩;rw[hl];refine Src.slice (by rw[vO hf,hl]) λx v hx=>?_;rw[jy]at hx;split at hx;{rw[gZ]at hx;rw[addr_add];simp only[World.cell?,g1];have:off*b39+x<a'.length:=(aY.1 hx).1;simp[bH this,hx]};simp at hx};exact h.elim}
 ·rename_i s;obtain⟨hs,hk⟩:=sV.1 h;subst hs;obtain⟨rfl,h1⟩:=a7L hB;refine⟨s.map λb=>.int .u8 b.toNat,s.map λb=>Value.int .u8 b.toNat,by simpa using Src.str (P:=P) s,?_,hk⟩;clear h h1 hB hk;induction s with
  |nil=>rfl
  |cons b s ih =>refine⟨[.int .u8 b.toNat],s.map λb=>Value.int .u8 b.toNat,rfl,rfl,?_,ih⟩;simp only[Rd];have:=b.toNat_lt;refine⟨trivial,?_⟩;simp[KF,IntKind.min,IntKind.max,IntKind.signed,IntKind.bits];omega
 exact h.elim
end
end Go.AL
namespace Go.AL
theorem ZQ:∀{H:Heap} {k:Nat} {o:HO},hget H k=some o->hset H k o=H
 | [],_,_,h=>by simp[hget]at h
 | (i,x)::H,k,o,h=>by
   simp only[hget]at h;simp only[hset];cases hb:Nat.beq i k with
   |true=>rw[hb]at h;simp at h;subst h;rfl
   |false=>rw[hb]at h;simp only[ZQ h]
theorem Rq{H:Heap}{k sz n:Nat}{o:HO}(hk:hget H k=some o):ug (hset H k (.tok sz n)) k=some n:=by unfold ug;rw[BG hk]
theorem FX{H:Heap}{k j:Nat}{o:HO}(h:j≠k):ug (hset H k o) j=ug H j:=by unfold ug;rw[DK h]
theorem a5t{c:Cx}{H:Heap}{j sz:Nat}{l:List AV}{v:Value}(hr:HR c H)(hk:hget H j=some (.tok sz l.length))(hV:VV c (.sl sz l (.own j)) v) :
  v=.slice (c.tk j).1 l.length (c.tk j).2/\l.length<=(c.tk j).2/\(c.tk j).2<=maxL/\j<c.nx/\Rd c.w c.Im (.sl sz l .no) v.cells.toList /\
  (((c.tk j).1=none/\l=[]/\(c.tk j).2=0)\/∃ad,(c.tk j).1=some ad/\(l≠[]->ad.spot=none)/\IV c.w c.Im sz ad.block l ad.off):=by
 have hv:=hV.1.2 rfl;have h2:=hV.2;simp only[VR]at h2;obtain⟨h3,h4,h5⟩:=h2;have htp:c.tp j=some l.length:=(by rw[hr.tp];unfold ug;rw[hk]);have h6:=(h5 _ htp).2 rfl;have e:v=.slice (c.tk j).1 l.length (c.tk j).2:=cells_one hv h6;obtain⟨h7,h8⟩:=Yc hV;refine⟨e,?_,?_,h3,h4,?_⟩;{rcases h8 with⟨rfl,h8⟩|⟨ad,cap,h8,h9,_⟩;{simp};rw[e]at h8;injection h8 with _ _ h8;omega};{rcases h8 with⟨rfl,h8⟩|⟨ad,cap,h8,h9,h10,_⟩;{rw[e]at h8;injection h8 with _ _ h8;rw[h8];simp[maxL]};rw[e]at h8;injection h8 with _ _ h8;omega};rcases h8 with⟨rfl,h8⟩|⟨ad,cap,h8,h9,h10,h11,h12⟩;{rw[e]at h8;injection h8 with g1 _ g2;exact .inl ⟨g1,rfl,g2⟩};rw[e]at h8;injection h8 with g1 _ g2;exact .inr ⟨ad,g1,h11,h12⟩
theorem a5s{c:Cx}{j sz:Nat}{l:List AV}{b:Option Addr}{cap:Nat}(hj:j<c.nx)(hr:Rd c.w c.Im (.sl sz l .no) [.slice b l.length cap])(htp:c.tp j=some l.length)(htk:c.tk j=(b,cap)) :
  VV c (.sl sz l (.own j)) (.slice b l.length cap):=by
 refine vw rfl rfl ?_;simp only[VR];refine⟨hj,hr,λn hn=>?_⟩;rw[htp]at hn;obtain rfl:=aW hn;exact⟨aS _,λ_=>by rw[htk]⟩
section
variable{P:Program}{c:Cx}{H:Heap}{t u ty el sz j:Nat}{info:TypeInfo}{z:Value}{l m:List AV}{v x:Value}{news:List Value}
theorem Vd{d:TypeDesc}(hr:HR c H)(hk:hget H j=some (.tok sz l.length))(hV:VV c (.sl sz l (.own j)) v)
  (ht:P.underlying t=some (.slice el)) (hu:P.underlying u=some d) (hd:(∃e,d=.slice e)\/d=.string) (hi:P.info? el=some info) (hs:info.size=sz) (hz:info.zero=some z) (hzs:z.cells.size=sz)
  (hx:Src P sz c.w x m.length news) (hm:Jv c.w c.Im sz m news) (hlen:l.length+m.length<=maxL) (hroom:(l.length+m.length)*info.bytes<=140737488355328) :
  ∃c' v',(Builtin.append_ #[t,u] ty #[v,x]).run P c.w=.ok v' c'.w/\Tr c H c' (hset H j (.tok sz (l.length+m.length)))/\VV c' (.sl sz (l++m) (.own j)) v':=by
 obtain⟨e,hc1,hc2,hj,hRd,hb⟩:=a5t hr hk hV;have hml:=vO hm;have b59:c.tp j=some l.length:=(by rw[hr.tp];unfold ug;rw[hk]);have b2f:∀i,i≠j->∀n,ug (hset H j (.tok sz (l.length+m.length))) i=some n->c.tp i=some n:=λi hi n h=>(by rw[FX hi]at h;rw[hr.tp];exact h);by_cases hm0:m=[];{subst hm0;obtain rfl:news=[]:=hm;refine⟨c,v,?_,?_,by simpa using hV⟩;{rw[e];have:=FY (P:=P) (ty:=ty) (base:=(c.tk j).1) (n:=l.length) (cap:=(c.tk j).2) (w':=c.w) ht hu hd hi hs hx (by simpa using hc1) (λ_ _=>rfl) (λ_=>rfl);simpa using this};simp only[iQ,dU];rw[ZQ hk];exact .refl hr};have b4J:0<m.length:=jq.2 hm0
 have b4y:∀(d:Cx),d.tp=ug (hset H j (.tok sz (l.length+m.length)))->(∀i,i≠j->d.tk i=c.tk i) ->
   ∀k n,k<c.nx->d.tp k=some n->(c.tp k=some n/\d.tk k=c.tk k)\/∃m,c.tp k=some m/\m<n:=by
  intro d hd1 hd2 k n hkn hn;rw[hd1]at hn;by_cases hkj:k=j;{subst hkj;rw[Rq hk]at hn;obtain rfl:=aW hn;exact .inr ⟨_,b59,aj⟩};exact .inl ⟨b2f k hkj n hn,hd2 k hkj⟩
 by_cases hcap:l.length+m.length<=(c.tk j).2
 ·-- within the capacity
  have hne:(c.tk j).2≠l.length:=aj;have hok:=hr.EL hk;rcases hok with hok|⟨b,cs,bty,g1,g2,g3,g4,g5,g6⟩;{exact absurd hok hne};have hread:IV c.w c.Im sz b l 0:=by rcases hb with⟨h1,_⟩|⟨ad,h1,_,h3⟩;{rw[h1]at g1;cases g1};rw[h1]at g1;cases g1;exact h3
  have hfit:l.length*sz+news.length<=cs.size:=(by rw[g3,hml,<- dw];exact bV _ hcap);let cs':=(cs.toList.take (l.length*sz)++news++cs.toList.drop (l.length*sz+news.length)).toArray;let d:Cx:={ c with w:=c.w.setRow b cs',Im:=λb' o=>c.Im b' o\/(b'=b/\l.length*sz<=o/\o<l.length*sz+news.length),tp:=ug (hset H j (.tok sz (l.length+m.length))) };have hblk:qZ c (j,.tok sz l.length)=some b:=(by simp[qZ,hne,g1]);have hheap:d.w.heap[b]? = some (.cells cs' bty):=setRow_heap c.w _ _ _ _ _ g2;have hoth:∀b',b'≠b->d.w.heap[b']? = c.w.heap[b']?:=λb' hb'=>setRow_other c.w _ b' _ hb';have hsz':cs'.size=cs.size:=(by simp[cs'];omega);have hcell:∀o,o<l.length*sz->cs'[o]? = cs[o]?:=(by intro o ho;simp only[cs',fA];rw[bP,bH aA,jy,aG ho,bJ]);have hnews:∀i v,news[i]? = some v->cs'[l.length*sz+i]? = some v:=(by intro i v hv;have hi:=(aY.1 hv).1;have hlt:(cs.toList.take (l.length*sz)).length=l.length*sz:=aA;simp only[cs',fA];have:=Qi (cs.toList.take (l.length*sz)) news (cs.toList.drop (l.length*sz+news.length)) hv;rwa[hlt]at this);have le:c.Le d:=(by refine⟨λb' o h=>⟨.inl h,?_⟩,aS _,λ_ _=>rfl,b4y d rfl λ_ _=>rfl⟩;by_cases hbb:b'=b;{subst hbb;have:o<l.length*sz:=Nat.lt_of_not_le λhle=>g6 o hle h;rw[cell_of_heap hheap,cell_of_heap g2,hcell o this]};exact wW (hoth b' hbb));have hst:(storeCells ((⟨b,0,none⟩:Addr).add (l.length*sz)) news).run P c.w=.ok () d.w:=(by have:=run_storeCells_at P b (l.length*sz) bty news 0 cs c.w g2 (by simpa using hfit) (Ip hm);simp only[dU]at this;rw[addr_add,bC];exact this);refine⟨d,.slice (c.tk j).1 (l.length+m.length) (c.tk j).2,?_,?_,?_⟩;{rw[e];exact FY (P:=P) (ty:=ty) ht hu hd hi hs hx hcap (λad had=>by rw[g1]at had;cases had;exact hst) (λh=>by rw[g1]at h;cases h)};{refine Tr.set hr hk le rfl rfl (λ_ _=>rfl) rfl rfl rfl (by simp[d]) (λb' _ hn=>hoth b' (λe=>hn (by rw[hblk,e]))) ?_ ?_ ?_;{rintro b' o (h|⟨rfl,_⟩);{exact .inl h};exact .inr (.inr hblk)};{intro b' h;refine .inr ?_;simp only[qZ,d]at h;split at h;{cases h};rw[hblk];rw[g1]at h;exact h};by_cases htop:(c.tk j).2=l.length+m.length;{exact .inl htop};refine .inr ⟨b,cs',bty,g1,hheap,by rw[hsz',g3],hcap,g5,?_⟩;rintro o ho (h|⟨_,_,h⟩);{exact g6 o (dH (bV _ (oz _ _)) ho) h};rw[hml,<- dw]at h;omega};have hR:Rd d.w d.Im (.sl sz (l++m) .no) [.slice (some ⟨b,0,none⟩) (l++m).length (c.tk j).2]:=(by simp only[Rd];refine⟨by simpa using hlen,.inr ⟨⟨b,0,none⟩,_,rfl,by simpa using hcap,g5,λ_=>rfl,Yv (Yu le.im _ _ _ _ hread) ?_⟩⟩;refine Bo (xP le.im hm) λi v hv=>⟨?_,.inr ⟨rfl,by show _<=0+l.length*sz+i;omega,by have:=(aY.1 hv).1;show 0+l.length*sz+i<_;omega⟩⟩;rw[cell_of_heap hheap,bC];exact hnews i v hv);have:=a5s (c:=d) (j:=j) hj hR (by show ug _ j=_;rw[Rq hk];simp) (by show c.tk j=_;rw[<- g1]);rw[bn]at this;rw[g1];exact this
 -- a new block
 obtain⟨olds,ho1,ho2⟩:∃olds,Jv c.w c.Im sz l olds/\Src P sz c.w (.slice (c.tk j).1 l.length (c.tk j).2) l.length olds:=(by rcases hb with⟨h1,rfl,h3⟩|⟨ad,h1,h2,h3⟩;{exact⟨[],rfl,by rw[h1];exact⟨λ_=>rfl,λ_=>rfl⟩⟩};obtain⟨olds,g1,g2⟩:=J7 h3;refine⟨olds,g1,?_⟩;rw[h1];exact Src.slice (vO g1) (Pn rfl rfl (λhne=>h2 (λe=>by subst e;exact hne g1)) g2));have hol:=vO ho1;have hge:=grownCap_ge c.w (l.length+m.length) (c.tk j).2 el;have hle:=grownCap_le_maxLen c.w (l.length+m.length) (c.tk j).2 el (by simpa[maxL,maxLen]using hlen);have hle':grownCap c.w (l.length+m.length) (c.tk j).2 el<=maxL:=(by simpa[maxL,maxLen]using hle);have hrun:=JG (P:=P) (ty:=ty) ht hu hd hi hs hz hx (by omega:(c.tk j).2<l.length+m.length) hlen hroom ho2.cells;generalize hcp:grownCap c.w (l.length+m.length) (c.tk j).2 el=cap' at hge hle' hrun;let cs:=olds.toArray++news.toArray++Builtin.zeroCells z.cells (cap'-(l.length+m.length))
 let d:Cx:={ c with w:=c.w.drew.alloc (.cells cs el),Im:=λb o=>c.Im b o\/(b=c.w.heap.size/\o<(l.length+m.length)*sz),
                    tk:=λk=>if k=j then(some ⟨c.w.heap.size,0,none⟩,cap')else c.tk k,tp:=ug (hset H j (.tok sz (l.length+m.length))) }
 have hnew:d.w.heap[c.w.heap.size]? = some (.cells cs el):=alloc_heap_new c.w.drew _;have hold:∀b,b<c.w.heap.size->d.w.heap[b]? = c.w.heap[b]?:=λb hb=>xB c.w.drew _ hb;have Qe:d.tk j=(some ⟨c.w.heap.size,0,none⟩,cap'):=(by simp[d]);have hcs:cs.size=cap'*sz:=(by simp only[cs,nZ,jK,hol,hml,size_zeroCells,hzs];rw[<- dw,<- dw];congr 1;omega);have le:c.Le d:=(by refine⟨λb o h=>⟨.inl h,wW (hold b (hr.im b o h))⟩,aS _,λ_ _=>rfl,b4y d rfl λi hi=>by simp[d,hi]⟩);refine⟨d,_,by rw[e];exact hrun,?_,?_⟩;{refine Tr.set hr hk le rfl rfl (λi hi=>by simp[d,hi]) rfl rfl rfl (by simp[d]) (λb hb _=>hold b hb) ?_ ?_ ?_;{rintro b o (h|⟨rfl,_⟩);{exact .inl h};exact .inr (.inl ⟨aS _,by simp[d]⟩)};{intro b h;refine .inl ?_;simp only[qZ,Qe]at h;split at h;{cases h};simp at h;omega};by_cases htop:cap'=l.length+m.length;{exact .inl (by rw[Qe];exact htop)};refine .inr ⟨c.w.heap.size,cs,el,by rw[Qe],hnew,by rw[Qe];exact hcs,by rw[Qe];exact hge,by rw[Qe];exact hle',?_⟩;rintro o ho (h|⟨_,h⟩);{exact absurd (hr.im _ _ h) aj};omega};have hR:Rd d.w d.Im (.sl sz (l++m) .no) [.slice (some ⟨c.w.heap.size,0,none⟩) (l++m).length cap']:=by
  simp only[Rd];refine⟨by simpa using hlen,.inr ⟨⟨c.w.heap.size,0,none⟩,_,rfl,by simpa using hge,hle',λ_=>rfl,?_⟩⟩;refine Bo (Hq (xP le.im ho1) (xP le.im hm)) λi v hv=>?_;have hi:=(aY.1 hv).1;refine⟨?_,.inr ⟨rfl,by rw[bn,hol,hml,<- dw]at hi;show 0+i<_;omega⟩⟩;rw[cell_of_heap hnew,bC];have:cs[i]? = (olds++news)[i]?:=by rw[<- bJ];simp only[cs,Array.toList_append];rw[bH hi]
  rw[this];exact hv
 have:=a5s (c:=d) (j:=j) hj hR (by show ug _ j=_;rw[Rq hk];simp) Qe;rw[bn]at this;exact this
end
theorem Tr.Ox{c:Cx}{H:Heap}{sz:Nat}{l:List AV}{base:Option Addr}(hr:HR c H)(hRd:Rd c.w c.Im (.sl sz l .no) [.slice base l.length l.length]) :
  ∃d,d.w=c.w/\Tr c H d ((nextId H,.tok sz l.length)::H)/\VV d (.sl sz l (.own (nextId H))) (.slice base l.length l.length):=by
 let d:Cx:={ c with nx:=c.nx+1,tk:=λk=>if k=c.nx then(base,l.length)else c.tk k,tp:=ug ((nextId H,.tok sz l.length)::H) };have hlt:∀x∈H,x.1<c.nx:=λx hx=>(by rw[hr.nx];exact sG hr.ids x hx);have htk:d.tk (nextId H)=(base,l.length):=(by simp[d,hr.nx]);have le:c.Le d:=(by refine⟨λb o h=>⟨h,rfl⟩,mF _,λ_ _=>rfl,λk n hk hn=>.inl ⟨?_,?_⟩⟩;{have:nextId H≠k:=(by rw[<- hr.nx];omega);simp only[d]at hn;rw[Bv this]at hn;rw[hr.tp];exact hn};simp only[d];rw[aB aj]);have hbk:∀x∈H,qZ d x=qZ c x:=λx hx=>Bl rfl (by have:=hlt x hx;simp only[d];rw[aB aj]);have hbn:qZ d (nextId H,.tok sz l.length)=none:=(by simp[qZ,htk]);refine⟨d,rfl,⟨⟨?_,rfl,?_,hr.im,?_,?_⟩,le,rfl,rfl,rfl,aS _,λ_ _ _=>rfl,?_,λ_ _ h=>.inl h⟩,?_⟩;{simp only[d,nextId,hr.nx]};{exact⟨λx hx=>sG hr.ids x hx,hr.ids⟩};{intro x hx;rcases aT.1 hx with rfl|hx;{exact .inl (by rw[htk])};refine DY le (hlt x hx) ?_ (λb hb=>⟨rfl,λy hy=>hy⟩) (hr.ok x hx);have:=hlt x hx;simp only[d];rw[aB aj]};{rw[fB];constructor;{intro y hy b hb;rw[hbn]at hb;cases hb};exact BA hr.apart λx hx y hy h b hb=>by rw[hbk y hy];rw[hbk x hx]at hb;exact h b hb};{intro y hy b hb;rcases aT.1 hy with rfl|hy;{rw[hbn]at hb;cases hb};rw[hbk y hy]at hb;exact .inr ⟨y,hy,hb⟩};exact a5s (by simp only[d];rw[hr.nx];omega) hRd (by show ug _ _=_;rw[JA]) htk
theorem VB{H:Heap}{k sz:Nat}{l:List AV}{o:HO}(hk:hget H k=some o):ug (hset H k (.uD sz l)) k=some l.length:=by unfold ug;rw[BG hk]
theorem Jf{c:Cx}{H:Heap}{j sz:Nat}{l:List AV}{v:Value}(hr:HR c H)(hk:hget H j=some (.uD sz l))(hV:VV c (.gs j l.length) v) :
  v=.slice (c.tk j).1 l.length (c.tk j).2/\j<c.nx/\l.length<=(c.tk j).2/\(c.tk j).2<=maxL:=by
 obtain⟨h1,_,h3⟩:=b6F hV;have htp:c.tp j=some l.length:=(by rw[hr.tp];unfold ug;rw[hk]);refine⟨(h3 _ htp).2 rfl,h1,?_⟩;rcases hr.EL hk with⟨g1,g2,rfl⟩|⟨b,cs,ty,g1,g2,g3,g4,g5,_⟩;{rw[g2];simp[maxL]};exact⟨g4,g5⟩
theorem a5Y{c:Cx}{j n:Nat}{b:Option Addr}{cap:Nat}(hj:j<c.nx)(htp:c.tp j=some n)(htk:c.tk j=(b,cap)):VV c (.gs j n) (.slice b n cap):=by refine vw rfl rfl ?_;simp only[VR];refine⟨hj,⟨_,_,_,rfl⟩,λk hk=>?_⟩;rw[htp]at hk;obtain rfl:=aW hk;exact⟨aS _,λ_=>by rw[htk]⟩
section
variable{P:Program}{c:Cx}{H:Heap}{t u ty el sz j:Nat}{info:TypeInfo}{z:Value}{l m:List AV}{v x:Value}{news:List Value}
theorem b5p{d:TypeDesc}(hr:HR c H)(hk:hget H j=some (.uD sz l))(hV:VV c (.gs j l.length) v)
  (ht:P.underlying t=some (.slice el)) (hu:P.underlying u=some d) (hd:(∃e,d=.slice e)\/d=.string) (hi:P.info? el=some info) (hs:info.size=sz) (hz:info.zero=some z) (hzs:z.cells.size=sz)
  (hx:Src P sz c.w x m.length news) (hm:Jv c.w c.Im sz m news) (hm0:m≠[]) (hlen:l.length+m.length<=maxL) (hroom:(l.length+m.length)*info.bytes<=140737488355328) :
  ∃c' v',(Builtin.append_ #[t,u] ty #[v,x]).run P c.w=.ok v' c'.w/\Tr c H c' (hset H j (.uD sz (l++m)))/\VV c' (.gs j (l.length+m.length)) v':=by
 obtain⟨e,hj,hc1,hc2⟩:=Jf hr hk hV;have hml:=vO hm;have b59:c.tp j=some l.length:=(by rw[hr.tp];unfold ug;rw[hk]);have b2f:∀i,i≠j->∀n,ug (hset H j (.uD sz (l++m))) i=some n->c.tp i=some n:=λi hi n h=>(by rw[FX hi]at h;rw[hr.tp];exact h);have b4J:0<m.length:=jq.2 hm0;have b6a:ug (hset H j (.uD sz (l++m))) j=some (l.length+m.length):=by rw[VB hk];simp
 have b4y:∀(d:Cx),d.tp=ug (hset H j (.uD sz (l++m)))->(∀i,i≠j->d.tk i=c.tk i) ->
   ∀k n,k<c.nx->d.tp k=some n->(c.tp k=some n/\d.tk k=c.tk k)\/∃m,c.tp k=some m/\m<n:=by
  intro d hd1 hd2 k n hkn hn;rw[hd1]at hn;by_cases hkj:k=j;{subst hkj;rw[b6a]at hn;obtain rfl:=aW hn;exact .inr ⟨_,b59,aj⟩};exact .inl ⟨b2f k hkj n hn,hd2 k hkj⟩
 by_cases hcap:l.length+m.length<=(c.tk j).2
 ·-- within the capacity
  rcases hr.EL hk with⟨g1,g2,_⟩|⟨b,cs,bty,g1,g2,g3,g4,g5,g6,g7⟩;{omega};obtain⟨a',d',rfl,g8⟩:=CY g6;have hal:=vO g8;have hfit:l.length*sz+news.length<=(a'++d').toArray.size:=(by rw[jK,g3,hml,<- dw];exact bV _ hcap);let cs':=((a'++d').toArray.toList.take (l.length*sz)++news++(a'++d').toArray.toList.drop (l.length*sz+news.length)).toArray;let d:Cx:={ c with w:=c.w.setRow b cs',tp:=ug (hset H j (.uD sz (l++m))) };have hblk:qZ c (j,.uD sz l)=some b:=(by simp[qZ,g1]);have hheap:d.w.heap[b]? = some (.cells cs' bty):=setRow_heap c.w _ _ _ _ _ g2;have hoth:∀b',b'≠b->d.w.heap[b']? = c.w.heap[b']?:=λb' hb'=>setRow_other c.w _ b' _ hb';have hcs':cs'.toList=a'++news++(a'++d').drop (l.length*sz+news.length):=(by simp only[cs'];rw[<- hal,iE (aS _),bg]);have hsz':cs'.toList.length=(a'++d').length:=(by rw[hcs'];simp only[bn,fQ,jK]at hfit ⊢;omega);have le:c.Le d:=(by refine⟨λb' o h=>⟨h,?_⟩,aS _,λ_ _=>rfl,b4y d rfl λ_ _=>rfl⟩;by_cases hbb:b'=b;{subst hbb;exact absurd h (g7 o)};exact wW (hoth b' hbb));have hst:(storeCells ((⟨b,0,none⟩:Addr).add (l.length*sz)) news).run P c.w=.ok () d.w:=(by have:=run_storeCells_at P b (l.length*sz) bty news 0 (a'++d').toArray c.w g2 (by simpa using hfit) (Ip hm);simp only[dU]at this;rw[addr_add,bC];exact this);refine⟨d,.slice (c.tk j).1 (l.length+m.length) (c.tk j).2,?_,?_,?_⟩;{rw[e];exact FY (P:=P) (ty:=ty) ht hu hd hi hs hx hcap (λad had=>by rw[g1]at had;cases had;exact hst) (λh=>by rw[g1]at h;cases h)};{refine Tr.set hr hk le rfl rfl (λ_ _=>rfl) rfl rfl rfl (by simp[d]) (λb' _ hn=>hoth b' (λe=>hn (by rw[hblk,e]))) (λb' o h=>.inl h) ?_ ?_;{intro b' h;refine .inr ?_;rw[hblk];simp only[qZ,d,g1]at h;exact h};refine .inr ⟨b,cs'.toList,bty,g1,by simpa using hheap,by rw[hsz'];exact g3,by simpa using hcap,g5,?_,λo h=>g7 o h⟩;rw[hcs'];exact CX (c:=d) (Hq (xP le.im g8) (xP le.im hm))};exact a5Y (c:=d) (j:=j) hj b6a rfl
 -- a new block
 obtain⟨olds,ho1,ho2⟩:∃olds,Jv c.w c.Im sz l olds/\Src P sz c.w (.slice (c.tk j).1 l.length (c.tk j).2) l.length olds:=(by rcases hr.EL hk with⟨g1,g2,rfl⟩|⟨b,cs,bty,g1,g2,g3,g4,g5,g6,g7⟩;{exact⟨[],rfl,by rw[g1];exact⟨λ_=>rfl,λ_=>rfl⟩⟩};obtain⟨a',d',rfl,g8⟩:=CY g6;refine⟨a',g8,?_⟩;rw[g1];refine Src.slice (vO g8) λy v hy=>?_;rw[addr_add,bC];have:y<a'.length:=(aY.1 hy).1;simp only[World.cell?,g2];simp[bH this,hy]);have hol:=vO ho1;have hge:=grownCap_ge c.w (l.length+m.length) (c.tk j).2 el;have hle:=grownCap_le_maxLen c.w (l.length+m.length) (c.tk j).2 el (by simpa[maxL,maxLen]using hlen);have hle':grownCap c.w (l.length+m.length) (c.tk j).2 el<=maxL:=(by simpa[maxL,maxLen]using hle);have hrun:=JG (P:=P) (ty:=ty) ht hu hd hi hs hz hx (by omega:(c.tk j).2<l.length+m.length) hlen hroom ho2.cells;generalize hcp:grownCap c.w (l.length+m.length) (c.tk j).2 el=cap' at hge hle' hrun;let cs:=olds.toArray++news.toArray++Builtin.zeroCells z.cells (cap'-(l.length+m.length))
 let d:Cx:={ c with w:=c.w.drew.alloc (.cells cs el),
                    tk:=λk=>if k=j then(some ⟨c.w.heap.size,0,none⟩,cap')else c.tk k,tp:=ug (hset H j (.uD sz (l++m))) }
 have hnew:d.w.heap[c.w.heap.size]? = some (.cells cs el):=alloc_heap_new c.w.drew _;have hold:∀b,b<c.w.heap.size->d.w.heap[b]? = c.w.heap[b]?:=λb hb=>xB c.w.drew _ hb;have Qe:d.tk j=(some ⟨c.w.heap.size,0,none⟩,cap'):=(by simp[d]);have hcs:cs.toList.length=cap'*sz:=(by rw[bM];simp only[cs,nZ,jK,hol,hml,size_zeroCells,hzs];rw[<- dw,<- dw];congr 1;omega);have le:c.Le d:=(by refine⟨λb o h=>⟨h,wW (hold b (hr.im b o h))⟩,aS _,λ_ _=>rfl,b4y d rfl λi hi=>by simp[d,hi]⟩);refine⟨d,_,by rw[e];exact hrun,?_,?_⟩;{refine Tr.set hr hk le rfl rfl (λi hi=>by simp[d,hi]) rfl rfl rfl (by simp[d]) (λb hb _=>hold b hb) (λb o h=>.inl h) ?_ ?_;{intro b h;refine .inl ?_;simp only[qZ,Qe]at h;simp at h;omega};refine .inr ⟨c.w.heap.size,cs.toList,el,by rw[Qe],by simpa using hnew,by rw[Qe];exact hcs,by rw[Qe];simpa using hge,by rw[Qe];exact hle',?_,λo h=>?_⟩;{have ec:cs.toList=olds++news++(Builtin.zeroCells z.cells (cap'-(l.length+m.length))).toList:=(by simp[cs]);rw[ec];exact CX (c:=d) (Hq (xP le.im ho1) (xP le.im hm))};exact absurd (hr.im _ _ h) aj};exact a5Y (c:=d) (j:=j) hj b6a Qe
end
theorem Tr.a4F{c:Cx}{H:Heap}(sz:Nat)(hr:HR c H) :
  ∃d,d.w=c.w/\Tr c H d ((nextId H,.uD sz [])::H)/\VV d (.gs (nextId H) 0) (.slice none 0 0):=by
 let d:Cx:={ c with nx:=c.nx+1,tk:=λk=>if k=c.nx then(none,0)else c.tk k,tp:=ug ((nextId H,.uD sz [])::H) };have hlt:∀x∈H,x.1<c.nx:=λx hx=>(by rw[hr.nx];exact sG hr.ids x hx);have htk:d.tk (nextId H)=(none,0):=(by simp[d,hr.nx]);have le:c.Le d:=(by refine⟨λb o h=>⟨h,rfl⟩,mF _,λ_ _=>rfl,λk n hk hn=>.inl ⟨?_,?_⟩⟩;{have:nextId H≠k:=(by rw[<- hr.nx];omega);simp only[d]at hn;rw[Bv this]at hn;rw[hr.tp];exact hn};simp only[d];rw[aB aj]);have hbk:∀x∈H,qZ d x=qZ c x:=λx hx=>Bl rfl (by have:=hlt x hx;simp only[d];rw[aB aj]);have hbn:qZ d (nextId H,.uD sz [])=none:=(by simp[qZ,htk]);refine⟨d,rfl,⟨⟨?_,rfl,?_,hr.im,?_,?_⟩,le,rfl,rfl,rfl,aS _,λ_ _ _=>rfl,?_,λ_ _ h=>.inl h⟩,?_⟩;{simp only[d,nextId,hr.nx]};{exact⟨λx hx=>sG hr.ids x hx,hr.ids⟩};{intro x hx;rcases aT.1 hx with rfl|hx;{exact .inl ⟨by rw[htk],by rw[htk],rfl⟩};refine DY le (hlt x hx) ?_ (λb hb=>⟨rfl,λy hy=>hy⟩) (hr.ok x hx);have:=hlt x hx;simp only[d];rw[aB aj]};{rw[fB];constructor;{intro y hy b hb;rw[hbn]at hb;cases hb};exact BA hr.apart λx hx y hy h b hb=>by rw[hbk y hy];rw[hbk x hx]at hb;exact h b hb};{intro y hy b hb;rcases aT.1 hy with rfl|hy;{rw[hbn]at hb;cases hb};rw[hbk y hy]at hb;exact .inr ⟨y,hy,hb⟩};exact a5Y (by simp only[d];rw[hr.nx];omega) (by show ug _ _=_;rw[JA];rfl) htk
theorem Tr.thaw{c:Cx}{H:Heap}{j sz:Nat}{l:List AV}{v:Value}(hr:HR c H)(ho:hget H j=some (.uD sz l))(ne:l≠[])(hV:VV c (.gs j l.length) v) :
  ∃cp,l.length<=cp/\cp<=maxL/\∃d,d.w=c.w/\Tr c H d ((nextId H,.arr sz cp l)::hset H j .gone)/\VV d (.ms (nextId H) 0 l.length cp sz) v:=by
 obtain⟨e,hj,hc1,hc2⟩:=Jf hr ho hV;rcases hr.EL ho with⟨_,_,h0⟩|⟨b,cs,ty,g1,g2,g3,g4,g5,g6,g7⟩;{exact absurd h0 ne};refine⟨(c.tk j).2,hc1,hc2,?_⟩;have hjm:=wS ho;have hbs:b<c.w.heap.size:=(dG.1 g2).1;let d:Cx:={ c with nx:=c.nx+1,ρ:=λk=>if k=c.nx then b else c.ρ k,tp:=ug ((nextId H,.arr sz (c.tk j).2 l)::hset H j .gone) };have hlt:∀x∈H,x.1<c.nx:=λx hx=>(by rw[hr.nx];exact sG hr.ids x hx);have hρ:d.ρ (nextId H)=b:=(by simp[d,hr.nx]);have YI:=CJ (k:=j) (o':=.gone) hr.ids;have le:c.Le d:=(by refine⟨λb o h=>⟨h,rfl⟩,mF _,λk hk=>?_,λk n hk hn=>.inl ⟨?_,rfl⟩⟩;{simp only[d];rw[aB aj]};have hne:nextId H≠k:=(by rw[<- hr.nx];omega);simp only[d]at hn;rw[Bv hne]at hn;by_cases hkj:k=j;{subst hkj;unfold ug at hn;rw[BG ho]at hn;simp at hn};rw[FX hkj]at hn;rw[hr.tp];exact hn);have hbk:∀x∈H,qZ d x=qZ c x:=λx hx=>Bl (by have:=hlt x hx;simp only[d];rw[aB aj]) rfl;have hbn:qZ d (nextId H,.arr sz (c.tk j).2 l)=some b:=(by simp[qZ,hρ]);have hbj:qZ c (j,.uD sz l)=some b:=(by simp[qZ,g1]);have hne:∀x∈H,x.1≠j->∀b',qZ c x=some b'->b'≠b:=λx hx hn b' hb' e=>hr.apart' hx hjm hn hb' (by rw[e];exact hbj);refine⟨d,rfl,⟨⟨?_,rfl,⟨λx hx=>?_,YI⟩,hr.im,?_,?_⟩,le,rfl,rfl,rfl,aS _,λ_ _ _=>rfl,?_,λ_ _ h=>.inl h⟩,?_⟩;{simp only[d,nextId,hr.nx]};{have:=sG YI x hx;rw[H9]at this;exact this};{intro x hx;rcases aT.1 hx with rfl|hx;{show(HO.arr sz (c.tk j).2 l).Ok d (nextId H);refine⟨cs,ty,by rw[hρ];exact g2,g3,g4,g5,Fp le g6,λo h=>?_⟩;rw[hρ]at h;exact g7 o h};rcases wF hr.ids hx with rfl|⟨hx,hn⟩;{trivial};exact DY le (hlt x hx) rfl (λb hb=>⟨rfl,λy hy=>hy⟩) (hr.ok x hx)};{rw[fB];constructor;{intro y hy b' hb hb';rw[hbn]at hb;obtain rfl:=aW hb;rcases wF hr.ids hy with rfl|⟨hy,hn⟩;{simp[qZ]at hb'};rw[hbk y hy]at hb';exact hne y hy hn _ hb' rfl};refine wH YI λx hx y hy hn b hb hb'=>?_;rcases wF hr.ids hx with rfl|⟨hx,_⟩;{simp[qZ]at hb};rcases wF hr.ids hy with rfl|⟨hy,_⟩;{simp[qZ]at hb'};rw[hbk x hx]at hb;rw[hbk y hy]at hb';exact hr.apart' hx hy hn hb hb'};{intro y hy b' hb;rcases aT.1 hy with rfl|hy;{rw[hbn]at hb;obtain rfl:=aW hb;exact .inr ⟨_,hjm,hbj⟩};rcases wF hr.ids hy with rfl|⟨hy,_⟩;{simp[qZ]at hb};rw[hbk y hy]at hb;exact .inr ⟨y,hy,hb⟩};rw[e];refine vw rfl rfl ?_;simp only[VR];refine⟨by simp only[d];rw[hr.nx];omega,?_,hc1,hc2⟩;rw[hρ,g1,Nat.zero_mul]
theorem Tr.Nr{c:Cx}{H:Heap}{j sz:Nat}{l:List AV}{v:Value}(hr:HR c H)(ho:hget H j=some (.uD sz l))(hl:l.length<=maxL)(hV:VV c (.gs j l.length) v) :
  ∃d,d.w=c.w/\Tr c H d (hset H j .gone)/\VV d (.sl sz l .no) v:=by
 obtain⟨e,hj,hc1,hc2⟩:=Jf hr ho hV;have tpg:∀k n,ug (hset H j .gone) k=some n->c.tp k=some n:=(by intro k n hn;by_cases hkj:k=j;{subst hkj;unfold ug at hn;rw[BG ho]at hn;simp at hn};rw[FX hkj]at hn;rw[hr.tp];exact hn);rcases hr.EL ho with⟨g1,g2,rfl⟩|⟨b,cs,ty,g1,g2,g3,g4,g5,g6,g7⟩;{let d:Cx:={ c with tp:=ug (hset H j .gone) };have le:c.Le d:=⟨λb o h=>⟨h,rfl⟩,aS _,λ_ _=>rfl,λk n _ h=>.inl ⟨tpg k n h,rfl⟩⟩;refine⟨d,rfl,Tr.set hr ho le rfl rfl (λ_ _=>rfl) rfl rfl rfl (aS _) (λ_ _ _=>rfl) (λ_ _ h=>.inl h) (λb h=>by simp[qZ]at h) trivial,?_⟩;rw[e,g1,g2];refine vw rfl rfl ?_;simp only[VR,Rd];exact⟨hl,.inl ⟨trivial,rfl⟩⟩};obtain⟨a',d',rfl,g8⟩:=CY g6;let d:Cx:={ c with Im:=λb' o=>c.Im b' o\/b'=b,tp:=ug (hset H j .gone) };have le:c.Le d:=⟨λb o h=>⟨.inl h,rfl⟩,aS _,λ_ _=>rfl,λk n _ h=>.inl ⟨tpg k n h,rfl⟩⟩;have hbj:qZ c (j,.uD sz l)=some b:=(by simp[qZ,g1]);refine⟨d,rfl,Tr.set hr ho le rfl rfl (λ_ _=>rfl) rfl rfl rfl (aS _) (λ_ _ _=>rfl) ?_ (λb h=>by simp[qZ]at h) trivial,?_⟩;{rintro b' x (h|rfl);{exact .inl h};exact .inr (.inr hbj)};rw[e,g1];refine vw rfl rfl ?_;simp only[VR,Rd];refine⟨hl,.inr ⟨⟨b,0,none⟩,_,rfl,hc1,hc2,λ_=>rfl,Bo (xP le.im g8) λx v hx=>⟨?_,.inr rfl⟩⟩⟩;have:x<a'.length:=(aY.1 hx).1;show c.w.cell? _=_;rw[cell_of_heap g2];simp[bH this,hx]
theorem I8{c:Cx}{sz:Nat}{v:Value}(h:VV c .qW v):∃base,v=.slice base ([]:List AV).length ([]:List AV).length/\Rd c.w c.Im (.sl sz [] .no) [.slice base ([]:List AV).length ([]:List AV).length]:=by obtain rfl:=DV h;refine⟨none,rfl,?_⟩;simp only[Rd];exact⟨by simp[maxL],.inl ⟨trivial,rfl⟩⟩
theorem Np{c:Cx}{sz:Nat}{l:List AV}{v:Value}(h:VV c (.sl sz l .full) v):∃base,v=.slice base l.length l.length/\Rd c.w c.Im (.sl sz l .no) [.slice base l.length l.length]:=by have hv:=h.1.2 rfl;have h2:=h.2;simp only[VR]at h2;obtain⟨h3,b,h4⟩:=h2;have e:=cells_one hv h4;refine⟨b,e,?_⟩;rw[<- h4];exact h3
end Go.AL
namespace Go.AL
section
variable{P:Program}{L:Lay}{c:Cx}{H:Heap}{e:Env}{a:Act}{k:AV->Heap->Prop}{ks:Heap->Prop}{o:Oper}
theorem a3I{u:Nat}{X:Prop}(hat:L.sO u λi=>(match i.desc with | .slice _=>X | .str=>X|_=>False))(hL:uo P L):(∃d,P.underlying u=some d/\((∃e,d=.slice e)\/d=.string))/\X:=by
 obtain⟨i,hT,h⟩:=Lay.rY hL hat;obtain⟨d,hd,hdd⟩:=hT.under;cases hi:i.desc <;> simp only[hi]at h <;> first|exact h.elim|skip
 ·exact⟨⟨d,hd,.inr (Eo (hdd.trans hi))⟩,h⟩
 exact⟨⟨d,hd,.inl ⟨_,sJ (hdd.trans hi)⟩⟩,h⟩
theorem a5z(hL:uo P L){cl:Call}{t u:Nat}{r:List Nat}{A B:AV}(hr:HR c H)(ho:o.op=.call cl)(hc:cl.callee=.builtin .append)(hat:cl.argTypes.toList=t::u::r)
  {v x:Value} (hv:cl.args.toList.map a.eval=[v,x]) (hA:EV c A v) (hB:EV c B x)
  (h:L.sO u λi=>(match i.desc with
  | .slice _=>AP L t A B H k
  | .str=>AP L t A B H k
  |_=>False)):uw P o a.eval c H k ks:=by
 have hh:=a3I h hL;clear h;obtain⟨⟨d,hu,hd⟩,h⟩:=hh;unfold AP at h;have hh:=Lay.rY hL h;clear h;obtain⟨i,hT,h⟩:=hh;obtain⟨dt,ht,hdt⟩:=hT.under;split at h;case h_2=>exact h.elim
 rename_i el hi;obtain rfl:=sJ (hdt.trans hi);have hh:=Lay.rY hL h;clear h;obtain⟨ei,hE,h⟩:=hh;obtain⟨info,z,g1,g2,g3,g4,g5,g6⟩:=hE.info;have hzs:z.cells.size=flat ei.zero:=by rw[<- bM];exact uH _ _ (g6 c.w c.Im)
 have NZ:∀r w',(Builtin.append_ #[t,u] o.type #[v,x]).run P c.w=.ok r w'->(execOp a.eval o).run P c.w=.ok (.value r) w':=by
  intro rr w' hrr;rw[xZ ho hc,x9 hv];have e2:(Builtin.append_ cl.argTypes o.type #[v,x]).run P c.w=(Builtin.append_ #[t,u] o.type #[v,x]).run P c.w:=by have e0:cl.argTypes[0]? = some t:=(by rw[<- bJ,hat];rfl);have e1:cl.argTypes[1]? = some u:=(by rw[<- bJ,hat];rfl);unfold Builtin.append_;simp only[e0,e1];rfl
  simp only[builtin,Sem.run_bind,e2,hrr,Result.andThen_ok,Sem.run_pure]
 have fin:∀(d0:Cx) (l m:List AV) (j:Nat) (H0:Heap),d0.w=c.w->Tr c H d0 H0->hget H0 j=some (.tok (flat ei.zero) l.length)->VV d0 (.sl (flat ei.zero) l (.own j)) v ->
   (∃news,Src P (flat ei.zero) c.w x m.length news/\Jv c.w c.Im (flat ei.zero) m news)->l.length+m.length<=maxL->(l.length+m.length)*ei.bytes<=140737488355328 ->
   k (.sl (flat ei.zero) (l++m) (.own j)) (hset H0 j (.tok (flat ei.zero) (l.length+m.length)))->uw P o a.eval c H k ks:=by
  rintro d0 l m j H0 hw htr hk hV ⟨news,hx,hm⟩ h1 h2 h3;obtain⟨c',v',hrun,xG,hV'⟩:=Vd (P:=P) (ty:=o.type) htr.hr hk hV ht hu hd g1 g2 g4 hzs (by rw[hw];exact hx) (xP htr.le.im hm) h1 (by rw[g3];exact h2);rw[hw]at hrun;exact .inl ⟨v',c',_,_,NZ _ _ hrun,htr.trans xG,rZ hV',h3⟩
 have PX:∀(d0:Cx) (l m:List AV),d0.w=c.w->Tr c H d0 ((nextId H,.tok (flat ei.zero) l.length)::H)->VV d0 (.sl (flat ei.zero) l (.own (nextId H))) v ->
   (∃news,Src P (flat ei.zero) c.w x m.length news/\Jv c.w c.Im (flat ei.zero) m news)->l.length+m.length<=maxL->(l.length+m.length)*ei.bytes<=140737488355328 ->
   k (.sl (flat ei.zero) (l++m) .no) H->uw P o a.eval c H k ks:=by
  rintro d0 l m hw htr hV ⟨news,hx,hm⟩ h1 h2 h3;obtain⟨c',v',hrun,xG,hV'⟩:=Vd (P:=P) (ty:=o.type) htr.hr (j:=nextId H) (by simp[hget]) hV ht hu hd g1 g2 g4 hzs (by rw[hw];exact hx) (xP htr.le.im hm) h1 (by rw[g3];exact h2);rw[hw]at hrun;have Ux:=htr.trans xG;have hset':hset ((nextId H,HO.tok (flat ei.zero) l.length)::H) (nextId H) (.tok (flat ei.zero) (l.length+m.length))=(nextId H,.tok (flat ei.zero) (l.length+m.length))::H:=by simp[hset]
  rw[hset']at Ux;have hwk:b3K ((nextId H,.tok (flat ei.zero) (l.length+m.length))::H) H:=by
   refine⟨a3t λk' o' hmem=>?_,hr.ids⟩;have hlt:=sG hr.ids _ hmem;have hlt:k'<nextId H:=hlt;have hok:=hr.ok _ hmem;refine⟨o',?_,Qc o',?_⟩
   ·simp only[hget];have hne:Nat.beq (nextId H) k'=false:=by
     cases hb:Nat.beq (nextId H) k' with
     |false=>rfl
     |true=>have:=aK hb;omega
    rw[hne];exact EN hr.ids hmem
   rw[<- hr.nx];cases o' with
   |box A=>obtain⟨cs,ty,_,h2,_⟩:=hok;exact MB _ _ h2
   |tN sh es=>obtain⟨ents,clock,_,h2,_⟩:=hok;exact Vh h2
   |_=>rfl
  refine .inl ⟨v',c'.cut H,_,H,NZ _ _ hrun,Ux.cut hwk (by rw[hr.nx];exact aS _),rZ ?_,h3⟩;refine Yd (λk n hn=>by rw[Ux.hr.tp];exact hwk.tp k n hn) rfl ?_;exact RS (by simp only[le0];exact⟨trivial,qU _⟩) hV'
 split at h
 ·obtain⟨m,news,hx,hm,h⟩:=AY hr hB h;obtain⟨base,rfl,hRd⟩:=I8 (sz:=flat ei.zero) hA;obtain⟨d0,hw,htr,hV⟩:=Tr.Ox hr hRd;cases h with
  |tok h1 h2 h3 =>refine fin d0 [] m _ _ hw htr (by simp[hget]) hV ⟨news,hx,hm⟩ h1 h2 ?_;have:=wz.1 h3;simpa[hset]using this
  |pure h1 h2 h3=>exact PX d0 [] m hw htr hV ⟨news,hx,hm⟩ h1 h2 h3
 ·rename_i sz l;obtain⟨rfl,h⟩:=sV.1 h;obtain⟨m,news,hx,hm,h⟩:=AY hr hB h;obtain⟨base,rfl,hRd⟩:=Np hA;obtain⟨d0,hw,htr,hV⟩:=Tr.Ox hr hRd;cases h with
  |tok h1 h2 h3 =>refine fin d0 l m _ _ hw htr (by simp[hget]) hV ⟨news,hx,hm⟩ h1 h2 ?_;have:=wz.1 h3;simpa[hset]using this
  |pure h1 h2 h3=>exact PX d0 l m hw htr hV ⟨news,hx,hm⟩ h1 h2 h3
 ·rename_i sz l j;obtain⟨rfl,h⟩:=sV.1 h;obtain⟨m,news,hx,hm,h⟩:=AY hr hB h;obtain⟨ob,hob,h⟩:=uh.1 h;split at h;{rename_i sz' top;have hh:=sV.1 h;clear h;obtain⟨rfl,rfl,h⟩:=hh;obtain⟨_,g7⟩:=yx.1 h.next;exact fin c l m j H rfl (.refl hr) hob hA ⟨news,hx,hm⟩ h.len h.room g7};exact h.elim
 exact h.elim
theorem Ym{c:Cx}:∀(n:Nat) {l:List AV} {cs:List Value},Pq c 1 l cs->Pq c 1 (l.drop n) (cs.drop n)
 | 0,_,_,h=>h
 |_+1,[],_,_=>trivial
 | n+1,x::l,cs,h=>by
   obtain⟨a,d,rfl,h2,h3,h4⟩:=h;obtain⟨y,rfl⟩:∃y,a=[y]:=by
    match a,h2 with
    | [y],_=>exact⟨y,rfl⟩
   exact Ym n h4
theorem NI{c:Cx}{m:List AV}{ds:List Value}:∀{l:List AV} {cs:List Value},Pq c 1 l cs->cs.length=l.length->Pq c 1 m ds->Pq c 1 (l++m) (cs++ds)
 | [],cs,_,hl,h=>by obtain rfl:cs=[]:=bT (by simpa using hl);exact h
 |x::l,cs,hx,hl,h=>by obtain⟨a,d,rfl,h2,h3,h4⟩:=hx;refine⟨a,d++ds,by rw[bP],h2,h3,NI h4 ?_ h⟩;simp at hl;omega
theorem Yj{c:Cx}:∀(n:Nat) {l:List AV} {cs:List Value},Pq c 1 l cs->Pq c 1 (l.take n) (cs.take n)
 | 0,_,_,_=>trivial
 |_+1,[],_,_=>trivial
 | n+1,x::l,cs,h=>by
   obtain⟨a,d,rfl,h2,h3,h4⟩:=h;obtain⟨y,rfl⟩:∃y,a=[y]:=by
    match a,h2 with
    | [y],_=>exact⟨y,rfl⟩
   exact⟨[y],d.take n,rfl,rfl,h3,Yj n h4⟩
theorem a1R{c:Cx}{z:AV}{y:Value}(h:Rd c.w c.Im z [y]):∀n,Pq c 1 (List.replicate n z) (List.replicate n y)
 | 0=>trivial
 |n+1=>⟨[y],List.replicate n y,rfl,rfl,h,a1R h n⟩
theorem a3R(hL:uo P L){cl:Call}{t u:Nat}{r:List Nat}{A B:AV}(hr:HR c H)(ho:o.op=.call cl)(hc:cl.callee=.builtin .append)(hat:cl.argTypes.toList=t::u::r)
  {v x:Value} (hv:cl.args.toList.map a.eval=[v,x]) (hA:EV c A v) (hB:EV c B x)
  (hh:(∃d,P.underlying u=some d/\((∃e,d=.slice e)\/d=.string))/\QV L t A B H k):uw P o a.eval c H k ks:=by
 obtain⟨⟨d,hu,hd⟩,h⟩:=hh;unfold QV at h;have hh:=Lay.rY hL h;clear h;obtain⟨i,hT,h⟩:=hh;obtain⟨dt,ht,hdt⟩:=hT.under;split at h;case h_2=>exact h.elim
 rename_i el hi;obtain rfl:=sJ (hdt.trans hi);have hh:=Lay.rY hL h;clear h;obtain⟨ei,hE,h⟩:=hh;obtain⟨info,z,g1,g2,g3,g4,g5,g6⟩:=hE.info;have hzs:z.cells.size=flat ei.zero:=by rw[<- bM];exact uH _ _ (g6 c.w c.Im)
 have NZ:∀r w',(Builtin.append_ #[t,u] o.type #[v,x]).run P c.w=.ok r w'->(execOp a.eval o).run P c.w=.ok (.value r) w':=by
  intro rr w' hrr;rw[xZ ho hc,x9 hv];have e2:(Builtin.append_ cl.argTypes o.type #[v,x]).run P c.w=(Builtin.append_ #[t,u] o.type #[v,x]).run P c.w:=by have e0:cl.argTypes[0]? = some t:=(by rw[<- bJ,hat];rfl);have e1:cl.argTypes[1]? = some u:=(by rw[<- bJ,hat];rfl);unfold Builtin.append_;simp only[e0,e1];rfl
  simp only[builtin,Sem.run_bind,e2,hrr,Result.andThen_ok,Sem.run_pure]
 have fin:∀(d0:Cx) (l m:List AV) (j:Nat) (H0:Heap),d0.w=c.w->Tr c H d0 H0->hget H0 j=some (.tok (flat ei.zero) l.length)->VV d0 (.sl (flat ei.zero) l (.own j)) v ->
   (∃news,Src P (flat ei.zero) c.w x m.length news/\Jv c.w c.Im (flat ei.zero) m news)->l.length+m.length<=maxL->(l.length+m.length)*ei.bytes<=140737488355328 ->
   k (.sl (flat ei.zero) (l++m) (.own j)) (hset H0 j (.tok (flat ei.zero) (l.length+m.length)))->uw P o a.eval c H k ks:=by
  rintro d0 l m j H0 hw htr hk hV ⟨news,hx,hm⟩ h1 h2 h3;obtain⟨c',v',hrun,xG,hV'⟩:=Vd (P:=P) (ty:=o.type) htr.hr hk hV ht hu hd g1 g2 g4 hzs (by rw[hw];exact hx) (xP htr.le.im hm) h1 (by rw[g3];exact h2);rw[hw]at hrun;exact .inl ⟨v',c',_,_,NZ _ _ hrun,htr.trans xG,rZ hV',h3⟩
 have PX:∀(d0:Cx) (l m:List AV),d0.w=c.w->Tr c H d0 ((nextId H,.tok (flat ei.zero) l.length)::H)->VV d0 (.sl (flat ei.zero) l (.own (nextId H))) v ->
   (∃news,Src P (flat ei.zero) c.w x m.length news/\Jv c.w c.Im (flat ei.zero) m news)->l.length+m.length<=maxL->(l.length+m.length)*ei.bytes<=140737488355328 ->
   k (.sl (flat ei.zero) (l++m) .no) H->uw P o a.eval c H k ks:=by
  rintro d0 l m hw htr hV ⟨news,hx,hm⟩ h1 h2 h3;obtain⟨c',v',hrun,xG,hV'⟩:=Vd (P:=P) (ty:=o.type) htr.hr (j:=nextId H) (by simp[hget]) hV ht hu hd g1 g2 g4 hzs (by rw[hw];exact hx) (xP htr.le.im hm) h1 (by rw[g3];exact h2);rw[hw]at hrun;have Ux:=htr.trans xG;have hset':hset ((nextId H,HO.tok (flat ei.zero) l.length)::H) (nextId H) (.tok (flat ei.zero) (l.length+m.length))=(nextId H,.tok (flat ei.zero) (l.length+m.length))::H:=by simp[hset]
  rw[hset']at Ux;have hwk:b3K ((nextId H,.tok (flat ei.zero) (l.length+m.length))::H) H:=by
   refine⟨a3t λk' o' hmem=>?_,hr.ids⟩;have hlt:=sG hr.ids _ hmem;have hlt:k'<nextId H:=hlt;have hok:=hr.ok _ hmem;refine⟨o',?_,Qc o',?_⟩
   ·simp only[hget];have hne:Nat.beq (nextId H) k'=false:=by
     cases hb:Nat.beq (nextId H) k' with
     |false=>rfl
     |true=>have:=aK hb;omega
    rw[hne];exact EN hr.ids hmem
   rw[<- hr.nx];cases o' with
   |box A=>obtain⟨cs,ty,_,h2,_⟩:=hok;exact MB _ _ h2
   |tN sh es=>obtain⟨ents,clock,_,h2,_⟩:=hok;exact Vh h2
   |_=>rfl
  refine .inl ⟨v',c'.cut H,_,H,NZ _ _ hrun,Ux.cut hwk (by rw[hr.nx];exact aS _),rZ ?_,h3⟩;refine Yd (λk n hn=>by rw[Ux.hr.tp];exact hwk.tp k n hn) rfl ?_;exact RS (by simp only[le0];exact⟨trivial,qU _⟩) hV'
 have b34:∀(l m:List AV) (base:Option Addr),v=.slice base l.length l.length->Rd c.w c.Im (.sl (flat ei.zero) l .no) [.slice base l.length l.length] ->
   (∃news,Src P (flat ei.zero) c.w x m.length news/\Jv c.w c.Im (flat ei.zero) m news)->m≠[]->l.length+m.length<=maxL->(l.length+m.length)*ei.bytes<=140737488355328 ->
   (∀cp,l.length+m.length<=cp->cp<=maxL->k (.ms (nextId H) 0 (l.length+m.length) cp (flat ei.zero)) ((nextId H,.arr (flat ei.zero) cp (l++m))::H))->uw P o a.eval c H k ks:=by
  rintro l m base rfl hRd ⟨news,hx,hm⟩ hne h1 h2 h3;have b4J:0<m.length:=jq.2 hne;obtain⟨olds,ho1,ho2⟩:∃olds,Jv c.w c.Im (flat ei.zero) l olds/\Src P (flat ei.zero) c.w (.slice base l.length l.length) l.length olds:=by simp only[Rd]at hRd;rcases hRd.2 with⟨rfl,h8⟩|⟨ad,cap,h8,h9,h10,h11,h12⟩;{exact⟨[],rfl,by simp at h8;rw[h8];exact⟨λ_=>rfl,λ_=>rfl⟩⟩};obtain⟨olds,g1,g2⟩:=J7 h12;refine⟨olds,g1,?_⟩;simp at h8;rw[h8.1];exact Src.slice (vO g1) (Pn rfl rfl (λhne=>h11 (λe=>by subst e;exact hne g1)) g2)
  have hol:=vO ho1;have hml:=vO hm;have hge:=grownCap_ge c.w (l.length+m.length) l.length el;have hle:=grownCap_le_maxLen c.w (l.length+m.length) l.length el (by simpa[maxL,maxLen]using h1);have hle':grownCap c.w (l.length+m.length) l.length el<=maxL:=(by simpa[maxL,maxLen]using hle);have hrun:=JG (P:=P) (ty:=o.type) (t:=t) (u:=u) ht hu hd g1 g2 g4 hx (by omega:l.length<l.length+m.length) h1 (by rw[g3];exact h2) ho2.cells;generalize hcp:grownCap c.w (l.length+m.length) l.length el=cap' at hge hle' hrun;let cs:=olds.toArray++news.toArray++Builtin.zeroCells z.cells (cap'-(l.length+m.length));have hcs:cs.size=cap'*flat ei.zero:=(by simp only[cs,nZ,jK,hol,hml,size_zeroCells,hzs];rw[<- dw,<- dw];congr 1;omega);have htd:=Tr.drew hr;let d0:Cx:={ c with w:=c.w.drew };have hr0:HR d0 H:=htd.hr;have htr:Tr c H (d0.push (.cells cs el) ((nextId H,.arr (flat ei.zero) cap' (l++m))::H)) ((nextId H,.arr (flat ei.zero) cap' (l++m))::H):=(by refine htd.trans (Tr.push hr0 _ _ (λ_=>rfl) ?_);refine⟨cs.toList,el,?_,?_,by simp;exact hge,hle',?_,?_⟩;{rw[EKρ hr0];simp only[Cx.push,jf];exact alloc_heap_new _ _};{rw[bM,hcs]};{have le:=htd.le.trans (UH hr0 (.cells cs el) (.arr (flat ei.zero) cap' (l++m)));have h5:=Hq (xP le.im ho1) (xP le.im hm);have h6:=CX (c:=d0.push (.cells cs el) ((nextId H,.arr (flat ei.zero) cap' (l++m))::H)) (rest:=(Builtin.zeroCells z.cells (cap'-(l.length+m.length))).toList) h5;have e:cs.toList=olds++news++(Builtin.zeroCells z.cells (cap'-(l.length+m.length))).toList:=(by simp[cs]);rw[e];exact h6};intro y hy;rw[EKρ hr0]at hy;have:=hr0.im _ _ hy;omega);refine .inl ⟨_,_,_,_,NZ _ _ hrun,htr,rZ (vw rfl rfl ?_),h3 cap' hge hle'⟩;simp only[VR];rw[EKρ hr0];exact⟨by simp only[Cx.push,hr0.nx];omega,by simp[d0],hge,hle'⟩
 split at h
 ·obtain⟨m,news,hx,hm,h⟩:=AY hr hB h;obtain⟨base,hbe,hRd⟩:=I8 (sz:=flat ei.zero) hA;obtain⟨d0,hw,htr,hV⟩:=Tr.Ox hr hRd;cases h with
  |tok h1 h2 h3 =>refine fin d0 [] m _ _ hw htr (by simp[hget]) (hbe ▸ hV) ⟨news,hx,hm⟩ h1 h2 ?_;have:=wz.1 h3;simpa[hset]using this
  |pure h1 h2 h3=>exact PX d0 [] m hw htr (hbe ▸ hV) ⟨news,hx,hm⟩ h1 h2 h3
  |wr h0 h1 h2 h3=>exact b34 [] m base hbe hRd ⟨news,hx,hm⟩ h0 (by simpa using h1) (by simpa using h2) h3
 ·rename_i sz l;obtain⟨rfl,h⟩:=sV.1 h;obtain⟨m,news,hx,hm,h⟩:=AY hr hB h;obtain⟨base,hbe,hRd⟩:=Np hA;obtain⟨d0,hw,htr,hV⟩:=Tr.Ox hr hRd;cases h with
  |tok h1 h2 h3 =>refine fin d0 l m _ _ hw htr (by simp[hget]) (hbe ▸ hV) ⟨news,hx,hm⟩ h1 h2 ?_;have:=wz.1 h3;simpa[hset]using this
  |pure h1 h2 h3=>exact PX d0 l m hw htr (hbe ▸ hV) ⟨news,hx,hm⟩ h1 h2 h3
  |wr h0 h1 h2 h3=>exact b34 l m base hbe hRd ⟨news,hx,hm⟩ h0 h1 h2 h3
 ·rename_i sz l j;obtain⟨rfl,h⟩:=sV.1 h;obtain⟨m,news,hx,hm,h⟩:=AY hr hB h;obtain⟨ob,hob,h⟩:=uh.1 h;split at h;{rename_i sz' top;have hh:=sV.1 h;clear h;obtain⟨rfl,rfl,h⟩:=hh;obtain⟨_,g7⟩:=yx.1 h.next;exact fin c l m j H rfl (.refl hr) hob hA ⟨news,hx,hm⟩ h.len h.room g7};exact h.elim
 ·rename_i j len;obtain⟨m,news,hx,hm,h⟩:=AY hr hB h;obtain⟨ob,hob,h⟩:=uh.1 h;split at h;{rename_i sz l;have hh:=sV.1 h;clear h;obtain⟨rfl,rfl,h0,h⟩:=hh;obtain⟨_,q7⟩:=yx.1 h.next;obtain⟨c',v',hrun,xG,hV'⟩:=b5p (P:=P) (ty:=o.type) hr hob hA ht hu hd g1 g2 g4 hzs hx hm h0 h.len (by rw[g3];exact h.room);exact .inl ⟨v',c',_,_,NZ _ _ hrun,xG,rZ hV',q7⟩};exact h.elim
 ·rename_i j off len cap;obtain⟨hf1,h⟩:=sV.1 h;obtain⟨m,news,hx,hm,h⟩:=AY hr hB h;obtain⟨ob,hob,h⟩:=uh.1 h;split at h
  ·rename_i cp l;obtain⟨⟨h00,h0,h1⟩,h⟩:=h;obtain⟨_,h⟩:=yx.1 h;obtain⟨cs,ty,q1,q2,q3,q4,q5,q6⟩:=hr.EL hob;obtain⟨hj,rfl,q7,q8⟩:=Oo hA;have hml:=vO hm;rw[iP]at hml q2;have hst:=run_storeCells_at (P:=P) (c.ρ j) (off+len) ty news 0 cs.toArray c.w q1 aA (Ip hm);simp only[dU,hml]at hst;have hrun:=FY (P:=P) (ty:=o.type) (t:=t) (u:=u) (base:=some ⟨c.ρ j,off*1,none⟩) (w':=c.w.setRow (c.ρ j) (cs.take (off+len)++news++cs.drop (off+len+m.length)).toArray) ht hu hd g1 (g2.trans hf1) hx h1 (λad had=>by
    cases had;rw[addr_add,iP,iP];exact hst) (λe=>by cases e)
   refine .inl ⟨_,{ c with w:=c.w.setRow (c.ρ j) (cs.take (off+len)++news++cs.drop (off+len+m.length)).toArray },_,_,NZ _ _ hrun,?_,rZ (vw rfl rfl ?_),h⟩;{refine Tr.write hr hob q1 (λ_=>rfl) (λ_=>rfl) q6 (by intros;simp) (by intros;simp) ?_;have le:c.Le { c with w:=c.w.setRow (c.ρ j) (cs.take (off+len)++news++cs.drop (off+len+m.length)).toArray }:=(by refine⟨λb x h=>⟨h,wW (setRow_other c.w _ b _ (λe=>q6 x (e ▸ h)))⟩,aS _,λ_ _=>rfl,λ_ _ _ h=>.inl ⟨h,rfl⟩⟩);refine⟨_,ty,setRow_heap c.w _ _ _ _ _ q1,?_,?_,q4,Fp le ?_,q6⟩;{simp;omega};{simp;omega};refine NI (NI (Yj (off+len) q5) aA (by have:=CX (c:=c) (rest:=[]) hm;simpa using this)) aA (Ym _ q5)};simp only[VR];exact⟨hj,trivial,aj,q8⟩
  exact h.elim
 exact h.elim
theorem KP{α:Type}:∀{l:List α} {i:Nat} {x:α},l[i]? = some x->l.set i x=l
 | [],_,_,h=>by simp at h
 |y::l,0,x,h=>by simp at h;simp[h]
 |y::l,i+1,x,h=>by simp at h;simp[KP h]
theorem a0f{off:Nat}{v:Value}{pre xs post:List Value}{cells:Array Value}(hc:cells.toList=pre++xs++post)(hp:pre.length=off)(hx:v.cells.size=xs.length) :
  (v.cells.zipIdx.foldl (λcs (c,j)=>cs.setIfInBounds (off+j) c) cells).toList=pre++v.cells.toList++post:=by
 obtain⟨g1,g2⟩:=Great.foldl_set off v.cells.toList 0 cells;have hsz:cells.size=pre.length+xs.length+post.length:=(by rw[<- bM,hc];simp;omega);have e:v.cells.zipIdx.foldl (λcs (c,j)=>cs.setIfInBounds (off+j) c) cells=(v.cells.toList.zipIdx 0).foldl (λcs (x:Value×Nat)=>cs.setIfInBounds (off+x.2) x.1) cells:=(by rw[<- Array.foldl_toList,Array.toList_zipIdx]);rw[e];apply nV;intro i;rw[bJ,g2 i];simp only[dU,bM];have hci:cells[i]? = (pre++xs++post)[i]?:=(by rw[<- hc,bJ]);by_cases h1:i<pre.length;{rw[aB aj,hci];rw[bP,bP,bH h1,bH h1]};by_cases h2:i<pre.length+xs.length;{rw[aG ⟨aj,aj,aj⟩];rw[bP,dJ aj,bH aA,hp]};rw[aB aj,hci];rw[dJ aA,dJ aA];congr 1;simp[hx]
theorem LW{place:Nat->Option (Nat×Nat)}{zs:List AV}(hp:∀i z,zs[i]? = some z->place i=some (yY (zs.take i),flat z))(he:xR c e a) :
  ∀ {ps:List (Nat×Operand)} {l:List AV} {cells:Array Value} {k:List AV->Prop},(∀p∈ps,sU p.2=true)->l.map flat=zs.map flat->Ea c l cells.toList->zk e ps l k ->
    ∃l' cells',Instr.fill place cells (ps.map λp=>(p.1,a.eval p.2))=some cells'/\Ea c l' cells'.toList/\k l'
 | [],l,cells,k,_,_,hr,h=>⟨l,cells,rfl,hr,h⟩
 | (i,x)::ps,l,cells,k,ho,hf,hr,h=>by
   simp only[zk]at h;obtain⟨A,hA,h⟩:=rH he (ho (i,x) ak) h;obtain⟨hval,h⟩:=KO.1 h;obtain⟨z,hz,h⟩:=zQ.1 h;obtain⟨hfl,h⟩:=sV.1 h;have h':Aa l i A λzs'=>zk e ps zs' k:=by cases A <;> cases z <;> first|exact h|exact h.elim
   obtain⟨hi,h'⟩:=Hz h';have hAv:=Ew hA hval;obtain⟨pre,xs,post,h1,h2,h3,h4⟩:=Jr hr hz;have hlen:(a.eval x).cells.size=xs.length:=(by rw[<- bM,xU _ _ hAv.2,xU _ _ h3,hfl]);have b6j:∀(l m:List AV),l.map flat=m.map flat->yY l=yY m:=by
    intro l;induction l with
    | nil=>intro m h;cases m with
      |nil=>rfl
      |cons y m=>simp at h
    | cons y l ih=>intro m h;cases m with
      |nil=>simp at h
      |cons y' m=>simp at h;simp[yY,h.1,ih m h.2]
   obtain⟨z0,hz0,hzf⟩:∃z0,zs[i]? = some z0/\flat z0=flat z:=by
    have:(l.map flat)[i]? = (zs.map flat)[i]?:=(by rw[hf]);rw[dO,dO,hz]at this;cases hz0:zs[i]? with
    |none=>simp[hz0]at this
    |some z0=>simp[hz0]at this;exact⟨z0,rfl,this.symm⟩
   have hoff:yY (zs.take i)=pre.length:=(by rw[h2];refine b6j _ _ ?_;rw[iy,iy,hf]);have hpl:=hp i z0 hz0;have hcs:=a0f (v:=a.eval x) (off:=pre.length) h1 rfl hlen;have hsz:pre.length+xs.length<=cells.size:=(by rw[<- bM,h1];simp);obtain⟨l',cells',g1,g2,g3⟩:=LW hp he (cells:=(a.eval x).cells.zipIdx.foldl (λcs (c,j)=>cs.setIfInBounds (pre.length+j) c) cells) (λp hp=>ho p (by simp[hp]))
    (l:=l.set i A) (by rw[dP,hfl,<- hf];exact KP (by rw[dO,hz];rfl)) (by rw[hcs];exact h4 _ _ hAv.2) h'
   refine⟨l',cells',?_,g2,g3⟩;simp only[dF,Instr.fill,hpl,hoff];rw[aB];{exact g1};have:flat z0=xs.length:=(by rw[hzf,xU _ _ h3]);simp;omega
theorem a5M{fs:List Field}(h:∀f∈fs,∃x,P.info? f.type=some x) :
  fs.mapM (λf=>(P.info? f.type).map λi=>(f.offset,i.size))=some (fs.map λf=>(f.offset,P.cellsOf f.type)):=by
 induction fs with
 |nil=>rfl
 |cons f fs ih =>obtain⟨x,hx⟩:=h f ak;simp[hx,ih λf hf=>h f (by simp[hf]),Program.cellsOf]
theorem Z8:∀{zs:List AV} {i:Nat} {z:AV},Ql zs=true->zs[i]? = some z->yY (zs.take i)=i/\flat z=1
 | [],_,_,_,h=>by simp at h
 | x::l,i,z,hf,h=>by
   simp only[Ql]at hf;cases hb:Nat.beq (flat x) 1 with
   |false=>rw[hb]at hf;cases hf
   | true =>
     rw[hb]at hf;have hx:=aK hb;cases i with
     |zero=>simp at h;subst h;exact⟨by simp[yY],hx⟩
     |succ i =>obtain⟨k1,k2⟩:=Z8 hf (by simpa using h);exact⟨by simp only[jo,yY,hx,k1];omega,k2⟩
theorem a8J(hL:uo P L){t:Nat}{ps:Array (Nat×Operand)}(hr:HR c H)(he:xR c e a)(hx:∀p∈ps.toList,sU p.2=true)(ho:o.op=.build t ps)
  (h:L.sO t λi=>(match i.desc,i.zero with
  | .struct _,.ag zs=>zk e ps.toList zs λl=>k (.ag l) H
  | .arr _ el,.ag zs=>L.sO el λei=>BM (flat ei.zero) 1 (Zu (Ql zs) (zk e ps.toList zs λl=>k (.ag l) H))
  |_,_=>False)):uw P o a.eval c H k ks:=by
 obtain⟨i,hT,h⟩:=Lay.rY hL h;obtain⟨d,hd,hdd⟩:=hT.under;split at h;case h_3=>exact h.elim
 case h_2 =>
  rename_i n el zs hi hz;obtain rfl:=Xx (hdd.trans hi);obtain⟨ei,hE,h⟩:=Lay.rY hL h;obtain⟨hf1,h⟩:=sV.1 h;obtain⟨info,z,g1,g2,g3,g4,g5,g6⟩:=hT.info;obtain⟨b4T,ez,e1,e2,_,_,_,_⟩:=hE.info;have hz0:Ea c zs z.cells.toList:=by have:=yL (c:=c) _ _ (g6 c.w c.Im);rw[hz]at this;simpa only[VR]using this
  have hfl:Ql zs=true/\zk e ps.toList zs λl=>k (.ag l) H:=(by unfold Zu at h;split at h;{exact⟨‹_›,h⟩};exact h.elim);obtain⟨hfl,h⟩:=hfl;obtain⟨l,cells,h1,h2,h3⟩:=LW (place:=λi=>some (i*b4T.size,b4T.size)) (λi z hz=>by
   obtain⟨k1,k2⟩:=Z8 hfl hz;rw[e2,hf1,iP,k1,k2]) he hx rfl hz0 h
  refine .pure hr (v:=.agg cells) ?_ (rZ (A:=.ag l) ⟨⟨λ_=>⟨_,rfl⟩,λh=>by cases h⟩,by show VR c (.ag l) cells.toList;simpa only[VR]using h2⟩) h3;unfold execOp;rw[ho];have hb:P.built t (ps.map fun(i,x)=>(i,a.eval x)).toList=some cells:=(by unfold Program.built;simp only[g1,hd,g4,e1];rw[mQ];exact h1);simp only[Sem.run_bind,run_build c.w t _ cells hb,Result.andThen_ok,Sem.run_pure]
 rename_i fs zs hi hz;obtain⟨gs,rfl,rfl⟩:=IG (hdd.trans hi);obtain⟨zs',hz',hoff⟩:=hT.b7e _ hi;rw[hz]at hz';cases hz';have b7O:=hT.inf _ hi;obtain⟨info,z,g1,g2,g3,g4,g5,g6⟩:=hT.info;have hz0:Ea c zs z.cells.toList:=by have:=yL (c:=c) _ _ (g6 c.w c.Im);rw[hz]at this;simpa only[VR]using this
 have hm:gs.toList.mapM (λf=>(P.info? f.type).map λi=>(f.offset,i.size))=some (KZ 0 zs):=(by rw[a5M λf hf=>b7O (f.offset,P.cellsOf f.type,f.type) (bZ.2 ⟨f,hf,rfl⟩),<- hoff,jV];rfl);obtain⟨l,cells,h1,h2,h3⟩:=LW (place:=λi=>(KZ 0 zs).toArray[i]?) (λi z hz=>by simpa using OD (n:=0) hz) he hx rfl hz0 h;refine .pure hr (v:=.agg cells) ?_ (rZ (A:=.ag l) ⟨⟨λ_=>⟨_,rfl⟩,λh=>by cases h⟩,by show VR c (.ag l) cells.toList;simpa only[VR]using h2⟩) h3;unfold execOp;rw[ho];have hb:P.built t (ps.map fun(i,x)=>(i,a.eval x)).toList=some cells:=(by unfold Program.built;simp only[g1,hd,g4,hm];rw[mQ];exact h1);simp only[Sem.run_bind,run_build c.w t _ cells hb,Result.andThen_ok,Sem.run_pure]
theorem a0Q{w:World}{Im:Nat->Nat->Prop}{sz:Nat}:∀{l:List AV} {cs:List Value} {j:Nat} {x:AV},Jv w Im sz l cs->l[j]? = some x ->
  ∃pre xs post,cs=pre++xs++post/\pre.length=j*sz/\xs.length=sz/\∀y ys,Rd w Im y ys->ys.length=sz->Jv w Im sz (l.set j y) (pre++ys++post)
 | [],_,_,_,_,h=>by simp at h
 |z::l,cs,0,x,hr,h=>by obtain⟨a,d,rfl,h2,h3,h4⟩:=hr;refine⟨[],a,d,ak,ak,h2,λy ys hy hl=>?_⟩;exact⟨ys,d,ak,hl,hy,h4⟩
 |z::l,cs,j+1,x,hr,h=>by obtain⟨a,d,rfl,h2,h3,h4⟩:=hr;obtain⟨pre,xs,post,rfl,h5,h6,h8⟩:=a0Q h4 (by simpa using h:l[j]? = some x);refine⟨a++pre,xs,post,ak,by simp[h2,h5,dw];omega,h6,λy ys hy hl=>?_⟩;exact⟨a,pre++ys++post,ak,h2,h3,h8 y ys hy hl⟩
theorem QM{sz:Nat}(he:xR c e a) :
  ∀ {ps:List (Nat×Operand)} {l:List AV} {cells:Array Value} {k:List AV->Prop},(∀p∈ps,sU p.2=true)->(∀z∈l,flat z=sz)->Jv c.w c.Im sz l cells.toList->zO e ps l k ->
    ∃l' cells',Instr.fill (λi=>some (i*sz,sz)) cells (ps.map λp=>(p.1,a.eval p.2))=some cells'/\l'.length=l.length/\Jv c.w c.Im sz l' cells'.toList/\k l'
 | [],l,cells,k,_,_,hr,h=>⟨l,cells,rfl,rfl,hr,h⟩
 | (i,x)::ps,l,cells,k,ho,hf,hr,h=>by
   simp only[zO]at h;obtain⟨A,hA,h⟩:=rH he (ho (i,x) ak) h;obtain⟨z,hz,h⟩:=zQ.1 h;obtain⟨hfl,h⟩:=sV.1 h;have h':NW A λB=>Aa l i B λzs'=>zO e ps zs' k:=by cases A <;> cases z <;> first|exact h|exact h.elim
   obtain⟨hpu,h'⟩:=KW h';obtain⟨hi,h'⟩:=Hz h';have hval:isVal A=true:=by cases A <;> first|rfl|(simp[FU]at hpu)
   have hAv:=Ew hA hval;have hzs:flat z=sz:=hf z (cZ hz);obtain⟨pre,xs,post,h1,h2,h3,h4⟩:=a0Q hr hz;have hlen:(a.eval x).cells.toList.length=sz:=(by rw[xU _ _ hAv.2,hfl,hzs]);have hlen':(a.eval x).cells.size=sz:=(by rw[<- hlen,bM]);have hcs:=a0f (v:=a.eval x) (off:=i*sz) h1 h2 (by rw[hlen',h3]);have hR:=Ho _ _ hpu hAv.2;have hsz:pre.length+xs.length<=cells.size:=(by rw[<- bM,h1];simp);obtain⟨l',cells',g1,g2,g3,g4⟩:=QM he (cells:=(a.eval x).cells.zipIdx.foldl (λcs (c,j)=>cs.setIfInBounds (i*sz+j) c) cells) (λp hp=>ho p (by simp[hp]))
    (l:=l.set i (strip A)) (λy hy=>by
     rcases kQ hy with hy|rfl;{exact hf y hy};rw[<- uH _ _ hR];exact hlen) (by rw[hcs];exact h4 _ _ hR hlen) h'
   refine⟨l',cells',?_,by rw[g2];simp,g3,g4⟩;simp only[dF,Instr.fill];rw[aB];{exact g1};simp;omega
theorem X4{a b:Nat}{k:Prop}:SG a b k↔a<=b/\k:=by
 unfold SG;cases h:Nat.ble a b with
 |true=>simp[bI h]
 |false=>simp;intro hle;rw[gU hle]at h;cases h
theorem YG(hL:uo P L){t n:Nat}{ps:Array (Nat×Operand)}(hr:HR c H)(he:xR c e a)(hx:∀p∈ps.toList,sU p.2=true)(ho:o.op=.buildSlice t n ps)
  (h:L.sO t λi=>(match i.desc with
  | .slice el=>L.sO el λei=>SG (n*flat ei.zero) 16777216 <| SG n 16777216 <| a8w ei.zero n λzs=>zO e ps.toList zs λl=>k (.sl (flat ei.zero) l .full) H
  |_=>False)):uw P o a.eval c H k ks:=by
 obtain⟨i,hT,h⟩:=Lay.rY hL h;obtain⟨d,hd,hdd⟩:=hT.under;split at h;case h_2=>exact h.elim
 rename_i el hi;obtain rfl:=sJ (hdd.trans hi);obtain⟨ei,hE,h⟩:=Lay.rY hL h;obtain⟨hb1,h⟩:=X4.1 h;obtain⟨hb2,h⟩:=X4.1 h;have h:=V4.1 h;obtain⟨info,z,g1,g2,g3,g4,g5,g6⟩:=hE.info;have b6h:=a3z (g6 c.w c.Im) n;obtain⟨l,cells,h1,h2,h3,h4⟩:=QM (sz:=flat ei.zero) he hx (λy hy=>by rw[(fG.1 hy).2]) b6h h;rw[jD]at h2;have hrun:(Instr.buildSlice t n (ps.map fun(i,x)=>(i,a.eval x))).run P c.w=.ok (.slice (some ⟨c.w.heap.size,0,none⟩) n n) (c.w.alloc (.cells cells el)):=by have h1':Instr.fill (λi=>some (i*info.size,info.size)) ((Array.range (n*info.size)).map (z.cells[· % z.cells.size]!)) (ps.map fun(i,x)=>(i,a.eval x)).toList=some cells:=(by rw[g2,mQ];exact h1);by_cases hpos:n*info.size=0;{have e0:∀zz:Array Value,(Array.range (n*info.size)).map (zz[· % zz.size]!) = #[]:=(by intro zz;rw[hpos];simp);rw[e0]at h1';have hsmall:¬n*info.size>2^24:=aj;have e1:=e0 #[];have hszz:(sizeOf el).run P c.w=.ok info.size c.w:=(by unfold sizeOf typeInfo;simp[g1]);unfold Instr.buildSlice;simp only[Sem.run_bind,run_underlying hd,Result.andThen_ok,hszz,hsmall,if_false];rw[aG hpos];simp only[Sem.run_bind,Sem.run_pure,Result.andThen_ok,e1,h1',newRow,run_newObj,World.alloc_eq]};exact Go.run_buildSlice c.w t el n _ cells info z hd g1 g4 (by rw[g2];omega) hpos h1'
 refine .inl ⟨.slice (some ⟨c.w.heap.size,0,none⟩) n n,c.alloc (.cells cells el),_,H,?_,Tr.alloc hr _,rZ (vw rfl rfl ?_),h4⟩;{unfold execOp;rw[ho];simp only[Sem.run_bind,hrun,Result.andThen_ok,Sem.run_pure];rfl};simp only[VR,Rd];refine⟨⟨by simp[maxL];omega,.inr ⟨⟨c.w.heap.size,0,none⟩,n,by rw[h2],aj,by simp[maxL];omega,λ_=>rfl,?_⟩⟩,⟨some ⟨c.w.heap.size,0,none⟩,by rw[h2]⟩⟩;have le:=(Tr.alloc hr (.cells cells el)).le;refine Bo (xP le.im h3) λj v hj=>⟨?_,.inr rfl⟩;rw[bC];show(c.w.alloc _).cell? ⟨c.w.heap.size,j,none⟩=_;rw[cell_of_heap (alloc_heap_new c.w _),<- bJ];exact hj
end
end Go.AL
namespace Go.AL
section
variable{P:Program}{L:Lay}{c:Cx}{H:Heap}{e:Env}{a:Act}{k:AV->Heap->Prop}{ks:Heap->Prop}{o:Oper}
theorem b3N{v:Value}(h:EV c .vJ v):v=.nilIface:=QX h
theorem b1j{t:Nat}{x:AV}{v:Value}(h:EV c (.uV t x) v):∃u,v=.iface t u/\VV c x u:=a7M h
theorem Rh{c:Cx}{A B:AV}{v u:Value}(hA:VV c A v)(hB:VV c B u):EV c (.uf [A,B]) (.tuple #[v,u]) :=
 ⟨_,rfl,_,_,rfl,hA.1,hA.2,_,_,rfl,hB.1,hB.2,rfl⟩
theorem a0d{op:BinOp}{A:AV}{K:AV->Prop}{v:Value}(hA:EV c A v)(h:b3Z op A K) :
  (op=.eql\/op=.neq)/\∃ad l n,v=.slice ad l n/\∃R,VV c R (.bool (if op=.eql then ad.isNone else !ad.isNone))/\K R:=by
 unfold b3Z at h;split at h;{have hv:=DV hA;exact⟨.inl rfl,none,0,0,hv,_,Hg,h⟩};{have hv:=DV hA;exact⟨.inr rfl,none,0,0,hv,_,BQ,h⟩};{obtain⟨_,hv,_⟩:=Oo hA;exact⟨.inl rfl,_,_,_,hv,_,BQ,h⟩};{obtain⟨_,hv,_⟩:=Oo hA;exact⟨.inr rfl,_,_,_,hv,_,Hg,h⟩};{obtain⟨_,⟨h1,hv⟩|⟨ad,cap,hv,_⟩⟩:=Yc hA;{exact⟨.inl rfl,none,0,0,hv,_,Et true,h true λ_=>h1⟩};exact⟨.inl rfl,some ad,_,_,hv,_,Et false,h false λh=>by cases h⟩};{obtain⟨_,⟨h1,hv⟩|⟨ad,cap,hv,_⟩⟩:=Yc hA;{exact⟨.inr rfl,none,0,0,hv,_,Et false,h false λ_=>h1⟩};exact⟨.inr rfl,some ad,_,_,hv,_,Et true,h true λh=>by cases h⟩};exact h.elim
theorem run_equalIn_slice_nil{t el:Nat}(ht:P.underlying t=some (.slice el))(ad:Option Addr)(l n d:Nat)(w:World) :
  (Op.equalIn (d+1) t (.slice ad l n) (.slice none 0 0)).run P w=.ok ad.isNone w:=by
 cases ad <;> simp only[Op.equalIn,Sem.run_bind,run_underlying ht,Result.andThen_ok,Sem.run_pure,Option.isNone]
theorem run_equal_slice_nil{t el:Nat}(ht:P.underlying t=some (.slice el))(ad:Option Addr)(l n:Nat)(w:World) :
  (Op.equal t (.slice ad l n) (.slice none 0 0)).run P w=.ok ad.isNone w:=run_equalIn_slice_nil ht ad l n 9999 w
theorem a5v(hL:uo P L){op:BinOp}{t ty:Nat}{x y:Operand}(hr:HR c H)(he:xR c e a)(hx:sU x=true)(ho:o.op=.binOp op t x y ty)(hn:F5 (.binOp op t x y ty)=true)
  (h:uj e x λA=>L.sO t λi=>(match i.desc with | .slice _=>b3Z op A λR=>k R H|_=>False)):uw P o a.eval c H k ks:=by
 obtain⟨A,hA,h⟩:=rH he hx h;obtain⟨i,hT,h⟩:=Lay.rY hL h;obtain⟨d,hd,hdd⟩:=hT.under;have hy:y=.const (.slice none 0 0):=by unfold F5 at hn;split at hn;{rename_i heq;cases heq;rfl};cases hn
 subst hy;split at h;{rename_i el hi;obtain rfl:=sJ (hdd.trans hi);obtain⟨hop,ad,l,n,hv,R,hR,hk⟩:=a0d hA h;refine .pure hr (Ac ho (yR (fun⟨cs,ds,h1,_⟩=>by rw[hv]at h1;cases h1) (λh1=>by rw[hv]at h1;cases h1)) ?_) (rZ hR) hk;have e2:a.eval (.const (.slice none 0 0))=.slice none 0 0:=rfl;rw[hv,e2];rcases hop with rfl|rfl;{simp only[binOp,run_equal_slice_nil hd,Sem.run_bind,Result.andThen_ok,Sem.run_pure];rfl};simp only[binOp,run_equal_slice_nil hd,Sem.run_bind,Result.andThen_ok,Sem.run_pure];rfl};exact h.elim
theorem YE(hL:uo P L){x:Operand}{xt s:Nat}{ok:Bool}(hr:HR c H)(he:xR c e a)(hx:sU x=true)(ho:o.op=.typeAssert x xt s ok)
  (h:uj e x λA=>L.sO s λi=>(match i.desc with
  | .iface=>False
  |_=>b0f i.zero s A ok λR=>k R H)):uw P o a.eval c H k ks:=by
 obtain⟨A,hA,h⟩:=rH he hx h;obtain⟨i,hT,h⟩:=Lay.rY hL h;obtain⟨d,hd,hdd⟩:=hT.under;have hne:∀ms,d≠.interface ms:=(by rintro ms rfl;have:i.desc=.iface:=hdd.symm;rw[this]at h;exact h);obtain⟨z,hz,hzs,hzr⟩:=hT.KQ c.w;have hZ:VV c i.zero z:=⟨hzs,yL _ _ (hzr _ _)⟩;have h':b0f i.zero s A ok λR=>k R H:=by cases hi:i.desc <;> rw[hi]at h <;> first|exact h.elim|exact h
 clear h;have fails:∀u,a.eval x=u->(u=.nilIface\/∃t y,u=.iface t y/\t≠s)->ok=true->(execOp a.eval o).run P c.w=.ok (.value (.tuple #[z,.bool false])) c.w:=by intro u hu hcase hok;unfold execOp;rw[ho,hok];simp only[Instr.typeAssert,Sem.run_bind,run_underlying hd,Result.andThen_ok,hu];rcases hcase with rfl|⟨t,y,rfl,hts⟩;{cases d <;> first|exact absurd rfl (hne _)|simp only[if_true,Sem.run_bind,hz,Result.andThen_ok,Sem.run_pure]};cases d <;> first|exact absurd rfl (hne _)|simp only[aB hts,if_true,Sem.run_bind,hz,Result.andThen_ok,Sem.run_pure]
 unfold b0f at h';split at h';{have hv:=b3N hA;exact .pure hr (fails _ hv (.inl rfl) rfl) (Rh hZ BQ) h'};{rename_i t y;obtain⟨u,hv,hU⟩:=b1j hA;split at h';{rename_i hb;obtain rfl:=aK hb;refine .pure hr (v:=.tuple #[u,.bool true]) ?_ (Rh hU Hg) h';unfold execOp;rw[ho];simp only[Instr.typeAssert,Sem.run_bind,run_underlying hd,Result.andThen_ok,hv];cases d <;> first|exact absurd rfl (hne _)|simp only[if_true,Result.andThen_ok,Sem.run_pure]};rename_i hb;exact .pure hr (fails _ hv (.inr ⟨_,u,rfl,xw hb⟩) rfl) (Rh hZ BQ) h'};{rename_i t y;obtain⟨u,hv,hU⟩:=b1j hA;split at h';{rename_i hb;obtain rfl:=aK hb;refine .pure hr (v:=u) ?_ (rZ hU) h';unfold execOp;rw[ho];simp only[Instr.typeAssert,Sem.run_bind,run_underlying hd,Result.andThen_ok,hv];cases d <;> first|exact absurd rfl (hne _)|simp only[if_true,dN,if_false,Result.andThen_ok,Sem.run_pure]};exact h'.elim};exact h'.elim
theorem H7{b:Bool}{k:Prop}:Zu b k↔b=true/\k:=by unfold Zu;cases b <;> simp
mutual
theorem OL{c:Cx}:∀(S A:AV) (cs:List Value),qR S A=true->VR c A cs->cs=Uw A/\Rd c.w c.Im A cs
 | .int _ _,.int k n,cs,_,h=>by simp only[VR,Rd]at h;exact⟨by rw[h.1];rfl,by simp only[Rd];exact h⟩
 | .str _,.str s,cs,_,h=>by simp only[VR,Rd]at h;exact⟨by rw[h.1];rfl,by simp only[Rd];exact h⟩
 | .ag s,.ag l,cs,hs,h=>by simp only[VR]at h;simp only[qR]at hs;simp only[Uw,Rd];exact a1i s l cs hs h
 | .int _ _,.bool _,_,hs,_=>by simp[qR]at hs
 | .int _ _,.tt,_,hs,_=>by simp[qR]at hs
 | .int _ _,.ff,_,hs,_=>by simp[qR]at hs
 | .int _ _,.dec _,_,hs,_=>by simp[qR]at hs
 | .int _ _,.str _,_,hs,_=>by simp[qR]at hs
 | .int _ _,.vJ,_,hs,_=>by simp[qR]at hs
 | .int _ _,.uV _ _,_,hs,_=>by simp[qR]at hs
 | .int _ _,.qW,_,hs,_=>by simp[qR]at hs
 | .int _ _,.sl _ _ _,_,hs,_=>by simp[qR]at hs
 | .int _ _,.ms _ _ _ _ _,_,hs,_=>by simp[qR]at hs
 | .int _ _,.ag _,_,hs,_=>by simp[qR]at hs
 | .int _ _,.uf _,_,hs,_=>by simp[qR]at hs
 | .int _ _,.ptr _ _ _,_,hs,_=>by simp[qR]at hs
 | .int _ _,.cp _,_,hs,_=>by simp[qR]at hs
 | .int _ _,.vW,_,hs,_=>by simp[qR]at hs
 | .int _ _,.fn _ _,_,hs,_=>by simp[qR]at hs
 | .int _ _,.ru,_,hs,_=>by simp[qR]at hs
 | .int _ _,.mp _,_,hs,_=>by simp[qR]at hs
 | .int _ _,.gs _ _,_,hs,_=>by simp[qR]at hs
 | .int _ _,.bm _ _,_,hs,_=>by simp[qR]at hs
 | .int _ _,.zq,_,hs,_=>by simp[qR]at hs
 | .int _ _,.und,_,hs,_=>by simp[qR]at hs
 | .str _,A,cs,hs,h=>by
   cases A <;> first|(simp[qR]at hs;done)|skip
   simp only[VR,Rd]at h;exact⟨by rw[h.1];rfl,by simp only[Rd];exact h⟩
 | .ag s,A,cs,hs,h=>by
   cases A <;> first|(simp[qR]at hs;done)|skip
   rename_i l;simp only[VR]at h;simp only[qR]at hs;simp only[Uw,Rd];exact a1i s l cs hs h
 | .bool _,A,_,hs,_=>by cases A <;> simp[qR]at hs
 | .tt,A,_,hs,_=>by cases A <;> simp[qR]at hs
 | .ff,A,_,hs,_=>by cases A <;> simp[qR]at hs
 | .dec _,A,_,hs,_=>by cases A <;> simp[qR]at hs
 | .vJ,A,_,hs,_=>by cases A <;> simp[qR]at hs
 | .uV _ _,A,_,hs,_=>by cases A <;> simp[qR]at hs
 | .qW,A,_,hs,_=>by cases A <;> simp[qR]at hs
 | .sl _ _ _,A,_,hs,_=>by cases A <;> simp[qR]at hs
 | .ms _ _ _ _ _,A,_,hs,_=>by cases A <;> simp[qR]at hs
 | .uf _,A,_,hs,_=>by cases A <;> simp[qR]at hs
 | .ptr _ _ _,A,_,hs,_=>by cases A <;> simp[qR]at hs
 | .cp _,A,_,hs,_=>by cases A <;> simp[qR]at hs
 | .vW,A,_,hs,_=>by cases A <;> simp[qR]at hs
 | .fn _ _,A,_,hs,_=>by cases A <;> simp[qR]at hs
 | .ru,A,_,hs,_=>by cases A <;> simp[qR]at hs
 | .mp _,A,_,hs,_=>by cases A <;> simp[qR]at hs
 | .gs _ _,A,_,hs,_=>by cases A <;> simp[qR]at hs
 | .bm _ _,A,_,hs,_=>by cases A <;> simp[qR]at hs
 | .zq,A,_,hs,_=>by cases A <;> simp[qR]at hs
 | .und,A,_,hs,_=>by cases A <;> simp[qR]at hs
theorem a1i{c:Cx}:∀(s l:List AV) (cs:List Value),uy s l=true->Ea c l cs->cs=b5H l/\DX c.w c.Im l cs
 | [],[],cs,_,h=>by simp only[Ea]at h;subst h;exact⟨rfl,by simp only[DX]⟩
 | [],_::_,_,hs,_=>by simp[uy]at hs
 |_::_,[],_,hs,_=>by simp[uy]at hs
 |x::s,y::l,cs,hs,h=>by simp only[uy,aN]at hs;simp only[Ea]at h;obtain⟨p,q,rfl,h1,h2⟩:=h;obtain⟨e1,r1⟩:=OL x y p hs.1 h1;obtain⟨e2,r2⟩:=a1i s l q hs.2 h2;refine⟨by rw[e1,e2];rfl,?_⟩;simp only[DX];exact⟨p,q,rfl,r1,r2⟩
end
mutual
theorem PS:∀(A B C:AV),qR A B=true->qR A C=true->qR B C=true
 | .int a _,B,C,h1,h2=>by
   cases B <;> first|(simp[qR]at h1;done)|skip
   cases C <;> first|(simp[qR]at h2;done)|skip
   simp only[qR]at *;obtain rfl:=xY h1;exact h2
 | .str _,B,C,h1,h2=>by
   cases B <;> first|(simp[qR]at h1;done)|skip
   cases C <;> first|(simp[qR]at h2;done)|skip
   rfl
 | .ag l,B,C,h1,h2=>by
   cases B <;> first|(simp[qR]at h1;done)|skip
   cases C <;> first|(simp[qR]at h2;done)|skip
   simp only[qR]at *;exact NT l _ _ h1 h2
 | .bool _,B,_,h1,_=>by cases B <;> simp[qR]at h1
 | .tt,B,_,h1,_=>by cases B <;> simp[qR]at h1
 | .ff,B,_,h1,_=>by cases B <;> simp[qR]at h1
 | .dec _,B,_,h1,_=>by cases B <;> simp[qR]at h1
 | .vJ,B,_,h1,_=>by cases B <;> simp[qR]at h1
 | .uV _ _,B,_,h1,_=>by cases B <;> simp[qR]at h1
 | .qW,B,_,h1,_=>by cases B <;> simp[qR]at h1
 | .sl _ _ _,B,_,h1,_=>by cases B <;> simp[qR]at h1
 | .ms _ _ _ _ _,B,_,h1,_=>by cases B <;> simp[qR]at h1
 | .uf _,B,_,h1,_=>by cases B <;> simp[qR]at h1
 | .ptr _ _ _,B,_,h1,_=>by cases B <;> simp[qR]at h1
 | .cp _,B,_,h1,_=>by cases B <;> simp[qR]at h1
 | .vW,B,_,h1,_=>by cases B <;> simp[qR]at h1
 | .fn _ _,B,_,h1,_=>by cases B <;> simp[qR]at h1
 | .ru,B,_,h1,_=>by cases B <;> simp[qR]at h1
 | .mp _,B,_,h1,_=>by cases B <;> simp[qR]at h1
 | .gs _ _,B,_,h1,_=>by cases B <;> simp[qR]at h1
 | .bm _ _,B,_,h1,_=>by cases B <;> simp[qR]at h1
 | .zq,B,_,h1,_=>by cases B <;> simp[qR]at h1
 | .und,B,_,h1,_=>by cases B <;> simp[qR]at h1
theorem NT:∀(l m r:List AV),uy l m=true->uy l r=true->uy m r=true
 | [],[],[],_,_=>rfl
 | [],[],_::_,_,h=>by simp[uy]at h
 | [],_::_,_,h,_=>by simp[uy]at h
 |_::_,[],_,h,_=>by simp[uy]at h
 |_::_,_::_,[],_,h=>by simp[uy]at h
 |x::l,y::m,z::r,h1,h2=>by simp only[uy,aN]at *;exact⟨PS x y z h1.1 h2.1,NT l m r h1.2 h2.2⟩
end
mutual
theorem Tv:∀(A B C:AV),qR A B=true->qR B C=true->qR A C=true
 | .int a _,B,C,h1,h2=>by
   cases B <;> first|(simp[qR]at h1;done)|skip
   cases C <;> first|(simp[qR]at h2;done)|skip
   simp only[qR]at *;obtain rfl:=xY h1;exact h2
 | .str _,B,C,h1,h2=>by
   cases B <;> first|(simp[qR]at h1;done)|skip
   cases C <;> first|(simp[qR]at h2;done)|skip
   rfl
 | .ag l,B,C,h1,h2=>by
   cases B <;> first|(simp[qR]at h1;done)|skip
   cases C <;> first|(simp[qR]at h2;done)|skip
   simp only[qR]at *;exact PU l _ _ h1 h2
 | .bool _,B,_,h1,_=>by cases B <;> simp[qR]at h1
 | .tt,B,_,h1,_=>by cases B <;> simp[qR]at h1
 | .ff,B,_,h1,_=>by cases B <;> simp[qR]at h1
 | .dec _,B,_,h1,_=>by cases B <;> simp[qR]at h1
 | .vJ,B,_,h1,_=>by cases B <;> simp[qR]at h1
 | .uV _ _,B,_,h1,_=>by cases B <;> simp[qR]at h1
 | .qW,B,_,h1,_=>by cases B <;> simp[qR]at h1
 | .sl _ _ _,B,_,h1,_=>by cases B <;> simp[qR]at h1
 | .ms _ _ _ _ _,B,_,h1,_=>by cases B <;> simp[qR]at h1
 | .uf _,B,_,h1,_=>by cases B <;> simp[qR]at h1
 | .ptr _ _ _,B,_,h1,_=>by cases B <;> simp[qR]at h1
 | .cp _,B,_,h1,_=>by cases B <;> simp[qR]at h1
 | .vW,B,_,h1,_=>by cases B <;> simp[qR]at h1
 | .fn _ _,B,_,h1,_=>by cases B <;> simp[qR]at h1
 | .ru,B,_,h1,_=>by cases B <;> simp[qR]at h1
 | .mp _,B,_,h1,_=>by cases B <;> simp[qR]at h1
 | .gs _ _,B,_,h1,_=>by cases B <;> simp[qR]at h1
 | .bm _ _,B,_,h1,_=>by cases B <;> simp[qR]at h1
 | .zq,B,_,h1,_=>by cases B <;> simp[qR]at h1
 | .und,B,_,h1,_=>by cases B <;> simp[qR]at h1
theorem PU:∀(l m r:List AV),uy l m=true->uy m r=true->uy l r=true
 | [],[],[],_,_=>rfl
 | [],[],_::_,_,h=>by simp[uy]at h
 | [],_::_,_,h,_=>by simp[uy]at h
 |_::_,[],_,h,_=>by simp[uy]at h
 |_::_,_::_,[],_,h=>by simp[uy]at h
 |x::l,y::m,z::r,h1,h2=>by simp only[uy,aN]at *;exact⟨Tv x y z h1.1 h2.1,PU l m r h1.2 h2.2⟩
end
theorem a0T{sh sh':AV}(h:qR sh' sh=true):∀{es:List (AV×AV)},KSh sh' es->KSh sh es
 | [],_=>trivial
 |(_,_)::_,hk=>⟨PS _ _ _ h hk.1,a0T h hk.2⟩
theorem key_eq{c:Cx}{sh A B:AV}{v u:Value}(h1:qR sh A=true)(h2:qR sh B=true)(hA:VV c A v)(hB:VV c B u):v=u↔Uw A=Uw B:=by
 have e1:=(OL sh A _ h1 hA.2).1;have e2:=(OL sh B _ h2 hB.2).1;have hag:uz A=uz B:=by
  cases sh <;> cases A <;> first|(simp[qR]at h1;done)|skip
  all_goals (cases B <;> first|(simp[qR]at h2;done)|rfl)
 constructor;{rintro rfl;rw[<- e1,<- e2]};intro h;have hc:v.cells.toList=u.cells.toList:=by rw[e1,e2,h]
 cases hb:uz A with
 |true =>obtain⟨cs,rfl⟩:=hA.1.1 hb;obtain⟨ds,rfl⟩:=hB.1.1 (hag ▸ hb);have:cs.toList=ds.toList:=hc;rw[Array.toList_inj.1 this]
 |false =>have h3:=hA.1.2 hb;have h4:=hB.1.2 (hag ▸ hb);rw[h3,h4]at hc;simpa using hc
theorem Vg{c:Cx}:∀{es:List (AV×AV)} {ents:List MapEntry} {j:Nat} {x:MapEntry},Py c es ents->ents[j]? = some x->∃y,es[j]? = some y/\VV c y.1 x.key/\VV c y.2 x.val
 | [],ents,j,x,h,hj=>by obtain rfl:=h;simp at hj
 |(p,q)::es,ents,0,x,h,hj=>by obtain⟨e0,r,rfl,h1,h2,h3⟩:=h;simp at hj;subst hj;exact⟨(p,q),rfl,h1,h2⟩
 |(p,q)::es,ents,j+1,x,h,hj=>by obtain⟨e0,r,rfl,h1,h2,h3⟩:=h;simpa using Vg h3 (by simpa using hj)
theorem MC{c:Cx}:∀{es:List (AV×AV)} {ents:List MapEntry} {j:Nat} {y:AV×AV},Py c es ents->es[j]? = some y->∃x,ents[j]? = some x/\VV c y.1 x.key/\VV c y.2 x.val
 | [],ents,j,x,h,hj=>by simp at hj
 |(p,q)::es,ents,0,x,h,hj=>by obtain⟨e0,r,rfl,h1,h2,h3⟩:=h;simp at hj;subst hj;exact⟨e0,rfl,h1,h2⟩
 |(p,q)::es,ents,j+1,x,h,hj=>by obtain⟨e0,r,rfl,h1,h2,h3⟩:=h;simpa using MC h3 (by simpa using hj)
theorem Iq{sh:AV}:∀{es:List (AV×AV)},KSh sh es->∀x∈es,qR sh x.1=true
 | [],_,x,h=>by simp at h
 |(p,q)::es,hk,x,h=>by rcases aT.1 h with rfl|h;{exact hk.1};exact Iq hk.2 x h
theorem Yg{c:Cx}{K V:AV}{x:MapEntry}(hK:VV c K x.key)(hV:VV c V x.val):∀{es:List (AV×AV)} {ents:List MapEntry},Py c es ents->Py c (es++[(K,V)]) (ents++[x])
 | [],ents,h=>by obtain rfl:=h;exact⟨x,[],rfl,hK,hV,rfl⟩
 |(p,q)::es,ents,h=>by obtain⟨e0,r,rfl,h1,h2,h3⟩:=h;exact⟨e0,r++[x],rfl,h1,h2,Yg hK hV h3⟩
theorem a7N{c:Cx}{K V:AV}{x:MapEntry}(hK:VV c K x.key)(hV:VV c V x.val):∀{es:List (AV×AV)} {ents:List MapEntry} {j:Nat},Py c es ents->Py c (es.set j (K,V)) (ents.set j x)
 | [],ents,j,h=>by obtain rfl:=h;show Py c [] [];rfl
 |(p,q)::es,ents,0,h=>by obtain⟨e0,r,rfl,h1,h2,h3⟩:=h;exact⟨x,r,rfl,hK,hV,h3⟩
 |(p,q)::es,ents,j+1,h=>by obtain⟨e0,r,rfl,h1,h2,h3⟩:=h;exact⟨e0,r.set j x,rfl,h1,h2,a7N hK hV h3⟩
theorem Yw{sh K V:AV}(hK:qR sh K=true):∀{es:List (AV×AV)},KSh sh es->KSh sh (es++[(K,V)])
 | [],_=>⟨hK,trivial⟩
 |(_,_)::_,h=>⟨h.1,Yw hK h.2⟩
theorem a8b{sh K V:AV}(hK:qR sh K=true):∀{es:List (AV×AV)} {j:Nat},KSh sh es->KSh sh (es.set j (K,V))
 | [],_,_=>trivial
 |(_,_)::_,0,h=>⟨hK,h.2⟩
 |(_,_)::_,_+1,h=>⟨h.1,a8b hK h.2⟩
theorem ZM{kt:Nat}{sh sh':AV}{es:List (AV×AV)}{ents:Array MapEntry}(hko:b0p P kt sh)(hss:qR sh' sh=true)(hks:KSh sh' es)(hvr:Py c es ents.toList) :
  KSh sh es/\∀x∈ents.toList,∃l,keyOf P kt x.key=some l:=by
 have hk:=a0T hss hks;refine⟨hk,λx hx=>?_⟩;obtain⟨j,hj⟩:=kD.1 hx;obtain⟨y,hy,hK,_⟩:=Vg hvr hj;have hs:=Iq hk y (cZ hy);exact hko.rd c.w c.Im y.1 x.key hs hK.1 (OL sh y.1 _ hs hK.2).2
theorem a3L(hL:uo P L){t:Nat}(hr:HR c H)(ho:o.op=.makeMap t none)
  (h:L.sO t λi=>(match i.key with|some sh=>Gz H (.tN sh []) λj H'=>k (.mp j) H'|none=>False)):uw P o a.eval c H k ks:=by
 obtain⟨i,hT,h⟩:=Lay.rY hL h;split at h
 ·rename_i sh _;have h:=wz.1 h;have htr:Tr c H (c.push (.map #[] 0) ((nextId H,.tN sh [])::H)) ((nextId H,.tN sh [])::H):=by refine Tr.push hr _ _ (λ_=>rfl) ⟨#[],0,?_,rfl,trivial,⟨ak,ak⟩,ak⟩;rw[EKρ hr];simp only[Cx.push];exact alloc_heap_new _ _
  refine .inl ⟨.map (some c.w.heap.size),_,_,_,?_,htr,rZ (vw rfl rfl ?_),h⟩;{unfold execOp;rw[ho];simp only[Instr.makeMap,Sem.run_bind,run_newObj,Result.andThen_ok,Sem.run_pure,iO,World.alloc_eq];rfl};simp only[VR];refine⟨by simp only[Cx.push,hr.nx];omega,?_⟩;rw[EKρ hr]
 exact h.elim
theorem a3U{kt:Nat}{sh sh' K:AV}{v:Value}{es:List (AV×AV)}{ents:Array MapEntry}{r:Option AV}(hko:b0p P kt sh)(hss:qR sh' sh=true)(hks:KSh sh' es)(hvr:Py c es ents.toList)
  (hdist:ents.toList.Pairwise λa b=>a.key≠b.key) (hsK:qR sh K=true) (hK:VV c K v) (hl:a4D es K r) :
  (r=none/\(Instr.findKey kt v ents.toList).run P c.w=.ok none c.w)\/∃V u j,r=some V/\(Instr.findKey kt v ents.toList).run P c.w=.ok (some (j,u)) c.w/\VV c V u:=by
 obtain⟨hk,hkeys⟩:=ZM hko hss hks hvr;obtain⟨lk,hlk⟩:=hko.rd c.w c.Im K v hsK hK.1 (OL sh K _ hsK hK.2).2;rcases hko.law.find c.w hlk ents.toList hkeys with⟨h1,h2⟩|⟨j,x,h1,h2,h3⟩
 ·cases r with
  |none=>exact .inl ⟨rfl,h1⟩
  |some V =>exfalso;obtain⟨y,hy,he,_⟩:=hl;obtain⟨j,hj⟩:=kD.1 hy;obtain⟨x,hx,hyK,_⟩:=MC hvr hj;exact h2 x (cZ hx) ((key_eq (Iq hk y hy) hsK hyK hK).2 he)
 obtain⟨y,hy,hyK,hyV⟩:=Vg hvr h2;have hym:=cZ hy;have hke:Uw y.1=Uw K:=(key_eq (Iq hk y hym) hsK hyK hK).1 h3;cases r with
 |none=>exact absurd hke (hl y hym)
 |some V =>obtain⟨z,hz,he,rfl⟩:=hl;obtain⟨i,hi⟩:=kD.1 hz;obtain⟨x',hx',hzK,hzV⟩:=MC hvr hi;have hkk:x'.key=v:=(key_eq (Iq hk z hz) hsK hzK hK).2 he;have hij:i=j:=(by apply aU;intro hne;obtain⟨hi1,hi2⟩:=aY.1 hx';obtain⟨hj1,hj2⟩:=aY.1 h2;rcases Nat.lt_or_gt_of_ne hne with hlt|hlt;{have:=fP.1 hdist i j hi1 hj1 hlt;rw[hi2,hj2,hkk,h3]at this;exact this rfl};have:=fP.1 hdist j i hj1 hi1 hlt;rw[hi2,hj2,hkk,h3]at this;exact this rfl);subst hij;rw[h2]at hx';obtain rfl:=aW hx';exact .inr ⟨_,_,_,rfl,h1,hzV⟩
theorem b3O{j:Nat}{v:Value}(h:EV c (.mp j) v):j<c.nx/\v=.map (some (c.ρ j)):=b5u h
theorem VP{S A:AV}(h:qR S A=true):isVal A=true:=by cases S <;> cases A <;> first|(simp[qR]at h;done)|rfl
theorem a5x(hL:uo P L){t:Nat}{x ix:Operand}{ok:Bool}(hr:HR c H)(he:xR c e a)(hx:sU x=true)(hix:sU ix=true)(ho:o.op=.lookup t x ix ok)
  (h:uj e x λA=>uj e ix λK=>L.sO t λi=>(match i.desc,i.key with
  | .map _ et,some sh=>Zu (qR sh K) <| L.sO et λei=>(match A with
    | .mp j=>yh H j λo=>(match o with
      | .tN sh' es=>Zu (qR sh' sh) <| FW es K λr=>DI ok ei.zero r λR=>k R H
      |_=>False)
    |_=>False)
  |_,_=>False)):uw P o a.eval c H k ks:=by
 obtain⟨A,hA,h⟩:=rH he hx h;obtain⟨K,hK,h⟩:=rH he hix h;obtain⟨i,hT,h⟩:=Lay.rY hL h;obtain⟨d,hd,hdd⟩:=hT.under;split at h
 ·rename_i kt et sh hdm hkey;obtain rfl:=JR (hdd.trans hdm);have hko:=hT.keyed kt et sh hdm hkey;obtain⟨hsK,h⟩:=H7.1 h;obtain⟨ei,hE,h⟩:=Lay.rY hL h;have hKv:=Ew hK (VP hsK);split at h
  ·rename_i j;obtain⟨_,e1⟩:=b3O hA;obtain⟨ob,hob,h⟩:=uh.1 h;have hok:=hr.EL hob;split at h
   ·rename_i sh' es;obtain⟨hss,h⟩:=H7.1 h;obtain⟨r,hl,hk⟩:=h.ex;obtain⟨ents,clock,g1,g2,g3,g4,g5⟩:=hok;obtain⟨lk,hlk⟩:=hko.rd c.w c.Im K _ hsK hKv.1 (OL sh K _ hsK hKv.2).2;obtain⟨z,hz,hzs,hzr⟩:=hE.KQ c.w;have hZ:VV c ei.zero z:=⟨hzs,yL _ _ (hzr _ _)⟩
    have run:∀{u:Value} {b:Bool},((∃q,(Instr.findKey kt (a.eval ix) ents.toList).run P c.w=.ok (some (q,u)) c.w)/\b=true\/(Instr.findKey kt (a.eval ix) ents.toList).run P c.w=.ok none c.w/\u=z/\b=false) ->
      (execOp a.eval o).run P c.w=.ok (.value (if ok then .tuple #[u,.bool b]else u)) c.w:=by
     intro u b hc;unfold execOp;rw[ho];simp only[Instr.lookup,Sem.run_bind,run_underlying hd,Result.andThen_ok,e1,jE g1,Sem.run_pure,hko.law.check c.w _ hlk];rcases hc with⟨⟨q,hq⟩,rfl⟩|⟨hq,rfl,rfl⟩;{simp only[hq,Result.andThen_ok,Sem.run_pure,Sem.run_bind]};simp only[hq,Result.andThen_ok,Sem.run_pure,hz,Sem.run_bind]
    rcases a3U hko hss g3 g2 g5 hsK hKv hl with⟨rfl,h1⟩|⟨V,u,q,rfl,h1,hV⟩
    ·cases ok with
     |true=>exact .pure hr (run (.inr ⟨h1,rfl,rfl⟩)) (Rh hZ BQ) hk
     |false=>exact .pure hr (run (.inr ⟨h1,rfl,rfl⟩)) (rZ hZ) hk
    cases ok with
    |true=>exact .pure hr (run (.inl ⟨⟨q,h1⟩,rfl⟩)) (Rh hV Hg) hk
    |false=>exact .pure hr (run (.inl ⟨⟨q,h1⟩,rfl⟩)) (rZ hV) hk
   exact h.elim
  exact h.elim
 exact h.elim
theorem run_setObj_map{r:Nat}{ents:Array MapEntry}{clock:Nat}{w:World}(h:w.heap[r]? = some (.map ents clock))(o':Obj):(setObj r o').run P w=.ok () { w with heap:=w.heap.setIfInBounds r o' }:=by simp[setObj,Sem.run,h]
theorem a2T{w:World}{b o:Nat}{ents:Array MapEntry}{clock:Nat}(h:w.heap[b]? = some (.map ents clock)):w.cell? ⟨b,o,none⟩=none:=by simp[World.cell?,h]
theorem Tr.writeMap{c:Cx}{H:Heap}{k:Nat}{sh:AV}{es es':List (AV×AV)}{ents Qo:Array MapEntry}{clock clock':Nat}(hr:HR c H)(hk:hget H k=some (.tN sh es))(hg:c.w.heap[c.ρ k]? = some (.map ents clock))
  (hok:c.Le { c with w:={ c.w with heap:=c.w.heap.setIfInBounds (c.ρ k) (.map Qo clock') } }->({ c.w with heap:=c.w.heap.setIfInBounds (c.ρ k) (.map Qo clock') }:World).heap[c.ρ k]? = some (.map Qo clock') ->
   (HO.tN sh es').Ok { c with w:={ c.w with heap:=c.w.heap.setIfInBounds (c.ρ k) (.map Qo clock') } } k) :
  Tr c H { c with w:={ c.w with heap:=c.w.heap.setIfInBounds (c.ρ k) (.map Qo clock') } } (hset H k (.tN sh es')):=by
 have hother:∀b,b≠c.ρ k->(c.w.heap.setIfInBounds (c.ρ k) (.map Qo clock'))[b]? = c.w.heap[b]?:=λb hb=>iU (λe=>hb e.symm);have hlt:=(dG.1 hg).1;have hnew:({ c.w with heap:=c.w.heap.setIfInBounds (c.ρ k) (.map Qo clock') }:World).heap[c.ρ k]? = some (.map Qo clock'):=(by show(c.w.heap.setIfInBounds (c.ρ k) _)[c.ρ k]? = _;rw[iZ hlt]);have le:c.Le { c with w:={ c.w with heap:=c.w.heap.setIfInBounds (c.ρ k) (.map Qo clock') } }:=(by refine⟨λb y h=>⟨h,?_⟩,aS _,λ_ _=>rfl,λ_ _ _ h=>.inl ⟨h,rfl⟩⟩;by_cases hb:b=c.ρ k;{subst hb;rw[a2T hg];exact a2T hnew};exact wW (hother b hb));refine Tr.set hr hk le rfl ?_ (λ_ _=>rfl) rfl rfl rfl ak (λb hb' hn=>hother b ?_) (λb x h=>.inl h) (λb h=>.inr ?_) (hok le hnew);{rw[xq hk (by intros;simp) (by intros;simp)];exact hr.tp};{intro e;exact hn (by rw[e];rfl)};exact h
theorem P7(hL:uo P L){t:Nat}{x ix y:Operand}(hr:HR c H)(he:xR c e a)(hx:sU x=true)(hix:sU ix=true)(hy:sU y=true)(ho:o.op=.mapUpdate t x ix y)
  (h:uj e x λA=>uj e ix λK=>uj e y λV=>QU L t A K V H ks):uw P o a.eval c H k ks:=by
 obtain⟨A,hA,h⟩:=rH he hx h;obtain⟨K,hK,h⟩:=rH he hix h;obtain⟨V,hV,h⟩:=rH he hy h;unfold QU at h;obtain⟨i,hT,h⟩:=Lay.rY hL h;obtain⟨d,hd,hdd⟩:=hT.under;split at h
 ·rename_i kt et sh hdm hkey;obtain rfl:=JR (hdd.trans hdm);have hko:=hT.keyed kt et sh hdm hkey;obtain⟨hsK,h⟩:=H7.1 h;obtain⟨hval,ei,hE,hf,hg,h⟩:=Ae hL h;have hKv:=Ew hK (VP hsK);have hVv:=Ew hV hval;obtain⟨j,rfl⟩:∃j,A=.mp j:=by cases A <;> first|exact h.elim|exact⟨_,rfl⟩
  obtain⟨_,e1⟩:=b3O hA;obtain⟨ob,hob,h⟩:=uh.1 h;have hok:=hr.EL hob;obtain⟨sh',es,rfl⟩:∃sh' es,ob=.tN sh' es:=by cases ob <;> first|exact h.elim|exact⟨_,_,rfl⟩
  obtain⟨hss,h⟩:=H7.1 h;obtain⟨es',hu,hk⟩:=h.ex;obtain⟨_,hk⟩:=yx.1 hk;obtain⟨ents,clock,g1,g2,g3,g4,g5⟩:=hok;obtain⟨lk,hlk⟩:=hko.rd c.w c.Im K _ hsK hKv.1 (OL sh K _ hsK hKv.2).2;have b67:qR sh' K=true:=Tv _ _ _ hss hsK;obtain⟨hks,hkeys⟩:=ZM hko hss g3 g2;have b4M:=hko.law.check c.w false hlk;rcases hko.law.find c.w hlk ents.toList hkeys with⟨h1,h2⟩|⟨q,x0,h1,h2,h3⟩;{have hrun:(execOp a.eval o).run P c.w=.ok .skip { c.w with heap:=c.w.heap.setIfInBounds (c.ρ j) (.map (ents.push { key:=a.eval ix,val:=a.eval y,born:=clock }) (clock+1)) }:=(by unfold execOp;rw[ho];simp only[Instr.mapUpdate,Sem.run_bind,run_underlying hd,Result.andThen_ok,e1,jE g1,Sem.run_pure,b4M,h1,run_setObj_map g1]);rcases hu with⟨hu1,rfl⟩|⟨i,z,hu1,hu2,_⟩;{refine .inr (.inl ⟨_,_,hrun,Tr.writeMap hr hob g1 λle hnew=>⟨_,_,hnew,?_,Yw b67 g3,?_,?_⟩,hk⟩);{rw[mG];exact Yg (Cb le hKv) (Cb le hVv) (Hl le g2)};{refine⟨λe he=>?_,?_⟩;{rw[mG]at he;rcases dM.1 he with he|he;{have:=g4.1 e he;omega};simp at he;subst he;exact ou _};rw[mG,aV,iK];refine⟨g4.2,ak,λx hx y hy hxy=>?_⟩;obtain⟨e,he,rfl⟩:=bZ.1 hx;have:=g4.1 e he;simp at hy;omega};rw[mG,nH];refine⟨g5,ak,λe he f hf=>?_⟩;simp at hf;subst hf;exact h2 e he};exfalso;obtain⟨x',hx',hzK,_⟩:=MC g2 hu1;exact h2 x' (cZ hx') ((key_eq (Iq hks z (cZ hu1)) hsK hzK hKv).2 hu2)};have hq:ents[q]? = some x0:=(by simpa using h2);have hrun:(execOp a.eval o).run P c.w=.ok .skip { c.w with heap:=c.w.heap.setIfInBounds (c.ρ j) (.map (ents.modify q λe=>{ e with key:=a.eval ix,val:=a.eval y }) clock) }:=(by unfold execOp;rw[ho];simp only[Instr.mapUpdate,Sem.run_bind,run_underlying hd,Result.andThen_ok,e1,jE g1,Sem.run_pure,b4M,h1,hq,iq,kM,h3,hko.law.stays c.w hlk,run_setObj_map g1]);have hmod:(ents.modify q λe=>{ e with key:=a.eval ix,val:=a.eval y }).toList=ents.toList.set q { x0 with key:=a.eval ix,val:=a.eval y }:=(by apply nV;intro n;rw[bJ,Array.getElem?_modify,kG];by_cases hn:q=n;{subst hn;have hlt:=(dG.1 hq).1;rw[aG rfl,aG rfl,aG (by simpa using hlt),hq];rfl};simp[hn]);rcases hu with⟨hu1,rfl⟩|⟨i,z,hu1,hu2,rfl⟩;{exfalso;obtain⟨z,hz,hzK,_⟩:=Vg g2 h2;exact hu1 z (cZ hz) ((key_eq (Iq hks z (cZ hz)) hsK hzK hKv).1 h3)};obtain⟨x',hx',hzK,_⟩:=MC g2 hu1;have hkk:x'.key=a.eval ix:=(key_eq (Iq hks z (cZ hu1)) hsK hzK hKv).2 hu2;have hij:i=q:=(by apply aU;intro hne;obtain⟨hi1,hi2⟩:=aY.1 hx';obtain⟨hj1,hj2⟩:=aY.1 h2;rcases Nat.lt_or_gt_of_ne hne with hlt|hlt;{have:=fP.1 g5 i q hi1 hj1 hlt;rw[hi2,hj2,hkk,h3]at this;exact this rfl};have:=fP.1 g5 q i hj1 hi1 hlt;rw[hi2,hj2,hkk,h3]at this;exact this rfl);subst hij;refine .inr (.inl ⟨_,_,hrun,Tr.writeMap hr hob g1 λle hnew=>⟨_,_,hnew,?_,a8b b67 g3,?_,?_⟩,hk⟩);{rw[hmod];exact a7N (Cb le hKv) (Cb le hVv) (Hl le g2)};{refine⟨λe he=>?_,?_⟩;{rw[hmod]at he;rcases kQ he with he|rfl;{exact g4.1 e he};exact g4.1 x0 (cZ h2)};have hmb:(ents.toList.set i { x0 with key:=a.eval ix,val:=a.eval y }).map (·.born)=ents.toList.map (·.born):=(by apply nV;intro n;rw[dP,kG];by_cases hn:i=n;{subst hn;obtain⟨hi1,hi2⟩:=aY.1 h2;rw[aG rfl,aG (by simpa using hi1),dO,h2];rfl};rw[aB hn]);rw[hmod,hmb];exact g4.2};rw[hmod];rw[fP]at g5 ⊢;intro m n hm hn hlt;have hm':m<ents.toList.length:=(by simpa using hm);have hn':n<ents.toList.length:=(by simpa using hn);have hk0:∀(r:Nat) (hr:r<(ents.toList.set i { x0 with key:=a.eval ix,val:=a.eval y }).length) (hr':r<ents.toList.length),((ents.toList.set i { x0 with key:=a.eval ix,val:=a.eval y })[r]).key=(ents.toList[r]).key:=(by intro r hr hr';rw[List.getElem_set];split;{rename_i hir;subst hir;have:=(aY.1 h2).2;rw[this];exact h3.symm};rfl);rw[hk0 m hm hm',hk0 n hn hn'];exact g5 m n hm' hn' hlt
 exact h.elim
end
end Go.AL
namespace Go.AL
def opB:Op->Bool
 | .move x | .assign x | .load _ x | .nilCheck x | .unOp _ _ x | .convert _ _ x | .makeInterface _ x | .box _ x | .extract x _ | .fieldAddr _ x _ | .field _ x _=>sU x
 | .pick a b d=>sU a&&sU b&&sU d
 | .store _ x y | .binOp _ _ x y _ | .makeSlice _ x y | .indexAddr _ x y | .index _ x y | .lookup _ x y _=>sU x&&sU y
 | .typeAssert x _ _ _=>sU x
 | .mapUpdate _ x y z | .insert _ x y z=>sU x&&sU y&&sU z
 | .build _ ps | .buildSlice _ _ ps=>ps.toList.all λp=>sU p.2
 | .makeFunc _ first cap=>first.toList.all sU&&cap.toList.all sU
 | .slice _ x lo hi _=>sU x&&lo.all sU&&hi.all sU
 | .call cl=>cl.args.toList.all sU&&(match cl.callee with | .value f=>sU f|_=>true)
 |_=>true
section
variable{P:Program}{L:Lay}{c:Cx}{H:Heap}{e:Env}{a:Act}{k:AV->Heap->Prop}{ks:Heap->Prop}{o:Oper}{F:FT}
theorem a3P(hL:uo P L){b:Builtin}{cl:Call}(hr:HR c H)(he:xR c e a)(hx:cl.args.toList.all sU=true)(ho:o.op=.call cl)(hc:cl.callee=.builtin b)
  (h:FI e cl.args.toList λAs=>xO L b cl.argTypes.toList As H k):uw P o a.eval c H k ks:=by
 have hh:=CV he hx h;clear h;obtain⟨As,h1,h⟩:=hh;unfold xO at h;generalize hat:cl.argTypes.toList=ats at h;split at h;{rename_i t r A;obtain⟨i,hT,h⟩:=Lay.rY hL h;obtain⟨v,hv,hA⟩:=NJ h1;exact b0F hr ho hc (by rw[<- bJ,hat];rfl) hT hv hA h};{rename_i t u r A B;obtain⟨v,x,hv,hA,hB⟩:=Kt h1;exact a5z hL hr ho hc hat hv hA hB h};{obtain⟨v,x,hv,hA,hB⟩:=Kt h1;exact b0E hr ho hc hv hA hB h};{obtain⟨v,x,hv,hA,hB⟩:=Kt h1;exact b0D hr ho hc hv hA hB h};exact h.elim
theorem GN(hL:uo P L)(hFn:FS P F)(hr:HR c H)(he:xR c e a)(hb:opB o.op=true)(h:xH F Ok L o.op e H k ks):uw P o a.eval c H k ks:=by
 cases ho:o.op with
 |move x=>rw[ho]at h hb;exact a5w hr he hb (.inl ho) h
 |assign x=>rw[ho]at h hb;exact a5w hr he hb (.inr ho) h
 |pick x y z =>rw[ho]at h hb;simp only[opB,aN]at hb;exact b1K hr he hb.1.1 hb.1.2 hb.2 ho h
 |alloc t=>rw[ho]at h hb;exact a8K hL hr ho h
 |box t x=>rw[ho]at h hb;exact b4p hL hr he hb ho h
 |build t ps =>rw[ho]at h hb;exact a8J hL hr he (λp hp=>bF.1 hb p hp) ho h
 |buildSlice t n ps =>rw[ho]at h hb;exact YG hL hr he (λp hp=>bF.1 hb p hp) ho h
 |load t x=>rw[ho]at h hb;exact b1M hL hr he hb ho h
 |store t x y =>rw[ho]at h hb;simp only[opB,aN]at hb;exact a8E hL hr he hb.1 hb.2 ho h
 |nilCheck x=>rw[ho]at h hb;exact a05 hr he hb ho h
 | binOp op t x y ty =>
   rw[ho]at h hb;simp only[opB,aN]at hb;cases hn:F5 (.binOp op t x y ty)with
   |true=>simp only[xH,hn]at h;exact a5v hL hr he hb.1 ho hn h
   |false=>simp only[xH,hn]at h;exact b4q hL hr he hb.1 hb.2 ho h
 |typeAssert x xt s ok=>rw[ho]at h hb;exact YE hL hr he hb ho h
 | makeMap t r =>
   rw[ho]at h;cases r with
   |none=>exact a3L hL hr ho h
   |some x=>exact h.elim
 |lookup t x y ok =>rw[ho]at h hb;simp only[opB,aN]at hb;exact a5x hL hr he hb.1 hb.2 ho h
 |mapUpdate t x y z =>rw[ho]at h hb;simp only[opB,aN]at hb;exact P7 hL hr he hb.1.1 hb.1.2 hb.2 ho h
 |unOp op t x=>rw[ho]at h hb;exact b1J hr he hb ho h
 |convert s d x=>rw[ho]at h hb;exact a3N hL hr he hb ho h
 |makeInterface t x=>rw[ho]at h hb;exact RF hL hr he hb ho h
 |makeFunc f first cap=>rw[ho]at h hb;simp only[opB,aN]at hb;exact a06 hr he hb.2 ho h
 |makeSlice t x y =>rw[ho]at h hb;simp only[opB,aN]at hb;exact a0a hL hr he hb.1 hb.2 ho h
 | slice t x lo hi mx =>
   rw[ho]at h hb;simp only[opB,aN]at hb;cases mx with
   |none=>exact a8F hL hr he hb.1.1 hb.1.2 hb.2 ho h
   |some y=>exact h.elim
 |fieldAddr t x f=>rw[ho]at h hb;exact a0c hL hr he hb ho h
 |indexAddr t x y =>rw[ho]at h hb;simp only[opB,aN]at hb;exact a0b hL hr he hb.1 hb.2 ho h
 |index t x y =>rw[ho]at h hb;simp only[opB,aN]at hb;exact a8G hL hr he hb.1 hb.2 ho h
 |extract x i=>rw[ho]at h hb;exact a3M hr he hb ho h
 | call cl =>
   rw[ho]at h hb;simp only[opB,aN]at hb;cases hc:cl.callee with
   |value f =>simp only[xH,hc]at h hb;exact YF hFn hr he hb.2 hb.1 ho hc h
   |builtin b =>simp only[xH,hc]at h;exact a3P hL hr he hb.1 ho hc h
   |invoke r m=>simp only[xH,hc]at h
 |_=>rw[ho]at h;exact h.elim
theorem a1P:∀{l:List (AV×AV)} {es:List MapEntry},Py c l es->es.length=l.length
 | [],_,h=>by simp only[Py]at h;subst h;rfl
 |(x,y)::l,es,h=>by obtain⟨e,r,rfl,_,_,h4⟩:=h;simp[a1P h4]
theorem a8I(hL:uo P L){cl:Call}{t:Nat}{r:List Nat}{v:Value}{A:AV}(hr:HR c H)(ho:o.op=.call cl)(hc:cl.callee=.builtin .clear)(hat:cl.argTypes.toList=t::r)(hv:cl.args.toList.map a.eval=[v])
  (h:L.sO t λi=>(match i.desc,A with
   | .slice el,.ms j off len _ 1=>L.sO el λei=>Zu (!uz ei.zero) <| yh H j λo=>(match o with
     | .arr 1 cp l=>(0<len/\off+len<=l.length)/\GX H j (.arr 1 cp (l.take off++List.replicate len ei.zero++l.drop (off+len))) λH'=>k (.uf []) H'
     |_=>False)
   |_,_=>False)) (hA:EV c A v):uw P o a.eval c H k ks:=by
 obtain⟨i,hT,h⟩:=Lay.rY hL h;split at h
 ·rename_i el j off len cap hd _;obtain⟨d,hu,hdd⟩:=hT.under;obtain rfl:=sJ (hdd.trans hd);obtain⟨ei,hE,h⟩:=Lay.rY hL h;obtain⟨hfl,h⟩:=H7.1 h;obtain⟨ob,hob,h⟩:=uh.1 h;split at h
  ·rename_i cp l;obtain⟨⟨h0,hlen⟩,h⟩:=h;obtain⟨_,h⟩:=yx.1 h;obtain⟨cs,ty,g1,g2,g3,g4,g5,g6⟩:=hr.EL hob;obtain⟨z,z1,z2,z3⟩:=hE.KQ c.w;obtain⟨hj,rfl,_,_⟩:=Oo hA;have hzc:z.cells = #[z]:=z2.2 (by simpa using hfl);have hz1:z.oneCell'=true:=Eu _ _ (yL (c:=c) _ _ (z3 c.w c.Im)) z (by rw[hzc];simp);have hzs:(Builtin.zeroCells z.cells len).toList=List.replicate len z:=by rw[hzc];simp[Builtin.zeroCells];apply lN;{simp};intro i h1 h2;simp[Nat.mod_one]
   rw[iP]at *;have hst:=run_storeCells_at (P:=P) (c.ρ j) off ty (List.replicate len z) 0 cs.toArray c.w g1 aA (λv hv=>by rw[List.eq_of_mem_replicate hv];exact hz1);simp only[dU,jD]at hst;refine .inl ⟨.tuple #[],{ c with w:=c.w.setRow (c.ρ j) (cs.take off++List.replicate len z++cs.drop (off+len)).toArray },.uf [],_,?_,?_,?_,h⟩;{rw[xZ ho hc,x9 hv];obtain⟨m,rfl⟩:∃m,len=m+1:=⟨len-1,aj⟩;simp only[builtin,Builtin.clear_,hat,<- bJ,dZ,Sem.run_bind,run_underlying hu,Result.andThen_ok,z1,hzs,hst,Sem.run_pure]};{refine Tr.write hr hob g1 (λ_=>rfl) (λ_=>rfl) g6 (by intros;simp) (by intros;simp) ?_;have le:c.Le { c with w:=c.w.setRow (c.ρ j) (cs.take off++List.replicate len z++cs.drop (off+len)).toArray }:=(by refine⟨λb x h=>⟨h,wW (setRow_other c.w _ b _ (λe=>g6 x (e ▸ h)))⟩,aS _,λ_ _=>rfl,λ_ _ _ h=>.inl ⟨h,rfl⟩⟩);refine⟨_,ty,setRow_heap c.w _ _ _ _ _ g1,?_,?_,g4,Fp le ?_,g6⟩;{simp;omega};{simp;omega};refine NI (NI (Yj off g5) aA (a1R (by have:=z3 c.w c.Im;rw[hzc]at this;simpa using this) len)) aA (Ym _ g5)};exact⟨#[],rfl,rfl⟩
  exact h.elim
 exact h.elim
theorem b4o{cl:Call}{t el:Nat}{i:TI}(hr:HR c H)(ho:o.op=.call cl)(hc:cl.callee=.builtin .cap)(hat:cl.argTypes[0]? = some t)(hT:Gj P t i)
  {v:Value} (hv:cl.args.toList.map a.eval=[v]) (hA:EV c .qW v) (hi:i.desc=.slice el) (h:k (.int .i64 0) H):uw P o a.eval c H k ks:=by
 obtain⟨d,hd,hdd⟩:=hT.under;obtain rfl:=sJ (hdd.trans hi);obtain rfl:=DV hA;refine .pure hr (v:=.int .i64 0) ?_ (rZ (uG (Ic (n:=0) (by simp[maxL])))) h;rw[xZ ho hc,x9 hv];simp only[builtin,Builtin.cap_,hat,fA,dZ,Sem.run_bind,run_underlying hd,Result.andThen_ok,Sem.run_pure,goInt];rfl
theorem a3Q(hL:uo P L){cl:Call}{t u:Nat}{r:List Nat}{A B:AV}(hr:HR c H)(ho:o.op=.call cl)(hc:cl.callee=.builtin .append)(hat:cl.argTypes.toList=t::u::r)
  {v x:Value} (hv:cl.args.toList.map a.eval=[v,x]) (hA:EV c A v) (hB:EV c B x) {kn:IntKind} (hu:P.underlying u=some (.int kn)) (h:Yb L t A B H k):uw P o a.eval c H k ks:=by
 unfold Yb at h;have hh:=Lay.rY hL h;clear h;obtain⟨i,hT,h⟩:=hh;obtain⟨dt,ht,hdt⟩:=hT.under;split at h;case h_2=>exact h.elim
 rename_i el hi;obtain rfl:=sJ (hdt.trans hi);have hh:=Lay.rY hL h;clear h;obtain⟨ei,hE,h⟩:=hh;have hh:=H7.1 h;clear h;obtain⟨hfl,h⟩:=hh;split at h;case h_2=>exact h.elim
 rename_i kd n;obtain⟨⟨h0,h1,h2⟩,h⟩:=h;obtain rfl:=DV hA;obtain⟨rfl,_⟩:=Af hB;obtain⟨info,z,g1,g2,g3,g4,g5,g6⟩:=hE.info;have hf1:flat ei.zero=1:=by cases hz:ei.zero <;> simp[hz,uz]at hfl <;> simp[flat]
 obtain⟨m,rfl⟩:∃m:Nat,n=m:=⟨n.toNat,aj⟩;have hzc:z.cells = #[z]:=g5.2 (by simpa using hfl);have hrun:∀ty,(Builtin.append_ #[t,u] ty #[.slice none 0 0,.int kd m]).run P c.w=_:=λty =>
  Go.Lib.run_append_nil_zeros c.w t u ty el info z kd kn ht hu g1 g4 m aj aj aj (by
   rw[g3];have h3:((m*ei.bytes:Nat):Int)<=140737488355328:=(by rw[lU];exact h2);omega)
 have hge:=grownCap_ge c.w m 0 el;have hle:=grownCap_le_maxLen c.w m 0 el (by unfold maxLen;omega);have hle':grownCap c.w m 0 el<=maxL:=(by simpa[maxL,maxLen]using hle);have NZ:∀r w',(Builtin.append_ #[t,u] o.type #[.slice none 0 0,.int kd m]).run P c.w=.ok r w'->(execOp a.eval o).run P c.w=.ok (.value r) w':=by
  intro rr w' hrr;rw[xZ ho hc,x9 hv];have e2:(Builtin.append_ cl.argTypes o.type #[.slice none 0 0,.int kd m]).run P c.w=(Builtin.append_ #[t,u] o.type #[.slice none 0 0,.int kd m]).run P c.w:=by have e0:cl.argTypes[0]? = some t:=(by rw[<- bJ,hat];rfl);have e1:cl.argTypes[1]? = some u:=(by rw[<- bJ,hat];rfl);unfold Builtin.append_;simp only[e0,e1];rfl
  simp only[builtin,Sem.run_bind,e2,hrr,Result.andThen_ok,Sem.run_pure]
 have hrun:=hrun o.type;generalize hcp:grownCap c.w m 0 el=cap' at hge hle' hrun;rw[aJ]at h;let cs:=Builtin.zeroCells z.cells m++Builtin.zeroCells z.cells (cap'-m);have hz0:∀n,(Builtin.zeroCells z.cells n).toList=List.replicate n z:=(by intro n;rw[hzc];simp[Builtin.zeroCells];apply lN;{simp};intro i h1 h2;simp[Nat.mod_one]);have hcs:cs.toList=List.replicate m z++List.replicate (cap'-m) z:=(by simp only[cs,Array.toList_append,hz0]);have htd:=Tr.drew hr;let d0:Cx:={ c with w:=c.w.drew };have hr0:HR d0 H:=htd.hr;have htr:Tr c H (d0.push (.cells cs el) ((nextId H,.arr 1 cap' (List.replicate m ei.zero))::H)) ((nextId H,.arr 1 cap' (List.replicate m ei.zero))::H):=(by refine htd.trans (Tr.push hr0 _ _ (λ_=>rfl) ?_);refine⟨cs.toList,el,?_,?_,by simp;exact hge,hle',?_,?_⟩;{rw[EKρ hr0];simp only[Cx.push,jf];exact alloc_heap_new _ _};{rw[hcs];simp;omega};{rw[hcs];have:=a1R (c:=d0.push (.cells cs el) ((nextId H,.arr 1 cap' (List.replicate m ei.zero))::H)) (z:=ei.zero) (y:=z) (by have:=g6 (d0.push (.cells cs el) ((nextId H,.arr 1 cap' (List.replicate m ei.zero))::H)).w (d0.push (.cells cs el) ((nextId H,.arr 1 cap' (List.replicate m ei.zero))::H)).Im;rw[hzc]at this;simpa using this) m;have h9:=NI (m:=[]) (ds:=List.replicate (cap'-m) z) this ak trivial;simpa using h9};intro y hy;rw[EKρ hr0]at hy;have:=hr0.im _ _ hy;omega);refine .inl ⟨_,_,_,_,NZ _ _ hrun,htr,rZ (vw rfl rfl ?_),h cap' hge hle'⟩;simp only[VR];rw[EKρ hr0];exact⟨by simp only[Cx.push,hr0.nx];omega,by simp[d0],hge,hle'⟩
theorem a1M{u:Nat}{X Y:Prop}(hat:L.sO u λi=>(match i.desc with | .slice _=>X | .str=>X | .int _=>Y|_=>False))(hL:uo P L) :
  ((∃d,P.underlying u=some d/\((∃e,d=.slice e)\/d=.string))/\X)\/(∃kn,P.underlying u=some (.int kn))/\Y:=by
 obtain⟨i,hT,h⟩:=Lay.rY hL hat;obtain⟨d,hd,hdd⟩:=hT.under;cases hi:i.desc <;> simp only[hi]at h <;> first|exact h.elim|skip
 ·exact .inr ⟨⟨_,by rw[hd,Xw (hdd.trans hi)]⟩,h⟩
 ·exact .inl ⟨⟨d,hd,.inr (Eo (hdd.trans hi))⟩,h⟩
 exact .inl ⟨⟨d,hd,.inl ⟨_,sJ (hdd.trans hi)⟩⟩,h⟩
theorem a08(hL:uo P L){b:Builtin}{cl:Call}(hr:HR c H)(he:xR c e a)(hx:cl.args.toList.all sU=true)(ho:o.op=.call cl)(hc:cl.callee=.builtin b)
  (h:FI e cl.args.toList λAs=>SQ L b cl.argTypes.toList As H k):uw P o a.eval c H k ks:=by
 have hh:=CV he hx h;clear h;obtain⟨As,h1,h⟩:=hh;unfold SQ at h;generalize hat:cl.argTypes.toList=ats at h;split at h
 ·rename_i t r A;have hh:=Lay.rY hL h;clear h;obtain⟨i,hT,h⟩:=hh;obtain⟨v,hv,hA⟩:=NJ h1;split at h
  ·rename_i p q j hd;obtain⟨ob,hob,h⟩:=uh.1 h;split at h
   ·rename_i sh es;obtain⟨d,hu,hdd⟩:=hT.under;obtain rfl:=JR (hdd.trans hd);obtain⟨hj,rfl⟩:=b5u hA;obtain⟨ents,clock,g1,g2,g3,g4⟩:=hr.EL hob;have hlen:ents.size=es.length:=by rw[<- bM];exact a1P g2
    refine .pure hr (v:=.int .i64 es.length) ?_ (rZ (uG (Ic h.1))) h.2;rw[xZ ho hc,x9 hv];simp only[builtin,Builtin.len_,hat,<- bJ,dZ,Sem.run_bind,run_underlying hu,Result.andThen_ok,jE g1,Sem.run_pure,goInt,hlen]
   exact h.elim
  ·rename_i el j n hd;obtain⟨ob,hob,h⟩:=uh.1 h;split at h;{rename_i sz l;obtain⟨rfl,h⟩:=h;obtain⟨d,hu,hdd⟩:=hT.under;obtain rfl:=sJ (hdd.trans hd);obtain⟨rfl,_,g1,g2⟩:=Jf hr hob hA;refine .pure hr (v:=.int .i64 l.length) ?_ (rZ (uG (Ic (dH g1 g2)))) h;rw[xZ ho hc,x9 hv];simp only[builtin,Builtin.len_,hat,<- bJ,dZ,Sem.run_bind,run_underlying hu,Result.andThen_ok,Sem.run_pure,goInt]};exact h.elim
  exact b0F hr ho hc (by rw[<- bJ,hat];rfl) hT hv hA h
 ·rename_i t u r A B;obtain⟨v,x,hv,hA,hB⟩:=Kt h1;rcases a1M h hL with hh|⟨⟨kn,hu⟩,hh⟩;{exact a3R hL hr ho hc hat hv hA hB hh};exact a3Q hL hr ho hc hat hv hA hB hu hh
 ·rename_i t r A;have hh:=Lay.rY hL h;clear h;obtain⟨i,hT,h⟩:=hh;obtain⟨v,hv,hA⟩:=NJ h1;split at h;{rename_i hd;exact b4o hr ho hc (by rw[<- bJ,hat];rfl) hT hv hA hd h};exact h.elim
 ·obtain⟨v,x,hv,hA,hB⟩:=Kt h1;exact b0E hr ho hc hv hA hB h
 ·obtain⟨v,x,hv,hA,hB⟩:=Kt h1;exact b0D hr ho hc hv hA hB h
 ·rename_i A B C;obtain⟨v,r,hv,hA,h1⟩:=h1;obtain⟨u,x,rfl,hB,hC⟩:=Kt h1;exact b1L hr ho hc hv hA hB hC h
 ·rename_i t r A;obtain⟨v,hv,hA⟩:=NJ h1;exact a8I hL hr ho hc hat hv h hA
 exact h.elim
theorem a3O{F:FT}(hFn:FS P F){f:Operand}{cl:Call}{g j:Nat}{As:List AV}(hr:HR c H)(ho:o.op=.call cl)(hc:cl.callee=.value f)
  (hA:EV c (.bm g j) (a.eval f)) (h2:Ot c As (cl.args.toList.map a.eval)) (h3:Ir F Ok g (.ptr j [] 0::As) H k):uw P o a.eval c H k ks:=by
 obtain⟨hj,e1⟩:=b6G hA;have hp:EV c (.ptr j [] 0) (.pointer (some ⟨c.ρ j,0,none⟩)):=rZ (vw rfl rfl (by simp only[VR];exact⟨hj,trivial⟩));have h1:Ot c (.ptr j [] 0::As) (.pointer (some ⟨c.ρ j,0,none⟩)::cl.args.toList.map a.eval):=⟨_,_,rfl,hp,h2⟩
 have key:∃ R H',(∃ fn,P.funcs[g]? = some fn/\(fn.name== "runtime.NumGoroutine")=false/\fn.body.isSome=true) /\
   (Calls P g (.pointer (some ⟨c.ρ j,0,none⟩)::cl.args.toList.map a.eval).toArray c.w λe w'=>∃v d,e=.returned v/\d.w=w'/\Tr c H d H'/\EV d R v)/\k R H':=by
  have fin:∀{R H'},(Calls P g (.pointer (some ⟨c.ρ j,0,none⟩)::cl.args.toList.map a.eval).toArray c.w λe w'=>∃v d,e=.returned v/\d.w=w'/\Tr c H d H'/\EV d R v)->Ok R:=(by intro R H' hcall;obtain⟨e',w',fr,⟨v,d,_,_,_,h8⟩,_⟩:=hcall [];exact MH h8);cases h3 with
  |gen R H' hF hk =>have hF:=hFn.h _ _ _ _ _ hF;have hcall:=hF.2 c _ hr h1;exact⟨R,H',hF.1,hcall,hk (fin hcall)⟩
  |pure Bs R hle hb hF hk =>have hF:=hFn.h _ _ _ _ _ hF;have hcall:=qX.pure hF hb.1 hb.2 hr (Ie hle h1);exact⟨R,H,hF.1,hcall,hk (fin hcall)⟩
 obtain⟨R,H',⟨fn,f1,f2,f3⟩,hcall,hk⟩:=key;refine .inr (.inr ⟨g,_,?_,hcall.mono λ_ _ ⟨v,d,h1,h2,h3,h4⟩=>⟨v,d,R,H',h1,h2,h3,h4,hk⟩⟩);unfold execOp;rw[ho];simp only[resolve,hc,e1,Deferred.ofValue,Sem.run_bind,Sem.run_pure,Result.andThen_ok,invoke,callFunc,run_program,f1,f2,dN,if_false];have:fn.body.isNone=false:=by cases hb:fn.body <;> simp[hb]at f3 ⊢
 simp only[this,dN,if_false,Sem.run_pure];congr 2;simp
theorem a5y{t:Nat}{x ix y:Operand}(ho:o.op=.insert t x ix y)(h:uw P { o with op:=.mapUpdate t x ix y } a.eval c H k ks):uw P o a.eval c H k ks:=by have e:execOp a.eval { o with op:=.mapUpdate t x ix y }=execOp a.eval o:=(by unfold execOp;rw[ho]);unfold uw at h ⊢;rw[e]at h;exact h
theorem a8H(hL:uo P L){t f:Nat}{x:Operand}{A:AV}(hr:HR c H)(ho:o.op=.field t x f)(hA:EV c A (a.eval x))
  (h:a1N L t A f λR=>k R H):uw P o a.eval c H k ks:=by
 unfold a1N at h;obtain⟨i,hT,h⟩:=Lay.rY hL h;split at h
 ·rename_i fs zs l hd hz _;obtain⟨z,hf,h⟩:=zQ.1 h;obtain⟨gs,fd,h1,h2,h3,h4⟩:=hT.field ⟨_,hd⟩ hz hf;obtain⟨g,hg,h⟩:=zQ.1 h;obtain⟨j,hJ,h⟩:=Lay.rY hL h;split at h
  ·rename_i hj;obtain⟨hfl,h⟩:=sV.1 h;obtain⟨y,hy,h⟩:=zQ.1 h;split at h
   ·rename_i hny;obtain⟨d,d1,d2⟩:=hT.under;obtain⟨gs',rfl,hfs⟩:=IG (d2.trans hd);rw[h1]at d1;have d1:=aW d1;have hgs:gs'=gs:=by injection d1 with d1;exact d1.symm
    subst hgs;have e1:g.2.2=fd.type:=by rw[hfs,dO,bJ,h2]at hg;have:=aW hg;rw[<- this]
    rw[e1]at hJ;have hA:VV c (.ag l) (a.eval x):=hA;obtain⟨cs,hcs⟩:=hA.1.1 rfl;have hV:=hA.2;rw[hcs]at hV;simp only[VR]at hV;obtain⟨pre,xs,post,e2,e3,e4,_⟩:=Jr hV hy;obtain⟨u,rfl,_⟩:=Aq e4 hny;have hu:cs[fd.offset]? = some u:=(by have e2:cs.toList=pre++[u]++post:=e2;rw[<- bJ,e2,h3,<- hfl,<- e3,bP,dJ (aS _),gV];rfl);refine .pure hr (v:=u) ?_ (rZ (Gi e4 hny)) h;unfold execOp;rw[ho];simp only[Instr.field,hcs,Sem.run_bind,run_underlying h1,Result.andThen_ok,h2,asAgg,part,hJ.Zi,hj,Sem.run_pure,dN,if_false,hu]
   exact h.elim
  exact h.elim
 exact h.elim
theorem a5u(hL:uo P L)(hFn:FS P F)(hr:HR c H)(he:xR c e a)(hb:opB o.op=true)(h:O6 F Ok L o.op e H k ks):uw P o a.eval c H k ks:=by
 unfold O6 at h;split at h;{rename_i cl hop;split at h;{rename_i b hc;rw[hop]at hb;simp only[opB,aN]at hb;exact a08 hL hr he hb.1 hop hc h};{rename_i f hc;have hb':=hb;rw[hop]at hb';simp only[opB,hc,aN]at hb';obtain⟨A,hA,h⟩:=rH he hb'.2 h;split at h;{rename_i g j;obtain⟨As,h1,h⟩:=CV he hb'.1 h;exact a3O hFn hr hop hc hA h1 h};{exact a07 hFn hr he hb'.1 hop hc hA h};exact GN hL hFn hr he hb (by rw[hop];exact h)};exact GN hL hFn hr he hb (by rw[hop];exact h)}
 ·rename_i f first cap hop
  split at h
  ·rename_i x hf;have hb':=hb;rw[hop]at hb';simp only[opB,hf,aN]at hb';split at h
   ·rename_i g hcap;obtain⟨A,hA,h⟩:=rH he (by simpa using hb'.1) h;split at h
    ·rename_i j;obtain⟨hj,e1⟩:=Po hA;obtain rfl:first = #[x]:=by cases first;simp at hf;subst hf;rfl
     obtain rfl:cap = #[]:=by cases cap;simp at hcap;subst hcap;rfl
     refine .pure hr (v:=.func (.func g) #[.pointer (some ⟨c.ρ j,0,none⟩)] #[]) ?_ (rZ (vw rfl rfl ?_)) h;{unfold execOp;rw[hop];simp[Instr.makeFunc,e1]};simp only[VR];exact⟨hj,trivial⟩
    exact h.elim
   exact h.elim
  exact GN hL hFn hr he hb (by rw[hop];exact h)
 ·rename_i t x ix y hop;rw[hop]at hb;simp only[opB,aN]at hb;have:=P7 (o:={ o with op:=.mapUpdate t x ix y }) (P:=P) (k:=k) (ks:=ks) hL hr he hb.1.1 hb.1.2 hb.2 rfl h;exact a5y hop this
 ·rename_i t x f hop;rw[hop]at hb;obtain⟨A,hA,h⟩:=rH he hb h;exact a8H hL hr hop hA h
 ·rename_i t x y ty hop;split at h;{exact GN hL hFn hr he hb (by rw[hop];exact h)};rw[hop]at hb;simp only[opB,aN]at hb;obtain⟨A,hA,h⟩:=rH he hb.1 h;obtain⟨B,hB,h⟩:=rH he hb.2 h;have hx:∃m n,A=.int .i64 m/\B=.int .i64 n/\k (.int .i64 (IntKind.i64.wrap (m+n))) H:=by split at h;{exact⟨_,_,rfl,rfl,h⟩};exact h.elim
  obtain⟨m,n,rfl,rfl,h⟩:=hx;obtain⟨e1,r1⟩:=Af hA;obtain⟨e2,_⟩:=Af hB;refine .pure hr (v:=.int .i64 (IntKind.i64.wrap (m+n))) (Ac hop ?_ (by rw[e1,e2];simp[binOp,Op.intArith])) (rZ (uG (EG _ _))) h;rw[e1,e2];exact yR (by rintro⟨_,_,h,_⟩;cases h) (by intro h;cases h)
 exact GN hL hFn hr he hb h
theorem getD_set_ne{xs:Array Value}{i j:Nat}{v d:Value}(h:i≠j):(xs.setIfInBounds i v).getD j d=xs.getD j d:=by rw[dI,dI,iU h]
theorem TT{xs:Array Value}{i:Nat}{v d:Value}(h:i<xs.size):(xs.setIfInBounds i v).getD i d=v:=by rw[dI,iZ h];rfl
structure BR(n:Nat)(c:Cx)(e:Env)(a:Act):Prop where
 env:xR c e a
 defers:a.defers=[]
 size:a.tmps.size=n
theorem BR.put{n:Nat}{e:Env}{d:Nat}{A:AV}{v:Value}(h:BR n c e a)(hd:d<n)(hv:EV c A v):BR n c ((d,A)::e) (a.put (some d) v):=by
 refine⟨λt B hB=>?_,h.defers,by simp[Act.put,h.size]⟩;simp only[uY]at hB;simp only[Act.put];cases hb:Nat.beq d t with
 |true =>rw[hb]at hB;obtain rfl:=aK hb;obtain rfl:=aW hB;rw[TT (by rw[h.size];exact hd)];exact hv
 |false =>rw[hb]at hB;rw[getD_set_ne (xw hb)];exact h.env _ _ hB
theorem BR.mono{n:Nat}{d:Cx}(h:BR n c e a)(le:c.Le d):BR n d e a:=⟨λt A hA=>Cc le (h.env t A hA),h.defers,h.size⟩
def Fr(ws:List Nat)(a a':Act):Prop:=∀t,t ∉ ws->a'.tmps.getD t undef=a.tmps.getD t undef
theorem Fr.refl(ws:List Nat)(a:Act):Fr ws a a:=λ_ _=>rfl
theorem Fr.trans{ws ws':List Nat}{a b d:Act}(h:Fr ws a b)(g:Fr ws' b d):Fr (ws++ws') a d:=by intro t ht;simp only[dM,not_or]at ht;rw[g t ht.2,h t ht.1]
theorem Fr.mono{ws ws':List Nat}{a b:Act}(h:Fr ws a b)(hs:∀t∈ws,t∈ws'):Fr ws' a b:=λt ht=>h t (λh'=>ht (hs t h'))
theorem Fr.put{d:Nat}{v:Value}:Fr [d] a (a.put (some d) v):=by intro t ht;simp at ht;simp only[Act.put];exact getD_set_ne (λe=>ht e.symm)
def GL(n:Nat)(o:Oper):Bool:=opB o.op&&(match o.dst with|some d=>Nat.blt d n|none=>true)
theorem Vz{b:Bool}:undef≠.bool b:=by simp[undef]
theorem a8o{d:Nat}{b:Bool}(h:a.tmps.getD d undef=.bool b):a.tmps[d]? = some (.bool b):=by
 rw[dI]at h;cases hx:a.tmps[d]? with
 |none=>rw[hx]at h;exact absurd h Vz
 |some v=>rw[hx]at h;simp at h;rw[h]
theorem Xj{k:Nat->Prop}:∀{l:List Oper} {j:Nat},b5M l j k->∃o d,l[j]? = some o/\o.dst=some d/\k d
 | [],_,h=>h.elim
 | o::l,0,h=>by
   simp only[b5M]at h;cases hd:o.dst with
   |none=>simp[hd]at h
   |some d=>simp only[hd]at h;exact⟨o,d,rfl,hd,h⟩
 |o::l,j+1,h=>by simpa using Xj (l:=l) h
theorem Td{ops:Array Oper}{j d:Nat}{b x:Bool}{oj:Oper}(hg:o.guard=some (j,b))(hj:ops[j]? = some oj)(hd:oj.dst=some d)(hv:a.tmps.getD d undef=.bool x) :
  Region.wanted o (yielded ops a.tmps)=(x==b):=by
 unfold Region.wanted yielded;simp[hg,hj,hd,a8o hv]
theorem Tf{ops:Array Oper}(hg:o.guard=none):Region.wanted o (yielded ops a.tmps)=true:=by unfold Region.wanted;rw[hg]
theorem Pz{ops:Array Oper}{j d:Nat}{b:Bool}{oj:Oper}(hg:o.guard=some (j,b))(hj:ops[j]? = some oj)(hd:oj.dst=some d)(hv:a.tmps.getD d undef=undef) :
  Region.wanted o (yielded ops a.tmps)=false:=by
 unfold Region.wanted yielded;rw[dI]at hv;cases hx:a.tmps[d]? with
 |none=>simp[hg,hj,hd,hx]
 |some v =>rw[hx]at hv;simp only[kM]at hv;subst hv;simp[hg,hj,hd,hx,undef]
theorem a8d{c:Cx}{v:Value}(h:EV c (.uf []) v):v=undef:=by
 obtain⟨vs,rfl,h2⟩:=h;simp only[VA]at h2;have:vs = #[]:=by cases vs;simp_all
 subst this;rfl
theorem PL{c:Cx}:EV c (.uf []) undef:=⟨#[],rfl,by simp only[VA]⟩
theorem Qh{n:Nat}{ops:Array Oper}{yes no:Env->Prop}(ha:BR n c e a)(h:zV ops.toList o.guard e yes no) :
  ∃e',BR n c e' a/\((Region.wanted o (yielded ops a.tmps)=true/\yes e')\/(Region.wanted o (yielded ops a.tmps)=false/\no e')):=by
 cases hg:o.guard with
 |none=>rw[hg]at h;exact⟨e,ha,.inl ⟨Tf hg,h⟩⟩
 | some g =>
   obtain⟨j,b⟩:=g;rw[hg]at h;obtain⟨oj,d,h1,h2,h3⟩:=Xj h;obtain⟨A,h4,h5⟩:=yB.1 h3;have hA:=ha.env d A h4;have h1':ops[j]? = some oj:=(by rw[<- bJ];exact h1);have wnt:∀x,a.tmps.getD d undef=.bool x->Region.wanted o (yielded ops a.tmps)=(x==b):=λx hx=>Td hg h1' h2 hx;have ext:∀(A':AV),EV c A' (a.tmps.getD d undef)->BR n c ((d,A')::e) a:=by
    intro A' hA';refine⟨λt B hB=>?_,ha.defers,ha.size⟩;simp only[uY]at hB;cases hb:Nat.beq d t with
    |true =>rw[hb]at hB;obtain rfl:=aK hb;obtain rfl:=aW hB;exact hA'
    |false=>rw[hb]at hB;exact ha.env _ _ hB
   have tt:∀{v:Value},v=.bool true->EV c .tt v:=(by rintro v rfl;exact rZ (vw rfl rfl (by simp only[VR,Rd])));have ff:∀{v:Value},v=.bool false->EV c .ff v:=(by rintro v rfl;exact rZ (vw rfl rfl (by simp only[VR,Rd])));split at h5;{exact⟨e,ha,.inl ⟨by rw[wnt true (Mc hA)];rfl,h5⟩⟩};{exact⟨e,ha,.inr ⟨by rw[wnt true (Mc hA)];rfl,h5⟩⟩};{exact⟨e,ha,.inr ⟨by rw[wnt false (Me hA)];rfl,h5⟩⟩};{exact⟨e,ha,.inl ⟨by rw[wnt false (Me hA)];rfl,h5⟩⟩}
   ·rename_i x;have hx:=yE hA;cases x with
    |true=>exact⟨_,ext .tt (tt hx),.inl ⟨by rw[wnt true hx];rfl,h5.1 rfl⟩⟩
    |false=>exact⟨_,ext .ff (ff hx),.inr ⟨by rw[wnt false hx];rfl,h5.2 rfl⟩⟩
   ·rename_i x;have hx:=yE hA;cases x with
    |true=>exact⟨_,ext .tt (tt hx),.inr ⟨by rw[wnt true hx];rfl,h5.1 rfl⟩⟩
    |false=>exact⟨_,ext .ff (ff hx),.inl ⟨by rw[wnt false hx];rfl,h5.2 rfl⟩⟩
   ·rename_i p;obtain⟨x,hx,hp⟩:=CW hA;cases x with
    |true=>exact⟨_,ext .tt (tt hx),.inl ⟨by rw[wnt true hx];rfl,h5.1 (hp.1 rfl)⟩⟩
    |false=>exact⟨_,ext .ff (ff hx),.inr ⟨by rw[wnt false hx];rfl,h5.2 (λh=>by have:=hp.2 h;cases this)⟩⟩
   ·rename_i p;obtain⟨x,hx,hp⟩:=CW hA;cases x with
    |true=>exact⟨_,ext .tt (tt hx),.inr ⟨by rw[wnt true hx];rfl,h5.1 (hp.1 rfl)⟩⟩
    |false=>exact⟨_,ext .ff (ff hx),.inl ⟨by rw[wnt false hx];rfl,h5.2 (λh=>by have:=hp.2 h;cases this)⟩⟩
   ·exact⟨e,ha,.inr ⟨Pz hg h1' h2 (a8d hA),h5⟩⟩
   exact h5.elim
theorem G9(hL:uo P L)(hFn:FS P F){n:Nat}{ops:Array Oper}{Q:Exit->Act->World->Prop}{k:Env->Heap->Prop} :
  ∀ {l:List Oper} {e:Env} {H:Heap} {c:Cx} {a:Act},l.all (GL n)=true->HR c H->BR n c e a->Hu F Ok L ops.toList l e H k ->
    (∀e' H' c' a',k e' H'->Tr c H c' H'->BR n c' e' a'->Fr (rX l) a a'->Q .normal a' c'.w)->wpList P ops Q l a c.w
 | [],e,H,c,a,_,hr,ha,h,hq=>hq e H c a h (.refl hr) ha (Fr.refl _ _)
 | o::l,e,H,c,a,hl,hr,ha,h,hq=>by
   simp only[nS,aN,GL]at hl;obtain⟨⟨hb,hdst⟩,hl⟩:=hl;have ih:=@G9 hL hFn n ops Q k l;have hlt:∀d,o.dst=some d->d<n:=λd hd=>by rw[hd]at hdst;exact bI hdst
   have cont:∀(v:Value) (A:AV) (c':Cx) (H':Heap) (e1:Env),Tr c H c' H'->BR n c' e1 a->EV c' A v->Cm o.dst A e1 (λe'=>Hu F Ok L ops.toList l e' H' k)->wpList P ops Q l (a.put o.dst v) c'.w:=by
    intro v A c' H' e1 htr ha' hv hk;cases hd:o.dst with
    |none =>rw[hd]at hk;refine ih hl htr.hr ha' hk λe' QZ c'' a' g1 g2 g3 g4=>hq e' QZ c'' a' g1 (htr.trans g2) g3 ?_;simp only[rX,hd];exact g4
    |some d =>rw[hd]at hk;refine ih hl htr.hr (ha'.put (hlt d hd) hv) hk λe' QZ c'' a' g1 g2 g3 g4=>hq e' QZ c'' a' g1 (htr.trans g2) g3 ?_;simp only[rX,hd];exact Fr.trans (ws:=[d]) Fr.put g4
   simp only[Hu]at h;obtain⟨e1,ha1,hcase⟩:=Qh ha h;simp only[wpList];rcases hcase with⟨hw,h1⟩|⟨hw,h1⟩
   ·rw[aG hw];refine .inl ?_;have hop:=a5u hL hFn hr ha1.env hb h1;unfold Oper.wp;rcases hop with⟨v,d,A,H',g1,g2,g3,g4⟩|⟨d,H',g1,g2,g3⟩|⟨f,args,g1,g2⟩;{rw[g1,Oper.upon_value];exact cont v A d H' e1 g2 (ha1.mono g2.le) g3 g4}
    ·rw[g1,Oper.upon_skip];cases hd:o.dst with
     |none=>rw[hd]at g3;exact hd ▸ cont undef .und d H' e1 g2 (ha1.mono g2.le) trivial (by rw[hd];exact g3)
     |some d'=>rw[hd]at g3;exact g3.elim
    rw[g1,Oper.upon_enter];refine Calls.mono g2 ?_;rintro _ w' ⟨v,d,R,H',rfl,rfl,g4,g5,g3⟩;exact cont v R d H' e1 g4 (ha1.mono g4.le) g5 g3
   rw[hw];simp only[dN,if_false];exact cont undef (.uf []) c H e1 (.refl hr) ha1 PL h1
end
end Go.AL