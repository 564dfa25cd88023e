/-
  A logic for calls of Go functions: each operation is sound. Nothing is assumed.
-/
import Derived.Test.YtdkhmfabhfgemaaGreatT0
import Derived.Laws.Strings
import Derived.Laws.StructEq
import Derived.Great.BuildSlice
import Derived.Tactics
import Derived.Lib.AppendZeros
namespace Go.AL
def qZ(P:Program)(f:Nat)(args:List AV)(H:Heap)(R:AV)(H':Heap):Prop :=
 (∃ fn,P.funcs[f]? = some fn/\(fn.name== "runtime.NumGoroutine")=false/\fn.body.isSome=true) /\
 ∀(c:Cx) (vs:List Value),HR c H->Oo c args vs->Calls P f vs.toArray c.w λe w'=>∃v d,e=.returned v/\d.w=w'/\Tr c H d H'/\EV d R v
def Uz(P:Program)(f:Nat)(args:List AV)(H:Heap)(Q:AV->Heap->Prop):Prop :=
 (∃ fn,P.funcs[f]? = some fn/\(fn.name== "runtime.NumGoroutine")=false/\fn.body.isSome=true) /\
 ∀(c:Cx) (vs:List Value),HR c H->Oo c args vs->Calls P f vs.toArray c.w λe w'=>∃v d R H',Q R H'/\e=.returned v/\d.w=w'/\Tr c H d H'/\EV d R v
abbrev FP(P:Program):FT:={ h:=qZ P,q:=Uz P }
structure FS(P:Program)(F:FT):Prop where
 h:∀f args H R H',F f args H R H'->qZ P f args H R H'
 q:∀f args H Q,F.q f args H Q->Uz P f args H Q
theorem b33(P:Program):FS P (FP P):=⟨λ_ _ _ _ _ h=>h,λ_ _ _ _ h=>h⟩
def uD(P:Program)(o:Oper)(ρ:Operand->Value)(c:Cx)(H:Heap)(k:AV->Heap->Prop)(ks:Heap->Prop):Prop :=
 (∃v d A H',(execOp ρ o).run P c.w=.ok (.value v) d.w/\Tr c H d H'/\EV d A v/\k A H') \/
 (∃d H',(execOp ρ o).run P c.w=.ok .skip d.w/\Tr c H d H'/\ks H') \/
 (∃f args,(execOp ρ o).run P c.w=.ok (.enter f args) c.w /\
  Calls P f args c.w λe w'=>∃v d R H',e=.returned v/\d.w=w'/\Tr c H d H'/\EV d R v/\k R H')
section
variable{P:Program}{L:Lay}{c:Cx}{H:Heap}{e:Env}{a:Act}{k:AV->Heap->Prop}{ks:Heap->Prop}{o:Oper}
theorem uD.pure(hr:HR c H){v:Value}{A:AV}(hrun:(execOp a.eval o).run P c.w=.ok (.value v) c.w)(hv:EV c A v)(hk:k A H):uD P o a.eval c H k ks :=
 .inl ⟨v,c,A,H,hrun,.refl hr,hv,hk⟩
theorem Af{kd:IntKind}{n:Int}{v:Value}(h:EV c (.int kd n) v):v=.int kd n/\KE kd n:=b5X h
theorem Yz{s:List UInt8}{v:Value}(h:EV c (.str s) v):v=.string ⟨s.toArray⟩/\s.length<=maxL:=a7W h
theorem VB(s:List UInt8):ByteArray.toList ⟨s.toArray⟩=s:=ByteArray.toList_mk s
theorem a5H(hr:HR c H)(he:xU c e a){x:Operand}(hx:sU x=true)(ho:o.op=.move x\/o.op=.assign x)(h:uw e x λA=>k A H):uD P o a.eval c H k ks:=by obtain⟨A,h1,h2⟩:=rO he hx h;refine .pure hr (v:=a.eval x) ?_ h1 h2;rcases ho with ho|ho <;> simp[execOp,ho]
theorem a8F{cc x y:Operand}(ho:o.op=.pick cc x y){b:Bool}(hb:a.eval cc=.bool b):(execOp a.eval o).run P c.w=.ok (.value (if b then a.eval x else a.eval y)) c.w:=by unfold execOp;rw[ho];simp only[hb,asBool];cases b <;> rfl
theorem b2e(hr:HR c H)(he:xU c e a){cc x y:Operand}(h1:sU cc=true)(h2:sU x=true)(h3:sU y=true)(ho:o.op=.pick cc x y)
  (h:uw e cc λC=>(match C with
  | .tt=>uw e x λA=>k A H
  | .ff=>uw e y λA=>k A H
  | .bool b=>(b=true->uw e x λA=>k A H)/\(b=false->uw e y λA=>k A H)
  | .dec p=>(p->uw e x λA=>k A H)/\(¬p->uw e y λA=>k A H)
  |_=>False)):uD P o a.eval c H k ks:=by
 obtain⟨C,g1,g2⟩:=rO he h1 h;have key:∃b,a.eval cc=.bool b/\(b=true->uw e x λA=>k A H)/\(b=false->uw e y λA=>k A H):=(by split at g2;{exact⟨true,LY g1,λ_=>g2,λh=>by cases h⟩};{exact⟨false,LZ g1,(λh=>by cases h),λ_=>g2⟩};{exact⟨_,yF g1,g2⟩};{obtain⟨b,h4,h5⟩:=CZ g1;exact⟨b,h4,λhb=>g2.1 (h5.1 hb),λhb=>g2.2 (λhp=>by rw[h5.2 hp]at hb;cases hb)⟩};exact g2.elim);obtain⟨b,hb,hy,hn⟩:=key;have hrun:=a8F (P:=P) (c:=c) ho hb;cases b with
 |true =>obtain⟨A,h4,h5⟩:=rO he h2 (hy rfl);exact .pure hr hrun (by simpa using h4) h5
 |false =>obtain⟨A,h4,h5⟩:=rO he h3 (hn rfl);exact .pure hr hrun (by simpa using h4) h5
theorem yX{op:BinOp}{t:Nat}{x y:Operand}{v u:Value}(h:¬(∃cs ds,v=.agg cs/\u=.agg ds))
  (h':v=.nilIface->u=.nilIface->(op=.eql\/op=.neq)->(Ah x||Ah y)=true):(eqGuard op t x y v u).run P c.w=.ok () c.w:=by
 unfold eqGuard;cases op;case eql =>
  simp only[fV,dO,if_false];split;{have h3:=h' rfl rfl (.inl rfl);cases x <;> cases y <;> first|(simp[Ah]at h3;done)|rfl};{exact absurd ⟨_,_,rfl,rfl⟩ h};rfl
 case neq =>
  simp only[fV,dO,if_false];split;{have h3:=h' rfl rfl (.inr rfl);cases x <;> cases y <;> first|(simp[Ah]at h3;done)|rfl};{exact absurd ⟨_,_,rfl,rfl⟩ h};rfl
 all_goals rfl
theorem Ac{op:BinOp}{t ty:Nat}{x y:Operand}(ho:o.op=.binOp op t x y ty){r:Value}
  (hg:(eqGuard op t x y (a.eval x) (a.eval y)).run P c.w=.ok () c.w) (h:(binOp op t (a.eval x) (a.eval y)).run P c.w=.ok r c.w) :
  (execOp a.eval o).run P c.w=.ok (.value r) c.w:=by
 unfold execOp;rw[ho];simp only[Sem.run_bind,hg,Result.andThen_ok,h,Sem.run_pure]
theorem run_equalIn_bool{t:Nat}(ht:P.underlying t=some .bool)(d:Nat)(x y:Bool)(w:World):(Op.equalIn (d+1) t (.bool x) (.bool y)).run P w=.ok (x==y) w:=by simp only[Op.equalIn,Sem.run_bind,run_underlying ht,Result.andThen_ok,Sem.run_pure]
theorem run_equal_bool{t:Nat}(ht:P.underlying t=some .bool)(x y:Bool)(w:World):(Op.equal t (.bool x) (.bool y)).run P w=.ok (x==y) w :=
 run_equalIn_bool ht 9999 x y w
theorem PW{t:Nat}{ms:Array (String×TypeId)}(ht:P.underlying t=some (.interface ms)){v u:Value}{b:Bool}
  (h:(v=.nilIface/\u=.nilIface/\b=true)\/(v=.nilIface/\(∃t x,u=.iface t x)/\b=false)\/((∃t x,v=.iface t x)/\u=.nilIface/\b=false)) (d:Nat) (w:World) :
  (Op.equalIn (d+1) t v u).run P w=.ok b w:=by
 rcases h with⟨rfl,rfl,rfl⟩|⟨rfl,⟨t,x,rfl⟩,rfl⟩|⟨⟨t,x,rfl⟩,rfl,rfl⟩ <;> simp only[Op.equalIn,Sem.run_bind,run_underlying ht,Result.andThen_ok,Sem.run_pure]
theorem Kz{t:Nat}{ms:Array (String×TypeId)}(ht:P.underlying t=some (.interface ms)){v u:Value}{b:Bool}
  (h:(v=.nilIface/\u=.nilIface/\b=true)\/(v=.nilIface/\(∃t x,u=.iface t x)/\b=false)\/((∃t x,v=.iface t x)/\u=.nilIface/\b=false)) (w:World) :
  (Op.equal t v u).run P w=.ok b w:=PW ht h 9999 w
theorem Un{t el:Nat}(ht:P.underlying t=some (.pointer el))(p:Option Addr)(d:Nat)(w:World) :
  (Op.equalIn (d+1) t (.pointer p) (.pointer none)).run P w=.ok p.isNone w:=by
 cases p <;> simp only[Op.equalIn,Sem.run_bind,run_underlying ht,Result.andThen_ok,Sem.run_pure] <;> rfl
theorem NQ{t el:Nat}(ht:P.underlying t=some (.pointer el))(p:Option Addr)(w:World) :
  (Op.equal t (.pointer p) (.pointer none)).run P w=.ok p.isNone w:=Un ht p 9999 w
theorem TY{d:TypeDesc}(h:descOf P d=.bool):d=.bool:=by cases d <;> simp[descOf]at h;rfl
theorem QB{d:TypeDesc}(h:descOf P d=.iface):∃ms,d=.interface ms:=by cases d <;> simp[descOf]at h;exact⟨_,rfl⟩
theorem Xx{d:TypeDesc}{n:Nat}(h:descOf P d=.ptr n):d=.pointer n:=by cases d <;> simp[descOf]at h;subst h;rfl
theorem sN{d:TypeDesc}{n:Nat}(h:descOf P d=.slice n):d=.slice n:=by cases d <;> simp[descOf]at h;subst h;rfl
theorem Xy{d:TypeDesc}{kd:IntKind}(h:descOf P d=.int kd):d=.int kd:=by cases d <;> simp[descOf]at h;subst h;rfl
theorem En{d:TypeDesc}(h:descOf P d=.str):d=.string:=by cases d <;> simp[descOf]at h;rfl
theorem IL{d:TypeDesc}{fs:List (Nat×Nat×Nat)}(h:descOf P d=.struct fs):∃gs,d=.struct gs/\fs=gs.toList.map λf=>(f.offset,P.cellsOf f.type,f.type):=by cases d <;> simp[descOf]at h;exact⟨_,rfl,by simp[h]⟩
theorem Xz{d:TypeDesc}{n m:Nat}(h:descOf P d=.arr n m):d=.array n m:=by cases d <;> simp[descOf]at h;obtain⟨rfl,rfl⟩:=h;rfl
theorem JW{d:TypeDesc}{n m:Nat}(h:descOf P d=.map n m):d=.map n m:=by cases d <;> simp[descOf]at h;obtain⟨rfl,rfl⟩:=h;rfl
theorem b0w{d:TD}{op:BinOp}{hc:Bool}{ka kb:IntKind}{m n:Int}{k:AV->Prop}(t:Nat)(w:World)(ha:KE ka m)(h:SV d op hc (.int ka m) (.int kb n) k) :
  ∃r R,(binOp op t (.int ka m) (.int kb n)).run P w=.ok r w/\VV c R r/\k R:=by
 have hk:op≠.shl->op≠.shr->ka=kb:=by
  intro h1 h2;unfold SV at h;cases hq:Hw ka kb with
  |true=>exact x9 hq
  |false=>exfalso;cases op <;> first|exact h1 rfl|exact h2 rfl|(simp only[hq]at h)
 have hq:Hw ka ka=true:=by cases ka <;> rfl
 unfold SV at h;cases op;case shl =>
  simp only at h;refine⟨_,_,?_,uI (kd:=ka) (n:=VK ka m n) (EI _ _),h.2⟩;have:¬n<0:=aj;simp[binOp,Op.shift,this,VK]
 case shr =>
  simp only at h;refine⟨_,_,?_,uI (kd:=ka) (n:=Ox ka m n) (a0Z ha _),h.2⟩;have:¬n<0:=aj;simp[binOp,Op.shift,this,Ox]
 all_goals
  obtain rfl:=hk ak ak;simp only[hq]at h
 case add=>obtain⟨R,h1,h2⟩:=Fe (c:=c) h;exact⟨_,R,by simp[binOp,Op.intArith],h1,h2⟩
 case sub=>obtain⟨R,h1,h2⟩:=Fe (c:=c) h;exact⟨_,R,by simp[binOp,Op.intArith],h1,h2⟩
 case mul=>obtain⟨R,h1,h2⟩:=Fe (c:=c) h;exact⟨_,R,by simp[binOp,Op.intArith],h1,h2⟩
 case quo=>obtain⟨R,h1,h2⟩:=Fe (c:=c) h.2;exact⟨_,R,by simp[binOp,Op.intDiv,h.1],h1,h2⟩
 case rem=>exact⟨_,_,by simp[binOp,Op.intDiv,h.1],uI (b0C ha),h.2⟩
 case and=>exact⟨_,_,by simp[binOp,Op.intBits,BN],uI (kd:=ka) (n:=BN .and ka m n) (EI _ _),h⟩
 case or=>exact⟨_,_,by simp[binOp,Op.intBits,BN],uI (kd:=ka) (n:=BN .or ka m n) (EI _ _),h⟩
 case xor=>exact⟨_,_,by simp[binOp,Op.intBits,BN],uI (kd:=ka) (n:=BN .xor ka m n) (EI _ _),h⟩
 case andNot=>exact⟨_,_,by simp[binOp,Op.intBits,BN],uI (kd:=ka) (n:=BN .andNot ka m n) (EI _ _),h⟩
 case eql=>exact⟨.bool (m==n),_,by simp[binOp,Op.intCmp],yY ak,h⟩
 case neq=>exact⟨.bool (m != n),_,by simp[binOp,Op.intCmp],yY ak,h⟩
 case lss=>exact⟨.bool (decide (m<n)),_,by simp[binOp,Op.intCmp],yY ak,h⟩
 case leq=>exact⟨.bool (decide (m<=n)),_,by simp[binOp,Op.intCmp],yY ak,h⟩
 case gtr=>exact⟨.bool (decide (m>n)),_,by simp[binOp,Op.intCmp],yY ak,h⟩
 case geq=>exact⟨.bool (decide (m≥n)),_,by simp[binOp,Op.intCmp],yY ak,h⟩
theorem b0v{d:TD}{op:BinOp}{hc:Bool}{p q:List UInt8}{k:AV->Prop}(t:Nat)(w:World)(h:SV d op hc (.str p) (.str q) k) :
  ∃r R,(binOp op t (.string ⟨p.toArray⟩) (.string ⟨q.toArray⟩)).run P w=.ok r w/\VV c R r/\k R:=by
 have e1:ByteArray.toList ⟨p.toArray⟩=p:=VB p;have e2:ByteArray.toList ⟨q.toArray⟩=q:=VB q;unfold SV at h;cases op <;> simp only at h;case add =>
  refine⟨_,_,?_,a0Q (s:=p++q) (by simpa using h.1),h.2⟩;have h1:¬(((⟨p.toArray⟩:ByteArray).size+(⟨q.toArray⟩:ByteArray).size:Nat):Int)>IntKind.i64.max:=(by have:=h.1;simp[maxL]at this;simp[ByteArray.size,IntKind.max,IntKind.signed,IntKind.bits];omega);simp only[binOp,Op.stringOp,h1,if_false,Sem.run_pure];congr 2
 case eql=>exact⟨.bool (p==q),_,by simp[binOp,Op.stringOp,e1,e2],yY ak,h⟩
 case neq=>exact⟨.bool (!(p==q)),_,by simp[binOp,Op.stringOp,e1,e2],yY ak,h⟩
 case lss=>exact⟨_,_,by simp only[binOp,Op.stringOp,e1,e2,Sem.run_pure],Et _,h⟩
end
end Go.AL
namespace Go.AL
section
variable{P:Program}{L:Lay}{c:Cx}{H:Heap}{e:Env}{a:Act}{k:AV->Heap->Prop}{ks:Heap->Prop}{o:Oper}
theorem vF{A:AV}{v:Value}(h:EV c A v)(hn:∀l,A≠.uy l)(hu:A≠.und):VV c A v:=by
 cases A <;> first
  |exact h
  |exact absurd rfl (hn _)
  |exact absurd rfl hu
theorem a6w{A B:AV}{k:AV->Prop}(h:eqB A B k):(∀l,A≠.uy l)/\A≠.und/\(∀l,B≠.uy l)/\B≠.und:=by refine⟨?_,?_,?_,?_⟩ <;> intros <;> intro e <;> subst e <;> (first|(cases A <;> simp[eqB,KG,XY]at h;done)|(cases B <;> simp[eqB,KG,XY]at h;done))
theorem ZA{A B:AV}{k:AV->Prop}(h:TJ A B k):(∀l,A≠.uy l)/\A≠.und/\(∀l,B≠.uy l)/\B≠.und:=by unfold TJ at h;split at h <;> first|exact h.elim|(refine⟨?_,?_,?_,?_⟩ <;> intros <;> intro e <;> cases e)
theorem Wq{A B:AV}{k:AV->Prop}(h:KY A B k):(∀l,A≠.uy l)/\A≠.und/\(∀l,B≠.uy l)/\B≠.und:=by unfold KY at h;split at h <;> first|exact h.elim|(refine⟨?_,?_,?_,?_⟩ <;> intros <;> intro e <;> cases e)
theorem b6v{op:BinOp}{t ty:Nat}{x y:Operand}(hr:HR c H)(ho:o.op=.binOp op t x y ty){i:TI}(hT:Gi P t i){A B:AV}(hA:EV c A (a.eval x))(hB:EV c B (a.eval y))
  (h:b5U i.desc op (Ah x||Ah y) A B λR=>k R H):uD P o a.eval c H k ks:=by
 obtain⟨d,hd,hdd⟩:=hT.under
 have fin:∀(b:Bool) (R:AV),(op=.eql\/op=.neq)->(Op.equal t (a.eval x) (a.eval y)).run P c.w=.ok b c.w ->
   (eqGuard op t x y (a.eval x) (a.eval y)).run P c.w=.ok () c.w->(∀k n k' n',a.eval x=.int k n->a.eval y=.int k' n'->False)->(∀s s',a.eval x=.string s->a.eval y=.string s'->False) ->
   (∀k n k' n',a.eval x=.float k n->a.eval y=.float k' n'->False)->(∀k n m k' n' m',a.eval x=.complex k n m->a.eval y=.complex k' n' m'->False) ->
   VV c R (.bool (if op=.neq then !b else b))->k R H->uD P o a.eval c H k ks:=by
  intro b R hop hq hg h1 h2 h3 h4 hR hk;refine .pure hr (Ac ho hg ?_) (sD hR) hk;rcases hop with rfl|rfl
  ·generalize a.eval x=v at *;generalize a.eval y=u at *;cases v <;> cases u <;> first
    |exact(h1 _ _ _ _ rfl rfl).elim|exact(h2 _ _ rfl rfl).elim|exact(h3 _ _ _ _ rfl rfl).elim|exact(h4 _ _ _ _ _ _ rfl rfl).elim
    |simp[binOp,hq]
  generalize a.eval x=v at *;generalize a.eval y=u at *;cases v <;> cases u <;> first
   |exact(h1 _ _ _ _ rfl rfl).elim|exact(h2 _ _ rfl rfl).elim|exact(h3 _ _ _ _ rfl rfl).elim|exact(h4 _ _ _ _ _ _ rfl rfl).elim
   |simp[binOp,hq]
 unfold b5U at h;split at h;{rename_i hi;obtain rfl:=TY (hdd.trans hi);obtain⟨n1,n2,n3,n4⟩:=a6w h;obtain⟨p,q,R,e1,e2,h3,h4⟩:=a0m (vF hA n1 n2) (vF hB n3 n4) h;rw[e1,e2]at fin;exact fin (p==q) R (.inl rfl) (run_equal_bool hd _ _ _) (yX (by rintro⟨_,_,h,_⟩;cases h) (by intro h;cases h)) (by intros;contradiction) (by intros;contradiction) (by intros;contradiction) (by intros;contradiction) (by simpa using h3) h4};{rename_i hi;obtain rfl:=TY (hdd.trans hi);obtain⟨n1,n2,n3,n4⟩:=a6w h;obtain⟨p,q,R,e1,e2,h3,h4⟩:=a0m (vF hA n1 n2) (vF hB n3 n4) h;obtain⟨R',h5,h6⟩:=Ee h3 h4;rw[e1,e2]at fin;exact fin (p==q) R' (.inr rfl) (run_equal_bool hd _ _ _) (yX (by rintro⟨_,_,h,_⟩;cases h) (by intro h;cases h)) (by intros;contradiction) (by intros;contradiction) (by intros;contradiction) (by intros;contradiction) (by simpa using h5) h6}
 ·rename_i hi;obtain⟨ms,rfl⟩:=QB (hdd.trans hi);split at h
  ·rename_i hc;obtain⟨n1,n2,n3,n4⟩:=ZA h;obtain⟨b,R,e1,h3,h4⟩:=TG (vF hA n1 n2) (vF hB n3 n4) h;refine fin b R (.inl rfl) (Kz hd e1 _) (yX ?_ (λ_ _ _=>hc)) ?_ ?_ ?_ ?_ (by simpa using h3) h4;{rintro⟨_,_,h1,h2⟩;rcases e1 with⟨e1,e2,_⟩|⟨e1,⟨_,_,e2⟩,_⟩|⟨⟨_,_,e1⟩,e2,_⟩ <;> rw[e1]at h1 <;> cases h1};all_goals
    intros
    rename_i h1 h2;rcases e1 with⟨e1,e2,_⟩|⟨e1,⟨_,_,e2⟩,_⟩|⟨⟨_,_,e1⟩,e2,_⟩ <;> rw[e1]at h1 <;> cases h1
  exact h.elim
 ·rename_i hi;obtain⟨ms,rfl⟩:=QB (hdd.trans hi);split at h
  ·rename_i hc;obtain⟨n1,n2,n3,n4⟩:=ZA h;obtain⟨b,R,e1,h3,h4⟩:=TG (vF hA n1 n2) (vF hB n3 n4) h;obtain⟨R',h5,h6⟩:=Ee h3 h4;refine fin b R' (.inr rfl) (Kz hd e1 _) (yX ?_ (λ_ _ _=>hc)) ?_ ?_ ?_ ?_ (by simpa using h5) h6;{rintro⟨_,_,h1,h2⟩;rcases e1 with⟨e1,e2,_⟩|⟨e1,⟨_,_,e2⟩,_⟩|⟨⟨_,_,e1⟩,e2,_⟩ <;> rw[e1]at h1 <;> cases h1};all_goals
    intros
    rename_i h1 h2;rcases e1 with⟨e1,e2,_⟩|⟨e1,⟨_,_,e2⟩,_⟩|⟨⟨_,_,e1⟩,e2,_⟩ <;> rw[e1]at h1 <;> cases h1
  exact h.elim
 ·rename_i hi;obtain rfl:=Xx (hdd.trans hi);obtain⟨n1,n2,n3,n4⟩:=Wq h;obtain⟨b,R,p,e1,e2,rfl,h3,h4⟩:=Qb (vF hA n1 n2) (vF hB n3 n4) h;rw[e1,e2]at fin;exact fin p.isNone R (.inl rfl) (NQ hd _ _) (yX (by rintro⟨_,_,h,_⟩;cases h) (by intro h;cases h)) (by intros;contradiction) (by intros;contradiction) (by intros;contradiction) (by intros;contradiction) (by simpa using h3) h4
 ·rename_i hi;obtain rfl:=Xx (hdd.trans hi);obtain⟨n1,n2,n3,n4⟩:=Wq h;obtain⟨b,R,p,e1,e2,rfl,h3,h4⟩:=Qb (vF hA n1 n2) (vF hB n3 n4) h;obtain⟨R',h5,h6⟩:=Ee h3 h4;rw[e1,e2]at fin;exact fin p.isNone R' (.inr rfl) (NQ hd _ _) (yX (by rintro⟨_,_,h,_⟩;cases h) (by intro h;cases h)) (by intros;contradiction) (by intros;contradiction) (by intros;contradiction) (by intros;contradiction) (by simpa using h5) h6
 exact h.elim
theorem a5r{z x y:AV}{w:World}{Im:Nat->Nat->Prop}{cs ds:List Value}(hx:Aw z x=true)(hy:Aw z y=true)(h1:Rd w Im x cs)(h2:Rd w Im y ds) :
  cs.length=1/\ds.length=1/\(cs=ds↔eqP x y):=by
 have hb:∀{A:AV} {c:List Value},Aw .ff A=true->Rd w Im A c->∃b,c=[.bool b]/\(b=true↔isT A):=by
  intro A c hA h;cases A <;> first|(simp[Aw]at hA;done)|skip
  ·simp only[Rd]at h;exact⟨_,h,by simp[isT]⟩
  ·simp only[Rd]at h;exact⟨_,h,by simp[isT]⟩
  ·simp only[Rd]at h;exact⟨_,h,by simp[isT]⟩
  simp only[Rd]at h;exact h
 cases z <;> first|(simp[Aw]at hx;done)|skip
 ·obtain⟨b,rfl,g1⟩:=hb hx h1;obtain⟨b',rfl,g2⟩:=hb hy h2;refine⟨rfl,rfl,?_⟩;have he:eqP x y↔(isT x↔isT y):=by
   cases x <;> first|(simp[Aw]at hx;done)|skip
   all_goals cases y <;> first|(simp[Aw]at hy;done)|exact jm
  rw[he,<- g1,<- g2];cases b <;> cases b' <;> simp
 ·cases x <;> first|(simp[Aw]at hx;done)|skip
  cases y <;> first|(simp[Aw]at hy;done)|skip
  obtain rfl:=x9 hx;obtain rfl:=x9 hy;simp only[Rd]at h1 h2;obtain⟨rfl,_⟩:=h1;obtain⟨rfl,_⟩:=h2;simp[eqP]
 cases x <;> first|(simp[Aw]at hx;done)|skip
 cases y <;> first|(simp[Aw]at hy;done)|skip
 simp only[Rd]at h1 h2;obtain⟨rfl,_⟩:=h1;obtain⟨rfl,_⟩:=h2;simp[eqP]
theorem Zj{w:World}{Im:Nat->Nat->Prop}:∀{zs l m:List AV} {cs ds:List Value},yG zs l=true->yG zs m=true->DY w Im l cs->DY w Im m ds->(cs=ds↔Xk l m)
 | [],[],[],cs,ds,_,_,h1,h2=>by simp only[DY]at h1 h2;subst h1;subst h2;simp[Xk]
 | [],[],_::_,_,_,_,h,_,_=>by simp[yG]at h
 | [],_::_,_,_,_,h,_,_,_=>by simp[yG]at h
 |_::_,[],_,_,_,h,_,_,_=>by simp[yG]at h
 |_::_,_::_,[],_,_,_,h,_,_=>by simp[yG]at h
 | z::zs,x::l,y::m,cs,ds,hx,hy,h1,h2=>by
   simp only[yG]at hx hy;cases qx:Aw z x with
   |false=>simp[qx]at hx
   | true =>
     cases qy:Aw z y with
     |false=>simp[qy]at hy
     |true =>rw[qx]at hx;rw[qy]at hy;simp only[DY]at h1 h2;obtain⟨a,b,rfl,g1,g2⟩:=h1;obtain⟨a',b',rfl,g3,g4⟩:=h2;obtain⟨k1,k2,k3⟩:=a5r qx qy g1 g3;have ih:=Zj hx hy g2 g4;simp only[Xk];rw[<- k3,<- ih];constructor;{intro e;exact jT e aj};rintro⟨rfl,rfl⟩;rfl
theorem a8E{z x:AV}{cs:List Value}(hx:Aw z x=true)(h:VR c x cs):Rd c.w c.Im x cs:=by
 cases z <;> first|(simp[Aw]at hx;done)|skip
 all_goals cases x <;> first|(simp[Aw]at hx;done)|(simpa only[VR]using h)
theorem Rt:∀{zs l:List AV} {cs:List Value},yG zs l=true->Ea c l cs->DY c.w c.Im l cs
 | [],[],_,_,h=>by simpa only[Ea,DY]using h
 | [],_::_,_,h,_=>by simp[yG]at h
 |_::_,[],_,h,_=>by simp[yG]at h
 | z::zs,x::l,cs,hx,h=>by
   simp only[yG]at hx;cases qx:Aw z x with
   |false=>simp[qx]at hx
   |true =>rw[qx]at hx;simp only[Ea]at h;obtain⟨a,b,rfl,g1,g2⟩:=h;simp only[DY];exact⟨a,b,rfl,a8E qx g1,Rt hx g2⟩
theorem b2h{op:BinOp}{t ty:Nat}{x y:Operand}(hr:HR c H)(ho:o.op=.binOp op t x y ty){i:TI}(hT:Gi P t i){A B:AV}(hA:EV c A (a.eval x))(hB:EV c B (a.eval y))
  (h:b1o i op A B λR=>k R H):uD P o a.eval c H k ks:=by
 unfold b1o at h;split at h;case h_2=>exact h.elim
 rename_i zs l m hc hz;split at h;case h_2=>exact h.elim
 rename_i q1 q2;have E:=hT.b8w hc zs hz;obtain⟨cs,e1⟩:=hA.1.1 rfl;obtain⟨ds,e2⟩:=hB.1.1 rfl;have r1:DY c.w c.Im l cs.toList:=by have:=hA.2;rw[e1]at this;exact Rt q1 this
 have r2:DY c.w c.Im m ds.toList:=(by have:=hB.2;rw[e2]at this;exact Rt q2 this);obtain⟨r,hrun,hiff⟩:=E.run c.w c.Im l m cs ds q1 q2 r1 r2;have he:=Zj q1 q2 r1 r2;have he:r=true↔Xk l m:=(by rw[hiff,<- he];constructor;{rintro rfl;rfl};intro e;exact Array.toList_inj.1 e);split at h;{refine .pure hr (v:=.bool r) (Ac ho ?_ ?_) (sD (vG rfl rfl ?_)) h;{rw[e1,e2];exact run_eqGuard_agg c.w _ t x y cs ds E.grd};{rw[e1,e2,run_eql_struct];show((Op.equal t _ _).run P c.w).andThen _=_;rw[hrun];rfl};simp only[VR,Rd];exact⟨r,rfl,he⟩};{refine .pure hr (v:=.bool (!r)) (Ac ho ?_ ?_) (sD (vG rfl rfl ?_)) h;{rw[e1,e2];exact run_eqGuard_agg c.w _ t x y cs ds E.grd};{rw[e1,e2,run_neq_struct];show((Op.equal t _ _).run P c.w).andThen _=_;rw[hrun];rfl};simp only[VR,Rd];exact⟨!r,rfl,by rw[<- he];cases r <;> simp⟩};exact h.elim
theorem b4L(hL:uz P L){op:BinOp}{t ty:Nat}{x y:Operand}(hr:HR c H)(he:xU c e a)(hx:sU x=true)(hy:sU y=true)(ho:o.op=.binOp op t x y ty)
  (h:uw e x λA=>uw e y λB=>L.sQ t λi=>match uG A with
   |true=>b1o i op A B λR=>k R H
   |false=>SV i.desc op (Ah x||Ah y) A B λR=>k R H):uD P o a.eval c H k ks:=by
 obtain⟨A,hA,h⟩:=rO he hx h;obtain⟨B,hB,h⟩:=rO he hy h;obtain⟨i,hT,h⟩:=Lay.su hL h;cases hag:uG A with
 |true=>rw[hag]at h;exact b2h hr ho hT hA hB h
 |false =>
 rw[hag]at h;dsimp only at h;by_cases h1:(∃ka m,A=.int ka m)/\(∃kb n,B=.int kb n);{obtain⟨⟨ka,m,rfl⟩,⟨kb,n,rfl⟩⟩:=h1;obtain⟨e1,r1⟩:=Af hA;obtain⟨e2,_⟩:=Af hB;obtain⟨r,R,h2,h3,h4⟩:=b0w (P:=P) t c.w r1 h;refine .pure hr (Ac ho ?_ (by rw[e1,e2];exact h2)) (sD h3) h4;rw[e1,e2];exact yX (by rintro⟨_,_,h,_⟩;cases h) (by intro h;cases h)};by_cases h2:(∃p,A=.str p)/\(∃q,B=.str q);{obtain⟨⟨p,rfl⟩,⟨q,rfl⟩⟩:=h2;obtain⟨e1,_⟩:=Yz hA;obtain⟨e2,_⟩:=Yz hB;obtain⟨r,R,h2,h3,h4⟩:=b0v (P:=P) (c:=c) t c.w h;refine .pure hr (Ac ho ?_ (by rw[e1,e2];exact h2)) (sD h3) h4;rw[e1,e2];exact yX (by rintro⟨_,_,h,_⟩;cases h) (by intro h;cases h)};refine b6v hr ho hT hA hB ?_;unfold SV at h;split at h;{exact absurd ⟨⟨_,_,rfl⟩,⟨_,_,rfl⟩⟩ h1};{exact absurd ⟨⟨_,rfl⟩,⟨_,rfl⟩⟩ h2};exact h
end
end Go.AL
namespace Go.AL
theorem Ju{c:Cx}{sz:Nat}:∀{l:List AV} {cs:List Value} {j:Nat} {x:AV},Pq c sz l cs->l[j]? = some x ->
  ∃ pre xs post,cs=pre++xs++post/\pre.length=j*sz/\xs.length=sz/\Rd c.w c.Im x xs /\
    ∀y ys,Rd c.w c.Im y ys->ys.length=sz->Pq c sz (l.set j y) (pre++ys++post)
 | [],_,_,_,_,h=>by simp at h
 |z::l,cs,0,x,hr,h=>by obtain⟨a,d,rfl,h2,h3,h4⟩:=hr;obtain rfl:z=x:=(by simpa using h);refine⟨[],a,d,ak,ak,h2,h3,λy ys hy hl=>?_⟩;exact⟨ys,d,ak,hl,hy,h4⟩
 |z::l,cs,j+1,x,hr,h=>by obtain⟨a,d,rfl,h2,h3,h4⟩:=hr;obtain⟨pre,xs,post,rfl,h5,h6,h7,h8⟩:=Ju h4 (by simpa using h:l[j]? = some x);refine⟨a++pre,xs,post,ak,by simp[h2,h5,dw];omega,h6,h7,λy ys hy hl=>?_⟩;exact⟨a,pre++ys++post,ak,h2,h3,h8 y ys hy hl⟩
theorem Ql{α:Type}(pre xs post:List α){j:Nat}{v:α}(h:xs[j]? = some v):(pre++xs++post)[pre.length+j]? = some v:=by have hj:j<xs.length:=(aY.1 h).1;rw[bK,dK aj,jI,bI hj,h]
theorem X9{a:Addr}(h:a.spot=none):a=⟨a.block,a.off,none⟩:=by cases a;simp_all
section
variable{P:Program}{L:Lay}{c:Cx}{H:Heap}{e:Env}{a:Act}{k:AV->Heap->Prop}{ks:Heap->Prop}{o:Oper}
theorem a07{t:Nat}{x:Operand}{ad:Addr}(ho:o.op=.load t x)(hx:a.eval x=.pointer (some ad)){v:Value}(h:(loadVar t ad).run P c.w=.ok v c.w) :
  (execOp a.eval o).run P c.w=.ok (.value v) c.w:=by
 unfold execOp;rw[ho];simp only[Instr.loadAt,hx,Instr.sureAddr,Sem.run_bind,Sem.run_pure,Result.andThen_ok,h]
theorem Ug(hL:uz P L)(hr:HR c H){t:Nat}{A:AV}{v:Value}{k:AV->Prop}(hA:EV c A v)(h:Ap L t A H k) :
  ∃ad r R,v=.pointer (some ad)/\(loadVar t ad).run P c.w=.ok r c.w/\VV c R r/\k R:=by
 unfold Ap at h;split at h;{rename_i x;obtain⟨ad,ds,e1,hs,hc,hx⟩:=b0y hA;obtain⟨_,i,hT,hf,hg,hk⟩:=Ae hL h;have hx':VR c x ds:=yP _ _ hx;refine⟨ad,mkV x ds,x,e1,?_,a3B hx',hk⟩;rw[X9 hs];exact H7 hT hf hg hx' λj v hj=>(hc j v hj).1};{rename_i i p off;obtain⟨hk,e1⟩:=Po hA;obtain⟨ob,hob,h⟩:=uo.1 h;have hok:=hr.EM hob;split at h;{rename_i B;obtain⟨x,hp,h⟩:=BK.1 h;obtain⟨hoff,h⟩:=sW.1 h;obtain⟨_,ti,hT,hf,hg,hkk⟩:=Ae hL h;subst hoff;obtain⟨cs,ty,h1,h2,_⟩:=hok;obtain⟨pre,xs,post,rfl,h4,h5⟩:=Nz h2 hp;refine⟨_,mkV x xs,x,e1,?_,a3B h5,hkk⟩;refine H7 hT hf hg h5 λj v hj=>?_;rw[cell_of_heap h1,<- h4,eX];exact Ql _ _ _ hj};{rename_i sz cap l;split at h;{rename_i j;obtain⟨x,⟨_,hx⟩,hoff,h'⟩:=h.ex;obtain⟨_,ti,hT,hf,hg,hkk⟩:=Ae hL h';subst hoff;obtain⟨cs,ty,h1,h2,h3,h4,h5,_⟩:=hok;obtain⟨pre,xs,post,rfl,h6,h7,h8,_⟩:=Ju h5 (by simpa using hx);have h8':VR c x xs:=yP _ _ h8;refine⟨_,mkV x xs,x,e1,?_,a3B h8',hkk⟩;refine H7 hT hf hg h8' λj v hj=>?_;rw[cell_of_heap h1,<- h6,eX];exact Ql _ _ _ hj};{rename_i j q _;obtain⟨x,⟨_,hx⟩,h⟩:=h.ex;obtain⟨y,hp,hoff,h'⟩:=BK.1 h;obtain⟨_,ti,hT,hf,hg,hkk⟩:=Ae hL h';subst hoff;obtain⟨cs,ty,h1,h2,h3,h4,h5,_⟩:=hok;obtain⟨pre,xs,post,rfl,h6,h7,h8,_⟩:=Ju h5 (by simpa using hx);have h8':VR c x xs:=yP _ _ h8;obtain⟨pre',xs',post',rfl,h9,h10⟩:=Nz h8' hp;refine⟨_,mkV y xs',y,e1,?_,a3B h10,hkk⟩;refine H7 hT hf hg h10 λj v hj=>?_;rw[cell_of_heap h1,<- h6,<- h9,eX];have:=Ql (pre++pre') xs' (post'++post) hj;simpa[bK,iW]using this};exact h.elim};exact h.elim};exact h.elim
theorem b2g(hL:uz P L){t:Nat}{x:Operand}(hr:HR c H)(he:xU c e a)(hx:sU x=true)(ho:o.op=.load t x)
  (h:uw e x λA=>Ap L t A H λR=>k R H):uD P o a.eval c H k ks:=by
 obtain⟨A,hA,h⟩:=rO he hx h;obtain⟨ad,r,R,e1,h1,h2,h3⟩:=Ug hL hr hA h;exact .pure hr (a07 ho e1 h1) (sD h2) h3
theorem JG{t:Nat}{x y:Operand}{ad:Addr}(ho:o.op=.store t x y)(hx:a.eval x=.pointer (some ad)){w':World}(h:(storeVar t ad (a.eval y)).run P c.w=.ok () w') :
  (execOp a.eval o).run P c.w=.ok .skip w':=by
 unfold execOp;rw[ho];simp only[Instr.storeAt,hx,Instr.sureAddr,Sem.run_bind,Sem.run_pure,Result.andThen_ok,h]
theorem KU{A:AV}{k:AV->Prop}(h:NT A k):FQ A=true/\k (strip A):=by unfold NT at h;split at h;{exact⟨‹_›,h⟩};exact h.elim
theorem II(pre xs post bs:List Value)(hl:bs.length=xs.length) :
  (pre++xs++post).take pre.length++bs++(pre++xs++post).drop (pre.length+bs.length)=pre++bs++post:=by
 have e1:(pre++xs++post).take pre.length=pre:=(by rw[bK,List.take_left]);have e2:(pre++xs++post).drop (pre.length+bs.length)=post:=(by rw[hl,<- bC,List.drop_left]);rw[e1,e2]
theorem a8T(hL:uz P L){t:Nat}{x y:Operand}(hr:HR c H)(he:xU c e a)(hx:sU x=true)(hy:sU y=true)(ho:o.op=.store t x y)
  (h:uw e x λA=>uw e y λB=>X7 L t A B H ks):uD P o a.eval c H k ks:=by
 obtain⟨A,hA,h⟩:=rO he hx h;obtain⟨B,hB,h⟩:=rO he hy h;unfold X7 at h;split at h
 ·rename_i i p off _;obtain⟨hk,e1⟩:=Po hA;obtain⟨ob,hob,h⟩:=uo.1 h;have hok:=hr.EM hob;split at h
  ·rename_i _ A0;obtain⟨x0,hp,h⟩:=BK.1 h;obtain⟨hoff,h⟩:=sW.1 h;obtain⟨hval,ti,hT,hf,hg,h⟩:=Ae hL h;obtain⟨hfl,h⟩:=sW.1 h;obtain⟨cs,ty,h1,h2,h3⟩:=hok;have hBv:=Ey hB hval;obtain⟨A',x1,pre,xs,post,g1,rfl,g3,g4,g5,g6⟩:=Dj hBv.2 h2 h;obtain rfl:x0=x1:=by rw[hp]at g1;exact aW g1
   have hbl:(a.eval y).cells.toList.length=xs.length:=(by rw[xW _ _ hBv.2,xW _ _ g4,hfl]);have hbs:(a.eval y).cells.size=xs.length:=(by rw[<- hbl,bJ]);obtain⟨⟨_,_⟩,g7⟩:=yB.1 g6;have hrun:=JH (P:=P) (w:=c.w) (v:=a.eval y) (off:=off) hT (by rw[<- hf,<- xW _ _ hBv.2,bJ]) h1
    (by rw[<- hoff,<- g3,hbs];simp) (Eu _ _ hBv.2)
   rw[<- hoff,<- g3,nI,<- bJ,II _ _ _ _ hbl]at hrun;refine .inr (.inl ⟨{ c with w:=c.w.setRow (c.ρ i) (pre++(a.eval y).cells.toList++post).toArray },_,JG ho (by rw[e1,<- hoff,<- g3]) hrun,?_,g7⟩);refine Tr.write hr hob h1 (λ_=>rfl) (λ_=>rfl) h3 (by intros;simp) (by intros;simp) ?_;have le:c.Le { c with w:=c.w.setRow (c.ρ i) (pre++(a.eval y).cells.toList++post).toArray }:=(by refine⟨λb x h=>⟨h,wX (setRow_other c.w _ b _ (λe=>h3 x (e ▸ h)))⟩,aT _,λ_ _=>rfl,λ_ _ _ h=>.inl ⟨h,rfl⟩⟩);exact⟨_,ty,setRow_heap c.w _ _ _ _ _ h1,DX le _ _ g5,h3⟩
  ·rename_i _ sz cap l;split at h
   ·rename_i j _ _;obtain⟨hpu,h⟩:=KU h;obtain⟨hsz,h⟩:=sW.1 h;obtain⟨hval,ti,hT,hf,hg,hj,hoff,h⟩:=Ae hL h;obtain⟨cs,ty,h1,h2,h3,h4,h5,h6⟩:=hok;have hBv:=Ey hB hval;obtain⟨x0,hx0⟩:∃x0,l[j]? = some x0:=⟨_,aH hj⟩;obtain⟨pre,xs,post,rfl,g3,g4,g5,g6⟩:=Ju h5 hx0;have hbl:(a.eval y).cells.toList.length=xs.length:=by rw[xW _ _ hBv.2,g4,hsz]
    have hbs:(a.eval y).cells.size=xs.length:=(by rw[<- hbl,bJ]);obtain⟨⟨_,_⟩,g7⟩:=yB.1 h;have hrun:=JH (P:=P) (w:=c.w) (v:=a.eval y) (off:=off) hT (by rw[<- hf,<- xW _ _ hBv.2,bJ]) h1
     (by rw[hoff,<- g3,hbs];simp) (Eu _ _ hBv.2)
    rw[hoff,<- g3,nI,<- bJ,II _ _ _ _ hbl]at hrun;refine .inr (.inl ⟨{ c with w:=c.w.setRow (c.ρ i) (pre++(a.eval y).cells.toList++post).toArray },_,JG ho (by rw[e1,hoff,<- g3]) hrun,?_,g7⟩);refine Tr.write hr hob h1 (λ_=>rfl) (λ_=>rfl) h6 (by intros;simp) (by intros;simp) ?_;have le:c.Le { c with w:=c.w.setRow (c.ρ i) (pre++(a.eval y).cells.toList++post).toArray }:=(by refine⟨λb x h=>⟨h,wX (setRow_other c.w _ b _ (λe=>h6 x (e ▸ h)))⟩,aT _,λ_ _=>rfl,λ_ _ _ h=>.inl ⟨h,rfl⟩⟩);refine⟨_,ty,setRow_heap c.w _ _ _ _ _ h1,?_,by simpa using h3,h4,Fp le (g6 _ _ (Hr _ _ hpu hBv.2) (hbl.trans g4)),h6⟩;rw[<- h2];simp;omega
   ·rename_i j q _ _;obtain⟨x0,⟨_,hx0⟩,h⟩:=h.ex;obtain⟨y0,hp,hoff,h⟩:=BK.1 h;obtain⟨hval,ti,hT,hf,hg,h⟩:=Ae hL h;obtain⟨hfl,h⟩:=sW.1 h;obtain⟨cs,ty,h1,h2,h3,h4,h5,h6⟩:=hok;have hBv:=Ey hB hval;obtain⟨pre,ys,post,rfl,g3,g4,g5,g6⟩:=Ju h5 (by simpa using hx0);obtain⟨A',x1,pre',xs,post',q1,rfl,q3,q4,q5,h⟩:=Dj hBv.2 (yP _ _ g5) h;obtain rfl:y0=x1:=by rw[hp]at q1;exact aW q1
    obtain⟨hpu,h⟩:=KU h;have hbl:(a.eval y).cells.toList.length=xs.length:=(by rw[xW _ _ hBv.2,xW _ _ q4,hfl]);have hbs:(a.eval y).cells.size=xs.length:=(by rw[<- hbl,bJ]);obtain⟨⟨_,_⟩,g7⟩:=yB.1 h;have hrow:pre++(pre'++xs++post')++post=(pre++pre')++xs++(post'++post):=(by simp);have b2F:off=(pre++pre').length:=(by rw[hoff,<- g3,<- q3,bC]);have h1':=h1;rw[hrow]at h1';have hrun:=JH (P:=P) (w:=c.w) (v:=a.eval y) (off:=off) hT (by rw[<- hf,<- xW _ _ hBv.2,bJ]) h1'
     (by rw[b2F,hbs];simp;omega) (Eu _ _ hBv.2)
    rw[b2F,nI,<- bJ,II _ _ _ _ hbl]at hrun;refine .inr (.inl ⟨{ c with w:=c.w.setRow (c.ρ i) ((pre++pre')++(a.eval y).cells.toList++(post'++post)).toArray },_,JG ho (by rw[e1,b2F]) hrun,?_,g7⟩);refine Tr.write hr hob h1 (λ_=>rfl) (λ_=>rfl) h6 (by intros;simp) (by intros;simp) ?_;have le:c.Le { c with w:=c.w.setRow (c.ρ i) ((pre++pre')++(a.eval y).cells.toList++(post'++post)).toArray }:=(by refine⟨λb x h=>⟨h,wX (setRow_other c.w _ b _ (λe=>h6 x (e ▸ h)))⟩,aT _,λ_ _=>rfl,λ_ _ _ h=>.inl ⟨h,rfl⟩⟩);have hl':(pre'++(a.eval y).cells.toList++post').length=sz:=(by rw[<- g4];simp only[bC];omega);refine⟨_,ty,setRow_heap c.w _ _ _ _ _ h1,?_,by simpa using h3,h4,?_,h6⟩;{rw[<- h2];simp only[bC];omega};have:=Fp le (g6 _ _ (Hr _ _ hpu q5) hl');simpa only[bK]using this
   exact h.elim
  exact h.elim
 exact h.elim
end
end Go.AL
namespace Go.AL
theorem OC:∀{zs:List AV} {n f:Nat} {z:AV},zs[f]? = some z->(KX n zs)[f]? = some (n+zf (zs.take f),flat z)
 | [],_,_,_,h=>by simp at h
 |x::l,n,0,z,h=>by obtain rfl:x=z:=(by simpa using h);simp[KX,zf]
 |x::l,n,f+1,z,h=>by simp only[KX,dV,jk,zf];rw[OC (by simpa using h:l[f]? = some z),iW]
section
variable{P:Program}{L:Lay}{c:Cx}{H:Heap}{e:Env}{a:Act}{k:AV->Heap->Prop}{ks:Heap->Prop}{o:Oper}
theorem Gi.field{t f:Nat}{i:TI}{zs:List AV}{z:AV}(h:Gi P t i)(hd:∃fs,i.desc=.struct fs)(hz:i.zero=.ag zs)(hf:zs[f]? = some z) :
  ∃gs fd,P.underlying t=some (.struct gs)/\gs[f]? = some fd/\fd.offset=zf (zs.take f)/\P.cellsOf fd.type=flat z:=by
 obtain⟨fs,hd⟩:=hd;obtain⟨d,h1,h2⟩:=h.under;obtain⟨gs,rfl,hfs⟩:=IL (h2.trans hd);obtain⟨zs',hz',h3⟩:=h.b7N fs hd;rw[hz]at hz';cases hz';subst hfs;have h4:=OC (n:=0) hf;rw[<- h3]at h4;simp only[gZ,dS,bG]at h4;cases hg:gs[f]? with
 |none=>simp[hg]at h4
 |some fd =>simp[hg]at h4;exact⟨gs,fd,h1,hg,h4.1,h4.2⟩
theorem Ru{t:Nat}{n:Nat}(h:P.cellsOf t=n+1)(w:World):(sizeOf t).run P w=.ok (n+1) w:=by
 unfold Program.cellsOf at h;cases hi:P.info? t with
 |none=>simp[hi]at h
 |some x=>simp[hi]at h;unfold sizeOf typeInfo;simp[hi,h]
theorem addr_add(b off n:Nat):(⟨b,off,none⟩:Addr).add n=⟨b,off+n,none⟩:=by unfold Addr.add;split;{rename_i h;subst h;rfl};rfl
theorem a0U{w:World}{Im:Nat->Nat->Prop}:∀{l:List AV} {cs:List Value} {i:Nat} {x:AV},DY w Im l cs->l[i]? = some x ->
  ∃pre xs post,cs=pre++xs++post/\pre.length=zf (l.take i)/\Rd w Im x xs
 | [],_,_,_,_,h=>by simp at h
 | z::l,cs,0,x,hr,h=>by
   simp only[DY]at hr;obtain⟨a,d,rfl,h2,h3⟩:=hr;obtain rfl:z=x:=by simpa using h
   exact⟨[],a,d,ak,by simp[zf],h2⟩
 |z::l,cs,i+1,x,hr,h=>by simp only[DY]at hr;obtain⟨a,d,rfl,h2,h3⟩:=hr;obtain⟨pre,xs,post,rfl,h5,h6⟩:=a0U h3 (by simpa using h:l[i]? = some x);exact⟨a++pre,xs,post,ak,by simp[zf,uJ _ _ h2,h5],h6⟩
theorem a1E{w:World}{Im:Nat->Nat->Prop}{b off:Nat}{pre xs post:List Value}(h:AO w Im b off (pre++xs++post)):AO w Im b (off+pre.length) xs:=by intro j v hj;have:=h (pre.length+j) v (Ql pre xs post hj);rw[iW];exact this
theorem a3C{x:AV}{b off:Nat}{ds:List Value}(hc:AO c.w c.Im b off ds)(hx:Rd c.w c.Im x ds):VV c (.cp x) (.pointer (some ⟨b,off,none⟩)) :=
 vG rfl rfl (by simp only[VR,Rd];exact⟨_,ds,rfl,rfl,hc,hx⟩)
theorem Js{i off:Nat}{p:List Nat}(h:i<c.nx):VV c (.ptr i p off) (.pointer (some ⟨c.ρ i,off,none⟩)) :=
 vG rfl rfl (by simp only[VR];exact⟨h,trivial⟩)
theorem a0c(hL:uz P L){t f:Nat}{x:Operand}(hr:HR c H)(he:xU c e a)(hx:sU x=true)(ho:o.op=.fieldAddr t x f)
  (h:uw e x λA=>SN L t A f λR=>k R H):uD P o a.eval c H k ks:=by
 obtain⟨A,hA,h⟩:=rO he hx h;unfold SN at h;obtain⟨i,hT,h⟩:=Lay.su hL h
 have run:∀(b off:Nat) (zs:List AV) (z:AV) (n:Nat),(∃fs,i.desc=.struct fs)->i.zero=.ag zs->zs[f]? = some z->flat z=n+1->a.eval x=.pointer (some ⟨b,off,none⟩) ->
   (execOp a.eval o).run P c.w=.ok (.value (.pointer (some ⟨b,off+zf (zs.take f),none⟩))) c.w:=by
  intro b off zs z n hd hz hf hn hp;obtain⟨gs,fd,h1,h2,h3,h4⟩:=hT.field hd hz hf;unfold execOp;rw[ho];simp only[Instr.fieldAt,hp,Instr.sureAddr,Sem.run_bind,run_underlying h1,Result.andThen_ok,h2,Sem.run_pure,fieldPlace,Ru (h4.trans hn)];simp[addr_add,h3]
 split at h;{rename_i fs zs hd hz;split at h;{rename_i l;obtain⟨hfl,h⟩:=sW.1 h;obtain⟨z,hf,h⟩:=zV.1 h;split at h;{exact h.elim};rename_i n hn;obtain⟨y,hy,h⟩:=zV.1 h;obtain⟨ad,ds,e1,e2,hc,hrd⟩:=b0y hA;simp only[Rd]at hrd;obtain⟨pre,xs,post,rfl,h5,h6⟩:=a0U hrd hy;rw[X9 e2]at e1;refine .pure hr (run _ _ zs z n ⟨_,hd⟩ hz hf hn e1) (sD (a3C ?_ h6)) h;rw[<- hfl,<- h5];exact a1E hc};{rename_i j p off;obtain⟨z,hf,h⟩:=zV.1 h;split at h;{exact h.elim};rename_i n hn;have h:=MH.1 h;obtain⟨hk,e1⟩:=Po hA;exact .pure hr (run _ _ zs z n ⟨_,hd⟩ hz hf hn e1) (sD (Js hk)) h};exact h.elim};exact h.elim
theorem MK{kd:IntKind}{n:Int}{w:World}:(asIntOf (.int kd n)).run P w=.ok (kd,n) w:=rfl
theorem FN{t el:Nat}{x y:Operand}{ei:TI}(ho:o.op=.indexAddr t x y)(ht:P.underlying t=some (.slice el))(hE:Gi P el ei){ad:Addr}{len cap:Nat}{kd:IntKind}{n:Int}
  (hx:a.eval x=.slice (some ad) len cap) (hy:a.eval y=.int kd n) (h0:0<=n) (h1:n<(len:Int)) :
  (execOp a.eval o).run P c.w=.ok (.value (.pointer (some (ad.add (n.toNat*flat ei.zero))))) c.w:=by
 unfold execOp;rw[ho];simp only[Instr.indexAt,hx,hy,Sem.run_bind,MK,Result.andThen_ok,run_underlying ht,Sem.run_pure,h0,h1,and_self,if_true,hE.EK]
theorem PV{t el m:Nat}{x y:Operand}{ei:TI}(ho:o.op=.indexAddr t x y)(ht:P.underlying t=some (.array m el))(hE:Gi P el ei){ad:Addr}{kd:IntKind}{n:Int}
  (hx:a.eval x=.pointer (some ad)) (hy:a.eval y=.int kd n) (h0:0<=n) (h1:n<(m:Int)) :
  (execOp a.eval o).run P c.w=.ok (.value (.pointer (some (ad.add (n.toNat*flat ei.zero))))) c.w:=by
 unfold execOp;rw[ho];simp only[Instr.indexAt,hx,hy,Sem.run_bind,MK,Result.andThen_ok,run_underlying ht,Instr.sureAddr,Sem.run_pure,h0,h1,and_self,if_true,hE.EK]
theorem a0b(hL:uz P L){t:Nat}{x y:Operand}(hr:HR c H)(he:xU c e a)(hx:sU x=true)(hy:sU y=true)(ho:o.op=.indexAddr t x y)
  (h:uw e x λA=>uw e y λI=>Es L t A I λR=>k R H):uD P o a.eval c H k ks:=by
 obtain⟨A,hA,h⟩:=rO he hx h;obtain⟨I,hI,h⟩:=rO he hy h;unfold Es at h;split at h;{rename_i kd n;obtain⟨e2,_⟩:=Af hI;obtain⟨i,hT,h⟩:=Lay.su hL h;obtain⟨d,hd,hdd⟩:=hT.under;split at h;{rename_i el sz l tok hi _ _;obtain rfl:=sN (hdd.trans hi);obtain⟨ei,hE,h⟩:=Lay.su hL h;obtain⟨hsz,hix⟩:=sW.1 h;subst hsz;obtain⟨z,⟨h0,hz⟩,hk⟩:=hix.ex;have hlt:n.toNat<l.length:=(aY.1 hz).1;rcases(Yc hA).2 with⟨rfl,_⟩|⟨ad,cap,e1,_,_,hs,hre⟩;{simp at hlt};obtain⟨cs,g1,g2,g3⟩:=a8l hre hz;have hsp:=hs (by intro e;subst e;simp at hlt);rw[X9 hsp]at e1;have hrun:=FN (P:=P) (c:=c) ho hd hE e1 e2 h0 aj;rw[addr_add]at hrun;exact .pure hr hrun (sD (a3C g2 g3)) hk};{rename_i el j off len cap sz hi _ _;obtain rfl:=sN (hdd.trans hi);obtain⟨ei,hE,h⟩:=Lay.su hL h;obtain⟨rfl,⟨h0,h1⟩,hk⟩:=sW.1 h;obtain⟨hj,e1,_⟩:=Oj hA;have hrun:=FN (P:=P) (c:=c) ho hd hE e1 e2 h0 h1;rw[addr_add,<- dw]at hrun;exact .pure hr hrun (sD (Js hj)) hk};{rename_i m el j p off hi _ _;obtain rfl:=Xz (hdd.trans hi);obtain⟨ei,hE,⟨h0,h1⟩,h⟩:=Lay.su hL h;have hk:=MH.1 h;obtain⟨hj,e1⟩:=Po hA;have hrun:=PV (P:=P) (c:=c) ho hd hE e1 e2 h0 h1;rw[addr_add]at hrun;exact .pure hr hrun (sD (Js hj)) hk};exact h.elim};exact h.elim
theorem a8V(hL:uz P L){t:Nat}{x y:Operand}(hr:HR c H)(he:xU c e a)(hx:sU x=true)(hy:sU y=true)(ho:o.op=.index t x y)
  (h:uw e x λA=>uw e y λI=>SL L t A I λR=>k R H):uD P o a.eval c H k ks:=by
 obtain⟨A,hA,h⟩:=rO he hx h;obtain⟨I,hI,h⟩:=rO he hy h;have h':∃s kd n,A=.str s/\I=.int kd n/\L.sQ t λi=>(match i.desc with
  | .str=>Ce s n λb=>k (.int .u8 b.toNat) H
  |_=>False):=by
  unfold SL at h;cases A <;> cases I <;> first|exact h.elim|exact⟨_,_,_,rfl,rfl,h⟩
 clear h;obtain⟨s,kd,n,rfl,rfl,h⟩:=h';obtain⟨e2,_⟩:=Af hI;obtain⟨e1,_⟩:=Yz hA;obtain⟨i,hT,h⟩:=Lay.su hL h;obtain⟨d,hd,hdd⟩:=hT.under;split at h;{rename_i hi;obtain rfl:=En (hdd.trans hi);obtain⟨b,⟨h0,hb⟩,hk⟩:=h.ex;refine .pure hr (v:=.int .u8 b.toNat) ?_ (sD (uI ?_)) hk;{have hlt:n.toNat<s.length:=(aY.1 hb).1;have hs:(⟨s.toArray⟩:ByteArray)[n.toNat]? = some b:=(by rw[aH hlt]at hb;have h2:n.toNat<(⟨s.toArray⟩:ByteArray).size:=(by simpa[ByteArray.size]using hlt);rw[getElem?_pos (⟨s.toArray⟩:ByteArray) n.toNat h2];exact hb);unfold execOp;rw[ho];simp only[Instr.index,e1,e2,Sem.run_bind,MK,Result.andThen_ok,run_underlying hd,h0,if_true,hs,Sem.run_pure]};have:=b.toNat_lt;simp[KE,IntKind.min,IntKind.max,IntKind.signed,IntKind.bits];omega};exact h.elim
theorem a1a{x:Operand}(hr:HR c H)(he:xU c e a)(hx:sU x=true)(ho:o.op=.nilCheck x)
  (h:uw e x λA=>(match A with
  | .ptr _ _ _=>k A H
  | .cp _=>k A H
  | .fn _ _=>k A H
  |_=>False)):uD P o a.eval c H k ks:=by
 obtain⟨A,hA,h⟩:=rO he hx h;have run:∀v,a.eval x=v->((∃ad,v=.pointer (some ad))\/(∃f x y,v=.func (.func f) x y))->(execOp a.eval o).run P c.w=.ok (.value v) c.w:=(by rintro v hv (⟨ad,rfl⟩|⟨f,x,y,rfl⟩) <;> (unfold execOp;rw[ho];simp only[hv];rfl));split at h;{obtain⟨_,e1⟩:=Po hA;exact .pure hr (run _ rfl (.inl ⟨_,e1⟩)) hA h};{obtain⟨ad,ds,e1,_⟩:=b0y hA;exact .pure hr (run _ rfl (.inl ⟨_,e1⟩)) hA h};{obtain⟨vs,e1,_⟩:=b3T hA;exact .pure hr (run _ rfl (.inr ⟨_,_,_,e1⟩)) hA h};exact h.elim
theorem b1r:∀{l:List AV} {vs:List Value} {i:Nat} {x:AV},VA c l vs->l[i]? = some x->∃v,vs[i]? = some v/\VV c x v
 | [],_,_,_,_,h=>by simp at h
 | y::l,vs,0,x,hr,h=>by
   simp only[VA]at hr;obtain⟨v,r,rfl,h2,h3,h4⟩:=hr;obtain rfl:y=x:=by simpa using h
   exact⟨v,rfl,h2,h3⟩
 |y::l,vs,i+1,x,hr,h=>by simp only[VA]at hr;obtain⟨v,r,rfl,h2,h3,h4⟩:=hr;obtain⟨u,g1,g2⟩:=b1r (l:=l) (i:=i) h4 (by simpa using h);exact⟨u,by simpa using g1,g2⟩
theorem a3U{x:Operand}{i:Nat}(hr:HR c H)(he:xU c e a)(hx:sU x=true)(ho:o.op=.extract x i)
  (h:uw e x λA=>(match A with
  | .uy l=>Hu l i λR=>k R H
  |_=>False)):uD P o a.eval c H k ks:=by
 obtain⟨A,hA,h⟩:=rO he hx h;split at h;{obtain⟨R,hR,h⟩:=zV.1 h;obtain⟨vs,e1,h2⟩:=hA;obtain⟨v,h3,h4⟩:=b1r h2 hR;refine .pure hr (v:=v) ?_ (sD h4) h;unfold execOp;rw[ho];rw[bG]at h3;simp only[Instr.extract,e1,h3,Sem.run_bind,Sem.run_pure,Result.andThen_ok]};exact h.elim
theorem b2d{op:UnOp}{t:Nat}{x:Operand}(hr:HR c H)(he:xU c e a)(hx:sU x=true)(ho:o.op=.unOp op t x)
  {F:FT} {vV:AV->Prop} (h:xI F vV L (.unOp op t x) e H k ks):uD P o a.eval c H k ks:=by
 simp only[xI]at h;cases op with
 |not =>obtain⟨A,hA,h⟩:=rO he hx h;have h:KG A λR=>k R H:=h;have hn:(∀l,A≠.uy l)/\A≠.und:=(by refine⟨?_,?_⟩ <;> intros <;> intro e <;> subst e <;> simp[KG]at h);have hV:=vF hA hn.1 hn.2;obtain⟨b,hb⟩:=RG hV h;rw[hb]at hV;obtain⟨R,h1,h2⟩:=Ee hV h;refine .pure hr (v:=.bool !b) ?_ (sD h1) h2;unfold execOp;rw[ho];simp only[Op.unary,hb,Sem.run_bind,Sem.run_pure,Result.andThen_ok]
 | neg =>
   obtain⟨A,hA,h⟩:=rO he hx h;have h':∃ka n,A=.int ka n/\arith ka (0-n) λR=>k R H:=by cases A <;> first|exact h.elim|exact⟨_,_,rfl,h⟩
   obtain⟨ka,n,rfl,h⟩:=h';obtain⟨e1,_⟩:=Af hA;obtain⟨R,h1,h2⟩:=Fe (c:=c) h;refine .pure hr ?_ (sD h1) h2;unfold execOp;rw[ho];simp only[Op.unary,e1,Op.intArith,Sem.run_bind,Sem.run_pure,Result.andThen_ok]
 |xor=>obtain⟨A,hA,h⟩:=rO he hx h;exact h.elim
 |plus=>obtain⟨A,hA,h⟩:=rO he hx h;exact h.elim
end
end Go.AL
namespace Go.AL
section
variable{P:Program}{L:Lay}{c:Cx}{H:Heap}{e:Env}{a:Act}{k:AV->Heap->Prop}{ks:Heap->Prop}{o:Oper}
theorem a8N(hr:HR c H){A:AV}{v:Value}(t:Nat)(hv:VV c A v) :
  Tr c H (c.push (.cells v.cells t) ((nextId H,.box A)::H)) ((nextId H,.box A)::H):=by
 refine Tr.push hr _ _ (λ_=>rfl) ?_;refine⟨v.cells.toList,t,?_,DX (UE hr _ _) _ _ hv.2,?_⟩;{rw[ELρ hr];simp only[Cx.push,jc];exact alloc_heap_new _ _};intro x hx;rw[ELρ hr]at hx;have:=hr.im _ _ hx;omega
theorem b0Q(hr:HR c H){A:AV}{v:Value}(t:Nat)(hv:VV c A v)(hrun:(execOp a.eval o).run P c.w=.ok (.value (.pointer (some ⟨c.w.heap.size,0,none⟩))) (c.w.alloc (.cells v.cells t)))
  (h:GH H (.box A) λj H'=>k (.ptr j [] 0) H'):uD P o a.eval c H k ks:=by
 have h:=wF.1 h;have htr:=a8N hr t hv;refine .inl ⟨_,c.push (.cells v.cells t) ((nextId H,.box A)::H),_,_,hrun,htr,?_,h⟩;have:=Js (c:=c.push (.cells v.cells t) ((nextId H,.box A)::H)) (i:=nextId H) (off:=0) (p:=[]) (by simp only[Cx.push,hr.nx];omega);rw[ELρ hr]at this;exact sD this
theorem a8Z(hL:uz P L){t:Nat}(hr:HR c H)(ho:o.op=.alloc t)(h:L.sQ t λi=>GH H (.box i.zero) λj H'=>k (.ptr j [] 0) H'):uD P o a.eval c H k ks:=by obtain⟨i,hT,h⟩:=Lay.su hL h;obtain⟨v,h1,h2,h3⟩:=hT.KP c.w;refine b0Q hr t (A:=i.zero) (v:=v) ⟨h2,yP _ _ (h3 _ _)⟩ ?_ h;unfold execOp;rw[ho];simp only[Instr.alloc,Sem.run_bind,h1,Result.andThen_ok,newVar,newRow,run_newObj,Sem.run_pure,World.alloc_eq]
theorem b4K(hL:uz P L){t:Nat}{x:Operand}(hr:HR c H)(he:xU c e a)(hx:sU x=true)(ho:o.op=.box t x)
  (h:uw e x λA=>OZ L t A (GH H (.box A) λj H'=>k (.ptr j [] 0) H')):uD P o a.eval c H k ks:=by
 obtain⟨A,hA,h⟩:=rO he hx h;obtain⟨hval,i,hT,_,_,h⟩:=Ae hL h;refine b0Q hr t (Ey hA hval) ?_ h;unfold execOp;rw[ho];simp only[Instr.box,Sem.run_bind,Result.andThen_ok,newVar,newRow,run_newObj,Sem.run_pure,World.alloc_eq]
theorem Bj{x:Option Operand}{d:Int}{k:Int->Prop}(he:xU c e a)(hx:x.all sU=true)(h:LM e x d k) :
  ∃n,k n/\((x=none/\n=d)\/∃y kd,x=some y/\a.eval y=.int kd n):=by
 cases x with
 |none=>exact⟨d,h,.inl ⟨rfl,rfl⟩⟩
 |some y =>obtain⟨A,hA,h⟩:=rO he (by simpa using hx) h;cases A <;> first|exact h.elim|exact⟨_,h,.inr ⟨_,_,rfl,(Af hA).1⟩⟩
theorem run_sliceBound{kd:IntKind}{n:Int}{m:Nat}{w:World}{cd:BoundsCode}(h0:0<=n)(h1:n<=(m:Int)):(Instr.sliceBound (.int kd n) m cd).run P w=.ok n.toNat w:=by unfold Instr.sliceBound;simp only[Sem.run_bind,MK,Result.andThen_ok,h0,h1,and_self,if_true,Sem.run_pure]
theorem Ag{b:Bool}{len cap:Nat}{lo hi:Option Operand}{w:World}{l h:Int}(hlc:len<=cap)
  (hl:(lo=none/\l=0)\/∃y kd,lo=some y/\a.eval y=.int kd l) (hh:(hi=none/\h=(len:Int))\/∃y kd,hi=some y/\a.eval y=.int kd h)
  (h0:0<=l) (h1:l<=h) (h2:h<=(len:Int)):(Instr.sliceBounds b len cap (lo.map a.eval) (hi.map a.eval) none).run P w=.ok (l.toNat,h.toNat,cap) w:=by
 unfold Instr.sliceBounds;rcases hh with⟨rfl,rfl⟩|⟨y,kd,rfl,ey⟩ <;> rcases hl with⟨rfl,rfl⟩|⟨z,kd',rfl,ez⟩;{simp only[iJ,Sem.run_bind,Sem.run_pure,Result.andThen_ok];rfl};{simp only[iJ,iI,Sem.run_bind,Sem.run_pure,Result.andThen_ok,ez,run_sliceBound h0 h1,aO]};{simp only[iJ,iI,Sem.run_bind,Sem.run_pure,Result.andThen_ok,ey];rw[run_sliceBound aj aj];rfl};simp only[iI,Sem.run_bind,Sem.run_pure,Result.andThen_ok,ey,ez];rw[run_sliceBound aj aj];simp only[Result.andThen_ok];rw[run_sliceBound h0 aj];rfl
theorem a8U(hL:uz P L){t:Nat}{x:Operand}{lo hi:Option Operand}(hr:HR c H)(he:xU c e a)(hx:sU x=true)(hlo:lo.all sU=true)(hhi:hi.all sU=true)
  (ho:o.op=.slice t x lo hi none) (h:uw e x λA=>aslice L t e A lo hi λR=>k R H):uD P o a.eval c H k ks:=by
 obtain⟨A,hA,h⟩:=rO he hx h;unfold aslice at h;obtain⟨i,hT,h⟩:=Lay.su hL h;obtain⟨d,hd,hdd⟩:=hT.under;split at h;{rename_i s hi' _;obtain rfl:=En (hdd.trans hi');obtain⟨e1,hs⟩:=Yz hA;obtain⟨l,h,hl⟩:=Bj he hlo h;obtain⟨m,h,hm⟩:=Bj he hhi h;obtain⟨⟨h0,h1,h2⟩,hk⟩:=h.ex;refine .pure hr (v:=.string ⟨((s.drop l.toNat).take (m.toNat-l.toNat)).toArray⟩) ?_ (sD (a0Q ?_)) hk;{have hsz:(⟨s.toArray⟩:ByteArray).size=s.length:=(by simp[ByteArray.size]);unfold execOp;rw[ho];simp only[Instr.sliceAt,Instr.slice,e1,Sem.run_bind,run_underlying hd,Result.andThen_ok,Option.isSome_none,dO,if_false,hsz,Sem.run_pure,iJ];rw[Ag (P:=P) (a:=a) (aT _) hl hm h0 h1 h2];simp only[Result.andThen_ok];congr 3;apply ByteArray.ext;simp[ByteArray.data_extract]};have:((s.drop l.toNat).take (m.toNat-l.toNat)).length<=s.length:=aA;omega};{rename_i el sz l tok hi' _;obtain rfl:=sN (hdd.trans hi');obtain⟨ei,hE,h⟩:=Lay.su hL h;obtain⟨hsz,h⟩:=sW.1 h;subst hsz;obtain⟨p,h,hp⟩:=Bj he hlo h;obtain⟨q,h,hq⟩:=Bj he hhi h;obtain⟨⟨h0,h1,h2⟩,hk⟩:=h.ex;obtain⟨hml,hv⟩:=Yc hA;have hlen:((l.drop p.toNat).take (q.toNat-p.toNat)).length=q.toNat-p.toNat:=aA;rcases hv with⟨rfl,e1⟩|⟨ad,cap,e1,hc1,hc2,hs,hre⟩;{have hp0:p=0:=(by simp at h2;omega);have hq0:q=0:=(by simp at h2;omega);subst hp0;subst hq0;refine .pure hr (v:=.slice none 0 0) ?_ (sD (vG rfl rfl ?_)) hk;{unfold execOp;rw[ho];simp only[Instr.sliceAt,Instr.slice,e1,Sem.run_bind,run_underlying hd,Result.andThen_ok,iJ];rw[Ag (P:=P) (a:=a) (aT _) hp (h:=0) (by rcases hq with⟨h1,_⟩|h1;exact .inl ⟨h1,rfl⟩;exact .inr h1) aj aj ak];simp only[Result.andThen_ok,hE.EK];rfl};simp only[VR,Rd];exact⟨ak,.inl ⟨ak,trivial⟩⟩};refine .pure hr (v:=.slice (if cap=p.toNat then some ad else some (ad.add (p.toNat*flat ei.zero))) (q.toNat-p.toNat) (cap-p.toNat)) ?_ (sD (vG rfl rfl ?_)) hk;{unfold execOp;rw[ho];simp only[Instr.sliceAt,Instr.slice,e1,Sem.run_bind,run_underlying hd,Result.andThen_ok,iJ];rw[Ag (P:=P) (a:=a) hc1 hp hq h0 h1 h2];simp only[Result.andThen_ok,hE.EK,iI,Sem.run_pure]};simp only[VR,Rd,hlen];refine⟨aj,.inr ?_⟩;by_cases hcp:cap=p.toNat;{rw[aG hcp];have hq':q.toNat-p.toNat=0:=aj;refine⟨ad,cap-p.toNat,by rw[hq'],aj,aj,?_,?_⟩;{intro hne;exact absurd (bQ (by rw[hlen,hq'])) hne};rw[hq',kC];simp only[IZ]};rw[aB hcp];refine⟨ad.add (p.toNat*flat ei.zero),cap-p.toNat,rfl,aj,aj,?_,?_⟩;{intro hne;unfold Addr.add;split;{refine hs ?_;intro e;subst e;exact hne ak};rfl};have hb:(ad.add (p.toNat*flat ei.zero)).block=ad.block/\(ad.add (p.toNat*flat ei.zero)).off=ad.off+p.toNat*flat ei.zero:=(by unfold Addr.add;split;{rename_i h0;rw[h0];exact⟨rfl,rfl⟩};exact⟨rfl,rfl⟩);rw[hb.1,hb.2];exact Yu _ (a3H _ hre aj)};{rename_i el j off len cap sz hi' _;obtain rfl:=sN (hdd.trans hi');obtain⟨ei,hE,h⟩:=Lay.su hL h;obtain⟨hsz,h⟩:=sW.1 h;subst hsz;obtain⟨p,h,hp⟩:=Bj he hlo h;obtain⟨q,h,hq⟩:=Bj he hhi h;obtain⟨⟨h0,h1,h2⟩,hcp,hk⟩:=h;obtain⟨hj,e1,hc1,hc2⟩:=Oj hA;refine .pure hr (v:=.slice (some ⟨c.ρ j,(off+p.toNat)*flat ei.zero,none⟩) (q.toNat-p.toNat) (cap-p.toNat)) ?_ (sD (vG rfl rfl ?_)) hk;{unfold execOp;rw[ho];simp only[Instr.sliceAt,Instr.slice,e1,Sem.run_bind,run_underlying hd,Result.andThen_ok,iJ];rw[Ag (P:=P) (a:=a) hc1 hp hq h0 h1 h2];simp only[Result.andThen_ok,hE.EK,iI,Sem.run_pure];rw[aB aj,addr_add,dw]};simp only[VR];exact⟨hj,trivial,aj,aj⟩};{rename_i el hi' _;obtain rfl:=sN (hdd.trans hi');obtain⟨ei,hE,h⟩:=Lay.su hL h;obtain⟨p,h,hp⟩:=Bj he hlo h;obtain⟨q,h,hq⟩:=Bj he hhi h;obtain⟨⟨rfl,rfl⟩,hk⟩:=h;have e1:=DW hA;refine .pure hr (v:=.slice none 0 0) ?_ (e1 ▸ hA) hk;unfold execOp;rw[ho];simp only[Instr.sliceAt,Instr.slice,e1,Sem.run_bind,run_underlying hd,Result.andThen_ok,iJ];rw[Ag (P:=P) (a:=a) (aT _) hp (h:=0) hq aj aj ak];simp only[Result.andThen_ok,hE.EK];rfl};exact h.elim
end
end Go.AL
namespace Go.AL
theorem b3U{c:Cx}:∀{As:List AV} {vs:List Value},Oo c As vs->(∀A∈As,isVal A=true)->VA c As vs
 | [],vs,h,_=>by simp only[VA];exact h
 |A::As,vs,h,hv=>by obtain⟨v,r,rfl,h1,h2⟩:=h;simp only[VA];exact⟨v,r,rfl,(Ey h1 (hv A ak)).1,(Ey h1 (hv A ak)).2,b3U h2 λx hx=>hv x (by simp[hx])⟩
theorem Rl{k:Prop}:∀{As:List AV},Ti As k->(∀A∈As,isVal A=true)/\k
 | [],h=>⟨ak,h⟩
 |A::As,h=>by simp only[Ti]at h;obtain⟨h1,h2⟩:=KL.1 h;obtain⟨h3,h4⟩:=Rl h2;exact⟨by intro x hx;rcases aU.1 hx with rfl|hx;exact h1;exact h3 x hx,h4⟩
section
variable{P:Program}{L:Lay}{c:Cx}{H:Heap}{e:Env}{a:Act}{k:AV->Heap->Prop}{ks:Heap->Prop}{o:Oper}
theorem a3V(hL:uz P L){s d:Nat}{x:Operand}(hr:HR c H)(he:xU c e a)(hx:sU x=true)(ho:o.op=.convert s d x)
  (h:uw e x λA=>L.sQ s λ_=>L.sQ d λi=>(match i.desc,A with
  | .int kd,.int _ n=>k (.int kd (kd.wrap n)) H
  | .str,.str s=>k (.str s) H
  |_,_=>False)):uD P o a.eval c H k ks:=by
 obtain⟨A,hA,h⟩:=rO he hx h;obtain⟨i0,hT0,h0⟩:=Lay.su hL h;clear h;obtain⟨i,hT,h⟩:=Lay.su hL h0;clear h0;obtain⟨u,hd,hdd⟩:=hT.under;obtain⟨us,hs,_⟩:=hT0.under;split at h;{rename_i _ _ kd kd' n hi;obtain rfl:=Xy (hdd.trans hi);obtain⟨e1,_⟩:=Af hA;refine .pure hr (v:=.int kd (kd.wrap n)) ?_ (sD (uI (EI _ _))) h;unfold execOp;rw[ho];simp only[convert,e1,Sem.run_bind,run_underlying hs,run_underlying hd,Result.andThen_ok,Conv.intToInt,Sem.run_pure]};{rename_i _ _ b hi;obtain rfl:=En (hdd.trans hi);obtain⟨e1,h1⟩:=Yz hA;refine .pure hr (v:=a.eval x) ?_ hA h;unfold execOp;rw[ho];simp only[convert,e1,Sem.run_bind,run_underlying hs,run_underlying hd,Result.andThen_ok,Sem.run_pure]};exact h.elim
theorem RD(hL:uz P L){t:Nat}{x:Operand}(hr:HR c H)(he:xU c e a)(hx:sU x=true)(ho:o.op=.makeInterface t x)
  (h:uw e x λA=>L.sQ t λi=>(match i.desc with
  | .iface=>False
  |_=>Vt A (k (.uY t A) H))):uD P o a.eval c H k ks:=by
 obtain⟨A,hA,h⟩:=rO he hx h;obtain⟨i,hT,h⟩:=Lay.su hL h;obtain⟨u,hd,hdd⟩:=hT.under;have h':i.desc≠.iface/\isVal A=true/\k (.uY t A) H:=by cases hi:i.desc <;> simp only[hi]at h <;> first|exact h.elim|exact⟨ak,KL.1 h⟩
 obtain⟨hne,hval,hk⟩:=h';have hV:=Ey hA hval;refine .pure hr (v:=.iface t (a.eval x)) ?_ (sD (vG rfl rfl ?_)) hk
 ·unfold execOp;rw[ho];have:∀ms,u≠.interface ms:=by intro ms e;subst e;exact hne hdd.symm
  simp only[Instr.makeInterface,Sem.run_bind,run_underlying hd,Result.andThen_ok];cases u <;> first|rfl|exact absurd rfl (this _)
 simp only[VR];exact⟨_,rfl,hV.1,hV.2⟩
theorem a1b{f:Fn}{first cap:Array Operand}(hr:HR c H)(he:xU c e a)(hx:cap.toList.all sU=true)(ho:o.op=.makeFunc f first cap)
  {F:FT} {vV:AV->Prop} (h:xI F vV L (.makeFunc f first cap) e H k ks):uD P o a.eval c H k ks:=by
 simp only[xI]at h;cases f with
 | func g =>
   cases hf:first.toList with
   | nil =>
     rw[hf]at h;obtain⟨As,h1,h2⟩:=CY he hx h;obtain⟨h3,h4⟩:=Rl h2;have hV:=b3U h1 h3;obtain rfl:first = #[]:=by cases first;simp_all
     refine .pure hr (v:=.func (.func g) #[] (cap.toList.map a.eval).toArray) ?_ (sD (vG rfl rfl ?_)) h4;{unfold execOp;rw[ho];simp[Instr.makeFunc];exact Array.ext' ak};simp only[VR];exact⟨_,rfl,hV⟩
   |cons x l=>rw[hf]at h;exact h.elim
 |_=>exact h.elim
theorem Kv:∀{As Bs:List AV} {vs us:List Value},Oo c As vs->Oo c Bs us->Oo c (As++Bs) (vs++us)
 | [],_,_,_,h,g=>by obtain rfl:=h;exact g
 |A::As,Bs,vs,us,h,g=>by obtain⟨v,r,rfl,h1,h2⟩:=h;exact⟨v,r++us,rfl,h1,Kv h2 g⟩
theorem NG:∀{As:List AV} {vs:List Value},VA c As vs->Oo c As vs
 | [],_,h=>by simp only[VA]at h;exact h
 |A::As,vs,h=>by simp only[VA]at h;obtain⟨v,r,rfl,h1,h2,h3⟩:=h;exact⟨v,r,rfl,sD ⟨h1,h2⟩,NG h3⟩
theorem b4W{A B:AV}{v:Value}(h:le0 A B)(hv:EV c A v):EV c B v:=by
 cases A with
 |uy l=>cases B <;> simp only[le0]at h <;> cases h;exact hv
 |und=>cases B <;> simp only[le0]at h <;> first|(cases h;done)|trivial
 |_=>exact sD (RN h hv)
theorem Ih:∀{l m:List AV} {vs:List Value},Ld l m->Oo c l vs->Oo c m vs
 | [],[],_,_,hr=>hr
 | [],_::_,_,h,_=>by simp only[Ld]at h
 |_::_,[],_,h,_=>by simp only[Ld]at h
 |x::l,y::m,vs,h,hr=>by simp only[Ld]at h;obtain⟨v,r,h1,h2,h3⟩:=hr;exact⟨v,r,h1,b4W h.1 h2,Ih h.2 h3⟩
theorem a15{G:Heap}(htp:∀k n,uj G k=some n->c.tp k=some n):∀{l:List AV} {vs:List Value},vW (nextId G) l=true->Oo c l vs->Oo (c.cut G) l vs
 | [],_,_,hr=>hr
 | x::l,vs,hb,hr=>by
   simp only[vW]at hb;obtain⟨v,r,h1,h2,h3⟩:=hr;cases hx:tH (nextId G) x with
   |false=>rw[hx]at hb;cases hb
   |true=>rw[hx]at hb;exact⟨v,r,h1,Tc htp hx h2,a15 htp hb h3⟩
theorem qZ.pure{f:Nat}{Bs:List AV}{R:AV}(h:qZ P f Bs [] R [])(hB:vW 0 Bs=true)(hR:tH 0 R=true)(hr:HR c H){vs:List Value}(hv:Oo c Bs vs) :
  Calls P f vs.toArray c.w λe w'=>∃v d,e=.returned v/\d.w=w'/\Tr c H d H/\EV d R v:=by
 have hr0:HR (c.cut []) []:=⟨rfl,rfl,trivial,hr.im,ak,.nil⟩;have hv0:Oo (c.cut []) Bs vs:=a15 (G:=[]) (λk n hn=>by cases hn) hB hv;refine Calls.mono (w:=(c.cut []).w) (h.2 (c.cut []) vs hr0 hv0) ?_;rintro _ w' ⟨v,d,rfl,rfl,htr,hV⟩;refine⟨v,{ c with w:=d.w,Im:=d.Im },rfl,rfl,?_,?_⟩;{refine Tr.keep hr ⟨htr.le.im,aT _,λ_ _=>rfl,λ_ _ _ h=>.inl ⟨h,rfl⟩⟩ rfl rfl rfl htr.os htr.tape htr.output htr.size (λb hb=>htr.fr b hb ak) (λb o ho=>?_);rcases htr.imb b o ho with h|h|⟨x,hx,_⟩;{exact .inl h};{exact .inr ⟨h,htr.hr.im b o ho⟩};simp at hx};have h1:EV (d.cut []) R v:=Tc (G:=[]) (λk n hn=>by cases hn) hR hV;refine CB (c:=d.cut []) (d:={ c with w:=d.w,Im:=d.Im }) ⟨λ_ _ h=>⟨h,rfl⟩,aP _,λk hk=>?_,λk n hk=>?_⟩ h1;{simp[Cx.cut,nextId]at hk};simp[Cx.cut,nextId]at hk
theorem YG{F:FT}(hFn:FS P F){f:Operand}{cl:Call}(hr:HR c H)(he:xU c e a)(hf:sU f=true)(hx:cl.args.toList.all sU=true)(ho:o.op=.call cl)(hc:cl.callee=.value f)
  (h:uw e f λA=>(match A with
   | .fn g cap=>FD e cl.args.toList λAs=>Y1 As cap λBs=>IB F Ok g Bs H k
   |_=>False)):uD P o a.eval c H k ks:=by
 obtain⟨A,hA,h⟩:=rO he hf h;split at h
 ·rename_i g cap;obtain⟨vs,e1,h1⟩:=b3T hA;obtain⟨As,h2,h3⟩:=CY he hx h;have h3:=QS.1 h3
  have key:∃ R H',(∃ fn,P.funcs[g]? = some fn/\(fn.name== "runtime.NumGoroutine")=false/\fn.body.isSome=true) /\
    (Calls P g (cl.args.toList.map a.eval++vs).toArray c.w λe w'=>∃v d,e=.returned v/\d.w=w'/\Tr c H d H'/\EV d R v)/\k R H':=by
   have fin:∀{R H'},(Calls P g (cl.args.toList.map a.eval++vs).toArray c.w λe w'=>∃v d,e=.returned v/\d.w=w'/\Tr c H d H'/\EV d R v)->Ok R:=(by intro R H' hcall;obtain⟨e',w',fr,⟨v,d,_,_,_,h8⟩,_⟩:=hcall [];exact Me h8);cases h3 with
   |gen R H' hF hk =>have hF:=hFn.h _ _ _ _ _ hF;have hcall:=hF.2 c _ hr (Kv h2 (NG h1));exact⟨R,H',hF.1,hcall,hk (fin hcall)⟩
   |pure Bs R hle hb hF hk =>have hF:=hFn.h _ _ _ _ _ hF;have hcall:=qZ.pure hF hb.1 hb.2 hr (Ih hle (Kv h2 (NG h1)));exact⟨R,H,hF.1,hcall,hk (fin hcall)⟩
  obtain⟨R,H',⟨fn,f1,f2,f3⟩,hcall,hk⟩:=key;refine .inr (.inr ⟨g,_,?_,hcall.mono λ_ _ ⟨v,d,h1,h2,h3,h4⟩=>⟨v,d,R,H',h1,h2,h3,h4,hk⟩⟩);unfold execOp;rw[ho];simp only[resolve,hc,e1,Deferred.ofValue,Sem.run_bind,Sem.run_pure,Result.andThen_ok,invoke,callFunc,run_program,f1,f2,dO,if_false];have:fn.body.isNone=false:=by cases hb:fn.body <;> simp[hb]at f3 ⊢
  simp only[this,dO,if_false,Sem.run_pure];congr 2;simp
 exact h.elim
theorem Uz.pure{f:Nat}{Bs:List AV}{Q:AV->Prop}(h:Uz P f Bs [] λR H'=>H'=[]/\tH 0 R=true/\Q R)(hB:vW 0 Bs=true)(hr:HR c H){vs:List Value}(hv:Oo c Bs vs) :
  Calls P f vs.toArray c.w λe w'=>∃v d R H',(H'=H/\Q R)/\e=.returned v/\d.w=w'/\Tr c H d H'/\EV d R v:=by
 have hr0:HR (c.cut []) []:=⟨rfl,rfl,trivial,hr.im,ak,.nil⟩;have hv0:Oo (c.cut []) Bs vs:=a15 (G:=[]) (λk n hn=>by cases hn) hB hv;refine Calls.mono (w:=(c.cut []).w) (h.2 (c.cut []) vs hr0 hv0) ?_;rintro _ w' ⟨v,d,R,_,⟨rfl,hR,hQ⟩,rfl,rfl,htr,hV⟩;refine⟨v,{ c with w:=d.w,Im:=d.Im },R,H,⟨rfl,hQ⟩,rfl,rfl,?_,?_⟩;{refine Tr.keep hr ⟨htr.le.im,aT _,λ_ _=>rfl,λ_ _ _ h=>.inl ⟨h,rfl⟩⟩ rfl rfl rfl htr.os htr.tape htr.output htr.size (λb hb=>htr.fr b hb ak) (λb o ho=>?_);rcases htr.imb b o ho with h|h|⟨x,hx,_⟩;{exact .inl h};{exact .inr ⟨h,htr.hr.im b o ho⟩};simp at hx};have h1:EV (d.cut []) R v:=Tc (G:=[]) (λk n hn=>by cases hn) hR hV;refine CB (c:=d.cut []) (d:={ c with w:=d.w,Im:=d.Im }) ⟨λ_ _ h=>⟨h,rfl⟩,aP _,λk hk=>?_,λk n hk=>?_⟩ h1;{simp[Cx.cut,nextId]at hk};simp[Cx.cut,nextId]at hk
theorem a1c{F:FT}(hFn:FS P F){f:Operand}{cl:Call}(hr:HR c H)(he:xU c e a)(hx:cl.args.toList.all sU=true)(ho:o.op=.call cl)(hc:cl.callee=.value f){g:Nat}{cap:List AV}(hA:EV c (.fn g cap) (a.eval f))
  (h:FD e cl.args.toList λAs=>Y1 As cap λBs=>IW F Ok g Bs H k):uD P o a.eval c H k ks:=by
 obtain⟨vs,e1,h1⟩:=b3T hA;obtain⟨As,h2,h3⟩:=CY he hx h;have h3:=QS.1 h3;have hv:=Kv h2 (NG h1)
 have key:(∃ fn,P.funcs[g]? = some fn/\(fn.name== "runtime.NumGoroutine")=false/\fn.body.isSome=true) /\
   (Calls P g (cl.args.toList.map a.eval++vs).toArray c.w λe w'=>∃v d R H',e=.returned v/\d.w=w'/\Tr c H d H'/\EV d R v/\k R H'):=by
  cases h3 with
  |gen R H' hF hk =>have hF:=hFn.h _ _ _ _ _ hF;exact⟨hF.1,(hF.2 c _ hr hv).mono λ_ _ ⟨v,d,h1,h2,h3,h4⟩=>⟨v,d,R,H',h1,h2,h3,h4,hk (Me h4)⟩⟩
  |pure Bs R hle hb hF hk =>have hF:=hFn.h _ _ _ _ _ hF;exact⟨hF.1,(qZ.pure hF hb.1 hb.2 hr (Ih hle hv)).mono λ_ _ ⟨v,d,h1,h2,h3,h4⟩=>⟨v,d,R,H,h1,h2,h3,h4,hk (Me h4)⟩⟩
  |rel Q hF hk =>have hF:=hFn.q _ _ _ _ hF;exact⟨hF.1,(hF.2 c _ hr hv).mono λ_ _ ⟨v,d,R,H',hQ,h1,h2,h3,h4⟩=>⟨v,d,R,H',h1,h2,h3,h4,hk R H' hQ (Me h4)⟩⟩
  |b71 Bs Q hle hb hF hk =>have hF:=hFn.q _ _ _ _ hF;refine⟨hF.1,(Uz.pure hF hb hr (Ih hle hv)).mono ?_⟩;rintro _ _ ⟨v,d,R,_,⟨rfl,hQ⟩,h1,h2,h3,h4⟩;exact⟨v,d,R,_,h1,h2,h3,h4,hk R hQ (Me h4)⟩
 obtain⟨⟨fn,f1,f2,f3⟩,hcall⟩:=key;refine .inr (.inr ⟨g,_,?_,hcall⟩);unfold execOp;rw[ho];simp only[resolve,hc,e1,Deferred.ofValue,Sem.run_bind,Sem.run_pure,Result.andThen_ok,invoke,callFunc,run_program,f1,f2,dO,if_false];have:fn.body.isNone=false:=by cases hb:fn.body <;> simp[hb]at f3 ⊢
 simp only[this,dO,if_false,Sem.run_pure];congr 2;simp
theorem yg{cl:Call}{b:Builtin}(ho:o.op=.call cl)(hc:cl.callee=.builtin b){w:World} :
  (execOp a.eval o).run P w=(builtin b cl.argTypes o.type (cl.args.map fun | .const _=>true|_=>false) (cl.args.map a.eval)).run P w:=by
 unfold execOp;rw[ho];simp only[resolve,hc,Sem.run_bind,Sem.run_pure,Result.andThen_ok,invoke];rfl
theorem ND{A:AV}{vs:List Value}(h:Oo c [A] vs):∃v,vs=[v]/\EV c A v:=by obtain⟨v,r,rfl,h1,h2⟩:=h;obtain rfl:=h2;exact⟨v,rfl,h1⟩
theorem Ku{A B:AV}{vs:List Value}(h:Oo c [A,B] vs):∃v u,vs=[v,u]/\EV c A v/\EV c B u:=by obtain⟨v,r,rfl,h1,h2⟩:=h;obtain⟨u,rfl,h3⟩:=ND h2;exact⟨v,u,rfl,h1,h3⟩
theorem yh{xs:Array Operand}{ρ:Operand->Value}{vs:List Value}(h:xs.toList.map ρ=vs):xs.map ρ=vs.toArray:=by subst h;exact Array.ext' ak
end
end Go.AL
namespace Go.AL
def Jw(w:World)(Im:Nat->Nat->Prop)(sz:Nat):List AV->List Value->Prop
 | [],cs=>cs=[]
 |x::l,cs=>∃a d,cs=a++d/\a.length=sz/\Rd w Im x a/\Jw w Im sz l d
theorem vT{w:World}{Im:Nat->Nat->Prop}{sz:Nat}:∀{l:List AV} {cs:List Value},Jw w Im sz l cs->cs.length=l.length*sz
 | [],_,h=>by obtain rfl:=h;simp
 |x::l,cs,h=>by obtain⟨a,d,rfl,h1,_,h3⟩:=h;simp only[bC,dY,dw,vT h3,h1];omega
theorem Ht{w:World}{Im:Nat->Nat->Prop}{sz:Nat}:∀{l m:List AV} {cs ds:List Value},Jw w Im sz l cs->Jw w Im sz m ds->Jw w Im sz (l++m) (cs++ds)
 | [],_,_,_,h,g=>by obtain rfl:=h;exact g
 |x::l,m,cs,ds,h,g=>by obtain⟨a,d,rfl,h1,h2,h3⟩:=h;exact⟨a,d++ds,ak,h1,h2,Ht h3 g⟩
theorem xQ{w w':World}{Im Im':Nat->Nat->Prop}(h:∀b o,Im b o->Im' b o/\w'.cell? ⟨b,o,none⟩=w.cell? ⟨b,o,none⟩){sz:Nat} :
  ∀{l:List AV} {cs:List Value},Jw w Im sz l cs->Jw w' Im' sz l cs
 | [],_,hr=>hr
 |x::l,cs,hr=>by obtain⟨a,d,h1,h2,h3,h4⟩:=hr;exact⟨a,d,h1,h2,wC h _ _ h3,xQ h h4⟩
theorem Iy{c:Cx}{sz:Nat}:∀{l:List AV} {cs:List Value},Jw c.w c.Im sz l cs->∀u∈cs,u.oneCell'=true
 | [],_,h=>by obtain rfl:=h;simp
 |x::l,cs,h=>by obtain⟨a,d,rfl,h1,h2,h3⟩:=h;intro u hu;rcases dM.1 hu with hu|hu;{exact Eu x a (yP _ _ h2) u hu};exact Iy h3 u hu
theorem J7{w:World}{Im:Nat->Nat->Prop}{sz b:Nat}:∀{l:List AV} {off:Nat},IZ w Im sz b l off ->
  ∃cs,Jw w Im sz l cs/\∀j v,cs[j]? = some v->w.cell? ⟨b,off+j,none⟩=some v
 | [],off,_=>⟨[],rfl,ak⟩
 |x::l,off,h=>by simp only[IZ]at h;obtain⟨⟨a,h1,h2,h3⟩,h4⟩:=h;obtain⟨d,h5,h6⟩:=J7 h4;refine⟨a++d,⟨a,d,rfl,h1,h3,h5⟩,λj v hj=>?_⟩;by_cases hlt:j<a.length;{rw[bI hlt]at hj;exact(h2 j v hj).1};rw[dK aj]at hj;have:=h6 _ v hj;have e:off+sz+(j-a.length)=off+j:=aj;rw[e]at this;exact this
theorem Bq{w:World}{Im:Nat->Nat->Prop}{sz b:Nat}:∀{l:List AV} {cs:List Value} {off:Nat},Jw w Im sz l cs->AO w Im b off cs->IZ w Im sz b l off
 | [],_,_,_,_=>by simp only[IZ]
 |x::l,cs,off,h,hc=>by obtain⟨a,d,rfl,h1,h2,h3⟩:=h;simp only[IZ];refine⟨⟨a,h1,λj v hj=>hc j v (by rw[bI (aY.1 hj).1];exact hj),h2⟩,Bq h3 λj v hj=>?_⟩;have:=hc (a.length+j) v (by rw[dK aj,jI];exact hj);rw[<- h1,iW];exact this
theorem Dh{c:Cx}{sz:Nat}:∀{l:List AV} {cs:List Value},Pq c sz l cs->∃a d,cs=a++d/\Jw c.w c.Im sz l a
 | [],cs,_=>⟨[],cs,rfl,rfl⟩
 |x::l,cs,h=>by obtain⟨a,d,rfl,h1,h2,h3⟩:=h;obtain⟨a',d',rfl,h4⟩:=Dh h3;exact⟨a++a',d',ak,a,a',rfl,h1,h2,h4⟩
theorem Dc{c:Cx}{sz:Nat}{rest:List Value}:∀{l:List AV} {cs:List Value},Jw c.w c.Im sz l cs->Pq c sz l (cs++rest)
 | [],_,_=>trivial
 |x::l,cs,h=>by obtain⟨a,d,rfl,h1,h2,h3⟩:=h;exact⟨a,d++rest,ak,h1,h2,Dc h3⟩
theorem Yt{w:World}{Im:Nat->Nat->Prop}{sz:Nat}:∀{l:List AV} {cs:List Value} (n:Nat),Jw w Im sz l cs->n<=l.length->Jw w Im sz (l.drop n) (cs.drop (n*sz))
 |l,cs,0,h,_=>by simpa using h
 | [],cs,n+1,_,h=>by simp at h
 |x::l,cs,n+1,h,hn=>by obtain⟨a,d,rfl,h1,h2,h3⟩:=h;have:=Yt n h3 (by simpa using hn);have e:(n+1)*sz=a.length+n*sz:=(by rw[dw,h1];omega);simp only[nM];rw[e,List.drop_append,aX (as:=a) aj,jI,fE];exact this
theorem Mc{w:World}{Im:Nat->Nat->Prop}{sz:Nat}:∀{l:List AV} {cs:List Value} (n:Nat),Jw w Im sz l cs->Jw w Im sz (l.take n) (cs.take (n*sz))
 |l,cs,0,h=>by simp[Jw]
 | [],cs,n+1,h=>by obtain rfl:=h;simp[Jw]
 |x::l,cs,n+1,h=>by obtain⟨a,d,rfl,h1,h2,h3⟩:=h;have:=Mc n h3;have e:(n+1)*sz=a.length+n*sz:=(by rw[dw,h1];omega);simp only[jk];rw[e,List.take_append,bf (l:=a) aj,jI];exact⟨a,_,rfl,h1,h2,this⟩
section
variable{P:Program}{L:Lay}{c:Cx}{H:Heap}{e:Env}{a:Act}{k:AV->Heap->Prop}{ks:Heap->Prop}{o:Oper}
theorem Ig{n:Nat}(h:n<=maxL):KE .i64 (n:Int):=by unfold maxL at h;simp[KE,IntKind.min,IntKind.max,IntKind.signed,IntKind.bits];omega
theorem b0T{cl:Call}{t:Nat}{i:TI}{A:AV}(hr:HR c H)(ho:o.op=.call cl)(hc:cl.callee=.builtin .len)(hat:cl.argTypes[0]? = some t)(hT:Gi P t i)
  {v:Value} (hv:cl.args.toList.map a.eval=[v]) (hA:EV c A v) (h:b0t i.desc A H λR=>k R H):uD P o a.eval c H k ks:=by
 obtain⟨d,hd,hdd⟩:=hT.under;have run:∀r,(Builtin.len_ cl.argTypes o.type #[v]).run P c.w=.ok r c.w->(execOp a.eval o).run P c.w=.ok (.value r) c.w:=by intro r hrr;rw[yg ho hc,yh hv];simp only[builtin,Sem.run_bind,hrr,Result.andThen_ok,Sem.run_pure]
 have base:∀(u:Value) (n:Int),v=u->((d=.string/\∃s,u=.string s/\n=s.size)\/(∃el,d=.slice el)/\(∃b m cp,u=.slice b m cp/\n=m)\/(∃p q,d=.map p q)/\u=.map none/\n=0) ->
   (execOp a.eval o).run P c.w=.ok (.value (.int .i64 n)) c.w:=by
  rintro u n rfl hcases;refine run _ ?_;unfold Builtin.len_;rcases hcases with⟨rfl,s,rfl,rfl⟩|⟨⟨el,rfl⟩,b,m,cp,rfl,rfl⟩|⟨⟨p,q,rfl⟩,rfl,rfl⟩;{simp only[hat,eX,dX,Sem.run_bind,run_underlying hd,Result.andThen_ok,Sem.run_pure,goInt]};{simp only[hat,eX,dX,Sem.run_bind,run_underlying hd,Result.andThen_ok,Sem.run_pure,goInt]};simp only[hat,eX,dX,Sem.run_bind,run_underlying hd,Result.andThen_ok,Sem.run_pure,goInt]
 unfold b0t at h;split at h;{rename_i el hi;obtain rfl:=sN (hdd.trans hi);exact .pure hr (base _ 0 (DW hA) (.inr (.inl ⟨⟨_,rfl⟩,_,_,_,rfl,rfl⟩))) (sD (uI (Ig (n:=0) (by simp[maxL])))) h};{rename_i el sz l tok hi;obtain rfl:=sN (hdd.trans hi);obtain⟨h1,h2⟩:=Yc hA;refine .pure hr (base v l.length rfl (.inr (.inl ⟨⟨_,rfl⟩,?_⟩))) (sD (uI (Ig h1))) h;rcases h2 with⟨rfl,e⟩|⟨ad,cap,e,_⟩;{exact⟨_,_,_,e,rfl⟩};exact⟨_,_,_,e,rfl⟩};{rename_i el j off len cap sz hi;obtain rfl:=sN (hdd.trans hi);obtain⟨_,e,h1,h2⟩:=Oj hA;exact .pure hr (base _ len e (.inr (.inl ⟨⟨_,rfl⟩,_,_,_,rfl,rfl⟩))) (sD (uI (Ig (dI h1 h2)))) h};{rename_i s hi;obtain rfl:=En (hdd.trans hi);obtain⟨e,h1⟩:=a7W hA;exact .pure hr (base _ s.length e (.inl ⟨rfl,_,rfl,by simp[ByteArray.size]⟩)) (sD (uI (Ig h1))) h};{rename_i p q hi;obtain rfl:=JW (hdd.trans hi);exact .pure hr (base _ 0 (b3S hA) (.inr (.inr ⟨⟨_,_,rfl⟩,rfl,rfl⟩))) (sD (uI (Ig (n:=0) (by simp[maxL])))) h};exact h.elim
theorem b0S{cl:Call}{A B:AV}(hr:HR c H)(ho:o.op=.call cl)(hc:cl.callee=.builtin .max){v u:Value}(hv:cl.args.toList.map a.eval=[v,u])(hA:EV c A v)(hB:EV c B u)
  (h:b2q A B λR=>k R H):uD P o a.eval c H k ks:=by
 unfold b2q at h;split at h;{rename_i ka m kb n;split at h;{obtain rfl:=x9 ‹_›;obtain⟨rfl,r1⟩:=Af hA;obtain⟨rfl,r2⟩:=Af hB;refine .pure hr (v:=.int ka (max m n)) ?_ (sD (uI ?_)) h;{rw[yg ho hc,yh hv];have:(if n>m then n else m)=max m n:=aj;simp[builtin,Builtin.max_,Builtin.max2,this]};unfold KE at *;omega};exact h.elim};exact h.elim
theorem b0R{cl:Call}{A B:AV}(hr:HR c H)(ho:o.op=.call cl)(hc:cl.callee=.builtin .min){v u:Value}(hv:cl.args.toList.map a.eval=[v,u])(hA:EV c A v)(hB:EV c B u)
  (h:Us A B λR=>k R H):uD P o a.eval c H k ks:=by
 unfold Us at h;split at h;{rename_i ka m kb n;split at h;{obtain rfl:=x9 ‹_›;obtain⟨rfl,r1⟩:=Af hA;obtain⟨rfl,r2⟩:=Af hB;refine .pure hr (v:=.int ka (min m n)) ?_ (sD (uI ?_)) h;{rw[yg ho hc,yh hv];have:(if n<m then n else m)=min m n:=aj;simp[builtin,Builtin.min_,Builtin.min2,this]};unfold KE at *;omega};exact h.elim};exact h.elim
theorem b2f{cl:Call}{A B C:AV}(hr:HR c H)(ho:o.op=.call cl)(hc:cl.callee=.builtin .min){v u x:Value}(hv:cl.args.toList.map a.eval=[v,u,x])(hA:EV c A v)(hB:EV c B u)(hC:EV c C x)
  (h:Us A B λR=>Us R C λR=>k R H):uD P o a.eval c H k ks:=by
 unfold Us at h;split at h;{rename_i ka m kb n;split at h;{obtain rfl:=x9 ‹_›;obtain⟨rfl,r1⟩:=Af hA;obtain⟨rfl,r2⟩:=Af hB;split at h;{rename_i kc p kd q he;injection he with e1 e2;subst e1 e2;split at h;{obtain rfl:=x9 ‹_›;obtain⟨rfl,r3⟩:=Af hC;refine .pure hr (v:=.int ka (min (min m n) q)) ?_ (sD (uI ?_)) h;{rw[yg ho hc,yh hv];have h1:(if n<m then n else m)=min m n:=aj;have h2:(if q<min m n then q else min m n)=min (min m n) q:=aj;simp[builtin,Builtin.min_,Builtin.min2,h1,h2]};unfold KE at *;omega};exact h.elim};exact h.elim};exact h.elim};exact h.elim
end
end Go.AL
namespace Go.AL
section
variable{P:Program}{L:Lay}{c:Cx}{H:Heap}{e:Env}{a:Act}{k:AV->Heap->Prop}{ks:Heap->Prop}{o:Oper}
theorem WH(z:Array Value)(m:Nat)(_hz:0<z.size):(madeCells z ((m+1)*z.size)).toList=z.toList++(madeCells z (m*z.size)).toList:=by
 unfold madeCells;simp only[mQ,Array.toList_range];have e1:(m+1)*z.size=z.size+m*z.size:=by rw[dw];omega
 rw[e1,List.range_add,aV,gZ];congr 1;{apply lD;{simp};intro i h1 h2;simp at h1 h2;simp[dW h1,h1]};apply lQ;intro x _;simp
theorem a3G{w:World}{Im:Nat->Nat->Prop}{z:AV}{v:Value}(hv:Rd w Im z v.cells.toList):∀(m:Nat),Jw w Im (flat z) (List.replicate m z) (madeCells v.cells (m*flat z)).toList:=by
 have hsz:v.cells.size=flat z:=(by rw[<- bJ];exact uJ _ _ hv);intro m;rcases Nat.eq_zero_or_pos (flat z)with h0|hp
 ·have:(madeCells v.cells (m*flat z)).toList=[]:=(by rw[h0];simp[madeCells]);rw[this];have hvz:v.cells.toList=[]:=bQ (by rw[bJ,hsz,h0]);induction m with
  |zero=>rfl
  |succ m ih=>exact⟨[],[],rfl,by simp[h0],by rw[<- hvz];exact hv,ih (by rw[h0];simp[madeCells])⟩
 induction m with
 |zero=>simp[madeCells,Jw]
 |succ m ih =>have:=WH v.cells m aj;rw[hsz]at this;rw[this];exact⟨_,_,rfl,by rw[bJ,hsz],hv,ih⟩
theorem a8i{w:World}{Im:Nat->Nat->Prop}{sz n m:Nat}{z:AV}{cs:List Value}(h:Jw w Im sz (List.replicate m z) cs)(hn:n<=m) :
  Jw w Im sz (List.replicate n z) (cs.take (n*sz)):=by
 have:=Mc n h;rwa[List.take_replicate,jg hn]at this
theorem a0a(hL:uz P L){t:Nat}{x y:Operand}(hr:HR c H)(he:xU c e a)(hx:sU x=true)(hy:sU y=true)(ho:o.op=.makeSlice t x y)
  (h:uw e x λA=>uw e y λB=>L.sQ t λi=>(match i.desc,A,B with
  | .slice el,.int _ n,.int _ m=>L.sQ el λei=>(0<=n/\n<=m/\m*(ei.bytes:Int)<=281474976710656/\m<=9223372036854775807) /\
    YC m.toNat n.toNat (flat ei.zero) ei.zero H k
  |_,_,_=>False)):uD P o a.eval c H k ks:=by
 obtain⟨A,hA,h⟩:=rO he hx h;obtain⟨B,hB,h⟩:=rO he hy h;obtain⟨i,hT,h⟩:=Lay.su hL h;obtain⟨d,hd,hdd⟩:=hT.under;split at h
 ·rename_i el ka n kb m hi _ _;obtain rfl:=sN (hdd.trans hi);obtain⟨ei,hE,⟨h0,h1,h2,h3⟩,h⟩:=Lay.su hL h;obtain⟨e1,_⟩:=Af hA;obtain⟨e2,_⟩:=Af hB;obtain⟨info,z,g1,g2,g3,g4,g5,g6⟩:=hE.info;have hrun:=run_make (P:=P) c.w t el info z hd g1 g4 ka kb n m h0 h1 (by rw[g3,Int.mul_comm];exact h2) h3;rw[g2]at hrun;have hex:(execOp a.eval o).run P c.w=.ok (.value (.slice (some ⟨c.w.heap.size,0,none⟩) n.toNat m.toNat)) (c.w.alloc (.cells (madeCells z.cells (m.toNat*flat ei.zero)) el)):=by unfold execOp;rw[ho];simp only[e1,e2,Sem.run_bind,hrun,Result.andThen_ok,Sem.run_pure]
  have hcs:∀w Im,Jw w Im (flat ei.zero) (List.replicate m.toNat ei.zero) (madeCells z.cells (m.toNat*flat ei.zero)).toList:=λw Im=>a3G (g6 w Im) _;cases h with
  |pure h =>refine .inl ⟨_,c.alloc _,_,H,hex,Tr.alloc hr _,sD (vG rfl rfl ?_),h.2⟩;simp only[VR,Rd];have hnm:n.toNat=m.toNat:=h.1;refine⟨⟨by simp[maxL];omega,.inr ⟨⟨c.w.heap.size,0,none⟩,m.toNat,ak,aA,by simp[maxL];omega,λ_=>rfl,?_⟩⟩,⟨some ⟨c.w.heap.size,0,none⟩,by simp[hnm]⟩⟩;rw[hnm];refine Bq (hcs _ _) λj v hj=>⟨?_,.inr rfl⟩;rw[bH];show(c.w.alloc _).cell? ⟨c.w.heap.size,j,none⟩=_;rw[cell_of_heap (alloc_heap_new c.w _),<- bG];exact hj
  |wr h =>have htr:Tr c H (c.push (.cells (madeCells z.cells (m.toNat*flat ei.zero)) el) ((nextId H,.arr (flat ei.zero) m.toNat (List.replicate n.toNat ei.zero))::H)) ((nextId H,.arr (flat ei.zero) m.toNat (List.replicate n.toNat ei.zero))::H):=(by refine Tr.push hr _ _ (λ_=>rfl) ?_;refine⟨(madeCells z.cells (m.toNat*flat ei.zero)).toList,el,?_,?_,aA,by simp[maxL];omega,?_,?_⟩;{rw[ELρ hr];simp only[Cx.push,jc];exact alloc_heap_new _ _};{rw[bJ,size_madeCells]};{have h5:=a8i (n:=n.toNat) (hcs (c.push (.cells (madeCells z.cells (m.toNat*flat ei.zero)) el) ((nextId H,.arr (flat ei.zero) m.toNat (List.replicate n.toNat ei.zero))::H)).w (c.push (.cells (madeCells z.cells (m.toNat*flat ei.zero)) el) ((nextId H,.arr (flat ei.zero) m.toNat (List.replicate n.toNat ei.zero))::H)).Im) aj;have h6:=Dc (c:=c.push (.cells (madeCells z.cells (m.toNat*flat ei.zero)) el) ((nextId H,.arr (flat ei.zero) m.toNat (List.replicate n.toNat ei.zero))::H)) (rest:=(madeCells z.cells (m.toNat*flat ei.zero)).toList.drop (n.toNat*flat ei.zero)) h5;rwa[fH]at h6};intro y hy;rw[ELρ hr]at hy;have:=hr.im _ _ hy;omega);refine .inl ⟨_,_,_,_,hex,htr,sD (vG rfl rfl ?_),h⟩;simp only[VR];rw[ELρ hr];refine⟨by simp only[Cx.push,hr.nx];omega,ak,aj,by simp[maxL];omega⟩
 exact h.elim
end
end Go.AL
namespace Go.AL
structure Src(P:Program)(sz:Nat)(w:World)(x:Value)(m:Nat)(news:List Value):Prop where
 len:∀w',(Builtin.lenOf x).run P w'=.ok m w'
 cells:∀n',(Builtin.firstCells sz m x).run P { w with drawn:=n' }=.ok news.toArray { w with drawn:=n' }
section
variable{P:Program}{w:World}{t u ty el sz:Nat}{info:TypeInfo}{z:Value}{base:Option Addr}{n cap m:Nat}{x:Value}{news:List Value}
theorem FY{d:TypeDesc}(ht:P.underlying t=some (.slice el))(hu:P.underlying u=some d)(hd:(∃e,d=.slice e)\/d=.string)(hi:P.info? el=some info)(hs:info.size=sz)
  (hx:Src P sz w x m news) (hc:n+m<=cap) {w':World}
  (hst:∀ad,base=some ad->(storeCells (ad.add (n*sz)) news).run P w=.ok () w') (hno:base=none->w'=w) :
  (Builtin.append_ #[t,u] ty #[.slice base n cap,x]).run P w=.ok (.slice base (n+m) cap) w':=by
 have h1:=hx.len w;have h2:=hx.cells w.drawn;have hsz:(sizeOf el).run P w=.ok sz w:=(by unfold sizeOf typeInfo;simp[hi,hs]);unfold Builtin.append_;simp only[eX,dX,dV,Sem.run_bind,run_underlying ht,run_underlying hu,Result.andThen_ok,hsz,Sem.run_pure];rcases hd with⟨e',rfl⟩|rfl;all_goals
  simp only[dO,if_false,jy,if_true,h1,Result.andThen_ok,hc,Sem.run_bind];have h2':(Builtin.firstCells sz m x).run P w=.ok news.toArray w:=h2;simp only[h2',Result.andThen_ok];cases base with
  |none=>obtain rfl:=hno rfl;rfl
  |some ad =>simp only[Sem.run_bind,hst ad rfl,Result.andThen_ok];rfl
theorem JI{d:TypeDesc}(ht:P.underlying t=some (.slice el))(hu:P.underlying u=some d)(hd:(∃e,d=.slice e)\/d=.string)(hi:P.info? el=some info)(hs:info.size=sz)(hz:info.zero=some z)
  (hx:Src P sz w x m news) (hc:cap<n+m) (hm:n+m<=maxL) (hb:(n+m)*info.bytes<=140737488355328) {olds:List Value}
  (hold:∀n',(Builtin.firstCells sz n (.slice base n cap)).run P { w with drawn:=n' }=.ok olds.toArray { w with drawn:=n' }) :
  (Builtin.append_ #[t,u] ty #[.slice base n cap,x]).run P w=.ok (.slice (some ⟨w.heap.size,0,none⟩) (n+m) (grownCap w (n+m) cap el))
   (w.drew.alloc (.cells (olds.toArray++news.toArray++Builtin.zeroCells z.cells (grownCap w (n+m) cap el-(n+m))) el)):=by
 have h1:=hx.len w;have h2:(Builtin.firstCells sz m x).run P w.drew=.ok news.toArray w.drew:=hx.cells (w.drawn+1);have h3:(Builtin.firstCells sz n (.slice base n cap)).run P w.drew=.ok olds.toArray w.drew:=hold (w.drawn+1);have hsz:(sizeOf el).run P w=.ok sz w:=(by unfold sizeOf typeInfo;simp[hi,hs]);have hti:∀w,(typeInfo el).run P w=.ok info w:=(by intro w;unfold typeInfo;simp[hi]);have hzv:∀w,(zeroValue el).run P w=.ok z w:=(by intro w;unfold zeroValue;simp[hti,hz]);have hfit:=growslice_fits hc hb;have e1:¬(n+m<=cap):=aj;have e2:¬(((n+m:Nat):Int)>IntKind.i64.max/\(False\/info.bytes=0)):=(by rintro⟨h,_⟩;simp[IntKind.max,IntKind.signed,IntKind.bits]at h;unfold maxL at hm;omega);have e3:¬(Builtin.nextslicecap (n+m) cap*info.bytes>2^48):=(by have:(2:Nat)^48=281474976710656:=au;omega);unfold Builtin.append_;simp only[eX,dX,dV,Sem.run_bind,run_underlying ht,run_underlying hu,Result.andThen_ok,hsz,Sem.run_pure];rcases hd with⟨e',rfl⟩|rfl;all_goals
  simp only[dO,if_false,jy,if_true,h1,Result.andThen_ok,e1,Sem.run_bind,hti];simp only[e2,if_false,e3,Result.andThen_ok,run_choose,Question.forced,dO,Sem.run_bind,hti,run_askRoom,World.drew_eq,h3,h2,hzv,newRow,run_newObj,Sem.run_pure,World.alloc_eq];rfl
end
theorem Src.slice{P:Program}{c:Cx}{sz:Nat}{ad:Addr}{m cp:Nat}{news:List Value}(hl:news.length=m*sz)(h:∀j v,news[j]? = some v->c.w.cell? (ad.add j)=some v) :
  Src P sz c.w (.slice (some ad) m cp) m news :=
 ⟨λ_=>rfl,λn'=>run_firstCells_some (P:=P) { c.w with drawn:=n' } sz m ad m cp news hl h⟩
theorem Src.nil{P:Program}{w:World}{sz cp:Nat}:Src P sz w (.slice none 0 cp) 0 []:=⟨λ_=>rfl,λ_=>rfl⟩
theorem Src.str{P:Program}{w:World}(s:List UInt8):Src P 1 w (.string ⟨s.toArray⟩) s.length (s.map λb=>Value.int .u8 b.toNat):=by refine⟨λ_=>by simp[Builtin.lenOf,ByteArray.size],λn'=>?_⟩;simp only[Builtin.firstCells,Sem.run_pure];congr 1;have:(ByteArray.extract ⟨s.toArray⟩ 0 s.length).data=s.toArray:=(by simp[ByteArray.data_extract]);rw[this];simp
section
variable{P:Program}{L:Lay}{c:Cx}{H:Heap}{e:Env}{a:Act}{k:AV->Heap->Prop}{ks:Heap->Prop}{o:Oper}
theorem Pn{w:World}{b off:Nat}{ad:Addr}{cs:List Value}(h1:ad.block=b)(h2:ad.off=off)(h3:cs≠[]->ad.spot=none)
  (h:∀j v,cs[j]? = some v->w.cell? ⟨b,off+j,none⟩=some v):∀j v,cs[j]? = some v->w.cell? (ad.add j)=some v:=by
 intro j v hj;have hne:cs≠[]:=by intro e;subst e;simp at hj
 have:ad=⟨b,off,none⟩:=by cases ad;simp_all
 rw[this,addr_add];exact h j v hj
theorem AU(hr:HR c H){sz:Nat}{B:AV}{x:Value}{k:List AV->Prop}(hB:EV c B x)(h:Ov H sz B k) :
  ∃l news,Src P sz c.w x l.length news/\Jw c.w c.Im sz l news/\k l:=by
 unfold Ov at h;split at h;{obtain rfl:=DW hB;exact⟨[],[],Src.nil,rfl,h⟩};{rename_i sz' l tok;obtain⟨hs,hk⟩:=sW.1 h;subst hs;obtain⟨h1,h2⟩:=Yc hB;rcases h2 with⟨rfl,rfl⟩|⟨ad,cap,rfl,_,_,hsp,hre⟩;{exact⟨[],[],Src.nil,rfl,hk⟩};obtain⟨news,g1,g2⟩:=J7 hre;refine⟨l,news,Src.slice (vT g1) (Pn rfl rfl (λhne=>hsp (λe=>?_)) g2),g1,hk⟩;subst e;exact hne g1};{rename_i j off len cap sz';obtain⟨ob,hob,h⟩:=uo.1 h;have hok:=hr.EM hob;split at h;{rename_i b4q cp l;obtain⟨hs,h⟩:=sW.1 h;subst hs;obtain⟨hs,hin,hk⟩:=sW.1 h;subst hs;obtain⟨_,e,hlc,hcm⟩:=Oj hB;subst e;obtain⟨cs,ty,g1,g2,g3,g4,g5,g6⟩:=hok;obtain⟨a',d',rfl,g7⟩:=Dh g5;have hl:((l.drop off).take len).length=len:=aA;have hf:=Mc len (Yt off g7 aj);have hal:=vT g7;refine⟨(l.drop off).take len,(a'.drop (off*b4q)).take (len*b4q),?_,hf,hk⟩;rw[hl];refine Src.slice (by rw[vT hf,hl]) λx v hx=>?_;rw[jv]at hx;split at hx;{rw[iC]at hx;rw[addr_add];simp only[World.cell?,g1];have:off*b4q+x<a'.length:=(aY.1 hx).1;simp[bI this,hx]};simp at hx};exact h.elim}
 ·rename_i s;obtain⟨hs,hk⟩:=sW.1 h;subst hs;obtain⟨rfl,h1⟩:=a7W hB;refine⟨s.map λb=>.int .u8 b.toNat,s.map λb=>Value.int .u8 b.toNat,by simpa using Src.str (P:=P) s,?_,hk⟩;clear h h1 hB hk;induction s with
  |nil=>rfl
  |cons b s ih =>refine⟨[.int .u8 b.toNat],s.map λb=>Value.int .u8 b.toNat,rfl,rfl,?_,ih⟩;simp only[Rd];have:=b.toNat_lt;refine⟨trivial,?_⟩;simp[KE,IntKind.min,IntKind.max,IntKind.signed,IntKind.bits];omega
 exact h.elim
end
end Go.AL
namespace Go.AL
theorem Z4:∀{H:Heap} {k:Nat} {o:HO},hget H k=some o->hset H k o=H
 | [],_,_,h=>by simp[hget]at h
 | (i,x)::H,k,o,h=>by
   simp only[hget]at h;simp only[hset];cases hb:Nat.beq i k with
   |true=>rw[hb]at h;simp at h;subst h;rfl
   |false=>rw[hb]at h;simp only[Z4 h]
theorem Ro{H:Heap}{k sz n:Nat}{o:HO}(hk:hget H k=some o):uj (hset H k (.tok sz n)) k=some n:=by unfold uj;rw[BI hk]
theorem FX{H:Heap}{k j:Nat}{o:HO}(h:j≠k):uj (hset H k o) j=uj H j:=by unfold uj;rw[DK h]
theorem a5E{c:Cx}{H:Heap}{j sz:Nat}{l:List AV}{v:Value}(hr:HR c H)(hk:hget H j=some (.tok sz l.length))(hV:VV c (.sl sz l (.own j)) v) :
  v=.slice (c.tk j).1 l.length (c.tk j).2/\l.length<=(c.tk j).2/\(c.tk j).2<=maxL/\j<c.nx/\Rd c.w c.Im (.sl sz l .no) v.cells.toList /\
  (((c.tk j).1=none/\l=[]/\(c.tk j).2=0)\/∃ad,(c.tk j).1=some ad/\(l≠[]->ad.spot=none)/\IZ c.w c.Im sz ad.block l ad.off):=by
 have hv:=hV.1.2 rfl;have h2:=hV.2;simp only[VR]at h2;obtain⟨h3,h4,h5⟩:=h2;have htp:c.tp j=some l.length:=(by rw[hr.tp];unfold uj;rw[hk]);have h6:=(h5 _ htp).2 rfl;have e:v=.slice (c.tk j).1 l.length (c.tk j).2:=cells_one hv h6;obtain⟨h7,h8⟩:=Yc hV;refine⟨e,?_,?_,h3,h4,?_⟩;{rcases h8 with⟨rfl,h8⟩|⟨ad,cap,h8,h9,_⟩;{simp};rw[e]at h8;injection h8 with _ _ h8;omega};{rcases h8 with⟨rfl,h8⟩|⟨ad,cap,h8,h9,h10,_⟩;{rw[e]at h8;injection h8 with _ _ h8;rw[h8];simp[maxL]};rw[e]at h8;injection h8 with _ _ h8;omega};rcases h8 with⟨rfl,h8⟩|⟨ad,cap,h8,h9,h10,h11,h12⟩;{rw[e]at h8;injection h8 with g1 _ g2;exact .inl ⟨g1,rfl,g2⟩};rw[e]at h8;injection h8 with g1 _ g2;exact .inr ⟨ad,g1,h11,h12⟩
theorem a5D{c:Cx}{j sz:Nat}{l:List AV}{b:Option Addr}{cap:Nat}(hj:j<c.nx)(hr:Rd c.w c.Im (.sl sz l .no) [.slice b l.length cap])(htp:c.tp j=some l.length)(htk:c.tk j=(b,cap)) :
  VV c (.sl sz l (.own j)) (.slice b l.length cap):=by
 refine vG rfl rfl ?_;simp only[VR];refine⟨hj,hr,λn hn=>?_⟩;rw[htp]at hn;obtain rfl:=aW hn;exact⟨aT _,λ_=>by rw[htk]⟩
section
variable{P:Program}{c:Cx}{H:Heap}{t u ty el sz j:Nat}{info:TypeInfo}{z:Value}{l m:List AV}{v x:Value}{news:List Value}
theorem U0{d:TypeDesc}(hr:HR c H)(hk:hget H j=some (.tok sz l.length))(hV:VV c (.sl sz l (.own j)) v)
  (ht:P.underlying t=some (.slice el)) (hu:P.underlying u=some d) (hd:(∃e,d=.slice e)\/d=.string) (hi:P.info? el=some info) (hs:info.size=sz) (hz:info.zero=some z) (hzs:z.cells.size=sz)
  (hx:Src P sz c.w x m.length news) (hm:Jw c.w c.Im sz m news) (hlen:l.length+m.length<=maxL) (hroom:(l.length+m.length)*info.bytes<=140737488355328) :
  ∃c' v',(Builtin.append_ #[t,u] ty #[v,x]).run P c.w=.ok v' c'.w/\Tr c H c' (hset H j (.tok sz (l.length+m.length)))/\VV c' (.sl sz (l++m) (.own j)) v':=by
 obtain⟨e,hc1,hc2,hj,hRd,hb⟩:=a5E hr hk hV;have hml:=vT hm;have b6E:c.tp j=some l.length:=(by rw[hr.tp];unfold uj;rw[hk]);have b2A:∀i,i≠j->∀n,uj (hset H j (.tok sz (l.length+m.length))) i=some n->c.tp i=some n:=λi hi n h=>(by rw[FX hi]at h;rw[hr.tp];exact h);by_cases hm0:m=[];{subst hm0;obtain rfl:news=[]:=hm;refine⟨c,v,?_,?_,by simpa using hV⟩;{rw[e];have:=FY (P:=P) (ty:=ty) (base:=(c.tk j).1) (n:=l.length) (cap:=(c.tk j).2) (w':=c.w) ht hu hd hi hs hx (by simpa using hc1) (λ_ _=>rfl) (λ_=>rfl);simpa using this};simp only[jh,dR];rw[Z4 hk];exact .refl hr};have b46:0<m.length:=jl.2 hm0
 have b4V:∀(d:Cx),d.tp=uj (hset H j (.tok sz (l.length+m.length)))->(∀i,i≠j->d.tk i=c.tk i) ->
   ∀k n,k<c.nx->d.tp k=some n->(c.tp k=some n/\d.tk k=c.tk k)\/∃m,c.tp k=some m/\m<n:=by
  intro d hd1 hd2 k n hkn hn;rw[hd1]at hn;by_cases hkj:k=j;{subst hkj;rw[Ro hk]at hn;obtain rfl:=aW hn;exact .inr ⟨_,b6E,aj⟩};exact .inl ⟨b2A k hkj n hn,hd2 k hkj⟩
 by_cases hcap:l.length+m.length<=(c.tk j).2
 ·-- within the capacity
  have hne:(c.tk j).2≠l.length:=aj;have hok:=hr.EM hk;rcases hok with hok|⟨b,cs,bty,g1,g2,g3,g4,g5,g6⟩;{exact absurd hok hne};have hread:IZ c.w c.Im sz b l 0:=by rcases hb with⟨h1,_⟩|⟨ad,h1,_,h3⟩;{rw[h1]at g1;cases g1};rw[h1]at g1;cases g1;exact h3
  have hfit:l.length*sz+news.length<=cs.size:=(by rw[g3,hml,<- dw];exact bW _ hcap);let cs':=(cs.toList.take (l.length*sz)++news++cs.toList.drop (l.length*sz+news.length)).toArray;let d:Cx:={ c with w:=c.w.setRow b cs',Im:=λb' o=>c.Im b' o\/(b'=b/\l.length*sz<=o/\o<l.length*sz+news.length),tp:=uj (hset H j (.tok sz (l.length+m.length))) };have hblk:ru c (j,.tok sz l.length)=some b:=(by simp[ru,hne,g1]);have hheap:d.w.heap[b]? = some (.cells cs' bty):=setRow_heap c.w _ _ _ _ _ g2;have hoth:∀b',b'≠b->d.w.heap[b']? = c.w.heap[b']?:=λb' hb'=>setRow_other c.w _ b' _ hb';have hsz':cs'.size=cs.size:=(by simp[cs'];omega);have hcell:∀o,o<l.length*sz->cs'[o]? = cs[o]?:=(by intro o ho;simp only[cs',eX];rw[bK,bI aA,jv,aG ho,bG]);have hnews:∀i v,news[i]? = some v->cs'[l.length*sz+i]? = some v:=(by intro i v hv;have hi:=(aY.1 hv).1;have hlt:(cs.toList.take (l.length*sz)).length=l.length*sz:=aA;simp only[cs',eX];have:=Ql (cs.toList.take (l.length*sz)) news (cs.toList.drop (l.length*sz+news.length)) hv;rwa[hlt]at this);have le:c.Le d:=(by refine⟨λb' o h=>⟨.inl h,?_⟩,aT _,λ_ _=>rfl,b4V d rfl λ_ _=>rfl⟩;by_cases hbb:b'=b;{subst hbb;have:o<l.length*sz:=Nat.lt_of_not_le λhle=>g6 o hle h;rw[cell_of_heap hheap,cell_of_heap g2,hcell o this]};exact wX (hoth b' hbb));have hst:(storeCells ((⟨b,0,none⟩:Addr).add (l.length*sz)) news).run P c.w=.ok () d.w:=(by have:=run_storeCells_at P b (l.length*sz) bty news 0 cs c.w g2 (by simpa using hfit) (Iy hm);simp only[dR]at this;rw[addr_add,bH];exact this);refine⟨d,.slice (c.tk j).1 (l.length+m.length) (c.tk j).2,?_,?_,?_⟩;{rw[e];exact FY (P:=P) (ty:=ty) ht hu hd hi hs hx hcap (λad had=>by rw[g1]at had;cases had;exact hst) (λh=>by rw[g1]at h;cases h)};{refine Tr.set hr hk le rfl rfl (λ_ _=>rfl) rfl rfl rfl (by simp[d]) (λb' _ hn=>hoth b' (λe=>hn (by rw[hblk,e]))) ?_ ?_ ?_;{rintro b' o (h|⟨rfl,_⟩);{exact .inl h};exact .inr (.inr hblk)};{intro b' h;refine .inr ?_;simp only[ru,d]at h;split at h;{cases h};rw[hblk];rw[g1]at h;exact h};by_cases htop:(c.tk j).2=l.length+m.length;{exact .inl htop};refine .inr ⟨b,cs',bty,g1,hheap,by rw[hsz',g3],hcap,g5,?_⟩;rintro o ho (h|⟨_,_,h⟩);{exact g6 o (dI (bW _ (oq _ _)) ho) h};rw[hml,<- dw]at h;omega};have hR:Rd d.w d.Im (.sl sz (l++m) .no) [.slice (some ⟨b,0,none⟩) (l++m).length (c.tk j).2]:=(by simp only[Rd];refine⟨by simpa using hlen,.inr ⟨⟨b,0,none⟩,_,rfl,by simpa using hcap,g5,λ_=>rfl,Yw (Yv le.im _ _ _ _ hread) ?_⟩⟩;refine Bq (xQ le.im hm) λi v hv=>⟨?_,.inr ⟨rfl,by show _<=0+l.length*sz+i;omega,by have:=(aY.1 hv).1;show 0+l.length*sz+i<_;omega⟩⟩;rw[cell_of_heap hheap,bH];exact hnews i v hv);have:=a5D (c:=d) (j:=j) hj hR (by show uj _ j=_;rw[Ro hk];simp) (by show c.tk j=_;rw[<- g1]);rw[bC]at this;rw[g1];exact this
 -- a new block
 obtain⟨olds,ho1,ho2⟩:∃olds,Jw c.w c.Im sz l olds/\Src P sz c.w (.slice (c.tk j).1 l.length (c.tk j).2) l.length olds:=(by rcases hb with⟨h1,rfl,h3⟩|⟨ad,h1,h2,h3⟩;{exact⟨[],rfl,by rw[h1];exact⟨λ_=>rfl,λ_=>rfl⟩⟩};obtain⟨olds,g1,g2⟩:=J7 h3;refine⟨olds,g1,?_⟩;rw[h1];exact Src.slice (vT g1) (Pn rfl rfl (λhne=>h2 (λe=>by subst e;exact hne g1)) g2));have hol:=vT ho1;have hge:=grownCap_ge c.w (l.length+m.length) (c.tk j).2 el;have hle:=grownCap_le_maxLen c.w (l.length+m.length) (c.tk j).2 el (by simpa[maxL,maxLen]using hlen);have hle':grownCap c.w (l.length+m.length) (c.tk j).2 el<=maxL:=(by simpa[maxL,maxLen]using hle);have hrun:=JI (P:=P) (ty:=ty) ht hu hd hi hs hz hx (by omega:(c.tk j).2<l.length+m.length) hlen hroom ho2.cells;generalize hcp:grownCap c.w (l.length+m.length) (c.tk j).2 el=cap' at hge hle' hrun;let cs:=olds.toArray++news.toArray++Builtin.zeroCells z.cells (cap'-(l.length+m.length))
 let d:Cx:={ c with w:=c.w.drew.alloc (.cells cs el),Im:=λb o=>c.Im b o\/(b=c.w.heap.size/\o<(l.length+m.length)*sz),
                    tk:=λk=>if k=j then(some ⟨c.w.heap.size,0,none⟩,cap')else c.tk k,tp:=uj (hset H j (.tok sz (l.length+m.length))) }
 have hnew:d.w.heap[c.w.heap.size]? = some (.cells cs el):=alloc_heap_new c.w.drew _;have hold:∀b,b<c.w.heap.size->d.w.heap[b]? = c.w.heap[b]?:=λb hb=>xB c.w.drew _ hb;have Qi:d.tk j=(some ⟨c.w.heap.size,0,none⟩,cap'):=(by simp[d]);have hcs:cs.size=cap'*sz:=(by simp only[cs,nX,jG,hol,hml,size_zeroCells,hzs];rw[<- dw,<- dw];congr 1;omega);have le:c.Le d:=(by refine⟨λb o h=>⟨.inl h,wX (hold b (hr.im b o h))⟩,aT _,λ_ _=>rfl,b4V d rfl λi hi=>by simp[d,hi]⟩);refine⟨d,_,by rw[e];exact hrun,?_,?_⟩;{refine Tr.set hr hk le rfl rfl (λi hi=>by simp[d,hi]) rfl rfl rfl (by simp[d]) (λb hb _=>hold b hb) ?_ ?_ ?_;{rintro b o (h|⟨rfl,_⟩);{exact .inl h};exact .inr (.inl ⟨aT _,by simp[d]⟩)};{intro b h;refine .inl ?_;simp only[ru,Qi]at h;split at h;{cases h};simp at h;omega};by_cases htop:cap'=l.length+m.length;{exact .inl (by rw[Qi];exact htop)};refine .inr ⟨c.w.heap.size,cs,el,by rw[Qi],hnew,by rw[Qi];exact hcs,by rw[Qi];exact hge,by rw[Qi];exact hle',?_⟩;rintro o ho (h|⟨_,h⟩);{exact absurd (hr.im _ _ h) aj};omega};have hR:Rd d.w d.Im (.sl sz (l++m) .no) [.slice (some ⟨c.w.heap.size,0,none⟩) (l++m).length cap']:=by
  simp only[Rd];refine⟨by simpa using hlen,.inr ⟨⟨c.w.heap.size,0,none⟩,_,rfl,by simpa using hge,hle',λ_=>rfl,?_⟩⟩;refine Bq (Ht (xQ le.im ho1) (xQ le.im hm)) λi v hv=>?_;have hi:=(aY.1 hv).1;refine⟨?_,.inr ⟨rfl,by rw[bC,hol,hml,<- dw]at hi;show 0+i<_;omega⟩⟩;rw[cell_of_heap hnew,bH];have:cs[i]? = (olds++news)[i]?:=by rw[<- bG];simp only[cs,Array.toList_append];rw[bI hi]
  rw[this];exact hv
 have:=a5D (c:=d) (j:=j) hj hR (by show uj _ j=_;rw[Ro hk];simp) Qi;rw[bC]at this;exact this
end
theorem Tr.Ou{c:Cx}{H:Heap}{sz:Nat}{l:List AV}{base:Option Addr}(hr:HR c H)(hRd:Rd c.w c.Im (.sl sz l .no) [.slice base l.length l.length]) :
  ∃d,d.w=c.w/\Tr c H d ((nextId H,.tok sz l.length)::H)/\VV d (.sl sz l (.own (nextId H))) (.slice base l.length l.length):=by
 let d:Cx:={ c with nx:=c.nx+1,tk:=λk=>if k=c.nx then(base,l.length)else c.tk k,tp:=uj ((nextId H,.tok sz l.length)::H) };have hlt:∀x∈H,x.1<c.nx:=λx hx=>(by rw[hr.nx];exact sK hr.ids x hx);have htk:d.tk (nextId H)=(base,l.length):=(by simp[d,hr.nx]);have le:c.Le d:=(by refine⟨λb o h=>⟨h,rfl⟩,mF _,λ_ _=>rfl,λk n hk hn=>.inl ⟨?_,?_⟩⟩;{have:nextId H≠k:=(by rw[<- hr.nx];omega);simp only[d]at hn;rw[Bz this]at hn;rw[hr.tp];exact hn};simp only[d];rw[aB aj]);have hbk:∀x∈H,ru d x=ru c x:=λx hx=>Bl rfl (by have:=hlt x hx;simp only[d];rw[aB aj]);have hbn:ru d (nextId H,.tok sz l.length)=none:=(by simp[ru,htk]);refine⟨d,rfl,⟨⟨?_,rfl,?_,hr.im,?_,?_⟩,le,rfl,rfl,rfl,aT _,λ_ _ _=>rfl,?_,λ_ _ h=>.inl h⟩,?_⟩;{simp only[d,nextId,hr.nx]};{exact⟨λx hx=>sK hr.ids x hx,hr.ids⟩};{intro x hx;rcases aU.1 hx with rfl|hx;{exact .inl (by rw[htk])};refine DZ le (hlt x hx) ?_ (λb hb=>⟨rfl,λy hy=>hy⟩) (hr.ok x hx);have:=hlt x hx;simp only[d];rw[aB aj]};{rw[eY];constructor;{intro y hy b hb;rw[hbn]at hb;cases hb};exact BD hr.apart λx hx y hy h b hb=>by rw[hbk y hy];rw[hbk x hx]at hb;exact h b hb};{intro y hy b hb;rcases aU.1 hy with rfl|hy;{rw[hbn]at hb;cases hb};rw[hbk y hy]at hb;exact .inr ⟨y,hy,hb⟩};exact a5D (by simp only[d];rw[hr.nx];omega) hRd (by show uj _ _=_;rw[JB]) htk
theorem Vy{H:Heap}{k sz:Nat}{l:List AV}{o:HO}(hk:hget H k=some o):uj (hset H k (.uH sz l)) k=some l.length:=by unfold uj;rw[BI hk]
theorem Ji{c:Cx}{H:Heap}{j sz:Nat}{l:List AV}{v:Value}(hr:HR c H)(hk:hget H j=some (.uH sz l))(hV:VV c (.gs j l.length) v) :
  v=.slice (c.tk j).1 l.length (c.tk j).2/\j<c.nx/\l.length<=(c.tk j).2/\(c.tk j).2<=maxL:=by
 obtain⟨h1,_,h3⟩:=b7c hV;have htp:c.tp j=some l.length:=(by rw[hr.tp];unfold uj;rw[hk]);refine⟨(h3 _ htp).2 rfl,h1,?_⟩;rcases hr.EM hk with⟨g1,g2,rfl⟩|⟨b,cs,ty,g1,g2,g3,g4,g5,_⟩;{rw[g2];simp[maxL]};exact⟨g4,g5⟩
theorem a6l{c:Cx}{j n:Nat}{b:Option Addr}{cap:Nat}(hj:j<c.nx)(htp:c.tp j=some n)(htk:c.tk j=(b,cap)):VV c (.gs j n) (.slice b n cap):=by refine vG rfl rfl ?_;simp only[VR];refine⟨hj,⟨_,_,_,rfl⟩,λk hk=>?_⟩;rw[htp]at hk;obtain rfl:=aW hk;exact⟨aT _,λ_=>by rw[htk]⟩
section
variable{P:Program}{c:Cx}{H:Heap}{t u ty el sz j:Nat}{info:TypeInfo}{z:Value}{l m:List AV}{v x:Value}{news:List Value}
theorem b5R{d:TypeDesc}(hr:HR c H)(hk:hget H j=some (.uH sz l))(hV:VV c (.gs j l.length) v)
  (ht:P.underlying t=some (.slice el)) (hu:P.underlying u=some d) (hd:(∃e,d=.slice e)\/d=.string) (hi:P.info? el=some info) (hs:info.size=sz) (hz:info.zero=some z) (hzs:z.cells.size=sz)
  (hx:Src P sz c.w x m.length news) (hm:Jw c.w c.Im sz m news) (hm0:m≠[]) (hlen:l.length+m.length<=maxL) (hroom:(l.length+m.length)*info.bytes<=140737488355328) :
  ∃c' v',(Builtin.append_ #[t,u] ty #[v,x]).run P c.w=.ok v' c'.w/\Tr c H c' (hset H j (.uH sz (l++m)))/\VV c' (.gs j (l.length+m.length)) v':=by
 obtain⟨e,hj,hc1,hc2⟩:=Ji hr hk hV;have hml:=vT hm;have b6E:c.tp j=some l.length:=(by rw[hr.tp];unfold uj;rw[hk]);have b2A:∀i,i≠j->∀n,uj (hset H j (.uH sz (l++m))) i=some n->c.tp i=some n:=λi hi n h=>(by rw[FX hi]at h;rw[hr.tp];exact h);have b46:0<m.length:=jl.2 hm0;have b6F:uj (hset H j (.uH sz (l++m))) j=some (l.length+m.length):=by rw[Vy hk];simp
 have b4V:∀(d:Cx),d.tp=uj (hset H j (.uH sz (l++m)))->(∀i,i≠j->d.tk i=c.tk i) ->
   ∀k n,k<c.nx->d.tp k=some n->(c.tp k=some n/\d.tk k=c.tk k)\/∃m,c.tp k=some m/\m<n:=by
  intro d hd1 hd2 k n hkn hn;rw[hd1]at hn;by_cases hkj:k=j;{subst hkj;rw[b6F]at hn;obtain rfl:=aW hn;exact .inr ⟨_,b6E,aj⟩};exact .inl ⟨b2A k hkj n hn,hd2 k hkj⟩
 by_cases hcap:l.length+m.length<=(c.tk j).2
 ·-- within the capacity
  rcases hr.EM hk with⟨g1,g2,_⟩|⟨b,cs,bty,g1,g2,g3,g4,g5,g6,g7⟩;{omega};obtain⟨a',d',rfl,g8⟩:=Dh g6;have hal:=vT g8;have hfit:l.length*sz+news.length<=(a'++d').toArray.size:=(by rw[jG,g3,hml,<- dw];exact bW _ hcap);let cs':=((a'++d').toArray.toList.take (l.length*sz)++news++(a'++d').toArray.toList.drop (l.length*sz+news.length)).toArray;let d:Cx:={ c with w:=c.w.setRow b cs',tp:=uj (hset H j (.uH sz (l++m))) };have hblk:ru c (j,.uH sz l)=some b:=(by simp[ru,g1]);have hheap:d.w.heap[b]? = some (.cells cs' bty):=setRow_heap c.w _ _ _ _ _ g2;have hoth:∀b',b'≠b->d.w.heap[b']? = c.w.heap[b']?:=λb' hb'=>setRow_other c.w _ b' _ hb';have hcs':cs'.toList=a'++news++(a'++d').drop (l.length*sz+news.length):=(by simp only[cs'];rw[<- hal,iq (aT _),bn]);have hsz':cs'.toList.length=(a'++d').length:=(by rw[hcs'];simp only[bC,iD,jG]at hfit ⊢;omega);have le:c.Le d:=(by refine⟨λb' o h=>⟨h,?_⟩,aT _,λ_ _=>rfl,b4V d rfl λ_ _=>rfl⟩;by_cases hbb:b'=b;{subst hbb;exact absurd h (g7 o)};exact wX (hoth b' hbb));have hst:(storeCells ((⟨b,0,none⟩:Addr).add (l.length*sz)) news).run P c.w=.ok () d.w:=(by have:=run_storeCells_at P b (l.length*sz) bty news 0 (a'++d').toArray c.w g2 (by simpa using hfit) (Iy hm);simp only[dR]at this;rw[addr_add,bH];exact this);refine⟨d,.slice (c.tk j).1 (l.length+m.length) (c.tk j).2,?_,?_,?_⟩;{rw[e];exact FY (P:=P) (ty:=ty) ht hu hd hi hs hx hcap (λad had=>by rw[g1]at had;cases had;exact hst) (λh=>by rw[g1]at h;cases h)};{refine Tr.set hr hk le rfl rfl (λ_ _=>rfl) rfl rfl rfl (by simp[d]) (λb' _ hn=>hoth b' (λe=>hn (by rw[hblk,e]))) (λb' o h=>.inl h) ?_ ?_;{intro b' h;refine .inr ?_;rw[hblk];simp only[ru,d,g1]at h;exact h};refine .inr ⟨b,cs'.toList,bty,g1,by simpa using hheap,by rw[hsz'];exact g3,by simpa using hcap,g5,?_,λo h=>g7 o h⟩;rw[hcs'];exact Dc (c:=d) (Ht (xQ le.im g8) (xQ le.im hm))};exact a6l (c:=d) (j:=j) hj b6F rfl
 -- a new block
 obtain⟨olds,ho1,ho2⟩:∃olds,Jw c.w c.Im sz l olds/\Src P sz c.w (.slice (c.tk j).1 l.length (c.tk j).2) l.length olds:=(by rcases hr.EM hk with⟨g1,g2,rfl⟩|⟨b,cs,bty,g1,g2,g3,g4,g5,g6,g7⟩;{exact⟨[],rfl,by rw[g1];exact⟨λ_=>rfl,λ_=>rfl⟩⟩};obtain⟨a',d',rfl,g8⟩:=Dh g6;refine⟨a',g8,?_⟩;rw[g1];refine Src.slice (vT g8) λy v hy=>?_;rw[addr_add,bH];have:y<a'.length:=(aY.1 hy).1;simp only[World.cell?,g2];simp[bI this,hy]);have hol:=vT ho1;have hge:=grownCap_ge c.w (l.length+m.length) (c.tk j).2 el;have hle:=grownCap_le_maxLen c.w (l.length+m.length) (c.tk j).2 el (by simpa[maxL,maxLen]using hlen);have hle':grownCap c.w (l.length+m.length) (c.tk j).2 el<=maxL:=(by simpa[maxL,maxLen]using hle);have hrun:=JI (P:=P) (ty:=ty) ht hu hd hi hs hz hx (by omega:(c.tk j).2<l.length+m.length) hlen hroom ho2.cells;generalize hcp:grownCap c.w (l.length+m.length) (c.tk j).2 el=cap' at hge hle' hrun;let cs:=olds.toArray++news.toArray++Builtin.zeroCells z.cells (cap'-(l.length+m.length))
 let d:Cx:={ c with w:=c.w.drew.alloc (.cells cs el),
                    tk:=λk=>if k=j then(some ⟨c.w.heap.size,0,none⟩,cap')else c.tk k,tp:=uj (hset H j (.uH sz (l++m))) }
 have hnew:d.w.heap[c.w.heap.size]? = some (.cells cs el):=alloc_heap_new c.w.drew _;have hold:∀b,b<c.w.heap.size->d.w.heap[b]? = c.w.heap[b]?:=λb hb=>xB c.w.drew _ hb;have Qi:d.tk j=(some ⟨c.w.heap.size,0,none⟩,cap'):=(by simp[d]);have hcs:cs.toList.length=cap'*sz:=(by rw[bJ];simp only[cs,nX,jG,hol,hml,size_zeroCells,hzs];rw[<- dw,<- dw];congr 1;omega);have le:c.Le d:=(by refine⟨λb o h=>⟨h,wX (hold b (hr.im b o h))⟩,aT _,λ_ _=>rfl,b4V d rfl λi hi=>by simp[d,hi]⟩);refine⟨d,_,by rw[e];exact hrun,?_,?_⟩;{refine Tr.set hr hk le rfl rfl (λi hi=>by simp[d,hi]) rfl rfl rfl (by simp[d]) (λb hb _=>hold b hb) (λb o h=>.inl h) ?_ ?_;{intro b h;refine .inl ?_;simp only[ru,Qi]at h;simp at h;omega};refine .inr ⟨c.w.heap.size,cs.toList,el,by rw[Qi],by simpa using hnew,by rw[Qi];exact hcs,by rw[Qi];simpa using hge,by rw[Qi];exact hle',?_,λo h=>?_⟩;{have ec:cs.toList=olds++news++(Builtin.zeroCells z.cells (cap'-(l.length+m.length))).toList:=(by simp[cs]);rw[ec];exact Dc (c:=d) (Ht (xQ le.im ho1) (xQ le.im hm))};exact absurd (hr.im _ _ h) aj};exact a6l (c:=d) (j:=j) hj b6F Qi
end
theorem Tr.a4K{c:Cx}{H:Heap}(sz:Nat)(hr:HR c H) :
  ∃d,d.w=c.w/\Tr c H d ((nextId H,.uH sz [])::H)/\VV d (.gs (nextId H) 0) (.slice none 0 0):=by
 let d:Cx:={ c with nx:=c.nx+1,tk:=λk=>if k=c.nx then(none,0)else c.tk k,tp:=uj ((nextId H,.uH sz [])::H) };have hlt:∀x∈H,x.1<c.nx:=λx hx=>(by rw[hr.nx];exact sK hr.ids x hx);have htk:d.tk (nextId H)=(none,0):=(by simp[d,hr.nx]);have le:c.Le d:=(by refine⟨λb o h=>⟨h,rfl⟩,mF _,λ_ _=>rfl,λk n hk hn=>.inl ⟨?_,?_⟩⟩;{have:nextId H≠k:=(by rw[<- hr.nx];omega);simp only[d]at hn;rw[Bz this]at hn;rw[hr.tp];exact hn};simp only[d];rw[aB aj]);have hbk:∀x∈H,ru d x=ru c x:=λx hx=>Bl rfl (by have:=hlt x hx;simp only[d];rw[aB aj]);have hbn:ru d (nextId H,.uH sz [])=none:=(by simp[ru,htk]);refine⟨d,rfl,⟨⟨?_,rfl,?_,hr.im,?_,?_⟩,le,rfl,rfl,rfl,aT _,λ_ _ _=>rfl,?_,λ_ _ h=>.inl h⟩,?_⟩;{simp only[d,nextId,hr.nx]};{exact⟨λx hx=>sK hr.ids x hx,hr.ids⟩};{intro x hx;rcases aU.1 hx with rfl|hx;{exact .inl ⟨by rw[htk],by rw[htk],rfl⟩};refine DZ le (hlt x hx) ?_ (λb hb=>⟨rfl,λy hy=>hy⟩) (hr.ok x hx);have:=hlt x hx;simp only[d];rw[aB aj]};{rw[eY];constructor;{intro y hy b hb;rw[hbn]at hb;cases hb};exact BD hr.apart λx hx y hy h b hb=>by rw[hbk y hy];rw[hbk x hx]at hb;exact h b hb};{intro y hy b hb;rcases aU.1 hy with rfl|hy;{rw[hbn]at hb;cases hb};rw[hbk y hy]at hb;exact .inr ⟨y,hy,hb⟩};exact a6l (by simp only[d];rw[hr.nx];omega) (by show uj _ _=_;rw[JB];rfl) htk
theorem Tr.thaw{c:Cx}{H:Heap}{j sz:Nat}{l:List AV}{v:Value}(hr:HR c H)(ho:hget H j=some (.uH sz l))(ne:l≠[])(hV:VV c (.gs j l.length) v) :
  ∃cp,l.length<=cp/\cp<=maxL/\∃d,d.w=c.w/\Tr c H d ((nextId H,.arr sz cp l)::hset H j .gone)/\VV d (.ms (nextId H) 0 l.length cp sz) v:=by
 obtain⟨e,hj,hc1,hc2⟩:=Ji hr ho hV;rcases hr.EM ho with⟨_,_,h0⟩|⟨b,cs,ty,g1,g2,g3,g4,g5,g6,g7⟩;{exact absurd h0 ne};refine⟨(c.tk j).2,hc1,hc2,?_⟩;have hjm:=wV ho;have hbs:b<c.w.heap.size:=(dG.1 g2).1;let d:Cx:={ c with nx:=c.nx+1,ρ:=λk=>if k=c.nx then b else c.ρ k,tp:=uj ((nextId H,.arr sz (c.tk j).2 l)::hset H j .gone) };have hlt:∀x∈H,x.1<c.nx:=λx hx=>(by rw[hr.nx];exact sK hr.ids x hx);have hρ:d.ρ (nextId H)=b:=(by simp[d,hr.nx]);have YK:=CU (k:=j) (o':=.gone) hr.ids;have le:c.Le d:=(by refine⟨λb o h=>⟨h,rfl⟩,mF _,λk hk=>?_,λk n hk hn=>.inl ⟨?_,rfl⟩⟩;{simp only[d];rw[aB aj]};have hne:nextId H≠k:=(by rw[<- hr.nx];omega);simp only[d]at hn;rw[Bz hne]at hn;by_cases hkj:k=j;{subst hkj;unfold uj at hn;rw[BI ho]at hn;simp at hn};rw[FX hkj]at hn;rw[hr.tp];exact hn);have hbk:∀x∈H,ru d x=ru c x:=λx hx=>Bl (by have:=hlt x hx;simp only[d];rw[aB aj]) rfl;have hbn:ru d (nextId H,.arr sz (c.tk j).2 l)=some b:=(by simp[ru,hρ]);have hbj:ru c (j,.uH sz l)=some b:=(by simp[ru,g1]);have hne:∀x∈H,x.1≠j->∀b',ru c x=some b'->b'≠b:=λx hx hn b' hb' e=>hr.apart' hx hjm hn hb' (by rw[e];exact hbj);refine⟨d,rfl,⟨⟨?_,rfl,⟨λx hx=>?_,YK⟩,hr.im,?_,?_⟩,le,rfl,rfl,rfl,aT _,λ_ _ _=>rfl,?_,λ_ _ h=>.inl h⟩,?_⟩;{simp only[d,nextId,hr.nx]};{have:=sK YK x hx;rw[Ia]at this;exact this};{intro x hx;rcases aU.1 hx with rfl|hx;{show(HO.arr sz (c.tk j).2 l).Ok d (nextId H);refine⟨cs,ty,by rw[hρ];exact g2,g3,g4,g5,Fp le g6,λo h=>?_⟩;rw[hρ]at h;exact g7 o h};rcases wH hr.ids hx with rfl|⟨hx,hn⟩;{trivial};exact DZ le (hlt x hx) rfl (λb hb=>⟨rfl,λy hy=>hy⟩) (hr.ok x hx)};{rw[eY];constructor;{intro y hy b' hb hb';rw[hbn]at hb;obtain rfl:=aW hb;rcases wH hr.ids hy with rfl|⟨hy,hn⟩;{simp[ru]at hb'};rw[hbk y hy]at hb';exact hne y hy hn _ hb' rfl};refine wJ YK λx hx y hy hn b hb hb'=>?_;rcases wH hr.ids hx with rfl|⟨hx,_⟩;{simp[ru]at hb};rcases wH hr.ids hy with rfl|⟨hy,_⟩;{simp[ru]at hb'};rw[hbk x hx]at hb;rw[hbk y hy]at hb';exact hr.apart' hx hy hn hb hb'};{intro y hy b' hb;rcases aU.1 hy with rfl|hy;{rw[hbn]at hb;obtain rfl:=aW hb;exact .inr ⟨_,hjm,hbj⟩};rcases wH hr.ids hy with rfl|⟨hy,_⟩;{simp[ru]at hb};rw[hbk y hy]at hb;exact .inr ⟨y,hy,hb⟩};rw[e];refine vG rfl rfl ?_;simp only[VR];refine⟨by simp only[d];rw[hr.nx];omega,?_,hc1,hc2⟩;rw[hρ,g1,Nat.zero_mul]
theorem Tr.Nk{c:Cx}{H:Heap}{j sz:Nat}{l:List AV}{v:Value}(hr:HR c H)(ho:hget H j=some (.uH sz l))(hl:l.length<=maxL)(hV:VV c (.gs j l.length) v) :
  ∃d,d.w=c.w/\Tr c H d (hset H j .gone)/\VV d (.sl sz l .no) v:=by
 obtain⟨e,hj,hc1,hc2⟩:=Ji hr ho hV;have tpg:∀k n,uj (hset H j .gone) k=some n->c.tp k=some n:=(by intro k n hn;by_cases hkj:k=j;{subst hkj;unfold uj at hn;rw[BI ho]at hn;simp at hn};rw[FX hkj]at hn;rw[hr.tp];exact hn);rcases hr.EM ho with⟨g1,g2,rfl⟩|⟨b,cs,ty,g1,g2,g3,g4,g5,g6,g7⟩;{let d:Cx:={ c with tp:=uj (hset H j .gone) };have le:c.Le d:=⟨λb o h=>⟨h,rfl⟩,aT _,λ_ _=>rfl,λk n _ h=>.inl ⟨tpg k n h,rfl⟩⟩;refine⟨d,rfl,Tr.set hr ho le rfl rfl (λ_ _=>rfl) rfl rfl rfl (aT _) (λ_ _ _=>rfl) (λ_ _ h=>.inl h) (λb h=>by simp[ru]at h) trivial,?_⟩;rw[e,g1,g2];refine vG rfl rfl ?_;simp only[VR,Rd];exact⟨hl,.inl ⟨trivial,rfl⟩⟩};obtain⟨a',d',rfl,g8⟩:=Dh g6;let d:Cx:={ c with Im:=λb' o=>c.Im b' o\/b'=b,tp:=uj (hset H j .gone) };have le:c.Le d:=⟨λb o h=>⟨.inl h,rfl⟩,aT _,λ_ _=>rfl,λk n _ h=>.inl ⟨tpg k n h,rfl⟩⟩;have hbj:ru c (j,.uH sz l)=some b:=(by simp[ru,g1]);refine⟨d,rfl,Tr.set hr ho le rfl rfl (λ_ _=>rfl) rfl rfl rfl (aT _) (λ_ _ _=>rfl) ?_ (λb h=>by simp[ru]at h) trivial,?_⟩;{rintro b' x (h|rfl);{exact .inl h};exact .inr (.inr hbj)};rw[e,g1];refine vG rfl rfl ?_;simp only[VR,Rd];refine⟨hl,.inr ⟨⟨b,0,none⟩,_,rfl,hc1,hc2,λ_=>rfl,Bq (xQ le.im g8) λx v hx=>⟨?_,.inr rfl⟩⟩⟩;have:x<a'.length:=(aY.1 hx).1;show c.w.cell? _=_;rw[cell_of_heap g2];simp[bI this,hx]
theorem Jc{c:Cx}{sz:Nat}{v:Value}(h:VV c .qV v):∃base,v=.slice base ([]:List AV).length ([]:List AV).length/\Rd c.w c.Im (.sl sz [] .no) [.slice base ([]:List AV).length ([]:List AV).length]:=by obtain rfl:=DW h;refine⟨none,rfl,?_⟩;simp only[Rd];exact⟨by simp[maxL],.inl ⟨trivial,rfl⟩⟩
theorem Nh{c:Cx}{sz:Nat}{l:List AV}{v:Value}(h:VV c (.sl sz l .full) v):∃base,v=.slice base l.length l.length/\Rd c.w c.Im (.sl sz l .no) [.slice base l.length l.length]:=by have hv:=h.1.2 rfl;have h2:=h.2;simp only[VR]at h2;obtain⟨h3,b,h4⟩:=h2;have e:=cells_one hv h4;refine⟨b,e,?_⟩;rw[<- h4];exact h3
end Go.AL
namespace Go.AL
section
variable{P:Program}{L:Lay}{c:Cx}{H:Heap}{e:Env}{a:Act}{k:AV->Heap->Prop}{ks:Heap->Prop}{o:Oper}
theorem a3P{u:Nat}{X:Prop}(hat:L.sQ u λi=>(match i.desc with | .slice _=>X | .str=>X|_=>False))(hL:uz P L):(∃d,P.underlying u=some d/\((∃e,d=.slice e)\/d=.string))/\X:=by
 obtain⟨i,hT,h⟩:=Lay.su hL hat;obtain⟨d,hd,hdd⟩:=hT.under;cases hi:i.desc <;> simp only[hi]at h <;> first|exact h.elim|skip
 ·exact⟨⟨d,hd,.inr (En (hdd.trans hi))⟩,h⟩
 exact⟨⟨d,hd,.inl ⟨_,sN (hdd.trans hi)⟩⟩,h⟩
theorem a5K(hL:uz P L){cl:Call}{t u:Nat}{r:List Nat}{A B:AV}(hr:HR c H)(ho:o.op=.call cl)(hc:cl.callee=.builtin .append)(hat:cl.argTypes.toList=t::u::r)
  {v x:Value} (hv:cl.args.toList.map a.eval=[v,x]) (hA:EV c A v) (hB:EV c B x)
  (h:L.sQ u λi=>(match i.desc with
  | .slice _=>AP L t A B H k
  | .str=>AP L t A B H k
  |_=>False)):uD P o a.eval c H k ks:=by
 have hh:=a3P h hL;clear h;obtain⟨⟨d,hu,hd⟩,h⟩:=hh;unfold AP at h;have hh:=Lay.su hL h;clear h;obtain⟨i,hT,h⟩:=hh;obtain⟨dt,ht,hdt⟩:=hT.under;split at h;case h_2=>exact h.elim
 rename_i el hi;obtain rfl:=sN (hdt.trans hi);have hh:=Lay.su hL h;clear h;obtain⟨ei,hE,h⟩:=hh;obtain⟨info,z,g1,g2,g3,g4,g5,g6⟩:=hE.info;have hzs:z.cells.size=flat ei.zero:=by rw[<- bJ];exact uJ _ _ (g6 c.w c.Im)
 have NV:∀r w',(Builtin.append_ #[t,u] o.type #[v,x]).run P c.w=.ok r w'->(execOp a.eval o).run P c.w=.ok (.value r) w':=by
  intro rr w' hrr;rw[yg ho hc,yh hv];have e2:(Builtin.append_ cl.argTypes o.type #[v,x]).run P c.w=(Builtin.append_ #[t,u] o.type #[v,x]).run P c.w:=by have e0:cl.argTypes[0]? = some t:=(by rw[<- bG,hat];rfl);have e1:cl.argTypes[1]? = some u:=(by rw[<- bG,hat];rfl);unfold Builtin.append_;simp only[e0,e1];rfl
  simp only[builtin,Sem.run_bind,e2,hrr,Result.andThen_ok,Sem.run_pure]
 have fin:∀(d0:Cx) (l m:List AV) (j:Nat) (H0:Heap),d0.w=c.w->Tr c H d0 H0->hget H0 j=some (.tok (flat ei.zero) l.length)->VV d0 (.sl (flat ei.zero) l (.own j)) v ->
   (∃news,Src P (flat ei.zero) c.w x m.length news/\Jw c.w c.Im (flat ei.zero) m news)->l.length+m.length<=maxL->(l.length+m.length)*ei.bytes<=140737488355328 ->
   k (.sl (flat ei.zero) (l++m) (.own j)) (hset H0 j (.tok (flat ei.zero) (l.length+m.length)))->uD P o a.eval c H k ks:=by
  rintro d0 l m j H0 hw htr hk hV ⟨news,hx,hm⟩ h1 h2 h3;obtain⟨c',v',hrun,xH,hV'⟩:=U0 (P:=P) (ty:=o.type) htr.hr hk hV ht hu hd g1 g2 g4 hzs (by rw[hw];exact hx) (xQ htr.le.im hm) h1 (by rw[g3];exact h2);rw[hw]at hrun;exact .inl ⟨v',c',_,_,NV _ _ hrun,htr.trans xH,sD hV',h3⟩
 have PZ:∀(d0:Cx) (l m:List AV),d0.w=c.w->Tr c H d0 ((nextId H,.tok (flat ei.zero) l.length)::H)->VV d0 (.sl (flat ei.zero) l (.own (nextId H))) v ->
   (∃news,Src P (flat ei.zero) c.w x m.length news/\Jw c.w c.Im (flat ei.zero) m news)->l.length+m.length<=maxL->(l.length+m.length)*ei.bytes<=140737488355328 ->
   k (.sl (flat ei.zero) (l++m) .no) H->uD P o a.eval c H k ks:=by
  rintro d0 l m hw htr hV ⟨news,hx,hm⟩ h1 h2 h3;obtain⟨c',v',hrun,xH,hV'⟩:=U0 (P:=P) (ty:=o.type) htr.hr (j:=nextId H) (by simp[hget]) hV ht hu hd g1 g2 g4 hzs (by rw[hw];exact hx) (xQ htr.le.im hm) h1 (by rw[g3];exact h2);rw[hw]at hrun;have Uu:=htr.trans xH;have hset':hset ((nextId H,HO.tok (flat ei.zero) l.length)::H) (nextId H) (.tok (flat ei.zero) (l.length+m.length))=(nextId H,.tok (flat ei.zero) (l.length+m.length))::H:=by simp[hset]
  rw[hset']at Uu;have hwk:b31 ((nextId H,.tok (flat ei.zero) (l.length+m.length))::H) H:=by
   refine⟨a3A λk' o' hmem=>?_,hr.ids⟩;have hlt:=sK hr.ids _ hmem;have hlt:k'<nextId H:=hlt;have hok:=hr.ok _ hmem;refine⟨o',?_,Qg o',?_⟩
   ·simp only[hget];have hne:Nat.beq (nextId H) k'=false:=by
     cases hb:Nat.beq (nextId H) k' with
     |false=>rfl
     |true=>have:=aJ hb;omega
    rw[hne];exact EO hr.ids hmem
   rw[<- hr.nx];cases o' with
   |box A=>obtain⟨cs,ty,_,h2,_⟩:=hok;exact L6 _ _ h2
   |tY sh es=>obtain⟨ents,clock,_,h2,_⟩:=hok;exact Vf h2
   |_=>rfl
  refine .inl ⟨v',c'.cut H,_,H,NV _ _ hrun,Uu.cut hwk (by rw[hr.nx];exact aT _),sD ?_,h3⟩;refine Yd (λk n hn=>by rw[Uu.hr.tp];exact hwk.tp k n hn) rfl ?_;exact RN (by simp only[le0];exact⟨trivial,qX _⟩) hV'
 split at h
 ·obtain⟨m,news,hx,hm,h⟩:=AU hr hB h;obtain⟨base,rfl,hRd⟩:=Jc (sz:=flat ei.zero) hA;obtain⟨d0,hw,htr,hV⟩:=Tr.Ou hr hRd;cases h with
  |tok h1 h2 h3 =>refine fin d0 [] m _ _ hw htr (by simp[hget]) hV ⟨news,hx,hm⟩ h1 h2 ?_;have:=wF.1 h3;simpa[hset]using this
  |pure h1 h2 h3=>exact PZ d0 [] m hw htr hV ⟨news,hx,hm⟩ h1 h2 h3
 ·rename_i sz l;obtain⟨rfl,h⟩:=sW.1 h;obtain⟨m,news,hx,hm,h⟩:=AU hr hB h;obtain⟨base,rfl,hRd⟩:=Nh hA;obtain⟨d0,hw,htr,hV⟩:=Tr.Ou hr hRd;cases h with
  |tok h1 h2 h3 =>refine fin d0 l m _ _ hw htr (by simp[hget]) hV ⟨news,hx,hm⟩ h1 h2 ?_;have:=wF.1 h3;simpa[hset]using this
  |pure h1 h2 h3=>exact PZ d0 l m hw htr hV ⟨news,hx,hm⟩ h1 h2 h3
 ·rename_i sz l j;obtain⟨rfl,h⟩:=sW.1 h;obtain⟨m,news,hx,hm,h⟩:=AU hr hB h;obtain⟨ob,hob,h⟩:=uo.1 h;split at h;{rename_i sz' top;have hh:=sW.1 h;clear h;obtain⟨rfl,rfl,h⟩:=hh;obtain⟨_,g7⟩:=yB.1 h.next;exact fin c l m j H rfl (.refl hr) hob hA ⟨news,hx,hm⟩ h.len h.room g7};exact h.elim
 exact h.elim
theorem Ym{c:Cx}:∀(n:Nat) {l:List AV} {cs:List Value},Pq c 1 l cs->Pq c 1 (l.drop n) (cs.drop n)
 | 0,_,_,h=>h
 |_+1,[],_,_=>trivial
 | n+1,x::l,cs,h=>by
   obtain⟨a,d,rfl,h2,h3,h4⟩:=h;obtain⟨y,rfl⟩:∃y,a=[y]:=by
    match a,h2 with
    | [y],_=>exact⟨y,rfl⟩
   exact Ym n h4
theorem NC{c:Cx}{m:List AV}{ds:List Value}:∀{l:List AV} {cs:List Value},Pq c 1 l cs->cs.length=l.length->Pq c 1 m ds->Pq c 1 (l++m) (cs++ds)
 | [],cs,_,hl,h=>by obtain rfl:cs=[]:=bQ (by simpa using hl);exact h
 |x::l,cs,hx,hl,h=>by obtain⟨a,d,rfl,h2,h3,h4⟩:=hx;refine⟨a,d++ds,by rw[bK],h2,h3,NC h4 ?_ h⟩;simp at hl;omega
theorem Yj{c:Cx}:∀(n:Nat) {l:List AV} {cs:List Value},Pq c 1 l cs->Pq c 1 (l.take n) (cs.take n)
 | 0,_,_,_=>trivial
 |_+1,[],_,_=>trivial
 | n+1,x::l,cs,h=>by
   obtain⟨a,d,rfl,h2,h3,h4⟩:=h;obtain⟨y,rfl⟩:∃y,a=[y]:=by
    match a,h2 with
    | [y],_=>exact⟨y,rfl⟩
   exact⟨[y],d.take n,rfl,rfl,h3,Yj n h4⟩
theorem a1Y{c:Cx}{z:AV}{y:Value}(h:Rd c.w c.Im z [y]):∀n,Pq c 1 (List.replicate n z) (List.replicate n y)
 | 0=>trivial
 |n+1=>⟨[y],List.replicate n y,rfl,rfl,h,a1Y h n⟩
theorem a3Z(hL:uz P L){cl:Call}{t u:Nat}{r:List Nat}{A B:AV}(hr:HR c H)(ho:o.op=.call cl)(hc:cl.callee=.builtin .append)(hat:cl.argTypes.toList=t::u::r)
  {v x:Value} (hv:cl.args.toList.map a.eval=[v,x]) (hA:EV c A v) (hB:EV c B x)
  (hh:(∃d,P.underlying u=some d/\((∃e,d=.slice e)\/d=.string))/\QU L t A B H k):uD P o a.eval c H k ks:=by
 obtain⟨⟨d,hu,hd⟩,h⟩:=hh;unfold QU at h;have hh:=Lay.su hL h;clear h;obtain⟨i,hT,h⟩:=hh;obtain⟨dt,ht,hdt⟩:=hT.under;split at h;case h_2=>exact h.elim
 rename_i el hi;obtain rfl:=sN (hdt.trans hi);have hh:=Lay.su hL h;clear h;obtain⟨ei,hE,h⟩:=hh;obtain⟨info,z,g1,g2,g3,g4,g5,g6⟩:=hE.info;have hzs:z.cells.size=flat ei.zero:=by rw[<- bJ];exact uJ _ _ (g6 c.w c.Im)
 have NV:∀r w',(Builtin.append_ #[t,u] o.type #[v,x]).run P c.w=.ok r w'->(execOp a.eval o).run P c.w=.ok (.value r) w':=by
  intro rr w' hrr;rw[yg ho hc,yh hv];have e2:(Builtin.append_ cl.argTypes o.type #[v,x]).run P c.w=(Builtin.append_ #[t,u] o.type #[v,x]).run P c.w:=by have e0:cl.argTypes[0]? = some t:=(by rw[<- bG,hat];rfl);have e1:cl.argTypes[1]? = some u:=(by rw[<- bG,hat];rfl);unfold Builtin.append_;simp only[e0,e1];rfl
  simp only[builtin,Sem.run_bind,e2,hrr,Result.andThen_ok,Sem.run_pure]
 have fin:∀(d0:Cx) (l m:List AV) (j:Nat) (H0:Heap),d0.w=c.w->Tr c H d0 H0->hget H0 j=some (.tok (flat ei.zero) l.length)->VV d0 (.sl (flat ei.zero) l (.own j)) v ->
   (∃news,Src P (flat ei.zero) c.w x m.length news/\Jw c.w c.Im (flat ei.zero) m news)->l.length+m.length<=maxL->(l.length+m.length)*ei.bytes<=140737488355328 ->
   k (.sl (flat ei.zero) (l++m) (.own j)) (hset H0 j (.tok (flat ei.zero) (l.length+m.length)))->uD P o a.eval c H k ks:=by
  rintro d0 l m j H0 hw htr hk hV ⟨news,hx,hm⟩ h1 h2 h3;obtain⟨c',v',hrun,xH,hV'⟩:=U0 (P:=P) (ty:=o.type) htr.hr hk hV ht hu hd g1 g2 g4 hzs (by rw[hw];exact hx) (xQ htr.le.im hm) h1 (by rw[g3];exact h2);rw[hw]at hrun;exact .inl ⟨v',c',_,_,NV _ _ hrun,htr.trans xH,sD hV',h3⟩
 have PZ:∀(d0:Cx) (l m:List AV),d0.w=c.w->Tr c H d0 ((nextId H,.tok (flat ei.zero) l.length)::H)->VV d0 (.sl (flat ei.zero) l (.own (nextId H))) v ->
   (∃news,Src P (flat ei.zero) c.w x m.length news/\Jw c.w c.Im (flat ei.zero) m news)->l.length+m.length<=maxL->(l.length+m.length)*ei.bytes<=140737488355328 ->
   k (.sl (flat ei.zero) (l++m) .no) H->uD P o a.eval c H k ks:=by
  rintro d0 l m hw htr hV ⟨news,hx,hm⟩ h1 h2 h3;obtain⟨c',v',hrun,xH,hV'⟩:=U0 (P:=P) (ty:=o.type) htr.hr (j:=nextId H) (by simp[hget]) hV ht hu hd g1 g2 g4 hzs (by rw[hw];exact hx) (xQ htr.le.im hm) h1 (by rw[g3];exact h2);rw[hw]at hrun;have Uu:=htr.trans xH;have hset':hset ((nextId H,HO.tok (flat ei.zero) l.length)::H) (nextId H) (.tok (flat ei.zero) (l.length+m.length))=(nextId H,.tok (flat ei.zero) (l.length+m.length))::H:=by simp[hset]
  rw[hset']at Uu;have hwk:b31 ((nextId H,.tok (flat ei.zero) (l.length+m.length))::H) H:=by
   refine⟨a3A λk' o' hmem=>?_,hr.ids⟩;have hlt:=sK hr.ids _ hmem;have hlt:k'<nextId H:=hlt;have hok:=hr.ok _ hmem;refine⟨o',?_,Qg o',?_⟩
   ·simp only[hget];have hne:Nat.beq (nextId H) k'=false:=by
     cases hb:Nat.beq (nextId H) k' with
     |false=>rfl
     |true=>have:=aJ hb;omega
    rw[hne];exact EO hr.ids hmem
   rw[<- hr.nx];cases o' with
   |box A=>obtain⟨cs,ty,_,h2,_⟩:=hok;exact L6 _ _ h2
   |tY sh es=>obtain⟨ents,clock,_,h2,_⟩:=hok;exact Vf h2
   |_=>rfl
  refine .inl ⟨v',c'.cut H,_,H,NV _ _ hrun,Uu.cut hwk (by rw[hr.nx];exact aT _),sD ?_,h3⟩;refine Yd (λk n hn=>by rw[Uu.hr.tp];exact hwk.tp k n hn) rfl ?_;exact RN (by simp only[le0];exact⟨trivial,qX _⟩) hV'
 have b4l:∀(l m:List AV) (base:Option Addr),v=.slice base l.length l.length->Rd c.w c.Im (.sl (flat ei.zero) l .no) [.slice base l.length l.length] ->
   (∃news,Src P (flat ei.zero) c.w x m.length news/\Jw c.w c.Im (flat ei.zero) m news)->m≠[]->l.length+m.length<=maxL->(l.length+m.length)*ei.bytes<=140737488355328 ->
   (∀cp,l.length+m.length<=cp->cp<=maxL->k (.ms (nextId H) 0 (l.length+m.length) cp (flat ei.zero)) ((nextId H,.arr (flat ei.zero) cp (l++m))::H))->uD P o a.eval c H k ks:=by
  rintro l m base rfl hRd ⟨news,hx,hm⟩ hne h1 h2 h3;have b46:0<m.length:=jl.2 hne;obtain⟨olds,ho1,ho2⟩:∃olds,Jw c.w c.Im (flat ei.zero) l olds/\Src P (flat ei.zero) c.w (.slice base l.length l.length) l.length olds:=by simp only[Rd]at hRd;rcases hRd.2 with⟨rfl,h8⟩|⟨ad,cap,h8,h9,h10,h11,h12⟩;{exact⟨[],rfl,by simp at h8;rw[h8];exact⟨λ_=>rfl,λ_=>rfl⟩⟩};obtain⟨olds,g1,g2⟩:=J7 h12;refine⟨olds,g1,?_⟩;simp at h8;rw[h8.1];exact Src.slice (vT g1) (Pn rfl rfl (λhne=>h11 (λe=>by subst e;exact hne g1)) g2)
  have hol:=vT ho1;have hml:=vT hm;have hge:=grownCap_ge c.w (l.length+m.length) l.length el;have hle:=grownCap_le_maxLen c.w (l.length+m.length) l.length el (by simpa[maxL,maxLen]using h1);have hle':grownCap c.w (l.length+m.length) l.length el<=maxL:=(by simpa[maxL,maxLen]using hle);have hrun:=JI (P:=P) (ty:=o.type) (t:=t) (u:=u) ht hu hd g1 g2 g4 hx (by omega:l.length<l.length+m.length) h1 (by rw[g3];exact h2) ho2.cells;generalize hcp:grownCap c.w (l.length+m.length) l.length el=cap' at hge hle' hrun;let cs:=olds.toArray++news.toArray++Builtin.zeroCells z.cells (cap'-(l.length+m.length));have hcs:cs.size=cap'*flat ei.zero:=(by simp only[cs,nX,jG,hol,hml,size_zeroCells,hzs];rw[<- dw,<- dw];congr 1;omega);have htd:=Tr.drew hr;let d0:Cx:={ c with w:=c.w.drew };have hr0:HR d0 H:=htd.hr;have htr:Tr c H (d0.push (.cells cs el) ((nextId H,.arr (flat ei.zero) cap' (l++m))::H)) ((nextId H,.arr (flat ei.zero) cap' (l++m))::H):=(by refine htd.trans (Tr.push hr0 _ _ (λ_=>rfl) ?_);refine⟨cs.toList,el,?_,?_,by simp;exact hge,hle',?_,?_⟩;{rw[ELρ hr0];simp only[Cx.push,jc];exact alloc_heap_new _ _};{rw[bJ,hcs]};{have le:=htd.le.trans (UE hr0 (.cells cs el) (.arr (flat ei.zero) cap' (l++m)));have h5:=Ht (xQ le.im ho1) (xQ le.im hm);have h6:=Dc (c:=d0.push (.cells cs el) ((nextId H,.arr (flat ei.zero) cap' (l++m))::H)) (rest:=(Builtin.zeroCells z.cells (cap'-(l.length+m.length))).toList) h5;have e:cs.toList=olds++news++(Builtin.zeroCells z.cells (cap'-(l.length+m.length))).toList:=(by simp[cs]);rw[e];exact h6};intro y hy;rw[ELρ hr0]at hy;have:=hr0.im _ _ hy;omega);refine .inl ⟨_,_,_,_,NV _ _ hrun,htr,sD (vG rfl rfl ?_),h3 cap' hge hle'⟩;simp only[VR];rw[ELρ hr0];exact⟨by simp only[Cx.push,hr0.nx];omega,by simp[d0],hge,hle'⟩
 split at h
 ·obtain⟨m,news,hx,hm,h⟩:=AU hr hB h;obtain⟨base,hbe,hRd⟩:=Jc (sz:=flat ei.zero) hA;obtain⟨d0,hw,htr,hV⟩:=Tr.Ou hr hRd;cases h with
  |tok h1 h2 h3 =>refine fin d0 [] m _ _ hw htr (by simp[hget]) (hbe ▸ hV) ⟨news,hx,hm⟩ h1 h2 ?_;have:=wF.1 h3;simpa[hset]using this
  |pure h1 h2 h3=>exact PZ d0 [] m hw htr (hbe ▸ hV) ⟨news,hx,hm⟩ h1 h2 h3
  |wr h0 h1 h2 h3=>exact b4l [] m base hbe hRd ⟨news,hx,hm⟩ h0 (by simpa using h1) (by simpa using h2) h3
 ·rename_i sz l;obtain⟨rfl,h⟩:=sW.1 h;obtain⟨m,news,hx,hm,h⟩:=AU hr hB h;obtain⟨base,hbe,hRd⟩:=Nh hA;obtain⟨d0,hw,htr,hV⟩:=Tr.Ou hr hRd;cases h with
  |tok h1 h2 h3 =>refine fin d0 l m _ _ hw htr (by simp[hget]) (hbe ▸ hV) ⟨news,hx,hm⟩ h1 h2 ?_;have:=wF.1 h3;simpa[hset]using this
  |pure h1 h2 h3=>exact PZ d0 l m hw htr (hbe ▸ hV) ⟨news,hx,hm⟩ h1 h2 h3
  |wr h0 h1 h2 h3=>exact b4l l m base hbe hRd ⟨news,hx,hm⟩ h0 h1 h2 h3
 ·rename_i sz l j;obtain⟨rfl,h⟩:=sW.1 h;obtain⟨m,news,hx,hm,h⟩:=AU hr hB h;obtain⟨ob,hob,h⟩:=uo.1 h;split at h;{rename_i sz' top;have hh:=sW.1 h;clear h;obtain⟨rfl,rfl,h⟩:=hh;obtain⟨_,g7⟩:=yB.1 h.next;exact fin c l m j H rfl (.refl hr) hob hA ⟨news,hx,hm⟩ h.len h.room g7};exact h.elim
 ·rename_i j len;obtain⟨m,news,hx,hm,h⟩:=AU hr hB h;obtain⟨ob,hob,h⟩:=uo.1 h;split at h;{rename_i sz l;have hh:=sW.1 h;clear h;obtain⟨rfl,rfl,h0,h⟩:=hh;obtain⟨_,q7⟩:=yB.1 h.next;obtain⟨c',v',hrun,xH,hV'⟩:=b5R (P:=P) (ty:=o.type) hr hob hA ht hu hd g1 g2 g4 hzs hx hm h0 h.len (by rw[g3];exact h.room);exact .inl ⟨v',c',_,_,NV _ _ hrun,xH,sD hV',q7⟩};exact h.elim
 ·rename_i j off len cap;obtain⟨hf1,h⟩:=sW.1 h;obtain⟨m,news,hx,hm,h⟩:=AU hr hB h;obtain⟨ob,hob,h⟩:=uo.1 h;split at h
  ·rename_i cp l;obtain⟨⟨h00,h0,h1⟩,h⟩:=h;obtain⟨_,h⟩:=yB.1 h;obtain⟨cs,ty,q1,q2,q3,q4,q5,q6⟩:=hr.EM hob;obtain⟨hj,rfl,q7,q8⟩:=Oj hA;have hml:=vT hm;rw[iK]at hml q2;have hst:=run_storeCells_at (P:=P) (c.ρ j) (off+len) ty news 0 cs.toArray c.w q1 aA (Iy hm);simp only[dR,hml]at hst;have hrun:=FY (P:=P) (ty:=o.type) (t:=t) (u:=u) (base:=some ⟨c.ρ j,off*1,none⟩) (w':=c.w.setRow (c.ρ j) (cs.take (off+len)++news++cs.drop (off+len+m.length)).toArray) ht hu hd g1 (g2.trans hf1) hx h1 (λad had=>by
    cases had;rw[addr_add,iK,iK];exact hst) (λe=>by cases e)
   refine .inl ⟨_,{ c with w:=c.w.setRow (c.ρ j) (cs.take (off+len)++news++cs.drop (off+len+m.length)).toArray },_,_,NV _ _ hrun,?_,sD (vG rfl rfl ?_),h⟩;{refine Tr.write hr hob q1 (λ_=>rfl) (λ_=>rfl) q6 (by intros;simp) (by intros;simp) ?_;have le:c.Le { c with w:=c.w.setRow (c.ρ j) (cs.take (off+len)++news++cs.drop (off+len+m.length)).toArray }:=(by refine⟨λb x h=>⟨h,wX (setRow_other c.w _ b _ (λe=>q6 x (e ▸ h)))⟩,aT _,λ_ _=>rfl,λ_ _ _ h=>.inl ⟨h,rfl⟩⟩);refine⟨_,ty,setRow_heap c.w _ _ _ _ _ q1,?_,?_,q4,Fp le ?_,q6⟩;{simp;omega};{simp;omega};refine NC (NC (Yj (off+len) q5) aA (by have:=Dc (c:=c) (rest:=[]) hm;simpa using this)) aA (Ym _ q5)};simp only[VR];exact⟨hj,trivial,aj,q8⟩
  exact h.elim
 exact h.elim
theorem KO{α:Type}:∀{l:List α} {i:Nat} {x:α},l[i]? = some x->l.set i x=l
 | [],_,_,h=>by simp at h
 |y::l,0,x,h=>by simp at h;simp[h]
 |y::l,i+1,x,h=>by simp at h;simp[KO h]
theorem a0j{off:Nat}{v:Value}{pre xs post:List Value}{cells:Array Value}(hc:cells.toList=pre++xs++post)(hp:pre.length=off)(hx:v.cells.size=xs.length) :
  (v.cells.zipIdx.foldl (λcs (c,j)=>cs.setIfInBounds (off+j) c) cells).toList=pre++v.cells.toList++post:=by
 obtain⟨g1,g2⟩:=Great.foldl_set off v.cells.toList 0 cells;have hsz:cells.size=pre.length+xs.length+post.length:=(by rw[<- bJ,hc];simp;omega);have e:v.cells.zipIdx.foldl (λcs (c,j)=>cs.setIfInBounds (off+j) c) cells=(v.cells.toList.zipIdx 0).foldl (λcs (x:Value×Nat)=>cs.setIfInBounds (off+x.2) x.1) cells:=(by rw[<- Array.foldl_toList,Array.toList_zipIdx]);rw[e];apply nT;intro i;rw[bG,g2 i];simp only[dR,bJ];have hci:cells[i]? = (pre++xs++post)[i]?:=(by rw[<- hc,bG]);by_cases h1:i<pre.length;{rw[aB aj,hci];rw[bK,bK,bI h1,bI h1]};by_cases h2:i<pre.length+xs.length;{rw[aG ⟨aj,aj,aj⟩];rw[bK,dK aj,bI aA,hp]};rw[aB aj,hci];rw[dK aA,dK aA];congr 1;simp[hx]
theorem LK{place:Nat->Option (Nat×Nat)}{zs:List AV}(hp:∀i z,zs[i]? = some z->place i=some (zf (zs.take i),flat z))(he:xU c e a) :
  ∀ {ps:List (Nat×Operand)} {l:List AV} {cells:Array Value} {k:List AV->Prop},(∀p∈ps,sU p.2=true)->l.map flat=zs.map flat->Ea c l cells.toList->zq e ps l k ->
    ∃l' cells',Instr.fill place cells (ps.map λp=>(p.1,a.eval p.2))=some cells'/\Ea c l' cells'.toList/\k l'
 | [],l,cells,k,_,_,hr,h=>⟨l,cells,rfl,hr,h⟩
 | (i,x)::ps,l,cells,k,ho,hf,hr,h=>by
   simp only[zq]at h;obtain⟨A,hA,h⟩:=rO he (ho (i,x) ak) h;obtain⟨hval,h⟩:=KL.1 h;obtain⟨z,hz,h⟩:=zV.1 h;obtain⟨hfl,h⟩:=sW.1 h;have h':Aa l i A λzs'=>zq e ps zs' k:=by cases A <;> cases z <;> first|exact h|exact h.elim
   obtain⟨hi,h'⟩:=HY h';have hAv:=Ey hA hval;obtain⟨pre,xs,post,h1,h2,h3,h4⟩:=Jt hr hz;have hlen:(a.eval x).cells.size=xs.length:=(by rw[<- bJ,xW _ _ hAv.2,xW _ _ h3,hfl]);have b6O:∀(l m:List AV),l.map flat=m.map flat->zf l=zf m:=by
    intro l;induction l with
    | nil=>intro m h;cases m with
      |nil=>rfl
      |cons y m=>simp at h
    | cons y l ih=>intro m h;cases m with
      |nil=>simp at h
      |cons y' m=>simp at h;simp[zf,h.1,ih m h.2]
   obtain⟨z0,hz0,hzf⟩:∃z0,zs[i]? = some z0/\flat z0=flat z:=by
    have:(l.map flat)[i]? = (zs.map flat)[i]?:=(by rw[hf]);rw[dS,dS,hz]at this;cases hz0:zs[i]? with
    |none=>simp[hz0]at this
    |some z0=>simp[hz0]at this;exact⟨z0,rfl,this.symm⟩
   have hoff:zf (zs.take i)=pre.length:=(by rw[h2];refine b6O _ _ ?_;rw[gX,gX,hf]);have hpl:=hp i z0 hz0;have hcs:=a0j (v:=a.eval x) (off:=pre.length) h1 rfl hlen;have hsz:pre.length+xs.length<=cells.size:=(by rw[<- bJ,h1];simp);obtain⟨l',cells',g1,g2,g3⟩:=LK hp he (cells:=(a.eval x).cells.zipIdx.foldl (λcs (c,j)=>cs.setIfInBounds (pre.length+j) c) cells) (λp hp=>ho p (by simp[hp]))
    (l:=l.set i A) (by rw[dP,hfl,<- hf];exact KO (by rw[dS,hz];rfl)) (by rw[hcs];exact h4 _ _ hAv.2) h'
   refine⟨l',cells',?_,g2,g3⟩;simp only[dF,Instr.fill,hpl,hoff];rw[aB];{exact g1};have:flat z0=xs.length:=(by rw[hzf,xW _ _ h3]);simp;omega
theorem a5Y{fs:List Field}(h:∀f∈fs,∃x,P.info? f.type=some x) :
  fs.mapM (λf=>(P.info? f.type).map λi=>(f.offset,i.size))=some (fs.map λf=>(f.offset,P.cellsOf f.type)):=by
 induction fs with
 |nil=>rfl
 |cons f fs ih =>obtain⟨x,hx⟩:=h f ak;simp[hx,ih λf hf=>h f (by simp[hf]),Program.cellsOf]
theorem a0h:∀{zs:List AV} {i:Nat} {z:AV},Qo zs=true->zs[i]? = some z->zf (zs.take i)=i/\flat z=1
 | [],_,_,_,h=>by simp at h
 | x::l,i,z,hf,h=>by
   simp only[Qo]at hf;cases hb:Nat.beq (flat x) 1 with
   |false=>rw[hb]at hf;cases hf
   | true =>
     rw[hb]at hf;have hx:=aJ hb;cases i with
     |zero=>simp at h;subst h;exact⟨by simp[zf],hx⟩
     |succ i =>obtain⟨k1,k2⟩:=a0h hf (by simpa using h);exact⟨by simp only[jk,zf,hx,k1];omega,k2⟩
theorem a8Y(hL:uz P L){t:Nat}{ps:Array (Nat×Operand)}(hr:HR c H)(he:xU c e a)(hx:∀p∈ps.toList,sU p.2=true)(ho:o.op=.build t ps)
  (h:L.sQ t λi=>(match i.desc,i.zero with
  | .struct _,.ag zs=>zq e ps.toList zs λl=>k (.ag l) H
  | .arr _ el,.ag zs=>L.sQ el λei=>BP (flat ei.zero) 1 (Zy (Qo zs) (zq e ps.toList zs λl=>k (.ag l) H))
  |_,_=>False)):uD P o a.eval c H k ks:=by
 obtain⟨i,hT,h⟩:=Lay.su hL h;obtain⟨d,hd,hdd⟩:=hT.under;split at h;case h_3=>exact h.elim
 case h_2 =>
  rename_i n el zs hi hz;obtain rfl:=Xz (hdd.trans hi);obtain⟨ei,hE,h⟩:=Lay.su hL h;obtain⟨hf1,h⟩:=sW.1 h;obtain⟨info,z,g1,g2,g3,g4,g5,g6⟩:=hT.info;obtain⟨b5h,ez,e1,e2,_,_,_,_⟩:=hE.info;have hz0:Ea c zs z.cells.toList:=by have:=yP (c:=c) _ _ (g6 c.w c.Im);rw[hz]at this;simpa only[VR]using this
  have hfl:Qo zs=true/\zq e ps.toList zs λl=>k (.ag l) H:=(by unfold Zy at h;split at h;{exact⟨‹_›,h⟩};exact h.elim);obtain⟨hfl,h⟩:=hfl;obtain⟨l,cells,h1,h2,h3⟩:=LK (place:=λi=>some (i*b5h.size,b5h.size)) (λi z hz=>by
   obtain⟨k1,k2⟩:=a0h hfl hz;rw[e2,hf1,iK,k1,k2]) he hx rfl hz0 h
  refine .pure hr (v:=.agg cells) ?_ (sD (A:=.ag l) ⟨⟨λ_=>⟨_,rfl⟩,λh=>by cases h⟩,by show VR c (.ag l) cells.toList;simpa only[VR]using h2⟩) h3;unfold execOp;rw[ho];have hb:P.built t (ps.map fun(i,x)=>(i,a.eval x)).toList=some cells:=(by unfold Program.built;simp only[g1,hd,g4,e1];rw[mQ];exact h1);simp only[Sem.run_bind,run_build c.w t _ cells hb,Result.andThen_ok,Sem.run_pure]
 rename_i fs zs hi hz;obtain⟨gs,rfl,rfl⟩:=IL (hdd.trans hi);obtain⟨zs',hz',hoff⟩:=hT.b7N _ hi;rw[hz]at hz';cases hz';have b8m:=hT.inf _ hi;obtain⟨info,z,g1,g2,g3,g4,g5,g6⟩:=hT.info;have hz0:Ea c zs z.cells.toList:=by have:=yP (c:=c) _ _ (g6 c.w c.Im);rw[hz]at this;simpa only[VR]using this
 have hm:gs.toList.mapM (λf=>(P.info? f.type).map λi=>(f.offset,i.size))=some (KX 0 zs):=(by rw[a5Y λf hf=>b8m (f.offset,P.cellsOf f.type,f.type) (bg.2 ⟨f,hf,rfl⟩),<- hoff,gZ];rfl);obtain⟨l,cells,h1,h2,h3⟩:=LK (place:=λi=>(KX 0 zs).toArray[i]?) (λi z hz=>by simpa using OC (n:=0) hz) he hx rfl hz0 h;refine .pure hr (v:=.agg cells) ?_ (sD (A:=.ag l) ⟨⟨λ_=>⟨_,rfl⟩,λh=>by cases h⟩,by show VR c (.ag l) cells.toList;simpa only[VR]using h2⟩) h3;unfold execOp;rw[ho];have hb:P.built t (ps.map fun(i,x)=>(i,a.eval x)).toList=some cells:=(by unfold Program.built;simp only[g1,hd,g4,hm];rw[mQ];exact h1);simp only[Sem.run_bind,run_build c.w t _ cells hb,Result.andThen_ok,Sem.run_pure]
theorem a0V{w:World}{Im:Nat->Nat->Prop}{sz:Nat}:∀{l:List AV} {cs:List Value} {j:Nat} {x:AV},Jw w Im sz l cs->l[j]? = some x ->
  ∃pre xs post,cs=pre++xs++post/\pre.length=j*sz/\xs.length=sz/\∀y ys,Rd w Im y ys->ys.length=sz->Jw w Im sz (l.set j y) (pre++ys++post)
 | [],_,_,_,_,h=>by simp at h
 |z::l,cs,0,x,hr,h=>by obtain⟨a,d,rfl,h2,h3,h4⟩:=hr;refine⟨[],a,d,ak,ak,h2,λy ys hy hl=>?_⟩;exact⟨ys,d,ak,hl,hy,h4⟩
 |z::l,cs,j+1,x,hr,h=>by obtain⟨a,d,rfl,h2,h3,h4⟩:=hr;obtain⟨pre,xs,post,rfl,h5,h6,h8⟩:=a0V h4 (by simpa using h:l[j]? = some x);refine⟨a++pre,xs,post,ak,by simp[h2,h5,dw];omega,h6,λy ys hy hl=>?_⟩;exact⟨a,pre++ys++post,ak,h2,h3,h8 y ys hy hl⟩
theorem QL{sz:Nat}(he:xU c e a) :
  ∀ {ps:List (Nat×Operand)} {l:List AV} {cells:Array Value} {k:List AV->Prop},(∀p∈ps,sU p.2=true)->(∀z∈l,flat z=sz)->Jw c.w c.Im sz l cells.toList->zO e ps l k ->
    ∃l' cells',Instr.fill (λi=>some (i*sz,sz)) cells (ps.map λp=>(p.1,a.eval p.2))=some cells'/\l'.length=l.length/\Jw c.w c.Im sz l' cells'.toList/\k l'
 | [],l,cells,k,_,_,hr,h=>⟨l,cells,rfl,rfl,hr,h⟩
 | (i,x)::ps,l,cells,k,ho,hf,hr,h=>by
   simp only[zO]at h;obtain⟨A,hA,h⟩:=rO he (ho (i,x) ak) h;obtain⟨z,hz,h⟩:=zV.1 h;obtain⟨hfl,h⟩:=sW.1 h;have h':NT A λB=>Aa l i B λzs'=>zO e ps zs' k:=by cases A <;> cases z <;> first|exact h|exact h.elim
   obtain⟨hpu,h'⟩:=KU h';obtain⟨hi,h'⟩:=HY h';have hval:isVal A=true:=by cases A <;> first|rfl|(simp[FQ]at hpu)
   have hAv:=Ey hA hval;have hzs:flat z=sz:=hf z (bP hz);obtain⟨pre,xs,post,h1,h2,h3,h4⟩:=a0V hr hz;have hlen:(a.eval x).cells.toList.length=sz:=(by rw[xW _ _ hAv.2,hfl,hzs]);have hlen':(a.eval x).cells.size=sz:=(by rw[<- hlen,bJ]);have hcs:=a0j (v:=a.eval x) (off:=i*sz) h1 h2 (by rw[hlen',h3]);have hR:=Hr _ _ hpu hAv.2;have hsz:pre.length+xs.length<=cells.size:=(by rw[<- bJ,h1];simp);obtain⟨l',cells',g1,g2,g3,g4⟩:=QL he (cells:=(a.eval x).cells.zipIdx.foldl (λcs (c,j)=>cs.setIfInBounds (i*sz+j) c) cells) (λp hp=>ho p (by simp[hp]))
    (l:=l.set i (strip A)) (λy hy=>by
     rcases kJ hy with hy|rfl;{exact hf y hy};rw[<- uJ _ _ hR];exact hlen) (by rw[hcs];exact h4 _ _ hR hlen) h'
   refine⟨l',cells',?_,by rw[g2];simp,g3,g4⟩;simp only[dF,Instr.fill];rw[aB];{exact g1};simp;omega
theorem X4{a b:Nat}{k:Prop}:SE a b k↔a<=b/\k:=by
 unfold SE;cases h:Nat.ble a b with
 |true=>simp[bF h]
 |false=>simp;intro hle;rw[gI hle]at h;cases h
theorem YH(hL:uz P L){t n:Nat}{ps:Array (Nat×Operand)}(hr:HR c H)(he:xU c e a)(hx:∀p∈ps.toList,sU p.2=true)(ho:o.op=.buildSlice t n ps)
  (h:L.sQ t λi=>(match i.desc with
  | .slice el=>L.sQ el λei=>SE (n*flat ei.zero) 16777216 <| SE n 16777216 <| a8K ei.zero n λzs=>zO e ps.toList zs λl=>k (.sl (flat ei.zero) l .full) H
  |_=>False)):uD P o a.eval c H k ks:=by
 obtain⟨i,hT,h⟩:=Lay.su hL h;obtain⟨d,hd,hdd⟩:=hT.under;split at h;case h_2=>exact h.elim
 rename_i el hi;obtain rfl:=sN (hdd.trans hi);obtain⟨ei,hE,h⟩:=Lay.su hL h;obtain⟨hb1,h⟩:=X4.1 h;obtain⟨hb2,h⟩:=X4.1 h;have h:=V3.1 h;obtain⟨info,z,g1,g2,g3,g4,g5,g6⟩:=hE.info;have b6M:=a3G (g6 c.w c.Im) n;obtain⟨l,cells,h1,h2,h3,h4⟩:=QL (sz:=flat ei.zero) he hx (λy hy=>by rw[(fF.1 hy).2]) b6M h;rw[jX]at h2;have hrun:(Instr.buildSlice t n (ps.map fun(i,x)=>(i,a.eval x))).run P c.w=.ok (.slice (some ⟨c.w.heap.size,0,none⟩) n n) (c.w.alloc (.cells cells el)):=by have h1':Instr.fill (λi=>some (i*info.size,info.size)) ((Array.range (n*info.size)).map (z.cells[· % z.cells.size]!)) (ps.map fun(i,x)=>(i,a.eval x)).toList=some cells:=(by rw[g2,mQ];exact h1);by_cases hpos:n*info.size=0;{have e0:∀zz:Array Value,(Array.range (n*info.size)).map (zz[· % zz.size]!) = #[]:=(by intro zz;rw[hpos];simp);rw[e0]at h1';have hsmall:¬n*info.size>2^24:=aj;have e1:=e0 #[];have hszz:(sizeOf el).run P c.w=.ok info.size c.w:=(by unfold sizeOf typeInfo;simp[g1]);unfold Instr.buildSlice;simp only[Sem.run_bind,run_underlying hd,Result.andThen_ok,hszz,hsmall,if_false];rw[aG hpos];simp only[Sem.run_bind,Sem.run_pure,Result.andThen_ok,e1,h1',newRow,run_newObj,World.alloc_eq]};exact Go.run_buildSlice c.w t el n _ cells info z hd g1 g4 (by rw[g2];omega) hpos h1'
 refine .inl ⟨.slice (some ⟨c.w.heap.size,0,none⟩) n n,c.alloc (.cells cells el),_,H,?_,Tr.alloc hr _,sD (vG rfl rfl ?_),h4⟩;{unfold execOp;rw[ho];simp only[Sem.run_bind,hrun,Result.andThen_ok,Sem.run_pure];rfl};simp only[VR,Rd];refine⟨⟨by simp[maxL];omega,.inr ⟨⟨c.w.heap.size,0,none⟩,n,by rw[h2],aj,by simp[maxL];omega,λ_=>rfl,?_⟩⟩,⟨some ⟨c.w.heap.size,0,none⟩,by rw[h2]⟩⟩;have le:=(Tr.alloc hr (.cells cells el)).le;refine Bq (xQ le.im h3) λj v hj=>⟨?_,.inr rfl⟩;rw[bH];show(c.w.alloc _).cell? ⟨c.w.heap.size,j,none⟩=_;rw[cell_of_heap (alloc_heap_new c.w _),<- bG];exact hj
end
end Go.AL
namespace Go.AL
section
variable{P:Program}{L:Lay}{c:Cx}{H:Heap}{e:Env}{a:Act}{k:AV->Heap->Prop}{ks:Heap->Prop}{o:Oper}
theorem b34{v:Value}(h:EV c .vK v):v=.nilIface:=QW h
theorem b1z{t:Nat}{x:AV}{v:Value}(h:EV c (.uY t x) v):∃u,v=.iface t u/\VV c x u:=a7X h
theorem QZ{c:Cx}{A B:AV}{v u:Value}(hA:VV c A v)(hB:VV c B u):EV c (.uy [A,B]) (.tuple #[v,u]) :=
 ⟨_,rfl,_,_,rfl,hA.1,hA.2,_,_,rfl,hB.1,hB.2,rfl⟩
theorem a0d{op:BinOp}{A:AV}{K:AV->Prop}{v:Value}(hA:EV c A v)(h:b4h op A K) :
  (op=.eql\/op=.neq)/\∃ad l n,v=.slice ad l n/\∃R,VV c R (.bool (if op=.eql then ad.isNone else !ad.isNone))/\K R:=by
 unfold b4h at h;split at h;{have hv:=DW hA;exact⟨.inl rfl,none,0,0,hv,_,Ho,h⟩};{have hv:=DW hA;exact⟨.inr rfl,none,0,0,hv,_,Cb,h⟩};{obtain⟨_,hv,_⟩:=Oj hA;exact⟨.inl rfl,_,_,_,hv,_,Cb,h⟩};{obtain⟨_,hv,_⟩:=Oj hA;exact⟨.inr rfl,_,_,_,hv,_,Ho,h⟩};{obtain⟨_,⟨h1,hv⟩|⟨ad,cap,hv,_⟩⟩:=Yc hA;{exact⟨.inl rfl,none,0,0,hv,_,Et true,h true λ_=>h1⟩};exact⟨.inl rfl,some ad,_,_,hv,_,Et false,h false λh=>by cases h⟩};{obtain⟨_,⟨h1,hv⟩|⟨ad,cap,hv,_⟩⟩:=Yc hA;{exact⟨.inr rfl,none,0,0,hv,_,Et false,h false λ_=>h1⟩};exact⟨.inr rfl,some ad,_,_,hv,_,Et true,h true λh=>by cases h⟩};exact h.elim
theorem run_equalIn_slice_nil{t el:Nat}(ht:P.underlying t=some (.slice el))(ad:Option Addr)(l n d:Nat)(w:World) :
  (Op.equalIn (d+1) t (.slice ad l n) (.slice none 0 0)).run P w=.ok ad.isNone w:=by
 cases ad <;> simp only[Op.equalIn,Sem.run_bind,run_underlying ht,Result.andThen_ok,Sem.run_pure,Option.isNone]
theorem run_equal_slice_nil{t el:Nat}(ht:P.underlying t=some (.slice el))(ad:Option Addr)(l n:Nat)(w:World) :
  (Op.equal t (.slice ad l n) (.slice none 0 0)).run P w=.ok ad.isNone w:=run_equalIn_slice_nil ht ad l n 9999 w
theorem a5G(hL:uz P L){op:BinOp}{t ty:Nat}{x y:Operand}(hr:HR c H)(he:xU c e a)(hx:sU x=true)(ho:o.op=.binOp op t x y ty)(hn:F5 (.binOp op t x y ty)=true)
  (h:uw e x λA=>L.sQ t λi=>(match i.desc with | .slice _=>b4h op A λR=>k R H|_=>False)):uD P o a.eval c H k ks:=by
 obtain⟨A,hA,h⟩:=rO he hx h;obtain⟨i,hT,h⟩:=Lay.su hL h;obtain⟨d,hd,hdd⟩:=hT.under;have hy:y=.const (.slice none 0 0):=by unfold F5 at hn;split at hn;{rename_i heq;cases heq;rfl};cases hn
 subst hy;split at h;{rename_i el hi;obtain rfl:=sN (hdd.trans hi);obtain⟨hop,ad,l,n,hv,R,hR,hk⟩:=a0d hA h;refine .pure hr (Ac ho (yX (fun⟨cs,ds,h1,_⟩=>by rw[hv]at h1;cases h1) (λh1=>by rw[hv]at h1;cases h1)) ?_) (sD hR) hk;have e2:a.eval (.const (.slice none 0 0))=.slice none 0 0:=rfl;rw[hv,e2];rcases hop with rfl|rfl;{simp only[binOp,run_equal_slice_nil hd,Sem.run_bind,Result.andThen_ok,Sem.run_pure];rfl};simp only[binOp,run_equal_slice_nil hd,Sem.run_bind,Result.andThen_ok,Sem.run_pure];rfl};exact h.elim
theorem YF(hL:uz P L){x:Operand}{xt s:Nat}{ok:Bool}(hr:HR c H)(he:xU c e a)(hx:sU x=true)(ho:o.op=.typeAssert x xt s ok)
  (h:uw e x λA=>L.sQ s λi=>(match i.desc with
  | .iface=>False
  |_=>b0s i.zero s A ok λR=>k R H)):uD P o a.eval c H k ks:=by
 obtain⟨A,hA,h⟩:=rO he hx h;obtain⟨i,hT,h⟩:=Lay.su hL h;obtain⟨d,hd,hdd⟩:=hT.under;have hne:∀ms,d≠.interface ms:=(by rintro ms rfl;have:i.desc=.iface:=hdd.symm;rw[this]at h;exact h);obtain⟨z,hz,hzs,hzr⟩:=hT.KP c.w;have hZ:VV c i.zero z:=⟨hzs,yP _ _ (hzr _ _)⟩;have h':b0s i.zero s A ok λR=>k R H:=by cases hi:i.desc <;> rw[hi]at h <;> first|exact h.elim|exact h
 clear h;have fails:∀u,a.eval x=u->(u=.nilIface\/∃t y,u=.iface t y/\t≠s)->ok=true->(execOp a.eval o).run P c.w=.ok (.value (.tuple #[z,.bool false])) c.w:=by intro u hu hcase hok;unfold execOp;rw[ho,hok];simp only[Instr.typeAssert,Sem.run_bind,run_underlying hd,Result.andThen_ok,hu];rcases hcase with rfl|⟨t,y,rfl,hts⟩;{cases d <;> first|exact absurd rfl (hne _)|simp only[if_true,Sem.run_bind,hz,Result.andThen_ok,Sem.run_pure]};cases d <;> first|exact absurd rfl (hne _)|simp only[aB hts,if_true,Sem.run_bind,hz,Result.andThen_ok,Sem.run_pure]
 unfold b0s at h';split at h';{have hv:=b34 hA;exact .pure hr (fails _ hv (.inl rfl) rfl) (QZ hZ Cb) h'};{rename_i t y;obtain⟨u,hv,hU⟩:=b1z hA;split at h';{rename_i hb;obtain rfl:=aJ hb;refine .pure hr (v:=.tuple #[u,.bool true]) ?_ (QZ hU Ho) h';unfold execOp;rw[ho];simp only[Instr.typeAssert,Sem.run_bind,run_underlying hd,Result.andThen_ok,hv];cases d <;> first|exact absurd rfl (hne _)|simp only[if_true,Result.andThen_ok,Sem.run_pure]};rename_i hb;exact .pure hr (fails _ hv (.inr ⟨_,u,rfl,xw hb⟩) rfl) (QZ hZ Cb) h'};{rename_i t y;obtain⟨u,hv,hU⟩:=b1z hA;split at h';{rename_i hb;obtain rfl:=aJ hb;refine .pure hr (v:=u) ?_ (sD hU) h';unfold execOp;rw[ho];simp only[Instr.typeAssert,Sem.run_bind,run_underlying hd,Result.andThen_ok,hv];cases d <;> first|exact absurd rfl (hne _)|simp only[if_true,dO,if_false,Result.andThen_ok,Sem.run_pure]};exact h'.elim};exact h'.elim
theorem H8{b:Bool}{k:Prop}:Zy b k↔b=true/\k:=by unfold Zy;cases b <;> simp
mutual
theorem OJ{c:Cx}:∀(S A:AV) (cs:List Value),qU S A=true->VR c A cs->cs=Ut A/\Rd c.w c.Im A cs
 | .int _ _,.int k n,cs,_,h=>by simp only[VR,Rd]at h;exact⟨by rw[h.1];rfl,by simp only[Rd];exact h⟩
 | .str _,.str s,cs,_,h=>by simp only[VR,Rd]at h;exact⟨by rw[h.1];rfl,by simp only[Rd];exact h⟩
 | .ag s,.ag l,cs,hs,h=>by simp only[VR]at h;simp only[qU]at hs;simp only[Ut,Rd];exact a1o s l cs hs h
 | .int _ _,.bool _,_,hs,_=>by simp[qU]at hs
 | .int _ _,.tt,_,hs,_=>by simp[qU]at hs
 | .int _ _,.ff,_,hs,_=>by simp[qU]at hs
 | .int _ _,.dec _,_,hs,_=>by simp[qU]at hs
 | .int _ _,.str _,_,hs,_=>by simp[qU]at hs
 | .int _ _,.vK,_,hs,_=>by simp[qU]at hs
 | .int _ _,.uY _ _,_,hs,_=>by simp[qU]at hs
 | .int _ _,.qV,_,hs,_=>by simp[qU]at hs
 | .int _ _,.sl _ _ _,_,hs,_=>by simp[qU]at hs
 | .int _ _,.ms _ _ _ _ _,_,hs,_=>by simp[qU]at hs
 | .int _ _,.ag _,_,hs,_=>by simp[qU]at hs
 | .int _ _,.uy _,_,hs,_=>by simp[qU]at hs
 | .int _ _,.ptr _ _ _,_,hs,_=>by simp[qU]at hs
 | .int _ _,.cp _,_,hs,_=>by simp[qU]at hs
 | .int _ _,.wo,_,hs,_=>by simp[qU]at hs
 | .int _ _,.fn _ _,_,hs,_=>by simp[qU]at hs
 | .int _ _,.rC,_,hs,_=>by simp[qU]at hs
 | .int _ _,.mp _,_,hs,_=>by simp[qU]at hs
 | .int _ _,.gs _ _,_,hs,_=>by simp[qU]at hs
 | .int _ _,.bm _ _,_,hs,_=>by simp[qU]at hs
 | .int _ _,.zF,_,hs,_=>by simp[qU]at hs
 | .int _ _,.und,_,hs,_=>by simp[qU]at hs
 | .str _,A,cs,hs,h=>by
   cases A <;> first|(simp[qU]at hs;done)|skip
   simp only[VR,Rd]at h;exact⟨by rw[h.1];rfl,by simp only[Rd];exact h⟩
 | .ag s,A,cs,hs,h=>by
   cases A <;> first|(simp[qU]at hs;done)|skip
   rename_i l;simp only[VR]at h;simp only[qU]at hs;simp only[Ut,Rd];exact a1o s l cs hs h
 | .bool _,A,_,hs,_=>by cases A <;> simp[qU]at hs
 | .tt,A,_,hs,_=>by cases A <;> simp[qU]at hs
 | .ff,A,_,hs,_=>by cases A <;> simp[qU]at hs
 | .dec _,A,_,hs,_=>by cases A <;> simp[qU]at hs
 | .vK,A,_,hs,_=>by cases A <;> simp[qU]at hs
 | .uY _ _,A,_,hs,_=>by cases A <;> simp[qU]at hs
 | .qV,A,_,hs,_=>by cases A <;> simp[qU]at hs
 | .sl _ _ _,A,_,hs,_=>by cases A <;> simp[qU]at hs
 | .ms _ _ _ _ _,A,_,hs,_=>by cases A <;> simp[qU]at hs
 | .uy _,A,_,hs,_=>by cases A <;> simp[qU]at hs
 | .ptr _ _ _,A,_,hs,_=>by cases A <;> simp[qU]at hs
 | .cp _,A,_,hs,_=>by cases A <;> simp[qU]at hs
 | .wo,A,_,hs,_=>by cases A <;> simp[qU]at hs
 | .fn _ _,A,_,hs,_=>by cases A <;> simp[qU]at hs
 | .rC,A,_,hs,_=>by cases A <;> simp[qU]at hs
 | .mp _,A,_,hs,_=>by cases A <;> simp[qU]at hs
 | .gs _ _,A,_,hs,_=>by cases A <;> simp[qU]at hs
 | .bm _ _,A,_,hs,_=>by cases A <;> simp[qU]at hs
 | .zF,A,_,hs,_=>by cases A <;> simp[qU]at hs
 | .und,A,_,hs,_=>by cases A <;> simp[qU]at hs
theorem a1o{c:Cx}:∀(s l:List AV) (cs:List Value),uF s l=true->Ea c l cs->cs=b6a l/\DY c.w c.Im l cs
 | [],[],cs,_,h=>by simp only[Ea]at h;subst h;exact⟨rfl,by simp only[DY]⟩
 | [],_::_,_,hs,_=>by simp[uF]at hs
 |_::_,[],_,hs,_=>by simp[uF]at hs
 |x::s,y::l,cs,hs,h=>by simp only[uF,aK]at hs;simp only[Ea]at h;obtain⟨p,q,rfl,h1,h2⟩:=h;obtain⟨e1,r1⟩:=OJ x y p hs.1 h1;obtain⟨e2,r2⟩:=a1o s l q hs.2 h2;refine⟨by rw[e1,e2];rfl,?_⟩;simp only[DY];exact⟨p,q,rfl,r1,r2⟩
end
mutual
theorem PS:∀(A B C:AV),qU A B=true->qU A C=true->qU B C=true
 | .int a _,B,C,h1,h2=>by
   cases B <;> first|(simp[qU]at h1;done)|skip
   cases C <;> first|(simp[qU]at h2;done)|skip
   simp only[qU]at *;obtain rfl:=x9 h1;exact h2
 | .str _,B,C,h1,h2=>by
   cases B <;> first|(simp[qU]at h1;done)|skip
   cases C <;> first|(simp[qU]at h2;done)|skip
   rfl
 | .ag l,B,C,h1,h2=>by
   cases B <;> first|(simp[qU]at h1;done)|skip
   cases C <;> first|(simp[qU]at h2;done)|skip
   simp only[qU]at *;exact NP l _ _ h1 h2
 | .bool _,B,_,h1,_=>by cases B <;> simp[qU]at h1
 | .tt,B,_,h1,_=>by cases B <;> simp[qU]at h1
 | .ff,B,_,h1,_=>by cases B <;> simp[qU]at h1
 | .dec _,B,_,h1,_=>by cases B <;> simp[qU]at h1
 | .vK,B,_,h1,_=>by cases B <;> simp[qU]at h1
 | .uY _ _,B,_,h1,_=>by cases B <;> simp[qU]at h1
 | .qV,B,_,h1,_=>by cases B <;> simp[qU]at h1
 | .sl _ _ _,B,_,h1,_=>by cases B <;> simp[qU]at h1
 | .ms _ _ _ _ _,B,_,h1,_=>by cases B <;> simp[qU]at h1
 | .uy _,B,_,h1,_=>by cases B <;> simp[qU]at h1
 | .ptr _ _ _,B,_,h1,_=>by cases B <;> simp[qU]at h1
 | .cp _,B,_,h1,_=>by cases B <;> simp[qU]at h1
 | .wo,B,_,h1,_=>by cases B <;> simp[qU]at h1
 | .fn _ _,B,_,h1,_=>by cases B <;> simp[qU]at h1
 | .rC,B,_,h1,_=>by cases B <;> simp[qU]at h1
 | .mp _,B,_,h1,_=>by cases B <;> simp[qU]at h1
 | .gs _ _,B,_,h1,_=>by cases B <;> simp[qU]at h1
 | .bm _ _,B,_,h1,_=>by cases B <;> simp[qU]at h1
 | .zF,B,_,h1,_=>by cases B <;> simp[qU]at h1
 | .und,B,_,h1,_=>by cases B <;> simp[qU]at h1
theorem NP:∀(l m r:List AV),uF l m=true->uF l r=true->uF m r=true
 | [],[],[],_,_=>rfl
 | [],[],_::_,_,h=>by simp[uF]at h
 | [],_::_,_,h,_=>by simp[uF]at h
 |_::_,[],_,h,_=>by simp[uF]at h
 |_::_,_::_,[],_,h=>by simp[uF]at h
 |x::l,y::m,z::r,h1,h2=>by simp only[uF,aK]at *;exact⟨PS x y z h1.1 h2.1,NP l m r h1.2 h2.2⟩
end
mutual
theorem Tv:∀(A B C:AV),qU A B=true->qU B C=true->qU A C=true
 | .int a _,B,C,h1,h2=>by
   cases B <;> first|(simp[qU]at h1;done)|skip
   cases C <;> first|(simp[qU]at h2;done)|skip
   simp only[qU]at *;obtain rfl:=x9 h1;exact h2
 | .str _,B,C,h1,h2=>by
   cases B <;> first|(simp[qU]at h1;done)|skip
   cases C <;> first|(simp[qU]at h2;done)|skip
   rfl
 | .ag l,B,C,h1,h2=>by
   cases B <;> first|(simp[qU]at h1;done)|skip
   cases C <;> first|(simp[qU]at h2;done)|skip
   simp only[qU]at *;exact PU l _ _ h1 h2
 | .bool _,B,_,h1,_=>by cases B <;> simp[qU]at h1
 | .tt,B,_,h1,_=>by cases B <;> simp[qU]at h1
 | .ff,B,_,h1,_=>by cases B <;> simp[qU]at h1
 | .dec _,B,_,h1,_=>by cases B <;> simp[qU]at h1
 | .vK,B,_,h1,_=>by cases B <;> simp[qU]at h1
 | .uY _ _,B,_,h1,_=>by cases B <;> simp[qU]at h1
 | .qV,B,_,h1,_=>by cases B <;> simp[qU]at h1
 | .sl _ _ _,B,_,h1,_=>by cases B <;> simp[qU]at h1
 | .ms _ _ _ _ _,B,_,h1,_=>by cases B <;> simp[qU]at h1
 | .uy _,B,_,h1,_=>by cases B <;> simp[qU]at h1
 | .ptr _ _ _,B,_,h1,_=>by cases B <;> simp[qU]at h1
 | .cp _,B,_,h1,_=>by cases B <;> simp[qU]at h1
 | .wo,B,_,h1,_=>by cases B <;> simp[qU]at h1
 | .fn _ _,B,_,h1,_=>by cases B <;> simp[qU]at h1
 | .rC,B,_,h1,_=>by cases B <;> simp[qU]at h1
 | .mp _,B,_,h1,_=>by cases B <;> simp[qU]at h1
 | .gs _ _,B,_,h1,_=>by cases B <;> simp[qU]at h1
 | .bm _ _,B,_,h1,_=>by cases B <;> simp[qU]at h1
 | .zF,B,_,h1,_=>by cases B <;> simp[qU]at h1
 | .und,B,_,h1,_=>by cases B <;> simp[qU]at h1
theorem PU:∀(l m r:List AV),uF l m=true->uF m r=true->uF l r=true
 | [],[],[],_,_=>rfl
 | [],[],_::_,_,h=>by simp[uF]at h
 | [],_::_,_,h,_=>by simp[uF]at h
 |_::_,[],_,h,_=>by simp[uF]at h
 |_::_,_::_,[],_,h=>by simp[uF]at h
 |x::l,y::m,z::r,h1,h2=>by simp only[uF,aK]at *;exact⟨Tv x y z h1.1 h2.1,PU l m r h1.2 h2.2⟩
end
theorem a0Y{sh sh':AV}(h:qU sh' sh=true):∀{es:List (AV×AV)},KSh sh' es->KSh sh es
 | [],_=>trivial
 |(_,_)::_,hk=>⟨PS _ _ _ h hk.1,a0Y h hk.2⟩
theorem key_eq{c:Cx}{sh A B:AV}{v u:Value}(h1:qU sh A=true)(h2:qU sh B=true)(hA:VV c A v)(hB:VV c B u):v=u↔Ut A=Ut B:=by
 have e1:=(OJ sh A _ h1 hA.2).1;have e2:=(OJ sh B _ h2 hB.2).1;have hag:uG A=uG B:=by
  cases sh <;> cases A <;> first|(simp[qU]at h1;done)|skip
  all_goals (cases B <;> first|(simp[qU]at h2;done)|rfl)
 constructor;{rintro rfl;rw[<- e1,<- e2]};intro h;have hc:v.cells.toList=u.cells.toList:=by rw[e1,e2,h]
 cases hb:uG A with
 |true =>obtain⟨cs,rfl⟩:=hA.1.1 hb;obtain⟨ds,rfl⟩:=hB.1.1 (hag ▸ hb);have:cs.toList=ds.toList:=hc;rw[Array.toList_inj.1 this]
 |false =>have h3:=hA.1.2 hb;have h4:=hB.1.2 (hag ▸ hb);rw[h3,h4]at hc;simpa using hc
theorem Ve{c:Cx}:∀{es:List (AV×AV)} {ents:List MapEntry} {j:Nat} {x:MapEntry},Py c es ents->ents[j]? = some x->∃y,es[j]? = some y/\VV c y.1 x.key/\VV c y.2 x.val
 | [],ents,j,x,h,hj=>by obtain rfl:=h;simp at hj
 |(p,q)::es,ents,0,x,h,hj=>by obtain⟨e0,r,rfl,h1,h2,h3⟩:=h;simp at hj;subst hj;exact⟨(p,q),rfl,h1,h2⟩
 |(p,q)::es,ents,j+1,x,h,hj=>by obtain⟨e0,r,rfl,h1,h2,h3⟩:=h;simpa using Ve h3 (by simpa using hj)
theorem L8{c:Cx}:∀{es:List (AV×AV)} {ents:List MapEntry} {j:Nat} {y:AV×AV},Py c es ents->es[j]? = some y->∃x,ents[j]? = some x/\VV c y.1 x.key/\VV c y.2 x.val
 | [],ents,j,x,h,hj=>by simp at hj
 |(p,q)::es,ents,0,x,h,hj=>by obtain⟨e0,r,rfl,h1,h2,h3⟩:=h;simp at hj;subst hj;exact⟨e0,rfl,h1,h2⟩
 |(p,q)::es,ents,j+1,x,h,hj=>by obtain⟨e0,r,rfl,h1,h2,h3⟩:=h;simpa using L8 h3 (by simpa using hj)
theorem Iz{sh:AV}:∀{es:List (AV×AV)},KSh sh es->∀x∈es,qU sh x.1=true
 | [],_,x,h=>by simp at h
 |(p,q)::es,hk,x,h=>by rcases aU.1 h with rfl|h;{exact hk.1};exact Iz hk.2 x h
theorem Yg{c:Cx}{K V:AV}{x:MapEntry}(hK:VV c K x.key)(hV:VV c V x.val):∀{es:List (AV×AV)} {ents:List MapEntry},Py c es ents->Py c (es++[(K,V)]) (ents++[x])
 | [],ents,h=>by obtain rfl:=h;exact⟨x,[],rfl,hK,hV,rfl⟩
 |(p,q)::es,ents,h=>by obtain⟨e0,r,rfl,h1,h2,h3⟩:=h;exact⟨e0,r++[x],rfl,h1,h2,Yg hK hV h3⟩
theorem a7Y{c:Cx}{K V:AV}{x:MapEntry}(hK:VV c K x.key)(hV:VV c V x.val):∀{es:List (AV×AV)} {ents:List MapEntry} {j:Nat},Py c es ents->Py c (es.set j (K,V)) (ents.set j x)
 | [],ents,j,h=>by obtain rfl:=h;show Py c [] [];rfl
 |(p,q)::es,ents,0,h=>by obtain⟨e0,r,rfl,h1,h2,h3⟩:=h;exact⟨x,r,rfl,hK,hV,h3⟩
 |(p,q)::es,ents,j+1,h=>by obtain⟨e0,r,rfl,h1,h2,h3⟩:=h;exact⟨e0,r.set j x,rfl,h1,h2,a7Y hK hV h3⟩
theorem Yx{sh K V:AV}(hK:qU sh K=true):∀{es:List (AV×AV)},KSh sh es->KSh sh (es++[(K,V)])
 | [],_=>⟨hK,trivial⟩
 |(_,_)::_,h=>⟨h.1,Yx hK h.2⟩
theorem a8m{sh K V:AV}(hK:qU sh K=true):∀{es:List (AV×AV)} {j:Nat},KSh sh es->KSh sh (es.set j (K,V))
 | [],_,_=>trivial
 |(_,_)::_,0,h=>⟨hK,h.2⟩
 |(_,_)::_,_+1,h=>⟨h.1,a8m hK h.2⟩
theorem ZQ{kt:Nat}{sh sh':AV}{es:List (AV×AV)}{ents:Array MapEntry}(hko:b0B P kt sh)(hss:qU sh' sh=true)(hks:KSh sh' es)(hvr:Py c es ents.toList) :
  KSh sh es/\∀x∈ents.toList,∃l,keyOf P kt x.key=some l:=by
 have hk:=a0Y hss hks;refine⟨hk,λx hx=>?_⟩;obtain⟨j,hj⟩:=jV.1 hx;obtain⟨y,hy,hK,_⟩:=Ve hvr hj;have hs:=Iz hk y (bP hy);exact hko.rd c.w c.Im y.1 x.key hs hK.1 (OJ sh y.1 _ hs hK.2).2
theorem a3T(hL:uz P L){t:Nat}(hr:HR c H)(ho:o.op=.makeMap t none)
  (h:L.sQ t λi=>(match i.key with|some sh=>GH H (.tY sh []) λj H'=>k (.mp j) H'|none=>False)):uD P o a.eval c H k ks:=by
 obtain⟨i,hT,h⟩:=Lay.su hL h;split at h
 ·rename_i sh _;have h:=wF.1 h;have htr:Tr c H (c.push (.map #[] 0) ((nextId H,.tY sh [])::H)) ((nextId H,.tY sh [])::H):=by refine Tr.push hr _ _ (λ_=>rfl) ⟨#[],0,?_,rfl,trivial,⟨ak,ak⟩,ak⟩;rw[ELρ hr];simp only[Cx.push];exact alloc_heap_new _ _
  refine .inl ⟨.map (some c.w.heap.size),_,_,_,?_,htr,sD (vG rfl rfl ?_),h⟩;{unfold execOp;rw[ho];simp only[Instr.makeMap,Sem.run_bind,run_newObj,Result.andThen_ok,Sem.run_pure,iJ,World.alloc_eq];rfl};simp only[VR];refine⟨by simp only[Cx.push,hr.nx];omega,?_⟩;rw[ELρ hr]
 exact h.elim
theorem a4c{kt:Nat}{sh sh' K:AV}{v:Value}{es:List (AV×AV)}{ents:Array MapEntry}{r:Option AV}(hko:b0B P kt sh)(hss:qU sh' sh=true)(hks:KSh sh' es)(hvr:Py c es ents.toList)
  (hdist:ents.toList.Pairwise λa b=>a.key≠b.key) (hsK:qU sh K=true) (hK:VV c K v) (hl:a4I es K r) :
  (r=none/\(Instr.findKey kt v ents.toList).run P c.w=.ok none c.w)\/∃V u j,r=some V/\(Instr.findKey kt v ents.toList).run P c.w=.ok (some (j,u)) c.w/\VV c V u:=by
 obtain⟨hk,hkeys⟩:=ZQ hko hss hks hvr;obtain⟨lk,hlk⟩:=hko.rd c.w c.Im K v hsK hK.1 (OJ sh K _ hsK hK.2).2;rcases hko.law.find c.w hlk ents.toList hkeys with⟨h1,h2⟩|⟨j,x,h1,h2,h3⟩
 ·cases r with
  |none=>exact .inl ⟨rfl,h1⟩
  |some V =>exfalso;obtain⟨y,hy,he,_⟩:=hl;obtain⟨j,hj⟩:=jV.1 hy;obtain⟨x,hx,hyK,_⟩:=L8 hvr hj;exact h2 x (bP hx) ((key_eq (Iz hk y hy) hsK hyK hK).2 he)
 obtain⟨y,hy,hyK,hyV⟩:=Ve hvr h2;have hym:=bP hy;have hke:Ut y.1=Ut K:=(key_eq (Iz hk y hym) hsK hyK hK).1 h3;cases r with
 |none=>exact absurd hke (hl y hym)
 |some V =>obtain⟨z,hz,he,rfl⟩:=hl;obtain⟨i,hi⟩:=jV.1 hz;obtain⟨x',hx',hzK,hzV⟩:=L8 hvr hi;have hkk:x'.key=v:=(key_eq (Iz hk z hz) hsK hzK hK).2 he;have hij:i=j:=(by apply aS;intro hne;obtain⟨hi1,hi2⟩:=aY.1 hx';obtain⟨hj1,hj2⟩:=aY.1 h2;rcases Nat.lt_or_gt_of_ne hne with hlt|hlt;{have:=fO.1 hdist i j hi1 hj1 hlt;rw[hi2,hj2,hkk,h3]at this;exact this rfl};have:=fO.1 hdist j i hj1 hi1 hlt;rw[hi2,hj2,hkk,h3]at this;exact this rfl);subst hij;rw[h2]at hx';obtain rfl:=aW hx';exact .inr ⟨_,_,_,rfl,h1,hzV⟩
theorem b35{j:Nat}{v:Value}(h:EV c (.mp j) v):j<c.nx/\v=.map (some (c.ρ j)):=b5W h
theorem VN{S A:AV}(h:qU S A=true):isVal A=true:=by cases S <;> cases A <;> first|(simp[qU]at h;done)|rfl
theorem a5I(hL:uz P L){t:Nat}{x ix:Operand}{ok:Bool}(hr:HR c H)(he:xU c e a)(hx:sU x=true)(hix:sU ix=true)(ho:o.op=.lookup t x ix ok)
  (h:uw e x λA=>uw e ix λK=>L.sQ t λi=>(match i.desc,i.key with
  | .map _ et,some sh=>Zy (qU sh K) <| L.sQ et λei=>(match A with
    | .mp j=>yt H j λo=>(match o with
      | .tY sh' es=>Zy (qU sh' sh) <| FW es K λr=>DI ok ei.zero r λR=>k R H
      |_=>False)
    |_=>False)
  |_,_=>False)):uD P o a.eval c H k ks:=by
 obtain⟨A,hA,h⟩:=rO he hx h;obtain⟨K,hK,h⟩:=rO he hix h;obtain⟨i,hT,h⟩:=Lay.su hL h;obtain⟨d,hd,hdd⟩:=hT.under;split at h
 ·rename_i kt et sh hdm hkey;obtain rfl:=JW (hdd.trans hdm);have hko:=hT.keyed kt et sh hdm hkey;obtain⟨hsK,h⟩:=H8.1 h;obtain⟨ei,hE,h⟩:=Lay.su hL h;have hKv:=Ey hK (VN hsK);split at h
  ·rename_i j;obtain⟨_,e1⟩:=b35 hA;obtain⟨ob,hob,h⟩:=uo.1 h;have hok:=hr.EM hob;split at h
   ·rename_i sh' es;obtain⟨hss,h⟩:=H8.1 h;obtain⟨r,hl,hk⟩:=h.ex;obtain⟨ents,clock,g1,g2,g3,g4,g5⟩:=hok;obtain⟨lk,hlk⟩:=hko.rd c.w c.Im K _ hsK hKv.1 (OJ sh K _ hsK hKv.2).2;obtain⟨z,hz,hzs,hzr⟩:=hE.KP c.w;have hZ:VV c ei.zero z:=⟨hzs,yP _ _ (hzr _ _)⟩
    have run:∀{u:Value} {b:Bool},((∃q,(Instr.findKey kt (a.eval ix) ents.toList).run P c.w=.ok (some (q,u)) c.w)/\b=true\/(Instr.findKey kt (a.eval ix) ents.toList).run P c.w=.ok none c.w/\u=z/\b=false) ->
      (execOp a.eval o).run P c.w=.ok (.value (if ok then .tuple #[u,.bool b]else u)) c.w:=by
     intro u b hc;unfold execOp;rw[ho];simp only[Instr.lookup,Sem.run_bind,run_underlying hd,Result.andThen_ok,e1,jB g1,Sem.run_pure,hko.law.check c.w _ hlk];rcases hc with⟨⟨q,hq⟩,rfl⟩|⟨hq,rfl,rfl⟩;{simp only[hq,Result.andThen_ok,Sem.run_pure,Sem.run_bind]};simp only[hq,Result.andThen_ok,Sem.run_pure,hz,Sem.run_bind]
    rcases a4c hko hss g3 g2 g5 hsK hKv hl with⟨rfl,h1⟩|⟨V,u,q,rfl,h1,hV⟩
    ·cases ok with
     |true=>exact .pure hr (run (.inr ⟨h1,rfl,rfl⟩)) (QZ hZ Cb) hk
     |false=>exact .pure hr (run (.inr ⟨h1,rfl,rfl⟩)) (sD hZ) hk
    cases ok with
    |true=>exact .pure hr (run (.inl ⟨⟨q,h1⟩,rfl⟩)) (QZ hV Ho) hk
    |false=>exact .pure hr (run (.inl ⟨⟨q,h1⟩,rfl⟩)) (sD hV) hk
   exact h.elim
  exact h.elim
 exact h.elim
theorem run_setObj_map{r:Nat}{ents:Array MapEntry}{clock:Nat}{w:World}(h:w.heap[r]? = some (.map ents clock))(o':Obj):(setObj r o').run P w=.ok () { w with heap:=w.heap.setIfInBounds r o' }:=by simp[setObj,Sem.run,h]
theorem a3c{w:World}{b o:Nat}{ents:Array MapEntry}{clock:Nat}(h:w.heap[b]? = some (.map ents clock)):w.cell? ⟨b,o,none⟩=none:=by simp[World.cell?,h]
theorem Tr.writeMap{c:Cx}{H:Heap}{k:Nat}{sh:AV}{es es':List (AV×AV)}{ents Qs:Array MapEntry}{clock clock':Nat}(hr:HR c H)(hk:hget H k=some (.tY sh es))(hg:c.w.heap[c.ρ k]? = some (.map ents clock))
  (hok:c.Le { c with w:={ c.w with heap:=c.w.heap.setIfInBounds (c.ρ k) (.map Qs clock') } }->({ c.w with heap:=c.w.heap.setIfInBounds (c.ρ k) (.map Qs clock') }:World).heap[c.ρ k]? = some (.map Qs clock') ->
   (HO.tY sh es').Ok { c with w:={ c.w with heap:=c.w.heap.setIfInBounds (c.ρ k) (.map Qs clock') } } k) :
  Tr c H { c with w:={ c.w with heap:=c.w.heap.setIfInBounds (c.ρ k) (.map Qs clock') } } (hset H k (.tY sh es')):=by
 have hother:∀b,b≠c.ρ k->(c.w.heap.setIfInBounds (c.ρ k) (.map Qs clock'))[b]? = c.w.heap[b]?:=λb hb=>iO (λe=>hb e.symm);have hlt:=(dG.1 hg).1;have hnew:({ c.w with heap:=c.w.heap.setIfInBounds (c.ρ k) (.map Qs clock') }:World).heap[c.ρ k]? = some (.map Qs clock'):=(by show(c.w.heap.setIfInBounds (c.ρ k) _)[c.ρ k]? = _;rw[iV hlt]);have le:c.Le { c with w:={ c.w with heap:=c.w.heap.setIfInBounds (c.ρ k) (.map Qs clock') } }:=(by refine⟨λb y h=>⟨h,?_⟩,aT _,λ_ _=>rfl,λ_ _ _ h=>.inl ⟨h,rfl⟩⟩;by_cases hb:b=c.ρ k;{subst hb;rw[a3c hg];exact a3c hnew};exact wX (hother b hb));refine Tr.set hr hk le rfl ?_ (λ_ _=>rfl) rfl rfl rfl ak (λb hb' hn=>hother b ?_) (λb x h=>.inl h) (λb h=>.inr ?_) (hok le hnew);{rw[xu hk (by intros;simp) (by intros;simp)];exact hr.tp};{intro e;exact hn (by rw[e];rfl)};exact h
theorem P9(hL:uz P L){t:Nat}{x ix y:Operand}(hr:HR c H)(he:xU c e a)(hx:sU x=true)(hix:sU ix=true)(hy:sU y=true)(ho:o.op=.mapUpdate t x ix y)
  (h:uw e x λA=>uw e ix λK=>uw e y λV=>QT L t A K V H ks):uD P o a.eval c H k ks:=by
 obtain⟨A,hA,h⟩:=rO he hx h;obtain⟨K,hK,h⟩:=rO he hix h;obtain⟨V,hV,h⟩:=rO he hy h;unfold QT at h;obtain⟨i,hT,h⟩:=Lay.su hL h;obtain⟨d,hd,hdd⟩:=hT.under;split at h
 ·rename_i kt et sh hdm hkey;obtain rfl:=JW (hdd.trans hdm);have hko:=hT.keyed kt et sh hdm hkey;obtain⟨hsK,h⟩:=H8.1 h;obtain⟨hval,ei,hE,hf,hg,h⟩:=Ae hL h;have hKv:=Ey hK (VN hsK);have hVv:=Ey hV hval;obtain⟨j,rfl⟩:∃j,A=.mp j:=by cases A <;> first|exact h.elim|exact⟨_,rfl⟩
  obtain⟨_,e1⟩:=b35 hA;obtain⟨ob,hob,h⟩:=uo.1 h;have hok:=hr.EM hob;obtain⟨sh',es,rfl⟩:∃sh' es,ob=.tY sh' es:=by cases ob <;> first|exact h.elim|exact⟨_,_,rfl⟩
  obtain⟨hss,h⟩:=H8.1 h;obtain⟨es',hu,hk⟩:=h.ex;obtain⟨_,hk⟩:=yB.1 hk;obtain⟨ents,clock,g1,g2,g3,g4,g5⟩:=hok;obtain⟨lk,hlk⟩:=hko.rd c.w c.Im K _ hsK hKv.1 (OJ sh K _ hsK hKv.2).2;have b7G:qU sh' K=true:=Tv _ _ _ hss hsK;obtain⟨hks,hkeys⟩:=ZQ hko hss g3 g2;have b49:=hko.law.check c.w false hlk;rcases hko.law.find c.w hlk ents.toList hkeys with⟨h1,h2⟩|⟨q,x0,h1,h2,h3⟩;{have hrun:(execOp a.eval o).run P c.w=.ok .skip { c.w with heap:=c.w.heap.setIfInBounds (c.ρ j) (.map (ents.push { key:=a.eval ix,val:=a.eval y,born:=clock }) (clock+1)) }:=(by unfold execOp;rw[ho];simp only[Instr.mapUpdate,Sem.run_bind,run_underlying hd,Result.andThen_ok,e1,jB g1,Sem.run_pure,b49,h1,run_setObj_map g1]);rcases hu with⟨hu1,rfl⟩|⟨i,z,hu1,hu2,_⟩;{refine .inr (.inl ⟨_,_,hrun,Tr.writeMap hr hob g1 λle hnew=>⟨_,_,hnew,?_,Yx b7G g3,?_,?_⟩,hk⟩);{rw[mG];exact Yg (Cm le hKv) (Cm le hVv) (Hq le g2)};{refine⟨λe he=>?_,?_⟩;{rw[mG]at he;rcases dM.1 he with he|he;{have:=g4.1 e he;omega};simp at he;subst he;exact oh _};rw[mG,aV,fQ];refine⟨g4.2,ak,λx hx y hy hxy=>?_⟩;obtain⟨e,he,rfl⟩:=bg.1 hx;have:=g4.1 e he;simp at hy;omega};rw[mG,nG];refine⟨g5,ak,λe he f hf=>?_⟩;simp at hf;subst hf;exact h2 e he};exfalso;obtain⟨x',hx',hzK,_⟩:=L8 g2 hu1;exact h2 x' (bP hx') ((key_eq (Iz hks z (bP hu1)) hsK hzK hKv).2 hu2)};have hq:ents[q]? = some x0:=(by simpa using h2);have hrun:(execOp a.eval o).run P c.w=.ok .skip { c.w with heap:=c.w.heap.setIfInBounds (c.ρ j) (.map (ents.modify q λe=>{ e with key:=a.eval ix,val:=a.eval y }) clock) }:=(by unfold execOp;rw[ho];simp only[Instr.mapUpdate,Sem.run_bind,run_underlying hd,Result.andThen_ok,e1,jB g1,Sem.run_pure,b49,h1,hq,iI,mP,h3,hko.law.stays c.w hlk,run_setObj_map g1]);have hmod:(ents.modify q λe=>{ e with key:=a.eval ix,val:=a.eval y }).toList=ents.toList.set q { x0 with key:=a.eval ix,val:=a.eval y }:=(by apply nT;intro n;rw[bG,Array.getElem?_modify,jY];by_cases hn:q=n;{subst hn;have hlt:=(dG.1 hq).1;rw[aG rfl,aG rfl,aG (by simpa using hlt),hq];rfl};simp[hn]);rcases hu with⟨hu1,rfl⟩|⟨i,z,hu1,hu2,rfl⟩;{exfalso;obtain⟨z,hz,hzK,_⟩:=Ve g2 h2;exact hu1 z (bP hz) ((key_eq (Iz hks z (bP hz)) hsK hzK hKv).1 h3)};obtain⟨x',hx',hzK,_⟩:=L8 g2 hu1;have hkk:x'.key=a.eval ix:=(key_eq (Iz hks z (bP hu1)) hsK hzK hKv).2 hu2;have hij:i=q:=(by apply aS;intro hne;obtain⟨hi1,hi2⟩:=aY.1 hx';obtain⟨hj1,hj2⟩:=aY.1 h2;rcases Nat.lt_or_gt_of_ne hne with hlt|hlt;{have:=fO.1 g5 i q hi1 hj1 hlt;rw[hi2,hj2,hkk,h3]at this;exact this rfl};have:=fO.1 g5 q i hj1 hi1 hlt;rw[hi2,hj2,hkk,h3]at this;exact this rfl);subst hij;refine .inr (.inl ⟨_,_,hrun,Tr.writeMap hr hob g1 λle hnew=>⟨_,_,hnew,?_,a8m b7G g3,?_,?_⟩,hk⟩);{rw[hmod];exact a7Y (Cm le hKv) (Cm le hVv) (Hq le g2)};{refine⟨λe he=>?_,?_⟩;{rw[hmod]at he;rcases kJ he with he|rfl;{exact g4.1 e he};exact g4.1 x0 (bP h2)};have hmb:(ents.toList.set i { x0 with key:=a.eval ix,val:=a.eval y }).map (·.born)=ents.toList.map (·.born):=(by apply nT;intro n;rw[dP,jY];by_cases hn:i=n;{subst hn;obtain⟨hi1,hi2⟩:=aY.1 h2;rw[aG rfl,aG (by simpa using hi1),dS,h2];rfl};rw[aB hn]);rw[hmod,hmb];exact g4.2};rw[hmod];rw[fO]at g5 ⊢;intro m n hm hn hlt;have hm':m<ents.toList.length:=(by simpa using hm);have hn':n<ents.toList.length:=(by simpa using hn);have hk0:∀(r:Nat) (hr:r<(ents.toList.set i { x0 with key:=a.eval ix,val:=a.eval y }).length) (hr':r<ents.toList.length),((ents.toList.set i { x0 with key:=a.eval ix,val:=a.eval y })[r]).key=(ents.toList[r]).key:=(by intro r hr hr';rw[List.getElem_set];split;{rename_i hir;subst hir;have:=(aY.1 h2).2;rw[this];exact h3.symm};rfl);rw[hk0 m hm hm',hk0 n hn hn'];exact g5 m n hm' hn' hlt
 exact h.elim
end
end Go.AL
namespace Go.AL
def opB:Op->Bool
 | .move x | .assign x | .load _ x | .nilCheck x | .unOp _ _ x | .convert _ _ x | .makeInterface _ x | .box _ x | .extract x _ | .fieldAddr _ x _ | .field _ x _=>sU x
 | .pick a b d=>sU a&&sU b&&sU d
 | .store _ x y | .binOp _ _ x y _ | .makeSlice _ x y | .indexAddr _ x y | .index _ x y | .lookup _ x y _=>sU x&&sU y
 | .typeAssert x _ _ _=>sU x
 | .mapUpdate _ x y z | .insert _ x y z=>sU x&&sU y&&sU z
 | .build _ ps | .buildSlice _ _ ps=>ps.toList.all λp=>sU p.2
 | .makeFunc _ first cap=>first.toList.all sU&&cap.toList.all sU
 | .slice _ x lo hi _=>sU x&&lo.all sU&&hi.all sU
 | .call cl=>cl.args.toList.all sU&&(match cl.callee with | .value f=>sU f|_=>true)
 |_=>true
section
variable{P:Program}{L:Lay}{c:Cx}{H:Heap}{e:Env}{a:Act}{k:AV->Heap->Prop}{ks:Heap->Prop}{o:Oper}{F:FT}
theorem a3X(hL:uz P L){b:Builtin}{cl:Call}(hr:HR c H)(he:xU c e a)(hx:cl.args.toList.all sU=true)(ho:o.op=.call cl)(hc:cl.callee=.builtin b)
  (h:FD e cl.args.toList λAs=>xP L b cl.argTypes.toList As H k):uD P o a.eval c H k ks:=by
 have hh:=CY he hx h;clear h;obtain⟨As,h1,h⟩:=hh;unfold xP at h;generalize hat:cl.argTypes.toList=ats at h;split at h;{rename_i t r A;obtain⟨i,hT,h⟩:=Lay.su hL h;obtain⟨v,hv,hA⟩:=ND h1;exact b0T hr ho hc (by rw[<- bG,hat];rfl) hT hv hA h};{rename_i t u r A B;obtain⟨v,x,hv,hA,hB⟩:=Ku h1;exact a5K hL hr ho hc hat hv hA hB h};{obtain⟨v,x,hv,hA,hB⟩:=Ku h1;exact b0S hr ho hc hv hA hB h};{obtain⟨v,x,hv,hA,hB⟩:=Ku h1;exact b0R hr ho hc hv hA hB h};exact h.elim
theorem GV(hL:uz P L)(hFn:FS P F)(hr:HR c H)(he:xU c e a)(hb:opB o.op=true)(h:xI F Ok L o.op e H k ks):uD P o a.eval c H k ks:=by
 cases ho:o.op with
 |move x=>rw[ho]at h hb;exact a5H hr he hb (.inl ho) h
 |assign x=>rw[ho]at h hb;exact a5H hr he hb (.inr ho) h
 |pick x y z =>rw[ho]at h hb;simp only[opB,aK]at hb;exact b2e hr he hb.1.1 hb.1.2 hb.2 ho h
 |alloc t=>rw[ho]at h hb;exact a8Z hL hr ho h
 |box t x=>rw[ho]at h hb;exact b4K hL hr he hb ho h
 |build t ps =>rw[ho]at h hb;exact a8Y hL hr he (λp hp=>bD.1 hb p hp) ho h
 |buildSlice t n ps =>rw[ho]at h hb;exact YH hL hr he (λp hp=>bD.1 hb p hp) ho h
 |load t x=>rw[ho]at h hb;exact b2g hL hr he hb ho h
 |store t x y =>rw[ho]at h hb;simp only[opB,aK]at hb;exact a8T hL hr he hb.1 hb.2 ho h
 |nilCheck x=>rw[ho]at h hb;exact a1a hr he hb ho h
 | binOp op t x y ty =>
   rw[ho]at h hb;simp only[opB,aK]at hb;cases hn:F5 (.binOp op t x y ty)with
   |true=>simp only[xI,hn]at h;exact a5G hL hr he hb.1 ho hn h
   |false=>simp only[xI,hn]at h;exact b4L hL hr he hb.1 hb.2 ho h
 |typeAssert x xt s ok=>rw[ho]at h hb;exact YF hL hr he hb ho h
 | makeMap t r =>
   rw[ho]at h;cases r with
   |none=>exact a3T hL hr ho h
   |some x=>exact h.elim
 |lookup t x y ok =>rw[ho]at h hb;simp only[opB,aK]at hb;exact a5I hL hr he hb.1 hb.2 ho h
 |mapUpdate t x y z =>rw[ho]at h hb;simp only[opB,aK]at hb;exact P9 hL hr he hb.1.1 hb.1.2 hb.2 ho h
 |unOp op t x=>rw[ho]at h hb;exact b2d hr he hb ho h
 |convert s d x=>rw[ho]at h hb;exact a3V hL hr he hb ho h
 |makeInterface t x=>rw[ho]at h hb;exact RD hL hr he hb ho h
 |makeFunc f first cap=>rw[ho]at h hb;simp only[opB,aK]at hb;exact a1b hr he hb.2 ho h
 |makeSlice t x y =>rw[ho]at h hb;simp only[opB,aK]at hb;exact a0a hL hr he hb.1 hb.2 ho h
 | slice t x lo hi mx =>
   rw[ho]at h hb;simp only[opB,aK]at hb;cases mx with
   |none=>exact a8U hL hr he hb.1.1 hb.1.2 hb.2 ho h
   |some y=>exact h.elim
 |fieldAddr t x f=>rw[ho]at h hb;exact a0c hL hr he hb ho h
 |indexAddr t x y =>rw[ho]at h hb;simp only[opB,aK]at hb;exact a0b hL hr he hb.1 hb.2 ho h
 |index t x y =>rw[ho]at h hb;simp only[opB,aK]at hb;exact a8V hL hr he hb.1 hb.2 ho h
 |extract x i=>rw[ho]at h hb;exact a3U hr he hb ho h
 | call cl =>
   rw[ho]at h hb;simp only[opB,aK]at hb;cases hc:cl.callee with
   |value f =>simp only[xI,hc]at h hb;exact YG hFn hr he hb.2 hb.1 ho hc h
   |builtin b =>simp only[xI,hc]at h;exact a3X hL hr he hb.1 ho hc h
   |invoke r m=>simp only[xI,hc]at h
 |_=>rw[ho]at h;exact h.elim
theorem a1W:∀{l:List (AV×AV)} {es:List MapEntry},Py c l es->es.length=l.length
 | [],_,h=>by simp only[Py]at h;subst h;rfl
 |(x,y)::l,es,h=>by obtain⟨e,r,rfl,_,_,h4⟩:=h;simp[a1W h4]
theorem a8X(hL:uz P L){cl:Call}{t:Nat}{r:List Nat}{v:Value}{A:AV}(hr:HR c H)(ho:o.op=.call cl)(hc:cl.callee=.builtin .clear)(hat:cl.argTypes.toList=t::r)(hv:cl.args.toList.map a.eval=[v])
  (h:L.sQ t λi=>(match i.desc,A with
   | .slice el,.ms j off len _ 1=>L.sQ el λei=>Zy (!uG ei.zero) <| yt H j λo=>(match o with
     | .arr 1 cp l=>(0<len/\off+len<=l.length)/\G5 H j (.arr 1 cp (l.take off++List.replicate len ei.zero++l.drop (off+len))) λH'=>k (.uy []) H'
     |_=>False)
   |_,_=>False)) (hA:EV c A v):uD P o a.eval c H k ks:=by
 obtain⟨i,hT,h⟩:=Lay.su hL h;split at h
 ·rename_i el j off len cap hd _;obtain⟨d,hu,hdd⟩:=hT.under;obtain rfl:=sN (hdd.trans hd);obtain⟨ei,hE,h⟩:=Lay.su hL h;obtain⟨hfl,h⟩:=H8.1 h;obtain⟨ob,hob,h⟩:=uo.1 h;split at h
  ·rename_i cp l;obtain⟨⟨h0,hlen⟩,h⟩:=h;obtain⟨_,h⟩:=yB.1 h;obtain⟨cs,ty,g1,g2,g3,g4,g5,g6⟩:=hr.EM hob;obtain⟨z,z1,z2,z3⟩:=hE.KP c.w;obtain⟨hj,rfl,_,_⟩:=Oj hA;have hzc:z.cells = #[z]:=z2.2 (by simpa using hfl);have hz1:z.oneCell'=true:=Eu _ _ (yP (c:=c) _ _ (z3 c.w c.Im)) z (by rw[hzc];simp);have hzs:(Builtin.zeroCells z.cells len).toList=List.replicate len z:=by rw[hzc];simp[Builtin.zeroCells];apply lD;{simp};intro i h1 h2;simp[Nat.mod_one]
   rw[iK]at *;have hst:=run_storeCells_at (P:=P) (c.ρ j) off ty (List.replicate len z) 0 cs.toArray c.w g1 aA (λv hv=>by rw[List.eq_of_mem_replicate hv];exact hz1);simp only[dR,jX]at hst;refine .inl ⟨.tuple #[],{ c with w:=c.w.setRow (c.ρ j) (cs.take off++List.replicate len z++cs.drop (off+len)).toArray },.uy [],_,?_,?_,?_,h⟩;{rw[yg ho hc,yh hv];obtain⟨m,rfl⟩:∃m,len=m+1:=⟨len-1,aj⟩;simp only[builtin,Builtin.clear_,hat,<- bG,dX,Sem.run_bind,run_underlying hu,Result.andThen_ok,z1,hzs,hst,Sem.run_pure]};{refine Tr.write hr hob g1 (λ_=>rfl) (λ_=>rfl) g6 (by intros;simp) (by intros;simp) ?_;have le:c.Le { c with w:=c.w.setRow (c.ρ j) (cs.take off++List.replicate len z++cs.drop (off+len)).toArray }:=(by refine⟨λb x h=>⟨h,wX (setRow_other c.w _ b _ (λe=>g6 x (e ▸ h)))⟩,aT _,λ_ _=>rfl,λ_ _ _ h=>.inl ⟨h,rfl⟩⟩);refine⟨_,ty,setRow_heap c.w _ _ _ _ _ g1,?_,?_,g4,Fp le ?_,g6⟩;{simp;omega};{simp;omega};refine NC (NC (Yj off g5) aA (a1Y (by have:=z3 c.w c.Im;rw[hzc]at this;simpa using this) len)) aA (Ym _ g5)};exact⟨#[],rfl,rfl⟩
  exact h.elim
 exact h.elim
theorem b4J{cl:Call}{t el:Nat}{i:TI}(hr:HR c H)(ho:o.op=.call cl)(hc:cl.callee=.builtin .cap)(hat:cl.argTypes[0]? = some t)(hT:Gi P t i)
  {v:Value} (hv:cl.args.toList.map a.eval=[v]) (hA:EV c .qV v) (hi:i.desc=.slice el) (h:k (.int .i64 0) H):uD P o a.eval c H k ks:=by
 obtain⟨d,hd,hdd⟩:=hT.under;obtain rfl:=sN (hdd.trans hi);obtain rfl:=DW hA;refine .pure hr (v:=.int .i64 0) ?_ (sD (uI (Ig (n:=0) (by simp[maxL])))) h;rw[yg ho hc,yh hv];simp only[builtin,Builtin.cap_,hat,eX,dX,Sem.run_bind,run_underlying hd,Result.andThen_ok,Sem.run_pure,goInt];rfl
theorem a3Y(hL:uz P L){cl:Call}{t u:Nat}{r:List Nat}{A B:AV}(hr:HR c H)(ho:o.op=.call cl)(hc:cl.callee=.builtin .append)(hat:cl.argTypes.toList=t::u::r)
  {v x:Value} (hv:cl.args.toList.map a.eval=[v,x]) (hA:EV c A v) (hB:EV c B x) {kn:IntKind} (hu:P.underlying u=some (.int kn)) (h:Yb L t A B H k):uD P o a.eval c H k ks:=by
 unfold Yb at h;have hh:=Lay.su hL h;clear h;obtain⟨i,hT,h⟩:=hh;obtain⟨dt,ht,hdt⟩:=hT.under;split at h;case h_2=>exact h.elim
 rename_i el hi;obtain rfl:=sN (hdt.trans hi);have hh:=Lay.su hL h;clear h;obtain⟨ei,hE,h⟩:=hh;have hh:=H8.1 h;clear h;obtain⟨hfl,h⟩:=hh;split at h;case h_2=>exact h.elim
 rename_i kd n;obtain⟨⟨h0,h1,h2⟩,h⟩:=h;obtain rfl:=DW hA;obtain⟨rfl,_⟩:=Af hB;obtain⟨info,z,g1,g2,g3,g4,g5,g6⟩:=hE.info;have hf1:flat ei.zero=1:=by cases hz:ei.zero <;> simp[hz,uG]at hfl <;> simp[flat]
 obtain⟨m,rfl⟩:∃m:Nat,n=m:=⟨n.toNat,aj⟩;have hzc:z.cells = #[z]:=g5.2 (by simpa using hfl);have hrun:∀ty,(Builtin.append_ #[t,u] ty #[.slice none 0 0,.int kd m]).run P c.w=_:=λty =>
  Go.Lib.run_append_nil_zeros c.w t u ty el info z kd kn ht hu g1 g4 m aj aj aj (by
   rw[g3];have h3:((m*ei.bytes:Nat):Int)<=140737488355328:=(by rw[lK];exact h2);omega)
 have hge:=grownCap_ge c.w m 0 el;have hle:=grownCap_le_maxLen c.w m 0 el (by unfold maxLen;omega);have hle':grownCap c.w m 0 el<=maxL:=(by simpa[maxL,maxLen]using hle);have NV:∀r w',(Builtin.append_ #[t,u] o.type #[.slice none 0 0,.int kd m]).run P c.w=.ok r w'->(execOp a.eval o).run P c.w=.ok (.value r) w':=by
  intro rr w' hrr;rw[yg ho hc,yh hv];have e2:(Builtin.append_ cl.argTypes o.type #[.slice none 0 0,.int kd m]).run P c.w=(Builtin.append_ #[t,u] o.type #[.slice none 0 0,.int kd m]).run P c.w:=by have e0:cl.argTypes[0]? = some t:=(by rw[<- bG,hat];rfl);have e1:cl.argTypes[1]? = some u:=(by rw[<- bG,hat];rfl);unfold Builtin.append_;simp only[e0,e1];rfl
  simp only[builtin,Sem.run_bind,e2,hrr,Result.andThen_ok,Sem.run_pure]
 have hrun:=hrun o.type;generalize hcp:grownCap c.w m 0 el=cap' at hge hle' hrun;rw[aO]at h;let cs:=Builtin.zeroCells z.cells m++Builtin.zeroCells z.cells (cap'-m);have hz0:∀n,(Builtin.zeroCells z.cells n).toList=List.replicate n z:=(by intro n;rw[hzc];simp[Builtin.zeroCells];apply lD;{simp};intro i h1 h2;simp[Nat.mod_one]);have hcs:cs.toList=List.replicate m z++List.replicate (cap'-m) z:=(by simp only[cs,Array.toList_append,hz0]);have htd:=Tr.drew hr;let d0:Cx:={ c with w:=c.w.drew };have hr0:HR d0 H:=htd.hr;have htr:Tr c H (d0.push (.cells cs el) ((nextId H,.arr 1 cap' (List.replicate m ei.zero))::H)) ((nextId H,.arr 1 cap' (List.replicate m ei.zero))::H):=(by refine htd.trans (Tr.push hr0 _ _ (λ_=>rfl) ?_);refine⟨cs.toList,el,?_,?_,by simp;exact hge,hle',?_,?_⟩;{rw[ELρ hr0];simp only[Cx.push,jc];exact alloc_heap_new _ _};{rw[hcs];simp;omega};{rw[hcs];have:=a1Y (c:=d0.push (.cells cs el) ((nextId H,.arr 1 cap' (List.replicate m ei.zero))::H)) (z:=ei.zero) (y:=z) (by have:=g6 (d0.push (.cells cs el) ((nextId H,.arr 1 cap' (List.replicate m ei.zero))::H)).w (d0.push (.cells cs el) ((nextId H,.arr 1 cap' (List.replicate m ei.zero))::H)).Im;rw[hzc]at this;simpa using this) m;have h9:=NC (m:=[]) (ds:=List.replicate (cap'-m) z) this ak trivial;simpa using h9};intro y hy;rw[ELρ hr0]at hy;have:=hr0.im _ _ hy;omega);refine .inl ⟨_,_,_,_,NV _ _ hrun,htr,sD (vG rfl rfl ?_),h cap' hge hle'⟩;simp only[VR];rw[ELρ hr0];exact⟨by simp only[Cx.push,hr0.nx];omega,by simp[d0],hge,hle'⟩
theorem a1T{u:Nat}{X Y:Prop}(hat:L.sQ u λi=>(match i.desc with | .slice _=>X | .str=>X | .int _=>Y|_=>False))(hL:uz P L) :
  ((∃d,P.underlying u=some d/\((∃e,d=.slice e)\/d=.string))/\X)\/(∃kn,P.underlying u=some (.int kn))/\Y:=by
 obtain⟨i,hT,h⟩:=Lay.su hL hat;obtain⟨d,hd,hdd⟩:=hT.under;cases hi:i.desc <;> simp only[hi]at h <;> first|exact h.elim|skip
 ·exact .inr ⟨⟨_,by rw[hd,Xy (hdd.trans hi)]⟩,h⟩
 ·exact .inl ⟨⟨d,hd,.inr (En (hdd.trans hi))⟩,h⟩
 exact .inl ⟨⟨d,hd,.inl ⟨_,sN (hdd.trans hi)⟩⟩,h⟩
theorem a1d(hL:uz P L){b:Builtin}{cl:Call}(hr:HR c H)(he:xU c e a)(hx:cl.args.toList.all sU=true)(ho:o.op=.call cl)(hc:cl.callee=.builtin b)
  (h:FD e cl.args.toList λAs=>SQ L b cl.argTypes.toList As H k):uD P o a.eval c H k ks:=by
 have hh:=CY he hx h;clear h;obtain⟨As,h1,h⟩:=hh;unfold SQ at h;generalize hat:cl.argTypes.toList=ats at h;split at h
 ·rename_i t r A;have hh:=Lay.su hL h;clear h;obtain⟨i,hT,h⟩:=hh;obtain⟨v,hv,hA⟩:=ND h1;split at h
  ·rename_i p q j hd;obtain⟨ob,hob,h⟩:=uo.1 h;split at h
   ·rename_i sh es;obtain⟨d,hu,hdd⟩:=hT.under;obtain rfl:=JW (hdd.trans hd);obtain⟨hj,rfl⟩:=b5W hA;obtain⟨ents,clock,g1,g2,g3,g4⟩:=hr.EM hob;have hlen:ents.size=es.length:=by rw[<- bJ];exact a1W g2
    refine .pure hr (v:=.int .i64 es.length) ?_ (sD (uI (Ig h.1))) h.2;rw[yg ho hc,yh hv];simp only[builtin,Builtin.len_,hat,<- bG,dX,Sem.run_bind,run_underlying hu,Result.andThen_ok,jB g1,Sem.run_pure,goInt,hlen]
   exact h.elim
  ·rename_i el j n hd;obtain⟨ob,hob,h⟩:=uo.1 h;split at h;{rename_i sz l;obtain⟨rfl,h⟩:=h;obtain⟨d,hu,hdd⟩:=hT.under;obtain rfl:=sN (hdd.trans hd);obtain⟨rfl,_,g1,g2⟩:=Ji hr hob hA;refine .pure hr (v:=.int .i64 l.length) ?_ (sD (uI (Ig (dI g1 g2)))) h;rw[yg ho hc,yh hv];simp only[builtin,Builtin.len_,hat,<- bG,dX,Sem.run_bind,run_underlying hu,Result.andThen_ok,Sem.run_pure,goInt]};exact h.elim
  exact b0T hr ho hc (by rw[<- bG,hat];rfl) hT hv hA h
 ·rename_i t u r A B;obtain⟨v,x,hv,hA,hB⟩:=Ku h1;rcases a1T h hL with hh|⟨⟨kn,hu⟩,hh⟩;{exact a3Z hL hr ho hc hat hv hA hB hh};exact a3Y hL hr ho hc hat hv hA hB hu hh
 ·rename_i t r A;have hh:=Lay.su hL h;clear h;obtain⟨i,hT,h⟩:=hh;obtain⟨v,hv,hA⟩:=ND h1;split at h;{rename_i hd;exact b4J hr ho hc (by rw[<- bG,hat];rfl) hT hv hA hd h};exact h.elim
 ·obtain⟨v,x,hv,hA,hB⟩:=Ku h1;exact b0S hr ho hc hv hA hB h
 ·obtain⟨v,x,hv,hA,hB⟩:=Ku h1;exact b0R hr ho hc hv hA hB h
 ·rename_i A B C;obtain⟨v,r,hv,hA,h1⟩:=h1;obtain⟨u,x,rfl,hB,hC⟩:=Ku h1;exact b2f hr ho hc hv hA hB hC h
 ·rename_i t r A;obtain⟨v,hv,hA⟩:=ND h1;exact a8X hL hr ho hc hat hv h hA
 exact h.elim
theorem a3W{F:FT}(hFn:FS P F){f:Operand}{cl:Call}{g j:Nat}{As:List AV}(hr:HR c H)(ho:o.op=.call cl)(hc:cl.callee=.value f)
  (hA:EV c (.bm g j) (a.eval f)) (h2:Oo c As (cl.args.toList.map a.eval)) (h3:IB F Ok g (.ptr j [] 0::As) H k):uD P o a.eval c H k ks:=by
 obtain⟨hj,e1⟩:=b7d hA;have hp:EV c (.ptr j [] 0) (.pointer (some ⟨c.ρ j,0,none⟩)):=sD (vG rfl rfl (by simp only[VR];exact⟨hj,trivial⟩));have h1:Oo c (.ptr j [] 0::As) (.pointer (some ⟨c.ρ j,0,none⟩)::cl.args.toList.map a.eval):=⟨_,_,rfl,hp,h2⟩
 have key:∃ R H',(∃ fn,P.funcs[g]? = some fn/\(fn.name== "runtime.NumGoroutine")=false/\fn.body.isSome=true) /\
   (Calls P g (.pointer (some ⟨c.ρ j,0,none⟩)::cl.args.toList.map a.eval).toArray c.w λe w'=>∃v d,e=.returned v/\d.w=w'/\Tr c H d H'/\EV d R v)/\k R H':=by
  have fin:∀{R H'},(Calls P g (.pointer (some ⟨c.ρ j,0,none⟩)::cl.args.toList.map a.eval).toArray c.w λe w'=>∃v d,e=.returned v/\d.w=w'/\Tr c H d H'/\EV d R v)->Ok R:=(by intro R H' hcall;obtain⟨e',w',fr,⟨v,d,_,_,_,h8⟩,_⟩:=hcall [];exact Me h8);cases h3 with
  |gen R H' hF hk =>have hF:=hFn.h _ _ _ _ _ hF;have hcall:=hF.2 c _ hr h1;exact⟨R,H',hF.1,hcall,hk (fin hcall)⟩
  |pure Bs R hle hb hF hk =>have hF:=hFn.h _ _ _ _ _ hF;have hcall:=qZ.pure hF hb.1 hb.2 hr (Ih hle h1);exact⟨R,H,hF.1,hcall,hk (fin hcall)⟩
 obtain⟨R,H',⟨fn,f1,f2,f3⟩,hcall,hk⟩:=key;refine .inr (.inr ⟨g,_,?_,hcall.mono λ_ _ ⟨v,d,h1,h2,h3,h4⟩=>⟨v,d,R,H',h1,h2,h3,h4,hk⟩⟩);unfold execOp;rw[ho];simp only[resolve,hc,e1,Deferred.ofValue,Sem.run_bind,Sem.run_pure,Result.andThen_ok,invoke,callFunc,run_program,f1,f2,dO,if_false];have:fn.body.isNone=false:=by cases hb:fn.body <;> simp[hb]at f3 ⊢
 simp only[this,dO,if_false,Sem.run_pure];congr 2;simp
theorem a5J{t:Nat}{x ix y:Operand}(ho:o.op=.insert t x ix y)(h:uD P { o with op:=.mapUpdate t x ix y } a.eval c H k ks):uD P o a.eval c H k ks:=by have e:execOp a.eval { o with op:=.mapUpdate t x ix y }=execOp a.eval o:=(by unfold execOp;rw[ho]);unfold uD at h ⊢;rw[e]at h;exact h
theorem a8W(hL:uz P L){t f:Nat}{x:Operand}{A:AV}(hr:HR c H)(ho:o.op=.field t x f)(hA:EV c A (a.eval x))
  (h:a1U L t A f λR=>k R H):uD P o a.eval c H k ks:=by
 unfold a1U at h;obtain⟨i,hT,h⟩:=Lay.su hL h;split at h
 ·rename_i fs zs l hd hz _;obtain⟨z,hf,h⟩:=zV.1 h;obtain⟨gs,fd,h1,h2,h3,h4⟩:=hT.field ⟨_,hd⟩ hz hf;obtain⟨g,hg,h⟩:=zV.1 h;obtain⟨j,hJ,h⟩:=Lay.su hL h;split at h
  ·rename_i hj;obtain⟨hfl,h⟩:=sW.1 h;obtain⟨y,hy,h⟩:=zV.1 h;split at h
   ·rename_i hny;obtain⟨d,d1,d2⟩:=hT.under;obtain⟨gs',rfl,hfs⟩:=IL (d2.trans hd);rw[h1]at d1;have d1:=aW d1;have hgs:gs'=gs:=by injection d1 with d1;exact d1.symm
    subst hgs;have e1:g.2.2=fd.type:=by rw[hfs,dS,bG,h2]at hg;have:=aW hg;rw[<- this]
    rw[e1]at hJ;have hA:VV c (.ag l) (a.eval x):=hA;obtain⟨cs,hcs⟩:=hA.1.1 rfl;have hV:=hA.2;rw[hcs]at hV;simp only[VR]at hV;obtain⟨pre,xs,post,e2,e3,e4,_⟩:=Jt hV hy;obtain⟨u,rfl,_⟩:=Aq e4 hny;have hu:cs[fd.offset]? = some u:=(by have e2:cs.toList=pre++[u]++post:=e2;rw[<- bG,e2,h3,<- hfl,<- e3,bK,dK (aT _),gJ];rfl);refine .pure hr (v:=u) ?_ (sD (Gh e4 hny)) h;unfold execOp;rw[ho];simp only[Instr.field,hcs,Sem.run_bind,run_underlying h1,Result.andThen_ok,h2,asAgg,part,hJ.Zk,hj,Sem.run_pure,dO,if_false,hu]
   exact h.elim
  exact h.elim
 exact h.elim
theorem a5F(hL:uz P L)(hFn:FS P F)(hr:HR c H)(he:xU c e a)(hb:opB o.op=true)(h:O6 F Ok L o.op e H k ks):uD P o a.eval c H k ks:=by
 unfold O6 at h;split at h;{rename_i cl hop;split at h;{rename_i b hc;rw[hop]at hb;simp only[opB,aK]at hb;exact a1d hL hr he hb.1 hop hc h};{rename_i f hc;have hb':=hb;rw[hop]at hb';simp only[opB,hc,aK]at hb';obtain⟨A,hA,h⟩:=rO he hb'.2 h;split at h;{rename_i g j;obtain⟨As,h1,h⟩:=CY he hb'.1 h;exact a3W hFn hr hop hc hA h1 h};{exact a1c hFn hr he hb'.1 hop hc hA h};exact GV hL hFn hr he hb (by rw[hop];exact h)};exact GV hL hFn hr he hb (by rw[hop];exact h)}
 ·rename_i f first cap hop
  split at h
  ·rename_i x hf;have hb':=hb;rw[hop]at hb';simp only[opB,hf,aK]at hb';split at h
   ·rename_i g hcap;obtain⟨A,hA,h⟩:=rO he (by simpa using hb'.1) h;split at h
    ·rename_i j;obtain⟨hj,e1⟩:=Po hA;obtain rfl:first = #[x]:=by cases first;simp at hf;subst hf;rfl
     obtain rfl:cap = #[]:=by cases cap;simp at hcap;subst hcap;rfl
     refine .pure hr (v:=.func (.func g) #[.pointer (some ⟨c.ρ j,0,none⟩)] #[]) ?_ (sD (vG rfl rfl ?_)) h;{unfold execOp;rw[hop];simp[Instr.makeFunc,e1]};simp only[VR];exact⟨hj,trivial⟩
    exact h.elim
   exact h.elim
  exact GV hL hFn hr he hb (by rw[hop];exact h)
 ·rename_i t x ix y hop;rw[hop]at hb;simp only[opB,aK]at hb;have:=P9 (o:={ o with op:=.mapUpdate t x ix y }) (P:=P) (k:=k) (ks:=ks) hL hr he hb.1.1 hb.1.2 hb.2 rfl h;exact a5J hop this
 ·rename_i t x f hop;rw[hop]at hb;obtain⟨A,hA,h⟩:=rO he hb h;exact a8W hL hr hop hA h
 ·rename_i t x y ty hop;split at h;{exact GV hL hFn hr he hb (by rw[hop];exact h)};rw[hop]at hb;simp only[opB,aK]at hb;obtain⟨A,hA,h⟩:=rO he hb.1 h;obtain⟨B,hB,h⟩:=rO he hb.2 h;have hx:∃m n,A=.int .i64 m/\B=.int .i64 n/\k (.int .i64 (IntKind.i64.wrap (m+n))) H:=by split at h;{exact⟨_,_,rfl,rfl,h⟩};exact h.elim
  obtain⟨m,n,rfl,rfl,h⟩:=hx;obtain⟨e1,r1⟩:=Af hA;obtain⟨e2,_⟩:=Af hB;refine .pure hr (v:=.int .i64 (IntKind.i64.wrap (m+n))) (Ac hop ?_ (by rw[e1,e2];simp[binOp,Op.intArith])) (sD (uI (EI _ _))) h;rw[e1,e2];exact yX (by rintro⟨_,_,h,_⟩;cases h) (by intro h;cases h)
 exact GV hL hFn hr he hb h
theorem getD_set_ne{xs:Array Value}{i j:Nat}{v d:Value}(h:i≠j):(xs.setIfInBounds i v).getD j d=xs.getD j d:=by rw[dH,dH,iO h]
theorem TS{xs:Array Value}{i:Nat}{v d:Value}(h:i<xs.size):(xs.setIfInBounds i v).getD i d=v:=by rw[dH,iV h];rfl
structure Cc(n:Nat)(c:Cx)(e:Env)(a:Act):Prop where
 env:xU c e a
 defers:a.defers=[]
 size:a.tmps.size=n
theorem Cc.put{n:Nat}{e:Env}{d:Nat}{A:AV}{v:Value}(h:Cc n c e a)(hd:d<n)(hv:EV c A v):Cc n c ((d,A)::e) (a.put (some d) v):=by
 refine⟨λt B hB=>?_,h.defers,by simp[Act.put,h.size]⟩;simp only[vk]at hB;simp only[Act.put];cases hb:Nat.beq d t with
 |true =>rw[hb]at hB;obtain rfl:=aJ hb;obtain rfl:=aW hB;rw[TS (by rw[h.size];exact hd)];exact hv
 |false =>rw[hb]at hB;rw[getD_set_ne (xw hb)];exact h.env _ _ hB
theorem Cc.mono{n:Nat}{d:Cx}(h:Cc n c e a)(le:c.Le d):Cc n d e a:=⟨λt A hA=>CB le (h.env t A hA),h.defers,h.size⟩
def Fr(ws:List Nat)(a a':Act):Prop:=∀t,t ∉ ws->a'.tmps.getD t undef=a.tmps.getD t undef
theorem Fr.refl(ws:List Nat)(a:Act):Fr ws a a:=λ_ _=>rfl
theorem Fr.trans{ws ws':List Nat}{a b d:Act}(h:Fr ws a b)(g:Fr ws' b d):Fr (ws++ws') a d:=by intro t ht;simp only[dM,not_or]at ht;rw[g t ht.2,h t ht.1]
theorem Fr.mono{ws ws':List Nat}{a b:Act}(h:Fr ws a b)(hs:∀t∈ws,t∈ws'):Fr ws' a b:=λt ht=>h t (λh'=>ht (hs t h'))
theorem Fr.put{d:Nat}{v:Value}:Fr [d] a (a.put (some d) v):=by intro t ht;simp at ht;simp only[Act.put];exact getD_set_ne (λe=>ht e.symm)
def GU(n:Nat)(o:Oper):Bool:=opB o.op&&(match o.dst with|some d=>Nat.blt d n|none=>true)
theorem Vx{b:Bool}:undef≠.bool b:=by simp[undef]
theorem a8z{d:Nat}{b:Bool}(h:a.tmps.getD d undef=.bool b):a.tmps[d]? = some (.bool b):=by
 rw[dH]at h;cases hx:a.tmps[d]? with
 |none=>rw[hx]at h;exact absurd h Vx
 |some v=>rw[hx]at h;simp at h;rw[h]
theorem Xl{k:Nat->Prop}:∀{l:List Oper} {j:Nat},b6f l j k->∃o d,l[j]? = some o/\o.dst=some d/\k d
 | [],_,h=>h.elim
 | o::l,0,h=>by
   simp only[b6f]at h;cases hd:o.dst with
   |none=>simp[hd]at h
   |some d=>simp only[hd]at h;exact⟨o,d,rfl,hd,h⟩
 |o::l,j+1,h=>by simpa using Xl (l:=l) h
theorem Td{ops:Array Oper}{j d:Nat}{b x:Bool}{oj:Oper}(hg:o.guard=some (j,b))(hj:ops[j]? = some oj)(hd:oj.dst=some d)(hv:a.tmps.getD d undef=.bool x) :
  Region.wanted o (yielded ops a.tmps)=(x==b):=by
 unfold Region.wanted yielded;simp[hg,hj,hd,a8z hv]
theorem Tf{ops:Array Oper}(hg:o.guard=none):Region.wanted o (yielded ops a.tmps)=true:=by unfold Region.wanted;rw[hg]
theorem Pz{ops:Array Oper}{j d:Nat}{b:Bool}{oj:Oper}(hg:o.guard=some (j,b))(hj:ops[j]? = some oj)(hd:oj.dst=some d)(hv:a.tmps.getD d undef=undef) :
  Region.wanted o (yielded ops a.tmps)=false:=by
 unfold Region.wanted yielded;rw[dH]at hv;cases hx:a.tmps[d]? with
 |none=>simp[hg,hj,hd,hx]
 |some v =>rw[hx]at hv;simp only[mP]at hv;subst hv;simp[hg,hj,hd,hx,undef]
theorem a8o{c:Cx}{v:Value}(h:EV c (.uy []) v):v=undef:=by
 obtain⟨vs,rfl,h2⟩:=h;simp only[VA]at h2;have:vs = #[]:=by cases vs;simp_all
 subst this;rfl
theorem PL{c:Cx}:EV c (.uy []) undef:=⟨#[],rfl,by simp only[VA]⟩
theorem Qk{n:Nat}{ops:Array Oper}{yes no:Env->Prop}(ha:Cc n c e a)(h:zX ops.toList o.guard e yes no) :
  ∃e',Cc n c e' a/\((Region.wanted o (yielded ops a.tmps)=true/\yes e')\/(Region.wanted o (yielded ops a.tmps)=false/\no e')):=by
 cases hg:o.guard with
 |none=>rw[hg]at h;exact⟨e,ha,.inl ⟨Tf hg,h⟩⟩
 | some g =>
   obtain⟨j,b⟩:=g;rw[hg]at h;obtain⟨oj,d,h1,h2,h3⟩:=Xl h;obtain⟨A,h4,h5⟩:=yC.1 h3;have hA:=ha.env d A h4;have h1':ops[j]? = some oj:=(by rw[<- bG];exact h1);have wnt:∀x,a.tmps.getD d undef=.bool x->Region.wanted o (yielded ops a.tmps)=(x==b):=λx hx=>Td hg h1' h2 hx;have ext:∀(A':AV),EV c A' (a.tmps.getD d undef)->Cc n c ((d,A')::e) a:=by
    intro A' hA';refine⟨λt B hB=>?_,ha.defers,ha.size⟩;simp only[vk]at hB;cases hb:Nat.beq d t with
    |true =>rw[hb]at hB;obtain rfl:=aJ hb;obtain rfl:=aW hB;exact hA'
    |false=>rw[hb]at hB;exact ha.env _ _ hB
   have tt:∀{v:Value},v=.bool true->EV c .tt v:=(by rintro v rfl;exact sD (vG rfl rfl (by simp only[VR,Rd])));have ff:∀{v:Value},v=.bool false->EV c .ff v:=(by rintro v rfl;exact sD (vG rfl rfl (by simp only[VR,Rd])));split at h5;{exact⟨e,ha,.inl ⟨by rw[wnt true (LY hA)];rfl,h5⟩⟩};{exact⟨e,ha,.inr ⟨by rw[wnt true (LY hA)];rfl,h5⟩⟩};{exact⟨e,ha,.inr ⟨by rw[wnt false (LZ hA)];rfl,h5⟩⟩};{exact⟨e,ha,.inl ⟨by rw[wnt false (LZ hA)];rfl,h5⟩⟩}
   ·rename_i x;have hx:=yF hA;cases x with
    |true=>exact⟨_,ext .tt (tt hx),.inl ⟨by rw[wnt true hx];rfl,h5.1 rfl⟩⟩
    |false=>exact⟨_,ext .ff (ff hx),.inr ⟨by rw[wnt false hx];rfl,h5.2 rfl⟩⟩
   ·rename_i x;have hx:=yF hA;cases x with
    |true=>exact⟨_,ext .tt (tt hx),.inr ⟨by rw[wnt true hx];rfl,h5.1 rfl⟩⟩
    |false=>exact⟨_,ext .ff (ff hx),.inl ⟨by rw[wnt false hx];rfl,h5.2 rfl⟩⟩
   ·rename_i p;obtain⟨x,hx,hp⟩:=CZ hA;cases x with
    |true=>exact⟨_,ext .tt (tt hx),.inl ⟨by rw[wnt true hx];rfl,h5.1 (hp.1 rfl)⟩⟩
    |false=>exact⟨_,ext .ff (ff hx),.inr ⟨by rw[wnt false hx];rfl,h5.2 (λh=>by have:=hp.2 h;cases this)⟩⟩
   ·rename_i p;obtain⟨x,hx,hp⟩:=CZ hA;cases x with
    |true=>exact⟨_,ext .tt (tt hx),.inr ⟨by rw[wnt true hx];rfl,h5.1 (hp.1 rfl)⟩⟩
    |false=>exact⟨_,ext .ff (ff hx),.inl ⟨by rw[wnt false hx];rfl,h5.2 (λh=>by have:=hp.2 h;cases this)⟩⟩
   ·exact⟨e,ha,.inr ⟨Pz hg h1' h2 (a8o hA),h5⟩⟩
   exact h5.elim
theorem Hg(hL:uz P L)(hFn:FS P F){n:Nat}{ops:Array Oper}{Q:Exit->Act->World->Prop}{k:Env->Heap->Prop} :
  ∀ {l:List Oper} {e:Env} {H:Heap} {c:Cx} {a:Act},l.all (GU n)=true->HR c H->Cc n c e a->Hy F Ok L ops.toList l e H k ->
    (∀e' H' c' a',k e' H'->Tr c H c' H'->Cc n c' e' a'->Fr (rX l) a a'->Q .normal a' c'.w)->wpList P ops Q l a c.w
 | [],e,H,c,a,_,hr,ha,h,hq=>hq e H c a h (.refl hr) ha (Fr.refl _ _)
 | o::l,e,H,c,a,hl,hr,ha,h,hq=>by
   simp only[nO,aK,GU]at hl;obtain⟨⟨hb,hdst⟩,hl⟩:=hl;have ih:=@Hg hL hFn n ops Q k l;have hlt:∀d,o.dst=some d->d<n:=λd hd=>by rw[hd]at hdst;exact bF hdst
   have cont:∀(v:Value) (A:AV) (c':Cx) (H':Heap) (e1:Env),Tr c H c' H'->Cc n c' e1 a->EV c' A v->CO o.dst A e1 (λe'=>Hy F Ok L ops.toList l e' H' k)->wpList P ops Q l (a.put o.dst v) c'.w:=by
    intro v A c' H' e1 htr ha' hv hk;cases hd:o.dst with
    |none =>rw[hd]at hk;refine ih hl htr.hr ha' hk λe' QY c'' a' g1 g2 g3 g4=>hq e' QY c'' a' g1 (htr.trans g2) g3 ?_;simp only[rX,hd];exact g4
    |some d =>rw[hd]at hk;refine ih hl htr.hr (ha'.put (hlt d hd) hv) hk λe' QY c'' a' g1 g2 g3 g4=>hq e' QY c'' a' g1 (htr.trans g2) g3 ?_;simp only[rX,hd];exact Fr.trans (ws:=[d]) Fr.put g4
   simp only[Hy]at h;obtain⟨e1,ha1,hcase⟩:=Qk ha h;simp only[wpList];rcases hcase with⟨hw,h1⟩|⟨hw,h1⟩
   ·rw[aG hw];refine .inl ?_;have hop:=a5F hL hFn hr ha1.env hb h1;unfold Oper.wp;rcases hop with⟨v,d,A,H',g1,g2,g3,g4⟩|⟨d,H',g1,g2,g3⟩|⟨f,args,g1,g2⟩;{rw[g1,Oper.upon_value];exact cont v A d H' e1 g2 (ha1.mono g2.le) g3 g4}
    ·rw[g1,Oper.upon_skip];cases hd:o.dst with
     |none=>rw[hd]at g3;exact hd ▸ cont undef .und d H' e1 g2 (ha1.mono g2.le) trivial (by rw[hd];exact g3)
     |some d'=>rw[hd]at g3;exact g3.elim
    rw[g1,Oper.upon_enter];refine Calls.mono g2 ?_;rintro _ w' ⟨v,d,R,H',rfl,rfl,g4,g5,g3⟩;exact cont v R d H' e1 g4 (ha1.mono g4.le) g5 g3
   rw[hw];simp only[dO,if_false];exact cont undef (.uy []) c H e1 (.refl hr) ha1 PL h1
end
end Go.AL