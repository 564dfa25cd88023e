/-
  A logic for calls of Go functions: each operation is sound. Nothing is assumed.
-/
import Derived.Test.YtjbhbpieccloeaaT0
import Derived.Laws.Strings
import Derived.Laws.StructEq
import Derived.Great.BuildSlice
import Derived.Tactics
import Derived.Lib.AppendZeros

namespace Go.AL

def bJ (P : Program) (f : Nat) (args : List AV) (H : Heap) (R : AV) (H' : Heap) : Prop :=
 (∃ fn,P.funcs[f]? = some fn /\ (fn.name == "runtime.NumGoroutine") = false /\ fn.body.isSome = true) /\
 ∀ (c : Cx) (vs : List Value),HR c H -> yD c args vs -> Calls P f vs.toArray c.w fun e w'=>∃ v d,e = .returned v /\ d.w = w' /\ Tr c H d H' /\ EV d R v

def dK (P : Program) (f : Nat) (args : List AV) (H : Heap) (Q : AV -> Heap -> Prop) : Prop :=
 (∃ fn,P.funcs[f]? = some fn /\ (fn.name == "runtime.NumGoroutine") = false /\ fn.body.isSome = true) /\
 ∀ (c : Cx) (vs : List Value),HR c H -> yD c args vs -> Calls P f vs.toArray c.w fun e w'=>∃ v d R H',Q R H' /\ e = .returned v /\ d.w = w' /\ Tr c H d H' /\ EV d R v

abbrev FP (P : Program) : FT:={ h:=bJ P,q:=dK P }
abbrev ZH (P : Program) : FT:={ h:=bJ P,q:=dK P,w:=true }

structure FS (P : Program) (F : FT) : Prop where
 h : ∀ f args H R H',F f args H R H' -> bJ P f args H R H'
 q : ∀ f args H Q,F.q f args H Q -> dK P f args H Q

theorem TL (P : Program) : FS P (FP P):=⟨fun _ _ _ _ _ h=>h,fun _ _ _ _ h=>h⟩
theorem Xh (P : Program) : FS P (ZH P):=⟨fun _ _ _ _ _ h=>h,fun _ _ _ _ h=>h⟩

def bQ (P : Program) (o : Oper) (ρ : Operand -> Value) (c : Cx) (H : Heap) (k : AV -> Heap -> Prop) (ks : Heap -> Prop) : Prop :=
 (∃ v d A H',(execOp ρ o).run P c.w = .ok (.value v) d.w /\ Tr c H d H' /\ EV d A v /\ k A H') \/
 (∃ d H',(execOp ρ o).run P c.w = .ok .skip d.w /\ Tr c H d H' /\ ks H') \/
 (∃ f args,(execOp ρ o).run P c.w = .ok (.enter f args) c.w /\
  Calls P f args c.w fun e w'=>∃ v d R H',e = .returned v /\ d.w = w' /\ Tr c H d H' /\ EV d R v /\ k R H')

section
variable {P : Program} {L : Lay} {c : Cx} {H : Heap} {e : Env} {a : Act} {k : AV -> Heap -> Prop} {ks : Heap -> Prop} {o : Oper}

theorem bQ.pure (hr : HR c H) {v : Value} {A : AV} (hrun : (execOp a.eval o).run P c.w = .ok (.value v) c.w) (hv : EV c A v) (hk : k A H) : bQ P o a.eval c H k ks :=
 .inl ⟨v,c,A,H,hrun,.refl hr,hv,hk⟩

theorem iP {kd : IntKind} {n : Int} {v : Value} (h : EV c (.int kd n) v) : v = .int kd n /\ qM kd n:=Xe h
theorem DF {s : List UInt8} {v : Value} (h : EV c (.str s) v) : v = .string ⟨s.toArray⟩ /\ s.length <= maxL:=LQ h

theorem Ar (s : List UInt8) : ByteArray.toList ⟨s.toArray⟩ = s:=ByteArray.toList_mk s

theorem MJ (hr : HR c H) (he : fC c e a) {x : Operand} (hx : aV x = true) (ho : o.op = .move x \/ o.op = .assign x) (h : bI e x fun A=>k A H) : bQ P o a.eval c H k ks:=by
 obtain ⟨A,h1,h2⟩:=aG he hx h
 refine .pure hr (v:=a.eval x) ?_ h1 h2
 rcases ho with ho | ho <;> simp [execOp,ho]

theorem Qg {cc x y : Operand} (ho : o.op = .pick cc x y) {b : Bool} (hb : a.eval cc = .bool b) : (execOp a.eval o).run P c.w = .ok (.value (if b then a.eval x else a.eval y)) c.w:=by
 unfold execOp; rw [ho]; simp only [hb,asBool]; cases b <;> rfl

theorem Uh (hr : HR c H) (he : fC c e a) {cc x y : Operand} (h1 : aV cc = true) (h2 : aV x = true) (h3 : aV y = true) (ho : o.op = .pick cc x y)
  (h : bI e cc fun C=>(match C with
  | .tt=>bI e x fun A=>k A H
  | .ff=>bI e y fun A=>k A H
  | .bool b=>(b = true -> bI e x fun A=>k A H) /\ (b = false -> bI e y fun A=>k A H)
  | .dec p=>(p -> bI e x fun A=>k A H) /\ (¬ p -> bI e y fun A=>k A H)
  | _=>False)) : bQ P o a.eval c H k ks:=by
 obtain ⟨C,g1,g2⟩:=aG he h1 h
 have key : ∃ b,a.eval cc = .bool b /\ (b = true -> bI e x fun A=>k A H) /\ (b = false -> bI e y fun A=>k A H):=by
  split at g2
  ·exact ⟨true,rV g1,fun _=>g2,fun h=>by cases h⟩
  ·exact ⟨false,rW g1,(fun h=>by cases h),fun _=>g2⟩
  ·exact ⟨_,fQ g1,g2⟩
  ·obtain ⟨b,h4,h5⟩:=jP g1
   exact ⟨b,h4,fun hb=>g2.1 (h5.1 hb),fun hb=>g2.2 (fun hp=>by rw [h5.2 hp] at hb; cases hb)⟩
  ·exact g2.elim
 obtain ⟨b,hb,hy,hn⟩:=key
 have hrun:=Qg (P:=P) (c:=c) ho hb
 cases b with
 | true =>
   obtain ⟨A,h4,h5⟩:=aG he h2 (hy rfl)
   exact .pure hr hrun (by simpa using h4) h5
 | false =>
   obtain ⟨A,h4,h5⟩:=aG he h3 (hn rfl)
   exact .pure hr hrun (by simpa using h4) h5

theorem gK {op : BinOp} {t : Nat} {x y : Operand} {v u : Value} (h : ¬ (∃ cs ds,v = .agg cs /\ u = .agg ds))
  (h' : v = .nilIface -> u = .nilIface -> (op = .eql \/ op = .neq) -> (iR x || iR y) = true) : (eqGuard op t x y v u).run P c.w = .ok () c.w:=by
 unfold eqGuard
 cases op
 case eql =>
  simp only [Bool.not_true,Bool.false_eq_true,if_false]
  split
  ·have h3:=h' rfl rfl (.inl rfl)
   cases x <;> cases y <;> first | (simp [iR] at h3; done) | rfl
  ·exact absurd ⟨_,_,rfl,rfl⟩ h
  ·rfl
 case neq =>
  simp only [Bool.not_true,Bool.false_eq_true,if_false]
  split
  ·have h3:=h' rfl rfl (.inr rfl)
   cases x <;> cases y <;> first | (simp [iR] at h3; done) | rfl
  ·exact absurd ⟨_,_,rfl,rfl⟩ h
  ·rfl
 all_goals rfl

theorem iK {op : BinOp} {t ty : Nat} {x y : Operand} (ho : o.op = .binOp op t x y ty) {r : Value}
  (hg : (eqGuard op t x y (a.eval x) (a.eval y)).run P c.w = .ok () c.w) (h : (binOp op t (a.eval x) (a.eval y)).run P c.w = .ok r c.w) :
  (execOp a.eval o).run P c.w = .ok (.value r) c.w:=by
 unfold execOp; rw [ho]; simp only [Sem.run_bind,hg,Result.andThen_ok,h,Sem.run_pure]

theorem run_equalIn_bool {t : Nat} (ht : P.underlying t = some .bool) (d : Nat) (x y : Bool) (w : World) : (Op.equalIn (d + 1) t (.bool x) (.bool y)).run P w = .ok (x == y) w:=by
 simp only [Op.equalIn,Sem.run_bind,run_underlying ht,Result.andThen_ok,Sem.run_pure]

theorem run_equal_bool {t : Nat} (ht : P.underlying t = some .bool) (x y : Bool) (w : World) : (Op.equal t (.bool x) (.bool y)).run P w = .ok (x == y) w :=
 run_equalIn_bool ht 9999 x y w

theorem vP {t : Nat} {ms : Array (String × TypeId)} (ht : P.underlying t = some (.interface ms)) {v u : Value} {b : Bool}
  (h : (v = .nilIface /\ u = .nilIface /\ b = true) \/ (v = .nilIface /\ (∃ t x,u = .iface t x) /\ b = false) \/ ((∃ t x,v = .iface t x) /\ u = .nilIface /\ b = false)) (d : Nat) (w : World) :
  (Op.equalIn (d + 1) t v u).run P w = .ok b w:=by
 rcases h with ⟨rfl,rfl,rfl⟩ | ⟨rfl,⟨t,x,rfl⟩,rfl⟩ | ⟨⟨t,x,rfl⟩,rfl,rfl⟩ <;> simp only [Op.equalIn,Sem.run_bind,run_underlying ht,Result.andThen_ok,Sem.run_pure]

theorem qI {t : Nat} {ms : Array (String × TypeId)} (ht : P.underlying t = some (.interface ms)) {v u : Value} {b : Bool}
  (h : (v = .nilIface /\ u = .nilIface /\ b = true) \/ (v = .nilIface /\ (∃ t x,u = .iface t x) /\ b = false) \/ ((∃ t x,v = .iface t x) /\ u = .nilIface /\ b = false)) (w : World) :
  (Op.equal t v u).run P w = .ok b w:=vP ht h 9999 w

theorem zi {t el : Nat} (ht : P.underlying t = some (.pointer el)) (p : Option Addr) (d : Nat) (w : World) :
  (Op.equalIn (d + 1) t (.pointer p) (.pointer none)).run P w = .ok p.isNone w:=by
 cases p <;> simp only [Op.equalIn,Sem.run_bind,run_underlying ht,Result.andThen_ok,Sem.run_pure] <;> rfl

theorem uf {t el : Nat} (ht : P.underlying t = some (.pointer el)) (p : Option Addr) (w : World) :
  (Op.equal t (.pointer p) (.pointer none)).run P w = .ok p.isNone w:=zi ht p 9999 w

theorem yQ {d : TypeDesc} (h : descOf P d = .bool) : d = .bool:=by cases d <;> simp [descOf] at h; rfl
theorem wO {d : TypeDesc} (h : descOf P d = .iface) : ∃ ms,d = .interface ms:=by cases d <;> simp [descOf] at h; exact ⟨_,rfl⟩
theorem BO {d : TypeDesc} {n : Nat} (h : descOf P d = .ptr n) : d = .pointer n:=by cases d <;> simp [descOf] at h; subst h; rfl
theorem bC {d : TypeDesc} {n : Nat} (h : descOf P d = .slice n) : d = .slice n:=by cases d <;> simp [descOf] at h; subst h; rfl
theorem BP {d : TypeDesc} {kd : IntKind} (h : descOf P d = .int kd) : d = .int kd:=by cases d <;> simp [descOf] at h; subst h; rfl
theorem kJ {d : TypeDesc} (h : descOf P d = .str) : d = .string:=by cases d <;> simp [descOf] at h; rfl
theorem oD {d : TypeDesc} {fs : List (Nat × Nat × Nat)} (h : descOf P d = .struct fs) : ∃ gs,d = .struct gs /\ fs = gs.toList.map fun f=>(f.offset,P.cellsOf f.type,f.type):=by
 cases d <;> simp [descOf] at h; exact ⟨_,rfl,by simp [h]⟩
theorem BQ {d : TypeDesc} {n m : Nat} (h : descOf P d = .arr n m) : d = .array n m:=by cases d <;> simp [descOf] at h; obtain ⟨rfl,rfl⟩:=h; rfl
theorem ql {d : TypeDesc} {n m : Nat} (h : descOf P d = .map n m) : d = .map n m:=by cases d <;> simp [descOf] at h; obtain ⟨rfl,rfl⟩:=h; rfl

theorem S9 {d : TD} {op : BinOp} {hc : Bool} {ka kb : IntKind} {m n : Int} {k : AV -> Prop} (t : Nat) (w : World) (ha : qM ka m) (h : yA d op hc (.int ka m) (.int kb n) k) :
  ∃ r R,(binOp op t (.int ka m) (.int kb n)).run P w = .ok r w /\ VV c R r /\ k R:=by
 have hk : op ≠ .shl -> op ≠ .shr -> ka = kb:=by
  intro h1 h2
  unfold yA at h
  cases hq : nC ka kb with
  | true=>exact fJ hq
  | false=>exfalso; cases op <;> first | exact h1 rfl | exact h2 rfl | (simp only [hq] at h)
 have hq : nC ka ka = true:=by cases ka <;> rfl
 unfold yA at h
 cases op
 case shl =>
  simp only at h
  refine ⟨_,_,?_,cO (kd:=ka) (n:=zh ka m n) (kR _ _),h.2⟩
  have : ¬ n < 0:=by omega
  simp [binOp,Op.shift,this,zh]
 case shr =>
  simp only at h
  refine ⟨_,_,?_,cO (kd:=ka) (n:=qK ka m n) (Hr ha _),h.2⟩
  have : ¬ n < 0:=by omega
  simp [binOp,Op.shift,this,qK]
 all_goals
  obtain rfl:=hk (by simp) (by simp)
  simp only [hq] at h
 case add=>obtain ⟨R,h1,h2⟩:=lg (c:=c) h; exact ⟨_,R,by simp [binOp,Op.intArith],h1,h2⟩
 case sub=>obtain ⟨R,h1,h2⟩:=lg (c:=c) h; exact ⟨_,R,by simp [binOp,Op.intArith],h1,h2⟩
 case mul=>obtain ⟨R,h1,h2⟩:=lg (c:=c) h; exact ⟨_,R,by simp [binOp,Op.intArith],h1,h2⟩
 case quo=>obtain ⟨R,h1,h2⟩:=lg (c:=c) h.2; exact ⟨_,R,by simp [binOp,Op.intDiv,h.1],h1,h2⟩
 case rem=>exact ⟨_,_,by simp [binOp,Op.intDiv,h.1],cO (TG ha),h.2⟩
 case and=>exact ⟨_,_,by simp [binOp,Op.intBits,dF],cO (kd:=ka) (n:=dF .and ka m n) (kR _ _),h⟩
 case or=>exact ⟨_,_,by simp [binOp,Op.intBits,dF],cO (kd:=ka) (n:=dF .or ka m n) (kR _ _),h⟩
 case xor=>exact ⟨_,_,by simp [binOp,Op.intBits,dF],cO (kd:=ka) (n:=dF .xor ka m n) (kR _ _),h⟩
 case andNot=>exact ⟨_,_,by simp [binOp,Op.intBits,dF],cO (kd:=ka) (n:=dF .andNot ka m n) (kR _ _),h⟩
 case eql=>exact ⟨.bool (m == n),_,by simp [binOp,Op.intCmp],gQ (by simp),h⟩
 case neq=>exact ⟨.bool (m != n),_,by simp [binOp,Op.intCmp],gQ (by simp),h⟩
 case lss=>exact ⟨.bool (decide (m < n)),_,by simp [binOp,Op.intCmp],gQ (by simp),h⟩
 case leq=>exact ⟨.bool (decide (m <= n)),_,by simp [binOp,Op.intCmp],gQ (by simp),h⟩
 case gtr=>exact ⟨.bool (decide (m > n)),_,by simp [binOp,Op.intCmp],gQ (by simp),h⟩
 case geq=>exact ⟨.bool (decide (m ≥ n)),_,by simp [binOp,Op.intCmp],gQ (by simp),h⟩

theorem SY {d : TD} {op : BinOp} {hc : Bool} {p q : List UInt8} {k : AV -> Prop} (t : Nat) (w : World) (h : yA d op hc (.str p) (.str q) k) :
  ∃ r R,(binOp op t (.string ⟨p.toArray⟩) (.string ⟨q.toArray⟩)).run P w = .ok r w /\ VV c R r /\ k R:=by
 have e1 : ByteArray.toList ⟨p.toArray⟩ = p:=Ar p
 have e2 : ByteArray.toList ⟨q.toArray⟩ = q:=Ar q
 unfold yA at h
 cases op <;> simp only at h
 case add =>
  refine ⟨_,_,?_,Fa (s:=p ++ q) (by simpa using h.1),h.2⟩
  have h1 : ¬ (((⟨p.toArray⟩ : ByteArray).size + (⟨q.toArray⟩ : ByteArray).size : Nat) : Int) > IntKind.i64.max:=by
   have:=h.1
   simp [maxL] at this
   simp [ByteArray.size,IntKind.max,IntKind.signed,IntKind.bits]; omega
  simp only [binOp,Op.stringOp,h1,if_false,Sem.run_pure]
  congr 2
 case eql=>exact ⟨.bool (p == q),_,by simp [binOp,Op.stringOp,e1,e2],gQ (by simp),h⟩
 case neq=>exact ⟨.bool (!(p == q)),_,by simp [binOp,Op.stringOp,e1,e2],gQ (by simp),h⟩
 case lss=>exact ⟨_,_,by simp only [binOp,Op.stringOp,e1,e2,Sem.run_pure],kM _,h⟩

end
end Go.AL

namespace Go.AL

section
variable {P : Program} {L : Lay} {c : Cx} {H : Heap} {e : Env} {a : Act} {k : AV -> Heap -> Prop} {ks : Heap -> Prop} {o : Oper}

theorem dA {A : AV} {v : Value} (h : EV c A v) (hn : ∀ l,A ≠ .dS l) (hu : A ≠ .und) : VV c A v:=by
 cases A <;> first
  | exact h
  | exact absurd rfl (hn _)
  | exact absurd rfl hu

theorem Na {A B : AV} {k : AV -> Prop} (h : UG A B k) : (∀ l,A ≠ .dS l) /\ A ≠ .und /\ (∀ l,B ≠ .dS l) /\ B ≠ .und:=by
 refine ⟨?_,?_,?_,?_⟩ <;> intros <;> intro e <;> subst e <;> (first | (cases A <;> simp [UG,qL,CG] at h; done) | (cases B <;> simp [UG,qL,CG] at h; done))

theorem Eu {A B : AV} {k : AV -> Prop} (h : yL A B k) : (∀ l,A ≠ .dS l) /\ A ≠ .und /\ (∀ l,B ≠ .dS l) /\ B ≠ .und:=by
 unfold yL at h
 split at h <;> first | exact h.elim | (refine ⟨?_,?_,?_,?_⟩ <;> intros <;> intro e <;> cases e)

theorem AQ {A B : AV} {k : AV -> Prop} (h : qV A B k) : (∀ l,A ≠ .dS l) /\ A ≠ .und /\ (∀ l,B ≠ .dS l) /\ B ≠ .und:=by
 unfold qV at h
 split at h <;> first | exact h.elim | (refine ⟨?_,?_,?_,?_⟩ <;> intros <;> intro e <;> cases e)

theorem XB {op : BinOp} {t ty : Nat} {x y : Operand} (hr : HR c H) (ho : o.op = .binOp op t x y ty) {i : TI} (hT : lZ P t i) {A B : AV} (hA : EV c A (a.eval x)) (hB : EV c B (a.eval y))
  (h : SV i.desc op (iR x || iR y) A B fun R=>k R H) : bQ P o a.eval c H k ks:=by
 obtain ⟨d,hd,hdd⟩:=hT.under
 have fin : ∀ (b : Bool) (R : AV),(op = .eql \/ op = .neq) -> (Op.equal t (a.eval x) (a.eval y)).run P c.w = .ok b c.w ->
   (eqGuard op t x y (a.eval x) (a.eval y)).run P c.w = .ok () c.w -> (∀ k n k' n',a.eval x = .int k n -> a.eval y = .int k' n' -> False) -> (∀ s s',a.eval x = .string s -> a.eval y = .string s' -> False) ->
   (∀ k n k' n',a.eval x = .float k n -> a.eval y = .float k' n' -> False) -> (∀ k n m k' n' m',a.eval x = .complex k n m -> a.eval y = .complex k' n' m' -> False) ->
   VV c R (.bool (if op = .neq then !b else b)) -> k R H -> bQ P o a.eval c H k ks:=by
  intro b R hop hq hg h1 h2 h3 h4 hR hk
  refine .pure hr (iK ho hg ?_) (aS hR) hk
  rcases hop with rfl | rfl
  ·generalize a.eval x = v at *
   generalize a.eval y = u at *
   cases v <;> cases u <;> first
    | exact (h1 _ _ _ _ rfl rfl).elim | exact (h2 _ _ rfl rfl).elim | exact (h3 _ _ _ _ rfl rfl).elim | exact (h4 _ _ _ _ _ _ rfl rfl).elim
    | simp [binOp,hq]
  ·generalize a.eval x = v at *
   generalize a.eval y = u at *
   cases v <;> cases u <;> first
    | exact (h1 _ _ _ _ rfl rfl).elim | exact (h2 _ _ rfl rfl).elim | exact (h3 _ _ _ _ rfl rfl).elim | exact (h4 _ _ _ _ _ _ rfl rfl).elim
    | simp [binOp,hq]
 unfold SV at h
 split at h
 ·rename_i hi
  obtain rfl:=yQ (hdd.trans hi)
  obtain ⟨n1,n2,n3,n4⟩:=Na h
  obtain ⟨p,q,R,e1,e2,h3,h4⟩:=EO (dA hA n1 n2) (dA hB n3 n4) h
  rw [e1,e2] at fin
  exact fin (p == q) R (.inl rfl) (run_equal_bool hd _ _ _) (gK (by rintro ⟨_,_,h,_⟩; cases h) (by intro h; cases h)) (by intros; contradiction) (by intros; contradiction) (by intros; contradiction) (by intros; contradiction) (by simpa using h3) h4
 ·rename_i hi
  obtain rfl:=yQ (hdd.trans hi)
  obtain ⟨n1,n2,n3,n4⟩:=Na h
  obtain ⟨p,q,R,e1,e2,h3,h4⟩:=EO (dA hA n1 n2) (dA hB n3 n4) h
  obtain ⟨R',h5,h6⟩:=kG h3 h4
  rw [e1,e2] at fin
  exact fin (p == q) R' (.inr rfl) (run_equal_bool hd _ _ _) (gK (by rintro ⟨_,_,h,_⟩; cases h) (by intro h; cases h)) (by intros; contradiction) (by intros; contradiction) (by intros; contradiction) (by intros; contradiction) (by simpa using h5) h6
 ·rename_i hi
  obtain ⟨ms,rfl⟩:=wO (hdd.trans hi)
  split at h
  ·rename_i hc
   obtain ⟨n1,n2,n3,n4⟩:=Eu h
   obtain ⟨b,R,e1,h3,h4⟩:=yK (dA hA n1 n2) (dA hB n3 n4) h
   refine fin b R (.inl rfl) (qI hd e1 _) (gK ?_ (fun _ _ _=>hc)) ?_ ?_ ?_ ?_ (by simpa using h3) h4
   ·rintro ⟨_,_,h1,h2⟩
    rcases e1 with ⟨e1,e2,_⟩ | ⟨e1,⟨_,_,e2⟩,_⟩ | ⟨⟨_,_,e1⟩,e2,_⟩ <;> rw [e1] at h1 <;> cases h1
   all_goals
    intros
    rename_i h1 h2
    rcases e1 with ⟨e1,e2,_⟩ | ⟨e1,⟨_,_,e2⟩,_⟩ | ⟨⟨_,_,e1⟩,e2,_⟩ <;> rw [e1] at h1 <;> cases h1
  ·exact h.elim
 ·rename_i hi
  obtain ⟨ms,rfl⟩:=wO (hdd.trans hi)
  split at h
  ·rename_i hc
   obtain ⟨n1,n2,n3,n4⟩:=Eu h
   obtain ⟨b,R,e1,h3,h4⟩:=yK (dA hA n1 n2) (dA hB n3 n4) h
   obtain ⟨R',h5,h6⟩:=kG h3 h4
   refine fin b R' (.inr rfl) (qI hd e1 _) (gK ?_ (fun _ _ _=>hc)) ?_ ?_ ?_ ?_ (by simpa using h5) h6
   ·rintro ⟨_,_,h1,h2⟩
    rcases e1 with ⟨e1,e2,_⟩ | ⟨e1,⟨_,_,e2⟩,_⟩ | ⟨⟨_,_,e1⟩,e2,_⟩ <;> rw [e1] at h1 <;> cases h1
   all_goals
    intros
    rename_i h1 h2
    rcases e1 with ⟨e1,e2,_⟩ | ⟨e1,⟨_,_,e2⟩,_⟩ | ⟨⟨_,_,e1⟩,e2,_⟩ <;> rw [e1] at h1 <;> cases h1
  ·exact h.elim
 ·rename_i hi
  obtain rfl:=BO (hdd.trans hi)
  obtain ⟨n1,n2,n3,n4⟩:=AQ h
  obtain ⟨b,R,p,e1,e2,rfl,h3,h4⟩:=vW (dA hA n1 n2) (dA hB n3 n4) h
  rw [e1,e2] at fin
  exact fin p.isNone R (.inl rfl) (uf hd _ _) (gK (by rintro ⟨_,_,h,_⟩; cases h) (by intro h; cases h)) (by intros; contradiction) (by intros; contradiction) (by intros; contradiction) (by intros; contradiction) (by simpa using h3) h4
 ·rename_i hi
  obtain rfl:=BO (hdd.trans hi)
  obtain ⟨n1,n2,n3,n4⟩:=AQ h
  obtain ⟨b,R,p,e1,e2,rfl,h3,h4⟩:=vW (dA hA n1 n2) (dA hB n3 n4) h
  obtain ⟨R',h5,h6⟩:=kG h3 h4
  rw [e1,e2] at fin
  exact fin p.isNone R' (.inr rfl) (uf hd _ _) (gK (by rintro ⟨_,_,h,_⟩; cases h) (by intro h; cases h)) (by intros; contradiction) (by intros; contradiction) (by intros; contradiction) (by intros; contradiction) (by simpa using h5) h6
 ·exact h.elim

theorem Oj {z x y : AV} {w : World} {Im : Nat -> Nat -> Prop} {cs ds : List Value} (hx : iZ z x = true) (hy : iZ z y = true) (h1 : Rd w Im x cs) (h2 : Rd w Im y ds) :
  cs.length = 1 /\ ds.length = 1 /\ (cs = ds ↔ XZ x y):=by
 have hb : ∀ {A : AV} {c : List Value},iZ .ff A = true -> Rd w Im A c -> ∃ b,c = [.bool b] /\ (b = true ↔ Vw A):=by
  intro A c hA h
  cases A <;> first | (simp [iZ] at hA; done) | skip
  ·simp only [Rd] at h; exact ⟨_,h,by simp [Vw]⟩
  ·simp only [Rd] at h; exact ⟨_,h,by simp [Vw]⟩
  ·simp only [Rd] at h; exact ⟨_,h,by simp [Vw]⟩
  ·simp only [Rd] at h; exact h
 cases z <;> first | (simp [iZ] at hx; done) | skip
 ·obtain ⟨b,rfl,g1⟩:=hb hx h1
  obtain ⟨b',rfl,g2⟩:=hb hy h2
  refine ⟨rfl,rfl,?_⟩
  have he : XZ x y ↔ (Vw x ↔ Vw y):=by
   cases x <;> first | (simp [iZ] at hx; done) | skip
   all_goals cases y <;> first | (simp [iZ] at hy; done) | exact Iff.rfl
  rw [he,<- g1,<- g2]
  cases b <;> cases b' <;> simp
 ·cases x <;> first | (simp [iZ] at hx; done) | skip
  cases y <;> first | (simp [iZ] at hy; done) | skip
  obtain rfl:=fJ hx
  obtain rfl:=fJ hy
  simp only [Rd] at h1 h2
  obtain ⟨rfl,_⟩:=h1
  obtain ⟨rfl,_⟩:=h2
  simp [XZ]
 ·cases x <;> first | (simp [iZ] at hx; done) | skip
  cases y <;> first | (simp [iZ] at hy; done) | skip
  simp only [Rd] at h1 h2
  obtain ⟨rfl,_⟩:=h1
  obtain ⟨rfl,_⟩:=h2
  simp [XZ]

theorem En {w : World} {Im : Nat -> Nat -> Prop} : ∀ {zs l m : List AV} {cs ds : List Value},fU zs l = true -> fU zs m = true -> jY w Im l cs -> jY w Im m ds -> (cs = ds ↔ KU l m)
 | [],[],[],cs,ds,_,_,h1,h2=>by simp only [jY] at h1 h2; subst h1; subst h2; simp [KU]
 | [],[],_ :: _,_,_,_,h,_,_=>by simp [fU] at h
 | [],_ :: _,_,_,_,h,_,_,_=>by simp [fU] at h
 | _ :: _,[],_,_,_,h,_,_,_=>by simp [fU] at h
 | _ :: _,_ :: _,[],_,_,_,h,_,_=>by simp [fU] at h
 | z :: zs,x :: l,y :: m,cs,ds,hx,hy,h1,h2=>by
   simp only [fU] at hx hy
   cases qx : iZ z x with
   | false=>simp [qx] at hx
   | true =>
     cases qy : iZ z y with
     | false=>simp [qy] at hy
     | true =>
       rw [qx] at hx
       rw [qy] at hy
       simp only [jY] at h1 h2
       obtain ⟨a,b,rfl,g1,g2⟩:=h1
       obtain ⟨a',b',rfl,g3,g4⟩:=h2
       obtain ⟨k1,k2,k3⟩:=Oj qx qy g1 g3
       have ih:=En hx hy g2 g4
       simp only [KU]
       rw [<- k3,<- ih]
       constructor
       ·intro e; exact List.append_inj e (by omega)
       ·rintro ⟨rfl,rfl⟩; rfl

theorem Qe {z x : AV} {cs : List Value} (hx : iZ z x = true) (h : VR c x cs) : Rd c.w c.Im x cs:=by
 cases z <;> first | (simp [iZ] at hx; done) | skip
 all_goals cases x <;> first | (simp [iZ] at hx; done) | (simpa only [VR] using h)

theorem xG : ∀ {zs l : List AV} {cs : List Value},fU zs l = true -> kE c l cs -> jY c.w c.Im l cs
 | [],[],_,_,h=>by simpa only [kE,jY] using h
 | [],_ :: _,_,h,_=>by simp [fU] at h
 | _ :: _,[],_,h,_=>by simp [fU] at h
 | z :: zs,x :: l,cs,hx,h=>by
   simp only [fU] at hx
   cases qx : iZ z x with
   | false=>simp [qx] at hx
   | true =>
     rw [qx] at hx
     simp only [kE] at h
     obtain ⟨a,b,rfl,g1,g2⟩:=h
     simp only [jY]
     exact ⟨a,b,rfl,Qe qx g1,xG hx g2⟩

theorem Uk {op : BinOp} {t ty : Nat} {x y : Operand} (hr : HR c H) (ho : o.op = .binOp op t x y ty) {i : TI} (hT : lZ P t i) {A B : AV} (hA : EV c A (a.eval x)) (hB : EV c B (a.eval y))
  (h : JB i op A B fun R=>k R H) : bQ P o a.eval c H k ks:=by
 unfold JB at h
 split at h
 case h_2=>exact h.elim
 rename_i zs l m hc hz
 split at h
 case h_2=>exact h.elim
 rename_i q1 q2
 have E:=hT.Y4 hc zs hz
 obtain ⟨cs,e1⟩:=hA.1.1 rfl
 obtain ⟨ds,e2⟩:=hB.1.1 rfl
 have r1 : jY c.w c.Im l cs.toList:=by
  have:=hA.2; rw [e1] at this; exact xG q1 this
 have r2 : jY c.w c.Im m ds.toList:=by
  have:=hB.2; rw [e2] at this; exact xG q2 this
 obtain ⟨r,hrun,hiff⟩:=E.run c.w c.Im l m cs ds q1 q2 r1 r2
 have he:=En q1 q2 r1 r2
 have he : r = true ↔ KU l m:=by
  rw [hiff,<- he]
  constructor
  ·rintro rfl; rfl
  ·intro e; exact Array.toList_inj.1 e
 split at h
 ·refine .pure hr (v:=.bool r) (iK ho ?_ ?_) (aS (dJ rfl rfl ?_)) h
  ·rw [e1,e2]; exact run_eqGuard_agg c.w _ t x y cs ds E.grd
  ·rw [e1,e2,run_eql_struct]
   show ((Op.equal t _ _).run P c.w).andThen _ = _
   rw [hrun]; rfl
  ·simp only [VR,Rd]; exact ⟨r,rfl,he⟩
 ·refine .pure hr (v:=.bool (!r)) (iK ho ?_ ?_) (aS (dJ rfl rfl ?_)) h
  ·rw [e1,e2]; exact run_eqGuard_agg c.w _ t x y cs ds E.grd
  ·rw [e1,e2,run_neq_struct]
   show ((Op.equal t _ _).run P c.w).andThen _ = _
   rw [hrun]; rfl
  ·simp only [VR,Rd]; exact ⟨!r,rfl,by rw [<- he]; cases r <;> simp⟩
 ·exact h.elim

theorem Wh (hL : bW P L) {op : BinOp} {t ty : Nat} {x y : Operand} (hr : HR c H) (he : fC c e a) (hx : aV x = true) (hy : aV y = true) (ho : o.op = .binOp op t x y ty)
  (h : bI e x fun A=>bI e y fun B=>L.aW t fun i=>match cZ A with
   | true=>JB i op A B fun R=>k R H
   | false=>yA i.desc op (iR x || iR y) A B fun R=>k R H) : bQ P o a.eval c H k ks:=by
 obtain ⟨A,hA,h⟩:=aG he hx h
 obtain ⟨B,hB,h⟩:=aG he hy h
 obtain ⟨i,hT,h⟩:=Lay.aQ hL h
 cases hag : cZ A with
 | true=>rw [hag] at h; exact Uk hr ho hT hA hB h
 | false =>
 rw [hag] at h
 dsimp only at h
 by_cases h1 : (∃ ka m,A = .int ka m) /\ (∃ kb n,B = .int kb n)
 ·obtain ⟨⟨ka,m,rfl⟩,⟨kb,n,rfl⟩⟩:=h1
  obtain ⟨e1,r1⟩:=iP hA
  obtain ⟨e2,_⟩:=iP hB
  obtain ⟨r,R,h2,h3,h4⟩:=S9 (P:=P) t c.w r1 h
  refine .pure hr (iK ho ?_ (by rw [e1,e2]; exact h2)) (aS h3) h4
  rw [e1,e2]
  exact gK (by rintro ⟨_,_,h,_⟩; cases h) (by intro h; cases h)
 by_cases h2 : (∃ p,A = .str p) /\ (∃ q,B = .str q)
 ·obtain ⟨⟨p,rfl⟩,⟨q,rfl⟩⟩:=h2
  obtain ⟨e1,_⟩:=DF hA
  obtain ⟨e2,_⟩:=DF hB
  obtain ⟨r,R,h2,h3,h4⟩:=SY (P:=P) (c:=c) t c.w h
  refine .pure hr (iK ho ?_ (by rw [e1,e2]; exact h2)) (aS h3) h4
  rw [e1,e2]
  exact gK (by rintro ⟨_,_,h,_⟩; cases h) (by intro h; cases h)
 refine XB hr ho hT hA hB ?_
 unfold yA at h
 split at h
 ·exact absurd ⟨⟨_,_,rfl⟩,⟨_,_,rfl⟩⟩ h1
 ·exact absurd ⟨⟨_,rfl⟩,⟨_,rfl⟩⟩ h2
 ·exact h

end
end Go.AL

namespace Go.AL

theorem o8 {c : Cx} {sz : Nat} : ∀ {l : List AV} {cs : List Value} {j : Nat} {x : AV},yB c sz l cs -> l[j]? = some x ->
  ∃ pre xs post,cs = pre ++ xs ++ post /\ pre.length = j * sz /\ xs.length = sz /\ Rd c.w c.Im x xs /\
    ∀ y ys,Rd c.w c.Im y ys -> ys.length = sz -> yB c sz (l.set j y) (pre ++ ys ++ post)
 | [],_,_,_,_,h=>by simp at h
 | z :: l,cs,0,x,hr,h=>by
   obtain ⟨a,d,rfl,h2,h3,h4⟩:=hr
   obtain rfl : z = x:=by simpa using h
   refine ⟨[],a,d,by simp,by simp,h2,h3,fun y ys hy hl=>?_⟩
   exact ⟨ys,d,by simp,hl,hy,h4⟩
 | z :: l,cs,j + 1,x,hr,h=>by
   obtain ⟨a,d,rfl,h2,h3,h4⟩:=hr
   obtain ⟨pre,xs,post,rfl,h5,h6,h7,h8⟩:=o8 h4 (by simpa using h : l[j]? = some x)
   refine ⟨a ++ pre,xs,post,by simp,by simp [h2,h5,Nat.add_mul]; omega,h6,h7,fun y ys hy hl=>?_⟩
   exact ⟨a,pre ++ ys ++ post,by simp,h2,h3,h8 y ys hy hl⟩

theorem wu {α : Type} (pre xs post : List α) {j : Nat} {v : α} (h : xs[j]? = some v) : (pre ++ xs ++ post)[pre.length + j]? = some v:=by
 have hj : j < xs.length:=(List.getElem?_eq_some_iff.1 h).1
 rw [List.append_assoc,List.getElem?_append_right (by omega),Nat.add_sub_cancel_left,List.getElem?_append_left hj,h]

theorem C9 {a : Addr} (h : a.spot = none) : a = ⟨a.block,a.off,none⟩:=by cases a; simp_all

section
variable {P : Program} {L : Lay} {c : Cx} {H : Heap} {e : Env} {a : Act} {k : AV -> Heap -> Prop} {ks : Heap -> Prop} {o : Oper}

theorem Ik {t : Nat} {x : Operand} {ad : Addr} (ho : o.op = .load t x) (hx : a.eval x = .pointer (some ad)) {v : Value} (h : (loadVar t ad).run P c.w = .ok v c.w) :
  (execOp a.eval o).run P c.w = .ok (.value v) c.w:=by
 unfold execOp; rw [ho]
 simp only [Instr.loadAt,hx,Instr.sureAddr,Sem.run_bind,Sem.run_pure,Result.andThen_ok,h]

theorem yU (hL : bW P L) (hr : HR c H) {t : Nat} {A : AV} {v : Value} {k : AV -> Prop} (hA : EV c A v) (h : iU L t A H k) :
  ∃ ad r R,v = .pointer (some ad) /\ (loadVar t ad).run P c.w = .ok r c.w /\ VV c R r /\ k R:=by
 unfold iU at h
 split at h
 ·rename_i x
  obtain ⟨ad,ds,e1,hs,hc,hx⟩:=ND hA
  obtain ⟨_,i,hT,hf,hg,hk⟩:=iM hL h
  have hx' : VR c x ds:=gB _ _ hx
  refine ⟨ad,mkV x ds,x,e1,?_,He hx',hk⟩
  rw [C9 hs]
  exact nM hT hf hg hx' fun j v hj=>(hc j v hj).1
 ·rename_i i p off
  obtain ⟨hk,e1⟩:=uZ hA
  obtain ⟨ob,hob,h⟩:=dw.1 h
  have hok:=hr.oh hob
  split at h
  ·rename_i B
   obtain ⟨x,hp,h⟩:=jS.1 h
   obtain ⟨hoff,h⟩:=aX.1 h
   obtain ⟨_,ti,hT,hf,hg,hkk⟩:=iM hL h
   subst hoff
   obtain ⟨cs,ty,h1,h2,_⟩:=hok
   obtain ⟨pre,xs,post,rfl,h4,h5⟩:=Aa h2 hp
   refine ⟨_,mkV x xs,x,e1,?_,He h5,hkk⟩
   refine nM hT hf hg h5 fun j v hj=>?_
   rw [cell_of_heap h1,<- h4,List.getElem?_toArray]
   exact wu _ _ _ hj
  ·rename_i sz cap l
   split at h
   ·rename_i j
    obtain ⟨x,⟨_,hx⟩,hoff,h'⟩:=h.ex
    obtain ⟨_,ti,hT,hf,hg,hkk⟩:=iM hL h'
    subst hoff
    obtain ⟨cs,ty,h1,h2,h3,h4,h5,_⟩:=hok
    obtain ⟨pre,xs,post,rfl,h6,h7,h8,_⟩:=o8 h5 (by simpa using hx)
    have h8' : VR c x xs:=gB _ _ h8
    refine ⟨_,mkV x xs,x,e1,?_,He h8',hkk⟩
    refine nM hT hf hg h8' fun j v hj=>?_
    rw [cell_of_heap h1,<- h6,List.getElem?_toArray]
    exact wu _ _ _ hj
   ·rename_i j q _
    obtain ⟨x,⟨_,hx⟩,h⟩:=h.ex
    obtain ⟨y,hp,hoff,h'⟩:=jS.1 h
    obtain ⟨_,ti,hT,hf,hg,hkk⟩:=iM hL h'
    subst hoff
    obtain ⟨cs,ty,h1,h2,h3,h4,h5,_⟩:=hok
    obtain ⟨pre,xs,post,rfl,h6,h7,h8,_⟩:=o8 h5 (by simpa using hx)
    have h8' : VR c x xs:=gB _ _ h8
    obtain ⟨pre',xs',post',rfl,h9,h10⟩:=Aa h8' hp
    refine ⟨_,mkV y xs',y,e1,?_,He h10,hkk⟩
    refine nM hT hf hg h10 fun j v hj=>?_
    rw [cell_of_heap h1,<- h6,<- h9,List.getElem?_toArray]
    have:=wu (pre ++ pre') xs' (post' ++ post) hj
    simpa [List.append_assoc,Nat.add_assoc] using this
   ·exact h.elim
  ·exact h.elim
 ·exact h.elim

theorem Uj (hL : bW P L) {t : Nat} {x : Operand} (hr : HR c H) (he : fC c e a) (hx : aV x = true) (ho : o.op = .load t x)
  (h : bI e x fun A=>iU L t A H fun R=>k R H) : bQ P o a.eval c H k ks:=by
 obtain ⟨A,hA,h⟩:=aG he hx h
 obtain ⟨ad,r,R,e1,h1,h2,h3⟩:=yU hL hr hA h
 exact .pure hr (Ik ho e1 h1) (aS h2) h3

theorem pK {t : Nat} {x y : Operand} {ad : Addr} (ho : o.op = .store t x y) (hx : a.eval x = .pointer (some ad)) {w' : World} (h : (storeVar t ad (a.eval y)).run P c.w = .ok () w') :
  (execOp a.eval o).run P c.w = .ok .skip w':=by
 unfold execOp; rw [ho]
 simp only [Instr.storeAt,hx,Instr.sureAddr,Sem.run_bind,Sem.run_pure,Result.andThen_ok,h]

theorem qQ {A : AV} {k : AV -> Prop} (h : ug A k) : lN A = true /\ k (strip A):=by
 unfold ug at h
 split at h
 ·exact ⟨‹_›,h⟩
 ·exact h.elim

theorem nZ (pre xs post bs : List Value) (hl : bs.length = xs.length) :
  (pre ++ xs ++ post).take pre.length ++ bs ++ (pre ++ xs ++ post).drop (pre.length + bs.length) = pre ++ bs ++ post:=by
 have e1 : (pre ++ xs ++ post).take pre.length = pre:=by rw [List.append_assoc,List.take_left]
 have e2 : (pre ++ xs ++ post).drop (pre.length + bs.length) = post:=by rw [hl,<- List.length_append,List.drop_left]
 rw [e1,e2]

theorem Qm (hL : bW P L) {t : Nat} {x y : Operand} (hr : HR c H) (he : fC c e a) (hx : aV x = true) (hy : aV y = true) (ho : o.op = .store t x y)
  (h : bI e x fun A=>bI e y fun B=>CU L t A B H ks) : bQ P o a.eval c H k ks:=by
 obtain ⟨A,hA,h⟩:=aG he hx h
 obtain ⟨B,hB,h⟩:=aG he hy h
 unfold CU at h
 split at h
 ·rename_i i p off _
  obtain ⟨hk,e1⟩:=uZ hA
  obtain ⟨ob,hob,h⟩:=dw.1 h
  have hok:=hr.oh hob
  split at h
  ·rename_i _ A0
   obtain ⟨x0,hp,h⟩:=jS.1 h
   obtain ⟨hoff,h⟩:=aX.1 h
   obtain ⟨hval,ti,hT,hf,hg,h⟩:=iM hL h
   obtain ⟨hfl,h⟩:=aX.1 h
   obtain ⟨cs,ty,h1,h2,h3⟩:=hok
   have MV:=lK hB hval
   obtain ⟨A',x1,pre,xs,post,g1,rfl,g3,g4,g5,g6⟩:=nJ MV.2 h2 h
   obtain rfl : x0 = x1:=by rw [hp] at g1; exact Option.some.inj g1
   have hbl : (a.eval y).cells.toList.length = xs.length:=by rw [fE _ _ MV.2,fE _ _ g4,hfl]
   have hbs : (a.eval y).cells.size = xs.length:=by rw [<- hbl,Array.length_toList]
   obtain ⟨⟨_,_⟩,g7⟩:=fK.1 g6
   have hrun:=pO (P:=P) (w:=c.w) (v:=a.eval y) (off:=off) hT (by rw [<- hf,<- fE _ _ MV.2,Array.length_toList]) h1
    (by rw [<- hoff,<- g3,hbs]; simp) (kN _ _ MV.2)
   rw [<- hoff,<- g3,List.toList_toArray,<- Array.length_toList,nZ _ _ _ _ hbl] at hrun
   refine .inr (.inl ⟨{ c with w:=c.w.setRow (c.ρ i) (pre ++ (a.eval y).cells.toList ++ post).toArray },_,pK ho (by rw [e1,<- hoff,<- g3]) hrun,?_,g7⟩)
   refine Tr.write hr hob h1 (fun _=>rfl) (fun _=>rfl) h3 (by intros; simp) (by intros; simp) ?_
   have le : c.Le { c with w:=c.w.setRow (c.ρ i) (pre ++ (a.eval y).cells.toList ++ post).toArray }:=by
    refine ⟨fun b x h=>⟨h,fP (setRow_other c.w _ b _ (fun e=>h3 x (e ▸ h)))⟩,Nat.le_refl _,fun _ _=>rfl,fun _ _ _ h=>.inl ⟨h,rfl⟩⟩
   exact ⟨_,ty,setRow_heap c.w _ _ _ _ _ h1,lY le _ _ g5,h3⟩
  ·rename_i _ sz cap l
   split at h
   ·rename_i j _ _
    obtain ⟨hpu,h⟩:=qQ h
    obtain ⟨hsz,h⟩:=aX.1 h
    obtain ⟨hval,ti,hT,hf,hg,hj,hoff,h⟩:=iM hL h
    obtain ⟨cs,ty,h1,h2,h3,h4,h5,h6⟩:=hok
    have MV:=lK hB hval
    obtain ⟨x0,hx0⟩ : ∃ x0,l[j]? = some x0:=⟨_,List.getElem?_eq_getElem hj⟩
    obtain ⟨pre,xs,post,rfl,g3,g4,g5,g6⟩:=o8 h5 hx0
    have hbl : (a.eval y).cells.toList.length = xs.length:=by rw [fE _ _ MV.2,g4,hsz]
    have hbs : (a.eval y).cells.size = xs.length:=by rw [<- hbl,Array.length_toList]
    obtain ⟨⟨_,_⟩,g7⟩:=fK.1 h
    have hrun:=pO (P:=P) (w:=c.w) (v:=a.eval y) (off:=off) hT (by rw [<- hf,<- fE _ _ MV.2,Array.length_toList]) h1
     (by rw [hoff,<- g3,hbs]; simp) (kN _ _ MV.2)
    rw [hoff,<- g3,List.toList_toArray,<- Array.length_toList,nZ _ _ _ _ hbl] at hrun
    refine .inr (.inl ⟨{ c with w:=c.w.setRow (c.ρ i) (pre ++ (a.eval y).cells.toList ++ post).toArray },_,pK ho (by rw [e1,hoff,<- g3]) hrun,?_,g7⟩)
    refine Tr.write hr hob h1 (fun _=>rfl) (fun _=>rfl) h6 (by intros; simp) (by intros; simp) ?_
    have le : c.Le { c with w:=c.w.setRow (c.ρ i) (pre ++ (a.eval y).cells.toList ++ post).toArray }:=by
     refine ⟨fun b x h=>⟨h,fP (setRow_other c.w _ b _ (fun e=>h6 x (e ▸ h)))⟩,Nat.le_refl _,fun _ _=>rfl,fun _ _ _ h=>.inl ⟨h,rfl⟩⟩
    refine ⟨_,ty,setRow_heap c.w _ _ _ _ _ h1,?_,by simpa using h3,h4,lD le (g6 _ _ (ng _ _ hpu MV.2) (hbl.trans g4)),h6⟩
    rw [<- h2]; simp; omega
   ·rename_i j q _ _
    obtain ⟨x0,⟨_,hx0⟩,h⟩:=h.ex
    obtain ⟨y0,hp,hoff,h⟩:=jS.1 h
    obtain ⟨hval,ti,hT,hf,hg,h⟩:=iM hL h
    obtain ⟨hfl,h⟩:=aX.1 h
    obtain ⟨cs,ty,h1,h2,h3,h4,h5,h6⟩:=hok
    have MV:=lK hB hval
    obtain ⟨pre,ys,post,rfl,g3,g4,g5,g6⟩:=o8 h5 (by simpa using hx0)
    obtain ⟨A',x1,pre',xs,post',q1,rfl,q3,q4,q5,h⟩:=nJ MV.2 (gB _ _ g5) h
    obtain rfl : y0 = x1:=by rw [hp] at q1; exact Option.some.inj q1
    obtain ⟨hpu,h⟩:=qQ h
    have hbl : (a.eval y).cells.toList.length = xs.length:=by rw [fE _ _ MV.2,fE _ _ q4,hfl]
    have hbs : (a.eval y).cells.size = xs.length:=by rw [<- hbl,Array.length_toList]
    obtain ⟨⟨_,_⟩,g7⟩:=fK.1 h
    have hrow : pre ++ (pre' ++ xs ++ post') ++ post = (pre ++ pre') ++ xs ++ (post' ++ post):=by simp [List.append_assoc]
    have QU : off = (pre ++ pre').length:=by rw [hoff,<- g3,<- q3,List.length_append]
    have h1':=h1
    rw [hrow] at h1'
    have hrun:=pO (P:=P) (w:=c.w) (v:=a.eval y) (off:=off) hT (by rw [<- hf,<- fE _ _ MV.2,Array.length_toList]) h1'
     (by rw [QU,hbs]; simp; omega) (kN _ _ MV.2)
    rw [QU,List.toList_toArray,<- Array.length_toList,nZ _ _ _ _ hbl] at hrun
    refine .inr (.inl ⟨{ c with w:=c.w.setRow (c.ρ i) ((pre ++ pre') ++ (a.eval y).cells.toList ++ (post' ++ post)).toArray },_,pK ho (by rw [e1,QU]) hrun,?_,g7⟩)
    refine Tr.write hr hob h1 (fun _=>rfl) (fun _=>rfl) h6 (by intros; simp) (by intros; simp) ?_
    have le : c.Le { c with w:=c.w.setRow (c.ρ i) ((pre ++ pre') ++ (a.eval y).cells.toList ++ (post' ++ post)).toArray }:=by
     refine ⟨fun b x h=>⟨h,fP (setRow_other c.w _ b _ (fun e=>h6 x (e ▸ h)))⟩,Nat.le_refl _,fun _ _=>rfl,fun _ _ _ h=>.inl ⟨h,rfl⟩⟩
    have hl' : (pre' ++ (a.eval y).cells.toList ++ post').length = sz:=by rw [<- g4]; simp only [List.length_append]; omega
    refine ⟨_,ty,setRow_heap c.w _ _ _ _ _ h1,?_,by simpa using h3,h4,?_,h6⟩
    ·rw [<- h2]; simp only [List.length_append]; omega
    ·have:=lD le (g6 _ _ (ng _ _ hpu q5) hl')
     simpa only [List.append_assoc] using this
   ·exact h.elim
  ·exact h.elim
 ·exact h.elim
end
end Go.AL

namespace Go.AL

theorem uK : ∀ {zs : List AV} {n f : Nat} {z : AV},zs[f]? = some z -> (qU n zs)[f]? = some (n + gX (zs.take f),flat z)
 | [],_,_,_,h=>by simp at h
 | x :: l,n,0,z,h=>by
   obtain rfl : x = z:=by simpa using h
   simp [qU,gX]
 | x :: l,n,f + 1,z,h=>by
   simp only [qU,List.getElem?_cons_succ,List.take_succ_cons,gX]
   rw [uK (by simpa using h : l[f]? = some z),Nat.add_assoc]

section
variable {P : Program} {L : Lay} {c : Cx} {H : Heap} {e : Env} {a : Act} {k : AV -> Heap -> Prop} {ks : Heap -> Prop} {o : Oper}

theorem lZ.field {t f : Nat} {i : TI} {zs : List AV} {z : AV} (h : lZ P t i) (hd : ∃ fs,i.desc = .struct fs) (hz : i.zero = .ag zs) (hf : zs[f]? = some z) :
  ∃ gs fd,P.underlying t = some (.struct gs) /\ gs[f]? = some fd /\ fd.offset = gX (zs.take f) /\ P.cellsOf fd.type = flat z:=by
 obtain ⟨fs,hd⟩:=hd
 obtain ⟨d,h1,h2⟩:=h.under
 obtain ⟨gs,rfl,hfs⟩:=oD (h2.trans hd)
 obtain ⟨zs',hz',h3⟩:=h.XY fs hd
 rw [hz] at hz'
 cases hz'
 subst hfs
 have h4:=uK (n:=0) hf
 rw [<- h3] at h4
 simp only [List.map_map,List.getElem?_map,Array.getElem?_toList] at h4
 cases hg : gs[f]? with
 | none=>simp [hg] at h4
 | some fd =>
   simp [hg] at h4
   exact ⟨gs,fd,h1,hg,h4.1,h4.2⟩

theorem xH {t : Nat} {n : Nat} (h : P.cellsOf t = n + 1) (w : World) : (sizeOf t).run P w = .ok (n + 1) w:=by
 unfold Program.cellsOf at h
 cases hi : P.info? t with
 | none=>simp [hi] at h
 | some x=>simp [hi] at h; unfold sizeOf typeInfo; simp [hi,h]

theorem addr_add (b off n : Nat) : (⟨b,off,none⟩ : Addr).add n = ⟨b,off + n,none⟩:=by
 unfold Addr.add; split
 ·rename_i h; subst h; rfl
 ·rfl

theorem Fh {w : World} {Im : Nat -> Nat -> Prop} : ∀ {l : List AV} {cs : List Value} {i : Nat} {x : AV},jY w Im l cs -> l[i]? = some x ->
  ∃ pre xs post,cs = pre ++ xs ++ post /\ pre.length = gX (l.take i) /\ Rd w Im x xs
 | [],_,_,_,_,h=>by simp at h
 | z :: l,cs,0,x,hr,h=>by
   simp only [jY] at hr
   obtain ⟨a,d,rfl,h2,h3⟩:=hr
   obtain rfl : z = x:=by simpa using h
   exact ⟨[],a,d,by simp,by simp [gX],h2⟩
 | z :: l,cs,i + 1,x,hr,h=>by
   simp only [jY] at hr
   obtain ⟨a,d,rfl,h2,h3⟩:=hr
   obtain ⟨pre,xs,post,rfl,h5,h6⟩:=Fh h3 (by simpa using h : l[i]? = some x)
   exact ⟨a ++ pre,xs,post,by simp,by simp [gX,bV _ _ h2,h5],h6⟩

theorem Jg {w : World} {Im : Nat -> Nat -> Prop} {b off : Nat} {pre xs post : List Value} (h : jd w Im b off (pre ++ xs ++ post)) : jd w Im b (off + pre.length) xs:=by
 intro j v hj
 have:=h (pre.length + j) v (wu pre xs post hj)
 rw [Nat.add_assoc]; exact this

theorem JD {x : AV} {b off : Nat} {ds : List Value} (hc : jd c.w c.Im b off ds) (hx : Rd c.w c.Im x ds) : VV c (.cp x) (.pointer (some ⟨b,off,none⟩)) :=
 dJ rfl rfl (by simp only [VR,Rd]; exact ⟨_,ds,rfl,rfl,hc,hx⟩)

theorem oZ {i off : Nat} {p : List Nat} (h : i < c.nx) : VV c (.ptr i p off) (.pointer (some ⟨c.ρ i,off,none⟩)) :=
 dJ rfl rfl (by simp only [VR]; exact ⟨h,trivial⟩)

theorem FY (hL : bW P L) {t f : Nat} {x : Operand} (hr : HR c H) (he : fC c e a) (hx : aV x = true) (ho : o.op = .fieldAddr t x f)
  (h : bI e x fun A=>yw L t A f fun R=>k R H) : bQ P o a.eval c H k ks:=by
 obtain ⟨A,hA,h⟩:=aG he hx h
 unfold yw at h
 obtain ⟨i,hT,h⟩:=Lay.aQ hL h
 have run : ∀ (b off : Nat) (zs : List AV) (z : AV) (n : Nat),(∃ fs,i.desc = .struct fs) -> i.zero = .ag zs -> zs[f]? = some z -> flat z = n + 1 -> a.eval x = .pointer (some ⟨b,off,none⟩) ->
   (execOp a.eval o).run P c.w = .ok (.value (.pointer (some ⟨b,off + gX (zs.take f),none⟩))) c.w:=by
  intro b off zs z n hd hz hf hn hp
  obtain ⟨gs,fd,h1,h2,h3,h4⟩:=hT.field hd hz hf
  unfold execOp; rw [ho]
  simp only [Instr.fieldAt,hp,Instr.sureAddr,Sem.run_bind,run_underlying h1,Result.andThen_ok,h2,Sem.run_pure,fieldPlace,xH (h4.trans hn)]
  simp [addr_add,h3]
 split at h
 ·rename_i fs zs hd hz
  split at h
  ·rename_i l
   obtain ⟨hfl,h⟩:=aX.1 h
   obtain ⟨z,hf,h⟩:=iG.1 h
   split at h
   ·exact h.elim
   ·rename_i n hn
    obtain ⟨y,hy,h⟩:=iG.1 h
    obtain ⟨ad,ds,e1,e2,hc,hrd⟩:=ND hA
    simp only [Rd] at hrd
    obtain ⟨pre,xs,post,rfl,h5,h6⟩:=Fh hrd hy
    rw [C9 e2] at e1
    refine .pure hr (run _ _ zs z n ⟨_,hd⟩ hz hf hn e1) (aS (JD ?_ h6)) h
    rw [<- hfl,<- h5]
    exact Jg hc
  ·rename_i j p off
   obtain ⟨z,hf,h⟩:=iG.1 h
   split at h
   ·exact h.elim
   ·rename_i n hn
    have h:=sG.1 h
    obtain ⟨hk,e1⟩:=uZ hA
    exact .pure hr (run _ _ zs z n ⟨_,hd⟩ hz hf hn e1) (aS (oZ hk)) h
  ·exact h.elim
 ·exact h.elim

theorem sJ {kd : IntKind} {n : Int} {w : World} : (asIntOf (.int kd n)).run P w = .ok (kd,n) w:=rfl

theorem lM {t el : Nat} {x y : Operand} {ei : TI} (ho : o.op = .indexAddr t x y) (ht : P.underlying t = some (.slice el)) (hE : lZ P el ei) {ad : Addr} {len cap : Nat} {kd : IntKind} {n : Int}
  (hx : a.eval x = .slice (some ad) len cap) (hy : a.eval y = .int kd n) (h0 : 0 <= n) (h1 : n < (len : Int)) :
  (execOp a.eval o).run P c.w = .ok (.value (.pointer (some (ad.add (n.toNat * flat ei.zero))))) c.w:=by
 unfold execOp; rw [ho]
 simp only [Instr.indexAt,hx,hy,Sem.run_bind,sJ,Result.andThen_ok,run_underlying ht,Sem.run_pure,h0,h1,and_self,if_true,hE.kT]

theorem vO {t el m : Nat} {x y : Operand} {ei : TI} (ho : o.op = .indexAddr t x y) (ht : P.underlying t = some (.array m el)) (hE : lZ P el ei) {ad : Addr} {kd : IntKind} {n : Int}
  (hx : a.eval x = .pointer (some ad)) (hy : a.eval y = .int kd n) (h0 : 0 <= n) (h1 : n < (m : Int)) :
  (execOp a.eval o).run P c.w = .ok (.value (.pointer (some (ad.add (n.toNat * flat ei.zero))))) c.w:=by
 unfold execOp; rw [ho]
 simp only [Instr.indexAt,hx,hy,Sem.run_bind,sJ,Result.andThen_ok,run_underlying ht,Instr.sureAddr,Sem.run_pure,h0,h1,and_self,if_true,hE.kT]

theorem FX (hL : bW P L) {t : Nat} {x y : Operand} (hr : HR c H) (he : fC c e a) (hx : aV x = true) (hy : aV y = true) (ho : o.op = .indexAddr t x y)
  (h : bI e x fun A=>bI e y fun I=>kL L t A I fun R=>k R H) : bQ P o a.eval c H k ks:=by
 obtain ⟨A,hA,h⟩:=aG he hx h
 obtain ⟨I,hI,h⟩:=aG he hy h
 unfold kL at h
 split at h
 ·rename_i kd n
  obtain ⟨e2,_⟩:=iP hI
  obtain ⟨i,hT,h⟩:=Lay.aQ hL h
  obtain ⟨d,hd,hdd⟩:=hT.under
  split at h
  ·rename_i el sz l tok hi _ _
   obtain rfl:=bC (hdd.trans hi)
   obtain ⟨ei,hE,h⟩:=Lay.aQ hL h
   obtain ⟨hsz,hix⟩:=aX.1 h
   subst hsz
   obtain ⟨z,⟨h0,hz⟩,hk⟩:=hix.ex
   have hlt : n.toNat < l.length:=(List.getElem?_eq_some_iff.1 hz).1
   rcases (Dh hA).2 with ⟨rfl,_⟩ | ⟨ad,cap,e1,_,_,hs,hre⟩
   ·simp at hlt
   ·obtain ⟨cs,g1,g2,g3⟩:=NQ hre hz
    have hsp:=hs (by intro e; subst e; simp at hlt)
    rw [C9 hsp] at e1
    have hrun:=lM (P:=P) (c:=c) ho hd hE e1 e2 h0 (by omega)
    rw [addr_add] at hrun
    exact .pure hr hrun (aS (JD g2 g3)) hk
  ·rename_i el j off len cap sz hi _ _
   obtain rfl:=bC (hdd.trans hi)
   obtain ⟨ei,hE,h⟩:=Lay.aQ hL h
   obtain ⟨rfl,⟨h0,h1⟩,hk⟩:=aX.1 h
   obtain ⟨hj,e1,_⟩:=uD hA
   have hrun:=lM (P:=P) (c:=c) ho hd hE e1 e2 h0 h1
   rw [addr_add,<- Nat.add_mul] at hrun
   exact .pure hr hrun (aS (oZ hj)) hk
  ·rename_i m el j p off hi _ _
   obtain rfl:=BQ (hdd.trans hi)
   obtain ⟨ei,hE,⟨h0,h1⟩,h⟩:=Lay.aQ hL h
   have hk:=sG.1 h
   obtain ⟨hj,e1⟩:=uZ hA
   have hrun:=vO (P:=P) (c:=c) ho hd hE e1 e2 h0 h1
   rw [addr_add] at hrun
   exact .pure hr hrun (aS (oZ hj)) hk
  ·exact h.elim
 ·exact h.elim

theorem Qs (hL : bW P L) {t : Nat} {x y : Operand} (hr : HR c H) (he : fC c e a) (hx : aV x = true) (hy : aV y = true) (ho : o.op = .index t x y)
  (h : bI e x fun A=>bI e y fun I=>yu L t A I fun R=>k R H) : bQ P o a.eval c H k ks:=by
 obtain ⟨A,hA,h⟩:=aG he hx h
 obtain ⟨I,hI,h⟩:=aG he hy h
 have h' : ∃ s kd n,A = .str s /\ I = .int kd n /\ L.aW t fun i=>(match i.desc with
  | .str=>iY s n fun b=>k (.int .u8 b.toNat) H
  | _=>False):=by
  unfold yu at h
  cases A <;> cases I <;> first | exact h.elim | exact ⟨_,_,_,rfl,rfl,h⟩
 clear h
 obtain ⟨s,kd,n,rfl,rfl,h⟩:=h'
 ·obtain ⟨e2,_⟩:=iP hI
  obtain ⟨e1,_⟩:=DF hA
  obtain ⟨i,hT,h⟩:=Lay.aQ hL h
  obtain ⟨d,hd,hdd⟩:=hT.under
  split at h
  ·rename_i hi
   obtain rfl:=kJ (hdd.trans hi)
   obtain ⟨b,⟨h0,hb⟩,hk⟩:=h.ex
   refine .pure hr (v:=.int .u8 b.toNat) ?_ (aS (cO ?_)) hk
   ·have hlt : n.toNat < s.length:=(List.getElem?_eq_some_iff.1 hb).1
    have hs : (⟨s.toArray⟩ : ByteArray)[n.toNat]? = some b:=by
     rw [List.getElem?_eq_getElem hlt] at hb
     have h2 : n.toNat < (⟨s.toArray⟩ : ByteArray).size:=by simpa [ByteArray.size] using hlt
     rw [getElem?_pos (⟨s.toArray⟩ : ByteArray) n.toNat h2]
     exact hb
    unfold execOp; rw [ho]
    simp only [Instr.index,e1,e2,Sem.run_bind,sJ,Result.andThen_ok,run_underlying hd,h0,if_true,hs,Sem.run_pure]
   ·have:=b.toNat_lt
    simp [qM,IntKind.min,IntKind.max,IntKind.signed,IntKind.bits]; omega
  ·exact h.elim

theorem Iq {x : Operand} (hr : HR c H) (he : fC c e a) (hx : aV x = true) (ho : o.op = .nilCheck x)
  (h : bI e x fun A=>(match A with
  | .ptr _ _ _=>k A H
  | .cp _=>k A H
  | .fn _ _=>k A H
  | _=>False)) : bQ P o a.eval c H k ks:=by
 obtain ⟨A,hA,h⟩:=aG he hx h
 have run : ∀ v,a.eval x = v -> ((∃ ad,v = .pointer (some ad)) \/ (∃ f x y,v = .func (.func f) x y)) -> (execOp a.eval o).run P c.w = .ok (.value v) c.w:=by
  rintro v hv (⟨ad,rfl⟩ | ⟨f,x,y,rfl⟩) <;> (unfold execOp; rw [ho]; simp only [hv]; rfl)
 split at h
 ·obtain ⟨_,e1⟩:=uZ hA
  exact .pure hr (run _ rfl (.inl ⟨_,e1⟩)) hA h
 ·obtain ⟨ad,ds,e1,_⟩:=ND hA
  exact .pure hr (run _ rfl (.inl ⟨_,e1⟩)) hA h
 ·obtain ⟨vs,e1,_⟩:=Td hA
  exact .pure hr (run _ rfl (.inr ⟨_,_,_,e1⟩)) hA h
 ·exact h.elim

theorem Tn : ∀ {l : List AV} {vs : List Value} {i : Nat} {x : AV},VA c l vs -> l[i]? = some x -> ∃ v,vs[i]? = some v /\ VV c x v
 | [],_,_,_,_,h=>by simp at h
 | y :: l,vs,0,x,hr,h=>by
   simp only [VA] at hr
   obtain ⟨v,r,rfl,h2,h3,h4⟩:=hr
   obtain rfl : y = x:=by simpa using h
   exact ⟨v,rfl,h2,h3⟩
 | y :: l,vs,i + 1,x,hr,h=>by
   simp only [VA] at hr
   obtain ⟨v,r,rfl,h2,h3,h4⟩:=hr
   obtain ⟨u,g1,g2⟩:=Tn (l:=l) (i:=i) h4 (by simpa using h)
   exact ⟨u,by simpa using g1,g2⟩

theorem KA {x : Operand} {i : Nat} (hr : HR c H) (he : fC c e a) (hx : aV x = true) (ho : o.op = .extract x i)
  (h : bI e x fun A=>(match A with
  | .dS l=>ny l i fun R=>k R H
  | _=>False)) : bQ P o a.eval c H k ks:=by
 obtain ⟨A,hA,h⟩:=aG he hx h
 split at h
 ·obtain ⟨R,hR,h⟩:=iG.1 h
  obtain ⟨vs,e1,h2⟩:=hA
  obtain ⟨v,h3,h4⟩:=Tn h2 hR
  refine .pure hr (v:=v) ?_ (aS h4) h
  unfold execOp; rw [ho]
  rw [Array.getElem?_toList] at h3
  simp only [Instr.extract,e1,h3,Sem.run_bind,Sem.run_pure,Result.andThen_ok]
 ·exact h.elim

theorem Ug {op : UnOp} {t : Nat} {x : Operand} (hr : HR c H) (he : fC c e a) (hx : aV x = true) (ho : o.op = .unOp op t x)
  {F : FT} {gU : AV -> Prop} (h : gq F gU L (.unOp op t x) e H k ks) : bQ P o a.eval c H k ks:=by
 simp only [gq] at h
 cases op with
 | not =>
   obtain ⟨A,hA,h⟩:=aG he hx h
   have h : qL A fun R=>k R H:=h
   have hn : (∀ l,A ≠ .dS l) /\ A ≠ .und:=by
    refine ⟨?_,?_⟩ <;> intros <;> intro e <;> subst e <;> simp [qL] at h
   have hV:=dA hA hn.1 hn.2
   obtain ⟨b,hb⟩:=xK hV h
   rw [hb] at hV
   obtain ⟨R,h1,h2⟩:=kG hV h
   refine .pure hr (v:=.bool !b) ?_ (aS h1) h2
   unfold execOp; rw [ho]
   simp only [Op.unary,hb,Sem.run_bind,Sem.run_pure,Result.andThen_ok]
 | neg =>
   obtain ⟨A,hA,h⟩:=aG he hx h
   have h' : ∃ ka n,A = .int ka n /\ arith ka (0 - n) fun R=>k R H:=by
    cases A <;> first | exact h.elim | exact ⟨_,_,rfl,h⟩
   obtain ⟨ka,n,rfl,h⟩:=h'
   obtain ⟨e1,_⟩:=iP hA
   obtain ⟨R,h1,h2⟩:=lg (c:=c) h
   refine .pure hr ?_ (aS h1) h2
   unfold execOp; rw [ho]
   simp only [Op.unary,e1,Op.intArith,Sem.run_bind,Sem.run_pure,Result.andThen_ok]
 | xor=>obtain ⟨A,hA,h⟩:=aG he hx h; exact h.elim
 | plus=>obtain ⟨A,hA,h⟩:=aG he hx h; exact h.elim

end
end Go.AL

namespace Go.AL

section
variable {P : Program} {L : Lay} {c : Cx} {H : Heap} {e : Env} {a : Act} {k : AV -> Heap -> Prop} {ks : Heap -> Prop} {o : Oper}

theorem Qk (hr : HR c H) {A : AV} {v : Value} (t : Nat) (hv : VV c A v) :
  Tr c H (c.push (.cells v.cells t) ((nextId H,.box A) :: H)) ((nextId H,.box A) :: H):=by
 refine Tr.push hr _ _ (fun _=>rfl) ?_
 refine ⟨v.cells.toList,t,?_,lY (FV hr _ _) _ _ hv.2,?_⟩
 ·rw [nNρ hr]; simp only [Cx.push,Array.toArray_toList]; exact alloc_heap_new _ _
 ·intro x hx
  rw [nNρ hr] at hx
  have:=hr.im _ _ hx
  omega

theorem Qo (hr : HR c H) {A : AV} {v : Value} (t : Nat) (hv : VV c A v) (hrun : (execOp a.eval o).run P c.w = .ok (.value (.pointer (some ⟨c.w.heap.size,0,none⟩))) (c.w.alloc (.cells v.cells t)))
  (h : mM H (.box A) fun j H'=>k (.ptr j [] 0) H') : bQ P o a.eval c H k ks:=by
 have h:=dO.1 h
 have htr:=Qk hr t hv
 refine .inl ⟨_,c.push (.cells v.cells t) ((nextId H,.box A) :: H),_,_,hrun,htr,?_,h⟩
 have:=oZ (c:=c.push (.cells v.cells t) ((nextId H,.box A) :: H)) (i:=nextId H) (off:=0) (p:=[]) (by simp only [Cx.push,hr.nx]; omega)
 rw [nNρ hr] at this
 exact aS this

theorem Qx (hL : bW P L) {t : Nat} (hr : HR c H) (ho : o.op = .alloc t) (h : L.aW t fun i=>mM H (.box i.zero) fun j H'=>k (.ptr j [] 0) H') : bQ P o a.eval c H k ks:=by
 obtain ⟨i,hT,h⟩:=Lay.aQ hL h
 obtain ⟨v,h1,h2,h3⟩:=hT.qO c.w
 refine Qo hr t (A:=i.zero) (v:=v) ⟨h2,gB _ _ (h3 _ _)⟩ ?_ h
 unfold execOp; rw [ho]
 simp only [Instr.alloc,Sem.run_bind,h1,Result.andThen_ok,newVar,newRow,run_newObj,Sem.run_pure,World.alloc_eq]

theorem V9 (hL : bW P L) {t : Nat} {x : Operand} (hr : HR c H) (he : fC c e a) (hx : aV x = true) (ho : o.op = .box t x)
  (h : bI e x fun A=>uS L t A (mM H (.box A) fun j H'=>k (.ptr j [] 0) H')) : bQ P o a.eval c H k ks:=by
 obtain ⟨A,hA,h⟩:=aG he hx h
 obtain ⟨hval,i,hT,_,_,h⟩:=iM hL h
 refine Qo hr t (lK hA hval) ?_ h
 unfold execOp; rw [ho]
 simp only [Instr.box,Sem.run_bind,Result.andThen_ok,newVar,newRow,run_newObj,Sem.run_pure,World.alloc_eq]

theorem ji {x : Option Operand} {d : Int} {k : Int -> Prop} (he : fC c e a) (hx : x.all aV = true) (h : rO e x d k) :
  ∃ n,k n /\ ((x = none /\ n = d) \/ ∃ y kd,x = some y /\ a.eval y = .int kd n):=by
 cases x with
 | none=>exact ⟨d,h,.inl ⟨rfl,rfl⟩⟩
 | some y =>
   obtain ⟨A,hA,h⟩:=aG he (by simpa using hx) h
   cases A <;> first | exact h.elim | exact ⟨_,h,.inr ⟨_,_,rfl,(iP hA).1⟩⟩

theorem run_sliceBound {kd : IntKind} {n : Int} {m : Nat} {w : World} {cd : BoundsCode} (h0 : 0 <= n) (h1 : n <= (m : Int)) : (Instr.sliceBound (.int kd n) m cd).run P w = .ok n.toNat w:=by
 unfold Instr.sliceBound
 simp only [Sem.run_bind,sJ,Result.andThen_ok,h0,h1,and_self,if_true,Sem.run_pure]

theorem iQ {b : Bool} {len cap : Nat} {lo hi : Option Operand} {w : World} {l h : Int} (hlc : len <= cap)
  (hl : (lo = none /\ l = 0) \/ ∃ y kd,lo = some y /\ a.eval y = .int kd l) (hh : (hi = none /\ h = (len : Int)) \/ ∃ y kd,hi = some y /\ a.eval y = .int kd h)
  (h0 : 0 <= l) (h1 : l <= h) (h2 : h <= (len : Int)) : (Instr.sliceBounds b len cap (lo.map a.eval) (hi.map a.eval) none).run P w = .ok (l.toNat,h.toNat,cap) w:=by
 unfold Instr.sliceBounds
 rcases hh with ⟨rfl,rfl⟩ | ⟨y,kd,rfl,ey⟩ <;> rcases hl with ⟨rfl,rfl⟩ | ⟨z,kd',rfl,ez⟩
 ·simp only [Option.map_none,Sem.run_bind,Sem.run_pure,Result.andThen_ok]; rfl
 ·simp only [Option.map_none,Option.map_some,Sem.run_bind,Sem.run_pure,Result.andThen_ok,ez,run_sliceBound h0 h1,Int.toNat_natCast]
 ·simp only [Option.map_none,Option.map_some,Sem.run_bind,Sem.run_pure,Result.andThen_ok,ey]
  rw [run_sliceBound (by omega) (by omega)]; rfl
 ·simp only [Option.map_some,Sem.run_bind,Sem.run_pure,Result.andThen_ok,ey,ez]
  rw [run_sliceBound (by omega) (by omega)]
  simp only [Result.andThen_ok]
  rw [run_sliceBound h0 (by omega)]; rfl

theorem Qn (hL : bW P L) {t : Nat} {x : Operand} {lo hi : Option Operand} (hr : HR c H) (he : fC c e a) (hx : aV x = true) (hlo : lo.all aV = true) (hhi : hi.all aV = true)
  (ho : o.op = .slice t x lo hi none) (h : bI e x fun A=>aslice L t e A lo hi fun R=>k R H) : bQ P o a.eval c H k ks:=by
 obtain ⟨A,hA,h⟩:=aG he hx h
 unfold aslice at h
 obtain ⟨i,hT,h⟩:=Lay.aQ hL h
 obtain ⟨d,hd,hdd⟩:=hT.under
 split at h
 ·rename_i s hi' _
  obtain rfl:=kJ (hdd.trans hi')
  obtain ⟨e1,hs⟩:=DF hA
  obtain ⟨l,h,hl⟩:=ji he hlo h
  obtain ⟨m,h,hm⟩:=ji he hhi h
  obtain ⟨⟨h0,h1,h2⟩,hk⟩:=h.ex
  refine .pure hr (v:=.string ⟨((s.drop l.toNat).take (m.toNat - l.toNat)).toArray⟩) ?_ (aS (Fa ?_)) hk
  ·have hsz : (⟨s.toArray⟩ : ByteArray).size = s.length:=by simp [ByteArray.size]
   unfold execOp; rw [ho]
   simp only [Instr.sliceAt,Instr.slice,e1,Sem.run_bind,run_underlying hd,Result.andThen_ok,Option.isSome_none,Bool.false_eq_true,if_false,hsz,Sem.run_pure,Option.map_none]
   rw [iQ (P:=P) (a:=a) (Nat.le_refl _) hl hm h0 h1 h2]
   simp only [Result.andThen_ok]
   congr 3
   apply ByteArray.ext
   simp [ByteArray.data_extract]
  ·have : ((s.drop l.toNat).take (m.toNat - l.toNat)).length <= s.length:=by simp; omega
   omega
 ·rename_i el sz l tok hi' _
  obtain rfl:=bC (hdd.trans hi')
  obtain ⟨ei,hE,h⟩:=Lay.aQ hL h
  obtain ⟨hsz,h⟩:=aX.1 h
  subst hsz
  obtain ⟨p,h,hp⟩:=ji he hlo h
  obtain ⟨q,h,hq⟩:=ji he hhi h
  obtain ⟨⟨h0,h1,h2⟩,hk⟩:=h.ex
  obtain ⟨hml,hv⟩:=Dh hA
  have hlen : ((l.drop p.toNat).take (q.toNat - p.toNat)).length = q.toNat - p.toNat:=by simp; omega
  rcases hv with ⟨rfl,e1⟩ | ⟨ad,cap,e1,hc1,hc2,hs,hre⟩
  ·have hp0 : p = 0:=by simp at h2; omega
   have hq0 : q = 0:=by simp at h2; omega
   subst hp0; subst hq0
   refine .pure hr (v:=.slice none 0 0) ?_ (aS (dJ rfl rfl ?_)) hk
   ·unfold execOp; rw [ho]
    simp only [Instr.sliceAt,Instr.slice,e1,Sem.run_bind,run_underlying hd,Result.andThen_ok,Option.map_none]
    rw [iQ (P:=P) (a:=a) (Nat.le_refl _) hp (h:=0) (by rcases hq with ⟨h1,_⟩ | h1; exact .inl ⟨h1,rfl⟩; exact .inr h1) (by omega) (by omega) (by simp)]
    simp only [Result.andThen_ok,hE.kT]
    rfl
   ·simp only [VR,Rd]; exact ⟨by simp,.inl ⟨by simp,trivial⟩⟩
  ·refine .pure hr (v:=.slice (if cap = p.toNat then some ad else some (ad.add (p.toNat * flat ei.zero))) (q.toNat - p.toNat) (cap - p.toNat)) ?_ (aS (dJ rfl rfl ?_)) hk
   ·unfold execOp; rw [ho]
    simp only [Instr.sliceAt,Instr.slice,e1,Sem.run_bind,run_underlying hd,Result.andThen_ok,Option.map_none]
    rw [iQ (P:=P) (a:=a) hc1 hp hq h0 h1 h2]
    simp only [Result.andThen_ok,hE.kT,Option.map_some,Sem.run_pure]
   ·simp only [VR,Rd,hlen]
    refine ⟨by omega,.inr ?_⟩
    by_cases hcp : cap = p.toNat
    ·rw [if_pos hcp]
     have hq' : q.toNat - p.toNat = 0:=by omega
     refine ⟨ad,cap - p.toNat,by rw [hq'],by omega,by omega,?_,?_⟩
     ·intro hne; exact absurd (List.eq_nil_of_length_eq_zero (by rw [hlen,hq'])) hne
     ·rw [hq',List.take_zero]; simp only [pq]
    ·rw [if_neg hcp]
     refine ⟨ad.add (p.toNat * flat ei.zero),cap - p.toNat,rfl,by omega,by omega,?_,?_⟩
     ·intro hne
      unfold Addr.add; split
      ·refine hs ?_
       intro e; subst e; exact hne (by simp)
      ·rfl
     ·have hb : (ad.add (p.toNat * flat ei.zero)).block = ad.block /\ (ad.add (p.toNat * flat ei.zero)).off = ad.off + p.toNat * flat ei.zero:=by
       unfold Addr.add; split
       ·rename_i h0; rw [h0]; exact ⟨rfl,rfl⟩
       ·exact ⟨rfl,rfl⟩
      rw [hb.1,hb.2]
      exact JK _ (JL _ hre (by omega))
 ·rename_i el j off len cap sz hi' _
  obtain rfl:=bC (hdd.trans hi')
  obtain ⟨ei,hE,h⟩:=Lay.aQ hL h
  obtain ⟨hsz,h⟩:=aX.1 h
  subst hsz
  obtain ⟨p,h,hp⟩:=ji he hlo h
  obtain ⟨q,h,hq⟩:=ji he hhi h
  obtain ⟨⟨h0,h1,h2⟩,hcp,hk⟩:=h
  obtain ⟨hj,e1,hc1,hc2⟩:=uD hA
  refine .pure hr (v:=.slice (some ⟨c.ρ j,(off + p.toNat) * flat ei.zero,none⟩) (q.toNat - p.toNat) (cap - p.toNat)) ?_ (aS (dJ rfl rfl ?_)) hk
  ·unfold execOp; rw [ho]
   simp only [Instr.sliceAt,Instr.slice,e1,Sem.run_bind,run_underlying hd,Result.andThen_ok,Option.map_none]
   rw [iQ (P:=P) (a:=a) hc1 hp hq h0 h1 h2]
   simp only [Result.andThen_ok,hE.kT,Option.map_some,Sem.run_pure]
   rw [if_neg (by omega),addr_add,Nat.add_mul]
  ·simp only [VR]
   exact ⟨hj,trivial,by omega,by omega⟩
 ·rename_i el hi' _
  obtain rfl:=bC (hdd.trans hi')
  obtain ⟨ei,hE,h⟩:=Lay.aQ hL h
  obtain ⟨p,h,hp⟩:=ji he hlo h
  obtain ⟨q,h,hq⟩:=ji he hhi h
  obtain ⟨⟨rfl,rfl⟩,hk⟩:=h
  have e1:=lW hA
  refine .pure hr (v:=.slice none 0 0) ?_ (e1 ▸ hA) hk
  unfold execOp; rw [ho]
  simp only [Instr.sliceAt,Instr.slice,e1,Sem.run_bind,run_underlying hd,Result.andThen_ok,Option.map_none]
  rw [iQ (P:=P) (a:=a) (Nat.le_refl _) hp (h:=0) hq (by omega) (by omega) (by simp)]
  simp only [Result.andThen_ok,hE.kT]
  rfl
 ·exact h.elim

end
end Go.AL

namespace Go.AL

theorem Tj {c : Cx} : ∀ {As : List AV} {vs : List Value},yD c As vs -> (∀ A ∈ As,isVal A = true) -> VA c As vs
 | [],vs,h,_=>by simp only [VA]; exact h
 | A :: As,vs,h,hv=>by
   obtain ⟨v,r,rfl,h1,h2⟩:=h
   simp only [VA]
   exact ⟨v,r,rfl,(lK h1 (hv A (by simp))).1,(lK h1 (hv A (by simp))).2,Tj h2 fun x hx=>hv x (by simp [hx])⟩

theorem xB {k : Prop} : ∀ {As : List AV},yH As k -> (∀ A ∈ As,isVal A = true) /\ k
 | [],h=>⟨by simp,h⟩
 | A :: As,h=>by
   simp only [yH] at h
   obtain ⟨h1,h2⟩:=qN.1 h
   obtain ⟨h3,h4⟩:=xB h2
   exact ⟨by intro x hx; rcases List.mem_cons.1 hx with rfl | hx; exact h1; exact h3 x hx,h4⟩

section
variable {P : Program} {L : Lay} {c : Cx} {H : Heap} {e : Env} {a : Act} {k : AV -> Heap -> Prop} {ks : Heap -> Prop} {o : Oper}

theorem KC (hL : bW P L) {s d : Nat} {x : Operand} (hr : HR c H) (he : fC c e a) (hx : aV x = true) (ho : o.op = .convert s d x)
  (h : bI e x fun A=>L.aW s fun _=>L.aW d fun i=>(match i.desc,A with
  | .int kd,.int _ n=>k (.int kd (kd.wrap n)) H
  | .str,.str s=>k (.str s) H
  | _,_=>False)) : bQ P o a.eval c H k ks:=by
 obtain ⟨A,hA,h⟩:=aG he hx h
 obtain ⟨i0,hT0,h0⟩:=Lay.aQ hL h
 clear h
 obtain ⟨i,hT,h⟩:=Lay.aQ hL h0
 clear h0
 obtain ⟨u,hd,hdd⟩:=hT.under
 obtain ⟨us,hs,_⟩:=hT0.under
 split at h
 ·rename_i _ _ kd kd' n hi
  obtain rfl:=BP (hdd.trans hi)
  obtain ⟨e1,_⟩:=iP hA
  refine .pure hr (v:=.int kd (kd.wrap n)) ?_ (aS (cO (kR _ _))) h
  unfold execOp; rw [ho]
  simp only [convert,e1,Sem.run_bind,run_underlying hs,run_underlying hd,Result.andThen_ok,Conv.intToInt,Sem.run_pure]
 ·rename_i _ _ b hi
  obtain rfl:=kJ (hdd.trans hi)
  obtain ⟨e1,h1⟩:=DF hA
  refine .pure hr (v:=a.eval x) ?_ hA h
  unfold execOp; rw [ho]
  simp only [convert,e1,Sem.run_bind,run_underlying hs,run_underlying hd,Result.andThen_ok,Sem.run_pure]
 ·exact h.elim

theorem xJ (hL : bW P L) {t : Nat} {x : Operand} (hr : HR c H) (he : fC c e a) (hx : aV x = true) (ho : o.op = .makeInterface t x)
  (h : bI e x fun A=>L.aW t fun i=>(match i.desc with
  | .iface=>False
  | _=>Ak A (k (.jB t A) H))) : bQ P o a.eval c H k ks:=by
 obtain ⟨A,hA,h⟩:=aG he hx h
 obtain ⟨i,hT,h⟩:=Lay.aQ hL h
 obtain ⟨u,hd,hdd⟩:=hT.under
 have h' : i.desc ≠ .iface /\ isVal A = true /\ k (.jB t A) H:=by
  cases hi : i.desc <;> simp only [hi] at h <;> first | exact h.elim | exact ⟨by simp,qN.1 h⟩
 obtain ⟨hne,hval,hk⟩:=h'
 have hV:=lK hA hval
 refine .pure hr (v:=.iface t (a.eval x)) ?_ (aS (dJ rfl rfl ?_)) hk
 ·unfold execOp; rw [ho]
  have : ∀ ms,u ≠ .interface ms:=by intro ms e; subst e; exact hne hdd.symm
  simp only [Instr.makeInterface,Sem.run_bind,run_underlying hd,Result.andThen_ok]
  cases u <;> first | rfl | exact absurd rfl (this _)
 ·simp only [VR]; exact ⟨_,rfl,hV.1,hV.2⟩

theorem Ir {f : Fn} {first cap : Array Operand} (hr : HR c H) (he : fC c e a) (hx : cap.toList.all aV = true) (ho : o.op = .makeFunc f first cap)
  {F : FT} {gU : AV -> Prop} (h : gq F gU L (.makeFunc f first cap) e H k ks) : bQ P o a.eval c H k ks:=by
 simp only [gq] at h
 cases f with
 | func g =>
   cases hf : first.toList with
   | nil =>
     rw [hf] at h
     obtain ⟨As,h1,h2⟩:=jO he hx h
     obtain ⟨h3,h4⟩:=xB h2
     have hV:=Tj h1 h3
     obtain rfl : first = #[]:=by cases first; simp_all
     refine .pure hr (v:=.func (.func g) #[] (cap.toList.map a.eval).toArray) ?_ (aS (dJ rfl rfl ?_)) h4
     ·unfold execOp; rw [ho]
      simp [Instr.makeFunc]
      exact Array.ext' (by simp)
     ·simp only [VR]; exact ⟨_,rfl,hV⟩
   | cons x l=>rw [hf] at h; exact h.elim
 | _=>exact h.elim

theorem qH : ∀ {As Bs : List AV} {vs us : List Value},yD c As vs -> yD c Bs us -> yD c (As ++ Bs) (vs ++ us)
 | [],_,_,_,h,g=>by obtain rfl:=h; exact g
 | A :: As,Bs,vs,us,h,g=>by
   obtain ⟨v,r,rfl,h1,h2⟩:=h
   exact ⟨v,r ++ us,rfl,h1,qH h2 g⟩

theorem tN : ∀ {As : List AV} {vs : List Value},VA c As vs -> yD c As vs
 | [],_,h=>by simp only [VA] at h; exact h
 | A :: As,vs,h=>by
   simp only [VA] at h
   obtain ⟨v,r,rfl,h1,h2,h3⟩:=h
   exact ⟨v,r,rfl,aS ⟨h1,h2⟩,tN h3⟩

theorem Wp {A B : AV} {v : Value} (h : le0 A B) (hv : EV c A v) : EV c B v:=by
 cases A with
 | dS l=>cases B <;> simp only [le0] at h <;> cases h; exact hv
 | und=>cases B <;> simp only [le0] at h <;> first | (cases h; done) | trivial
 | _=>exact aS (xQ h hv)

theorem sS : ∀ {l m : List AV} {vs : List Value},DN l m -> yD c l vs -> yD c m vs
 | [],[],_,_,hr=>hr
 | [],_ :: _,_,h,_=>by simp only [DN] at h
 | _ :: _,[],_,h,_=>by simp only [DN] at h
 | x :: l,y :: m,vs,h,hr=>by
   simp only [DN] at h
   obtain ⟨v,r,h1,h2,h3⟩:=hr
   exact ⟨v,r,h1,Wp h.1 h2,sS h.2 h3⟩

theorem Hw {G : Heap} (htp : ∀ k n,dh G k = some n -> c.tp k = some n) : ∀ {l : List AV} {vs : List Value},iw (nextId G) l = true -> yD c l vs -> yD (c.cut G) l vs
 | [],_,_,hr=>hr
 | x :: l,vs,hb,hr=>by
   simp only [iw] at hb
   obtain ⟨v,r,h1,h2,h3⟩:=hr
   cases hx : dB (nextId G) x with
   | false=>rw [hx] at hb; cases hb
   | true=>rw [hx] at hb; exact ⟨v,r,h1,DI htp hx h2,Hw htp hb h3⟩

theorem bJ.pure {f : Nat} {Bs : List AV} {R : AV} (h : bJ P f Bs [] R []) (hB : iw 0 Bs = true) (hR : dB 0 R = true) (hr : HR c H) {vs : List Value} (hv : yD c Bs vs) :
  Calls P f vs.toArray c.w fun e w'=>∃ v d,e = .returned v /\ d.w = w' /\ Tr c H d H /\ EV d R v:=by
 have hr0 : HR (c.cut []) []:=⟨rfl,rfl,trivial,hr.im,by simp,.nil⟩
 have hv0 : yD (c.cut []) Bs vs:=Hw (G:=[]) (fun k n hn=>by cases hn) hB hv
 refine Calls.mono (w:=(c.cut []).w) (h.2 (c.cut []) vs hr0 hv0) ?_
 rintro _ w' ⟨v,d,rfl,rfl,htr,hV⟩
 refine ⟨v,{ c with w:=d.w,Im:=d.Im },rfl,rfl,?_,?_⟩
 ·refine Tr.keep hr ⟨htr.le.im,Nat.le_refl _,fun _ _=>rfl,fun _ _ _ h=>.inl ⟨h,rfl⟩⟩ rfl rfl rfl htr.os htr.tape htr.output htr.size (fun b hb=>htr.fr b hb (by simp)) (fun b o ho=>?_)
  rcases htr.TW b o ho with h | h | ⟨x,hx,_⟩
  ·exact .inl h
  ·exact .inr ⟨h,htr.hr.im b o ho⟩
  ·simp at hx
 ·have h1 : EV (d.cut []) R v:=DI (G:=[]) (fun k n hn=>by cases hn) hR hV
  refine l7 (c:=d.cut []) (d:={ c with w:=d.w,Im:=d.Im }) ⟨fun _ _ h=>⟨h,rfl⟩,Nat.zero_le _,fun k hk=>?_,fun k n hk=>?_⟩ h1
  ·simp [Cx.cut,nextId] at hk
  ·simp [Cx.cut,nextId] at hk

theorem DY {F : FT} (hFn : FS P F) {f : Operand} {cl : Call} (hr : HR c H) (he : fC c e a) (hf : aV f = true) (hx : cl.args.toList.all aV = true) (ho : o.op = .call cl) (hc : cl.callee = .value f)
  (h : bI e f fun A=>(match A with
   | .fn g cap=>lJ e cl.args.toList fun As=>D8 As cap fun Bs=>Fz F Ok g Bs H k
   | _=>False)) : bQ P o a.eval c H k ks:=by
 obtain ⟨A,hA,h⟩:=aG he hf h
 split at h
 ·rename_i g cap
  obtain ⟨vs,e1,h1⟩:=Td hA
  obtain ⟨As,h2,h3⟩:=jO he hx h
  have h3:=wX.1 h3
  have key : ∃ R H',(∃ fn,P.funcs[g]? = some fn /\ (fn.name == "runtime.NumGoroutine") = false /\ fn.body.isSome = true) /\
    (Calls P g (cl.args.toList.map a.eval ++ vs).toArray c.w fun e w'=>∃ v d,e = .returned v /\ d.w = w' /\ Tr c H d H' /\ EV d R v) /\ k R H':=by
   have fin : ∀ {R H'},(Calls P g (cl.args.toList.map a.eval ++ vs).toArray c.w fun e w'=>∃ v d,e = .returned v /\ d.w = w' /\ Tr c H d H' /\ EV d R v) -> Ok R:=by
    intro R H' hcall
    obtain ⟨e',w',fr,⟨v,d,_,_,_,h8⟩,_⟩:=hcall []
    exact xw h8
   cases h3 with
   | gen R H' hF hk =>
     have hF:=hFn.h _ _ _ _ _ hF
     have hcall:=hF.2 c _ hr (qH h2 (tN h1))
     exact ⟨R,H',hF.1,hcall,hk (fin hcall)⟩
   | pure Bs R hle hb hF hk =>
     have hF:=hFn.h _ _ _ _ _ hF
     have hcall:=bJ.pure hF hb.1 hb.2 hr (sS hle (qH h2 (tN h1)))
     exact ⟨R,H,hF.1,hcall,hk (fin hcall)⟩
  obtain ⟨R,H',⟨fn,f1,f2,f3⟩,hcall,hk⟩:=key
  ·refine .inr (.inr ⟨g,_,?_,hcall.mono fun _ _ ⟨v,d,h1,h2,h3,h4⟩=>⟨v,d,R,H',h1,h2,h3,h4,hk⟩⟩)
   unfold execOp; rw [ho]
   simp only [resolve,hc,e1,Deferred.ofValue,Sem.run_bind,Sem.run_pure,Result.andThen_ok,invoke,callFunc,run_program,f1,f2,Bool.false_eq_true,if_false]
   have : fn.body.isNone = false:=by cases hb : fn.body <;> simp [hb] at f3 ⊢
   simp only [this,Bool.false_eq_true,if_false,Sem.run_pure]
   congr 2
   simp
 ·exact h.elim

theorem dK.pure {f : Nat} {Bs : List AV} {Q : AV -> Prop} (h : dK P f Bs [] fun R H'=>H' = [] /\ dB 0 R = true /\ Q R) (hB : iw 0 Bs = true) (hr : HR c H) {vs : List Value} (hv : yD c Bs vs) :
  Calls P f vs.toArray c.w fun e w'=>∃ v d R H',(H' = H /\ Q R) /\ e = .returned v /\ d.w = w' /\ Tr c H d H' /\ EV d R v:=by
 have hr0 : HR (c.cut []) []:=⟨rfl,rfl,trivial,hr.im,by simp,.nil⟩
 have hv0 : yD (c.cut []) Bs vs:=Hw (G:=[]) (fun k n hn=>by cases hn) hB hv
 refine Calls.mono (w:=(c.cut []).w) (h.2 (c.cut []) vs hr0 hv0) ?_
 rintro _ w' ⟨v,d,R,_,⟨rfl,hR,hQ⟩,rfl,rfl,htr,hV⟩
 refine ⟨v,{ c with w:=d.w,Im:=d.Im },R,H,⟨rfl,hQ⟩,rfl,rfl,?_,?_⟩
 ·refine Tr.keep hr ⟨htr.le.im,Nat.le_refl _,fun _ _=>rfl,fun _ _ _ h=>.inl ⟨h,rfl⟩⟩ rfl rfl rfl htr.os htr.tape htr.output htr.size (fun b hb=>htr.fr b hb (by simp)) (fun b o ho=>?_)
  rcases htr.TW b o ho with h | h | ⟨x,hx,_⟩
  ·exact .inl h
  ·exact .inr ⟨h,htr.hr.im b o ho⟩
  ·simp at hx
 ·have h1 : EV (d.cut []) R v:=DI (G:=[]) (fun k n hn=>by cases hn) hR hV
  refine l7 (c:=d.cut []) (d:={ c with w:=d.w,Im:=d.Im }) ⟨fun _ _ h=>⟨h,rfl⟩,Nat.zero_le _,fun k hk=>?_,fun k n hk=>?_⟩ h1
  ·simp [Cx.cut,nextId] at hk
  ·simp [Cx.cut,nextId] at hk

theorem Iu {F : FT} (hFn : FS P F) {f : Operand} {cl : Call} (hr : HR c H) (he : fC c e a) (hx : cl.args.toList.all aV = true) (ho : o.op = .call cl) (hc : cl.callee = .value f) {g : Nat} {cap : List AV} (hA : EV c (.fn g cap) (a.eval f))
  (h : lJ e cl.args.toList fun As=>D8 As cap fun Bs=>TP F Ok g Bs H k) : bQ P o a.eval c H k ks:=by
 obtain ⟨vs,e1,h1⟩:=Td hA
 obtain ⟨As,h2,h3⟩:=jO he hx h
 have h3:=wX.1 h3
 have hv:=qH h2 (tN h1)
 have key : (∃ fn,P.funcs[g]? = some fn /\ (fn.name == "runtime.NumGoroutine") = false /\ fn.body.isSome = true) /\
   (Calls P g (cl.args.toList.map a.eval ++ vs).toArray c.w fun e w'=>∃ v d R H',e = .returned v /\ d.w = w' /\ Tr c H d H' /\ EV d R v /\ k R H'):=by
  cases h3 with
  | gen R H' hF hk =>
    have hF:=hFn.h _ _ _ _ _ hF
    exact ⟨hF.1,(hF.2 c _ hr hv).mono fun _ _ ⟨v,d,h1,h2,h3,h4⟩=>⟨v,d,R,H',h1,h2,h3,h4,hk (xw h4)⟩⟩
  | pure Bs R hle hb hF hk =>
    have hF:=hFn.h _ _ _ _ _ hF
    exact ⟨hF.1,(bJ.pure hF hb.1 hb.2 hr (sS hle hv)).mono fun _ _ ⟨v,d,h1,h2,h3,h4⟩=>⟨v,d,R,H,h1,h2,h3,h4,hk (xw h4)⟩⟩
  | rel Q hF hk =>
    have hF:=hFn.q _ _ _ _ hF
    exact ⟨hF.1,(hF.2 c _ hr hv).mono fun _ _ ⟨v,d,R,H',hQ,h1,h2,h3,h4⟩=>⟨v,d,R,H',h1,h2,h3,h4,hk R H' hQ (xw h4)⟩⟩
  | jf Bs Q hle hb hF hk =>
    have hF:=hFn.q _ _ _ _ hF
    refine ⟨hF.1,(dK.pure hF hb hr (sS hle hv)).mono ?_⟩
    rintro _ _ ⟨v,d,R,_,⟨rfl,hQ⟩,h1,h2,h3,h4⟩
    exact ⟨v,d,R,_,h1,h2,h3,h4,hk R hQ (xw h4)⟩
 obtain ⟨⟨fn,f1,f2,f3⟩,hcall⟩:=key
 refine .inr (.inr ⟨g,_,?_,hcall⟩)
 unfold execOp; rw [ho]
 simp only [resolve,hc,e1,Deferred.ofValue,Sem.run_bind,Sem.run_pure,Result.andThen_ok,invoke,callFunc,run_program,f1,f2,Bool.false_eq_true,if_false]
 have : fn.body.isNone = false:=by cases hb : fn.body <;> simp [hb] at f3 ⊢
 simp only [this,Bool.false_eq_true,if_false,Sem.run_pure]
 congr 2
 simp

theorem gG {cl : Call} {b : Builtin} (ho : o.op = .call cl) (hc : cl.callee = .builtin b) {w : World} :
  (execOp a.eval o).run P w = (builtin b cl.argTypes o.type (cl.args.map fun | .const _=>true | _=>false) (cl.args.map a.eval)).run P w:=by
 unfold execOp; rw [ho]
 simp only [resolve,hc,Sem.run_bind,Sem.run_pure,Result.andThen_ok,invoke]
 rfl

theorem tK {A : AV} {vs : List Value} (h : yD c [A] vs) : ∃ v,vs = [v] /\ EV c A v:=by
 obtain ⟨v,r,rfl,h1,h2⟩:=h; obtain rfl:=h2; exact ⟨v,rfl,h1⟩
theorem qG {A B : AV} {vs : List Value} (h : yD c [A,B] vs) : ∃ v u,vs = [v,u] /\ EV c A v /\ EV c B u:=by
 obtain ⟨v,r,rfl,h1,h2⟩:=h; obtain ⟨u,rfl,h3⟩:=tK h2; exact ⟨v,u,rfl,h1,h3⟩

theorem gI {xs : Array Operand} {ρ : Operand -> Value} {vs : List Value} (h : xs.toList.map ρ = vs) : xs.map ρ = vs.toArray:=by
 subst h; exact Array.ext' (by simp)

end
end Go.AL

namespace Go.AL

def qJ (w : World) (Im : Nat -> Nat -> Prop) (sz : Nat) : List AV -> List Value -> Prop
 | [],cs=>cs = []
 | x :: l,cs=>∃ a d,cs = a ++ d /\ a.length = sz /\ Rd w Im x a /\ qJ w Im sz l d

theorem dG {w : World} {Im : Nat -> Nat -> Prop} {sz : Nat} : ∀ {l : List AV} {cs : List Value},qJ w Im sz l cs -> cs.length = l.length * sz
 | [],_,h=>by obtain rfl:=h; simp
 | x :: l,cs,h=>by
   obtain ⟨a,d,rfl,h1,_,h3⟩:=h
   simp only [List.length_append,List.length_cons,Nat.add_mul,dG h3,h1]; omega

theorem ni {w : World} {Im : Nat -> Nat -> Prop} {sz : Nat} : ∀ {l m : List AV} {cs ds : List Value},qJ w Im sz l cs -> qJ w Im sz m ds -> qJ w Im sz (l ++ m) (cs ++ ds)
 | [],_,_,_,h,g=>by obtain rfl:=h; exact g
 | x :: l,m,cs,ds,h,g=>by
   obtain ⟨a,d,rfl,h1,h2,h3⟩:=h
   exact ⟨a,d ++ ds,by simp,h1,h2,ni h3 g⟩

theorem fB {w w' : World} {Im JU : Nat -> Nat -> Prop} (h : ∀ b o,Im b o -> JU b o /\ w'.cell? ⟨b,o,none⟩ = w.cell? ⟨b,o,none⟩) {sz : Nat} :
  ∀ {l : List AV} {cs : List Value},qJ w Im sz l cs -> qJ w' JU sz l cs
 | [],_,hr=>hr
 | x :: l,cs,hr=>by
   obtain ⟨a,d,h1,h2,h3,h4⟩:=hr
   exact ⟨a,d,h1,h2,dN h _ _ h3,fB h h4⟩

theorem nX {c : Cx} {sz : Nat} : ∀ {l : List AV} {cs : List Value},qJ c.w c.Im sz l cs -> ∀ u ∈ cs,u.oneCell' = true
 | [],_,h=>by obtain rfl:=h; simp
 | x :: l,cs,h=>by
   obtain ⟨a,d,rfl,h1,h2,h3⟩:=h
   intro u hu
   rcases List.mem_append.1 hu with hu | hu
   ·exact kN x a (gB _ _ h2) u hu
   ·exact nX h3 u hu

theorem qA {w : World} {Im : Nat -> Nat -> Prop} {sz b : Nat} : ∀ {l : List AV} {off : Nat},pq w Im sz b l off ->
  ∃ cs,qJ w Im sz l cs /\ ∀ j v,cs[j]? = some v -> w.cell? ⟨b,off + j,none⟩ = some v
 | [],off,_=>⟨[],rfl,by simp⟩
 | x :: l,off,h=>by
   simp only [pq] at h
   obtain ⟨⟨a,h1,h2,h3⟩,h4⟩:=h
   obtain ⟨d,h5,h6⟩:=qA h4
   refine ⟨a ++ d,⟨a,d,rfl,h1,h3,h5⟩,fun j v hj=>?_⟩
   by_cases hlt : j < a.length
   ·rw [List.getElem?_append_left hlt] at hj; exact (h2 j v hj).1
   ·rw [List.getElem?_append_right (by omega)] at hj
    have:=h6 _ v hj
    have e : off + sz + (j - a.length) = off + j:=by omega
    rw [e] at this; exact this

theorem jo {w : World} {Im : Nat -> Nat -> Prop} {sz b : Nat} : ∀ {l : List AV} {cs : List Value} {off : Nat},qJ w Im sz l cs -> jd w Im b off cs -> pq w Im sz b l off
 | [],_,_,_,_=>by simp only [pq]
 | x :: l,cs,off,h,hc=>by
   obtain ⟨a,d,rfl,h1,h2,h3⟩:=h
   simp only [pq]
   refine ⟨⟨a,h1,fun j v hj=>hc j v (by rw [List.getElem?_append_left (List.getElem?_eq_some_iff.1 hj).1]; exact hj),h2⟩,jo h3 fun j v hj=>?_⟩
   have:=hc (a.length + j) v (by rw [List.getElem?_append_right (by omega),Nat.add_sub_cancel_left]; exact hj)
   rw [<- h1,Nat.add_assoc]; exact this

theorem jQ {c : Cx} {sz : Nat} : ∀ {l : List AV} {cs : List Value},yB c sz l cs -> ∃ a d,cs = a ++ d /\ qJ c.w c.Im sz l a
 | [],cs,_=>⟨[],cs,rfl,rfl⟩
 | x :: l,cs,h=>by
   obtain ⟨a,d,rfl,h1,h2,h3⟩:=h
   obtain ⟨a',d',rfl,h4⟩:=jQ h3
   exact ⟨a ++ a',d',by simp,a,a',rfl,h1,h2,h4⟩

theorem kP {c : Cx} {sz : Nat} {rest : List Value} : ∀ {l : List AV} {cs : List Value},qJ c.w c.Im sz l cs -> yB c sz l (cs ++ rest)
 | [],_,_=>trivial
 | x :: l,cs,h=>by
   obtain ⟨a,d,rfl,h1,h2,h3⟩:=h
   exact ⟨a,d ++ rest,by simp,h1,h2,kP h3⟩

theorem Dx {w : World} {Im : Nat -> Nat -> Prop} {sz : Nat} : ∀ {l : List AV} {cs : List Value} (n : Nat),qJ w Im sz l cs -> n <= l.length -> qJ w Im sz (l.drop n) (cs.drop (n * sz))
 | l,cs,0,h,_=>by simpa using h
 | [],cs,n + 1,_,h=>by simp at h
 | x :: l,cs,n + 1,h,hn=>by
   obtain ⟨a,d,rfl,h1,h2,h3⟩:=h
   have:=Dx n h3 (by simpa using hn)
   have e : (n + 1) * sz = a.length + n * sz:=by rw [Nat.add_mul,h1]; omega
   simp only [List.drop_succ_cons]
   rw [e,List.drop_append,List.drop_eq_nil_of_le (as:=a) (by omega),Nat.add_sub_cancel_left,List.nil_append]
   exact this

theorem su {w : World} {Im : Nat -> Nat -> Prop} {sz : Nat} : ∀ {l : List AV} {cs : List Value} (n : Nat),qJ w Im sz l cs -> qJ w Im sz (l.take n) (cs.take (n * sz))
 | l,cs,0,h=>by simp [qJ]
 | [],cs,n + 1,h=>by obtain rfl:=h; simp [qJ]
 | x :: l,cs,n + 1,h=>by
   obtain ⟨a,d,rfl,h1,h2,h3⟩:=h
   have:=su n h3
   have e : (n + 1) * sz = a.length + n * sz:=by rw [Nat.add_mul,h1]; omega
   simp only [List.take_succ_cons]
   rw [e,List.take_append,List.take_of_length_le (l:=a) (by omega),Nat.add_sub_cancel_left]
   exact ⟨a,_,rfl,h1,h2,this⟩

section
variable {P : Program} {L : Lay} {c : Cx} {H : Heap} {e : Env} {a : Act} {k : AV -> Heap -> Prop} {ks : Heap -> Prop} {o : Oper}

theorem pW {n : Nat} (h : n <= maxL) : qM .i64 (n : Int):=by
 unfold maxL at h
 simp [qM,IntKind.min,IntKind.max,IntKind.signed,IntKind.bits]; omega

theorem Qr {cl : Call} {t : Nat} {i : TI} {A : AV} (hr : HR c H) (ho : o.op = .call cl) (hc : cl.callee = .builtin .len) (hat : cl.argTypes[0]? = some t) (hT : lZ P t i)
  {v : Value} (hv : cl.args.toList.map a.eval = [v]) (hA : EV c A v) (h : G7 i.desc A H fun R=>k R H) : bQ P o a.eval c H k ks:=by
 obtain ⟨d,hd,hdd⟩:=hT.under
 have run : ∀ r,(Builtin.len_ cl.argTypes o.type #[v]).run P c.w = .ok r c.w -> (execOp a.eval o).run P c.w = .ok (.value r) c.w:=by
  intro r hrr
  rw [gG ho hc,gI hv]
  simp only [builtin,Sem.run_bind,hrr,Result.andThen_ok,Sem.run_pure]
 have base : ∀ (u : Value) (n : Int),v = u -> ((d = .string /\ ∃ s,u = .string s /\ n = s.size) \/ (∃ el,d = .slice el) /\ (∃ b m cp,u = .slice b m cp /\ n = m) \/ (∃ p q,d = .map p q) /\ u = .map none /\ n = 0) ->
   (execOp a.eval o).run P c.w = .ok (.value (.int .i64 n)) c.w:=by
  rintro u n rfl hcases
  refine run _ ?_
  unfold Builtin.len_
  rcases hcases with ⟨rfl,s,rfl,rfl⟩ | ⟨⟨el,rfl⟩,b,m,cp,rfl,rfl⟩ | ⟨⟨p,q,rfl⟩,rfl,rfl⟩
  ·simp only [hat,List.getElem?_toArray,List.getElem?_cons_zero,Sem.run_bind,run_underlying hd,Result.andThen_ok,Sem.run_pure,goInt]
  ·simp only [hat,List.getElem?_toArray,List.getElem?_cons_zero,Sem.run_bind,run_underlying hd,Result.andThen_ok,Sem.run_pure,goInt]
  ·simp only [hat,List.getElem?_toArray,List.getElem?_cons_zero,Sem.run_bind,run_underlying hd,Result.andThen_ok,Sem.run_pure,goInt]
 unfold G7 at h
 split at h
 ·rename_i el hi
  obtain rfl:=bC (hdd.trans hi)
  exact .pure hr (base _ 0 (lW hA) (.inr (.inl ⟨⟨_,rfl⟩,_,_,_,rfl,rfl⟩))) (aS (cO (pW (n:=0) (by simp [maxL])))) h
 ·rename_i el sz l tok hi
  obtain rfl:=bC (hdd.trans hi)
  obtain ⟨h1,h2⟩:=Dh hA
  refine .pure hr (base v l.length rfl (.inr (.inl ⟨⟨_,rfl⟩,?_⟩))) (aS (cO (pW h1))) h
  rcases h2 with ⟨rfl,e⟩ | ⟨ad,cap,e,_⟩
  ·exact ⟨_,_,_,e,rfl⟩
  ·exact ⟨_,_,_,e,rfl⟩
 ·rename_i el j off len cap sz hi
  obtain rfl:=bC (hdd.trans hi)
  obtain ⟨_,e,h1,h2⟩:=uD hA
  exact .pure hr (base _ len e (.inr (.inl ⟨⟨_,rfl⟩,_,_,_,rfl,rfl⟩))) (aS (cO (pW (Nat.le_trans h1 h2)))) h
 ·rename_i s hi
  obtain rfl:=kJ (hdd.trans hi)
  obtain ⟨e,h1⟩:=LQ hA
  exact .pure hr (base _ s.length e (.inl ⟨rfl,_,rfl,by simp [ByteArray.size]⟩)) (aS (cO (pW h1))) h
 ·rename_i p q hi
  obtain rfl:=ql (hdd.trans hi)
  exact .pure hr (base _ 0 (Vl hA) (.inr (.inr ⟨⟨_,_,rfl⟩,rfl,rfl⟩))) (aS (cO (pW (n:=0) (by simp [maxL])))) h
 ·exact h.elim

theorem Qq {cl : Call} {A B : AV} (hr : HR c H) (ho : o.op = .call cl) (hc : cl.callee = .builtin .max) {v u : Value} (hv : cl.args.toList.map a.eval = [v,u]) (hA : EV c A v) (hB : EV c B u)
  (h : KH A B fun R=>k R H) : bQ P o a.eval c H k ks:=by
 unfold KH at h
 split at h
 ·rename_i ka m kb n
  split at h
  ·obtain rfl:=fJ ‹_›
   obtain ⟨rfl,r1⟩:=iP hA
   obtain ⟨rfl,r2⟩:=iP hB
   refine .pure hr (v:=.int ka (max m n)) ?_ (aS (cO ?_)) h
   ·rw [gG ho hc,gI hv]
    have : (if n > m then n else m) = max m n:=by omega
    simp [builtin,Builtin.max_,Builtin.max2,this]
   ·unfold qM at *; omega
  ·exact h.elim
 ·exact h.elim

theorem Qp {cl : Call} {A B : AV} (hr : HR c H) (ho : o.op = .call cl) (hc : cl.callee = .builtin .min) {v u : Value} (hv : cl.args.toList.map a.eval = [v,u]) (hA : EV c A v) (hB : EV c B u)
  (h : zl A B fun R=>k R H) : bQ P o a.eval c H k ks:=by
 unfold zl at h
 split at h
 ·rename_i ka m kb n
  split at h
  ·obtain rfl:=fJ ‹_›
   obtain ⟨rfl,r1⟩:=iP hA
   obtain ⟨rfl,r2⟩:=iP hB
   refine .pure hr (v:=.int ka (min m n)) ?_ (aS (cO ?_)) h
   ·rw [gG ho hc,gI hv]
    have : (if n < m then n else m) = min m n:=by omega
    simp [builtin,Builtin.min_,Builtin.min2,this]
   ·unfold qM at *; omega
  ·exact h.elim
 ·exact h.elim

theorem Ui {cl : Call} {A B C : AV} (hr : HR c H) (ho : o.op = .call cl) (hc : cl.callee = .builtin .min) {v u x : Value} (hv : cl.args.toList.map a.eval = [v,u,x]) (hA : EV c A v) (hB : EV c B u) (hC : EV c C x)
  (h : zl A B fun R=>zl R C fun R=>k R H) : bQ P o a.eval c H k ks:=by
 unfold zl at h
 split at h
 ·rename_i ka m kb n
  split at h
  ·obtain rfl:=fJ ‹_›
   obtain ⟨rfl,r1⟩:=iP hA
   obtain ⟨rfl,r2⟩:=iP hB
   split at h
   ·rename_i kc p kd q he
    injection he with e1 e2
    subst e1 e2
    split at h
    ·obtain rfl:=fJ ‹_›
     obtain ⟨rfl,r3⟩:=iP hC
     refine .pure hr (v:=.int ka (min (min m n) q)) ?_ (aS (cO ?_)) h
     ·rw [gG ho hc,gI hv]
      have h1 : (if n < m then n else m) = min m n:=by omega
      have h2 : (if q < min m n then q else min m n) = min (min m n) q:=by omega
      simp [builtin,Builtin.min_,Builtin.min2,h1,h2]
     ·unfold qM at *; omega
    ·exact h.elim
   ·exact h.elim
  ·exact h.elim
 ·exact h.elim

end
end Go.AL

namespace Go.AL

section
variable {P : Program} {L : Lay} {c : Cx} {H : Heap} {e : Env} {a : Act} {k : AV -> Heap -> Prop} {ks : Heap -> Prop} {o : Oper}

theorem Ba (z : Array Value) (m : Nat) (_hz : 0 < z.size) : (madeCells z ((m + 1) * z.size)).toList = z.toList ++ (madeCells z (m * z.size)).toList:=by
 unfold madeCells
 simp only [Array.toList_map,Array.toList_range]
 have e1 : (m + 1) * z.size = z.size + m * z.size:=by rw [Nat.add_mul]; omega
 rw [e1,List.range_add,List.map_append,List.map_map]
 congr 1
 ·apply List.ext_getElem
  ·simp
  ·intro i h1 h2
   simp at h1 h2
   simp [Nat.mod_eq_of_lt h1,h1]
 ·apply List.map_congr_left
  intro x _
  simp

theorem JJ {w : World} {Im : Nat -> Nat -> Prop} {z : AV} {v : Value} (hv : Rd w Im z v.cells.toList) : ∀ (m : Nat),qJ w Im (flat z) (List.replicate m z) (madeCells v.cells (m * flat z)).toList:=by
 have hsz : v.cells.size = flat z:=by rw [<- Array.length_toList]; exact bV _ _ hv
 intro m
 rcases Nat.eq_zero_or_pos (flat z) with h0 | hp
 ·have : (madeCells v.cells (m * flat z)).toList = []:=by rw [h0]; simp [madeCells]
  rw [this]
  have ZV : v.cells.toList = []:=List.eq_nil_of_length_eq_zero (by rw [Array.length_toList,hsz,h0])
  induction m with
  | zero=>rfl
  | succ m ih=>exact ⟨[],[],rfl,by simp [h0],by rw [<- ZV]; exact hv,ih (by rw [h0]; simp [madeCells])⟩
 ·induction m with
  | zero=>simp [madeCells,qJ]
  | succ m ih =>
    have:=Ba v.cells m (by omega)
    rw [hsz] at this
    rw [this]
    exact ⟨_,_,rfl,by rw [Array.length_toList,hsz],hv,ih⟩

theorem PO {w : World} {Im : Nat -> Nat -> Prop} {sz n m : Nat} {z : AV} {cs : List Value} (h : qJ w Im sz (List.replicate m z) cs) (hn : n <= m) :
  qJ w Im sz (List.replicate n z) (cs.take (n * sz)):=by
 have:=su n h
 rwa [List.take_replicate,Nat.min_eq_left hn] at this

theorem FW (hL : bW P L) {t : Nat} {x y : Operand} (hr : HR c H) (he : fC c e a) (hx : aV x = true) (hy : aV y = true) (ho : o.op = .makeSlice t x y)
  (h : bI e x fun A=>bI e y fun B=>L.aW t fun i=>(match i.desc,A,B with
  | .slice el,.int _ n,.int _ m=>L.aW el fun ei=>(0 <= n /\ n <= m /\ m * (ei.bytes : Int) <= 281474976710656 /\ m <= 9223372036854775807) /\
    Oa m.toNat n.toNat (flat ei.zero) ei.zero H k
  | _,_,_=>False)) : bQ P o a.eval c H k ks:=by
 obtain ⟨A,hA,h⟩:=aG he hx h
 obtain ⟨B,hB,h⟩:=aG he hy h
 obtain ⟨i,hT,h⟩:=Lay.aQ hL h
 obtain ⟨d,hd,hdd⟩:=hT.under
 split at h
 ·rename_i el ka n kb m hi _ _
  obtain rfl:=bC (hdd.trans hi)
  obtain ⟨ei,hE,⟨h0,h1,h2,h3⟩,h⟩:=Lay.aQ hL h
  obtain ⟨e1,_⟩:=iP hA
  obtain ⟨e2,_⟩:=iP hB
  obtain ⟨info,z,g1,g2,g3,g4,g5,g6⟩:=hE.info
  have hrun:=run_make (P:=P) c.w t el info z hd g1 g4 ka kb n m h0 h1 (by rw [g3,Int.mul_comm]; exact h2) h3
  rw [g2] at hrun
  have hex : (execOp a.eval o).run P c.w = .ok (.value (.slice (some ⟨c.w.heap.size,0,none⟩) n.toNat m.toNat)) (c.w.alloc (.cells (madeCells z.cells (m.toNat * flat ei.zero)) el)):=by
   unfold execOp; rw [ho]
   simp only [e1,e2,Sem.run_bind,hrun,Result.andThen_ok,Sem.run_pure]
  have hcs : ∀ w Im,qJ w Im (flat ei.zero) (List.replicate m.toNat ei.zero) (madeCells z.cells (m.toNat * flat ei.zero)).toList:=fun w Im=>JJ (g6 w Im) _
  cases h with
  | pure h =>
    refine .inl ⟨_,c.alloc _,_,H,hex,Tr.alloc hr _,aS (dJ rfl rfl ?_),h.2⟩
    simp only [VR,Rd]
    have hnm : n.toNat = m.toNat:=h.1
    refine ⟨⟨by simp [maxL]; omega,.inr ⟨⟨c.w.heap.size,0,none⟩,m.toNat,by simp,by simp; omega,by simp [maxL]; omega,fun _=>rfl,?_⟩⟩,⟨some ⟨c.w.heap.size,0,none⟩,by simp [hnm]⟩⟩
    rw [hnm]
    refine jo (hcs _ _) fun j v hj=>⟨?_,.inr rfl⟩
    rw [Nat.zero_add]
    show (c.w.alloc _).cell? ⟨c.w.heap.size,j,none⟩ = _
    rw [cell_of_heap (alloc_heap_new c.w _),<- Array.getElem?_toList]; exact hj
  | wr h =>
    have htr : Tr c H (c.push (.cells (madeCells z.cells (m.toNat * flat ei.zero)) el) ((nextId H,.arr (flat ei.zero) m.toNat (List.replicate n.toNat ei.zero)) :: H)) ((nextId H,.arr (flat ei.zero) m.toNat (List.replicate n.toNat ei.zero)) :: H):=by
     refine Tr.push hr _ _ (fun _=>rfl) ?_
     refine ⟨(madeCells z.cells (m.toNat * flat ei.zero)).toList,el,?_,?_,by simp; omega,by simp [maxL]; omega,?_,?_⟩
     ·rw [nNρ hr]; simp only [Cx.push,Array.toArray_toList]; exact alloc_heap_new _ _
     ·rw [Array.length_toList,size_madeCells]
     ·have h5:=PO (n:=n.toNat) (hcs (c.push (.cells (madeCells z.cells (m.toNat * flat ei.zero)) el) ((nextId H,.arr (flat ei.zero) m.toNat (List.replicate n.toNat ei.zero)) :: H)).w (c.push (.cells (madeCells z.cells (m.toNat * flat ei.zero)) el) ((nextId H,.arr (flat ei.zero) m.toNat (List.replicate n.toNat ei.zero)) :: H)).Im) (by omega)
      have h6:=kP (c:=c.push (.cells (madeCells z.cells (m.toNat * flat ei.zero)) el) ((nextId H,.arr (flat ei.zero) m.toNat (List.replicate n.toNat ei.zero)) :: H)) (rest:=(madeCells z.cells (m.toNat * flat ei.zero)).toList.drop (n.toNat * flat ei.zero)) h5
      rwa [List.take_append_drop] at h6
     ·intro y hy
      rw [nNρ hr] at hy
      have:=hr.im _ _ hy
      omega
    refine .inl ⟨_,_,_,_,hex,htr,aS (dJ rfl rfl ?_),h⟩
    simp only [VR]
    rw [nNρ hr]
    refine ⟨by simp only [Cx.push,hr.nx]; omega,by simp,by omega,by simp [maxL]; omega⟩
 ·exact h.elim

end
end Go.AL

namespace Go.AL

structure Src (P : Program) (sz : Nat) (w : World) (x : Value) (m : Nat) (news : List Value) : Prop where
 len : ∀ w',(Builtin.lenOf x).run P w' = .ok m w'
 cells : ∀ n',(Builtin.firstCells sz m x).run P { w with drawn:=n' } = .ok news.toArray { w with drawn:=n' }

section
variable {P : Program} {w : World} {t u ty el sz : Nat} {info : TypeInfo} {z : Value} {base : Option Addr} {n cap m : Nat} {x : Value} {news : List Value}

theorem lT {d : TypeDesc} (ht : P.underlying t = some (.slice el)) (hu : P.underlying u = some d) (hd : (∃ e,d = .slice e) \/ d = .string) (hi : P.info? el = some info) (hs : info.size = sz)
  (hx : Src P sz w x m news) (hc : n + m <= cap) {w' : World}
  (hst : ∀ ad,base = some ad -> (storeCells (ad.add (n * sz)) news).run P w = .ok () w') (hno : base = none -> w' = w) :
  (Builtin.append_ #[t,u] ty #[.slice base n cap,x]).run P w = .ok (.slice base (n + m) cap) w':=by
 have h1:=hx.len w
 have h2:=hx.cells w.drawn
 have hsz : (sizeOf el).run P w = .ok sz w:=by unfold sizeOf typeInfo; simp [hi,hs]
 unfold Builtin.append_
 simp only [List.getElem?_toArray,List.getElem?_cons_zero,List.getElem?_cons_succ,Sem.run_bind,run_underlying ht,run_underlying hu,Result.andThen_ok,hsz,Sem.run_pure]
 rcases hd with ⟨e',rfl⟩ | rfl
 all_goals
  simp only [Bool.false_eq_true,if_false,Bool.not_false,if_true,h1,Result.andThen_ok,hc,Sem.run_bind]
  have h2' : (Builtin.firstCells sz m x).run P w = .ok news.toArray w:=h2
  simp only [h2',Result.andThen_ok]
  cases base with
  | none=>obtain rfl:=hno rfl; rfl
  | some ad =>
    simp only [Sem.run_bind,hst ad rfl,Result.andThen_ok]
    rfl

theorem pR {d : TypeDesc} (ht : P.underlying t = some (.slice el)) (hu : P.underlying u = some d) (hd : (∃ e,d = .slice e) \/ d = .string) (hi : P.info? el = some info) (hs : info.size = sz) (hz : info.zero = some z)
  (hx : Src P sz w x m news) (hc : cap < n + m) (hm : n + m <= maxL) (hb : (n + m) * info.bytes <= 140737488355328) {olds : List Value}
  (hold : ∀ n',(Builtin.firstCells sz n (.slice base n cap)).run P { w with drawn:=n' } = .ok olds.toArray { w with drawn:=n' }) :
  (Builtin.append_ #[t,u] ty #[.slice base n cap,x]).run P w = .ok (.slice (some ⟨w.heap.size,0,none⟩) (n + m) (grownCap w (n + m) cap el))
   (w.drew.alloc (.cells (olds.toArray ++ news.toArray ++ Builtin.zeroCells z.cells (grownCap w (n + m) cap el - (n + m))) el)):=by
 have h1:=hx.len w
 have h2 : (Builtin.firstCells sz m x).run P w.drew = .ok news.toArray w.drew:=hx.cells (w.drawn + 1)
 have h3 : (Builtin.firstCells sz n (.slice base n cap)).run P w.drew = .ok olds.toArray w.drew:=hold (w.drawn + 1)
 have hsz : (sizeOf el).run P w = .ok sz w:=by unfold sizeOf typeInfo; simp [hi,hs]
 have hti : ∀ w,(typeInfo el).run P w = .ok info w:=by intro w; unfold typeInfo; simp [hi]
 have hzv : ∀ w,(zeroValue el).run P w = .ok z w:=by intro w; unfold zeroValue; simp [hti,hz]
 have hfit:=growslice_fits hc hb
 have e1 : ¬ (n + m <= cap):=by omega
 have e2 : ¬ (((n + m : Nat) : Int) > IntKind.i64.max /\ (False \/ info.bytes = 0)):=by
  rintro ⟨h,_⟩
  simp [IntKind.max,IntKind.signed,IntKind.bits] at h
  unfold maxL at hm; omega
 have e3 : ¬ (Builtin.nextslicecap (n + m) cap * info.bytes > 2 ^ 48):=by
  have : (2 : Nat) ^ 48 = 281474976710656:=by decide
  omega
 unfold Builtin.append_
 simp only [List.getElem?_toArray,List.getElem?_cons_zero,List.getElem?_cons_succ,Sem.run_bind,run_underlying ht,run_underlying hu,Result.andThen_ok,hsz,Sem.run_pure]
 rcases hd with ⟨e',rfl⟩ | rfl
 all_goals
  simp only [Bool.false_eq_true,if_false,Bool.not_false,if_true,h1,Result.andThen_ok,e1,Sem.run_bind,hti]
  simp only [e2,if_false,e3,Result.andThen_ok,run_choose,Question.forced,Bool.false_eq_true,Sem.run_bind,hti,run_askRoom,World.drew_eq,h3,h2,hzv,newRow,run_newObj,Sem.run_pure,World.alloc_eq]
  rfl
end

theorem Src.slice {P : Program} {c : Cx} {sz : Nat} {ad : Addr} {m cp : Nat} {news : List Value} (hl : news.length = m * sz) (h : ∀ j v,news[j]? = some v -> c.w.cell? (ad.add j) = some v) :
  Src P sz c.w (.slice (some ad) m cp) m news :=
 ⟨fun _=>rfl,fun n'=>run_firstCells_some (P:=P) { c.w with drawn:=n' } sz m ad m cp news hl h⟩

theorem Src.nil {P : Program} {w : World} {sz cp : Nat} : Src P sz w (.slice none 0 cp) 0 []:=⟨fun _=>rfl,fun _=>rfl⟩

theorem Src.str {P : Program} {w : World} (s : List UInt8) : Src P 1 w (.string ⟨s.toArray⟩) s.length (s.map fun b=>Value.int .u8 b.toNat):=by
 refine ⟨fun _=>by simp [Builtin.lenOf,ByteArray.size],fun n'=>?_⟩
 simp only [Builtin.firstCells,Sem.run_pure]
 congr 1
 have : (ByteArray.extract ⟨s.toArray⟩ 0 s.length).data = s.toArray:=by
  simp [ByteArray.data_extract]
 rw [this]
 simp

section
variable {P : Program} {L : Lay} {c : Cx} {H : Heap} {e : Env} {a : Act} {k : AV -> Heap -> Prop} {ks : Heap -> Prop} {o : Oper}

theorem uY {w : World} {b off : Nat} {ad : Addr} {cs : List Value} (h1 : ad.block = b) (h2 : ad.off = off) (h3 : cs ≠ [] -> ad.spot = none)
  (h : ∀ j v,cs[j]? = some v -> w.cell? ⟨b,off + j,none⟩ = some v) : ∀ j v,cs[j]? = some v -> w.cell? (ad.add j) = some v:=by
 intro j v hj
 have hne : cs ≠ []:=by intro e; subst e; simp at hj
 have : ad = ⟨b,off,none⟩:=by cases ad; simp_all
 rw [this,addr_add]; exact h j v hj

theorem jg (hr : HR c H) {sz : Nat} {B : AV} {x : Value} {k : List AV -> Prop} (hB : EV c B x) (h : uG H sz B k) :
  ∃ l news,Src P sz c.w x l.length news /\ qJ c.w c.Im sz l news /\ k l:=by
 unfold uG at h
 split at h
 ·obtain rfl:=lW hB
  exact ⟨[],[],Src.nil,rfl,h⟩
 ·rename_i sz' l tok
  obtain ⟨hs,hk⟩:=aX.1 h
  subst hs
  obtain ⟨h1,h2⟩:=Dh hB
  rcases h2 with ⟨rfl,rfl⟩ | ⟨ad,cap,rfl,_,_,hsp,hre⟩
  ·exact ⟨[],[],Src.nil,rfl,hk⟩
  ·obtain ⟨news,g1,g2⟩:=qA hre
   refine ⟨l,news,Src.slice (dG g1) (uY rfl rfl (fun hne=>hsp (fun e=>?_)) g2),g1,hk⟩
   subst e; exact hne g1
 ·rename_i j off len cap sz'
  obtain ⟨ob,hob,h⟩:=dw.1 h
  have hok:=hr.oh hob
  split at h
  ·rename_i P9 cp l
   obtain ⟨hs,h⟩:=aX.1 h
   subst hs
   obtain ⟨hs,hin,hk⟩:=aX.1 h
   subst hs
   obtain ⟨_,e,hlc,hcm⟩:=uD hB
   subst e
   obtain ⟨cs,ty,g1,g2,g3,g4,g5,g6⟩:=hok
   obtain ⟨a',d',rfl,g7⟩:=jQ g5
   have hl : ((l.drop off).take len).length = len:=by simp; omega
   have hf:=su len (Dx off g7 (by omega))
   have hal:=dG g7
   refine ⟨(l.drop off).take len,(a'.drop (off * P9)).take (len * P9),?_,hf,hk⟩
   rw [hl]
   refine Src.slice (by rw [dG hf,hl]) fun x v hx=>?_
   rw [List.getElem?_take] at hx
   split at hx
   ·rw [List.getElem?_drop] at hx
    rw [addr_add]
    simp only [World.cell?,g1]
    have : off * P9 + x < a'.length:=(List.getElem?_eq_some_iff.1 hx).1
    simp [List.getElem?_append_left this,hx]
   ·simp at hx
  ·exact h.elim
 ·rename_i s
  obtain ⟨hs,hk⟩:=aX.1 h
  subst hs
  obtain ⟨rfl,h1⟩:=LQ hB
  refine ⟨s.map fun b=>.int .u8 b.toNat,s.map fun b=>Value.int .u8 b.toNat,by simpa using Src.str (P:=P) s,?_,hk⟩
  clear h h1 hB hk
  induction s with
  | nil=>rfl
  | cons b s ih =>
    refine ⟨[.int .u8 b.toNat],s.map fun b=>Value.int .u8 b.toNat,rfl,rfl,?_,ih⟩
    simp only [Rd]
    have:=b.toNat_lt
    refine ⟨trivial,?_⟩
    simp [qM,IntKind.min,IntKind.max,IntKind.signed,IntKind.bits]; omega
 ·exact h.elim
end
end Go.AL

namespace Go.AL

theorem EJ : ∀ {H : Heap} {k : Nat} {o : HO},hget H k = some o -> hset H k o = H
 | [],_,_,h=>by simp [hget] at h
 | (i,x) :: H,k,o,h=>by
   simp only [hget] at h
   simp only [hset]
   cases hb : Nat.beq i k with
   | true=>rw [hb] at h; simp at h; subst h; rfl
   | false=>rw [hb] at h; simp only [EJ h]

theorem xC {H : Heap} {k sz n : Nat} {o : HO} (hk : hget H k = some o) : dh (hset H k (.tok sz n)) k = some n:=by
 unfold dh; rw [jy hk]

theorem lS {H : Heap} {k j : Nat} {o : HO} (h : j ≠ k) : dh (hset H k o) j = dh H j:=by
 unfold dh; rw [pY h]

theorem Ou {c : Cx} {H : Heap} {j sz : Nat} {l : List AV} {v : Value} (hr : HR c H) (hk : hget H j = some (.tok sz l.length)) (hV : VV c (.sl sz l (.own j)) v) :
  v = .slice (c.tk j).1 l.length (c.tk j).2 /\ l.length <= (c.tk j).2 /\ (c.tk j).2 <= maxL /\ j < c.nx /\ Rd c.w c.Im (.sl sz l .no) v.cells.toList /\
  (((c.tk j).1 = none /\ l = [] /\ (c.tk j).2 = 0) \/ ∃ ad,(c.tk j).1 = some ad /\ (l ≠ [] -> ad.spot = none) /\ pq c.w c.Im sz ad.block l ad.off):=by
 have hv:=hV.1.2 rfl
 have h2:=hV.2
 simp only [VR] at h2
 obtain ⟨h3,h4,h5⟩:=h2
 have htp : c.tp j = some l.length:=by rw [hr.tp]; unfold dh; rw [hk]
 have h6:=(h5 _ htp).2 rfl
 have e : v = .slice (c.tk j).1 l.length (c.tk j).2:=cells_one hv h6
 obtain ⟨h7,h8⟩:=Dh hV
 refine ⟨e,?_,?_,h3,h4,?_⟩
 ·rcases h8 with ⟨rfl,h8⟩ | ⟨ad,cap,h8,h9,_⟩
  ·simp
  ·rw [e] at h8; injection h8 with _ _ h8; omega
 ·rcases h8 with ⟨rfl,h8⟩ | ⟨ad,cap,h8,h9,h10,_⟩
  ·rw [e] at h8; injection h8 with _ _ h8; rw [h8]; simp [maxL]
  ·rw [e] at h8; injection h8 with _ _ h8; omega
 ·rcases h8 with ⟨rfl,h8⟩ | ⟨ad,cap,h8,h9,h10,h11,h12⟩
  ·rw [e] at h8; injection h8 with g1 _ g2; exact .inl ⟨g1,rfl,g2⟩
  ·rw [e] at h8; injection h8 with g1 _ g2; exact .inr ⟨ad,g1,h11,h12⟩

theorem Kv {c : Cx} {j sz : Nat} {l : List AV} {b : Option Addr} {cap : Nat} (hj : j < c.nx) (hr : Rd c.w c.Im (.sl sz l .no) [.slice b l.length cap]) (htp : c.tp j = some l.length) (htk : c.tk j = (b,cap)) :
  VV c (.sl sz l (.own j)) (.slice b l.length cap):=by
 refine dJ rfl rfl ?_
 simp only [VR]
 refine ⟨hj,hr,fun n hn=>?_⟩
 rw [htp] at hn
 obtain rfl:=Option.some.inj hn
 exact ⟨Nat.le_refl _,fun _=>by rw [htk]⟩

section
variable {P : Program} {c : Cx} {H : Heap} {t u ty el sz j : Nat} {info : TypeInfo} {z : Value} {l m : List AV} {v x : Value} {news : List Value}

theorem zW {d : TypeDesc} (hr : HR c H) (hk : hget H j = some (.tok sz l.length)) (hV : VV c (.sl sz l (.own j)) v)
  (ht : P.underlying t = some (.slice el)) (hu : P.underlying u = some d) (hd : (∃ e,d = .slice e) \/ d = .string) (hi : P.info? el = some info) (hs : info.size = sz) (hz : info.zero = some z) (hzs : z.cells.size = sz)
  (hx : Src P sz c.w x m.length news) (hm : qJ c.w c.Im sz m news) (hlen : l.length + m.length <= maxL) (hroom : (l.length + m.length) * info.bytes <= 140737488355328) :
  ∃ c' v',(Builtin.append_ #[t,u] ty #[v,x]).run P c.w = .ok v' c'.w /\ Tr c H c' (hset H j (.tok sz (l.length + m.length))) /\ VV c' (.sl sz (l ++ m) (.own j)) v':=by
 obtain ⟨e,hc1,hc2,hj,IJ,hb⟩:=Ou hr hk hV
 have hml:=dG hm
 have Wy : c.tp j = some l.length:=by rw [hr.tp]; unfold dh; rw [hk]
 have QO : ∀ i,i ≠ j -> ∀ n,dh (hset H j (.tok sz (l.length + m.length))) i = some n -> c.tp i = some n:=fun i hi n h=>by rw [lS hi] at h; rw [hr.tp]; exact h
 by_cases hm0 : m = []
 ·subst hm0
  obtain rfl : news = []:=hm
  refine ⟨c,v,?_,?_,by simpa using hV⟩
  ·rw [e]
   have:=lT (P:=P) (ty:=ty) (base:=(c.tk j).1) (n:=l.length) (cap:=(c.tk j).2) (w':=c.w) ht hu hd hi hs hx (by simpa using hc1) (fun _ _=>rfl) (fun _=>rfl)
   simpa using this
  ·simp only [List.length_nil,Nat.add_zero]
   rw [EJ hk]; exact .refl hr
 have Vy : 0 < m.length:=List.length_pos_iff.2 hm0
 have QB : ∀ (d : Cx),d.tp = dh (hset H j (.tok sz (l.length + m.length))) -> (∀ i,i ≠ j -> d.tk i = c.tk i) ->
   ∀ k n,k < c.nx -> d.tp k = some n -> (c.tp k = some n /\ d.tk k = c.tk k) \/ ∃ m,c.tp k = some m /\ m < n:=by
  intro d hd1 hd2 k n hkn hn
  rw [hd1] at hn
  by_cases hkj : k = j
  ·subst hkj
   rw [xC hk] at hn
   obtain rfl:=Option.some.inj hn
   exact .inr ⟨_,Wy,by omega⟩
  ·exact .inl ⟨QO k hkj n hn,hd2 k hkj⟩
 by_cases hcap : l.length + m.length <= (c.tk j).2
 ·-- within the capacity
  have hne : (c.tk j).2 ≠ l.length:=by omega
  have hok:=hr.oh hk
  rcases hok with hok | ⟨b,cs,VH,g1,g2,g3,g4,g5,g6⟩
  ·exact absurd hok hne
  have hread : pq c.w c.Im sz b l 0:=by
   rcases hb with ⟨h1,_⟩ | ⟨ad,h1,_,h3⟩
   ·rw [h1] at g1; cases g1
   ·rw [h1] at g1; cases g1; exact h3
  have hfit : l.length * sz + news.length <= cs.size:=by
   rw [g3,hml,<- Nat.add_mul]; exact Nat.mul_le_mul_right _ hcap
  let cs':=(cs.toList.take (l.length * sz) ++ news ++ cs.toList.drop (l.length * sz + news.length)).toArray
  let d : Cx:={ c with w:=c.w.setRow b cs',Im:=fun b' o=>c.Im b' o \/ (b' = b /\ l.length * sz <= o /\ o < l.length * sz + news.length),tp:=dh (hset H j (.tok sz (l.length + m.length))) }
  have hblk : aC c (j,.tok sz l.length) = some b:=by simp [aC,hne,g1]
  have hheap : d.w.heap[b]? = some (.cells cs' VH):=setRow_heap c.w _ _ _ _ _ g2
  have hoth : ∀ b',b' ≠ b -> d.w.heap[b']? = c.w.heap[b']?:=fun b' hb'=>setRow_other c.w _ b' _ hb'
  have hsz' : cs'.size = cs.size:=by simp [cs']; omega
  have hcell : ∀ o,o < l.length * sz -> cs'[o]? = cs[o]?:=by
   intro o ho
   simp only [cs',List.getElem?_toArray]
   rw [List.append_assoc,List.getElem?_append_left (by simp; omega),List.getElem?_take,if_pos ho,Array.getElem?_toList]
  have hnews : ∀ i v,news[i]? = some v -> cs'[l.length * sz + i]? = some v:=by
   intro i v hv
   have hi:=(List.getElem?_eq_some_iff.1 hv).1
   have hlt : (cs.toList.take (l.length * sz)).length = l.length * sz:=by simp; omega
   simp only [cs',List.getElem?_toArray]
   have:=wu (cs.toList.take (l.length * sz)) news (cs.toList.drop (l.length * sz + news.length)) hv
   rwa [hlt] at this
  have le : c.Le d:=by
   refine ⟨fun b' o h=>⟨.inl h,?_⟩,Nat.le_refl _,fun _ _=>rfl,QB d rfl fun _ _=>rfl⟩
   by_cases hbb : b' = b
   ·subst hbb
    have : o < l.length * sz:=Nat.lt_of_not_le fun hle=>g6 o hle h
    rw [cell_of_heap hheap,cell_of_heap g2,hcell o this]
   ·exact fP (hoth b' hbb)
  have hst : (storeCells ((⟨b,0,none⟩ : Addr).add (l.length * sz)) news).run P c.w = .ok () d.w:=by
   have:=run_storeCells_at P b (l.length * sz) VH news 0 cs c.w g2 (by simpa using hfit) (nX hm)
   simp only [Nat.add_zero] at this
   rw [addr_add,Nat.zero_add]
   exact this
  refine ⟨d,.slice (c.tk j).1 (l.length + m.length) (c.tk j).2,?_,?_,?_⟩
  ·rw [e]
   exact lT (P:=P) (ty:=ty) ht hu hd hi hs hx hcap (fun ad had=>by rw [g1] at had; cases had; exact hst) (fun h=>by rw [g1] at h; cases h)
  ·refine Tr.set hr hk le rfl rfl (fun _ _=>rfl) rfl rfl rfl (by simp [d]) (fun b' _ hn=>hoth b' (fun e=>hn (by rw [hblk,e]))) ?_ ?_ ?_
   ·rintro b' o (h | ⟨rfl,_⟩)
    ·exact .inl h
    ·exact .inr (.inr hblk)
   ·intro b' h
    refine .inr ?_
    simp only [aC,d] at h
    split at h
    ·cases h
    ·rw [hblk]; rw [g1] at h; exact h
   ·by_cases htop : (c.tk j).2 = l.length + m.length
    ·exact .inl htop
    ·refine .inr ⟨b,cs',VH,g1,hheap,by rw [hsz',g3],hcap,g5,?_⟩
     rintro o ho (h | ⟨_,_,h⟩)
     ·exact g6 o (Nat.le_trans (Nat.mul_le_mul_right _ (Nat.le_add_right _ _)) ho) h
     ·rw [hml,<- Nat.add_mul] at h; omega
  ·have hR : Rd d.w d.Im (.sl sz (l ++ m) .no) [.slice (some ⟨b,0,none⟩) (l ++ m).length (c.tk j).2]:=by
    simp only [Rd]
    refine ⟨by simpa using hlen,.inr ⟨⟨b,0,none⟩,_,rfl,by simpa using hcap,g5,fun _=>rfl,Dz (Dy le.im _ _ _ _ hread) ?_⟩⟩
    refine jo (fB le.im hm) fun i v hv=>⟨?_,.inr ⟨rfl,by show _ <= 0 + l.length * sz + i; omega,by have:=(List.getElem?_eq_some_iff.1 hv).1; show 0 + l.length * sz + i < _; omega⟩⟩
    rw [cell_of_heap hheap,Nat.zero_add]
    exact hnews i v hv
   have:=Kv (c:=d) (j:=j) hj hR (by show dh _ j = _; rw [xC hk]; simp) (by show c.tk j = _; rw [<- g1])
   rw [List.length_append] at this
   rw [g1]; exact this
 ·-- a new block
  obtain ⟨olds,ho1,ho2⟩ : ∃ olds,qJ c.w c.Im sz l olds /\ Src P sz c.w (.slice (c.tk j).1 l.length (c.tk j).2) l.length olds:=by
   rcases hb with ⟨h1,rfl,h3⟩ | ⟨ad,h1,h2,h3⟩
   ·exact ⟨[],rfl,by rw [h1]; exact ⟨fun _=>rfl,fun _=>rfl⟩⟩
   ·obtain ⟨olds,g1,g2⟩:=qA h3
    refine ⟨olds,g1,?_⟩
    rw [h1]
    exact Src.slice (dG g1) (uY rfl rfl (fun hne=>h2 (fun e=>by subst e; exact hne g1)) g2)
  have hol:=dG ho1
  have hge:=grownCap_ge c.w (l.length + m.length) (c.tk j).2 el
  have hle:=grownCap_le_maxLen c.w (l.length + m.length) (c.tk j).2 el (by simpa [maxL,maxLen] using hlen)
  have hle' : grownCap c.w (l.length + m.length) (c.tk j).2 el <= maxL:=by simpa [maxL,maxLen] using hle
  have hrun:=pR (P:=P) (ty:=ty) ht hu hd hi hs hz hx (by omega : (c.tk j).2 < l.length + m.length) hlen hroom ho2.cells
  generalize hcp : grownCap c.w (l.length + m.length) (c.tk j).2 el = cap' at hge hle' hrun
  let cs:=olds.toArray ++ news.toArray ++ Builtin.zeroCells z.cells (cap' - (l.length + m.length))
  let d : Cx:={ c with w:=c.w.drew.alloc (.cells cs el),Im:=fun b o=>c.Im b o \/ (b = c.w.heap.size /\ o < (l.length + m.length) * sz),
                       tk:=fun k=>if k = j then (some ⟨c.w.heap.size,0,none⟩,cap') else c.tk k,tp:=dh (hset H j (.tok sz (l.length + m.length))) }
  have hnew : d.w.heap[c.w.heap.size]? = some (.cells cs el):=alloc_heap_new c.w.drew _
  have hold : ∀ b,b < c.w.heap.size -> d.w.heap[b]? = c.w.heap[b]?:=fun b hb=>eH c.w.drew _ hb
  have vZ : d.tk j = (some ⟨c.w.heap.size,0,none⟩,cap'):=by simp [d]
  have hcs : cs.size = cap' * sz:=by
   simp only [cs,Array.size_append,List.size_toArray,hol,hml,size_zeroCells,hzs]
   rw [<- Nat.add_mul,<- Nat.add_mul]; congr 1; omega
  have le : c.Le d:=by
   refine ⟨fun b o h=>⟨.inl h,fP (hold b (hr.im b o h))⟩,Nat.le_refl _,fun _ _=>rfl,QB d rfl fun i hi=>by simp [d,hi]⟩
  refine ⟨d,_,by rw [e]; exact hrun,?_,?_⟩
  ·refine Tr.set hr hk le rfl rfl (fun i hi=>by simp [d,hi]) rfl rfl rfl (by simp [d]) (fun b hb _=>hold b hb) ?_ ?_ ?_
   ·rintro b o (h | ⟨rfl,_⟩)
    ·exact .inl h
    ·exact .inr (.inl ⟨Nat.le_refl _,by simp [d]⟩)
   ·intro b h
    refine .inl ?_
    simp only [aC,vZ] at h
    split at h
    ·cases h
    ·simp at h; omega
   ·by_cases htop : cap' = l.length + m.length
    ·exact .inl (by rw [vZ]; exact htop)
    ·refine .inr ⟨c.w.heap.size,cs,el,by rw [vZ],hnew,by rw [vZ]; exact hcs,by rw [vZ]; exact hge,by rw [vZ]; exact hle',?_⟩
     rintro o ho (h | ⟨_,h⟩)
     ·exact absurd (hr.im _ _ h) (by omega)
     ·omega
  ·have hR : Rd d.w d.Im (.sl sz (l ++ m) .no) [.slice (some ⟨c.w.heap.size,0,none⟩) (l ++ m).length cap']:=by
    simp only [Rd]
    refine ⟨by simpa using hlen,.inr ⟨⟨c.w.heap.size,0,none⟩,_,rfl,by simpa using hge,hle',fun _=>rfl,?_⟩⟩
    refine jo (ni (fB le.im ho1) (fB le.im hm)) fun i v hv=>?_
    have hi:=(List.getElem?_eq_some_iff.1 hv).1
    refine ⟨?_,.inr ⟨rfl,by rw [List.length_append,hol,hml,<- Nat.add_mul] at hi; show 0 + i < _; omega⟩⟩
    rw [cell_of_heap hnew,Nat.zero_add]
    have : cs[i]? = (olds ++ news)[i]?:=by
     rw [<- Array.getElem?_toList]
     simp only [cs,Array.toList_append]
     rw [List.getElem?_append_left hi]
    rw [this]; exact hv
   have:=Kv (c:=d) (j:=j) hj hR (by show dh _ j = _; rw [xC hk]; simp) vZ
   rw [List.length_append] at this
   exact this
end

theorem Tr.xE {c : Cx} {H : Heap} {sz : Nat} {l : List AV} {base : Option Addr} (hr : HR c H) (IJ : Rd c.w c.Im (.sl sz l .no) [.slice base l.length l.length]) :
  ∃ d,d.w = c.w /\ Tr c H d ((nextId H,.tok sz l.length) :: H) /\ VV d (.sl sz l (.own (nextId H))) (.slice base l.length l.length):=by
 let d : Cx:={ c with nx:=c.nx + 1,tk:=fun k=>if k = c.nx then (base,l.length) else c.tk k,tp:=dh ((nextId H,.tok sz l.length) :: H) }
 have hlt : ∀ x ∈ H,x.1 < c.nx:=fun x hx=>by rw [hr.nx]; exact bf hr.ids x hx
 have htk : d.tk (nextId H) = (base,l.length):=by simp [d,hr.nx]
 have le : c.Le d:=by
  refine ⟨fun b o h=>⟨h,rfl⟩,Nat.le_succ _,fun _ _=>rfl,fun k n hk hn=>.inl ⟨?_,?_⟩⟩
  ·have : nextId H ≠ k:=by rw [<- hr.nx]; omega
   simp only [d] at hn
   rw [jq this] at hn
   rw [hr.tp]; exact hn
  ·simp only [d]; rw [if_neg (by omega)]
 have hbk : ∀ x ∈ H,aC d x = aC c x:=fun x hx=>jk rfl (by have:=hlt x hx; simp only [d]; rw [if_neg (by omega)])
 have hbn : aC d (nextId H,.tok sz l.length) = none:=by simp [aC,htk]
 refine ⟨d,rfl,⟨⟨?_,rfl,?_,hr.im,?_,?_⟩,le,rfl,rfl,rfl,Nat.le_refl _,fun _ _ _=>rfl,?_,fun _ _ h=>.inl h⟩,?_⟩
 ·simp only [d,nextId,hr.nx]
 ·exact ⟨fun x hx=>bf hr.ids x hx,hr.ids⟩
 ·intro x hx
  rcases List.mem_cons.1 hx with rfl | hx
  ·exact .inl (by rw [htk])
  ·refine lF le (hlt x hx) ?_ (fun b hb=>⟨rfl,fun y hy=>hy⟩) (hr.ok x hx)
   have:=hlt x hx; simp only [d]; rw [if_neg (by omega)]
 ·rw [List.pairwise_cons]
  constructor
  ·intro y hy b hb; rw [hbn] at hb; cases hb
  ·exact jr hr.apart fun x hx y hy h b hb=>by rw [hbk y hy]; rw [hbk x hx] at hb; exact h b hb
 ·intro y hy b hb
  rcases List.mem_cons.1 hy with rfl | hy
  ·rw [hbn] at hb; cases hb
  ·rw [hbk y hy] at hb; exact .inr ⟨y,hy,hb⟩
 ·exact Kv (by simp only [d]; rw [hr.nx]; omega) IJ (by show dh _ _ = _; rw [pI]) htk

theorem Ko {H : Heap} {k sz : Nat} {l : List AV} {o : HO} (hk : hget H k = some o) : dh (hset H k (.gV sz l)) k = some l.length:=by
 unfold dh; rw [jy hk]

theorem Bz {c : Cx} {H : Heap} {j sz : Nat} {l : List AV} {v : Value} (hr : HR c H) (hk : hget H j = some (.gV sz l)) (hV : VV c (.gs j l.length) v) :
  v = .slice (c.tk j).1 l.length (c.tk j).2 /\ j < c.nx /\ l.length <= (c.tk j).2 /\ (c.tk j).2 <= maxL:=by
 obtain ⟨h1,_,h3⟩:=Ye hV
 have htp : c.tp j = some l.length:=by rw [hr.tp]; unfold dh; rw [hk]
 refine ⟨(h3 _ htp).2 rfl,h1,?_⟩
 rcases hr.oh hk with ⟨g1,g2,rfl⟩ | ⟨b,cs,ty,g1,g2,g3,g4,g5,_⟩
 ·rw [g2]; simp [maxL]
 ·exact ⟨g4,g5⟩

theorem QZ {c : Cx} {j n : Nat} {b : Option Addr} {cap : Nat} (hj : j < c.nx) (htp : c.tp j = some n) (htk : c.tk j = (b,cap)) : VV c (.gs j n) (.slice b n cap):=by
 refine dJ rfl rfl ?_
 simp only [VR]
 refine ⟨hj,⟨_,_,_,rfl⟩,fun k hk=>?_⟩
 rw [htp] at hk
 obtain rfl:=Option.some.inj hk
 exact ⟨Nat.le_refl _,fun _=>by rw [htk]⟩

section
variable {P : Program} {c : Cx} {H : Heap} {t u ty el sz j : Nat} {info : TypeInfo} {z : Value} {l m : List AV} {v x : Value} {news : List Value}

theorem Xb {d : TypeDesc} (hr : HR c H) (hk : hget H j = some (.gV sz l)) (hV : VV c (.gs j l.length) v)
  (ht : P.underlying t = some (.slice el)) (hu : P.underlying u = some d) (hd : (∃ e,d = .slice e) \/ d = .string) (hi : P.info? el = some info) (hs : info.size = sz) (hz : info.zero = some z) (hzs : z.cells.size = sz)
  (hx : Src P sz c.w x m.length news) (hm : qJ c.w c.Im sz m news) (hm0 : m ≠ []) (hlen : l.length + m.length <= maxL) (hroom : (l.length + m.length) * info.bytes <= 140737488355328) :
  ∃ c' v',(Builtin.append_ #[t,u] ty #[v,x]).run P c.w = .ok v' c'.w /\ Tr c H c' (hset H j (.gV sz (l ++ m))) /\ VV c' (.gs j (l.length + m.length)) v':=by
 obtain ⟨e,hj,hc1,hc2⟩:=Bz hr hk hV
 have hml:=dG hm
 have Wy : c.tp j = some l.length:=by rw [hr.tp]; unfold dh; rw [hk]
 have QO : ∀ i,i ≠ j -> ∀ n,dh (hset H j (.gV sz (l ++ m))) i = some n -> c.tp i = some n:=fun i hi n h=>by rw [lS hi] at h; rw [hr.tp]; exact h
 have Vy : 0 < m.length:=List.length_pos_iff.2 hm0
 have WA : dh (hset H j (.gV sz (l ++ m))) j = some (l.length + m.length):=by rw [Ko hk]; simp
 have QB : ∀ (d : Cx),d.tp = dh (hset H j (.gV sz (l ++ m))) -> (∀ i,i ≠ j -> d.tk i = c.tk i) ->
   ∀ k n,k < c.nx -> d.tp k = some n -> (c.tp k = some n /\ d.tk k = c.tk k) \/ ∃ m,c.tp k = some m /\ m < n:=by
  intro d hd1 hd2 k n hkn hn
  rw [hd1] at hn
  by_cases hkj : k = j
  ·subst hkj
   rw [WA] at hn
   obtain rfl:=Option.some.inj hn
   exact .inr ⟨_,Wy,by omega⟩
  ·exact .inl ⟨QO k hkj n hn,hd2 k hkj⟩
 by_cases hcap : l.length + m.length <= (c.tk j).2
 ·-- within the capacity
  rcases hr.oh hk with ⟨g1,g2,_⟩ | ⟨b,cs,VH,g1,g2,g3,g4,g5,g6,g7⟩
  ·omega
  obtain ⟨a',d',rfl,g8⟩:=jQ g6
  have hal:=dG g8
  have hfit : l.length * sz + news.length <= (a' ++ d').toArray.size:=by
   rw [List.size_toArray,g3,hml,<- Nat.add_mul]; exact Nat.mul_le_mul_right _ hcap
  let cs':=((a' ++ d').toArray.toList.take (l.length * sz) ++ news ++ (a' ++ d').toArray.toList.drop (l.length * sz + news.length)).toArray
  let d : Cx:={ c with w:=c.w.setRow b cs',tp:=dh (hset H j (.gV sz (l ++ m))) }
  have hblk : aC c (j,.gV sz l) = some b:=by simp [aC,g1]
  have hheap : d.w.heap[b]? = some (.cells cs' VH):=setRow_heap c.w _ _ _ _ _ g2
  have hoth : ∀ b',b' ≠ b -> d.w.heap[b']? = c.w.heap[b']?:=fun b' hb'=>setRow_other c.w _ b' _ hb'
  have hcs' : cs'.toList = a' ++ news ++ (a' ++ d').drop (l.length * sz + news.length):=by
   simp only [cs']
   rw [<- hal,List.take_append_of_le_length (Nat.le_refl _),List.take_length]
  have hsz' : cs'.toList.length = (a' ++ d').length:=by
   rw [hcs']; simp only [List.length_append,List.length_drop,List.size_toArray] at hfit ⊢; omega
  have le : c.Le d:=by
   refine ⟨fun b' o h=>⟨h,?_⟩,Nat.le_refl _,fun _ _=>rfl,QB d rfl fun _ _=>rfl⟩
   by_cases hbb : b' = b
   ·subst hbb; exact absurd h (g7 o)
   ·exact fP (hoth b' hbb)
  have hst : (storeCells ((⟨b,0,none⟩ : Addr).add (l.length * sz)) news).run P c.w = .ok () d.w:=by
   have:=run_storeCells_at P b (l.length * sz) VH news 0 (a' ++ d').toArray c.w g2 (by simpa using hfit) (nX hm)
   simp only [Nat.add_zero] at this
   rw [addr_add,Nat.zero_add]
   exact this
  refine ⟨d,.slice (c.tk j).1 (l.length + m.length) (c.tk j).2,?_,?_,?_⟩
  ·rw [e]
   exact lT (P:=P) (ty:=ty) ht hu hd hi hs hx hcap (fun ad had=>by rw [g1] at had; cases had; exact hst) (fun h=>by rw [g1] at h; cases h)
  ·refine Tr.set hr hk le rfl rfl (fun _ _=>rfl) rfl rfl rfl (by simp [d]) (fun b' _ hn=>hoth b' (fun e=>hn (by rw [hblk,e]))) (fun b' o h=>.inl h) ?_ ?_
   ·intro b' h
    refine .inr ?_
    rw [hblk]
    simp only [aC,d,g1] at h
    exact h
   ·refine .inr ⟨b,cs'.toList,VH,g1,by simpa using hheap,by rw [hsz']; exact g3,by simpa using hcap,g5,?_,fun o h=>g7 o h⟩
    rw [hcs']
    exact kP (c:=d) (ni (fB le.im g8) (fB le.im hm))
  ·exact QZ (c:=d) (j:=j) hj WA rfl
 ·-- a new block
  obtain ⟨olds,ho1,ho2⟩ : ∃ olds,qJ c.w c.Im sz l olds /\ Src P sz c.w (.slice (c.tk j).1 l.length (c.tk j).2) l.length olds:=by
   rcases hr.oh hk with ⟨g1,g2,rfl⟩ | ⟨b,cs,VH,g1,g2,g3,g4,g5,g6,g7⟩
   ·exact ⟨[],rfl,by rw [g1]; exact ⟨fun _=>rfl,fun _=>rfl⟩⟩
   ·obtain ⟨a',d',rfl,g8⟩:=jQ g6
    refine ⟨a',g8,?_⟩
    rw [g1]
    refine Src.slice (dG g8) fun y v hy=>?_
    rw [addr_add,Nat.zero_add]
    have : y < a'.length:=(List.getElem?_eq_some_iff.1 hy).1
    simp only [World.cell?,g2]
    simp [List.getElem?_append_left this,hy]
  have hol:=dG ho1
  have hge:=grownCap_ge c.w (l.length + m.length) (c.tk j).2 el
  have hle:=grownCap_le_maxLen c.w (l.length + m.length) (c.tk j).2 el (by simpa [maxL,maxLen] using hlen)
  have hle' : grownCap c.w (l.length + m.length) (c.tk j).2 el <= maxL:=by simpa [maxL,maxLen] using hle
  have hrun:=pR (P:=P) (ty:=ty) ht hu hd hi hs hz hx (by omega : (c.tk j).2 < l.length + m.length) hlen hroom ho2.cells
  generalize hcp : grownCap c.w (l.length + m.length) (c.tk j).2 el = cap' at hge hle' hrun
  let cs:=olds.toArray ++ news.toArray ++ Builtin.zeroCells z.cells (cap' - (l.length + m.length))
  let d : Cx:={ c with w:=c.w.drew.alloc (.cells cs el),
                       tk:=fun k=>if k = j then (some ⟨c.w.heap.size,0,none⟩,cap') else c.tk k,tp:=dh (hset H j (.gV sz (l ++ m))) }
  have hnew : d.w.heap[c.w.heap.size]? = some (.cells cs el):=alloc_heap_new c.w.drew _
  have hold : ∀ b,b < c.w.heap.size -> d.w.heap[b]? = c.w.heap[b]?:=fun b hb=>eH c.w.drew _ hb
  have vZ : d.tk j = (some ⟨c.w.heap.size,0,none⟩,cap'):=by simp [d]
  have hcs : cs.toList.length = cap' * sz:=by
   rw [Array.length_toList]
   simp only [cs,Array.size_append,List.size_toArray,hol,hml,size_zeroCells,hzs]
   rw [<- Nat.add_mul,<- Nat.add_mul]; congr 1; omega
  have le : c.Le d:=by
   refine ⟨fun b o h=>⟨h,fP (hold b (hr.im b o h))⟩,Nat.le_refl _,fun _ _=>rfl,QB d rfl fun i hi=>by simp [d,hi]⟩
  refine ⟨d,_,by rw [e]; exact hrun,?_,?_⟩
  ·refine Tr.set hr hk le rfl rfl (fun i hi=>by simp [d,hi]) rfl rfl rfl (by simp [d]) (fun b hb _=>hold b hb) (fun b o h=>.inl h) ?_ ?_
   ·intro b h
    refine .inl ?_
    simp only [aC,vZ] at h
    simp at h; omega
   ·refine .inr ⟨c.w.heap.size,cs.toList,el,by rw [vZ],by simpa using hnew,by rw [vZ]; exact hcs,by rw [vZ]; simpa using hge,by rw [vZ]; exact hle',?_,fun o h=>?_⟩
    ·have ec : cs.toList = olds ++ news ++ (Builtin.zeroCells z.cells (cap' - (l.length + m.length))).toList:=by simp [cs]
     rw [ec]
     exact kP (c:=d) (ni (fB le.im ho1) (fB le.im hm))
    ·exact absurd (hr.im _ _ h) (by omega)
  ·exact QZ (c:=d) (j:=j) hj WA vZ
end

theorem Tr.Ua {c : Cx} {H : Heap} (sz : Nat) (hr : HR c H) :
  ∃ d,d.w = c.w /\ Tr c H d ((nextId H,.gV sz []) :: H) /\ VV d (.gs (nextId H) 0) (.slice none 0 0):=by
 let d : Cx:={ c with nx:=c.nx + 1,tk:=fun k=>if k = c.nx then (none,0) else c.tk k,tp:=dh ((nextId H,.gV sz []) :: H) }
 have hlt : ∀ x ∈ H,x.1 < c.nx:=fun x hx=>by rw [hr.nx]; exact bf hr.ids x hx
 have htk : d.tk (nextId H) = (none,0):=by simp [d,hr.nx]
 have le : c.Le d:=by
  refine ⟨fun b o h=>⟨h,rfl⟩,Nat.le_succ _,fun _ _=>rfl,fun k n hk hn=>.inl ⟨?_,?_⟩⟩
  ·have : nextId H ≠ k:=by rw [<- hr.nx]; omega
   simp only [d] at hn
   rw [jq this] at hn
   rw [hr.tp]; exact hn
  ·simp only [d]; rw [if_neg (by omega)]
 have hbk : ∀ x ∈ H,aC d x = aC c x:=fun x hx=>jk rfl (by have:=hlt x hx; simp only [d]; rw [if_neg (by omega)])
 have hbn : aC d (nextId H,.gV sz []) = none:=by simp [aC,htk]
 refine ⟨d,rfl,⟨⟨?_,rfl,?_,hr.im,?_,?_⟩,le,rfl,rfl,rfl,Nat.le_refl _,fun _ _ _=>rfl,?_,fun _ _ h=>.inl h⟩,?_⟩
 ·simp only [d,nextId,hr.nx]
 ·exact ⟨fun x hx=>bf hr.ids x hx,hr.ids⟩
 ·intro x hx
  rcases List.mem_cons.1 hx with rfl | hx
  ·exact .inl ⟨by rw [htk],by rw [htk],rfl⟩
  ·refine lF le (hlt x hx) ?_ (fun b hb=>⟨rfl,fun y hy=>hy⟩) (hr.ok x hx)
   have:=hlt x hx; simp only [d]; rw [if_neg (by omega)]
 ·rw [List.pairwise_cons]
  constructor
  ·intro y hy b hb; rw [hbn] at hb; cases hb
  ·exact jr hr.apart fun x hx y hy h b hb=>by rw [hbk y hy]; rw [hbk x hx] at hb; exact h b hb
 ·intro y hy b hb
  rcases List.mem_cons.1 hy with rfl | hy
  ·rw [hbn] at hb; cases hb
  ·rw [hbk y hy] at hb; exact .inr ⟨y,hy,hb⟩
 ·exact QZ (by simp only [d]; rw [hr.nx]; omega) (by show dh _ _ = _; rw [pI]; rfl) htk

theorem Tr.thaw {c : Cx} {H : Heap} {j sz : Nat} {l : List AV} {v : Value} (hr : HR c H) (ho : hget H j = some (.gV sz l)) (ne : l ≠ []) (hV : VV c (.gs j l.length) v) :
  ∃ cp,l.length <= cp /\ cp <= maxL /\ ∃ d,d.w = c.w /\ Tr c H d ((nextId H,.arr sz cp l) :: hset H j .gone) /\ VV d (.ms (nextId H) 0 l.length cp sz) v:=by
 obtain ⟨e,hj,hc1,hc2⟩:=Bz hr ho hV
 rcases hr.oh ho with ⟨_,_,h0⟩ | ⟨b,cs,ty,g1,g2,g3,g4,g5,g6,g7⟩
 ·exact absurd h0 ne
 refine ⟨(c.tk j).2,hc1,hc2,?_⟩
 have hjm:=gu ho
 have hbs : b < c.w.heap.size:=(Array.getElem?_eq_some_iff.1 g2).1
 let d : Cx:={ c with nx:=c.nx + 1,ρ:=fun k=>if k = c.nx then b else c.ρ k,tp:=dh ((nextId H,.arr sz (c.tk j).2 l) :: hset H j .gone) }
 have hlt : ∀ x ∈ H,x.1 < c.nx:=fun x hx=>by rw [hr.nx]; exact bf hr.ids x hx
 have hρ : d.ρ (nextId H) = b:=by simp [d,hr.nx]
 have D6:=mV (k:=j) (o':=.gone) hr.ids
 have le : c.Le d:=by
  refine ⟨fun b o h=>⟨h,rfl⟩,Nat.le_succ _,fun k hk=>?_,fun k n hk hn=>.inl ⟨?_,rfl⟩⟩
  ·simp only [d]; rw [if_neg (by omega)]
  ·have hne : nextId H ≠ k:=by rw [<- hr.nx]; omega
   simp only [d] at hn
   rw [jq hne] at hn
   by_cases hkj : k = j
   ·subst hkj; unfold dh at hn; rw [jy ho] at hn; simp at hn
   ·rw [lS hkj] at hn; rw [hr.tp]; exact hn
 have hbk : ∀ x ∈ H,aC d x = aC c x:=fun x hx=>jk (by have:=hlt x hx; simp only [d]; rw [if_neg (by omega)]) rfl
 have hbn : aC d (nextId H,.arr sz (c.tk j).2 l) = some b:=by simp [aC,hρ]
 have hbj : aC c (j,.gV sz l) = some b:=by simp [aC,g1]
 have hne : ∀ x ∈ H,x.1 ≠ j -> ∀ b',aC c x = some b' -> b' ≠ b:=fun x hx hn b' hb' e=>hr.apart' hx hjm hn hb' (by rw [e]; exact hbj)
 refine ⟨d,rfl,⟨⟨?_,rfl,⟨fun x hx=>?_,D6⟩,hr.im,?_,?_⟩,le,rfl,rfl,rfl,Nat.le_refl _,fun _ _ _=>rfl,?_,fun _ _ h=>.inl h⟩,?_⟩
 ·simp only [d,nextId,hr.nx]
 ·have:=bf D6 x hx
  rw [qW] at this; exact this
 ·intro x hx
  rcases List.mem_cons.1 hx with rfl | hx
  ·show (HO.arr sz (c.tk j).2 l).Ok d (nextId H)
   refine ⟨cs,ty,by rw [hρ]; exact g2,g3,g4,g5,lD le g6,fun o h=>?_⟩
   rw [hρ] at h; exact g7 o h
  ·rcases gW hr.ids hx with rfl | ⟨hx,hn⟩
   ·trivial
   ·exact lF le (hlt x hx) rfl (fun b hb=>⟨rfl,fun y hy=>hy⟩) (hr.ok x hx)
 ·rw [List.pairwise_cons]
  constructor
  ·intro y hy b' hb hb'
   rw [hbn] at hb
   obtain rfl:=Option.some.inj hb
   rcases gW hr.ids hy with rfl | ⟨hy,hn⟩
   ·simp [aC] at hb'
   ·rw [hbk y hy] at hb'
    exact hne y hy hn _ hb' rfl
  ·refine eU D6 fun x hx y hy hn b hb hb'=>?_
   rcases gW hr.ids hx with rfl | ⟨hx,_⟩
   ·simp [aC] at hb
   ·rcases gW hr.ids hy with rfl | ⟨hy,_⟩
    ·simp [aC] at hb'
    ·rw [hbk x hx] at hb; rw [hbk y hy] at hb'
     exact hr.apart' hx hy hn hb hb'
 ·intro y hy b' hb
  rcases List.mem_cons.1 hy with rfl | hy
  ·rw [hbn] at hb
   obtain rfl:=Option.some.inj hb
   exact .inr ⟨_,hjm,hbj⟩
  ·rcases gW hr.ids hy with rfl | ⟨hy,_⟩
   ·simp [aC] at hb
   ·rw [hbk y hy] at hb; exact .inr ⟨y,hy,hb⟩
 ·rw [e]
  refine dJ rfl rfl ?_
  simp only [VR]
  refine ⟨by simp only [d]; rw [hr.nx]; omega,?_,hc1,hc2⟩
  rw [hρ,g1,Nat.zero_mul]

theorem Tr.Gq {c : Cx} {H : Heap} {j sz : Nat} {l : List AV} {v : Value} (hr : HR c H) (ho : hget H j = some (.gV sz l)) (hl : l.length <= maxL) (hV : VV c (.gs j l.length) v) :
  ∃ d,d.w = c.w /\ Tr c H d (hset H j .gone) /\ VV d (.sl sz l .no) v:=by
 obtain ⟨e,hj,hc1,hc2⟩:=Bz hr ho hV
 have Zh : ∀ k n,dh (hset H j .gone) k = some n -> c.tp k = some n:=by
  intro k n hn
  by_cases hkj : k = j
  ·subst hkj; unfold dh at hn; rw [jy ho] at hn; simp at hn
  ·rw [lS hkj] at hn; rw [hr.tp]; exact hn
 rcases hr.oh ho with ⟨g1,g2,rfl⟩ | ⟨b,cs,ty,g1,g2,g3,g4,g5,g6,g7⟩
 ·let d : Cx:={ c with tp:=dh (hset H j .gone) }
  have le : c.Le d:=⟨fun b o h=>⟨h,rfl⟩,Nat.le_refl _,fun _ _=>rfl,fun k n _ h=>.inl ⟨Zh k n h,rfl⟩⟩
  refine ⟨d,rfl,Tr.set hr ho le rfl rfl (fun _ _=>rfl) rfl rfl rfl (Nat.le_refl _) (fun _ _ _=>rfl) (fun _ _ h=>.inl h) (fun b h=>by simp [aC] at h) trivial,?_⟩
  rw [e,g1,g2]
  refine dJ rfl rfl ?_
  simp only [VR,Rd]
  exact ⟨hl,.inl ⟨trivial,rfl⟩⟩
 ·obtain ⟨a',d',rfl,g8⟩:=jQ g6
  let d : Cx:={ c with Im:=fun b' o=>c.Im b' o \/ b' = b,tp:=dh (hset H j .gone) }
  have le : c.Le d:=⟨fun b o h=>⟨.inl h,rfl⟩,Nat.le_refl _,fun _ _=>rfl,fun k n _ h=>.inl ⟨Zh k n h,rfl⟩⟩
  have hbj : aC c (j,.gV sz l) = some b:=by simp [aC,g1]
  refine ⟨d,rfl,Tr.set hr ho le rfl rfl (fun _ _=>rfl) rfl rfl rfl (Nat.le_refl _) (fun _ _ _=>rfl) ?_ (fun b h=>by simp [aC] at h) trivial,?_⟩
  ·rintro b' x (h | rfl)
   ·exact .inl h
   ·exact .inr (.inr hbj)
  ·rw [e,g1]
   refine dJ rfl rfl ?_
   simp only [VR,Rd]
   refine ⟨hl,.inr ⟨⟨b,0,none⟩,_,rfl,hc1,hc2,fun _=>rfl,jo (fB le.im g8) fun x v hx=>⟨?_,.inr rfl⟩⟩⟩
   have : x < a'.length:=(List.getElem?_eq_some_iff.1 hx).1
   show c.w.cell? _ = _
   rw [cell_of_heap g2]
   simp [List.getElem?_append_left this,hx]

theorem sN {c : Cx} {sz : Nat} {v : Value} (h : VV c .bH v) : ∃ base,v = .slice base ([] : List AV).length ([] : List AV).length /\ Rd c.w c.Im (.sl sz [] .no) [.slice base ([] : List AV).length ([] : List AV).length]:=by
 obtain rfl:=lW h
 refine ⟨none,rfl,?_⟩
 simp only [Rd]; exact ⟨by simp [maxL],.inl ⟨trivial,rfl⟩⟩

theorem sV {c : Cx} {sz : Nat} {l : List AV} {v : Value} (h : VV c (.sl sz l .full) v) : ∃ base,v = .slice base l.length l.length /\ Rd c.w c.Im (.sl sz l .no) [.slice base l.length l.length]:=by
 have hv:=h.1.2 rfl
 have h2:=h.2
 simp only [VR] at h2
 obtain ⟨h3,b,h4⟩:=h2
 have e:=cells_one hv h4
 refine ⟨b,e,?_⟩
 rw [<- h4]; exact h3

end Go.AL

namespace Go.AL

section
variable {P : Program} {L : Lay} {c : Cx} {H : Heap} {e : Env} {a : Act} {k : AV -> Heap -> Prop} {ks : Heap -> Prop} {o : Oper}

theorem Kq {u : Nat} {X : Prop} (hat : L.aW u fun i=>(match i.desc with | .slice _=>X | .str=>X | _=>False)) (hL : bW P L) : (∃ d,P.underlying u = some d /\ ((∃ e,d = .slice e) \/ d = .string)) /\ X:=by
 obtain ⟨i,hT,h⟩:=Lay.aQ hL hat
 obtain ⟨d,hd,hdd⟩:=hT.under
 cases hi : i.desc <;> simp only [hi] at h <;> first | exact h.elim | skip
 ·exact ⟨⟨d,hd,.inr (kJ (hdd.trans hi))⟩,h⟩
 ·exact ⟨⟨d,hd,.inl ⟨_,bC (hdd.trans hi)⟩⟩,h⟩

theorem OA (hL : bW P L) {cl : Call} {t u : Nat} {r : List Nat} {A B : AV} (hr : HR c H) (ho : o.op = .call cl) (hc : cl.callee = .builtin .append) (hat : cl.argTypes.toList = t :: u :: r)
  {v x : Value} (hv : cl.args.toList.map a.eval = [v,x]) (hA : EV c A v) (hB : EV c B x)
  (h : L.aW u fun i=>(match i.desc with
  | .slice _=>je L t A B H k
  | .str=>je L t A B H k
  | _=>False)) : bQ P o a.eval c H k ks:=by
 have hh:=Kq h hL
 clear h
 obtain ⟨⟨d,hu,hd⟩,h⟩:=hh
 unfold je at h
 have hh:=Lay.aQ hL h
 clear h
 obtain ⟨i,hT,h⟩:=hh
 obtain ⟨dt,ht,hdt⟩:=hT.under
 split at h
 case h_2=>exact h.elim
 rename_i el hi
 obtain rfl:=bC (hdt.trans hi)
 have hh:=Lay.aQ hL h
 clear h
 obtain ⟨ei,hE,h⟩:=hh
 obtain ⟨info,z,g1,g2,g3,g4,g5,g6⟩:=hE.info
 have hzs : z.cells.size = flat ei.zero:=by rw [<- Array.length_toList]; exact bV _ _ (g6 c.w c.Im)
 have uh : ∀ r w',(Builtin.append_ #[t,u] o.type #[v,x]).run P c.w = .ok r w' -> (execOp a.eval o).run P c.w = .ok (.value r) w':=by
  intro rr w' hrr
  rw [gG ho hc,gI hv]
  have e2 : (Builtin.append_ cl.argTypes o.type #[v,x]).run P c.w = (Builtin.append_ #[t,u] o.type #[v,x]).run P c.w:=by
   have e0 : cl.argTypes[0]? = some t:=by rw [<- Array.getElem?_toList,hat]; rfl
   have e1 : cl.argTypes[1]? = some u:=by rw [<- Array.getElem?_toList,hat]; rfl
   unfold Builtin.append_
   simp only [e0,e1]
   rfl
  simp only [builtin,Sem.run_bind,e2,hrr,Result.andThen_ok,Sem.run_pure]
 have fin : ∀ (d0 : Cx) (l m : List AV) (j : Nat) (H0 : Heap),d0.w = c.w -> Tr c H d0 H0 -> hget H0 j = some (.tok (flat ei.zero) l.length) -> VV d0 (.sl (flat ei.zero) l (.own j)) v ->
   (∃ news,Src P (flat ei.zero) c.w x m.length news /\ qJ c.w c.Im (flat ei.zero) m news) -> l.length + m.length <= maxL -> (l.length + m.length) * ei.bytes <= 140737488355328 ->
   k (.sl (flat ei.zero) (l ++ m) (.own j)) (hset H0 j (.tok (flat ei.zero) (l.length + m.length))) -> bQ P o a.eval c H k ks:=by
  rintro d0 l m j H0 hw htr hk hV ⟨news,hx,hm⟩ h1 h2 h3
  obtain ⟨c',v',hrun,iI,hV'⟩:=zW (P:=P) (ty:=o.type) htr.hr hk hV ht hu hd g1 g2 g4 hzs (by rw [hw]; exact hx) (fB htr.le.im hm) h1 (by rw [g3]; exact h2)
  rw [hw] at hrun
  exact .inl ⟨v',c',_,_,uh _ _ hrun,htr.trans iI,aS hV',h3⟩
 have vS : ∀ (d0 : Cx) (l m : List AV),d0.w = c.w -> Tr c H d0 ((nextId H,.tok (flat ei.zero) l.length) :: H) -> VV d0 (.sl (flat ei.zero) l (.own (nextId H))) v ->
   (∃ news,Src P (flat ei.zero) c.w x m.length news /\ qJ c.w c.Im (flat ei.zero) m news) -> l.length + m.length <= maxL -> (l.length + m.length) * ei.bytes <= 140737488355328 ->
   k (.sl (flat ei.zero) (l ++ m) .no) H -> bQ P o a.eval c H k ks:=by
  rintro d0 l m hw htr hV ⟨news,hx,hm⟩ h1 h2 h3
  obtain ⟨c',v',hrun,iI,hV'⟩:=zW (P:=P) (ty:=o.type) htr.hr (j:=nextId H) (by simp [hget]) hV ht hu hd g1 g2 g4 hzs (by rw [hw]; exact hx) (fB htr.le.im hm) h1 (by rw [g3]; exact h2)
  rw [hw] at hrun
  have zn:=htr.trans iI
  have hset' : hset ((nextId H,HO.tok (flat ei.zero) l.length) :: H) (nextId H) (.tok (flat ei.zero) (l.length + m.length)) = (nextId H,.tok (flat ei.zero) (l.length + m.length)) :: H:=by simp [hset]
  rw [hset'] at zn
  have hwk : L6 ((nextId H,.tok (flat ei.zero) (l.length + m.length)) :: H) H:=by
   refine ⟨G9 fun k' o' hmem=>?_,hr.ids⟩
   have hlt:=bf hr.ids _ hmem
   have hlt : k' < nextId H:=hlt
   have hok:=hr.ok _ hmem
   refine ⟨o',?_,Bh o',?_⟩
   ·simp only [hget]
    have hne : Nat.beq (nextId H) k' = false:=by
     cases hb : Nat.beq (nextId H) k' with
     | false=>rfl
     | true=>have:=Nat.eq_of_beq_eq_true hb; omega
    rw [hne]; exact kU hr.ids hmem
   ·rw [<- hr.nx]
    cases o' with
    | box A=>obtain ⟨cs,ty,_,h2,_⟩:=hok; exact rX _ _ h2
    | iD sh es=>obtain ⟨ents,clock,_,h2,_⟩:=hok; exact Ad h2
    | _=>rfl
  refine .inl ⟨v',c'.cut H,_,H,uh _ _ hrun,zn.cut hwk (by rw [hr.nx]; exact Nat.le_refl _),aS ?_,h3⟩
  refine Di (fun k n hn=>by rw [zn.hr.tp]; exact hwk.tp k n hn) rfl ?_
  exact xQ (by simp only [le0]; exact ⟨trivial,aP _⟩) hV'
 split at h
 ·obtain ⟨m,news,hx,hm,h⟩:=jg hr hB h
  obtain ⟨base,rfl,IJ⟩:=sN (sz:=flat ei.zero) hA
  obtain ⟨d0,hw,htr,hV⟩:=Tr.xE hr IJ
  cases h with
  | tok h1 h2 h3 =>
    refine fin d0 [] m _ _ hw htr (by simp [hget]) hV ⟨news,hx,hm⟩ h1 h2 ?_
    have:=dO.1 h3
    simpa [hset] using this
  | pure h1 h2 h3=>exact vS d0 [] m hw htr hV ⟨news,hx,hm⟩ h1 h2 h3
 ·rename_i sz l
  obtain ⟨rfl,h⟩:=aX.1 h
  obtain ⟨m,news,hx,hm,h⟩:=jg hr hB h
  obtain ⟨base,rfl,IJ⟩:=sV hA
  obtain ⟨d0,hw,htr,hV⟩:=Tr.xE hr IJ
  cases h with
  | tok h1 h2 h3 =>
    refine fin d0 l m _ _ hw htr (by simp [hget]) hV ⟨news,hx,hm⟩ h1 h2 ?_
    have:=dO.1 h3
    simpa [hset] using this
  | pure h1 h2 h3=>exact vS d0 l m hw htr hV ⟨news,hx,hm⟩ h1 h2 h3
 ·rename_i sz l j
  obtain ⟨rfl,h⟩:=aX.1 h
  obtain ⟨m,news,hx,hm,h⟩:=jg hr hB h
  obtain ⟨ob,hob,h⟩:=dw.1 h
  split at h
  ·rename_i sz' top
   have hh:=aX.1 h
   clear h
   obtain ⟨rfl,rfl,h⟩:=hh
   obtain ⟨_,g7⟩:=fK.1 h.next
   exact fin c l m j H rfl (.refl hr) hob hA ⟨news,hx,hm⟩ h.len h.room g7
  ·exact h.elim
 ·exact h.elim

theorem Du {c : Cx} : ∀ (n : Nat) {l : List AV} {cs : List Value},yB c 1 l cs -> yB c 1 (l.drop n) (cs.drop n)
 | 0,_,_,h=>h
 | _ + 1,[],_,_=>trivial
 | n + 1,x :: l,cs,h=>by
   obtain ⟨a,d,rfl,h2,h3,h4⟩:=h
   obtain ⟨y,rfl⟩ : ∃ y,a = [y]:=by
    match a,h2 with
    | [y],_=>exact ⟨y,rfl⟩
   exact Du n h4

theorem tJ {c : Cx} {m : List AV} {ds : List Value} : ∀ {l : List AV} {cs : List Value},yB c 1 l cs -> cs.length = l.length -> yB c 1 m ds -> yB c 1 (l ++ m) (cs ++ ds)
 | [],cs,_,hl,h=>by
   obtain rfl : cs = []:=List.eq_nil_of_length_eq_zero (by simpa using hl)
   exact h
 | x :: l,cs,hx,hl,h=>by
   obtain ⟨a,d,rfl,h2,h3,h4⟩:=hx
   refine ⟨a,d ++ ds,by rw [List.append_assoc],h2,h3,tJ h4 ?_ h⟩
   simp at hl; omega

theorem Dq {c : Cx} : ∀ (n : Nat) {l : List AV} {cs : List Value},yB c 1 l cs -> yB c 1 (l.take n) (cs.take n)
 | 0,_,_,_=>trivial
 | _ + 1,[],_,_=>trivial
 | n + 1,x :: l,cs,h=>by
   obtain ⟨a,d,rfl,h2,h3,h4⟩:=h
   obtain ⟨y,rfl⟩ : ∃ y,a = [y]:=by
    match a,h2 with
    | [y],_=>exact ⟨y,rfl⟩
   exact ⟨[y],d.take n,rfl,rfl,h3,Dq n h4⟩

theorem Hg {c : Cx} {z : AV} {y : Value} (h : Rd c.w c.Im z [y]) : ∀ n,yB c 1 (List.replicate n z) (List.replicate n y)
 | 0=>trivial
 | n + 1=>⟨[y],List.replicate n y,rfl,rfl,h,Hg h n⟩

theorem KG (hL : bW P L) {cl : Call} {t u : Nat} {r : List Nat} {A B : AV} (hr : HR c H) (ho : o.op = .call cl) (hc : cl.callee = .builtin .append) (hat : cl.argTypes.toList = t :: u :: r)
  {v x : Value} (hv : cl.args.toList.map a.eval = [v,x]) (hA : EV c A v) (hB : EV c B x)
  (hh : (∃ d,P.underlying u = some d /\ ((∃ e,d = .slice e) \/ d = .string)) /\ wZ L t A B H k) : bQ P o a.eval c H k ks:=by
 obtain ⟨⟨d,hu,hd⟩,h⟩:=hh
 unfold wZ at h
 have hh:=Lay.aQ hL h
 clear h
 obtain ⟨i,hT,h⟩:=hh
 obtain ⟨dt,ht,hdt⟩:=hT.under
 split at h
 case h_2=>exact h.elim
 rename_i el hi
 obtain rfl:=bC (hdt.trans hi)
 have hh:=Lay.aQ hL h
 clear h
 obtain ⟨ei,hE,h⟩:=hh
 obtain ⟨info,z,g1,g2,g3,g4,g5,g6⟩:=hE.info
 have hzs : z.cells.size = flat ei.zero:=by rw [<- Array.length_toList]; exact bV _ _ (g6 c.w c.Im)
 have uh : ∀ r w',(Builtin.append_ #[t,u] o.type #[v,x]).run P c.w = .ok r w' -> (execOp a.eval o).run P c.w = .ok (.value r) w':=by
  intro rr w' hrr
  rw [gG ho hc,gI hv]
  have e2 : (Builtin.append_ cl.argTypes o.type #[v,x]).run P c.w = (Builtin.append_ #[t,u] o.type #[v,x]).run P c.w:=by
   have e0 : cl.argTypes[0]? = some t:=by rw [<- Array.getElem?_toList,hat]; rfl
   have e1 : cl.argTypes[1]? = some u:=by rw [<- Array.getElem?_toList,hat]; rfl
   unfold Builtin.append_
   simp only [e0,e1]
   rfl
  simp only [builtin,Sem.run_bind,e2,hrr,Result.andThen_ok,Sem.run_pure]
 have fin : ∀ (d0 : Cx) (l m : List AV) (j : Nat) (H0 : Heap),d0.w = c.w -> Tr c H d0 H0 -> hget H0 j = some (.tok (flat ei.zero) l.length) -> VV d0 (.sl (flat ei.zero) l (.own j)) v ->
   (∃ news,Src P (flat ei.zero) c.w x m.length news /\ qJ c.w c.Im (flat ei.zero) m news) -> l.length + m.length <= maxL -> (l.length + m.length) * ei.bytes <= 140737488355328 ->
   k (.sl (flat ei.zero) (l ++ m) (.own j)) (hset H0 j (.tok (flat ei.zero) (l.length + m.length))) -> bQ P o a.eval c H k ks:=by
  rintro d0 l m j H0 hw htr hk hV ⟨news,hx,hm⟩ h1 h2 h3
  obtain ⟨c',v',hrun,iI,hV'⟩:=zW (P:=P) (ty:=o.type) htr.hr hk hV ht hu hd g1 g2 g4 hzs (by rw [hw]; exact hx) (fB htr.le.im hm) h1 (by rw [g3]; exact h2)
  rw [hw] at hrun
  exact .inl ⟨v',c',_,_,uh _ _ hrun,htr.trans iI,aS hV',h3⟩
 have vS : ∀ (d0 : Cx) (l m : List AV),d0.w = c.w -> Tr c H d0 ((nextId H,.tok (flat ei.zero) l.length) :: H) -> VV d0 (.sl (flat ei.zero) l (.own (nextId H))) v ->
   (∃ news,Src P (flat ei.zero) c.w x m.length news /\ qJ c.w c.Im (flat ei.zero) m news) -> l.length + m.length <= maxL -> (l.length + m.length) * ei.bytes <= 140737488355328 ->
   k (.sl (flat ei.zero) (l ++ m) .no) H -> bQ P o a.eval c H k ks:=by
  rintro d0 l m hw htr hV ⟨news,hx,hm⟩ h1 h2 h3
  obtain ⟨c',v',hrun,iI,hV'⟩:=zW (P:=P) (ty:=o.type) htr.hr (j:=nextId H) (by simp [hget]) hV ht hu hd g1 g2 g4 hzs (by rw [hw]; exact hx) (fB htr.le.im hm) h1 (by rw [g3]; exact h2)
  rw [hw] at hrun
  have zn:=htr.trans iI
  have hset' : hset ((nextId H,HO.tok (flat ei.zero) l.length) :: H) (nextId H) (.tok (flat ei.zero) (l.length + m.length)) = (nextId H,.tok (flat ei.zero) (l.length + m.length)) :: H:=by simp [hset]
  rw [hset'] at zn
  have hwk : L6 ((nextId H,.tok (flat ei.zero) (l.length + m.length)) :: H) H:=by
   refine ⟨G9 fun k' o' hmem=>?_,hr.ids⟩
   have hlt:=bf hr.ids _ hmem
   have hlt : k' < nextId H:=hlt
   have hok:=hr.ok _ hmem
   refine ⟨o',?_,Bh o',?_⟩
   ·simp only [hget]
    have hne : Nat.beq (nextId H) k' = false:=by
     cases hb : Nat.beq (nextId H) k' with
     | false=>rfl
     | true=>have:=Nat.eq_of_beq_eq_true hb; omega
    rw [hne]; exact kU hr.ids hmem
   ·rw [<- hr.nx]
    cases o' with
    | box A=>obtain ⟨cs,ty,_,h2,_⟩:=hok; exact rX _ _ h2
    | iD sh es=>obtain ⟨ents,clock,_,h2,_⟩:=hok; exact Ad h2
    | _=>rfl
  refine .inl ⟨v',c'.cut H,_,H,uh _ _ hrun,zn.cut hwk (by rw [hr.nx]; exact Nat.le_refl _),aS ?_,h3⟩
  refine Di (fun k n hn=>by rw [zn.hr.tp]; exact hwk.tp k n hn) rfl ?_
  exact xQ (by simp only [le0]; exact ⟨trivial,aP _⟩) hV'
 have Vt : ∀ (l m : List AV) (base : Option Addr),v = .slice base l.length l.length -> Rd c.w c.Im (.sl (flat ei.zero) l .no) [.slice base l.length l.length] ->
   (∃ news,Src P (flat ei.zero) c.w x m.length news /\ qJ c.w c.Im (flat ei.zero) m news) -> m ≠ [] -> l.length + m.length <= maxL -> (l.length + m.length) * ei.bytes <= 140737488355328 ->
   (∀ cp,l.length + m.length <= cp -> cp <= maxL -> k (.ms (nextId H) 0 (l.length + m.length) cp (flat ei.zero)) ((nextId H,.arr (flat ei.zero) cp (l ++ m)) :: H)) -> bQ P o a.eval c H k ks:=by
  rintro l m base rfl IJ ⟨news,hx,hm⟩ hne h1 h2 h3
  have Vy : 0 < m.length:=List.length_pos_iff.2 hne
  obtain ⟨olds,ho1,ho2⟩ : ∃ olds,qJ c.w c.Im (flat ei.zero) l olds /\ Src P (flat ei.zero) c.w (.slice base l.length l.length) l.length olds:=by
   simp only [Rd] at IJ
   rcases IJ.2 with ⟨rfl,h8⟩ | ⟨ad,cap,h8,h9,h10,h11,h12⟩
   ·exact ⟨[],rfl,by simp at h8; rw [h8]; exact ⟨fun _=>rfl,fun _=>rfl⟩⟩
   ·obtain ⟨olds,g1,g2⟩:=qA h12
    refine ⟨olds,g1,?_⟩
    simp at h8
    rw [h8.1]
    exact Src.slice (dG g1) (uY rfl rfl (fun hne=>h11 (fun e=>by subst e; exact hne g1)) g2)
  have hol:=dG ho1
  have hml:=dG hm
  have hge:=grownCap_ge c.w (l.length + m.length) l.length el
  have hle:=grownCap_le_maxLen c.w (l.length + m.length) l.length el (by simpa [maxL,maxLen] using h1)
  have hle' : grownCap c.w (l.length + m.length) l.length el <= maxL:=by simpa [maxL,maxLen] using hle
  have hrun:=pR (P:=P) (ty:=o.type) (t:=t) (u:=u) ht hu hd g1 g2 g4 hx (by omega : l.length < l.length + m.length) h1 (by rw [g3]; exact h2) ho2.cells
  generalize hcp : grownCap c.w (l.length + m.length) l.length el = cap' at hge hle' hrun
  let cs:=olds.toArray ++ news.toArray ++ Builtin.zeroCells z.cells (cap' - (l.length + m.length))
  have hcs : cs.size = cap' * flat ei.zero:=by
   simp only [cs,Array.size_append,List.size_toArray,hol,hml,size_zeroCells,hzs]
   rw [<- Nat.add_mul,<- Nat.add_mul]; congr 1; omega
  have htd:=Tr.drew hr
  let d0 : Cx:={ c with w:=c.w.drew }
  have hr0 : HR d0 H:=htd.hr
  have htr : Tr c H (d0.push (.cells cs el) ((nextId H,.arr (flat ei.zero) cap' (l ++ m)) :: H)) ((nextId H,.arr (flat ei.zero) cap' (l ++ m)) :: H):=by
   refine htd.trans (Tr.push hr0 _ _ (fun _=>rfl) ?_)
   refine ⟨cs.toList,el,?_,?_,by simp; exact hge,hle',?_,?_⟩
   ·rw [nNρ hr0]; simp only [Cx.push,Array.toArray_toList]; exact alloc_heap_new _ _
   ·rw [Array.length_toList,hcs]
   ·have le:=htd.le.trans (FV hr0 (.cells cs el) (.arr (flat ei.zero) cap' (l ++ m)))
    have h5:=ni (fB le.im ho1) (fB le.im hm)
    have h6:=kP (c:=d0.push (.cells cs el) ((nextId H,.arr (flat ei.zero) cap' (l ++ m)) :: H)) (rest:=(Builtin.zeroCells z.cells (cap' - (l.length + m.length))).toList) h5
    have e : cs.toList = olds ++ news ++ (Builtin.zeroCells z.cells (cap' - (l.length + m.length))).toList:=by simp [cs]
    rw [e]; exact h6
   ·intro y hy
    rw [nNρ hr0] at hy
    have:=hr0.im _ _ hy
    omega
  refine .inl ⟨_,_,_,_,uh _ _ hrun,htr,aS (dJ rfl rfl ?_),h3 cap' hge hle'⟩
  simp only [VR]
  rw [nNρ hr0]
  exact ⟨by simp only [Cx.push,hr0.nx]; omega,by simp [d0],hge,hle'⟩
 split at h
 ·obtain ⟨m,news,hx,hm,h⟩:=jg hr hB h
  obtain ⟨base,hbe,IJ⟩:=sN (sz:=flat ei.zero) hA
  obtain ⟨d0,hw,htr,hV⟩:=Tr.xE hr IJ
  cases h with
  | tok h1 h2 h3 =>
    refine fin d0 [] m _ _ hw htr (by simp [hget]) (hbe ▸ hV) ⟨news,hx,hm⟩ h1 h2 ?_
    have:=dO.1 h3
    simpa [hset] using this
  | pure h1 h2 h3=>exact vS d0 [] m hw htr (hbe ▸ hV) ⟨news,hx,hm⟩ h1 h2 h3
  | wr h0 h1 h2 h3=>exact Vt [] m base hbe IJ ⟨news,hx,hm⟩ h0 (by simpa using h1) (by simpa using h2) h3
 ·rename_i sz l
  obtain ⟨rfl,h⟩:=aX.1 h
  obtain ⟨m,news,hx,hm,h⟩:=jg hr hB h
  obtain ⟨base,hbe,IJ⟩:=sV hA
  obtain ⟨d0,hw,htr,hV⟩:=Tr.xE hr IJ
  cases h with
  | tok h1 h2 h3 =>
    refine fin d0 l m _ _ hw htr (by simp [hget]) (hbe ▸ hV) ⟨news,hx,hm⟩ h1 h2 ?_
    have:=dO.1 h3
    simpa [hset] using this
  | pure h1 h2 h3=>exact vS d0 l m hw htr (hbe ▸ hV) ⟨news,hx,hm⟩ h1 h2 h3
  | wr h0 h1 h2 h3=>exact Vt l m base hbe IJ ⟨news,hx,hm⟩ h0 h1 h2 h3
 ·rename_i sz l j
  obtain ⟨rfl,h⟩:=aX.1 h
  obtain ⟨m,news,hx,hm,h⟩:=jg hr hB h
  obtain ⟨ob,hob,h⟩:=dw.1 h
  split at h
  ·rename_i sz' top
   have hh:=aX.1 h
   clear h
   obtain ⟨rfl,rfl,h⟩:=hh
   obtain ⟨_,g7⟩:=fK.1 h.next
   exact fin c l m j H rfl (.refl hr) hob hA ⟨news,hx,hm⟩ h.len h.room g7
  ·exact h.elim
 ·rename_i j len
  obtain ⟨m,news,hx,hm,h⟩:=jg hr hB h
  obtain ⟨ob,hob,h⟩:=dw.1 h
  split at h
  ·rename_i sz l
   have hh:=aX.1 h
   clear h
   obtain ⟨rfl,rfl,h0,h⟩:=hh
   obtain ⟨_,q7⟩:=fK.1 h.next
   obtain ⟨c',v',hrun,iI,hV'⟩:=Xb (P:=P) (ty:=o.type) hr hob hA ht hu hd g1 g2 g4 hzs hx hm h0 h.len (by rw [g3]; exact h.room)
   exact .inl ⟨v',c',_,_,uh _ _ hrun,iI,aS hV',q7⟩
  ·exact h.elim
 ·rename_i j off len cap
  obtain ⟨hf1,h⟩:=aX.1 h
  obtain ⟨m,news,hx,hm,h⟩:=jg hr hB h
  obtain ⟨ob,hob,h⟩:=dw.1 h
  split at h
  ·rename_i cp l
   obtain ⟨⟨h00,h0,h1⟩,h⟩:=h
   obtain ⟨_,h⟩:=fK.1 h
   obtain ⟨cs,ty,q1,q2,q3,q4,q5,q6⟩:=hr.oh hob
   obtain ⟨hj,rfl,q7,q8⟩:=uD hA
   have hml:=dG hm
   rw [Nat.mul_one] at hml q2
   have hst:=run_storeCells_at (P:=P) (c.ρ j) (off + len) ty news 0 cs.toArray c.w q1 (by simp; omega) (nX hm)
   simp only [Nat.add_zero,hml] at hst
   have hrun:=lT (P:=P) (ty:=o.type) (t:=t) (u:=u) (base:=some ⟨c.ρ j,off * 1,none⟩) (w':=c.w.setRow (c.ρ j) (cs.take (off + len) ++ news ++ cs.drop (off + len + m.length)).toArray) ht hu hd g1 (g2.trans hf1) hx h1 (fun ad had=>by
    cases had; rw [addr_add,Nat.mul_one,Nat.mul_one]; exact hst) (fun e=>by cases e)
   refine .inl ⟨_,{ c with w:=c.w.setRow (c.ρ j) (cs.take (off + len) ++ news ++ cs.drop (off + len + m.length)).toArray },_,_,uh _ _ hrun,?_,aS (dJ rfl rfl ?_),h⟩
   ·refine Tr.write hr hob q1 (fun _=>rfl) (fun _=>rfl) q6 (by intros; simp) (by intros; simp) ?_
    have le : c.Le { c with w:=c.w.setRow (c.ρ j) (cs.take (off + len) ++ news ++ cs.drop (off + len + m.length)).toArray }:=by
     refine ⟨fun b x h=>⟨h,fP (setRow_other c.w _ b _ (fun e=>q6 x (e ▸ h)))⟩,Nat.le_refl _,fun _ _=>rfl,fun _ _ _ h=>.inl ⟨h,rfl⟩⟩
    refine ⟨_,ty,setRow_heap c.w _ _ _ _ _ q1,?_,?_,q4,lD le ?_,q6⟩
    ·simp; omega
    ·simp; omega
    ·refine tJ (tJ (Dq (off + len) q5) (by simp; omega) (by have:=kP (c:=c) (rest:=[]) hm; simpa using this)) (by simp; omega) (Du _ q5)
   ·simp only [VR]; exact ⟨hj,trivial,by omega,q8⟩
  ·exact h.elim
 ·exact h.elim

theorem Ij {α : Type} : ∀ {l : List α} {i : Nat} {x : α},l[i]? = some x -> l.set i x = l
 | [],_,_,h=>by simp at h
 | y :: l,0,x,h=>by simp at h; simp [h]
 | y :: l,i + 1,x,h=>by simp at h; simp [Ij h]

theorem EN {off : Nat} {v : Value} {pre xs post : List Value} {cells : Array Value} (hc : cells.toList = pre ++ xs ++ post) (hp : pre.length = off) (hx : v.cells.size = xs.length) :
  (v.cells.zipIdx.foldl (fun cs (c,j)=>cs.setIfInBounds (off + j) c) cells).toList = pre ++ v.cells.toList ++ post:=by
 obtain ⟨g1,g2⟩:=Great.foldl_set off v.cells.toList 0 cells
 have hsz : cells.size = pre.length + xs.length + post.length:=by rw [<- Array.length_toList,hc]; simp; omega
 have e : v.cells.zipIdx.foldl (fun cs (c,j)=>cs.setIfInBounds (off + j) c) cells = (v.cells.toList.zipIdx 0).foldl (fun cs (x : Value × Nat)=>cs.setIfInBounds (off + x.2) x.1) cells:=by
  rw [<- Array.foldl_toList,Array.toList_zipIdx]
 rw [e]
 apply List.ext_getElem?
 intro i
 rw [Array.getElem?_toList,g2 i]
 simp only [Nat.add_zero,Array.length_toList]
 have hci : cells[i]? = (pre ++ xs ++ post)[i]?:=by rw [<- hc,Array.getElem?_toList]
 by_cases h1 : i < pre.length
 ·rw [if_neg (by omega),hci]
  rw [List.append_assoc,List.append_assoc,List.getElem?_append_left h1,List.getElem?_append_left h1]
 ·by_cases h2 : i < pre.length + xs.length
  ·rw [if_pos ⟨by omega,by omega,by omega⟩]
   rw [List.append_assoc,List.getElem?_append_right (by omega),List.getElem?_append_left (by simp; omega),hp]
  ·rw [if_neg (by omega),hci]
   rw [List.getElem?_append_right (by simp; omega),List.getElem?_append_right (by simp; omega)]
   congr 1; simp [hx]

theorem rM {place : Nat -> Option (Nat × Nat)} {zs : List AV} (hp : ∀ i z,zs[i]? = some z -> place i = some (gX (zs.take i),flat z)) (he : fC c e a) :
  ∀ {ps : List (Nat × Operand)} {l : List AV} {cells : Array Value} {k : List AV -> Prop},(∀ p ∈ ps,aV p.2 = true) -> l.map flat = zs.map flat -> kE c l cells.toList -> gZ e ps l k ->
    ∃ l' cells',Instr.fill place cells (ps.map fun p=>(p.1,a.eval p.2)) = some cells' /\ kE c l' cells'.toList /\ k l'
 | [],l,cells,k,_,_,hr,h=>⟨l,cells,rfl,hr,h⟩
 | (i,x) :: ps,l,cells,k,ho,hf,hr,h=>by
   simp only [gZ] at h
   obtain ⟨A,hA,h⟩:=aG he (ho (i,x) (by simp)) h
   obtain ⟨hval,h⟩:=qN.1 h
   obtain ⟨z,hz,h⟩:=iG.1 h
   obtain ⟨hfl,h⟩:=aX.1 h
   have h' : iJ l i A fun zs'=>gZ e ps zs' k:=by
    cases A <;> cases z <;> first | exact h | exact h.elim
   obtain ⟨hi,h'⟩:=nK h'
   have hAv:=lK hA hval
   obtain ⟨pre,xs,post,h1,h2,h3,h4⟩:=o7 hr hz
   have hlen : (a.eval x).cells.size = xs.length:=by rw [<- Array.length_toList,fE _ _ hAv.2,fE _ _ h3,hfl]
   have XT : ∀ (l m : List AV),l.map flat = m.map flat -> gX l = gX m:=by
    intro l
    induction l with
    | nil=>intro m h; cases m with
      | nil=>rfl
      | cons y m=>simp at h
    | cons y l ih=>intro m h; cases m with
      | nil=>simp at h
      | cons y' m=>simp at h; simp [gX,h.1,ih m h.2]
   obtain ⟨z0,hz0,ZQ⟩ : ∃ z0,zs[i]? = some z0 /\ flat z0 = flat z:=by
    have : (l.map flat)[i]? = (zs.map flat)[i]?:=by rw [hf]
    rw [List.getElem?_map,List.getElem?_map,hz] at this
    cases hz0 : zs[i]? with
    | none=>simp [hz0] at this
    | some z0=>simp [hz0] at this; exact ⟨z0,rfl,this.symm⟩
   have hoff : gX (zs.take i) = pre.length:=by
    rw [h2]; refine XT _ _ ?_
    rw [List.map_take,List.map_take,hf]
   have hpl:=hp i z0 hz0
   have hcs:=EN (v:=a.eval x) (off:=pre.length) h1 rfl hlen
   have hsz : pre.length + xs.length <= cells.size:=by rw [<- Array.length_toList,h1]; simp
   obtain ⟨l',cells',g1,g2,g3⟩:=rM hp he (cells:=(a.eval x).cells.zipIdx.foldl (fun cs (c,j)=>cs.setIfInBounds (pre.length + j) c) cells) (fun p hp=>ho p (by simp [hp]))
    (l:=l.set i A) (by rw [List.map_set,hfl,<- hf]; exact Ij (by rw [List.getElem?_map,hz]; rfl)) (by rw [hcs]; exact h4 _ _ hAv.2) h'
   refine ⟨l',cells',?_,g2,g3⟩
   simp only [List.map_cons,Instr.fill,hpl,hoff]
   rw [if_neg]
   ·exact g1
   ·have : flat z0 = xs.length:=by rw [ZQ,fE _ _ h3]
    simp; omega

theorem OD {fs : List Field} (h : ∀ f ∈ fs,∃ x,P.info? f.type = some x) :
  fs.mapM (fun f=>(P.info? f.type).map fun i=>(f.offset,i.size)) = some (fs.map fun f=>(f.offset,P.cellsOf f.type)):=by
 induction fs with
 | nil=>rfl
 | cons f fs ih =>
   obtain ⟨x,hx⟩:=h f (by simp)
   simp [List.mapM_cons,hx,ih fun f hf=>h f (by simp [hf]),Program.cellsOf]

theorem EM : ∀ {zs : List AV} {i : Nat} {z : AV},wB zs = true -> zs[i]? = some z -> gX (zs.take i) = i /\ flat z = 1
 | [],_,_,_,h=>by simp at h
 | x :: l,i,z,hf,h=>by
   simp only [wB] at hf
   cases hb : Nat.beq (flat x) 1 with
   | false=>rw [hb] at hf; cases hf
   | true =>
     rw [hb] at hf
     have hx:=Nat.eq_of_beq_eq_true hb
     cases i with
     | zero=>simp at h; subst h; exact ⟨by simp [gX],hx⟩
     | succ i =>
       obtain ⟨k1,k2⟩:=EM hf (by simpa using h)
       exact ⟨by simp only [List.take_succ_cons,gX,hx,k1]; omega,k2⟩

theorem Qw (hL : bW P L) {t : Nat} {ps : Array (Nat × Operand)} (hr : HR c H) (he : fC c e a) (hx : ∀ p ∈ ps.toList,aV p.2 = true) (ho : o.op = .build t ps)
  (h : L.aW t fun i=>(match i.desc,i.zero with
  | .struct _,.ag zs=>gZ e ps.toList zs fun l=>k (.ag l) H
  | .arr _ el,.ag zs=>L.aW el fun ei=>jE (flat ei.zero) 1 (Et (wB zs) (gZ e ps.toList zs fun l=>k (.ag l) H))
  | _,_=>False)) : bQ P o a.eval c H k ks:=by
 obtain ⟨i,hT,h⟩:=Lay.aQ hL h
 obtain ⟨d,hd,hdd⟩:=hT.under
 split at h
 case h_3=>exact h.elim
 case h_2 =>
  rename_i n el zs hi hz
  obtain rfl:=BQ (hdd.trans hi)
  obtain ⟨ei,hE,h⟩:=Lay.aQ hL h
  obtain ⟨hf1,h⟩:=aX.1 h
  obtain ⟨info,z,g1,g2,g3,g4,g5,g6⟩:=hT.info
  obtain ⟨VE,ez,e1,e2,_,_,_,_⟩:=hE.info
  have hz0 : kE c zs z.cells.toList:=by
   have:=gB (c:=c) _ _ (g6 c.w c.Im)
   rw [hz] at this
   simpa only [VR] using this
  have hfl : wB zs = true /\ gZ e ps.toList zs fun l=>k (.ag l) H:=by
   unfold Et at h
   split at h
   ·exact ⟨‹_›,h⟩
   ·exact h.elim
  obtain ⟨hfl,h⟩:=hfl
  obtain ⟨l,cells,h1,h2,h3⟩:=rM (place:=fun i=>some (i * VE.size,VE.size)) (fun i z hz=>by
   obtain ⟨k1,k2⟩:=EM hfl hz
   rw [e2,hf1,Nat.mul_one,k1,k2]) he hx rfl hz0 h
  refine .pure hr (v:=.agg cells) ?_ (aS (A:=.ag l) ⟨⟨fun _=>⟨_,rfl⟩,fun h=>by cases h⟩,by show VR c (.ag l) cells.toList; simpa only [VR] using h2⟩) h3
  unfold execOp; rw [ho]
  have hb : P.built t (ps.map fun (i,x)=>(i,a.eval x)).toList = some cells:=by
   unfold Program.built
   simp only [g1,hd,g4,e1]
   rw [Array.toList_map]
   exact h1
  simp only [Sem.run_bind,run_build c.w t _ cells hb,Result.andThen_ok,Sem.run_pure]
 rename_i fs zs hi hz
 obtain ⟨gs,rfl,rfl⟩:=oD (hdd.trans hi)
 obtain ⟨zs',hz',hoff⟩:=hT.XY _ hi
 rw [hz] at hz'; cases hz'
 have YT:=hT.inf _ hi
 obtain ⟨info,z,g1,g2,g3,g4,g5,g6⟩:=hT.info
 have hz0 : kE c zs z.cells.toList:=by
  have:=gB (c:=c) _ _ (g6 c.w c.Im)
  rw [hz] at this
  simpa only [VR] using this
 have hm : gs.toList.mapM (fun f=>(P.info? f.type).map fun i=>(f.offset,i.size)) = some (qU 0 zs):=by
  rw [OD fun f hf=>YT (f.offset,P.cellsOf f.type,f.type) (List.mem_map.2 ⟨f,hf,rfl⟩),<- hoff,List.map_map]
  rfl
 obtain ⟨l,cells,h1,h2,h3⟩:=rM (place:=fun i=>(qU 0 zs).toArray[i]?) (fun i z hz=>by simpa using uK (n:=0) hz) he hx rfl hz0 h
 refine .pure hr (v:=.agg cells) ?_ (aS (A:=.ag l) ⟨⟨fun _=>⟨_,rfl⟩,fun h=>by cases h⟩,by show VR c (.ag l) cells.toList; simpa only [VR] using h2⟩) h3
 unfold execOp; rw [ho]
 have hb : P.built t (ps.map fun (i,x)=>(i,a.eval x)).toList = some cells:=by
  unfold Program.built
  simp only [g1,hd,g4,hm]
  rw [Array.toList_map]
  exact h1
 simp only [Sem.run_bind,run_build c.w t _ cells hb,Result.andThen_ok,Sem.run_pure]

theorem Fj {w : World} {Im : Nat -> Nat -> Prop} {sz : Nat} : ∀ {l : List AV} {cs : List Value} {j : Nat} {x : AV},qJ w Im sz l cs -> l[j]? = some x ->
  ∃ pre xs post,cs = pre ++ xs ++ post /\ pre.length = j * sz /\ xs.length = sz /\ ∀ y ys,Rd w Im y ys -> ys.length = sz -> qJ w Im sz (l.set j y) (pre ++ ys ++ post)
 | [],_,_,_,_,h=>by simp at h
 | z :: l,cs,0,x,hr,h=>by
   obtain ⟨a,d,rfl,h2,h3,h4⟩:=hr
   refine ⟨[],a,d,by simp,by simp,h2,fun y ys hy hl=>?_⟩
   exact ⟨ys,d,by simp,hl,hy,h4⟩
 | z :: l,cs,j + 1,x,hr,h=>by
   obtain ⟨a,d,rfl,h2,h3,h4⟩:=hr
   obtain ⟨pre,xs,post,rfl,h5,h6,h8⟩:=Fj h4 (by simpa using h : l[j]? = some x)
   refine ⟨a ++ pre,xs,post,by simp,by simp [h2,h5,Nat.add_mul]; omega,h6,fun y ys hy hl=>?_⟩
   exact ⟨a,pre ++ ys ++ post,by simp,h2,h3,h8 y ys hy hl⟩

theorem wV {sz : Nat} (he : fC c e a) :
  ∀ {ps : List (Nat × Operand)} {l : List AV} {cells : Array Value} {k : List AV -> Prop},(∀ p ∈ ps,aV p.2 = true) -> (∀ z ∈ l,flat z = sz) -> qJ c.w c.Im sz l cells.toList -> iE e ps l k ->
    ∃ l' cells',Instr.fill (fun i=>some (i * sz,sz)) cells (ps.map fun p=>(p.1,a.eval p.2)) = some cells' /\ l'.length = l.length /\ qJ c.w c.Im sz l' cells'.toList /\ k l'
 | [],l,cells,k,_,_,hr,h=>⟨l,cells,rfl,rfl,hr,h⟩
 | (i,x) :: ps,l,cells,k,ho,hf,hr,h=>by
   simp only [iE] at h
   obtain ⟨A,hA,h⟩:=aG he (ho (i,x) (by simp)) h
   obtain ⟨z,hz,h⟩:=iG.1 h
   obtain ⟨hfl,h⟩:=aX.1 h
   have h' : ug A fun B=>iJ l i B fun zs'=>iE e ps zs' k:=by
    cases A <;> cases z <;> first | exact h | exact h.elim
   obtain ⟨hpu,h'⟩:=qQ h'
   obtain ⟨hi,h'⟩:=nK h'
   have hval : isVal A = true:=by cases A <;> first | rfl | (simp [lN] at hpu)
   have hAv:=lK hA hval
   have hzs : flat z = sz:=hf z (List.mem_of_getElem? hz)
   obtain ⟨pre,xs,post,h1,h2,h3,h4⟩:=Fj hr hz
   have hlen : (a.eval x).cells.toList.length = sz:=by rw [fE _ _ hAv.2,hfl,hzs]
   have hlen' : (a.eval x).cells.size = sz:=by rw [<- hlen,Array.length_toList]
   have hcs:=EN (v:=a.eval x) (off:=i * sz) h1 h2 (by rw [hlen',h3])
   have hR:=ng _ _ hpu hAv.2
   have hsz : pre.length + xs.length <= cells.size:=by rw [<- Array.length_toList,h1]; simp
   obtain ⟨l',cells',g1,g2,g3,g4⟩:=wV he (cells:=(a.eval x).cells.zipIdx.foldl (fun cs (c,j)=>cs.setIfInBounds (i * sz + j) c) cells) (fun p hp=>ho p (by simp [hp]))
    (l:=l.set i (strip A)) (fun y hy=>by
     rcases List.mem_or_eq_of_mem_set hy with hy | rfl
     ·exact hf y hy
     ·rw [<- bV _ _ hR]; exact hlen) (by rw [hcs]; exact h4 _ _ hR hlen) h'
   refine ⟨l',cells',?_,by rw [g2]; simp,g3,g4⟩
   simp only [List.map_cons,Instr.fill]
   rw [if_neg]
   ·exact g1
   ·simp; omega

theorem CP {a b : Nat} {k : Prop} : yj a b k ↔ a <= b /\ k:=by
 unfold yj
 cases h : Nat.ble a b with
 | true=>simp [Nat.le_of_ble_eq_true h]
 | false=>simp; intro hle; rw [Nat.ble_eq_true_of_le hle] at h; cases h

theorem DZ (hL : bW P L) {t n : Nat} {ps : Array (Nat × Operand)} (hr : HR c H) (he : fC c e a) (hx : ∀ p ∈ ps.toList,aV p.2 = true) (ho : o.op = .buildSlice t n ps)
  (h : L.aW t fun i=>(match i.desc with
  | .slice el=>L.aW el fun ei=>yj (n * flat ei.zero) 16777216 <| yj n 16777216 <| FU ei.zero n fun zs=>iE e ps.toList zs fun l=>k (.sl (flat ei.zero) l .full) H
  | _=>False)) : bQ P o a.eval c H k ks:=by
 obtain ⟨i,hT,h⟩:=Lay.aQ hL h
 obtain ⟨d,hd,hdd⟩:=hT.under
 split at h
 case h_2=>exact h.elim
 rename_i el hi
 obtain rfl:=bC (hdd.trans hi)
 obtain ⟨ei,hE,h⟩:=Lay.aQ hL h
 obtain ⟨hb1,h⟩:=CP.1 h
 obtain ⟨hb2,h⟩:=CP.1 h
 have h:=AB.1 h
 obtain ⟨info,z,g1,g2,g3,g4,g5,g6⟩:=hE.info
 have XO:=JJ (g6 c.w c.Im) n
 obtain ⟨l,cells,h1,h2,h3,h4⟩:=wV (sz:=flat ei.zero) he hx (fun y hy=>by rw [(List.mem_replicate.1 hy).2]) XO h
 rw [List.length_replicate] at h2
 have hrun : (Instr.buildSlice t n (ps.map fun (i,x)=>(i,a.eval x))).run P c.w = .ok (.slice (some ⟨c.w.heap.size,0,none⟩) n n) (c.w.alloc (.cells cells el)):=by
  have h1' : Instr.fill (fun i=>some (i * info.size,info.size)) ((Array.range (n * info.size)).map (z.cells[· % z.cells.size]!)) (ps.map fun (i,x)=>(i,a.eval x)).toList = some cells:=by
   rw [g2,Array.toList_map]; exact h1
  by_cases hpos : n * info.size = 0
  ·have e0 : ∀ zz : Array Value,(Array.range (n * info.size)).map (zz[· % zz.size]!) = #[]:=by intro zz; rw [hpos]; simp
   rw [e0] at h1'
   have hsmall : ¬ n * info.size > 2 ^ 24:=by omega
   have e1:=e0 #[]
   have hszz : (sizeOf el).run P c.w = .ok info.size c.w:=by unfold sizeOf typeInfo; simp [g1]
   unfold Instr.buildSlice
   simp only [Sem.run_bind,run_underlying hd,Result.andThen_ok,hszz,hsmall,if_false]
   rw [if_pos hpos]
   simp only [Sem.run_bind,Sem.run_pure,Result.andThen_ok,e1,h1',newRow,run_newObj,World.alloc_eq]
  ·exact Go.run_buildSlice c.w t el n _ cells info z hd g1 g4 (by rw [g2]; omega) hpos h1'
 refine .inl ⟨.slice (some ⟨c.w.heap.size,0,none⟩) n n,c.alloc (.cells cells el),_,H,?_,Tr.alloc hr _,aS (dJ rfl rfl ?_),h4⟩
 ·unfold execOp; rw [ho]
  simp only [Sem.run_bind,hrun,Result.andThen_ok,Sem.run_pure]
  rfl
 ·simp only [VR,Rd]
  refine ⟨⟨by simp [maxL]; omega,.inr ⟨⟨c.w.heap.size,0,none⟩,n,by rw [h2],by omega,by simp [maxL]; omega,fun _=>rfl,?_⟩⟩,⟨some ⟨c.w.heap.size,0,none⟩,by rw [h2]⟩⟩
  have le:=(Tr.alloc hr (.cells cells el)).le
  refine jo (fB le.im h3) fun j v hj=>⟨?_,.inr rfl⟩
  rw [Nat.zero_add]
  show (c.w.alloc _).cell? ⟨c.w.heap.size,j,none⟩ = _
  rw [cell_of_heap (alloc_heap_new c.w _),<- Array.getElem?_toList]; exact hj
end
end Go.AL

namespace Go.AL

section
variable {P : Program} {L : Lay} {c : Cx} {H : Heap} {e : Env} {a : Act} {k : AV -> Heap -> Prop} {ks : Heap -> Prop} {o : Oper}

theorem Vq {v : Value} (h : EV c .dU v) : v = .nilIface:=xk h
theorem TM {t : Nat} {x : AV} {v : Value} (h : EV c (.jB t x) v) : ∃ u,v = .iface t u /\ VV c x u:=LU h

theorem xu {c : Cx} {A B : AV} {v u : Value} (hA : VV c A v) (hB : VV c B u) : EV c (.dS [A,B]) (.tuple #[v,u]) :=
 ⟨_,rfl,_,_,rfl,hA.1,hA.2,_,_,rfl,hB.1,hB.2,rfl⟩

theorem F5 {op : BinOp} {A : AV} {K : AV -> Prop} {v : Value} (hA : EV c A v) (h : Py op A K) :
  (op = .eql \/ op = .neq) /\ ∃ ad l n,v = .slice ad l n /\ ∃ R,VV c R (.bool (if op = .eql then ad.isNone else !ad.isNone)) /\ K R:=by
 unfold Py at h
 split at h
 ·have hv:=lW hA
  exact ⟨.inl rfl,none,0,0,hv,_,mZ,h⟩
 ·have hv:=lW hA
  exact ⟨.inr rfl,none,0,0,hv,_,jI,h⟩
 ·obtain ⟨_,hv,_⟩:=uD hA
  exact ⟨.inl rfl,_,_,_,hv,_,jI,h⟩
 ·obtain ⟨_,hv,_⟩:=uD hA
  exact ⟨.inr rfl,_,_,_,hv,_,mZ,h⟩
 ·obtain ⟨_,⟨h1,hv⟩ | ⟨ad,cap,hv,_⟩⟩:=Dh hA
  ·exact ⟨.inl rfl,none,0,0,hv,_,kM true,h true fun _=>h1⟩
  ·exact ⟨.inl rfl,some ad,_,_,hv,_,kM false,h false fun h=>by cases h⟩
 ·obtain ⟨_,⟨h1,hv⟩ | ⟨ad,cap,hv,_⟩⟩:=Dh hA
  ·exact ⟨.inr rfl,none,0,0,hv,_,kM false,h false fun _=>h1⟩
  ·exact ⟨.inr rfl,some ad,_,_,hv,_,kM true,h true fun h=>by cases h⟩
 ·exact h.elim

theorem run_equalIn_slice_nil {t el : Nat} (ht : P.underlying t = some (.slice el)) (ad : Option Addr) (l n d : Nat) (w : World) :
  (Op.equalIn (d + 1) t (.slice ad l n) (.slice none 0 0)).run P w = .ok ad.isNone w:=by
 cases ad <;> simp only [Op.equalIn,Sem.run_bind,run_underlying ht,Result.andThen_ok,Sem.run_pure,Option.isNone]

theorem run_equal_slice_nil {t el : Nat} (ht : P.underlying t = some (.slice el)) (ad : Option Addr) (l n : Nat) (w : World) :
  (Op.equal t (.slice ad l n) (.slice none 0 0)).run P w = .ok ad.isNone w:=run_equalIn_slice_nil ht ad l n 9999 w

theorem Ox (hL : bW P L) {op : BinOp} {t ty : Nat} {x y : Operand} (hr : HR c H) (he : fC c e a) (hx : aV x = true) (ho : o.op = .binOp op t x y ty) (hn : lU (.binOp op t x y ty) = true)
  (h : bI e x fun A=>L.aW t fun i=>(match i.desc with | .slice _=>Py op A fun R=>k R H | _=>False)) : bQ P o a.eval c H k ks:=by
 obtain ⟨A,hA,h⟩:=aG he hx h
 obtain ⟨i,hT,h⟩:=Lay.aQ hL h
 obtain ⟨d,hd,hdd⟩:=hT.under
 have hy : y = .const (.slice none 0 0):=by
  unfold lU at hn
  split at hn
  ·rename_i heq; cases heq; rfl
  ·cases hn
 subst hy
 split at h
 ·rename_i el hi
  obtain rfl:=bC (hdd.trans hi)
  obtain ⟨hop,ad,l,n,hv,R,hR,hk⟩:=F5 hA h
  refine .pure hr (iK ho (gK (fun ⟨cs,ds,h1,_⟩=>by rw [hv] at h1; cases h1) (fun h1=>by rw [hv] at h1; cases h1)) ?_) (aS hR) hk
  have e2 : a.eval (.const (.slice none 0 0)) = .slice none 0 0:=rfl
  rw [hv,e2]
  rcases hop with rfl | rfl
  ·simp only [binOp,run_equal_slice_nil hd,Sem.run_bind,Result.andThen_ok,Sem.run_pure]
   rfl
  ·simp only [binOp,run_equal_slice_nil hd,Sem.run_bind,Result.andThen_ok,Sem.run_pure]
   rfl
 ·exact h.elim

theorem DX (hL : bW P L) {x : Operand} {xt s : Nat} {ok : Bool} (hr : HR c H) (he : fC c e a) (hx : aV x = true) (ho : o.op = .typeAssert x xt s ok)
  (h : bI e x fun A=>L.aW s fun i=>(match i.desc with
  | .iface=>False
  | _=>G5 i.zero s A ok fun R=>k R H)) : bQ P o a.eval c H k ks:=by
 obtain ⟨A,hA,h⟩:=aG he hx h
 obtain ⟨i,hT,h⟩:=Lay.aQ hL h
 obtain ⟨d,hd,hdd⟩:=hT.under
 have hne : ∀ ms,d ≠ .interface ms:=by
  rintro ms rfl
  have : i.desc = .iface:=hdd.symm
  rw [this] at h; exact h
 obtain ⟨z,hz,hzs,YL⟩:=hT.qO c.w
 have hZ : VV c i.zero z:=⟨hzs,gB _ _ (YL _ _)⟩
 have h' : G5 i.zero s A ok fun R=>k R H:=by
  cases hi : i.desc <;> rw [hi] at h <;> first | exact h.elim | exact h
 clear h
 have fails : ∀ u,a.eval x = u -> (u = .nilIface \/ ∃ t y,u = .iface t y /\ t ≠ s) -> ok = true -> (execOp a.eval o).run P c.w = .ok (.value (.tuple #[z,.bool false])) c.w:=by
  intro u hu hcase hok
  unfold execOp; rw [ho,hok]
  simp only [Instr.typeAssert,Sem.run_bind,run_underlying hd,Result.andThen_ok,hu]
  rcases hcase with rfl | ⟨t,y,rfl,hts⟩
  ·cases d <;> first | exact absurd rfl (hne _) | simp only [if_true,Sem.run_bind,hz,Result.andThen_ok,Sem.run_pure]
  ·cases d <;> first | exact absurd rfl (hne _) | simp only [if_neg hts,if_true,Sem.run_bind,hz,Result.andThen_ok,Sem.run_pure]
 unfold G5 at h'
 split at h'
 ·have hv:=Vq hA
  exact .pure hr (fails _ hv (.inl rfl) rfl) (xu hZ jI) h'
 ·rename_i t y
  obtain ⟨u,hv,hU⟩:=TM hA
  split at h'
  ·rename_i hb
   obtain rfl:=Nat.eq_of_beq_eq_true hb
   refine .pure hr (v:=.tuple #[u,.bool true]) ?_ (xu hU mZ) h'
   unfold execOp; rw [ho]
   simp only [Instr.typeAssert,Sem.run_bind,run_underlying hd,Result.andThen_ok,hv]
   cases d <;> first | exact absurd rfl (hne _) | simp only [if_true,Result.andThen_ok,Sem.run_pure]
  ·rename_i hb
   exact .pure hr (fails _ hv (.inr ⟨_,u,rfl,eG hb⟩) rfl) (xu hZ jI) h'
 ·rename_i t y
  obtain ⟨u,hv,hU⟩:=TM hA
  split at h'
  ·rename_i hb
   obtain rfl:=Nat.eq_of_beq_eq_true hb
   refine .pure hr (v:=u) ?_ (aS hU) h'
   unfold execOp; rw [ho]
   simp only [Instr.typeAssert,Sem.run_bind,run_underlying hd,Result.andThen_ok,hv]
   cases d <;> first | exact absurd rfl (hne _) | simp only [if_true,Bool.false_eq_true,if_false,Result.andThen_ok,Sem.run_pure]
  ·exact h'.elim
 ·exact h'.elim

theorem nP {b : Bool} {k : Prop} : Et b k ↔ b = true /\ k:=by
 unfold Et; cases b <;> simp

mutual
theorem uN {c : Cx} : ∀ (S A : AV) (cs : List Value),ay S A = true -> VR c A cs -> cs = Hz A /\ Rd c.w c.Im A cs
 | .int _ _,.int k n,cs,_,h=>by simp only [VR,Rd] at h; exact ⟨by rw [h.1]; rfl,by simp only [Rd]; exact h⟩
 | .str _,.str s,cs,_,h=>by simp only [VR,Rd] at h; exact ⟨by rw [h.1]; rfl,by simp only [Rd]; exact h⟩
 | .ag s,.ag l,cs,hs,h=>by
   simp only [VR] at h
   simp only [ay] at hs
   simp only [Hz,Rd]
   exact Gj s l cs hs h
 | .int _ _,.bool _,_,hs,_=>by simp [ay] at hs
 | .int _ _,.tt,_,hs,_=>by simp [ay] at hs
 | .int _ _,.ff,_,hs,_=>by simp [ay] at hs
 | .int _ _,.dec _,_,hs,_=>by simp [ay] at hs
 | .int _ _,.str _,_,hs,_=>by simp [ay] at hs
 | .int _ _,.dU,_,hs,_=>by simp [ay] at hs
 | .int _ _,.jB _ _,_,hs,_=>by simp [ay] at hs
 | .int _ _,.bH,_,hs,_=>by simp [ay] at hs
 | .int _ _,.sl _ _ _,_,hs,_=>by simp [ay] at hs
 | .int _ _,.ms _ _ _ _ _,_,hs,_=>by simp [ay] at hs
 | .int _ _,.ag _,_,hs,_=>by simp [ay] at hs
 | .int _ _,.dS _,_,hs,_=>by simp [ay] at hs
 | .int _ _,.ptr _ _ _,_,hs,_=>by simp [ay] at hs
 | .int _ _,.cp _,_,hs,_=>by simp [ay] at hs
 | .int _ _,.fV,_,hs,_=>by simp [ay] at hs
 | .int _ _,.fn _ _,_,hs,_=>by simp [ay] at hs
 | .int _ _,.aY,_,hs,_=>by simp [ay] at hs
 | .int _ _,.mp _,_,hs,_=>by simp [ay] at hs
 | .int _ _,.gs _ _,_,hs,_=>by simp [ay] at hs
 | .int _ _,.bm _ _,_,hs,_=>by simp [ay] at hs
 | .int _ _,.jF,_,hs,_=>by simp [ay] at hs
 | .int _ _,.und,_,hs,_=>by simp [ay] at hs
 | .str _,A,cs,hs,h=>by
   cases A <;> first | (simp [ay] at hs; done) | skip
   simp only [VR,Rd] at h
   exact ⟨by rw [h.1]; rfl,by simp only [Rd]; exact h⟩
 | .ag s,A,cs,hs,h=>by
   cases A <;> first | (simp [ay] at hs; done) | skip
   rename_i l
   simp only [VR] at h
   simp only [ay] at hs
   simp only [Hz,Rd]
   exact Gj s l cs hs h
 | .bool _,A,_,hs,_=>by cases A <;> simp [ay] at hs
 | .tt,A,_,hs,_=>by cases A <;> simp [ay] at hs
 | .ff,A,_,hs,_=>by cases A <;> simp [ay] at hs
 | .dec _,A,_,hs,_=>by cases A <;> simp [ay] at hs
 | .dU,A,_,hs,_=>by cases A <;> simp [ay] at hs
 | .jB _ _,A,_,hs,_=>by cases A <;> simp [ay] at hs
 | .bH,A,_,hs,_=>by cases A <;> simp [ay] at hs
 | .sl _ _ _,A,_,hs,_=>by cases A <;> simp [ay] at hs
 | .ms _ _ _ _ _,A,_,hs,_=>by cases A <;> simp [ay] at hs
 | .dS _,A,_,hs,_=>by cases A <;> simp [ay] at hs
 | .ptr _ _ _,A,_,hs,_=>by cases A <;> simp [ay] at hs
 | .cp _,A,_,hs,_=>by cases A <;> simp [ay] at hs
 | .fV,A,_,hs,_=>by cases A <;> simp [ay] at hs
 | .fn _ _,A,_,hs,_=>by cases A <;> simp [ay] at hs
 | .aY,A,_,hs,_=>by cases A <;> simp [ay] at hs
 | .mp _,A,_,hs,_=>by cases A <;> simp [ay] at hs
 | .gs _ _,A,_,hs,_=>by cases A <;> simp [ay] at hs
 | .bm _ _,A,_,hs,_=>by cases A <;> simp [ay] at hs
 | .jF,A,_,hs,_=>by cases A <;> simp [ay] at hs
 | .und,A,_,hs,_=>by cases A <;> simp [ay] at hs
theorem Gj {c : Cx} : ∀ (s l : List AV) (cs : List Value),bU s l = true -> kE c l cs -> cs = Wq l /\ jY c.w c.Im l cs
 | [],[],cs,_,h=>by simp only [kE] at h; subst h; exact ⟨rfl,by simp only [jY]⟩
 | [],_ :: _,_,hs,_=>by simp [bU] at hs
 | _ :: _,[],_,hs,_=>by simp [bU] at hs
 | x :: s,y :: l,cs,hs,h=>by
   simp only [bU,Bool.and_eq_true] at hs
   simp only [kE] at h
   obtain ⟨p,q,rfl,h1,h2⟩:=h
   obtain ⟨e1,r1⟩:=uN x y p hs.1 h1
   obtain ⟨e2,r2⟩:=Gj s l q hs.2 h2
   refine ⟨by rw [e1,e2]; rfl,?_⟩
   simp only [jY]
   exact ⟨p,q,rfl,r1,r2⟩
end

mutual
theorem vK : ∀ (A B C : AV),ay A B = true -> ay A C = true -> ay B C = true
 | .int a _,B,C,h1,h2=>by
   cases B <;> first | (simp [ay] at h1; done) | skip
   cases C <;> first | (simp [ay] at h2; done) | skip
   simp only [ay] at *
   obtain rfl:=fJ h1
   exact h2
 | .str _,B,C,h1,h2=>by
   cases B <;> first | (simp [ay] at h1; done) | skip
   cases C <;> first | (simp [ay] at h2; done) | skip
   rfl
 | .ag l,B,C,h1,h2=>by
   cases B <;> first | (simp [ay] at h1; done) | skip
   cases C <;> first | (simp [ay] at h2; done) | skip
   simp only [ay] at *
   exact tZ l _ _ h1 h2
 | .bool _,B,_,h1,_=>by cases B <;> simp [ay] at h1
 | .tt,B,_,h1,_=>by cases B <;> simp [ay] at h1
 | .ff,B,_,h1,_=>by cases B <;> simp [ay] at h1
 | .dec _,B,_,h1,_=>by cases B <;> simp [ay] at h1
 | .dU,B,_,h1,_=>by cases B <;> simp [ay] at h1
 | .jB _ _,B,_,h1,_=>by cases B <;> simp [ay] at h1
 | .bH,B,_,h1,_=>by cases B <;> simp [ay] at h1
 | .sl _ _ _,B,_,h1,_=>by cases B <;> simp [ay] at h1
 | .ms _ _ _ _ _,B,_,h1,_=>by cases B <;> simp [ay] at h1
 | .dS _,B,_,h1,_=>by cases B <;> simp [ay] at h1
 | .ptr _ _ _,B,_,h1,_=>by cases B <;> simp [ay] at h1
 | .cp _,B,_,h1,_=>by cases B <;> simp [ay] at h1
 | .fV,B,_,h1,_=>by cases B <;> simp [ay] at h1
 | .fn _ _,B,_,h1,_=>by cases B <;> simp [ay] at h1
 | .aY,B,_,h1,_=>by cases B <;> simp [ay] at h1
 | .mp _,B,_,h1,_=>by cases B <;> simp [ay] at h1
 | .gs _ _,B,_,h1,_=>by cases B <;> simp [ay] at h1
 | .bm _ _,B,_,h1,_=>by cases B <;> simp [ay] at h1
 | .jF,B,_,h1,_=>by cases B <;> simp [ay] at h1
 | .und,B,_,h1,_=>by cases B <;> simp [ay] at h1
theorem tZ : ∀ (l m r : List AV),bU l m = true -> bU l r = true -> bU m r = true
 | [],[],[],_,_=>rfl
 | [],[],_ :: _,_,h=>by simp [bU] at h
 | [],_ :: _,_,h,_=>by simp [bU] at h
 | _ :: _,[],_,h,_=>by simp [bU] at h
 | _ :: _,_ :: _,[],_,h=>by simp [bU] at h
 | x :: l,y :: m,z :: r,h1,h2=>by
   simp only [bU,Bool.and_eq_true] at *
   exact ⟨vK x y z h1.1 h2.1,tZ l m r h1.2 h2.2⟩
end

mutual
theorem yJ : ∀ (A B C : AV),ay A B = true -> ay B C = true -> ay A C = true
 | .int a _,B,C,h1,h2=>by
   cases B <;> first | (simp [ay] at h1; done) | skip
   cases C <;> first | (simp [ay] at h2; done) | skip
   simp only [ay] at *
   obtain rfl:=fJ h1
   exact h2
 | .str _,B,C,h1,h2=>by
   cases B <;> first | (simp [ay] at h1; done) | skip
   cases C <;> first | (simp [ay] at h2; done) | skip
   rfl
 | .ag l,B,C,h1,h2=>by
   cases B <;> first | (simp [ay] at h1; done) | skip
   cases C <;> first | (simp [ay] at h2; done) | skip
   simp only [ay] at *
   exact vM l _ _ h1 h2
 | .bool _,B,_,h1,_=>by cases B <;> simp [ay] at h1
 | .tt,B,_,h1,_=>by cases B <;> simp [ay] at h1
 | .ff,B,_,h1,_=>by cases B <;> simp [ay] at h1
 | .dec _,B,_,h1,_=>by cases B <;> simp [ay] at h1
 | .dU,B,_,h1,_=>by cases B <;> simp [ay] at h1
 | .jB _ _,B,_,h1,_=>by cases B <;> simp [ay] at h1
 | .bH,B,_,h1,_=>by cases B <;> simp [ay] at h1
 | .sl _ _ _,B,_,h1,_=>by cases B <;> simp [ay] at h1
 | .ms _ _ _ _ _,B,_,h1,_=>by cases B <;> simp [ay] at h1
 | .dS _,B,_,h1,_=>by cases B <;> simp [ay] at h1
 | .ptr _ _ _,B,_,h1,_=>by cases B <;> simp [ay] at h1
 | .cp _,B,_,h1,_=>by cases B <;> simp [ay] at h1
 | .fV,B,_,h1,_=>by cases B <;> simp [ay] at h1
 | .fn _ _,B,_,h1,_=>by cases B <;> simp [ay] at h1
 | .aY,B,_,h1,_=>by cases B <;> simp [ay] at h1
 | .mp _,B,_,h1,_=>by cases B <;> simp [ay] at h1
 | .gs _ _,B,_,h1,_=>by cases B <;> simp [ay] at h1
 | .bm _ _,B,_,h1,_=>by cases B <;> simp [ay] at h1
 | .jF,B,_,h1,_=>by cases B <;> simp [ay] at h1
 | .und,B,_,h1,_=>by cases B <;> simp [ay] at h1
theorem vM : ∀ (l m r : List AV),bU l m = true -> bU m r = true -> bU l r = true
 | [],[],[],_,_=>rfl
 | [],[],_ :: _,_,h=>by simp [bU] at h
 | [],_ :: _,_,h,_=>by simp [bU] at h
 | _ :: _,[],_,h,_=>by simp [bU] at h
 | _ :: _,_ :: _,[],_,h=>by simp [bU] at h
 | x :: l,y :: m,z :: r,h1,h2=>by
   simp only [bU,Bool.and_eq_true] at *
   exact ⟨yJ x y z h1.1 h2.1,vM l m r h1.2 h2.2⟩
end

theorem Fq {sh sh' : AV} (h : ay sh' sh = true) : ∀ {es : List (AV × AV)},JR sh' es -> JR sh es
 | [],_=>trivial
 | (_,_) :: _,hk=>⟨vK _ _ _ h hk.1,Fq h hk.2⟩

theorem key_eq {c : Cx} {sh A B : AV} {v u : Value} (h1 : ay sh A = true) (h2 : ay sh B = true) (hA : VV c A v) (hB : VV c B u) : v = u ↔ Hz A = Hz B:=by
 have e1:=(uN sh A _ h1 hA.2).1
 have e2:=(uN sh B _ h2 hB.2).1
 have hag : cZ A = cZ B:=by
  cases sh <;> cases A <;> first | (simp [ay] at h1; done) | skip
  all_goals (cases B <;> first | (simp [ay] at h2; done) | rfl)
 constructor
 ·rintro rfl
  rw [<- e1,<- e2]
 ·intro h
  have hc : v.cells.toList = u.cells.toList:=by rw [e1,e2,h]
  cases hb : cZ A with
  | true =>
    obtain ⟨cs,rfl⟩:=hA.1.1 hb
    obtain ⟨ds,rfl⟩:=hB.1.1 (hag ▸ hb)
    have : cs.toList = ds.toList:=hc
    rw [Array.toList_inj.1 this]
  | false =>
    have h3:=hA.1.2 hb
    have h4:=hB.1.2 (hag ▸ hb)
    rw [h3,h4] at hc
    simpa using hc

theorem Ac {c : Cx} : ∀ {es : List (AV × AV)} {ents : List MapEntry} {j : Nat} {x : MapEntry},yY c es ents -> ents[j]? = some x -> ∃ y,es[j]? = some y /\ VV c y.1 x.key /\ VV c y.2 x.val
 | [],ents,j,x,h,hj=>by obtain rfl:=h; simp at hj
 | (p,q) :: es,ents,0,x,h,hj=>by
   obtain ⟨e0,r,rfl,h1,h2,h3⟩:=h
   simp at hj; subst hj
   exact ⟨(p,q),rfl,h1,h2⟩
 | (p,q) :: es,ents,j + 1,x,h,hj=>by
   obtain ⟨e0,r,rfl,h1,h2,h3⟩:=h
   simpa using Ac h3 (by simpa using hj)

theorem rY {c : Cx} : ∀ {es : List (AV × AV)} {ents : List MapEntry} {j : Nat} {y : AV × AV},yY c es ents -> es[j]? = some y -> ∃ x,ents[j]? = some x /\ VV c y.1 x.key /\ VV c y.2 x.val
 | [],ents,j,x,h,hj=>by simp at hj
 | (p,q) :: es,ents,0,x,h,hj=>by
   obtain ⟨e0,r,rfl,h1,h2,h3⟩:=h
   simp at hj; subst hj
   exact ⟨e0,rfl,h1,h2⟩
 | (p,q) :: es,ents,j + 1,x,h,hj=>by
   obtain ⟨e0,r,rfl,h1,h2,h3⟩:=h
   simpa using rY h3 (by simpa using hj)

theorem nY {sh : AV} : ∀ {es : List (AV × AV)},JR sh es -> ∀ x ∈ es,ay sh x.1 = true
 | [],_,x,h=>by simp at h
 | (p,q) :: es,hk,x,h=>by
   rcases List.mem_cons.1 h with rfl | h
   ·exact hk.1
   ·exact nY hk.2 x h

theorem Dl {c : Cx} {K V : AV} {x : MapEntry} (hK : VV c K x.key) (hV : VV c V x.val) : ∀ {es : List (AV × AV)} {ents : List MapEntry},yY c es ents -> yY c (es ++ [(K,V)]) (ents ++ [x])
 | [],ents,h=>by obtain rfl:=h; exact ⟨x,[],rfl,hK,hV,rfl⟩
 | (p,q) :: es,ents,h=>by
   obtain ⟨e0,r,rfl,h1,h2,h3⟩:=h
   exact ⟨e0,r ++ [x],rfl,h1,h2,Dl hK hV h3⟩

theorem NH {c : Cx} {K V : AV} {x : MapEntry} (hK : VV c K x.key) (hV : VV c V x.val) : ∀ {es : List (AV × AV)} {ents : List MapEntry} {j : Nat},yY c es ents -> yY c (es.set j (K,V)) (ents.set j x)
 | [],ents,j,h=>by obtain rfl:=h; show yY c [] []; rfl
 | (p,q) :: es,ents,0,h=>by
   obtain ⟨e0,r,rfl,h1,h2,h3⟩:=h
   exact ⟨x,r,rfl,hK,hV,h3⟩
 | (p,q) :: es,ents,j + 1,h=>by
   obtain ⟨e0,r,rfl,h1,h2,h3⟩:=h
   exact ⟨e0,r.set j x,rfl,h1,h2,NH hK hV h3⟩

theorem DC {sh K V : AV} (hK : ay sh K = true) : ∀ {es : List (AV × AV)},JR sh es -> JR sh (es ++ [(K,V)])
 | [],_=>⟨hK,trivial⟩
 | (_,_) :: _,h=>⟨h.1,DC hK h.2⟩

theorem NV {sh K V : AV} (hK : ay sh K = true) : ∀ {es : List (AV × AV)} {j : Nat},JR sh es -> JR sh (es.set j (K,V))
 | [],_,_=>trivial
 | (_,_) :: _,0,h=>⟨hK,h.2⟩
 | (_,_) :: _,_ + 1,h=>⟨h.1,NV hK h.2⟩

theorem EF {kt : Nat} {sh sh' : AV} {es : List (AV × AV)} {ents : Array MapEntry} (hko : NU P kt sh) (hss : ay sh' sh = true) (hks : JR sh' es) (Xo : yY c es ents.toList) :
  JR sh es /\ ∀ x ∈ ents.toList,∃ l,keyOf P kt x.key = some l:=by
 have hk:=Fq hss hks
 refine ⟨hk,fun x hx=>?_⟩
 obtain ⟨j,hj⟩:=List.mem_iff_getElem?.1 hx
 obtain ⟨y,hy,hK,_⟩:=Ac Xo hj
 have hs:=nY hk y (List.mem_of_getElem? hy)
 exact hko.rd c.w c.Im y.1 x.key hs hK.1 (uN sh y.1 _ hs hK.2).2

theorem Kz (hL : bW P L) {t : Nat} (hr : HR c H) (ho : o.op = .makeMap t none)
  (h : L.aW t fun i=>(match i.key with | some sh=>mM H (.iD sh []) fun j H'=>k (.mp j) H' | none=>False)) : bQ P o a.eval c H k ks:=by
 obtain ⟨i,hT,h⟩:=Lay.aQ hL h
 split at h
 ·rename_i sh _
  have h:=dO.1 h
  have htr : Tr c H (c.push (.map #[] 0) ((nextId H,.iD sh []) :: H)) ((nextId H,.iD sh []) :: H):=by
   refine Tr.push hr _ _ (fun _=>rfl) ⟨#[],0,?_,rfl,trivial,by simp,by simp⟩
   rw [nNρ hr]; simp only [Cx.push]; exact alloc_heap_new _ _
  refine .inl ⟨.map (some c.w.heap.size),_,_,_,?_,htr,aS (dJ rfl rfl ?_),h⟩
  ·unfold execOp; rw [ho]
   simp only [Instr.makeMap,Sem.run_bind,run_newObj,Result.andThen_ok,Sem.run_pure,Option.map_none,World.alloc_eq]
   rfl
  ·simp only [VR]
   refine ⟨by simp only [Cx.push,hr.nx]; omega,?_⟩
   rw [nNρ hr]
 ·exact h.elim

theorem KI {kt : Nat} {sh sh' K : AV} {v : Value} {es : List (AV × AV)} {ents : Array MapEntry} {r : Option AV} (hko : NU P kt sh) (hss : ay sh' sh = true) (hks : JR sh' es) (Xo : yY c es ents.toList)
  (hdist : ents.toList.Pairwise fun a b=>a.key ≠ b.key) (HY : ay sh K = true) (hK : VV c K v) (hl : VP es K r) :
  (r = none /\ (Instr.findKey kt v ents.toList).run P c.w = .ok none c.w) \/ ∃ V u j,r = some V /\ (Instr.findKey kt v ents.toList).run P c.w = .ok (some (j,u)) c.w /\ VV c V u:=by
 obtain ⟨hk,hkeys⟩:=EF hko hss hks Xo
 obtain ⟨lk,hlk⟩:=hko.rd c.w c.Im K v HY hK.1 (uN sh K _ HY hK.2).2
 rcases hko.law.find c.w hlk ents.toList hkeys with ⟨h1,h2⟩ | ⟨j,x,h1,h2,h3⟩
 ·cases r with
  | none=>exact .inl ⟨rfl,h1⟩
  | some V =>
    exfalso
    obtain ⟨y,hy,he,_⟩:=hl
    obtain ⟨j,hj⟩:=List.mem_iff_getElem?.1 hy
    obtain ⟨x,hx,YM,_⟩:=rY Xo hj
    exact h2 x (List.mem_of_getElem? hx) ((key_eq (nY hk y hy) HY YM hK).2 he)
 ·obtain ⟨y,hy,YM,hyV⟩:=Ac Xo h2
  have hym:=List.mem_of_getElem? hy
  have hke : Hz y.1 = Hz K:=(key_eq (nY hk y hym) HY YM hK).1 h3
  cases r with
  | none=>exact absurd hke (hl y hym)
  | some V =>
    obtain ⟨z,hz,he,rfl⟩:=hl
    obtain ⟨i,hi⟩:=List.mem_iff_getElem?.1 hz
    obtain ⟨x',hx',Wx,ZR⟩:=rY Xo hi
    have hkk : x'.key = v:=(key_eq (nY hk z hz) HY Wx hK).2 he
    have hij : i = j:=by
     apply Classical.byContradiction
     intro hne
     obtain ⟨hi1,hi2⟩:=List.getElem?_eq_some_iff.1 hx'
     obtain ⟨hj1,hj2⟩:=List.getElem?_eq_some_iff.1 h2
     rcases Nat.lt_or_gt_of_ne hne with hlt | hlt
     ·have:=List.pairwise_iff_getElem.1 hdist i j hi1 hj1 hlt
      rw [hi2,hj2,hkk,h3] at this; exact this rfl
     ·have:=List.pairwise_iff_getElem.1 hdist j i hj1 hi1 hlt
      rw [hi2,hj2,hkk,h3] at this; exact this rfl
    subst hij
    rw [h2] at hx'
    obtain rfl:=Option.some.inj hx'
    exact .inr ⟨_,_,_,rfl,h1,ZR⟩

theorem VQ {j : Nat} {v : Value} (h : EV c (.mp j) v) : j < c.nx /\ v = .map (some (c.ρ j)):=VI h

theorem Aw {S A : AV} (h : ay S A = true) : isVal A = true:=by
 cases S <;> cases A <;> first | (simp [ay] at h; done) | rfl

theorem Oy (hL : bW P L) {t : Nat} {x ix : Operand} {ok : Bool} (hr : HR c H) (he : fC c e a) (hx : aV x = true) (hix : aV ix = true) (ho : o.op = .lookup t x ix ok)
  (h : bI e x fun A=>bI e ix fun K=>L.aW t fun i=>(match i.desc,i.key with
  | .map _ et,some sh=>Et (ay sh K) <| L.aW et fun ei=>(match A with
    | .mp j=>jC H j fun o=>(match o with
      | .iD sh' es=>Et (ay sh' sh) <| Fv es K fun r=>Bd ok ei.zero r fun R=>k R H
      | _=>False)
    | _=>False)
  | _,_=>False)) : bQ P o a.eval c H k ks:=by
 obtain ⟨A,hA,h⟩:=aG he hx h
 obtain ⟨K,hK,h⟩:=aG he hix h
 obtain ⟨i,hT,h⟩:=Lay.aQ hL h
 obtain ⟨d,hd,hdd⟩:=hT.under
 split at h
 ·rename_i kt et sh hdm hkey
  obtain rfl:=ql (hdd.trans hdm)
  have hko:=hT.keyed kt et sh hdm hkey
  obtain ⟨HY,h⟩:=nP.1 h
  obtain ⟨ei,hE,h⟩:=Lay.aQ hL h
  have QX:=lK hK (Aw HY)
  split at h
  ·rename_i j
   obtain ⟨_,e1⟩:=VQ hA
   obtain ⟨ob,hob,h⟩:=dw.1 h
   have hok:=hr.oh hob
   split at h
   ·rename_i sh' es
    obtain ⟨hss,h⟩:=nP.1 h
    obtain ⟨r,hl,hk⟩:=h.ex
    obtain ⟨ents,clock,g1,g2,g3,g4,g5⟩:=hok
    obtain ⟨lk,hlk⟩:=hko.rd c.w c.Im K _ HY QX.1 (uN sh K _ HY QX.2).2
    obtain ⟨z,hz,hzs,YL⟩:=hE.qO c.w
    have hZ : VV c ei.zero z:=⟨hzs,gB _ _ (YL _ _)⟩
    have run : ∀ {u : Value} {b : Bool},((∃ q,(Instr.findKey kt (a.eval ix) ents.toList).run P c.w = .ok (some (q,u)) c.w) /\ b = true \/ (Instr.findKey kt (a.eval ix) ents.toList).run P c.w = .ok none c.w /\ u = z /\ b = false) ->
      (execOp a.eval o).run P c.w = .ok (.value (if ok then .tuple #[u,.bool b] else u)) c.w:=by
     intro u b hc
     unfold execOp; rw [ho]
     simp only [Instr.lookup,Sem.run_bind,run_underlying hd,Result.andThen_ok,e1,Go.MapKept.run_getObj_map g1,Sem.run_pure,hko.law.check c.w _ hlk]
     rcases hc with ⟨⟨q,hq⟩,rfl⟩ | ⟨hq,rfl,rfl⟩
     ·simp only [hq,Result.andThen_ok,Sem.run_pure,Sem.run_bind]
     ·simp only [hq,Result.andThen_ok,Sem.run_pure,hz,Sem.run_bind]
    rcases KI hko hss g3 g2 g5 HY QX hl with ⟨rfl,h1⟩ | ⟨V,u,q,rfl,h1,hV⟩
    ·cases ok with
     | true=>exact .pure hr (run (.inr ⟨h1,rfl,rfl⟩)) (xu hZ jI) hk
     | false=>exact .pure hr (run (.inr ⟨h1,rfl,rfl⟩)) (aS hZ) hk
    ·cases ok with
     | true=>exact .pure hr (run (.inl ⟨⟨q,h1⟩,rfl⟩)) (xu hV mZ) hk
     | false=>exact .pure hr (run (.inl ⟨⟨q,h1⟩,rfl⟩)) (aS hV) hk
   ·exact h.elim
  ·exact h.elim
 ·exact h.elim

theorem run_setObj_map {r : Nat} {ents : Array MapEntry} {clock : Nat} {w : World} (h : w.heap[r]? = some (.map ents clock)) (o' : Obj) : (setObj r o').run P w = .ok () { w with heap:=w.heap.setIfInBounds r o' }:=by
 simp [setObj,Sem.run,h]

theorem Jh {w : World} {b o : Nat} {ents : Array MapEntry} {clock : Nat} (h : w.heap[b]? = some (.map ents clock)) : w.cell? ⟨b,o,none⟩ = none:=by
 simp [World.cell?,h]

theorem Tr.writeMap {c : Cx} {H : Heap} {k : Nat} {sh : AV} {es es' : List (AV × AV)} {ents wG : Array MapEntry} {clock clock' : Nat} (hr : HR c H) (hk : hget H k = some (.iD sh es)) (hg : c.w.heap[c.ρ k]? = some (.map ents clock))
  (hok : c.Le { c with w:={ c.w with heap:=c.w.heap.setIfInBounds (c.ρ k) (.map wG clock') } } -> ({ c.w with heap:=c.w.heap.setIfInBounds (c.ρ k) (.map wG clock') } : World).heap[c.ρ k]? = some (.map wG clock') ->
   (HO.iD sh es').Ok { c with w:={ c.w with heap:=c.w.heap.setIfInBounds (c.ρ k) (.map wG clock') } } k) :
  Tr c H { c with w:={ c.w with heap:=c.w.heap.setIfInBounds (c.ρ k) (.map wG clock') } } (hset H k (.iD sh es')):=by
 have hother : ∀ b,b ≠ c.ρ k -> (c.w.heap.setIfInBounds (c.ρ k) (.map wG clock'))[b]? = c.w.heap[b]?:=fun b hb=>Array.getElem?_setIfInBounds_ne (fun e=>hb e.symm)
 have hlt:=(Array.getElem?_eq_some_iff.1 hg).1
 have hnew : ({ c.w with heap:=c.w.heap.setIfInBounds (c.ρ k) (.map wG clock') } : World).heap[c.ρ k]? = some (.map wG clock'):=by
  show (c.w.heap.setIfInBounds (c.ρ k) _)[c.ρ k]? = _
  rw [Array.getElem?_setIfInBounds_self_of_lt hlt]
 have le : c.Le { c with w:={ c.w with heap:=c.w.heap.setIfInBounds (c.ρ k) (.map wG clock') } }:=by
  refine ⟨fun b y h=>⟨h,?_⟩,Nat.le_refl _,fun _ _=>rfl,fun _ _ _ h=>.inl ⟨h,rfl⟩⟩
  by_cases hb : b = c.ρ k
  ·subst hb; rw [Jh hg]; exact Jh hnew
  ·exact fP (hother b hb)
 refine Tr.set hr hk le rfl ?_ (fun _ _=>rfl) rfl rfl rfl (by simp) (fun b hb' hn=>hother b ?_) (fun b x h=>.inl h) (fun b h=>.inr ?_) (hok le hnew)
 ·rw [iF hk (by intros; simp) (by intros; simp)]; exact hr.tp
 ·intro e; exact hn (by rw [e]; rfl)
 ·exact h

theorem vV (hL : bW P L) {t : Nat} {x ix y : Operand} (hr : HR c H) (he : fC c e a) (hx : aV x = true) (hix : aV ix = true) (hy : aV y = true) (ho : o.op = .mapUpdate t x ix y)
  (h : bI e x fun A=>bI e ix fun K=>bI e y fun V=>wY L t A K V H ks) : bQ P o a.eval c H k ks:=by
 obtain ⟨A,hA,h⟩:=aG he hx h
 obtain ⟨K,hK,h⟩:=aG he hix h
 obtain ⟨V,hV,h⟩:=aG he hy h
 unfold wY at h
 obtain ⟨i,hT,h⟩:=Lay.aQ hL h
 obtain ⟨d,hd,hdd⟩:=hT.under
 split at h
 ·rename_i kt et sh hdm hkey
  obtain rfl:=ql (hdd.trans hdm)
  have hko:=hT.keyed kt et sh hdm hkey
  obtain ⟨HY,h⟩:=nP.1 h
  obtain ⟨hval,ei,hE,hf,hg,h⟩:=iM hL h
  have QX:=lK hK (Aw HY)
  have hVv:=lK hV hval
  obtain ⟨j,rfl⟩ : ∃ j,A = .mp j:=by cases A <;> first | exact h.elim | exact ⟨_,rfl⟩
  obtain ⟨_,e1⟩:=VQ hA
  obtain ⟨ob,hob,h⟩:=dw.1 h
  have hok:=hr.oh hob
  obtain ⟨sh',es,rfl⟩ : ∃ sh' es,ob = .iD sh' es:=by cases ob <;> first | exact h.elim | exact ⟨_,_,rfl⟩
  obtain ⟨hss,h⟩:=nP.1 h
  obtain ⟨es',hu,hk⟩:=h.ex
  obtain ⟨_,hk⟩:=fK.1 hk
  obtain ⟨ents,clock,g1,g2,g3,g4,g5⟩:=hok
  obtain ⟨lk,hlk⟩:=hko.rd c.w c.Im K _ HY QX.1 (uN sh K _ HY QX.2).2
  have XJ : ay sh' K = true:=yJ _ _ _ hss HY
  obtain ⟨hks,hkeys⟩:=EF hko hss g3 g2
  have VB:=hko.law.check c.w false hlk
  rcases hko.law.find c.w hlk ents.toList hkeys with ⟨h1,h2⟩ | ⟨q,x0,h1,h2,h3⟩
  ·have hrun : (execOp a.eval o).run P c.w = .ok .skip { c.w with heap:=c.w.heap.setIfInBounds (c.ρ j) (.map (ents.push { key:=a.eval ix,val:=a.eval y,born:=clock }) (clock + 1)) }:=by
    unfold execOp; rw [ho]
    simp only [Instr.mapUpdate,Sem.run_bind,run_underlying hd,Result.andThen_ok,e1,Go.MapKept.run_getObj_map g1,Sem.run_pure,VB,h1,run_setObj_map g1]
   rcases hu with ⟨hu1,rfl⟩ | ⟨i,z,hu1,hu2,_⟩
   ·refine .inr (.inl ⟨_,_,hrun,Tr.writeMap hr hob g1 fun le hnew=>⟨_,_,hnew,?_,DC XJ g3,?_,?_⟩,hk⟩)
    ·rw [Array.toList_push]
     exact Dl (lX le QX) (lX le hVv) (xq le g2)
    ·intro e he
     rw [Array.toList_push] at he
     rcases List.mem_append.1 he with he | he
     ·have:=g4 e he; omega
     ·simp at he; subst he; exact Nat.lt_succ_self _
    ·rw [Array.toList_push,List.pairwise_append]
     refine ⟨g5,by simp,fun e he f hf=>?_⟩
     simp at hf; subst hf
     exact h2 e he
   ·exfalso
    obtain ⟨x',hx',Wx,_⟩:=rY g2 hu1
    exact h2 x' (List.mem_of_getElem? hx') ((key_eq (nY hks z (List.mem_of_getElem? hu1)) HY Wx QX).2 hu2)
  ·have hq : ents[q]? = some x0:=by simpa using h2
   have hrun : (execOp a.eval o).run P c.w = .ok .skip { c.w with heap:=c.w.heap.setIfInBounds (c.ρ j) (.map (ents.modify q fun e=>{ e with key:=a.eval ix,val:=a.eval y }) clock) }:=by
    unfold execOp; rw [ho]
    simp only [Instr.mapUpdate,Sem.run_bind,run_underlying hd,Result.andThen_ok,e1,Go.MapKept.run_getObj_map g1,Sem.run_pure,VB,h1,hq,Option.map_some,Option.getD_some,h3,hko.law.stays c.w hlk,run_setObj_map g1]
   have hmod : (ents.modify q fun e=>{ e with key:=a.eval ix,val:=a.eval y }).toList = ents.toList.set q { x0 with key:=a.eval ix,val:=a.eval y }:=by
    apply List.ext_getElem?
    intro n
    rw [Array.getElem?_toList,Array.getElem?_modify,List.getElem?_set]
    by_cases hn : q = n
    ·subst hn
     have hlt:=(Array.getElem?_eq_some_iff.1 hq).1
     rw [if_pos rfl,if_pos rfl,if_pos (by simpa using hlt),hq]
     rfl
    ·simp [hn]
   rcases hu with ⟨hu1,rfl⟩ | ⟨i,z,hu1,hu2,rfl⟩
   ·exfalso
    obtain ⟨z,hz,Wx,_⟩:=Ac g2 h2
    exact hu1 z (List.mem_of_getElem? hz) ((key_eq (nY hks z (List.mem_of_getElem? hz)) HY Wx QX).1 h3)
   ·obtain ⟨x',hx',Wx,_⟩:=rY g2 hu1
    have hkk : x'.key = a.eval ix:=(key_eq (nY hks z (List.mem_of_getElem? hu1)) HY Wx QX).2 hu2
    have hij : i = q:=by
     apply Classical.byContradiction
     intro hne
     obtain ⟨hi1,hi2⟩:=List.getElem?_eq_some_iff.1 hx'
     obtain ⟨hj1,hj2⟩:=List.getElem?_eq_some_iff.1 h2
     rcases Nat.lt_or_gt_of_ne hne with hlt | hlt
     ·have:=List.pairwise_iff_getElem.1 g5 i q hi1 hj1 hlt
      rw [hi2,hj2,hkk,h3] at this; exact this rfl
     ·have:=List.pairwise_iff_getElem.1 g5 q i hj1 hi1 hlt
      rw [hi2,hj2,hkk,h3] at this; exact this rfl
    subst hij
    refine .inr (.inl ⟨_,_,hrun,Tr.writeMap hr hob g1 fun le hnew=>⟨_,_,hnew,?_,NV XJ g3,?_,?_⟩,hk⟩)
    ·rw [hmod]
     exact NH (lX le QX) (lX le hVv) (xq le g2)
    ·intro e he
     rw [hmod] at he
     rcases List.mem_or_eq_of_mem_set he with he | rfl
     ·exact g4 e he
     ·exact g4 x0 (List.mem_of_getElem? h2)
    ·rw [hmod]
     rw [List.pairwise_iff_getElem] at g5 ⊢
     intro m n hm hn hlt
     have hm' : m < ents.toList.length:=by simpa using hm
     have hn' : n < ents.toList.length:=by simpa using hn
     have hk0 : ∀ (r : Nat) (hr : r < (ents.toList.set i { x0 with key:=a.eval ix,val:=a.eval y }).length) (hr' : r < ents.toList.length),((ents.toList.set i { x0 with key:=a.eval ix,val:=a.eval y })[r]).key = (ents.toList[r]).key:=by
      intro r hr hr'
      rw [List.getElem_set]
      split
      ·rename_i hir
       subst hir
       have:=(List.getElem?_eq_some_iff.1 h2).2
       rw [this]; exact h3.symm
      ·rfl
     rw [hk0 m hm hm',hk0 n hn hn']
     exact g5 m n hm' hn' hlt
 ·exact h.elim

end
end Go.AL

namespace Go.AL

def FZ : Op -> Bool
 | .move x | .assign x | .load _ x | .nilCheck x | .unOp _ _ x | .convert _ _ x | .makeInterface _ x | .box _ x | .extract x _ | .fieldAddr _ x _ | .field _ x _=>aV x
 | .pick a b d=>aV a && aV b && aV d
 | .store _ x y | .binOp _ _ x y _ | .makeSlice _ x y | .indexAddr _ x y | .index _ x y | .lookup _ x y _=>aV x && aV y
 | .typeAssert x _ _ _=>aV x
 | .mapUpdate _ x y z | .insert _ x y z=>aV x && aV y && aV z
 | .build _ ps | .buildSlice _ _ ps=>ps.toList.all fun p=>aV p.2
 | .makeFunc _ first cap=>first.toList.all aV && cap.toList.all aV
 | .slice _ x lo hi _=>aV x && lo.all aV && hi.all aV
 | .call cl=>cl.args.toList.all aV && (match cl.callee with | .value f=>aV f | _=>true)
 | _=>true

section
variable {P : Program} {L : Lay} {c : Cx} {H : Heap} {e : Env} {a : Act} {k : AV -> Heap -> Prop} {ks : Heap -> Prop} {o : Oper} {F : FT}

theorem KE (hL : bW P L) {b : Builtin} {cl : Call} (hr : HR c H) (he : fC c e a) (hx : cl.args.toList.all aV = true) (ho : o.op = .call cl) (hc : cl.callee = .builtin b)
  (h : lJ e cl.args.toList fun As=>fA L b cl.argTypes.toList As H k) : bQ P o a.eval c H k ks:=by
 have hh:=jO he hx h
 clear h
 obtain ⟨As,h1,h⟩:=hh
 unfold fA at h
 generalize hat : cl.argTypes.toList = ats at h
 split at h
 ·rename_i t r A
  obtain ⟨i,hT,h⟩:=Lay.aQ hL h
  obtain ⟨v,hv,hA⟩:=tK h1
  exact Qr hr ho hc (by rw [<- Array.getElem?_toList,hat]; rfl) hT hv hA h
 ·rename_i t u r A B
  obtain ⟨v,x,hv,hA,hB⟩:=qG h1
  exact OA hL hr ho hc hat hv hA hB h
 ·obtain ⟨v,x,hv,hA,hB⟩:=qG h1
  exact Qq hr ho hc hv hA hB h
 ·obtain ⟨v,x,hv,hA,hB⟩:=qG h1
  exact Qp hr ho hc hv hA hB h
 ·exact h.elim

theorem mO (hL : bW P L) (hFn : FS P F) (hr : HR c H) (he : fC c e a) (hb : FZ o.op = true) (h : gq F Ok L o.op e H k ks) : bQ P o a.eval c H k ks:=by
 cases ho : o.op with
 | move x=>rw [ho] at h hb; exact MJ hr he hb (.inl ho) h
 | assign x=>rw [ho] at h hb; exact MJ hr he hb (.inr ho) h
 | pick x y z =>
   rw [ho] at h hb; simp only [FZ,Bool.and_eq_true] at hb
   exact Uh hr he hb.1.1 hb.1.2 hb.2 ho h
 | alloc t=>rw [ho] at h hb; exact Qx hL hr ho h
 | box t x=>rw [ho] at h hb; exact V9 hL hr he hb ho h
 | build t ps =>
   rw [ho] at h hb
   exact Qw hL hr he (fun p hp=>List.all_eq_true.1 hb p hp) ho h
 | buildSlice t n ps =>
   rw [ho] at h hb
   exact DZ hL hr he (fun p hp=>List.all_eq_true.1 hb p hp) ho h
 | load t x=>rw [ho] at h hb; exact Uj hL hr he hb ho h
 | store t x y =>
   rw [ho] at h hb; simp only [FZ,Bool.and_eq_true] at hb
   exact Qm hL hr he hb.1 hb.2 ho h
 | nilCheck x=>rw [ho] at h hb; exact Iq hr he hb ho h
 | binOp op t x y ty =>
   rw [ho] at h hb; simp only [FZ,Bool.and_eq_true] at hb
   cases hn : lU (.binOp op t x y ty) with
   | true=>simp only [gq,hn] at h; exact Ox hL hr he hb.1 ho hn h
   | false=>simp only [gq,hn] at h; exact Wh hL hr he hb.1 hb.2 ho h
 | typeAssert x xt s ok=>rw [ho] at h hb; exact DX hL hr he hb ho h
 | makeMap t r =>
   rw [ho] at h
   cases r with
   | none=>exact Kz hL hr ho h
   | some x=>exact h.elim
 | lookup t x y ok =>
   rw [ho] at h hb; simp only [FZ,Bool.and_eq_true] at hb
   exact Oy hL hr he hb.1 hb.2 ho h
 | mapUpdate t x y z =>
   rw [ho] at h hb; simp only [FZ,Bool.and_eq_true] at hb
   exact vV hL hr he hb.1.1 hb.1.2 hb.2 ho h
 | unOp op t x=>rw [ho] at h hb; exact Ug hr he hb ho h
 | convert s d x=>rw [ho] at h hb; exact KC hL hr he hb ho h
 | makeInterface t x=>rw [ho] at h hb; exact xJ hL hr he hb ho h
 | makeFunc f first cap=>rw [ho] at h hb; simp only [FZ,Bool.and_eq_true] at hb; exact Ir hr he hb.2 ho h
 | makeSlice t x y =>
   rw [ho] at h hb; simp only [FZ,Bool.and_eq_true] at hb
   exact FW hL hr he hb.1 hb.2 ho h
 | slice t x lo hi mx =>
   rw [ho] at h hb; simp only [FZ,Bool.and_eq_true] at hb
   cases mx with
   | none=>exact Qn hL hr he hb.1.1 hb.1.2 hb.2 ho h
   | some y=>exact h.elim
 | fieldAddr t x f=>rw [ho] at h hb; exact FY hL hr he hb ho h
 | indexAddr t x y =>
   rw [ho] at h hb; simp only [FZ,Bool.and_eq_true] at hb
   exact FX hL hr he hb.1 hb.2 ho h
 | index t x y =>
   rw [ho] at h hb; simp only [FZ,Bool.and_eq_true] at hb
   exact Qs hL hr he hb.1 hb.2 ho h
 | extract x i=>rw [ho] at h hb; exact KA hr he hb ho h
 | call cl =>
   rw [ho] at h hb; simp only [FZ,Bool.and_eq_true] at hb
   cases hc : cl.callee with
   | value f =>
     simp only [gq,hc] at h hb
     exact DY hFn hr he hb.2 hb.1 ho hc h
   | builtin b =>
     simp only [gq,hc] at h
     exact KE hL hr he hb.1 ho hc h
   | invoke r m=>simp only [gq,hc] at h
 | _=>rw [ho] at h; exact h.elim

theorem NI : ∀ {l : List (AV × AV)} {es : List MapEntry},yY c l es -> es.length = l.length
 | [],_,h=>by simp only [yY] at h; subst h; rfl
 | (x,y) :: l,es,h=>by
   obtain ⟨e,r,rfl,_,_,h4⟩:=h
   simp [NI h4]

theorem Qv (hL : bW P L) {cl : Call} {t : Nat} {r : List Nat} {v : Value} {A : AV} (hr : HR c H) (ho : o.op = .call cl) (hc : cl.callee = .builtin .clear) (hat : cl.argTypes.toList = t :: r) (hv : cl.args.toList.map a.eval = [v])
  (h : L.aW t fun i=>(match i.desc,A with
   | .slice el,.ms j off len _ 1=>L.aW el fun ei=>Et (!cZ ei.zero) <| jC H j fun o=>(match o with
     | .arr 1 cp l=>(0 < len /\ off + len <= l.length) /\ mW H j (.arr 1 cp (l.take off ++ List.replicate len ei.zero ++ l.drop (off + len))) fun H'=>k (.dS []) H'
     | _=>False)
   | _,_=>False)) (hA : EV c A v) : bQ P o a.eval c H k ks:=by
 obtain ⟨i,hT,h⟩:=Lay.aQ hL h
 split at h
 ·rename_i el j off len cap hd _
  obtain ⟨d,hu,hdd⟩:=hT.under
  obtain rfl:=bC (hdd.trans hd)
  obtain ⟨ei,hE,h⟩:=Lay.aQ hL h
  obtain ⟨hfl,h⟩:=nP.1 h
  obtain ⟨ob,hob,h⟩:=dw.1 h
  split at h
  ·rename_i cp l
   obtain ⟨⟨h0,hlen⟩,h⟩:=h
   obtain ⟨_,h⟩:=fK.1 h
   obtain ⟨cs,ty,g1,g2,g3,g4,g5,g6⟩:=hr.oh hob
   obtain ⟨z,z1,z2,z3⟩:=hE.qO c.w
   obtain ⟨hj,rfl,_,_⟩:=uD hA
   have hzc : z.cells = #[z]:=z2.2 (by simpa using hfl)
   have hz1 : z.oneCell' = true:=kN _ _ (gB (c:=c) _ _ (z3 c.w c.Im)) z (by rw [hzc]; simp)
   have hzs : (Builtin.zeroCells z.cells len).toList = List.replicate len z:=by
    rw [hzc]
    simp [Builtin.zeroCells]
    apply List.ext_getElem
    ·simp
    ·intro i h1 h2
     simp [Nat.mod_one]
   rw [Nat.mul_one] at *
   have hst:=run_storeCells_at (P:=P) (c.ρ j) off ty (List.replicate len z) 0 cs.toArray c.w g1 (by simp; omega) (fun v hv=>by rw [List.eq_of_mem_replicate hv]; exact hz1)
   simp only [Nat.add_zero,List.length_replicate] at hst
   refine .inl ⟨.tuple #[],{ c with w:=c.w.setRow (c.ρ j) (cs.take off ++ List.replicate len z ++ cs.drop (off + len)).toArray },.dS [],_,?_,?_,?_,h⟩
   ·rw [gG ho hc,gI hv]
    obtain ⟨m,rfl⟩ : ∃ m,len = m + 1:=⟨len - 1,by omega⟩
    simp only [builtin,Builtin.clear_,hat,<- Array.getElem?_toList,List.getElem?_cons_zero,Sem.run_bind,run_underlying hu,Result.andThen_ok,z1,hzs,hst,Sem.run_pure]
   ·refine Tr.write hr hob g1 (fun _=>rfl) (fun _=>rfl) g6 (by intros; simp) (by intros; simp) ?_
    have le : c.Le { c with w:=c.w.setRow (c.ρ j) (cs.take off ++ List.replicate len z ++ cs.drop (off + len)).toArray }:=by
     refine ⟨fun b x h=>⟨h,fP (setRow_other c.w _ b _ (fun e=>g6 x (e ▸ h)))⟩,Nat.le_refl _,fun _ _=>rfl,fun _ _ _ h=>.inl ⟨h,rfl⟩⟩
    refine ⟨_,ty,setRow_heap c.w _ _ _ _ _ g1,?_,?_,g4,lD le ?_,g6⟩
    ·simp; omega
    ·simp; omega
    ·refine tJ (tJ (Dq off g5) (by simp; omega) (Hg (by have:=z3 c.w c.Im; rw [hzc] at this; simpa using this) len)) (by simp; omega) (Du _ g5)
   ·exact ⟨#[],rfl,rfl⟩
  ·exact h.elim
 ·exact h.elim

theorem V8 {cl : Call} {t el : Nat} {i : TI} (hr : HR c H) (ho : o.op = .call cl) (hc : cl.callee = .builtin .cap) (hat : cl.argTypes[0]? = some t) (hT : lZ P t i)
  {v : Value} (hv : cl.args.toList.map a.eval = [v]) (hA : EV c .bH v) (hi : i.desc = .slice el) (h : k (.int .i64 0) H) : bQ P o a.eval c H k ks:=by
 obtain ⟨d,hd,hdd⟩:=hT.under
 obtain rfl:=bC (hdd.trans hi)
 obtain rfl:=lW hA
 refine .pure hr (v:=.int .i64 0) ?_ (aS (cO (pW (n:=0) (by simp [maxL])))) h
 rw [gG ho hc,gI hv]
 simp only [builtin,Builtin.cap_,hat,List.getElem?_toArray,List.getElem?_cons_zero,Sem.run_bind,run_underlying hd,Result.andThen_ok,Sem.run_pure,goInt]
 rfl

theorem KF (hL : bW P L) {cl : Call} {t u : Nat} {r : List Nat} {A B : AV} (hr : HR c H) (ho : o.op = .call cl) (hc : cl.callee = .builtin .append) (hat : cl.argTypes.toList = t :: u :: r)
  {v x : Value} (hv : cl.args.toList.map a.eval = [v,x]) (hA : EV c A v) (hB : EV c B x) {kn : IntKind} (hu : P.underlying u = some (.int kn)) (h : Df L t A B H k) : bQ P o a.eval c H k ks:=by
 unfold Df at h
 have hh:=Lay.aQ hL h
 clear h
 obtain ⟨i,hT,h⟩:=hh
 obtain ⟨dt,ht,hdt⟩:=hT.under
 split at h
 case h_2=>exact h.elim
 rename_i el hi
 obtain rfl:=bC (hdt.trans hi)
 have hh:=Lay.aQ hL h
 clear h
 obtain ⟨ei,hE,h⟩:=hh
 have hh:=nP.1 h
 clear h
 obtain ⟨hfl,h⟩:=hh
 split at h
 case h_2=>exact h.elim
 rename_i kd n
 obtain ⟨⟨h0,h1,h2⟩,h⟩:=h
 obtain rfl:=lW hA
 obtain ⟨rfl,_⟩:=iP hB
 obtain ⟨info,z,g1,g2,g3,g4,g5,g6⟩:=hE.info
 have hf1 : flat ei.zero = 1:=by
  cases hz : ei.zero <;> simp [hz,cZ] at hfl <;> simp [flat]
 obtain ⟨m,rfl⟩ : ∃ m : Nat,n = m:=⟨n.toNat,by omega⟩
 have hzc : z.cells = #[z]:=g5.2 (by simpa using hfl)
 have hrun : ∀ ty,(Builtin.append_ #[t,u] ty #[.slice none 0 0,.int kd m]).run P c.w = _:=fun ty =>
  Go.Lib.run_append_nil_zeros c.w t u ty el info z kd kn ht hu g1 g4 m (by omega) (by omega) (by omega) (by
   rw [g3]
   have h3 : ((m * ei.bytes : Nat) : Int) <= 140737488355328:=by rw [Int.natCast_mul]; exact h2
   omega)
 have hge:=grownCap_ge c.w m 0 el
 have hle:=grownCap_le_maxLen c.w m 0 el (by unfold maxLen; omega)
 have hle' : grownCap c.w m 0 el <= maxL:=by simpa [maxL,maxLen] using hle
 have uh : ∀ r w',(Builtin.append_ #[t,u] o.type #[.slice none 0 0,.int kd m]).run P c.w = .ok r w' -> (execOp a.eval o).run P c.w = .ok (.value r) w':=by
  intro rr w' hrr
  rw [gG ho hc,gI hv]
  have e2 : (Builtin.append_ cl.argTypes o.type #[.slice none 0 0,.int kd m]).run P c.w = (Builtin.append_ #[t,u] o.type #[.slice none 0 0,.int kd m]).run P c.w:=by
   have e0 : cl.argTypes[0]? = some t:=by rw [<- Array.getElem?_toList,hat]; rfl
   have e1 : cl.argTypes[1]? = some u:=by rw [<- Array.getElem?_toList,hat]; rfl
   unfold Builtin.append_
   simp only [e0,e1]
   rfl
  simp only [builtin,Sem.run_bind,e2,hrr,Result.andThen_ok,Sem.run_pure]
 have hrun:=hrun o.type
 generalize hcp : grownCap c.w m 0 el = cap' at hge hle' hrun
 rw [Int.toNat_natCast] at h
 let cs:=Builtin.zeroCells z.cells m ++ Builtin.zeroCells z.cells (cap' - m)
 have hz0 : ∀ n,(Builtin.zeroCells z.cells n).toList = List.replicate n z:=by
  intro n
  rw [hzc]
  simp [Builtin.zeroCells]
  apply List.ext_getElem
  ·simp
  ·intro i h1 h2
   simp [Nat.mod_one]
 have hcs : cs.toList = List.replicate m z ++ List.replicate (cap' - m) z:=by simp only [cs,Array.toList_append,hz0]
 have htd:=Tr.drew hr
 let d0 : Cx:={ c with w:=c.w.drew }
 have hr0 : HR d0 H:=htd.hr
 have htr : Tr c H (d0.push (.cells cs el) ((nextId H,.arr 1 cap' (List.replicate m ei.zero)) :: H)) ((nextId H,.arr 1 cap' (List.replicate m ei.zero)) :: H):=by
  refine htd.trans (Tr.push hr0 _ _ (fun _=>rfl) ?_)
  refine ⟨cs.toList,el,?_,?_,by simp; exact hge,hle',?_,?_⟩
  ·rw [nNρ hr0]; simp only [Cx.push,Array.toArray_toList]; exact alloc_heap_new _ _
  ·rw [hcs]; simp; omega
  ·rw [hcs]
   have:=Hg (c:=d0.push (.cells cs el) ((nextId H,.arr 1 cap' (List.replicate m ei.zero)) :: H)) (z:=ei.zero) (y:=z) (by have:=g6 (d0.push (.cells cs el) ((nextId H,.arr 1 cap' (List.replicate m ei.zero)) :: H)).w (d0.push (.cells cs el) ((nextId H,.arr 1 cap' (List.replicate m ei.zero)) :: H)).Im; rw [hzc] at this; simpa using this) m
   have h9:=tJ (m:=[]) (ds:=List.replicate (cap' - m) z) this (by simp) trivial
   simpa using h9
  ·intro y hy
   rw [nNρ hr0] at hy
   have:=hr0.im _ _ hy
   omega
 refine .inl ⟨_,_,_,_,uh _ _ hrun,htr,aS (dJ rfl rfl ?_),h cap' hge hle'⟩
 simp only [VR]
 rw [nNρ hr0]
 exact ⟨by simp only [Cx.push,hr0.nx]; omega,by simp [d0],hge,hle'⟩

theorem Jw {u : Nat} {X Y : Prop} (hat : L.aW u fun i=>(match i.desc with | .slice _=>X | .str=>X | .int _=>Y | _=>False)) (hL : bW P L) :
  ((∃ d,P.underlying u = some d /\ ((∃ e,d = .slice e) \/ d = .string)) /\ X) \/ (∃ kn,P.underlying u = some (.int kn)) /\ Y:=by
 obtain ⟨i,hT,h⟩:=Lay.aQ hL hat
 obtain ⟨d,hd,hdd⟩:=hT.under
 cases hi : i.desc <;> simp only [hi] at h <;> first | exact h.elim | skip
 ·exact .inr ⟨⟨_,by rw [hd,BP (hdd.trans hi)]⟩,h⟩
 ·exact .inl ⟨⟨d,hd,.inr (kJ (hdd.trans hi))⟩,h⟩
 ·exact .inl ⟨⟨d,hd,.inl ⟨_,bC (hdd.trans hi)⟩⟩,h⟩

theorem Iw (hL : bW P L) {b : Builtin} {cl : Call} (hr : HR c H) (he : fC c e a) (hx : cl.args.toList.all aV = true) (ho : o.op = .call cl) (hc : cl.callee = .builtin b)
  (h : lJ e cl.args.toList fun As=>yx L b cl.argTypes.toList As H k) : bQ P o a.eval c H k ks:=by
 have hh:=jO he hx h
 clear h
 obtain ⟨As,h1,h⟩:=hh
 unfold yx at h
 generalize hat : cl.argTypes.toList = ats at h
 split at h
 ·rename_i t r A
  have hh:=Lay.aQ hL h
  clear h
  obtain ⟨i,hT,h⟩:=hh
  obtain ⟨v,hv,hA⟩:=tK h1
  split at h
  ·rename_i p q j hd
   obtain ⟨ob,hob,h⟩:=dw.1 h
   split at h
   ·rename_i sh es
    obtain ⟨d,hu,hdd⟩:=hT.under
    obtain rfl:=ql (hdd.trans hd)
    obtain ⟨hj,rfl⟩:=VI hA
    obtain ⟨ents,clock,g1,g2,g3,g4⟩:=hr.oh hob
    have hlen : ents.size = es.length:=by rw [<- Array.length_toList]; exact NI g2
    refine .pure hr (v:=.int .i64 es.length) ?_ (aS (cO (pW h.1))) h.2
    rw [gG ho hc,gI hv]
    simp only [builtin,Builtin.len_,hat,<- Array.getElem?_toList,List.getElem?_cons_zero,Sem.run_bind,run_underlying hu,Result.andThen_ok,Go.MapKept.run_getObj_map g1,Sem.run_pure,goInt,hlen]
   ·exact h.elim
  ·exact Qr hr ho hc (by rw [<- Array.getElem?_toList,hat]; rfl) hT hv hA h
 ·rename_i t u r A B
  obtain ⟨v,x,hv,hA,hB⟩:=qG h1
  rcases Jw h hL with hh | ⟨⟨kn,hu⟩,hh⟩
  ·exact KG hL hr ho hc hat hv hA hB hh
  ·exact KF hL hr ho hc hat hv hA hB hu hh
 ·rename_i t r A
  have hh:=Lay.aQ hL h
  clear h
  obtain ⟨i,hT,h⟩:=hh
  obtain ⟨v,hv,hA⟩:=tK h1
  split at h
  ·rename_i hd
   exact V8 hr ho hc (by rw [<- Array.getElem?_toList,hat]; rfl) hT hv hA hd h
  ·exact h.elim
 ·obtain ⟨v,x,hv,hA,hB⟩:=qG h1
  exact Qq hr ho hc hv hA hB h
 ·obtain ⟨v,x,hv,hA,hB⟩:=qG h1
  exact Qp hr ho hc hv hA hB h
 ·rename_i A B C
  obtain ⟨v,r,hv,hA,h1⟩:=h1
  obtain ⟨u,x,rfl,hB,hC⟩:=qG h1
  exact Ui hr ho hc hv hA hB hC h
 ·rename_i t r A
  obtain ⟨v,hv,hA⟩:=tK h1
  exact Qv hL hr ho hc hat hv h hA
 ·exact h.elim

theorem KD {F : FT} (hFn : FS P F) {f : Operand} {cl : Call} {g j : Nat} {As : List AV} (hr : HR c H) (ho : o.op = .call cl) (hc : cl.callee = .value f)
  (hA : EV c (.bm g j) (a.eval f)) (h2 : yD c As (cl.args.toList.map a.eval)) (h3 : Fz F Ok g (.ptr j [] 0 :: As) H k) : bQ P o a.eval c H k ks:=by
 obtain ⟨hj,e1⟩:=Yf hA
 have hp : EV c (.ptr j [] 0) (.pointer (some ⟨c.ρ j,0,none⟩)):=aS (dJ rfl rfl (by simp only [VR]; exact ⟨hj,trivial⟩))
 have h1 : yD c (.ptr j [] 0 :: As) (.pointer (some ⟨c.ρ j,0,none⟩) :: cl.args.toList.map a.eval):=⟨_,_,rfl,hp,h2⟩
 have key : ∃ R H',(∃ fn,P.funcs[g]? = some fn /\ (fn.name == "runtime.NumGoroutine") = false /\ fn.body.isSome = true) /\
   (Calls P g (.pointer (some ⟨c.ρ j,0,none⟩) :: cl.args.toList.map a.eval).toArray c.w fun e w'=>∃ v d,e = .returned v /\ d.w = w' /\ Tr c H d H' /\ EV d R v) /\ k R H':=by
  have fin : ∀ {R H'},(Calls P g (.pointer (some ⟨c.ρ j,0,none⟩) :: cl.args.toList.map a.eval).toArray c.w fun e w'=>∃ v d,e = .returned v /\ d.w = w' /\ Tr c H d H' /\ EV d R v) -> Ok R:=by
   intro R H' hcall
   obtain ⟨e',w',fr,⟨v,d,_,_,_,h8⟩,_⟩:=hcall []
   exact xw h8
  cases h3 with
  | gen R H' hF hk =>
    have hF:=hFn.h _ _ _ _ _ hF
    have hcall:=hF.2 c _ hr h1
    exact ⟨R,H',hF.1,hcall,hk (fin hcall)⟩
  | pure Bs R hle hb hF hk =>
    have hF:=hFn.h _ _ _ _ _ hF
    have hcall:=bJ.pure hF hb.1 hb.2 hr (sS hle h1)
    exact ⟨R,H,hF.1,hcall,hk (fin hcall)⟩
 obtain ⟨R,H',⟨fn,f1,f2,f3⟩,hcall,hk⟩:=key
 refine .inr (.inr ⟨g,_,?_,hcall.mono fun _ _ ⟨v,d,h1,h2,h3,h4⟩=>⟨v,d,R,H',h1,h2,h3,h4,hk⟩⟩)
 unfold execOp; rw [ho]
 simp only [resolve,hc,e1,Deferred.ofValue,Sem.run_bind,Sem.run_pure,Result.andThen_ok,invoke,callFunc,run_program,f1,f2,Bool.false_eq_true,if_false]
 have : fn.body.isNone = false:=by cases hb : fn.body <;> simp [hb] at f3 ⊢
 simp only [this,Bool.false_eq_true,if_false,Sem.run_pure]
 congr 2
 simp

theorem Oz {t : Nat} {x ix y : Operand} (ho : o.op = .insert t x ix y) (h : bQ P { o with op:=.mapUpdate t x ix y } a.eval c H k ks) : bQ P o a.eval c H k ks:=by
 have e : execOp a.eval { o with op:=.mapUpdate t x ix y } = execOp a.eval o:=by
  unfold execOp; rw [ho]
 unfold bQ at h ⊢
 rw [e] at h
 exact h

theorem Qu (hL : bW P L) {t f : Nat} {x : Operand} {A : AV} (hr : HR c H) (ho : o.op = .field t x f) (hA : EV c A (a.eval x))
  (h : G8 L t A f fun R=>k R H) : bQ P o a.eval c H k ks:=by
 unfold G8 at h
 obtain ⟨i,hT,h⟩:=Lay.aQ hL h
 split at h
 ·rename_i fs zs l hd hz _
  obtain ⟨z,hf,h⟩:=iG.1 h
  obtain ⟨gs,fd,h1,h2,h3,h4⟩:=hT.field ⟨_,hd⟩ hz hf
  obtain ⟨g,hg,h⟩:=iG.1 h
  obtain ⟨j,hJ,h⟩:=Lay.aQ hL h
  split at h
  ·rename_i hj
   obtain ⟨hfl,h⟩:=aX.1 h
   obtain ⟨y,hy,h⟩:=iG.1 h
   split at h
   ·rename_i hny
    obtain ⟨d,d1,d2⟩:=hT.under
    obtain ⟨gs',rfl,hfs⟩:=oD (d2.trans hd)
    rw [h1] at d1
    have d1:=Option.some.inj d1
    have hgs : gs' = gs:=by injection d1 with d1; exact d1.symm
    subst hgs
    have e1 : g.2.2 = fd.type:=by
     rw [hfs,List.getElem?_map,Array.getElem?_toList,h2] at hg
     have:=Option.some.inj hg
     rw [<- this]
    rw [e1] at hJ
    have hA : VV c (.ag l) (a.eval x):=hA
    obtain ⟨cs,hcs⟩:=hA.1.1 rfl
    have hV:=hA.2
    rw [hcs] at hV
    simp only [VR] at hV
    obtain ⟨pre,xs,post,e2,e3,e4,_⟩:=o7 hV hy
    obtain ⟨u,rfl,_⟩:=lC e4 hny
    have hu : cs[fd.offset]? = some u:=by
     have e2 : cs.toList = pre ++ [u] ++ post:=e2
     rw [<- Array.getElem?_toList,e2,h3,<- hfl,<- e3,List.append_assoc,List.getElem?_append_right (Nat.le_refl _),Nat.sub_self]; rfl
    refine .pure hr (v:=u) ?_ (aS (xg e4 hny)) h
    unfold execOp; rw [ho]
    simp only [Instr.field,hcs,Sem.run_bind,run_underlying h1,Result.andThen_ok,h2,asAgg,part,hJ.Eo,hj,Sem.run_pure,Bool.false_eq_true,if_false,hu]
   ·exact h.elim
  ·exact h.elim
 ·exact h.elim

theorem Ov (hL : bW P L) (hFn : FS P F) (hr : HR c H) (he : fC c e a) (hb : FZ o.op = true) (h : Xc F Ok L o.op e H k ks) : bQ P o a.eval c H k ks:=by
 unfold Xc at h
 split at h
 ·rename_i cl hop
  split at h
  ·rename_i b hc
   rw [hop] at hb; simp only [FZ,Bool.and_eq_true] at hb
   exact Iw hL hr he hb.1 hop hc h
  ·rename_i f hc
   have hb':=hb
   rw [hop] at hb'; simp only [FZ,hc,Bool.and_eq_true] at hb'
   obtain ⟨A,hA,h⟩:=aG he hb'.2 h
   split at h
   ·rename_i g j
    obtain ⟨As,h1,h⟩:=jO he hb'.1 h
    exact KD hFn hr hop hc hA h1 h
   ·exact Iu hFn hr he hb'.1 hop hc hA h
   ·exact mO hL hFn hr he hb (by rw [hop]; exact h)
  ·exact mO hL hFn hr he hb (by rw [hop]; exact h)
 ·rename_i f first cap hop
  split at h
  ·rename_i x hf
   have hb':=hb
   rw [hop] at hb'; simp only [FZ,hf,Bool.and_eq_true] at hb'
   split at h
   ·rename_i g hcap
    obtain ⟨A,hA,h⟩:=aG he (by simpa using hb'.1) h
    split at h
    ·rename_i j
     obtain ⟨hj,e1⟩:=uZ hA
     obtain rfl : first = #[x]:=by cases first; simp at hf; subst hf; rfl
     obtain rfl : cap = #[]:=by cases cap; simp at hcap; subst hcap; rfl
     refine .pure hr (v:=.func (.func g) #[.pointer (some ⟨c.ρ j,0,none⟩)] #[]) ?_ (aS (dJ rfl rfl ?_)) h
     ·unfold execOp; rw [hop]
      simp [Instr.makeFunc,e1]
     ·simp only [VR]; exact ⟨hj,trivial⟩
    ·exact h.elim
   ·exact h.elim
  ·exact mO hL hFn hr he hb (by rw [hop]; exact h)
 ·rename_i t x ix y hop
  rw [hop] at hb; simp only [FZ,Bool.and_eq_true] at hb
  have:=vV (o:={ o with op:=.mapUpdate t x ix y }) (P:=P) (k:=k) (ks:=ks) hL hr he hb.1.1 hb.1.2 hb.2 rfl h
  exact Oz hop this
 ·rename_i t x f hop
  rw [hop] at hb
  obtain ⟨A,hA,h⟩:=aG he hb h
  exact Qu hL hr hop hA h
 ·rename_i t x y ty hop
  split at h
  ·exact mO hL hFn hr he hb (by rw [hop]; exact h)
  ·rw [hop] at hb; simp only [FZ,Bool.and_eq_true] at hb
   obtain ⟨A,hA,h⟩:=aG he hb.1 h
   obtain ⟨B,hB,h⟩:=aG he hb.2 h
   have hx : ∃ m n,A = .int .i64 m /\ B = .int .i64 n /\ k (.int .i64 (IntKind.i64.wrap (m + n))) H:=by
    split at h
    ·exact ⟨_,_,rfl,rfl,h⟩
    ·exact h.elim
   ·obtain ⟨m,n,rfl,rfl,h⟩:=hx
    obtain ⟨e1,r1⟩:=iP hA
    obtain ⟨e2,_⟩:=iP hB
    refine .pure hr (v:=.int .i64 (IntKind.i64.wrap (m + n))) (iK hop ?_ (by rw [e1,e2]; simp [binOp,Op.intArith])) (aS (cO (kR _ _))) h
    rw [e1,e2]
    exact gK (by rintro ⟨_,_,h,_⟩; cases h) (by intro h; cases h)
 ·exact mO hL hFn hr he hb h

theorem getD_set_ne {xs : Array Value} {i j : Nat} {v d : Value} (h : i ≠ j) : (xs.setIfInBounds i v).getD j d = xs.getD j d:=by
 rw [Array.getD_eq_getD_getElem?,Array.getD_eq_getD_getElem?,Array.getElem?_setIfInBounds_ne h]

theorem yO {xs : Array Value} {i : Nat} {v d : Value} (h : i < xs.size) : (xs.setIfInBounds i v).getD i d = v:=by
 rw [Array.getD_eq_getD_getElem?,Array.getElem?_setIfInBounds_self_of_lt h]; rfl

structure oI (n : Nat) (c : Cx) (e : Env) (a : Act) : Prop where
 env : fC c e a
 defers : a.defers = []
 size : a.tmps.size = n

theorem oI.put {n : Nat} {e : Env} {d : Nat} {A : AV} {v : Value} (h : oI n c e a) (hd : d < n) (hv : EV c A v) : oI n c ((d,A) :: e) (a.put (some d) v):=by
 refine ⟨fun t B hB=>?_,h.defers,by simp [Act.put,h.size]⟩
 simp only [dL] at hB
 simp only [Act.put]
 cases hb : Nat.beq d t with
 | true =>
   rw [hb] at hB
   obtain rfl:=Nat.eq_of_beq_eq_true hb
   obtain rfl:=Option.some.inj hB
   rw [yO (by rw [h.size]; exact hd)]; exact hv
 | false =>
   rw [hb] at hB
   rw [getD_set_ne (eG hb)]; exact h.env _ _ hB

theorem oI.mono {n : Nat} {d : Cx} (h : oI n c e a) (le : c.Le d) : oI n d e a:=⟨fun t A hA=>l7 le (h.env t A hA),h.defers,h.size⟩

def Fr (ws : List Nat) (a a' : Act) : Prop:=∀ t,t ∉ ws -> a'.tmps.getD t undef = a.tmps.getD t undef

theorem Fr.refl (ws : List Nat) (a : Act) : Fr ws a a:=fun _ _=>rfl
theorem Fr.trans {ws ws' : List Nat} {a b d : Act} (h : Fr ws a b) (g : Fr ws' b d) : Fr (ws ++ ws') a d:=by
 intro t ht
 simp only [List.mem_append,not_or] at ht
 rw [g t ht.2,h t ht.1]
theorem Fr.mono {ws ws' : List Nat} {a b : Act} (h : Fr ws a b) (hs : ∀ t ∈ ws,t ∈ ws') : Fr ws' a b:=fun t ht=>h t (fun h'=>ht (hs t h'))

theorem Fr.put {d : Nat} {v : Value} : Fr [d] a (a.put (some d) v):=by
 intro t ht
 simp at ht
 simp only [Act.put]
 exact getD_set_ne (fun e=>ht e.symm)

def qR (n : Nat) (o : Oper) : Bool:=FZ o.op && (match o.dst with | some d=>Nat.blt d n | none=>true)

theorem Am {b : Bool} : undef ≠ .bool b:=by simp [undef]

theorem P8 {d : Nat} {b : Bool} (h : a.tmps.getD d undef = .bool b) : a.tmps[d]? = some (.bool b):=by
 rw [Array.getD_eq_getD_getElem?] at h
 cases hx : a.tmps[d]? with
 | none=>rw [hx] at h; exact absurd h Am
 | some v=>rw [hx] at h; simp at h; rw [h]

theorem BH {k : Nat -> Prop} : ∀ {l : List Oper} {j : Nat},UL l j k -> ∃ o d,l[j]? = some o /\ o.dst = some d /\ k d
 | [],_,h=>h.elim
 | o :: l,0,h=>by
   simp only [UL] at h
   cases hd : o.dst with
   | none=>simp [hd] at h
   | some d=>simp only [hd] at h; exact ⟨o,d,rfl,hd,h⟩
 | o :: l,j + 1,h=>by simpa using BH (l:=l) h

theorem yF {ops : Array Oper} {j d : Nat} {b x : Bool} {oj : Oper} (hg : o.guard = some (j,b)) (hj : ops[j]? = some oj) (hd : oj.dst = some d) (hv : a.tmps.getD d undef = .bool x) :
  Region.wanted o (yielded ops a.tmps) = (x == b):=by
 unfold Region.wanted yielded
 simp [hg,hj,hd,P8 hv]

theorem yG {ops : Array Oper} (hg : o.guard = none) : Region.wanted o (yielded ops a.tmps) = true:=by
 unfold Region.wanted; rw [hg]

theorem vC {ops : Array Oper} {j d : Nat} {b : Bool} {oj : Oper} (hg : o.guard = some (j,b)) (hj : ops[j]? = some oj) (hd : oj.dst = some d) (hv : a.tmps.getD d undef = undef) :
  Region.wanted o (yielded ops a.tmps) = false:=by
 unfold Region.wanted yielded
 rw [Array.getD_eq_getD_getElem?] at hv
 cases hx : a.tmps[d]? with
 | none=>simp [hg,hj,hd,hx]
 | some v =>
   rw [hx] at hv
   simp only [Option.getD_some] at hv
   subst hv
   simp [hg,hj,hd,hx,undef]

theorem NW {c : Cx} {v : Value} (h : EV c (.dS []) v) : v = undef:=by
 obtain ⟨vs,rfl,h2⟩:=h
 simp only [VA] at h2
 have : vs = #[]:=by cases vs; simp_all
 subst this; rfl

theorem FN {c : Cx} : EV c (.dS []) undef:=⟨#[],rfl,by simp only [VA]⟩

theorem wo {n : Nat} {ops : Array Oper} {yes no : Env -> Prop} (ha : oI n c e a) (h : rC ops.toList o.guard e yes no) :
  ∃ e',oI n c e' a /\ ((Region.wanted o (yielded ops a.tmps) = true /\ yes e') \/ (Region.wanted o (yielded ops a.tmps) = false /\ no e')):=by
 cases hg : o.guard with
 | none=>rw [hg] at h; exact ⟨e,ha,.inl ⟨yG hg,h⟩⟩
 | some g =>
   obtain ⟨j,b⟩:=g
   rw [hg] at h
   obtain ⟨oj,d,h1,h2,h3⟩:=BH h
   obtain ⟨A,h4,h5⟩:=fO.1 h3
   have hA:=ha.env d A h4
   have h1' : ops[j]? = some oj:=by rw [<- Array.getElem?_toList]; exact h1
   have PU : ∀ x,a.tmps.getD d undef = .bool x -> Region.wanted o (yielded ops a.tmps) = (x == b):=fun x hx=>yF hg h1' h2 hx
   have ext : ∀ (A' : AV),EV c A' (a.tmps.getD d undef) -> oI n c ((d,A') :: e) a:=by
    intro A' hA'
    refine ⟨fun t B hB=>?_,ha.defers,ha.size⟩
    simp only [dL] at hB
    cases hb : Nat.beq d t with
    | true =>
      rw [hb] at hB
      obtain rfl:=Nat.eq_of_beq_eq_true hb
      obtain rfl:=Option.some.inj hB
      exact hA'
    | false=>rw [hb] at hB; exact ha.env _ _ hB
   have tt : ∀ {v : Value},v = .bool true -> EV c .tt v:=by rintro v rfl; exact aS (dJ rfl rfl (by simp only [VR,Rd]))
   have ff : ∀ {v : Value},v = .bool false -> EV c .ff v:=by rintro v rfl; exact aS (dJ rfl rfl (by simp only [VR,Rd]))
   split at h5
   ·exact ⟨e,ha,.inl ⟨by rw [PU true (rV hA)]; rfl,h5⟩⟩
   ·exact ⟨e,ha,.inr ⟨by rw [PU true (rV hA)]; rfl,h5⟩⟩
   ·exact ⟨e,ha,.inr ⟨by rw [PU false (rW hA)]; rfl,h5⟩⟩
   ·exact ⟨e,ha,.inl ⟨by rw [PU false (rW hA)]; rfl,h5⟩⟩
   ·rename_i x
    have hx:=fQ hA
    cases x with
    | true=>exact ⟨_,ext .tt (tt hx),.inl ⟨by rw [PU true hx]; rfl,h5.1 rfl⟩⟩
    | false=>exact ⟨_,ext .ff (ff hx),.inr ⟨by rw [PU false hx]; rfl,h5.2 rfl⟩⟩
   ·rename_i x
    have hx:=fQ hA
    cases x with
    | true=>exact ⟨_,ext .tt (tt hx),.inr ⟨by rw [PU true hx]; rfl,h5.1 rfl⟩⟩
    | false=>exact ⟨_,ext .ff (ff hx),.inl ⟨by rw [PU false hx]; rfl,h5.2 rfl⟩⟩
   ·rename_i p
    obtain ⟨x,hx,hp⟩:=jP hA
    cases x with
    | true=>exact ⟨_,ext .tt (tt hx),.inl ⟨by rw [PU true hx]; rfl,h5.1 (hp.1 rfl)⟩⟩
    | false=>exact ⟨_,ext .ff (ff hx),.inr ⟨by rw [PU false hx]; rfl,h5.2 (fun h=>by have:=hp.2 h; cases this)⟩⟩
   ·rename_i p
    obtain ⟨x,hx,hp⟩:=jP hA
    cases x with
    | true=>exact ⟨_,ext .tt (tt hx),.inr ⟨by rw [PU true hx]; rfl,h5.1 (hp.1 rfl)⟩⟩
    | false=>exact ⟨_,ext .ff (ff hx),.inl ⟨by rw [PU false hx]; rfl,h5.2 (fun h=>by have:=hp.2 h; cases this)⟩⟩
   ·exact ⟨e,ha,.inr ⟨vC hg h1' h2 (NW hA),h5⟩⟩
   ·exact h5.elim

theorem CV (hL : bW P L) (hFn : FS P F) {n : Nat} {ops : Array Oper} {Q : Exit -> Act -> World -> Prop} {k : Env -> Heap -> Prop} :
  ∀ {l : List Oper} {e : Env} {H : Heap} {c : Cx} {a : Act},l.all (qR n) = true -> HR c H -> oI n c e a -> LG F Ok L ops.toList l e H k ->
    (∀ e' H' c' a',k e' H' -> Tr c H c' H' -> oI n c' e' a' -> Fr (dV l) a a' -> Q .normal a' c'.w) -> wpList P ops Q l a c.w
 | [],e,H,c,a,_,hr,ha,h,hq=>hq e H c a h (.refl hr) ha (Fr.refl _ _)
 | o :: l,e,H,c,a,hl,hr,ha,h,hq=>by
   simp only [List.all_cons,Bool.and_eq_true,qR] at hl
   obtain ⟨⟨hb,hdst⟩,hl⟩:=hl
   have ih:=@CV hL hFn n ops Q k l
   have hlt : ∀ d,o.dst = some d -> d < n:=fun d hd=>by rw [hd] at hdst; exact Nat.le_of_ble_eq_true hdst
   have cont : ∀ (v : Value) (A : AV) (c' : Cx) (H' : Heap) (e1 : Env),Tr c H c' H' -> oI n c' e1 a -> EV c' A v -> pV o.dst A e1 (fun e'=>LG F Ok L ops.toList l e' H' k) -> wpList P ops Q l (a.put o.dst v) c'.w:=by
    intro v A c' H' e1 htr ha' hv hk
    cases hd : o.dst with
    | none =>
      rw [hd] at hk
      refine ih hl htr.hr ha' hk fun e' H7 c'' a' g1 g2 g3 g4=>hq e' H7 c'' a' g1 (htr.trans g2) g3 ?_
      simp only [dV,hd]
      exact g4
    | some d =>
      rw [hd] at hk
      refine ih hl htr.hr (ha'.put (hlt d hd) hv) hk fun e' H7 c'' a' g1 g2 g3 g4=>hq e' H7 c'' a' g1 (htr.trans g2) g3 ?_
      simp only [dV,hd]
      exact Fr.trans (ws:=[d]) Fr.put g4
   simp only [LG] at h
   obtain ⟨e1,ha1,hcase⟩:=wo ha h
   simp only [wpList]
   rcases hcase with ⟨hw,h1⟩ | ⟨hw,h1⟩
   ·rw [if_pos hw]
    refine .inl ?_
    have hop:=Ov hL hFn hr ha1.env hb h1
    unfold Oper.wp
    rcases hop with ⟨v,d,A,H',g1,g2,g3,g4⟩ | ⟨d,H',g1,g2,g3⟩ | ⟨f,args,g1,g2⟩
    ·rw [g1,Oper.upon_value]
     exact cont v A d H' e1 g2 (ha1.mono g2.le) g3 g4
    ·rw [g1,Oper.upon_skip]
     cases hd : o.dst with
     | none=>rw [hd] at g3; exact hd ▸ cont undef .und d H' e1 g2 (ha1.mono g2.le) trivial (by rw [hd]; exact g3)
     | some d'=>rw [hd] at g3; exact g3.elim
    ·rw [g1,Oper.upon_enter]
     refine Calls.mono g2 ?_
     rintro _ w' ⟨v,d,R,H',rfl,rfl,g4,g5,g3⟩
     exact cont v R d H' e1 g4 (ha1.mono g4.le) g5 g3
   ·rw [hw]
    simp only [Bool.false_eq_true,if_false]
    exact cont undef (.dS []) c H e1 (.refl hr) ha1 FN h1

end
end Go.AL
