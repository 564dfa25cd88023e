/-
  A logic for calls of Go functions: each operation is sound. Nothing is assumed.
-/
import Derived.Test.YtjbhbpieccloeaaGreatDoorT0
import Derived.Laws.Strings
import Derived.Laws.StructEq
import Derived.Great.BuildSlice
import Derived.Tactics
import Derived.Lib.AppendZeros

namespace Go.AL

def aQ (P : Program) (f : Nat) (args : List AV) (H : Heap) (R : AV) (H' : Heap) : Prop :=
 (∃ fn,P.funcs[f]? = some fn /\ (fn.name == "runtime.NumGoroutine") = false /\ fn.body.isSome = true) /\
 ∀ (c : Cx) (vs : List Value),HR c H -> uV c args vs -> Calls P f vs.toArray c.w fun e w'=>∃ v d,e = .returned v /\ d.w = w' /\ Tr c H d H' /\ EV d R v

def dO (P : Program) (f : Nat) (args : List AV) (H : Heap) (Q : AV -> Heap -> Prop) : Prop :=
 (∃ fn,P.funcs[f]? = some fn /\ (fn.name == "runtime.NumGoroutine") = false /\ fn.body.isSome = true) /\
 ∀ (c : Cx) (vs : List Value),HR c H -> uV c args vs -> Calls P f vs.toArray c.w fun e w'=>∃ v d R H',Q R H' /\ e = .returned v /\ d.w = w' /\ Tr c H d H' /\ EV d R v

abbrev FP (P : Program) : FT:={ h:=aQ P,q:=dO P }
abbrev FPw (P : Program) : FT:={ h:=aQ P,q:=dO P,w:=true }

structure FS (P : Program) (F : FT) : Prop where
 h : ∀ f args H R H',F f args H R H' -> aQ P f args H R H'
 q : ∀ f args H Q,F.q f args H Q -> dO P f args H Q

theorem Vw (P : Program) : FS P (FP P):=⟨fun _ _ _ _ _ h=>h,fun _ _ _ _ h=>h⟩
theorem Y7 (P : Program) : FS P (FPw P):=⟨fun _ _ _ _ _ h=>h,fun _ _ _ _ h=>h⟩

def bU (P : Program) (o : Oper) (ρ : Operand -> Value) (c : Cx) (H : Heap) (k : AV -> Heap -> Prop) (ks : Heap -> Prop) : Prop :=
 (∃ v d A H',(execOp ρ o).run P c.w = .ok (.value v) d.w /\ Tr c H d H' /\ EV d A v /\ k A H') \/
 (∃ d H',(execOp ρ o).run P c.w = .ok .skip d.w /\ Tr c H d H' /\ ks H') \/
 (∃ f args,(execOp ρ o).run P c.w = .ok (.enter f args) c.w /\
  Calls P f args c.w fun e w'=>∃ v d R H',e = .returned v /\ d.w = w' /\ Tr c H d H' /\ EV d R v /\ k R H')

section
variable {P : Program} {L : Lay} {c : Cx} {H : Heap} {e : Env} {a : Act} {k : AV -> Heap -> Prop} {ks : Heap -> Prop} {o : Oper}

theorem bU.pure (hr : HR c H) {v : Value} {A : AV} (hrun : (execOp a.eval o).run P c.w = .ok (.value v) c.w) (hv : EV c A v) (hk : k A H) : bU P o a.eval c H k ks :=
 .inl ⟨v,c,A,H,hrun,.refl hr,hv,hk⟩

theorem iT {kd : IntKind} {n : Int} {v : Value} (h : EV c (.int kd n) v) : v = .int kd n /\ rZ kd n:=Y4 h
theorem EM {s : List UInt8} {v : Value} (h : EV c (.str s) v) : v = .string ⟨s.toArray⟩ /\ s.length <= maxL:=NS h

theorem BX (s : List UInt8) : ByteArray.toList ⟨s.toArray⟩ = s:=ByteArray.toList_mk s

theorem OE (hr : HR c H) (he : fC c e a) {x : Operand} (hx : bf x = true) (ho : o.op = .move x \/ o.op = .assign x) (h : bP e x fun A=>k A H) : bU P o a.eval c H k ks:=by
 obtain ⟨A,h1,h2⟩:=aH he hx h
 refine .pure hr (v:=a.eval x) ?_ h1 h2
 rcases ho with ho | ho <;> simp [execOp,ho]

theorem SA {cc x y : Operand} (ho : o.op = .pick cc x y) {b : Bool} (hb : a.eval cc = .bool b) : (execOp a.eval o).run P c.w = .ok (.value (if b then a.eval x else a.eval y)) c.w:=by
 unfold execOp; rw [ho]; simp only [hb,asBool]; cases b <;> rfl

theorem V7 (hr : HR c H) (he : fC c e a) {cc x y : Operand} (h1 : bf cc = true) (h2 : bf x = true) (h3 : bf y = true) (ho : o.op = .pick cc x y)
  (h : bP e cc fun C=>(match C with
  | .tt=>bP e x fun A=>k A H
  | .ff=>bP e y fun A=>k A H
  | .bool b=>(b = true -> bP e x fun A=>k A H) /\ (b = false -> bP e y fun A=>k A H)
  | .dec p=>(p -> bP e x fun A=>k A H) /\ (¬ p -> bP e y fun A=>k A H)
  | _=>False)) : bU P o a.eval c H k ks:=by
 obtain ⟨C,g1,g2⟩:=aH he h1 h
 have key : ∃ b,a.eval cc = .bool b /\ (b = true -> bP e x fun A=>k A H) /\ (b = false -> bP e y fun A=>k A H):=by
  split at g2
  ·exact ⟨true,tY g1,fun _=>g2,fun h=>by cases h⟩
  ·exact ⟨false,tZ g1,(fun h=>by cases h),fun _=>g2⟩
  ·exact ⟨_,fO g1,g2⟩
  ·obtain ⟨b,h4,h5⟩:=ku g1
   exact ⟨b,h4,fun hb=>g2.1 (h5.1 hb),fun hb=>g2.2 (fun hp=>by rw [h5.2 hp] at hb; cases hb)⟩
  ·exact g2.elim
 obtain ⟨b,hb,hy,hn⟩:=key
 have hrun:=SA (P:=P) (c:=c) ho hb
 cases b with
 | true =>
   obtain ⟨A,h4,h5⟩:=aH he h2 (hy rfl)
   exact .pure hr hrun (by simpa using h4) h5
 | false =>
   obtain ⟨A,h4,h5⟩:=aH he h3 (hn rfl)
   exact .pure hr hrun (by simpa using h4) h5

theorem gZ {op : BinOp} {t : Nat} {x y : Operand} {v u : Value} (h : ¬ (∃ cs ds,v = .agg cs /\ u = .agg ds))
  (h' : v = .nilIface -> u = .nilIface -> (op = .eql \/ op = .neq) -> (jd x || jd y) = true) : (eqGuard op t x y v u).run P c.w = .ok () c.w:=by
 unfold eqGuard
 cases op
 case eql =>
  simp only [Bool.not_true,Bool.false_eq_true,if_false]
  split
  ·have h3:=h' rfl rfl (.inl rfl)
   cases x <;> cases y <;> first | (simp [jd] at h3; done) | rfl
  ·exact absurd ⟨_,_,rfl,rfl⟩ h
  ·rfl
 case neq =>
  simp only [Bool.not_true,Bool.false_eq_true,if_false]
  split
  ·have h3:=h' rfl rfl (.inr rfl)
   cases x <;> cases y <;> first | (simp [jd] at h3; done) | rfl
  ·exact absurd ⟨_,_,rfl,rfl⟩ h
  ·rfl
 all_goals rfl

theorem iW {op : BinOp} {t ty : Nat} {x y : Operand} (ho : o.op = .binOp op t x y ty) {r : Value}
  (hg : (eqGuard op t x y (a.eval x) (a.eval y)).run P c.w = .ok () c.w) (h : (binOp op t (a.eval x) (a.eval y)).run P c.w = .ok r c.w) :
  (execOp a.eval o).run P c.w = .ok (.value r) c.w:=by
 unfold execOp; rw [ho]; simp only [Sem.run_bind,hg,Result.andThen_ok,h,Sem.run_pure]

theorem run_equalIn_bool {t : Nat} (ht : P.underlying t = some .bool) (d : Nat) (x y : Bool) (w : World) : (Op.equalIn (d + 1) t (.bool x) (.bool y)).run P w = .ok (x == y) w:=by
 simp only [Op.equalIn,Sem.run_bind,run_underlying ht,Result.andThen_ok,Sem.run_pure]

theorem run_equal_bool {t : Nat} (ht : P.underlying t = some .bool) (x y : Bool) (w : World) : (Op.equal t (.bool x) (.bool y)).run P w = .ok (x == y) w :=
 run_equalIn_bool ht 9999 x y w

theorem xA {t : Nat} {ms : Array (String × TypeId)} (ht : P.underlying t = some (.interface ms)) {v u : Value} {b : Bool}
  (h : (v = .nilIface /\ u = .nilIface /\ b = true) \/ (v = .nilIface /\ (∃ t x,u = .iface t x) /\ b = false) \/ ((∃ t x,v = .iface t x) /\ u = .nilIface /\ b = false)) (d : Nat) (w : World) :
  (Op.equalIn (d + 1) t v u).run P w = .ok b w:=by
 rcases h with ⟨rfl,rfl,rfl⟩ | ⟨rfl,⟨t,x,rfl⟩,rfl⟩ | ⟨⟨t,x,rfl⟩,rfl,rfl⟩ <;> simp only [Op.equalIn,Sem.run_bind,run_underlying ht,Result.andThen_ok,Sem.run_pure]

theorem rV {t : Nat} {ms : Array (String × TypeId)} (ht : P.underlying t = some (.interface ms)) {v u : Value} {b : Bool}
  (h : (v = .nilIface /\ u = .nilIface /\ b = true) \/ (v = .nilIface /\ (∃ t x,u = .iface t x) /\ b = false) \/ ((∃ t x,v = .iface t x) /\ u = .nilIface /\ b = false)) (w : World) :
  (Op.equal t v u).run P w = .ok b w:=xA ht h 9999 w

theorem AP {t el : Nat} (ht : P.underlying t = some (.pointer el)) (p : Option Addr) (d : Nat) (w : World) :
  (Op.equalIn (d + 1) t (.pointer p) (.pointer none)).run P w = .ok p.isNone w:=by
 cases p <;> simp only [Op.equalIn,Sem.run_bind,run_underlying ht,Result.andThen_ok,Sem.run_pure] <;> rfl

theorem uZ {t el : Nat} (ht : P.underlying t = some (.pointer el)) (p : Option Addr) (w : World) :
  (Op.equal t (.pointer p) (.pointer none)).run P w = .ok p.isNone w:=AP ht p 9999 w

theorem Aj {d : TypeDesc} (h : descOf P d = .bool) : d = .bool:=by cases d <;> simp [descOf] at h; rfl
theorem yj {d : TypeDesc} (h : descOf P d = .iface) : ∃ ms,d = .interface ms:=by cases d <;> simp [descOf] at h; exact ⟨_,rfl⟩
theorem DF {d : TypeDesc} {n : Nat} (h : descOf P d = .ptr n) : d = .pointer n:=by cases d <;> simp [descOf] at h; subst h; rfl
theorem bC {d : TypeDesc} {n : Nat} (h : descOf P d = .slice n) : d = .slice n:=by cases d <;> simp [descOf] at h; subst h; rfl
theorem DI {d : TypeDesc} {kd : IntKind} (h : descOf P d = .int kd) : d = .int kd:=by cases d <;> simp [descOf] at h; subst h; rfl
theorem lF {d : TypeDesc} (h : descOf P d = .str) : d = .string:=by cases d <;> simp [descOf] at h; rfl
theorem pR {d : TypeDesc} {fs : List (Nat × Nat × Nat)} (h : descOf P d = .struct fs) : ∃ gs,d = .struct gs /\ fs = gs.toList.map fun f=>(f.offset,P.cellsOf f.type,f.type):=by
 cases d <;> simp [descOf] at h; exact ⟨_,rfl,by simp [h]⟩
theorem DJ {d : TypeDesc} {n m : Nat} (h : descOf P d = .arr n m) : d = .array n m:=by cases d <;> simp [descOf] at h; obtain ⟨rfl,rfl⟩:=h; rfl
theorem qX {d : TypeDesc} {n m : Nat} (h : descOf P d = .map n m) : d = .map n m:=by cases d <;> simp [descOf] at h; obtain ⟨rfl,rfl⟩:=h; rfl

theorem Vb {d : TD} {op : BinOp} {hc : Bool} {ka kb : IntKind} {m n : Int} {k : AV -> Prop} (t : Nat) (w : World) (ha : rZ ka m) (h : zL d op hc (.int ka m) (.int kb n) k) :
  ∃ r R,(binOp op t (.int ka m) (.int kb n)).run P w = .ok r w /\ VV c R r /\ k R:=by
 have hk : op ≠ .shl -> op ≠ .shr -> ka = kb:=by
  intro h1 h2
  unfold zL at h
  cases hq : oM ka kb with
  | true=>exact fK hq
  | false=>exfalso; cases op <;> first | exact h1 rfl | exact h2 rfl | (simp only [hq] at h)
 have hq : oM ka ka = true:=by cases ka <;> rfl
 unfold zL at h
 cases op
 case shl =>
  simp only at h
  refine ⟨_,_,?_,bT (kd:=ka) (n:=yT ka m n) (lN _ _),h.2⟩
  have : ¬ n < 0:=by omega
  simp [binOp,Op.shift,this,yT]
 case shr =>
  simp only at h
  refine ⟨_,_,?_,bT (kd:=ka) (n:=uX ka m n) (IY ha _),h.2⟩
  have : ¬ n < 0:=by omega
  simp [binOp,Op.shift,this,uX]
 all_goals
  obtain rfl:=hk (by simp) (by simp)
  simp only [hq] at h
 case add=>obtain ⟨R,h1,h2⟩:=l7 (c:=c) h; exact ⟨_,R,by simp [binOp,Op.intArith],h1,h2⟩
 case sub=>obtain ⟨R,h1,h2⟩:=l7 (c:=c) h; exact ⟨_,R,by simp [binOp,Op.intArith],h1,h2⟩
 case mul=>obtain ⟨R,h1,h2⟩:=l7 (c:=c) h; exact ⟨_,R,by simp [binOp,Op.intArith],h1,h2⟩
 case quo=>obtain ⟨R,h1,h2⟩:=l7 (c:=c) h.2; exact ⟨_,R,by simp [binOp,Op.intDiv,h.1],h1,h2⟩
 case rem=>exact ⟨_,_,by simp [binOp,Op.intDiv,h.1],bT (Vs ha),h.2⟩
 case and=>exact ⟨_,_,by simp [binOp,Op.intBits,dI],bT (kd:=ka) (n:=dI .and ka m n) (lN _ _),h⟩
 case or=>exact ⟨_,_,by simp [binOp,Op.intBits,dI],bT (kd:=ka) (n:=dI .or ka m n) (lN _ _),h⟩
 case xor=>exact ⟨_,_,by simp [binOp,Op.intBits,dI],bT (kd:=ka) (n:=dI .xor ka m n) (lN _ _),h⟩
 case andNot=>exact ⟨_,_,by simp [binOp,Op.intBits,dI],bT (kd:=ka) (n:=dI .andNot ka m n) (lN _ _),h⟩
 case eql=>exact ⟨.bool (m == n),_,by simp [binOp,Op.intCmp],iw (by simp),h⟩
 case neq=>exact ⟨.bool (m != n),_,by simp [binOp,Op.intCmp],iw (by simp),h⟩
 case lss=>exact ⟨.bool (decide (m < n)),_,by simp [binOp,Op.intCmp],iw (by simp),h⟩
 case leq=>exact ⟨.bool (decide (m <= n)),_,by simp [binOp,Op.intCmp],iw (by simp),h⟩
 case gtr=>exact ⟨.bool (decide (m > n)),_,by simp [binOp,Op.intCmp],iw (by simp),h⟩
 case geq=>exact ⟨.bool (decide (m ≥ n)),_,by simp [binOp,Op.intCmp],iw (by simp),h⟩

theorem Va {d : TD} {op : BinOp} {hc : Bool} {p q : List UInt8} {k : AV -> Prop} (t : Nat) (w : World) (h : zL d op hc (.str p) (.str q) k) :
  ∃ r R,(binOp op t (.string ⟨p.toArray⟩) (.string ⟨q.toArray⟩)).run P w = .ok r w /\ VV c R r /\ k R:=by
 have e1 : ByteArray.toList ⟨p.toArray⟩ = p:=BX p
 have e2 : ByteArray.toList ⟨q.toArray⟩ = q:=BX q
 unfold zL at h
 cases op <;> simp only at h
 case add =>
  refine ⟨_,_,?_,GI (s:=p ++ q) (by simpa using h.1),h.2⟩
  have h1 : ¬ (((⟨p.toArray⟩ : ByteArray).size + (⟨q.toArray⟩ : ByteArray).size : Nat) : Int) > IntKind.i64.max:=by
   have:=h.1
   simp [maxL] at this
   simp [ByteArray.size,IntKind.max,IntKind.signed,IntKind.bits]; omega
  simp only [binOp,Op.stringOp,h1,if_false,Sem.run_pure]
  congr 2
 case eql=>exact ⟨.bool (p == q),_,by simp [binOp,Op.stringOp,e1,e2],iw (by simp),h⟩
 case neq=>exact ⟨.bool (!(p == q)),_,by simp [binOp,Op.stringOp,e1,e2],iw (by simp),h⟩
 case lss=>exact ⟨_,_,by simp only [binOp,Op.stringOp,e1,e2,Sem.run_pure],lI _,h⟩

end
end Go.AL

namespace Go.AL

section
variable {P : Program} {L : Lay} {c : Cx} {H : Heap} {e : Env} {a : Act} {k : AV -> Heap -> Prop} {ks : Heap -> Prop} {o : Oper}

theorem dF {A : AV} {v : Value} (h : EV c A v) (hn : ∀ l,A ≠ .dA l) (hu : A ≠ .und) : VV c A v:=by
 cases A <;> first
  | exact h
  | exact absurd rfl (hn _)
  | exact absurd rfl hu

theorem O1 {A B : AV} {k : AV -> Prop} (h : WA A B k) : (∀ l,A ≠ .dA l) /\ A ≠ .und /\ (∀ l,B ≠ .dA l) /\ B ≠ .und:=by
 refine ⟨?_,?_,?_,?_⟩ <;> intros <;> intro e <;> subst e <;> (first | (cases A <;> simp [WA,rY,D7] at h; done) | (cases B <;> simp [WA,rY,D7] at h; done))

theorem FN {A B : AV} {k : AV -> Prop} (h : Ad A B k) : (∀ l,A ≠ .dA l) /\ A ≠ .und /\ (∀ l,B ≠ .dA l) /\ B ≠ .und:=by
 unfold Ad at h
 split at h <;> first | exact h.elim | (refine ⟨?_,?_,?_,?_⟩ <;> intros <;> intro e <;> cases e)

theorem CP {A B : AV} {k : AV -> Prop} (h : sN A B k) : (∀ l,A ≠ .dA l) /\ A ≠ .und /\ (∀ l,B ≠ .dA l) /\ B ≠ .und:=by
 unfold sN at h
 split at h <;> first | exact h.elim | (refine ⟨?_,?_,?_,?_⟩ <;> intros <;> intro e <;> cases e)

theorem Zw {op : BinOp} {t ty : Nat} {x y : Operand} (hr : HR c H) (ho : o.op = .binOp op t x y ty) {i : TI} (hT : nH P t i) {A B : AV} (hA : EV c A (a.eval x)) (hB : EV c B (a.eval y))
  (h : U8 i.desc op (jd x || jd y) A B fun R=>k R H) : bU P o a.eval c H k ks:=by
 obtain ⟨d,hd,hdd⟩:=hT.under
 have fin : ∀ (b : Bool) (R : AV),(op = .eql \/ op = .neq) -> (Op.equal t (a.eval x) (a.eval y)).run P c.w = .ok b c.w ->
   (eqGuard op t x y (a.eval x) (a.eval y)).run P c.w = .ok () c.w -> (∀ k n k' n',a.eval x = .int k n -> a.eval y = .int k' n' -> False) -> (∀ s s',a.eval x = .string s -> a.eval y = .string s' -> False) ->
   (∀ k n k' n',a.eval x = .float k n -> a.eval y = .float k' n' -> False) -> (∀ k n m k' n' m',a.eval x = .complex k n m -> a.eval y = .complex k' n' m' -> False) ->
   VV c R (.bool (if op = .neq then !b else b)) -> k R H -> bU P o a.eval c H k ks:=by
  intro b R hop hq hg h1 h2 h3 h4 hR hk
  refine .pure hr (iW ho hg ?_) (aS hR) hk
  rcases hop with rfl | rfl
  ·generalize a.eval x = v at *
   generalize a.eval y = u at *
   cases v <;> cases u <;> first
    | exact (h1 _ _ _ _ rfl rfl).elim | exact (h2 _ _ rfl rfl).elim | exact (h3 _ _ _ _ rfl rfl).elim | exact (h4 _ _ _ _ _ _ rfl rfl).elim
    | simp [binOp,hq]
  ·generalize a.eval x = v at *
   generalize a.eval y = u at *
   cases v <;> cases u <;> first
    | exact (h1 _ _ _ _ rfl rfl).elim | exact (h2 _ _ rfl rfl).elim | exact (h3 _ _ _ _ rfl rfl).elim | exact (h4 _ _ _ _ _ _ rfl rfl).elim
    | simp [binOp,hq]
 unfold U8 at h
 split at h
 ·rename_i hi
  obtain rfl:=Aj (hdd.trans hi)
  obtain ⟨n1,n2,n3,n4⟩:=O1 h
  obtain ⟨p,q,R,e1,e2,h3,h4⟩:=Gl (dF hA n1 n2) (dF hB n3 n4) h
  rw [e1,e2] at fin
  exact fin (p == q) R (.inl rfl) (run_equal_bool hd _ _ _) (gZ (by rintro ⟨_,_,h,_⟩; cases h) (by intro h; cases h)) (by intros; contradiction) (by intros; contradiction) (by intros; contradiction) (by intros; contradiction) (by simpa using h3) h4
 ·rename_i hi
  obtain rfl:=Aj (hdd.trans hi)
  obtain ⟨n1,n2,n3,n4⟩:=O1 h
  obtain ⟨p,q,R,e1,e2,h3,h4⟩:=Gl (dF hA n1 n2) (dF hB n3 n4) h
  obtain ⟨R',h5,h6⟩:=lu h3 h4
  rw [e1,e2] at fin
  exact fin (p == q) R' (.inr rfl) (run_equal_bool hd _ _ _) (gZ (by rintro ⟨_,_,h,_⟩; cases h) (by intro h; cases h)) (by intros; contradiction) (by intros; contradiction) (by intros; contradiction) (by intros; contradiction) (by simpa using h5) h6
 ·rename_i hi
  obtain ⟨ms,rfl⟩:=yj (hdd.trans hi)
  split at h
  ·rename_i hc
   obtain ⟨n1,n2,n3,n4⟩:=FN h
   obtain ⟨b,R,e1,h3,h4⟩:=Ac (dF hA n1 n2) (dF hB n3 n4) h
   refine fin b R (.inl rfl) (rV hd e1 _) (gZ ?_ (fun _ _ _=>hc)) ?_ ?_ ?_ ?_ (by simpa using h3) h4
   ·rintro ⟨_,_,h1,h2⟩
    rcases e1 with ⟨e1,e2,_⟩ | ⟨e1,⟨_,_,e2⟩,_⟩ | ⟨⟨_,_,e1⟩,e2,_⟩ <;> rw [e1] at h1 <;> cases h1
   all_goals
    intros
    rename_i h1 h2
    rcases e1 with ⟨e1,e2,_⟩ | ⟨e1,⟨_,_,e2⟩,_⟩ | ⟨⟨_,_,e1⟩,e2,_⟩ <;> rw [e1] at h1 <;> cases h1
  ·exact h.elim
 ·rename_i hi
  obtain ⟨ms,rfl⟩:=yj (hdd.trans hi)
  split at h
  ·rename_i hc
   obtain ⟨n1,n2,n3,n4⟩:=FN h
   obtain ⟨b,R,e1,h3,h4⟩:=Ac (dF hA n1 n2) (dF hB n3 n4) h
   obtain ⟨R',h5,h6⟩:=lu h3 h4
   refine fin b R' (.inr rfl) (rV hd e1 _) (gZ ?_ (fun _ _ _=>hc)) ?_ ?_ ?_ ?_ (by simpa using h5) h6
   ·rintro ⟨_,_,h1,h2⟩
    rcases e1 with ⟨e1,e2,_⟩ | ⟨e1,⟨_,_,e2⟩,_⟩ | ⟨⟨_,_,e1⟩,e2,_⟩ <;> rw [e1] at h1 <;> cases h1
   all_goals
    intros
    rename_i h1 h2
    rcases e1 with ⟨e1,e2,_⟩ | ⟨e1,⟨_,_,e2⟩,_⟩ | ⟨⟨_,_,e1⟩,e2,_⟩ <;> rw [e1] at h1 <;> cases h1
  ·exact h.elim
 ·rename_i hi
  obtain rfl:=DF (hdd.trans hi)
  obtain ⟨n1,n2,n3,n4⟩:=CP h
  obtain ⟨b,R,p,e1,e2,rfl,h3,h4⟩:=xG (dF hA n1 n2) (dF hB n3 n4) h
  rw [e1,e2] at fin
  exact fin p.isNone R (.inl rfl) (uZ hd _ _) (gZ (by rintro ⟨_,_,h,_⟩; cases h) (by intro h; cases h)) (by intros; contradiction) (by intros; contradiction) (by intros; contradiction) (by intros; contradiction) (by simpa using h3) h4
 ·rename_i hi
  obtain rfl:=DF (hdd.trans hi)
  obtain ⟨n1,n2,n3,n4⟩:=CP h
  obtain ⟨b,R,p,e1,e2,rfl,h3,h4⟩:=xG (dF hA n1 n2) (dF hB n3 n4) h
  obtain ⟨R',h5,h6⟩:=lu h3 h4
  rw [e1,e2] at fin
  exact fin p.isNone R' (.inr rfl) (uZ hd _ _) (gZ (by rintro ⟨_,_,h,_⟩; cases h) (by intro h; cases h)) (by intros; contradiction) (by intros; contradiction) (by intros; contradiction) (by intros; contradiction) (by simpa using h5) h6
 ·exact h.elim

theorem Qc {z x y : AV} {w : World} {Im : Nat -> Nat -> Prop} {cs ds : List Value} (hx : jk z x = true) (hy : jk z y = true) (h1 : Rd w Im x cs) (h2 : Rd w Im y ds) :
  cs.length = 1 /\ ds.length = 1 /\ (cs = ds ↔ Z9 x y):=by
 have hb : ∀ {A : AV} {c : List Value},jk .ff A = true -> Rd w Im A c -> ∃ b,c = [.bool b] /\ (b = true ↔ XI A):=by
  intro A c hA h
  cases A <;> first | (simp [jk] at hA; done) | skip
  ·simp only [Rd] at h; exact ⟨_,h,by simp [XI]⟩
  ·simp only [Rd] at h; exact ⟨_,h,by simp [XI]⟩
  ·simp only [Rd] at h; exact ⟨_,h,by simp [XI]⟩
  ·simp only [Rd] at h; exact h
 cases z <;> first | (simp [jk] at hx; done) | skip
 ·obtain ⟨b,rfl,g1⟩:=hb hx h1
  obtain ⟨b',rfl,g2⟩:=hb hy h2
  refine ⟨rfl,rfl,?_⟩
  have he : Z9 x y ↔ (XI x ↔ XI y):=by
   cases x <;> first | (simp [jk] at hx; done) | skip
   all_goals cases y <;> first | (simp [jk] at hy; done) | exact Iff.rfl
  rw [he,<- g1,<- g2]
  cases b <;> cases b' <;> simp
 ·cases x <;> first | (simp [jk] at hx; done) | skip
  cases y <;> first | (simp [jk] at hy; done) | skip
  obtain rfl:=fK hx
  obtain rfl:=fK hy
  simp only [Rd] at h1 h2
  obtain ⟨rfl,_⟩:=h1
  obtain ⟨rfl,_⟩:=h2
  simp [Z9]
 ·cases x <;> first | (simp [jk] at hx; done) | skip
  cases y <;> first | (simp [jk] at hy; done) | skip
  simp only [Rd] at h1 h2
  obtain ⟨rfl,_⟩:=h1
  obtain ⟨rfl,_⟩:=h2
  simp [Z9]

theorem FC {w : World} {Im : Nat -> Nat -> Prop} : ∀ {zs l m : List AV} {cs ds : List Value},gJ zs l = true -> gJ zs m = true -> kX w Im l cs -> kX w Im m ds -> (cs = ds ↔ Nh l m)
 | [],[],[],cs,ds,_,_,h1,h2=>by simp only [kX] at h1 h2; subst h1; subst h2; simp [Nh]
 | [],[],_ :: _,_,_,_,h,_,_=>by simp [gJ] at h
 | [],_ :: _,_,_,_,h,_,_,_=>by simp [gJ] at h
 | _ :: _,[],_,_,_,h,_,_,_=>by simp [gJ] at h
 | _ :: _,_ :: _,[],_,_,_,h,_,_=>by simp [gJ] at h
 | z :: zs,x :: l,y :: m,cs,ds,hx,hy,h1,h2=>by
   simp only [gJ] at hx hy
   cases qx : jk z x with
   | false=>simp [qx] at hx
   | true =>
     cases qy : jk z y with
     | false=>simp [qy] at hy
     | true =>
       rw [qx] at hx
       rw [qy] at hy
       simp only [kX] at h1 h2
       obtain ⟨a,b,rfl,g1,g2⟩:=h1
       obtain ⟨a',b',rfl,g3,g4⟩:=h2
       obtain ⟨k1,k2,k3⟩:=Qc qx qy g1 g3
       have ih:=FC hx hy g2 g4
       simp only [Nh]
       rw [<- k3,<- ih]
       constructor
       ·intro e; exact List.append_inj e (by omega)
       ·rintro ⟨rfl,rfl⟩; rfl

theorem Sz {z x : AV} {cs : List Value} (hx : jk z x = true) (h : VR c x cs) : Rd c.w c.Im x cs:=by
 cases z <;> first | (simp [jk] at hx; done) | skip
 all_goals cases x <;> first | (simp [jk] at hx; done) | (simpa only [VR] using h)

theorem yU : ∀ {zs l : List AV} {cs : List Value},gJ zs l = true -> lg c l cs -> kX c.w c.Im l cs
 | [],[],_,_,h=>by simpa only [lg,kX] using h
 | [],_ :: _,_,h,_=>by simp [gJ] at h
 | _ :: _,[],_,h,_=>by simp [gJ] at h
 | z :: zs,x :: l,cs,hx,h=>by
   simp only [gJ] at hx
   cases qx : jk z x with
   | false=>simp [qx] at hx
   | true =>
     rw [qx] at hx
     simp only [lg] at h
     obtain ⟨a,b,rfl,g1,g2⟩:=h
     simp only [kX]
     exact ⟨a,b,rfl,Sz qx g1,yU hx g2⟩

theorem Wh {op : BinOp} {t ty : Nat} {x y : Operand} (hr : HR c H) (ho : o.op = .binOp op t x y ty) {i : TI} (hT : nH P t i) {A B : AV} (hA : EV c A (a.eval x)) (hB : EV c B (a.eval y))
  (h : Ll i op A B fun R=>k R H) : bU P o a.eval c H k ks:=by
 unfold Ll at h
 split at h
 case h_2=>exact h.elim
 rename_i zs l m hc hz
 split at h
 case h_2=>exact h.elim
 rename_i q1 q2
 have E:=hT.cmpd hc zs hz
 obtain ⟨cs,e1⟩:=hA.1.1 rfl
 obtain ⟨ds,e2⟩:=hB.1.1 rfl
 have r1 : kX c.w c.Im l cs.toList:=by
  have:=hA.2; rw [e1] at this; exact yU q1 this
 have r2 : kX c.w c.Im m ds.toList:=by
  have:=hB.2; rw [e2] at this; exact yU q2 this
 obtain ⟨r,hrun,hiff⟩:=E.run c.w c.Im l m cs ds q1 q2 r1 r2
 have he:=FC q1 q2 r1 r2
 have he : r = true ↔ Nh l m:=by
  rw [hiff,<- he]
  constructor
  ·rintro rfl; rfl
  ·intro e; exact Array.toList_inj.1 e
 split at h
 ·refine .pure hr (v:=.bool r) (iW ho ?_ ?_) (aS (dJ rfl rfl ?_)) h
  ·rw [e1,e2]; exact run_eqGuard_agg c.w _ t x y cs ds E.grd
  ·rw [e1,e2,run_eql_struct]
   show ((Op.equal t _ _).run P c.w).andThen _ = _
   rw [hrun]; rfl
  ·simp only [VR,Rd]; exact ⟨r,rfl,he⟩
 ·refine .pure hr (v:=.bool (!r)) (iW ho ?_ ?_) (aS (dJ rfl rfl ?_)) h
  ·rw [e1,e2]; exact run_eqGuard_agg c.w _ t x y cs ds E.grd
  ·rw [e1,e2,run_neq_struct]
   show ((Op.equal t _ _).run P c.w).andThen _ = _
   rw [hrun]; rfl
  ·simp only [VR,Rd]; exact ⟨!r,rfl,by rw [<- he]; cases r <;> simp⟩
 ·exact h.elim

theorem Yv (hL : bZ P L) {op : BinOp} {t ty : Nat} {x y : Operand} (hr : HR c H) (he : fC c e a) (hx : bf x = true) (hy : bf y = true) (ho : o.op = .binOp op t x y ty)
  (h : bP e x fun A=>bP e y fun B=>L.bg t fun i=>match dn A with
   | true=>Ll i op A B fun R=>k R H
   | false=>zL i.desc op (jd x || jd y) A B fun R=>k R H) : bU P o a.eval c H k ks:=by
 obtain ⟨A,hA,h⟩:=aH he hx h
 obtain ⟨B,hB,h⟩:=aH he hy h
 obtain ⟨i,hT,h⟩:=Lay.aT hL h
 cases hag : dn A with
 | true=>rw [hag] at h; exact Wh hr ho hT hA hB h
 | false =>
 rw [hag] at h
 dsimp only at h
 by_cases h1 : (∃ ka m,A = .int ka m) /\ (∃ kb n,B = .int kb n)
 ·obtain ⟨⟨ka,m,rfl⟩,⟨kb,n,rfl⟩⟩:=h1
  obtain ⟨e1,r1⟩:=iT hA
  obtain ⟨e2,_⟩:=iT hB
  obtain ⟨r,R,h2,h3,h4⟩:=Vb (P:=P) t c.w r1 h
  refine .pure hr (iW ho ?_ (by rw [e1,e2]; exact h2)) (aS h3) h4
  rw [e1,e2]
  exact gZ (by rintro ⟨_,_,h,_⟩; cases h) (by intro h; cases h)
 by_cases h2 : (∃ p,A = .str p) /\ (∃ q,B = .str q)
 ·obtain ⟨⟨p,rfl⟩,⟨q,rfl⟩⟩:=h2
  obtain ⟨e1,_⟩:=EM hA
  obtain ⟨e2,_⟩:=EM hB
  obtain ⟨r,R,h2,h3,h4⟩:=Va (P:=P) (c:=c) t c.w h
  refine .pure hr (iW ho ?_ (by rw [e1,e2]; exact h2)) (aS h3) h4
  rw [e1,e2]
  exact gZ (by rintro ⟨_,_,h,_⟩; cases h) (by intro h; cases h)
 refine Zw hr ho hT hA hB ?_
 unfold zL at h
 split at h
 ·exact absurd ⟨⟨_,_,rfl⟩,⟨_,_,rfl⟩⟩ h1
 ·exact absurd ⟨⟨_,rfl⟩,⟨_,rfl⟩⟩ h2
 ·exact h

end
end Go.AL

namespace Go.AL

theorem qB {c : Cx} {sz : Nat} : ∀ {l : List AV} {cs : List Value} {j : Nat} {x : AV},zM c sz l cs -> l[j]? = some x ->
  ∃ pre xs post,cs = pre ++ xs ++ post /\ pre.length = j * sz /\ xs.length = sz /\ Rd c.w c.Im x xs /\
    ∀ y ys,Rd c.w c.Im y ys -> ys.length = sz -> zM c sz (l.set j y) (pre ++ ys ++ post)
 | [],_,_,_,_,h=>by simp at h
 | z :: l,cs,0,x,hr,h=>by
   obtain ⟨a,d,rfl,h2,h3,h4⟩:=hr
   obtain rfl : z = x:=by simpa using h
   refine ⟨[],a,d,by simp,by simp,h2,h3,fun y ys hy hl=>?_⟩
   exact ⟨ys,d,by simp,hl,hy,h4⟩
 | z :: l,cs,j + 1,x,hr,h=>by
   obtain ⟨a,d,rfl,h2,h3,h4⟩:=hr
   obtain ⟨pre,xs,post,rfl,h5,h6,h7,h8⟩:=qB h4 (by simpa using h : l[j]? = some x)
   refine ⟨a ++ pre,xs,post,by simp,by simp [h2,h5,Nat.add_mul]; omega,h6,h7,fun y ys hy hl=>?_⟩
   exact ⟨a,pre ++ ys ++ post,by simp,h2,h3,h8 y ys hy hl⟩

theorem xP {α : Type} (pre xs post : List α) {j : Nat} {v : α} (h : xs[j]? = some v) : (pre ++ xs ++ post)[pre.length + j]? = some v:=by
 have hj : j < xs.length:=(List.getElem?_eq_some_iff.1 h).1
 rw [List.append_assoc,List.getElem?_append_right (by omega),Nat.add_sub_cancel_left,List.getElem?_append_left hj,h]

theorem Ej {a : Addr} (h : a.spot = none) : a = ⟨a.block,a.off,none⟩:=by cases a; simp_all

section
variable {P : Program} {L : Lay} {c : Cx} {H : Heap} {e : Env} {a : Act} {k : AV -> Heap -> Prop} {ks : Heap -> Prop} {o : Oper}

theorem Js {t : Nat} {x : Operand} {ad : Addr} (ho : o.op = .load t x) (hx : a.eval x = .pointer (some ad)) {v : Value} (h : (loadVar t ad).run P c.w = .ok v c.w) :
  (execOp a.eval o).run P c.w = .ok (.value v) c.w:=by
 unfold execOp; rw [ho]
 simp only [Instr.loadAt,hx,Instr.sureAddr,Sem.run_bind,Sem.run_pure,Result.andThen_ok,h]

theorem Aq (hL : bZ P L) (hr : HR c H) {t : Nat} {A : AV} {v : Value} {k : AV -> Prop} (hA : EV c A v) (h : jf L t A H k) :
  ∃ ad r R,v = .pointer (some ad) /\ (loadVar t ad).run P c.w = .ok r c.w /\ VV c R r /\ k R:=by
 unfold jf at h
 split at h
 ·rename_i x
  obtain ⟨ad,ds,e1,hs,hc,hx⟩:=Pq hA
  obtain ⟨_,i,hT,hf,hg,hk⟩:=iZ hL h
  have hx' : VR c x ds:=gX _ _ hx
  refine ⟨ad,mkV x ds,x,e1,?_,IU hx',hk⟩
  rw [Ej hs]
  exact oQ hT hf hg hx' fun j v hj=>(hc j v hj).1
 ·rename_i i p off
  obtain ⟨hk,e1⟩:=wP hA
  obtain ⟨ob,hob,h⟩:=cZ.1 h
  have hok:=hr.oK hob
  split at h
  ·rename_i B
   obtain ⟨x,hp,h⟩:=kJ.1 h
   obtain ⟨hoff,h⟩:=bn.1 h
   obtain ⟨_,ti,hT,hf,hg,hkk⟩:=iZ hL h
   subst hoff
   obtain ⟨cs,ty,h1,h2,_⟩:=hok
   obtain ⟨pre,xs,post,rfl,h4,h5⟩:=BJ h2 hp
   refine ⟨_,mkV x xs,x,e1,?_,IU h5,hkk⟩
   refine oQ hT hf hg h5 fun j v hj=>?_
   rw [cell_of_heap h1,<- h4,List.getElem?_toArray]
   exact xP _ _ _ hj
  ·rename_i sz cap l
   split at h
   ·rename_i j
    obtain ⟨x,⟨_,hx⟩,hoff,h'⟩:=h.ex
    obtain ⟨_,ti,hT,hf,hg,hkk⟩:=iZ hL h'
    subst hoff
    obtain ⟨cs,ty,h1,h2,h3,h4,h5,_⟩:=hok
    obtain ⟨pre,xs,post,rfl,h6,h7,h8,_⟩:=qB h5 (by simpa using hx)
    have h8' : VR c x xs:=gX _ _ h8
    refine ⟨_,mkV x xs,x,e1,?_,IU h8',hkk⟩
    refine oQ hT hf hg h8' fun j v hj=>?_
    rw [cell_of_heap h1,<- h6,List.getElem?_toArray]
    exact xP _ _ _ hj
   ·rename_i j q _
    obtain ⟨x,⟨_,hx⟩,h⟩:=h.ex
    obtain ⟨y,hp,hoff,h'⟩:=kJ.1 h
    obtain ⟨_,ti,hT,hf,hg,hkk⟩:=iZ hL h'
    subst hoff
    obtain ⟨cs,ty,h1,h2,h3,h4,h5,_⟩:=hok
    obtain ⟨pre,xs,post,rfl,h6,h7,h8,_⟩:=qB h5 (by simpa using hx)
    have h8' : VR c x xs:=gX _ _ h8
    obtain ⟨pre',xs',post',rfl,h9,h10⟩:=BJ h8' hp
    refine ⟨_,mkV y xs',y,e1,?_,IU h10,hkk⟩
    refine oQ hT hf hg h10 fun j v hj=>?_
    rw [cell_of_heap h1,<- h6,<- h9,List.getElem?_toArray]
    have:=xP (pre ++ pre') xs' (post' ++ post) hj
    simpa [List.append_assoc,Nat.add_assoc] using this
   ·exact h.elim
  ·exact h.elim
 ·exact h.elim

theorem V9 (hL : bZ P L) {t : Nat} {x : Operand} (hr : HR c H) (he : fC c e a) (hx : bf x = true) (ho : o.op = .load t x)
  (h : bP e x fun A=>jf L t A H fun R=>k R H) : bU P o a.eval c H k ks:=by
 obtain ⟨A,hA,h⟩:=aH he hx h
 obtain ⟨ad,r,R,e1,h1,h2,h3⟩:=Aq hL hr hA h
 exact .pure hr (Js ho e1 h1) (aS h2) h3

theorem qK {t : Nat} {x y : Operand} {ad : Addr} (ho : o.op = .store t x y) (hx : a.eval x = .pointer (some ad)) {w' : World} (h : (storeVar t ad (a.eval y)).run P c.w = .ok () w') :
  (execOp a.eval o).run P c.w = .ok .skip w':=by
 unfold execOp; rw [ho]
 simp only [Instr.storeAt,hx,Instr.sureAddr,Sem.run_bind,Sem.run_pure,Result.andThen_ok,h]

theorem sH {A : AV} {k : AV -> Prop} (h : vg A k) : mW A = true /\ k (strip A):=by
 unfold vg at h
 split at h
 ·exact ⟨‹_›,h⟩
 ·exact h.elim

theorem pI (pre xs post bs : List Value) (hl : bs.length = xs.length) :
  (pre ++ xs ++ post).take pre.length ++ bs ++ (pre ++ xs ++ post).drop (pre.length + bs.length) = pre ++ bs ++ post:=by
 have e1 : (pre ++ xs ++ post).take pre.length = pre:=by rw [List.append_assoc,List.take_left]
 have e2 : (pre ++ xs ++ post).drop (pre.length + bs.length) = post:=by rw [hl,<- List.length_append,List.drop_left]
 rw [e1,e2]

theorem SL (hL : bZ P L) {t : Nat} {x y : Operand} (hr : HR c H) (he : fC c e a) (hx : bf x = true) (hy : bf y = true) (ho : o.op = .store t x y)
  (h : bP e x fun A=>bP e y fun B=>Ed L t A B H ks) : bU P o a.eval c H k ks:=by
 obtain ⟨A,hA,h⟩:=aH he hx h
 obtain ⟨B,hB,h⟩:=aH he hy h
 unfold Ed at h
 split at h
 ·rename_i i p off _
  obtain ⟨hk,e1⟩:=wP hA
  obtain ⟨ob,hob,h⟩:=cZ.1 h
  have hok:=hr.oK hob
  split at h
  ·rename_i _ A0
   obtain ⟨x0,hp,h⟩:=kJ.1 h
   obtain ⟨hoff,h⟩:=bn.1 h
   obtain ⟨hval,ti,hT,hf,hg,h⟩:=iZ hL h
   obtain ⟨hfl,h⟩:=bn.1 h
   obtain ⟨cs,ty,h1,h2,h3⟩:=hok
   have OY:=kY hB hval
   obtain ⟨A',x1,pre,xs,post,g1,rfl,g3,g4,g5,g6⟩:=oO OY.2 h2 h
   obtain rfl : x0 = x1:=by rw [hp] at g1; exact Option.some.inj g1
   have hbl : (a.eval y).cells.toList.length = xs.length:=by rw [fD _ _ OY.2,fD _ _ g4,hfl]
   have hbs : (a.eval y).cells.size = xs.length:=by rw [<- hbl,Array.length_toList]
   obtain ⟨⟨_,_⟩,g7⟩:=gy.1 g6
   have hrun:=qL (P:=P) (w:=c.w) (v:=a.eval y) (off:=off) hT (by rw [<- hf,<- fD _ _ OY.2,Array.length_toList]) h1
    (by rw [<- hoff,<- g3,hbs]; simp) (lJ _ _ OY.2)
   rw [<- hoff,<- g3,List.toList_toArray,<- Array.length_toList,pI _ _ _ _ hbl] at hrun
   refine .inr (.inl ⟨{ c with w:=c.w.setRow (c.ρ i) (pre ++ (a.eval y).cells.toList ++ post).toArray },_,qK ho (by rw [e1,<- hoff,<- g3]) hrun,?_,g7⟩)
   refine Tr.write hr hob h1 (fun _=>rfl) (fun _=>rfl) h3 (by intros; simp) (by intros; simp) ?_
   have le : c.Le { c with w:=c.w.setRow (c.ρ i) (pre ++ (a.eval y).cells.toList ++ post).toArray }:=by
    refine ⟨fun b x h=>⟨h,gG (setRow_other c.w _ b _ (fun e=>h3 x (e ▸ h)))⟩,Nat.le_refl _,fun _ _=>rfl,fun _ _ _ h=>.inl ⟨h,rfl⟩⟩
   exact ⟨_,ty,setRow_heap c.w _ _ _ _ _ h1,nG le _ _ g5,h3⟩
  ·rename_i _ sz cap l
   split at h
   ·rename_i j _ _
    obtain ⟨hpu,h⟩:=sH h
    obtain ⟨hsz,h⟩:=bn.1 h
    obtain ⟨hval,ti,hT,hf,hg,hj,hoff,h⟩:=iZ hL h
    obtain ⟨cs,ty,h1,h2,h3,h4,h5,h6⟩:=hok
    have OY:=kY hB hval
    obtain ⟨x0,hx0⟩ : ∃ x0,l[j]? = some x0:=⟨_,List.getElem?_eq_getElem hj⟩
    obtain ⟨pre,xs,post,rfl,g3,g4,g5,g6⟩:=qB h5 hx0
    have hbl : (a.eval y).cells.toList.length = xs.length:=by rw [fD _ _ OY.2,g4,hsz]
    have hbs : (a.eval y).cells.size = xs.length:=by rw [<- hbl,Array.length_toList]
    obtain ⟨⟨_,_⟩,g7⟩:=gy.1 h
    have hrun:=qL (P:=P) (w:=c.w) (v:=a.eval y) (off:=off) hT (by rw [<- hf,<- fD _ _ OY.2,Array.length_toList]) h1
     (by rw [hoff,<- g3,hbs]; simp) (lJ _ _ OY.2)
    rw [hoff,<- g3,List.toList_toArray,<- Array.length_toList,pI _ _ _ _ hbl] at hrun
    refine .inr (.inl ⟨{ c with w:=c.w.setRow (c.ρ i) (pre ++ (a.eval y).cells.toList ++ post).toArray },_,qK ho (by rw [e1,hoff,<- g3]) hrun,?_,g7⟩)
    refine Tr.write hr hob h1 (fun _=>rfl) (fun _=>rfl) h6 (by intros; simp) (by intros; simp) ?_
    have le : c.Le { c with w:=c.w.setRow (c.ρ i) (pre ++ (a.eval y).cells.toList ++ post).toArray }:=by
     refine ⟨fun b x h=>⟨h,gG (setRow_other c.w _ b _ (fun e=>h6 x (e ▸ h)))⟩,Nat.le_refl _,fun _ _=>rfl,fun _ _ _ h=>.inl ⟨h,rfl⟩⟩
    refine ⟨_,ty,setRow_heap c.w _ _ _ _ _ h1,?_,by simpa using h3,h4,kW le (g6 _ _ (oH _ _ hpu OY.2) (hbl.trans g4)),h6⟩
    rw [<- h2]; simp; omega
   ·rename_i j q _ _
    obtain ⟨x0,⟨_,hx0⟩,h⟩:=h.ex
    obtain ⟨y0,hp,hoff,h⟩:=kJ.1 h
    obtain ⟨hval,ti,hT,hf,hg,h⟩:=iZ hL h
    obtain ⟨hfl,h⟩:=bn.1 h
    obtain ⟨cs,ty,h1,h2,h3,h4,h5,h6⟩:=hok
    have OY:=kY hB hval
    obtain ⟨pre,ys,post,rfl,g3,g4,g5,g6⟩:=qB h5 (by simpa using hx0)
    obtain ⟨A',x1,pre',xs,post',q1,rfl,q3,q4,q5,h⟩:=oO OY.2 (gX _ _ g5) h
    obtain rfl : y0 = x1:=by rw [hp] at q1; exact Option.some.inj q1
    obtain ⟨hpu,h⟩:=sH h
    have hbl : (a.eval y).cells.toList.length = xs.length:=by rw [fD _ _ OY.2,fD _ _ q4,hfl]
    have hbs : (a.eval y).cells.size = xs.length:=by rw [<- hbl,Array.length_toList]
    obtain ⟨⟨_,_⟩,g7⟩:=gy.1 h
    have hrow : pre ++ (pre' ++ xs ++ post') ++ post = (pre ++ pre') ++ xs ++ (post' ++ post):=by simp [List.append_assoc]
    have TU : off = (pre ++ pre').length:=by rw [hoff,<- g3,<- q3,List.length_append]
    have h1':=h1
    rw [hrow] at h1'
    have hrun:=qL (P:=P) (w:=c.w) (v:=a.eval y) (off:=off) hT (by rw [<- hf,<- fD _ _ OY.2,Array.length_toList]) h1'
     (by rw [TU,hbs]; simp; omega) (lJ _ _ OY.2)
    rw [TU,List.toList_toArray,<- Array.length_toList,pI _ _ _ _ hbl] at hrun
    refine .inr (.inl ⟨{ c with w:=c.w.setRow (c.ρ i) ((pre ++ pre') ++ (a.eval y).cells.toList ++ (post' ++ post)).toArray },_,qK ho (by rw [e1,TU]) hrun,?_,g7⟩)
    refine Tr.write hr hob h1 (fun _=>rfl) (fun _=>rfl) h6 (by intros; simp) (by intros; simp) ?_
    have le : c.Le { c with w:=c.w.setRow (c.ρ i) ((pre ++ pre') ++ (a.eval y).cells.toList ++ (post' ++ post)).toArray }:=by
     refine ⟨fun b x h=>⟨h,gG (setRow_other c.w _ b _ (fun e=>h6 x (e ▸ h)))⟩,Nat.le_refl _,fun _ _=>rfl,fun _ _ _ h=>.inl ⟨h,rfl⟩⟩
    have hl' : (pre' ++ (a.eval y).cells.toList ++ post').length = sz:=by rw [<- g4]; simp only [List.length_append]; omega
    refine ⟨_,ty,setRow_heap c.w _ _ _ _ _ h1,?_,by simpa using h3,h4,?_,h6⟩
    ·rw [<- h2]; simp only [List.length_append]; omega
    ·have:=kW le (g6 _ _ (oH _ _ hpu q5) hl')
     simpa only [List.append_assoc] using this
   ·exact h.elim
  ·exact h.elim
 ·exact h.elim
end
end Go.AL

namespace Go.AL

theorem vV : ∀ {zs : List AV} {n f : Nat} {z : AV},zs[f]? = some z -> (sK n zs)[f]? = some (n + iD (zs.take f),flat z)
 | [],_,_,_,h=>by simp at h
 | x :: l,n,0,z,h=>by
   obtain rfl : x = z:=by simpa using h
   simp [sK,iD]
 | x :: l,n,f + 1,z,h=>by
   simp only [sK,List.getElem?_cons_succ,List.take_succ_cons,iD]
   rw [vV (by simpa using h : l[f]? = some z),Nat.add_assoc]

section
variable {P : Program} {L : Lay} {c : Cx} {H : Heap} {e : Env} {a : Act} {k : AV -> Heap -> Prop} {ks : Heap -> Prop} {o : Oper}

theorem nH.field {t f : Nat} {i : TI} {zs : List AV} {z : AV} (h : nH P t i) (hd : ∃ fs,i.desc = .struct fs) (hz : i.zero = .ag zs) (hf : zs[f]? = some z) :
  ∃ gs fd,P.underlying t = some (.struct gs) /\ gs[f]? = some fd /\ fd.offset = iD (zs.take f) /\ P.cellsOf fd.type = flat z:=by
 obtain ⟨fs,hd⟩:=hd
 obtain ⟨d,h1,h2⟩:=h.under
 obtain ⟨gs,rfl,hfs⟩:=pR (h2.trans hd)
 obtain ⟨zs',hz',h3⟩:=h.Z8 fs hd
 rw [hz] at hz'
 cases hz'
 subst hfs
 have h4:=vV (n:=0) hf
 rw [<- h3] at h4
 simp only [List.map_map,List.getElem?_map,Array.getElem?_toList] at h4
 cases hg : gs[f]? with
 | none=>simp [hg] at h4
 | some fd =>
   simp [hg] at h4
   exact ⟨gs,fd,h1,hg,h4.1,h4.2⟩

theorem yV {t : Nat} {n : Nat} (h : P.cellsOf t = n + 1) (w : World) : (sizeOf t).run P w = .ok (n + 1) w:=by
 unfold Program.cellsOf at h
 cases hi : P.info? t with
 | none=>simp [hi] at h
 | some x=>simp [hi] at h; unfold sizeOf typeInfo; simp [hi,h]

theorem addr_add (b off n : Nat) : (⟨b,off,none⟩ : Addr).add n = ⟨b,off + n,none⟩:=by
 unfold Addr.add; split
 ·rename_i h; subst h; rfl
 ·rfl

theorem GR {w : World} {Im : Nat -> Nat -> Prop} : ∀ {l : List AV} {cs : List Value} {i : Nat} {x : AV},kX w Im l cs -> l[i]? = some x ->
  ∃ pre xs post,cs = pre ++ xs ++ post /\ pre.length = iD (l.take i) /\ Rd w Im x xs
 | [],_,_,_,_,h=>by simp at h
 | z :: l,cs,0,x,hr,h=>by
   simp only [kX] at hr
   obtain ⟨a,d,rfl,h2,h3⟩:=hr
   obtain rfl : z = x:=by simpa using h
   exact ⟨[],a,d,by simp,by simp [iD],h2⟩
 | z :: l,cs,i + 1,x,hr,h=>by
   simp only [kX] at hr
   obtain ⟨a,d,rfl,h2,h3⟩:=hr
   obtain ⟨pre,xs,post,rfl,h5,h6⟩:=GR h3 (by simpa using h : l[i]? = some x)
   exact ⟨a ++ pre,xs,post,by simp,by simp [iD,bW _ _ h2,h5],h6⟩

theorem KH {w : World} {Im : Nat -> Nat -> Prop} {b off : Nat} {pre xs post : List Value} (h : jo w Im b off (pre ++ xs ++ post)) : jo w Im b (off + pre.length) xs:=by
 intro j v hj
 have:=h (pre.length + j) v (xP pre xs post hj)
 rw [Nat.add_assoc]; exact this

theorem Lp {x : AV} {b off : Nat} {ds : List Value} (hc : jo c.w c.Im b off ds) (hx : Rd c.w c.Im x ds) : VV c (.cp x) (.pointer (some ⟨b,off,none⟩)) :=
 dJ rfl rfl (by simp only [VR,Rd]; exact ⟨_,ds,rfl,rfl,hc,hx⟩)

theorem qw {i off : Nat} {p : List Nat} (h : i < c.nx) : VV c (.ptr i p off) (.pointer (some ⟨c.ρ i,off,none⟩)) :=
 dJ rfl rfl (by simp only [VR]; exact ⟨h,trivial⟩)

theorem Hz (hL : bZ P L) {t f : Nat} {x : Operand} (hr : HR c H) (he : fC c e a) (hx : bf x = true) (ho : o.op = .fieldAddr t x f)
  (h : bP e x fun A=>zJ L t A f fun R=>k R H) : bU P o a.eval c H k ks:=by
 obtain ⟨A,hA,h⟩:=aH he hx h
 unfold zJ at h
 obtain ⟨i,hT,h⟩:=Lay.aT hL h
 have run : ∀ (b off : Nat) (zs : List AV) (z : AV) (n : Nat),(∃ fs,i.desc = .struct fs) -> i.zero = .ag zs -> zs[f]? = some z -> flat z = n + 1 -> a.eval x = .pointer (some ⟨b,off,none⟩) ->
   (execOp a.eval o).run P c.w = .ok (.value (.pointer (some ⟨b,off + iD (zs.take f),none⟩))) c.w:=by
  intro b off zs z n hd hz hf hn hp
  obtain ⟨gs,fd,h1,h2,h3,h4⟩:=hT.field hd hz hf
  unfold execOp; rw [ho]
  simp only [Instr.fieldAt,hp,Instr.sureAddr,Sem.run_bind,run_underlying h1,Result.andThen_ok,h2,Sem.run_pure,fieldPlace,yV (h4.trans hn)]
  simp [addr_add,h3]
 split at h
 ·rename_i fs zs hd hz
  split at h
  ·rename_i l
   obtain ⟨hfl,h⟩:=bn.1 h
   obtain ⟨z,hf,h⟩:=iQ.1 h
   split at h
   ·exact h.elim
   ·rename_i n hn
    obtain ⟨y,hy,h⟩:=iQ.1 h
    obtain ⟨ad,ds,e1,e2,hc,hrd⟩:=Pq hA
    simp only [Rd] at hrd
    obtain ⟨pre,xs,post,rfl,h5,h6⟩:=GR hrd hy
    rw [Ej e2] at e1
    refine .pure hr (run _ _ zs z n ⟨_,hd⟩ hz hf hn e1) (aS (Lp ?_ h6)) h
    rw [<- hfl,<- h5]
    exact KH hc
  ·rename_i j p off
   obtain ⟨z,hf,h⟩:=iQ.1 h
   split at h
   ·exact h.elim
   ·rename_i n hn
    have h:=uw.1 h
    obtain ⟨hk,e1⟩:=wP hA
    exact .pure hr (run _ _ zs z n ⟨_,hd⟩ hz hf hn e1) (aS (qw hk)) h
  ·exact h.elim
 ·exact h.elim

theorem uy {kd : IntKind} {n : Int} {w : World} : (asIntOf (.int kd n)).run P w = .ok (kd,n) w:=rfl

theorem mV {t el : Nat} {x y : Operand} {ei : TI} (ho : o.op = .indexAddr t x y) (ht : P.underlying t = some (.slice el)) (hE : nH P el ei) {ad : Addr} {len cap : Nat} {kd : IntKind} {n : Int}
  (hx : a.eval x = .slice (some ad) len cap) (hy : a.eval y = .int kd n) (h0 : 0 <= n) (h1 : n < (len : Int)) :
  (execOp a.eval o).run P c.w = .ok (.value (.pointer (some (ad.add (n.toNat * flat ei.zero))))) c.w:=by
 unfold execOp; rw [ho]
 simp only [Instr.indexAt,hx,hy,Sem.run_bind,uy,Result.andThen_ok,run_underlying ht,Sem.run_pure,h0,h1,and_self,if_true,hE.lT]

theorem xw {t el m : Nat} {x y : Operand} {ei : TI} (ho : o.op = .indexAddr t x y) (ht : P.underlying t = some (.array m el)) (hE : nH P el ei) {ad : Addr} {kd : IntKind} {n : Int}
  (hx : a.eval x = .pointer (some ad)) (hy : a.eval y = .int kd n) (h0 : 0 <= n) (h1 : n < (m : Int)) :
  (execOp a.eval o).run P c.w = .ok (.value (.pointer (some (ad.add (n.toNat * flat ei.zero))))) c.w:=by
 unfold execOp; rw [ho]
 simp only [Instr.indexAt,hx,hy,Sem.run_bind,uy,Result.andThen_ok,run_underlying ht,Instr.sureAddr,Sem.run_pure,h0,h1,and_self,if_true,hE.lT]

theorem Hy (hL : bZ P L) {t : Nat} {x y : Operand} (hr : HR c H) (he : fC c e a) (hx : bf x = true) (hy : bf y = true) (ho : o.op = .indexAddr t x y)
  (h : bP e x fun A=>bP e y fun I=>lH L t A I fun R=>k R H) : bU P o a.eval c H k ks:=by
 obtain ⟨A,hA,h⟩:=aH he hx h
 obtain ⟨I,hI,h⟩:=aH he hy h
 unfold lH at h
 split at h
 ·rename_i kd n
  obtain ⟨e2,_⟩:=iT hI
  obtain ⟨i,hT,h⟩:=Lay.aT hL h
  obtain ⟨d,hd,hdd⟩:=hT.under
  split at h
  ·rename_i el sz l tok hi _ _
   obtain rfl:=bC (hdd.trans hi)
   obtain ⟨ei,hE,h⟩:=Lay.aT hL h
   obtain ⟨hsz,hix⟩:=bn.1 h
   subst hsz
   obtain ⟨z,⟨h0,hz⟩,hk⟩:=hix.ex
   have hlt : n.toNat < l.length:=(List.getElem?_eq_some_iff.1 hz).1
   rcases (Ep hA).2 with ⟨rfl,_⟩ | ⟨ad,cap,e1,_,_,hs,hre⟩
   ·simp at hlt
   ·obtain ⟨cs,g1,g2,g3⟩:=PI hre hz
    have hsp:=hs (by intro e; subst e; simp at hlt)
    rw [Ej hsp] at e1
    have hrun:=mV (P:=P) (c:=c) ho hd hE e1 e2 h0 (by omega)
    rw [addr_add] at hrun
    exact .pure hr hrun (aS (Lp g2 g3)) hk
  ·rename_i el j off len cap sz hi _ _
   obtain rfl:=bC (hdd.trans hi)
   obtain ⟨ei,hE,h⟩:=Lay.aT hL h
   obtain ⟨rfl,⟨h0,h1⟩,hk⟩:=bn.1 h
   obtain ⟨hj,e1,_⟩:=vK hA
   have hrun:=mV (P:=P) (c:=c) ho hd hE e1 e2 h0 h1
   rw [addr_add,<- Nat.add_mul] at hrun
   exact .pure hr hrun (aS (qw hj)) hk
  ·rename_i m el j p off hi _ _
   obtain rfl:=DJ (hdd.trans hi)
   obtain ⟨ei,hE,⟨h0,h1⟩,h⟩:=Lay.aT hL h
   have hk:=uw.1 h
   obtain ⟨hj,e1⟩:=wP hA
   have hrun:=xw (P:=P) (c:=c) ho hd hE e1 e2 h0 h1
   rw [addr_add] at hrun
   exact .pure hr hrun (aS (qw hj)) hk
  ·exact h.elim
 ·exact h.elim

theorem SY (hL : bZ P L) {t : Nat} {x y : Operand} (hr : HR c H) (he : fC c e a) (hx : bf x = true) (hy : bf y = true) (ho : o.op = .index t x y)
  (h : bP e x fun A=>bP e y fun I=>zH L t A I fun R=>k R H) : bU P o a.eval c H k ks:=by
 obtain ⟨A,hA,h⟩:=aH he hx h
 obtain ⟨I,hI,h⟩:=aH he hy h
 have h' : ∃ s kd n,A = .str s /\ I = .int kd n /\ L.bg t fun i=>(match i.desc with
  | .str=>kE s n fun b=>k (.int .u8 b.toNat) H
  | _=>False):=by
  unfold zH at h
  cases A <;> cases I <;> first | exact h.elim | exact ⟨_,_,_,rfl,rfl,h⟩
 clear h
 obtain ⟨s,kd,n,rfl,rfl,h⟩:=h'
 ·obtain ⟨e2,_⟩:=iT hI
  obtain ⟨e1,_⟩:=EM hA
  obtain ⟨i,hT,h⟩:=Lay.aT hL h
  obtain ⟨d,hd,hdd⟩:=hT.under
  split at h
  ·rename_i hi
   obtain rfl:=lF (hdd.trans hi)
   obtain ⟨b,⟨h0,hb⟩,hk⟩:=h.ex
   refine .pure hr (v:=.int .u8 b.toNat) ?_ (aS (bT ?_)) hk
   ·have hlt : n.toNat < s.length:=(List.getElem?_eq_some_iff.1 hb).1
    have hs : (⟨s.toArray⟩ : ByteArray)[n.toNat]? = some b:=by
     rw [List.getElem?_eq_getElem hlt] at hb
     have h2 : n.toNat < (⟨s.toArray⟩ : ByteArray).size:=by simpa [ByteArray.size] using hlt
     rw [getElem?_pos (⟨s.toArray⟩ : ByteArray) n.toNat h2]
     exact hb
    unfold execOp; rw [ho]
    simp only [Instr.index,e1,e2,Sem.run_bind,uy,Result.andThen_ok,run_underlying hd,h0,if_true,hs,Sem.run_pure]
   ·have:=b.toNat_lt
    simp [rZ,IntKind.min,IntKind.max,IntKind.signed,IntKind.bits]; omega
  ·exact h.elim

theorem Jz {x : Operand} (hr : HR c H) (he : fC c e a) (hx : bf x = true) (ho : o.op = .nilCheck x)
  (h : bP e x fun A=>(match A with
  | .ptr _ _ _=>k A H
  | .cp _=>k A H
  | .fn _ _=>k A H
  | _=>False)) : bU P o a.eval c H k ks:=by
 obtain ⟨A,hA,h⟩:=aH he hx h
 have run : ∀ v,a.eval x = v -> ((∃ ad,v = .pointer (some ad)) \/ (∃ f x y,v = .func (.func f) x y)) -> (execOp a.eval o).run P c.w = .ok (.value v) c.w:=by
  rintro v hv (⟨ad,rfl⟩ | ⟨f,x,y,rfl⟩) <;> (unfold execOp; rw [ho]; simp only [hv]; rfl)
 split at h
 ·obtain ⟨_,e1⟩:=wP hA
  exact .pure hr (run _ rfl (.inl ⟨_,e1⟩)) hA h
 ·obtain ⟨ad,ds,e1,_⟩:=Pq hA
  exact .pure hr (run _ rfl (.inl ⟨_,e1⟩)) hA h
 ·obtain ⟨vs,e1,_⟩:=Vf hA
  exact .pure hr (run _ rfl (.inr ⟨_,_,_,e1⟩)) hA h
 ·exact h.elim

theorem Vk : ∀ {l : List AV} {vs : List Value} {i : Nat} {x : AV},VA c l vs -> l[i]? = some x -> ∃ v,vs[i]? = some v /\ VV c x v
 | [],_,_,_,_,h=>by simp at h
 | y :: l,vs,0,x,hr,h=>by
   simp only [VA] at hr
   obtain ⟨v,r,rfl,h2,h3,h4⟩:=hr
   obtain rfl : y = x:=by simpa using h
   exact ⟨v,rfl,h2,h3⟩
 | y :: l,vs,i + 1,x,hr,h=>by
   simp only [VA] at hr
   obtain ⟨v,r,rfl,h2,h3,h4⟩:=hr
   obtain ⟨u,g1,g2⟩:=Vk (l:=l) (i:=i) h4 (by simpa using h)
   exact ⟨u,by simpa using g1,g2⟩

theorem MH {x : Operand} {i : Nat} (hr : HR c H) (he : fC c e a) (hx : bf x = true) (ho : o.op = .extract x i)
  (h : bP e x fun A=>(match A with
  | .dA l=>oL l i fun R=>k R H
  | _=>False)) : bU P o a.eval c H k ks:=by
 obtain ⟨A,hA,h⟩:=aH he hx h
 split at h
 ·obtain ⟨R,hR,h⟩:=iQ.1 h
  obtain ⟨vs,e1,h2⟩:=hA
  obtain ⟨v,h3,h4⟩:=Vk h2 hR
  refine .pure hr (v:=v) ?_ (aS h4) h
  unfold execOp; rw [ho]
  rw [Array.getElem?_toList] at h3
  simp only [Instr.extract,e1,h3,Sem.run_bind,Sem.run_pure,Result.andThen_ok]
 ·exact h.elim

theorem V6 {op : UnOp} {t : Nat} {x : Operand} (hr : HR c H) (he : fC c e a) (hx : bf x = true) (ho : o.op = .unOp op t x)
  {F : FT} {gu : AV -> Prop} (h : gU F gu L (.unOp op t x) e H k ks) : bU P o a.eval c H k ks:=by
 simp only [gU] at h
 cases op with
 | not =>
   obtain ⟨A,hA,h⟩:=aH he hx h
   have h : rY A fun R=>k R H:=h
   have hn : (∀ l,A ≠ .dA l) /\ A ≠ .und:=by
    refine ⟨?_,?_⟩ <;> intros <;> intro e <;> subst e <;> simp [rY] at h
   have hV:=dF hA hn.1 hn.2
   obtain ⟨b,hb⟩:=yZ hV h
   rw [hb] at hV
   obtain ⟨R,h1,h2⟩:=lu hV h
   refine .pure hr (v:=.bool !b) ?_ (aS h1) h2
   unfold execOp; rw [ho]
   simp only [Op.unary,hb,Sem.run_bind,Sem.run_pure,Result.andThen_ok]
 | neg =>
   obtain ⟨A,hA,h⟩:=aH he hx h
   have h' : ∃ ka n,A = .int ka n /\ arith ka (0 - n) fun R=>k R H:=by
    cases A <;> first | exact h.elim | exact ⟨_,_,rfl,h⟩
   obtain ⟨ka,n,rfl,h⟩:=h'
   obtain ⟨e1,_⟩:=iT hA
   obtain ⟨R,h1,h2⟩:=l7 (c:=c) h
   refine .pure hr ?_ (aS h1) h2
   unfold execOp; rw [ho]
   simp only [Op.unary,e1,Op.intArith,Sem.run_bind,Sem.run_pure,Result.andThen_ok]
 | xor=>obtain ⟨A,hA,h⟩:=aH he hx h; exact h.elim
 | plus=>obtain ⟨A,hA,h⟩:=aH he hx h; exact h.elim

end
end Go.AL

namespace Go.AL

section
variable {P : Program} {L : Lay} {c : Cx} {H : Heap} {e : Env} {a : Act} {k : AV -> Heap -> Prop} {ks : Heap -> Prop} {o : Oper}

theorem SE (hr : HR c H) {A : AV} {v : Value} (t : Nat) (hv : VV c A v) :
  Tr c H (c.push (.cells v.cells t) ((nextId H,.box A) :: H)) ((nextId H,.box A) :: H):=by
 refine Tr.push hr _ _ (fun _=>rfl) ?_
 refine ⟨v.cells.toList,t,?_,nG (Hr hr _ _) _ _ hv.2,?_⟩
 ·rw [oUρ hr]; simp only [Cx.push,Array.toArray_toList]; exact alloc_heap_new _ _
 ·intro x hx
  rw [oUρ hr] at hx
  have:=hr.im _ _ hx
  omega

theorem SQ (hr : HR c H) {A : AV} {v : Value} (t : Nat) (hv : VV c A v) (hrun : (execOp a.eval o).run P c.w = .ok (.value (.pointer (some ⟨c.w.heap.size,0,none⟩))) (c.w.alloc (.cells v.cells t)))
  (h : nS H (.box A) fun j H'=>k (.ptr j [] 0) H') : bU P o a.eval c H k ks:=by
 have h:=dP.1 h
 have htr:=SE hr t hv
 refine .inl ⟨_,c.push (.cells v.cells t) ((nextId H,.box A) :: H),_,_,hrun,htr,?_,h⟩
 have:=qw (c:=c.push (.cells v.cells t) ((nextId H,.box A) :: H)) (i:=nextId H) (off:=0) (p:=[]) (by simp only [Cx.push,hr.nx]; omega)
 rw [oUρ hr] at this
 exact aS this

theorem Tf (hL : bZ P L) {t : Nat} (hr : HR c H) (ho : o.op = .alloc t) (h : L.bg t fun i=>nS H (.box i.zero) fun j H'=>k (.ptr j [] 0) H') : bU P o a.eval c H k ks:=by
 obtain ⟨i,hT,h⟩:=Lay.aT hL h
 obtain ⟨v,h1,h2,h3⟩:=hT.sF c.w
 refine SQ hr t (A:=i.zero) (v:=v) ⟨h2,gX _ _ (h3 _ _)⟩ ?_ h
 unfold execOp; rw [ho]
 simp only [Instr.alloc,Sem.run_bind,h1,Result.andThen_ok,newVar,newRow,run_newObj,Sem.run_pure,World.alloc_eq]

theorem Yu (hL : bZ P L) {t : Nat} {x : Operand} (hr : HR c H) (he : fC c e a) (hx : bf x = true) (ho : o.op = .box t x)
  (h : bP e x fun A=>wG L t A (nS H (.box A) fun j H'=>k (.ptr j [] 0) H')) : bU P o a.eval c H k ks:=by
 obtain ⟨A,hA,h⟩:=aH he hx h
 obtain ⟨hval,i,hT,_,_,h⟩:=iZ hL h
 refine SQ hr t (kY hA hval) ?_ h
 unfold execOp; rw [ho]
 simp only [Instr.box,Sem.run_bind,Result.andThen_ok,newVar,newRow,run_newObj,Sem.run_pure,World.alloc_eq]

theorem jC {x : Option Operand} {d : Int} {k : Int -> Prop} (he : fC c e a) (hx : x.all bf = true) (h : tK e x d k) :
  ∃ n,k n /\ ((x = none /\ n = d) \/ ∃ y kd,x = some y /\ a.eval y = .int kd n):=by
 cases x with
 | none=>exact ⟨d,h,.inl ⟨rfl,rfl⟩⟩
 | some y =>
   obtain ⟨A,hA,h⟩:=aH he (by simpa using hx) h
   cases A <;> first | exact h.elim | exact ⟨_,h,.inr ⟨_,_,rfl,(iT hA).1⟩⟩

theorem run_sliceBound {kd : IntKind} {n : Int} {m : Nat} {w : World} {cd : BoundsCode} (h0 : 0 <= n) (h1 : n <= (m : Int)) : (Instr.sliceBound (.int kd n) m cd).run P w = .ok n.toNat w:=by
 unfold Instr.sliceBound
 simp only [Sem.run_bind,uy,Result.andThen_ok,h0,h1,and_self,if_true,Sem.run_pure]

theorem jc {b : Bool} {len cap : Nat} {lo hi : Option Operand} {w : World} {l h : Int} (hlc : len <= cap)
  (hl : (lo = none /\ l = 0) \/ ∃ y kd,lo = some y /\ a.eval y = .int kd l) (hh : (hi = none /\ h = (len : Int)) \/ ∃ y kd,hi = some y /\ a.eval y = .int kd h)
  (h0 : 0 <= l) (h1 : l <= h) (h2 : h <= (len : Int)) : (Instr.sliceBounds b len cap (lo.map a.eval) (hi.map a.eval) none).run P w = .ok (l.toNat,h.toNat,cap) w:=by
 unfold Instr.sliceBounds
 rcases hh with ⟨rfl,rfl⟩ | ⟨y,kd,rfl,ey⟩ <;> rcases hl with ⟨rfl,rfl⟩ | ⟨z,kd',rfl,ez⟩
 ·simp only [Option.map_none,Sem.run_bind,Sem.run_pure,Result.andThen_ok]; rfl
 ·simp only [Option.map_none,Option.map_some,Sem.run_bind,Sem.run_pure,Result.andThen_ok,ez,run_sliceBound h0 h1,Int.toNat_natCast]
 ·simp only [Option.map_none,Option.map_some,Sem.run_bind,Sem.run_pure,Result.andThen_ok,ey]
  rw [run_sliceBound (by omega) (by omega)]; rfl
 ·simp only [Option.map_some,Sem.run_bind,Sem.run_pure,Result.andThen_ok,ey,ez]
  rw [run_sliceBound (by omega) (by omega)]
  simp only [Result.andThen_ok]
  rw [run_sliceBound h0 (by omega)]; rfl

theorem SN (hL : bZ P L) {t : Nat} {x : Operand} {lo hi : Option Operand} (hr : HR c H) (he : fC c e a) (hx : bf x = true) (hlo : lo.all bf = true) (hhi : hi.all bf = true)
  (ho : o.op = .slice t x lo hi none) (h : bP e x fun A=>aslice L t e A lo hi fun R=>k R H) : bU P o a.eval c H k ks:=by
 obtain ⟨A,hA,h⟩:=aH he hx h
 unfold aslice at h
 obtain ⟨i,hT,h⟩:=Lay.aT hL h
 obtain ⟨d,hd,hdd⟩:=hT.under
 split at h
 ·rename_i s hi' _
  obtain rfl:=lF (hdd.trans hi')
  obtain ⟨e1,hs⟩:=EM hA
  obtain ⟨l,h,hl⟩:=jC he hlo h
  obtain ⟨m,h,hm⟩:=jC he hhi h
  obtain ⟨⟨h0,h1,h2⟩,hk⟩:=h.ex
  refine .pure hr (v:=.string ⟨((s.drop l.toNat).take (m.toNat - l.toNat)).toArray⟩) ?_ (aS (GI ?_)) hk
  ·have hsz : (⟨s.toArray⟩ : ByteArray).size = s.length:=by simp [ByteArray.size]
   unfold execOp; rw [ho]
   simp only [Instr.sliceAt,Instr.slice,e1,Sem.run_bind,run_underlying hd,Result.andThen_ok,Option.isSome_none,Bool.false_eq_true,if_false,hsz,Sem.run_pure,Option.map_none]
   rw [jc (P:=P) (a:=a) (Nat.le_refl _) hl hm h0 h1 h2]
   simp only [Result.andThen_ok]
   congr 3
   apply ByteArray.ext
   simp [ByteArray.data_extract]
  ·have : ((s.drop l.toNat).take (m.toNat - l.toNat)).length <= s.length:=by simp; omega
   omega
 ·rename_i el sz l tok hi' _
  obtain rfl:=bC (hdd.trans hi')
  obtain ⟨ei,hE,h⟩:=Lay.aT hL h
  obtain ⟨hsz,h⟩:=bn.1 h
  subst hsz
  obtain ⟨p,h,hp⟩:=jC he hlo h
  obtain ⟨q,h,hq⟩:=jC he hhi h
  obtain ⟨⟨h0,h1,h2⟩,hk⟩:=h.ex
  obtain ⟨hml,hv⟩:=Ep hA
  have hlen : ((l.drop p.toNat).take (q.toNat - p.toNat)).length = q.toNat - p.toNat:=by simp; omega
  rcases hv with ⟨rfl,e1⟩ | ⟨ad,cap,e1,hc1,hc2,hs,hre⟩
  ·have hp0 : p = 0:=by simp at h2; omega
   have hq0 : q = 0:=by simp at h2; omega
   subst hp0; subst hq0
   refine .pure hr (v:=.slice none 0 0) ?_ (aS (dJ rfl rfl ?_)) hk
   ·unfold execOp; rw [ho]
    simp only [Instr.sliceAt,Instr.slice,e1,Sem.run_bind,run_underlying hd,Result.andThen_ok,Option.map_none]
    rw [jc (P:=P) (a:=a) (Nat.le_refl _) hp (h:=0) (by rcases hq with ⟨h1,_⟩ | h1; exact .inl ⟨h1,rfl⟩; exact .inr h1) (by omega) (by omega) (by simp)]
    simp only [Result.andThen_ok,hE.lT]
    rfl
   ·simp only [VR,Rd]; exact ⟨by simp,.inl ⟨by simp,trivial⟩⟩
  ·refine .pure hr (v:=.slice (if cap = p.toNat then some ad else some (ad.add (p.toNat * flat ei.zero))) (q.toNat - p.toNat) (cap - p.toNat)) ?_ (aS (dJ rfl rfl ?_)) hk
   ·unfold execOp; rw [ho]
    simp only [Instr.sliceAt,Instr.slice,e1,Sem.run_bind,run_underlying hd,Result.andThen_ok,Option.map_none]
    rw [jc (P:=P) (a:=a) hc1 hp hq h0 h1 h2]
    simp only [Result.andThen_ok,hE.lT,Option.map_some,Sem.run_pure]
   ·simp only [VR,Rd,hlen]
    refine ⟨by omega,.inr ?_⟩
    by_cases hcp : cap = p.toNat
    ·rw [if_pos hcp]
     have hq' : q.toNat - p.toNat = 0:=by omega
     refine ⟨ad,cap - p.toNat,by rw [hq'],by omega,by omega,?_,?_⟩
     ·intro hne; exact absurd (List.eq_nil_of_length_eq_zero (by rw [hlen,hq'])) hne
     ·rw [hq',List.take_zero]; simp only [qG]
    ·rw [if_neg hcp]
     refine ⟨ad.add (p.toNat * flat ei.zero),cap - p.toNat,rfl,by omega,by omega,?_,?_⟩
     ·intro hne
      unfold Addr.add; split
      ·refine hs ?_
       intro e; subst e; exact hne (by simp)
      ·rfl
     ·have hb : (ad.add (p.toNat * flat ei.zero)).block = ad.block /\ (ad.add (p.toNat * flat ei.zero)).off = ad.off + p.toNat * flat ei.zero:=by
       unfold Addr.add; split
       ·rename_i h0; rw [h0]; exact ⟨rfl,rfl⟩
       ·exact ⟨rfl,rfl⟩
      rw [hb.1,hb.2]
      exact LG _ (LH _ hre (by omega))
 ·rename_i el j off len cap sz hi' _
  obtain rfl:=bC (hdd.trans hi')
  obtain ⟨ei,hE,h⟩:=Lay.aT hL h
  obtain ⟨hsz,h⟩:=bn.1 h
  subst hsz
  obtain ⟨p,h,hp⟩:=jC he hlo h
  obtain ⟨q,h,hq⟩:=jC he hhi h
  obtain ⟨⟨h0,h1,h2⟩,hcp,hk⟩:=h
  obtain ⟨hj,e1,hc1,hc2⟩:=vK hA
  refine .pure hr (v:=.slice (some ⟨c.ρ j,(off + p.toNat) * flat ei.zero,none⟩) (q.toNat - p.toNat) (cap - p.toNat)) ?_ (aS (dJ rfl rfl ?_)) hk
  ·unfold execOp; rw [ho]
   simp only [Instr.sliceAt,Instr.slice,e1,Sem.run_bind,run_underlying hd,Result.andThen_ok,Option.map_none]
   rw [jc (P:=P) (a:=a) hc1 hp hq h0 h1 h2]
   simp only [Result.andThen_ok,hE.lT,Option.map_some,Sem.run_pure]
   rw [if_neg (by omega),addr_add,Nat.add_mul]
  ·simp only [VR]
   exact ⟨hj,trivial,by omega,by omega⟩
 ·rename_i el hi' _
  obtain rfl:=bC (hdd.trans hi')
  obtain ⟨ei,hE,h⟩:=Lay.aT hL h
  obtain ⟨p,h,hp⟩:=jC he hlo h
  obtain ⟨q,h,hq⟩:=jC he hhi h
  obtain ⟨⟨rfl,rfl⟩,hk⟩:=h
  have e1:=nC hA
  refine .pure hr (v:=.slice none 0 0) ?_ (e1 ▸ hA) hk
  unfold execOp; rw [ho]
  simp only [Instr.sliceAt,Instr.slice,e1,Sem.run_bind,run_underlying hd,Result.andThen_ok,Option.map_none]
  rw [jc (P:=P) (a:=a) (Nat.le_refl _) hp (h:=0) hq (by omega) (by omega) (by simp)]
  simp only [Result.andThen_ok,hE.lT]
  rfl
 ·exact h.elim

end
end Go.AL

namespace Go.AL

theorem Vj {c : Cx} : ∀ {As : List AV} {vs : List Value},uV c As vs -> (∀ A ∈ As,isVal A = true) -> VA c As vs
 | [],vs,h,_=>by simp only [VA]; exact h
 | A :: As,vs,h,hv=>by
   obtain ⟨v,r,rfl,h1,h2⟩:=h
   simp only [VA]
   exact ⟨v,r,rfl,(kY h1 (hv A (by simp))).1,(kY h1 (hv A (by simp))).2,Vj h2 fun x hx=>hv x (by simp [hx])⟩

theorem yP {k : Prop} : ∀ {As : List AV},zW As k -> (∀ A ∈ As,isVal A = true) /\ k
 | [],h=>⟨by simp,h⟩
 | A :: As,h=>by
   simp only [zW] at h
   obtain ⟨h1,h2⟩:=sD.1 h
   obtain ⟨h3,h4⟩:=yP h2
   exact ⟨by intro x hx; rcases List.mem_cons.1 hx with rfl | hx; exact h1; exact h3 x hx,h4⟩

section
variable {P : Program} {L : Lay} {c : Cx} {H : Heap} {e : Env} {a : Act} {k : AV -> Heap -> Prop} {ks : Heap -> Prop} {o : Oper}

theorem MI (hL : bZ P L) {s d : Nat} {x : Operand} (hr : HR c H) (he : fC c e a) (hx : bf x = true) (ho : o.op = .convert s d x)
  (h : bP e x fun A=>L.bg s fun _=>L.bg d fun i=>(match i.desc,A with
  | .int kd,.int _ n=>k (.int kd (kd.wrap n)) H
  | .str,.str s=>k (.str s) H
  | _,_=>False)) : bU P o a.eval c H k ks:=by
 obtain ⟨A,hA,h⟩:=aH he hx h
 obtain ⟨i0,hT0,h0⟩:=Lay.aT hL h
 clear h
 obtain ⟨i,hT,h⟩:=Lay.aT hL h0
 clear h0
 obtain ⟨u,hd,hdd⟩:=hT.under
 obtain ⟨us,hs,_⟩:=hT0.under
 split at h
 ·rename_i _ _ kd kd' n hi
  obtain rfl:=DI (hdd.trans hi)
  obtain ⟨e1,_⟩:=iT hA
  refine .pure hr (v:=.int kd (kd.wrap n)) ?_ (aS (bT (lN _ _))) h
  unfold execOp; rw [ho]
  simp only [convert,e1,Sem.run_bind,run_underlying hs,run_underlying hd,Result.andThen_ok,Conv.intToInt,Sem.run_pure]
 ·rename_i _ _ b hi
  obtain rfl:=lF (hdd.trans hi)
  obtain ⟨e1,h1⟩:=EM hA
  refine .pure hr (v:=a.eval x) ?_ hA h
  unfold execOp; rw [ho]
  simp only [convert,e1,Sem.run_bind,run_underlying hs,run_underlying hd,Result.andThen_ok,Sem.run_pure]
 ·exact h.elim

theorem yY (hL : bZ P L) {t : Nat} {x : Operand} (hr : HR c H) (he : fC c e a) (hx : bf x = true) (ho : o.op = .makeInterface t x)
  (h : bP e x fun A=>L.bg t fun i=>(match i.desc with
  | .iface=>False
  | _=>BQ A (k (.jh t A) H))) : bU P o a.eval c H k ks:=by
 obtain ⟨A,hA,h⟩:=aH he hx h
 obtain ⟨i,hT,h⟩:=Lay.aT hL h
 obtain ⟨u,hd,hdd⟩:=hT.under
 have h' : i.desc ≠ .iface /\ isVal A = true /\ k (.jh t A) H:=by
  cases hi : i.desc <;> simp only [hi] at h <;> first | exact h.elim | exact ⟨by simp,sD.1 h⟩
 obtain ⟨hne,hval,hk⟩:=h'
 have hV:=kY hA hval
 refine .pure hr (v:=.iface t (a.eval x)) ?_ (aS (dJ rfl rfl ?_)) hk
 ·unfold execOp; rw [ho]
  have : ∀ ms,u ≠ .interface ms:=by intro ms e; subst e; exact hne hdd.symm
  simp only [Instr.makeInterface,Sem.run_bind,run_underlying hd,Result.andThen_ok]
  cases u <;> first | rfl | exact absurd rfl (this _)
 ·simp only [VR]; exact ⟨_,rfl,hV.1,hV.2⟩

theorem JA {f : Fn} {first cap : Array Operand} (hr : HR c H) (he : fC c e a) (hx : cap.toList.all bf = true) (ho : o.op = .makeFunc f first cap)
  {F : FT} {gu : AV -> Prop} (h : gU F gu L (.makeFunc f first cap) e H k ks) : bU P o a.eval c H k ks:=by
 simp only [gU] at h
 cases f with
 | func g =>
   cases hf : first.toList with
   | nil =>
     rw [hf] at h
     obtain ⟨As,h1,h2⟩:=jZ he hx h
     obtain ⟨h3,h4⟩:=yP h2
     have hV:=Vj h1 h3
     obtain rfl : first = #[]:=by cases first; simp_all
     refine .pure hr (v:=.func (.func g) #[] (cap.toList.map a.eval).toArray) ?_ (aS (dJ rfl rfl ?_)) h4
     ·unfold execOp; rw [ho]
      simp [Instr.makeFunc]
      exact Array.ext' (by simp)
     ·simp only [VR]; exact ⟨_,rfl,hV⟩
   | cons x l=>rw [hf] at h; exact h.elim
 | _=>exact h.elim

theorem rQ : ∀ {As Bs : List AV} {vs us : List Value},uV c As vs -> uV c Bs us -> uV c (As ++ Bs) (vs ++ us)
 | [],_,_,_,h,g=>by obtain rfl:=h; exact g
 | A :: As,Bs,vs,us,h,g=>by
   obtain ⟨v,r,rfl,h1,h2⟩:=h
   exact ⟨v,r ++ us,rfl,h1,rQ h2 g⟩

theorem uU : ∀ {As : List AV} {vs : List Value},VA c As vs -> uV c As vs
 | [],_,h=>by simp only [VA] at h; exact h
 | A :: As,vs,h=>by
   simp only [VA] at h
   obtain ⟨v,r,rfl,h1,h2,h3⟩:=h
   exact ⟨v,r,rfl,aS ⟨h1,h2⟩,uU h3⟩

theorem Yx {A B : AV} {v : Value} (h : le0 A B) (hv : EV c A v) : EV c B v:=by
 cases A with
 | dA l=>cases B <;> simp only [le0] at h <;> cases h; exact hv
 | und=>cases B <;> simp only [le0] at h <;> first | (cases h; done) | trivial
 | _=>exact aS (zi h hv)

theorem uJ : ∀ {l m : List AV} {vs : List Value},ER l m -> uV c l vs -> uV c m vs
 | [],[],_,_,hr=>hr
 | [],_ :: _,_,h,_=>by simp only [ER] at h
 | _ :: _,[],_,h,_=>by simp only [ER] at h
 | x :: l,y :: m,vs,h,hr=>by
   simp only [ER] at h
   obtain ⟨v,r,h1,h2,h3⟩:=hr
   exact ⟨v,r,h1,Yx h.1 h2,uJ h.2 h3⟩

theorem I5 {G : Heap} (htp : ∀ k n,dw G k = some n -> c.tp k = some n) : ∀ {l : List AV} {vs : List Value},fH (nextId G) l = true -> uV c l vs -> uV (c.cut G) l vs
 | [],_,_,hr=>hr
 | x :: l,vs,hb,hr=>by
   simp only [fH] at hb
   obtain ⟨v,r,h1,h2,h3⟩:=hr
   cases hx : dD (nextId G) x with
   | false=>rw [hx] at hb; cases hb
   | true=>rw [hx] at hb; exact ⟨v,r,h1,EN htp hx h2,I5 htp hb h3⟩

theorem aQ.pure {f : Nat} {Bs : List AV} {R : AV} (h : aQ P f Bs [] R []) (hB : fH 0 Bs = true) (hR : dD 0 R = true) (hr : HR c H) {vs : List Value} (hv : uV c Bs vs) :
  Calls P f vs.toArray c.w fun e w'=>∃ v d,e = .returned v /\ d.w = w' /\ Tr c H d H /\ EV d R v:=by
 have hr0 : HR (c.cut []) []:=⟨rfl,rfl,trivial,hr.im,by simp,.nil⟩
 have hv0 : uV (c.cut []) Bs vs:=I5 (G:=[]) (fun k n hn=>by cases hn) hB hv
 refine Calls.mono (w:=(c.cut []).w) (h.2 (c.cut []) vs hr0 hv0) ?_
 rintro _ w' ⟨v,d,rfl,rfl,htr,hV⟩
 refine ⟨v,{ c with w:=d.w,Im:=d.Im },rfl,rfl,?_,?_⟩
 ·refine Tr.keep hr ⟨htr.le.im,Nat.le_refl _,fun _ _=>rfl,fun _ _ _ h=>.inl ⟨h,rfl⟩⟩ rfl rfl rfl htr.os htr.tape htr.output htr.size (fun b hb=>htr.fr b hb (by simp)) (fun b o ho=>?_)
  rcases htr.VJ b o ho with h | h | ⟨x,hx,_⟩
  ·exact .inl h
  ·exact .inr ⟨h,htr.hr.im b o ho⟩
  ·simp at hx
 ·have h1 : EV (d.cut []) R v:=EN (G:=[]) (fun k n hn=>by cases hn) hR hV
  refine iM (c:=d.cut []) (d:={ c with w:=d.w,Im:=d.Im }) ⟨fun _ _ h=>⟨h,rfl⟩,Nat.zero_le _,fun k hk=>?_,fun k n hk=>?_⟩ h1
  ·simp [Cx.cut,nextId] at hk
  ·simp [Cx.cut,nextId] at hk

theorem EX {F : FT} (hFn : FS P F) {f : Operand} {cl : Call} (hr : HR c H) (he : fC c e a) (hf : bf f = true) (hx : cl.args.toList.all bf = true) (ho : o.op = .call cl) (hc : cl.callee = .value f)
  (h : bP e f fun A=>(match A with
   | .fn g cap=>mQ e cl.args.toList fun As=>Fb As cap fun Bs=>G7 F Ok g Bs H k
   | _=>False)) : bU P o a.eval c H k ks:=by
 obtain ⟨A,hA,h⟩:=aH he hf h
 split at h
 ·rename_i g cap
  obtain ⟨vs,e1,h1⟩:=Vf hA
  obtain ⟨As,h2,h3⟩:=jZ he hx h
  have h3:=yD.1 h3
  have key : ∃ R H',(∃ fn,P.funcs[g]? = some fn /\ (fn.name == "runtime.NumGoroutine") = false /\ fn.body.isSome = true) /\
    (Calls P g (cl.args.toList.map a.eval ++ vs).toArray c.w fun e w'=>∃ v d,e = .returned v /\ d.w = w' /\ Tr c H d H' /\ EV d R v) /\ k R H':=by
   have fin : ∀ {R H'},(Calls P g (cl.args.toList.map a.eval ++ vs).toArray c.w fun e w'=>∃ v d,e = .returned v /\ d.w = w' /\ Tr c H d H' /\ EV d R v) -> Ok R:=by
    intro R H' hcall
    obtain ⟨e',w',fr,⟨v,d,_,_,_,h8⟩,_⟩:=hcall []
    exact vO h8
   cases h3 with
   | gen R H' hF hk =>
     have hF:=hFn.h _ _ _ _ _ hF
     have hcall:=hF.2 c _ hr (rQ h2 (uU h1))
     exact ⟨R,H',hF.1,hcall,hk (fin hcall)⟩
   | pure Bs R hle hb hF hk =>
     have hF:=hFn.h _ _ _ _ _ hF
     have hcall:=aQ.pure hF hb.1 hb.2 hr (uJ hle (rQ h2 (uU h1)))
     exact ⟨R,H,hF.1,hcall,hk (fin hcall)⟩
  obtain ⟨R,H',⟨fn,f1,f2,f3⟩,hcall,hk⟩:=key
  ·refine .inr (.inr ⟨g,_,?_,hcall.mono fun _ _ ⟨v,d,h1,h2,h3,h4⟩=>⟨v,d,R,H',h1,h2,h3,h4,hk⟩⟩)
   unfold execOp; rw [ho]
   simp only [resolve,hc,e1,Deferred.ofValue,Sem.run_bind,Sem.run_pure,Result.andThen_ok,invoke,callFunc,run_program,f1,f2,Bool.false_eq_true,if_false]
   have : fn.body.isNone = false:=by cases hb : fn.body <;> simp [hb] at f3 ⊢
   simp only [this,Bool.false_eq_true,if_false,Sem.run_pure]
   congr 2
   simp
 ·exact h.elim

theorem dO.pure {f : Nat} {Bs : List AV} {Q : AV -> Prop} (h : dO P f Bs [] fun R H'=>H' = [] /\ dD 0 R = true /\ Q R) (hB : fH 0 Bs = true) (hr : HR c H) {vs : List Value} (hv : uV c Bs vs) :
  Calls P f vs.toArray c.w fun e w'=>∃ v d R H',(H' = H /\ Q R) /\ e = .returned v /\ d.w = w' /\ Tr c H d H' /\ EV d R v:=by
 have hr0 : HR (c.cut []) []:=⟨rfl,rfl,trivial,hr.im,by simp,.nil⟩
 have hv0 : uV (c.cut []) Bs vs:=I5 (G:=[]) (fun k n hn=>by cases hn) hB hv
 refine Calls.mono (w:=(c.cut []).w) (h.2 (c.cut []) vs hr0 hv0) ?_
 rintro _ w' ⟨v,d,R,_,⟨rfl,hR,hQ⟩,rfl,rfl,htr,hV⟩
 refine ⟨v,{ c with w:=d.w,Im:=d.Im },R,H,⟨rfl,hQ⟩,rfl,rfl,?_,?_⟩
 ·refine Tr.keep hr ⟨htr.le.im,Nat.le_refl _,fun _ _=>rfl,fun _ _ _ h=>.inl ⟨h,rfl⟩⟩ rfl rfl rfl htr.os htr.tape htr.output htr.size (fun b hb=>htr.fr b hb (by simp)) (fun b o ho=>?_)
  rcases htr.VJ b o ho with h | h | ⟨x,hx,_⟩
  ·exact .inl h
  ·exact .inr ⟨h,htr.hr.im b o ho⟩
  ·simp at hx
 ·have h1 : EV (d.cut []) R v:=EN (G:=[]) (fun k n hn=>by cases hn) hR hV
  refine iM (c:=d.cut []) (d:={ c with w:=d.w,Im:=d.Im }) ⟨fun _ _ h=>⟨h,rfl⟩,Nat.zero_le _,fun k hk=>?_,fun k n hk=>?_⟩ h1
  ·simp [Cx.cut,nextId] at hk
  ·simp [Cx.cut,nextId] at hk

theorem JB {F : FT} (hFn : FS P F) {f : Operand} {cl : Call} (hr : HR c H) (he : fC c e a) (hx : cl.args.toList.all bf = true) (ho : o.op = .call cl) (hc : cl.callee = .value f) {g : Nat} {cap : List AV} (hA : EV c (.fn g cap) (a.eval f))
  (h : mQ e cl.args.toList fun As=>Fb As cap fun Bs=>VD F Ok g Bs H k) : bU P o a.eval c H k ks:=by
 obtain ⟨vs,e1,h1⟩:=Vf hA
 obtain ⟨As,h2,h3⟩:=jZ he hx h
 have h3:=yD.1 h3
 have hv:=rQ h2 (uU h1)
 have key : (∃ fn,P.funcs[g]? = some fn /\ (fn.name == "runtime.NumGoroutine") = false /\ fn.body.isSome = true) /\
   (Calls P g (cl.args.toList.map a.eval ++ vs).toArray c.w fun e w'=>∃ v d R H',e = .returned v /\ d.w = w' /\ Tr c H d H' /\ EV d R v /\ k R H'):=by
  cases h3 with
  | gen R H' hF hk =>
    have hF:=hFn.h _ _ _ _ _ hF
    exact ⟨hF.1,(hF.2 c _ hr hv).mono fun _ _ ⟨v,d,h1,h2,h3,h4⟩=>⟨v,d,R,H',h1,h2,h3,h4,hk (vO h4)⟩⟩
  | pure Bs R hle hb hF hk =>
    have hF:=hFn.h _ _ _ _ _ hF
    exact ⟨hF.1,(aQ.pure hF hb.1 hb.2 hr (uJ hle hv)).mono fun _ _ ⟨v,d,h1,h2,h3,h4⟩=>⟨v,d,R,H,h1,h2,h3,h4,hk (vO h4)⟩⟩
  | rel Q hF hk =>
    have hF:=hFn.q _ _ _ _ hF
    exact ⟨hF.1,(hF.2 c _ hr hv).mono fun _ _ ⟨v,d,R,H',hQ,h1,h2,h3,h4⟩=>⟨v,d,R,H',h1,h2,h3,h4,hk R H' hQ (vO h4)⟩⟩
  | oJ Bs Q hle hb hF hk =>
    have hF:=hFn.q _ _ _ _ hF
    refine ⟨hF.1,(dO.pure hF hb hr (uJ hle hv)).mono ?_⟩
    rintro _ _ ⟨v,d,R,_,⟨rfl,hQ⟩,h1,h2,h3,h4⟩
    exact ⟨v,d,R,_,h1,h2,h3,h4,hk R hQ (vO h4)⟩
 obtain ⟨⟨fn,f1,f2,f3⟩,hcall⟩:=key
 refine .inr (.inr ⟨g,_,?_,hcall⟩)
 unfold execOp; rw [ho]
 simp only [resolve,hc,e1,Deferred.ofValue,Sem.run_bind,Sem.run_pure,Result.andThen_ok,invoke,callFunc,run_program,f1,f2,Bool.false_eq_true,if_false]
 have : fn.body.isNone = false:=by cases hb : fn.body <;> simp [hb] at f3 ⊢
 simp only [this,Bool.false_eq_true,if_false,Sem.run_pure]
 congr 2
 simp

theorem fQ {cl : Call} {b : Builtin} (ho : o.op = .call cl) (hc : cl.callee = .builtin b) {w : World} :
  (execOp a.eval o).run P w = (builtin b cl.argTypes o.type (cl.args.map fun | .const _=>true | _=>false) (cl.args.map a.eval)).run P w:=by
 unfold execOp; rw [ho]
 simp only [resolve,hc,Sem.run_bind,Sem.run_pure,Result.andThen_ok,invoke]
 rfl

theorem uT {A : AV} {vs : List Value} (h : uV c [A] vs) : ∃ v,vs = [v] /\ EV c A v:=by
 obtain ⟨v,r,rfl,h1,h2⟩:=h; obtain rfl:=h2; exact ⟨v,rfl,h1⟩
theorem rP {A B : AV} {vs : List Value} (h : uV c [A,B] vs) : ∃ v u,vs = [v,u] /\ EV c A v /\ EV c B u:=by
 obtain ⟨v,r,rfl,h1,h2⟩:=h; obtain ⟨u,rfl,h3⟩:=uT h2; exact ⟨v,u,rfl,h1,h3⟩

theorem fU {xs : Array Operand} {ρ : Operand -> Value} {vs : List Value} (h : xs.toList.map ρ = vs) : xs.map ρ = vs.toArray:=by
 subst h; exact Array.ext' (by simp)

end
end Go.AL

namespace Go.AL

def rX (w : World) (Im : Nat -> Nat -> Prop) (sz : Nat) : List AV -> List Value -> Prop
 | [],cs=>cs = []
 | x :: l,cs=>∃ a d,cs = a ++ d /\ a.length = sz /\ Rd w Im x a /\ rX w Im sz l d

theorem dK {w : World} {Im : Nat -> Nat -> Prop} {sz : Nat} : ∀ {l : List AV} {cs : List Value},rX w Im sz l cs -> cs.length = l.length * sz
 | [],_,h=>by obtain rfl:=h; simp
 | x :: l,cs,h=>by
   obtain ⟨a,d,rfl,h1,_,h3⟩:=h
   simp only [List.length_append,List.length_cons,Nat.add_mul,dK h3,h1]; omega

theorem oI {w : World} {Im : Nat -> Nat -> Prop} {sz : Nat} : ∀ {l m : List AV} {cs ds : List Value},rX w Im sz l cs -> rX w Im sz m ds -> rX w Im sz (l ++ m) (cs ++ ds)
 | [],_,_,_,h,g=>by obtain rfl:=h; exact g
 | x :: l,m,cs,ds,h,g=>by
   obtain ⟨a,d,rfl,h1,h2,h3⟩:=h
   exact ⟨a,d ++ ds,by simp,h1,h2,oI h3 g⟩

theorem fB {w w' : World} {Im LP : Nat -> Nat -> Prop} (h : ∀ b o,Im b o -> LP b o /\ w'.cell? ⟨b,o,none⟩ = w.cell? ⟨b,o,none⟩) {sz : Nat} :
  ∀ {l : List AV} {cs : List Value},rX w Im sz l cs -> rX w' LP sz l cs
 | [],_,hr=>hr
 | x :: l,cs,hr=>by
   obtain ⟨a,d,h1,h2,h3,h4⟩:=hr
   exact ⟨a,d,h1,h2,dN h _ _ h3,fB h h4⟩

theorem pF {c : Cx} {sz : Nat} : ∀ {l : List AV} {cs : List Value},rX c.w c.Im sz l cs -> ∀ u ∈ cs,u.oneCell' = true
 | [],_,h=>by obtain rfl:=h; simp
 | x :: l,cs,h=>by
   obtain ⟨a,d,rfl,h1,h2,h3⟩:=h
   intro u hu
   rcases List.mem_append.1 hu with hu | hu
   ·exact lJ x a (gX _ _ h2) u hu
   ·exact pF h3 u hu

theorem rF {w : World} {Im : Nat -> Nat -> Prop} {sz b : Nat} : ∀ {l : List AV} {off : Nat},qG w Im sz b l off ->
  ∃ cs,rX w Im sz l cs /\ ∀ j v,cs[j]? = some v -> w.cell? ⟨b,off + j,none⟩ = some v
 | [],off,_=>⟨[],rfl,by simp⟩
 | x :: l,off,h=>by
   simp only [qG] at h
   obtain ⟨⟨a,h1,h2,h3⟩,h4⟩:=h
   obtain ⟨d,h5,h6⟩:=rF h4
   refine ⟨a ++ d,⟨a,d,rfl,h1,h3,h5⟩,fun j v hj=>?_⟩
   by_cases hlt : j < a.length
   ·rw [List.getElem?_append_left hlt] at hj; exact (h2 j v hj).1
   ·rw [List.getElem?_append_right (by omega)] at hj
    have:=h6 _ v hj
    have e : off + sz + (j - a.length) = off + j:=by omega
    rw [e] at this; exact this

theorem jF {w : World} {Im : Nat -> Nat -> Prop} {sz b : Nat} : ∀ {l : List AV} {cs : List Value} {off : Nat},rX w Im sz l cs -> jo w Im b off cs -> qG w Im sz b l off
 | [],_,_,_,_=>by simp only [qG]
 | x :: l,cs,off,h,hc=>by
   obtain ⟨a,d,rfl,h1,h2,h3⟩:=h
   simp only [qG]
   refine ⟨⟨a,h1,fun j v hj=>hc j v (by rw [List.getElem?_append_left (List.getElem?_eq_some_iff.1 hj).1]; exact hj),h2⟩,jF h3 fun j v hj=>?_⟩
   have:=hc (a.length + j) v (by rw [List.getElem?_append_right (by omega),Nat.add_sub_cancel_left]; exact hj)
   rw [<- h1,Nat.add_assoc]; exact this

theorem kC {c : Cx} {sz : Nat} : ∀ {l : List AV} {cs : List Value},zM c sz l cs -> ∃ a d,cs = a ++ d /\ rX c.w c.Im sz l a
 | [],cs,_=>⟨[],cs,rfl,rfl⟩
 | x :: l,cs,h=>by
   obtain ⟨a,d,rfl,h1,h2,h3⟩:=h
   obtain ⟨a',d',rfl,h4⟩:=kC h3
   exact ⟨a ++ a',d',by simp,a,a',rfl,h1,h2,h4⟩

theorem lK {c : Cx} {sz : Nat} {rest : List Value} : ∀ {l : List AV} {cs : List Value},rX c.w c.Im sz l cs -> zM c sz l (cs ++ rest)
 | [],_,_=>trivial
 | x :: l,cs,h=>by
   obtain ⟨a,d,rfl,h1,h2,h3⟩:=h
   exact ⟨a,d ++ rest,by simp,h1,h2,lK h3⟩

theorem EI {w : World} {Im : Nat -> Nat -> Prop} {sz : Nat} : ∀ {l : List AV} {cs : List Value} (n : Nat),rX w Im sz l cs -> n <= l.length -> rX w Im sz (l.drop n) (cs.drop (n * sz))
 | l,cs,0,h,_=>by simpa using h
 | [],cs,n + 1,_,h=>by simp at h
 | x :: l,cs,n + 1,h,hn=>by
   obtain ⟨a,d,rfl,h1,h2,h3⟩:=h
   have:=EI n h3 (by simpa using hn)
   have e : (n + 1) * sz = a.length + n * sz:=by rw [Nat.add_mul,h1]; omega
   simp only [List.drop_succ_cons]
   rw [e,List.drop_append,List.drop_eq_nil_of_le (as:=a) (by omega),Nat.add_sub_cancel_left,List.nil_append]
   exact this

theorem uj {w : World} {Im : Nat -> Nat -> Prop} {sz : Nat} : ∀ {l : List AV} {cs : List Value} (n : Nat),rX w Im sz l cs -> rX w Im sz (l.take n) (cs.take (n * sz))
 | l,cs,0,h=>by simp [rX]
 | [],cs,n + 1,h=>by obtain rfl:=h; simp [rX]
 | x :: l,cs,n + 1,h=>by
   obtain ⟨a,d,rfl,h1,h2,h3⟩:=h
   have:=uj n h3
   have e : (n + 1) * sz = a.length + n * sz:=by rw [Nat.add_mul,h1]; omega
   simp only [List.take_succ_cons]
   rw [e,List.take_append,List.take_of_length_le (l:=a) (by omega),Nat.add_sub_cancel_left]
   exact ⟨a,_,rfl,h1,h2,this⟩

section
variable {P : Program} {L : Lay} {c : Cx} {H : Heap} {e : Env} {a : Act} {k : AV -> Heap -> Prop} {ks : Heap -> Prop} {o : Oper}

theorem oZ {n : Nat} (h : n <= maxL) : rZ .i64 (n : Int):=by
 unfold maxL at h
 simp [rZ,IntKind.min,IntKind.max,IntKind.signed,IntKind.bits]; omega

theorem SX {cl : Call} {t : Nat} {i : TI} {A : AV} (hr : HR c H) (ho : o.op = .call cl) (hc : cl.callee = .builtin .len) (hat : cl.argTypes[0]? = some t) (hT : nH P t i)
  {v : Value} (hv : cl.args.toList.map a.eval = [v]) (hA : EV c A v) (h : IJ i.desc A H fun R=>k R H) : bU P o a.eval c H k ks:=by
 obtain ⟨d,hd,hdd⟩:=hT.under
 have run : ∀ r,(Builtin.len_ cl.argTypes o.type #[v]).run P c.w = .ok r c.w -> (execOp a.eval o).run P c.w = .ok (.value r) c.w:=by
  intro r hrr
  rw [fQ ho hc,fU hv]
  simp only [builtin,Sem.run_bind,hrr,Result.andThen_ok,Sem.run_pure]
 have base : ∀ (u : Value) (n : Int),v = u -> ((d = .string /\ ∃ s,u = .string s /\ n = s.size) \/ (∃ el,d = .slice el) /\ (∃ b m cp,u = .slice b m cp /\ n = m) \/ (∃ p q,d = .map p q) /\ u = .map none /\ n = 0) ->
   (execOp a.eval o).run P c.w = .ok (.value (.int .i64 n)) c.w:=by
  rintro u n rfl hcases
  refine run _ ?_
  unfold Builtin.len_
  rcases hcases with ⟨rfl,s,rfl,rfl⟩ | ⟨⟨el,rfl⟩,b,m,cp,rfl,rfl⟩ | ⟨⟨p,q,rfl⟩,rfl,rfl⟩
  ·simp only [hat,List.getElem?_toArray,List.getElem?_cons_zero,Sem.run_bind,run_underlying hd,Result.andThen_ok,Sem.run_pure,goInt]
  ·simp only [hat,List.getElem?_toArray,List.getElem?_cons_zero,Sem.run_bind,run_underlying hd,Result.andThen_ok,Sem.run_pure,goInt]
  ·simp only [hat,List.getElem?_toArray,List.getElem?_cons_zero,Sem.run_bind,run_underlying hd,Result.andThen_ok,Sem.run_pure,goInt]
 unfold IJ at h
 split at h
 ·rename_i el hi
  obtain rfl:=bC (hdd.trans hi)
  exact .pure hr (base _ 0 (nC hA) (.inr (.inl ⟨⟨_,rfl⟩,_,_,_,rfl,rfl⟩))) (aS (bT (oZ (n:=0) (by simp [maxL])))) h
 ·rename_i el sz l tok hi
  obtain rfl:=bC (hdd.trans hi)
  obtain ⟨h1,h2⟩:=Ep hA
  refine .pure hr (base v l.length rfl (.inr (.inl ⟨⟨_,rfl⟩,?_⟩))) (aS (bT (oZ h1))) h
  rcases h2 with ⟨rfl,e⟩ | ⟨ad,cap,e,_⟩
  ·exact ⟨_,_,_,e,rfl⟩
  ·exact ⟨_,_,_,e,rfl⟩
 ·rename_i el j off len cap sz hi
  obtain rfl:=bC (hdd.trans hi)
  obtain ⟨_,e,h1,h2⟩:=vK hA
  exact .pure hr (base _ len e (.inr (.inl ⟨⟨_,rfl⟩,_,_,_,rfl,rfl⟩))) (aS (bT (oZ (Nat.le_trans h1 h2)))) h
 ·rename_i s hi
  obtain rfl:=lF (hdd.trans hi)
  obtain ⟨e,h1⟩:=NS hA
  exact .pure hr (base _ s.length e (.inl ⟨rfl,_,rfl,by simp [ByteArray.size]⟩)) (aS (bT (oZ h1))) h
 ·rename_i p q hi
  obtain rfl:=qX (hdd.trans hi)
  exact .pure hr (base _ 0 (Xw hA) (.inr (.inr ⟨⟨_,_,rfl⟩,rfl,rfl⟩))) (aS (bT (oZ (n:=0) (by simp [maxL])))) h
 ·exact h.elim

theorem SV {cl : Call} {A B : AV} (hr : HR c H) (ho : o.op = .call cl) (hc : cl.callee = .builtin .max) {v u : Value} (hv : cl.args.toList.map a.eval = [v,u]) (hA : EV c A v) (hB : EV c B u)
  (h : MQ A B fun R=>k R H) : bU P o a.eval c H k ks:=by
 unfold MQ at h
 split at h
 ·rename_i ka m kb n
  split at h
  ·obtain rfl:=fK ‹_›
   obtain ⟨rfl,r1⟩:=iT hA
   obtain ⟨rfl,r2⟩:=iT hB
   refine .pure hr (v:=.int ka (max m n)) ?_ (aS (bT ?_)) h
   ·rw [fQ ho hc,fU hv]
    have : (if n > m then n else m) = max m n:=by omega
    simp [builtin,Builtin.max_,Builtin.max2,this]
   ·unfold rZ at *; omega
  ·exact h.elim
 ·exact h.elim

theorem SS {cl : Call} {A B : AV} (hr : HR c H) (ho : o.op = .call cl) (hc : cl.callee = .builtin .min) {v u : Value} (hv : cl.args.toList.map a.eval = [v,u]) (hA : EV c A v) (hB : EV c B u)
  (h : AY A B fun R=>k R H) : bU P o a.eval c H k ks:=by
 unfold AY at h
 split at h
 ·rename_i ka m kb n
  split at h
  ·obtain rfl:=fK ‹_›
   obtain ⟨rfl,r1⟩:=iT hA
   obtain ⟨rfl,r2⟩:=iT hB
   refine .pure hr (v:=.int ka (min m n)) ?_ (aS (bT ?_)) h
   ·rw [fQ ho hc,fU hv]
    have : (if n < m then n else m) = min m n:=by omega
    simp [builtin,Builtin.min_,Builtin.min2,this]
   ·unfold rZ at *; omega
  ·exact h.elim
 ·exact h.elim

theorem V8 {cl : Call} {A B C : AV} (hr : HR c H) (ho : o.op = .call cl) (hc : cl.callee = .builtin .min) {v u x : Value} (hv : cl.args.toList.map a.eval = [v,u,x]) (hA : EV c A v) (hB : EV c B u) (hC : EV c C x)
  (h : AY A B fun R=>AY R C fun R=>k R H) : bU P o a.eval c H k ks:=by
 unfold AY at h
 split at h
 ·rename_i ka m kb n
  split at h
  ·obtain rfl:=fK ‹_›
   obtain ⟨rfl,r1⟩:=iT hA
   obtain ⟨rfl,r2⟩:=iT hB
   split at h
   ·rename_i kc p kd q he
    injection he with e1 e2
    subst e1 e2
    split at h
    ·obtain rfl:=fK ‹_›
     obtain ⟨rfl,r3⟩:=iT hC
     refine .pure hr (v:=.int ka (min (min m n) q)) ?_ (aS (bT ?_)) h
     ·rw [fQ ho hc,fU hv]
      have h1 : (if n < m then n else m) = min m n:=by omega
      have h2 : (if q < min m n then q else min m n) = min (min m n) q:=by omega
      simp [builtin,Builtin.min_,Builtin.min2,h1,h2]
     ·unfold rZ at *; omega
    ·exact h.elim
   ·exact h.elim
  ·exact h.elim
 ·exact h.elim

end
end Go.AL

namespace Go.AL

section
variable {P : Program} {L : Lay} {c : Cx} {H : Heap} {e : Env} {a : Act} {k : AV -> Heap -> Prop} {ks : Heap -> Prop} {o : Oper}

theorem CU (z : Array Value) (m : Nat) (_hz : 0 < z.size) : (madeCells z ((m + 1) * z.size)).toList = z.toList ++ (madeCells z (m * z.size)).toList:=by
 unfold madeCells
 simp only [Array.toList_map,Array.toList_range]
 have e1 : (m + 1) * z.size = z.size + m * z.size:=by rw [Nat.add_mul]; omega
 rw [e1,List.range_add,List.map_append,List.map_map]
 congr 1
 ·apply List.ext_getElem
  ·simp
  ·intro i h1 h2
   simp at h1 h2
   simp [Nat.mod_eq_of_lt h1,h1]
 ·apply List.map_congr_left
  intro x _
  simp

theorem LD {w : World} {Im : Nat -> Nat -> Prop} {z : AV} {v : Value} (hv : Rd w Im z v.cells.toList) : ∀ (m : Nat),rX w Im (flat z) (List.replicate m z) (madeCells v.cells (m * flat z)).toList:=by
 have hsz : v.cells.size = flat z:=by rw [<- Array.length_toList]; exact bW _ _ hv
 intro m
 rcases Nat.eq_zero_or_pos (flat z) with h0 | hp
 ·have : (madeCells v.cells (m * flat z)).toList = []:=by rw [h0]; simp [madeCells]
  rw [this]
  have hvz : v.cells.toList = []:=List.eq_nil_of_length_eq_zero (by rw [Array.length_toList,hsz,h0])
  induction m with
  | zero=>rfl
  | succ m ih=>exact ⟨[],[],rfl,by simp [h0],by rw [<- hvz]; exact hv,ih (by rw [h0]; simp [madeCells])⟩
 ·induction m with
  | zero=>simp [madeCells,rX]
  | succ m ih =>
    have:=CU v.cells m (by omega)
    rw [hsz] at this
    rw [this]
    exact ⟨_,_,rfl,by rw [Array.length_toList,hsz],hv,ih⟩

theorem RG {w : World} {Im : Nat -> Nat -> Prop} {sz n m : Nat} {z : AV} {cs : List Value} (h : rX w Im sz (List.replicate m z) cs) (hn : n <= m) :
  rX w Im sz (List.replicate n z) (cs.take (n * sz)):=by
 have:=uj n h
 rwa [List.take_replicate,Nat.min_eq_left hn] at this

theorem Hw (hL : bZ P L) {t : Nat} {x y : Operand} (hr : HR c H) (he : fC c e a) (hx : bf x = true) (hy : bf y = true) (ho : o.op = .makeSlice t x y)
  (h : bP e x fun A=>bP e y fun B=>L.bg t fun i=>(match i.desc,A,B with
  | .slice el,.int _ n,.int _ m=>L.bg el fun ei=>(0 <= n /\ n <= m /\ m * (ei.bytes : Int) <= 281474976710656 /\ m <= 9223372036854775807) /\
    PY m.toNat n.toNat (flat ei.zero) ei.zero H k
  | _,_,_=>False)) : bU P o a.eval c H k ks:=by
 obtain ⟨A,hA,h⟩:=aH he hx h
 obtain ⟨B,hB,h⟩:=aH he hy h
 obtain ⟨i,hT,h⟩:=Lay.aT hL h
 obtain ⟨d,hd,hdd⟩:=hT.under
 split at h
 ·rename_i el ka n kb m hi _ _
  obtain rfl:=bC (hdd.trans hi)
  obtain ⟨ei,hE,⟨h0,h1,h2,h3⟩,h⟩:=Lay.aT hL h
  obtain ⟨e1,_⟩:=iT hA
  obtain ⟨e2,_⟩:=iT hB
  obtain ⟨info,z,g1,g2,g3,g4,g5,g6⟩:=hE.info
  have hrun:=run_make (P:=P) c.w t el info z hd g1 g4 ka kb n m h0 h1 (by rw [g3,Int.mul_comm]; exact h2) h3
  rw [g2] at hrun
  have hex : (execOp a.eval o).run P c.w = .ok (.value (.slice (some ⟨c.w.heap.size,0,none⟩) n.toNat m.toNat)) (c.w.alloc (.cells (madeCells z.cells (m.toNat * flat ei.zero)) el)):=by
   unfold execOp; rw [ho]
   simp only [e1,e2,Sem.run_bind,hrun,Result.andThen_ok,Sem.run_pure]
  have hcs : ∀ w Im,rX w Im (flat ei.zero) (List.replicate m.toNat ei.zero) (madeCells z.cells (m.toNat * flat ei.zero)).toList:=fun w Im=>LD (g6 w Im) _
  cases h with
  | pure h =>
    refine .inl ⟨_,c.alloc _,_,H,hex,Tr.alloc hr _,aS (dJ rfl rfl ?_),h.2⟩
    simp only [VR,Rd]
    have hnm : n.toNat = m.toNat:=h.1
    refine ⟨⟨by simp [maxL]; omega,.inr ⟨⟨c.w.heap.size,0,none⟩,m.toNat,by simp,by simp; omega,by simp [maxL]; omega,fun _=>rfl,?_⟩⟩,⟨some ⟨c.w.heap.size,0,none⟩,by simp [hnm]⟩⟩
    rw [hnm]
    refine jF (hcs _ _) fun j v hj=>⟨?_,.inr rfl⟩
    rw [Nat.zero_add]
    show (c.w.alloc _).cell? ⟨c.w.heap.size,j,none⟩ = _
    rw [cell_of_heap (alloc_heap_new c.w _),<- Array.getElem?_toList]; exact hj
  | wr h =>
    have htr : Tr c H (c.push (.cells (madeCells z.cells (m.toNat * flat ei.zero)) el) ((nextId H,.arr (flat ei.zero) m.toNat (List.replicate n.toNat ei.zero)) :: H)) ((nextId H,.arr (flat ei.zero) m.toNat (List.replicate n.toNat ei.zero)) :: H):=by
     refine Tr.push hr _ _ (fun _=>rfl) ?_
     refine ⟨(madeCells z.cells (m.toNat * flat ei.zero)).toList,el,?_,?_,by simp; omega,by simp [maxL]; omega,?_,?_⟩
     ·rw [oUρ hr]; simp only [Cx.push,Array.toArray_toList]; exact alloc_heap_new _ _
     ·rw [Array.length_toList,size_madeCells]
     ·have h5:=RG (n:=n.toNat) (hcs (c.push (.cells (madeCells z.cells (m.toNat * flat ei.zero)) el) ((nextId H,.arr (flat ei.zero) m.toNat (List.replicate n.toNat ei.zero)) :: H)).w (c.push (.cells (madeCells z.cells (m.toNat * flat ei.zero)) el) ((nextId H,.arr (flat ei.zero) m.toNat (List.replicate n.toNat ei.zero)) :: H)).Im) (by omega)
      have h6:=lK (c:=c.push (.cells (madeCells z.cells (m.toNat * flat ei.zero)) el) ((nextId H,.arr (flat ei.zero) m.toNat (List.replicate n.toNat ei.zero)) :: H)) (rest:=(madeCells z.cells (m.toNat * flat ei.zero)).toList.drop (n.toNat * flat ei.zero)) h5
      rwa [List.take_append_drop] at h6
     ·intro y hy
      rw [oUρ hr] at hy
      have:=hr.im _ _ hy
      omega
    refine .inl ⟨_,_,_,_,hex,htr,aS (dJ rfl rfl ?_),h⟩
    simp only [VR]
    rw [oUρ hr]
    refine ⟨by simp only [Cx.push,hr.nx]; omega,by simp,by omega,by simp [maxL]; omega⟩
 ·exact h.elim

end
end Go.AL

namespace Go.AL

structure Src (P : Program) (sz : Nat) (w : World) (x : Value) (m : Nat) (news : List Value) : Prop where
 len : ∀ w',(Builtin.lenOf x).run P w' = .ok m w'
 cells : ∀ n',(Builtin.firstCells sz m x).run P { w with drawn:=n' } = .ok news.toArray { w with drawn:=n' }

section
variable {P : Program} {w : World} {t u ty el sz : Nat} {info : TypeInfo} {z : Value} {base : Option Addr} {n cap m : Nat} {x : Value} {news : List Value}

theorem mZ {d : TypeDesc} (ht : P.underlying t = some (.slice el)) (hu : P.underlying u = some d) (hd : (∃ e,d = .slice e) \/ d = .string) (hi : P.info? el = some info) (hs : info.size = sz)
  (hx : Src P sz w x m news) (hc : n + m <= cap) {w' : World}
  (hst : ∀ ad,base = some ad -> (storeCells (ad.add (n * sz)) news).run P w = .ok () w') (hno : base = none -> w' = w) :
  (Builtin.append_ #[t,u] ty #[.slice base n cap,x]).run P w = .ok (.slice base (n + m) cap) w':=by
 have h1:=hx.len w
 have h2:=hx.cells w.drawn
 have hsz : (sizeOf el).run P w = .ok sz w:=by unfold sizeOf typeInfo; simp [hi,hs]
 unfold Builtin.append_
 simp only [List.getElem?_toArray,List.getElem?_cons_zero,List.getElem?_cons_succ,Sem.run_bind,run_underlying ht,run_underlying hu,Result.andThen_ok,hsz,Sem.run_pure]
 rcases hd with ⟨e',rfl⟩ | rfl
 all_goals
  simp only [Bool.false_eq_true,if_false,Bool.not_false,if_true,h1,Result.andThen_ok,hc,Sem.run_bind]
  have h2' : (Builtin.firstCells sz m x).run P w = .ok news.toArray w:=h2
  simp only [h2',Result.andThen_ok]
  cases base with
  | none=>obtain rfl:=hno rfl; rfl
  | some ad =>
    simp only [Sem.run_bind,hst ad rfl,Result.andThen_ok]
    rfl

theorem qM {d : TypeDesc} (ht : P.underlying t = some (.slice el)) (hu : P.underlying u = some d) (hd : (∃ e,d = .slice e) \/ d = .string) (hi : P.info? el = some info) (hs : info.size = sz) (hz : info.zero = some z)
  (hx : Src P sz w x m news) (hc : cap < n + m) (hm : n + m <= maxL) (hb : (n + m) * info.bytes <= 140737488355328) {olds : List Value}
  (hold : ∀ n',(Builtin.firstCells sz n (.slice base n cap)).run P { w with drawn:=n' } = .ok olds.toArray { w with drawn:=n' }) :
  (Builtin.append_ #[t,u] ty #[.slice base n cap,x]).run P w = .ok (.slice (some ⟨w.heap.size,0,none⟩) (n + m) (grownCap w (n + m) cap el))
   (w.drew.alloc (.cells (olds.toArray ++ news.toArray ++ Builtin.zeroCells z.cells (grownCap w (n + m) cap el - (n + m))) el)):=by
 have h1:=hx.len w
 have h2 : (Builtin.firstCells sz m x).run P w.drew = .ok news.toArray w.drew:=hx.cells (w.drawn + 1)
 have h3 : (Builtin.firstCells sz n (.slice base n cap)).run P w.drew = .ok olds.toArray w.drew:=hold (w.drawn + 1)
 have hsz : (sizeOf el).run P w = .ok sz w:=by unfold sizeOf typeInfo; simp [hi,hs]
 have hti : ∀ w,(typeInfo el).run P w = .ok info w:=by intro w; unfold typeInfo; simp [hi]
 have hzv : ∀ w,(zeroValue el).run P w = .ok z w:=by intro w; unfold zeroValue; simp [hti,hz]
 have hfit:=growslice_fits hc hb
 have e1 : ¬ (n + m <= cap):=by omega
 have e2 : ¬ (((n + m : Nat) : Int) > IntKind.i64.max /\ (False \/ info.bytes = 0)):=by
  rintro ⟨h,_⟩
  simp [IntKind.max,IntKind.signed,IntKind.bits] at h
  unfold maxL at hm; omega
 have e3 : ¬ (Builtin.nextslicecap (n + m) cap * info.bytes > 2 ^ 48):=by
  have : (2 : Nat) ^ 48 = 281474976710656:=by decide
  omega
 unfold Builtin.append_
 simp only [List.getElem?_toArray,List.getElem?_cons_zero,List.getElem?_cons_succ,Sem.run_bind,run_underlying ht,run_underlying hu,Result.andThen_ok,hsz,Sem.run_pure]
 rcases hd with ⟨e',rfl⟩ | rfl
 all_goals
  simp only [Bool.false_eq_true,if_false,Bool.not_false,if_true,h1,Result.andThen_ok,e1,Sem.run_bind,hti]
  simp only [e2,if_false,e3,Result.andThen_ok,run_choose,Question.forced,Bool.false_eq_true,Sem.run_bind,hti,run_askRoom,World.drew_eq,h3,h2,hzv,newRow,run_newObj,Sem.run_pure,World.alloc_eq]
  rfl
end

theorem Src.slice {P : Program} {c : Cx} {sz : Nat} {ad : Addr} {m cp : Nat} {news : List Value} (hl : news.length = m * sz) (h : ∀ j v,news[j]? = some v -> c.w.cell? (ad.add j) = some v) :
  Src P sz c.w (.slice (some ad) m cp) m news :=
 ⟨fun _=>rfl,fun n'=>run_firstCells_some (P:=P) { c.w with drawn:=n' } sz m ad m cp news hl h⟩

theorem Src.nil {P : Program} {w : World} {sz cp : Nat} : Src P sz w (.slice none 0 cp) 0 []:=⟨fun _=>rfl,fun _=>rfl⟩

theorem Src.str {P : Program} {w : World} (s : List UInt8) : Src P 1 w (.string ⟨s.toArray⟩) s.length (s.map fun b=>Value.int .u8 b.toNat):=by
 refine ⟨fun _=>by simp [Builtin.lenOf,ByteArray.size],fun n'=>?_⟩
 simp only [Builtin.firstCells,Sem.run_pure]
 congr 1
 have : (ByteArray.extract ⟨s.toArray⟩ 0 s.length).data = s.toArray:=by
  simp [ByteArray.data_extract]
 rw [this]
 simp

section
variable {P : Program} {L : Lay} {c : Cx} {H : Heap} {e : Env} {a : Act} {k : AV -> Heap -> Prop} {ks : Heap -> Prop} {o : Oper}

theorem wO {w : World} {b off : Nat} {ad : Addr} {cs : List Value} (h1 : ad.block = b) (h2 : ad.off = off) (h3 : cs ≠ [] -> ad.spot = none)
  (h : ∀ j v,cs[j]? = some v -> w.cell? ⟨b,off + j,none⟩ = some v) : ∀ j v,cs[j]? = some v -> w.cell? (ad.add j) = some v:=by
 intro j v hj
 have hne : cs ≠ []:=by intro e; subst e; simp at hj
 have : ad = ⟨b,off,none⟩:=by cases ad; simp_all
 rw [this,addr_add]; exact h j v hj

theorem jA (hr : HR c H) {sz : Nat} {B : AV} {x : Value} {k : List AV -> Prop} (hB : EV c B x) (h : vP H sz B k) :
  ∃ l news,Src P sz c.w x l.length news /\ rX c.w c.Im sz l news /\ k l:=by
 unfold vP at h
 split at h
 ·obtain rfl:=nC hB
  exact ⟨[],[],Src.nil,rfl,h⟩
 ·rename_i sz' l tok
  obtain ⟨hs,hk⟩:=bn.1 h
  subst hs
  obtain ⟨h1,h2⟩:=Ep hB
  rcases h2 with ⟨rfl,rfl⟩ | ⟨ad,cap,rfl,_,_,hsp,hre⟩
  ·exact ⟨[],[],Src.nil,rfl,hk⟩
  ·obtain ⟨news,g1,g2⟩:=rF hre
   refine ⟨l,news,Src.slice (dK g1) (wO rfl rfl (fun hne=>hsp (fun e=>?_)) g2),g1,hk⟩
   subst e; exact hne g1
 ·rename_i j off len cap sz'
  obtain ⟨ob,hob,h⟩:=cZ.1 h
  have hok:=hr.oK hob
  split at h
  ·rename_i RZ cp l
   obtain ⟨hs,h⟩:=bn.1 h
   subst hs
   obtain ⟨hs,hin,hk⟩:=bn.1 h
   subst hs
   obtain ⟨_,e,hlc,hcm⟩:=vK hB
   subst e
   obtain ⟨cs,ty,g1,g2,g3,g4,g5,g6⟩:=hok
   obtain ⟨a',d',rfl,g7⟩:=kC g5
   have hl : ((l.drop off).take len).length = len:=by simp; omega
   have hf:=uj len (EI off g7 (by omega))
   have hal:=dK g7
   refine ⟨(l.drop off).take len,(a'.drop (off * RZ)).take (len * RZ),?_,hf,hk⟩
   rw [hl]
   refine Src.slice (by rw [dK hf,hl]) fun x v hx=>?_
   rw [List.getElem?_take] at hx
   split at hx
   ·rw [List.getElem?_drop] at hx
    rw [addr_add]
    simp only [World.cell?,g1]
    have : off * RZ + x < a'.length:=(List.getElem?_eq_some_iff.1 hx).1
    simp [List.getElem?_append_left this,hx]
   ·simp at hx
  ·exact h.elim
 ·rename_i s
  obtain ⟨hs,hk⟩:=bn.1 h
  subst hs
  obtain ⟨rfl,h1⟩:=NS hB
  refine ⟨s.map fun b=>.int .u8 b.toNat,s.map fun b=>Value.int .u8 b.toNat,by simpa using Src.str (P:=P) s,?_,hk⟩
  clear h h1 hB hk
  induction s with
  | nil=>rfl
  | cons b s ih =>
    refine ⟨[.int .u8 b.toNat],s.map fun b=>Value.int .u8 b.toNat,rfl,rfl,?_,ih⟩
    simp only [Rd]
    have:=b.toNat_lt
    refine ⟨trivial,?_⟩
    simp [rZ,IntKind.min,IntKind.max,IntKind.signed,IntKind.bits]; omega
 ·exact h.elim
end
end Go.AL

namespace Go.AL

theorem Gf : ∀ {H : Heap} {k : Nat} {o : HO},hget H k = some o -> hset H k o = H
 | [],_,_,h=>by simp [hget] at h
 | (i,x) :: H,k,o,h=>by
   simp only [hget] at h
   simp only [hset]
   cases hb : Nat.beq i k with
   | true=>rw [hb] at h; simp at h; subst h; rfl
   | false=>rw [hb] at h; simp only [Gf h]

theorem yQ {H : Heap} {k sz n : Nat} {o : HO} (hk : hget H k = some o) : dw (hset H k (.tok sz n)) k = some n:=by
 unfold dw; rw [jL hk]

theorem mY {H : Heap} {k j : Nat} {o : HO} (h : j ≠ k) : dw (hset H k o) j = dw H j:=by
 unfold dw; rw [qR h]

theorem Qi {c : Cx} {H : Heap} {j sz : Nat} {l : List AV} {v : Value} (hr : HR c H) (hk : hget H j = some (.tok sz l.length)) (hV : VV c (.sl sz l (.own j)) v) :
  v = .slice (c.tk j).1 l.length (c.tk j).2 /\ l.length <= (c.tk j).2 /\ (c.tk j).2 <= maxL /\ j < c.nx /\ Rd c.w c.Im (.sl sz l .no) v.cells.toList /\
  (((c.tk j).1 = none /\ l = [] /\ (c.tk j).2 = 0) \/ ∃ ad,(c.tk j).1 = some ad /\ (l ≠ [] -> ad.spot = none) /\ qG c.w c.Im sz ad.block l ad.off):=by
 have hv:=hV.1.2 rfl
 have h2:=hV.2
 simp only [VR] at h2
 obtain ⟨h3,h4,h5⟩:=h2
 have htp : c.tp j = some l.length:=by rw [hr.tp]; unfold dw; rw [hk]
 have h6:=(h5 _ htp).2 rfl
 have e : v = .slice (c.tk j).1 l.length (c.tk j).2:=cells_one hv h6
 obtain ⟨h7,h8⟩:=Ep hV
 refine ⟨e,?_,?_,h3,h4,?_⟩
 ·rcases h8 with ⟨rfl,h8⟩ | ⟨ad,cap,h8,h9,_⟩
  ·simp
  ·rw [e] at h8; injection h8 with _ _ h8; omega
 ·rcases h8 with ⟨rfl,h8⟩ | ⟨ad,cap,h8,h9,h10,_⟩
  ·rw [e] at h8; injection h8 with _ _ h8; rw [h8]; simp [maxL]
  ·rw [e] at h8; injection h8 with _ _ h8; omega
 ·rcases h8 with ⟨rfl,h8⟩ | ⟨ad,cap,h8,h9,h10,h11,h12⟩
  ·rw [e] at h8; injection h8 with g1 _ g2; exact .inl ⟨g1,rfl,g2⟩
  ·rw [e] at h8; injection h8 with g1 _ g2; exact .inr ⟨ad,g1,h11,h12⟩

theorem MF {c : Cx} {j sz : Nat} {l : List AV} {b : Option Addr} {cap : Nat} (hj : j < c.nx) (hr : Rd c.w c.Im (.sl sz l .no) [.slice b l.length cap]) (htp : c.tp j = some l.length) (htk : c.tk j = (b,cap)) :
  VV c (.sl sz l (.own j)) (.slice b l.length cap):=by
 refine dJ rfl rfl ?_
 simp only [VR]
 refine ⟨hj,hr,fun n hn=>?_⟩
 rw [htp] at hn
 obtain rfl:=Option.some.inj hn
 exact ⟨Nat.le_refl _,fun _=>by rw [htk]⟩

section
variable {P : Program} {c : Cx} {H : Heap} {t u ty el sz j : Nat} {info : TypeInfo} {z : Value} {l m : List AV} {v x : Value} {news : List Value}

theorem BG {d : TypeDesc} (hr : HR c H) (hk : hget H j = some (.tok sz l.length)) (hV : VV c (.sl sz l (.own j)) v)
  (ht : P.underlying t = some (.slice el)) (hu : P.underlying u = some d) (hd : (∃ e,d = .slice e) \/ d = .string) (hi : P.info? el = some info) (hs : info.size = sz) (hz : info.zero = some z) (hzs : z.cells.size = sz)
  (hx : Src P sz c.w x m.length news) (hm : rX c.w c.Im sz m news) (hlen : l.length + m.length <= maxL) (hroom : (l.length + m.length) * info.bytes <= 140737488355328) :
  ∃ c' v',(Builtin.append_ #[t,u] ty #[v,x]).run P c.w = .ok v' c'.w /\ Tr c H c' (hset H j (.tok sz (l.length + m.length))) /\ VV c' (.sl sz (l ++ m) (.own j)) v':=by
 obtain ⟨e,hc1,hc2,hj,JW,hb⟩:=Qi hr hk hV
 have hml:=dK hm
 have YD : c.tp j = some l.length:=by rw [hr.tp]; unfold dw; rw [hk]
 have TP : ∀ i,i ≠ j -> ∀ n,dw (hset H j (.tok sz (l.length + m.length))) i = some n -> c.tp i = some n:=fun i hi n h=>by rw [mY hi] at h; rw [hr.tp]; exact h
 by_cases hm0 : m = []
 ·subst hm0
  obtain rfl : news = []:=hm
  refine ⟨c,v,?_,?_,by simpa using hV⟩
  ·rw [e]
   have:=mZ (P:=P) (ty:=ty) (base:=(c.tk j).1) (n:=l.length) (cap:=(c.tk j).2) (w':=c.w) ht hu hd hi hs hx (by simpa using hc1) (fun _ _=>rfl) (fun _=>rfl)
   simpa using this
  ·simp only [List.length_nil,Nat.add_zero]
   rw [Gf hk]; exact .refl hr
 have XM : 0 < m.length:=List.length_pos_iff.2 hm0
 have Tt : ∀ (d : Cx),d.tp = dw (hset H j (.tok sz (l.length + m.length))) -> (∀ i,i ≠ j -> d.tk i = c.tk i) ->
   ∀ k n,k < c.nx -> d.tp k = some n -> (c.tp k = some n /\ d.tk k = c.tk k) \/ ∃ m,c.tp k = some m /\ m < n:=by
  intro d hd1 hd2 k n hkn hn
  rw [hd1] at hn
  by_cases hkj : k = j
  ·subst hkj
   rw [yQ hk] at hn
   obtain rfl:=Option.some.inj hn
   exact .inr ⟨_,YD,by omega⟩
  ·exact .inl ⟨TP k hkj n hn,hd2 k hkj⟩
 by_cases hcap : l.length + m.length <= (c.tk j).2
 ·-- within the capacity
  have hne : (c.tk j).2 ≠ l.length:=by omega
  have hok:=hr.oK hk
  rcases hok with hok | ⟨b,cs,XZ,g1,g2,g3,g4,g5,g6⟩
  ·exact absurd hok hne
  have hread : qG c.w c.Im sz b l 0:=by
   rcases hb with ⟨h1,_⟩ | ⟨ad,h1,_,h3⟩
   ·rw [h1] at g1; cases g1
   ·rw [h1] at g1; cases g1; exact h3
  have hfit : l.length * sz + news.length <= cs.size:=by
   rw [g3,hml,<- Nat.add_mul]; exact Nat.mul_le_mul_right _ hcap
  let cs':=(cs.toList.take (l.length * sz) ++ news ++ cs.toList.drop (l.length * sz + news.length)).toArray
  let d : Cx:={ c with w:=c.w.setRow b cs',Im:=fun b' o=>c.Im b' o \/ (b' = b /\ l.length * sz <= o /\ o < l.length * sz + news.length),tp:=dw (hset H j (.tok sz (l.length + m.length))) }
  have hblk : aB c (j,.tok sz l.length) = some b:=by simp [aB,hne,g1]
  have hheap : d.w.heap[b]? = some (.cells cs' XZ):=setRow_heap c.w _ _ _ _ _ g2
  have hoth : ∀ b',b' ≠ b -> d.w.heap[b']? = c.w.heap[b']?:=fun b' hb'=>setRow_other c.w _ b' _ hb'
  have hsz' : cs'.size = cs.size:=by simp [cs']; omega
  have hcell : ∀ o,o < l.length * sz -> cs'[o]? = cs[o]?:=by
   intro o ho
   simp only [cs',List.getElem?_toArray]
   rw [List.append_assoc,List.getElem?_append_left (by simp; omega),List.getElem?_take,if_pos ho,Array.getElem?_toList]
  have hnews : ∀ i v,news[i]? = some v -> cs'[l.length * sz + i]? = some v:=by
   intro i v hv
   have hi:=(List.getElem?_eq_some_iff.1 hv).1
   have hlt : (cs.toList.take (l.length * sz)).length = l.length * sz:=by simp; omega
   simp only [cs',List.getElem?_toArray]
   have:=xP (cs.toList.take (l.length * sz)) news (cs.toList.drop (l.length * sz + news.length)) hv
   rwa [hlt] at this
  have le : c.Le d:=by
   refine ⟨fun b' o h=>⟨.inl h,?_⟩,Nat.le_refl _,fun _ _=>rfl,Tt d rfl fun _ _=>rfl⟩
   by_cases hbb : b' = b
   ·subst hbb
    have : o < l.length * sz:=Nat.lt_of_not_le fun hle=>g6 o hle h
    rw [cell_of_heap hheap,cell_of_heap g2,hcell o this]
   ·exact gG (hoth b' hbb)
  have hst : (storeCells ((⟨b,0,none⟩ : Addr).add (l.length * sz)) news).run P c.w = .ok () d.w:=by
   have:=run_storeCells_at P b (l.length * sz) XZ news 0 cs c.w g2 (by simpa using hfit) (pF hm)
   simp only [Nat.add_zero] at this
   rw [addr_add,Nat.zero_add]
   exact this
  refine ⟨d,.slice (c.tk j).1 (l.length + m.length) (c.tk j).2,?_,?_,?_⟩
  ·rw [e]
   exact mZ (P:=P) (ty:=ty) ht hu hd hi hs hx hcap (fun ad had=>by rw [g1] at had; cases had; exact hst) (fun h=>by rw [g1] at h; cases h)
  ·refine Tr.set hr hk le rfl rfl (fun _ _=>rfl) rfl rfl rfl (by simp [d]) (fun b' _ hn=>hoth b' (fun e=>hn (by rw [hblk,e]))) ?_ ?_ ?_
   ·rintro b' o (h | ⟨rfl,_⟩)
    ·exact .inl h
    ·exact .inr (.inr hblk)
   ·intro b' h
    refine .inr ?_
    simp only [aB,d] at h
    split at h
    ·cases h
    ·rw [hblk]; rw [g1] at h; exact h
   ·by_cases htop : (c.tk j).2 = l.length + m.length
    ·exact .inl htop
    ·refine .inr ⟨b,cs',XZ,g1,hheap,by rw [hsz',g3],hcap,g5,?_⟩
     rintro o ho (h | ⟨_,_,h⟩)
     ·exact g6 o (Nat.le_trans (Nat.mul_le_mul_right _ (Nat.le_add_right _ _)) ho) h
     ·rw [hml,<- Nat.add_mul] at h; omega
  ·have hR : Rd d.w d.Im (.sl sz (l ++ m) .no) [.slice (some ⟨b,0,none⟩) (l ++ m).length (c.tk j).2]:=by
    simp only [Rd]
    refine ⟨by simpa using hlen,.inr ⟨⟨b,0,none⟩,_,rfl,by simpa using hcap,g5,fun _=>rfl,EK (EJ le.im _ _ _ _ hread) ?_⟩⟩
    refine jF (fB le.im hm) fun i v hv=>⟨?_,.inr ⟨rfl,by show _ <= 0 + l.length * sz + i; omega,by have:=(List.getElem?_eq_some_iff.1 hv).1; show 0 + l.length * sz + i < _; omega⟩⟩
    rw [cell_of_heap hheap,Nat.zero_add]
    exact hnews i v hv
   have:=MF (c:=d) (j:=j) hj hR (by show dw _ j = _; rw [yQ hk]; simp) (by show c.tk j = _; rw [<- g1])
   rw [List.length_append] at this
   rw [g1]; exact this
 ·-- a new block
  obtain ⟨olds,ho1,ho2⟩ : ∃ olds,rX c.w c.Im sz l olds /\ Src P sz c.w (.slice (c.tk j).1 l.length (c.tk j).2) l.length olds:=by
   rcases hb with ⟨h1,rfl,h3⟩ | ⟨ad,h1,h2,h3⟩
   ·exact ⟨[],rfl,by rw [h1]; exact ⟨fun _=>rfl,fun _=>rfl⟩⟩
   ·obtain ⟨olds,g1,g2⟩:=rF h3
    refine ⟨olds,g1,?_⟩
    rw [h1]
    exact Src.slice (dK g1) (wO rfl rfl (fun hne=>h2 (fun e=>by subst e; exact hne g1)) g2)
  have hol:=dK ho1
  have hge:=grownCap_ge c.w (l.length + m.length) (c.tk j).2 el
  have hle:=grownCap_le_maxLen c.w (l.length + m.length) (c.tk j).2 el (by simpa [maxL,maxLen] using hlen)
  have hle' : grownCap c.w (l.length + m.length) (c.tk j).2 el <= maxL:=by simpa [maxL,maxLen] using hle
  have hrun:=qM (P:=P) (ty:=ty) ht hu hd hi hs hz hx (by omega : (c.tk j).2 < l.length + m.length) hlen hroom ho2.cells
  generalize hcp : grownCap c.w (l.length + m.length) (c.tk j).2 el = cap' at hge hle' hrun
  let cs:=olds.toArray ++ news.toArray ++ Builtin.zeroCells z.cells (cap' - (l.length + m.length))
  let d : Cx:={ c with w:=c.w.drew.alloc (.cells cs el),Im:=fun b o=>c.Im b o \/ (b = c.w.heap.size /\ o < (l.length + m.length) * sz),
                       tk:=fun k=>if k = j then (some ⟨c.w.heap.size,0,none⟩,cap') else c.tk k,tp:=dw (hset H j (.tok sz (l.length + m.length))) }
  have hnew : d.w.heap[c.w.heap.size]? = some (.cells cs el):=alloc_heap_new c.w.drew _
  have hold : ∀ b,b < c.w.heap.size -> d.w.heap[b]? = c.w.heap[b]?:=fun b hb=>eF c.w.drew _ hb
  have xK : d.tk j = (some ⟨c.w.heap.size,0,none⟩,cap'):=by simp [d]
  have hcs : cs.size = cap' * sz:=by
   simp only [cs,Array.size_append,List.size_toArray,hol,hml,size_zeroCells,hzs]
   rw [<- Nat.add_mul,<- Nat.add_mul]; congr 1; omega
  have le : c.Le d:=by
   refine ⟨fun b o h=>⟨.inl h,gG (hold b (hr.im b o h))⟩,Nat.le_refl _,fun _ _=>rfl,Tt d rfl fun i hi=>by simp [d,hi]⟩
  refine ⟨d,_,by rw [e]; exact hrun,?_,?_⟩
  ·refine Tr.set hr hk le rfl rfl (fun i hi=>by simp [d,hi]) rfl rfl rfl (by simp [d]) (fun b hb _=>hold b hb) ?_ ?_ ?_
   ·rintro b o (h | ⟨rfl,_⟩)
    ·exact .inl h
    ·exact .inr (.inl ⟨Nat.le_refl _,by simp [d]⟩)
   ·intro b h
    refine .inl ?_
    simp only [aB,xK] at h
    split at h
    ·cases h
    ·simp at h; omega
   ·by_cases htop : cap' = l.length + m.length
    ·exact .inl (by rw [xK]; exact htop)
    ·refine .inr ⟨c.w.heap.size,cs,el,by rw [xK],hnew,by rw [xK]; exact hcs,by rw [xK]; exact hge,by rw [xK]; exact hle',?_⟩
     rintro o ho (h | ⟨_,h⟩)
     ·exact absurd (hr.im _ _ h) (by omega)
     ·omega
  ·have hR : Rd d.w d.Im (.sl sz (l ++ m) .no) [.slice (some ⟨c.w.heap.size,0,none⟩) (l ++ m).length cap']:=by
    simp only [Rd]
    refine ⟨by simpa using hlen,.inr ⟨⟨c.w.heap.size,0,none⟩,_,rfl,by simpa using hge,hle',fun _=>rfl,?_⟩⟩
    refine jF (oI (fB le.im ho1) (fB le.im hm)) fun i v hv=>?_
    have hi:=(List.getElem?_eq_some_iff.1 hv).1
    refine ⟨?_,.inr ⟨rfl,by rw [List.length_append,hol,hml,<- Nat.add_mul] at hi; show 0 + i < _; omega⟩⟩
    rw [cell_of_heap hnew,Nat.zero_add]
    have : cs[i]? = (olds ++ news)[i]?:=by
     rw [<- Array.getElem?_toList]
     simp only [cs,Array.toList_append]
     rw [List.getElem?_append_left hi]
    rw [this]; exact hv
   have:=MF (c:=d) (j:=j) hj hR (by show dw _ j = _; rw [yQ hk]; simp) xK
   rw [List.length_append] at this
   exact this
end

theorem Tr.yR {c : Cx} {H : Heap} {sz : Nat} {l : List AV} {base : Option Addr} (hr : HR c H) (JW : Rd c.w c.Im (.sl sz l .no) [.slice base l.length l.length]) :
  ∃ d,d.w = c.w /\ Tr c H d ((nextId H,.tok sz l.length) :: H) /\ VV d (.sl sz l (.own (nextId H))) (.slice base l.length l.length):=by
 let d : Cx:={ c with nx:=c.nx + 1,tk:=fun k=>if k = c.nx then (base,l.length) else c.tk k,tp:=dw ((nextId H,.tok sz l.length) :: H) }
 have hlt : ∀ x ∈ H,x.1 < c.nx:=fun x hx=>by rw [hr.nx]; exact bF hr.ids x hx
 have htk : d.tk (nextId H) = (base,l.length):=by simp [d,hr.nx]
 have le : c.Le d:=by
  refine ⟨fun b o h=>⟨h,rfl⟩,Nat.le_succ _,fun _ _=>rfl,fun k n hk hn=>.inl ⟨?_,?_⟩⟩
  ·have : nextId H ≠ k:=by rw [<- hr.nx]; omega
   simp only [d] at hn
   rw [jG this] at hn
   rw [hr.tp]; exact hn
  ·simp only [d]; rw [if_neg (by omega)]
 have hbk : ∀ x ∈ H,aB d x = aB c x:=fun x hx=>jD rfl (by have:=hlt x hx; simp only [d]; rw [if_neg (by omega)])
 have hbn : aB d (nextId H,.tok sz l.length) = none:=by simp [aB,htk]
 refine ⟨d,rfl,⟨⟨?_,rfl,?_,hr.im,?_,?_⟩,le,rfl,rfl,rfl,Nat.le_refl _,fun _ _ _=>rfl,?_,fun _ _ h=>.inl h⟩,?_⟩
 ·simp only [d,nextId,hr.nx]
 ·exact ⟨fun x hx=>bF hr.ids x hx,hr.ids⟩
 ·intro x hx
  rcases List.mem_cons.1 hx with rfl | hx
  ·exact .inl (by rw [htk])
  ·refine mF le (hlt x hx) ?_ (fun b hb=>⟨rfl,fun y hy=>hy⟩) (hr.ok x hx)
   have:=hlt x hx; simp only [d]; rw [if_neg (by omega)]
 ·rw [List.pairwise_cons]
  constructor
  ·intro y hy b hb; rw [hbn] at hb; cases hb
  ·exact jI hr.apart fun x hx y hy h b hb=>by rw [hbk y hy]; rw [hbk x hx] at hb; exact h b hb
 ·intro y hy b hb
  rcases List.mem_cons.1 hy with rfl | hy
  ·rw [hbn] at hb; cases hb
  ·rw [hbk y hy] at hb; exact .inr ⟨y,hy,hb⟩
 ·exact MF (by simp only [d]; rw [hr.nx]; omega) JW (by show dw _ _ = _; rw [qI]) htk

theorem L9 {H : Heap} {k sz : Nat} {l : List AV} {o : HO} (hk : hget H k = some o) : dw (hset H k (.dU sz l)) k = some l.length:=by
 unfold dw; rw [jL hk]

theorem xO {c : Cx} {H : Heap} {j sz : Nat} {l : List AV} {v : Value} (hr : HR c H) (hk : hget H j = some (.dU sz l)) (hV : VV c (.gs j l.length) v) :
  v = .slice (c.tk j).1 l.length (c.tk j).2 /\ j < c.nx /\ l.length <= (c.tk j).2 /\ (c.tk j).2 <= maxL:=by
 obtain ⟨h1,_,h3⟩:=VV_gs hV
 have htp : c.tp j = some l.length:=by rw [hr.tp]; unfold dw; rw [hk]
 refine ⟨(h3 _ htp).2 rfl,h1,?_⟩
 rcases hr.oK hk with ⟨g1,g2,rfl⟩ | ⟨b,cs,ty,g1,g2,g3,g4,g5,_⟩
 ·rw [g2]; simp [maxL]
 ·exact ⟨g4,g5⟩

theorem Ua {c : Cx} {j n : Nat} {b : Option Addr} {cap : Nat} (hj : j < c.nx) (htp : c.tp j = some n) (htk : c.tk j = (b,cap)) : VV c (.gs j n) (.slice b n cap):=by
 refine dJ rfl rfl ?_
 simp only [VR]
 refine ⟨hj,⟨_,_,_,rfl⟩,fun k hk=>?_⟩
 rw [htp] at hk
 obtain rfl:=Option.some.inj hk
 exact ⟨Nat.le_refl _,fun _=>by rw [htk]⟩

section
variable {P : Program} {c : Cx} {H : Heap} {t u ty el sz j : Nat} {info : TypeInfo} {z : Value} {l m : List AV} {v x : Value} {news : List Value}

theorem Y0 {d : TypeDesc} (hr : HR c H) (hk : hget H j = some (.dU sz l)) (hV : VV c (.gs j l.length) v)
  (ht : P.underlying t = some (.slice el)) (hu : P.underlying u = some d) (hd : (∃ e,d = .slice e) \/ d = .string) (hi : P.info? el = some info) (hs : info.size = sz) (hz : info.zero = some z) (hzs : z.cells.size = sz)
  (hx : Src P sz c.w x m.length news) (hm : rX c.w c.Im sz m news) (hm0 : m ≠ []) (hlen : l.length + m.length <= maxL) (hroom : (l.length + m.length) * info.bytes <= 140737488355328) :
  ∃ c' v',(Builtin.append_ #[t,u] ty #[v,x]).run P c.w = .ok v' c'.w /\ Tr c H c' (hset H j (.dU sz (l ++ m))) /\ VV c' (.gs j (l.length + m.length)) v':=by
 obtain ⟨e,hj,hc1,hc2⟩:=xO hr hk hV
 have hml:=dK hm
 have YD : c.tp j = some l.length:=by rw [hr.tp]; unfold dw; rw [hk]
 have TP : ∀ i,i ≠ j -> ∀ n,dw (hset H j (.dU sz (l ++ m))) i = some n -> c.tp i = some n:=fun i hi n h=>by rw [mY hi] at h; rw [hr.tp]; exact h
 have XM : 0 < m.length:=List.length_pos_iff.2 hm0
 have YE : dw (hset H j (.dU sz (l ++ m))) j = some (l.length + m.length):=by rw [L9 hk]; simp
 have Tt : ∀ (d : Cx),d.tp = dw (hset H j (.dU sz (l ++ m))) -> (∀ i,i ≠ j -> d.tk i = c.tk i) ->
   ∀ k n,k < c.nx -> d.tp k = some n -> (c.tp k = some n /\ d.tk k = c.tk k) \/ ∃ m,c.tp k = some m /\ m < n:=by
  intro d hd1 hd2 k n hkn hn
  rw [hd1] at hn
  by_cases hkj : k = j
  ·subst hkj
   rw [YE] at hn
   obtain rfl:=Option.some.inj hn
   exact .inr ⟨_,YD,by omega⟩
  ·exact .inl ⟨TP k hkj n hn,hd2 k hkj⟩
 by_cases hcap : l.length + m.length <= (c.tk j).2
 ·-- within the capacity
  rcases hr.oK hk with ⟨g1,g2,_⟩ | ⟨b,cs,XZ,g1,g2,g3,g4,g5,g6,g7⟩
  ·omega
  obtain ⟨a',d',rfl,g8⟩:=kC g6
  have hal:=dK g8
  have hfit : l.length * sz + news.length <= (a' ++ d').toArray.size:=by
   rw [List.size_toArray,g3,hml,<- Nat.add_mul]; exact Nat.mul_le_mul_right _ hcap
  let cs':=((a' ++ d').toArray.toList.take (l.length * sz) ++ news ++ (a' ++ d').toArray.toList.drop (l.length * sz + news.length)).toArray
  let d : Cx:={ c with w:=c.w.setRow b cs',tp:=dw (hset H j (.dU sz (l ++ m))) }
  have hblk : aB c (j,.dU sz l) = some b:=by simp [aB,g1]
  have hheap : d.w.heap[b]? = some (.cells cs' XZ):=setRow_heap c.w _ _ _ _ _ g2
  have hoth : ∀ b',b' ≠ b -> d.w.heap[b']? = c.w.heap[b']?:=fun b' hb'=>setRow_other c.w _ b' _ hb'
  have hcs' : cs'.toList = a' ++ news ++ (a' ++ d').drop (l.length * sz + news.length):=by
   simp only [cs']
   rw [<- hal,List.take_append_of_le_length (Nat.le_refl _),List.take_length]
  have hsz' : cs'.toList.length = (a' ++ d').length:=by
   rw [hcs']; simp only [List.length_append,List.length_drop,List.size_toArray] at hfit ⊢; omega
  have le : c.Le d:=by
   refine ⟨fun b' o h=>⟨h,?_⟩,Nat.le_refl _,fun _ _=>rfl,Tt d rfl fun _ _=>rfl⟩
   by_cases hbb : b' = b
   ·subst hbb; exact absurd h (g7 o)
   ·exact gG (hoth b' hbb)
  have hst : (storeCells ((⟨b,0,none⟩ : Addr).add (l.length * sz)) news).run P c.w = .ok () d.w:=by
   have:=run_storeCells_at P b (l.length * sz) XZ news 0 (a' ++ d').toArray c.w g2 (by simpa using hfit) (pF hm)
   simp only [Nat.add_zero] at this
   rw [addr_add,Nat.zero_add]
   exact this
  refine ⟨d,.slice (c.tk j).1 (l.length + m.length) (c.tk j).2,?_,?_,?_⟩
  ·rw [e]
   exact mZ (P:=P) (ty:=ty) ht hu hd hi hs hx hcap (fun ad had=>by rw [g1] at had; cases had; exact hst) (fun h=>by rw [g1] at h; cases h)
  ·refine Tr.set hr hk le rfl rfl (fun _ _=>rfl) rfl rfl rfl (by simp [d]) (fun b' _ hn=>hoth b' (fun e=>hn (by rw [hblk,e]))) (fun b' o h=>.inl h) ?_ ?_
   ·intro b' h
    refine .inr ?_
    rw [hblk]
    simp only [aB,d,g1] at h
    exact h
   ·refine .inr ⟨b,cs'.toList,XZ,g1,by simpa using hheap,by rw [hsz']; exact g3,by simpa using hcap,g5,?_,fun o h=>g7 o h⟩
    rw [hcs']
    exact lK (c:=d) (oI (fB le.im g8) (fB le.im hm))
  ·exact Ua (c:=d) (j:=j) hj YE rfl
 ·-- a new block
  obtain ⟨olds,ho1,ho2⟩ : ∃ olds,rX c.w c.Im sz l olds /\ Src P sz c.w (.slice (c.tk j).1 l.length (c.tk j).2) l.length olds:=by
   rcases hr.oK hk with ⟨g1,g2,rfl⟩ | ⟨b,cs,XZ,g1,g2,g3,g4,g5,g6,g7⟩
   ·exact ⟨[],rfl,by rw [g1]; exact ⟨fun _=>rfl,fun _=>rfl⟩⟩
   ·obtain ⟨a',d',rfl,g8⟩:=kC g6
    refine ⟨a',g8,?_⟩
    rw [g1]
    refine Src.slice (dK g8) fun y v hy=>?_
    rw [addr_add,Nat.zero_add]
    have : y < a'.length:=(List.getElem?_eq_some_iff.1 hy).1
    simp only [World.cell?,g2]
    simp [List.getElem?_append_left this,hy]
  have hol:=dK ho1
  have hge:=grownCap_ge c.w (l.length + m.length) (c.tk j).2 el
  have hle:=grownCap_le_maxLen c.w (l.length + m.length) (c.tk j).2 el (by simpa [maxL,maxLen] using hlen)
  have hle' : grownCap c.w (l.length + m.length) (c.tk j).2 el <= maxL:=by simpa [maxL,maxLen] using hle
  have hrun:=qM (P:=P) (ty:=ty) ht hu hd hi hs hz hx (by omega : (c.tk j).2 < l.length + m.length) hlen hroom ho2.cells
  generalize hcp : grownCap c.w (l.length + m.length) (c.tk j).2 el = cap' at hge hle' hrun
  let cs:=olds.toArray ++ news.toArray ++ Builtin.zeroCells z.cells (cap' - (l.length + m.length))
  let d : Cx:={ c with w:=c.w.drew.alloc (.cells cs el),
                       tk:=fun k=>if k = j then (some ⟨c.w.heap.size,0,none⟩,cap') else c.tk k,tp:=dw (hset H j (.dU sz (l ++ m))) }
  have hnew : d.w.heap[c.w.heap.size]? = some (.cells cs el):=alloc_heap_new c.w.drew _
  have hold : ∀ b,b < c.w.heap.size -> d.w.heap[b]? = c.w.heap[b]?:=fun b hb=>eF c.w.drew _ hb
  have xK : d.tk j = (some ⟨c.w.heap.size,0,none⟩,cap'):=by simp [d]
  have hcs : cs.toList.length = cap' * sz:=by
   rw [Array.length_toList]
   simp only [cs,Array.size_append,List.size_toArray,hol,hml,size_zeroCells,hzs]
   rw [<- Nat.add_mul,<- Nat.add_mul]; congr 1; omega
  have le : c.Le d:=by
   refine ⟨fun b o h=>⟨h,gG (hold b (hr.im b o h))⟩,Nat.le_refl _,fun _ _=>rfl,Tt d rfl fun i hi=>by simp [d,hi]⟩
  refine ⟨d,_,by rw [e]; exact hrun,?_,?_⟩
  ·refine Tr.set hr hk le rfl rfl (fun i hi=>by simp [d,hi]) rfl rfl rfl (by simp [d]) (fun b hb _=>hold b hb) (fun b o h=>.inl h) ?_ ?_
   ·intro b h
    refine .inl ?_
    simp only [aB,xK] at h
    simp at h; omega
   ·refine .inr ⟨c.w.heap.size,cs.toList,el,by rw [xK],by simpa using hnew,by rw [xK]; exact hcs,by rw [xK]; simpa using hge,by rw [xK]; exact hle',?_,fun o h=>?_⟩
    ·have ec : cs.toList = olds ++ news ++ (Builtin.zeroCells z.cells (cap' - (l.length + m.length))).toList:=by simp [cs]
     rw [ec]
     exact lK (c:=d) (oI (fB le.im ho1) (fB le.im hm))
    ·exact absurd (hr.im _ _ h) (by omega)
  ·exact Ua (c:=d) (j:=j) hj YE xK
end

theorem Tr.VK {c : Cx} {H : Heap} (sz : Nat) (hr : HR c H) :
  ∃ d,d.w = c.w /\ Tr c H d ((nextId H,.dU sz []) :: H) /\ VV d (.gs (nextId H) 0) (.slice none 0 0):=by
 let d : Cx:={ c with nx:=c.nx + 1,tk:=fun k=>if k = c.nx then (none,0) else c.tk k,tp:=dw ((nextId H,.dU sz []) :: H) }
 have hlt : ∀ x ∈ H,x.1 < c.nx:=fun x hx=>by rw [hr.nx]; exact bF hr.ids x hx
 have htk : d.tk (nextId H) = (none,0):=by simp [d,hr.nx]
 have le : c.Le d:=by
  refine ⟨fun b o h=>⟨h,rfl⟩,Nat.le_succ _,fun _ _=>rfl,fun k n hk hn=>.inl ⟨?_,?_⟩⟩
  ·have : nextId H ≠ k:=by rw [<- hr.nx]; omega
   simp only [d] at hn
   rw [jG this] at hn
   rw [hr.tp]; exact hn
  ·simp only [d]; rw [if_neg (by omega)]
 have hbk : ∀ x ∈ H,aB d x = aB c x:=fun x hx=>jD rfl (by have:=hlt x hx; simp only [d]; rw [if_neg (by omega)])
 have hbn : aB d (nextId H,.dU sz []) = none:=by simp [aB,htk]
 refine ⟨d,rfl,⟨⟨?_,rfl,?_,hr.im,?_,?_⟩,le,rfl,rfl,rfl,Nat.le_refl _,fun _ _ _=>rfl,?_,fun _ _ h=>.inl h⟩,?_⟩
 ·simp only [d,nextId,hr.nx]
 ·exact ⟨fun x hx=>bF hr.ids x hx,hr.ids⟩
 ·intro x hx
  rcases List.mem_cons.1 hx with rfl | hx
  ·exact .inl ⟨by rw [htk],by rw [htk],rfl⟩
  ·refine mF le (hlt x hx) ?_ (fun b hb=>⟨rfl,fun y hy=>hy⟩) (hr.ok x hx)
   have:=hlt x hx; simp only [d]; rw [if_neg (by omega)]
 ·rw [List.pairwise_cons]
  constructor
  ·intro y hy b hb; rw [hbn] at hb; cases hb
  ·exact jI hr.apart fun x hx y hy h b hb=>by rw [hbk y hy]; rw [hbk x hx] at hb; exact h b hb
 ·intro y hy b hb
  rcases List.mem_cons.1 hy with rfl | hy
  ·rw [hbn] at hb; cases hb
  ·rw [hbk y hy] at hb; exact .inr ⟨y,hy,hb⟩
 ·exact Ua (by simp only [d]; rw [hr.nx]; omega) (by show dw _ _ = _; rw [qI]; rfl) htk

theorem Tr.thaw {c : Cx} {H : Heap} {j sz : Nat} {l : List AV} {v : Value} (hr : HR c H) (ho : hget H j = some (.dU sz l)) (ne : l ≠ []) (hV : VV c (.gs j l.length) v) :
  ∃ cp,l.length <= cp /\ cp <= maxL /\ ∃ d,d.w = c.w /\ Tr c H d ((nextId H,.arr sz cp l) :: hset H j .gone) /\ VV d (.ms (nextId H) 0 l.length cp sz) v:=by
 obtain ⟨e,hj,hc1,hc2⟩:=xO hr ho hV
 rcases hr.oK ho with ⟨_,_,h0⟩ | ⟨b,cs,ty,g1,g2,g3,g4,g5,g6,g7⟩
 ·exact absurd h0 ne
 refine ⟨(c.tk j).2,hc1,hc2,?_⟩
 have hjm:=gW ho
 have hbs : b < c.w.heap.size:=(Array.getElem?_eq_some_iff.1 g2).1
 let d : Cx:={ c with nx:=c.nx + 1,ρ:=fun k=>if k = c.nx then b else c.ρ k,tp:=dw ((nextId H,.arr sz (c.tk j).2 l) :: hset H j .gone) }
 have hlt : ∀ x ∈ H,x.1 < c.nx:=fun x hx=>by rw [hr.nx]; exact bF hr.ids x hx
 have hρ : d.ρ (nextId H) = b:=by simp [d,hr.nx]
 have E8:=nX (k:=j) (o':=.gone) hr.ids
 have le : c.Le d:=by
  refine ⟨fun b o h=>⟨h,rfl⟩,Nat.le_succ _,fun k hk=>?_,fun k n hk hn=>.inl ⟨?_,rfl⟩⟩
  ·simp only [d]; rw [if_neg (by omega)]
  ·have hne : nextId H ≠ k:=by rw [<- hr.nx]; omega
   simp only [d] at hn
   rw [jG hne] at hn
   by_cases hkj : k = j
   ·subst hkj; unfold dw at hn; rw [jL ho] at hn; simp at hn
   ·rw [mY hkj] at hn; rw [hr.tp]; exact hn
 have hbk : ∀ x ∈ H,aB d x = aB c x:=fun x hx=>jD (by have:=hlt x hx; simp only [d]; rw [if_neg (by omega)]) rfl
 have hbn : aB d (nextId H,.arr sz (c.tk j).2 l) = some b:=by simp [aB,hρ]
 have hbj : aB c (j,.dU sz l) = some b:=by simp [aB,g1]
 have hne : ∀ x ∈ H,x.1 ≠ j -> ∀ b',aB c x = some b' -> b' ≠ b:=fun x hx hn b' hb' e=>hr.apart' hx hjm hn hb' (by rw [e]; exact hbj)
 refine ⟨d,rfl,⟨⟨?_,rfl,⟨fun x hx=>?_,E8⟩,hr.im,?_,?_⟩,le,rfl,rfl,rfl,Nat.le_refl _,fun _ _ _=>rfl,?_,fun _ _ h=>.inl h⟩,?_⟩
 ·simp only [d,nextId,hr.nx]
 ·have:=bF E8 x hx
  rw [sO] at this; exact this
 ·intro x hx
  rcases List.mem_cons.1 hx with rfl | hx
  ·show (HO.arr sz (c.tk j).2 l).Ok d (nextId H)
   refine ⟨cs,ty,by rw [hρ]; exact g2,g3,g4,g5,kW le g6,fun o h=>?_⟩
   rw [hρ] at h; exact g7 o h
  ·rcases iC hr.ids hx with rfl | ⟨hx,hn⟩
   ·trivial
   ·exact mF le (hlt x hx) rfl (fun b hb=>⟨rfl,fun y hy=>hy⟩) (hr.ok x hx)
 ·rw [List.pairwise_cons]
  constructor
  ·intro y hy b' hb hb'
   rw [hbn] at hb
   obtain rfl:=Option.some.inj hb
   rcases iC hr.ids hy with rfl | ⟨hy,hn⟩
   ·simp [aB] at hb'
   ·rw [hbk y hy] at hb'
    exact hne y hy hn _ hb' rfl
  ·refine eP E8 fun x hx y hy hn b hb hb'=>?_
   rcases iC hr.ids hx with rfl | ⟨hx,_⟩
   ·simp [aB] at hb
   ·rcases iC hr.ids hy with rfl | ⟨hy,_⟩
    ·simp [aB] at hb'
    ·rw [hbk x hx] at hb; rw [hbk y hy] at hb'
     exact hr.apart' hx hy hn hb hb'
 ·intro y hy b' hb
  rcases List.mem_cons.1 hy with rfl | hy
  ·rw [hbn] at hb
   obtain rfl:=Option.some.inj hb
   exact .inr ⟨_,hjm,hbj⟩
  ·rcases iC hr.ids hy with rfl | ⟨hy,_⟩
   ·simp [aB] at hb
   ·rw [hbk y hy] at hb; exact .inr ⟨y,hy,hb⟩
 ·rw [e]
  refine dJ rfl rfl ?_
  simp only [VR]
  refine ⟨by simp only [d]; rw [hr.nx]; omega,?_,hc1,hc2⟩
  rw [hρ,g1,Nat.zero_mul]

theorem Tr.uO {c : Cx} {H : Heap} {j sz : Nat} {l : List AV} {v : Value} (hr : HR c H) (ho : hget H j = some (.dU sz l)) (hl : l.length <= maxL) (hV : VV c (.gs j l.length) v) :
  ∃ d,d.w = c.w /\ Tr c H d (hset H j .gone) /\ VV d (.sl sz l .no) v:=by
 obtain ⟨e,hj,hc1,hc2⟩:=xO hr ho hV
 have tpg : ∀ k n,dw (hset H j .gone) k = some n -> c.tp k = some n:=by
  intro k n hn
  by_cases hkj : k = j
  ·subst hkj; unfold dw at hn; rw [jL ho] at hn; simp at hn
  ·rw [mY hkj] at hn; rw [hr.tp]; exact hn
 rcases hr.oK ho with ⟨g1,g2,rfl⟩ | ⟨b,cs,ty,g1,g2,g3,g4,g5,g6,g7⟩
 ·let d : Cx:={ c with tp:=dw (hset H j .gone) }
  have le : c.Le d:=⟨fun b o h=>⟨h,rfl⟩,Nat.le_refl _,fun _ _=>rfl,fun k n _ h=>.inl ⟨tpg k n h,rfl⟩⟩
  refine ⟨d,rfl,Tr.set hr ho le rfl rfl (fun _ _=>rfl) rfl rfl rfl (Nat.le_refl _) (fun _ _ _=>rfl) (fun _ _ h=>.inl h) (fun b h=>by simp [aB] at h) trivial,?_⟩
  rw [e,g1,g2]
  refine dJ rfl rfl ?_
  simp only [VR,Rd]
  exact ⟨hl,.inl ⟨trivial,rfl⟩⟩
 ·obtain ⟨a',d',rfl,g8⟩:=kC g6
  let d : Cx:={ c with Im:=fun b' o=>c.Im b' o \/ b' = b,tp:=dw (hset H j .gone) }
  have le : c.Le d:=⟨fun b o h=>⟨.inl h,rfl⟩,Nat.le_refl _,fun _ _=>rfl,fun k n _ h=>.inl ⟨tpg k n h,rfl⟩⟩
  have hbj : aB c (j,.dU sz l) = some b:=by simp [aB,g1]
  refine ⟨d,rfl,Tr.set hr ho le rfl rfl (fun _ _=>rfl) rfl rfl rfl (Nat.le_refl _) (fun _ _ _=>rfl) ?_ (fun b h=>by simp [aB] at h) trivial,?_⟩
  ·rintro b' x (h | rfl)
   ·exact .inl h
   ·exact .inr (.inr hbj)
  ·rw [e,g1]
   refine dJ rfl rfl ?_
   simp only [VR,Rd]
   refine ⟨hl,.inr ⟨⟨b,0,none⟩,_,rfl,hc1,hc2,fun _=>rfl,jF (fB le.im g8) fun x v hx=>⟨?_,.inr rfl⟩⟩⟩
   have : x < a'.length:=(List.getElem?_eq_some_iff.1 hx).1
   show c.w.cell? _ = _
   rw [cell_of_heap g2]
   simp [List.getElem?_append_left this,hx]

theorem uG {c : Cx} {sz : Nat} {v : Value} (h : VV c .aV v) : ∃ base,v = .slice base ([] : List AV).length ([] : List AV).length /\ Rd c.w c.Im (.sl sz [] .no) [.slice base ([] : List AV).length ([] : List AV).length]:=by
 obtain rfl:=nC h
 refine ⟨none,rfl,?_⟩
 simp only [Rd]; exact ⟨by simp [maxL],.inl ⟨trivial,rfl⟩⟩

theorem uM {c : Cx} {sz : Nat} {l : List AV} {v : Value} (h : VV c (.sl sz l .full) v) : ∃ base,v = .slice base l.length l.length /\ Rd c.w c.Im (.sl sz l .no) [.slice base l.length l.length]:=by
 have hv:=h.1.2 rfl
 have h2:=h.2
 simp only [VR] at h2
 obtain ⟨h3,b,h4⟩:=h2
 have e:=cells_one hv h4
 refine ⟨b,e,?_⟩
 rw [<- h4]; exact h3

end Go.AL

namespace Go.AL

section
variable {P : Program} {L : Lay} {c : Cx} {H : Heap} {e : Env} {a : Act} {k : AV -> Heap -> Prop} {ks : Heap -> Prop} {o : Oper}

theorem Md {u : Nat} {X : Prop} (hat : L.bg u fun i=>(match i.desc with | .slice _=>X | .str=>X | _=>False)) (hL : bZ P L) : (∃ d,P.underlying u = some d /\ ((∃ e,d = .slice e) \/ d = .string)) /\ X:=by
 obtain ⟨i,hT,h⟩:=Lay.aT hL hat
 obtain ⟨d,hd,hdd⟩:=hT.under
 cases hi : i.desc <;> simp only [hi] at h <;> first | exact h.elim | skip
 ·exact ⟨⟨d,hd,.inr (lF (hdd.trans hi))⟩,h⟩
 ·exact ⟨⟨d,hd,.inl ⟨_,bC (hdd.trans hi)⟩⟩,h⟩

theorem Qn (hL : bZ P L) {cl : Call} {t u : Nat} {r : List Nat} {A B : AV} (hr : HR c H) (ho : o.op = .call cl) (hc : cl.callee = .builtin .append) (hat : cl.argTypes.toList = t :: u :: r)
  {v x : Value} (hv : cl.args.toList.map a.eval = [v,x]) (hA : EV c A v) (hB : EV c B x)
  (h : L.bg u fun i=>(match i.desc with
  | .slice _=>jr L t A B H k
  | .str=>jr L t A B H k
  | _=>False)) : bU P o a.eval c H k ks:=by
 have hh:=Md h hL
 clear h
 obtain ⟨⟨d,hu,hd⟩,h⟩:=hh
 unfold jr at h
 have hh:=Lay.aT hL h
 clear h
 obtain ⟨i,hT,h⟩:=hh
 obtain ⟨dt,ht,hdt⟩:=hT.under
 split at h
 case h_2=>exact h.elim
 rename_i el hi
 obtain rfl:=bC (hdt.trans hi)
 have hh:=Lay.aT hL h
 clear h
 obtain ⟨ei,hE,h⟩:=hh
 obtain ⟨info,z,g1,g2,g3,g4,g5,g6⟩:=hE.info
 have hzs : z.cells.size = flat ei.zero:=by rw [<- Array.length_toList]; exact bW _ _ (g6 c.w c.Im)
 have vk : ∀ r w',(Builtin.append_ #[t,u] o.type #[v,x]).run P c.w = .ok r w' -> (execOp a.eval o).run P c.w = .ok (.value r) w':=by
  intro rr w' hrr
  rw [fQ ho hc,fU hv]
  have e2 : (Builtin.append_ cl.argTypes o.type #[v,x]).run P c.w = (Builtin.append_ #[t,u] o.type #[v,x]).run P c.w:=by
   have e0 : cl.argTypes[0]? = some t:=by rw [<- Array.getElem?_toList,hat]; rfl
   have e1 : cl.argTypes[1]? = some u:=by rw [<- Array.getElem?_toList,hat]; rfl
   unfold Builtin.append_
   simp only [e0,e1]
   rfl
  simp only [builtin,Sem.run_bind,e2,hrr,Result.andThen_ok,Sem.run_pure]
 have fin : ∀ (d0 : Cx) (l m : List AV) (j : Nat) (H0 : Heap),d0.w = c.w -> Tr c H d0 H0 -> hget H0 j = some (.tok (flat ei.zero) l.length) -> VV d0 (.sl (flat ei.zero) l (.own j)) v ->
   (∃ news,Src P (flat ei.zero) c.w x m.length news /\ rX c.w c.Im (flat ei.zero) m news) -> l.length + m.length <= maxL -> (l.length + m.length) * ei.bytes <= 140737488355328 ->
   k (.sl (flat ei.zero) (l ++ m) (.own j)) (hset H0 j (.tok (flat ei.zero) (l.length + m.length))) -> bU P o a.eval c H k ks:=by
  rintro d0 l m j H0 hw htr hk hV ⟨news,hx,hm⟩ h1 h2 h3
  obtain ⟨c',v',hrun,gV,hV'⟩:=BG (P:=P) (ty:=o.type) htr.hr hk hV ht hu hd g1 g2 g4 hzs (by rw [hw]; exact hx) (fB htr.le.im hm) h1 (by rw [g3]; exact h2)
  rw [hw] at hrun
  exact .inl ⟨v',c',_,_,vk _ _ hrun,htr.trans gV,aS hV',h3⟩
 have xB : ∀ (d0 : Cx) (l m : List AV),d0.w = c.w -> Tr c H d0 ((nextId H,.tok (flat ei.zero) l.length) :: H) -> VV d0 (.sl (flat ei.zero) l (.own (nextId H))) v ->
   (∃ news,Src P (flat ei.zero) c.w x m.length news /\ rX c.w c.Im (flat ei.zero) m news) -> l.length + m.length <= maxL -> (l.length + m.length) * ei.bytes <= 140737488355328 ->
   k (.sl (flat ei.zero) (l ++ m) .no) H -> bU P o a.eval c H k ks:=by
  rintro d0 l m hw htr hV ⟨news,hx,hm⟩ h1 h2 h3
  obtain ⟨c',v',hrun,gV,hV'⟩:=BG (P:=P) (ty:=o.type) htr.hr (j:=nextId H) (by simp [hget]) hV ht hu hd g1 g2 g4 hzs (by rw [hw]; exact hx) (fB htr.le.im hm) h1 (by rw [g3]; exact h2)
  rw [hw] at hrun
  have wo:=htr.trans gV
  have hset' : hset ((nextId H,HO.tok (flat ei.zero) l.length) :: H) (nextId H) (.tok (flat ei.zero) (l.length + m.length)) = (nextId H,.tok (flat ei.zero) (l.length + m.length)) :: H:=by simp [hset]
  rw [hset'] at wo
  have hwk : Oc ((nextId H,.tok (flat ei.zero) (l.length + m.length)) :: H) H:=by
   refine ⟨IL fun k' o' hmem=>?_,hr.ids⟩
   have hlt:=bF hr.ids _ hmem
   have hlt : k' < nextId H:=hlt
   have hok:=hr.ok _ hmem
   refine ⟨o',?_,C9 o',?_⟩
   ·simp only [hget]
    have hne : Nat.beq (nextId H) k' = false:=by
     cases hb : Nat.beq (nextId H) k' with
     | false=>rfl
     | true=>have:=Nat.eq_of_beq_eq_true hb; omega
    rw [hne]; exact lW hr.ids hmem
   ·rw [<- hr.nx]
    cases o' with
    | box A=>obtain ⟨cs,ty,_,h2,_⟩:=hok; exact uf _ _ h2
    | iK sh es=>obtain ⟨ents,clock,_,h2,_⟩:=hok; exact BL h2
    | _=>rfl
  refine .inl ⟨v',c'.cut H,_,H,vk _ _ hrun,wo.cut hwk (by rw [hr.nx]; exact Nat.le_refl _),aS ?_,h3⟩
  refine Es (fun k n hn=>by rw [wo.hr.tp]; exact hwk.tp k n hn) rfl ?_
  exact zi (by simp only [le0]; exact ⟨trivial,bK _⟩) hV'
 split at h
 ·obtain ⟨m,news,hx,hm,h⟩:=jA hr hB h
  obtain ⟨base,rfl,JW⟩:=uG (sz:=flat ei.zero) hA
  obtain ⟨d0,hw,htr,hV⟩:=Tr.yR hr JW
  cases h with
  | tok h1 h2 h3 =>
    refine fin d0 [] m _ _ hw htr (by simp [hget]) hV ⟨news,hx,hm⟩ h1 h2 ?_
    have:=dP.1 h3
    simpa [hset] using this
  | pure h1 h2 h3=>exact xB d0 [] m hw htr hV ⟨news,hx,hm⟩ h1 h2 h3
 ·rename_i sz l
  obtain ⟨rfl,h⟩:=bn.1 h
  obtain ⟨m,news,hx,hm,h⟩:=jA hr hB h
  obtain ⟨base,rfl,JW⟩:=uM hA
  obtain ⟨d0,hw,htr,hV⟩:=Tr.yR hr JW
  cases h with
  | tok h1 h2 h3 =>
    refine fin d0 l m _ _ hw htr (by simp [hget]) hV ⟨news,hx,hm⟩ h1 h2 ?_
    have:=dP.1 h3
    simpa [hset] using this
  | pure h1 h2 h3=>exact xB d0 l m hw htr hV ⟨news,hx,hm⟩ h1 h2 h3
 ·rename_i sz l j
  obtain ⟨rfl,h⟩:=bn.1 h
  obtain ⟨m,news,hx,hm,h⟩:=jA hr hB h
  obtain ⟨ob,hob,h⟩:=cZ.1 h
  split at h
  ·rename_i sz' top
   have hh:=bn.1 h
   clear h
   obtain ⟨rfl,rfl,h⟩:=hh
   obtain ⟨_,g7⟩:=gy.1 h.next
   exact fin c l m j H rfl (.refl hr) hob hA ⟨news,hx,hm⟩ h.len h.room g7
  ·exact h.elim
 ·exact h.elim

theorem EF {c : Cx} : ∀ (n : Nat) {l : List AV} {cs : List Value},zM c 1 l cs -> zM c 1 (l.drop n) (cs.drop n)
 | 0,_,_,h=>h
 | _ + 1,[],_,_=>trivial
 | n + 1,x :: l,cs,h=>by
   obtain ⟨a,d,rfl,h2,h3,h4⟩:=h
   obtain ⟨y,rfl⟩ : ∃ y,a = [y]:=by
    match a,h2 with
    | [y],_=>exact ⟨y,rfl⟩
   exact EF n h4

theorem uS {c : Cx} {m : List AV} {ds : List Value} : ∀ {l : List AV} {cs : List Value},zM c 1 l cs -> cs.length = l.length -> zM c 1 m ds -> zM c 1 (l ++ m) (cs ++ ds)
 | [],cs,_,hl,h=>by
   obtain rfl : cs = []:=List.eq_nil_of_length_eq_zero (by simpa using hl)
   exact h
 | x :: l,cs,hx,hl,h=>by
   obtain ⟨a,d,rfl,h2,h3,h4⟩:=hx
   refine ⟨a,d ++ ds,by rw [List.append_assoc],h2,h3,uS h4 ?_ h⟩
   simp at hl; omega

theorem EC {c : Cx} : ∀ (n : Nat) {l : List AV} {cs : List Value},zM c 1 l cs -> zM c 1 (l.take n) (cs.take n)
 | 0,_,_,_=>trivial
 | _ + 1,[],_,_=>trivial
 | n + 1,x :: l,cs,h=>by
   obtain ⟨a,d,rfl,h2,h3,h4⟩:=h
   obtain ⟨y,rfl⟩ : ∃ y,a = [y]:=by
    match a,h2 with
    | [y],_=>exact ⟨y,rfl⟩
   exact ⟨[y],d.take n,rfl,rfl,h3,EC n h4⟩

theorem IV {c : Cx} {z : AV} {y : Value} (h : Rd c.w c.Im z [y]) : ∀ n,zM c 1 (List.replicate n z) (List.replicate n y)
 | 0=>trivial
 | n + 1=>⟨[y],List.replicate n y,rfl,rfl,h,IV h n⟩

theorem MN (hL : bZ P L) {cl : Call} {t u : Nat} {r : List Nat} {A B : AV} (hr : HR c H) (ho : o.op = .call cl) (hc : cl.callee = .builtin .append) (hat : cl.argTypes.toList = t :: u :: r)
  {v x : Value} (hv : cl.args.toList.map a.eval = [v,x]) (hA : EV c A v) (hB : EV c B x)
  (hh : (∃ d,P.underlying u = some d /\ ((∃ e,d = .slice e) \/ d = .string)) /\ yF L t A B H k) : bU P o a.eval c H k ks:=by
 obtain ⟨⟨d,hu,hd⟩,h⟩:=hh
 unfold yF at h
 have hh:=Lay.aT hL h
 clear h
 obtain ⟨i,hT,h⟩:=hh
 obtain ⟨dt,ht,hdt⟩:=hT.under
 split at h
 case h_2=>exact h.elim
 rename_i el hi
 obtain rfl:=bC (hdt.trans hi)
 have hh:=Lay.aT hL h
 clear h
 obtain ⟨ei,hE,h⟩:=hh
 obtain ⟨info,z,g1,g2,g3,g4,g5,g6⟩:=hE.info
 have hzs : z.cells.size = flat ei.zero:=by rw [<- Array.length_toList]; exact bW _ _ (g6 c.w c.Im)
 have vk : ∀ r w',(Builtin.append_ #[t,u] o.type #[v,x]).run P c.w = .ok r w' -> (execOp a.eval o).run P c.w = .ok (.value r) w':=by
  intro rr w' hrr
  rw [fQ ho hc,fU hv]
  have e2 : (Builtin.append_ cl.argTypes o.type #[v,x]).run P c.w = (Builtin.append_ #[t,u] o.type #[v,x]).run P c.w:=by
   have e0 : cl.argTypes[0]? = some t:=by rw [<- Array.getElem?_toList,hat]; rfl
   have e1 : cl.argTypes[1]? = some u:=by rw [<- Array.getElem?_toList,hat]; rfl
   unfold Builtin.append_
   simp only [e0,e1]
   rfl
  simp only [builtin,Sem.run_bind,e2,hrr,Result.andThen_ok,Sem.run_pure]
 have fin : ∀ (d0 : Cx) (l m : List AV) (j : Nat) (H0 : Heap),d0.w = c.w -> Tr c H d0 H0 -> hget H0 j = some (.tok (flat ei.zero) l.length) -> VV d0 (.sl (flat ei.zero) l (.own j)) v ->
   (∃ news,Src P (flat ei.zero) c.w x m.length news /\ rX c.w c.Im (flat ei.zero) m news) -> l.length + m.length <= maxL -> (l.length + m.length) * ei.bytes <= 140737488355328 ->
   k (.sl (flat ei.zero) (l ++ m) (.own j)) (hset H0 j (.tok (flat ei.zero) (l.length + m.length))) -> bU P o a.eval c H k ks:=by
  rintro d0 l m j H0 hw htr hk hV ⟨news,hx,hm⟩ h1 h2 h3
  obtain ⟨c',v',hrun,gV,hV'⟩:=BG (P:=P) (ty:=o.type) htr.hr hk hV ht hu hd g1 g2 g4 hzs (by rw [hw]; exact hx) (fB htr.le.im hm) h1 (by rw [g3]; exact h2)
  rw [hw] at hrun
  exact .inl ⟨v',c',_,_,vk _ _ hrun,htr.trans gV,aS hV',h3⟩
 have xB : ∀ (d0 : Cx) (l m : List AV),d0.w = c.w -> Tr c H d0 ((nextId H,.tok (flat ei.zero) l.length) :: H) -> VV d0 (.sl (flat ei.zero) l (.own (nextId H))) v ->
   (∃ news,Src P (flat ei.zero) c.w x m.length news /\ rX c.w c.Im (flat ei.zero) m news) -> l.length + m.length <= maxL -> (l.length + m.length) * ei.bytes <= 140737488355328 ->
   k (.sl (flat ei.zero) (l ++ m) .no) H -> bU P o a.eval c H k ks:=by
  rintro d0 l m hw htr hV ⟨news,hx,hm⟩ h1 h2 h3
  obtain ⟨c',v',hrun,gV,hV'⟩:=BG (P:=P) (ty:=o.type) htr.hr (j:=nextId H) (by simp [hget]) hV ht hu hd g1 g2 g4 hzs (by rw [hw]; exact hx) (fB htr.le.im hm) h1 (by rw [g3]; exact h2)
  rw [hw] at hrun
  have wo:=htr.trans gV
  have hset' : hset ((nextId H,HO.tok (flat ei.zero) l.length) :: H) (nextId H) (.tok (flat ei.zero) (l.length + m.length)) = (nextId H,.tok (flat ei.zero) (l.length + m.length)) :: H:=by simp [hset]
  rw [hset'] at wo
  have hwk : Oc ((nextId H,.tok (flat ei.zero) (l.length + m.length)) :: H) H:=by
   refine ⟨IL fun k' o' hmem=>?_,hr.ids⟩
   have hlt:=bF hr.ids _ hmem
   have hlt : k' < nextId H:=hlt
   have hok:=hr.ok _ hmem
   refine ⟨o',?_,C9 o',?_⟩
   ·simp only [hget]
    have hne : Nat.beq (nextId H) k' = false:=by
     cases hb : Nat.beq (nextId H) k' with
     | false=>rfl
     | true=>have:=Nat.eq_of_beq_eq_true hb; omega
    rw [hne]; exact lW hr.ids hmem
   ·rw [<- hr.nx]
    cases o' with
    | box A=>obtain ⟨cs,ty,_,h2,_⟩:=hok; exact uf _ _ h2
    | iK sh es=>obtain ⟨ents,clock,_,h2,_⟩:=hok; exact BL h2
    | _=>rfl
  refine .inl ⟨v',c'.cut H,_,H,vk _ _ hrun,wo.cut hwk (by rw [hr.nx]; exact Nat.le_refl _),aS ?_,h3⟩
  refine Es (fun k n hn=>by rw [wo.hr.tp]; exact hwk.tp k n hn) rfl ?_
  exact zi (by simp only [le0]; exact ⟨trivial,bK _⟩) hV'
 have XE : ∀ (l m : List AV) (base : Option Addr),v = .slice base l.length l.length -> Rd c.w c.Im (.sl (flat ei.zero) l .no) [.slice base l.length l.length] ->
   (∃ news,Src P (flat ei.zero) c.w x m.length news /\ rX c.w c.Im (flat ei.zero) m news) -> m ≠ [] -> l.length + m.length <= maxL -> (l.length + m.length) * ei.bytes <= 140737488355328 ->
   (∀ cp,l.length + m.length <= cp -> cp <= maxL -> k (.ms (nextId H) 0 (l.length + m.length) cp (flat ei.zero)) ((nextId H,.arr (flat ei.zero) cp (l ++ m)) :: H)) -> bU P o a.eval c H k ks:=by
  rintro l m base rfl JW ⟨news,hx,hm⟩ hne h1 h2 h3
  have XM : 0 < m.length:=List.length_pos_iff.2 hne
  obtain ⟨olds,ho1,ho2⟩ : ∃ olds,rX c.w c.Im (flat ei.zero) l olds /\ Src P (flat ei.zero) c.w (.slice base l.length l.length) l.length olds:=by
   simp only [Rd] at JW
   rcases JW.2 with ⟨rfl,h8⟩ | ⟨ad,cap,h8,h9,h10,h11,h12⟩
   ·exact ⟨[],rfl,by simp at h8; rw [h8]; exact ⟨fun _=>rfl,fun _=>rfl⟩⟩
   ·obtain ⟨olds,g1,g2⟩:=rF h12
    refine ⟨olds,g1,?_⟩
    simp at h8
    rw [h8.1]
    exact Src.slice (dK g1) (wO rfl rfl (fun hne=>h11 (fun e=>by subst e; exact hne g1)) g2)
  have hol:=dK ho1
  have hml:=dK hm
  have hge:=grownCap_ge c.w (l.length + m.length) l.length el
  have hle:=grownCap_le_maxLen c.w (l.length + m.length) l.length el (by simpa [maxL,maxLen] using h1)
  have hle' : grownCap c.w (l.length + m.length) l.length el <= maxL:=by simpa [maxL,maxLen] using hle
  have hrun:=qM (P:=P) (ty:=o.type) (t:=t) (u:=u) ht hu hd g1 g2 g4 hx (by omega : l.length < l.length + m.length) h1 (by rw [g3]; exact h2) ho2.cells
  generalize hcp : grownCap c.w (l.length + m.length) l.length el = cap' at hge hle' hrun
  let cs:=olds.toArray ++ news.toArray ++ Builtin.zeroCells z.cells (cap' - (l.length + m.length))
  have hcs : cs.size = cap' * flat ei.zero:=by
   simp only [cs,Array.size_append,List.size_toArray,hol,hml,size_zeroCells,hzs]
   rw [<- Nat.add_mul,<- Nat.add_mul]; congr 1; omega
  have htd:=Tr.drew hr
  let d0 : Cx:={ c with w:=c.w.drew }
  have hr0 : HR d0 H:=htd.hr
  have htr : Tr c H (d0.push (.cells cs el) ((nextId H,.arr (flat ei.zero) cap' (l ++ m)) :: H)) ((nextId H,.arr (flat ei.zero) cap' (l ++ m)) :: H):=by
   refine htd.trans (Tr.push hr0 _ _ (fun _=>rfl) ?_)
   refine ⟨cs.toList,el,?_,?_,by simp; exact hge,hle',?_,?_⟩
   ·rw [oUρ hr0]; simp only [Cx.push,Array.toArray_toList]; exact alloc_heap_new _ _
   ·rw [Array.length_toList,hcs]
   ·have le:=htd.le.trans (Hr hr0 (.cells cs el) (.arr (flat ei.zero) cap' (l ++ m)))
    have h5:=oI (fB le.im ho1) (fB le.im hm)
    have h6:=lK (c:=d0.push (.cells cs el) ((nextId H,.arr (flat ei.zero) cap' (l ++ m)) :: H)) (rest:=(Builtin.zeroCells z.cells (cap' - (l.length + m.length))).toList) h5
    have e : cs.toList = olds ++ news ++ (Builtin.zeroCells z.cells (cap' - (l.length + m.length))).toList:=by simp [cs]
    rw [e]; exact h6
   ·intro y hy
    rw [oUρ hr0] at hy
    have:=hr0.im _ _ hy
    omega
  refine .inl ⟨_,_,_,_,vk _ _ hrun,htr,aS (dJ rfl rfl ?_),h3 cap' hge hle'⟩
  simp only [VR]
  rw [oUρ hr0]
  exact ⟨by simp only [Cx.push,hr0.nx]; omega,by simp [d0],hge,hle'⟩
 split at h
 ·obtain ⟨m,news,hx,hm,h⟩:=jA hr hB h
  obtain ⟨base,hbe,JW⟩:=uG (sz:=flat ei.zero) hA
  obtain ⟨d0,hw,htr,hV⟩:=Tr.yR hr JW
  cases h with
  | tok h1 h2 h3 =>
    refine fin d0 [] m _ _ hw htr (by simp [hget]) (hbe ▸ hV) ⟨news,hx,hm⟩ h1 h2 ?_
    have:=dP.1 h3
    simpa [hset] using this
  | pure h1 h2 h3=>exact xB d0 [] m hw htr (hbe ▸ hV) ⟨news,hx,hm⟩ h1 h2 h3
  | wr h0 h1 h2 h3=>exact XE [] m base hbe JW ⟨news,hx,hm⟩ h0 (by simpa using h1) (by simpa using h2) h3
 ·rename_i sz l
  obtain ⟨rfl,h⟩:=bn.1 h
  obtain ⟨m,news,hx,hm,h⟩:=jA hr hB h
  obtain ⟨base,hbe,JW⟩:=uM hA
  obtain ⟨d0,hw,htr,hV⟩:=Tr.yR hr JW
  cases h with
  | tok h1 h2 h3 =>
    refine fin d0 l m _ _ hw htr (by simp [hget]) (hbe ▸ hV) ⟨news,hx,hm⟩ h1 h2 ?_
    have:=dP.1 h3
    simpa [hset] using this
  | pure h1 h2 h3=>exact xB d0 l m hw htr (hbe ▸ hV) ⟨news,hx,hm⟩ h1 h2 h3
  | wr h0 h1 h2 h3=>exact XE l m base hbe JW ⟨news,hx,hm⟩ h0 h1 h2 h3
 ·rename_i sz l j
  obtain ⟨rfl,h⟩:=bn.1 h
  obtain ⟨m,news,hx,hm,h⟩:=jA hr hB h
  obtain ⟨ob,hob,h⟩:=cZ.1 h
  split at h
  ·rename_i sz' top
   have hh:=bn.1 h
   clear h
   obtain ⟨rfl,rfl,h⟩:=hh
   obtain ⟨_,g7⟩:=gy.1 h.next
   exact fin c l m j H rfl (.refl hr) hob hA ⟨news,hx,hm⟩ h.len h.room g7
  ·exact h.elim
 ·rename_i j len
  obtain ⟨m,news,hx,hm,h⟩:=jA hr hB h
  obtain ⟨ob,hob,h⟩:=cZ.1 h
  split at h
  ·rename_i sz l
   have hh:=bn.1 h
   clear h
   obtain ⟨rfl,rfl,h0,h⟩:=hh
   obtain ⟨_,q7⟩:=gy.1 h.next
   obtain ⟨c',v',hrun,gV,hV'⟩:=Y0 (P:=P) (ty:=o.type) hr hob hA ht hu hd g1 g2 g4 hzs hx hm h0 h.len (by rw [g3]; exact h.room)
   exact .inl ⟨v',c',_,_,vk _ _ hrun,gV,aS hV',q7⟩
  ·exact h.elim
 ·rename_i j off len cap
  obtain ⟨hf1,h⟩:=bn.1 h
  obtain ⟨m,news,hx,hm,h⟩:=jA hr hB h
  obtain ⟨ob,hob,h⟩:=cZ.1 h
  split at h
  ·rename_i cp l
   obtain ⟨⟨h00,h0,h1⟩,h⟩:=h
   obtain ⟨_,h⟩:=gy.1 h
   obtain ⟨cs,ty,q1,q2,q3,q4,q5,q6⟩:=hr.oK hob
   obtain ⟨hj,rfl,q7,q8⟩:=vK hA
   have hml:=dK hm
   rw [Nat.mul_one] at hml q2
   have hst:=run_storeCells_at (P:=P) (c.ρ j) (off + len) ty news 0 cs.toArray c.w q1 (by simp; omega) (pF hm)
   simp only [Nat.add_zero,hml] at hst
   have hrun:=mZ (P:=P) (ty:=o.type) (t:=t) (u:=u) (base:=some ⟨c.ρ j,off * 1,none⟩) (w':=c.w.setRow (c.ρ j) (cs.take (off + len) ++ news ++ cs.drop (off + len + m.length)).toArray) ht hu hd g1 (g2.trans hf1) hx h1 (fun ad had=>by
    cases had; rw [addr_add,Nat.mul_one,Nat.mul_one]; exact hst) (fun e=>by cases e)
   refine .inl ⟨_,{ c with w:=c.w.setRow (c.ρ j) (cs.take (off + len) ++ news ++ cs.drop (off + len + m.length)).toArray },_,_,vk _ _ hrun,?_,aS (dJ rfl rfl ?_),h⟩
   ·refine Tr.write hr hob q1 (fun _=>rfl) (fun _=>rfl) q6 (by intros; simp) (by intros; simp) ?_
    have le : c.Le { c with w:=c.w.setRow (c.ρ j) (cs.take (off + len) ++ news ++ cs.drop (off + len + m.length)).toArray }:=by
     refine ⟨fun b x h=>⟨h,gG (setRow_other c.w _ b _ (fun e=>q6 x (e ▸ h)))⟩,Nat.le_refl _,fun _ _=>rfl,fun _ _ _ h=>.inl ⟨h,rfl⟩⟩
    refine ⟨_,ty,setRow_heap c.w _ _ _ _ _ q1,?_,?_,q4,kW le ?_,q6⟩
    ·simp; omega
    ·simp; omega
    ·refine uS (uS (EC (off + len) q5) (by simp; omega) (by have:=lK (c:=c) (rest:=[]) hm; simpa using this)) (by simp; omega) (EF _ q5)
   ·simp only [VR]; exact ⟨hj,trivial,by omega,q8⟩
  ·exact h.elim
 ·exact h.elim

theorem Jr {α : Type} : ∀ {l : List α} {i : Nat} {x : α},l[i]? = some x -> l.set i x = l
 | [],_,_,h=>by simp at h
 | y :: l,0,x,h=>by simp at h; simp [h]
 | y :: l,i + 1,x,h=>by simp at h; simp [Jr h]

theorem Gj {off : Nat} {v : Value} {pre xs post : List Value} {cells : Array Value} (hc : cells.toList = pre ++ xs ++ post) (hp : pre.length = off) (hx : v.cells.size = xs.length) :
  (v.cells.zipIdx.foldl (fun cs (c,j)=>cs.setIfInBounds (off + j) c) cells).toList = pre ++ v.cells.toList ++ post:=by
 obtain ⟨g1,g2⟩:=Great.foldl_set off v.cells.toList 0 cells
 have hsz : cells.size = pre.length + xs.length + post.length:=by rw [<- Array.length_toList,hc]; simp; omega
 have e : v.cells.zipIdx.foldl (fun cs (c,j)=>cs.setIfInBounds (off + j) c) cells = (v.cells.toList.zipIdx 0).foldl (fun cs (x : Value × Nat)=>cs.setIfInBounds (off + x.2) x.1) cells:=by
  rw [<- Array.foldl_toList,Array.toList_zipIdx]
 rw [e]
 apply List.ext_getElem?
 intro i
 rw [Array.getElem?_toList,g2 i]
 simp only [Nat.add_zero,Array.length_toList]
 have hci : cells[i]? = (pre ++ xs ++ post)[i]?:=by rw [<- hc,Array.getElem?_toList]
 by_cases h1 : i < pre.length
 ·rw [if_neg (by omega),hci]
  rw [List.append_assoc,List.append_assoc,List.getElem?_append_left h1,List.getElem?_append_left h1]
 ·by_cases h2 : i < pre.length + xs.length
  ·rw [if_pos ⟨by omega,by omega,by omega⟩]
   rw [List.append_assoc,List.getElem?_append_right (by omega),List.getElem?_append_left (by simp; omega),hp]
  ·rw [if_neg (by omega),hci]
   rw [List.getElem?_append_right (by simp; omega),List.getElem?_append_right (by simp; omega)]
   congr 1; simp [hx]

theorem tJ {place : Nat -> Option (Nat × Nat)} {zs : List AV} (hp : ∀ i z,zs[i]? = some z -> place i = some (iD (zs.take i),flat z)) (he : fC c e a) :
  ∀ {ps : List (Nat × Operand)} {l : List AV} {cells : Array Value} {k : List AV -> Prop},(∀ p ∈ ps,bf p.2 = true) -> l.map flat = zs.map flat -> lg c l cells.toList -> iG e ps l k ->
    ∃ l' cells',Instr.fill place cells (ps.map fun p=>(p.1,a.eval p.2)) = some cells' /\ lg c l' cells'.toList /\ k l'
 | [],l,cells,k,_,_,hr,h=>⟨l,cells,rfl,hr,h⟩
 | (i,x) :: ps,l,cells,k,ho,hf,hr,h=>by
   simp only [iG] at h
   obtain ⟨A,hA,h⟩:=aH he (ho (i,x) (by simp)) h
   obtain ⟨hval,h⟩:=sD.1 h
   obtain ⟨z,hz,h⟩:=iQ.1 h
   obtain ⟨hfl,h⟩:=bn.1 h
   have h' : iV l i A fun zs'=>iG e ps zs' k:=by
    cases A <;> cases z <;> first | exact h | exact h.elim
   obtain ⟨hi,h'⟩:=oP h'
   have hAv:=kY hA hval
   obtain ⟨pre,xs,post,h1,h2,h3,h4⟩:=qA hr hz
   have hlen : (a.eval x).cells.size = xs.length:=by rw [<- Array.length_toList,fD _ _ hAv.2,fD _ _ h3,hfl]
   have ZW : ∀ (l m : List AV),l.map flat = m.map flat -> iD l = iD m:=by
    intro l
    induction l with
    | nil=>intro m h; cases m with
      | nil=>rfl
      | cons y m=>simp at h
    | cons y l ih=>intro m h; cases m with
      | nil=>simp at h
      | cons y' m=>simp at h; simp [iD,h.1,ih m h.2]
   obtain ⟨z0,hz0,hzf⟩ : ∃ z0,zs[i]? = some z0 /\ flat z0 = flat z:=by
    have : (l.map flat)[i]? = (zs.map flat)[i]?:=by rw [hf]
    rw [List.getElem?_map,List.getElem?_map,hz] at this
    cases hz0 : zs[i]? with
    | none=>simp [hz0] at this
    | some z0=>simp [hz0] at this; exact ⟨z0,rfl,this.symm⟩
   have hoff : iD (zs.take i) = pre.length:=by
    rw [h2]; refine ZW _ _ ?_
    rw [List.map_take,List.map_take,hf]
   have hpl:=hp i z0 hz0
   have hcs:=Gj (v:=a.eval x) (off:=pre.length) h1 rfl hlen
   have hsz : pre.length + xs.length <= cells.size:=by rw [<- Array.length_toList,h1]; simp
   obtain ⟨l',cells',g1,g2,g3⟩:=tJ hp he (cells:=(a.eval x).cells.zipIdx.foldl (fun cs (c,j)=>cs.setIfInBounds (pre.length + j) c) cells) (fun p hp=>ho p (by simp [hp]))
    (l:=l.set i A) (by rw [List.map_set,hfl,<- hf]; exact Jr (by rw [List.getElem?_map,hz]; rfl)) (by rw [hcs]; exact h4 _ _ hAv.2) h'
   refine ⟨l',cells',?_,g2,g3⟩
   simp only [List.map_cons,Instr.fill,hpl,hoff]
   rw [if_neg]
   ·exact g1
   ·have : flat z0 = xs.length:=by rw [hzf,fD _ _ h3]
    simp; omega

theorem Qs {fs : List Field} (h : ∀ f ∈ fs,∃ x,P.info? f.type = some x) :
  fs.mapM (fun f=>(P.info? f.type).map fun i=>(f.offset,i.size)) = some (fs.map fun f=>(f.offset,P.cellsOf f.type)):=by
 induction fs with
 | nil=>rfl
 | cons f fs ih =>
   obtain ⟨x,hx⟩:=h f (by simp)
   simp [List.mapM_cons,hx,ih fun f hf=>h f (by simp [hf]),Program.cellsOf]

theorem Gi : ∀ {zs : List AV} {i : Nat} {z : AV},xR zs = true -> zs[i]? = some z -> iD (zs.take i) = i /\ flat z = 1
 | [],_,_,_,h=>by simp at h
 | x :: l,i,z,hf,h=>by
   simp only [xR] at hf
   cases hb : Nat.beq (flat x) 1 with
   | false=>rw [hb] at hf; cases hf
   | true =>
     rw [hb] at hf
     have hx:=Nat.eq_of_beq_eq_true hb
     cases i with
     | zero=>simp at h; subst h; exact ⟨by simp [iD],hx⟩
     | succ i =>
       obtain ⟨k1,k2⟩:=Gi hf (by simpa using h)
       exact ⟨by simp only [List.take_succ_cons,iD,hx,k1]; omega,k2⟩

theorem Td (hL : bZ P L) {t : Nat} {ps : Array (Nat × Operand)} (hr : HR c H) (he : fC c e a) (hx : ∀ p ∈ ps.toList,bf p.2 = true) (ho : o.op = .build t ps)
  (h : L.bg t fun i=>(match i.desc,i.zero with
  | .struct _,.ag zs=>iG e ps.toList zs fun l=>k (.ag l) H
  | .arr _ el,.ag zs=>L.bg el fun ei=>jP (flat ei.zero) 1 (FM (xR zs) (iG e ps.toList zs fun l=>k (.ag l) H))
  | _,_=>False)) : bU P o a.eval c H k ks:=by
 obtain ⟨i,hT,h⟩:=Lay.aT hL h
 obtain ⟨d,hd,hdd⟩:=hT.under
 split at h
 case h_3=>exact h.elim
 case h_2 =>
  rename_i n el zs hi hz
  obtain rfl:=DJ (hdd.trans hi)
  obtain ⟨ei,hE,h⟩:=Lay.aT hL h
  obtain ⟨hf1,h⟩:=bn.1 h
  obtain ⟨info,z,g1,g2,g3,g4,g5,g6⟩:=hT.info
  obtain ⟨XW,ez,e1,e2,_,_,_,_⟩:=hE.info
  have hz0 : lg c zs z.cells.toList:=by
   have:=gX (c:=c) _ _ (g6 c.w c.Im)
   rw [hz] at this
   simpa only [VR] using this
  have hfl : xR zs = true /\ iG e ps.toList zs fun l=>k (.ag l) H:=by
   unfold FM at h
   split at h
   ·exact ⟨‹_›,h⟩
   ·exact h.elim
  obtain ⟨hfl,h⟩:=hfl
  obtain ⟨l,cells,h1,h2,h3⟩:=tJ (place:=fun i=>some (i * XW.size,XW.size)) (fun i z hz=>by
   obtain ⟨k1,k2⟩:=Gi hfl hz
   rw [e2,hf1,Nat.mul_one,k1,k2]) he hx rfl hz0 h
  refine .pure hr (v:=.agg cells) ?_ (aS (A:=.ag l) ⟨⟨fun _=>⟨_,rfl⟩,fun h=>by cases h⟩,by show VR c (.ag l) cells.toList; simpa only [VR] using h2⟩) h3
  unfold execOp; rw [ho]
  have hb : P.built t (ps.map fun (i,x)=>(i,a.eval x)).toList = some cells:=by
   unfold Program.built
   simp only [g1,hd,g4,e1]
   rw [Array.toList_map]
   exact h1
  simp only [Sem.run_bind,run_build c.w t _ cells hb,Result.andThen_ok,Sem.run_pure]
 rename_i fs zs hi hz
 obtain ⟨gs,rfl,rfl⟩:=pR (hdd.trans hi)
 obtain ⟨zs',hz',hoff⟩:=hT.Z8 _ hi
 rw [hz] at hz'; cases hz'
 have hinf:=hT.inf _ hi
 obtain ⟨info,z,g1,g2,g3,g4,g5,g6⟩:=hT.info
 have hz0 : lg c zs z.cells.toList:=by
  have:=gX (c:=c) _ _ (g6 c.w c.Im)
  rw [hz] at this
  simpa only [VR] using this
 have hm : gs.toList.mapM (fun f=>(P.info? f.type).map fun i=>(f.offset,i.size)) = some (sK 0 zs):=by
  rw [Qs fun f hf=>hinf (f.offset,P.cellsOf f.type,f.type) (List.mem_map.2 ⟨f,hf,rfl⟩),<- hoff,List.map_map]
  rfl
 obtain ⟨l,cells,h1,h2,h3⟩:=tJ (place:=fun i=>(sK 0 zs).toArray[i]?) (fun i z hz=>by simpa using vV (n:=0) hz) he hx rfl hz0 h
 refine .pure hr (v:=.agg cells) ?_ (aS (A:=.ag l) ⟨⟨fun _=>⟨_,rfl⟩,fun h=>by cases h⟩,by show VR c (.ag l) cells.toList; simpa only [VR] using h2⟩) h3
 unfold execOp; rw [ho]
 have hb : P.built t (ps.map fun (i,x)=>(i,a.eval x)).toList = some cells:=by
  unfold Program.built
  simp only [g1,hd,g4,hm]
  rw [Array.toList_map]
  exact h1
 simp only [Sem.run_bind,run_build c.w t _ cells hb,Result.andThen_ok,Sem.run_pure]

theorem GU {w : World} {Im : Nat -> Nat -> Prop} {sz : Nat} : ∀ {l : List AV} {cs : List Value} {j : Nat} {x : AV},rX w Im sz l cs -> l[j]? = some x ->
  ∃ pre xs post,cs = pre ++ xs ++ post /\ pre.length = j * sz /\ xs.length = sz /\ ∀ y ys,Rd w Im y ys -> ys.length = sz -> rX w Im sz (l.set j y) (pre ++ ys ++ post)
 | [],_,_,_,_,h=>by simp at h
 | z :: l,cs,0,x,hr,h=>by
   obtain ⟨a,d,rfl,h2,h3,h4⟩:=hr
   refine ⟨[],a,d,by simp,by simp,h2,fun y ys hy hl=>?_⟩
   exact ⟨ys,d,by simp,hl,hy,h4⟩
 | z :: l,cs,j + 1,x,hr,h=>by
   obtain ⟨a,d,rfl,h2,h3,h4⟩:=hr
   obtain ⟨pre,xs,post,rfl,h5,h6,h8⟩:=GU h4 (by simpa using h : l[j]? = some x)
   refine ⟨a ++ pre,xs,post,by simp,by simp [h2,h5,Nat.add_mul]; omega,h6,fun y ys hy hl=>?_⟩
   exact ⟨a,pre ++ ys ++ post,by simp,h2,h3,h8 y ys hy hl⟩

theorem yB {sz : Nat} (he : fC c e a) :
  ∀ {ps : List (Nat × Operand)} {l : List AV} {cells : Array Value} {k : List AV -> Prop},(∀ p ∈ ps,bf p.2 = true) -> (∀ z ∈ l,flat z = sz) -> rX c.w c.Im sz l cells.toList -> iO e ps l k ->
    ∃ l' cells',Instr.fill (fun i=>some (i * sz,sz)) cells (ps.map fun p=>(p.1,a.eval p.2)) = some cells' /\ l'.length = l.length /\ rX c.w c.Im sz l' cells'.toList /\ k l'
 | [],l,cells,k,_,_,hr,h=>⟨l,cells,rfl,rfl,hr,h⟩
 | (i,x) :: ps,l,cells,k,ho,hf,hr,h=>by
   simp only [iO] at h
   obtain ⟨A,hA,h⟩:=aH he (ho (i,x) (by simp)) h
   obtain ⟨z,hz,h⟩:=iQ.1 h
   obtain ⟨hfl,h⟩:=bn.1 h
   have h' : vg A fun B=>iV l i B fun zs'=>iO e ps zs' k:=by
    cases A <;> cases z <;> first | exact h | exact h.elim
   obtain ⟨hpu,h'⟩:=sH h'
   obtain ⟨hi,h'⟩:=oP h'
   have hval : isVal A = true:=by cases A <;> first | rfl | (simp [mW] at hpu)
   have hAv:=kY hA hval
   have hzs : flat z = sz:=hf z (List.mem_of_getElem? hz)
   obtain ⟨pre,xs,post,h1,h2,h3,h4⟩:=GU hr hz
   have hlen : (a.eval x).cells.toList.length = sz:=by rw [fD _ _ hAv.2,hfl,hzs]
   have hlen' : (a.eval x).cells.size = sz:=by rw [<- hlen,Array.length_toList]
   have hcs:=Gj (v:=a.eval x) (off:=i * sz) h1 h2 (by rw [hlen',h3])
   have hR:=oH _ _ hpu hAv.2
   have hsz : pre.length + xs.length <= cells.size:=by rw [<- Array.length_toList,h1]; simp
   obtain ⟨l',cells',g1,g2,g3,g4⟩:=yB he (cells:=(a.eval x).cells.zipIdx.foldl (fun cs (c,j)=>cs.setIfInBounds (i * sz + j) c) cells) (fun p hp=>ho p (by simp [hp]))
    (l:=l.set i (strip A)) (fun y hy=>by
     rcases List.mem_or_eq_of_mem_set hy with hy | rfl
     ·exact hf y hy
     ·rw [<- bW _ _ hR]; exact hlen) (by rw [hcs]; exact h4 _ _ hR hlen) h'
   refine ⟨l',cells',?_,by rw [g2]; simp,g3,g4⟩
   simp only [List.map_cons,Instr.fill]
   rw [if_neg]
   ·exact g1
   ·simp; omega

theorem Ea {a b : Nat} {k : Prop} : zF a b k ↔ a <= b /\ k:=by
 unfold zF
 cases h : Nat.ble a b with
 | true=>simp [Nat.le_of_ble_eq_true h]
 | false=>simp; intro hle; rw [Nat.ble_eq_true_of_le hle] at h; cases h

theorem EY (hL : bZ P L) {t n : Nat} {ps : Array (Nat × Operand)} (hr : HR c H) (he : fC c e a) (hx : ∀ p ∈ ps.toList,bf p.2 = true) (ho : o.op = .buildSlice t n ps)
  (h : L.bg t fun i=>(match i.desc with
  | .slice el=>L.bg el fun ei=>zF (n * flat ei.zero) 16777216 <| zF n 16777216 <| Hq ei.zero n fun zs=>iO e ps.toList zs fun l=>k (.sl (flat ei.zero) l .full) H
  | _=>False)) : bU P o a.eval c H k ks:=by
 obtain ⟨i,hT,h⟩:=Lay.aT hL h
 obtain ⟨d,hd,hdd⟩:=hT.under
 split at h
 case h_2=>exact h.elim
 rename_i el hi
 obtain rfl:=bC (hdd.trans hi)
 obtain ⟨ei,hE,h⟩:=Lay.aT hL h
 obtain ⟨hb1,h⟩:=Ea.1 h
 obtain ⟨hb2,h⟩:=Ea.1 h
 have h:=CB.1 h
 obtain ⟨info,z,g1,g2,g3,g4,g5,g6⟩:=hE.info
 have ZR:=LD (g6 c.w c.Im) n
 obtain ⟨l,cells,h1,h2,h3,h4⟩:=yB (sz:=flat ei.zero) he hx (fun y hy=>by rw [(List.mem_replicate.1 hy).2]) ZR h
 rw [List.length_replicate] at h2
 have hrun : (Instr.buildSlice t n (ps.map fun (i,x)=>(i,a.eval x))).run P c.w = .ok (.slice (some ⟨c.w.heap.size,0,none⟩) n n) (c.w.alloc (.cells cells el)):=by
  have h1' : Instr.fill (fun i=>some (i * info.size,info.size)) ((Array.range (n * info.size)).map (z.cells[· % z.cells.size]!)) (ps.map fun (i,x)=>(i,a.eval x)).toList = some cells:=by
   rw [g2,Array.toList_map]; exact h1
  by_cases hpos : n * info.size = 0
  ·have e0 : ∀ zz : Array Value,(Array.range (n * info.size)).map (zz[· % zz.size]!) = #[]:=by intro zz; rw [hpos]; simp
   rw [e0] at h1'
   have hsmall : ¬ n * info.size > 2 ^ 24:=by omega
   have e1:=e0 #[]
   have hszz : (sizeOf el).run P c.w = .ok info.size c.w:=by unfold sizeOf typeInfo; simp [g1]
   unfold Instr.buildSlice
   simp only [Sem.run_bind,run_underlying hd,Result.andThen_ok,hszz,hsmall,if_false]
   rw [if_pos hpos]
   simp only [Sem.run_bind,Sem.run_pure,Result.andThen_ok,e1,h1',newRow,run_newObj,World.alloc_eq]
  ·exact Go.run_buildSlice c.w t el n _ cells info z hd g1 g4 (by rw [g2]; omega) hpos h1'
 refine .inl ⟨.slice (some ⟨c.w.heap.size,0,none⟩) n n,c.alloc (.cells cells el),_,H,?_,Tr.alloc hr _,aS (dJ rfl rfl ?_),h4⟩
 ·unfold execOp; rw [ho]
  simp only [Sem.run_bind,hrun,Result.andThen_ok,Sem.run_pure]
  rfl
 ·simp only [VR,Rd]
  refine ⟨⟨by simp [maxL]; omega,.inr ⟨⟨c.w.heap.size,0,none⟩,n,by rw [h2],by omega,by simp [maxL]; omega,fun _=>rfl,?_⟩⟩,⟨some ⟨c.w.heap.size,0,none⟩,by rw [h2]⟩⟩
  have le:=(Tr.alloc hr (.cells cells el)).le
  refine jF (fB le.im h3) fun j v hj=>⟨?_,.inr rfl⟩
  rw [Nat.zero_add]
  show (c.w.alloc _).cell? ⟨c.w.heap.size,j,none⟩ = _
  rw [cell_of_heap (alloc_heap_new c.w _),<- Array.getElem?_toList]; exact hj
end
end Go.AL

namespace Go.AL

section
variable {P : Program} {L : Lay} {c : Cx} {H : Heap} {e : Env} {a : Act} {k : AV -> Heap -> Prop} {ks : Heap -> Prop} {o : Oper}

theorem XB {v : Value} (h : EV c .bH v) : v = .nilIface:=yH h
theorem Vx {t : Nat} {x : AV} {v : Value} (h : EV c (.jh t x) v) : ∃ u,v = .iface t u /\ VV c x u:=NT h

theorem yN {c : Cx} {A B : AV} {v u : Value} (hA : VV c A v) (hB : VV c B u) : EV c (.dA [A,B]) (.tuple #[v,u]) :=
 ⟨_,rfl,_,_,rfl,hA.1,hA.2,_,_,rfl,hB.1,hB.2,rfl⟩

theorem H6 {op : BinOp} {A : AV} {K : AV -> Prop} {v : Value} (hA : EV c A v) (h : Ru op A K) :
  (op = .eql \/ op = .neq) /\ ∃ ad l n,v = .slice ad l n /\ ∃ R,VV c R (.bool (if op = .eql then ad.isNone else !ad.isNone)) /\ K R:=by
 unfold Ru at h
 split at h
 ·have hv:=nC hA
  exact ⟨.inl rfl,none,0,0,hv,_,oG,h⟩
 ·have hv:=nC hA
  exact ⟨.inr rfl,none,0,0,hv,_,jV,h⟩
 ·obtain ⟨_,hv,_⟩:=vK hA
  exact ⟨.inl rfl,_,_,_,hv,_,jV,h⟩
 ·obtain ⟨_,hv,_⟩:=vK hA
  exact ⟨.inr rfl,_,_,_,hv,_,oG,h⟩
 ·obtain ⟨_,⟨h1,hv⟩ | ⟨ad,cap,hv,_⟩⟩:=Ep hA
  ·exact ⟨.inl rfl,none,0,0,hv,_,lI true,h true fun _=>h1⟩
  ·exact ⟨.inl rfl,some ad,_,_,hv,_,lI false,h false fun h=>by cases h⟩
 ·obtain ⟨_,⟨h1,hv⟩ | ⟨ad,cap,hv,_⟩⟩:=Ep hA
  ·exact ⟨.inr rfl,none,0,0,hv,_,lI false,h false fun _=>h1⟩
  ·exact ⟨.inr rfl,some ad,_,_,hv,_,lI true,h true fun h=>by cases h⟩
 ·exact h.elim

theorem run_equalIn_slice_nil {t el : Nat} (ht : P.underlying t = some (.slice el)) (ad : Option Addr) (l n d : Nat) (w : World) :
  (Op.equalIn (d + 1) t (.slice ad l n) (.slice none 0 0)).run P w = .ok ad.isNone w:=by
 cases ad <;> simp only [Op.equalIn,Sem.run_bind,run_underlying ht,Result.andThen_ok,Sem.run_pure,Option.isNone]

theorem run_equal_slice_nil {t el : Nat} (ht : P.underlying t = some (.slice el)) (ad : Option Addr) (l n : Nat) (w : World) :
  (Op.equal t (.slice ad l n) (.slice none 0 0)).run P w = .ok ad.isNone w:=run_equalIn_slice_nil ht ad l n 9999 w

theorem Qk (hL : bZ P L) {op : BinOp} {t ty : Nat} {x y : Operand} (hr : HR c H) (he : fC c e a) (hx : bf x = true) (ho : o.op = .binOp op t x y ty) (hn : ng (.binOp op t x y ty) = true)
  (h : bP e x fun A=>L.bg t fun i=>(match i.desc with | .slice _=>Ru op A fun R=>k R H | _=>False)) : bU P o a.eval c H k ks:=by
 obtain ⟨A,hA,h⟩:=aH he hx h
 obtain ⟨i,hT,h⟩:=Lay.aT hL h
 obtain ⟨d,hd,hdd⟩:=hT.under
 have hy : y = .const (.slice none 0 0):=by
  unfold ng at hn
  split at hn
  ·rename_i heq; cases heq; rfl
  ·cases hn
 subst hy
 split at h
 ·rename_i el hi
  obtain rfl:=bC (hdd.trans hi)
  obtain ⟨hop,ad,l,n,hv,R,hR,hk⟩:=H6 hA h
  refine .pure hr (iW ho (gZ (fun ⟨cs,ds,h1,_⟩=>by rw [hv] at h1; cases h1) (fun h1=>by rw [hv] at h1; cases h1)) ?_) (aS hR) hk
  have e2 : a.eval (.const (.slice none 0 0)) = .slice none 0 0:=rfl
  rw [hv,e2]
  rcases hop with rfl | rfl
  ·simp only [binOp,run_equal_slice_nil hd,Sem.run_bind,Result.andThen_ok,Sem.run_pure]
   rfl
  ·simp only [binOp,run_equal_slice_nil hd,Sem.run_bind,Result.andThen_ok,Sem.run_pure]
   rfl
 ·exact h.elim

theorem EW (hL : bZ P L) {x : Operand} {xt s : Nat} {ok : Bool} (hr : HR c H) (he : fC c e a) (hx : bf x = true) (ho : o.op = .typeAssert x xt s ok)
  (h : bP e x fun A=>L.bg s fun i=>(match i.desc with
  | .iface=>False
  | _=>IG i.zero s A ok fun R=>k R H)) : bU P o a.eval c H k ks:=by
 obtain ⟨A,hA,h⟩:=aH he hx h
 obtain ⟨i,hT,h⟩:=Lay.aT hL h
 obtain ⟨d,hd,hdd⟩:=hT.under
 have hne : ∀ ms,d ≠ .interface ms:=by
  rintro ms rfl
  have : i.desc = .iface:=hdd.symm
  rw [this] at h; exact h
 obtain ⟨z,hz,hzs,hzr⟩:=hT.sF c.w
 have hZ : VV c i.zero z:=⟨hzs,gX _ _ (hzr _ _)⟩
 have h' : IG i.zero s A ok fun R=>k R H:=by
  cases hi : i.desc <;> rw [hi] at h <;> first | exact h.elim | exact h
 clear h
 have fails : ∀ u,a.eval x = u -> (u = .nilIface \/ ∃ t y,u = .iface t y /\ t ≠ s) -> ok = true -> (execOp a.eval o).run P c.w = .ok (.value (.tuple #[z,.bool false])) c.w:=by
  intro u hu hcase hok
  unfold execOp; rw [ho,hok]
  simp only [Instr.typeAssert,Sem.run_bind,run_underlying hd,Result.andThen_ok,hu]
  rcases hcase with rfl | ⟨t,y,rfl,hts⟩
  ·cases d <;> first | exact absurd rfl (hne _) | simp only [if_true,Sem.run_bind,hz,Result.andThen_ok,Sem.run_pure]
  ·cases d <;> first | exact absurd rfl (hne _) | simp only [if_neg hts,if_true,Sem.run_bind,hz,Result.andThen_ok,Sem.run_pure]
 unfold IG at h'
 split at h'
 ·have hv:=XB hA
  exact .pure hr (fails _ hv (.inl rfl) rfl) (yN hZ jV) h'
 ·rename_i t y
  obtain ⟨u,hv,hU⟩:=Vx hA
  split at h'
  ·rename_i hb
   obtain rfl:=Nat.eq_of_beq_eq_true hb
   refine .pure hr (v:=.tuple #[u,.bool true]) ?_ (yN hU oG) h'
   unfold execOp; rw [ho]
   simp only [Instr.typeAssert,Sem.run_bind,run_underlying hd,Result.andThen_ok,hv]
   cases d <;> first | exact absurd rfl (hne _) | simp only [if_true,Result.andThen_ok,Sem.run_pure]
  ·rename_i hb
   exact .pure hr (fails _ hv (.inr ⟨_,u,rfl,dZ hb⟩) rfl) (yN hZ jV) h'
 ·rename_i t y
  obtain ⟨u,hv,hU⟩:=Vx hA
  split at h'
  ·rename_i hb
   obtain rfl:=Nat.eq_of_beq_eq_true hb
   refine .pure hr (v:=u) ?_ (aS hU) h'
   unfold execOp; rw [ho]
   simp only [Instr.typeAssert,Sem.run_bind,run_underlying hd,Result.andThen_ok,hv]
   cases d <;> first | exact absurd rfl (hne _) | simp only [if_true,Bool.false_eq_true,if_false,Result.andThen_ok,Sem.run_pure]
  ·exact h'.elim
 ·exact h'.elim

theorem oV {b : Bool} {k : Prop} : FM b k ↔ b = true /\ k:=by
 unfold FM; cases b <;> simp

mutual
theorem vX {c : Cx} : ∀ (S A : AV) (cs : List Value),ay S A = true -> VR c A cs -> cs = I9 A /\ Rd c.w c.Im A cs
 | .int _ _,.int k n,cs,_,h=>by simp only [VR,Rd] at h; exact ⟨by rw [h.1]; rfl,by simp only [Rd]; exact h⟩
 | .str _,.str s,cs,_,h=>by simp only [VR,Rd] at h; exact ⟨by rw [h.1]; rfl,by simp only [Rd]; exact h⟩
 | .ag s,.ag l,cs,hs,h=>by
   simp only [VR] at h
   simp only [ay] at hs
   simp only [I9,Rd]
   exact Ig s l cs hs h
 | .int _ _,.bool _,_,hs,_=>by simp [ay] at hs
 | .int _ _,.tt,_,hs,_=>by simp [ay] at hs
 | .int _ _,.ff,_,hs,_=>by simp [ay] at hs
 | .int _ _,.dec _,_,hs,_=>by simp [ay] at hs
 | .int _ _,.str _,_,hs,_=>by simp [ay] at hs
 | .int _ _,.bH,_,hs,_=>by simp [ay] at hs
 | .int _ _,.jh _ _,_,hs,_=>by simp [ay] at hs
 | .int _ _,.aV,_,hs,_=>by simp [ay] at hs
 | .int _ _,.sl _ _ _,_,hs,_=>by simp [ay] at hs
 | .int _ _,.ms _ _ _ _ _,_,hs,_=>by simp [ay] at hs
 | .int _ _,.ag _,_,hs,_=>by simp [ay] at hs
 | .int _ _,.dA _,_,hs,_=>by simp [ay] at hs
 | .int _ _,.ptr _ _ _,_,hs,_=>by simp [ay] at hs
 | .int _ _,.cp _,_,hs,_=>by simp [ay] at hs
 | .int _ _,.fJ,_,hs,_=>by simp [ay] at hs
 | .int _ _,.fn _ _,_,hs,_=>by simp [ay] at hs
 | .int _ _,.aZ,_,hs,_=>by simp [ay] at hs
 | .int _ _,.mp _,_,hs,_=>by simp [ay] at hs
 | .int _ _,.gs _ _,_,hs,_=>by simp [ay] at hs
 | .int _ _,.bm _ _,_,hs,_=>by simp [ay] at hs
 | .int _ _,.jQ,_,hs,_=>by simp [ay] at hs
 | .int _ _,.und,_,hs,_=>by simp [ay] at hs
 | .str _,A,cs,hs,h=>by
   cases A <;> first | (simp [ay] at hs; done) | skip
   simp only [VR,Rd] at h
   exact ⟨by rw [h.1]; rfl,by simp only [Rd]; exact h⟩
 | .ag s,A,cs,hs,h=>by
   cases A <;> first | (simp [ay] at hs; done) | skip
   rename_i l
   simp only [VR] at h
   simp only [ay] at hs
   simp only [I9,Rd]
   exact Ig s l cs hs h
 | .bool _,A,_,hs,_=>by cases A <;> simp [ay] at hs
 | .tt,A,_,hs,_=>by cases A <;> simp [ay] at hs
 | .ff,A,_,hs,_=>by cases A <;> simp [ay] at hs
 | .dec _,A,_,hs,_=>by cases A <;> simp [ay] at hs
 | .bH,A,_,hs,_=>by cases A <;> simp [ay] at hs
 | .jh _ _,A,_,hs,_=>by cases A <;> simp [ay] at hs
 | .aV,A,_,hs,_=>by cases A <;> simp [ay] at hs
 | .sl _ _ _,A,_,hs,_=>by cases A <;> simp [ay] at hs
 | .ms _ _ _ _ _,A,_,hs,_=>by cases A <;> simp [ay] at hs
 | .dA _,A,_,hs,_=>by cases A <;> simp [ay] at hs
 | .ptr _ _ _,A,_,hs,_=>by cases A <;> simp [ay] at hs
 | .cp _,A,_,hs,_=>by cases A <;> simp [ay] at hs
 | .fJ,A,_,hs,_=>by cases A <;> simp [ay] at hs
 | .fn _ _,A,_,hs,_=>by cases A <;> simp [ay] at hs
 | .aZ,A,_,hs,_=>by cases A <;> simp [ay] at hs
 | .mp _,A,_,hs,_=>by cases A <;> simp [ay] at hs
 | .gs _ _,A,_,hs,_=>by cases A <;> simp [ay] at hs
 | .bm _ _,A,_,hs,_=>by cases A <;> simp [ay] at hs
 | .jQ,A,_,hs,_=>by cases A <;> simp [ay] at hs
 | .und,A,_,hs,_=>by cases A <;> simp [ay] at hs
theorem Ig {c : Cx} : ∀ (s l : List AV) (cs : List Value),bV s l = true -> lg c l cs -> cs = Yy l /\ kX c.w c.Im l cs
 | [],[],cs,_,h=>by simp only [lg] at h; subst h; exact ⟨rfl,by simp only [kX]⟩
 | [],_ :: _,_,hs,_=>by simp [bV] at hs
 | _ :: _,[],_,hs,_=>by simp [bV] at hs
 | x :: s,y :: l,cs,hs,h=>by
   simp only [bV,Bool.and_eq_true] at hs
   simp only [lg] at h
   obtain ⟨p,q,rfl,h1,h2⟩:=h
   obtain ⟨e1,r1⟩:=vX x y p hs.1 h1
   obtain ⟨e2,r2⟩:=Ig s l q hs.2 h2
   refine ⟨by rw [e1,e2]; rfl,?_⟩
   simp only [kX]
   exact ⟨p,q,rfl,r1,r2⟩
end

mutual
theorem xq : ∀ (A B C : AV),ay A B = true -> ay A C = true -> ay B C = true
 | .int a _,B,C,h1,h2=>by
   cases B <;> first | (simp [ay] at h1; done) | skip
   cases C <;> first | (simp [ay] at h2; done) | skip
   simp only [ay] at *
   obtain rfl:=fK h1
   exact h2
 | .str _,B,C,h1,h2=>by
   cases B <;> first | (simp [ay] at h1; done) | skip
   cases C <;> first | (simp [ay] at h2; done) | skip
   rfl
 | .ag l,B,C,h1,h2=>by
   cases B <;> first | (simp [ay] at h1; done) | skip
   cases C <;> first | (simp [ay] at h2; done) | skip
   simp only [ay] at *
   exact uY l _ _ h1 h2
 | .bool _,B,_,h1,_=>by cases B <;> simp [ay] at h1
 | .tt,B,_,h1,_=>by cases B <;> simp [ay] at h1
 | .ff,B,_,h1,_=>by cases B <;> simp [ay] at h1
 | .dec _,B,_,h1,_=>by cases B <;> simp [ay] at h1
 | .bH,B,_,h1,_=>by cases B <;> simp [ay] at h1
 | .jh _ _,B,_,h1,_=>by cases B <;> simp [ay] at h1
 | .aV,B,_,h1,_=>by cases B <;> simp [ay] at h1
 | .sl _ _ _,B,_,h1,_=>by cases B <;> simp [ay] at h1
 | .ms _ _ _ _ _,B,_,h1,_=>by cases B <;> simp [ay] at h1
 | .dA _,B,_,h1,_=>by cases B <;> simp [ay] at h1
 | .ptr _ _ _,B,_,h1,_=>by cases B <;> simp [ay] at h1
 | .cp _,B,_,h1,_=>by cases B <;> simp [ay] at h1
 | .fJ,B,_,h1,_=>by cases B <;> simp [ay] at h1
 | .fn _ _,B,_,h1,_=>by cases B <;> simp [ay] at h1
 | .aZ,B,_,h1,_=>by cases B <;> simp [ay] at h1
 | .mp _,B,_,h1,_=>by cases B <;> simp [ay] at h1
 | .gs _ _,B,_,h1,_=>by cases B <;> simp [ay] at h1
 | .bm _ _,B,_,h1,_=>by cases B <;> simp [ay] at h1
 | .jQ,B,_,h1,_=>by cases B <;> simp [ay] at h1
 | .und,B,_,h1,_=>by cases B <;> simp [ay] at h1
theorem uY : ∀ (l m r : List AV),bV l m = true -> bV l r = true -> bV m r = true
 | [],[],[],_,_=>rfl
 | [],[],_ :: _,_,h=>by simp [bV] at h
 | [],_ :: _,_,h,_=>by simp [bV] at h
 | _ :: _,[],_,h,_=>by simp [bV] at h
 | _ :: _,_ :: _,[],_,h=>by simp [bV] at h
 | x :: l,y :: m,z :: r,h1,h2=>by
   simp only [bV,Bool.and_eq_true] at *
   exact ⟨xq x y z h1.1 h2.1,uY l m r h1.2 h2.2⟩
end

mutual
theorem Aa : ∀ (A B C : AV),ay A B = true -> ay B C = true -> ay A C = true
 | .int a _,B,C,h1,h2=>by
   cases B <;> first | (simp [ay] at h1; done) | skip
   cases C <;> first | (simp [ay] at h2; done) | skip
   simp only [ay] at *
   obtain rfl:=fK h1
   exact h2
 | .str _,B,C,h1,h2=>by
   cases B <;> first | (simp [ay] at h1; done) | skip
   cases C <;> first | (simp [ay] at h2; done) | skip
   rfl
 | .ag l,B,C,h1,h2=>by
   cases B <;> first | (simp [ay] at h1; done) | skip
   cases C <;> first | (simp [ay] at h2; done) | skip
   simp only [ay] at *
   exact xu l _ _ h1 h2
 | .bool _,B,_,h1,_=>by cases B <;> simp [ay] at h1
 | .tt,B,_,h1,_=>by cases B <;> simp [ay] at h1
 | .ff,B,_,h1,_=>by cases B <;> simp [ay] at h1
 | .dec _,B,_,h1,_=>by cases B <;> simp [ay] at h1
 | .bH,B,_,h1,_=>by cases B <;> simp [ay] at h1
 | .jh _ _,B,_,h1,_=>by cases B <;> simp [ay] at h1
 | .aV,B,_,h1,_=>by cases B <;> simp [ay] at h1
 | .sl _ _ _,B,_,h1,_=>by cases B <;> simp [ay] at h1
 | .ms _ _ _ _ _,B,_,h1,_=>by cases B <;> simp [ay] at h1
 | .dA _,B,_,h1,_=>by cases B <;> simp [ay] at h1
 | .ptr _ _ _,B,_,h1,_=>by cases B <;> simp [ay] at h1
 | .cp _,B,_,h1,_=>by cases B <;> simp [ay] at h1
 | .fJ,B,_,h1,_=>by cases B <;> simp [ay] at h1
 | .fn _ _,B,_,h1,_=>by cases B <;> simp [ay] at h1
 | .aZ,B,_,h1,_=>by cases B <;> simp [ay] at h1
 | .mp _,B,_,h1,_=>by cases B <;> simp [ay] at h1
 | .gs _ _,B,_,h1,_=>by cases B <;> simp [ay] at h1
 | .bm _ _,B,_,h1,_=>by cases B <;> simp [ay] at h1
 | .jQ,B,_,h1,_=>by cases B <;> simp [ay] at h1
 | .und,B,_,h1,_=>by cases B <;> simp [ay] at h1
theorem xu : ∀ (l m r : List AV),bV l m = true -> bV m r = true -> bV l r = true
 | [],[],[],_,_=>rfl
 | [],[],_ :: _,_,h=>by simp [bV] at h
 | [],_ :: _,_,h,_=>by simp [bV] at h
 | _ :: _,[],_,h,_=>by simp [bV] at h
 | _ :: _,_ :: _,[],_,h=>by simp [bV] at h
 | x :: l,y :: m,z :: r,h1,h2=>by
   simp only [bV,Bool.and_eq_true] at *
   exact ⟨Aa x y z h1.1 h2.1,xu l m r h1.2 h2.2⟩
end

theorem GY {sh sh' : AV} (h : ay sh' sh = true) : ∀ {es : List (AV × AV)},LM sh' es -> LM sh es
 | [],_=>trivial
 | (_,_) :: _,hk=>⟨xq _ _ _ h hk.1,GY h hk.2⟩

theorem key_eq {c : Cx} {sh A B : AV} {v u : Value} (h1 : ay sh A = true) (h2 : ay sh B = true) (hA : VV c A v) (hB : VV c B u) : v = u ↔ I9 A = I9 B:=by
 have e1:=(vX sh A _ h1 hA.2).1
 have e2:=(vX sh B _ h2 hB.2).1
 have hag : dn A = dn B:=by
  cases sh <;> cases A <;> first | (simp [ay] at h1; done) | skip
  all_goals (cases B <;> first | (simp [ay] at h2; done) | rfl)
 constructor
 ·rintro rfl
  rw [<- e1,<- e2]
 ·intro h
  have hc : v.cells.toList = u.cells.toList:=by rw [e1,e2,h]
  cases hb : dn A with
  | true =>
    obtain ⟨cs,rfl⟩:=hA.1.1 hb
    obtain ⟨ds,rfl⟩:=hB.1.1 (hag ▸ hb)
    have : cs.toList = ds.toList:=hc
    rw [Array.toList_inj.1 this]
  | false =>
    have h3:=hA.1.2 hb
    have h4:=hB.1.2 (hag ▸ hb)
    rw [h3,h4] at hc
    simpa using hc

theorem BK {c : Cx} : ∀ {es : List (AV × AV)} {ents : List MapEntry} {j : Nat} {x : MapEntry},Aw c es ents -> ents[j]? = some x -> ∃ y,es[j]? = some y /\ VV c y.1 x.key /\ VV c y.2 x.val
 | [],ents,j,x,h,hj=>by obtain rfl:=h; simp at hj
 | (p,q) :: es,ents,0,x,h,hj=>by
   obtain ⟨e0,r,rfl,h1,h2,h3⟩:=h
   simp at hj; subst hj
   exact ⟨(p,q),rfl,h1,h2⟩
 | (p,q) :: es,ents,j + 1,x,h,hj=>by
   obtain ⟨e0,r,rfl,h1,h2,h3⟩:=h
   simpa using BK h3 (by simpa using hj)

theorem ug {c : Cx} : ∀ {es : List (AV × AV)} {ents : List MapEntry} {j : Nat} {y : AV × AV},Aw c es ents -> es[j]? = some y -> ∃ x,ents[j]? = some x /\ VV c y.1 x.key /\ VV c y.2 x.val
 | [],ents,j,x,h,hj=>by simp at hj
 | (p,q) :: es,ents,0,x,h,hj=>by
   obtain ⟨e0,r,rfl,h1,h2,h3⟩:=h
   simp at hj; subst hj
   exact ⟨e0,rfl,h1,h2⟩
 | (p,q) :: es,ents,j + 1,x,h,hj=>by
   obtain ⟨e0,r,rfl,h1,h2,h3⟩:=h
   simpa using ug h3 (by simpa using hj)

theorem pG {sh : AV} : ∀ {es : List (AV × AV)},LM sh es -> ∀ x ∈ es,ay sh x.1 = true
 | [],_,x,h=>by simp at h
 | (p,q) :: es,hk,x,h=>by
   rcases List.mem_cons.1 h with rfl | h
   ·exact hk.1
   ·exact pG hk.2 x h

theorem Ew {c : Cx} {K V : AV} {x : MapEntry} (hK : VV c K x.key) (hV : VV c V x.val) : ∀ {es : List (AV × AV)} {ents : List MapEntry},Aw c es ents -> Aw c (es ++ [(K,V)]) (ents ++ [x])
 | [],ents,h=>by obtain rfl:=h; exact ⟨x,[],rfl,hK,hV,rfl⟩
 | (p,q) :: es,ents,h=>by
   obtain ⟨e0,r,rfl,h1,h2,h3⟩:=h
   exact ⟨e0,r ++ [x],rfl,h1,h2,Ew hK hV h3⟩

theorem Px {c : Cx} {K V : AV} {x : MapEntry} (hK : VV c K x.key) (hV : VV c V x.val) : ∀ {es : List (AV × AV)} {ents : List MapEntry} {j : Nat},Aw c es ents -> Aw c (es.set j (K,V)) (ents.set j x)
 | [],ents,j,h=>by obtain rfl:=h; show Aw c [] []; rfl
 | (p,q) :: es,ents,0,h=>by
   obtain ⟨e0,r,rfl,h1,h2,h3⟩:=h
   exact ⟨x,r,rfl,hK,hV,h3⟩
 | (p,q) :: es,ents,j + 1,h=>by
   obtain ⟨e0,r,rfl,h1,h2,h3⟩:=h
   exact ⟨e0,r.set j x,rfl,h1,h2,Px hK hV h3⟩

theorem EL {sh K V : AV} (hK : ay sh K = true) : ∀ {es : List (AV × AV)},LM sh es -> LM sh (es ++ [(K,V)])
 | [],_=>⟨hK,trivial⟩
 | (_,_) :: _,h=>⟨h.1,EL hK h.2⟩

theorem PO {sh K V : AV} (hK : ay sh K = true) : ∀ {es : List (AV × AV)} {j : Nat},LM sh es -> LM sh (es.set j (K,V))
 | [],_,_=>trivial
 | (_,_) :: _,0,h=>⟨hK,h.2⟩
 | (_,_) :: _,_ + 1,h=>⟨h.1,PO hK h.2⟩

theorem F5 {kt : Nat} {sh sh' : AV} {es : List (AV × AV)} {ents : Array MapEntry} (hko : PN P kt sh) (hss : ay sh' sh = true) (hks : LM sh' es) (Zf : Aw c es ents.toList) :
  LM sh es /\ ∀ x ∈ ents.toList,∃ l,keyOf P kt x.key = some l:=by
 have hk:=GY hss hks
 refine ⟨hk,fun x hx=>?_⟩
 obtain ⟨j,hj⟩:=List.mem_iff_getElem?.1 hx
 obtain ⟨y,hy,hK,_⟩:=BK Zf hj
 have hs:=pG hk y (List.mem_of_getElem? hy)
 exact hko.rd c.w c.Im y.1 x.key hs hK.1 (vX sh y.1 _ hs hK.2).2

theorem MG (hL : bZ P L) {t : Nat} (hr : HR c H) (ho : o.op = .makeMap t none)
  (h : L.bg t fun i=>(match i.key with | some sh=>nS H (.iK sh []) fun j H'=>k (.mp j) H' | none=>False)) : bU P o a.eval c H k ks:=by
 obtain ⟨i,hT,h⟩:=Lay.aT hL h
 split at h
 ·rename_i sh _
  have h:=dP.1 h
  have htr : Tr c H (c.push (.map #[] 0) ((nextId H,.iK sh []) :: H)) ((nextId H,.iK sh []) :: H):=by
   refine Tr.push hr _ _ (fun _=>rfl) ⟨#[],0,?_,rfl,trivial,by simp,by simp⟩
   rw [oUρ hr]; simp only [Cx.push]; exact alloc_heap_new _ _
  refine .inl ⟨.map (some c.w.heap.size),_,_,_,?_,htr,aS (dJ rfl rfl ?_),h⟩
  ·unfold execOp; rw [ho]
   simp only [Instr.makeMap,Sem.run_bind,run_newObj,Result.andThen_ok,Sem.run_pure,Option.map_none,World.alloc_eq]
   rfl
  ·simp only [VR]
   refine ⟨by simp only [Cx.push,hr.nx]; omega,?_⟩
   rw [oUρ hr]
 ·exact h.elim

theorem MR {kt : Nat} {sh sh' K : AV} {v : Value} {es : List (AV × AV)} {ents : Array MapEntry} {r : Option AV} (hko : PN P kt sh) (hss : ay sh' sh = true) (hks : LM sh' es) (Zf : Aw c es ents.toList)
  (hdist : ents.toList.Pairwise fun a b=>a.key ≠ b.key) (Jb : ay sh K = true) (hK : VV c K v) (hl : X8 es K r) :
  (r = none /\ (Instr.findKey kt v ents.toList).run P c.w = .ok none c.w) \/ ∃ V u j,r = some V /\ (Instr.findKey kt v ents.toList).run P c.w = .ok (some (j,u)) c.w /\ VV c V u:=by
 obtain ⟨hk,hkeys⟩:=F5 hko hss hks Zf
 obtain ⟨lk,hlk⟩:=hko.rd c.w c.Im K v Jb hK.1 (vX sh K _ Jb hK.2).2
 rcases hko.law.find c.w hlk ents.toList hkeys with ⟨h1,h2⟩ | ⟨j,x,h1,h2,h3⟩
 ·cases r with
  | none=>exact .inl ⟨rfl,h1⟩
  | some V =>
    exfalso
    obtain ⟨y,hy,he,_⟩:=hl
    obtain ⟨j,hj⟩:=List.mem_iff_getElem?.1 hy
    obtain ⟨x,hx,hyK,_⟩:=ug Zf hj
    exact h2 x (List.mem_of_getElem? hx) ((key_eq (pG hk y hy) Jb hyK hK).2 he)
 ·obtain ⟨y,hy,hyK,hyV⟩:=BK Zf h2
  have hym:=List.mem_of_getElem? hy
  have hke : I9 y.1 = I9 K:=(key_eq (pG hk y hym) Jb hyK hK).1 h3
  cases r with
  | none=>exact absurd hke (hl y hym)
  | some V =>
    obtain ⟨z,hz,he,rfl⟩:=hl
    obtain ⟨i,hi⟩:=List.mem_iff_getElem?.1 hz
    obtain ⟨x',hx',YB,hzV⟩:=ug Zf hi
    have hkk : x'.key = v:=(key_eq (pG hk z hz) Jb YB hK).2 he
    have hij : i = j:=by
     apply Classical.byContradiction
     intro hne
     obtain ⟨hi1,hi2⟩:=List.getElem?_eq_some_iff.1 hx'
     obtain ⟨hj1,hj2⟩:=List.getElem?_eq_some_iff.1 h2
     rcases Nat.lt_or_gt_of_ne hne with hlt | hlt
     ·have:=List.pairwise_iff_getElem.1 hdist i j hi1 hj1 hlt
      rw [hi2,hj2,hkk,h3] at this; exact this rfl
     ·have:=List.pairwise_iff_getElem.1 hdist j i hj1 hi1 hlt
      rw [hi2,hj2,hkk,h3] at this; exact this rfl
    subst hij
    rw [h2] at hx'
    obtain rfl:=Option.some.inj hx'
    exact .inr ⟨_,_,_,rfl,h1,hzV⟩

theorem Yb {j : Nat} {v : Value} (h : EV c (.mp j) v) : j < c.nx /\ v = .map (some (c.ρ j)):=X3 h

theorem Cc {S A : AV} (h : ay S A = true) : isVal A = true:=by
 cases S <;> cases A <;> first | (simp [ay] at h; done) | rfl

theorem Ql (hL : bZ P L) {t : Nat} {x ix : Operand} {ok : Bool} (hr : HR c H) (he : fC c e a) (hx : bf x = true) (hix : bf ix = true) (ho : o.op = .lookup t x ix ok)
  (h : bP e x fun A=>bP e ix fun K=>L.bg t fun i=>(match i.desc,i.key with
  | .map _ et,some sh=>FM (ay sh K) <| L.bg et fun ei=>(match A with
    | .mp j=>jB H j fun o=>(match o with
      | .iK sh' es=>FM (ay sh' sh) <| G6 es K fun r=>CW ok ei.zero r fun R=>k R H
      | _=>False)
    | _=>False)
  | _,_=>False)) : bU P o a.eval c H k ks:=by
 obtain ⟨A,hA,h⟩:=aH he hx h
 obtain ⟨K,hK,h⟩:=aH he hix h
 obtain ⟨i,hT,h⟩:=Lay.aT hL h
 obtain ⟨d,hd,hdd⟩:=hT.under
 split at h
 ·rename_i kt et sh hdm hkey
  obtain rfl:=qX (hdd.trans hdm)
  have hko:=hT.keyed kt et sh hdm hkey
  obtain ⟨Jb,h⟩:=oV.1 h
  obtain ⟨ei,hE,h⟩:=Lay.aT hL h
  have TY:=kY hK (Cc Jb)
  split at h
  ·rename_i j
   obtain ⟨_,e1⟩:=Yb hA
   obtain ⟨ob,hob,h⟩:=cZ.1 h
   have hok:=hr.oK hob
   split at h
   ·rename_i sh' es
    obtain ⟨hss,h⟩:=oV.1 h
    obtain ⟨r,hl,hk⟩:=h.ex
    obtain ⟨ents,clock,g1,g2,g3,g4,g5⟩:=hok
    obtain ⟨lk,hlk⟩:=hko.rd c.w c.Im K _ Jb TY.1 (vX sh K _ Jb TY.2).2
    obtain ⟨z,hz,hzs,hzr⟩:=hE.sF c.w
    have hZ : VV c ei.zero z:=⟨hzs,gX _ _ (hzr _ _)⟩
    have run : ∀ {u : Value} {b : Bool},((∃ q,(Instr.findKey kt (a.eval ix) ents.toList).run P c.w = .ok (some (q,u)) c.w) /\ b = true \/ (Instr.findKey kt (a.eval ix) ents.toList).run P c.w = .ok none c.w /\ u = z /\ b = false) ->
      (execOp a.eval o).run P c.w = .ok (.value (if ok then .tuple #[u,.bool b] else u)) c.w:=by
     intro u b hc
     unfold execOp; rw [ho]
     simp only [Instr.lookup,Sem.run_bind,run_underlying hd,Result.andThen_ok,e1,Go.MapKept.run_getObj_map g1,Sem.run_pure,hko.law.check c.w _ hlk]
     rcases hc with ⟨⟨q,hq⟩,rfl⟩ | ⟨hq,rfl,rfl⟩
     ·simp only [hq,Result.andThen_ok,Sem.run_pure,Sem.run_bind]
     ·simp only [hq,Result.andThen_ok,Sem.run_pure,hz,Sem.run_bind]
    rcases MR hko hss g3 g2 g5 Jb TY hl with ⟨rfl,h1⟩ | ⟨V,u,q,rfl,h1,hV⟩
    ·cases ok with
     | true=>exact .pure hr (run (.inr ⟨h1,rfl,rfl⟩)) (yN hZ jV) hk
     | false=>exact .pure hr (run (.inr ⟨h1,rfl,rfl⟩)) (aS hZ) hk
    ·cases ok with
     | true=>exact .pure hr (run (.inl ⟨⟨q,h1⟩,rfl⟩)) (yN hV oG) hk
     | false=>exact .pure hr (run (.inl ⟨⟨q,h1⟩,rfl⟩)) (aS hV) hk
   ·exact h.elim
  ·exact h.elim
 ·exact h.elim

theorem run_setObj_map {r : Nat} {ents : Array MapEntry} {clock : Nat} {w : World} (h : w.heap[r]? = some (.map ents clock)) (o' : Obj) : (setObj r o').run P w = .ok () { w with heap:=w.heap.setIfInBounds r o' }:=by
 simp [setObj,Sem.run,h]

theorem KI {w : World} {b o : Nat} {ents : Array MapEntry} {clock : Nat} (h : w.heap[b]? = some (.map ents clock)) : w.cell? ⟨b,o,none⟩ = none:=by
 simp [World.cell?,h]

theorem Tr.writeMap {c : Cx} {H : Heap} {k : Nat} {sh : AV} {es es' : List (AV × AV)} {ents xX : Array MapEntry} {clock clock' : Nat} (hr : HR c H) (hk : hget H k = some (.iK sh es)) (hg : c.w.heap[c.ρ k]? = some (.map ents clock))
  (hok : c.Le { c with w:={ c.w with heap:=c.w.heap.setIfInBounds (c.ρ k) (.map xX clock') } } -> ({ c.w with heap:=c.w.heap.setIfInBounds (c.ρ k) (.map xX clock') } : World).heap[c.ρ k]? = some (.map xX clock') ->
   (HO.iK sh es').Ok { c with w:={ c.w with heap:=c.w.heap.setIfInBounds (c.ρ k) (.map xX clock') } } k) :
  Tr c H { c with w:={ c.w with heap:=c.w.heap.setIfInBounds (c.ρ k) (.map xX clock') } } (hset H k (.iK sh es')):=by
 have hother : ∀ b,b ≠ c.ρ k -> (c.w.heap.setIfInBounds (c.ρ k) (.map xX clock'))[b]? = c.w.heap[b]?:=fun b hb=>Array.getElem?_setIfInBounds_ne (fun e=>hb e.symm)
 have hlt:=(Array.getElem?_eq_some_iff.1 hg).1
 have hnew : ({ c.w with heap:=c.w.heap.setIfInBounds (c.ρ k) (.map xX clock') } : World).heap[c.ρ k]? = some (.map xX clock'):=by
  show (c.w.heap.setIfInBounds (c.ρ k) _)[c.ρ k]? = _
  rw [Array.getElem?_setIfInBounds_self_of_lt hlt]
 have le : c.Le { c with w:={ c.w with heap:=c.w.heap.setIfInBounds (c.ρ k) (.map xX clock') } }:=by
  refine ⟨fun b y h=>⟨h,?_⟩,Nat.le_refl _,fun _ _=>rfl,fun _ _ _ h=>.inl ⟨h,rfl⟩⟩
  by_cases hb : b = c.ρ k
  ·subst hb; rw [KI hg]; exact KI hnew
  ·exact gG (hother b hb)
 refine Tr.set hr hk le rfl ?_ (fun _ _=>rfl) rfl rfl rfl (by simp) (fun b hb' hn=>hother b ?_) (fun b x h=>.inl h) (fun b h=>.inr ?_) (hok le hnew)
 ·rw [iP hk (by intros; simp) (by intros; simp)]; exact hr.tp
 ·intro e; exact hn (by rw [e]; rfl)
 ·exact h

theorem xE (hL : bZ P L) {t : Nat} {x ix y : Operand} (hr : HR c H) (he : fC c e a) (hx : bf x = true) (hix : bf ix = true) (hy : bf y = true) (ho : o.op = .mapUpdate t x ix y)
  (h : bP e x fun A=>bP e ix fun K=>bP e y fun V=>yE L t A K V H ks) : bU P o a.eval c H k ks:=by
 obtain ⟨A,hA,h⟩:=aH he hx h
 obtain ⟨K,hK,h⟩:=aH he hix h
 obtain ⟨V,hV,h⟩:=aH he hy h
 unfold yE at h
 obtain ⟨i,hT,h⟩:=Lay.aT hL h
 obtain ⟨d,hd,hdd⟩:=hT.under
 split at h
 ·rename_i kt et sh hdm hkey
  obtain rfl:=qX (hdd.trans hdm)
  have hko:=hT.keyed kt et sh hdm hkey
  obtain ⟨Jb,h⟩:=oV.1 h
  obtain ⟨hval,ei,hE,hf,hg,h⟩:=iZ hL h
  have TY:=kY hK (Cc Jb)
  have hVv:=kY hV hval
  obtain ⟨j,rfl⟩ : ∃ j,A = .mp j:=by cases A <;> first | exact h.elim | exact ⟨_,rfl⟩
  obtain ⟨_,e1⟩:=Yb hA
  obtain ⟨ob,hob,h⟩:=cZ.1 h
  have hok:=hr.oK hob
  obtain ⟨sh',es,rfl⟩ : ∃ sh' es,ob = .iK sh' es:=by cases ob <;> first | exact h.elim | exact ⟨_,_,rfl⟩
  obtain ⟨hss,h⟩:=oV.1 h
  obtain ⟨es',hu,hk⟩:=h.ex
  obtain ⟨_,hk⟩:=gy.1 hk
  obtain ⟨ents,clock,g1,g2,g3,g4,g5⟩:=hok
  obtain ⟨lk,hlk⟩:=hko.rd c.w c.Im K _ Jb TY.1 (vX sh K _ Jb TY.2).2
  have ZM : ay sh' K = true:=Aa _ _ _ hss Jb
  obtain ⟨hks,hkeys⟩:=F5 hko hss g3 g2
  have XQ:=hko.law.check c.w false hlk
  rcases hko.law.find c.w hlk ents.toList hkeys with ⟨h1,h2⟩ | ⟨q,x0,h1,h2,h3⟩
  ·have hrun : (execOp a.eval o).run P c.w = .ok .skip { c.w with heap:=c.w.heap.setIfInBounds (c.ρ j) (.map (ents.push { key:=a.eval ix,val:=a.eval y,born:=clock }) (clock + 1)) }:=by
    unfold execOp; rw [ho]
    simp only [Instr.mapUpdate,Sem.run_bind,run_underlying hd,Result.andThen_ok,e1,Go.MapKept.run_getObj_map g1,Sem.run_pure,XQ,h1,run_setObj_map g1]
   rcases hu with ⟨hu1,rfl⟩ | ⟨i,z,hu1,hu2,_⟩
   ·refine .inr (.inl ⟨_,_,hrun,Tr.writeMap hr hob g1 fun le hnew=>⟨_,_,hnew,?_,EL ZM g3,?_,?_⟩,hk⟩)
    ·rw [Array.toList_push]
     exact Ew (nD le TY) (nD le hVv) (yI le g2)
    ·intro e he
     rw [Array.toList_push] at he
     rcases List.mem_append.1 he with he | he
     ·have:=g4 e he; omega
     ·simp at he; subst he; exact Nat.lt_succ_self _
    ·rw [Array.toList_push,List.pairwise_append]
     refine ⟨g5,by simp,fun e he f hf=>?_⟩
     simp at hf; subst hf
     exact h2 e he
   ·exfalso
    obtain ⟨x',hx',YB,_⟩:=ug g2 hu1
    exact h2 x' (List.mem_of_getElem? hx') ((key_eq (pG hks z (List.mem_of_getElem? hu1)) Jb YB TY).2 hu2)
  ·have hq : ents[q]? = some x0:=by simpa using h2
   have hrun : (execOp a.eval o).run P c.w = .ok .skip { c.w with heap:=c.w.heap.setIfInBounds (c.ρ j) (.map (ents.modify q fun e=>{ e with key:=a.eval ix,val:=a.eval y }) clock) }:=by
    unfold execOp; rw [ho]
    simp only [Instr.mapUpdate,Sem.run_bind,run_underlying hd,Result.andThen_ok,e1,Go.MapKept.run_getObj_map g1,Sem.run_pure,XQ,h1,hq,Option.map_some,Option.getD_some,h3,hko.law.stays c.w hlk,run_setObj_map g1]
   have hmod : (ents.modify q fun e=>{ e with key:=a.eval ix,val:=a.eval y }).toList = ents.toList.set q { x0 with key:=a.eval ix,val:=a.eval y }:=by
    apply List.ext_getElem?
    intro n
    rw [Array.getElem?_toList,Array.getElem?_modify,List.getElem?_set]
    by_cases hn : q = n
    ·subst hn
     have hlt:=(Array.getElem?_eq_some_iff.1 hq).1
     rw [if_pos rfl,if_pos rfl,if_pos (by simpa using hlt),hq]
     rfl
    ·simp [hn]
   rcases hu with ⟨hu1,rfl⟩ | ⟨i,z,hu1,hu2,rfl⟩
   ·exfalso
    obtain ⟨z,hz,YB,_⟩:=BK g2 h2
    exact hu1 z (List.mem_of_getElem? hz) ((key_eq (pG hks z (List.mem_of_getElem? hz)) Jb YB TY).1 h3)
   ·obtain ⟨x',hx',YB,_⟩:=ug g2 hu1
    have hkk : x'.key = a.eval ix:=(key_eq (pG hks z (List.mem_of_getElem? hu1)) Jb YB TY).2 hu2
    have hij : i = q:=by
     apply Classical.byContradiction
     intro hne
     obtain ⟨hi1,hi2⟩:=List.getElem?_eq_some_iff.1 hx'
     obtain ⟨hj1,hj2⟩:=List.getElem?_eq_some_iff.1 h2
     rcases Nat.lt_or_gt_of_ne hne with hlt | hlt
     ·have:=List.pairwise_iff_getElem.1 g5 i q hi1 hj1 hlt
      rw [hi2,hj2,hkk,h3] at this; exact this rfl
     ·have:=List.pairwise_iff_getElem.1 g5 q i hj1 hi1 hlt
      rw [hi2,hj2,hkk,h3] at this; exact this rfl
    subst hij
    refine .inr (.inl ⟨_,_,hrun,Tr.writeMap hr hob g1 fun le hnew=>⟨_,_,hnew,?_,PO ZM g3,?_,?_⟩,hk⟩)
    ·rw [hmod]
     exact Px (nD le TY) (nD le hVv) (yI le g2)
    ·intro e he
     rw [hmod] at he
     rcases List.mem_or_eq_of_mem_set he with he | rfl
     ·exact g4 e he
     ·exact g4 x0 (List.mem_of_getElem? h2)
    ·rw [hmod]
     rw [List.pairwise_iff_getElem] at g5 ⊢
     intro m n hm hn hlt
     have hm' : m < ents.toList.length:=by simpa using hm
     have hn' : n < ents.toList.length:=by simpa using hn
     have hk0 : ∀ (r : Nat) (hr : r < (ents.toList.set i { x0 with key:=a.eval ix,val:=a.eval y }).length) (hr' : r < ents.toList.length),((ents.toList.set i { x0 with key:=a.eval ix,val:=a.eval y })[r]).key = (ents.toList[r]).key:=by
      intro r hr hr'
      rw [List.getElem_set]
      split
      ·rename_i hir
       subst hir
       have:=(List.getElem?_eq_some_iff.1 h2).2
       rw [this]; exact h3.symm
      ·rfl
     rw [hk0 m hm hm',hk0 n hn hn']
     exact g5 m n hm' hn' hlt
 ·exact h.elim

end
end Go.AL

namespace Go.AL

def HY : Op -> Bool
 | .move x | .assign x | .load _ x | .nilCheck x | .unOp _ _ x | .convert _ _ x | .makeInterface _ x | .box _ x | .extract x _ | .fieldAddr _ x _ | .field _ x _=>bf x
 | .pick a b d=>bf a && bf b && bf d
 | .store _ x y | .binOp _ _ x y _ | .makeSlice _ x y | .indexAddr _ x y | .index _ x y | .lookup _ x y _=>bf x && bf y
 | .typeAssert x _ _ _=>bf x
 | .mapUpdate _ x y z | .insert _ x y z=>bf x && bf y && bf z
 | .build _ ps | .buildSlice _ _ ps=>ps.toList.all fun p=>bf p.2
 | .makeFunc _ first cap=>first.toList.all bf && cap.toList.all bf
 | .slice _ x lo hi _=>bf x && lo.all bf && hi.all bf
 | .call cl=>cl.args.toList.all bf && (match cl.callee with | .value f=>bf f | _=>true)
 | _=>true

section
variable {P : Program} {L : Lay} {c : Cx} {H : Heap} {e : Env} {a : Act} {k : AV -> Heap -> Prop} {ks : Heap -> Prop} {o : Oper} {F : FT}

theorem MK (hL : bZ P L) {b : Builtin} {cl : Call} (hr : HR c H) (he : fC c e a) (hx : cl.args.toList.all bf = true) (ho : o.op = .call cl) (hc : cl.callee = .builtin b)
  (h : mQ e cl.args.toList fun As=>fA L b cl.argTypes.toList As H k) : bU P o a.eval c H k ks:=by
 have hh:=jZ he hx h
 clear h
 obtain ⟨As,h1,h⟩:=hh
 unfold fA at h
 generalize hat : cl.argTypes.toList = ats at h
 split at h
 ·rename_i t r A
  obtain ⟨i,hT,h⟩:=Lay.aT hL h
  obtain ⟨v,hv,hA⟩:=uT h1
  exact SX hr ho hc (by rw [<- Array.getElem?_toList,hat]; rfl) hT hv hA h
 ·rename_i t u r A B
  obtain ⟨v,x,hv,hA,hB⟩:=rP h1
  exact Qn hL hr ho hc hat hv hA hB h
 ·obtain ⟨v,x,hv,hA,hB⟩:=rP h1
  exact SV hr ho hc hv hA hB h
 ·obtain ⟨v,x,hv,hA,hB⟩:=rP h1
  exact SS hr ho hc hv hA hB h
 ·exact h.elim

theorem nT (hL : bZ P L) (hFn : FS P F) (hr : HR c H) (he : fC c e a) (hb : HY o.op = true) (h : gU F Ok L o.op e H k ks) : bU P o a.eval c H k ks:=by
 cases ho : o.op with
 | move x=>rw [ho] at h hb; exact OE hr he hb (.inl ho) h
 | assign x=>rw [ho] at h hb; exact OE hr he hb (.inr ho) h
 | pick x y z =>
   rw [ho] at h hb; simp only [HY,Bool.and_eq_true] at hb
   exact V7 hr he hb.1.1 hb.1.2 hb.2 ho h
 | alloc t=>rw [ho] at h hb; exact Tf hL hr ho h
 | box t x=>rw [ho] at h hb; exact Yu hL hr he hb ho h
 | build t ps =>
   rw [ho] at h hb
   exact Td hL hr he (fun p hp=>List.all_eq_true.1 hb p hp) ho h
 | buildSlice t n ps =>
   rw [ho] at h hb
   exact EY hL hr he (fun p hp=>List.all_eq_true.1 hb p hp) ho h
 | load t x=>rw [ho] at h hb; exact V9 hL hr he hb ho h
 | store t x y =>
   rw [ho] at h hb; simp only [HY,Bool.and_eq_true] at hb
   exact SL hL hr he hb.1 hb.2 ho h
 | nilCheck x=>rw [ho] at h hb; exact Jz hr he hb ho h
 | binOp op t x y ty =>
   rw [ho] at h hb; simp only [HY,Bool.and_eq_true] at hb
   cases hn : ng (.binOp op t x y ty) with
   | true=>simp only [gU,hn] at h; exact Qk hL hr he hb.1 ho hn h
   | false=>simp only [gU,hn] at h; exact Yv hL hr he hb.1 hb.2 ho h
 | typeAssert x xt s ok=>rw [ho] at h hb; exact EW hL hr he hb ho h
 | makeMap t r =>
   rw [ho] at h
   cases r with
   | none=>exact MG hL hr ho h
   | some x=>exact h.elim
 | lookup t x y ok =>
   rw [ho] at h hb; simp only [HY,Bool.and_eq_true] at hb
   exact Ql hL hr he hb.1 hb.2 ho h
 | mapUpdate t x y z =>
   rw [ho] at h hb; simp only [HY,Bool.and_eq_true] at hb
   exact xE hL hr he hb.1.1 hb.1.2 hb.2 ho h
 | unOp op t x=>rw [ho] at h hb; exact V6 hr he hb ho h
 | convert s d x=>rw [ho] at h hb; exact MI hL hr he hb ho h
 | makeInterface t x=>rw [ho] at h hb; exact yY hL hr he hb ho h
 | makeFunc f first cap=>rw [ho] at h hb; simp only [HY,Bool.and_eq_true] at hb; exact JA hr he hb.2 ho h
 | makeSlice t x y =>
   rw [ho] at h hb; simp only [HY,Bool.and_eq_true] at hb
   exact Hw hL hr he hb.1 hb.2 ho h
 | slice t x lo hi mx =>
   rw [ho] at h hb; simp only [HY,Bool.and_eq_true] at hb
   cases mx with
   | none=>exact SN hL hr he hb.1.1 hb.1.2 hb.2 ho h
   | some y=>exact h.elim
 | fieldAddr t x f=>rw [ho] at h hb; exact Hz hL hr he hb ho h
 | indexAddr t x y =>
   rw [ho] at h hb; simp only [HY,Bool.and_eq_true] at hb
   exact Hy hL hr he hb.1 hb.2 ho h
 | index t x y =>
   rw [ho] at h hb; simp only [HY,Bool.and_eq_true] at hb
   exact SY hL hr he hb.1 hb.2 ho h
 | extract x i=>rw [ho] at h hb; exact MH hr he hb ho h
 | call cl =>
   rw [ho] at h hb; simp only [HY,Bool.and_eq_true] at hb
   cases hc : cl.callee with
   | value f =>
     simp only [gU,hc] at h hb
     exact EX hFn hr he hb.2 hb.1 ho hc h
   | builtin b =>
     simp only [gU,hc] at h
     exact MK hL hr he hb.1 ho hc h
   | invoke r m=>simp only [gU,hc] at h
 | _=>rw [ho] at h; exact h.elim

theorem Py : ∀ {l : List (AV × AV)} {es : List MapEntry},Aw c l es -> es.length = l.length
 | [],_,h=>by simp only [Aw] at h; subst h; rfl
 | (x,y) :: l,es,h=>by
   obtain ⟨e,r,rfl,_,_,h4⟩:=h
   simp [Py h4]

theorem Tc (hL : bZ P L) {cl : Call} {t : Nat} {r : List Nat} {v : Value} {A : AV} (hr : HR c H) (ho : o.op = .call cl) (hc : cl.callee = .builtin .clear) (hat : cl.argTypes.toList = t :: r) (hv : cl.args.toList.map a.eval = [v])
  (h : L.bg t fun i=>(match i.desc,A with
   | .slice el,.ms j off len _ 1=>L.bg el fun ei=>FM (!dn ei.zero) <| jB H j fun o=>(match o with
     | .arr 1 cp l=>(0 < len /\ off + len <= l.length) /\ nY H j (.arr 1 cp (l.take off ++ List.replicate len ei.zero ++ l.drop (off + len))) fun H'=>k (.dA []) H'
     | _=>False)
   | _,_=>False)) (hA : EV c A v) : bU P o a.eval c H k ks:=by
 obtain ⟨i,hT,h⟩:=Lay.aT hL h
 split at h
 ·rename_i el j off len cap hd _
  obtain ⟨d,hu,hdd⟩:=hT.under
  obtain rfl:=bC (hdd.trans hd)
  obtain ⟨ei,hE,h⟩:=Lay.aT hL h
  obtain ⟨hfl,h⟩:=oV.1 h
  obtain ⟨ob,hob,h⟩:=cZ.1 h
  split at h
  ·rename_i cp l
   obtain ⟨⟨h0,hlen⟩,h⟩:=h
   obtain ⟨_,h⟩:=gy.1 h
   obtain ⟨cs,ty,g1,g2,g3,g4,g5,g6⟩:=hr.oK hob
   obtain ⟨z,z1,z2,z3⟩:=hE.sF c.w
   obtain ⟨hj,rfl,_,_⟩:=vK hA
   have hzc : z.cells = #[z]:=z2.2 (by simpa using hfl)
   have hz1 : z.oneCell' = true:=lJ _ _ (gX (c:=c) _ _ (z3 c.w c.Im)) z (by rw [hzc]; simp)
   have hzs : (Builtin.zeroCells z.cells len).toList = List.replicate len z:=by
    rw [hzc]
    simp [Builtin.zeroCells]
    apply List.ext_getElem
    ·simp
    ·intro i h1 h2
     simp [Nat.mod_one]
   rw [Nat.mul_one] at *
   have hst:=run_storeCells_at (P:=P) (c.ρ j) off ty (List.replicate len z) 0 cs.toArray c.w g1 (by simp; omega) (fun v hv=>by rw [List.eq_of_mem_replicate hv]; exact hz1)
   simp only [Nat.add_zero,List.length_replicate] at hst
   refine .inl ⟨.tuple #[],{ c with w:=c.w.setRow (c.ρ j) (cs.take off ++ List.replicate len z ++ cs.drop (off + len)).toArray },.dA [],_,?_,?_,?_,h⟩
   ·rw [fQ ho hc,fU hv]
    obtain ⟨m,rfl⟩ : ∃ m,len = m + 1:=⟨len - 1,by omega⟩
    simp only [builtin,Builtin.clear_,hat,<- Array.getElem?_toList,List.getElem?_cons_zero,Sem.run_bind,run_underlying hu,Result.andThen_ok,z1,hzs,hst,Sem.run_pure]
   ·refine Tr.write hr hob g1 (fun _=>rfl) (fun _=>rfl) g6 (by intros; simp) (by intros; simp) ?_
    have le : c.Le { c with w:=c.w.setRow (c.ρ j) (cs.take off ++ List.replicate len z ++ cs.drop (off + len)).toArray }:=by
     refine ⟨fun b x h=>⟨h,gG (setRow_other c.w _ b _ (fun e=>g6 x (e ▸ h)))⟩,Nat.le_refl _,fun _ _=>rfl,fun _ _ _ h=>.inl ⟨h,rfl⟩⟩
    refine ⟨_,ty,setRow_heap c.w _ _ _ _ _ g1,?_,?_,g4,kW le ?_,g6⟩
    ·simp; omega
    ·simp; omega
    ·refine uS (uS (EC off g5) (by simp; omega) (IV (by have:=z3 c.w c.Im; rw [hzc] at this; simpa using this) len)) (by simp; omega) (EF _ g5)
   ·exact ⟨#[],rfl,rfl⟩
  ·exact h.elim
 ·exact h.elim

theorem Yt {cl : Call} {t el : Nat} {i : TI} (hr : HR c H) (ho : o.op = .call cl) (hc : cl.callee = .builtin .cap) (hat : cl.argTypes[0]? = some t) (hT : nH P t i)
  {v : Value} (hv : cl.args.toList.map a.eval = [v]) (hA : EV c .aV v) (hi : i.desc = .slice el) (h : k (.int .i64 0) H) : bU P o a.eval c H k ks:=by
 obtain ⟨d,hd,hdd⟩:=hT.under
 obtain rfl:=bC (hdd.trans hi)
 obtain rfl:=nC hA
 refine .pure hr (v:=.int .i64 0) ?_ (aS (bT (oZ (n:=0) (by simp [maxL])))) h
 rw [fQ ho hc,fU hv]
 simp only [builtin,Builtin.cap_,hat,List.getElem?_toArray,List.getElem?_cons_zero,Sem.run_bind,run_underlying hd,Result.andThen_ok,Sem.run_pure,goInt]
 rfl

theorem ML (hL : bZ P L) {cl : Call} {t u : Nat} {r : List Nat} {A B : AV} (hr : HR c H) (ho : o.op = .call cl) (hc : cl.callee = .builtin .append) (hat : cl.argTypes.toList = t :: u :: r)
  {v x : Value} (hv : cl.args.toList.map a.eval = [v,x]) (hA : EV c A v) (hB : EV c B x) {kn : IntKind} (hu : P.underlying u = some (.int kn)) (h : En L t A B H k) : bU P o a.eval c H k ks:=by
 unfold En at h
 have hh:=Lay.aT hL h
 clear h
 obtain ⟨i,hT,h⟩:=hh
 obtain ⟨dt,ht,hdt⟩:=hT.under
 split at h
 case h_2=>exact h.elim
 rename_i el hi
 obtain rfl:=bC (hdt.trans hi)
 have hh:=Lay.aT hL h
 clear h
 obtain ⟨ei,hE,h⟩:=hh
 have hh:=oV.1 h
 clear h
 obtain ⟨hfl,h⟩:=hh
 split at h
 case h_2=>exact h.elim
 rename_i kd n
 obtain ⟨⟨h0,h1,h2⟩,h⟩:=h
 obtain rfl:=nC hA
 obtain ⟨rfl,_⟩:=iT hB
 obtain ⟨info,z,g1,g2,g3,g4,g5,g6⟩:=hE.info
 have hf1 : flat ei.zero = 1:=by
  cases hz : ei.zero <;> simp [hz,dn] at hfl <;> simp [flat]
 obtain ⟨m,rfl⟩ : ∃ m : Nat,n = m:=⟨n.toNat,by omega⟩
 have hzc : z.cells = #[z]:=g5.2 (by simpa using hfl)
 have hrun : ∀ ty,(Builtin.append_ #[t,u] ty #[.slice none 0 0,.int kd m]).run P c.w = _:=fun ty =>
  Go.Lib.run_append_nil_zeros c.w t u ty el info z kd kn ht hu g1 g4 m (by omega) (by omega) (by omega) (by
   rw [g3]
   have h3 : ((m * ei.bytes : Nat) : Int) <= 140737488355328:=by rw [Int.natCast_mul]; exact h2
   omega)
 have hge:=grownCap_ge c.w m 0 el
 have hle:=grownCap_le_maxLen c.w m 0 el (by unfold maxLen; omega)
 have hle' : grownCap c.w m 0 el <= maxL:=by simpa [maxL,maxLen] using hle
 have vk : ∀ r w',(Builtin.append_ #[t,u] o.type #[.slice none 0 0,.int kd m]).run P c.w = .ok r w' -> (execOp a.eval o).run P c.w = .ok (.value r) w':=by
  intro rr w' hrr
  rw [fQ ho hc,fU hv]
  have e2 : (Builtin.append_ cl.argTypes o.type #[.slice none 0 0,.int kd m]).run P c.w = (Builtin.append_ #[t,u] o.type #[.slice none 0 0,.int kd m]).run P c.w:=by
   have e0 : cl.argTypes[0]? = some t:=by rw [<- Array.getElem?_toList,hat]; rfl
   have e1 : cl.argTypes[1]? = some u:=by rw [<- Array.getElem?_toList,hat]; rfl
   unfold Builtin.append_
   simp only [e0,e1]
   rfl
  simp only [builtin,Sem.run_bind,e2,hrr,Result.andThen_ok,Sem.run_pure]
 have hrun:=hrun o.type
 generalize hcp : grownCap c.w m 0 el = cap' at hge hle' hrun
 rw [Int.toNat_natCast] at h
 let cs:=Builtin.zeroCells z.cells m ++ Builtin.zeroCells z.cells (cap' - m)
 have hz0 : ∀ n,(Builtin.zeroCells z.cells n).toList = List.replicate n z:=by
  intro n
  rw [hzc]
  simp [Builtin.zeroCells]
  apply List.ext_getElem
  ·simp
  ·intro i h1 h2
   simp [Nat.mod_one]
 have hcs : cs.toList = List.replicate m z ++ List.replicate (cap' - m) z:=by simp only [cs,Array.toList_append,hz0]
 have htd:=Tr.drew hr
 let d0 : Cx:={ c with w:=c.w.drew }
 have hr0 : HR d0 H:=htd.hr
 have htr : Tr c H (d0.push (.cells cs el) ((nextId H,.arr 1 cap' (List.replicate m ei.zero)) :: H)) ((nextId H,.arr 1 cap' (List.replicate m ei.zero)) :: H):=by
  refine htd.trans (Tr.push hr0 _ _ (fun _=>rfl) ?_)
  refine ⟨cs.toList,el,?_,?_,by simp; exact hge,hle',?_,?_⟩
  ·rw [oUρ hr0]; simp only [Cx.push,Array.toArray_toList]; exact alloc_heap_new _ _
  ·rw [hcs]; simp; omega
  ·rw [hcs]
   have:=IV (c:=d0.push (.cells cs el) ((nextId H,.arr 1 cap' (List.replicate m ei.zero)) :: H)) (z:=ei.zero) (y:=z) (by have:=g6 (d0.push (.cells cs el) ((nextId H,.arr 1 cap' (List.replicate m ei.zero)) :: H)).w (d0.push (.cells cs el) ((nextId H,.arr 1 cap' (List.replicate m ei.zero)) :: H)).Im; rw [hzc] at this; simpa using this) m
   have h9:=uS (m:=[]) (ds:=List.replicate (cap' - m) z) this (by simp) trivial
   simpa using h9
  ·intro y hy
   rw [oUρ hr0] at hy
   have:=hr0.im _ _ hy
   omega
 refine .inl ⟨_,_,_,_,vk _ _ hrun,htr,aS (dJ rfl rfl ?_),h cap' hge hle'⟩
 simp only [VR]
 rw [oUρ hr0]
 exact ⟨by simp only [Cx.push,hr0.nx]; omega,by simp [d0],hge,hle'⟩

theorem Ld {u : Nat} {X Y : Prop} (hat : L.bg u fun i=>(match i.desc with | .slice _=>X | .str=>X | .int _=>Y | _=>False)) (hL : bZ P L) :
  ((∃ d,P.underlying u = some d /\ ((∃ e,d = .slice e) \/ d = .string)) /\ X) \/ (∃ kn,P.underlying u = some (.int kn)) /\ Y:=by
 obtain ⟨i,hT,h⟩:=Lay.aT hL hat
 obtain ⟨d,hd,hdd⟩:=hT.under
 cases hi : i.desc <;> simp only [hi] at h <;> first | exact h.elim | skip
 ·exact .inr ⟨⟨_,by rw [hd,DI (hdd.trans hi)]⟩,h⟩
 ·exact .inl ⟨⟨d,hd,.inr (lF (hdd.trans hi))⟩,h⟩
 ·exact .inl ⟨⟨d,hd,.inl ⟨_,bC (hdd.trans hi)⟩⟩,h⟩

theorem JC (hL : bZ P L) {b : Builtin} {cl : Call} (hr : HR c H) (he : fC c e a) (hx : cl.args.toList.all bf = true) (ho : o.op = .call cl) (hc : cl.callee = .builtin b)
  (h : mQ e cl.args.toList fun As=>zK L b cl.argTypes.toList As H k) : bU P o a.eval c H k ks:=by
 have hh:=jZ he hx h
 clear h
 obtain ⟨As,h1,h⟩:=hh
 unfold zK at h
 generalize hat : cl.argTypes.toList = ats at h
 split at h
 ·rename_i t r A
  have hh:=Lay.aT hL h
  clear h
  obtain ⟨i,hT,h⟩:=hh
  obtain ⟨v,hv,hA⟩:=uT h1
  split at h
  ·rename_i p q j hd
   obtain ⟨ob,hob,h⟩:=cZ.1 h
   split at h
   ·rename_i sh es
    obtain ⟨d,hu,hdd⟩:=hT.under
    obtain rfl:=qX (hdd.trans hd)
    obtain ⟨hj,rfl⟩:=X3 hA
    obtain ⟨ents,clock,g1,g2,g3,g4⟩:=hr.oK hob
    have hlen : ents.size = es.length:=by rw [<- Array.length_toList]; exact Py g2
    refine .pure hr (v:=.int .i64 es.length) ?_ (aS (bT (oZ h.1))) h.2
    rw [fQ ho hc,fU hv]
    simp only [builtin,Builtin.len_,hat,<- Array.getElem?_toList,List.getElem?_cons_zero,Sem.run_bind,run_underlying hu,Result.andThen_ok,Go.MapKept.run_getObj_map g1,Sem.run_pure,goInt,hlen]
   ·exact h.elim
  ·rename_i el j n hd
   obtain ⟨ob,hob,h⟩:=cZ.1 h
   split at h
   ·rename_i sz l
    obtain ⟨rfl,h⟩:=h
    obtain ⟨d,hu,hdd⟩:=hT.under
    obtain rfl:=bC (hdd.trans hd)
    obtain ⟨rfl,_,g1,g2⟩:=xO hr hob hA
    refine .pure hr (v:=.int .i64 l.length) ?_ (aS (bT (oZ (Nat.le_trans g1 g2)))) h
    rw [fQ ho hc,fU hv]
    simp only [builtin,Builtin.len_,hat,<- Array.getElem?_toList,List.getElem?_cons_zero,Sem.run_bind,run_underlying hu,Result.andThen_ok,Sem.run_pure,goInt]
   ·exact h.elim
  ·exact SX hr ho hc (by rw [<- Array.getElem?_toList,hat]; rfl) hT hv hA h
 ·rename_i t u r A B
  obtain ⟨v,x,hv,hA,hB⟩:=rP h1
  rcases Ld h hL with hh | ⟨⟨kn,hu⟩,hh⟩
  ·exact MN hL hr ho hc hat hv hA hB hh
  ·exact ML hL hr ho hc hat hv hA hB hu hh
 ·rename_i t r A
  have hh:=Lay.aT hL h
  clear h
  obtain ⟨i,hT,h⟩:=hh
  obtain ⟨v,hv,hA⟩:=uT h1
  split at h
  ·rename_i hd
   exact Yt hr ho hc (by rw [<- Array.getElem?_toList,hat]; rfl) hT hv hA hd h
  ·exact h.elim
 ·obtain ⟨v,x,hv,hA,hB⟩:=rP h1
  exact SV hr ho hc hv hA hB h
 ·obtain ⟨v,x,hv,hA,hB⟩:=rP h1
  exact SS hr ho hc hv hA hB h
 ·rename_i A B C
  obtain ⟨v,r,hv,hA,h1⟩:=h1
  obtain ⟨u,x,rfl,hB,hC⟩:=rP h1
  exact V8 hr ho hc hv hA hB hC h
 ·rename_i t r A
  obtain ⟨v,hv,hA⟩:=uT h1
  exact Tc hL hr ho hc hat hv h hA
 ·exact h.elim

theorem MJ {F : FT} (hFn : FS P F) {f : Operand} {cl : Call} {g j : Nat} {As : List AV} (hr : HR c H) (ho : o.op = .call cl) (hc : cl.callee = .value f)
  (hA : EV c (.bm g j) (a.eval f)) (h2 : uV c As (cl.args.toList.map a.eval)) (h3 : G7 F Ok g (.ptr j [] 0 :: As) H k) : bU P o a.eval c H k ks:=by
 obtain ⟨hj,e1⟩:=VV_bm hA
 have hp : EV c (.ptr j [] 0) (.pointer (some ⟨c.ρ j,0,none⟩)):=aS (dJ rfl rfl (by simp only [VR]; exact ⟨hj,trivial⟩))
 have h1 : uV c (.ptr j [] 0 :: As) (.pointer (some ⟨c.ρ j,0,none⟩) :: cl.args.toList.map a.eval):=⟨_,_,rfl,hp,h2⟩
 have key : ∃ R H',(∃ fn,P.funcs[g]? = some fn /\ (fn.name == "runtime.NumGoroutine") = false /\ fn.body.isSome = true) /\
   (Calls P g (.pointer (some ⟨c.ρ j,0,none⟩) :: cl.args.toList.map a.eval).toArray c.w fun e w'=>∃ v d,e = .returned v /\ d.w = w' /\ Tr c H d H' /\ EV d R v) /\ k R H':=by
  have fin : ∀ {R H'},(Calls P g (.pointer (some ⟨c.ρ j,0,none⟩) :: cl.args.toList.map a.eval).toArray c.w fun e w'=>∃ v d,e = .returned v /\ d.w = w' /\ Tr c H d H' /\ EV d R v) -> Ok R:=by
   intro R H' hcall
   obtain ⟨e',w',fr,⟨v,d,_,_,_,h8⟩,_⟩:=hcall []
   exact vO h8
  cases h3 with
  | gen R H' hF hk =>
    have hF:=hFn.h _ _ _ _ _ hF
    have hcall:=hF.2 c _ hr h1
    exact ⟨R,H',hF.1,hcall,hk (fin hcall)⟩
  | pure Bs R hle hb hF hk =>
    have hF:=hFn.h _ _ _ _ _ hF
    have hcall:=aQ.pure hF hb.1 hb.2 hr (uJ hle h1)
    exact ⟨R,H,hF.1,hcall,hk (fin hcall)⟩
 obtain ⟨R,H',⟨fn,f1,f2,f3⟩,hcall,hk⟩:=key
 refine .inr (.inr ⟨g,_,?_,hcall.mono fun _ _ ⟨v,d,h1,h2,h3,h4⟩=>⟨v,d,R,H',h1,h2,h3,h4,hk⟩⟩)
 unfold execOp; rw [ho]
 simp only [resolve,hc,e1,Deferred.ofValue,Sem.run_bind,Sem.run_pure,Result.andThen_ok,invoke,callFunc,run_program,f1,f2,Bool.false_eq_true,if_false]
 have : fn.body.isNone = false:=by cases hb : fn.body <;> simp [hb] at f3 ⊢
 simp only [this,Bool.false_eq_true,if_false,Sem.run_pure]
 congr 2
 simp

theorem Qm {t : Nat} {x ix y : Operand} (ho : o.op = .insert t x ix y) (h : bU P { o with op:=.mapUpdate t x ix y } a.eval c H k ks) : bU P o a.eval c H k ks:=by
 have e : execOp a.eval { o with op:=.mapUpdate t x ix y } = execOp a.eval o:=by
  unfold execOp; rw [ho]
 unfold bU at h ⊢
 rw [e] at h
 exact h

theorem S9 (hL : bZ P L) {t f : Nat} {x : Operand} {A : AV} (hr : HR c H) (ho : o.op = .field t x f) (hA : EV c A (a.eval x))
  (h : IK L t A f fun R=>k R H) : bU P o a.eval c H k ks:=by
 unfold IK at h
 obtain ⟨i,hT,h⟩:=Lay.aT hL h
 split at h
 ·rename_i fs zs l hd hz _
  obtain ⟨z,hf,h⟩:=iQ.1 h
  obtain ⟨gs,fd,h1,h2,h3,h4⟩:=hT.field ⟨_,hd⟩ hz hf
  obtain ⟨g,hg,h⟩:=iQ.1 h
  obtain ⟨j,hJ,h⟩:=Lay.aT hL h
  split at h
  ·rename_i hj
   obtain ⟨hfl,h⟩:=bn.1 h
   obtain ⟨y,hy,h⟩:=iQ.1 h
   split at h
   ·rename_i hny
    obtain ⟨d,d1,d2⟩:=hT.under
    obtain ⟨gs',rfl,hfs⟩:=pR (d2.trans hd)
    rw [h1] at d1
    have d1:=Option.some.inj d1
    have hgs : gs' = gs:=by injection d1 with d1; exact d1.symm
    subst hgs
    have e1 : g.2.2 = fd.type:=by
     rw [hfs,List.getElem?_map,Array.getElem?_toList,h2] at hg
     have:=Option.some.inj hg
     rw [<- this]
    rw [e1] at hJ
    have hA : VV c (.ag l) (a.eval x):=hA
    obtain ⟨cs,hcs⟩:=hA.1.1 rfl
    have hV:=hA.2
    rw [hcs] at hV
    simp only [VR] at hV
    obtain ⟨pre,xs,post,e2,e3,e4,_⟩:=qA hV hy
    obtain ⟨u,rfl,_⟩:=mD e4 hny
    have hu : cs[fd.offset]? = some u:=by
     have e2 : cs.toList = pre ++ [u] ++ post:=e2
     rw [<- Array.getElem?_toList,e2,h3,<- hfl,<- e3,List.append_assoc,List.getElem?_append_right (Nat.le_refl _),Nat.sub_self]; rfl
    refine .pure hr (v:=u) ?_ (aS (yG e4 hny)) h
    unfold execOp; rw [ho]
    simp only [Instr.field,hcs,Sem.run_bind,run_underlying h1,Result.andThen_ok,h2,asAgg,part,hJ.FD,hj,Sem.run_pure,Bool.false_eq_true,if_false,hu]
   ·exact h.elim
  ·exact h.elim
 ·exact h.elim

theorem Qj (hL : bZ P L) (hFn : FS P F) (hr : HR c H) (he : fC c e a) (hb : HY o.op = true) (h : Y1 F Ok L o.op e H k ks) : bU P o a.eval c H k ks:=by
 unfold Y1 at h
 split at h
 ·rename_i cl hop
  split at h
  ·rename_i b hc
   rw [hop] at hb; simp only [HY,Bool.and_eq_true] at hb
   exact JC hL hr he hb.1 hop hc h
  ·rename_i f hc
   have hb':=hb
   rw [hop] at hb'; simp only [HY,hc,Bool.and_eq_true] at hb'
   obtain ⟨A,hA,h⟩:=aH he hb'.2 h
   split at h
   ·rename_i g j
    obtain ⟨As,h1,h⟩:=jZ he hb'.1 h
    exact MJ hFn hr hop hc hA h1 h
   ·exact JB hFn hr he hb'.1 hop hc hA h
   ·exact nT hL hFn hr he hb (by rw [hop]; exact h)
  ·exact nT hL hFn hr he hb (by rw [hop]; exact h)
 ·rename_i f first cap hop
  split at h
  ·rename_i x hf
   have hb':=hb
   rw [hop] at hb'; simp only [HY,hf,Bool.and_eq_true] at hb'
   split at h
   ·rename_i g hcap
    obtain ⟨A,hA,h⟩:=aH he (by simpa using hb'.1) h
    split at h
    ·rename_i j
     obtain ⟨hj,e1⟩:=wP hA
     obtain rfl : first = #[x]:=by cases first; simp at hf; subst hf; rfl
     obtain rfl : cap = #[]:=by cases cap; simp at hcap; subst hcap; rfl
     refine .pure hr (v:=.func (.func g) #[.pointer (some ⟨c.ρ j,0,none⟩)] #[]) ?_ (aS (dJ rfl rfl ?_)) h
     ·unfold execOp; rw [hop]
      simp [Instr.makeFunc,e1]
     ·simp only [VR]; exact ⟨hj,trivial⟩
    ·exact h.elim
   ·exact h.elim
  ·exact nT hL hFn hr he hb (by rw [hop]; exact h)
 ·rename_i t x ix y hop
  rw [hop] at hb; simp only [HY,Bool.and_eq_true] at hb
  have:=xE (o:={ o with op:=.mapUpdate t x ix y }) (P:=P) (k:=k) (ks:=ks) hL hr he hb.1.1 hb.1.2 hb.2 rfl h
  exact Qm hop this
 ·rename_i t x f hop
  rw [hop] at hb
  obtain ⟨A,hA,h⟩:=aH he hb h
  exact S9 hL hr hop hA h
 ·rename_i t x y ty hop
  split at h
  ·exact nT hL hFn hr he hb (by rw [hop]; exact h)
  ·rw [hop] at hb; simp only [HY,Bool.and_eq_true] at hb
   obtain ⟨A,hA,h⟩:=aH he hb.1 h
   obtain ⟨B,hB,h⟩:=aH he hb.2 h
   have hx : ∃ m n,A = .int .i64 m /\ B = .int .i64 n /\ k (.int .i64 (IntKind.i64.wrap (m + n))) H:=by
    split at h
    ·exact ⟨_,_,rfl,rfl,h⟩
    ·exact h.elim
   ·obtain ⟨m,n,rfl,rfl,h⟩:=hx
    obtain ⟨e1,r1⟩:=iT hA
    obtain ⟨e2,_⟩:=iT hB
    refine .pure hr (v:=.int .i64 (IntKind.i64.wrap (m + n))) (iW hop ?_ (by rw [e1,e2]; simp [binOp,Op.intArith])) (aS (bT (lN _ _))) h
    rw [e1,e2]
    exact gZ (by rintro ⟨_,_,h,_⟩; cases h) (by intro h; cases h)
 ·exact nT hL hFn hr he hb h

theorem getD_set_ne {xs : Array Value} {i j : Nat} {v d : Value} (h : i ≠ j) : (xs.setIfInBounds i v).getD j d = xs.getD j d:=by
 rw [Array.getD_eq_getD_getElem?,Array.getD_eq_getD_getElem?,Array.getElem?_setIfInBounds_ne h]

theorem Ag {xs : Array Value} {i : Nat} {v d : Value} (h : i < xs.size) : (xs.setIfInBounds i v).getD i d = v:=by
 rw [Array.getD_eq_getD_getElem?,Array.getElem?_setIfInBounds_self_of_lt h]; rfl

structure nN (n : Nat) (c : Cx) (e : Env) (a : Act) : Prop where
 env : fC c e a
 defers : a.defers = []
 size : a.tmps.size = n

theorem nN.put {n : Nat} {e : Env} {d : Nat} {A : AV} {v : Value} (h : nN n c e a) (hd : d < n) (hv : EV c A v) : nN n c ((d,A) :: e) (a.put (some d) v):=by
 refine ⟨fun t B hB=>?_,h.defers,by simp [Act.put,h.size]⟩
 simp only [dL] at hB
 simp only [Act.put]
 cases hb : Nat.beq d t with
 | true =>
   rw [hb] at hB
   obtain rfl:=Nat.eq_of_beq_eq_true hb
   obtain rfl:=Option.some.inj hB
   rw [Ag (by rw [h.size]; exact hd)]; exact hv
 | false =>
   rw [hb] at hB
   rw [getD_set_ne (dZ hb)]; exact h.env _ _ hB

theorem nN.mono {n : Nat} {d : Cx} (h : nN n c e a) (le : c.Le d) : nN n d e a:=⟨fun t A hA=>iM le (h.env t A hA),h.defers,h.size⟩

def Fr (ws : List Nat) (a a' : Act) : Prop:=∀ t,t ∉ ws -> a'.tmps.getD t undef = a.tmps.getD t undef

theorem Fr.refl (ws : List Nat) (a : Act) : Fr ws a a:=fun _ _=>rfl
theorem Fr.trans {ws ws' : List Nat} {a b d : Act} (h : Fr ws a b) (g : Fr ws' b d) : Fr (ws ++ ws') a d:=by
 intro t ht
 simp only [List.mem_append,not_or] at ht
 rw [g t ht.2,h t ht.1]
theorem Fr.mono {ws ws' : List Nat} {a b : Act} (h : Fr ws a b) (hs : ∀ t ∈ ws,t ∈ ws') : Fr ws' a b:=fun t ht=>h t (fun h'=>ht (hs t h'))

theorem Fr.put {d : Nat} {v : Value} : Fr [d] a (a.put (some d) v):=by
 intro t ht
 simp at ht
 simp only [Act.put]
 exact getD_set_ne (fun e=>ht e.symm)

def sJ (n : Nat) (o : Oper) : Bool:=HY o.op && (match o.dst with | some d=>Nat.blt d n | none=>true)

theorem BR {b : Bool} : undef ≠ .bool b:=by simp [undef]

theorem RV {d : Nat} {b : Bool} (h : a.tmps.getD d undef = .bool b) : a.tmps[d]? = some (.bool b):=by
 rw [Array.getD_eq_getD_getElem?] at h
 cases hx : a.tmps[d]? with
 | none=>rw [hx] at h; exact absurd h BR
 | some v=>rw [hx] at h; simp at h; rw [h]

theorem Du {k : Nat -> Prop} : ∀ {l : List Oper} {j : Nat},WG l j k -> ∃ o d,l[j]? = some o /\ o.dst = some d /\ k d
 | [],_,h=>h.elim
 | o :: l,0,h=>by
   simp only [WG] at h
   cases hd : o.dst with
   | none=>simp [hd] at h
   | some d=>simp only [hd] at h; exact ⟨o,d,rfl,hd,h⟩
 | o :: l,j + 1,h=>by simpa using Du (l:=l) h

theorem zS {ops : Array Oper} {j d : Nat} {b x : Bool} {oj : Oper} (hg : o.guard = some (j,b)) (hj : ops[j]? = some oj) (hd : oj.dst = some d) (hv : a.tmps.getD d undef = .bool x) :
  Region.wanted o (yielded ops a.tmps) = (x == b):=by
 unfold Region.wanted yielded
 simp [hg,hj,hd,RV hv]

theorem zV {ops : Array Oper} (hg : o.guard = none) : Region.wanted o (yielded ops a.tmps) = true:=by
 unfold Region.wanted; rw [hg]

theorem wU {ops : Array Oper} {j d : Nat} {b : Bool} {oj : Oper} (hg : o.guard = some (j,b)) (hj : ops[j]? = some oj) (hd : oj.dst = some d) (hv : a.tmps.getD d undef = undef) :
  Region.wanted o (yielded ops a.tmps) = false:=by
 unfold Region.wanted yielded
 rw [Array.getD_eq_getD_getElem?] at hv
 cases hx : a.tmps[d]? with
 | none=>simp [hg,hj,hd,hx]
 | some v =>
   rw [hx] at hv
   simp only [Option.getD_some] at hv
   subst hv
   simp [hg,hj,hd,hx,undef]

theorem PS {c : Cx} {v : Value} (h : EV c (.dA []) v) : v = undef:=by
 obtain ⟨vs,rfl,h2⟩:=h
 simp only [VA] at h2
 have : vs = #[]:=by cases vs; simp_all
 subst this; rfl

theorem Hl {c : Cx} : EV c (.dA []) undef:=⟨#[],rfl,by simp only [VA]⟩

theorem xM {n : Nat} {ops : Array Oper} {yes no : Env -> Prop} (ha : nN n c e a) (h : sU ops.toList o.guard e yes no) :
  ∃ e',nN n c e' a /\ ((Region.wanted o (yielded ops a.tmps) = true /\ yes e') \/ (Region.wanted o (yielded ops a.tmps) = false /\ no e')):=by
 cases hg : o.guard with
 | none=>rw [hg] at h; exact ⟨e,ha,.inl ⟨zV hg,h⟩⟩
 | some g =>
   obtain ⟨j,b⟩:=g
   rw [hg] at h
   obtain ⟨oj,d,h1,h2,h3⟩:=Du h
   obtain ⟨A,h4,h5⟩:=gB.1 h3
   have hA:=ha.env d A h4
   have h1' : ops[j]? = some oj:=by rw [<- Array.getElem?_toList]; exact h1
   have RH : ∀ x,a.tmps.getD d undef = .bool x -> Region.wanted o (yielded ops a.tmps) = (x == b):=fun x hx=>zS hg h1' h2 hx
   have ext : ∀ (A' : AV),EV c A' (a.tmps.getD d undef) -> nN n c ((d,A') :: e) a:=by
    intro A' hA'
    refine ⟨fun t B hB=>?_,ha.defers,ha.size⟩
    simp only [dL] at hB
    cases hb : Nat.beq d t with
    | true =>
      rw [hb] at hB
      obtain rfl:=Nat.eq_of_beq_eq_true hb
      obtain rfl:=Option.some.inj hB
      exact hA'
    | false=>rw [hb] at hB; exact ha.env _ _ hB
   have tt : ∀ {v : Value},v = .bool true -> EV c .tt v:=by rintro v rfl; exact aS (dJ rfl rfl (by simp only [VR,Rd]))
   have ff : ∀ {v : Value},v = .bool false -> EV c .ff v:=by rintro v rfl; exact aS (dJ rfl rfl (by simp only [VR,Rd]))
   split at h5
   ·exact ⟨e,ha,.inl ⟨by rw [RH true (tY hA)]; rfl,h5⟩⟩
   ·exact ⟨e,ha,.inr ⟨by rw [RH true (tY hA)]; rfl,h5⟩⟩
   ·exact ⟨e,ha,.inr ⟨by rw [RH false (tZ hA)]; rfl,h5⟩⟩
   ·exact ⟨e,ha,.inl ⟨by rw [RH false (tZ hA)]; rfl,h5⟩⟩
   ·rename_i x
    have hx:=fO hA
    cases x with
    | true=>exact ⟨_,ext .tt (tt hx),.inl ⟨by rw [RH true hx]; rfl,h5.1 rfl⟩⟩
    | false=>exact ⟨_,ext .ff (ff hx),.inr ⟨by rw [RH false hx]; rfl,h5.2 rfl⟩⟩
   ·rename_i x
    have hx:=fO hA
    cases x with
    | true=>exact ⟨_,ext .tt (tt hx),.inr ⟨by rw [RH true hx]; rfl,h5.1 rfl⟩⟩
    | false=>exact ⟨_,ext .ff (ff hx),.inl ⟨by rw [RH false hx]; rfl,h5.2 rfl⟩⟩
   ·rename_i p
    obtain ⟨x,hx,hp⟩:=ku hA
    cases x with
    | true=>exact ⟨_,ext .tt (tt hx),.inl ⟨by rw [RH true hx]; rfl,h5.1 (hp.1 rfl)⟩⟩
    | false=>exact ⟨_,ext .ff (ff hx),.inr ⟨by rw [RH false hx]; rfl,h5.2 (fun h=>by have:=hp.2 h; cases this)⟩⟩
   ·rename_i p
    obtain ⟨x,hx,hp⟩:=ku hA
    cases x with
    | true=>exact ⟨_,ext .tt (tt hx),.inr ⟨by rw [RH true hx]; rfl,h5.1 (hp.1 rfl)⟩⟩
    | false=>exact ⟨_,ext .ff (ff hx),.inl ⟨by rw [RH false hx]; rfl,h5.2 (fun h=>by have:=hp.2 h; cases this)⟩⟩
   ·exact ⟨e,ha,.inr ⟨wU hg h1' h2 (PS hA),h5⟩⟩
   ·exact h5.elim

theorem Ef (hL : bZ P L) (hFn : FS P F) {n : Nat} {ops : Array Oper} {Q : Exit -> Act -> World -> Prop} {k : Env -> Heap -> Prop} :
  ∀ {l : List Oper} {e : Env} {H : Heap} {c : Cx} {a : Act},l.all (sJ n) = true -> HR c H -> nN n c e a -> NM F Ok L ops.toList l e H k ->
    (∀ e' H' c' a',k e' H' -> Tr c H c' H' -> nN n c' e' a' -> Fr (dW l) a a' -> Q .normal a' c'.w) -> wpList P ops Q l a c.w
 | [],e,H,c,a,_,hr,ha,h,hq=>hq e H c a h (.refl hr) ha (Fr.refl _ _)
 | o :: l,e,H,c,a,hl,hr,ha,h,hq=>by
   simp only [List.all_cons,Bool.and_eq_true,sJ] at hl
   obtain ⟨⟨hb,hdst⟩,hl⟩:=hl
   have ih:=@Ef hL hFn n ops Q k l
   have hlt : ∀ d,o.dst = some d -> d < n:=fun d hd=>by rw [hd] at hdst; exact Nat.le_of_ble_eq_true hdst
   have cont : ∀ (v : Value) (A : AV) (c' : Cx) (H' : Heap) (e1 : Env),Tr c H c' H' -> nN n c' e1 a -> EV c' A v -> qO o.dst A e1 (fun e'=>NM F Ok L ops.toList l e' H' k) -> wpList P ops Q l (a.put o.dst v) c'.w:=by
    intro v A c' H' e1 htr ha' hv hk
    cases hd : o.dst with
    | none =>
      rw [hd] at hk
      refine ih hl htr.hr ha' hk fun e' Jc c'' a' g1 g2 g3 g4=>hq e' Jc c'' a' g1 (htr.trans g2) g3 ?_
      simp only [dW,hd]
      exact g4
    | some d =>
      rw [hd] at hk
      refine ih hl htr.hr (ha'.put (hlt d hd) hv) hk fun e' Jc c'' a' g1 g2 g3 g4=>hq e' Jc c'' a' g1 (htr.trans g2) g3 ?_
      simp only [dW,hd]
      exact Fr.trans (ws:=[d]) Fr.put g4
   simp only [NM] at h
   obtain ⟨e1,ha1,hcase⟩:=xM ha h
   simp only [wpList]
   rcases hcase with ⟨hw,h1⟩ | ⟨hw,h1⟩
   ·rw [if_pos hw]
    refine .inl ?_
    have hop:=Qj hL hFn hr ha1.env hb h1
    unfold Oper.wp
    rcases hop with ⟨v,d,A,H',g1,g2,g3,g4⟩ | ⟨d,H',g1,g2,g3⟩ | ⟨f,args,g1,g2⟩
    ·rw [g1,Oper.upon_value]
     exact cont v A d H' e1 g2 (ha1.mono g2.le) g3 g4
    ·rw [g1,Oper.upon_skip]
     cases hd : o.dst with
     | none=>rw [hd] at g3; exact hd ▸ cont undef .und d H' e1 g2 (ha1.mono g2.le) trivial (by rw [hd]; exact g3)
     | some d'=>rw [hd] at g3; exact g3.elim
    ·rw [g1,Oper.upon_enter]
     refine Calls.mono g2 ?_
     rintro _ w' ⟨v,d,R,H',rfl,rfl,g4,g5,g3⟩
     exact cont v R d H' e1 g4 (ha1.mono g4.le) g5 g3
   ·rw [hw]
    simp only [Bool.false_eq_true,if_false]
    exact cont undef (.dA []) c H e1 (.refl hr) ha1 Hl h1

end
end Go.AL
