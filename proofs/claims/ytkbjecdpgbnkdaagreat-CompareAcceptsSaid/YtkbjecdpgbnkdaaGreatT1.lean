/-
  A logic for calls of Go functions: each operation is sound. Nothing is assumed.
-/
import Derived.Test.YtkbjecdpgbnkdaaGreatT0
import Derived.Laws.Strings
import Derived.Laws.StructEq
import Derived.Great.BuildSlice
import Derived.Tactics

namespace Go.AL

def aA (P : Program) (f : Nat) (args : List AV) (H : Heap) (R : AV) (H' : Heap) : Prop :=
 (∃ fn,P.funcs[f]? = some fn /\ (fn.name == "runtime.NumGoroutine") = false /\ fn.body.isSome = true) /\
 ∀ (c : Cx) (vs : List Value),HR c H -> Az c args vs -> Calls P f vs.toArray c.w fun e w'=>∃ v d,e = .returned v /\ d.w = w' /\ Tr c H d H' /\ EV d R v

def dD (P : Program) (o : Oper) (ρ : Operand -> Value) (c : Cx) (H : Heap) (k : AV -> Heap -> Prop) (ks : Heap -> Prop) : Prop :=
 (∃ v d A H',(execOp ρ o).run P c.w = .ok (.value v) d.w /\ Tr c H d H' /\ EV d A v /\ k A H') \/
 (∃ d H',(execOp ρ o).run P c.w = .ok .skip d.w /\ Tr c H d H' /\ ks H') \/
 (∃ f args R H',(execOp ρ o).run P c.w = .ok (.enter f args) c.w /\
  (Calls P f args c.w fun e w'=>∃ v d,e = .returned v /\ d.w = w' /\ Tr c H d H' /\ EV d R v) /\ k R H')

section
variable {P : Program} {L : Lay} {c : Cx} {H : Heap} {e : Env} {a : Act} {k : AV -> Heap -> Prop} {ks : Heap -> Prop} {o : Oper}

theorem dD.pure (hr : HR c H) {v : Value} {A : AV} (hrun : (execOp a.eval o).run P c.w = .ok (.value v) c.w) (hv : EV c A v) (hk : k A H) : dD P o a.eval c H k ks :=
 .inl ⟨v,c,A,H,hrun,.refl hr,hv,hk⟩

theorem kE {kd : IntKind} {n : Int} {v : Value} (h : EV c (.int kd n) v) : v = .int kd n /\ uN kd n:=VV_int h
theorem Hq {s : List UInt8} {v : Value} (h : EV c (.str s) v) : v = .string ⟨s.toArray⟩ /\ s.length <= maxL:=Qw h

theorem Eh (s : List UInt8) : ByteArray.toList ⟨s.toArray⟩ = s:=ByteArray.toList_mk s

theorem Q8 (hr : HR c H) (he : gJ c e a) {x : Operand} (hx : bF x = true) (ho : o.op = .move x \/ o.op = .assign x) (h : bV e x fun A=>k A H) : dD P o a.eval c H k ks:=by
 obtain ⟨A,h1,h2⟩:=aW he hx h
 refine .pure hr (v:=a.eval x) ?_ h1 h2
 rcases ho with ho | ho <;> simp [execOp,ho]

theorem VH {cc x y : Operand} (ho : o.op = .pick cc x y) {b : Bool} (hb : a.eval cc = .bool b) : (execOp a.eval o).run P c.w = .ok (.value (if b then a.eval x else a.eval y)) c.w:=by
 unfold execOp; rw [ho]; simp only [hb,asBool]; cases b <;> rfl

theorem Y5 (hr : HR c H) (he : gJ c e a) {cc x y : Operand} (h1 : bF cc = true) (h2 : bF x = true) (h3 : bF y = true) (ho : o.op = .pick cc x y)
  (h : bV e cc fun C=>(match C with
  | .tt=>bV e x fun A=>k A H
  | .ff=>bV e y fun A=>k A H
  | .bool b=>(b = true -> bV e x fun A=>k A H) /\ (b = false -> bV e y fun A=>k A H)
  | .dec p=>(p -> bV e x fun A=>k A H) /\ (¬ p -> bV e y fun A=>k A H)
  | _=>False)) : dD P o a.eval c H k ks:=by
 obtain ⟨C,g1,g2⟩:=aW he h1 h
 have key : ∃ b,a.eval cc = .bool b /\ (b = true -> bV e x fun A=>k A H) /\ (b = false -> bV e y fun A=>k A H):=by
  split at g2
  ·exact ⟨true,vV g1,fun _=>g2,fun h=>by cases h⟩
  ·exact ⟨false,vW g1,(fun h=>by cases h),fun _=>g2⟩
  ·exact ⟨_,gX g1,g2⟩
  ·obtain ⟨b,h4,h5⟩:=kV g1
   exact ⟨b,h4,fun hb=>g2.1 (h5.1 hb),fun hb=>g2.2 (fun hp=>by rw [h5.2 hp] at hb; cases hb)⟩
  ·exact g2.elim
 obtain ⟨b,hb,hy,hn⟩:=key
 have hrun:=VH (P:=P) (c:=c) ho hb
 cases b with
 | true =>
   obtain ⟨A,h4,h5⟩:=aW he h2 (hy rfl)
   exact .pure hr hrun (by simpa using h4) h5
 | false =>
   obtain ⟨A,h4,h5⟩:=aW he h3 (hn rfl)
   exact .pure hr hrun (by simpa using h4) h5

theorem je {op : BinOp} {t : Nat} {x y : Operand} {v u : Value} (h : ¬ (∃ cs ds,v = .agg cs /\ u = .agg ds))
  (h' : v = .nilIface -> u = .nilIface -> (op = .eql \/ op = .neq) -> (jA x || jA y) = true) : (eqGuard op t x y v u).run P c.w = .ok () c.w:=by
 unfold eqGuard
 cases op
 case eql =>
  simp only [Bool.not_true,Bool.false_eq_true,if_false]
  split
  ·have h3:=h' rfl rfl (.inl rfl)
   cases x <;> cases y <;> first | (simp [jA] at h3; done) | rfl
  ·exact absurd ⟨_,_,rfl,rfl⟩ h
  ·rfl
 case neq =>
  simp only [Bool.not_true,Bool.false_eq_true,if_false]
  split
  ·have h3:=h' rfl rfl (.inr rfl)
   cases x <;> cases y <;> first | (simp [jA] at h3; done) | rfl
  ·exact absurd ⟨_,_,rfl,rfl⟩ h
  ·rfl
 all_goals rfl

theorem jV {op : BinOp} {t ty : Nat} {x y : Operand} (ho : o.op = .binOp op t x y ty) {r : Value}
  (hg : (eqGuard op t x y (a.eval x) (a.eval y)).run P c.w = .ok () c.w) (h : (binOp op t (a.eval x) (a.eval y)).run P c.w = .ok r c.w) :
  (execOp a.eval o).run P c.w = .ok (.value r) c.w:=by
 unfold execOp; rw [ho]; simp only [Sem.run_bind,hg,Result.andThen_ok,h,Sem.run_pure]

theorem run_equalIn_bool {t : Nat} (ht : P.underlying t = some .bool) (d : Nat) (x y : Bool) (w : World) : (Op.equalIn (d + 1) t (.bool x) (.bool y)).run P w = .ok (x == y) w:=by
 simp only [Op.equalIn,Sem.run_bind,run_underlying ht,Result.andThen_ok,Sem.run_pure]

theorem run_equal_bool {t : Nat} (ht : P.underlying t = some .bool) (x y : Bool) (w : World) : (Op.equal t (.bool x) (.bool y)).run P w = .ok (x == y) w :=
 run_equalIn_bool ht 9999 x y w

theorem zh {t : Nat} {ms : Array (String × TypeId)} (ht : P.underlying t = some (.interface ms)) {v u : Value} {b : Bool}
  (h : (v = .nilIface /\ u = .nilIface /\ b = true) \/ (v = .nilIface /\ (∃ t x,u = .iface t x) /\ b = false) \/ ((∃ t x,v = .iface t x) /\ u = .nilIface /\ b = false)) (d : Nat) (w : World) :
  (Op.equalIn (d + 1) t v u).run P w = .ok b w:=by
 rcases h with ⟨rfl,rfl,rfl⟩ | ⟨rfl,⟨t,x,rfl⟩,rfl⟩ | ⟨⟨t,x,rfl⟩,rfl,rfl⟩ <;> simp only [Op.equalIn,Sem.run_bind,run_underlying ht,Result.andThen_ok,Sem.run_pure]

theorem uD {t : Nat} {ms : Array (String × TypeId)} (ht : P.underlying t = some (.interface ms)) {v u : Value} {b : Bool}
  (h : (v = .nilIface /\ u = .nilIface /\ b = true) \/ (v = .nilIface /\ (∃ t x,u = .iface t x) /\ b = false) \/ ((∃ t x,v = .iface t x) /\ u = .nilIface /\ b = false)) (w : World) :
  (Op.equal t v u).run P w = .ok b w:=zh ht h 9999 w

theorem Dl {t el : Nat} (ht : P.underlying t = some (.pointer el)) (p : Option Addr) (d : Nat) (w : World) :
  (Op.equalIn (d + 1) t (.pointer p) (.pointer none)).run P w = .ok p.isNone w:=by
 cases p <;> simp only [Op.equalIn,Sem.run_bind,run_underlying ht,Result.andThen_ok,Sem.run_pure] <;> rfl

theorem xI {t el : Nat} (ht : P.underlying t = some (.pointer el)) (p : Option Addr) (w : World) :
  (Op.equal t (.pointer p) (.pointer none)).run P w = .ok p.isNone w:=Dl ht p 9999 w

theorem CQ {d : TypeDesc} (h : descOf P d = .bool) : d = .bool:=by cases d <;> simp [descOf] at h; rfl
theorem Ad {d : TypeDesc} (h : descOf P d = .iface) : ∃ ms,d = .interface ms:=by cases d <;> simp [descOf] at h; exact ⟨_,rfl⟩
theorem FU {d : TypeDesc} {n : Nat} (h : descOf P d = .ptr n) : d = .pointer n:=by cases d <;> simp [descOf] at h; subst h; rfl
theorem dS {d : TypeDesc} {n : Nat} (h : descOf P d = .slice n) : d = .slice n:=by cases d <;> simp [descOf] at h; subst h; rfl
theorem P5 {d : TypeDesc} {kd : IntKind} (h : descOf P d = .int kd) : d = .int kd:=by cases d <;> simp [descOf] at h; subst h; rfl
theorem o7 {d : TypeDesc} (h : descOf P d = .str) : d = .string:=by cases d <;> simp [descOf] at h; rfl
theorem qP {d : TypeDesc} {fs : List (Nat × Nat × Nat)} (h : descOf P d = .struct fs) : ∃ gs,d = .struct gs /\ fs = gs.toList.map fun f=>(f.offset,P.cellsOf f.type,f.type):=by
 cases d <;> simp [descOf] at h; exact ⟨_,rfl,by simp [h]⟩
theorem FV {d : TypeDesc} {n m : Nat} (h : descOf P d = .arr n m) : d = .array n m:=by cases d <;> simp [descOf] at h; obtain ⟨rfl,rfl⟩:=h; rfl
theorem tJ {d : TypeDesc} {n m : Nat} (h : descOf P d = .map n m) : d = .map n m:=by cases d <;> simp [descOf] at h; obtain ⟨rfl,rfl⟩:=h; rfl

theorem Ym {d : TD} {op : BinOp} {hc : Bool} {ka kb : IntKind} {m n : Int} {k : AV -> Prop} (t : Nat) (w : World) (ha : uN ka m) (h : BO d op hc (.int ka m) (.int kb n) k) :
  ∃ r R,(binOp op t (.int ka m) (.int kb n)).run P w = .ok r w /\ VV c R r /\ k R:=by
 have hk : op ≠ .shl -> op ≠ .shr -> ka = kb:=by
  intro h1 h2
  unfold BO at h
  cases hq : qg ka kb with
  | true=>exact gQ hq
  | false=>exfalso; cases op <;> first | exact h1 rfl | exact h2 rfl | (simp only [hq] at h)
 have hq : qg ka ka = true:=by cases ka <;> rfl
 unfold BO at h
 cases op
 case shl =>
  simp only at h
  refine ⟨_,_,?_,dM (kd:=ka) (n:=Es ka m n) (oL _ _),h.2⟩
  have : ¬ n < 0:=by omega
  simp [binOp,Op.shift,this,Es]
 case shr =>
  simp only at h
  refine ⟨_,_,?_,dM (kd:=ka) (n:=uK ka m n) (Lh ha _),h.2⟩
  have : ¬ n < 0:=by omega
  simp [binOp,Op.shift,this,uK]
 all_goals
  obtain rfl:=hk (by simp) (by simp)
  simp only [hq] at h
 case add=>obtain ⟨R,h1,h2⟩:=ni (c:=c) h; exact ⟨_,R,by simp [binOp,Op.intArith],h1,h2⟩
 case sub=>obtain ⟨R,h1,h2⟩:=ni (c:=c) h; exact ⟨_,R,by simp [binOp,Op.intArith],h1,h2⟩
 case mul=>obtain ⟨R,h1,h2⟩:=ni (c:=c) h; exact ⟨_,R,by simp [binOp,Op.intArith],h1,h2⟩
 case quo=>obtain ⟨R,h1,h2⟩:=ni (c:=c) h.2; exact ⟨_,R,by simp [binOp,Op.intDiv,h.1],h1,h2⟩
 case rem=>exact ⟨_,_,by simp [binOp,Op.intDiv,h.1],dM (YB ha),h.2⟩
 case and=>exact ⟨_,_,by simp [binOp,Op.intBits,jC],dM (kd:=ka) (n:=jC .and ka m n) (oL _ _),h⟩
 case or=>exact ⟨_,_,by simp [binOp,Op.intBits,jC],dM (kd:=ka) (n:=jC .or ka m n) (oL _ _),h⟩
 case xor=>exact ⟨_,_,by simp [binOp,Op.intBits,jC],dM (kd:=ka) (n:=jC .xor ka m n) (oL _ _),h⟩
 case andNot=>exact ⟨_,_,by simp [binOp,Op.intBits,jC],dM (kd:=ka) (n:=jC .andNot ka m n) (oL _ _),h⟩
 case eql=>exact ⟨.bool (m == n),_,by simp [binOp,Op.intCmp],iG (by simp),h⟩
 case neq=>exact ⟨.bool (m != n),_,by simp [binOp,Op.intCmp],iG (by simp),h⟩
 case lss=>exact ⟨.bool (decide (m < n)),_,by simp [binOp,Op.intCmp],iG (by simp),h⟩
 case leq=>exact ⟨.bool (decide (m <= n)),_,by simp [binOp,Op.intCmp],iG (by simp),h⟩
 case gtr=>exact ⟨.bool (decide (m > n)),_,by simp [binOp,Op.intCmp],iG (by simp),h⟩
 case geq=>exact ⟨.bool (decide (m ≥ n)),_,by simp [binOp,Op.intCmp],iG (by simp),h⟩

theorem Yl {d : TD} {op : BinOp} {hc : Bool} {p q : List UInt8} {k : AV -> Prop} (t : Nat) (w : World) (h : BO d op hc (.str p) (.str q) k) :
  ∃ r R,(binOp op t (.string ⟨p.toArray⟩) (.string ⟨q.toArray⟩)).run P w = .ok r w /\ VV c R r /\ k R:=by
 have e1 : ByteArray.toList ⟨p.toArray⟩ = p:=Eh p
 have e2 : ByteArray.toList ⟨q.toArray⟩ = q:=Eh q
 unfold BO at h
 cases op <;> simp only at h
 case add =>
  refine ⟨_,_,?_,Js (s:=p ++ q) (by simpa using h.1),h.2⟩
  have h1 : ¬ (((⟨p.toArray⟩ : ByteArray).size + (⟨q.toArray⟩ : ByteArray).size : Nat) : Int) > IntKind.i64.max:=by
   have:=h.1
   simp [maxL] at this
   simp [ByteArray.size,IntKind.max,IntKind.signed,IntKind.bits]; omega
  simp only [binOp,Op.stringOp,h1,if_false,Sem.run_pure]
  congr 2
 case eql=>exact ⟨.bool (p == q),_,by simp [binOp,Op.stringOp,e1,e2],iG (by simp),h⟩
 case neq=>exact ⟨.bool (!(p == q)),_,by simp [binOp,Op.stringOp,e1,e2],iG (by simp),h⟩
 case lss=>exact ⟨_,_,by simp only [binOp,Op.stringOp,e1,e2,Sem.run_pure],mg _,h⟩

end
end Go.AL

namespace Go.AL

section
variable {P : Program} {L : Lay} {c : Cx} {H : Heap} {e : Env} {a : Act} {k : AV -> Heap -> Prop} {ks : Heap -> Prop} {o : Oper}

theorem dH {A : AV} {v : Value} (h : EV c A v) (hn : ∀ l,A ≠ .eG l) (hu : A ≠ .und) : VV c A v:=by
 cases A <;> first
  | exact h
  | exact absurd rfl (hn _)
  | exact absurd rfl hu

theorem RF {A B : AV} {k : AV -> Prop} (h : Zx A B k) : (∀ l,A ≠ .eG l) /\ A ≠ .und /\ (∀ l,B ≠ .eG l) /\ B ≠ .und:=by
 refine ⟨?_,?_,?_,?_⟩ <;> intros <;> intro e <;> subst e <;> (first | (cases A <;> simp [Zx,uM,Gj] at h; done) | (cases B <;> simp [Zx,uM,Gj] at h; done))

theorem IU {A B : AV} {k : AV -> Prop} (h : Ce A B k) : (∀ l,A ≠ .eG l) /\ A ≠ .und /\ (∀ l,B ≠ .eG l) /\ B ≠ .und:=by
 unfold Ce at h
 split at h <;> first | exact h.elim | (refine ⟨?_,?_,?_,?_⟩ <;> intros <;> intro e <;> cases e)

theorem EL {A B : AV} {k : AV -> Prop} (h : uY A B k) : (∀ l,A ≠ .eG l) /\ A ≠ .und /\ (∀ l,B ≠ .eG l) /\ B ≠ .und:=by
 unfold uY at h
 split at h <;> first | exact h.elim | (refine ⟨?_,?_,?_,?_⟩ <;> intros <;> intro e <;> cases e)

theorem op_eq {op : BinOp} {t ty : Nat} {x y : Operand} (hr : HR c H) (ho : o.op = .binOp op t x y ty) {i : TI} (hT : pU P t i) {A B : AV} (hA : EV c A (a.eval x)) (hB : EV c B (a.eval y))
  (h : Yh i.desc op (jA x || jA y) A B fun R=>k R H) : dD P o a.eval c H k ks:=by
 obtain ⟨d,hd,hdd⟩:=hT.under
 have fin : ∀ (b : Bool) (R : AV),(op = .eql \/ op = .neq) -> (Op.equal t (a.eval x) (a.eval y)).run P c.w = .ok b c.w ->
   (eqGuard op t x y (a.eval x) (a.eval y)).run P c.w = .ok () c.w -> (∀ k n k' n',a.eval x = .int k n -> a.eval y = .int k' n' -> False) -> (∀ s s',a.eval x = .string s -> a.eval y = .string s' -> False) ->
   (∀ k n k' n',a.eval x = .float k n -> a.eval y = .float k' n' -> False) -> (∀ k n m k' n' m',a.eval x = .complex k n m -> a.eval y = .complex k' n' m' -> False) ->
   VV c R (.bool (if op = .neq then !b else b)) -> k R H -> dD P o a.eval c H k ks:=by
  intro b R hop hq hg h1 h2 h3 h4 hR hk
  refine .pure hr (jV ho hg ?_) (bg hR) hk
  rcases hop with rfl | rfl
  ·generalize a.eval x = v at *
   generalize a.eval y = u at *
   cases v <;> cases u <;> first
    | exact (h1 _ _ _ _ rfl rfl).elim | exact (h2 _ _ rfl rfl).elim | exact (h3 _ _ _ _ rfl rfl).elim | exact (h4 _ _ _ _ _ _ rfl rfl).elim
    | simp [binOp,hq]
  ·generalize a.eval x = v at *
   generalize a.eval y = u at *
   cases v <;> cases u <;> first
    | exact (h1 _ _ _ _ rfl rfl).elim | exact (h2 _ _ rfl rfl).elim | exact (h3 _ _ _ _ rfl rfl).elim | exact (h4 _ _ _ _ _ _ rfl rfl).elim
    | simp [binOp,hq]
 unfold Yh at h
 split at h
 ·rename_i hi
  obtain rfl:=CQ (hdd.trans hi)
  obtain ⟨n1,n2,n3,n4⟩:=RF h
  obtain ⟨p,q,R,e1,e2,h3,h4⟩:=Jf (dH hA n1 n2) (dH hB n3 n4) h
  rw [e1,e2] at fin
  exact fin (p == q) R (.inl rfl) (run_equal_bool hd _ _ _) (je (by rintro ⟨_,_,h,_⟩; cases h) (by intro h; cases h)) (by intros; contradiction) (by intros; contradiction) (by intros; contradiction) (by intros; contradiction) (by simpa using h3) h4
 ·rename_i hi
  obtain rfl:=CQ (hdd.trans hi)
  obtain ⟨n1,n2,n3,n4⟩:=RF h
  obtain ⟨p,q,R,e1,e2,h3,h4⟩:=Jf (dH hA n1 n2) (dH hB n3 n4) h
  obtain ⟨R',h5,h6⟩:=lU h3 h4
  rw [e1,e2] at fin
  exact fin (p == q) R' (.inr rfl) (run_equal_bool hd _ _ _) (je (by rintro ⟨_,_,h,_⟩; cases h) (by intro h; cases h)) (by intros; contradiction) (by intros; contradiction) (by intros; contradiction) (by intros; contradiction) (by simpa using h5) h6
 ·rename_i hi
  obtain ⟨ms,rfl⟩:=Ad (hdd.trans hi)
  split at h
  ·rename_i hc
   obtain ⟨n1,n2,n3,n4⟩:=IU h
   obtain ⟨b,R,e1,h3,h4⟩:=Cc (dH hA n1 n2) (dH hB n3 n4) h
   refine fin b R (.inl rfl) (uD hd e1 _) (je ?_ (fun _ _ _=>hc)) ?_ ?_ ?_ ?_ (by simpa using h3) h4
   ·rintro ⟨_,_,h1,h2⟩
    rcases e1 with ⟨e1,e2,_⟩ | ⟨e1,⟨_,_,e2⟩,_⟩ | ⟨⟨_,_,e1⟩,e2,_⟩ <;> rw [e1] at h1 <;> cases h1
   all_goals
    intros
    rename_i h1 h2
    rcases e1 with ⟨e1,e2,_⟩ | ⟨e1,⟨_,_,e2⟩,_⟩ | ⟨⟨_,_,e1⟩,e2,_⟩ <;> rw [e1] at h1 <;> cases h1
  ·exact h.elim
 ·rename_i hi
  obtain ⟨ms,rfl⟩:=Ad (hdd.trans hi)
  split at h
  ·rename_i hc
   obtain ⟨n1,n2,n3,n4⟩:=IU h
   obtain ⟨b,R,e1,h3,h4⟩:=Cc (dH hA n1 n2) (dH hB n3 n4) h
   obtain ⟨R',h5,h6⟩:=lU h3 h4
   refine fin b R' (.inr rfl) (uD hd e1 _) (je ?_ (fun _ _ _=>hc)) ?_ ?_ ?_ ?_ (by simpa using h5) h6
   ·rintro ⟨_,_,h1,h2⟩
    rcases e1 with ⟨e1,e2,_⟩ | ⟨e1,⟨_,_,e2⟩,_⟩ | ⟨⟨_,_,e1⟩,e2,_⟩ <;> rw [e1] at h1 <;> cases h1
   all_goals
    intros
    rename_i h1 h2
    rcases e1 with ⟨e1,e2,_⟩ | ⟨e1,⟨_,_,e2⟩,_⟩ | ⟨⟨_,_,e1⟩,e2,_⟩ <;> rw [e1] at h1 <;> cases h1
  ·exact h.elim
 ·rename_i hi
  obtain rfl:=FU (hdd.trans hi)
  obtain ⟨n1,n2,n3,n4⟩:=EL h
  obtain ⟨b,R,p,e1,e2,rfl,h3,h4⟩:=zu (dH hA n1 n2) (dH hB n3 n4) h
  rw [e1,e2] at fin
  exact fin p.isNone R (.inl rfl) (xI hd _ _) (je (by rintro ⟨_,_,h,_⟩; cases h) (by intro h; cases h)) (by intros; contradiction) (by intros; contradiction) (by intros; contradiction) (by intros; contradiction) (by simpa using h3) h4
 ·rename_i hi
  obtain rfl:=FU (hdd.trans hi)
  obtain ⟨n1,n2,n3,n4⟩:=EL h
  obtain ⟨b,R,p,e1,e2,rfl,h3,h4⟩:=zu (dH hA n1 n2) (dH hB n3 n4) h
  obtain ⟨R',h5,h6⟩:=lU h3 h4
  rw [e1,e2] at fin
  exact fin p.isNone R' (.inr rfl) (xI hd _ _) (je (by rintro ⟨_,_,h,_⟩; cases h) (by intro h; cases h)) (by intros; contradiction) (by intros; contradiction) (by intros; contradiction) (by intros; contradiction) (by simpa using h5) h6
 ·exact h.elim

theorem Tv {z x y : AV} {w : World} {Im : Nat -> Nat -> Prop} {cs ds : List Value} (hx : jE z x = true) (hy : jE z y = true) (h1 : Rd w Im x cs) (h2 : Rd w Im y ds) :
  cs.length = 1 /\ ds.length = 1 /\ (cs = ds ↔ eqP x y):=by
 have hb : ∀ {A : AV} {c : List Value},jE .ff A = true -> Rd w Im A c -> ∃ b,c = [.bool b] /\ (b = true ↔ Zm A):=by
  intro A c hA h
  cases A <;> first | (simp [jE] at hA; done) | skip
  ·simp only [Rd] at h; exact ⟨_,h,by simp [Zm]⟩
  ·simp only [Rd] at h; exact ⟨_,h,by simp [Zm]⟩
  ·simp only [Rd] at h; exact ⟨_,h,by simp [Zm]⟩
  ·simp only [Rd] at h; exact h
 cases z <;> first | (simp [jE] at hx; done) | skip
 ·obtain ⟨b,rfl,g1⟩:=hb hx h1
  obtain ⟨b',rfl,g2⟩:=hb hy h2
  refine ⟨rfl,rfl,?_⟩
  have he : eqP x y ↔ (Zm x ↔ Zm y):=by
   cases x <;> first | (simp [jE] at hx; done) | skip
   all_goals cases y <;> first | (simp [jE] at hy; done) | exact Iff.rfl
  rw [he,<- g1,<- g2]
  cases b <;> cases b' <;> simp
 ·cases x <;> first | (simp [jE] at hx; done) | skip
  cases y <;> first | (simp [jE] at hy; done) | skip
  obtain rfl:=gQ hx
  obtain rfl:=gQ hy
  simp only [Rd] at h1 h2
  obtain ⟨rfl,_⟩:=h1
  obtain ⟨rfl,_⟩:=h2
  simp [eqP]
 ·cases x <;> first | (simp [jE] at hx; done) | skip
  cases y <;> first | (simp [jE] at hy; done) | skip
  simp only [Rd] at h1 h2
  obtain ⟨rfl,_⟩:=h1
  obtain ⟨rfl,_⟩:=h2
  simp [eqP]

theorem IJ {w : World} {Im : Nat -> Nat -> Prop} : ∀ {zs l m : List AV} {cs ds : List Value},gY zs l = true -> gY zs m = true -> lM w Im l cs -> lM w Im m ds -> (cs = ds ↔ Ny l m)
 | [],[],[],cs,ds,_,_,h1,h2=>by simp only [lM] at h1 h2; subst h1; subst h2; simp [Ny]
 | [],[],_ :: _,_,_,_,h,_,_=>by simp [gY] at h
 | [],_ :: _,_,_,_,h,_,_,_=>by simp [gY] at h
 | _ :: _,[],_,_,_,h,_,_,_=>by simp [gY] at h
 | _ :: _,_ :: _,[],_,_,_,h,_,_=>by simp [gY] at h
 | z :: zs,x :: l,y :: m,cs,ds,hx,hy,h1,h2=>by
   simp only [gY] at hx hy
   cases qx : jE z x with
   | false=>simp [qx] at hx
   | true =>
     cases qy : jE z y with
     | false=>simp [qy] at hy
     | true =>
       rw [qx] at hx
       rw [qy] at hy
       simp only [lM] at h1 h2
       obtain ⟨a,b,rfl,g1,g2⟩:=h1
       obtain ⟨a',b',rfl,g3,g4⟩:=h2
       obtain ⟨k1,k2,k3⟩:=Tv qx qy g1 g3
       have ih:=IJ hx hy g2 g4
       simp only [Ny]
       rw [<- k3,<- ih]
       constructor
       ·intro e; exact List.append_inj e (by omega)
       ·rintro ⟨rfl,rfl⟩; rfl

theorem VG {z x : AV} {cs : List Value} (hx : jE z x = true) (h : VR c x cs) : Rd c.w c.Im x cs:=by
 cases z <;> first | (simp [jE] at hx; done) | skip
 all_goals cases x <;> first | (simp [jE] at hx; done) | (simpa only [VR] using h)

theorem AQ : ∀ {zs l : List AV} {cs : List Value},gY zs l = true -> lS c l cs -> lM c.w c.Im l cs
 | [],[],_,_,h=>by simpa only [lS,lM] using h
 | [],_ :: _,_,h,_=>by simp [gY] at h
 | _ :: _,[],_,h,_=>by simp [gY] at h
 | z :: zs,x :: l,cs,hx,h=>by
   simp only [gY] at hx
   cases qx : jE z x with
   | false=>simp [qx] at hx
   | true =>
     rw [qx] at hx
     simp only [lS] at h
     obtain ⟨a,b,rfl,g1,g2⟩:=h
     simp only [lM]
     exact ⟨a,b,rfl,VG qx g1,AQ hx g2⟩

theorem Y8 {op : BinOp} {t ty : Nat} {x y : Operand} (hr : HR c H) (ho : o.op = .binOp op t x y ty) {i : TI} (hT : pU P t i) {A B : AV} (hA : EV c A (a.eval x)) (hB : EV c B (a.eval y))
  (h : Ov i op A B fun R=>k R H) : dD P o a.eval c H k ks:=by
 unfold Ov at h
 split at h
 case h_2=>exact h.elim
 rename_i zs l m hc hz
 split at h
 case h_2=>exact h.elim
 rename_i q1 q2
 have E:=hT.cmpd hc zs hz
 obtain ⟨cs,e1⟩:=hA.1.1 rfl
 obtain ⟨ds,e2⟩:=hB.1.1 rfl
 have r1 : lM c.w c.Im l cs.toList:=by
  have:=hA.2; rw [e1] at this; exact AQ q1 this
 have r2 : lM c.w c.Im m ds.toList:=by
  have:=hB.2; rw [e2] at this; exact AQ q2 this
 obtain ⟨r,hrun,hiff⟩:=E.run c.w c.Im l m cs ds q1 q2 r1 r2
 have he:=IJ q1 q2 r1 r2
 have he : r = true ↔ Ny l m:=by
  rw [hiff,<- he]
  constructor
  ·rintro rfl; rfl
  ·intro e; exact Array.toList_inj.1 e
 split at h
 ·refine .pure hr (v:=.bool r) (jV ho ?_ ?_) (bg (dY rfl rfl ?_)) h
  ·rw [e1,e2]; exact run_eqGuard_agg c.w _ t x y cs ds E.grd
  ·rw [e1,e2,run_eql_struct]
   show ((Op.equal t _ _).run P c.w).andThen _ = _
   rw [hrun]; rfl
  ·simp only [VR,Rd]; exact ⟨r,rfl,he⟩
 ·refine .pure hr (v:=.bool (!r)) (jV ho ?_ ?_) (bg (dY rfl rfl ?_)) h
  ·rw [e1,e2]; exact run_eqGuard_agg c.w _ t x y cs ds E.grd
  ·rw [e1,e2,run_neq_struct]
   show ((Op.equal t _ _).run P c.w).andThen _ = _
   rw [hrun]; rfl
  ·simp only [VR,Rd]; exact ⟨!r,rfl,by rw [<- he]; cases r <;> simp⟩
 ·exact h.elim

theorem op_bin (hL : dR P L) {op : BinOp} {t ty : Nat} {x y : Operand} (hr : HR c H) (he : gJ c e a) (hx : bF x = true) (hy : bF y = true) (ho : o.op = .binOp op t x y ty)
  (h : bV e x fun A=>bV e y fun B=>L.bM t fun i=>match dI A with
   | true=>Ov i op A B fun R=>k R H
   | false=>BO i.desc op (jA x || jA y) A B fun R=>k R H) : dD P o a.eval c H k ks:=by
 obtain ⟨A,hA,h⟩:=aW he hx h
 obtain ⟨B,hB,h⟩:=aW he hy h
 obtain ⟨i,hT,h⟩:=Lay.bn hL h
 cases hag : dI A with
 | true=>rw [hag] at h; exact Y8 hr ho hT hA hB h
 | false =>
 rw [hag] at h
 dsimp only at h
 by_cases h1 : (∃ ka m,A = .int ka m) /\ (∃ kb n,B = .int kb n)
 ·obtain ⟨⟨ka,m,rfl⟩,⟨kb,n,rfl⟩⟩:=h1
  obtain ⟨e1,r1⟩:=kE hA
  obtain ⟨e2,_⟩:=kE hB
  obtain ⟨r,R,h2,h3,h4⟩:=Ym (P:=P) t c.w r1 h
  refine .pure hr (jV ho ?_ (by rw [e1,e2]; exact h2)) (bg h3) h4
  rw [e1,e2]
  exact je (by rintro ⟨_,_,h,_⟩; cases h) (by intro h; cases h)
 by_cases h2 : (∃ p,A = .str p) /\ (∃ q,B = .str q)
 ·obtain ⟨⟨p,rfl⟩,⟨q,rfl⟩⟩:=h2
  obtain ⟨e1,_⟩:=Hq hA
  obtain ⟨e2,_⟩:=Hq hB
  obtain ⟨r,R,h2,h3,h4⟩:=Yl (P:=P) (c:=c) t c.w h
  refine .pure hr (jV ho ?_ (by rw [e1,e2]; exact h2)) (bg h3) h4
  rw [e1,e2]
  exact je (by rintro ⟨_,_,h,_⟩; cases h) (by intro h; cases h)
 refine op_eq hr ho hT hA hB ?_
 unfold BO at h
 split at h
 ·exact absurd ⟨⟨_,_,rfl⟩,⟨_,_,rfl⟩⟩ h1
 ·exact absurd ⟨⟨_,rfl⟩,⟨_,rfl⟩⟩ h2
 ·exact h

end
end Go.AL

namespace Go.AL

theorem rV {c : Cx} {sz : Nat} : ∀ {l : List AV} {cs : List Value} {j : Nat} {x : AV},La c sz l cs -> l[j]? = some x ->
  ∃ pre xs post,cs = pre ++ xs ++ post /\ pre.length = j * sz /\ xs.length = sz /\ Rd c.w c.Im x xs /\
    ∀ y ys,Rd c.w c.Im y ys -> ys.length = sz -> La c sz (l.set j y) (pre ++ ys ++ post)
 | [],_,_,_,_,h=>by simp at h
 | z :: l,cs,0,x,hr,h=>by
   obtain ⟨a,d,rfl,h2,h3,h4⟩:=hr
   obtain rfl : z = x:=by simpa using h
   refine ⟨[],a,d,by simp,by simp,h2,h3,fun y ys hy hl=>?_⟩
   exact ⟨ys,d,by simp,hl,hy,h4⟩
 | z :: l,cs,j + 1,x,hr,h=>by
   obtain ⟨a,d,rfl,h2,h3,h4⟩:=hr
   obtain ⟨pre,xs,post,rfl,h5,h6,h7,h8⟩:=rV h4 (by simpa using h : l[j]? = some x)
   refine ⟨a ++ pre,xs,post,by simp,by simp [h2,h5,Nat.add_mul]; omega,h6,h7,fun y ys hy hl=>?_⟩
   exact ⟨a,pre ++ ys ++ post,by simp,h2,h3,h8 y ys hy hl⟩

theorem zK {α : Type} (pre xs post : List α) {j : Nat} {v : α} (h : xs[j]? = some v) : (pre ++ xs ++ post)[pre.length + j]? = some v:=by
 have hj : j < xs.length:=(List.getElem?_eq_some_iff.1 h).1
 rw [List.append_assoc,List.getElem?_append_right (by omega),Nat.add_sub_cancel_left,List.getElem?_append_left hj,h]

theorem GI {a : Addr} (h : a.spot = none) : a = ⟨a.block,a.off,none⟩:=by cases a; simp_all

section
variable {P : Program} {L : Lay} {c : Cx} {H : Heap} {e : Env} {a : Act} {k : AV -> Heap -> Prop} {ks : Heap -> Prop} {o : Oper}

theorem Mc {t : Nat} {x : Operand} {ad : Addr} (ho : o.op = .load t x) (hx : a.eval x = .pointer (some ad)) {v : Value} (h : (loadVar t ad).run P c.w = .ok v c.w) :
  (execOp a.eval o).run P c.w = .ok (.value v) c.w:=by
 unfold execOp; rw [ho]
 simp only [Instr.loadAt,hx,Instr.sureAddr,Sem.run_bind,Sem.run_pure,Result.andThen_ok,h]

theorem CY (hL : dR P L) (hr : HR c H) {t : Nat} {A : AV} {v : Value} {k : AV -> Prop} (hA : EV c A v) (h : jD L t A H k) :
  ∃ ad r R,v = .pointer (some ad) /\ (loadVar t ad).run P c.w = .ok r c.w /\ VV c R r /\ k R:=by
 unfold jD at h
 split at h
 ·rename_i x
  obtain ⟨ad,ds,e1,hs,hc,hx⟩:=Sr hA
  obtain ⟨_,i,hT,hf,hg,hk⟩:=jw hL h
  have hx' : VR c x ds:=iO _ _ hx
  refine ⟨ad,mkV x ds,x,e1,?_,KZ hx',hk⟩
  rw [GI hs]
  exact qw hT hf hg hx' fun j v hj=>(hc j v hj).1
 ·rename_i i p off
  obtain ⟨hk,e1⟩:=yP hA
  obtain ⟨ob,hob,h⟩:=dB.1 h
  have hok:=hr.sV hob
  split at h
  ·rename_i B
   obtain ⟨x,hp,h⟩:=lu.1 h
   obtain ⟨hoff,h⟩:=bI.1 h
   obtain ⟨_,ti,hT,hf,hg,hkk⟩:=jw hL h
   subst hoff
   obtain ⟨cs,ty,h1,h2,_⟩:=hok
   obtain ⟨pre,xs,post,rfl,h4,h5⟩:=DT h2 hp
   refine ⟨_,mkV x xs,x,e1,?_,KZ h5,hkk⟩
   refine qw hT hf hg h5 fun j v hj=>?_
   rw [cell_of_heap h1,<- h4,List.getElem?_toArray]
   exact zK _ _ _ hj
  ·rename_i sz cap l
   split at h
   ·rename_i j
    obtain ⟨x,⟨_,hx⟩,hoff,h'⟩:=h.ex
    obtain ⟨_,ti,hT,hf,hg,hkk⟩:=jw hL h'
    subst hoff
    obtain ⟨cs,ty,h1,h2,h3,h4,h5,_⟩:=hok
    obtain ⟨pre,xs,post,rfl,h6,h7,h8,_⟩:=rV h5 (by simpa using hx)
    have h8' : VR c x xs:=iO _ _ h8
    refine ⟨_,mkV x xs,x,e1,?_,KZ h8',hkk⟩
    refine qw hT hf hg h8' fun j v hj=>?_
    rw [cell_of_heap h1,<- h6,List.getElem?_toArray]
    exact zK _ _ _ hj
   ·rename_i j q _
    obtain ⟨x,⟨_,hx⟩,h⟩:=h.ex
    obtain ⟨y,hp,hoff,h'⟩:=lu.1 h
    obtain ⟨_,ti,hT,hf,hg,hkk⟩:=jw hL h'
    subst hoff
    obtain ⟨cs,ty,h1,h2,h3,h4,h5,_⟩:=hok
    obtain ⟨pre,xs,post,rfl,h6,h7,h8,_⟩:=rV h5 (by simpa using hx)
    have h8' : VR c x xs:=iO _ _ h8
    obtain ⟨pre',xs',post',rfl,h9,h10⟩:=DT h8' hp
    refine ⟨_,mkV y xs',y,e1,?_,KZ h10,hkk⟩
    refine qw hT hf hg h10 fun j v hj=>?_
    rw [cell_of_heap h1,<- h6,<- h9,List.getElem?_toArray]
    have:=zK (pre ++ pre') xs' (post' ++ post) hj
    simpa [List.append_assoc,Nat.add_assoc] using this
   ·exact h.elim
  ·exact h.elim
 ·exact h.elim

theorem Y7 (hL : dR P L) {t : Nat} {x : Operand} (hr : HR c H) (he : gJ c e a) (hx : bF x = true) (ho : o.op = .load t x)
  (h : bV e x fun A=>jD L t A H fun R=>k R H) : dD P o a.eval c H k ks:=by
 obtain ⟨A,hA,h⟩:=aW he hx h
 obtain ⟨ad,r,R,e1,h1,h2,h3⟩:=CY hL hr hA h
 exact .pure hr (Mc ho e1 h1) (bg h2) h3

theorem sN {t : Nat} {x y : Operand} {ad : Addr} (ho : o.op = .store t x y) (hx : a.eval x = .pointer (some ad)) {w' : World} (h : (storeVar t ad (a.eval y)).run P c.w = .ok () w') :
  (execOp a.eval o).run P c.w = .ok .skip w':=by
 unfold execOp; rw [ho]
 simp only [Instr.storeAt,hx,Instr.sureAddr,Sem.run_bind,Sem.run_pure,Result.andThen_ok,h]

theorem uU {A : AV} {k : AV -> Prop} (h : xJ A k) : nR A = true /\ k (strip A):=by
 unfold xJ at h
 split at h
 ·exact ⟨‹_›,h⟩
 ·exact h.elim

theorem qN (pre xs post bs : List Value) (hl : bs.length = xs.length) :
  (pre ++ xs ++ post).take pre.length ++ bs ++ (pre ++ xs ++ post).drop (pre.length + bs.length) = pre ++ bs ++ post:=by
 have e1 : (pre ++ xs ++ post).take pre.length = pre:=by rw [List.append_assoc,List.take_left]
 have e2 : (pre ++ xs ++ post).drop (pre.length + bs.length) = post:=by rw [hl,<- List.length_append,List.drop_left]
 rw [e1,e2]

theorem V9 (hL : dR P L) {t : Nat} {x y : Operand} (hr : HR c H) (he : gJ c e a) (hx : bF x = true) (hy : bF y = true) (ho : o.op = .store t x y)
  (h : bV e x fun A=>bV e y fun B=>Gv L t A B H ks) : dD P o a.eval c H k ks:=by
 obtain ⟨A,hA,h⟩:=aW he hx h
 obtain ⟨B,hB,h⟩:=aW he hy h
 unfold Gv at h
 split at h
 ·rename_i i p off _
  obtain ⟨hk,e1⟩:=yP hA
  obtain ⟨ob,hob,h⟩:=dB.1 h
  have hok:=hr.sV hob
  split at h
  ·rename_i _ A0
   obtain ⟨x0,hp,h⟩:=lu.1 h
   obtain ⟨hoff,h⟩:=bI.1 h
   obtain ⟨hval,ti,hT,hf,hg,h⟩:=jw hL h
   obtain ⟨hfl,h⟩:=bI.1 h
   obtain ⟨cs,ty,h1,h2,h3⟩:=hok
   have Rz:=nM hB hval
   obtain ⟨A',x1,pre,xs,post,g1,rfl,g3,g4,g5,g6⟩:=qj Rz.2 h2 h
   obtain rfl : x0 = x1:=by rw [hp] at g1; exact Option.some.inj g1
   have hbl : (a.eval y).cells.toList.length = xs.length:=by rw [gB _ _ Rz.2,gB _ _ g4,hfl]
   have hbs : (a.eval y).cells.size = xs.length:=by rw [<- hbl,Array.length_toList]
   obtain ⟨⟨_,_⟩,g7⟩:=iZ.1 g6
   have hrun:=sO (P:=P) (w:=c.w) (v:=a.eval y) (off:=off) hT (by rw [<- hf,<- gB _ _ Rz.2,Array.length_toList]) h1
    (by rw [<- hoff,<- g3,hbs]; simp) (pO _ _ Rz.2)
   rw [<- hoff,<- g3,List.toList_toArray,<- Array.length_toList,qN _ _ _ _ hbl] at hrun
   refine .inr (.inl ⟨{ c with w:=c.w.setRow (c.ρ i) (pre ++ (a.eval y).cells.toList ++ post).toArray },_,sN ho (by rw [e1,<- hoff,<- g3]) hrun,?_,g7⟩)
   refine Tr.write hr hob h1 (fun _=>rfl) (fun _=>rfl) h3 (by intros; simp) (by intros; simp) ?_
   have le : c.Le { c with w:=c.w.setRow (c.ρ i) (pre ++ (a.eval y).cells.toList ++ post).toArray }:=by
    refine ⟨fun b x h=>⟨h,jd (setRow_other c.w _ b _ (fun e=>h3 x (e ▸ h)))⟩,Nat.le_refl _,fun _ _=>rfl,fun _ _ _ h=>.inl ⟨h,rfl⟩⟩
   exact ⟨_,ty,setRow_heap c.w _ _ _ _ _ h1,oC le _ _ g5,h3⟩
  ·rename_i _ sz cap l
   split at h
   ·rename_i j _ _
    obtain ⟨hpu,h⟩:=uU h
    obtain ⟨hsz,h⟩:=bI.1 h
    obtain ⟨hval,ti,hT,hf,hg,hj,hoff,h⟩:=jw hL h
    obtain ⟨cs,ty,h1,h2,h3,h4,h5,h6⟩:=hok
    have Rz:=nM hB hval
    obtain ⟨x0,hx0⟩ : ∃ x0,l[j]? = some x0:=⟨_,List.getElem?_eq_getElem hj⟩
    obtain ⟨pre,xs,post,rfl,g3,g4,g5,g6⟩:=rV h5 hx0
    have hbl : (a.eval y).cells.toList.length = xs.length:=by rw [gB _ _ Rz.2,g4,hsz]
    have hbs : (a.eval y).cells.size = xs.length:=by rw [<- hbl,Array.length_toList]
    obtain ⟨⟨_,_⟩,g7⟩:=iZ.1 h
    have hrun:=sO (P:=P) (w:=c.w) (v:=a.eval y) (off:=off) hT (by rw [<- hf,<- gB _ _ Rz.2,Array.length_toList]) h1
     (by rw [hoff,<- g3,hbs]; simp) (pO _ _ Rz.2)
    rw [hoff,<- g3,List.toList_toArray,<- Array.length_toList,qN _ _ _ _ hbl] at hrun
    refine .inr (.inl ⟨{ c with w:=c.w.setRow (c.ρ i) (pre ++ (a.eval y).cells.toList ++ post).toArray },_,sN ho (by rw [e1,hoff,<- g3]) hrun,?_,g7⟩)
    refine Tr.write hr hob h1 (fun _=>rfl) (fun _=>rfl) h6 (by intros; simp) (by intros; simp) ?_
    have le : c.Le { c with w:=c.w.setRow (c.ρ i) (pre ++ (a.eval y).cells.toList ++ post).toArray }:=by
     refine ⟨fun b x h=>⟨h,jd (setRow_other c.w _ b _ (fun e=>h6 x (e ▸ h)))⟩,Nat.le_refl _,fun _ _=>rfl,fun _ _ _ h=>.inl ⟨h,rfl⟩⟩
    refine ⟨_,ty,setRow_heap c.w _ _ _ _ _ h1,?_,by simpa using h3,h4,rW le (g6 _ _ (pV _ _ hpu Rz.2) (hbl.trans g4)),h6⟩
    rw [<- h2]; simp; omega
   ·rename_i j q _ _
    obtain ⟨x0,⟨_,hx0⟩,h⟩:=h.ex
    obtain ⟨y0,hp,hoff,h⟩:=lu.1 h
    obtain ⟨hval,ti,hT,hf,hg,h⟩:=jw hL h
    obtain ⟨hfl,h⟩:=bI.1 h
    obtain ⟨cs,ty,h1,h2,h3,h4,h5,h6⟩:=hok
    have Rz:=nM hB hval
    obtain ⟨pre,ys,post,rfl,g3,g4,g5,g6⟩:=rV h5 (by simpa using hx0)
    obtain ⟨A',x1,pre',xs,post',q1,rfl,q3,q4,q5,h⟩:=qj Rz.2 (iO _ _ g5) h
    obtain rfl : y0 = x1:=by rw [hp] at q1; exact Option.some.inj q1
    obtain ⟨hpu,h⟩:=uU h
    have hbl : (a.eval y).cells.toList.length = xs.length:=by rw [gB _ _ Rz.2,gB _ _ q4,hfl]
    have hbs : (a.eval y).cells.size = xs.length:=by rw [<- hbl,Array.length_toList]
    obtain ⟨⟨_,_⟩,g7⟩:=iZ.1 h
    have hrow : pre ++ (pre' ++ xs ++ post') ++ post = (pre ++ pre') ++ xs ++ (post' ++ post):=by simp [List.append_assoc]
    have WZ : off = (pre ++ pre').length:=by rw [hoff,<- g3,<- q3,List.length_append]
    have h1':=h1
    rw [hrow] at h1'
    have hrun:=sO (P:=P) (w:=c.w) (v:=a.eval y) (off:=off) hT (by rw [<- hf,<- gB _ _ Rz.2,Array.length_toList]) h1'
     (by rw [WZ,hbs]; simp; omega) (pO _ _ Rz.2)
    rw [WZ,List.toList_toArray,<- Array.length_toList,qN _ _ _ _ hbl] at hrun
    refine .inr (.inl ⟨{ c with w:=c.w.setRow (c.ρ i) ((pre ++ pre') ++ (a.eval y).cells.toList ++ (post' ++ post)).toArray },_,sN ho (by rw [e1,WZ]) hrun,?_,g7⟩)
    refine Tr.write hr hob h1 (fun _=>rfl) (fun _=>rfl) h6 (by intros; simp) (by intros; simp) ?_
    have le : c.Le { c with w:=c.w.setRow (c.ρ i) ((pre ++ pre') ++ (a.eval y).cells.toList ++ (post' ++ post)).toArray }:=by
     refine ⟨fun b x h=>⟨h,jd (setRow_other c.w _ b _ (fun e=>h6 x (e ▸ h)))⟩,Nat.le_refl _,fun _ _=>rfl,fun _ _ _ h=>.inl ⟨h,rfl⟩⟩
    have hl' : (pre' ++ (a.eval y).cells.toList ++ post').length = sz:=by rw [<- g4]; simp only [List.length_append]; omega
    refine ⟨_,ty,setRow_heap c.w _ _ _ _ _ h1,?_,by simpa using h3,h4,?_,h6⟩
    ·rw [<- h2]; simp only [List.length_append]; omega
    ·have:=rW le (g6 _ _ (pV _ _ hpu q5) hl')
     simpa only [List.append_assoc] using this
   ·exact h.elim
  ·exact h.elim
 ·exact h.elim
end
end Go.AL

namespace Go.AL

theorem yu : ∀ {zs : List AV} {n f : Nat} {z : AV},zs[f]? = some z -> (uX n zs)[f]? = some (n + iK (zs.take f),flat z)
 | [],_,_,_,h=>by simp at h
 | x :: l,n,0,z,h=>by
   obtain rfl : x = z:=by simpa using h
   simp [uX,iK]
 | x :: l,n,f + 1,z,h=>by
   simp only [uX,List.getElem?_cons_succ,List.take_succ_cons,iK]
   rw [yu (by simpa using h : l[f]? = some z),Nat.add_assoc]

section
variable {P : Program} {L : Lay} {c : Cx} {H : Heap} {e : Env} {a : Act} {k : AV -> Heap -> Prop} {ks : Heap -> Prop} {o : Oper}

theorem pU.field {t f : Nat} {i : TI} {zs : List AV} {z : AV} (h : pU P t i) (hd : ∃ fs,i.desc = .struct fs) (hz : i.zero = .ag zs) (hf : zs[f]? = some z) :
  ∃ gs fd,P.underlying t = some (.struct gs) /\ gs[f]? = some fd /\ fd.offset = iK (zs.take f) /\ P.cellsOf fd.type = flat z:=by
 obtain ⟨fs,hd⟩:=hd
 obtain ⟨d,h1,h2⟩:=h.under
 obtain ⟨gs,rfl,hfs⟩:=qP (h2.trans hd)
 obtain ⟨zs',hz',h3⟩:=h.flds fs hd
 rw [hz] at hz'
 cases hz'
 subst hfs
 have h4:=yu (n:=0) hf
 rw [<- h3] at h4
 simp only [List.map_map,List.getElem?_map,Array.getElem?_toList] at h4
 cases hg : gs[f]? with
 | none=>simp [hg] at h4
 | some fd =>
   simp [hg] at h4
   exact ⟨gs,fd,h1,hg,h4.1,h4.2⟩

theorem AU {t : Nat} {n : Nat} (h : P.cellsOf t = n + 1) (w : World) : (sizeOf t).run P w = .ok (n + 1) w:=by
 unfold Program.cellsOf at h
 cases hi : P.info? t with
 | none=>simp [hi] at h
 | some x=>simp [hi] at h; unfold sizeOf typeInfo; simp [hi,h]

theorem addr_add (b off n : Nat) : (⟨b,off,none⟩ : Addr).add n = ⟨b,off + n,none⟩:=by
 unfold Addr.add; split
 ·rename_i h; subst h; rfl
 ·rfl

theorem Jw {w : World} {Im : Nat -> Nat -> Prop} : ∀ {l : List AV} {cs : List Value} {i : Nat} {x : AV},lM w Im l cs -> l[i]? = some x ->
  ∃ pre xs post,cs = pre ++ xs ++ post /\ pre.length = iK (l.take i) /\ Rd w Im x xs
 | [],_,_,_,_,h=>by simp at h
 | z :: l,cs,0,x,hr,h=>by
   simp only [lM] at hr
   obtain ⟨a,d,rfl,h2,h3⟩:=hr
   obtain rfl : z = x:=by simpa using h
   exact ⟨[],a,d,by simp,by simp [iK],h2⟩
 | z :: l,cs,i + 1,x,hr,h=>by
   simp only [lM] at hr
   obtain ⟨a,d,rfl,h2,h3⟩:=hr
   obtain ⟨pre,xs,post,rfl,h5,h6⟩:=Jw h3 (by simpa using h : l[i]? = some x)
   exact ⟨a ++ pre,xs,post,by simp,by simp [iK,cZ _ _ h2,h5],h6⟩

theorem NU {w : World} {Im : Nat -> Nat -> Prop} {b off : Nat} {pre xs post : List Value} (h : jG w Im b off (pre ++ xs ++ post)) : jG w Im b (off + pre.length) xs:=by
 intro j v hj
 have:=h (pre.length + j) v (zK pre xs post hj)
 rw [Nat.add_assoc]; exact this

theorem Oy {x : AV} {b off : Nat} {ds : List Value} (hc : jG c.w c.Im b off ds) (hx : Rd c.w c.Im x ds) : VV c (.cp x) (.pointer (some ⟨b,off,none⟩)) :=
 dY rfl rfl (by simp only [VR,Rd]; exact ⟨_,ds,rfl,rfl,hc,hx⟩)

theorem rQ {i off : Nat} {p : List Nat} (h : i < c.nx) : VV c (.ptr i p off) (.pointer (some ⟨c.ρ i,off,none⟩)) :=
 dY rfl rfl (by simp only [VR]; exact ⟨h,trivial⟩)

theorem JV (hL : dR P L) {t f : Nat} {x : Operand} (hr : HR c H) (he : gJ c e a) (hx : bF x = true) (ho : o.op = .fieldAddr t x f)
  (h : bV e x fun A=>BM L t A f fun R=>k R H) : dD P o a.eval c H k ks:=by
 obtain ⟨A,hA,h⟩:=aW he hx h
 unfold BM at h
 obtain ⟨i,hT,h⟩:=Lay.bn hL h
 have run : ∀ (b off : Nat) (zs : List AV) (z : AV) (n : Nat),(∃ fs,i.desc = .struct fs) -> i.zero = .ag zs -> zs[f]? = some z -> flat z = n + 1 -> a.eval x = .pointer (some ⟨b,off,none⟩) ->
   (execOp a.eval o).run P c.w = .ok (.value (.pointer (some ⟨b,off + iK (zs.take f),none⟩))) c.w:=by
  intro b off zs z n hd hz hf hn hp
  obtain ⟨gs,fd,h1,h2,h3,h4⟩:=hT.field hd hz hf
  unfold execOp; rw [ho]
  simp only [Instr.fieldAt,hp,Instr.sureAddr,Sem.run_bind,run_underlying h1,Result.andThen_ok,h2,Sem.run_pure,fieldPlace,AU (h4.trans hn)]
  simp [addr_add,h3]
 split at h
 ·rename_i fs zs hd hz
  split at h
  ·rename_i l
   obtain ⟨hfl,h⟩:=bI.1 h
   obtain ⟨z,hf,h⟩:=jl.1 h
   split at h
   ·exact h.elim
   ·rename_i n hn
    obtain ⟨y,hy,h⟩:=jl.1 h
    obtain ⟨ad,ds,e1,e2,hc,hrd⟩:=Sr hA
    simp only [Rd] at hrd
    obtain ⟨pre,xs,post,rfl,h5,h6⟩:=Jw hrd hy
    rw [GI e2] at e1
    refine .pure hr (run _ _ zs z n ⟨_,hd⟩ hz hf hn e1) (bg (Oy ?_ h6)) h
    rw [<- hfl,<- h5]
    exact NU hc
  ·rename_i j p off
   obtain ⟨z,hf,h⟩:=jl.1 h
   split at h
   ·exact h.elim
   ·rename_i n hn
    have h:=wE.1 h
    obtain ⟨hk,e1⟩:=yP hA
    exact .pure hr (run _ _ zs z n ⟨_,hd⟩ hz hf hn e1) (bg (rQ hk)) h
  ·exact h.elim
 ·exact h.elim

theorem wG {kd : IntKind} {n : Int} {w : World} : (asIntOf (.int kd n)).run P w = .ok (kd,n) w:=rfl

theorem nO {t el : Nat} {x y : Operand} {ei : TI} (ho : o.op = .indexAddr t x y) (ht : P.underlying t = some (.slice el)) (hE : pU P el ei) {ad : Addr} {len cap : Nat} {kd : IntKind} {n : Int}
  (hx : a.eval x = .slice (some ad) len cap) (hy : a.eval y = .int kd n) (h0 : 0 <= n) (h1 : n < (len : Int)) :
  (execOp a.eval o).run P c.w = .ok (.value (.pointer (some (ad.add (n.toNat * flat ei.zero))))) c.w:=by
 unfold execOp; rw [ho]
 simp only [Instr.indexAt,hx,hy,Sem.run_bind,wG,Result.andThen_ok,run_underlying ht,Sem.run_pure,h0,h1,and_self,if_true,hE.oO]

theorem zf {t el m : Nat} {x y : Operand} {ei : TI} (ho : o.op = .indexAddr t x y) (ht : P.underlying t = some (.array m el)) (hE : pU P el ei) {ad : Addr} {kd : IntKind} {n : Int}
  (hx : a.eval x = .pointer (some ad)) (hy : a.eval y = .int kd n) (h0 : 0 <= n) (h1 : n < (m : Int)) :
  (execOp a.eval o).run P c.w = .ok (.value (.pointer (some (ad.add (n.toNat * flat ei.zero))))) c.w:=by
 unfold execOp; rw [ho]
 simp only [Instr.indexAt,hx,hy,Sem.run_bind,wG,Result.andThen_ok,run_underlying ht,Instr.sureAddr,Sem.run_pure,h0,h1,and_self,if_true,hE.oO]

theorem JU (hL : dR P L) {t : Nat} {x y : Operand} (hr : HR c H) (he : gJ c e a) (hx : bF x = true) (hy : bF y = true) (ho : o.op = .indexAddr t x y)
  (h : bV e x fun A=>bV e y fun I=>l7 L t A I fun R=>k R H) : dD P o a.eval c H k ks:=by
 obtain ⟨A,hA,h⟩:=aW he hx h
 obtain ⟨I,hI,h⟩:=aW he hy h
 unfold l7 at h
 split at h
 ·rename_i kd n
  obtain ⟨e2,_⟩:=kE hI
  obtain ⟨i,hT,h⟩:=Lay.bn hL h
  obtain ⟨d,hd,hdd⟩:=hT.under
  split at h
  ·rename_i el sz l tok hi _ _
   obtain rfl:=dS (hdd.trans hi)
   obtain ⟨ei,hE,h⟩:=Lay.bn hL h
   obtain ⟨hsz,hix⟩:=bI.1 h
   subst hsz
   obtain ⟨z,⟨h0,hz⟩,hk⟩:=hix.ex
   have hlt : n.toNat < l.length:=(List.getElem?_eq_some_iff.1 hz).1
   rcases (GL hA).2 with ⟨rfl,_⟩ | ⟨ad,cap,e1,_,_,hs,hre⟩
   ·simp at hlt
   ·obtain ⟨cs,g1,g2,g3⟩:=SI hre hz
    have hsp:=hs (by intro e; subst e; simp at hlt)
    rw [GI hsp] at e1
    have hrun:=nO (P:=P) (c:=c) ho hd hE e1 e2 h0 (by omega)
    rw [addr_add] at hrun
    exact .pure hr hrun (bg (Oy g2 g3)) hk
  ·rename_i el j off len cap sz hi _ _
   obtain rfl:=dS (hdd.trans hi)
   obtain ⟨ei,hE,h⟩:=Lay.bn hL h
   obtain ⟨rfl,⟨h0,h1⟩,hk⟩:=bI.1 h
   obtain ⟨hj,e1,_⟩:=CZ hA
   have hrun:=nO (P:=P) (c:=c) ho hd hE e1 e2 h0 h1
   rw [addr_add,<- Nat.add_mul] at hrun
   exact .pure hr hrun (bg (rQ hj)) hk
  ·rename_i m el j p off hi _ _
   obtain rfl:=FV (hdd.trans hi)
   obtain ⟨ei,hE,⟨h0,h1⟩,h⟩:=Lay.bn hL h
   have hk:=wE.1 h
   obtain ⟨hj,e1⟩:=yP hA
   have hrun:=zf (P:=P) (c:=c) ho hd hE e1 e2 h0 h1
   rw [addr_add] at hrun
   exact .pure hr hrun (bg (rQ hj)) hk
  ·exact h.elim
 ·exact h.elim

theorem Wq (hL : dR P L) {t : Nat} {x y : Operand} (hr : HR c H) (he : gJ c e a) (hx : bF x = true) (hy : bF y = true) (ho : o.op = .index t x y)
  (h : bV e x fun A=>bV e y fun I=>BL L t A I fun R=>k R H) : dD P o a.eval c H k ks:=by
 obtain ⟨A,hA,h⟩:=aW he hx h
 obtain ⟨I,hI,h⟩:=aW he hy h
 have h' : ∃ s kd n,A = .str s /\ I = .int kd n /\ L.bM t fun i=>(match i.desc with
  | .str=>bZ s n fun b=>k (.int .u8 b.toNat) H
  | _=>False):=by
  unfold BL at h
  cases A <;> cases I <;> first | exact h.elim | exact ⟨_,_,_,rfl,rfl,h⟩
 clear h
 obtain ⟨s,kd,n,rfl,rfl,h⟩:=h'
 ·obtain ⟨e2,_⟩:=kE hI
  obtain ⟨e1,_⟩:=Hq hA
  obtain ⟨i,hT,h⟩:=Lay.bn hL h
  obtain ⟨d,hd,hdd⟩:=hT.under
  split at h
  ·rename_i hi
   obtain rfl:=o7 (hdd.trans hi)
   obtain ⟨b,⟨h0,hb⟩,hk⟩:=h.ex
   refine .pure hr (v:=.int .u8 b.toNat) ?_ (bg (dM ?_)) hk
   ·have hlt : n.toNat < s.length:=(List.getElem?_eq_some_iff.1 hb).1
    have hs : (⟨s.toArray⟩ : ByteArray)[n.toNat]? = some b:=by
     rw [List.getElem?_eq_getElem hlt] at hb
     have h2 : n.toNat < (⟨s.toArray⟩ : ByteArray).size:=by simpa [ByteArray.size] using hlt
     rw [getElem?_pos (⟨s.toArray⟩ : ByteArray) n.toNat h2]
     exact hb
    unfold execOp; rw [ho]
    simp only [Instr.index,e1,e2,Sem.run_bind,wG,Result.andThen_ok,run_underlying hd,h0,if_true,hs,Sem.run_pure]
   ·have:=b.toNat_lt
    simp [uN,IntKind.min,IntKind.max,IntKind.signed,IntKind.bits]; omega
  ·exact h.elim

theorem ML {x : Operand} (hr : HR c H) (he : gJ c e a) (hx : bF x = true) (ho : o.op = .nilCheck x)
  (h : bV e x fun A=>(match A with
  | .ptr _ _ _=>k A H
  | .cp _=>k A H
  | .fn _ _=>k A H
  | _=>False)) : dD P o a.eval c H k ks:=by
 obtain ⟨A,hA,h⟩:=aW he hx h
 have run : ∀ v,a.eval x = v -> ((∃ ad,v = .pointer (some ad)) \/ (∃ f x y,v = .func (.func f) x y)) -> (execOp a.eval o).run P c.w = .ok (.value v) c.w:=by
  rintro v hv (⟨ad,rfl⟩ | ⟨f,x,y,rfl⟩) <;> (unfold execOp; rw [ho]; simp only [hv]; rfl)
 split at h
 ·obtain ⟨_,e1⟩:=yP hA
  exact .pure hr (run _ rfl (.inl ⟨_,e1⟩)) hA h
 ·obtain ⟨ad,ds,e1,_⟩:=Sr hA
  exact .pure hr (run _ rfl (.inl ⟨_,e1⟩)) hA h
 ·obtain ⟨vs,e1,_⟩:=VV_fn hA
  exact .pure hr (run _ rfl (.inr ⟨_,_,_,e1⟩)) hA h
 ·exact h.elim

theorem Yt : ∀ {l : List AV} {vs : List Value} {i : Nat} {x : AV},VA c l vs -> l[i]? = some x -> ∃ v,vs[i]? = some v /\ VV c x v
 | [],_,_,_,_,h=>by simp at h
 | y :: l,vs,0,x,hr,h=>by
   simp only [VA] at hr
   obtain ⟨v,r,rfl,h2,h3,h4⟩:=hr
   obtain rfl : y = x:=by simpa using h
   exact ⟨v,rfl,h2,h3⟩
 | y :: l,vs,i + 1,x,hr,h=>by
   simp only [VA] at hr
   obtain ⟨v,r,rfl,h2,h3,h4⟩:=hr
   obtain ⟨u,g1,g2⟩:=Yt (l:=l) (i:=i) h4 (by simpa using h)
   exact ⟨u,by simpa using g1,g2⟩

theorem Pj {x : Operand} {i : Nat} (hr : HR c H) (he : gJ c e a) (hx : bF x = true) (ho : o.op = .extract x i)
  (h : bV e x fun A=>(match A with
  | .eG l=>pY l i fun R=>k R H
  | _=>False)) : dD P o a.eval c H k ks:=by
 obtain ⟨A,hA,h⟩:=aW he hx h
 split at h
 ·obtain ⟨R,hR,h⟩:=jl.1 h
  obtain ⟨vs,e1,h2⟩:=hA
  obtain ⟨v,h3,h4⟩:=Yt h2 hR
  refine .pure hr (v:=v) ?_ (bg h4) h
  unfold execOp; rw [ho]
  rw [Array.getElem?_toList] at h3
  simp only [Instr.extract,e1,h3,Sem.run_bind,Sem.run_pure,Result.andThen_ok]
 ·exact h.elim

theorem Y4 {op : UnOp} {t : Nat} {x : Operand} (hr : HR c H) (he : gJ c e a) (hx : bF x = true) (ho : o.op = .unOp op t x)
  {F : Nat -> List AV -> Heap -> AV -> Heap -> Prop} {kC : AV -> Prop} (h : fZ F kC L (.unOp op t x) e H k ks) : dD P o a.eval c H k ks:=by
 simp only [fZ] at h
 cases op with
 | not =>
   obtain ⟨A,hA,h⟩:=aW he hx h
   have h : uM A fun R=>k R H:=h
   have hn : (∀ l,A ≠ .eG l) /\ A ≠ .und:=by
    refine ⟨?_,?_⟩ <;> intros <;> intro e <;> subst e <;> simp [uM] at h
   have hV:=dH hA hn.1 hn.2
   obtain ⟨b,hb⟩:=Bd hV h
   rw [hb] at hV
   obtain ⟨R,h1,h2⟩:=lU hV h
   refine .pure hr (v:=.bool !b) ?_ (bg h1) h2
   unfold execOp; rw [ho]
   simp only [Op.unary,hb,Sem.run_bind,Sem.run_pure,Result.andThen_ok]
 | neg =>
   obtain ⟨A,hA,h⟩:=aW he hx h
   have h' : ∃ ka n,A = .int ka n /\ arith ka (0 - n) fun R=>k R H:=by
    cases A <;> first | exact h.elim | exact ⟨_,_,rfl,h⟩
   obtain ⟨ka,n,rfl,h⟩:=h'
   obtain ⟨e1,_⟩:=kE hA
   obtain ⟨R,h1,h2⟩:=ni (c:=c) h
   refine .pure hr ?_ (bg h1) h2
   unfold execOp; rw [ho]
   simp only [Op.unary,e1,Op.intArith,Sem.run_bind,Sem.run_pure,Result.andThen_ok]
 | xor=>obtain ⟨A,hA,h⟩:=aW he hx h; exact h.elim
 | plus=>obtain ⟨A,hA,h⟩:=aW he hx h; exact h.elim

end
end Go.AL

namespace Go.AL

section
variable {P : Program} {L : Lay} {c : Cx} {H : Heap} {e : Env} {a : Act} {k : AV -> Heap -> Prop} {ks : Heap -> Prop} {o : Oper}

theorem VU (hr : HR c H) {A : AV} {v : Value} (t : Nat) (hv : VV c A v) :
  Tr c H (c.push (.cells v.cells t) ((nextId H,.box A) :: H)) ((nextId H,.box A) :: H):=by
 refine Tr.push hr _ _ (fun _=>rfl) ?_
 refine ⟨v.cells.toList,t,?_,oC (JK hr _ _) _ _ hv.2,?_⟩
 ·rw [uSρ hr]; simp only [Cx.push,Array.toArray_toList]; exact alloc_heap_new _ _
 ·intro x hx
  rw [uSρ hr] at hx
  have:=hr.im _ _ hx
  omega

theorem Wi (hr : HR c H) {A : AV} {v : Value} (t : Nat) (hv : VV c A v) (hrun : (execOp a.eval o).run P c.w = .ok (.value (.pointer (some ⟨c.w.heap.size,0,none⟩))) (c.w.alloc (.cells v.cells t)))
  (h : oQ H (.box A) fun j H'=>k (.ptr j [] 0) H') : dD P o a.eval c H k ks:=by
 have h:=eF.1 h
 have htr:=VU hr t hv
 refine .inl ⟨_,c.push (.cells v.cells t) ((nextId H,.box A) :: H),_,_,hrun,htr,?_,h⟩
 have:=rQ (c:=c.push (.cells v.cells t) ((nextId H,.box A) :: H)) (i:=nextId H) (off:=0) (p:=[]) (by simp only [Cx.push,hr.nx]; omega)
 rw [uSρ hr] at this
 exact bg this

theorem Wx (hL : dR P L) {t : Nat} (hr : HR c H) (ho : o.op = .alloc t) (h : L.bM t fun i=>oQ H (.box i.zero) fun j H'=>k (.ptr j [] 0) H') : dD P o a.eval c H k ks:=by
 obtain ⟨i,hT,h⟩:=Lay.bn hL h
 obtain ⟨v,h1,h2,h3⟩:=hT.y9 c.w
 refine Wi hr t (A:=i.zero) (v:=v) ⟨h2,iO _ _ (h3 _ _)⟩ ?_ h
 unfold execOp; rw [ho]
 simp only [Instr.alloc,Sem.run_bind,h1,Result.andThen_ok,newVar,newRow,run_newObj,Sem.run_pure,World.alloc_eq]

theorem op_box (hL : dR P L) {t : Nat} {x : Operand} (hr : HR c H) (he : gJ c e a) (hx : bF x = true) (ho : o.op = .box t x)
  (h : bV e x fun A=>yG L t A (oQ H (.box A) fun j H'=>k (.ptr j [] 0) H')) : dD P o a.eval c H k ks:=by
 obtain ⟨A,hA,h⟩:=aW he hx h
 obtain ⟨hval,i,hT,_,_,h⟩:=jw hL h
 refine Wi hr t (nM hA hval) ?_ h
 unfold execOp; rw [ho]
 simp only [Instr.box,Sem.run_bind,Result.andThen_ok,newVar,newRow,run_newObj,Sem.run_pure,World.alloc_eq]

theorem lX {x : Option Operand} {d : Int} {k : Int -> Prop} (he : gJ c e a) (hx : x.all bF = true) (h : yH e x d k) :
  ∃ n,k n /\ ((x = none /\ n = d) \/ ∃ y kd,x = some y /\ a.eval y = .int kd n):=by
 cases x with
 | none=>exact ⟨d,h,.inl ⟨rfl,rfl⟩⟩
 | some y =>
   obtain ⟨A,hA,h⟩:=aW he (by simpa using hx) h
   cases A <;> first | exact h.elim | exact ⟨_,h,.inr ⟨_,_,rfl,(kE hA).1⟩⟩

theorem run_sliceBound {kd : IntKind} {n : Int} {m : Nat} {w : World} {cd : BoundsCode} (h0 : 0 <= n) (h1 : n <= (m : Int)) : (Instr.sliceBound (.int kd n) m cd).run P w = .ok n.toNat w:=by
 unfold Instr.sliceBound
 simp only [Sem.run_bind,wG,Result.andThen_ok,h0,h1,and_self,if_true,Sem.run_pure]

theorem kK {b : Bool} {len cap : Nat} {lo hi : Option Operand} {w : World} {l h : Int} (hlc : len <= cap)
  (hl : (lo = none /\ l = 0) \/ ∃ y kd,lo = some y /\ a.eval y = .int kd l) (hh : (hi = none /\ h = (len : Int)) \/ ∃ y kd,hi = some y /\ a.eval y = .int kd h)
  (h0 : 0 <= l) (h1 : l <= h) (h2 : h <= (len : Int)) : (Instr.sliceBounds b len cap (lo.map a.eval) (hi.map a.eval) none).run P w = .ok (l.toNat,h.toNat,cap) w:=by
 unfold Instr.sliceBounds
 rcases hh with ⟨rfl,rfl⟩ | ⟨y,kd,rfl,ey⟩ <;> rcases hl with ⟨rfl,rfl⟩ | ⟨z,kd',rfl,ez⟩
 ·simp only [Option.map_none,Sem.run_bind,Sem.run_pure,Result.andThen_ok]; rfl
 ·simp only [Option.map_none,Option.map_some,Sem.run_bind,Sem.run_pure,Result.andThen_ok,ez,run_sliceBound h0 h1,Int.toNat_natCast]
 ·simp only [Option.map_none,Option.map_some,Sem.run_bind,Sem.run_pure,Result.andThen_ok,ey]
  rw [run_sliceBound (by omega) (by omega)]; rfl
 ·simp only [Option.map_some,Sem.run_bind,Sem.run_pure,Result.andThen_ok,ey,ez]
  rw [run_sliceBound (by omega) (by omega)]
  simp only [Result.andThen_ok]
  rw [run_sliceBound h0 (by omega)]; rfl

theorem Wh (hL : dR P L) {t : Nat} {x : Operand} {lo hi : Option Operand} (hr : HR c H) (he : gJ c e a) (hx : bF x = true) (hlo : lo.all bF = true) (hhi : hi.all bF = true)
  (ho : o.op = .slice t x lo hi none) (h : bV e x fun A=>aslice L t e A lo hi fun R=>k R H) : dD P o a.eval c H k ks:=by
 obtain ⟨A,hA,h⟩:=aW he hx h
 unfold aslice at h
 obtain ⟨i,hT,h⟩:=Lay.bn hL h
 obtain ⟨d,hd,hdd⟩:=hT.under
 split at h
 ·rename_i s hi' _
  obtain rfl:=o7 (hdd.trans hi')
  obtain ⟨e1,hs⟩:=Hq hA
  obtain ⟨l,h,hl⟩:=lX he hlo h
  obtain ⟨m,h,hm⟩:=lX he hhi h
  obtain ⟨⟨h0,h1,h2⟩,hk⟩:=h.ex
  refine .pure hr (v:=.string ⟨((s.drop l.toNat).take (m.toNat - l.toNat)).toArray⟩) ?_ (bg (Js ?_)) hk
  ·have hsz : (⟨s.toArray⟩ : ByteArray).size = s.length:=by simp [ByteArray.size]
   unfold execOp; rw [ho]
   simp only [Instr.sliceAt,Instr.slice,e1,Sem.run_bind,run_underlying hd,Result.andThen_ok,Option.isSome_none,Bool.false_eq_true,if_false,hsz,Sem.run_pure,Option.map_none]
   rw [kK (P:=P) (a:=a) (Nat.le_refl _) hl hm h0 h1 h2]
   simp only [Result.andThen_ok]
   congr 3
   apply ByteArray.ext
   simp [ByteArray.data_extract]
  ·have : ((s.drop l.toNat).take (m.toNat - l.toNat)).length <= s.length:=by simp; omega
   omega
 ·rename_i el sz l tok hi' _
  obtain rfl:=dS (hdd.trans hi')
  obtain ⟨ei,hE,h⟩:=Lay.bn hL h
  obtain ⟨hsz,h⟩:=bI.1 h
  subst hsz
  obtain ⟨p,h,hp⟩:=lX he hlo h
  obtain ⟨q,h,hq⟩:=lX he hhi h
  obtain ⟨⟨h0,h1,h2⟩,hk⟩:=h.ex
  obtain ⟨hml,hv⟩:=GL hA
  have hlen : ((l.drop p.toNat).take (q.toNat - p.toNat)).length = q.toNat - p.toNat:=by simp; omega
  rcases hv with ⟨rfl,e1⟩ | ⟨ad,cap,e1,hc1,hc2,hs,hre⟩
  ·have hp0 : p = 0:=by simp at h2; omega
   have hq0 : q = 0:=by simp at h2; omega
   subst hp0; subst hq0
   refine .pure hr (v:=.slice none 0 0) ?_ (bg (dY rfl rfl ?_)) hk
   ·unfold execOp; rw [ho]
    simp only [Instr.sliceAt,Instr.slice,e1,Sem.run_bind,run_underlying hd,Result.andThen_ok,Option.map_none]
    rw [kK (P:=P) (a:=a) (Nat.le_refl _) hp (h:=0) (by rcases hq with ⟨h1,_⟩ | h1; exact .inl ⟨h1,rfl⟩; exact .inr h1) (by omega) (by omega) (by simp)]
    simp only [Result.andThen_ok,hE.oO]
    rfl
   ·simp only [VR,Rd]; exact ⟨by simp,.inl ⟨by simp,trivial⟩⟩
  ·refine .pure hr (v:=.slice (if cap = p.toNat then some ad else some (ad.add (p.toNat * flat ei.zero))) (q.toNat - p.toNat) (cap - p.toNat)) ?_ (bg (dY rfl rfl ?_)) hk
   ·unfold execOp; rw [ho]
    simp only [Instr.sliceAt,Instr.slice,e1,Sem.run_bind,run_underlying hd,Result.andThen_ok,Option.map_none]
    rw [kK (P:=P) (a:=a) hc1 hp hq h0 h1 h2]
    simp only [Result.andThen_ok,hE.oO,Option.map_some,Sem.run_pure]
   ·simp only [VR,Rd,hlen]
    refine ⟨by omega,.inr ?_⟩
    by_cases hcp : cap = p.toNat
    ·rw [if_pos hcp]
     have hq' : q.toNat - p.toNat = 0:=by omega
     refine ⟨ad,cap - p.toNat,by rw [hq'],by omega,by omega,?_,?_⟩
     ·intro hne; exact absurd (List.eq_nil_of_length_eq_zero (by rw [hlen,hq'])) hne
     ·rw [hq',List.take_zero]; simp only [su]
    ·rw [if_neg hcp]
     refine ⟨ad.add (p.toNat * flat ei.zero),cap - p.toNat,rfl,by omega,by omega,?_,?_⟩
     ·intro hne
      unfold Addr.add; split
      ·refine hs ?_
       intro e; subst e; exact hne (by simp)
      ·rfl
     ·have hb : (ad.add (p.toNat * flat ei.zero)).block = ad.block /\ (ad.add (p.toNat * flat ei.zero)).off = ad.off + p.toNat * flat ei.zero:=by
       unfold Addr.add; split
       ·rename_i h0; rw [h0]; exact ⟨rfl,rfl⟩
       ·exact ⟨rfl,rfl⟩
      rw [hb.1,hb.2]
      exact OC _ (OD _ hre (by omega))
 ·rename_i el j off len cap sz hi' _
  obtain rfl:=dS (hdd.trans hi')
  obtain ⟨ei,hE,h⟩:=Lay.bn hL h
  obtain ⟨hsz,h⟩:=bI.1 h
  subst hsz
  obtain ⟨p,h,hp⟩:=lX he hlo h
  obtain ⟨q,h,hq⟩:=lX he hhi h
  obtain ⟨⟨h0,h1,h2⟩,hcp,hk⟩:=h
  obtain ⟨hj,e1,hc1,hc2⟩:=CZ hA
  refine .pure hr (v:=.slice (some ⟨c.ρ j,(off + p.toNat) * flat ei.zero,none⟩) (q.toNat - p.toNat) (cap - p.toNat)) ?_ (bg (dY rfl rfl ?_)) hk
  ·unfold execOp; rw [ho]
   simp only [Instr.sliceAt,Instr.slice,e1,Sem.run_bind,run_underlying hd,Result.andThen_ok,Option.map_none]
   rw [kK (P:=P) (a:=a) hc1 hp hq h0 h1 h2]
   simp only [Result.andThen_ok,hE.oO,Option.map_some,Sem.run_pure]
   rw [if_neg (by omega),addr_add,Nat.add_mul]
  ·simp only [VR]
   exact ⟨hj,trivial,by omega,by omega⟩
 ·exact h.elim

end
end Go.AL

namespace Go.AL

theorem Yr {c : Cx} : ∀ {As : List AV} {vs : List Value},Az c As vs -> (∀ A ∈ As,isVal A = true) -> VA c As vs
 | [],vs,h,_=>by simp only [VA]; exact h
 | A :: As,vs,h,hv=>by
   obtain ⟨v,r,rfl,h1,h2⟩:=h
   simp only [VA]
   exact ⟨v,r,rfl,(nM h1 (hv A (by simp))).1,(nM h1 (hv A (by simp))).2,Yr h2 fun x hx=>hv x (by simp [hx])⟩

theorem AB {k : Prop} : ∀ {As : List AV},BU As k -> (∀ A ∈ As,isVal A = true) /\ k
 | [],h=>⟨by simp,h⟩
 | A :: As,h=>by
   simp only [BU] at h
   obtain ⟨h1,h2⟩:=uP.1 h
   obtain ⟨h3,h4⟩:=AB h2
   exact ⟨by intro x hx; rcases List.mem_cons.1 hx with rfl | hx; exact h1; exact h3 x hx,h4⟩

section
variable {P : Program} {L : Lay} {c : Cx} {H : Heap} {e : Env} {a : Act} {k : AV -> Heap -> Prop} {ks : Heap -> Prop} {o : Oper}

theorem Pm (hL : dR P L) {s d : Nat} {x : Operand} (hr : HR c H) (he : gJ c e a) (hx : bF x = true) (ho : o.op = .convert s d x)
  (h : bV e x fun A=>L.bM s fun _=>L.bM d fun i=>(match i.desc,A with
  | .int kd,.int _ n=>k (.int kd (kd.wrap n)) H
  | .str,.str s=>k (.str s) H
  | _,_=>False)) : dD P o a.eval c H k ks:=by
 obtain ⟨A,hA,h⟩:=aW he hx h
 obtain ⟨i0,hT0,h0⟩:=Lay.bn hL h
 clear h
 obtain ⟨i,hT,h⟩:=Lay.bn hL h0
 clear h0
 obtain ⟨u,hd,hdd⟩:=hT.under
 obtain ⟨us,hs,_⟩:=hT0.under
 split at h
 ·rename_i _ _ kd kd' n hi
  obtain rfl:=P5 (hdd.trans hi)
  obtain ⟨e1,_⟩:=kE hA
  refine .pure hr (v:=.int kd (kd.wrap n)) ?_ (bg (dM (oL _ _))) h
  unfold execOp; rw [ho]
  simp only [convert,e1,Sem.run_bind,run_underlying hs,run_underlying hd,Result.andThen_ok,Conv.intToInt,Sem.run_pure]
 ·rename_i _ _ b hi
  obtain rfl:=o7 (hdd.trans hi)
  obtain ⟨e1,h1⟩:=Hq hA
  refine .pure hr (v:=a.eval x) ?_ hA h
  unfold execOp; rw [ho]
  simp only [convert,e1,Sem.run_bind,run_underlying hs,run_underlying hd,Result.andThen_ok,Sem.run_pure]
 ·exact h.elim

theorem Bc (hL : dR P L) {t : Nat} {x : Operand} (hr : HR c H) (he : gJ c e a) (hx : bF x = true) (ho : o.op = .makeInterface t x)
  (h : bV e x fun A=>L.bM t fun i=>(match i.desc with
  | .iface=>False
  | _=>Ee A (k (.jm t A) H))) : dD P o a.eval c H k ks:=by
 obtain ⟨A,hA,h⟩:=aW he hx h
 obtain ⟨i,hT,h⟩:=Lay.bn hL h
 obtain ⟨u,hd,hdd⟩:=hT.under
 have h' : i.desc ≠ .iface /\ isVal A = true /\ k (.jm t A) H:=by
  cases hi : i.desc <;> simp only [hi] at h <;> first | exact h.elim | exact ⟨by simp,uP.1 h⟩
 obtain ⟨hne,hval,hk⟩:=h'
 have hV:=nM hA hval
 refine .pure hr (v:=.iface t (a.eval x)) ?_ (bg (dY rfl rfl ?_)) hk
 ·unfold execOp; rw [ho]
  have : ∀ ms,u ≠ .interface ms:=by intro ms e; subst e; exact hne hdd.symm
  simp only [Instr.makeInterface,Sem.run_bind,run_underlying hd,Result.andThen_ok]
  cases u <;> first | rfl | exact absurd rfl (this _)
 ·simp only [VR]; exact ⟨_,rfl,hV.1,hV.2⟩

theorem MN {f : Fn} {first cap : Array Operand} (hr : HR c H) (he : gJ c e a) (hx : cap.toList.all bF = true) (ho : o.op = .makeFunc f first cap)
  {F : Nat -> List AV -> Heap -> AV -> Heap -> Prop} {kC : AV -> Prop} (h : fZ F kC L (.makeFunc f first cap) e H k ks) : dD P o a.eval c H k ks:=by
 simp only [fZ] at h
 cases f with
 | func g =>
   cases hf : first.toList with
   | nil =>
     rw [hf] at h
     obtain ⟨As,h1,h2⟩:=l9 he hx h
     obtain ⟨h3,h4⟩:=AB h2
     have hV:=Yr h1 h3
     obtain rfl : first = #[]:=by cases first; simp_all
     refine .pure hr (v:=.func (.func g) #[] (cap.toList.map a.eval).toArray) ?_ (bg (dY rfl rfl ?_)) h4
     ·unfold execOp; rw [ho]
      simp [Instr.makeFunc]
      exact Array.ext' (by simp)
     ·simp only [VR]; exact ⟨_,rfl,hV⟩
   | cons x l=>rw [hf] at h; exact h.elim
 | _=>exact h.elim

theorem yQ : ∀ {As Bs : List AV} {vs us : List Value},Az c As vs -> Az c Bs us -> Az c (As ++ Bs) (vs ++ us)
 | [],_,_,_,h,g=>by obtain rfl:=h; exact g
 | A :: As,Bs,vs,us,h,g=>by
   obtain ⟨v,r,rfl,h1,h2⟩:=h
   exact ⟨v,r ++ us,rfl,h1,yQ h2 g⟩

theorem BP : ∀ {As : List AV} {vs : List Value},VA c As vs -> Az c As vs
 | [],_,h=>by simp only [VA] at h; exact h
 | A :: As,vs,h=>by
   simp only [VA] at h
   obtain ⟨v,r,rfl,h1,h2,h3⟩:=h
   exact ⟨v,r,rfl,bg ⟨h1,h2⟩,BP h3⟩

theorem le0_EV {A B : AV} {v : Value} (h : le0 A B) (hv : EV c A v) : EV c B v:=by
 cases A with
 | eG l=>cases B <;> simp only [le0] at h <;> cases h; exact hv
 | und=>cases B <;> simp only [le0] at h <;> first | (cases h; done) | trivial
 | _=>exact bg (Bg h hv)

theorem wP : ∀ {l m : List AV} {vs : List Value},H9 l m -> Az c l vs -> Az c m vs
 | [],[],_,_,hr=>hr
 | [],_ :: _,_,h,_=>by simp only [H9] at h
 | _ :: _,[],_,h,_=>by simp only [H9] at h
 | x :: l,y :: m,vs,h,hr=>by
   simp only [H9] at h
   obtain ⟨v,r,h1,h2,h3⟩:=hr
   exact ⟨v,r,h1,le0_EV h.1 h2,wP h.2 h3⟩

theorem SX {G : Heap} (htp : ∀ k n,dA G k = some n -> c.tp k = some n) : ∀ {l : List AV} {vs : List Value},iM (nextId G) l = true -> Az c l vs -> Az (c.cut G) l vs
 | [],_,_,hr=>hr
 | x :: l,vs,hb,hr=>by
   simp only [iM] at hb
   obtain ⟨v,r,h1,h2,h3⟩:=hr
   cases hx : dN (nextId G) x with
   | false=>rw [hx] at hb; cases hb
   | true=>rw [hx] at hb; exact ⟨v,r,h1,Hr htp hx h2,SX htp hb h3⟩

theorem aA.pure {f : Nat} {Bs : List AV} {R : AV} (h : aA P f Bs [] R []) (hB : iM 0 Bs = true) (hR : dN 0 R = true) (hr : HR c H) {vs : List Value} (hv : Az c Bs vs) :
  Calls P f vs.toArray c.w fun e w'=>∃ v d,e = .returned v /\ d.w = w' /\ Tr c H d H /\ EV d R v:=by
 have hr0 : HR (c.cut []) []:=⟨rfl,rfl,trivial,hr.im,by simp,.nil⟩
 have hv0 : Az (c.cut []) Bs vs:=SX (G:=[]) (fun k n hn=>by cases hn) hB hv
 refine Calls.mono (w:=(c.cut []).w) (h.2 (c.cut []) vs hr0 hv0) ?_
 rintro _ w' ⟨v,d,rfl,rfl,htr,hV⟩
 refine ⟨v,{ c with w:=d.w,Im:=d.Im },rfl,rfl,?_,?_⟩
 ·refine Tr.keep hr ⟨htr.le.im,Nat.le_refl _,fun _ _=>rfl,fun _ _ _ h=>.inl ⟨h,rfl⟩⟩ rfl rfl rfl htr.os htr.tape htr.output htr.size (fun b hb=>htr.fr b hb (by simp)) (fun b o ho=>?_)
  rcases htr.YK b o ho with h | h | ⟨x,hx,_⟩
  ·exact .inl h
  ·exact .inr ⟨h,htr.hr.im b o ho⟩
  ·simp at hx
 ·have h1 : EV (d.cut []) R v:=Hr (G:=[]) (fun k n hn=>by cases hn) hR hV
  refine mG (c:=d.cut []) (d:={ c with w:=d.w,Im:=d.Im }) ⟨fun _ _ h=>⟨h,rfl⟩,Nat.zero_le _,fun k hk=>?_,fun k n hk=>?_⟩ h1
  ·simp [Cx.cut,nextId] at hk
  ·simp [Cx.cut,nextId] at hk

theorem H7 {F : Nat -> List AV -> Heap -> AV -> Heap -> Prop} (hFn : ∀ f args H R H',F f args H R H' -> aA P f args H R H') {f : Operand} {cl : Call} (hr : HR c H) (he : gJ c e a) (hf : bF f = true) (hx : cl.args.toList.all bF = true) (ho : o.op = .call cl) (hc : cl.callee = .value f)
  (h : bV e f fun A=>(match A with
   | .fn g cap=>pG e cl.args.toList fun As=>Ot As cap fun Bs=>JB F Ok g Bs H k
   | _=>False)) : dD P o a.eval c H k ks:=by
 obtain ⟨A,hA,h⟩:=aW he hf h
 split at h
 ·rename_i g cap
  obtain ⟨vs,e1,h1⟩:=VV_fn hA
  obtain ⟨As,h2,h3⟩:=l9 he hx h
  have h3:=Gw.1 h3
  have key : ∃ R H',(∃ fn,P.funcs[g]? = some fn /\ (fn.name == "runtime.NumGoroutine") = false /\ fn.body.isSome = true) /\
    (Calls P g (cl.args.toList.map a.eval ++ vs).toArray c.w fun e w'=>∃ v d,e = .returned v /\ d.w = w' /\ Tr c H d H' /\ EV d R v) /\ k R H':=by
   have fin : ∀ {R H'},(Calls P g (cl.args.toList.map a.eval ++ vs).toArray c.w fun e w'=>∃ v d,e = .returned v /\ d.w = w' /\ Tr c H d H' /\ EV d R v) -> Ok R:=by
    intro R H' hcall
    obtain ⟨e',w',fr,⟨v,d,_,_,_,h8⟩,_⟩:=hcall []
    exact SS h8
   cases h3 with
   | gen R H' hF hk =>
     have hF:=hFn _ _ _ _ _ hF
     have hcall:=hF.2 c _ hr (yQ h2 (BP h1))
     exact ⟨R,H',hF.1,hcall,hk (fin hcall)⟩
   | pure Bs R hle hb hF hk =>
     have hF:=hFn _ _ _ _ _ hF
     have hcall:=aA.pure hF hb.1 hb.2 hr (wP hle (yQ h2 (BP h1)))
     exact ⟨R,H,hF.1,hcall,hk (fin hcall)⟩
  obtain ⟨R,H',⟨fn,f1,f2,f3⟩,hcall,hk⟩:=key
  ·refine .inr (.inr ⟨g,_,R,H',?_,hcall,hk⟩)
   unfold execOp; rw [ho]
   simp only [resolve,hc,e1,Deferred.ofValue,Sem.run_bind,Sem.run_pure,Result.andThen_ok,invoke,callFunc,run_program,f1,f2,Bool.false_eq_true,if_false]
   have : fn.body.isNone = false:=by cases hb : fn.body <;> simp [hb] at f3 ⊢
   simp only [this,Bool.false_eq_true,if_false,Sem.run_pure]
   congr 2
   simp
 ·exact h.elim

theorem jJ {cl : Call} {b : Builtin} (ho : o.op = .call cl) (hc : cl.callee = .builtin b) {w : World} :
  (execOp a.eval o).run P w = (builtin b cl.argTypes o.type (cl.args.map fun | .const _=>true | _=>false) (cl.args.map a.eval)).run P w:=by
 unfold execOp; rw [ho]
 simp only [resolve,hc,Sem.run_bind,Sem.run_pure,Result.andThen_ok,invoke]
 rfl

theorem DY {A : AV} {vs : List Value} (h : Az c [A] vs) : ∃ v,vs = [v] /\ EV c A v:=by
 obtain ⟨v,r,rfl,h1,h2⟩:=h; obtain rfl:=h2; exact ⟨v,rfl,h1⟩
theorem uw {A B : AV} {vs : List Value} (h : Az c [A,B] vs) : ∃ v u,vs = [v,u] /\ EV c A v /\ EV c B u:=by
 obtain ⟨v,r,rfl,h1,h2⟩:=h; obtain ⟨u,rfl,h3⟩:=DY h2; exact ⟨v,u,rfl,h1,h3⟩

theorem jM {xs : Array Operand} {ρ : Operand -> Value} {vs : List Value} (h : xs.toList.map ρ = vs) : xs.map ρ = vs.toArray:=by
 subst h; exact Array.ext' (by simp)

end
end Go.AL

namespace Go.AL

def uI (w : World) (Im : Nat -> Nat -> Prop) (sz : Nat) : List AV -> List Value -> Prop
 | [],cs=>cs = []
 | x :: l,cs=>∃ a d,cs = a ++ d /\ a.length = sz /\ Rd w Im x a /\ uI w Im sz l d

theorem dV {w : World} {Im : Nat -> Nat -> Prop} {sz : Nat} : ∀ {l : List AV} {cs : List Value},uI w Im sz l cs -> cs.length = l.length * sz
 | [],_,h=>by obtain rfl:=h; simp
 | x :: l,cs,h=>by
   obtain ⟨a,d,rfl,h1,_,h3⟩:=h
   simp only [List.length_append,List.length_cons,Nat.add_mul,dV h3,h1]; omega

theorem pW {w : World} {Im : Nat -> Nat -> Prop} {sz : Nat} : ∀ {l m : List AV} {cs ds : List Value},uI w Im sz l cs -> uI w Im sz m ds -> uI w Im sz (l ++ m) (cs ++ ds)
 | [],_,_,_,h,g=>by obtain rfl:=h; exact g
 | x :: l,m,cs,ds,h,g=>by
   obtain ⟨a,d,rfl,h1,h2,h3⟩:=h
   exact ⟨a,d ++ ds,by simp,h1,h2,pW h3 g⟩

theorem gy {w w' : World} {Im OH : Nat -> Nat -> Prop} (h : ∀ b o,Im b o -> OH b o /\ w'.cell? ⟨b,o,none⟩ = w.cell? ⟨b,o,none⟩) {sz : Nat} :
  ∀ {l : List AV} {cs : List Value},uI w Im sz l cs -> uI w' OH sz l cs
 | [],_,hr=>hr
 | x :: l,cs,hr=>by
   obtain ⟨a,d,h1,h2,h3,h4⟩:=hr
   exact ⟨a,d,h1,h2,dZ h _ _ h3,gy h h4⟩

theorem wu {c : Cx} {sz : Nat} : ∀ {l : List AV} {cs : List Value},uI c.w c.Im sz l cs -> ∀ u ∈ cs,u.oneCell' = true
 | [],_,h=>by obtain rfl:=h; simp
 | x :: l,cs,h=>by
   obtain ⟨a,d,rfl,h1,h2,h3⟩:=h
   intro u hu
   rcases List.mem_append.1 hu with hu | hu
   ·exact pO x a (iO _ _ h2) u hu
   ·exact wu h3 u hu

theorem uf {w : World} {Im : Nat -> Nat -> Prop} {sz b : Nat} : ∀ {l : List AV} {off : Nat},su w Im sz b l off ->
  ∃ cs,uI w Im sz l cs /\ ∀ j v,cs[j]? = some v -> w.cell? ⟨b,off + j,none⟩ = some v
 | [],off,_=>⟨[],rfl,by simp⟩
 | x :: l,off,h=>by
   simp only [su] at h
   obtain ⟨⟨a,h1,h2,h3⟩,h4⟩:=h
   obtain ⟨d,h5,h6⟩:=uf h4
   refine ⟨a ++ d,⟨a,d,rfl,h1,h3,h5⟩,fun j v hj=>?_⟩
   by_cases hlt : j < a.length
   ·rw [List.getElem?_append_left hlt] at hj; exact (h2 j v hj).1
   ·rw [List.getElem?_append_right (by omega)] at hj
    have:=h6 _ v hj
    have e : off + sz + (j - a.length) = off + j:=by omega
    rw [e] at this; exact this

theorem jS {w : World} {Im : Nat -> Nat -> Prop} {sz b : Nat} : ∀ {l : List AV} {cs : List Value} {off : Nat},uI w Im sz l cs -> jG w Im b off cs -> su w Im sz b l off
 | [],_,_,_,_=>by simp only [su]
 | x :: l,cs,off,h,hc=>by
   obtain ⟨a,d,rfl,h1,h2,h3⟩:=h
   simp only [su]
   refine ⟨⟨a,h1,fun j v hj=>hc j v (by rw [List.getElem?_append_left (List.getElem?_eq_some_iff.1 hj).1]; exact hj),h2⟩,jS h3 fun j v hj=>?_⟩
   have:=hc (a.length + j) v (by rw [List.getElem?_append_right (by omega),Nat.add_sub_cancel_left]; exact hj)
   rw [<- h1,Nat.add_assoc]; exact this

theorem kW {c : Cx} {sz : Nat} : ∀ {l : List AV} {cs : List Value},La c sz l cs -> ∃ a d,cs = a ++ d /\ uI c.w c.Im sz l a
 | [],cs,_=>⟨[],cs,rfl,rfl⟩
 | x :: l,cs,h=>by
   obtain ⟨a,d,rfl,h1,h2,h3⟩:=h
   obtain ⟨a',d',rfl,h4⟩:=kW h3
   exact ⟨a ++ a',d',by simp,a,a',rfl,h1,h2,h4⟩

theorem pR {c : Cx} {sz : Nat} {rest : List Value} : ∀ {l : List AV} {cs : List Value},uI c.w c.Im sz l cs -> La c sz l (cs ++ rest)
 | [],_,_=>trivial
 | x :: l,cs,h=>by
   obtain ⟨a,d,rfl,h1,h2,h3⟩:=h
   exact ⟨a,d ++ rest,by simp,h1,h2,pR h3⟩

theorem G9 {w : World} {Im : Nat -> Nat -> Prop} {sz : Nat} : ∀ {l : List AV} {cs : List Value} (n : Nat),uI w Im sz l cs -> n <= l.length -> uI w Im sz (l.drop n) (cs.drop (n * sz))
 | l,cs,0,h,_=>by simpa using h
 | [],cs,n + 1,_,h=>by simp at h
 | x :: l,cs,n + 1,h,hn=>by
   obtain ⟨a,d,rfl,h1,h2,h3⟩:=h
   have:=G9 n h3 (by simpa using hn)
   have e : (n + 1) * sz = a.length + n * sz:=by rw [Nat.add_mul,h1]; omega
   simp only [List.drop_succ_cons]
   rw [e,List.drop_append,List.drop_eq_nil_of_le (as:=a) (by omega),Nat.add_sub_cancel_left,List.nil_append]
   exact this

theorem wo {w : World} {Im : Nat -> Nat -> Prop} {sz : Nat} : ∀ {l : List AV} {cs : List Value} (n : Nat),uI w Im sz l cs -> uI w Im sz (l.take n) (cs.take (n * sz))
 | l,cs,0,h=>by simp [uI]
 | [],cs,n + 1,h=>by obtain rfl:=h; simp [uI]
 | x :: l,cs,n + 1,h=>by
   obtain ⟨a,d,rfl,h1,h2,h3⟩:=h
   have:=wo n h3
   have e : (n + 1) * sz = a.length + n * sz:=by rw [Nat.add_mul,h1]; omega
   simp only [List.take_succ_cons]
   rw [e,List.take_append,List.take_of_length_le (l:=a) (by omega),Nat.add_sub_cancel_left]
   exact ⟨a,_,rfl,h1,h2,this⟩

section
variable {P : Program} {L : Lay} {c : Cx} {H : Heap} {e : Env} {a : Act} {k : AV -> Heap -> Prop} {ks : Heap -> Prop} {o : Oper}

theorem wO {n : Nat} (h : n <= maxL) : uN .i64 (n : Int):=by
 unfold maxL at h
 simp [uN,IntKind.min,IntKind.max,IntKind.signed,IntKind.bits]; omega

theorem Wp {cl : Call} {t : Nat} {i : TI} {A : AV} (hr : HR c H) (ho : o.op = .call cl) (hc : cl.callee = .builtin .len) (hat : cl.argTypes[0]? = some t) (hT : pU P t i)
  {v : Value} (hv : cl.args.toList.map a.eval = [v]) (hA : EV c A v) (h : KW i.desc A H fun R=>k R H) : dD P o a.eval c H k ks:=by
 obtain ⟨d,hd,hdd⟩:=hT.under
 have run : ∀ r,(Builtin.len_ cl.argTypes o.type #[v]).run P c.w = .ok r c.w -> (execOp a.eval o).run P c.w = .ok (.value r) c.w:=by
  intro r hrr
  rw [jJ ho hc,jM hv]
  simp only [builtin,Sem.run_bind,hrr,Result.andThen_ok,Sem.run_pure]
 have base : ∀ (u : Value) (n : Int),v = u -> ((d = .string /\ ∃ s,u = .string s /\ n = s.size) \/ (∃ el,d = .slice el) /\ (∃ b m cp,u = .slice b m cp /\ n = m) \/ (∃ p q,d = .map p q) /\ u = .map none /\ n = 0) ->
   (execOp a.eval o).run P c.w = .ok (.value (.int .i64 n)) c.w:=by
  rintro u n rfl hcases
  refine run _ ?_
  unfold Builtin.len_
  rcases hcases with ⟨rfl,s,rfl,rfl⟩ | ⟨⟨el,rfl⟩,b,m,cp,rfl,rfl⟩ | ⟨⟨p,q,rfl⟩,rfl,rfl⟩
  ·simp only [hat,List.getElem?_toArray,List.getElem?_cons_zero,Sem.run_bind,run_underlying hd,Result.andThen_ok,Sem.run_pure,goInt]
  ·simp only [hat,List.getElem?_toArray,List.getElem?_cons_zero,Sem.run_bind,run_underlying hd,Result.andThen_ok,Sem.run_pure,goInt]
  ·simp only [hat,List.getElem?_toArray,List.getElem?_cons_zero,Sem.run_bind,run_underlying hd,Result.andThen_ok,Sem.run_pure,goInt]
 unfold KW at h
 split at h
 ·rename_i el hi
  obtain rfl:=dS (hdd.trans hi)
  exact .pure hr (base _ 0 (xB hA) (.inr (.inl ⟨⟨_,rfl⟩,_,_,_,rfl,rfl⟩))) (bg (dM (wO (n:=0) (by simp [maxL])))) h
 ·rename_i el sz l tok hi
  obtain rfl:=dS (hdd.trans hi)
  obtain ⟨h1,h2⟩:=GL hA
  refine .pure hr (base v l.length rfl (.inr (.inl ⟨⟨_,rfl⟩,?_⟩))) (bg (dM (wO h1))) h
  rcases h2 with ⟨rfl,e⟩ | ⟨ad,cap,e,_⟩
  ·exact ⟨_,_,_,e,rfl⟩
  ·exact ⟨_,_,_,e,rfl⟩
 ·rename_i el j off len cap sz hi
  obtain rfl:=dS (hdd.trans hi)
  obtain ⟨_,e,h1,h2⟩:=CZ hA
  exact .pure hr (base _ len e (.inr (.inl ⟨⟨_,rfl⟩,_,_,_,rfl,rfl⟩))) (bg (dM (wO (Nat.le_trans h1 h2)))) h
 ·rename_i s hi
  obtain rfl:=o7 (hdd.trans hi)
  obtain ⟨e,h1⟩:=Qw hA
  exact .pure hr (base _ s.length e (.inl ⟨rfl,_,rfl,by simp [ByteArray.size]⟩)) (bg (dM (wO h1))) h
 ·rename_i p q hi
  obtain rfl:=tJ (hdd.trans hi)
  exact .pure hr (base _ 0 (VV_nilm hA) (.inr (.inr ⟨⟨_,_,rfl⟩,rfl,rfl⟩))) (bg (dM (wO (n:=0) (by simp [maxL])))) h
 ·exact h.elim

theorem Wn {cl : Call} {A B : AV} (hr : HR c H) (ho : o.op = .call cl) (hc : cl.callee = .builtin .max) {v u : Value} (hv : cl.args.toList.map a.eval = [v,u]) (hA : EV c A v) (hB : EV c B u)
  (h : Px A B fun R=>k R H) : dD P o a.eval c H k ks:=by
 unfold Px at h
 split at h
 ·rename_i ka m kb n
  split at h
  ·obtain rfl:=gQ ‹_›
   obtain ⟨rfl,r1⟩:=kE hA
   obtain ⟨rfl,r2⟩:=kE hB
   refine .pure hr (v:=.int ka (max m n)) ?_ (bg (dM ?_)) h
   ·rw [jJ ho hc,jM hv]
    have : (if n > m then n else m) = max m n:=by omega
    simp [builtin,Builtin.max_,Builtin.max2,this]
   ·unfold uN at *; omega
  ·exact h.elim
 ·exact h.elim

theorem Wj {cl : Call} {A B : AV} (hr : HR c H) (ho : o.op = .call cl) (hc : cl.callee = .builtin .min) {v u : Value} (hv : cl.args.toList.map a.eval = [v,u]) (hA : EV c A v) (hB : EV c B u)
  (h : Dp A B fun R=>k R H) : dD P o a.eval c H k ks:=by
 unfold Dp at h
 split at h
 ·rename_i ka m kb n
  split at h
  ·obtain rfl:=gQ ‹_›
   obtain ⟨rfl,r1⟩:=kE hA
   obtain ⟨rfl,r2⟩:=kE hB
   refine .pure hr (v:=.int ka (min m n)) ?_ (bg (dM ?_)) h
   ·rw [jJ ho hc,jM hv]
    have : (if n < m then n else m) = min m n:=by omega
    simp [builtin,Builtin.min_,Builtin.min2,this]
   ·unfold uN at *; omega
  ·exact h.elim
 ·exact h.elim

theorem Y6 {cl : Call} {A B C : AV} (hr : HR c H) (ho : o.op = .call cl) (hc : cl.callee = .builtin .min) {v u x : Value} (hv : cl.args.toList.map a.eval = [v,u,x]) (hA : EV c A v) (hB : EV c B u) (hC : EV c C x)
  (h : Dp A B fun R=>Dp R C fun R=>k R H) : dD P o a.eval c H k ks:=by
 unfold Dp at h
 split at h
 ·rename_i ka m kb n
  split at h
  ·obtain rfl:=gQ ‹_›
   obtain ⟨rfl,r1⟩:=kE hA
   obtain ⟨rfl,r2⟩:=kE hB
   split at h
   ·rename_i kc p kd q he
    injection he with e1 e2
    subst e1 e2
    split at h
    ·obtain rfl:=gQ ‹_›
     obtain ⟨rfl,r3⟩:=kE hC
     refine .pure hr (v:=.int ka (min (min m n) q)) ?_ (bg (dM ?_)) h
     ·rw [jJ ho hc,jM hv]
      have h1 : (if n < m then n else m) = min m n:=by omega
      have h2 : (if q < min m n then q else min m n) = min (min m n) q:=by omega
      simp [builtin,Builtin.min_,Builtin.min2,h1,h2]
     ·unfold uN at *; omega
    ·exact h.elim
   ·exact h.elim
  ·exact h.elim
 ·exact h.elim

end
end Go.AL

namespace Go.AL

section
variable {P : Program} {L : Lay} {c : Cx} {H : Heap} {e : Env} {a : Act} {k : AV -> Heap -> Prop} {ks : Heap -> Prop} {o : Oper}

theorem ER (z : Array Value) (m : Nat) (_hz : 0 < z.size) : (madeCells z ((m + 1) * z.size)).toList = z.toList ++ (madeCells z (m * z.size)).toList:=by
 unfold madeCells
 simp only [Array.toList_map,Array.toList_range]
 have e1 : (m + 1) * z.size = z.size + m * z.size:=by rw [Nat.add_mul]; omega
 rw [e1,List.range_add,List.map_append,List.map_map]
 congr 1
 ·apply List.ext_getElem
  ·simp
  ·intro i h1 h2
   simp at h1 h2
   simp [Nat.mod_eq_of_lt h1,h1]
 ·apply List.map_congr_left
  intro x _
  simp

theorem OB {w : World} {Im : Nat -> Nat -> Prop} {z : AV} {v : Value} (hv : Rd w Im z v.cells.toList) : ∀ (m : Nat),uI w Im (flat z) (List.replicate m z) (madeCells v.cells (m * flat z)).toList:=by
 have hsz : v.cells.size = flat z:=by rw [<- Array.length_toList]; exact cZ _ _ hv
 intro m
 rcases Nat.eq_zero_or_pos (flat z) with h0 | hp
 ·have : (madeCells v.cells (m * flat z)).toList = []:=by rw [h0]; simp [madeCells]
  rw [this]
  have hvz : v.cells.toList = []:=List.eq_nil_of_length_eq_zero (by rw [Array.length_toList,hsz,h0])
  induction m with
  | zero=>rfl
  | succ m ih=>exact ⟨[],[],rfl,by simp [h0],by rw [<- hvz]; exact hv,ih (by rw [h0]; simp [madeCells])⟩
 ·induction m with
  | zero=>simp [madeCells,uI]
  | succ m ih =>
    have:=ER v.cells m (by omega)
    rw [hsz] at this
    rw [this]
    exact ⟨_,_,rfl,by rw [Array.length_toList,hsz],hv,ih⟩

theorem Va {w : World} {Im : Nat -> Nat -> Prop} {sz n m : Nat} {z : AV} {cs : List Value} (h : uI w Im sz (List.replicate m z) cs) (hn : n <= m) :
  uI w Im sz (List.replicate n z) (cs.take (n * sz)):=by
 have:=wo n h
 rwa [List.take_replicate,Nat.min_eq_left hn] at this

theorem JR (hL : dR P L) {t : Nat} {x y : Operand} (hr : HR c H) (he : gJ c e a) (hx : bF x = true) (hy : bF y = true) (ho : o.op = .makeSlice t x y)
  (h : bV e x fun A=>bV e y fun B=>L.bM t fun i=>(match i.desc,A,B with
  | .slice el,.int _ n,.int _ m=>L.bM el fun ei=>(0 <= n /\ n <= m /\ m * (ei.bytes : Int) <= 281474976710656 /\ m <= 9223372036854775807) /\
    bU m.toNat n.toNat (flat ei.zero) ei.zero H k
  | _,_,_=>False)) : dD P o a.eval c H k ks:=by
 obtain ⟨A,hA,h⟩:=aW he hx h
 obtain ⟨B,hB,h⟩:=aW he hy h
 obtain ⟨i,hT,h⟩:=Lay.bn hL h
 obtain ⟨d,hd,hdd⟩:=hT.under
 split at h
 ·rename_i el ka n kb m hi _ _
  obtain rfl:=dS (hdd.trans hi)
  obtain ⟨ei,hE,⟨h0,h1,h2,h3⟩,h⟩:=Lay.bn hL h
  obtain ⟨e1,_⟩:=kE hA
  obtain ⟨e2,_⟩:=kE hB
  obtain ⟨info,z,g1,g2,g3,g4,g5,g6⟩:=hE.info
  have hrun:=run_make (P:=P) c.w t el info z hd g1 g4 ka kb n m h0 h1 (by rw [g3,Int.mul_comm]; exact h2) h3
  rw [g2] at hrun
  have hex : (execOp a.eval o).run P c.w = .ok (.value (.slice (some ⟨c.w.heap.size,0,none⟩) n.toNat m.toNat)) (c.w.alloc (.cells (madeCells z.cells (m.toNat * flat ei.zero)) el)):=by
   unfold execOp; rw [ho]
   simp only [e1,e2,Sem.run_bind,hrun,Result.andThen_ok,Sem.run_pure]
  have hcs : ∀ w Im,uI w Im (flat ei.zero) (List.replicate m.toNat ei.zero) (madeCells z.cells (m.toNat * flat ei.zero)).toList:=fun w Im=>OB (g6 w Im) _
  cases h with
  | pure h =>
    refine .inl ⟨_,c.alloc _,_,H,hex,Tr.alloc hr _,bg (dY rfl rfl ?_),h.2⟩
    simp only [VR,Rd]
    have hnm : n.toNat = m.toNat:=h.1
    refine ⟨⟨by simp [maxL]; omega,.inr ⟨⟨c.w.heap.size,0,none⟩,m.toNat,by simp,by simp; omega,by simp [maxL]; omega,fun _=>rfl,?_⟩⟩,⟨some ⟨c.w.heap.size,0,none⟩,by simp [hnm]⟩⟩
    rw [hnm]
    refine jS (hcs _ _) fun j v hj=>⟨?_,.inr rfl⟩
    rw [Nat.zero_add]
    show (c.w.alloc _).cell? ⟨c.w.heap.size,j,none⟩ = _
    rw [cell_of_heap (alloc_heap_new c.w _),<- Array.getElem?_toList]; exact hj
  | wr h =>
    have htr : Tr c H (c.push (.cells (madeCells z.cells (m.toNat * flat ei.zero)) el) ((nextId H,.arr (flat ei.zero) m.toNat (List.replicate n.toNat ei.zero)) :: H)) ((nextId H,.arr (flat ei.zero) m.toNat (List.replicate n.toNat ei.zero)) :: H):=by
     refine Tr.push hr _ _ (fun _=>rfl) ?_
     refine ⟨(madeCells z.cells (m.toNat * flat ei.zero)).toList,el,?_,?_,by simp; omega,by simp [maxL]; omega,?_,?_⟩
     ·rw [uSρ hr]; simp only [Cx.push,Array.toArray_toList]; exact alloc_heap_new _ _
     ·rw [Array.length_toList,size_madeCells]
     ·have h5:=Va (n:=n.toNat) (hcs (c.push (.cells (madeCells z.cells (m.toNat * flat ei.zero)) el) ((nextId H,.arr (flat ei.zero) m.toNat (List.replicate n.toNat ei.zero)) :: H)).w (c.push (.cells (madeCells z.cells (m.toNat * flat ei.zero)) el) ((nextId H,.arr (flat ei.zero) m.toNat (List.replicate n.toNat ei.zero)) :: H)).Im) (by omega)
      have h6:=pR (c:=c.push (.cells (madeCells z.cells (m.toNat * flat ei.zero)) el) ((nextId H,.arr (flat ei.zero) m.toNat (List.replicate n.toNat ei.zero)) :: H)) (rest:=(madeCells z.cells (m.toNat * flat ei.zero)).toList.drop (n.toNat * flat ei.zero)) h5
      rwa [List.take_append_drop] at h6
     ·intro y hy
      rw [uSρ hr] at hy
      have:=hr.im _ _ hy
      omega
    refine .inl ⟨_,_,_,_,hex,htr,bg (dY rfl rfl ?_),h⟩
    simp only [VR]
    rw [uSρ hr]
    refine ⟨by simp only [Cx.push,hr.nx]; omega,by simp,by omega,by simp [maxL]; omega⟩
 ·exact h.elim

end
end Go.AL

namespace Go.AL

structure Src (P : Program) (sz : Nat) (w : World) (x : Value) (m : Nat) (news : List Value) : Prop where
 len : ∀ w',(Builtin.lenOf x).run P w' = .ok m w'
 cells : ∀ n',(Builtin.firstCells sz m x).run P { w with drawn:=n' } = .ok news.toArray { w with drawn:=n' }

section
variable {P : Program} {w : World} {t u ty el sz : Nat} {info : TypeInfo} {z : Value} {base : Option Addr} {n cap m : Nat} {x : Value} {news : List Value}

theorem sQ {d : TypeDesc} (ht : P.underlying t = some (.slice el)) (hu : P.underlying u = some d) (hd : (∃ e,d = .slice e) \/ d = .string) (hi : P.info? el = some info) (hs : info.size = sz)
  (hx : Src P sz w x m news) (hc : n + m <= cap) {w' : World}
  (hst : ∀ ad,base = some ad -> (storeCells (ad.add (n * sz)) news).run P w = .ok () w') (hno : base = none -> w' = w) :
  (Builtin.append_ #[t,u] ty #[.slice base n cap,x]).run P w = .ok (.slice base (n + m) cap) w':=by
 have h1:=hx.len w
 have h2:=hx.cells w.drawn
 have hsz : (sizeOf el).run P w = .ok sz w:=by unfold sizeOf typeInfo; simp [hi,hs]
 unfold Builtin.append_
 simp only [List.getElem?_toArray,List.getElem?_cons_zero,List.getElem?_cons_succ,Sem.run_bind,run_underlying ht,run_underlying hu,Result.andThen_ok,hsz,Sem.run_pure]
 rcases hd with ⟨e',rfl⟩ | rfl
 all_goals
  simp only [Bool.false_eq_true,if_false,Bool.not_false,if_true,h1,Result.andThen_ok,hc,Sem.run_bind]
  have h2' : (Builtin.firstCells sz m x).run P w = .ok news.toArray w:=h2
  simp only [h2',Result.andThen_ok]
  cases base with
  | none=>obtain rfl:=hno rfl; rfl
  | some ad =>
    simp only [Sem.run_bind,hst ad rfl,Result.andThen_ok]
    rfl

theorem sS {d : TypeDesc} (ht : P.underlying t = some (.slice el)) (hu : P.underlying u = some d) (hd : (∃ e,d = .slice e) \/ d = .string) (hi : P.info? el = some info) (hs : info.size = sz) (hz : info.zero = some z)
  (hx : Src P sz w x m news) (hc : cap < n + m) (hm : n + m <= maxL) (hb : (n + m) * info.bytes <= 140737488355328) {olds : List Value}
  (hold : ∀ n',(Builtin.firstCells sz n (.slice base n cap)).run P { w with drawn:=n' } = .ok olds.toArray { w with drawn:=n' }) :
  (Builtin.append_ #[t,u] ty #[.slice base n cap,x]).run P w = .ok (.slice (some ⟨w.heap.size,0,none⟩) (n + m) (grownCap w (n + m) cap el))
   (w.drew.alloc (.cells (olds.toArray ++ news.toArray ++ Builtin.zeroCells z.cells (grownCap w (n + m) cap el - (n + m))) el)):=by
 have h1:=hx.len w
 have h2 : (Builtin.firstCells sz m x).run P w.drew = .ok news.toArray w.drew:=hx.cells (w.drawn + 1)
 have h3 : (Builtin.firstCells sz n (.slice base n cap)).run P w.drew = .ok olds.toArray w.drew:=hold (w.drawn + 1)
 have hsz : (sizeOf el).run P w = .ok sz w:=by unfold sizeOf typeInfo; simp [hi,hs]
 have hti : ∀ w,(typeInfo el).run P w = .ok info w:=by intro w; unfold typeInfo; simp [hi]
 have hzv : ∀ w,(zeroValue el).run P w = .ok z w:=by intro w; unfold zeroValue; simp [hti,hz]
 have hfit:=growslice_fits hc hb
 have e1 : ¬ (n + m <= cap):=by omega
 have e2 : ¬ (((n + m : Nat) : Int) > IntKind.i64.max /\ (False \/ info.bytes = 0)):=by
  rintro ⟨h,_⟩
  simp [IntKind.max,IntKind.signed,IntKind.bits] at h
  unfold maxL at hm; omega
 have e3 : ¬ (Builtin.nextslicecap (n + m) cap * info.bytes > 2 ^ 48):=by
  have : (2 : Nat) ^ 48 = 281474976710656:=by decide
  omega
 unfold Builtin.append_
 simp only [List.getElem?_toArray,List.getElem?_cons_zero,List.getElem?_cons_succ,Sem.run_bind,run_underlying ht,run_underlying hu,Result.andThen_ok,hsz,Sem.run_pure]
 rcases hd with ⟨e',rfl⟩ | rfl
 all_goals
  simp only [Bool.false_eq_true,if_false,Bool.not_false,if_true,h1,Result.andThen_ok,e1,Sem.run_bind,hti]
  simp only [e2,if_false,e3,Result.andThen_ok,run_choose,Question.forced,Bool.false_eq_true,Sem.run_bind,hti,run_askRoom,World.drew_eq,h3,h2,hzv,newRow,run_newObj,Sem.run_pure,World.alloc_eq]
  rfl
end

theorem Src.slice {P : Program} {c : Cx} {sz : Nat} {ad : Addr} {m cp : Nat} {news : List Value} (hl : news.length = m * sz) (h : ∀ j v,news[j]? = some v -> c.w.cell? (ad.add j) = some v) :
  Src P sz c.w (.slice (some ad) m cp) m news :=
 ⟨fun _=>rfl,fun n'=>run_firstCells_some (P:=P) { c.w with drawn:=n' } sz m ad m cp news hl h⟩

theorem Src.nil {P : Program} {w : World} {sz cp : Nat} : Src P sz w (.slice none 0 cp) 0 []:=⟨fun _=>rfl,fun _=>rfl⟩

theorem Src.str {P : Program} {w : World} (s : List UInt8) : Src P 1 w (.string ⟨s.toArray⟩) s.length (s.map fun b=>Value.int .u8 b.toNat):=by
 refine ⟨fun _=>by simp [Builtin.lenOf,ByteArray.size],fun n'=>?_⟩
 simp only [Builtin.firstCells,Sem.run_pure]
 congr 1
 have : (ByteArray.extract ⟨s.toArray⟩ 0 s.length).data = s.toArray:=by
  simp [ByteArray.data_extract]
 rw [this]
 simp

section
variable {P : Program} {L : Lay} {c : Cx} {H : Heap} {e : Env} {a : Act} {k : AV -> Heap -> Prop} {ks : Heap -> Prop} {o : Oper}

theorem yO {w : World} {b off : Nat} {ad : Addr} {cs : List Value} (h1 : ad.block = b) (h2 : ad.off = off) (h3 : cs ≠ [] -> ad.spot = none)
  (h : ∀ j v,cs[j]? = some v -> w.cell? ⟨b,off + j,none⟩ = some v) : ∀ j v,cs[j]? = some v -> w.cell? (ad.add j) = some v:=by
 intro j v hj
 have hne : cs ≠ []:=by intro e; subst e; simp at hj
 have : ad = ⟨b,off,none⟩:=by cases ad; simp_all
 rw [this,addr_add]; exact h j v hj

theorem kP (hr : HR c H) {sz : Nat} {B : AV} {x : Value} {k : List AV -> Prop} (hB : EV c B x) (h : yX H sz B k) :
  ∃ l news,Src P sz c.w x l.length news /\ uI c.w c.Im sz l news /\ k l:=by
 unfold yX at h
 split at h
 ·obtain rfl:=xB hB
  exact ⟨[],[],Src.nil,rfl,h⟩
 ·rename_i sz' l tok
  obtain ⟨hs,hk⟩:=bI.1 h
  subst hs
  obtain ⟨h1,h2⟩:=GL hB
  rcases h2 with ⟨rfl,rfl⟩ | ⟨ad,cap,rfl,_,_,hsp,hre⟩
  ·exact ⟨[],[],Src.nil,rfl,hk⟩
  ·obtain ⟨news,g1,g2⟩:=uf hre
   refine ⟨l,news,Src.slice (dV g1) (yO rfl rfl (fun hne=>hsp (fun e=>?_)) g2),g1,hk⟩
   subst e; exact hne g1
 ·rename_i j off len cap sz'
  obtain ⟨ob,hob,h⟩:=dB.1 h
  have hok:=hr.sV hob
  split at h
  ·rename_i VB cp l
   obtain ⟨hs,h⟩:=bI.1 h
   subst hs
   obtain ⟨hs,hin,hk⟩:=bI.1 h
   subst hs
   obtain ⟨_,e,hlc,hcm⟩:=CZ hB
   subst e
   obtain ⟨cs,ty,g1,g2,g3,g4,g5,g6⟩:=hok
   obtain ⟨a',d',rfl,g7⟩:=kW g5
   have hl : ((l.drop off).take len).length = len:=by simp; omega
   have hf:=wo len (G9 off g7 (by omega))
   have hal:=dV g7
   refine ⟨(l.drop off).take len,(a'.drop (off * VB)).take (len * VB),?_,hf,hk⟩
   rw [hl]
   refine Src.slice (by rw [dV hf,hl]) fun x v hx=>?_
   rw [List.getElem?_take] at hx
   split at hx
   ·rw [List.getElem?_drop] at hx
    rw [addr_add]
    simp only [World.cell?,g1]
    have : off * VB + x < a'.length:=(List.getElem?_eq_some_iff.1 hx).1
    simp [List.getElem?_append_left this,hx]
   ·simp at hx
  ·exact h.elim
 ·rename_i s
  obtain ⟨hs,hk⟩:=bI.1 h
  subst hs
  obtain ⟨rfl,h1⟩:=Qw hB
  refine ⟨s.map fun b=>.int .u8 b.toNat,s.map fun b=>Value.int .u8 b.toNat,by simpa using Src.str (P:=P) s,?_,hk⟩
  clear h h1 hB hk
  induction s with
  | nil=>rfl
  | cons b s ih =>
    refine ⟨[.int .u8 b.toNat],s.map fun b=>Value.int .u8 b.toNat,rfl,rfl,?_,ih⟩
    simp only [Rd]
    have:=b.toNat_lt
    refine ⟨trivial,?_⟩
    simp [uN,IntKind.min,IntKind.max,IntKind.signed,IntKind.bits]; omega
 ·exact h.elim
end
end Go.AL

namespace Go.AL

theorem I7 : ∀ {H : Heap} {k : Nat} {o : HO},hget H k = some o -> hset H k o = H
 | [],_,_,h=>by simp [hget] at h
 | (i,x) :: H,k,o,h=>by
   simp only [hget] at h
   simp only [hset]
   cases hb : Nat.beq i k with
   | true=>rw [hb] at h; simp at h; subst h; rfl
   | false=>rw [hb] at h; simp only [I7 h]

theorem AO {H : Heap} {k sz n : Nat} {o : HO} (hk : hget H k = some o) : dA (hset H k (.tok sz n)) k = some n:=by
 unfold dA; rw [jZ hk]

theorem nU {H : Heap} {k j : Nat} {o : HO} (h : j ≠ k) : dA (hset H k o) j = dA H j:=by
 unfold dA; rw [sZ h]

theorem TB {c : Cx} {H : Heap} {j sz : Nat} {l : List AV} {v : Value} (hr : HR c H) (hk : hget H j = some (.tok sz l.length)) (hV : VV c (.sl sz l (.own j)) v) :
  v = .slice (c.tk j).1 l.length (c.tk j).2 /\ l.length <= (c.tk j).2 /\ (c.tk j).2 <= maxL /\ j < c.nx /\ Rd c.w c.Im (.sl sz l .no) v.cells.toList /\
  (((c.tk j).1 = none /\ l = [] /\ (c.tk j).2 = 0) \/ ∃ ad,(c.tk j).1 = some ad /\ (l ≠ [] -> ad.spot = none) /\ su c.w c.Im sz ad.block l ad.off):=by
 have hv:=hV.1.2 rfl
 have h2:=hV.2
 simp only [VR] at h2
 obtain ⟨h3,h4,h5⟩:=h2
 have htp : c.tp j = some l.length:=by rw [hr.tp]; unfold dA; rw [hk]
 have h6:=(h5 _ htp).2 rfl
 have e : v = .slice (c.tk j).1 l.length (c.tk j).2:=cells_one hv h6
 obtain ⟨h7,h8⟩:=GL hV
 refine ⟨e,?_,?_,h3,h4,?_⟩
 ·rcases h8 with ⟨rfl,h8⟩ | ⟨ad,cap,h8,h9,_⟩
  ·simp
  ·rw [e] at h8; injection h8 with _ _ h8; omega
 ·rcases h8 with ⟨rfl,h8⟩ | ⟨ad,cap,h8,h9,h10,_⟩
  ·rw [e] at h8; injection h8 with _ _ h8; rw [h8]; simp [maxL]
  ·rw [e] at h8; injection h8 with _ _ h8; omega
 ·rcases h8 with ⟨rfl,h8⟩ | ⟨ad,cap,h8,h9,h10,h11,h12⟩
  ·rw [e] at h8; injection h8 with g1 _ g2; exact .inl ⟨g1,rfl,g2⟩
  ·rw [e] at h8; injection h8 with g1 _ g2; exact .inr ⟨ad,g1,h11,h12⟩

theorem O8 {c : Cx} {j sz : Nat} {l : List AV} {b : Option Addr} {cap : Nat} (hj : j < c.nx) (hr : Rd c.w c.Im (.sl sz l .no) [.slice b l.length cap]) (htp : c.tp j = some l.length) (htk : c.tk j = (b,cap)) :
  VV c (.sl sz l (.own j)) (.slice b l.length cap):=by
 refine dY rfl rfl ?_
 simp only [VR]
 refine ⟨hj,hr,fun n hn=>?_⟩
 rw [htp] at hn
 obtain rfl:=Option.some.inj hn
 exact ⟨Nat.le_refl _,fun _=>by rw [htk]⟩

section
variable {P : Program} {c : Cx} {H : Heap} {t u ty el sz j : Nat} {info : TypeInfo} {z : Value} {l m : List AV} {v x : Value} {news : List Value}

theorem DL {d : TypeDesc} (hr : HR c H) (hk : hget H j = some (.tok sz l.length)) (hV : VV c (.sl sz l (.own j)) v)
  (ht : P.underlying t = some (.slice el)) (hu : P.underlying u = some d) (hd : (∃ e,d = .slice e) \/ d = .string) (hi : P.info? el = some info) (hs : info.size = sz) (hz : info.zero = some z) (hzs : z.cells.size = sz)
  (hx : Src P sz c.w x m.length news) (hm : uI c.w c.Im sz m news) (hlen : l.length + m.length <= maxL) (hroom : (l.length + m.length) * info.bytes <= 140737488355328) :
  ∃ c' v',(Builtin.append_ #[t,u] ty #[v,x]).run P c.w = .ok v' c'.w /\ Tr c H c' (hset H j (.tok sz (l.length + m.length))) /\ VV c' (.sl sz (l ++ m) (.own j)) v':=by
 obtain ⟨e,hc1,hc2,hj,Nj,hb⟩:=TB hr hk hV
 have hml:=dV hm
 have htpj : c.tp j = some l.length:=by rw [hr.tp]; unfold dA; rw [hk]
 have WX : ∀ i,i ≠ j -> ∀ n,dA (hset H j (.tok sz (l.length + m.length))) i = some n -> c.tp i = some n:=fun i hi n h=>by rw [nU hi] at h; rw [hr.tp]; exact h
 by_cases hm0 : m = []
 ·subst hm0
  obtain rfl : news = []:=hm
  refine ⟨c,v,?_,?_,by simpa using hV⟩
  ·rw [e]
   have:=sQ (P:=P) (ty:=ty) (base:=(c.tk j).1) (n:=l.length) (cap:=(c.tk j).2) (w':=c.w) ht hu hd hi hs hx (by simpa using hc1) (fun _ _=>rfl) (fun _=>rfl)
   simpa using this
  ·simp only [List.length_nil,Nat.add_zero]
   rw [I7 hk]; exact .refl hr
 have hmpos : 0 < m.length:=List.length_pos_iff.2 hm0
 have WE : ∀ (d : Cx),d.tp = dA (hset H j (.tok sz (l.length + m.length))) -> (∀ i,i ≠ j -> d.tk i = c.tk i) ->
   ∀ k n,k < c.nx -> d.tp k = some n -> (c.tp k = some n /\ d.tk k = c.tk k) \/ ∃ m,c.tp k = some m /\ m < n:=by
  intro d hd1 hd2 k n hkn hn
  rw [hd1] at hn
  by_cases hkj : k = j
  ·subst hkj
   rw [AO hk] at hn
   obtain rfl:=Option.some.inj hn
   exact .inr ⟨_,htpj,by omega⟩
  ·exact .inl ⟨WX k hkj n hn,hd2 k hkj⟩
 by_cases hcap : l.length + m.length <= (c.tk j).2
 ·-- within the capacity
  have hne : (c.tk j).2 ≠ l.length:=by omega
  have hok:=hr.sV hk
  rcases hok with hok | ⟨b,cs,bty,g1,g2,g3,g4,g5,g6⟩
  ·exact absurd hok hne
  have hread : su c.w c.Im sz b l 0:=by
   rcases hb with ⟨h1,_⟩ | ⟨ad,h1,_,h3⟩
   ·rw [h1] at g1; cases g1
   ·rw [h1] at g1; cases g1; exact h3
  have hfit : l.length * sz + news.length <= cs.size:=by
   rw [g3,hml,<- Nat.add_mul]; exact Nat.mul_le_mul_right _ hcap
  let cs':=(cs.toList.take (l.length * sz) ++ news ++ cs.toList.drop (l.length * sz + news.length)).toArray
  let d : Cx:={ c with w:=c.w.setRow b cs',Im:=fun b' o=>c.Im b' o \/ (b' = b /\ l.length * sz <= o /\ o < l.length * sz + news.length),tp:=dA (hset H j (.tok sz (l.length + m.length))) }
  have hblk : aO c (j,.tok sz l.length) = some b:=by simp [aO,hne,g1]
  have hheap : d.w.heap[b]? = some (.cells cs' bty):=setRow_heap c.w _ _ _ _ _ g2
  have hoth : ∀ b',b' ≠ b -> d.w.heap[b']? = c.w.heap[b']?:=fun b' hb'=>setRow_other c.w _ b' _ hb'
  have hsz' : cs'.size = cs.size:=by simp [cs']; omega
  have hcell : ∀ o,o < l.length * sz -> cs'[o]? = cs[o]?:=by
   intro o ho
   simp only [cs',List.getElem?_toArray]
   rw [List.append_assoc,List.getElem?_append_left (by simp; omega),List.getElem?_take,if_pos ho,Array.getElem?_toList]
  have hnews : ∀ i v,news[i]? = some v -> cs'[l.length * sz + i]? = some v:=by
   intro i v hv
   have hi:=(List.getElem?_eq_some_iff.1 hv).1
   have hlt : (cs.toList.take (l.length * sz)).length = l.length * sz:=by simp; omega
   simp only [cs',List.getElem?_toArray]
   have:=zK (cs.toList.take (l.length * sz)) news (cs.toList.drop (l.length * sz + news.length)) hv
   rwa [hlt] at this
  have le : c.Le d:=by
   refine ⟨fun b' o h=>⟨.inl h,?_⟩,Nat.le_refl _,fun _ _=>rfl,WE d rfl fun _ _=>rfl⟩
   by_cases hbb : b' = b
   ·subst hbb
    have : o < l.length * sz:=Nat.lt_of_not_le fun hle=>g6 o hle h
    rw [cell_of_heap hheap,cell_of_heap g2,hcell o this]
   ·exact jd (hoth b' hbb)
  have hst : (storeCells ((⟨b,0,none⟩ : Addr).add (l.length * sz)) news).run P c.w = .ok () d.w:=by
   have:=run_storeCells_at P b (l.length * sz) bty news 0 cs c.w g2 (by simpa using hfit) (wu hm)
   simp only [Nat.add_zero] at this
   rw [addr_add,Nat.zero_add]
   exact this
  refine ⟨d,.slice (c.tk j).1 (l.length + m.length) (c.tk j).2,?_,?_,?_⟩
  ·rw [e]
   exact sQ (P:=P) (ty:=ty) ht hu hd hi hs hx hcap (fun ad had=>by rw [g1] at had; cases had; exact hst) (fun h=>by rw [g1] at h; cases h)
  ·refine Tr.set hr hk le rfl rfl (fun _ _=>rfl) rfl rfl rfl (by simp [d]) (fun b' _ hn=>hoth b' (fun e=>hn (by rw [hblk,e]))) ?_ ?_ ?_
   ·rintro b' o (h | ⟨rfl,_⟩)
    ·exact .inl h
    ·exact .inr (.inr hblk)
   ·intro b' h
    refine .inr ?_
    simp only [aO,d] at h
    split at h
    ·cases h
    ·rw [hblk]; rw [g1] at h; exact h
   ·by_cases htop : (c.tk j).2 = l.length + m.length
    ·exact .inl htop
    ·refine .inr ⟨b,cs',bty,g1,hheap,by rw [hsz',g3],hcap,g5,?_⟩
     rintro o ho (h | ⟨_,_,h⟩)
     ·exact g6 o (Nat.le_trans (Nat.mul_le_mul_right _ (Nat.le_add_right _ _)) ho) h
     ·rw [hml,<- Nat.add_mul] at h; omega
  ·have hR : Rd d.w d.Im (.sl sz (l ++ m) .no) [.slice (some ⟨b,0,none⟩) (l ++ m).length (c.tk j).2]:=by
    simp only [Rd]
    refine ⟨by simpa using hlen,.inr ⟨⟨b,0,none⟩,_,rfl,by simpa using hcap,g5,fun _=>rfl,Hg (He le.im _ _ _ _ hread) ?_⟩⟩
    refine jS (gy le.im hm) fun i v hv=>⟨?_,.inr ⟨rfl,by show _ <= 0 + l.length * sz + i; omega,by have:=(List.getElem?_eq_some_iff.1 hv).1; show 0 + l.length * sz + i < _; omega⟩⟩
    rw [cell_of_heap hheap,Nat.zero_add]
    exact hnews i v hv
   have:=O8 (c:=d) (j:=j) hj hR (by show dA _ j = _; rw [AO hk]; simp) (by show c.tk j = _; rw [<- g1])
   rw [List.length_append] at this
   rw [g1]; exact this
 ·-- a new block
  obtain ⟨olds,ho1,ho2⟩ : ∃ olds,uI c.w c.Im sz l olds /\ Src P sz c.w (.slice (c.tk j).1 l.length (c.tk j).2) l.length olds:=by
   rcases hb with ⟨h1,rfl,h3⟩ | ⟨ad,h1,h2,h3⟩
   ·exact ⟨[],rfl,by rw [h1]; exact ⟨fun _=>rfl,fun _=>rfl⟩⟩
   ·obtain ⟨olds,g1,g2⟩:=uf h3
    refine ⟨olds,g1,?_⟩
    rw [h1]
    exact Src.slice (dV g1) (yO rfl rfl (fun hne=>h2 (fun e=>by subst e; exact hne g1)) g2)
  have hol:=dV ho1
  have hge:=grownCap_ge c.w (l.length + m.length) (c.tk j).2 el
  have hle:=grownCap_le_maxLen c.w (l.length + m.length) (c.tk j).2 el (by simpa [maxL,maxLen] using hlen)
  have hle' : grownCap c.w (l.length + m.length) (c.tk j).2 el <= maxL:=by simpa [maxL,maxLen] using hle
  have hrun:=sS (P:=P) (ty:=ty) ht hu hd hi hs hz hx (by omega : (c.tk j).2 < l.length + m.length) hlen hroom ho2.cells
  generalize hcp : grownCap c.w (l.length + m.length) (c.tk j).2 el = cap' at hge hle' hrun
  let cs:=olds.toArray ++ news.toArray ++ Builtin.zeroCells z.cells (cap' - (l.length + m.length))
  let d : Cx:={ c with w:=c.w.drew.alloc (.cells cs el),Im:=fun b o=>c.Im b o \/ (b = c.w.heap.size /\ o < (l.length + m.length) * sz),
                       tk:=fun k=>if k = j then (some ⟨c.w.heap.size,0,none⟩,cap') else c.tk k,tp:=dA (hset H j (.tok sz (l.length + m.length))) }
  have hnew : d.w.heap[c.w.heap.size]? = some (.cells cs el):=alloc_heap_new c.w.drew _
  have hold : ∀ b,b < c.w.heap.size -> d.w.heap[b]? = c.w.heap[b]?:=fun b hb=>fH c.w.drew _ hb
  have zG : d.tk j = (some ⟨c.w.heap.size,0,none⟩,cap'):=by simp [d]
  have hcs : cs.size = cap' * sz:=by
   simp only [cs,Array.size_append,List.size_toArray,hol,hml,size_zeroCells,hzs]
   rw [<- Nat.add_mul,<- Nat.add_mul]; congr 1; omega
  have le : c.Le d:=by
   refine ⟨fun b o h=>⟨.inl h,jd (hold b (hr.im b o h))⟩,Nat.le_refl _,fun _ _=>rfl,WE d rfl fun i hi=>by simp [d,hi]⟩
  refine ⟨d,_,by rw [e]; exact hrun,?_,?_⟩
  ·refine Tr.set hr hk le rfl rfl (fun i hi=>by simp [d,hi]) rfl rfl rfl (by simp [d]) (fun b hb _=>hold b hb) ?_ ?_ ?_
   ·rintro b o (h | ⟨rfl,_⟩)
    ·exact .inl h
    ·exact .inr (.inl ⟨Nat.le_refl _,by simp [d]⟩)
   ·intro b h
    refine .inl ?_
    simp only [aO,zG] at h
    split at h
    ·cases h
    ·simp at h; omega
   ·by_cases htop : cap' = l.length + m.length
    ·exact .inl (by rw [zG]; exact htop)
    ·refine .inr ⟨c.w.heap.size,cs,el,by rw [zG],hnew,by rw [zG]; exact hcs,by rw [zG]; exact hge,by rw [zG]; exact hle',?_⟩
     rintro o ho (h | ⟨_,h⟩)
     ·exact absurd (hr.im _ _ h) (by omega)
     ·omega
  ·have hR : Rd d.w d.Im (.sl sz (l ++ m) .no) [.slice (some ⟨c.w.heap.size,0,none⟩) (l ++ m).length cap']:=by
    simp only [Rd]
    refine ⟨by simpa using hlen,.inr ⟨⟨c.w.heap.size,0,none⟩,_,rfl,by simpa using hge,hle',fun _=>rfl,?_⟩⟩
    refine jS (pW (gy le.im ho1) (gy le.im hm)) fun i v hv=>?_
    have hi:=(List.getElem?_eq_some_iff.1 hv).1
    refine ⟨?_,.inr ⟨rfl,by rw [List.length_append,hol,hml,<- Nat.add_mul] at hi; show 0 + i < _; omega⟩⟩
    rw [cell_of_heap hnew,Nat.zero_add]
    have : cs[i]? = (olds ++ news)[i]?:=by
     rw [<- Array.getElem?_toList]
     simp only [cs,Array.toList_append]
     rw [List.getElem?_append_left hi]
    rw [this]; exact hv
   have:=O8 (c:=d) (j:=j) hj hR (by show dA _ j = _; rw [AO hk]; simp) zG
   rw [List.length_append] at this
   exact this
end

theorem Tr.AP {c : Cx} {H : Heap} {sz : Nat} {l : List AV} {base : Option Addr} (hr : HR c H) (Nj : Rd c.w c.Im (.sl sz l .no) [.slice base l.length l.length]) :
  ∃ d,d.w = c.w /\ Tr c H d ((nextId H,.tok sz l.length) :: H) /\ VV d (.sl sz l (.own (nextId H))) (.slice base l.length l.length):=by
 let d : Cx:={ c with nx:=c.nx + 1,tk:=fun k=>if k = c.nx then (base,l.length) else c.tk k,tp:=dA ((nextId H,.tok sz l.length) :: H) }
 have hlt : ∀ x ∈ H,x.1 < c.nx:=fun x hx=>by rw [hr.nx]; exact bH hr.ids x hx
 have htk : d.tk (nextId H) = (base,l.length):=by simp [d,hr.nx]
 have le : c.Le d:=by
  refine ⟨fun b o h=>⟨h,rfl⟩,Nat.le_succ _,fun _ _=>rfl,fun k n hk hn=>.inl ⟨?_,?_⟩⟩
  ·have : nextId H ≠ k:=by rw [<- hr.nx]; omega
   simp only [d] at hn
   rw [jU this] at hn
   rw [hr.tp]; exact hn
  ·simp only [d]; rw [if_neg (by omega)]
 have hbk : ∀ x ∈ H,aO d x = aO c x:=fun x hx=>jR rfl (by have:=hlt x hx; simp only [d]; rw [if_neg (by omega)])
 have hbn : aO d (nextId H,.tok sz l.length) = none:=by simp [aO,htk]
 refine ⟨d,rfl,⟨⟨?_,rfl,?_,hr.im,?_,?_⟩,le,rfl,rfl,rfl,Nat.le_refl _,fun _ _ _=>rfl,?_,fun _ _ h=>.inl h⟩,?_⟩
 ·simp only [d,nextId,hr.nx]
 ·exact ⟨fun x hx=>bH hr.ids x hx,hr.ids⟩
 ·intro x hx
  rcases List.mem_cons.1 hx with rfl | hx
  ·exact .inl (by rw [htk])
  ·refine nG le (hlt x hx) ?_ (fun b hb=>⟨rfl,fun y hy=>hy⟩) (hr.ok x hx)
   have:=hlt x hx; simp only [d]; rw [if_neg (by omega)]
 ·rw [List.pairwise_cons]
  constructor
  ·intro y hy b hb; rw [hbn] at hb; cases hb
  ·exact jW hr.apart fun x hx y hy h b hb=>by rw [hbk y hy]; rw [hbk x hx] at hb; exact h b hb
 ·intro y hy b hb
  rcases List.mem_cons.1 hy with rfl | hy
  ·rw [hbn] at hb; cases hb
  ·rw [hbk y hy] at hb; exact .inr ⟨y,hy,hb⟩
 ·exact O8 (by simp only [d]; rw [hr.nx]; omega) Nj (by show dA _ _ = _; rw [sG]) htk

theorem OZ {H : Heap} {k sz : Nat} {l : List AV} {o : HO} (hk : hget H k = some o) : dA (hset H k (.iU sz l)) k = some l.length:=by
 unfold dA; rw [jZ hk]

theorem Fv {c : Cx} {H : Heap} {j sz : Nat} {l : List AV} {v : Value} (hr : HR c H) (hk : hget H j = some (.iU sz l)) (hV : VV c (.gs j l.length) v) :
  v = .slice (c.tk j).1 l.length (c.tk j).2 /\ j < c.nx /\ l.length <= (c.tk j).2 /\ (c.tk j).2 <= maxL:=by
 obtain ⟨h1,_,h3⟩:=VV_gs hV
 have htp : c.tp j = some l.length:=by rw [hr.tp]; unfold dA; rw [hk]
 refine ⟨(h3 _ htp).2 rfl,h1,?_⟩
 rcases hr.sV hk with ⟨g1,g2,rfl⟩ | ⟨b,cs,ty,g1,g2,g3,g4,g5,_⟩
 ·rw [g2]; simp [maxL]
 ·exact ⟨g4,g5⟩

theorem Xf {c : Cx} {j n : Nat} {b : Option Addr} {cap : Nat} (hj : j < c.nx) (htp : c.tp j = some n) (htk : c.tk j = (b,cap)) : VV c (.gs j n) (.slice b n cap):=by
 refine dY rfl rfl ?_
 simp only [VR]
 refine ⟨hj,⟨_,_,_,rfl⟩,fun k hk=>?_⟩
 rw [htp] at hk
 obtain rfl:=Option.some.inj hk
 exact ⟨Nat.le_refl _,fun _=>by rw [htk]⟩

section
variable {P : Program} {c : Cx} {H : Heap} {t u ty el sz j : Nat} {info : TypeInfo} {z : Value} {l m : List AV} {v x : Value} {news : List Value}

theorem app_gs {d : TypeDesc} (hr : HR c H) (hk : hget H j = some (.iU sz l)) (hV : VV c (.gs j l.length) v)
  (ht : P.underlying t = some (.slice el)) (hu : P.underlying u = some d) (hd : (∃ e,d = .slice e) \/ d = .string) (hi : P.info? el = some info) (hs : info.size = sz) (hz : info.zero = some z) (hzs : z.cells.size = sz)
  (hx : Src P sz c.w x m.length news) (hm : uI c.w c.Im sz m news) (hm0 : m ≠ []) (hlen : l.length + m.length <= maxL) (hroom : (l.length + m.length) * info.bytes <= 140737488355328) :
  ∃ c' v',(Builtin.append_ #[t,u] ty #[v,x]).run P c.w = .ok v' c'.w /\ Tr c H c' (hset H j (.iU sz (l ++ m))) /\ VV c' (.gs j (l.length + m.length)) v':=by
 obtain ⟨e,hj,hc1,hc2⟩:=Fv hr hk hV
 have hml:=dV hm
 have htpj : c.tp j = some l.length:=by rw [hr.tp]; unfold dA; rw [hk]
 have WX : ∀ i,i ≠ j -> ∀ n,dA (hset H j (.iU sz (l ++ m))) i = some n -> c.tp i = some n:=fun i hi n h=>by rw [nU hi] at h; rw [hr.tp]; exact h
 have hmpos : 0 < m.length:=List.length_pos_iff.2 hm0
 have htp' : dA (hset H j (.iU sz (l ++ m))) j = some (l.length + m.length):=by rw [OZ hk]; simp
 have WE : ∀ (d : Cx),d.tp = dA (hset H j (.iU sz (l ++ m))) -> (∀ i,i ≠ j -> d.tk i = c.tk i) ->
   ∀ k n,k < c.nx -> d.tp k = some n -> (c.tp k = some n /\ d.tk k = c.tk k) \/ ∃ m,c.tp k = some m /\ m < n:=by
  intro d hd1 hd2 k n hkn hn
  rw [hd1] at hn
  by_cases hkj : k = j
  ·subst hkj
   rw [htp'] at hn
   obtain rfl:=Option.some.inj hn
   exact .inr ⟨_,htpj,by omega⟩
  ·exact .inl ⟨WX k hkj n hn,hd2 k hkj⟩
 by_cases hcap : l.length + m.length <= (c.tk j).2
 ·-- within the capacity
  rcases hr.sV hk with ⟨g1,g2,_⟩ | ⟨b,cs,bty,g1,g2,g3,g4,g5,g6,g7⟩
  ·omega
  obtain ⟨a',d',rfl,g8⟩:=kW g6
  have hal:=dV g8
  have hfit : l.length * sz + news.length <= (a' ++ d').toArray.size:=by
   rw [List.size_toArray,g3,hml,<- Nat.add_mul]; exact Nat.mul_le_mul_right _ hcap
  let cs':=((a' ++ d').toArray.toList.take (l.length * sz) ++ news ++ (a' ++ d').toArray.toList.drop (l.length * sz + news.length)).toArray
  let d : Cx:={ c with w:=c.w.setRow b cs',tp:=dA (hset H j (.iU sz (l ++ m))) }
  have hblk : aO c (j,.iU sz l) = some b:=by simp [aO,g1]
  have hheap : d.w.heap[b]? = some (.cells cs' bty):=setRow_heap c.w _ _ _ _ _ g2
  have hoth : ∀ b',b' ≠ b -> d.w.heap[b']? = c.w.heap[b']?:=fun b' hb'=>setRow_other c.w _ b' _ hb'
  have hcs' : cs'.toList = a' ++ news ++ (a' ++ d').drop (l.length * sz + news.length):=by
   simp only [cs']
   rw [<- hal,List.take_append_of_le_length (Nat.le_refl _),List.take_length]
  have hsz' : cs'.toList.length = (a' ++ d').length:=by
   rw [hcs']; simp only [List.length_append,List.length_drop,List.size_toArray] at hfit ⊢; omega
  have le : c.Le d:=by
   refine ⟨fun b' o h=>⟨h,?_⟩,Nat.le_refl _,fun _ _=>rfl,WE d rfl fun _ _=>rfl⟩
   by_cases hbb : b' = b
   ·subst hbb; exact absurd h (g7 o)
   ·exact jd (hoth b' hbb)
  have hst : (storeCells ((⟨b,0,none⟩ : Addr).add (l.length * sz)) news).run P c.w = .ok () d.w:=by
   have:=run_storeCells_at P b (l.length * sz) bty news 0 (a' ++ d').toArray c.w g2 (by simpa using hfit) (wu hm)
   simp only [Nat.add_zero] at this
   rw [addr_add,Nat.zero_add]
   exact this
  refine ⟨d,.slice (c.tk j).1 (l.length + m.length) (c.tk j).2,?_,?_,?_⟩
  ·rw [e]
   exact sQ (P:=P) (ty:=ty) ht hu hd hi hs hx hcap (fun ad had=>by rw [g1] at had; cases had; exact hst) (fun h=>by rw [g1] at h; cases h)
  ·refine Tr.set hr hk le rfl rfl (fun _ _=>rfl) rfl rfl rfl (by simp [d]) (fun b' _ hn=>hoth b' (fun e=>hn (by rw [hblk,e]))) (fun b' o h=>.inl h) ?_ ?_
   ·intro b' h
    refine .inr ?_
    rw [hblk]
    simp only [aO,d,g1] at h
    exact h
   ·refine .inr ⟨b,cs'.toList,bty,g1,by simpa using hheap,by rw [hsz']; exact g3,by simpa using hcap,g5,?_,fun o h=>g7 o h⟩
    rw [hcs']
    exact pR (c:=d) (pW (gy le.im g8) (gy le.im hm))
  ·exact Xf (c:=d) (j:=j) hj htp' rfl
 ·-- a new block
  obtain ⟨olds,ho1,ho2⟩ : ∃ olds,uI c.w c.Im sz l olds /\ Src P sz c.w (.slice (c.tk j).1 l.length (c.tk j).2) l.length olds:=by
   rcases hr.sV hk with ⟨g1,g2,rfl⟩ | ⟨b,cs,bty,g1,g2,g3,g4,g5,g6,g7⟩
   ·exact ⟨[],rfl,by rw [g1]; exact ⟨fun _=>rfl,fun _=>rfl⟩⟩
   ·obtain ⟨a',d',rfl,g8⟩:=kW g6
    refine ⟨a',g8,?_⟩
    rw [g1]
    refine Src.slice (dV g8) fun y v hy=>?_
    rw [addr_add,Nat.zero_add]
    have : y < a'.length:=(List.getElem?_eq_some_iff.1 hy).1
    simp only [World.cell?,g2]
    simp [List.getElem?_append_left this,hy]
  have hol:=dV ho1
  have hge:=grownCap_ge c.w (l.length + m.length) (c.tk j).2 el
  have hle:=grownCap_le_maxLen c.w (l.length + m.length) (c.tk j).2 el (by simpa [maxL,maxLen] using hlen)
  have hle' : grownCap c.w (l.length + m.length) (c.tk j).2 el <= maxL:=by simpa [maxL,maxLen] using hle
  have hrun:=sS (P:=P) (ty:=ty) ht hu hd hi hs hz hx (by omega : (c.tk j).2 < l.length + m.length) hlen hroom ho2.cells
  generalize hcp : grownCap c.w (l.length + m.length) (c.tk j).2 el = cap' at hge hle' hrun
  let cs:=olds.toArray ++ news.toArray ++ Builtin.zeroCells z.cells (cap' - (l.length + m.length))
  let d : Cx:={ c with w:=c.w.drew.alloc (.cells cs el),
                       tk:=fun k=>if k = j then (some ⟨c.w.heap.size,0,none⟩,cap') else c.tk k,tp:=dA (hset H j (.iU sz (l ++ m))) }
  have hnew : d.w.heap[c.w.heap.size]? = some (.cells cs el):=alloc_heap_new c.w.drew _
  have hold : ∀ b,b < c.w.heap.size -> d.w.heap[b]? = c.w.heap[b]?:=fun b hb=>fH c.w.drew _ hb
  have zG : d.tk j = (some ⟨c.w.heap.size,0,none⟩,cap'):=by simp [d]
  have hcs : cs.toList.length = cap' * sz:=by
   rw [Array.length_toList]
   simp only [cs,Array.size_append,List.size_toArray,hol,hml,size_zeroCells,hzs]
   rw [<- Nat.add_mul,<- Nat.add_mul]; congr 1; omega
  have le : c.Le d:=by
   refine ⟨fun b o h=>⟨h,jd (hold b (hr.im b o h))⟩,Nat.le_refl _,fun _ _=>rfl,WE d rfl fun i hi=>by simp [d,hi]⟩
  refine ⟨d,_,by rw [e]; exact hrun,?_,?_⟩
  ·refine Tr.set hr hk le rfl rfl (fun i hi=>by simp [d,hi]) rfl rfl rfl (by simp [d]) (fun b hb _=>hold b hb) (fun b o h=>.inl h) ?_ ?_
   ·intro b h
    refine .inl ?_
    simp only [aO,zG] at h
    simp at h; omega
   ·refine .inr ⟨c.w.heap.size,cs.toList,el,by rw [zG],by simpa using hnew,by rw [zG]; exact hcs,by rw [zG]; simpa using hge,by rw [zG]; exact hle',?_,fun o h=>?_⟩
    ·have ec : cs.toList = olds ++ news ++ (Builtin.zeroCells z.cells (cap' - (l.length + m.length))).toList:=by simp [cs]
     rw [ec]
     exact pR (c:=d) (pW (gy le.im ho1) (gy le.im hm))
    ·exact absurd (hr.im _ _ h) (by omega)
  ·exact Xf (c:=d) (j:=j) hj htp' zG
end

theorem Tr.YN {c : Cx} {H : Heap} (sz : Nat) (hr : HR c H) :
  ∃ d,d.w = c.w /\ Tr c H d ((nextId H,.iU sz []) :: H) /\ VV d (.gs (nextId H) 0) (.slice none 0 0):=by
 let d : Cx:={ c with nx:=c.nx + 1,tk:=fun k=>if k = c.nx then (none,0) else c.tk k,tp:=dA ((nextId H,.iU sz []) :: H) }
 have hlt : ∀ x ∈ H,x.1 < c.nx:=fun x hx=>by rw [hr.nx]; exact bH hr.ids x hx
 have htk : d.tk (nextId H) = (none,0):=by simp [d,hr.nx]
 have le : c.Le d:=by
  refine ⟨fun b o h=>⟨h,rfl⟩,Nat.le_succ _,fun _ _=>rfl,fun k n hk hn=>.inl ⟨?_,?_⟩⟩
  ·have : nextId H ≠ k:=by rw [<- hr.nx]; omega
   simp only [d] at hn
   rw [jU this] at hn
   rw [hr.tp]; exact hn
  ·simp only [d]; rw [if_neg (by omega)]
 have hbk : ∀ x ∈ H,aO d x = aO c x:=fun x hx=>jR rfl (by have:=hlt x hx; simp only [d]; rw [if_neg (by omega)])
 have hbn : aO d (nextId H,.iU sz []) = none:=by simp [aO,htk]
 refine ⟨d,rfl,⟨⟨?_,rfl,?_,hr.im,?_,?_⟩,le,rfl,rfl,rfl,Nat.le_refl _,fun _ _ _=>rfl,?_,fun _ _ h=>.inl h⟩,?_⟩
 ·simp only [d,nextId,hr.nx]
 ·exact ⟨fun x hx=>bH hr.ids x hx,hr.ids⟩
 ·intro x hx
  rcases List.mem_cons.1 hx with rfl | hx
  ·exact .inl ⟨by rw [htk],by rw [htk],rfl⟩
  ·refine nG le (hlt x hx) ?_ (fun b hb=>⟨rfl,fun y hy=>hy⟩) (hr.ok x hx)
   have:=hlt x hx; simp only [d]; rw [if_neg (by omega)]
 ·rw [List.pairwise_cons]
  constructor
  ·intro y hy b hb; rw [hbn] at hb; cases hb
  ·exact jW hr.apart fun x hx y hy h b hb=>by rw [hbk y hy]; rw [hbk x hx] at hb; exact h b hb
 ·intro y hy b hb
  rcases List.mem_cons.1 hy with rfl | hy
  ·rw [hbn] at hb; cases hb
  ·rw [hbk y hy] at hb; exact .inr ⟨y,hy,hb⟩
 ·exact Xf (by simp only [d]; rw [hr.nx]; omega) (by show dA _ _ = _; rw [sG]; rfl) htk

theorem Tr.thaw {c : Cx} {H : Heap} {j sz : Nat} {l : List AV} {v : Value} (hr : HR c H) (ho : hget H j = some (.iU sz l)) (ne : l ≠ []) (hV : VV c (.gs j l.length) v) :
  ∃ cp,l.length <= cp /\ cp <= maxL /\ ∃ d,d.w = c.w /\ Tr c H d ((nextId H,.arr sz cp l) :: hset H j .gone) /\ VV d (.ms (nextId H) 0 l.length cp sz) v:=by
 obtain ⟨e,hj,hc1,hc2⟩:=Fv hr ho hV
 rcases hr.sV ho with ⟨_,_,h0⟩ | ⟨b,cs,ty,g1,g2,g3,g4,g5,g6,g7⟩
 ·exact absurd h0 ne
 refine ⟨(c.tk j).2,hc1,hc2,?_⟩
 have hjm:=gZ ho
 have hbs : b < c.w.heap.size:=(Array.getElem?_eq_some_iff.1 g2).1
 let d : Cx:={ c with nx:=c.nx + 1,ρ:=fun k=>if k = c.nx then b else c.ρ k,tp:=dA ((nextId H,.arr sz (c.tk j).2 l) :: hset H j .gone) }
 have hlt : ∀ x ∈ H,x.1 < c.nx:=fun x hx=>by rw [hr.nx]; exact bH hr.ids x hx
 have hρ : d.ρ (nextId H) = b:=by simp [d,hr.nx]
 have Ia:=oZ (k:=j) (o':=.gone) hr.ids
 have le : c.Le d:=by
  refine ⟨fun b o h=>⟨h,rfl⟩,Nat.le_succ _,fun k hk=>?_,fun k n hk hn=>.inl ⟨?_,rfl⟩⟩
  ·simp only [d]; rw [if_neg (by omega)]
  ·have hne : nextId H ≠ k:=by rw [<- hr.nx]; omega
   simp only [d] at hn
   rw [jU hne] at hn
   by_cases hkj : k = j
   ·subst hkj; unfold dA at hn; rw [jZ ho] at hn; simp at hn
   ·rw [nU hkj] at hn; rw [hr.tp]; exact hn
 have hbk : ∀ x ∈ H,aO d x = aO c x:=fun x hx=>jR (by have:=hlt x hx; simp only [d]; rw [if_neg (by omega)]) rfl
 have hbn : aO d (nextId H,.arr sz (c.tk j).2 l) = some b:=by simp [aO,hρ]
 have hbj : aO c (j,.iU sz l) = some b:=by simp [aO,g1]
 have hne : ∀ x ∈ H,x.1 ≠ j -> ∀ b',aO c x = some b' -> b' ≠ b:=fun x hx hn b' hb' e=>hr.apart' hx hjm hn hb' (by rw [e]; exact hbj)
 refine ⟨d,rfl,⟨⟨?_,rfl,⟨fun x hx=>?_,Ia⟩,hr.im,?_,?_⟩,le,rfl,rfl,rfl,Nat.le_refl _,fun _ _ _=>rfl,?_,fun _ _ h=>.inl h⟩,?_⟩
 ·simp only [d,nextId,hr.nx]
 ·have:=bH Ia x hx
  rw [uZ] at this; exact this
 ·intro x hx
  rcases List.mem_cons.1 hx with rfl | hx
  ·show (HO.arr sz (c.tk j).2 l).Ok d (nextId H)
   refine ⟨cs,ty,by rw [hρ]; exact g2,g3,g4,g5,rW le g6,fun o h=>?_⟩
   rw [hρ] at h; exact g7 o h
  ·rcases iI hr.ids hx with rfl | ⟨hx,hn⟩
   ·trivial
   ·exact nG le (hlt x hx) rfl (fun b hb=>⟨rfl,fun y hy=>hy⟩) (hr.ok x hx)
 ·rw [List.pairwise_cons]
  constructor
  ·intro y hy b' hb hb'
   rw [hbn] at hb
   obtain rfl:=Option.some.inj hb
   rcases iI hr.ids hy with rfl | ⟨hy,hn⟩
   ·simp [aO] at hb'
   ·rw [hbk y hy] at hb'
    exact hne y hy hn _ hb' rfl
  ·refine fP Ia fun x hx y hy hn b hb hb'=>?_
   rcases iI hr.ids hx with rfl | ⟨hx,_⟩
   ·simp [aO] at hb
   ·rcases iI hr.ids hy with rfl | ⟨hy,_⟩
    ·simp [aO] at hb'
    ·rw [hbk x hx] at hb; rw [hbk y hy] at hb'
     exact hr.apart' hx hy hn hb hb'
 ·intro y hy b' hb
  rcases List.mem_cons.1 hy with rfl | hy
  ·rw [hbn] at hb
   obtain rfl:=Option.some.inj hb
   exact .inr ⟨_,hjm,hbj⟩
  ·rcases iI hr.ids hy with rfl | ⟨hy,_⟩
   ·simp [aO] at hb
   ·rw [hbk y hy] at hb; exact .inr ⟨y,hy,hb⟩
 ·rw [e]
  refine dY rfl rfl ?_
  simp only [VR]
  refine ⟨by simp only [d]; rw [hr.nx]; omega,?_,hc1,hc2⟩
  rw [hρ,g1,Nat.zero_mul]

theorem Tr.Kz {c : Cx} {H : Heap} {j sz : Nat} {l : List AV} {v : Value} (hr : HR c H) (ho : hget H j = some (.iU sz l)) (hl : l.length <= maxL) (hV : VV c (.gs j l.length) v) :
  ∃ d,d.w = c.w /\ Tr c H d (hset H j .gone) /\ VV d (.sl sz l .no) v:=by
 obtain ⟨e,hj,hc1,hc2⟩:=Fv hr ho hV
 have tpg : ∀ k n,dA (hset H j .gone) k = some n -> c.tp k = some n:=by
  intro k n hn
  by_cases hkj : k = j
  ·subst hkj; unfold dA at hn; rw [jZ ho] at hn; simp at hn
  ·rw [nU hkj] at hn; rw [hr.tp]; exact hn
 rcases hr.sV ho with ⟨g1,g2,rfl⟩ | ⟨b,cs,ty,g1,g2,g3,g4,g5,g6,g7⟩
 ·let d : Cx:={ c with tp:=dA (hset H j .gone) }
  have le : c.Le d:=⟨fun b o h=>⟨h,rfl⟩,Nat.le_refl _,fun _ _=>rfl,fun k n _ h=>.inl ⟨tpg k n h,rfl⟩⟩
  refine ⟨d,rfl,Tr.set hr ho le rfl rfl (fun _ _=>rfl) rfl rfl rfl (Nat.le_refl _) (fun _ _ _=>rfl) (fun _ _ h=>.inl h) (fun b h=>by simp [aO] at h) trivial,?_⟩
  rw [e,g1,g2]
  refine dY rfl rfl ?_
  simp only [VR,Rd]
  exact ⟨hl,.inl ⟨trivial,rfl⟩⟩
 ·obtain ⟨a',d',rfl,g8⟩:=kW g6
  let d : Cx:={ c with Im:=fun b' o=>c.Im b' o \/ b' = b,tp:=dA (hset H j .gone) }
  have le : c.Le d:=⟨fun b o h=>⟨.inl h,rfl⟩,Nat.le_refl _,fun _ _=>rfl,fun k n _ h=>.inl ⟨tpg k n h,rfl⟩⟩
  have hbj : aO c (j,.iU sz l) = some b:=by simp [aO,g1]
  refine ⟨d,rfl,Tr.set hr ho le rfl rfl (fun _ _=>rfl) rfl rfl rfl (Nat.le_refl _) (fun _ _ _=>rfl) ?_ (fun b h=>by simp [aO] at h) trivial,?_⟩
  ·rintro b' x (h | rfl)
   ·exact .inl h
   ·exact .inr (.inr hbj)
  ·rw [e,g1]
   refine dY rfl rfl ?_
   simp only [VR,Rd]
   refine ⟨hl,.inr ⟨⟨b,0,none⟩,_,rfl,hc1,hc2,fun _=>rfl,jS (gy le.im g8) fun x v hx=>⟨?_,.inr rfl⟩⟩⟩
   have : x < a'.length:=(List.getElem?_eq_some_iff.1 hx).1
   show c.w.cell? _ = _
   rw [cell_of_heap g2]
   simp [List.getElem?_append_left this,hx]

theorem wJ {c : Cx} {sz : Nat} {v : Value} (h : VV c .aG v) : ∃ base,v = .slice base ([] : List AV).length ([] : List AV).length /\ Rd c.w c.Im (.sl sz [] .no) [.slice base ([] : List AV).length ([] : List AV).length]:=by
 obtain rfl:=xB h
 refine ⟨none,rfl,?_⟩
 simp only [Rd]; exact ⟨by simp [maxL],.inl ⟨trivial,rfl⟩⟩

theorem wU {c : Cx} {sz : Nat} {l : List AV} {v : Value} (h : VV c (.sl sz l .full) v) : ∃ base,v = .slice base l.length l.length /\ Rd c.w c.Im (.sl sz l .no) [.slice base l.length l.length]:=by
 have hv:=h.1.2 rfl
 have h2:=h.2
 simp only [VR] at h2
 obtain ⟨h3,b,h4⟩:=h2
 have e:=cells_one hv h4
 refine ⟨b,e,?_⟩
 rw [<- h4]; exact h3

end Go.AL

namespace Go.AL

section
variable {P : Program} {L : Lay} {c : Cx} {H : Heap} {e : Env} {a : Act} {k : AV -> Heap -> Prop} {ks : Heap -> Prop} {o : Oper}

theorem Eo {u : Nat} {X : Prop} (hat : L.bM u fun i=>(match i.desc with | .slice _=>X | .str=>X | _=>False)) (hL : dR P L) : (∃ d,P.underlying u = some d /\ ((∃ e,d = .slice e) \/ d = .string)) /\ X:=by
 obtain ⟨i,hT,h⟩:=Lay.bn hL hat
 obtain ⟨d,hd,hdd⟩:=hT.under
 cases hi : i.desc <;> simp only [hi] at h <;> first | exact h.elim | skip
 ·exact ⟨⟨d,hd,.inr (o7 (hdd.trans hi))⟩,h⟩
 ·exact ⟨⟨d,hd,.inl ⟨_,dS (hdd.trans hi)⟩⟩,h⟩

theorem TL (hL : dR P L) {cl : Call} {t u : Nat} {r : List Nat} {A B : AV} (hr : HR c H) (ho : o.op = .call cl) (hc : cl.callee = .builtin .append) (hat : cl.argTypes.toList = t :: u :: r)
  {v x : Value} (hv : cl.args.toList.map a.eval = [v,x]) (hA : EV c A v) (hB : EV c B x)
  (h : L.bM u fun i=>(match i.desc with
  | .slice _=>jH L t A B H k
  | .str=>jH L t A B H k
  | _=>False)) : dD P o a.eval c H k ks:=by
 have hh:=Eo h hL
 clear h
 obtain ⟨⟨d,hu,hd⟩,h⟩:=hh
 unfold jH at h
 have hh:=Lay.bn hL h
 clear h
 obtain ⟨i,hT,h⟩:=hh
 obtain ⟨dt,ht,hdt⟩:=hT.under
 split at h
 case h_2=>exact h.elim
 rename_i el hi
 obtain rfl:=dS (hdt.trans hi)
 have hh:=Lay.bn hL h
 clear h
 obtain ⟨ei,hE,h⟩:=hh
 obtain ⟨info,z,g1,g2,g3,g4,g5,g6⟩:=hE.info
 have hzs : z.cells.size = flat ei.zero:=by rw [<- Array.length_toList]; exact cZ _ _ (g6 c.w c.Im)
 have Fj : ∀ r w',(Builtin.append_ #[t,u] o.type #[v,x]).run P c.w = .ok r w' -> (execOp a.eval o).run P c.w = .ok (.value r) w':=by
  intro rr w' hrr
  rw [jJ ho hc,jM hv]
  have e2 : (Builtin.append_ cl.argTypes o.type #[v,x]).run P c.w = (Builtin.append_ #[t,u] o.type #[v,x]).run P c.w:=by
   have e0 : cl.argTypes[0]? = some t:=by rw [<- Array.getElem?_toList,hat]; rfl
   have e1 : cl.argTypes[1]? = some u:=by rw [<- Array.getElem?_toList,hat]; rfl
   unfold Builtin.append_
   simp only [e0,e1]
   rfl
  simp only [builtin,Sem.run_bind,e2,hrr,Result.andThen_ok,Sem.run_pure]
 have fin : ∀ (d0 : Cx) (l m : List AV) (j : Nat) (H0 : Heap),d0.w = c.w -> Tr c H d0 H0 -> hget H0 j = some (.tok (flat ei.zero) l.length) -> VV d0 (.sl (flat ei.zero) l (.own j)) v ->
   (∃ news,Src P (flat ei.zero) c.w x m.length news /\ uI c.w c.Im (flat ei.zero) m news) -> l.length + m.length <= maxL -> (l.length + m.length) * ei.bytes <= 140737488355328 ->
   k (.sl (flat ei.zero) (l ++ m) (.own j)) (hset H0 j (.tok (flat ei.zero) (l.length + m.length))) -> dD P o a.eval c H k ks:=by
  rintro d0 l m j H0 hw htr hk hV ⟨news,hx,hm⟩ h1 h2 h3
  obtain ⟨c',v',hrun,kR,hV'⟩:=DL (P:=P) (ty:=o.type) htr.hr hk hV ht hu hd g1 g2 g4 hzs (by rw [hw]; exact hx) (gy htr.le.im hm) h1 (by rw [g3]; exact h2)
  rw [hw] at hrun
  exact .inl ⟨v',c',_,_,Fj _ _ hrun,htr.trans kR,bg hV',h3⟩
 have zi : ∀ (d0 : Cx) (l m : List AV),d0.w = c.w -> Tr c H d0 ((nextId H,.tok (flat ei.zero) l.length) :: H) -> VV d0 (.sl (flat ei.zero) l (.own (nextId H))) v ->
   (∃ news,Src P (flat ei.zero) c.w x m.length news /\ uI c.w c.Im (flat ei.zero) m news) -> l.length + m.length <= maxL -> (l.length + m.length) * ei.bytes <= 140737488355328 ->
   k (.sl (flat ei.zero) (l ++ m) .no) H -> dD P o a.eval c H k ks:=by
  rintro d0 l m hw htr hV ⟨news,hx,hm⟩ h1 h2 h3
  obtain ⟨c',v',hrun,kR,hV'⟩:=DL (P:=P) (ty:=o.type) htr.hr (j:=nextId H) (by simp [hget]) hV ht hu hd g1 g2 g4 hzs (by rw [hw]; exact hx) (gy htr.le.im hm) h1 (by rw [g3]; exact h2)
  rw [hw] at hrun
  have Dq:=htr.trans kR
  have hset' : hset ((nextId H,HO.tok (flat ei.zero) l.length) :: H) (nextId H) (.tok (flat ei.zero) (l.length + m.length)) = (nextId H,.tok (flat ei.zero) (l.length + m.length)) :: H:=by simp [hset]
  rw [hset'] at Dq
  have hwk : QE ((nextId H,.tok (flat ei.zero) (l.length + m.length)) :: H) H:=by
   refine ⟨KY fun k' o' hmem=>?_,hr.ids⟩
   have hlt:=bH hr.ids _ hmem
   have hlt : k' < nextId H:=hlt
   have hok:=hr.ok _ hmem
   refine ⟨o',?_,zF o',?_⟩
   ·simp only [hget]
    have hne : Nat.beq (nextId H) k' = false:=by
     cases hb : Nat.beq (nextId H) k' with
     | false=>rfl
     | true=>have:=Nat.eq_of_beq_eq_true hb; omega
    rw [hne]; exact mO hr.ids hmem
   ·rw [<- hr.nx]
    cases o' with
    | box A=>obtain ⟨cs,ty,_,h2,_⟩:=hok; exact vX _ _ h2
    | dU sh es=>obtain ⟨ents,clock,_,h2,_⟩:=hok; exact DV h2
    | _=>rfl
  refine .inl ⟨v',c'.cut H,_,H,Fj _ _ hrun,Dq.cut hwk (by rw [hr.nx]; exact Nat.le_refl _),bg ?_,h3⟩
  refine GN (fun k n hn=>by rw [Dq.hr.tp]; exact hwk.tp k n hn) rfl ?_
  exact Bg (by simp only [le0]; exact ⟨trivial,aB _⟩) hV'
 split at h
 ·obtain ⟨m,news,hx,hm,h⟩:=kP hr hB h
  obtain ⟨base,rfl,Nj⟩:=wJ (sz:=flat ei.zero) hA
  obtain ⟨d0,hw,htr,hV⟩:=Tr.AP hr Nj
  cases h with
  | tok h1 h2 h3 =>
    refine fin d0 [] m _ _ hw htr (by simp [hget]) hV ⟨news,hx,hm⟩ h1 h2 ?_
    have:=eF.1 h3
    simpa [hset] using this
  | pure h1 h2 h3=>exact zi d0 [] m hw htr hV ⟨news,hx,hm⟩ h1 h2 h3
 ·rename_i sz l
  obtain ⟨rfl,h⟩:=bI.1 h
  obtain ⟨m,news,hx,hm,h⟩:=kP hr hB h
  obtain ⟨base,rfl,Nj⟩:=wU hA
  obtain ⟨d0,hw,htr,hV⟩:=Tr.AP hr Nj
  cases h with
  | tok h1 h2 h3 =>
    refine fin d0 l m _ _ hw htr (by simp [hget]) hV ⟨news,hx,hm⟩ h1 h2 ?_
    have:=eF.1 h3
    simpa [hset] using this
  | pure h1 h2 h3=>exact zi d0 l m hw htr hV ⟨news,hx,hm⟩ h1 h2 h3
 ·rename_i sz l j
  obtain ⟨rfl,h⟩:=bI.1 h
  obtain ⟨m,news,hx,hm,h⟩:=kP hr hB h
  obtain ⟨ob,hob,h⟩:=dB.1 h
  split at h
  ·rename_i sz' top
   have hh:=bI.1 h
   clear h
   obtain ⟨rfl,rfl,h⟩:=hh
   obtain ⟨_,g7⟩:=iZ.1 h.next
   exact fin c l m j H rfl (.refl hr) hob hA ⟨news,hx,hm⟩ h.len h.room g7
  ·exact h.elim
 ·exact h.elim

theorem Pq (hL : dR P L) {cl : Call} {t u : Nat} {r : List Nat} {A B : AV} (hr : HR c H) (ho : o.op = .call cl) (hc : cl.callee = .builtin .append) (hat : cl.argTypes.toList = t :: u :: r)
  {v x : Value} (hv : cl.args.toList.map a.eval = [v,x]) (hA : EV c A v) (hB : EV c B x)
  (h : L.bM u fun i=>(match i.desc with
  | .slice _=>vU L t A B H k
  | .str=>vU L t A B H k
  | _=>False)) : dD P o a.eval c H k ks:=by
 have hh:=Eo h hL
 clear h
 obtain ⟨⟨d,hu,hd⟩,h⟩:=hh
 unfold vU at h
 have hh:=Lay.bn hL h
 clear h
 obtain ⟨i,hT,h⟩:=hh
 obtain ⟨dt,ht,hdt⟩:=hT.under
 split at h
 case h_2=>exact h.elim
 rename_i el hi
 obtain rfl:=dS (hdt.trans hi)
 have hh:=Lay.bn hL h
 clear h
 obtain ⟨ei,hE,h⟩:=hh
 obtain ⟨info,z,g1,g2,g3,g4,g5,g6⟩:=hE.info
 have hzs : z.cells.size = flat ei.zero:=by rw [<- Array.length_toList]; exact cZ _ _ (g6 c.w c.Im)
 have Fj : ∀ r w',(Builtin.append_ #[t,u] o.type #[v,x]).run P c.w = .ok r w' -> (execOp a.eval o).run P c.w = .ok (.value r) w':=by
  intro rr w' hrr
  rw [jJ ho hc,jM hv]
  have e2 : (Builtin.append_ cl.argTypes o.type #[v,x]).run P c.w = (Builtin.append_ #[t,u] o.type #[v,x]).run P c.w:=by
   have e0 : cl.argTypes[0]? = some t:=by rw [<- Array.getElem?_toList,hat]; rfl
   have e1 : cl.argTypes[1]? = some u:=by rw [<- Array.getElem?_toList,hat]; rfl
   unfold Builtin.append_
   simp only [e0,e1]
   rfl
  simp only [builtin,Sem.run_bind,e2,hrr,Result.andThen_ok,Sem.run_pure]
 have fin : ∀ (d0 : Cx) (l m : List AV) (j : Nat) (H0 : Heap),d0.w = c.w -> Tr c H d0 H0 -> hget H0 j = some (.tok (flat ei.zero) l.length) -> VV d0 (.sl (flat ei.zero) l (.own j)) v ->
   (∃ news,Src P (flat ei.zero) c.w x m.length news /\ uI c.w c.Im (flat ei.zero) m news) -> l.length + m.length <= maxL -> (l.length + m.length) * ei.bytes <= 140737488355328 ->
   k (.sl (flat ei.zero) (l ++ m) (.own j)) (hset H0 j (.tok (flat ei.zero) (l.length + m.length))) -> dD P o a.eval c H k ks:=by
  rintro d0 l m j H0 hw htr hk hV ⟨news,hx,hm⟩ h1 h2 h3
  obtain ⟨c',v',hrun,kR,hV'⟩:=DL (P:=P) (ty:=o.type) htr.hr hk hV ht hu hd g1 g2 g4 hzs (by rw [hw]; exact hx) (gy htr.le.im hm) h1 (by rw [g3]; exact h2)
  rw [hw] at hrun
  exact .inl ⟨v',c',_,_,Fj _ _ hrun,htr.trans kR,bg hV',h3⟩
 have zi : ∀ (d0 : Cx) (l m : List AV),d0.w = c.w -> Tr c H d0 ((nextId H,.tok (flat ei.zero) l.length) :: H) -> VV d0 (.sl (flat ei.zero) l (.own (nextId H))) v ->
   (∃ news,Src P (flat ei.zero) c.w x m.length news /\ uI c.w c.Im (flat ei.zero) m news) -> l.length + m.length <= maxL -> (l.length + m.length) * ei.bytes <= 140737488355328 ->
   k (.sl (flat ei.zero) (l ++ m) .no) H -> dD P o a.eval c H k ks:=by
  rintro d0 l m hw htr hV ⟨news,hx,hm⟩ h1 h2 h3
  obtain ⟨c',v',hrun,kR,hV'⟩:=DL (P:=P) (ty:=o.type) htr.hr (j:=nextId H) (by simp [hget]) hV ht hu hd g1 g2 g4 hzs (by rw [hw]; exact hx) (gy htr.le.im hm) h1 (by rw [g3]; exact h2)
  rw [hw] at hrun
  have Dq:=htr.trans kR
  have hset' : hset ((nextId H,HO.tok (flat ei.zero) l.length) :: H) (nextId H) (.tok (flat ei.zero) (l.length + m.length)) = (nextId H,.tok (flat ei.zero) (l.length + m.length)) :: H:=by simp [hset]
  rw [hset'] at Dq
  have hwk : QE ((nextId H,.tok (flat ei.zero) (l.length + m.length)) :: H) H:=by
   refine ⟨KY fun k' o' hmem=>?_,hr.ids⟩
   have hlt:=bH hr.ids _ hmem
   have hlt : k' < nextId H:=hlt
   have hok:=hr.ok _ hmem
   refine ⟨o',?_,zF o',?_⟩
   ·simp only [hget]
    have hne : Nat.beq (nextId H) k' = false:=by
     cases hb : Nat.beq (nextId H) k' with
     | false=>rfl
     | true=>have:=Nat.eq_of_beq_eq_true hb; omega
    rw [hne]; exact mO hr.ids hmem
   ·rw [<- hr.nx]
    cases o' with
    | box A=>obtain ⟨cs,ty,_,h2,_⟩:=hok; exact vX _ _ h2
    | dU sh es=>obtain ⟨ents,clock,_,h2,_⟩:=hok; exact DV h2
    | _=>rfl
  refine .inl ⟨v',c'.cut H,_,H,Fj _ _ hrun,Dq.cut hwk (by rw [hr.nx]; exact Nat.le_refl _),bg ?_,h3⟩
  refine GN (fun k n hn=>by rw [Dq.hr.tp]; exact hwk.tp k n hn) rfl ?_
  exact Bg (by simp only [le0]; exact ⟨trivial,aB _⟩) hV'
 have wrFin : ∀ (l m : List AV) (base : Option Addr),v = .slice base l.length l.length -> Rd c.w c.Im (.sl (flat ei.zero) l .no) [.slice base l.length l.length] ->
   (∃ news,Src P (flat ei.zero) c.w x m.length news /\ uI c.w c.Im (flat ei.zero) m news) -> m ≠ [] -> l.length + m.length <= maxL -> (l.length + m.length) * ei.bytes <= 140737488355328 ->
   (∀ cp,l.length + m.length <= cp -> cp <= maxL -> k (.ms (nextId H) 0 (l.length + m.length) cp (flat ei.zero)) ((nextId H,.arr (flat ei.zero) cp (l ++ m)) :: H)) -> dD P o a.eval c H k ks:=by
  rintro l m base rfl Nj ⟨news,hx,hm⟩ hne h1 h2 h3
  have hmpos : 0 < m.length:=List.length_pos_iff.2 hne
  obtain ⟨olds,ho1,ho2⟩ : ∃ olds,uI c.w c.Im (flat ei.zero) l olds /\ Src P (flat ei.zero) c.w (.slice base l.length l.length) l.length olds:=by
   simp only [Rd] at Nj
   rcases Nj.2 with ⟨rfl,h8⟩ | ⟨ad,cap,h8,h9,h10,h11,h12⟩
   ·exact ⟨[],rfl,by simp at h8; rw [h8]; exact ⟨fun _=>rfl,fun _=>rfl⟩⟩
   ·obtain ⟨olds,g1,g2⟩:=uf h12
    refine ⟨olds,g1,?_⟩
    simp at h8
    rw [h8.1]
    exact Src.slice (dV g1) (yO rfl rfl (fun hne=>h11 (fun e=>by subst e; exact hne g1)) g2)
  have hol:=dV ho1
  have hml:=dV hm
  have hge:=grownCap_ge c.w (l.length + m.length) l.length el
  have hle:=grownCap_le_maxLen c.w (l.length + m.length) l.length el (by simpa [maxL,maxLen] using h1)
  have hle' : grownCap c.w (l.length + m.length) l.length el <= maxL:=by simpa [maxL,maxLen] using hle
  have hrun:=sS (P:=P) (ty:=o.type) (t:=t) (u:=u) ht hu hd g1 g2 g4 hx (by omega : l.length < l.length + m.length) h1 (by rw [g3]; exact h2) ho2.cells
  generalize hcp : grownCap c.w (l.length + m.length) l.length el = cap' at hge hle' hrun
  let cs:=olds.toArray ++ news.toArray ++ Builtin.zeroCells z.cells (cap' - (l.length + m.length))
  have hcs : cs.size = cap' * flat ei.zero:=by
   simp only [cs,Array.size_append,List.size_toArray,hol,hml,size_zeroCells,hzs]
   rw [<- Nat.add_mul,<- Nat.add_mul]; congr 1; omega
  have htd:=Tr.drew hr
  let d0 : Cx:={ c with w:=c.w.drew }
  have hr0 : HR d0 H:=htd.hr
  have htr : Tr c H (d0.push (.cells cs el) ((nextId H,.arr (flat ei.zero) cap' (l ++ m)) :: H)) ((nextId H,.arr (flat ei.zero) cap' (l ++ m)) :: H):=by
   refine htd.trans (Tr.push hr0 _ _ (fun _=>rfl) ?_)
   refine ⟨cs.toList,el,?_,?_,by simp; exact hge,hle',?_,?_⟩
   ·rw [uSρ hr0]; simp only [Cx.push,Array.toArray_toList]; exact alloc_heap_new _ _
   ·rw [Array.length_toList,hcs]
   ·have le:=htd.le.trans (JK hr0 (.cells cs el) (.arr (flat ei.zero) cap' (l ++ m)))
    have h5:=pW (gy le.im ho1) (gy le.im hm)
    have h6:=pR (c:=d0.push (.cells cs el) ((nextId H,.arr (flat ei.zero) cap' (l ++ m)) :: H)) (rest:=(Builtin.zeroCells z.cells (cap' - (l.length + m.length))).toList) h5
    have e : cs.toList = olds ++ news ++ (Builtin.zeroCells z.cells (cap' - (l.length + m.length))).toList:=by simp [cs]
    rw [e]; exact h6
   ·intro y hy
    rw [uSρ hr0] at hy
    have:=hr0.im _ _ hy
    omega
  refine .inl ⟨_,_,_,_,Fj _ _ hrun,htr,bg (dY rfl rfl ?_),h3 cap' hge hle'⟩
  simp only [VR]
  rw [uSρ hr0]
  exact ⟨by simp only [Cx.push,hr0.nx]; omega,by simp [d0],hge,hle'⟩
 split at h
 ·obtain ⟨m,news,hx,hm,h⟩:=kP hr hB h
  obtain ⟨base,hbe,Nj⟩:=wJ (sz:=flat ei.zero) hA
  obtain ⟨d0,hw,htr,hV⟩:=Tr.AP hr Nj
  cases h with
  | tok h1 h2 h3 =>
    refine fin d0 [] m _ _ hw htr (by simp [hget]) (hbe ▸ hV) ⟨news,hx,hm⟩ h1 h2 ?_
    have:=eF.1 h3
    simpa [hset] using this
  | pure h1 h2 h3=>exact zi d0 [] m hw htr (hbe ▸ hV) ⟨news,hx,hm⟩ h1 h2 h3
  | wr h0 h1 h2 h3=>exact wrFin [] m base hbe Nj ⟨news,hx,hm⟩ h0 (by simpa using h1) (by simpa using h2) h3
 ·rename_i sz l
  obtain ⟨rfl,h⟩:=bI.1 h
  obtain ⟨m,news,hx,hm,h⟩:=kP hr hB h
  obtain ⟨base,hbe,Nj⟩:=wU hA
  obtain ⟨d0,hw,htr,hV⟩:=Tr.AP hr Nj
  cases h with
  | tok h1 h2 h3 =>
    refine fin d0 l m _ _ hw htr (by simp [hget]) (hbe ▸ hV) ⟨news,hx,hm⟩ h1 h2 ?_
    have:=eF.1 h3
    simpa [hset] using this
  | pure h1 h2 h3=>exact zi d0 l m hw htr (hbe ▸ hV) ⟨news,hx,hm⟩ h1 h2 h3
  | wr h0 h1 h2 h3=>exact wrFin l m base hbe Nj ⟨news,hx,hm⟩ h0 h1 h2 h3
 ·rename_i sz l j
  obtain ⟨rfl,h⟩:=bI.1 h
  obtain ⟨m,news,hx,hm,h⟩:=kP hr hB h
  obtain ⟨ob,hob,h⟩:=dB.1 h
  split at h
  ·rename_i sz' top
   have hh:=bI.1 h
   clear h
   obtain ⟨rfl,rfl,h⟩:=hh
   obtain ⟨_,g7⟩:=iZ.1 h.next
   exact fin c l m j H rfl (.refl hr) hob hA ⟨news,hx,hm⟩ h.len h.room g7
  ·exact h.elim
 ·rename_i j len
  obtain ⟨m,news,hx,hm,h⟩:=kP hr hB h
  obtain ⟨ob,hob,h⟩:=dB.1 h
  split at h
  ·rename_i sz l
   have hh:=bI.1 h
   clear h
   obtain ⟨rfl,rfl,h0,h⟩:=hh
   obtain ⟨_,q7⟩:=iZ.1 h.next
   obtain ⟨c',v',hrun,kR,hV'⟩:=app_gs (P:=P) (ty:=o.type) hr hob hA ht hu hd g1 g2 g4 hzs hx hm h0 h.len (by rw [g3]; exact h.room)
   exact .inl ⟨v',c',_,_,Fj _ _ hrun,kR,bg hV',q7⟩
  ·exact h.elim
 ·exact h.elim

theorem L9 {α : Type} : ∀ {l : List α} {i : Nat} {x : α},l[i]? = some x -> l.set i x = l
 | [],_,_,h=>by simp at h
 | y :: l,0,x,h=>by simp at h; simp [h]
 | y :: l,i + 1,x,h=>by simp at h; simp [L9 h]

theorem Je {off : Nat} {v : Value} {pre xs post : List Value} {cells : Array Value} (hc : cells.toList = pre ++ xs ++ post) (hp : pre.length = off) (hx : v.cells.size = xs.length) :
  (v.cells.zipIdx.foldl (fun cs (c,j)=>cs.setIfInBounds (off + j) c) cells).toList = pre ++ v.cells.toList ++ post:=by
 obtain ⟨g1,g2⟩:=Great.foldl_set off v.cells.toList 0 cells
 have hsz : cells.size = pre.length + xs.length + post.length:=by rw [<- Array.length_toList,hc]; simp; omega
 have e : v.cells.zipIdx.foldl (fun cs (c,j)=>cs.setIfInBounds (off + j) c) cells = (v.cells.toList.zipIdx 0).foldl (fun cs (x : Value × Nat)=>cs.setIfInBounds (off + x.2) x.1) cells:=by
  rw [<- Array.foldl_toList,Array.toList_zipIdx]
 rw [e]
 apply List.ext_getElem?
 intro i
 rw [Array.getElem?_toList,g2 i]
 simp only [Nat.add_zero,Array.length_toList]
 have hci : cells[i]? = (pre ++ xs ++ post)[i]?:=by rw [<- hc,Array.getElem?_toList]
 by_cases h1 : i < pre.length
 ·rw [if_neg (by omega),hci]
  rw [List.append_assoc,List.append_assoc,List.getElem?_append_left h1,List.getElem?_append_left h1]
 ·by_cases h2 : i < pre.length + xs.length
  ·rw [if_pos ⟨by omega,by omega,by omega⟩]
   rw [List.append_assoc,List.getElem?_append_right (by omega),List.getElem?_append_left (by simp; omega),hp]
  ·rw [if_neg (by omega),hci]
   rw [List.getElem?_append_right (by simp; omega),List.getElem?_append_right (by simp; omega)]
   congr 1; simp [hx]

theorem vN {place : Nat -> Option (Nat × Nat)} {zs : List AV} (hp : ∀ i z,zs[i]? = some z -> place i = some (iK (zs.take i),flat z)) (he : gJ c e a) :
  ∀ {ps : List (Nat × Operand)} {l : List AV} {cells : Array Value} {k : List AV -> Prop},(∀ p ∈ ps,bF p.2 = true) -> l.map flat = zs.map flat -> lS c l cells.toList -> iV e ps l k ->
    ∃ l' cells',Instr.fill place cells (ps.map fun p=>(p.1,a.eval p.2)) = some cells' /\ lS c l' cells'.toList /\ k l'
 | [],l,cells,k,_,_,hr,h=>⟨l,cells,rfl,hr,h⟩
 | (i,x) :: ps,l,cells,k,ho,hf,hr,h=>by
   simp only [iV] at h
   obtain ⟨A,hA,h⟩:=aW he (ho (i,x) (by simp)) h
   obtain ⟨hval,h⟩:=uP.1 h
   obtain ⟨z,hz,h⟩:=jl.1 h
   obtain ⟨hfl,h⟩:=bI.1 h
   have h' : jr l i A fun zs'=>iV e ps zs' k:=by
    cases A <;> cases z <;> first | exact h | exact h.elim
   obtain ⟨hi,h'⟩:=qp h'
   have hAv:=nM hA hval
   obtain ⟨pre,xs,post,h1,h2,h3,h4⟩:=rU hr hz
   have hlen : (a.eval x).cells.size = xs.length:=by rw [<- Array.length_toList,gB _ _ hAv.2,gB _ _ h3,hfl]
   have hflat : ∀ (l m : List AV),l.map flat = m.map flat -> iK l = iK m:=by
    intro l
    induction l with
    | nil=>intro m h; cases m with
      | nil=>rfl
      | cons y m=>simp at h
    | cons y l ih=>intro m h; cases m with
      | nil=>simp at h
      | cons y' m=>simp at h; simp [iK,h.1,ih m h.2]
   obtain ⟨z0,hz0,hzf⟩ : ∃ z0,zs[i]? = some z0 /\ flat z0 = flat z:=by
    have : (l.map flat)[i]? = (zs.map flat)[i]?:=by rw [hf]
    rw [List.getElem?_map,List.getElem?_map,hz] at this
    cases hz0 : zs[i]? with
    | none=>simp [hz0] at this
    | some z0=>simp [hz0] at this; exact ⟨z0,rfl,this.symm⟩
   have hoff : iK (zs.take i) = pre.length:=by
    rw [h2]; refine hflat _ _ ?_
    rw [List.map_take,List.map_take,hf]
   have hpl:=hp i z0 hz0
   have hcs:=Je (v:=a.eval x) (off:=pre.length) h1 rfl hlen
   have hsz : pre.length + xs.length <= cells.size:=by rw [<- Array.length_toList,h1]; simp
   obtain ⟨l',cells',g1,g2,g3⟩:=vN hp he (cells:=(a.eval x).cells.zipIdx.foldl (fun cs (c,j)=>cs.setIfInBounds (pre.length + j) c) cells) (fun p hp=>ho p (by simp [hp]))
    (l:=l.set i A) (by rw [List.map_set,hfl,<- hf]; exact L9 (by rw [List.getElem?_map,hz]; rfl)) (by rw [hcs]; exact h4 _ _ hAv.2) h'
   refine ⟨l',cells',?_,g2,g3⟩
   simp only [List.map_cons,Instr.fill,hpl,hoff]
   rw [if_neg]
   ·exact g1
   ·have : flat z0 = xs.length:=by rw [hzf,gB _ _ h3]
    simp; omega

theorem TU {fs : List Field} (h : ∀ f ∈ fs,∃ x,P.info? f.type = some x) :
  fs.mapM (fun f=>(P.info? f.type).map fun i=>(f.offset,i.size)) = some (fs.map fun f=>(f.offset,P.cellsOf f.type)):=by
 induction fs with
 | nil=>rfl
 | cons f fs ih =>
   obtain ⟨x,hx⟩:=h f (by simp)
   simp [List.mapM_cons,hx,ih fun f hf=>h f (by simp [hf]),Program.cellsOf]

theorem Jd : ∀ {zs : List AV} {i : Nat} {z : AV},zO zs = true -> zs[i]? = some z -> iK (zs.take i) = i /\ flat z = 1
 | [],_,_,_,h=>by simp at h
 | x :: l,i,z,hf,h=>by
   simp only [zO] at hf
   cases hb : Nat.beq (flat x) 1 with
   | false=>rw [hb] at hf; cases hf
   | true =>
     rw [hb] at hf
     have hx:=Nat.eq_of_beq_eq_true hb
     cases i with
     | zero=>simp at h; subst h; exact ⟨by simp [iK],hx⟩
     | succ i =>
       obtain ⟨k1,k2⟩:=Jd hf (by simpa using h)
       exact ⟨by simp only [List.take_succ_cons,iK,hx,k1]; omega,k2⟩

theorem Wv (hL : dR P L) {t : Nat} {ps : Array (Nat × Operand)} (hr : HR c H) (he : gJ c e a) (hx : ∀ p ∈ ps.toList,bF p.2 = true) (ho : o.op = .build t ps)
  (h : L.bM t fun i=>(match i.desc,i.zero with
  | .struct _,.ag zs=>iV e ps.toList zs fun l=>k (.ag l) H
  | .arr _ el,.ag zs=>L.bM el fun ei=>kH (flat ei.zero) 1 (MP (zO zs) (iV e ps.toList zs fun l=>k (.ag l) H))
  | _,_=>False)) : dD P o a.eval c H k ks:=by
 obtain ⟨i,hT,h⟩:=Lay.bn hL h
 obtain ⟨d,hd,hdd⟩:=hT.under
 split at h
 case h_3=>exact h.elim
 case h_2 =>
  rename_i n el zs hi hz
  obtain rfl:=FV (hdd.trans hi)
  obtain ⟨ei,hE,h⟩:=Lay.bn hL h
  obtain ⟨hf1,h⟩:=bI.1 h
  obtain ⟨info,z,g1,g2,g3,g4,g5,g6⟩:=hT.info
  obtain ⟨einfo,ez,e1,e2,_,_,_,_⟩:=hE.info
  have hz0 : lS c zs z.cells.toList:=by
   have:=iO (c:=c) _ _ (g6 c.w c.Im)
   rw [hz] at this
   simpa only [VR] using this
  have hfl : zO zs = true /\ iV e ps.toList zs fun l=>k (.ag l) H:=by
   unfold MP at h
   split at h
   ·exact ⟨‹_›,h⟩
   ·exact h.elim
  obtain ⟨hfl,h⟩:=hfl
  obtain ⟨l,cells,h1,h2,h3⟩:=vN (place:=fun i=>some (i * einfo.size,einfo.size)) (fun i z hz=>by
   obtain ⟨k1,k2⟩:=Jd hfl hz
   rw [e2,hf1,Nat.mul_one,k1,k2]) he hx rfl hz0 h
  refine .pure hr (v:=.agg cells) ?_ (bg (A:=.ag l) ⟨⟨fun _=>⟨_,rfl⟩,fun h=>by cases h⟩,by show VR c (.ag l) cells.toList; simpa only [VR] using h2⟩) h3
  unfold execOp; rw [ho]
  have hb : P.built t (ps.map fun (i,x)=>(i,a.eval x)).toList = some cells:=by
   unfold Program.built
   simp only [g1,hd,g4,e1]
   rw [Array.toList_map]
   exact h1
  simp only [Sem.run_bind,run_build c.w t _ cells hb,Result.andThen_ok,Sem.run_pure]
 rename_i fs zs hi hz
 obtain ⟨gs,rfl,rfl⟩:=qP (hdd.trans hi)
 obtain ⟨zs',hz',hoff⟩:=hT.flds _ hi
 rw [hz] at hz'; cases hz'
 have hinf:=hT.inf _ hi
 obtain ⟨info,z,g1,g2,g3,g4,g5,g6⟩:=hT.info
 have hz0 : lS c zs z.cells.toList:=by
  have:=iO (c:=c) _ _ (g6 c.w c.Im)
  rw [hz] at this
  simpa only [VR] using this
 have hm : gs.toList.mapM (fun f=>(P.info? f.type).map fun i=>(f.offset,i.size)) = some (uX 0 zs):=by
  rw [TU fun f hf=>hinf (f.offset,P.cellsOf f.type,f.type) (List.mem_map.2 ⟨f,hf,rfl⟩),<- hoff,List.map_map]
  rfl
 obtain ⟨l,cells,h1,h2,h3⟩:=vN (place:=fun i=>(uX 0 zs).toArray[i]?) (fun i z hz=>by simpa using yu (n:=0) hz) he hx rfl hz0 h
 refine .pure hr (v:=.agg cells) ?_ (bg (A:=.ag l) ⟨⟨fun _=>⟨_,rfl⟩,fun h=>by cases h⟩,by show VR c (.ag l) cells.toList; simpa only [VR] using h2⟩) h3
 unfold execOp; rw [ho]
 have hb : P.built t (ps.map fun (i,x)=>(i,a.eval x)).toList = some cells:=by
  unfold Program.built
  simp only [g1,hd,g4,hm]
  rw [Array.toList_map]
  exact h1
 simp only [Sem.run_bind,run_build c.w t _ cells hb,Result.andThen_ok,Sem.run_pure]

theorem Jy {w : World} {Im : Nat -> Nat -> Prop} {sz : Nat} : ∀ {l : List AV} {cs : List Value} {j : Nat} {x : AV},uI w Im sz l cs -> l[j]? = some x ->
  ∃ pre xs post,cs = pre ++ xs ++ post /\ pre.length = j * sz /\ xs.length = sz /\ ∀ y ys,Rd w Im y ys -> ys.length = sz -> uI w Im sz (l.set j y) (pre ++ ys ++ post)
 | [],_,_,_,_,h=>by simp at h
 | z :: l,cs,0,x,hr,h=>by
   obtain ⟨a,d,rfl,h2,h3,h4⟩:=hr
   refine ⟨[],a,d,by simp,by simp,h2,fun y ys hy hl=>?_⟩
   exact ⟨ys,d,by simp,hl,hy,h4⟩
 | z :: l,cs,j + 1,x,hr,h=>by
   obtain ⟨a,d,rfl,h2,h3,h4⟩:=hr
   obtain ⟨pre,xs,post,rfl,h5,h6,h8⟩:=Jy h4 (by simpa using h : l[j]? = some x)
   refine ⟨a ++ pre,xs,post,by simp,by simp [h2,h5,Nat.add_mul]; omega,h6,fun y ys hy hl=>?_⟩
   exact ⟨a,pre ++ ys ++ post,by simp,h2,h3,h8 y ys hy hl⟩

theorem Ag {sz : Nat} (he : gJ c e a) :
  ∀ {ps : List (Nat × Operand)} {l : List AV} {cells : Array Value} {k : List AV -> Prop},(∀ p ∈ ps,bF p.2 = true) -> (∀ z ∈ l,flat z = sz) -> uI c.w c.Im sz l cells.toList -> ji e ps l k ->
    ∃ l' cells',Instr.fill (fun i=>some (i * sz,sz)) cells (ps.map fun p=>(p.1,a.eval p.2)) = some cells' /\ l'.length = l.length /\ uI c.w c.Im sz l' cells'.toList /\ k l'
 | [],l,cells,k,_,_,hr,h=>⟨l,cells,rfl,rfl,hr,h⟩
 | (i,x) :: ps,l,cells,k,ho,hf,hr,h=>by
   simp only [ji] at h
   obtain ⟨A,hA,h⟩:=aW he (ho (i,x) (by simp)) h
   obtain ⟨z,hz,h⟩:=jl.1 h
   obtain ⟨hfl,h⟩:=bI.1 h
   have h' : xJ A fun B=>jr l i B fun zs'=>ji e ps zs' k:=by
    cases A <;> cases z <;> first | exact h | exact h.elim
   obtain ⟨hpu,h'⟩:=uU h'
   obtain ⟨hi,h'⟩:=qp h'
   have hval : isVal A = true:=by cases A <;> first | rfl | (simp [nR] at hpu)
   have hAv:=nM hA hval
   have hzs : flat z = sz:=hf z (List.mem_of_getElem? hz)
   obtain ⟨pre,xs,post,h1,h2,h3,h4⟩:=Jy hr hz
   have hlen : (a.eval x).cells.toList.length = sz:=by rw [gB _ _ hAv.2,hfl,hzs]
   have hlen' : (a.eval x).cells.size = sz:=by rw [<- hlen,Array.length_toList]
   have hcs:=Je (v:=a.eval x) (off:=i * sz) h1 h2 (by rw [hlen',h3])
   have hR:=pV _ _ hpu hAv.2
   have hsz : pre.length + xs.length <= cells.size:=by rw [<- Array.length_toList,h1]; simp
   obtain ⟨l',cells',g1,g2,g3,g4⟩:=Ag he (cells:=(a.eval x).cells.zipIdx.foldl (fun cs (c,j)=>cs.setIfInBounds (i * sz + j) c) cells) (fun p hp=>ho p (by simp [hp]))
    (l:=l.set i (strip A)) (fun y hy=>by
     rcases List.mem_or_eq_of_mem_set hy with hy | rfl
     ·exact hf y hy
     ·rw [<- cZ _ _ hR]; exact hlen) (by rw [hcs]; exact h4 _ _ hR hlen) h'
   refine ⟨l',cells',?_,by rw [g2]; simp,g3,g4⟩
   simp only [List.map_cons,Instr.fill]
   rw [if_neg]
   ·exact g1
   ·simp; omega

theorem Gq {a b : Nat} {k : Prop} : BI a b k ↔ a <= b /\ k:=by
 unfold BI
 cases h : Nat.ble a b with
 | true=>simp [Nat.le_of_ble_eq_true h]
 | false=>simp; intro hle; rw [Nat.ble_eq_true_of_le hle] at h; cases h

theorem H8 (hL : dR P L) {t n : Nat} {ps : Array (Nat × Operand)} (hr : HR c H) (he : gJ c e a) (hx : ∀ p ∈ ps.toList,bF p.2 = true) (ho : o.op = .buildSlice t n ps)
  (h : L.bM t fun i=>(match i.desc with
  | .slice el=>L.bM el fun ei=>BI (n * flat ei.zero) 16777216 <| BI n 16777216 <| JJ ei.zero n fun zs=>ji e ps.toList zs fun l=>k (.sl (flat ei.zero) l .full) H
  | _=>False)) : dD P o a.eval c H k ks:=by
 obtain ⟨i,hT,h⟩:=Lay.bn hL h
 obtain ⟨d,hd,hdd⟩:=hT.under
 split at h
 case h_2=>exact h.elim
 rename_i el hi
 obtain rfl:=dS (hdd.trans hi)
 obtain ⟨ei,hE,h⟩:=Lay.bn hL h
 obtain ⟨hb1,h⟩:=Gq.1 h
 obtain ⟨hb2,h⟩:=Gq.1 h
 have h:=EF.1 h
 obtain ⟨info,z,g1,g2,g3,g4,g5,g6⟩:=hE.info
 have hmade:=OB (g6 c.w c.Im) n
 obtain ⟨l,cells,h1,h2,h3,h4⟩:=Ag (sz:=flat ei.zero) he hx (fun y hy=>by rw [(List.mem_replicate.1 hy).2]) hmade h
 rw [List.length_replicate] at h2
 have hrun : (Instr.buildSlice t n (ps.map fun (i,x)=>(i,a.eval x))).run P c.w = .ok (.slice (some ⟨c.w.heap.size,0,none⟩) n n) (c.w.alloc (.cells cells el)):=by
  have h1' : Instr.fill (fun i=>some (i * info.size,info.size)) ((Array.range (n * info.size)).map (z.cells[· % z.cells.size]!)) (ps.map fun (i,x)=>(i,a.eval x)).toList = some cells:=by
   rw [g2,Array.toList_map]; exact h1
  by_cases hpos : n * info.size = 0
  ·have e0 : ∀ zz : Array Value,(Array.range (n * info.size)).map (zz[· % zz.size]!) = #[]:=by intro zz; rw [hpos]; simp
   rw [e0] at h1'
   have hsmall : ¬ n * info.size > 2 ^ 24:=by omega
   have e1:=e0 #[]
   have hszz : (sizeOf el).run P c.w = .ok info.size c.w:=by unfold sizeOf typeInfo; simp [g1]
   unfold Instr.buildSlice
   simp only [Sem.run_bind,run_underlying hd,Result.andThen_ok,hszz,hsmall,if_false]
   rw [if_pos hpos]
   simp only [Sem.run_bind,Sem.run_pure,Result.andThen_ok,e1,h1',newRow,run_newObj,World.alloc_eq]
  ·exact Go.run_buildSlice c.w t el n _ cells info z hd g1 g4 (by rw [g2]; omega) hpos h1'
 refine .inl ⟨.slice (some ⟨c.w.heap.size,0,none⟩) n n,c.alloc (.cells cells el),_,H,?_,Tr.alloc hr _,bg (dY rfl rfl ?_),h4⟩
 ·unfold execOp; rw [ho]
  simp only [Sem.run_bind,hrun,Result.andThen_ok,Sem.run_pure]
  rfl
 ·simp only [VR,Rd]
  refine ⟨⟨by simp [maxL]; omega,.inr ⟨⟨c.w.heap.size,0,none⟩,n,by rw [h2],by omega,by simp [maxL]; omega,fun _=>rfl,?_⟩⟩,⟨some ⟨c.w.heap.size,0,none⟩,by rw [h2]⟩⟩
  have le:=(Tr.alloc hr (.cells cells el)).le
  refine jS (gy le.im h3) fun j v hj=>⟨?_,.inr rfl⟩
  rw [Nat.zero_add]
  show (c.w.alloc _).cell? ⟨c.w.heap.size,j,none⟩ = _
  rw [cell_of_heap (alloc_heap_new c.w _),<- Array.getElem?_toList]; exact hj
end
end Go.AL

namespace Go.AL

section
variable {P : Program} {L : Lay} {c : Cx} {H : Heap} {e : Env} {a : Act} {k : AV -> Heap -> Prop} {ks : Heap -> Prop} {o : Oper}

theorem EV_nilI {v : Value} (h : EV c .eP v) : v = .nilIface:=Ap h
theorem YE {t : Nat} {x : AV} {v : Value} (h : EV c (.jm t x) v) : ∃ u,v = .iface t u /\ VV c x u:=Qx h

theorem Aw {c : Cx} {A B : AV} {v u : Value} (hA : VV c A v) (hB : VV c B u) : EV c (.eG [A,B]) (.tuple #[v,u]) :=
 ⟨_,rfl,_,_,rfl,hA.1,hA.2,_,_,rfl,hB.1,hB.2,rfl⟩

theorem JX {op : BinOp} {A : AV} {K : AV -> Prop} {v : Value} (hA : EV c A v) (h : U2 op A K) :
  (op = .eql \/ op = .neq) /\ ∃ ad l n,v = .slice ad l n /\ ∃ R,VV c R (.bool (if op = .eql then ad.isNone else !ad.isNone)) /\ K R:=by
 unfold U2 at h
 split at h
 ·have hv:=xB hA
  exact ⟨.inl rfl,none,0,0,hv,_,pK,h⟩
 ·have hv:=xB hA
  exact ⟨.inr rfl,none,0,0,hv,_,kJ,h⟩
 ·obtain ⟨_,hv,_⟩:=CZ hA
  exact ⟨.inl rfl,_,_,_,hv,_,kJ,h⟩
 ·obtain ⟨_,hv,_⟩:=CZ hA
  exact ⟨.inr rfl,_,_,_,hv,_,pK,h⟩
 ·obtain ⟨_,⟨h1,hv⟩ | ⟨ad,cap,hv,_⟩⟩:=GL hA
  ·exact ⟨.inl rfl,none,0,0,hv,_,mg true,h true fun _=>h1⟩
  ·exact ⟨.inl rfl,some ad,_,_,hv,_,mg false,h false fun h=>by cases h⟩
 ·obtain ⟨_,⟨h1,hv⟩ | ⟨ad,cap,hv,_⟩⟩:=GL hA
  ·exact ⟨.inr rfl,none,0,0,hv,_,mg false,h false fun _=>h1⟩
  ·exact ⟨.inr rfl,some ad,_,_,hv,_,mg true,h true fun h=>by cases h⟩
 ·exact h.elim

theorem run_equalIn_slice_nil {t el : Nat} (ht : P.underlying t = some (.slice el)) (ad : Option Addr) (l n d : Nat) (w : World) :
  (Op.equalIn (d + 1) t (.slice ad l n) (.slice none 0 0)).run P w = .ok ad.isNone w:=by
 cases ad <;> simp only [Op.equalIn,Sem.run_bind,run_underlying ht,Result.andThen_ok,Sem.run_pure,Option.isNone]

theorem run_equal_slice_nil {t el : Nat} (ht : P.underlying t = some (.slice el)) (ad : Option Addr) (l n : Nat) (w : World) :
  (Op.equal t (.slice ad l n) (.slice none 0 0)).run P w = .ok ad.isNone w:=run_equalIn_slice_nil ht ad l n 9999 w

theorem TG (hL : dR P L) {op : BinOp} {t ty : Nat} {x y : Operand} (hr : HR c H) (he : gJ c e a) (hx : bF x = true) (ho : o.op = .binOp op t x y ty) (hn : nX (.binOp op t x y ty) = true)
  (h : bV e x fun A=>L.bM t fun i=>(match i.desc with | .slice _=>U2 op A fun R=>k R H | _=>False)) : dD P o a.eval c H k ks:=by
 obtain ⟨A,hA,h⟩:=aW he hx h
 obtain ⟨i,hT,h⟩:=Lay.bn hL h
 obtain ⟨d,hd,hdd⟩:=hT.under
 have hy : y = .const (.slice none 0 0):=by
  unfold nX at hn
  split at hn
  ·rename_i heq; cases heq; rfl
  ·cases hn
 subst hy
 split at h
 ·rename_i el hi
  obtain rfl:=dS (hdd.trans hi)
  obtain ⟨hop,ad,l,n,hv,R,hR,hk⟩:=JX hA h
  refine .pure hr (jV ho (je (fun ⟨cs,ds,h1,_⟩=>by rw [hv] at h1; cases h1) (fun h1=>by rw [hv] at h1; cases h1)) ?_) (bg hR) hk
  have e2 : a.eval (.const (.slice none 0 0)) = .slice none 0 0:=rfl
  rw [hv,e2]
  rcases hop with rfl | rfl
  ·simp only [binOp,run_equal_slice_nil hd,Sem.run_bind,Result.andThen_ok,Sem.run_pure]
   rfl
  ·simp only [binOp,run_equal_slice_nil hd,Sem.run_bind,Result.andThen_ok,Sem.run_pure]
   rfl
 ·exact h.elim

theorem H6 (hL : dR P L) {x : Operand} {xt s : Nat} {ok : Bool} (hr : HR c H) (he : gJ c e a) (hx : bF x = true) (ho : o.op = .typeAssert x xt s ok)
  (h : bV e x fun A=>L.bM s fun i=>(match i.desc with
  | .iface=>False
  | _=>KT i.zero s A ok fun R=>k R H)) : dD P o a.eval c H k ks:=by
 obtain ⟨A,hA,h⟩:=aW he hx h
 obtain ⟨i,hT,h⟩:=Lay.bn hL h
 obtain ⟨d,hd,hdd⟩:=hT.under
 have hne : ∀ ms,d ≠ .interface ms:=by
  rintro ms rfl
  have : i.desc = .iface:=hdd.symm
  rw [this] at h; exact h
 obtain ⟨z,hz,hzs,hzr⟩:=hT.y9 c.w
 have hZ : VV c i.zero z:=⟨hzs,iO _ _ (hzr _ _)⟩
 have h' : KT i.zero s A ok fun R=>k R H:=by
  cases hi : i.desc <;> rw [hi] at h <;> first | exact h.elim | exact h
 clear h
 have fails : ∀ u,a.eval x = u -> (u = .nilIface \/ ∃ t y,u = .iface t y /\ t ≠ s) -> ok = true -> (execOp a.eval o).run P c.w = .ok (.value (.tuple #[z,.bool false])) c.w:=by
  intro u hu hcase hok
  unfold execOp; rw [ho,hok]
  simp only [Instr.typeAssert,Sem.run_bind,run_underlying hd,Result.andThen_ok,hu]
  rcases hcase with rfl | ⟨t,y,rfl,hts⟩
  ·cases d <;> first | exact absurd rfl (hne _) | simp only [if_true,Sem.run_bind,hz,Result.andThen_ok,Sem.run_pure]
  ·cases d <;> first | exact absurd rfl (hne _) | simp only [if_neg hts,if_true,Sem.run_bind,hz,Result.andThen_ok,Sem.run_pure]
 unfold KT at h'
 split at h'
 ·have hv:=EV_nilI hA
  exact .pure hr (fails _ hv (.inl rfl) rfl) (Aw hZ kJ) h'
 ·rename_i t y
  obtain ⟨u,hv,hU⟩:=YE hA
  split at h'
  ·rename_i hb
   obtain rfl:=Nat.eq_of_beq_eq_true hb
   refine .pure hr (v:=.tuple #[u,.bool true]) ?_ (Aw hU pK) h'
   unfold execOp; rw [ho]
   simp only [Instr.typeAssert,Sem.run_bind,run_underlying hd,Result.andThen_ok,hv]
   cases d <;> first | exact absurd rfl (hne _) | simp only [if_true,Result.andThen_ok,Sem.run_pure]
  ·rename_i hb
   exact .pure hr (fails _ hv (.inr ⟨_,u,rfl,gU hb⟩) rfl) (Aw hZ kJ) h'
 ·rename_i t y
  obtain ⟨u,hv,hU⟩:=YE hA
  split at h'
  ·rename_i hb
   obtain rfl:=Nat.eq_of_beq_eq_true hb
   refine .pure hr (v:=u) ?_ (bg hU) h'
   unfold execOp; rw [ho]
   simp only [Instr.typeAssert,Sem.run_bind,run_underlying hd,Result.andThen_ok,hv]
   cases d <;> first | exact absurd rfl (hne _) | simp only [if_true,Bool.false_eq_true,if_false,Result.andThen_ok,Sem.run_pure]
  ·exact h'.elim
 ·exact h'.elim

theorem wI {b : Bool} {k : Prop} : MP b k ↔ b = true /\ k:=by
 unfold MP; cases b <;> simp

mutual
theorem yx {c : Cx} : ∀ (S A : AV) (cs : List Value),au S A = true -> VR c A cs -> cs = Hw A /\ Rd c.w c.Im A cs
 | .int _ _,.int k n,cs,_,h=>by simp only [VR,Rd] at h; exact ⟨by rw [h.1]; rfl,by simp only [Rd]; exact h⟩
 | .str _,.str s,cs,_,h=>by simp only [VR,Rd] at h; exact ⟨by rw [h.1]; rfl,by simp only [Rd]; exact h⟩
 | .ag s,.ag l,cs,hs,h=>by
   simp only [VR] at h
   simp only [au] at hs
   simp only [Hw,Rd]
   exact Kr s l cs hs h
 | .int _ _,.bool _,_,hs,_=>by simp [au] at hs
 | .int _ _,.tt,_,hs,_=>by simp [au] at hs
 | .int _ _,.ff,_,hs,_=>by simp [au] at hs
 | .int _ _,.dec _,_,hs,_=>by simp [au] at hs
 | .int _ _,.str _,_,hs,_=>by simp [au] at hs
 | .int _ _,.eP,_,hs,_=>by simp [au] at hs
 | .int _ _,.jm _ _,_,hs,_=>by simp [au] at hs
 | .int _ _,.aG,_,hs,_=>by simp [au] at hs
 | .int _ _,.sl _ _ _,_,hs,_=>by simp [au] at hs
 | .int _ _,.ms _ _ _ _ _,_,hs,_=>by simp [au] at hs
 | .int _ _,.ag _,_,hs,_=>by simp [au] at hs
 | .int _ _,.eG _,_,hs,_=>by simp [au] at hs
 | .int _ _,.ptr _ _ _,_,hs,_=>by simp [au] at hs
 | .int _ _,.cp _,_,hs,_=>by simp [au] at hs
 | .int _ _,.gK,_,hs,_=>by simp [au] at hs
 | .int _ _,.fn _ _,_,hs,_=>by simp [au] at hs
 | .int _ _,.aH,_,hs,_=>by simp [au] at hs
 | .int _ _,.mp _,_,hs,_=>by simp [au] at hs
 | .int _ _,.gs _ _,_,hs,_=>by simp [au] at hs
 | .int _ _,.bm _ _,_,hs,_=>by simp [au] at hs
 | .int _ _,.iT,_,hs,_=>by simp [au] at hs
 | .int _ _,.und,_,hs,_=>by simp [au] at hs
 | .str _,A,cs,hs,h=>by
   cases A <;> first | (simp [au] at hs; done) | skip
   simp only [VR,Rd] at h
   exact ⟨by rw [h.1]; rfl,by simp only [Rd]; exact h⟩
 | .ag s,A,cs,hs,h=>by
   cases A <;> first | (simp [au] at hs; done) | skip
   rename_i l
   simp only [VR] at h
   simp only [au] at hs
   simp only [Hw,Rd]
   exact Kr s l cs hs h
 | .bool _,A,_,hs,_=>by cases A <;> simp [au] at hs
 | .tt,A,_,hs,_=>by cases A <;> simp [au] at hs
 | .ff,A,_,hs,_=>by cases A <;> simp [au] at hs
 | .dec _,A,_,hs,_=>by cases A <;> simp [au] at hs
 | .eP,A,_,hs,_=>by cases A <;> simp [au] at hs
 | .jm _ _,A,_,hs,_=>by cases A <;> simp [au] at hs
 | .aG,A,_,hs,_=>by cases A <;> simp [au] at hs
 | .sl _ _ _,A,_,hs,_=>by cases A <;> simp [au] at hs
 | .ms _ _ _ _ _,A,_,hs,_=>by cases A <;> simp [au] at hs
 | .eG _,A,_,hs,_=>by cases A <;> simp [au] at hs
 | .ptr _ _ _,A,_,hs,_=>by cases A <;> simp [au] at hs
 | .cp _,A,_,hs,_=>by cases A <;> simp [au] at hs
 | .gK,A,_,hs,_=>by cases A <;> simp [au] at hs
 | .fn _ _,A,_,hs,_=>by cases A <;> simp [au] at hs
 | .aH,A,_,hs,_=>by cases A <;> simp [au] at hs
 | .mp _,A,_,hs,_=>by cases A <;> simp [au] at hs
 | .gs _ _,A,_,hs,_=>by cases A <;> simp [au] at hs
 | .bm _ _,A,_,hs,_=>by cases A <;> simp [au] at hs
 | .iT,A,_,hs,_=>by cases A <;> simp [au] at hs
 | .und,A,_,hs,_=>by cases A <;> simp [au] at hs
theorem Kr {c : Cx} : ∀ (s l : List AV) (cs : List Value),bW s l = true -> lS c l cs -> cs = Zl l /\ lM c.w c.Im l cs
 | [],[],cs,_,h=>by simp only [lS] at h; subst h; exact ⟨rfl,by simp only [lM]⟩
 | [],_ :: _,_,hs,_=>by simp [bW] at hs
 | _ :: _,[],_,hs,_=>by simp [bW] at hs
 | x :: s,y :: l,cs,hs,h=>by
   simp only [bW,Bool.and_eq_true] at hs
   simp only [lS] at h
   obtain ⟨p,q,rfl,h1,h2⟩:=h
   obtain ⟨e1,r1⟩:=yx x y p hs.1 h1
   obtain ⟨e2,r2⟩:=Kr s l q hs.2 h2
   refine ⟨by rw [e1,e2]; rfl,?_⟩
   simp only [lM]
   exact ⟨p,q,rfl,r1,r2⟩
end

mutual
theorem y7 : ∀ (A B C : AV),au A B = true -> au A C = true -> au B C = true
 | .int a _,B,C,h1,h2=>by
   cases B <;> first | (simp [au] at h1; done) | skip
   cases C <;> first | (simp [au] at h2; done) | skip
   simp only [au] at *
   obtain rfl:=gQ h1
   exact h2
 | .str _,B,C,h1,h2=>by
   cases B <;> first | (simp [au] at h1; done) | skip
   cases C <;> first | (simp [au] at h2; done) | skip
   rfl
 | .ag l,B,C,h1,h2=>by
   cases B <;> first | (simp [au] at h1; done) | skip
   cases C <;> first | (simp [au] at h2; done) | skip
   simp only [au] at *
   exact xH l _ _ h1 h2
 | .bool _,B,_,h1,_=>by cases B <;> simp [au] at h1
 | .tt,B,_,h1,_=>by cases B <;> simp [au] at h1
 | .ff,B,_,h1,_=>by cases B <;> simp [au] at h1
 | .dec _,B,_,h1,_=>by cases B <;> simp [au] at h1
 | .eP,B,_,h1,_=>by cases B <;> simp [au] at h1
 | .jm _ _,B,_,h1,_=>by cases B <;> simp [au] at h1
 | .aG,B,_,h1,_=>by cases B <;> simp [au] at h1
 | .sl _ _ _,B,_,h1,_=>by cases B <;> simp [au] at h1
 | .ms _ _ _ _ _,B,_,h1,_=>by cases B <;> simp [au] at h1
 | .eG _,B,_,h1,_=>by cases B <;> simp [au] at h1
 | .ptr _ _ _,B,_,h1,_=>by cases B <;> simp [au] at h1
 | .cp _,B,_,h1,_=>by cases B <;> simp [au] at h1
 | .gK,B,_,h1,_=>by cases B <;> simp [au] at h1
 | .fn _ _,B,_,h1,_=>by cases B <;> simp [au] at h1
 | .aH,B,_,h1,_=>by cases B <;> simp [au] at h1
 | .mp _,B,_,h1,_=>by cases B <;> simp [au] at h1
 | .gs _ _,B,_,h1,_=>by cases B <;> simp [au] at h1
 | .bm _ _,B,_,h1,_=>by cases B <;> simp [au] at h1
 | .iT,B,_,h1,_=>by cases B <;> simp [au] at h1
 | .und,B,_,h1,_=>by cases B <;> simp [au] at h1
theorem xH : ∀ (l m r : List AV),bW l m = true -> bW l r = true -> bW m r = true
 | [],[],[],_,_=>rfl
 | [],[],_ :: _,_,h=>by simp [bW] at h
 | [],_ :: _,_,h,_=>by simp [bW] at h
 | _ :: _,[],_,h,_=>by simp [bW] at h
 | _ :: _,_ :: _,[],_,h=>by simp [bW] at h
 | x :: l,y :: m,z :: r,h1,h2=>by
   simp only [bW,Bool.and_eq_true] at *
   exact ⟨y7 x y z h1.1 h2.1,xH l m r h1.2 h2.2⟩
end

mutual
theorem Cb : ∀ (A B C : AV),au A B = true -> au B C = true -> au A C = true
 | .int a _,B,C,h1,h2=>by
   cases B <;> first | (simp [au] at h1; done) | skip
   cases C <;> first | (simp [au] at h2; done) | skip
   simp only [au] at *
   obtain rfl:=gQ h1
   exact h2
 | .str _,B,C,h1,h2=>by
   cases B <;> first | (simp [au] at h1; done) | skip
   cases C <;> first | (simp [au] at h2; done) | skip
   rfl
 | .ag l,B,C,h1,h2=>by
   cases B <;> first | (simp [au] at h1; done) | skip
   cases C <;> first | (simp [au] at h2; done) | skip
   simp only [au] at *
   exact y8 l _ _ h1 h2
 | .bool _,B,_,h1,_=>by cases B <;> simp [au] at h1
 | .tt,B,_,h1,_=>by cases B <;> simp [au] at h1
 | .ff,B,_,h1,_=>by cases B <;> simp [au] at h1
 | .dec _,B,_,h1,_=>by cases B <;> simp [au] at h1
 | .eP,B,_,h1,_=>by cases B <;> simp [au] at h1
 | .jm _ _,B,_,h1,_=>by cases B <;> simp [au] at h1
 | .aG,B,_,h1,_=>by cases B <;> simp [au] at h1
 | .sl _ _ _,B,_,h1,_=>by cases B <;> simp [au] at h1
 | .ms _ _ _ _ _,B,_,h1,_=>by cases B <;> simp [au] at h1
 | .eG _,B,_,h1,_=>by cases B <;> simp [au] at h1
 | .ptr _ _ _,B,_,h1,_=>by cases B <;> simp [au] at h1
 | .cp _,B,_,h1,_=>by cases B <;> simp [au] at h1
 | .gK,B,_,h1,_=>by cases B <;> simp [au] at h1
 | .fn _ _,B,_,h1,_=>by cases B <;> simp [au] at h1
 | .aH,B,_,h1,_=>by cases B <;> simp [au] at h1
 | .mp _,B,_,h1,_=>by cases B <;> simp [au] at h1
 | .gs _ _,B,_,h1,_=>by cases B <;> simp [au] at h1
 | .bm _ _,B,_,h1,_=>by cases B <;> simp [au] at h1
 | .iT,B,_,h1,_=>by cases B <;> simp [au] at h1
 | .und,B,_,h1,_=>by cases B <;> simp [au] at h1
theorem y8 : ∀ (l m r : List AV),bW l m = true -> bW m r = true -> bW l r = true
 | [],[],[],_,_=>rfl
 | [],[],_ :: _,_,h=>by simp [bW] at h
 | [],_ :: _,_,h,_=>by simp [bW] at h
 | _ :: _,[],_,h,_=>by simp [bW] at h
 | _ :: _,_ :: _,[],_,h=>by simp [bW] at h
 | x :: l,y :: m,z :: r,h1,h2=>by
   simp only [bW,Bool.and_eq_true] at *
   exact ⟨Cb x y z h1.1 h2.1,y8 l m r h1.2 h2.2⟩
end

theorem JA {sh sh' : AV} (h : au sh' sh = true) : ∀ {es : List (AV × AV)},OG sh' es -> OG sh es
 | [],_=>trivial
 | (_,_) :: _,hk=>⟨y7 _ _ _ h hk.1,JA h hk.2⟩

theorem key_eq {c : Cx} {sh A B : AV} {v u : Value} (h1 : au sh A = true) (h2 : au sh B = true) (hA : VV c A v) (hB : VV c B u) : v = u ↔ Hw A = Hw B:=by
 have e1:=(yx sh A _ h1 hA.2).1
 have e2:=(yx sh B _ h2 hB.2).1
 have hag : dI A = dI B:=by
  cases sh <;> cases A <;> first | (simp [au] at h1; done) | skip
  all_goals (cases B <;> first | (simp [au] at h2; done) | rfl)
 constructor
 ·rintro rfl
  rw [<- e1,<- e2]
 ·intro h
  have hc : v.cells.toList = u.cells.toList:=by rw [e1,e2,h]
  cases hb : dI A with
  | true =>
    obtain ⟨cs,rfl⟩:=hA.1.1 hb
    obtain ⟨ds,rfl⟩:=hB.1.1 (hag ▸ hb)
    have : cs.toList = ds.toList:=hc
    rw [Array.toList_inj.1 this]
  | false =>
    have h3:=hA.1.2 hb
    have h4:=hB.1.2 (hag ▸ hb)
    rw [h3,h4] at hc
    simpa using hc

theorem DU {c : Cx} : ∀ {es : List (AV × AV)} {ents : List MapEntry} {j : Nat} {x : MapEntry},C9 c es ents -> ents[j]? = some x -> ∃ y,es[j]? = some y /\ VV c y.1 x.key /\ VV c y.2 x.val
 | [],ents,j,x,h,hj=>by obtain rfl:=h; simp at hj
 | (p,q) :: es,ents,0,x,h,hj=>by
   obtain ⟨e0,r,rfl,h1,h2,h3⟩:=h
   simp at hj; subst hj
   exact ⟨(p,q),rfl,h1,h2⟩
 | (p,q) :: es,ents,j + 1,x,h,hj=>by
   obtain ⟨e0,r,rfl,h1,h2,h3⟩:=h
   simpa using DU h3 (by simpa using hj)

theorem vY {c : Cx} : ∀ {es : List (AV × AV)} {ents : List MapEntry} {j : Nat} {y : AV × AV},C9 c es ents -> es[j]? = some y -> ∃ x,ents[j]? = some x /\ VV c y.1 x.key /\ VV c y.2 x.val
 | [],ents,j,x,h,hj=>by simp at hj
 | (p,q) :: es,ents,0,x,h,hj=>by
   obtain ⟨e0,r,rfl,h1,h2,h3⟩:=h
   simp at hj; subst hj
   exact ⟨e0,rfl,h1,h2⟩
 | (p,q) :: es,ents,j + 1,x,h,hj=>by
   obtain ⟨e0,r,rfl,h1,h2,h3⟩:=h
   simpa using vY h3 (by simpa using hj)

theorem qJ {sh : AV} : ∀ {es : List (AV × AV)},OG sh es -> ∀ x ∈ es,au sh x.1 = true
 | [],_,x,h=>by simp at h
 | (p,q) :: es,hk,x,h=>by
   rcases List.mem_cons.1 h with rfl | h
   ·exact hk.1
   ·exact qJ hk.2 x h

theorem GV {c : Cx} {K V : AV} {x : MapEntry} (hK : VV c K x.key) (hV : VV c V x.val) : ∀ {es : List (AV × AV)} {ents : List MapEntry},C9 c es ents -> C9 c (es ++ [(K,V)]) (ents ++ [x])
 | [],ents,h=>by obtain rfl:=h; exact ⟨x,[],rfl,hK,hV,rfl⟩
 | (p,q) :: es,ents,h=>by
   obtain ⟨e0,r,rfl,h1,h2,h3⟩:=h
   exact ⟨e0,r ++ [x],rfl,h1,h2,GV hK hV h3⟩

theorem SA {c : Cx} {K V : AV} {x : MapEntry} (hK : VV c K x.key) (hV : VV c V x.val) : ∀ {es : List (AV × AV)} {ents : List MapEntry} {j : Nat},C9 c es ents -> C9 c (es.set j (K,V)) (ents.set j x)
 | [],ents,j,h=>by obtain rfl:=h; show C9 c [] []; rfl
 | (p,q) :: es,ents,0,h=>by
   obtain ⟨e0,r,rfl,h1,h2,h3⟩:=h
   exact ⟨x,r,rfl,hK,hV,h3⟩
 | (p,q) :: es,ents,j + 1,h=>by
   obtain ⟨e0,r,rfl,h1,h2,h3⟩:=h
   exact ⟨e0,r.set j x,rfl,h1,h2,SA hK hV h3⟩

theorem Ho {sh K V : AV} (hK : au sh K = true) : ∀ {es : List (AV × AV)},OG sh es -> OG sh (es ++ [(K,V)])
 | [],_=>⟨hK,trivial⟩
 | (_,_) :: _,h=>⟨h.1,Ho hK h.2⟩

theorem SL {sh K V : AV} (hK : au sh K = true) : ∀ {es : List (AV × AV)} {j : Nat},OG sh es -> OG sh (es.set j (K,V))
 | [],_,_=>trivial
 | (_,_) :: _,0,h=>⟨hK,h.2⟩
 | (_,_) :: _,_ + 1,h=>⟨h.1,SL hK h.2⟩

theorem I4 {kt : Nat} {sh sh' : AV} {es : List (AV × AV)} {ents : Array MapEntry} (hko : SK P kt sh) (hss : au sh' sh = true) (hks : OG sh' es) (hvr : C9 c es ents.toList) :
  OG sh es /\ ∀ x ∈ ents.toList,∃ l,keyOf P kt x.key = some l:=by
 have hk:=JA hss hks
 refine ⟨hk,fun x hx=>?_⟩
 obtain ⟨j,hj⟩:=List.mem_iff_getElem?.1 hx
 obtain ⟨y,hy,hK,_⟩:=DU hvr hj
 have hs:=qJ hk y (List.mem_of_getElem? hy)
 exact hko.rd c.w c.Im y.1 x.key hs hK.1 (yx sh y.1 _ hs hK.2).2

theorem O9 (hL : dR P L) {t : Nat} (hr : HR c H) (ho : o.op = .makeMap t none)
  (h : L.bM t fun i=>(match i.key with | some sh=>oQ H (.dU sh []) fun j H'=>k (.mp j) H' | none=>False)) : dD P o a.eval c H k ks:=by
 obtain ⟨i,hT,h⟩:=Lay.bn hL h
 split at h
 ·rename_i sh _
  have h:=eF.1 h
  have htr : Tr c H (c.push (.map #[] 0) ((nextId H,.dU sh []) :: H)) ((nextId H,.dU sh []) :: H):=by
   refine Tr.push hr _ _ (fun _=>rfl) ⟨#[],0,?_,rfl,trivial,by simp,by simp⟩
   rw [uSρ hr]; simp only [Cx.push]; exact alloc_heap_new _ _
  refine .inl ⟨.map (some c.w.heap.size),_,_,_,?_,htr,bg (dY rfl rfl ?_),h⟩
  ·unfold execOp; rw [ho]
   simp only [Instr.makeMap,Sem.run_bind,run_newObj,Result.andThen_ok,Sem.run_pure,Option.map_none,World.alloc_eq]
   rfl
  ·simp only [VR]
   refine ⟨by simp only [Cx.push,hr.nx]; omega,?_⟩
   rw [uSρ hr]
 ·exact h.elim

theorem Py {kt : Nat} {sh sh' K : AV} {v : Value} {es : List (AV × AV)} {ents : Array MapEntry} {r : Option AV} (hko : SK P kt sh) (hss : au sh' sh = true) (hks : OG sh' es) (hvr : C9 c es ents.toList)
  (hdist : ents.toList.Pairwise fun a b=>a.key ≠ b.key) (Lr : au sh K = true) (hK : VV c K v) (hl : LookR es K r) :
  (r = none /\ (Instr.findKey kt v ents.toList).run P c.w = .ok none c.w) \/ ∃ V u j,r = some V /\ (Instr.findKey kt v ents.toList).run P c.w = .ok (some (j,u)) c.w /\ VV c V u:=by
 obtain ⟨hk,hkeys⟩:=I4 hko hss hks hvr
 obtain ⟨lk,hlk⟩:=hko.rd c.w c.Im K v Lr hK.1 (yx sh K _ Lr hK.2).2
 rcases hko.law.find c.w hlk ents.toList hkeys with ⟨h1,h2⟩ | ⟨j,x,h1,h2,h3⟩
 ·cases r with
  | none=>exact .inl ⟨rfl,h1⟩
  | some V =>
    exfalso
    obtain ⟨y,hy,he,_⟩:=hl
    obtain ⟨j,hj⟩:=List.mem_iff_getElem?.1 hy
    obtain ⟨x,hx,hyK,_⟩:=vY hvr hj
    exact h2 x (List.mem_of_getElem? hx) ((key_eq (qJ hk y hy) Lr hyK hK).2 he)
 ·obtain ⟨y,hy,hyK,hyV⟩:=DU hvr h2
  have hym:=List.mem_of_getElem? hy
  have hke : Hw y.1 = Hw K:=(key_eq (qJ hk y hym) Lr hyK hK).1 h3
  cases r with
  | none=>exact absurd hke (hl y hym)
  | some V =>
    obtain ⟨z,hz,he,rfl⟩:=hl
    obtain ⟨i,hi⟩:=List.mem_iff_getElem?.1 hz
    obtain ⟨x',hx',hzK,hzV⟩:=vY hvr hi
    have hkk : x'.key = v:=(key_eq (qJ hk z hz) Lr hzK hK).2 he
    have hij : i = j:=by
     apply Classical.byContradiction
     intro hne
     obtain ⟨hi1,hi2⟩:=List.getElem?_eq_some_iff.1 hx'
     obtain ⟨hj1,hj2⟩:=List.getElem?_eq_some_iff.1 h2
     rcases Nat.lt_or_gt_of_ne hne with hlt | hlt
     ·have:=List.pairwise_iff_getElem.1 hdist i j hi1 hj1 hlt
      rw [hi2,hj2,hkk,h3] at this; exact this rfl
     ·have:=List.pairwise_iff_getElem.1 hdist j i hj1 hi1 hlt
      rw [hi2,hj2,hkk,h3] at this; exact this rfl
    subst hij
    rw [h2] at hx'
    obtain rfl:=Option.some.inj hx'
    exact .inr ⟨_,_,_,rfl,h1,hzV⟩

theorem EV_mp {j : Nat} {v : Value} (h : EV c (.mp j) v) : j < c.nx /\ v = .map (some (c.ρ j)):=VV_mp h

theorem Eu {S A : AV} (h : au S A = true) : isVal A = true:=by
 cases S <;> cases A <;> first | (simp [au] at h; done) | rfl

theorem TJ (hL : dR P L) {t : Nat} {x ix : Operand} {ok : Bool} (hr : HR c H) (he : gJ c e a) (hx : bF x = true) (hix : bF ix = true) (ho : o.op = .lookup t x ix ok)
  (h : bV e x fun A=>bV e ix fun K=>L.bM t fun i=>(match i.desc,i.key with
  | .map _ et,some sh=>MP (au sh K) <| L.bM et fun ei=>(match A with
    | .mp j=>iJ H j fun o=>(match o with
      | .dU sh' es=>MP (au sh' sh) <| wz es K fun r=>uF ok ei.zero r fun R=>k R H
      | _=>False)
    | _=>False)
  | _,_=>False)) : dD P o a.eval c H k ks:=by
 obtain ⟨A,hA,h⟩:=aW he hx h
 obtain ⟨K,hK,h⟩:=aW he hix h
 obtain ⟨i,hT,h⟩:=Lay.bn hL h
 obtain ⟨d,hd,hdd⟩:=hT.under
 split at h
 ·rename_i kt et sh hdm hkey
  obtain rfl:=tJ (hdd.trans hdm)
  have hko:=hT.keyed kt et sh hdm hkey
  obtain ⟨Lr,h⟩:=wI.1 h
  obtain ⟨ei,hE,h⟩:=Lay.bn hL h
  have Xb:=nM hK (Eu Lr)
  split at h
  ·rename_i j
   obtain ⟨_,e1⟩:=EV_mp hA
   obtain ⟨ob,hob,h⟩:=dB.1 h
   have hok:=hr.sV hob
   split at h
   ·rename_i sh' es
    obtain ⟨hss,h⟩:=wI.1 h
    obtain ⟨r,hl,hk⟩:=h.ex
    obtain ⟨ents,clock,g1,g2,g3,g4,g5⟩:=hok
    obtain ⟨lk,hlk⟩:=hko.rd c.w c.Im K _ Lr Xb.1 (yx sh K _ Lr Xb.2).2
    obtain ⟨z,hz,hzs,hzr⟩:=hE.y9 c.w
    have hZ : VV c ei.zero z:=⟨hzs,iO _ _ (hzr _ _)⟩
    have run : ∀ {u : Value} {b : Bool},((∃ q,(Instr.findKey kt (a.eval ix) ents.toList).run P c.w = .ok (some (q,u)) c.w) /\ b = true \/ (Instr.findKey kt (a.eval ix) ents.toList).run P c.w = .ok none c.w /\ u = z /\ b = false) ->
      (execOp a.eval o).run P c.w = .ok (.value (if ok then .tuple #[u,.bool b] else u)) c.w:=by
     intro u b hc
     unfold execOp; rw [ho]
     simp only [Instr.lookup,Sem.run_bind,run_underlying hd,Result.andThen_ok,e1,Go.MapKept.run_getObj_map g1,Sem.run_pure,hko.law.check c.w _ hlk]
     rcases hc with ⟨⟨q,hq⟩,rfl⟩ | ⟨hq,rfl,rfl⟩
     ·simp only [hq,Result.andThen_ok,Sem.run_pure,Sem.run_bind]
     ·simp only [hq,Result.andThen_ok,Sem.run_pure,hz,Sem.run_bind]
    rcases Py hko hss g3 g2 g5 Lr Xb hl with ⟨rfl,h1⟩ | ⟨V,u,q,rfl,h1,hV⟩
    ·cases ok with
     | true=>exact .pure hr (run (.inr ⟨h1,rfl,rfl⟩)) (Aw hZ kJ) hk
     | false=>exact .pure hr (run (.inr ⟨h1,rfl,rfl⟩)) (bg hZ) hk
    ·cases ok with
     | true=>exact .pure hr (run (.inl ⟨⟨q,h1⟩,rfl⟩)) (Aw hV pK) hk
     | false=>exact .pure hr (run (.inl ⟨⟨q,h1⟩,rfl⟩)) (bg hV) hk
   ·exact h.elim
  ·exact h.elim
 ·exact h.elim

theorem run_setObj_map {r : Nat} {ents : Array MapEntry} {clock : Nat} {w : World} (h : w.heap[r]? = some (.map ents clock)) (o' : Obj) : (setObj r o').run P w = .ok () { w with heap:=w.heap.setIfInBounds r o' }:=by
 simp [setObj,Sem.run,h]

theorem NV {w : World} {b o : Nat} {ents : Array MapEntry} {clock : Nat} (h : w.heap[b]? = some (.map ents clock)) : w.cell? ⟨b,o,none⟩ = none:=by
 simp [World.cell?,h]

theorem Tr.writeMap {c : Cx} {H : Heap} {k : Nat} {sh : AV} {es es' : List (AV × AV)} {ents zS : Array MapEntry} {clock clock' : Nat} (hr : HR c H) (hk : hget H k = some (.dU sh es)) (hg : c.w.heap[c.ρ k]? = some (.map ents clock))
  (hok : c.Le { c with w:={ c.w with heap:=c.w.heap.setIfInBounds (c.ρ k) (.map zS clock') } } -> ({ c.w with heap:=c.w.heap.setIfInBounds (c.ρ k) (.map zS clock') } : World).heap[c.ρ k]? = some (.map zS clock') ->
   (HO.dU sh es').Ok { c with w:={ c.w with heap:=c.w.heap.setIfInBounds (c.ρ k) (.map zS clock') } } k) :
  Tr c H { c with w:={ c.w with heap:=c.w.heap.setIfInBounds (c.ρ k) (.map zS clock') } } (hset H k (.dU sh es')):=by
 have hother : ∀ b,b ≠ c.ρ k -> (c.w.heap.setIfInBounds (c.ρ k) (.map zS clock'))[b]? = c.w.heap[b]?:=fun b hb=>Array.getElem?_setIfInBounds_ne (fun e=>hb e.symm)
 have hlt:=(Array.getElem?_eq_some_iff.1 hg).1
 have hnew : ({ c.w with heap:=c.w.heap.setIfInBounds (c.ρ k) (.map zS clock') } : World).heap[c.ρ k]? = some (.map zS clock'):=by
  show (c.w.heap.setIfInBounds (c.ρ k) _)[c.ρ k]? = _
  rw [Array.getElem?_setIfInBounds_self_of_lt hlt]
 have le : c.Le { c with w:={ c.w with heap:=c.w.heap.setIfInBounds (c.ρ k) (.map zS clock') } }:=by
  refine ⟨fun b y h=>⟨h,?_⟩,Nat.le_refl _,fun _ _=>rfl,fun _ _ _ h=>.inl ⟨h,rfl⟩⟩
  by_cases hb : b = c.ρ k
  ·subst hb; rw [NV hg]; exact NV hnew
  ·exact jd (hother b hb)
 refine Tr.set hr hk le rfl ?_ (fun _ _=>rfl) rfl rfl rfl (by simp) (fun b hb' hn=>hother b ?_) (fun b x h=>.inl h) (fun b h=>.inr ?_) (hok le hnew)
 ·rw [jk hk (by intros; simp) (by intros; simp)]; exact hr.tp
 ·intro e; exact hn (by rw [e]; rfl)
 ·exact h

theorem zq (hL : dR P L) {t : Nat} {x ix y : Operand} (hr : HR c H) (he : gJ c e a) (hx : bF x = true) (hix : bF ix = true) (hy : bF y = true) (ho : o.op = .mapUpdate t x ix y)
  (h : bV e x fun A=>bV e ix fun K=>bV e y fun V=>Aj L t A K V H ks) : dD P o a.eval c H k ks:=by
 obtain ⟨A,hA,h⟩:=aW he hx h
 obtain ⟨K,hK,h⟩:=aW he hix h
 obtain ⟨V,hV,h⟩:=aW he hy h
 unfold Aj at h
 obtain ⟨i,hT,h⟩:=Lay.bn hL h
 obtain ⟨d,hd,hdd⟩:=hT.under
 split at h
 ·rename_i kt et sh hdm hkey
  obtain rfl:=tJ (hdd.trans hdm)
  have hko:=hT.keyed kt et sh hdm hkey
  obtain ⟨Lr,h⟩:=wI.1 h
  obtain ⟨hval,ei,hE,hf,hg,h⟩:=jw hL h
  have Xb:=nM hK (Eu Lr)
  have hVv:=nM hV hval
  obtain ⟨j,rfl⟩ : ∃ j,A = .mp j:=by cases A <;> first | exact h.elim | exact ⟨_,rfl⟩
  obtain ⟨_,e1⟩:=EV_mp hA
  obtain ⟨ob,hob,h⟩:=dB.1 h
  have hok:=hr.sV hob
  obtain ⟨sh',es,rfl⟩ : ∃ sh' es,ob = .dU sh' es:=by cases ob <;> first | exact h.elim | exact ⟨_,_,rfl⟩
  obtain ⟨hss,h⟩:=wI.1 h
  obtain ⟨es',hu,hk⟩:=h.ex
  obtain ⟨_,hk⟩:=iZ.1 hk
  obtain ⟨ents,clock,g1,g2,g3,g4,g5⟩:=hok
  obtain ⟨lk,hlk⟩:=hko.rd c.w c.Im K _ Lr Xb.1 (yx sh K _ Lr Xb.2).2
  have hsK' : au sh' K = true:=Cb _ _ _ hss Lr
  obtain ⟨hks,hkeys⟩:=I4 hko hss g3 g2
  have hchk':=hko.law.check c.w false hlk
  rcases hko.law.find c.w hlk ents.toList hkeys with ⟨h1,h2⟩ | ⟨q,x0,h1,h2,h3⟩
  ·have hrun : (execOp a.eval o).run P c.w = .ok .skip { c.w with heap:=c.w.heap.setIfInBounds (c.ρ j) (.map (ents.push { key:=a.eval ix,val:=a.eval y,born:=clock }) (clock + 1)) }:=by
    unfold execOp; rw [ho]
    simp only [Instr.mapUpdate,Sem.run_bind,run_underlying hd,Result.andThen_ok,e1,Go.MapKept.run_getObj_map g1,Sem.run_pure,hchk',h1,run_setObj_map g1]
   rcases hu with ⟨hu1,rfl⟩ | ⟨i,z,hu1,hu2,_⟩
   ·refine .inr (.inl ⟨_,_,hrun,Tr.writeMap hr hob g1 fun le hnew=>⟨_,_,hnew,?_,Ho hsK' g3,?_,?_⟩,hk⟩)
    ·rw [Array.toList_push]
     exact GV (oz le Xb) (oz le hVv) (Aq le g2)
    ·intro e he
     rw [Array.toList_push] at he
     rcases List.mem_append.1 he with he | he
     ·have:=g4 e he; omega
     ·simp at he; subst he; exact Nat.lt_succ_self _
    ·rw [Array.toList_push,List.pairwise_append]
     refine ⟨g5,by simp,fun e he f hf=>?_⟩
     simp at hf; subst hf
     exact h2 e he
   ·exfalso
    obtain ⟨x',hx',hzK,_⟩:=vY g2 hu1
    exact h2 x' (List.mem_of_getElem? hx') ((key_eq (qJ hks z (List.mem_of_getElem? hu1)) Lr hzK Xb).2 hu2)
  ·have hq : ents[q]? = some x0:=by simpa using h2
   have hrun : (execOp a.eval o).run P c.w = .ok .skip { c.w with heap:=c.w.heap.setIfInBounds (c.ρ j) (.map (ents.modify q fun e=>{ e with key:=a.eval ix,val:=a.eval y }) clock) }:=by
    unfold execOp; rw [ho]
    simp only [Instr.mapUpdate,Sem.run_bind,run_underlying hd,Result.andThen_ok,e1,Go.MapKept.run_getObj_map g1,Sem.run_pure,hchk',h1,hq,Option.map_some,Option.getD_some,h3,hko.law.stays c.w hlk,run_setObj_map g1]
   have hmod : (ents.modify q fun e=>{ e with key:=a.eval ix,val:=a.eval y }).toList = ents.toList.set q { x0 with key:=a.eval ix,val:=a.eval y }:=by
    apply List.ext_getElem?
    intro n
    rw [Array.getElem?_toList,Array.getElem?_modify,List.getElem?_set]
    by_cases hn : q = n
    ·subst hn
     have hlt:=(Array.getElem?_eq_some_iff.1 hq).1
     rw [if_pos rfl,if_pos rfl,if_pos (by simpa using hlt),hq]
     rfl
    ·simp [hn]
   rcases hu with ⟨hu1,rfl⟩ | ⟨i,z,hu1,hu2,rfl⟩
   ·exfalso
    obtain ⟨z,hz,hzK,_⟩:=DU g2 h2
    exact hu1 z (List.mem_of_getElem? hz) ((key_eq (qJ hks z (List.mem_of_getElem? hz)) Lr hzK Xb).1 h3)
   ·obtain ⟨x',hx',hzK,_⟩:=vY g2 hu1
    have hkk : x'.key = a.eval ix:=(key_eq (qJ hks z (List.mem_of_getElem? hu1)) Lr hzK Xb).2 hu2
    have hij : i = q:=by
     apply Classical.byContradiction
     intro hne
     obtain ⟨hi1,hi2⟩:=List.getElem?_eq_some_iff.1 hx'
     obtain ⟨hj1,hj2⟩:=List.getElem?_eq_some_iff.1 h2
     rcases Nat.lt_or_gt_of_ne hne with hlt | hlt
     ·have:=List.pairwise_iff_getElem.1 g5 i q hi1 hj1 hlt
      rw [hi2,hj2,hkk,h3] at this; exact this rfl
     ·have:=List.pairwise_iff_getElem.1 g5 q i hj1 hi1 hlt
      rw [hi2,hj2,hkk,h3] at this; exact this rfl
    subst hij
    refine .inr (.inl ⟨_,_,hrun,Tr.writeMap hr hob g1 fun le hnew=>⟨_,_,hnew,?_,SL hsK' g3,?_,?_⟩,hk⟩)
    ·rw [hmod]
     exact SA (oz le Xb) (oz le hVv) (Aq le g2)
    ·intro e he
     rw [hmod] at he
     rcases List.mem_or_eq_of_mem_set he with he | rfl
     ·exact g4 e he
     ·exact g4 x0 (List.mem_of_getElem? h2)
    ·rw [hmod]
     rw [List.pairwise_iff_getElem] at g5 ⊢
     intro m n hm hn hlt
     have hm' : m < ents.toList.length:=by simpa using hm
     have hn' : n < ents.toList.length:=by simpa using hn
     have hk0 : ∀ (r : Nat) (hr : r < (ents.toList.set i { x0 with key:=a.eval ix,val:=a.eval y }).length) (hr' : r < ents.toList.length),((ents.toList.set i { x0 with key:=a.eval ix,val:=a.eval y })[r]).key = (ents.toList[r]).key:=by
      intro r hr hr'
      rw [List.getElem_set]
      split
      ·rename_i hir
       subst hir
       have:=(List.getElem?_eq_some_iff.1 h2).2
       rw [this]; exact h3.symm
      ·rfl
     rw [hk0 m hm hm',hk0 n hn hn']
     exact g5 m n hm' hn' hlt
 ·exact h.elim

end
end Go.AL

namespace Go.AL

def Lp : Op -> Bool
 | .move x | .assign x | .load _ x | .nilCheck x | .unOp _ _ x | .convert _ _ x | .makeInterface _ x | .box _ x | .extract x _ | .fieldAddr _ x _ | .field _ x _=>bF x
 | .pick a b d=>bF a && bF b && bF d
 | .store _ x y | .binOp _ _ x y _ | .makeSlice _ x y | .indexAddr _ x y | .index _ x y | .lookup _ x y _=>bF x && bF y
 | .typeAssert x _ _ _=>bF x
 | .mapUpdate _ x y z | .insert _ x y z=>bF x && bF y && bF z
 | .build _ ps | .buildSlice _ _ ps=>ps.toList.all fun p=>bF p.2
 | .makeFunc _ first cap=>first.toList.all bF && cap.toList.all bF
 | .slice _ x lo hi _=>bF x && lo.all bF && hi.all bF
 | .call cl=>cl.args.toList.all bF && (match cl.callee with | .value f=>bF f | _=>true)
 | _=>true

section
variable {P : Program} {L : Lay} {c : Cx} {H : Heap} {e : Env} {a : Act} {k : AV -> Heap -> Prop} {ks : Heap -> Prop} {o : Oper} {F : Nat -> List AV -> Heap -> AV -> Heap -> Prop}

theorem Po (hL : dR P L) {b : Builtin} {cl : Call} (hr : HR c H) (he : gJ c e a) (hx : cl.args.toList.all bF = true) (ho : o.op = .call cl) (hc : cl.callee = .builtin b)
  (h : pG e cl.args.toList fun As=>gu L b cl.argTypes.toList As H k) : dD P o a.eval c H k ks:=by
 have hh:=l9 he hx h
 clear h
 obtain ⟨As,h1,h⟩:=hh
 unfold gu at h
 generalize hat : cl.argTypes.toList = ats at h
 split at h
 ·rename_i t r A
  obtain ⟨i,hT,h⟩:=Lay.bn hL h
  obtain ⟨v,hv,hA⟩:=DY h1
  exact Wp hr ho hc (by rw [<- Array.getElem?_toList,hat]; rfl) hT hv hA h
 ·rename_i t u r A B
  obtain ⟨v,x,hv,hA,hB⟩:=uw h1
  exact TL hL hr ho hc hat hv hA hB h
 ·obtain ⟨v,x,hv,hA,hB⟩:=uw h1
  exact Wn hr ho hc hv hA hB h
 ·obtain ⟨v,x,hv,hA,hB⟩:=uw h1
  exact Wj hr ho hc hv hA hB h
 ·exact h.elim

theorem qY (hL : dR P L) (hFn : ∀ f args H R H',F f args H R H' -> aA P f args H R H') (hr : HR c H) (he : gJ c e a) (hb : Lp o.op = true) (h : fZ F Ok L o.op e H k ks) : dD P o a.eval c H k ks:=by
 cases ho : o.op with
 | move x=>rw [ho] at h hb; exact Q8 hr he hb (.inl ho) h
 | assign x=>rw [ho] at h hb; exact Q8 hr he hb (.inr ho) h
 | pick x y z =>
   rw [ho] at h hb; simp only [Lp,Bool.and_eq_true] at hb
   exact Y5 hr he hb.1.1 hb.1.2 hb.2 ho h
 | alloc t=>rw [ho] at h hb; exact Wx hL hr ho h
 | box t x=>rw [ho] at h hb; exact op_box hL hr he hb ho h
 | build t ps =>
   rw [ho] at h hb
   exact Wv hL hr he (fun p hp=>List.all_eq_true.1 hb p hp) ho h
 | buildSlice t n ps =>
   rw [ho] at h hb
   exact H8 hL hr he (fun p hp=>List.all_eq_true.1 hb p hp) ho h
 | load t x=>rw [ho] at h hb; exact Y7 hL hr he hb ho h
 | store t x y =>
   rw [ho] at h hb; simp only [Lp,Bool.and_eq_true] at hb
   exact V9 hL hr he hb.1 hb.2 ho h
 | nilCheck x=>rw [ho] at h hb; exact ML hr he hb ho h
 | binOp op t x y ty =>
   rw [ho] at h hb; simp only [Lp,Bool.and_eq_true] at hb
   cases hn : nX (.binOp op t x y ty) with
   | true=>simp only [fZ,hn] at h; exact TG hL hr he hb.1 ho hn h
   | false=>simp only [fZ,hn] at h; exact op_bin hL hr he hb.1 hb.2 ho h
 | typeAssert x xt s ok=>rw [ho] at h hb; exact H6 hL hr he hb ho h
 | makeMap t r =>
   rw [ho] at h
   cases r with
   | none=>exact O9 hL hr ho h
   | some x=>exact h.elim
 | lookup t x y ok =>
   rw [ho] at h hb; simp only [Lp,Bool.and_eq_true] at hb
   exact TJ hL hr he hb.1 hb.2 ho h
 | mapUpdate t x y z =>
   rw [ho] at h hb; simp only [Lp,Bool.and_eq_true] at hb
   exact zq hL hr he hb.1.1 hb.1.2 hb.2 ho h
 | unOp op t x=>rw [ho] at h hb; exact Y4 hr he hb ho h
 | convert s d x=>rw [ho] at h hb; exact Pm hL hr he hb ho h
 | makeInterface t x=>rw [ho] at h hb; exact Bc hL hr he hb ho h
 | makeFunc f first cap=>rw [ho] at h hb; simp only [Lp,Bool.and_eq_true] at hb; exact MN hr he hb.2 ho h
 | makeSlice t x y =>
   rw [ho] at h hb; simp only [Lp,Bool.and_eq_true] at hb
   exact JR hL hr he hb.1 hb.2 ho h
 | slice t x lo hi mx =>
   rw [ho] at h hb; simp only [Lp,Bool.and_eq_true] at hb
   cases mx with
   | none=>exact Wh hL hr he hb.1.1 hb.1.2 hb.2 ho h
   | some y=>exact h.elim
 | fieldAddr t x f=>rw [ho] at h hb; exact JV hL hr he hb ho h
 | indexAddr t x y =>
   rw [ho] at h hb; simp only [Lp,Bool.and_eq_true] at hb
   exact JU hL hr he hb.1 hb.2 ho h
 | index t x y =>
   rw [ho] at h hb; simp only [Lp,Bool.and_eq_true] at hb
   exact Wq hL hr he hb.1 hb.2 ho h
 | extract x i=>rw [ho] at h hb; exact Pj hr he hb ho h
 | call cl =>
   rw [ho] at h hb; simp only [Lp,Bool.and_eq_true] at hb
   cases hc : cl.callee with
   | value f =>
     simp only [fZ,hc] at h hb
     exact H7 hFn hr he hb.2 hb.1 ho hc h
   | builtin b =>
     simp only [fZ,hc] at h
     exact Po hL hr he hb.1 ho hc h
   | invoke r m=>simp only [fZ,hc] at h
 | _=>rw [ho] at h; exact h.elim

theorem SB : ∀ {l : List (AV × AV)} {es : List MapEntry},C9 c l es -> es.length = l.length
 | [],_,h=>by simp only [C9] at h; subst h; rfl
 | (x,y) :: l,es,h=>by
   obtain ⟨e,r,rfl,_,_,h4⟩:=h
   simp [SB h4]

theorem MO (hL : dR P L) {b : Builtin} {cl : Call} (hr : HR c H) (he : gJ c e a) (hx : cl.args.toList.all bF = true) (ho : o.op = .call cl) (hc : cl.callee = .builtin b)
  (h : pG e cl.args.toList fun As=>BN L b cl.argTypes.toList As H k) : dD P o a.eval c H k ks:=by
 have hh:=l9 he hx h
 clear h
 obtain ⟨As,h1,h⟩:=hh
 unfold BN at h
 generalize hat : cl.argTypes.toList = ats at h
 split at h
 ·rename_i t r A
  have hh:=Lay.bn hL h
  clear h
  obtain ⟨i,hT,h⟩:=hh
  obtain ⟨v,hv,hA⟩:=DY h1
  split at h
  ·rename_i p q j hd
   obtain ⟨ob,hob,h⟩:=dB.1 h
   split at h
   ·rename_i sh es
    obtain ⟨d,hu,hdd⟩:=hT.under
    obtain rfl:=tJ (hdd.trans hd)
    obtain ⟨hj,rfl⟩:=VV_mp hA
    obtain ⟨ents,clock,g1,g2,g3,g4⟩:=hr.sV hob
    have hlen : ents.size = es.length:=by rw [<- Array.length_toList]; exact SB g2
    refine .pure hr (v:=.int .i64 es.length) ?_ (bg (dM (wO h.1))) h.2
    rw [jJ ho hc,jM hv]
    simp only [builtin,Builtin.len_,hat,<- Array.getElem?_toList,List.getElem?_cons_zero,Sem.run_bind,run_underlying hu,Result.andThen_ok,Go.MapKept.run_getObj_map g1,Sem.run_pure,goInt,hlen]
   ·exact h.elim
  ·exact Wp hr ho hc (by rw [<- Array.getElem?_toList,hat]; rfl) hT hv hA h
 ·rename_i t u r A B
  obtain ⟨v,x,hv,hA,hB⟩:=uw h1
  exact Pq hL hr ho hc hat hv hA hB h
 ·obtain ⟨v,x,hv,hA,hB⟩:=uw h1
  exact Wn hr ho hc hv hA hB h
 ·obtain ⟨v,x,hv,hA,hB⟩:=uw h1
  exact Wj hr ho hc hv hA hB h
 ·rename_i A B C
  obtain ⟨v,r,hv,hA,h1⟩:=h1
  obtain ⟨u,x,rfl,hB,hC⟩:=uw h1
  exact Y6 hr ho hc hv hA hB hC h
 ·exact h.elim

theorem Pn {F : Nat -> List AV -> Heap -> AV -> Heap -> Prop} (hFn : ∀ f args H R H',F f args H R H' -> aA P f args H R H') {f : Operand} {cl : Call} {g j : Nat} {As : List AV} (hr : HR c H) (ho : o.op = .call cl) (hc : cl.callee = .value f)
  (hA : EV c (.bm g j) (a.eval f)) (h2 : Az c As (cl.args.toList.map a.eval)) (h3 : JB F Ok g (.ptr j [] 0 :: As) H k) : dD P o a.eval c H k ks:=by
 obtain ⟨hj,e1⟩:=VV_bm hA
 have hp : EV c (.ptr j [] 0) (.pointer (some ⟨c.ρ j,0,none⟩)):=bg (dY rfl rfl (by simp only [VR]; exact ⟨hj,trivial⟩))
 have h1 : Az c (.ptr j [] 0 :: As) (.pointer (some ⟨c.ρ j,0,none⟩) :: cl.args.toList.map a.eval):=⟨_,_,rfl,hp,h2⟩
 have key : ∃ R H',(∃ fn,P.funcs[g]? = some fn /\ (fn.name == "runtime.NumGoroutine") = false /\ fn.body.isSome = true) /\
   (Calls P g (.pointer (some ⟨c.ρ j,0,none⟩) :: cl.args.toList.map a.eval).toArray c.w fun e w'=>∃ v d,e = .returned v /\ d.w = w' /\ Tr c H d H' /\ EV d R v) /\ k R H':=by
  have fin : ∀ {R H'},(Calls P g (.pointer (some ⟨c.ρ j,0,none⟩) :: cl.args.toList.map a.eval).toArray c.w fun e w'=>∃ v d,e = .returned v /\ d.w = w' /\ Tr c H d H' /\ EV d R v) -> Ok R:=by
   intro R H' hcall
   obtain ⟨e',w',fr,⟨v,d,_,_,_,h8⟩,_⟩:=hcall []
   exact SS h8
  cases h3 with
  | gen R H' hF hk =>
    have hF:=hFn _ _ _ _ _ hF
    have hcall:=hF.2 c _ hr h1
    exact ⟨R,H',hF.1,hcall,hk (fin hcall)⟩
  | pure Bs R hle hb hF hk =>
    have hF:=hFn _ _ _ _ _ hF
    have hcall:=aA.pure hF hb.1 hb.2 hr (wP hle h1)
    exact ⟨R,H,hF.1,hcall,hk (fin hcall)⟩
 obtain ⟨R,H',⟨fn,f1,f2,f3⟩,hcall,hk⟩:=key
 refine .inr (.inr ⟨g,_,R,H',?_,hcall,hk⟩)
 unfold execOp; rw [ho]
 simp only [resolve,hc,e1,Deferred.ofValue,Sem.run_bind,Sem.run_pure,Result.andThen_ok,invoke,callFunc,run_program,f1,f2,Bool.false_eq_true,if_false]
 have : fn.body.isNone = false:=by cases hb : fn.body <;> simp [hb] at f3 ⊢
 simp only [this,Bool.false_eq_true,if_false,Sem.run_pure]
 congr 2
 simp

theorem TK {t : Nat} {x ix y : Operand} (ho : o.op = .insert t x ix y) (h : dD P { o with op:=.mapUpdate t x ix y } a.eval c H k ks) : dD P o a.eval c H k ks:=by
 have e : execOp a.eval { o with op:=.mapUpdate t x ix y } = execOp a.eval o:=by
  unfold execOp; rw [ho]
 unfold dD at h ⊢
 rw [e] at h
 exact h

theorem Wu (hL : dR P L) {t f : Nat} {x : Operand} {A : AV} (hr : HR c H) (ho : o.op = .field t x f) (hA : EV c A (a.eval x))
  (h : KX L t A f fun R=>k R H) : dD P o a.eval c H k ks:=by
 unfold KX at h
 obtain ⟨i,hT,h⟩:=Lay.bn hL h
 split at h
 ·rename_i fs zs l hd hz _
  obtain ⟨z,hf,h⟩:=jl.1 h
  obtain ⟨gs,fd,h1,h2,h3,h4⟩:=hT.field ⟨_,hd⟩ hz hf
  obtain ⟨g,hg,h⟩:=jl.1 h
  obtain ⟨j,hJ,h⟩:=Lay.bn hL h
  split at h
  ·rename_i hj
   obtain ⟨hfl,h⟩:=bI.1 h
   obtain ⟨y,hy,h⟩:=jl.1 h
   split at h
   ·rename_i hny
    obtain ⟨d,d1,d2⟩:=hT.under
    obtain ⟨gs',rfl,hfs⟩:=qP (d2.trans hd)
    rw [h1] at d1
    have d1:=Option.some.inj d1
    have hgs : gs' = gs:=by injection d1 with d1; exact d1.symm
    subst hgs
    have e1 : g.2.2 = fd.type:=by
     rw [hfs,List.getElem?_map,Array.getElem?_toList,h2] at hg
     have:=Option.some.inj hg
     rw [<- this]
    rw [e1] at hJ
    have hA : VV c (.ag l) (a.eval x):=hA
    obtain ⟨cs,hcs⟩:=hA.1.1 rfl
    have hV:=hA.2
    rw [hcs] at hV
    simp only [VR] at hV
    obtain ⟨pre,xs,post,e2,e3,e4,_⟩:=rU hV hy
    obtain ⟨u,rfl,_⟩:=nD e4 hny
    have hu : cs[fd.offset]? = some u:=by
     have e2 : cs.toList = pre ++ [u] ++ post:=e2
     rw [<- Array.getElem?_toList,e2,h3,<- hfl,<- e3,List.append_assoc,List.getElem?_append_right (Nat.le_refl _),Nat.sub_self]; rfl
    refine .pure hr (v:=u) ?_ (bg (Am e4 hny)) h
    unfold execOp; rw [ho]
    simp only [Instr.field,hcs,Sem.run_bind,run_underlying h1,Result.andThen_ok,h2,asAgg,part,hJ.IK,hj,Sem.run_pure,Bool.false_eq_true,if_false,hu]
   ·exact h.elim
  ·exact h.elim
 ·exact h.elim

theorem TF (hL : dR P L) (hFn : ∀ f args H R H',F f args H R H' -> aA P f args H R H') (hr : HR c H) (he : gJ c e a) (hb : Lp o.op = true) (h : yJ F Ok L o.op e H k ks) : dD P o a.eval c H k ks:=by
 unfold yJ at h
 split at h
 ·rename_i cl hop
  split at h
  ·rename_i b hc
   rw [hop] at hb; simp only [Lp,Bool.and_eq_true] at hb
   exact MO hL hr he hb.1 hop hc h
  ·rename_i f hc
   have hb':=hb
   rw [hop] at hb'; simp only [Lp,hc,Bool.and_eq_true] at hb'
   obtain ⟨A,hA,h⟩:=aW he hb'.2 h
   split at h
   ·rename_i g j
    obtain ⟨As,h1,h⟩:=l9 he hb'.1 h
    exact Pn hFn hr hop hc hA h1 h
   ·exact qY hL hFn hr he hb (by rw [hop]; exact h)
  ·exact qY hL hFn hr he hb (by rw [hop]; exact h)
 ·rename_i f first cap hop
  split at h
  ·rename_i x hf
   have hb':=hb
   rw [hop] at hb'; simp only [Lp,hf,Bool.and_eq_true] at hb'
   split at h
   ·rename_i g hcap
    obtain ⟨A,hA,h⟩:=aW he (by simpa using hb'.1) h
    split at h
    ·rename_i j
     obtain ⟨hj,e1⟩:=yP hA
     obtain rfl : first = #[x]:=by cases first; simp at hf; subst hf; rfl
     obtain rfl : cap = #[]:=by cases cap; simp at hcap; subst hcap; rfl
     refine .pure hr (v:=.func (.func g) #[.pointer (some ⟨c.ρ j,0,none⟩)] #[]) ?_ (bg (dY rfl rfl ?_)) h
     ·unfold execOp; rw [hop]
      simp [Instr.makeFunc,e1]
     ·simp only [VR]; exact ⟨hj,trivial⟩
    ·exact h.elim
   ·exact h.elim
  ·exact qY hL hFn hr he hb (by rw [hop]; exact h)
 ·rename_i t x ix y hop
  rw [hop] at hb; simp only [Lp,Bool.and_eq_true] at hb
  have:=zq (o:={ o with op:=.mapUpdate t x ix y }) (P:=P) (k:=k) (ks:=ks) hL hr he hb.1.1 hb.1.2 hb.2 rfl h
  exact TK hop this
 ·rename_i t x f hop
  rw [hop] at hb
  obtain ⟨A,hA,h⟩:=aW he hb h
  exact Wu hL hr hop hA h
 ·exact qY hL hFn hr he hb h

theorem getD_set_ne {xs : Array Value} {i j : Nat} {v d : Value} (h : i ≠ j) : (xs.setIfInBounds i v).getD j d = xs.getD j d:=by
 rw [Array.getD_eq_getD_getElem?,Array.getD_eq_getD_getElem?,Array.getElem?_setIfInBounds_ne h]

theorem CJ {xs : Array Value} {i : Nat} {v d : Value} (h : i < xs.size) : (xs.setIfInBounds i v).getD i d = v:=by
 rw [Array.getD_eq_getD_getElem?,Array.getElem?_setIfInBounds_self_of_lt h]; rfl

structure rY (n : Nat) (c : Cx) (e : Env) (a : Act) : Prop where
 env : gJ c e a
 defers : a.defers = []
 size : a.tmps.size = n

theorem rY.put {n : Nat} {e : Env} {d : Nat} {A : AV} {v : Value} (h : rY n c e a) (hd : d < n) (hv : EV c A v) : rY n c ((d,A) :: e) (a.put (some d) v):=by
 refine ⟨fun t B hB=>?_,h.defers,by simp [Act.put,h.size]⟩
 simp only [dP] at hB
 simp only [Act.put]
 cases hb : Nat.beq d t with
 | true =>
   rw [hb] at hB
   obtain rfl:=Nat.eq_of_beq_eq_true hb
   obtain rfl:=Option.some.inj hB
   rw [CJ (by rw [h.size]; exact hd)]; exact hv
 | false =>
   rw [hb] at hB
   rw [getD_set_ne (gU hb)]; exact h.env _ _ hB

theorem rY.mono {n : Nat} {d : Cx} (h : rY n c e a) (le : c.Le d) : rY n d e a:=⟨fun t A hA=>mG le (h.env t A hA),h.defers,h.size⟩

def Fr (ws : List Nat) (a a' : Act) : Prop:=∀ t,t ∉ ws -> a'.tmps.getD t undef = a.tmps.getD t undef

theorem Fr.refl (ws : List Nat) (a : Act) : Fr ws a a:=fun _ _=>rfl
theorem Fr.trans {ws ws' : List Nat} {a b d : Act} (h : Fr ws a b) (g : Fr ws' b d) : Fr (ws ++ ws') a d:=by
 intro t ht
 simp only [List.mem_append,not_or] at ht
 rw [g t ht.2,h t ht.1]
theorem Fr.mono {ws ws' : List Nat} {a b : Act} (h : Fr ws a b) (hs : ∀ t ∈ ws,t ∈ ws') : Fr ws' a b:=fun t ht=>h t (fun h'=>ht (hs t h'))

theorem Fr.put {d : Nat} {v : Value} : Fr [d] a (a.put (some d) v):=by
 intro t ht
 simp at ht
 simp only [Act.put]
 exact getD_set_ne (fun e=>ht e.symm)

def uV (n : Nat) (o : Oper) : Bool:=Lp o.op && (match o.dst with | some d=>Nat.blt d n | none=>true)

theorem Ef {b : Bool} : undef ≠ .bool b:=by simp [undef]

theorem Vx {d : Nat} {b : Bool} (h : a.tmps.getD d undef = .bool b) : a.tmps[d]? = some (.bool b):=by
 rw [Array.getD_eq_getD_getElem?] at h
 cases hx : a.tmps[d]? with
 | none=>rw [hx] at h; exact absurd h Ef
 | some v=>rw [hx] at h; simp at h; rw [h]

theorem FH {k : Nat -> Prop} : ∀ {l : List Oper} {j : Nat},ZB l j k -> ∃ o d,l[j]? = some o /\ o.dst = some d /\ k d
 | [],_,h=>h.elim
 | o :: l,0,h=>by
   simp only [ZB] at h
   cases hd : o.dst with
   | none=>simp [hd] at h
   | some d=>simp only [hd] at h; exact ⟨o,d,rfl,hd,h⟩
 | o :: l,j + 1,h=>by simpa using FH (l:=l) h

theorem BQ {ops : Array Oper} {j d : Nat} {b x : Bool} {oj : Oper} (hg : o.guard = some (j,b)) (hj : ops[j]? = some oj) (hd : oj.dst = some d) (hv : a.tmps.getD d undef = .bool x) :
  Region.wanted o (yielded ops a.tmps) = (x == b):=by
 unfold Region.wanted yielded
 simp [hg,hj,hd,Vx hv]

theorem BR {ops : Array Oper} (hg : o.guard = none) : Region.wanted o (yielded ops a.tmps) = true:=by
 unfold Region.wanted; rw [hg]

theorem yS {ops : Array Oper} {j d : Nat} {b : Bool} {oj : Oper} (hg : o.guard = some (j,b)) (hj : ops[j]? = some oj) (hd : oj.dst = some d) (hv : a.tmps.getD d undef = undef) :
  Region.wanted o (yielded ops a.tmps) = false:=by
 unfold Region.wanted yielded
 rw [Array.getD_eq_getD_getElem?] at hv
 cases hx : a.tmps[d]? with
 | none=>simp [hg,hj,hd,hx]
 | some v =>
   rw [hx] at hv
   simp only [Option.getD_some] at hv
   subst hv
   simp [hg,hj,hd,hx,undef]

theorem SN {c : Cx} {v : Value} (h : EV c (.eG []) v) : v = undef:=by
 obtain ⟨vs,rfl,h2⟩:=h
 simp only [VA] at h2
 have : vs = #[]:=by cases vs; simp_all
 subst this; rfl

theorem JI {c : Cx} : EV c (.eG []) undef:=⟨#[],rfl,by simp only [VA]⟩

theorem zJ {n : Nat} {ops : Array Oper} {yes no : Env -> Prop} (ha : rY n c e a) (h : jo ops.toList o.guard e yes no) :
  ∃ e',rY n c e' a /\ ((Region.wanted o (yielded ops a.tmps) = true /\ yes e') \/ (Region.wanted o (yielded ops a.tmps) = false /\ no e')):=by
 cases hg : o.guard with
 | none=>rw [hg] at h; exact ⟨e,ha,.inl ⟨BR hg,h⟩⟩
 | some g =>
   obtain ⟨j,b⟩:=g
   rw [hg] at h
   obtain ⟨oj,d,h1,h2,h3⟩:=FH h
   obtain ⟨A,h4,h5⟩:=gW.1 h3
   have hA:=ha.env d A h4
   have h1' : ops[j]? = some oj:=by rw [<- Array.getElem?_toList]; exact h1
   have Vd : ∀ x,a.tmps.getD d undef = .bool x -> Region.wanted o (yielded ops a.tmps) = (x == b):=fun x hx=>BQ hg h1' h2 hx
   have ext : ∀ (A' : AV),EV c A' (a.tmps.getD d undef) -> rY n c ((d,A') :: e) a:=by
    intro A' hA'
    refine ⟨fun t B hB=>?_,ha.defers,ha.size⟩
    simp only [dP] at hB
    cases hb : Nat.beq d t with
    | true =>
      rw [hb] at hB
      obtain rfl:=Nat.eq_of_beq_eq_true hb
      obtain rfl:=Option.some.inj hB
      exact hA'
    | false=>rw [hb] at hB; exact ha.env _ _ hB
   have tt : ∀ {v : Value},v = .bool true -> EV c .tt v:=by rintro v rfl; exact bg (dY rfl rfl (by simp only [VR,Rd]))
   have ff : ∀ {v : Value},v = .bool false -> EV c .ff v:=by rintro v rfl; exact bg (dY rfl rfl (by simp only [VR,Rd]))
   split at h5
   ·exact ⟨e,ha,.inl ⟨by rw [Vd true (vV hA)]; rfl,h5⟩⟩
   ·exact ⟨e,ha,.inr ⟨by rw [Vd true (vV hA)]; rfl,h5⟩⟩
   ·exact ⟨e,ha,.inr ⟨by rw [Vd false (vW hA)]; rfl,h5⟩⟩
   ·exact ⟨e,ha,.inl ⟨by rw [Vd false (vW hA)]; rfl,h5⟩⟩
   ·rename_i x
    have hx:=gX hA
    cases x with
    | true=>exact ⟨_,ext .tt (tt hx),.inl ⟨by rw [Vd true hx]; rfl,h5.1 rfl⟩⟩
    | false=>exact ⟨_,ext .ff (ff hx),.inr ⟨by rw [Vd false hx]; rfl,h5.2 rfl⟩⟩
   ·rename_i x
    have hx:=gX hA
    cases x with
    | true=>exact ⟨_,ext .tt (tt hx),.inr ⟨by rw [Vd true hx]; rfl,h5.1 rfl⟩⟩
    | false=>exact ⟨_,ext .ff (ff hx),.inl ⟨by rw [Vd false hx]; rfl,h5.2 rfl⟩⟩
   ·rename_i p
    obtain ⟨x,hx,hp⟩:=kV hA
    cases x with
    | true=>exact ⟨_,ext .tt (tt hx),.inl ⟨by rw [Vd true hx]; rfl,h5.1 (hp.1 rfl)⟩⟩
    | false=>exact ⟨_,ext .ff (ff hx),.inr ⟨by rw [Vd false hx]; rfl,h5.2 (fun h=>by have:=hp.2 h; cases this)⟩⟩
   ·rename_i p
    obtain ⟨x,hx,hp⟩:=kV hA
    cases x with
    | true=>exact ⟨_,ext .tt (tt hx),.inr ⟨by rw [Vd true hx]; rfl,h5.1 (hp.1 rfl)⟩⟩
    | false=>exact ⟨_,ext .ff (ff hx),.inl ⟨by rw [Vd false hx]; rfl,h5.2 (fun h=>by have:=hp.2 h; cases this)⟩⟩
   ·exact ⟨e,ha,.inr ⟨yS hg h1' h2 (SN hA),h5⟩⟩
   ·exact h5.elim

theorem Gx (hL : dR P L) (hFn : ∀ f args H R H',F f args H R H' -> aA P f args H R H') {n : Nat} {ops : Array Oper} {Q : Exit -> Act -> World -> Prop} {k : Env -> Heap -> Prop} :
  ∀ {l : List Oper} {e : Env} {H : Heap} {c : Cx} {a : Act},l.all (uV n) = true -> HR c H -> rY n c e a -> tX F Ok L ops.toList l e H k ->
    (∀ e' H' c' a',k e' H' -> Tr c H c' H' -> rY n c' e' a' -> Fr (eX l) a a' -> Q .normal a' c'.w) -> wpList P ops Q l a c.w
 | [],e,H,c,a,_,hr,ha,h,hq=>hq e H c a h (.refl hr) ha (Fr.refl _ _)
 | o :: l,e,H,c,a,hl,hr,ha,h,hq=>by
   simp only [List.all_cons,Bool.and_eq_true,uV] at hl
   obtain ⟨⟨hb,hdst⟩,hl⟩:=hl
   have ih:=@Gx hL hFn n ops Q k l
   have hlt : ∀ d,o.dst = some d -> d < n:=fun d hd=>by rw [hd] at hdst; exact Nat.le_of_ble_eq_true hdst
   have cont : ∀ (v : Value) (A : AV) (c' : Cx) (H' : Heap) (e1 : Env),Tr c H c' H' -> rY n c' e1 a -> EV c' A v -> kQ o.dst A e1 (fun e'=>tX F Ok L ops.toList l e' H' k) -> wpList P ops Q l (a.put o.dst v) c'.w:=by
    intro v A c' H' e1 htr ha' hv hk
    cases hd : o.dst with
    | none =>
      rw [hd] at hk
      refine ih hl htr.hr ha' hk fun e' QF c'' a' g1 g2 g3 g4=>hq e' QF c'' a' g1 (htr.trans g2) g3 ?_
      simp only [eX,hd]
      exact g4
    | some d =>
      rw [hd] at hk
      refine ih hl htr.hr (ha'.put (hlt d hd) hv) hk fun e' QF c'' a' g1 g2 g3 g4=>hq e' QF c'' a' g1 (htr.trans g2) g3 ?_
      simp only [eX,hd]
      exact Fr.trans (ws:=[d]) Fr.put g4
   simp only [tX] at h
   obtain ⟨e1,ha1,hcase⟩:=zJ ha h
   simp only [wpList]
   rcases hcase with ⟨hw,h1⟩ | ⟨hw,h1⟩
   ·rw [if_pos hw]
    refine .inl ?_
    have hop:=TF hL hFn hr ha1.env hb h1
    unfold Oper.wp
    rcases hop with ⟨v,d,A,H',g1,g2,g3,g4⟩ | ⟨d,H',g1,g2,g3⟩ | ⟨f,args,R,H',g1,g2,g3⟩
    ·rw [g1,Oper.upon_value]
     exact cont v A d H' e1 g2 (ha1.mono g2.le) g3 g4
    ·rw [g1,Oper.upon_skip]
     cases hd : o.dst with
     | none=>rw [hd] at g3; exact hd ▸ cont undef .und d H' e1 g2 (ha1.mono g2.le) trivial (by rw [hd]; exact g3)
     | some d'=>rw [hd] at g3; exact g3.elim
    ·rw [g1,Oper.upon_enter]
     refine Calls.mono g2 ?_
     rintro _ w' ⟨v,d,rfl,rfl,g4,g5⟩
     exact cont v R d H' e1 g4 (ha1.mono g4.le) g5 g3
   ·rw [hw]
    simp only [Bool.false_eq_true,if_false]
    exact cont undef (.eG []) c H e1 (.refl hr) ha1 JI h1

end
end Go.AL
