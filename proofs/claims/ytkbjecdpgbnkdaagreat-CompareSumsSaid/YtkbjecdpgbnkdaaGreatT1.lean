/-
  A logic for calls of Go functions: each operation is sound. Nothing is assumed.
-/
import Derived.Test.YtkbjecdpgbnkdaaGreatT0
import Derived.Laws.Strings
import Derived.Laws.StructEq
import Derived.Great.BuildSlice
import Derived.Tactics

namespace Go.AL

def FnH (P : Program) (f : Nat) (args : List AV) (H : Heap) (R : AV) (H' : Heap) : Prop :=
 (∃ fn,P.funcs[f]? = some fn ∧ (fn.name == "runtime.NumGoroutine") = false ∧ fn.body.isSome = true) ∧
 ∀ (c : Cx) (vs : List Value),HR c H → EVL c args vs → Calls P f vs.toArray c.w fun e w'=>∃ v d,e = .returned v ∧ d.w = w' ∧ Tr c H d H' ∧ EV d R v

def OpRes (P : Program) (o : Oper) (ρ : Operand → Value) (c : Cx) (H : Heap) (k : AV → Heap → Prop) (ks : Heap → Prop) : Prop :=
 (∃ v d A H',(execOp ρ o).run P c.w = .ok (.value v) d.w ∧ Tr c H d H' ∧ EV d A v ∧ k A H') ∨
 (∃ d H',(execOp ρ o).run P c.w = .ok .skip d.w ∧ Tr c H d H' ∧ ks H') ∨
 (∃ f args R H',(execOp ρ o).run P c.w = .ok (.enter f args) c.w ∧
  (Calls P f args c.w fun e w'=>∃ v d,e = .returned v ∧ d.w = w' ∧ Tr c H d H' ∧ EV d R v) ∧ k R H')

section
variable {P : Program} {L : Lay} {c : Cx} {H : Heap} {e : Env} {a : Act} {k : AV → Heap → Prop} {ks : Heap → Prop} {o : Oper}

theorem OpRes.pure (hr : HR c H) {v : Value} {A : AV} (hrun : (execOp a.eval o).run P c.w = .ok (.value v) c.w) (hv : EV c A v) (hk : k A H) : OpRes P o a.eval c H k ks :=
 .inl ⟨v,c,A,H,hrun,.refl hr,hv,hk⟩

theorem EV_int {kd : IntKind} {n : Int} {v : Value} (h : EV c (.int kd n) v) : v = .int kd n ∧ InR kd n:=VV_int h
theorem EV_str {s : List UInt8} {v : Value} (h : EV c (.str s) v) : v = .string ⟨s.toArray⟩ ∧ s.length ≤ maxL:=VV_str h

theorem toList_str (s : List UInt8) : ByteArray.toList ⟨s.toArray⟩ = s:=ByteArray.toList_mk s

theorem op_move (hr : HR c H) (he : EnvOk c e a) {x : Operand} (hx : opdOk x = true) (ho : o.op = .move x ∨ o.op = .assign x) (h : aev e x fun A=>k A H) : OpRes P o a.eval c H k ks:=by
 obtain ⟨A,h1,h2⟩:=aev_sound he hx h
 refine .pure hr (v:=a.eval x) ?_ h1 h2
 rcases ho with ho | ho <;> simp [execOp,ho]

theorem run_pick {cc x y : Operand} (ho : o.op = .pick cc x y) {b : Bool} (hb : a.eval cc = .bool b) : (execOp a.eval o).run P c.w = .ok (.value (if b then a.eval x else a.eval y)) c.w:=by
 unfold execOp; rw [ho]; simp only [hb,asBool]; cases b <;> rfl

theorem op_pick (hr : HR c H) (he : EnvOk c e a) {cc x y : Operand} (h1 : opdOk cc = true) (h2 : opdOk x = true) (h3 : opdOk y = true) (ho : o.op = .pick cc x y)
  (h : aev e cc fun C=>(match C with
  | .tt=>aev e x fun A=>k A H
  | .ff=>aev e y fun A=>k A H
  | .bool b=>(b = true → aev e x fun A=>k A H) ∧ (b = false → aev e y fun A=>k A H)
  | .dec p=>(p → aev e x fun A=>k A H) ∧ (¬ p → aev e y fun A=>k A H)
  | _=>False)) : OpRes P o a.eval c H k ks:=by
 obtain ⟨C,g1,g2⟩:=aev_sound he h1 h
 have key : ∃ b,a.eval cc = .bool b ∧ (b = true → aev e x fun A=>k A H) ∧ (b = false → aev e y fun A=>k A H):=by
  split at g2
  ·exact ⟨true,VV_tt g1,fun _=>g2,fun h=>by cases h⟩
  ·exact ⟨false,VV_ff g1,(fun h=>by cases h),fun _=>g2⟩
  ·exact ⟨_,VV_bool g1,g2⟩
  ·obtain ⟨b,h4,h5⟩:=VV_dec g1
   exact ⟨b,h4,fun hb=>g2.1 (h5.1 hb),fun hb=>g2.2 (fun hp=>by rw [h5.2 hp] at hb; cases hb)⟩
  ·exact g2.elim
 obtain ⟨b,hb,hy,hn⟩:=key
 have hrun:=run_pick (P:=P) (c:=c) ho hb
 cases b with
 | true =>
   obtain ⟨A,h4,h5⟩:=aev_sound he h2 (hy rfl)
   exact .pure hr hrun (by simpa using h4) h5
 | false =>
   obtain ⟨A,h4,h5⟩:=aev_sound he h3 (hn rfl)
   exact .pure hr hrun (by simpa using h4) h5

theorem eqGuard_run {op : BinOp} {t : Nat} {x y : Operand} {v u : Value} (h : ¬ (∃ cs ds,v = .agg cs ∧ u = .agg ds))
  (h' : v = .nilIface → u = .nilIface → (op = .eql ∨ op = .neq) → (isConstO x || isConstO y) = true) : (eqGuard op t x y v u).run P c.w = .ok () c.w:=by
 unfold eqGuard
 cases op
 case eql =>
  simp only [Bool.not_true,Bool.false_eq_true,if_false]
  split
  ·have h3:=h' rfl rfl (.inl rfl)
   cases x <;> cases y <;> first | (simp [isConstO] at h3; done) | rfl
  ·exact absurd ⟨_,_,rfl,rfl⟩ h
  ·rfl
 case neq =>
  simp only [Bool.not_true,Bool.false_eq_true,if_false]
  split
  ·have h3:=h' rfl rfl (.inr rfl)
   cases x <;> cases y <;> first | (simp [isConstO] at h3; done) | rfl
  ·exact absurd ⟨_,_,rfl,rfl⟩ h
  ·rfl
 all_goals rfl

theorem run_binOp_ok {op : BinOp} {t ty : Nat} {x y : Operand} (ho : o.op = .binOp op t x y ty) {r : Value}
  (hg : (eqGuard op t x y (a.eval x) (a.eval y)).run P c.w = .ok () c.w) (h : (binOp op t (a.eval x) (a.eval y)).run P c.w = .ok r c.w) :
  (execOp a.eval o).run P c.w = .ok (.value r) c.w:=by
 unfold execOp; rw [ho]; simp only [Sem.run_bind,hg,Result.andThen_ok,h,Sem.run_pure]

theorem run_equalIn_bool {t : Nat} (ht : P.underlying t = some .bool) (d : Nat) (x y : Bool) (w : World) : (Op.equalIn (d + 1) t (.bool x) (.bool y)).run P w = .ok (x == y) w:=by
 simp only [Op.equalIn,Sem.run_bind,run_underlying ht,Result.andThen_ok,Sem.run_pure]

theorem run_equal_bool {t : Nat} (ht : P.underlying t = some .bool) (x y : Bool) (w : World) : (Op.equal t (.bool x) (.bool y)).run P w = .ok (x == y) w :=
 run_equalIn_bool ht 9999 x y w

theorem run_equalIn_iface {t : Nat} {ms : Array (String × TypeId)} (ht : P.underlying t = some (.interface ms)) {v u : Value} {b : Bool}
  (h : (v = .nilIface ∧ u = .nilIface ∧ b = true) ∨ (v = .nilIface ∧ (∃ t x,u = .iface t x) ∧ b = false) ∨ ((∃ t x,v = .iface t x) ∧ u = .nilIface ∧ b = false)) (d : Nat) (w : World) :
  (Op.equalIn (d + 1) t v u).run P w = .ok b w:=by
 rcases h with ⟨rfl,rfl,rfl⟩ | ⟨rfl,⟨t,x,rfl⟩,rfl⟩ | ⟨⟨t,x,rfl⟩,rfl,rfl⟩ <;> simp only [Op.equalIn,Sem.run_bind,run_underlying ht,Result.andThen_ok,Sem.run_pure]

theorem run_equal_iface {t : Nat} {ms : Array (String × TypeId)} (ht : P.underlying t = some (.interface ms)) {v u : Value} {b : Bool}
  (h : (v = .nilIface ∧ u = .nilIface ∧ b = true) ∨ (v = .nilIface ∧ (∃ t x,u = .iface t x) ∧ b = false) ∨ ((∃ t x,v = .iface t x) ∧ u = .nilIface ∧ b = false)) (w : World) :
  (Op.equal t v u).run P w = .ok b w:=run_equalIn_iface ht h 9999 w

theorem run_equalIn_ptr {t el : Nat} (ht : P.underlying t = some (.pointer el)) (p : Option Addr) (d : Nat) (w : World) :
  (Op.equalIn (d + 1) t (.pointer p) (.pointer none)).run P w = .ok p.isNone w:=by
 cases p <;> simp only [Op.equalIn,Sem.run_bind,run_underlying ht,Result.andThen_ok,Sem.run_pure] <;> rfl

theorem run_equal_ptr {t el : Nat} (ht : P.underlying t = some (.pointer el)) (p : Option Addr) (w : World) :
  (Op.equal t (.pointer p) (.pointer none)).run P w = .ok p.isNone w:=run_equalIn_ptr ht p 9999 w

theorem descOf_bool {d : TypeDesc} (h : descOf P d = .bool) : d = .bool:=by cases d <;> simp [descOf] at h; rfl
theorem descOf_iface {d : TypeDesc} (h : descOf P d = .iface) : ∃ ms,d = .interface ms:=by cases d <;> simp [descOf] at h; exact ⟨_,rfl⟩
theorem descOf_ptr {d : TypeDesc} {n : Nat} (h : descOf P d = .ptr n) : d = .pointer n:=by cases d <;> simp [descOf] at h; subst h; rfl
theorem descOf_slice {d : TypeDesc} {n : Nat} (h : descOf P d = .slice n) : d = .slice n:=by cases d <;> simp [descOf] at h; subst h; rfl
theorem descOf_int {d : TypeDesc} {kd : IntKind} (h : descOf P d = .int kd) : d = .int kd:=by cases d <;> simp [descOf] at h; subst h; rfl
theorem descOf_str {d : TypeDesc} (h : descOf P d = .str) : d = .string:=by cases d <;> simp [descOf] at h; rfl
theorem descOf_struct {d : TypeDesc} {fs : List (Nat × Nat × Nat)} (h : descOf P d = .struct fs) : ∃ gs,d = .struct gs ∧ fs = gs.toList.map fun f=>(f.offset,P.cellsOf f.type,f.type):=by
 cases d <;> simp [descOf] at h; exact ⟨_,rfl,by simp [h]⟩
theorem descOf_arr {d : TypeDesc} {n m : Nat} (h : descOf P d = .arr n m) : d = .array n m:=by cases d <;> simp [descOf] at h; obtain ⟨rfl,rfl⟩:=h; rfl
theorem descOf_map {d : TypeDesc} {n m : Nat} (h : descOf P d = .map n m) : d = .map n m:=by cases d <;> simp [descOf] at h; obtain ⟨rfl,rfl⟩:=h; rfl

theorem abin_int {d : TD} {op : BinOp} {hc : Bool} {ka kb : IntKind} {m n : Int} {k : AV → Prop} (t : Nat) (w : World) (ha : InR ka m) (h : abin d op hc (.int ka m) (.int kb n) k) :
  ∃ r R,(binOp op t (.int ka m) (.int kb n)).run P w = .ok r w ∧ VV c R r ∧ k R:=by
 have hk : op ≠ .shl → op ≠ .shr → ka = kb:=by
  intro h1 h2
  unfold abin at h
  cases hq : ikeq ka kb with
  | true=>exact ikeq_eq hq
  | false=>exfalso; cases op <;> first | exact h1 rfl | exact h2 rfl | (simp only [hq] at h)
 have hq : ikeq ka ka = true:=by cases ka <;> rfl
 unfold abin at h
 cases op
 case shl =>
  simp only at h
  refine ⟨_,_,?_,VV_int_mk (kd:=ka) (n:=shlR ka m n) (wrap_InR _ _),h.2⟩
  have : ¬ n < 0:=by omega
  simp [binOp,Op.shift,this,shlR]
 case shr =>
  simp only at h
  refine ⟨_,_,?_,VV_int_mk (kd:=ka) (n:=shrR ka m n) (InR_mono_div ha _),h.2⟩
  have : ¬ n < 0:=by omega
  simp [binOp,Op.shift,this,shrR]
 all_goals
  obtain rfl:=hk (by simp) (by simp)
  simp only [hq] at h
 case add=>obtain ⟨R,h1,h2⟩:=arith_sound (c:=c) h; exact ⟨_,R,by simp [binOp,Op.intArith],h1,h2⟩
 case sub=>obtain ⟨R,h1,h2⟩:=arith_sound (c:=c) h; exact ⟨_,R,by simp [binOp,Op.intArith],h1,h2⟩
 case mul=>obtain ⟨R,h1,h2⟩:=arith_sound (c:=c) h; exact ⟨_,R,by simp [binOp,Op.intArith],h1,h2⟩
 case quo=>obtain ⟨R,h1,h2⟩:=arith_sound (c:=c) h.2; exact ⟨_,R,by simp [binOp,Op.intDiv,h.1],h1,h2⟩
 case rem=>exact ⟨_,_,by simp [binOp,Op.intDiv,h.1],VV_int_mk (InR_tmod ha),h.2⟩
 case and=>exact ⟨_,_,by simp [binOp,Op.intBits,bitsR],VV_int_mk (kd:=ka) (n:=bitsR .and ka m n) (wrap_InR _ _),h⟩
 case or=>exact ⟨_,_,by simp [binOp,Op.intBits,bitsR],VV_int_mk (kd:=ka) (n:=bitsR .or ka m n) (wrap_InR _ _),h⟩
 case xor=>exact ⟨_,_,by simp [binOp,Op.intBits,bitsR],VV_int_mk (kd:=ka) (n:=bitsR .xor ka m n) (wrap_InR _ _),h⟩
 case andNot=>exact ⟨_,_,by simp [binOp,Op.intBits,bitsR],VV_int_mk (kd:=ka) (n:=bitsR .andNot ka m n) (wrap_InR _ _),h⟩
 case eql=>exact ⟨.bool (m == n),_,by simp [binOp,Op.intCmp],VV_dec_mk (by simp),h⟩
 case neq=>exact ⟨.bool (m != n),_,by simp [binOp,Op.intCmp],VV_dec_mk (by simp),h⟩
 case lss=>exact ⟨.bool (decide (m < n)),_,by simp [binOp,Op.intCmp],VV_dec_mk (by simp),h⟩
 case leq=>exact ⟨.bool (decide (m ≤ n)),_,by simp [binOp,Op.intCmp],VV_dec_mk (by simp),h⟩
 case gtr=>exact ⟨.bool (decide (m > n)),_,by simp [binOp,Op.intCmp],VV_dec_mk (by simp),h⟩
 case geq=>exact ⟨.bool (decide (m ≥ n)),_,by simp [binOp,Op.intCmp],VV_dec_mk (by simp),h⟩

theorem abin_str {d : TD} {op : BinOp} {hc : Bool} {p q : List UInt8} {k : AV → Prop} (t : Nat) (w : World) (h : abin d op hc (.str p) (.str q) k) :
  ∃ r R,(binOp op t (.string ⟨p.toArray⟩) (.string ⟨q.toArray⟩)).run P w = .ok r w ∧ VV c R r ∧ k R:=by
 have e1 : ByteArray.toList ⟨p.toArray⟩ = p:=toList_str p
 have e2 : ByteArray.toList ⟨q.toArray⟩ = q:=toList_str q
 unfold abin at h
 cases op <;> simp only at h
 case add =>
  refine ⟨_,_,?_,VV_str_mk (s:=p ++ q) (by simpa using h.1),h.2⟩
  have h1 : ¬ (((⟨p.toArray⟩ : ByteArray).size + (⟨q.toArray⟩ : ByteArray).size : Nat) : Int) > IntKind.i64.max:=by
   have:=h.1
   simp [maxL] at this
   simp [ByteArray.size,IntKind.max,IntKind.signed,IntKind.bits]; omega
  simp only [binOp,Op.stringOp,h1,if_false,Sem.run_pure]
  congr 2
 case eql=>exact ⟨.bool (p == q),_,by simp [binOp,Op.stringOp,e1,e2],VV_dec_mk (by simp),h⟩
 case neq=>exact ⟨.bool (!(p == q)),_,by simp [binOp,Op.stringOp,e1,e2],VV_dec_mk (by simp),h⟩
 case lss=>exact ⟨_,_,by simp only [binOp,Op.stringOp,e1,e2,Sem.run_pure],VV_bool_mk _,h⟩

end
end Go.AL

namespace Go.AL

section
variable {P : Program} {L : Lay} {c : Cx} {H : Heap} {e : Env} {a : Act} {k : AV → Heap → Prop} {ks : Heap → Prop} {o : Oper}

theorem VV_of_EV_bool {A : AV} {v : Value} (h : EV c A v) (hn : ∀ l,A ≠ .tup l) (hu : A ≠ .und) : VV c A v:=by
 cases A <;> first
  | exact h
  | exact absurd rfl (hn _)
  | exact absurd rfl hu

theorem eqB_not {A B : AV} {k : AV → Prop} (h : eqB A B k) : (∀ l,A ≠ .tup l) ∧ A ≠ .und ∧ (∀ l,B ≠ .tup l) ∧ B ≠ .und:=by
 refine ⟨?_,?_,?_,?_⟩ <;> intros <;> intro e <;> subst e <;> (first | (cases A <;> simp [eqB,notA,boolC] at h; done) | (cases B <;> simp [eqB,notA,boolC] at h; done))

theorem nilEq_not {A B : AV} {k : AV → Prop} (h : nilEq A B k) : (∀ l,A ≠ .tup l) ∧ A ≠ .und ∧ (∀ l,B ≠ .tup l) ∧ B ≠ .und:=by
 unfold nilEq at h
 split at h <;> first | exact h.elim | (refine ⟨?_,?_,?_,?_⟩ <;> intros <;> intro e <;> cases e)

theorem nilpEq_not {A B : AV} {k : AV → Prop} (h : nilpEq A B k) : (∀ l,A ≠ .tup l) ∧ A ≠ .und ∧ (∀ l,B ≠ .tup l) ∧ B ≠ .und:=by
 unfold nilpEq at h
 split at h <;> first | exact h.elim | (refine ⟨?_,?_,?_,?_⟩ <;> intros <;> intro e <;> cases e)

theorem op_eq {op : BinOp} {t ty : Nat} {x y : Operand} (hr : HR c H) (ho : o.op = .binOp op t x y ty) {i : TI} (hT : TIOk P t i) {A B : AV} (hA : EV c A (a.eval x)) (hB : EV c B (a.eval y))
  (h : aeqD i.desc op (isConstO x || isConstO y) A B fun R=>k R H) : OpRes P o a.eval c H k ks:=by
 obtain ⟨d,hd,hdd⟩:=hT.under
 have fin : ∀ (b : Bool) (R : AV),(op = .eql ∨ op = .neq) → (Op.equal t (a.eval x) (a.eval y)).run P c.w = .ok b c.w →
   (eqGuard op t x y (a.eval x) (a.eval y)).run P c.w = .ok () c.w → (∀ k n k' n',a.eval x = .int k n → a.eval y = .int k' n' → False) → (∀ s s',a.eval x = .string s → a.eval y = .string s' → False) →
   (∀ k n k' n',a.eval x = .float k n → a.eval y = .float k' n' → False) → (∀ k n m k' n' m',a.eval x = .complex k n m → a.eval y = .complex k' n' m' → False) →
   VV c R (.bool (if op = .neq then !b else b)) → k R H → OpRes P o a.eval c H k ks:=by
  intro b R hop hq hg h1 h2 h3 h4 hR hk
  refine .pure hr (run_binOp_ok ho hg ?_) (EV_VV hR) hk
  rcases hop with rfl | rfl
  ·generalize a.eval x = v at *
   generalize a.eval y = u at *
   cases v <;> cases u <;> first
    | exact (h1 _ _ _ _ rfl rfl).elim | exact (h2 _ _ rfl rfl).elim | exact (h3 _ _ _ _ rfl rfl).elim | exact (h4 _ _ _ _ _ _ rfl rfl).elim
    | simp [binOp,hq]
  ·generalize a.eval x = v at *
   generalize a.eval y = u at *
   cases v <;> cases u <;> first
    | exact (h1 _ _ _ _ rfl rfl).elim | exact (h2 _ _ rfl rfl).elim | exact (h3 _ _ _ _ rfl rfl).elim | exact (h4 _ _ _ _ _ _ rfl rfl).elim
    | simp [binOp,hq]
 unfold aeqD at h
 split at h
 ·rename_i hi
  obtain rfl:=descOf_bool (hdd.trans hi)
  obtain ⟨n1,n2,n3,n4⟩:=eqB_not h
  obtain ⟨p,q,R,e1,e2,h3,h4⟩:=eqB_sound (VV_of_EV_bool hA n1 n2) (VV_of_EV_bool hB n3 n4) h
  rw [e1,e2] at fin
  exact fin (p == q) R (.inl rfl) (run_equal_bool hd _ _ _) (eqGuard_run (by rintro ⟨_,_,h,_⟩; cases h) (by intro h; cases h)) (by intros; contradiction) (by intros; contradiction) (by intros; contradiction) (by intros; contradiction) (by simpa using h3) h4
 ·rename_i hi
  obtain rfl:=descOf_bool (hdd.trans hi)
  obtain ⟨n1,n2,n3,n4⟩:=eqB_not h
  obtain ⟨p,q,R,e1,e2,h3,h4⟩:=eqB_sound (VV_of_EV_bool hA n1 n2) (VV_of_EV_bool hB n3 n4) h
  obtain ⟨R',h5,h6⟩:=notA_sound h3 h4
  rw [e1,e2] at fin
  exact fin (p == q) R' (.inr rfl) (run_equal_bool hd _ _ _) (eqGuard_run (by rintro ⟨_,_,h,_⟩; cases h) (by intro h; cases h)) (by intros; contradiction) (by intros; contradiction) (by intros; contradiction) (by intros; contradiction) (by simpa using h5) h6
 ·rename_i hi
  obtain ⟨ms,rfl⟩:=descOf_iface (hdd.trans hi)
  split at h
  ·rename_i hc
   obtain ⟨n1,n2,n3,n4⟩:=nilEq_not h
   obtain ⟨b,R,e1,h3,h4⟩:=nilEq_sound (VV_of_EV_bool hA n1 n2) (VV_of_EV_bool hB n3 n4) h
   refine fin b R (.inl rfl) (run_equal_iface hd e1 _) (eqGuard_run ?_ (fun _ _ _=>hc)) ?_ ?_ ?_ ?_ (by simpa using h3) h4
   ·rintro ⟨_,_,h1,h2⟩
    rcases e1 with ⟨e1,e2,_⟩ | ⟨e1,⟨_,_,e2⟩,_⟩ | ⟨⟨_,_,e1⟩,e2,_⟩ <;> rw [e1] at h1 <;> cases h1
   all_goals
    intros
    rename_i h1 h2
    rcases e1 with ⟨e1,e2,_⟩ | ⟨e1,⟨_,_,e2⟩,_⟩ | ⟨⟨_,_,e1⟩,e2,_⟩ <;> rw [e1] at h1 <;> cases h1
  ·exact h.elim
 ·rename_i hi
  obtain ⟨ms,rfl⟩:=descOf_iface (hdd.trans hi)
  split at h
  ·rename_i hc
   obtain ⟨n1,n2,n3,n4⟩:=nilEq_not h
   obtain ⟨b,R,e1,h3,h4⟩:=nilEq_sound (VV_of_EV_bool hA n1 n2) (VV_of_EV_bool hB n3 n4) h
   obtain ⟨R',h5,h6⟩:=notA_sound h3 h4
   refine fin b R' (.inr rfl) (run_equal_iface hd e1 _) (eqGuard_run ?_ (fun _ _ _=>hc)) ?_ ?_ ?_ ?_ (by simpa using h5) h6
   ·rintro ⟨_,_,h1,h2⟩
    rcases e1 with ⟨e1,e2,_⟩ | ⟨e1,⟨_,_,e2⟩,_⟩ | ⟨⟨_,_,e1⟩,e2,_⟩ <;> rw [e1] at h1 <;> cases h1
   all_goals
    intros
    rename_i h1 h2
    rcases e1 with ⟨e1,e2,_⟩ | ⟨e1,⟨_,_,e2⟩,_⟩ | ⟨⟨_,_,e1⟩,e2,_⟩ <;> rw [e1] at h1 <;> cases h1
  ·exact h.elim
 ·rename_i hi
  obtain rfl:=descOf_ptr (hdd.trans hi)
  obtain ⟨n1,n2,n3,n4⟩:=nilpEq_not h
  obtain ⟨b,R,p,e1,e2,rfl,h3,h4⟩:=nilpEq_sound (VV_of_EV_bool hA n1 n2) (VV_of_EV_bool hB n3 n4) h
  rw [e1,e2] at fin
  exact fin p.isNone R (.inl rfl) (run_equal_ptr hd _ _) (eqGuard_run (by rintro ⟨_,_,h,_⟩; cases h) (by intro h; cases h)) (by intros; contradiction) (by intros; contradiction) (by intros; contradiction) (by intros; contradiction) (by simpa using h3) h4
 ·rename_i hi
  obtain rfl:=descOf_ptr (hdd.trans hi)
  obtain ⟨n1,n2,n3,n4⟩:=nilpEq_not h
  obtain ⟨b,R,p,e1,e2,rfl,h3,h4⟩:=nilpEq_sound (VV_of_EV_bool hA n1 n2) (VV_of_EV_bool hB n3 n4) h
  obtain ⟨R',h5,h6⟩:=notA_sound h3 h4
  rw [e1,e2] at fin
  exact fin p.isNone R' (.inr rfl) (run_equal_ptr hd _ _) (eqGuard_run (by rintro ⟨_,_,h,_⟩; cases h) (by intro h; cases h)) (by intros; contradiction) (by intros; contradiction) (by intros; contradiction) (by intros; contradiction) (by simpa using h5) h6
 ·exact h.elim

theorem sameQ_one {z x y : AV} {w : World} {Im : Nat → Nat → Prop} {cs ds : List Value} (hx : sameQ z x = true) (hy : sameQ z y = true) (h1 : Rd w Im x cs) (h2 : Rd w Im y ds) :
  cs.length = 1 ∧ ds.length = 1 ∧ (cs = ds ↔ eqP x y):=by
 have hb : ∀ {A : AV} {c : List Value},sameQ .ff A = true → Rd w Im A c → ∃ b,c = [.bool b] ∧ (b = true ↔ isT A):=by
  intro A c hA h
  cases A <;> first | (simp [sameQ] at hA; done) | skip
  ·simp only [Rd] at h; exact ⟨_,h,by simp [isT]⟩
  ·simp only [Rd] at h; exact ⟨_,h,by simp [isT]⟩
  ·simp only [Rd] at h; exact ⟨_,h,by simp [isT]⟩
  ·simp only [Rd] at h; exact h
 cases z <;> first | (simp [sameQ] at hx; done) | skip
 ·obtain ⟨b,rfl,g1⟩:=hb hx h1
  obtain ⟨b',rfl,g2⟩:=hb hy h2
  refine ⟨rfl,rfl,?_⟩
  have he : eqP x y ↔ (isT x ↔ isT y):=by
   cases x <;> first | (simp [sameQ] at hx; done) | skip
   all_goals cases y <;> first | (simp [sameQ] at hy; done) | exact Iff.rfl
  rw [he,← g1,← g2]
  cases b <;> cases b' <;> simp
 ·cases x <;> first | (simp [sameQ] at hx; done) | skip
  cases y <;> first | (simp [sameQ] at hy; done) | skip
  obtain rfl:=ikeq_eq hx
  obtain rfl:=ikeq_eq hy
  simp only [Rd] at h1 h2
  obtain ⟨rfl,_⟩:=h1
  obtain ⟨rfl,_⟩:=h2
  simp [eqP]
 ·cases x <;> first | (simp [sameQ] at hx; done) | skip
  cases y <;> first | (simp [sameQ] at hy; done) | skip
  simp only [Rd] at h1 h2
  obtain ⟨rfl,_⟩:=h1
  obtain ⟨rfl,_⟩:=h2
  simp [eqP]

theorem sameQL_eq {w : World} {Im : Nat → Nat → Prop} : ∀ {zs l m : List AV} {cs ds : List Value},sameQL zs l = true → sameQL zs m = true → RdL w Im l cs → RdL w Im m ds → (cs = ds ↔ eqPL l m)
 | [],[],[],cs,ds,_,_,h1,h2=>by simp only [RdL] at h1 h2; subst h1; subst h2; simp [eqPL]
 | [],[],_ :: _,_,_,_,h,_,_=>by simp [sameQL] at h
 | [],_ :: _,_,_,_,h,_,_,_=>by simp [sameQL] at h
 | _ :: _,[],_,_,_,h,_,_,_=>by simp [sameQL] at h
 | _ :: _,_ :: _,[],_,_,_,h,_,_=>by simp [sameQL] at h
 | z :: zs,x :: l,y :: m,cs,ds,hx,hy,h1,h2=>by
   simp only [sameQL] at hx hy
   cases qx : sameQ z x with
   | false=>simp [qx] at hx
   | true =>
     cases qy : sameQ z y with
     | false=>simp [qy] at hy
     | true =>
       rw [qx] at hx
       rw [qy] at hy
       simp only [RdL] at h1 h2
       obtain ⟨a,b,rfl,g1,g2⟩:=h1
       obtain ⟨a',b',rfl,g3,g4⟩:=h2
       obtain ⟨k1,k2,k3⟩:=sameQ_one qx qy g1 g3
       have ih:=sameQL_eq hx hy g2 g4
       simp only [eqPL]
       rw [← k3,← ih]
       constructor
       ·intro e; exact List.append_inj e (by omega)
       ·rintro ⟨rfl,rfl⟩; rfl

theorem sameQ_Rd {z x : AV} {cs : List Value} (hx : sameQ z x = true) (h : VR c x cs) : Rd c.w c.Im x cs:=by
 cases z <;> first | (simp [sameQ] at hx; done) | skip
 all_goals cases x <;> first | (simp [sameQ] at hx; done) | (simpa only [VR] using h)

theorem sameQL_Rd : ∀ {zs l : List AV} {cs : List Value},sameQL zs l = true → VRL c l cs → RdL c.w c.Im l cs
 | [],[],_,_,h=>by simpa only [VRL,RdL] using h
 | [],_ :: _,_,h,_=>by simp [sameQL] at h
 | _ :: _,[],_,h,_=>by simp [sameQL] at h
 | z :: zs,x :: l,cs,hx,h=>by
   simp only [sameQL] at hx
   cases qx : sameQ z x with
   | false=>simp [qx] at hx
   | true =>
     rw [qx] at hx
     simp only [VRL] at h
     obtain ⟨a,b,rfl,g1,g2⟩:=h
     simp only [RdL]
     exact ⟨a,b,rfl,sameQ_Rd qx g1,sameQL_Rd hx g2⟩

theorem op_ageq {op : BinOp} {t ty : Nat} {x y : Operand} (hr : HR c H) (ho : o.op = .binOp op t x y ty) {i : TI} (hT : TIOk P t i) {A B : AV} (hA : EV c A (a.eval x)) (hB : EV c B (a.eval y))
  (h : agEq i op A B fun R=>k R H) : OpRes P o a.eval c H k ks:=by
 unfold agEq at h
 split at h
 case h_2=>exact h.elim
 rename_i zs l m hc hz
 split at h
 case h_2=>exact h.elim
 rename_i q1 q2
 have E:=hT.cmpd hc zs hz
 obtain ⟨cs,e1⟩:=hA.1.1 rfl
 obtain ⟨ds,e2⟩:=hB.1.1 rfl
 have r1 : RdL c.w c.Im l cs.toList:=by
  have:=hA.2; rw [e1] at this; exact sameQL_Rd q1 this
 have r2 : RdL c.w c.Im m ds.toList:=by
  have:=hB.2; rw [e2] at this; exact sameQL_Rd q2 this
 obtain ⟨r,hrun,hiff⟩:=E.run c.w c.Im l m cs ds q1 q2 r1 r2
 have he:=sameQL_eq q1 q2 r1 r2
 have he : r = true ↔ eqPL l m:=by
  rw [hiff,← he]
  constructor
  ·rintro rfl; rfl
  ·intro e; exact Array.toList_inj.1 e
 split at h
 ·refine .pure hr (v:=.bool r) (run_binOp_ok ho ?_ ?_) (EV_VV (VV_mk rfl rfl ?_)) h
  ·rw [e1,e2]; exact run_eqGuard_agg c.w _ t x y cs ds E.grd
  ·rw [e1,e2,run_eql_struct]
   show ((Op.equal t _ _).run P c.w).andThen _ = _
   rw [hrun]; rfl
  ·simp only [VR,Rd]; exact ⟨r,rfl,he⟩
 ·refine .pure hr (v:=.bool (!r)) (run_binOp_ok ho ?_ ?_) (EV_VV (VV_mk rfl rfl ?_)) h
  ·rw [e1,e2]; exact run_eqGuard_agg c.w _ t x y cs ds E.grd
  ·rw [e1,e2,run_neq_struct]
   show ((Op.equal t _ _).run P c.w).andThen _ = _
   rw [hrun]; rfl
  ·simp only [VR,Rd]; exact ⟨!r,rfl,by rw [← he]; cases r <;> simp⟩
 ·exact h.elim

theorem op_bin (hL : LayOk P L) {op : BinOp} {t ty : Nat} {x y : Operand} (hr : HR c H) (he : EnvOk c e a) (hx : opdOk x = true) (hy : opdOk y = true) (ho : o.op = .binOp op t x y ty)
  (h : aev e x fun A=>aev e y fun B=>L.getC t fun i=>match isAg A with
   | true=>agEq i op A B fun R=>k R H
   | false=>abin i.desc op (isConstO x || isConstO y) A B fun R=>k R H) : OpRes P o a.eval c H k ks:=by
 obtain ⟨A,hA,h⟩:=aev_sound he hx h
 obtain ⟨B,hB,h⟩:=aev_sound he hy h
 obtain ⟨i,hT,h⟩:=Lay.getC_ok hL h
 cases hag : isAg A with
 | true=>rw [hag] at h; exact op_ageq hr ho hT hA hB h
 | false =>
 rw [hag] at h
 dsimp only at h
 by_cases h1 : (∃ ka m,A = .int ka m) ∧ (∃ kb n,B = .int kb n)
 ·obtain ⟨⟨ka,m,rfl⟩,⟨kb,n,rfl⟩⟩:=h1
  obtain ⟨e1,r1⟩:=EV_int hA
  obtain ⟨e2,_⟩:=EV_int hB
  obtain ⟨r,R,h2,h3,h4⟩:=abin_int (P:=P) t c.w r1 h
  refine .pure hr (run_binOp_ok ho ?_ (by rw [e1,e2]; exact h2)) (EV_VV h3) h4
  rw [e1,e2]
  exact eqGuard_run (by rintro ⟨_,_,h,_⟩; cases h) (by intro h; cases h)
 by_cases h2 : (∃ p,A = .str p) ∧ (∃ q,B = .str q)
 ·obtain ⟨⟨p,rfl⟩,⟨q,rfl⟩⟩:=h2
  obtain ⟨e1,_⟩:=EV_str hA
  obtain ⟨e2,_⟩:=EV_str hB
  obtain ⟨r,R,h2,h3,h4⟩:=abin_str (P:=P) (c:=c) t c.w h
  refine .pure hr (run_binOp_ok ho ?_ (by rw [e1,e2]; exact h2)) (EV_VV h3) h4
  rw [e1,e2]
  exact eqGuard_run (by rintro ⟨_,_,h,_⟩; cases h) (by intro h; cases h)
 refine op_eq hr ho hT hA hB ?_
 unfold abin at h
 split at h
 ·exact absurd ⟨⟨_,_,rfl⟩,⟨_,_,rfl⟩⟩ h1
 ·exact absurd ⟨⟨_,rfl⟩,⟨_,rfl⟩⟩ h2
 ·exact h

end
end Go.AL

namespace Go.AL

theorem VRE_split {c : Cx} {sz : Nat} : ∀ {l : List AV} {cs : List Value} {j : Nat} {x : AV},VRE c sz l cs → l[j]? = some x →
  ∃ pre xs post,cs = pre ++ xs ++ post ∧ pre.length = j * sz ∧ xs.length = sz ∧ Rd c.w c.Im x xs ∧
    ∀ y ys,Rd c.w c.Im y ys → ys.length = sz → VRE c sz (l.set j y) (pre ++ ys ++ post)
 | [],_,_,_,_,h=>by simp at h
 | z :: l,cs,0,x,hr,h=>by
   obtain ⟨a,d,rfl,h2,h3,h4⟩:=hr
   obtain rfl : z = x:=by simpa using h
   refine ⟨[],a,d,by simp,by simp,h2,h3,fun y ys hy hl=>?_⟩
   exact ⟨ys,d,by simp,hl,hy,h4⟩
 | z :: l,cs,j + 1,x,hr,h=>by
   obtain ⟨a,d,rfl,h2,h3,h4⟩:=hr
   obtain ⟨pre,xs,post,rfl,h5,h6,h7,h8⟩:=VRE_split h4 (by simpa using h : l[j]? = some x)
   refine ⟨a ++ pre,xs,post,by simp,by simp [h2,h5,Nat.add_mul]; omega,h6,h7,fun y ys hy hl=>?_⟩
   exact ⟨a,pre ++ ys ++ post,by simp,h2,h3,h8 y ys hy hl⟩

theorem get_mid {α : Type} (pre xs post : List α) {j : Nat} {v : α} (h : xs[j]? = some v) : (pre ++ xs ++ post)[pre.length + j]? = some v:=by
 have hj : j < xs.length:=(List.getElem?_eq_some_iff.1 h).1
 rw [List.append_assoc,List.getElem?_append_right (by omega),Nat.add_sub_cancel_left,List.getElem?_append_left hj,h]

theorem addr_eta {a : Addr} (h : a.spot = none) : a = ⟨a.block,a.off,none⟩:=by cases a; simp_all

section
variable {P : Program} {L : Lay} {c : Cx} {H : Heap} {e : Env} {a : Act} {k : AV → Heap → Prop} {ks : Heap → Prop} {o : Oper}

theorem run_load_op {t : Nat} {x : Operand} {ad : Addr} (ho : o.op = .load t x) (hx : a.eval x = .pointer (some ad)) {v : Value} (h : (loadVar t ad).run P c.w = .ok v c.w) :
  (execOp a.eval o).run P c.w = .ok (.value v) c.w:=by
 unfold execOp; rw [ho]
 simp only [Instr.loadAt,hx,Instr.sureAddr,Sem.run_bind,Sem.run_pure,Result.andThen_ok,h]

theorem aload_sound (hL : LayOk P L) (hr : HR c H) {t : Nat} {A : AV} {v : Value} {k : AV → Prop} (hA : EV c A v) (h : aload L t A H k) :
  ∃ ad r R,v = .pointer (some ad) ∧ (loadVar t ad).run P c.w = .ok r c.w ∧ VV c R r ∧ k R:=by
 unfold aload at h
 split at h
 ·rename_i x
  obtain ⟨ad,ds,e1,hs,hc,hx⟩:=VV_cp hA
  obtain ⟨_,i,hT,hf,hg,hk⟩:=chkT_sound hL h
  have hx' : VR c x ds:=VR_of_Rd _ _ hx
  refine ⟨ad,mkV x ds,x,e1,?_,VV_mkV hx',hk⟩
  rw [addr_eta hs]
  exact run_loadVar hT hf hg hx' fun j v hj=>(hc j v hj).1
 ·rename_i i p off
  obtain ⟨hk,e1⟩:=VV_ptr hA
  obtain ⟨ob,hob,h⟩:=hgetC_iff.1 h
  have hok:=hr.okOf hob
  split at h
  ·rename_i B
   obtain ⟨x,hp,h⟩:=getPC_iff.1 h
   obtain ⟨hoff,h⟩:=beqC_iff.1 h
   obtain ⟨_,ti,hT,hf,hg,hkk⟩:=chkT_sound hL h
   subst hoff
   obtain ⟨cs,ty,h1,h2,_⟩:=hok
   obtain ⟨pre,xs,post,rfl,h4,h5⟩:=VR_getP h2 hp
   refine ⟨_,mkV x xs,x,e1,?_,VV_mkV h5,hkk⟩
   refine run_loadVar hT hf hg h5 fun j v hj=>?_
   rw [cell_of_heap h1,← h4,List.getElem?_toArray]
   exact get_mid _ _ _ hj
  ·rename_i sz cap l
   split at h
   ·rename_i j
    obtain ⟨x,⟨_,hx⟩,hoff,h'⟩:=h.ex
    obtain ⟨_,ti,hT,hf,hg,hkk⟩:=chkT_sound hL h'
    subst hoff
    obtain ⟨cs,ty,h1,h2,h3,h4,h5,_⟩:=hok
    obtain ⟨pre,xs,post,rfl,h6,h7,h8,_⟩:=VRE_split h5 (by simpa using hx)
    have h8' : VR c x xs:=VR_of_Rd _ _ h8
    refine ⟨_,mkV x xs,x,e1,?_,VV_mkV h8',hkk⟩
    refine run_loadVar hT hf hg h8' fun j v hj=>?_
    rw [cell_of_heap h1,← h6,List.getElem?_toArray]
    exact get_mid _ _ _ hj
   ·rename_i j q _
    obtain ⟨x,⟨_,hx⟩,h⟩:=h.ex
    obtain ⟨y,hp,hoff,h'⟩:=getPC_iff.1 h
    obtain ⟨_,ti,hT,hf,hg,hkk⟩:=chkT_sound hL h'
    subst hoff
    obtain ⟨cs,ty,h1,h2,h3,h4,h5,_⟩:=hok
    obtain ⟨pre,xs,post,rfl,h6,h7,h8,_⟩:=VRE_split h5 (by simpa using hx)
    have h8' : VR c x xs:=VR_of_Rd _ _ h8
    obtain ⟨pre',xs',post',rfl,h9,h10⟩:=VR_getP h8' hp
    refine ⟨_,mkV y xs',y,e1,?_,VV_mkV h10,hkk⟩
    refine run_loadVar hT hf hg h10 fun j v hj=>?_
    rw [cell_of_heap h1,← h6,← h9,List.getElem?_toArray]
    have:=get_mid (pre ++ pre') xs' (post' ++ post) hj
    simpa [List.append_assoc,Nat.add_assoc] using this
   ·exact h.elim
  ·exact h.elim
 ·exact h.elim

theorem op_load (hL : LayOk P L) {t : Nat} {x : Operand} (hr : HR c H) (he : EnvOk c e a) (hx : opdOk x = true) (ho : o.op = .load t x)
  (h : aev e x fun A=>aload L t A H fun R=>k R H) : OpRes P o a.eval c H k ks:=by
 obtain ⟨A,hA,h⟩:=aev_sound he hx h
 obtain ⟨ad,r,R,e1,h1,h2,h3⟩:=aload_sound hL hr hA h
 exact .pure hr (run_load_op ho e1 h1) (EV_VV h2) h3

theorem run_store_op {t : Nat} {x y : Operand} {ad : Addr} (ho : o.op = .store t x y) (hx : a.eval x = .pointer (some ad)) {w' : World} (h : (storeVar t ad (a.eval y)).run P c.w = .ok () w') :
  (execOp a.eval o).run P c.w = .ok .skip w':=by
 unfold execOp; rw [ho]
 simp only [Instr.storeAt,hx,Instr.sureAddr,Sem.run_bind,Sem.run_pure,Result.andThen_ok,h]

theorem pureC_sound {A : AV} {k : AV → Prop} (h : pureC A k) : pureB A = true ∧ k (strip A):=by
 unfold pureC at h
 split at h
 ·exact ⟨‹_›,h⟩
 ·exact h.elim

theorem take_drop_mid (pre xs post bs : List Value) (hl : bs.length = xs.length) :
  (pre ++ xs ++ post).take pre.length ++ bs ++ (pre ++ xs ++ post).drop (pre.length + bs.length) = pre ++ bs ++ post:=by
 have e1 : (pre ++ xs ++ post).take pre.length = pre:=by rw [List.append_assoc,List.take_left]
 have e2 : (pre ++ xs ++ post).drop (pre.length + bs.length) = post:=by rw [hl,← List.length_append,List.drop_left]
 rw [e1,e2]

theorem op_store (hL : LayOk P L) {t : Nat} {x y : Operand} (hr : HR c H) (he : EnvOk c e a) (hx : opdOk x = true) (hy : opdOk y = true) (ho : o.op = .store t x y)
  (h : aev e x fun A=>aev e y fun B=>astore L t A B H ks) : OpRes P o a.eval c H k ks:=by
 obtain ⟨A,hA,h⟩:=aev_sound he hx h
 obtain ⟨B,hB,h⟩:=aev_sound he hy h
 unfold astore at h
 split at h
 ·rename_i i p off _
  obtain ⟨hk,e1⟩:=VV_ptr hA
  obtain ⟨ob,hob,h⟩:=hgetC_iff.1 h
  have hok:=hr.okOf hob
  split at h
  ·rename_i _ A0
   obtain ⟨x0,hp,h⟩:=getPC_iff.1 h
   obtain ⟨hoff,h⟩:=beqC_iff.1 h
   obtain ⟨hval,ti,hT,hf,hg,h⟩:=chkT_sound hL h
   obtain ⟨hfl,h⟩:=beqC_iff.1 h
   obtain ⟨cs,ty,h1,h2,h3⟩:=hok
   have hBv:=EV_val hB hval
   obtain ⟨A',x1,pre,xs,post,g1,rfl,g3,g4,g5,g6⟩:=setPC_sound hBv.2 h2 h
   obtain rfl : x0 = x1:=by rw [hp] at g1; exact Option.some.inj g1
   have hbl : (a.eval y).cells.toList.length = xs.length:=by rw [VR_length _ _ hBv.2,VR_length _ _ g4,hfl]
   have hbs : (a.eval y).cells.size = xs.length:=by rw [← hbl,Array.length_toList]
   obtain ⟨⟨_,_⟩,g7⟩:=hsetC_iff.1 g6
   have hrun:=run_storeVar (P:=P) (w:=c.w) (v:=a.eval y) (off:=off) hT (by rw [← hf,← VR_length _ _ hBv.2,Array.length_toList]) h1
    (by rw [← hoff,← g3,hbs]; simp) (VR_oneCell _ _ hBv.2)
   rw [← hoff,← g3,List.toList_toArray,← Array.length_toList,take_drop_mid _ _ _ _ hbl] at hrun
   refine .inr (.inl ⟨{ c with w:=c.w.setRow (c.ρ i) (pre ++ (a.eval y).cells.toList ++ post).toArray },_,run_store_op ho (by rw [e1,← hoff,← g3]) hrun,?_,g7⟩)
   refine Tr.write hr hob h1 (fun _=>rfl) (fun _=>rfl) h3 (by intros; simp) (by intros; simp) ?_
   have le : c.Le { c with w:=c.w.setRow (c.ρ i) (pre ++ (a.eval y).cells.toList ++ post).toArray }:=by
    refine ⟨fun b x h=>⟨h,cell_same (setRow_other c.w _ b _ (fun e=>h3 x (e ▸ h)))⟩,Nat.le_refl _,fun _ _=>rfl,fun _ _ _ h=>.inl ⟨h,rfl⟩⟩
   exact ⟨_,ty,setRow_heap c.w _ _ _ _ _ h1,VR_mono le _ _ g5,h3⟩
  ·rename_i _ sz cap l
   split at h
   ·rename_i j _ _
    obtain ⟨hpu,h⟩:=pureC_sound h
    obtain ⟨hsz,h⟩:=beqC_iff.1 h
    obtain ⟨hval,ti,hT,hf,hg,hj,hoff,h⟩:=chkT_sound hL h
    obtain ⟨cs,ty,h1,h2,h3,h4,h5,h6⟩:=hok
    have hBv:=EV_val hB hval
    obtain ⟨x0,hx0⟩ : ∃ x0,l[j]? = some x0:=⟨_,List.getElem?_eq_getElem hj⟩
    obtain ⟨pre,xs,post,rfl,g3,g4,g5,g6⟩:=VRE_split h5 hx0
    have hbl : (a.eval y).cells.toList.length = xs.length:=by rw [VR_length _ _ hBv.2,g4,hsz]
    have hbs : (a.eval y).cells.size = xs.length:=by rw [← hbl,Array.length_toList]
    obtain ⟨⟨_,_⟩,g7⟩:=hsetC_iff.1 h
    have hrun:=run_storeVar (P:=P) (w:=c.w) (v:=a.eval y) (off:=off) hT (by rw [← hf,← VR_length _ _ hBv.2,Array.length_toList]) h1
     (by rw [hoff,← g3,hbs]; simp) (VR_oneCell _ _ hBv.2)
    rw [hoff,← g3,List.toList_toArray,← Array.length_toList,take_drop_mid _ _ _ _ hbl] at hrun
    refine .inr (.inl ⟨{ c with w:=c.w.setRow (c.ρ i) (pre ++ (a.eval y).cells.toList ++ post).toArray },_,run_store_op ho (by rw [e1,hoff,← g3]) hrun,?_,g7⟩)
    refine Tr.write hr hob h1 (fun _=>rfl) (fun _=>rfl) h6 (by intros; simp) (by intros; simp) ?_
    have le : c.Le { c with w:=c.w.setRow (c.ρ i) (pre ++ (a.eval y).cells.toList ++ post).toArray }:=by
     refine ⟨fun b x h=>⟨h,cell_same (setRow_other c.w _ b _ (fun e=>h6 x (e ▸ h)))⟩,Nat.le_refl _,fun _ _=>rfl,fun _ _ _ h=>.inl ⟨h,rfl⟩⟩
    refine ⟨_,ty,setRow_heap c.w _ _ _ _ _ h1,?_,by simpa using h3,h4,VRE_mono le (g6 _ _ (Rd_strip _ _ hpu hBv.2) (hbl.trans g4)),h6⟩
    rw [← h2]; simp; omega
   ·rename_i j q _ _
    obtain ⟨x0,⟨_,hx0⟩,h⟩:=h.ex
    obtain ⟨y0,hp,hoff,h⟩:=getPC_iff.1 h
    obtain ⟨hval,ti,hT,hf,hg,h⟩:=chkT_sound hL h
    obtain ⟨hfl,h⟩:=beqC_iff.1 h
    obtain ⟨cs,ty,h1,h2,h3,h4,h5,h6⟩:=hok
    have hBv:=EV_val hB hval
    obtain ⟨pre,ys,post,rfl,g3,g4,g5,g6⟩:=VRE_split h5 (by simpa using hx0)
    obtain ⟨A',x1,pre',xs,post',q1,rfl,q3,q4,q5,h⟩:=setPC_sound hBv.2 (VR_of_Rd _ _ g5) h
    obtain rfl : y0 = x1:=by rw [hp] at q1; exact Option.some.inj q1
    obtain ⟨hpu,h⟩:=pureC_sound h
    have hbl : (a.eval y).cells.toList.length = xs.length:=by rw [VR_length _ _ hBv.2,VR_length _ _ q4,hfl]
    have hbs : (a.eval y).cells.size = xs.length:=by rw [← hbl,Array.length_toList]
    obtain ⟨⟨_,_⟩,g7⟩:=hsetC_iff.1 h
    have hrow : pre ++ (pre' ++ xs ++ post') ++ post = (pre ++ pre') ++ xs ++ (post' ++ post):=by simp [List.append_assoc]
    have hoff' : off = (pre ++ pre').length:=by rw [hoff,← g3,← q3,List.length_append]
    have h1':=h1
    rw [hrow] at h1'
    have hrun:=run_storeVar (P:=P) (w:=c.w) (v:=a.eval y) (off:=off) hT (by rw [← hf,← VR_length _ _ hBv.2,Array.length_toList]) h1'
     (by rw [hoff',hbs]; simp; omega) (VR_oneCell _ _ hBv.2)
    rw [hoff',List.toList_toArray,← Array.length_toList,take_drop_mid _ _ _ _ hbl] at hrun
    refine .inr (.inl ⟨{ c with w:=c.w.setRow (c.ρ i) ((pre ++ pre') ++ (a.eval y).cells.toList ++ (post' ++ post)).toArray },_,run_store_op ho (by rw [e1,hoff']) hrun,?_,g7⟩)
    refine Tr.write hr hob h1 (fun _=>rfl) (fun _=>rfl) h6 (by intros; simp) (by intros; simp) ?_
    have le : c.Le { c with w:=c.w.setRow (c.ρ i) ((pre ++ pre') ++ (a.eval y).cells.toList ++ (post' ++ post)).toArray }:=by
     refine ⟨fun b x h=>⟨h,cell_same (setRow_other c.w _ b _ (fun e=>h6 x (e ▸ h)))⟩,Nat.le_refl _,fun _ _=>rfl,fun _ _ _ h=>.inl ⟨h,rfl⟩⟩
    have hl' : (pre' ++ (a.eval y).cells.toList ++ post').length = sz:=by rw [← g4]; simp only [List.length_append]; omega
    refine ⟨_,ty,setRow_heap c.w _ _ _ _ _ h1,?_,by simpa using h3,h4,?_,h6⟩
    ·rw [← h2]; simp only [List.length_append]; omega
    ·have:=VRE_mono le (g6 _ _ (Rd_strip _ _ hpu q5) hl')
     simpa only [List.append_assoc] using this
   ·exact h.elim
  ·exact h.elim
 ·exact h.elim
end
end Go.AL

namespace Go.AL

theorem offsOf_get : ∀ {zs : List AV} {n f : Nat} {z : AV},zs[f]? = some z → (offsOf n zs)[f]? = some (n + flatL (zs.take f),flat z)
 | [],_,_,_,h=>by simp at h
 | x :: l,n,0,z,h=>by
   obtain rfl : x = z:=by simpa using h
   simp [offsOf,flatL]
 | x :: l,n,f + 1,z,h=>by
   simp only [offsOf,List.getElem?_cons_succ,List.take_succ_cons,flatL]
   rw [offsOf_get (by simpa using h : l[f]? = some z),Nat.add_assoc]

section
variable {P : Program} {L : Lay} {c : Cx} {H : Heap} {e : Env} {a : Act} {k : AV → Heap → Prop} {ks : Heap → Prop} {o : Oper}

theorem TIOk.field {t f : Nat} {i : TI} {zs : List AV} {z : AV} (h : TIOk P t i) (hd : ∃ fs,i.desc = .struct fs) (hz : i.zero = .ag zs) (hf : zs[f]? = some z) :
  ∃ gs fd,P.underlying t = some (.struct gs) ∧ gs[f]? = some fd ∧ fd.offset = flatL (zs.take f) ∧ P.cellsOf fd.type = flat z:=by
 obtain ⟨fs,hd⟩:=hd
 obtain ⟨d,h1,h2⟩:=h.under
 obtain ⟨gs,rfl,hfs⟩:=descOf_struct (h2.trans hd)
 obtain ⟨zs',hz',h3⟩:=h.flds fs hd
 rw [hz] at hz'
 cases hz'
 subst hfs
 have h4:=offsOf_get (n:=0) hf
 rw [← h3] at h4
 simp only [List.map_map,List.getElem?_map,Array.getElem?_toList] at h4
 cases hg : gs[f]? with
 | none=>simp [hg] at h4
 | some fd =>
   simp [hg] at h4
   exact ⟨gs,fd,h1,hg,h4.1,h4.2⟩

theorem run_sizeOf_cells {t : Nat} {n : Nat} (h : P.cellsOf t = n + 1) (w : World) : (sizeOf t).run P w = .ok (n + 1) w:=by
 unfold Program.cellsOf at h
 cases hi : P.info? t with
 | none=>simp [hi] at h
 | some x=>simp [hi] at h; unfold sizeOf typeInfo; simp [hi,h]

theorem addr_add (b off n : Nat) : (⟨b,off,none⟩ : Addr).add n = ⟨b,off + n,none⟩:=by
 unfold Addr.add; split
 ·rename_i h; subst h; rfl
 ·rfl

theorem RdL_split {w : World} {Im : Nat → Nat → Prop} : ∀ {l : List AV} {cs : List Value} {i : Nat} {x : AV},RdL w Im l cs → l[i]? = some x →
  ∃ pre xs post,cs = pre ++ xs ++ post ∧ pre.length = flatL (l.take i) ∧ Rd w Im x xs
 | [],_,_,_,_,h=>by simp at h
 | z :: l,cs,0,x,hr,h=>by
   simp only [RdL] at hr
   obtain ⟨a,d,rfl,h2,h3⟩:=hr
   obtain rfl : z = x:=by simpa using h
   exact ⟨[],a,d,by simp,by simp [flatL],h2⟩
 | z :: l,cs,i + 1,x,hr,h=>by
   simp only [RdL] at hr
   obtain ⟨a,d,rfl,h2,h3⟩:=hr
   obtain ⟨pre,xs,post,rfl,h5,h6⟩:=RdL_split h3 (by simpa using h : l[i]? = some x)
   exact ⟨a ++ pre,xs,post,by simp,by simp [flatL,Rd_length _ _ h2,h5],h6⟩

theorem cellsAt_mid {w : World} {Im : Nat → Nat → Prop} {b off : Nat} {pre xs post : List Value} (h : cellsAt w Im b off (pre ++ xs ++ post)) : cellsAt w Im b (off + pre.length) xs:=by
 intro j v hj
 have:=h (pre.length + j) v (get_mid pre xs post hj)
 rw [Nat.add_assoc]; exact this

theorem VV_cp_mk {x : AV} {b off : Nat} {ds : List Value} (hc : cellsAt c.w c.Im b off ds) (hx : Rd c.w c.Im x ds) : VV c (.cp x) (.pointer (some ⟨b,off,none⟩)) :=
 VV_mk rfl rfl (by simp only [VR,Rd]; exact ⟨_,ds,rfl,rfl,hc,hx⟩)

theorem VV_ptr_mk {i off : Nat} {p : List Nat} (h : i < c.nx) : VV c (.ptr i p off) (.pointer (some ⟨c.ρ i,off,none⟩)) :=
 VV_mk rfl rfl (by simp only [VR]; exact ⟨h,trivial⟩)

theorem op_fieldAddr (hL : LayOk P L) {t f : Nat} {x : Operand} (hr : HR c H) (he : EnvOk c e a) (hx : opdOk x = true) (ho : o.op = .fieldAddr t x f)
  (h : aev e x fun A=>afield L t A f fun R=>k R H) : OpRes P o a.eval c H k ks:=by
 obtain ⟨A,hA,h⟩:=aev_sound he hx h
 unfold afield at h
 obtain ⟨i,hT,h⟩:=Lay.getC_ok hL h
 have run : ∀ (b off : Nat) (zs : List AV) (z : AV) (n : Nat),(∃ fs,i.desc = .struct fs) → i.zero = .ag zs → zs[f]? = some z → flat z = n + 1 → a.eval x = .pointer (some ⟨b,off,none⟩) →
   (execOp a.eval o).run P c.w = .ok (.value (.pointer (some ⟨b,off + flatL (zs.take f),none⟩))) c.w:=by
  intro b off zs z n hd hz hf hn hp
  obtain ⟨gs,fd,h1,h2,h3,h4⟩:=hT.field hd hz hf
  unfold execOp; rw [ho]
  simp only [Instr.fieldAt,hp,Instr.sureAddr,Sem.run_bind,run_underlying h1,Result.andThen_ok,h2,Sem.run_pure,fieldPlace,run_sizeOf_cells (h4.trans hn)]
  simp [addr_add,h3]
 split at h
 ·rename_i fs zs hd hz
  split at h
  ·rename_i l
   obtain ⟨hfl,h⟩:=beqC_iff.1 h
   obtain ⟨z,hf,h⟩:=nthC_iff.1 h
   split at h
   ·exact h.elim
   ·rename_i n hn
    obtain ⟨y,hy,h⟩:=nthC_iff.1 h
    obtain ⟨ad,ds,e1,e2,hc,hrd⟩:=VV_cp hA
    simp only [Rd] at hrd
    obtain ⟨pre,xs,post,rfl,h5,h6⟩:=RdL_split hrd hy
    rw [addr_eta e2] at e1
    refine .pure hr (run _ _ zs z n ⟨_,hd⟩ hz hf hn e1) (EV_VV (VV_cp_mk ?_ h6)) h
    rw [← hfl,← h5]
    exact cellsAt_mid hc
  ·rename_i j p off
   obtain ⟨z,hf,h⟩:=nthC_iff.1 h
   split at h
   ·exact h.elim
   ·rename_i n hn
    have h:=snocC_iff.1 h
    obtain ⟨hk,e1⟩:=VV_ptr hA
    exact .pure hr (run _ _ zs z n ⟨_,hd⟩ hz hf hn e1) (EV_VV (VV_ptr_mk hk)) h
  ·exact h.elim
 ·exact h.elim

theorem run_asInt {kd : IntKind} {n : Int} {w : World} : (asIntOf (.int kd n)).run P w = .ok (kd,n) w:=rfl

theorem run_indexAddr_slice {t el : Nat} {x y : Operand} {ei : TI} (ho : o.op = .indexAddr t x y) (ht : P.underlying t = some (.slice el)) (hE : TIOk P el ei) {ad : Addr} {len cap : Nat} {kd : IntKind} {n : Int}
  (hx : a.eval x = .slice (some ad) len cap) (hy : a.eval y = .int kd n) (h0 : 0 ≤ n) (h1 : n < (len : Int)) :
  (execOp a.eval o).run P c.w = .ok (.value (.pointer (some (ad.add (n.toNat * flat ei.zero))))) c.w:=by
 unfold execOp; rw [ho]
 simp only [Instr.indexAt,hx,hy,Sem.run_bind,run_asInt,Result.andThen_ok,run_underlying ht,Sem.run_pure,h0,h1,and_self,if_true,hE.run_size]

theorem run_indexAddr_arr {t el m : Nat} {x y : Operand} {ei : TI} (ho : o.op = .indexAddr t x y) (ht : P.underlying t = some (.array m el)) (hE : TIOk P el ei) {ad : Addr} {kd : IntKind} {n : Int}
  (hx : a.eval x = .pointer (some ad)) (hy : a.eval y = .int kd n) (h0 : 0 ≤ n) (h1 : n < (m : Int)) :
  (execOp a.eval o).run P c.w = .ok (.value (.pointer (some (ad.add (n.toNat * flat ei.zero))))) c.w:=by
 unfold execOp; rw [ho]
 simp only [Instr.indexAt,hx,hy,Sem.run_bind,run_asInt,Result.andThen_ok,run_underlying ht,Instr.sureAddr,Sem.run_pure,h0,h1,and_self,if_true,hE.run_size]

theorem op_indexAddr (hL : LayOk P L) {t : Nat} {x y : Operand} (hr : HR c H) (he : EnvOk c e a) (hx : opdOk x = true) (hy : opdOk y = true) (ho : o.op = .indexAddr t x y)
  (h : aev e x fun A=>aev e y fun I=>aindexAddr L t A I fun R=>k R H) : OpRes P o a.eval c H k ks:=by
 obtain ⟨A,hA,h⟩:=aev_sound he hx h
 obtain ⟨I,hI,h⟩:=aev_sound he hy h
 unfold aindexAddr at h
 split at h
 ·rename_i kd n
  obtain ⟨e2,_⟩:=EV_int hI
  obtain ⟨i,hT,h⟩:=Lay.getC_ok hL h
  obtain ⟨d,hd,hdd⟩:=hT.under
  split at h
  ·rename_i el sz l tok hi _ _
   obtain rfl:=descOf_slice (hdd.trans hi)
   obtain ⟨ei,hE,h⟩:=Lay.getC_ok hL h
   obtain ⟨hsz,hix⟩:=beqC_iff.1 h
   subst hsz
   obtain ⟨z,⟨h0,hz⟩,hk⟩:=hix.ex
   have hlt : n.toNat < l.length:=(List.getElem?_eq_some_iff.1 hz).1
   rcases (VV_sl hA).2 with ⟨rfl,_⟩ | ⟨ad,cap,e1,_,_,hs,hre⟩
   ·simp at hlt
   ·obtain ⟨cs,g1,g2,g3⟩:=RdE_get hre hz
    have hsp:=hs (by intro e; subst e; simp at hlt)
    rw [addr_eta hsp] at e1
    have hrun:=run_indexAddr_slice (P:=P) (c:=c) ho hd hE e1 e2 h0 (by omega)
    rw [addr_add] at hrun
    exact .pure hr hrun (EV_VV (VV_cp_mk g2 g3)) hk
  ·rename_i el j off len cap sz hi _ _
   obtain rfl:=descOf_slice (hdd.trans hi)
   obtain ⟨ei,hE,h⟩:=Lay.getC_ok hL h
   obtain ⟨rfl,⟨h0,h1⟩,hk⟩:=beqC_iff.1 h
   obtain ⟨hj,e1,_⟩:=VV_ms hA
   have hrun:=run_indexAddr_slice (P:=P) (c:=c) ho hd hE e1 e2 h0 h1
   rw [addr_add,← Nat.add_mul] at hrun
   exact .pure hr hrun (EV_VV (VV_ptr_mk hj)) hk
  ·rename_i m el j p off hi _ _
   obtain rfl:=descOf_arr (hdd.trans hi)
   obtain ⟨ei,hE,⟨h0,h1⟩,h⟩:=Lay.getC_ok hL h
   have hk:=snocC_iff.1 h
   obtain ⟨hj,e1⟩:=VV_ptr hA
   have hrun:=run_indexAddr_arr (P:=P) (c:=c) ho hd hE e1 e2 h0 h1
   rw [addr_add] at hrun
   exact .pure hr hrun (EV_VV (VV_ptr_mk hj)) hk
  ·exact h.elim
 ·exact h.elim

theorem op_index (hL : LayOk P L) {t : Nat} {x y : Operand} (hr : HR c H) (he : EnvOk c e a) (hx : opdOk x = true) (hy : opdOk y = true) (ho : o.op = .index t x y)
  (h : aev e x fun A=>aev e y fun I=>aindex L t A I fun R=>k R H) : OpRes P o a.eval c H k ks:=by
 obtain ⟨A,hA,h⟩:=aev_sound he hx h
 obtain ⟨I,hI,h⟩:=aev_sound he hy h
 have h' : ∃ s kd n,A = .str s ∧ I = .int kd n ∧ L.getC t fun i=>(match i.desc with
  | .str=>AIdx s n fun b=>k (.int .u8 b.toNat) H
  | _=>False):=by
  unfold aindex at h
  cases A <;> cases I <;> first | exact h.elim | exact ⟨_,_,_,rfl,rfl,h⟩
 clear h
 obtain ⟨s,kd,n,rfl,rfl,h⟩:=h'
 ·obtain ⟨e2,_⟩:=EV_int hI
  obtain ⟨e1,_⟩:=EV_str hA
  obtain ⟨i,hT,h⟩:=Lay.getC_ok hL h
  obtain ⟨d,hd,hdd⟩:=hT.under
  split at h
  ·rename_i hi
   obtain rfl:=descOf_str (hdd.trans hi)
   obtain ⟨b,⟨h0,hb⟩,hk⟩:=h.ex
   refine .pure hr (v:=.int .u8 b.toNat) ?_ (EV_VV (VV_int_mk ?_)) hk
   ·have hlt : n.toNat < s.length:=(List.getElem?_eq_some_iff.1 hb).1
    have hs : (⟨s.toArray⟩ : ByteArray)[n.toNat]? = some b:=by
     rw [List.getElem?_eq_getElem hlt] at hb
     have h2 : n.toNat < (⟨s.toArray⟩ : ByteArray).size:=by simpa [ByteArray.size] using hlt
     rw [getElem?_pos (⟨s.toArray⟩ : ByteArray) n.toNat h2]
     exact hb
    unfold execOp; rw [ho]
    simp only [Instr.index,e1,e2,Sem.run_bind,run_asInt,Result.andThen_ok,run_underlying hd,h0,if_true,hs,Sem.run_pure]
   ·have:=b.toNat_lt
    simp [InR,IntKind.min,IntKind.max,IntKind.signed,IntKind.bits]; omega
  ·exact h.elim

theorem op_nilCheck {x : Operand} (hr : HR c H) (he : EnvOk c e a) (hx : opdOk x = true) (ho : o.op = .nilCheck x)
  (h : aev e x fun A=>(match A with
  | .ptr _ _ _=>k A H
  | .cp _=>k A H
  | .fn _ _=>k A H
  | _=>False)) : OpRes P o a.eval c H k ks:=by
 obtain ⟨A,hA,h⟩:=aev_sound he hx h
 have run : ∀ v,a.eval x = v → ((∃ ad,v = .pointer (some ad)) ∨ (∃ f x y,v = .func (.func f) x y)) → (execOp a.eval o).run P c.w = .ok (.value v) c.w:=by
  rintro v hv (⟨ad,rfl⟩ | ⟨f,x,y,rfl⟩) <;> (unfold execOp; rw [ho]; simp only [hv]; rfl)
 split at h
 ·obtain ⟨_,e1⟩:=VV_ptr hA
  exact .pure hr (run _ rfl (.inl ⟨_,e1⟩)) hA h
 ·obtain ⟨ad,ds,e1,_⟩:=VV_cp hA
  exact .pure hr (run _ rfl (.inl ⟨_,e1⟩)) hA h
 ·obtain ⟨vs,e1,_⟩:=VV_fn hA
  exact .pure hr (run _ rfl (.inr ⟨_,_,_,e1⟩)) hA h
 ·exact h.elim

theorem VA_get : ∀ {l : List AV} {vs : List Value} {i : Nat} {x : AV},VA c l vs → l[i]? = some x → ∃ v,vs[i]? = some v ∧ VV c x v
 | [],_,_,_,_,h=>by simp at h
 | y :: l,vs,0,x,hr,h=>by
   simp only [VA] at hr
   obtain ⟨v,r,rfl,h2,h3,h4⟩:=hr
   obtain rfl : y = x:=by simpa using h
   exact ⟨v,rfl,h2,h3⟩
 | y :: l,vs,i + 1,x,hr,h=>by
   simp only [VA] at hr
   obtain ⟨v,r,rfl,h2,h3,h4⟩:=hr
   obtain ⟨u,g1,g2⟩:=VA_get (l:=l) (i:=i) h4 (by simpa using h)
   exact ⟨u,by simpa using g1,g2⟩

theorem op_extract {x : Operand} {i : Nat} (hr : HR c H) (he : EnvOk c e a) (hx : opdOk x = true) (ho : o.op = .extract x i)
  (h : aev e x fun A=>(match A with
  | .tup l=>nthC l i fun R=>k R H
  | _=>False)) : OpRes P o a.eval c H k ks:=by
 obtain ⟨A,hA,h⟩:=aev_sound he hx h
 split at h
 ·obtain ⟨R,hR,h⟩:=nthC_iff.1 h
  obtain ⟨vs,e1,h2⟩:=hA
  obtain ⟨v,h3,h4⟩:=VA_get h2 hR
  refine .pure hr (v:=v) ?_ (EV_VV h4) h
  unfold execOp; rw [ho]
  rw [Array.getElem?_toList] at h3
  simp only [Instr.extract,e1,h3,Sem.run_bind,Sem.run_pure,Result.andThen_ok]
 ·exact h.elim

theorem op_unOp {op : UnOp} {t : Nat} {x : Operand} (hr : HR c H) (he : EnvOk c e a) (hx : opdOk x = true) (ho : o.op = .unOp op t x)
  {F : Nat → List AV → Heap → AV → Heap → Prop} {Okay : AV → Prop} (h : aop F Okay L (.unOp op t x) e H k ks) : OpRes P o a.eval c H k ks:=by
 simp only [aop] at h
 cases op with
 | not =>
   obtain ⟨A,hA,h⟩:=aev_sound he hx h
   have h : notA A fun R=>k R H:=h
   have hn : (∀ l,A ≠ .tup l) ∧ A ≠ .und:=by
    refine ⟨?_,?_⟩ <;> intros <;> intro e <;> subst e <;> simp [notA] at h
   have hV:=VV_of_EV_bool hA hn.1 hn.2
   obtain ⟨b,hb⟩:=notA_bool hV h
   rw [hb] at hV
   obtain ⟨R,h1,h2⟩:=notA_sound hV h
   refine .pure hr (v:=.bool !b) ?_ (EV_VV h1) h2
   unfold execOp; rw [ho]
   simp only [Op.unary,hb,Sem.run_bind,Sem.run_pure,Result.andThen_ok]
 | neg =>
   obtain ⟨A,hA,h⟩:=aev_sound he hx h
   have h' : ∃ ka n,A = .int ka n ∧ arith ka (0 - n) fun R=>k R H:=by
    cases A <;> first | exact h.elim | exact ⟨_,_,rfl,h⟩
   obtain ⟨ka,n,rfl,h⟩:=h'
   obtain ⟨e1,_⟩:=EV_int hA
   obtain ⟨R,h1,h2⟩:=arith_sound (c:=c) h
   refine .pure hr ?_ (EV_VV h1) h2
   unfold execOp; rw [ho]
   simp only [Op.unary,e1,Op.intArith,Sem.run_bind,Sem.run_pure,Result.andThen_ok]
 | xor=>obtain ⟨A,hA,h⟩:=aev_sound he hx h; exact h.elim
 | plus=>obtain ⟨A,hA,h⟩:=aev_sound he hx h; exact h.elim

end
end Go.AL

namespace Go.AL

section
variable {P : Program} {L : Lay} {c : Cx} {H : Heap} {e : Env} {a : Act} {k : AV → Heap → Prop} {ks : Heap → Prop} {o : Oper}

theorem push_box (hr : HR c H) {A : AV} {v : Value} (t : Nat) (hv : VV c A v) :
  Tr c H (c.push (.cells v.cells t) ((nextId H,.box A) :: H)) ((nextId H,.box A) :: H):=by
 refine Tr.push hr _ _ (fun _=>rfl) ?_
 refine ⟨v.cells.toList,t,?_,VR_mono (push_le hr _ _) _ _ hv.2,?_⟩
 ·rw [push_ρ hr]; simp only [Cx.push,Array.toArray_toList]; exact alloc_heap_new _ _
 ·intro x hx
  rw [push_ρ hr] at hx
  have:=hr.im _ _ hx
  omega

theorem op_new (hr : HR c H) {A : AV} {v : Value} (t : Nat) (hv : VV c A v) (hrun : (execOp a.eval o).run P c.w = .ok (.value (.pointer (some ⟨c.w.heap.size,0,none⟩))) (c.w.alloc (.cells v.cells t)))
  (h : pushC H (.box A) fun j H'=>k (.ptr j [] 0) H') : OpRes P o a.eval c H k ks:=by
 have h:=pushC_iff.1 h
 have htr:=push_box hr t hv
 refine .inl ⟨_,c.push (.cells v.cells t) ((nextId H,.box A) :: H),_,_,hrun,htr,?_,h⟩
 have:=VV_ptr_mk (c:=c.push (.cells v.cells t) ((nextId H,.box A) :: H)) (i:=nextId H) (off:=0) (p:=[]) (by simp only [Cx.push,hr.nx]; omega)
 rw [push_ρ hr] at this
 exact EV_VV this

theorem op_alloc (hL : LayOk P L) {t : Nat} (hr : HR c H) (ho : o.op = .alloc t) (h : L.getC t fun i=>pushC H (.box i.zero) fun j H'=>k (.ptr j [] 0) H') : OpRes P o a.eval c H k ks:=by
 obtain ⟨i,hT,h⟩:=Lay.getC_ok hL h
 obtain ⟨v,h1,h2,h3⟩:=hT.run_zero c.w
 refine op_new hr t (A:=i.zero) (v:=v) ⟨h2,VR_of_Rd _ _ (h3 _ _)⟩ ?_ h
 unfold execOp; rw [ho]
 simp only [Instr.alloc,Sem.run_bind,h1,Result.andThen_ok,newVar,newRow,run_newObj,Sem.run_pure,World.alloc_eq]

theorem op_box (hL : LayOk P L) {t : Nat} {x : Operand} (hr : HR c H) (he : EnvOk c e a) (hx : opdOk x = true) (ho : o.op = .box t x)
  (h : aev e x fun A=>chkT L t A (pushC H (.box A) fun j H'=>k (.ptr j [] 0) H')) : OpRes P o a.eval c H k ks:=by
 obtain ⟨A,hA,h⟩:=aev_sound he hx h
 obtain ⟨hval,i,hT,_,_,h⟩:=chkT_sound hL h
 refine op_new hr t (EV_val hA hval) ?_ h
 unfold execOp; rw [ho]
 simp only [Instr.box,Sem.run_bind,Result.andThen_ok,newVar,newRow,run_newObj,Sem.run_pure,World.alloc_eq]

theorem bndC_sound {x : Option Operand} {d : Int} {k : Int → Prop} (he : EnvOk c e a) (hx : x.all opdOk = true) (h : bndC e x d k) :
  ∃ n,k n ∧ ((x = none ∧ n = d) ∨ ∃ y kd,x = some y ∧ a.eval y = .int kd n):=by
 cases x with
 | none=>exact ⟨d,h,.inl ⟨rfl,rfl⟩⟩
 | some y =>
   obtain ⟨A,hA,h⟩:=aev_sound he (by simpa using hx) h
   cases A <;> first | exact h.elim | exact ⟨_,h,.inr ⟨_,_,rfl,(EV_int hA).1⟩⟩

theorem run_sliceBound {kd : IntKind} {n : Int} {m : Nat} {w : World} {cd : BoundsCode} (h0 : 0 ≤ n) (h1 : n ≤ (m : Int)) : (Instr.sliceBound (.int kd n) m cd).run P w = .ok n.toNat w:=by
 unfold Instr.sliceBound
 simp only [Sem.run_bind,run_asInt,Result.andThen_ok,h0,h1,and_self,if_true,Sem.run_pure]

theorem run_sliceBounds {b : Bool} {len cap : Nat} {lo hi : Option Operand} {w : World} {l h : Int} (hlc : len ≤ cap)
  (hl : (lo = none ∧ l = 0) ∨ ∃ y kd,lo = some y ∧ a.eval y = .int kd l) (hh : (hi = none ∧ h = (len : Int)) ∨ ∃ y kd,hi = some y ∧ a.eval y = .int kd h)
  (h0 : 0 ≤ l) (h1 : l ≤ h) (h2 : h ≤ (len : Int)) : (Instr.sliceBounds b len cap (lo.map a.eval) (hi.map a.eval) none).run P w = .ok (l.toNat,h.toNat,cap) w:=by
 unfold Instr.sliceBounds
 rcases hh with ⟨rfl,rfl⟩ | ⟨y,kd,rfl,ey⟩ <;> rcases hl with ⟨rfl,rfl⟩ | ⟨z,kd',rfl,ez⟩
 ·simp only [Option.map_none,Sem.run_bind,Sem.run_pure,Result.andThen_ok]; rfl
 ·simp only [Option.map_none,Option.map_some,Sem.run_bind,Sem.run_pure,Result.andThen_ok,ez,run_sliceBound h0 h1,Int.toNat_natCast]
 ·simp only [Option.map_none,Option.map_some,Sem.run_bind,Sem.run_pure,Result.andThen_ok,ey]
  rw [run_sliceBound (by omega) (by omega)]; rfl
 ·simp only [Option.map_some,Sem.run_bind,Sem.run_pure,Result.andThen_ok,ey,ez]
  rw [run_sliceBound (by omega) (by omega)]
  simp only [Result.andThen_ok]
  rw [run_sliceBound h0 (by omega)]; rfl

theorem op_slice (hL : LayOk P L) {t : Nat} {x : Operand} {lo hi : Option Operand} (hr : HR c H) (he : EnvOk c e a) (hx : opdOk x = true) (hlo : lo.all opdOk = true) (hhi : hi.all opdOk = true)
  (ho : o.op = .slice t x lo hi none) (h : aev e x fun A=>aslice L t e A lo hi fun R=>k R H) : OpRes P o a.eval c H k ks:=by
 obtain ⟨A,hA,h⟩:=aev_sound he hx h
 unfold aslice at h
 obtain ⟨i,hT,h⟩:=Lay.getC_ok hL h
 obtain ⟨d,hd,hdd⟩:=hT.under
 split at h
 ·rename_i s hi' _
  obtain rfl:=descOf_str (hdd.trans hi')
  obtain ⟨e1,hs⟩:=EV_str hA
  obtain ⟨l,h,hl⟩:=bndC_sound he hlo h
  obtain ⟨m,h,hm⟩:=bndC_sound he hhi h
  obtain ⟨⟨h0,h1,h2⟩,hk⟩:=h.ex
  refine .pure hr (v:=.string ⟨((s.drop l.toNat).take (m.toNat - l.toNat)).toArray⟩) ?_ (EV_VV (VV_str_mk ?_)) hk
  ·have hsz : (⟨s.toArray⟩ : ByteArray).size = s.length:=by simp [ByteArray.size]
   unfold execOp; rw [ho]
   simp only [Instr.sliceAt,Instr.slice,e1,Sem.run_bind,run_underlying hd,Result.andThen_ok,Option.isSome_none,Bool.false_eq_true,if_false,hsz,Sem.run_pure,Option.map_none]
   rw [run_sliceBounds (P:=P) (a:=a) (Nat.le_refl _) hl hm h0 h1 h2]
   simp only [Result.andThen_ok]
   congr 3
   apply ByteArray.ext
   simp [ByteArray.data_extract]
  ·have : ((s.drop l.toNat).take (m.toNat - l.toNat)).length ≤ s.length:=by simp; omega
   omega
 ·rename_i el sz l tok hi' _
  obtain rfl:=descOf_slice (hdd.trans hi')
  obtain ⟨ei,hE,h⟩:=Lay.getC_ok hL h
  obtain ⟨hsz,h⟩:=beqC_iff.1 h
  subst hsz
  obtain ⟨p,h,hp⟩:=bndC_sound he hlo h
  obtain ⟨q,h,hq⟩:=bndC_sound he hhi h
  obtain ⟨⟨h0,h1,h2⟩,hk⟩:=h.ex
  obtain ⟨hml,hv⟩:=VV_sl hA
  have hlen : ((l.drop p.toNat).take (q.toNat - p.toNat)).length = q.toNat - p.toNat:=by simp; omega
  rcases hv with ⟨rfl,e1⟩ | ⟨ad,cap,e1,hc1,hc2,hs,hre⟩
  ·have hp0 : p = 0:=by simp at h2; omega
   have hq0 : q = 0:=by simp at h2; omega
   subst hp0; subst hq0
   refine .pure hr (v:=.slice none 0 0) ?_ (EV_VV (VV_mk rfl rfl ?_)) hk
   ·unfold execOp; rw [ho]
    simp only [Instr.sliceAt,Instr.slice,e1,Sem.run_bind,run_underlying hd,Result.andThen_ok,Option.map_none]
    rw [run_sliceBounds (P:=P) (a:=a) (Nat.le_refl _) hp (h:=0) (by rcases hq with ⟨h1,_⟩ | h1; exact .inl ⟨h1,rfl⟩; exact .inr h1) (by omega) (by omega) (by simp)]
    simp only [Result.andThen_ok,hE.run_size]
    rfl
   ·simp only [VR,Rd]; exact ⟨by simp,.inl ⟨by simp,trivial⟩⟩
  ·refine .pure hr (v:=.slice (if cap = p.toNat then some ad else some (ad.add (p.toNat * flat ei.zero))) (q.toNat - p.toNat) (cap - p.toNat)) ?_ (EV_VV (VV_mk rfl rfl ?_)) hk
   ·unfold execOp; rw [ho]
    simp only [Instr.sliceAt,Instr.slice,e1,Sem.run_bind,run_underlying hd,Result.andThen_ok,Option.map_none]
    rw [run_sliceBounds (P:=P) (a:=a) hc1 hp hq h0 h1 h2]
    simp only [Result.andThen_ok,hE.run_size,Option.map_some,Sem.run_pure]
   ·simp only [VR,Rd,hlen]
    refine ⟨by omega,.inr ?_⟩
    by_cases hcp : cap = p.toNat
    ·rw [if_pos hcp]
     have hq' : q.toNat - p.toNat = 0:=by omega
     refine ⟨ad,cap - p.toNat,by rw [hq'],by omega,by omega,?_,?_⟩
     ·intro hne; exact absurd (List.eq_nil_of_length_eq_zero (by rw [hlen,hq'])) hne
     ·rw [hq',List.take_zero]; simp only [RdE]
    ·rw [if_neg hcp]
     refine ⟨ad.add (p.toNat * flat ei.zero),cap - p.toNat,rfl,by omega,by omega,?_,?_⟩
     ·intro hne
      unfold Addr.add; split
      ·refine hs ?_
       intro e; subst e; exact hne (by simp)
      ·rfl
     ·have hb : (ad.add (p.toNat * flat ei.zero)).block = ad.block ∧ (ad.add (p.toNat * flat ei.zero)).off = ad.off + p.toNat * flat ei.zero:=by
       unfold Addr.add; split
       ·rename_i h0; rw [h0]; exact ⟨rfl,rfl⟩
       ·exact ⟨rfl,rfl⟩
      rw [hb.1,hb.2]
      exact RdE_take _ (RdE_drop _ hre (by omega))
 ·rename_i el j off len cap sz hi' _
  obtain rfl:=descOf_slice (hdd.trans hi')
  obtain ⟨ei,hE,h⟩:=Lay.getC_ok hL h
  obtain ⟨hsz,h⟩:=beqC_iff.1 h
  subst hsz
  obtain ⟨p,h,hp⟩:=bndC_sound he hlo h
  obtain ⟨q,h,hq⟩:=bndC_sound he hhi h
  obtain ⟨⟨h0,h1,h2⟩,hcp,hk⟩:=h
  obtain ⟨hj,e1,hc1,hc2⟩:=VV_ms hA
  refine .pure hr (v:=.slice (some ⟨c.ρ j,(off + p.toNat) * flat ei.zero,none⟩) (q.toNat - p.toNat) (cap - p.toNat)) ?_ (EV_VV (VV_mk rfl rfl ?_)) hk
  ·unfold execOp; rw [ho]
   simp only [Instr.sliceAt,Instr.slice,e1,Sem.run_bind,run_underlying hd,Result.andThen_ok,Option.map_none]
   rw [run_sliceBounds (P:=P) (a:=a) hc1 hp hq h0 h1 h2]
   simp only [Result.andThen_ok,hE.run_size,Option.map_some,Sem.run_pure]
   rw [if_neg (by omega),addr_add,Nat.add_mul]
  ·simp only [VR]
   exact ⟨hj,trivial,by omega,by omega⟩
 ·exact h.elim

end
end Go.AL

namespace Go.AL

theorem VA_of {c : Cx} : ∀ {As : List AV} {vs : List Value},EVL c As vs → (∀ A ∈ As,isVal A = true) → VA c As vs
 | [],vs,h,_=>by simp only [VA]; exact h
 | A :: As,vs,h,hv=>by
   obtain ⟨v,r,rfl,h1,h2⟩:=h
   simp only [VA]
   exact ⟨v,r,rfl,(EV_val h1 (hv A (by simp))).1,(EV_val h1 (hv A (by simp))).2,VA_of h2 fun x hx=>hv x (by simp [hx])⟩

theorem valsC_iff {k : Prop} : ∀ {As : List AV},valsC As k → (∀ A ∈ As,isVal A = true) ∧ k
 | [],h=>⟨by simp,h⟩
 | A :: As,h=>by
   simp only [valsC] at h
   obtain ⟨h1,h2⟩:=valC_iff.1 h
   obtain ⟨h3,h4⟩:=valsC_iff h2
   exact ⟨by intro x hx; rcases List.mem_cons.1 hx with rfl | hx; exact h1; exact h3 x hx,h4⟩

section
variable {P : Program} {L : Lay} {c : Cx} {H : Heap} {e : Env} {a : Act} {k : AV → Heap → Prop} {ks : Heap → Prop} {o : Oper}

theorem op_convert (hL : LayOk P L) {s d : Nat} {x : Operand} (hr : HR c H) (he : EnvOk c e a) (hx : opdOk x = true) (ho : o.op = .convert s d x)
  (h : aev e x fun A=>L.getC s fun _=>L.getC d fun i=>(match i.desc,A with
  | .int kd,.int _ n=>k (.int kd (kd.wrap n)) H
  | .str,.str s=>k (.str s) H
  | _,_=>False)) : OpRes P o a.eval c H k ks:=by
 obtain ⟨A,hA,h⟩:=aev_sound he hx h
 obtain ⟨i0,hT0,h0⟩:=Lay.getC_ok hL h
 clear h
 obtain ⟨i,hT,h⟩:=Lay.getC_ok hL h0
 clear h0
 obtain ⟨u,hd,hdd⟩:=hT.under
 obtain ⟨us,hs,_⟩:=hT0.under
 split at h
 ·rename_i _ _ kd kd' n hi
  obtain rfl:=descOf_int (hdd.trans hi)
  obtain ⟨e1,_⟩:=EV_int hA
  refine .pure hr (v:=.int kd (kd.wrap n)) ?_ (EV_VV (VV_int_mk (wrap_InR _ _))) h
  unfold execOp; rw [ho]
  simp only [convert,e1,Sem.run_bind,run_underlying hs,run_underlying hd,Result.andThen_ok,Conv.intToInt,Sem.run_pure]
 ·rename_i _ _ b hi
  obtain rfl:=descOf_str (hdd.trans hi)
  obtain ⟨e1,h1⟩:=EV_str hA
  refine .pure hr (v:=a.eval x) ?_ hA h
  unfold execOp; rw [ho]
  simp only [convert,e1,Sem.run_bind,run_underlying hs,run_underlying hd,Result.andThen_ok,Sem.run_pure]
 ·exact h.elim

theorem op_makeInterface (hL : LayOk P L) {t : Nat} {x : Operand} (hr : HR c H) (he : EnvOk c e a) (hx : opdOk x = true) (ho : o.op = .makeInterface t x)
  (h : aev e x fun A=>L.getC t fun i=>(match i.desc with
  | .iface=>False
  | _=>valC A (k (.ifc t A) H))) : OpRes P o a.eval c H k ks:=by
 obtain ⟨A,hA,h⟩:=aev_sound he hx h
 obtain ⟨i,hT,h⟩:=Lay.getC_ok hL h
 obtain ⟨u,hd,hdd⟩:=hT.under
 have h' : i.desc ≠ .iface ∧ isVal A = true ∧ k (.ifc t A) H:=by
  cases hi : i.desc <;> simp only [hi] at h <;> first | exact h.elim | exact ⟨by simp,valC_iff.1 h⟩
 obtain ⟨hne,hval,hk⟩:=h'
 have hV:=EV_val hA hval
 refine .pure hr (v:=.iface t (a.eval x)) ?_ (EV_VV (VV_mk rfl rfl ?_)) hk
 ·unfold execOp; rw [ho]
  have : ∀ ms,u ≠ .interface ms:=by intro ms e; subst e; exact hne hdd.symm
  simp only [Instr.makeInterface,Sem.run_bind,run_underlying hd,Result.andThen_ok]
  cases u <;> first | rfl | exact absurd rfl (this _)
 ·simp only [VR]; exact ⟨_,rfl,hV.1,hV.2⟩

theorem op_makeFunc {f : Fn} {first cap : Array Operand} (hr : HR c H) (he : EnvOk c e a) (hx : cap.toList.all opdOk = true) (ho : o.op = .makeFunc f first cap)
  {F : Nat → List AV → Heap → AV → Heap → Prop} {Okay : AV → Prop} (h : aop F Okay L (.makeFunc f first cap) e H k ks) : OpRes P o a.eval c H k ks:=by
 simp only [aop] at h
 cases f with
 | func g =>
   cases hf : first.toList with
   | nil =>
     rw [hf] at h
     obtain ⟨As,h1,h2⟩:=aevs_sound he hx h
     obtain ⟨h3,h4⟩:=valsC_iff h2
     have hV:=VA_of h1 h3
     obtain rfl : first = #[]:=by cases first; simp_all
     refine .pure hr (v:=.func (.func g) #[] (cap.toList.map a.eval).toArray) ?_ (EV_VV (VV_mk rfl rfl ?_)) h4
     ·unfold execOp; rw [ho]
      simp [Instr.makeFunc]
      exact Array.ext' (by simp)
     ·simp only [VR]; exact ⟨_,rfl,hV⟩
   | cons x l=>rw [hf] at h; exact h.elim
 | _=>exact h.elim

theorem EVL_append : ∀ {As Bs : List AV} {vs us : List Value},EVL c As vs → EVL c Bs us → EVL c (As ++ Bs) (vs ++ us)
 | [],_,_,_,h,g=>by obtain rfl:=h; exact g
 | A :: As,Bs,vs,us,h,g=>by
   obtain ⟨v,r,rfl,h1,h2⟩:=h
   exact ⟨v,r ++ us,rfl,h1,EVL_append h2 g⟩

theorem EVL_of_VA : ∀ {As : List AV} {vs : List Value},VA c As vs → EVL c As vs
 | [],_,h=>by simp only [VA] at h; exact h
 | A :: As,vs,h=>by
   simp only [VA] at h
   obtain ⟨v,r,rfl,h1,h2,h3⟩:=h
   exact ⟨v,r,rfl,EV_VV ⟨h1,h2⟩,EVL_of_VA h3⟩

theorem le0_EV {A B : AV} {v : Value} (h : le0 A B) (hv : EV c A v) : EV c B v:=by
 cases A with
 | tup l=>cases B <;> simp only [le0] at h <;> cases h; exact hv
 | und=>cases B <;> simp only [le0] at h <;> first | (cases h; done) | trivial
 | _=>exact EV_VV (le0_VV h hv)

theorem leL_EVL : ∀ {l m : List AV} {vs : List Value},leL l m → EVL c l vs → EVL c m vs
 | [],[],_,_,hr=>hr
 | [],_ :: _,_,h,_=>by simp only [leL] at h
 | _ :: _,[],_,h,_=>by simp only [leL] at h
 | x :: l,y :: m,vs,h,hr=>by
   simp only [leL] at h
   obtain ⟨v,r,h1,h2,h3⟩:=hr
   exact ⟨v,r,h1,le0_EV h.1 h2,leL_EVL h.2 h3⟩

theorem EVL_cut {G : Heap} (htp : ∀ k n,tpOf G k = some n → c.tp k = some n) : ∀ {l : List AV} {vs : List Value},bndBL (nextId G) l = true → EVL c l vs → EVL (c.cut G) l vs
 | [],_,_,hr=>hr
 | x :: l,vs,hb,hr=>by
   simp only [bndBL] at hb
   obtain ⟨v,r,h1,h2,h3⟩:=hr
   cases hx : bndB (nextId G) x with
   | false=>rw [hx] at hb; cases hb
   | true=>rw [hx] at hb; exact ⟨v,r,h1,EV_cut htp hx h2,EVL_cut htp hb h3⟩

theorem FnH.pure {f : Nat} {Bs : List AV} {R : AV} (h : FnH P f Bs [] R []) (hB : bndBL 0 Bs = true) (hR : bndB 0 R = true) (hr : HR c H) {vs : List Value} (hv : EVL c Bs vs) :
  Calls P f vs.toArray c.w fun e w'=>∃ v d,e = .returned v ∧ d.w = w' ∧ Tr c H d H ∧ EV d R v:=by
 have hr0 : HR (c.cut []) []:=⟨rfl,rfl,trivial,hr.im,by simp,.nil⟩
 have hv0 : EVL (c.cut []) Bs vs:=EVL_cut (G:=[]) (fun k n hn=>by cases hn) hB hv
 refine Calls.mono (w:=(c.cut []).w) (h.2 (c.cut []) vs hr0 hv0) ?_
 rintro _ w' ⟨v,d,rfl,rfl,htr,hV⟩
 refine ⟨v,{ c with w:=d.w,Im:=d.Im },rfl,rfl,?_,?_⟩
 ·refine Tr.keep hr ⟨htr.le.im,Nat.le_refl _,fun _ _=>rfl,fun _ _ _ h=>.inl ⟨h,rfl⟩⟩ rfl rfl rfl htr.os htr.tape htr.output htr.size (fun b hb=>htr.fr b hb (by simp)) (fun b o ho=>?_)
  rcases htr.imb b o ho with h | h | ⟨x,hx,_⟩
  ·exact .inl h
  ·exact .inr ⟨h,htr.hr.im b o ho⟩
  ·simp at hx
 ·have h1 : EV (d.cut []) R v:=EV_cut (G:=[]) (fun k n hn=>by cases hn) hR hV
  refine EV_mono (c:=d.cut []) (d:={ c with w:=d.w,Im:=d.Im }) ⟨fun _ _ h=>⟨h,rfl⟩,Nat.zero_le _,fun k hk=>?_,fun k n hk=>?_⟩ h1
  ·simp [Cx.cut,nextId] at hk
  ·simp [Cx.cut,nextId] at hk

theorem op_call_value {F : Nat → List AV → Heap → AV → Heap → Prop} (hFn : ∀ f args H R H',F f args H R H' → FnH P f args H R H') {f : Operand} {cl : Call} (hr : HR c H) (he : EnvOk c e a) (hf : opdOk f = true) (hx : cl.args.toList.all opdOk = true) (ho : o.op = .call cl) (hc : cl.callee = .value f)
  (h : aev e f fun A=>(match A with
   | .fn g cap=>aevs e cl.args.toList fun As=>appC As cap fun Bs=>ACall F Ok g Bs H k
   | _=>False)) : OpRes P o a.eval c H k ks:=by
 obtain ⟨A,hA,h⟩:=aev_sound he hf h
 split at h
 ·rename_i g cap
  obtain ⟨vs,e1,h1⟩:=VV_fn hA
  obtain ⟨As,h2,h3⟩:=aevs_sound he hx h
  have h3:=appC_iff.1 h3
  have key : ∃ R H',(∃ fn,P.funcs[g]? = some fn ∧ (fn.name == "runtime.NumGoroutine") = false ∧ fn.body.isSome = true) ∧
    (Calls P g (cl.args.toList.map a.eval ++ vs).toArray c.w fun e w'=>∃ v d,e = .returned v ∧ d.w = w' ∧ Tr c H d H' ∧ EV d R v) ∧ k R H':=by
   have fin : ∀ {R H'},(Calls P g (cl.args.toList.map a.eval ++ vs).toArray c.w fun e w'=>∃ v d,e = .returned v ∧ d.w = w' ∧ Tr c H d H' ∧ EV d R v) → Ok R:=by
    intro R H' hcall
    obtain ⟨e',w',fr,⟨v,d,_,_,_,h8⟩,_⟩:=hcall []
    exact EV_ok h8
   cases h3 with
   | gen R H' hF hk =>
     have hF:=hFn _ _ _ _ _ hF
     have hcall:=hF.2 c _ hr (EVL_append h2 (EVL_of_VA h1))
     exact ⟨R,H',hF.1,hcall,hk (fin hcall)⟩
   | pure Bs R hle hb hF hk =>
     have hF:=hFn _ _ _ _ _ hF
     have hcall:=FnH.pure hF hb.1 hb.2 hr (leL_EVL hle (EVL_append h2 (EVL_of_VA h1)))
     exact ⟨R,H,hF.1,hcall,hk (fin hcall)⟩
  obtain ⟨R,H',⟨fn,f1,f2,f3⟩,hcall,hk⟩:=key
  ·refine .inr (.inr ⟨g,_,R,H',?_,hcall,hk⟩)
   unfold execOp; rw [ho]
   simp only [resolve,hc,e1,Deferred.ofValue,Sem.run_bind,Sem.run_pure,Result.andThen_ok,invoke,callFunc,run_program,f1,f2,Bool.false_eq_true,if_false]
   have : fn.body.isNone = false:=by cases hb : fn.body <;> simp [hb] at f3 ⊢
   simp only [this,Bool.false_eq_true,if_false,Sem.run_pure]
   congr 2
   simp
 ·exact h.elim

theorem run_builtin {cl : Call} {b : Builtin} (ho : o.op = .call cl) (hc : cl.callee = .builtin b) {w : World} :
  (execOp a.eval o).run P w = (builtin b cl.argTypes o.type (cl.args.map fun | .const _=>true | _=>false) (cl.args.map a.eval)).run P w:=by
 unfold execOp; rw [ho]
 simp only [resolve,hc,Sem.run_bind,Sem.run_pure,Result.andThen_ok,invoke]
 rfl

theorem EVL_one {A : AV} {vs : List Value} (h : EVL c [A] vs) : ∃ v,vs = [v] ∧ EV c A v:=by
 obtain ⟨v,r,rfl,h1,h2⟩:=h; obtain rfl:=h2; exact ⟨v,rfl,h1⟩
theorem EVL_two {A B : AV} {vs : List Value} (h : EVL c [A,B] vs) : ∃ v u,vs = [v,u] ∧ EV c A v ∧ EV c B u:=by
 obtain ⟨v,r,rfl,h1,h2⟩:=h; obtain ⟨u,rfl,h3⟩:=EVL_one h2; exact ⟨v,u,rfl,h1,h3⟩

theorem map_eval_eq {xs : Array Operand} {ρ : Operand → Value} {vs : List Value} (h : xs.toList.map ρ = vs) : xs.map ρ = vs.toArray:=by
 subst h; exact Array.ext' (by simp)

end
end Go.AL

namespace Go.AL

def RdF (w : World) (Im : Nat → Nat → Prop) (sz : Nat) : List AV → List Value → Prop
 | [],cs=>cs = []
 | x :: l,cs=>∃ a d,cs = a ++ d ∧ a.length = sz ∧ Rd w Im x a ∧ RdF w Im sz l d

theorem RdF_length {w : World} {Im : Nat → Nat → Prop} {sz : Nat} : ∀ {l : List AV} {cs : List Value},RdF w Im sz l cs → cs.length = l.length * sz
 | [],_,h=>by obtain rfl:=h; simp
 | x :: l,cs,h=>by
   obtain ⟨a,d,rfl,h1,_,h3⟩:=h
   simp only [List.length_append,List.length_cons,Nat.add_mul,RdF_length h3,h1]; omega

theorem RdF_append {w : World} {Im : Nat → Nat → Prop} {sz : Nat} : ∀ {l m : List AV} {cs ds : List Value},RdF w Im sz l cs → RdF w Im sz m ds → RdF w Im sz (l ++ m) (cs ++ ds)
 | [],_,_,_,h,g=>by obtain rfl:=h; exact g
 | x :: l,m,cs,ds,h,g=>by
   obtain ⟨a,d,rfl,h1,h2,h3⟩:=h
   exact ⟨a,d ++ ds,by simp,h1,h2,RdF_append h3 g⟩

theorem RdF_mono {w w' : World} {Im Im' : Nat → Nat → Prop} (h : ∀ b o,Im b o → Im' b o ∧ w'.cell? ⟨b,o,none⟩ = w.cell? ⟨b,o,none⟩) {sz : Nat} :
  ∀ {l : List AV} {cs : List Value},RdF w Im sz l cs → RdF w' Im' sz l cs
 | [],_,hr=>hr
 | x :: l,cs,hr=>by
   obtain ⟨a,d,h1,h2,h3,h4⟩:=hr
   exact ⟨a,d,h1,h2,Rd_mono h _ _ h3,RdF_mono h h4⟩

theorem RdF_oneCell {c : Cx} {sz : Nat} : ∀ {l : List AV} {cs : List Value},RdF c.w c.Im sz l cs → ∀ u ∈ cs,u.oneCell' = true
 | [],_,h=>by obtain rfl:=h; simp
 | x :: l,cs,h=>by
   obtain ⟨a,d,rfl,h1,h2,h3⟩:=h
   intro u hu
   rcases List.mem_append.1 hu with hu | hu
   ·exact VR_oneCell x a (VR_of_Rd _ _ h2) u hu
   ·exact RdF_oneCell h3 u hu

theorem RdF_of_RdE {w : World} {Im : Nat → Nat → Prop} {sz b : Nat} : ∀ {l : List AV} {off : Nat},RdE w Im sz b l off →
  ∃ cs,RdF w Im sz l cs ∧ ∀ j v,cs[j]? = some v → w.cell? ⟨b,off + j,none⟩ = some v
 | [],off,_=>⟨[],rfl,by simp⟩
 | x :: l,off,h=>by
   simp only [RdE] at h
   obtain ⟨⟨a,h1,h2,h3⟩,h4⟩:=h
   obtain ⟨d,h5,h6⟩:=RdF_of_RdE h4
   refine ⟨a ++ d,⟨a,d,rfl,h1,h3,h5⟩,fun j v hj=>?_⟩
   by_cases hlt : j < a.length
   ·rw [List.getElem?_append_left hlt] at hj; exact (h2 j v hj).1
   ·rw [List.getElem?_append_right (by omega)] at hj
    have:=h6 _ v hj
    have e : off + sz + (j - a.length) = off + j:=by omega
    rw [e] at this; exact this

theorem RdE_of_RdF {w : World} {Im : Nat → Nat → Prop} {sz b : Nat} : ∀ {l : List AV} {cs : List Value} {off : Nat},RdF w Im sz l cs → cellsAt w Im b off cs → RdE w Im sz b l off
 | [],_,_,_,_=>by simp only [RdE]
 | x :: l,cs,off,h,hc=>by
   obtain ⟨a,d,rfl,h1,h2,h3⟩:=h
   simp only [RdE]
   refine ⟨⟨a,h1,fun j v hj=>hc j v (by rw [List.getElem?_append_left (List.getElem?_eq_some_iff.1 hj).1]; exact hj),h2⟩,RdE_of_RdF h3 fun j v hj=>?_⟩
   have:=hc (a.length + j) v (by rw [List.getElem?_append_right (by omega),Nat.add_sub_cancel_left]; exact hj)
   rw [← h1,Nat.add_assoc]; exact this

theorem RdF_of_VRE {c : Cx} {sz : Nat} : ∀ {l : List AV} {cs : List Value},VRE c sz l cs → ∃ a d,cs = a ++ d ∧ RdF c.w c.Im sz l a
 | [],cs,_=>⟨[],cs,rfl,rfl⟩
 | x :: l,cs,h=>by
   obtain ⟨a,d,rfl,h1,h2,h3⟩:=h
   obtain ⟨a',d',rfl,h4⟩:=RdF_of_VRE h3
   exact ⟨a ++ a',d',by simp,a,a',rfl,h1,h2,h4⟩

theorem VRE_of_RdF {c : Cx} {sz : Nat} {rest : List Value} : ∀ {l : List AV} {cs : List Value},RdF c.w c.Im sz l cs → VRE c sz l (cs ++ rest)
 | [],_,_=>trivial
 | x :: l,cs,h=>by
   obtain ⟨a,d,rfl,h1,h2,h3⟩:=h
   exact ⟨a,d ++ rest,by simp,h1,h2,VRE_of_RdF h3⟩

theorem RdF_drop {w : World} {Im : Nat → Nat → Prop} {sz : Nat} : ∀ {l : List AV} {cs : List Value} (n : Nat),RdF w Im sz l cs → n ≤ l.length → RdF w Im sz (l.drop n) (cs.drop (n * sz))
 | l,cs,0,h,_=>by simpa using h
 | [],cs,n + 1,_,h=>by simp at h
 | x :: l,cs,n + 1,h,hn=>by
   obtain ⟨a,d,rfl,h1,h2,h3⟩:=h
   have:=RdF_drop n h3 (by simpa using hn)
   have e : (n + 1) * sz = a.length + n * sz:=by rw [Nat.add_mul,h1]; omega
   simp only [List.drop_succ_cons]
   rw [e,List.drop_append,List.drop_eq_nil_of_le (as:=a) (by omega),Nat.add_sub_cancel_left,List.nil_append]
   exact this

theorem RdF_take {w : World} {Im : Nat → Nat → Prop} {sz : Nat} : ∀ {l : List AV} {cs : List Value} (n : Nat),RdF w Im sz l cs → RdF w Im sz (l.take n) (cs.take (n * sz))
 | l,cs,0,h=>by simp [RdF]
 | [],cs,n + 1,h=>by obtain rfl:=h; simp [RdF]
 | x :: l,cs,n + 1,h=>by
   obtain ⟨a,d,rfl,h1,h2,h3⟩:=h
   have:=RdF_take n h3
   have e : (n + 1) * sz = a.length + n * sz:=by rw [Nat.add_mul,h1]; omega
   simp only [List.take_succ_cons]
   rw [e,List.take_append,List.take_of_length_le (l:=a) (by omega),Nat.add_sub_cancel_left]
   exact ⟨a,_,rfl,h1,h2,this⟩

section
variable {P : Program} {L : Lay} {c : Cx} {H : Heap} {e : Env} {a : Act} {k : AV → Heap → Prop} {ks : Heap → Prop} {o : Oper}

theorem len_InR {n : Nat} (h : n ≤ maxL) : InR .i64 (n : Int):=by
 unfold maxL at h
 simp [InR,IntKind.min,IntKind.max,IntKind.signed,IntKind.bits]; omega

theorem op_len {cl : Call} {t : Nat} {i : TI} {A : AV} (hr : HR c H) (ho : o.op = .call cl) (hc : cl.callee = .builtin .len) (hat : cl.argTypes[0]? = some t) (hT : TIOk P t i)
  {v : Value} (hv : cl.args.toList.map a.eval = [v]) (hA : EV c A v) (h : alen i.desc A H fun R=>k R H) : OpRes P o a.eval c H k ks:=by
 obtain ⟨d,hd,hdd⟩:=hT.under
 have run : ∀ r,(Builtin.len_ cl.argTypes o.type #[v]).run P c.w = .ok r c.w → (execOp a.eval o).run P c.w = .ok (.value r) c.w:=by
  intro r hrr
  rw [run_builtin ho hc,map_eval_eq hv]
  simp only [builtin,Sem.run_bind,hrr,Result.andThen_ok,Sem.run_pure]
 have base : ∀ (u : Value) (n : Int),v = u → ((d = .string ∧ ∃ s,u = .string s ∧ n = s.size) ∨ (∃ el,d = .slice el) ∧ (∃ b m cp,u = .slice b m cp ∧ n = m) ∨ (∃ p q,d = .map p q) ∧ u = .map none ∧ n = 0) →
   (execOp a.eval o).run P c.w = .ok (.value (.int .i64 n)) c.w:=by
  rintro u n rfl hcases
  refine run _ ?_
  unfold Builtin.len_
  rcases hcases with ⟨rfl,s,rfl,rfl⟩ | ⟨⟨el,rfl⟩,b,m,cp,rfl,rfl⟩ | ⟨⟨p,q,rfl⟩,rfl,rfl⟩
  ·simp only [hat,List.getElem?_toArray,List.getElem?_cons_zero,Sem.run_bind,run_underlying hd,Result.andThen_ok,Sem.run_pure,goInt]
  ·simp only [hat,List.getElem?_toArray,List.getElem?_cons_zero,Sem.run_bind,run_underlying hd,Result.andThen_ok,Sem.run_pure,goInt]
  ·simp only [hat,List.getElem?_toArray,List.getElem?_cons_zero,Sem.run_bind,run_underlying hd,Result.andThen_ok,Sem.run_pure,goInt]
 unfold alen at h
 split at h
 ·rename_i el hi
  obtain rfl:=descOf_slice (hdd.trans hi)
  exact .pure hr (base _ 0 (VV_nils hA) (.inr (.inl ⟨⟨_,rfl⟩,_,_,_,rfl,rfl⟩))) (EV_VV (VV_int_mk (len_InR (n:=0) (by simp [maxL])))) h
 ·rename_i el sz l tok hi
  obtain rfl:=descOf_slice (hdd.trans hi)
  obtain ⟨h1,h2⟩:=VV_sl hA
  refine .pure hr (base v l.length rfl (.inr (.inl ⟨⟨_,rfl⟩,?_⟩))) (EV_VV (VV_int_mk (len_InR h1))) h
  rcases h2 with ⟨rfl,e⟩ | ⟨ad,cap,e,_⟩
  ·exact ⟨_,_,_,e,rfl⟩
  ·exact ⟨_,_,_,e,rfl⟩
 ·rename_i el j off len cap sz hi
  obtain rfl:=descOf_slice (hdd.trans hi)
  obtain ⟨_,e,h1,h2⟩:=VV_ms hA
  exact .pure hr (base _ len e (.inr (.inl ⟨⟨_,rfl⟩,_,_,_,rfl,rfl⟩))) (EV_VV (VV_int_mk (len_InR (Nat.le_trans h1 h2)))) h
 ·rename_i s hi
  obtain rfl:=descOf_str (hdd.trans hi)
  obtain ⟨e,h1⟩:=VV_str hA
  exact .pure hr (base _ s.length e (.inl ⟨rfl,_,rfl,by simp [ByteArray.size]⟩)) (EV_VV (VV_int_mk (len_InR h1))) h
 ·rename_i p q hi
  obtain rfl:=descOf_map (hdd.trans hi)
  exact .pure hr (base _ 0 (VV_nilm hA) (.inr (.inr ⟨⟨_,_,rfl⟩,rfl,rfl⟩))) (EV_VV (VV_int_mk (len_InR (n:=0) (by simp [maxL])))) h
 ·exact h.elim

theorem op_max {cl : Call} {A B : AV} (hr : HR c H) (ho : o.op = .call cl) (hc : cl.callee = .builtin .max) {v u : Value} (hv : cl.args.toList.map a.eval = [v,u]) (hA : EV c A v) (hB : EV c B u)
  (h : maxA A B fun R=>k R H) : OpRes P o a.eval c H k ks:=by
 unfold maxA at h
 split at h
 ·rename_i ka m kb n
  split at h
  ·obtain rfl:=ikeq_eq ‹_›
   obtain ⟨rfl,r1⟩:=EV_int hA
   obtain ⟨rfl,r2⟩:=EV_int hB
   refine .pure hr (v:=.int ka (max m n)) ?_ (EV_VV (VV_int_mk ?_)) h
   ·rw [run_builtin ho hc,map_eval_eq hv]
    have : (if n > m then n else m) = max m n:=by omega
    simp [builtin,Builtin.max_,Builtin.max2,this]
   ·unfold InR at *; omega
  ·exact h.elim
 ·exact h.elim

theorem op_min {cl : Call} {A B : AV} (hr : HR c H) (ho : o.op = .call cl) (hc : cl.callee = .builtin .min) {v u : Value} (hv : cl.args.toList.map a.eval = [v,u]) (hA : EV c A v) (hB : EV c B u)
  (h : minA A B fun R=>k R H) : OpRes P o a.eval c H k ks:=by
 unfold minA at h
 split at h
 ·rename_i ka m kb n
  split at h
  ·obtain rfl:=ikeq_eq ‹_›
   obtain ⟨rfl,r1⟩:=EV_int hA
   obtain ⟨rfl,r2⟩:=EV_int hB
   refine .pure hr (v:=.int ka (min m n)) ?_ (EV_VV (VV_int_mk ?_)) h
   ·rw [run_builtin ho hc,map_eval_eq hv]
    have : (if n < m then n else m) = min m n:=by omega
    simp [builtin,Builtin.min_,Builtin.min2,this]
   ·unfold InR at *; omega
  ·exact h.elim
 ·exact h.elim

theorem op_min3 {cl : Call} {A B C : AV} (hr : HR c H) (ho : o.op = .call cl) (hc : cl.callee = .builtin .min) {v u x : Value} (hv : cl.args.toList.map a.eval = [v,u,x]) (hA : EV c A v) (hB : EV c B u) (hC : EV c C x)
  (h : minA A B fun R=>minA R C fun R=>k R H) : OpRes P o a.eval c H k ks:=by
 unfold minA at h
 split at h
 ·rename_i ka m kb n
  split at h
  ·obtain rfl:=ikeq_eq ‹_›
   obtain ⟨rfl,r1⟩:=EV_int hA
   obtain ⟨rfl,r2⟩:=EV_int hB
   split at h
   ·rename_i kc p kd q he
    injection he with e1 e2
    subst e1 e2
    split at h
    ·obtain rfl:=ikeq_eq ‹_›
     obtain ⟨rfl,r3⟩:=EV_int hC
     refine .pure hr (v:=.int ka (min (min m n) q)) ?_ (EV_VV (VV_int_mk ?_)) h
     ·rw [run_builtin ho hc,map_eval_eq hv]
      have h1 : (if n < m then n else m) = min m n:=by omega
      have h2 : (if q < min m n then q else min m n) = min (min m n) q:=by omega
      simp [builtin,Builtin.min_,Builtin.min2,h1,h2]
     ·unfold InR at *; omega
    ·exact h.elim
   ·exact h.elim
  ·exact h.elim
 ·exact h.elim

end
end Go.AL

namespace Go.AL

section
variable {P : Program} {L : Lay} {c : Cx} {H : Heap} {e : Env} {a : Act} {k : AV → Heap → Prop} {ks : Heap → Prop} {o : Oper}

theorem madeCells_succ (z : Array Value) (m : Nat) (_hz : 0 < z.size) : (madeCells z ((m + 1) * z.size)).toList = z.toList ++ (madeCells z (m * z.size)).toList:=by
 unfold madeCells
 simp only [Array.toList_map,Array.toList_range]
 have e1 : (m + 1) * z.size = z.size + m * z.size:=by rw [Nat.add_mul]; omega
 rw [e1,List.range_add,List.map_append,List.map_map]
 congr 1
 ·apply List.ext_getElem
  ·simp
  ·intro i h1 h2
   simp at h1 h2
   simp [Nat.mod_eq_of_lt h1,h1]
 ·apply List.map_congr_left
  intro x _
  simp

theorem RdF_made {w : World} {Im : Nat → Nat → Prop} {z : AV} {v : Value} (hv : Rd w Im z v.cells.toList) : ∀ (m : Nat),RdF w Im (flat z) (List.replicate m z) (madeCells v.cells (m * flat z)).toList:=by
 have hsz : v.cells.size = flat z:=by rw [← Array.length_toList]; exact Rd_length _ _ hv
 intro m
 rcases Nat.eq_zero_or_pos (flat z) with h0 | hp
 ·have : (madeCells v.cells (m * flat z)).toList = []:=by rw [h0]; simp [madeCells]
  rw [this]
  have hvz : v.cells.toList = []:=List.eq_nil_of_length_eq_zero (by rw [Array.length_toList,hsz,h0])
  induction m with
  | zero=>rfl
  | succ m ih=>exact ⟨[],[],rfl,by simp [h0],by rw [← hvz]; exact hv,ih (by rw [h0]; simp [madeCells])⟩
 ·induction m with
  | zero=>simp [madeCells,RdF]
  | succ m ih =>
    have:=madeCells_succ v.cells m (by omega)
    rw [hsz] at this
    rw [this]
    exact ⟨_,_,rfl,by rw [Array.length_toList,hsz],hv,ih⟩

theorem RdF_take' {w : World} {Im : Nat → Nat → Prop} {sz n m : Nat} {z : AV} {cs : List Value} (h : RdF w Im sz (List.replicate m z) cs) (hn : n ≤ m) :
  RdF w Im sz (List.replicate n z) (cs.take (n * sz)):=by
 have:=RdF_take n h
 rwa [List.take_replicate,Nat.min_eq_left hn] at this

theorem op_makeSlice (hL : LayOk P L) {t : Nat} {x y : Operand} (hr : HR c H) (he : EnvOk c e a) (hx : opdOk x = true) (hy : opdOk y = true) (ho : o.op = .makeSlice t x y)
  (h : aev e x fun A=>aev e y fun B=>L.getC t fun i=>(match i.desc,A,B with
  | .slice el,.int _ n,.int _ m=>L.getC el fun ei=>(0 ≤ n ∧ n ≤ m ∧ m * (ei.bytes : Int) ≤ 281474976710656 ∧ m ≤ 9223372036854775807) ∧
    AMake m.toNat n.toNat (flat ei.zero) ei.zero H k
  | _,_,_=>False)) : OpRes P o a.eval c H k ks:=by
 obtain ⟨A,hA,h⟩:=aev_sound he hx h
 obtain ⟨B,hB,h⟩:=aev_sound he hy h
 obtain ⟨i,hT,h⟩:=Lay.getC_ok hL h
 obtain ⟨d,hd,hdd⟩:=hT.under
 split at h
 ·rename_i el ka n kb m hi _ _
  obtain rfl:=descOf_slice (hdd.trans hi)
  obtain ⟨ei,hE,⟨h0,h1,h2,h3⟩,h⟩:=Lay.getC_ok hL h
  obtain ⟨e1,_⟩:=EV_int hA
  obtain ⟨e2,_⟩:=EV_int hB
  obtain ⟨info,z,g1,g2,g3,g4,g5,g6⟩:=hE.info
  have hrun:=run_make (P:=P) c.w t el info z hd g1 g4 ka kb n m h0 h1 (by rw [g3,Int.mul_comm]; exact h2) h3
  rw [g2] at hrun
  have hex : (execOp a.eval o).run P c.w = .ok (.value (.slice (some ⟨c.w.heap.size,0,none⟩) n.toNat m.toNat)) (c.w.alloc (.cells (madeCells z.cells (m.toNat * flat ei.zero)) el)):=by
   unfold execOp; rw [ho]
   simp only [e1,e2,Sem.run_bind,hrun,Result.andThen_ok,Sem.run_pure]
  have hcs : ∀ w Im,RdF w Im (flat ei.zero) (List.replicate m.toNat ei.zero) (madeCells z.cells (m.toNat * flat ei.zero)).toList:=fun w Im=>RdF_made (g6 w Im) _
  cases h with
  | pure h =>
    refine .inl ⟨_,c.alloc _,_,H,hex,Tr.alloc hr _,EV_VV (VV_mk rfl rfl ?_),h.2⟩
    simp only [VR,Rd]
    have hnm : n.toNat = m.toNat:=h.1
    refine ⟨⟨by simp [maxL]; omega,.inr ⟨⟨c.w.heap.size,0,none⟩,m.toNat,by simp,by simp; omega,by simp [maxL]; omega,fun _=>rfl,?_⟩⟩,⟨some ⟨c.w.heap.size,0,none⟩,by simp [hnm]⟩⟩
    rw [hnm]
    refine RdE_of_RdF (hcs _ _) fun j v hj=>⟨?_,.inr rfl⟩
    rw [Nat.zero_add]
    show (c.w.alloc _).cell? ⟨c.w.heap.size,j,none⟩ = _
    rw [cell_of_heap (alloc_heap_new c.w _),← Array.getElem?_toList]; exact hj
  | wr h =>
    have htr : Tr c H (c.push (.cells (madeCells z.cells (m.toNat * flat ei.zero)) el) ((nextId H,.arr (flat ei.zero) m.toNat (List.replicate n.toNat ei.zero)) :: H)) ((nextId H,.arr (flat ei.zero) m.toNat (List.replicate n.toNat ei.zero)) :: H):=by
     refine Tr.push hr _ _ (fun _=>rfl) ?_
     refine ⟨(madeCells z.cells (m.toNat * flat ei.zero)).toList,el,?_,?_,by simp; omega,by simp [maxL]; omega,?_,?_⟩
     ·rw [push_ρ hr]; simp only [Cx.push,Array.toArray_toList]; exact alloc_heap_new _ _
     ·rw [Array.length_toList,size_madeCells]
     ·have h5:=RdF_take' (n:=n.toNat) (hcs (c.push (.cells (madeCells z.cells (m.toNat * flat ei.zero)) el) ((nextId H,.arr (flat ei.zero) m.toNat (List.replicate n.toNat ei.zero)) :: H)).w (c.push (.cells (madeCells z.cells (m.toNat * flat ei.zero)) el) ((nextId H,.arr (flat ei.zero) m.toNat (List.replicate n.toNat ei.zero)) :: H)).Im) (by omega)
      have h6:=VRE_of_RdF (c:=c.push (.cells (madeCells z.cells (m.toNat * flat ei.zero)) el) ((nextId H,.arr (flat ei.zero) m.toNat (List.replicate n.toNat ei.zero)) :: H)) (rest:=(madeCells z.cells (m.toNat * flat ei.zero)).toList.drop (n.toNat * flat ei.zero)) h5
      rwa [List.take_append_drop] at h6
     ·intro y hy
      rw [push_ρ hr] at hy
      have:=hr.im _ _ hy
      omega
    refine .inl ⟨_,_,_,_,hex,htr,EV_VV (VV_mk rfl rfl ?_),h⟩
    simp only [VR]
    rw [push_ρ hr]
    refine ⟨by simp only [Cx.push,hr.nx]; omega,by simp,by omega,by simp [maxL]; omega⟩
 ·exact h.elim

end
end Go.AL

namespace Go.AL

structure Src (P : Program) (sz : Nat) (w : World) (x : Value) (m : Nat) (news : List Value) : Prop where
 len : ∀ w',(Builtin.lenOf x).run P w' = .ok m w'
 cells : ∀ n',(Builtin.firstCells sz m x).run P { w with drawn:=n' } = .ok news.toArray { w with drawn:=n' }

section
variable {P : Program} {w : World} {t u ty el sz : Nat} {info : TypeInfo} {z : Value} {base : Option Addr} {n cap m : Nat} {x : Value} {news : List Value}

theorem run_app_room {d : TypeDesc} (ht : P.underlying t = some (.slice el)) (hu : P.underlying u = some d) (hd : (∃ e,d = .slice e) ∨ d = .string) (hi : P.info? el = some info) (hs : info.size = sz)
  (hx : Src P sz w x m news) (hc : n + m ≤ cap) {w' : World}
  (hst : ∀ ad,base = some ad → (storeCells (ad.add (n * sz)) news).run P w = .ok () w') (hno : base = none → w' = w) :
  (Builtin.append_ #[t,u] ty #[.slice base n cap,x]).run P w = .ok (.slice base (n + m) cap) w':=by
 have h1:=hx.len w
 have h2:=hx.cells w.drawn
 have hsz : (sizeOf el).run P w = .ok sz w:=by unfold sizeOf typeInfo; simp [hi,hs]
 unfold Builtin.append_
 simp only [List.getElem?_toArray,List.getElem?_cons_zero,List.getElem?_cons_succ,Sem.run_bind,run_underlying ht,run_underlying hu,Result.andThen_ok,hsz,Sem.run_pure]
 rcases hd with ⟨e',rfl⟩ | rfl
 all_goals
  simp only [Bool.false_eq_true,if_false,Bool.not_false,if_true,h1,Result.andThen_ok,hc,Sem.run_bind]
  have h2' : (Builtin.firstCells sz m x).run P w = .ok news.toArray w:=h2
  simp only [h2',Result.andThen_ok]
  cases base with
  | none=>obtain rfl:=hno rfl; rfl
  | some ad =>
    simp only [Sem.run_bind,hst ad rfl,Result.andThen_ok]
    rfl

theorem run_app_grow {d : TypeDesc} (ht : P.underlying t = some (.slice el)) (hu : P.underlying u = some d) (hd : (∃ e,d = .slice e) ∨ d = .string) (hi : P.info? el = some info) (hs : info.size = sz) (hz : info.zero = some z)
  (hx : Src P sz w x m news) (hc : cap < n + m) (hm : n + m ≤ maxL) (hb : (n + m) * info.bytes ≤ 140737488355328) {olds : List Value}
  (hold : ∀ n',(Builtin.firstCells sz n (.slice base n cap)).run P { w with drawn:=n' } = .ok olds.toArray { w with drawn:=n' }) :
  (Builtin.append_ #[t,u] ty #[.slice base n cap,x]).run P w = .ok (.slice (some ⟨w.heap.size,0,none⟩) (n + m) (grownCap w (n + m) cap el))
   (w.drew.alloc (.cells (olds.toArray ++ news.toArray ++ Builtin.zeroCells z.cells (grownCap w (n + m) cap el - (n + m))) el)):=by
 have h1:=hx.len w
 have h2 : (Builtin.firstCells sz m x).run P w.drew = .ok news.toArray w.drew:=hx.cells (w.drawn + 1)
 have h3 : (Builtin.firstCells sz n (.slice base n cap)).run P w.drew = .ok olds.toArray w.drew:=hold (w.drawn + 1)
 have hsz : (sizeOf el).run P w = .ok sz w:=by unfold sizeOf typeInfo; simp [hi,hs]
 have hti : ∀ w,(typeInfo el).run P w = .ok info w:=by intro w; unfold typeInfo; simp [hi]
 have hzv : ∀ w,(zeroValue el).run P w = .ok z w:=by intro w; unfold zeroValue; simp [hti,hz]
 have hfit:=growslice_fits hc hb
 have e1 : ¬ (n + m ≤ cap):=by omega
 have e2 : ¬ (((n + m : Nat) : Int) > IntKind.i64.max ∧ (False ∨ info.bytes = 0)):=by
  rintro ⟨h,_⟩
  simp [IntKind.max,IntKind.signed,IntKind.bits] at h
  unfold maxL at hm; omega
 have e3 : ¬ (Builtin.nextslicecap (n + m) cap * info.bytes > 2 ^ 48):=by
  have : (2 : Nat) ^ 48 = 281474976710656:=by decide
  omega
 unfold Builtin.append_
 simp only [List.getElem?_toArray,List.getElem?_cons_zero,List.getElem?_cons_succ,Sem.run_bind,run_underlying ht,run_underlying hu,Result.andThen_ok,hsz,Sem.run_pure]
 rcases hd with ⟨e',rfl⟩ | rfl
 all_goals
  simp only [Bool.false_eq_true,if_false,Bool.not_false,if_true,h1,Result.andThen_ok,e1,Sem.run_bind,hti]
  simp only [e2,if_false,e3,Result.andThen_ok,run_choose,Question.forced,Bool.false_eq_true,Sem.run_bind,hti,run_askRoom,World.drew_eq,h3,h2,hzv,newRow,run_newObj,Sem.run_pure,World.alloc_eq]
  rfl
end

theorem Src.slice {P : Program} {c : Cx} {sz : Nat} {ad : Addr} {m cp : Nat} {news : List Value} (hl : news.length = m * sz) (h : ∀ j v,news[j]? = some v → c.w.cell? (ad.add j) = some v) :
  Src P sz c.w (.slice (some ad) m cp) m news :=
 ⟨fun _=>rfl,fun n'=>run_firstCells_some (P:=P) { c.w with drawn:=n' } sz m ad m cp news hl h⟩

theorem Src.nil {P : Program} {w : World} {sz cp : Nat} : Src P sz w (.slice none 0 cp) 0 []:=⟨fun _=>rfl,fun _=>rfl⟩

theorem Src.str {P : Program} {w : World} (s : List UInt8) : Src P 1 w (.string ⟨s.toArray⟩) s.length (s.map fun b=>Value.int .u8 b.toNat):=by
 refine ⟨fun _=>by simp [Builtin.lenOf,ByteArray.size],fun n'=>?_⟩
 simp only [Builtin.firstCells,Sem.run_pure]
 congr 1
 have : (ByteArray.extract ⟨s.toArray⟩ 0 s.length).data = s.toArray:=by
  simp [ByteArray.data_extract]
 rw [this]
 simp

section
variable {P : Program} {L : Lay} {c : Cx} {H : Heap} {e : Env} {a : Act} {k : AV → Heap → Prop} {ks : Heap → Prop} {o : Oper}

theorem addr_cells {w : World} {b off : Nat} {ad : Addr} {cs : List Value} (h1 : ad.block = b) (h2 : ad.off = off) (h3 : cs ≠ [] → ad.spot = none)
  (h : ∀ j v,cs[j]? = some v → w.cell? ⟨b,off + j,none⟩ = some v) : ∀ j v,cs[j]? = some v → w.cell? (ad.add j) = some v:=by
 intro j v hj
 have hne : cs ≠ []:=by intro e; subst e; simp at hj
 have : ad = ⟨b,off,none⟩:=by cases ad; simp_all
 rw [this,addr_add]; exact h j v hj

theorem srcC_sound (hr : HR c H) {sz : Nat} {B : AV} {x : Value} {k : List AV → Prop} (hB : EV c B x) (h : srcC H sz B k) :
  ∃ l news,Src P sz c.w x l.length news ∧ RdF c.w c.Im sz l news ∧ k l:=by
 unfold srcC at h
 split at h
 ·obtain rfl:=VV_nils hB
  exact ⟨[],[],Src.nil,rfl,h⟩
 ·rename_i sz' l tok
  obtain ⟨hs,hk⟩:=beqC_iff.1 h
  subst hs
  obtain ⟨h1,h2⟩:=VV_sl hB
  rcases h2 with ⟨rfl,rfl⟩ | ⟨ad,cap,rfl,_,_,hsp,hre⟩
  ·exact ⟨[],[],Src.nil,rfl,hk⟩
  ·obtain ⟨news,g1,g2⟩:=RdF_of_RdE hre
   refine ⟨l,news,Src.slice (RdF_length g1) (addr_cells rfl rfl (fun hne=>hsp (fun e=>?_)) g2),g1,hk⟩
   subst e; exact hne g1
 ·rename_i j off len cap sz'
  obtain ⟨ob,hob,h⟩:=hgetC_iff.1 h
  have hok:=hr.okOf hob
  split at h
  ·rename_i sz'' cp l
   obtain ⟨hs,h⟩:=beqC_iff.1 h
   subst hs
   obtain ⟨hs,hin,hk⟩:=beqC_iff.1 h
   subst hs
   obtain ⟨_,e,hlc,hcm⟩:=VV_ms hB
   subst e
   obtain ⟨cs,ty,g1,g2,g3,g4,g5,g6⟩:=hok
   obtain ⟨a',d',rfl,g7⟩:=RdF_of_VRE g5
   have hl : ((l.drop off).take len).length = len:=by simp; omega
   have hf:=RdF_take len (RdF_drop off g7 (by omega))
   have hal:=RdF_length g7
   refine ⟨(l.drop off).take len,(a'.drop (off * sz'')).take (len * sz''),?_,hf,hk⟩
   rw [hl]
   refine Src.slice (by rw [RdF_length hf,hl]) fun x v hx=>?_
   rw [List.getElem?_take] at hx
   split at hx
   ·rw [List.getElem?_drop] at hx
    rw [addr_add]
    simp only [World.cell?,g1]
    have : off * sz'' + x < a'.length:=(List.getElem?_eq_some_iff.1 hx).1
    simp [List.getElem?_append_left this,hx]
   ·simp at hx
  ·exact h.elim
 ·rename_i s
  obtain ⟨hs,hk⟩:=beqC_iff.1 h
  subst hs
  obtain ⟨rfl,h1⟩:=VV_str hB
  refine ⟨s.map fun b=>.int .u8 b.toNat,s.map fun b=>Value.int .u8 b.toNat,by simpa using Src.str (P:=P) s,?_,hk⟩
  clear h h1 hB hk
  induction s with
  | nil=>rfl
  | cons b s ih =>
    refine ⟨[.int .u8 b.toNat],s.map fun b=>Value.int .u8 b.toNat,rfl,rfl,?_,ih⟩
    simp only [Rd]
    have:=b.toNat_lt
    refine ⟨trivial,?_⟩
    simp [InR,IntKind.min,IntKind.max,IntKind.signed,IntKind.bits]; omega
 ·exact h.elim
end
end Go.AL

namespace Go.AL

theorem hset_self : ∀ {H : Heap} {k : Nat} {o : HO},hget H k = some o → hset H k o = H
 | [],_,_,h=>by simp [hget] at h
 | (i,x) :: H,k,o,h=>by
   simp only [hget] at h
   simp only [hset]
   cases hb : Nat.beq i k with
   | true=>rw [hb] at h; simp at h; subst h; rfl
   | false=>rw [hb] at h; simp only [hset_self h]

theorem tpOf_hset {H : Heap} {k sz n : Nat} {o : HO} (hk : hget H k = some o) : tpOf (hset H k (.tok sz n)) k = some n:=by
 unfold tpOf; rw [hget_hset_eq hk]

theorem tpOf_hset_ne {H : Heap} {k j : Nat} {o : HO} (h : j ≠ k) : tpOf (hset H k o) j = tpOf H j:=by
 unfold tpOf; rw [hget_hset_ne h]

theorem own_facts {c : Cx} {H : Heap} {j sz : Nat} {l : List AV} {v : Value} (hr : HR c H) (hk : hget H j = some (.tok sz l.length)) (hV : VV c (.sl sz l (.own j)) v) :
  v = .slice (c.tk j).1 l.length (c.tk j).2 ∧ l.length ≤ (c.tk j).2 ∧ (c.tk j).2 ≤ maxL ∧ j < c.nx ∧ Rd c.w c.Im (.sl sz l .no) v.cells.toList ∧
  (((c.tk j).1 = none ∧ l = [] ∧ (c.tk j).2 = 0) ∨ ∃ ad,(c.tk j).1 = some ad ∧ (l ≠ [] → ad.spot = none) ∧ RdE c.w c.Im sz ad.block l ad.off):=by
 have hv:=hV.1.2 rfl
 have h2:=hV.2
 simp only [VR] at h2
 obtain ⟨h3,h4,h5⟩:=h2
 have htp : c.tp j = some l.length:=by rw [hr.tp]; unfold tpOf; rw [hk]
 have h6:=(h5 _ htp).2 rfl
 have e : v = .slice (c.tk j).1 l.length (c.tk j).2:=cells_one hv h6
 obtain ⟨h7,h8⟩:=VV_sl hV
 refine ⟨e,?_,?_,h3,h4,?_⟩
 ·rcases h8 with ⟨rfl,h8⟩ | ⟨ad,cap,h8,h9,_⟩
  ·simp
  ·rw [e] at h8; injection h8 with _ _ h8; omega
 ·rcases h8 with ⟨rfl,h8⟩ | ⟨ad,cap,h8,h9,h10,_⟩
  ·rw [e] at h8; injection h8 with _ _ h8; rw [h8]; simp [maxL]
  ·rw [e] at h8; injection h8 with _ _ h8; omega
 ·rcases h8 with ⟨rfl,h8⟩ | ⟨ad,cap,h8,h9,h10,h11,h12⟩
  ·rw [e] at h8; injection h8 with g1 _ g2; exact .inl ⟨g1,rfl,g2⟩
  ·rw [e] at h8; injection h8 with g1 _ g2; exact .inr ⟨ad,g1,h11,h12⟩

theorem own_mk {c : Cx} {j sz : Nat} {l : List AV} {b : Option Addr} {cap : Nat} (hj : j < c.nx) (hr : Rd c.w c.Im (.sl sz l .no) [.slice b l.length cap]) (htp : c.tp j = some l.length) (htk : c.tk j = (b,cap)) :
  VV c (.sl sz l (.own j)) (.slice b l.length cap):=by
 refine VV_mk rfl rfl ?_
 simp only [VR]
 refine ⟨hj,hr,fun n hn=>?_⟩
 rw [htp] at hn
 obtain rfl:=Option.some.inj hn
 exact ⟨Nat.le_refl _,fun _=>by rw [htk]⟩

section
variable {P : Program} {c : Cx} {H : Heap} {t u ty el sz j : Nat} {info : TypeInfo} {z : Value} {l m : List AV} {v x : Value} {news : List Value}

theorem app_own {d : TypeDesc} (hr : HR c H) (hk : hget H j = some (.tok sz l.length)) (hV : VV c (.sl sz l (.own j)) v)
  (ht : P.underlying t = some (.slice el)) (hu : P.underlying u = some d) (hd : (∃ e,d = .slice e) ∨ d = .string) (hi : P.info? el = some info) (hs : info.size = sz) (hz : info.zero = some z) (hzs : z.cells.size = sz)
  (hx : Src P sz c.w x m.length news) (hm : RdF c.w c.Im sz m news) (hlen : l.length + m.length ≤ maxL) (hroom : (l.length + m.length) * info.bytes ≤ 140737488355328) :
  ∃ c' v',(Builtin.append_ #[t,u] ty #[v,x]).run P c.w = .ok v' c'.w ∧ Tr c H c' (hset H j (.tok sz (l.length + m.length))) ∧ VV c' (.sl sz (l ++ m) (.own j)) v':=by
 obtain ⟨e,hc1,hc2,hj,hRd,hb⟩:=own_facts hr hk hV
 have hml:=RdF_length hm
 have htpj : c.tp j = some l.length:=by rw [hr.tp]; unfold tpOf; rw [hk]
 have htpne : ∀ i,i ≠ j → ∀ n,tpOf (hset H j (.tok sz (l.length + m.length))) i = some n → c.tp i = some n:=fun i hi n h=>by rw [tpOf_hset_ne hi] at h; rw [hr.tp]; exact h
 by_cases hm0 : m = []
 ·subst hm0
  obtain rfl : news = []:=hm
  refine ⟨c,v,?_,?_,by simpa using hV⟩
  ·rw [e]
   have:=run_app_room (P:=P) (ty:=ty) (base:=(c.tk j).1) (n:=l.length) (cap:=(c.tk j).2) (w':=c.w) ht hu hd hi hs hx (by simpa using hc1) (fun _ _=>rfl) (fun _=>rfl)
   simpa using this
  ·simp only [List.length_nil,Nat.add_zero]
   rw [hset_self hk]; exact .refl hr
 have hmpos : 0 < m.length:=List.length_pos_iff.2 hm0
 have letk : ∀ (d : Cx),d.tp = tpOf (hset H j (.tok sz (l.length + m.length))) → (∀ i,i ≠ j → d.tk i = c.tk i) →
   ∀ k n,k < c.nx → d.tp k = some n → (c.tp k = some n ∧ d.tk k = c.tk k) ∨ ∃ m,c.tp k = some m ∧ m < n:=by
  intro d hd1 hd2 k n hkn hn
  rw [hd1] at hn
  by_cases hkj : k = j
  ·subst hkj
   rw [tpOf_hset hk] at hn
   obtain rfl:=Option.some.inj hn
   exact .inr ⟨_,htpj,by omega⟩
  ·exact .inl ⟨htpne k hkj n hn,hd2 k hkj⟩
 by_cases hcap : l.length + m.length ≤ (c.tk j).2
 ·-- within the capacity
  have hne : (c.tk j).2 ≠ l.length:=by omega
  have hok:=hr.okOf hk
  rcases hok with hok | ⟨b,cs,bty,g1,g2,g3,g4,g5,g6⟩
  ·exact absurd hok hne
  have hread : RdE c.w c.Im sz b l 0:=by
   rcases hb with ⟨h1,_⟩ | ⟨ad,h1,_,h3⟩
   ·rw [h1] at g1; cases g1
   ·rw [h1] at g1; cases g1; exact h3
  have hfit : l.length * sz + news.length ≤ cs.size:=by
   rw [g3,hml,← Nat.add_mul]; exact Nat.mul_le_mul_right _ hcap
  let cs':=(cs.toList.take (l.length * sz) ++ news ++ cs.toList.drop (l.length * sz + news.length)).toArray
  let d : Cx:={ c with w:=c.w.setRow b cs',Im:=fun b' o=>c.Im b' o ∨ (b' = b ∧ l.length * sz ≤ o ∧ o < l.length * sz + news.length),tp:=tpOf (hset H j (.tok sz (l.length + m.length))) }
  have hblk : blkOf c (j,.tok sz l.length) = some b:=by simp [blkOf,hne,g1]
  have hheap : d.w.heap[b]? = some (.cells cs' bty):=setRow_heap c.w _ _ _ _ _ g2
  have hoth : ∀ b',b' ≠ b → d.w.heap[b']? = c.w.heap[b']?:=fun b' hb'=>setRow_other c.w _ b' _ hb'
  have hsz' : cs'.size = cs.size:=by simp [cs']; omega
  have hcell : ∀ o,o < l.length * sz → cs'[o]? = cs[o]?:=by
   intro o ho
   simp only [cs',List.getElem?_toArray]
   rw [List.append_assoc,List.getElem?_append_left (by simp; omega),List.getElem?_take,if_pos ho,Array.getElem?_toList]
  have hnews : ∀ i v,news[i]? = some v → cs'[l.length * sz + i]? = some v:=by
   intro i v hv
   have hi:=(List.getElem?_eq_some_iff.1 hv).1
   have hlt : (cs.toList.take (l.length * sz)).length = l.length * sz:=by simp; omega
   simp only [cs',List.getElem?_toArray]
   have:=get_mid (cs.toList.take (l.length * sz)) news (cs.toList.drop (l.length * sz + news.length)) hv
   rwa [hlt] at this
  have le : c.Le d:=by
   refine ⟨fun b' o h=>⟨.inl h,?_⟩,Nat.le_refl _,fun _ _=>rfl,letk d rfl fun _ _=>rfl⟩
   by_cases hbb : b' = b
   ·subst hbb
    have : o < l.length * sz:=Nat.lt_of_not_le fun hle=>g6 o hle h
    rw [cell_of_heap hheap,cell_of_heap g2,hcell o this]
   ·exact cell_same (hoth b' hbb)
  have hst : (storeCells ((⟨b,0,none⟩ : Addr).add (l.length * sz)) news).run P c.w = .ok () d.w:=by
   have:=run_storeCells_at P b (l.length * sz) bty news 0 cs c.w g2 (by simpa using hfit) (RdF_oneCell hm)
   simp only [Nat.add_zero] at this
   rw [addr_add,Nat.zero_add]
   exact this
  refine ⟨d,.slice (c.tk j).1 (l.length + m.length) (c.tk j).2,?_,?_,?_⟩
  ·rw [e]
   exact run_app_room (P:=P) (ty:=ty) ht hu hd hi hs hx hcap (fun ad had=>by rw [g1] at had; cases had; exact hst) (fun h=>by rw [g1] at h; cases h)
  ·refine Tr.set hr hk le rfl rfl (fun _ _=>rfl) rfl rfl rfl (by simp [d]) (fun b' _ hn=>hoth b' (fun e=>hn (by rw [hblk,e]))) ?_ ?_ ?_
   ·rintro b' o (h | ⟨rfl,_⟩)
    ·exact .inl h
    ·exact .inr (.inr hblk)
   ·intro b' h
    refine .inr ?_
    simp only [blkOf,d] at h
    split at h
    ·cases h
    ·rw [hblk]; rw [g1] at h; exact h
   ·by_cases htop : (c.tk j).2 = l.length + m.length
    ·exact .inl htop
    ·refine .inr ⟨b,cs',bty,g1,hheap,by rw [hsz',g3],hcap,g5,?_⟩
     rintro o ho (h | ⟨_,_,h⟩)
     ·exact g6 o (Nat.le_trans (Nat.mul_le_mul_right _ (Nat.le_add_right _ _)) ho) h
     ·rw [hml,← Nat.add_mul] at h; omega
  ·have hR : Rd d.w d.Im (.sl sz (l ++ m) .no) [.slice (some ⟨b,0,none⟩) (l ++ m).length (c.tk j).2]:=by
    simp only [Rd]
    refine ⟨by simpa using hlen,.inr ⟨⟨b,0,none⟩,_,rfl,by simpa using hcap,g5,fun _=>rfl,RdE_append (RdE_mono le.im _ _ _ _ hread) ?_⟩⟩
    refine RdE_of_RdF (RdF_mono le.im hm) fun i v hv=>⟨?_,.inr ⟨rfl,by show _ ≤ 0 + l.length * sz + i; omega,by have:=(List.getElem?_eq_some_iff.1 hv).1; show 0 + l.length * sz + i < _; omega⟩⟩
    rw [cell_of_heap hheap,Nat.zero_add]
    exact hnews i v hv
   have:=own_mk (c:=d) (j:=j) hj hR (by show tpOf _ j = _; rw [tpOf_hset hk]; simp) (by show c.tk j = _; rw [← g1])
   rw [List.length_append] at this
   rw [g1]; exact this
 ·-- a new block
  obtain ⟨olds,ho1,ho2⟩ : ∃ olds,RdF c.w c.Im sz l olds ∧ Src P sz c.w (.slice (c.tk j).1 l.length (c.tk j).2) l.length olds:=by
   rcases hb with ⟨h1,rfl,h3⟩ | ⟨ad,h1,h2,h3⟩
   ·exact ⟨[],rfl,by rw [h1]; exact ⟨fun _=>rfl,fun _=>rfl⟩⟩
   ·obtain ⟨olds,g1,g2⟩:=RdF_of_RdE h3
    refine ⟨olds,g1,?_⟩
    rw [h1]
    exact Src.slice (RdF_length g1) (addr_cells rfl rfl (fun hne=>h2 (fun e=>by subst e; exact hne g1)) g2)
  have hol:=RdF_length ho1
  have hge:=grownCap_ge c.w (l.length + m.length) (c.tk j).2 el
  have hle:=grownCap_le_maxLen c.w (l.length + m.length) (c.tk j).2 el (by simpa [maxL,maxLen] using hlen)
  have hle' : grownCap c.w (l.length + m.length) (c.tk j).2 el ≤ maxL:=by simpa [maxL,maxLen] using hle
  have hrun:=run_app_grow (P:=P) (ty:=ty) ht hu hd hi hs hz hx (by omega : (c.tk j).2 < l.length + m.length) hlen hroom ho2.cells
  generalize hcp : grownCap c.w (l.length + m.length) (c.tk j).2 el = cap' at hge hle' hrun
  let cs:=olds.toArray ++ news.toArray ++ Builtin.zeroCells z.cells (cap' - (l.length + m.length))
  let d : Cx:={ c with w:=c.w.drew.alloc (.cells cs el),Im:=fun b o=>c.Im b o ∨ (b = c.w.heap.size ∧ o < (l.length + m.length) * sz),
                       tk:=fun k=>if k = j then (some ⟨c.w.heap.size,0,none⟩,cap') else c.tk k,tp:=tpOf (hset H j (.tok sz (l.length + m.length))) }
  have hnew : d.w.heap[c.w.heap.size]? = some (.cells cs el):=alloc_heap_new c.w.drew _
  have hold : ∀ b,b < c.w.heap.size → d.w.heap[b]? = c.w.heap[b]?:=fun b hb=>alloc_heap_old c.w.drew _ hb
  have htkj : d.tk j = (some ⟨c.w.heap.size,0,none⟩,cap'):=by simp [d]
  have hcs : cs.size = cap' * sz:=by
   simp only [cs,Array.size_append,List.size_toArray,hol,hml,size_zeroCells,hzs]
   rw [← Nat.add_mul,← Nat.add_mul]; congr 1; omega
  have le : c.Le d:=by
   refine ⟨fun b o h=>⟨.inl h,cell_same (hold b (hr.im b o h))⟩,Nat.le_refl _,fun _ _=>rfl,letk d rfl fun i hi=>by simp [d,hi]⟩
  refine ⟨d,_,by rw [e]; exact hrun,?_,?_⟩
  ·refine Tr.set hr hk le rfl rfl (fun i hi=>by simp [d,hi]) rfl rfl rfl (by simp [d]) (fun b hb _=>hold b hb) ?_ ?_ ?_
   ·rintro b o (h | ⟨rfl,_⟩)
    ·exact .inl h
    ·exact .inr (.inl ⟨Nat.le_refl _,by simp [d]⟩)
   ·intro b h
    refine .inl ?_
    simp only [blkOf,htkj] at h
    split at h
    ·cases h
    ·simp at h; omega
   ·by_cases htop : cap' = l.length + m.length
    ·exact .inl (by rw [htkj]; exact htop)
    ·refine .inr ⟨c.w.heap.size,cs,el,by rw [htkj],hnew,by rw [htkj]; exact hcs,by rw [htkj]; exact hge,by rw [htkj]; exact hle',?_⟩
     rintro o ho (h | ⟨_,h⟩)
     ·exact absurd (hr.im _ _ h) (by omega)
     ·omega
  ·have hR : Rd d.w d.Im (.sl sz (l ++ m) .no) [.slice (some ⟨c.w.heap.size,0,none⟩) (l ++ m).length cap']:=by
    simp only [Rd]
    refine ⟨by simpa using hlen,.inr ⟨⟨c.w.heap.size,0,none⟩,_,rfl,by simpa using hge,hle',fun _=>rfl,?_⟩⟩
    refine RdE_of_RdF (RdF_append (RdF_mono le.im ho1) (RdF_mono le.im hm)) fun i v hv=>?_
    have hi:=(List.getElem?_eq_some_iff.1 hv).1
    refine ⟨?_,.inr ⟨rfl,by rw [List.length_append,hol,hml,← Nat.add_mul] at hi; show 0 + i < _; omega⟩⟩
    rw [cell_of_heap hnew,Nat.zero_add]
    have : cs[i]? = (olds ++ news)[i]?:=by
     rw [← Array.getElem?_toList]
     simp only [cs,Array.toList_append]
     rw [List.getElem?_append_left hi]
    rw [this]; exact hv
   have:=own_mk (c:=d) (j:=j) hj hR (by show tpOf _ j = _; rw [tpOf_hset hk]; simp) htkj
   rw [List.length_append] at this
   exact this
end

theorem Tr.tokNew {c : Cx} {H : Heap} {sz : Nat} {l : List AV} {base : Option Addr} (hr : HR c H) (hRd : Rd c.w c.Im (.sl sz l .no) [.slice base l.length l.length]) :
  ∃ d,d.w = c.w ∧ Tr c H d ((nextId H,.tok sz l.length) :: H) ∧ VV d (.sl sz l (.own (nextId H))) (.slice base l.length l.length):=by
 let d : Cx:={ c with nx:=c.nx + 1,tk:=fun k=>if k = c.nx then (base,l.length) else c.tk k,tp:=tpOf ((nextId H,.tok sz l.length) :: H) }
 have hlt : ∀ x ∈ H,x.1 < c.nx:=fun x hx=>by rw [hr.nx]; exact ids_lt_next hr.ids x hx
 have htk : d.tk (nextId H) = (base,l.length):=by simp [d,hr.nx]
 have le : c.Le d:=by
  refine ⟨fun b o h=>⟨h,rfl⟩,Nat.le_succ _,fun _ _=>rfl,fun k n hk hn=>.inl ⟨?_,?_⟩⟩
  ·have : nextId H ≠ k:=by rw [← hr.nx]; omega
   simp only [d] at hn
   rw [tpOf_cons_ne this] at hn
   rw [hr.tp]; exact hn
  ·simp only [d]; rw [if_neg (by omega)]
 have hbk : ∀ x ∈ H,blkOf d x = blkOf c x:=fun x hx=>blkOf_same rfl (by have:=hlt x hx; simp only [d]; rw [if_neg (by omega)])
 have hbn : blkOf d (nextId H,.tok sz l.length) = none:=by simp [blkOf,htk]
 refine ⟨d,rfl,⟨⟨?_,rfl,?_,hr.im,?_,?_⟩,le,rfl,rfl,rfl,Nat.le_refl _,fun _ _ _=>rfl,?_,fun _ _ h=>.inl h⟩,?_⟩
 ·simp only [d,nextId,hr.nx]
 ·exact ⟨fun x hx=>ids_lt_next hr.ids x hx,hr.ids⟩
 ·intro x hx
  rcases List.mem_cons.1 hx with rfl | hx
  ·exact .inl (by rw [htk])
  ·refine HOk_mono le (hlt x hx) ?_ (fun b hb=>⟨rfl,fun y hy=>hy⟩) (hr.ok x hx)
   have:=hlt x hx; simp only [d]; rw [if_neg (by omega)]
 ·rw [List.pairwise_cons]
  constructor
  ·intro y hy b hb; rw [hbn] at hb; cases hb
  ·exact pairwise_mem hr.apart fun x hx y hy h b hb=>by rw [hbk y hy]; rw [hbk x hx] at hb; exact h b hb
 ·intro y hy b hb
  rcases List.mem_cons.1 hy with rfl | hy
  ·rw [hbn] at hb; cases hb
  ·rw [hbk y hy] at hb; exact .inr ⟨y,hy,hb⟩
 ·exact own_mk (by simp only [d]; rw [hr.nx]; omega) hRd (by show tpOf _ _ = _; rw [tpOf_cons_eq]) htk

theorem tpOf_hsetW {H : Heap} {k sz : Nat} {l : List AV} {o : HO} (hk : hget H k = some o) : tpOf (hset H k (.wtok sz l)) k = some l.length:=by
 unfold tpOf; rw [hget_hset_eq hk]

theorem gs_facts {c : Cx} {H : Heap} {j sz : Nat} {l : List AV} {v : Value} (hr : HR c H) (hk : hget H j = some (.wtok sz l)) (hV : VV c (.gs j l.length) v) :
  v = .slice (c.tk j).1 l.length (c.tk j).2 ∧ j < c.nx ∧ l.length ≤ (c.tk j).2 ∧ (c.tk j).2 ≤ maxL:=by
 obtain ⟨h1,_,h3⟩:=VV_gs hV
 have htp : c.tp j = some l.length:=by rw [hr.tp]; unfold tpOf; rw [hk]
 refine ⟨(h3 _ htp).2 rfl,h1,?_⟩
 rcases hr.okOf hk with ⟨g1,g2,rfl⟩ | ⟨b,cs,ty,g1,g2,g3,g4,g5,_⟩
 ·rw [g2]; simp [maxL]
 ·exact ⟨g4,g5⟩

theorem gs_mk {c : Cx} {j n : Nat} {b : Option Addr} {cap : Nat} (hj : j < c.nx) (htp : c.tp j = some n) (htk : c.tk j = (b,cap)) : VV c (.gs j n) (.slice b n cap):=by
 refine VV_mk rfl rfl ?_
 simp only [VR]
 refine ⟨hj,⟨_,_,_,rfl⟩,fun k hk=>?_⟩
 rw [htp] at hk
 obtain rfl:=Option.some.inj hk
 exact ⟨Nat.le_refl _,fun _=>by rw [htk]⟩

section
variable {P : Program} {c : Cx} {H : Heap} {t u ty el sz j : Nat} {info : TypeInfo} {z : Value} {l m : List AV} {v x : Value} {news : List Value}

theorem app_gs {d : TypeDesc} (hr : HR c H) (hk : hget H j = some (.wtok sz l)) (hV : VV c (.gs j l.length) v)
  (ht : P.underlying t = some (.slice el)) (hu : P.underlying u = some d) (hd : (∃ e,d = .slice e) ∨ d = .string) (hi : P.info? el = some info) (hs : info.size = sz) (hz : info.zero = some z) (hzs : z.cells.size = sz)
  (hx : Src P sz c.w x m.length news) (hm : RdF c.w c.Im sz m news) (hm0 : m ≠ []) (hlen : l.length + m.length ≤ maxL) (hroom : (l.length + m.length) * info.bytes ≤ 140737488355328) :
  ∃ c' v',(Builtin.append_ #[t,u] ty #[v,x]).run P c.w = .ok v' c'.w ∧ Tr c H c' (hset H j (.wtok sz (l ++ m))) ∧ VV c' (.gs j (l.length + m.length)) v':=by
 obtain ⟨e,hj,hc1,hc2⟩:=gs_facts hr hk hV
 have hml:=RdF_length hm
 have htpj : c.tp j = some l.length:=by rw [hr.tp]; unfold tpOf; rw [hk]
 have htpne : ∀ i,i ≠ j → ∀ n,tpOf (hset H j (.wtok sz (l ++ m))) i = some n → c.tp i = some n:=fun i hi n h=>by rw [tpOf_hset_ne hi] at h; rw [hr.tp]; exact h
 have hmpos : 0 < m.length:=List.length_pos_iff.2 hm0
 have htp' : tpOf (hset H j (.wtok sz (l ++ m))) j = some (l.length + m.length):=by rw [tpOf_hsetW hk]; simp
 have letk : ∀ (d : Cx),d.tp = tpOf (hset H j (.wtok sz (l ++ m))) → (∀ i,i ≠ j → d.tk i = c.tk i) →
   ∀ k n,k < c.nx → d.tp k = some n → (c.tp k = some n ∧ d.tk k = c.tk k) ∨ ∃ m,c.tp k = some m ∧ m < n:=by
  intro d hd1 hd2 k n hkn hn
  rw [hd1] at hn
  by_cases hkj : k = j
  ·subst hkj
   rw [htp'] at hn
   obtain rfl:=Option.some.inj hn
   exact .inr ⟨_,htpj,by omega⟩
  ·exact .inl ⟨htpne k hkj n hn,hd2 k hkj⟩
 by_cases hcap : l.length + m.length ≤ (c.tk j).2
 ·-- within the capacity
  rcases hr.okOf hk with ⟨g1,g2,_⟩ | ⟨b,cs,bty,g1,g2,g3,g4,g5,g6,g7⟩
  ·omega
  obtain ⟨a',d',rfl,g8⟩:=RdF_of_VRE g6
  have hal:=RdF_length g8
  have hfit : l.length * sz + news.length ≤ (a' ++ d').toArray.size:=by
   rw [List.size_toArray,g3,hml,← Nat.add_mul]; exact Nat.mul_le_mul_right _ hcap
  let cs':=((a' ++ d').toArray.toList.take (l.length * sz) ++ news ++ (a' ++ d').toArray.toList.drop (l.length * sz + news.length)).toArray
  let d : Cx:={ c with w:=c.w.setRow b cs',tp:=tpOf (hset H j (.wtok sz (l ++ m))) }
  have hblk : blkOf c (j,.wtok sz l) = some b:=by simp [blkOf,g1]
  have hheap : d.w.heap[b]? = some (.cells cs' bty):=setRow_heap c.w _ _ _ _ _ g2
  have hoth : ∀ b',b' ≠ b → d.w.heap[b']? = c.w.heap[b']?:=fun b' hb'=>setRow_other c.w _ b' _ hb'
  have hcs' : cs'.toList = a' ++ news ++ (a' ++ d').drop (l.length * sz + news.length):=by
   simp only [cs']
   rw [← hal,List.take_append_of_le_length (Nat.le_refl _),List.take_length]
  have hsz' : cs'.toList.length = (a' ++ d').length:=by
   rw [hcs']; simp only [List.length_append,List.length_drop,List.size_toArray] at hfit ⊢; omega
  have le : c.Le d:=by
   refine ⟨fun b' o h=>⟨h,?_⟩,Nat.le_refl _,fun _ _=>rfl,letk d rfl fun _ _=>rfl⟩
   by_cases hbb : b' = b
   ·subst hbb; exact absurd h (g7 o)
   ·exact cell_same (hoth b' hbb)
  have hst : (storeCells ((⟨b,0,none⟩ : Addr).add (l.length * sz)) news).run P c.w = .ok () d.w:=by
   have:=run_storeCells_at P b (l.length * sz) bty news 0 (a' ++ d').toArray c.w g2 (by simpa using hfit) (RdF_oneCell hm)
   simp only [Nat.add_zero] at this
   rw [addr_add,Nat.zero_add]
   exact this
  refine ⟨d,.slice (c.tk j).1 (l.length + m.length) (c.tk j).2,?_,?_,?_⟩
  ·rw [e]
   exact run_app_room (P:=P) (ty:=ty) ht hu hd hi hs hx hcap (fun ad had=>by rw [g1] at had; cases had; exact hst) (fun h=>by rw [g1] at h; cases h)
  ·refine Tr.set hr hk le rfl rfl (fun _ _=>rfl) rfl rfl rfl (by simp [d]) (fun b' _ hn=>hoth b' (fun e=>hn (by rw [hblk,e]))) (fun b' o h=>.inl h) ?_ ?_
   ·intro b' h
    refine .inr ?_
    rw [hblk]
    simp only [blkOf,d,g1] at h
    exact h
   ·refine .inr ⟨b,cs'.toList,bty,g1,by simpa using hheap,by rw [hsz']; exact g3,by simpa using hcap,g5,?_,fun o h=>g7 o h⟩
    rw [hcs']
    exact VRE_of_RdF (c:=d) (RdF_append (RdF_mono le.im g8) (RdF_mono le.im hm))
  ·exact gs_mk (c:=d) (j:=j) hj htp' rfl
 ·-- a new block
  obtain ⟨olds,ho1,ho2⟩ : ∃ olds,RdF c.w c.Im sz l olds ∧ Src P sz c.w (.slice (c.tk j).1 l.length (c.tk j).2) l.length olds:=by
   rcases hr.okOf hk with ⟨g1,g2,rfl⟩ | ⟨b,cs,bty,g1,g2,g3,g4,g5,g6,g7⟩
   ·exact ⟨[],rfl,by rw [g1]; exact ⟨fun _=>rfl,fun _=>rfl⟩⟩
   ·obtain ⟨a',d',rfl,g8⟩:=RdF_of_VRE g6
    refine ⟨a',g8,?_⟩
    rw [g1]
    refine Src.slice (RdF_length g8) fun y v hy=>?_
    rw [addr_add,Nat.zero_add]
    have : y < a'.length:=(List.getElem?_eq_some_iff.1 hy).1
    simp only [World.cell?,g2]
    simp [List.getElem?_append_left this,hy]
  have hol:=RdF_length ho1
  have hge:=grownCap_ge c.w (l.length + m.length) (c.tk j).2 el
  have hle:=grownCap_le_maxLen c.w (l.length + m.length) (c.tk j).2 el (by simpa [maxL,maxLen] using hlen)
  have hle' : grownCap c.w (l.length + m.length) (c.tk j).2 el ≤ maxL:=by simpa [maxL,maxLen] using hle
  have hrun:=run_app_grow (P:=P) (ty:=ty) ht hu hd hi hs hz hx (by omega : (c.tk j).2 < l.length + m.length) hlen hroom ho2.cells
  generalize hcp : grownCap c.w (l.length + m.length) (c.tk j).2 el = cap' at hge hle' hrun
  let cs:=olds.toArray ++ news.toArray ++ Builtin.zeroCells z.cells (cap' - (l.length + m.length))
  let d : Cx:={ c with w:=c.w.drew.alloc (.cells cs el),
                       tk:=fun k=>if k = j then (some ⟨c.w.heap.size,0,none⟩,cap') else c.tk k,tp:=tpOf (hset H j (.wtok sz (l ++ m))) }
  have hnew : d.w.heap[c.w.heap.size]? = some (.cells cs el):=alloc_heap_new c.w.drew _
  have hold : ∀ b,b < c.w.heap.size → d.w.heap[b]? = c.w.heap[b]?:=fun b hb=>alloc_heap_old c.w.drew _ hb
  have htkj : d.tk j = (some ⟨c.w.heap.size,0,none⟩,cap'):=by simp [d]
  have hcs : cs.toList.length = cap' * sz:=by
   rw [Array.length_toList]
   simp only [cs,Array.size_append,List.size_toArray,hol,hml,size_zeroCells,hzs]
   rw [← Nat.add_mul,← Nat.add_mul]; congr 1; omega
  have le : c.Le d:=by
   refine ⟨fun b o h=>⟨h,cell_same (hold b (hr.im b o h))⟩,Nat.le_refl _,fun _ _=>rfl,letk d rfl fun i hi=>by simp [d,hi]⟩
  refine ⟨d,_,by rw [e]; exact hrun,?_,?_⟩
  ·refine Tr.set hr hk le rfl rfl (fun i hi=>by simp [d,hi]) rfl rfl rfl (by simp [d]) (fun b hb _=>hold b hb) (fun b o h=>.inl h) ?_ ?_
   ·intro b h
    refine .inl ?_
    simp only [blkOf,htkj] at h
    simp at h; omega
   ·refine .inr ⟨c.w.heap.size,cs.toList,el,by rw [htkj],by simpa using hnew,by rw [htkj]; exact hcs,by rw [htkj]; simpa using hge,by rw [htkj]; exact hle',?_,fun o h=>?_⟩
    ·have ec : cs.toList = olds ++ news ++ (Builtin.zeroCells z.cells (cap' - (l.length + m.length))).toList:=by simp [cs]
     rw [ec]
     exact VRE_of_RdF (c:=d) (RdF_append (RdF_mono le.im ho1) (RdF_mono le.im hm))
    ·exact absurd (hr.im _ _ h) (by omega)
  ·exact gs_mk (c:=d) (j:=j) hj htp' htkj
end

theorem Tr.wtokNew {c : Cx} {H : Heap} (sz : Nat) (hr : HR c H) :
  ∃ d,d.w = c.w ∧ Tr c H d ((nextId H,.wtok sz []) :: H) ∧ VV d (.gs (nextId H) 0) (.slice none 0 0):=by
 let d : Cx:={ c with nx:=c.nx + 1,tk:=fun k=>if k = c.nx then (none,0) else c.tk k,tp:=tpOf ((nextId H,.wtok sz []) :: H) }
 have hlt : ∀ x ∈ H,x.1 < c.nx:=fun x hx=>by rw [hr.nx]; exact ids_lt_next hr.ids x hx
 have htk : d.tk (nextId H) = (none,0):=by simp [d,hr.nx]
 have le : c.Le d:=by
  refine ⟨fun b o h=>⟨h,rfl⟩,Nat.le_succ _,fun _ _=>rfl,fun k n hk hn=>.inl ⟨?_,?_⟩⟩
  ·have : nextId H ≠ k:=by rw [← hr.nx]; omega
   simp only [d] at hn
   rw [tpOf_cons_ne this] at hn
   rw [hr.tp]; exact hn
  ·simp only [d]; rw [if_neg (by omega)]
 have hbk : ∀ x ∈ H,blkOf d x = blkOf c x:=fun x hx=>blkOf_same rfl (by have:=hlt x hx; simp only [d]; rw [if_neg (by omega)])
 have hbn : blkOf d (nextId H,.wtok sz []) = none:=by simp [blkOf,htk]
 refine ⟨d,rfl,⟨⟨?_,rfl,?_,hr.im,?_,?_⟩,le,rfl,rfl,rfl,Nat.le_refl _,fun _ _ _=>rfl,?_,fun _ _ h=>.inl h⟩,?_⟩
 ·simp only [d,nextId,hr.nx]
 ·exact ⟨fun x hx=>ids_lt_next hr.ids x hx,hr.ids⟩
 ·intro x hx
  rcases List.mem_cons.1 hx with rfl | hx
  ·exact .inl ⟨by rw [htk],by rw [htk],rfl⟩
  ·refine HOk_mono le (hlt x hx) ?_ (fun b hb=>⟨rfl,fun y hy=>hy⟩) (hr.ok x hx)
   have:=hlt x hx; simp only [d]; rw [if_neg (by omega)]
 ·rw [List.pairwise_cons]
  constructor
  ·intro y hy b hb; rw [hbn] at hb; cases hb
  ·exact pairwise_mem hr.apart fun x hx y hy h b hb=>by rw [hbk y hy]; rw [hbk x hx] at hb; exact h b hb
 ·intro y hy b hb
  rcases List.mem_cons.1 hy with rfl | hy
  ·rw [hbn] at hb; cases hb
  ·rw [hbk y hy] at hb; exact .inr ⟨y,hy,hb⟩
 ·exact gs_mk (by simp only [d]; rw [hr.nx]; omega) (by show tpOf _ _ = _; rw [tpOf_cons_eq]; rfl) htk

theorem Tr.thaw {c : Cx} {H : Heap} {j sz : Nat} {l : List AV} {v : Value} (hr : HR c H) (ho : hget H j = some (.wtok sz l)) (ne : l ≠ []) (hV : VV c (.gs j l.length) v) :
  ∃ cp,l.length ≤ cp ∧ cp ≤ maxL ∧ ∃ d,d.w = c.w ∧ Tr c H d ((nextId H,.arr sz cp l) :: hset H j .gone) ∧ VV d (.ms (nextId H) 0 l.length cp sz) v:=by
 obtain ⟨e,hj,hc1,hc2⟩:=gs_facts hr ho hV
 rcases hr.okOf ho with ⟨_,_,h0⟩ | ⟨b,cs,ty,g1,g2,g3,g4,g5,g6,g7⟩
 ·exact absurd h0 ne
 refine ⟨(c.tk j).2,hc1,hc2,?_⟩
 have hjm:=hget_mem ho
 have hbs : b < c.w.heap.size:=(Array.getElem?_eq_some_iff.1 g2).1
 let d : Cx:={ c with nx:=c.nx + 1,ρ:=fun k=>if k = c.nx then b else c.ρ k,tp:=tpOf ((nextId H,.arr sz (c.tk j).2 l) :: hset H j .gone) }
 have hlt : ∀ x ∈ H,x.1 < c.nx:=fun x hx=>by rw [hr.nx]; exact ids_lt_next hr.ids x hx
 have hρ : d.ρ (nextId H) = b:=by simp [d,hr.nx]
 have hids:=idsOk_hset (k:=j) (o':=.gone) hr.ids
 have le : c.Le d:=by
  refine ⟨fun b o h=>⟨h,rfl⟩,Nat.le_succ _,fun k hk=>?_,fun k n hk hn=>.inl ⟨?_,rfl⟩⟩
  ·simp only [d]; rw [if_neg (by omega)]
  ·have hne : nextId H ≠ k:=by rw [← hr.nx]; omega
   simp only [d] at hn
   rw [tpOf_cons_ne hne] at hn
   by_cases hkj : k = j
   ·subst hkj; unfold tpOf at hn; rw [hget_hset_eq ho] at hn; simp at hn
   ·rw [tpOf_hset_ne hkj] at hn; rw [hr.tp]; exact hn
 have hbk : ∀ x ∈ H,blkOf d x = blkOf c x:=fun x hx=>blkOf_same (by have:=hlt x hx; simp only [d]; rw [if_neg (by omega)]) rfl
 have hbn : blkOf d (nextId H,.arr sz (c.tk j).2 l) = some b:=by simp [blkOf,hρ]
 have hbj : blkOf c (j,.wtok sz l) = some b:=by simp [blkOf,g1]
 have hne : ∀ x ∈ H,x.1 ≠ j → ∀ b',blkOf c x = some b' → b' ≠ b:=fun x hx hn b' hb' e=>hr.apart' hx hjm hn hb' (by rw [e]; exact hbj)
 refine ⟨d,rfl,⟨⟨?_,rfl,⟨fun x hx=>?_,hids⟩,hr.im,?_,?_⟩,le,rfl,rfl,rfl,Nat.le_refl _,fun _ _ _=>rfl,?_,fun _ _ h=>.inl h⟩,?_⟩
 ·simp only [d,nextId,hr.nx]
 ·have:=ids_lt_next hids x hx
  rw [nextId_hset] at this; exact this
 ·intro x hx
  rcases List.mem_cons.1 hx with rfl | hx
  ·show (HO.arr sz (c.tk j).2 l).Ok d (nextId H)
   refine ⟨cs,ty,by rw [hρ]; exact g2,g3,g4,g5,VRE_mono le g6,fun o h=>?_⟩
   rw [hρ] at h; exact g7 o h
  ·rcases mem_hset hr.ids hx with rfl | ⟨hx,hn⟩
   ·trivial
   ·exact HOk_mono le (hlt x hx) rfl (fun b hb=>⟨rfl,fun y hy=>hy⟩) (hr.ok x hx)
 ·rw [List.pairwise_cons]
  constructor
  ·intro y hy b' hb hb'
   rw [hbn] at hb
   obtain rfl:=Option.some.inj hb
   rcases mem_hset hr.ids hy with rfl | ⟨hy,hn⟩
   ·simp [blkOf] at hb'
   ·rw [hbk y hy] at hb'
    exact hne y hy hn _ hb' rfl
  ·refine pairwise_of_ids hids fun x hx y hy hn b hb hb'=>?_
   rcases mem_hset hr.ids hx with rfl | ⟨hx,_⟩
   ·simp [blkOf] at hb
   ·rcases mem_hset hr.ids hy with rfl | ⟨hy,_⟩
    ·simp [blkOf] at hb'
    ·rw [hbk x hx] at hb; rw [hbk y hy] at hb'
     exact hr.apart' hx hy hn hb hb'
 ·intro y hy b' hb
  rcases List.mem_cons.1 hy with rfl | hy
  ·rw [hbn] at hb
   obtain rfl:=Option.some.inj hb
   exact .inr ⟨_,hjm,hbj⟩
  ·rcases mem_hset hr.ids hy with rfl | ⟨hy,_⟩
   ·simp [blkOf] at hb
   ·rw [hbk y hy] at hb; exact .inr ⟨y,hy,hb⟩
 ·rw [e]
  refine VV_mk rfl rfl ?_
  simp only [VR]
  refine ⟨by simp only [d]; rw [hr.nx]; omega,?_,hc1,hc2⟩
  rw [hρ,g1,Nat.zero_mul]

theorem Tr.freezeW {c : Cx} {H : Heap} {j sz : Nat} {l : List AV} {v : Value} (hr : HR c H) (ho : hget H j = some (.wtok sz l)) (hl : l.length ≤ maxL) (hV : VV c (.gs j l.length) v) :
  ∃ d,d.w = c.w ∧ Tr c H d (hset H j .gone) ∧ VV d (.sl sz l .no) v:=by
 obtain ⟨e,hj,hc1,hc2⟩:=gs_facts hr ho hV
 have tpg : ∀ k n,tpOf (hset H j .gone) k = some n → c.tp k = some n:=by
  intro k n hn
  by_cases hkj : k = j
  ·subst hkj; unfold tpOf at hn; rw [hget_hset_eq ho] at hn; simp at hn
  ·rw [tpOf_hset_ne hkj] at hn; rw [hr.tp]; exact hn
 rcases hr.okOf ho with ⟨g1,g2,rfl⟩ | ⟨b,cs,ty,g1,g2,g3,g4,g5,g6,g7⟩
 ·let d : Cx:={ c with tp:=tpOf (hset H j .gone) }
  have le : c.Le d:=⟨fun b o h=>⟨h,rfl⟩,Nat.le_refl _,fun _ _=>rfl,fun k n _ h=>.inl ⟨tpg k n h,rfl⟩⟩
  refine ⟨d,rfl,Tr.set hr ho le rfl rfl (fun _ _=>rfl) rfl rfl rfl (Nat.le_refl _) (fun _ _ _=>rfl) (fun _ _ h=>.inl h) (fun b h=>by simp [blkOf] at h) trivial,?_⟩
  rw [e,g1,g2]
  refine VV_mk rfl rfl ?_
  simp only [VR,Rd]
  exact ⟨hl,.inl ⟨trivial,rfl⟩⟩
 ·obtain ⟨a',d',rfl,g8⟩:=RdF_of_VRE g6
  let d : Cx:={ c with Im:=fun b' o=>c.Im b' o ∨ b' = b,tp:=tpOf (hset H j .gone) }
  have le : c.Le d:=⟨fun b o h=>⟨.inl h,rfl⟩,Nat.le_refl _,fun _ _=>rfl,fun k n _ h=>.inl ⟨tpg k n h,rfl⟩⟩
  have hbj : blkOf c (j,.wtok sz l) = some b:=by simp [blkOf,g1]
  refine ⟨d,rfl,Tr.set hr ho le rfl rfl (fun _ _=>rfl) rfl rfl rfl (Nat.le_refl _) (fun _ _ _=>rfl) ?_ (fun b h=>by simp [blkOf] at h) trivial,?_⟩
  ·rintro b' x (h | rfl)
   ·exact .inl h
   ·exact .inr (.inr hbj)
  ·rw [e,g1]
   refine VV_mk rfl rfl ?_
   simp only [VR,Rd]
   refine ⟨hl,.inr ⟨⟨b,0,none⟩,_,rfl,hc1,hc2,fun _=>rfl,RdE_of_RdF (RdF_mono le.im g8) fun x v hx=>⟨?_,.inr rfl⟩⟩⟩
   have : x < a'.length:=(List.getElem?_eq_some_iff.1 hx).1
   show c.w.cell? _ = _
   rw [cell_of_heap g2]
   simp [List.getElem?_append_left this,hx]

theorem nils_full {c : Cx} {sz : Nat} {v : Value} (h : VV c .nils v) : ∃ base,v = .slice base ([] : List AV).length ([] : List AV).length ∧ Rd c.w c.Im (.sl sz [] .no) [.slice base ([] : List AV).length ([] : List AV).length]:=by
 obtain rfl:=VV_nils h
 refine ⟨none,rfl,?_⟩
 simp only [Rd]; exact ⟨by simp [maxL],.inl ⟨trivial,rfl⟩⟩

theorem full_full {c : Cx} {sz : Nat} {l : List AV} {v : Value} (h : VV c (.sl sz l .full) v) : ∃ base,v = .slice base l.length l.length ∧ Rd c.w c.Im (.sl sz l .no) [.slice base l.length l.length]:=by
 have hv:=h.1.2 rfl
 have h2:=h.2
 simp only [VR] at h2
 obtain ⟨h3,b,h4⟩:=h2
 have e:=cells_one hv h4
 refine ⟨b,e,?_⟩
 rw [← h4]; exact h3

end Go.AL

namespace Go.AL

section
variable {P : Program} {L : Lay} {c : Cx} {H : Heap} {e : Env} {a : Act} {k : AV → Heap → Prop} {ks : Heap → Prop} {o : Oper}

theorem slice_desc {u : Nat} {X : Prop} (hat : L.getC u fun i=>(match i.desc with | .slice _=>X | .str=>X | _=>False)) (hL : LayOk P L) : (∃ d,P.underlying u = some d ∧ ((∃ e,d = .slice e) ∨ d = .string)) ∧ X:=by
 obtain ⟨i,hT,h⟩:=Lay.getC_ok hL hat
 obtain ⟨d,hd,hdd⟩:=hT.under
 cases hi : i.desc <;> simp only [hi] at h <;> first | exact h.elim | skip
 ·exact ⟨⟨d,hd,.inr (descOf_str (hdd.trans hi))⟩,h⟩
 ·exact ⟨⟨d,hd,.inl ⟨_,descOf_slice (hdd.trans hi)⟩⟩,h⟩

theorem op_append (hL : LayOk P L) {cl : Call} {t u : Nat} {r : List Nat} {A B : AV} (hr : HR c H) (ho : o.op = .call cl) (hc : cl.callee = .builtin .append) (hat : cl.argTypes.toList = t :: u :: r)
  {v x : Value} (hv : cl.args.toList.map a.eval = [v,x]) (hA : EV c A v) (hB : EV c B x)
  (h : L.getC u fun i=>(match i.desc with
  | .slice _=>aappend L t A B H k
  | .str=>aappend L t A B H k
  | _=>False)) : OpRes P o a.eval c H k ks:=by
 have hh:=slice_desc h hL
 clear h
 obtain ⟨⟨d,hu,hd⟩,h⟩:=hh
 unfold aappend at h
 have hh:=Lay.getC_ok hL h
 clear h
 obtain ⟨i,hT,h⟩:=hh
 obtain ⟨dt,ht,hdt⟩:=hT.under
 split at h
 case h_2=>exact h.elim
 rename_i el hi
 obtain rfl:=descOf_slice (hdt.trans hi)
 have hh:=Lay.getC_ok hL h
 clear h
 obtain ⟨ei,hE,h⟩:=hh
 obtain ⟨info,z,g1,g2,g3,g4,g5,g6⟩:=hE.info
 have hzs : z.cells.size = flat ei.zero:=by rw [← Array.length_toList]; exact Rd_length _ _ (g6 c.w c.Im)
 have hexec : ∀ r w',(Builtin.append_ #[t,u] o.type #[v,x]).run P c.w = .ok r w' → (execOp a.eval o).run P c.w = .ok (.value r) w':=by
  intro rr w' hrr
  rw [run_builtin ho hc,map_eval_eq hv]
  have e2 : (Builtin.append_ cl.argTypes o.type #[v,x]).run P c.w = (Builtin.append_ #[t,u] o.type #[v,x]).run P c.w:=by
   have e0 : cl.argTypes[0]? = some t:=by rw [← Array.getElem?_toList,hat]; rfl
   have e1 : cl.argTypes[1]? = some u:=by rw [← Array.getElem?_toList,hat]; rfl
   unfold Builtin.append_
   simp only [e0,e1]
   rfl
  simp only [builtin,Sem.run_bind,e2,hrr,Result.andThen_ok,Sem.run_pure]
 have fin : ∀ (d0 : Cx) (l m : List AV) (j : Nat) (H0 : Heap),d0.w = c.w → Tr c H d0 H0 → hget H0 j = some (.tok (flat ei.zero) l.length) → VV d0 (.sl (flat ei.zero) l (.own j)) v →
   (∃ news,Src P (flat ei.zero) c.w x m.length news ∧ RdF c.w c.Im (flat ei.zero) m news) → l.length + m.length ≤ maxL → (l.length + m.length) * ei.bytes ≤ 140737488355328 →
   k (.sl (flat ei.zero) (l ++ m) (.own j)) (hset H0 j (.tok (flat ei.zero) (l.length + m.length))) → OpRes P o a.eval c H k ks:=by
  rintro d0 l m j H0 hw htr hk hV ⟨news,hx,hm⟩ h1 h2 h3
  obtain ⟨c',v',hrun,htr',hV'⟩:=app_own (P:=P) (ty:=o.type) htr.hr hk hV ht hu hd g1 g2 g4 hzs (by rw [hw]; exact hx) (RdF_mono htr.le.im hm) h1 (by rw [g3]; exact h2)
  rw [hw] at hrun
  exact .inl ⟨v',c',_,_,hexec _ _ hrun,htr.trans htr',EV_VV hV',h3⟩
 have pureFin : ∀ (d0 : Cx) (l m : List AV),d0.w = c.w → Tr c H d0 ((nextId H,.tok (flat ei.zero) l.length) :: H) → VV d0 (.sl (flat ei.zero) l (.own (nextId H))) v →
   (∃ news,Src P (flat ei.zero) c.w x m.length news ∧ RdF c.w c.Im (flat ei.zero) m news) → l.length + m.length ≤ maxL → (l.length + m.length) * ei.bytes ≤ 140737488355328 →
   k (.sl (flat ei.zero) (l ++ m) .no) H → OpRes P o a.eval c H k ks:=by
  rintro d0 l m hw htr hV ⟨news,hx,hm⟩ h1 h2 h3
  obtain ⟨c',v',hrun,htr',hV'⟩:=app_own (P:=P) (ty:=o.type) htr.hr (j:=nextId H) (by simp [hget]) hV ht hu hd g1 g2 g4 hzs (by rw [hw]; exact hx) (RdF_mono htr.le.im hm) h1 (by rw [g3]; exact h2)
  rw [hw] at hrun
  have htr2:=htr.trans htr'
  have hset' : hset ((nextId H,HO.tok (flat ei.zero) l.length) :: H) (nextId H) (.tok (flat ei.zero) (l.length + m.length)) = (nextId H,.tok (flat ei.zero) (l.length + m.length)) :: H:=by simp [hset]
  rw [hset'] at htr2
  have hwk : HWk0 ((nextId H,.tok (flat ei.zero) (l.length + m.length)) :: H) H:=by
   refine ⟨WkH_of fun k' o' hmem=>?_,hr.ids⟩
   have hlt:=ids_lt_next hr.ids _ hmem
   have hlt : k' < nextId H:=hlt
   have hok:=hr.ok _ hmem
   refine ⟨o',?_,leO_refl o',?_⟩
   ·simp only [hget]
    have hne : Nat.beq (nextId H) k' = false:=by
     cases hb : Nat.beq (nextId H) k' with
     | false=>rfl
     | true=>have:=Nat.eq_of_beq_eq_true hb; omega
    rw [hne]; exact mem_hget hr.ids hmem
   ·rw [← hr.nx]
    cases o' with
    | box A=>obtain ⟨cs,ty,_,h2,_⟩:=hok; exact VR_bnd _ _ h2
    | amap sh es=>obtain ⟨ents,clock,_,h2,_⟩:=hok; exact VRM_bnd h2
    | _=>rfl
  refine .inl ⟨v',c'.cut H,_,H,hexec _ _ hrun,htr2.cut hwk (by rw [hr.nx]; exact Nat.le_refl _),EV_VV ?_,h3⟩
  refine VV_cut (fun k n hn=>by rw [htr2.hr.tp]; exact hwk.tp k n hn) rfl ?_
  exact le0_VV (by simp only [le0]; exact ⟨trivial,leRL_refl _⟩) hV'
 split at h
 ·obtain ⟨m,news,hx,hm,h⟩:=srcC_sound hr hB h
  obtain ⟨base,rfl,hRd⟩:=nils_full (sz:=flat ei.zero) hA
  obtain ⟨d0,hw,htr,hV⟩:=Tr.tokNew hr hRd
  cases h with
  | tok h1 h2 h3 =>
    refine fin d0 [] m _ _ hw htr (by simp [hget]) hV ⟨news,hx,hm⟩ h1 h2 ?_
    have:=pushC_iff.1 h3
    simpa [hset] using this
  | pure h1 h2 h3=>exact pureFin d0 [] m hw htr hV ⟨news,hx,hm⟩ h1 h2 h3
 ·rename_i sz l
  obtain ⟨rfl,h⟩:=beqC_iff.1 h
  obtain ⟨m,news,hx,hm,h⟩:=srcC_sound hr hB h
  obtain ⟨base,rfl,hRd⟩:=full_full hA
  obtain ⟨d0,hw,htr,hV⟩:=Tr.tokNew hr hRd
  cases h with
  | tok h1 h2 h3 =>
    refine fin d0 l m _ _ hw htr (by simp [hget]) hV ⟨news,hx,hm⟩ h1 h2 ?_
    have:=pushC_iff.1 h3
    simpa [hset] using this
  | pure h1 h2 h3=>exact pureFin d0 l m hw htr hV ⟨news,hx,hm⟩ h1 h2 h3
 ·rename_i sz l j
  obtain ⟨rfl,h⟩:=beqC_iff.1 h
  obtain ⟨m,news,hx,hm,h⟩:=srcC_sound hr hB h
  obtain ⟨ob,hob,h⟩:=hgetC_iff.1 h
  split at h
  ·rename_i sz' top
   have hh:=beqC_iff.1 h
   clear h
   obtain ⟨rfl,rfl,h⟩:=hh
   obtain ⟨_,g7⟩:=hsetC_iff.1 h.next
   exact fin c l m j H rfl (.refl hr) hob hA ⟨news,hx,hm⟩ h.len h.room g7
  ·exact h.elim
 ·exact h.elim

theorem op_appendW (hL : LayOk P L) {cl : Call} {t u : Nat} {r : List Nat} {A B : AV} (hr : HR c H) (ho : o.op = .call cl) (hc : cl.callee = .builtin .append) (hat : cl.argTypes.toList = t :: u :: r)
  {v x : Value} (hv : cl.args.toList.map a.eval = [v,x]) (hA : EV c A v) (hB : EV c B x)
  (h : L.getC u fun i=>(match i.desc with
  | .slice _=>aappendW L t A B H k
  | .str=>aappendW L t A B H k
  | _=>False)) : OpRes P o a.eval c H k ks:=by
 have hh:=slice_desc h hL
 clear h
 obtain ⟨⟨d,hu,hd⟩,h⟩:=hh
 unfold aappendW at h
 have hh:=Lay.getC_ok hL h
 clear h
 obtain ⟨i,hT,h⟩:=hh
 obtain ⟨dt,ht,hdt⟩:=hT.under
 split at h
 case h_2=>exact h.elim
 rename_i el hi
 obtain rfl:=descOf_slice (hdt.trans hi)
 have hh:=Lay.getC_ok hL h
 clear h
 obtain ⟨ei,hE,h⟩:=hh
 obtain ⟨info,z,g1,g2,g3,g4,g5,g6⟩:=hE.info
 have hzs : z.cells.size = flat ei.zero:=by rw [← Array.length_toList]; exact Rd_length _ _ (g6 c.w c.Im)
 have hexec : ∀ r w',(Builtin.append_ #[t,u] o.type #[v,x]).run P c.w = .ok r w' → (execOp a.eval o).run P c.w = .ok (.value r) w':=by
  intro rr w' hrr
  rw [run_builtin ho hc,map_eval_eq hv]
  have e2 : (Builtin.append_ cl.argTypes o.type #[v,x]).run P c.w = (Builtin.append_ #[t,u] o.type #[v,x]).run P c.w:=by
   have e0 : cl.argTypes[0]? = some t:=by rw [← Array.getElem?_toList,hat]; rfl
   have e1 : cl.argTypes[1]? = some u:=by rw [← Array.getElem?_toList,hat]; rfl
   unfold Builtin.append_
   simp only [e0,e1]
   rfl
  simp only [builtin,Sem.run_bind,e2,hrr,Result.andThen_ok,Sem.run_pure]
 have fin : ∀ (d0 : Cx) (l m : List AV) (j : Nat) (H0 : Heap),d0.w = c.w → Tr c H d0 H0 → hget H0 j = some (.tok (flat ei.zero) l.length) → VV d0 (.sl (flat ei.zero) l (.own j)) v →
   (∃ news,Src P (flat ei.zero) c.w x m.length news ∧ RdF c.w c.Im (flat ei.zero) m news) → l.length + m.length ≤ maxL → (l.length + m.length) * ei.bytes ≤ 140737488355328 →
   k (.sl (flat ei.zero) (l ++ m) (.own j)) (hset H0 j (.tok (flat ei.zero) (l.length + m.length))) → OpRes P o a.eval c H k ks:=by
  rintro d0 l m j H0 hw htr hk hV ⟨news,hx,hm⟩ h1 h2 h3
  obtain ⟨c',v',hrun,htr',hV'⟩:=app_own (P:=P) (ty:=o.type) htr.hr hk hV ht hu hd g1 g2 g4 hzs (by rw [hw]; exact hx) (RdF_mono htr.le.im hm) h1 (by rw [g3]; exact h2)
  rw [hw] at hrun
  exact .inl ⟨v',c',_,_,hexec _ _ hrun,htr.trans htr',EV_VV hV',h3⟩
 have pureFin : ∀ (d0 : Cx) (l m : List AV),d0.w = c.w → Tr c H d0 ((nextId H,.tok (flat ei.zero) l.length) :: H) → VV d0 (.sl (flat ei.zero) l (.own (nextId H))) v →
   (∃ news,Src P (flat ei.zero) c.w x m.length news ∧ RdF c.w c.Im (flat ei.zero) m news) → l.length + m.length ≤ maxL → (l.length + m.length) * ei.bytes ≤ 140737488355328 →
   k (.sl (flat ei.zero) (l ++ m) .no) H → OpRes P o a.eval c H k ks:=by
  rintro d0 l m hw htr hV ⟨news,hx,hm⟩ h1 h2 h3
  obtain ⟨c',v',hrun,htr',hV'⟩:=app_own (P:=P) (ty:=o.type) htr.hr (j:=nextId H) (by simp [hget]) hV ht hu hd g1 g2 g4 hzs (by rw [hw]; exact hx) (RdF_mono htr.le.im hm) h1 (by rw [g3]; exact h2)
  rw [hw] at hrun
  have htr2:=htr.trans htr'
  have hset' : hset ((nextId H,HO.tok (flat ei.zero) l.length) :: H) (nextId H) (.tok (flat ei.zero) (l.length + m.length)) = (nextId H,.tok (flat ei.zero) (l.length + m.length)) :: H:=by simp [hset]
  rw [hset'] at htr2
  have hwk : HWk0 ((nextId H,.tok (flat ei.zero) (l.length + m.length)) :: H) H:=by
   refine ⟨WkH_of fun k' o' hmem=>?_,hr.ids⟩
   have hlt:=ids_lt_next hr.ids _ hmem
   have hlt : k' < nextId H:=hlt
   have hok:=hr.ok _ hmem
   refine ⟨o',?_,leO_refl o',?_⟩
   ·simp only [hget]
    have hne : Nat.beq (nextId H) k' = false:=by
     cases hb : Nat.beq (nextId H) k' with
     | false=>rfl
     | true=>have:=Nat.eq_of_beq_eq_true hb; omega
    rw [hne]; exact mem_hget hr.ids hmem
   ·rw [← hr.nx]
    cases o' with
    | box A=>obtain ⟨cs,ty,_,h2,_⟩:=hok; exact VR_bnd _ _ h2
    | amap sh es=>obtain ⟨ents,clock,_,h2,_⟩:=hok; exact VRM_bnd h2
    | _=>rfl
  refine .inl ⟨v',c'.cut H,_,H,hexec _ _ hrun,htr2.cut hwk (by rw [hr.nx]; exact Nat.le_refl _),EV_VV ?_,h3⟩
  refine VV_cut (fun k n hn=>by rw [htr2.hr.tp]; exact hwk.tp k n hn) rfl ?_
  exact le0_VV (by simp only [le0]; exact ⟨trivial,leRL_refl _⟩) hV'
 have wrFin : ∀ (l m : List AV) (base : Option Addr),v = .slice base l.length l.length → Rd c.w c.Im (.sl (flat ei.zero) l .no) [.slice base l.length l.length] →
   (∃ news,Src P (flat ei.zero) c.w x m.length news ∧ RdF c.w c.Im (flat ei.zero) m news) → m ≠ [] → l.length + m.length ≤ maxL → (l.length + m.length) * ei.bytes ≤ 140737488355328 →
   (∀ cp,l.length + m.length ≤ cp → cp ≤ maxL → k (.ms (nextId H) 0 (l.length + m.length) cp (flat ei.zero)) ((nextId H,.arr (flat ei.zero) cp (l ++ m)) :: H)) → OpRes P o a.eval c H k ks:=by
  rintro l m base rfl hRd ⟨news,hx,hm⟩ hne h1 h2 h3
  have hmpos : 0 < m.length:=List.length_pos_iff.2 hne
  obtain ⟨olds,ho1,ho2⟩ : ∃ olds,RdF c.w c.Im (flat ei.zero) l olds ∧ Src P (flat ei.zero) c.w (.slice base l.length l.length) l.length olds:=by
   simp only [Rd] at hRd
   rcases hRd.2 with ⟨rfl,h8⟩ | ⟨ad,cap,h8,h9,h10,h11,h12⟩
   ·exact ⟨[],rfl,by simp at h8; rw [h8]; exact ⟨fun _=>rfl,fun _=>rfl⟩⟩
   ·obtain ⟨olds,g1,g2⟩:=RdF_of_RdE h12
    refine ⟨olds,g1,?_⟩
    simp at h8
    rw [h8.1]
    exact Src.slice (RdF_length g1) (addr_cells rfl rfl (fun hne=>h11 (fun e=>by subst e; exact hne g1)) g2)
  have hol:=RdF_length ho1
  have hml:=RdF_length hm
  have hge:=grownCap_ge c.w (l.length + m.length) l.length el
  have hle:=grownCap_le_maxLen c.w (l.length + m.length) l.length el (by simpa [maxL,maxLen] using h1)
  have hle' : grownCap c.w (l.length + m.length) l.length el ≤ maxL:=by simpa [maxL,maxLen] using hle
  have hrun:=run_app_grow (P:=P) (ty:=o.type) (t:=t) (u:=u) ht hu hd g1 g2 g4 hx (by omega : l.length < l.length + m.length) h1 (by rw [g3]; exact h2) ho2.cells
  generalize hcp : grownCap c.w (l.length + m.length) l.length el = cap' at hge hle' hrun
  let cs:=olds.toArray ++ news.toArray ++ Builtin.zeroCells z.cells (cap' - (l.length + m.length))
  have hcs : cs.size = cap' * flat ei.zero:=by
   simp only [cs,Array.size_append,List.size_toArray,hol,hml,size_zeroCells,hzs]
   rw [← Nat.add_mul,← Nat.add_mul]; congr 1; omega
  have htd:=Tr.drew hr
  let d0 : Cx:={ c with w:=c.w.drew }
  have hr0 : HR d0 H:=htd.hr
  have htr : Tr c H (d0.push (.cells cs el) ((nextId H,.arr (flat ei.zero) cap' (l ++ m)) :: H)) ((nextId H,.arr (flat ei.zero) cap' (l ++ m)) :: H):=by
   refine htd.trans (Tr.push hr0 _ _ (fun _=>rfl) ?_)
   refine ⟨cs.toList,el,?_,?_,by simp; exact hge,hle',?_,?_⟩
   ·rw [push_ρ hr0]; simp only [Cx.push,Array.toArray_toList]; exact alloc_heap_new _ _
   ·rw [Array.length_toList,hcs]
   ·have le:=htd.le.trans (push_le hr0 (.cells cs el) (.arr (flat ei.zero) cap' (l ++ m)))
    have h5:=RdF_append (RdF_mono le.im ho1) (RdF_mono le.im hm)
    have h6:=VRE_of_RdF (c:=d0.push (.cells cs el) ((nextId H,.arr (flat ei.zero) cap' (l ++ m)) :: H)) (rest:=(Builtin.zeroCells z.cells (cap' - (l.length + m.length))).toList) h5
    have e : cs.toList = olds ++ news ++ (Builtin.zeroCells z.cells (cap' - (l.length + m.length))).toList:=by simp [cs]
    rw [e]; exact h6
   ·intro y hy
    rw [push_ρ hr0] at hy
    have:=hr0.im _ _ hy
    omega
  refine .inl ⟨_,_,_,_,hexec _ _ hrun,htr,EV_VV (VV_mk rfl rfl ?_),h3 cap' hge hle'⟩
  simp only [VR]
  rw [push_ρ hr0]
  exact ⟨by simp only [Cx.push,hr0.nx]; omega,by simp [d0],hge,hle'⟩
 split at h
 ·obtain ⟨m,news,hx,hm,h⟩:=srcC_sound hr hB h
  obtain ⟨base,hbe,hRd⟩:=nils_full (sz:=flat ei.zero) hA
  obtain ⟨d0,hw,htr,hV⟩:=Tr.tokNew hr hRd
  cases h with
  | tok h1 h2 h3 =>
    refine fin d0 [] m _ _ hw htr (by simp [hget]) (hbe ▸ hV) ⟨news,hx,hm⟩ h1 h2 ?_
    have:=pushC_iff.1 h3
    simpa [hset] using this
  | pure h1 h2 h3=>exact pureFin d0 [] m hw htr (hbe ▸ hV) ⟨news,hx,hm⟩ h1 h2 h3
  | wr h0 h1 h2 h3=>exact wrFin [] m base hbe hRd ⟨news,hx,hm⟩ h0 (by simpa using h1) (by simpa using h2) h3
 ·rename_i sz l
  obtain ⟨rfl,h⟩:=beqC_iff.1 h
  obtain ⟨m,news,hx,hm,h⟩:=srcC_sound hr hB h
  obtain ⟨base,hbe,hRd⟩:=full_full hA
  obtain ⟨d0,hw,htr,hV⟩:=Tr.tokNew hr hRd
  cases h with
  | tok h1 h2 h3 =>
    refine fin d0 l m _ _ hw htr (by simp [hget]) (hbe ▸ hV) ⟨news,hx,hm⟩ h1 h2 ?_
    have:=pushC_iff.1 h3
    simpa [hset] using this
  | pure h1 h2 h3=>exact pureFin d0 l m hw htr (hbe ▸ hV) ⟨news,hx,hm⟩ h1 h2 h3
  | wr h0 h1 h2 h3=>exact wrFin l m base hbe hRd ⟨news,hx,hm⟩ h0 h1 h2 h3
 ·rename_i sz l j
  obtain ⟨rfl,h⟩:=beqC_iff.1 h
  obtain ⟨m,news,hx,hm,h⟩:=srcC_sound hr hB h
  obtain ⟨ob,hob,h⟩:=hgetC_iff.1 h
  split at h
  ·rename_i sz' top
   have hh:=beqC_iff.1 h
   clear h
   obtain ⟨rfl,rfl,h⟩:=hh
   obtain ⟨_,g7⟩:=hsetC_iff.1 h.next
   exact fin c l m j H rfl (.refl hr) hob hA ⟨news,hx,hm⟩ h.len h.room g7
  ·exact h.elim
 ·rename_i j len
  obtain ⟨m,news,hx,hm,h⟩:=srcC_sound hr hB h
  obtain ⟨ob,hob,h⟩:=hgetC_iff.1 h
  split at h
  ·rename_i sz l
   have hh:=beqC_iff.1 h
   clear h
   obtain ⟨rfl,rfl,h0,h⟩:=hh
   obtain ⟨_,q7⟩:=hsetC_iff.1 h.next
   obtain ⟨c',v',hrun,htr',hV'⟩:=app_gs (P:=P) (ty:=o.type) hr hob hA ht hu hd g1 g2 g4 hzs hx hm h0 h.len (by rw [g3]; exact h.room)
   exact .inl ⟨v',c',_,_,hexec _ _ hrun,htr',EV_VV hV',q7⟩
  ·exact h.elim
 ·exact h.elim

theorem set_same {α : Type} : ∀ {l : List α} {i : Nat} {x : α},l[i]? = some x → l.set i x = l
 | [],_,_,h=>by simp at h
 | y :: l,0,x,h=>by simp at h; simp [h]
 | y :: l,i + 1,x,h=>by simp at h; simp [set_same h]

theorem fill_part {off : Nat} {v : Value} {pre xs post : List Value} {cells : Array Value} (hc : cells.toList = pre ++ xs ++ post) (hp : pre.length = off) (hx : v.cells.size = xs.length) :
  (v.cells.zipIdx.foldl (fun cs (c,j)=>cs.setIfInBounds (off + j) c) cells).toList = pre ++ v.cells.toList ++ post:=by
 obtain ⟨g1,g2⟩:=Great.foldl_set off v.cells.toList 0 cells
 have hsz : cells.size = pre.length + xs.length + post.length:=by rw [← Array.length_toList,hc]; simp; omega
 have e : v.cells.zipIdx.foldl (fun cs (c,j)=>cs.setIfInBounds (off + j) c) cells = (v.cells.toList.zipIdx 0).foldl (fun cs (x : Value × Nat)=>cs.setIfInBounds (off + x.2) x.1) cells:=by
  rw [← Array.foldl_toList,Array.toList_zipIdx]
 rw [e]
 apply List.ext_getElem?
 intro i
 rw [Array.getElem?_toList,g2 i]
 simp only [Nat.add_zero,Array.length_toList]
 have hci : cells[i]? = (pre ++ xs ++ post)[i]?:=by rw [← hc,Array.getElem?_toList]
 by_cases h1 : i < pre.length
 ·rw [if_neg (by omega),hci]
  rw [List.append_assoc,List.append_assoc,List.getElem?_append_left h1,List.getElem?_append_left h1]
 ·by_cases h2 : i < pre.length + xs.length
  ·rw [if_pos ⟨by omega,by omega,by omega⟩]
   rw [List.append_assoc,List.getElem?_append_right (by omega),List.getElem?_append_left (by simp; omega),hp]
  ·rw [if_neg (by omega),hci]
   rw [List.getElem?_append_right (by simp; omega),List.getElem?_append_right (by simp; omega)]
   congr 1; simp [hx]

theorem buildC_fill {place : Nat → Option (Nat × Nat)} {zs : List AV} (hp : ∀ i z,zs[i]? = some z → place i = some (flatL (zs.take i),flat z)) (he : EnvOk c e a) :
  ∀ {ps : List (Nat × Operand)} {l : List AV} {cells : Array Value} {k : List AV → Prop},(∀ p ∈ ps,opdOk p.2 = true) → l.map flat = zs.map flat → VRL c l cells.toList → buildC e ps l k →
    ∃ l' cells',Instr.fill place cells (ps.map fun p=>(p.1,a.eval p.2)) = some cells' ∧ VRL c l' cells'.toList ∧ k l'
 | [],l,cells,k,_,_,hr,h=>⟨l,cells,rfl,hr,h⟩
 | (i,x) :: ps,l,cells,k,ho,hf,hr,h=>by
   simp only [buildC] at h
   obtain ⟨A,hA,h⟩:=aev_sound he (ho (i,x) (by simp)) h
   obtain ⟨hval,h⟩:=valC_iff.1 h
   obtain ⟨z,hz,h⟩:=nthC_iff.1 h
   obtain ⟨hfl,h⟩:=beqC_iff.1 h
   have h' : setNthC l i A fun zs'=>buildC e ps zs' k:=by
    cases A <;> cases z <;> first | exact h | exact h.elim
   obtain ⟨hi,h'⟩:=setNthC_iff h'
   have hAv:=EV_val hA hval
   obtain ⟨pre,xs,post,h1,h2,h3,h4⟩:=VRL_split hr hz
   have hlen : (a.eval x).cells.size = xs.length:=by rw [← Array.length_toList,VR_length _ _ hAv.2,VR_length _ _ h3,hfl]
   have hflat : ∀ (l m : List AV),l.map flat = m.map flat → flatL l = flatL m:=by
    intro l
    induction l with
    | nil=>intro m h; cases m with
      | nil=>rfl
      | cons y m=>simp at h
    | cons y l ih=>intro m h; cases m with
      | nil=>simp at h
      | cons y' m=>simp at h; simp [flatL,h.1,ih m h.2]
   obtain ⟨z0,hz0,hzf⟩ : ∃ z0,zs[i]? = some z0 ∧ flat z0 = flat z:=by
    have : (l.map flat)[i]? = (zs.map flat)[i]?:=by rw [hf]
    rw [List.getElem?_map,List.getElem?_map,hz] at this
    cases hz0 : zs[i]? with
    | none=>simp [hz0] at this
    | some z0=>simp [hz0] at this; exact ⟨z0,rfl,this.symm⟩
   have hoff : flatL (zs.take i) = pre.length:=by
    rw [h2]; refine hflat _ _ ?_
    rw [List.map_take,List.map_take,hf]
   have hpl:=hp i z0 hz0
   have hcs:=fill_part (v:=a.eval x) (off:=pre.length) h1 rfl hlen
   have hsz : pre.length + xs.length ≤ cells.size:=by rw [← Array.length_toList,h1]; simp
   obtain ⟨l',cells',g1,g2,g3⟩:=buildC_fill hp he (cells:=(a.eval x).cells.zipIdx.foldl (fun cs (c,j)=>cs.setIfInBounds (pre.length + j) c) cells) (fun p hp=>ho p (by simp [hp]))
    (l:=l.set i A) (by rw [List.map_set,hfl,← hf]; exact set_same (by rw [List.getElem?_map,hz]; rfl)) (by rw [hcs]; exact h4 _ _ hAv.2) h'
   refine ⟨l',cells',?_,g2,g3⟩
   simp only [List.map_cons,Instr.fill,hpl,hoff]
   rw [if_neg]
   ·exact g1
   ·have : flat z0 = xs.length:=by rw [hzf,VR_length _ _ h3]
    simp; omega

theorem mapM_info {fs : List Field} (h : ∀ f ∈ fs,∃ x,P.info? f.type = some x) :
  fs.mapM (fun f=>(P.info? f.type).map fun i=>(f.offset,i.size)) = some (fs.map fun f=>(f.offset,P.cellsOf f.type)):=by
 induction fs with
 | nil=>rfl
 | cons f fs ih =>
   obtain ⟨x,hx⟩:=h f (by simp)
   simp [List.mapM_cons,hx,ih fun f hf=>h f (by simp [hf]),Program.cellsOf]

theorem flat1_get : ∀ {zs : List AV} {i : Nat} {z : AV},flat1 zs = true → zs[i]? = some z → flatL (zs.take i) = i ∧ flat z = 1
 | [],_,_,_,h=>by simp at h
 | x :: l,i,z,hf,h=>by
   simp only [flat1] at hf
   cases hb : Nat.beq (flat x) 1 with
   | false=>rw [hb] at hf; cases hf
   | true =>
     rw [hb] at hf
     have hx:=Nat.eq_of_beq_eq_true hb
     cases i with
     | zero=>simp at h; subst h; exact ⟨by simp [flatL],hx⟩
     | succ i =>
       obtain ⟨k1,k2⟩:=flat1_get hf (by simpa using h)
       exact ⟨by simp only [List.take_succ_cons,flatL,hx,k1]; omega,k2⟩

theorem op_build (hL : LayOk P L) {t : Nat} {ps : Array (Nat × Operand)} (hr : HR c H) (he : EnvOk c e a) (hx : ∀ p ∈ ps.toList,opdOk p.2 = true) (ho : o.op = .build t ps)
  (h : L.getC t fun i=>(match i.desc,i.zero with
  | .struct _,.ag zs=>buildC e ps.toList zs fun l=>k (.ag l) H
  | .arr _ el,.ag zs=>L.getC el fun ei=>beqC (flat ei.zero) 1 (onB (flat1 zs) (buildC e ps.toList zs fun l=>k (.ag l) H))
  | _,_=>False)) : OpRes P o a.eval c H k ks:=by
 obtain ⟨i,hT,h⟩:=Lay.getC_ok hL h
 obtain ⟨d,hd,hdd⟩:=hT.under
 split at h
 case h_3=>exact h.elim
 case h_2 =>
  rename_i n el zs hi hz
  obtain rfl:=descOf_arr (hdd.trans hi)
  obtain ⟨ei,hE,h⟩:=Lay.getC_ok hL h
  obtain ⟨hf1,h⟩:=beqC_iff.1 h
  obtain ⟨info,z,g1,g2,g3,g4,g5,g6⟩:=hT.info
  obtain ⟨einfo,ez,e1,e2,_,_,_,_⟩:=hE.info
  have hz0 : VRL c zs z.cells.toList:=by
   have:=VR_of_Rd (c:=c) _ _ (g6 c.w c.Im)
   rw [hz] at this
   simpa only [VR] using this
  have hfl : flat1 zs = true ∧ buildC e ps.toList zs fun l=>k (.ag l) H:=by
   unfold onB at h
   split at h
   ·exact ⟨‹_›,h⟩
   ·exact h.elim
  obtain ⟨hfl,h⟩:=hfl
  obtain ⟨l,cells,h1,h2,h3⟩:=buildC_fill (place:=fun i=>some (i * einfo.size,einfo.size)) (fun i z hz=>by
   obtain ⟨k1,k2⟩:=flat1_get hfl hz
   rw [e2,hf1,Nat.mul_one,k1,k2]) he hx rfl hz0 h
  refine .pure hr (v:=.agg cells) ?_ (EV_VV (A:=.ag l) ⟨⟨fun _=>⟨_,rfl⟩,fun h=>by cases h⟩,by show VR c (.ag l) cells.toList; simpa only [VR] using h2⟩) h3
  unfold execOp; rw [ho]
  have hb : P.built t (ps.map fun (i,x)=>(i,a.eval x)).toList = some cells:=by
   unfold Program.built
   simp only [g1,hd,g4,e1]
   rw [Array.toList_map]
   exact h1
  simp only [Sem.run_bind,run_build c.w t _ cells hb,Result.andThen_ok,Sem.run_pure]
 rename_i fs zs hi hz
 obtain ⟨gs,rfl,rfl⟩:=descOf_struct (hdd.trans hi)
 obtain ⟨zs',hz',hoff⟩:=hT.flds _ hi
 rw [hz] at hz'; cases hz'
 have hinf:=hT.inf _ hi
 obtain ⟨info,z,g1,g2,g3,g4,g5,g6⟩:=hT.info
 have hz0 : VRL c zs z.cells.toList:=by
  have:=VR_of_Rd (c:=c) _ _ (g6 c.w c.Im)
  rw [hz] at this
  simpa only [VR] using this
 have hm : gs.toList.mapM (fun f=>(P.info? f.type).map fun i=>(f.offset,i.size)) = some (offsOf 0 zs):=by
  rw [mapM_info fun f hf=>hinf (f.offset,P.cellsOf f.type,f.type) (List.mem_map.2 ⟨f,hf,rfl⟩),← hoff,List.map_map]
  rfl
 obtain ⟨l,cells,h1,h2,h3⟩:=buildC_fill (place:=fun i=>(offsOf 0 zs).toArray[i]?) (fun i z hz=>by simpa using offsOf_get (n:=0) hz) he hx rfl hz0 h
 refine .pure hr (v:=.agg cells) ?_ (EV_VV (A:=.ag l) ⟨⟨fun _=>⟨_,rfl⟩,fun h=>by cases h⟩,by show VR c (.ag l) cells.toList; simpa only [VR] using h2⟩) h3
 unfold execOp; rw [ho]
 have hb : P.built t (ps.map fun (i,x)=>(i,a.eval x)).toList = some cells:=by
  unfold Program.built
  simp only [g1,hd,g4,hm]
  rw [Array.toList_map]
  exact h1
 simp only [Sem.run_bind,run_build c.w t _ cells hb,Result.andThen_ok,Sem.run_pure]

theorem RdF_split {w : World} {Im : Nat → Nat → Prop} {sz : Nat} : ∀ {l : List AV} {cs : List Value} {j : Nat} {x : AV},RdF w Im sz l cs → l[j]? = some x →
  ∃ pre xs post,cs = pre ++ xs ++ post ∧ pre.length = j * sz ∧ xs.length = sz ∧ ∀ y ys,Rd w Im y ys → ys.length = sz → RdF w Im sz (l.set j y) (pre ++ ys ++ post)
 | [],_,_,_,_,h=>by simp at h
 | z :: l,cs,0,x,hr,h=>by
   obtain ⟨a,d,rfl,h2,h3,h4⟩:=hr
   refine ⟨[],a,d,by simp,by simp,h2,fun y ys hy hl=>?_⟩
   exact ⟨ys,d,by simp,hl,hy,h4⟩
 | z :: l,cs,j + 1,x,hr,h=>by
   obtain ⟨a,d,rfl,h2,h3,h4⟩:=hr
   obtain ⟨pre,xs,post,rfl,h5,h6,h8⟩:=RdF_split h4 (by simpa using h : l[j]? = some x)
   refine ⟨a ++ pre,xs,post,by simp,by simp [h2,h5,Nat.add_mul]; omega,h6,fun y ys hy hl=>?_⟩
   exact ⟨a,pre ++ ys ++ post,by simp,h2,h3,h8 y ys hy hl⟩

theorem buildSC_fill {sz : Nat} (he : EnvOk c e a) :
  ∀ {ps : List (Nat × Operand)} {l : List AV} {cells : Array Value} {k : List AV → Prop},(∀ p ∈ ps,opdOk p.2 = true) → (∀ z ∈ l,flat z = sz) → RdF c.w c.Im sz l cells.toList → buildSC e ps l k →
    ∃ l' cells',Instr.fill (fun i=>some (i * sz,sz)) cells (ps.map fun p=>(p.1,a.eval p.2)) = some cells' ∧ l'.length = l.length ∧ RdF c.w c.Im sz l' cells'.toList ∧ k l'
 | [],l,cells,k,_,_,hr,h=>⟨l,cells,rfl,rfl,hr,h⟩
 | (i,x) :: ps,l,cells,k,ho,hf,hr,h=>by
   simp only [buildSC] at h
   obtain ⟨A,hA,h⟩:=aev_sound he (ho (i,x) (by simp)) h
   obtain ⟨z,hz,h⟩:=nthC_iff.1 h
   obtain ⟨hfl,h⟩:=beqC_iff.1 h
   have h' : pureC A fun B=>setNthC l i B fun zs'=>buildSC e ps zs' k:=by
    cases A <;> cases z <;> first | exact h | exact h.elim
   obtain ⟨hpu,h'⟩:=pureC_sound h'
   obtain ⟨hi,h'⟩:=setNthC_iff h'
   have hval : isVal A = true:=by cases A <;> first | rfl | (simp [pureB] at hpu)
   have hAv:=EV_val hA hval
   have hzs : flat z = sz:=hf z (List.mem_of_getElem? hz)
   obtain ⟨pre,xs,post,h1,h2,h3,h4⟩:=RdF_split hr hz
   have hlen : (a.eval x).cells.toList.length = sz:=by rw [VR_length _ _ hAv.2,hfl,hzs]
   have hlen' : (a.eval x).cells.size = sz:=by rw [← hlen,Array.length_toList]
   have hcs:=fill_part (v:=a.eval x) (off:=i * sz) h1 h2 (by rw [hlen',h3])
   have hR:=Rd_strip _ _ hpu hAv.2
   have hsz : pre.length + xs.length ≤ cells.size:=by rw [← Array.length_toList,h1]; simp
   obtain ⟨l',cells',g1,g2,g3,g4⟩:=buildSC_fill he (cells:=(a.eval x).cells.zipIdx.foldl (fun cs (c,j)=>cs.setIfInBounds (i * sz + j) c) cells) (fun p hp=>ho p (by simp [hp]))
    (l:=l.set i (strip A)) (fun y hy=>by
     rcases List.mem_or_eq_of_mem_set hy with hy | rfl
     ·exact hf y hy
     ·rw [← Rd_length _ _ hR]; exact hlen) (by rw [hcs]; exact h4 _ _ hR hlen) h'
   refine ⟨l',cells',?_,by rw [g2]; simp,g3,g4⟩
   simp only [List.map_cons,Instr.fill]
   rw [if_neg]
   ·exact g1
   ·simp; omega

theorem bleC_iff {a b : Nat} {k : Prop} : bleC a b k ↔ a ≤ b ∧ k:=by
 unfold bleC
 cases h : Nat.ble a b with
 | true=>simp [Nat.le_of_ble_eq_true h]
 | false=>simp; intro hle; rw [Nat.ble_eq_true_of_le hle] at h; cases h

theorem op_buildSlice (hL : LayOk P L) {t n : Nat} {ps : Array (Nat × Operand)} (hr : HR c H) (he : EnvOk c e a) (hx : ∀ p ∈ ps.toList,opdOk p.2 = true) (ho : o.op = .buildSlice t n ps)
  (h : L.getC t fun i=>(match i.desc with
  | .slice el=>L.getC el fun ei=>bleC (n * flat ei.zero) 16777216 <| bleC n 16777216 <| repC ei.zero n fun zs=>buildSC e ps.toList zs fun l=>k (.sl (flat ei.zero) l .full) H
  | _=>False)) : OpRes P o a.eval c H k ks:=by
 obtain ⟨i,hT,h⟩:=Lay.getC_ok hL h
 obtain ⟨d,hd,hdd⟩:=hT.under
 split at h
 case h_2=>exact h.elim
 rename_i el hi
 obtain rfl:=descOf_slice (hdd.trans hi)
 obtain ⟨ei,hE,h⟩:=Lay.getC_ok hL h
 obtain ⟨hb1,h⟩:=bleC_iff.1 h
 obtain ⟨hb2,h⟩:=bleC_iff.1 h
 have h:=repC_iff.1 h
 obtain ⟨info,z,g1,g2,g3,g4,g5,g6⟩:=hE.info
 have hmade:=RdF_made (g6 c.w c.Im) n
 obtain ⟨l,cells,h1,h2,h3,h4⟩:=buildSC_fill (sz:=flat ei.zero) he hx (fun y hy=>by rw [(List.mem_replicate.1 hy).2]) hmade h
 rw [List.length_replicate] at h2
 have hrun : (Instr.buildSlice t n (ps.map fun (i,x)=>(i,a.eval x))).run P c.w = .ok (.slice (some ⟨c.w.heap.size,0,none⟩) n n) (c.w.alloc (.cells cells el)):=by
  have h1' : Instr.fill (fun i=>some (i * info.size,info.size)) ((Array.range (n * info.size)).map (z.cells[· % z.cells.size]!)) (ps.map fun (i,x)=>(i,a.eval x)).toList = some cells:=by
   rw [g2,Array.toList_map]; exact h1
  by_cases hpos : n * info.size = 0
  ·have e0 : ∀ zz : Array Value,(Array.range (n * info.size)).map (zz[· % zz.size]!) = #[]:=by intro zz; rw [hpos]; simp
   rw [e0] at h1'
   have hsmall : ¬ n * info.size > 2 ^ 24:=by omega
   have e1:=e0 #[]
   have hszz : (sizeOf el).run P c.w = .ok info.size c.w:=by unfold sizeOf typeInfo; simp [g1]
   unfold Instr.buildSlice
   simp only [Sem.run_bind,run_underlying hd,Result.andThen_ok,hszz,hsmall,if_false]
   rw [if_pos hpos]
   simp only [Sem.run_bind,Sem.run_pure,Result.andThen_ok,e1,h1',newRow,run_newObj,World.alloc_eq]
  ·exact Go.run_buildSlice c.w t el n _ cells info z hd g1 g4 (by rw [g2]; omega) hpos h1'
 refine .inl ⟨.slice (some ⟨c.w.heap.size,0,none⟩) n n,c.alloc (.cells cells el),_,H,?_,Tr.alloc hr _,EV_VV (VV_mk rfl rfl ?_),h4⟩
 ·unfold execOp; rw [ho]
  simp only [Sem.run_bind,hrun,Result.andThen_ok,Sem.run_pure]
  rfl
 ·simp only [VR,Rd]
  refine ⟨⟨by simp [maxL]; omega,.inr ⟨⟨c.w.heap.size,0,none⟩,n,by rw [h2],by omega,by simp [maxL]; omega,fun _=>rfl,?_⟩⟩,⟨some ⟨c.w.heap.size,0,none⟩,by rw [h2]⟩⟩
  have le:=(Tr.alloc hr (.cells cells el)).le
  refine RdE_of_RdF (RdF_mono le.im h3) fun j v hj=>⟨?_,.inr rfl⟩
  rw [Nat.zero_add]
  show (c.w.alloc _).cell? ⟨c.w.heap.size,j,none⟩ = _
  rw [cell_of_heap (alloc_heap_new c.w _),← Array.getElem?_toList]; exact hj
end
end Go.AL

namespace Go.AL

section
variable {P : Program} {L : Lay} {c : Cx} {H : Heap} {e : Env} {a : Act} {k : AV → Heap → Prop} {ks : Heap → Prop} {o : Oper}

theorem EV_nilI {v : Value} (h : EV c .nilI v) : v = .nilIface:=VV_nilI h
theorem EV_ifc {t : Nat} {x : AV} {v : Value} (h : EV c (.ifc t x) v) : ∃ u,v = .iface t u ∧ VV c x u:=VV_ifc h

theorem EV_pair {c : Cx} {A B : AV} {v u : Value} (hA : VV c A v) (hB : VV c B u) : EV c (.tup [A,B]) (.tuple #[v,u]) :=
 ⟨_,rfl,_,_,rfl,hA.1,hA.2,_,_,rfl,hB.1,hB.2,rfl⟩

theorem nilcmp_sound {op : BinOp} {A : AV} {K : AV → Prop} {v : Value} (hA : EV c A v) (h : anil op A K) :
  (op = .eql ∨ op = .neq) ∧ ∃ ad l n,v = .slice ad l n ∧ ∃ R,VV c R (.bool (if op = .eql then ad.isNone else !ad.isNone)) ∧ K R:=by
 unfold anil at h
 split at h
 ·have hv:=VV_nils hA
  exact ⟨.inl rfl,none,0,0,hv,_,VV_tt_mk,h⟩
 ·have hv:=VV_nils hA
  exact ⟨.inr rfl,none,0,0,hv,_,VV_ff_mk,h⟩
 ·obtain ⟨_,hv,_⟩:=VV_ms hA
  exact ⟨.inl rfl,_,_,_,hv,_,VV_ff_mk,h⟩
 ·obtain ⟨_,hv,_⟩:=VV_ms hA
  exact ⟨.inr rfl,_,_,_,hv,_,VV_tt_mk,h⟩
 ·obtain ⟨_,⟨h1,hv⟩ | ⟨ad,cap,hv,_⟩⟩:=VV_sl hA
  ·exact ⟨.inl rfl,none,0,0,hv,_,VV_bool_mk true,h true fun _=>h1⟩
  ·exact ⟨.inl rfl,some ad,_,_,hv,_,VV_bool_mk false,h false fun h=>by cases h⟩
 ·obtain ⟨_,⟨h1,hv⟩ | ⟨ad,cap,hv,_⟩⟩:=VV_sl hA
  ·exact ⟨.inr rfl,none,0,0,hv,_,VV_bool_mk false,h false fun _=>h1⟩
  ·exact ⟨.inr rfl,some ad,_,_,hv,_,VV_bool_mk true,h true fun h=>by cases h⟩
 ·exact h.elim

theorem run_equalIn_slice_nil {t el : Nat} (ht : P.underlying t = some (.slice el)) (ad : Option Addr) (l n d : Nat) (w : World) :
  (Op.equalIn (d + 1) t (.slice ad l n) (.slice none 0 0)).run P w = .ok ad.isNone w:=by
 cases ad <;> simp only [Op.equalIn,Sem.run_bind,run_underlying ht,Result.andThen_ok,Sem.run_pure,Option.isNone]

theorem run_equal_slice_nil {t el : Nat} (ht : P.underlying t = some (.slice el)) (ad : Option Addr) (l n : Nat) (w : World) :
  (Op.equal t (.slice ad l n) (.slice none 0 0)).run P w = .ok ad.isNone w:=run_equalIn_slice_nil ht ad l n 9999 w

theorem op_nilcmp (hL : LayOk P L) {op : BinOp} {t ty : Nat} {x y : Operand} (hr : HR c H) (he : EnvOk c e a) (hx : opdOk x = true) (ho : o.op = .binOp op t x y ty) (hn : nilcmpB (.binOp op t x y ty) = true)
  (h : aev e x fun A=>L.getC t fun i=>(match i.desc with | .slice _=>anil op A fun R=>k R H | _=>False)) : OpRes P o a.eval c H k ks:=by
 obtain ⟨A,hA,h⟩:=aev_sound he hx h
 obtain ⟨i,hT,h⟩:=Lay.getC_ok hL h
 obtain ⟨d,hd,hdd⟩:=hT.under
 have hy : y = .const (.slice none 0 0):=by
  unfold nilcmpB at hn
  split at hn
  ·rename_i heq; cases heq; rfl
  ·cases hn
 subst hy
 split at h
 ·rename_i el hi
  obtain rfl:=descOf_slice (hdd.trans hi)
  obtain ⟨hop,ad,l,n,hv,R,hR,hk⟩:=nilcmp_sound hA h
  refine .pure hr (run_binOp_ok ho (eqGuard_run (fun ⟨cs,ds,h1,_⟩=>by rw [hv] at h1; cases h1) (fun h1=>by rw [hv] at h1; cases h1)) ?_) (EV_VV hR) hk
  have e2 : a.eval (.const (.slice none 0 0)) = .slice none 0 0:=rfl
  rw [hv,e2]
  rcases hop with rfl | rfl
  ·simp only [binOp,run_equal_slice_nil hd,Sem.run_bind,Result.andThen_ok,Sem.run_pure]
   rfl
  ·simp only [binOp,run_equal_slice_nil hd,Sem.run_bind,Result.andThen_ok,Sem.run_pure]
   rfl
 ·exact h.elim

theorem op_typeAssert (hL : LayOk P L) {x : Operand} {xt s : Nat} {ok : Bool} (hr : HR c H) (he : EnvOk c e a) (hx : opdOk x = true) (ho : o.op = .typeAssert x xt s ok)
  (h : aev e x fun A=>L.getC s fun i=>(match i.desc with
  | .iface=>False
  | _=>asrt i.zero s A ok fun R=>k R H)) : OpRes P o a.eval c H k ks:=by
 obtain ⟨A,hA,h⟩:=aev_sound he hx h
 obtain ⟨i,hT,h⟩:=Lay.getC_ok hL h
 obtain ⟨d,hd,hdd⟩:=hT.under
 have hne : ∀ ms,d ≠ .interface ms:=by
  rintro ms rfl
  have : i.desc = .iface:=hdd.symm
  rw [this] at h; exact h
 obtain ⟨z,hz,hzs,hzr⟩:=hT.run_zero c.w
 have hZ : VV c i.zero z:=⟨hzs,VR_of_Rd _ _ (hzr _ _)⟩
 have h' : asrt i.zero s A ok fun R=>k R H:=by
  cases hi : i.desc <;> rw [hi] at h <;> first | exact h.elim | exact h
 clear h
 have fails : ∀ u,a.eval x = u → (u = .nilIface ∨ ∃ t y,u = .iface t y ∧ t ≠ s) → ok = true → (execOp a.eval o).run P c.w = .ok (.value (.tuple #[z,.bool false])) c.w:=by
  intro u hu hcase hok
  unfold execOp; rw [ho,hok]
  simp only [Instr.typeAssert,Sem.run_bind,run_underlying hd,Result.andThen_ok,hu]
  rcases hcase with rfl | ⟨t,y,rfl,hts⟩
  ·cases d <;> first | exact absurd rfl (hne _) | simp only [if_true,Sem.run_bind,hz,Result.andThen_ok,Sem.run_pure]
  ·cases d <;> first | exact absurd rfl (hne _) | simp only [if_neg hts,if_true,Sem.run_bind,hz,Result.andThen_ok,Sem.run_pure]
 unfold asrt at h'
 split at h'
 ·have hv:=EV_nilI hA
  exact .pure hr (fails _ hv (.inl rfl) rfl) (EV_pair hZ VV_ff_mk) h'
 ·rename_i t y
  obtain ⟨u,hv,hU⟩:=EV_ifc hA
  split at h'
  ·rename_i hb
   obtain rfl:=Nat.eq_of_beq_eq_true hb
   refine .pure hr (v:=.tuple #[u,.bool true]) ?_ (EV_pair hU VV_tt_mk) h'
   unfold execOp; rw [ho]
   simp only [Instr.typeAssert,Sem.run_bind,run_underlying hd,Result.andThen_ok,hv]
   cases d <;> first | exact absurd rfl (hne _) | simp only [if_true,Result.andThen_ok,Sem.run_pure]
  ·rename_i hb
   exact .pure hr (fails _ hv (.inr ⟨_,u,rfl,beq_false_ne hb⟩) rfl) (EV_pair hZ VV_ff_mk) h'
 ·rename_i t y
  obtain ⟨u,hv,hU⟩:=EV_ifc hA
  split at h'
  ·rename_i hb
   obtain rfl:=Nat.eq_of_beq_eq_true hb
   refine .pure hr (v:=u) ?_ (EV_VV hU) h'
   unfold execOp; rw [ho]
   simp only [Instr.typeAssert,Sem.run_bind,run_underlying hd,Result.andThen_ok,hv]
   cases d <;> first | exact absurd rfl (hne _) | simp only [if_true,Bool.false_eq_true,if_false,Result.andThen_ok,Sem.run_pure]
  ·exact h'.elim
 ·exact h'.elim

theorem onB_iff {b : Bool} {k : Prop} : onB b k ↔ b = true ∧ k:=by
 unfold onB; cases b <;> simp

mutual
theorem kvC_VR {c : Cx} : ∀ (S A : AV) (cs : List Value),sameSh S A = true → VR c A cs → cs = kvC A ∧ Rd c.w c.Im A cs
 | .int _ _,.int k n,cs,_,h=>by simp only [VR,Rd] at h; exact ⟨by rw [h.1]; rfl,by simp only [Rd]; exact h⟩
 | .str _,.str s,cs,_,h=>by simp only [VR,Rd] at h; exact ⟨by rw [h.1]; rfl,by simp only [Rd]; exact h⟩
 | .ag s,.ag l,cs,hs,h=>by
   simp only [VR] at h
   simp only [sameSh] at hs
   simp only [kvC,Rd]
   exact kvCL_VR s l cs hs h
 | .int _ _,.bool _,_,hs,_=>by simp [sameSh] at hs
 | .int _ _,.tt,_,hs,_=>by simp [sameSh] at hs
 | .int _ _,.ff,_,hs,_=>by simp [sameSh] at hs
 | .int _ _,.dec _,_,hs,_=>by simp [sameSh] at hs
 | .int _ _,.str _,_,hs,_=>by simp [sameSh] at hs
 | .int _ _,.nilI,_,hs,_=>by simp [sameSh] at hs
 | .int _ _,.ifc _ _,_,hs,_=>by simp [sameSh] at hs
 | .int _ _,.nils,_,hs,_=>by simp [sameSh] at hs
 | .int _ _,.sl _ _ _,_,hs,_=>by simp [sameSh] at hs
 | .int _ _,.ms _ _ _ _ _,_,hs,_=>by simp [sameSh] at hs
 | .int _ _,.ag _,_,hs,_=>by simp [sameSh] at hs
 | .int _ _,.tup _,_,hs,_=>by simp [sameSh] at hs
 | .int _ _,.ptr _ _ _,_,hs,_=>by simp [sameSh] at hs
 | .int _ _,.cp _,_,hs,_=>by simp [sameSh] at hs
 | .int _ _,.nilp,_,hs,_=>by simp [sameSh] at hs
 | .int _ _,.fn _ _,_,hs,_=>by simp [sameSh] at hs
 | .int _ _,.nilf,_,hs,_=>by simp [sameSh] at hs
 | .int _ _,.mp _,_,hs,_=>by simp [sameSh] at hs
 | .int _ _,.gs _ _,_,hs,_=>by simp [sameSh] at hs
 | .int _ _,.bm _ _,_,hs,_=>by simp [sameSh] at hs
 | .int _ _,.nilm,_,hs,_=>by simp [sameSh] at hs
 | .int _ _,.und,_,hs,_=>by simp [sameSh] at hs
 | .str _,A,cs,hs,h=>by
   cases A <;> first | (simp [sameSh] at hs; done) | skip
   simp only [VR,Rd] at h
   exact ⟨by rw [h.1]; rfl,by simp only [Rd]; exact h⟩
 | .ag s,A,cs,hs,h=>by
   cases A <;> first | (simp [sameSh] at hs; done) | skip
   rename_i l
   simp only [VR] at h
   simp only [sameSh] at hs
   simp only [kvC,Rd]
   exact kvCL_VR s l cs hs h
 | .bool _,A,_,hs,_=>by cases A <;> simp [sameSh] at hs
 | .tt,A,_,hs,_=>by cases A <;> simp [sameSh] at hs
 | .ff,A,_,hs,_=>by cases A <;> simp [sameSh] at hs
 | .dec _,A,_,hs,_=>by cases A <;> simp [sameSh] at hs
 | .nilI,A,_,hs,_=>by cases A <;> simp [sameSh] at hs
 | .ifc _ _,A,_,hs,_=>by cases A <;> simp [sameSh] at hs
 | .nils,A,_,hs,_=>by cases A <;> simp [sameSh] at hs
 | .sl _ _ _,A,_,hs,_=>by cases A <;> simp [sameSh] at hs
 | .ms _ _ _ _ _,A,_,hs,_=>by cases A <;> simp [sameSh] at hs
 | .tup _,A,_,hs,_=>by cases A <;> simp [sameSh] at hs
 | .ptr _ _ _,A,_,hs,_=>by cases A <;> simp [sameSh] at hs
 | .cp _,A,_,hs,_=>by cases A <;> simp [sameSh] at hs
 | .nilp,A,_,hs,_=>by cases A <;> simp [sameSh] at hs
 | .fn _ _,A,_,hs,_=>by cases A <;> simp [sameSh] at hs
 | .nilf,A,_,hs,_=>by cases A <;> simp [sameSh] at hs
 | .mp _,A,_,hs,_=>by cases A <;> simp [sameSh] at hs
 | .gs _ _,A,_,hs,_=>by cases A <;> simp [sameSh] at hs
 | .bm _ _,A,_,hs,_=>by cases A <;> simp [sameSh] at hs
 | .nilm,A,_,hs,_=>by cases A <;> simp [sameSh] at hs
 | .und,A,_,hs,_=>by cases A <;> simp [sameSh] at hs
theorem kvCL_VR {c : Cx} : ∀ (s l : List AV) (cs : List Value),sameShL s l = true → VRL c l cs → cs = kvCL l ∧ RdL c.w c.Im l cs
 | [],[],cs,_,h=>by simp only [VRL] at h; subst h; exact ⟨rfl,by simp only [RdL]⟩
 | [],_ :: _,_,hs,_=>by simp [sameShL] at hs
 | _ :: _,[],_,hs,_=>by simp [sameShL] at hs
 | x :: s,y :: l,cs,hs,h=>by
   simp only [sameShL,Bool.and_eq_true] at hs
   simp only [VRL] at h
   obtain ⟨p,q,rfl,h1,h2⟩:=h
   obtain ⟨e1,r1⟩:=kvC_VR x y p hs.1 h1
   obtain ⟨e2,r2⟩:=kvCL_VR s l q hs.2 h2
   refine ⟨by rw [e1,e2]; rfl,?_⟩
   simp only [RdL]
   exact ⟨p,q,rfl,r1,r2⟩
end

mutual
theorem sameSh_trans : ∀ (A B C : AV),sameSh A B = true → sameSh A C = true → sameSh B C = true
 | .int a _,B,C,h1,h2=>by
   cases B <;> first | (simp [sameSh] at h1; done) | skip
   cases C <;> first | (simp [sameSh] at h2; done) | skip
   simp only [sameSh] at *
   obtain rfl:=ikeq_eq h1
   exact h2
 | .str _,B,C,h1,h2=>by
   cases B <;> first | (simp [sameSh] at h1; done) | skip
   cases C <;> first | (simp [sameSh] at h2; done) | skip
   rfl
 | .ag l,B,C,h1,h2=>by
   cases B <;> first | (simp [sameSh] at h1; done) | skip
   cases C <;> first | (simp [sameSh] at h2; done) | skip
   simp only [sameSh] at *
   exact sameShL_trans l _ _ h1 h2
 | .bool _,B,_,h1,_=>by cases B <;> simp [sameSh] at h1
 | .tt,B,_,h1,_=>by cases B <;> simp [sameSh] at h1
 | .ff,B,_,h1,_=>by cases B <;> simp [sameSh] at h1
 | .dec _,B,_,h1,_=>by cases B <;> simp [sameSh] at h1
 | .nilI,B,_,h1,_=>by cases B <;> simp [sameSh] at h1
 | .ifc _ _,B,_,h1,_=>by cases B <;> simp [sameSh] at h1
 | .nils,B,_,h1,_=>by cases B <;> simp [sameSh] at h1
 | .sl _ _ _,B,_,h1,_=>by cases B <;> simp [sameSh] at h1
 | .ms _ _ _ _ _,B,_,h1,_=>by cases B <;> simp [sameSh] at h1
 | .tup _,B,_,h1,_=>by cases B <;> simp [sameSh] at h1
 | .ptr _ _ _,B,_,h1,_=>by cases B <;> simp [sameSh] at h1
 | .cp _,B,_,h1,_=>by cases B <;> simp [sameSh] at h1
 | .nilp,B,_,h1,_=>by cases B <;> simp [sameSh] at h1
 | .fn _ _,B,_,h1,_=>by cases B <;> simp [sameSh] at h1
 | .nilf,B,_,h1,_=>by cases B <;> simp [sameSh] at h1
 | .mp _,B,_,h1,_=>by cases B <;> simp [sameSh] at h1
 | .gs _ _,B,_,h1,_=>by cases B <;> simp [sameSh] at h1
 | .bm _ _,B,_,h1,_=>by cases B <;> simp [sameSh] at h1
 | .nilm,B,_,h1,_=>by cases B <;> simp [sameSh] at h1
 | .und,B,_,h1,_=>by cases B <;> simp [sameSh] at h1
theorem sameShL_trans : ∀ (l m r : List AV),sameShL l m = true → sameShL l r = true → sameShL m r = true
 | [],[],[],_,_=>rfl
 | [],[],_ :: _,_,h=>by simp [sameShL] at h
 | [],_ :: _,_,h,_=>by simp [sameShL] at h
 | _ :: _,[],_,h,_=>by simp [sameShL] at h
 | _ :: _,_ :: _,[],_,h=>by simp [sameShL] at h
 | x :: l,y :: m,z :: r,h1,h2=>by
   simp only [sameShL,Bool.and_eq_true] at *
   exact ⟨sameSh_trans x y z h1.1 h2.1,sameShL_trans l m r h1.2 h2.2⟩
end

mutual
theorem sameSh_comp : ∀ (A B C : AV),sameSh A B = true → sameSh B C = true → sameSh A C = true
 | .int a _,B,C,h1,h2=>by
   cases B <;> first | (simp [sameSh] at h1; done) | skip
   cases C <;> first | (simp [sameSh] at h2; done) | skip
   simp only [sameSh] at *
   obtain rfl:=ikeq_eq h1
   exact h2
 | .str _,B,C,h1,h2=>by
   cases B <;> first | (simp [sameSh] at h1; done) | skip
   cases C <;> first | (simp [sameSh] at h2; done) | skip
   rfl
 | .ag l,B,C,h1,h2=>by
   cases B <;> first | (simp [sameSh] at h1; done) | skip
   cases C <;> first | (simp [sameSh] at h2; done) | skip
   simp only [sameSh] at *
   exact sameShL_comp l _ _ h1 h2
 | .bool _,B,_,h1,_=>by cases B <;> simp [sameSh] at h1
 | .tt,B,_,h1,_=>by cases B <;> simp [sameSh] at h1
 | .ff,B,_,h1,_=>by cases B <;> simp [sameSh] at h1
 | .dec _,B,_,h1,_=>by cases B <;> simp [sameSh] at h1
 | .nilI,B,_,h1,_=>by cases B <;> simp [sameSh] at h1
 | .ifc _ _,B,_,h1,_=>by cases B <;> simp [sameSh] at h1
 | .nils,B,_,h1,_=>by cases B <;> simp [sameSh] at h1
 | .sl _ _ _,B,_,h1,_=>by cases B <;> simp [sameSh] at h1
 | .ms _ _ _ _ _,B,_,h1,_=>by cases B <;> simp [sameSh] at h1
 | .tup _,B,_,h1,_=>by cases B <;> simp [sameSh] at h1
 | .ptr _ _ _,B,_,h1,_=>by cases B <;> simp [sameSh] at h1
 | .cp _,B,_,h1,_=>by cases B <;> simp [sameSh] at h1
 | .nilp,B,_,h1,_=>by cases B <;> simp [sameSh] at h1
 | .fn _ _,B,_,h1,_=>by cases B <;> simp [sameSh] at h1
 | .nilf,B,_,h1,_=>by cases B <;> simp [sameSh] at h1
 | .mp _,B,_,h1,_=>by cases B <;> simp [sameSh] at h1
 | .gs _ _,B,_,h1,_=>by cases B <;> simp [sameSh] at h1
 | .bm _ _,B,_,h1,_=>by cases B <;> simp [sameSh] at h1
 | .nilm,B,_,h1,_=>by cases B <;> simp [sameSh] at h1
 | .und,B,_,h1,_=>by cases B <;> simp [sameSh] at h1
theorem sameShL_comp : ∀ (l m r : List AV),sameShL l m = true → sameShL m r = true → sameShL l r = true
 | [],[],[],_,_=>rfl
 | [],[],_ :: _,_,h=>by simp [sameShL] at h
 | [],_ :: _,_,h,_=>by simp [sameShL] at h
 | _ :: _,[],_,h,_=>by simp [sameShL] at h
 | _ :: _,_ :: _,[],_,h=>by simp [sameShL] at h
 | x :: l,y :: m,z :: r,h1,h2=>by
   simp only [sameShL,Bool.and_eq_true] at *
   exact ⟨sameSh_comp x y z h1.1 h2.1,sameShL_comp l m r h1.2 h2.2⟩
end

theorem KSh_trans {sh sh' : AV} (h : sameSh sh' sh = true) : ∀ {es : List (AV × AV)},KSh sh' es → KSh sh es
 | [],_=>trivial
 | (_,_) :: _,hk=>⟨sameSh_trans _ _ _ h hk.1,KSh_trans h hk.2⟩

theorem key_eq {c : Cx} {sh A B : AV} {v u : Value} (h1 : sameSh sh A = true) (h2 : sameSh sh B = true) (hA : VV c A v) (hB : VV c B u) : v = u ↔ kvC A = kvC B:=by
 have e1:=(kvC_VR sh A _ h1 hA.2).1
 have e2:=(kvC_VR sh B _ h2 hB.2).1
 have hag : isAg A = isAg B:=by
  cases sh <;> cases A <;> first | (simp [sameSh] at h1; done) | skip
  all_goals (cases B <;> first | (simp [sameSh] at h2; done) | rfl)
 constructor
 ·rintro rfl
  rw [← e1,← e2]
 ·intro h
  have hc : v.cells.toList = u.cells.toList:=by rw [e1,e2,h]
  cases hb : isAg A with
  | true =>
    obtain ⟨cs,rfl⟩:=hA.1.1 hb
    obtain ⟨ds,rfl⟩:=hB.1.1 (hag ▸ hb)
    have : cs.toList = ds.toList:=hc
    rw [Array.toList_inj.1 this]
  | false =>
    have h3:=hA.1.2 hb
    have h4:=hB.1.2 (hag ▸ hb)
    rw [h3,h4] at hc
    simpa using hc

theorem VRM_get {c : Cx} : ∀ {es : List (AV × AV)} {ents : List MapEntry} {j : Nat} {x : MapEntry},VRM c es ents → ents[j]? = some x → ∃ y,es[j]? = some y ∧ VV c y.1 x.key ∧ VV c y.2 x.val
 | [],ents,j,x,h,hj=>by obtain rfl:=h; simp at hj
 | (p,q) :: es,ents,0,x,h,hj=>by
   obtain ⟨e0,r,rfl,h1,h2,h3⟩:=h
   simp at hj; subst hj
   exact ⟨(p,q),rfl,h1,h2⟩
 | (p,q) :: es,ents,j + 1,x,h,hj=>by
   obtain ⟨e0,r,rfl,h1,h2,h3⟩:=h
   simpa using VRM_get h3 (by simpa using hj)

theorem VRM_get' {c : Cx} : ∀ {es : List (AV × AV)} {ents : List MapEntry} {j : Nat} {y : AV × AV},VRM c es ents → es[j]? = some y → ∃ x,ents[j]? = some x ∧ VV c y.1 x.key ∧ VV c y.2 x.val
 | [],ents,j,x,h,hj=>by simp at hj
 | (p,q) :: es,ents,0,x,h,hj=>by
   obtain ⟨e0,r,rfl,h1,h2,h3⟩:=h
   simp at hj; subst hj
   exact ⟨e0,rfl,h1,h2⟩
 | (p,q) :: es,ents,j + 1,x,h,hj=>by
   obtain ⟨e0,r,rfl,h1,h2,h3⟩:=h
   simpa using VRM_get' h3 (by simpa using hj)

theorem KSh_mem {sh : AV} : ∀ {es : List (AV × AV)},KSh sh es → ∀ x ∈ es,sameSh sh x.1 = true
 | [],_,x,h=>by simp at h
 | (p,q) :: es,hk,x,h=>by
   rcases List.mem_cons.1 h with rfl | h
   ·exact hk.1
   ·exact KSh_mem hk.2 x h

theorem VRM_append {c : Cx} {K V : AV} {x : MapEntry} (hK : VV c K x.key) (hV : VV c V x.val) : ∀ {es : List (AV × AV)} {ents : List MapEntry},VRM c es ents → VRM c (es ++ [(K,V)]) (ents ++ [x])
 | [],ents,h=>by obtain rfl:=h; exact ⟨x,[],rfl,hK,hV,rfl⟩
 | (p,q) :: es,ents,h=>by
   obtain ⟨e0,r,rfl,h1,h2,h3⟩:=h
   exact ⟨e0,r ++ [x],rfl,h1,h2,VRM_append hK hV h3⟩

theorem VRM_set {c : Cx} {K V : AV} {x : MapEntry} (hK : VV c K x.key) (hV : VV c V x.val) : ∀ {es : List (AV × AV)} {ents : List MapEntry} {j : Nat},VRM c es ents → VRM c (es.set j (K,V)) (ents.set j x)
 | [],ents,j,h=>by obtain rfl:=h; show VRM c [] []; rfl
 | (p,q) :: es,ents,0,h=>by
   obtain ⟨e0,r,rfl,h1,h2,h3⟩:=h
   exact ⟨x,r,rfl,hK,hV,h3⟩
 | (p,q) :: es,ents,j + 1,h=>by
   obtain ⟨e0,r,rfl,h1,h2,h3⟩:=h
   exact ⟨e0,r.set j x,rfl,h1,h2,VRM_set hK hV h3⟩

theorem KSh_append {sh K V : AV} (hK : sameSh sh K = true) : ∀ {es : List (AV × AV)},KSh sh es → KSh sh (es ++ [(K,V)])
 | [],_=>⟨hK,trivial⟩
 | (_,_) :: _,h=>⟨h.1,KSh_append hK h.2⟩

theorem KSh_set {sh K V : AV} (hK : sameSh sh K = true) : ∀ {es : List (AV × AV)} {j : Nat},KSh sh es → KSh sh (es.set j (K,V))
 | [],_,_=>trivial
 | (_,_) :: _,0,h=>⟨hK,h.2⟩
 | (_,_) :: _,_ + 1,h=>⟨h.1,KSh_set hK h.2⟩

theorem key_facts {kt : Nat} {sh sh' : AV} {es : List (AV × AV)} {ents : Array MapEntry} (hko : KeyOk P kt sh) (hss : sameSh sh' sh = true) (hks : KSh sh' es) (hvr : VRM c es ents.toList) :
  KSh sh es ∧ ∀ x ∈ ents.toList,∃ l,keyOf P kt x.key = some l:=by
 have hk:=KSh_trans hss hks
 refine ⟨hk,fun x hx=>?_⟩
 obtain ⟨j,hj⟩:=List.mem_iff_getElem?.1 hx
 obtain ⟨y,hy,hK,_⟩:=VRM_get hvr hj
 have hs:=KSh_mem hk y (List.mem_of_getElem? hy)
 exact hko.rd c.w c.Im y.1 x.key hs hK.1 (kvC_VR sh y.1 _ hs hK.2).2

theorem op_makeMap (hL : LayOk P L) {t : Nat} (hr : HR c H) (ho : o.op = .makeMap t none)
  (h : L.getC t fun i=>(match i.key with | some sh=>pushC H (.amap sh []) fun j H'=>k (.mp j) H' | none=>False)) : OpRes P o a.eval c H k ks:=by
 obtain ⟨i,hT,h⟩:=Lay.getC_ok hL h
 split at h
 ·rename_i sh _
  have h:=pushC_iff.1 h
  have htr : Tr c H (c.push (.map #[] 0) ((nextId H,.amap sh []) :: H)) ((nextId H,.amap sh []) :: H):=by
   refine Tr.push hr _ _ (fun _=>rfl) ⟨#[],0,?_,rfl,trivial,by simp,by simp⟩
   rw [push_ρ hr]; simp only [Cx.push]; exact alloc_heap_new _ _
  refine .inl ⟨.map (some c.w.heap.size),_,_,_,?_,htr,EV_VV (VV_mk rfl rfl ?_),h⟩
  ·unfold execOp; rw [ho]
   simp only [Instr.makeMap,Sem.run_bind,run_newObj,Result.andThen_ok,Sem.run_pure,Option.map_none,World.alloc_eq]
   rfl
  ·simp only [VR]
   refine ⟨by simp only [Cx.push,hr.nx]; omega,?_⟩
   rw [push_ρ hr]
 ·exact h.elim

theorem look_sound {kt : Nat} {sh sh' K : AV} {v : Value} {es : List (AV × AV)} {ents : Array MapEntry} {r : Option AV} (hko : KeyOk P kt sh) (hss : sameSh sh' sh = true) (hks : KSh sh' es) (hvr : VRM c es ents.toList)
  (hdist : ents.toList.Pairwise fun a b=>a.key ≠ b.key) (hsK : sameSh sh K = true) (hK : VV c K v) (hl : LookR es K r) :
  (r = none ∧ (Instr.findKey kt v ents.toList).run P c.w = .ok none c.w) ∨ ∃ V u j,r = some V ∧ (Instr.findKey kt v ents.toList).run P c.w = .ok (some (j,u)) c.w ∧ VV c V u:=by
 obtain ⟨hk,hkeys⟩:=key_facts hko hss hks hvr
 obtain ⟨lk,hlk⟩:=hko.rd c.w c.Im K v hsK hK.1 (kvC_VR sh K _ hsK hK.2).2
 rcases hko.law.find c.w hlk ents.toList hkeys with ⟨h1,h2⟩ | ⟨j,x,h1,h2,h3⟩
 ·cases r with
  | none=>exact .inl ⟨rfl,h1⟩
  | some V =>
    exfalso
    obtain ⟨y,hy,he,_⟩:=hl
    obtain ⟨j,hj⟩:=List.mem_iff_getElem?.1 hy
    obtain ⟨x,hx,hyK,_⟩:=VRM_get' hvr hj
    exact h2 x (List.mem_of_getElem? hx) ((key_eq (KSh_mem hk y hy) hsK hyK hK).2 he)
 ·obtain ⟨y,hy,hyK,hyV⟩:=VRM_get hvr h2
  have hym:=List.mem_of_getElem? hy
  have hke : kvC y.1 = kvC K:=(key_eq (KSh_mem hk y hym) hsK hyK hK).1 h3
  cases r with
  | none=>exact absurd hke (hl y hym)
  | some V =>
    obtain ⟨z,hz,he,rfl⟩:=hl
    obtain ⟨i,hi⟩:=List.mem_iff_getElem?.1 hz
    obtain ⟨x',hx',hzK,hzV⟩:=VRM_get' hvr hi
    have hkk : x'.key = v:=(key_eq (KSh_mem hk z hz) hsK hzK hK).2 he
    have hij : i = j:=by
     apply Classical.byContradiction
     intro hne
     obtain ⟨hi1,hi2⟩:=List.getElem?_eq_some_iff.1 hx'
     obtain ⟨hj1,hj2⟩:=List.getElem?_eq_some_iff.1 h2
     rcases Nat.lt_or_gt_of_ne hne with hlt | hlt
     ·have:=List.pairwise_iff_getElem.1 hdist i j hi1 hj1 hlt
      rw [hi2,hj2,hkk,h3] at this; exact this rfl
     ·have:=List.pairwise_iff_getElem.1 hdist j i hj1 hi1 hlt
      rw [hi2,hj2,hkk,h3] at this; exact this rfl
    subst hij
    rw [h2] at hx'
    obtain rfl:=Option.some.inj hx'
    exact .inr ⟨_,_,_,rfl,h1,hzV⟩

theorem EV_mp {j : Nat} {v : Value} (h : EV c (.mp j) v) : j < c.nx ∧ v = .map (some (c.ρ j)):=VV_mp h

theorem sameSh_val {S A : AV} (h : sameSh S A = true) : isVal A = true:=by
 cases S <;> cases A <;> first | (simp [sameSh] at h; done) | rfl

theorem op_lookup (hL : LayOk P L) {t : Nat} {x ix : Operand} {ok : Bool} (hr : HR c H) (he : EnvOk c e a) (hx : opdOk x = true) (hix : opdOk ix = true) (ho : o.op = .lookup t x ix ok)
  (h : aev e x fun A=>aev e ix fun K=>L.getC t fun i=>(match i.desc,i.key with
  | .map _ et,some sh=>onB (sameSh sh K) <| L.getC et fun ei=>(match A with
    | .mp j=>hgetC H j fun o=>(match o with
      | .amap sh' es=>onB (sameSh sh' sh) <| ALook es K fun r=>lookK ok ei.zero r fun R=>k R H
      | _=>False)
    | _=>False)
  | _,_=>False)) : OpRes P o a.eval c H k ks:=by
 obtain ⟨A,hA,h⟩:=aev_sound he hx h
 obtain ⟨K,hK,h⟩:=aev_sound he hix h
 obtain ⟨i,hT,h⟩:=Lay.getC_ok hL h
 obtain ⟨d,hd,hdd⟩:=hT.under
 split at h
 ·rename_i kt et sh hdm hkey
  obtain rfl:=descOf_map (hdd.trans hdm)
  have hko:=hT.keyed kt et sh hdm hkey
  obtain ⟨hsK,h⟩:=onB_iff.1 h
  obtain ⟨ei,hE,h⟩:=Lay.getC_ok hL h
  have hKv:=EV_val hK (sameSh_val hsK)
  split at h
  ·rename_i j
   obtain ⟨_,e1⟩:=EV_mp hA
   obtain ⟨ob,hob,h⟩:=hgetC_iff.1 h
   have hok:=hr.okOf hob
   split at h
   ·rename_i sh' es
    obtain ⟨hss,h⟩:=onB_iff.1 h
    obtain ⟨r,hl,hk⟩:=h.ex
    obtain ⟨ents,clock,g1,g2,g3,g4,g5⟩:=hok
    obtain ⟨lk,hlk⟩:=hko.rd c.w c.Im K _ hsK hKv.1 (kvC_VR sh K _ hsK hKv.2).2
    obtain ⟨z,hz,hzs,hzr⟩:=hE.run_zero c.w
    have hZ : VV c ei.zero z:=⟨hzs,VR_of_Rd _ _ (hzr _ _)⟩
    have run : ∀ {u : Value} {b : Bool},((∃ q,(Instr.findKey kt (a.eval ix) ents.toList).run P c.w = .ok (some (q,u)) c.w) ∧ b = true ∨ (Instr.findKey kt (a.eval ix) ents.toList).run P c.w = .ok none c.w ∧ u = z ∧ b = false) →
      (execOp a.eval o).run P c.w = .ok (.value (if ok then .tuple #[u,.bool b] else u)) c.w:=by
     intro u b hc
     unfold execOp; rw [ho]
     simp only [Instr.lookup,Sem.run_bind,run_underlying hd,Result.andThen_ok,e1,Go.MapKept.run_getObj_map g1,Sem.run_pure,hko.law.check c.w _ hlk]
     rcases hc with ⟨⟨q,hq⟩,rfl⟩ | ⟨hq,rfl,rfl⟩
     ·simp only [hq,Result.andThen_ok,Sem.run_pure,Sem.run_bind]
     ·simp only [hq,Result.andThen_ok,Sem.run_pure,hz,Sem.run_bind]
    rcases look_sound hko hss g3 g2 g5 hsK hKv hl with ⟨rfl,h1⟩ | ⟨V,u,q,rfl,h1,hV⟩
    ·cases ok with
     | true=>exact .pure hr (run (.inr ⟨h1,rfl,rfl⟩)) (EV_pair hZ VV_ff_mk) hk
     | false=>exact .pure hr (run (.inr ⟨h1,rfl,rfl⟩)) (EV_VV hZ) hk
    ·cases ok with
     | true=>exact .pure hr (run (.inl ⟨⟨q,h1⟩,rfl⟩)) (EV_pair hV VV_tt_mk) hk
     | false=>exact .pure hr (run (.inl ⟨⟨q,h1⟩,rfl⟩)) (EV_VV hV) hk
   ·exact h.elim
  ·exact h.elim
 ·exact h.elim

theorem run_setObj_map {r : Nat} {ents : Array MapEntry} {clock : Nat} {w : World} (h : w.heap[r]? = some (.map ents clock)) (o' : Obj) : (setObj r o').run P w = .ok () { w with heap:=w.heap.setIfInBounds r o' }:=by
 simp [setObj,Sem.run,h]

theorem cell_map {w : World} {b o : Nat} {ents : Array MapEntry} {clock : Nat} (h : w.heap[b]? = some (.map ents clock)) : w.cell? ⟨b,o,none⟩ = none:=by
 simp [World.cell?,h]

theorem Tr.writeMap {c : Cx} {H : Heap} {k : Nat} {sh : AV} {es es' : List (AV × AV)} {ents ents' : Array MapEntry} {clock clock' : Nat} (hr : HR c H) (hk : hget H k = some (.amap sh es)) (hg : c.w.heap[c.ρ k]? = some (.map ents clock))
  (hok : c.Le { c with w:={ c.w with heap:=c.w.heap.setIfInBounds (c.ρ k) (.map ents' clock') } } → ({ c.w with heap:=c.w.heap.setIfInBounds (c.ρ k) (.map ents' clock') } : World).heap[c.ρ k]? = some (.map ents' clock') →
   (HO.amap sh es').Ok { c with w:={ c.w with heap:=c.w.heap.setIfInBounds (c.ρ k) (.map ents' clock') } } k) :
  Tr c H { c with w:={ c.w with heap:=c.w.heap.setIfInBounds (c.ρ k) (.map ents' clock') } } (hset H k (.amap sh es')):=by
 have hother : ∀ b,b ≠ c.ρ k → (c.w.heap.setIfInBounds (c.ρ k) (.map ents' clock'))[b]? = c.w.heap[b]?:=fun b hb=>Array.getElem?_setIfInBounds_ne (fun e=>hb e.symm)
 have hlt:=(Array.getElem?_eq_some_iff.1 hg).1
 have hnew : ({ c.w with heap:=c.w.heap.setIfInBounds (c.ρ k) (.map ents' clock') } : World).heap[c.ρ k]? = some (.map ents' clock'):=by
  show (c.w.heap.setIfInBounds (c.ρ k) _)[c.ρ k]? = _
  rw [Array.getElem?_setIfInBounds_self_of_lt hlt]
 have le : c.Le { c with w:={ c.w with heap:=c.w.heap.setIfInBounds (c.ρ k) (.map ents' clock') } }:=by
  refine ⟨fun b y h=>⟨h,?_⟩,Nat.le_refl _,fun _ _=>rfl,fun _ _ _ h=>.inl ⟨h,rfl⟩⟩
  by_cases hb : b = c.ρ k
  ·subst hb; rw [cell_map hg]; exact cell_map hnew
  ·exact cell_same (hother b hb)
 refine Tr.set hr hk le rfl ?_ (fun _ _=>rfl) rfl rfl rfl (by simp) (fun b hb' hn=>hother b ?_) (fun b x h=>.inl h) (fun b h=>.inr ?_) (hok le hnew)
 ·rw [tpOf_hset_same hk (by intros; simp) (by intros; simp)]; exact hr.tp
 ·intro e; exact hn (by rw [e]; rfl)
 ·exact h

theorem op_mapUpdate (hL : LayOk P L) {t : Nat} {x ix y : Operand} (hr : HR c H) (he : EnvOk c e a) (hx : opdOk x = true) (hix : opdOk ix = true) (hy : opdOk y = true) (ho : o.op = .mapUpdate t x ix y)
  (h : aev e x fun A=>aev e ix fun K=>aev e y fun V=>amapUpd L t A K V H ks) : OpRes P o a.eval c H k ks:=by
 obtain ⟨A,hA,h⟩:=aev_sound he hx h
 obtain ⟨K,hK,h⟩:=aev_sound he hix h
 obtain ⟨V,hV,h⟩:=aev_sound he hy h
 unfold amapUpd at h
 obtain ⟨i,hT,h⟩:=Lay.getC_ok hL h
 obtain ⟨d,hd,hdd⟩:=hT.under
 split at h
 ·rename_i kt et sh hdm hkey
  obtain rfl:=descOf_map (hdd.trans hdm)
  have hko:=hT.keyed kt et sh hdm hkey
  obtain ⟨hsK,h⟩:=onB_iff.1 h
  obtain ⟨hval,ei,hE,hf,hg,h⟩:=chkT_sound hL h
  have hKv:=EV_val hK (sameSh_val hsK)
  have hVv:=EV_val hV hval
  obtain ⟨j,rfl⟩ : ∃ j,A = .mp j:=by cases A <;> first | exact h.elim | exact ⟨_,rfl⟩
  obtain ⟨_,e1⟩:=EV_mp hA
  obtain ⟨ob,hob,h⟩:=hgetC_iff.1 h
  have hok:=hr.okOf hob
  obtain ⟨sh',es,rfl⟩ : ∃ sh' es,ob = .amap sh' es:=by cases ob <;> first | exact h.elim | exact ⟨_,_,rfl⟩
  obtain ⟨hss,h⟩:=onB_iff.1 h
  obtain ⟨es',hu,hk⟩:=h.ex
  obtain ⟨_,hk⟩:=hsetC_iff.1 hk
  obtain ⟨ents,clock,g1,g2,g3,g4,g5⟩:=hok
  obtain ⟨lk,hlk⟩:=hko.rd c.w c.Im K _ hsK hKv.1 (kvC_VR sh K _ hsK hKv.2).2
  have hsK' : sameSh sh' K = true:=sameSh_comp _ _ _ hss hsK
  obtain ⟨hks,hkeys⟩:=key_facts hko hss g3 g2
  have hchk':=hko.law.check c.w false hlk
  rcases hko.law.find c.w hlk ents.toList hkeys with ⟨h1,h2⟩ | ⟨q,x0,h1,h2,h3⟩
  ·have hrun : (execOp a.eval o).run P c.w = .ok .skip { c.w with heap:=c.w.heap.setIfInBounds (c.ρ j) (.map (ents.push { key:=a.eval ix,val:=a.eval y,born:=clock }) (clock + 1)) }:=by
    unfold execOp; rw [ho]
    simp only [Instr.mapUpdate,Sem.run_bind,run_underlying hd,Result.andThen_ok,e1,Go.MapKept.run_getObj_map g1,Sem.run_pure,hchk',h1,run_setObj_map g1]
   rcases hu with ⟨hu1,rfl⟩ | ⟨i,z,hu1,hu2,_⟩
   ·refine .inr (.inl ⟨_,_,hrun,Tr.writeMap hr hob g1 fun le hnew=>⟨_,_,hnew,?_,KSh_append hsK' g3,?_,?_⟩,hk⟩)
    ·rw [Array.toList_push]
     exact VRM_append (VV_mono le hKv) (VV_mono le hVv) (VRM_mono le g2)
    ·intro e he
     rw [Array.toList_push] at he
     rcases List.mem_append.1 he with he | he
     ·have:=g4 e he; omega
     ·simp at he; subst he; exact Nat.lt_succ_self _
    ·rw [Array.toList_push,List.pairwise_append]
     refine ⟨g5,by simp,fun e he f hf=>?_⟩
     simp at hf; subst hf
     exact h2 e he
   ·exfalso
    obtain ⟨x',hx',hzK,_⟩:=VRM_get' g2 hu1
    exact h2 x' (List.mem_of_getElem? hx') ((key_eq (KSh_mem hks z (List.mem_of_getElem? hu1)) hsK hzK hKv).2 hu2)
  ·have hq : ents[q]? = some x0:=by simpa using h2
   have hrun : (execOp a.eval o).run P c.w = .ok .skip { c.w with heap:=c.w.heap.setIfInBounds (c.ρ j) (.map (ents.modify q fun e=>{ e with key:=a.eval ix,val:=a.eval y }) clock) }:=by
    unfold execOp; rw [ho]
    simp only [Instr.mapUpdate,Sem.run_bind,run_underlying hd,Result.andThen_ok,e1,Go.MapKept.run_getObj_map g1,Sem.run_pure,hchk',h1,hq,Option.map_some,Option.getD_some,h3,hko.law.stays c.w hlk,run_setObj_map g1]
   have hmod : (ents.modify q fun e=>{ e with key:=a.eval ix,val:=a.eval y }).toList = ents.toList.set q { x0 with key:=a.eval ix,val:=a.eval y }:=by
    apply List.ext_getElem?
    intro n
    rw [Array.getElem?_toList,Array.getElem?_modify,List.getElem?_set]
    by_cases hn : q = n
    ·subst hn
     have hlt:=(Array.getElem?_eq_some_iff.1 hq).1
     rw [if_pos rfl,if_pos rfl,if_pos (by simpa using hlt),hq]
     rfl
    ·simp [hn]
   rcases hu with ⟨hu1,rfl⟩ | ⟨i,z,hu1,hu2,rfl⟩
   ·exfalso
    obtain ⟨z,hz,hzK,_⟩:=VRM_get g2 h2
    exact hu1 z (List.mem_of_getElem? hz) ((key_eq (KSh_mem hks z (List.mem_of_getElem? hz)) hsK hzK hKv).1 h3)
   ·obtain ⟨x',hx',hzK,_⟩:=VRM_get' g2 hu1
    have hkk : x'.key = a.eval ix:=(key_eq (KSh_mem hks z (List.mem_of_getElem? hu1)) hsK hzK hKv).2 hu2
    have hij : i = q:=by
     apply Classical.byContradiction
     intro hne
     obtain ⟨hi1,hi2⟩:=List.getElem?_eq_some_iff.1 hx'
     obtain ⟨hj1,hj2⟩:=List.getElem?_eq_some_iff.1 h2
     rcases Nat.lt_or_gt_of_ne hne with hlt | hlt
     ·have:=List.pairwise_iff_getElem.1 g5 i q hi1 hj1 hlt
      rw [hi2,hj2,hkk,h3] at this; exact this rfl
     ·have:=List.pairwise_iff_getElem.1 g5 q i hj1 hi1 hlt
      rw [hi2,hj2,hkk,h3] at this; exact this rfl
    subst hij
    refine .inr (.inl ⟨_,_,hrun,Tr.writeMap hr hob g1 fun le hnew=>⟨_,_,hnew,?_,KSh_set hsK' g3,?_,?_⟩,hk⟩)
    ·rw [hmod]
     exact VRM_set (VV_mono le hKv) (VV_mono le hVv) (VRM_mono le g2)
    ·intro e he
     rw [hmod] at he
     rcases List.mem_or_eq_of_mem_set he with he | rfl
     ·exact g4 e he
     ·exact g4 x0 (List.mem_of_getElem? h2)
    ·rw [hmod]
     rw [List.pairwise_iff_getElem] at g5 ⊢
     intro m n hm hn hlt
     have hm' : m < ents.toList.length:=by simpa using hm
     have hn' : n < ents.toList.length:=by simpa using hn
     have hk0 : ∀ (r : Nat) (hr : r < (ents.toList.set i { x0 with key:=a.eval ix,val:=a.eval y }).length) (hr' : r < ents.toList.length),((ents.toList.set i { x0 with key:=a.eval ix,val:=a.eval y })[r]).key = (ents.toList[r]).key:=by
      intro r hr hr'
      rw [List.getElem_set]
      split
      ·rename_i hir
       subst hir
       have:=(List.getElem?_eq_some_iff.1 h2).2
       rw [this]; exact h3.symm
      ·rfl
     rw [hk0 m hm hm',hk0 n hn hn']
     exact g5 m n hm' hn' hlt
 ·exact h.elim

end
end Go.AL

namespace Go.AL

def opB : Op → Bool
 | .move x | .assign x | .load _ x | .nilCheck x | .unOp _ _ x | .convert _ _ x | .makeInterface _ x | .box _ x | .extract x _ | .fieldAddr _ x _ | .field _ x _=>opdOk x
 | .pick a b d=>opdOk a && opdOk b && opdOk d
 | .store _ x y | .binOp _ _ x y _ | .makeSlice _ x y | .indexAddr _ x y | .index _ x y | .lookup _ x y _=>opdOk x && opdOk y
 | .typeAssert x _ _ _=>opdOk x
 | .mapUpdate _ x y z | .insert _ x y z=>opdOk x && opdOk y && opdOk z
 | .build _ ps | .buildSlice _ _ ps=>ps.toList.all fun p=>opdOk p.2
 | .makeFunc _ first cap=>first.toList.all opdOk && cap.toList.all opdOk
 | .slice _ x lo hi _=>opdOk x && lo.all opdOk && hi.all opdOk
 | .call cl=>cl.args.toList.all opdOk && (match cl.callee with | .value f=>opdOk f | _=>true)
 | _=>true

section
variable {P : Program} {L : Lay} {c : Cx} {H : Heap} {e : Env} {a : Act} {k : AV → Heap → Prop} {ks : Heap → Prop} {o : Oper} {F : Nat → List AV → Heap → AV → Heap → Prop}

theorem op_builtin (hL : LayOk P L) {b : Builtin} {cl : Call} (hr : HR c H) (he : EnvOk c e a) (hx : cl.args.toList.all opdOk = true) (ho : o.op = .call cl) (hc : cl.callee = .builtin b)
  (h : aevs e cl.args.toList fun As=>abuiltin L b cl.argTypes.toList As H k) : OpRes P o a.eval c H k ks:=by
 have hh:=aevs_sound he hx h
 clear h
 obtain ⟨As,h1,h⟩:=hh
 unfold abuiltin at h
 generalize hat : cl.argTypes.toList = ats at h
 split at h
 ·rename_i t r A
  obtain ⟨i,hT,h⟩:=Lay.getC_ok hL h
  obtain ⟨v,hv,hA⟩:=EVL_one h1
  exact op_len hr ho hc (by rw [← Array.getElem?_toList,hat]; rfl) hT hv hA h
 ·rename_i t u r A B
  obtain ⟨v,x,hv,hA,hB⟩:=EVL_two h1
  exact op_append hL hr ho hc hat hv hA hB h
 ·obtain ⟨v,x,hv,hA,hB⟩:=EVL_two h1
  exact op_max hr ho hc hv hA hB h
 ·obtain ⟨v,x,hv,hA,hB⟩:=EVL_two h1
  exact op_min hr ho hc hv hA hB h
 ·exact h.elim

theorem op_sound (hL : LayOk P L) (hFn : ∀ f args H R H',F f args H R H' → FnH P f args H R H') (hr : HR c H) (he : EnvOk c e a) (hb : opB o.op = true) (h : aop F Ok L o.op e H k ks) : OpRes P o a.eval c H k ks:=by
 cases ho : o.op with
 | move x=>rw [ho] at h hb; exact op_move hr he hb (.inl ho) h
 | assign x=>rw [ho] at h hb; exact op_move hr he hb (.inr ho) h
 | pick x y z =>
   rw [ho] at h hb; simp only [opB,Bool.and_eq_true] at hb
   exact op_pick hr he hb.1.1 hb.1.2 hb.2 ho h
 | alloc t=>rw [ho] at h hb; exact op_alloc hL hr ho h
 | box t x=>rw [ho] at h hb; exact op_box hL hr he hb ho h
 | build t ps =>
   rw [ho] at h hb
   exact op_build hL hr he (fun p hp=>List.all_eq_true.1 hb p hp) ho h
 | buildSlice t n ps =>
   rw [ho] at h hb
   exact op_buildSlice hL hr he (fun p hp=>List.all_eq_true.1 hb p hp) ho h
 | load t x=>rw [ho] at h hb; exact op_load hL hr he hb ho h
 | store t x y =>
   rw [ho] at h hb; simp only [opB,Bool.and_eq_true] at hb
   exact op_store hL hr he hb.1 hb.2 ho h
 | nilCheck x=>rw [ho] at h hb; exact op_nilCheck hr he hb ho h
 | binOp op t x y ty =>
   rw [ho] at h hb; simp only [opB,Bool.and_eq_true] at hb
   cases hn : nilcmpB (.binOp op t x y ty) with
   | true=>simp only [aop,hn] at h; exact op_nilcmp hL hr he hb.1 ho hn h
   | false=>simp only [aop,hn] at h; exact op_bin hL hr he hb.1 hb.2 ho h
 | typeAssert x xt s ok=>rw [ho] at h hb; exact op_typeAssert hL hr he hb ho h
 | makeMap t r =>
   rw [ho] at h
   cases r with
   | none=>exact op_makeMap hL hr ho h
   | some x=>exact h.elim
 | lookup t x y ok =>
   rw [ho] at h hb; simp only [opB,Bool.and_eq_true] at hb
   exact op_lookup hL hr he hb.1 hb.2 ho h
 | mapUpdate t x y z =>
   rw [ho] at h hb; simp only [opB,Bool.and_eq_true] at hb
   exact op_mapUpdate hL hr he hb.1.1 hb.1.2 hb.2 ho h
 | unOp op t x=>rw [ho] at h hb; exact op_unOp hr he hb ho h
 | convert s d x=>rw [ho] at h hb; exact op_convert hL hr he hb ho h
 | makeInterface t x=>rw [ho] at h hb; exact op_makeInterface hL hr he hb ho h
 | makeFunc f first cap=>rw [ho] at h hb; simp only [opB,Bool.and_eq_true] at hb; exact op_makeFunc hr he hb.2 ho h
 | makeSlice t x y =>
   rw [ho] at h hb; simp only [opB,Bool.and_eq_true] at hb
   exact op_makeSlice hL hr he hb.1 hb.2 ho h
 | slice t x lo hi mx =>
   rw [ho] at h hb; simp only [opB,Bool.and_eq_true] at hb
   cases mx with
   | none=>exact op_slice hL hr he hb.1.1 hb.1.2 hb.2 ho h
   | some y=>exact h.elim
 | fieldAddr t x f=>rw [ho] at h hb; exact op_fieldAddr hL hr he hb ho h
 | indexAddr t x y =>
   rw [ho] at h hb; simp only [opB,Bool.and_eq_true] at hb
   exact op_indexAddr hL hr he hb.1 hb.2 ho h
 | index t x y =>
   rw [ho] at h hb; simp only [opB,Bool.and_eq_true] at hb
   exact op_index hL hr he hb.1 hb.2 ho h
 | extract x i=>rw [ho] at h hb; exact op_extract hr he hb ho h
 | call cl =>
   rw [ho] at h hb; simp only [opB,Bool.and_eq_true] at hb
   cases hc : cl.callee with
   | value f =>
     simp only [aop,hc] at h hb
     exact op_call_value hFn hr he hb.2 hb.1 ho hc h
   | builtin b =>
     simp only [aop,hc] at h
     exact op_builtin hL hr he hb.1 ho hc h
   | invoke r m=>simp only [aop,hc] at h
 | _=>rw [ho] at h; exact h.elim

theorem VRM_len : ∀ {l : List (AV × AV)} {es : List MapEntry},VRM c l es → es.length = l.length
 | [],_,h=>by simp only [VRM] at h; subst h; rfl
 | (x,y) :: l,es,h=>by
   obtain ⟨e,r,rfl,_,_,h4⟩:=h
   simp [VRM_len h4]

theorem op_builtinW (hL : LayOk P L) {b : Builtin} {cl : Call} (hr : HR c H) (he : EnvOk c e a) (hx : cl.args.toList.all opdOk = true) (ho : o.op = .call cl) (hc : cl.callee = .builtin b)
  (h : aevs e cl.args.toList fun As=>abuiltinW L b cl.argTypes.toList As H k) : OpRes P o a.eval c H k ks:=by
 have hh:=aevs_sound he hx h
 clear h
 obtain ⟨As,h1,h⟩:=hh
 unfold abuiltinW at h
 generalize hat : cl.argTypes.toList = ats at h
 split at h
 ·rename_i t r A
  have hh:=Lay.getC_ok hL h
  clear h
  obtain ⟨i,hT,h⟩:=hh
  obtain ⟨v,hv,hA⟩:=EVL_one h1
  split at h
  ·rename_i p q j hd
   obtain ⟨ob,hob,h⟩:=hgetC_iff.1 h
   split at h
   ·rename_i sh es
    obtain ⟨d,hu,hdd⟩:=hT.under
    obtain rfl:=descOf_map (hdd.trans hd)
    obtain ⟨hj,rfl⟩:=VV_mp hA
    obtain ⟨ents,clock,g1,g2,g3,g4⟩:=hr.okOf hob
    have hlen : ents.size = es.length:=by rw [← Array.length_toList]; exact VRM_len g2
    refine .pure hr (v:=.int .i64 es.length) ?_ (EV_VV (VV_int_mk (len_InR h.1))) h.2
    rw [run_builtin ho hc,map_eval_eq hv]
    simp only [builtin,Builtin.len_,hat,← Array.getElem?_toList,List.getElem?_cons_zero,Sem.run_bind,run_underlying hu,Result.andThen_ok,Go.MapKept.run_getObj_map g1,Sem.run_pure,goInt,hlen]
   ·exact h.elim
  ·exact op_len hr ho hc (by rw [← Array.getElem?_toList,hat]; rfl) hT hv hA h
 ·rename_i t u r A B
  obtain ⟨v,x,hv,hA,hB⟩:=EVL_two h1
  exact op_appendW hL hr ho hc hat hv hA hB h
 ·obtain ⟨v,x,hv,hA,hB⟩:=EVL_two h1
  exact op_max hr ho hc hv hA hB h
 ·obtain ⟨v,x,hv,hA,hB⟩:=EVL_two h1
  exact op_min hr ho hc hv hA hB h
 ·rename_i A B C
  obtain ⟨v,r,hv,hA,h1⟩:=h1
  obtain ⟨u,x,rfl,hB,hC⟩:=EVL_two h1
  exact op_min3 hr ho hc hv hA hB hC h
 ·exact h.elim

theorem op_call_bm {F : Nat → List AV → Heap → AV → Heap → Prop} (hFn : ∀ f args H R H',F f args H R H' → FnH P f args H R H') {f : Operand} {cl : Call} {g j : Nat} {As : List AV} (hr : HR c H) (ho : o.op = .call cl) (hc : cl.callee = .value f)
  (hA : EV c (.bm g j) (a.eval f)) (h2 : EVL c As (cl.args.toList.map a.eval)) (h3 : ACall F Ok g (.ptr j [] 0 :: As) H k) : OpRes P o a.eval c H k ks:=by
 obtain ⟨hj,e1⟩:=VV_bm hA
 have hp : EV c (.ptr j [] 0) (.pointer (some ⟨c.ρ j,0,none⟩)):=EV_VV (VV_mk rfl rfl (by simp only [VR]; exact ⟨hj,trivial⟩))
 have h1 : EVL c (.ptr j [] 0 :: As) (.pointer (some ⟨c.ρ j,0,none⟩) :: cl.args.toList.map a.eval):=⟨_,_,rfl,hp,h2⟩
 have key : ∃ R H',(∃ fn,P.funcs[g]? = some fn ∧ (fn.name == "runtime.NumGoroutine") = false ∧ fn.body.isSome = true) ∧
   (Calls P g (.pointer (some ⟨c.ρ j,0,none⟩) :: cl.args.toList.map a.eval).toArray c.w fun e w'=>∃ v d,e = .returned v ∧ d.w = w' ∧ Tr c H d H' ∧ EV d R v) ∧ k R H':=by
  have fin : ∀ {R H'},(Calls P g (.pointer (some ⟨c.ρ j,0,none⟩) :: cl.args.toList.map a.eval).toArray c.w fun e w'=>∃ v d,e = .returned v ∧ d.w = w' ∧ Tr c H d H' ∧ EV d R v) → Ok R:=by
   intro R H' hcall
   obtain ⟨e',w',fr,⟨v,d,_,_,_,h8⟩,_⟩:=hcall []
   exact EV_ok h8
  cases h3 with
  | gen R H' hF hk =>
    have hF:=hFn _ _ _ _ _ hF
    have hcall:=hF.2 c _ hr h1
    exact ⟨R,H',hF.1,hcall,hk (fin hcall)⟩
  | pure Bs R hle hb hF hk =>
    have hF:=hFn _ _ _ _ _ hF
    have hcall:=FnH.pure hF hb.1 hb.2 hr (leL_EVL hle h1)
    exact ⟨R,H,hF.1,hcall,hk (fin hcall)⟩
 obtain ⟨R,H',⟨fn,f1,f2,f3⟩,hcall,hk⟩:=key
 refine .inr (.inr ⟨g,_,R,H',?_,hcall,hk⟩)
 unfold execOp; rw [ho]
 simp only [resolve,hc,e1,Deferred.ofValue,Sem.run_bind,Sem.run_pure,Result.andThen_ok,invoke,callFunc,run_program,f1,f2,Bool.false_eq_true,if_false]
 have : fn.body.isNone = false:=by cases hb : fn.body <;> simp [hb] at f3 ⊢
 simp only [this,Bool.false_eq_true,if_false,Sem.run_pure]
 congr 2
 simp

theorem op_insert {t : Nat} {x ix y : Operand} (ho : o.op = .insert t x ix y) (h : OpRes P { o with op:=.mapUpdate t x ix y } a.eval c H k ks) : OpRes P o a.eval c H k ks:=by
 have e : execOp a.eval { o with op:=.mapUpdate t x ix y } = execOp a.eval o:=by
  unfold execOp; rw [ho]
 unfold OpRes at h ⊢
 rw [e] at h
 exact h

theorem op_field (hL : LayOk P L) {t f : Nat} {x : Operand} {A : AV} (hr : HR c H) (ho : o.op = .field t x f) (hA : EV c A (a.eval x))
  (h : afieldV L t A f fun R=>k R H) : OpRes P o a.eval c H k ks:=by
 unfold afieldV at h
 obtain ⟨i,hT,h⟩:=Lay.getC_ok hL h
 split at h
 ·rename_i fs zs l hd hz _
  obtain ⟨z,hf,h⟩:=nthC_iff.1 h
  obtain ⟨gs,fd,h1,h2,h3,h4⟩:=hT.field ⟨_,hd⟩ hz hf
  obtain ⟨g,hg,h⟩:=nthC_iff.1 h
  obtain ⟨j,hJ,h⟩:=Lay.getC_ok hL h
  split at h
  ·rename_i hj
   obtain ⟨hfl,h⟩:=beqC_iff.1 h
   obtain ⟨y,hy,h⟩:=nthC_iff.1 h
   split at h
   ·rename_i hny
    obtain ⟨d,d1,d2⟩:=hT.under
    obtain ⟨gs',rfl,hfs⟩:=descOf_struct (d2.trans hd)
    rw [h1] at d1
    have d1:=Option.some.inj d1
    have hgs : gs' = gs:=by injection d1 with d1; exact d1.symm
    subst hgs
    have e1 : g.2.2 = fd.type:=by
     rw [hfs,List.getElem?_map,Array.getElem?_toList,h2] at hg
     have:=Option.some.inj hg
     rw [← this]
    rw [e1] at hJ
    have hA : VV c (.ag l) (a.eval x):=hA
    obtain ⟨cs,hcs⟩:=hA.1.1 rfl
    have hV:=hA.2
    rw [hcs] at hV
    simp only [VR] at hV
    obtain ⟨pre,xs,post,e2,e3,e4,_⟩:=VRL_split hV hy
    obtain ⟨u,rfl,_⟩:=VR_shape e4 hny
    have hu : cs[fd.offset]? = some u:=by
     have e2 : cs.toList = pre ++ [u] ++ post:=e2
     rw [← Array.getElem?_toList,e2,h3,← hfl,← e3,List.append_assoc,List.getElem?_append_right (Nat.le_refl _),Nat.sub_self]; rfl
    refine .pure hr (v:=u) ?_ (EV_VV (VV_of_single e4 hny)) h
    unfold execOp; rw [ho]
    simp only [Instr.field,hcs,Sem.run_bind,run_underlying h1,Result.andThen_ok,h2,asAgg,part,hJ.run_isAgg,hj,Sem.run_pure,Bool.false_eq_true,if_false,hu]
   ·exact h.elim
  ·exact h.elim
 ·exact h.elim

theorem op_soundW (hL : LayOk P L) (hFn : ∀ f args H R H',F f args H R H' → FnH P f args H R H') (hr : HR c H) (he : EnvOk c e a) (hb : opB o.op = true) (h : aopW F Ok L o.op e H k ks) : OpRes P o a.eval c H k ks:=by
 unfold aopW at h
 split at h
 ·rename_i cl hop
  split at h
  ·rename_i b hc
   rw [hop] at hb; simp only [opB,Bool.and_eq_true] at hb
   exact op_builtinW hL hr he hb.1 hop hc h
  ·rename_i f hc
   have hb':=hb
   rw [hop] at hb'; simp only [opB,hc,Bool.and_eq_true] at hb'
   obtain ⟨A,hA,h⟩:=aev_sound he hb'.2 h
   split at h
   ·rename_i g j
    obtain ⟨As,h1,h⟩:=aevs_sound he hb'.1 h
    exact op_call_bm hFn hr hop hc hA h1 h
   ·exact op_sound hL hFn hr he hb (by rw [hop]; exact h)
  ·exact op_sound hL hFn hr he hb (by rw [hop]; exact h)
 ·rename_i f first cap hop
  split at h
  ·rename_i x hf
   have hb':=hb
   rw [hop] at hb'; simp only [opB,hf,Bool.and_eq_true] at hb'
   split at h
   ·rename_i g hcap
    obtain ⟨A,hA,h⟩:=aev_sound he (by simpa using hb'.1) h
    split at h
    ·rename_i j
     obtain ⟨hj,e1⟩:=VV_ptr hA
     obtain rfl : first = #[x]:=by cases first; simp at hf; subst hf; rfl
     obtain rfl : cap = #[]:=by cases cap; simp at hcap; subst hcap; rfl
     refine .pure hr (v:=.func (.func g) #[.pointer (some ⟨c.ρ j,0,none⟩)] #[]) ?_ (EV_VV (VV_mk rfl rfl ?_)) h
     ·unfold execOp; rw [hop]
      simp [Instr.makeFunc,e1]
     ·simp only [VR]; exact ⟨hj,trivial⟩
    ·exact h.elim
   ·exact h.elim
  ·exact op_sound hL hFn hr he hb (by rw [hop]; exact h)
 ·rename_i t x ix y hop
  rw [hop] at hb; simp only [opB,Bool.and_eq_true] at hb
  have:=op_mapUpdate (o:={ o with op:=.mapUpdate t x ix y }) (P:=P) (k:=k) (ks:=ks) hL hr he hb.1.1 hb.1.2 hb.2 rfl h
  exact op_insert hop this
 ·rename_i t x f hop
  rw [hop] at hb
  obtain ⟨A,hA,h⟩:=aev_sound he hb h
  exact op_field hL hr hop hA h
 ·exact op_sound hL hFn hr he hb h

theorem getD_set_ne {xs : Array Value} {i j : Nat} {v d : Value} (h : i ≠ j) : (xs.setIfInBounds i v).getD j d = xs.getD j d:=by
 rw [Array.getD_eq_getD_getElem?,Array.getD_eq_getD_getElem?,Array.getElem?_setIfInBounds_ne h]

theorem getD_set_eq {xs : Array Value} {i : Nat} {v d : Value} (h : i < xs.size) : (xs.setIfInBounds i v).getD i d = v:=by
 rw [Array.getD_eq_getD_getElem?,Array.getElem?_setIfInBounds_self_of_lt h]; rfl

structure AOk (n : Nat) (c : Cx) (e : Env) (a : Act) : Prop where
 env : EnvOk c e a
 defers : a.defers = []
 size : a.tmps.size = n

theorem AOk.put {n : Nat} {e : Env} {d : Nat} {A : AV} {v : Value} (h : AOk n c e a) (hd : d < n) (hv : EV c A v) : AOk n c ((d,A) :: e) (a.put (some d) v):=by
 refine ⟨fun t B hB=>?_,h.defers,by simp [Act.put,h.size]⟩
 simp only [eget] at hB
 simp only [Act.put]
 cases hb : Nat.beq d t with
 | true =>
   rw [hb] at hB
   obtain rfl:=Nat.eq_of_beq_eq_true hb
   obtain rfl:=Option.some.inj hB
   rw [getD_set_eq (by rw [h.size]; exact hd)]; exact hv
 | false =>
   rw [hb] at hB
   rw [getD_set_ne (beq_false_ne hb)]; exact h.env _ _ hB

theorem AOk.mono {n : Nat} {d : Cx} (h : AOk n c e a) (le : c.Le d) : AOk n d e a:=⟨fun t A hA=>EV_mono le (h.env t A hA),h.defers,h.size⟩

def Fr (ws : List Nat) (a a' : Act) : Prop:=∀ t,t ∉ ws → a'.tmps.getD t undef = a.tmps.getD t undef

theorem Fr.refl (ws : List Nat) (a : Act) : Fr ws a a:=fun _ _=>rfl
theorem Fr.trans {ws ws' : List Nat} {a b d : Act} (h : Fr ws a b) (g : Fr ws' b d) : Fr (ws ++ ws') a d:=by
 intro t ht
 simp only [List.mem_append,not_or] at ht
 rw [g t ht.2,h t ht.1]
theorem Fr.mono {ws ws' : List Nat} {a b : Act} (h : Fr ws a b) (hs : ∀ t ∈ ws,t ∈ ws') : Fr ws' a b:=fun t ht=>h t (fun h'=>ht (hs t h'))

theorem Fr.put {d : Nat} {v : Value} : Fr [d] a (a.put (some d) v):=by
 intro t ht
 simp at ht
 simp only [Act.put]
 exact getD_set_ne (fun e=>ht e.symm)

def operB (n : Nat) (o : Oper) : Bool:=opB o.op && (match o.dst with | some d=>Nat.blt d n | none=>true)

theorem undef_not_bool {b : Bool} : undef ≠ .bool b:=by simp [undef]

theorem tmp_bool {d : Nat} {b : Bool} (h : a.tmps.getD d undef = .bool b) : a.tmps[d]? = some (.bool b):=by
 rw [Array.getD_eq_getD_getElem?] at h
 cases hx : a.tmps[d]? with
 | none=>rw [hx] at h; exact absurd h undef_not_bool
 | some v=>rw [hx] at h; simp at h; rw [h]

theorem dstC_iff {k : Nat → Prop} : ∀ {l : List Oper} {j : Nat},dstC l j k → ∃ o d,l[j]? = some o ∧ o.dst = some d ∧ k d
 | [],_,h=>h.elim
 | o :: l,0,h=>by
   simp only [dstC] at h
   cases hd : o.dst with
   | none=>simp [hd] at h
   | some d=>simp only [hd] at h; exact ⟨o,d,rfl,hd,h⟩
 | o :: l,j + 1,h=>by simpa using dstC_iff (l:=l) h

theorem wanted_some {ops : Array Oper} {j d : Nat} {b x : Bool} {oj : Oper} (hg : o.guard = some (j,b)) (hj : ops[j]? = some oj) (hd : oj.dst = some d) (hv : a.tmps.getD d undef = .bool x) :
  Region.wanted o (yielded ops a.tmps) = (x == b):=by
 unfold Region.wanted yielded
 simp [hg,hj,hd,tmp_bool hv]

theorem wanted_none {ops : Array Oper} (hg : o.guard = none) : Region.wanted o (yielded ops a.tmps) = true:=by
 unfold Region.wanted; rw [hg]

theorem wanted_undef {ops : Array Oper} {j d : Nat} {b : Bool} {oj : Oper} (hg : o.guard = some (j,b)) (hj : ops[j]? = some oj) (hd : oj.dst = some d) (hv : a.tmps.getD d undef = undef) :
  Region.wanted o (yielded ops a.tmps) = false:=by
 unfold Region.wanted yielded
 rw [Array.getD_eq_getD_getElem?] at hv
 cases hx : a.tmps[d]? with
 | none=>simp [hg,hj,hd,hx]
 | some v =>
   rw [hx] at hv
   simp only [Option.getD_some] at hv
   subst hv
   simp [hg,hj,hd,hx,undef]

theorem EV_skip {c : Cx} {v : Value} (h : EV c (.tup []) v) : v = undef:=by
 obtain ⟨vs,rfl,h2⟩:=h
 simp only [VA] at h2
 have : vs = #[]:=by cases vs; simp_all
 subst this; rfl

theorem skip_EV {c : Cx} : EV c (.tup []) undef:=⟨#[],rfl,by simp only [VA]⟩

theorem guardC_sound {n : Nat} {ops : Array Oper} {yes no : Env → Prop} (ha : AOk n c e a) (h : guardC ops.toList o.guard e yes no) :
  ∃ e',AOk n c e' a ∧ ((Region.wanted o (yielded ops a.tmps) = true ∧ yes e') ∨ (Region.wanted o (yielded ops a.tmps) = false ∧ no e')):=by
 cases hg : o.guard with
 | none=>rw [hg] at h; exact ⟨e,ha,.inl ⟨wanted_none hg,h⟩⟩
 | some g =>
   obtain ⟨j,b⟩:=g
   rw [hg] at h
   obtain ⟨oj,d,h1,h2,h3⟩:=dstC_iff h
   obtain ⟨A,h4,h5⟩:=egetC_iff.1 h3
   have hA:=ha.env d A h4
   have h1' : ops[j]? = some oj:=by rw [← Array.getElem?_toList]; exact h1
   have wnt : ∀ x,a.tmps.getD d undef = .bool x → Region.wanted o (yielded ops a.tmps) = (x == b):=fun x hx=>wanted_some hg h1' h2 hx
   have ext : ∀ (A' : AV),EV c A' (a.tmps.getD d undef) → AOk n c ((d,A') :: e) a:=by
    intro A' hA'
    refine ⟨fun t B hB=>?_,ha.defers,ha.size⟩
    simp only [eget] at hB
    cases hb : Nat.beq d t with
    | true =>
      rw [hb] at hB
      obtain rfl:=Nat.eq_of_beq_eq_true hb
      obtain rfl:=Option.some.inj hB
      exact hA'
    | false=>rw [hb] at hB; exact ha.env _ _ hB
   have tt : ∀ {v : Value},v = .bool true → EV c .tt v:=by rintro v rfl; exact EV_VV (VV_mk rfl rfl (by simp only [VR,Rd]))
   have ff : ∀ {v : Value},v = .bool false → EV c .ff v:=by rintro v rfl; exact EV_VV (VV_mk rfl rfl (by simp only [VR,Rd]))
   split at h5
   ·exact ⟨e,ha,.inl ⟨by rw [wnt true (VV_tt hA)]; rfl,h5⟩⟩
   ·exact ⟨e,ha,.inr ⟨by rw [wnt true (VV_tt hA)]; rfl,h5⟩⟩
   ·exact ⟨e,ha,.inr ⟨by rw [wnt false (VV_ff hA)]; rfl,h5⟩⟩
   ·exact ⟨e,ha,.inl ⟨by rw [wnt false (VV_ff hA)]; rfl,h5⟩⟩
   ·rename_i x
    have hx:=VV_bool hA
    cases x with
    | true=>exact ⟨_,ext .tt (tt hx),.inl ⟨by rw [wnt true hx]; rfl,h5.1 rfl⟩⟩
    | false=>exact ⟨_,ext .ff (ff hx),.inr ⟨by rw [wnt false hx]; rfl,h5.2 rfl⟩⟩
   ·rename_i x
    have hx:=VV_bool hA
    cases x with
    | true=>exact ⟨_,ext .tt (tt hx),.inr ⟨by rw [wnt true hx]; rfl,h5.1 rfl⟩⟩
    | false=>exact ⟨_,ext .ff (ff hx),.inl ⟨by rw [wnt false hx]; rfl,h5.2 rfl⟩⟩
   ·rename_i p
    obtain ⟨x,hx,hp⟩:=VV_dec hA
    cases x with
    | true=>exact ⟨_,ext .tt (tt hx),.inl ⟨by rw [wnt true hx]; rfl,h5.1 (hp.1 rfl)⟩⟩
    | false=>exact ⟨_,ext .ff (ff hx),.inr ⟨by rw [wnt false hx]; rfl,h5.2 (fun h=>by have:=hp.2 h; cases this)⟩⟩
   ·rename_i p
    obtain ⟨x,hx,hp⟩:=VV_dec hA
    cases x with
    | true=>exact ⟨_,ext .tt (tt hx),.inr ⟨by rw [wnt true hx]; rfl,h5.1 (hp.1 rfl)⟩⟩
    | false=>exact ⟨_,ext .ff (ff hx),.inl ⟨by rw [wnt false hx]; rfl,h5.2 (fun h=>by have:=hp.2 h; cases this)⟩⟩
   ·exact ⟨e,ha,.inr ⟨wanted_undef hg h1' h2 (EV_skip hA),h5⟩⟩
   ·exact h5.elim

theorem aops_sound (hL : LayOk P L) (hFn : ∀ f args H R H',F f args H R H' → FnH P f args H R H') {n : Nat} {ops : Array Oper} {Q : Exit → Act → World → Prop} {k : Env → Heap → Prop} :
  ∀ {l : List Oper} {e : Env} {H : Heap} {c : Cx} {a : Act},l.all (operB n) = true → HR c H → AOk n c e a → aops F Ok L ops.toList l e H k →
    (∀ e' H' c' a',k e' H' → Tr c H c' H' → AOk n c' e' a' → Fr (writesOps l) a a' → Q .normal a' c'.w) → wpList P ops Q l a c.w
 | [],e,H,c,a,_,hr,ha,h,hq=>hq e H c a h (.refl hr) ha (Fr.refl _ _)
 | o :: l,e,H,c,a,hl,hr,ha,h,hq=>by
   simp only [List.all_cons,Bool.and_eq_true,operB] at hl
   obtain ⟨⟨hb,hdst⟩,hl⟩:=hl
   have ih:=@aops_sound hL hFn n ops Q k l
   have hlt : ∀ d,o.dst = some d → d < n:=fun d hd=>by rw [hd] at hdst; exact Nat.le_of_ble_eq_true hdst
   have cont : ∀ (v : Value) (A : AV) (c' : Cx) (H' : Heap) (e1 : Env),Tr c H c' H' → AOk n c' e1 a → EV c' A v → putE o.dst A e1 (fun e'=>aops F Ok L ops.toList l e' H' k) → wpList P ops Q l (a.put o.dst v) c'.w:=by
    intro v A c' H' e1 htr ha' hv hk
    cases hd : o.dst with
    | none =>
      rw [hd] at hk
      refine ih hl htr.hr ha' hk fun e' H'' c'' a' g1 g2 g3 g4=>hq e' H'' c'' a' g1 (htr.trans g2) g3 ?_
      simp only [writesOps,hd]
      exact g4
    | some d =>
      rw [hd] at hk
      refine ih hl htr.hr (ha'.put (hlt d hd) hv) hk fun e' H'' c'' a' g1 g2 g3 g4=>hq e' H'' c'' a' g1 (htr.trans g2) g3 ?_
      simp only [writesOps,hd]
      exact Fr.trans (ws:=[d]) Fr.put g4
   simp only [aops] at h
   obtain ⟨e1,ha1,hcase⟩:=guardC_sound ha h
   simp only [wpList]
   rcases hcase with ⟨hw,h1⟩ | ⟨hw,h1⟩
   ·rw [if_pos hw]
    refine .inl ?_
    have hop:=op_soundW hL hFn hr ha1.env hb h1
    unfold Oper.wp
    rcases hop with ⟨v,d,A,H',g1,g2,g3,g4⟩ | ⟨d,H',g1,g2,g3⟩ | ⟨f,args,R,H',g1,g2,g3⟩
    ·rw [g1,Oper.upon_value]
     exact cont v A d H' e1 g2 (ha1.mono g2.le) g3 g4
    ·rw [g1,Oper.upon_skip]
     cases hd : o.dst with
     | none=>rw [hd] at g3; exact hd ▸ cont undef .und d H' e1 g2 (ha1.mono g2.le) trivial (by rw [hd]; exact g3)
     | some d'=>rw [hd] at g3; exact g3.elim
    ·rw [g1,Oper.upon_enter]
     refine Calls.mono g2 ?_
     rintro _ w' ⟨v,d,rfl,rfl,g4,g5⟩
     exact cont v R d H' e1 g4 (ha1.mono g4.le) g5 g3
   ·rw [hw]
    simp only [Bool.false_eq_true,if_false]
    exact cont undef (.tup []) c H e1 (.refl hr) ha1 skip_EV h1

end
end Go.AL
