/-
  A logic for calls of Go functions: code is sound. Nothing is assumed.
-/
import Derived.Test.YtjbhbpieccloeaaT1
import Derived.Orders

namespace Go.AL

def qw (l : List Operand) (e e' : Env) : Prop:=∀ t,.tmp t ∈ l -> dL e t = dL e' t

theorem PI {e e' : Env} {x : Operand} (h : ∀ t,x = .tmp t -> dL e t = dL e' t) : bI e x = bI e' x:=by
 funext k
 cases x with
 | tmp t =>
   simp only [bI]
   apply propext
   rw [fO,fO,h t rfl]
 | _=>rfl

theorem qw.bI {l : List Operand} {e e' : Env} (h : qw l e e') {x : Operand} (hx : x ∈ l) : bI e x = bI e' x :=
 PI fun t ht=>h t (by rw [<- ht]; exact hx)

theorem qp {e e' : Env} : ∀ {l : List Operand},qw l e e' -> lJ e l = lJ e' l
 | [],_=>rfl
 | x :: l,h=>by
   funext k
   simp only [lJ]
   rw [h.bI (by simp),qp (l:=l) fun t ht=>h t (by simp [ht])]

theorem wW {e e' : Env} : ∀ {ps : List (Nat × Operand)},qw (ps.map (·.2)) e e' -> gZ e ps = gZ e' ps
 | [],_=>rfl
 | (i,x) :: ps,h=>by
   funext zs k
   simp only [gZ]
   rw [h.bI (by simp),wW (ps:=ps) fun t ht=>h t (by simp at ht ⊢; exact .inr ht)]

theorem uz {e e' : Env} : ∀ {ps : List (Nat × Operand)},qw (ps.map (·.2)) e e' -> iE e ps = iE e' ps
 | [],_=>rfl
 | (i,x) :: ps,h=>by
   funext zs k
   simp only [iE]
   rw [h.bI (by simp),uz (ps:=ps) fun t ht=>h t (by simp at ht ⊢; exact .inr ht)]

theorem CJ {e e' : Env} {x : Option Operand} {d : Int} (h : qw x.toList e e') : rO e x d = rO e' x d:=by
 funext k
 cases x with
 | none=>rfl
 | some y=>simp only [rO]; rw [h.bI (by simp)]

theorem G6 {L : Lay} {t : Nat} {e e' : Env} {A : AV} {lo hi : Option Operand} (h : qw (lo.toList ++ hi.toList) e e') : aslice L t e A lo hi = aslice L t e' A lo hi:=by
 have h1 : ∀ d,rO e lo d = rO e' lo d:=fun d=>CJ fun t ht=>h t (by simp [ht])
 have h2 : ∀ d,rO e hi d = rO e' hi d:=fun d=>CJ fun t ht=>h t (by simp [ht])
 funext k
 simp only [aslice,h1,h2]

theorem Pv {F : FT} {gU : AV -> Prop} {L : Lay} {op : Op} {e e' : Env} (h : qw (bn op) e e') : gq F gU L op e = gq F gU L op e':=by
 funext H k ks
 cases op with
 | move x=>simp only [gq]; rw [h.bI (by simp [bn])]
 | assign x=>simp only [gq]; rw [h.bI (by simp [bn])]
 | pick x y z=>simp only [gq]; rw [h.bI (x:=x) (by simp [bn]),h.bI (x:=y) (by simp [bn]),h.bI (x:=z) (by simp [bn])]
 | box t x=>simp only [gq]; rw [h.bI (by simp [bn])]
 | build t ps=>simp only [gq]; rw [wW h]
 | buildSlice t n ps=>simp only [gq]; rw [uz h]
 | load t x=>simp only [gq]; rw [h.bI (by simp [bn])]
 | store t x y=>simp only [gq]; rw [h.bI (x:=x) (by simp [bn]),h.bI (x:=y) (by simp [bn])]
 | nilCheck x=>simp only [gq]; rw [h.bI (by simp [bn])]
 | binOp op t x y ty=>simp only [gq]; rw [h.bI (x:=x) (by simp [bn]),h.bI (x:=y) (by simp [bn])]
 | unOp op t x=>simp only [gq]; rw [h.bI (by simp [bn])]
 | typeAssert x xt s ok=>simp only [gq]; rw [h.bI (by simp [bn])]
 | lookup t x y ok=>simp only [gq]; rw [h.bI (x:=x) (by simp [bn]),h.bI (x:=y) (by simp [bn])]
 | mapUpdate t x y z=>simp only [gq]; rw [h.bI (x:=x) (by simp [bn]),h.bI (x:=y) (by simp [bn]),h.bI (x:=z) (by simp [bn])]
 | convert s d x=>simp only [gq]; rw [h.bI (by simp [bn])]
 | makeInterface t x=>simp only [gq]; rw [h.bI (by simp [bn])]
 | makeFunc f first cap=>simp only [gq]; rw [qp (l:=cap.toList) h]
 | makeSlice t x y=>simp only [gq]; rw [h.bI (x:=x) (by simp [bn]),h.bI (x:=y) (by simp [bn])]
 | slice t x lo hi mx =>
   simp only [gq]
   rw [h.bI (x:=x) (by simp [bn])]
   have:=fun A=>G6 (L:=L) (t:=t) (A:=A) (lo:=lo) (hi:=hi) (e:=e) (e':=e') fun t ht=>h t (by simp only [bn,List.mem_cons]; exact .inr ht)
   simp only [this]
 | fieldAddr t x f=>simp only [gq]; rw [h.bI (by simp [bn])]
 | indexAddr t x y=>simp only [gq]; rw [h.bI (x:=x) (by simp [bn]),h.bI (x:=y) (by simp [bn])]
 | index t x y=>simp only [gq]; rw [h.bI (x:=x) (by simp [bn]),h.bI (x:=y) (by simp [bn])]
 | extract x i=>simp only [gq]; rw [h.bI (by simp [bn])]
 | call cl =>
   cases hc : cl.callee with
   | value f =>
     simp only [gq,hc]
     simp only [bn,hc] at h
     rw [h.bI (x:=f) (by simp),qp fun t ht=>h t (by simp [ht])]
   | builtin b =>
     simp only [gq,hc]
     simp only [bn,hc] at h
     rw [qp fun t ht=>h t (by simp [ht])]
   | invoke r m=>simp only [gq,hc]
 | _=>rfl

end Go.AL

namespace Go.AL

def dM {α : Type} (T : (α -> Prop) -> Prop) : Prop:=∀ k,T k -> ∃ x,k x /\ ∀ k' : α -> Prop,k' x -> T k'

def DJ (T : Prop -> Prop) : Prop:=∀ k,T k -> k /\ ∀ k' : Prop,k' -> T k'

theorem dM.bind {α β : Type} {T : (α -> Prop) -> Prop} {U : α -> (β -> Prop) -> Prop} (h : dM T) (g : ∀ a,dM (U a)) : dM fun k=>T fun a=>U a k:=by
 intro k hk
 obtain ⟨a,h1,h2⟩:=h _ hk
 obtain ⟨b,h3,h4⟩:=g a _ h1
 exact ⟨b,h3,fun k' hk'=>h2 _ (h4 k' hk')⟩

theorem DJ.bind {β : Type} {T : Prop -> Prop} {U : (β -> Prop) -> Prop} (h : DJ T) (g : dM U) : dM fun k=>T (U k):=by
 intro k hk
 obtain ⟨h1,h2⟩:=h _ hk
 obtain ⟨b,h3,h4⟩:=g _ h1
 exact ⟨b,h3,fun k' hk'=>h2 _ (h4 k' hk')⟩

theorem dM.pure {α : Type} (x : α) : dM fun k=>k x:=fun _ h=>⟨x,h,fun _ h=>h⟩
theorem dM.no {α : Type} : dM fun (_ : α -> Prop)=>False:=fun _ h=>h.elim
theorem dM.map {α β : Type} {T : (α -> Prop) -> Prop} (h : dM T) (f : α -> β) : dM fun k=>T fun a=>k (f a):=h.bind fun a=>dM.pure (f a)
theorem dM.and {α : Type} {p : Prop} {T : (α -> Prop) -> Prop} (h : dM T) : dM fun k=>p /\ T k:=by
 rintro k ⟨hp,hk⟩
 obtain ⟨x,h1,h2⟩:=h k hk
 exact ⟨x,h1,fun k' hk'=>⟨hp,h2 k' hk'⟩⟩
theorem dM.cases {α : Type} {p : Prop} {T U : (α -> Prop) -> Prop} (h : dM T) (g : dM U) : dM fun k=>(p -> T k) /\ (¬ p -> U k):=by
 rintro k ⟨h1,h2⟩
 by_cases hp : p
 ·obtain ⟨x,h3,h4⟩:=h k (h1 hp); exact ⟨x,h3,fun k' hk'=>⟨fun _=>h4 k' hk',fun hn=>absurd hp hn⟩⟩
 ·obtain ⟨x,h3,h4⟩:=g k (h2 hp); exact ⟨x,h3,fun k' hk'=>⟨fun hn=>absurd hn hp,fun _=>h4 k' hk'⟩⟩
theorem dM.WM {α : Type} {b : Bool} {T U : (α -> Prop) -> Prop} (h : dM T) (g : dM U) : dM fun k=>(b = true -> T k) /\ (b = false -> U k):=by
 rintro k ⟨h1,h2⟩
 cases b with
 | true=>obtain ⟨x,h3,h4⟩:=h k (h1 rfl); exact ⟨x,h3,fun k' hk'=>⟨(fun _=>h4 k' hk'),(fun hn=>by cases hn)⟩⟩
 | false=>obtain ⟨x,h3,h4⟩:=g k (h2 rfl); exact ⟨x,h3,fun k' hk'=>⟨(fun hn=>by cases hn),fun _=>h4 k' hk'⟩⟩

theorem qg {α : Type} {T : (α -> Prop) -> Prop} {p : α -> Prop} (h : ∀ k,T k ↔ ∃ x,p x /\ k x) : dM T:=by
 intro k hk
 obtain ⟨x,h1,h2⟩:=(h k).1 hk
 exact ⟨x,h2,fun k' hk'=>(h k').2 ⟨x,h1,hk'⟩⟩

theorem xY {α : Type} {T : (α -> Prop) -> Prop} {x : α} (h : ∀ k,T k ↔ k x) : dM T:=fun k hk=>⟨x,(h k).1 hk,fun k' hk'=>(h k').2 hk'⟩

theorem BN {T : Prop -> Prop} {p : Prop} (h : ∀ k,T k ↔ p /\ k) : DJ T:=fun k hk=>⟨((h k).1 hk).2,fun k' hk'=>(h k').2 ⟨((h k).1 hk).1,hk'⟩⟩

theorem Rn (e : Env) (t : Nat) : dM (uo e t):=qg fun _=>fO
theorem oU (H : Heap) (n : Nat) : dM (jC H n):=qg fun _=>dw
theorem qj {α : Type} (l : List α) (n : Nat) : dM (ny l n):=qg fun _=>iG
theorem IY (l : List Nat) (x : Nat) : dM (Ei l x):=xY fun _=>sG
theorem zO (l m : List AV) : dM (D8 l m):=xY fun _=>wX
theorem UN (z : AV) (n : Nat) : dM (FU z n):=xY fun _=>AB
theorem wM (A : AV) (p : List Nat) : dM (rD A p):=qg fun _=>jS
theorem eY (a b : Nat) : DJ (jE a b):=BN fun _=>aX
theorem Nh (a b : Nat) : DJ (yj a b):=BN fun _=>CP
theorem zM (A : AV) : DJ (Ak A):=BN fun _=>qN
theorem BI : ∀ (l : List AV),DJ (yH l)
 | []=>fun _ h=>⟨h,fun _ h=>h⟩
 | A :: l=>by
   intro k h
   obtain ⟨h1,h2⟩:=zM A _ h
   obtain ⟨h3,h4⟩:=BI l _ h1
   exact ⟨h3,fun k' hk'=>h2 _ (h4 _ hk')⟩
theorem qc (y : AV) : ∀ (l : List AV) (i : Nat),dM (iJ l i y)
 | [],_=>dM.no
 | _ :: _,0=>dM.pure _
 | _ :: l,i + 1=>(qc y l i).map _
theorem BJ (B : AV) : ∀ (p : List Nat) (A : AV),dM fun k=>vJ A p B k
 | [],A=>by cases A <;> exact dM.pure B
 | i :: p,A=>by
   cases A with
   | ag l=>exact (qj l i).bind fun x=>(BJ B p x).bind fun x'=>(qc x' l i).map _
   | _=>exact dM.no
theorem aK : ∀ (L : Lay) (t : Nat),dM (L.aW t)
 | .nil,_=>dM.no
 | .node l t' i r,t=>by
   intro k h
   simp only [Lay.aW] at h ⊢
   cases hb : Nat.beq t t' with
   | true=>rw [hb] at h; exact ⟨i,h,fun _ h=>h⟩
   | false =>
     rw [hb] at h
     cases hc : Nat.ble t t' with
     | true=>rw [hc] at h; exact aK l t k h
     | false=>rw [hc] at h; exact aK r t k h
theorem jX (L : Lay) (t : Nat) (x : AV) : DJ (uS L t x):=by
 intro k h
 unfold uS at h
 obtain ⟨h1,h2⟩:=zM x _ h
 obtain ⟨i,h3,h4⟩:=aK L t _ h1
 have key : k /\ ∀ k' : Prop,k' -> (match Nat.beq (flat x) (flat i.zero) with
   | false=>False
   | true=>match cZ x,cZ i.zero with
     | true,true=>k'
     | false,false=>k'
     | _,_=>False):=by
  cases hb : Nat.beq (flat x) (flat i.zero) with
  | false=>rw [hb] at h3; exact h3.elim
  | true =>
    rw [hb] at h3
    cases h5 : cZ x <;> cases h6 : cZ i.zero <;> rw [h5,h6] at h3 <;> first | exact h3.elim | exact ⟨h3,fun _ h=>h⟩
 exact ⟨key.1,fun k' hk'=>by unfold uS; exact h2 _ (h4 _ (key.2 k' hk'))⟩
theorem rG (H : Heap) (n : Nat) (o : HO) : dM (mW H n o):=by
 intro k h
 obtain ⟨h1,h2⟩:=fK.1 h
 exact ⟨_,h2,fun k' hk'=>fK.2 ⟨h1,hk'⟩⟩
theorem O5 (v : Value) : dM (BU v):=by
 intro k h
 unfold BU at h ⊢
 split at h <;> first | exact h.elim | exact ⟨_,h,fun _ h=>h⟩
theorem aT (e : Env) (x : Operand) : dM (bI e x):=by
 cases x with
 | tmp t=>exact Rn e t
 | const v=>exact O5 v
 | func f=>exact dM.pure _
 | global g=>exact dM.no
theorem jc (e : Env) : ∀ (l : List Operand),dM (lJ e l)
 | []=>dM.pure _
 | x :: l=>(aT e x).bind fun _=>(jc e l).map _
theorem wL {α : Type} (l : List α) (n : Int) : dM (iY l n):=by
 rintro k ⟨x,h1,h2⟩
 exact ⟨x,h2,fun k' hk'=>⟨x,h1,hk'⟩⟩
theorem Nc {α : Type} (l : List α) (lo hi : Int) : dM (Mc l lo hi):=by
 rintro k ⟨h1,h2⟩
 exact ⟨_,h2,fun k' hk'=>⟨h1,hk'⟩⟩
theorem BK (A : AV) : dM (ug A):=by
 intro k h
 unfold ug at h ⊢
 split at h <;> first | exact h.elim | exact ⟨_,h,fun _ h=>h⟩
theorem xZ (kd : IntKind) (z : Int) : dM (arith kd z):=by
 cases kd <;> first | exact dM.pure _ | exact dM.and (dM.pure _)
theorem wK (A : AV) : dM (qL A):=by cases A <;> first | exact dM.pure _ | exact dM.no
theorem O6 (A : AV) : dM (CG A):=by cases A <;> first | exact dM.pure _ | exact dM.no
theorem Nb (A B : AV) : dM (UG A B):=by
 intro k h
 unfold UG at h ⊢
 split at h <;> first | exact h.elim | exact O6 _ k h | exact wK _ k h | exact ⟨_,h,fun _ h=>h⟩
theorem ES (A B : AV) : dM (yL A B):=by
 intro k h
 unfold yL at h ⊢
 split at h <;> first | exact h.elim | exact ⟨_,h,fun _ h=>h⟩
theorem BL (A B : AV) : dM (qV A B):=by
 intro k h
 unfold qV at h ⊢
 split at h <;> first | exact h.elim | exact ⟨_,h,fun _ h=>h⟩
theorem UU (d : TD) (op : BinOp) (hc : Bool) (A B : AV) : dM (SV d op hc A B):=by
 intro k h
 unfold SV at h ⊢
 split at h <;> first
  | exact h.elim
  | exact Nb A B k h
  | exact ((Nb A B).bind fun R=>wK R) k h
  | exact BL A B k h
  | exact ((BL A B).bind fun R=>wK R) k h
  | (split at h <;> first | exact h.elim | exact ES A B k h | exact ((ES A B).bind fun R=>wK R) k h)

theorem Rx (i : TI) (op : BinOp) (A B : AV) : dM (JB i op A B):=by
 intro k h
 unfold JB at h ⊢
 split at h
 ·split at h
  ·split at h <;> first | exact ⟨_,h,fun _ h=>h⟩ | exact h.elim
  ·exact h.elim
 ·exact h.elim

theorem Rq (i : TI) (op : BinOp) (hc : Bool) (A B : AV) (hd : dM (yA i.desc op hc A B)) : dM fun k=>match cZ A with
      | true=>JB i op A B k
      | false=>yA i.desc op hc A B k:=by
 cases cZ A with
 | true=>exact Rx i op A B
 | false=>exact hd

theorem UW (d : TD) (op : BinOp) (hc : Bool) (A B : AV) : dM (yA d op hc A B):=by
 intro k h
 unfold yA at h ⊢
 split at h
 ·rename_i ka a kb b
  cases op <;> simp only at h ⊢
  case shl=>exact ⟨_,h.2,fun k' hk'=>⟨h.1,hk'⟩⟩
  case shr=>exact ⟨_,h.2,fun k' hk'=>⟨h.1,hk'⟩⟩
  all_goals
   cases hk : nC ka kb with
   | false=>rw [hk] at h; exact h.elim
   | true =>
     rw [hk] at h
     simp only at h ⊢
     first
      | exact ⟨_,h,fun _ h=>h⟩
      | exact xZ _ _ k h
      | exact (dM.and (xZ _ _)) k h
      | exact ⟨_,h.2,fun k' hk'=>⟨h.1,hk'⟩⟩
 ·cases op <;> simp only at h ⊢ <;> first
   | exact h.elim
   | exact ⟨_,h,fun _ h=>h⟩
   | exact ⟨_,h.2,fun k' hk'=>⟨h.1,hk'⟩⟩
 ·exact UU d op hc _ _ k h

theorem iT (L : Lay) (t : Nat) (A : AV) (H : Heap) : dM (iU L t A H):=by
 intro k h
 unfold iU at h ⊢
 split at h
 ·exact ((jX L t _).bind (dM.pure _)) k h
 ·obtain ⟨o,h1,h2⟩:=oU H _ _ h
  split at h1
  ·obtain ⟨x,h3,h4⟩:=((wM _ _).bind fun x=>(eY _ _).bind ((jX L t x).bind (dM.pure x))) k h1
   exact ⟨x,h3,fun k' hk'=>h2 _ (h4 k' hk')⟩
  ·split at h1
   ·obtain ⟨x,h3,h4⟩:=((wL _ _).bind fun x=>dM.and ((jX L t x).bind (dM.pure x))) k h1
    exact ⟨x,h3,fun k' hk'=>h2 _ (h4 k' hk')⟩
   ·obtain ⟨x,h3,h4⟩:=((wL _ _).bind fun x=>(wM _ _).bind fun y=>dM.and ((jX L t y).bind (dM.pure y))) k h1
    exact ⟨x,h3,fun k' hk'=>h2 _ (h4 k' hk')⟩
   ·exact h1.elim
  ·exact h1.elim
 ·exact h.elim

theorem OX (L : Lay) (t : Nat) (A B : AV) (H : Heap) : dM (CU L t A B H):=by
 intro k h
 unfold CU at h ⊢
 split at h
 ·obtain ⟨o,h1,h2⟩:=oU H _ _ h
  split at h1
  ·obtain ⟨x,h3,h4⟩:=((wM _ _).bind fun x=>(eY _ _).bind ((jX L t B).bind ((eY _ _).bind ((BJ B _ _).bind fun A'=>rG H _ _)))) k h1
   exact ⟨x,h3,fun k' hk'=>h2 _ (h4 k' hk')⟩
  ·split at h1
   ·obtain ⟨x,h3,h4⟩:=((BK B).bind fun B'=>(eY _ _).bind ((jX L t B).bind (dM.and (dM.and (rG H _ _))))) k h1
    exact ⟨x,h3,fun k' hk'=>h2 _ (h4 k' hk')⟩
   ·obtain ⟨x,h3,h4⟩:=((wL _ _).bind fun x=>(wM _ _).bind fun y=>dM.and ((jX L t B).bind ((eY _ _).bind ((BJ B _ _).bind fun A'=>(BK A').bind fun Zg=>rG H _ _)))) k h1
    exact ⟨x,h3,fun k' hk'=>h2 _ (h4 k' hk')⟩
   ·exact h1.elim
  ·exact h1.elim
 ·exact h.elim

end Go.AL

namespace Go.AL

theorem O4 (L : Lay) (t : Nat) (A : AV) (f : Nat) : dM (yw L t A f):=by
 intro k h
 unfold yw at h ⊢
 obtain ⟨i,h1,h2⟩:=aK L t _ h
 suffices hs : ∃ x,k x /\ ∀ k' : AV -> Prop,k' x -> _ from
  let ⟨x,h3,h4⟩:=hs; ⟨x,h3,fun k' hk'=>h2 _ (h4 k' hk')⟩
 split at h1
 ·split at h1
  ·obtain ⟨x,h3,h4⟩:=((eY _ _).bind ((qj _ _).bind (U:=fun z k=>match flat z with | 0=>False | _ + 1=>ny _ _ fun x=>k (.cp x)) fun z=>by
    cases flat z with
    | zero=>exact dM.no
    | succ n=>exact (qj _ _).map _)) k h1
   exact ⟨x,h3,h4⟩
  ·obtain ⟨z,h3,h4⟩:=qj _ _ _ h1
   cases hz : flat z with
   | zero=>rw [hz] at h3; exact h3.elim
   | succ n =>
     rw [hz] at h3
     obtain ⟨p',h5,h6⟩:=IY _ _ _ h3
     exact ⟨_,h5,fun k' hk'=>h4 _ (by rw [hz]; exact h6 _ hk')⟩
  ·exact h1.elim
 ·exact h1.elim

theorem D7 (L : Lay) (t : Nat) (A I : AV) : dM (kL L t A I):=by
 intro k h
 unfold kL at h ⊢
 split at h
 ·obtain ⟨i,h1,h2⟩:=aK L t _ h
  suffices hs : ∃ x,k x /\ ∀ k' : AV -> Prop,k' x -> _ from
   let ⟨x,h3,h4⟩:=hs; ⟨x,h3,fun k' hk'=>h2 _ (h4 k' hk')⟩
  split at h1
  ·obtain ⟨x,h3,h4⟩:=((aK L _).bind fun ei=>(eY _ _).bind ((wL _ _).map AV.cp)) k h1
   exact ⟨x,h3,h4⟩
  ·obtain ⟨x,h3,h4⟩:=((aK L _).bind fun ei=>(eY _ _).bind (dM.and (dM.pure _))) k h1
   exact ⟨x,h3,h4⟩
  ·obtain ⟨x,h3,h4⟩:=((aK L _).bind fun ei=>dM.and ((IY _ _).map fun p'=>AV.ptr _ p' _)) k h1
   exact ⟨x,h3,h4⟩
  ·exact h1.elim
 ·exact h.elim

theorem O1 (L : Lay) (t : Nat) (A I : AV) : dM (yu L t A I):=by
 intro k h
 unfold yu at h ⊢
 split at h
 ·obtain ⟨i,h1,h2⟩:=aK L t _ h
  suffices hs : ∃ x,k x /\ ∀ k' : AV -> Prop,k' x -> _ from
   let ⟨x,h3,h4⟩:=hs; ⟨x,h3,fun k' hk'=>h2 _ (h4 k' hk')⟩
  split at h1
  ·exact ((wL _ _).map _) k h1
  ·exact h1.elim
 ·exact h.elim

theorem nT (e : Env) (x : Option Operand) (d : Int) : dM (rO e x d):=by
 cases x with
 | none=>exact dM.pure _
 | some x =>
   refine (aT e x).bind (U:=fun A k=>match A with | .int _ n=>k n | _=>False) fun A=>?_
   cases A <;> first | exact dM.pure _ | exact dM.no

theorem OY (L : Lay) (t : Nat) (e : Env) (A : AV) (lo hi : Option Operand) : dM (aslice L t e A lo hi):=by
 intro k h
 unfold aslice at h ⊢
 obtain ⟨i,h1,h2⟩:=aK L t _ h
 suffices hs : ∃ x,k x /\ ∀ k' : AV -> Prop,k' x -> _ from
  let ⟨x,h3,h4⟩:=hs; ⟨x,h3,fun k' hk'=>h2 _ (h4 k' hk')⟩
 split at h1
 ·exact ((nT e lo _).bind fun a=>(nT e hi _).bind fun b=>(Nc _ _ _).map _) k h1
 ·exact ((aK L _).bind fun ei=>(eY _ _).bind ((nT e lo _).bind fun a=>(nT e hi _).bind fun b=>(Nc _ _ _).map _)) k h1
 ·exact ((aK L _).bind fun ei=>(eY _ _).bind ((nT e lo _).bind fun a=>(nT e hi _).bind fun b=>dM.and (dM.and (dM.pure _)))) k h1
 ·exact ((aK L _).bind fun ei=>(nT e lo _).bind fun a=>(nT e hi _).bind fun b=>dM.and (dM.pure _)) k h1
 ·exact h1.elim

theorem jL (H : Heap) (sz : Nat) (B : AV) : dM (uG H sz B):=by
 intro k h
 unfold uG at h ⊢
 split at h
 ·exact ⟨_,h,fun _ h=>h⟩
 ·exact ((eY _ _).bind (dM.pure _)) k h
 ·obtain ⟨o,h1,h2⟩:=oU H _ _ h
  suffices hs : ∃ x,k x /\ ∀ k' : List AV -> Prop,k' x -> _ from
   let ⟨x,h3,h4⟩:=hs; ⟨x,h3,fun k' hk'=>h2 _ (h4 k' hk')⟩
  split at h1
  ·exact ((eY _ _).bind ((eY _ _).bind (dM.and (dM.pure _)))) k h1
  ·exact h1.elim
 ·exact ((eY _ _).bind (dM.pure _)) k h
 ·exact h.elim

theorem UR (d : TD) (A : AV) (H : Heap) : dM (G7 d A H):=by
 intro k h
 unfold G7 at h ⊢
 split at h <;> first | exact h.elim | exact ⟨_,h,fun _ h=>h⟩

theorem UQ (A B : AV) : dM (KH A B):=by
 intro k h
 unfold KH at h ⊢
 split at h
 ·split at h <;> first | exact h.elim | exact ⟨_,h,fun _ h=>h⟩
 ·exact h.elim
theorem UO (A B : AV) : dM (zl A B):=by
 intro k h
 unfold zl at h ⊢
 split at h
 ·split at h <;> first | exact h.elim | exact ⟨_,h,fun _ h=>h⟩
 ·exact h.elim

def fG (T : (AV -> Heap -> Prop) -> Prop) : Prop:=∀ k,T k -> ∃ A H',k A H' /\ ∀ k' : AV -> Heap -> Prop,k' A H' -> T k'

theorem dM.bD {α : Type} {T : (α -> Prop) -> Prop} {U : α -> (AV -> Heap -> Prop) -> Prop} (h : dM T) (g : ∀ a,fG (U a)) : fG fun k=>T fun a=>U a k:=by
 intro k hk
 obtain ⟨a,h1,h2⟩:=h _ hk
 obtain ⟨A,H',h3,h4⟩:=g a _ h1
 exact ⟨A,H',h3,fun k' hk'=>h2 _ (h4 k' hk')⟩
theorem DJ.bD {T : Prop -> Prop} {U : (AV -> Heap -> Prop) -> Prop} (h : DJ T) (g : fG U) : fG fun k=>T (U k):=by
 intro k hk
 obtain ⟨h1,h2⟩:=h _ hk
 obtain ⟨A,H',h3,h4⟩:=g _ h1
 exact ⟨A,H',h3,fun k' hk'=>h2 _ (h4 k' hk')⟩
theorem fG.pure (A : AV) (H : Heap) : fG fun k=>k A H:=fun _ h=>⟨A,H,h,fun _ h=>h⟩
theorem fG.no : fG fun _=>False:=fun _ h=>h.elim
theorem fG.and {p : Prop} {T : (AV -> Heap -> Prop) -> Prop} (h : fG T) : fG fun k=>p /\ T k:=by
 rintro k ⟨hp,hk⟩
 obtain ⟨A,H',h1,h2⟩:=h k hk
 exact ⟨A,H',h1,fun k' hk'=>⟨hp,h2 k' hk'⟩⟩
theorem dM.with {T : (AV -> Prop) -> Prop} (h : dM T) (H : Heap) : fG fun k=>T fun A=>k A H:=h.bD fun A=>fG.pure A H
theorem wI (H : Heap) (o : HO) {U : Nat -> AV} : fG fun k=>mM H o fun j H'=>k (U j) H':=by
 intro k h
 exact ⟨_,_,dO.1 h,fun k' hk'=>dO.2 hk'⟩
theorem Rk (e n sz : Nat) (z : AV) (H : Heap) : fG (Oa e n sz z H):=by
 rintro k (⟨h1,h2⟩ | h)
 ·exact ⟨_,_,h2,fun k' hk'=>.pure ⟨h1,hk'⟩⟩
 ·exact ⟨_,_,h,fun k' hk'=>.wr hk'⟩
theorem Ru (sz bytes : Nat) (l m : List AV) {U : (AV -> Heap -> Prop) -> Prop} (h : fG U) : fG fun k=>Vs sz bytes l m (U k):=by
 rintro k ⟨h1,h2,h3⟩
 obtain ⟨A,H',h4,h5⟩:=h k h3
 exact ⟨A,H',h4,fun k' hk'=>⟨h1,h2,h5 k' hk'⟩⟩

theorem IZ (sz bytes : Nat) (l m : List AV) (H : Heap) : fG (y8 sz bytes l m H):=by
 rintro k (⟨h1,h2,h3⟩ | ⟨h1,h2,h3⟩)
 ·obtain ⟨A,H',h4,h5⟩:=(wI H (.tok sz (l.length + m.length)) (U:=fun j=>.sl sz (l ++ m) (.own j))) k h3
  exact ⟨A,H',h4,fun k' hk'=>.tok h1 h2 (h5 k' hk')⟩
 ·exact ⟨_,_,h3,fun k' hk'=>.pure h1 h2 hk'⟩

theorem BM (L : Lay) (t : Nat) (A B : AV) (H : Heap) : fG (je L t A B H):=by
 intro k h
 unfold je at h ⊢
 obtain ⟨i,h1,h2⟩:=aK L t _ h
 suffices hs : ∃ x H',k x H' /\ ∀ k' : AV -> Heap -> Prop,k' x H' -> _ from
  let ⟨x,H',h3,h4⟩:=hs; ⟨x,H',h3,fun k' hk'=>h2 _ (h4 k' hk')⟩
 split at h1
 ·obtain ⟨ei,h3,h4⟩:=aK L _ _ h1
  suffices hs : ∃ x H',k x H' /\ ∀ k' : AV -> Heap -> Prop,k' x H' -> _ from
   let ⟨x,H',h5,h6⟩:=hs; ⟨x,H',h5,fun k' hk'=>h4 _ (h6 k' hk')⟩
  split at h3
  ·exact ((jL H _ B).bD fun m=>IZ _ _ _ _ _) k h3
  ·exact ((eY _ _).bD ((jL H _ B).bD fun m=>IZ _ _ _ _ _)) k h3
  ·obtain ⟨h5,h6⟩:=eY _ _ _ h3
   obtain ⟨m,h7,h8⟩:=jL H _ B _ h5
   obtain ⟨o,h9,h10⟩:=oU H _ _ h7
   cases o with
   | tok sz' top =>
     obtain ⟨x,H',g1,g2⟩:=((eY _ _).bD (fG.and (Ru _ _ _ _ ((rG H _ _).bD fun H'=>fG.pure _ _)))) k h9
     exact ⟨x,H',g1,fun k' hk'=>h6 _ (h8 _ (h10 _ (g2 k' hk')))⟩
   | _=>exact h9.elim
  ·exact h3.elim
 ·exact h1.elim

theorem kW (L : Lay) (b : Builtin) (ts : List Nat) (As : List AV) (H : Heap) : fG (fA L b ts As H):=by
 intro k h
 unfold fA at h ⊢
 split at h
 ·exact ((aK L _).bD fun i=>(UR _ _ _).with H) k h
 ·obtain ⟨i,h1,h2⟩:=aK L _ _ h
  cases hi : i.desc with
  | slice e =>
    rw [hi] at h1
    obtain ⟨x,H',g1,g2⟩:=BM L _ _ _ H k h1
    exact ⟨x,H',g1,fun k' hk'=>h2 _ (by rw [hi]; exact g2 k' hk')⟩
  | str =>
    rw [hi] at h1
    obtain ⟨x,H',g1,g2⟩:=BM L _ _ _ H k h1
    exact ⟨x,H',g1,fun k' hk'=>h2 _ (by rw [hi]; exact g2 k' hk')⟩
  | _=>rw [hi] at h1; exact h1.elim
 ·exact ((UQ _ _).with H) k h
 ·exact ((UO _ _).with H) k h
 ·exact h.elim

end Go.AL

namespace Go.AL

theorem uQ (e : Env) : ∀ (ps : List (Nat × Operand)) (zs : List AV),dM (gZ e ps zs)
 | [],zs=>dM.pure zs
 | (i,x) :: ps,zs=>by
   intro k h
   simp only [gZ] at h ⊢
   obtain ⟨A,h1,h2⟩:=aT e x _ h
   obtain ⟨h3,h4⟩:=zM A _ h1
   obtain ⟨z,h5,h6⟩:=qj zs i _ h3
   obtain ⟨h7,h8⟩:=eY _ _ _ h5
   have hs : dM fun k=>iJ zs i A fun zs'=>gZ e ps zs' k:=(qc A zs i).bind fun zs'=>uQ e ps zs'
   cases hA : cZ A <;> cases hz : cZ z <;> rw [hA,hz] at h7
   ·obtain ⟨l,g1,g2⟩:=hs k h7
    exact ⟨l,g1,fun k' hk'=>h2 _ (h4 _ (h6 _ (h8 _ (by rw [hA,hz]; exact g2 k' hk'))))⟩
   ·exact h7.elim
   ·exact h7.elim
   ·obtain ⟨l,g1,g2⟩:=hs k h7
    exact ⟨l,g1,fun k' hk'=>h2 _ (h4 _ (h6 _ (h8 _ (by rw [hA,hz]; exact g2 k' hk'))))⟩

theorem yP (e : Env) : ∀ (ps : List (Nat × Operand)) (zs : List AV),dM (iE e ps zs)
 | [],zs=>dM.pure zs
 | (i,x) :: ps,zs=>by
   intro k h
   simp only [iE] at h ⊢
   obtain ⟨A,h1,h2⟩:=aT e x _ h
   obtain ⟨z,h5,h6⟩:=qj zs i _ h1
   obtain ⟨h7,h8⟩:=eY _ _ _ h5
   have hs : dM fun k=>ug A fun B=>iJ zs i B fun zs'=>iE e ps zs' k:=(BK A).bind fun B=>(qc B zs i).bind fun zs'=>yP e ps zs'
   cases hA : cZ A <;> cases hz : cZ z <;> rw [hA,hz] at h7
   ·obtain ⟨l,g1,g2⟩:=hs k h7
    exact ⟨l,g1,fun k' hk'=>h2 _ (h6 _ (h8 _ (by rw [hA,hz]; exact g2 k' hk')))⟩
   ·exact h7.elim
   ·exact h7.elim
   ·obtain ⟨l,g1,g2⟩:=hs k h7
    exact ⟨l,g1,fun k' hk'=>h2 _ (h6 _ (h8 _ (by rw [hA,hz]; exact g2 k' hk')))⟩

def Yl (T : (AV -> Heap -> Prop) -> (Heap -> Prop) -> Prop) : Prop:=∀ k ks,T k ks ->
 (∃ A H',k A H' /\ ∀ (k' : AV -> Heap -> Prop) ks',k' A H' -> T k' ks') \/ (∃ H',ks H' /\ ∀ k' (ks' : Heap -> Prop),ks' H' -> T k' ks')

theorem fG.o {T : (AV -> Heap -> Prop) -> Prop} (h : fG T) : Yl fun k _=>T k:=by
 intro k ks hk
 obtain ⟨A,H',h1,h2⟩:=h k hk
 exact .inl ⟨A,H',h1,fun k' _ hk'=>h2 k' hk'⟩

theorem Ro {F : FT} (f : Nat) (args : List AV) (H : Heap) : fG (Fz F (fun _=>True) f args H):=by
 rintro k (⟨R,H',h,h'⟩ | ⟨Bs,R,hle,hb,h,h'⟩)
 ·exact ⟨R,H',h' trivial,fun k' hk'=>.gen R H' h fun _=>hk'⟩
 ·exact ⟨R,H,h' trivial,fun k' hk'=>.pure Bs R hle hb h fun _=>hk'⟩

theorem wJ (b : Bool) : DJ (Et b):=by
 intro k h
 obtain ⟨h1,h2⟩:=nP.1 h
 exact ⟨h2,fun k' hk'=>nP.2 ⟨h1,hk'⟩⟩

theorem Rl (es : List (AV × AV)) (K : AV) : dM (Fv es K):=by
 rintro k ⟨r,h1,h2⟩
 exact ⟨r,h2,fun k' hk'=>⟨r,h1,hk'⟩⟩

theorem UM (es : List (AV × AV)) (K V : AV) : dM (Xk es K V):=by
 rintro k ⟨r,h1,h2⟩
 exact ⟨r,h2,fun k' hk'=>⟨r,h1,hk'⟩⟩

theorem OZ (ok : Bool) (z : AV) (r : Option AV) : dM (Bd ok z r):=by
 unfold Bd
 cases ok <;> cases r <;> exact dM.pure _

theorem Rt (z : AV) (s : Nat) (A : AV) (ok : Bool) : dM (G5 z s A ok):=by
 unfold G5
 cases A <;> cases ok <;> first | exact dM.no | exact dM.pure _ | skip
 all_goals
  rename_i t y
  dsimp only
  cases Nat.beq t s <;> first | exact dM.no | exact dM.pure _

theorem KZ (L : Lay) (t : Nat) (A K V : AV) (H : Heap) : dM (wY L t A K V H):=by
 refine (aK L t).bind fun i=>?_
 cases i.desc <;> first | exact dM.no | skip
 cases i.key <;> first | exact dM.no | skip
 refine (wJ _).bind ((jX L _ _).bind ?_)
 cases A <;> first | exact dM.no | skip
 refine (oU H _).bind fun o=>?_
 cases o <;> first | exact dM.no | skip
 exact (wJ _).bind ((UM _ _ _).bind fun es'=>rG H _ _)

theorem Gv {F : FT} {L : Lay} {op : Op} {e : Env} {H : Heap} (hn : lU op = false) : Yl (gq F (fun _=>True) L op e H):=by
 cases op with
 | move x=>exact ((aT e x).with H).o
 | assign x=>exact ((aT e x).with H).o
 | pick x y z =>
   refine ((aT e x).bD (U:=fun C k=>match C with
   | .tt=>bI e y fun A=>k A H
   | .ff=>bI e z fun A=>k A H
   | .bool x=>(x = true -> bI e y fun A=>k A H) /\ (x = false -> bI e z fun A=>k A H)
   | .dec p=>(p -> bI e y fun A=>k A H) /\ (¬ p -> bI e z fun A=>k A H)
   | _=>False) fun C=>?_).o
   cases C with
   | tt=>exact (aT e y).with H
   | ff=>exact (aT e z).with H
   | bool b =>
     intro k h
     obtain ⟨A,h1,h2⟩:=(dM.WM (b:=b) (aT e y) (aT e z)) (fun A=>k A H) h
     exact ⟨A,H,h1,fun k' hk'=>h2 (fun A=>k' A H) hk'⟩
   | dec p =>
     intro k h
     obtain ⟨A,h1,h2⟩:=(dM.cases (p:=p) (aT e y) (aT e z)) (fun A=>k A H) h
     exact ⟨A,H,h1,fun k' hk'=>h2 (fun A=>k' A H) hk'⟩
   | _=>exact fG.no
 | alloc t=>exact ((aK L t).bD fun i=>wI H _).o
 | box t x=>exact ((aT e x).bD fun A=>(jX L t A).bD (wI H _)).o
 | build t ps =>
   refine ((aK L t).bD (U:=fun i k=>match i.desc,i.zero with
   | .struct _,.ag zs=>gZ e ps.toList zs fun l=>k (.ag l) H
   | .arr _ el,.ag zs=>L.aW el fun ei=>jE (flat ei.zero) 1 (Et (wB zs) (gZ e ps.toList zs fun l=>k (.ag l) H))
   | _,_=>False) fun i=>?_).o
   cases i.desc <;> cases i.zero <;> first | exact fG.no | exact ((uQ e _ _).map _).with H | exact (aK L _).bD fun ei=>(eY _ _).bD ((wJ _).bD (((uQ e _ _).map _).with H))
 | buildSlice t n ps =>
   refine ((aK L t).bD (U:=fun i k=>match i.desc with
   | .slice el=>L.aW el fun ei=>yj (n * flat ei.zero) 16777216 <| yj n 16777216 <| FU ei.zero n fun zs=>iE e ps.toList zs fun l=>k (.sl (flat ei.zero) l .full) H
   | _=>False) fun i=>?_).o
   cases i.desc <;> first | exact fG.no | exact (aK L _).bD fun ei=>(Nh _ _).bD ((Nh _ _).bD ((UN _ _).bD fun zs=>((yP e _ zs).map _).with H))
 | load t x=>exact ((aT e x).bD fun A=>(iT L t A H).with H).o
 | store t x y =>
   intro k ks h
   obtain ⟨A,h1,h2⟩:=aT e x _ h
   obtain ⟨B,h3,h4⟩:=aT e y _ h1
   obtain ⟨H',h5,h6⟩:=OX L t A B H _ h3
   exact .inr ⟨H',h5,fun k' ks' hk'=>h2 _ (h4 _ (h6 _ hk'))⟩
 | nilCheck x =>
   refine ((aT e x).bD (U:=fun A k=>match A with
   | .ptr _ _ _=>k A H
   | .cp _=>k A H
   | .fn _ _=>k A H
   | _=>False) fun A=>?_).o
   cases A <;> first | exact fG.no | exact fG.pure _ _
 | binOp op t x y ty =>
   intro k ks h
   simp only [gq,hn] at h ⊢
   revert h
   revert k ks
   exact ((aT e x).bD fun A=>(aT e y).bD fun B=>(aK L t).bD fun i=>(Rq i _ _ A B (UW _ _ _ _ _)).with H).o
 | typeAssert x xt s ok =>
   clear hn
   refine ((aT e x).bD (U:=fun A k=>L.aW s fun i=>(match i.desc with
   | .iface=>False
   | _=>G5 i.zero s A ok fun R=>k R H)) fun A=>(aK L s).bD fun i=>?_).o
   cases i.desc <;> first | exact fG.no | exact (Rt _ _ _ _).with H
 | makeMap t r =>
   clear hn
   cases r with
   | none =>
     refine ((aK L t).bD (U:=fun i k=>match i.key with | some sh=>mM H (.iD sh []) fun j H'=>k (.mp j) H' | none=>False) fun i=>?_).o
     cases i.key <;> first | exact fG.no | exact wI H _
   | some x=>exact fG.no.o
 | lookup t x y ok =>
   clear hn
   refine ((aT e x).bD fun A=>(aT e y).bD (U:=fun K k=>L.aW t fun i=>(match i.desc,i.key with
   | .map _ et,some sh=>Et (ay sh K) <| L.aW et fun ei=>(match A with
     | .mp j=>jC H j fun o=>(match o with
       | .iD sh' es=>Et (ay sh' sh) <| Fv es K fun r=>Bd ok ei.zero r fun R=>k R H
       | _=>False)
     | _=>False)
   | _,_=>False)) fun K=>(aK L t).bD fun i=>?_).o
   cases i.desc <;> first | exact fG.no | skip
   cases i.key <;> first | exact fG.no | skip
   refine (wJ _).bD ((aK L _).bD fun ei=>?_)
   cases A <;> first | exact fG.no | skip
   refine (oU H _).bD fun o=>?_
   cases o <;> first | exact fG.no | skip
   exact (wJ _).bD ((Rl _ _).bD fun r=>(OZ _ _ r).with H)
 | mapUpdate t x y z =>
   clear hn
   intro k ks h
   simp only [gq] at h ⊢
   obtain ⟨A,h1,h2⟩:=aT e x _ h
   obtain ⟨K,h3,h4⟩:=aT e y _ h1
   obtain ⟨V,h5,h6⟩:=aT e z _ h3
   obtain ⟨H',k1,k2⟩:=KZ L t A K V H _ h5
   exact .inr ⟨H',k1,fun k' ks' hk'=>h2 _ (h4 _ (h6 _ (k2 _ hk')))⟩
 | unOp op t x =>
   clear hn
   refine ((aT e x).bD (U:=fun A k=>match op,A with
   | .not,A=>qL A fun R=>k R H
   | .neg,.int ka a=>arith ka (0 - a) fun R=>k R H
   | _,_=>False) fun A=>?_).o
   cases op with
   | not=>exact (wK A).with H
   | neg=>cases A <;> first | exact fG.no | exact (xZ _ _).with H
   | _=>exact fG.no
 | convert s d x =>
   refine ((aT e x).bD (U:=fun A k=>L.aW s fun _=>L.aW d fun i=>(match i.desc,A with
   | .int kd,.int _ n=>k (.int kd (kd.wrap n)) H
   | .str,.str s=>k (.str s) H
   | _,_=>False)) fun A=>(aK L s).bD fun _=>(aK L d).bD fun i=>?_).o
   cases i.desc <;> cases A <;> first | exact fG.no | exact fG.pure _ _
 | makeInterface t x =>
   refine ((aT e x).bD (U:=fun A k=>L.aW t fun i=>(match i.desc with
   | .iface=>False
   | _=>Ak A (k (.jB t A) H))) fun A=>(aK L t).bD fun i=>?_).o
   cases i.desc <;> first | exact fG.no | exact (zM A).bD (fG.pure _ _)
 | makeFunc f first cap =>
   cases f with
   | func g =>
     cases hf : first.toList with
     | nil =>
       have : fG fun k=>lJ e cap.toList fun As=>yH As (k (.fn g As) H):=(jc e _).bD fun As=>(BI As).bD (fG.pure _ _)
       intro k ks h
       simp only [gq,hf] at h ⊢
       exact this.o k ks h
     | cons y l=>intro k ks h; simp only [gq,hf] at h
   | _=>intro k ks h; exact h.elim
 | makeSlice t x y =>
   refine ((aT e x).bD fun A=>(aT e y).bD (U:=fun B k=>L.aW t fun i=>(match i.desc,A,B with
   | .slice el,.int _ n,.int _ m=>L.aW el fun ei=>(0 <= n /\ n <= m /\ m * (ei.bytes : Int) <= 281474976710656 /\ m <= 9223372036854775807) /\
     Oa m.toNat n.toNat (flat ei.zero) ei.zero H k
   | _,_,_=>False)) fun B=>(aK L t).bD fun i=>?_).o
   cases i.desc <;> first | exact fG.no | skip
   cases A <;> first | exact fG.no | skip
   cases B <;> first | exact fG.no | skip
   exact (aK L _).bD fun ei=>fG.and (Rk _ _ _ _ _)
 | slice t x lo hi mx =>
   cases mx with
   | none=>exact ((aT e x).bD fun A=>(OY L t e A lo hi).with H).o
   | some y=>exact fG.no.o
 | fieldAddr t x f=>exact ((aT e x).bD fun A=>(O4 L t A f).with H).o
 | indexAddr t x y=>exact ((aT e x).bD fun A=>(aT e y).bD fun I=>(D7 L t A I).with H).o
 | index t x y=>exact ((aT e x).bD fun A=>(aT e y).bD fun I=>(O1 L t A I).with H).o
 | extract x i =>
   refine ((aT e x).bD (U:=fun A k=>match A with
   | .dS l=>ny l i fun R=>k R H
   | _=>False) fun A=>?_).o
   cases A <;> first | exact fG.no | exact (qj _ _).with H
 | call cl =>
   cases hc : cl.callee with
   | value f =>
     have : fG fun k=>bI e f fun A=>(match A with
      | .fn g cap=>lJ e cl.args.toList fun As=>D8 As cap fun Bs=>Fz F (fun _=>True) g Bs H k
      | _=>False):=(aT e f).bD fun A=>by
        cases A <;> first | exact fG.no | exact (jc e _).bD fun As=>(zO As _).bD fun Bs=>Ro _ Bs H
     intro k ks h
     simp only [gq,hc] at h ⊢
     exact this.o k ks h
   | builtin b =>
     have : fG fun k=>lJ e cl.args.toList fun As=>fA L b cl.argTypes.toList As H k:=(jc e _).bD fun As=>kW L b _ As H
     intro k ks h
     simp only [gq,hc] at h ⊢
     exact this.o k ks h
   | invoke r m=>intro k ks h; simp only [gq,hc] at h
 | _=>exact fG.no.o

end Go.AL

namespace Go.AL

theorem wH {acc : List Nat} {i : Nat} : ∀ {l : List Edge} {s : Nat},(oQ acc l s).testBit i = true -> s.testBit i = true \/ ∃ e ∈ l,Region.binds .any e = true /\ (e.on = i \/ (acc.getD e.on 0).testBit i = true)
 | [],s,h=>.inl h
 | e :: l,s,h=>by
   simp only [oQ] at h
   rcases wH h with h | ⟨e',h1,h2⟩
   ·cases hb : Region.binds .any e with
    | false=>rw [hb] at h; exact .inl h
    | true =>
      rw [hb] at h
      simp only [Nat.testBit_or,Bool.or_eq_true,Nat.testBit_two_pow,decide_eq_true_eq] at h
      rcases h with (h | h) | h
      ·exact .inl h
      ·exact .inr ⟨e,by simp,hb,.inl h⟩
      ·exact .inr ⟨e,by simp,hb,.inr h⟩
   ·exact .inr ⟨e',by simp [h1],h2⟩

theorem CS : ∀ {l : List Oper} {acc : List Nat} {j : Nat},j < acc.length -> (rQ l acc)[j]? = acc[j]?
 | [],_,_,_=>rfl
 | o :: l,acc,j,h=>by
   simp only [rQ]
   rw [CS (by simp; omega),List.getElem?_append_left h]

theorem Jt : ∀ {l : List Oper} {acc : List Nat} {m : Nat} {o : Oper},l[m]? = some o -> ∃ pre,pre.length = acc.length + m /\ (rQ l acc)[acc.length + m]? = some (oQ pre o.after.toList 0) /\ ∀ j,j < acc.length + m -> pre[j]? = (rQ l acc)[j]?
 | [],_,_,_,h=>by simp at h
 | o :: l,acc,0,o',h=>by
   simp at h; subst h
   refine ⟨acc,rfl,?_,fun j hj=>?_⟩
   ·simp only [rQ,Nat.add_zero]
    rw [CS (by simp)]
    simp
   ·simp only [rQ]
    rw [CS (by simp; omega),List.getElem?_append_left (by omega)]
 | o :: l,acc,m + 1,o',h=>by
   simp at h
   obtain ⟨pre,h1,h2,h3⟩:=Jt (acc:=acc ++ [oQ acc o.after.toList 0]) h
   simp only [rQ]
   simp only [List.length_append,List.length_singleton] at h1 h2 h3
   refine ⟨pre,by omega,?_,fun j hj=>h3 j (by omega)⟩
   rw [show acc.length + (m + 1) = acc.length + 1 + m by omega]; exact h2

def Closed (ops : List Oper) (D : Nat -> Prop) : Prop:=∀ j o,D j -> ops[j]? = some o -> ∀ e ∈ o.after.toList,Region.binds .any e = true -> D e.on

theorem GZ {ops : List Oper} {D : Nat -> Prop} (hD : Closed ops D) {i : Nat} : ∀ (j : Nat) (o : Oper),ops[j]? = some o -> (∀ e ∈ o.after.toList,Region.binds .any e = true -> D e.on) ->
  ((rQ ops []).getD j 0).testBit i = true -> D i:=by
 intro j
 induction j using Nat.strongRecOn with
 | _ j ih =>
   intro o ho he hb
   obtain ⟨pre,h1,h2,h3⟩:=Jt (acc:=[]) ho
   simp only [List.length_nil,Nat.zero_add] at h1 h2 h3
   rw [List.getD_eq_getElem?_getD,h2] at hb
   rcases wH (s:=0) hb with h | ⟨e,h4,h5,h6⟩
   ·simp at h
   ·rcases h6 with rfl | h6
    ·exact he e h4 h5
    ·by_cases hlt : e.on < j
     ·have hDe:=he e h4 h5
      rw [List.getD_eq_getElem?_getD,h3 _ hlt,<- List.getD_eq_getElem?_getD] at h6
      have hlt' : e.on < ops.length:=by have:=(List.getElem?_eq_some_iff.1 ho).1; omega
      exact ih e.on hlt _ (List.getElem?_eq_getElem hlt') (fun e' he' hb'=>hD e.on _ hDe (List.getElem?_eq_getElem hlt') e' he' hb') h6
     ·rw [List.getD_eq_getElem?_getD,List.getElem?_eq_none (by omega)] at h6
      simp at h6

end Go.AL

namespace Go.AL

def PL (T : Heap -> (AV -> Heap -> Prop) -> Prop) : Prop:=∃ U : (AV -> Prop) -> Prop,∀ H k,T H k ↔ U fun A=>k A H

theorem dW {α : Type} {V : (α -> Prop) -> Prop} {T : α -> Heap -> (AV -> Heap -> Prop) -> Prop} (h : ∀ a,PL (T a)) : PL fun H k=>V fun a=>T a H k:=by
 have hc : ∃ U : α -> (AV -> Prop) -> Prop,∀ a H k,T a H k ↔ U a fun A=>k A H:=⟨fun a=>(h a).choose,fun a=>(h a).choose_spec⟩
 obtain ⟨U,hU⟩:=hc
 refine ⟨fun k=>V fun a=>U a k,fun H k=>?_⟩
 have : (fun a=>T a H k) = fun a=>U a fun A=>k A H:=by
  funext a; exact propext (hU a H k)
 show V (fun a=>T a H k) ↔ _
 rw [this]

theorem dY {U : (AV -> Prop) -> Prop} : PL fun H k=>U fun A=>k A H:=⟨U,fun _ _=>Iff.rfl⟩
theorem eX : PL fun _ _=>False:=⟨fun _=>False,fun _ _=>Iff.rfl⟩

theorem F7 (L : Lay) (b : Builtin) (hb : b = .len \/ b = .max \/ b = .min) (ts : List Nat) (As : List AV) : PL fun H k=>fA L b ts As H k:=by
 rcases hb with rfl | rfl | rfl
 ·match ts,As with
  | t :: r,[A] =>
    refine dW (V:=L.aW t) (T:=fun i H k=>G7 i.desc A H fun R=>k R H) fun i=>?_
    refine ⟨fun k=>G7 i.desc A [] k,fun H k=>?_⟩
    unfold G7
    exact Iff.rfl
  | [],_=>exact eX
  | _ :: _,[]=>exact eX
  | _ :: _,_ :: _ :: _=>exact eX
 ·match As with
  | [A,B]=>exact dY (U:=KH A B)
  | []=>exact eX
  | [_]=>exact eX
  | _ :: _ :: _ :: _=>exact eX
 ·match As with
  | [A,B]=>exact dY (U:=zl A B)
  | []=>exact eX
  | [_]=>exact eX
  | _ :: _ :: _ :: _=>exact eX

theorem Ul {F : FT} {gU : AV -> Prop} {L : Lay} {op : Op} {e : Env} (hn : vX op = true) (hc : ∀ cl f,op = .call cl -> cl.callee ≠ .value f) (hs : ∀ t x y,op ≠ .makeSlice t x y) (hap : ∀ cl,op = .call cl -> cl.callee ≠ .builtin .append) (ks : Heap -> Prop) :
  PL fun H k=>gq F gU L op e H k ks:=by
 cases op with
 | move x=>exact dY (U:=bI e x)
 | assign x=>exact dY (U:=bI e x)
 | pick x y z =>
   refine dW (V:=bI e x) (T:=fun C H k=>match C with
   | .tt=>bI e y fun A=>k A H
   | .ff=>bI e z fun A=>k A H
   | .bool x=>(x = true -> bI e y fun A=>k A H) /\ (x = false -> bI e z fun A=>k A H)
   | .dec p=>(p -> bI e y fun A=>k A H) /\ (¬ p -> bI e z fun A=>k A H)
   | _=>False) fun C=>?_
   cases C with
   | tt=>exact dY (U:=bI e y)
   | ff=>exact dY (U:=bI e z)
   | bool b=>exact dY (U:=fun k=>(b = true -> bI e y k) /\ (b = false -> bI e z k))
   | dec p=>exact dY (U:=fun k=>(p -> bI e y k) /\ (¬ p -> bI e z k))
   | _=>exact eX
 | build t ps =>
   refine dW (V:=L.aW t) (T:=fun i H k=>match i.desc,i.zero with
   | .struct _,.ag zs=>gZ e ps.toList zs fun l=>k (.ag l) H
   | .arr _ el,.ag zs=>L.aW el fun ei=>jE (flat ei.zero) 1 (Et (wB zs) (gZ e ps.toList zs fun l=>k (.ag l) H))
   | _,_=>False) fun i=>?_
   cases i.desc <;> cases i.zero <;> first | exact eX | exact dY (U:=fun k=>gZ e ps.toList _ fun l=>k (.ag l)) | exact dY (U:=fun k=>L.aW _ fun ei=>jE (flat ei.zero) 1 (Et (wB _) (gZ e ps.toList _ fun l=>k (.ag l))))
 | buildSlice t n ps =>
   refine dW (V:=L.aW t) (T:=fun i H k=>match i.desc with
   | .slice el=>L.aW el fun ei=>yj (n * flat ei.zero) 16777216 <| yj n 16777216 <| FU ei.zero n fun zs=>iE e ps.toList zs fun l=>k (.sl (flat ei.zero) l .full) H
   | _=>False) fun i=>?_
   cases i.desc <;> first | exact eX | exact dY (U:=fun k=>L.aW _ fun ei=>yj (n * flat ei.zero) 16777216 <| yj n 16777216 <| FU ei.zero n fun zs=>iE e ps.toList zs fun l=>k (.sl (flat ei.zero) l .full))
 | nilCheck x =>
   refine dW (V:=bI e x) (T:=fun A H k=>match A with
   | .ptr _ _ _=>k A H
   | .cp _=>k A H
   | .fn _ _=>k A H
   | _=>False) fun A=>?_
   cases A <;> first | exact eX | exact dY (U:=fun k=>k _)
 | binOp op t x y ty =>
   clear hc hs hap
   cases hb : lU (.binOp op t x y ty) with
   | true =>
     simp only [gq,hb]
     refine dW (V:=bI e x) (T:=fun A H k=>L.aW t fun i=>(match i.desc with | .slice _=>Py op A fun R=>k R H | _=>False)) fun A=>dW (V:=L.aW t) fun i=>?_
     cases i.desc <;> first | exact eX | exact dY (U:=Py op A)
   | false =>
     simp only [gq,hb]
     exact dY (U:=fun k=>bI e x fun A=>bI e y fun B=>L.aW t fun i=>match cZ A with
      | true=>JB i op A B k
      | false=>yA i.desc op (iR x || iR y) A B k)
 | typeAssert x xt s ok =>
   refine dW (V:=bI e x) (T:=fun A H k=>L.aW s fun i=>(match i.desc with
   | .iface=>False
   | _=>G5 i.zero s A ok fun R=>k R H)) fun A=>dW (V:=L.aW s) fun i=>?_
   cases i.desc <;> first | exact eX | exact dY (U:=G5 i.zero s A ok)
 | makeSlice t x y=>exact absurd rfl (hs t x y)
 | unOp op t x =>
   clear hn hc hs hap
   refine dW (V:=bI e x) (T:=fun A H k=>match op,A with
   | .not,A=>qL A fun R=>k R H
   | .neg,.int ka a=>arith ka (0 - a) fun R=>k R H
   | _,_=>False) fun A=>?_
   cases op with
   | not=>exact dY (U:=qL A)
   | neg=>cases A <;> first | exact eX | exact dY (U:=arith _ _)
   | _=>exact eX
 | convert s d x =>
   refine dW (V:=bI e x) (T:=fun A H k=>L.aW s fun _=>L.aW d fun i=>(match i.desc,A with
   | .int kd,.int _ n=>k (.int kd (kd.wrap n)) H
   | .str,.str s=>k (.str s) H
   | _,_=>False)) fun A=>dW (V:=L.aW s) fun _=>dW (V:=L.aW d) fun i=>?_
   cases i.desc <;> cases A <;> first | exact eX | exact dY (U:=fun k=>k _)
 | makeInterface t x =>
   refine dW (V:=bI e x) (T:=fun A H k=>L.aW t fun i=>(match i.desc with
   | .iface=>False
   | _=>Ak A (k (.jB t A) H))) fun A=>dW (V:=L.aW t) fun i=>?_
   cases i.desc <;> first | exact eX | exact dY (U:=fun k=>Ak A (k (.jB t A)))
 | makeFunc f first cap =>
   cases f with
   | func g =>
     cases hf : first.toList with
     | nil =>
       refine ⟨fun k=>lJ e cap.toList fun As=>yH As (k (.fn g As)),fun H k=>?_⟩
       simp only [gq,hf]
     | cons y l=>refine ⟨fun _=>False,fun H k=>?_⟩; simp only [gq,hf]
   | _=>exact eX
 | slice t x lo hi mx =>
   cases mx with
   | none=>exact dY (U:=fun k=>bI e x fun A=>aslice L t e A lo hi k)
   | some y=>exact eX
 | fieldAddr t x f=>exact dY (U:=fun k=>bI e x fun A=>yw L t A f k)
 | indexAddr t x y=>exact dY (U:=fun k=>bI e x fun A=>bI e y fun I=>kL L t A I k)
 | index t x y=>exact dY (U:=fun k=>bI e x fun A=>bI e y fun I=>yu L t A I k)
 | extract x i =>
   refine dW (V:=bI e x) (T:=fun A H k=>match A with
   | .dS l=>ny l i fun R=>k R H
   | _=>False) fun A=>?_
   cases A <;> first | exact eX | exact dY (U:=ny _ i)
 | call cl =>
   cases hcl : cl.callee with
   | value f=>exact absurd hcl (hc cl f rfl)
   | invoke r m=>simp [vX,hcl] at hn
   | builtin b =>
     have hb : b = .len \/ b = .max \/ b = .min:=by
      have:=hap cl rfl
      simp only [vX,hcl] at hn
      cases b <;> first | (exact absurd hcl this) | (simp at hn; done) | simp
     obtain ⟨U,hU⟩:=dW (V:=lJ e cl.args.toList) (T:=fun As H k=>fA L b cl.argTypes.toList As H k) fun As=>F7 L b hb _ As
     refine ⟨U,fun H k=>?_⟩
     simp only [gq,hcl]
     exact hU H k
 | _=>simp [vX] at hn

end Go.AL

namespace Go.AL

theorem JA {F : FT} {L : Lay} {op : Op} {e : Env} {H : Heap} {k : AV -> Heap -> Prop} {ks : Heap -> Prop} (O O' : AV -> Prop) (hc : ∀ cl f,op = .call cl -> cl.callee ≠ .value f) :
  gq F O L op e H k ks ↔ gq F O' L op e H k ks:=by
 cases op with
 | call cl =>
   cases hcl : cl.callee with
   | value f=>exact absurd hcl (hc cl f rfl)
   | _=>simp only [gq,hcl]
 | _=>exact Iff.rfl

theorem Ii {sz : Nat} {B : AV} {H : Heap} {k : List AV -> Prop} (h : uG [] sz B k) : uG H sz B k:=by
 unfold uG at h ⊢
 split at h
 ·exact h
 ·exact h
 ·exact h.elim
 ·exact h
 ·exact h.elim

theorem Jv {L : Lay} {ts : List Nat} {As : List AV} {H : Heap} {K : AV -> Prop} (h : fA L .append ts As [] fun A H'=>H' = [] /\ K A) :
  fA L .append ts As H fun A H'=>K A /\ H' = H:=by
 have ZB : ∀ {sz bytes : Nat} {l m : List AV},y8 sz bytes l m [] (fun A H'=>H' = [] /\ K A) -> y8 sz bytes l m H fun A H'=>K A /\ H' = H:=by
  rintro sz bytes l m (⟨h1,h2,h3⟩ | ⟨h1,h2,h3⟩)
  ·have:=(dO.1 h3).1; cases this
  ·exact .pure h1 h2 ⟨h3.2,rfl⟩
 have app : ∀ {t : Nat} {A B : AV},je L t A B [] (fun A H'=>H' = [] /\ K A) -> je L t A B H fun A H'=>K A /\ H' = H:=by
  intro t A B h
  unfold je at h ⊢
  obtain ⟨i,h1,h2⟩:=aK L t _ h
  refine h2 _ ?_
  split at h1
  ·obtain ⟨ei,h3,h4⟩:=aK L _ _ h1
   refine h4 _ ?_
   split at h3
   ·obtain ⟨m,h5,h6⟩:=jL [] _ B _ h3
    exact Ii (h6 _ (ZB h5))
   ·obtain ⟨h5,h6⟩:=eY _ _ _ h3
    refine h6 _ ?_
    obtain ⟨m,h7,h8⟩:=jL [] _ B _ h5
    exact Ii (h8 _ (ZB h7))
   ·obtain ⟨h5,h6⟩:=eY _ _ _ h3
    obtain ⟨m,h7,h8⟩:=jL [] _ B _ h5
    exact h7.elim
   ·exact h3.elim
  ·exact h1.elim
 unfold fA at h ⊢
 split at h
 ·rename_i hb; cases hb
 ·obtain ⟨i,h1,h2⟩:=aK L _ _ h
  refine h2 _ ?_
  split at h1
  ·exact app h1
  ·exact app h1
  ·exact h1.elim
 ·rename_i hb; cases hb
 ·rename_i hb; cases hb
 ·exact h.elim

theorem l9 {op : Op} {k : Prop} : noNil op k ↔ lU op = false /\ k:=by
 unfold noNil; cases lU op <;> simp

theorem Px {F : FT} {L : Lay} {op : Op} {e : Env} {K : AV -> Prop} (hn : Ew op = true) (h : uV F L op e K) (H : Heap) :
  gq F Ok L op e H (fun A H'=>K A /\ H' = H) (fun _=>False):=by
 by_cases hld : ∃ t x,op = .load t x
 ·obtain ⟨t,x,rfl⟩:=hld
  have h : bI e x fun A=>iU L t A [] fun R=>K R:=h
  show bI e x fun A=>iU L t A H fun R=>K R /\ H = H
  obtain ⟨A,h1,h2⟩:=aT _ _ _ h
  refine h2 _ ?_
  obtain ⟨R,h3,h4⟩:=iT _ _ _ _ _ h1
  have h5:=h4 (fun R'=>K R' /\ H = H) ⟨h3,rfl⟩
  unfold iU at h5 ⊢
  split at h5
  ·exact h5
  ·exact h5.elim
  ·exact h5.elim
 have hn : vX op = true:=by
  unfold Ew at hn
  rcases Bool.or_eq_true_iff.1 hn with h | h
  ·exact h
  ·exfalso
   cases op with
   | load t x=>exact hld ⟨t,x,rfl⟩
   | _=>simp [aZ] at h
 have gen : (∀ cl f,op = .call cl -> cl.callee ≠ .value f) -> (∀ t x y,op ≠ .makeSlice t x y) -> (∀ cl,op = .call cl -> cl.callee ≠ .builtin .append) -> gq F (fun _=>True) L op e [] (fun A _=>K A) (fun _=>False) -> gq F Ok L op e H (fun A H'=>K A /\ H' = H) (fun _=>False):=by
  intro hc hs hap h
  obtain ⟨U,hU⟩:=Ul (F:=F) (gU:=fun _=>True) (L:=L) (e:=e) hn hc hs hap (fun _=>False)
  rw [JA Ok (fun _=>True) hc]
  have h1:=(hU [] _).1 h
  refine (hU H _).2 ?_
  have : (fun A=>K A /\ H = H) = K:=by funext A; simp
  rw [this]; exact h1
 have Y1 : (∀ cl f,op = .call cl -> cl.callee ≠ .value f) -> (∀ t x y,op ≠ .makeSlice t x y) -> (∀ cl,op = .call cl -> cl.callee ≠ .builtin .append) -> (noNil op <| gq F (fun _=>True) L op e [] (fun A _=>K A) (fun _=>False)) -> gq F Ok L op e H (fun A H'=>K A /\ H' = H) (fun _=>False) :=
  fun hc hs hap h=>gen hc hs hap (l9.1 h).2
 cases op with
 | call cl =>
   cases hcl : cl.callee with
   | value f =>
     simp only [uV,hcl] at h
     simp only [gq,hcl]
     obtain ⟨A,h1,h2⟩:=aT e f _ h
     cases A with
     | fn g cap =>
       obtain ⟨As,h3,h4⟩:=jc e _ _ h1
       obtain ⟨Bs,h5,h6⟩:=zO As cap _ h3
       obtain ⟨Cs,R,hle,hb,hF,hK⟩:=h5
       exact h2 _ (h4 _ (h6 _ (.pure Cs R hle hb hF fun _=>⟨hK,rfl⟩)))
     | _=>exact h1.elim
   | builtin b =>
     by_cases hb : b = .append
     ·subst hb
      simp only [uV,hcl] at h
      simp only [gq,hcl]
      obtain ⟨As,h3,h4⟩:=jc e _ _ h
      exact h4 _ (Jv h3)
     ·refine gen (fun cl' f he=>by cases he; rw [hcl]; simp) (fun _ _ _ he=>by cases he) (fun cl' he=>by cases he; rw [hcl]; simpa using hb) ?_
      simp only [gq,hcl]
      cases b <;> first | exact absurd rfl hb | (simp only [uV,hcl] at h; exact h)
   | invoke r m=>simp [vX,hcl] at hn
 | makeSlice t x y =>
   simp only [uV] at h
   simp only [gq]
   obtain ⟨A,h1,h2⟩:=aT e x _ h
   refine h2 _ ?_
   obtain ⟨B,h3,h4⟩:=aT e y _ h1
   refine h4 _ ?_
   obtain ⟨i,h5,h6⟩:=aK L t _ h3
   refine h6 _ ?_
   split at h5
   ·obtain ⟨ei,⟨h7,h8,h9⟩,h10⟩:=aK L _ _ h5
    exact h10 _ ⟨h7,.pure ⟨h8,h9,rfl⟩⟩
   ·exact h5.elim
 | _=>exact Y1 (fun cl' f he=>by cases he) (fun _ _ _ he=>by cases he) (fun cl' he=>by cases he) h

theorem Gu {F : FT} {L : Lay} {op : Op} {e : Env} : dM (uV F L op e):=by
 have gen : dM fun K=>noNil op <| gq F (fun _=>True) L op e [] (fun A _=>K A) (fun _=>False):=by
  intro K h
  obtain ⟨hn,h⟩:=l9.1 h
  rcases Gv hn _ _ h with ⟨A,H',h1,h2⟩ | ⟨H',h1,_⟩
  ·exact ⟨A,h1,fun k' hk'=>l9.2 ⟨hn,h2 _ _ hk'⟩⟩
  ·exact h1.elim
 cases op with
 | call cl =>
   cases hcl : cl.callee with
   | value f =>
     intro K h
     simp only [uV,hcl] at h ⊢
     obtain ⟨A,h1,h2⟩:=aT e f _ h
     cases A with
     | fn g cap =>
       obtain ⟨As,h3,h4⟩:=jc e _ _ h1
       obtain ⟨Bs,h5,h6⟩:=zO As cap _ h3
       obtain ⟨Cs,R,hle,hb,hF,hK⟩:=h5
       exact ⟨R,hK,fun k' hk'=>h2 _ (h4 _ (h6 _ (.pure Cs R hle hb hF hk')))⟩
     | _=>exact h1.elim
   | builtin b =>
     intro K h
     by_cases hb : b = .append
     ·subst hb
      simp only [uV,hcl] at h ⊢
      obtain ⟨As,h3,h4⟩:=jc e _ _ h
      obtain ⟨A,H',h5,h6⟩:=kW L .append _ As [] _ h3
      exact ⟨A,h5.2,fun k' hk'=>h4 _ (h6 _ ⟨h5.1,hk'⟩)⟩
     ·have key : ∀ K : AV -> Prop,uV F L (.call cl) e K ↔ lJ e cl.args.toList fun As=>fA L b cl.argTypes.toList As [] fun A _=>K A:=by
       intro K
       cases b <;> first | exact absurd rfl hb | (simp only [uV,hcl])
      obtain ⟨As,h3,h4⟩:=jc e _ _ ((key K).1 h)
      obtain ⟨A,H',h5,h6⟩:=kW L b _ As [] _ h3
      exact ⟨A,h5,fun k' hk'=>(key k').2 (h4 _ (h6 _ hk'))⟩
   | invoke r m=>intro K h; simp only [uV,hcl] at h
 | makeSlice t x y =>
   refine (aT e x).bind fun A=>(aT e y).bind fun B=>(aK L t).bind fun i=>?_
   split
   ·refine (aK L _).bind fun ei=>?_
    rintro K ⟨h7,h8,h9⟩
    exact ⟨_,h9,fun k' hk'=>⟨h7,h8,hk'⟩⟩
   ·exact dM.no
 | _=>exact gen

end Go.AL

namespace Go.AL

structure Rec where
 o : Oper
 nb : Bool
 ran : Bool
 e : Env
 A : AV
 H : Heap
 H' : Heap

def cu (e e' : Env) : Prop:=∀ t A',dL e' t = some A' -> ∃ A,dL e t = some A /\ ∀ c v,EV c A v -> EV c A' v

theorem cu.refl (e : Env) : cu e e:=fun _ A h=>⟨A,h,fun _ _ h=>h⟩

def jT (ops : List Oper) (g : Option (Nat × Bool)) (e : Env) (b : Bool) : Prop :=
 match g with
 | none=>b = true
 | some (j,want)=>∃ oj d A,ops[j]? = some oj /\ oj.dst = some d /\ dL e d = some A /\ ∀ c v,EV c A v -> (∃ x,v = .bool x /\ b = (x == want)) \/ (v = undef /\ b = false)

def qP (dst : Option Nat) (A : AV) (e : Env) : Env:=match dst with | some d=>(d,A) :: e | none=>e

theorem jV {dst : Option Nat} {A : AV} {e : Env} {k : Env -> Prop} : pV dst A e k ↔ k (qP dst A e):=by
 cases dst <;> exact Iff.rfl

def Does (F : FT) (L : Lay) (r : Rec) : Prop :=
 (r.nb = true /\ r.H' = r.H /\ ∀ K : AV -> Prop,K r.A -> uV F L r.o.op r.e K) \/
 (r.nb = false /\ ∀ (k : AV -> Heap -> Prop) ks,k r.A r.H' -> gq F (fun _=>True) L r.o.op r.e r.H k ks) \/
 (r.nb = false /\ r.o.dst = none /\ ∀ k (ks : Heap -> Prop),ks r.H' -> gq F (fun _=>True) L r.o.op r.e r.H k ks)

def lQ (F : FT) (L : Lay) (ops : List Oper) : List Rec -> Env -> Heap -> Env -> Heap -> Prop
 | [],e,H,ef,Hf=>ef = e /\ Hf = H
 | r :: l,e,H,ef,Hf=>r.H = H /\ cu e r.e /\ jT ops r.o.guard e r.ran /\ (r.ran = true -> Does F L r) /\ (r.ran = false -> r.A = .dS [] /\ r.H' = H) /\
     lQ F L ops l (qP r.o.dst r.A r.e) r.H' ef Hf

theorem qE {c : Cx} {v : Value} (h : v = .bool true) : EV c .tt v:=by subst h; exact aS (dJ rfl rfl (by simp only [VR,Rd]))
theorem qF {c : Cx} {v : Value} (h : v = .bool false) : EV c .ff v:=by subst h; exact aS (dJ rfl rfl (by simp only [VR,Rd]))

theorem jR {e : Env} {d : Nat} {A A' : AV} (h : dL e d = some A) (hA : ∀ c v,EV c A v -> EV c A' v) : cu e ((d,A') :: e):=by
 intro t B hB
 simp only [dL] at hB
 cases hb : Nat.beq d t with
 | true =>
   rw [hb] at hB
   obtain rfl:=Nat.eq_of_beq_eq_true hb
   obtain rfl:=Option.some.inj hB
   exact ⟨A,h,hA⟩
 | false=>rw [hb] at hB; exact ⟨B,hB,fun _ _ h=>h⟩

theorem uO {ops : List Oper} {g : Option (Nat × Bool)} {e : Env} {yes no : Env -> Prop} (h : rC ops g e yes no) :
  ∃ e' b,cu e e' /\ jT ops g e b /\ (b = true -> yes e') /\ (b = false -> no e'):=by
 unfold rC at h
 split at h
 ·exact ⟨e,true,.refl e,rfl,fun _=>h,fun h=>by cases h⟩
 ·rename_i j b
  obtain ⟨oj,d,h1,h2,h3⟩:=BH h
  obtain ⟨A,h4,h5⟩:=fO.1 h3
  have say : ∀ (x : Bool),(∀ c v,EV c A v -> v = .bool x) -> jT ops (some (j,b)) e (x == b):=fun x hx=>⟨oj,d,A,h1,h2,h4,fun c v hv=>.inl ⟨x,hx c v hv,rfl⟩⟩
  split at h5
  ·exact ⟨e,true,.refl e,by simpa using say true fun c v hv=>rV hv,fun _=>h5,fun h=>by cases h⟩
  ·exact ⟨e,false,.refl e,by simpa using say true fun c v hv=>rV hv,(fun h=>by cases h),fun _=>h5⟩
  ·exact ⟨e,false,.refl e,by simpa using say false fun c v hv=>rW hv,(fun h=>by cases h),fun _=>h5⟩
  ·exact ⟨e,true,.refl e,by simpa using say false fun c v hv=>rW hv,fun _=>h5,fun h=>by cases h⟩
  ·rename_i x
   cases x with
   | true=>exact ⟨_,true,jR h4 fun c v hv=>qE (fQ hv),by simpa using say true fun c v hv=>fQ hv,fun _=>h5.1 rfl,fun h=>by cases h⟩
   | false=>exact ⟨_,false,jR h4 fun c v hv=>qF (fQ hv),by simpa using say false fun c v hv=>fQ hv,(fun h=>by cases h),fun _=>h5.2 rfl⟩
  ·rename_i x
   cases x with
   | true=>exact ⟨_,false,jR h4 fun c v hv=>qE (fQ hv),by simpa using say true fun c v hv=>fQ hv,(fun h=>by cases h),fun _=>h5.1 rfl⟩
   | false=>exact ⟨_,true,jR h4 fun c v hv=>qF (fQ hv),by simpa using say false fun c v hv=>fQ hv,fun _=>h5.2 rfl,fun h=>by cases h⟩
  ·rename_i p
   have dt : p -> ∀ c v,EV c (.dec p) v -> v = .bool true:=fun hp c v hv=>by
    obtain ⟨x,e1,e2⟩:=jP hv; rw [e2.2 hp] at e1; exact e1
   have df : ¬ p -> ∀ c v,EV c (.dec p) v -> v = .bool false:=fun hp c v hv=>by
    obtain ⟨x,e1,e2⟩:=jP hv
    cases x with
    | true=>exact absurd (e2.1 rfl) hp
    | false=>exact e1
   by_cases hp : p
   ·exact ⟨_,true,jR h4 fun c v hv=>qE (dt hp c v hv),by simpa using say true (dt hp),fun _=>h5.1 hp,fun h=>by cases h⟩
   ·exact ⟨_,false,jR h4 fun c v hv=>qF (df hp c v hv),by simpa using say false (df hp),(fun h=>by cases h),fun _=>h5.2 hp⟩
  ·rename_i p
   have dt : p -> ∀ c v,EV c (.dec p) v -> v = .bool true:=fun hp c v hv=>by
    obtain ⟨x,e1,e2⟩:=jP hv; rw [e2.2 hp] at e1; exact e1
   have df : ¬ p -> ∀ c v,EV c (.dec p) v -> v = .bool false:=fun hp c v hv=>by
    obtain ⟨x,e1,e2⟩:=jP hv
    cases x with
    | true=>exact absurd (e2.1 rfl) hp
    | false=>exact e1
   by_cases hp : p
   ·exact ⟨_,false,jR h4 fun c v hv=>qE (dt hp c v hv),by simpa using say true (dt hp),(fun h=>by cases h),fun _=>h5.1 hp⟩
   ·exact ⟨_,true,jR h4 fun c v hv=>qF (df hp c v hv),by simpa using say false (df hp),fun _=>h5.2 hp,fun h=>by cases h⟩
  ·exact ⟨e,false,.refl e,⟨oj,d,_,h1,h2,h4,fun c v hv=>.inr ⟨NW hv,rfl⟩⟩,(fun h=>by cases h),fun _=>h5⟩
  ·exact h5.elim

theorem mY {F : FT} {L : Lay} {ops : List Oper} {k : Env -> Heap -> Prop} : ∀ {l : List (Oper × Bool)} {e : Env} {H : Heap},oG F L ops l e H k ->
  ∃ rs ef Hf,rs.map (fun r=>(r.o,r.nb)) = l /\ lQ F L ops rs e H ef Hf /\ k ef Hf
 | [],e,H,h=>⟨[],e,H,rfl,⟨rfl,rfl⟩,h⟩
 | (o,nb) :: l,e,H,h=>by
   simp only [oG] at h
   obtain ⟨e',b,h1,h2,h3,h4⟩:=uO h
   cases b with
   | false =>
     obtain ⟨rs,ef,Hf,g1,g2,g3⟩:=mY (jV.1 (h4 rfl))
     exact ⟨⟨o,nb,false,e',.dS [],H,H⟩ :: rs,ef,Hf,by simp [g1],⟨rfl,h1,h2,(fun h=>by cases h),fun _=>⟨rfl,rfl⟩,g2⟩,g3⟩
   | true =>
     have h3:=h3 rfl
     cases nb with
     | true =>
       obtain ⟨A,h5,h6⟩:=Gu _ h3
       obtain ⟨rs,ef,Hf,g1,g2,g3⟩:=mY (jV.1 h5)
       exact ⟨⟨o,true,true,e',A,H,H⟩ :: rs,ef,Hf,by simp [g1],⟨rfl,h1,h2,(fun _=>.inl ⟨rfl,rfl,h6⟩),(fun h=>by cases h),g2⟩,g3⟩
     | false =>
       obtain ⟨hn,h3⟩:=l9.1 h3
       rcases Gv hn _ _ h3 with ⟨A,H',h5,h6⟩ | ⟨H',h5,h6⟩
       ·obtain ⟨rs,ef,Hf,g1,g2,g3⟩:=mY (jV.1 h5)
        exact ⟨⟨o,false,true,e',A,H,H'⟩ :: rs,ef,Hf,by simp [g1],⟨rfl,h1,h2,(fun _=>.inr (.inl ⟨rfl,h6⟩)),(fun h=>by cases h),g2⟩,g3⟩
       ·cases hd : o.dst with
        | some d=>simp only [hd] at h5
        | none =>
          simp only [hd] at h5
          obtain ⟨rs,ef,Hf,g1,g2,g3⟩:=mY h5
          refine ⟨⟨o,false,true,e',.und,H,H'⟩ :: rs,ef,Hf,by simp [g1],⟨rfl,h1,h2,(fun _=>.inr (.inr ⟨rfl,hd,h6⟩)),(fun h=>by cases h),?_⟩,g3⟩
          simpa [qP,hd] using g2

end Go.AL

namespace Go.AL

theorem cu.trans {a b c : Env} (h : cu a b) (g : cu b c) : cu a c:=by
 intro t A hA
 obtain ⟨B,h1,h2⟩:=g t A hA
 obtain ⟨C,h3,h4⟩:=h t B h1
 exact ⟨C,h3,fun c v hv=>h2 c v (h4 c v hv)⟩

theorem cu.push {a b : Env} (h : cu a b) (d : Option Nat) (A : AV) : cu (qP d A a) (qP d A b):=by
 cases d with
 | none=>exact h
 | some d =>
   intro t B hB
   simp only [qP,dL] at hB ⊢
   cases hb : Nat.beq d t with
   | true=>rw [hb] at hB; exact ⟨B,hB,fun _ _ h=>h⟩
   | false=>rw [hb] at hB; exact h t B hB

theorem jT.refine {ops : List Oper} {g : Option (Nat × Bool)} {e e' : Env} {b : Bool} (h : cu e e') (hg : jT ops g e' b) : jT ops g e b:=by
 unfold jT at hg ⊢
 split
 ·exact hg
 ·obtain ⟨oj,d,A,h1,h2,h3,h4⟩:=hg
  obtain ⟨B,h5,h6⟩:=h d A h3
  exact ⟨oj,d,B,h1,h2,h5,fun c v hv=>h4 c v (h6 c v hv)⟩

def E0 : List Rec -> Env -> Nat -> Env
 | [],e,_=>e
 | _ :: _,e,0=>e
 | r :: l,e,j + 1=>E0 l (qP r.o.dst r.A e) j

def Hs : List Rec -> Heap -> Nat -> Heap
 | [],H,_=>H
 | _ :: _,H,0=>H
 | r :: l,_,j + 1=>Hs l r.H' j

section
variable {F : FT} {L : Lay} {ops : List Oper}

theorem fF : ∀ {rs : List Rec} {e0 e : Env} {H : Heap} {ef : Env} {Hf : Heap} {j : Nat} {r : Rec},lQ F L ops rs e H ef Hf -> cu e0 e -> rs[j]? = some r ->
  r.H = Hs rs H j /\ cu (E0 rs e0 j) r.e /\ jT ops r.o.guard (E0 rs e0 j) r.ran /\ (r.ran = true -> Does F L r) /\ (r.ran = false -> r.A = .dS [] /\ r.H' = r.H)
 | [],_,_,_,_,_,_,_,_,_,h=>by simp at h
 | x :: l,e0,e,H,ef,Hf,0,r,hr,hre,h=>by
   simp at h; subst h
   obtain ⟨h1,h2,h3,h4,h5,_⟩:=hr
   exact ⟨h1,hre.trans h2,h3.refine hre,h4,fun h=>⟨(h5 h).1,(h5 h).2.trans h1.symm⟩⟩
 | x :: l,e0,e,H,ef,Hf,j + 1,r,hr,hre,h=>by
   obtain ⟨h1,h2,h3,h4,h5,h6⟩:=hr
   have:=fF (rs:=l) (j:=j) h6 ((hre.trans h2).push x.o.dst x.A) (by simpa using h)
   exact this

theorem Fe : ∀ {rs : List Rec} {e0 e : Env} {H : Heap} {ef : Env} {Hf : Heap},lQ F L ops rs e H ef Hf -> cu e0 e -> cu (E0 rs e0 rs.length) ef /\ Hf = Hs rs H rs.length
 | [],e0,e,H,ef,Hf,hr,hre=>by
   obtain ⟨rfl,rfl⟩:=hr
   exact ⟨hre,rfl⟩
 | x :: l,e0,e,H,ef,Hf,hr,hre=>by
   obtain ⟨h1,h2,h3,h4,h5,h6⟩:=hr
   have:=Fe (rs:=l) h6 ((hre.trans h2).push x.o.dst x.A)
   exact this

theorem qB : ∀ {rs : List Rec} {H : Heap} {j : Nat} {r : Rec},rs[j]? = some r -> Hs rs H (j + 1) = r.H'
 | [],_,_,_,h=>by simp at h
 | x :: l,H,0,r,h=>by
   simp at h; subst h
   cases l <;> rfl
 | x :: l,H,j + 1,r,h=>by
   simp only [Hs]
   exact qB (by simpa using h)

theorem Vo {rs : List Rec} {H : Heap} : Hs rs H 0 = H:=by cases rs <;> rfl

theorem L9 : ∀ {rs : List Rec} {e : Env} {j t : Nat} {A : AV},j <= rs.length -> dL (E0 rs e j) t = some A ->
  (∃ i r,i < j /\ rs[i]? = some r /\ r.o.dst = some t /\ r.A = A /\ ∀ i' r',i' < j -> rs[i']? = some r' -> r'.o.dst = some t -> i' <= i) \/
  ((∀ i r,i < j -> rs[i]? = some r -> r.o.dst ≠ some t) /\ dL e t = some A)
 | [],e,j,t,A,hj,h=>by
   simp at hj; subst hj
   exact .inr ⟨fun i r hi=>by omega,h⟩
 | x :: l,e,0,t,A,_,h=>.inr ⟨fun i r hi=>by omega,h⟩
 | x :: l,e,j + 1,t,A,hj,h=>by
   simp only [E0] at h
   rcases L9 (by simpa using hj) h with ⟨i,r,h1,h2,h3,h4,h5⟩ | ⟨h1,h2⟩
   ·refine .inl ⟨i + 1,r,by omega,by simpa using h2,h3,h4,fun i' r' hi' hr' hd'=>?_⟩
    cases i' with
    | zero=>omega
    | succ i'=>have:=h5 i' r' (by omega) (by simpa using hr') hd'; omega
   ·by_cases hx : x.o.dst = some t
    ·rw [hx] at h2
     simp only [qP,dL,Nat.beq_refl] at h2
     refine .inl ⟨0,x,by omega,rfl,hx,Option.some.inj h2,fun i' r' hi' hr' hd'=>?_⟩
     cases i' with
     | zero=>omega
     | succ i'=>exact absurd hd' (h1 i' r' (by omega) (by simpa using hr'))
    ·refine .inr ⟨fun i r hi hr=>?_,?_⟩
     ·cases i with
      | zero=>simp at hr; subst hr; exact hx
      | succ i=>exact h1 i r (by omega) (by simpa using hr)
     ·cases hd : x.o.dst with
      | none=>rw [hd] at h2; exact h2
      | some d =>
        rw [hd] at h2
        simp only [qP,dL] at h2
        cases hb : Nat.beq d t with
        | true=>exact absurd (by rw [hd,Nat.eq_of_beq_eq_true hb]) hx
        | false=>rw [hb] at h2; exact h2
end

end Go.AL

namespace Go.AL

theorem tH {F : FT} {L : Lay} {op : Op} {e : Env} {H : Heap} {k : AV -> Heap -> Prop} {ks : Heap -> Prop} (h : gq F (fun _=>True) L op e H k ks) : gq F Ok L op e H k ks:=by
 by_cases hc : ∀ cl f,op = .call cl -> cl.callee ≠ .value f
 ·exact (JA _ _ hc).1 h
 ·have hc' : ∃ cl f,op = .call cl /\ cl.callee = .value f:=by
   apply Classical.byContradiction
   intro hn
   exact hc fun cl f h1 h2=>hn ⟨cl,f,h1,h2⟩
  obtain ⟨cl,f,rfl,hcl⟩:=hc'
  simp only [gq,hcl] at h ⊢
  obtain ⟨A,h1,h2⟩:=aT e f _ h
  cases A with
  | fn g cap =>
    obtain ⟨As,h3,h4⟩:=jc e _ _ h1
    obtain ⟨Bs,h5,h6⟩:=zO As cap _ h3
    cases h5 with
    | gen R H' hF hK=>exact h2 _ (h4 _ (h6 _ (.gen R H' hF fun _=>hK trivial)))
    | pure Cs R hle hb hF hK=>exact h2 _ (h4 _ (h6 _ (.pure Cs R hle hb hF fun _=>hK trivial)))
  | _=>exact h1.elim

structure iq (X : Nat -> Nat -> Prop) (ops : List Oper) (rs : List Rec) : Prop where
 len : rs.length = ops.length
 get : ∀ (j : Nat) (r : Rec),rs[j]? = some r -> ops[j]? = some r.o
 YK : ∀ (j : Nat) (r : Rec),rs[j]? = some r -> r.nb = true -> Ew r.o.op = true
 back : ∀ (j : Nat) (o : Oper),ops[j]? = some o -> ∀ e ∈ o.after.toList,Region.binds .any e = true -> e.on < j
 first : ∀ (i j : Nat) (ri rj : Rec),i < j -> rs[i]? = some ri -> rs[j]? = some rj -> kK ops (ri.o,ri.nb) (rj.o,rj.nb) = true -> ((rQ ops []).getD j 0).testBit i = true \/ X i j
 Yv : ∀ (i j : Nat) (ri rj : Rec),X i j -> rs[i]? = some ri -> rs[j]? = some rj -> (aZ ri.o.op = true /\ ri.nb = false \/ (ri.nb = false /\ aZ ri.o.op = false) /\ aZ rj.o.op = true /\ rj.nb = false /\ (ops.all fun o=>!jv o.op) = true) /\ True /\ (∀ t,ri.o.dst = some t -> t ∉ bZ ops rj.o) /\ ∀ t,rj.o.dst = some t -> t ∉ bZ ops ri.o
 XD : ∀ (j : Nat) (r : Rec),rs[j]? = some r -> r.nb = false -> jv r.o.op = true -> r.o.guard = none /\ ∃ d,r.o.dst = some d
 late : ∀ (i j k : Nat) (ri rj rk : Rec) (d : Nat),i < j -> j < k -> rs[i]? = some ri -> rs[j]? = some rj -> rs[k]? = some rk -> ri.nb = false -> aZ ri.o.op = false -> rj.nb = false -> jv rj.o.op = true -> rj.o.dst = some d ->
  d ∈ bZ ops rk.o -> ((rQ ops []).getD j 0).testBit i = true \/ ((rQ ops []).getD k 0).testBit i = true

theorem bG {α : Type} {l : List α} {p : α × Nat -> Bool} (h : l.zipIdx.all p = true) {j : Nat} {x : α} (hx : l[j]? = some x) : p (x,j) = true:=by
 rw [List.all_eq_true] at h
 apply h
 rw [List.mem_zipIdx_iff_getElem?]
 simpa using hx

theorem Rj {ops : List Oper} {mask : List Bool} {rs : List Rec} (h : ER ops mask = true) (hm : rs.map (fun r=>(r.o,r.nb)) = ops.zip mask) : iq (fun _ _=>False) ops rs:=by
 unfold ER at h
 simp only [Bool.and_eq_true] at h
 obtain ⟨⟨⟨⟨h1,h2⟩,h3⟩,h5⟩,h4⟩:=h
 have hlen:=Nat.eq_of_beq_eq_true h1
 have hget : ∀ (j : Nat) (r : Rec),rs[j]? = some r -> (ops.zip mask)[j]? = some (r.o,r.nb):=by
  intro j r hr
  rw [<- hm,List.getElem?_map,hr]; rfl
 refine ⟨?_,fun j r hr=>?_,fun j r hr hn=>?_,fun j o ho e he hb=>?_,fun i j ri rj hij hi hj hc=>.inl ?_,fun _ _ _ _ h=>h.elim,fun j r hr hn hw=>?_,fun i j k ri rj rk d hij hjk hi hj hk hn hl hn' hw hd hm=>?_⟩
 ·have:=congrArg List.length hm
  simp at this; omega
 ·have:=hget j r hr
  rw [List.getElem?_zip_eq_some] at this
  exact this.1
 ·have:=List.all_eq_true.1 h2 _ (List.mem_of_getElem? (hget j r hr))
  simpa [hn] using this
 ·have:=bG h3 ho
  have:=List.all_eq_true.1 this e he
  rw [hb] at this
  simpa using this
 ·have:=bG h4 (hget j rj hj)
  have:=bG this (hget i ri hi)
  have hlt : Nat.blt i j = true:=by simpa using hij
  simp only [hlt,hc,Bool.not_true,Bool.false_or] at this
  exact this
 ·have:=bG h5 (hget j r hr)
  simp only [hn,hw,Bool.not_false,Bool.and_self,Bool.not_true,Bool.false_or,Bool.and_eq_true] at this
  obtain ⟨g1,g2⟩:=this
  refine ⟨?_,?_⟩
  ·cases hg : r.o.guard with
   | none=>rfl
   | some g=>rw [hg] at g1; cases g1
  ·cases hd : r.o.dst with
   | none=>rw [hd] at g2; cases g2
   | some d=>exact ⟨d,rfl⟩
 ·have:=bG h5 (hget j rj hj)
  simp only [hn',hw,Bool.not_false,Bool.and_self,Bool.not_true,Bool.false_or,Bool.and_eq_true,hd] at this
  have:=bG this.2 (hget i ri hi)
  have hlt : Nat.blt i j = true:=by simpa using hij
  have hlt2 : Nat.blt j k = true:=by simpa using hjk
  simp only [hlt,hn,hl,Bool.not_true,Bool.false_or,Bool.or_eq_true] at this
  rcases this with this | this
  ·exact .inl this
  ·have:=bG this (hget k rk hk)
   have hc : (bZ ops rk.o).contains d = true:=by simpa using hm
   simp only [hlt2,hc,Bool.not_true,Bool.false_or] at this
   exact .inr this

section
variable {X : Nat -> Nat -> Prop} {ops : List Oper} {rs : List Rec} {listed : Array Bool}

def aB (listed : Array Bool) (j : Nat) : Prop:=listed.getD j false = true

theorem Bf {j i : Nat} (hj : j < listed.size) : aB (listed.setIfInBounds j true) i ↔ i = j \/ aB listed i:=by
 unfold aB
 by_cases hij : i = j
 ·subst hij
  simp [hj]
 ·simp [hij,Array.getElem?_setIfInBounds_ne (Ne.symm hij)]

theorem jA (hd : iq X ops rs) (hc : Closed ops (aB listed)) {i j : Nat} {ri rj : Rec} (hij : i < j) (hi : rs[i]? = some ri) (hj : rs[j]? = some rj)
  (hcl : kK ops (ri.o,ri.nb) (rj.o,rj.nb) = true) (hx : ¬ X i j) (hje : ∀ e ∈ rj.o.after.toList,Region.binds .any e = true -> aB listed e.on) : aB listed i :=
 GZ hc j rj.o (hd.get j rj hj) hje ((hd.first i j ri rj hij hi hj hcl).resolve_right hx)

theorem jG (hd : iq X ops rs) (hc : Closed ops (aB listed)) {i j : Nat} {ri rj : Rec} (hij : i < j) (hi : rs[i]? = some ri) (hj : rs[j]? = some rj)
  (hcl : kK ops (ri.o,ri.nb) (rj.o,rj.nb) = true) (hx : ¬ X i j) (hl : aB listed j) : aB listed i :=
 jA hd hc hij hi hj hcl hx (hc j rj.o hl (hd.get j rj hj))

def eff (r : Rec) : Bool:=!r.nb && !aZ r.o.op

theorem iq.YI (hd : iq X ops rs) {i j : Nat} {ri rj : Rec} (hi : rs[i]? = some ri) (hj : rs[j]? = some rj) {t : Nat} (h : ri.o.dst = some t) (ht : t ∈ bZ ops rj.o) : ¬ X i j :=
 fun x=>(hd.Yv i j ri rj x hi hj).2.2.1 t h ht
theorem iq.ZK (hd : iq X ops rs) {i j : Nat} {ri rj : Rec} (hi : rs[i]? = some ri) (hj : rs[j]? = some rj) {t : Nat} (h : rj.o.dst = some t) (ht : t ∈ bZ ops ri.o) : ¬ X i j :=
 fun x=>(hd.Yv i j ri rj x hi hj).2.2.2 t h ht
theorem iq.YH (hd : iq X ops rs) {i j : Nat} {ri rj : Rec} (hi : rs[i]? = some ri) (hj : rs[j]? = some rj) (h : eff ri = true) (h' : eff rj = true) : ¬ X i j:=by
 intro x
 rcases (hd.Yv i j ri rj x hi hj).1 with g | g
 ·simp [eff,g.1] at h
 ·simp [eff,g.2.1] at h'
theorem iq.Zj (hd : iq X ops rs) {i j : Nat} {ri rj : Rec} (hi : rs[i]? = some ri) (hj : rs[j]? = some rj) (h : eff ri = true) (x : X i j) : aZ rj.o.op = true /\ (ops.all fun o=>!jv o.op) = true:=by
 rcases (hd.Yv i j ri rj x hi hj).1 with g | g
 ·simp [eff,g.1] at h
 ·exact ⟨g.2.1,g.2.2.2⟩

theorem mg {x y : Rec} (hx : eff x = true) (hy : y.nb = false) : (jv y.o.op = false -> (aZ y.o.op = false \/ zF x.o.op = false \/ (ops.all fun o=>!jv o.op) = false) -> kK ops (x.o,x.nb) (y.o,y.nb) = true) /\ (jv x.o.op = false -> (aZ y.o.op = false \/ uX x.o.op = false) -> kK ops (y.o,y.nb) (x.o,x.nb) = true):=by
 simp only [eff,Bool.and_eq_true,Bool.not_eq_true'] at hx
 refine ⟨fun h hn=>?_,fun hn h=>?_⟩
 ·unfold kK
  rcases hn with hn | hn | hn <;> simp only [hx.1,hx.2,hy,h,hn,Bool.not_false,Bool.and_true,Bool.false_and,Bool.and_false,Bool.true_or]
 ·have ha : zF y.o.op = true -> aZ x.o.op = false:=fun _=>hx.2
  rcases h with h | h <;> simp [kK,hx.1,hx.2,hy,h,hn]

theorem tq {x y : Rec} {t : Nat} (hx : x.o.dst = some t) (hy : t ∈ bZ ops y.o) : kK ops (x.o,x.nb) (y.o,y.nb) = true /\ kK ops (y.o,y.nb) (x.o,x.nb) = true:=by
 constructor <;> simp [kK,hx,hy]

end

structure Free (c : Cx) (H : Heap) (b : Nat) : Prop where
 lt : b < c.w.heap.size
 own : ∀ x ∈ H,aC c x ≠ some b
 im : ∀ o,¬ c.Im b o

theorem Free.tr {c d : Cx} {H H' : Heap} {b : Nat} (h : Free c H b) (t : Tr c H d H') : Free d H' b /\ d.w.heap[b]? = c.w.heap[b]?:=by
 have h1:=h.lt
 refine ⟨⟨by have:=t.size; omega,fun y hy hb=>?_,fun o ho=>?_⟩,t.fr b h1 h.own⟩
 ·rcases t.own y hy b hb with h2 | ⟨x,h2,h3⟩
  ·omega
  ·exact h.own x h2 h3
 ·rcases t.TW b o ho with h2 | h2 | ⟨x,h2,h3⟩
  ·exact h.im o h2
  ·omega
  ·exact h.own x h2 h3

inductive Xr (b : Nat) : Obj -> Value -> HO -> (Nat -> AV) -> Prop
 | box {cs : List Value} {ty : Nat} {z : AV} (h : ∀ c : Cx,VR c z cs) : Xr b (.cells cs.toArray ty) (.pointer (some ⟨b,0,none⟩)) (.box z) (fun j=>.ptr j [] 0)
 | map {sh : AV} : Xr b (.map #[] 0) (.map (some b)) (.iD sh []) .mp

def Cx.adopt (c : Cx) (H : Heap) (b : Nat) (z : HO) : Cx:={ c with ρ:=fun k=>if k = c.nx then b else c.ρ k,nx:=c.nx + 1,tp:=dh ((nextId H,z) :: H) }

theorem Tr.adopt {c0 c : Cx} {H0 H : Heap} (tr : Tr c0 H0 c H) {b : Nat} (hf : Free c H b) (h0 : c0.w.heap.size <= b) {o : Obj} {v : Value} {z : HO} {f : Nat -> AV} (hh : c.w.heap[b]? = some o) (hz : Xr b o v z f) :
  Tr c0 H0 (c.adopt H b z) ((nextId H,z) :: H) /\ c.Le (c.adopt H b z) /\ EV (c.adopt H b z) (f (nextId H)) v /\ ∀ b',b' ≠ b -> Free c H b' -> Free (c.adopt H b z) ((nextId H,z) :: H) b':=by
 have hr:=tr.hr
 have hlt : ∀ x ∈ H,x.1 < c.nx:=fun x hx=>by rw [hr.nx]; exact bf hr.ids x hx
 have le : c.Le (c.adopt H b z):=by
  refine ⟨fun b x h=>⟨h,rfl⟩,Nat.le_succ _,fun k hk=>?_,fun k n hk hn=>?_⟩
  ·simp only [Cx.adopt]; rw [if_neg (by omega)]
  ·refine .inl ⟨?_,rfl⟩
   have : nextId H ≠ k:=by rw [<- hr.nx]; omega
   simp only [Cx.adopt] at hn
   rw [jq this] at hn
   rw [hr.tp]; exact hn
 have hbk : ∀ x ∈ H,aC (c.adopt H b z) x = aC c x:=fun x hx=>jk (le.ρ _ (hlt x hx)) rfl
 have hρ : (c.adopt H b z).ρ (nextId H) = b:=by simp only [Cx.adopt]; rw [if_pos hr.nx.symm]
 have hnew : aC (c.adopt H b z) (nextId H,z) = some b:=by
  have : aC (c.adopt H b z) (nextId H,z) = some ((c.adopt H b z).ρ (nextId H)):=by cases hz <;> rfl
  rw [this,hρ]
 refine ⟨⟨⟨?_,rfl,?_,?_,?_,?_⟩,tr.le.trans le,tr.os,tr.tape,tr.output,tr.size,tr.fr,?_,tr.TW⟩,le,?_,?_⟩
 ·simp only [Cx.adopt,nextId,hr.nx]
 ·exact ⟨fun x hx=>bf hr.ids x hx,hr.ids⟩
 ·exact hr.im
 ·intro x hx
  rcases List.mem_cons.1 hx with rfl | hx
  ·cases hz with
   | @box cs ty z hz =>
     refine ⟨cs,ty,?_,hz _,?_⟩
     ·rw [hρ]; exact hh
     ·rw [hρ]; exact hf.im
   | map =>
     refine ⟨#[],0,?_,rfl,trivial,by simp,by simp⟩
     rw [hρ]; exact hh
  ·exact lF le (hlt x hx) rfl (fun b hb=>⟨rfl,fun y hy=>hy⟩) (hr.ok x hx)
 ·rw [List.pairwise_cons]
  constructor
  ·intro y hy b' hb hb'
   rw [hnew] at hb
   obtain rfl:=Option.some.inj hb
   rw [hbk y hy] at hb'
   exact hf.own y hy hb'
  ·exact jr hr.apart fun x hx y hy h b hb=>by rw [hbk y hy]; rw [hbk x hx] at hb; exact h b hb
 ·intro y hy b' hb
  rcases List.mem_cons.1 hy with rfl | hy
  ·rw [hnew] at hb
   obtain rfl:=Option.some.inj hb
   exact .inl h0
  ·rw [hbk y hy] at hb; exact tr.own y hy b' hb
 ·have hlt' : nextId H < (c.adopt H b z).nx:=by simp only [Cx.adopt,hr.nx]; omega
  cases hz with
  | box hz =>
    have:=oZ (c:=c.adopt H b _) (i:=nextId H) (off:=0) (p:=[]) hlt'
    rw [hρ] at this
    exact aS this
  | map =>
    refine aS (dJ rfl rfl ?_)
    simp only [VR]
    exact ⟨hlt',by rw [hρ]⟩
 ·intro b' hne h
  refine ⟨h.lt,fun y hy hb=>?_,h.im⟩
  rcases List.mem_cons.1 hy with rfl | hy
  ·rw [hnew] at hb
   exact hne (Option.some.inj hb).symm
  ·rw [hbk y hy] at hb; exact h.own y hy hb

structure Yg (c0 : Cx) (a : Act) (c : Cx) (H : Heap) (r : Rec) (b : Nat) : Prop where
 XE : jv r.o.op = true
 free : Free c H b
 low : c0.w.heap.size <= b
 cells : ∃ o v z f,c.w.heap[b]? = some o /\ Xr b o v z f /\ r.H' = (nextId r.H,z) :: r.H /\ r.A = f (nextId r.H) /\ ∀ d,r.o.dst = some d -> a.tmps.getD d undef = v

structure o9 (ops : List Oper) (rs : List Rec) (c0 : Cx) (H0 : Heap) (e : Env) (a0 : Act) (n : Nat) (listed : Array Bool) (m : Nat) (a : Act) (c : Cx) (pd : Nat -> Nat) : Prop where
 size : listed.size = ops.length
 closed : Closed ops (aB listed)
 Yo : m <= rs.length
 below : ∀ (j : Nat) (r : Rec),j < m -> rs[j]? = some r -> eff r = true -> aB listed j
 above : ∀ (j : Nat) (r : Rec),m <= j -> rs[j]? = some r -> eff r = true -> aB listed j -> Yg c0 a c (Hs rs H0 m) r (pd j)
 inj : ∀ (i j : Nat) (ri rj : Rec),m <= i -> m <= j -> rs[i]? = some ri -> rs[j]? = some rj -> eff ri = true -> eff rj = true -> aB listed i -> aB listed j -> pd i = pd j -> i = j
 tr : Tr c0 H0 c (Hs rs H0 m)
 old : ∀ (t : Nat) (A : AV),(∀ (j : Nat) (r : Rec),aB listed j -> rs[j]? = some r -> r.o.dst ≠ some t) -> dL e t = some A -> EV c A (a.tmps.getD t undef)
 new : ∀ (t j : Nat) (r : Rec),aB listed j -> rs[j]? = some r -> r.o.dst = some t -> (∀ (i : Nat) (ri : Rec),aB listed i -> rs[i]? = some ri -> ri.o.dst = some t -> i <= j) -> (eff r = true -> j < m) -> EV c r.A (a.tmps.getD t undef)
 defers : a.defers = []
 Me : a.tmps.size = n
 fr : Fr (dV ops) a0 a

def TN (rs : List Rec) (listed : Array Bool) (m : Nat) : Prop :=
 ∀ (j : Nat) (r : Rec),m <= j -> rs[j]? = some r -> eff r = true -> aB listed j -> ∃ (x : Nat) (rx : Rec),m <= x /\ x < j /\ rs[x]? = some rx /\ eff rx = true /\ ¬ aB listed x

end Go.AL

namespace Go.AL

def sub (e : Env) : List Operand -> Env
 | []=>[]
 | .tmp t :: l=>match dL e t with | some A=>(t,A) :: sub e l | none=>sub e l
 | .const _ :: l=>sub e l
 | .func _ :: l=>sub e l
 | .global _ :: l=>sub e l

theorem pJ {e : Env} : ∀ {l : List Operand} {t : Nat} {A : AV},dL (sub e l) t = some A -> dL e t = some A /\ Operand.tmp t ∈ l
 | [],_,_,h=>by simp [sub,dL] at h
 | .tmp s :: l,t,A,h=>by
   simp only [sub] at h
   cases hs : dL e s with
   | none=>rw [hs] at h; have:=pJ h; exact ⟨this.1,by simp [this.2]⟩
   | some B =>
     rw [hs] at h
     simp only [dL] at h
     cases hb : Nat.beq s t with
     | true =>
       rw [hb] at h
       obtain rfl:=Nat.eq_of_beq_eq_true hb
       obtain rfl:=Option.some.inj h
       exact ⟨hs,by simp⟩
     | false=>rw [hb] at h; have:=pJ h; exact ⟨this.1,by simp [this.2]⟩
 | .const _ :: l,t,A,h=>by have:=pJ (l:=l) h; exact ⟨this.1,by simp [this.2]⟩
 | .func _ :: l,t,A,h=>by have:=pJ (l:=l) h; exact ⟨this.1,by simp [this.2]⟩
 | .global _ :: l,t,A,h=>by have:=pJ (l:=l) h; exact ⟨this.1,by simp [this.2]⟩

theorem sF {e : Env} {A : AV} {t : Nat} (he : dL e t = some A) : ∀ {l : List Operand},Operand.tmp t ∈ l -> dL (sub e l) t = some A
 | [],h=>by simp at h
 | .tmp s :: l,h=>by
   simp only [sub]
   cases hs : dL e s with
   | none =>
     have : t ≠ s:=fun e'=>by subst e'; rw [he] at hs; cases hs
     exact sF he (l:=l) (by simpa [this] using h)
   | some B =>
     simp only [dL]
     cases hb : Nat.beq s t with
     | true =>
       obtain rfl:=Nat.eq_of_beq_eq_true hb
       rw [hs] at he; exact he
     | false =>
       have : t ≠ s:=fun e'=>eG hb e'.symm
       exact sF he (l:=l) (by simpa [this] using h)
 | .const _ :: l,h=>sF he (l:=l) (by simpa using h)
 | .func _ :: l,h=>sF he (l:=l) (by simpa using h)
 | .global _ :: l,h=>sF he (l:=l) (by simpa using h)

theorem Qa {e : Env} {l : List Operand} : qw l (sub e l) e:=by
 intro t ht
 cases he : dL e t with
 | some A=>exact sF he ht
 | none =>
   cases hs : dL (sub e l) t with
   | none=>rfl
   | some B=>rw [(pJ hs).1] at he; cases he

theorem mP {t : Nat} : ∀ {l : List Operand},Operand.tmp t ∈ l -> t ∈ AO l
 | [],h=>by simp at h
 | .tmp s :: l,h=>by
   simp only [AO,List.mem_cons]
   rcases List.mem_cons.1 h with h | h
   ·exact .inl (by cases h; rfl)
   ·exact .inr (mP h)
 | .const _ :: l,h=>mP (l:=l) (by simpa using h)
 | .func _ :: l,h=>mP (l:=l) (by simpa using h)
 | .global _ :: l,h=>mP (l:=l) (by simpa using h)

theorem kQ {d : Nat} : ∀ {l : List Oper} {o : Oper},o ∈ l -> o.dst = some d -> d ∈ dV l
 | [],_,h,_=>by simp at h
 | x :: l,o,h,hd=>by
   simp only [dV]
   rcases List.mem_cons.1 h with h | h
   ·subst h; rw [hd]; simp
   ·cases x.dst with
    | none=>exact kQ h hd
    | some d'=>exact List.mem_cons_of_mem _ (kQ h hd)

section
variable {F : FT} {L : Lay} {ops : List Oper} {rs : List Rec}

theorem Ae {e : Env} {H : Heap} {ef : Env} {Hf : Heap} (hr : lQ F L ops rs e H ef Hf) {p : Nat} : ∀ (q : Nat),p <= q -> q <= rs.length ->
  (∀ j r,p <= j -> j < q -> rs[j]? = some r -> r.H' = r.H) -> Hs rs H p = Hs rs H q
 | 0,hpq,_,_=>by obtain rfl : p = 0:=by omega
                 rfl
 | q + 1,hpq,hq,h=>by
   by_cases hp : p = q + 1
   ·rw [hp]
   ·have hlt : q < rs.length:=by omega
    have hr':=fF hr (cu.refl e) (List.getElem?_eq_getElem hlt)
    rw [qB (List.getElem?_eq_getElem hlt),h q _ (by omega) (by omega) (List.getElem?_eq_getElem hlt),hr'.1]
    exact Ae hr q (by omega) (by omega) fun j r h1 h2 h3=>h j r h1 (by omega) h3

theorem jw {e : Env} {H : Heap} {ef : Env} {Hf : Heap} (hr : lQ F L ops rs e H ef Hf) {j : Nat} {r : Rec} (hj : rs[j]? = some r) (he : eff r = false) : r.H' = r.H:=by
 have hr':=fF hr (cu.refl e) hj
 cases oP : r.ran with
 | false=>exact (hr'.2.2.2.2 oP).2
 | true =>
   rcases hr'.2.2.2.1 oP with ⟨_,h,_⟩ | ⟨hn,h⟩ | ⟨hn,_,h⟩
   ·exact h
   ·have hl : aZ r.o.op = true:=by simpa [eff,hn] using he
    cases ho : r.o.op with
    | load t x =>
      rw [ho] at h
      have:=h (fun A H'=>A = r.A /\ H' = r.H') (fun _=>False) ⟨rfl,rfl⟩
      simp only [gq] at this
      obtain ⟨A,h1,_⟩:=aT _ _ _ this
      obtain ⟨R,h2,_⟩:=iT _ _ _ _ _ h1
      exact h2.2.symm
    | _=>simp [ho,aZ] at hl
   ·have hl : aZ r.o.op = true:=by simpa [eff,hn] using he
    cases ho : r.o.op with
    | load t x =>
      rw [ho] at h
      have:=h (fun _ _=>False) (fun H'=>H' = r.H') rfl
      simp only [gq] at this
      obtain ⟨A,h1,_⟩:=aT _ _ _ this
      obtain ⟨R,h2,_⟩:=iT _ _ _ _ _ h1
      exact h2.elim
    | _=>simp [ho,aZ] at hl

end

section
variable {F : FT} {L : Lay} {ops : List Oper} {rs : List Rec}

def SG : HO -> Bool
 | .box _=>true
 | .arr ..=>true
 | _=>false

def Keep (H H' : Heap) : Prop:=∀ y ∈ H,SG y.2 = true -> y ∈ H'

theorem Keep.refl (H : Heap) : Keep H H:=fun _ h _=>h
theorem Keep.cons (x : Nat × HO) (H : Heap) : Keep H (x :: H):=fun _ h _=>List.mem_cons_of_mem _ h

theorem Keep.set {o' : HO} {j : Nat} {o : HO} (hb : SG o = false) : ∀ {H : Heap},hget H j = some o -> Keep H (hset H j o')
 | [],h=>by simp [hget] at h
 | (i,p) :: H,h=>by
   simp only [hget] at h
   simp only [hset]
   intro y hy hby
   cases hbq : Nat.beq i j with
   | true =>
     rw [hbq] at h
     obtain rfl:=Option.some.inj h
     rcases List.mem_cons.1 hy with rfl | hy
     ·rw [hb] at hby; cases hby
     ·exact List.mem_cons_of_mem _ hy
   | false =>
     rw [hbq] at h
     rcases List.mem_cons.1 hy with rfl | hy
     ·exact List.mem_cons_self
     ·exact List.mem_cons_of_mem _ (Keep.set hb h y hy hby)

theorem EZ {sz bytes : Nat} {l m : List AV} {H X : Heap} (h : y8 sz bytes l m H fun _ H'=>H' = X) : Keep H X:=by
 cases h with
 | tok _ _ next=>rw [<- dO.1 next]; exact .cons _ _
 | pure _ _ next=>rw [<- next]; exact .refl _

theorem yS {t : Nat} {A B : AV} {H X : Heap} (h : je L t A B H fun _ H'=>H' = X) : Keep H X:=by
 unfold je at h
 obtain ⟨i,h,_⟩:=aK _ _ _ h
 split at h
 ·obtain ⟨ei,h,_⟩:=aK _ _ _ h
  split at h
  ·obtain ⟨m,h,_⟩:=jL _ _ _ _ h
   exact EZ h
  ·obtain ⟨_,h⟩:=aX.1 h
   obtain ⟨m,h,_⟩:=jL _ _ _ _ h
   exact EZ h
  ·obtain ⟨_,h⟩:=aX.1 h
   obtain ⟨m,h,_⟩:=jL _ _ _ _ h
   obtain ⟨o,h1,h⟩:=dw.1 h
   split at h
   ·obtain ⟨_,_,h⟩:=aX.1 h
    have h:=(fK.1 h.next).2
    rw [<- h]
    exact Keep.set rfl h1
   ·exact h.elim
  ·exact h.elim
 ·exact h.elim

theorem GX {ts : List Nat} {As : List AV} {H X : Heap} (h : fA L .append ts As H fun _ H'=>H' = X) : Keep H X:=by
 unfold fA at h
 split at h
 all_goals first | (rename_i h0; cases h0; done) | skip
 all_goals first | exact h.elim | skip
 all_goals
  obtain ⟨i,h,_⟩:=aK _ _ _ h
  split at h
  ·exact yS h
  ·exact yS h
  ·exact h.elim

theorem Keep.VY {x : Nat × HO} (hb : SG x.2 = false) (H : Heap) : Keep (x :: H) H:=fun y h hy=>by
 rcases List.mem_cons.1 h with rfl | h
 ·rw [hb] at hy; cases hy
 ·exact h

theorem Keep.unset {o' : HO} {j : Nat} (hb : SG o' = false) : ∀ {H : Heap},Keep (hset H j o') H
 | []=>.refl _
 | (i,p) :: H=>by
   simp only [hset]
   intro y hy hby
   cases hbq : Nat.beq i j with
   | true =>
     rw [hbq] at hy
     rcases List.mem_cons.1 hy with rfl | hy
     ·rw [hb] at hby; cases hby
     ·exact List.mem_cons_of_mem _ hy
   | false =>
     rw [hbq] at hy
     rcases List.mem_cons.1 hy with rfl | hy
     ·exact List.mem_cons_self
     ·exact List.mem_cons_of_mem _ (Keep.unset hb y hy hby)

theorem E5 {sz bytes : Nat} {l m : List AV} {H X : Heap} (h : y8 sz bytes l m H fun _ H'=>H' = X) : Keep X H:=by
 cases h with
 | tok _ _ next=>rw [<- dO.1 next]; exact .VY rfl _
 | pure _ _ next=>rw [<- next]; exact .refl _

theorem yT {t : Nat} {A B : AV} {H X : Heap} (h : je L t A B H fun _ H'=>H' = X) : Keep X H:=by
 unfold je at h
 obtain ⟨i,h,_⟩:=aK _ _ _ h
 split at h
 ·obtain ⟨ei,h,_⟩:=aK _ _ _ h
  split at h
  ·obtain ⟨m,h,_⟩:=jL _ _ _ _ h
   exact E5 h
  ·obtain ⟨_,h⟩:=aX.1 h
   obtain ⟨m,h,_⟩:=jL _ _ _ _ h
   exact E5 h
  ·obtain ⟨_,h⟩:=aX.1 h
   obtain ⟨m,h,_⟩:=jL _ _ _ _ h
   obtain ⟨o,h1,h⟩:=dw.1 h
   split at h
   ·obtain ⟨_,_,h⟩:=aX.1 h
    have h:=(fK.1 h.next).2
    rw [<- h]
    exact Keep.unset rfl
   ·exact h.elim
  ·exact h.elim
 ·exact h.elim

theorem GY {ts : List Nat} {As : List AV} {H X : Heap} (h : fA L .append ts As H fun _ H'=>H' = X) : Keep X H:=by
 unfold fA at h
 split at h
 all_goals first | (rename_i h0; cases h0; done) | skip
 all_goals first | exact h.elim | skip
 all_goals
  obtain ⟨i,h,_⟩:=aK _ _ _ h
  split at h
  ·exact yT h
  ·exact yT h
  ·exact h.elim

theorem Jy {e : Env} {H : Heap} {ef : Env} {Hf : Heap} (hr : lQ F L ops rs e H ef Hf) {j : Nat} {r : Rec} (hj : rs[j]? = some r) (ha : zF r.o.op = true) : Keep r.H' r.H:=by
 have hr':=fF hr (cu.refl e) hj
 cases oP : r.ran with
 | false=>rw [(hr'.2.2.2.2 oP).2]; exact .refl _
 | true =>
   cases ho : r.o.op with
   | call c =>
     have hc : c.callee = .builtin .append:=by
      rw [ho] at ha
      simp only [zF] at ha
      split at ha
      ·assumption
      ·cases ha
     rcases hr'.2.2.2.1 oP with ⟨_,h,_⟩ | ⟨hn,h⟩ | ⟨hn,_,h⟩
     ·rw [h]; exact .refl _
     ·rw [ho] at h
      have:=h (fun _ H'=>H' = r.H') (fun _=>False) rfl
      simp only [gq,hc] at this
      obtain ⟨As,h1,_⟩:=jc _ _ _ this
      exact GY h1
     ·rw [ho] at h
      have:=h (fun _ _=>False) (fun H'=>H' = r.H') rfl
      simp only [gq,hc] at this
      obtain ⟨As,h1,_⟩:=jc _ _ _ this
      obtain ⟨_,_,h2,_⟩:=kW _ _ _ _ _ _ h1
      exact h2.elim
   | _=>simp [ho,zF] at ha

theorem LK {e : Env} {H : Heap} {ef : Env} {Hf : Heap} (hr : lQ F L ops rs e H ef Hf) {j : Nat} {r : Rec} (hj : rs[j]? = some r) (ha : uX r.o.op = true) : Keep r.H r.H':=by
 have hr':=fF hr (cu.refl e) hj
 cases oP : r.ran with
 | false=>rw [(hr'.2.2.2.2 oP).2]; exact .refl _
 | true =>
   cases ho : r.o.op with
   | alloc t =>
     rcases hr'.2.2.2.1 oP with ⟨_,h,_⟩ | ⟨hn,h⟩ | ⟨hn,_,h⟩
     ·rw [h]; exact .refl _
     ·rw [ho] at h
      have:=h (fun A H'=>A = r.A /\ H' = r.H') (fun _=>False) ⟨rfl,rfl⟩
      simp only [gq] at this
      obtain ⟨i,h1,_⟩:=aK _ _ _ this
      rw [<- (dO.1 h1).2]; exact .cons _ _
     ·rw [ho] at h
      have:=h (fun _ _=>False) (fun H'=>H' = r.H') rfl
      simp only [gq] at this
      obtain ⟨i,h1,_⟩:=aK _ _ _ this
      exact (dO.1 h1).elim
   | call c =>
     have hc : c.callee = .builtin .append:=by
      rw [ho] at ha
      simp only [uX] at ha
      split at ha
      ·assumption
      ·cases ha
     rcases hr'.2.2.2.1 oP with ⟨_,h,_⟩ | ⟨hn,h⟩ | ⟨hn,_,h⟩
     ·rw [h]; exact .refl _
     ·rw [ho] at h
      have:=h (fun _ H'=>H' = r.H') (fun _=>False) rfl
      simp only [gq,hc] at this
      obtain ⟨As,h1,_⟩:=jc _ _ _ this
      exact GX h1
     ·rw [ho] at h
      have:=h (fun _ _=>False) (fun H'=>H' = r.H') rfl
      simp only [gq,hc] at this
      obtain ⟨As,h1,_⟩:=jc _ _ _ this
      obtain ⟨_,_,h2,_⟩:=kW _ _ _ _ _ _ h1
      exact h2.elim
   | makeMap t z =>
     rcases hr'.2.2.2.1 oP with ⟨_,h,_⟩ | ⟨hn,h⟩ | ⟨hn,_,h⟩
     ·rw [h]; exact .refl _
     ·rw [ho] at h
      have:=h (fun A H'=>A = r.A /\ H' = r.H') (fun _=>False) ⟨rfl,rfl⟩
      simp only [gq] at this
      split at this
      ·obtain ⟨i,h1,_⟩:=aK _ _ _ this
       split at h1
       ·rw [<- (dO.1 h1).2]; exact .cons _ _
       ·exact h1.elim
      ·exact this.elim
     ·rw [ho] at h
      have:=h (fun _ _=>False) (fun H'=>H' = r.H') rfl
      simp only [gq] at this
      split at this
      ·obtain ⟨i,h1,_⟩:=aK _ _ _ this
       split at h1
       ·exact (dO.1 h1).elim
       ·exact h1.elim
      ·exact this.elim
   | _=>simp [ho,uX] at ha

theorem Ht {e : Env} {H : Heap} {ef : Env} {Hf : Heap} (hr : lQ F L ops rs e H ef Hf) {p : Nat} : ∀ (q : Nat),p <= q -> q <= rs.length ->
  (∀ j r,p <= j -> j < q -> rs[j]? = some r -> Keep r.H' r.H) -> Keep (Hs rs H q) (Hs rs H p)
 | 0,hpq,_,_,y,hy,_=>by obtain rfl : p = 0:=by omega
                        exact hy
 | q + 1,hpq,hq,h,y,hy,hb=>by
   by_cases hp : p = q + 1
   ·rw [hp]; exact hy
   ·have hlt : q < rs.length:=by omega
    have hr':=fF hr (cu.refl e) (List.getElem?_eq_getElem hlt)
    rw [qB (List.getElem?_eq_getElem hlt)] at hy
    have:=h q _ (by omega) (by omega) (List.getElem?_eq_getElem hlt) y hy hb
    rw [hr'.1] at this
    exact Ht hr q (by omega) (by omega) (fun j r h1 h2 h3=>h j r h1 (by omega) h3) y this hb

theorem LJ {t : Nat} {A : AV} {H H' : Heap} {k : AV -> Prop} (hs : Keep H H') (hi : ak H') (h : iU L t A H k) : iU L t A H' k:=by
 unfold iU at h ⊢
 split at h
 ·exact h
 ·obtain ⟨o,h1,h2⟩:=dw.1 h
  have hb : SG o = true:=by
   cases o with
   | box _=>rfl
   | arr _ _ _=>rfl
   | _=>exact h2.elim
  exact dw.2 ⟨o,kU hi (hs _ (gu h1) hb),h2⟩
 ·exact h.elim

end

def cnt (listed : Array Bool) : Nat:=listed.toList.countP fun b=>!b

theorem uq : ∀ {l : List Bool} {i : Nat},l[i]? = some false -> (l.set i true).countP (fun b=>!b) < l.countP (fun b=>!b)
 | [],_,h=>by simp at h
 | x :: l,0,h=>by simp at h; subst h; simp
 | x :: l,i + 1,h=>by
   have:=uq (l:=l) (i:=i) (by simpa using h)
   simp only [List.set_cons_succ,List.countP_cons]
   omega

theorem Gy {listed : Array Bool} {i : Nat} (hi : i < listed.size) (h : ¬ aB listed i) : cnt (listed.setIfInBounds i true) < cnt listed:=by
 unfold cnt
 rw [Array.toList_setIfInBounds]
 refine uq ?_
 unfold aB at h
 rw [Array.getD_eq_getD_getElem?] at h
 rw [Array.getElem?_toList,Array.getElem?_eq_getElem hi]
 rw [Array.getElem?_eq_getElem hi] at h
 simpa using h

theorem Jc {listed : Array Bool} (h : cnt listed = 0) {i : Nat} (hi : i < listed.size) : aB listed i:=by
 apply Classical.byContradiction
 intro hn
 have:=Gy hi hn
 omega

theorem oL {ops : Array Oper} {listed : Array Bool} (hs : listed.size = ops.size) {i : Nat} :
  i ∈ Region.ready .any ops listed ↔ ∃ o,ops[i]? = some o /\ ¬ aB listed i /\ ∀ e ∈ o.after.toList,Region.binds .any e = true -> aB listed e.on:=by
 unfold Region.ready
 rw [List.mem_filter,List.mem_range]
 constructor
 ·rintro ⟨h1,h2⟩
  simp only [Bool.and_eq_true] at h2
  have hx:=Array.getElem?_eq_getElem h1
  refine ⟨ops[i],hx,?_,?_⟩
  ·unfold aB
   rw [Array.getD_eq_getD_getElem?]
   have hi : i < listed.size:=by omega
   have:=h2.1
   rw [Array.getD_eq_getD_getElem?,Array.getElem?_eq_getElem hi] at this
   rw [Array.getElem?_eq_getElem hi]
   simpa using this
  ·intro e he hb
   have:=h2.2
   rw [hx] at this
   simp only [Option.map_some,Option.getD_some] at this
   rw [<- Array.all_toList,List.all_eq_true] at this
   have:=this e he
   rw [hb] at this
   simpa [aB] using this
 ·rintro ⟨o,h1,h2,h3⟩
  have hi : i < ops.size:=(Array.getElem?_eq_some_iff.1 h1).1
  refine ⟨hi,?_⟩
  simp only [Bool.and_eq_true]
  refine ⟨?_,?_⟩
  ·unfold aB at h2
   have hi : i < listed.size:=by omega
   rw [Array.getD_eq_getD_getElem?,Array.getElem?_eq_getElem hi] at h2
   rw [Array.getD_eq_getD_getElem?,Array.getElem?_eq_getElem hi]
   simpa using h2
  ·rw [h1]
   simp only [Option.map_some,Option.getD_some]
   rw [<- Array.all_toList,List.all_eq_true]
   intro e he
   cases hb : Region.binds .any e with
   | false=>rfl
   | true=>simpa [aB] using h3 e he hb

theorem ready_nil {ops : Array Oper} {listed : Array Bool} (hs : listed.size = ops.size) (hback : ∀ (j : Nat) (o : Oper),ops.toList[j]? = some o -> ∀ e ∈ o.after.toList,Region.binds .any e = true -> e.on < j)
  (h : Region.ready .any ops listed = []) : ∀ j,j < ops.size -> aB listed j:=by
 intro j
 induction j using Nat.strongRecOn with
 | _ j ih =>
   intro hj
   apply Classical.byContradiction
   intro hn
   have hx:=Array.getElem?_eq_getElem hj
   have : j ∈ Region.ready .any ops listed:=(oL hs).2 ⟨_,hx,hn,fun e he hb=>by
    have hlt:=hback j _ (by rw [Array.getElem?_toList]; exact hx) e he hb
    exact ih e.on hlt (by omega)⟩
   rw [h] at this
   simp at this

section
variable {X : Nat -> Nat -> Prop} {P : Program} {F : FT} {L : Lay} {ops : Array Oper} {rs : List Rec} {c0 : Cx} {H0 : Heap} {e : Env} {a0 a : Act} {n m : Nat} {listed : Array Bool} {c : Cx} {ef : Env} {Hf : Heap} {pd : Nat -> Nat}

theorem o9.notYet (hd : iq X ops.toList rs) (I : o9 ops.toList rs c0 H0 e a0 n listed m a c pd) (xA : TN rs listed m) {i j : Nat} {r rj : Rec} (hi : rs[i]? = some r)
  (hbef : ∀ e ∈ r.o.after.toList,Region.binds .any e = true -> aB listed e.on) {t : Nat} (ht : t ∈ bZ ops.toList r.o) (hji : j < i) (hj : rs[j]? = some rj) (hdj : rj.o.dst = some t) (hl : aB listed j) (he : eff rj = true) : j < m:=by
 apply Classical.byContradiction
 intro hm
 obtain ⟨x,rx,h1,h2,h3,h4,h5⟩:=xA j rj (by omega) hj he hl
 have hp:=(I.above j rj (by omega) hj he hl).XE
 simp only [eff,Bool.and_eq_true,Bool.not_eq_true'] at h4 he
 rcases hd.late x j i rx rj r t h2 hji h3 hj hi h4.1 h4.2 he.1 hp hdj ht with hb | hb
 ·exact h5 (GZ I.closed j rj.o (hd.get j rj hj) (I.closed j rj.o hl (hd.get j rj hj)) hb)
 ·exact h5 (GZ I.closed i r.o (hd.get i r hi) hbef hb)

theorem o9.slot (hd : iq X ops.toList rs) (I : o9 ops.toList rs c0 H0 e a0 n listed m a c pd) (xA : TN rs listed m) {i : Nat} {r : Rec} (hi : rs[i]? = some r) (hn : ¬ aB listed i)
  (hbef : ∀ e ∈ r.o.after.toList,Region.binds .any e = true -> aB listed e.on) {t : Nat} {A : AV} (ht : t ∈ bZ ops.toList r.o) (hA : dL (E0 rs e i) t = some A) : EV c A (a.tmps.getD t undef):=by
 have hlt : i < rs.length:=(List.getElem?_eq_some_iff.1 hi).1
 have MK : ∀ (j : Nat) (rj : Rec),aB listed j -> rs[j]? = some rj -> rj.o.dst = some t -> j < i:=by
  intro j rj hl hj hdj
  rcases Nat.lt_trichotomy j i with h | h | h
  ·exact h
  ·subst h; exact absurd hl hn
  ·exact absurd (jG hd I.closed h hi hj (tq hdj ht).2 (hd.ZK hi hj hdj ht) hl) hn
 rcases L9 (by omega) hA with ⟨j,rj,h1,h2,h3,rfl,h5⟩ | ⟨h1,h2⟩
 ·have hl:=jA hd I.closed h1 h2 hi (tq h3 ht).1 (hd.YI h2 hi h3 ht) hbef
  exact I.new t j rj hl h2 h3 (fun i' TU hl hi' hd'=>h5 i' TU (MK i' TU hl hi' hd') hi' hd') fun he=>I.notYet hd xA hi hbef ht h1 h2 h3 hl he
 ·exact I.old t A (fun j rj hl hj hdj=>h1 j rj (MK j rj hl hj hdj) hj hdj) h2

theorem o9.ahead (hd : iq X ops.toList rs) (I : o9 ops.toList rs c0 H0 e a0 n listed m a c pd) (xA : TN rs listed m) {i : Nat} {r : Rec} (hi : rs[i]? = some r)
  (hbef : ∀ e ∈ r.o.after.toList,Region.binds .any e = true -> aB listed e.on) (hnb : r.nb = false) (hnew : jv r.o.op = false) {j : Nat} {rj : Rec} (h1 : m <= j) (h2 : j < i) (hj : rs[j]? = some rj) : eff rj = false \/ (aZ r.o.op = true /\ zF rj.o.op = true) \/ (aZ r.o.op = true /\ X j i):=by
 cases he : eff rj with
 | false=>exact .inl rfl
 | true =>
   have YR : rj.nb = false:=by simp [eff] at he; exact he.1
   by_cases YX : X j i
   ·exact .inr (.inr ⟨(hd.Zj hj hi he YX).1,YX⟩)
   cases hx : aZ r.o.op && zF rj.o.op && (ops.toList.all fun o=>!jv o.op) with
   | true=>simp only [Bool.and_eq_true] at hx; exact .inr (.inl hx.1)
   | false =>
     have hcl : ∀ (x : Rec),(aZ r.o.op && zF x.o.op && (ops.toList.all fun o=>!jv o.op)) = false -> aZ r.o.op = false \/ zF x.o.op = false \/ (ops.toList.all fun o=>!jv o.op) = false:=by
      intro x hx
      cases h1 : aZ r.o.op with
      | false=>exact .inl rfl
      | true =>
        cases h2 : zF x.o.op with
        | false=>exact .inr (.inl rfl)
        | true=>rw [h1,h2] at hx; exact .inr (.inr (by simpa using hx))
     have hlj:=jA hd I.closed h2 hj hi ((mg he hnb).1 hnew (hcl rj hx)) YX hbef
     obtain ⟨x,rx,g1,g2,g3,g4,g5⟩:=xA j rj h1 hj he hlj
     have Vu : (ops.toList.all fun o=>!jv o.op) = true -> False:=fun hy=>by
      have hnw : jv rj.o.op = false:=by
       have:=List.all_eq_true.1 hy rj.o (List.mem_of_getElem? (hd.get j rj hj))
       simpa using this
      have hlb : aZ rj.o.op = false:=by simp [eff] at he; exact he.2
      exact absurd (jG hd I.closed g2 g3 hj ((mg g4 YR).1 hnw (.inl hlb)) (hd.YH g3 hj g4 he) hlj) g5
     by_cases Zr : X x i
     ·exact (Vu (hd.Zj g3 hi g4 Zr).2).elim
     cases hy : aZ r.o.op && zF rx.o.op && (ops.toList.all fun o=>!jv o.op) with
     | false=>exact absurd (jA hd I.closed (by omega) g3 hi ((mg g4 hnb).1 hnew (hcl rx hy)) Zr hbef) g5
     | true =>
       simp only [Bool.and_eq_true] at hy
       exact (Vu hy.2).elim

theorem o9.heap (hd : iq X ops.toList rs) (hrun : lQ F L ops.toList rs e H0 ef Hf) (I : o9 ops.toList rs c0 H0 e a0 n listed m a c pd) (xA : TN rs listed m) {i : Nat} {r : Rec} (hi : rs[i]? = some r) (hn : ¬ aB listed i)
  (hbef : ∀ e ∈ r.o.after.toList,Region.binds .any e = true -> aB listed e.on) (hef : eff r = true) (hnew : jv r.o.op = false) : Hs rs H0 m = r.H:=by
 have hnb : r.nb = false:=by simp [eff] at hef; exact hef.1
 have hlt : i < rs.length:=(List.getElem?_eq_some_iff.1 hi).1
 have Yt : m <= i:=by
  apply Classical.byContradiction
  intro h
  exact hn (I.below i r (by omega) hi hef)
 rw [(fF hrun (cu.refl e) hi).1]
 exact Ae hrun i Yt (by omega) fun j rj h1 h2 hj=>jw hrun hj ((I.ahead hd xA hi hbef hnb hnew h1 h2 hj).resolve_right fun h=>by rcases h with h | h <;> simp [eff,h.1] at hef)

def eP (F : FT) (L : Lay) (r : Rec) (H : Heap) : Prop:=gq F Ok L r.o.op r.e H (fun A H'=>A = r.A /\ H' = H) fun _=>False

theorem eP.keep {r : Rec} {H H' : Heap} (hl : aZ r.o.op = true) (hs : Keep H H') (hi : ak H') (h : eP F L r H) : eP F L r H':=by
 unfold eP at h ⊢
 cases ho : r.o.op with
 | load t x =>
   rw [ho] at h
   simp only [gq] at h ⊢
   obtain ⟨A,h5,h6⟩:=aT _ _ _ h
   refine h6 _ (LJ hs hi ?_)
   obtain ⟨R,h7,h8⟩:=iT _ _ _ _ _ h5
   exact h8 _ ⟨h7.1,trivial⟩
 | _=>simp [ho,aZ] at hl

theorem exists_least {p : Nat -> Prop} (h : ∃ n,p n) : ∃ n,p n /\ ∀ k,k < n -> ¬ p k:=by
 apply Classical.byContradiction
 intro hn
 have : ∀ n,¬ p n:=by
  intro n
  induction n using Nat.strongRecOn with
  | _ n ih=>exact fun hp=>hn ⟨n,hp,ih⟩
 exact h.elim this

theorem o9.XU (hd : iq X ops.toList rs) (hX : ∀ (i j : Nat) (ri rj : Rec),X i j -> rs[i]? = some ri -> rs[j]? = some rj -> ri.ran = true -> rj.ran = true -> (aZ ri.o.op = true -> eP F L ri rj.H') /\ (eff ri = true -> eP F L rj ri.H)) (hrun : lQ F L ops.toList rs e H0 ef Hf)
  (I : o9 ops.toList rs c0 H0 e a0 n listed m a c pd) (xA : TN rs listed m) {i : Nat} {r : Rec} (hi : rs[i]? = some r) (hn : ¬ aB listed i)
  (hbef : ∀ e ∈ r.o.after.toList,Region.binds .any e = true -> aB listed e.on) (hnb : r.nb = false) (hld : aZ r.o.op = true) (oP : r.ran = true) (h0 : eP F L r r.H) : eP F L r (Hs rs H0 m):=by
 have hlt : i < rs.length:=(List.getElem?_eq_some_iff.1 hi).1
 have hnew : jv r.o.op = false:=by cases ho : r.o.op <;> simp [ho,aZ] at hld <;> rfl
 rw [(fF hrun (cu.refl e) hi).1] at h0
 rcases Nat.le_total m i with h | h
 ·by_cases hex : ∃ q,m <= q /\ q < i /\ X q i /\ ∃ rq,rs[q]? = some rq /\ eff rq = true /\ rq.ran = true
  ·obtain ⟨q,⟨q1,q2,q3,rq,q4,q5,q6⟩,YF⟩:=exists_least hex
   have h1:=(hX q i rq r q3 q4 hi q6 oP).2 q5
   rw [(fF hrun (cu.refl e) q4).1] at h1
   refine eP.keep hld ?_ I.tr.hr.ids h1
   refine Ht hrun q q1 (by omega) fun j rj h1 h2 hj=>?_
   rcases I.ahead hd xA hi hbef hnb hnew h1 (by omega) hj with he | he | he
   ·rw [jw hrun hj he]; exact .refl _
   ·exact Jy hrun hj he.2
   ·cases hef : eff rj with
    | false=>rw [jw hrun hj hef]; exact .refl _
    | true =>
      cases vk : rj.ran with
      | false=>rw [((fF hrun (cu.refl e) hj).2.2.2.2 vk).2]; exact .refl _
      | true=>exact absurd ⟨h1,by omega,he.2,rj,hj,hef,vk⟩ (YF j h2)
  ·refine eP.keep hld ?_ I.tr.hr.ids h0
   refine Ht hrun i h (by omega) fun j rj h1 h2 hj=>?_
   rcases I.ahead hd xA hi hbef hnb hnew h1 h2 hj with he | he | he
   ·rw [jw hrun hj he]; exact .refl _
   ·exact Jy hrun hj he.2
   ·cases hef : eff rj with
    | false=>rw [jw hrun hj hef]; exact .refl _
    | true =>
      cases vk : rj.ran with
      | false=>rw [((fF hrun (cu.refl e) hj).2.2.2.2 vk).2]; exact .refl _
      | true=>exact absurd ⟨j,h1,h2,he.2,rj,hj,hef,vk⟩ hex
 ·have key : ∀ q,i <= q -> q <= m -> ∃ G,eP F L r G /\ Keep G (Hs rs H0 q):=by
   intro q
   induction q with
   | zero=>intro h1 _; obtain rfl : i = 0:=by omega
           exact ⟨_,h0,.refl _⟩
   | succ q ih =>
     intro h1 h2
     rcases Nat.lt_or_ge q i with h3 | h3
     ·obtain rfl : i = q + 1:=by omega
      exact ⟨_,h0,.refl _⟩
     ·obtain ⟨G,g1,g2⟩:=ih h3 (by omega)
      have hq : q < rs.length:=by have:=I.Yo; omega
      have hj:=List.getElem?_eq_getElem hq
      generalize rs[q] = rj at hj
      have hH:=(fF hrun (cu.refl e) hj).1
      rw [qB hj]
      rw [<- hH] at g2
      cases he : eff rj with
      | false=>rw [jw hrun hj he]; exact ⟨G,g1,g2⟩
      | true =>
        cases hal : uX rj.o.op with
        | true=>exact ⟨G,g1,fun y hy hb=>LK hrun hj hal y (g2 y hy hb) hb⟩
        | false =>
          have hl:=I.below q rj (by omega) hj he
          have YR : jv rj.o.op = false:=by cases ho : rj.o.op <;> simp [ho,uX] at hal <;> rfl
          rcases Nat.lt_or_eq_of_le h3 with h4 | h4
          ·by_cases hx : X i q
           ·cases vk : rj.ran with
            | true=>exact ⟨_,(hX i q r rj hx hi hj oP vk).1 hld,.refl _⟩
            | false=>rw [((fF hrun (cu.refl e) hj).2.2.2.2 vk).2]; exact ⟨G,g1,g2⟩
           ·exact absurd (jG hd I.closed h4 hi hj ((mg he hnb).2 YR (.inr hal)) hx hl) hn
          ·subst h4; exact absurd hl hn
  obtain ⟨G,g1,g2⟩:=key m h (Nat.le_refl _)
  exact g1.keep hld g2 I.tr.hr.ids

theorem o9.step (hd : iq X ops.toList rs) (I : o9 ops.toList rs c0 H0 e a0 n listed m a c pd) (xA : TN rs listed m) {i : Nat} {r : Rec} (hi : rs[i]? = some r) (hn : ¬ aB listed i)
  (hbef : ∀ e ∈ r.o.after.toList,Region.binds .any e = true -> aB listed e.on) (hdst : ∀ d,r.o.dst = some d -> d < n) {v : Value} {c' : Cx} {H' : Heap} {m' : Nat}
  (htr : Tr c (Hs rs H0 m) c' H') (hH : H' = Hs rs H0 m')
  (hm : (eff r = false /\ m' = m /\ ∀ t,r.o.dst = some t -> EV c' r.A v) \/ (eff r = true /\ jv r.o.op = false /\ m' = i + 1 /\ ∀ t,r.o.dst = some t -> EV c' r.A v) \/
   (eff r = true /\ m' = m /\ ∃ (b : Nat) (d : Nat),r.o.dst = some d /\ jv r.o.op = true /\ c.w.heap.size <= b /\ Free c' H' b /\
    ∃ o z f,c'.w.heap[b]? = some o /\ Xr b o v z f /\ r.H' = (nextId r.H,z) :: r.H /\ r.A = f (nextId r.H))) :
  ∃ pd',o9 ops.toList rs c0 H0 e a0 n (listed.setIfInBounds i true) m' (a.put r.o.dst v) c' pd':=by
 have hlt : i < rs.length:=(List.getElem?_eq_some_iff.1 hi).1
 have hsz : i < listed.size:=by rw [I.size,<- hd.len]; exact hlt
 have hls : ∀ j,aB (listed.setIfInBounds i true) j ↔ j = i \/ aB listed j:=fun j=>Bf hsz
 have Yt : eff r = true -> m <= i:=by
  intro hef
  apply Classical.byContradiction
  intro h
  exact hn (I.below i r (by omega) hi hef)
 have hmm : m <= m':=by
  rcases hm with ⟨_,h,_⟩ | ⟨h1,_,h,_⟩ | ⟨_,h,_⟩
  ·omega
  ·have:=Yt h1; omega
  ·omega
 -- the slot of what is ahead of its time stays
 have hkeep : ∀ (j : Nat) (rj : Rec) (d : Nat),m <= j -> rs[j]? = some rj -> eff rj = true -> aB listed j -> rj.o.dst = some d -> r.o.dst ≠ some d:=by
  intro j rj d h1 hj he hl hdj hdi
  rcases Nat.lt_trichotomy j i with h | h | h
  ·have:=I.notYet hd xA hi hbef (t:=d) (by simp [bZ,hdi]) h hj hdj hl he
   omega
  ·subst h; exact hn hl
  ·exact hn (jG hd I.closed h hi hj (tq hdi (by simp [bZ,hdj])).1 (hd.YI hi hj hdi (by simp [bZ,hdj])) hl)
 have hput : ∀ d,r.o.dst ≠ some d -> (a.put r.o.dst v).tmps.getD d undef = a.tmps.getD d undef:=by
  intro d h1
  cases hdd : r.o.dst with
  | none=>rfl
  | some d' =>
    simp only [Act.put]
    rw [getD_set_ne (fun h=>h1 (by rw [hdd,h]))]
 have Vx : ∀ d,r.o.dst = some d -> (a.put r.o.dst v).tmps.getD d undef = v:=by
  intro d hdd
  rw [hdd]
  simp only [Act.put]
  rw [yO (by rw [I.Me]; exact hdst d hdd)]
 have XK : ∀ (j : Nat) (rj : Rec),m <= j -> rs[j]? = some rj -> eff rj = true -> aB listed j -> Yg c0 (a.put r.o.dst v) c' H' rj (pd j):=by
  intro j rj h1 hj he hl
  obtain ⟨g1,g2,g3,⟨ob,u,z,f,g4,g5,g6,g8,g7⟩⟩:=I.above j rj h1 hj he hl
  obtain ⟨f1,f2⟩:=g2.tr htr
  exact ⟨g1,f1,g3,⟨ob,u,z,f,by rw [f2]; exact g4,g5,g6,g8,fun d hdj=>by rw [hput d (hkeep j rj d h1 hj he hl hdj)]; exact g7 d hdj⟩⟩
 let pd' : Nat -> Nat:=fun j=>if j = i then (match v with | .pointer (some ad)=>ad.block | .map (some b)=>b | _=>0) else pd j
 have XL : ∀ j,j ≠ i -> pd' j = pd j:=fun j hj=>if_neg hj
 refine ⟨pd',by simpa using I.size,?_,?_,?_,?_,?_,?_,?_,?_,?_,?_,?_⟩
 ·intro j o hj ho e' he' hb
  rw [hls] at hj ⊢
  rcases hj with rfl | hj
  ·have:=hd.get j r hi
   rw [this] at ho
   obtain rfl:=Option.some.inj ho
   exact .inr (hbef e' he' hb)
  ·exact .inr (I.closed j o hj ho e' he' hb)
 ·rcases hm with ⟨_,h,_⟩ | ⟨_,_,h,_⟩ | ⟨_,h,_⟩
  ·rw [h]; exact I.Yo
  ·omega
  ·rw [h]; exact I.Yo
 ·intro j rj hj vk he
  rw [hls]
  rcases hm with ⟨_,h,_⟩ | ⟨hef,hnw,h,_⟩ | ⟨_,h,_⟩
  ·exact .inr (I.below j rj (by omega) vk he)
  ·by_cases hji : j = i
   ·exact .inl hji
   ·exact .inr (jA hd I.closed (by omega) vk hi ((mg he (by simp [eff] at hef; exact hef.1)).1 hnw (.inl (by simp [eff] at hef; exact hef.2))) (hd.YH vk hi he hef) hbef)
  ·exact .inr (I.below j rj (by omega) vk he)
 ·intro j rj hj vk he hl
  rw [hls] at hl
  rw [<- hH]
  by_cases hji : j = i
  ·subst hji
   rw [hi] at vk
   obtain rfl:=Option.some.inj vk
   rcases hm with ⟨h,_⟩ | ⟨_,_,h,_⟩ | ⟨_,h,b,d,hdd,hnw,hb,hf,ob,z,f,q1,q2,q3,q4⟩
   ·rw [he] at h; cases h
   ·omega
   ·have hpb : pd' j = b:=by cases q2 <;> simp [pd']
    rw [hpb]
    exact ⟨hnw,hf,by have:=I.tr.size; omega,⟨ob,v,z,f,q1,q2,q3,q4,fun d' hd'=>Vx d' hd'⟩⟩
  ·rw [XL j hji]
   exact XK j rj (by omega) vk he (hl.resolve_left hji)
 ·intro j k rj rk hj hk vk hrk YW hek hlj hlk hjk
  rw [hls] at hlj hlk
  have other : ∀ (x : Nat) (rx : Rec),m' <= i -> i = i -> x ≠ i -> m' <= x -> rs[x]? = some rx -> eff rx = true -> aB listed x -> eff r = true -> pd x = pd' i -> False:=by
   intro x rx Z5 _ hxi hx hrx hex hlx her hpe
   rcases hm with ⟨h,_⟩ | ⟨_,_,h,_⟩ | ⟨_,h,b,d,hdd,hnw,hb,hf,ob,z,f,q1,q2,q3,q4⟩
   ·rw [her] at h; cases h
   ·omega
   ·have hpb : pd' i = b:=by cases q2 <;> simp [pd']
    have:=(I.above x rx (by omega) hrx hex hlx).free.lt
    omega
  by_cases hji : j = i
  ·by_cases hki : k = i
   ·omega
   ·subst hji
    rw [hi] at vk
    obtain rfl:=Option.some.inj vk
    rw [XL k hki] at hjk
    exact (other k rk hj rfl hki hk hrk hek (hlk.resolve_left hki) YW hjk.symm).elim
  ·by_cases hki : k = i
   ·subst hki
    rw [hi] at hrk
    obtain rfl:=Option.some.inj hrk
    rw [XL j hji] at hjk
    exact (other j rj hk rfl hji hj vk YW (hlj.resolve_left hji) hek hjk).elim
   ·rw [XL j hji,XL k hki] at hjk
    exact I.inj j k rj rk (by omega) (by omega) vk hrk YW hek (hlj.resolve_left hji) (hlk.resolve_left hki) hjk
 ·rw [<- hH]; exact I.tr.trans htr
 ·intro t A hno ht
  have h1 : r.o.dst ≠ some t:=hno i r ((hls i).2 (.inl rfl)) hi
  rw [hput t h1]
  exact l7 htr.le (I.old t A (fun j rj hl hj=>hno j rj ((hls j).2 (.inr hl)) hj) ht)
 ·intro t j rj hl hj hdj hmax hact
  rw [hls] at hl
  by_cases hji : j = i
  ·subst hji
   rw [hi] at hj
   obtain rfl:=Option.some.inj hj
   rw [Vx t hdj]
   rcases hm with ⟨_,_,h⟩ | ⟨_,_,_,h⟩ | ⟨hef,h,_⟩
   ·exact h t hdj
   ·exact h t hdj
   ·have:=hact hef
    have:=Yt hef
    omega
  ·have hl : aB listed j:=hl.resolve_left hji
   have XW : eff rj = true -> j < m:=by
    intro he
    have h1:=hact he
    apply Classical.byContradiction
    intro h2
    obtain ⟨x,rx,g1,g2,g3,g4,g5⟩:=xA j rj (by omega) hj he hl
    rcases hm with ⟨_,h,_⟩ | ⟨hef,hnw,h,_⟩ | ⟨_,h,_⟩
    ·omega
    ·exact g5 (jA hd I.closed (by omega) g3 hi ((mg g4 (by simp [eff] at hef; exact hef.1)).1 hnw (.inl (by simp [eff] at hef; exact hef.2))) (hd.YH g3 hi g4 hef) hbef)
    ·omega
   have h1 : r.o.dst ≠ some t:=by
    intro h
    have hle:=hmax i r ((hls i).2 (.inl rfl)) hi h
    have hmem : t ∈ bZ ops.toList rj.o:=by simp [bZ,hdj]
    exact hn (jG hd I.closed (by omega) hi hj (tq h hmem).1 (hd.YI hi hj h hmem) hl)
   rw [hput t h1]
   exact l7 htr.le (I.new t j rj hl hj hdj (fun i' TU hl'=>hmax i' TU ((hls i').2 (.inr hl'))) XW)
 ·cases hdd : r.o.dst <;> simp only [Act.put] <;> exact I.defers
 ·cases hdd : r.o.dst <;> simp [Act.put,I.Me]
 ·cases hdd : r.o.dst with
  | none=>exact I.fr
  | some d =>
    intro t ht
    simp only [Act.put]
    rw [getD_set_ne (fun h=>ht (by rw [<- h]; exact kQ (List.mem_of_getElem? (hd.get i r hi)) hdd))]
    exact I.fr t ht

theorem OQ : ∀ (j : Nat) (rj : Rec),m <= j -> rs[j]? = some rj -> eff rj = true -> aB listed j -> (∀ (x : Nat) (rx : Rec),m <= x -> x < j -> rs[x]? = some rx -> eff rx = true -> aB listed x) ->
  ∃ (j : Nat) (rj : Rec),m <= j /\ rs[j]? = some rj /\ eff rj = true /\ aB listed j /\ ∀ (x : Nat) (rx : Rec),m <= x -> x < j -> rs[x]? = some rx -> eff rx = false:=by
 intro j
 induction j using Nat.strongRecOn with
 | _ j ZP =>
   intro rj h1 hj he hl hno
   by_cases hx : ∃ (x : Nat) (rx : Rec),m <= x /\ x < j /\ rs[x]? = some rx /\ eff rx = true
   ·obtain ⟨x,rx,g1,g2,g3,g4⟩:=hx
    exact ZP x g2 rx g1 g3 g4 (hno x rx g1 g2 g3 g4) fun y ry f1 f2 f3 f4=>hno y ry f1 (by omega) f3 f4
   ·refine ⟨j,rj,h1,hj,he,hl,fun x rx g1 g2 g3=>?_⟩
    cases he' : eff rx with
    | false=>rfl
    | true=>exact absurd ⟨x,rx,g1,g2,g3,he'⟩ hx

theorem o9.settle (_ : iq X ops.toList rs) (hrun : lQ F L ops.toList rs e H0 ef Hf) : ∀ (k m : Nat) (c : Cx),rs.length - m <= k -> o9 ops.toList rs c0 H0 e a0 n listed m a c pd ->
  ∃ m' c',c'.w = c.w /\ o9 ops.toList rs c0 H0 e a0 n listed m' a c' pd /\ TN rs listed m':=by
 intro k
 induction k with
 | zero =>
   intro m c hk I
   refine ⟨m,c,rfl,I,fun j r hj hr=>?_⟩
   have:=(List.getElem?_eq_some_iff.1 hr).1
   omega
 | succ k ih =>
   intro m c hk I
   by_cases hA : TN rs listed m
   ·exact ⟨m,c,rfl,I,hA⟩
   ·have hA:=hA
    unfold TN at hA
    obtain ⟨j,hA⟩:=Classical.not_forall.1 hA
    obtain ⟨rj,hA⟩:=Classical.not_forall.1 hA
    simp only [not_imp] at hA
    obtain ⟨h1,hj,he,hl,hno⟩:=hA
    have hno : ∀ (x : Nat) (rx : Rec),m <= x -> x < j -> rs[x]? = some rx -> eff rx = true -> aB listed x:=by
     intro x rx g1 g2 g3 g4
     apply Classical.byContradiction
     intro g5
     exact hno ⟨x,rx,g1,g2,g3,g4,g5⟩
    obtain ⟨j,rj,h1,hj,he,hl,hno⟩:=OQ j rj h1 hj he hl hno
    have hjl : j < rs.length:=(List.getElem?_eq_some_iff.1 hj).1
    obtain ⟨g1,g2,g3,⟨ob,u,z,f,g4,g5,g6,g7,g8⟩⟩:=I.above j rj h1 hj he hl
    have hHj : Hs rs H0 m = rj.H:=by
     rw [(fF hrun (cu.refl e) hj).1]
     exact Ae hrun j h1 (by omega) fun x rx f1 f2 f3=>jw hrun f3 (hno x rx f1 f2 f3)
    obtain ⟨t1,t2,t3,t4⟩:=Tr.adopt I.tr g2 g3 g4 g5
    have hHn : Hs rs H0 (j + 1) = (nextId (Hs rs H0 m),z) :: Hs rs H0 m:=by
     rw [qB hj,g6,hHj]
    rw [<- hHn] at t1 t4
    have I' : o9 ops.toList rs c0 H0 e a0 n listed (j + 1) a (c.adopt (Hs rs H0 m) (pd j) z) pd:=by
     refine ⟨I.size,I.closed,by omega,?_,?_,?_,t1,?_,?_,I.defers,I.Me,I.fr⟩
     ·intro x rx hx hrx hex
      rcases Nat.lt_trichotomy x m with h | h | h
      ·exact I.below x rx h hrx hex
      ·by_cases hxj : x = j
       ·rw [hxj]; exact hl
       ·rw [hno x rx (by omega) (by omega) hrx] at hex; cases hex
      ·by_cases hxj : x = j
       ·rw [hxj]; exact hl
       ·rw [hno x rx (by omega) (by omega) hrx] at hex; cases hex
     ·intro x rx hx hrx hex hlx
      obtain ⟨p1,p2,p3,p4⟩:=I.above x rx (by omega) hrx hex hlx
      have hne : pd x ≠ pd j:=fun h=>by
       have:=I.inj x j rx rj (by omega) h1 hrx hj hex he hlx hl h
       omega
      exact ⟨p1,t4 _ hne p2,p3,p4⟩
     ·intro x y rx ry hx hy hrx ZW hex hey hlx Z8 hxy
      exact I.inj x y rx ry (by omega) (by omega) hrx ZW hex hey hlx Z8 hxy
     ·intro t A hno' ht
      exact l7 t2 (I.old t A hno' ht)
     ·intro t x rx hlx hrx Zo hmax hact
      by_cases hxj : x = j
      ·subst hxj
       rw [hj] at hrx
       obtain rfl:=Option.some.inj hrx
       rw [g8 t Zo,g7,<- hHj]
       exact t3
      ·refine l7 t2 (I.new t x rx hlx hrx Zo hmax fun hex=>?_)
       have:=hact hex
       apply Classical.byContradiction
       intro h
       rw [hno x rx (by omega) (by omega) hrx] at hex
       cases hex
    obtain ⟨m',c',hw,Zd,xA⟩:=ih (j + 1) _ (by omega) I'
    exact ⟨m',c',hw,Zd,xA⟩

theorem PG (hL : bW P L) {r : Rec} {t : Nat} (ho : r.o.op = .alloc t) (hnb : r.nb = false) (Bv : Does F L r) :
  ∃ i,lZ P t i /\ r.H' = (nextId r.H,.box i.zero) :: r.H /\ r.A = .ptr (nextId r.H) [] 0:=by
 rcases Bv with ⟨h1,_⟩ | ⟨_,h⟩ | ⟨_,_,h⟩
 ·rw [hnb] at h1; cases h1
 ·rw [ho] at h
  have:=h (fun A H'=>A = r.A /\ H' = r.H') (fun _=>False) ⟨rfl,rfl⟩
  simp only [gq] at this
  obtain ⟨i,hT,h1⟩:=Lay.aQ hL this
  have:=dO.1 h1
  exact ⟨i,hT,this.2.symm,this.1.symm⟩
 ·rw [ho] at h
  have:=h (fun _ _=>False) (fun H'=>H' = r.H') rfl
  simp only [gq] at this
  obtain ⟨i,hT,h1⟩:=Lay.aQ hL this
  exact (dO.1 h1).elim

theorem Uo (hL : bW P L) {r : Rec} {t : Nat} (ho : r.o.op = .makeMap t none) (hnb : r.nb = false) (Bv : Does F L r) :
  ∃ sh,r.H' = (nextId r.H,.iD sh []) :: r.H /\ r.A = .mp (nextId r.H):=by
 have key : ∀ {k : AV -> Heap -> Prop} {ks : Heap -> Prop},gq F (fun _=>True) L r.o.op r.e r.H k ks -> ∃ sh,k (.mp (nextId r.H)) ((nextId r.H,.iD sh []) :: r.H):=by
  intro k ks h
  rw [ho] at h
  simp only [gq] at h
  obtain ⟨i,hT,h1⟩:=Lay.aQ hL h
  split at h1
  ·exact ⟨_,dO.1 h1⟩
  ·exact h1.elim
 rcases Bv with ⟨h1,_⟩ | ⟨_,h⟩ | ⟨_,_,h⟩
 ·rw [hnb] at h1; cases h1
 ·obtain ⟨sh,h1,h2⟩:=key (h (fun A H'=>A = r.A /\ H' = r.H') (fun _=>False) ⟨rfl,rfl⟩)
  exact ⟨sh,h2.symm,h1.symm⟩
 ·obtain ⟨sh,h1⟩:=key (h (fun _ _=>False) (fun H'=>H' = r.H') rfl)
  exact h1.elim

theorem run_map {t : Nat} {o : Oper} {ρ : Operand -> Value} {w : World} (ho : o.op = .makeMap t none) :
  (execOp ρ o).run P w = .ok (.value (.map (some w.heap.size))) (w.alloc (.map #[] 0)):=by
 unfold execOp; rw [ho]
 simp only [Instr.makeMap,Sem.run_bind,run_newObj,Result.andThen_ok,Sem.run_pure,Option.map_none,World.alloc_eq]

theorem Ol {t : Nat} {i : TI} {o : Oper} {ρ : Operand -> Value} {w : World} (hT : lZ P t i) (ho : o.op = .alloc t) :
  ∃ v : Value,(execOp ρ o).run P w = .ok (.value (.pointer (some ⟨w.heap.size,0,none⟩))) (w.alloc (.cells v.cells t)) /\ ∀ c : Cx,VR c i.zero v.cells.toList:=by
 obtain ⟨v,h1,h2,h3⟩:=hT.qO w
 refine ⟨v,?_,fun c=>gB _ _ (h3 _ _)⟩
 unfold execOp; rw [ho]
 simp only [Instr.alloc,Sem.run_bind,h1,Result.andThen_ok,newVar,newRow,run_newObj,Sem.run_pure,World.alloc_eq]

theorem Tr.spare {c : Cx} {H : Heap} (hr : HR c H) (o : Obj) : Tr c H { c with w:=c.w.alloc o } H /\ Free { c with w:=c.w.alloc o } H c.w.heap.size:=by
 constructor
 ·refine Tr.keep hr ⟨fun b x h=>⟨h,fP (eH _ _ (hr.im b x h))⟩,Nat.le_refl _,fun _ _=>rfl,fun _ _ _ h=>.inl ⟨h,rfl⟩⟩ rfl rfl rfl rfl rfl rfl (by simp) (fun b hb=>eH _ _ hb) (fun b x h=>.inl h)
 ·refine ⟨by simp,fun x hx hb=>?_,fun o ho=>?_⟩
  ·have:=hr.rP (x:=x) hx (b:=c.w.heap.size) hb
   omega
  ·have:=hr.im _ _ ho
   omega

theorem Rh (hL : bW P L) (hFn : FS P F) {Q : Exit -> Act -> World -> Prop} (hd : iq X ops.toList rs) (hX : ∀ (i j : Nat) (ri rj : Rec),X i j -> rs[i]? = some ri -> rs[j]? = some rj -> ri.ran = true -> rj.ran = true -> (aZ ri.o.op = true -> eP F L ri rj.H') /\ (eff ri = true -> eP F L rj ri.H)) (hrun : lQ F L ops.toList rs e H0 ef Hf)
  (hops : ops.toList.all (qR n) = true) (hq : ∀ a' c',Tr c0 H0 c' Hf -> oI n c' ef a' -> Fr (dV ops.toList) a0 a' -> Q .normal a' c'.w) :
  ∀ (fuel : Nat) (listed : Array Bool) (m : Nat) (a : Act) (c : Cx) (pd : Nat -> Nat),o9 ops.toList rs c0 H0 e a0 n listed m a c pd -> TN rs listed m -> cnt listed <= fuel -> wpAny P .any ops Q fuel listed a c.w:=by
 have fin : ∀ (listed : Array Bool) (m : Nat) (a : Act) (c : Cx) (pd : Nat -> Nat),o9 ops.toList rs c0 H0 e a0 n listed m a c pd -> TN rs listed m -> (∀ j,j < ops.size -> aB listed j) -> Q .normal a c.w:=by
  intro listed m a c pd I xA hall
  have hlen:=hd.len
  have hall' : ∀ (j : Nat) (r : Rec),rs[j]? = some r -> aB listed j:=fun j r hj=>hall j (by
   have:=(List.getElem?_eq_some_iff.1 hj).1
   rw [<- Array.length_toList]; omega)
  obtain ⟨h1,h2⟩:=Fe hrun (cu.refl e)
  have hH : Hs rs H0 m = Hf:=by
   rw [h2]
   refine Ae hrun rs.length I.Yo (Nat.le_refl _) fun j r h3 _ hj=>jw hrun hj ?_
   cases he : eff r with
   | false=>rfl
   | true =>
     obtain ⟨x,rx,_,_,g3,_,g5⟩:=xA j r h3 hj he (hall' j r hj)
     exact absurd (hall' x rx g3) g5
  refine hq a c (by rw [<- hH]; exact I.tr) ⟨fun t A hA=>?_,I.defers,I.Me⟩ I.fr
  obtain ⟨B,h3,h4⟩:=h1 t A hA
  refine h4 _ _ ?_
  rcases L9 (Nat.le_refl _) h3 with ⟨j,rj,h5,h6,h7,rfl,h8⟩ | ⟨h5,h6⟩
  ·exact I.new t j rj (hall' j rj h6) h6 h7 (fun i' TU _ hi' hd'=>h8 i' TU ((List.getElem?_eq_some_iff.1 hi').1) hi' hd') fun he=>by
    apply Classical.byContradiction
    intro hmj
    obtain ⟨x,rx,_,_,g3,_,g5⟩:=xA j rj (by omega) h6 he (hall' j rj h6)
    exact absurd (hall' x rx g3) g5
  ·exact I.old t B (fun j rj _ hj hdj=>h5 j rj ((List.getElem?_eq_some_iff.1 hj).1) hj hdj) h6
 intro fuel
 induction fuel with
 | zero =>
   intro listed m a c pd I xA hc
   have hsz : listed.size = ops.size:=by rw [I.size,Array.length_toList]
   have hall : ∀ j,j < ops.size -> aB listed j:=fun j hj=>Jc (by omega) (by omega)
   refine ⟨?_,fin listed m a c pd I xA hall⟩
   apply List.eq_nil_iff_forall_not_mem.2
   intro i hi
   obtain ⟨o,h1,h2,_⟩:=(oL hsz).1 hi
   exact h2 (hall i (Array.getElem?_eq_some_iff.1 h1).1)
 | succ fuel ih =>
   intro listed m a c pd I xA hc
   have hsz : listed.size = ops.size:=by rw [I.size,Array.length_toList]
   refine ⟨fun hnil=>fin listed m a c pd I xA (ready_nil hsz hd.back hnil),fun i hi=>?_⟩
   obtain ⟨o,ho,hn,hbef⟩:=(oL hsz).1 hi
   have hlt : i < ops.size:=(Array.getElem?_eq_some_iff.1 ho).1
   have YS : i < rs.length:=by rw [hd.len]; simpa using hlt
   have hir : rs[i]? = some rs[i]:=List.getElem?_eq_getElem YS
   generalize rs[i] = r at hir
   have hro : r.o = o:=by
    have:=hd.get i r hir
    rw [Array.getElem?_toList,ho] at this
    exact (Option.some.inj this).symm
   subst hro
   have hcnt : cnt (listed.setIfInBounds i true) <= fuel:=by
    have:=Gy (by omega : i < listed.size) hn
    omega
   have hop:=List.all_eq_true.1 hops r.o (List.mem_of_getElem? (hd.get i r hir))
   simp only [qR,Bool.and_eq_true] at hop
   obtain ⟨hb,hdst⟩:=hop
   have WG : ∀ d,r.o.dst = some d -> d < n:=fun d hdd=>by rw [hdd] at hdst; exact Nat.le_of_ble_eq_true hdst
   obtain ⟨hH,href,hguard,Bv,hnot⟩:=fF hrun (cu.refl e) hir
   have hwant : Region.wanted r.o (yielded ops a.tmps) = r.ran:=by
    cases hg : r.o.guard with
    | none=>rw [yG hg]; rw [hg] at hguard; exact hguard.symm
    | some g =>
      obtain ⟨j,b⟩:=g
      rw [hg] at hguard
      obtain ⟨oj,d,A,g1,g2,g3,g4⟩:=hguard
      have hmem : d ∈ bZ ops.toList r.o:=by
       unfold bZ
       rw [hg]
       simp only [g1]
       simp [g2]
      rcases g4 c _ (I.slot hd xA hir hn hbef hmem g3) with ⟨x,g5,g6⟩ | ⟨g5,g6⟩
      ·rw [yF hg (by rw [<- Array.getElem?_toList]; exact g1) g2 g5,g6]
      ·rw [vC hg (by rw [<- Array.getElem?_toList]; exact g1) g2 g5,g6]
   have cont : ∀ (v : Value) (c' : Cx) (H' : Heap) (m' : Nat),Tr c (Hs rs H0 m) c' H' -> H' = Hs rs H0 m' ->
     ((eff r = false /\ m' = m /\ ∀ t,r.o.dst = some t -> EV c' r.A v) \/ (eff r = true /\ jv r.o.op = false /\ m' = i + 1 /\ ∀ t,r.o.dst = some t -> EV c' r.A v) \/
    (eff r = true /\ m' = m /\ ∃ (b : Nat) (d : Nat),r.o.dst = some d /\ jv r.o.op = true /\ c.w.heap.size <= b /\ Free c' H' b /\
     ∃ o z f,c'.w.heap[b]? = some o /\ Xr b o v z f /\ r.H' = (nextId r.H,z) :: r.H /\ r.A = f (nextId r.H))) ->
     wpAny P .any ops Q fuel (listed.setIfInBounds i true) (a.put r.o.dst v) c'.w:=by
    intro v c' H' m' htr hH' hm
    obtain ⟨pd',I'⟩:=I.step hd xA hir hn hbef WG htr hH' hm
    obtain ⟨m'',c'',hw,Zd,Y8⟩:=o9.settle hd hrun rs.length m' c' (by omega) I'
    rw [<- hw]
    exact ih _ _ _ _ _ Zd Y8 hcnt
   have Nk : jv r.o.op = false \/ eff r = false -> ∀ (v : Value) (c' : Cx) (H' : Heap),Tr c (Hs rs H0 m) c' H' -> (∀ t,r.o.dst = some t -> EV c' r.A v) -> H' = Hs rs H0 (if eff r then i + 1 else m) ->
     wpAny P .any ops Q fuel (listed.setIfInBounds i true) (a.put r.o.dst v) c'.w:=by
    intro hnw v c' H' htr hv hH'
    cases hef : eff r with
    | false=>rw [hef] at hH'; exact cont v c' H' m htr hH' (.inl ⟨hef,rfl,hv⟩)
    | true =>
      rw [hef] at hH' hnw
      exact cont v c' H' (i + 1) htr hH' (.inr (.inl ⟨hef,by simpa using hnw,rfl,hv⟩))
   unfold wpOp
   rw [ho]
   simp only [hwant]
   cases oP : r.ran with
   | false =>
     simp only [Bool.false_eq_true,if_false]
     obtain ⟨h1,h2⟩:=hnot oP
     have hnw : jv r.o.op = false \/ eff r = false:=by
      cases hef : eff r with
      | false=>exact .inr rfl
      | true =>
        cases hw : jv r.o.op with
        | false=>exact .inl rfl
        | true =>
          exfalso
          have:=(hd.XD i r hir (by simp [eff] at hef; exact hef.1) hw).1
          rw [this] at hguard
          rw [oP] at hguard
          cases hguard
     refine Nk hnw undef c _ (.refl I.tr.hr) (fun _ _=>by rw [h1]; exact FN) ?_
     split
     ·rename_i he
      rw [qB hir,h2]
      exact I.heap hd hrun xA hir hn hbef he (hnw.resolve_right (by rw [he]; simp))
     ·rfl
   | true =>
     simp only [if_true]
     refine .inl ?_
     by_cases hnew : eff r = true /\ jv r.o.op = true
     ·obtain ⟨hef,hnw⟩:=hnew
      have hnb : r.nb = false:=by simp [eff] at hef; exact hef.1
      obtain ⟨d,hdd⟩:=(hd.XD i r hir hnb hnw).2
      cases ho' : r.o.op with
      | alloc t =>
        obtain ⟨ti,hT,g1,g2⟩:=PG hL ho' hnb (Bv oP)
        obtain ⟨v,g3,g4⟩:=Ol (ρ:=a.eval) (w:=c.w) hT ho'
        unfold Oper.wp
        rw [g3,Oper.upon_value]
        obtain ⟨s1,s2⟩:=Tr.spare I.tr.hr (.cells v.cells t)
        refine cont _ { c with w:=c.w.alloc (.cells v.cells t) } _ m s1 rfl (.inr (.inr ⟨hef,rfl,_,d,hdd,hnw,Nat.le_refl _,s2,.cells v.cells.toList.toArray t,.box ti.zero,fun j=>.ptr j [] 0,?_,.box g4,g1,g2⟩))
        show (c.w.alloc _).heap[_]? = _
        rw [alloc_heap_new,Array.toArray_toList]
      | makeMap t z =>
        cases z with
        | some _=>simp [ho',jv] at hnw
        | none =>
          obtain ⟨sh,g1,g2⟩:=Uo hL ho' hnb (Bv oP)
          unfold Oper.wp
          rw [run_map ho',Oper.upon_value]
          obtain ⟨s1,s2⟩:=Tr.spare I.tr.hr (.map #[] 0)
          refine cont _ { c with w:=c.w.alloc (.map #[] 0) } _ m s1 rfl (.inr (.inr ⟨hef,rfl,_,d,hdd,hnw,Nat.le_refl _,s2,.map #[] 0,.iD sh [],.mp,?_,.map,g1,g2⟩))
          show (c.w.alloc _).heap[_]? = _
          rw [alloc_heap_new]
      | _=>simp [ho',jv] at hnw
     have hnw : jv r.o.op = false \/ eff r = false:=by
      cases hef : eff r with
      | false=>exact .inr rfl
      | true =>
        cases hw : jv r.o.op with
        | false=>exact .inl rfl
        | true=>exact absurd ⟨hef,hw⟩ hnew
     have henv : fC c (sub r.e (bn r.o.op)) a:=by
      intro t A hA
      obtain ⟨h1,h2⟩:=pJ hA
      obtain ⟨B,h3,h4⟩:=href t A h1
      refine h4 _ _ (I.slot hd xA hir hn hbef ?_ h3)
      simp only [bZ,List.mem_append]
      exact .inl (.inr (mP h2))
     have hcongr:=Pv (F:=F) (gU:=Ok) (L:=L) (Qa (e:=r.e) (l:=bn r.o.op))
     have Zw : eff r = true -> Hs rs H0 m = r.H:=fun he=>I.heap hd hrun xA hir hn hbef he (hnw.resolve_right (by rw [he]; simp))
     have hH' : ∀ H',(eff r = false -> H' = Hs rs H0 m) -> (eff r = true -> H' = r.H') -> H' = Hs rs H0 (if eff r then i + 1 else m):=by
      intro H' g1 g2
      cases hef : eff r with
      | false=>simpa using g1 hef
      | true =>
        rw [if_pos rfl,qB hir]
        exact g2 hef
     have key : ∃ (k : AV -> Heap -> Prop) (ks : Heap -> Prop),gq F Ok L r.o.op r.e (Hs rs H0 m) k ks /\ (∀ A H',k A H' -> A = r.A /\ (eff r = false -> H' = Hs rs H0 m) /\ (eff r = true -> H' = r.H')) /\
       (∀ H',ks H' -> r.o.dst = none /\ (eff r = false -> H' = Hs rs H0 m) /\ (eff r = true -> H' = r.H')):=by
      rcases Bv oP with ⟨h1,h2,h3⟩ | ⟨h1,h3⟩ | ⟨h1,h2,h3⟩
      ·have h4:=Px (hd.YK i r hir h1) (h3 (fun A=>A = r.A) rfl) (Hs rs H0 m)
       have hef : eff r = false:=by simp [eff,h1]
       exact ⟨_,_,h4,fun A H' ⟨g1,g2⟩=>⟨g1,fun _=>g2,fun h=>by rw [hef] at h; cases h⟩,fun _ h=>h.elim⟩
      ·cases hef : eff r with
       | true =>
         rw [Zw hef]
         exact ⟨fun A H'=>A = r.A /\ H' = r.H',fun _=>False,tH (h3 _ _ ⟨rfl,rfl⟩),fun A H' ⟨g1,g2⟩=>⟨g1,(fun h=>by cases h),fun _=>g2⟩,fun _ h=>h.elim⟩
       | false =>
         have hl : aZ r.o.op = true:=by simpa [eff,h1] using hef
         have hsame:=jw hrun hir hef
         have h4 : eP F L r r.H:=tH (h3 (fun A H'=>A = r.A /\ H' = r.H) (fun _=>False) ⟨rfl,hsame⟩)
         have h5:=I.XU hd hX hrun xA hir hn hbef h1 hl oP h4
         exact ⟨fun A H'=>A = r.A /\ H' = Hs rs H0 m,fun _=>False,h5,fun A H' ⟨g1,g2⟩=>⟨g1,fun _=>g2,fun h=>by cases h⟩,fun _ h=>h.elim⟩
      ·have hef : eff r = true:=by
        cases hef : eff r with
        | true=>rfl
        | false =>
          exfalso
          have hl : aZ r.o.op = true:=by simpa [eff,h1] using hef
          cases ho : r.o.op with
          | load t x =>
            rw [ho] at h3
            have h4:=h3 (fun _ _=>False) (fun H'=>H' = r.H') rfl
            simp only [gq] at h4
            obtain ⟨A,h5,_⟩:=aT _ _ _ h4
            obtain ⟨R,h7,_⟩:=iT _ _ _ _ _ h5
            exact h7
          | _=>simp [ho,aZ] at hl
       rw [Zw hef]
       exact ⟨fun _ _=>False,fun H'=>H' = r.H',tH (h3 _ _ rfl),fun _ _ h=>h.elim,fun H' g=>⟨h2,(fun h=>by rw [hef] at h; cases h),fun _=>g⟩⟩
     obtain ⟨k,ks,key,hk,hks⟩:=key
     rw [<- hcongr] at key
     have hres:=mO hL hFn I.tr.hr henv hb key
     unfold Oper.wp
     rcases hres with ⟨v,d,A,H',g1,g2,g3,g4⟩ | ⟨d,H',g1,g2,g3⟩ | ⟨f,args,g1,g2⟩
     ·obtain ⟨rfl,g4,g5⟩:=hk _ _ g4
      rw [g1,Oper.upon_value]
      exact Nk hnw v d H' g2 (fun _ _=>g3) (hH' H' g4 g5)
     ·obtain ⟨g3,g4,g5⟩:=hks _ g3
      rw [g1,Oper.upon_skip]
      exact Nk hnw undef d H' g2 (fun t ht=>by rw [g3] at ht; cases ht) (hH' H' g4 g5)
     ·rw [g1,Oper.upon_enter]
      refine Calls.mono g2 ?_
      rintro _ w' ⟨v,d,R,H',rfl,rfl,g6,g7,g4⟩
      obtain ⟨rfl,g4,g5⟩:=hk _ _ g4
      exact Nk hnw v d H' g6 (fun _ _=>g7) (hH' H' g4 g5)

end
end Go.AL

namespace Go.AL

section
variable {P : Program} {F : FT} {L : Lay}

theorem any_beq {ls : List Nat} {i : Nat} : ls.any (Nat.beq i) = true ↔ i ∈ ls:=by
 rw [List.any_eq_true]
 constructor
 ·rintro ⟨x,hx,h⟩
  rw [Nat.eq_of_beq_eq_true h]; exact hx
 ·intro h
  exact ⟨i,h,Nat.beq_refl i⟩

theorem CY {f : Nat -> Prop} : ∀ {l : List Nat},LM l f -> ∀ i ∈ l,f i
 | [],_,i,h=>by simp at h
 | x :: l,h,i,hi=>by
   rcases List.mem_cons.1 hi with rfl | hi
   ·exact h.1
   ·exact CY h.2 i hi

theorem Vk {listed : Array Bool} (h : ∀ j,j < listed.size -> aB listed j) : cnt listed = 0:=by
 unfold cnt
 rw [List.countP_eq_zero]
 intro b hb
 obtain ⟨j,hj,rfl⟩:=List.getElem_of_mem hb
 have:=h j (by simpa using hj)
 unfold aB at this
 rw [Array.getD_eq_getD_getElem?] at this
 have hj' : j < listed.size:=by simpa using hj
 simp [hj'] at this
 simp [this]

theorem uw : ∀ {l : List Bool} {i : Nat},l[i]? = some false -> (l.set i true).countP (fun b=>!b) + 1 = l.countP (fun b=>!b)
 | [],_,h=>by simp at h
 | x :: l,0,h=>by simp at h; subst h; simp
 | x :: l,i + 1,h=>by
   have:=uw (l:=l) (i:=i) (by simpa using h)
   simp only [List.set_cons_succ,List.countP_cons]
   omega

theorem La {listed : Array Bool} {i : Nat} (hi : i < listed.size) (h : ¬ aB listed i) : cnt (listed.setIfInBounds i true) + 1 = cnt listed:=by
 unfold cnt
 rw [Array.toList_setIfInBounds]
 refine uw ?_
 unfold aB at h
 rw [Array.getD_eq_getD_getElem?] at h
 rw [Array.getElem?_toList,Array.getElem?_eq_getElem hi]
 rw [Array.getElem?_eq_getElem hi] at h
 simpa using h

theorem JC (hL : bW P L) (hFn : FS P F) {n : Nat} {ops : Array Oper} {Q : Exit -> Act -> World -> Prop} {k : Env -> Heap -> Prop} {c0 : Cx} {H0 : Heap} {a0 : Act}
  (hops : ops.toList.all (qR n) = true) (hb : SN ops.toList = true) (hq : ∀ e' H' c' a',k e' H' -> Tr c0 H0 c' H' -> oI n c' e' a' -> Fr (dV ops.toList) a0 a' -> Q .normal a' c'.w) :
  ∀ (fuel : Nat) (ls : List Nat) (listed : Array Bool) (e : Env) (H : Heap) (c : Cx) (a : Act),listed.size = ops.size -> (∀ j,aB listed j ↔ j ∈ ls) -> cnt listed = fuel ->
    Tr c0 H0 c H -> oI n c e a -> Fr (dV ops.toList) a0 a -> Dc F L ops.toList fuel ls e H k -> wpAny P .any ops Q fuel listed a c.w:=by
 have hback : ∀ (j : Nat) (o : Oper),ops.toList[j]? = some o -> ∀ e ∈ o.after.toList,Region.binds .any e = true -> e.on < j:=by
  intro j o ho e he hbd
  have:=bG hb ho
  have:=List.all_eq_true.1 this e he
  rw [hbd] at this
  simpa using this
 intro fuel
 induction fuel with
 | zero =>
   intro ls listed e H c a hsz hls hc htr ha hfr h
   refine ⟨?_,hq e H c a h htr ha hfr⟩
   apply List.eq_nil_iff_forall_not_mem.2
   intro i hi
   obtain ⟨o,h1,h2,_⟩:=(oL hsz).1 hi
   exact h2 (Jc hc (by have:=(Array.getElem?_eq_some_iff.1 h1).1; omega))
 | succ fuel ih =>
   intro ls listed e H c a hsz hls hc htr ha hfr h
   refine ⟨fun hnil=>?_,fun i hi=>?_⟩
   ·have:=Vk (listed:=listed) fun j hj=>ready_nil hsz hback hnil j (by omega)
    omega
   obtain ⟨o,ho,hn,hbef⟩:=(oL hsz).1 hi
   have hlt : i < ops.size:=(Array.getElem?_eq_some_iff.1 ho).1
   have hol : ops.toList[i]? = some o:=by rw [Array.getElem?_toList]; exact ho
   have hmem : i ∈ (List.range ops.toList.length).filter (V6 ops.toList ls):=by
    rw [List.mem_filter,List.mem_range]
    refine ⟨by simpa using hlt,?_⟩
    unfold V6
    rw [hol]
    simp only [Bool.and_eq_true,Bool.not_eq_true',List.all_eq_true,Bool.or_eq_true]
    refine ⟨?_,fun ed hed=>?_⟩
    ·cases hx : ls.any (Nat.beq i) with
     | false=>rfl
     | true=>exact absurd ((hls i).2 (any_beq.1 hx)) hn
    ·cases hbd : Region.binds .any ed with
     | false=>exact .inl rfl
     | true=>exact .inr (any_beq.2 ((hls _).1 (hbef ed hed hbd)))
   have h:=CY h i hmem
   simp only [hol] at h
   have hop:=List.all_eq_true.1 hops o (List.mem_of_getElem? hol)
   simp only [qR,Bool.and_eq_true] at hop
   obtain ⟨hb',hdst⟩:=hop
   have WG : ∀ d,o.dst = some d -> d < n:=fun d hd=>by rw [hd] at hdst; exact Nat.le_of_ble_eq_true hdst
   have hsz' : i < listed.size:=by omega
   have hcnt : cnt (listed.setIfInBounds i true) = fuel:=by
    have h1:=Gy hsz' hn
    have h2:=La hsz' hn
    omega
   have XP : ∀ j,aB (listed.setIfInBounds i true) j ↔ j ∈ i :: ls:=by
    intro j
    rw [Bf hsz',hls j,List.mem_cons]
   have cont : ∀ (v : Value) (A : AV) (c' : Cx) (H' : Heap) (e1 : Env),Tr c H c' H' -> oI n c' e1 a -> EV c' A v -> pV o.dst A e1 (fun e'=>Dc F L ops.toList fuel (i :: ls) e' H' k) ->
     wpAny P .any ops Q fuel (listed.setIfInBounds i true) (a.put o.dst v) c'.w:=by
    intro v A c' H' e1 iI ha' hv hk
    have hw : ∀ d,o.dst = some d -> d ∈ dV ops.toList:=fun d hd=>kQ (List.mem_of_getElem? hol) hd
    cases hd : o.dst with
    | none =>
      rw [hd] at hk
      exact ih (i :: ls) _ e1 H' c' a (by simpa using hsz) XP hcnt (htr.trans iI) ha' hfr hk
    | some d =>
      rw [hd] at hk
      refine ih (i :: ls) _ _ H' c' _ (by simpa using hsz) XP hcnt (htr.trans iI) (ha'.put (WG d hd) hv) ?_ hk
      intro t ht
      simp only [Act.put]
      rw [getD_set_ne (fun h=>ht (by rw [<- h]; exact hw d hd))]
      exact hfr t ht
   obtain ⟨e1,ha1,hcase⟩:=wo ha h
   unfold wpOp
   rw [ho]
   simp only []
   rcases hcase with ⟨hw,h1⟩ | ⟨hw,h1⟩
   ·rw [if_pos hw]
    refine .inl ?_
    have hop:=mO hL hFn htr.hr ha1.env hb' (tH h1)
    unfold Oper.wp
    rcases hop with ⟨v,d,A,H',g1,g2,g3,g4⟩ | ⟨d,H',g1,g2,g3⟩ | ⟨f,args,g1,g2⟩
    ·rw [g1,Oper.upon_value]
     exact cont v A d H' e1 g2 (ha1.mono g2.le) g3 g4
    ·rw [g1,Oper.upon_skip]
     cases hd : o.dst with
     | none=>rw [hd] at g3; exact hd ▸ cont undef .und d H' e1 g2 (ha1.mono g2.le) trivial (by rw [hd]; exact g3)
     | some d'=>rw [hd] at g3; exact g3.elim
    ·rw [g1,Oper.upon_enter]
     refine Calls.mono g2 ?_
     rintro _ w' ⟨v,d,R,H',rfl,rfl,g4,g5,g3⟩
     exact cont v R d H' e1 g4 (ha1.mono g4.le) g5 g3
   ·rw [hw]
    simp only [Bool.false_eq_true,if_false]
    exact cont undef (.dS []) c H e1 (.refl htr.hr) ha1 FN h1

end
end Go.AL

namespace Go.AL

mutual
theorem wz {j : Nat} {B : AV} : ∀ {A : AV} {k : AV -> Prop},BD j B A k ↔ k (lI j B A)
 | .ptr i p off,k=>by
   simp only [BD,lI]
   split <;> exact Iff.rfl
 | .fn f cap,k=>by simp only [BD,lI]; exact sW
 | .ag l,k=>by simp only [BD,lI]; exact sW
 | .dS l,k=>by simp only [BD,lI]; exact sW
 | .jB t x,k=>by simp only [BD,lI]; exact wz
 | .bool _,_ | .tt,_ | .ff,_ | .dec _,_ | .int _ _,_ | .str _,_ | .dU,_ | .bH,_ | .sl _ _ _,_ | .ms _ _ _ _ _,_ | .cp _,_ | .fV,_ | .aY,_ | .mp _,_ | .gs _ _,_ | .bm _ _,_ | .jF,_ | .und,_=>by simp only [BD,lI]
theorem sW {j : Nat} {B : AV} : ∀ {l : List AV} {k : List AV -> Prop},EL j B l k ↔ k (uj j B l)
 | [],_=>Iff.rfl
 | x :: l,k=>by
   simp only [EL,uj]
   exact wz.trans sW
end

theorem QM {j : Nat} {B : AV} (A : AV) : cZ (lI j B A) = cZ A:=by
 cases A <;> first
  | rfl
  | (simp only [lI]; split <;> rfl)

theorem uH {j : Nat} {B A : AV} {v : Value} (h : dQ A v) : dQ (lI j B A) v:=by
 unfold dQ at *; rw [QM]; exact h

mutual
theorem Dj {d : Cx} {j : Nat} {B : AV} (hP : ∀ cs,VR d (.ptr j [] 0) cs -> VR d (.cp B) cs) : ∀ (A : AV) (cs : List Value),VR d A cs -> VR d (lI j B A) cs
 | .ptr i p off,cs,h=>by
   simp only [lI]
   split
   ·rename_i hb
    rw [Nat.eq_of_beq_eq_true hb] at h
    exact hP cs h
   ·exact h
 | .fn f cap,cs,h=>by
   simp only [lI,VR] at h ⊢
   obtain ⟨vs,h1,h2⟩:=h
   exact ⟨vs,h1,LW hP cap vs h2⟩
 | .ag l,cs,h=>by
   simp only [lI,VR] at h ⊢
   exact NK hP l cs h
 | .dS l,cs,h=>by simp only [VR,Rd] at h
 | .jB t x,cs,h=>by
   simp only [lI,VR] at h ⊢
   obtain ⟨v,h1,h2,h3⟩:=h
   exact ⟨v,h1,uH h2,Dj hP x _ h3⟩
 | .bool _,_,h | .tt,_,h | .ff,_,h | .dec _,_,h | .int _ _,_,h | .str _,_,h | .dU,_,h | .bH,_,h | .sl _ _ _,_,h | .ms _ _ _ _ _,_,h | .cp _,_,h | .fV,_,h | .aY,_,h | .mp _,_,h | .gs _ _,_,h | .bm _ _,_,h | .jF,_,h | .und,_,h=>by
   simp only [lI]; exact h
theorem NK {d : Cx} {j : Nat} {B : AV} (hP : ∀ cs,VR d (.ptr j [] 0) cs -> VR d (.cp B) cs) : ∀ (l : List AV) (cs : List Value),kE d l cs -> kE d (uj j B l) cs
 | [],_,h=>h
 | x :: l,cs,h=>by
   simp only [kE,uj] at h ⊢
   obtain ⟨a,b,h1,h2,h3⟩:=h
   exact ⟨a,b,h1,Dj hP x _ h2,NK hP l _ h3⟩
theorem LW {d : Cx} {j : Nat} {B : AV} (hP : ∀ cs,VR d (.ptr j [] 0) cs -> VR d (.cp B) cs) : ∀ (l : List AV) (vs : List Value),VA d l vs -> VA d (uj j B l) vs
 | [],_,h=>h
 | x :: l,vs,h=>by
   simp only [VA,uj] at h ⊢
   obtain ⟨v,r,h1,h2,h3,h4⟩:=h
   exact ⟨v,r,h1,uH h2,Dj hP x _ h3,LW hP l _ h4⟩
end

theorem Xi {d : Cx} {j : Nat} {B : AV} (hP : ∀ cs,VR d (.ptr j [] 0) cs -> VR d (.cp B) cs) {A : AV} {v : Value} (h : EV d A v) : EV d (lI j B A) v:=by
 have key : VV d A v -> VV d (lI j B A) v:=fun h=>⟨uH h.1,Dj hP _ _ h.2⟩
 cases A with
 | und=>trivial
 | dS l =>
   obtain ⟨vs,h1,h2⟩:=h
   exact ⟨vs,h1,LW hP l _ h2⟩
 | ptr i p off=>exact aS (key h)
 | _=>exact key h

theorem IK {j : Nat} {B : AV} : ∀ {e : Env} {k : Env -> Prop},OJ j B e k -> ∃ e',k e' /\ ∀ t A',dL e' t = some A' -> ∃ A,dL e t = some A /\ (A' = A \/ A' = lI j B A)
 | [],k,h=>⟨[],h,fun t A h=>by simp [dL] at h⟩
 | (i,A) :: e,k,h=>by
   simp only [OJ] at h
   have key : ∀ A1,(A1 = A \/ A1 = lI j B A) -> (OJ j B e fun m=>k ((i,A1) :: m)) -> ∃ e',k e' /\ ∀ t A',dL e' t = some A' -> ∃ A0,dL ((i,A) :: e) t = some A0 /\ (A' = A0 \/ A' = lI j B A0):=by
    intro A1 hA1 h
    obtain ⟨e',h1,h2⟩:=IK h
    refine ⟨_,h1,fun t A' h=>?_⟩
    simp only [dL] at h ⊢
    cases hb : Nat.beq i t with
    | true =>
      rw [hb] at h
      obtain rfl:=Option.some.inj h
      exact ⟨A,rfl,hA1⟩
    | false=>rw [hb] at h; exact h2 t A' h
   cases hp : OH j A with
   | false=>rw [hp] at h; exact key A (.inl rfl) h
   | true=>rw [hp] at h; exact key _ (.inr rfl) (wz.1 h)

inductive qC (j : Nat) (B : AV) : Heap -> Heap -> Prop where
 | nil : qC j B [] []
 | gone (i : Nat) (o : HO) (hb : Nat.beq i j = true) {H G : Heap} (h : qC j B H G) : qC j B ((i,o) :: H) ((i,.gone) :: G)
 | keep (i : Nat) (o : HO) (hb : Nat.beq i j = false) {H G : Heap} (h : qC j B H G) : qC j B ((i,o) :: H) ((i,o) :: G)
 | box (i : Nat) (A : AV) (hb : Nat.beq i j = false) {H G : Heap} (h : qC j B H G) : qC j B ((i,.box A) :: H) ((i,.box (lI j B A)) :: G)

theorem rE {j : Nat} {B : AV} : ∀ {H : Heap} {k : Heap -> Prop},KQ j B H k -> ∃ G,k G /\ qC j B H G
 | [],k,h=>⟨[],h,.nil⟩
 | (i,o) :: H,k,h=>by
   simp only [KQ] at h
   cases hb : Nat.beq i j with
   | true =>
     rw [hb] at h
     obtain ⟨G,h1,h2⟩:=rE h
     exact ⟨_,h1,.gone i o hb h2⟩
   | false =>
     rw [hb] at h
     dsimp only at h
     split at h
     ·rename_i A
      cases hp : OH j A with
      | false =>
        rw [hp] at h
        obtain ⟨G,h1,h2⟩:=rE h
        exact ⟨_,h1,.keep i _ hb h2⟩
      | true =>
        rw [hp] at h
        obtain ⟨G,h1,h2⟩:=rE (wz.1 h)
        exact ⟨_,h1,.box i A hb h2⟩
     ·obtain ⟨G,h1,h2⟩:=rE h
      exact ⟨_,h1,.keep i _ hb h2⟩

theorem qC.mem {j : Nat} {B : AV} {H G : Heap} (h : qC j B H G) : ∀ y ∈ G,(y.1 = j /\ y.2 = .gone) \/ ∃ o,(y.1,o) ∈ H /\ y.1 ≠ j /\ (y.2 = o \/ ∃ A,o = .box A /\ y.2 = .box (lI j B A)):=by
 induction h with
 | nil=>simp
 | gone i o hb h ih =>
   intro y hy
   rcases List.mem_cons.1 hy with rfl | hy
   ·exact .inl ⟨Nat.eq_of_beq_eq_true hb,rfl⟩
   ·exact (ih y hy).imp id fun ⟨o',h1,h2⟩=>⟨o',List.mem_cons_of_mem _ h1,h2⟩
 | keep i o hb h ih =>
   intro y hy
   rcases List.mem_cons.1 hy with rfl | hy
   ·exact .inr ⟨o,List.mem_cons_self,eG hb,.inl rfl⟩
   ·exact (ih y hy).imp id fun ⟨o',h1,h2⟩=>⟨o',List.mem_cons_of_mem _ h1,h2⟩
 | box i A hb h ih =>
   intro y hy
   rcases List.mem_cons.1 hy with rfl | hy
   ·exact .inr ⟨_,List.mem_cons_self,eG hb,.inr ⟨A,rfl,rfl⟩⟩
   ·exact (ih y hy).imp id fun ⟨o',h1,h2⟩=>⟨o',List.mem_cons_of_mem _ h1,h2⟩

theorem qC.next {j : Nat} {B : AV} {H G : Heap} (h : qC j B H G) : nextId G = nextId H:=by
 cases h <;> rfl

theorem qC.ids {j : Nat} {B : AV} {H G : Heap} (h : qC j B H G) : ak H -> ak G:=by
 have lt : ∀ {H G : Heap},qC j B H G -> ∀ n,(∀ x ∈ H,x.1 < n) -> ∀ y ∈ G,y.1 < n:=by
  intro H G h
  induction h with
  | nil=>simp
  | gone i o hb h ih=>intro n hn y hy; rcases List.mem_cons.1 hy with rfl | hy; exact hn (i,o) List.mem_cons_self; exact ih n (fun x hx=>hn x (List.mem_cons_of_mem _ hx)) y hy
  | keep i o hb h ih=>intro n hn y hy; rcases List.mem_cons.1 hy with rfl | hy; exact hn (i,o) List.mem_cons_self; exact ih n (fun x hx=>hn x (List.mem_cons_of_mem _ hx)) y hy
  | box i A hb h ih=>intro n hn y hy; rcases List.mem_cons.1 hy with rfl | hy; exact hn (i,.box A) List.mem_cons_self; exact ih n (fun x hx=>hn x (List.mem_cons_of_mem _ hx)) y hy
 induction h with
 | nil=>exact id
 | gone i o hb h ih=>intro hi; simp only [ak] at hi ⊢; exact ⟨lt h i hi.1,ih hi.2⟩
 | keep i o hb h ih=>intro hi; simp only [ak] at hi ⊢; exact ⟨lt h i hi.1,ih hi.2⟩
 | box i A hb h ih=>intro hi; simp only [ak] at hi ⊢; exact ⟨lt h i hi.1,ih hi.2⟩

theorem qC.tp {j : Nat} {B : AV} {H G : Heap} (h : qC j B H G) {A0 : AV} (hj : hget H j = some (.box A0)) : dh G = dh H:=by
 have key : ∀ {H G : Heap},qC j B H G -> ∀ k,k ≠ j -> dh G k = dh H k:=by
  intro H G h
  induction h with
  | nil=>intro k _; rfl
  | gone i o hb h ih =>
    intro k hk
    have hik : Nat.beq i k = false:=by
     cases h' : Nat.beq i k with
     | false=>rfl
     | true=>exact absurd ((Nat.eq_of_beq_eq_true h').symm.trans (Nat.eq_of_beq_eq_true hb)) hk
    have:=ih k hk
    simp only [dh,hget,hik] at this ⊢; exact this
  | keep i o hb h ih =>
    intro k hk
    have:=ih k hk
    simp only [dh,hget] at this ⊢
    cases Nat.beq i k with
    | true=>rfl
    | false=>exact this
  | box i A hb h ih =>
    intro k hk
    have:=ih k hk
    simp only [dh,hget] at this ⊢
    cases Nat.beq i k with
    | true=>rfl
    | false=>exact this
 have kj : ∀ {H G : Heap},qC j B H G -> hget G j = none \/ hget G j = some .gone:=by
  intro H G h
  induction h with
  | nil=>exact .inl rfl
  | gone i o hb h ih=>simp only [hget,hb]; exact .inr trivial
  | keep i o hb h ih=>simp only [hget,hb]; exact ih
  | box i A hb h ih=>simp only [hget,hb]; exact ih
 funext k
 by_cases hk : k = j
 ·subst hk
  have h1 : dh H k = none:=by simp only [dh,hj]
  rw [h1]
  rcases kj h with h2 | h2 <;> simp only [dh,h2]
 ·exact key h k hk

theorem yM : ∀ {H : Heap} {k i : Nat} {o o' : HO},(i,o) ∈ H -> i ≠ k -> (i,o) ∈ hset H k o'
 | (x,y) :: H,k,i,o,o',h,hn=>by
   simp only [hset]
   cases hb : Nat.beq x k with
   | true =>
     rcases List.mem_cons.1 h with h | h
     ·exact absurd (by rw [<- Nat.eq_of_beq_eq_true hb]; exact congrArg Prod.fst h) hn
     ·exact List.mem_cons_of_mem _ h
   | false =>
     rcases List.mem_cons.1 h with h | h
     ·rw [h]; exact List.mem_cons_self
     ·exact List.mem_cons_of_mem _ (yM h hn)

theorem uP {n : Nat} : ∀ {js : List Nat} {e : Env} {H : Heap} {c : Cx} {a : Act} {k : Env -> Heap -> Prop},HR c H -> oI n c e a -> OI js e H k -> ∃ e1 H1 d,d.w = c.w /\ Tr c H d H1 /\ oI n d e1 a /\ k e1 H1
 | [],e,H,c,a,k,hr,ha,h=>⟨e,H,c,rfl,.refl hr,ha,h⟩
 | j :: js,e,H,c,a,k,hr,ha,h=>by
   simp only [OI] at h
   obtain ⟨o,ho,h⟩:=dw.1 h
   split at h
   case h_2=>exact h.elim
   rename_i A
   obtain ⟨⟨hpu,hst⟩,h⟩:=h
   obtain ⟨e1,h,he1⟩:=IK h
   obtain ⟨G,h,hG⟩:=rE h
   obtain ⟨cs,ty,g1,g2,g3⟩:=hr.oh ho
   let d : Cx:={ c with Im:=fun b o=>c.Im b o \/ b = c.ρ j }
   have le : c.Le d:=⟨fun b o h=>⟨.inl h,rfl⟩,Nat.le_refl _,fun _ _=>rfl,fun _ _ _ h=>.inl ⟨h,rfl⟩⟩
   have IJ : Rd d.w d.Im A cs:=by
    have:=ng A cs hpu g2
    rw [hst] at this
    exact dN le.im _ _ this
   have hP : ∀ cs',VR d (.ptr j [] 0) cs' -> VR d (.cp A) cs':=by
    intro cs' h
    simp only [VR] at h
    obtain ⟨_,rfl⟩:=h
    simp only [VR,Rd]
    refine ⟨_,cs,rfl,rfl,fun i v hi=>⟨?_,.inr rfl⟩,IJ⟩
    show c.w.cell? _ = _
    rw [cell_of_heap g1]
    simpa using hi
   have htr : Tr c H d (hset H j .gone):=by
    refine Tr.set hr ho le rfl (by rw [iF ho (by intros; simp) (by intros; simp)]; exact hr.tp) (fun _ _=>rfl) rfl rfl rfl (Nat.le_refl _) (fun _ _ _=>rfl) ?_ ?_ trivial
    ·rintro b x (h | h)
     ·exact .inl h
     ·exact .inr (.inr (by simp [aC,h]))
    ·intro b h; simp [aC] at h
   have D6:=hG.ids hr.ids
   have hmem : ∀ y ∈ G,(y.1 = j /\ y.2 = .gone) \/ ∃ o,(y.1,o) ∈ hset H j .gone /\ aC d y = aC d (y.1,o) /\ (o.Ok d y.1 -> y.2.Ok d y.1):=by
    intro y hy
    rcases hG.mem y hy with h | ⟨o,h1,h2,h3⟩
    ·exact .inl h
    ·refine .inr ⟨o,?_,?_,?_⟩
     ·exact yM h1 h2
     ·obtain ⟨i,y2⟩:=y
      rcases h3 with rfl | ⟨A',rfl,h3⟩
      ·rfl
      ·dsimp only at h3; subst h3; rfl
     ·intro hok
      obtain ⟨i,y2⟩:=y
      rcases h3 with rfl | ⟨A',rfl,h3⟩
      ·exact hok
      ·dsimp only at h3; subst h3
       obtain ⟨cs',ty',k1,k2,k3⟩:=hok
       exact ⟨cs',ty',k1,Dj hP _ _ k2,k3⟩
   have hr2 : HR d G:=by
    refine ⟨?_,?_,D6,htr.hr.im,?_,?_⟩
    ·rw [hG.next]; exact hr.nx
    ·rw [hG.tp ho]; exact hr.tp
    ·intro y hy
     rcases hmem y hy with ⟨_,h⟩ | ⟨o,h1,_,h3⟩
     ·rw [h]; trivial
     ·exact h3 (htr.hr.ok _ h1)
    ·refine eU D6 fun x hx y hy hn b hb hb'=>?_
     rcases hmem x hx with ⟨_,h⟩ | ⟨o,h1,h2,_⟩
     ·simp [aC,h] at hb
     ·rcases hmem y hy with ⟨_,h⟩ | ⟨o',h1',h2',_⟩
      ·simp [aC,h] at hb'
      ·rw [h2] at hb; rw [h2'] at hb'
       exact htr.hr.apart' h1 h1' hn hb hb'
   have zn : Tr c H d G:=by
    refine ⟨hr2,le,rfl,rfl,rfl,Nat.le_refl _,fun _ _ _=>rfl,?_,htr.TW⟩
    intro y hy b hb
    rcases hmem y hy with ⟨_,h⟩ | ⟨o,h1,h2,_⟩
    ·simp [aC,h] at hb
    ·rw [h2] at hb; exact htr.own _ h1 b hb
   have ha1 : oI n d e1 a:=by
    have ha':=ha.mono le
    refine ⟨fun t A' hA'=>?_,ha.defers,ha.size⟩
    obtain ⟨A0,h1,h2⟩:=he1 t A' hA'
    rcases h2 with rfl | rfl
    ·exact ha'.env t _ h1
    ·exact Xi hP (ha'.env t _ h1)
   obtain ⟨e2,H2,d2,k1,k2,k3,k4⟩:=uP hr2 ha1 h
   exact ⟨e2,H2,d2,k1,zn.trans k2,k3,k4⟩

theorem rH {L : Lay} {H : Heap} : ∀ {pl : List (Nat × AV × AV)} {k : Prop},Jd L H pl k ↔ (∀ p ∈ pl,iU L p.1 p.2.1 H fun R=>R = p.2.2) /\ k
 | [],k=>by simp [Jd]
 | (t,A,R) :: pl,k=>by
   simp only [Jd,rH,List.mem_cons,forall_eq_or_imp,and_assoc]

theorem lq {F : FT} {L : Lay} {ops : List Oper} {fl : List Nat} {k : Env -> Heap -> Prop} : ∀ {l : List (Oper × Bool)} {i : Nat} {pl : List (Nat × AV × AV)} {e : Env} {H : Heap},nV F L ops fl i l pl e H k ->
  ∃ rs ef Hf,rs.map (fun r=>(r.o,r.nb)) = l /\ lQ F L ops rs e H ef Hf /\ k ef Hf /\
    (∀ p ∈ pl,∀ rj ∈ rs,rj.nb = false -> rj.ran = true -> qm fl rj.o.op = true -> iU L p.1 p.2.1 rj.H' fun R=>R = p.2.2) /\
    ∀ (a b : Nat) (ra rb : Rec),a < b -> rs[a]? = some ra -> rs[b]? = some rb -> oq fl (i + a) = true -> aZ ra.o.op = true -> ra.nb = false -> ra.ran = true -> rb.nb = false -> rb.ran = true -> qm fl rb.o.op = true -> eP F L ra rb.H'
 | [],i,pl,e,H,h=>⟨[],e,H,rfl,⟨rfl,rfl⟩,h,by simp,fun a b ra rb _ h=>by simp at h⟩
 | (o,nb) :: l,i,pl,e,H,h=>by
   simp only [nV] at h
   obtain ⟨e',b,h1,h2,h3,h4⟩:=uO h
   -- what is known of the rest does for the whole,if the first is no such load
   have step : ∀ {r : Rec} {rs : List Rec} {zk : List (Nat × AV × AV)},(∀ p ∈ pl,p ∈ zk) -> (∀ p ∈ pl,r.nb = false -> r.ran = true -> qm fl r.o.op = true -> iU L p.1 p.2.1 r.H' fun R=>R = p.2.2) ->
     (∀ p ∈ zk,∀ rj ∈ rs,rj.nb = false -> rj.ran = true -> qm fl rj.o.op = true -> iU L p.1 p.2.1 rj.H' fun R=>R = p.2.2) ->
     (oq fl i = true -> aZ r.o.op = true -> r.nb = false -> r.ran = true -> ∃ t x B,r.o.op = .load t x /\ (t,B,r.A) ∈ zk /\ ∀ K : AV -> Prop,K B -> bI r.e x K) ->
     (∀ (a b : Nat) (ra rb : Rec),a < b -> rs[a]? = some ra -> rs[b]? = some rb -> oq fl (i + 1 + a) = true -> aZ ra.o.op = true -> ra.nb = false -> ra.ran = true -> rb.nb = false -> rb.ran = true -> qm fl rb.o.op = true -> eP F L ra rb.H') ->
     (∀ p ∈ pl,∀ rj ∈ r :: rs,rj.nb = false -> rj.ran = true -> qm fl rj.o.op = true -> iU L p.1 p.2.1 rj.H' fun R=>R = p.2.2) /\
     ∀ (a b : Nat) (ra rb : Rec),a < b -> (r :: rs)[a]? = some ra -> (r :: rs)[b]? = some rb -> oq fl (i + a) = true -> aZ ra.o.op = true -> ra.nb = false -> ra.ran = true -> rb.nb = false -> rb.ran = true -> qm fl rb.o.op = true -> eP F L ra rb.H':=by
    intro r rs zk s1 s2 s3 s4 s5
    refine ⟨fun p hp rj hj=>?_,fun a b ra rb hab ha hb g1 g2 g3 g4 g5 g6 g7=>?_⟩
    ·rcases List.mem_cons.1 hj with rfl | hj
     ·exact s2 p hp
     ·exact s3 p (s1 p hp) rj hj
    ·obtain ⟨b,rfl⟩ : ∃ c,b = c + 1:=⟨b - 1,by omega⟩
     simp only [List.getElem?_cons_succ] at hb
     cases a with
     | zero =>
       simp at ha; subst ha
       obtain ⟨t,x,B,k1,k2,k3⟩:=s4 g1 g2 g3 g4
       have:=s3 _ k2 rb (List.mem_of_getElem? hb) g5 g6 g7
       unfold eP
       rw [k1]
       simp only [gq]
       refine k3 _ ?_
       obtain ⟨R,k4,k5⟩:=iT _ _ _ _ _ this
       exact k5 _ ⟨k4,trivial⟩
     | succ a =>
       simp only [List.getElem?_cons_succ] at ha
       exact s5 a b ra rb (by omega) ha hb (by rw [show i + 1 + a = i + (a + 1) by omega]; exact g1) g2 g3 g4 g5 g6 g7
   cases b with
   | false =>
     obtain ⟨rs,ef,Hf,g1,g2,g3,g4,g5⟩:=lq (jV.1 (h4 rfl))
     exact ⟨⟨o,nb,false,e',.dS [],H,H⟩ :: rs,ef,Hf,by simp [g1],⟨rfl,h1,h2,(fun h=>by cases h),fun _=>⟨rfl,rfl⟩,g2⟩,g3,step (fun _ h=>h) (fun _ _ _ h=>by cases h) g4 (fun _ _ _ h=>by cases h) g5⟩
   | true =>
     have h3:=h3 rfl
     cases nb with
     | true =>
       obtain ⟨A,h5,h6⟩:=Gu _ h3
       obtain ⟨rs,ef,Hf,g1,g2,g3,g4,g5⟩:=lq (jV.1 h5)
       exact ⟨⟨o,true,true,e',A,H,H⟩ :: rs,ef,Hf,by simp [g1],⟨rfl,h1,h2,(fun _=>.inl ⟨rfl,rfl,h6⟩),(fun h=>by cases h),g2⟩,g3,step (fun _ h=>h) (fun _ _ h=>by cases h) g4 (fun _ _ h=>by cases h) g5⟩
     | false =>
       obtain ⟨hn,h3⟩:=l9.1 h3
       rcases Gv hn _ _ h3 with ⟨A,H',h5,h6⟩ | ⟨H',h5,h6⟩
       ·obtain ⟨c1,h5⟩:=rH.1 h5
        have hadd : ∃ zk,(∀ p ∈ pl,p ∈ zk) /\ (oq fl i = true -> aZ o.op = true -> ∃ t x B,o.op = .load t x /\ (t,B,A) ∈ zk /\ ∀ K : AV -> Prop,K B -> bI e' x K) /\ pV o.dst A e' fun e'=>nV F L ops fl (i + 1) l zk e' H' k:=by
         unfold SX at h5
         split at h5
         ·rename_i t x _ ho
          obtain ⟨B,h7,h8⟩:=aT _ _ _ h5
          exact ⟨_,fun p hp=>List.mem_cons_of_mem _ hp,fun _ _=>⟨t,x,B,ho,List.mem_cons_self,h8⟩,h7⟩
         ·rename_i hne
          refine ⟨pl,fun _ h=>h,fun hm hl=>?_,h5⟩
          cases ho : o.op with
          | load t x=>exact (hne t x hm ho).elim
          | _=>simp [ho,aZ] at hl
        obtain ⟨zk,p1,p2,h5⟩:=hadd
        obtain ⟨rs,ef,Hf,g1,g2,g3,g4,g5⟩:=lq (jV.1 h5)
        refine ⟨⟨o,false,true,e',A,H,H'⟩ :: rs,ef,Hf,by simp [g1],⟨rfl,h1,h2,(fun _=>.inr (.inl ⟨rfl,h6⟩)),(fun h=>by cases h),g2⟩,g3,step p1 (fun p hp _ _ hv=>?_) g4 (fun hm hl _ _=>p2 hm hl) g5⟩
        dsimp only at hv
        rw [hv] at c1
        exact c1 p hp
       ·cases hd : o.dst with
        | some d=>simp only [hd] at h5
        | none =>
          simp only [hd] at h5
          obtain ⟨c1,h5⟩:=rH.1 h5
          obtain ⟨rs,ef,Hf,g1,g2,g3,g4,g5⟩:=lq h5
          have YQ : ∀ t x,o.op ≠ .load t x:=by
           intro t x ho
           rw [ho] at h6
           have:=h6 (fun _ _=>False) (fun _=>True) trivial
           simp only [gq] at this
           obtain ⟨A,q1,_⟩:=aT _ _ _ this
           obtain ⟨R,q2,_⟩:=iT _ _ _ _ _ q1
           exact q2
          refine ⟨⟨o,false,true,e',.und,H,H'⟩ :: rs,ef,Hf,by simp [g1],⟨rfl,h1,h2,(fun _=>.inr (.inr ⟨rfl,hd,h6⟩)),(fun h=>by cases h),?_⟩,g3,step (fun _ h=>h) (fun p hp _ _ hv=>by dsimp only at hv; rw [hv] at c1; exact c1 p hp) g4 (fun _ h=>?_) g5⟩
          ·simpa [qP,hd] using g2
          ·exfalso
           cases ho : o.op with
           | load t x=>exact YQ t x ho
           | _=>simp [ho,aZ] at h

theorem Je {L : Lay} {t : Nat} {A R : AV} : ∀ {hs : List Heap} {k : Prop},RF L t A R hs k ↔ (∀ G ∈ hs,iU L t A G fun R'=>R' = R) /\ k
 | [],k=>by simp [RF]
 | G :: hs,k=>by
   simp only [RF,Je,List.mem_cons,forall_eq_or_imp,and_assoc]

structure GF (F : FT) (L : Lay) (gl : List Nat) (i : Nat) (hs : List Heap) (rs : List Rec) : Prop where
 g1 : ∀ G ∈ hs,∀ (b : Nat) (rb : Rec),rs[b]? = some rb -> oq gl (i + b) = true -> aZ rb.o.op = true -> rb.nb = false -> rb.ran = true -> eP F L rb G
 g2 : ∀ (a b : Nat) (ra rb : Rec),a < b -> rs[a]? = some ra -> rs[b]? = some rb -> oq gl (i + b) = true -> aZ rb.o.op = true -> rb.nb = false -> rb.ran = true -> ra.nb = false -> aZ ra.o.op = false -> ra.ran = true -> eP F L rb ra.H

theorem GF.step {F : FT} {L : Lay} {gl : List Nat} {i : Nat} {hs hs' : List Heap} {r : Rec} {rs : List Rec} (t1 : ∀ G ∈ hs,G ∈ hs')
  (t2 : oq gl i = true -> aZ r.o.op = true -> r.nb = false -> r.ran = true -> ∀ G ∈ hs,eP F L r G) (t3 : r.nb = false -> aZ r.o.op = false -> r.ran = true -> r.H ∈ hs') (h : GF F L gl (i + 1) hs' rs) : GF F L gl i hs (r :: rs):=by
 refine ⟨fun G hG b rb hb k1 k2 k3 k4=>?_,fun a b ra rb hab ha hb k1 k2 k3 k4 k5 k6 k7=>?_⟩
 ·cases b with
  | zero=>simp at hb; subst hb; exact t2 k1 k2 k3 k4 G hG
  | succ b =>
    simp only [List.getElem?_cons_succ] at hb
    exact h.g1 G (t1 G hG) b rb hb (by rw [show i + 1 + b = i + (b + 1) by omega]; exact k1) k2 k3 k4
 ·obtain ⟨b,rfl⟩ : ∃ c,b = c + 1:=⟨b - 1,by omega⟩
  simp only [List.getElem?_cons_succ] at hb
  have k1 : oq gl (i + 1 + b) = true:=by rw [show i + 1 + b = i + (b + 1) by omega]; exact k1
  cases a with
  | zero=>simp at ha; subst ha; exact h.g1 _ (t3 k5 k6 k7) b rb hb k1 k2 k3 k4
  | succ a =>
    simp only [List.getElem?_cons_succ] at ha
    exact h.g2 a b ra rb (by omega) ha hb k1 k2 k3 k4 k5 k6 k7

theorem lu {F : FT} {L : Lay} {ops : List Oper} {fl gl : List Nat} {k : Env -> Heap -> Prop} : ∀ {l : List (Oper × Bool)} {i : Nat} {pl : List (Nat × AV × AV)} {hs : List Heap} {e : Env} {H : Heap},lV F L ops fl gl i l pl hs e H k ->
  ∃ rs ef Hf,rs.map (fun r=>(r.o,r.nb)) = l /\ lQ F L ops rs e H ef Hf /\ k ef Hf /\
    ((∀ p ∈ pl,∀ rj ∈ rs,rj.nb = false -> rj.ran = true -> qm fl rj.o.op = true -> iU L p.1 p.2.1 rj.H' fun R=>R = p.2.2) /\
    ∀ (a b : Nat) (ra rb : Rec),a < b -> rs[a]? = some ra -> rs[b]? = some rb -> oq fl (i + a) = true -> aZ ra.o.op = true -> ra.nb = false -> ra.ran = true -> rb.nb = false -> rb.ran = true -> qm fl rb.o.op = true -> eP F L ra rb.H') /\ GF F L gl i hs rs
 | [],i,pl,hs,e,H,h=>⟨[],e,H,rfl,⟨rfl,rfl⟩,h,⟨by simp,fun a b ra rb _ h=>by simp at h⟩,⟨fun G _ b rb h=>by simp at h,fun a b ra rb _ h=>by simp at h⟩⟩
 | (o,nb) :: l,i,pl,hs,e,H,h=>by
   simp only [lV] at h
   obtain ⟨e',b,h1,h2,h3,h4⟩:=uO h
   -- what is known of the rest does for the whole,if the first is no such load
   have step : ∀ {r : Rec} {rs : List Rec} {zk : List (Nat × AV × AV)},(∀ p ∈ pl,p ∈ zk) -> (∀ p ∈ pl,r.nb = false -> r.ran = true -> qm fl r.o.op = true -> iU L p.1 p.2.1 r.H' fun R=>R = p.2.2) ->
     (∀ p ∈ zk,∀ rj ∈ rs,rj.nb = false -> rj.ran = true -> qm fl rj.o.op = true -> iU L p.1 p.2.1 rj.H' fun R=>R = p.2.2) ->
     (oq fl i = true -> aZ r.o.op = true -> r.nb = false -> r.ran = true -> ∃ t x B,r.o.op = .load t x /\ (t,B,r.A) ∈ zk /\ ∀ K : AV -> Prop,K B -> bI r.e x K) ->
     (∀ (a b : Nat) (ra rb : Rec),a < b -> rs[a]? = some ra -> rs[b]? = some rb -> oq fl (i + 1 + a) = true -> aZ ra.o.op = true -> ra.nb = false -> ra.ran = true -> rb.nb = false -> rb.ran = true -> qm fl rb.o.op = true -> eP F L ra rb.H') ->
     (∀ p ∈ pl,∀ rj ∈ r :: rs,rj.nb = false -> rj.ran = true -> qm fl rj.o.op = true -> iU L p.1 p.2.1 rj.H' fun R=>R = p.2.2) /\
     ∀ (a b : Nat) (ra rb : Rec),a < b -> (r :: rs)[a]? = some ra -> (r :: rs)[b]? = some rb -> oq fl (i + a) = true -> aZ ra.o.op = true -> ra.nb = false -> ra.ran = true -> rb.nb = false -> rb.ran = true -> qm fl rb.o.op = true -> eP F L ra rb.H':=by
    intro r rs zk s1 s2 s3 s4 s5
    refine ⟨fun p hp rj hj=>?_,fun a b ra rb hab ha hb g1 g2 g3 g4 g5 g6 g7=>?_⟩
    ·rcases List.mem_cons.1 hj with rfl | hj
     ·exact s2 p hp
     ·exact s3 p (s1 p hp) rj hj
    ·obtain ⟨b,rfl⟩ : ∃ c,b = c + 1:=⟨b - 1,by omega⟩
     simp only [List.getElem?_cons_succ] at hb
     cases a with
     | zero =>
       simp at ha; subst ha
       obtain ⟨t,x,B,k1,k2,k3⟩:=s4 g1 g2 g3 g4
       have:=s3 _ k2 rb (List.mem_of_getElem? hb) g5 g6 g7
       unfold eP
       rw [k1]
       simp only [gq]
       refine k3 _ ?_
       obtain ⟨R,k4,k5⟩:=iT _ _ _ _ _ this
       exact k5 _ ⟨k4,trivial⟩
     | succ a =>
       simp only [List.getElem?_cons_succ] at ha
       exact s5 a b ra rb (by omega) ha hb (by rw [show i + 1 + a = i + (a + 1) by omega]; exact g1) g2 g3 g4 g5 g6 g7
   cases b with
   | false =>
     obtain ⟨rs,ef,Hf,g1,g2,g3,⟨g4,g5⟩,g6⟩:=lu (jV.1 (h4 rfl))
     exact ⟨⟨o,nb,false,e',.dS [],H,H⟩ :: rs,ef,Hf,by simp [g1],⟨rfl,h1,h2,(fun h=>by cases h),fun _=>⟨rfl,rfl⟩,g2⟩,g3,step (fun _ h=>h) (fun _ _ _ h=>by cases h) g4 (fun _ _ _ h=>by cases h) g5,.step (fun _ h=>h) (fun _ _ _ h=>by cases h) (fun _ _ h=>by cases h) g6⟩
   | true =>
     have h3:=h3 rfl
     cases nb with
     | true =>
       obtain ⟨A,h5,h6⟩:=Gu _ h3
       obtain ⟨rs,ef,Hf,g1,g2,g3,⟨g4,g5⟩,g6⟩:=lu (jV.1 h5)
       exact ⟨⟨o,true,true,e',A,H,H⟩ :: rs,ef,Hf,by simp [g1],⟨rfl,h1,h2,(fun _=>.inl ⟨rfl,rfl,h6⟩),(fun h=>by cases h),g2⟩,g3,step (fun _ h=>h) (fun _ _ h=>by cases h) g4 (fun _ _ h=>by cases h) g5,.step (fun _ h=>h) (fun _ _ h=>by cases h) (fun h=>by cases h) g6⟩
     | false =>
       obtain ⟨hn,h3⟩:=l9.1 h3
       rcases Gv hn _ _ h3 with ⟨A,H',h5,h6⟩ | ⟨H',h5,h6⟩
       ·obtain ⟨c1,h5⟩:=rH.1 h5
        have XV : (oq gl i = true -> aZ o.op = true -> ∀ G ∈ hs,eP F L ⟨o,false,true,e',A,H,H'⟩ G) /\ SX fl i o.op e' A pl fun zk=>pV o.dst A e' fun e'=>lV F L ops fl gl (i + 1) l zk (match aZ o.op with | true=>hs | false=>H :: hs) e' H' k:=by
         unfold Yc at h5
         split at h5
         ·rename_i t x _ ho
          obtain ⟨B,h7,h8⟩:=aT _ _ _ h5
          obtain ⟨h9,h7⟩:=Je.1 h7
          refine ⟨fun _ _ G hG=>?_,h7⟩
          unfold eP
          dsimp only
          rw [ho]
          simp only [gq]
          refine h8 _ ?_
          obtain ⟨R,k4,k5⟩:=iT _ _ _ _ _ (h9 G hG)
          exact k5 _ ⟨k4,trivial⟩
         ·rename_i hne
          refine ⟨fun hm hl=>?_,h5⟩
          cases ho : o.op with
          | load t x=>exact (hne t x hm ho).elim
          | _=>simp [ho,aZ] at hl
        obtain ⟨hgG,h5⟩:=XV
        have hadd : ∃ zk,(∀ p ∈ pl,p ∈ zk) /\ (oq fl i = true -> aZ o.op = true -> ∃ t x B,o.op = .load t x /\ (t,B,A) ∈ zk /\ ∀ K : AV -> Prop,K B -> bI e' x K) /\ pV o.dst A e' fun e'=>lV F L ops fl gl (i + 1) l zk (match aZ o.op with | true=>hs | false=>H :: hs) e' H' k:=by
         unfold SX at h5
         split at h5
         ·rename_i t x _ ho
          obtain ⟨B,h7,h8⟩:=aT _ _ _ h5
          exact ⟨_,fun p hp=>List.mem_cons_of_mem _ hp,fun _ _=>⟨t,x,B,ho,List.mem_cons_self,h8⟩,h7⟩
         ·rename_i hne
          refine ⟨pl,fun _ h=>h,fun hm hl=>?_,h5⟩
          cases ho : o.op with
          | load t x=>exact (hne t x hm ho).elim
          | _=>simp [ho,aZ] at hl
        obtain ⟨zk,p1,p2,h5⟩:=hadd
        obtain ⟨rs,ef,Hf,g1,g2,g3,⟨g4,g5⟩,g6⟩:=lu (jV.1 h5)
        refine ⟨⟨o,false,true,e',A,H,H'⟩ :: rs,ef,Hf,by simp [g1],⟨rfl,h1,h2,(fun _=>.inr (.inl ⟨rfl,h6⟩)),(fun h=>by cases h),g2⟩,g3,step p1 (fun p hp _ _ hv=>?_) g4 (fun hm hl _ _=>p2 hm hl) g5,.step (fun G hG=>?_) (fun hm hl _ _=>hgG hm hl) (fun _ hl _=>?_) g6⟩
        ·dsimp only at hv
         rw [hv] at c1
         exact c1 p hp
        ·cases aZ o.op with
         | true=>exact hG
         | false=>exact List.mem_cons_of_mem _ hG
        ·dsimp only at hl
         rw [hl]; exact List.mem_cons_self
       ·cases hd : o.dst with
        | some d=>simp only [hd] at h5
        | none =>
          simp only [hd] at h5
          obtain ⟨c1,h5⟩:=rH.1 h5
          obtain ⟨rs,ef,Hf,g1,g2,g3,⟨g4,g5⟩,g6⟩:=lu h5
          have YQ : ∀ t x,o.op ≠ .load t x:=by
           intro t x ho
           rw [ho] at h6
           have:=h6 (fun _ _=>False) (fun _=>True) trivial
           simp only [gq] at this
           obtain ⟨A,q1,_⟩:=aT _ _ _ this
           obtain ⟨R,q2,_⟩:=iT _ _ _ _ _ q1
           exact q2
          refine ⟨⟨o,false,true,e',.und,H,H'⟩ :: rs,ef,Hf,by simp [g1],⟨rfl,h1,h2,(fun _=>.inr (.inr ⟨rfl,hd,h6⟩)),(fun h=>by cases h),?_⟩,g3,step (fun _ h=>h) (fun p hp _ _ hv=>by dsimp only at hv; rw [hv] at c1; exact c1 p hp) g4 (fun _ h=>?_) g5,.step (fun G hG=>List.mem_cons_of_mem _ hG) (fun _ h=>?_) (fun _ _ _=>List.mem_cons_self) g6⟩
          ·simpa [qP,hd] using g2
          all_goals
           exfalso
           cases ho : o.op with
           | load t x=>exact YQ t x ho
           | _=>simp [ho,aZ] at h

theorem OV {ops : List Oper} {mask : List Bool} {fl : List Nat} {rs : List Rec} (h : KX ops mask fl = true) (hm : rs.map (fun r=>(r.o,r.nb)) = ops.zip mask) :
  iq (fun i j=>∃ ri rj,i < j /\ rs[i]? = some ri /\ rs[j]? = some rj /\ IQ ops fl ((ri.o,ri.nb),i) ((rj.o,rj.nb),j) = true) ops rs:=by
 have hget : ∀ (j : Nat) (r : Rec),rs[j]? = some r -> (ops.zip mask)[j]? = some (r.o,r.nb):=by
  intro j r hr
  rw [<- hm,List.getElem?_map,hr]; rfl
 have h0:=h
 unfold KX at h
 simp only [Bool.and_eq_true] at h
 obtain ⟨⟨⟨⟨h1,h2⟩,h3⟩,h5⟩,h4⟩:=h
 -- all but the clashes is as before
 have hlen:=Nat.eq_of_beq_eq_true h1
 refine ⟨?_,fun j r hr=>?_,fun j r hr hn=>?_,fun j o ho e he hb=>?_,fun i j ri rj hij hi hj hc=>?_,fun i j ri rj hx hi hj=>?_,fun j r hr hn hw=>?_,fun i j k ri rj rk d hij hjk hi hj hk hn hl hn' hw hd hm=>?_⟩
 ·have:=congrArg List.length hm
  simp at this; omega
 ·have:=hget j r hr
  rw [List.getElem?_zip_eq_some] at this
  exact this.1
 ·have:=List.all_eq_true.1 h2 _ (List.mem_of_getElem? (hget j r hr))
  simpa [hn] using this
 ·have:=bG h3 ho
  have:=List.all_eq_true.1 this e he
  rw [hb] at this
  simpa using this
 ·have:=bG h4 (hget j rj hj)
  have:=bG this (hget i ri hi)
  have hlt : Nat.blt i j = true:=by simpa using hij
  simp only [hlt,hc,Bool.not_true,Bool.false_or,Bool.or_eq_true] at this
  exact this.imp id fun h=>⟨ri,rj,hij,hi,hj,h⟩
 ·obtain ⟨TU,YE,_,hi',hj',he⟩:=hx
  rw [hi] at hi'; obtain rfl:=Option.some.inj hi'
  rw [hj] at hj'; obtain rfl:=Option.some.inj hj'
  simp only [IQ,Bool.and_eq_true,Bool.not_eq_true'] at he
  obtain ⟨⟨⟨⟨⟨⟨e1,e2⟩,e3⟩,e4⟩,e5⟩,e6⟩,e7⟩:=he
  refine ⟨.inl ⟨e2,e3⟩,trivial,fun t ht hm=>?_,fun t ht hm=>?_⟩
  ·rw [ht] at e6; simp only [Bool.not_eq_true'] at e6
   have : (bZ ops rj.o).contains t = true:=by simpa using hm
   rw [this] at e6; cases e6
  ·rw [ht] at e7; simp only [Bool.not_eq_true'] at e7
   have : (bZ ops ri.o).contains t = true:=by simpa using hm
   rw [this] at e7; cases e7
 ·have:=bG h5 (hget j r hr)
  simp only [hn,hw,Bool.not_false,Bool.and_self,Bool.not_true,Bool.false_or,Bool.and_eq_true] at this
  obtain ⟨g1,g2⟩:=this
  refine ⟨?_,?_⟩
  ·cases hg : r.o.guard with
   | none=>rfl
   | some g=>rw [hg] at g1; cases g1
  ·cases hd : r.o.dst with
   | none=>rw [hd] at g2; cases g2
   | some d=>exact ⟨d,rfl⟩
 ·have:=bG h5 (hget j rj hj)
  simp only [hn',hw,Bool.not_false,Bool.and_self,Bool.not_true,Bool.false_or,Bool.and_eq_true,hd] at this
  have:=bG this.2 (hget i ri hi)
  have hlt : Nat.blt i j = true:=by simpa using hij
  have hlt2 : Nat.blt j k = true:=by simpa using hjk
  simp only [hlt,hn,hl,Bool.not_true,Bool.false_or,Bool.or_eq_true] at this
  rcases this with this | this
  ·exact .inl this
  ·have:=bG this (hget k rk hk)
   have hc : (bZ ops rk.o).contains d = true:=by simpa using hm
   simp only [hlt2,hc,Bool.not_true,Bool.false_or] at this
   exact .inr this

theorem OW {ops : List Oper} {mask : List Bool} {fl gl : List Nat} {rs : List Rec} (h : KY ops mask fl gl = true) (hm : rs.map (fun r=>(r.o,r.nb)) = ops.zip mask) :
  iq (fun i j=>∃ ri rj,i < j /\ rs[i]? = some ri /\ rs[j]? = some rj /\ (IQ ops fl ((ri.o,ri.nb),i) ((rj.o,rj.nb),j) = true \/ UF ops gl ((ri.o,ri.nb),i) ((rj.o,rj.nb),j) = true)) ops rs:=by
 have hget : ∀ (j : Nat) (r : Rec),rs[j]? = some r -> (ops.zip mask)[j]? = some (r.o,r.nb):=by
  intro j r hr
  rw [<- hm,List.getElem?_map,hr]; rfl
 have h0:=h
 unfold KY at h
 simp only [Bool.and_eq_true] at h
 obtain ⟨⟨⟨⟨h1,h2⟩,h3⟩,h5⟩,h4⟩:=h
 -- all but the clashes is as before
 have hlen:=Nat.eq_of_beq_eq_true h1
 refine ⟨?_,fun j r hr=>?_,fun j r hr hn=>?_,fun j o ho e he hb=>?_,fun i j ri rj hij hi hj hc=>?_,fun i j ri rj hx hi hj=>?_,fun j r hr hn hw=>?_,fun i j k ri rj rk d hij hjk hi hj hk hn hl hn' hw hd hm=>?_⟩
 ·have:=congrArg List.length hm
  simp at this; omega
 ·have:=hget j r hr
  rw [List.getElem?_zip_eq_some] at this
  exact this.1
 ·have:=List.all_eq_true.1 h2 _ (List.mem_of_getElem? (hget j r hr))
  simpa [hn] using this
 ·have:=bG h3 ho
  have:=List.all_eq_true.1 this e he
  rw [hb] at this
  simpa using this
 ·have:=bG h4 (hget j rj hj)
  have:=bG this (hget i ri hi)
  have hlt : Nat.blt i j = true:=by simpa using hij
  simp only [hlt,hc,Bool.not_true,Bool.false_or,Bool.or_eq_true] at this
  rcases this with (this | this) | this
  ·exact .inl this
  ·exact .inr ⟨ri,rj,hij,hi,hj,.inl this⟩
  ·exact .inr ⟨ri,rj,hij,hi,hj,.inr this⟩
 ·obtain ⟨TU,YE,_,hi',hj',he⟩:=hx
  rw [hi] at hi'; obtain rfl:=Option.some.inj hi'
  rw [hj] at hj'; obtain rfl:=Option.some.inj hj'
  rcases he with he | he
  ·simp only [IQ,Bool.and_eq_true,Bool.not_eq_true'] at he
   obtain ⟨⟨⟨⟨⟨⟨e1,e2⟩,e3⟩,e4⟩,e5⟩,e6⟩,e7⟩:=he
   refine ⟨.inl ⟨e2,e3⟩,trivial,fun t ht hm=>?_,fun t ht hm=>?_⟩
   ·rw [ht] at e6; simp only [Bool.not_eq_true'] at e6
    have : (bZ ops rj.o).contains t = true:=by simpa using hm
    rw [this] at e6; cases e6
   ·rw [ht] at e7; simp only [Bool.not_eq_true'] at e7
    have : (bZ ops ri.o).contains t = true:=by simpa using hm
    rw [this] at e7; cases e7
  ·simp only [UF,Bool.and_eq_true,Bool.not_eq_true'] at he
   obtain ⟨⟨⟨⟨⟨⟨⟨e1,e2⟩,e3⟩,e4⟩,e5⟩,e0⟩,e6⟩,e7⟩:=he
   refine ⟨.inr ⟨⟨e4,e5⟩,e2,e3,e0⟩,trivial,fun t ht hm=>?_,fun t ht hm=>?_⟩
   ·rw [ht] at e6; simp only [Bool.not_eq_true'] at e6
    have : (bZ ops rj.o).contains t = true:=by simpa using hm
    rw [this] at e6; cases e6
   ·rw [ht] at e7; simp only [Bool.not_eq_true'] at e7
    have : (bZ ops ri.o).contains t = true:=by simpa using hm
    rw [this] at e7; cases e7
 ·have:=bG h5 (hget j r hr)
  simp only [hn,hw,Bool.not_false,Bool.and_self,Bool.not_true,Bool.false_or,Bool.and_eq_true] at this
  obtain ⟨g1,g2⟩:=this
  refine ⟨?_,?_⟩
  ·cases hg : r.o.guard with
   | none=>rfl
   | some g=>rw [hg] at g1; cases g1
  ·cases hd : r.o.dst with
   | none=>rw [hd] at g2; cases g2
   | some d=>exact ⟨d,rfl⟩
 ·have:=bG h5 (hget j rj hj)
  simp only [hn',hw,Bool.not_false,Bool.and_self,Bool.not_true,Bool.false_or,Bool.and_eq_true,hd] at this
  have:=bG this.2 (hget i ri hi)
  have hlt : Nat.blt i j = true:=by simpa using hij
  have hlt2 : Nat.blt j k = true:=by simpa using hjk
  simp only [hlt,hn,hl,Bool.not_true,Bool.false_or,Bool.or_eq_true] at this
  rcases this with this | this
  ·exact .inl this
  ·have:=bG this (hget k rk hk)
   have hc : (bZ ops rk.o).contains d = true:=by simpa using hm
   simp only [hlt2,hc,Bool.not_true,Bool.false_or] at this
   exact .inr this

end Go.AL

namespace Go.AL

def AX.Xm : AX -> Exit
 | .normal=>.normal
 | .exit i=>.exit i
 | .ret=>.ret

def jD (n : Nat) : Code -> Bool
 | .skip=>true
 | .region _ ops _=>ops.toList.all (qR n)
 | .seq a b=>jD n a && jD n b
 | .cond c a b=>aV c && jD n a && jD n b
 | .block _ b=>jD n b
 | .loop b=>jD n b
 | .exit _=>true
 | .ret=>true
 | .label _=>true
 | _=>false

def Post (n : Nat) (ws : List Nat) (c0 : Cx) (H0 : Heap) (a0 : Act) (Q : AX -> Env -> Heap -> Prop) : Exit -> Act -> World -> Prop :=
 fun ex a w=>∃ x e H c,ex = AX.Xm x /\ Q x e H /\ c.w = w /\ Tr c0 H0 c H /\ oI n c e a /\ Fr ws a0 a

def iy (P : Program) (Q : Exit -> Act -> World -> Prop) (c : Code) (a : Act) (w : World) : Prop :=
 ∀ b k cs,∃ e a' w',Q e a' w' /\ Arrives P (lone (b.at a (.code c :: .inLoop c :: k)) cs w) b k cs e a' w'

theorem iy.mono {P : Program} {Q Q' : Exit -> Act -> World -> Prop} {c : Code} {a : Act} {w : World} (h : iy P Q c a w) (hq : ∀ e a w,Q e a w -> Q' e a w) : iy P Q' c a w:=by
 intro b k cs
 obtain ⟨e,a',w',h1,h2⟩:=h b k cs
 exact ⟨e,a',w',hq _ _ _ h1,h2⟩

theorem iy.wp {P : Program} {Q : Exit -> Act -> World -> Prop} {c : Code} {a : Act} {w : World} (h : iy P Q c a w) : (Code.loop c).wp P Q a w:=by
 intro b k cs
 obtain ⟨e,a',w',hq,harr⟩:=h b k cs
 exact ⟨e,a',w',hq,.of_steps (.one step_loop) harr⟩

theorem iy.P6 {P : Program} {Q : Exit -> Act -> World -> Prop} {c : Code} {a : Act} {w : World} (h : c.wp P (Exit.then (fun a' w'=>iy P Q c a' w') Q) a w) : iy P Q c a w:=by
 intro b k cs
 obtain ⟨e,a₁,w₁,hq,harr⟩:=h b (.inLoop c :: k) cs
 cases e with
 | normal =>
   obtain ⟨e₂,a₂,w₂,hq₂,harr₂⟩:=hq b k cs
   exact ⟨e₂,a₂,w₂,hq₂,.of_steps (Steps.trans harr (.one step_inLoop)) harr₂⟩
 | exit id=>exact ⟨_,a₁,w₁,hq,.pass (x:=.inLoop c) rfl (fun _ _=>.inl (by simp)) harr⟩
 | goto l=>exact ⟨_,a₁,w₁,hq,.pass (x:=.inLoop c) rfl (fun _ _=>.inl (by simp)) harr⟩
 | ret=>exact ⟨_,a₁,w₁,hq,.pass (x:=.inLoop c) rfl (fun _ _=>.inl (by simp)) harr⟩
 | panic ch=>exact ⟨_,a₁,w₁,hq,.pass (x:=.inLoop c) rfl (fun _ _=>.inl (by simp)) harr⟩
 | outgrown=>exact ⟨_,a₁,w₁,hq,.pass (x:=.inLoop c) rfl (fun _ _=>.inl (by simp)) harr⟩

theorem iy.ghost {P : Program} {Q : Exit -> Act -> World -> Prop} {c : Code} (I : Nat -> Act -> World -> Prop)
  (round : ∀ n a w,I n a w -> c.wp P (Exit.then (fun a' w'=>∃ m,m < n /\ I m a' w') Q) a w) : ∀ (n : Nat) (a : Act) (w : World),I n a w -> iy P Q c a w:=by
 intro n
 induction n using Nat.strongRecOn with
 | _ n ih =>
   intro a w hI
   refine .P6 (wp_mono (round n a w hI) ?_)
   intro e a' w' h
   cases e with
   | normal=>obtain ⟨m,h1,h2⟩:=h; exact ih m h1 a' w' h2
   | _=>exact h

section
variable {P : Program} {L : Lay} {F : FT}

theorem Tr.QJ {c : Cx} {H : Heap} {j len cp sz : Nat} {l : List AV} (hr : HR c H) (ho : hget H j = some (.arr sz cp l)) (hl : len <= l.length) :
  ∃ d,d.w = c.w /\ Tr c H d ((nextId H,.tok sz len) :: hset H j .gone) /\ (len <= cp -> cp <= maxL -> VV d (.sl sz (l.take len) (.own (nextId H))) (.slice (some ⟨c.ρ j,0,none⟩) len cp)):=by
 obtain ⟨cs,ty,g1,g2,g3,g4,g5,g6⟩:=hr.oh ho
 obtain ⟨a',d',rfl,g7⟩:=jQ g5
 have hjm:=gu ho
 have hjs : c.ρ j < c.w.heap.size:=(Array.getElem?_eq_some_iff.1 g1).1
 let d : Cx:={ c with Im:=fun b o=>c.Im b o \/ (b = c.ρ j /\ o < len * sz),nx:=c.nx + 1,tk:=fun k=>if k = c.nx then (some ⟨c.ρ j,0,none⟩,cp) else c.tk k,tp:=dh ((nextId H,.tok sz len) :: hset H j .gone) }
 have hlt : ∀ x ∈ H,x.1 < c.nx:=fun x hx=>by rw [hr.nx]; exact bf hr.ids x hx
 have hjl : j < c.nx:=hlt _ hjm
 have htk : d.tk (nextId H) = (some ⟨c.ρ j,0,none⟩,cp):=by simp [d,hr.nx]
 have D6:=mV (k:=j) (o':=.gone) hr.ids
 have le : c.Le d:=by
  refine ⟨fun b o h=>⟨.inl h,rfl⟩,Nat.le_succ _,fun _ _=>rfl,fun k n hk hn=>.inl ⟨?_,?_⟩⟩
  ·have hne : nextId H ≠ k:=by rw [<- hr.nx]; omega
   simp only [d] at hn
   rw [jq hne,iF ho (by intros; simp) (by intros; simp)] at hn
   rw [hr.tp]; exact hn
  ·simp only [d]; rw [if_neg (by omega)]
 have hbk : ∀ x ∈ H,aC d x = aC c x:=fun x hx=>jk rfl (by have:=hlt x hx; simp only [d]; rw [if_neg (by omega)])
 have hbn : ∀ b,aC d (nextId H,.tok sz len) = some b -> b = c.ρ j:=by
  intro b hb
  simp only [aC,htk] at hb
  split at hb
  ·cases hb
  ·simpa using hb.symm
 have hbj : aC c (j,.arr sz cp l) = some (c.ρ j):=rfl
 have hne : ∀ x ∈ H,x.1 ≠ j -> ∀ b,aC c x = some b -> b ≠ c.ρ j:=fun x hx hn b hb e=>hr.apart' hx hjm hn hb (by rw [e]; exact hbj)
 refine ⟨d,rfl,⟨⟨?_,rfl,⟨fun x hx=>?_,D6⟩,?_,?_,?_⟩,le,rfl,rfl,rfl,Nat.le_refl _,fun _ _ _=>rfl,?_,?_⟩,?_⟩
 ·simp only [d,nextId,hr.nx]
 ·have:=bf D6 x hx
  rw [qW] at this; exact this
 ·rintro b o (h | ⟨rfl,_⟩)
  ·exact hr.im b o h
  ·exact hjs
 ·intro x hx
  rcases List.mem_cons.1 hx with rfl | hx
  ·show (HO.tok sz len).Ok d (nextId H)
   simp only [HO.Ok,htk]
   refine .inr ⟨c.ρ j,_,ty,rfl,g1,by simpa using g2,by omega,g4,?_⟩
   rintro o h1 (h | ⟨_,h⟩)
   ·exact g6 o h
   ·omega
  ·rcases gW hr.ids hx with rfl | ⟨hx,hn⟩
   ·trivial
   ·refine lF le (hlt x hx) ?_ (fun b hb=>⟨rfl,fun y hy=>?_⟩) (hr.ok x hx)
    ·have:=hlt x hx; simp only [d]; rw [if_neg (by omega)]
    ·rcases hy with hy | ⟨e,_⟩
     ·exact hy
     ·exact absurd e (hne x hx hn b hb)
 ·rw [List.pairwise_cons]
  constructor
  ·intro y hy b hb hb'
   obtain rfl:=hbn b hb
   rcases gW hr.ids hy with rfl | ⟨hy,hn⟩
   ·simp [aC] at hb'
   ·rw [hbk y hy] at hb'
    exact hne y hy hn _ hb' rfl
  ·refine eU D6 fun x hx y hy hn b hb hb'=>?_
   rcases gW hr.ids hx with rfl | ⟨hx,_⟩
   ·simp [aC] at hb
   ·rcases gW hr.ids hy with rfl | ⟨hy,_⟩
    ·simp [aC] at hb'
    ·rw [hbk x hx] at hb; rw [hbk y hy] at hb'
     exact hr.apart' hx hy hn hb hb'
 ·intro y hy b hb
  rcases List.mem_cons.1 hy with rfl | hy
  ·obtain rfl:=hbn b hb
   exact .inr ⟨_,hjm,hbj⟩
  ·rcases gW hr.ids hy with rfl | ⟨hy,_⟩
   ·simp [aC] at hb
   ·rw [hbk y hy] at hb; exact .inr ⟨y,hy,hb⟩
 ·rintro b o (h | ⟨rfl,_⟩)
  ·exact .inl h
  ·exact .inr (.inr ⟨_,hjm,hbj⟩)
 ·intro h1 h2
  refine dJ rfl rfl ?_
  simp only [VR]
  have hlen : (l.take len).length = len:=by simp; omega
  have hf:=su len (fB le.im g7)
  have hal:=dG g7
  refine ⟨by simp only [d]; rw [hr.nx]; omega,?_,fun n hn=>?_⟩
  ·simp only [Rd]
   refine ⟨by rw [hlen]; omega,.inr ⟨⟨c.ρ j,0,none⟩,cp,by rw [hlen],by rw [hlen]; exact h1,h2,fun _=>rfl,?_⟩⟩
   refine jo hf fun x v hx=>⟨?_,.inr ⟨rfl,?_⟩⟩
   ·rw [List.getElem?_take] at hx
    split at hx
    ·show c.w.cell? _ = _
     rw [cell_of_heap g1]
     have : x < a'.length:=(List.getElem?_eq_some_iff.1 hx).1
     simp [List.getElem?_append_left this,hx]
    ·simp at hx
   ·rw [List.getElem?_take] at hx
    split at hx
    ·simpa using ‹_›
    ·simp at hx
  ·have hn : dh ((nextId H,.tok sz len) :: hset H j .gone) (nextId H) = some n:=hn
   rw [pI] at hn
   obtain rfl:=Option.some.inj hn
   rw [hlen,htk]
   exact ⟨Nat.le_refl _,fun _=>rfl⟩

theorem DK {e e' : Env} {H H' : Heap} (h : Cv e H e' H') : ∀ {n : Nat} {c : Cx} {a : Act},HR c H -> oI n c e a -> ∃ d,d.w = c.w /\ Tr c H d H' /\ oI n d e' a:=by
 induction h with
 | refl e H=>intro n c a hr ha; exact ⟨c,rfl,.refl hr,ha⟩
 | grow t sz l A he hA h' ih =>
   intro n c a hr ha
   have hv:=ha.env t A he
   obtain ⟨base,e1,hR⟩ : ∃ base,a.tmps.getD t undef = .slice base l.length l.length /\ Rd c.w c.Im (.sl sz l .no) [.slice base l.length l.length]:=by
    rcases hA with ⟨rfl,rfl⟩ | rfl
    ·exact sN hv
    ·exact sV hv
   obtain ⟨d,hw,htr,hV⟩:=Tr.xE hr hR
   have ha':=ha.mono htr.le
   refine (fun oC=>by
    obtain ⟨d',h1,h2,h3⟩:=ih htr.hr oC
    exact ⟨d',h1.trans hw,htr.trans h2,h3⟩) ?_
   ·refine ⟨fun t' B hB=>?_,ha.defers,ha.size⟩
    simp only [dL] at hB
    cases hb : Nat.beq t t' with
    | true =>
      rw [hb] at hB
      obtain rfl:=Nat.eq_of_beq_eq_true hb
      obtain rfl:=Option.some.inj hB
      rw [e1]; exact aS hV
    | false=>rw [hb] at hB; exact ha'.env _ _ hB
 | VD t sz he h' ih =>
   intro n c a hr ha
   obtain e1:=lW (ha.env t _ he)
   obtain ⟨d,hw,htr,hV⟩:=Tr.Ua sz hr
   have ha':=ha.mono htr.le
   obtain ⟨d',h1,h2,h3⟩:=ih htr.hr (a:=a) (by
    refine ⟨fun t' B hB=>?_,ha.defers,ha.size⟩
    simp only [dL] at hB
    cases hb : Nat.beq t t' with
    | true =>
      rw [hb] at hB
      obtain rfl:=Nat.eq_of_beq_eq_true hb
      obtain rfl:=Option.some.inj hB
      rw [e1]; exact aS hV
    | false=>rw [hb] at hB; exact ha'.env _ _ hB)
   exact ⟨d',h1.trans hw,htr.trans h2,h3⟩
 | Gq t j sz l he ho hl h' ih =>
   intro n c a hr ha
   obtain ⟨d,hw,htr,hV⟩:=Tr.Gq hr ho hl (ha.env t _ he)
   have ha':=ha.mono htr.le
   obtain ⟨d',h1,h2,h3⟩:=ih htr.hr (a:=a) (by
    refine ⟨fun t' B hB=>?_,ha.defers,ha.size⟩
    simp only [dL] at hB
    cases hb : Nat.beq t t' with
    | true =>
      rw [hb] at hB
      obtain rfl:=Nat.eq_of_beq_eq_true hb
      obtain rfl:=Option.some.inj hB
      exact aS hV
    | false=>rw [hb] at hB; exact ha'.env _ _ hB)
   exact ⟨d',h1.trans hw,htr.trans h2,h3⟩
 | @MX e H e' H' j p sz l A B A' ho hp hB hs h' ih =>
   intro n c a hr ha
   obtain ⟨B0,hp0,rfl⟩:=jS.1 hp
   clear hp
   have hp:=hp0
   obtain ⟨cs,ty,h1,h2,h3⟩:=hr.oh ho
   obtain ⟨pre,xs,post,rfl,h4,h5⟩:=Aa h2 hp
   have hag : cZ B0 = false:=by rcases hB with ⟨rfl,rfl⟩ | rfl <;> rfl
   obtain ⟨v,rfl,_⟩:=lC h5 hag
   have hv : VV c B0 v:=xg h5 hag
   obtain ⟨base,e1,hR⟩ : ∃ base,v = .slice base l.length l.length /\ Rd c.w c.Im (.sl sz l .no) [.slice base l.length l.length]:=by
    rcases hB with ⟨rfl,rfl⟩ | rfl
    ·exact sN hv
    ·exact sV hv
   obtain ⟨d,hw,htr,hV⟩:=Tr.xE hr hR
   rw [<- e1] at hV
   have hjl : j < nextId H:=bf hr.ids _ (gu ho)
   have ho' : hget ((nextId H,.tok sz l.length) :: H) j = some (.box A):=by
    have : Nat.beq (nextId H) j = false:=by
     cases hb : Nat.beq (nextId H) j with
     | false=>rfl
     | true=>have:=Nat.eq_of_beq_eq_true hb; omega
    simp only [hget,this]; exact ho
   have hρ : d.ρ j = c.ρ j:=htr.le.ρ j (by rw [hr.nx]; exact hjl)
   obtain ⟨_,_,_,_,q3⟩:=htr.hr.oh ho'
   obtain ⟨Zg,x1,pre',xs',post',g1,g2,g3,g4,g5,g6⟩:=nJ (PK hV rfl) (lY htr.le _ _ h2) hs
   obtain rfl : B0 = x1:=by rw [hp] at g1; exact Option.some.inj g1
   have hxl : xs'.length = 1:=by
    obtain ⟨u,rfl,_⟩:=lC g4 hag; rfl
   obtain ⟨u,rfl⟩ : ∃ u,xs' = [u]:=by
    obtain ⟨u,rfl,_⟩:=lC g4 hag; exact ⟨u,rfl⟩
   have hpl : pre.length = pre'.length:=by rw [h4,g3]
   have hcs : pre' ++ [v] ++ post' = pre ++ [v] ++ post:=by
    rw [List.append_assoc,List.append_assoc] at g2
    obtain ⟨r1,r2⟩:=List.append_inj g2 hpl
    obtain ⟨r3,r4⟩:=List.append_inj r2 rfl
    rw [r1,r4]
   rw [hcs,g6] at g5
   have zn : Tr d ((nextId H,.tok sz l.length) :: H) d (hset ((nextId H,.tok sz l.length) :: H) j (.box A')):=by
    refine Tr.set htr.hr ho' (Cx.Le.refl _) rfl (by rw [iF ho' (by intros; simp) (by intros; simp)]; exact htr.hr.tp) (fun _ _=>rfl) rfl rfl rfl (Nat.le_refl _) (fun _ _ _=>rfl) (fun _ _ h=>.inl h) ?_ ?_
    ·intro b hb; exact .inr hb
    ·exact ⟨_,ty,by rw [hw,hρ]; exact h1,g5,q3⟩
   have ha':=ha.mono htr.le
   obtain ⟨d',k1,k2,k3⟩:=ih zn.hr ha'
   exact ⟨d',k1.trans hw,(htr.trans zn).trans k2,k3⟩
 | @freeze e H e' H' t j off len cap cp sz l he ho hl h' ih =>
   intro n c a hr ha
   obtain ⟨hj,e1,hlc,hcm⟩:=uD (ha.env t _ he)
   obtain ⟨cs,ty,g1,g2,g3,g4,g5,g6⟩:=hr.oh ho
   obtain ⟨a',d',rfl,g7⟩:=jQ g5
   let d : Cx:={ c with Im:=fun b o=>c.Im b o \/ b = c.ρ j }
   have le : c.Le d:=⟨fun b o h=>⟨.inl h,rfl⟩,Nat.le_refl _,fun _ _=>rfl,fun _ _ _ h=>.inl ⟨h,rfl⟩⟩
   have htr : Tr c H d (hset H j .gone):=by
    refine Tr.set hr ho le rfl (by rw [iF ho (by intros; simp) (by intros; simp)]; exact hr.tp) (fun _ _=>rfl) rfl rfl rfl (Nat.le_refl _) (fun _ _ _=>rfl) ?_ ?_ trivial
    ·rintro b x (h | h)
     ·exact .inl h
     ·exact .inr (.inr (by simp [aC,h]))
    ·intro b h; simp [aC] at h
   have hlen : ((l.drop off).take len).length = len:=by simp; omega
   have hf:=su len (Dx off (fB le.im g7) (by omega))
   have hal:=dG g7
   have hV : VV d (.sl sz ((l.drop off).take len) .no) (a.tmps.getD t undef):=by
    rw [e1]
    refine dJ rfl rfl ?_
    simp only [VR,Rd]
    refine ⟨by rw [hlen]; omega,.inr ⟨⟨c.ρ j,off * sz,none⟩,cap,by rw [hlen],by rw [hlen]; exact hlc,hcm,fun _=>rfl,?_⟩⟩
    refine jo hf fun x v hx=>⟨?_,.inr rfl⟩
    rw [List.getElem?_take] at hx
    split at hx
    ·rw [List.getElem?_drop] at hx
     show c.w.cell? _ = _
     rw [cell_of_heap g1]
     have : off * sz + x < a'.length:=(List.getElem?_eq_some_iff.1 hx).1
     simp [List.getElem?_append_left this,hx]
    ·simp at hx
   have ha':=ha.mono le
   refine (fun oC=>by
    obtain ⟨d',h1,h2,h3⟩:=ih htr.hr oC
    exact ⟨d',h1,htr.trans h2,h3⟩) ?_
   refine ⟨fun t' B hB=>?_,ha.defers,ha.size⟩
   simp only [dL] at hB
   cases hb : Nat.beq t t' with
   | true =>
     rw [hb] at hB
     obtain rfl:=Nat.eq_of_beq_eq_true hb
     obtain rfl:=Option.some.inj hB
     exact aS hV
   | false=>rw [hb] at hB; exact ha'.env _ _ hB
 | @keep e H e' H' t j len cp sz l he ho hl h' ih =>
   intro n c a hr ha
   obtain ⟨hj,e1,hlc,hcm⟩:=uD (ha.env t _ he)
   obtain ⟨d,hw,htr,hV⟩:=Tr.QJ hr ho hl
   have hV:=hV hlc hcm
   have e1 : a.tmps.getD t undef = .slice (some ⟨c.ρ j,0,none⟩) len cp:=by rw [e1]; simp
   have ha':=ha.mono htr.le
   refine (fun oC=>by
    obtain ⟨d',h1,h2,h3⟩:=ih htr.hr oC
    exact ⟨d',h1.trans hw,htr.trans h2,h3⟩) ?_
   refine ⟨fun t' B hB=>?_,ha.defers,ha.size⟩
   simp only [dL] at hB
   cases hb : Nat.beq t t' with
   | true =>
     rw [hb] at hB
     obtain rfl:=Nat.eq_of_beq_eq_true hb
     obtain rfl:=Option.some.inj hB
     rw [e1]; exact aS hV
   | false=>rw [hb] at hB; exact ha'.env _ _ hB

theorem IX {E K : Env} {t : Nat} {A : AV} (h : dL (E ++ K) t = some A) : (t,A) ∈ E \/ (t,A) ∈ K:=by
 have:=BG h
 simpa using this

theorem Jr {c : Cx} {A : AV} {v : Value} {kt kf : Prop} (hA : EV c A v) (h : br A kt kf) : ∃ b,v = .bool b /\ (b = true -> kt) /\ (b = false -> kf):=by
 unfold br at h
 split at h
 ·exact ⟨true,rV hA,fun _=>h,fun h=>by cases h⟩
 ·exact ⟨false,rW hA,(fun h=>by cases h),fun _=>h⟩
 ·exact ⟨_,fQ hA,h⟩
 ·obtain ⟨b,h4,h5⟩:=jP hA
  exact ⟨b,h4,fun hb=>h.1 (h5.1 hb),fun hb=>h.2 (fun hp=>by rw [h5.2 hp] at hb; cases hb)⟩
 ·exact h.elim

theorem uy {n : Nat} : cnt (Array.replicate n false) = n:=by
 unfold cnt
 rw [Array.toList_replicate,List.countP_replicate]
 simp

theorem Ri (hL : bW P L) (hm : P.follows .mixedOrders = true) (hFn : FS P F) {n i : Nat} {ops : Array Oper} {e : Env} {H : Heap} {c : Cx} {a : Act} {k : Env -> Heap -> Prop}
  {Q : Exit -> Act -> World -> Prop} (hl : ops.toList.all (qR n) = true) (hr : HR c H) (ha : oI n c e a) (hB : SN ops.toList = true) (h : Dc F L ops.toList ops.toList.length [] e H k)
  (hq : ∀ e' H' c' a',k e' H' -> Tr c H c' H' -> oI n c' e' a' -> Fr (dV ops.toList) a a' -> Q .normal a' c'.w) : (Code.region i ops true).wp P Q a c.w:=by
 have htr:=Tr.drew hr
 have hle : c.Le { c with w:=c.w.drew }:=htr.le
 refine wp_region_any hm ?_
 have hnl : ∀ j,¬ aB (Array.replicate ops.size false) j:=by
  intro j
  unfold aB
  rw [Array.getD_eq_getD_getElem?]
  by_cases hj : j < ops.size
  ·simp [hj]
  ·simp [hj]
 have hlen : ops.toList.length = ops.size:=by simp
 rw [hlen] at h
 exact JC (c0:=c) (H0:=H) (a0:=a) hL hFn hl hB hq ops.size [] _ e H { c with w:=c.w.drew } a (by simp) (fun j=>⟨fun h=>absurd h (hnl j),fun h=>by simp at h⟩) uy htr (ha.mono hle) (Fr.refl _ _) h

theorem xX (hL : bW P L) (hm : P.follows .mixedOrders = true) (hFn : FS P F) {n i : Nat} {ops : Array Oper} {e : Env} {H : Heap} {c : Cx} {a : Act} {k : Env -> Heap -> Prop}
  {Q : Exit -> Act -> World -> Prop} (hl : ops.toList.all (qR n) = true) (hr : HR c H) (ha : oI n c e a) {X : Nat -> Nat -> Prop} {rs : List Rec} {ef : Env} {Hf : Heap} (hd : iq X ops.toList rs)
  (hX : ∀ (i j : Nat) (ri rj : Rec),X i j -> rs[i]? = some ri -> rs[j]? = some rj -> ri.ran = true -> rj.ran = true -> (aZ ri.o.op = true -> eP F L ri rj.H') /\ (eff ri = true -> eP F L rj ri.H)) (h2 : lQ F L ops.toList rs e H ef Hf) (h3 : k ef Hf)
  (hq : ∀ e' H' c' a',k e' H' -> Tr c H c' H' -> oI n c' e' a' -> Fr (dV ops.toList) a a' -> Q .normal a' c'.w) : (Code.region i ops true).wp P Q a c.w:=by
 have htr:=Tr.drew hr
 have hle : c.Le { c with w:=c.w.drew }:=htr.le
 refine wp_region_any hm ?_
 have hnl : ∀ j,¬ aB (Array.replicate ops.size false) j:=by
  intro j
  unfold aB
  rw [Array.getD_eq_getD_getElem?]
  by_cases hj : j < ops.size
  ·simp [hj]
  ·simp [hj]
 refine Rh (c0:=c) hL hFn hd hX h2 hl (fun a' c' g1 g2 g3=>hq ef Hf c' a' h3 g1 g2 g3) ops.size (Array.replicate ops.size false) 0 a { c with w:=c.w.drew } (fun _=>0) ?_ (fun j r _ _ _ hj=>absurd hj (hnl j)) (by rw [uy]; exact Nat.le_refl _)
 refine ⟨by simp,fun j o hj=>absurd hj (hnl j),Nat.zero_le _,fun j r hj=>by omega,fun j r _ _ _ hj=>absurd hj (hnl j),fun i j ri rj _ _ _ _ _ _ hj=>absurd hj (hnl i),?_,fun t A _ hA=>l7 hle (ha.env t A hA),fun t j r hj=>absurd hj (hnl j),ha.defers,ha.size,Fr.refl _ _⟩
 rw [Vo]; exact htr

theorem EP (hL : bW P L) (hm : P.follows .mixedOrders = true) (hFn : FS P F) {n i : Nat} {ops : Array Oper} {e : Env} {H : Heap} {c : Cx} {a : Act} {k : Env -> Heap -> Prop}
  {Q : Exit -> Act -> World -> Prop} (hl : ops.toList.all (qR n) = true) (hr : HR c H) (ha : oI n c e a) {mask : List Bool} (hB : ER ops.toList mask = true) (hrun : oG F L ops.toList (ops.toList.zip mask) e H k)
  (hq : ∀ e' H' c' a',k e' H' -> Tr c H c' H' -> oI n c' e' a' -> Fr (dV ops.toList) a a' -> Q .normal a' c'.w) : (Code.region i ops true).wp P Q a c.w:=by
 obtain ⟨rs,ef,Hf,h1,h2,h3⟩:=mY hrun
 exact xX hL hm hFn hl hr ha (Rj hB h1) (fun _ _ _ _ h=>h.elim) h2 h3 hq

theorem KW (hL : bW P L) (hm : P.follows .mixedOrders = true) (hFn : FS P F) {n i : Nat} {ops : Array Oper} {e : Env} {H : Heap} {c : Cx} {a : Act} {k : Env -> Heap -> Prop}
  {Q : Exit -> Act -> World -> Prop} (hl : ops.toList.all (qR n) = true) (hr : HR c H) (ha : oI n c e a) (h : bg F L ops.toList e H k)
  (hq : ∀ e' H' c' a',k e' H' -> Tr c H c' H' -> oI n c' e' a' -> Fr (dV ops.toList) a a' -> Q .normal a' c'.w) : (Code.region i ops true).wp P Q a c.w:=by
 rcases h with ⟨mask,hB,hrun⟩ | ⟨hB,hall⟩ | ⟨fl,mask,hB,hrun⟩ | ⟨fl,gl,mask,hB,hrun⟩ | ⟨js,hj⟩
 case all=>exact Ri hL hm hFn hl hr ha hB hall hq
 case late =>
  obtain ⟨rs,ef,Hf,h1,h2,h3,_,h4⟩:=lq hrun
  refine xX hL hm hFn hl hr ha (OV hB h1) ?_ h2 h3 hq
  rintro i j ri rj ⟨TU,YE,hij,hi',hj',he⟩ hi hj Yq vk
  rw [hi] at hi'; obtain rfl:=Option.some.inj hi'
  rw [hj] at hj'; obtain rfl:=Option.some.inj hj'
  simp only [IQ,Bool.and_eq_true,Bool.not_eq_true'] at he
  obtain ⟨⟨⟨⟨⟨⟨e1,e2⟩,e3⟩,e4⟩,e5⟩,_⟩,_⟩:=he
  exact ⟨fun _=>h4 i j ri rj hij hi hj (by rw [Nat.zero_add]; exact e1) e2 e3 Yq e5 vk e4,fun he=>by simp [eff,e2] at he⟩
 case both =>
  obtain ⟨rs,ef,Hf,h1,h2,h3,⟨_,h4⟩,h5⟩:=lu hrun
  refine xX hL hm hFn hl hr ha (OW hB h1) ?_ h2 h3 hq
  rintro i j ri rj ⟨TU,YE,hij,hi',hj',he⟩ hi hj Yq vk
  rw [hi] at hi'; obtain rfl:=Option.some.inj hi'
  rw [hj] at hj'; obtain rfl:=Option.some.inj hj'
  rcases he with he | he
  ·simp only [IQ,Bool.and_eq_true,Bool.not_eq_true'] at he
   obtain ⟨⟨⟨⟨⟨⟨e1,e2⟩,e3⟩,e4⟩,e5⟩,_⟩,_⟩:=he
   exact ⟨fun _=>h4 i j ri rj hij hi hj (by rw [Nat.zero_add]; exact e1) e2 e3 Yq e5 vk e4,fun he=>by simp [eff,e2] at he⟩
  ·simp only [UF,Bool.and_eq_true,Bool.not_eq_true'] at he
   obtain ⟨⟨⟨⟨⟨⟨⟨e1,e2⟩,e3⟩,e4⟩,e5⟩,_⟩,_⟩,_⟩:=he
   exact ⟨fun hl=>(by rw [e5] at hl; cases hl),fun _=>h5.g2 i j ri rj hij hi hj (by rw [Nat.zero_add]; exact e1) e2 e3 vk e4 e5 Yq⟩
 case frz =>
  obtain ⟨e1,H1,d,hw,htr,ha1,mask,hB,hrun⟩:=uP hr ha hj
  rw [<- hw]
  exact EP hL hm hFn hl htr.hr ha1 hB hrun fun e' H' c' a' g1 g2 g3 g4=>hq e' H' c' a' g1 (htr.trans g2) g3 g4
 exact EP hL hm hFn hl hr ha hB hrun hq

theorem Bc {n : Nat} {b : Code} {B : (AX -> Env -> Heap -> Prop) -> Env -> Heap -> Prop}
  (ihb : ∀ (Q : AX -> Env -> Heap -> Prop) (e : Env) (H : Heap) (c : Cx) (a : Act),HR c H -> oI n c e a -> B Q e H -> b.wp P (Post n (writes b) c H a Q) a c.w)
  {Q : AX -> Env -> Heap -> Prop} {e : Env} {H : Heap} {c : Cx} {a : Act} (hr : HR c H) (ha : oI n c e a) (h : aJ Ok (writes b) B Q e H) : (Code.loop b).wp P (Post n (writes (.loop b)) c H a Q) a c.w:=by
 refine iy.wp ?_
 have key : ∀ (m : Nat) (e : Env) (H : Heap) (c : Cx) (a : Act),HR c H -> oI n c e a -> LoopN Ok (writes b) B Q m e H -> iy P (Post n (writes b) c H a Q) b a c.w:=?_
 ·cases h with
  | ex h' =>
    obtain ⟨m,h⟩:=h'
    exact key m e H c a hr ha h
  | thaw t j sz l he ho ne next =>
    have hv:=ha.env t _ he
    obtain ⟨cp,h1,h2,d,hw,htr,hV⟩:=Tr.thaw hr ho ne hv
    obtain ⟨m,h⟩:=next cp h1 h2
    have ha':=ha.mono htr.le
    have:=key m _ _ d a htr.hr ⟨fun t' B hB=>by
     simp only [dL] at hB
     cases hb : Nat.beq t t' with
     | true =>
       rw [hb] at hB
       obtain rfl:=Nat.eq_of_beq_eq_true hb
       obtain rfl:=Option.some.inj hB
       exact aS hV
     | false=>rw [hb] at hB; exact ha'.env _ _ hB,ha.defers,ha.size⟩ h
    rw [hw] at this
    refine this.mono ?_
    rintro ex a'' w'' ⟨x'',e'',H7,c'',rfl,hq,rfl,iI,oC,hf'⟩
    exact ⟨x'',e'',H7,c'',rfl,hq,rfl,htr.trans iI,oC,hf'⟩
 intro m e H c a hr ha h
 induction m generalizing e H c a with
 | succ m ih =>
   refine iy.P6 (wp_mono (ihb _ e H c a hr ha h) ?_)
   rintro ex a' w' ⟨x',e',H',c',rfl,hq,rfl,htr,ha',hf⟩
   cases x' with
   | normal =>
     refine (ih e' H' c' a' htr.hr ha' hq).mono ?_
     rintro ex a'' w'' ⟨x'',e'',H7,c'',rfl,hq,rfl,iI,oC,hf'⟩
     exact ⟨x'',e'',H7,c'',rfl,hq,rfl,htr.trans iI,oC,fun t ht=>(hf' t ht).trans (hf t ht)⟩
   | exit j=>exact ⟨.exit j,e',H',c',rfl,hq,rfl,htr,ha',hf⟩
   | ret=>exact ⟨.ret,e',H',c',rfl,hq,rfl,htr,ha',hf⟩
 | zero =>
 obtain ⟨e₁,H₁,ι,E,kept,HS,μ,i₀,R,hR,hcv,hkept,hnext,⟨hE,hH⟩,Bq⟩:=h.ex
 obtain ⟨c₁,hw,htr₁,ha₁⟩:=DK hcv hr ha
 have hnx : c₁.nx = nextId H₁:=htr₁.hr.nx
 let I : Nat -> Act -> World -> Prop:=fun m a' w'=>∃ i c',m = μ i /\ c'.w = w' /\ Tr c₁ H₁ c' (HS i) /\ oI n c' (E i ++ kept) a' /\ (∀ t A,(t,A) ∈ E i -> Ok A) /\ Fr (writes b) a a'
 have Wu : ∀ (c' : Cx) (a' : Act),c₁.Le c' -> Fr (writes b) a a' -> ∀ t A,(t,A) ∈ kept -> EV c' A (a'.tmps.getD t undef):=by
  intro c' a' le hf t A hm
  obtain ⟨g1,g2⟩:=hkept t A hm
  rw [hf t (by simpa using g2)]
  exact l7 le (ha₁.env t A g1)
 have enter : ∀ (c' : Cx) (e' : Env) (H' : Heap) (a' : Act) (i : ι),Tr c₁ H₁ c' H' -> oI n c' e' a' -> Fr (writes b) a a' -> LP e' (nextId (HS i)) (E i) -> HWk H' (HS i) -> I (μ i) a' c'.w:=by
  intro c' e' H' a' i htr ha' hf hwE QN
  have QN:=QN.YC htr.hr
  have hall:=NC ha'.env htr.hr QN hwE
  have iI:=htr.cut QN (by rw [hnext i,hnx]; exact Nat.le_refl _)
  refine ⟨i,c'.cut (HS i),rfl,rfl,iI,⟨fun t A hA=>?_,ha'.defers,ha'.size⟩,fun t A hm=>xw (hall t A hm),hf⟩
  rcases IX hA with h | h
  ·exact hall t A h
  ·exact Wu _ a' iI.le hf t A h
 have h0 : I (μ i₀) a c.w:=by
  rw [<- hw]
  exact enter c₁ e₁ H₁ a i₀ (.refl htr₁.hr) ha₁ (Fr.refl _ _) (by rw [hnext]; exact hE) hH
 refine iy.ghost I ?_ _ _ _ h0
 rintro m a' w' ⟨i,c',rfl,rfl,htr,ha',hok,hf⟩
 refine wp_mono (ihb _ _ _ c' a' htr.hr ha' (Bq i hok)) ?_
 rintro ex a'' w'' ⟨x',e',H',c'',rfl,hq,rfl,iI,oC,hf'⟩
 have YU : Fr (writes b) a a'':=fun t ht=>(hf' t ht).trans (hf t ht)
 cases x' with
 | normal =>
   obtain ⟨i',e₂,H₂,hcv₂,⟨hwE,QN⟩,hlt⟩:=hR _ _ _ hq
   obtain ⟨c₂,hw₂,htr₂,ha₂⟩:=DK hcv₂ iI.hr oC
   rw [<- hw₂]
   exact ⟨_,hlt,enter c₂ e₂ H₂ a'' i' (htr.trans (iI.trans htr₂)) ha₂ YU hwE QN⟩
 | exit j=>exact ⟨.exit j,e',H',c'',rfl,hq,rfl,htr₁.trans (htr.trans iI),oC,YU⟩
 | ret=>exact ⟨.ret,e',H',c'',rfl,hq,rfl,htr₁.trans (htr.trans iI),oC,YU⟩

theorem iW (hL : bW P L) (hm : P.follows .mixedOrders = true) (hFn : FS P F) {n : Nat} :
  ∀ (code : Code) (Q : AX -> Env -> Heap -> Prop) (e : Env) (H : Heap) (c : Cx) (a : Act),jD n code = true -> HR c H -> oI n c e a -> aj F Ok L code Q e H ->
    code.wp P (Post n (writes code) c H a Q) a c.w
 | .skip,Q,e,H,c,a,_,hr,ha,h=>wp_skip ⟨.normal,e,H,c,rfl,h,rfl,.refl hr,ha,Fr.refl _ _⟩
 | .region i ops d,Q,e,H,c,a,hc,hr,ha,h=>by
   simp only [jD] at hc
   cases d with
   | true =>
     refine KW hL hm hFn hc hr ha h fun e' H' c' a' g1 g2 g3 g4=>?_
     exact ⟨.normal,e',H',c',rfl,g1,rfl,g2,g3,g4⟩
   | false =>
     refine wp_region_list (CV hL hFn hc hr ha h fun e' H' c' a' g1 g2 g3 g4=>?_)
     exact ⟨.normal,e',H',c',rfl,g1,rfl,g2,g3,g4⟩
 | .seq x y,Q,e,H,c,a,hc,hr,ha,h=>by
   simp only [jD,Bool.and_eq_true] at hc
   refine wp_seq (wp_mono (iW hL hm hFn x _ e H c a hc.1 hr ha h) ?_)
   rintro ex a' w' ⟨x',e',H',c',rfl,hq,rfl,htr,ha',hf⟩
   cases x' with
   | normal =>
     refine wp_mono (iW hL hm hFn y _ e' H' c' a' hc.2 htr.hr ha' hq) ?_
     rintro ex a'' w'' ⟨x',e'',H7,c'',rfl,hq,rfl,iI,oC,hf'⟩
     exact ⟨x',e'',H7,c'',rfl,hq,rfl,htr.trans iI,oC,hf.trans hf'⟩
   | exit i=>exact ⟨.exit i,e',H',c',rfl,hq,rfl,htr,ha',hf.mono fun t ht=>List.mem_append_left _ ht⟩
   | ret=>exact ⟨.ret,e',H',c',rfl,hq,rfl,htr,ha',hf.mono fun t ht=>List.mem_append_left _ ht⟩
 | .cond o x y,Q,e,H,c,a,hc,hr,ha,h=>by
   simp only [jD,Bool.and_eq_true] at hc
   obtain ⟨A,hA,h⟩:=aG ha.env hc.1.1 h
   obtain ⟨b,hb,h1,h2⟩:=Jr hA h
   refine wp_cond_split hb (fun hb=>?_) (fun hb=>?_)
   ·refine wp_mono (iW hL hm hFn x Q e H c a hc.1.2 hr ha (h1 hb)) ?_
    rintro ex a' w' ⟨x',e',H',c',g1,g2,g3,g4,g5,g6⟩
    exact ⟨x',e',H',c',g1,g2,g3,g4,g5,g6.mono fun t ht=>List.mem_append_left _ ht⟩
   ·refine wp_mono (iW hL hm hFn y Q e H c a hc.2 hr ha (h2 hb)) ?_
    rintro ex a' w' ⟨x',e',H',c',g1,g2,g3,g4,g5,g6⟩
    exact ⟨x',e',H',c',g1,g2,g3,g4,g5,g6.mono fun t ht=>List.mem_append_right _ ht⟩
 | .block i b,Q,e,H,c,a,hc,hr,ha,h=>by
   refine wp_block (wp_mono (iW hL hm hFn b _ e H c a hc hr ha h) ?_)
   rintro ex a' w' ⟨x',e',H',c',rfl,hq,g3,g4,g5,g6⟩
   cases x' with
   | normal=>exact ⟨.normal,e',H',c',rfl,hq,g3,g4,g5,g6⟩
   | exit j =>
     simp only [AX.Xm,Exit.inBlock]
     cases hb : Nat.beq j i with
     | true =>
       have hq : (match Nat.beq j i with | true=>Q .normal e' H' | false=>Q (.exit j) e' H'):=hq
       rw [hb] at hq
       rw [if_pos (Nat.eq_of_beq_eq_true hb)]
       exact ⟨.normal,e',H',c',rfl,hq,g3,g4,g5,g6⟩
     | false =>
       have hq : (match Nat.beq j i with | true=>Q .normal e' H' | false=>Q (.exit j) e' H'):=hq
       rw [hb] at hq
       rw [if_neg (eG hb)]
       exact ⟨.exit j,e',H',c',rfl,hq,g3,g4,g5,g6⟩
   | ret=>exact ⟨.ret,e',H',c',rfl,hq,g3,g4,g5,g6⟩
 | .loop b,Q,e,H,c,a,hc,hr,ha,h=>Bc (fun Q e H c a=>iW hL hm hFn b Q e H c a hc) hr ha h
 | .exit i,Q,e,H,c,a,_,hr,ha,h=>wp_exit ⟨.exit i,e,H,c,rfl,h,rfl,.refl hr,ha,Fr.refl _ _⟩
 | .ret,Q,e,H,c,a,_,hr,ha,h=>wp_ret ⟨.ret,e,H,c,rfl,h,rfl,.refl hr,ha,Fr.refl _ _⟩
 | .label l,Q,e,H,c,a,_,hr,ha,h=>wp_label ⟨.normal,e,H,c,rfl,h,rfl,.refl hr,ha,Fr.refl _ _⟩
 | .goto _,_,_,_,_,_,hc,_,_,_=>by simp [jD] at hc
 | .scope _,_,_,_,_,_,hc,_,_,_=>by simp [jD] at hc
 | .rangeFunc ..,_,_,_,_,_,hc,_,_,_=>by simp [jD] at hc
 | .refuse _,_,_,_,_,_,hc,_,_,_=>by simp [jD] at hc

end
end Go.AL
