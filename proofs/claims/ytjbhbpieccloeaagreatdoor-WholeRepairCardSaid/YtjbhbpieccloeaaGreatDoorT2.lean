/-
  A logic for calls of Go functions: code is sound. Nothing is assumed.
-/
import Derived.Test.YtjbhbpieccloeaaGreatDoorT1
import Derived.Orders

namespace Go.AL

def rE (l : List Operand) (e e' : Env) : Prop:=∀ t,.tmp t ∈ l -> dL e t = dL e' t

theorem Rz {e e' : Env} {x : Operand} (h : ∀ t,x = .tmp t -> dL e t = dL e' t) : bP e x = bP e' x:=by
 funext k
 cases x with
 | tmp t =>
   simp only [bP]
   apply propext
   rw [gB,gB,h t rfl]
 | _=>rfl

theorem rE.bP {l : List Operand} {e e' : Env} (h : rE l e e') {x : Operand} (hx : x ∈ l) : bP e x = bP e' x :=
 Rz fun t ht=>h t (by rw [<- ht]; exact hx)

theorem rD {e e' : Env} : ∀ {l : List Operand},rE l e e' -> mQ e l = mQ e' l
 | [],_=>rfl
 | x :: l,h=>by
   funext k
   simp only [mQ]
   rw [h.bP (by simp),rD (l:=l) fun t ht=>h t (by simp [ht])]

theorem yC {e e' : Env} : ∀ {ps : List (Nat × Operand)},rE (ps.map (·.2)) e e' -> iG e ps = iG e' ps
 | [],_=>rfl
 | (i,x) :: ps,h=>by
   funext zs k
   simp only [iG]
   rw [h.bP (by simp),yC (ps:=ps) fun t ht=>h t (by simp at ht ⊢; exact .inr ht)]

theorem vJ {e e' : Env} : ∀ {ps : List (Nat × Operand)},rE (ps.map (·.2)) e e' -> iO e ps = iO e' ps
 | [],_=>rfl
 | (i,x) :: ps,h=>by
   funext zs k
   simp only [iO]
   rw [h.bP (by simp),vJ (ps:=ps) fun t ht=>h t (by simp at ht ⊢; exact .inr ht)]

theorem D8 {e e' : Env} {x : Option Operand} {d : Int} (h : rE x.toList e e') : tK e x d = tK e' x d:=by
 funext k
 cases x with
 | none=>rfl
 | some y=>simp only [tK]; rw [h.bP (by simp)]

theorem II {L : Lay} {t : Nat} {e e' : Env} {A : AV} {lo hi : Option Operand} (h : rE (lo.toList ++ hi.toList) e e') : aslice L t e A lo hi = aslice L t e' A lo hi:=by
 have h1 : ∀ d,tK e lo d = tK e' lo d:=fun d=>D8 fun t ht=>h t (by simp [ht])
 have h2 : ∀ d,tK e hi d = tK e' hi d:=fun d=>D8 fun t ht=>h t (by simp [ht])
 funext k
 simp only [aslice,h1,h2]

theorem Rq {F : FT} {gu : AV -> Prop} {L : Lay} {op : Op} {e e' : Env} (h : rE (bG op) e e') : gU F gu L op e = gU F gu L op e':=by
 funext H k ks
 cases op with
 | move x=>simp only [gU]; rw [h.bP (by simp [bG])]
 | assign x=>simp only [gU]; rw [h.bP (by simp [bG])]
 | pick x y z=>simp only [gU]; rw [h.bP (x:=x) (by simp [bG]),h.bP (x:=y) (by simp [bG]),h.bP (x:=z) (by simp [bG])]
 | box t x=>simp only [gU]; rw [h.bP (by simp [bG])]
 | build t ps=>simp only [gU]; rw [yC h]
 | buildSlice t n ps=>simp only [gU]; rw [vJ h]
 | load t x=>simp only [gU]; rw [h.bP (by simp [bG])]
 | store t x y=>simp only [gU]; rw [h.bP (x:=x) (by simp [bG]),h.bP (x:=y) (by simp [bG])]
 | nilCheck x=>simp only [gU]; rw [h.bP (by simp [bG])]
 | binOp op t x y ty=>simp only [gU]; rw [h.bP (x:=x) (by simp [bG]),h.bP (x:=y) (by simp [bG])]
 | unOp op t x=>simp only [gU]; rw [h.bP (by simp [bG])]
 | typeAssert x xt s ok=>simp only [gU]; rw [h.bP (by simp [bG])]
 | lookup t x y ok=>simp only [gU]; rw [h.bP (x:=x) (by simp [bG]),h.bP (x:=y) (by simp [bG])]
 | mapUpdate t x y z=>simp only [gU]; rw [h.bP (x:=x) (by simp [bG]),h.bP (x:=y) (by simp [bG]),h.bP (x:=z) (by simp [bG])]
 | convert s d x=>simp only [gU]; rw [h.bP (by simp [bG])]
 | makeInterface t x=>simp only [gU]; rw [h.bP (by simp [bG])]
 | makeFunc f first cap=>simp only [gU]; rw [rD (l:=cap.toList) h]
 | makeSlice t x y=>simp only [gU]; rw [h.bP (x:=x) (by simp [bG]),h.bP (x:=y) (by simp [bG])]
 | slice t x lo hi mx =>
   simp only [gU]
   rw [h.bP (x:=x) (by simp [bG])]
   have:=fun A=>II (L:=L) (t:=t) (A:=A) (lo:=lo) (hi:=hi) (e:=e) (e':=e') fun t ht=>h t (by simp only [bG,List.mem_cons]; exact .inr ht)
   simp only [this]
 | fieldAddr t x f=>simp only [gU]; rw [h.bP (by simp [bG])]
 | indexAddr t x y=>simp only [gU]; rw [h.bP (x:=x) (by simp [bG]),h.bP (x:=y) (by simp [bG])]
 | index t x y=>simp only [gU]; rw [h.bP (x:=x) (by simp [bG]),h.bP (x:=y) (by simp [bG])]
 | extract x i=>simp only [gU]; rw [h.bP (by simp [bG])]
 | call cl =>
   cases hc : cl.callee with
   | value f =>
     simp only [gU,hc]
     simp only [bG,hc] at h
     rw [h.bP (x:=f) (by simp),rD fun t ht=>h t (by simp [ht])]
   | builtin b =>
     simp only [gU,hc]
     simp only [bG,hc] at h
     rw [rD fun t ht=>h t (by simp [ht])]
   | invoke r m=>simp only [gU,hc]
 | _=>rfl

end Go.AL

namespace Go.AL

def dM {α : Type} (T : (α -> Prop) -> Prop) : Prop:=∀ k,T k -> ∃ x,k x /\ ∀ k' : α -> Prop,k' x -> T k'

def EO (T : Prop -> Prop) : Prop:=∀ k,T k -> k /\ ∀ k' : Prop,k' -> T k'

theorem dM.bind {α β : Type} {T : (α -> Prop) -> Prop} {U : α -> (β -> Prop) -> Prop} (h : dM T) (g : ∀ a,dM (U a)) : dM fun k=>T fun a=>U a k:=by
 intro k hk
 obtain ⟨a,h1,h2⟩:=h _ hk
 obtain ⟨b,h3,h4⟩:=g a _ h1
 exact ⟨b,h3,fun k' hk'=>h2 _ (h4 k' hk')⟩

theorem EO.bind {β : Type} {T : Prop -> Prop} {U : (β -> Prop) -> Prop} (h : EO T) (g : dM U) : dM fun k=>T (U k):=by
 intro k hk
 obtain ⟨h1,h2⟩:=h _ hk
 obtain ⟨b,h3,h4⟩:=g _ h1
 exact ⟨b,h3,fun k' hk'=>h2 _ (h4 k' hk')⟩

theorem dM.pure {α : Type} (x : α) : dM fun k=>k x:=fun _ h=>⟨x,h,fun _ h=>h⟩
theorem dM.no {α : Type} : dM fun (_ : α -> Prop)=>False:=fun _ h=>h.elim
theorem dM.map {α β : Type} {T : (α -> Prop) -> Prop} (h : dM T) (f : α -> β) : dM fun k=>T fun a=>k (f a):=h.bind fun a=>dM.pure (f a)
theorem dM.and {α : Type} {p : Prop} {T : (α -> Prop) -> Prop} (h : dM T) : dM fun k=>p /\ T k:=by
 rintro k ⟨hp,hk⟩
 obtain ⟨x,h1,h2⟩:=h k hk
 exact ⟨x,h1,fun k' hk'=>⟨hp,h2 k' hk'⟩⟩
theorem dM.cases {α : Type} {p : Prop} {T U : (α -> Prop) -> Prop} (h : dM T) (g : dM U) : dM fun k=>(p -> T k) /\ (¬ p -> U k):=by
 rintro k ⟨h1,h2⟩
 by_cases hp : p
 ·obtain ⟨x,h3,h4⟩:=h k (h1 hp); exact ⟨x,h3,fun k' hk'=>⟨fun _=>h4 k' hk',fun hn=>absurd hp hn⟩⟩
 ·obtain ⟨x,h3,h4⟩:=g k (h2 hp); exact ⟨x,h3,fun k' hk'=>⟨fun hn=>absurd hn hp,fun _=>h4 k' hk'⟩⟩
theorem dM.YM {α : Type} {b : Bool} {T U : (α -> Prop) -> Prop} (h : dM T) (g : dM U) : dM fun k=>(b = true -> T k) /\ (b = false -> U k):=by
 rintro k ⟨h1,h2⟩
 cases b with
 | true=>obtain ⟨x,h3,h4⟩:=h k (h1 rfl); exact ⟨x,h3,fun k' hk'=>⟨(fun _=>h4 k' hk'),(fun hn=>by cases hn)⟩⟩
 | false=>obtain ⟨x,h3,h4⟩:=g k (h2 rfl); exact ⟨x,h3,fun k' hk'=>⟨(fun hn=>by cases hn),fun _=>h4 k' hk'⟩⟩

theorem qV {α : Type} {T : (α -> Prop) -> Prop} {p : α -> Prop} (h : ∀ k,T k ↔ ∃ x,p x /\ k x) : dM T:=by
 intro k hk
 obtain ⟨x,h1,h2⟩:=(h k).1 hk
 exact ⟨x,h2,fun k' hk'=>(h k').2 ⟨x,h1,hk'⟩⟩

theorem zu {α : Type} {T : (α -> Prop) -> Prop} {x : α} (h : ∀ k,T k ↔ k x) : dM T:=fun k hk=>⟨x,(h k).1 hk,fun k' hk'=>(h k').2 hk'⟩

theorem DC {T : Prop -> Prop} {p : Prop} (h : ∀ k,T k ↔ p /\ k) : EO T:=fun k hk=>⟨((h k).1 hk).2,fun k' hk'=>(h k').2 ⟨((h k).1 hk).1,hk'⟩⟩

theorem Uj (e : Env) (t : Nat) : dM (vC e t):=qV fun _=>gB
theorem qm (H : Heap) (n : Nat) : dM (jB H n):=qV fun _=>cZ
theorem qW {α : Type} (l : List α) (n : Nat) : dM (oL l n):=qV fun _=>iQ
theorem Kv (l : List Nat) (x : Nat) : dM (Fq l x):=zu fun _=>uw
theorem Bl (l m : List AV) : dM (Fb l m):=zu fun _=>yD
theorem WI (z : AV) (n : Nat) : dM (Hq z n):=zu fun _=>CB
theorem yh (A : AV) (p : List Nat) : dM (sV A p):=qV fun _=>kJ
theorem eY (a b : Nat) : EO (jP a b):=DC fun _=>bn
theorem O6 (a b : Nat) : EO (zF a b):=DC fun _=>Ea
theorem Bj (A : AV) : EO (BQ A):=DC fun _=>sD
theorem Dv : ∀ (l : List AV),EO (zW l)
 | []=>fun _ h=>⟨h,fun _ h=>h⟩
 | A :: l=>by
   intro k h
   obtain ⟨h1,h2⟩:=Bj A _ h
   obtain ⟨h3,h4⟩:=Dv l _ h1
   exact ⟨h3,fun k' hk'=>h2 _ (h4 _ hk')⟩
theorem qU (y : AV) : ∀ (l : List AV) (i : Nat),dM (iV l i y)
 | [],_=>dM.no
 | _ :: _,0=>dM.pure _
 | _ :: l,i + 1=>(qU y l i).map _
theorem Dw (B : AV) : ∀ (p : List Nat) (A : AV),dM fun k=>xk A p B k
 | [],A=>by cases A <;> exact dM.pure B
 | i :: p,A=>by
   cases A with
   | ag l=>exact (qW l i).bind fun x=>(Dw B p x).bind fun x'=>(qU x' l i).map _
   | _=>exact dM.no
theorem aK : ∀ (L : Lay) (t : Nat),dM (L.bg t)
 | .nil,_=>dM.no
 | .node l t' i r,t=>by
   intro k h
   simp only [Lay.bg] at h ⊢
   cases hb : Nat.beq t t' with
   | true=>rw [hb] at h; exact ⟨i,h,fun _ h=>h⟩
   | false =>
     rw [hb] at h
     cases hc : Nat.ble t t' with
     | true=>rw [hc] at h; exact aK l t k h
     | false=>rw [hc] at h; exact aK r t k h
theorem kR (L : Lay) (t : Nat) (x : AV) : EO (wG L t x):=by
 intro k h
 unfold wG at h
 obtain ⟨h1,h2⟩:=Bj x _ h
 obtain ⟨i,h3,h4⟩:=aK L t _ h1
 have key : k /\ ∀ k' : Prop,k' -> (match Nat.beq (flat x) (flat i.zero) with
   | false=>False
   | true=>match dn x,dn i.zero with
     | true,true=>k'
     | false,false=>k'
     | _,_=>False):=by
  cases hb : Nat.beq (flat x) (flat i.zero) with
  | false=>rw [hb] at h3; exact h3.elim
  | true =>
    rw [hb] at h3
    cases h5 : dn x <;> cases h6 : dn i.zero <;> rw [h5,h6] at h3 <;> first | exact h3.elim | exact ⟨h3,fun _ h=>h⟩
 exact ⟨key.1,fun k' hk'=>by unfold wG; exact h2 _ (h4 _ (key.2 k' hk'))⟩
theorem tq (H : Heap) (n : Nat) (o : HO) : dM (nY H n o):=by
 intro k h
 obtain ⟨h1,h2⟩:=gy.1 h
 exact ⟨_,h2,fun k' hk'=>gy.2 ⟨h1,hk'⟩⟩
theorem QO (v : Value) : dM (DK v):=by
 intro k h
 unfold DK at h ⊢
 split at h <;> first | exact h.elim | exact ⟨_,h,fun _ h=>h⟩
theorem aW (e : Env) (x : Operand) : dM (bP e x):=by
 cases x with
 | tmp t=>exact Uj e t
 | const v=>exact QO v
 | func f=>exact dM.pure _
 | global g=>exact dM.no
theorem jm (e : Env) : ∀ (l : List Operand),dM (mQ e l)
 | []=>dM.pure _
 | x :: l=>(aW e x).bind fun _=>(jm e l).map _
theorem yg {α : Type} (l : List α) (n : Int) : dM (kE l n):=by
 rintro k ⟨x,h1,h2⟩
 exact ⟨x,h2,fun k' hk'=>⟨x,h1,hk'⟩⟩
theorem O5 {α : Type} (l : List α) (lo hi : Int) : dM (VB l lo hi):=by
 rintro k ⟨h1,h2⟩
 exact ⟨_,h2,fun k' hk'=>⟨h1,hk'⟩⟩
theorem Dx (A : AV) : dM (vg A):=by
 intro k h
 unfold vg at h ⊢
 split at h <;> first | exact h.elim | exact ⟨_,h,fun _ h=>h⟩
theorem zx (kd : IntKind) (z : Int) : dM (arith kd z):=by
 cases kd <;> first | exact dM.pure _ | exact dM.and (dM.pure _)
theorem yc (A : AV) : dM (rY A):=by cases A <;> first | exact dM.pure _ | exact dM.no
theorem QS (A : AV) : dM (D7 A):=by cases A <;> first | exact dM.pure _ | exact dM.no
theorem O4 (A B : AV) : dM (WA A B):=by
 intro k h
 unfold WA at h ⊢
 split at h <;> first | exact h.elim | exact QS _ k h | exact yc _ k h | exact ⟨_,h,fun _ h=>h⟩
theorem Gp (A B : AV) : dM (Ad A B):=by
 intro k h
 unfold Ad at h ⊢
 split at h <;> first | exact h.elim | exact ⟨_,h,fun _ h=>h⟩
theorem Dy (A B : AV) : dM (sN A B):=by
 intro k h
 unfold sN at h ⊢
 split at h <;> first | exact h.elim | exact ⟨_,h,fun _ h=>h⟩
theorem WO (d : TD) (op : BinOp) (hc : Bool) (A B : AV) : dM (U8 d op hc A B):=by
 intro k h
 unfold U8 at h ⊢
 split at h <;> first
  | exact h.elim
  | exact O4 A B k h
  | exact ((O4 A B).bind fun R=>yc R) k h
  | exact Dy A B k h
  | exact ((Dy A B).bind fun R=>yc R) k h
  | (split at h <;> first | exact h.elim | exact Gp A B k h | exact ((Gp A B).bind fun R=>yc R) k h)

theorem Uo (i : TI) (op : BinOp) (A B : AV) : dM (Ll i op A B):=by
 intro k h
 unfold Ll at h ⊢
 split at h
 ·split at h
  ·split at h <;> first | exact ⟨_,h,fun _ h=>h⟩ | exact h.elim
  ·exact h.elim
 ·exact h.elim

theorem Ul (i : TI) (op : BinOp) (hc : Bool) (A B : AV) (hd : dM (zL i.desc op hc A B)) : dM fun k=>match dn A with
      | true=>Ll i op A B k
      | false=>zL i.desc op hc A B k:=by
 cases dn A with
 | true=>exact Uo i op A B
 | false=>exact hd

theorem WQ (d : TD) (op : BinOp) (hc : Bool) (A B : AV) : dM (zL d op hc A B):=by
 intro k h
 unfold zL at h ⊢
 split at h
 ·rename_i ka a kb b
  cases op <;> simp only at h ⊢
  case shl=>exact ⟨_,h.2,fun k' hk'=>⟨h.1,hk'⟩⟩
  case shr=>exact ⟨_,h.2,fun k' hk'=>⟨h.1,hk'⟩⟩
  all_goals
   cases hk : oM ka kb with
   | false=>rw [hk] at h; exact h.elim
   | true =>
     rw [hk] at h
     simp only at h ⊢
     first
      | exact ⟨_,h,fun _ h=>h⟩
      | exact zx _ _ k h
      | exact (dM.and (zx _ _)) k h
      | exact ⟨_,h.2,fun k' hk'=>⟨h.1,hk'⟩⟩
 ·cases op <;> simp only at h ⊢ <;> first
   | exact h.elim
   | exact ⟨_,h,fun _ h=>h⟩
   | exact ⟨_,h.2,fun k' hk'=>⟨h.1,hk'⟩⟩
 ·exact WO d op hc _ _ k h

theorem je (L : Lay) (t : Nat) (A : AV) (H : Heap) : dM (jf L t A H):=by
 intro k h
 unfold jf at h ⊢
 split at h
 ·exact ((kR L t _).bind (dM.pure _)) k h
 ·obtain ⟨o,h1,h2⟩:=qm H _ _ h
  split at h1
  ·obtain ⟨x,h3,h4⟩:=((yh _ _).bind fun x=>(eY _ _).bind ((kR L t x).bind (dM.pure x))) k h1
   exact ⟨x,h3,fun k' hk'=>h2 _ (h4 k' hk')⟩
  ·split at h1
   ·obtain ⟨x,h3,h4⟩:=((yg _ _).bind fun x=>dM.and ((kR L t x).bind (dM.pure x))) k h1
    exact ⟨x,h3,fun k' hk'=>h2 _ (h4 k' hk')⟩
   ·obtain ⟨x,h3,h4⟩:=((yg _ _).bind fun x=>(yh _ _).bind fun y=>dM.and ((kR L t y).bind (dM.pure y))) k h1
    exact ⟨x,h3,fun k' hk'=>h2 _ (h4 k' hk')⟩
   ·exact h1.elim
  ·exact h1.elim
 ·exact h.elim

theorem QJ (L : Lay) (t : Nat) (A B : AV) (H : Heap) : dM (Ed L t A B H):=by
 intro k h
 unfold Ed at h ⊢
 split at h
 ·obtain ⟨o,h1,h2⟩:=qm H _ _ h
  split at h1
  ·obtain ⟨x,h3,h4⟩:=((yh _ _).bind fun x=>(eY _ _).bind ((kR L t B).bind ((eY _ _).bind ((Dw B _ _).bind fun A'=>tq H _ _)))) k h1
   exact ⟨x,h3,fun k' hk'=>h2 _ (h4 k' hk')⟩
  ·split at h1
   ·obtain ⟨x,h3,h4⟩:=((Dx B).bind fun B'=>(eY _ _).bind ((kR L t B).bind (dM.and (dM.and (tq H _ _))))) k h1
    exact ⟨x,h3,fun k' hk'=>h2 _ (h4 k' hk')⟩
   ·obtain ⟨x,h3,h4⟩:=((yg _ _).bind fun x=>(yh _ _).bind fun y=>dM.and ((kR L t B).bind ((eY _ _).bind ((Dw B _ _).bind fun A'=>(Dx A').bind fun A''=>tq H _ _)))) k h1
    exact ⟨x,h3,fun k' hk'=>h2 _ (h4 k' hk')⟩
   ·exact h1.elim
  ·exact h1.elim
 ·exact h.elim

end Go.AL

namespace Go.AL

theorem QN (L : Lay) (t : Nat) (A : AV) (f : Nat) : dM (zJ L t A f):=by
 intro k h
 unfold zJ at h ⊢
 obtain ⟨i,h1,h2⟩:=aK L t _ h
 suffices hs : ∃ x,k x /\ ∀ k' : AV -> Prop,k' x -> _ from
  let ⟨x,h3,h4⟩:=hs; ⟨x,h3,fun k' hk'=>h2 _ (h4 k' hk')⟩
 split at h1
 ·split at h1
  ·obtain ⟨x,h3,h4⟩:=((eY _ _).bind ((qW _ _).bind (U:=fun z k=>match flat z with | 0=>False | _ + 1=>oL _ _ fun x=>k (.cp x)) fun z=>by
    cases flat z with
    | zero=>exact dM.no
    | succ n=>exact (qW _ _).map _)) k h1
   exact ⟨x,h3,h4⟩
  ·obtain ⟨z,h3,h4⟩:=qW _ _ _ h1
   cases hz : flat z with
   | zero=>rw [hz] at h3; exact h3.elim
   | succ n =>
     rw [hz] at h3
     obtain ⟨p',h5,h6⟩:=Kv _ _ _ h3
     exact ⟨_,h5,fun k' hk'=>h4 _ (by rw [hz]; exact h6 _ hk')⟩
  ·exact h1.elim
 ·exact h1.elim

theorem Fa (L : Lay) (t : Nat) (A I : AV) : dM (lH L t A I):=by
 intro k h
 unfold lH at h ⊢
 split at h
 ·obtain ⟨i,h1,h2⟩:=aK L t _ h
  suffices hs : ∃ x,k x /\ ∀ k' : AV -> Prop,k' x -> _ from
   let ⟨x,h3,h4⟩:=hs; ⟨x,h3,fun k' hk'=>h2 _ (h4 k' hk')⟩
  split at h1
  ·obtain ⟨x,h3,h4⟩:=((aK L _).bind fun ei=>(eY _ _).bind ((yg _ _).map AV.cp)) k h1
   exact ⟨x,h3,h4⟩
  ·obtain ⟨x,h3,h4⟩:=((aK L _).bind fun ei=>(eY _ _).bind (dM.and (dM.pure _))) k h1
   exact ⟨x,h3,h4⟩
  ·obtain ⟨x,h3,h4⟩:=((aK L _).bind fun ei=>dM.and ((Kv _ _).map fun p'=>AV.ptr _ p' _)) k h1
   exact ⟨x,h3,h4⟩
  ·exact h1.elim
 ·exact h.elim

theorem QM (L : Lay) (t : Nat) (A I : AV) : dM (zH L t A I):=by
 intro k h
 unfold zH at h ⊢
 split at h
 ·obtain ⟨i,h1,h2⟩:=aK L t _ h
  suffices hs : ∃ x,k x /\ ∀ k' : AV -> Prop,k' x -> _ from
   let ⟨x,h3,h4⟩:=hs; ⟨x,h3,fun k' hk'=>h2 _ (h4 k' hk')⟩
  split at h1
  ·exact ((yg _ _).map _) k h1
  ·exact h1.elim
 ·exact h.elim

theorem o9 (e : Env) (x : Option Operand) (d : Int) : dM (tK e x d):=by
 cases x with
 | none=>exact dM.pure _
 | some x =>
   refine (aW e x).bind (U:=fun A k=>match A with | .int _ n=>k n | _=>False) fun A=>?_
   cases A <;> first | exact dM.pure _ | exact dM.no

theorem QK (L : Lay) (t : Nat) (e : Env) (A : AV) (lo hi : Option Operand) : dM (aslice L t e A lo hi):=by
 intro k h
 unfold aslice at h ⊢
 obtain ⟨i,h1,h2⟩:=aK L t _ h
 suffices hs : ∃ x,k x /\ ∀ k' : AV -> Prop,k' x -> _ from
  let ⟨x,h3,h4⟩:=hs; ⟨x,h3,fun k' hk'=>h2 _ (h4 k' hk')⟩
 split at h1
 ·exact ((o9 e lo _).bind fun a=>(o9 e hi _).bind fun b=>(O5 _ _ _).map _) k h1
 ·exact ((aK L _).bind fun ei=>(eY _ _).bind ((o9 e lo _).bind fun a=>(o9 e hi _).bind fun b=>(O5 _ _ _).map _)) k h1
 ·exact ((aK L _).bind fun ei=>(eY _ _).bind ((o9 e lo _).bind fun a=>(o9 e hi _).bind fun b=>dM.and (dM.and (dM.pure _)))) k h1
 ·exact ((aK L _).bind fun ei=>(o9 e lo _).bind fun a=>(o9 e hi _).bind fun b=>dM.and (dM.pure _)) k h1
 ·exact h1.elim

theorem jX (H : Heap) (sz : Nat) (B : AV) : dM (vP H sz B):=by
 intro k h
 unfold vP at h ⊢
 split at h
 ·exact ⟨_,h,fun _ h=>h⟩
 ·exact ((eY _ _).bind (dM.pure _)) k h
 ·obtain ⟨o,h1,h2⟩:=qm H _ _ h
  suffices hs : ∃ x,k x /\ ∀ k' : List AV -> Prop,k' x -> _ from
   let ⟨x,h3,h4⟩:=hs; ⟨x,h3,fun k' hk'=>h2 _ (h4 k' hk')⟩
  split at h1
  ·exact ((eY _ _).bind ((eY _ _).bind (dM.and (dM.pure _)))) k h1
  ·exact h1.elim
 ·exact ((eY _ _).bind (dM.pure _)) k h
 ·exact h.elim

theorem WM (d : TD) (A : AV) (H : Heap) : dM (IJ d A H):=by
 intro k h
 unfold IJ at h ⊢
 split at h <;> first | exact h.elim | exact ⟨_,h,fun _ h=>h⟩

theorem WL (A B : AV) : dM (MQ A B):=by
 intro k h
 unfold MQ at h ⊢
 split at h
 ·split at h <;> first | exact h.elim | exact ⟨_,h,fun _ h=>h⟩
 ·exact h.elim
theorem WJ (A B : AV) : dM (AY A B):=by
 intro k h
 unfold AY at h ⊢
 split at h
 ·split at h <;> first | exact h.elim | exact ⟨_,h,fun _ h=>h⟩
 ·exact h.elim

def fF (T : (AV -> Heap -> Prop) -> Prop) : Prop:=∀ k,T k -> ∃ A H',k A H' /\ ∀ k' : AV -> Heap -> Prop,k' A H' -> T k'

theorem dM.bI {α : Type} {T : (α -> Prop) -> Prop} {U : α -> (AV -> Heap -> Prop) -> Prop} (h : dM T) (g : ∀ a,fF (U a)) : fF fun k=>T fun a=>U a k:=by
 intro k hk
 obtain ⟨a,h1,h2⟩:=h _ hk
 obtain ⟨A,H',h3,h4⟩:=g a _ h1
 exact ⟨A,H',h3,fun k' hk'=>h2 _ (h4 k' hk')⟩
theorem EO.bI {T : Prop -> Prop} {U : (AV -> Heap -> Prop) -> Prop} (h : EO T) (g : fF U) : fF fun k=>T (U k):=by
 intro k hk
 obtain ⟨h1,h2⟩:=h _ hk
 obtain ⟨A,H',h3,h4⟩:=g _ h1
 exact ⟨A,H',h3,fun k' hk'=>h2 _ (h4 k' hk')⟩
theorem fF.pure (A : AV) (H : Heap) : fF fun k=>k A H:=fun _ h=>⟨A,H,h,fun _ h=>h⟩
theorem fF.no : fF fun _=>False:=fun _ h=>h.elim
theorem fF.and {p : Prop} {T : (AV -> Heap -> Prop) -> Prop} (h : fF T) : fF fun k=>p /\ T k:=by
 rintro k ⟨hp,hk⟩
 obtain ⟨A,H',h1,h2⟩:=h k hk
 exact ⟨A,H',h1,fun k' hk'=>⟨hp,h2 k' hk'⟩⟩
theorem dM.with {T : (AV -> Prop) -> Prop} (h : dM T) (H : Heap) : fF fun k=>T fun A=>k A H:=h.bI fun A=>fF.pure A H
theorem xZ (H : Heap) (o : HO) {U : Nat -> AV} : fF fun k=>nS H o fun j H'=>k (U j) H':=by
 intro k h
 exact ⟨_,_,dP.1 h,fun k' hk'=>dP.2 hk'⟩
theorem Uh (e n sz : Nat) (z : AV) (H : Heap) : fF (PY e n sz z H):=by
 rintro k (⟨h1,h2⟩ | h)
 ·exact ⟨_,_,h2,fun k' hk'=>.pure ⟨h1,hk'⟩⟩
 ·exact ⟨_,_,h,fun k' hk'=>.wr hk'⟩
theorem Un (sz bytes : Nat) (l m : List AV) {U : (AV -> Heap -> Prop) -> Prop} (h : fF U) : fF fun k=>XD sz bytes l m (U k):=by
 rintro k ⟨h1,h2,h3⟩
 obtain ⟨A,H',h4,h5⟩:=h k h3
 exact ⟨A,H',h4,fun k' hk'=>⟨h1,h2,h5 k' hk'⟩⟩

theorem Kw (sz bytes : Nat) (l m : List AV) (H : Heap) : fF (AA sz bytes l m H):=by
 rintro k (⟨h1,h2,h3⟩ | ⟨h1,h2,h3⟩)
 ·obtain ⟨A,H',h4,h5⟩:=(xZ H (.tok sz (l.length + m.length)) (U:=fun j=>.sl sz (l ++ m) (.own j))) k h3
  exact ⟨A,H',h4,fun k' hk'=>.tok h1 h2 (h5 k' hk')⟩
 ·exact ⟨_,_,h3,fun k' hk'=>.pure h1 h2 hk'⟩

theorem Dz (L : Lay) (t : Nat) (A B : AV) (H : Heap) : fF (jr L t A B H):=by
 intro k h
 unfold jr at h ⊢
 obtain ⟨i,h1,h2⟩:=aK L t _ h
 suffices hs : ∃ x H',k x H' /\ ∀ k' : AV -> Heap -> Prop,k' x H' -> _ from
  let ⟨x,H',h3,h4⟩:=hs; ⟨x,H',h3,fun k' hk'=>h2 _ (h4 k' hk')⟩
 split at h1
 ·obtain ⟨ei,h3,h4⟩:=aK L _ _ h1
  suffices hs : ∃ x H',k x H' /\ ∀ k' : AV -> Heap -> Prop,k' x H' -> _ from
   let ⟨x,H',h5,h6⟩:=hs; ⟨x,H',h5,fun k' hk'=>h4 _ (h6 k' hk')⟩
  split at h3
  ·exact ((jX H _ B).bI fun m=>Kw _ _ _ _ _) k h3
  ·exact ((eY _ _).bI ((jX H _ B).bI fun m=>Kw _ _ _ _ _)) k h3
  ·obtain ⟨h5,h6⟩:=eY _ _ _ h3
   obtain ⟨m,h7,h8⟩:=jX H _ B _ h5
   obtain ⟨o,h9,h10⟩:=qm H _ _ h7
   cases o with
   | tok sz' top =>
     obtain ⟨x,H',g1,g2⟩:=((eY _ _).bI (fF.and (Un _ _ _ _ ((tq H _ _).bI fun H'=>fF.pure _ _)))) k h9
     exact ⟨x,H',g1,fun k' hk'=>h6 _ (h8 _ (h10 _ (g2 k' hk')))⟩
   | _=>exact h9.elim
  ·exact h3.elim
 ·exact h1.elim

theorem lY (L : Lay) (b : Builtin) (ts : List Nat) (As : List AV) (H : Heap) : fF (fA L b ts As H):=by
 intro k h
 unfold fA at h ⊢
 split at h
 ·exact ((aK L _).bI fun i=>(WM _ _ _).with H) k h
 ·obtain ⟨i,h1,h2⟩:=aK L _ _ h
  cases hi : i.desc with
  | slice e =>
    rw [hi] at h1
    obtain ⟨x,H',g1,g2⟩:=Dz L _ _ _ H k h1
    exact ⟨x,H',g1,fun k' hk'=>h2 _ (by rw [hi]; exact g2 k' hk')⟩
  | str =>
    rw [hi] at h1
    obtain ⟨x,H',g1,g2⟩:=Dz L _ _ _ H k h1
    exact ⟨x,H',g1,fun k' hk'=>h2 _ (by rw [hi]; exact g2 k' hk')⟩
  | _=>rw [hi] at h1; exact h1.elim
 ·exact ((WL _ _).with H) k h
 ·exact ((WJ _ _).with H) k h
 ·exact h.elim

end Go.AL

namespace Go.AL

theorem wE (e : Env) : ∀ (ps : List (Nat × Operand)) (zs : List AV),dM (iG e ps zs)
 | [],zs=>dM.pure zs
 | (i,x) :: ps,zs=>by
   intro k h
   simp only [iG] at h ⊢
   obtain ⟨A,h1,h2⟩:=aW e x _ h
   obtain ⟨h3,h4⟩:=Bj A _ h1
   obtain ⟨z,h5,h6⟩:=qW zs i _ h3
   obtain ⟨h7,h8⟩:=eY _ _ _ h5
   have hs : dM fun k=>iV zs i A fun zs'=>iG e ps zs' k:=(qU A zs i).bind fun zs'=>wE e ps zs'
   cases hA : dn A <;> cases hz : dn z <;> rw [hA,hz] at h7
   ·obtain ⟨l,g1,g2⟩:=hs k h7
    exact ⟨l,g1,fun k' hk'=>h2 _ (h4 _ (h6 _ (h8 _ (by rw [hA,hz]; exact g2 k' hk'))))⟩
   ·exact h7.elim
   ·exact h7.elim
   ·obtain ⟨l,g1,g2⟩:=hs k h7
    exact ⟨l,g1,fun k' hk'=>h2 _ (h4 _ (h6 _ (h8 _ (by rw [hA,hz]; exact g2 k' hk'))))⟩

theorem Ai (e : Env) : ∀ (ps : List (Nat × Operand)) (zs : List AV),dM (iO e ps zs)
 | [],zs=>dM.pure zs
 | (i,x) :: ps,zs=>by
   intro k h
   simp only [iO] at h ⊢
   obtain ⟨A,h1,h2⟩:=aW e x _ h
   obtain ⟨z,h5,h6⟩:=qW zs i _ h1
   obtain ⟨h7,h8⟩:=eY _ _ _ h5
   have hs : dM fun k=>vg A fun B=>iV zs i B fun zs'=>iO e ps zs' k:=(Dx A).bind fun B=>(qU B zs i).bind fun zs'=>Ai e ps zs'
   cases hA : dn A <;> cases hz : dn z <;> rw [hA,hz] at h7
   ·obtain ⟨l,g1,g2⟩:=hs k h7
    exact ⟨l,g1,fun k' hk'=>h2 _ (h6 _ (h8 _ (by rw [hA,hz]; exact g2 k' hk')))⟩
   ·exact h7.elim
   ·exact h7.elim
   ·obtain ⟨l,g1,g2⟩:=hs k h7
    exact ⟨l,g1,fun k' hk'=>h2 _ (h6 _ (h8 _ (by rw [hA,hz]; exact g2 k' hk')))⟩

def DetO (T : (AV -> Heap -> Prop) -> (Heap -> Prop) -> Prop) : Prop:=∀ k ks,T k ks ->
 (∃ A H',k A H' /\ ∀ (k' : AV -> Heap -> Prop) ks',k' A H' -> T k' ks') \/ (∃ H',ks H' /\ ∀ k' (ks' : Heap -> Prop),ks' H' -> T k' ks')

theorem fF.o {T : (AV -> Heap -> Prop) -> Prop} (h : fF T) : DetO fun k _=>T k:=by
 intro k ks hk
 obtain ⟨A,H',h1,h2⟩:=h k hk
 exact .inl ⟨A,H',h1,fun k' _ hk'=>h2 k' hk'⟩

theorem Uk {F : FT} (f : Nat) (args : List AV) (H : Heap) : fF (G7 F (fun _=>True) f args H):=by
 rintro k (⟨R,H',h,h'⟩ | ⟨Bs,R,hle,hb,h,h'⟩)
 ·exact ⟨R,H',h' trivial,fun k' hk'=>.gen R H' h fun _=>hk'⟩
 ·exact ⟨R,H,h' trivial,fun k' hk'=>.pure Bs R hle hb h fun _=>hk'⟩

theorem x9 (b : Bool) : EO (FM b):=by
 intro k h
 obtain ⟨h1,h2⟩:=oV.1 h
 exact ⟨h2,fun k' hk'=>oV.2 ⟨h1,hk'⟩⟩

theorem Ui (es : List (AV × AV)) (K : AV) : dM (G6 es K):=by
 rintro k ⟨r,h1,h2⟩
 exact ⟨r,h2,fun k' hk'=>⟨r,h1,hk'⟩⟩

theorem WH (es : List (AV × AV)) (K V : AV) : dM (Za es K V):=by
 rintro k ⟨r,h1,h2⟩
 exact ⟨r,h2,fun k' hk'=>⟨r,h1,hk'⟩⟩

theorem QL (ok : Bool) (z : AV) (r : Option AV) : dM (CW ok z r):=by
 unfold CW
 cases ok <;> cases r <;> exact dM.pure _

theorem Um (z : AV) (s : Nat) (A : AV) (ok : Bool) : dM (IG z s A ok):=by
 unfold IG
 cases A <;> cases ok <;> first | exact dM.no | exact dM.pure _ | skip
 all_goals
  rename_i t y
  dsimp only
  cases Nat.beq t s <;> first | exact dM.no | exact dM.pure _

theorem Np (L : Lay) (t : Nat) (A K V : AV) (H : Heap) : dM (yE L t A K V H):=by
 refine (aK L t).bind fun i=>?_
 cases i.desc <;> first | exact dM.no | skip
 cases i.key <;> first | exact dM.no | skip
 refine (x9 _).bind ((kR L _ _).bind ?_)
 cases A <;> first | exact dM.no | skip
 refine (qm H _).bind fun o=>?_
 cases o <;> first | exact dM.no | skip
 exact (x9 _).bind ((WH _ _ _).bind fun es'=>tq H _ _)

theorem Ip {F : FT} {L : Lay} {op : Op} {e : Env} {H : Heap} (hn : ng op = false) : DetO (gU F (fun _=>True) L op e H):=by
 cases op with
 | move x=>exact ((aW e x).with H).o
 | assign x=>exact ((aW e x).with H).o
 | pick x y z =>
   refine ((aW e x).bI (U:=fun C k=>match C with
   | .tt=>bP e y fun A=>k A H
   | .ff=>bP e z fun A=>k A H
   | .bool x=>(x = true -> bP e y fun A=>k A H) /\ (x = false -> bP e z fun A=>k A H)
   | .dec p=>(p -> bP e y fun A=>k A H) /\ (¬ p -> bP e z fun A=>k A H)
   | _=>False) fun C=>?_).o
   cases C with
   | tt=>exact (aW e y).with H
   | ff=>exact (aW e z).with H
   | bool b =>
     intro k h
     obtain ⟨A,h1,h2⟩:=(dM.YM (b:=b) (aW e y) (aW e z)) (fun A=>k A H) h
     exact ⟨A,H,h1,fun k' hk'=>h2 (fun A=>k' A H) hk'⟩
   | dec p =>
     intro k h
     obtain ⟨A,h1,h2⟩:=(dM.cases (p:=p) (aW e y) (aW e z)) (fun A=>k A H) h
     exact ⟨A,H,h1,fun k' hk'=>h2 (fun A=>k' A H) hk'⟩
   | _=>exact fF.no
 | alloc t=>exact ((aK L t).bI fun i=>xZ H _).o
 | box t x=>exact ((aW e x).bI fun A=>(kR L t A).bI (xZ H _)).o
 | build t ps =>
   refine ((aK L t).bI (U:=fun i k=>match i.desc,i.zero with
   | .struct _,.ag zs=>iG e ps.toList zs fun l=>k (.ag l) H
   | .arr _ el,.ag zs=>L.bg el fun ei=>jP (flat ei.zero) 1 (FM (xR zs) (iG e ps.toList zs fun l=>k (.ag l) H))
   | _,_=>False) fun i=>?_).o
   cases i.desc <;> cases i.zero <;> first | exact fF.no | exact ((wE e _ _).map _).with H | exact (aK L _).bI fun ei=>(eY _ _).bI ((x9 _).bI (((wE e _ _).map _).with H))
 | buildSlice t n ps =>
   refine ((aK L t).bI (U:=fun i k=>match i.desc with
   | .slice el=>L.bg el fun ei=>zF (n * flat ei.zero) 16777216 <| zF n 16777216 <| Hq ei.zero n fun zs=>iO e ps.toList zs fun l=>k (.sl (flat ei.zero) l .full) H
   | _=>False) fun i=>?_).o
   cases i.desc <;> first | exact fF.no | exact (aK L _).bI fun ei=>(O6 _ _).bI ((O6 _ _).bI ((WI _ _).bI fun zs=>((Ai e _ zs).map _).with H))
 | load t x=>exact ((aW e x).bI fun A=>(je L t A H).with H).o
 | store t x y =>
   intro k ks h
   obtain ⟨A,h1,h2⟩:=aW e x _ h
   obtain ⟨B,h3,h4⟩:=aW e y _ h1
   obtain ⟨H',h5,h6⟩:=QJ L t A B H _ h3
   exact .inr ⟨H',h5,fun k' ks' hk'=>h2 _ (h4 _ (h6 _ hk'))⟩
 | nilCheck x =>
   refine ((aW e x).bI (U:=fun A k=>match A with
   | .ptr _ _ _=>k A H
   | .cp _=>k A H
   | .fn _ _=>k A H
   | _=>False) fun A=>?_).o
   cases A <;> first | exact fF.no | exact fF.pure _ _
 | binOp op t x y ty =>
   intro k ks h
   simp only [gU,hn] at h ⊢
   revert h
   revert k ks
   exact ((aW e x).bI fun A=>(aW e y).bI fun B=>(aK L t).bI fun i=>(Ul i _ _ A B (WQ _ _ _ _ _)).with H).o
 | typeAssert x xt s ok =>
   clear hn
   refine ((aW e x).bI (U:=fun A k=>L.bg s fun i=>(match i.desc with
   | .iface=>False
   | _=>IG i.zero s A ok fun R=>k R H)) fun A=>(aK L s).bI fun i=>?_).o
   cases i.desc <;> first | exact fF.no | exact (Um _ _ _ _).with H
 | makeMap t r =>
   clear hn
   cases r with
   | none =>
     refine ((aK L t).bI (U:=fun i k=>match i.key with | some sh=>nS H (.iK sh []) fun j H'=>k (.mp j) H' | none=>False) fun i=>?_).o
     cases i.key <;> first | exact fF.no | exact xZ H _
   | some x=>exact fF.no.o
 | lookup t x y ok =>
   clear hn
   refine ((aW e x).bI fun A=>(aW e y).bI (U:=fun K k=>L.bg t fun i=>(match i.desc,i.key with
   | .map _ et,some sh=>FM (ay sh K) <| L.bg et fun ei=>(match A with
     | .mp j=>jB H j fun o=>(match o with
       | .iK sh' es=>FM (ay sh' sh) <| G6 es K fun r=>CW ok ei.zero r fun R=>k R H
       | _=>False)
     | _=>False)
   | _,_=>False)) fun K=>(aK L t).bI fun i=>?_).o
   cases i.desc <;> first | exact fF.no | skip
   cases i.key <;> first | exact fF.no | skip
   refine (x9 _).bI ((aK L _).bI fun ei=>?_)
   cases A <;> first | exact fF.no | skip
   refine (qm H _).bI fun o=>?_
   cases o <;> first | exact fF.no | skip
   exact (x9 _).bI ((Ui _ _).bI fun r=>(QL _ _ r).with H)
 | mapUpdate t x y z =>
   clear hn
   intro k ks h
   simp only [gU] at h ⊢
   obtain ⟨A,h1,h2⟩:=aW e x _ h
   obtain ⟨K,h3,h4⟩:=aW e y _ h1
   obtain ⟨V,h5,h6⟩:=aW e z _ h3
   obtain ⟨H',k1,k2⟩:=Np L t A K V H _ h5
   exact .inr ⟨H',k1,fun k' ks' hk'=>h2 _ (h4 _ (h6 _ (k2 _ hk')))⟩
 | unOp op t x =>
   clear hn
   refine ((aW e x).bI (U:=fun A k=>match op,A with
   | .not,A=>rY A fun R=>k R H
   | .neg,.int ka a=>arith ka (0 - a) fun R=>k R H
   | _,_=>False) fun A=>?_).o
   cases op with
   | not=>exact (yc A).with H
   | neg=>cases A <;> first | exact fF.no | exact (zx _ _).with H
   | _=>exact fF.no
 | convert s d x =>
   refine ((aW e x).bI (U:=fun A k=>L.bg s fun _=>L.bg d fun i=>(match i.desc,A with
   | .int kd,.int _ n=>k (.int kd (kd.wrap n)) H
   | .str,.str s=>k (.str s) H
   | _,_=>False)) fun A=>(aK L s).bI fun _=>(aK L d).bI fun i=>?_).o
   cases i.desc <;> cases A <;> first | exact fF.no | exact fF.pure _ _
 | makeInterface t x =>
   refine ((aW e x).bI (U:=fun A k=>L.bg t fun i=>(match i.desc with
   | .iface=>False
   | _=>BQ A (k (.jh t A) H))) fun A=>(aK L t).bI fun i=>?_).o
   cases i.desc <;> first | exact fF.no | exact (Bj A).bI (fF.pure _ _)
 | makeFunc f first cap =>
   cases f with
   | func g =>
     cases hf : first.toList with
     | nil =>
       have : fF fun k=>mQ e cap.toList fun As=>zW As (k (.fn g As) H):=(jm e _).bI fun As=>(Dv As).bI (fF.pure _ _)
       intro k ks h
       simp only [gU,hf] at h ⊢
       exact this.o k ks h
     | cons y l=>intro k ks h; simp only [gU,hf] at h
   | _=>intro k ks h; exact h.elim
 | makeSlice t x y =>
   refine ((aW e x).bI fun A=>(aW e y).bI (U:=fun B k=>L.bg t fun i=>(match i.desc,A,B with
   | .slice el,.int _ n,.int _ m=>L.bg el fun ei=>(0 <= n /\ n <= m /\ m * (ei.bytes : Int) <= 281474976710656 /\ m <= 9223372036854775807) /\
     PY m.toNat n.toNat (flat ei.zero) ei.zero H k
   | _,_,_=>False)) fun B=>(aK L t).bI fun i=>?_).o
   cases i.desc <;> first | exact fF.no | skip
   cases A <;> first | exact fF.no | skip
   cases B <;> first | exact fF.no | skip
   exact (aK L _).bI fun ei=>fF.and (Uh _ _ _ _ _)
 | slice t x lo hi mx =>
   cases mx with
   | none=>exact ((aW e x).bI fun A=>(QK L t e A lo hi).with H).o
   | some y=>exact fF.no.o
 | fieldAddr t x f=>exact ((aW e x).bI fun A=>(QN L t A f).with H).o
 | indexAddr t x y=>exact ((aW e x).bI fun A=>(aW e y).bI fun I=>(Fa L t A I).with H).o
 | index t x y=>exact ((aW e x).bI fun A=>(aW e y).bI fun I=>(QM L t A I).with H).o
 | extract x i =>
   refine ((aW e x).bI (U:=fun A k=>match A with
   | .dA l=>oL l i fun R=>k R H
   | _=>False) fun A=>?_).o
   cases A <;> first | exact fF.no | exact (qW _ _).with H
 | call cl =>
   cases hc : cl.callee with
   | value f =>
     have : fF fun k=>bP e f fun A=>(match A with
      | .fn g cap=>mQ e cl.args.toList fun As=>Fb As cap fun Bs=>G7 F (fun _=>True) g Bs H k
      | _=>False):=(aW e f).bI fun A=>by
        cases A <;> first | exact fF.no | exact (jm e _).bI fun As=>(Bl As _).bI fun Bs=>Uk _ Bs H
     intro k ks h
     simp only [gU,hc] at h ⊢
     exact this.o k ks h
   | builtin b =>
     have : fF fun k=>mQ e cl.args.toList fun As=>fA L b cl.argTypes.toList As H k:=(jm e _).bI fun As=>lY L b _ As H
     intro k ks h
     simp only [gU,hc] at h ⊢
     exact this.o k ks h
   | invoke r m=>intro k ks h; simp only [gU,hc] at h
 | _=>exact fF.no.o

end Go.AL

namespace Go.AL

theorem xY {acc : List Nat} {i : Nat} : ∀ {l : List Edge} {s : Nat},(ql acc l s).testBit i = true -> s.testBit i = true \/ ∃ e ∈ l,Region.binds .any e = true /\ (e.on = i \/ (acc.getD e.on 0).testBit i = true)
 | [],s,h=>.inl h
 | e :: l,s,h=>by
   simp only [ql] at h
   rcases xY h with h | ⟨e',h1,h2⟩
   ·cases hb : Region.binds .any e with
    | false=>rw [hb] at h; exact .inl h
    | true =>
      rw [hb] at h
      simp only [Nat.testBit_or,Bool.or_eq_true,Nat.testBit_two_pow,decide_eq_true_eq] at h
      rcases h with (h | h) | h
      ·exact .inl h
      ·exact .inr ⟨e,by simp,hb,.inl h⟩
      ·exact .inr ⟨e,by simp,hb,.inr h⟩
   ·exact .inr ⟨e',by simp [h1],h2⟩

theorem Ec : ∀ {l : List Oper} {acc : List Nat} {j : Nat},j < acc.length -> (tV l acc)[j]? = acc[j]?
 | [],_,_,_=>rfl
 | o :: l,acc,j,h=>by
   simp only [tV]
   rw [Ec (by simp; omega),List.getElem?_append_left h]

theorem KZ : ∀ {l : List Oper} {acc : List Nat} {m : Nat} {o : Oper},l[m]? = some o -> ∃ pre,pre.length = acc.length + m /\ (tV l acc)[acc.length + m]? = some (ql pre o.after.toList 0) /\ ∀ j,j < acc.length + m -> pre[j]? = (tV l acc)[j]?
 | [],_,_,_,h=>by simp at h
 | o :: l,acc,0,o',h=>by
   simp at h; subst h
   refine ⟨acc,rfl,?_,fun j hj=>?_⟩
   ·simp only [tV,Nat.add_zero]
    rw [Ec (by simp)]
    simp
   ·simp only [tV]
    rw [Ec (by simp; omega),List.getElem?_append_left (by omega)]
 | o :: l,acc,m + 1,o',h=>by
   simp at h
   obtain ⟨pre,h1,h2,h3⟩:=KZ (acc:=acc ++ [ql acc o.after.toList 0]) h
   simp only [tV]
   simp only [List.length_append,List.length_singleton] at h1 h2 h3
   refine ⟨pre,by omega,?_,fun j hj=>h3 j (by omega)⟩
   rw [show acc.length + (m + 1) = acc.length + 1 + m by omega]; exact h2

def Closed (ops : List Oper) (D : Nat -> Prop) : Prop:=∀ j o,D j -> ops[j]? = some o -> ∀ e ∈ o.after.toList,Region.binds .any e = true -> D e.on

theorem IC {ops : List Oper} {D : Nat -> Prop} (hD : Closed ops D) {i : Nat} : ∀ (j : Nat) (o : Oper),ops[j]? = some o -> (∀ e ∈ o.after.toList,Region.binds .any e = true -> D e.on) ->
  ((tV ops []).getD j 0).testBit i = true -> D i:=by
 intro j
 induction j using Nat.strongRecOn with
 | _ j ih =>
   intro o ho he hb
   obtain ⟨pre,h1,h2,h3⟩:=KZ (acc:=[]) ho
   simp only [List.length_nil,Nat.zero_add] at h1 h2 h3
   rw [List.getD_eq_getElem?_getD,h2] at hb
   rcases xY (s:=0) hb with h | ⟨e,h4,h5,h6⟩
   ·simp at h
   ·rcases h6 with rfl | h6
    ·exact he e h4 h5
    ·by_cases hlt : e.on < j
     ·have hDe:=he e h4 h5
      rw [List.getD_eq_getElem?_getD,h3 _ hlt,<- List.getD_eq_getElem?_getD] at h6
      have hlt' : e.on < ops.length:=by have:=(List.getElem?_eq_some_iff.1 ho).1; omega
      exact ih e.on hlt _ (List.getElem?_eq_getElem hlt') (fun e' he' hb'=>hD e.on _ hDe (List.getElem?_eq_getElem hlt') e' he' hb') h6
     ·rw [List.getD_eq_getElem?_getD,List.getElem?_eq_none (by omega)] at h6
      simp at h6

end Go.AL

namespace Go.AL

def RF (T : Heap -> (AV -> Heap -> Prop) -> Prop) : Prop:=∃ U : (AV -> Prop) -> Prop,∀ H k,T H k ↔ U fun A=>k A H

theorem dX {α : Type} {V : (α -> Prop) -> Prop} {T : α -> Heap -> (AV -> Heap -> Prop) -> Prop} (h : ∀ a,RF (T a)) : RF fun H k=>V fun a=>T a H k:=by
 have hc : ∃ U : α -> (AV -> Prop) -> Prop,∀ a H k,T a H k ↔ U a fun A=>k A H:=⟨fun a=>(h a).choose,fun a=>(h a).choose_spec⟩
 obtain ⟨U,hU⟩:=hc
 refine ⟨fun k=>V fun a=>U a k,fun H k=>?_⟩
 have : (fun a=>T a H k) = fun a=>U a fun A=>k A H:=by
  funext a; exact propext (hU a H k)
 show V (fun a=>T a H k) ↔ _
 rw [this]

theorem dY {U : (AV -> Prop) -> Prop} : RF fun H k=>U fun A=>k A H:=⟨U,fun _ _=>Iff.rfl⟩
theorem eX : RF fun _ _=>False:=⟨fun _=>False,fun _ _=>Iff.rfl⟩

theorem H7 (L : Lay) (b : Builtin) (hb : b = .len \/ b = .max \/ b = .min) (ts : List Nat) (As : List AV) : RF fun H k=>fA L b ts As H k:=by
 rcases hb with rfl | rfl | rfl
 ·match ts,As with
  | t :: r,[A] =>
    refine dX (V:=L.bg t) (T:=fun i H k=>IJ i.desc A H fun R=>k R H) fun i=>?_
    refine ⟨fun k=>IJ i.desc A [] k,fun H k=>?_⟩
    unfold IJ
    exact Iff.rfl
  | [],_=>exact eX
  | _ :: _,[]=>exact eX
  | _ :: _,_ :: _ :: _=>exact eX
 ·match As with
  | [A,B]=>exact dY (U:=MQ A B)
  | []=>exact eX
  | [_]=>exact eX
  | _ :: _ :: _ :: _=>exact eX
 ·match As with
  | [A,B]=>exact dY (U:=AY A B)
  | []=>exact eX
  | [_]=>exact eX
  | _ :: _ :: _ :: _=>exact eX

theorem Wi {F : FT} {gu : AV -> Prop} {L : Lay} {op : Op} {e : Env} (hn : xH op = true) (hc : ∀ cl f,op = .call cl -> cl.callee ≠ .value f) (hs : ∀ t x y,op ≠ .makeSlice t x y) (hap : ∀ cl,op = .call cl -> cl.callee ≠ .builtin .append) (ks : Heap -> Prop) :
  RF fun H k=>gU F gu L op e H k ks:=by
 cases op with
 | move x=>exact dY (U:=bP e x)
 | assign x=>exact dY (U:=bP e x)
 | pick x y z =>
   refine dX (V:=bP e x) (T:=fun C H k=>match C with
   | .tt=>bP e y fun A=>k A H
   | .ff=>bP e z fun A=>k A H
   | .bool x=>(x = true -> bP e y fun A=>k A H) /\ (x = false -> bP e z fun A=>k A H)
   | .dec p=>(p -> bP e y fun A=>k A H) /\ (¬ p -> bP e z fun A=>k A H)
   | _=>False) fun C=>?_
   cases C with
   | tt=>exact dY (U:=bP e y)
   | ff=>exact dY (U:=bP e z)
   | bool b=>exact dY (U:=fun k=>(b = true -> bP e y k) /\ (b = false -> bP e z k))
   | dec p=>exact dY (U:=fun k=>(p -> bP e y k) /\ (¬ p -> bP e z k))
   | _=>exact eX
 | build t ps =>
   refine dX (V:=L.bg t) (T:=fun i H k=>match i.desc,i.zero with
   | .struct _,.ag zs=>iG e ps.toList zs fun l=>k (.ag l) H
   | .arr _ el,.ag zs=>L.bg el fun ei=>jP (flat ei.zero) 1 (FM (xR zs) (iG e ps.toList zs fun l=>k (.ag l) H))
   | _,_=>False) fun i=>?_
   cases i.desc <;> cases i.zero <;> first | exact eX | exact dY (U:=fun k=>iG e ps.toList _ fun l=>k (.ag l)) | exact dY (U:=fun k=>L.bg _ fun ei=>jP (flat ei.zero) 1 (FM (xR _) (iG e ps.toList _ fun l=>k (.ag l))))
 | buildSlice t n ps =>
   refine dX (V:=L.bg t) (T:=fun i H k=>match i.desc with
   | .slice el=>L.bg el fun ei=>zF (n * flat ei.zero) 16777216 <| zF n 16777216 <| Hq ei.zero n fun zs=>iO e ps.toList zs fun l=>k (.sl (flat ei.zero) l .full) H
   | _=>False) fun i=>?_
   cases i.desc <;> first | exact eX | exact dY (U:=fun k=>L.bg _ fun ei=>zF (n * flat ei.zero) 16777216 <| zF n 16777216 <| Hq ei.zero n fun zs=>iO e ps.toList zs fun l=>k (.sl (flat ei.zero) l .full))
 | nilCheck x =>
   refine dX (V:=bP e x) (T:=fun A H k=>match A with
   | .ptr _ _ _=>k A H
   | .cp _=>k A H
   | .fn _ _=>k A H
   | _=>False) fun A=>?_
   cases A <;> first | exact eX | exact dY (U:=fun k=>k _)
 | binOp op t x y ty =>
   clear hc hs hap
   cases hb : ng (.binOp op t x y ty) with
   | true =>
     simp only [gU,hb]
     refine dX (V:=bP e x) (T:=fun A H k=>L.bg t fun i=>(match i.desc with | .slice _=>Ru op A fun R=>k R H | _=>False)) fun A=>dX (V:=L.bg t) fun i=>?_
     cases i.desc <;> first | exact eX | exact dY (U:=Ru op A)
   | false =>
     simp only [gU,hb]
     exact dY (U:=fun k=>bP e x fun A=>bP e y fun B=>L.bg t fun i=>match dn A with
      | true=>Ll i op A B k
      | false=>zL i.desc op (jd x || jd y) A B k)
 | typeAssert x xt s ok =>
   refine dX (V:=bP e x) (T:=fun A H k=>L.bg s fun i=>(match i.desc with
   | .iface=>False
   | _=>IG i.zero s A ok fun R=>k R H)) fun A=>dX (V:=L.bg s) fun i=>?_
   cases i.desc <;> first | exact eX | exact dY (U:=IG i.zero s A ok)
 | makeSlice t x y=>exact absurd rfl (hs t x y)
 | unOp op t x =>
   clear hn hc hs hap
   refine dX (V:=bP e x) (T:=fun A H k=>match op,A with
   | .not,A=>rY A fun R=>k R H
   | .neg,.int ka a=>arith ka (0 - a) fun R=>k R H
   | _,_=>False) fun A=>?_
   cases op with
   | not=>exact dY (U:=rY A)
   | neg=>cases A <;> first | exact eX | exact dY (U:=arith _ _)
   | _=>exact eX
 | convert s d x =>
   refine dX (V:=bP e x) (T:=fun A H k=>L.bg s fun _=>L.bg d fun i=>(match i.desc,A with
   | .int kd,.int _ n=>k (.int kd (kd.wrap n)) H
   | .str,.str s=>k (.str s) H
   | _,_=>False)) fun A=>dX (V:=L.bg s) fun _=>dX (V:=L.bg d) fun i=>?_
   cases i.desc <;> cases A <;> first | exact eX | exact dY (U:=fun k=>k _)
 | makeInterface t x =>
   refine dX (V:=bP e x) (T:=fun A H k=>L.bg t fun i=>(match i.desc with
   | .iface=>False
   | _=>BQ A (k (.jh t A) H))) fun A=>dX (V:=L.bg t) fun i=>?_
   cases i.desc <;> first | exact eX | exact dY (U:=fun k=>BQ A (k (.jh t A)))
 | makeFunc f first cap =>
   cases f with
   | func g =>
     cases hf : first.toList with
     | nil =>
       refine ⟨fun k=>mQ e cap.toList fun As=>zW As (k (.fn g As)),fun H k=>?_⟩
       simp only [gU,hf]
     | cons y l=>refine ⟨fun _=>False,fun H k=>?_⟩; simp only [gU,hf]
   | _=>exact eX
 | slice t x lo hi mx =>
   cases mx with
   | none=>exact dY (U:=fun k=>bP e x fun A=>aslice L t e A lo hi k)
   | some y=>exact eX
 | fieldAddr t x f=>exact dY (U:=fun k=>bP e x fun A=>zJ L t A f k)
 | indexAddr t x y=>exact dY (U:=fun k=>bP e x fun A=>bP e y fun I=>lH L t A I k)
 | index t x y=>exact dY (U:=fun k=>bP e x fun A=>bP e y fun I=>zH L t A I k)
 | extract x i =>
   refine dX (V:=bP e x) (T:=fun A H k=>match A with
   | .dA l=>oL l i fun R=>k R H
   | _=>False) fun A=>?_
   cases A <;> first | exact eX | exact dY (U:=oL _ i)
 | call cl =>
   cases hcl : cl.callee with
   | value f=>exact absurd hcl (hc cl f rfl)
   | invoke r m=>simp [xH,hcl] at hn
   | builtin b =>
     have hb : b = .len \/ b = .max \/ b = .min:=by
      have:=hap cl rfl
      simp only [xH,hcl] at hn
      cases b <;> first | (exact absurd hcl this) | (simp at hn; done) | simp
     obtain ⟨U,hU⟩:=dX (V:=mQ e cl.args.toList) (T:=fun As H k=>fA L b cl.argTypes.toList As H k) fun As=>H7 L b hb _ As
     refine ⟨U,fun H k=>?_⟩
     simp only [gU,hcl]
     exact hU H k
 | _=>simp [xH] at hn

end Go.AL

namespace Go.AL

theorem Lj {F : FT} {L : Lay} {op : Op} {e : Env} {H : Heap} {k : AV -> Heap -> Prop} {ks : Heap -> Prop} (O O' : AV -> Prop) (hc : ∀ cl f,op = .call cl -> cl.callee ≠ .value f) :
  gU F O L op e H k ks ↔ gU F O' L op e H k ks:=by
 cases op with
 | call cl =>
   cases hcl : cl.callee with
   | value f=>exact absurd hcl (hc cl f rfl)
   | _=>simp only [gU,hcl]
 | _=>exact Iff.rfl

theorem Jp {sz : Nat} {B : AV} {H : Heap} {k : List AV -> Prop} (h : vP [] sz B k) : vP H sz B k:=by
 unfold vP at h ⊢
 split at h
 ·exact h
 ·exact h
 ·exact h.elim
 ·exact h
 ·exact h.elim

theorem Lc {L : Lay} {ts : List Nat} {As : List AV} {H : Heap} {K : AV -> Prop} (h : fA L .append ts As [] fun A H'=>H' = [] /\ K A) :
  fA L .append ts As H fun A H'=>K A /\ H' = H:=by
 have ap0 : ∀ {sz bytes : Nat} {l m : List AV},AA sz bytes l m [] (fun A H'=>H' = [] /\ K A) -> AA sz bytes l m H fun A H'=>K A /\ H' = H:=by
  rintro sz bytes l m (⟨h1,h2,h3⟩ | ⟨h1,h2,h3⟩)
  ·have:=(dP.1 h3).1; cases this
  ·exact .pure h1 h2 ⟨h3.2,rfl⟩
 have app : ∀ {t : Nat} {A B : AV},jr L t A B [] (fun A H'=>H' = [] /\ K A) -> jr L t A B H fun A H'=>K A /\ H' = H:=by
  intro t A B h
  unfold jr at h ⊢
  obtain ⟨i,h1,h2⟩:=aK L t _ h
  refine h2 _ ?_
  split at h1
  ·obtain ⟨ei,h3,h4⟩:=aK L _ _ h1
   refine h4 _ ?_
   split at h3
   ·obtain ⟨m,h5,h6⟩:=jX [] _ B _ h3
    exact Jp (h6 _ (ap0 h5))
   ·obtain ⟨h5,h6⟩:=eY _ _ _ h3
    refine h6 _ ?_
    obtain ⟨m,h7,h8⟩:=jX [] _ B _ h5
    exact Jp (h8 _ (ap0 h7))
   ·obtain ⟨h5,h6⟩:=eY _ _ _ h3
    obtain ⟨m,h7,h8⟩:=jX [] _ B _ h5
    exact h7.elim
   ·exact h3.elim
  ·exact h1.elim
 unfold fA at h ⊢
 split at h
 ·rename_i hb; cases hb
 ·obtain ⟨i,h1,h2⟩:=aK L _ _ h
  refine h2 _ ?_
  split at h1
  ·exact app h1
  ·exact app h1
  ·exact h1.elim
 ·rename_i hb; cases hb
 ·rename_i hb; cases hb
 ·exact h.elim

theorem nJ {op : Op} {k : Prop} : noNil op k ↔ ng op = false /\ k:=by
 unfold noNil; cases ng op <;> simp

theorem Rt {F : FT} {L : Lay} {op : Op} {e : Env} {K : AV -> Prop} (hn : FQ op = true) (h : wL F L op e K) (H : Heap) :
  gU F Ok L op e H (fun A H'=>K A /\ H' = H) (fun _=>False):=by
 by_cases hld : ∃ t x,op = .load t x
 ·obtain ⟨t,x,rfl⟩:=hld
  have h : bP e x fun A=>jf L t A [] fun R=>K R:=h
  show bP e x fun A=>jf L t A H fun R=>K R /\ H = H
  obtain ⟨A,h1,h2⟩:=aW _ _ _ h
  refine h2 _ ?_
  obtain ⟨R,h3,h4⟩:=je _ _ _ _ _ h1
  have h5:=h4 (fun R'=>K R' /\ H = H) ⟨h3,rfl⟩
  unfold jf at h5 ⊢
  split at h5
  ·exact h5
  ·exact h5.elim
  ·exact h5.elim
 have hn : xH op = true:=by
  unfold FQ at hn
  rcases Bool.or_eq_true_iff.1 hn with h | h
  ·exact h
  ·exfalso
   cases op with
   | load t x=>exact hld ⟨t,x,rfl⟩
   | _=>simp [bD] at h
 have gen : (∀ cl f,op = .call cl -> cl.callee ≠ .value f) -> (∀ t x y,op ≠ .makeSlice t x y) -> (∀ cl,op = .call cl -> cl.callee ≠ .builtin .append) -> gU F (fun _=>True) L op e [] (fun A _=>K A) (fun _=>False) -> gU F Ok L op e H (fun A H'=>K A /\ H' = H) (fun _=>False):=by
  intro hc hs hap h
  obtain ⟨U,hU⟩:=Wi (F:=F) (gu:=fun _=>True) (L:=L) (e:=e) hn hc hs hap (fun _=>False)
  rw [Lj Ok (fun _=>True) hc]
  have h1:=(hU [] _).1 h
  refine (hU H _).2 ?_
  have : (fun A=>K A /\ H = H) = K:=by funext A; simp
  rw [this]; exact h1
 have genN : (∀ cl f,op = .call cl -> cl.callee ≠ .value f) -> (∀ t x y,op ≠ .makeSlice t x y) -> (∀ cl,op = .call cl -> cl.callee ≠ .builtin .append) -> (noNil op <| gU F (fun _=>True) L op e [] (fun A _=>K A) (fun _=>False)) -> gU F Ok L op e H (fun A H'=>K A /\ H' = H) (fun _=>False) :=
  fun hc hs hap h=>gen hc hs hap (nJ.1 h).2
 cases op with
 | call cl =>
   cases hcl : cl.callee with
   | value f =>
     simp only [wL,hcl] at h
     simp only [gU,hcl]
     obtain ⟨A,h1,h2⟩:=aW e f _ h
     cases A with
     | fn g cap =>
       obtain ⟨As,h3,h4⟩:=jm e _ _ h1
       obtain ⟨Bs,h5,h6⟩:=Bl As cap _ h3
       obtain ⟨Cs,R,hle,hb,hF,hK⟩:=h5
       exact h2 _ (h4 _ (h6 _ (.pure Cs R hle hb hF fun _=>⟨hK,rfl⟩)))
     | _=>exact h1.elim
   | builtin b =>
     by_cases hb : b = .append
     ·subst hb
      simp only [wL,hcl] at h
      simp only [gU,hcl]
      obtain ⟨As,h3,h4⟩:=jm e _ _ h
      exact h4 _ (Lc h3)
     ·refine gen (fun cl' f he=>by cases he; rw [hcl]; simp) (fun _ _ _ he=>by cases he) (fun cl' he=>by cases he; rw [hcl]; simpa using hb) ?_
      simp only [gU,hcl]
      cases b <;> first | exact absurd rfl hb | (simp only [wL,hcl] at h; exact h)
   | invoke r m=>simp [xH,hcl] at hn
 | makeSlice t x y =>
   simp only [wL] at h
   simp only [gU]
   obtain ⟨A,h1,h2⟩:=aW e x _ h
   refine h2 _ ?_
   obtain ⟨B,h3,h4⟩:=aW e y _ h1
   refine h4 _ ?_
   obtain ⟨i,h5,h6⟩:=aK L t _ h3
   refine h6 _ ?_
   split at h5
   ·obtain ⟨ei,⟨h7,h8,h9⟩,h10⟩:=aK L _ _ h5
    exact h10 _ ⟨h7,.pure ⟨h8,h9,rfl⟩⟩
   ·exact h5.elim
 | _=>exact genN (fun cl' f he=>by cases he) (fun _ _ _ he=>by cases he) (fun cl' he=>by cases he) h

theorem Io {F : FT} {L : Lay} {op : Op} {e : Env} : dM (wL F L op e):=by
 have gen : dM fun K=>noNil op <| gU F (fun _=>True) L op e [] (fun A _=>K A) (fun _=>False):=by
  intro K h
  obtain ⟨hn,h⟩:=nJ.1 h
  rcases Ip hn _ _ h with ⟨A,H',h1,h2⟩ | ⟨H',h1,_⟩
  ·exact ⟨A,h1,fun k' hk'=>nJ.2 ⟨hn,h2 _ _ hk'⟩⟩
  ·exact h1.elim
 cases op with
 | call cl =>
   cases hcl : cl.callee with
   | value f =>
     intro K h
     simp only [wL,hcl] at h ⊢
     obtain ⟨A,h1,h2⟩:=aW e f _ h
     cases A with
     | fn g cap =>
       obtain ⟨As,h3,h4⟩:=jm e _ _ h1
       obtain ⟨Bs,h5,h6⟩:=Bl As cap _ h3
       obtain ⟨Cs,R,hle,hb,hF,hK⟩:=h5
       exact ⟨R,hK,fun k' hk'=>h2 _ (h4 _ (h6 _ (.pure Cs R hle hb hF hk')))⟩
     | _=>exact h1.elim
   | builtin b =>
     intro K h
     by_cases hb : b = .append
     ·subst hb
      simp only [wL,hcl] at h ⊢
      obtain ⟨As,h3,h4⟩:=jm e _ _ h
      obtain ⟨A,H',h5,h6⟩:=lY L .append _ As [] _ h3
      exact ⟨A,h5.2,fun k' hk'=>h4 _ (h6 _ ⟨h5.1,hk'⟩)⟩
     ·have key : ∀ K : AV -> Prop,wL F L (.call cl) e K ↔ mQ e cl.args.toList fun As=>fA L b cl.argTypes.toList As [] fun A _=>K A:=by
       intro K
       cases b <;> first | exact absurd rfl hb | (simp only [wL,hcl])
      obtain ⟨As,h3,h4⟩:=jm e _ _ ((key K).1 h)
      obtain ⟨A,H',h5,h6⟩:=lY L b _ As [] _ h3
      exact ⟨A,h5,fun k' hk'=>(key k').2 (h4 _ (h6 _ hk'))⟩
   | invoke r m=>intro K h; simp only [wL,hcl] at h
 | makeSlice t x y =>
   refine (aW e x).bind fun A=>(aW e y).bind fun B=>(aK L t).bind fun i=>?_
   split
   ·refine (aK L _).bind fun ei=>?_
    rintro K ⟨h7,h8,h9⟩
    exact ⟨_,h9,fun k' hk'=>⟨h7,h8,hk'⟩⟩
   ·exact dM.no
 | _=>exact gen

end Go.AL

namespace Go.AL

structure Rec where
 o : Oper
 nb : Bool
 ran : Bool
 e : Env
 A : AV
 H : Heap
 H' : Heap

def cO (e e' : Env) : Prop:=∀ t A',dL e' t = some A' -> ∃ A,dL e t = some A /\ ∀ c v,EV c A v -> EV c A' v

theorem cO.refl (e : Env) : cO e e:=fun _ A h=>⟨A,h,fun _ _ h=>h⟩

def kK (ops : List Oper) (g : Option (Nat × Bool)) (e : Env) (b : Bool) : Prop :=
 match g with
 | none=>b = true
 | some (j,want)=>∃ oj d A,ops[j]? = some oj /\ oj.dst = some d /\ dL e d = some A /\ ∀ c v,EV c A v -> (∃ x,v = .bool x /\ b = (x == want)) \/ (v = undef /\ b = false)

def sG (dst : Option Nat) (A : AV) (e : Env) : Env:=match dst with | some d=>(d,A) :: e | none=>e

theorem kM {dst : Option Nat} {A : AV} {e : Env} {k : Env -> Prop} : qO dst A e k ↔ k (sG dst A e):=by
 cases dst <;> exact Iff.rfl

def Does (F : FT) (L : Lay) (r : Rec) : Prop :=
 (r.nb = true /\ r.H' = r.H /\ ∀ K : AV -> Prop,K r.A -> wL F L r.o.op r.e K) \/
 (r.nb = false /\ ∀ (k : AV -> Heap -> Prop) ks,k r.A r.H' -> gU F (fun _=>True) L r.o.op r.e r.H k ks) \/
 (r.nb = false /\ r.o.dst = none /\ ∀ k (ks : Heap -> Prop),ks r.H' -> gU F (fun _=>True) L r.o.op r.e r.H k ks)

def mX (F : FT) (L : Lay) (ops : List Oper) : List Rec -> Env -> Heap -> Env -> Heap -> Prop
 | [],e,H,ef,Hf=>ef = e /\ Hf = H
 | r :: l,e,H,ef,Hf=>r.H = H /\ cO e r.e /\ kK ops r.o.guard e r.ran /\ (r.ran = true -> Does F L r) /\ (r.ran = false -> r.A = .dA [] /\ r.H' = H) /\
     mX F L ops l (sG r.o.dst r.A r.e) r.H' ef Hf

theorem rM {c : Cx} {v : Value} (h : v = .bool true) : EV c .tt v:=by subst h; exact aS (dJ rfl rfl (by simp only [VR,Rd]))
theorem rO {c : Cx} {v : Value} (h : v = .bool false) : EV c .ff v:=by subst h; exact aS (dJ rfl rfl (by simp only [VR,Rd]))

theorem kF {e : Env} {d : Nat} {A A' : AV} (h : dL e d = some A) (hA : ∀ c v,EV c A v -> EV c A' v) : cO e ((d,A') :: e):=by
 intro t B hB
 simp only [dL] at hB
 cases hb : Nat.beq d t with
 | true =>
   rw [hb] at hB
   obtain rfl:=Nat.eq_of_beq_eq_true hb
   obtain rfl:=Option.some.inj hB
   exact ⟨A,h,hA⟩
 | false=>rw [hb] at hB; exact ⟨B,hB,fun _ _ h=>h⟩

theorem wu {ops : List Oper} {g : Option (Nat × Bool)} {e : Env} {yes no : Env -> Prop} (h : sU ops g e yes no) :
  ∃ e' b,cO e e' /\ kK ops g e b /\ (b = true -> yes e') /\ (b = false -> no e'):=by
 unfold sU at h
 split at h
 ·exact ⟨e,true,.refl e,rfl,fun _=>h,fun h=>by cases h⟩
 ·rename_i j b
  obtain ⟨oj,d,h1,h2,h3⟩:=Du h
  obtain ⟨A,h4,h5⟩:=gB.1 h3
  have say : ∀ (x : Bool),(∀ c v,EV c A v -> v = .bool x) -> kK ops (some (j,b)) e (x == b):=fun x hx=>⟨oj,d,A,h1,h2,h4,fun c v hv=>.inl ⟨x,hx c v hv,rfl⟩⟩
  split at h5
  ·exact ⟨e,true,.refl e,by simpa using say true fun c v hv=>tY hv,fun _=>h5,fun h=>by cases h⟩
  ·exact ⟨e,false,.refl e,by simpa using say true fun c v hv=>tY hv,(fun h=>by cases h),fun _=>h5⟩
  ·exact ⟨e,false,.refl e,by simpa using say false fun c v hv=>tZ hv,(fun h=>by cases h),fun _=>h5⟩
  ·exact ⟨e,true,.refl e,by simpa using say false fun c v hv=>tZ hv,fun _=>h5,fun h=>by cases h⟩
  ·rename_i x
   cases x with
   | true=>exact ⟨_,true,kF h4 fun c v hv=>rM (fO hv),by simpa using say true fun c v hv=>fO hv,fun _=>h5.1 rfl,fun h=>by cases h⟩
   | false=>exact ⟨_,false,kF h4 fun c v hv=>rO (fO hv),by simpa using say false fun c v hv=>fO hv,(fun h=>by cases h),fun _=>h5.2 rfl⟩
  ·rename_i x
   cases x with
   | true=>exact ⟨_,false,kF h4 fun c v hv=>rM (fO hv),by simpa using say true fun c v hv=>fO hv,(fun h=>by cases h),fun _=>h5.1 rfl⟩
   | false=>exact ⟨_,true,kF h4 fun c v hv=>rO (fO hv),by simpa using say false fun c v hv=>fO hv,fun _=>h5.2 rfl,fun h=>by cases h⟩
  ·rename_i p
   have dt : p -> ∀ c v,EV c (.dec p) v -> v = .bool true:=fun hp c v hv=>by
    obtain ⟨x,e1,e2⟩:=ku hv; rw [e2.2 hp] at e1; exact e1
   have df : ¬ p -> ∀ c v,EV c (.dec p) v -> v = .bool false:=fun hp c v hv=>by
    obtain ⟨x,e1,e2⟩:=ku hv
    cases x with
    | true=>exact absurd (e2.1 rfl) hp
    | false=>exact e1
   by_cases hp : p
   ·exact ⟨_,true,kF h4 fun c v hv=>rM (dt hp c v hv),by simpa using say true (dt hp),fun _=>h5.1 hp,fun h=>by cases h⟩
   ·exact ⟨_,false,kF h4 fun c v hv=>rO (df hp c v hv),by simpa using say false (df hp),(fun h=>by cases h),fun _=>h5.2 hp⟩
  ·rename_i p
   have dt : p -> ∀ c v,EV c (.dec p) v -> v = .bool true:=fun hp c v hv=>by
    obtain ⟨x,e1,e2⟩:=ku hv; rw [e2.2 hp] at e1; exact e1
   have df : ¬ p -> ∀ c v,EV c (.dec p) v -> v = .bool false:=fun hp c v hv=>by
    obtain ⟨x,e1,e2⟩:=ku hv
    cases x with
    | true=>exact absurd (e2.1 rfl) hp
    | false=>exact e1
   by_cases hp : p
   ·exact ⟨_,false,kF h4 fun c v hv=>rM (dt hp c v hv),by simpa using say true (dt hp),(fun h=>by cases h),fun _=>h5.1 hp⟩
   ·exact ⟨_,true,kF h4 fun c v hv=>rO (df hp c v hv),by simpa using say false (df hp),fun _=>h5.2 hp,fun h=>by cases h⟩
  ·exact ⟨e,false,.refl e,⟨oj,d,_,h1,h2,h4,fun c v hv=>.inr ⟨PS hv,rfl⟩⟩,(fun h=>by cases h),fun _=>h5⟩
  ·exact h5.elim

theorem oC {F : FT} {L : Lay} {ops : List Oper} {k : Env -> Heap -> Prop} : ∀ {l : List (Oper × Bool)} {e : Env} {H : Heap},pU F L ops l e H k ->
  ∃ rs ef Hf,rs.map (fun r=>(r.o,r.nb)) = l /\ mX F L ops rs e H ef Hf /\ k ef Hf
 | [],e,H,h=>⟨[],e,H,rfl,⟨rfl,rfl⟩,h⟩
 | (o,nb) :: l,e,H,h=>by
   simp only [pU] at h
   obtain ⟨e',b,h1,h2,h3,h4⟩:=wu h
   cases b with
   | false =>
     obtain ⟨rs,ef,Hf,g1,g2,g3⟩:=oC (kM.1 (h4 rfl))
     exact ⟨⟨o,nb,false,e',.dA [],H,H⟩ :: rs,ef,Hf,by simp [g1],⟨rfl,h1,h2,(fun h=>by cases h),fun _=>⟨rfl,rfl⟩,g2⟩,g3⟩
   | true =>
     have h3:=h3 rfl
     cases nb with
     | true =>
       obtain ⟨A,h5,h6⟩:=Io _ h3
       obtain ⟨rs,ef,Hf,g1,g2,g3⟩:=oC (kM.1 h5)
       exact ⟨⟨o,true,true,e',A,H,H⟩ :: rs,ef,Hf,by simp [g1],⟨rfl,h1,h2,(fun _=>.inl ⟨rfl,rfl,h6⟩),(fun h=>by cases h),g2⟩,g3⟩
     | false =>
       obtain ⟨hn,h3⟩:=nJ.1 h3
       rcases Ip hn _ _ h3 with ⟨A,H',h5,h6⟩ | ⟨H',h5,h6⟩
       ·obtain ⟨rs,ef,Hf,g1,g2,g3⟩:=oC (kM.1 h5)
        exact ⟨⟨o,false,true,e',A,H,H'⟩ :: rs,ef,Hf,by simp [g1],⟨rfl,h1,h2,(fun _=>.inr (.inl ⟨rfl,h6⟩)),(fun h=>by cases h),g2⟩,g3⟩
       ·cases hd : o.dst with
        | some d=>simp only [hd] at h5
        | none =>
          simp only [hd] at h5
          obtain ⟨rs,ef,Hf,g1,g2,g3⟩:=oC h5
          refine ⟨⟨o,false,true,e',.und,H,H'⟩ :: rs,ef,Hf,by simp [g1],⟨rfl,h1,h2,(fun _=>.inr (.inr ⟨rfl,hd,h6⟩)),(fun h=>by cases h),?_⟩,g3⟩
          simpa [sG,hd] using g2

end Go.AL

namespace Go.AL

theorem cO.trans {a b c : Env} (h : cO a b) (g : cO b c) : cO a c:=by
 intro t A hA
 obtain ⟨B,h1,h2⟩:=g t A hA
 obtain ⟨C,h3,h4⟩:=h t B h1
 exact ⟨C,h3,fun c v hv=>h2 c v (h4 c v hv)⟩

theorem cO.push {a b : Env} (h : cO a b) (d : Option Nat) (A : AV) : cO (sG d A a) (sG d A b):=by
 cases d with
 | none=>exact h
 | some d =>
   intro t B hB
   simp only [sG,dL] at hB ⊢
   cases hb : Nat.beq d t with
   | true=>rw [hb] at hB; exact ⟨B,hB,fun _ _ h=>h⟩
   | false=>rw [hb] at hB; exact h t B hB

theorem kK.refine {ops : List Oper} {g : Option (Nat × Bool)} {e e' : Env} {b : Bool} (h : cO e e') (hg : kK ops g e' b) : kK ops g e b:=by
 unfold kK at hg ⊢
 split
 ·exact hg
 ·obtain ⟨oj,d,A,h1,h2,h3,h4⟩:=hg
  obtain ⟨B,h5,h6⟩:=h d A h3
  exact ⟨oj,d,B,h1,h2,h5,fun c v hv=>h4 c v (h6 c v hv)⟩

def E0 : List Rec -> Env -> Nat -> Env
 | [],e,_=>e
 | _ :: _,e,0=>e
 | r :: l,e,j + 1=>E0 l (sG r.o.dst r.A e) j

def Hs : List Rec -> Heap -> Nat -> Heap
 | [],H,_=>H
 | _ :: _,H,0=>H
 | r :: l,_,j + 1=>Hs l r.H' j

section
variable {F : FT} {L : Lay} {ops : List Oper}

theorem fE : ∀ {rs : List Rec} {e0 e : Env} {H : Heap} {ef : Env} {Hf : Heap} {j : Nat} {r : Rec},mX F L ops rs e H ef Hf -> cO e0 e -> rs[j]? = some r ->
  r.H = Hs rs H j /\ cO (E0 rs e0 j) r.e /\ kK ops r.o.guard (E0 rs e0 j) r.ran /\ (r.ran = true -> Does F L r) /\ (r.ran = false -> r.A = .dA [] /\ r.H' = r.H)
 | [],_,_,_,_,_,_,_,_,_,h=>by simp at h
 | x :: l,e0,e,H,ef,Hf,0,r,hr,hre,h=>by
   simp at h; subst h
   obtain ⟨h1,h2,h3,h4,h5,_⟩:=hr
   exact ⟨h1,hre.trans h2,h3.refine hre,h4,fun h=>⟨(h5 h).1,(h5 h).2.trans h1.symm⟩⟩
 | x :: l,e0,e,H,ef,Hf,j + 1,r,hr,hre,h=>by
   obtain ⟨h1,h2,h3,h4,h5,h6⟩:=hr
   have:=fE (rs:=l) (j:=j) h6 ((hre.trans h2).push x.o.dst x.A) (by simpa using h)
   exact this

theorem GL : ∀ {rs : List Rec} {e0 e : Env} {H : Heap} {ef : Env} {Hf : Heap},mX F L ops rs e H ef Hf -> cO e0 e -> cO (E0 rs e0 rs.length) ef /\ Hf = Hs rs H rs.length
 | [],e0,e,H,ef,Hf,hr,hre=>by
   obtain ⟨rfl,rfl⟩:=hr
   exact ⟨hre,rfl⟩
 | x :: l,e0,e,H,ef,Hf,hr,hre=>by
   obtain ⟨h1,h2,h3,h4,h5,h6⟩:=hr
   have:=GL (rs:=l) h6 ((hre.trans h2).push x.o.dst x.A)
   exact this

theorem rH : ∀ {rs : List Rec} {H : Heap} {j : Nat} {r : Rec},rs[j]? = some r -> Hs rs H (j + 1) = r.H'
 | [],_,_,_,h=>by simp at h
 | x :: l,H,0,r,h=>by
   simp at h; subst h
   cases l <;> rfl
 | x :: l,H,j + 1,r,h=>by
   simp only [Hs]
   exact rH (by simpa using h)

theorem Xy {rs : List Rec} {H : Heap} : Hs rs H 0 = H:=by cases rs <;> rfl

theorem Oe : ∀ {rs : List Rec} {e : Env} {j t : Nat} {A : AV},j <= rs.length -> dL (E0 rs e j) t = some A ->
  (∃ i r,i < j /\ rs[i]? = some r /\ r.o.dst = some t /\ r.A = A /\ ∀ i' r',i' < j -> rs[i']? = some r' -> r'.o.dst = some t -> i' <= i) \/
  ((∀ i r,i < j -> rs[i]? = some r -> r.o.dst ≠ some t) /\ dL e t = some A)
 | [],e,j,t,A,hj,h=>by
   simp at hj; subst hj
   exact .inr ⟨fun i r hi=>by omega,h⟩
 | x :: l,e,0,t,A,_,h=>.inr ⟨fun i r hi=>by omega,h⟩
 | x :: l,e,j + 1,t,A,hj,h=>by
   simp only [E0] at h
   rcases Oe (by simpa using hj) h with ⟨i,r,h1,h2,h3,h4,h5⟩ | ⟨h1,h2⟩
   ·refine .inl ⟨i + 1,r,by omega,by simpa using h2,h3,h4,fun i' r' hi' hr' hd'=>?_⟩
    cases i' with
    | zero=>omega
    | succ i'=>have:=h5 i' r' (by omega) (by simpa using hr') hd'; omega
   ·by_cases hx : x.o.dst = some t
    ·rw [hx] at h2
     simp only [sG,dL,Nat.beq_refl] at h2
     refine .inl ⟨0,x,by omega,rfl,hx,Option.some.inj h2,fun i' r' hi' hr' hd'=>?_⟩
     cases i' with
     | zero=>omega
     | succ i'=>exact absurd hd' (h1 i' r' (by omega) (by simpa using hr'))
    ·refine .inr ⟨fun i r hi hr=>?_,?_⟩
     ·cases i with
      | zero=>simp at hr; subst hr; exact hx
      | succ i=>exact h1 i r (by omega) (by simpa using hr)
     ·cases hd : x.o.dst with
      | none=>rw [hd] at h2; exact h2
      | some d =>
        rw [hd] at h2
        simp only [sG,dL] at h2
        cases hb : Nat.beq d t with
        | true=>exact absurd (by rw [hd,Nat.eq_of_beq_eq_true hb]) hx
        | false=>rw [hb] at h2; exact h2
end

end Go.AL

namespace Go.AL

theorem uQ {F : FT} {L : Lay} {op : Op} {e : Env} {H : Heap} {k : AV -> Heap -> Prop} {ks : Heap -> Prop} (h : gU F (fun _=>True) L op e H k ks) : gU F Ok L op e H k ks:=by
 by_cases hc : ∀ cl f,op = .call cl -> cl.callee ≠ .value f
 ·exact (Lj _ _ hc).1 h
 ·have hc' : ∃ cl f,op = .call cl /\ cl.callee = .value f:=by
   apply Classical.byContradiction
   intro hn
   exact hc fun cl f h1 h2=>hn ⟨cl,f,h1,h2⟩
  obtain ⟨cl,f,rfl,hcl⟩:=hc'
  simp only [gU,hcl] at h ⊢
  obtain ⟨A,h1,h2⟩:=aW e f _ h
  cases A with
  | fn g cap =>
    obtain ⟨As,h3,h4⟩:=jm e _ _ h1
    obtain ⟨Bs,h5,h6⟩:=Bl As cap _ h3
    cases h5 with
    | gen R H' hF hK=>exact h2 _ (h4 _ (h6 _ (.gen R H' hF fun _=>hK trivial)))
    | pure Cs R hle hb hF hK=>exact h2 _ (h4 _ (h6 _ (.pure Cs R hle hb hF fun _=>hK trivial)))
  | _=>exact h1.elim

structure iH (X : Nat -> Nat -> Prop) (ops : List Oper) (rs : List Rec) : Prop where
 len : rs.length = ops.length
 get : ∀ (j : Nat) (r : Rec),rs[j]? = some r -> ops[j]? = some r.o
 neut : ∀ (j : Nat) (r : Rec),rs[j]? = some r -> r.nb = true -> FQ r.o.op = true
 back : ∀ (j : Nat) (o : Oper),ops[j]? = some o -> ∀ e ∈ o.after.toList,Region.binds .any e = true -> e.on < j
 first : ∀ (i j : Nat) (ri rj : Rec),i < j -> rs[i]? = some ri -> rs[j]? = some rj -> lG ops (ri.o,ri.nb) (rj.o,rj.nb) = true -> ((tV ops []).getD j 0).testBit i = true \/ X i j
 exm : ∀ (i j : Nat) (ri rj : Rec),X i j -> rs[i]? = some ri -> rs[j]? = some rj -> (bD ri.o.op = true /\ ri.nb = false \/ (ri.nb = false /\ bD ri.o.op = false) /\ bD rj.o.op = true /\ rj.nb = false /\ (ops.all fun o=>!jJ o.op) = true) /\ True /\ (∀ t,ri.o.dst = some t -> t ∉ cu ops rj.o) /\ ∀ t,rj.o.dst = some t -> t ∉ cu ops ri.o
 ZA : ∀ (j : Nat) (r : Rec),rs[j]? = some r -> r.nb = false -> jJ r.o.op = true -> r.o.guard = none /\ ∃ d,r.o.dst = some d
 late : ∀ (i j k : Nat) (ri rj rk : Rec) (d : Nat),i < j -> j < k -> rs[i]? = some ri -> rs[j]? = some rj -> rs[k]? = some rk -> ri.nb = false -> bD ri.o.op = false -> rj.nb = false -> jJ rj.o.op = true -> rj.o.dst = some d ->
  d ∈ cu ops rk.o -> ((tV ops []).getD j 0).testBit i = true \/ ((tV ops []).getD k 0).testBit i = true

theorem bJ {α : Type} {l : List α} {p : α × Nat -> Bool} (h : l.zipIdx.all p = true) {j : Nat} {x : α} (hx : l[j]? = some x) : p (x,j) = true:=by
 rw [List.all_eq_true] at h
 apply h
 rw [List.mem_zipIdx_iff_getElem?]
 simpa using hx

theorem Ug {ops : List Oper} {mask : List Bool} {rs : List Rec} (h : Gn ops mask = true) (hm : rs.map (fun r=>(r.o,r.nb)) = ops.zip mask) : iH (fun _ _=>False) ops rs:=by
 unfold Gn at h
 simp only [Bool.and_eq_true] at h
 obtain ⟨⟨⟨⟨h1,h2⟩,h3⟩,h5⟩,h4⟩:=h
 have hlen:=Nat.eq_of_beq_eq_true h1
 have hget : ∀ (j : Nat) (r : Rec),rs[j]? = some r -> (ops.zip mask)[j]? = some (r.o,r.nb):=by
  intro j r hr
  rw [<- hm,List.getElem?_map,hr]; rfl
 refine ⟨?_,fun j r hr=>?_,fun j r hr hn=>?_,fun j o ho e he hb=>?_,fun i j ri rj hij hi hj hc=>.inl ?_,fun _ _ _ _ h=>h.elim,fun j r hr hn hw=>?_,fun i j k ri rj rk d hij hjk hi hj hk hn hl hn' hw hd hm=>?_⟩
 ·have:=congrArg List.length hm
  simp at this; omega
 ·have:=hget j r hr
  rw [List.getElem?_zip_eq_some] at this
  exact this.1
 ·have:=List.all_eq_true.1 h2 _ (List.mem_of_getElem? (hget j r hr))
  simpa [hn] using this
 ·have:=bJ h3 ho
  have:=List.all_eq_true.1 this e he
  rw [hb] at this
  simpa using this
 ·have:=bJ h4 (hget j rj hj)
  have:=bJ this (hget i ri hi)
  have hlt : Nat.blt i j = true:=by simpa using hij
  simp only [hlt,hc,Bool.not_true,Bool.false_or] at this
  exact this
 ·have:=bJ h5 (hget j r hr)
  simp only [hn,hw,Bool.not_false,Bool.and_self,Bool.not_true,Bool.false_or,Bool.and_eq_true] at this
  obtain ⟨g1,g2⟩:=this
  refine ⟨?_,?_⟩
  ·cases hg : r.o.guard with
   | none=>rfl
   | some g=>rw [hg] at g1; cases g1
  ·cases hd : r.o.dst with
   | none=>rw [hd] at g2; cases g2
   | some d=>exact ⟨d,rfl⟩
 ·have:=bJ h5 (hget j rj hj)
  simp only [hn',hw,Bool.not_false,Bool.and_self,Bool.not_true,Bool.false_or,Bool.and_eq_true,hd] at this
  have:=bJ this.2 (hget i ri hi)
  have hlt : Nat.blt i j = true:=by simpa using hij
  have hlt2 : Nat.blt j k = true:=by simpa using hjk
  simp only [hlt,hn,hl,Bool.not_true,Bool.false_or,Bool.or_eq_true] at this
  rcases this with this | this
  ·exact .inl this
  ·have:=bJ this (hget k rk hk)
   have hc : (cu ops rk.o).contains d = true:=by simpa using hm
   simp only [hlt2,hc,Bool.not_true,Bool.false_or] at this
   exact .inr this

section
variable {X : Nat -> Nat -> Prop} {ops : List Oper} {rs : List Rec} {listed : Array Bool}

def aF (listed : Array Bool) (j : Nat) : Prop:=listed.getD j false = true

theorem CX {j i : Nat} (hj : j < listed.size) : aF (listed.setIfInBounds j true) i ↔ i = j \/ aF listed i:=by
 unfold aF
 by_cases hij : i = j
 ·subst hij
  simp [hj]
 ·simp [hij,Array.getElem?_setIfInBounds_ne (Ne.symm hij)]

theorem jM (hd : iH X ops rs) (hc : Closed ops (aF listed)) {i j : Nat} {ri rj : Rec} (hij : i < j) (hi : rs[i]? = some ri) (hj : rs[j]? = some rj)
  (hcl : lG ops (ri.o,ri.nb) (rj.o,rj.nb) = true) (hx : ¬ X i j) (hje : ∀ e ∈ rj.o.after.toList,Region.binds .any e = true -> aF listed e.on) : aF listed i :=
 IC hc j rj.o (hd.get j rj hj) hje ((hd.first i j ri rj hij hi hj hcl).resolve_right hx)

theorem jT (hd : iH X ops rs) (hc : Closed ops (aF listed)) {i j : Nat} {ri rj : Rec} (hij : i < j) (hi : rs[i]? = some ri) (hj : rs[j]? = some rj)
  (hcl : lG ops (ri.o,ri.nb) (rj.o,rj.nb) = true) (hx : ¬ X i j) (hl : aF listed j) : aF listed i :=
 jM hd hc hij hi hj hcl hx (hc j rj.o hl (hd.get j rj hj))

def eff (r : Rec) : Bool:=!r.nb && !bD r.o.op

theorem iH.nx1 (hd : iH X ops rs) {i j : Nat} {ri rj : Rec} (hi : rs[i]? = some ri) (hj : rs[j]? = some rj) {t : Nat} (h : ri.o.dst = some t) (ht : t ∈ cu ops rj.o) : ¬ X i j :=
 fun x=>(hd.exm i j ri rj x hi hj).2.2.1 t h ht
theorem iH.nx2 (hd : iH X ops rs) {i j : Nat} {ri rj : Rec} (hi : rs[i]? = some ri) (hj : rs[j]? = some rj) {t : Nat} (h : rj.o.dst = some t) (ht : t ∈ cu ops ri.o) : ¬ X i j :=
 fun x=>(hd.exm i j ri rj x hi hj).2.2.2 t h ht
theorem iH.nxe (hd : iH X ops rs) {i j : Nat} {ri rj : Rec} (hi : rs[i]? = some ri) (hj : rs[j]? = some rj) (h : eff ri = true) (h' : eff rj = true) : ¬ X i j:=by
 intro x
 rcases (hd.exm i j ri rj x hi hj).1 with g | g
 ·simp [eff,g.1] at h
 ·simp [eff,g.2.1] at h'
theorem iH.nxl (hd : iH X ops rs) {i j : Nat} {ri rj : Rec} (hi : rs[i]? = some ri) (hj : rs[j]? = some rj) (h : eff ri = true) (x : X i j) : bD rj.o.op = true /\ (ops.all fun o=>!jJ o.op) = true:=by
 rcases (hd.exm i j ri rj x hi hj).1 with g | g
 ·simp [eff,g.1] at h
 ·exact ⟨g.2.1,g.2.2.2⟩

theorem nK {x y : Rec} (hx : eff x = true) (hy : y.nb = false) : (jJ y.o.op = false -> (bD y.o.op = false \/ Bc x.o.op = false \/ (ops.all fun o=>!jJ o.op) = false) -> lG ops (x.o,x.nb) (y.o,y.nb) = true) /\ (jJ x.o.op = false -> (bD y.o.op = false \/ wM x.o.op = false) -> lG ops (y.o,y.nb) (x.o,x.nb) = true):=by
 simp only [eff,Bool.and_eq_true,Bool.not_eq_true'] at hx
 refine ⟨fun h hn=>?_,fun hn h=>?_⟩
 ·unfold lG
  rcases hn with hn | hn | hn <;> simp only [hx.1,hx.2,hy,h,hn,Bool.not_false,Bool.and_true,Bool.false_and,Bool.and_false,Bool.true_or]
 ·have ha : Bc y.o.op = true -> bD x.o.op = false:=fun _=>hx.2
  rcases h with h | h <;> simp [lG,hx.1,hx.2,hy,h,hn]

theorem uP {x y : Rec} {t : Nat} (hx : x.o.dst = some t) (hy : t ∈ cu ops y.o) : lG ops (x.o,x.nb) (y.o,y.nb) = true /\ lG ops (y.o,y.nb) (x.o,x.nb) = true:=by
 constructor <;> simp [lG,hx,hy]

end

structure Free (c : Cx) (H : Heap) (b : Nat) : Prop where
 lt : b < c.w.heap.size
 own : ∀ x ∈ H,aB c x ≠ some b
 im : ∀ o,¬ c.Im b o

theorem Free.tr {c d : Cx} {H H' : Heap} {b : Nat} (h : Free c H b) (t : Tr c H d H') : Free d H' b /\ d.w.heap[b]? = c.w.heap[b]?:=by
 have h1:=h.lt
 refine ⟨⟨by have:=t.size; omega,fun y hy hb=>?_,fun o ho=>?_⟩,t.fr b h1 h.own⟩
 ·rcases t.own y hy b hb with h2 | ⟨x,h2,h3⟩
  ·omega
  ·exact h.own x h2 h3
 ·rcases t.VJ b o ho with h2 | h2 | ⟨x,h2,h3⟩
  ·exact h.im o h2
  ·omega
  ·exact h.own x h2 h3

inductive Zh (b : Nat) : Obj -> Value -> HO -> (Nat -> AV) -> Prop
 | box {cs : List Value} {ty : Nat} {z : AV} (h : ∀ c : Cx,VR c z cs) : Zh b (.cells cs.toArray ty) (.pointer (some ⟨b,0,none⟩)) (.box z) (fun j=>.ptr j [] 0)
 | map {sh : AV} : Zh b (.map #[] 0) (.map (some b)) (.iK sh []) .mp

def Cx.adopt (c : Cx) (H : Heap) (b : Nat) (z : HO) : Cx:={ c with ρ:=fun k=>if k = c.nx then b else c.ρ k,nx:=c.nx + 1,tp:=dw ((nextId H,z) :: H) }

theorem Tr.adopt {c0 c : Cx} {H0 H : Heap} (tr : Tr c0 H0 c H) {b : Nat} (hf : Free c H b) (h0 : c0.w.heap.size <= b) {o : Obj} {v : Value} {z : HO} {f : Nat -> AV} (hh : c.w.heap[b]? = some o) (hz : Zh b o v z f) :
  Tr c0 H0 (c.adopt H b z) ((nextId H,z) :: H) /\ c.Le (c.adopt H b z) /\ EV (c.adopt H b z) (f (nextId H)) v /\ ∀ b',b' ≠ b -> Free c H b' -> Free (c.adopt H b z) ((nextId H,z) :: H) b':=by
 have hr:=tr.hr
 have hlt : ∀ x ∈ H,x.1 < c.nx:=fun x hx=>by rw [hr.nx]; exact bF hr.ids x hx
 have le : c.Le (c.adopt H b z):=by
  refine ⟨fun b x h=>⟨h,rfl⟩,Nat.le_succ _,fun k hk=>?_,fun k n hk hn=>?_⟩
  ·simp only [Cx.adopt]; rw [if_neg (by omega)]
  ·refine .inl ⟨?_,rfl⟩
   have : nextId H ≠ k:=by rw [<- hr.nx]; omega
   simp only [Cx.adopt] at hn
   rw [jG this] at hn
   rw [hr.tp]; exact hn
 have hbk : ∀ x ∈ H,aB (c.adopt H b z) x = aB c x:=fun x hx=>jD (le.ρ _ (hlt x hx)) rfl
 have hρ : (c.adopt H b z).ρ (nextId H) = b:=by simp only [Cx.adopt]; rw [if_pos hr.nx.symm]
 have hnew : aB (c.adopt H b z) (nextId H,z) = some b:=by
  have : aB (c.adopt H b z) (nextId H,z) = some ((c.adopt H b z).ρ (nextId H)):=by cases hz <;> rfl
  rw [this,hρ]
 refine ⟨⟨⟨?_,rfl,?_,?_,?_,?_⟩,tr.le.trans le,tr.os,tr.tape,tr.output,tr.size,tr.fr,?_,tr.VJ⟩,le,?_,?_⟩
 ·simp only [Cx.adopt,nextId,hr.nx]
 ·exact ⟨fun x hx=>bF hr.ids x hx,hr.ids⟩
 ·exact hr.im
 ·intro x hx
  rcases List.mem_cons.1 hx with rfl | hx
  ·cases hz with
   | @box cs ty z hz =>
     refine ⟨cs,ty,?_,hz _,?_⟩
     ·rw [hρ]; exact hh
     ·rw [hρ]; exact hf.im
   | map =>
     refine ⟨#[],0,?_,rfl,trivial,by simp,by simp⟩
     rw [hρ]; exact hh
  ·exact mF le (hlt x hx) rfl (fun b hb=>⟨rfl,fun y hy=>hy⟩) (hr.ok x hx)
 ·rw [List.pairwise_cons]
  constructor
  ·intro y hy b' hb hb'
   rw [hnew] at hb
   obtain rfl:=Option.some.inj hb
   rw [hbk y hy] at hb'
   exact hf.own y hy hb'
  ·exact jI hr.apart fun x hx y hy h b hb=>by rw [hbk y hy]; rw [hbk x hx] at hb; exact h b hb
 ·intro y hy b' hb
  rcases List.mem_cons.1 hy with rfl | hy
  ·rw [hnew] at hb
   obtain rfl:=Option.some.inj hb
   exact .inl h0
  ·rw [hbk y hy] at hb; exact tr.own y hy b' hb
 ·have hlt' : nextId H < (c.adopt H b z).nx:=by simp only [Cx.adopt,hr.nx]; omega
  cases hz with
  | box hz =>
    have:=qw (c:=c.adopt H b _) (i:=nextId H) (off:=0) (p:=[]) hlt'
    rw [hρ] at this
    exact aS this
  | map =>
    refine aS (dJ rfl rfl ?_)
    simp only [VR]
    exact ⟨hlt',by rw [hρ]⟩
 ·intro b' hne h
  refine ⟨h.lt,fun y hy hb=>?_,h.im⟩
  rcases List.mem_cons.1 hy with rfl | hy
  ·rw [hnew] at hb
   exact hne (Option.some.inj hb).symm
  ·rw [hbk y hy] at hb; exact h.own y hy hb

structure Pend (c0 : Cx) (a : Act) (c : Cx) (H : Heap) (r : Rec) (b : Nat) : Prop where
 ZB : jJ r.o.op = true
 free : Free c H b
 low : c0.w.heap.size <= b
 cells : ∃ o v z f,c.w.heap[b]? = some o /\ Zh b o v z f /\ r.H' = (nextId r.H,z) :: r.H /\ r.A = f (nextId r.H) /\ ∀ d,r.o.dst = some d -> a.tmps.getD d undef = v

structure qE (ops : List Oper) (rs : List Rec) (c0 : Cx) (H0 : Heap) (e : Env) (a0 : Act) (n : Nat) (listed : Array Bool) (m : Nat) (a : Act) (c : Cx) (pd : Nat -> Nat) : Prop where
 size : listed.size = ops.length
 closed : Closed ops (aF listed)
 mle : m <= rs.length
 below : ∀ (j : Nat) (r : Rec),j < m -> rs[j]? = some r -> eff r = true -> aF listed j
 above : ∀ (j : Nat) (r : Rec),m <= j -> rs[j]? = some r -> eff r = true -> aF listed j -> Pend c0 a c (Hs rs H0 m) r (pd j)
 inj : ∀ (i j : Nat) (ri rj : Rec),m <= i -> m <= j -> rs[i]? = some ri -> rs[j]? = some rj -> eff ri = true -> eff rj = true -> aF listed i -> aF listed j -> pd i = pd j -> i = j
 tr : Tr c0 H0 c (Hs rs H0 m)
 old : ∀ (t : Nat) (A : AV),(∀ (j : Nat) (r : Rec),aF listed j -> rs[j]? = some r -> r.o.dst ≠ some t) -> dL e t = some A -> EV c A (a.tmps.getD t undef)
 new : ∀ (t j : Nat) (r : Rec),aF listed j -> rs[j]? = some r -> r.o.dst = some t -> (∀ (i : Nat) (ri : Rec),aF listed i -> rs[i]? = some ri -> ri.o.dst = some t -> i <= j) -> (eff r = true -> j < m) -> EV c r.A (a.tmps.getD t undef)
 defers : a.defers = []
 Oi : a.tmps.size = n
 fr : Fr (dW ops) a0 a

def Vz (rs : List Rec) (listed : Array Bool) (m : Nat) : Prop :=
 ∀ (j : Nat) (r : Rec),m <= j -> rs[j]? = some r -> eff r = true -> aF listed j -> ∃ (x : Nat) (rx : Rec),m <= x /\ x < j /\ rs[x]? = some rx /\ eff rx = true /\ ¬ aF listed x

end Go.AL

namespace Go.AL

def sub (e : Env) : List Operand -> Env
 | []=>[]
 | .tmp t :: l=>match dL e t with | some A=>(t,A) :: sub e l | none=>sub e l
 | .const _ :: l=>sub e l
 | .func _ :: l=>sub e l
 | .global _ :: l=>sub e l

theorem qJ {e : Env} : ∀ {l : List Operand} {t : Nat} {A : AV},dL (sub e l) t = some A -> dL e t = some A /\ Operand.tmp t ∈ l
 | [],_,_,h=>by simp [sub,dL] at h
 | .tmp s :: l,t,A,h=>by
   simp only [sub] at h
   cases hs : dL e s with
   | none=>rw [hs] at h; have:=qJ h; exact ⟨this.1,by simp [this.2]⟩
   | some B =>
     rw [hs] at h
     simp only [dL] at h
     cases hb : Nat.beq s t with
     | true =>
       rw [hb] at h
       obtain rfl:=Nat.eq_of_beq_eq_true hb
       obtain rfl:=Option.some.inj h
       exact ⟨hs,by simp⟩
     | false=>rw [hb] at h; have:=qJ h; exact ⟨this.1,by simp [this.2]⟩
 | .const _ :: l,t,A,h=>by have:=qJ (l:=l) h; exact ⟨this.1,by simp [this.2]⟩
 | .func _ :: l,t,A,h=>by have:=qJ (l:=l) h; exact ⟨this.1,by simp [this.2]⟩
 | .global _ :: l,t,A,h=>by have:=qJ (l:=l) h; exact ⟨this.1,by simp [this.2]⟩

theorem uq {e : Env} {A : AV} {t : Nat} (he : dL e t = some A) : ∀ {l : List Operand},Operand.tmp t ∈ l -> dL (sub e l) t = some A
 | [],h=>by simp at h
 | .tmp s :: l,h=>by
   simp only [sub]
   cases hs : dL e s with
   | none =>
     have : t ≠ s:=fun e'=>by subst e'; rw [he] at hs; cases hs
     exact uq he (l:=l) (by simpa [this] using h)
   | some B =>
     simp only [dL]
     cases hb : Nat.beq s t with
     | true =>
       obtain rfl:=Nat.eq_of_beq_eq_true hb
       rw [hs] at he; exact he
     | false =>
       have : t ≠ s:=fun e'=>dZ hb e'.symm
       exact uq he (l:=l) (by simpa [this] using h)
 | .const _ :: l,h=>uq he (l:=l) (by simpa using h)
 | .func _ :: l,h=>uq he (l:=l) (by simpa using h)
 | .global _ :: l,h=>uq he (l:=l) (by simpa using h)

theorem Si {e : Env} {l : List Operand} : rE l (sub e l) e:=by
 intro t ht
 cases he : dL e t with
 | some A=>exact uq he ht
 | none =>
   cases hs : dL (sub e l) t with
   | none=>rfl
   | some B=>rw [(qJ hs).1] at he; cases he

theorem nU {t : Nat} : ∀ {l : List Operand},Operand.tmp t ∈ l -> t ∈ CJ l
 | [],h=>by simp at h
 | .tmp s :: l,h=>by
   simp only [CJ,List.mem_cons]
   rcases List.mem_cons.1 h with h | h
   ·exact .inl (by cases h; rfl)
   ·exact .inr (nU h)
 | .const _ :: l,h=>nU (l:=l) (by simpa using h)
 | .func _ :: l,h=>nU (l:=l) (by simpa using h)
 | .global _ :: l,h=>nU (l:=l) (by simpa using h)

theorem lM {d : Nat} : ∀ {l : List Oper} {o : Oper},o ∈ l -> o.dst = some d -> d ∈ dW l
 | [],_,h,_=>by simp at h
 | x :: l,o,h,hd=>by
   simp only [dW]
   rcases List.mem_cons.1 h with h | h
   ·subst h; rw [hd]; simp
   ·cases x.dst with
    | none=>exact lM h hd
    | some d'=>exact List.mem_cons_of_mem _ (lM h hd)

section
variable {F : FT} {L : Lay} {ops : List Oper} {rs : List Rec}

theorem BM {e : Env} {H : Heap} {ef : Env} {Hf : Heap} (hr : mX F L ops rs e H ef Hf) {p : Nat} : ∀ (q : Nat),p <= q -> q <= rs.length ->
  (∀ j r,p <= j -> j < q -> rs[j]? = some r -> r.H' = r.H) -> Hs rs H p = Hs rs H q
 | 0,hpq,_,_=>by obtain rfl : p = 0:=by omega
                 rfl
 | q + 1,hpq,hq,h=>by
   by_cases hp : p = q + 1
   ·rw [hp]
   ·have hlt : q < rs.length:=by omega
    have hr':=fE hr (cO.refl e) (List.getElem?_eq_getElem hlt)
    rw [rH (List.getElem?_eq_getElem hlt),h q _ (by omega) (by omega) (List.getElem?_eq_getElem hlt),hr'.1]
    exact BM hr q (by omega) (by omega) fun j r h1 h2 h3=>h j r h1 (by omega) h3

theorem jK {e : Env} {H : Heap} {ef : Env} {Hf : Heap} (hr : mX F L ops rs e H ef Hf) {j : Nat} {r : Rec} (hj : rs[j]? = some r) (he : eff r = false) : r.H' = r.H:=by
 have hr':=fE hr (cO.refl e) hj
 cases qj : r.ran with
 | false=>exact (hr'.2.2.2.2 qj).2
 | true =>
   rcases hr'.2.2.2.1 qj with ⟨_,h,_⟩ | ⟨hn,h⟩ | ⟨hn,_,h⟩
   ·exact h
   ·have hl : bD r.o.op = true:=by simpa [eff,hn] using he
    cases ho : r.o.op with
    | load t x =>
      rw [ho] at h
      have:=h (fun A H'=>A = r.A /\ H' = r.H') (fun _=>False) ⟨rfl,rfl⟩
      simp only [gU] at this
      obtain ⟨A,h1,_⟩:=aW _ _ _ this
      obtain ⟨R,h2,_⟩:=je _ _ _ _ _ h1
      exact h2.2.symm
    | _=>simp [ho,bD] at hl
   ·have hl : bD r.o.op = true:=by simpa [eff,hn] using he
    cases ho : r.o.op with
    | load t x =>
      rw [ho] at h
      have:=h (fun _ _=>False) (fun H'=>H' = r.H') rfl
      simp only [gU] at this
      obtain ⟨A,h1,_⟩:=aW _ _ _ this
      obtain ⟨R,h2,_⟩:=je _ _ _ _ _ h1
      exact h2.elim
    | _=>simp [ho,bD] at hl

end

section
variable {F : FT} {L : Lay} {ops : List Oper} {rs : List Rec}

def U0 : HO -> Bool
 | .box _=>true
 | .arr ..=>true
 | _=>false

def Keep (H H' : Heap) : Prop:=∀ y ∈ H,U0 y.2 = true -> y ∈ H'

theorem Keep.refl (H : Heap) : Keep H H:=fun _ h _=>h
theorem Keep.cons (x : Nat × HO) (H : Heap) : Keep H (x :: H):=fun _ h _=>List.mem_cons_of_mem _ h

theorem Keep.set {o' : HO} {j : Nat} {o : HO} (hb : U0 o = false) : ∀ {H : Heap},hget H j = some o -> Keep H (hset H j o')
 | [],h=>by simp [hget] at h
 | (i,p) :: H,h=>by
   simp only [hget] at h
   simp only [hset]
   intro y hy hby
   cases hbq : Nat.beq i j with
   | true =>
     rw [hbq] at h
     obtain rfl:=Option.some.inj h
     rcases List.mem_cons.1 hy with rfl | hy
     ·rw [hb] at hby; cases hby
     ·exact List.mem_cons_of_mem _ hy
   | false =>
     rw [hbq] at h
     rcases List.mem_cons.1 hy with rfl | hy
     ·exact List.mem_cons_self
     ·exact List.mem_cons_of_mem _ (Keep.set hb h y hy hby)

theorem Gy {sz bytes : Nat} {l m : List AV} {H X : Heap} (h : AA sz bytes l m H fun _ H'=>H' = X) : Keep H X:=by
 cases h with
 | tok _ _ next=>rw [<- dP.1 next]; exact .cons _ _
 | pure _ _ next=>rw [<- next]; exact .refl _

theorem Am {t : Nat} {A B : AV} {H X : Heap} (h : jr L t A B H fun _ H'=>H' = X) : Keep H X:=by
 unfold jr at h
 obtain ⟨i,h,_⟩:=aK _ _ _ h
 split at h
 ·obtain ⟨ei,h,_⟩:=aK _ _ _ h
  split at h
  ·obtain ⟨m,h,_⟩:=jX _ _ _ _ h
   exact Gy h
  ·obtain ⟨_,h⟩:=bn.1 h
   obtain ⟨m,h,_⟩:=jX _ _ _ _ h
   exact Gy h
  ·obtain ⟨_,h⟩:=bn.1 h
   obtain ⟨m,h,_⟩:=jX _ _ _ _ h
   obtain ⟨o,h1,h⟩:=cZ.1 h
   split at h
   ·obtain ⟨_,_,h⟩:=bn.1 h
    have h:=(gy.1 h.next).2
    rw [<- h]
    exact Keep.set rfl h1
   ·exact h.elim
  ·exact h.elim
 ·exact h.elim

theorem Iz {ts : List Nat} {As : List AV} {H X : Heap} (h : fA L .append ts As H fun _ H'=>H' = X) : Keep H X:=by
 unfold fA at h
 split at h
 all_goals first | (rename_i h0; cases h0; done) | skip
 all_goals first | exact h.elim | skip
 all_goals
  obtain ⟨i,h,_⟩:=aK _ _ _ h
  split at h
  ·exact Am h
  ·exact Am h
  ·exact h.elim

theorem Keep.Yf {x : Nat × HO} (hb : U0 x.2 = false) (H : Heap) : Keep (x :: H) H:=fun y h hy=>by
 rcases List.mem_cons.1 h with rfl | h
 ·rw [hb] at hy; cases hy
 ·exact h

theorem Keep.unset {o' : HO} {j : Nat} (hb : U0 o' = false) : ∀ {H : Heap},Keep (hset H j o') H
 | []=>.refl _
 | (i,p) :: H=>by
   simp only [hset]
   intro y hy hby
   cases hbq : Nat.beq i j with
   | true =>
     rw [hbq] at hy
     rcases List.mem_cons.1 hy with rfl | hy
     ·rw [hb] at hby; cases hby
     ·exact List.mem_cons_of_mem _ hy
   | false =>
     rw [hbq] at hy
     rcases List.mem_cons.1 hy with rfl | hy
     ·exact List.mem_cons_self
     ·exact List.mem_cons_of_mem _ (Keep.unset hb y hy hby)

theorem Gz {sz bytes : Nat} {l m : List AV} {H X : Heap} (h : AA sz bytes l m H fun _ H'=>H' = X) : Keep X H:=by
 cases h with
 | tok _ _ next=>rw [<- dP.1 next]; exact .Yf rfl _
 | pure _ _ next=>rw [<- next]; exact .refl _

theorem Ap {t : Nat} {A B : AV} {H X : Heap} (h : jr L t A B H fun _ H'=>H' = X) : Keep X H:=by
 unfold jr at h
 obtain ⟨i,h,_⟩:=aK _ _ _ h
 split at h
 ·obtain ⟨ei,h,_⟩:=aK _ _ _ h
  split at h
  ·obtain ⟨m,h,_⟩:=jX _ _ _ _ h
   exact Gz h
  ·obtain ⟨_,h⟩:=bn.1 h
   obtain ⟨m,h,_⟩:=jX _ _ _ _ h
   exact Gz h
  ·obtain ⟨_,h⟩:=bn.1 h
   obtain ⟨m,h,_⟩:=jX _ _ _ _ h
   obtain ⟨o,h1,h⟩:=cZ.1 h
   split at h
   ·obtain ⟨_,_,h⟩:=bn.1 h
    have h:=(gy.1 h.next).2
    rw [<- h]
    exact Keep.unset rfl
   ·exact h.elim
  ·exact h.elim
 ·exact h.elim

theorem IB {ts : List Nat} {As : List AV} {H X : Heap} (h : fA L .append ts As H fun _ H'=>H' = X) : Keep X H:=by
 unfold fA at h
 split at h
 all_goals first | (rename_i h0; cases h0; done) | skip
 all_goals first | exact h.elim | skip
 all_goals
  obtain ⟨i,h,_⟩:=aK _ _ _ h
  split at h
  ·exact Ap h
  ·exact Ap h
  ·exact h.elim

theorem Lh {e : Env} {H : Heap} {ef : Env} {Hf : Heap} (hr : mX F L ops rs e H ef Hf) {j : Nat} {r : Rec} (hj : rs[j]? = some r) (ha : Bc r.o.op = true) : Keep r.H' r.H:=by
 have hr':=fE hr (cO.refl e) hj
 cases qj : r.ran with
 | false=>rw [(hr'.2.2.2.2 qj).2]; exact .refl _
 | true =>
   cases ho : r.o.op with
   | call c =>
     have hc : c.callee = .builtin .append:=by
      rw [ho] at ha
      simp only [Bc] at ha
      split at ha
      ·assumption
      ·cases ha
     rcases hr'.2.2.2.1 qj with ⟨_,h,_⟩ | ⟨hn,h⟩ | ⟨hn,_,h⟩
     ·rw [h]; exact .refl _
     ·rw [ho] at h
      have:=h (fun _ H'=>H' = r.H') (fun _=>False) rfl
      simp only [gU,hc] at this
      obtain ⟨As,h1,_⟩:=jm _ _ _ this
      exact IB h1
     ·rw [ho] at h
      have:=h (fun _ _=>False) (fun H'=>H' = r.H') rfl
      simp only [gU,hc] at this
      obtain ⟨As,h1,_⟩:=jm _ _ _ this
      obtain ⟨_,_,h2,_⟩:=lY _ _ _ _ _ _ h1
      exact h2.elim
   | _=>simp [ho,Bc] at ha

theorem NQ {e : Env} {H : Heap} {ef : Env} {Hf : Heap} (hr : mX F L ops rs e H ef Hf) {j : Nat} {r : Rec} (hj : rs[j]? = some r) (ha : wM r.o.op = true) : Keep r.H r.H':=by
 have hr':=fE hr (cO.refl e) hj
 cases qj : r.ran with
 | false=>rw [(hr'.2.2.2.2 qj).2]; exact .refl _
 | true =>
   cases ho : r.o.op with
   | alloc t =>
     rcases hr'.2.2.2.1 qj with ⟨_,h,_⟩ | ⟨hn,h⟩ | ⟨hn,_,h⟩
     ·rw [h]; exact .refl _
     ·rw [ho] at h
      have:=h (fun A H'=>A = r.A /\ H' = r.H') (fun _=>False) ⟨rfl,rfl⟩
      simp only [gU] at this
      obtain ⟨i,h1,_⟩:=aK _ _ _ this
      rw [<- (dP.1 h1).2]; exact .cons _ _
     ·rw [ho] at h
      have:=h (fun _ _=>False) (fun H'=>H' = r.H') rfl
      simp only [gU] at this
      obtain ⟨i,h1,_⟩:=aK _ _ _ this
      exact (dP.1 h1).elim
   | call c =>
     have hc : c.callee = .builtin .append:=by
      rw [ho] at ha
      simp only [wM] at ha
      split at ha
      ·assumption
      ·cases ha
     rcases hr'.2.2.2.1 qj with ⟨_,h,_⟩ | ⟨hn,h⟩ | ⟨hn,_,h⟩
     ·rw [h]; exact .refl _
     ·rw [ho] at h
      have:=h (fun _ H'=>H' = r.H') (fun _=>False) rfl
      simp only [gU,hc] at this
      obtain ⟨As,h1,_⟩:=jm _ _ _ this
      exact Iz h1
     ·rw [ho] at h
      have:=h (fun _ _=>False) (fun H'=>H' = r.H') rfl
      simp only [gU,hc] at this
      obtain ⟨As,h1,_⟩:=jm _ _ _ this
      obtain ⟨_,_,h2,_⟩:=lY _ _ _ _ _ _ h1
      exact h2.elim
   | makeMap t z =>
     rcases hr'.2.2.2.1 qj with ⟨_,h,_⟩ | ⟨hn,h⟩ | ⟨hn,_,h⟩
     ·rw [h]; exact .refl _
     ·rw [ho] at h
      have:=h (fun A H'=>A = r.A /\ H' = r.H') (fun _=>False) ⟨rfl,rfl⟩
      simp only [gU] at this
      split at this
      ·obtain ⟨i,h1,_⟩:=aK _ _ _ this
       split at h1
       ·rw [<- (dP.1 h1).2]; exact .cons _ _
       ·exact h1.elim
      ·exact this.elim
     ·rw [ho] at h
      have:=h (fun _ _=>False) (fun H'=>H' = r.H') rfl
      simp only [gU] at this
      split at this
      ·obtain ⟨i,h1,_⟩:=aK _ _ _ this
       split at h1
       ·exact (dP.1 h1).elim
       ·exact h1.elim
      ·exact this.elim
   | _=>simp [ho,wM] at ha

theorem IZ {e : Env} {H : Heap} {ef : Env} {Hf : Heap} (hr : mX F L ops rs e H ef Hf) {p : Nat} : ∀ (q : Nat),p <= q -> q <= rs.length ->
  (∀ j r,p <= j -> j < q -> rs[j]? = some r -> Keep r.H' r.H) -> Keep (Hs rs H q) (Hs rs H p)
 | 0,hpq,_,_,y,hy,_=>by obtain rfl : p = 0:=by omega
                        exact hy
 | q + 1,hpq,hq,h,y,hy,hb=>by
   by_cases hp : p = q + 1
   ·rw [hp]; exact hy
   ·have hlt : q < rs.length:=by omega
    have hr':=fE hr (cO.refl e) (List.getElem?_eq_getElem hlt)
    rw [rH (List.getElem?_eq_getElem hlt)] at hy
    have:=h q _ (by omega) (by omega) (List.getElem?_eq_getElem hlt) y hy hb
    rw [hr'.1] at this
    exact IZ hr q (by omega) (by omega) (fun j r h1 h2 h3=>h j r h1 (by omega) h3) y this hb

theorem NP {t : Nat} {A : AV} {H H' : Heap} {k : AV -> Prop} (hs : Keep H H') (hi : ak H') (h : jf L t A H k) : jf L t A H' k:=by
 unfold jf at h ⊢
 split at h
 ·exact h
 ·obtain ⟨o,h1,h2⟩:=cZ.1 h
  have hb : U0 o = true:=by
   cases o with
   | box _=>rfl
   | arr _ _ _=>rfl
   | _=>exact h2.elim
  exact cZ.2 ⟨o,lW hi (hs _ (gW h1) hb),h2⟩
 ·exact h.elim

end

def cnt (listed : Array Bool) : Nat:=listed.toList.countP fun b=>!b

theorem vG : ∀ {l : List Bool} {i : Nat},l[i]? = some false -> (l.set i true).countP (fun b=>!b) < l.countP (fun b=>!b)
 | [],_,h=>by simp at h
 | x :: l,0,h=>by simp at h; subst h; simp
 | x :: l,i + 1,h=>by
   have:=vG (l:=l) (i:=i) (by simpa using h)
   simp only [List.set_cons_succ,List.countP_cons]
   omega

theorem Iu {listed : Array Bool} {i : Nat} (hi : i < listed.size) (h : ¬ aF listed i) : cnt (listed.setIfInBounds i true) < cnt listed:=by
 unfold cnt
 rw [Array.toList_setIfInBounds]
 refine vG ?_
 unfold aF at h
 rw [Array.getD_eq_getD_getElem?] at h
 rw [Array.getElem?_toList,Array.getElem?_eq_getElem hi]
 rw [Array.getElem?_eq_getElem hi] at h
 simpa using h

theorem KE {listed : Array Bool} (h : cnt listed = 0) {i : Nat} (hi : i < listed.size) : aF listed i:=by
 apply Classical.byContradiction
 intro hn
 have:=Iu hi hn
 omega

theorem qc {ops : Array Oper} {listed : Array Bool} (hs : listed.size = ops.size) {i : Nat} :
  i ∈ Region.ready .any ops listed ↔ ∃ o,ops[i]? = some o /\ ¬ aF listed i /\ ∀ e ∈ o.after.toList,Region.binds .any e = true -> aF listed e.on:=by
 unfold Region.ready
 rw [List.mem_filter,List.mem_range]
 constructor
 ·rintro ⟨h1,h2⟩
  simp only [Bool.and_eq_true] at h2
  have hx:=Array.getElem?_eq_getElem h1
  refine ⟨ops[i],hx,?_,?_⟩
  ·unfold aF
   rw [Array.getD_eq_getD_getElem?]
   have hi : i < listed.size:=by omega
   have:=h2.1
   rw [Array.getD_eq_getD_getElem?,Array.getElem?_eq_getElem hi] at this
   rw [Array.getElem?_eq_getElem hi]
   simpa using this
  ·intro e he hb
   have:=h2.2
   rw [hx] at this
   simp only [Option.map_some,Option.getD_some] at this
   rw [<- Array.all_toList,List.all_eq_true] at this
   have:=this e he
   rw [hb] at this
   simpa [aF] using this
 ·rintro ⟨o,h1,h2,h3⟩
  have hi : i < ops.size:=(Array.getElem?_eq_some_iff.1 h1).1
  refine ⟨hi,?_⟩
  simp only [Bool.and_eq_true]
  refine ⟨?_,?_⟩
  ·unfold aF at h2
   have hi : i < listed.size:=by omega
   rw [Array.getD_eq_getD_getElem?,Array.getElem?_eq_getElem hi] at h2
   rw [Array.getD_eq_getD_getElem?,Array.getElem?_eq_getElem hi]
   simpa using h2
  ·rw [h1]
   simp only [Option.map_some,Option.getD_some]
   rw [<- Array.all_toList,List.all_eq_true]
   intro e he
   cases hb : Region.binds .any e with
   | false=>rfl
   | true=>simpa [aF] using h3 e he hb

theorem ready_nil {ops : Array Oper} {listed : Array Bool} (hs : listed.size = ops.size) (hback : ∀ (j : Nat) (o : Oper),ops.toList[j]? = some o -> ∀ e ∈ o.after.toList,Region.binds .any e = true -> e.on < j)
  (h : Region.ready .any ops listed = []) : ∀ j,j < ops.size -> aF listed j:=by
 intro j
 induction j using Nat.strongRecOn with
 | _ j ih =>
   intro hj
   apply Classical.byContradiction
   intro hn
   have hx:=Array.getElem?_eq_getElem hj
   have : j ∈ Region.ready .any ops listed:=(qc hs).2 ⟨_,hx,hn,fun e he hb=>by
    have hlt:=hback j _ (by rw [Array.getElem?_toList]; exact hx) e he hb
    exact ih e.on hlt (by omega)⟩
   rw [h] at this
   simp at this

section
variable {X : Nat -> Nat -> Prop} {P : Program} {F : FT} {L : Lay} {ops : Array Oper} {rs : List Rec} {c0 : Cx} {H0 : Heap} {e : Env} {a0 a : Act} {n m : Nat} {listed : Array Bool} {c : Cx} {ef : Env} {Hf : Heap} {pd : Nat -> Nat}

theorem qE.notYet (hd : iH X ops.toList rs) (I : qE ops.toList rs c0 H0 e a0 n listed m a c pd) (yO : Vz rs listed m) {i j : Nat} {r rj : Rec} (hi : rs[i]? = some r)
  (hbef : ∀ e ∈ r.o.after.toList,Region.binds .any e = true -> aF listed e.on) {t : Nat} (ht : t ∈ cu ops.toList r.o) (hji : j < i) (hj : rs[j]? = some rj) (hdj : rj.o.dst = some t) (hl : aF listed j) (he : eff rj = true) : j < m:=by
 apply Classical.byContradiction
 intro hm
 obtain ⟨x,rx,h1,h2,h3,h4,h5⟩:=yO j rj (by omega) hj he hl
 have hp:=(I.above j rj (by omega) hj he hl).ZB
 simp only [eff,Bool.and_eq_true,Bool.not_eq_true'] at h4 he
 rcases hd.late x j i rx rj r t h2 hji h3 hj hi h4.1 h4.2 he.1 hp hdj ht with hb | hb
 ·exact h5 (IC I.closed j rj.o (hd.get j rj hj) (I.closed j rj.o hl (hd.get j rj hj)) hb)
 ·exact h5 (IC I.closed i r.o (hd.get i r hi) hbef hb)

theorem qE.slot (hd : iH X ops.toList rs) (I : qE ops.toList rs c0 H0 e a0 n listed m a c pd) (yO : Vz rs listed m) {i : Nat} {r : Rec} (hi : rs[i]? = some r) (hn : ¬ aF listed i)
  (hbef : ∀ e ∈ r.o.after.toList,Region.binds .any e = true -> aF listed e.on) {t : Nat} {A : AV} (ht : t ∈ cu ops.toList r.o) (hA : dL (E0 rs e i) t = some A) : EV c A (a.tmps.getD t undef):=by
 have hlt : i < rs.length:=(List.getElem?_eq_some_iff.1 hi).1
 have OG : ∀ (j : Nat) (rj : Rec),aF listed j -> rs[j]? = some rj -> rj.o.dst = some t -> j < i:=by
  intro j rj hl hj hdj
  rcases Nat.lt_trichotomy j i with h | h | h
  ·exact h
  ·subst h; exact absurd hl hn
  ·exact absurd (jT hd I.closed h hi hj (uP hdj ht).2 (hd.nx2 hi hj hdj ht) hl) hn
 rcases Oe (by omega) hA with ⟨j,rj,h1,h2,h3,rfl,h5⟩ | ⟨h1,h2⟩
 ·have hl:=jM hd I.closed h1 h2 hi (uP h3 ht).1 (hd.nx1 h2 hi h3 ht) hbef
  exact I.new t j rj hl h2 h3 (fun i' VI hl hi' hd'=>h5 i' VI (OG i' VI hl hi' hd') hi' hd') fun he=>I.notYet hd yO hi hbef ht h1 h2 h3 hl he
 ·exact I.old t A (fun j rj hl hj hdj=>h1 j rj (OG j rj hl hj hdj) hj hdj) h2

theorem qE.ahead (hd : iH X ops.toList rs) (I : qE ops.toList rs c0 H0 e a0 n listed m a c pd) (yO : Vz rs listed m) {i : Nat} {r : Rec} (hi : rs[i]? = some r)
  (hbef : ∀ e ∈ r.o.after.toList,Region.binds .any e = true -> aF listed e.on) (hnb : r.nb = false) (hnew : jJ r.o.op = false) {j : Nat} {rj : Rec} (h1 : m <= j) (h2 : j < i) (hj : rs[j]? = some rj) : eff rj = false \/ (bD r.o.op = true /\ Bc rj.o.op = true) \/ (bD r.o.op = true /\ X j i):=by
 cases he : eff rj with
 | false=>exact .inl rfl
 | true =>
   have hnj : rj.nb = false:=by simp [eff] at he; exact he.1
   by_cases hXj : X j i
   ·exact .inr (.inr ⟨(hd.nxl hj hi he hXj).1,hXj⟩)
   cases hx : bD r.o.op && Bc rj.o.op && (ops.toList.all fun o=>!jJ o.op) with
   | true=>simp only [Bool.and_eq_true] at hx; exact .inr (.inl hx.1)
   | false =>
     have hcl : ∀ (x : Rec),(bD r.o.op && Bc x.o.op && (ops.toList.all fun o=>!jJ o.op)) = false -> bD r.o.op = false \/ Bc x.o.op = false \/ (ops.toList.all fun o=>!jJ o.op) = false:=by
      intro x hx
      cases h1 : bD r.o.op with
      | false=>exact .inl rfl
      | true =>
        cases h2 : Bc x.o.op with
        | false=>exact .inr (.inl rfl)
        | true=>rw [h1,h2] at hx; exact .inr (.inr (by simpa using hx))
     have hlj:=jM hd I.closed h2 hj hi ((nK he hnb).1 hnew (hcl rj hx)) hXj hbef
     obtain ⟨x,rx,g1,g2,g3,g4,g5⟩:=yO j rj h1 hj he hlj
     have XG : (ops.toList.all fun o=>!jJ o.op) = true -> False:=fun hy=>by
      have hnw : jJ rj.o.op = false:=by
       have:=List.all_eq_true.1 hy rj.o (List.mem_of_getElem? (hd.get j rj hj))
       simpa using this
      have hlb : bD rj.o.op = false:=by simp [eff] at he; exact he.2
      exact absurd (jT hd I.closed g2 g3 hj ((nK g4 hnj).1 hnw (.inl hlb)) (hd.nxe g3 hj g4 he) hlj) g5
     by_cases hXx : X x i
     ·exact (XG (hd.nxl g3 hi g4 hXx).2).elim
     cases hy : bD r.o.op && Bc rx.o.op && (ops.toList.all fun o=>!jJ o.op) with
     | false=>exact absurd (jM hd I.closed (by omega) g3 hi ((nK g4 hnb).1 hnew (hcl rx hy)) hXx hbef) g5
     | true =>
       simp only [Bool.and_eq_true] at hy
       exact (XG hy.2).elim

theorem qE.heap (hd : iH X ops.toList rs) (hrun : mX F L ops.toList rs e H0 ef Hf) (I : qE ops.toList rs c0 H0 e a0 n listed m a c pd) (yO : Vz rs listed m) {i : Nat} {r : Rec} (hi : rs[i]? = some r) (hn : ¬ aF listed i)
  (hbef : ∀ e ∈ r.o.after.toList,Region.binds .any e = true -> aF listed e.on) (hef : eff r = true) (hnew : jJ r.o.op = false) : Hs rs H0 m = r.H:=by
 have hnb : r.nb = false:=by simp [eff] at hef; exact hef.1
 have hlt : i < rs.length:=(List.getElem?_eq_some_iff.1 hi).1
 have hmi : m <= i:=by
  apply Classical.byContradiction
  intro h
  exact hn (I.below i r (by omega) hi hef)
 rw [(fE hrun (cO.refl e) hi).1]
 exact BM hrun i hmi (by omega) fun j rj h1 h2 hj=>jK hrun hj ((I.ahead hd yO hi hbef hnb hnew h1 h2 hj).resolve_right fun h=>by rcases h with h | h <;> simp [eff,h.1] at hef)

def eH (F : FT) (L : Lay) (r : Rec) (H : Heap) : Prop:=gU F Ok L r.o.op r.e H (fun A H'=>A = r.A /\ H' = H) fun _=>False

theorem eH.keep {r : Rec} {H H' : Heap} (hl : bD r.o.op = true) (hs : Keep H H') (hi : ak H') (h : eH F L r H) : eH F L r H':=by
 unfold eH at h ⊢
 cases ho : r.o.op with
 | load t x =>
   rw [ho] at h
   simp only [gU] at h ⊢
   obtain ⟨A,h5,h6⟩:=aW _ _ _ h
   refine h6 _ (NP hs hi ?_)
   obtain ⟨R,h7,h8⟩:=je _ _ _ _ _ h5
   exact h8 _ ⟨h7.1,trivial⟩
 | _=>simp [ho,bD] at hl

theorem exists_least {p : Nat -> Prop} (h : ∃ n,p n) : ∃ n,p n /\ ∀ k,k < n -> ¬ p k:=by
 apply Classical.byContradiction
 intro hn
 have : ∀ n,¬ p n:=by
  intro n
  induction n using Nat.strongRecOn with
  | _ n ih=>exact fun hp=>hn ⟨n,hp,ih⟩
 exact h.elim this

theorem qE.ZX (hd : iH X ops.toList rs) (hX : ∀ (i j : Nat) (ri rj : Rec),X i j -> rs[i]? = some ri -> rs[j]? = some rj -> ri.ran = true -> rj.ran = true -> (bD ri.o.op = true -> eH F L ri rj.H') /\ (eff ri = true -> eH F L rj ri.H)) (hrun : mX F L ops.toList rs e H0 ef Hf)
  (I : qE ops.toList rs c0 H0 e a0 n listed m a c pd) (yO : Vz rs listed m) {i : Nat} {r : Rec} (hi : rs[i]? = some r) (hn : ¬ aF listed i)
  (hbef : ∀ e ∈ r.o.after.toList,Region.binds .any e = true -> aF listed e.on) (hnb : r.nb = false) (hld : bD r.o.op = true) (qj : r.ran = true) (h0 : eH F L r r.H) : eH F L r (Hs rs H0 m):=by
 have hlt : i < rs.length:=(List.getElem?_eq_some_iff.1 hi).1
 have hnew : jJ r.o.op = false:=by cases ho : r.o.op <;> simp [ho,bD] at hld <;> rfl
 rw [(fE hrun (cO.refl e) hi).1] at h0
 rcases Nat.le_total m i with h | h
 ·by_cases hex : ∃ q,m <= q /\ q < i /\ X q i /\ ∃ rq,rs[q]? = some rq /\ eff rq = true /\ rq.ran = true
  ·obtain ⟨q,⟨q1,q2,q3,rq,q4,q5,q6⟩,qmin⟩:=exists_least hex
   have h1:=(hX q i rq r q3 q4 hi q6 qj).2 q5
   rw [(fE hrun (cO.refl e) q4).1] at h1
   refine eH.keep hld ?_ I.tr.hr.ids h1
   refine IZ hrun q q1 (by omega) fun j rj h1 h2 hj=>?_
   rcases I.ahead hd yO hi hbef hnb hnew h1 (by omega) hj with he | he | he
   ·rw [jK hrun hj he]; exact .refl _
   ·exact Lh hrun hj he.2
   ·cases hef : eff rj with
    | false=>rw [jK hrun hj hef]; exact .refl _
    | true =>
      cases zl : rj.ran with
      | false=>rw [((fE hrun (cO.refl e) hj).2.2.2.2 zl).2]; exact .refl _
      | true=>exact absurd ⟨h1,by omega,he.2,rj,hj,hef,zl⟩ (qmin j h2)
  ·refine eH.keep hld ?_ I.tr.hr.ids h0
   refine IZ hrun i h (by omega) fun j rj h1 h2 hj=>?_
   rcases I.ahead hd yO hi hbef hnb hnew h1 h2 hj with he | he | he
   ·rw [jK hrun hj he]; exact .refl _
   ·exact Lh hrun hj he.2
   ·cases hef : eff rj with
    | false=>rw [jK hrun hj hef]; exact .refl _
    | true =>
      cases zl : rj.ran with
      | false=>rw [((fE hrun (cO.refl e) hj).2.2.2.2 zl).2]; exact .refl _
      | true=>exact absurd ⟨j,h1,h2,he.2,rj,hj,hef,zl⟩ hex
 ·have key : ∀ q,i <= q -> q <= m -> ∃ G,eH F L r G /\ Keep G (Hs rs H0 q):=by
   intro q
   induction q with
   | zero=>intro h1 _; obtain rfl : i = 0:=by omega
           exact ⟨_,h0,.refl _⟩
   | succ q ih =>
     intro h1 h2
     rcases Nat.lt_or_ge q i with h3 | h3
     ·obtain rfl : i = q + 1:=by omega
      exact ⟨_,h0,.refl _⟩
     ·obtain ⟨G,g1,g2⟩:=ih h3 (by omega)
      have hq : q < rs.length:=by have:=I.mle; omega
      have hj:=List.getElem?_eq_getElem hq
      generalize rs[q] = rj at hj
      have hH:=(fE hrun (cO.refl e) hj).1
      rw [rH hj]
      rw [<- hH] at g2
      cases he : eff rj with
      | false=>rw [jK hrun hj he]; exact ⟨G,g1,g2⟩
      | true =>
        cases hal : wM rj.o.op with
        | true=>exact ⟨G,g1,fun y hy hb=>NQ hrun hj hal y (g2 y hy hb) hb⟩
        | false =>
          have hl:=I.below q rj (by omega) hj he
          have hnj : jJ rj.o.op = false:=by cases ho : rj.o.op <;> simp [ho,wM] at hal <;> rfl
          rcases Nat.lt_or_eq_of_le h3 with h4 | h4
          ·by_cases hx : X i q
           ·cases zl : rj.ran with
            | true=>exact ⟨_,(hX i q r rj hx hi hj qj zl).1 hld,.refl _⟩
            | false=>rw [((fE hrun (cO.refl e) hj).2.2.2.2 zl).2]; exact ⟨G,g1,g2⟩
           ·exact absurd (jT hd I.closed h4 hi hj ((nK he hnb).2 hnj (.inr hal)) hx hl) hn
          ·subst h4; exact absurd hl hn
  obtain ⟨G,g1,g2⟩:=key m h (Nat.le_refl _)
  exact g1.keep hld g2 I.tr.hr.ids

theorem qE.step (hd : iH X ops.toList rs) (I : qE ops.toList rs c0 H0 e a0 n listed m a c pd) (yO : Vz rs listed m) {i : Nat} {r : Rec} (hi : rs[i]? = some r) (hn : ¬ aF listed i)
  (hbef : ∀ e ∈ r.o.after.toList,Region.binds .any e = true -> aF listed e.on) (hdst : ∀ d,r.o.dst = some d -> d < n) {v : Value} {c' : Cx} {H' : Heap} {m' : Nat}
  (htr : Tr c (Hs rs H0 m) c' H') (hH : H' = Hs rs H0 m')
  (hm : (eff r = false /\ m' = m /\ ∀ t,r.o.dst = some t -> EV c' r.A v) \/ (eff r = true /\ jJ r.o.op = false /\ m' = i + 1 /\ ∀ t,r.o.dst = some t -> EV c' r.A v) \/
   (eff r = true /\ m' = m /\ ∃ (b : Nat) (d : Nat),r.o.dst = some d /\ jJ r.o.op = true /\ c.w.heap.size <= b /\ Free c' H' b /\
    ∃ o z f,c'.w.heap[b]? = some o /\ Zh b o v z f /\ r.H' = (nextId r.H,z) :: r.H /\ r.A = f (nextId r.H))) :
  ∃ pd',qE ops.toList rs c0 H0 e a0 n (listed.setIfInBounds i true) m' (a.put r.o.dst v) c' pd':=by
 have hlt : i < rs.length:=(List.getElem?_eq_some_iff.1 hi).1
 have hsz : i < listed.size:=by rw [I.size,<- hd.len]; exact hlt
 have hls : ∀ j,aF (listed.setIfInBounds i true) j ↔ j = i \/ aF listed j:=fun j=>CX hsz
 have hmi : eff r = true -> m <= i:=by
  intro hef
  apply Classical.byContradiction
  intro h
  exact hn (I.below i r (by omega) hi hef)
 have hmm : m <= m':=by
  rcases hm with ⟨_,h,_⟩ | ⟨h1,_,h,_⟩ | ⟨_,h,_⟩
  ·omega
  ·have:=hmi h1; omega
  ·omega
 -- the slot of what is ahead of its time stays
 have hkeep : ∀ (j : Nat) (rj : Rec) (d : Nat),m <= j -> rs[j]? = some rj -> eff rj = true -> aF listed j -> rj.o.dst = some d -> r.o.dst ≠ some d:=by
  intro j rj d h1 hj he hl hdj hdi
  rcases Nat.lt_trichotomy j i with h | h | h
  ·have:=I.notYet hd yO hi hbef (t:=d) (by simp [cu,hdi]) h hj hdj hl he
   omega
  ·subst h; exact hn hl
  ·exact hn (jT hd I.closed h hi hj (uP hdi (by simp [cu,hdj])).1 (hd.nx1 hi hj hdi (by simp [cu,hdj])) hl)
 have hput : ∀ d,r.o.dst ≠ some d -> (a.put r.o.dst v).tmps.getD d undef = a.tmps.getD d undef:=by
  intro d h1
  cases hdd : r.o.dst with
  | none=>rfl
  | some d' =>
    simp only [Act.put]
    rw [getD_set_ne (fun h=>h1 (by rw [hdd,h]))]
 have XK : ∀ d,r.o.dst = some d -> (a.put r.o.dst v).tmps.getD d undef = v:=by
  intro d hdd
  rw [hdd]
  simp only [Act.put]
  rw [Ag (by rw [I.Oi]; exact hdst d hdd)]
 have ZN : ∀ (j : Nat) (rj : Rec),m <= j -> rs[j]? = some rj -> eff rj = true -> aF listed j -> Pend c0 (a.put r.o.dst v) c' H' rj (pd j):=by
  intro j rj h1 hj he hl
  obtain ⟨g1,g2,g3,⟨ob,u,z,f,g4,g5,g6,g8,g7⟩⟩:=I.above j rj h1 hj he hl
  obtain ⟨f1,f2⟩:=g2.tr htr
  exact ⟨g1,f1,g3,⟨ob,u,z,f,by rw [f2]; exact g4,g5,g6,g8,fun d hdj=>by rw [hput d (hkeep j rj d h1 hj he hl hdj)]; exact g7 d hdj⟩⟩
 let pd' : Nat -> Nat:=fun j=>if j = i then (match v with | .pointer (some ad)=>ad.block | .map (some b)=>b | _=>0) else pd j
 have TS : ∀ j,j ≠ i -> pd' j = pd j:=fun j hj=>if_neg hj
 refine ⟨pd',by simpa using I.size,?_,?_,?_,?_,?_,?_,?_,?_,?_,?_,?_⟩
 ·intro j o hj ho e' he' hb
  rw [hls] at hj ⊢
  rcases hj with rfl | hj
  ·have:=hd.get j r hi
   rw [this] at ho
   obtain rfl:=Option.some.inj ho
   exact .inr (hbef e' he' hb)
  ·exact .inr (I.closed j o hj ho e' he' hb)
 ·rcases hm with ⟨_,h,_⟩ | ⟨_,_,h,_⟩ | ⟨_,h,_⟩
  ·rw [h]; exact I.mle
  ·omega
  ·rw [h]; exact I.mle
 ·intro j rj hj zl he
  rw [hls]
  rcases hm with ⟨_,h,_⟩ | ⟨hef,hnw,h,_⟩ | ⟨_,h,_⟩
  ·exact .inr (I.below j rj (by omega) zl he)
  ·by_cases hji : j = i
   ·exact .inl hji
   ·exact .inr (jM hd I.closed (by omega) zl hi ((nK he (by simp [eff] at hef; exact hef.1)).1 hnw (.inl (by simp [eff] at hef; exact hef.2))) (hd.nxe zl hi he hef) hbef)
  ·exact .inr (I.below j rj (by omega) zl he)
 ·intro j rj hj zl he hl
  rw [hls] at hl
  rw [<- hH]
  by_cases hji : j = i
  ·subst hji
   rw [hi] at zl
   obtain rfl:=Option.some.inj zl
   rcases hm with ⟨h,_⟩ | ⟨_,_,h,_⟩ | ⟨_,h,b,d,hdd,hnw,hb,hf,ob,z,f,q1,q2,q3,q4⟩
   ·rw [he] at h; cases h
   ·omega
   ·have hpb : pd' j = b:=by cases q2 <;> simp [pd']
    rw [hpb]
    exact ⟨hnw,hf,by have:=I.tr.size; omega,⟨ob,v,z,f,q1,q2,q3,q4,fun d' hd'=>XK d' hd'⟩⟩
  ·rw [TS j hji]
   exact ZN j rj (by omega) zl he (hl.resolve_left hji)
 ·intro j k rj rk hj hk zl hrk hej hek hlj hlk hjk
  rw [hls] at hlj hlk
  have other : ∀ (x : Nat) (rx : Rec),m' <= i -> i = i -> x ≠ i -> m' <= x -> rs[x]? = some rx -> eff rx = true -> aF listed x -> eff r = true -> pd x = pd' i -> False:=by
   intro x rx hmi' _ hxi hx hrx hex hlx her hpe
   rcases hm with ⟨h,_⟩ | ⟨_,_,h,_⟩ | ⟨_,h,b,d,hdd,hnw,hb,hf,ob,z,f,q1,q2,q3,q4⟩
   ·rw [her] at h; cases h
   ·omega
   ·have hpb : pd' i = b:=by cases q2 <;> simp [pd']
    have:=(I.above x rx (by omega) hrx hex hlx).free.lt
    omega
  by_cases hji : j = i
  ·by_cases hki : k = i
   ·omega
   ·subst hji
    rw [hi] at zl
    obtain rfl:=Option.some.inj zl
    rw [TS k hki] at hjk
    exact (other k rk hj rfl hki hk hrk hek (hlk.resolve_left hki) hej hjk.symm).elim
  ·by_cases hki : k = i
   ·subst hki
    rw [hi] at hrk
    obtain rfl:=Option.some.inj hrk
    rw [TS j hji] at hjk
    exact (other j rj hk rfl hji hj zl hej (hlj.resolve_left hji) hek hjk).elim
   ·rw [TS j hji,TS k hki] at hjk
    exact I.inj j k rj rk (by omega) (by omega) zl hrk hej hek (hlj.resolve_left hji) (hlk.resolve_left hki) hjk
 ·rw [<- hH]; exact I.tr.trans htr
 ·intro t A hno ht
  have h1 : r.o.dst ≠ some t:=hno i r ((hls i).2 (.inl rfl)) hi
  rw [hput t h1]
  exact iM htr.le (I.old t A (fun j rj hl hj=>hno j rj ((hls j).2 (.inr hl)) hj) ht)
 ·intro t j rj hl hj hdj hmax hact
  rw [hls] at hl
  by_cases hji : j = i
  ·subst hji
   rw [hi] at hj
   obtain rfl:=Option.some.inj hj
   rw [XK t hdj]
   rcases hm with ⟨_,_,h⟩ | ⟨_,_,_,h⟩ | ⟨hef,h,_⟩
   ·exact h t hdj
   ·exact h t hdj
   ·have:=hact hef
    have:=hmi hef
    omega
  ·have hl : aF listed j:=hl.resolve_left hji
   have Z4 : eff rj = true -> j < m:=by
    intro he
    have h1:=hact he
    apply Classical.byContradiction
    intro h2
    obtain ⟨x,rx,g1,g2,g3,g4,g5⟩:=yO j rj (by omega) hj he hl
    rcases hm with ⟨_,h,_⟩ | ⟨hef,hnw,h,_⟩ | ⟨_,h,_⟩
    ·omega
    ·exact g5 (jM hd I.closed (by omega) g3 hi ((nK g4 (by simp [eff] at hef; exact hef.1)).1 hnw (.inl (by simp [eff] at hef; exact hef.2))) (hd.nxe g3 hi g4 hef) hbef)
    ·omega
   have h1 : r.o.dst ≠ some t:=by
    intro h
    have hle:=hmax i r ((hls i).2 (.inl rfl)) hi h
    have hmem : t ∈ cu ops.toList rj.o:=by simp [cu,hdj]
    exact hn (jT hd I.closed (by omega) hi hj (uP h hmem).1 (hd.nx1 hi hj h hmem) hl)
   rw [hput t h1]
   exact iM htr.le (I.new t j rj hl hj hdj (fun i' VI hl'=>hmax i' VI ((hls i').2 (.inr hl'))) Z4)
 ·cases hdd : r.o.dst <;> simp only [Act.put] <;> exact I.defers
 ·cases hdd : r.o.dst <;> simp [Act.put,I.Oi]
 ·cases hdd : r.o.dst with
  | none=>exact I.fr
  | some d =>
    intro t ht
    simp only [Act.put]
    rw [getD_set_ne (fun h=>ht (by rw [<- h]; exact lM (List.mem_of_getElem? (hd.get i r hi)) hdd))]
    exact I.fr t ht

theorem QE : ∀ (j : Nat) (rj : Rec),m <= j -> rs[j]? = some rj -> eff rj = true -> aF listed j -> (∀ (x : Nat) (rx : Rec),m <= x -> x < j -> rs[x]? = some rx -> eff rx = true -> aF listed x) ->
  ∃ (j : Nat) (rj : Rec),m <= j /\ rs[j]? = some rj /\ eff rj = true /\ aF listed j /\ ∀ (x : Nat) (rx : Rec),m <= x -> x < j -> rs[x]? = some rx -> eff rx = false:=by
 intro j
 induction j using Nat.strongRecOn with
 | _ j ihj =>
   intro rj h1 hj he hl hno
   by_cases hx : ∃ (x : Nat) (rx : Rec),m <= x /\ x < j /\ rs[x]? = some rx /\ eff rx = true
   ·obtain ⟨x,rx,g1,g2,g3,g4⟩:=hx
    exact ihj x g2 rx g1 g3 g4 (hno x rx g1 g2 g3 g4) fun y ry f1 f2 f3 f4=>hno y ry f1 (by omega) f3 f4
   ·refine ⟨j,rj,h1,hj,he,hl,fun x rx g1 g2 g3=>?_⟩
    cases he' : eff rx with
    | false=>rfl
    | true=>exact absurd ⟨x,rx,g1,g2,g3,he'⟩ hx

theorem qE.settle (_ : iH X ops.toList rs) (hrun : mX F L ops.toList rs e H0 ef Hf) : ∀ (k m : Nat) (c : Cx),rs.length - m <= k -> qE ops.toList rs c0 H0 e a0 n listed m a c pd ->
  ∃ m' c',c'.w = c.w /\ qE ops.toList rs c0 H0 e a0 n listed m' a c' pd /\ Vz rs listed m':=by
 intro k
 induction k with
 | zero =>
   intro m c hk I
   refine ⟨m,c,rfl,I,fun j r hj hr=>?_⟩
   have:=(List.getElem?_eq_some_iff.1 hr).1
   omega
 | succ k ih =>
   intro m c hk I
   by_cases hA : Vz rs listed m
   ·exact ⟨m,c,rfl,I,hA⟩
   ·have hA:=hA
    unfold Vz at hA
    obtain ⟨j,hA⟩:=Classical.not_forall.1 hA
    obtain ⟨rj,hA⟩:=Classical.not_forall.1 hA
    simp only [not_imp] at hA
    obtain ⟨h1,hj,he,hl,hno⟩:=hA
    have hno : ∀ (x : Nat) (rx : Rec),m <= x -> x < j -> rs[x]? = some rx -> eff rx = true -> aF listed x:=by
     intro x rx g1 g2 g3 g4
     apply Classical.byContradiction
     intro g5
     exact hno ⟨x,rx,g1,g2,g3,g4,g5⟩
    obtain ⟨j,rj,h1,hj,he,hl,hno⟩:=QE j rj h1 hj he hl hno
    have hjl : j < rs.length:=(List.getElem?_eq_some_iff.1 hj).1
    obtain ⟨g1,g2,g3,⟨ob,u,z,f,g4,g5,g6,g7,g8⟩⟩:=I.above j rj h1 hj he hl
    have hHj : Hs rs H0 m = rj.H:=by
     rw [(fE hrun (cO.refl e) hj).1]
     exact BM hrun j h1 (by omega) fun x rx f1 f2 f3=>jK hrun f3 (hno x rx f1 f2 f3)
    obtain ⟨t1,t2,t3,t4⟩:=Tr.adopt I.tr g2 g3 g4 g5
    have hHn : Hs rs H0 (j + 1) = (nextId (Hs rs H0 m),z) :: Hs rs H0 m:=by
     rw [rH hj,g6,hHj]
    rw [<- hHn] at t1 t4
    have I' : qE ops.toList rs c0 H0 e a0 n listed (j + 1) a (c.adopt (Hs rs H0 m) (pd j) z) pd:=by
     refine ⟨I.size,I.closed,by omega,?_,?_,?_,t1,?_,?_,I.defers,I.Oi,I.fr⟩
     ·intro x rx hx hrx hex
      rcases Nat.lt_trichotomy x m with h | h | h
      ·exact I.below x rx h hrx hex
      ·by_cases hxj : x = j
       ·rw [hxj]; exact hl
       ·rw [hno x rx (by omega) (by omega) hrx] at hex; cases hex
      ·by_cases hxj : x = j
       ·rw [hxj]; exact hl
       ·rw [hno x rx (by omega) (by omega) hrx] at hex; cases hex
     ·intro x rx hx hrx hex hlx
      obtain ⟨p1,p2,p3,p4⟩:=I.above x rx (by omega) hrx hex hlx
      have hne : pd x ≠ pd j:=fun h=>by
       have:=I.inj x j rx rj (by omega) h1 hrx hj hex he hlx hl h
       omega
      exact ⟨p1,t4 _ hne p2,p3,p4⟩
     ·intro x y rx ry hx hy hrx hry hex hey hlx hly hxy
      exact I.inj x y rx ry (by omega) (by omega) hrx hry hex hey hlx hly hxy
     ·intro t A hno' ht
      exact iM t2 (I.old t A hno' ht)
     ·intro t x rx hlx hrx hdx hmax hact
      by_cases hxj : x = j
      ·subst hxj
       rw [hj] at hrx
       obtain rfl:=Option.some.inj hrx
       rw [g8 t hdx,g7,<- hHj]
       exact t3
      ·refine iM t2 (I.new t x rx hlx hrx hdx hmax fun hex=>?_)
       have:=hact hex
       apply Classical.byContradiction
       intro h
       rw [hno x rx (by omega) (by omega) hrx] at hex
       cases hex
    obtain ⟨m',c',hw,I'',yO⟩:=ih (j + 1) _ (by omega) I'
    exact ⟨m',c',hw,I'',yO⟩

theorem Ry (hL : bZ P L) {r : Rec} {t : Nat} (ho : r.o.op = .alloc t) (hnb : r.nb = false) (Di : Does F L r) :
  ∃ i,nH P t i /\ r.H' = (nextId r.H,.box i.zero) :: r.H /\ r.A = .ptr (nextId r.H) [] 0:=by
 rcases Di with ⟨h1,_⟩ | ⟨_,h⟩ | ⟨_,_,h⟩
 ·rw [hnb] at h1; cases h1
 ·rw [ho] at h
  have:=h (fun A H'=>A = r.A /\ H' = r.H') (fun _=>False) ⟨rfl,rfl⟩
  simp only [gU] at this
  obtain ⟨i,hT,h1⟩:=Lay.aT hL this
  have:=dP.1 h1
  exact ⟨i,hT,this.2.symm,this.1.symm⟩
 ·rw [ho] at h
  have:=h (fun _ _=>False) (fun H'=>H' = r.H') rfl
  simp only [gU] at this
  obtain ⟨i,hT,h1⟩:=Lay.aT hL this
  exact (dP.1 h1).elim

theorem Wp (hL : bZ P L) {r : Rec} {t : Nat} (ho : r.o.op = .makeMap t none) (hnb : r.nb = false) (Di : Does F L r) :
  ∃ sh,r.H' = (nextId r.H,.iK sh []) :: r.H /\ r.A = .mp (nextId r.H):=by
 have key : ∀ {k : AV -> Heap -> Prop} {ks : Heap -> Prop},gU F (fun _=>True) L r.o.op r.e r.H k ks -> ∃ sh,k (.mp (nextId r.H)) ((nextId r.H,.iK sh []) :: r.H):=by
  intro k ks h
  rw [ho] at h
  simp only [gU] at h
  obtain ⟨i,hT,h1⟩:=Lay.aT hL h
  split at h1
  ·exact ⟨_,dP.1 h1⟩
  ·exact h1.elim
 rcases Di with ⟨h1,_⟩ | ⟨_,h⟩ | ⟨_,_,h⟩
 ·rw [hnb] at h1; cases h1
 ·obtain ⟨sh,h1,h2⟩:=key (h (fun A H'=>A = r.A /\ H' = r.H') (fun _=>False) ⟨rfl,rfl⟩)
  exact ⟨sh,h2.symm,h1.symm⟩
 ·obtain ⟨sh,h1⟩:=key (h (fun _ _=>False) (fun H'=>H' = r.H') rfl)
  exact h1.elim

theorem run_map {t : Nat} {o : Oper} {ρ : Operand -> Value} {w : World} (ho : o.op = .makeMap t none) :
  (execOp ρ o).run P w = .ok (.value (.map (some w.heap.size))) (w.alloc (.map #[] 0)):=by
 unfold execOp; rw [ho]
 simp only [Instr.makeMap,Sem.run_bind,run_newObj,Result.andThen_ok,Sem.run_pure,Option.map_none,World.alloc_eq]

theorem Qd {t : Nat} {i : TI} {o : Oper} {ρ : Operand -> Value} {w : World} (hT : nH P t i) (ho : o.op = .alloc t) :
  ∃ v : Value,(execOp ρ o).run P w = .ok (.value (.pointer (some ⟨w.heap.size,0,none⟩))) (w.alloc (.cells v.cells t)) /\ ∀ c : Cx,VR c i.zero v.cells.toList:=by
 obtain ⟨v,h1,h2,h3⟩:=hT.sF w
 refine ⟨v,?_,fun c=>gX _ _ (h3 _ _)⟩
 unfold execOp; rw [ho]
 simp only [Instr.alloc,Sem.run_bind,h1,Result.andThen_ok,newVar,newRow,run_newObj,Sem.run_pure,World.alloc_eq]

theorem Tr.spare {c : Cx} {H : Heap} (hr : HR c H) (o : Obj) : Tr c H { c with w:=c.w.alloc o } H /\ Free { c with w:=c.w.alloc o } H c.w.heap.size:=by
 constructor
 ·refine Tr.keep hr ⟨fun b x h=>⟨h,gG (eF _ _ (hr.im b x h))⟩,Nat.le_refl _,fun _ _=>rfl,fun _ _ _ h=>.inl ⟨h,rfl⟩⟩ rfl rfl rfl rfl rfl rfl (by simp) (fun b hb=>eF _ _ hb) (fun b x h=>.inl h)
 ·refine ⟨by simp,fun x hx hb=>?_,fun o ho=>?_⟩
  ·have:=hr.tN (x:=x) hx (b:=c.w.heap.size) hb
   omega
  ·have:=hr.im _ _ ho
   omega

theorem Ue (hL : bZ P L) (hFn : FS P F) {Q : Exit -> Act -> World -> Prop} (hd : iH X ops.toList rs) (hX : ∀ (i j : Nat) (ri rj : Rec),X i j -> rs[i]? = some ri -> rs[j]? = some rj -> ri.ran = true -> rj.ran = true -> (bD ri.o.op = true -> eH F L ri rj.H') /\ (eff ri = true -> eH F L rj ri.H)) (hrun : mX F L ops.toList rs e H0 ef Hf)
  (hops : ops.toList.all (sJ n) = true) (hq : ∀ a' c',Tr c0 H0 c' Hf -> nN n c' ef a' -> Fr (dW ops.toList) a0 a' -> Q .normal a' c'.w) :
  ∀ (fuel : Nat) (listed : Array Bool) (m : Nat) (a : Act) (c : Cx) (pd : Nat -> Nat),qE ops.toList rs c0 H0 e a0 n listed m a c pd -> Vz rs listed m -> cnt listed <= fuel -> wpAny P .any ops Q fuel listed a c.w:=by
 have fin : ∀ (listed : Array Bool) (m : Nat) (a : Act) (c : Cx) (pd : Nat -> Nat),qE ops.toList rs c0 H0 e a0 n listed m a c pd -> Vz rs listed m -> (∀ j,j < ops.size -> aF listed j) -> Q .normal a c.w:=by
  intro listed m a c pd I yO hall
  have hlen:=hd.len
  have hall' : ∀ (j : Nat) (r : Rec),rs[j]? = some r -> aF listed j:=fun j r hj=>hall j (by
   have:=(List.getElem?_eq_some_iff.1 hj).1
   rw [<- Array.length_toList]; omega)
  obtain ⟨h1,h2⟩:=GL hrun (cO.refl e)
  have hH : Hs rs H0 m = Hf:=by
   rw [h2]
   refine BM hrun rs.length I.mle (Nat.le_refl _) fun j r h3 _ hj=>jK hrun hj ?_
   cases he : eff r with
   | false=>rfl
   | true =>
     obtain ⟨x,rx,_,_,g3,_,g5⟩:=yO j r h3 hj he (hall' j r hj)
     exact absurd (hall' x rx g3) g5
  refine hq a c (by rw [<- hH]; exact I.tr) ⟨fun t A hA=>?_,I.defers,I.Oi⟩ I.fr
  obtain ⟨B,h3,h4⟩:=h1 t A hA
  refine h4 _ _ ?_
  rcases Oe (Nat.le_refl _) h3 with ⟨j,rj,h5,h6,h7,rfl,h8⟩ | ⟨h5,h6⟩
  ·exact I.new t j rj (hall' j rj h6) h6 h7 (fun i' VI _ hi' hd'=>h8 i' VI ((List.getElem?_eq_some_iff.1 hi').1) hi' hd') fun he=>by
    apply Classical.byContradiction
    intro hmj
    obtain ⟨x,rx,_,_,g3,_,g5⟩:=yO j rj (by omega) h6 he (hall' j rj h6)
    exact absurd (hall' x rx g3) g5
  ·exact I.old t B (fun j rj _ hj hdj=>h5 j rj ((List.getElem?_eq_some_iff.1 hj).1) hj hdj) h6
 intro fuel
 induction fuel with
 | zero =>
   intro listed m a c pd I yO hc
   have hsz : listed.size = ops.size:=by rw [I.size,Array.length_toList]
   have hall : ∀ j,j < ops.size -> aF listed j:=fun j hj=>KE (by omega) (by omega)
   refine ⟨?_,fin listed m a c pd I yO hall⟩
   apply List.eq_nil_iff_forall_not_mem.2
   intro i hi
   obtain ⟨o,h1,h2,_⟩:=(qc hsz).1 hi
   exact h2 (hall i (Array.getElem?_eq_some_iff.1 h1).1)
 | succ fuel ih =>
   intro listed m a c pd I yO hc
   have hsz : listed.size = ops.size:=by rw [I.size,Array.length_toList]
   refine ⟨fun hnil=>fin listed m a c pd I yO (ready_nil hsz hd.back hnil),fun i hi=>?_⟩
   obtain ⟨o,ho,hn,hbef⟩:=(qc hsz).1 hi
   have hlt : i < ops.size:=(Array.getElem?_eq_some_iff.1 ho).1
   have hltr : i < rs.length:=by rw [hd.len]; simpa using hlt
   have hir : rs[i]? = some rs[i]:=List.getElem?_eq_getElem hltr
   generalize rs[i] = r at hir
   have hro : r.o = o:=by
    have:=hd.get i r hir
    rw [Array.getElem?_toList,ho] at this
    exact (Option.some.inj this).symm
   subst hro
   have hcnt : cnt (listed.setIfInBounds i true) <= fuel:=by
    have:=Iu (by omega : i < listed.size) hn
    omega
   have hop:=List.all_eq_true.1 hops r.o (List.mem_of_getElem? (hd.get i r hir))
   simp only [sJ,Bool.and_eq_true] at hop
   obtain ⟨hb,hdst⟩:=hop
   have YI : ∀ d,r.o.dst = some d -> d < n:=fun d hdd=>by rw [hdd] at hdst; exact Nat.le_of_ble_eq_true hdst
   obtain ⟨hH,href,hguard,Di,hnot⟩:=fE hrun (cO.refl e) hir
   have hwant : Region.wanted r.o (yielded ops a.tmps) = r.ran:=by
    cases hg : r.o.guard with
    | none=>rw [zV hg]; rw [hg] at hguard; exact hguard.symm
    | some g =>
      obtain ⟨j,b⟩:=g
      rw [hg] at hguard
      obtain ⟨oj,d,A,g1,g2,g3,g4⟩:=hguard
      have hmem : d ∈ cu ops.toList r.o:=by
       unfold cu
       rw [hg]
       simp only [g1]
       simp [g2]
      rcases g4 c _ (I.slot hd yO hir hn hbef hmem g3) with ⟨x,g5,g6⟩ | ⟨g5,g6⟩
      ·rw [zS hg (by rw [<- Array.getElem?_toList]; exact g1) g2 g5,g6]
      ·rw [wU hg (by rw [<- Array.getElem?_toList]; exact g1) g2 g5,g6]
   have cont : ∀ (v : Value) (c' : Cx) (H' : Heap) (m' : Nat),Tr c (Hs rs H0 m) c' H' -> H' = Hs rs H0 m' ->
     ((eff r = false /\ m' = m /\ ∀ t,r.o.dst = some t -> EV c' r.A v) \/ (eff r = true /\ jJ r.o.op = false /\ m' = i + 1 /\ ∀ t,r.o.dst = some t -> EV c' r.A v) \/
    (eff r = true /\ m' = m /\ ∃ (b : Nat) (d : Nat),r.o.dst = some d /\ jJ r.o.op = true /\ c.w.heap.size <= b /\ Free c' H' b /\
     ∃ o z f,c'.w.heap[b]? = some o /\ Zh b o v z f /\ r.H' = (nextId r.H,z) :: r.H /\ r.A = f (nextId r.H))) ->
     wpAny P .any ops Q fuel (listed.setIfInBounds i true) (a.put r.o.dst v) c'.w:=by
    intro v c' H' m' htr hH' hm
    obtain ⟨pd',I'⟩:=I.step hd yO hir hn hbef YI htr hH' hm
    obtain ⟨m'',c'',hw,I'',adv'⟩:=qE.settle hd hrun rs.length m' c' (by omega) I'
    rw [<- hw]
    exact ih _ _ _ _ _ I'' adv' hcnt
   have O9 : jJ r.o.op = false \/ eff r = false -> ∀ (v : Value) (c' : Cx) (H' : Heap),Tr c (Hs rs H0 m) c' H' -> (∀ t,r.o.dst = some t -> EV c' r.A v) -> H' = Hs rs H0 (if eff r then i + 1 else m) ->
     wpAny P .any ops Q fuel (listed.setIfInBounds i true) (a.put r.o.dst v) c'.w:=by
    intro hnw v c' H' htr hv hH'
    cases hef : eff r with
    | false=>rw [hef] at hH'; exact cont v c' H' m htr hH' (.inl ⟨hef,rfl,hv⟩)
    | true =>
      rw [hef] at hH' hnw
      exact cont v c' H' (i + 1) htr hH' (.inr (.inl ⟨hef,by simpa using hnw,rfl,hv⟩))
   unfold wpOp
   rw [ho]
   simp only [hwant]
   cases qj : r.ran with
   | false =>
     simp only [Bool.false_eq_true,if_false]
     obtain ⟨h1,h2⟩:=hnot qj
     have hnw : jJ r.o.op = false \/ eff r = false:=by
      cases hef : eff r with
      | false=>exact .inr rfl
      | true =>
        cases hw : jJ r.o.op with
        | false=>exact .inl rfl
        | true =>
          exfalso
          have:=(hd.ZA i r hir (by simp [eff] at hef; exact hef.1) hw).1
          rw [this] at hguard
          rw [qj] at hguard
          cases hguard
     refine O9 hnw undef c _ (.refl I.tr.hr) (fun _ _=>by rw [h1]; exact Hl) ?_
     split
     ·rename_i he
      rw [rH hir,h2]
      exact I.heap hd hrun yO hir hn hbef he (hnw.resolve_right (by rw [he]; simp))
     ·rfl
   | true =>
     simp only [if_true]
     refine .inl ?_
     by_cases hnew : eff r = true /\ jJ r.o.op = true
     ·obtain ⟨hef,hnw⟩:=hnew
      have hnb : r.nb = false:=by simp [eff] at hef; exact hef.1
      obtain ⟨d,hdd⟩:=(hd.ZA i r hir hnb hnw).2
      cases ho' : r.o.op with
      | alloc t =>
        obtain ⟨ti,hT,g1,g2⟩:=Ry hL ho' hnb (Di qj)
        obtain ⟨v,g3,g4⟩:=Qd (ρ:=a.eval) (w:=c.w) hT ho'
        unfold Oper.wp
        rw [g3,Oper.upon_value]
        obtain ⟨s1,s2⟩:=Tr.spare I.tr.hr (.cells v.cells t)
        refine cont _ { c with w:=c.w.alloc (.cells v.cells t) } _ m s1 rfl (.inr (.inr ⟨hef,rfl,_,d,hdd,hnw,Nat.le_refl _,s2,.cells v.cells.toList.toArray t,.box ti.zero,fun j=>.ptr j [] 0,?_,.box g4,g1,g2⟩))
        show (c.w.alloc _).heap[_]? = _
        rw [alloc_heap_new,Array.toArray_toList]
      | makeMap t z =>
        cases z with
        | some _=>simp [ho',jJ] at hnw
        | none =>
          obtain ⟨sh,g1,g2⟩:=Wp hL ho' hnb (Di qj)
          unfold Oper.wp
          rw [run_map ho',Oper.upon_value]
          obtain ⟨s1,s2⟩:=Tr.spare I.tr.hr (.map #[] 0)
          refine cont _ { c with w:=c.w.alloc (.map #[] 0) } _ m s1 rfl (.inr (.inr ⟨hef,rfl,_,d,hdd,hnw,Nat.le_refl _,s2,.map #[] 0,.iK sh [],.mp,?_,.map,g1,g2⟩))
          show (c.w.alloc _).heap[_]? = _
          rw [alloc_heap_new]
      | _=>simp [ho',jJ] at hnw
     have hnw : jJ r.o.op = false \/ eff r = false:=by
      cases hef : eff r with
      | false=>exact .inr rfl
      | true =>
        cases hw : jJ r.o.op with
        | false=>exact .inl rfl
        | true=>exact absurd ⟨hef,hw⟩ hnew
     have henv : fC c (sub r.e (bG r.o.op)) a:=by
      intro t A hA
      obtain ⟨h1,h2⟩:=qJ hA
      obtain ⟨B,h3,h4⟩:=href t A h1
      refine h4 _ _ (I.slot hd yO hir hn hbef ?_ h3)
      simp only [cu,List.mem_append]
      exact .inl (.inr (nU h2))
     have hcongr:=Rq (F:=F) (gu:=Ok) (L:=L) (Si (e:=r.e) (l:=bG r.o.op))
     have hHs : eff r = true -> Hs rs H0 m = r.H:=fun he=>I.heap hd hrun yO hir hn hbef he (hnw.resolve_right (by rw [he]; simp))
     have hH' : ∀ H',(eff r = false -> H' = Hs rs H0 m) -> (eff r = true -> H' = r.H') -> H' = Hs rs H0 (if eff r then i + 1 else m):=by
      intro H' g1 g2
      cases hef : eff r with
      | false=>simpa using g1 hef
      | true =>
        rw [if_pos rfl,rH hir]
        exact g2 hef
     have key : ∃ (k : AV -> Heap -> Prop) (ks : Heap -> Prop),gU F Ok L r.o.op r.e (Hs rs H0 m) k ks /\ (∀ A H',k A H' -> A = r.A /\ (eff r = false -> H' = Hs rs H0 m) /\ (eff r = true -> H' = r.H')) /\
       (∀ H',ks H' -> r.o.dst = none /\ (eff r = false -> H' = Hs rs H0 m) /\ (eff r = true -> H' = r.H')):=by
      rcases Di qj with ⟨h1,h2,h3⟩ | ⟨h1,h3⟩ | ⟨h1,h2,h3⟩
      ·have h4:=Rt (hd.neut i r hir h1) (h3 (fun A=>A = r.A) rfl) (Hs rs H0 m)
       have hef : eff r = false:=by simp [eff,h1]
       exact ⟨_,_,h4,fun A H' ⟨g1,g2⟩=>⟨g1,fun _=>g2,fun h=>by rw [hef] at h; cases h⟩,fun _ h=>h.elim⟩
      ·cases hef : eff r with
       | true =>
         rw [hHs hef]
         exact ⟨fun A H'=>A = r.A /\ H' = r.H',fun _=>False,uQ (h3 _ _ ⟨rfl,rfl⟩),fun A H' ⟨g1,g2⟩=>⟨g1,(fun h=>by cases h),fun _=>g2⟩,fun _ h=>h.elim⟩
       | false =>
         have hl : bD r.o.op = true:=by simpa [eff,h1] using hef
         have hsame:=jK hrun hir hef
         have h4 : eH F L r r.H:=uQ (h3 (fun A H'=>A = r.A /\ H' = r.H) (fun _=>False) ⟨rfl,hsame⟩)
         have h5:=I.ZX hd hX hrun yO hir hn hbef h1 hl qj h4
         exact ⟨fun A H'=>A = r.A /\ H' = Hs rs H0 m,fun _=>False,h5,fun A H' ⟨g1,g2⟩=>⟨g1,fun _=>g2,fun h=>by cases h⟩,fun _ h=>h.elim⟩
      ·have hef : eff r = true:=by
        cases hef : eff r with
        | true=>rfl
        | false =>
          exfalso
          have hl : bD r.o.op = true:=by simpa [eff,h1] using hef
          cases ho : r.o.op with
          | load t x =>
            rw [ho] at h3
            have h4:=h3 (fun _ _=>False) (fun H'=>H' = r.H') rfl
            simp only [gU] at h4
            obtain ⟨A,h5,_⟩:=aW _ _ _ h4
            obtain ⟨R,h7,_⟩:=je _ _ _ _ _ h5
            exact h7
          | _=>simp [ho,bD] at hl
       rw [hHs hef]
       exact ⟨fun _ _=>False,fun H'=>H' = r.H',uQ (h3 _ _ rfl),fun _ _ h=>h.elim,fun H' g=>⟨h2,(fun h=>by rw [hef] at h; cases h),fun _=>g⟩⟩
     obtain ⟨k,ks,key,hk,hks⟩:=key
     rw [<- hcongr] at key
     have hres:=nT hL hFn I.tr.hr henv hb key
     unfold Oper.wp
     rcases hres with ⟨v,d,A,H',g1,g2,g3,g4⟩ | ⟨d,H',g1,g2,g3⟩ | ⟨f,args,g1,g2⟩
     ·obtain ⟨rfl,g4,g5⟩:=hk _ _ g4
      rw [g1,Oper.upon_value]
      exact O9 hnw v d H' g2 (fun _ _=>g3) (hH' H' g4 g5)
     ·obtain ⟨g3,g4,g5⟩:=hks _ g3
      rw [g1,Oper.upon_skip]
      exact O9 hnw undef d H' g2 (fun t ht=>by rw [g3] at ht; cases ht) (hH' H' g4 g5)
     ·rw [g1,Oper.upon_enter]
      refine Calls.mono g2 ?_
      rintro _ w' ⟨v,d,R,H',rfl,rfl,g6,g7,g4⟩
      obtain ⟨rfl,g4,g5⟩:=hk _ _ g4
      exact O9 hnw v d H' g6 (fun _ _=>g7) (hH' H' g4 g5)

end
end Go.AL

namespace Go.AL

section
variable {P : Program} {F : FT} {L : Lay}

theorem any_beq {ls : List Nat} {i : Nat} : ls.any (Nat.beq i) = true ↔ i ∈ ls:=by
 rw [List.any_eq_true]
 constructor
 ·rintro ⟨x,hx,h⟩
  rw [Nat.eq_of_beq_eq_true h]; exact hx
 ·intro h
  exact ⟨i,h,Nat.beq_refl i⟩

theorem Ei {f : Nat -> Prop} : ∀ {l : List Nat},NR l f -> ∀ i ∈ l,f i
 | [],_,i,h=>by simp at h
 | x :: l,h,i,hi=>by
   rcases List.mem_cons.1 hi with rfl | hi
   ·exact h.1
   ·exact Ei h.2 i hi

theorem Xv {listed : Array Bool} (h : ∀ j,j < listed.size -> aF listed j) : cnt listed = 0:=by
 unfold cnt
 rw [List.countP_eq_zero]
 intro b hb
 obtain ⟨j,hj,rfl⟩:=List.getElem_of_mem hb
 have:=h j (by simpa using hj)
 unfold aF at this
 rw [Array.getD_eq_getD_getElem?] at this
 have hj' : j < listed.size:=by simpa using hj
 simp [hj'] at this
 simp [this]

theorem vH : ∀ {l : List Bool} {i : Nat},l[i]? = some false -> (l.set i true).countP (fun b=>!b) + 1 = l.countP (fun b=>!b)
 | [],_,h=>by simp at h
 | x :: l,0,h=>by simp at h; subst h; simp
 | x :: l,i + 1,h=>by
   have:=vH (l:=l) (i:=i) (by simpa using h)
   simp only [List.set_cons_succ,List.countP_cons]
   omega

theorem Nr {listed : Array Bool} {i : Nat} (hi : i < listed.size) (h : ¬ aF listed i) : cnt (listed.setIfInBounds i true) + 1 = cnt listed:=by
 unfold cnt
 rw [Array.toList_setIfInBounds]
 refine vH ?_
 unfold aF at h
 rw [Array.getD_eq_getD_getElem?] at h
 rw [Array.getElem?_toList,Array.getElem?_eq_getElem hi]
 rw [Array.getElem?_eq_getElem hi] at h
 simpa using h

theorem Lm (hL : bZ P L) (hFn : FS P F) {n : Nat} {ops : Array Oper} {Q : Exit -> Act -> World -> Prop} {k : Env -> Heap -> Prop} {c0 : Cx} {H0 : Heap} {a0 : Act}
  (hops : ops.toList.all (sJ n) = true) (hb : U5 ops.toList = true) (hq : ∀ e' H' c' a',k e' H' -> Tr c0 H0 c' H' -> nN n c' e' a' -> Fr (dW ops.toList) a0 a' -> Q .normal a' c'.w) :
  ∀ (fuel : Nat) (ls : List Nat) (listed : Array Bool) (e : Env) (H : Heap) (c : Cx) (a : Act),listed.size = ops.size -> (∀ j,aF listed j ↔ j ∈ ls) -> cnt listed = fuel ->
    Tr c0 H0 c H -> nN n c e a -> Fr (dW ops.toList) a0 a -> Em F L ops.toList fuel ls e H k -> wpAny P .any ops Q fuel listed a c.w:=by
 have hback : ∀ (j : Nat) (o : Oper),ops.toList[j]? = some o -> ∀ e ∈ o.after.toList,Region.binds .any e = true -> e.on < j:=by
  intro j o ho e he hbd
  have:=bJ hb ho
  have:=List.all_eq_true.1 this e he
  rw [hbd] at this
  simpa using this
 intro fuel
 induction fuel with
 | zero =>
   intro ls listed e H c a hsz hls hc htr ha hfr h
   refine ⟨?_,hq e H c a h htr ha hfr⟩
   apply List.eq_nil_iff_forall_not_mem.2
   intro i hi
   obtain ⟨o,h1,h2,_⟩:=(qc hsz).1 hi
   exact h2 (KE hc (by have:=(Array.getElem?_eq_some_iff.1 h1).1; omega))
 | succ fuel ih =>
   intro ls listed e H c a hsz hls hc htr ha hfr h
   refine ⟨fun hnil=>?_,fun i hi=>?_⟩
   ·have:=Xv (listed:=listed) fun j hj=>ready_nil hsz hback hnil j (by omega)
    omega
   obtain ⟨o,ho,hn,hbef⟩:=(qc hsz).1 hi
   have hlt : i < ops.size:=(Array.getElem?_eq_some_iff.1 ho).1
   have hol : ops.toList[i]? = some o:=by rw [Array.getElem?_toList]; exact ho
   have hmem : i ∈ (List.range ops.toList.length).filter (Yq ops.toList ls):=by
    rw [List.mem_filter,List.mem_range]
    refine ⟨by simpa using hlt,?_⟩
    unfold Yq
    rw [hol]
    simp only [Bool.and_eq_true,Bool.not_eq_true',List.all_eq_true,Bool.or_eq_true]
    refine ⟨?_,fun ed hed=>?_⟩
    ·cases hx : ls.any (Nat.beq i) with
     | false=>rfl
     | true=>exact absurd ((hls i).2 (any_beq.1 hx)) hn
    ·cases hbd : Region.binds .any ed with
     | false=>exact .inl rfl
     | true=>exact .inr (any_beq.2 ((hls _).1 (hbef ed hed hbd)))
   have h:=Ei h i hmem
   simp only [hol] at h
   have hop:=List.all_eq_true.1 hops o (List.mem_of_getElem? hol)
   simp only [sJ,Bool.and_eq_true] at hop
   obtain ⟨hb',hdst⟩:=hop
   have YI : ∀ d,o.dst = some d -> d < n:=fun d hd=>by rw [hd] at hdst; exact Nat.le_of_ble_eq_true hdst
   have hsz' : i < listed.size:=by omega
   have hcnt : cnt (listed.setIfInBounds i true) = fuel:=by
    have h1:=Iu hsz' hn
    have h2:=Nr hsz' hn
    omega
   have ZU : ∀ j,aF (listed.setIfInBounds i true) j ↔ j ∈ i :: ls:=by
    intro j
    rw [CX hsz',hls j,List.mem_cons]
   have cont : ∀ (v : Value) (A : AV) (c' : Cx) (H' : Heap) (e1 : Env),Tr c H c' H' -> nN n c' e1 a -> EV c' A v -> qO o.dst A e1 (fun e'=>Em F L ops.toList fuel (i :: ls) e' H' k) ->
     wpAny P .any ops Q fuel (listed.setIfInBounds i true) (a.put o.dst v) c'.w:=by
    intro v A c' H' e1 gV ha' hv hk
    have hw : ∀ d,o.dst = some d -> d ∈ dW ops.toList:=fun d hd=>lM (List.mem_of_getElem? hol) hd
    cases hd : o.dst with
    | none =>
      rw [hd] at hk
      exact ih (i :: ls) _ e1 H' c' a (by simpa using hsz) ZU hcnt (htr.trans gV) ha' hfr hk
    | some d =>
      rw [hd] at hk
      refine ih (i :: ls) _ _ H' c' _ (by simpa using hsz) ZU hcnt (htr.trans gV) (ha'.put (YI d hd) hv) ?_ hk
      intro t ht
      simp only [Act.put]
      rw [getD_set_ne (fun h=>ht (by rw [<- h]; exact hw d hd))]
      exact hfr t ht
   obtain ⟨e1,ha1,hcase⟩:=xM ha h
   unfold wpOp
   rw [ho]
   simp only []
   rcases hcase with ⟨hw,h1⟩ | ⟨hw,h1⟩
   ·rw [if_pos hw]
    refine .inl ?_
    have hop:=nT hL hFn htr.hr ha1.env hb' (uQ h1)
    unfold Oper.wp
    rcases hop with ⟨v,d,A,H',g1,g2,g3,g4⟩ | ⟨d,H',g1,g2,g3⟩ | ⟨f,args,g1,g2⟩
    ·rw [g1,Oper.upon_value]
     exact cont v A d H' e1 g2 (ha1.mono g2.le) g3 g4
    ·rw [g1,Oper.upon_skip]
     cases hd : o.dst with
     | none=>rw [hd] at g3; exact hd ▸ cont undef .und d H' e1 g2 (ha1.mono g2.le) trivial (by rw [hd]; exact g3)
     | some d'=>rw [hd] at g3; exact g3.elim
    ·rw [g1,Oper.upon_enter]
     refine Calls.mono g2 ?_
     rintro _ w' ⟨v,d,R,H',rfl,rfl,g4,g5,g3⟩
     exact cont v R d H' e1 g4 (ha1.mono g4.le) g5 g3
   ·rw [hw]
    simp only [Bool.false_eq_true,if_false]
    exact cont undef (.dA []) c H e1 (.refl htr.hr) ha1 Hl h1

end
end Go.AL

namespace Go.AL

mutual
theorem xQ {j : Nat} {B : AV} : ∀ {A : AV} {k : AV -> Prop},Dk j B A k ↔ k (mP j B A)
 | .ptr i p off,k=>by
   simp only [Dk,mP]
   split <;> exact Iff.rfl
 | .fn f cap,k=>by simp only [Dk,mP]; exact uN
 | .ag l,k=>by simp only [Dk,mP]; exact uN
 | .dA l,k=>by simp only [Dk,mP]; exact uN
 | .jh t x,k=>by simp only [Dk,mP]; exact xQ
 | .bool _,_ | .tt,_ | .ff,_ | .dec _,_ | .int _ _,_ | .str _,_ | .bH,_ | .aV,_ | .sl _ _ _,_ | .ms _ _ _ _ _,_ | .cp _,_ | .fJ,_ | .aZ,_ | .mp _,_ | .gs _ _,_ | .bm _ _,_ | .jQ,_ | .und,_=>by simp only [Dk,mP]
theorem uN {j : Nat} {B : AV} : ∀ {l : List AV} {k : List AV -> Prop},Gh j B l k ↔ k (vw j B l)
 | [],_=>Iff.rfl
 | x :: l,k=>by
   simp only [Gh,vw]
   exact xQ.trans uN
end

theorem TM {j : Nat} {B : AV} (A : AV) : dn (mP j B A) = dn A:=by
 cases A <;> first
  | rfl
  | (simp only [mP]; split <;> rfl)

theorem vS {j : Nat} {B A : AV} {v : Value} (h : dQ A v) : dQ (mP j B A) v:=by
 unfold dQ at *; rw [TM]; exact h

mutual
theorem Et {d : Cx} {j : Nat} {B : AV} (hP : ∀ cs,VR d (.ptr j [] 0) cs -> VR d (.cp B) cs) : ∀ (A : AV) (cs : List Value),VR d A cs -> VR d (mP j B A) cs
 | .ptr i p off,cs,h=>by
   simp only [mP]
   split
   ·rename_i hb
    rw [Nat.eq_of_beq_eq_true hb] at h
    exact hP cs h
   ·exact h
 | .fn f cap,cs,h=>by
   simp only [mP,VR] at h ⊢
   obtain ⟨vs,h1,h2⟩:=h
   exact ⟨vs,h1,NV hP cap vs h2⟩
 | .ag l,cs,h=>by
   simp only [mP,VR] at h ⊢
   exact PD hP l cs h
 | .dA l,cs,h=>by simp only [VR,Rd] at h
 | .jh t x,cs,h=>by
   simp only [mP,VR] at h ⊢
   obtain ⟨v,h1,h2,h3⟩:=h
   exact ⟨v,h1,vS h2,Et hP x _ h3⟩
 | .bool _,_,h | .tt,_,h | .ff,_,h | .dec _,_,h | .int _ _,_,h | .str _,_,h | .bH,_,h | .aV,_,h | .sl _ _ _,_,h | .ms _ _ _ _ _,_,h | .cp _,_,h | .fJ,_,h | .aZ,_,h | .mp _,_,h | .gs _ _,_,h | .bm _ _,_,h | .jQ,_,h | .und,_,h=>by
   simp only [mP]; exact h
theorem PD {d : Cx} {j : Nat} {B : AV} (hP : ∀ cs,VR d (.ptr j [] 0) cs -> VR d (.cp B) cs) : ∀ (l : List AV) (cs : List Value),lg d l cs -> lg d (vw j B l) cs
 | [],_,h=>h
 | x :: l,cs,h=>by
   simp only [lg,vw] at h ⊢
   obtain ⟨a,b,h1,h2,h3⟩:=h
   exact ⟨a,b,h1,Et hP x _ h2,PD hP l _ h3⟩
theorem NV {d : Cx} {j : Nat} {B : AV} (hP : ∀ cs,VR d (.ptr j [] 0) cs -> VR d (.cp B) cs) : ∀ (l : List AV) (vs : List Value),VA d l vs -> VA d (vw j B l) vs
 | [],_,h=>h
 | x :: l,vs,h=>by
   simp only [VA,vw] at h ⊢
   obtain ⟨v,r,h1,h2,h3,h4⟩:=h
   exact ⟨v,r,h1,vS h2,Et hP x _ h3,NV hP l _ h4⟩
end

theorem Y8 {d : Cx} {j : Nat} {B : AV} (hP : ∀ cs,VR d (.ptr j [] 0) cs -> VR d (.cp B) cs) {A : AV} {v : Value} (h : EV d A v) : EV d (mP j B A) v:=by
 have key : VV d A v -> VV d (mP j B A) v:=fun h=>⟨vS h.1,Et hP _ _ h.2⟩
 cases A with
 | und=>trivial
 | dA l =>
   obtain ⟨vs,h1,h2⟩:=h
   exact ⟨vs,h1,NV hP l _ h2⟩
 | ptr i p off=>exact aS (key h)
 | _=>exact key h

theorem JZ {j : Nat} {B : AV} : ∀ {e : Env} {k : Env -> Prop},QA j B e k -> ∃ e',k e' /\ ∀ t A',dL e' t = some A' -> ∃ A,dL e t = some A /\ (A' = A \/ A' = mP j B A)
 | [],k,h=>⟨[],h,fun t A h=>by simp [dL] at h⟩
 | (i,A) :: e,k,h=>by
   simp only [QA] at h
   have key : ∀ A1,(A1 = A \/ A1 = mP j B A) -> (QA j B e fun m=>k ((i,A1) :: m)) -> ∃ e',k e' /\ ∀ t A',dL e' t = some A' -> ∃ A0,dL ((i,A) :: e) t = some A0 /\ (A' = A0 \/ A' = mP j B A0):=by
    intro A1 hA1 h
    obtain ⟨e',h1,h2⟩:=JZ h
    refine ⟨_,h1,fun t A' h=>?_⟩
    simp only [dL] at h ⊢
    cases hb : Nat.beq i t with
    | true =>
      rw [hb] at h
      obtain rfl:=Option.some.inj h
      exact ⟨A,rfl,hA1⟩
    | false=>rw [hb] at h; exact h2 t A' h
   cases hp : Qy j A with
   | false=>rw [hp] at h; exact key A (.inl rfl) h
   | true=>rw [hp] at h; exact key _ (.inr rfl) (xQ.1 h)

inductive rJ (j : Nat) (B : AV) : Heap -> Heap -> Prop where
 | nil : rJ j B [] []
 | gone (i : Nat) (o : HO) (hb : Nat.beq i j = true) {H G : Heap} (h : rJ j B H G) : rJ j B ((i,o) :: H) ((i,.gone) :: G)
 | keep (i : Nat) (o : HO) (hb : Nat.beq i j = false) {H G : Heap} (h : rJ j B H G) : rJ j B ((i,o) :: H) ((i,o) :: G)
 | box (i : Nat) (A : AV) (hb : Nat.beq i j = false) {H G : Heap} (h : rJ j B H G) : rJ j B ((i,.box A) :: H) ((i,.box (mP j B A)) :: G)

theorem sW {j : Nat} {B : AV} : ∀ {H : Heap} {k : Heap -> Prop},Nb j B H k -> ∃ G,k G /\ rJ j B H G
 | [],k,h=>⟨[],h,.nil⟩
 | (i,o) :: H,k,h=>by
   simp only [Nb] at h
   cases hb : Nat.beq i j with
   | true =>
     rw [hb] at h
     obtain ⟨G,h1,h2⟩:=sW h
     exact ⟨_,h1,.gone i o hb h2⟩
   | false =>
     rw [hb] at h
     dsimp only at h
     split at h
     ·rename_i A
      cases hp : Qy j A with
      | false =>
        rw [hp] at h
        obtain ⟨G,h1,h2⟩:=sW h
        exact ⟨_,h1,.keep i _ hb h2⟩
      | true =>
        rw [hp] at h
        obtain ⟨G,h1,h2⟩:=sW (xQ.1 h)
        exact ⟨_,h1,.box i A hb h2⟩
     ·obtain ⟨G,h1,h2⟩:=sW h
      exact ⟨_,h1,.keep i _ hb h2⟩

theorem rJ.mem {j : Nat} {B : AV} {H G : Heap} (h : rJ j B H G) : ∀ y ∈ G,(y.1 = j /\ y.2 = .gone) \/ ∃ o,(y.1,o) ∈ H /\ y.1 ≠ j /\ (y.2 = o \/ ∃ A,o = .box A /\ y.2 = .box (mP j B A)):=by
 induction h with
 | nil=>simp
 | gone i o hb h ih =>
   intro y hy
   rcases List.mem_cons.1 hy with rfl | hy
   ·exact .inl ⟨Nat.eq_of_beq_eq_true hb,rfl⟩
   ·exact (ih y hy).imp id fun ⟨o',h1,h2⟩=>⟨o',List.mem_cons_of_mem _ h1,h2⟩
 | keep i o hb h ih =>
   intro y hy
   rcases List.mem_cons.1 hy with rfl | hy
   ·exact .inr ⟨o,List.mem_cons_self,dZ hb,.inl rfl⟩
   ·exact (ih y hy).imp id fun ⟨o',h1,h2⟩=>⟨o',List.mem_cons_of_mem _ h1,h2⟩
 | box i A hb h ih =>
   intro y hy
   rcases List.mem_cons.1 hy with rfl | hy
   ·exact .inr ⟨_,List.mem_cons_self,dZ hb,.inr ⟨A,rfl,rfl⟩⟩
   ·exact (ih y hy).imp id fun ⟨o',h1,h2⟩=>⟨o',List.mem_cons_of_mem _ h1,h2⟩

theorem rJ.next {j : Nat} {B : AV} {H G : Heap} (h : rJ j B H G) : nextId G = nextId H:=by
 cases h <;> rfl

theorem rJ.ids {j : Nat} {B : AV} {H G : Heap} (h : rJ j B H G) : ak H -> ak G:=by
 have lt : ∀ {H G : Heap},rJ j B H G -> ∀ n,(∀ x ∈ H,x.1 < n) -> ∀ y ∈ G,y.1 < n:=by
  intro H G h
  induction h with
  | nil=>simp
  | gone i o hb h ih=>intro n hn y hy; rcases List.mem_cons.1 hy with rfl | hy; exact hn (i,o) List.mem_cons_self; exact ih n (fun x hx=>hn x (List.mem_cons_of_mem _ hx)) y hy
  | keep i o hb h ih=>intro n hn y hy; rcases List.mem_cons.1 hy with rfl | hy; exact hn (i,o) List.mem_cons_self; exact ih n (fun x hx=>hn x (List.mem_cons_of_mem _ hx)) y hy
  | box i A hb h ih=>intro n hn y hy; rcases List.mem_cons.1 hy with rfl | hy; exact hn (i,.box A) List.mem_cons_self; exact ih n (fun x hx=>hn x (List.mem_cons_of_mem _ hx)) y hy
 induction h with
 | nil=>exact id
 | gone i o hb h ih=>intro hi; simp only [ak] at hi ⊢; exact ⟨lt h i hi.1,ih hi.2⟩
 | keep i o hb h ih=>intro hi; simp only [ak] at hi ⊢; exact ⟨lt h i hi.1,ih hi.2⟩
 | box i A hb h ih=>intro hi; simp only [ak] at hi ⊢; exact ⟨lt h i hi.1,ih hi.2⟩

theorem rJ.tp {j : Nat} {B : AV} {H G : Heap} (h : rJ j B H G) {A0 : AV} (hj : hget H j = some (.box A0)) : dw G = dw H:=by
 have key : ∀ {H G : Heap},rJ j B H G -> ∀ k,k ≠ j -> dw G k = dw H k:=by
  intro H G h
  induction h with
  | nil=>intro k _; rfl
  | gone i o hb h ih =>
    intro k hk
    have hik : Nat.beq i k = false:=by
     cases h' : Nat.beq i k with
     | false=>rfl
     | true=>exact absurd ((Nat.eq_of_beq_eq_true h').symm.trans (Nat.eq_of_beq_eq_true hb)) hk
    have:=ih k hk
    simp only [dw,hget,hik] at this ⊢; exact this
  | keep i o hb h ih =>
    intro k hk
    have:=ih k hk
    simp only [dw,hget] at this ⊢
    cases Nat.beq i k with
    | true=>rfl
    | false=>exact this
  | box i A hb h ih =>
    intro k hk
    have:=ih k hk
    simp only [dw,hget] at this ⊢
    cases Nat.beq i k with
    | true=>rfl
    | false=>exact this
 have kj : ∀ {H G : Heap},rJ j B H G -> hget G j = none \/ hget G j = some .gone:=by
  intro H G h
  induction h with
  | nil=>exact .inl rfl
  | gone i o hb h ih=>simp only [hget,hb]; exact .inr trivial
  | keep i o hb h ih=>simp only [hget,hb]; exact ih
  | box i A hb h ih=>simp only [hget,hb]; exact ih
 funext k
 by_cases hk : k = j
 ·subst hk
  have h1 : dw H k = none:=by simp only [dw,hj]
  rw [h1]
  rcases kj h with h2 | h2 <;> simp only [dw,h2]
 ·exact key h k hk

theorem Ae : ∀ {H : Heap} {k i : Nat} {o o' : HO},(i,o) ∈ H -> i ≠ k -> (i,o) ∈ hset H k o'
 | (x,y) :: H,k,i,o,o',h,hn=>by
   simp only [hset]
   cases hb : Nat.beq x k with
   | true =>
     rcases List.mem_cons.1 h with h | h
     ·exact absurd (by rw [<- Nat.eq_of_beq_eq_true hb]; exact congrArg Prod.fst h) hn
     ·exact List.mem_cons_of_mem _ h
   | false =>
     rcases List.mem_cons.1 h with h | h
     ·rw [h]; exact List.mem_cons_self
     ·exact List.mem_cons_of_mem _ (Ae h hn)

theorem wz {n : Nat} : ∀ {js : List Nat} {e : Env} {H : Heap} {c : Cx} {a : Act} {k : Env -> Heap -> Prop},HR c H -> nN n c e a -> Qz js e H k -> ∃ e1 H1 d,d.w = c.w /\ Tr c H d H1 /\ nN n d e1 a /\ k e1 H1
 | [],e,H,c,a,k,hr,ha,h=>⟨e,H,c,rfl,.refl hr,ha,h⟩
 | j :: js,e,H,c,a,k,hr,ha,h=>by
   simp only [Qz] at h
   obtain ⟨o,ho,h⟩:=cZ.1 h
   split at h
   case h_2=>exact h.elim
   rename_i A
   obtain ⟨⟨hpu,hst⟩,h⟩:=h
   obtain ⟨e1,h,he1⟩:=JZ h
   obtain ⟨G,h,hG⟩:=sW h
   obtain ⟨cs,ty,g1,g2,g3⟩:=hr.oK ho
   let d : Cx:={ c with Im:=fun b o=>c.Im b o \/ b = c.ρ j }
   have le : c.Le d:=⟨fun b o h=>⟨.inl h,rfl⟩,Nat.le_refl _,fun _ _=>rfl,fun _ _ _ h=>.inl ⟨h,rfl⟩⟩
   have JW : Rd d.w d.Im A cs:=by
    have:=oH A cs hpu g2
    rw [hst] at this
    exact dN le.im _ _ this
   have hP : ∀ cs',VR d (.ptr j [] 0) cs' -> VR d (.cp A) cs':=by
    intro cs' h
    simp only [VR] at h
    obtain ⟨_,rfl⟩:=h
    simp only [VR,Rd]
    refine ⟨_,cs,rfl,rfl,fun i v hi=>⟨?_,.inr rfl⟩,JW⟩
    show c.w.cell? _ = _
    rw [cell_of_heap g1]
    simpa using hi
   have htr : Tr c H d (hset H j .gone):=by
    refine Tr.set hr ho le rfl (by rw [iP ho (by intros; simp) (by intros; simp)]; exact hr.tp) (fun _ _=>rfl) rfl rfl rfl (Nat.le_refl _) (fun _ _ _=>rfl) ?_ ?_ trivial
    ·rintro b x (h | h)
     ·exact .inl h
     ·exact .inr (.inr (by simp [aB,h]))
    ·intro b h; simp [aB] at h
   have E8:=hG.ids hr.ids
   have hmem : ∀ y ∈ G,(y.1 = j /\ y.2 = .gone) \/ ∃ o,(y.1,o) ∈ hset H j .gone /\ aB d y = aB d (y.1,o) /\ (o.Ok d y.1 -> y.2.Ok d y.1):=by
    intro y hy
    rcases hG.mem y hy with h | ⟨o,h1,h2,h3⟩
    ·exact .inl h
    ·refine .inr ⟨o,?_,?_,?_⟩
     ·exact Ae h1 h2
     ·obtain ⟨i,y2⟩:=y
      rcases h3 with rfl | ⟨A',rfl,h3⟩
      ·rfl
      ·dsimp only at h3; subst h3; rfl
     ·intro hok
      obtain ⟨i,y2⟩:=y
      rcases h3 with rfl | ⟨A',rfl,h3⟩
      ·exact hok
      ·dsimp only at h3; subst h3
       obtain ⟨cs',ty',k1,k2,k3⟩:=hok
       exact ⟨cs',ty',k1,Et hP _ _ k2,k3⟩
   have hr2 : HR d G:=by
    refine ⟨?_,?_,E8,htr.hr.im,?_,?_⟩
    ·rw [hG.next]; exact hr.nx
    ·rw [hG.tp ho]; exact hr.tp
    ·intro y hy
     rcases hmem y hy with ⟨_,h⟩ | ⟨o,h1,_,h3⟩
     ·rw [h]; trivial
     ·exact h3 (htr.hr.ok _ h1)
    ·refine eP E8 fun x hx y hy hn b hb hb'=>?_
     rcases hmem x hx with ⟨_,h⟩ | ⟨o,h1,h2,_⟩
     ·simp [aB,h] at hb
     ·rcases hmem y hy with ⟨_,h⟩ | ⟨o',h1',h2',_⟩
      ·simp [aB,h] at hb'
      ·rw [h2] at hb; rw [h2'] at hb'
       exact htr.hr.apart' h1 h1' hn hb hb'
   have wo : Tr c H d G:=by
    refine ⟨hr2,le,rfl,rfl,rfl,Nat.le_refl _,fun _ _ _=>rfl,?_,htr.VJ⟩
    intro y hy b hb
    rcases hmem y hy with ⟨_,h⟩ | ⟨o,h1,h2,_⟩
    ·simp [aB,h] at hb
    ·rw [h2] at hb; exact htr.own _ h1 b hb
   have ha1 : nN n d e1 a:=by
    have ha':=ha.mono le
    refine ⟨fun t A' hA'=>?_,ha.defers,ha.size⟩
    obtain ⟨A0,h1,h2⟩:=he1 t A' hA'
    rcases h2 with rfl | rfl
    ·exact ha'.env t _ h1
    ·exact Y8 hP (ha'.env t _ h1)
   obtain ⟨e2,H2,d2,k1,k2,k3,k4⟩:=wz hr2 ha1 h
   exact ⟨e2,H2,d2,k1,wo.trans k2,k3,k4⟩

theorem tC {L : Lay} {H : Heap} : ∀ {pl : List (Nat × AV × AV)} {k : Prop},KF L H pl k ↔ (∀ p ∈ pl,jf L p.1 p.2.1 H fun R=>R = p.2.2) /\ k
 | [],k=>by simp [KF]
 | (t,A,R) :: pl,k=>by
   simp only [KF,tC,List.mem_cons,forall_eq_or_imp,and_assoc]

theorem l9 {F : FT} {L : Lay} {ops : List Oper} {fl : List Nat} {k : Env -> Heap -> Prop} : ∀ {l : List (Oper × Bool)} {i : Nat} {pl : List (Nat × AV × AV)} {e : Env} {H : Heap},pq F L ops fl i l pl e H k ->
  ∃ rs ef Hf,rs.map (fun r=>(r.o,r.nb)) = l /\ mX F L ops rs e H ef Hf /\ k ef Hf /\
    (∀ p ∈ pl,∀ rj ∈ rs,rj.nb = false -> rj.ran = true -> qZ fl rj.o.op = true -> jf L p.1 p.2.1 rj.H' fun R=>R = p.2.2) /\
    ∀ (a b : Nat) (ra rb : Rec),a < b -> rs[a]? = some ra -> rs[b]? = some rb -> pJ fl (i + a) = true -> bD ra.o.op = true -> ra.nb = false -> ra.ran = true -> rb.nb = false -> rb.ran = true -> qZ fl rb.o.op = true -> eH F L ra rb.H'
 | [],i,pl,e,H,h=>⟨[],e,H,rfl,⟨rfl,rfl⟩,h,by simp,fun a b ra rb _ h=>by simp at h⟩
 | (o,nb) :: l,i,pl,e,H,h=>by
   simp only [pq] at h
   obtain ⟨e',b,h1,h2,h3,h4⟩:=wu h
   -- what is known of the rest does for the whole,if the first is no such load
   have step : ∀ {r : Rec} {rs : List Rec} {AQ : List (Nat × AV × AV)},(∀ p ∈ pl,p ∈ AQ) -> (∀ p ∈ pl,r.nb = false -> r.ran = true -> qZ fl r.o.op = true -> jf L p.1 p.2.1 r.H' fun R=>R = p.2.2) ->
     (∀ p ∈ AQ,∀ rj ∈ rs,rj.nb = false -> rj.ran = true -> qZ fl rj.o.op = true -> jf L p.1 p.2.1 rj.H' fun R=>R = p.2.2) ->
     (pJ fl i = true -> bD r.o.op = true -> r.nb = false -> r.ran = true -> ∃ t x B,r.o.op = .load t x /\ (t,B,r.A) ∈ AQ /\ ∀ K : AV -> Prop,K B -> bP r.e x K) ->
     (∀ (a b : Nat) (ra rb : Rec),a < b -> rs[a]? = some ra -> rs[b]? = some rb -> pJ fl (i + 1 + a) = true -> bD ra.o.op = true -> ra.nb = false -> ra.ran = true -> rb.nb = false -> rb.ran = true -> qZ fl rb.o.op = true -> eH F L ra rb.H') ->
     (∀ p ∈ pl,∀ rj ∈ r :: rs,rj.nb = false -> rj.ran = true -> qZ fl rj.o.op = true -> jf L p.1 p.2.1 rj.H' fun R=>R = p.2.2) /\
     ∀ (a b : Nat) (ra rb : Rec),a < b -> (r :: rs)[a]? = some ra -> (r :: rs)[b]? = some rb -> pJ fl (i + a) = true -> bD ra.o.op = true -> ra.nb = false -> ra.ran = true -> rb.nb = false -> rb.ran = true -> qZ fl rb.o.op = true -> eH F L ra rb.H':=by
    intro r rs AQ s1 s2 s3 s4 s5
    refine ⟨fun p hp rj hj=>?_,fun a b ra rb hab ha hb g1 g2 g3 g4 g5 g6 g7=>?_⟩
    ·rcases List.mem_cons.1 hj with rfl | hj
     ·exact s2 p hp
     ·exact s3 p (s1 p hp) rj hj
    ·obtain ⟨b,rfl⟩ : ∃ c,b = c + 1:=⟨b - 1,by omega⟩
     simp only [List.getElem?_cons_succ] at hb
     cases a with
     | zero =>
       simp at ha; subst ha
       obtain ⟨t,x,B,k1,k2,k3⟩:=s4 g1 g2 g3 g4
       have:=s3 _ k2 rb (List.mem_of_getElem? hb) g5 g6 g7
       unfold eH
       rw [k1]
       simp only [gU]
       refine k3 _ ?_
       obtain ⟨R,k4,k5⟩:=je _ _ _ _ _ this
       exact k5 _ ⟨k4,trivial⟩
     | succ a =>
       simp only [List.getElem?_cons_succ] at ha
       exact s5 a b ra rb (by omega) ha hb (by rw [show i + 1 + a = i + (a + 1) by omega]; exact g1) g2 g3 g4 g5 g6 g7
   cases b with
   | false =>
     obtain ⟨rs,ef,Hf,g1,g2,g3,g4,g5⟩:=l9 (kM.1 (h4 rfl))
     exact ⟨⟨o,nb,false,e',.dA [],H,H⟩ :: rs,ef,Hf,by simp [g1],⟨rfl,h1,h2,(fun h=>by cases h),fun _=>⟨rfl,rfl⟩,g2⟩,g3,step (fun _ h=>h) (fun _ _ _ h=>by cases h) g4 (fun _ _ _ h=>by cases h) g5⟩
   | true =>
     have h3:=h3 rfl
     cases nb with
     | true =>
       obtain ⟨A,h5,h6⟩:=Io _ h3
       obtain ⟨rs,ef,Hf,g1,g2,g3,g4,g5⟩:=l9 (kM.1 h5)
       exact ⟨⟨o,true,true,e',A,H,H⟩ :: rs,ef,Hf,by simp [g1],⟨rfl,h1,h2,(fun _=>.inl ⟨rfl,rfl,h6⟩),(fun h=>by cases h),g2⟩,g3,step (fun _ h=>h) (fun _ _ h=>by cases h) g4 (fun _ _ h=>by cases h) g5⟩
     | false =>
       obtain ⟨hn,h3⟩:=nJ.1 h3
       rcases Ip hn _ _ h3 with ⟨A,H',h5,h6⟩ | ⟨H',h5,h6⟩
       ·obtain ⟨c1,h5⟩:=tC.1 h5
        have hadd : ∃ AQ,(∀ p ∈ pl,p ∈ AQ) /\ (pJ fl i = true -> bD o.op = true -> ∃ t x B,o.op = .load t x /\ (t,B,A) ∈ AQ /\ ∀ K : AV -> Prop,K B -> bP e' x K) /\ qO o.dst A e' fun e'=>pq F L ops fl (i + 1) l AQ e' H' k:=by
         unfold U9 at h5
         split at h5
         ·rename_i t x _ ho
          obtain ⟨B,h7,h8⟩:=aW _ _ _ h5
          exact ⟨_,fun p hp=>List.mem_cons_of_mem _ hp,fun _ _=>⟨t,x,B,ho,List.mem_cons_self,h8⟩,h7⟩
         ·rename_i hne
          refine ⟨pl,fun _ h=>h,fun hm hl=>?_,h5⟩
          cases ho : o.op with
          | load t x=>exact (hne t x hm ho).elim
          | _=>simp [ho,bD] at hl
        obtain ⟨AQ,p1,p2,h5⟩:=hadd
        obtain ⟨rs,ef,Hf,g1,g2,g3,g4,g5⟩:=l9 (kM.1 h5)
        refine ⟨⟨o,false,true,e',A,H,H'⟩ :: rs,ef,Hf,by simp [g1],⟨rfl,h1,h2,(fun _=>.inr (.inl ⟨rfl,h6⟩)),(fun h=>by cases h),g2⟩,g3,step p1 (fun p hp _ _ hv=>?_) g4 (fun hm hl _ _=>p2 hm hl) g5⟩
        dsimp only at hv
        rw [hv] at c1
        exact c1 p hp
       ·cases hd : o.dst with
        | some d=>simp only [hd] at h5
        | none =>
          simp only [hd] at h5
          obtain ⟨c1,h5⟩:=tC.1 h5
          obtain ⟨rs,ef,Hf,g1,g2,g3,g4,g5⟩:=l9 h5
          have ZO : ∀ t x,o.op ≠ .load t x:=by
           intro t x ho
           rw [ho] at h6
           have:=h6 (fun _ _=>False) (fun _=>True) trivial
           simp only [gU] at this
           obtain ⟨A,q1,_⟩:=aW _ _ _ this
           obtain ⟨R,q2,_⟩:=je _ _ _ _ _ q1
           exact q2
          refine ⟨⟨o,false,true,e',.und,H,H'⟩ :: rs,ef,Hf,by simp [g1],⟨rfl,h1,h2,(fun _=>.inr (.inr ⟨rfl,hd,h6⟩)),(fun h=>by cases h),?_⟩,g3,step (fun _ h=>h) (fun p hp _ _ hv=>by dsimp only at hv; rw [hv] at c1; exact c1 p hp) g4 (fun _ h=>?_) g5⟩
          ·simpa [sG,hd] using g2
          ·exfalso
           cases ho : o.op with
           | load t x=>exact ZO t x ho
           | _=>simp [ho,bD] at h

theorem KG {L : Lay} {t : Nat} {A R : AV} : ∀ {hs : List Heap} {k : Prop},Ut L t A R hs k ↔ (∀ G ∈ hs,jf L t A G fun R'=>R' = R) /\ k
 | [],k=>by simp [Ut]
 | G :: hs,k=>by
   simp only [Ut,KG,List.mem_cons,forall_eq_or_imp,and_assoc]

structure GF (F : FT) (L : Lay) (gl : List Nat) (i : Nat) (hs : List Heap) (rs : List Rec) : Prop where
 g1 : ∀ G ∈ hs,∀ (b : Nat) (rb : Rec),rs[b]? = some rb -> pJ gl (i + b) = true -> bD rb.o.op = true -> rb.nb = false -> rb.ran = true -> eH F L rb G
 g2 : ∀ (a b : Nat) (ra rb : Rec),a < b -> rs[a]? = some ra -> rs[b]? = some rb -> pJ gl (i + b) = true -> bD rb.o.op = true -> rb.nb = false -> rb.ran = true -> ra.nb = false -> bD ra.o.op = false -> ra.ran = true -> eH F L rb ra.H

theorem GF.step {F : FT} {L : Lay} {gl : List Nat} {i : Nat} {hs hs' : List Heap} {r : Rec} {rs : List Rec} (t1 : ∀ G ∈ hs,G ∈ hs')
  (t2 : pJ gl i = true -> bD r.o.op = true -> r.nb = false -> r.ran = true -> ∀ G ∈ hs,eH F L r G) (t3 : r.nb = false -> bD r.o.op = false -> r.ran = true -> r.H ∈ hs') (h : GF F L gl (i + 1) hs' rs) : GF F L gl i hs (r :: rs):=by
 refine ⟨fun G hG b rb hb k1 k2 k3 k4=>?_,fun a b ra rb hab ha hb k1 k2 k3 k4 k5 k6 k7=>?_⟩
 ·cases b with
  | zero=>simp at hb; subst hb; exact t2 k1 k2 k3 k4 G hG
  | succ b =>
    simp only [List.getElem?_cons_succ] at hb
    exact h.g1 G (t1 G hG) b rb hb (by rw [show i + 1 + b = i + (b + 1) by omega]; exact k1) k2 k3 k4
 ·obtain ⟨b,rfl⟩ : ∃ c,b = c + 1:=⟨b - 1,by omega⟩
  simp only [List.getElem?_cons_succ] at hb
  have k1 : pJ gl (i + 1 + b) = true:=by rw [show i + 1 + b = i + (b + 1) by omega]; exact k1
  cases a with
  | zero=>simp at ha; subst ha; exact h.g1 _ (t3 k5 k6 k7) b rb hb k1 k2 k3 k4
  | succ a =>
    simp only [List.getElem?_cons_succ] at ha
    exact h.g2 a b ra rb (by omega) ha hb k1 k2 k3 k4 k5 k6 k7

theorem mg {F : FT} {L : Lay} {ops : List Oper} {fl gl : List Nat} {k : Env -> Heap -> Prop} : ∀ {l : List (Oper × Bool)} {i : Nat} {pl : List (Nat × AV × AV)} {hs : List Heap} {e : Env} {H : Heap},ny F L ops fl gl i l pl hs e H k ->
  ∃ rs ef Hf,rs.map (fun r=>(r.o,r.nb)) = l /\ mX F L ops rs e H ef Hf /\ k ef Hf /\
    ((∀ p ∈ pl,∀ rj ∈ rs,rj.nb = false -> rj.ran = true -> qZ fl rj.o.op = true -> jf L p.1 p.2.1 rj.H' fun R=>R = p.2.2) /\
    ∀ (a b : Nat) (ra rb : Rec),a < b -> rs[a]? = some ra -> rs[b]? = some rb -> pJ fl (i + a) = true -> bD ra.o.op = true -> ra.nb = false -> ra.ran = true -> rb.nb = false -> rb.ran = true -> qZ fl rb.o.op = true -> eH F L ra rb.H') /\ GF F L gl i hs rs
 | [],i,pl,hs,e,H,h=>⟨[],e,H,rfl,⟨rfl,rfl⟩,h,⟨by simp,fun a b ra rb _ h=>by simp at h⟩,⟨fun G _ b rb h=>by simp at h,fun a b ra rb _ h=>by simp at h⟩⟩
 | (o,nb) :: l,i,pl,hs,e,H,h=>by
   simp only [ny] at h
   obtain ⟨e',b,h1,h2,h3,h4⟩:=wu h
   -- what is known of the rest does for the whole,if the first is no such load
   have step : ∀ {r : Rec} {rs : List Rec} {AQ : List (Nat × AV × AV)},(∀ p ∈ pl,p ∈ AQ) -> (∀ p ∈ pl,r.nb = false -> r.ran = true -> qZ fl r.o.op = true -> jf L p.1 p.2.1 r.H' fun R=>R = p.2.2) ->
     (∀ p ∈ AQ,∀ rj ∈ rs,rj.nb = false -> rj.ran = true -> qZ fl rj.o.op = true -> jf L p.1 p.2.1 rj.H' fun R=>R = p.2.2) ->
     (pJ fl i = true -> bD r.o.op = true -> r.nb = false -> r.ran = true -> ∃ t x B,r.o.op = .load t x /\ (t,B,r.A) ∈ AQ /\ ∀ K : AV -> Prop,K B -> bP r.e x K) ->
     (∀ (a b : Nat) (ra rb : Rec),a < b -> rs[a]? = some ra -> rs[b]? = some rb -> pJ fl (i + 1 + a) = true -> bD ra.o.op = true -> ra.nb = false -> ra.ran = true -> rb.nb = false -> rb.ran = true -> qZ fl rb.o.op = true -> eH F L ra rb.H') ->
     (∀ p ∈ pl,∀ rj ∈ r :: rs,rj.nb = false -> rj.ran = true -> qZ fl rj.o.op = true -> jf L p.1 p.2.1 rj.H' fun R=>R = p.2.2) /\
     ∀ (a b : Nat) (ra rb : Rec),a < b -> (r :: rs)[a]? = some ra -> (r :: rs)[b]? = some rb -> pJ fl (i + a) = true -> bD ra.o.op = true -> ra.nb = false -> ra.ran = true -> rb.nb = false -> rb.ran = true -> qZ fl rb.o.op = true -> eH F L ra rb.H':=by
    intro r rs AQ s1 s2 s3 s4 s5
    refine ⟨fun p hp rj hj=>?_,fun a b ra rb hab ha hb g1 g2 g3 g4 g5 g6 g7=>?_⟩
    ·rcases List.mem_cons.1 hj with rfl | hj
     ·exact s2 p hp
     ·exact s3 p (s1 p hp) rj hj
    ·obtain ⟨b,rfl⟩ : ∃ c,b = c + 1:=⟨b - 1,by omega⟩
     simp only [List.getElem?_cons_succ] at hb
     cases a with
     | zero =>
       simp at ha; subst ha
       obtain ⟨t,x,B,k1,k2,k3⟩:=s4 g1 g2 g3 g4
       have:=s3 _ k2 rb (List.mem_of_getElem? hb) g5 g6 g7
       unfold eH
       rw [k1]
       simp only [gU]
       refine k3 _ ?_
       obtain ⟨R,k4,k5⟩:=je _ _ _ _ _ this
       exact k5 _ ⟨k4,trivial⟩
     | succ a =>
       simp only [List.getElem?_cons_succ] at ha
       exact s5 a b ra rb (by omega) ha hb (by rw [show i + 1 + a = i + (a + 1) by omega]; exact g1) g2 g3 g4 g5 g6 g7
   cases b with
   | false =>
     obtain ⟨rs,ef,Hf,g1,g2,g3,⟨g4,g5⟩,g6⟩:=mg (kM.1 (h4 rfl))
     exact ⟨⟨o,nb,false,e',.dA [],H,H⟩ :: rs,ef,Hf,by simp [g1],⟨rfl,h1,h2,(fun h=>by cases h),fun _=>⟨rfl,rfl⟩,g2⟩,g3,step (fun _ h=>h) (fun _ _ _ h=>by cases h) g4 (fun _ _ _ h=>by cases h) g5,.step (fun _ h=>h) (fun _ _ _ h=>by cases h) (fun _ _ h=>by cases h) g6⟩
   | true =>
     have h3:=h3 rfl
     cases nb with
     | true =>
       obtain ⟨A,h5,h6⟩:=Io _ h3
       obtain ⟨rs,ef,Hf,g1,g2,g3,⟨g4,g5⟩,g6⟩:=mg (kM.1 h5)
       exact ⟨⟨o,true,true,e',A,H,H⟩ :: rs,ef,Hf,by simp [g1],⟨rfl,h1,h2,(fun _=>.inl ⟨rfl,rfl,h6⟩),(fun h=>by cases h),g2⟩,g3,step (fun _ h=>h) (fun _ _ h=>by cases h) g4 (fun _ _ h=>by cases h) g5,.step (fun _ h=>h) (fun _ _ h=>by cases h) (fun h=>by cases h) g6⟩
     | false =>
       obtain ⟨hn,h3⟩:=nJ.1 h3
       rcases Ip hn _ _ h3 with ⟨A,H',h5,h6⟩ | ⟨H',h5,h6⟩
       ·obtain ⟨c1,h5⟩:=tC.1 h5
        have ZY : (pJ gl i = true -> bD o.op = true -> ∀ G ∈ hs,eH F L ⟨o,false,true,e',A,H,H'⟩ G) /\ U9 fl i o.op e' A pl fun AQ=>qO o.dst A e' fun e'=>ny F L ops fl gl (i + 1) l AQ (match bD o.op with | true=>hs | false=>H :: hs) e' H' k:=by
         unfold addG at h5
         split at h5
         ·rename_i t x _ ho
          obtain ⟨B,h7,h8⟩:=aW _ _ _ h5
          obtain ⟨h9,h7⟩:=KG.1 h7
          refine ⟨fun _ _ G hG=>?_,h7⟩
          unfold eH
          dsimp only
          rw [ho]
          simp only [gU]
          refine h8 _ ?_
          obtain ⟨R,k4,k5⟩:=je _ _ _ _ _ (h9 G hG)
          exact k5 _ ⟨k4,trivial⟩
         ·rename_i hne
          refine ⟨fun hm hl=>?_,h5⟩
          cases ho : o.op with
          | load t x=>exact (hne t x hm ho).elim
          | _=>simp [ho,bD] at hl
        obtain ⟨hgG,h5⟩:=ZY
        have hadd : ∃ AQ,(∀ p ∈ pl,p ∈ AQ) /\ (pJ fl i = true -> bD o.op = true -> ∃ t x B,o.op = .load t x /\ (t,B,A) ∈ AQ /\ ∀ K : AV -> Prop,K B -> bP e' x K) /\ qO o.dst A e' fun e'=>ny F L ops fl gl (i + 1) l AQ (match bD o.op with | true=>hs | false=>H :: hs) e' H' k:=by
         unfold U9 at h5
         split at h5
         ·rename_i t x _ ho
          obtain ⟨B,h7,h8⟩:=aW _ _ _ h5
          exact ⟨_,fun p hp=>List.mem_cons_of_mem _ hp,fun _ _=>⟨t,x,B,ho,List.mem_cons_self,h8⟩,h7⟩
         ·rename_i hne
          refine ⟨pl,fun _ h=>h,fun hm hl=>?_,h5⟩
          cases ho : o.op with
          | load t x=>exact (hne t x hm ho).elim
          | _=>simp [ho,bD] at hl
        obtain ⟨AQ,p1,p2,h5⟩:=hadd
        obtain ⟨rs,ef,Hf,g1,g2,g3,⟨g4,g5⟩,g6⟩:=mg (kM.1 h5)
        refine ⟨⟨o,false,true,e',A,H,H'⟩ :: rs,ef,Hf,by simp [g1],⟨rfl,h1,h2,(fun _=>.inr (.inl ⟨rfl,h6⟩)),(fun h=>by cases h),g2⟩,g3,step p1 (fun p hp _ _ hv=>?_) g4 (fun hm hl _ _=>p2 hm hl) g5,.step (fun G hG=>?_) (fun hm hl _ _=>hgG hm hl) (fun _ hl _=>?_) g6⟩
        ·dsimp only at hv
         rw [hv] at c1
         exact c1 p hp
        ·cases bD o.op with
         | true=>exact hG
         | false=>exact List.mem_cons_of_mem _ hG
        ·dsimp only at hl
         rw [hl]; exact List.mem_cons_self
       ·cases hd : o.dst with
        | some d=>simp only [hd] at h5
        | none =>
          simp only [hd] at h5
          obtain ⟨c1,h5⟩:=tC.1 h5
          obtain ⟨rs,ef,Hf,g1,g2,g3,⟨g4,g5⟩,g6⟩:=mg h5
          have ZO : ∀ t x,o.op ≠ .load t x:=by
           intro t x ho
           rw [ho] at h6
           have:=h6 (fun _ _=>False) (fun _=>True) trivial
           simp only [gU] at this
           obtain ⟨A,q1,_⟩:=aW _ _ _ this
           obtain ⟨R,q2,_⟩:=je _ _ _ _ _ q1
           exact q2
          refine ⟨⟨o,false,true,e',.und,H,H'⟩ :: rs,ef,Hf,by simp [g1],⟨rfl,h1,h2,(fun _=>.inr (.inr ⟨rfl,hd,h6⟩)),(fun h=>by cases h),?_⟩,g3,step (fun _ h=>h) (fun p hp _ _ hv=>by dsimp only at hv; rw [hv] at c1; exact c1 p hp) g4 (fun _ h=>?_) g5,.step (fun G hG=>List.mem_cons_of_mem _ hG) (fun _ h=>?_) (fun _ _ _=>List.mem_cons_self) g6⟩
          ·simpa [sG,hd] using g2
          all_goals
           exfalso
           cases ho : o.op with
           | load t x=>exact ZO t x ho
           | _=>simp [ho,bD] at h

theorem QG {ops : List Oper} {mask : List Bool} {fl : List Nat} {rs : List Rec} (h : Nk ops mask fl = true) (hm : rs.map (fun r=>(r.o,r.nb)) = ops.zip mask) :
  iH (fun i j=>∃ ri rj,i < j /\ rs[i]? = some ri /\ rs[j]? = some rj /\ Kq ops fl ((ri.o,ri.nb),i) ((rj.o,rj.nb),j) = true) ops rs:=by
 have hget : ∀ (j : Nat) (r : Rec),rs[j]? = some r -> (ops.zip mask)[j]? = some (r.o,r.nb):=by
  intro j r hr
  rw [<- hm,List.getElem?_map,hr]; rfl
 have h0:=h
 unfold Nk at h
 simp only [Bool.and_eq_true] at h
 obtain ⟨⟨⟨⟨h1,h2⟩,h3⟩,h5⟩,h4⟩:=h
 -- all but the clashes is as before
 have hlen:=Nat.eq_of_beq_eq_true h1
 refine ⟨?_,fun j r hr=>?_,fun j r hr hn=>?_,fun j o ho e he hb=>?_,fun i j ri rj hij hi hj hc=>?_,fun i j ri rj hx hi hj=>?_,fun j r hr hn hw=>?_,fun i j k ri rj rk d hij hjk hi hj hk hn hl hn' hw hd hm=>?_⟩
 ·have:=congrArg List.length hm
  simp at this; omega
 ·have:=hget j r hr
  rw [List.getElem?_zip_eq_some] at this
  exact this.1
 ·have:=List.all_eq_true.1 h2 _ (List.mem_of_getElem? (hget j r hr))
  simpa [hn] using this
 ·have:=bJ h3 ho
  have:=List.all_eq_true.1 this e he
  rw [hb] at this
  simpa using this
 ·have:=bJ h4 (hget j rj hj)
  have:=bJ this (hget i ri hi)
  have hlt : Nat.blt i j = true:=by simpa using hij
  simp only [hlt,hc,Bool.not_true,Bool.false_or,Bool.or_eq_true] at this
  exact this.imp id fun h=>⟨ri,rj,hij,hi,hj,h⟩
 ·obtain ⟨VI,rj',_,hi',hj',he⟩:=hx
  rw [hi] at hi'; obtain rfl:=Option.some.inj hi'
  rw [hj] at hj'; obtain rfl:=Option.some.inj hj'
  simp only [Kq,Bool.and_eq_true,Bool.not_eq_true'] at he
  obtain ⟨⟨⟨⟨⟨⟨e1,e2⟩,e3⟩,e4⟩,e5⟩,e6⟩,e7⟩:=he
  refine ⟨.inl ⟨e2,e3⟩,trivial,fun t ht hm=>?_,fun t ht hm=>?_⟩
  ·rw [ht] at e6; simp only [Bool.not_eq_true'] at e6
   have : (cu ops rj.o).contains t = true:=by simpa using hm
   rw [this] at e6; cases e6
  ·rw [ht] at e7; simp only [Bool.not_eq_true'] at e7
   have : (cu ops ri.o).contains t = true:=by simpa using hm
   rw [this] at e7; cases e7
 ·have:=bJ h5 (hget j r hr)
  simp only [hn,hw,Bool.not_false,Bool.and_self,Bool.not_true,Bool.false_or,Bool.and_eq_true] at this
  obtain ⟨g1,g2⟩:=this
  refine ⟨?_,?_⟩
  ·cases hg : r.o.guard with
   | none=>rfl
   | some g=>rw [hg] at g1; cases g1
  ·cases hd : r.o.dst with
   | none=>rw [hd] at g2; cases g2
   | some d=>exact ⟨d,rfl⟩
 ·have:=bJ h5 (hget j rj hj)
  simp only [hn',hw,Bool.not_false,Bool.and_self,Bool.not_true,Bool.false_or,Bool.and_eq_true,hd] at this
  have:=bJ this.2 (hget i ri hi)
  have hlt : Nat.blt i j = true:=by simpa using hij
  have hlt2 : Nat.blt j k = true:=by simpa using hjk
  simp only [hlt,hn,hl,Bool.not_true,Bool.false_or,Bool.or_eq_true] at this
  rcases this with this | this
  ·exact .inl this
  ·have:=bJ this (hget k rk hk)
   have hc : (cu ops rk.o).contains d = true:=by simpa using hm
   simp only [hlt2,hc,Bool.not_true,Bool.false_or] at this
   exact .inr this

theorem QI {ops : List Oper} {mask : List Bool} {fl gl : List Nat} {rs : List Rec} (h : Nl ops mask fl gl = true) (hm : rs.map (fun r=>(r.o,r.nb)) = ops.zip mask) :
  iH (fun i j=>∃ ri rj,i < j /\ rs[i]? = some ri /\ rs[j]? = some rj /\ (Kq ops fl ((ri.o,ri.nb),i) ((rj.o,rj.nb),j) = true \/ Wy ops gl ((ri.o,ri.nb),i) ((rj.o,rj.nb),j) = true)) ops rs:=by
 have hget : ∀ (j : Nat) (r : Rec),rs[j]? = some r -> (ops.zip mask)[j]? = some (r.o,r.nb):=by
  intro j r hr
  rw [<- hm,List.getElem?_map,hr]; rfl
 have h0:=h
 unfold Nl at h
 simp only [Bool.and_eq_true] at h
 obtain ⟨⟨⟨⟨h1,h2⟩,h3⟩,h5⟩,h4⟩:=h
 -- all but the clashes is as before
 have hlen:=Nat.eq_of_beq_eq_true h1
 refine ⟨?_,fun j r hr=>?_,fun j r hr hn=>?_,fun j o ho e he hb=>?_,fun i j ri rj hij hi hj hc=>?_,fun i j ri rj hx hi hj=>?_,fun j r hr hn hw=>?_,fun i j k ri rj rk d hij hjk hi hj hk hn hl hn' hw hd hm=>?_⟩
 ·have:=congrArg List.length hm
  simp at this; omega
 ·have:=hget j r hr
  rw [List.getElem?_zip_eq_some] at this
  exact this.1
 ·have:=List.all_eq_true.1 h2 _ (List.mem_of_getElem? (hget j r hr))
  simpa [hn] using this
 ·have:=bJ h3 ho
  have:=List.all_eq_true.1 this e he
  rw [hb] at this
  simpa using this
 ·have:=bJ h4 (hget j rj hj)
  have:=bJ this (hget i ri hi)
  have hlt : Nat.blt i j = true:=by simpa using hij
  simp only [hlt,hc,Bool.not_true,Bool.false_or,Bool.or_eq_true] at this
  rcases this with (this | this) | this
  ·exact .inl this
  ·exact .inr ⟨ri,rj,hij,hi,hj,.inl this⟩
  ·exact .inr ⟨ri,rj,hij,hi,hj,.inr this⟩
 ·obtain ⟨VI,rj',_,hi',hj',he⟩:=hx
  rw [hi] at hi'; obtain rfl:=Option.some.inj hi'
  rw [hj] at hj'; obtain rfl:=Option.some.inj hj'
  rcases he with he | he
  ·simp only [Kq,Bool.and_eq_true,Bool.not_eq_true'] at he
   obtain ⟨⟨⟨⟨⟨⟨e1,e2⟩,e3⟩,e4⟩,e5⟩,e6⟩,e7⟩:=he
   refine ⟨.inl ⟨e2,e3⟩,trivial,fun t ht hm=>?_,fun t ht hm=>?_⟩
   ·rw [ht] at e6; simp only [Bool.not_eq_true'] at e6
    have : (cu ops rj.o).contains t = true:=by simpa using hm
    rw [this] at e6; cases e6
   ·rw [ht] at e7; simp only [Bool.not_eq_true'] at e7
    have : (cu ops ri.o).contains t = true:=by simpa using hm
    rw [this] at e7; cases e7
  ·simp only [Wy,Bool.and_eq_true,Bool.not_eq_true'] at he
   obtain ⟨⟨⟨⟨⟨⟨⟨e1,e2⟩,e3⟩,e4⟩,e5⟩,e0⟩,e6⟩,e7⟩:=he
   refine ⟨.inr ⟨⟨e4,e5⟩,e2,e3,e0⟩,trivial,fun t ht hm=>?_,fun t ht hm=>?_⟩
   ·rw [ht] at e6; simp only [Bool.not_eq_true'] at e6
    have : (cu ops rj.o).contains t = true:=by simpa using hm
    rw [this] at e6; cases e6
   ·rw [ht] at e7; simp only [Bool.not_eq_true'] at e7
    have : (cu ops ri.o).contains t = true:=by simpa using hm
    rw [this] at e7; cases e7
 ·have:=bJ h5 (hget j r hr)
  simp only [hn,hw,Bool.not_false,Bool.and_self,Bool.not_true,Bool.false_or,Bool.and_eq_true] at this
  obtain ⟨g1,g2⟩:=this
  refine ⟨?_,?_⟩
  ·cases hg : r.o.guard with
   | none=>rfl
   | some g=>rw [hg] at g1; cases g1
  ·cases hd : r.o.dst with
   | none=>rw [hd] at g2; cases g2
   | some d=>exact ⟨d,rfl⟩
 ·have:=bJ h5 (hget j rj hj)
  simp only [hn',hw,Bool.not_false,Bool.and_self,Bool.not_true,Bool.false_or,Bool.and_eq_true,hd] at this
  have:=bJ this.2 (hget i ri hi)
  have hlt : Nat.blt i j = true:=by simpa using hij
  have hlt2 : Nat.blt j k = true:=by simpa using hjk
  simp only [hlt,hn,hl,Bool.not_true,Bool.false_or,Bool.or_eq_true] at this
  rcases this with this | this
  ·exact .inl this
  ·have:=bJ this (hget k rk hk)
   have hc : (cu ops rk.o).contains d = true:=by simpa using hm
   simp only [hlt2,hc,Bool.not_true,Bool.false_or] at this
   exact .inr this

end Go.AL

namespace Go.AL

def AX.Zc : AX -> Exit
 | .normal=>.normal
 | .exit i=>.exit i
 | .ret=>.ret

def jO (n : Nat) : Code -> Bool
 | .skip=>true
 | .region _ ops _=>ops.toList.all (sJ n)
 | .seq a b=>jO n a && jO n b
 | .cond c a b=>bf c && jO n a && jO n b
 | .block _ b=>jO n b
 | .loop b=>jO n b
 | .exit _=>true
 | .ret=>true
 | .label _=>true
 | _=>false

def Post (n : Nat) (ws : List Nat) (c0 : Cx) (H0 : Heap) (a0 : Act) (Q : AX -> Env -> Heap -> Prop) : Exit -> Act -> World -> Prop :=
 fun ex a w=>∃ x e H c,ex = AX.Zc x /\ Q x e H /\ c.w = w /\ Tr c0 H0 c H /\ nN n c e a /\ Fr ws a0 a

def fZ (P : Program) (Q : Exit -> Act -> World -> Prop) (c : Code) (a : Act) (w : World) : Prop :=
 ∀ b k cs,∃ e a' w',Q e a' w' /\ Arrives P (lone (b.at a (.code c :: .inLoop c :: k)) cs w) b k cs e a' w'

theorem fZ.mono {P : Program} {Q Q' : Exit -> Act -> World -> Prop} {c : Code} {a : Act} {w : World} (h : fZ P Q c a w) (hq : ∀ e a w,Q e a w -> Q' e a w) : fZ P Q' c a w:=by
 intro b k cs
 obtain ⟨e,a',w',h1,h2⟩:=h b k cs
 exact ⟨e,a',w',hq _ _ _ h1,h2⟩

theorem fZ.wp {P : Program} {Q : Exit -> Act -> World -> Prop} {c : Code} {a : Act} {w : World} (h : fZ P Q c a w) : (Code.loop c).wp P Q a w:=by
 intro b k cs
 obtain ⟨e,a',w',hq,harr⟩:=h b k cs
 exact ⟨e,a',w',hq,.of_steps (.one step_loop) harr⟩

theorem fZ.L6 {P : Program} {Q : Exit -> Act -> World -> Prop} {c : Code} {a : Act} {w : World} (h : c.wp P (Exit.then (fun a' w'=>fZ P Q c a' w') Q) a w) : fZ P Q c a w:=by
 intro b k cs
 obtain ⟨e,a₁,w₁,hq,harr⟩:=h b (.inLoop c :: k) cs
 cases e with
 | normal =>
   obtain ⟨e₂,a₂,w₂,hq₂,harr₂⟩:=hq b k cs
   exact ⟨e₂,a₂,w₂,hq₂,.of_steps (Steps.trans harr (.one step_inLoop)) harr₂⟩
 | exit id=>exact ⟨_,a₁,w₁,hq,.pass (x:=.inLoop c) rfl (fun _ _=>.inl (by simp)) harr⟩
 | goto l=>exact ⟨_,a₁,w₁,hq,.pass (x:=.inLoop c) rfl (fun _ _=>.inl (by simp)) harr⟩
 | ret=>exact ⟨_,a₁,w₁,hq,.pass (x:=.inLoop c) rfl (fun _ _=>.inl (by simp)) harr⟩
 | panic ch=>exact ⟨_,a₁,w₁,hq,.pass (x:=.inLoop c) rfl (fun _ _=>.inl (by simp)) harr⟩
 | outgrown=>exact ⟨_,a₁,w₁,hq,.pass (x:=.inLoop c) rfl (fun _ _=>.inl (by simp)) harr⟩

theorem fZ.ghost {P : Program} {Q : Exit -> Act -> World -> Prop} {c : Code} (I : Nat -> Act -> World -> Prop)
  (round : ∀ n a w,I n a w -> c.wp P (Exit.then (fun a' w'=>∃ m,m < n /\ I m a' w') Q) a w) : ∀ (n : Nat) (a : Act) (w : World),I n a w -> fZ P Q c a w:=by
 intro n
 induction n using Nat.strongRecOn with
 | _ n ih =>
   intro a w hI
   refine .L6 (wp_mono (round n a w hI) ?_)
   intro e a' w' h
   cases e with
   | normal=>obtain ⟨m,h1,h2⟩:=h; exact ih m h1 a' w' h2
   | _=>exact h

section
variable {P : Program} {L : Lay} {F : FT}

theorem Tr.TJ {c : Cx} {H : Heap} {j len cp sz : Nat} {l : List AV} (hr : HR c H) (ho : hget H j = some (.arr sz cp l)) (hl : len <= l.length) :
  ∃ d,d.w = c.w /\ Tr c H d ((nextId H,.tok sz len) :: hset H j .gone) /\ (len <= cp -> cp <= maxL -> VV d (.sl sz (l.take len) (.own (nextId H))) (.slice (some ⟨c.ρ j,0,none⟩) len cp)):=by
 obtain ⟨cs,ty,g1,g2,g3,g4,g5,g6⟩:=hr.oK ho
 obtain ⟨a',d',rfl,g7⟩:=kC g5
 have hjm:=gW ho
 have hjs : c.ρ j < c.w.heap.size:=(Array.getElem?_eq_some_iff.1 g1).1
 let d : Cx:={ c with Im:=fun b o=>c.Im b o \/ (b = c.ρ j /\ o < len * sz),nx:=c.nx + 1,tk:=fun k=>if k = c.nx then (some ⟨c.ρ j,0,none⟩,cp) else c.tk k,tp:=dw ((nextId H,.tok sz len) :: hset H j .gone) }
 have hlt : ∀ x ∈ H,x.1 < c.nx:=fun x hx=>by rw [hr.nx]; exact bF hr.ids x hx
 have hjl : j < c.nx:=hlt _ hjm
 have htk : d.tk (nextId H) = (some ⟨c.ρ j,0,none⟩,cp):=by simp [d,hr.nx]
 have E8:=nX (k:=j) (o':=.gone) hr.ids
 have le : c.Le d:=by
  refine ⟨fun b o h=>⟨.inl h,rfl⟩,Nat.le_succ _,fun _ _=>rfl,fun k n hk hn=>.inl ⟨?_,?_⟩⟩
  ·have hne : nextId H ≠ k:=by rw [<- hr.nx]; omega
   simp only [d] at hn
   rw [jG hne,iP ho (by intros; simp) (by intros; simp)] at hn
   rw [hr.tp]; exact hn
  ·simp only [d]; rw [if_neg (by omega)]
 have hbk : ∀ x ∈ H,aB d x = aB c x:=fun x hx=>jD rfl (by have:=hlt x hx; simp only [d]; rw [if_neg (by omega)])
 have hbn : ∀ b,aB d (nextId H,.tok sz len) = some b -> b = c.ρ j:=by
  intro b hb
  simp only [aB,htk] at hb
  split at hb
  ·cases hb
  ·simpa using hb.symm
 have hbj : aB c (j,.arr sz cp l) = some (c.ρ j):=rfl
 have hne : ∀ x ∈ H,x.1 ≠ j -> ∀ b,aB c x = some b -> b ≠ c.ρ j:=fun x hx hn b hb e=>hr.apart' hx hjm hn hb (by rw [e]; exact hbj)
 refine ⟨d,rfl,⟨⟨?_,rfl,⟨fun x hx=>?_,E8⟩,?_,?_,?_⟩,le,rfl,rfl,rfl,Nat.le_refl _,fun _ _ _=>rfl,?_,?_⟩,?_⟩
 ·simp only [d,nextId,hr.nx]
 ·have:=bF E8 x hx
  rw [sO] at this; exact this
 ·rintro b o (h | ⟨rfl,_⟩)
  ·exact hr.im b o h
  ·exact hjs
 ·intro x hx
  rcases List.mem_cons.1 hx with rfl | hx
  ·show (HO.tok sz len).Ok d (nextId H)
   simp only [HO.Ok,htk]
   refine .inr ⟨c.ρ j,_,ty,rfl,g1,by simpa using g2,by omega,g4,?_⟩
   rintro o h1 (h | ⟨_,h⟩)
   ·exact g6 o h
   ·omega
  ·rcases iC hr.ids hx with rfl | ⟨hx,hn⟩
   ·trivial
   ·refine mF le (hlt x hx) ?_ (fun b hb=>⟨rfl,fun y hy=>?_⟩) (hr.ok x hx)
    ·have:=hlt x hx; simp only [d]; rw [if_neg (by omega)]
    ·rcases hy with hy | ⟨e,_⟩
     ·exact hy
     ·exact absurd e (hne x hx hn b hb)
 ·rw [List.pairwise_cons]
  constructor
  ·intro y hy b hb hb'
   obtain rfl:=hbn b hb
   rcases iC hr.ids hy with rfl | ⟨hy,hn⟩
   ·simp [aB] at hb'
   ·rw [hbk y hy] at hb'
    exact hne y hy hn _ hb' rfl
  ·refine eP E8 fun x hx y hy hn b hb hb'=>?_
   rcases iC hr.ids hx with rfl | ⟨hx,_⟩
   ·simp [aB] at hb
   ·rcases iC hr.ids hy with rfl | ⟨hy,_⟩
    ·simp [aB] at hb'
    ·rw [hbk x hx] at hb; rw [hbk y hy] at hb'
     exact hr.apart' hx hy hn hb hb'
 ·intro y hy b hb
  rcases List.mem_cons.1 hy with rfl | hy
  ·obtain rfl:=hbn b hb
   exact .inr ⟨_,hjm,hbj⟩
  ·rcases iC hr.ids hy with rfl | ⟨hy,_⟩
   ·simp [aB] at hb
   ·rw [hbk y hy] at hb; exact .inr ⟨y,hy,hb⟩
 ·rintro b o (h | ⟨rfl,_⟩)
  ·exact .inl h
  ·exact .inr (.inr ⟨_,hjm,hbj⟩)
 ·intro h1 h2
  refine dJ rfl rfl ?_
  simp only [VR]
  have hlen : (l.take len).length = len:=by simp; omega
  have hf:=uj len (fB le.im g7)
  have hal:=dK g7
  refine ⟨by simp only [d]; rw [hr.nx]; omega,?_,fun n hn=>?_⟩
  ·simp only [Rd]
   refine ⟨by rw [hlen]; omega,.inr ⟨⟨c.ρ j,0,none⟩,cp,by rw [hlen],by rw [hlen]; exact h1,h2,fun _=>rfl,?_⟩⟩
   refine jF hf fun x v hx=>⟨?_,.inr ⟨rfl,?_⟩⟩
   ·rw [List.getElem?_take] at hx
    split at hx
    ·show c.w.cell? _ = _
     rw [cell_of_heap g1]
     have : x < a'.length:=(List.getElem?_eq_some_iff.1 hx).1
     simp [List.getElem?_append_left this,hx]
    ·simp at hx
   ·rw [List.getElem?_take] at hx
    split at hx
    ·simpa using ‹_›
    ·simp at hx
  ·have hn : dw ((nextId H,.tok sz len) :: hset H j .gone) (nextId H) = some n:=hn
   rw [qI] at hn
   obtain rfl:=Option.some.inj hn
   rw [hlen,htk]
   exact ⟨Nat.le_refl _,fun _=>rfl⟩

theorem qF {e e' : Env} {H H' : Heap} (h : Cv e H e' H') : ∀ {n : Nat} {c : Cx} {a : Act},HR c H -> nN n c e a -> ∃ d,d.w = c.w /\ Tr c H d H' /\ nN n d e' a:=by
 induction h with
 | refl e H=>intro n c a hr ha; exact ⟨c,rfl,.refl hr,ha⟩
 | grow t sz l A he hA h' ih =>
   intro n c a hr ha
   have hv:=ha.env t A he
   obtain ⟨base,e1,hR⟩ : ∃ base,a.tmps.getD t undef = .slice base l.length l.length /\ Rd c.w c.Im (.sl sz l .no) [.slice base l.length l.length]:=by
    rcases hA with ⟨rfl,rfl⟩ | rfl
    ·exact uG hv
    ·exact uM hv
   obtain ⟨d,hw,htr,hV⟩:=Tr.yR hr hR
   have ha':=ha.mono htr.le
   refine (fun lX=>by
    obtain ⟨d',h1,h2,h3⟩:=ih htr.hr lX
    exact ⟨d',h1.trans hw,htr.trans h2,h3⟩) ?_
   ·refine ⟨fun t' B hB=>?_,ha.defers,ha.size⟩
    simp only [dL] at hB
    cases hb : Nat.beq t t' with
    | true =>
      rw [hb] at hB
      obtain rfl:=Nat.eq_of_beq_eq_true hb
      obtain rfl:=Option.some.inj hB
      rw [e1]; exact aS hV
    | false=>rw [hb] at hB; exact ha'.env _ _ hB
 | XU t sz he h' ih =>
   intro n c a hr ha
   obtain e1:=nC (ha.env t _ he)
   obtain ⟨d,hw,htr,hV⟩:=Tr.VK sz hr
   have ha':=ha.mono htr.le
   obtain ⟨d',h1,h2,h3⟩:=ih htr.hr (a:=a) (by
    refine ⟨fun t' B hB=>?_,ha.defers,ha.size⟩
    simp only [dL] at hB
    cases hb : Nat.beq t t' with
    | true =>
      rw [hb] at hB
      obtain rfl:=Nat.eq_of_beq_eq_true hb
      obtain rfl:=Option.some.inj hB
      rw [e1]; exact aS hV
    | false=>rw [hb] at hB; exact ha'.env _ _ hB)
   exact ⟨d',h1.trans hw,htr.trans h2,h3⟩
 | uO t j sz l he ho hl h' ih =>
   intro n c a hr ha
   obtain ⟨d,hw,htr,hV⟩:=Tr.uO hr ho hl (ha.env t _ he)
   have ha':=ha.mono htr.le
   obtain ⟨d',h1,h2,h3⟩:=ih htr.hr (a:=a) (by
    refine ⟨fun t' B hB=>?_,ha.defers,ha.size⟩
    simp only [dL] at hB
    cases hb : Nat.beq t t' with
    | true =>
      rw [hb] at hB
      obtain rfl:=Nat.eq_of_beq_eq_true hb
      obtain rfl:=Option.some.inj hB
      exact aS hV
    | false=>rw [hb] at hB; exact ha'.env _ _ hB)
   exact ⟨d',h1.trans hw,htr.trans h2,h3⟩
 | @Ub e H e' H' j p sz l A B A' ho hp hB hs h' ih =>
   intro n c a hr ha
   obtain ⟨B0,hp0,rfl⟩:=kJ.1 hp
   clear hp
   have hp:=hp0
   obtain ⟨cs,ty,h1,h2,h3⟩:=hr.oK ho
   obtain ⟨pre,xs,post,rfl,h4,h5⟩:=BJ h2 hp
   have hag : dn B0 = false:=by rcases hB with ⟨rfl,rfl⟩ | rfl <;> rfl
   obtain ⟨v,rfl,_⟩:=mD h5 hag
   have hv : VV c B0 v:=yG h5 hag
   obtain ⟨base,e1,hR⟩ : ∃ base,v = .slice base l.length l.length /\ Rd c.w c.Im (.sl sz l .no) [.slice base l.length l.length]:=by
    rcases hB with ⟨rfl,rfl⟩ | rfl
    ·exact uG hv
    ·exact uM hv
   obtain ⟨d,hw,htr,hV⟩:=Tr.yR hr hR
   rw [<- e1] at hV
   have hjl : j < nextId H:=bF hr.ids _ (gW ho)
   have ho' : hget ((nextId H,.tok sz l.length) :: H) j = some (.box A):=by
    have : Nat.beq (nextId H) j = false:=by
     cases hb : Nat.beq (nextId H) j with
     | false=>rfl
     | true=>have:=Nat.eq_of_beq_eq_true hb; omega
    simp only [hget,this]; exact ho
   have hρ : d.ρ j = c.ρ j:=htr.le.ρ j (by rw [hr.nx]; exact hjl)
   obtain ⟨_,_,_,_,q3⟩:=htr.hr.oK ho'
   obtain ⟨A'',x1,pre',xs',post',g1,g2,g3,g4,g5,g6⟩:=oO (RD hV rfl) (nG htr.le _ _ h2) hs
   obtain rfl : B0 = x1:=by rw [hp] at g1; exact Option.some.inj g1
   have hxl : xs'.length = 1:=by
    obtain ⟨u,rfl,_⟩:=mD g4 hag; rfl
   obtain ⟨u,rfl⟩ : ∃ u,xs' = [u]:=by
    obtain ⟨u,rfl,_⟩:=mD g4 hag; exact ⟨u,rfl⟩
   have hpl : pre.length = pre'.length:=by rw [h4,g3]
   have hcs : pre' ++ [v] ++ post' = pre ++ [v] ++ post:=by
    rw [List.append_assoc,List.append_assoc] at g2
    obtain ⟨r1,r2⟩:=List.append_inj g2 hpl
    obtain ⟨r3,r4⟩:=List.append_inj r2 rfl
    rw [r1,r4]
   rw [hcs,g6] at g5
   have wo : Tr d ((nextId H,.tok sz l.length) :: H) d (hset ((nextId H,.tok sz l.length) :: H) j (.box A')):=by
    refine Tr.set htr.hr ho' (Cx.Le.refl _) rfl (by rw [iP ho' (by intros; simp) (by intros; simp)]; exact htr.hr.tp) (fun _ _=>rfl) rfl rfl rfl (Nat.le_refl _) (fun _ _ _=>rfl) (fun _ _ h=>.inl h) ?_ ?_
    ·intro b hb; exact .inr hb
    ·exact ⟨_,ty,by rw [hw,hρ]; exact h1,g5,q3⟩
   have ha':=ha.mono htr.le
   obtain ⟨d',k1,k2,k3⟩:=ih wo.hr ha'
   exact ⟨d',k1.trans hw,(htr.trans wo).trans k2,k3⟩
 | @freeze e H e' H' t j off len cap cp sz l he ho hl h' ih =>
   intro n c a hr ha
   obtain ⟨hj,e1,hlc,hcm⟩:=vK (ha.env t _ he)
   obtain ⟨cs,ty,g1,g2,g3,g4,g5,g6⟩:=hr.oK ho
   obtain ⟨a',d',rfl,g7⟩:=kC g5
   let d : Cx:={ c with Im:=fun b o=>c.Im b o \/ b = c.ρ j }
   have le : c.Le d:=⟨fun b o h=>⟨.inl h,rfl⟩,Nat.le_refl _,fun _ _=>rfl,fun _ _ _ h=>.inl ⟨h,rfl⟩⟩
   have htr : Tr c H d (hset H j .gone):=by
    refine Tr.set hr ho le rfl (by rw [iP ho (by intros; simp) (by intros; simp)]; exact hr.tp) (fun _ _=>rfl) rfl rfl rfl (Nat.le_refl _) (fun _ _ _=>rfl) ?_ ?_ trivial
    ·rintro b x (h | h)
     ·exact .inl h
     ·exact .inr (.inr (by simp [aB,h]))
    ·intro b h; simp [aB] at h
   have hlen : ((l.drop off).take len).length = len:=by simp; omega
   have hf:=uj len (EI off (fB le.im g7) (by omega))
   have hal:=dK g7
   have hV : VV d (.sl sz ((l.drop off).take len) .no) (a.tmps.getD t undef):=by
    rw [e1]
    refine dJ rfl rfl ?_
    simp only [VR,Rd]
    refine ⟨by rw [hlen]; omega,.inr ⟨⟨c.ρ j,off * sz,none⟩,cap,by rw [hlen],by rw [hlen]; exact hlc,hcm,fun _=>rfl,?_⟩⟩
    refine jF hf fun x v hx=>⟨?_,.inr rfl⟩
    rw [List.getElem?_take] at hx
    split at hx
    ·rw [List.getElem?_drop] at hx
     show c.w.cell? _ = _
     rw [cell_of_heap g1]
     have : off * sz + x < a'.length:=(List.getElem?_eq_some_iff.1 hx).1
     simp [List.getElem?_append_left this,hx]
    ·simp at hx
   have ha':=ha.mono le
   refine (fun lX=>by
    obtain ⟨d',h1,h2,h3⟩:=ih htr.hr lX
    exact ⟨d',h1,htr.trans h2,h3⟩) ?_
   refine ⟨fun t' B hB=>?_,ha.defers,ha.size⟩
   simp only [dL] at hB
   cases hb : Nat.beq t t' with
   | true =>
     rw [hb] at hB
     obtain rfl:=Nat.eq_of_beq_eq_true hb
     obtain rfl:=Option.some.inj hB
     exact aS hV
   | false=>rw [hb] at hB; exact ha'.env _ _ hB
 | @keep e H e' H' t j len cp sz l he ho hl h' ih =>
   intro n c a hr ha
   obtain ⟨hj,e1,hlc,hcm⟩:=vK (ha.env t _ he)
   obtain ⟨d,hw,htr,hV⟩:=Tr.TJ hr ho hl
   have hV:=hV hlc hcm
   have e1 : a.tmps.getD t undef = .slice (some ⟨c.ρ j,0,none⟩) len cp:=by rw [e1]; simp
   have ha':=ha.mono htr.le
   refine (fun lX=>by
    obtain ⟨d',h1,h2,h3⟩:=ih htr.hr lX
    exact ⟨d',h1.trans hw,htr.trans h2,h3⟩) ?_
   refine ⟨fun t' B hB=>?_,ha.defers,ha.size⟩
   simp only [dL] at hB
   cases hb : Nat.beq t t' with
   | true =>
     rw [hb] at hB
     obtain rfl:=Nat.eq_of_beq_eq_true hb
     obtain rfl:=Option.some.inj hB
     rw [e1]; exact aS hV
   | false=>rw [hb] at hB; exact ha'.env _ _ hB

theorem Ah {E K : Env} {t : Nat} {A : AV} (h : dL (E ++ K) t = some A) : (t,A) ∈ E \/ (t,A) ∈ K:=by
 have:=Dt h
 simpa using this

theorem KX {c : Cx} {A : AV} {v : Value} {kt kf : Prop} (hA : EV c A v) (h : br A kt kf) : ∃ b,v = .bool b /\ (b = true -> kt) /\ (b = false -> kf):=by
 unfold br at h
 split at h
 ·exact ⟨true,tY hA,fun _=>h,fun h=>by cases h⟩
 ·exact ⟨false,tZ hA,(fun h=>by cases h),fun _=>h⟩
 ·exact ⟨_,fO hA,h⟩
 ·obtain ⟨b,h4,h5⟩:=ku hA
  exact ⟨b,h4,fun hb=>h.1 (h5.1 hb),fun hb=>h.2 (fun hp=>by rw [h5.2 hp] at hb; cases hb)⟩
 ·exact h.elim

theorem vI {n : Nat} : cnt (Array.replicate n false) = n:=by
 unfold cnt
 rw [Array.toList_replicate,List.countP_replicate]
 simp

theorem Uf (hL : bZ P L) (hm : P.follows .mixedOrders = true) (hFn : FS P F) {n i : Nat} {ops : Array Oper} {e : Env} {H : Heap} {c : Cx} {a : Act} {k : Env -> Heap -> Prop}
  {Q : Exit -> Act -> World -> Prop} (hl : ops.toList.all (sJ n) = true) (hr : HR c H) (ha : nN n c e a) (hB : U5 ops.toList = true) (h : Em F L ops.toList ops.toList.length [] e H k)
  (hq : ∀ e' H' c' a',k e' H' -> Tr c H c' H' -> nN n c' e' a' -> Fr (dW ops.toList) a a' -> Q .normal a' c'.w) : (Code.region i ops true).wp P Q a c.w:=by
 have htr:=Tr.drew hr
 have hle : c.Le { c with w:=c.w.drew }:=htr.le
 refine wp_region_any hm ?_
 have hnl : ∀ j,¬ aF (Array.replicate ops.size false) j:=by
  intro j
  unfold aF
  rw [Array.getD_eq_getD_getElem?]
  by_cases hj : j < ops.size
  ·simp [hj]
  ·simp [hj]
 have hlen : ops.toList.length = ops.size:=by simp
 rw [hlen] at h
 exact Lm (c0:=c) (H0:=H) (a0:=a) hL hFn hl hB hq ops.size [] _ e H { c with w:=c.w.drew } a (by simp) (fun j=>⟨fun h=>absurd h (hnl j),fun h=>by simp at h⟩) vI htr (ha.mono hle) (Fr.refl _ _) h

theorem zq (hL : bZ P L) (hm : P.follows .mixedOrders = true) (hFn : FS P F) {n i : Nat} {ops : Array Oper} {e : Env} {H : Heap} {c : Cx} {a : Act} {k : Env -> Heap -> Prop}
  {Q : Exit -> Act -> World -> Prop} (hl : ops.toList.all (sJ n) = true) (hr : HR c H) (ha : nN n c e a) {X : Nat -> Nat -> Prop} {rs : List Rec} {ef : Env} {Hf : Heap} (hd : iH X ops.toList rs)
  (hX : ∀ (i j : Nat) (ri rj : Rec),X i j -> rs[i]? = some ri -> rs[j]? = some rj -> ri.ran = true -> rj.ran = true -> (bD ri.o.op = true -> eH F L ri rj.H') /\ (eff ri = true -> eH F L rj ri.H)) (h2 : mX F L ops.toList rs e H ef Hf) (h3 : k ef Hf)
  (hq : ∀ e' H' c' a',k e' H' -> Tr c H c' H' -> nN n c' e' a' -> Fr (dW ops.toList) a a' -> Q .normal a' c'.w) : (Code.region i ops true).wp P Q a c.w:=by
 have htr:=Tr.drew hr
 have hle : c.Le { c with w:=c.w.drew }:=htr.le
 refine wp_region_any hm ?_
 have hnl : ∀ j,¬ aF (Array.replicate ops.size false) j:=by
  intro j
  unfold aF
  rw [Array.getD_eq_getD_getElem?]
  by_cases hj : j < ops.size
  ·simp [hj]
  ·simp [hj]
 refine Ue (c0:=c) hL hFn hd hX h2 hl (fun a' c' g1 g2 g3=>hq ef Hf c' a' h3 g1 g2 g3) ops.size (Array.replicate ops.size false) 0 a { c with w:=c.w.drew } (fun _=>0) ?_ (fun j r _ _ _ hj=>absurd hj (hnl j)) (by rw [vI]; exact Nat.le_refl _)
 refine ⟨by simp,fun j o hj=>absurd hj (hnl j),Nat.zero_le _,fun j r hj=>by omega,fun j r _ _ _ hj=>absurd hj (hnl j),fun i j ri rj _ _ _ _ _ _ hj=>absurd hj (hnl i),?_,fun t A _ hA=>iM hle (ha.env t A hA),fun t j r hj=>absurd hj (hnl j),ha.defers,ha.size,Fr.refl _ _⟩
 rw [Xy]; exact htr

theorem Gm (hL : bZ P L) (hm : P.follows .mixedOrders = true) (hFn : FS P F) {n i : Nat} {ops : Array Oper} {e : Env} {H : Heap} {c : Cx} {a : Act} {k : Env -> Heap -> Prop}
  {Q : Exit -> Act -> World -> Prop} (hl : ops.toList.all (sJ n) = true) (hr : HR c H) (ha : nN n c e a) {mask : List Bool} (hB : Gn ops.toList mask = true) (hrun : pU F L ops.toList (ops.toList.zip mask) e H k)
  (hq : ∀ e' H' c' a',k e' H' -> Tr c H c' H' -> nN n c' e' a' -> Fr (dW ops.toList) a a' -> Q .normal a' c'.w) : (Code.region i ops true).wp P Q a c.w:=by
 obtain ⟨rs,ef,Hf,h1,h2,h3⟩:=oC hrun
 exact zq hL hm hFn hl hr ha (Ug hB h1) (fun _ _ _ _ h=>h.elim) h2 h3 hq

theorem Nj (hL : bZ P L) (hm : P.follows .mixedOrders = true) (hFn : FS P F) {n i : Nat} {ops : Array Oper} {e : Env} {H : Heap} {c : Cx} {a : Act} {k : Env -> Heap -> Prop}
  {Q : Exit -> Act -> World -> Prop} (hl : ops.toList.all (sJ n) = true) (hr : HR c H) (ha : nN n c e a) (h : aY F L ops.toList e H k)
  (hq : ∀ e' H' c' a',k e' H' -> Tr c H c' H' -> nN n c' e' a' -> Fr (dW ops.toList) a a' -> Q .normal a' c'.w) : (Code.region i ops true).wp P Q a c.w:=by
 rcases h with ⟨mask,hB,hrun⟩ | ⟨hB,hall⟩ | ⟨fl,mask,hB,hrun⟩ | ⟨fl,gl,mask,hB,hrun⟩ | ⟨js,hj⟩
 case all=>exact Uf hL hm hFn hl hr ha hB hall hq
 case late =>
  obtain ⟨rs,ef,Hf,h1,h2,h3,_,h4⟩:=l9 hrun
  refine zq hL hm hFn hl hr ha (QG hB h1) ?_ h2 h3 hq
  rintro i j ri rj ⟨VI,rj',hij,hi',hj',he⟩ hi hj hri zl
  rw [hi] at hi'; obtain rfl:=Option.some.inj hi'
  rw [hj] at hj'; obtain rfl:=Option.some.inj hj'
  simp only [Kq,Bool.and_eq_true,Bool.not_eq_true'] at he
  obtain ⟨⟨⟨⟨⟨⟨e1,e2⟩,e3⟩,e4⟩,e5⟩,_⟩,_⟩:=he
  exact ⟨fun _=>h4 i j ri rj hij hi hj (by rw [Nat.zero_add]; exact e1) e2 e3 hri e5 zl e4,fun he=>by simp [eff,e2] at he⟩
 case both =>
  obtain ⟨rs,ef,Hf,h1,h2,h3,⟨_,h4⟩,h5⟩:=mg hrun
  refine zq hL hm hFn hl hr ha (QI hB h1) ?_ h2 h3 hq
  rintro i j ri rj ⟨VI,rj',hij,hi',hj',he⟩ hi hj hri zl
  rw [hi] at hi'; obtain rfl:=Option.some.inj hi'
  rw [hj] at hj'; obtain rfl:=Option.some.inj hj'
  rcases he with he | he
  ·simp only [Kq,Bool.and_eq_true,Bool.not_eq_true'] at he
   obtain ⟨⟨⟨⟨⟨⟨e1,e2⟩,e3⟩,e4⟩,e5⟩,_⟩,_⟩:=he
   exact ⟨fun _=>h4 i j ri rj hij hi hj (by rw [Nat.zero_add]; exact e1) e2 e3 hri e5 zl e4,fun he=>by simp [eff,e2] at he⟩
  ·simp only [Wy,Bool.and_eq_true,Bool.not_eq_true'] at he
   obtain ⟨⟨⟨⟨⟨⟨⟨e1,e2⟩,e3⟩,e4⟩,e5⟩,_⟩,_⟩,_⟩:=he
   exact ⟨fun hl=>(by rw [e5] at hl; cases hl),fun _=>h5.g2 i j ri rj hij hi hj (by rw [Nat.zero_add]; exact e1) e2 e3 zl e4 e5 hri⟩
 case frz =>
  obtain ⟨e1,H1,d,hw,htr,ha1,mask,hB,hrun⟩:=wz hr ha hj
  rw [<- hw]
  exact Gm hL hm hFn hl htr.hr ha1 hB hrun fun e' H' c' a' g1 g2 g3 g4=>hq e' H' c' a' g1 (htr.trans g2) g3 g4
 exact Gm hL hm hFn hl hr ha hB hrun hq

theorem Af {n : Nat} {b : Code} {B : (AX -> Env -> Heap -> Prop) -> Env -> Heap -> Prop}
  (ihb : ∀ (Q : AX -> Env -> Heap -> Prop) (e : Env) (H : Heap) (c : Cx) (a : Act),HR c H -> nN n c e a -> B Q e H -> b.wp P (Post n (writes b) c H a Q) a c.w)
  {Q : AX -> Env -> Heap -> Prop} : ∀ (m : Nat) (e : Env) (H : Heap) (c : Cx) (a : Act),HR c H -> nN n c e a -> LoopN Ok (writes b) B Q m e H -> fZ P (Post n (writes b) c H a Q) b a c.w:=by
 intro m e H c a hr ha h
 induction m generalizing e H c a with
 | succ m ih =>
   refine fZ.L6 (wp_mono (ihb _ e H c a hr ha h) ?_)
   rintro ex a' w' ⟨x',e',H',c',rfl,hq,rfl,htr,ha',hf⟩
   cases x' with
   | normal =>
     refine (ih e' H' c' a' htr.hr ha' hq).mono ?_
     rintro ex a'' w'' ⟨x'',e'',Jc,c'',rfl,hq,rfl,gV,lX,hf'⟩
     exact ⟨x'',e'',Jc,c'',rfl,hq,rfl,htr.trans gV,lX,fun t ht=>(hf' t ht).trans (hf t ht)⟩
   | exit j=>exact ⟨.exit j,e',H',c',rfl,hq,rfl,htr,ha',hf⟩
   | ret=>exact ⟨.ret,e',H',c',rfl,hq,rfl,htr,ha',hf⟩
 | zero =>
 obtain ⟨e₁,H₁,ι,E,kept,HS,μ,i₀,R,hR,hcv,hkept,hnext,⟨hE,hH⟩,qQ⟩:=h.ex
 obtain ⟨c₁,hw,htr₁,ha₁⟩:=qF hcv hr ha
 have hnx : c₁.nx = nextId H₁:=htr₁.hr.nx
 let I : Nat -> Act -> World -> Prop:=fun m a' w'=>∃ i c',m = μ i /\ c'.w = w' /\ Tr c₁ H₁ c' (HS i) /\ nN n c' (E i ++ kept) a' /\ (∀ t A,(t,A) ∈ E i -> Ok A) /\ Fr (writes b) a a'
 have MV : ∀ (c' : Cx) (a' : Act),c₁.Le c' -> Fr (writes b) a a' -> ∀ t A,(t,A) ∈ kept -> EV c' A (a'.tmps.getD t undef):=by
  intro c' a' le hf t A hm
  obtain ⟨g1,g2⟩:=hkept t A hm
  rw [hf t (by simpa using g2)]
  exact iM le (ha₁.env t A g1)
 have enter : ∀ (c' : Cx) (e' : Env) (H' : Heap) (a' : Act) (i : ι),Tr c₁ H₁ c' H' -> nN n c' e' a' -> Fr (writes b) a a' -> Fe e' (nextId (HS i)) (E i) -> HWk H' (HS i) -> I (μ i) a' c'.w:=by
  intro c' e' H' a' i htr ha' hf hwE Ja
  have Ja:=Ja.to0 htr.hr
  have hall:=IQ ha'.env htr.hr Ja hwE
  have gV:=htr.cut Ja (by rw [hnext i,hnx]; exact Nat.le_refl _)
  refine ⟨i,c'.cut (HS i),rfl,rfl,gV,⟨fun t A hA=>?_,ha'.defers,ha'.size⟩,fun t A hm=>vO (hall t A hm),hf⟩
  rcases Ah hA with h | h
  ·exact hall t A h
  ·exact MV _ a' gV.le hf t A h
 have h0 : I (μ i₀) a c.w:=by
  rw [<- hw]
  exact enter c₁ e₁ H₁ a i₀ (.refl htr₁.hr) ha₁ (Fr.refl _ _) (by rw [hnext]; exact hE) hH
 refine fZ.ghost I ?_ _ _ _ h0
 rintro m a' w' ⟨i,c',rfl,rfl,htr,ha',hok,hf⟩
 refine wp_mono (ihb _ _ _ c' a' htr.hr ha' (qQ i hok)) ?_
 rintro ex a'' w'' ⟨x',e',H',c'',rfl,hq,rfl,gV,lX,hf'⟩
 have XP : Fr (writes b) a a'':=fun t ht=>(hf' t ht).trans (hf t ht)
 cases x' with
 | normal =>
   obtain ⟨i',e₂,H₂,hcv₂,⟨hwE,Ja⟩,hlt⟩:=hR _ _ _ hq
   obtain ⟨c₂,hw₂,htr₂,ha₂⟩:=qF hcv₂ gV.hr lX
   rw [<- hw₂]
   exact ⟨_,hlt,enter c₂ e₂ H₂ a'' i' (htr.trans (gV.trans htr₂)) ha₂ XP hwE Ja⟩
 | exit j=>exact ⟨.exit j,e',H',c'',rfl,hq,rfl,htr₁.trans (htr.trans gV),lX,XP⟩
 | ret=>exact ⟨.ret,e',H',c'',rfl,hq,rfl,htr₁.trans (htr.trans gV),lX,XP⟩

theorem JG {n : Nat} {b : Code} {B : (AX -> Env -> Heap -> Prop) -> Env -> Heap -> Prop}
  (ihb : ∀ (Q : AX -> Env -> Heap -> Prop) (e : Env) (H : Heap) (c : Cx) (a : Act),HR c H -> nN n c e a -> B Q e H -> b.wp P (Post n (writes b) c H a Q) a c.w)
  {Q : AX -> Env -> Heap -> Prop} {e : Env} {H : Heap} {c : Cx} {a : Act} (hr : HR c H) (ha : nN n c e a) (h : GX Ok (writes b) B Q e H) : fZ P (Post n (writes b) c H a Q) b a c.w:=by
 obtain ⟨e₁,H₁,ι,E,kept,HS,μ,i₀,R,hR,hcv,hkept,hnext,⟨hE,hH⟩,qQ⟩:=h.ex
 obtain ⟨c₁,hw,htr₁,ha₁⟩:=qF hcv hr ha
 have hnx : c₁.nx = nextId H₁:=htr₁.hr.nx
 let I : Nat -> Act -> World -> Prop:=fun m a' w'=>∃ i c',m = μ i /\ c'.w = w' /\ Tr c₁ H₁ c' (HS i) /\ nN n c' (E i ++ kept) a' /\ (∀ t A,(t,A) ∈ E i -> Ok A) /\ Fr (writes b) a a'
 have MV : ∀ (c' : Cx) (a' : Act),c₁.Le c' -> Fr (writes b) a a' -> ∀ t A,(t,A) ∈ kept -> EV c' A (a'.tmps.getD t undef):=by
  intro c' a' le hf t A hm
  obtain ⟨g1,g2⟩:=hkept t A hm
  rw [hf t (by simpa using g2)]
  exact iM le (ha₁.env t A g1)
 have enter : ∀ (c' : Cx) (e' : Env) (H' : Heap) (a' : Act) (i : ι),Tr c₁ H₁ c' H' -> nN n c' e' a' -> Fr (writes b) a a' -> Fe e' (nextId (HS i)) (E i) -> HWk H' (HS i) -> I (μ i) a' c'.w:=by
  intro c' e' H' a' i htr ha' hf hwE Ja
  have Ja:=Ja.to0 htr.hr
  have hall:=IQ ha'.env htr.hr Ja hwE
  have gV:=htr.cut Ja (by rw [hnext i,hnx]; exact Nat.le_refl _)
  refine ⟨i,c'.cut (HS i),rfl,rfl,gV,⟨fun t A hA=>?_,ha'.defers,ha'.size⟩,fun t A hm=>vO (hall t A hm),hf⟩
  rcases Ah hA with h | h
  ·exact hall t A h
  ·exact MV _ a' gV.le hf t A h
 have main : ∀ (k : Nat) (a' : Act) (w' : World),I k a' w' -> fZ P (Post n (writes b) c H a Q) b a' w':=by
  intro k
  induction k using Nat.strongRecOn with
  | _ k ihk =>
  rintro a' w' ⟨i,c',rfl,rfl,htr,ha',hok,hf⟩
  refine fZ.L6 (wp_mono (ihb _ _ _ c' a' htr.hr ha' (qQ i hok)) ?_)
  rintro ex a'' w'' ⟨x',e',H',c'',rfl,hq,rfl,gV,lX,hf'⟩
  have XP : Fr (writes b) a a'':=fun t ht=>(hf' t ht).trans (hf t ht)
  cases x' with
  | normal =>
    rcases hq with hq | ⟨m,hq⟩
    ·obtain ⟨i',e₂,H₂,hcv₂,⟨hwE,Ja⟩,hlt⟩:=hR _ _ _ hq
     obtain ⟨c₂,hw₂,htr₂,ha₂⟩:=qF hcv₂ gV.hr lX
     rw [<- hw₂]
     exact ihk _ hlt _ _ (enter c₂ e₂ H₂ a'' i' (htr.trans (gV.trans htr₂)) ha₂ XP hwE Ja)
    ·refine (Af ihb m e' H' c'' a'' gV.hr lX hq).mono ?_
     rintro ex a3 w3 ⟨x3,e3,H3,c3,rfl,hq3,rfl,htr3,ha3,hf3⟩
     exact ⟨x3,e3,H3,c3,rfl,hq3,rfl,htr₁.trans (htr.trans (gV.trans htr3)),ha3,fun t ht=>(hf3 t ht).trans (XP t ht)⟩
  | exit j=>exact ⟨.exit j,e',H',c'',rfl,hq,rfl,htr₁.trans (htr.trans gV),lX,XP⟩
  | ret=>exact ⟨.ret,e',H',c'',rfl,hq,rfl,htr₁.trans (htr.trans gV),lX,XP⟩
 refine main (μ i₀) a c.w ?_
 rw [<- hw]
 exact enter c₁ e₁ H₁ a i₀ (.refl htr₁.hr) ha₁ (Fr.refl _ _) (by rw [hnext]; exact hE) hH

theorem CV {n : Nat} {b : Code} {B : (AX -> Env -> Heap -> Prop) -> Env -> Heap -> Prop}
  (ihb : ∀ (Q : AX -> Env -> Heap -> Prop) (e : Env) (H : Heap) (c : Cx) (a : Act),HR c H -> nN n c e a -> B Q e H -> b.wp P (Post n (writes b) c H a Q) a c.w)
  {Q : AX -> Env -> Heap -> Prop} {e : Env} {H : Heap} {c : Cx} {a : Act} (hr : HR c H) (ha : nN n c e a) (h : aN Ok (writes b) B Q e H) : (Code.loop b).wp P (Post n (writes (.loop b)) c H a Q) a c.w:=by
 refine fZ.wp ?_
 have key:=fun m e H c a=>Af (Q:=Q) ihb m e H c a
 ·cases h with
  | esc h=>exact JG ihb hr ha h
  | ex h' =>
    obtain ⟨m,h⟩:=h'
    exact key m e H c a hr ha h
  | thaw t j sz l he ho ne next =>
    have hv:=ha.env t _ he
    obtain ⟨cp,h1,h2,d,hw,htr,hV⟩:=Tr.thaw hr ho ne hv
    obtain ⟨m,h⟩:=next cp h1 h2
    have ha':=ha.mono htr.le
    have:=key m _ _ d a htr.hr ⟨fun t' B hB=>by
     simp only [dL] at hB
     cases hb : Nat.beq t t' with
     | true =>
       rw [hb] at hB
       obtain rfl:=Nat.eq_of_beq_eq_true hb
       obtain rfl:=Option.some.inj hB
       exact aS hV
     | false=>rw [hb] at hB; exact ha'.env _ _ hB,ha.defers,ha.size⟩ h
    rw [hw] at this
    refine this.mono ?_
    rintro ex a'' w'' ⟨x'',e'',Jc,c'',rfl,hq,rfl,gV,lX,hf'⟩
    exact ⟨x'',e'',Jc,c'',rfl,hq,rfl,htr.trans gV,lX,hf'⟩

theorem ji (hL : bZ P L) (hm : P.follows .mixedOrders = true) (hFn : FS P F) {n : Nat} :
  ∀ (code : Code) (Q : AX -> Env -> Heap -> Prop) (e : Env) (H : Heap) (c : Cx) (a : Act),jO n code = true -> HR c H -> nN n c e a -> aj F Ok L code Q e H ->
    code.wp P (Post n (writes code) c H a Q) a c.w
 | .skip,Q,e,H,c,a,_,hr,ha,h=>wp_skip ⟨.normal,e,H,c,rfl,h,rfl,.refl hr,ha,Fr.refl _ _⟩
 | .region i ops d,Q,e,H,c,a,hc,hr,ha,h=>by
   simp only [jO] at hc
   cases d with
   | true =>
     refine Nj hL hm hFn hc hr ha h fun e' H' c' a' g1 g2 g3 g4=>?_
     exact ⟨.normal,e',H',c',rfl,g1,rfl,g2,g3,g4⟩
   | false =>
     refine wp_region_list (Ef hL hFn hc hr ha h fun e' H' c' a' g1 g2 g3 g4=>?_)
     exact ⟨.normal,e',H',c',rfl,g1,rfl,g2,g3,g4⟩
 | .seq x y,Q,e,H,c,a,hc,hr,ha,h=>by
   simp only [jO,Bool.and_eq_true] at hc
   refine wp_seq (wp_mono (ji hL hm hFn x _ e H c a hc.1 hr ha h) ?_)
   rintro ex a' w' ⟨x',e',H',c',rfl,hq,rfl,htr,ha',hf⟩
   cases x' with
   | normal =>
     refine wp_mono (ji hL hm hFn y _ e' H' c' a' hc.2 htr.hr ha' hq) ?_
     rintro ex a'' w'' ⟨x',e'',Jc,c'',rfl,hq,rfl,gV,lX,hf'⟩
     exact ⟨x',e'',Jc,c'',rfl,hq,rfl,htr.trans gV,lX,hf.trans hf'⟩
   | exit i=>exact ⟨.exit i,e',H',c',rfl,hq,rfl,htr,ha',hf.mono fun t ht=>List.mem_append_left _ ht⟩
   | ret=>exact ⟨.ret,e',H',c',rfl,hq,rfl,htr,ha',hf.mono fun t ht=>List.mem_append_left _ ht⟩
 | .cond o x y,Q,e,H,c,a,hc,hr,ha,h=>by
   simp only [jO,Bool.and_eq_true] at hc
   obtain ⟨A,hA,h⟩:=aH ha.env hc.1.1 h
   obtain ⟨b,hb,h1,h2⟩:=KX hA h
   refine wp_cond_split hb (fun hb=>?_) (fun hb=>?_)
   ·refine wp_mono (ji hL hm hFn x Q e H c a hc.1.2 hr ha (h1 hb)) ?_
    rintro ex a' w' ⟨x',e',H',c',g1,g2,g3,g4,g5,g6⟩
    exact ⟨x',e',H',c',g1,g2,g3,g4,g5,g6.mono fun t ht=>List.mem_append_left _ ht⟩
   ·refine wp_mono (ji hL hm hFn y Q e H c a hc.2 hr ha (h2 hb)) ?_
    rintro ex a' w' ⟨x',e',H',c',g1,g2,g3,g4,g5,g6⟩
    exact ⟨x',e',H',c',g1,g2,g3,g4,g5,g6.mono fun t ht=>List.mem_append_right _ ht⟩
 | .block i b,Q,e,H,c,a,hc,hr,ha,h=>by
   refine wp_block (wp_mono (ji hL hm hFn b _ e H c a hc hr ha h) ?_)
   rintro ex a' w' ⟨x',e',H',c',rfl,hq,g3,g4,g5,g6⟩
   cases x' with
   | normal=>exact ⟨.normal,e',H',c',rfl,hq,g3,g4,g5,g6⟩
   | exit j =>
     simp only [AX.Zc,Exit.inBlock]
     cases hb : Nat.beq j i with
     | true =>
       have hq : (match Nat.beq j i with | true=>Q .normal e' H' | false=>Q (.exit j) e' H'):=hq
       rw [hb] at hq
       rw [if_pos (Nat.eq_of_beq_eq_true hb)]
       exact ⟨.normal,e',H',c',rfl,hq,g3,g4,g5,g6⟩
     | false =>
       have hq : (match Nat.beq j i with | true=>Q .normal e' H' | false=>Q (.exit j) e' H'):=hq
       rw [hb] at hq
       rw [if_neg (dZ hb)]
       exact ⟨.exit j,e',H',c',rfl,hq,g3,g4,g5,g6⟩
   | ret=>exact ⟨.ret,e',H',c',rfl,hq,g3,g4,g5,g6⟩
 | .loop b,Q,e,H,c,a,hc,hr,ha,h=>CV (fun Q e H c a=>ji hL hm hFn b Q e H c a hc) hr ha h
 | .exit i,Q,e,H,c,a,_,hr,ha,h=>wp_exit ⟨.exit i,e,H,c,rfl,h,rfl,.refl hr,ha,Fr.refl _ _⟩
 | .ret,Q,e,H,c,a,_,hr,ha,h=>wp_ret ⟨.ret,e,H,c,rfl,h,rfl,.refl hr,ha,Fr.refl _ _⟩
 | .label l,Q,e,H,c,a,_,hr,ha,h=>wp_label ⟨.normal,e,H,c,rfl,h,rfl,.refl hr,ha,Fr.refl _ _⟩
 | .goto _,_,_,_,_,_,hc,_,_,_=>by simp [jO] at hc
 | .scope _,_,_,_,_,_,hc,_,_,_=>by simp [jO] at hc
 | .rangeFunc ..,_,_,_,_,_,hc,_,_,_=>by simp [jO] at hc
 | .refuse _,_,_,_,_,_,hc,_,_,_=>by simp [jO] at hc

end
end Go.AL
