/-
  A logic for calls of Go functions: a call in a greater heap, numbers. Nothing is assumed.
-/
import Derived.Test.YtjbhbpieccloeaaT2
import Derived.DeepKeys3
import Derived.Below
import Derived.ChangeArms
import Derived.ChangeShapes
import Derived.Carry

namespace Go.AL

def uU : Nat -> List AV -> Env
 | _,[]=>[]
 | n,A :: l=>(n,A) :: uU (n + 1) l

def aU : Nat -> List AV -> (Env -> Prop) -> Prop
 | _,[],k=>k []
 | n,A :: l,k=>aH n fun m=>aU m l fun e=>k ((n,A) :: e)

theorem Ju {k : Env -> Prop} : ∀ {l : List AV} {n : Nat},aU n l k ↔ k (uU n l)
 | [],_=>Iff.rfl
 | A :: l,n=>by simp only [aU,Ef,uU]; exact Ju

def DW (L : Lay) (e : Env) (H : Heap) : List ResultVar -> (List AV -> Prop) -> Prop
 | [],k=>k []
 | .tmp t :: l,k=>uo e t fun A=>DW L e H l fun As=>k (A :: As)
 | .cell t ty :: l,k=>uo e t fun A=>iU L ty A H fun R=>DW L e H l fun As=>k (R :: As)

def FI (l : List AV) (k : AV -> Prop) : Prop :=
 match l with
 | [A]=>k A
 | l=>yH l (k (.dS l))

structure iO (L : Lay) (res : List ResultVar) (H0 : Heap) (R : AV) (H' : Heap) (e : Env) (H : Heap) : Prop where
 ex : ∃ e1 H1,Cv e H e1 H1 /\ DW L e1 H1 res fun As=>FI As fun A=>le A R /\ dB (nextId H') R = true /\ nextId H0 <= nextId H' /\ HWk H1 H'

def Fin (L : Lay) (res : List ResultVar) (H0 : Heap) (R : AV) (H' : Heap) : AX -> Env -> Heap -> Prop :=
 fun x e H=>match x with
  | .exit _=>False
  | _=>iO L res H0 R H' e H

def Vp (L : Lay) (res : List ResultVar) (H0 : Heap) (Q : AV -> Heap -> Prop) : AX -> Env -> Heap -> Prop :=
 fun x e H=>match x with
  | .exit _=>False
  | _=>∃ R H',Q R H' /\ iO L res H0 R H' e H

section
variable {P : Program} {L : Lay} {F : FT}

theorem NZ {c : Cx} : ∀ {As : List AV} {vs : List Value} {n t : Nat} {A : AV},yD c As vs -> dL (uU n As) t = some A -> ∃ v,n <= t /\ vs[t - n]? = some v /\ EV c A v
 | [],_,_,_,_,_,h=>by simp [uU,dL] at h
 | B :: As,vs,n,t,A,hv,h=>by
   obtain ⟨v,r,rfl,h1,h2⟩:=hv
   simp only [uU,dL] at h
   cases hb : Nat.beq n t with
   | true =>
     rw [hb] at h
     obtain rfl:=Nat.eq_of_beq_eq_true hb
     obtain rfl:=Option.some.inj h
     exact ⟨v,Nat.le_refl _,by simp,h1⟩
   | false =>
     rw [hb] at h
     obtain ⟨u,h3,h4,h5⟩:=NZ h2 h
     refine ⟨u,by omega,?_,h5⟩
     have : t - n = (t - (n + 1)) + 1:=by omega
     rw [this,List.getElem?_cons_succ]; exact h4

theorem Hu {c : Cx} : ∀ {As : List AV} {vs : List Value},yD c As vs -> vs.length = As.length
 | [],_,h=>by obtain rfl:=h; rfl
 | A :: As,vs,h=>by obtain ⟨v,r,rfl,_,h2⟩:=h; simp [Hu h2]

theorem L8 {c : Cx} : ∀ {As : List AV} {vs : List Value},yD c As vs -> vg As
 | [],_,_=>by simp only [vg]
 | A :: As,vs,h=>by obtain ⟨v,r,rfl,h1,h2⟩:=h; simp only [vg]; exact ⟨xw h1,L8 h2⟩

theorem uI (hL : bW P L) {n : Nat} {c : Cx} {e : Env} {H : Heap} {a : Act} (hr : HR c H) (ha : oI n c e a) :
  ∀ {res : List ResultVar} {k : List AV -> Prop},DW L e H res k ->
    ∃ As vs,(res.mapM (fun | .tmp t=>pure (a.tmps.getD t undef) | .cell b t=>do loadVar t (<- asAddr (a.tmps.getD b undef)) : ResultVar -> Sem Value)).run P c.w = .ok vs c.w /\ yD c As vs /\ k As
 | [],k,h=>⟨[],[],by simp,rfl,h⟩
 | .tmp t :: l,k,h=>by
   obtain ⟨A,h1,h2⟩:=fO.1 h
   obtain ⟨As,vs,h3,h4,h5⟩:=uI hL hr ha h2
   refine ⟨A :: As,a.tmps.getD t undef :: vs,?_,⟨_,_,rfl,ha.env t A h1,h4⟩,h5⟩
   simp only [List.mapM_cons,Sem.run_bind,Sem.run_pure,Result.andThen_ok,h3]
 | .cell t ty :: l,k,h=>by
   obtain ⟨A,h1,h2⟩:=fO.1 h
   obtain ⟨ad,r,R,e1,hrun,hV,h2⟩:=yU hL hr (ha.env t A h1) h2
   obtain ⟨As,vs,h3,h4,h5⟩:=uI hL hr ha h2
   refine ⟨R :: As,r :: vs,?_,⟨_,_,rfl,aS hV,h4⟩,h5⟩
   have e2 : (asAddr (Value.pointer (some ad))).run P c.w = .ok ad c.w:=rfl
   simp only [List.mapM_cons,Sem.run_bind,e1,e2,hrun,Sem.run_pure,Result.andThen_ok,h3]

theorem DV (hL : bW P L) {n : Nat} {c : Cx} {e : Env} {H : Heap} {a : Act} {fn : Func} (hr : HR c H) (ha : oI n c e a) {k : AV -> Prop}
  (h : DW L e H fn.results.toList fun As=>FI As k) : ∃ A v,(results fn a.tmps).run P c.w = .ok v c.w /\ EV c A v /\ k A:=by
 obtain ⟨As,vs,h1,h2,h3⟩:=uI hL hr ha h
 have hrun : ∀ v,(if h : vs.toArray.size = 1 then vs.toArray[0] else .tuple vs.toArray) = v -> (results fn a.tmps).run P c.w = .ok v c.w:=by
  rintro v rfl
  unfold results
  rw [Array.mapM_eq_mapM_toList]
  simp only [Sem.run_bind,map_eq_pure_bind,Sem.run_pure]
  erw [h1]
  simp only [Result.andThen_ok]
 unfold FI at h3
 split at h3
 ·rename_i A
  obtain ⟨v,rfl,h4⟩:=tK h2
  exact ⟨A,v,hrun _ (by simp),h4,h3⟩
 ·rename_i hne
  obtain ⟨h4,h5⟩:=xB h3
  refine ⟨.dS As,.tuple vs.toArray,hrun _ ?_,⟨vs.toArray,rfl,by simpa using Tj h2 h4⟩,h5⟩
  rw [dif_neg]
  intro hs
  have hl:=Hu h2
  simp at hs
  rw [hs] at hl
  match As,hl with
  | [A],_=>exact hne A rfl

theorem dK.Gm {B : (AX -> Env -> Heap -> Prop) -> Env -> Heap -> Prop} {f : Nat} {fn : Func} {code : Code}
  (hB : ∀ (Q : AX -> Env -> Heap -> Prop) (e : Env) (H : Heap) (c : Cx) (a : Act),HR c H -> oI fn.ntmps c e a -> B Q e H -> code.wp P (Post fn.ntmps (writes code) c H a Q) a c.w)
  (hL : bW P L) (hf : P.funcs[f]? = some fn) (hn : (fn.name == "runtime.NumGoroutine") = false) (hb : fn.body = some code)
  {args : List AV} {H : Heap} {Q : AV -> Heap -> Prop} {K : AX -> Env -> Heap -> Prop} (hK : ∀ x e G,K x e G -> Vp L fn.results.toList H Q x e G) (ha : Nat.ble args.length fn.ntmps = true)
  (h : vg args -> aU 0 args fun e=>B K e H) : dK P f args H Q:=by
 refine ⟨⟨fn,hf,hn,by rw [hb]; rfl⟩,fun c vs hr hv=>?_⟩
 have h0:=Ju.1 (h (L8 hv))
 have hlen:=Hu hv
 have hle:=Nat.le_of_ble_eq_true ha
 refine calls_of_wp hf hb ?_
 have ha0 : oI fn.ntmps c (uU 0 args) { tmps:=vs.toArray ++ Array.replicate (fn.ntmps - vs.toArray.size) undef,defers:=[] }:=by
  refine ⟨fun t A hA=>?_,rfl,by simp; omega⟩
  obtain ⟨v,h1,h2,h3⟩:=NZ hv hA
  simp only [Nat.sub_zero] at h2
  have hlt:=(List.getElem?_eq_some_iff.1 h2).1
  rw [Array.getD_eq_getD_getElem?,Array.getElem?_append_left (by simpa using hlt),List.getElem?_toArray,h2]
  exact h3
 refine wp_mono (hB _ _ H c _ hr ha0 h0) ?_
 rintro ex a w ⟨x,e,H1,c1,rfl,hq,rfl,htr,ha1,_⟩
 have hq:=hK _ _ _ hq
 have fin : (∃ R H',Q R H' /\ iO L fn.results.toList H R H' e H1) -> (a.defers = [] /\ ∃ v,(results fn a.tmps).run P c1.w = .ok v c1.w /\ (∃ v' d R H',Q R H' /\ Ending.returned v = .returned v' /\ d.w = c1.w /\ Tr c H d H' /\ EV d R v')):=by
  rintro ⟨R,H',hQ,e1,H2,hcv,hres⟩
  obtain ⟨d,hw,iI,ha'⟩:=DK hcv htr.hr ha1
  obtain ⟨A,v,hrun,hA,hle,WH,hnx,hwk⟩:=DV hL iI.hr ha' hres
  rw [hw] at hrun
  have hwk:=hwk.YC iI.hr
  refine ⟨ha1.defers,v,hrun,v,d.cut H',R,H',hQ,rfl,hw,?_,?_⟩
  ·exact (htr.trans iI).cut hwk (by rw [hr.nx]; exact hnx)
  ·exact DI (fun k n hn=>by rw [iI.hr.tp]; exact hwk.tp k n hn) WH (QC hle hA)
 cases x with
 | normal=>exact fin hq
 | ret=>exact fin hq
 | exit i=>exact hq.elim

theorem bJ.intro (hL : bW P L) (hm : P.follows .mixedOrders = true) {f : Nat} {fn : Func} {code : Code} (hf : P.funcs[f]? = some fn) (hn : (fn.name == "runtime.NumGoroutine") = false) (hb : fn.body = some code)
  (hc : jD fn.ntmps code = true) {args : List AV} {H : Heap} {R : AV} {H' : Heap} (ha : Nat.ble args.length fn.ntmps = true)
  (h : vg args -> aU 0 args fun e=>aj (FP P) Ok L code (Fin L fn.results.toList H R H') e H) : bJ P f args H R H':=by
 obtain ⟨h1,h2⟩:=dK.Gm (Q:=fun R' G=>R' = R /\ G = H') (fun Q' e H' c a hr ha h=>iW hL hm (TL P) code Q' e H' c a hc hr ha h) hL hf hn hb (fun x e G hq=>by
  cases x with
  | exit i=>exact hq.elim
  | normal=>exact ⟨R,H',⟨rfl,rfl⟩,hq⟩
  | ret=>exact ⟨R,H',⟨rfl,rfl⟩,hq⟩) ha h
 refine ⟨h1,fun c vs hr hv=>(h2 c vs hr hv).mono ?_⟩
 rintro _ _ ⟨v,d,_,_,⟨rfl,rfl⟩,h3⟩
 exact ⟨v,d,h3⟩

theorem dK.intro (hL : bW P L) (hm : P.follows .mixedOrders = true) {f : Nat} {fn : Func} {code : Code} (hf : P.funcs[f]? = some fn) (hn : (fn.name == "runtime.NumGoroutine") = false) (hb : fn.body = some code)
  (hc : jD fn.ntmps code = true) {args : List AV} {H : Heap} {Q : AV -> Heap -> Prop} (ha : Nat.ble args.length fn.ntmps = true)
  (h : vg args -> aU 0 args fun e=>aj (FP P) Ok L code (Vp L fn.results.toList H Q) e H) : dK P f args H Q :=
 dK.Gm (fun Q' e H' c a hr ha h=>iW hL hm (TL P) code Q' e H' c a hc hr ha h) hL hf hn hb (fun _ _ _ h=>h) ha h

theorem dK.Wv (hL : bW P L) (hm : P.follows .mixedOrders = true) {f : Nat} {fn : Func} {code : Code} (hf : P.funcs[f]? = some fn) (hn : (fn.name == "runtime.NumGoroutine") = false) (hb : fn.body = some code)
  (hc : jD fn.ntmps code = true) {args : List AV} {H : Heap} {Q : AV -> Heap -> Prop} (ha : Nat.ble args.length fn.ntmps = true)
  (h : vg args -> aU 0 args fun e=>aj (ZH P) Ok L code (Vp L fn.results.toList H Q) e H) : dK P f args H Q :=
 dK.Gm (fun Q' e H' c a hr ha h=>iW hL hm (Xh P) code Q' e H' c a hc hr ha h) hL hf hn hb (fun _ _ _ h=>h) ha h

end
end Go.AL

namespace Go.AL

deriving instance DecidableEq for TD

mutual
def zB : AV -> List Value -> Option (List Value)
 | .ff,.bool false :: r=>some r
 | .int k 0,.int k' 0 :: r=>match nC k k' with | true=>some r | false=>none
 | .str [],.string s :: r=>match s.data.toList with | []=>some r | _=>none
 | .dU,.nilIface :: r=>some r
 | .bH,.slice none 0 0 :: r=>some r
 | .fV,.pointer none :: r=>some r
 | .aY,.nilFunc :: r=>some r
 | .jF,.map none :: r=>some r
 | .ag l,cs=>Xl l cs
 | _,_=>none
def Xl : List AV -> List Value -> Option (List Value)
 | [],cs=>some cs
 | x :: l,cs=>match zB x cs with | some r=>Xl l r | none=>none
end

theorem PW (k : IntKind) : qM k 0:=by cases k <;> simp [qM,IntKind.min,IntKind.max,IntKind.signed,IntKind.bits]

mutual
theorem H8 {w : World} {Im : Nat -> Nat -> Prop} : ∀ (A : AV) (cs r : List Value),zB A cs = some r -> ∃ d,cs = d ++ r /\ Rd w Im A d
 | .ag l,cs,r,h=>by
   have h : Xl l cs = some r:=by simpa only [zB] using h
   obtain ⟨d,h1,h2⟩:=Ea (w:=w) (Im:=Im) l cs r h
   exact ⟨d,h1,by simpa only [Rd] using h2⟩
 | .ff,cs,r,h=>by
   unfold zB at h; split at h <;> first | contradiction | skip
   injection h with h; subst h; exact ⟨[_],rfl,by simp only [Rd]⟩
 | .int k n,cs,r,h=>by
   unfold zB at h; split at h <;> first | contradiction | skip
   split at h <;> first | contradiction | skip
   have:=fJ ‹_›; subst this
   cases ‹AV.int _ _ = AV.int _ _›
   injection h with h; subst h; exact ⟨[_],rfl,by simp only [Rd]; exact ⟨trivial,PW _⟩⟩
 | .str s,cs,r,h=>by
   unfold zB at h; split at h <;> first | contradiction | skip
   split at h <;> first | contradiction | skip
   rename_i hs
   cases ‹AV.str _ = AV.str _›
   injection h with h; subst h
   refine ⟨[_],rfl,?_⟩
   simp only [Rd]
   refine ⟨?_,by simp [maxL]⟩
   congr 2
   rw [<- hs]
 | .dU,cs,r,h=>by
   unfold zB at h; split at h <;> first | contradiction | skip
   injection h with h; subst h; exact ⟨[_],rfl,by simp only [Rd]⟩
 | .bH,cs,r,h=>by
   unfold zB at h; split at h <;> first | contradiction | skip
   injection h with h; subst h; exact ⟨[_],rfl,by simp only [Rd]⟩
 | .fV,cs,r,h=>by
   unfold zB at h; split at h <;> first | contradiction | skip
   injection h with h; subst h; exact ⟨[_],rfl,by simp only [Rd]⟩
 | .aY,cs,r,h=>by
   unfold zB at h; split at h <;> first | contradiction | skip
   injection h with h; subst h; exact ⟨[_],rfl,by simp only [Rd]⟩
 | .jF,cs,r,h=>by
   unfold zB at h; split at h <;> first | contradiction | skip
   injection h with h; subst h; exact ⟨[_],rfl,by simp only [Rd]⟩
 | .bool _,_,_,h=>by simp [zB] at h
 | .tt,_,_,h=>by simp [zB] at h
 | .dec _,_,_,h=>by simp [zB] at h
 | .jB _ _,_,_,h=>by simp [zB] at h
 | .sl _ _ _,_,_,h=>by simp [zB] at h
 | .ms _ _ _ _ _,_,_,h=>by simp [zB] at h
 | .dS _,_,_,h=>by simp [zB] at h
 | .ptr _ _ _,_,_,h=>by simp [zB] at h
 | .cp _,_,_,h=>by simp [zB] at h
 | .fn _ _,_,_,h=>by simp [zB] at h
 | .mp _,_,_,h=>by simp [zB] at h
 | .gs _ _,_,_,h=>by simp [zB] at h
 | .bm _ _,_,_,h=>by simp [zB] at h
 | .und,_,_,h=>by simp [zB] at h
theorem Ea {w : World} {Im : Nat -> Nat -> Prop} : ∀ (l : List AV) (cs r : List Value),Xl l cs = some r -> ∃ d,cs = d ++ r /\ jY w Im l d
 | [],cs,r,h=>by simp only [Xl] at h; injection h with h; subst h; exact ⟨[],rfl,by simp only [jY]⟩
 | x :: l,cs,r,h=>by
   simp only [Xl] at h
   cases hx : zB x cs with
   | none=>simp [hx] at h
   | some r' =>
     simp only [hx] at h
     obtain ⟨d,h1,h2⟩:=H8 (w:=w) (Im:=Im) x cs r' hx
     obtain ⟨d',h3,h4⟩:=Ea (w:=w) (Im:=Im) l r' r h
     exact ⟨d ++ d',by rw [h1,h3,List.append_assoc],by simp only [jY]; exact ⟨d,d',rfl,h2,h4⟩⟩
end

def pF : Value -> Bool
 | .agg _=>true
 | _=>false

def OO (P : Program) : List Field -> List AV -> Nat -> Bool
 | [],[],_=>true
 | f :: fs,x :: xs,n=>Nat.beq f.offset n && Nat.beq (P.cellsOf f.type) 1 && (f.name != "_") && (match P.underlying f.type,x with
   | some (.int q),.int q' _=>nC q q'
   | some .string,.str _=>true
   | _,_=>false) && OO P fs xs (n + 1)
 | _,_,_=>false

def UJ (d : Option TypeDesc) : List AV -> Bool
 | []=>true
 | x :: xs=>(match d,x with
   | some (.int q),.int q' _=>nC q q'
   | some .string,.str _=>true
   | _,_=>false) && UJ d xs

def Ws (P : Program) (k : Nat) (sh : AV) : Bool :=
 match P.underlying k,sh with
 | some (.int q),.int q' _=>nC q q'
 | some .string,.str _=>true
 | some (.struct fs),.ag zs=>P.keyTypeAt 2 k && P.keyType k && P.tiled 2 k && Nat.ble 1 P.types.size && Nat.beq (P.cellsOf k) zs.length && OO P fs.toList zs 0
 | some (.array n e),.ag zs=>P.keyTypeAt 2 k && P.keyType k && P.tiled 2 k && Nat.ble 1 P.types.size && Nat.beq (P.cellsOf k) zs.length && (Nat.beq n zs.length && Nat.beq (P.cellsOf e) 1 && UJ (P.underlying e) zs)
 | _,_=>false

theorem UE {P : Program} {w : World} {Im : Nat -> Nat -> Prop} {f : Field} {x y : AV} {c : List Value} {D : Nat} (h : (match P.underlying f.type,x with
  | some (.int q),.int q' _=>nC q q'
  | some .string,.str _=>true
  | _,_=>false) = true) (hs : ay x y = true) (hr : Rd w Im y c) : c.length = 1 /\ ∃ a,P.keyLits (D + 1) f.type c = some a:=by
 split at h
 ·rename_i q q' n hq
  obtain rfl:=fJ h
  cases y <;> first | (simp [ay] at hs; done) | skip
  obtain rfl:=fJ hs
  simp only [Rd] at hr
  obtain ⟨rfl,hi⟩:=hr
  rename_i m
  refine ⟨rfl,[.int q m],?_⟩
  unfold Program.keyLits
  simp only [hq]
  rw [if_pos ⟨trivial,by simpa [Lit.wf,qM] using hi⟩]
 ·rename_i hq
  cases y <;> first | (simp [ay] at hs; done) | skip
  rename_i s
  simp only [Rd] at hr
  obtain ⟨rfl,hi⟩:=hr
  refine ⟨rfl,[.string s],?_⟩
  unfold Program.keyLits
  simp only [hq]
  have hi' : s.length <= maxLen:=hi
  rw [if_pos (by simpa [ByteArray.size] using hi')]
 ·cases h

theorem MZ {P : Program} {w : World} {Im : Nat -> Nat -> Prop} {D : Nat} {cs : List Value} : ∀ {fs : List Field} {xs ys : List AV} {n : Nat},OO P fs xs n = true -> bU xs ys = true -> jY w Im ys (cs.drop n) ->
  (∃ as,(fs.mapM fun f=>P.keyLits (D + 1) f.type ((cs.drop f.offset).take (P.cellsOf f.type))) = some as) /\ (cs.drop n).length = xs.length /\ fs.all (·.name != "_") = true
 | [],[],ys,n,_,hs,hr=>by
   cases ys with
   | nil=>simp only [jY] at hr; exact ⟨⟨[],rfl⟩,by rw [hr]; rfl,rfl⟩
   | cons y ys=>simp [bU] at hs
 | [],_ :: _,_,_,h,_,_=>by simp [OO] at h
 | _ :: _,[],_,_,h,_,_=>by simp [OO] at h
 | f :: fs,x :: xs,ys,n,h,hs,hr=>by
   cases ys with
   | nil=>simp [bU] at hs
   | cons y ys =>
     simp only [OO,Bool.and_eq_true] at h
     obtain ⟨⟨⟨⟨h1,h2⟩,h3⟩,h4⟩,h5⟩:=h
     simp only [bU,Bool.and_eq_true] at hs
     simp only [jY] at hr
     obtain ⟨c,d,e,g1,g2⟩:=hr
     obtain ⟨k1,a,k2⟩:=UE (D:=D) h4 hs.1 g1
     have hd : cs.drop (n + 1) = d:=by
      rw [<- List.drop_drop,e,List.drop_append_of_le_length (by omega),List.drop_eq_nil_of_le (by omega),List.nil_append]
     obtain ⟨⟨as,m1⟩,m2,m3⟩:=MZ (P:=P) (D:=D) (cs:=cs) (n:=n + 1) h5 hs.2 (by rw [hd]; exact g2)
     have h1:=Nat.eq_of_beq_eq_true h1
     have h2:=Nat.eq_of_beq_eq_true h2
     have ht : (cs.drop f.offset).take (P.cellsOf f.type) = c:=by
      rw [h1,h2,e,List.take_append_of_le_length (by omega),List.take_of_length_le (by omega)]
     refine ⟨⟨a :: as,?_⟩,?_,?_⟩
     ·rw [List.mapM_cons,ht,k2,m1]; rfl
     ·rw [e,List.length_append,k1,<- hd,m2,List.length_cons]; omega
     ·simp only [List.all_cons,Bool.and_eq_true]; exact ⟨h3,m3⟩

theorem mapM_some {α β : Type} {f : α -> Option β} : ∀ {l : List α},(∀ x ∈ l,∃ a,f x = some a) -> ∃ as,l.mapM f = some as
 | [],_=>⟨[],rfl⟩
 | x :: l,h=>by
   obtain ⟨a,ha⟩:=h x (by simp)
   obtain ⟨as,h'⟩:=mapM_some (l:=l) fun y hy=>h y (by simp [hy])
   exact ⟨a :: as,by rw [List.mapM_cons,ha,h']; rfl⟩

theorem Rf {P : Program} {w : World} {Im : Nat -> Nat -> Prop} {t : Nat} {x y : AV} {c : List Value} {D : Nat} (h : (match P.underlying t,x with
  | some (.int q),.int q' _=>nC q q'
  | some .string,.str _=>true
  | _,_=>false) = true) (hs : ay x y = true) (hr : Rd w Im y c) : c.length = 1 /\ ∃ a,P.keyLits (D + 1) t c = some a:=by
 split at h
 ·rename_i q q' n hq
  obtain rfl:=fJ h
  cases y <;> first | (simp [ay] at hs; done) | skip
  obtain rfl:=fJ hs
  simp only [Rd] at hr
  obtain ⟨rfl,hi⟩:=hr
  rename_i m
  refine ⟨rfl,[.int q m],?_⟩
  unfold Program.keyLits
  simp only [hq]
  rw [if_pos ⟨trivial,by simpa [Lit.wf,qM] using hi⟩]
 ·rename_i hq
  cases y <;> first | (simp [ay] at hs; done) | skip
  rename_i s
  simp only [Rd] at hr
  obtain ⟨rfl,hi⟩:=hr
  refine ⟨rfl,[.string s],?_⟩
  unfold Program.keyLits
  simp only [hq]
  have hi' : s.length <= maxLen:=hi
  rw [if_pos (by simpa [ByteArray.size] using hi')]
 ·cases h

theorem IW {P : Program} {w : World} {Im : Nat -> Nat -> Prop} {D e : Nat} : ∀ {xs ys : List AV} {cs : List Value},UJ (P.underlying e) xs = true -> bU xs ys = true -> jY w Im ys cs ->
  cs.length = xs.length /\ ∀ i,i < cs.length -> ∃ a,P.keyLits (D + 1) e ((cs.drop i).take 1) = some a
 | [],ys,cs,_,hs,hr=>by
   cases ys with
   | nil=>simp only [jY] at hr; subst hr; exact ⟨rfl,fun i hi=>by simp at hi⟩
   | cons y ys=>simp [bU] at hs
 | x :: xs,ys,cs,h,hs,hr=>by
   cases ys with
   | nil=>simp [bU] at hs
   | cons y ys =>
     simp only [UJ,Bool.and_eq_true] at h
     simp only [bU,Bool.and_eq_true] at hs
     simp only [jY] at hr
     obtain ⟨c,d,rfl,g1,g2⟩:=hr
     obtain ⟨k1,a,k2⟩:=Rf (D:=D) h.1 hs.1 g1
     obtain ⟨m1,m2⟩:=IW (P:=P) (D:=D) (e:=e) h.2 hs.2 g2
     refine ⟨by simp [k1,m1]; omega,fun i hi=>?_⟩
     cases i with
     | zero=>exact ⟨a,by rw [List.drop_zero,List.take_append_of_le_length (by omega),List.take_of_length_le (by omega)]; exact k2⟩
     | succ i =>
       obtain ⟨a',h'⟩:=m2 i (by simp [k1] at hi; omega)
       refine ⟨a',?_⟩
       have : (c ++ d).drop (i + 1) = d.drop i:=by
        match c,k1 with
        | [v],_=>rfl
       rw [this]; exact h'

theorem KJ {P : Program} {k : Nat} {sh : AV} (h : Ws P k sh = true) : NU P k sh:=by
 unfold Ws at h
 split at h
 ·rename_i q q' n hq
  obtain rfl:=fJ h
  refine ⟨Go.Maps.int_keyed hq,fun w Im A v hs hv hr=>?_⟩
  cases A <;> first | (simp [ay] at hs; done) | skip
  obtain rfl:=fJ hs
  rename_i m
  simp only [Rd] at hr
  have hc:=hv.2 rfl
  rw [hc] at hr
  have hv' : v = .int q m:=by simpa using hr.1
  subst hv'
  exact ⟨_,Go.Maps.keyOf_int_mk hq (by simpa [Lit.wf,qM] using hr.2)⟩
 ·rename_i hq
  refine ⟨Go.Maps.string_keyed hq,fun w Im A v hs hv hr=>?_⟩
  cases A <;> first | (simp [ay] at hs; done) | skip
  rename_i m
  simp only [Rd] at hr
  have hc:=hv.2 rfl
  rw [hc] at hr
  have hv' : v = .string ⟨m.toArray⟩:=by simpa using hr.1
  subst hv'
  refine ⟨.string m,?_⟩
  simp only [keyOf,hq,mapKey]
  have hi' : m.length <= maxLen:=hr.2
  rw [if_pos (by simpa [ByteArray.size] using hi')]
 ·rename_i fs zs hq
  simp only [Bool.and_eq_true] at h
  obtain ⟨⟨⟨⟨⟨h1,h2⟩,h3⟩,h4⟩,h5⟩,h6⟩:=h
  have h4:=Nat.le_of_ble_eq_true h4
  have h5:=Nat.eq_of_beq_eq_true h5
  have hwide : (match P.underlying k with | some (.array _ _) | some (.struct _)=>true | _=>false) = true:=by rw [hq]
  refine ⟨Go.Maps.Keyed.of_law (deep_law (m:=2) (by omega) h1 h3 hwide),fun w Im A v hs hv hr=>?_⟩
  cases A <;> first | (simp [ay] at hs; done) | skip
  rename_i l
  obtain ⟨cs,rfl⟩:=hv.1 rfl
  have hr : jY w Im l cs.toList:=by simpa only [Rd,Value.cells] using hr
  obtain ⟨D,hD⟩ : ∃ D,P.types.size = D + 1:=⟨P.types.size - 1,by omega⟩
  obtain ⟨⟨as,m1⟩,m2,m3⟩:=MZ (P:=P) (D:=D) (cs:=cs.toList) (n:=0) h6 hs (by simpa using hr)
  have hsz : cs.size = P.cellsOf k:=by rw [h5]; simpa using m2
  have hform : (Value.agg cs).formed P k = true:=by simp [Value.formed,hq,hsz]
  unfold keyOf
  simp only [hq,h2,hform,Bool.and_self,if_true,Value.cells]
  rw [hD]
  have : P.keyLits (D + 1 + 1) k cs.toList = some as.flatten:=by
   conv=>lhs; unfold Program.keyLits
   simp only [hq]
   rw [if_pos ⟨by simpa using hsz,by simpa using m3⟩,m1]; rfl
  rw [this]
  exact ⟨_,rfl⟩
 ·rename_i n e zs hq
  simp only [Bool.and_eq_true] at h
  obtain ⟨⟨⟨⟨⟨h1,h2⟩,h3⟩,h4⟩,h5⟩,⟨g1,g2⟩,g3⟩:=h
  have h4:=Nat.le_of_ble_eq_true h4
  have h5:=Nat.eq_of_beq_eq_true h5
  have g1:=Nat.eq_of_beq_eq_true g1
  have g2:=Nat.eq_of_beq_eq_true g2
  have hwide : (match P.underlying k with | some (.array _ _) | some (.struct _)=>true | _=>false) = true:=by rw [hq]
  refine ⟨Go.Maps.Keyed.of_law (deep_law (m:=2) (by omega) h1 h3 hwide),fun w Im A v hs hv hr=>?_⟩
  cases A <;> first | (simp [ay] at hs; done) | skip
  rename_i l
  obtain ⟨cs,rfl⟩:=hv.1 rfl
  have hr : jY w Im l cs.toList:=by simpa only [Rd,Value.cells] using hr
  obtain ⟨D,hD⟩ : ∃ D,P.types.size = D + 1:=⟨P.types.size - 1,by omega⟩
  obtain ⟨m1,m2⟩:=IW (P:=P) (D:=D) (e:=e) g3 hs hr
  have hsz : cs.size = P.cellsOf k:=by rw [h5]; simpa using m1
  have hform : (Value.agg cs).formed P k = true:=by simp [Value.formed,hq,hsz]
  unfold keyOf
  simp only [hq,h2,hform,Bool.and_self,if_true,Value.cells]
  rw [hD]
  obtain ⟨as,m3⟩:=mapM_some (l:=List.range n) (f:=fun i=>P.keyLits (D + 1) e ((cs.toList.drop (i * P.cellsOf e)).take (P.cellsOf e))) fun i hi=>by
   rw [g2,Nat.mul_one]
   exact m2 i (by rw [m1,<- g1]; simpa using hi)
  have : P.keyLits (D + 1 + 1) k cs.toList = some as.flatten:=by
   conv=>lhs; unfold Program.keyLits
   simp only [hq]
   rw [if_pos (by simpa using hsz),m3]; rfl
  rw [this]
  exact ⟨_,rfl⟩
 ·cases h

def OM (P : Program) : List Field -> List AV -> Nat -> Bool
 | [],[],_=>true
 | f :: fs,x :: xs,n=>Nat.beq f.offset n && Nat.beq (P.cellsOf f.type) 1 && (f.name != "_") && (match P.underlying f.type,x with
   | some (.int q),.int q' _=>nC q q'
   | some .string,.str _=>true
   | some .bool,.ff=>true
   | _,_=>false) && OM P fs xs (n + 1)
 | _,_,_=>false

def UH (P : Program) (d : Option TypeDesc) : List AV -> Bool
 | []=>true
 | x :: xs=>(match d,x with
   | some (.int q),.int q' _=>nC q q'
   | some .string,.str _=>true
   | some .bool,.ff=>true
   | _,_=>false) && UH P d xs

def WL (P : Program) (t : Nat) (zs : List AV) : Bool :=
 P.keyTypeAt 2 t && P.keyType t && P.tiled 2 t && Nat.ble 1 P.types.size && Nat.beq (P.cellsOf t) zs.length && !P.eqGuardType P.depth t && (match P.underlying t with
 | some (.struct fs)=>OM P fs.toList zs 0
 | some (.array n e)=>Nat.beq n zs.length && Nat.beq (P.cellsOf e) 1 && UH P (P.underlying e) zs
 | _=>false)

theorem Ip {P : Program} {w : World} {Im : Nat -> Nat -> Prop} {t : Nat} {x y : AV} {c : List Value} {D : Nat} (h : (match P.underlying t,x with
  | some (.int q),.int q' _=>nC q q'
  | some .string,.str _=>true
  | some .bool,.ff=>true
  | _,_=>false) = true) (hs : iZ x y = true) (hr : Rd w Im y c) : c.length = 1 /\ ∃ a,P.keyLits (D + 1) t c = some a:=by
 split at h
 ·rename_i q q' n hq
  obtain rfl:=fJ h
  cases y <;> first | (simp [iZ] at hs; done) | skip
  obtain rfl:=fJ hs
  simp only [Rd] at hr
  obtain ⟨rfl,hi⟩:=hr
  rename_i m
  refine ⟨rfl,[.int q m],?_⟩
  unfold Program.keyLits
  simp only [hq]
  rw [if_pos ⟨trivial,by simpa [Lit.wf,qM] using hi⟩]
 ·rename_i hq
  cases y <;> first | (simp [iZ] at hs; done) | skip
  rename_i s
  simp only [Rd] at hr
  obtain ⟨rfl,hi⟩:=hr
  refine ⟨rfl,[.string s],?_⟩
  unfold Program.keyLits
  simp only [hq]
  have hi' : s.length <= maxLen:=hi
  rw [if_pos (by simpa [ByteArray.size] using hi')]
 ·rename_i hq
  have : ∃ b,c = [.bool b]:=by
   cases y <;> first | (simp [iZ] at hs; done) | skip
   ·simp only [Rd] at hr; exact ⟨_,hr⟩
   ·simp only [Rd] at hr; exact ⟨_,hr⟩
   ·simp only [Rd] at hr; exact ⟨_,hr⟩
   ·simp only [Rd] at hr; obtain ⟨b,h,_⟩:=hr; exact ⟨b,h⟩
  obtain ⟨b,rfl⟩:=this
  refine ⟨rfl,[.bool b],?_⟩
  unfold Program.keyLits
  simp only [hq]
 ·cases h

theorem IL {P : Program} {w : World} {Im : Nat -> Nat -> Prop} {D : Nat} {cs : List Value} : ∀ {fs : List Field} {xs ys : List AV} {n : Nat},OM P fs xs n = true -> fU xs ys = true -> jY w Im ys (cs.drop n) ->
  (∃ as,(fs.mapM fun f=>P.keyLits (D + 1) f.type ((cs.drop f.offset).take (P.cellsOf f.type))) = some as) /\ (cs.drop n).length = xs.length /\ fs.all (·.name != "_") = true
 | [],[],ys,n,_,hs,hr=>by
   cases ys with
   | nil=>simp only [jY] at hr; exact ⟨⟨[],rfl⟩,by rw [hr]; rfl,rfl⟩
   | cons y ys=>simp [fU] at hs
 | [],_ :: _,_,_,h,_,_=>by simp [OM] at h
 | _ :: _,[],_,_,h,_,_=>by simp [OM] at h
 | f :: fs,x :: xs,ys,n,h,hs,hr=>by
   cases ys with
   | nil=>simp [fU] at hs
   | cons y ys =>
     simp only [OM,Bool.and_eq_true] at h
     obtain ⟨⟨⟨⟨h1,h2⟩,h3⟩,h4⟩,h5⟩:=h
     simp only [fU] at hs
     cases qx : iZ x y with
     | false=>simp [qx] at hs
     | true =>
     rw [qx] at hs
     simp only [jY] at hr
     obtain ⟨c,d,e,g1,g2⟩:=hr
     obtain ⟨k1,a,k2⟩:=Ip (D:=D) h4 qx g1
     have hd : cs.drop (n + 1) = d:=by
      rw [<- List.drop_drop,e,List.drop_append_of_le_length (by omega),List.drop_eq_nil_of_le (by omega),List.nil_append]
     obtain ⟨⟨as,m1⟩,m2,m3⟩:=IL (P:=P) (D:=D) (cs:=cs) (n:=n + 1) h5 hs (by rw [hd]; exact g2)
     have h1:=Nat.eq_of_beq_eq_true h1
     have h2:=Nat.eq_of_beq_eq_true h2
     have ht : (cs.drop f.offset).take (P.cellsOf f.type) = c:=by
      rw [h1,h2,e,List.take_append_of_le_length (by omega),List.take_of_length_le (by omega)]
     refine ⟨⟨a :: as,?_⟩,?_,?_⟩
     ·rw [List.mapM_cons,ht,k2,m1]; rfl
     ·rw [e,List.length_append,k1,<- hd,m2,List.length_cons]; omega
     ·simp only [List.all_cons,Bool.and_eq_true]; exact ⟨h3,m3⟩

theorem IV {P : Program} {w : World} {Im : Nat -> Nat -> Prop} {D e : Nat} : ∀ {xs ys : List AV} {cs : List Value},UH P (P.underlying e) xs = true -> fU xs ys = true -> jY w Im ys cs ->
  cs.length = xs.length /\ ∀ i,i < cs.length -> ∃ a,P.keyLits (D + 1) e ((cs.drop i).take 1) = some a
 | [],ys,cs,_,hs,hr=>by
   cases ys with
   | nil=>simp only [jY] at hr; subst hr; exact ⟨rfl,fun i hi=>by simp at hi⟩
   | cons y ys=>simp [fU] at hs
 | x :: xs,ys,cs,h,hs,hr=>by
   cases ys with
   | nil=>simp [fU] at hs
   | cons y ys =>
     simp only [UH,Bool.and_eq_true] at h
     simp only [fU] at hs
     cases qx : iZ x y with
     | false=>simp [qx] at hs
     | true =>
     rw [qx] at hs
     simp only [jY] at hr
     obtain ⟨c,d,rfl,g1,g2⟩:=hr
     obtain ⟨k1,a,k2⟩:=Ip (D:=D) h.1 qx g1
     obtain ⟨m1,m2⟩:=IV (P:=P) (D:=D) (e:=e) h.2 hs g2
     refine ⟨by simp [k1,m1]; omega,fun i hi=>?_⟩
     cases i with
     | zero=>exact ⟨a,by rw [List.drop_zero,List.take_append_of_le_length (by omega),List.take_of_length_le (by omega)]; exact k2⟩
     | succ i =>
       obtain ⟨a',h'⟩:=m2 i (by simp [k1] at hi; omega)
       refine ⟨a',?_⟩
       have : (c ++ d).drop (i + 1) = d.drop i:=by
        match c,k1 with
        | [v],_=>rfl
       rw [this]; exact h'

theorem Lh {P : Program} {t : Nat} {zs : List AV} (h : WL P t zs = true) : Yk P t zs:=by
 unfold WL at h
 simp only [Bool.and_eq_true] at h
 obtain ⟨⟨⟨⟨⟨⟨h1,h2⟩,h3⟩,h4⟩,h5⟩,h6⟩,h7⟩:=h
 have h4:=Nat.le_of_ble_eq_true h4
 have h5:=Nat.eq_of_beq_eq_true h5
 obtain ⟨D,hD⟩ : ∃ D,P.types.size = D + 1:=⟨P.types.size - 1,by omega⟩
 have hwide : (match P.underlying t with | some (.array _ _) | some (.struct _)=>true | _=>false) = true:=by
  split at h7 <;> first | (rename_i hq; rw [hq]) | cases h7
 have rd : ∀ w Im l (cs : Array Value),fU zs l = true -> jY w Im l cs.toList -> ∃ k,keyOf P t (.agg cs) = some k:=by
  intro w Im l cs hs hr
  split at h7
  ·rename_i fs hq
   obtain ⟨⟨as,m1⟩,m2,m3⟩:=IL (P:=P) (D:=D) (cs:=cs.toList) (n:=0) h7 hs (by simpa using hr)
   have hsz : cs.size = P.cellsOf t:=by rw [h5]; simpa using m2
   have hform : (Value.agg cs).formed P t = true:=by simp [Value.formed,hq,hsz]
   unfold keyOf
   simp only [hq,h2,hform,Bool.and_self,if_true,Value.cells]
   rw [hD]
   have : P.keyLits (D + 1 + 1) t cs.toList = some as.flatten:=by
    conv=>lhs; unfold Program.keyLits
    simp only [hq]
    rw [if_pos ⟨by simpa using hsz,by simpa using m3⟩,m1]; rfl
   rw [this]
   exact ⟨_,rfl⟩
  ·rename_i n e hq
   simp only [Bool.and_eq_true] at h7
   obtain ⟨⟨g1,g2⟩,g3⟩:=h7
   have g1:=Nat.eq_of_beq_eq_true g1
   have g2:=Nat.eq_of_beq_eq_true g2
   obtain ⟨m1,m2⟩:=IV (P:=P) (D:=D) (e:=e) g3 hs hr
   have hsz : cs.size = P.cellsOf t:=by rw [h5]; simpa using m1
   have hform : (Value.agg cs).formed P t = true:=by simp [Value.formed,hq,hsz]
   unfold keyOf
   simp only [hq,h2,hform,Bool.and_self,if_true,Value.cells]
   rw [hD]
   obtain ⟨as,m3⟩:=mapM_some (l:=List.range n) (f:=fun i=>P.keyLits (D + 1) e ((cs.toList.drop (i * P.cellsOf e)).take (P.cellsOf e))) fun i hi=>by
    rw [g2,Nat.mul_one]
    exact m2 i (by rw [m1,<- g1]; simpa using hi)
   have : P.keyLits (D + 1 + 1) t cs.toList = some as.flatten:=by
    conv=>lhs; unfold Program.keyLits
    simp only [hq]
    rw [if_pos (by simpa using hsz),m3]; rfl
   rw [this]
   exact ⟨_,rfl⟩
  ·cases h7
 refine ⟨fun w Im l m cs ds q1 q2 r1 r2=>?_,by simpa using h6⟩
 obtain ⟨lx,e1⟩:=rd w Im l cs q1 r1
 obtain ⟨ly,e2⟩:=rd w Im m ds q2 r2
 obtain ⟨r,hrun,hiff⟩:=run_equal_deep w (m:=2) (by omega) h1 hwide e1 e2
 refine ⟨r,hrun,hiff.trans ⟨fun e=>?_,fun e=>?_⟩⟩
 ·have K:=deep_law (m:=2) (by omega) h1 h3 hwide
  have:=K.inj (e1.trans (by rw [e])) e2
  exact (Value.agg.injEq _ _).mp this
 ·subst e; exact Option.some.inj (e1.symm.trans e2)

def YD (P : Program) (t : Nat) (i : TI) : Bool :=
 (match i.cmp,i.zero with
 | true,.ag zs=>WL P t zs
 | _,_=>true) &&
 (match i.desc,i.key with
 | .map k _,some sh=>Ws P k sh
 | _,none=>true
 | _,some _=>false) &&
 (match P.info? t with
 | some x=>Nat.beq x.size (flat i.zero) && Nat.beq x.bytes i.bytes && (match x.zero with
   | some v=>(match zB i.zero v.cells.toList with | some []=>true | _=>false) && (cZ i.zero == pF v) && !(match v with | .tuple _=>true | _=>false)
   | none=>false)
 | none=>false) &&
 (match P.underlying t with
 | some d=>decide (descOf P d = i.desc)
 | none=>false) &&
 (QL i.desc == cZ i.zero) &&
 (match i.desc,i.zero with
 | .struct fs,.ag zs=>decide (fs.map (fun f=>(f.1,f.2.1)) = qU 0 zs) && fs.all fun f=>(P.info? f.2.2).isSome
 | .struct _,_=>false
 | _,_=>true)

theorem BZ {v : Value} (h : pF v = false) : (∃ vs,v = .tuple vs) \/ v.cells = #[v]:=by
 cases v <;> first | (simp [pF] at h; done) | exact .inl ⟨_,rfl⟩ | exact .inr rfl

theorem Oh {P : Program} {t : Nat} {i : TI} (h : YD P t i = true) : lZ P t i:=by
 unfold YD at h
 simp only [Bool.and_eq_true] at h
 obtain ⟨⟨⟨⟨⟨hq,h0⟩,h1⟩,h2⟩,h3⟩,h4⟩:=h
 refine ⟨fun hc zs hz=>Lh (by rw [hc,hz] at hq; exact hq),fun k e sh hd hk=>KJ (by rw [hd,hk] at h0; exact h0),?_,?_,by simpa using h3,?_,?_⟩
 ·cases hx : P.info? t with
  | none=>simp [hx] at h1
  | some x =>
    simp only [hx,Bool.and_eq_true] at h1
    obtain ⟨⟨g1,g2⟩,g3⟩:=h1
    cases hz : x.zero with
    | none=>simp [hz] at g3
    | some v =>
      simp only [hz,Bool.and_eq_true] at g3
      obtain ⟨⟨g4,g5⟩,g6⟩:=g3
      refine ⟨x,v,rfl,Nat.eq_of_beq_eq_true g1,Nat.eq_of_beq_eq_true g2,hz,⟨fun hA=>?_,fun hA=>?_⟩,fun w Im=>?_⟩
      ·rw [hA] at g5
       cases v <;> simp [pF] at g5
       exact ⟨_,rfl⟩
      ·rw [hA] at g5
       rcases BZ (v:=v) (by simpa using g5) with ⟨vs,rfl⟩ | h
       ·simp at g6
       ·exact h
      ·split at g4
       ·obtain ⟨d,e1,e2⟩:=H8 (w:=w) (Im:=Im) _ _ _ ‹_›
        rw [e1,List.append_nil]; exact e2
       ·cases g4
 ·cases hd : P.underlying t with
  | none=>simp [hd] at h2
  | some d=>simp only [hd] at h2; simp [of_decide_eq_true h2]
 ·intro fs hfs
  rw [hfs] at h4
  cases hz : i.zero <;> simp only [hz] at h4 <;> first | (cases h4; done) | skip
  simp only [Bool.and_eq_true] at h4
  exact ⟨_,rfl,of_decide_eq_true h4.1⟩
 ·intro fs hfs f hf
  rw [hfs] at h4
  cases hz : i.zero <;> simp only [hz] at h4 <;> first | (cases h4; done) | skip
  simp only [Bool.and_eq_true] at h4
  have:=List.all_eq_true.1 h4.2 f hf
  exact Option.isSome_iff_exists.1 this

def Ut (P : Program) : Lay -> Bool
 | .nil=>true
 | .node l t i r=>Ut P l && YD P t i && Ut P r

theorem uM {P : Program} : ∀ {L : Lay},Ut P L = true -> bW P L
 | .nil,_=>trivial
 | .node l t i r,h=>by
   simp only [Ut,Bool.and_eq_true] at h
   exact ⟨Oh h.1.2,uM h.1.1,uM h.2⟩

end Go.AL

namespace Go.AL

def F8 : List Nat -> Nat -> Bool
 | [],_=>false
 | x :: l,t=>match Nat.beq x t with | true=>true | false=>F8 l t

theorem AZ {t : Nat} : ∀ {l : List Nat},F8 l t = false -> t ∉ l
 | [],_=>by simp
 | x :: l,h=>by
   simp only [F8] at h
   cases hb : Nat.beq x t with
   | true=>rw [hb] at h; cases h
   | false =>
     rw [hb] at h
     have:=eG hb
     simp only [List.mem_cons,not_or]
     exact ⟨fun e=>this e.symm,AZ h⟩

def keep (ws : List Nat) : Env -> Env
 | []=>[]
 | (t,A) :: e=>match F8 ws t with
   | true=>keep ws e
   | false=>(t,A) :: keep (t :: ws) e

def EG (ws : List Nat) : Env -> (Env -> Prop) -> Prop
 | [],k=>k []
 | (t,A) :: e,k=>match F8 ws t with
   | true=>EG ws e k
   | false=>EG (t :: ws) e fun m=>k ((t,A) :: m)

theorem xR : ∀ {e : Env} {ws : List Nat} {k : Env -> Prop},EG ws e k ↔ k (keep ws e)
 | [],_,_=>Iff.rfl
 | (t,A) :: e,ws,k=>by
   simp only [EG,keep]
   cases F8 ws t with
   | true=>exact xR
   | false=>exact xR

theorem Bl : ∀ {e : Env} {ws : List Nat} {t : Nat} {A : AV},(t,A) ∈ keep ws e -> dL e t = some A /\ t ∉ ws
 | [],_,_,_,h=>by simp [keep] at h
 | (i,B) :: e,ws,t,A,h=>by
   simp only [keep] at h
   cases hm : F8 ws i with
   | true =>
     rw [hm] at h
     obtain ⟨h1,h2⟩:=Bl h
     have hne : i ≠ t:=by
      intro e; subst e
      have hf : ∀ {l : List Nat},i ∉ l -> F8 l i = false:=by
       intro l
       induction l with
       | nil=>intro _; rfl
       | cons x l ih =>
         intro hn
         simp only [List.mem_cons,not_or] at hn
         simp only [F8]
         cases hb : Nat.beq x i with
         | true=>exact absurd (Nat.eq_of_beq_eq_true hb).symm hn.1
         | false=>exact ih hn.2
      rw [hf h2] at hm; cases hm
     simp only [dL]
     cases hb : Nat.beq i t with
     | true=>exact absurd (Nat.eq_of_beq_eq_true hb) hne
     | false=>exact ⟨h1,h2⟩
   | false =>
     rw [hm] at h
     rcases List.mem_cons.1 h with h | h
     ·simp at h
      obtain ⟨rfl,rfl⟩:=h
      exact ⟨by simp [dL],AZ hm⟩
     ·obtain ⟨h1,h2⟩:=Bl h
      simp only [List.mem_cons,not_or] at h2
      simp only [dL]
      cases hb : Nat.beq i t with
      | true=>exact absurd (Nat.eq_of_beq_eq_true hb).symm h2.1
      | false=>exact ⟨h1,h2.2⟩

def SQ : Env -> Env -> (Env -> Prop) -> Prop
 | [],m,k=>k m
 | x :: l,m,k=>SQ l m fun l'=>k (x :: l')

theorem Jz {m : Env} {k : Env -> Prop} : ∀ {l : Env},SQ l m k ↔ k (l ++ m)
 | []=>Iff.rfl
 | x :: l=>by simp only [SQ]; exact Jz

def Yy : Env -> Prop
 | []=>True
 | (_,A) :: e=>Ok A /\ Yy e

theorem TB : ∀ {e : Env},(∀ t A,(t,A) ∈ e -> Ok A) -> Yy e
 | [],_=>trivial
 | (t,A) :: e,h=>⟨h t A (by simp),TB fun t A hm=>h t A (by simp [hm])⟩

theorem aA.run {ws : List Nat} {body : (AX -> Env -> Heap -> Prop) -> Env -> Heap -> Prop} {Q : AX -> Env -> Heap -> Prop} {e : Env} {H : Heap} {e₁ : Env} {H₁ : Heap}
  (cv : Cv e H e₁ H₁) (ι : Type) (E : ι -> Env) (HS : ι -> Heap) (μ : ι -> Nat) (i₀ : ι) (hn : ∀ i,nextId (HS i) = nextId H₁) (h0 : LP e₁ (nextId H₁) (E i₀) /\ HWk H₁ (HS i₀))
  (Bq : ∀ i,Yy (E i) -> EG ws e₁ fun kept=>SQ (E i) kept fun e'=>body (fun x e' H'=>match x with
    | .normal=>∃ i',(LP e' (nextId (HS i')) (E i') /\ HWk H' (HS i')) /\ μ i' < μ i
    | x=>Q x e' H') e' (HS i)) : aA Ok ws body Q e H:=by
 refine ⟨e₁,H₁,ι,E,keep ws e₁,HS,μ,i₀,fun i e' H'=>∃ i',(LP e' (nextId (HS i')) (E i') /\ HWk H' (HS i')) /\ μ i' < μ i,fun i e' H' h=>?_,cv,fun t A hm=>?_,hn,h0,fun i hi=>?_⟩
 ·obtain ⟨i',h1,h2⟩:=h
  exact ⟨i',e',H',.refl _ _,h1,h2⟩
 ·obtain ⟨h1,h2⟩:=Bl hm
  exact ⟨h1,by simpa using h2⟩
 ·exact Jz.1 (xR.1 (Bq i (TB hi)))

end Go.AL

namespace Go.AL

theorem aA.inv {ws : List Nat} {body : (AX -> Env -> Heap -> Prop) -> Env -> Heap -> Prop} {Q : AX -> Env -> Heap -> Prop} {e : Env} {H : Heap} {e₁ : Env} {H₁ : Heap}
  (cv : Cv e H e₁ H₁) {ι : Type} (Inv : ι -> Prop) (E : ι -> Env) (HS : ι -> Heap) (μ : ι -> Nat) (i₀ : ι) (hI : Inv i₀) (hn : ∀ i,nextId (HS i) = nextId H₁) (h0 : LP e₁ (nextId H₁) (E i₀) /\ HWk H₁ (HS i₀))
  (Bq : ∀ i,Inv i -> Yy (E i) -> EG ws e₁ fun kept=>SQ (E i) kept fun e'=>body (fun x e' H'=>match x with
    | .normal=>∃ i',Inv i' /\ (LP e' (nextId (HS i')) (E i') /\ HWk H' (HS i')) /\ μ i' < μ i
    | x=>Q x e' H') e' (HS i)) : aA Ok ws body Q e H:=by
 refine aA.run cv { i : ι // Inv i } (fun i=>E i.1) (fun i=>HS i.1) (fun i=>μ i.1) ⟨i₀,hI⟩ (fun i=>hn i.1) h0 fun i hi=>?_
 have:=Bq i.1 i.2 hi
 have he : (fun (x : AX) (e' : Env) (H' : Heap)=>match x with
       | .normal=>∃ i',Inv i' /\ (LP e' (nextId (HS i')) (E i') /\ HWk H' (HS i')) /\ μ i' < μ i.1
       | x=>Q x e' H') = (fun (x : AX) (e' : Env) (H' : Heap)=>match x with
       | .normal=>∃ i' : { i : ι // Inv i },(LP e' (nextId (HS i'.1)) (E i'.1) /\ HWk H' (HS i'.1)) /\ μ i'.1 < μ i.1
       | x=>Q x e' H'):=by
  funext x e H
  cases x with
  | normal=>exact propext ⟨fun ⟨i',h1,h2,h3⟩=>⟨⟨i',h1⟩,h2,h3⟩,fun ⟨i',h2,h3⟩=>⟨i'.1,i'.2,h2,h3⟩⟩
  | _=>rfl
 rw [he] at this
 exact this

theorem aJ.of {ws : List Nat} {body : (AX -> Env -> Heap -> Prop) -> Env -> Heap -> Prop} {Q : AX -> Env -> Heap -> Prop} {e : Env} {H : Heap} (h : aA Ok ws body Q e H) : aJ Ok ws body Q e H:=.ex ⟨0,h⟩

theorem aJ.step {ws : List Nat} {body : (AX -> Env -> Heap -> Prop) -> Env -> Heap -> Prop} {Q : AX -> Env -> Heap -> Prop} {e : Env} {H : Heap} (n : Nat)
  (h : body (fun x e' H'=>match x with | .normal=>LoopN Ok ws body Q n e' H' | x=>Q x e' H') e H) : aJ Ok ws body Q e H:=.ex ⟨n + 1,h⟩

theorem sK {L : Lay} {e : Env} {H : Heap} : ∀ {res : List ResultVar} {k k' : List AV -> Prop},(∀ As,k As -> k' As) -> DW L e H res k -> DW L e H res k'
 | [],k,k',hk,h=>hk _ h
 | .tmp t :: l,k,k',hk,h=>by
   obtain ⟨A,h1,h2⟩:=fO.1 h
   exact fO.2 ⟨A,h1,sK (fun As=>hk _) h2⟩
 | .cell t ty :: l,k,k',hk,h=>by
   obtain ⟨A,h1,h2⟩:=fO.1 h
   refine fO.2 ⟨A,h1,?_⟩
   obtain ⟨R,h3,h4⟩:=iT L ty A H _ h2
   exact h4 _ (sK (fun As=>hk _) h3)

theorem Ee {l : List AV} {k k' : AV -> Prop} (hk : ∀ A,k A -> k' A) (h : FI l k) : FI l k':=by
 unfold FI at h ⊢
 split
 ·rename_i A
  exact hk _ h
 ·rename_i hne
  split at h
  ·exact absurd rfl (hne _)
  ·obtain ⟨h1,h2⟩:=BI _ _ h
   exact h2 _ (hk _ h1)

theorem iO.mono {L : Lay} {res : List ResultVar} {R : AV} {e : Env} {H : Heap} (h : DW L e H res fun As=>FI As fun A=>le A R /\ dB 0 R = true) : iO L res [] R [] e H:=by
 refine ⟨e,H,.refl _ _,sK (fun As=>Ee fun A h=>?_) h⟩
 exact ⟨h.1,h.2,Nat.le_refl _,.mk trivial trivial⟩

theorem fM {L : Lay} {res : List ResultVar} {R : AV} {e : Env} {H : Heap} (h : DW L e H res fun As=>FI As fun A=>le A R /\ dB 0 R = true) : iO L res [] R [] e H:=iO.mono h
theorem aI {p q : Prop} (a : p) (b : q) : p /\ q:=⟨a,b⟩
theorem wR {H : Heap} : HWk H H:=.refl rfl
theorem lR (l : List AV) : dR l l:=aP l
theorem bY {p A B : Prop} (h : p) (k : A) : (p -> A) /\ (¬ p -> B):=⟨fun _=>k,fun h'=>absurd h h'⟩
theorem bN {p A B : Prop} (h : ¬ p) (k : B) : (p -> A) /\ (¬ p -> B):=⟨fun h'=>absurd h' h,fun _=>k⟩

theorem iO.same {L : Lay} {res : List ResultVar} {R : AV} {e : Env} {H : Heap} (h : DW L e H res fun As=>FI As fun A=>le A R /\ dB (nextId H) R = true) : iO L res H R H e H:=by
 refine ⟨e,H,.refl _ _,sK (fun As=>Ee fun A h=>?_) h⟩
 exact ⟨h.1,h.2,Nat.le_refl _,.refl rfl⟩

theorem bg.auto {F : FT} {L : Lay} {ops : List Oper} {e : Env} {H : Heap} {k : Env -> Heap -> Prop} (h1 : ER ops (ops.map fun o=>X3 o.op) = true)
  (h2 : oG F L ops (ops.zip (ops.map fun o=>X3 o.op)) e H k) : bg F L ops e H k:=.mk ⟨_,h1,h2⟩

theorem iH {α : Type} {f : α -> AV} {l : List α} {i : Nat} {k : AV -> Prop} (h : i < l.length) (hk : k (f l[i])) : iY (l.map f) (i : Int) k :=
 ⟨⟨f l[i],⟨Int.natCast_nonneg _,by simp [h]⟩,hk⟩⟩

theorem yX {α : Type} (d : α) {f : α -> AV} {l : List α} {n : Int} {k : AV -> Prop} (h : 0 <= n /\ n < (l.length : Int)) (hk : k (f (l.getD n.toNat d))) : iY (l.map f) n k:=by
 have hlt : n.toNat < l.length:=by omega
 refine ⟨⟨f (l.getD n.toNat d),⟨h.1,?_⟩,hk⟩⟩
 simp [List.getD_eq_getElem?_getD,hlt]

theorem bP {n : Int} (h1 : -9223372036854775808 <= n) (h2 : n <= 9223372036854775807) : qM .i64 n:=by
 simp [qM,IntKind.min,IntKind.max,IntKind.signed,IntKind.bits]; omega

end Go.AL

namespace Go.AL

def sg : List Nat -> Nat -> Nat -> Nat
 | [],n,k=>n + k
 | x :: _,_,0=>x
 | _ :: l,n,k + 1=>sg l n k

def ix : List Nat -> Nat -> Option Nat
 | [],_=>none
 | x :: l,i=>match Nat.beq x i with
   | true=>some 0
   | false=>match ix l i with
     | some k=>some (k + 1)
     | none=>none

mutual
def gY (σ : Nat -> Nat) : AV -> AV
 | .ptr k p o=>.ptr (σ k) p o
 | .ms k a b c d=>.ms (σ k) a b c d
 | .mp k=>.mp (σ k)
 | .gs k n=>.gs (σ k) n
 | .bm f k=>.bm f (σ k)
 | .sl s l (.own k)=>.sl s l (.own (σ k))
 | .fn f cap=>.fn f (DL σ cap)
 | .ag l=>.ag (DL σ l)
 | .dS l=>.dS (DL σ l)
 | .jB t x=>.jB t (gY σ x)
 | A=>A
def DL (σ : Nat -> Nat) : List AV -> List AV
 | []=>[]
 | x :: l=>gY σ x :: DL σ l
end

def Xn (σ : Nat -> Nat) : List (AV × AV) -> List (AV × AV)
 | []=>[]
 | (x,y) :: l=>(gY σ x,gY σ y) :: Xn σ l

def Oo (σ : Nat -> Nat) : HO -> HO
 | .box A=>.box (gY σ A)
 | .iD sh es=>.iD sh (Xn σ es)
 | o=>o

def zf (l : List Nat) (n : Nat) (G : Heap) : Heap -> Heap
 | []=>[]
 | (i,o) :: H=>(i,match ix l i with
   | some k=>(match hget G k with | some o'=>Oo (sg l n) o' | none=>.gone)
   | none=>o) :: zf l n G H

def newH (l : List Nat) (n : Nat) : Heap -> Heap -> Heap
 | [],H=>H
 | (k,o) :: G,H=>match Nat.ble l.length k with
   | true=>(sg l n k,Oo (sg l n) o) :: newH l n G H
   | false=>H

def OL (l : List Nat) (G H : Heap) : Heap:=newH l (nextId H) G (zf l (nextId H) G H)

def BA : Nat -> Heap -> Bool
 | 0,[]=>true
 | m + 1,(i,_) :: H=>match Nat.beq i m with | true=>BA m H | false=>false
 | _,_=>false

def nodupB : List Nat -> Bool
 | []=>true
 | x :: l=>match ix l x with | some _=>false | none=>nodupB l

def yV (n : Nat) : List Nat -> Bool
 | []=>true
 | x :: l=>match Nat.blt x n with | true=>yV n l | false=>false

def Tt (σ : Nat -> Nat) (m : Nat) (H : Heap) : Heap -> Prop
 | []=>True
 | (k,o) :: G=>jC H (σ k) (fun o'=>JW o' (Oo σ o) /\ (match o with | .iD _ es=>uT m es = true | o=>LD m o = true)) /\ Tt σ m H G

theorem Au : ∀ {l : List Nat} {n k : Nat},l.length <= k -> sg l n k = n + (k - l.length)
 | [],n,k,_=>by simp [sg]
 | x :: l,n,0,h=>by simp at h
 | x :: l,n,k + 1,h=>by simp only [sg]; rw [Au (by simpa using h)]; simp

theorem MG : ∀ {l : List Nat} {n k : Nat} (h : k < l.length),sg l n k = l[k]
 | [],_,_,h=>by simp at h
 | x :: l,n,0,_=>rfl
 | x :: l,n,k + 1,h=>by simp only [sg]; rw [MG (by simpa using h)]; rfl

theorem Gl : ∀ {l : List Nat} {i k : Nat},ix l i = some k -> ∃ h : k < l.length,l[k] = i
 | [],_,_,h=>by simp [ix] at h
 | x :: l,i,k,h=>by
   simp only [ix] at h
   cases hb : Nat.beq x i with
   | true =>
     rw [hb] at h
     obtain rfl:=Nat.eq_of_beq_eq_true hb
     obtain rfl:=Option.some.inj h
     exact ⟨by simp,rfl⟩
   | false =>
     rw [hb] at h
     cases hx : ix l i with
     | none=>simp [hx] at h
     | some j =>
       simp only [hx] at h
       obtain rfl:=Option.some.inj h
       obtain ⟨h1,h2⟩:=Gl hx
       exact ⟨by simpa using h1,by simpa using h2⟩

theorem MQ : ∀ {l : List Nat} {i : Nat},ix l i = none -> i ∉ l
 | [],_,_=>by simp
 | x :: l,i,h=>by
   simp only [ix] at h
   cases hb : Nat.beq x i with
   | true=>rw [hb] at h; cases h
   | false =>
     rw [hb] at h
     cases hx : ix l i with
     | some j=>simp [hx] at h
     | none=>simp only [List.mem_cons,not_or]; exact ⟨fun e=>eG hb e.symm,MQ hx⟩

theorem QK : ∀ {l : List Nat} {k : Nat} (h : k < l.length),nodupB l = true -> ix l l[k] = some k
 | [],_,h,_=>by simp at h
 | x :: l,0,_,_=>by simp [ix]
 | x :: l,k + 1,h,hn=>by
   simp only [nodupB] at hn
   cases hx : ix l x with
   | some j=>simp [hx] at hn
   | none =>
     simp only [hx] at hn
     have:=QK (l:=l) (k:=k) (by simpa using h) hn
     simp only [List.getElem_cons_succ,ix,this]
     have hne : x ≠ l[k]'(by simpa using h):=fun e=>MQ hx (e ▸ List.getElem_mem _)
     cases hb : Nat.beq x (l[k]'(by simpa using h)) with
     | true=>exact absurd (Nat.eq_of_beq_eq_true hb) hne
     | false=>rfl

theorem yt {n : Nat} : ∀ {l : List Nat},yV n l = true -> ∀ x ∈ l,x < n
 | [],_,x,hx=>by simp at hx
 | y :: l,h,x,hx=>by
   simp only [yV] at h
   cases hb : Nat.blt y n with
   | false=>rw [hb] at h; cases h
   | true =>
     rw [hb] at h
     rcases List.mem_cons.1 hx with hx | hx
     ·subst hx; simpa using hb
     ·exact yt h x hx

def inv (l : List Nat) (n : Nat) (i : Nat) : Option Nat:=if n <= i then some (i - n + l.length) else ix l i

theorem KN {l : List Nat} {n : Nat} (hd : nodupB l = true) (hl : yV n l = true) (k : Nat) : inv l n (sg l n k) = some k:=by
 unfold inv
 by_cases hk : k < l.length
 ·rw [MG hk,if_neg (by have:=yt hl _ (List.getElem_mem hk); omega)]
  exact QK hk hd
 ·rw [Au (by omega),if_pos (by omega)]
  congr 1; omega

theorem Bo {l : List Nat} {n i k : Nat} (h : inv l n i = some k) : sg l n k = i:=by
 unfold inv at h
 split at h
 ·obtain rfl:=Option.some.inj h
  rw [Au (by omega)]; omega
 ·obtain ⟨h1,h2⟩:=Gl h
  rw [MG h1,h2]

theorem V3 {l : List Nat} {n : Nat} (hd : nodupB l = true) (hl : yV n l = true) {j k : Nat} (h : sg l n j = sg l n k) : j = k:=by
 have h1:=KN hd hl j
 rw [h,KN hd hl k] at h1
 exact (Option.some.inj h1).symm

theorem Uf {l : List Nat} {n k : Nat} (hl : yV n l = true) (hk : k < l.length) : sg l n k < n:=by
 rw [MG hk]; exact yt hl _ (List.getElem_mem hk)

theorem II {l : List Nat} {n : Nat} {G : Heap} : ∀ {H : Heap} {i : Nat},hget (zf l n G H) i = (hget H i).map fun o=>match ix l i with
  | some k=>(match hget G k with | some o'=>Oo (sg l n) o' | none=>.gone)
  | none=>o
 | [],_=>rfl
 | (j,o) :: H,i=>by
   simp only [zf,hget]
   cases hb : Nat.beq j i with
   | true=>obtain rfl:=Nat.eq_of_beq_eq_true hb; rfl
   | false=>exact II

theorem Md {l : List Nat} {n : Nat} {G : Heap} : ∀ {H : Heap},ak H -> ak (zf l n G H) /\ (∀ x ∈ zf l n G H,∃ y ∈ H,y.1 = x.1) /\ nextId (zf l n G H) = nextId H
 | [],_=>⟨trivial,by simp [zf],rfl⟩
 | (j,o) :: H,h=>by
   simp only [ak] at h
   obtain ⟨h1,h2,_⟩:=Md (l:=l) (n:=n) (G:=G) h.2
   refine ⟨?_,?_,rfl⟩
   ·simp only [zf,ak]
    refine ⟨fun x hx=>?_,h1⟩
    obtain ⟨y,hy,he⟩:=h2 x hx
    rw [<- he]; exact h.1 y hy
   ·intro x hx
    simp only [zf,List.mem_cons] at hx
    rcases hx with rfl | hx
    ·exact ⟨(j,o),by simp,rfl⟩
    ·obtain ⟨y,hy,he⟩:=h2 x hx
     exact ⟨y,by simp [hy],he⟩

theorem MN {l : List Nat} {n : Nat} {U : Heap} (hU : ak U) (hn : nextId U = n) : ∀ {G : Heap},ak G ->
  ak (newH l n G U) /\ (∀ x ∈ newH l n G U,x ∈ U \/ ∃ k o,(k,o) ∈ G /\ l.length <= k /\ x = (sg l n k,Oo (sg l n) o)) /\ (l.length <= nextId G -> nextId (newH l n G U) = n + (nextId G - l.length))
 | [],_=>⟨hU,fun x hx=>.inl hx,fun h=>by show nextId U = n + (0 - l.length); omega⟩
 | (k,o) :: G,hG=>by
   simp only [ak] at hG
   obtain ⟨h1,h2,h3⟩:=MN (l:=l) hU hn hG.2
   simp only [newH]
   cases hb : Nat.ble l.length k with
   | false =>
     refine ⟨hU,fun x hx=>.inl hx,fun h=>?_⟩
     have : ¬ l.length <= k:=fun h=>by rw [Nat.ble_eq_true_of_le h] at hb; cases hb
     show nextId U = n + (k + 1 - l.length)
     have h : l.length <= k + 1:=h
     omega
   | true =>
     have hk:=Nat.le_of_ble_eq_true hb
     refine ⟨⟨fun x hx=>?_,h1⟩,fun x hx=>?_,fun _=>?_⟩
     ·rw [Au hk]
      rcases h2 x hx with hx | ⟨k',o',hm,hk',rfl⟩
      ·have:=bf hU x hx; omega
      ·have:=hG.1 _ hm
       rw [Au hk']; simp at this ⊢; omega
     ·rcases List.mem_cons.1 hx with rfl | hx
      ·exact .inr ⟨k,o,by simp,hk,rfl⟩
      ·rcases h2 x hx with hx | ⟨k',o',hm,hk',rfl⟩
       ·exact .inl hx
       ·exact .inr ⟨k',o',by simp [hm],hk',rfl⟩
     ·simp only [nextId]
      rw [Au hk]; omega

theorem nR {σ : Nat -> Nat} (A : AV) : cZ (gY σ A) = cZ A:=by
 cases A <;> first | rfl | (rename_i t; cases t <;> rfl)

section
variable {c d : Cx} {σ : Nat -> Nat} {m : Nat}

mutual
theorem pU (hw : d.w = c.w) (hI : d.Im = c.Im) (hm : d.nx = m) (hρ : ∀ k,k < m -> d.ρ k = c.ρ (σ k)) (htk : ∀ k,k < m -> d.tk k = c.tk (σ k)) (htp : ∀ k n,k < m -> d.tp k = some n -> c.tp (σ k) = some n) :
  ∀ (A : AV) (cs : List Value),dB m A = true -> VR c (gY σ A) cs -> VR d A cs
 | .ptr k p o,cs,hb,h=>by
   have hk : k < m:=by simpa [dB] using hb
   simp only [gY,VR] at h ⊢
   rw [hm,hρ k hk]; exact ⟨hk,h.2⟩
 | .ms k _ _ _ _,cs,hb,h=>by
   have hk : k < m:=by simpa [dB] using hb
   simp only [gY,VR] at h ⊢
   rw [hm,hρ k hk]; exact ⟨hk,h.2⟩
 | .mp k,cs,hb,h=>by
   have hk : k < m:=by simpa [dB] using hb
   simp only [gY,VR] at h ⊢
   rw [hm,hρ k hk]; exact ⟨hk,h.2⟩
 | .bm f k,cs,hb,h=>by
   have hk : k < m:=by simpa [dB] using hb
   simp only [gY,VR] at h ⊢
   rw [hm,hρ k hk]; exact ⟨hk,h.2⟩
 | .gs k _,cs,hb,h=>by
   have hk : k < m:=by simpa [dB] using hb
   simp only [gY,VR] at h ⊢
   rw [hm,htk k hk]
   exact ⟨hk,h.2.1,fun n hn=>h.2.2 n (htp k n hk hn)⟩
 | .sl s l (.own k),cs,hb,h=>by
   have hk : k < m:=by simpa [dB] using hb
   simp only [gY,VR] at h ⊢
   rw [hw,hI,hm,htk k hk]
   exact ⟨hk,h.2.1,fun n hn=>h.2.2 n (htp k n hk hn)⟩
 | .fn f cap,cs,hb,h=>by
   simp only [dB] at hb
   simp only [gY,VR] at h ⊢
   obtain ⟨vs,h1,h2⟩:=h
   exact ⟨vs,h1,AA hw hI hm hρ htk htp cap vs hb h2⟩
 | .ag l,cs,hb,h=>by
   simp only [dB] at hb
   simp only [gY,VR] at h ⊢
   exact Io hw hI hm hρ htk htp l cs hb h
 | .dS l,cs,hb,h=>by simp only [gY,VR,Rd] at h
 | .jB t x,cs,hb,h=>by
   simp only [dB] at hb
   simp only [gY,VR] at h ⊢
   obtain ⟨v,h1,h2,h3⟩:=h
   refine ⟨v,h1,?_,pU hw hI hm hρ htk htp x _ hb h3⟩
   unfold dQ at *; rw [nR] at h2; exact h2
 | .bool _,_,_,h=>by simp only [gY,VR] at h ⊢; rw [hw,hI]; exact h
 | .tt,_,_,h=>by simp only [gY,VR] at h ⊢; rw [hw,hI]; exact h
 | .ff,_,_,h=>by simp only [gY,VR] at h ⊢; rw [hw,hI]; exact h
 | .dec _,_,_,h=>by simp only [gY,VR] at h ⊢; rw [hw,hI]; exact h
 | .int _ _,_,_,h=>by simp only [gY,VR] at h ⊢; rw [hw,hI]; exact h
 | .str _,_,_,h=>by simp only [gY,VR] at h ⊢; rw [hw,hI]; exact h
 | .dU,_,_,h=>by simp only [gY,VR] at h ⊢; rw [hw,hI]; exact h
 | .bH,_,_,h=>by simp only [gY,VR] at h ⊢; rw [hw,hI]; exact h
 | .sl _ _ .no,_,_,h=>by simp only [gY,VR] at h ⊢; rw [hw,hI]; exact h
 | .sl _ _ .full,_,_,h=>by simp only [gY,VR] at h ⊢; rw [hw,hI]; exact h
 | .cp _,_,_,h=>by simp only [gY,VR] at h ⊢; rw [hw,hI]; exact h
 | .fV,_,_,h=>by simp only [gY,VR] at h ⊢; rw [hw,hI]; exact h
 | .aY,_,_,h=>by simp only [gY,VR] at h ⊢; rw [hw,hI]; exact h
 | .jF,_,_,h=>by simp only [gY,VR] at h ⊢; rw [hw,hI]; exact h
 | .und,_,_,h=>by simp only [gY,VR,Rd] at h
theorem Io (hw : d.w = c.w) (hI : d.Im = c.Im) (hm : d.nx = m) (hρ : ∀ k,k < m -> d.ρ k = c.ρ (σ k)) (htk : ∀ k,k < m -> d.tk k = c.tk (σ k)) (htp : ∀ k n,k < m -> d.tp k = some n -> c.tp (σ k) = some n) :
  ∀ (l : List AV) (cs : List Value),iw m l = true -> kE c (DL σ l) cs -> kE d l cs
 | [],_,_,h=>by simpa only [DL,kE] using h
 | x :: l,cs,hb,h=>by
   simp only [iw] at hb
   simp only [DL,kE] at h ⊢
   obtain ⟨a,e,h1,h2,h3⟩:=h
   cases hx : dB m x with
   | false=>rw [hx] at hb; cases hb
   | true=>rw [hx] at hb; exact ⟨a,e,h1,pU hw hI hm hρ htk htp x _ hx h2,Io hw hI hm hρ htk htp l _ hb h3⟩
theorem AA (hw : d.w = c.w) (hI : d.Im = c.Im) (hm : d.nx = m) (hρ : ∀ k,k < m -> d.ρ k = c.ρ (σ k)) (htk : ∀ k,k < m -> d.tk k = c.tk (σ k)) (htp : ∀ k n,k < m -> d.tp k = some n -> c.tp (σ k) = some n) :
  ∀ (l : List AV) (vs : List Value),iw m l = true -> VA c (DL σ l) vs -> VA d l vs
 | [],_,_,h=>by simpa only [DL,VA] using h
 | x :: l,vs,hb,h=>by
   simp only [iw] at hb
   simp only [DL,VA] at h ⊢
   obtain ⟨v,r,h1,h2,h3,h4⟩:=h
   cases hx : dB m x with
   | false=>rw [hx] at hb; cases hb
   | true =>
     rw [hx] at hb
     refine ⟨v,r,h1,?_,pU hw hI hm hρ htk htp x _ hx h3,AA hw hI hm hρ htk htp l _ hb h4⟩
     unfold dQ at *; rw [nR] at h2; exact h2
end

mutual
theorem mJ (hw : d.w = c.w) (hI : d.Im = c.Im) (hnx : ∀ k,k < c.nx -> σ k < d.nx) (hρ : ∀ k,k < c.nx -> d.ρ (σ k) = c.ρ k) (htk : ∀ k,k < c.nx -> d.tk (σ k) = c.tk k) (htp : ∀ k n,k < c.nx -> d.tp (σ k) = some n -> c.tp k = some n) :
  ∀ (A : AV) (cs : List Value),VR c A cs -> VR d (gY σ A) cs
 | .ptr k p o,cs,h=>by
   simp only [gY,VR] at h ⊢
   rw [hρ k h.1]; exact ⟨hnx k h.1,h.2⟩
 | .ms k _ _ _ _,cs,h=>by
   simp only [gY,VR] at h ⊢
   rw [hρ k h.1]; exact ⟨hnx k h.1,h.2⟩
 | .mp k,cs,h=>by
   simp only [gY,VR] at h ⊢
   rw [hρ k h.1]; exact ⟨hnx k h.1,h.2⟩
 | .bm f k,cs,h=>by
   simp only [gY,VR] at h ⊢
   rw [hρ k h.1]; exact ⟨hnx k h.1,h.2⟩
 | .gs k _,cs,h=>by
   simp only [gY,VR] at h ⊢
   rw [htk k h.1]
   exact ⟨hnx k h.1,h.2.1,fun n hn=>h.2.2 n (htp k n h.1 hn)⟩
 | .sl s l (.own k),cs,h=>by
   simp only [gY,VR] at h ⊢
   rw [hw,hI,htk k h.1]
   exact ⟨hnx k h.1,h.2.1,fun n hn=>h.2.2 n (htp k n h.1 hn)⟩
 | .fn f cap,cs,h=>by
   simp only [gY,VR] at h ⊢
   obtain ⟨vs,h1,h2⟩:=h
   exact ⟨vs,h1,xI hw hI hnx hρ htk htp cap vs h2⟩
 | .ag l,cs,h=>by
   simp only [gY,VR] at h ⊢
   exact Es hw hI hnx hρ htk htp l cs h
 | .dS l,cs,h=>by simp only [VR,Rd] at h
 | .jB t x,cs,h=>by
   simp only [gY,VR] at h ⊢
   obtain ⟨v,h1,h2,h3⟩:=h
   refine ⟨v,h1,?_,mJ hw hI hnx hρ htk htp x _ h3⟩
   unfold dQ at *; rw [nR]; exact h2
 | .bool _,_,h=>by simp only [gY,VR] at h ⊢; rw [hw,hI]; exact h
 | .tt,_,h=>by simp only [gY,VR] at h ⊢; rw [hw,hI]; exact h
 | .ff,_,h=>by simp only [gY,VR] at h ⊢; rw [hw,hI]; exact h
 | .dec _,_,h=>by simp only [gY,VR] at h ⊢; rw [hw,hI]; exact h
 | .int _ _,_,h=>by simp only [gY,VR] at h ⊢; rw [hw,hI]; exact h
 | .str _,_,h=>by simp only [gY,VR] at h ⊢; rw [hw,hI]; exact h
 | .dU,_,h=>by simp only [gY,VR] at h ⊢; rw [hw,hI]; exact h
 | .bH,_,h=>by simp only [gY,VR] at h ⊢; rw [hw,hI]; exact h
 | .sl _ _ .no,_,h=>by simp only [gY,VR] at h ⊢; rw [hw,hI]; exact h
 | .sl _ _ .full,_,h=>by simp only [gY,VR] at h ⊢; rw [hw,hI]; exact h
 | .cp _,_,h=>by simp only [gY,VR] at h ⊢; rw [hw,hI]; exact h
 | .fV,_,h=>by simp only [gY,VR] at h ⊢; rw [hw,hI]; exact h
 | .aY,_,h=>by simp only [gY,VR] at h ⊢; rw [hw,hI]; exact h
 | .jF,_,h=>by simp only [gY,VR] at h ⊢; rw [hw,hI]; exact h
 | .und,_,h=>by simp only [VR,Rd] at h
theorem Es (hw : d.w = c.w) (hI : d.Im = c.Im) (hnx : ∀ k,k < c.nx -> σ k < d.nx) (hρ : ∀ k,k < c.nx -> d.ρ (σ k) = c.ρ k) (htk : ∀ k,k < c.nx -> d.tk (σ k) = c.tk k) (htp : ∀ k n,k < c.nx -> d.tp (σ k) = some n -> c.tp k = some n) :
  ∀ (l : List AV) (cs : List Value),kE c l cs -> kE d (DL σ l) cs
 | [],_,h=>by simpa only [DL,kE] using h
 | x :: l,cs,h=>by
   simp only [DL,kE] at h ⊢
   obtain ⟨a,e,h1,h2,h3⟩:=h
   exact ⟨a,e,h1,mJ hw hI hnx hρ htk htp x _ h2,Es hw hI hnx hρ htk htp l _ h3⟩
theorem xI (hw : d.w = c.w) (hI : d.Im = c.Im) (hnx : ∀ k,k < c.nx -> σ k < d.nx) (hρ : ∀ k,k < c.nx -> d.ρ (σ k) = c.ρ k) (htk : ∀ k,k < c.nx -> d.tk (σ k) = c.tk k) (htp : ∀ k n,k < c.nx -> d.tp (σ k) = some n -> c.tp k = some n) :
  ∀ (l : List AV) (vs : List Value),VA c l vs -> VA d (DL σ l) vs
 | [],_,h=>by simpa only [DL,VA] using h
 | x :: l,vs,h=>by
   simp only [DL,VA] at h ⊢
   obtain ⟨v,r,h1,h2,h3,h4⟩:=h
   refine ⟨v,r,h1,?_,mJ hw hI hnx hρ htk htp x _ h3,xI hw hI hnx hρ htk htp l _ h4⟩
   unfold dQ at *; rw [nR]; exact h2
end

end

theorem Il {c d : Cx} {σ : Nat -> Nat} {m : Nat} (hw : d.w = c.w) (hI : d.Im = c.Im) (hm : d.nx = m) (hρ : ∀ k,k < m -> d.ρ k = c.ρ (σ k)) (htk : ∀ k,k < m -> d.tk k = c.tk (σ k)) (htp : ∀ k n,k < m -> d.tp k = some n -> c.tp (σ k) = some n) :
  ∀ {l : List (AV × AV)} {es : List MapEntry},uT m l = true -> yY c (Xn σ l) es -> yY d l es
 | [],_,_,h=>h
 | (x,y) :: l,es,hb,h=>by
   obtain ⟨e,r,h1,h2,h3,h4⟩:=h
   simp only [uT] at hb
   cases hx : dB m x with
   | false=>rw [hx] at hb; cases hb
   | true =>
     cases hy : dB m y with
     | false=>rw [hx,hy] at hb; cases hb
     | true =>
       rw [hx,hy] at hb
       have sh : ∀ {A : AV} {v : Value},dQ (gY σ A) v -> dQ A v:=fun h=>by unfold dQ at *; rw [nR] at h; exact h
       exact ⟨e,r,h1,⟨sh h2.1,pU hw hI hm hρ htk htp _ _ hx h2.2⟩,⟨sh h3.1,pU hw hI hm hρ htk htp _ _ hy h3.2⟩,Il hw hI hm hρ htk htp hb h4⟩

theorem Ep {c d : Cx} {σ : Nat -> Nat} (hw : d.w = c.w) (hI : d.Im = c.Im) (hnx : ∀ k,k < c.nx -> σ k < d.nx) (hρ : ∀ k,k < c.nx -> d.ρ (σ k) = c.ρ k) (htk : ∀ k,k < c.nx -> d.tk (σ k) = c.tk k) (htp : ∀ k n,k < c.nx -> d.tp (σ k) = some n -> c.tp k = some n) :
  ∀ {l : List (AV × AV)} {es : List MapEntry},yY c l es -> yY d (Xn σ l) es
 | [],_,h=>h
 | (x,y) :: l,es,h=>by
   obtain ⟨e,r,h1,h2,h3,h4⟩:=h
   have sh : ∀ {A : AV} {v : Value},dQ A v -> dQ (gY σ A) v:=fun h=>by unfold dQ at *; rw [nR]; exact h
   exact ⟨e,r,h1,⟨sh h2.1,mJ hw hI hnx hρ htk htp _ _ h2.2⟩,⟨sh h3.1,mJ hw hI hnx hρ htk htp _ _ h3.2⟩,Ep hw hI hnx hρ htk htp h4⟩

theorem Kt {c d : Cx} {σ : Nat -> Nat} (hw : d.w = c.w) (hI : d.Im = c.Im) (hnx : ∀ k,k < c.nx -> σ k < d.nx) (hρ : ∀ k,k < c.nx -> d.ρ (σ k) = c.ρ k) (htk : ∀ k,k < c.nx -> d.tk (σ k) = c.tk k) (htp : ∀ k n,k < c.nx -> d.tp (σ k) = some n -> c.tp k = some n) {A : AV} {v : Value} (h : EV c A v) : EV d (gY σ A) v:=by
 have pl : VV c A v -> (∀ B,gY σ A ≠ .dS B) -> gY σ A ≠ .und -> EV d (gY σ A) v:=by
  intro h _ _
  refine aS ⟨?_,mJ hw hI hnx hρ htk htp _ _ h.2⟩
  have:=h.1
  unfold dQ at *; rw [nR]; exact this
 cases A with
 | und=>trivial
 | dS l =>
   obtain ⟨vs,h1,h2⟩:=h
   exact ⟨vs,h1,xI hw hI hnx hρ htk htp _ _ h2⟩
 | sl s l t=>cases t <;> exact pl h (by simp [gY]) (by simp [gY])
 | _=>exact pl h (by simp [gY]) (by simp [gY])

theorem LV {c d : Cx} (h : c.Le d) {sz : Nat} : ∀ {l : List AV} {cs : List Value},yB c sz l cs -> yB d sz l cs
 | [],_,_=>trivial
 | x :: l,cs,g=>by
   obtain ⟨a,e,h1,h2,h3,h4⟩:=g
   exact ⟨a,e,h1,h2,dN h.im _ _ h3,LV h h4⟩

theorem Dt {c d : Cx} (hw : d.w = c.w) (hI : d.Im = c.Im) {sz : Nat} : ∀ {l : List AV} {cs : List Value},yB c sz l cs -> yB d sz l cs
 | [],_,_=>trivial
 | x :: l,cs,g=>by
   obtain ⟨a,e,h1,h2,h3,h4⟩:=g
   exact ⟨a,e,h1,h2,by rw [hw,hI]; exact h3,Dt hw hI h4⟩

theorem Tf {c d : Cx} (h : c.Le d) : ∀ {l : List (AV × AV)} {es : List MapEntry},yY c l es -> yY d l es
 | [],_,g=>g
 | (x,y) :: l,es,g=>by
   obtain ⟨e,r,h1,h2,h3,h4⟩:=g
   exact ⟨e,r,h1,lX h h2,lX h h3,Tf h h4⟩

theorem Dv {σ : Nat -> Nat} {m : Nat} {H : Heap} : ∀ {G : Heap},Tt σ m H G -> ∀ k o,(k,o) ∈ G -> ∃ o',hget H (σ k) = some o' /\ JW o' (Oo σ o) /\ (match o with | .iD _ es=>uT m es = true | o=>LD m o = true)
 | [],_,_,_,h=>by simp at h
 | (j,x) :: G,h,k,o,hm=>by
   simp only [Tt] at h
   rcases List.mem_cons.1 hm with hm | hm
   ·simp at hm; obtain ⟨rfl,rfl⟩:=hm
    obtain ⟨o',h1,h2⟩:=dw.1 h.1
    exact ⟨o',h1,h2⟩
   ·exact Dv h.2 k o hm

theorem EK : ∀ {m : Nat} {H : Heap},BA m H = true -> ak H /\ nextId H = m /\ (∀ x ∈ H,x.1 < m) /\ ∀ k,k < m -> ∃ o,(k,o) ∈ H
 | 0,[],_=>⟨trivial,rfl,by simp,by simp⟩
 | 0,_ :: _,h=>by simp [BA] at h
 | m + 1,[],h=>by simp [BA] at h
 | m + 1,(i,o) :: H,h=>by
   simp only [BA] at h
   cases hb : Nat.beq i m with
   | false=>rw [hb] at h; cases h
   | true =>
     rw [hb] at h
     obtain rfl:=Nat.eq_of_beq_eq_true hb
     obtain ⟨h1,h2,h3,h4⟩:=EK h
     refine ⟨⟨h3,h1⟩,rfl,?_,?_⟩
     ·intro x hx
      rcases List.mem_cons.1 hx with rfl | hx
      ·simp
      ·have:=h3 x hx; omega
     ·intro k hk
      by_cases hki : k = i
      ·subst hki; exact ⟨o,by simp⟩
      ·obtain ⟨o',ho'⟩:=h4 k (by omega)
       exact ⟨o',by simp [ho']⟩

theorem HO.Yh {c : Cx} {k : Nat} {o' o : HO} (h : JW o' o) (hok : o'.Ok c k) : o.Ok c k:=by
 by_cases IG : o = .gone
 ·subst IG; trivial
 cases o' <;> cases o <;> simp only [JW] at h <;> first | exact absurd rfl IG | skip
 ·obtain ⟨cs,ty,g1,g2,g3⟩:=hok
  exact ⟨cs,ty,g1,(Bj _ _ _ h g2).1,g3⟩
 ·obtain ⟨rfl,rfl,h⟩:=h
  obtain ⟨cs,ty,g1,g2,g3,g4,g5,g6⟩:=hok
  exact ⟨cs,ty,g1,g2,by rw [<- gJ h]; exact g3,g4,rZ h g5,g6⟩
 ·obtain ⟨rfl,rfl⟩:=h
  exact hok
 ·obtain ⟨rfl,h⟩:=h
  obtain ⟨ents,clock,g1,g2,g3,g4⟩:=hok
  exact ⟨ents,clock,g1,Gh h g2,Gi h g3,g4⟩
 ·obtain ⟨rfl,h⟩:=h
  have hl:=gJ h
  rcases hok with ⟨g1,g2,g3⟩ | ⟨b,cs,ty,g1,g2,g3,g4,g5,g6,g7⟩
  ·subst g3; exact .inl ⟨g1,g2,List.length_eq_zero_iff.1 (by rw [<- hl]; rfl)⟩
  ·exact .inr ⟨b,cs,ty,g1,g2,g3,by rw [<- hl]; exact g4,g5,rZ h g6,g7⟩

mutual
theorem Em {σ : Nat -> Nat} : ∀ (S A : AV),ay S (gY σ A) = ay S A
 | S,.ag l=>by
   simp only [gY]
   cases S <;> first | rfl | skip
   simp only [ay]
   exact Az _ l
 | S,.bool _=>rfl
 | S,.tt=>rfl
 | S,.ff=>rfl
 | S,.dec _=>rfl
 | S,.int _ _=>rfl
 | S,.str _=>rfl
 | S,.dU=>rfl
 | S,.jB _ _=>by simp only [gY]; cases S <;> rfl
 | S,.bH=>rfl
 | S,.sl _ _ .no=>rfl
 | S,.sl _ _ .full=>rfl
 | S,.sl _ _ (.own _)=>by simp only [gY]; cases S <;> rfl
 | S,.ms _ _ _ _ _=>by simp only [gY]; cases S <;> rfl
 | S,.dS _=>by simp only [gY]; cases S <;> rfl
 | S,.ptr _ _ _=>by simp only [gY]; cases S <;> rfl
 | S,.cp _=>rfl
 | S,.fV=>rfl
 | S,.fn _ _=>by simp only [gY]; cases S <;> rfl
 | S,.aY=>rfl
 | S,.mp _=>by simp only [gY]; cases S <;> rfl
 | S,.gs _ _=>by simp only [gY]; cases S <;> rfl
 | S,.bm _ _=>by simp only [gY]; cases S <;> rfl
 | S,.jF=>rfl
 | S,.und=>rfl
theorem Az {σ : Nat -> Nat} : ∀ (s l : List AV),bU s (DL σ l) = bU s l
 | [],[]=>rfl
 | _ :: _,[]=>rfl
 | [],_ :: _=>rfl
 | x :: s,y :: l=>by simp only [DL,bU,Em x y,Az s l]
end

theorem LZ {σ : Nat -> Nat} {sh : AV} : ∀ {l : List (AV × AV)},JR sh (Xn σ l) ↔ JR sh l
 | []=>Iff.rfl
 | (x,y) :: l=>by simp only [Xn,JR,Em,LZ (l:=l)]

theorem HO.Vm {c d : Cx} {σ : Nat -> Nat} {m k : Nat} {o : HO} (hk : k < m) (hb : match o with | .iD _ es=>uT m es = true | o=>LD m o = true) (hw : d.w = c.w) (hI : d.Im = c.Im) (hm : d.nx = m) (hρ : ∀ k,k < m -> d.ρ k = c.ρ (σ k)) (htk : ∀ k,k < m -> d.tk k = c.tk (σ k)) (htp : ∀ k n,k < m -> d.tp k = some n -> c.tp (σ k) = some n)
  (h : (Oo σ o).Ok c (σ k)) : o.Ok d k:=by
 cases o with
 | box A =>
   obtain ⟨cs,ty,g1,g2,g3⟩:=h
   refine ⟨cs,ty,by rw [hw,hρ k hk]; exact g1,pU hw hI hm hρ htk htp _ _ hb g2,by rw [hI,hρ k hk]; exact g3⟩
 | arr sz cap l =>
   obtain ⟨cs,ty,g1,g2,g3,g4,g5,g6⟩:=h
   exact ⟨cs,ty,by rw [hw,hρ k hk]; exact g1,g2,g3,g4,Dt hw hI g5,by rw [hI,hρ k hk]; exact g6⟩
 | tok sz top =>
   have h : (HO.tok sz top).Ok c (σ k):=h
   simp only [HO.Ok] at h ⊢
   rw [htk k hk,hw,hI]; exact h
 | iD sh es =>
   obtain ⟨ents,clock,g1,g2,g3,g4⟩:=h
   exact ⟨ents,clock,by rw [hw,hρ k hk]; exact g1,Il hw hI hm hρ htk htp hb g2,LZ.1 g3,g4⟩
 | gV sz l =>
   have h : (HO.gV sz l).Ok c (σ k):=h
   simp only [HO.Ok] at h ⊢
   rw [htk k hk,hw,hI]
   exact h.imp id fun ⟨b,cs,ty,g1,g2,g3,g4,g5,g6,g7⟩=>⟨b,cs,ty,g1,g2,g3,g4,g5,Dt hw hI g6,g7⟩
 | gone=>trivial

theorem HO.TA {c d : Cx} {σ : Nat -> Nat} {k : Nat} {o : HO} (hk : k < c.nx) (hw : d.w = c.w) (hI : d.Im = c.Im) (hnx : ∀ k,k < c.nx -> σ k < d.nx) (hρ : ∀ k,k < c.nx -> d.ρ (σ k) = c.ρ k) (htk : ∀ k,k < c.nx -> d.tk (σ k) = c.tk k) (htp : ∀ k n,k < c.nx -> d.tp (σ k) = some n -> c.tp k = some n)
  (h : o.Ok c k) : (Oo σ o).Ok d (σ k):=by
 cases o with
 | box A =>
   obtain ⟨cs,ty,g1,g2,g3⟩:=h
   refine ⟨cs,ty,by rw [hw,hρ k hk]; exact g1,mJ hw hI hnx hρ htk htp _ _ g2,by rw [hI,hρ k hk]; exact g3⟩
 | arr sz cap l =>
   obtain ⟨cs,ty,g1,g2,g3,g4,g5,g6⟩:=h
   exact ⟨cs,ty,by rw [hw,hρ k hk]; exact g1,g2,g3,g4,Dt hw hI g5,by rw [hI,hρ k hk]; exact g6⟩
 | tok sz top =>
   show (HO.tok sz top).Ok d (σ k)
   simp only [HO.Ok] at h ⊢
   rw [htk k hk,hw,hI]; exact h
 | iD sh es =>
   obtain ⟨ents,clock,g1,g2,g3,g4⟩:=h
   exact ⟨ents,clock,by rw [hw,hρ k hk]; exact g1,Ep hw hI hnx hρ htk htp g2,LZ.2 g3,g4⟩
 | gV sz l =>
   show (HO.gV sz l).Ok d (σ k)
   simp only [HO.Ok] at h ⊢
   rw [htk k hk,hw,hI]
   exact h.imp id fun ⟨b,cs,ty,g1,g2,g3,g4,g5,g6,g7⟩=>⟨b,cs,ty,g1,g2,g3,g4,g5,Dt hw hI g6,g7⟩
 | gone=>trivial

theorem SH {c d : Cx} {σ : Nat -> Nat} {k : Nat} {o : HO} (hρ : d.ρ (σ k) = c.ρ k) (htk : d.tk (σ k) = c.tk k) : aC d (σ k,Oo σ o) = aC c (k,o):=by
 cases o <;> simp only [Oo,aC,hρ,htk]

theorem dK.frame {P : Program} {f : Nat} {args Bs : List AV} {H H1 : Heap} {Q : AV -> Heap -> Prop} (l : List Nat) (hF : dK P f Bs H1 Q) (hl : yV (nextId H) l = true /\ nodupB l = true /\ BA l.length H1 = true /\ iw l.length Bs = true)
  (hsub : Tt (sg l (nextId H)) l.length H H1) (hle : DN args (DL (sg l (nextId H)) Bs)) : dK P f args H (fun R' H'=>∃ R G,Q R G /\ R' = gY (sg l (nextId H)) R /\ H' = OL l G H):=by
 obtain ⟨hlt,hnd,hfull,hbd⟩:=hl
 obtain ⟨Vz,hnx1,hlt1,Zp⟩:=EK hfull
 refine ⟨hF.1,fun c vs hr hv=>?_⟩
 have hcn:=hr.nx
 generalize hn : nextId H = n at *
 generalize hm : l.length = m at *
 let σ:=sg l n
 have σlt : ∀ k,k < m -> σ k < n:=fun k hk=>Uf hlt (by omega)
 have σge : ∀ k,m <= k -> σ k = n + (k - m):=fun k hk=>by rw [<- hm] at hk ⊢; exact Au hk
 have σinj : ∀ {j k},σ j = σ k -> j = k:=fun h=>V3 hnd hlt h
 let c1 : Cx:={ w:=c.w,Im:=c.Im,ρ:=fun k=>c.ρ (σ k),nx:=m,tk:=fun k=>c.tk (σ k),tp:=dh H1 }
 have QS : ∀ k x,k < m -> c1.tp k = some x -> c.tp (σ k) = some x:=by
  intro k x hk hx
  have hx : dh H1 k = some x:=hx
  rw [hr.tp]
  unfold dh at hx ⊢
  cases hg : hget H1 k with
  | none=>simp [hg] at hx
  | some o =>
    rw [hg] at hx
    obtain ⟨o',h1,h2,_⟩:=Dv hsub k _ (gu hg)
    cases o <;> simp at hx
    ·subst hx
     obtain rfl:=Gg h2
     show (match hget H (σ k) with | some (.tok _ n)=>some n | some (.gV _ l)=>some l.length | _=>none) = _
     rw [h1]
    ·subst hx
     obtain ⟨l',rfl,h3⟩:=IE h2
     show (match hget H (σ k) with | some (.tok _ n)=>some n | some (.gV _ l)=>some l.length | _=>none) = _
     rw [h1]; simp [gJ h3]
 have KO : ∀ k o,(k,o) ∈ H1 -> ∃ o',(σ k,o') ∈ H /\ o.Ok c1 k /\ ∀ b,aC c1 (k,o) = some b -> aC c (σ k,o') = some b:=by
  intro k o hm'
  obtain ⟨o',h1,h2,h3⟩:=Dv hsub k o hm'
  have hk:=hlt1 _ hm'
  refine ⟨o',gu h1,HO.Vm (c:=c) (d:=c1) (σ:=σ) (m:=m) hk h3 rfl rfl rfl (fun _ _=>rfl) (fun _ _=>rfl) QS (HO.Yh h2 (hr.oh h1)),?_⟩
  intro b hb
  rw [<- SH (c:=c1) (d:=c) (σ:=σ) rfl rfl] at hb
  exact MO (c:=c) (d:=c) rfl rfl h2 hb
 have hr1 : HR c1 H1:=by
  refine ⟨hnx1.symm,rfl,Vz,hr.im,fun x hx=>(KO x.1 x.2 hx).choose_spec.2.1,?_⟩
  refine eU Vz fun x hx y hy hne b hb hb'=>?_
  obtain ⟨o1,h1,_,e1⟩:=KO x.1 x.2 hx
  obtain ⟨o2,h2,_,e2⟩:=KO y.1 y.2 hy
  exact hr.apart' h1 h2 (fun h=>hne (σinj h)) (e1 b hb) (e2 b hb')
 have hv1 : yD c1 Bs vs:=by
  have:=sS hle hv
  revert this hbd
  clear hle hv hF
  induction Bs generalizing vs with
  | nil=>intro _ h; exact h
  | cons B Bs ih =>
    intro hbd h
    obtain ⟨v,r,rfl,h1,h2⟩:=h
    simp only [iw] at hbd
    cases hB : dB m B with
    | false=>rw [hB] at hbd; cases hbd
    | true =>
      rw [hB] at hbd
      refine ⟨v,r,rfl,?_,ih _ hbd h2⟩
      have sh : ∀ {A : AV},dQ (gY σ A) v -> dQ A v:=fun h=>by unfold dQ at *; rw [nR] at h; exact h
      have back:=pU (c:=c) (d:=c1) (σ:=σ) (m:=m) rfl rfl rfl (fun _ _=>rfl) (fun _ _=>rfl) QS
      have pl : VV c (gY σ B) v -> (∀ X,B ≠ .dS X) -> EV c1 B v:=fun h _=>aS ⟨sh h.1,back _ _ hB h.2⟩
      cases B with
      | und=>trivial
      | dS X =>
        obtain ⟨ws,e1,e2⟩:=h1
        exact ⟨ws,e1,AA (c:=c) (d:=c1) (σ:=σ) (m:=m) rfl rfl rfl (fun _ _=>rfl) (fun _ _=>rfl) QS _ _ hB e2⟩
      | sl s X t=>cases t <;> exact pl h1 (by simp)
      | _=>exact pl h1 (by simp)
 refine (hF.2 c1 vs hr1 hv1).mono ?_
 rintro e w' ⟨v,d1,R,G,hQ,rfl,rfl,htr,hR⟩
 have hd1 : d1.nx = nextId G:=htr.hr.nx
 have Z7 : m <= nextId G:=by rw [<- hd1]; exact htr.le.nx
 obtain ⟨u1,u2,u3⟩:=Md (l:=l) (n:=n) (G:=G) hr.ids
 obtain ⟨w1,w2,w3⟩:=MN (l:=l) (n:=n) u1 (u3.trans hn) htr.hr.ids
 rw [hm] at w2 w3
 have hG' : OL l G H = newH l n G (zf l n G H):=by unfold OL; rw [hn]
 have Z4:=w3 Z7
 let d : Cx:={ w:=d1.w,Im:=d1.Im,ρ:=fun i=>(match inv l n i with | some k=>d1.ρ k | none=>c.ρ i),nx:=n + (nextId G - m),tk:=fun i=>(match inv l n i with | some k=>d1.tk k | none=>c.tk i),tp:=dh (OL l G H) }
 have OEσ : ∀ k,inv l n (σ k) = some k:=fun k=>KN hnd hlt k
 have dρ : ∀ k,d.ρ (σ k) = d1.ρ k:=fun k=>by show (match inv l n (σ k) with | some k=>d1.ρ k | none=>c.ρ (σ k)) = _; rw [OEσ]
 have Yw : ∀ k,d.tk (σ k) = d1.tk k:=fun k=>by show (match inv l n (σ k) with | some k=>d1.tk k | none=>c.tk (σ k)) = _; rw [OEσ]
 have dρ0 : ∀ i,inv l n i = none -> d.ρ i = c.ρ i:=fun i h=>by show (match inv l n i with | some k=>d1.ρ k | none=>c.ρ i) = _; rw [h]
 have UK : ∀ i,inv l n i = none -> d.tk i = c.tk i:=fun i h=>by show (match inv l n i with | some k=>d1.tk k | none=>c.tk i) = _; rw [h]
 -- the members of the new heap
 have hmem : ∀ x ∈ OL l G H,(∃ k o,(k,o) ∈ G /\ x = (σ k,Oo σ o)) \/ (∃ k,k < m /\ x = (σ k,.gone)) \/ (x ∈ H /\ inv l n x.1 = none):=by
  intro x hx
  rw [hG'] at hx
  rcases w2 x hx with hx | ⟨k,o,h1,h2,h3⟩
  ·have hxg : hget (zf l n G H) x.1 = some x.2:=kU u1 hx
   rw [II] at hxg
   cases hg : hget H x.1 with
   | none=>simp [hg] at hxg
   | some o =>
     rw [hg] at hxg
     have hxn : x.1 < n:=by have:=bf hr.ids _ (gu hg); rw [hn] at this; exact this
     have hinv : inv l n x.1 = ix l x.1:=by unfold inv; rw [if_neg (by omega)]
     cases hi : ix l x.1 with
     | none =>
       simp only [Option.map_some,hi,Option.some.injEq] at hxg
       subst hxg
       exact .inr (.inr ⟨gu hg,by rw [hinv,hi]⟩)
     | some k =>
       have hs : σ k = x.1:=Bo (by rw [hinv,hi])
       have hkm : k < m:=by obtain ⟨h1,_⟩:=Gl hi; omega
       simp only [Option.map_some,hi,Option.some.injEq] at hxg
       cases Y0 : hget G k with
       | none=>rw [Y0] at hxg; exact .inr (.inl ⟨k,hkm,by rw [hs,show HO.gone = x.2 from hxg]⟩)
       | some o1=>rw [Y0] at hxg; exact .inl ⟨k,o1,gu Y0,by rw [hs]; exact Prod.ext rfl hxg.symm⟩
  ·exact .inl ⟨k,o,h1,h3⟩
 have XF : ak (OL l G H):=by rw [hG']; exact w1
 -- tokens
 have tpσ : ∀ k x,d.tp (σ k) = some x -> d1.tp k = some x:=by
  intro k x hx
  have hx : dh (OL l G H) (σ k) = some x:=hx
  rw [htr.hr.tp]
  unfold dh at hx ⊢
  cases hg : hget (OL l G H) (σ k) with
  | none=>simp [hg] at hx
  | some o =>
    rw [hg] at hx
    rcases hmem _ (gu hg) with ⟨j,o1,h1,h2⟩ | ⟨j,_,h2⟩ | ⟨_,h2⟩
    ·simp only [Prod.mk.injEq] at h2
     obtain ⟨h2,rfl⟩:=h2
     obtain rfl:=σinj h2
     rw [kU htr.hr.ids h1]
     cases o1 <;> simp [Oo] at hx ⊢ <;> exact hx
    ·simp only [Prod.mk.injEq] at h2
     obtain ⟨_,rfl⟩:=h2
     simp at hx
    ·rw [OEσ] at h2; cases h2
 have ZI : ∀ i x,i < n -> inv l n i = none -> d.tp i = some x -> c.tp i = some x:=by
  intro i x hi hin hx
  have hx : dh (OL l G H) i = some x:=hx
  rw [hr.tp]
  unfold dh at hx ⊢
  cases hg : hget (OL l G H) i with
  | none=>simp [hg] at hx
  | some o =>
    rw [hg] at hx
    rcases hmem _ (gu hg) with ⟨j,o1,h1,h2⟩ | ⟨j,_,h2⟩ | ⟨h1,_⟩
    ·simp only [Prod.mk.injEq] at h2
     rw [h2.1,OEσ] at hin; cases hin
    ·simp only [Prod.mk.injEq] at h2
     rw [h2.1,OEσ] at hin; cases hin
    ·rw [kU hr.ids h1]; exact hx
 have hle' : c.Le d:=by
  refine ⟨htr.le.im,by rw [hcn]; exact Nat.le_add_right _ _,fun k hk=>?_,fun i x hi hx=>?_⟩
  ·cases hin : inv l n k with
   | none=>exact dρ0 k hin
   | some j =>
     have hs : σ j = k:=Bo hin
     have hjm : j < m:=Classical.byContradiction fun h=>by have:=σge j (by omega); omega
     rw [<- hs,dρ,htr.le.ρ j hjm]
  ·cases hin : inv l n i with
   | none=>exact .inl ⟨ZI i x (by omega) hin hx,UK i hin⟩
   | some j =>
     have hs : σ j = i:=Bo hin
     have hjm : j < m:=Classical.byContradiction fun h=>by have:=σge j (by omega); omega
     rw [<- hs] at hx ⊢
     rcases htr.le.tk j x hjm (tpσ j x hx) with ⟨h1,h2⟩ | ⟨y,h1,h2⟩
     ·exact .inl ⟨QS j x hjm h1,by rw [Yw,h2]⟩
     ·exact .inr ⟨y,QS j y hjm h1,h2⟩
 have hnxσ : ∀ k,k < d1.nx -> σ k < d.nx:=by
  intro k hk
  show σ k < n + (nextId G - m)
  by_cases hkm : k < m
  ·have:=σlt k hkm; omega
  ·rw [σge k (by omega)]; omega
 have forth:=fun {k : Nat} {o : HO} (hk : k < d1.nx) (h : o.Ok d1 k)=>HO.TA (c:=d1) (d:=d) (σ:=σ) (k:=k) (o:=o) hk rfl rfl hnxσ (fun k _=>dρ k) (fun k _=>Yw k) (fun k x _ h=>tpσ k x h) h
 -- blocks
 have Vg : ∀ k o,aC d (σ k,Oo σ o) = aC d1 (k,o):=fun k o=>SH (dρ k) (Yw k)
 have Vf : ∀ x : Nat × HO,inv l n x.1 = none -> aC d x = aC c x:=by
  rintro ⟨i,o⟩ hi
  cases o <;> simp only [aC,dρ0 i hi,UK i hi]
 have zV : ∀ k,aC d (σ k,.gone) = none:=fun k=>rfl
 have Iy : ∀ x ∈ H,inv l n x.1 = none -> ∀ b,aC c x = some b -> ∀ y ∈ H1,aC c1 y ≠ some b:=by
  intro x hx hin b hb y hy hb'
  obtain ⟨o',h1,_,e1⟩:=KO y.1 y.2 hy
  exact hr.apart' hx h1 (fun h=>by rw [h,OEσ] at hin; cases hin) hb (e1 b hb')
 have SI : ∀ x ∈ H,∀ b,aC c x = some b -> b < c.w.heap.size:=by
  intro x hx b hb
  have hok:=hr.ok x hx
  obtain ⟨i,o⟩:=x
  cases o with
  | box A=>obtain ⟨cs,ty,g1,_⟩:=hok; simp [aC] at hb; subst hb; exact (Array.getElem?_eq_some_iff.1 g1).1
  | arr sz cap l=>obtain ⟨cs,ty,g1,_⟩:=hok; simp [aC] at hb; subst hb; exact (Array.getElem?_eq_some_iff.1 g1).1
  | iD sh es=>obtain ⟨ents,clock,g1,_⟩:=hok; simp [aC] at hb; subst hb; exact (Array.getElem?_eq_some_iff.1 g1).1
  | gone=>simp [aC] at hb
  | gV sz l=>exact TK hok hb
  | tok sz top =>
    simp only [aC] at hb
    rcases hok with h | ⟨b',cs,ty,h1,h2,_⟩
    ·rw [if_pos h] at hb; cases hb
    ·split at hb
     ·cases hb
     ·have h1 : (c.tk i).1 = some ⟨b',0,none⟩:=h1
      rw [h1] at hb
      simp at hb; subst hb
      exact (Array.getElem?_eq_some_iff.1 h2).1
 have same : ∀ x ∈ H,inv l n x.1 = none -> ∀ b,aC c x = some b -> d1.w.heap[b]? = c.w.heap[b]? /\ ∀ o,d1.Im b o -> c.Im b o:=by
  intro x hx hin b hb
  have hno:=Iy x hx hin b hb
  refine ⟨htr.fr b (SI x hx b hb) hno,fun o ho=>?_⟩
  rcases htr.TW b o ho with h | h | ⟨y,hy,h⟩
  ·exact h
  ·have:=SI x hx b hb; have h : c.w.heap.size <= b:=h; omega
  ·exact absurd h (hno y hy)
 have ZJ : ∀ x ∈ H,inv l n x.1 = none -> x.2.Ok d x.1:=by
  rintro ⟨i,o⟩ hx hin
  have hok:=hr.ok _ hx
  have hs:=same _ hx hin
  cases o with
  | box A =>
    obtain ⟨cs,ty,g1,g2,g3⟩:=hok
    obtain ⟨s1,s2⟩:=hs (c.ρ i) rfl
    refine ⟨cs,ty,?_,lY hle' _ _ g2,fun o h=>?_⟩
    ·rw [dρ0 i hin]; exact s1.trans g1
    ·rw [dρ0 i hin] at h; exact g3 o (s2 o h)
  | arr sz cap l =>
    obtain ⟨cs,ty,g1,g2,g3,g4,g5,g6⟩:=hok
    obtain ⟨s1,s2⟩:=hs (c.ρ i) rfl
    refine ⟨cs,ty,?_,g2,g3,g4,LV hle' g5,fun o h=>?_⟩
    ·rw [dρ0 i hin]; exact s1.trans g1
    ·rw [dρ0 i hin] at h; exact g6 o (s2 o h)
  | iD sh es =>
    obtain ⟨ents,clock,g1,g2,g3⟩:=hok
    obtain ⟨s1,s2⟩:=hs (c.ρ i) rfl
    refine ⟨ents,clock,?_,Tf hle' g2,g3⟩
    rw [dρ0 i hin]; exact s1.trans g1
  | gV sz l =>
    have hok : (HO.gV sz l).Ok c i:=hok
    show (HO.gV sz l).Ok d i
    simp only [HO.Ok] at hok ⊢
    rw [UK i hin]
    rcases hok with h | ⟨b,cs,ty,h1,h2,h3,h4,h5,h6,h7⟩
    ·exact .inl h
    ·obtain ⟨s1,s2⟩:=hs b (by simp only [aC,h1]; rfl)
     exact .inr ⟨b,cs,ty,h1,s1.trans h2,h3,h4,h5,LV hle' h6,fun o h=>h7 o (s2 o h)⟩
  | gone=>trivial
  | tok sz top =>
    have hok : (HO.tok sz top).Ok c i:=hok
    show (HO.tok sz top).Ok d i
    simp only [HO.Ok] at hok ⊢
    rw [UK i hin]
    rcases hok with h | ⟨b,cs,ty,h1,h2,h3,h4,h5,h6⟩
    ·exact .inl h
    ·by_cases ht : (c.tk i).2 = top
     ·exact .inl ht
     ·obtain ⟨s1,s2⟩:=hs b (by simp only [aC,if_neg ht,h1]; rfl)
      exact .inr ⟨b,cs,ty,h1,s1.trans h2,h3,h4,h5,fun o ho h=>h6 o ho (s2 o h)⟩
 have YG : ∀ y ∈ OL l G H,∀ b,aC d y = some b -> (c.w.heap.size <= b \/ ∃ x ∈ H,aC c x = some b):=by
  intro y hy b hb
  rcases hmem y hy with ⟨k,o,h1,rfl⟩ | ⟨k,_,rfl⟩ | ⟨h1,h2⟩
  ·rw [Vg] at hb
   rcases htr.own _ h1 b hb with h | ⟨x,hx,hxb⟩
   ·exact .inl h
   ·obtain ⟨o',g1,_,g3⟩:=KO x.1 x.2 hx
    exact .inr ⟨_,g1,g3 b hxb⟩
  ·rw [zV] at hb; cases hb
  ·rw [Vf y h2] at hb; exact .inr ⟨y,h1,hb⟩
 have mixed : ∀ k o,(k,o) ∈ G -> ∀ y ∈ H,inv l n y.1 = none -> ∀ b,aC d1 (k,o) = some b -> aC c y ≠ some b:=by
  intro k o h1 y hy hin b hb hb'
  rcases htr.own _ h1 b hb with h | ⟨x,hx,hxb⟩
  ·have:=SI y hy b hb'; have h : c.w.heap.size <= b:=h; omega
  ·exact Iy y hy hin b hb' x hx hxb
 have ZX : HR d (OL l G H):=by
  refine ⟨by rw [hG',Z4],rfl,XF,htr.hr.im,?_,?_⟩
  ·intro x hx
   rcases hmem x hx with ⟨k,o,h1,rfl⟩ | ⟨k,_,rfl⟩ | ⟨h1,h2⟩
   ·exact forth (by rw [hd1]; exact bf htr.hr.ids _ h1) (htr.hr.ok _ h1)
   ·trivial
   ·exact ZJ x h1 h2
  ·refine eU XF fun x hx y hy hne b hb hb'=>?_
   rcases hmem x hx with ⟨k,o,h1,rfl⟩ | ⟨k,_,rfl⟩ | ⟨h1,h2⟩
   ·rw [Vg] at hb
    rcases hmem y hy with ⟨k',o',h1',rfl⟩ | ⟨k',_,rfl⟩ | ⟨h1',h2'⟩
    ·rw [Vg] at hb'
     exact htr.hr.apart' h1 h1' (fun h=>hne (congrArg σ h)) hb hb'
    ·rw [zV] at hb'; cases hb'
    ·rw [Vf y h2'] at hb'
     exact mixed k o h1 y h1' h2' b hb hb'
   ·rw [zV] at hb; cases hb
   ·rw [Vf x h2] at hb
    rcases hmem y hy with ⟨k',o',h1',rfl⟩ | ⟨k',_,rfl⟩ | ⟨h1',h2'⟩
    ·rw [Vg] at hb'
     exact mixed k' o' h1' x h1 h2 b hb' hb
    ·rw [zV] at hb'; cases hb'
    ·rw [Vf y h2'] at hb'
     exact hr.apart' h1 h1' hne hb hb'
 refine ⟨v,d,_,_,⟨R,G,hQ,rfl,rfl⟩,rfl,rfl,⟨ZX,hle',htr.os,htr.tape,htr.output,htr.size,fun b hb hno=>htr.fr b hb fun x hx hxb=>?_,YG,fun b o h=>?_⟩,?_⟩
 ·obtain ⟨o',g1,_,g3⟩:=KO x.1 x.2 hx
  exact hno _ g1 (g3 b hxb)
 ·rcases htr.TW b o h with h | h | ⟨x,hx,hxb⟩
  ·exact .inl h
  ·exact .inr (.inl h)
  ·obtain ⟨o',g1,_,g3⟩:=KO x.1 x.2 hx
   exact .inr (.inr ⟨_,g1,g3 b hxb⟩)
 ·exact Kt (c:=d1) (d:=d) (σ:=σ) rfl rfl hnxσ (fun k _=>dρ k) (fun k _=>Yw k) (fun k x _ h=>tpσ k x h) hR

theorem bJ.frame {P : Program} {f : Nat} {args Bs : List AV} {H H1 G : Heap} {R : AV} (l : List Nat) (hF : bJ P f Bs H1 R G) (hl : yV (nextId H) l = true /\ nodupB l = true /\ BA l.length H1 = true /\ iw l.length Bs = true)
  (hsub : Tt (sg l (nextId H)) l.length H H1) (hle : DN args (DL (sg l (nextId H)) Bs)) : bJ P f args H (gY (sg l (nextId H)) R) (OL l G H):=by
 have hQ : dK P f Bs H1 (fun R' G'=>R' = R /\ G' = G):=⟨hF.1,fun c vs hr hv=>(hF.2 c vs hr hv).mono fun _ _ ⟨v,d,h⟩=>⟨v,d,R,G,⟨rfl,rfl⟩,h⟩⟩
 have:=dK.frame l hQ hl hsub hle
 refine ⟨this.1,fun c vs hr hv=>(this.2 c vs hr hv).mono ?_⟩
 rintro _ _ ⟨v,d,_,_,⟨_,_,⟨rfl,rfl⟩,rfl,rfl⟩,h⟩
 exact ⟨v,d,h⟩

end Go.AL

namespace Go.AL

theorem wrap64 {n : Int} (h1 : -9223372036854775808 <= n) (h2 : n <= 9223372036854775807) : IntKind.wrap .i64 n = n:=by
 simp [IntKind.wrap,IntKind.bits,IntKind.signed]; omega

theorem wrap_u64 {n : Int} (h1 : 0 <= n) (h2 : n < 18446744073709551616) : IntKind.wrap .u64 n = n:=by
 simp [IntKind.wrap,IntKind.bits,IntKind.signed]; omega

theorem fD (a : Nat) : BitVec.ofInt 64 (a : Int) = BitVec.ofNat 64 a:=by
 apply BitVec.eq_of_toNat_eq; simp

theorem Ny {a b : Nat} (ha : a < 2 ^ 63) (hb : b < 2 ^ 63) : dF .and .i64 (a : Int) (b : Int) = ((a &&& b : Nat) : Int):=by
 simp only [dF]
 have h1 : (BitVec.ofInt 64 (a : Int) &&& BitVec.ofInt 64 (b : Int)).toNat = a &&& b:=by
  rw [fD,fD,BitVec.toNat_and,BitVec.toNat_ofNat,BitVec.toNat_ofNat,Nat.mod_eq_of_lt (by omega),Nat.mod_eq_of_lt (by omega)]
 show IntKind.wrap .i64 ((BitVec.ofInt 64 (a : Int) &&& BitVec.ofInt 64 (b : Int)).toNat : Int) = _
 rw [h1]
 have:=Nat.and_le_left (n:=a) (m:=b)
 exact wrap64 (by omega) (by omega)

theorem Kw {a b : Nat} (ha : a < 2 ^ 63) (hb : b < 2 ^ 63) : dF .or .i64 (a : Int) (b : Int) = ((a ||| b : Nat) : Int):=by
 simp only [dF]
 have h1 : (BitVec.ofInt 64 (a : Int) ||| BitVec.ofInt 64 (b : Int)).toNat = a ||| b:=by
  rw [fD,fD,BitVec.toNat_or,BitVec.toNat_ofNat,BitVec.toNat_ofNat,Nat.mod_eq_of_lt (by omega),Nat.mod_eq_of_lt (by omega)]
 show IntKind.wrap .i64 ((BitVec.ofInt 64 (a : Int) ||| BitVec.ofInt 64 (b : Int)).toNat : Int) = _
 rw [h1]
 have:=Nat.or_lt_two_pow ha hb
 exact wrap64 (by omega) (by omega)

def iC (a b : Nat) : Nat:=(BitVec.ofNat 64 a &&& ~~~ BitVec.ofNat 64 b).toNat

theorem iV {a b : Nat} (ha : a < 2 ^ 63) (i : Nat) : (iC a b).testBit i = (a.testBit i && !b.testBit i):=by
 unfold iC
 rw [BitVec.testBit_toNat,BitVec.getLsbD_and,BitVec.getLsbD_not,BitVec.getLsbD_ofNat,BitVec.getLsbD_ofNat]
 by_cases hi : i < 64
 ·simp [hi]
 ·have : a.testBit i = false:=Nat.testBit_lt_two_pow (Nat.lt_of_lt_of_le ha (Nat.pow_le_pow_right (by omega) (by omega)))
  simp [hi,this]

theorem AY {a b : Nat} (ha : a < 2 ^ 63) : iC a b <= a:=by
 have : iC a b = a &&& iC a b:=by
  apply Nat.eq_of_testBit_eq
  intro i
  rw [Nat.testBit_and,iV ha]
  cases a.testBit i <;> simp
 rw [this]; exact Nat.and_le_left

theorem CX {a b : Nat} (ha : a < 2 ^ 63) : dF .andNot .i64 (a : Int) (b : Int) = (iC a b : Int):=by
 simp only [dF]
 show IntKind.wrap .i64 ((BitVec.ofInt 64 (a : Int) &&& ~~~ (BitVec.ofInt 64 (b : Int))).toNat : Int) = _
 rw [fD,fD]
 have:=AY (b:=b) ha
 exact wrap64 (by omega) (by unfold iC at this; omega)

theorem sH {i : Nat} (hi : i < 63) : zh .i64 1 (i : Int) = ((2 ^ i : Nat) : Int):=by
 unfold zh
 have h1 : min (i : Int).toNat (IntKind.bits .i64) = i:=by show min i 64 = i; omega
 rw [h1,Int.one_mul]
 have h2 : 2 ^ i < 9223372036854775808:=Nat.lt_of_lt_of_le (Nat.pow_lt_pow_right (by omega) hi) (Nat.le_of_eq (by decide))
 have h3 : ((2 : Int) ^ i) = ((2 ^ i : Nat) : Int):=by simp
 rw [h3]
 generalize 2 ^ i = x at *
 exact wrap64 (by omega) (by omega)

theorem Ue {a i : Nat} (hi : i <= 64) : qK .i64 (a : Int) (i : Int) = ((a >>> i : Nat) : Int):=by
 unfold qK
 have h1 : min (i : Int).toNat (IntKind.bits .i64) = i:=by show min i 64 = i; omega
 rw [h1,Nat.shiftRight_eq_div_pow]
 have h3 : ((2 : Int) ^ i) = ((2 ^ i : Nat) : Int):=by simp
 rw [h3,Int.fdiv_eq_ediv_of_nonneg _ (Int.natCast_nonneg _)]
 simp

theorem SL {a i : Nat} (ha : a < 2 ^ 63) (hi : i <= 64) : dF .and .i64 (qK .i64 (a : Int) (i : Int)) 1 = if a.testBit i then 1 else 0:=by
 rw [Ue hi]
 have h1 : a >>> i <= a:=by rw [Nat.shiftRight_eq_div_pow]; exact Nat.div_le_self _ _
 have:=Ny (a:=a >>> i) (b:=1) (by omega) (by decide)
 rw [show ((1 : Nat) : Int) = 1 from rfl] at this
 rw [this,Nat.and_one_is_mod]
 rw [Nat.testBit_eq_decide_div_mod_eq,Nat.shiftRight_eq_div_pow]
 have : a / 2 ^ i % 2 < 2:=Nat.mod_lt _ (by omega)
 by_cases h : a / 2 ^ i % 2 = 1
 ·simp [h]
 ·have : a / 2 ^ i % 2 = 0:=by omega
  simp [this]

end Go.AL

namespace Go.AL

section
variable {P : Program}

theorem bJ.weak {f : Nat} {As : List AV} {R R' : AV} {H H' : Heap} (h : bJ P f As H R H') (hle : le R R') : bJ P f As H R' H':=by
 refine ⟨h.1,fun c vs hr hv=>(h.2 c vs hr hv).mono ?_⟩
 rintro e w' ⟨v,d,h1,h2,h3,h4⟩
 exact ⟨v,d,h1,h2,h3,QC hle h4⟩

end
end Go.AL

namespace Go.AL

theorem V7 {a b : Nat} (ha : a < 2 ^ 64) (hb : b < 2 ^ 64) : dF .or .u64 (a : Int) (b : Int) = ((a ||| b : Nat) : Int):=by
 simp only [dF]
 have h1 : (BitVec.ofInt 64 (a : Int) ||| BitVec.ofInt 64 (b : Int)).toNat = a ||| b:=by
  rw [fD,fD,BitVec.toNat_or,BitVec.toNat_ofNat,BitVec.toNat_ofNat,Nat.mod_eq_of_lt ha,Nat.mod_eq_of_lt hb]
 show IntKind.wrap .u64 ((BitVec.ofInt 64 (a : Int) ||| BitVec.ofInt 64 (b : Int)).toNat : Int) = _
 rw [h1]
 have:=Nat.or_lt_two_pow ha hb
 exact wrap_u64 (by omega) (by omega)

theorem oK {a b : Nat} : (a : Int).tmod (b : Int) = ((a % b : Nat) : Int):=by
 rw [Int.tmod_eq_emod_of_nonneg (by omega)]; simp

end Go.AL

namespace Go.AL
open Go.RowKit

def Yx (w : World) : Cx:={ w:=w,Im:=fun b _=>b < w.heap.size,ρ:=fun _=>0,nx:=0,tk:=fun _=>(none,0),tp:=dh [] }

theorem Xg (w : World) : HR (Yx w) []:=⟨rfl,rfl,trivial,fun _ _ h=>h,by simp,.nil⟩

theorem bJ.law {P : Program} {f : Nat} {args : List AV} (h : bJ P f args [] (.bool true) []) {w : World} {vs : List Value} (hv : yD (Yx w) args vs) :
  Calls P f vs.toArray w fun e w'=>e = .returned (.bool true) /\ Below w.heap.size w w':=by
 refine (h.2 (Yx w) vs (Xg w) hv).mono ?_
 rintro e w' ⟨v,d,rfl,rfl,htr,hV⟩
 refine ⟨by rw [fQ hV],⟨htr.os,htr.tape,htr.output,htr.size,fun k hk=>htr.fr k hk (by simp)⟩⟩

end Go.AL

namespace Go.AL
open Go.ChangeShapes Go.RowKit

inductive Sh where
 | bool | int (k : IntKind) | str | sl (sz : Nat) (s : Sh) | st (l : List Sh) | spl

def Ud (P : Program) (t : TypeId) : List Field -> Bool
 | [f,g,h]=>Nat.beq (P.cellsOf t) 3 && Nat.beq f.offset 0 && Nat.beq g.offset 1 && Nat.beq h.offset 2 && Nat.beq (P.cellsOf f.type) 1 && Nat.beq (P.cellsOf g.type) 1 && Nat.beq (P.cellsOf h.type) 1 &&
   (match P.underlying f.type with | some (.int k)=>nC .i64 k | _=>false) && (match P.underlying g.type with | some (.slice e)=>Nat.beq e t | _=>false) && (match P.underlying h.type with | some (.int k)=>nC .i64 k | _=>false)
 | _=>false

inductive PN : AV -> Prop where
 | mk (v r : Int) (ks : List AV) (h : ∀ k ∈ ks,PN k) : PN (.ag [.int .i64 v,.sl 3 ks .no,.int .i64 r])

mutual
def JV (P : Program) : Sh -> TypeId -> Bool
 | .bool,t=>match P.underlying t with | some .bool=>true | _=>false
 | .int k,t=>match P.underlying t with | some (.int k')=>nC k k' | _=>false
 | .str,t=>match P.underlying t with | some .string=>true | _=>false
 | .sl sz s,t=>match P.underlying t with | some (.slice e)=>Nat.beq (P.cellsOf e) sz && Nat.blt 0 sz && JV P s e | _=>false
 | .st l,t=>match P.underlying t with | some (.struct fs)=>fieldsB P (P.cellsOf t) l fs.toList 0 | _=>false
 | .spl,t=>match P.underlying t with | some (.struct fs)=>Ud P t fs.toList | _=>false
def fieldsB (P : Program) (n : Nat) : List Sh -> List Field -> Nat -> Bool
 | [],[],off=>Nat.beq off n
 | s :: l,f :: fs,off=>Nat.beq f.offset off && JV P s f.type && fieldsB P n l fs (off + P.cellsOf f.type)
 | _,_,_=>false
end

mutual
def Sh.In : Sh -> AV -> Prop
 | .bool,A=>∃ b,A = .bool b
 | .int k,A=>∃ n,A = .int k n
 | .str,A=>∃ s,A = .str s
 | .sl sz s,A=>∃ l,A = .sl sz l .no /\ ∀ x ∈ l,s.In x
 | .st l,A=>∃ as,A = .ag as /\ Yj l as
 | .spl,A=>PN A
def Yj : List Sh -> List AV -> Prop
 | [],as=>as = []
 | s :: l,as=>∃ x r,as = x :: r /\ s.In x /\ Yj l r
end

abbrev TJ (w : World) : Nat -> Nat -> Prop:=fun b _=>b < w.heap.size

theorem cell_lt {w : World} {a : Addr} {v : Value} (h : w.cell? a = some v) : a.block < w.heap.size:=by
 apply Classical.byContradiction
 intro hn
 have : w.heap[a.block]? = none:=Array.getElem?_eq_none (by simpa using hn)
 simp [World.cell?,this] at h

theorem cells_at {w : World} {base n : Nat} {a : Addr} {cs : List Value} (h : w.cells? base a n = some cs) (hs : a.spot = none) : cs.length = n /\ jd w (TJ w) a.block a.off cs:=by
 obtain ⟨_,hl,hc⟩:=World.cells?_some h
 refine ⟨hl,fun j v hj=>?_⟩
 have hjn : j < n:=by rw [<- hl]; exact (List.getElem?_eq_some_iff.1 hj).1
 have h1:=hc j hjn
 rw [hj] at h1
 obtain ⟨b,off,spot⟩:=a
 simp only at hs; subst hs
 have h2 : w.cell? ⟨b,off + j,none⟩ = some v:=by
  by_cases hj0 : j = 0
  ·subst hj0; simpa [Addr.add] using h1
  ·simpa [Addr.add,hj0] using h1
 exact ⟨h2,cell_lt (a:=⟨b,off + j,none⟩) h2⟩

theorem LY {w : World} {Im : Nat -> Nat -> Prop} {sz b : Nat} : ∀ {l : List AV} {off : Nat},(∀ i x,l[i]? = some x -> ∃ cs,cs.length = sz /\ jd w Im b (off + i * sz) cs /\ Rd w Im x cs) -> pq w Im sz b l off
 | [],_,_=>by simp only [pq]
 | x :: l,off,h=>by
   simp only [pq]
   refine ⟨?_,LY fun i y hy=>?_⟩
   ·have:=h 0 x rfl
    simpa using this
   ·have:=h (i + 1) y (by simpa using hy)
    rw [show off + (i + 1) * sz = off + sz + i * sz by rw [Nat.add_mul]; omega] at this
    exact this

theorem JY {k : IntKind} {n : Int} (h : (Lit.int k n).wf = true) : qM k n:=by simpa [Lit.wf,qM] using h

theorem qX {α : Type} {p : Nat -> α -> Prop} : ∀ {n : Nat},(∀ i,i < n -> ∃ x,p i x) -> ∃ l : List α,l.length = n /\ ∀ i x,l[i]? = some x -> p i x
 | 0,_=>⟨[],rfl,fun i x h=>by simp at h⟩
 | n + 1,h=>by
   obtain ⟨l,hl,hp⟩:=qX (n:=n) fun i hi=>h i (by omega)
   obtain ⟨x,hx⟩:=h n (by omega)
   refine ⟨l ++ [x],by simp [hl],fun i y hy=>?_⟩
   by_cases hi : i < n
   ·rw [List.getElem?_append_left (by omega)] at hy
    exact hp i y hy
   ·rw [List.getElem?_append_right (by omega)] at hy
    have : i - l.length = 0:=by
     have:=(List.getElem?_eq_some_iff.1 hy).1
     simp at this; omega
    rw [this] at hy
    simp at hy; subst hy
    rw [show i = n by omega]; exact hx

section
variable {H : Type} {enc : TypeId × Value -> H} {P : Program} {w : World} {base : Nat} {spare : Nat -> Bool} {held : Bool}

theorem JZ {e : TypeId} {n : Nat} {sz : Nat} (h2 : 0 < sz) (Q : AV -> Prop) {a : Addr} {len : Nat} {elems : List (DataW H × List MemPlace)} (hel : elems.length = len)
  (hat : ∀ i,i < len -> (w.cells? base (a.add (i * sz)) sz).bind (DataW.trod enc P w base spare held n e) = elems[i]?)
  (hq : ∀ (cs : List Value) (x : DataW H × List MemPlace),x ∈ elems -> DataW.trod enc P w base spare held n e cs = some x -> ∃ A,Q A /\ Rd w (TJ w) A cs) :
  ∃ l : List AV,l.length = len /\ (∀ y ∈ l,Q y) /\ (l ≠ [] -> a.spot = none) /\ pq w (TJ w) sz a.block l a.off:=by
 have key : ∀ i,i < len -> ∃ A : AV,Q A /\ a.spot = none /\ ∃ cs,cs.length = sz /\ jd w (TJ w) a.block (a.off + i * sz) cs /\ Rd w (TJ w) A cs:=by
  intro i hi
  have:=hat i hi
  rw [List.getElem?_eq_getElem (by omega)] at this
  obtain ⟨cs',g1,g2⟩:=Option.bind_eq_some_iff.1 this
  obtain ⟨A,hA,hR⟩:=hq _ _ (List.getElem_mem _) g2
  have hsp : a.spot = none:=by
   have:=hat 0 (by omega)
   rw [List.getElem?_eq_getElem (by omega)] at this
   obtain ⟨cs0,g1,_⟩:=Option.bind_eq_some_iff.1 this
   obtain ⟨_,hl,hc⟩:=World.cells?_some g1
   have h0:=hc 0 h2
   rw [List.getElem?_eq_getElem (by omega)] at h0
   have:=World.cell?_spot h0
   obtain ⟨b,off,spot⟩:=a
   simpa [Addr.add] using this
  refine ⟨A,hA,hsp,cs',?_⟩
  obtain ⟨b,off,spot⟩:=a
  simp only at hsp; subst hsp
  have hadd : (Addr.add ⟨b,off,none⟩ (i * sz)) = ⟨b,off + i * sz,none⟩:=by
   unfold Addr.add
   split
   ·rename_i h0; rw [h0]; rfl
   ·rfl
  rw [hadd] at g1
  obtain ⟨k1,k2⟩:=cells_at g1 rfl
  exact ⟨k1,k2,hR⟩
 obtain ⟨l,hll,hl⟩:=qX key
 refine ⟨l,hll,fun y hy=>?_,fun hne=>?_,LY fun i y hy=>(hl i y hy).2.2⟩
 ·obtain ⟨i,hi⟩:=List.mem_iff_getElem?.1 hy
  exact (hl i y hi).1
 ·match l,hne,hl with
  | y :: l,_,hl=>exact (hl 0 y rfl).2.1

theorem take1 {cs : List Value} (h : cs.length = 3) : ∃ a b c,cs = [a,b,c]:=by
 match cs,h with
 | [a,b,c],_=>exact ⟨a,b,c,rfl⟩

theorem P7 {t : TypeId} {fs : Array Field} (hfs : P.underlying t = some (.struct fs)) (hs : Ud P t fs.toList = true) : ∀ (fuel : Nat) (cs : List Value) (x : DataW H × List MemPlace),
  DataW.trod enc P w base spare held fuel t cs = some x -> ∃ A,PN A /\ Rd w (TJ w) A cs:=by
 obtain ⟨f,g,h,hfl⟩ : ∃ f g h,fs.toList = [f,g,h]:=by
  unfold Ud at hs
  split at hs
  ·exact ⟨_,_,_,‹_›⟩
  ·cases hs
 rw [hfl] at hs
 simp only [Ud,Bool.and_eq_true] at hs
 obtain ⟨⟨⟨⟨⟨⟨⟨⟨⟨c3,o0⟩,o1⟩,o2⟩,s0⟩,s1⟩,s2⟩,u0⟩,u1⟩,u2⟩:=hs
 have c3:=Nat.eq_of_beq_eq_true c3
 have o0:=Nat.eq_of_beq_eq_true o0
 have o1:=Nat.eq_of_beq_eq_true o1
 have o2:=Nat.eq_of_beq_eq_true o2
 have s0:=Nat.eq_of_beq_eq_true s0
 have s1:=Nat.eq_of_beq_eq_true s1
 have s2:=Nat.eq_of_beq_eq_true s2
 split at u0 <;> first | contradiction | skip
 rename_i k0 hu0
 obtain rfl:=fJ u0
 split at u1 <;> first | contradiction | skip
 rename_i e hu1
 obtain rfl:=Nat.eq_of_beq_eq_true u1
 split at u2 <;> first | contradiction | skip
 rename_i k2 hu2
 obtain rfl:=fJ u2
 intro fuel
 induction fuel using Nat.strongRecOn with
 | _ fuel ih =>
 intro cs x hx
 obtain ⟨xs,n,rfl,_,hl,hxl,hf⟩:=DataW.trod_struct hfs hx
 have hsz : fs.size = 3:=by rw [<- Array.length_toList,hfl]; rfl
 have gf : ∀ (i : Nat) (q : Field),[f,g,h][i]? = some q -> fs[i]? = some q:=fun i q hq=>by rw [<- Array.getElem?_toList,hfl]; exact hq
 have hxs : ∀ i,i < 3 -> ∃ y,xs[i]? = some y:=fun i hi=>⟨_,List.getElem?_eq_getElem (by omega)⟩
 obtain ⟨a,b,c,rfl⟩:=take1 (by rw [hl]; exact c3)
 obtain ⟨y0,e0⟩:=hxs 0 (by omega)
 obtain ⟨y1,e1⟩:=hxs 1 (by omega)
 obtain ⟨y2,e2⟩:=hxs 2 (by omega)
 have t0:=hf 0 f (gf 0 f rfl)
 have t1:=hf 1 g (gf 1 g rfl)
 have t2:=hf 2 h (gf 2 h rfl)
 rw [o0,s0,e0] at t0
 rw [o1,s1,e1] at t1
 rw [o2,s2,e2] at t2
 simp only [List.drop_zero,List.take_succ_cons,List.take_zero,List.drop_succ_cons] at t0 t1 t2
 obtain ⟨v,hv,_,w0⟩:=DataW.trod_int hu0 t0
 obtain ⟨r,hr,_,w2⟩:=DataW.trod_int hu2 t2
 obtain rfl : a = _:=(List.cons.inj hv).1
 obtain rfl : c = _:=(List.cons.inj hr).1
 have mid : ∃ ks : List AV,(∀ k ∈ ks,PN k) /\ Rd w (TJ w) (.sl 3 ks .no) [b]:=by
  rcases DataW.trod_slice hu1 t1 with ⟨hb,_⟩ | ⟨ad,len,cap,elems,rest,m,hm,hb,_,_,hlc,hcm,hel,hat,_,_⟩
  ·refine ⟨[],by simp,?_⟩
   rw [hb]
   simp only [Rd]; exact ⟨by simp [maxL],.inl ⟨trivial,trivial⟩⟩
  ·rw [c3] at hat
   obtain ⟨l,hll,hq,hsp,hR⟩:=JZ (by omega) PN hel hat (fun cs x _ hx=>ih m (by omega) cs x hx)
   refine ⟨l,hq,?_⟩
   rw [hb]
   simp only [Rd]
   subst hll
   exact ⟨Nat.le_trans hlc hcm,.inr ⟨ad,cap,rfl,hlc,hcm,hsp,hR⟩⟩
 obtain ⟨ks,hks,hR⟩:=mid
 refine ⟨_,.mk v r ks hks,?_⟩
 simp only [Rd,jY]
 refine ⟨[.int .i64 v],[b,.int .i64 r],rfl,⟨rfl,JY w0⟩,[b],[.int .i64 r],rfl,?_,[.int .i64 r],[],rfl,⟨rfl,JY w2⟩,rfl⟩
 simpa only [Rd] using hR

mutual
theorem FK : ∀ (S : Sh) {t : TypeId} {fuel : Nat} {cs : List Value} {x : DataW H × List MemPlace},JV P S t = true -> DataW.trod enc P w base spare held fuel t cs = some x -> ∃ A,S.In A /\ Rd w (TJ w) A cs
 | .bool,t,fuel,cs,x,hs,h=>by
   simp only [JV] at hs
   split at hs <;> first | contradiction | skip
   obtain ⟨b,rfl,_⟩:=DataW.trod_bool ‹_› h
   exact ⟨.bool b,⟨b,rfl⟩,by simp only [Rd]⟩
 | .int k,t,fuel,cs,x,hs,h=>by
   simp only [JV] at hs
   split at hs <;> first | contradiction | skip
   obtain rfl:=fJ hs
   obtain ⟨n,rfl,_,hw⟩:=DataW.trod_int ‹_› h
   exact ⟨.int k n,⟨n,rfl⟩,by simp only [Rd]; exact ⟨trivial,JY hw⟩⟩
 | .str,t,fuel,cs,x,hs,h=>by
   simp only [JV] at hs
   split at hs <;> first | contradiction | skip
   obtain ⟨s,rfl,_,hl⟩:=DataW.trod_string ‹_› h
   refine ⟨.str s.data.toList,⟨_,rfl⟩,?_⟩
   simp only [Rd]
   refine ⟨trivial,?_⟩
   have : s.size = s.data.toList.length:=by rw [Array.length_toList]; rfl
   rw [<- this]
   exact hl
 | .sl sz s,t,fuel,cs,x,hs,h=>by
   simp only [JV] at hs
   split at hs <;> first | contradiction | skip
   rename_i e he
   simp only [Bool.and_eq_true] at hs
   obtain ⟨⟨h1,h2⟩,h3⟩:=hs
   have h1:=Nat.eq_of_beq_eq_true h1
   have h2 : 0 < sz:=Nat.le_of_ble_eq_true h2
   rcases DataW.trod_slice he h with ⟨rfl,_⟩ | ⟨a,len,cap,elems,rest,n,_,rfl,_,_,hlc,hcm,hel,hat,_,_⟩
   ·exact ⟨.sl sz [] .no,⟨[],rfl,by simp⟩,by simp only [Rd]; exact ⟨by simp [maxL],.inl ⟨trivial,trivial⟩⟩⟩
   ·rw [h1] at hat
    have key : ∀ i,i < len -> ∃ A : AV,s.In A /\ a.spot = none /\ ∃ cs,cs.length = sz /\ jd w (TJ w) a.block (a.off + i * sz) cs /\ Rd w (TJ w) A cs:=by
     intro i hi
     have:=hat i hi
     rw [List.getElem?_eq_getElem (by omega)] at this
     obtain ⟨cs',g1,g2⟩:=Option.bind_eq_some_iff.1 this
     obtain ⟨A,hA,hR⟩:=FK s h3 g2
     have hsp : a.spot = none:=by
      have:=hat 0 (by omega)
      rw [List.getElem?_eq_getElem (by omega)] at this
      obtain ⟨cs0,g1,_⟩:=Option.bind_eq_some_iff.1 this
      obtain ⟨_,hl,hc⟩:=World.cells?_some g1
      have h0:=hc 0 h2
      rw [List.getElem?_eq_getElem (by omega)] at h0
      have:=World.cell?_spot h0
      obtain ⟨b,off,spot⟩:=a
      simpa [Addr.add] using this
     refine ⟨A,hA,hsp,cs',?_⟩
     obtain ⟨b,off,spot⟩:=a
     simp only at hsp; subst hsp
     have hadd : (Addr.add ⟨b,off,none⟩ (i * sz)) = ⟨b,off + i * sz,none⟩:=by
      unfold Addr.add
      split
      ·rename_i h0; rw [h0]; rfl
      ·rfl
     rw [hadd] at g1
     obtain ⟨k1,k2⟩:=cells_at g1 rfl
     exact ⟨k1,k2,hR⟩
    obtain ⟨l,hll,hl⟩:=qX key
    refine ⟨.sl sz l .no,⟨l,rfl,fun y hy=>?_⟩,?_⟩
    ·obtain ⟨i,hi⟩:=List.mem_iff_getElem?.1 hy
     exact (hl i y hi).1
    ·simp only [Rd]
     subst hll
     refine ⟨Nat.le_trans hlc hcm,.inr ⟨a,cap,rfl,hlc,hcm,fun hne=>?_,LY fun i y hy=>(hl i y hy).2.2⟩⟩
     match l,hne,hl with
     | y :: l,_,hl=>exact (hl 0 y rfl).2.1
 | .st l,t,fuel,cs,x,hs,h=>by
   simp only [JV] at hs
   split at hs <;> first | contradiction | skip
   rename_i fs hfs
   obtain ⟨xs,n,_,_,hl,hx,hf⟩:=DataW.trod_struct hfs h
   have hf' : ∀ (i : Nat) (f : Field),fs.toList[i]? = some f -> ∃ x,DataW.trod enc P w base spare held n f.type ((cs.drop f.offset).take (P.cellsOf f.type)) = some x:=by
    intro i f hi
    have hi' : fs[i]? = some f:=by simpa using hi
    have:=hf i f hi'
    rw [List.getElem?_eq_getElem (by rw [hx]; exact (Array.getElem?_eq_some_iff.1 hi').1)] at this
    exact ⟨_,this⟩
   obtain ⟨as,h1,h2⟩:=Ie l (n:=P.cellsOf t) (fs:=fs.toList) (off:=0) hs (by omega) hf'
   exact ⟨.ag as,⟨as,rfl,h1⟩,by simp only [Rd]; simpa using h2⟩
 | .spl,t,fuel,cs,x,hs,h=>by
   simp only [JV] at hs
   split at hs <;> first | contradiction | skip
   rename_i fs hfs
   exact P7 hfs hs fuel cs x h
theorem Ie : ∀ (l : List Sh) {n : Nat} {fs : List Field} {off fuel : Nat} {cs : List Value},fieldsB P n l fs off = true -> cs.length = n ->
  (∀ (i : Nat) f,fs[i]? = some f -> ∃ x : DataW H × List MemPlace,DataW.trod enc P w base spare held fuel f.type ((cs.drop f.offset).take (P.cellsOf f.type)) = some x) -> ∃ as,Yj l as /\ jY w (TJ w) as (cs.drop off)
 | [],n,[],off,fuel,cs,hb,hl,_=>by
   simp only [fieldsB] at hb
   obtain rfl:=Nat.eq_of_beq_eq_true hb
   exact ⟨[],rfl,by simp only [jY]; exact List.drop_eq_nil_of_le (by omega)⟩
 | [],n,_ :: _,off,fuel,cs,hb,hl,_=>by simp [fieldsB] at hb
 | s :: l,n,[],off,fuel,cs,hb,hl,_=>by simp [fieldsB] at hb
 | s :: l,n,f :: fs,off,fuel,cs,hb,hl,hf=>by
   simp only [fieldsB,Bool.and_eq_true] at hb
   obtain ⟨⟨h1,h2⟩,h3⟩:=hb
   have h1:=Nat.eq_of_beq_eq_true h1
   obtain ⟨x,hx⟩:=hf 0 f rfl
   obtain ⟨A,hA,hR⟩:=FK s h2 hx
   obtain ⟨as,g1,g2⟩:=Ie l (n:=n) (fs:=fs) (off:=off + P.cellsOf f.type) h3 hl fun i f hi=>hf (i + 1) f (by simpa using hi)
   refine ⟨A :: as,⟨A,as,rfl,hA,g1⟩,?_⟩
   simp only [jY]
   rw [h1] at hR
   refine ⟨_,_,?_,hR,g2⟩
   rw [<- List.drop_drop,List.take_append_drop]
end

theorem NY {r : Reach} {b0 : Nat} {t : TypeId} {v : Value} {d : DataW H} {ps : List MemPlace} (S : Sh) (hs : JV P S t = true) (hval : Value.okWide P w r b0 t v) (h : DataW.Trod enc P w base spare held t v d ps) :
  ∃ A,S.In A /\ EV (Yx w) A v:=by
 obtain ⟨fuel,hf⟩:=h
 obtain ⟨A,hA,hR⟩:=FK S hs hf
 refine ⟨A,hA,aS (Tc ?_ hR)⟩
 cases S with
 | spl =>
   obtain ⟨_,_,_,_⟩:=hA
   simp only [JV] at hs
   split at hs <;> first | contradiction | skip
   rename_i fs hfs
   unfold Value.okWide at hval
   rw [hfs] at hval
   obtain ⟨cs,rfl,_⟩:=hval
   exact ⟨fun _=>⟨cs,rfl⟩,fun hn=>by simp [cZ] at hn⟩
 | st l =>
   obtain ⟨as,rfl,_⟩:=hA
   simp only [JV] at hs
   split at hs <;> first | contradiction | skip
   rename_i fs hfs
   unfold Value.okWide at hval
   rw [hfs] at hval
   obtain ⟨cs,rfl,_⟩:=hval
   exact ⟨fun _=>⟨cs,rfl⟩,fun hn=>by simp [cZ] at hn⟩
 | bool =>
   obtain ⟨b,rfl⟩:=hA
   simp only [JV] at hs
   split at hs <;> first | contradiction | skip
   rename_i ht
   unfold Value.okWide at hval
   simp only [ht,Cell.okWide,Cell.ok] at hval
   refine ⟨fun hn=>by simp [cZ] at hn,fun _=>?_⟩
   cases v <;> first | rfl | simp at hval
 | int k =>
   obtain ⟨b,rfl⟩:=hA
   simp only [JV] at hs
   split at hs <;> first | contradiction | skip
   rename_i ht
   unfold Value.okWide at hval
   simp only [ht,Cell.okWide,Cell.ok] at hval
   refine ⟨fun hn=>by simp [cZ] at hn,fun _=>?_⟩
   cases v <;> first | rfl | simp at hval
 | str =>
   obtain ⟨b,rfl⟩:=hA
   simp only [JV] at hs
   split at hs <;> first | contradiction | skip
   rename_i ht
   unfold Value.okWide at hval
   simp only [ht,Cell.okWide,Cell.ok] at hval
   refine ⟨fun hn=>by simp [cZ] at hn,fun _=>?_⟩
   cases v <;> first | rfl | simp at hval
 | sl sz s =>
   obtain ⟨l,rfl,_⟩:=hA
   simp only [JV] at hs
   split at hs <;> first | contradiction | skip
   rename_i ht
   unfold Value.okWide at hval
   simp only [ht,Cell.okWide,Cell.ok] at hval
   refine ⟨fun hn=>by simp [cZ] at hn,fun _=>?_⟩
   cases v <;> first | rfl | simp at hval

end
end Go.AL

namespace Go.AL

end Go.AL

namespace Go.AL

theorem zA {n : Int} {p : Prop} (k : p) (h1 : -9223372036854775808 <= n:=by omega) (h2 : n <= 9223372036854775807:=by omega) : qM .i64 n /\ p:=⟨bP h1 h2,k⟩
theorem zY {p A B : Prop} (k : A) (h : p:=by decide +kernel) : (p -> A) /\ (¬ p -> B):=bY h k
theorem zN {p A B : Prop} (k : B) (h : ¬ p:=by decide +kernel) : (p -> A) /\ (¬ p -> B):=bN h k
theorem zI {n : Int} {p : Prop} (k : p) (h1 : -9223372036854775808 <= n:=by decide +kernel) (h2 : n <= 9223372036854775807:=by decide +kernel) : qM .i64 n /\ p:=⟨bP h1 h2,k⟩
theorem zD {p q : Prop} (k : q) (h : p:=by decide +kernel) : p /\ q:=⟨h,k⟩
theorem zC {α : Type} {l : List α} {lo hi : Int} {k : List α -> Prop} (h' : k ((l.drop lo.toNat).take (hi.toNat - lo.toNat))) (h : 0 <= lo /\ lo <= hi /\ hi <= (l.length : Int):=by decide +kernel) : Mc l lo hi k:=⟨h,h'⟩
theorem zT {sz bytes : Nat} {l m : List AV} {H : Heap} {k : AV -> Heap -> Prop} (next : mM H (.tok sz (l.length + m.length)) fun j H'=>k (.sl sz (l ++ m) (.own j)) H') (len : l.length + m.length <= maxL:=by decide +kernel) (room : (l.length + m.length) * bytes <= 140737488355328:=by decide +kernel) : y8 sz bytes l m H k:=.tok len room next
theorem zU {sz bytes : Nat} {l m : List AV} {H : Heap} {k : AV -> Heap -> Prop} (next : mM H (.tok sz (l.length + m.length)) fun j H'=>k (.sl sz (l ++ m) (.own j)) H') (len : l.length + m.length <= maxL:=by decide +kernel) (room : (l.length + m.length) * bytes <= 140737488355328:=by decide +kernel) : TQ sz bytes l m H k:=.tok len room next
theorem w1 {p : Prop} (h : p:=by first|exact rfl|exact trivial|exact wR|exact lR _) : p:=h
theorem wk {p : Prop} (h : p:=by repeat' first|exact rfl|exact trivial|exact wR|exact lR _|apply aI) : p:=h
end Go.AL
