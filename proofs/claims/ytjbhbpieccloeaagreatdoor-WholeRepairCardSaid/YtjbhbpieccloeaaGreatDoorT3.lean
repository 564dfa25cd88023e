/-
  A logic for calls of Go functions: a call in a greater heap, numbers. Nothing is assumed.
-/
import Derived.Test.YtjbhbpieccloeaaGreatDoorT2
import Derived.DeepKeys3
import Derived.Below
import Derived.ChangeArms
import Derived.ChangeShapes
import Derived.Carry

namespace Go.AL

def wK : Nat -> List AV -> Env
 | _,[]=>[]
 | n,A :: l=>(n,A) :: wK (n + 1) l

def aP : Nat -> List AV -> (Env -> Prop) -> Prop
 | _,[],k=>k []
 | n,A :: l,k=>aC n fun m=>aP m l fun e=>k ((n,A) :: e)

theorem La {k : Env -> Prop} : ∀ {l : List AV} {n : Nat},aP n l k ↔ k (wK n l)
 | [],_=>Iff.rfl
 | A :: l,n=>by simp only [aP,Fp,wK]; exact La

def ET (L : Lay) (e : Env) (H : Heap) : List ResultVar -> (List AV -> Prop) -> Prop
 | [],k=>k []
 | .tmp t :: l,k=>vC e t fun A=>ET L e H l fun As=>k (A :: As)
 | .cell t ty :: l,k=>vC e t fun A=>jf L ty A H fun R=>ET L e H l fun As=>k (R :: As)

def G9 (l : List AV) (k : AV -> Prop) : Prop :=
 match l with
 | [A]=>k A
 | l=>zW l (k (.dA l))

structure jY (L : Lay) (res : List ResultVar) (H0 : Heap) (R : AV) (H' : Heap) (e : Env) (H : Heap) : Prop where
 ex : ∃ e1 H1,Cv e H e1 H1 /\ ET L e1 H1 res fun As=>G9 As fun A=>le A R /\ dD (nextId H') R = true /\ nextId H0 <= nextId H' /\ HWk H1 H'

def Fin (L : Lay) (res : List ResultVar) (H0 : Heap) (R : AV) (H' : Heap) : AX -> Env -> Heap -> Prop :=
 fun x e H=>match x with
  | .exit _=>False
  | _=>jY L res H0 R H' e H

def XA (L : Lay) (res : List ResultVar) (H0 : Heap) (Q : AV -> Heap -> Prop) : AX -> Env -> Heap -> Prop :=
 fun x e H=>match x with
  | .exit _=>False
  | _=>∃ R H',Q R H' /\ jY L res H0 R H' e H

section
variable {P : Program} {L : Lay} {F : FT}

theorem PW {c : Cx} : ∀ {As : List AV} {vs : List Value} {n t : Nat} {A : AV},uV c As vs -> dL (wK n As) t = some A -> ∃ v,n <= t /\ vs[t - n]? = some v /\ EV c A v
 | [],_,_,_,_,_,h=>by simp [wK,dL] at h
 | B :: As,vs,n,t,A,hv,h=>by
   obtain ⟨v,r,rfl,h1,h2⟩:=hv
   simp only [wK,dL] at h
   cases hb : Nat.beq n t with
   | true =>
     rw [hb] at h
     obtain rfl:=Nat.eq_of_beq_eq_true hb
     obtain rfl:=Option.some.inj h
     exact ⟨v,Nat.le_refl _,by simp,h1⟩
   | false =>
     rw [hb] at h
     obtain ⟨u,h3,h4,h5⟩:=PW h2 h
     refine ⟨u,by omega,?_,h5⟩
     have : t - n = (t - (n + 1)) + 1:=by omega
     rw [this,List.getElem?_cons_succ]; exact h4

theorem I4 {c : Cx} : ∀ {As : List AV} {vs : List Value},uV c As vs -> vs.length = As.length
 | [],_,h=>by obtain rfl:=h; rfl
 | A :: As,vs,h=>by obtain ⟨v,r,rfl,_,h2⟩:=h; simp [I4 h2]

theorem Vy {c : Cx} : ∀ {As : List AV} {vs : List Value},uV c As vs -> yL As
 | [],_,_=>by simp only [yL]
 | A :: As,vs,h=>by obtain ⟨v,r,rfl,h1,h2⟩:=h; simp only [yL]; exact ⟨vO h1,Vy h2⟩

theorem vT (hL : bZ P L) {n : Nat} {c : Cx} {e : Env} {H : Heap} {a : Act} (hr : HR c H) (ha : nN n c e a) :
  ∀ {res : List ResultVar} {k : List AV -> Prop},ET L e H res k ->
    ∃ As vs,(res.mapM (fun | .tmp t=>pure (a.tmps.getD t undef) | .cell b t=>do loadVar t (<- asAddr (a.tmps.getD b undef)) : ResultVar -> Sem Value)).run P c.w = .ok vs c.w /\ uV c As vs /\ k As
 | [],k,h=>⟨[],[],by simp,rfl,h⟩
 | .tmp t :: l,k,h=>by
   obtain ⟨A,h1,h2⟩:=gB.1 h
   obtain ⟨As,vs,h3,h4,h5⟩:=vT hL hr ha h2
   refine ⟨A :: As,a.tmps.getD t undef :: vs,?_,⟨_,_,rfl,ha.env t A h1,h4⟩,h5⟩
   simp only [List.mapM_cons,Sem.run_bind,Sem.run_pure,Result.andThen_ok,h3]
 | .cell t ty :: l,k,h=>by
   obtain ⟨A,h1,h2⟩:=gB.1 h
   obtain ⟨ad,r,R,e1,hrun,hV,h2⟩:=Aq hL hr (ha.env t A h1) h2
   obtain ⟨As,vs,h3,h4,h5⟩:=vT hL hr ha h2
   refine ⟨R :: As,r :: vs,?_,⟨_,_,rfl,aS hV,h4⟩,h5⟩
   have e2 : (asAddr (Value.pointer (some ad))).run P c.w = .ok ad c.w:=rfl
   simp only [List.mapM_cons,Sem.run_bind,e1,e2,hrun,Sem.run_pure,Result.andThen_ok,h3]

theorem ES (hL : bZ P L) {n : Nat} {c : Cx} {e : Env} {H : Heap} {a : Act} {fn : Func} (hr : HR c H) (ha : nN n c e a) {k : AV -> Prop}
  (h : ET L e H fn.results.toList fun As=>G9 As k) : ∃ A v,(results fn a.tmps).run P c.w = .ok v c.w /\ EV c A v /\ k A:=by
 obtain ⟨As,vs,h1,h2,h3⟩:=vT hL hr ha h
 have hrun : ∀ v,(if h : vs.toArray.size = 1 then vs.toArray[0] else .tuple vs.toArray) = v -> (results fn a.tmps).run P c.w = .ok v c.w:=by
  rintro v rfl
  unfold results
  rw [Array.mapM_eq_mapM_toList]
  simp only [Sem.run_bind,map_eq_pure_bind,Sem.run_pure]
  erw [h1]
  simp only [Result.andThen_ok]
 unfold G9 at h3
 split at h3
 ·rename_i A
  obtain ⟨v,rfl,h4⟩:=uT h2
  exact ⟨A,v,hrun _ (by simp),h4,h3⟩
 ·rename_i hne
  obtain ⟨h4,h5⟩:=yP h3
  refine ⟨.dA As,.tuple vs.toArray,hrun _ ?_,⟨vs.toArray,rfl,by simpa using Vj h2 h4⟩,h5⟩
  rw [dif_neg]
  intro hs
  have hl:=I4 h2
  simp at hs
  rw [hs] at hl
  match As,hl with
  | [A],_=>exact hne A rfl

theorem dO.Ij {B : (AX -> Env -> Heap -> Prop) -> Env -> Heap -> Prop} {f : Nat} {fn : Func} {code : Code}
  (hB : ∀ (Q : AX -> Env -> Heap -> Prop) (e : Env) (H : Heap) (c : Cx) (a : Act),HR c H -> nN fn.ntmps c e a -> B Q e H -> code.wp P (Post fn.ntmps (writes code) c H a Q) a c.w)
  (hL : bZ P L) (hf : P.funcs[f]? = some fn) (hn : (fn.name == "runtime.NumGoroutine") = false) (hb : fn.body = some code)
  {args : List AV} {H : Heap} {Q : AV -> Heap -> Prop} {K : AX -> Env -> Heap -> Prop} (hK : ∀ x e G,K x e G -> XA L fn.results.toList H Q x e G) (ha : Nat.ble args.length fn.ntmps = true)
  (h : yL args -> aP 0 args fun e=>B K e H) : dO P f args H Q:=by
 refine ⟨⟨fn,hf,hn,by rw [hb]; rfl⟩,fun c vs hr hv=>?_⟩
 have h0:=La.1 (h (Vy hv))
 have hlen:=I4 hv
 have hle:=Nat.le_of_ble_eq_true ha
 refine calls_of_wp hf hb ?_
 have ha0 : nN fn.ntmps c (wK 0 args) { tmps:=vs.toArray ++ Array.replicate (fn.ntmps - vs.toArray.size) undef,defers:=[] }:=by
  refine ⟨fun t A hA=>?_,rfl,by simp; omega⟩
  obtain ⟨v,h1,h2,h3⟩:=PW hv hA
  simp only [Nat.sub_zero] at h2
  have hlt:=(List.getElem?_eq_some_iff.1 h2).1
  rw [Array.getD_eq_getD_getElem?,Array.getElem?_append_left (by simpa using hlt),List.getElem?_toArray,h2]
  exact h3
 refine wp_mono (hB _ _ H c _ hr ha0 h0) ?_
 rintro ex a w ⟨x,e,H1,c1,rfl,hq,rfl,htr,ha1,_⟩
 have hq:=hK _ _ _ hq
 have fin : (∃ R H',Q R H' /\ jY L fn.results.toList H R H' e H1) -> (a.defers = [] /\ ∃ v,(results fn a.tmps).run P c1.w = .ok v c1.w /\ (∃ v' d R H',Q R H' /\ Ending.returned v = .returned v' /\ d.w = c1.w /\ Tr c H d H' /\ EV d R v')):=by
  rintro ⟨R,H',hQ,e1,H2,hcv,hres⟩
  obtain ⟨d,hw,gV,ha'⟩:=qF hcv htr.hr ha1
  obtain ⟨A,v,hrun,hA,hle,hbnd,hnx,hwk⟩:=ES hL gV.hr ha' hres
  rw [hw] at hrun
  have hwk:=hwk.to0 gV.hr
  refine ⟨ha1.defers,v,hrun,v,d.cut H',R,H',hQ,rfl,hw,?_,?_⟩
  ·exact (htr.trans gV).cut hwk (by rw [hr.nx]; exact hnx)
  ·exact EN (fun k n hn=>by rw [gV.hr.tp]; exact hwk.tp k n hn) hbnd (Tv hle hA)
 cases x with
 | normal=>exact fin hq
 | ret=>exact fin hq
 | exit i=>exact hq.elim

theorem aQ.intro (hL : bZ P L) (hm : P.follows .mixedOrders = true) {f : Nat} {fn : Func} {code : Code} (hf : P.funcs[f]? = some fn) (hn : (fn.name == "runtime.NumGoroutine") = false) (hb : fn.body = some code)
  (hc : jO fn.ntmps code = true) {args : List AV} {H : Heap} {R : AV} {H' : Heap} (ha : Nat.ble args.length fn.ntmps = true)
  (h : yL args -> aP 0 args fun e=>aj (FP P) Ok L code (Fin L fn.results.toList H R H') e H) : aQ P f args H R H':=by
 obtain ⟨h1,h2⟩:=dO.Ij (Q:=fun R' G=>R' = R /\ G = H') (fun Q' e H' c a hr ha h=>ji hL hm (Vw P) code Q' e H' c a hc hr ha h) hL hf hn hb (fun x e G hq=>by
  cases x with
  | exit i=>exact hq.elim
  | normal=>exact ⟨R,H',⟨rfl,rfl⟩,hq⟩
  | ret=>exact ⟨R,H',⟨rfl,rfl⟩,hq⟩) ha h
 refine ⟨h1,fun c vs hr hv=>(h2 c vs hr hv).mono ?_⟩
 rintro _ _ ⟨v,d,_,_,⟨rfl,rfl⟩,h3⟩
 exact ⟨v,d,h3⟩

theorem dO.intro (hL : bZ P L) (hm : P.follows .mixedOrders = true) {f : Nat} {fn : Func} {code : Code} (hf : P.funcs[f]? = some fn) (hn : (fn.name == "runtime.NumGoroutine") = false) (hb : fn.body = some code)
  (hc : jO fn.ntmps code = true) {args : List AV} {H : Heap} {Q : AV -> Heap -> Prop} (ha : Nat.ble args.length fn.ntmps = true)
  (h : yL args -> aP 0 args fun e=>aj (FP P) Ok L code (XA L fn.results.toList H Q) e H) : dO P f args H Q :=
 dO.Ij (fun Q' e H' c a hr ha h=>ji hL hm (Vw P) code Q' e H' c a hc hr ha h) hL hf hn hb (fun _ _ _ h=>h) ha h

theorem dO.YA (hL : bZ P L) (hm : P.follows .mixedOrders = true) {f : Nat} {fn : Func} {code : Code} (hf : P.funcs[f]? = some fn) (hn : (fn.name == "runtime.NumGoroutine") = false) (hb : fn.body = some code)
  (hc : jO fn.ntmps code = true) {args : List AV} {H : Heap} {Q : AV -> Heap -> Prop} (ha : Nat.ble args.length fn.ntmps = true)
  (h : yL args -> aP 0 args fun e=>aj (FPw P) Ok L code (XA L fn.results.toList H Q) e H) : dO P f args H Q :=
 dO.Ij (fun Q' e H' c a hr ha h=>ji hL hm (Y7 P) code Q' e H' c a hc hr ha h) hL hf hn hb (fun _ _ _ h=>h) ha h

end
end Go.AL

namespace Go.AL

deriving instance DecidableEq for TD

mutual
def zB : AV -> List Value -> Option (List Value)
 | .ff,.bool false :: r=>some r
 | .int k 0,.int k' 0 :: r=>match oM k k' with | true=>some r | false=>none
 | .str [],.string s :: r=>match s.data.toList with | []=>some r | _=>none
 | .bH,.nilIface :: r=>some r
 | .aV,.slice none 0 0 :: r=>some r
 | .fJ,.pointer none :: r=>some r
 | .aZ,.nilFunc :: r=>some r
 | .jQ,.map none :: r=>some r
 | .ag l,cs=>Zb l cs
 | _,_=>none
def Zb : List AV -> List Value -> Option (List Value)
 | [],cs=>some cs
 | x :: l,cs=>match zB x cs with | some r=>Zb l r | none=>none
end

theorem RN (k : IntKind) : rZ k 0:=by cases k <;> simp [rZ,IntKind.min,IntKind.max,IntKind.signed,IntKind.bits]

mutual
theorem Jd {w : World} {Im : Nat -> Nat -> Prop} : ∀ (A : AV) (cs r : List Value),zB A cs = some r -> ∃ d,cs = d ++ r /\ Rd w Im A d
 | .ag l,cs,r,h=>by
   have h : Zb l cs = some r:=by simpa only [zB] using h
   obtain ⟨d,h1,h2⟩:=Fg (w:=w) (Im:=Im) l cs r h
   exact ⟨d,h1,by simpa only [Rd] using h2⟩
 | .ff,cs,r,h=>by
   unfold zB at h; split at h <;> first | contradiction | skip
   injection h with h; subst h; exact ⟨[_],rfl,by simp only [Rd]⟩
 | .int k n,cs,r,h=>by
   unfold zB at h; split at h <;> first | contradiction | skip
   split at h <;> first | contradiction | skip
   have:=fK ‹_›; subst this
   cases ‹AV.int _ _ = AV.int _ _›
   injection h with h; subst h; exact ⟨[_],rfl,by simp only [Rd]; exact ⟨trivial,RN _⟩⟩
 | .str s,cs,r,h=>by
   unfold zB at h; split at h <;> first | contradiction | skip
   split at h <;> first | contradiction | skip
   rename_i hs
   cases ‹AV.str _ = AV.str _›
   injection h with h; subst h
   refine ⟨[_],rfl,?_⟩
   simp only [Rd]
   refine ⟨?_,by simp [maxL]⟩
   congr 2
   rw [<- hs]
 | .bH,cs,r,h=>by
   unfold zB at h; split at h <;> first | contradiction | skip
   injection h with h; subst h; exact ⟨[_],rfl,by simp only [Rd]⟩
 | .aV,cs,r,h=>by
   unfold zB at h; split at h <;> first | contradiction | skip
   injection h with h; subst h; exact ⟨[_],rfl,by simp only [Rd]⟩
 | .fJ,cs,r,h=>by
   unfold zB at h; split at h <;> first | contradiction | skip
   injection h with h; subst h; exact ⟨[_],rfl,by simp only [Rd]⟩
 | .aZ,cs,r,h=>by
   unfold zB at h; split at h <;> first | contradiction | skip
   injection h with h; subst h; exact ⟨[_],rfl,by simp only [Rd]⟩
 | .jQ,cs,r,h=>by
   unfold zB at h; split at h <;> first | contradiction | skip
   injection h with h; subst h; exact ⟨[_],rfl,by simp only [Rd]⟩
 | .bool _,_,_,h=>by simp [zB] at h
 | .tt,_,_,h=>by simp [zB] at h
 | .dec _,_,_,h=>by simp [zB] at h
 | .jh _ _,_,_,h=>by simp [zB] at h
 | .sl _ _ _,_,_,h=>by simp [zB] at h
 | .ms _ _ _ _ _,_,_,h=>by simp [zB] at h
 | .dA _,_,_,h=>by simp [zB] at h
 | .ptr _ _ _,_,_,h=>by simp [zB] at h
 | .cp _,_,_,h=>by simp [zB] at h
 | .fn _ _,_,_,h=>by simp [zB] at h
 | .mp _,_,_,h=>by simp [zB] at h
 | .gs _ _,_,_,h=>by simp [zB] at h
 | .bm _ _,_,_,h=>by simp [zB] at h
 | .und,_,_,h=>by simp [zB] at h
theorem Fg {w : World} {Im : Nat -> Nat -> Prop} : ∀ (l : List AV) (cs r : List Value),Zb l cs = some r -> ∃ d,cs = d ++ r /\ kX w Im l d
 | [],cs,r,h=>by simp only [Zb] at h; injection h with h; subst h; exact ⟨[],rfl,by simp only [kX]⟩
 | x :: l,cs,r,h=>by
   simp only [Zb] at h
   cases hx : zB x cs with
   | none=>simp [hx] at h
   | some r' =>
     simp only [hx] at h
     obtain ⟨d,h1,h2⟩:=Jd (w:=w) (Im:=Im) x cs r' hx
     obtain ⟨d',h3,h4⟩:=Fg (w:=w) (Im:=Im) l r' r h
     exact ⟨d ++ d',by rw [h1,h3,List.append_assoc],by simp only [kX]; exact ⟨d,d',rfl,h2,h4⟩⟩
end

def qH : Value -> Bool
 | .agg _=>true
 | _=>false

def QD (P : Program) : List Field -> List AV -> Nat -> Bool
 | [],[],_=>true
 | f :: fs,x :: xs,n=>Nat.beq f.offset n && Nat.beq (P.cellsOf f.type) 1 && (f.name != "_") && (match P.underlying f.type,x with
   | some (.int q),.int q' _=>oM q q'
   | some .string,.str _=>true
   | _,_=>false) && QD P fs xs (n + 1)
 | _,_,_=>false

def WC (d : Option TypeDesc) : List AV -> Bool
 | []=>true
 | x :: xs=>(match d,x with
   | some (.int q),.int q' _=>oM q q'
   | some .string,.str _=>true
   | _,_=>false) && WC d xs

def Yz (P : Program) (k : Nat) (sh : AV) : Bool :=
 match P.underlying k,sh with
 | some (.int q),.int q' _=>oM q q'
 | some .string,.str _=>true
 | some (.struct fs),.ag zs=>P.keyTypeAt 2 k && P.keyType k && P.tiled 2 k && Nat.ble 1 P.types.size && Nat.beq (P.cellsOf k) zs.length && QD P fs.toList zs 0
 | some (.array n e),.ag zs=>P.keyTypeAt 2 k && P.keyType k && P.tiled 2 k && Nat.ble 1 P.types.size && Nat.beq (P.cellsOf k) zs.length && (Nat.beq n zs.length && Nat.beq (P.cellsOf e) 1 && WC (P.underlying e) zs)
 | _,_=>false

theorem Wx {P : Program} {w : World} {Im : Nat -> Nat -> Prop} {f : Field} {x y : AV} {c : List Value} {D : Nat} (h : (match P.underlying f.type,x with
  | some (.int q),.int q' _=>oM q q'
  | some .string,.str _=>true
  | _,_=>false) = true) (hs : ay x y = true) (hr : Rd w Im y c) : c.length = 1 /\ ∃ a,P.keyLits (D + 1) f.type c = some a:=by
 split at h
 ·rename_i q q' n hq
  obtain rfl:=fK h
  cases y <;> first | (simp [ay] at hs; done) | skip
  obtain rfl:=fK hs
  simp only [Rd] at hr
  obtain ⟨rfl,hi⟩:=hr
  rename_i m
  refine ⟨rfl,[.int q m],?_⟩
  unfold Program.keyLits
  simp only [hq]
  rw [if_pos ⟨trivial,by simpa [Lit.wf,rZ] using hi⟩]
 ·rename_i hq
  cases y <;> first | (simp [ay] at hs; done) | skip
  rename_i s
  simp only [Rd] at hr
  obtain ⟨rfl,hi⟩:=hr
  refine ⟨rfl,[.string s],?_⟩
  unfold Program.keyLits
  simp only [hq]
  have hi' : s.length <= maxLen:=hi
  rw [if_pos (by simpa [ByteArray.size] using hi')]
 ·cases h

theorem OZ {P : Program} {w : World} {Im : Nat -> Nat -> Prop} {D : Nat} {cs : List Value} : ∀ {fs : List Field} {xs ys : List AV} {n : Nat},QD P fs xs n = true -> bV xs ys = true -> kX w Im ys (cs.drop n) ->
  (∃ as,(fs.mapM fun f=>P.keyLits (D + 1) f.type ((cs.drop f.offset).take (P.cellsOf f.type))) = some as) /\ (cs.drop n).length = xs.length /\ fs.all (·.name != "_") = true
 | [],[],ys,n,_,hs,hr=>by
   cases ys with
   | nil=>simp only [kX] at hr; exact ⟨⟨[],rfl⟩,by rw [hr]; rfl,rfl⟩
   | cons y ys=>simp [bV] at hs
 | [],_ :: _,_,_,h,_,_=>by simp [QD] at h
 | _ :: _,[],_,_,h,_,_=>by simp [QD] at h
 | f :: fs,x :: xs,ys,n,h,hs,hr=>by
   cases ys with
   | nil=>simp [bV] at hs
   | cons y ys =>
     simp only [QD,Bool.and_eq_true] at h
     obtain ⟨⟨⟨⟨h1,h2⟩,h3⟩,h4⟩,h5⟩:=h
     simp only [bV,Bool.and_eq_true] at hs
     simp only [kX] at hr
     obtain ⟨c,d,e,g1,g2⟩:=hr
     obtain ⟨k1,a,k2⟩:=Wx (D:=D) h4 hs.1 g1
     have hd : cs.drop (n + 1) = d:=by
      rw [<- List.drop_drop,e,List.drop_append_of_le_length (by omega),List.drop_eq_nil_of_le (by omega),List.nil_append]
     obtain ⟨⟨as,m1⟩,m2,m3⟩:=OZ (P:=P) (D:=D) (cs:=cs) (n:=n + 1) h5 hs.2 (by rw [hd]; exact g2)
     have h1:=Nat.eq_of_beq_eq_true h1
     have h2:=Nat.eq_of_beq_eq_true h2
     have ht : (cs.drop f.offset).take (P.cellsOf f.type) = c:=by
      rw [h1,h2,e,List.take_append_of_le_length (by omega),List.take_of_length_le (by omega)]
     refine ⟨⟨a :: as,?_⟩,?_,?_⟩
     ·rw [List.mapM_cons,ht,k2,m1]; rfl
     ·rw [e,List.length_append,k1,<- hd,m2,List.length_cons]; omega
     ·simp only [List.all_cons,Bool.and_eq_true]; exact ⟨h3,m3⟩

theorem mapM_some {α β : Type} {f : α -> Option β} : ∀ {l : List α},(∀ x ∈ l,∃ a,f x = some a) -> ∃ as,l.mapM f = some as
 | [],_=>⟨[],rfl⟩
 | x :: l,h=>by
   obtain ⟨a,ha⟩:=h x (by simp)
   obtain ⟨as,h'⟩:=mapM_some (l:=l) fun y hy=>h y (by simp [hy])
   exact ⟨a :: as,by rw [List.mapM_cons,ha,h']; rfl⟩

theorem Ud {P : Program} {w : World} {Im : Nat -> Nat -> Prop} {t : Nat} {x y : AV} {c : List Value} {D : Nat} (h : (match P.underlying t,x with
  | some (.int q),.int q' _=>oM q q'
  | some .string,.str _=>true
  | _,_=>false) = true) (hs : ay x y = true) (hr : Rd w Im y c) : c.length = 1 /\ ∃ a,P.keyLits (D + 1) t c = some a:=by
 split at h
 ·rename_i q q' n hq
  obtain rfl:=fK h
  cases y <;> first | (simp [ay] at hs; done) | skip
  obtain rfl:=fK hs
  simp only [Rd] at hr
  obtain ⟨rfl,hi⟩:=hr
  rename_i m
  refine ⟨rfl,[.int q m],?_⟩
  unfold Program.keyLits
  simp only [hq]
  rw [if_pos ⟨trivial,by simpa [Lit.wf,rZ] using hi⟩]
 ·rename_i hq
  cases y <;> first | (simp [ay] at hs; done) | skip
  rename_i s
  simp only [Rd] at hr
  obtain ⟨rfl,hi⟩:=hr
  refine ⟨rfl,[.string s],?_⟩
  unfold Program.keyLits
  simp only [hq]
  have hi' : s.length <= maxLen:=hi
  rw [if_pos (by simpa [ByteArray.size] using hi')]
 ·cases h

theorem Ku {P : Program} {w : World} {Im : Nat -> Nat -> Prop} {D e : Nat} : ∀ {xs ys : List AV} {cs : List Value},WC (P.underlying e) xs = true -> bV xs ys = true -> kX w Im ys cs ->
  cs.length = xs.length /\ ∀ i,i < cs.length -> ∃ a,P.keyLits (D + 1) e ((cs.drop i).take 1) = some a
 | [],ys,cs,_,hs,hr=>by
   cases ys with
   | nil=>simp only [kX] at hr; subst hr; exact ⟨rfl,fun i hi=>by simp at hi⟩
   | cons y ys=>simp [bV] at hs
 | x :: xs,ys,cs,h,hs,hr=>by
   cases ys with
   | nil=>simp [bV] at hs
   | cons y ys =>
     simp only [WC,Bool.and_eq_true] at h
     simp only [bV,Bool.and_eq_true] at hs
     simp only [kX] at hr
     obtain ⟨c,d,rfl,g1,g2⟩:=hr
     obtain ⟨k1,a,k2⟩:=Ud (D:=D) h.1 hs.1 g1
     obtain ⟨m1,m2⟩:=Ku (P:=P) (D:=D) (e:=e) h.2 hs.2 g2
     refine ⟨by simp [k1,m1]; omega,fun i hi=>?_⟩
     cases i with
     | zero=>exact ⟨a,by rw [List.drop_zero,List.take_append_of_le_length (by omega),List.take_of_length_le (by omega)]; exact k2⟩
     | succ i =>
       obtain ⟨a',h'⟩:=m2 i (by simp [k1] at hi; omega)
       refine ⟨a',?_⟩
       have : (c ++ d).drop (i + 1) = d.drop i:=by
        match c,k1 with
        | [v],_=>rfl
       rw [this]; exact h'

theorem MS {P : Program} {k : Nat} {sh : AV} (h : Yz P k sh = true) : PN P k sh:=by
 unfold Yz at h
 split at h
 ·rename_i q q' n hq
  obtain rfl:=fK h
  refine ⟨Go.Maps.int_keyed hq,fun w Im A v hs hv hr=>?_⟩
  cases A <;> first | (simp [ay] at hs; done) | skip
  obtain rfl:=fK hs
  rename_i m
  simp only [Rd] at hr
  have hc:=hv.2 rfl
  rw [hc] at hr
  have hv' : v = .int q m:=by simpa using hr.1
  subst hv'
  exact ⟨_,Go.Maps.keyOf_int_mk hq (by simpa [Lit.wf,rZ] using hr.2)⟩
 ·rename_i hq
  refine ⟨Go.Maps.string_keyed hq,fun w Im A v hs hv hr=>?_⟩
  cases A <;> first | (simp [ay] at hs; done) | skip
  rename_i m
  simp only [Rd] at hr
  have hc:=hv.2 rfl
  rw [hc] at hr
  have hv' : v = .string ⟨m.toArray⟩:=by simpa using hr.1
  subst hv'
  refine ⟨.string m,?_⟩
  simp only [keyOf,hq,mapKey]
  have hi' : m.length <= maxLen:=hr.2
  rw [if_pos (by simpa [ByteArray.size] using hi')]
 ·rename_i fs zs hq
  simp only [Bool.and_eq_true] at h
  obtain ⟨⟨⟨⟨⟨h1,h2⟩,h3⟩,h4⟩,h5⟩,h6⟩:=h
  have h4:=Nat.le_of_ble_eq_true h4
  have h5:=Nat.eq_of_beq_eq_true h5
  have hwide : (match P.underlying k with | some (.array _ _) | some (.struct _)=>true | _=>false) = true:=by rw [hq]
  refine ⟨Go.Maps.Keyed.of_law (deep_law (m:=2) (by omega) h1 h3 hwide),fun w Im A v hs hv hr=>?_⟩
  cases A <;> first | (simp [ay] at hs; done) | skip
  rename_i l
  obtain ⟨cs,rfl⟩:=hv.1 rfl
  have hr : kX w Im l cs.toList:=by simpa only [Rd,Value.cells] using hr
  obtain ⟨D,hD⟩ : ∃ D,P.types.size = D + 1:=⟨P.types.size - 1,by omega⟩
  obtain ⟨⟨as,m1⟩,m2,m3⟩:=OZ (P:=P) (D:=D) (cs:=cs.toList) (n:=0) h6 hs (by simpa using hr)
  have hsz : cs.size = P.cellsOf k:=by rw [h5]; simpa using m2
  have hform : (Value.agg cs).formed P k = true:=by simp [Value.formed,hq,hsz]
  unfold keyOf
  simp only [hq,h2,hform,Bool.and_self,if_true,Value.cells]
  rw [hD]
  have : P.keyLits (D + 1 + 1) k cs.toList = some as.flatten:=by
   conv=>lhs; unfold Program.keyLits
   simp only [hq]
   rw [if_pos ⟨by simpa using hsz,by simpa using m3⟩,m1]; rfl
  rw [this]
  exact ⟨_,rfl⟩
 ·rename_i n e zs hq
  simp only [Bool.and_eq_true] at h
  obtain ⟨⟨⟨⟨⟨h1,h2⟩,h3⟩,h4⟩,h5⟩,⟨g1,g2⟩,g3⟩:=h
  have h4:=Nat.le_of_ble_eq_true h4
  have h5:=Nat.eq_of_beq_eq_true h5
  have g1:=Nat.eq_of_beq_eq_true g1
  have g2:=Nat.eq_of_beq_eq_true g2
  have hwide : (match P.underlying k with | some (.array _ _) | some (.struct _)=>true | _=>false) = true:=by rw [hq]
  refine ⟨Go.Maps.Keyed.of_law (deep_law (m:=2) (by omega) h1 h3 hwide),fun w Im A v hs hv hr=>?_⟩
  cases A <;> first | (simp [ay] at hs; done) | skip
  rename_i l
  obtain ⟨cs,rfl⟩:=hv.1 rfl
  have hr : kX w Im l cs.toList:=by simpa only [Rd,Value.cells] using hr
  obtain ⟨D,hD⟩ : ∃ D,P.types.size = D + 1:=⟨P.types.size - 1,by omega⟩
  obtain ⟨m1,m2⟩:=Ku (P:=P) (D:=D) (e:=e) g3 hs hr
  have hsz : cs.size = P.cellsOf k:=by rw [h5]; simpa using m1
  have hform : (Value.agg cs).formed P k = true:=by simp [Value.formed,hq,hsz]
  unfold keyOf
  simp only [hq,h2,hform,Bool.and_self,if_true,Value.cells]
  rw [hD]
  obtain ⟨as,m3⟩:=mapM_some (l:=List.range n) (f:=fun i=>P.keyLits (D + 1) e ((cs.toList.drop (i * P.cellsOf e)).take (P.cellsOf e))) fun i hi=>by
   rw [g2,Nat.mul_one]
   exact m2 i (by rw [m1,<- g1]; simpa using hi)
  have : P.keyLits (D + 1 + 1) k cs.toList = some as.flatten:=by
   conv=>lhs; unfold Program.keyLits
   simp only [hq]
   rw [if_pos (by simpa using hsz),m3]; rfl
  rw [this]
  exact ⟨_,rfl⟩
 ·cases h

def QC (P : Program) : List Field -> List AV -> Nat -> Bool
 | [],[],_=>true
 | f :: fs,x :: xs,n=>Nat.beq f.offset n && Nat.beq (P.cellsOf f.type) 1 && (f.name != "_") && (match P.underlying f.type,x with
   | some (.int q),.int q' _=>oM q q'
   | some .string,.str _=>true
   | some .bool,.ff=>true
   | _,_=>false) && QC P fs xs (n + 1)
 | _,_,_=>false

def WB (P : Program) (d : Option TypeDesc) : List AV -> Bool
 | []=>true
 | x :: xs=>(match d,x with
   | some (.int q),.int q' _=>oM q q'
   | some .string,.str _=>true
   | some .bool,.ff=>true
   | _,_=>false) && WB P d xs

def YL (P : Program) (t : Nat) (zs : List AV) : Bool :=
 P.keyTypeAt 2 t && P.keyType t && P.tiled 2 t && Nat.ble 1 P.types.size && Nat.beq (P.cellsOf t) zs.length && !P.eqGuardType P.depth t && (match P.underlying t with
 | some (.struct fs)=>QC P fs.toList zs 0
 | some (.array n e)=>Nat.beq n zs.length && Nat.beq (P.cellsOf e) 1 && WB P (P.underlying e) zs
 | _=>false)

theorem Jv {P : Program} {w : World} {Im : Nat -> Nat -> Prop} {t : Nat} {x y : AV} {c : List Value} {D : Nat} (h : (match P.underlying t,x with
  | some (.int q),.int q' _=>oM q q'
  | some .string,.str _=>true
  | some .bool,.ff=>true
  | _,_=>false) = true) (hs : jk x y = true) (hr : Rd w Im y c) : c.length = 1 /\ ∃ a,P.keyLits (D + 1) t c = some a:=by
 split at h
 ·rename_i q q' n hq
  obtain rfl:=fK h
  cases y <;> first | (simp [jk] at hs; done) | skip
  obtain rfl:=fK hs
  simp only [Rd] at hr
  obtain ⟨rfl,hi⟩:=hr
  rename_i m
  refine ⟨rfl,[.int q m],?_⟩
  unfold Program.keyLits
  simp only [hq]
  rw [if_pos ⟨trivial,by simpa [Lit.wf,rZ] using hi⟩]
 ·rename_i hq
  cases y <;> first | (simp [jk] at hs; done) | skip
  rename_i s
  simp only [Rd] at hr
  obtain ⟨rfl,hi⟩:=hr
  refine ⟨rfl,[.string s],?_⟩
  unfold Program.keyLits
  simp only [hq]
  have hi' : s.length <= maxLen:=hi
  rw [if_pos (by simpa [ByteArray.size] using hi')]
 ·rename_i hq
  have : ∃ b,c = [.bool b]:=by
   cases y <;> first | (simp [jk] at hs; done) | skip
   ·simp only [Rd] at hr; exact ⟨_,hr⟩
   ·simp only [Rd] at hr; exact ⟨_,hr⟩
   ·simp only [Rd] at hr; exact ⟨_,hr⟩
   ·simp only [Rd] at hr; obtain ⟨b,h,_⟩:=hr; exact ⟨b,h⟩
  obtain ⟨b,rfl⟩:=this
  refine ⟨rfl,[.bool b],?_⟩
  unfold Program.keyLits
  simp only [hq]
 ·cases h

theorem Ko {P : Program} {w : World} {Im : Nat -> Nat -> Prop} {D : Nat} {cs : List Value} : ∀ {fs : List Field} {xs ys : List AV} {n : Nat},QC P fs xs n = true -> gJ xs ys = true -> kX w Im ys (cs.drop n) ->
  (∃ as,(fs.mapM fun f=>P.keyLits (D + 1) f.type ((cs.drop f.offset).take (P.cellsOf f.type))) = some as) /\ (cs.drop n).length = xs.length /\ fs.all (·.name != "_") = true
 | [],[],ys,n,_,hs,hr=>by
   cases ys with
   | nil=>simp only [kX] at hr; exact ⟨⟨[],rfl⟩,by rw [hr]; rfl,rfl⟩
   | cons y ys=>simp [gJ] at hs
 | [],_ :: _,_,_,h,_,_=>by simp [QC] at h
 | _ :: _,[],_,_,h,_,_=>by simp [QC] at h
 | f :: fs,x :: xs,ys,n,h,hs,hr=>by
   cases ys with
   | nil=>simp [gJ] at hs
   | cons y ys =>
     simp only [QC,Bool.and_eq_true] at h
     obtain ⟨⟨⟨⟨h1,h2⟩,h3⟩,h4⟩,h5⟩:=h
     simp only [gJ] at hs
     cases qx : jk x y with
     | false=>simp [qx] at hs
     | true =>
     rw [qx] at hs
     simp only [kX] at hr
     obtain ⟨c,d,e,g1,g2⟩:=hr
     obtain ⟨k1,a,k2⟩:=Jv (D:=D) h4 qx g1
     have hd : cs.drop (n + 1) = d:=by
      rw [<- List.drop_drop,e,List.drop_append_of_le_length (by omega),List.drop_eq_nil_of_le (by omega),List.nil_append]
     obtain ⟨⟨as,m1⟩,m2,m3⟩:=Ko (P:=P) (D:=D) (cs:=cs) (n:=n + 1) h5 hs (by rw [hd]; exact g2)
     have h1:=Nat.eq_of_beq_eq_true h1
     have h2:=Nat.eq_of_beq_eq_true h2
     have ht : (cs.drop f.offset).take (P.cellsOf f.type) = c:=by
      rw [h1,h2,e,List.take_append_of_le_length (by omega),List.take_of_length_le (by omega)]
     refine ⟨⟨a :: as,?_⟩,?_,?_⟩
     ·rw [List.mapM_cons,ht,k2,m1]; rfl
     ·rw [e,List.length_append,k1,<- hd,m2,List.length_cons]; omega
     ·simp only [List.all_cons,Bool.and_eq_true]; exact ⟨h3,m3⟩

theorem Kt {P : Program} {w : World} {Im : Nat -> Nat -> Prop} {D e : Nat} : ∀ {xs ys : List AV} {cs : List Value},WB P (P.underlying e) xs = true -> gJ xs ys = true -> kX w Im ys cs ->
  cs.length = xs.length /\ ∀ i,i < cs.length -> ∃ a,P.keyLits (D + 1) e ((cs.drop i).take 1) = some a
 | [],ys,cs,_,hs,hr=>by
   cases ys with
   | nil=>simp only [kX] at hr; subst hr; exact ⟨rfl,fun i hi=>by simp at hi⟩
   | cons y ys=>simp [gJ] at hs
 | x :: xs,ys,cs,h,hs,hr=>by
   cases ys with
   | nil=>simp [gJ] at hs
   | cons y ys =>
     simp only [WB,Bool.and_eq_true] at h
     simp only [gJ] at hs
     cases qx : jk x y with
     | false=>simp [qx] at hs
     | true =>
     rw [qx] at hs
     simp only [kX] at hr
     obtain ⟨c,d,rfl,g1,g2⟩:=hr
     obtain ⟨k1,a,k2⟩:=Jv (D:=D) h.1 qx g1
     obtain ⟨m1,m2⟩:=Kt (P:=P) (D:=D) (e:=e) h.2 hs g2
     refine ⟨by simp [k1,m1]; omega,fun i hi=>?_⟩
     cases i with
     | zero=>exact ⟨a,by rw [List.drop_zero,List.take_append_of_le_length (by omega),List.take_of_length_le (by omega)]; exact k2⟩
     | succ i =>
       obtain ⟨a',h'⟩:=m2 i (by simp [k1] at hi; omega)
       refine ⟨a',?_⟩
       have : (c ++ d).drop (i + 1) = d.drop i:=by
        match c,k1 with
        | [v],_=>rfl
       rw [this]; exact h'

theorem Nv {P : Program} {t : Nat} {zs : List AV} (h : YL P t zs = true) : EqOk P t zs:=by
 unfold YL at h
 simp only [Bool.and_eq_true] at h
 obtain ⟨⟨⟨⟨⟨⟨h1,h2⟩,h3⟩,h4⟩,h5⟩,h6⟩,h7⟩:=h
 have h4:=Nat.le_of_ble_eq_true h4
 have h5:=Nat.eq_of_beq_eq_true h5
 obtain ⟨D,hD⟩ : ∃ D,P.types.size = D + 1:=⟨P.types.size - 1,by omega⟩
 have hwide : (match P.underlying t with | some (.array _ _) | some (.struct _)=>true | _=>false) = true:=by
  split at h7 <;> first | (rename_i hq; rw [hq]) | cases h7
 have rd : ∀ w Im l (cs : Array Value),gJ zs l = true -> kX w Im l cs.toList -> ∃ k,keyOf P t (.agg cs) = some k:=by
  intro w Im l cs hs hr
  split at h7
  ·rename_i fs hq
   obtain ⟨⟨as,m1⟩,m2,m3⟩:=Ko (P:=P) (D:=D) (cs:=cs.toList) (n:=0) h7 hs (by simpa using hr)
   have hsz : cs.size = P.cellsOf t:=by rw [h5]; simpa using m2
   have hform : (Value.agg cs).formed P t = true:=by simp [Value.formed,hq,hsz]
   unfold keyOf
   simp only [hq,h2,hform,Bool.and_self,if_true,Value.cells]
   rw [hD]
   have : P.keyLits (D + 1 + 1) t cs.toList = some as.flatten:=by
    conv=>lhs; unfold Program.keyLits
    simp only [hq]
    rw [if_pos ⟨by simpa using hsz,by simpa using m3⟩,m1]; rfl
   rw [this]
   exact ⟨_,rfl⟩
  ·rename_i n e hq
   simp only [Bool.and_eq_true] at h7
   obtain ⟨⟨g1,g2⟩,g3⟩:=h7
   have g1:=Nat.eq_of_beq_eq_true g1
   have g2:=Nat.eq_of_beq_eq_true g2
   obtain ⟨m1,m2⟩:=Kt (P:=P) (D:=D) (e:=e) g3 hs hr
   have hsz : cs.size = P.cellsOf t:=by rw [h5]; simpa using m1
   have hform : (Value.agg cs).formed P t = true:=by simp [Value.formed,hq,hsz]
   unfold keyOf
   simp only [hq,h2,hform,Bool.and_self,if_true,Value.cells]
   rw [hD]
   obtain ⟨as,m3⟩:=mapM_some (l:=List.range n) (f:=fun i=>P.keyLits (D + 1) e ((cs.toList.drop (i * P.cellsOf e)).take (P.cellsOf e))) fun i hi=>by
    rw [g2,Nat.mul_one]
    exact m2 i (by rw [m1,<- g1]; simpa using hi)
   have : P.keyLits (D + 1 + 1) t cs.toList = some as.flatten:=by
    conv=>lhs; unfold Program.keyLits
    simp only [hq]
    rw [if_pos (by simpa using hsz),m3]; rfl
   rw [this]
   exact ⟨_,rfl⟩
  ·cases h7
 refine ⟨fun w Im l m cs ds q1 q2 r1 r2=>?_,by simpa using h6⟩
 obtain ⟨lx,e1⟩:=rd w Im l cs q1 r1
 obtain ⟨ly,e2⟩:=rd w Im m ds q2 r2
 obtain ⟨r,hrun,hiff⟩:=run_equal_deep w (m:=2) (by omega) h1 hwide e1 e2
 refine ⟨r,hrun,hiff.trans ⟨fun e=>?_,fun e=>?_⟩⟩
 ·have K:=deep_law (m:=2) (by omega) h1 h3 hwide
  have:=K.inj (e1.trans (by rw [e])) e2
  exact (Value.agg.injEq _ _).mp this
 ·subst e; exact Option.some.inj (e1.symm.trans e2)

def tiB (P : Program) (t : Nat) (i : TI) : Bool :=
 (match i.cmp,i.zero with
 | true,.ag zs=>YL P t zs
 | _,_=>true) &&
 (match i.desc,i.key with
 | .map k _,some sh=>Yz P k sh
 | _,none=>true
 | _,some _=>false) &&
 (match P.info? t with
 | some x=>Nat.beq x.size (flat i.zero) && Nat.beq x.bytes i.bytes && (match x.zero with
   | some v=>(match zB i.zero v.cells.toList with | some []=>true | _=>false) && (dn i.zero == qH v) && !(match v with | .tuple _=>true | _=>false)
   | none=>false)
 | none=>false) &&
 (match P.underlying t with
 | some d=>decide (descOf P d = i.desc)
 | none=>false) &&
 (TL i.desc == dn i.zero) &&
 (match i.desc,i.zero with
 | .struct fs,.ag zs=>decide (fs.map (fun f=>(f.1,f.2.1)) = sK 0 zs) && fs.all fun f=>(P.info? f.2.2).isSome
 | .struct _,_=>false
 | _,_=>true)

theorem DR {v : Value} (h : qH v = false) : (∃ vs,v = .tuple vs) \/ v.cells = #[v]:=by
 cases v <;> first | (simp [qH] at h; done) | exact .inl ⟨_,rfl⟩ | exact .inr rfl

theorem P8 {P : Program} {t : Nat} {i : TI} (h : tiB P t i = true) : nH P t i:=by
 unfold tiB at h
 simp only [Bool.and_eq_true] at h
 obtain ⟨⟨⟨⟨⟨hq,h0⟩,h1⟩,h2⟩,h3⟩,h4⟩:=h
 refine ⟨fun hc zs hz=>Nv (by rw [hc,hz] at hq; exact hq),fun k e sh hd hk=>MS (by rw [hd,hk] at h0; exact h0),?_,?_,by simpa using h3,?_,?_⟩
 ·cases hx : P.info? t with
  | none=>simp [hx] at h1
  | some x =>
    simp only [hx,Bool.and_eq_true] at h1
    obtain ⟨⟨g1,g2⟩,g3⟩:=h1
    cases hz : x.zero with
    | none=>simp [hz] at g3
    | some v =>
      simp only [hz,Bool.and_eq_true] at g3
      obtain ⟨⟨g4,g5⟩,g6⟩:=g3
      refine ⟨x,v,rfl,Nat.eq_of_beq_eq_true g1,Nat.eq_of_beq_eq_true g2,hz,⟨fun hA=>?_,fun hA=>?_⟩,fun w Im=>?_⟩
      ·rw [hA] at g5
       cases v <;> simp [qH] at g5
       exact ⟨_,rfl⟩
      ·rw [hA] at g5
       rcases DR (v:=v) (by simpa using g5) with ⟨vs,rfl⟩ | h
       ·simp at g6
       ·exact h
      ·split at g4
       ·obtain ⟨d,e1,e2⟩:=Jd (w:=w) (Im:=Im) _ _ _ ‹_›
        rw [e1,List.append_nil]; exact e2
       ·cases g4
 ·cases hd : P.underlying t with
  | none=>simp [hd] at h2
  | some d=>simp only [hd] at h2; simp [of_decide_eq_true h2]
 ·intro fs hfs
  rw [hfs] at h4
  cases hz : i.zero <;> simp only [hz] at h4 <;> first | (cases h4; done) | skip
  simp only [Bool.and_eq_true] at h4
  exact ⟨_,rfl,of_decide_eq_true h4.1⟩
 ·intro fs hfs f hf
  rw [hfs] at h4
  cases hz : i.zero <;> simp only [hz] at h4 <;> first | (cases h4; done) | skip
  simp only [Bool.and_eq_true] at h4
  have:=List.all_eq_true.1 h4.2 f hf
  exact Option.isSome_iff_exists.1 this

def Wu (P : Program) : Lay -> Bool
 | .nil=>true
 | .node l t i r=>Wu P l && tiB P t i && Wu P r

theorem vW {P : Program} : ∀ {L : Lay},Wu P L = true -> bZ P L
 | .nil,_=>trivial
 | .node l t i r,h=>by
   simp only [Wu,Bool.and_eq_true] at h
   exact ⟨P8 h.1.2,vW h.1.1,vW h.2⟩

end Go.AL

namespace Go.AL

def H8 : List Nat -> Nat -> Bool
 | [],_=>false
 | x :: l,t=>match Nat.beq x t with | true=>true | false=>H8 l t

theorem CQ {t : Nat} : ∀ {l : List Nat},H8 l t = false -> t ∉ l
 | [],_=>by simp
 | x :: l,h=>by
   simp only [H8] at h
   cases hb : Nat.beq x t with
   | true=>rw [hb] at h; cases h
   | false =>
     rw [hb] at h
     have:=dZ hb
     simp only [List.mem_cons,not_or]
     exact ⟨fun e=>this e.symm,CQ h⟩

def keep (ws : List Nat) : Env -> Env
 | []=>[]
 | (t,A) :: e=>match H8 ws t with
   | true=>keep ws e
   | false=>(t,A) :: keep (t :: ws) e

def Df (ws : List Nat) : Env -> (Env -> Prop) -> Prop
 | [],k=>k []
 | (t,A) :: e,k=>match H8 ws t with
   | true=>Df ws e k
   | false=>Df (t :: ws) e fun m=>k ((t,A) :: m)

theorem uK : ∀ {e : Env} {ws : List Nat} {k : Env -> Prop},Df ws e k ↔ k (keep ws e)
 | [],_,_=>Iff.rfl
 | (t,A) :: e,ws,k=>by
   simp only [Df,keep]
   cases H8 ws t with
   | true=>exact uK
   | false=>exact uK

theorem xJ : ∀ {e : Env} {ws : List Nat} {t : Nat} {A : AV},(t,A) ∈ keep ws e -> dL e t = some A /\ t ∉ ws
 | [],_,_,_,h=>by simp [keep] at h
 | (i,B) :: e,ws,t,A,h=>by
   simp only [keep] at h
   cases hm : H8 ws i with
   | true =>
     rw [hm] at h
     obtain ⟨h1,h2⟩:=xJ h
     have hne : i ≠ t:=by
      intro e; subst e
      have hf : ∀ {l : List Nat},i ∉ l -> H8 l i = false:=by
       intro l
       induction l with
       | nil=>intro _; rfl
       | cons x l ih =>
         intro hn
         simp only [List.mem_cons,not_or] at hn
         simp only [H8]
         cases hb : Nat.beq x i with
         | true=>exact absurd (Nat.eq_of_beq_eq_true hb).symm hn.1
         | false=>exact ih hn.2
      rw [hf h2] at hm; cases hm
     simp only [dL]
     cases hb : Nat.beq i t with
     | true=>exact absurd (Nat.eq_of_beq_eq_true hb) hne
     | false=>exact ⟨h1,h2⟩
   | false =>
     rw [hm] at h
     rcases List.mem_cons.1 h with h | h
     ·simp at h
      obtain ⟨rfl,rfl⟩:=h
      exact ⟨by simp [dL],CQ hm⟩
     ·obtain ⟨h1,h2⟩:=xJ h
      simp only [List.mem_cons,not_or] at h2
      simp only [dL]
      cases hb : Nat.beq i t with
      | true=>exact absurd (Nat.eq_of_beq_eq_true hb).symm h2.1
      | false=>exact ⟨h1,h2.2⟩

def Rn : Env -> Env -> (Env -> Prop) -> Prop
 | [],m,k=>k m
 | x :: l,m,k=>Rn l m fun l'=>k (x :: l')

theorem Ee {m : Env} {k : Env -> Prop} : ∀ {l : Env},Rn l m k ↔ k (l ++ m)
 | []=>Iff.rfl
 | x :: l=>by simp only [Rn]; exact Ee

def OkE : Env -> Prop
 | []=>True
 | (_,A) :: e=>Ok A /\ OkE e

theorem Oa : ∀ {e : Env},(∀ t A,(t,A) ∈ e -> Ok A) -> OkE e
 | [],_=>trivial
 | (t,A) :: e,h=>⟨h t A (by simp),Oa fun t A hm=>h t A (by simp [hm])⟩

theorem aA.run {ws : List Nat} {body : (AX -> Env -> Heap -> Prop) -> Env -> Heap -> Prop} {Q : AX -> Env -> Heap -> Prop} {e : Env} {H : Heap} {e₁ : Env} {H₁ : Heap}
  (cv : Cv e H e₁ H₁) (ι : Type) (E : ι -> Env) (HS : ι -> Heap) (μ : ι -> Nat) (i₀ : ι) (hn : ∀ i,nextId (HS i) = nextId H₁) (h0 : Fe e₁ (nextId H₁) (E i₀) /\ HWk H₁ (HS i₀))
  (qQ : ∀ i,OkE (E i) -> Df ws e₁ fun kept=>Rn (E i) kept fun e'=>body (fun x e' H'=>match x with
    | .normal=>∃ i',(Fe e' (nextId (HS i')) (E i') /\ HWk H' (HS i')) /\ μ i' < μ i
    | x=>Q x e' H') e' (HS i)) : aA Ok ws body Q e H:=by
 refine ⟨e₁,H₁,ι,E,keep ws e₁,HS,μ,i₀,fun i e' H'=>∃ i',(Fe e' (nextId (HS i')) (E i') /\ HWk H' (HS i')) /\ μ i' < μ i,fun i e' H' h=>?_,cv,fun t A hm=>?_,hn,h0,fun i hi=>?_⟩
 ·obtain ⟨i',h1,h2⟩:=h
  exact ⟨i',e',H',.refl _ _,h1,h2⟩
 ·obtain ⟨h1,h2⟩:=xJ hm
  exact ⟨h1,by simpa using h2⟩
 ·exact Ee.1 (uK.1 (qQ i (Oa hi)))

end Go.AL

namespace Go.AL

theorem aA.inv {ws : List Nat} {body : (AX -> Env -> Heap -> Prop) -> Env -> Heap -> Prop} {Q : AX -> Env -> Heap -> Prop} {e : Env} {H : Heap} {e₁ : Env} {H₁ : Heap}
  (cv : Cv e H e₁ H₁) {ι : Type} (Inv : ι -> Prop) (E : ι -> Env) (HS : ι -> Heap) (μ : ι -> Nat) (i₀ : ι) (hI : Inv i₀) (hn : ∀ i,nextId (HS i) = nextId H₁) (h0 : Fe e₁ (nextId H₁) (E i₀) /\ HWk H₁ (HS i₀))
  (qQ : ∀ i,Inv i -> OkE (E i) -> Df ws e₁ fun kept=>Rn (E i) kept fun e'=>body (fun x e' H'=>match x with
    | .normal=>∃ i',Inv i' /\ (Fe e' (nextId (HS i')) (E i') /\ HWk H' (HS i')) /\ μ i' < μ i
    | x=>Q x e' H') e' (HS i)) : aA Ok ws body Q e H:=by
 refine aA.run cv { i : ι // Inv i } (fun i=>E i.1) (fun i=>HS i.1) (fun i=>μ i.1) ⟨i₀,hI⟩ (fun i=>hn i.1) h0 fun i hi=>?_
 have:=qQ i.1 i.2 hi
 have he : (fun (x : AX) (e' : Env) (H' : Heap)=>match x with
       | .normal=>∃ i',Inv i' /\ (Fe e' (nextId (HS i')) (E i') /\ HWk H' (HS i')) /\ μ i' < μ i.1
       | x=>Q x e' H') = (fun (x : AX) (e' : Env) (H' : Heap)=>match x with
       | .normal=>∃ i' : { i : ι // Inv i },(Fe e' (nextId (HS i'.1)) (E i'.1) /\ HWk H' (HS i'.1)) /\ μ i'.1 < μ i.1
       | x=>Q x e' H'):=by
  funext x e H
  cases x with
  | normal=>exact propext ⟨fun ⟨i',h1,h2,h3⟩=>⟨⟨i',h1⟩,h2,h3⟩,fun ⟨i',h2,h3⟩=>⟨i'.1,i'.2,h2,h3⟩⟩
  | _=>rfl
 rw [he] at this
 exact this

theorem aN.of {ws : List Nat} {body : (AX -> Env -> Heap -> Prop) -> Env -> Heap -> Prop} {Q : AX -> Env -> Heap -> Prop} {e : Env} {H : Heap} (h : aA Ok ws body Q e H) : aN Ok ws body Q e H:=.ex ⟨0,h⟩

theorem aN.step {ws : List Nat} {body : (AX -> Env -> Heap -> Prop) -> Env -> Heap -> Prop} {Q : AX -> Env -> Heap -> Prop} {e : Env} {H : Heap} (n : Nat)
  (h : body (fun x e' H'=>match x with | .normal=>LoopN Ok ws body Q n e' H' | x=>Q x e' H') e H) : aN Ok ws body Q e H:=.ex ⟨n + 1,h⟩

theorem uz {L : Lay} {e : Env} {H : Heap} : ∀ {res : List ResultVar} {k k' : List AV -> Prop},(∀ As,k As -> k' As) -> ET L e H res k -> ET L e H res k'
 | [],k,k',hk,h=>hk _ h
 | .tmp t :: l,k,k',hk,h=>by
   obtain ⟨A,h1,h2⟩:=gB.1 h
   exact gB.2 ⟨A,h1,uz (fun As=>hk _) h2⟩
 | .cell t ty :: l,k,k',hk,h=>by
   obtain ⟨A,h1,h2⟩:=gB.1 h
   refine gB.2 ⟨A,h1,?_⟩
   obtain ⟨R,h3,h4⟩:=je L ty A H _ h2
   exact h4 _ (uz (fun As=>hk _) h3)

theorem Fj {l : List AV} {k k' : AV -> Prop} (hk : ∀ A,k A -> k' A) (h : G9 l k) : G9 l k':=by
 unfold G9 at h ⊢
 split
 ·rename_i A
  exact hk _ h
 ·rename_i hne
  split at h
  ·exact absurd rfl (hne _)
  ·obtain ⟨h1,h2⟩:=Dv _ _ h
   exact h2 _ (hk _ h1)

theorem jY.mono {L : Lay} {res : List ResultVar} {R : AV} {e : Env} {H : Heap} (h : ET L e H res fun As=>G9 As fun A=>le A R /\ dD 0 R = true) : jY L res [] R [] e H:=by
 refine ⟨e,H,.refl _ _,uz (fun As=>Fj fun A h=>?_) h⟩
 exact ⟨h.1,h.2,Nat.le_refl _,.mk trivial trivial⟩

theorem fM {L : Lay} {res : List ResultVar} {R : AV} {e : Env} {H : Heap} (h : ET L e H res fun As=>G9 As fun A=>le A R /\ dD 0 R = true) : jY L res [] R [] e H:=jY.mono h
theorem aI {p q : Prop} (a : p) (b : q) : p /\ q:=⟨a,b⟩
theorem wR {H : Heap} : HWk H H:=.refl rfl
theorem lR (l : List AV) : gq l l:=bK l
theorem bY {p A B : Prop} (h : p) (k : A) : (p -> A) /\ (¬ p -> B):=⟨fun _=>k,fun h'=>absurd h h'⟩
theorem bN {p A B : Prop} (h : ¬ p) (k : B) : (p -> A) /\ (¬ p -> B):=⟨fun h'=>absurd h' h,fun _=>k⟩

theorem jY.same {L : Lay} {res : List ResultVar} {R : AV} {e : Env} {H : Heap} (h : ET L e H res fun As=>G9 As fun A=>le A R /\ dD (nextId H) R = true) : jY L res H R H e H:=by
 refine ⟨e,H,.refl _ _,uz (fun As=>Fj fun A h=>?_) h⟩
 exact ⟨h.1,h.2,Nat.le_refl _,.refl rfl⟩

theorem aY.auto {F : FT} {L : Lay} {ops : List Oper} {e : Env} {H : Heap} {k : Env -> Heap -> Prop} (h1 : Gn ops (ops.map fun o=>defB o.op) = true)
  (h2 : pU F L ops (ops.zip (ops.map fun o=>defB o.op)) e H k) : aY F L ops e H k:=.mk ⟨_,h1,h2⟩

theorem iq {α : Type} {f : α -> AV} {l : List α} {i : Nat} {k : AV -> Prop} (h : i < l.length) (hk : k (f l[i])) : kE (l.map f) (i : Int) k :=
 ⟨⟨f l[i],⟨Int.natCast_nonneg _,by simp [h]⟩,hk⟩⟩

theorem Au {α : Type} (d : α) {f : α -> AV} {l : List α} {n : Int} {k : AV -> Prop} (h : 0 <= n /\ n < (l.length : Int)) (hk : k (f (l.getD n.toNat d))) : kE (l.map f) n k:=by
 have hlt : n.toNat < l.length:=by omega
 refine ⟨⟨f (l.getD n.toNat d),⟨h.1,?_⟩,hk⟩⟩
 simp [List.getD_eq_getElem?_getD,hlt]

theorem eU {n : Int} (h1 : -9223372036854775808 <= n) (h2 : n <= 9223372036854775807) : rZ .i64 n:=by
 simp [rZ,IntKind.min,IntKind.max,IntKind.signed,IntKind.bits]; omega

end Go.AL

namespace Go.AL

def sg : List Nat -> Nat -> Nat -> Nat
 | [],n,k=>n + k
 | x :: _,_,0=>x
 | _ :: l,n,k + 1=>sg l n k

def ix : List Nat -> Nat -> Option Nat
 | [],_=>none
 | x :: l,i=>match Nat.beq x i with
   | true=>some 0
   | false=>match ix l i with
     | some k=>some (k + 1)
     | none=>none

mutual
def iE (σ : Nat -> Nat) : AV -> AV
 | .ptr k p o=>.ptr (σ k) p o
 | .ms k a b c d=>.ms (σ k) a b c d
 | .mp k=>.mp (σ k)
 | .gs k n=>.gs (σ k) n
 | .bm f k=>.bm f (σ k)
 | .sl s l (.own k)=>.sl s l (.own (σ k))
 | .fn f cap=>.fn f (EP σ cap)
 | .ag l=>.ag (EP σ l)
 | .dA l=>.dA (EP σ l)
 | .jh t x=>.jh t (iE σ x)
 | A=>A
def EP (σ : Nat -> Nat) : List AV -> List AV
 | []=>[]
 | x :: l=>iE σ x :: EP σ l
end

def Ze (σ : Nat -> Nat) : List (AV × AV) -> List (AV × AV)
 | []=>[]
 | (x,y) :: l=>(iE σ x,iE σ y) :: Ze σ l

def Qg (σ : Nat -> Nat) : HO -> HO
 | .box A=>.box (iE σ A)
 | .iK sh es=>.iK sh (Ze σ es)
 | o=>o

def AO (l : List Nat) (n : Nat) (G : Heap) : Heap -> Heap
 | []=>[]
 | (i,o) :: H=>(i,match ix l i with
   | some k=>(match hget G k with | some o'=>Qg (sg l n) o' | none=>.gone)
   | none=>o) :: AO l n G H

def newH (l : List Nat) (n : Nat) : Heap -> Heap -> Heap
 | [],H=>H
 | (k,o) :: G,H=>match Nat.ble l.length k with
   | true=>(sg l n k,Qg (sg l n) o) :: newH l n G H
   | false=>H

def QB (l : List Nat) (G H : Heap) : Heap:=newH l (nextId H) G (AO l (nextId H) G H)

def Dj : Nat -> Heap -> Bool
 | 0,[]=>true
 | m + 1,(i,_) :: H=>match Nat.beq i m with | true=>Dj m H | false=>false
 | _,_=>false

def nodupB : List Nat -> Bool
 | []=>true
 | x :: l=>match ix l x with | some _=>false | none=>nodupB l

def Ar (n : Nat) : List Nat -> Bool
 | []=>true
 | x :: l=>match Nat.blt x n with | true=>Ar n l | false=>false

def Vm (σ : Nat -> Nat) (m : Nat) (H : Heap) : Heap -> Prop
 | []=>True
 | (k,o) :: G=>jB H (σ k) (fun o'=>LV o' (Qg σ o) /\ (match o with | .iK _ es=>wJ m es = true | o=>NK m o = true)) /\ Vm σ m H G

theorem Cb : ∀ {l : List Nat} {n k : Nat},l.length <= k -> sg l n k = n + (k - l.length)
 | [],n,k,_=>by simp [sg]
 | x :: l,n,0,h=>by simp at h
 | x :: l,n,k + 1,h=>by simp only [sg]; rw [Cb (by simpa using h)]; simp

theorem Ov : ∀ {l : List Nat} {n k : Nat} (h : k < l.length),sg l n k = l[k]
 | [],_,_,h=>by simp at h
 | x :: l,n,0,_=>rfl
 | x :: l,n,k + 1,h=>by simp only [sg]; rw [Ov (by simpa using h)]; rfl

theorem Ih : ∀ {l : List Nat} {i k : Nat},ix l i = some k -> ∃ h : k < l.length,l[k] = i
 | [],_,_,h=>by simp [ix] at h
 | x :: l,i,k,h=>by
   simp only [ix] at h
   cases hb : Nat.beq x i with
   | true =>
     rw [hb] at h
     obtain rfl:=Nat.eq_of_beq_eq_true hb
     obtain rfl:=Option.some.inj h
     exact ⟨by simp,rfl⟩
   | false =>
     rw [hb] at h
     cases hx : ix l i with
     | none=>simp [hx] at h
     | some j =>
       simp only [hx] at h
       obtain rfl:=Option.some.inj h
       obtain ⟨h1,h2⟩:=Ih hx
       exact ⟨by simpa using h1,by simpa using h2⟩

theorem OU : ∀ {l : List Nat} {i : Nat},ix l i = none -> i ∉ l
 | [],_,_=>by simp
 | x :: l,i,h=>by
   simp only [ix] at h
   cases hb : Nat.beq x i with
   | true=>rw [hb] at h; cases h
   | false =>
     rw [hb] at h
     cases hx : ix l i with
     | some j=>simp [hx] at h
     | none=>simp only [List.mem_cons,not_or]; exact ⟨fun e=>dZ hb e.symm,OU hx⟩

theorem TK : ∀ {l : List Nat} {k : Nat} (h : k < l.length),nodupB l = true -> ix l l[k] = some k
 | [],_,h,_=>by simp at h
 | x :: l,0,_,_=>by simp [ix]
 | x :: l,k + 1,h,hn=>by
   simp only [nodupB] at hn
   cases hx : ix l x with
   | some j=>simp [hx] at hn
   | none =>
     simp only [hx] at hn
     have:=TK (l:=l) (k:=k) (by simpa using h) hn
     simp only [List.getElem_cons_succ,ix,this]
     have hne : x ≠ l[k]'(by simpa using h):=fun e=>OU hx (e ▸ List.getElem_mem _)
     cases hb : Nat.beq x (l[k]'(by simpa using h)) with
     | true=>exact absurd (Nat.eq_of_beq_eq_true hb) hne
     | false=>rfl

theorem zG {n : Nat} : ∀ {l : List Nat},Ar n l = true -> ∀ x ∈ l,x < n
 | [],_,x,hx=>by simp at hx
 | y :: l,h,x,hx=>by
   simp only [Ar] at h
   cases hb : Nat.blt y n with
   | false=>rw [hb] at h; cases h
   | true =>
     rw [hb] at h
     rcases List.mem_cons.1 hx with hx | hx
     ·subst hx; simpa using hb
     ·exact zG h x hx

def inv (l : List Nat) (n : Nat) (i : Nat) : Option Nat:=if n <= i then some (i - n + l.length) else ix l i

theorem MX {l : List Nat} {n : Nat} (hd : nodupB l = true) (hl : Ar n l = true) (k : Nat) : inv l n (sg l n k) = some k:=by
 unfold inv
 by_cases hk : k < l.length
 ·rw [Ov hk,if_neg (by have:=zG hl _ (List.getElem_mem hk); omega)]
  exact TK hk hd
 ·rw [Cb (by omega),if_pos (by omega)]
  congr 1; omega

theorem Dh {l : List Nat} {n i k : Nat} (h : inv l n i = some k) : sg l n k = i:=by
 unfold inv at h
 split at h
 ·obtain rfl:=Option.some.inj h
  rw [Cb (by omega)]; omega
 ·obtain ⟨h1,h2⟩:=Ih h
  rw [Ov h1,h2]

theorem Ym {l : List Nat} {n : Nat} (hd : nodupB l = true) (hl : Ar n l = true) {j k : Nat} (h : sg l n j = sg l n k) : j = k:=by
 have h1:=MX hd hl j
 rw [h,MX hd hl k] at h1
 exact (Option.some.inj h1).symm

theorem VW {l : List Nat} {n k : Nat} (hl : Ar n l = true) (hk : k < l.length) : sg l n k < n:=by
 rw [Ov hk]; exact zG hl _ (List.getElem_mem hk)

theorem JU {l : List Nat} {n : Nat} {G : Heap} : ∀ {H : Heap} {i : Nat},hget (AO l n G H) i = (hget H i).map fun o=>match ix l i with
  | some k=>(match hget G k with | some o'=>Qg (sg l n) o' | none=>.gone)
  | none=>o
 | [],_=>rfl
 | (j,o) :: H,i=>by
   simp only [AO,hget]
   cases hb : Nat.beq j i with
   | true=>obtain rfl:=Nat.eq_of_beq_eq_true hb; rfl
   | false=>exact JU

theorem Oh {l : List Nat} {n : Nat} {G : Heap} : ∀ {H : Heap},ak H -> ak (AO l n G H) /\ (∀ x ∈ AO l n G H,∃ y ∈ H,y.1 = x.1) /\ nextId (AO l n G H) = nextId H
 | [],_=>⟨trivial,by simp [AO],rfl⟩
 | (j,o) :: H,h=>by
   simp only [ak] at h
   obtain ⟨h1,h2,_⟩:=Oh (l:=l) (n:=n) (G:=G) h.2
   refine ⟨?_,?_,rfl⟩
   ·simp only [AO,ak]
    refine ⟨fun x hx=>?_,h1⟩
    obtain ⟨y,hy,he⟩:=h2 x hx
    rw [<- he]; exact h.1 y hy
   ·intro x hx
    simp only [AO,List.mem_cons] at hx
    rcases hx with rfl | hx
    ·exact ⟨(j,o),by simp,rfl⟩
    ·obtain ⟨y,hy,he⟩:=h2 x hx
     exact ⟨y,by simp [hy],he⟩

theorem OI {l : List Nat} {n : Nat} {U : Heap} (hU : ak U) (hn : nextId U = n) : ∀ {G : Heap},ak G ->
  ak (newH l n G U) /\ (∀ x ∈ newH l n G U,x ∈ U \/ ∃ k o,(k,o) ∈ G /\ l.length <= k /\ x = (sg l n k,Qg (sg l n) o)) /\ (l.length <= nextId G -> nextId (newH l n G U) = n + (nextId G - l.length))
 | [],_=>⟨hU,fun x hx=>.inl hx,fun h=>by show nextId U = n + (0 - l.length); omega⟩
 | (k,o) :: G,hG=>by
   simp only [ak] at hG
   obtain ⟨h1,h2,h3⟩:=OI (l:=l) hU hn hG.2
   simp only [newH]
   cases hb : Nat.ble l.length k with
   | false =>
     refine ⟨hU,fun x hx=>.inl hx,fun h=>?_⟩
     have : ¬ l.length <= k:=fun h=>by rw [Nat.ble_eq_true_of_le h] at hb; cases hb
     show nextId U = n + (k + 1 - l.length)
     have h : l.length <= k + 1:=h
     omega
   | true =>
     have hk:=Nat.le_of_ble_eq_true hb
     refine ⟨⟨fun x hx=>?_,h1⟩,fun x hx=>?_,fun _=>?_⟩
     ·rw [Cb hk]
      rcases h2 x hx with hx | ⟨k',o',hm,hk',rfl⟩
      ·have:=bF hU x hx; omega
      ·have:=hG.1 _ hm
       rw [Cb hk']; simp at this ⊢; omega
     ·rcases List.mem_cons.1 hx with rfl | hx
      ·exact .inr ⟨k,o,by simp,hk,rfl⟩
      ·rcases h2 x hx with hx | ⟨k',o',hm,hk',rfl⟩
       ·exact .inl hx
       ·exact .inr ⟨k',o',by simp [hm],hk',rfl⟩
     ·simp only [nextId]
      rw [Cb hk]; omega

theorem o7 {σ : Nat -> Nat} (A : AV) : dn (iE σ A) = dn A:=by
 cases A <;> first | rfl | (rename_i t; cases t <;> rfl)

section
variable {c d : Cx} {σ : Nat -> Nat} {m : Nat}

mutual
theorem qN (hw : d.w = c.w) (hI : d.Im = c.Im) (hm : d.nx = m) (hρ : ∀ k,k < m -> d.ρ k = c.ρ (σ k)) (htk : ∀ k,k < m -> d.tk k = c.tk (σ k)) (htp : ∀ k n,k < m -> d.tp k = some n -> c.tp (σ k) = some n) :
  ∀ (A : AV) (cs : List Value),dD m A = true -> VR c (iE σ A) cs -> VR d A cs
 | .ptr k p o,cs,hb,h=>by
   have hk : k < m:=by simpa [dD] using hb
   simp only [iE,VR] at h ⊢
   rw [hm,hρ k hk]; exact ⟨hk,h.2⟩
 | .ms k _ _ _ _,cs,hb,h=>by
   have hk : k < m:=by simpa [dD] using hb
   simp only [iE,VR] at h ⊢
   rw [hm,hρ k hk]; exact ⟨hk,h.2⟩
 | .mp k,cs,hb,h=>by
   have hk : k < m:=by simpa [dD] using hb
   simp only [iE,VR] at h ⊢
   rw [hm,hρ k hk]; exact ⟨hk,h.2⟩
 | .bm f k,cs,hb,h=>by
   have hk : k < m:=by simpa [dD] using hb
   simp only [iE,VR] at h ⊢
   rw [hm,hρ k hk]; exact ⟨hk,h.2⟩
 | .gs k _,cs,hb,h=>by
   have hk : k < m:=by simpa [dD] using hb
   simp only [iE,VR] at h ⊢
   rw [hm,htk k hk]
   exact ⟨hk,h.2.1,fun n hn=>h.2.2 n (htp k n hk hn)⟩
 | .sl s l (.own k),cs,hb,h=>by
   have hk : k < m:=by simpa [dD] using hb
   simp only [iE,VR] at h ⊢
   rw [hw,hI,hm,htk k hk]
   exact ⟨hk,h.2.1,fun n hn=>h.2.2 n (htp k n hk hn)⟩
 | .fn f cap,cs,hb,h=>by
   simp only [dD] at hb
   simp only [iE,VR] at h ⊢
   obtain ⟨vs,h1,h2⟩:=h
   exact ⟨vs,h1,Cj hw hI hm hρ htk htp cap vs hb h2⟩
 | .ag l,cs,hb,h=>by
   simp only [dD] at hb
   simp only [iE,VR] at h ⊢
   exact Ju hw hI hm hρ htk htp l cs hb h
 | .dA l,cs,hb,h=>by simp only [iE,VR,Rd] at h
 | .jh t x,cs,hb,h=>by
   simp only [dD] at hb
   simp only [iE,VR] at h ⊢
   obtain ⟨v,h1,h2,h3⟩:=h
   refine ⟨v,h1,?_,qN hw hI hm hρ htk htp x _ hb h3⟩
   unfold dQ at *; rw [o7] at h2; exact h2
 | .bool _,_,_,h=>by simp only [iE,VR] at h ⊢; rw [hw,hI]; exact h
 | .tt,_,_,h=>by simp only [iE,VR] at h ⊢; rw [hw,hI]; exact h
 | .ff,_,_,h=>by simp only [iE,VR] at h ⊢; rw [hw,hI]; exact h
 | .dec _,_,_,h=>by simp only [iE,VR] at h ⊢; rw [hw,hI]; exact h
 | .int _ _,_,_,h=>by simp only [iE,VR] at h ⊢; rw [hw,hI]; exact h
 | .str _,_,_,h=>by simp only [iE,VR] at h ⊢; rw [hw,hI]; exact h
 | .bH,_,_,h=>by simp only [iE,VR] at h ⊢; rw [hw,hI]; exact h
 | .aV,_,_,h=>by simp only [iE,VR] at h ⊢; rw [hw,hI]; exact h
 | .sl _ _ .no,_,_,h=>by simp only [iE,VR] at h ⊢; rw [hw,hI]; exact h
 | .sl _ _ .full,_,_,h=>by simp only [iE,VR] at h ⊢; rw [hw,hI]; exact h
 | .cp _,_,_,h=>by simp only [iE,VR] at h ⊢; rw [hw,hI]; exact h
 | .fJ,_,_,h=>by simp only [iE,VR] at h ⊢; rw [hw,hI]; exact h
 | .aZ,_,_,h=>by simp only [iE,VR] at h ⊢; rw [hw,hI]; exact h
 | .jQ,_,_,h=>by simp only [iE,VR] at h ⊢; rw [hw,hI]; exact h
 | .und,_,_,h=>by simp only [iE,VR,Rd] at h
theorem Ju (hw : d.w = c.w) (hI : d.Im = c.Im) (hm : d.nx = m) (hρ : ∀ k,k < m -> d.ρ k = c.ρ (σ k)) (htk : ∀ k,k < m -> d.tk k = c.tk (σ k)) (htp : ∀ k n,k < m -> d.tp k = some n -> c.tp (σ k) = some n) :
  ∀ (l : List AV) (cs : List Value),fH m l = true -> lg c (EP σ l) cs -> lg d l cs
 | [],_,_,h=>by simpa only [EP,lg] using h
 | x :: l,cs,hb,h=>by
   simp only [fH] at hb
   simp only [EP,lg] at h ⊢
   obtain ⟨a,e,h1,h2,h3⟩:=h
   cases hx : dD m x with
   | false=>rw [hx] at hb; cases hb
   | true=>rw [hx] at hb; exact ⟨a,e,h1,qN hw hI hm hρ htk htp x _ hx h2,Ju hw hI hm hρ htk htp l _ hb h3⟩
theorem Cj (hw : d.w = c.w) (hI : d.Im = c.Im) (hm : d.nx = m) (hρ : ∀ k,k < m -> d.ρ k = c.ρ (σ k)) (htk : ∀ k,k < m -> d.tk k = c.tk (σ k)) (htp : ∀ k n,k < m -> d.tp k = some n -> c.tp (σ k) = some n) :
  ∀ (l : List AV) (vs : List Value),fH m l = true -> VA c (EP σ l) vs -> VA d l vs
 | [],_,_,h=>by simpa only [EP,VA] using h
 | x :: l,vs,hb,h=>by
   simp only [fH] at hb
   simp only [EP,VA] at h ⊢
   obtain ⟨v,r,h1,h2,h3,h4⟩:=h
   cases hx : dD m x with
   | false=>rw [hx] at hb; cases hb
   | true =>
     rw [hx] at hb
     refine ⟨v,r,h1,?_,qN hw hI hm hρ htk htp x _ hx h3,Cj hw hI hm hρ htk htp l _ hb h4⟩
     unfold dQ at *; rw [o7] at h2; exact h2
end

mutual
theorem nR (hw : d.w = c.w) (hI : d.Im = c.Im) (hnx : ∀ k,k < c.nx -> σ k < d.nx) (hρ : ∀ k,k < c.nx -> d.ρ (σ k) = c.ρ k) (htk : ∀ k,k < c.nx -> d.tk (σ k) = c.tk k) (htp : ∀ k n,k < c.nx -> d.tp (σ k) = some n -> c.tp k = some n) :
  ∀ (A : AV) (cs : List Value),VR c A cs -> VR d (iE σ A) cs
 | .ptr k p o,cs,h=>by
   simp only [iE,VR] at h ⊢
   rw [hρ k h.1]; exact ⟨hnx k h.1,h.2⟩
 | .ms k _ _ _ _,cs,h=>by
   simp only [iE,VR] at h ⊢
   rw [hρ k h.1]; exact ⟨hnx k h.1,h.2⟩
 | .mp k,cs,h=>by
   simp only [iE,VR] at h ⊢
   rw [hρ k h.1]; exact ⟨hnx k h.1,h.2⟩
 | .bm f k,cs,h=>by
   simp only [iE,VR] at h ⊢
   rw [hρ k h.1]; exact ⟨hnx k h.1,h.2⟩
 | .gs k _,cs,h=>by
   simp only [iE,VR] at h ⊢
   rw [htk k h.1]
   exact ⟨hnx k h.1,h.2.1,fun n hn=>h.2.2 n (htp k n h.1 hn)⟩
 | .sl s l (.own k),cs,h=>by
   simp only [iE,VR] at h ⊢
   rw [hw,hI,htk k h.1]
   exact ⟨hnx k h.1,h.2.1,fun n hn=>h.2.2 n (htp k n h.1 hn)⟩
 | .fn f cap,cs,h=>by
   simp only [iE,VR] at h ⊢
   obtain ⟨vs,h1,h2⟩:=h
   exact ⟨vs,h1,yX hw hI hnx hρ htk htp cap vs h2⟩
 | .ag l,cs,h=>by
   simp only [iE,VR] at h ⊢
   exact FI hw hI hnx hρ htk htp l cs h
 | .dA l,cs,h=>by simp only [VR,Rd] at h
 | .jh t x,cs,h=>by
   simp only [iE,VR] at h ⊢
   obtain ⟨v,h1,h2,h3⟩:=h
   refine ⟨v,h1,?_,nR hw hI hnx hρ htk htp x _ h3⟩
   unfold dQ at *; rw [o7]; exact h2
 | .bool _,_,h=>by simp only [iE,VR] at h ⊢; rw [hw,hI]; exact h
 | .tt,_,h=>by simp only [iE,VR] at h ⊢; rw [hw,hI]; exact h
 | .ff,_,h=>by simp only [iE,VR] at h ⊢; rw [hw,hI]; exact h
 | .dec _,_,h=>by simp only [iE,VR] at h ⊢; rw [hw,hI]; exact h
 | .int _ _,_,h=>by simp only [iE,VR] at h ⊢; rw [hw,hI]; exact h
 | .str _,_,h=>by simp only [iE,VR] at h ⊢; rw [hw,hI]; exact h
 | .bH,_,h=>by simp only [iE,VR] at h ⊢; rw [hw,hI]; exact h
 | .aV,_,h=>by simp only [iE,VR] at h ⊢; rw [hw,hI]; exact h
 | .sl _ _ .no,_,h=>by simp only [iE,VR] at h ⊢; rw [hw,hI]; exact h
 | .sl _ _ .full,_,h=>by simp only [iE,VR] at h ⊢; rw [hw,hI]; exact h
 | .cp _,_,h=>by simp only [iE,VR] at h ⊢; rw [hw,hI]; exact h
 | .fJ,_,h=>by simp only [iE,VR] at h ⊢; rw [hw,hI]; exact h
 | .aZ,_,h=>by simp only [iE,VR] at h ⊢; rw [hw,hI]; exact h
 | .jQ,_,h=>by simp only [iE,VR] at h ⊢; rw [hw,hI]; exact h
 | .und,_,h=>by simp only [VR,Rd] at h
theorem FI (hw : d.w = c.w) (hI : d.Im = c.Im) (hnx : ∀ k,k < c.nx -> σ k < d.nx) (hρ : ∀ k,k < c.nx -> d.ρ (σ k) = c.ρ k) (htk : ∀ k,k < c.nx -> d.tk (σ k) = c.tk k) (htp : ∀ k n,k < c.nx -> d.tp (σ k) = some n -> c.tp k = some n) :
  ∀ (l : List AV) (cs : List Value),lg c l cs -> lg d (EP σ l) cs
 | [],_,h=>by simpa only [EP,lg] using h
 | x :: l,cs,h=>by
   simp only [EP,lg] at h ⊢
   obtain ⟨a,e,h1,h2,h3⟩:=h
   exact ⟨a,e,h1,nR hw hI hnx hρ htk htp x _ h2,FI hw hI hnx hρ htk htp l _ h3⟩
theorem yX (hw : d.w = c.w) (hI : d.Im = c.Im) (hnx : ∀ k,k < c.nx -> σ k < d.nx) (hρ : ∀ k,k < c.nx -> d.ρ (σ k) = c.ρ k) (htk : ∀ k,k < c.nx -> d.tk (σ k) = c.tk k) (htp : ∀ k n,k < c.nx -> d.tp (σ k) = some n -> c.tp k = some n) :
  ∀ (l : List AV) (vs : List Value),VA c l vs -> VA d (EP σ l) vs
 | [],_,h=>by simpa only [EP,VA] using h
 | x :: l,vs,h=>by
   simp only [EP,VA] at h ⊢
   obtain ⟨v,r,h1,h2,h3,h4⟩:=h
   refine ⟨v,r,h1,?_,nR hw hI hnx hρ htk htp x _ h3,yX hw hI hnx hρ htk htp l _ h4⟩
   unfold dQ at *; rw [o7]; exact h2
end

end

theorem Jt {c d : Cx} {σ : Nat -> Nat} {m : Nat} (hw : d.w = c.w) (hI : d.Im = c.Im) (hm : d.nx = m) (hρ : ∀ k,k < m -> d.ρ k = c.ρ (σ k)) (htk : ∀ k,k < m -> d.tk k = c.tk (σ k)) (htp : ∀ k n,k < m -> d.tp k = some n -> c.tp (σ k) = some n) :
  ∀ {l : List (AV × AV)} {es : List MapEntry},wJ m l = true -> Aw c (Ze σ l) es -> Aw d l es
 | [],_,_,h=>h
 | (x,y) :: l,es,hb,h=>by
   obtain ⟨e,r,h1,h2,h3,h4⟩:=h
   simp only [wJ] at hb
   cases hx : dD m x with
   | false=>rw [hx] at hb; cases hb
   | true =>
     cases hy : dD m y with
     | false=>rw [hx,hy] at hb; cases hb
     | true =>
       rw [hx,hy] at hb
       have sh : ∀ {A : AV} {v : Value},dQ (iE σ A) v -> dQ A v:=fun h=>by unfold dQ at *; rw [o7] at h; exact h
       exact ⟨e,r,h1,⟨sh h2.1,qN hw hI hm hρ htk htp _ _ hx h2.2⟩,⟨sh h3.1,qN hw hI hm hρ htk htp _ _ hy h3.2⟩,Jt hw hI hm hρ htk htp hb h4⟩

theorem FH {c d : Cx} {σ : Nat -> Nat} (hw : d.w = c.w) (hI : d.Im = c.Im) (hnx : ∀ k,k < c.nx -> σ k < d.nx) (hρ : ∀ k,k < c.nx -> d.ρ (σ k) = c.ρ k) (htk : ∀ k,k < c.nx -> d.tk (σ k) = c.tk k) (htp : ∀ k n,k < c.nx -> d.tp (σ k) = some n -> c.tp k = some n) :
  ∀ {l : List (AV × AV)} {es : List MapEntry},Aw c l es -> Aw d (Ze σ l) es
 | [],_,h=>h
 | (x,y) :: l,es,h=>by
   obtain ⟨e,r,h1,h2,h3,h4⟩:=h
   have sh : ∀ {A : AV} {v : Value},dQ A v -> dQ (iE σ A) v:=fun h=>by unfold dQ at *; rw [o7]; exact h
   exact ⟨e,r,h1,⟨sh h2.1,nR hw hI hnx hρ htk htp _ _ h2.2⟩,⟨sh h3.1,nR hw hI hnx hρ htk htp _ _ h3.2⟩,FH hw hI hnx hρ htk htp h4⟩

theorem Me {c d : Cx} {σ : Nat -> Nat} (hw : d.w = c.w) (hI : d.Im = c.Im) (hnx : ∀ k,k < c.nx -> σ k < d.nx) (hρ : ∀ k,k < c.nx -> d.ρ (σ k) = c.ρ k) (htk : ∀ k,k < c.nx -> d.tk (σ k) = c.tk k) (htp : ∀ k n,k < c.nx -> d.tp (σ k) = some n -> c.tp k = some n) {A : AV} {v : Value} (h : EV c A v) : EV d (iE σ A) v:=by
 have pl : VV c A v -> (∀ B,iE σ A ≠ .dA B) -> iE σ A ≠ .und -> EV d (iE σ A) v:=by
  intro h _ _
  refine aS ⟨?_,nR hw hI hnx hρ htk htp _ _ h.2⟩
  have:=h.1
  unfold dQ at *; rw [o7]; exact this
 cases A with
 | und=>trivial
 | dA l =>
   obtain ⟨vs,h1,h2⟩:=h
   exact ⟨vs,h1,yX hw hI hnx hρ htk htp _ _ h2⟩
 | sl s l t=>cases t <;> exact pl h (by simp [iE]) (by simp [iE])
 | _=>exact pl h (by simp [iE]) (by simp [iE])

theorem NU {c d : Cx} (h : c.Le d) {sz : Nat} : ∀ {l : List AV} {cs : List Value},zM c sz l cs -> zM d sz l cs
 | [],_,_=>trivial
 | x :: l,cs,g=>by
   obtain ⟨a,e,h1,h2,h3,h4⟩:=g
   exact ⟨a,e,h1,h2,dN h.im _ _ h3,NU h h4⟩

theorem ED {c d : Cx} (hw : d.w = c.w) (hI : d.Im = c.Im) {sz : Nat} : ∀ {l : List AV} {cs : List Value},zM c sz l cs -> zM d sz l cs
 | [],_,_=>trivial
 | x :: l,cs,g=>by
   obtain ⟨a,e,h1,h2,h3,h4⟩:=g
   exact ⟨a,e,h1,h2,by rw [hw,hI]; exact h3,ED hw hI h4⟩

theorem Vg {c d : Cx} (h : c.Le d) : ∀ {l : List (AV × AV)} {es : List MapEntry},Aw c l es -> Aw d l es
 | [],_,g=>g
 | (x,y) :: l,es,g=>by
   obtain ⟨e,r,h1,h2,h3,h4⟩:=g
   exact ⟨e,r,h1,nD h h2,nD h h3,Vg h h4⟩

theorem EG {σ : Nat -> Nat} {m : Nat} {H : Heap} : ∀ {G : Heap},Vm σ m H G -> ∀ k o,(k,o) ∈ G -> ∃ o',hget H (σ k) = some o' /\ LV o' (Qg σ o) /\ (match o with | .iK _ es=>wJ m es = true | o=>NK m o = true)
 | [],_,_,_,h=>by simp at h
 | (j,x) :: G,h,k,o,hm=>by
   simp only [Vm] at h
   rcases List.mem_cons.1 hm with hm | hm
   ·simp at hm; obtain ⟨rfl,rfl⟩:=hm
    obtain ⟨o',h1,h2⟩:=cZ.1 h.1
    exact ⟨o',h1,h2⟩
   ·exact EG h.2 k o hm

theorem Gg : ∀ {m : Nat} {H : Heap},Dj m H = true -> ak H /\ nextId H = m /\ (∀ x ∈ H,x.1 < m) /\ ∀ k,k < m -> ∃ o,(k,o) ∈ H
 | 0,[],_=>⟨trivial,rfl,by simp,by simp⟩
 | 0,_ :: _,h=>by simp [Dj] at h
 | m + 1,[],h=>by simp [Dj] at h
 | m + 1,(i,o) :: H,h=>by
   simp only [Dj] at h
   cases hb : Nat.beq i m with
   | false=>rw [hb] at h; cases h
   | true =>
     rw [hb] at h
     obtain rfl:=Nat.eq_of_beq_eq_true hb
     obtain ⟨h1,h2,h3,h4⟩:=Gg h
     refine ⟨⟨h3,h1⟩,rfl,?_,?_⟩
     ·intro x hx
      rcases List.mem_cons.1 hx with rfl | hx
      ·simp
      ·have:=h3 x hx; omega
     ·intro k hk
      by_cases hki : k = i
      ·subst hki; exact ⟨o,by simp⟩
      ·obtain ⟨o',ho'⟩:=h4 k (by omega)
       exact ⟨o',by simp [ho']⟩

theorem HO.Ok_le {c : Cx} {k : Nat} {o' o : HO} (h : LV o' o) (hok : o'.Ok c k) : o.Ok c k:=by
 by_cases JR : o = .gone
 ·subst JR; trivial
 cases o' <;> cases o <;> simp only [LV] at h <;> first | exact absurd rfl JR | skip
 ·obtain ⟨cs,ty,g1,g2,g3⟩:=hok
  exact ⟨cs,ty,g1,(Dc _ _ _ h g2).1,g3⟩
 ·obtain ⟨rfl,rfl,h⟩:=h
  obtain ⟨cs,ty,g1,g2,g3,g4,g5,g6⟩:=hok
  exact ⟨cs,ty,g1,g2,by rw [<- gY h]; exact g3,g4,uh h g5,g6⟩
 ·obtain ⟨rfl,rfl⟩:=h
  exact hok
 ·obtain ⟨rfl,h⟩:=h
  obtain ⟨ents,clock,g1,g2,g3,g4⟩:=hok
  exact ⟨ents,clock,g1,Ic h g2,Ie h g3,g4⟩
 ·obtain ⟨rfl,h⟩:=h
  have hl:=gY h
  rcases hok with ⟨g1,g2,g3⟩ | ⟨b,cs,ty,g1,g2,g3,g4,g5,g6,g7⟩
  ·subst g3; exact .inl ⟨g1,g2,List.length_eq_zero_iff.1 (by rw [<- hl]; rfl)⟩
  ·exact .inr ⟨b,cs,ty,g1,g2,g3,by rw [<- hl]; exact g4,g5,uh h g6,g7⟩
 ·obtain ⟨rfl,rfl⟩:=h
  exact hok

mutual
theorem FB {σ : Nat -> Nat} : ∀ (S A : AV),ay S (iE σ A) = ay S A
 | S,.ag l=>by
   simp only [iE]
   cases S <;> first | rfl | skip
   simp only [ay]
   exact Ce _ l
 | S,.bool _=>rfl
 | S,.tt=>rfl
 | S,.ff=>rfl
 | S,.dec _=>rfl
 | S,.int _ _=>rfl
 | S,.str _=>rfl
 | S,.bH=>rfl
 | S,.jh _ _=>by simp only [iE]; cases S <;> rfl
 | S,.aV=>rfl
 | S,.sl _ _ .no=>rfl
 | S,.sl _ _ .full=>rfl
 | S,.sl _ _ (.own _)=>by simp only [iE]; cases S <;> rfl
 | S,.ms _ _ _ _ _=>by simp only [iE]; cases S <;> rfl
 | S,.dA _=>by simp only [iE]; cases S <;> rfl
 | S,.ptr _ _ _=>by simp only [iE]; cases S <;> rfl
 | S,.cp _=>rfl
 | S,.fJ=>rfl
 | S,.fn _ _=>by simp only [iE]; cases S <;> rfl
 | S,.aZ=>rfl
 | S,.mp _=>by simp only [iE]; cases S <;> rfl
 | S,.gs _ _=>by simp only [iE]; cases S <;> rfl
 | S,.bm _ _=>by simp only [iE]; cases S <;> rfl
 | S,.jQ=>rfl
 | S,.und=>rfl
theorem Ce {σ : Nat -> Nat} : ∀ (s l : List AV),bV s (EP σ l) = bV s l
 | [],[]=>rfl
 | _ :: _,[]=>rfl
 | [],_ :: _=>rfl
 | x :: s,y :: l=>by simp only [EP,bV,FB x y,Ce s l]
end

theorem Ob {σ : Nat -> Nat} {sh : AV} : ∀ {l : List (AV × AV)},LM sh (Ze σ l) ↔ LM sh l
 | []=>Iff.rfl
 | (x,y) :: l=>by simp only [Ze,LM,FB,Ob (l:=l)]

theorem HO.Xx {c d : Cx} {σ : Nat -> Nat} {m k : Nat} {o : HO} (hk : k < m) (hb : match o with | .iK _ es=>wJ m es = true | o=>NK m o = true) (hw : d.w = c.w) (hI : d.Im = c.Im) (hm : d.nx = m) (hρ : ∀ k,k < m -> d.ρ k = c.ρ (σ k)) (htk : ∀ k,k < m -> d.tk k = c.tk (σ k)) (htp : ∀ k n,k < m -> d.tp k = some n -> c.tp (σ k) = some n)
  (h : (Qg σ o).Ok c (σ k)) : o.Ok d k:=by
 cases o with
 | box A =>
   obtain ⟨cs,ty,g1,g2,g3⟩:=h
   refine ⟨cs,ty,by rw [hw,hρ k hk]; exact g1,qN hw hI hm hρ htk htp _ _ hb g2,by rw [hI,hρ k hk]; exact g3⟩
 | arr sz cap l =>
   obtain ⟨cs,ty,g1,g2,g3,g4,g5,g6⟩:=h
   exact ⟨cs,ty,by rw [hw,hρ k hk]; exact g1,g2,g3,g4,ED hw hI g5,by rw [hI,hρ k hk]; exact g6⟩
 | tok sz top =>
   have h : (HO.tok sz top).Ok c (σ k):=h
   simp only [HO.Ok] at h ⊢
   rw [htk k hk,hw,hI]; exact h
 | iK sh es =>
   obtain ⟨ents,clock,g1,g2,g3,g4⟩:=h
   exact ⟨ents,clock,by rw [hw,hρ k hk]; exact g1,Jt hw hI hm hρ htk htp hb g2,Ob.1 g3,g4⟩
 | dU sz l =>
   have h : (HO.dU sz l).Ok c (σ k):=h
   simp only [HO.Ok] at h ⊢
   rw [htk k hk,hw,hI]
   exact h.imp id fun ⟨b,cs,ty,g1,g2,g3,g4,g5,g6,g7⟩=>⟨b,cs,ty,g1,g2,g3,g4,g5,ED hw hI g6,g7⟩
 | glob g cs =>
   have h : (HO.glob g cs).Ok c (σ k):=h
   show (HO.glob g cs).Ok d k
   simp only [HO.Ok] at h ⊢
   rw [hw,hI]; exact h
 | gone=>trivial

theorem HO.Vr {c d : Cx} {σ : Nat -> Nat} {k : Nat} {o : HO} (hk : k < c.nx) (hw : d.w = c.w) (hI : d.Im = c.Im) (hnx : ∀ k,k < c.nx -> σ k < d.nx) (hρ : ∀ k,k < c.nx -> d.ρ (σ k) = c.ρ k) (htk : ∀ k,k < c.nx -> d.tk (σ k) = c.tk k) (htp : ∀ k n,k < c.nx -> d.tp (σ k) = some n -> c.tp k = some n)
  (h : o.Ok c k) : (Qg σ o).Ok d (σ k):=by
 cases o with
 | box A =>
   obtain ⟨cs,ty,g1,g2,g3⟩:=h
   refine ⟨cs,ty,by rw [hw,hρ k hk]; exact g1,nR hw hI hnx hρ htk htp _ _ g2,by rw [hI,hρ k hk]; exact g3⟩
 | arr sz cap l =>
   obtain ⟨cs,ty,g1,g2,g3,g4,g5,g6⟩:=h
   exact ⟨cs,ty,by rw [hw,hρ k hk]; exact g1,g2,g3,g4,ED hw hI g5,by rw [hI,hρ k hk]; exact g6⟩
 | tok sz top =>
   show (HO.tok sz top).Ok d (σ k)
   simp only [HO.Ok] at h ⊢
   rw [htk k hk,hw,hI]; exact h
 | iK sh es =>
   obtain ⟨ents,clock,g1,g2,g3,g4⟩:=h
   exact ⟨ents,clock,by rw [hw,hρ k hk]; exact g1,FH hw hI hnx hρ htk htp g2,Ob.2 g3,g4⟩
 | dU sz l =>
   show (HO.dU sz l).Ok d (σ k)
   simp only [HO.Ok] at h ⊢
   rw [htk k hk,hw,hI]
   exact h.imp id fun ⟨b,cs,ty,g1,g2,g3,g4,g5,g6,g7⟩=>⟨b,cs,ty,g1,g2,g3,g4,g5,ED hw hI g6,g7⟩
 | glob g cs =>
   show (HO.glob g cs).Ok d (σ k)
   simp only [HO.Ok] at h ⊢
   rw [hw,hI]; exact h
 | gone=>trivial

theorem U1 {c d : Cx} {σ : Nat -> Nat} {k : Nat} {o : HO} (hρ : d.ρ (σ k) = c.ρ k) (htk : d.tk (σ k) = c.tk k) : aB d (σ k,Qg σ o) = aB c (k,o):=by
 cases o <;> simp only [Qg,aB,hρ,htk]

theorem dO.frame {P : Program} {f : Nat} {args Bs : List AV} {H H1 : Heap} {Q : AV -> Heap -> Prop} (l : List Nat) (hF : dO P f Bs H1 Q) (hl : Ar (nextId H) l = true /\ nodupB l = true /\ Dj l.length H1 = true /\ fH l.length Bs = true)
  (hsub : Vm (sg l (nextId H)) l.length H H1) (hle : ER args (EP (sg l (nextId H)) Bs)) : dO P f args H (fun R' H'=>∃ R G,Q R G /\ R' = iE (sg l (nextId H)) R /\ H' = QB l G H):=by
 obtain ⟨hlt,hnd,hfull,hbd⟩:=hl
 obtain ⟨XO,hnx1,hlt1,hall1⟩:=Gg hfull
 refine ⟨hF.1,fun c vs hr hv=>?_⟩
 have hcn:=hr.nx
 generalize hn : nextId H = n at *
 generalize hm : l.length = m at *
 let σ:=sg l n
 have σlt : ∀ k,k < m -> σ k < n:=fun k hk=>VW hlt (by omega)
 have σge : ∀ k,m <= k -> σ k = n + (k - m):=fun k hk=>by rw [<- hm] at hk ⊢; exact Cb hk
 have σinj : ∀ {j k},σ j = σ k -> j = k:=fun h=>Ym hnd hlt h
 let c1 : Cx:={ w:=c.w,Im:=c.Im,ρ:=fun k=>c.ρ (σ k),nx:=m,tk:=fun k=>c.tk (σ k),tp:=dw H1 }
 have TQ : ∀ k x,k < m -> c1.tp k = some x -> c.tp (σ k) = some x:=by
  intro k x hk hx
  have hx : dw H1 k = some x:=hx
  rw [hr.tp]
  unfold dw at hx ⊢
  cases hg : hget H1 k with
  | none=>simp [hg] at hx
  | some o =>
    rw [hg] at hx
    obtain ⟨o',h1,h2,_⟩:=EG hsub k _ (gW hg)
    cases o <;> simp at hx
    ·subst hx
     obtain rfl:=Ib h2
     show (match hget H (σ k) with | some (.tok _ n)=>some n | some (.dU _ l)=>some l.length | _=>none) = _
     rw [h1]
    ·subst hx
     obtain ⟨l',rfl,h3⟩:=JJ h2
     show (match hget H (σ k) with | some (.tok _ n)=>some n | some (.dU _ l)=>some l.length | _=>none) = _
     rw [h1]; simp [gY h3]
 have MZ : ∀ k o,(k,o) ∈ H1 -> ∃ o',(σ k,o') ∈ H /\ o.Ok c1 k /\ ∀ b,aB c1 (k,o) = some b -> aB c (σ k,o') = some b:=by
  intro k o hm'
  obtain ⟨o',h1,h2,h3⟩:=EG hsub k o hm'
  have hk:=hlt1 _ hm'
  refine ⟨o',gW h1,HO.Xx (c:=c) (d:=c1) (σ:=σ) (m:=m) hk h3 rfl rfl rfl (fun _ _=>rfl) (fun _ _=>rfl) TQ (HO.Ok_le h2 (hr.oK h1)),?_⟩
  intro b hb
  rw [<- U1 (c:=c1) (d:=c) (σ:=σ) rfl rfl] at hb
  exact OQ (c:=c) (d:=c) rfl rfl h2 hb
 have hr1 : HR c1 H1:=by
  refine ⟨hnx1.symm,rfl,XO,hr.im,fun x hx=>(MZ x.1 x.2 hx).choose_spec.2.1,?_⟩
  refine eP XO fun x hx y hy hne b hb hb'=>?_
  obtain ⟨o1,h1,_,e1⟩:=MZ x.1 x.2 hx
  obtain ⟨o2,h2,_,e2⟩:=MZ y.1 y.2 hy
  exact hr.apart' h1 h2 (fun h=>hne (σinj h)) (e1 b hb) (e2 b hb')
 have hv1 : uV c1 Bs vs:=by
  have:=uJ hle hv
  revert this hbd
  clear hle hv hF
  induction Bs generalizing vs with
  | nil=>intro _ h; exact h
  | cons B Bs ih =>
    intro hbd h
    obtain ⟨v,r,rfl,h1,h2⟩:=h
    simp only [fH] at hbd
    cases hB : dD m B with
    | false=>rw [hB] at hbd; cases hbd
    | true =>
      rw [hB] at hbd
      refine ⟨v,r,rfl,?_,ih _ hbd h2⟩
      have sh : ∀ {A : AV},dQ (iE σ A) v -> dQ A v:=fun h=>by unfold dQ at *; rw [o7] at h; exact h
      have back:=qN (c:=c) (d:=c1) (σ:=σ) (m:=m) rfl rfl rfl (fun _ _=>rfl) (fun _ _=>rfl) TQ
      have pl : VV c (iE σ B) v -> (∀ X,B ≠ .dA X) -> EV c1 B v:=fun h _=>aS ⟨sh h.1,back _ _ hB h.2⟩
      cases B with
      | und=>trivial
      | dA X =>
        obtain ⟨ws,e1,e2⟩:=h1
        exact ⟨ws,e1,Cj (c:=c) (d:=c1) (σ:=σ) (m:=m) rfl rfl rfl (fun _ _=>rfl) (fun _ _=>rfl) TQ _ _ hB e2⟩
      | sl s X t=>cases t <;> exact pl h1 (by simp)
      | _=>exact pl h1 (by simp)
 refine (hF.2 c1 vs hr1 hv1).mono ?_
 rintro e w' ⟨v,d1,R,G,hQ,rfl,rfl,htr,hR⟩
 have hd1 : d1.nx = nextId G:=htr.hr.nx
 have hmG : m <= nextId G:=by rw [<- hd1]; exact htr.le.nx
 obtain ⟨u1,u2,u3⟩:=Oh (l:=l) (n:=n) (G:=G) hr.ids
 obtain ⟨w1,w2,w3⟩:=OI (l:=l) (n:=n) u1 (u3.trans hn) htr.hr.ids
 rw [hm] at w2 w3
 have hG' : QB l G H = newH l n G (AO l n G H):=by unfold QB; rw [hn]
 have hnG:=w3 hmG
 let d : Cx:={ w:=d1.w,Im:=d1.Im,ρ:=fun i=>(match inv l n i with | some k=>d1.ρ k | none=>c.ρ i),nx:=n + (nextId G - m),tk:=fun i=>(match inv l n i with | some k=>d1.tk k | none=>c.tk i),tp:=dw (QB l G H) }
 have Qvσ : ∀ k,inv l n (σ k) = some k:=fun k=>MX hnd hlt k
 have dρ : ∀ k,d.ρ (σ k) = d1.ρ k:=fun k=>by show (match inv l n (σ k) with | some k=>d1.ρ k | none=>c.ρ (σ k)) = _; rw [Qvσ]
 have dtk : ∀ k,d.tk (σ k) = d1.tk k:=fun k=>by show (match inv l n (σ k) with | some k=>d1.tk k | none=>c.tk (σ k)) = _; rw [Qvσ]
 have dρ0 : ∀ i,inv l n i = none -> d.ρ i = c.ρ i:=fun i h=>by show (match inv l n i with | some k=>d1.ρ k | none=>c.ρ i) = _; rw [h]
 have WE : ∀ i,inv l n i = none -> d.tk i = c.tk i:=fun i h=>by show (match inv l n i with | some k=>d1.tk k | none=>c.tk i) = _; rw [h]
 -- the members of the new heap
 have hmem : ∀ x ∈ QB l G H,(∃ k o,(k,o) ∈ G /\ x = (σ k,Qg σ o)) \/ (∃ k,k < m /\ x = (σ k,.gone)) \/ (x ∈ H /\ inv l n x.1 = none):=by
  intro x hx
  rw [hG'] at hx
  rcases w2 x hx with hx | ⟨k,o,h1,h2,h3⟩
  ·have hxg : hget (AO l n G H) x.1 = some x.2:=lW u1 hx
   rw [JU] at hxg
   cases hg : hget H x.1 with
   | none=>simp [hg] at hxg
   | some o =>
     rw [hg] at hxg
     have hxn : x.1 < n:=by have:=bF hr.ids _ (gW hg); rw [hn] at this; exact this
     have hinv : inv l n x.1 = ix l x.1:=by unfold inv; rw [if_neg (by omega)]
     cases hi : ix l x.1 with
     | none =>
       simp only [Option.map_some,hi,Option.some.injEq] at hxg
       subst hxg
       exact .inr (.inr ⟨gW hg,by rw [hinv,hi]⟩)
     | some k =>
       have hs : σ k = x.1:=Dh (by rw [hinv,hi])
       have hkm : k < m:=by obtain ⟨h1,_⟩:=Ih hi; omega
       simp only [Option.map_some,hi,Option.some.injEq] at hxg
       cases hGk : hget G k with
       | none=>rw [hGk] at hxg; exact .inr (.inl ⟨k,hkm,by rw [hs,show HO.gone = x.2 from hxg]⟩)
       | some o1=>rw [hGk] at hxg; exact .inl ⟨k,o1,gW hGk,by rw [hs]; exact Prod.ext rfl hxg.symm⟩
  ·exact .inl ⟨k,o,h1,h3⟩
 have ZE : ak (QB l G H):=by rw [hG']; exact w1
 -- tokens
 have tpσ : ∀ k x,d.tp (σ k) = some x -> d1.tp k = some x:=by
  intro k x hx
  have hx : dw (QB l G H) (σ k) = some x:=hx
  rw [htr.hr.tp]
  unfold dw at hx ⊢
  cases hg : hget (QB l G H) (σ k) with
  | none=>simp [hg] at hx
  | some o =>
    rw [hg] at hx
    rcases hmem _ (gW hg) with ⟨j,o1,h1,h2⟩ | ⟨j,_,h2⟩ | ⟨_,h2⟩
    ·simp only [Prod.mk.injEq] at h2
     obtain ⟨h2,rfl⟩:=h2
     obtain rfl:=σinj h2
     rw [lW htr.hr.ids h1]
     cases o1 <;> simp [Qg] at hx ⊢ <;> exact hx
    ·simp only [Prod.mk.injEq] at h2
     obtain ⟨_,rfl⟩:=h2
     simp at hx
    ·rw [Qvσ] at h2; cases h2
 have tp0 : ∀ i x,i < n -> inv l n i = none -> d.tp i = some x -> c.tp i = some x:=by
  intro i x hi hin hx
  have hx : dw (QB l G H) i = some x:=hx
  rw [hr.tp]
  unfold dw at hx ⊢
  cases hg : hget (QB l G H) i with
  | none=>simp [hg] at hx
  | some o =>
    rw [hg] at hx
    rcases hmem _ (gW hg) with ⟨j,o1,h1,h2⟩ | ⟨j,_,h2⟩ | ⟨h1,_⟩
    ·simp only [Prod.mk.injEq] at h2
     rw [h2.1,Qvσ] at hin; cases hin
    ·simp only [Prod.mk.injEq] at h2
     rw [h2.1,Qvσ] at hin; cases hin
    ·rw [lW hr.ids h1]; exact hx
 have hle' : c.Le d:=by
  refine ⟨htr.le.im,by rw [hcn]; exact Nat.le_add_right _ _,fun k hk=>?_,fun i x hi hx=>?_⟩
  ·cases hin : inv l n k with
   | none=>exact dρ0 k hin
   | some j =>
     have hs : σ j = k:=Dh hin
     have hjm : j < m:=Classical.byContradiction fun h=>by have:=σge j (by omega); omega
     rw [<- hs,dρ,htr.le.ρ j hjm]
  ·cases hin : inv l n i with
   | none=>exact .inl ⟨tp0 i x (by omega) hin hx,WE i hin⟩
   | some j =>
     have hs : σ j = i:=Dh hin
     have hjm : j < m:=Classical.byContradiction fun h=>by have:=σge j (by omega); omega
     rw [<- hs] at hx ⊢
     rcases htr.le.tk j x hjm (tpσ j x hx) with ⟨h1,h2⟩ | ⟨y,h1,h2⟩
     ·exact .inl ⟨TQ j x hjm h1,by rw [dtk,h2]⟩
     ·exact .inr ⟨y,TQ j y hjm h1,h2⟩
 have hnxσ : ∀ k,k < d1.nx -> σ k < d.nx:=by
  intro k hk
  show σ k < n + (nextId G - m)
  by_cases hkm : k < m
  ·have:=σlt k hkm; omega
  ·rw [σge k (by omega)]; omega
 have forth:=fun {k : Nat} {o : HO} (hk : k < d1.nx) (h : o.Ok d1 k)=>HO.Vr (c:=d1) (d:=d) (σ:=σ) (k:=k) (o:=o) hk rfl rfl hnxσ (fun k _=>dρ k) (fun k _=>dtk k) (fun k x _ h=>tpσ k x h) h
 -- blocks
 have Xu : ∀ k o,aB d (σ k,Qg σ o) = aB d1 (k,o):=fun k o=>U1 (dρ k) (dtk k)
 have Xt : ∀ x : Nat × HO,inv l n x.1 = none -> aB d x = aB c x:=by
  rintro ⟨i,o⟩ hi
  cases o <;> simp only [aB,dρ0 i hi,WE i hi]
 have BD : ∀ k,aB d (σ k,.gone) = none:=fun k=>rfl
 have JE : ∀ x ∈ H,inv l n x.1 = none -> ∀ b,aB c x = some b -> ∀ y ∈ H1,aB c1 y ≠ some b:=by
  intro x hx hin b hb y hy hb'
  obtain ⟨o',h1,_,e1⟩:=MZ y.1 y.2 hy
  exact hr.apart' hx h1 (fun h=>by rw [h,Qvσ] at hin; cases hin) hb (e1 b hb')
 have U2 : ∀ x ∈ H,∀ b,aB c x = some b -> b < c.w.heap.size:=by
  intro x hx b hb
  have hok:=hr.ok x hx
  obtain ⟨i,o⟩:=x
  cases o with
  | box A=>obtain ⟨cs,ty,g1,_⟩:=hok; simp [aB] at hb; subst hb; exact (Array.getElem?_eq_some_iff.1 g1).1
  | arr sz cap l=>obtain ⟨cs,ty,g1,_⟩:=hok; simp [aB] at hb; subst hb; exact (Array.getElem?_eq_some_iff.1 g1).1
  | iK sh es=>obtain ⟨ents,clock,g1,_⟩:=hok; simp [aB] at hb; subst hb; exact (Array.getElem?_eq_some_iff.1 g1).1
  | gone=>simp [aB] at hb
  | glob _ _=>simp [aB] at hb
  | dU sz l=>exact Vu hok hb
  | tok sz top =>
    simp only [aB] at hb
    rcases hok with h | ⟨b',cs,ty,h1,h2,_⟩
    ·rw [if_pos h] at hb; cases hb
    ·split at hb
     ·cases hb
     ·have h1 : (c.tk i).1 = some ⟨b',0,none⟩:=h1
      rw [h1] at hb
      simp at hb; subst hb
      exact (Array.getElem?_eq_some_iff.1 h2).1
 have same : ∀ x ∈ H,inv l n x.1 = none -> ∀ b,aB c x = some b -> d1.w.heap[b]? = c.w.heap[b]? /\ ∀ o,d1.Im b o -> c.Im b o:=by
  intro x hx hin b hb
  have hno:=JE x hx hin b hb
  refine ⟨htr.fr b (U2 x hx b hb) hno,fun o ho=>?_⟩
  rcases htr.VJ b o ho with h | h | ⟨y,hy,h⟩
  ·exact h
  ·have:=U2 x hx b hb; have h : c.w.heap.size <= b:=h; omega
  ·exact absurd h (hno y hy)
 have okH : ∀ x ∈ H,inv l n x.1 = none -> x.2.Ok d x.1:=by
  rintro ⟨i,o⟩ hx hin
  have hok:=hr.ok _ hx
  have hs:=same _ hx hin
  cases o with
  | box A =>
    obtain ⟨cs,ty,g1,g2,g3⟩:=hok
    obtain ⟨s1,s2⟩:=hs (c.ρ i) rfl
    refine ⟨cs,ty,?_,nG hle' _ _ g2,fun o h=>?_⟩
    ·rw [dρ0 i hin]; exact s1.trans g1
    ·rw [dρ0 i hin] at h; exact g3 o (s2 o h)
  | arr sz cap l =>
    obtain ⟨cs,ty,g1,g2,g3,g4,g5,g6⟩:=hok
    obtain ⟨s1,s2⟩:=hs (c.ρ i) rfl
    refine ⟨cs,ty,?_,g2,g3,g4,NU hle' g5,fun o h=>?_⟩
    ·rw [dρ0 i hin]; exact s1.trans g1
    ·rw [dρ0 i hin] at h; exact g6 o (s2 o h)
  | iK sh es =>
    obtain ⟨ents,clock,g1,g2,g3⟩:=hok
    obtain ⟨s1,s2⟩:=hs (c.ρ i) rfl
    refine ⟨ents,clock,?_,Vg hle' g2,g3⟩
    rw [dρ0 i hin]; exact s1.trans g1
  | dU sz l =>
    have hok : (HO.dU sz l).Ok c i:=hok
    show (HO.dU sz l).Ok d i
    simp only [HO.Ok] at hok ⊢
    rw [WE i hin]
    rcases hok with h | ⟨b,cs,ty,h1,h2,h3,h4,h5,h6,h7⟩
    ·exact .inl h
    ·obtain ⟨s1,s2⟩:=hs b (by simp only [aB,h1]; rfl)
     exact .inr ⟨b,cs,ty,h1,s1.trans h2,h3,h4,h5,NU hle' h6,fun o h=>h7 o (s2 o h)⟩
  | glob g cs =>
    intro j v hv
    have hok : (HO.glob g cs).Ok c i:=hok
    obtain ⟨h1,h2⟩:=hok j v hv
    obtain ⟨g1,g2⟩:=hle'.im _ _ h1
    exact ⟨g1,g2.trans h2⟩
  | gone=>trivial
  | tok sz top =>
    have hok : (HO.tok sz top).Ok c i:=hok
    show (HO.tok sz top).Ok d i
    simp only [HO.Ok] at hok ⊢
    rw [WE i hin]
    rcases hok with h | ⟨b,cs,ty,h1,h2,h3,h4,h5,h6⟩
    ·exact .inl h
    ·by_cases ht : (c.tk i).2 = top
     ·exact .inl ht
     ·obtain ⟨s1,s2⟩:=hs b (by simp only [aB,if_neg ht,h1]; rfl)
      exact .inr ⟨b,cs,ty,h1,s1.trans h2,h3,h4,h5,fun o ho h=>h6 o ho (s2 o h)⟩
 have ownF : ∀ y ∈ QB l G H,∀ b,aB d y = some b -> (c.w.heap.size <= b \/ ∃ x ∈ H,aB c x = some b):=by
  intro y hy b hb
  rcases hmem y hy with ⟨k,o,h1,rfl⟩ | ⟨k,_,rfl⟩ | ⟨h1,h2⟩
  ·rw [Xu] at hb
   rcases htr.own _ h1 b hb with h | ⟨x,hx,hxb⟩
   ·exact .inl h
   ·obtain ⟨o',g1,_,g3⟩:=MZ x.1 x.2 hx
    exact .inr ⟨_,g1,g3 b hxb⟩
  ·rw [BD] at hb; cases hb
  ·rw [Xt y h2] at hb; exact .inr ⟨y,h1,hb⟩
 have mixed : ∀ k o,(k,o) ∈ G -> ∀ y ∈ H,inv l n y.1 = none -> ∀ b,aB d1 (k,o) = some b -> aB c y ≠ some b:=by
  intro k o h1 y hy hin b hb hb'
  rcases htr.own _ h1 b hb with h | ⟨x,hx,hxb⟩
  ·have:=U2 y hy b hb'; have h : c.w.heap.size <= b:=h; omega
  ·exact JE y hy hin b hb' x hx hxb
 have hrF : HR d (QB l G H):=by
  refine ⟨by rw [hG',hnG],rfl,ZE,htr.hr.im,?_,?_⟩
  ·intro x hx
   rcases hmem x hx with ⟨k,o,h1,rfl⟩ | ⟨k,_,rfl⟩ | ⟨h1,h2⟩
   ·exact forth (by rw [hd1]; exact bF htr.hr.ids _ h1) (htr.hr.ok _ h1)
   ·trivial
   ·exact okH x h1 h2
  ·refine eP ZE fun x hx y hy hne b hb hb'=>?_
   rcases hmem x hx with ⟨k,o,h1,rfl⟩ | ⟨k,_,rfl⟩ | ⟨h1,h2⟩
   ·rw [Xu] at hb
    rcases hmem y hy with ⟨k',o',h1',rfl⟩ | ⟨k',_,rfl⟩ | ⟨h1',h2'⟩
    ·rw [Xu] at hb'
     exact htr.hr.apart' h1 h1' (fun h=>hne (congrArg σ h)) hb hb'
    ·rw [BD] at hb'; cases hb'
    ·rw [Xt y h2'] at hb'
     exact mixed k o h1 y h1' h2' b hb hb'
   ·rw [BD] at hb; cases hb
   ·rw [Xt x h2] at hb
    rcases hmem y hy with ⟨k',o',h1',rfl⟩ | ⟨k',_,rfl⟩ | ⟨h1',h2'⟩
    ·rw [Xu] at hb'
     exact mixed k' o' h1' x h1 h2 b hb' hb
    ·rw [BD] at hb'; cases hb'
    ·rw [Xt y h2'] at hb'
     exact hr.apart' h1 h1' hne hb hb'
 refine ⟨v,d,_,_,⟨R,G,hQ,rfl,rfl⟩,rfl,rfl,⟨hrF,hle',htr.os,htr.tape,htr.output,htr.size,fun b hb hno=>htr.fr b hb fun x hx hxb=>?_,ownF,fun b o h=>?_⟩,?_⟩
 ·obtain ⟨o',g1,_,g3⟩:=MZ x.1 x.2 hx
  exact hno _ g1 (g3 b hxb)
 ·rcases htr.VJ b o h with h | h | ⟨x,hx,hxb⟩
  ·exact .inl h
  ·exact .inr (.inl h)
  ·obtain ⟨o',g1,_,g3⟩:=MZ x.1 x.2 hx
   exact .inr (.inr ⟨_,g1,g3 b hxb⟩)
 ·exact Me (c:=d1) (d:=d) (σ:=σ) rfl rfl hnxσ (fun k _=>dρ k) (fun k _=>dtk k) (fun k x _ h=>tpσ k x h) hR

theorem aQ.frame {P : Program} {f : Nat} {args Bs : List AV} {H H1 G : Heap} {R : AV} (l : List Nat) (hF : aQ P f Bs H1 R G) (hl : Ar (nextId H) l = true /\ nodupB l = true /\ Dj l.length H1 = true /\ fH l.length Bs = true)
  (hsub : Vm (sg l (nextId H)) l.length H H1) (hle : ER args (EP (sg l (nextId H)) Bs)) : aQ P f args H (iE (sg l (nextId H)) R) (QB l G H):=by
 have hQ : dO P f Bs H1 (fun R' G'=>R' = R /\ G' = G):=⟨hF.1,fun c vs hr hv=>(hF.2 c vs hr hv).mono fun _ _ ⟨v,d,h⟩=>⟨v,d,R,G,⟨rfl,rfl⟩,h⟩⟩
 have:=dO.frame l hQ hl hsub hle
 refine ⟨this.1,fun c vs hr hv=>(this.2 c vs hr hv).mono ?_⟩
 rintro _ _ ⟨v,d,_,_,⟨_,_,⟨rfl,rfl⟩,rfl,rfl⟩,h⟩
 exact ⟨v,d,h⟩

end Go.AL

namespace Go.AL

theorem wrap64 {n : Int} (h1 : -9223372036854775808 <= n) (h2 : n <= 9223372036854775807) : IntKind.wrap .i64 n = n:=by
 simp [IntKind.wrap,IntKind.bits,IntKind.signed]; omega

theorem wrap_u64 {n : Int} (h1 : 0 <= n) (h2 : n < 18446744073709551616) : IntKind.wrap .u64 n = n:=by
 simp [IntKind.wrap,IntKind.bits,IntKind.signed]; omega

theorem kG (a : Nat) : BitVec.ofInt 64 (a : Int) = BitVec.ofNat 64 a:=by
 apply BitVec.eq_of_toNat_eq; simp

theorem rC {a b : Nat} (ha : a < 2 ^ 63) (hb : b < 2 ^ 63) : dI .and .i64 (a : Int) (b : Int) = ((a &&& b : Nat) : Int):=by
 simp only [dI]
 have h1 : (BitVec.ofInt 64 (a : Int) &&& BitVec.ofInt 64 (b : Int)).toNat = a &&& b:=by
  rw [kG,kG,BitVec.toNat_and,BitVec.toNat_ofNat,BitVec.toNat_ofNat,Nat.mod_eq_of_lt (by omega),Nat.mod_eq_of_lt (by omega)]
 show IntKind.wrap .i64 ((BitVec.ofInt 64 (a : Int) &&& BitVec.ofInt 64 (b : Int)).toNat : Int) = _
 rw [h1]
 have:=Nat.and_le_left (n:=a) (m:=b)
 exact wrap64 (by omega) (by omega)

theorem mM {a b : Nat} (ha : a < 2 ^ 63) (hb : b < 2 ^ 63) : dI .or .i64 (a : Int) (b : Int) = ((a ||| b : Nat) : Int):=by
 simp only [dI]
 have h1 : (BitVec.ofInt 64 (a : Int) ||| BitVec.ofInt 64 (b : Int)).toNat = a ||| b:=by
  rw [kG,kG,BitVec.toNat_or,BitVec.toNat_ofNat,BitVec.toNat_ofNat,Nat.mod_eq_of_lt (by omega),Nat.mod_eq_of_lt (by omega)]
 show IntKind.wrap .i64 ((BitVec.ofInt 64 (a : Int) ||| BitVec.ofInt 64 (b : Int)).toNat : Int) = _
 rw [h1]
 have:=Nat.or_lt_two_pow ha hb
 exact wrap64 (by omega) (by omega)

def aJ (a b : Nat) : Nat:=(BitVec.ofNat 64 a &&& ~~~ BitVec.ofNat 64 b).toNat

theorem jg {a b : Nat} (ha : a < 2 ^ 63) (i : Nat) : (aJ a b).testBit i = (a.testBit i && !b.testBit i):=by
 unfold aJ
 rw [BitVec.testBit_toNat,BitVec.getLsbD_and,BitVec.getLsbD_not,BitVec.getLsbD_ofNat,BitVec.getLsbD_ofNat]
 by_cases hi : i < 64
 ·simp [hi]
 ·have : a.testBit i = false:=Nat.testBit_lt_two_pow (Nat.lt_of_lt_of_le ha (Nat.pow_le_pow_right (by omega) (by omega)))
  simp [hi,this]

theorem kP {a b : Nat} (ha : a < 2 ^ 63) : aJ a b <= a:=by
 have : aJ a b = a &&& aJ a b:=by
  apply Nat.eq_of_testBit_eq
  intro i
  rw [Nat.testBit_and,jg ha]
  cases a.testBit i <;> simp
 rw [this]; exact Nat.and_le_left

theorem aU {a b : Nat} (ha : a < 2 ^ 63) : dI .andNot .i64 (a : Int) (b : Int) = (aJ a b : Int):=by
 simp only [dI]
 show IntKind.wrap .i64 ((BitVec.ofInt 64 (a : Int) &&& ~~~ (BitVec.ofInt 64 (b : Int))).toNat : Int) = _
 rw [kG,kG]
 have:=kP (b:=b) ha
 exact wrap64 (by omega) (by unfold aJ at this; omega)

theorem jH {i : Nat} (hi : i < 63) : yT .i64 1 (i : Int) = ((2 ^ i : Nat) : Int):=by
 unfold yT
 have h1 : min (i : Int).toNat (IntKind.bits .i64) = i:=by show min i 64 = i; omega
 rw [h1,Int.one_mul]
 have h2 : 2 ^ i < 9223372036854775808:=Nat.lt_of_lt_of_le (Nat.pow_lt_pow_right (by omega) hi) (Nat.le_of_eq (by decide))
 have h3 : ((2 : Int) ^ i) = ((2 ^ i : Nat) : Int):=by simp
 rw [h3]
 generalize 2 ^ i = x at *
 exact wrap64 (by omega) (by omega)

theorem VU {a i : Nat} (hi : i <= 64) : uX .i64 (a : Int) (i : Int) = ((a >>> i : Nat) : Int):=by
 unfold uX
 have h1 : min (i : Int).toNat (IntKind.bits .i64) = i:=by show min i 64 = i; omega
 rw [h1,Nat.shiftRight_eq_div_pow]
 have h3 : ((2 : Int) ^ i) = ((2 ^ i : Nat) : Int):=by simp
 rw [h3,Int.fdiv_eq_ediv_of_nonneg _ (Int.natCast_nonneg _)]
 simp

theorem ou {a i : Nat} (ha : a < 2 ^ 63) (hi : i <= 64) : dI .and .i64 (uX .i64 (a : Int) (i : Int)) 1 = if a.testBit i then 1 else 0:=by
 rw [VU hi]
 have h1 : a >>> i <= a:=by rw [Nat.shiftRight_eq_div_pow]; exact Nat.div_le_self _ _
 have:=rC (a:=a >>> i) (b:=1) (by omega) (by decide)
 rw [show ((1 : Nat) : Int) = 1 from rfl] at this
 rw [this,Nat.and_one_is_mod]
 rw [Nat.testBit_eq_decide_div_mod_eq,Nat.shiftRight_eq_div_pow]
 have : a / 2 ^ i % 2 < 2:=Nat.mod_lt _ (by omega)
 by_cases h : a / 2 ^ i % 2 = 1
 ·simp [h]
 ·have : a / 2 ^ i % 2 = 0:=by omega
  simp [this]

end Go.AL

namespace Go.AL

section
variable {P : Program}

theorem aQ.weak {f : Nat} {As : List AV} {R R' : AV} {H H' : Heap} (h : aQ P f As H R H') (hle : le R R') : aQ P f As H R' H':=by
 refine ⟨h.1,fun c vs hr hv=>(h.2 c vs hr hv).mono ?_⟩
 rintro e w' ⟨v,d,h1,h2,h3,h4⟩
 exact ⟨v,d,h1,h2,h3,Tv hle h4⟩

theorem PV {c d : Cx} (le : c.Le d) {A : AV} : ∀ {As : List AV} {vs : List Value} {i : Nat} {v : Value},uV c As vs -> vs[i]? = some v -> EV d A v -> uV d (As.set i A) vs
 | [],vs,i,v,h,hi,_=>by obtain rfl:=h; simp at hi
 | B :: As,vs,0,v,h,hi,hA=>by
   obtain ⟨u,r,rfl,h1,h2⟩:=h
   simp at hi; subst hi
   exact ⟨u,r,rfl,hA,mono h2⟩
 | B :: As,vs,i + 1,v,h,hi,hA=>by
   obtain ⟨u,r,rfl,h1,h2⟩:=h
   exact ⟨u,r,rfl,iM le h1,PV le h2 (by simpa using hi) hA⟩
where mono : ∀ {As : List AV} {vs : List Value},uV c As vs -> uV d As vs
 | [],_,h=>h
 | B :: As,vs,h=>by
   obtain ⟨u,r,rfl,h1,h2⟩:=h
   exact ⟨u,r,rfl,iM le h1,mono h2⟩

theorem LQ {c : Cx} : ∀ {As : List AV} {vs : List Value} {i : Nat} {A : AV},uV c As vs -> As[i]? = some A -> ∃ v,vs[i]? = some v /\ EV c A v
 | [],_,_,_,_,h=>by simp at h
 | B :: As,vs,0,A,h,hi=>by
   obtain ⟨u,r,rfl,h1,h2⟩:=h
   simp at hi; subst hi
   exact ⟨u,rfl,h1⟩
 | B :: As,vs,i + 1,A,h,hi=>by
   obtain ⟨u,r,rfl,h1,h2⟩:=h
   simpa using LQ h2 (by simpa using hi)

end
end Go.AL

namespace Go.AL

theorem pY {a b : Nat} : (a : Int).tmod (b : Int) = ((a % b : Nat) : Int):=by
 rw [Int.tmod_eq_emod_of_nonneg (by omega)]; simp

end Go.AL

namespace Go.AL
open Go.RowKit

def cx0 (w : World) : Cx:={ w:=w,Im:=fun b _=>b < w.heap.size,ρ:=fun _=>0,nx:=0,tk:=fun _=>(none,0),tp:=dw [] }

end Go.AL

namespace Go.AL
open Go.ChangeShapes Go.RowKit

inductive Sh where
 | bool | int (k : IntKind) | str | sl (sz : Nat) (s : Sh) | st (l : List Sh) | spl

def VQ (P : Program) (t : TypeId) : List Field -> Bool
 | [f,g,h]=>Nat.beq (P.cellsOf t) 3 && Nat.beq f.offset 0 && Nat.beq g.offset 1 && Nat.beq h.offset 2 && Nat.beq (P.cellsOf f.type) 1 && Nat.beq (P.cellsOf g.type) 1 && Nat.beq (P.cellsOf h.type) 1 &&
   (match P.underlying f.type with | some (.int k)=>oM .i64 k | _=>false) && (match P.underlying g.type with | some (.slice e)=>Nat.beq e t | _=>false) && (match P.underlying h.type with | some (.int k)=>oM .i64 k | _=>false)
 | _=>false

inductive NY : AV -> Prop where
 | mk (v r : Int) (ks : List AV) (h : ∀ k ∈ ks,NY k) : NY (.ag [.int .i64 v,.sl 3 ks .no,.int .i64 r])

mutual
def LU (P : Program) : Sh -> TypeId -> Bool
 | .bool,t=>match P.underlying t with | some .bool=>true | _=>false
 | .int k,t=>match P.underlying t with | some (.int k')=>oM k k' | _=>false
 | .str,t=>match P.underlying t with | some .string=>true | _=>false
 | .sl sz s,t=>match P.underlying t with | some (.slice e)=>Nat.beq (P.cellsOf e) sz && Nat.blt 0 sz && LU P s e | _=>false
 | .st l,t=>match P.underlying t with | some (.struct fs)=>fieldsB P (P.cellsOf t) l fs.toList 0 | _=>false
 | .spl,t=>match P.underlying t with | some (.struct fs)=>VQ P t fs.toList | _=>false
def fieldsB (P : Program) (n : Nat) : List Sh -> List Field -> Nat -> Bool
 | [],[],off=>Nat.beq off n
 | s :: l,f :: fs,off=>Nat.beq f.offset off && LU P s f.type && fieldsB P n l fs (off + P.cellsOf f.type)
 | _,_,_=>false
end

mutual
def Sh.In : Sh -> AV -> Prop
 | .bool,A=>∃ b,A = .bool b
 | .int k,A=>∃ n,A = .int k n
 | .str,A=>∃ s,A = .str s
 | .sl sz s,A=>∃ l,A = .sl sz l .no /\ ∀ x ∈ l,s.In x
 | .st l,A=>∃ as,A = .ag as /\ Y5 l as
 | .spl,A=>NY A
def Y5 : List Sh -> List AV -> Prop
 | [],as=>as = []
 | s :: l,as=>∃ x r,as = x :: r /\ s.In x /\ Y5 l r
end

abbrev Vt (w : World) : Nat -> Nat -> Prop:=fun b _=>b < w.heap.size

theorem cell_lt {w : World} {a : Addr} {v : Value} (h : w.cell? a = some v) : a.block < w.heap.size:=by
 apply Classical.byContradiction
 intro hn
 have : w.heap[a.block]? = none:=Array.getElem?_eq_none (by simpa using hn)
 simp [World.cell?,this] at h

theorem cells_at {w : World} {base n : Nat} {a : Addr} {cs : List Value} (h : w.cells? base a n = some cs) (hs : a.spot = none) : cs.length = n /\ jo w (Vt w) a.block a.off cs:=by
 obtain ⟨_,hl,hc⟩:=World.cells?_some h
 refine ⟨hl,fun j v hj=>?_⟩
 have hjn : j < n:=by rw [<- hl]; exact (List.getElem?_eq_some_iff.1 hj).1
 have h1:=hc j hjn
 rw [hj] at h1
 obtain ⟨b,off,spot⟩:=a
 simp only at hs; subst hs
 have h2 : w.cell? ⟨b,off + j,none⟩ = some v:=by
  by_cases hj0 : j = 0
  ·subst hj0; simpa [Addr.add] using h1
  ·simpa [Addr.add,hj0] using h1
 exact ⟨h2,cell_lt (a:=⟨b,off + j,none⟩) h2⟩

theorem NZ {w : World} {Im : Nat -> Nat -> Prop} {sz b : Nat} : ∀ {l : List AV} {off : Nat},(∀ i x,l[i]? = some x -> ∃ cs,cs.length = sz /\ jo w Im b (off + i * sz) cs /\ Rd w Im x cs) -> qG w Im sz b l off
 | [],_,_=>by simp only [qG]
 | x :: l,off,h=>by
   simp only [qG]
   refine ⟨?_,NZ fun i y hy=>?_⟩
   ·have:=h 0 x rfl
    simpa using this
   ·have:=h (i + 1) y (by simpa using hy)
    rw [show off + (i + 1) * sz = off + sz + i * sz by rw [Nat.add_mul]; omega] at this
    exact this

theorem LX {k : IntKind} {n : Int} (h : (Lit.int k n).wf = true) : rZ k n:=by simpa [Lit.wf,rZ] using h

theorem sQ {α : Type} {p : Nat -> α -> Prop} : ∀ {n : Nat},(∀ i,i < n -> ∃ x,p i x) -> ∃ l : List α,l.length = n /\ ∀ i x,l[i]? = some x -> p i x
 | 0,_=>⟨[],rfl,fun i x h=>by simp at h⟩
 | n + 1,h=>by
   obtain ⟨l,hl,hp⟩:=sQ (n:=n) fun i hi=>h i (by omega)
   obtain ⟨x,hx⟩:=h n (by omega)
   refine ⟨l ++ [x],by simp [hl],fun i y hy=>?_⟩
   by_cases hi : i < n
   ·rw [List.getElem?_append_left (by omega)] at hy
    exact hp i y hy
   ·rw [List.getElem?_append_right (by omega)] at hy
    have : i - l.length = 0:=by
     have:=(List.getElem?_eq_some_iff.1 hy).1
     simp at this; omega
    rw [this] at hy
    simp at hy; subst hy
    rw [show i = n by omega]; exact hx

section
variable {H : Type} {enc : TypeId × Value -> H} {P : Program} {w : World} {base : Nat} {spare : Nat -> Bool} {held : Bool}

theorem L8 {e : TypeId} {n : Nat} {sz : Nat} (h2 : 0 < sz) (Q : AV -> Prop) {a : Addr} {len : Nat} {elems : List (DataW H × List MemPlace)} (hel : elems.length = len)
  (hat : ∀ i,i < len -> (w.cells? base (a.add (i * sz)) sz).bind (DataW.trod enc P w base spare held n e) = elems[i]?)
  (hq : ∀ (cs : List Value) (x : DataW H × List MemPlace),x ∈ elems -> DataW.trod enc P w base spare held n e cs = some x -> ∃ A,Q A /\ Rd w (Vt w) A cs) :
  ∃ l : List AV,l.length = len /\ (∀ y ∈ l,Q y) /\ (l ≠ [] -> a.spot = none) /\ qG w (Vt w) sz a.block l a.off:=by
 have key : ∀ i,i < len -> ∃ A : AV,Q A /\ a.spot = none /\ ∃ cs,cs.length = sz /\ jo w (Vt w) a.block (a.off + i * sz) cs /\ Rd w (Vt w) A cs:=by
  intro i hi
  have:=hat i hi
  rw [List.getElem?_eq_getElem (by omega)] at this
  obtain ⟨cs',g1,g2⟩:=Option.bind_eq_some_iff.1 this
  obtain ⟨A,hA,hR⟩:=hq _ _ (List.getElem_mem _) g2
  have hsp : a.spot = none:=by
   have:=hat 0 (by omega)
   rw [List.getElem?_eq_getElem (by omega)] at this
   obtain ⟨cs0,g1,_⟩:=Option.bind_eq_some_iff.1 this
   obtain ⟨_,hl,hc⟩:=World.cells?_some g1
   have h0:=hc 0 h2
   rw [List.getElem?_eq_getElem (by omega)] at h0
   have:=World.cell?_spot h0
   obtain ⟨b,off,spot⟩:=a
   simpa [Addr.add] using this
  refine ⟨A,hA,hsp,cs',?_⟩
  obtain ⟨b,off,spot⟩:=a
  simp only at hsp; subst hsp
  have hadd : (Addr.add ⟨b,off,none⟩ (i * sz)) = ⟨b,off + i * sz,none⟩:=by
   unfold Addr.add
   split
   ·rename_i h0; rw [h0]; rfl
   ·rfl
  rw [hadd] at g1
  obtain ⟨k1,k2⟩:=cells_at g1 rfl
  exact ⟨k1,k2,hR⟩
 obtain ⟨l,hll,hl⟩:=sQ key
 refine ⟨l,hll,fun y hy=>?_,fun hne=>?_,NZ fun i y hy=>(hl i y hy).2.2⟩
 ·obtain ⟨i,hi⟩:=List.mem_iff_getElem?.1 hy
  exact (hl i y hi).1
 ·match l,hne,hl with
  | y :: l,_,hl=>exact (hl 0 y rfl).2.1

theorem take1 {cs : List Value} (h : cs.length = 3) : ∃ a b c,cs = [a,b,c]:=by
 match cs,h with
 | [a,b,c],_=>exact ⟨a,b,c,rfl⟩

theorem RU {t : TypeId} {fs : Array Field} (hfs : P.underlying t = some (.struct fs)) (hs : VQ P t fs.toList = true) : ∀ (fuel : Nat) (cs : List Value) (x : DataW H × List MemPlace),
  DataW.trod enc P w base spare held fuel t cs = some x -> ∃ A,NY A /\ Rd w (Vt w) A cs:=by
 obtain ⟨f,g,h,hfl⟩ : ∃ f g h,fs.toList = [f,g,h]:=by
  unfold VQ at hs
  split at hs
  ·exact ⟨_,_,_,‹_›⟩
  ·cases hs
 rw [hfl] at hs
 simp only [VQ,Bool.and_eq_true] at hs
 obtain ⟨⟨⟨⟨⟨⟨⟨⟨⟨c3,o0⟩,o1⟩,o2⟩,s0⟩,s1⟩,s2⟩,u0⟩,u1⟩,u2⟩:=hs
 have c3:=Nat.eq_of_beq_eq_true c3
 have o0:=Nat.eq_of_beq_eq_true o0
 have o1:=Nat.eq_of_beq_eq_true o1
 have o2:=Nat.eq_of_beq_eq_true o2
 have s0:=Nat.eq_of_beq_eq_true s0
 have s1:=Nat.eq_of_beq_eq_true s1
 have s2:=Nat.eq_of_beq_eq_true s2
 split at u0 <;> first | contradiction | skip
 rename_i k0 hu0
 obtain rfl:=fK u0
 split at u1 <;> first | contradiction | skip
 rename_i e hu1
 obtain rfl:=Nat.eq_of_beq_eq_true u1
 split at u2 <;> first | contradiction | skip
 rename_i k2 hu2
 obtain rfl:=fK u2
 intro fuel
 induction fuel using Nat.strongRecOn with
 | _ fuel ih =>
 intro cs x hx
 obtain ⟨xs,n,rfl,_,hl,hxl,hf⟩:=DataW.trod_struct hfs hx
 have hsz : fs.size = 3:=by rw [<- Array.length_toList,hfl]; rfl
 have gf : ∀ (i : Nat) (q : Field),[f,g,h][i]? = some q -> fs[i]? = some q:=fun i q hq=>by rw [<- Array.getElem?_toList,hfl]; exact hq
 have hxs : ∀ i,i < 3 -> ∃ y,xs[i]? = some y:=fun i hi=>⟨_,List.getElem?_eq_getElem (by omega)⟩
 obtain ⟨a,b,c,rfl⟩:=take1 (by rw [hl]; exact c3)
 obtain ⟨y0,e0⟩:=hxs 0 (by omega)
 obtain ⟨y1,e1⟩:=hxs 1 (by omega)
 obtain ⟨y2,e2⟩:=hxs 2 (by omega)
 have t0:=hf 0 f (gf 0 f rfl)
 have t1:=hf 1 g (gf 1 g rfl)
 have t2:=hf 2 h (gf 2 h rfl)
 rw [o0,s0,e0] at t0
 rw [o1,s1,e1] at t1
 rw [o2,s2,e2] at t2
 simp only [List.drop_zero,List.take_succ_cons,List.take_zero,List.drop_succ_cons] at t0 t1 t2
 obtain ⟨v,hv,_,w0⟩:=DataW.trod_int hu0 t0
 obtain ⟨r,hr,_,w2⟩:=DataW.trod_int hu2 t2
 obtain rfl : a = _:=(List.cons.inj hv).1
 obtain rfl : c = _:=(List.cons.inj hr).1
 have mid : ∃ ks : List AV,(∀ k ∈ ks,NY k) /\ Rd w (Vt w) (.sl 3 ks .no) [b]:=by
  rcases DataW.trod_slice hu1 t1 with ⟨hb,_⟩ | ⟨ad,len,cap,elems,rest,m,hm,hb,_,_,hlc,hcm,hel,hat,_,_⟩
  ·refine ⟨[],by simp,?_⟩
   rw [hb]
   simp only [Rd]; exact ⟨by simp [maxL],.inl ⟨trivial,trivial⟩⟩
  ·rw [c3] at hat
   obtain ⟨l,hll,hq,hsp,hR⟩:=L8 (by omega) NY hel hat (fun cs x _ hx=>ih m (by omega) cs x hx)
   refine ⟨l,hq,?_⟩
   rw [hb]
   simp only [Rd]
   subst hll
   exact ⟨Nat.le_trans hlc hcm,.inr ⟨ad,cap,rfl,hlc,hcm,hsp,hR⟩⟩
 obtain ⟨ks,hks,hR⟩:=mid
 refine ⟨_,.mk v r ks hks,?_⟩
 simp only [Rd,kX]
 refine ⟨[.int .i64 v],[b,.int .i64 r],rfl,⟨rfl,LX w0⟩,[b],[.int .i64 r],rfl,?_,[.int .i64 r],[],rfl,⟨rfl,LX w2⟩,rfl⟩
 simpa only [Rd] using hR

mutual
theorem He : ∀ (S : Sh) {t : TypeId} {fuel : Nat} {cs : List Value} {x : DataW H × List MemPlace},LU P S t = true -> DataW.trod enc P w base spare held fuel t cs = some x -> ∃ A,S.In A /\ Rd w (Vt w) A cs
 | .bool,t,fuel,cs,x,hs,h=>by
   simp only [LU] at hs
   split at hs <;> first | contradiction | skip
   obtain ⟨b,rfl,_⟩:=DataW.trod_bool ‹_› h
   exact ⟨.bool b,⟨b,rfl⟩,by simp only [Rd]⟩
 | .int k,t,fuel,cs,x,hs,h=>by
   simp only [LU] at hs
   split at hs <;> first | contradiction | skip
   obtain rfl:=fK hs
   obtain ⟨n,rfl,_,hw⟩:=DataW.trod_int ‹_› h
   exact ⟨.int k n,⟨n,rfl⟩,by simp only [Rd]; exact ⟨trivial,LX hw⟩⟩
 | .str,t,fuel,cs,x,hs,h=>by
   simp only [LU] at hs
   split at hs <;> first | contradiction | skip
   obtain ⟨s,rfl,_,hl⟩:=DataW.trod_string ‹_› h
   refine ⟨.str s.data.toList,⟨_,rfl⟩,?_⟩
   simp only [Rd]
   refine ⟨trivial,?_⟩
   have : s.size = s.data.toList.length:=by rw [Array.length_toList]; rfl
   rw [<- this]
   exact hl
 | .sl sz s,t,fuel,cs,x,hs,h=>by
   simp only [LU] at hs
   split at hs <;> first | contradiction | skip
   rename_i e he
   simp only [Bool.and_eq_true] at hs
   obtain ⟨⟨h1,h2⟩,h3⟩:=hs
   have h1:=Nat.eq_of_beq_eq_true h1
   have h2 : 0 < sz:=Nat.le_of_ble_eq_true h2
   rcases DataW.trod_slice he h with ⟨rfl,_⟩ | ⟨a,len,cap,elems,rest,n,_,rfl,_,_,hlc,hcm,hel,hat,_,_⟩
   ·exact ⟨.sl sz [] .no,⟨[],rfl,by simp⟩,by simp only [Rd]; exact ⟨by simp [maxL],.inl ⟨trivial,trivial⟩⟩⟩
   ·rw [h1] at hat
    have key : ∀ i,i < len -> ∃ A : AV,s.In A /\ a.spot = none /\ ∃ cs,cs.length = sz /\ jo w (Vt w) a.block (a.off + i * sz) cs /\ Rd w (Vt w) A cs:=by
     intro i hi
     have:=hat i hi
     rw [List.getElem?_eq_getElem (by omega)] at this
     obtain ⟨cs',g1,g2⟩:=Option.bind_eq_some_iff.1 this
     obtain ⟨A,hA,hR⟩:=He s h3 g2
     have hsp : a.spot = none:=by
      have:=hat 0 (by omega)
      rw [List.getElem?_eq_getElem (by omega)] at this
      obtain ⟨cs0,g1,_⟩:=Option.bind_eq_some_iff.1 this
      obtain ⟨_,hl,hc⟩:=World.cells?_some g1
      have h0:=hc 0 h2
      rw [List.getElem?_eq_getElem (by omega)] at h0
      have:=World.cell?_spot h0
      obtain ⟨b,off,spot⟩:=a
      simpa [Addr.add] using this
     refine ⟨A,hA,hsp,cs',?_⟩
     obtain ⟨b,off,spot⟩:=a
     simp only at hsp; subst hsp
     have hadd : (Addr.add ⟨b,off,none⟩ (i * sz)) = ⟨b,off + i * sz,none⟩:=by
      unfold Addr.add
      split
      ·rename_i h0; rw [h0]; rfl
      ·rfl
     rw [hadd] at g1
     obtain ⟨k1,k2⟩:=cells_at g1 rfl
     exact ⟨k1,k2,hR⟩
    obtain ⟨l,hll,hl⟩:=sQ key
    refine ⟨.sl sz l .no,⟨l,rfl,fun y hy=>?_⟩,?_⟩
    ·obtain ⟨i,hi⟩:=List.mem_iff_getElem?.1 hy
     exact (hl i y hi).1
    ·simp only [Rd]
     subst hll
     refine ⟨Nat.le_trans hlc hcm,.inr ⟨a,cap,rfl,hlc,hcm,fun hne=>?_,NZ fun i y hy=>(hl i y hy).2.2⟩⟩
     match l,hne,hl with
     | y :: l,_,hl=>exact (hl 0 y rfl).2.1
 | .st l,t,fuel,cs,x,hs,h=>by
   simp only [LU] at hs
   split at hs <;> first | contradiction | skip
   rename_i fs hfs
   obtain ⟨xs,n,_,_,hl,hx,hf⟩:=DataW.trod_struct hfs h
   have hf' : ∀ (i : Nat) (f : Field),fs.toList[i]? = some f -> ∃ x,DataW.trod enc P w base spare held n f.type ((cs.drop f.offset).take (P.cellsOf f.type)) = some x:=by
    intro i f hi
    have hi' : fs[i]? = some f:=by simpa using hi
    have:=hf i f hi'
    rw [List.getElem?_eq_getElem (by rw [hx]; exact (Array.getElem?_eq_some_iff.1 hi').1)] at this
    exact ⟨_,this⟩
   obtain ⟨as,h1,h2⟩:=Jk l (n:=P.cellsOf t) (fs:=fs.toList) (off:=0) hs (by omega) hf'
   exact ⟨.ag as,⟨as,rfl,h1⟩,by simp only [Rd]; simpa using h2⟩
 | .spl,t,fuel,cs,x,hs,h=>by
   simp only [LU] at hs
   split at hs <;> first | contradiction | skip
   rename_i fs hfs
   exact RU hfs hs fuel cs x h
theorem Jk : ∀ (l : List Sh) {n : Nat} {fs : List Field} {off fuel : Nat} {cs : List Value},fieldsB P n l fs off = true -> cs.length = n ->
  (∀ (i : Nat) f,fs[i]? = some f -> ∃ x : DataW H × List MemPlace,DataW.trod enc P w base spare held fuel f.type ((cs.drop f.offset).take (P.cellsOf f.type)) = some x) -> ∃ as,Y5 l as /\ kX w (Vt w) as (cs.drop off)
 | [],n,[],off,fuel,cs,hb,hl,_=>by
   simp only [fieldsB] at hb
   obtain rfl:=Nat.eq_of_beq_eq_true hb
   exact ⟨[],rfl,by simp only [kX]; exact List.drop_eq_nil_of_le (by omega)⟩
 | [],n,_ :: _,off,fuel,cs,hb,hl,_=>by simp [fieldsB] at hb
 | s :: l,n,[],off,fuel,cs,hb,hl,_=>by simp [fieldsB] at hb
 | s :: l,n,f :: fs,off,fuel,cs,hb,hl,hf=>by
   simp only [fieldsB,Bool.and_eq_true] at hb
   obtain ⟨⟨h1,h2⟩,h3⟩:=hb
   have h1:=Nat.eq_of_beq_eq_true h1
   obtain ⟨x,hx⟩:=hf 0 f rfl
   obtain ⟨A,hA,hR⟩:=He s h2 hx
   obtain ⟨as,g1,g2⟩:=Jk l (n:=n) (fs:=fs) (off:=off + P.cellsOf f.type) h3 hl fun i f hi=>hf (i + 1) f (by simpa using hi)
   refine ⟨A :: as,⟨A,as,rfl,hA,g1⟩,?_⟩
   simp only [kX]
   rw [h1] at hR
   refine ⟨_,_,?_,hR,g2⟩
   rw [<- List.drop_drop,List.take_append_drop]
end

theorem PU {r : Reach} {b0 : Nat} {t : TypeId} {v : Value} {d : DataW H} {ps : List MemPlace} (S : Sh) (hs : LU P S t = true) (hval : Value.okWide P w r b0 t v) (h : DataW.Trod enc P w base spare held t v d ps) :
  ∃ A,S.In A /\ EV (cx0 w) A v:=by
 obtain ⟨fuel,hf⟩:=h
 obtain ⟨A,hA,hR⟩:=He S hs hf
 refine ⟨A,hA,aS (Ve ?_ hR)⟩
 cases S with
 | spl =>
   obtain ⟨_,_,_,_⟩:=hA
   simp only [LU] at hs
   split at hs <;> first | contradiction | skip
   rename_i fs hfs
   unfold Value.okWide at hval
   rw [hfs] at hval
   obtain ⟨cs,rfl,_⟩:=hval
   exact ⟨fun _=>⟨cs,rfl⟩,fun hn=>by simp [dn] at hn⟩
 | st l =>
   obtain ⟨as,rfl,_⟩:=hA
   simp only [LU] at hs
   split at hs <;> first | contradiction | skip
   rename_i fs hfs
   unfold Value.okWide at hval
   rw [hfs] at hval
   obtain ⟨cs,rfl,_⟩:=hval
   exact ⟨fun _=>⟨cs,rfl⟩,fun hn=>by simp [dn] at hn⟩
 | bool =>
   obtain ⟨b,rfl⟩:=hA
   simp only [LU] at hs
   split at hs <;> first | contradiction | skip
   rename_i ht
   unfold Value.okWide at hval
   simp only [ht,Cell.okWide,Cell.ok] at hval
   refine ⟨fun hn=>by simp [dn] at hn,fun _=>?_⟩
   cases v <;> first | rfl | simp at hval
 | int k =>
   obtain ⟨b,rfl⟩:=hA
   simp only [LU] at hs
   split at hs <;> first | contradiction | skip
   rename_i ht
   unfold Value.okWide at hval
   simp only [ht,Cell.okWide,Cell.ok] at hval
   refine ⟨fun hn=>by simp [dn] at hn,fun _=>?_⟩
   cases v <;> first | rfl | simp at hval
 | str =>
   obtain ⟨b,rfl⟩:=hA
   simp only [LU] at hs
   split at hs <;> first | contradiction | skip
   rename_i ht
   unfold Value.okWide at hval
   simp only [ht,Cell.okWide,Cell.ok] at hval
   refine ⟨fun hn=>by simp [dn] at hn,fun _=>?_⟩
   cases v <;> first | rfl | simp at hval
 | sl sz s =>
   obtain ⟨l,rfl,_⟩:=hA
   simp only [LU] at hs
   split at hs <;> first | contradiction | skip
   rename_i ht
   unfold Value.okWide at hval
   simp only [ht,Cell.okWide,Cell.ok] at hval
   refine ⟨fun hn=>by simp [dn] at hn,fun _=>?_⟩
   cases v <;> first | rfl | simp at hval

end
end Go.AL

namespace Go.AL

end Go.AL

namespace Go.AL

theorem zA {n : Int} {p : Prop} (k : p) (h1 : -9223372036854775808 <= n:=by omega) (h2 : n <= 9223372036854775807:=by omega) : rZ .i64 n /\ p:=⟨eU h1 h2,k⟩
theorem zY {p A B : Prop} (k : A) (h : p:=by decide +kernel) : (p -> A) /\ (¬ p -> B):=bY h k
theorem zN {p A B : Prop} (k : B) (h : ¬ p:=by decide +kernel) : (p -> A) /\ (¬ p -> B):=bN h k
theorem zI {n : Int} {p : Prop} (k : p) (h1 : -9223372036854775808 <= n:=by decide +kernel) (h2 : n <= 9223372036854775807:=by decide +kernel) : rZ .i64 n /\ p:=⟨eU h1 h2,k⟩
theorem zD {p q : Prop} (k : q) (h : p:=by decide +kernel) : p /\ q:=⟨h,k⟩
theorem zC {α : Type} {l : List α} {lo hi : Int} {k : List α -> Prop} (h' : k ((l.drop lo.toNat).take (hi.toNat - lo.toNat))) (h : 0 <= lo /\ lo <= hi /\ hi <= (l.length : Int):=by decide +kernel) : VB l lo hi k:=⟨h,h'⟩
theorem zT {sz bytes : Nat} {l m : List AV} {H : Heap} {k : AV -> Heap -> Prop} (next : nS H (.tok sz (l.length + m.length)) fun j H'=>k (.sl sz (l ++ m) (.own j)) H') (len : l.length + m.length <= maxL:=by decide +kernel) (room : (l.length + m.length) * bytes <= 140737488355328:=by decide +kernel) : AA sz bytes l m H k:=.tok len room next
theorem zU {sz bytes : Nat} {l m : List AV} {H : Heap} {k : AV -> Heap -> Prop} (next : nS H (.tok sz (l.length + m.length)) fun j H'=>k (.sl sz (l ++ m) (.own j)) H') (len : l.length + m.length <= maxL:=by decide +kernel) (room : (l.length + m.length) * bytes <= 140737488355328:=by decide +kernel) : VE sz bytes l m H k:=.tok len room next
theorem w1 {p : Prop} (h : p:=by first|exact rfl|exact trivial|exact wR|exact lR _) : p:=h
theorem wk {p : Prop} (h : p:=by repeat' first|exact rfl|exact trivial|exact wR|exact lR _|apply aI) : p:=h
end Go.AL
