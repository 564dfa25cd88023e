/-
  Contracts of functions of the program, over the logic of the texts before. Nothing is assumed.
-/
import Derived.Test.YtjbhbpieccloeaaGreatDoorT4

namespace Go.AL

inductive Mk where
 | n | s (x y : Mk) | j (x y : Mk) | f (js : List Nat) (x : Mk) | c (x y : Mk) | b (x : Mk) | t (x : Mk)

def Mk.r : Nat -> Mk -> Mk
 | 0,m=>m
 | k + 1,m=>.s .n (Mk.r k m)

structure JoinE (gu : AV -> Prop) (H : Heap) (A : (AX -> Env -> Heap -> Prop) -> Prop) (B : Env -> Heap -> Prop) (Q : AX -> Env -> Heap -> Prop) : Prop where
 ex : ∃ (ι : Type) (E : ι -> Env) (HS : ι -> Heap),A (fun x e' H'=>match x with
   | .normal=>∃ i,nextId H <= nextId (HS i) /\ Fe e' (nextId (HS i)) (E i) /\ HWk H' (HS i)
   | x=>Q x e' H') /\ ∀ i,(∀ t A,(t,A) ∈ E i -> gu A) -> B (E i) (HS i)

inductive X5 (e : Env) (H : Heap) (K : Env -> Heap -> Prop) : Prop where
 | skip (h : K e H)
 | go (t j sz : Nat) (l : List AV) (h : dL e t = some (.gs j l.length)) (ho : hget H j = some (.dU sz l)) (ne : l ≠ [])
   (next : ∀ cp,l.length <= cp -> cp <= maxL -> K ((t,.ms (nextId H) 0 l.length cp sz) :: e) ((nextId H,.arr sz cp l) :: hset H j .gone))

section
variable (F : FT) (gu : AV -> Prop) (L : Lay)

def oz : Mk -> Code -> (AX -> Env -> Heap -> Prop) -> Env -> Heap -> Prop
 | .n,c,Q,e,H=>aj F gu L c Q e H
 | .s x y,.seq a b,Q,e,H=>oz x a (fun z e' H'=>match z with | .normal=>oz y b Q e' H' | z=>Q z e' H') e H
 | .j x y,.seq a b,Q,e,H=>JoinE gu H (fun K=>oz x a K e H) (oz y b Q) Q
 | .f js m,c,Q,e,H=>Qz js e H fun e' H'=>oz m c Q e' H'
 | .t m,c,Q,e,H=>X5 e H fun e' H'=>oz m c Q e' H'
 | .c x y,.cond o a b,Q,e,H=>bP e o fun A=>br A (oz x a Q e H) (oz y b Q e H)
 | .b m,.block i b,Q,e,H=>oz m b (fun x e' H'=>match x with
   | .exit j=>(match Nat.beq j i with | true=>Q .normal e' H' | false=>Q (.exit j) e' H')
   | x=>Q x e' H') e H
 | .b m,.loop b,Q,e,H=>aN gu (writes b) (oz m b) Q e H
 | _,_,_,_,_=>False
end

section
variable {P : Program} {L : Lay} {F : FT}

theorem gQ (hL : bZ P L) (hm : P.follows .mixedOrders = true) (hFn : FS P F) {n : Nat} :
  ∀ (m : Mk) (code : Code) (Q : AX -> Env -> Heap -> Prop) (e : Env) (H : Heap) (c : Cx) (a : Act),jO n code = true -> HR c H -> nN n c e a -> oz F Ok L m code Q e H ->
    code.wp P (Post n (writes code) c H a Q) a c.w
 | .n,code,Q,e,H,c,a,hc,hr,ha,h=>ji hL hm hFn code Q e H c a hc hr ha (by simpa only [oz] using h)
 | .s m1 m2,.seq x y,Q,e,H,c,a,hc,hr,ha,h=>by
   simp only [jO,Bool.and_eq_true] at hc
   simp only [oz] at h
   refine wp_seq (wp_mono (gQ hL hm hFn m1 x _ e H c a hc.1 hr ha h) ?_)
   rintro ex a' w' ⟨x',e',H',c',rfl,hq,rfl,htr,ha',hf⟩
   cases x' with
   | normal =>
     refine wp_mono (gQ hL hm hFn m2 y _ e' H' c' a' hc.2 htr.hr ha' hq) ?_
     rintro ex a'' w'' ⟨x',e'',Jc,c'',rfl,hq,rfl,gV,lX,hf'⟩
     exact ⟨x',e'',Jc,c'',rfl,hq,rfl,htr.trans gV,lX,hf.trans hf'⟩
   | exit i=>exact ⟨.exit i,e',H',c',rfl,hq,rfl,htr,ha',hf.mono fun t ht=>List.mem_append_left _ ht⟩
   | ret=>exact ⟨.ret,e',H',c',rfl,hq,rfl,htr,ha',hf.mono fun t ht=>List.mem_append_left _ ht⟩
 | .j m1 m2,.seq x y,Q,e,H,c,a,hc,hr,ha,h=>by
   simp only [jO,Bool.and_eq_true] at hc
   simp only [oz] at h
   obtain ⟨ι,E,HS,hA,hB⟩:=h.ex
   refine wp_seq (wp_mono (gQ hL hm hFn m1 x _ e H c a hc.1 hr ha hA) ?_)
   rintro ex a' w' ⟨x',e',H',c',rfl,hq,rfl,htr,ha',hf⟩
   cases x' with
   | normal =>
     obtain ⟨i,hn,hwE,Ja⟩:=hq
     have Ja:=Ja.to0 htr.hr
     have hall:=IQ ha'.env htr.hr Ja hwE
     have gV:=htr.cut Ja (by rw [hr.nx]; exact hn)
     have ha1 : nN n (c'.cut (HS i)) (E i) a':=⟨fun t A hA=>hall t A (Dt hA),ha'.defers,ha'.size⟩
     refine wp_mono (gQ hL hm hFn m2 y _ (E i) (HS i) (c'.cut (HS i)) a' hc.2 gV.hr ha1 (hB i fun t A hm=>vO (hall t A hm))) ?_
     rintro ex a'' w'' ⟨x',e'',Jc,c'',rfl,hq,rfl,ZJ,lX,hf'⟩
     exact ⟨x',e'',Jc,c'',rfl,hq,rfl,gV.trans ZJ,lX,hf.trans hf'⟩
   | exit i=>exact ⟨.exit i,e',H',c',rfl,hq,rfl,htr,ha',hf.mono fun t ht=>List.mem_append_left _ ht⟩
   | ret=>exact ⟨.ret,e',H',c',rfl,hq,rfl,htr,ha',hf.mono fun t ht=>List.mem_append_left _ ht⟩
 | .f js m,code,Q,e,H,c,a,hc,hr,ha,h=>by
   have h : Qz js e H fun e' H'=>oz F Ok L m code Q e' H':=by simpa only [oz] using h
   obtain ⟨e1,H1,d,hw,htr,ha1,h1⟩:=wz hr ha h
   rw [<- hw]
   refine wp_mono (gQ hL hm hFn m code Q e1 H1 d a hc htr.hr ha1 h1) ?_
   rintro ex a' w' ⟨x',e',H',c',rfl,hq,rfl,gV,ha',hf'⟩
   exact ⟨x',e',H',c',rfl,hq,rfl,htr.trans gV,ha',hf'⟩
 | .t m,code,Q,e,H,c,a,hc,hr,ha,h=>by
   have h : X5 e H fun e' H'=>oz F Ok L m code Q e' H':=by simpa only [oz] using h
   cases h with
   | skip h=>exact gQ hL hm hFn m code Q e H c a hc hr ha h
   | go t j sz l he ho ne next =>
     have hv:=ha.env t _ he
     obtain ⟨cp,h1,h2,d,hw,htr,hV⟩:=Tr.thaw hr ho ne hv
     have h:=next cp h1 h2
     have ha':=ha.mono htr.le
     have:=gQ hL hm hFn m code Q _ _ d a hc htr.hr ⟨fun t' B hB=>by
      simp only [dL] at hB
      cases hb : Nat.beq t t' with
      | true =>
        rw [hb] at hB
        obtain rfl:=Nat.eq_of_beq_eq_true hb
        obtain rfl:=Option.some.inj hB
        exact aS hV
      | false=>rw [hb] at hB; exact ha'.env _ _ hB,ha.defers,ha.size⟩ h
     rw [hw] at this
     refine wp_mono this ?_
     rintro ex a'' w'' ⟨x'',e'',Jc,c'',rfl,hq,rfl,gV,lX,hf'⟩
     exact ⟨x'',e'',Jc,c'',rfl,hq,rfl,htr.trans gV,lX,hf'⟩
 | .c m1 m2,.cond o x y,Q,e,H,c,a,hc,hr,ha,h=>by
   simp only [jO,Bool.and_eq_true] at hc
   simp only [oz] at h
   obtain ⟨A,hA,h⟩:=aH ha.env hc.1.1 h
   obtain ⟨b,hb,h1,h2⟩:=KX hA h
   refine wp_cond_split hb (fun hb=>?_) (fun hb=>?_)
   ·refine wp_mono (gQ hL hm hFn m1 x Q e H c a hc.1.2 hr ha (h1 hb)) ?_
    rintro ex a' w' ⟨x',e',H',c',g1,g2,g3,g4,g5,g6⟩
    exact ⟨x',e',H',c',g1,g2,g3,g4,g5,g6.mono fun t ht=>List.mem_append_left _ ht⟩
   ·refine wp_mono (gQ hL hm hFn m2 y Q e H c a hc.2 hr ha (h2 hb)) ?_
    rintro ex a' w' ⟨x',e',H',c',g1,g2,g3,g4,g5,g6⟩
    exact ⟨x',e',H',c',g1,g2,g3,g4,g5,g6.mono fun t ht=>List.mem_append_right _ ht⟩
 | .b m,.block i b,Q,e,H,c,a,hc,hr,ha,h=>by
   simp only [oz] at h
   refine wp_block (wp_mono (gQ hL hm hFn m b _ e H c a hc hr ha h) ?_)
   rintro ex a' w' ⟨x',e',H',c',rfl,hq,g3,g4,g5,g6⟩
   cases x' with
   | normal=>exact ⟨.normal,e',H',c',rfl,hq,g3,g4,g5,g6⟩
   | exit j =>
     simp only [AX.Zc,Exit.inBlock]
     cases hb : Nat.beq j i with
     | true =>
       have hq : (match Nat.beq j i with | true=>Q .normal e' H' | false=>Q (.exit j) e' H'):=hq
       rw [hb] at hq
       rw [if_pos (Nat.eq_of_beq_eq_true hb)]
       exact ⟨.normal,e',H',c',rfl,hq,g3,g4,g5,g6⟩
     | false =>
       have hq : (match Nat.beq j i with | true=>Q .normal e' H' | false=>Q (.exit j) e' H'):=hq
       rw [hb] at hq
       rw [if_neg (dZ hb)]
       exact ⟨.exit j,e',H',c',rfl,hq,g3,g4,g5,g6⟩
   | ret=>exact ⟨.ret,e',H',c',rfl,hq,g3,g4,g5,g6⟩
 | .b m,.loop b,Q,e,H,c,a,hc,hr,ha,h=>CV (fun Q e H c a=>gQ hL hm hFn m b Q e H c a hc) hr ha (by simpa only [oz] using h)

theorem dO.lD (m : Mk) (hL : bZ P L) (hm : P.follows .mixedOrders = true) {f : Nat} {fn : Func} {code : Code} (hf : P.funcs[f]? = some fn) (hn : (fn.name == "runtime.NumGoroutine") = false) (hb : fn.body = some code)
  (hc : jO fn.ntmps code = true) {args : List AV} {H : Heap} {Q : AV -> Heap -> Prop} (ha : Nat.ble args.length fn.ntmps = true)
  (h : yL args -> aP 0 args fun e=>oz (FP P) Ok L m code (XA L fn.results.toList H Q) e H) : dO P f args H Q :=
 dO.Ij (B:=oz (FP P) Ok L m code) (fun Q' e H' c a hr ha h=>gQ hL hm (Vw P) m code Q' e H' c a hc hr ha h) hL hf hn hb (fun _ _ _ h=>h) ha h
end
end Go.AL

open Go Go.AL Go.Proofs
namespace S
set_option maxRecDepth 100000

theorem UC {cf : Int -> Int -> Int} {g : Nat} (hcf : zQ cf g) (n cp a b pv : Nat) (hN : n <= 1152921504606846976) (hab : a < b) (hb : b <= n) (hpv : a <= pv /\ pv < b) (l : List Int) (hl : l.length = n) :
  dO Tryz.prog 107 [.ms 0 0 n cp 1,.int .i64 a,.int .i64 b,.int .i64 pv,.fn g []] (jW cp l) (fun R H'=>∃ i : Nat,(a < i /\ i <= b) /\ R = .int .i64 i /\ ∃ l',List.Perm l' l /\ H' = jW cp l'):=by
 have hp0 : List.Perm (swp l a pv) l:=fP (by omega) (by omega)
 refine dO.lD (.r 3 (.s (.b (.b (.b (.j .n (.j .n .n))))) .n)) lay mixed Tryz.func107 (by kernel_rfl) rfl (by kernel_rfl) rfl fun hok=>?_
 (try dsimp only[aP,aC]);(try dsimp only[aj]);conv=>whnf
 refine aY.auto (by kernel_rfl) ?_;conv=>whnf
 refine ⟨by omega,?_⟩
 conv=>whnf
 refine aX (i:=pv) (by omega) (by omega) ⟨rfl,?_⟩
 conv=>whnf
 refine ⟨by omega,?_⟩
 conv=>whnf
 refine aX (i:=a) (by omega) (by omega) ⟨rfl,?_⟩
 conv=>whnf
 refine ⟨by omega,?_⟩
 conv=>whnf
 refine ⟨by simp; omega,rfl,?_⟩
 conv=>whnf
 refine ⟨by omega,?_⟩
 conv=>whnf
 refine ⟨by simp; omega,rfl,?_⟩
 conv=>whnf
 try dsimp only [strip]
 rw [iJ (f:=AV.int .i64) (l:=l) (i:=a) (j:=pv) (y:=(a : Int)) (z:=(pv : Int)) (by omega) (by omega)]
 generalize swp l a pv = m0 at *
 (try dsimp only[aj]);conv=>whnf
 refine zA ?_;conv=>whnf
 refine zA ?_;conv=>whnf
 rw [show (a : Int) + 1 = ((a + 1 : Nat) : Int) by omega,show (b : Int) - 1 = ((b - 1 : Nat) : Int) by omega]
 refine aN.of <| (aA.inv (.refl _ _) (fun x : Nat × Nat × List Int=>((a < x.1 /\ x.1 <= b) /\ a <= x.2.1 /\ x.2.1 < b) /\ List.Perm x.2.2 l) (fun x=>[(11,.int .i64 (x.1 : Int)),(12,.int .i64 (x.2.1 : Int))]) (fun x=>jW cp x.2.2) (fun x=>b - x.1) (a + 1,b - 1,m0) ?_ ?_ ?_ ?_)
 ·exact ⟨by dsimp only; omega,hp0⟩
 ·exact fun _=>rfl
 ·refine ⟨?_,.mk ?_ (by simp [ak])⟩
  ·all_goals exact wk
  ·all_goals exact wk
 rintro ⟨i0,j0,m⟩ ⟨⟨hi0,hj0⟩,hp⟩ _
 dsimp only at hi0 hj0 hp ⊢
 have hml : m.length = n:=by rw [hp.length_eq,hl]
 (try dsimp only[aj]);conv=>whnf
 refine ⟨⟨{x : Nat // i0 <= x /\ x <= b},fun x=>[(11,.int .i64 (x.1 : Int)),(12,.int .i64 ((j0 : Int))),(0,.ms 0 0 n cp 1),(1,.int .i64 a),(4,.fn g [])],fun _=>jW cp m,?_,?_⟩⟩
 ·(try dsimp only[aj]);conv=>whnf
  refine aN.of <| (aA.inv (.refl _ _) (fun i : Nat=>i0 <= i /\ i <= b) (fun i=>[(11,.int .i64 (i : Int))]) (fun _=>jW cp m) (fun i=>b - i) (i0) ?_ ?_ ?_ ?_)
  ·exact ⟨Nat.le_refl _,by omega⟩
  ·exact fun _=>rfl
  ·refine ⟨?_,.mk ?_ (by simp [ak])⟩
   ·all_goals exact wk
   ·all_goals exact wk
  intro i hi _
  (try dsimp only[aj]);conv=>whnf
  refine aY.auto (by kernel_rfl) ?_;conv=>whnf
  refine And.intro (fun p=>?_) (fun p=>?_)
  ·conv=>whnf
   refine ⟨by omega,?_⟩
   conv=>whnf
   refine aX (i:=a) (by omega) (by omega) ⟨rfl,?_⟩
   conv=>whnf
   refine ⟨by omega,?_⟩
   conv=>whnf
   refine aX (i:=i) (by omega) (by omega) ⟨rfl,?_⟩
   conv=>whnf
   refine dV.pure _ _ ?_ ⟨rfl,rfl⟩ (hcf (m.getD (a) default) (m.getD (i) default)) ?_
   ·exact au _
   (try dsimp only[aj]);conv=>whnf
   refine And.intro (fun p2=>?_) (fun p2=>?_)
   ·(try dsimp only[aj]);conv=>whnf
    refine zA ?_;conv=>whnf
    refine ⟨i + 1,?_,?_,?_⟩
    ·omega
    ·refine ⟨?_,.mk ?_ (by simp [ak])⟩
     ·all_goals exact wk
     ·all_goals exact wk
    ·omega
   ·(try dsimp only[aj]);conv=>whnf
    refine ⟨⟨i,by omega⟩,by simp [nextId],?_,.mk ?_ (by simp [ak])⟩
    ·all_goals exact wk
    ·all_goals exact wk
  ·(try dsimp only[aj]);conv=>whnf
   refine ⟨⟨i,by omega⟩,by simp [nextId],?_,.mk ?_ (by simp [ak])⟩
   ·all_goals exact wk
   ·all_goals exact wk
 rintro ⟨i,hi⟩ _
 try dsimp only
 (try dsimp only[aj]);conv=>whnf
 refine ⟨⟨{x : Nat // a <= x /\ x <= j0},fun x=>[(12,.int .i64 (x.1 : Int)),(11,.int .i64 ((i : Int))),(0,.ms 0 0 n cp 1),(1,.int .i64 a),(4,.fn g [])],fun _=>jW cp m,?_,?_⟩⟩
 ·(try dsimp only[aj]);conv=>whnf
  refine aN.of <| (aA.inv (.refl _ _) (fun j : Nat=>a <= j /\ j <= j0) (fun j=>[(12,.int .i64 (j : Int))]) (fun _=>jW cp m) (fun j=>j) (j0) ?_ ?_ ?_ ?_)
  ·exact ⟨by omega,Nat.le_refl _⟩
  ·exact fun _=>rfl
  ·refine ⟨?_,.mk ?_ (by simp [ak])⟩
   ·all_goals exact wk
   ·all_goals exact wk
  intro j hj _
  (try dsimp only[aj]);conv=>whnf
  refine aY.auto (by kernel_rfl) ?_;conv=>whnf
  refine And.intro (fun q=>?_) (fun q=>?_)
  ·conv=>whnf
   refine ⟨by omega,?_⟩
   conv=>whnf
   refine aX (i:=a) (by omega) (by omega) ⟨rfl,?_⟩
   conv=>whnf
   refine ⟨by omega,?_⟩
   conv=>whnf
   refine aX (i:=j) (by omega) (by omega) ⟨rfl,?_⟩
   conv=>whnf
   refine dV.pure _ _ ?_ ⟨rfl,rfl⟩ (hcf (m.getD (a) default) (m.getD (j) default)) ?_
   ·exact au _
   (try dsimp only[aj]);conv=>whnf
   refine And.intro (fun q2=>?_) (fun q2=>?_)
   ·(try dsimp only[aj]);conv=>whnf
    refine zA ?_;conv=>whnf
    refine ⟨j - 1,?_,?_,?_⟩
    ·omega
    ·refine ⟨?_,.mk ?_ (by simp [ak])⟩
     ·repeat' first|exact rfl|exact trivial|exact wR|exact lR _|apply aI
      all_goals first | omega | skip
     ·all_goals exact wk
    ·omega
   ·(try dsimp only[aj]);conv=>whnf
    refine ⟨⟨j,by omega⟩,by simp [nextId],?_,.mk ?_ (by simp [ak])⟩
    ·all_goals exact wk
    ·all_goals exact wk
  ·(try dsimp only[aj]);conv=>whnf
   refine ⟨⟨j,by omega⟩,by simp [nextId],?_,.mk ?_ (by simp [ak])⟩
   ·all_goals exact wk
   ·all_goals exact wk
 rintro ⟨j,hj⟩ _
 try dsimp only
 (try dsimp only[aj]);conv=>whnf
 refine And.intro (fun z=>?_) (fun z=>?_)
 ·(try dsimp only[aj]);conv=>whnf
  refine ⟨_,_,⟨i,by omega,rfl,m,hp,rfl⟩,?_⟩
  refine ⟨⟨_,_,.refl _ _,?_⟩⟩
  conv=>whnf
  refine ⟨?_,rfl,by simp [nextId],.mk ?_ (by simp [ak])⟩
  ·all_goals exact wk
  ·all_goals exact wk
 ·(try dsimp only[aj]);conv=>whnf
  refine aY.auto (by kernel_rfl) ?_;conv=>whnf
  refine ⟨by omega,?_⟩
  conv=>whnf
  refine aX (i:=j) (by omega) (by omega) ⟨rfl,?_⟩
  conv=>whnf
  refine ⟨by omega,?_⟩
  conv=>whnf
  refine aX (i:=i) (by omega) (by omega) ⟨rfl,?_⟩
  conv=>whnf
  refine ⟨by omega,?_⟩
  conv=>whnf
  refine ⟨by simp; omega,rfl,?_⟩
  conv=>whnf
  refine ⟨by omega,?_⟩
  conv=>whnf
  refine ⟨by simp; omega,rfl,?_⟩
  conv=>whnf
  refine zA ?_;conv=>whnf
  refine zA ?_;conv=>whnf
  refine ⟨(i + 1,j - 1,swp m i j),⟨by dsimp only; omega,(fP (by omega) (by omega)).trans hp⟩,?_,?_⟩
  ·refine ⟨?_,.mk ?_ (by simp [ak])⟩
   ·repeat' first|exact rfl|exact trivial|exact wR|exact lR _|apply aI
    all_goals first | omega | (dsimp only; omega) | skip
   ·repeat' first|exact rfl|exact trivial|exact wR|exact lR _|apply aI
    all_goals (refine bM ?_; exact iJ (by omega) (by omega))
  ·exact (by omega : b - (i + 1) < b - i0)

theorem UD {cf : Int -> Int -> Int} {g : Nat} (hcf : zQ cf g) (n cp a b pv : Nat) (hN : n <= 1152921504606846976) (hab : a < b) (hb : b <= n) (hpv : a <= pv /\ pv < b) (l : List Int) (hl : l.length = n) :
  dO Tryz.prog 108 [.ms 0 0 n cp 1,.int .i64 a,.int .i64 b,.int .i64 pv,.fn g []] (jW cp l) (fun R H'=>∃ (j : Nat) (B : AV),((a <= j /\ j < b) /\ (B = .tt \/ B = .ff)) /\ R = .dA [.int .i64 j,B] /\ ∃ l',List.Perm l' l /\ H' = jW cp l'):=by
 have hp : List.Perm (swp l a pv) l:=fP (by omega) (by omega)
 refine dO.lD (.r 3 (.j .n (.j .n (.r 4 (.s (.b (.b (.b (.j .n (.j .n .n))))) .n))))) lay mixed Tryz.func108 (by kernel_rfl) rfl (by kernel_rfl) rfl fun hok=>?_
 (try dsimp only[aP,aC]);(try dsimp only[aj]);conv=>whnf
 refine aY.auto (by kernel_rfl) ?_;conv=>whnf
 refine ⟨by omega,?_⟩
 conv=>whnf
 refine aX (i:=pv) (by omega) (by omega) ⟨rfl,?_⟩
 conv=>whnf
 refine ⟨by omega,?_⟩
 conv=>whnf
 refine aX (i:=a) (by omega) (by omega) ⟨rfl,?_⟩
 conv=>whnf
 refine ⟨by omega,?_⟩
 conv=>whnf
 refine ⟨by simp; omega,rfl,?_⟩
 conv=>whnf
 refine ⟨by omega,?_⟩
 conv=>whnf
 refine ⟨by simp; omega,rfl,?_⟩
 conv=>whnf
 try dsimp only [strip]
 rw [iJ (f:=AV.int .i64) (l:=l) (i:=a) (j:=pv) (y:=(a : Int)) (z:=(pv : Int)) (by omega) (by omega)]
 generalize swp l a pv = m at *
 (try dsimp only[aj]);conv=>whnf
 refine zA ?_;conv=>whnf
 refine zA ?_;conv=>whnf
 rw [show (a : Int) + 1 = ((a + 1 : Nat) : Int) by omega,show (b : Int) - 1 = ((b - 1 : Nat) : Int) by omega]
 have hml : m.length = n:=by rw [hp.length_eq,hl]
 (try dsimp only[aj]);conv=>whnf
 refine ⟨⟨{x : Nat // a + 1 <= x /\ x <= b},fun x=>[(12,.int .i64 (x.1 : Int)),(13,.int .i64 (((b - 1 : Nat) : Int))),(0,.ms 0 0 n cp 1),(1,.int .i64 a),(4,.fn g [])],fun _=>jW cp m,?_,?_⟩⟩
 ·(try dsimp only[aj]);conv=>whnf
  refine aN.of <| (aA.inv (.refl _ _) (fun i : Nat=>a + 1 <= i /\ i <= b) (fun i=>[(12,.int .i64 (i : Int))]) (fun _=>jW cp m) (fun i=>b - i) (a + 1) ?_ ?_ ?_ ?_)
  ·exact ⟨Nat.le_refl _,by omega⟩
  ·exact fun _=>rfl
  ·refine ⟨?_,.mk ?_ (by simp [ak])⟩
   ·all_goals exact wk
   ·all_goals exact wk
  intro i hi _
  (try dsimp only[aj]);conv=>whnf
  refine aY.auto (by kernel_rfl) ?_;conv=>whnf
  refine And.intro (fun p=>?_) (fun p=>?_)
  ·conv=>whnf
   refine ⟨by omega,?_⟩
   conv=>whnf
   refine aX (i:=i) (by omega) (by omega) ⟨rfl,?_⟩
   conv=>whnf
   refine ⟨by omega,?_⟩
   conv=>whnf
   refine aX (i:=a) (by omega) (by omega) ⟨rfl,?_⟩
   conv=>whnf
   refine dV.pure _ _ ?_ ⟨rfl,rfl⟩ (hcf (m.getD (i) default) (m.getD (a) default)) ?_
   ·exact au _
   (try dsimp only[aj]);conv=>whnf
   refine And.intro (fun p2=>?_) (fun p2=>?_)
   ·(try dsimp only[aj]);conv=>whnf
    refine zA ?_;conv=>whnf
    refine ⟨i + 1,?_,?_,?_⟩
    ·omega
    ·refine ⟨?_,.mk ?_ (by simp [ak])⟩
     ·all_goals exact wk
     ·all_goals exact wk
    ·omega
   ·(try dsimp only[aj]);conv=>whnf
    refine ⟨⟨i,by omega⟩,by simp [nextId],?_,.mk ?_ (by simp [ak])⟩
    ·all_goals exact wk
    ·all_goals exact wk
  ·(try dsimp only[aj]);conv=>whnf
   refine ⟨⟨i,by omega⟩,by simp [nextId],?_,.mk ?_ (by simp [ak])⟩
   ·all_goals exact wk
   ·all_goals exact wk
 rintro ⟨i,hi⟩ _
 try dsimp only
 (try dsimp only[aj]);conv=>whnf
 refine ⟨⟨{x : Nat // a <= x /\ x <= b - 1},fun x=>[(13,.int .i64 (x.1 : Int)),(12,.int .i64 ((i : Int))),(0,.ms 0 0 n cp 1),(1,.int .i64 a),(4,.fn g [])],fun _=>jW cp m,?_,?_⟩⟩
 ·(try dsimp only[aj]);conv=>whnf
  refine aN.of <| (aA.inv (.refl _ _) (fun j : Nat=>a <= j /\ j <= b - 1) (fun j=>[(13,.int .i64 (j : Int))]) (fun _=>jW cp m) (fun j=>j) (b - 1) ?_ ?_ ?_ ?_)
  ·exact ⟨by omega,Nat.le_refl _⟩
  ·exact fun _=>rfl
  ·refine ⟨?_,.mk ?_ (by simp [ak])⟩
   ·all_goals exact wk
   ·all_goals exact wk
  intro j hj _
  (try dsimp only[aj]);conv=>whnf
  refine aY.auto (by kernel_rfl) ?_;conv=>whnf
  refine And.intro (fun q=>?_) (fun q=>?_)
  ·conv=>whnf
   refine ⟨by omega,?_⟩
   conv=>whnf
   refine aX (i:=j) (by omega) (by omega) ⟨rfl,?_⟩
   conv=>whnf
   refine ⟨by omega,?_⟩
   conv=>whnf
   refine aX (i:=a) (by omega) (by omega) ⟨rfl,?_⟩
   conv=>whnf
   refine dV.pure _ _ ?_ ⟨rfl,rfl⟩ (hcf (m.getD (j) default) (m.getD (a) default)) ?_
   ·exact au _
   (try dsimp only[aj]);conv=>whnf
   refine And.intro (fun q2=>?_) (fun q2=>?_)
   ·(try dsimp only[aj]);conv=>whnf
    refine zA ?_;conv=>whnf
    refine ⟨j - 1,?_,?_,?_⟩
    ·omega
    ·refine ⟨?_,.mk ?_ (by simp [ak])⟩
     ·repeat' first|exact rfl|exact trivial|exact wR|exact lR _|apply aI
      all_goals first | omega | skip
     ·all_goals exact wk
    ·omega
   ·(try dsimp only[aj]);conv=>whnf
    refine ⟨⟨j,by omega⟩,by simp [nextId],?_,.mk ?_ (by simp [ak])⟩
    ·all_goals exact wk
    ·all_goals exact wk
  ·(try dsimp only[aj]);conv=>whnf
   refine ⟨⟨j,by omega⟩,by simp [nextId],?_,.mk ?_ (by simp [ak])⟩
   ·all_goals exact wk
   ·all_goals exact wk
 rintro ⟨j,hj⟩ _
 try dsimp only
 (try dsimp only[aj]);conv=>whnf
 refine And.intro (fun z=>?_) (fun z=>?_)
 ·(try dsimp only[aj]);conv=>whnf
  refine aY.auto (by kernel_rfl) ?_;conv=>whnf
  refine ⟨by omega,?_⟩
  conv=>whnf
  refine aX (i:=a) (by omega) (by omega) ⟨rfl,?_⟩
  conv=>whnf
  refine ⟨by omega,?_⟩
  conv=>whnf
  refine aX (i:=j) (by omega) (by omega) ⟨rfl,?_⟩
  conv=>whnf
  refine ⟨by omega,?_⟩
  conv=>whnf
  refine ⟨by simp; omega,rfl,?_⟩
  conv=>whnf
  refine ⟨by omega,?_⟩
  conv=>whnf
  refine ⟨by simp; omega,rfl,?_⟩
  conv=>whnf
  (try dsimp only[aj]);conv=>whnf
  refine ⟨_,_,⟨j,.tt,⟨by omega,.inl rfl⟩,rfl,swp m (j) a,(fP (by omega) (by omega)).trans hp,rfl⟩,?_⟩
  refine ⟨⟨_,_,.refl _ _,?_⟩⟩
  conv=>whnf
  refine ⟨?_,rfl,by simp [nextId],.mk ?_ (by simp [ak])⟩
  ·all_goals exact wk
  ·repeat' first|exact rfl|exact trivial|exact wR|exact lR _|apply aI
   all_goals (refine bM ?_; exact iJ (by omega) (by omega))
 (try dsimp only[aj]);conv=>whnf
 refine aY.auto (by kernel_rfl) ?_;conv=>whnf
 refine ⟨by omega,?_⟩
 conv=>whnf
 refine aX (i:=j) (by omega) (by omega) ⟨rfl,?_⟩
 conv=>whnf
 refine ⟨by omega,?_⟩
 conv=>whnf
 refine aX (i:=i) (by omega) (by omega) ⟨rfl,?_⟩
 conv=>whnf
 refine ⟨by omega,?_⟩
 conv=>whnf
 refine ⟨by simp; omega,rfl,?_⟩
 conv=>whnf
 refine ⟨by omega,?_⟩
 conv=>whnf
 refine ⟨by simp; omega,rfl,?_⟩
 conv=>whnf
 try dsimp only [strip]
 rw [iJ (f:=AV.int .i64) (l:=m) (i:=i) (j:=j) (y:=(i : Int)) (z:=(j : Int)) (by omega) (by omega)]
 have hp1:=(fP (l:=m) (i:=i) (j:=j) (by omega) (by omega)).trans hp
 generalize swp m i j = m1 at *
 (try dsimp only[aj]);conv=>whnf
 refine zA ?_;conv=>whnf
 refine zA ?_;conv=>whnf
 rw [show (i : Int) + 1 = ((i + 1 : Nat) : Int) by omega,show (j : Int) - 1 = ((j - 1 : Nat) : Int) by omega]
 refine aN.of <| (aA.inv (.refl _ _) (fun x : Nat × Nat × List Int=>((a < x.1 /\ x.1 <= b) /\ a <= x.2.1 /\ x.2.1 < b) /\ List.Perm x.2.2 l) (fun x=>[(12,.int .i64 (x.1 : Int)),(13,.int .i64 (x.2.1 : Int))]) (fun x=>jW cp x.2.2) (fun x=>b - x.1) (i + 1,j - 1,m1) ?_ ?_ ?_ ?_)
 ·exact ⟨by dsimp only; omega,hp1⟩
 ·exact fun _=>rfl
 ·refine ⟨?_,.mk ?_ (by simp [ak])⟩
  ·all_goals exact wk
  ·all_goals exact wk
 rintro ⟨i0,j0,m⟩ ⟨⟨hi0,hj0⟩,hp⟩ _
 dsimp only at hi0 hj0 hp ⊢
 have hml : m.length = n:=by rw [hp.length_eq,hl]
 (try dsimp only[aj]);conv=>whnf
 refine ⟨⟨{x : Nat // i0 <= x /\ x <= b},fun x=>[(12,.int .i64 (x.1 : Int)),(13,.int .i64 ((j0 : Int))),(0,.ms 0 0 n cp 1),(1,.int .i64 a),(4,.fn g [])],fun _=>jW cp m,?_,?_⟩⟩
 ·(try dsimp only[aj]);conv=>whnf
  refine aN.of <| (aA.inv (.refl _ _) (fun i : Nat=>i0 <= i /\ i <= b) (fun i=>[(12,.int .i64 (i : Int))]) (fun _=>jW cp m) (fun i=>b - i) (i0) ?_ ?_ ?_ ?_)
  ·exact ⟨Nat.le_refl _,by omega⟩
  ·exact fun _=>rfl
  ·refine ⟨?_,.mk ?_ (by simp [ak])⟩
   ·all_goals exact wk
   ·all_goals exact wk
  intro i hi _
  (try dsimp only[aj]);conv=>whnf
  refine aY.auto (by kernel_rfl) ?_;conv=>whnf
  refine And.intro (fun p=>?_) (fun p=>?_)
  ·conv=>whnf
   refine ⟨by omega,?_⟩
   conv=>whnf
   refine aX (i:=i) (by omega) (by omega) ⟨rfl,?_⟩
   conv=>whnf
   refine ⟨by omega,?_⟩
   conv=>whnf
   refine aX (i:=a) (by omega) (by omega) ⟨rfl,?_⟩
   conv=>whnf
   refine dV.pure _ _ ?_ ⟨rfl,rfl⟩ (hcf (m.getD (i) default) (m.getD (a) default)) ?_
   ·exact au _
   (try dsimp only[aj]);conv=>whnf
   refine And.intro (fun p2=>?_) (fun p2=>?_)
   ·(try dsimp only[aj]);conv=>whnf
    refine zA ?_;conv=>whnf
    refine ⟨i + 1,?_,?_,?_⟩
    ·omega
    ·refine ⟨?_,.mk ?_ (by simp [ak])⟩
     ·all_goals exact wk
     ·all_goals exact wk
    ·omega
   ·(try dsimp only[aj]);conv=>whnf
    refine ⟨⟨i,by omega⟩,by simp [nextId],?_,.mk ?_ (by simp [ak])⟩
    ·all_goals exact wk
    ·all_goals exact wk
  ·(try dsimp only[aj]);conv=>whnf
   refine ⟨⟨i,by omega⟩,by simp [nextId],?_,.mk ?_ (by simp [ak])⟩
   ·all_goals exact wk
   ·all_goals exact wk
 rintro ⟨i,hi⟩ _
 try dsimp only
 (try dsimp only[aj]);conv=>whnf
 refine ⟨⟨{x : Nat // a <= x /\ x <= j0},fun x=>[(13,.int .i64 (x.1 : Int)),(12,.int .i64 ((i : Int))),(0,.ms 0 0 n cp 1),(1,.int .i64 a),(4,.fn g [])],fun _=>jW cp m,?_,?_⟩⟩
 ·(try dsimp only[aj]);conv=>whnf
  refine aN.of <| (aA.inv (.refl _ _) (fun j : Nat=>a <= j /\ j <= j0) (fun j=>[(13,.int .i64 (j : Int))]) (fun _=>jW cp m) (fun j=>j) (j0) ?_ ?_ ?_ ?_)
  ·exact ⟨by omega,Nat.le_refl _⟩
  ·exact fun _=>rfl
  ·refine ⟨?_,.mk ?_ (by simp [ak])⟩
   ·all_goals exact wk
   ·all_goals exact wk
  intro j hj _
  (try dsimp only[aj]);conv=>whnf
  refine aY.auto (by kernel_rfl) ?_;conv=>whnf
  refine And.intro (fun q=>?_) (fun q=>?_)
  ·conv=>whnf
   refine ⟨by omega,?_⟩
   conv=>whnf
   refine aX (i:=j) (by omega) (by omega) ⟨rfl,?_⟩
   conv=>whnf
   refine ⟨by omega,?_⟩
   conv=>whnf
   refine aX (i:=a) (by omega) (by omega) ⟨rfl,?_⟩
   conv=>whnf
   refine dV.pure _ _ ?_ ⟨rfl,rfl⟩ (hcf (m.getD (j) default) (m.getD (a) default)) ?_
   ·exact au _
   (try dsimp only[aj]);conv=>whnf
   refine And.intro (fun q2=>?_) (fun q2=>?_)
   ·(try dsimp only[aj]);conv=>whnf
    refine zA ?_;conv=>whnf
    refine ⟨j - 1,?_,?_,?_⟩
    ·omega
    ·refine ⟨?_,.mk ?_ (by simp [ak])⟩
     ·repeat' first|exact rfl|exact trivial|exact wR|exact lR _|apply aI
      all_goals first | omega | skip
     ·all_goals exact wk
    ·omega
   ·(try dsimp only[aj]);conv=>whnf
    refine ⟨⟨j,by omega⟩,by simp [nextId],?_,.mk ?_ (by simp [ak])⟩
    ·all_goals exact wk
    ·all_goals exact wk
  ·(try dsimp only[aj]);conv=>whnf
   refine ⟨⟨j,by omega⟩,by simp [nextId],?_,.mk ?_ (by simp [ak])⟩
   ·all_goals exact wk
   ·all_goals exact wk
 rintro ⟨j,hj⟩ _
 try dsimp only
 (try dsimp only[aj]);conv=>whnf
 refine And.intro (fun z=>?_) (fun z=>?_)
 ·(try dsimp only[aj]);conv=>whnf
  refine aY.auto (by kernel_rfl) ?_;conv=>whnf
  refine ⟨by omega,?_⟩
  conv=>whnf
  refine aX (i:=a) (by omega) (by omega) ⟨rfl,?_⟩
  conv=>whnf
  refine ⟨by omega,?_⟩
  conv=>whnf
  refine aX (i:=j) (by omega) (by omega) ⟨rfl,?_⟩
  conv=>whnf
  refine ⟨by omega,?_⟩
  conv=>whnf
  refine ⟨by simp; omega,rfl,?_⟩
  conv=>whnf
  refine ⟨by omega,?_⟩
  conv=>whnf
  refine ⟨by simp; omega,rfl,?_⟩
  conv=>whnf
  (try dsimp only[aj]);conv=>whnf
  refine ⟨_,_,⟨j,.ff,⟨by omega,.inr rfl⟩,rfl,swp m (j) a,(fP (by omega) (by omega)).trans hp,rfl⟩,?_⟩
  refine ⟨⟨_,_,.refl _ _,?_⟩⟩
  conv=>whnf
  refine ⟨?_,rfl,by simp [nextId],.mk ?_ (by simp [ak])⟩
  ·all_goals exact wk
  ·repeat' first|exact rfl|exact trivial|exact wR|exact lR _|apply aI
   all_goals (refine bM ?_; exact iJ (by omega) (by omega))
 ·(try dsimp only[aj]);conv=>whnf
  refine aY.auto (by kernel_rfl) ?_;conv=>whnf
  refine ⟨by omega,?_⟩
  conv=>whnf
  refine aX (i:=j) (by omega) (by omega) ⟨rfl,?_⟩
  conv=>whnf
  refine ⟨by omega,?_⟩
  conv=>whnf
  refine aX (i:=i) (by omega) (by omega) ⟨rfl,?_⟩
  conv=>whnf
  refine ⟨by omega,?_⟩
  conv=>whnf
  refine ⟨by simp; omega,rfl,?_⟩
  conv=>whnf
  refine ⟨by omega,?_⟩
  conv=>whnf
  refine ⟨by simp; omega,rfl,?_⟩
  conv=>whnf
  refine zA ?_;conv=>whnf
  refine zA ?_;conv=>whnf
  refine ⟨(i + 1,j - 1,swp m i j),⟨by dsimp only; omega,(fP (by omega) (by omega)).trans hp⟩,?_,?_⟩
  ·refine ⟨?_,.mk ?_ (by simp [ak])⟩
   ·repeat' first|exact rfl|exact trivial|exact wR|exact lR _|apply aI
    all_goals first | omega | (dsimp only; omega) | skip
   ·repeat' first|exact rfl|exact trivial|exact wR|exact lR _|apply aI
    all_goals (refine bM ?_; exact iJ (by omega) (by omega))
  ·exact (by omega : b - (i + 1) < b - i0)

theorem Q7 {cf : Int -> Int -> Int} {g : Nat} (hcf : zQ cf g) (n cp a b : Nat) (hN : n <= 1152921504606846976) (hab : a < b) (hb : b <= n) (l : List Int) (hl : l.length = n) :
  dO Tryz.prog 106 [.ms 0 0 n cp 1,.int .i64 a,.int .i64 b,.fn g []] (jW cp l) (fun R H'=>∃ B : AV,(B = .tt \/ B = .ff) /\ R = B /\ ∃ l',List.Perm l' l /\ H' = jW cp l'):=by
 refine dO.lD (.r 2 (.s (.s .n (.b (.b (.r 1 (.j (.b (.j .n (.r 3 (.j .n .n)))) .n))))) .n)) lay mixed Tryz.func106 (by kernel_rfl) rfl (by kernel_rfl) rfl fun hok=>?_
 (try dsimp only[aP,aC]);(try dsimp only[aj]);conv=>whnf
 refine zA ?_;conv=>whnf
 rw [show (a : Int) + 1 = ((a + 1 : Nat) : Int) by omega]
 refine aN.of <| (aA.inv (.refl _ _) (fun x : Nat × Nat × List Int=>((a < x.1 /\ x.1 <= b) /\ x.2.1 <= 5) /\ List.Perm x.2.2 l) (fun x=>[(9,.int .i64 (x.1 : Int)),(10,.int .i64 (x.2.1 : Int))]) (fun x=>jW cp x.2.2) (fun x=>5 - x.2.1) (a + 1,0,l) ?_ ?_ ?_ ?_)
 ·exact ⟨by dsimp only; omega,.refl _⟩
 ·exact fun _=>rfl
 ·refine ⟨?_,.mk ?_ (by simp [ak])⟩
  ·all_goals exact wk
  ·all_goals exact wk
 rintro ⟨i0,c,m⟩ ⟨⟨hi0,hc⟩,hp⟩ _
 dsimp only at hi0 hc hp ⊢
 have hml : m.length = n:=by rw [hp.length_eq,hl]
 (try dsimp only[aj]);conv=>whnf
 refine And.intro (fun pc=>?_) (fun pc=>?_)
 ·have hc5 : c < 5:=by omega
  (try dsimp only[aj]);conv=>whnf
  refine ⟨⟨{x : Nat × List Int // (a < x.1 /\ x.1 <= b) /\ List.Perm x.2 l},fun x=>[(9,.int .i64 (x.1.1 : Int)),(10,.int .i64 (c : Int)),(0,.ms 0 0 n cp 1),(1,.int .i64 a),(2,.int .i64 b),(3,.fn g [])],fun x=>jW cp x.1.2,?_,?_⟩⟩
  ·(try dsimp only[aj]);conv=>whnf
   refine ⟨⟨{i : Nat // a < i /\ i <= b},fun x=>[(9,.int .i64 (x.1 : Int)),(10,.int .i64 (c : Int)),(0,.ms 0 0 n cp 1),(1,.int .i64 a),(2,.int .i64 b),(3,.fn g [])],fun _=>jW cp m,?_,?_⟩⟩
   ·(try dsimp only[aj]);conv=>whnf
    refine aN.of <| (aA.inv (.refl _ _) (fun i : Nat=>a < i /\ i <= b) (fun i=>[(9,.int .i64 (i : Int))]) (fun _=>jW cp m) (fun i=>b - i) i0 ?_ ?_ ?_ ?_)
    ·exact hi0
    ·exact fun _=>rfl
    ·refine ⟨?_,.mk ?_ (by simp [ak])⟩
     ·all_goals exact wk
     ·all_goals exact wk
    intro i hi _
    (try dsimp only[aj]);conv=>whnf
    refine aY.auto (by kernel_rfl) ?_;conv=>whnf
    refine And.intro (fun p=>?_) (fun p=>?_)
    ·conv=>whnf
     refine ⟨by omega,?_⟩
     conv=>whnf
     refine aX (i:=i) (by omega) (by omega) ⟨rfl,?_⟩
     conv=>whnf
     refine zA ?_;conv=>whnf
     refine ⟨by omega,?_⟩
     conv=>whnf
     refine aX (i:=i - 1) (by omega) (by omega) ⟨rfl,?_⟩
     conv=>whnf
     refine dV.pure _ _ ?_ ⟨rfl,rfl⟩ (hcf (m.getD (i) default) (m.getD (i - 1) default)) ?_
     ·exact au _
     (try dsimp only[aj]);conv=>whnf
     refine And.intro (fun p2=>?_) (fun p2=>?_)
     ·(try dsimp only[aj]);conv=>whnf
      refine zA ?_;conv=>whnf
      refine ⟨i + 1,?_,?_,?_⟩
      ·omega
      ·refine ⟨?_,.mk ?_ (by simp [ak])⟩
       ·all_goals exact wk
       ·all_goals exact wk
      ·omega
     ·(try dsimp only[aj]);conv=>whnf
      refine ⟨⟨i,hi⟩,by simp [nextId],?_,.mk ?_ (by simp [ak])⟩
      ·all_goals exact wk
      ·all_goals exact wk
    ·(try dsimp only[aj]);conv=>whnf
     refine ⟨⟨i,hi⟩,by simp [nextId],?_,.mk ?_ (by simp [ak])⟩
     ·all_goals exact wk
     ·all_goals exact wk
   rintro ⟨i,hi⟩ _
   try dsimp only
   (try dsimp only[aj]);conv=>whnf
   refine And.intro (fun q1=>?_) (fun q1=>?_)
   ·(try dsimp only[aj]);conv=>whnf
    refine ⟨_,_,⟨.tt,.inl rfl,rfl,m,hp,rfl⟩,?_⟩
    refine ⟨⟨_,_,.refl _ _,?_⟩⟩
    conv=>whnf
    refine ⟨?_,rfl,by simp [nextId],.mk ?_ (by simp [ak])⟩
    ·all_goals exact wk
    ·all_goals exact wk
   have hib : i < b:=by omega
   (try dsimp only[aj]);conv=>whnf
   refine zA ?_;conv=>whnf
   refine And.intro (fun q2=>?_) (fun q2=>?_)
   ·(try dsimp only[aj]);conv=>whnf
    refine ⟨_,_,⟨.ff,.inr rfl,rfl,m,hp,rfl⟩,?_⟩
    refine ⟨⟨_,_,.refl _ _,?_⟩⟩
    conv=>whnf
    refine ⟨?_,rfl,by simp [nextId],.mk ?_ (by simp [ak])⟩
    ·all_goals exact wk
    ·all_goals exact wk
   (try dsimp only[aj]);conv=>whnf
   refine aY.auto (by kernel_rfl) ?_;conv=>whnf
   refine zA ?_;conv=>whnf
   refine zA ?_;conv=>whnf
   refine ⟨by omega,?_⟩
   conv=>whnf
   refine aX (i:=i - 1) (by omega) (by omega) ⟨rfl,?_⟩
   conv=>whnf
   refine ⟨by omega,?_⟩
   conv=>whnf
   refine aX (i:=i) (by omega) (by omega) ⟨rfl,?_⟩
   conv=>whnf
   refine ⟨by omega,?_⟩
   conv=>whnf
   refine ⟨by simp; omega,rfl,?_⟩
   conv=>whnf
   refine ⟨by omega,?_⟩
   conv=>whnf
   refine ⟨by simp; omega,rfl,?_⟩
   conv=>whnf
   dsimp only [strip]
   rw [iJ (f:=AV.int .i64) (l:=m) (i:=i) (j:=i - 1) (y:=(i : Int)) (z:=(i : Int) - 1) (by omega) (by omega)]
   have hp1:=(fP (l:=m) (i:=i) (j:=i - 1) (by omega) (by omega)).trans hp
   generalize swp m i (i - 1) = m1 at *
   (try dsimp only[aj]);conv=>whnf
   refine ⟨⟨{x : List Int // List.Perm x l},fun _=>[(9,.int .i64 (i : Int)),(10,.int .i64 (c : Int)),(0,.ms 0 0 n cp 1),(1,.int .i64 a),(2,.int .i64 b),(3,.fn g [])],fun x=>jW cp x.1,?_,?_⟩⟩
   ·(try dsimp only[aj]);conv=>whnf
    refine zA ?_;conv=>whnf
    refine And.intro (fun r1=>?_) (fun r1=>?_)
    ·(try dsimp only[aj]);conv=>whnf
     refine zA ?_;conv=>whnf
     rw [show (i : Int) - 1 = ((i - 1 : Nat) : Int) by omega]
     refine aN.of <| (aA.inv (.refl _ _) (fun x : Nat × List Int=>x.1 <= i - 1 /\ List.Perm x.2 l) (fun x=>[(11,.int .i64 (x.1 : Int))]) (fun x=>jW cp x.2) (fun x=>x.1) (i - 1,m1) ?_ ?_ ?_ ?_)
     ·exact ⟨Nat.le_refl _,hp1⟩
     ·exact fun _=>rfl
     ·refine ⟨?_,.mk ?_ (by simp [ak])⟩
      ·all_goals exact wk
      ·all_goals exact wk
     rintro ⟨j,m⟩ ⟨hj,hp⟩ _
     dsimp only at hj hp ⊢
     have hml : m.length = n:=by rw [hp.length_eq,hl]
     (try dsimp only[aj]);conv=>whnf
     refine And.intro (fun s1=>?_) (fun s1=>?_)
     ·(try dsimp only[aj]);conv=>whnf
      refine aY.auto (by kernel_rfl) ?_;conv=>whnf
      refine ⟨by omega,?_⟩
      conv=>whnf
      refine aX (i:=j) (by omega) (by omega) ⟨rfl,?_⟩
      conv=>whnf
      refine zA ?_;conv=>whnf
      refine ⟨by omega,?_⟩
      conv=>whnf
      refine aX (i:=j - 1) (by omega) (by omega) ⟨rfl,?_⟩
      conv=>whnf
      refine dV.pure _ _ ?_ ⟨rfl,rfl⟩ (hcf (m.getD (j) default) (m.getD (j - 1) default)) ?_
      ·exact au _
      (try dsimp only[aj]);conv=>whnf
      refine And.intro (fun s2=>?_) (fun s2=>?_)
      ·(try dsimp only[aj]);conv=>whnf
       refine ⟨⟨m,hp⟩,by simp [nextId],?_,.mk ?_ (by simp [ak])⟩
       ·all_goals exact wk
       ·all_goals exact wk
      ·(try dsimp only[aj]);conv=>whnf
       refine aY.auto (by kernel_rfl) ?_;conv=>whnf
       refine zA ?_;conv=>whnf
       refine zA ?_;conv=>whnf
       refine ⟨by omega,?_⟩
       conv=>whnf
       refine aX (i:=j - 1) (by omega) (by omega) ⟨rfl,?_⟩
       conv=>whnf
       refine ⟨by omega,?_⟩
       conv=>whnf
       refine aX (i:=j) (by omega) (by omega) ⟨rfl,?_⟩
       conv=>whnf
       refine ⟨by omega,?_⟩
       conv=>whnf
       refine ⟨by simp; omega,rfl,?_⟩
       conv=>whnf
       refine ⟨by omega,?_⟩
       conv=>whnf
       refine ⟨by simp; omega,rfl,?_⟩
       conv=>whnf
       refine zA ?_;conv=>whnf
       refine ⟨(j - 1,swp m (j) (j - 1)),⟨by omega,(fP (by omega) (by omega)).trans hp⟩,?_,?_⟩
       ·refine ⟨?_,.mk ?_ (by simp [ak])⟩
        ·repeat' first|exact rfl|exact trivial|exact wR|exact lR _|apply aI
         all_goals first | omega | skip
        ·repeat' first|exact rfl|exact trivial|exact wR|exact lR _|apply aI
         all_goals (refine bM ?_; exact iJ (by omega) (by omega))
       exact (by omega : j - 1 < j)
     ·(try dsimp only[aj]);conv=>whnf
      refine ⟨⟨m,hp⟩,by simp [nextId],?_,.mk ?_ (by simp [ak])⟩
      ·all_goals exact wk
      ·all_goals exact wk
    ·(try dsimp only[aj]);conv=>whnf
     refine ⟨⟨m1,hp1⟩,by simp [nextId],?_,.mk ?_ (by simp [ak])⟩
     ·all_goals exact wk
     ·all_goals exact wk
   rintro ⟨m2,hp2⟩ _
   try dsimp only
   have ZP : m2.length = n:=by rw [hp2.length_eq,hl]
   (try dsimp only[aj]);conv=>whnf
   refine zA ?_;conv=>whnf
   refine And.intro (fun r1=>?_) (fun r1=>?_)
   ·(try dsimp only[aj]);conv=>whnf
    refine zA ?_;conv=>whnf
    rw [show (i : Int) + 1 = ((i + 1 : Nat) : Int) by omega]
    refine aN.of <| (aA.inv (.refl _ _) (fun x : Nat × List Int=>(i < x.1 /\ x.1 <= b) /\ List.Perm x.2 l) (fun x=>[(12,.int .i64 (x.1 : Int))]) (fun x=>jW cp x.2) (fun x=>b - x.1) (i + 1,m2) ?_ ?_ ?_ ?_)
    ·exact ⟨by dsimp only; omega,hp2⟩
    ·exact fun _=>rfl
    ·refine ⟨?_,.mk ?_ (by simp [ak])⟩
     ·all_goals exact wk
     ·all_goals exact wk
    rintro ⟨j,m⟩ ⟨hj,hp⟩ _
    dsimp only at hj hp ⊢
    have hml : m.length = n:=by rw [hp.length_eq,hl]
    (try dsimp only[aj]);conv=>whnf
    refine And.intro (fun s1=>?_) (fun s1=>?_)
    ·(try dsimp only[aj]);conv=>whnf
     refine aY.auto (by kernel_rfl) ?_;conv=>whnf
     refine ⟨by omega,?_⟩
     conv=>whnf
     refine aX (i:=j) (by omega) (by omega) ⟨rfl,?_⟩
     conv=>whnf
     refine zA ?_;conv=>whnf
     refine ⟨by omega,?_⟩
     conv=>whnf
     refine aX (i:=j - 1) (by omega) (by omega) ⟨rfl,?_⟩
     conv=>whnf
     refine dV.pure _ _ ?_ ⟨rfl,rfl⟩ (hcf (m.getD (j) default) (m.getD (j - 1) default)) ?_
     ·exact au _
     (try dsimp only[aj]);conv=>whnf
     refine And.intro (fun s2=>?_) (fun s2=>?_)
     ·(try dsimp only[aj]);conv=>whnf
      refine ⟨⟨(i,m),hi,hp⟩,by simp [nextId],?_,.mk ?_ (by simp [ak])⟩
      ·all_goals exact wk
      ·all_goals exact wk
     ·(try dsimp only[aj]);conv=>whnf
      refine aY.auto (by kernel_rfl) ?_;conv=>whnf
      refine zA ?_;conv=>whnf
      refine zA ?_;conv=>whnf
      refine ⟨by omega,?_⟩
      conv=>whnf
      refine aX (i:=j - 1) (by omega) (by omega) ⟨rfl,?_⟩
      conv=>whnf
      refine ⟨by omega,?_⟩
      conv=>whnf
      refine aX (i:=j) (by omega) (by omega) ⟨rfl,?_⟩
      conv=>whnf
      refine ⟨by omega,?_⟩
      conv=>whnf
      refine ⟨by simp; omega,rfl,?_⟩
      conv=>whnf
      refine ⟨by omega,?_⟩
      conv=>whnf
      refine ⟨by simp; omega,rfl,?_⟩
      conv=>whnf
      refine zA ?_;conv=>whnf
      refine ⟨(j + 1,swp m (j) (j - 1)),⟨by omega,(fP (by omega) (by omega)).trans hp⟩,?_,?_⟩
      ·refine ⟨?_,.mk ?_ (by simp [ak])⟩
       ·repeat' first|exact rfl|exact trivial|exact wR|exact lR _|apply aI
        all_goals first | omega | skip
       ·repeat' first|exact rfl|exact trivial|exact wR|exact lR _|apply aI
        all_goals (refine bM ?_; exact iJ (by omega) (by omega))
      exact (by omega : b - (j + 1) < b - j)
    ·(try dsimp only[aj]);conv=>whnf
     refine ⟨⟨(i,m),hi,hp⟩,by simp [nextId],?_,.mk ?_ (by simp [ak])⟩
     ·all_goals exact wk
     ·all_goals exact wk
   ·(try dsimp only[aj]);conv=>whnf
    refine ⟨⟨(i,m2),hi,hp2⟩,by simp [nextId],?_,.mk ?_ (by simp [ak])⟩
    ·all_goals exact wk
    ·all_goals exact wk
  rintro ⟨⟨i,m2⟩,hi,hp2⟩ _
  dsimp only at hi hp2 ⊢
  (try dsimp only[aj]);conv=>whnf
  refine zA ?_;conv=>whnf
  refine ⟨(i,c + 1,m2),⟨by dsimp only; omega,hp2⟩,?_,?_⟩
  ·refine ⟨?_,.mk ?_ (by simp [ak])⟩
   ·all_goals exact wk
   ·all_goals exact wk
  ·exact (by omega : 5 - (c + 1) < 5 - c)
 ·(try dsimp only[aj]);conv=>whnf
  refine ⟨_,_,⟨.ff,.inr rfl,rfl,m,hp,rfl⟩,?_⟩
  refine ⟨⟨_,_,.refl _ _,?_⟩⟩
  conv=>whnf
  refine ⟨?_,rfl,by simp [nextId],.mk ?_ (by simp [ak])⟩
  ·all_goals exact wk
  ·all_goals exact wk

theorem dO.XF {P : Program} {f : Nat} {args : List AV} {H : Heap} {R : AV} {G : Heap} (h : dO P f args H fun R' G'=>R' = R /\ G' = G) : aQ P f args H R G:=by
 refine ⟨h.1,fun c vs hr hv=>(h.2 c vs hr hv).mono ?_⟩
 rintro _ _ ⟨v,d,_,_,⟨rfl,rfl⟩,h3⟩
 exact ⟨v,d,h3⟩

theorem Xo (x : Nat) (hx : x < 18446744073709551616) : aQ Tryz.prog 110 [.int .u64 x] [] (.int .i64 (iU x)) []:=by
 refine dO.XF ?_
 refine dO.lD (.r 1 (.j .n (.j .n (.j .n .n)))) lay mixed Tryz.func110 (by kernel_rfl) rfl (by kernel_rfl) rfl fun hok=>?_
 (try dsimp only[aP,aC]);(try dsimp only[aj]);conv=>whnf
 (try dsimp only[aj]);conv=>whnf
 refine ⟨⟨{y : Nat × Nat // y.1 < 4294967296 /\ y.2 <= 32 /\ iU x = iU y.1 + y.2},fun y=>[(0,.int .u64 (y.1.1 : Int)),(2,.int .i64 (y.1.2 : Int))],fun _=>[],?_,?_⟩⟩
 ·(try dsimp only[aj]);conv=>whnf
  refine And.intro (fun n1=>?_) (fun n1=>?_)
  ·have k1:=D9 (x:=x) (k:=32) (by omega)
   (try dsimp only[aj]);conv=>whnf
   refine ⟨by decide,?_⟩
   rw [show uX .u64 (x : Int) 32 = ((x / 2 ^ 32 : Nat) : Int) from Ho (n:=32) (by omega)]
   have hy : x / 2 ^ 32 < 4294967296:=by omega
   (try dsimp only[aj]);conv=>whnf
   refine ⟨⟨(x / 2 ^ 32,32),⟨hy,Nat.le_refl _,k1⟩⟩,by simp [nextId],?_,.mk ?_ (by simp [ak])⟩
   ·repeat' first|exact rfl|exact trivial|exact wR|exact lR _|apply aI
    all_goals first | omega | skip
   ·all_goals exact wk
  ·(try dsimp only[aj]);conv=>whnf
   refine ⟨⟨(x,0),by dsimp only; omega,Nat.zero_le _,rfl⟩,by simp [nextId],?_,.mk ?_ (by simp [ak])⟩
   ·repeat' first|exact rfl|exact trivial|exact wR|exact lR _|apply aI
    all_goals first | omega | skip
   ·all_goals exact wk
 rintro ⟨⟨y,k⟩,h1,h2,h3⟩ _
 dsimp only at h1 h2 h3 ⊢
 (try dsimp only[aj]);conv=>whnf
 refine ⟨⟨{y : Nat × Nat // y.1 < 65536 /\ y.2 <= 48 /\ iU x = iU y.1 + y.2},fun y=>[(0,.int .u64 (y.1.1 : Int)),(2,.int .i64 (y.1.2 : Int))],fun _=>[],?_,?_⟩⟩
 ·(try dsimp only[aj]);conv=>whnf
  refine And.intro (fun n1=>?_) (fun n1=>?_)
  ·have k1:=D9 (x:=y) (k:=16) (by omega)
   (try dsimp only[aj]);conv=>whnf
   refine ⟨by decide,?_⟩
   rw [show uX .u64 (y : Int) 16 = ((y / 2 ^ 16 : Nat) : Int) from Ho (n:=16) (by omega)]
   have hy : y / 2 ^ 16 < 2 ^ 16:=by omega
   (try dsimp only[aj]);conv=>whnf
   try (refine zA ?_;(conv=>whnf))
   refine ⟨⟨(y / 2 ^ 16,k + 16),by dsimp only; omega,by dsimp only; omega,by dsimp only; omega⟩,by simp [nextId],?_,.mk ?_ (by simp [ak])⟩
   ·repeat' first|exact rfl|exact trivial|exact wR|exact lR _|apply aI
    all_goals first | omega | skip
   ·all_goals exact wk
  ·(try dsimp only[aj]);conv=>whnf
   refine ⟨⟨(y,k),by dsimp only; omega,by dsimp only; omega,h3⟩,by simp [nextId],?_,.mk ?_ (by simp [ak])⟩
   ·repeat' first|exact rfl|exact trivial|exact wR|exact lR _|apply aI
    all_goals first | omega | skip
   ·all_goals exact wk
 rintro ⟨⟨y,k⟩,h1,h2,h3⟩ _
 dsimp only at h1 h2 h3 ⊢
 (try dsimp only[aj]);conv=>whnf
 refine ⟨⟨{y : Nat × Nat // y.1 < 256 /\ y.2 <= 56 /\ iU x = iU y.1 + y.2},fun y=>[(0,.int .u64 (y.1.1 : Int)),(2,.int .i64 (y.1.2 : Int))],fun _=>[],?_,?_⟩⟩
 ·(try dsimp only[aj]);conv=>whnf
  refine And.intro (fun n1=>?_) (fun n1=>?_)
  ·have k1:=D9 (x:=y) (k:=8) (by omega)
   (try dsimp only[aj]);conv=>whnf
   refine ⟨by decide,?_⟩
   rw [show uX .u64 (y : Int) 8 = ((y / 2 ^ 8 : Nat) : Int) from Ho (n:=8) (by omega)]
   have hy : y / 2 ^ 8 < 2 ^ 8:=by omega
   (try dsimp only[aj]);conv=>whnf
   try (refine zA ?_;(conv=>whnf))
   refine ⟨⟨(y / 2 ^ 8,k + 8),by dsimp only; omega,by dsimp only; omega,by dsimp only; omega⟩,by simp [nextId],?_,.mk ?_ (by simp [ak])⟩
   ·repeat' first|exact rfl|exact trivial|exact wR|exact lR _|apply aI
    all_goals first | omega | skip
   ·all_goals exact wk
  ·(try dsimp only[aj]);conv=>whnf
   refine ⟨⟨(y,k),by dsimp only; omega,by dsimp only; omega,h3⟩,by simp [nextId],?_,.mk ?_ (by simp [ak])⟩
   ·repeat' first|exact rfl|exact trivial|exact wR|exact lR _|apply aI
    all_goals first | omega | skip
   ·all_goals exact wk
 rintro ⟨⟨y,k⟩,h1,h2,h3⟩ _
 dsimp only at h1 h2 h3 ⊢
 (try dsimp only[aj]);conv=>whnf
 refine aidxT (x:=y) (by decide +kernel) ?_ h1 ?_
 ·simp [IntKind.wrap,IntKind.bits,IntKind.signed]; omega
 have hb8:=BF (x:=y) (n:=8) (by omega)
 rw [show ((UInt8.ofNat (iU y)).toNat : Int) = (iU y : Int) by rw [UInt8.toNat_ofNat']; omega]
 conv=>whnf
 rw [wrap64 (n:=(iU y : Int)) (by omega) (by omega)]
 refine zA ?_;conv=>whnf
 refine ⟨_,_,⟨rfl,rfl⟩,?_⟩
 rw [show (k : Int) + (iU y : Int) = (iU x : Int) by omega]
 refine ⟨⟨_,_,.refl _ _,?_⟩⟩
 conv=>whnf
 refine ⟨?_,rfl,by simp [nextId],.mk ?_ (by simp [ak])⟩
 ·all_goals exact wk
 ·all_goals exact wk

theorem UY (x : Nat) (hx : x < 18446744073709551616) : aQ Tryz.prog 99 [.int .u64 x] [] (.int .i64 (iU x)) []:=by
 have c:=Xo x hx
 refine aQ.intro lay mixed Tryz.func99 (by kernel_rfl) rfl (by kernel_rfl) rfl fun hok=>?_
 (try dsimp only[aP,aC]);(try dsimp only[aj]);conv=>whnf
 refine .pure _ _ ?_ ⟨rfl,rfl⟩ c fun _=>?_
 ·exact au _
 (try dsimp only[aj]);conv=>whnf
 refine fM ?_;(conv=>whnf);refine ⟨?_,rfl⟩;conv=>whnf
 all_goals exact wk

theorem Jf {x : Nat} (hx : x < 18446744073709551616) : IntKind.u64.wrap (x : Int) = x:=by
 simp [IntKind.wrap,IntKind.bits,IntKind.signed]; omega

theorem Xe (x : Nat) (hx : x < 1152921504606846976) : aQ Tryz.prog 112 [.int .i64 x] [] (.int .u64 ((2 ^ iU x : Nat) : Int)) []:=by
 have c:=UY x (by omega)
 have hb:=BF (x:=x) (n:=60) (by omega)
 have hp : 2 ^ iU x <= 2 ^ 60:=Nat.pow_le_pow_right (by decide) hb
 have hs : yT .u64 1 (iU x : Int) = ((2 ^ iU x : Nat) : Int):=by
  unfold yT
  rw [show min ((iU x : Int)).toNat (IntKind.bits .u64) = iU x by show min (iU x) 64 = _; omega,Int.one_mul]
  rw [show (2 : Int) ^ iU x = ((2 ^ iU x : Nat) : Int) by push_cast; rfl]
  exact Jf (by omega)
 generalize 2 ^ iU x = M at *
 generalize iU x = B at *
 refine aQ.intro lay mixed Tryz.func112 (by kernel_rfl) rfl (by kernel_rfl) rfl fun hok=>?_
 (try dsimp only[aP,aC]);(try dsimp only[aj]);conv=>whnf
 rw [Jf (by omega)]
 refine .pure _ _ ?_ ⟨rfl,rfl⟩ c fun _=>?_
 ·exact au _
 (try dsimp only[aj]);conv=>whnf
 refine ⟨by omega,?_⟩
 rw [hs]
 (try dsimp only[aj]);conv=>whnf
 refine fM ?_;(conv=>whnf);refine ⟨?_,rfl⟩;conv=>whnf
 all_goals exact wk

abbrev hpU (cp : Nat) (l : List Int) (r : Int) : Heap:=[(1,.box (.int .u64 r)),(0,.arr 1 cp (l.map (.int .i64)))]

def xor1 (r : Int) : Int:=dI .xor .u64 r (yT .u64 r 13)
def xor2 (r : Int) : Int:=dI .xor .u64 r (uX .u64 r 7)
def xor3 (r : Int) : Int:=dI .xor .u64 r (yT .u64 r 17)

theorem c_xor (cp : Nat) (l : List Int) (r : Int) : dO Tryz.prog 113 [.ptr 1 [] 0] (hpU cp l r) (fun R H'=>∃ s : Int,R = .int .u64 s /\ H' = hpU cp l s):=by
 refine dO.intro lay mixed Tryz.func113 (by kernel_rfl) rfl (by kernel_rfl) rfl fun hok=>?_
 (try dsimp only[aP,aC]);(try dsimp only[aj]);conv=>whnf
 refine aY.auto (by kernel_rfl) ?_;conv=>whnf
 refine ⟨by decide,?_⟩
 (try dsimp only[aj]);conv=>whnf
 refine aY.auto (by kernel_rfl) ?_;conv=>whnf
 refine ⟨by decide,?_⟩
 (try dsimp only[aj]);conv=>whnf
 refine aY.auto (by kernel_rfl) ?_;conv=>whnf
 refine ⟨by decide,?_⟩
 (try dsimp only[aj]);conv=>whnf
 refine ⟨_,_,⟨xor3 (xor2 (xor1 r)),rfl,rfl⟩,?_⟩
 refine ⟨⟨_,_,.refl _ _,?_⟩⟩
 conv=>whnf
 refine ⟨?_,rfl,by simp [nextId],.mk ?_ (by simp [ak])⟩
 ·all_goals exact wk
 ·all_goals exact wk

theorem Rx (x : Int) {n : Nat} (hn : n <= 60) : ∃ s : Nat,s < 2 ^ n /\ dI .and .u64 x ((2 ^ n : Nat) - 1 : Int) = (s : Int):=by
 have hp : 1 <= 2 ^ n:=Nat.one_le_two_pow
 have hp2 : 2 ^ n <= 2 ^ 60:=Nat.pow_le_pow_right (by decide) hn
 refine ⟨(BitVec.ofInt 64 x &&& BitVec.ofInt 64 ((2 ^ n : Nat) - 1 : Int)).toNat,?_,?_⟩
 ·rw [BitVec.toNat_and]
  have e : (BitVec.ofInt 64 ((2 ^ n : Nat) - 1 : Int)).toNat = 2 ^ n - 1:=by
   rw [BitVec.toNat_ofInt]; omega
  rw [e]
  exact Nat.lt_of_le_of_lt Nat.and_le_right (by omega)
 ·simp only [dI]
  exact Jf (BitVec.isLt _)

theorem Xl {g : Nat} (n cp a b : Nat) (hN : n < 1152921504606846976) (hab : a <= b) (hb : b <= n) (l : List Int) (hl : l.length = n) :
  dO Tryz.prog 103 [.ms 0 0 n cp 1,.int .i64 a,.int .i64 b,.fn g []] (jW cp l) (LK cp l):=by
 obtain ⟨h,rfl⟩ : ∃ h,b = a + h:=⟨b - a,by omega⟩
 have e1 : ((a + h : Nat) : Int) - (a : Int) = (h : Int):=by omega
 have e2 : (h : Int).tdiv 4 = ((h / 4 : Nat) : Int):=rfl
 have c2:=Xe h (by omega)
 obtain ⟨w,hw1,hw2⟩ : ∃ w,iU h = w /\ (8 <= h -> 2 ^ w <= 2 * h):=⟨_,rfl,fun h8=>by
  obtain ⟨k,k1,k2,k3⟩:=zy (x:=h) (by omega)
  rw [k1,Nat.pow_succ]; omega⟩
 have hw3 : w <= 60:=by rw [<- hw1]; exact BF (by omega)
 rw [hw1] at c2
 have hmask:=fun x=>Rx x hw3
 have hp0 : 1 <= 2 ^ w:=Nat.one_le_two_pow
 have hp60 : 2 ^ w <= 2 ^ 60:=Nat.pow_le_pow_right (by decide) hw3
 refine dO.lD (.r 1 (.s .n (.c (.r 2 (.s .n (.b (.b (.r 1 (.s (.b (.r 1 (.j .n .n))) .n)))))) .n))) lay mixed Tryz.func103 (by kernel_rfl) rfl (by kernel_rfl) rfl fun hok=>?_
 (try dsimp only[aP,aC]);(try dsimp only[aj]);conv=>whnf
 rw [e1]
 refine zA ?_;conv=>whnf
 refine And.intro (fun p8=>?_) (fun p8=>?_)
 ·have p8 : 8 <= h:=by omega
  have hw2:=hw2 p8
  (try dsimp only[aj]);conv=>whnf
  refine .pure _ _ ?_ ⟨rfl,rfl⟩ c2 fun _=>?_
  ·exact au _
  (try dsimp only[aj]);conv=>whnf
  refine ⟨by decide,?_⟩
  conv=>whnf
  refine ⟨eU (by omega) (by omega),?_⟩
  rw [e2]
  conv=>whnf
  refine zA ?_;conv=>whnf
  refine zA ?_;conv=>whnf
  refine zA ?_;conv=>whnf
  generalize hu : IntKind.u64.wrap (h : Int) = u0 at *
  obtain ⟨z,hz⟩ : ∃ z,a + h / 4 * 2 - 1 = z:=⟨_,rfl⟩
  rw [show (a : Int) + ((h / 4 : Nat) : Int) * 2 - 1 = ((z : Nat) : Int) by omega]
  refine aN.of <| (aA.inv (.refl _ _) (fun x : Nat × Int × List Int=>(z <= x.1 /\ x.1 <= z + 3) /\ List.Perm x.2.2 l) (fun x=>[(11,.int .i64 (x.1 : Int))]) (fun x=>hpU cp x.2.2 x.2.1) (fun x=>z + 3 - x.1) (z,u0,l) ?_ ?_ ?_ ?_)
  ·exact ⟨by dsimp only; omega,.refl _⟩
  ·exact fun _=>rfl
  ·refine ⟨?_,.mk ?_ (by simp [ak])⟩
   ·all_goals exact wk
   ·all_goals exact wk
  rintro ⟨k,u,m⟩ ⟨hk,hp⟩ _
  dsimp only at hk hp ⊢
  have hml : m.length = n:=by rw [hp.length_eq,hl]
  (try dsimp only[aj]);conv=>whnf
  refine ⟨by decide,?_⟩
  conv=>whnf
  refine ⟨eU (by omega) (by omega),?_⟩
  rw [e2]
  conv=>whnf
  refine zA ?_;conv=>whnf
  refine zA ?_;conv=>whnf
  refine zA ?_;conv=>whnf
  refine And.intro (fun q=>?_) (fun q=>?_)
  ·(try dsimp only[aj]);conv=>whnf
   refine .rel _ (c_xor cp m u) fun R H' hq _=>?_
   obtain ⟨s,rfl,rfl⟩:=hq
   obtain ⟨o,ho,ho2⟩:=hmask s
   have e3 : IntKind.i64.wrap (dI .and .u64 s (IntKind.u64.wrap (((2 ^ w : Nat) : Int) - 1))) = (o : Int):=by
    rw [show (((2 ^ w : Nat) : Int) - 1) = ((2 ^ w - 1 : Nat) : Int) by omega,Jf (by omega),show ((2 ^ w - 1 : Nat) : Int) = ((2 ^ w : Nat) : Int) - 1 by omega,ho2]
    exact wrap64 (by omega) (by omega)
   (try dsimp only[aj]);conv=>whnf
   rw [e3]
   refine ⟨⟨{o : Nat // o < h},fun x=>[(12,.int .i64 (x.1 : Int)),(11,.int .i64 (k : Int)),(10,.int .u64 ((2 ^ w : Nat) : Int)),(8,.int .i64 (h : Int)),(9,.ptr 1 [] 0),(0,.ms 0 0 n cp 1),(1,.int .i64 (a : Int))],fun _=>hpU cp m s,?_,?_⟩⟩
   ·(try dsimp only[aj]);conv=>whnf
    refine And.intro (fun q2=>?_) (fun q2=>?_)
    ·(try dsimp only[aj]);conv=>whnf
     refine zA ?_;conv=>whnf
     rw [show (o : Int) - (h : Int) = ((o - h : Nat) : Int) by omega]
     (try dsimp only[aj]);conv=>whnf
     refine ⟨⟨o - h,by omega⟩,by simp [nextId],?_,.mk ?_ (by simp [ak])⟩
     ·all_goals exact wk
     ·all_goals exact wk
    ·(try dsimp only[aj]);conv=>whnf
     refine ⟨⟨o,by omega⟩,by simp [nextId],?_,.mk ?_ (by simp [ak])⟩
     ·all_goals exact wk
     ·all_goals exact wk
   clear ho ho2 e3
   rintro ⟨o,ho⟩ _
   dsimp only
   (try dsimp only[aj]);conv=>whnf
   refine aY.auto (by kernel_rfl) ?_;conv=>whnf
   refine zA ?_;conv=>whnf
   refine zA ?_;conv=>whnf
   refine ⟨by omega,?_⟩
   conv=>whnf
   refine aX (i:=a + o) (by omega) (by omega) ⟨rfl,?_⟩
   conv=>whnf
   refine ⟨by omega,?_⟩
   conv=>whnf
   refine aX (i:=k) (by omega) (by omega) ⟨rfl,?_⟩
   conv=>whnf
   refine ⟨by omega,?_⟩
   conv=>whnf
   refine ⟨by simp; omega,rfl,?_⟩
   conv=>whnf
   refine ⟨by omega,?_⟩
   conv=>whnf
   refine ⟨by simp; omega,rfl,?_⟩
   conv=>whnf
   refine zA ?_;conv=>whnf
   refine ⟨(k + 1,s,swp m k (a + o)),⟨by dsimp only; omega,(fP (by omega) (by omega)).trans hp⟩,?_,?_⟩
   ·refine ⟨?_,.mk ?_ (by simp [ak])⟩
    ·all_goals exact wk
    ·repeat' first|exact rfl|exact trivial|exact wR|exact lR _|apply aI
     all_goals (refine bM ?_; exact iJ (by omega) (by omega))
   ·exact (by omega : z + 3 - (k + 1) < z + 3 - k)
  ·(try dsimp only[aj]);conv=>whnf
   refine ⟨_,_,⟨rfl,m,hp,rfl⟩,?_⟩
   refine ⟨⟨_,_,.refl _ _,?_⟩⟩
   conv=>whnf
   refine ⟨?_,rfl,by simp [nextId],.mk ?_ (by simp [ak])⟩
   ·all_goals exact wk
   ·all_goals exact wk
 ·(try dsimp only[aj]);conv=>whnf
  refine ⟨_,_,⟨rfl,l,.refl _,rfl⟩,?_⟩
  refine ⟨⟨_,_,.refl _ _,?_⟩⟩
  conv=>whnf
  refine ⟨?_,rfl,by simp [nextId],.mk ?_ (by simp [ak])⟩
  ·all_goals exact wk
  ·all_goals exact wk

theorem c_pdq {cf : Int -> Int -> Int} {g : Nat} (hcf : zQ cf g) (n cp : Nat) (hN : n < 1152921504606846976) : ∀ (S a0 b0 Wq : Nat) (l : List Int),l.length = n -> a0 <= b0 -> b0 <= n -> Wq <= 100 -> b0 - a0 = S ->
  dO Tryz.prog 98 [.ms 0 0 n cp 1,.int .i64 a0,.int .i64 b0,.int .i64 Wq,.fn g []] (jW cp l) (LK cp l):=by
 intro S
 induction S using Nat.strongRecOn with
 | _ S ih =>
 intro a0 b0 Wq l hl hab0 hb0 hlim0 hS
 refine dO.lD (.r 2 (.b (.b (.b (.r 3 (.j .n (.r 1 (.j .n (.j .n .n))))))))) lay mixed Tryz.func98 (by kernel_rfl) rfl (by kernel_rfl) rfl fun hok=>?_
 (try dsimp only[aP,aC]);(try dsimp only[aj]);conv=>whnf
 refine aN.of <| (aA.inv (.refl _ _) (fun x : Nat × Nat × Nat × Bool × Bool × List Int=>(x.1 <= x.2.1 /\ x.2.1 <= n /\ x.2.1 - x.1 <= S /\ x.2.2.1 <= 100) /\ List.Perm x.2.2.2.2.2 l) (fun x=>[(1,.int .i64 (x.1 : Int)),(2,.int .i64 (x.2.1 : Int)),(3,.int .i64 (x.2.2.1 : Int)),(10,.bool x.2.2.2.1),(11,.bool x.2.2.2.2.1)]) (fun x=>jW cp x.2.2.2.2.2) (fun x=>x.2.1 - x.1) (a0,b0,Wq,true,true,l) ?_ ?_ ?_ ?_)
 ·exact ⟨by dsimp only; omega,.refl _⟩
 ·exact fun _=>rfl
 ·refine ⟨?_,.mk ?_ (by simp [ak])⟩
  ·all_goals exact wk
  ·all_goals exact wk
 rintro ⟨a,b,lim,wb,wp,m⟩ ⟨⟨hab,hb,hs,hlim⟩,hp⟩ _
 dsimp only at hab hb hs hlim hp ⊢
 have hml : m.length = n:=by rw [hp.length_eq,hl]
 obtain ⟨h,rfl⟩ : ∃ h,b = a + h:=⟨b - a,by omega⟩
 have e1 : ((a + h : Nat) : Int) - (a : Int) = (h : Int):=by omega
 (try dsimp only[aj]);conv=>whnf
 rw [e1]
 refine zA ?_;conv=>whnf
 refine And.intro (fun p12=>?_) (fun p12=>?_)
 ·(try dsimp only[aj]);conv=>whnf
  refine .gen _ _ (XY hcf n cp a (a + h) (by omega) (by omega) (by omega) m hml) fun _=>?_
  (try dsimp only[aj]);conv=>whnf
  refine ⟨_,_,⟨rfl,_,(F7 cf (a:=a) (b:=a + h) (l:=m) (by omega)).trans hp,rfl⟩,?_⟩
  refine ⟨⟨_,_,.refl _ _,?_⟩⟩
  conv=>whnf
  refine ⟨?_,rfl,by simp [nextId],.mk ?_ (by simp [ak])⟩
  ·all_goals exact wk
  ·all_goals exact wk
 have p12 : 12 < h:=by omega
 (try dsimp only[aj]);conv=>whnf
 refine And.intro (fun pl=>?_) (fun pl=>?_)
 ·(try dsimp only[aj]);conv=>whnf
  refine .rel _ (YV hcf n cp a (a + h) (by omega) (by omega) (by omega) m hml) fun R H' hq _=>?_
  obtain ⟨rfl,l',hp',rfl⟩:=hq
  (try dsimp only[aj]);conv=>whnf
  refine ⟨_,_,⟨rfl,_,hp'.trans hp,rfl⟩,?_⟩
  refine ⟨⟨_,_,.refl _ _,?_⟩⟩
  conv=>whnf
  refine ⟨?_,rfl,by simp [nextId],.mk ?_ (by simp [ak])⟩
  ·all_goals exact wk
  ·all_goals exact wk
 have pl : 0 < lim:=by omega
 (try dsimp only[aj]);conv=>whnf
 refine ⟨⟨{x : Nat × List Int // x.1 <= 100 /\ List.Perm x.2 l},fun x=>[(0,.ms 0 0 n cp 1),(1,.int .i64 (a : Int)),(2,.int .i64 ((a + h : Nat) : Int)),(3,.int .i64 (x.1.1 : Int)),(4,.fn g []),(10,.bool wb),(11,.bool wp),(12,.int .i64 (h : Int))],fun x=>jW cp x.1.2,?_,?_⟩⟩
 ·(try dsimp only[aj]);conv=>whnf
  refine And.intro (fun q=>?_) (fun q=>?_)
  ·(try dsimp only[aj]);conv=>whnf
   refine .rel _ (Xl n cp a (a + h) hN (by omega) (by omega) m hml) fun R H' hq _=>?_
   obtain ⟨rfl,l',hp',rfl⟩:=hq
   (try dsimp only[aj]);conv=>whnf
   refine zA ?_;conv=>whnf
   rw [show (lim : Int) - 1 = ((lim - 1 : Nat) : Int) by omega]
   (try dsimp only[aj]);conv=>whnf
   refine ⟨⟨(lim - 1,l'),by dsimp only; omega,hp'.trans hp⟩,by simp [nextId],?_,.mk ?_ (by simp [ak])⟩
   ·all_goals exact wk
   ·all_goals exact wk
  ·(try dsimp only[aj]);conv=>whnf
   refine ⟨⟨(lim,m),hlim,hp⟩,by simp [nextId],?_,.mk ?_ (by simp [ak])⟩
   ·all_goals exact wk
   ·all_goals exact wk
 rintro ⟨⟨lim,m1⟩,hlim,hp1⟩ _
 dsimp only at hlim hp1 ⊢
 have ZQ : m1.length = n:=by rw [hp1.length_eq,hl]
 (try dsimp only[aj]);conv=>whnf
 refine .rel _ (Xa hcf n cp a (a + h) (by omega) m1 ZQ (by omega) (by omega)) fun R H' hq _=>?_
 obtain ⟨pv,hint,rfl,hpv,hhint,rfl⟩:=hq
 (try dsimp only[aj]);conv=>whnf
 refine ⟨⟨{x : Nat × Nat × List Int // (a <= x.1 /\ x.1 < a + h) /\ List.Perm x.2.2 l},fun x=>[(0,.ms 0 0 n cp 1),(1,.int .i64 (a : Int)),(2,.int .i64 ((a + h : Nat) : Int)),(3,.int .i64 (lim : Int)),(4,.fn g []),(10,.bool wb),(11,.bool wp),(12,.int .i64 (h : Int)),(13,.int .i64 (x.1.1 : Int)),(14,.int .i64 (x.1.2.1 : Int))],fun x=>jW cp x.1.2.2,?_,?_⟩⟩
 ·(try dsimp only[aj]);conv=>whnf
  refine And.intro (fun q=>?_) (fun q=>?_)
  ·(try dsimp only[aj]);conv=>whnf
   refine .rel _ (c_rev n cp a (a + h) (by omega) (by omega) (by omega) m1 ZQ) fun R H' hq _=>?_
   obtain ⟨rfl,l',hp',rfl⟩:=hq
   (try dsimp only[aj]);conv=>whnf
   refine zA ?_;conv=>whnf
   refine zA ?_;conv=>whnf
   refine zA ?_;conv=>whnf
   rw [show ((a + h : Nat) : Int) - 1 - ((pv : Int) - (a : Int)) = ((a + h - 1 - (pv - a) : Nat) : Int) by omega]
   (try dsimp only[aj]);conv=>whnf
   refine ⟨⟨(a + h - 1 - (pv - a),1,l'),by dsimp only; omega,hp'.trans hp1⟩,by simp [nextId],?_,.mk ?_ (by simp [ak])⟩
   ·all_goals exact wk
   ·all_goals exact wk
  ·(try dsimp only[aj]);conv=>whnf
   refine ⟨⟨(pv,hint,m1),hpv,hp1⟩,by simp [nextId],?_,.mk ?_ (by simp [ak])⟩
   ·all_goals exact wk
   ·all_goals exact wk
 rintro ⟨⟨pv,hint,m2⟩,hpv,hp2⟩ _
 dsimp only at hpv hp2 ⊢
 have ZP : m2.length = n:=by rw [hp2.length_eq,hl]
 (try dsimp only[aj]);conv=>whnf
 refine ⟨⟨{x : List Int // List.Perm x l},fun x=>[(0,.ms 0 0 n cp 1),(1,.int .i64 (a : Int)),(2,.int .i64 ((a + h : Nat) : Int)),(3,.int .i64 (lim : Int)),(4,.fn g []),(10,.bool wb),(11,.bool wp),(12,.int .i64 (h : Int)),(13,.int .i64 (pv : Int))],fun x=>jW cp x.1,?_,?_⟩⟩
 ·(try dsimp only[aj]);conv=>whnf
  refine And.intro (fun q1=>?_) (fun q1=>?_)
  ·(try dsimp only[aj]);conv=>whnf
   refine And.intro (fun q2=>?_) (fun q2=>?_)
   ·(try dsimp only[aj]);conv=>whnf
    refine And.intro (fun q3=>?_) (fun q3=>?_)
    ·(try dsimp only[aj]);conv=>whnf
     refine .rel _ (Q7 hcf n cp a (a + h) (by omega) (by omega) (by omega) m2 ZP) fun R H' hq _=>?_
     obtain ⟨B,hB,rfl,l',hp',rfl⟩:=hq
     rcases hB with rfl | rfl
     ·(try dsimp only[aj]);conv=>whnf
      refine ⟨_,_,⟨rfl,l',hp'.trans hp2,rfl⟩,?_⟩
      refine ⟨⟨_,_,.refl _ _,?_⟩⟩
      conv=>whnf
      refine ⟨?_,rfl,by simp [nextId],.mk ?_ (by simp [ak])⟩
      ·all_goals exact wk
      ·all_goals exact wk
     ·(try dsimp only[aj]);conv=>whnf
      refine ⟨⟨l',hp'.trans hp2⟩,by simp [nextId],?_,.mk ?_ (by simp [ak])⟩
      ·all_goals exact wk
      ·all_goals exact wk
    ·(try dsimp only[aj]);conv=>whnf
     refine ⟨⟨m2,hp2⟩,by simp [nextId],?_,.mk ?_ (by simp [ak])⟩
     ·all_goals exact wk
     ·all_goals exact wk
   ·(try dsimp only[aj]);conv=>whnf
    refine ⟨⟨m2,hp2⟩,by simp [nextId],?_,.mk ?_ (by simp [ak])⟩
    ·all_goals exact wk
    ·all_goals exact wk
  ·(try dsimp only[aj]);conv=>whnf
   refine ⟨⟨m2,hp2⟩,by simp [nextId],?_,.mk ?_ (by simp [ak])⟩
   ·all_goals exact wk
   ·all_goals exact wk
 rintro ⟨m3,hp3⟩ _
 dsimp only at hp3 ⊢
 have YG : m3.length = n:=by rw [hp3.length_eq,hl]
 (try dsimp only[aj]);conv=>whnf
 refine aY.auto (by kernel_rfl) ?_;conv=>whnf
 refine And.intro (fun q1=>?_) (fun q1=>?_)
 ·have q1 : 0 < a:=by omega
  conv=>whnf
  refine zA ?_;conv=>whnf
  refine ⟨by omega,?_⟩
  conv=>whnf
  refine aX (i:=a - 1) (by omega) (by omega) ⟨rfl,?_⟩
  conv=>whnf
  refine ⟨by omega,?_⟩
  conv=>whnf
  refine aX (i:=pv) (by omega) (by omega) ⟨rfl,?_⟩
  conv=>whnf
  refine dV.pure _ _ ?_ ⟨rfl,rfl⟩ (hcf (m3.getD (a - 1) default) (m3.getD pv default)) ?_
  ·exact au _
  (try dsimp only[aj]);conv=>whnf
  refine And.intro (fun q2=>?_) (fun q2=>?_)
  ·(try dsimp only[aj]);conv=>whnf
   refine .rel _ (UC hcf n cp a (a + h) pv (by omega) (by omega) (by omega) hpv m3 YG) fun R H' hq _=>?_
   obtain ⟨i,hi,rfl,l',hp',rfl⟩:=hq
   (try dsimp only[aj]);conv=>whnf
   refine ⟨(i,a + h,lim,wb,wp,l'),⟨by dsimp only; omega,hp'.trans hp3⟩,?_,?_⟩
   ·refine ⟨?_,.mk ?_ (by simp [ak])⟩
    ·all_goals exact wk
    ·all_goals exact wk
   ·exact (by omega : a + h - i < a + h - a)
  ·(try dsimp only[aj]);conv=>whnf
   refine .rel _ (UD hcf n cp a (a + h) pv (by omega) (by omega) (by omega) hpv m3 YG) fun R H' hq _=>?_
   obtain ⟨j,B,⟨hj,hB⟩,rfl,l4,TT,rfl⟩:=hq
   obtain ⟨bb,hB⟩ : ∃ bb,le0 B (.bool bb):=by
    rcases hB with rfl | rfl
    ·exact ⟨true,rfl⟩
    ·exact ⟨false,rfl⟩
   have TT:=TT.trans hp3
   have TW : l4.length = n:=by rw [TT.length_eq,hl]
   (try dsimp only[aj]);conv=>whnf
   refine zA ?_;conv=>whnf
   refine zA ?_;conv=>whnf
   refine ⟨by decide,?_⟩
   conv=>whnf
   have e8 : 0 <= (h : Int).tdiv 8 /\ (h : Int).tdiv 8 <= h:=by
    rw [show (h : Int).tdiv 8 = ((h / 8 : Nat) : Int) from rfl]; omega
   refine ⟨eU (by omega) (by omega),?_⟩
   (try dsimp only[aj]);conv=>whnf
   refine And.intro (fun z=>?_) (fun z=>?_)
   ·(try dsimp only[aj]);conv=>whnf
    refine .rel _ (ih (j - a) (by omega) a j lim l4 TW (by omega) (by omega) hlim rfl) fun R H' hq _=>?_
    obtain ⟨rfl,l5,YF,rfl⟩:=hq
    (try dsimp only[aj]);conv=>whnf
    refine zA ?_;conv=>whnf
    refine ⟨(j + 1,a + h,lim,decide ((j : Int) - a ≥ (h : Int).tdiv 8),bb,l5),⟨by dsimp only; omega,YF.trans TT⟩,?_,?_⟩
    ·refine ⟨?_,.mk ?_ (by simp [ak])⟩
     ·repeat' first|exact rfl|exact trivial|exact wR|exact lR _|apply aI
      all_goals first | omega | (dsimp only; omega) | (show _ ↔ decide _ = true; rw [decide_eq_true_iff]; done) | exact hB | skip
     ·all_goals exact wk
    ·exact (by omega : (a + h) - (j + 1) < a + h - a)
   ·(try dsimp only[aj]);conv=>whnf
    refine zA ?_;conv=>whnf
    rw [show (j : Int) + 1 = ((j + 1 : Nat) : Int) by omega]
    refine .rel _ (ih (a + h - (j + 1)) (by omega) (j + 1) (a + h) lim l4 TW (by omega) (by omega) hlim rfl) fun R H' hq _=>?_
    obtain ⟨rfl,l5,YF,rfl⟩:=hq
    (try dsimp only[aj]);conv=>whnf
    refine ⟨(a,j,lim,decide (((a + h : Nat) : Int) - j ≥ (h : Int).tdiv 8),bb,l5),⟨by dsimp only; omega,YF.trans TT⟩,?_,?_⟩
    ·refine ⟨?_,.mk ?_ (by simp [ak])⟩
     ·repeat' first|exact rfl|exact trivial|exact wR|exact lR _|apply aI
      all_goals first | omega | (dsimp only; omega) | (show _ ↔ decide _ = true; rw [decide_eq_true_iff]; done) | exact hB | skip
     ·all_goals exact wk
    ·exact (by omega : (j) - (a) < a + h - a)
 ·(try dsimp only[aj]);conv=>whnf
  refine .rel _ (UD hcf n cp a (a + h) pv (by omega) (by omega) (by omega) hpv m3 YG) fun R H' hq _=>?_
  obtain ⟨j,B,⟨hj,hB⟩,rfl,l4,TT,rfl⟩:=hq
  obtain ⟨bb,hB⟩ : ∃ bb,le0 B (.bool bb):=by
   rcases hB with rfl | rfl
   ·exact ⟨true,rfl⟩
   ·exact ⟨false,rfl⟩
  have TT:=TT.trans hp3
  have TW : l4.length = n:=by rw [TT.length_eq,hl]
  (try dsimp only[aj]);conv=>whnf
  refine zA ?_;conv=>whnf
  refine zA ?_;conv=>whnf
  refine ⟨by decide,?_⟩
  conv=>whnf
  have e8 : 0 <= (h : Int).tdiv 8 /\ (h : Int).tdiv 8 <= h:=by
   rw [show (h : Int).tdiv 8 = ((h / 8 : Nat) : Int) from rfl]; omega
  refine ⟨eU (by omega) (by omega),?_⟩
  (try dsimp only[aj]);conv=>whnf
  refine And.intro (fun z=>?_) (fun z=>?_)
  ·(try dsimp only[aj]);conv=>whnf
   refine .rel _ (ih (j - a) (by omega) a j lim l4 TW (by omega) (by omega) hlim rfl) fun R H' hq _=>?_
   obtain ⟨rfl,l5,YF,rfl⟩:=hq
   (try dsimp only[aj]);conv=>whnf
   refine zA ?_;conv=>whnf
   refine ⟨(j + 1,a + h,lim,decide ((j : Int) - a ≥ (h : Int).tdiv 8),bb,l5),⟨by dsimp only; omega,YF.trans TT⟩,?_,?_⟩
   ·refine ⟨?_,.mk ?_ (by simp [ak])⟩
    ·repeat' first|exact rfl|exact trivial|exact wR|exact lR _|apply aI
     all_goals first | omega | (dsimp only; omega) | (show _ ↔ decide _ = true; rw [decide_eq_true_iff]; done) | exact hB | skip
    ·all_goals exact wk
   ·exact (by omega : (a + h) - (j + 1) < a + h - a)
  ·(try dsimp only[aj]);conv=>whnf
   refine zA ?_;conv=>whnf
   rw [show (j : Int) + 1 = ((j + 1 : Nat) : Int) by omega]
   refine .rel _ (ih (a + h - (j + 1)) (by omega) (j + 1) (a + h) lim l4 TW (by omega) (by omega) hlim rfl) fun R H' hq _=>?_
   obtain ⟨rfl,l5,YF,rfl⟩:=hq
   (try dsimp only[aj]);conv=>whnf
   refine ⟨(a,j,lim,decide (((a + h : Nat) : Int) - j ≥ (h : Int).tdiv 8),bb,l5),⟨by dsimp only; omega,YF.trans TT⟩,?_,?_⟩
   ·refine ⟨?_,.mk ?_ (by simp [ak])⟩
    ·repeat' first|exact rfl|exact trivial|exact wR|exact lR _|apply aI
     all_goals first | omega | (dsimp only; omega) | (show _ ↔ decide _ = true; rw [decide_eq_true_iff]; done) | exact hB | skip
    ·all_goals exact wk
   ·exact (by omega : (j) - (a) < a + h - a)

def Kz (l : List Int) : Nat -> List Int
 | 0=>[]
 | 1=>l.take 1
 | i + 2=>if l.getD (i + 1) default = l.getD i default then Kz l (i + 1) else Kz l (i + 1) ++ [l.getD (i + 1) default]

theorem Ky (l : List Int) {i : Nat} (h : 1 <= i) : Kz l (i + 1) = if l.getD i default = l.getD (i - 1) default then Kz l i else Kz l i ++ [l.getD i default]:=by
 obtain ⟨j,rfl⟩ : ∃ j,i = j + 1:=⟨i - 1,by omega⟩
 rfl

theorem yt {l : List Int} : ∀ {k : Nat},(∀ i,i + 1 < k -> l.getD (i + 1) default ≠ l.getD i default) -> k <= l.length -> Kz l k = l.take k
 | 0,_,_=>rfl
 | 1,_,_=>rfl
 | k + 2,h,hk=>by
   rw [Kz,if_neg (h k (by omega)),yt (fun i hi=>h i (by omega)) (by omega)]
   rw [List.take_succ_eq_append_getElem (show k + 1 < l.length by omega)]
   rw [List.getD_eq_getElem?_getD,List.getElem?_eq_getElem (by omega)]
   rfl

theorem U7 {α : Type} [Inhabited α] {f : α -> AV} {l : List α} {i o : Nat} {z : Int} {k : AV -> Prop} (hz : ((o + z.toNat : Nat) : Int) = (i : Int)) (h : i < l.length) (hk : k (f (l.getD i default))) : kE (l.map f) ((o + z.toNat : Nat) : Int) k:=by
 rw [hz]
 refine ⟨⟨f (l.getD i default),⟨by omega,?_⟩,hk⟩⟩
 simp [List.getD_eq_getElem?_getD,h]

theorem Rk (n cp : Nat) (hN : n < 1152921504606846976) (hcp : n <= cp) (l : List Int) (hl : l.length = n) :
  dO Tryz.prog 96 [.ms 0 0 n cp 1] (jW cp l) (fun R H'=>∃ (k : Nat) (l' : List Int),R = .ms 0 0 k cp 1 /\ H' = jW cp l' /\ k <= n /\ l'.length = n /\ l'.take k = Kz l n):=by
 refine dO.intro lay mixed Tryz.func96 (by kernel_rfl) rfl (by kernel_rfl) rfl fun hok=>?_
 (try dsimp only[aP,aC]);(try dsimp only[aj]);conv=>whnf
 refine And.intro (fun p=>?_) (fun p=>?_)
 ·(try dsimp only[aj]);conv=>whnf
  refine ⟨_,_,⟨n,l,rfl,rfl,Nat.le_refl _,hl,(yt (fun i hi=>by omega) (by omega)).symm⟩,?_⟩
  refine ⟨⟨_,_,.refl _ _,?_⟩⟩
  conv=>whnf
  refine ⟨?_,rfl,by simp [nextId],.mk ?_ (by simp [ak])⟩
  ·all_goals exact wk
  ·all_goals exact wk
 have p : 2 <= n:=by omega
 (try dsimp only[aj]);conv=>whnf
 refine aN.of <| (aA.inv (.refl _ _) (fun k : Nat=>(1 <= k /\ k <= n) /\ ∀ i,i + 1 < k -> l.getD (i + 1) default ≠ l.getD i default) (fun k=>[(3,.int .i64 (k : Int))]) (fun _=>jW cp l) (fun k=>n - k) 1 ?_ ?_ ?_ ?_)
 ·exact ⟨by omega,fun i hi=>by omega⟩
 ·exact fun _=>rfl
 ·refine ⟨?_,.mk ?_ (by simp [ak])⟩
  ·all_goals exact wk
  ·all_goals exact wk
 rintro k ⟨hk,hne⟩ _
 (try dsimp only[aj]);conv=>whnf
 refine And.intro (fun q=>?_) (fun q=>?_)
 ·have q : k < n:=by omega
  (try dsimp only[aj]);conv=>whnf
  refine aY.auto (by kernel_rfl) ?_;conv=>whnf
  refine ⟨by omega,?_⟩
  conv=>whnf
  refine aX (i:=k) rfl (by omega) ⟨rfl,?_⟩
  conv=>whnf
  refine zA ?_;conv=>whnf
  refine ⟨by omega,?_⟩
  conv=>whnf
  refine aX (i:=k - 1) (by omega) (by omega) ⟨rfl,?_⟩
  conv=>whnf
  refine And.intro (fun r=>?_) (fun r=>?_)
  ·(try dsimp only[aj]);conv=>whnf
   refine ⟨⟨by omega,by omega,Int.le_refl _⟩,by omega,?_⟩
   (try dsimp only[aj]);conv=>whnf
   obtain ⟨z,rfl⟩ : ∃ z,n = k + z:=⟨n - k,by omega⟩
   refine aN.of <| (aA.inv (.refl _ _) (fun x : Nat × Nat × List Int=>(1 <= x.2.1 /\ x.2.1 <= z /\ k <= x.1 /\ x.1 < k + x.2.1) /\ x.2.2.length = k + z /\ x.2.2.take x.1 = Kz l (k + x.2.1) /\ ∀ i,k + x.2.1 <= i + 1 -> x.2.2.getD i default = l.getD i default) (fun x=>[(3,.int .i64 (x.1 : Int)),(5,.int .i64 (x.2.1 : Int)),(4,.ms 0 k z (cp - k) 1)]) (fun x=>jW cp x.2.2) (fun x=>z - x.2.1) (k,1,l) ?_ ?_ ?_ ?_)
   ·refine ⟨by dsimp only; omega,hl,?_,fun i _=>rfl⟩
    show l.take k = Kz l (k + 1)
    rw [Ky l hk.1,if_pos r,yt hne (by omega)]
   ·exact fun _=>rfl
   ·refine ⟨?_,.mk ?_ (by simp [ak])⟩
    ·repeat' first|exact rfl|exact trivial|exact wR|exact lR _|apply aI
     all_goals (rw [show 0 + ((k : Nat) : Int).toNat = k by omega,show ((k + z : Nat) : Int).toNat - ((k : Nat) : Int).toNat = z by omega,show cp - ((k : Nat) : Int).toNat = cp - k by omega]; exact rfl)
    ·all_goals exact wk
   rintro ⟨k1,k2,m⟩ ⟨⟨hk1,hk2,hk3,hk4⟩,hml,htk,hdr⟩ _
   dsimp only at hk1 hk2 hk3 hk4 hml htk hdr ⊢
   (try dsimp only[aj]);conv=>whnf
   refine And.intro (fun u=>?_) (fun u=>?_)
   ·have hn1:=Ky l (i:=k + k2) (by omega)
    have d1:=hdr (k + k2) (by omega)
    have d2:=hdr (k + k2 - 1) (by omega)
    (try dsimp only[aj]);conv=>whnf
    refine aY.auto (by kernel_rfl) ?_;conv=>whnf
    refine ⟨by omega,?_⟩
    conv=>whnf
    refine U7 (i:=k + k2) (by omega) (by omega) ⟨rfl,?_⟩
    conv=>whnf
    refine zA ?_;conv=>whnf
    refine ⟨by omega,?_⟩
    conv=>whnf
    refine U7 (i:=k + k2 - 1) (by omega) (by omega) ⟨rfl,?_⟩
    conv=>whnf
    rw [d1,d2]
    refine And.intro (fun v=>?_) (fun v=>?_)
    ·(try dsimp only[aj]);conv=>whnf
     refine ⟨by omega,?_⟩
     conv=>whnf
     refine U7 (i:=k + k2) (by omega) (by omega) ⟨rfl,?_⟩
     conv=>whnf
     refine ⟨by omega,?_⟩
     conv=>whnf
     refine ⟨by simp; omega,rfl,?_⟩
     (try dsimp only[aj]);conv=>whnf
     refine zA ?_;conv=>whnf
     refine zA ?_;conv=>whnf
     rw [d1]
     rw [if_neg v] at hn1
     refine ⟨(k1 + 1,k2 + 1,m.set k1 (l.getD (k + k2) default)),⟨by dsimp only; omega,by simpa using hml,?_,fun i hi=>?_⟩,?_,?_⟩
     ·show (m.set k1 (l.getD (k + k2) default)).take (k1 + 1) = Kz l (k + k2 + 1)
      rw [hn1,<- htk,List.take_succ_eq_append_getElem (by simp; omega),List.take_set_of_le (by omega),List.getElem_set_self]
     ·dsimp only at hi ⊢
      rw [<- hdr i (by omega),List.getD_eq_getElem?_getD,List.getElem?_set_ne (by omega),<- List.getD_eq_getElem?_getD]
     ·refine ⟨?_,.mk ?_ (by simp [ak])⟩
      ·all_goals exact wk
      ·repeat' first|exact rfl|exact trivial|exact wR|exact lR _|apply aI
       all_goals (refine bM ?_; simp only [List.map_set,Nat.zero_add,Int.toNat_natCast]; rfl)
     ·exact (by omega : z - (k2 + 1) < z - k2)
    ·have v : l.getD (k + k2) default = l.getD (k + k2 - 1) default:=by simpa using v
     rw [if_pos v] at hn1
     (try dsimp only[aj]);conv=>whnf
     refine zA ?_;conv=>whnf
     refine ⟨(k1,k2 + 1,m),⟨by dsimp only; omega,hml,?_,fun i hi=>?_⟩,?_,?_⟩
     ·show m.take k1 = Kz l (k + k2 + 1)
      rw [hn1]; exact htk
     ·dsimp only at hi ⊢
      exact hdr i (by omega)
     ·refine ⟨?_,.mk ?_ (by simp [ak])⟩
      ·all_goals exact wk
      ·all_goals exact wk
     ·exact (by omega : z - (k2 + 1) < z - k2)
   ·obtain rfl : k2 = z:=by omega
    (try dsimp only[aj]);conv=>whnf
    refine ⟨⟨by omega,by omega,Int.le_refl _⟩,by omega,?_⟩
    conv=>whnf
    refine ⟨⟨by omega,by simp; omega⟩,?_⟩
    (try dsimp only[aj]);conv=>whnf
    refine ⟨⟨by omega,by omega,by omega⟩,by omega,?_⟩
    (try dsimp only[aj]);conv=>whnf
    refine ⟨_,_,⟨k1,m.take k1 ++ List.replicate (k + k2 - k1) 0 ++ m.drop (k1 + (k + k2 - k1)),rfl,rfl,by omega,by simp; omega,?_⟩,?_⟩
    ·rw [List.append_assoc,List.take_append_of_le_length (by simp; omega),List.take_take,Nat.min_self]; exact htk
    ·refine ⟨⟨_,_,.refl _ _,?_⟩⟩
     conv=>whnf
     refine ⟨?_,rfl,by simp [nextId],.mk ?_ (by simp [ak])⟩
     ·all_goals exact wk
     ·repeat' first|exact rfl|exact trivial|exact wR|exact lR _|apply aI
      all_goals (refine bM ?_; simp [List.map_take,List.map_drop]; rw [show ((k : Int) + (k2 : Int)).toNat = k + k2 by omega])
  ·(try dsimp only[aj]);conv=>whnf
   refine zA ?_;conv=>whnf
   refine ⟨k + 1,?_,?_,?_⟩
   ·refine ⟨by omega,fun i hi=>?_⟩
    by_cases e : i + 1 = k
    ·obtain rfl : i = k - 1:=by omega
     rw [show k - 1 + 1 = k by omega]; exact r
    ·exact hne i (by omega)
   ·refine ⟨?_,.mk ?_ (by simp [ak])⟩
    ·all_goals exact wk
    ·all_goals exact wk
   ·omega
 ·have hkn : k = n:=by omega
  subst hkn
  (try dsimp only[aj]);conv=>whnf
  refine ⟨_,_,⟨k,l,rfl,rfl,Nat.le_refl _,hl,(yt hne (by omega)).symm⟩,?_⟩
  refine ⟨⟨_,_,.refl _ _,?_⟩⟩
  conv=>whnf
  refine ⟨?_,rfl,by simp [nextId],.mk ?_ (by simp [ak])⟩
  ·all_goals exact wk
  ·all_goals exact wk

theorem aQ.toQ {P : Program} {f : Nat} {args : List AV} {H : Heap} {R : AV} {G : Heap} (h : aQ P f args H R G) {Q : AV -> Heap -> Prop} (hQ : Q R G) : dO P f args H Q :=
 ⟨h.1,fun c vs hr hv=>(h.2 c vs hr hv).mono fun _ _ ⟨v,d,h3⟩=>⟨v,d,R,G,hQ,h3⟩⟩

theorem YQ {cf : Int -> Int -> Int} {g : Nat} (hcf : zQ cf g) (n cp lim : Nat) (hn : n <= 12) (l : List Int) (hl : l.length = n) :
  aQ Tryz.prog 98 [.ms 0 0 n cp 1,.int .i64 0,.int .i64 n,.int .i64 lim,.fn g []] (jW cp l) (.dA []) (jW cp (Qw cf 0 n l)):=by
 have ci:=XY hcf n cp 0 n (by omega) (by omega) (Nat.le_refl _) l hl
 refine aQ.intro lay mixed Tryz.func98 (by kernel_rfl) rfl (by kernel_rfl) rfl fun hok=>?_
 (try dsimp only[aP,aC]);(try dsimp only[aj]);conv=>whnf
 refine aN.of <| (aA.inv (.refl _ _) (fun _ : Unit=>True) (fun _=>[(1,.int .i64 0),(2,.int .i64 n)]) (fun _=>jW cp l) (fun _=>0) () trivial ?_ ?_ ?_)
 ·exact fun _=>rfl
 ·refine ⟨?_,.mk ?_ (by simp [ak])⟩
  ·all_goals exact wk
  ·all_goals exact wk
 intro _ _ _
 (try dsimp only[aj]);conv=>whnf
 refine zA ?_;conv=>whnf
 refine bY (by omega) ?_
 (try dsimp only[aj]);conv=>whnf
 refine .gen _ _ ci fun _=>?_
 (try dsimp only[aj]);conv=>whnf
 refine ⟨⟨_,_,.refl _ _,?_⟩⟩
 conv=>whnf
 refine ⟨?_,rfl,by simp [nextId],.mk ?_ (by simp [ak])⟩
 ·all_goals exact wk
 ·all_goals exact wk

def X6 (cf : Int -> Int -> Int) (cp : Nat) (l : List Int) : AV -> Heap -> Prop:=fun R H'=>R = .dA [] /\ ∃ l',List.Perm l' l /\ (l.length <= 12 -> l' = Qw cf 0 l.length l) /\ H' = jW cp l'

theorem WW {cf : Int -> Int -> Int} {g : Nat} (hcf : zQ cf g) (n cp : Nat) (hN : n < 1152921504606846976) (l : List Int) (hl : l.length = n) :
  dO Tryz.prog 95 [.ms 0 0 n cp 1,.fn g []] (jW cp l) (X6 cf cp l):=by
 have cL:=UY n (by omega)
 have hb:=BF (x:=n) (n:=60) (by omega)
 have cP : dO Tryz.prog 98 [.ms 0 0 n cp 1,.int .i64 0,.int .i64 n,.int .i64 (iU n),.fn g []] (jW cp l) (X6 cf cp l):=by
  by_cases h12 : n <= 12
  ·refine aQ.toQ (YQ hcf n cp (iU n) h12 l hl) ⟨rfl,_,F7 cf (by omega),fun _=>by rw [hl],rfl⟩
  ·have:=c_pdq hcf n cp hN (n - 0) 0 n (iU n) l hl (by omega) (Nat.le_refl _) (by omega) rfl
   refine ⟨this.1,fun c vs hr hv=>(this.2 c vs hr hv).mono ?_⟩
   rintro _ _ ⟨v,d,R,G,⟨h1,l',h2,h3⟩,h4⟩
   exact ⟨v,d,R,G,⟨h1,l',h2,fun h=>absurd h (by omega),h3⟩,h4⟩
 generalize iU n = B at *
 refine dO.intro lay mixed Tryz.func95 (by kernel_rfl) rfl (by kernel_rfl) rfl fun hok=>?_
 (try dsimp only[aP,aC]);(try dsimp only[aj]);conv=>whnf
 rw [Jf (by omega)]
 refine .pure _ _ ?_ ⟨rfl,rfl⟩ cL fun _=>?_
 ·exact au _
 (try dsimp only[aj]);conv=>whnf
 refine .rel _ cP fun R H' hq _=>?_
 obtain ⟨rfl,l',h1,h2,rfl⟩:=hq
 (try dsimp only[aj]);conv=>whnf
 refine ⟨_,_,⟨rfl,l',h1,h2,rfl⟩,?_⟩
 refine ⟨⟨_,_,.refl _ _,?_⟩⟩
 conv=>whnf
 refine ⟨?_,rfl,by simp [nextId],.mk ?_ (by simp [ak])⟩
 ·all_goals exact wk
 ·all_goals exact wk

theorem YU {g : Nat} : aQ Tryz.prog 101 [.sl 1 [] .no,.int .i64 0,.int .i64 0,.fn g []] [] (.dA []) []:=by
 refine aQ.intro lay mixed Tryz.func101 (by kernel_rfl) rfl (by kernel_rfl) rfl fun hok=>?_
 (try dsimp only[aP,aC]);(try dsimp only[aj]);conv=>whnf
 refine zA ?_;conv=>whnf
 refine aN.of <| (aA.inv (.refl _ _) (fun _ : Unit=>True) (fun _=>[(8,.int .i64 1)]) (fun _=>[]) (fun _=>0) () trivial ?_ ?_ ?_)
 ·exact fun _=>rfl
 ·refine ⟨?_,.mk ?_ (by simp [ak])⟩
  ·all_goals exact wk
  ·all_goals exact wk
 intro _ _ _
 (try dsimp only[aj]);conv=>whnf
 refine bN (by omega) ?_
 (try dsimp only[aj]);conv=>whnf
 refine ⟨⟨_,_,.refl _ _,?_⟩⟩
 conv=>whnf
 refine ⟨?_,rfl,by simp [nextId],.mk ?_ (by simp [ak])⟩
 ·all_goals exact wk
 ·all_goals exact wk

theorem YR {g : Nat} (lim : Nat) : aQ Tryz.prog 98 [.sl 1 [] .no,.int .i64 0,.int .i64 0,.int .i64 lim,.fn g []] [] (.dA []) []:=by
 refine aQ.intro lay mixed Tryz.func98 (by kernel_rfl) rfl (by kernel_rfl) rfl fun hok=>?_
 (try dsimp only[aP,aC]);(try dsimp only[aj]);conv=>whnf
 refine aN.of <| (aA.inv (.refl _ _) (fun _ : Unit=>True) (fun _=>[(1,.int .i64 0),(2,.int .i64 0)]) (fun _=>[]) (fun _=>0) () trivial ?_ ?_ ?_)
 ·exact fun _=>rfl
 ·refine ⟨?_,.mk ?_ (by simp [ak])⟩
  ·all_goals exact wk
  ·all_goals exact wk
 intro _ _ _
 (try dsimp only[aj]);conv=>whnf
 refine zA ?_;conv=>whnf
 refine bY (by omega) ?_
 (try dsimp only[aj]);conv=>whnf
 refine .pure _ _ ?_ ⟨rfl,rfl⟩ (YU (g:=g)) fun _=>?_
 ·exact au _
 (try dsimp only[aj]);conv=>whnf
 refine ⟨⟨_,_,.refl _ _,?_⟩⟩
 conv=>whnf
 refine ⟨?_,rfl,by simp [nextId],.mk ?_ (by simp [ak])⟩
 ·all_goals exact wk
 ·all_goals exact wk

theorem Uw {g : Nat} : aQ Tryz.prog 95 [.sl 1 [] .no,.fn g []] [] (.dA []) []:=by
 have cL:=UY 0 (by omega)
 refine aQ.intro lay mixed Tryz.func95 (by kernel_rfl) rfl (by kernel_rfl) rfl fun hok=>?_
 (try dsimp only[aP,aC]);(try dsimp only[aj]);conv=>whnf
 refine .pure _ _ ?_ ⟨rfl,rfl⟩ cL fun _=>?_
 ·exact au _
 (try dsimp only[aj]);conv=>whnf
 refine .pure _ _ ?_ ⟨rfl,rfl⟩ (YR (g:=g) (iU 0)) fun _=>?_
 ·exact au _
 (try dsimp only[aj]);conv=>whnf
 refine ⟨⟨_,_,.refl _ _,?_⟩⟩
 conv=>whnf
 refine ⟨?_,rfl,by simp [nextId],.mk ?_ (by simp [ak])⟩
 ·all_goals exact wk
 ·all_goals exact wk

theorem NI : aQ Tryz.prog 96 [.sl 1 [] .no] [] (.sl 1 [] .no) []:=by
 refine aQ.intro lay mixed Tryz.func96 (by kernel_rfl) rfl (by kernel_rfl) rfl fun hok=>?_
 (try dsimp only[aP,aC]);(try dsimp only[aj]);conv=>whnf
 refine bY (by decide) ?_
 (try dsimp only[aj]);conv=>whnf
 refine ⟨⟨_,_,.refl _ _,?_⟩⟩
 conv=>whnf
 refine ⟨?_,rfl,by simp [nextId],.mk ?_ (by simp [ak])⟩
 ·all_goals exact wk
 ·all_goals exact wk

theorem UU (l : List Int) (hN : l.length <= 1000000000) : dO Tryz.prog 61 [.sl 1 (l.map (.int .i64)) .no] [] (fun R H'=>(l = [] /\ R = .sl 1 [] .no /\ H' = []) \/ ∃ cp,l.length <= cp /\ cp <= maxL /\ R = .ms 0 0 l.length cp 1 /\ H' = jW cp l):=by
 refine dO.intro lay mixed Tryz.func61 (by kernel_rfl) rfl (by kernel_rfl) rfl fun hok=>?_
 (try dsimp only[aP,aC]);(try dsimp only[aj]);conv=>whnf
 intro b hb
 (try dsimp only[aj]);conv=>whnf
 refine And.intro (fun h=>?_) (fun h=>?_)
 ·have hl : l = []:=by simpa using hb h
  (try dsimp only[aj]);conv=>whnf
  refine ⟨_,_,.inl ⟨hl,rfl,rfl⟩,?_⟩
  refine ⟨⟨_,_,.refl _ _,?_⟩⟩
  conv=>whnf
  refine ⟨?_,rfl,by simp [nextId],.mk ?_ (by simp [ak])⟩
  ·all_goals exact wk
  ·all_goals exact wk
 ·(try dsimp only[aj]);conv=>whnf
  by_cases hl : l = []
  ·subst hl
   refine .pure (by simp [maxL]) (by simp) ?_
   (try dsimp only[aj]);conv=>whnf
   refine ⟨_,_,.inl ⟨rfl,rfl,rfl⟩,?_⟩
   refine ⟨⟨_,_,.refl _ _,?_⟩⟩
   conv=>whnf
   refine ⟨?_,rfl,by simp [nextId],.mk ?_ (by simp [ak])⟩
   ·all_goals exact wk
   ·all_goals exact wk
  ·refine .wr (by simpa using hl) (by simp [maxL]; omega) (by simp; omega) ?_
   intro cp h1 h2
   rw [List.length_map,List.length_nil,Nat.zero_add] at h1 ⊢
   (try dsimp only[aj]);conv=>whnf
   refine ⟨_,_,.inr ⟨cp,h1,h2,rfl,rfl⟩,?_⟩
   refine ⟨⟨_,_,.refl _ _,?_⟩⟩
   conv=>whnf
   refine ⟨?_,rfl,by simp [nextId],.mk ?_ (by simp [ak])⟩
   ·all_goals exact wk
   ·all_goals exact wk

def Yl (l : List Int) : List Int:=Kz (Qw Nu 0 l.length l) l.length

theorem O7 (l : List Int) : ∀ (i : Nat),i <= l.length -> ∀ x,x ∈ Kz l i ↔ x ∈ l.take i
 | 0,_,x=>by simp [Kz]
 | 1,_,x=>by simp [Kz]
 | i + 2,h,x=>by
   have ih:=O7 l (i + 1) (by omega)
   have e1 : l.getD (i + 1) default = l[i + 1]'(by omega):=by rw [List.getD_eq_getElem?_getD,List.getElem?_eq_getElem (by omega)]; rfl
   have e2 : l.getD i default = l[i]'(by omega):=by rw [List.getD_eq_getElem?_getD,List.getElem?_eq_getElem (by omega)]; rfl
   rw [List.take_succ_eq_append_getElem (show i + 1 < l.length by omega),List.mem_append,List.mem_singleton]
   unfold Kz
   split
   ·rename_i e
    rw [ih x]
    refine ⟨.inl,?_⟩
    rintro (h1 | h1)
    ·exact h1
    ·rw [h1,<- e1,e,e2]
     exact List.mem_take_iff_getElem.2 ⟨i,by omega,rfl⟩
   ·rw [List.mem_append,List.mem_singleton,ih x,e1]

def SrtQ (l : List Int) : AV -> Heap -> Prop:=fun R H'=>H' = [] /\ dD 0 R = true /\ ∃ m : List Int,R = .sl 1 (m.map (.int .i64)) .no /\ m.length <= l.length /\ (∀ x,x ∈ m ↔ x ∈ l) /\ (l.length <= 12 -> m = Yl l)

theorem KN (l : List Int) (hN : l.length <= 1000000000) : dO Tryz.prog 88 [.sl 1 (l.map (.int .i64)) .no] [] (SrtQ l):=by
 have cc:=NJ
 refine dO.intro lay mixed Tryz.func88 (by kernel_rfl) rfl (by kernel_rfl) rfl fun hok=>?_
 (try dsimp only[aP,aC]);(try dsimp only[aj]);conv=>whnf
 refine .rel _ (UU l hN) fun R H' hq _=>?_
 rcases hq with ⟨rfl,rfl,rfl⟩ | ⟨cp,h1,h2,rfl,rfl⟩
 ·(try dsimp only[aj]);conv=>whnf
  refine .pure _ _ ?_ ⟨rfl,rfl⟩ (Uw (g:=66)) fun _=>?_
  ·exact au _
  (try dsimp only[aj]);conv=>whnf
  refine .pure _ _ ?_ ⟨rfl,rfl⟩ NI fun _=>?_
  ·exact au _
  (try dsimp only[aj]);conv=>whnf
  refine ⟨_,_,⟨rfl,rfl,[],rfl,by simp,by simp,fun _=>rfl⟩,?_⟩
  refine ⟨⟨_,_,.refl _ _,?_⟩⟩
  conv=>whnf
  refine ⟨?_,rfl,by simp [nextId],.mk ?_ (by simp [ak])⟩
  ·all_goals exact wk
  ·all_goals exact wk
 ·(try dsimp only[aj]);conv=>whnf
  refine .rel _ (WW (cf:=Nu) NJ l.length cp (by omega) l rfl) fun R H' hq _=>?_
  obtain ⟨rfl,l2,p2,e2,rfl⟩:=hq
  have hl2:=p2.length_eq
  (try dsimp only[aj]);conv=>whnf
  refine .rel _ (Rk l.length cp (by omega) h1 l2 hl2) fun R H' hq _=>?_
  obtain ⟨k,l3,rfl,rfl,hk,hl3,htk⟩:=hq
  have hm : ∀ x,x ∈ l3.take k ↔ x ∈ l:=fun x=>by rw [htk,O7 l2 l.length (by omega),List.take_of_length_le (by omega)]; exact p2.mem_iff
  have hb : ∀ m : List Int,dD 0 (.sl 1 (m.map (AV.int .i64)) .no) = true:=fun m=>by
   induction m <;> simp_all [dD]
  (try dsimp only[aj]);conv=>whnf
  refine ⟨.sl 1 ((l3.take k).map (.int .i64)) .no,[],⟨rfl,hb _,l3.take k,rfl,by simp; omega,hm,fun h=>?_⟩,?_⟩
  ·rw [htk,e2 h]; rfl

  refine ⟨⟨_,_,.freeze 2 0 _ _ _ _ _ _ rfl rfl ?_ (.refl _ _),?_⟩⟩
  ·simp; omega
  conv=>whnf
  refine ⟨?_,rfl,by simp [nextId],.mk ?_ (by simp [ak])⟩
  ·repeat' first|exact rfl|exact trivial|exact wR|exact lR _|apply aI
   all_goals (refine bM ?_; simp [List.map_take])
  ·all_goals exact wk

def lq (a b : Int) : Bool:=decide (dI .andNot .i64 (oh a) b = 0)

theorem YP (a b : Int) : aQ Tryz.prog 90 [.int .i64 a,.int .i64 b] [] (.bool (lq a b)) []:=by
 have c1:=KU a
 have e : lq a b = decide (dI .andNot .i64 (oh a) b = 0):=rfl
 rw [e]
 generalize oh a = x at *
 refine aQ.intro lay mixed Tryz.func90 (by kernel_rfl) rfl (by kernel_rfl) rfl fun hok=>?_
 (try dsimp only[aP,aC]);(try dsimp only[aj]);conv=>whnf
 refine .pure _ _ ?_ ⟨rfl,rfl⟩ c1 fun _=>?_
 ·exact au _
 (try dsimp only[aj]);conv=>whnf
 refine fM ?_;(conv=>whnf);refine ⟨?_,rfl⟩;conv=>whnf
 simp

theorem YN {s : Int} (h0 : 0 <= s) (h1 : s <= 16777215) : aQ Tryz.prog 87 [.int .i64 s] [] .tt []:=by
 refine aQ.intro lay mixed Tryz.func87 (by kernel_rfl) rfl (by kernel_rfl) rfl fun hok=>?_
 (try dsimp only[aP,aC]);(try dsimp only[aj]);conv=>whnf
 refine And.intro (fun _=>?_) (fun p=>absurd h0 p)
 (try dsimp only[aj]);conv=>whnf
 refine fM ?_;(conv=>whnf);refine ⟨?_,rfl⟩;conv=>whnf
 exact h1

theorem jq (l : List Int) (g : Nat) (cap : List AV) (p : Int -> Bool) (H : Heap) (hg : ∀ x ∈ l,aQ Tryz.prog g (.int .i64 x :: cap) H (.bool (p x)) H) :
  aQ Tryz.prog 31 [.sl 1 (l.map (.int .i64)) .no,.fn g cap] H (.bool (l.any p)) H:=by
 refine aQ.intro lay mixed Tryz.func31 (by kernel_rfl) rfl (by kernel_rfl) rfl fun hok=>?_
 conv=>whnf
 refine .gen _ _ (kS l g cap p H hg) fun _=>?_
 conv=>whnf
 (refine jY.same ?_;(conv=>whnf);refine ⟨?_,rfl⟩;(conv=>whnf))
 exact JK _ l

theorem UE (s t : Int) : aQ Tryz.prog 89 [.int .i64 t,.cp (.int .i64 s)] [] (.bool (lq t s)) []:=by
 have c1:=YP t s
 generalize lq t s = b at *
 refine aQ.intro lay mixed Tryz.func89 (by kernel_rfl) rfl (by kernel_rfl) rfl fun hok=>?_
 (try dsimp only[aP,aC]);(try dsimp only[aj]);conv=>whnf
 refine .pure _ _ ?_ ⟨rfl,rfl⟩ c1 fun _=>?_
 ·exact au _
 (try dsimp only[aj]);conv=>whnf
 refine fM ?_;(conv=>whnf);refine ⟨?_,rfl⟩;conv=>whnf
 all_goals exact wk

def dh (out : List Int) (s : Int) : List Int:=if out.any (fun t=>lq t s) then out else out ++ [s]
def minS (l : List Int) : List Int:=(Yl l).foldl dh []

structure Bd (l m : List Int) : Prop where
 len : m.length <= l.length
 sub : ∀ x,x ∈ m -> x ∈ l
 cov : ∀ x,x ∈ l -> ∃ y,y ∈ m /\ lq y x = true
 ex : l.length <= 12 -> m = minS l

theorem Y2 (x : Int) {n : Nat} (hn : n <= 24) : BitVec.ofInt 64 (dI .and .i64 x ((2 ^ n : Nat) - 1 : Int)) = BitVec.ofInt 64 x &&& BitVec.ofInt 64 ((2 ^ n : Nat) - 1 : Int):=by
 have hp : 1 <= 2 ^ n:=Nat.one_le_two_pow
 have hp2 : 2 ^ n <= 2 ^ 24:=Nat.pow_le_pow_right (by decide) hn
 have hlt : (BitVec.ofInt 64 x &&& BitVec.ofInt 64 ((2 ^ n : Nat) - 1 : Int)).toNat <= 2 ^ n - 1:=by
  rw [show (((2 ^ n : Nat) : Int) - 1) = ((2 ^ n - 1 : Nat) : Int) by omega,kG,BitVec.toNat_and,BitVec.toNat_ofNat,Nat.mod_eq_of_lt (by omega)]
  exact Nat.and_le_right
 simp only [dI]
 show BitVec.ofInt 64 (IntKind.wrap .i64 ((BitVec.ofInt 64 x &&& BitVec.ofInt 64 ((2 ^ n : Nat) - 1 : Int)).toNat : Int)) = _
 generalize BitVec.ofInt 64 x &&& BitVec.ofInt 64 ((2 ^ n : Nat) - 1 : Int) = w at *
 rw [wrap64 (by omega) (by omega)]
 simp

theorem YK (x : Int) : BitVec.ofInt 64 (oh x) = BitVec.ofInt 64 x &&& BitVec.ofInt 64 16777215:=Y2 x (n:=24) (by omega)

theorem Qa {x : Int} : lq x x = true:=by
 unfold lq
 simp only [decide_eq_true_eq]
 have h3 : (BitVec.ofInt 64 (oh x)) &&& ~~~(BitVec.ofInt 64 x) = 0#64:=by
  rw [YK]
  ext i
  simp
  intro a b
  simp [a]
 simp only [dI]
 show IntKind.wrap .i64 ((BitVec.ofInt 64 (oh x) &&& ~~~ (BitVec.ofInt 64 x)).toNat : Int) = _
 rw [h3]
 decide

theorem jy {a b : Nat} (ha : a < 16777216) : lq a b = true ↔ ∀ i,i < 24 -> a.testBit i = true -> b.testBit i = true:=by
 unfold lq
 rw [O8 (by omega) (by omega),aU (by omega)]
 simp only [decide_eq_true_eq]
 refine ⟨fun h i hi hb=>?_,fun h=>?_⟩
 ·have h0 : (aJ a b).testBit i = false:=by rw [show aJ a b = 0 by omega]; simp
  rw [jg (by omega),hb] at h0
  simpa using h0
 ·have : aJ a b = 0:=by
   apply Nat.eq_of_testBit_eq
   intro i
   rw [jg (by omega),Nat.zero_testBit]
   by_cases hi : i < 24
   ·cases hb : a.testBit i
    ·rfl
    ·rw [h i hi hb]; rfl
   ·have : a.testBit i = false:=Nat.testBit_lt_two_pow (Nat.lt_of_lt_of_le (show a < 2 ^ 24 from ha) (Nat.pow_le_pow_right (by omega) (by omega)))
    rw [this]; rfl
  omega

theorem Wn {m : List Int} : ∀ (k : List Int) (o : List Int),(∀ x,x ∈ k.foldl dh o -> x ∈ o \/ x ∈ k) /\ (∀ x,x ∈ o -> x ∈ k.foldl dh o) /\ (∀ x,x ∈ k -> ∃ y,y ∈ k.foldl dh o /\ lq y x = true) /\ (k.foldl dh o).length <= o.length + k.length
 | [],o=>by simp
 | s :: k,o=>by
   obtain ⟨h1,h2,h3,h4⟩:=Wn (m:=m) k (dh o s)
   have hs : ∃ y,y ∈ dh o s /\ lq y s = true:=by
    unfold dh; split
    ·rename_i h; obtain ⟨y,hy,h⟩:=List.any_eq_true.1 h; exact ⟨y,hy,h⟩
    ·exact ⟨s,by simp,Qa⟩
   have ho : ∀ x,x ∈ o -> x ∈ dh o s:=by intro x hx; unfold dh; split <;> simp [hx]
   have hm : ∀ x,x ∈ dh o s -> x ∈ o \/ x = s:=by intro x hx; unfold dh at hx; split at hx <;> simp_all
   have hl : (dh o s).length <= o.length + 1:=by unfold dh; split <;> simp
   refine ⟨fun x hx=>?_,fun x hx=>h2 x (ho x hx),fun x hx=>?_,?_⟩
   ·rcases h1 x hx with h | h
    ·rcases hm x h with h | rfl
     ·exact .inl h
     ·exact .inr (by simp)
    ·exact .inr (by simp [h])
   ·rcases List.mem_cons.1 hx with rfl | hx
    ·obtain ⟨y,hy,h⟩:=hs; exact ⟨y,h2 y hy,h⟩
    ·exact h3 x hx
   ·simp only [List.foldl_cons,List.length_cons]; omega

theorem OJ {l k : List Int} (h1 : k.length <= l.length) (h2 : ∀ x,x ∈ k ↔ x ∈ l) (h3 : l.length <= 12 -> k = Yl l) : Bd l (k.foldl dh []):=by
 obtain ⟨a1,a2,a3,a4⟩:=Wn (m:=[]) k []
 refine ⟨by simp at a4; omega,fun x hx=>?_,fun x hx=>a3 x ((h2 x).2 hx),fun h=>by rw [h3 h]; rfl⟩
 rcases a1 x hx with h | h
 ·cases h
 ·exact (h2 x).1 h

theorem Q9 (l : List Int) (hN : l.length <= 1000000000) : dO Tryz.prog 72 [.sl 1 (l.map (.int .i64)) .no] [] (fun R H'=>H' = [] /\ ∃ m,R = .sl 1 (m.map (.int .i64)) .no /\ Bd l m):=by
 have cs:=KN l hN
 refine dO.lD (.r 2 (.s (.s .n (.b (.b (.r 2 (.s (.b (.r 1 (.f [1] .n))) .n))))) .n)) lay mixed Tryz.func72 (by kernel_rfl) rfl (by kernel_rfl) rfl fun hok=>?_
 (try dsimp only[aP,aC]);(try dsimp only[aj]);conv=>whnf
 refine .rel _ cs fun R H' hq _=>?_
 obtain ⟨rfl,-,k,rfl,hk1,hk2,hk3⟩:=hq
 have hM:=OJ hk1 hk2 hk3
 (try dsimp only[aj]);conv=>whnf
 refine aN.of <| (aA.inv (.grow 3 1 [] .aV rfl (.inl ⟨rfl,rfl⟩) (.refl _ _)) (fun i : Nat=>i <= k.length) (fun i=>[(9,.int .i64 (i : Int)),(3,.sl 1 (((k.take i).foldl dh []).map (.int .i64)) (.own 0))]) (fun i=>[(0,.tok 1 ((k.take i).foldl dh []).length)]) (fun i=>k.length - i) 0 (Nat.zero_le _) ?_ ?_ ?_)
 ·exact fun _=>rfl
 ·refine ⟨?_,.mk ?_ (by simp [ak])⟩
  ·all_goals exact wk
  ·all_goals exact wk
 intro i hi _
 (try dsimp only[aj]);conv=>whnf
 refine And.intro (fun g=>?_) (fun g=>?_)
 ·have hlt : i < k.length:=by simpa using g
  have hst : (k.take (i + 1)).foldl dh [] = dh ((k.take i).foldl dh []) k[i]:=iY hlt
  have hlen:=(Wn (m:=[]) (k.take i) []).2.2.2
  rw [List.length_take] at hlen
  simp only [List.length_nil,Nat.zero_add] at hlen
  (try dsimp only[aj]);conv=>whnf
  refine iq hlt ?_
  generalize k[i] = x at *
  generalize (k.take i).foldl dh [] = o at *
  have hc:=jq o 89 [.cp (.int .i64 x)] (fun t=>lq t x) [] (fun t _=>UE x t)
  (try dsimp only[aj]);conv=>whnf
  refine ⟨⟨rfl,rfl⟩,?_⟩
  (try dsimp only[aj]);conv=>whnf
  refine .pure _ _ ?_ ⟨rfl,rfl⟩ hc fun _=>?_
  ·all_goals exact wk
  (try dsimp only[aj]);conv=>whnf
  generalize hab : (o.any fun t=>lq t x) = b
  refine And.intro (fun ha=>?_) (fun ha=>?_)
  ·have hf : b = false:=by simpa using ha
   subst hf
   rw [show dh o x = o ++ [x] from if_neg (by rw [hab]; exact Bool.false_ne_true)] at hst
   (try dsimp only[aj]);conv=>whnf
   refine ⟨by rw [List.length_map],.mk (by simp [maxL]; omega) (by simp; omega) ?_⟩
   (try dsimp only[aj]);conv=>whnf
   refine zA ?_;conv=>whnf
   refine ⟨i + 1,?_,?_,?_⟩
   ·exact hlt
   ·rw [hst]
    refine ⟨?_,.mk ?_ (by simp [ak])⟩
    ·repeat' first|exact rfl|exact trivial|exact wR|exact lR _|apply aI
     all_goals first | (refine bM ?_; rw [List.map_append]; rfl) | (simp; done) | skip
    ·repeat' first|exact rfl|exact trivial|exact wR|exact lR _|apply aI
     all_goals first | (refine bM ?_; rw [List.map_append]; rfl) | (simp; done) | skip
   ·omega
  ·have hf : b = true:=by simpa using ha
   subst hf
   rw [show dh o x = o from if_pos hab] at hst
   (try dsimp only[aj]);conv=>whnf
   refine zA ?_;conv=>whnf
   refine ⟨i + 1,?_,?_,?_⟩
   ·exact hlt
   ·rw [hst]
    refine ⟨?_,.mk ?_ (by simp [ak])⟩
    ·all_goals exact wk
    ·all_goals exact wk
   ·omega
 ·have hk : i = k.length:=by have : ¬ i < k.length:=by simpa using g
                             omega
  subst hk
  rw [List.take_length]
  (try dsimp only[aj]);conv=>whnf
  refine ⟨_,_,⟨rfl,_,rfl,hM⟩,?_⟩
  refine ⟨⟨_,_,.refl _ _,?_⟩⟩
  conv=>whnf
  refine ⟨?_,rfl,by simp [nextId],.mk ?_ (by simp [ak])⟩
  ·all_goals exact wk
  ·all_goals exact wk

abbrev iA (l : List Int) : AV:=.sl 1 (l.map (.int .i64)) .no
abbrev lA (l : List (List Int)) : AV:=.sl 1 (l.map iA) .no

structure bQ (l : List Int) : Prop where
 len : l.length <= 1024
 val : ∀ s,s ∈ l -> 0 <= s /\ s <= 16777215

theorem Bz (ls : List (List Int)) (h : ∀ l,l ∈ ls -> bQ l) (hn : ls.length <= 1000) : aQ Tryz.prog 71 [lA ls] [] .bH []:=by
 refine aQ.intro lay mixed Tryz.func71 (by kernel_rfl) rfl (by kernel_rfl) rfl fun hok=>?_
 (try dsimp only[aP,aC]);(try dsimp only[aj]);conv=>whnf
 refine aN.of <| (aA.inv (.refl _ _) (fun i : Nat=>i <= ls.length) (fun i=>[(9,.int .i64 (i : Int))]) (fun _=>[]) (fun i=>ls.length - i) 0 (Nat.zero_le _) ?_ ?_ ?_)
 ·exact fun _=>rfl
 ·refine ⟨?_,.mk ?_ (by simp [ak])⟩
  ·all_goals exact wk
  ·all_goals exact wk
 intro i hi _
 (try dsimp only[aj]);conv=>whnf
 refine And.intro (fun g=>?_) (fun g=>?_)
 ·have hlt : i < ls.length:=by simpa using g
  have ho:=h _ (List.getElem_mem hlt)
  have hl:=ho.len
  (try dsimp only[aj]);conv=>whnf
  refine iq hlt ?_
  generalize ls[i] = l at *
  (try dsimp only[aj]);conv=>whnf
  refine bN (by simp; omega) ?_
  (try dsimp only[aj]);conv=>whnf
  refine aN.of <| (aA.inv (.refl _ _) (fun j : Nat=>j <= l.length) (fun j=>[(19,.int .i64 (j : Int)),(9,.int .i64 (i : Int))]) (fun _=>[]) (fun j=>l.length - j) 0 (Nat.zero_le _) ?_ ?_ ?_)
  ·exact fun _=>rfl
  ·refine ⟨?_,.mk ?_ (by simp [ak])⟩
   ·all_goals exact wk
   ·all_goals exact wk
  intro j hj _
  (try dsimp only[aj]);conv=>whnf
  refine And.intro (fun g1=>?_) (fun g1=>?_)
  ·have hlj : j < l.length:=by simpa using g1
   have hv:=ho.val _ (List.getElem_mem hlj)
   (try dsimp only[aj]);conv=>whnf
   refine iq hlj ?_
   generalize l[j] = x at *
   (try dsimp only[aj]);conv=>whnf
   refine .pure _ _ ?_ ⟨rfl,rfl⟩ (YN hv.1 hv.2) fun _=>?_
   ·exact au _
   (try dsimp only[aj]);conv=>whnf
   refine zA ?_;conv=>whnf
   refine ⟨j + 1,?_,?_,?_⟩
   ·exact hlj
   ·refine ⟨?_,.mk ?_ (by simp [ak])⟩
    ·all_goals exact wk
    ·all_goals exact wk
   ·omega
  ·(try dsimp only[aj]);conv=>whnf
   refine zA ?_;conv=>whnf
   refine ⟨i + 1,?_,?_,?_⟩
   ·exact hlt
   ·refine ⟨?_,.mk ?_ (by simp [ak])⟩
    ·all_goals exact wk
    ·all_goals exact wk
   ·omega
 ·(try dsimp only[aj]);conv=>whnf
  refine fM ?_;(conv=>whnf);refine ⟨?_,rfl⟩;conv=>whnf
  all_goals exact wk

theorem Bv (l : List Int) (hN : l.length <= 1000000000) (R : AV) (hR : R = if l.length <= 1024 then .dA [iA l,.bH] else .dA [.aV,.jh 43 (.int .i64 4)]) : aQ Tryz.prog 86 [iA l] [] R []:=by
 refine aQ.intro lay mixed Tryz.func86 (by kernel_rfl) rfl (by kernel_rfl) rfl fun hok=>?_
 (try dsimp only[aP,aC]);(try dsimp only[aj]);conv=>whnf
 refine And.intro (fun g=>?_) (fun g=>?_)
 ·have : ¬ l.length <= 1024:=by simp at g; omega
  rw [if_neg this] at hR
  subst hR
  (try dsimp only[aj]);conv=>whnf
  refine fM ?_;(conv=>whnf);refine ⟨?_,rfl⟩;conv=>whnf
  all_goals exact wk
 ·have : l.length <= 1024:=by simp at g; omega
  rw [if_pos this] at hR
  subst hR
  (try dsimp only[aj]);conv=>whnf
  refine fM ?_;(conv=>whnf);refine ⟨?_,rfl⟩;conv=>whnf
  all_goals exact wk

theorem YW (n : Nat) (hn : n <= 4096) : dO Tryz.prog 100 [.aV,.int .i64 n] [] (fun R H'=>(n = 0 /\ R = .aV /\ H' = []) \/ ∃ cp,n <= cp /\ cp <= maxL /\ R = .ms 0 0 0 cp 1 /\ H' = [(0,.arr 1 cp (List.replicate n (.int .i64 0)))]):=by
 refine dO.intro lay mixed Tryz.func100 (by kernel_rfl) rfl (by kernel_rfl) rfl fun hok=>?_
 (try dsimp only[aP,aC]);(try dsimp only[aj]);conv=>whnf
 refine bN (by omega) ?_
 (try dsimp only[aj]);conv=>whnf
 refine ⟨eU (by omega) (by omega),?_⟩
 (try dsimp only[aj]);conv=>whnf
 refine ⟨eU (by omega) (by omega),?_⟩
 (try dsimp only[aj]);conv=>whnf
 refine And.intro (fun g=>?_) (fun g=>?_)
 ·have g : 0 < n:=by omega
  (try dsimp only[aj]);conv=>whnf
  refine ⟨⟨rfl,rfl⟩,?_⟩
  (try dsimp only[aj]);conv=>whnf
  refine ⟨⟨by omega,by omega,by dsimp only; omega⟩,?_⟩
  intro cp h1 h2
  have e : ((n : Int) - (0 - 0)).toNat = n:=by omega
  rw [e] at h1 ⊢
  (try dsimp only[aj]);conv=>whnf
  refine ⟨⟨by omega,by omega,by omega⟩,by omega,?_⟩
  (try dsimp only[aj]);conv=>whnf
  refine ⟨_,_,.inr ⟨cp,h1,h2,rfl,rfl⟩,?_⟩
  refine ⟨⟨_,_,.refl _ _,?_⟩⟩
  conv=>whnf
  refine ⟨?_,rfl,by simp [nextId],.mk ?_ (by simp [ak])⟩
  ·all_goals exact wk
  ·all_goals exact wk
 ·(try dsimp only[aj]);conv=>whnf
  refine ⟨_,_,.inl ⟨by omega,rfl,rfl⟩,?_⟩
  refine ⟨⟨_,_,.refl _ _,?_⟩⟩
  conv=>whnf
  refine ⟨?_,rfl,by simp [nextId],.mk ?_ (by simp [ak])⟩
  ·all_goals exact wk
  ·all_goals exact wk

theorem UQ (a b : List Int) (ha : a.length <= 1024) (hb : b.length <= 1024) : aQ Tryz.prog 97 [lA [a,b]] [] (iA (a ++ b)) []:=by
 have cg:=YW (a.length + b.length) (by omega)
 refine aQ.intro lay mixed Tryz.func97 (by kernel_rfl) rfl (by kernel_rfl) rfl fun hok=>?_
 (try dsimp only[aP,aC]);(try dsimp only[aj]);conv=>whnf
 refine aN.step 3 ?_
 (try dsimp only[aj]);conv=>whnf
 refine bY (by simp) ?_
 (try dsimp only[aj]);conv=>whnf
 refine kE.mk ⟨_,⟨by decide,rfl⟩,?_⟩
 (try dsimp only[aj]);conv=>whnf
 refine ⟨eU (by simp only [List.length_map]; omega) (by simp only [List.length_map]; omega),?_⟩
 (try dsimp only[aj]);conv=>whnf
 refine bN (by simp only [List.length_map]; omega) ?_
 (try dsimp only[aj]);conv=>whnf
 refine zA ?_;conv=>whnf
 refine bY (by simp) ?_
 (try dsimp only[aj]);conv=>whnf
 refine kE.mk ⟨_,⟨by decide,rfl⟩,?_⟩
 (try dsimp only[aj]);conv=>whnf
 refine ⟨eU (by simp only [List.length_map]; omega) (by simp only [List.length_map]; omega),?_⟩
 (try dsimp only[aj]);conv=>whnf
 refine bN (by simp only [List.length_map]; omega) ?_
 (try dsimp only[aj]);conv=>whnf
 refine zA ?_;conv=>whnf
 refine bN (by simp) ?_
 (try dsimp only[aj]);conv=>whnf
 rw [show (0 : Int) + ((a.map (AV.int .i64)).length : Int) + ((b.map (AV.int .i64)).length : Int) = ((a.length + b.length : Nat) : Int) by simp only [List.length_map]; omega]
 refine .rel _ cg fun R H' hq _=>?_
 rcases hq with ⟨hz,rfl,rfl⟩ | ⟨cp,h1,h2,rfl,rfl⟩
 ·obtain rfl : a = []:=List.eq_nil_of_length_eq_zero (by omega)
  obtain rfl : b = []:=List.eq_nil_of_length_eq_zero (by omega)
  (try dsimp only[aj]);conv=>whnf
  refine aN.step 3 ?_
  (try dsimp only[aj]);conv=>whnf
  refine bY (by simp) ?_
  (try dsimp only[aj]);conv=>whnf
  refine kE.mk ⟨_,⟨by decide,rfl⟩,?_⟩
  (try dsimp only[aj]);conv=>whnf
  refine .tok (by simp [maxL]) (by simp) ?_
  (try dsimp only[aj]);conv=>whnf
  refine zA ?_;conv=>whnf
  refine bY (by simp) ?_
  (try dsimp only[aj]);conv=>whnf
  refine kE.mk ⟨_,⟨by decide,rfl⟩,?_⟩
  (try dsimp only[aj]);conv=>whnf
  refine ⟨rfl,.mk (by simp [maxL]) (by simp) ?_⟩
  (try dsimp only[aj]);conv=>whnf
  refine zA ?_;conv=>whnf
  refine bN (by simp) ?_
  (try dsimp only[aj]);conv=>whnf
  refine fM ?_;(conv=>whnf);refine ⟨?_,rfl⟩;conv=>whnf
  all_goals exact wk
 ·(try dsimp only[aj]);conv=>whnf
  refine aN.step 3 ?_
  (try dsimp only[aj]);conv=>whnf
  refine bY (by simp) ?_
  (try dsimp only[aj]);conv=>whnf
  refine kE.mk ⟨_,⟨by decide,rfl⟩,?_⟩
  (try dsimp only[aj]);conv=>whnf
  refine ⟨⟨by simp,by simp; omega,by simp; omega⟩,?_⟩
  (try dsimp only[aj]);conv=>whnf
  refine zA ?_;conv=>whnf
  refine bY (by simp) ?_
  (try dsimp only[aj]);conv=>whnf
  refine kE.mk ⟨_,⟨by decide,rfl⟩,?_⟩
  (try dsimp only[aj]);conv=>whnf
  refine ⟨⟨by simp,by simp; omega,by simp; omega⟩,?_⟩
  (try dsimp only[aj]);conv=>whnf
  refine zA ?_;conv=>whnf
  refine bN (by simp) ?_
  (try dsimp only[aj]);conv=>whnf
  refine ⟨⟨_,_,.freeze 2 0 _ _ _ _ _ _ rfl rfl ?_ (.refl _ _),?_⟩⟩
  ·simp
  conv=>whnf
  refine ⟨?_,rfl,by simp [nextId],.mk ?_ (by simp [ak])⟩
  ·repeat' first|exact rfl|exact trivial|exact wR|exact lR _|apply aI
   all_goals (refine bM ?_; simp; rw [<- List.append_assoc,List.take_append_of_le_length (by simp),List.take_of_length_le (by simp)])
  ·all_goals exact wk

theorem dO.mono {P : Program} {f : Nat} {args : List AV} {H : Heap} {Q Q' : AV -> Heap -> Prop} (h : dO P f args H Q) (hQ : ∀ R G,Q R G -> Q' R G) : dO P f args H Q' :=
 ⟨h.1,fun c vs hr hv=>(h.2 c vs hr hv).mono fun _ _ ⟨v,d,R,G,h2,h3⟩=>⟨v,d,R,G,hQ R G h2,h3⟩⟩

abbrev PQ (Q : AV -> Prop) : AV -> Heap -> Prop:=fun R H'=>H' = [] /\ dD 0 R = true /\ Q R

abbrev eL : AV:=.jh 43 (.int .i64 4)

def Lu (X : List Int -> Prop) (R : AV) : Prop:=R = .dA [.aV,eL] \/ ∃ m,R = .dA [iA m,.bH] /\ X m
def RelB (N : Prop) (X : List Int -> Prop) (R : AV) : Prop:=(R = .dA [.aV,eL] /\ N) \/ ∃ m,R = .dA [iA m,.bH] /\ X m
theorem dO.Zc {P : Program} {f : Nat} {args : List AV} {H : Heap} {N : Prop} {X : List Int -> Prop} (h : dO P f args H (PQ (RelB N X))) : dO P f args H (PQ (Lu X)) :=
 dO.mono h fun _ _ ⟨h1,h2,h3⟩=>⟨h1,h2,h3.imp And.left fun h=>h⟩

theorem wI (l : List Int) (hN : l.length <= 1000000000) : dO Tryz.prog 72 [iA l] [] (PQ fun R=>∃ m,R = iA m /\ Bd l m) :=
 dO.mono (Q9 l hN) fun _ _ ⟨h1,m,h2,h3⟩=>⟨h1,by rw [h2]; rfl,m,h2,h3⟩

structure yK (a b m : List Int) : Prop where
 min : Bd (a ++ b) m
 len : m.length <= 1024

theorem WX (a b : List Int) (ha : bQ a) (hb : bQ b) : dO Tryz.prog 94 [iA a,iA b] [] (PQ (RelB (1024 < a.length + b.length) (yK a b))):=by
 have cl:=Bz [a,b] (by intro l hl; simp at hl; rcases hl with rfl | rfl <;> assumption) (by simp)
 have cc:=UQ a b ha.len hb.len
 have h1:=ha.len
 have h2:=hb.len
 refine dO.intro lay mixed Tryz.func94 (by kernel_rfl) rfl (by kernel_rfl) rfl fun hok=>?_
 (try dsimp only[aP,aC]);(try dsimp only[aj]);conv=>whnf
 refine .pure _ _ ?_ ⟨rfl,rfl⟩ cl fun _=>?_
 ·exact ⟨⟨rfl,bK _⟩,trivial⟩
 (try dsimp only[aj]);conv=>whnf
 refine .pure _ _ ?_ ⟨rfl,rfl⟩ cc fun _=>?_
 ·exact ⟨⟨rfl,bK _⟩,trivial⟩
 (try dsimp only[aj]);conv=>whnf
 refine .rel _ (wI (a ++ b) (by simp; omega)) fun R H' hq _=>?_
 obtain ⟨rfl,-,m,rfl,hm⟩:=hq
 have hml:=hm.len
 simp only [List.length_append] at hml
 (try dsimp only[aj]);conv=>whnf
 by_cases h3 : m.length <= 1024
 ·refine .pure _ _ ?_ ⟨rfl,rfl⟩ (Bv m (by omega) _ (if_pos h3).symm) fun _=>?_
  ·exact au _
  (try dsimp only[aj]);conv=>whnf
  refine ⟨_,_,⟨rfl,rfl,.inr ⟨m,rfl,hm,h3⟩⟩,?_⟩
  refine ⟨⟨_,_,.refl _ _,?_⟩⟩
  conv=>whnf
  refine ⟨?_,rfl,by simp [nextId],.mk ?_ (by simp [ak])⟩
  ·all_goals exact wk
  ·all_goals exact wk
 ·refine .pure _ _ ?_ ⟨rfl,rfl⟩ (Bv m (by omega) _ (if_neg h3).symm) fun _=>?_
  ·exact au _
  (try dsimp only[aj]);conv=>whnf
  refine ⟨_,_,⟨rfl,rfl,.inl ⟨rfl,by omega⟩⟩,?_⟩
  refine ⟨⟨_,_,.refl _ _,?_⟩⟩
  conv=>whnf
  refine ⟨?_,rfl,by simp [nextId],.mk ?_ (by simp [ak])⟩
  ·all_goals exact wk
  ·all_goals exact wk
theorem UA (a b : List Int) (ha : bQ a) (hb : bQ b) : dO Tryz.prog 94 [iA a,iA b] [] (PQ (Lu (yK a b))):=dO.Zc (WX a b ha hb)


def I8 (x y : Int) : Int:=dI .or .i64 x y
def pX (us : List Int) (u : Int) : List Int:=if us.contains u then us else us ++ [u]
def uRow (x : Int) (us b : List Int) : List Int:=b.foldl (fun us y=>pX us (I8 x y)) us
def wX (a b : List Int) : List Int:=a.foldl (fun us x=>uRow x us b) []

theorem P5 {us : List Int} {u v : Int} : v ∈ pX us u ↔ v ∈ us \/ v = u:=by
 unfold pX; split
 ·rename_i h
  refine ⟨.inl,?_⟩
  rintro (h1 | rfl)
  ·exact h1
  ·simpa using h
 ·simp

theorem P6 (us : List Int) (u : Int) : (pX us u).length <= us.length + 1:=by unfold pX; split <;> simp

theorem Jj {x : Int} : ∀ {b us : List Int} {v : Int},v ∈ uRow x us b ↔ v ∈ us \/ ∃ y,y ∈ b /\ v = I8 x y
 | [],us,v=>by simp [uRow]
 | y :: b,us,v=>by
   have:=Jj (x:=x) (b:=b) (us:=pX us (I8 x y)) (v:=v)
   unfold uRow at this ⊢
   rw [List.foldl_cons,this,P5]
   simp only [List.mem_cons]
   constructor
   ·rintro ((h | h) | ⟨z,hz,h⟩)
    ·exact .inl h
    ·exact .inr ⟨y,.inl rfl,h⟩
    ·exact .inr ⟨z,.inr hz,h⟩
   ·rintro (h | ⟨z,rfl | hz,h⟩)
    ·exact .inl (.inl h)
    ·exact .inl (.inr h)
    ·exact .inr ⟨z,hz,h⟩

theorem wY (x : Int) : ∀ (b us : List Int),(uRow x us b).length <= us.length + b.length
 | [],us=>by simp [uRow]
 | y :: b,us=>by
   have:=wY x b (pX us (I8 x y))
   have h2:=P6 us (I8 x y)
   unfold uRow at this ⊢
   rw [List.foldl_cons,List.length_cons]; omega

theorem zX {b : List Int} : ∀ {a us : List Int} {v : Int},v ∈ a.foldl (fun us x=>uRow x us b) us ↔ v ∈ us \/ ∃ x,x ∈ a /\ ∃ y,y ∈ b /\ v = I8 x y
 | [],us,v=>by simp
 | x :: a,us,v=>by
   rw [List.foldl_cons,zX,Jj]
   simp only [List.mem_cons]
   constructor
   ·rintro ((h | h) | ⟨z,hz,h⟩)
    ·exact .inl h
    ·exact .inr ⟨x,.inl rfl,h⟩
    ·exact .inr ⟨z,.inr hz,h⟩
   ·rintro (h | ⟨z,rfl | hz,h⟩)
    ·exact .inl (.inl h)
    ·exact .inl (.inr h)
    ·exact .inr ⟨z,hz,h⟩

theorem lS {a b : List Int} {v : Int} : v ∈ wX a b ↔ ∃ x,x ∈ a /\ ∃ y,y ∈ b /\ v = I8 x y:=by
 unfold wX; rw [zX]; simp

theorem jw (b : List Int) : ∀ (a us : List Int),(a.foldl (fun us x=>uRow x us b) us).length <= us.length + a.length * b.length
 | [],us=>by simp
 | x :: a,us=>by
   have:=jw b a (uRow x us b)
   have h2:=wY x b us
   rw [List.foldl_cons,List.length_cons,Nat.add_mul]; omega

abbrev Dq (l : List Int) : List (AV × AV):=l.map fun u=>(.int .i64 u,.tt)

theorem GH {l : List Int} {x : Int} {k : AV -> Prop} (hl : x ∈ l) (h : k .tt) : G6 (Dq l) (.int .i64 x) fun r=>CW false .ff r k :=
 ⟨some .tt,⟨(.int .i64 x,.tt),List.mem_map.2 ⟨x,hl,rfl⟩,rfl,rfl⟩,h⟩

theorem Eh {l : List Int} {x : Int} {k : AV -> Prop} (hl : ¬ x ∈ l) (h : k .ff) : G6 (Dq l) (.int .i64 x) fun r=>CW false .ff r k:=by
 refine ⟨none,fun z hz=>?_,h⟩
 obtain ⟨u,hu,rfl⟩:=List.mem_map.1 hz
 intro e
 have e : u = x:=by simpa [I9] using e
 exact hl (e ▸ hu)

theorem X0 {l : List Int} {x : Int} {k : List (AV × AV) -> Prop} (hl : ¬ x ∈ l) (h : k (Dq (l ++ [x]))) : Za (Dq l) (.int .i64 x) .tt k:=by
 refine ⟨_,.inl ⟨fun z hz=>?_,rfl⟩,by simpa [Dq] using h⟩
 obtain ⟨u,hu,rfl⟩:=List.mem_map.1 hz
 intro e
 have e : u = x:=by simpa [I9] using e
 exact hl (e ▸ hu)

theorem kQ (n : Nat) : ∀ l : List Int,wJ n (Dq l) = true
 | []=>rfl
 | e :: es=>by
   show (match true,true with | true,true=>wJ n (Dq es) | _,_=>false) = true
   exact kQ n es

structure qC (a b m : List Int) : Prop where
 ex : ∃ a' b',Bd a a' /\ Bd b b' /\ Bd (wX a' b') m
 len : m.length <= 1024

theorem ND (a b : List Int) (ha : bQ a) (hb : bQ b) : dO Tryz.prog 70 [iA a,iA b] [] (PQ (RelB (1024 < a.length * b.length) (qC a b))):=by
 have cl:=Bz [a,b] (by intro l hl; simp at hl; rcases hl with rfl | rfl <;> assumption) (by simp)
 have h1:=ha.len
 have h2:=hb.len
 refine dO.intro lay mixed Tryz.func70 (by kernel_rfl) rfl (by kernel_rfl) rfl fun hok=>?_
 (try dsimp only[aP,aC]);(try dsimp only[aj]);conv=>whnf
 refine .pure _ _ ?_ ⟨rfl,rfl⟩ cl fun _=>?_
 ·exact ⟨⟨rfl,bK _⟩,trivial⟩
 (try dsimp only[aj]);conv=>whnf
 refine .rel _ (wI a (by omega)) fun R H' hq _=>?_
 obtain ⟨rfl,-,a',rfl,hma⟩:=hq
 (try dsimp only[aj]);conv=>whnf
 refine .rel _ (wI b (by omega)) fun R H' hq _=>?_
 obtain ⟨rfl,-,b',rfl,hmb⟩:=hq
 have hal:=hma.len
 have hbl:=hmb.len
 have ZG:=jw b' a' []
 have ZF:=jw b' a' []
 (try dsimp only[aj]);conv=>whnf
 refine aN.of <| (aA.inv (.grow 8 1 [] .aV rfl (.inl ⟨rfl,rfl⟩) (.refl _ _)) (fun i : Nat=>i <= a'.length) (fun i=>[(28,.int .i64 (i : Int)),(8,.sl 1 (((a'.take i).foldl (fun us x=>uRow x us b') []).map (.int .i64)) (.own 1))]) (fun i=>[(1,.tok 1 ((a'.take i).foldl (fun us x=>uRow x us b') []).length),(0,.iK (.int .i64 0) (Dq ((a'.take i).foldl (fun us x=>uRow x us b') [])))]) (fun i=>a'.length - i) 0 (Nat.zero_le _) ?_ ?_ ?_)
 ·exact fun _=>rfl
 ·refine ⟨?_,.mk ?_ (by simp [ak])⟩
  ·all_goals exact wk
  ·all_goals exact wk
 intro i hi _
 (try dsimp only[aj]);conv=>whnf
 refine And.intro (fun g=>?_) (fun g=>?_)
 ·have hlt : i < a'.length:=by simpa using g
  have hst : (a'.take (i + 1)).foldl (fun us x=>uRow x us b') [] = uRow a'[i] ((a'.take i).foldl (fun us x=>uRow x us b') []) b':=iY hlt
  have hlen:=jw b' (a'.take i) []
  rw [List.length_take] at hlen
  have hlen : ((a'.take i).foldl (fun us x=>uRow x us b') []).length <= 1048576:=by
   have : min i a'.length * b'.length <= 1024 * 1024:=Nat.mul_le_mul (by omega) (by omega)
   simp at hlen; omega
  (try dsimp only[aj]);conv=>whnf
  refine iq hlt ?_
  generalize a'[i] = x at *
  generalize (a'.take i).foldl (fun us x=>uRow x us b') [] = LZ at *
  (try dsimp only[aj]);conv=>whnf
  refine aN.of <| (aA.inv (.refl _ _) (fun j : Nat=>j <= b'.length) (fun j=>[(34,.int .i64 (j : Int)),(8,.sl 1 ((uRow x LZ (b'.take j)).map (.int .i64)) (.own 1))]) (fun j=>[(1,.tok 1 (uRow x LZ (b'.take j)).length),(0,.iK (.int .i64 0) (Dq (uRow x LZ (b'.take j))))]) (fun j=>b'.length - j) 0 (Nat.zero_le _) ?_ ?_ ?_)
  ·exact fun _=>rfl
  ·refine ⟨?_,.mk ?_ (by simp [ak])⟩
   ·all_goals exact wk
   ·repeat' first|exact rfl|exact trivial|exact wR|exact lR _|apply aI
    all_goals first | exact kQ _ _ | exact jR _
  intro j hj _
  (try dsimp only[aj]);conv=>whnf
  refine And.intro (fun g1=>?_) (fun g1=>?_)
  ·have hlj : j < b'.length:=by simpa using g1
   have hst2 : uRow x LZ (b'.take (j + 1)) = pX (uRow x LZ (b'.take j)) (I8 x b'[j]):=iY hlj
   have hlen2:=wY x (b'.take j) LZ
   rw [List.length_take] at hlen2
   (try dsimp only[aj]);conv=>whnf
   refine iq hlj ?_
   generalize b'[j] = y at *
   generalize uRow x LZ (b'.take j) = us at *
   (try dsimp only[aj]);conv=>whnf
   have hor : dI .or .i64 x y = I8 x y:=rfl
   rw [hor]
   generalize I8 x y = u at *
   by_cases hin : u ∈ us
   ·rw [show pX us u = us from if_pos (by simpa using hin)] at hst2
    refine GH hin ?_
    (try dsimp only[aj]);conv=>whnf
    refine zA ?_;conv=>whnf
    refine ⟨j + 1,?_,?_,?_⟩
    ·exact hlj
    ·rw [hst2]
     refine ⟨?_,.mk ?_ (by simp [ak])⟩
     ·all_goals exact wk
     ·repeat' first|exact rfl|exact trivial|exact wR|exact lR _|apply aI
      all_goals first | exact kQ _ _ | exact jR _
    ·omega
   ·rw [show pX us u = us ++ [u] from if_neg (by simpa using hin)] at hst2
    refine Eh hin ?_
    (try dsimp only[aj]);conv=>whnf
    refine X0 hin ?_
    (try dsimp only[aj]);conv=>whnf
    refine ⟨by rw [List.length_map],.mk (by simp [maxL]; omega) (by simp; omega) ?_⟩
    (try dsimp only[aj]);conv=>whnf
    refine zA ?_;conv=>whnf
    refine ⟨j + 1,?_,?_,?_⟩
    ·exact hlj
    ·rw [hst2]
     refine ⟨?_,.mk ?_ (by simp [ak])⟩
     ·repeat' first|exact rfl|exact trivial|exact wR|exact lR _|apply aI
      all_goals first | (refine bM ?_; rw [List.map_append]; rfl) | (simp; done) | skip
     ·repeat' first|exact rfl|exact trivial|exact wR|exact lR _|apply aI
      all_goals first | exact kQ _ _ | exact jR _ | (refine bM ?_; rw [List.map_append]; rfl) | (simp; done) | skip
    ·omega
  ·have hk : j = b'.length:=by have : ¬ j < b'.length:=by simpa using g1
                               omega
   subst hk
   rw [List.take_length]
   (try dsimp only[aj]);conv=>whnf
   refine zA ?_;conv=>whnf
   refine ⟨i + 1,?_,?_,?_⟩
   ·exact hlt
   ·rw [hst]
    refine ⟨?_,.mk ?_ (by simp [ak])⟩
    ·all_goals exact wk
    ·repeat' first|exact rfl|exact trivial|exact wR|exact lR _|apply aI
     all_goals first | exact kQ _ _ | exact jR _
   ·omega
 ·have hk : i = a'.length:=by have : ¬ i < a'.length:=by simpa using g
                              omega
  subst hk
  rw [List.take_length]
  have ZG : (a'.foldl (fun us x=>uRow x us b') []).length <= 1048576:=by
   have : a'.length * b'.length <= 1024 * 1024:=Nat.mul_le_mul (by omega) (by omega)
   simp at ZG; omega
  have hun : wX a' b' = a'.foldl (fun us x=>uRow x us b') []:=rfl
  generalize a'.foldl (fun us x=>uRow x us b') [] = U at *
  (try dsimp only[aj]);conv=>whnf
  refine .oJ _ _ ?_ rfl (wI U (by omega)) fun R hq _=>?_
  ·all_goals exact wk
  obtain ⟨m,rfl,hm⟩:=hq
  have hml:=hm.len
  rw [<- hun] at hm
  (try dsimp only[aj]);conv=>whnf
  by_cases h3 : m.length <= 1024
  ·refine .pure _ _ ?_ ⟨rfl,rfl⟩ (Bv m (by omega) _ (if_pos h3).symm) fun _=>?_
   ·exact au _
   (try dsimp only[aj]);conv=>whnf
   refine ⟨_,_,⟨rfl,rfl,.inr ⟨m,rfl,⟨a',b',hma,hmb,hm⟩,h3⟩⟩,?_⟩
   refine ⟨⟨_,_,.refl _ _,?_⟩⟩
   conv=>whnf
   refine ⟨?_,rfl,by simp [nextId],.mk ?_ (by simp [ak])⟩
   ·all_goals exact wk
   ·all_goals exact wk
  ·refine .pure _ _ ?_ ⟨rfl,rfl⟩ (Bv m (by omega) _ (if_neg h3).symm) fun _=>?_
   ·exact au _
   (try dsimp only[aj]);conv=>whnf
   refine ⟨_,_,⟨rfl,rfl,.inl ⟨rfl,?_⟩⟩,?_⟩
   ·have h4 : a'.length * b'.length <= a.length * b.length:=Nat.mul_le_mul hal hbl
    have h5:=hm.len
    rw [hun] at h5
    simp only [List.length_nil,Nat.zero_add] at ZF
    omega
   refine ⟨⟨_,_,.refl _ _,?_⟩⟩
   conv=>whnf
   refine ⟨?_,rfl,by simp [nextId],.mk ?_ (by simp [ak])⟩
   ·all_goals exact wk
   ·all_goals exact wk

theorem Gv (a b : List Int) (ha : bQ a) (hb : bQ b) : dO Tryz.prog 70 [iA a,iA b] [] (PQ (Lu (qC a b))):=dO.Zc (ND a b ha hb)

theorem Nz (f : Fo) (h : su f) : aQ Tryz.prog 21 [f.av] [] (.sl 1 ((belF f.vars.toNat f.nodes f.top.toNat).map .bool) .no) []:=by
 have hw:=h.args
 obtain ⟨h1,h2,h3,h4⟩:=h
 have htn : f.top.toNat < f.vars.toNat + f.nodes.length:=by omega
 refine aQ.intro lay mixed Tryz.func21 (by kernel_rfl) rfl (by kernel_rfl) rfl fun hok=>?_
 (try dsimp only[aP,aC]);(try dsimp only[aj]);conv=>whnf
 refine ⟨eU (by simp; omega) (by simp; omega),?_⟩
 (try dsimp only[aj]);conv=>whnf
 refine ⟨by refine ⟨by omega,by omega,by simp; omega,by simp; omega⟩,?_⟩
 refine .wr ?_
 (try dsimp only[aj]);conv=>whnf
 refine ⟨⟨by omega,by simp; omega⟩,?_⟩
 (try dsimp only[aj]);conv=>whnf
 refine ⟨by simp; omega,rfl,?_⟩
 (try dsimp only[aj]);conv=>whnf
 refine ⟨eU (by simp; omega) (by simp; omega),?_⟩
 (try dsimp only[aj]);conv=>whnf
 refine aN.of <| aA.inv (.refl _ _) (fun k : Nat=>k <= f.nodes.length) (fun k=>[(4,.int .i64 ((f.nodes.length : Int) - 1 - k))]) (fun k=>[(1,.arr 1 (f.vars + ((f.nodes.map Nd.av).length : Int)).toNat ((lZ f.vars.toNat f.nodes f.top.toNat k).map .bool)),(0,.box f.av)]) (fun k=>f.nodes.length - k) 0 ?_ (fun _=>rfl) ?_ ?_
 ·exact Nat.zero_le _
 ·refine ⟨?_,.mk ?_ ?_⟩
  ·repeat' first|exact rfl|exact trivial|exact wR|exact lR _|apply aI
   all_goals (simp; done)
  ·repeat' first|exact rfl|exact trivial|exact wR|exact lR _|apply aI
   all_goals (rw [Nat.zero_add,show (f.vars + ((f.nodes.map Nd.av).length : Int)).toNat = f.vars.toNat + f.nodes.length by simp; omega]; refine zh ?_ _ _; first | exact rfl | (show _ ↔ _; simp))
  ·exact ⟨by simp,by simp,trivial⟩
 intro k hk _
 have hbl:=jE f.vars.toNat f.nodes f.top.toNat k
 (try dsimp only[aj]);conv=>whnf
 refine And.intro (fun g1=>?_) (fun g1=>?_)
 ·have hlt : k < f.nodes.length:=by omega
  have hb1 : lZ f.vars.toNat f.nodes f.top.toNat (k + 1) = if (lZ f.vars.toNat f.nodes f.top.toNat k).getD (f.vars.toNat + (f.nodes.length - 1 - k)) false = true then qg (lZ f.vars.toNat f.nodes f.top.toNat k) (argsAt f.nodes (f.nodes.length - 1 - k)) else lZ f.vars.toNat f.nodes f.top.toNat k:=rfl
  have hai:=hw (f.nodes.length - 1 - k) (by omega)
  have hia : f.nodes.length - 1 - k < f.nodes.length:=by omega
  have hae : argsAt f.nodes (f.nodes.length - 1 - k) = (f.nodes[f.nodes.length - 1 - k]).args:=by unfold argsAt; rw [List.getD_eq_getElem?_getD,List.getElem?_eq_getElem hia]; rfl
  rw [hae] at hb1 hai
  have hnl : (f.nodes[f.nodes.length - 1 - k]).args.length <= 16:=by
   have hal:=(h3 _ hia).num
   split at hal
   ·omega
   ·split at hal <;> omega
  generalize lZ f.vars.toNat f.nodes f.top.toNat k = d at *
  rw [show (f.nodes.length : Int) - 1 - k = ((f.nodes.length - 1 - k : Nat) : Int) by omega]
  (try dsimp only[aj]);conv=>whnf
  refine ⟨eU (by omega) (by omega),?_⟩
  (try dsimp only[aj]);conv=>whnf
  refine ⟨⟨by omega,by simp; omega⟩,?_⟩
  (try dsimp only[aj]);conv=>whnf
  rw [show 0 + (f.vars + ((f.nodes.length - 1 - k : Nat) : Int)).toNat = f.vars.toNat + (f.nodes.length - 1 - k) by omega]
  refine Au false (by simp; omega) ?_
  (try dsimp only[aj]);conv=>whnf
  refine ⟨rfl,?_⟩
  (try dsimp only[aj]);conv=>whnf
  refine And.intro (fun g2=>?_) (fun g2=>?_)
  ·rw [Int.toNat_natCast] at g2
   simp only [Bool.not_eq_true'] at g2
   rw [if_neg (by rw [g2]; simp)] at hb1
   rw [<- hb1]
   (try dsimp only[aj]);conv=>whnf
   refine ⟨eU (by omega) (by omega),?_⟩
   (try dsimp only[aj]);conv=>whnf
   refine ⟨k + 1,?_,?_,?_⟩
   ·exact hlt
   ·refine ⟨?_,.mk ?_ ?_⟩
    ·repeat' first|exact rfl|exact trivial|exact wR|exact lR _|apply aI
     all_goals (push_cast; omega)
    ·all_goals exact wk
    ·exact ⟨by simp,by simp,trivial⟩
   ·omega
  ·rw [Int.toNat_natCast] at g2
   simp only [Bool.not_eq_false'] at g2
   rw [if_pos g2] at hb1
   (try dsimp only[aj]);conv=>whnf
   refine iq hia ?_
   generalize f.nodes[f.nodes.length - 1 - k] = x at *
   (try dsimp only[aj]);conv=>whnf
   refine aN.of <| aA.inv (.refl _ _) (fun j : Nat=>j <= x.args.length) (fun j=>[(41,.int .i64 j)]) (fun j=>[(1,.arr 1 (f.vars + ((f.nodes.map Nd.av).length : Int)).toNat ((qg d (x.args.take j)).map .bool)),(0,.box f.av)]) (fun j=>x.args.length - j) 0 ?_ (fun _=>rfl) ?_ ?_
   ·exact Nat.zero_le _
   ·refine ⟨?_,.mk ?_ ?_⟩
    ·all_goals exact wk
    ·all_goals exact wk
    ·exact ⟨by simp,by simp,trivial⟩
   intro j hj _
   have hml:=uH (x.args.take j) d
   (try dsimp only[aj]);conv=>whnf
   refine And.intro (fun g3=>?_) (fun g3=>?_)
   ·have hjl : j < x.args.length:=by simpa using g3
    have hmt:=CS (d:=d) hjl
    have ha:=hai _ (List.getElem_mem hjl)
    (try dsimp only[aj]);conv=>whnf
    refine iq hjl ?_
    generalize x.args[j] = a at *
    (try dsimp only[aj]);conv=>whnf
    refine ⟨⟨by omega,by simp; omega⟩,?_⟩
    (try dsimp only[aj]);conv=>whnf
    refine ⟨by simp; omega,rfl,?_⟩
    (try dsimp only[aj]);conv=>whnf
    refine zA ?_;conv=>whnf
    refine ⟨j + 1,?_,?_,?_⟩
    ·exact hjl
    ·rw [hmt]
     refine ⟨?_,.mk ?_ ?_⟩
     ·all_goals exact wk
     ·repeat' first|exact rfl|exact trivial|exact wR|exact lR _|apply aI
      all_goals (rw [Nat.zero_add]; refine zf ?_ _ _; first | exact rfl | (show _ ↔ _; simp))
     ·exact ⟨by simp,by simp,trivial⟩
    ·omega
   have hjl : j = x.args.length:=by (have : ¬ j < x.args.length:=by simpa using g3); omega
   subst hjl
   clear g3
   rw [List.take_length,<- hb1]
   (try dsimp only[aj]);conv=>whnf
   refine ⟨eU (by omega) (by omega),?_⟩
   (try dsimp only[aj]);conv=>whnf
   refine ⟨k + 1,?_,?_,?_⟩
   ·exact hlt
   ·refine ⟨?_,.mk ?_ ?_⟩
    ·repeat' first|exact rfl|exact trivial|exact wR|exact lR _|apply aI
     all_goals (push_cast; omega)
    ·all_goals exact wk
    ·exact ⟨by simp,by simp,trivial⟩
   ·omega
 have hkl : k = f.nodes.length:=by omega
 subst hkl
 (try dsimp only[aj]);conv=>whnf
 refine ⟨⟨_,_,.keep 2 1 _ _ _ _ rfl rfl ?_ (.refl _ _),?_⟩⟩
 ·have:=jE f.vars.toNat f.nodes f.top.toNat f.nodes.length
  simp [this]; omega
 conv=>whnf
 refine ⟨?_,rfl,by simp [nextId],.mk ?_ (by simp [ak])⟩
 ·repeat' first|exact rfl|exact trivial|exact wR|exact lR _|apply aI
  all_goals (refine bM ?_; rw [List.take_of_length_le (by rw [List.length_map,jE]; simp; omega)]; rfl)
 ·all_goals exact wk

def kZ (x : Nd) : Bool:=decide (x.kind = 1) || decide (x.kind = 5)
def qY (f : Fo) : Bool:=!(trimF f).nodes.any kZ

theorem Gx (f : Fo) (h : su f) : aQ Tryz.prog 42 [f.av] [] (.dA [.bool (qY f),.bH]) []:=by
 have ct:=Pm f h
 obtain ⟨k1,k2,k3,k4⟩:=(Bf f h).1
 have hco : qY f = !(trimF f).nodes.any kZ:=rfl
 generalize trimF f = t at *
 refine aQ.intro lay mixed Tryz.func42 (by kernel_rfl) rfl (by kernel_rfl) rfl fun hok=>?_
 (try dsimp only[aP,aC]);(try dsimp only[aj]);conv=>whnf
 refine .pure _ _ ?_ ⟨rfl,rfl⟩ ct fun _=>?_
 ·exact au _
 (try dsimp only[aj]);conv=>whnf
 refine aN.of <| (aA.inv (.refl _ _) (fun i : Nat=>i <= t.nodes.length /\ ∀ (j : Nat) (hj : j < t.nodes.length),j < i -> kZ t.nodes[j] = false) (fun i=>[(19,.int .i64 (i : Int))]) (fun _=>[(1,.box t.av),(0,.box f.av)]) (fun i=>t.nodes.length - i) 0 ⟨Nat.zero_le _,by omega⟩ ?_ ?_ ?_)
 ·exact fun _=>rfl
 ·refine ⟨?_,.mk ?_ (by simp [ak])⟩
  ·all_goals exact wk
  ·all_goals exact wk
 rintro i ⟨hi,hn⟩ _
 (try dsimp only[aj]);conv=>whnf
 refine And.intro (fun g=>?_) (fun g=>?_)
 ·have hlt : i < t.nodes.length:=by simpa using g
  have hbt : kZ t.nodes[i] = true -> qY f = false:=fun hb=>by
   rw [hco,Bool.not_eq_false',List.any_eq_true]
   exact ⟨_,List.getElem_mem hlt,hb⟩
  have hbf : kZ t.nodes[i] = false -> ∀ (j : Nat) (hj : j < t.nodes.length),j < i + 1 -> kZ t.nodes[j] = false:=fun hb j hj hji=>by
   rcases Nat.lt_or_ge j i with h' | h'
   ·exact hn j hj h'
   ·obtain rfl : j = i:=by omega
    exact hb
  (try dsimp only[aj]);conv=>whnf
  refine iq hlt ?_
  generalize t.nodes[i] = x at *
  (try dsimp only[aj]);conv=>whnf
  refine And.intro (fun e1=>?_) (fun e1=>?_)
  ·rw [hbt (by simp [kZ,e1])]
   (try dsimp only[aj]);conv=>whnf
   refine fM ?_;(conv=>whnf);refine ⟨?_,rfl⟩;conv=>whnf
   all_goals exact wk
  ·(try dsimp only[aj]);conv=>whnf
   refine And.intro (fun e5=>?_) (fun e5=>?_)
   ·rw [hbt (by simp [kZ,e5])]
    (try dsimp only[aj]);conv=>whnf
    refine fM ?_;(conv=>whnf);refine ⟨?_,rfl⟩;conv=>whnf
    all_goals exact wk
   ·have hb : kZ x = false:=by simp [kZ,e1,e5]
    (try dsimp only[aj]);conv=>whnf
    refine zA ?_;conv=>whnf
    refine ⟨i + 1,?_,?_,?_⟩
    ·exact ⟨hlt,hbf hb⟩
    ·refine ⟨?_,.mk ?_ (by simp [ak])⟩
     ·all_goals exact wk
     ·all_goals exact wk
    ·omega
 ·have hk : i = t.nodes.length:=by have : ¬ i < t.nodes.length:=by simpa using g
                                   omega
  subst hk
  have : qY f = true:=by
   rw [hco,Bool.not_eq_true',List.any_eq_false]
   intro x hx
   obtain ⟨j,hj,rfl⟩:=List.getElem_of_mem hx
   rw [hn j hj hj]; exact Bool.false_ne_true
  rw [this]
  (try dsimp only[aj]);conv=>whnf
  refine fM ?_;(conv=>whnf);refine ⟨?_,rfl⟩;conv=>whnf
  all_goals exact wk

def zZ (f : Fo) : Prop:=∀ (i : Nat) (h : i < f.nodes.length),(Ba f).getD (f.vars.toNat + i) false = true -> kZ f.nodes[i] = false

theorem BU {v : Nat} {l : List Nd} {d : List Bool} : ∀ k,k <= l.length -> ∀ x ∈ (I7 v l d k).2,∃ (i : Nat) (h : i < l.length),d.getD (v + i) false = true /\ x.kind = l[i].kind
 | 0,_,x,hx=>by simp [I7] at hx
 | k + 1,hk,x,hx=>by
   unfold I7 at hx
   split at hx
   ·rename_i hd
    rcases List.mem_append.1 hx with hx | hx
    ·exact BU k (by omega) x hx
    ·have hx : x = Jl (I7 v l d k).1 (l.getD k default):=by simpa using hx
     refine ⟨k,hk,hd,?_⟩
     rw [hx,List.getD_eq_getElem?_getD,List.getElem?_eq_getElem (show k < l.length from hk)]
     rfl
   ·exact BU k (by omega) x hx

theorem wF (f : Fo) (h : zZ f) : qY f = true:=by
 unfold qY
 rw [Bool.not_eq_true',List.any_eq_false]
 intro x hx
 obtain ⟨i,hi,h1,h2⟩:=BU _ (Nat.le_refl _) x hx
 have:=h i hi h1
 unfold kZ at this ⊢
 rw [h2,this]; exact Bool.false_ne_true

theorem Pg (f : Fo) (h : su f) (R : AV) (hR : (R = .tt /\ zZ f) \/ (R = .ff /\ ¬ zZ f)) : aQ Tryz.prog 6 [f.av] [] R []:=by
 have cb:=Nz f h
 have hbl : (Ba f).length = f.vars.toNat + f.nodes.length:=jE _ _ _ _
 have h1:=h.vars
 have h2:=h.len
 rw [show belF f.vars.toNat f.nodes f.top.toNat = Ba f from rfl] at cb
 unfold zZ at hR
 generalize Ba f = d at *
 refine aQ.intro lay mixed Tryz.func6 (by kernel_rfl) rfl (by kernel_rfl) rfl fun hok=>?_
 (try dsimp only[aP,aC]);(try dsimp only[aj]);conv=>whnf
 refine .pure _ _ ?_ ⟨rfl,rfl⟩ cb fun _=>?_
 ·exact au _
 (try dsimp only[aj]);conv=>whnf
 refine aN.of <| (aA.inv (.refl _ _) (fun i : Nat=>i <= f.nodes.length /\ ∀ (j : Nat) (hj : j < f.nodes.length),j < i -> d.getD (f.vars.toNat + j) false = true -> kZ f.nodes[j] = false) (fun i=>[(11,.int .i64 (i : Int))]) (fun _=>[(0,.box f.av)]) (fun i=>f.nodes.length - i) 0 ⟨Nat.zero_le _,by omega⟩ ?_ ?_ ?_)
 ·exact fun _=>rfl
 ·refine ⟨?_,.mk ?_ (by simp [ak])⟩
  ·all_goals exact wk
  ·all_goals exact wk
 rintro i ⟨hi,hn⟩ _
 (try dsimp only[aj]);conv=>whnf
 refine And.intro (fun g=>?_) (fun g=>?_)
 ·have hlt : i < f.nodes.length:=by simpa using g
  have hbt : d.getD (f.vars.toNat + i) false = true -> kZ f.nodes[i] = true -> R = .ff:=fun hd hb=>by
   rcases hR with ⟨_,hs⟩ | ⟨hr,_⟩
   ·rw [hs i hlt hd] at hb; cases hb
   ·exact hr
  have hbf : (d.getD (f.vars.toNat + i) false = true -> kZ f.nodes[i] = false) -> ∀ (j : Nat) (hj : j < f.nodes.length),j < i + 1 -> d.getD (f.vars.toNat + j) false = true -> kZ f.nodes[j] = false:=fun hb j hj hji=>by
   rcases Nat.lt_or_ge j i with h' | h'
   ·exact hn j hj h'
   ·obtain rfl : j = i:=by omega
    exact hb
  (try dsimp only[aj]);conv=>whnf
  refine iq hlt ?_
  generalize f.nodes[i] = x at *
  (try dsimp only[aj]);conv=>whnf
  refine ⟨eU (by omega) (by omega),?_⟩
  (try dsimp only[aj]);conv=>whnf
  rw [show f.vars + (i : Int) = ((f.vars.toNat + i : Nat) : Int) by omega]
  refine Au false (by omega) ?_
  (try dsimp only[aj]);conv=>whnf
  refine And.intro (fun m=>?_) (fun m=>?_)
  ·(try dsimp only[aj]);conv=>whnf
   refine And.intro (fun e1=>?_) (fun e1=>?_)
   ·obtain rfl:=hbt m (by simp [kZ,e1])
    (try dsimp only[aj]);conv=>whnf
    refine fM ?_;(conv=>whnf);refine ⟨?_,rfl⟩;conv=>whnf
    all_goals exact wk
   ·(try dsimp only[aj]);conv=>whnf
    refine And.intro (fun e5=>?_) (fun e5=>?_)
    ·obtain rfl:=hbt m (by simp [kZ,e5])
     (try dsimp only[aj]);conv=>whnf
     refine fM ?_;(conv=>whnf);refine ⟨?_,rfl⟩;conv=>whnf
     all_goals exact wk
    ·have hb : kZ x = false:=by simp [kZ,e1,e5]
     (try dsimp only[aj]);conv=>whnf
     refine zA ?_;conv=>whnf
     refine ⟨i + 1,?_,?_,?_⟩
     ·exact ⟨hlt,hbf fun _=>hb⟩
     ·refine ⟨?_,.mk ?_ (by simp [ak])⟩
      ·all_goals exact wk
      ·all_goals exact wk
     ·omega
  ·(try dsimp only[aj]);conv=>whnf
   refine zA ?_;conv=>whnf
   refine ⟨i + 1,?_,?_,?_⟩
   ·exact ⟨hlt,hbf fun hm=>by rw [Int.toNat_natCast,hm] at m; cases m⟩
   ·refine ⟨?_,.mk ?_ (by simp [ak])⟩
    ·all_goals exact wk
    ·all_goals exact wk
   ·omega
 ·have hk : i = f.nodes.length:=by have : ¬ i < f.nodes.length:=by simpa using g
                                   omega
  subst hk
  have : R = .tt:=by
   rcases hR with ⟨hr,_⟩ | ⟨_,hs⟩
   ·exact hr
   ·exact absurd (fun j hj=>hn j hj hj) hs
  subst this
  (try dsimp only[aj]);conv=>whnf
  refine fM ?_;(conv=>whnf);refine ⟨?_,rfl⟩;conv=>whnf
  all_goals exact wk

structure RdyF (f : Fo) : Prop where
 ok : su f
 vars : f.vars <= 8
 len : f.nodes.length <= 16


def kD (R : List Int -> List Int -> List Int -> Prop) : List Int -> List (List Int) -> List Int -> Prop
 | o,[],m=>m = o
 | o,a :: l,m=>∃ o',R o a o' /\ kD R o' l m

theorem kD.snoc {R : List Int -> List Int -> List Int -> Prop} {a m' : List Int} : ∀ {l : List (List Int)} {o m : List Int},kD R o l m -> R m a m' -> kD R o (l ++ [a]) m'
 | [],_,_,h,g=>by obtain rfl:=h; exact ⟨m',g,rfl⟩
 | b :: l,o,m,⟨o',h1,h2⟩,g=>⟨o',h1,h2.snoc g⟩

theorem Hu {a b : Nat} (ha : a < 16777216) (hb : b < 16777216) : I8 (a : Int) (b : Int) = ((a ||| b : Nat) : Int):=mM (by omega) (by omega)

theorem OD {x y : Int} (hx : 0 <= x /\ x <= 16777215) (hy : 0 <= y /\ y <= 16777215) : 0 <= I8 x y /\ I8 x y <= 16777215:=by
 obtain ⟨a,rfl⟩ : ∃ n : Nat,x = n:=⟨x.toNat,by omega⟩
 obtain ⟨b,rfl⟩ : ∃ n : Nat,y = n:=⟨y.toNat,by omega⟩
 rw [Hu (by omega) (by omega)]
 have:=Nat.or_lt_two_pow (x:=a) (y:=b) (n:=24) (by omega) (by omega)
 omega

theorem Bg {a b m : List Int} (h : yK a b m) (ha : bQ a) (hb : bQ b) : bQ m :=
 ⟨h.len,fun s hs=>(List.mem_append.1 (h.min.sub s hs)).elim (ha.val s) (hb.val s)⟩

theorem uD {a b m : List Int} (h : qC a b m) (ha : bQ a) (hb : bQ b) : bQ m:=by
 obtain ⟨a',b',h1,h2,h3⟩:=h.ex
 refine ⟨h.len,fun s hs=>?_⟩
 obtain ⟨x,hx,y,hy,rfl⟩:=lS.1 (h3.sub s hs)
 exact OD (ha.val x (h1.sub x hx)) (hb.val y (h2.sub y hy))

theorem o8 {x : Int} (h : 0 <= x /\ x <= 16777215) : bQ [x]:=⟨by simp,by simpa using h⟩
theorem xW : bQ []:=⟨by simp,by simp⟩

structure OrR (args : List (List Int)) (m : List Int) : Prop where
 chain : kD qC [0] args m
 ok : bQ m

structure AndR (args : List (List Int)) (m : List Int) : Prop where
 chain : kD yK [] args m
 ok : bQ m

theorem c_pOr (args : List (List Int)) (h : ∀ a,a ∈ args -> bQ a) (hn : args.length <= 16) : dO Tryz.prog 83 [lA args] [] (PQ (Lu (OrR args))):=by
 refine dO.intro lay mixed Tryz.func83 (by kernel_rfl) rfl (by kernel_rfl) rfl fun hok=>?_
 (try dsimp only[aP,aC]);(try dsimp only[aj]);conv=>whnf
 refine aN.of <| (aA.inv (.refl _ _) (fun x : Nat × List Int=>x.1 <= args.length /\ kD qC [0] (args.take x.1) x.2 /\ bQ x.2) (fun x=>[(11,.int .i64 (x.1 : Int)),(4,iA x.2),(5,.und)]) (fun _=>[]) (fun x=>args.length - x.1) (0,[0]) ⟨Nat.zero_le _,rfl,o8 (by omega)⟩ ?_ ?_ ?_)
 ·exact fun _=>rfl
 ·refine ⟨?_,.mk ?_ (by simp [ak])⟩
  ·all_goals exact wk
  ·all_goals exact wk
 rintro ⟨i,o⟩ ⟨hi,hc,ho⟩ _
 dsimp only at hi hc ho
 (try dsimp only[aj]);conv=>whnf
 refine And.intro (fun g=>?_) (fun g=>?_)
 ·have hlt : i < args.length:=by simpa using g
  have ha:=h _ (List.getElem_mem hlt)
  have hs:=List.take_succ_eq_append_getElem hlt
  (try dsimp only[aj]);conv=>whnf
  refine iq hlt ?_
  generalize args[i] = a at *
  (try dsimp only[aj]);conv=>whnf
  refine .rel _ (Gv o a ho ha) fun R H' hq _=>?_
  obtain ⟨rfl,-,rfl | ⟨m,rfl,hm⟩⟩:=hq
  ·(try dsimp only[aj]);conv=>whnf
   refine ⟨_,_,⟨rfl,rfl,.inl rfl⟩,?_⟩
   refine ⟨⟨_,_,.refl _ _,?_⟩⟩
   conv=>whnf
   refine ⟨?_,rfl,by simp [nextId],.mk ?_ (by simp [ak])⟩
   ·all_goals exact wk
   ·all_goals exact wk
  ·(try dsimp only[aj]);conv=>whnf
   refine zA ?_;conv=>whnf
   refine ⟨(i + 1,m),⟨hlt,by rw [hs]; exact hc.snoc hm,uD hm ho ha⟩,?_,(by omega : args.length - (i + 1) < args.length - i)⟩
   refine ⟨?_,.mk ?_ (by simp [ak])⟩
   ·all_goals exact wk
   ·all_goals exact wk
 ·have hk : i = args.length:=by have : ¬ i < args.length:=by simpa using g
                                omega
  subst hk
  rw [List.take_length] at hc
  (try dsimp only[aj]);conv=>whnf
  refine ⟨_,_,⟨rfl,rfl,.inr ⟨o,rfl,hc,ho⟩⟩,?_⟩
  refine ⟨⟨_,_,.refl _ _,?_⟩⟩
  conv=>whnf
  refine ⟨?_,rfl,by simp [nextId],.mk ?_ (by simp [ak])⟩
  ·all_goals exact wk
  ·all_goals exact wk

theorem YS (args : List (List Int)) (h : ∀ a,a ∈ args -> bQ a) (hn : args.length <= 16) : dO Tryz.prog 84 [lA args] [] (PQ (Lu (AndR args))):=by
 refine dO.intro lay mixed Tryz.func84 (by kernel_rfl) rfl (by kernel_rfl) rfl fun hok=>?_
 (try dsimp only[aP,aC]);(try dsimp only[aj]);conv=>whnf
 refine aN.of <| (aA.inv (.refl _ _) (fun x : Nat × List Int=>x.1 <= args.length /\ kD yK [] (args.take x.1) x.2 /\ bQ x.2) (fun x=>[(10,.int .i64 (x.1 : Int)),(4,iA x.2),(5,.und)]) (fun _=>[]) (fun x=>args.length - x.1) (0,[]) ⟨Nat.zero_le _,rfl,xW⟩ ?_ ?_ ?_)
 ·exact fun _=>rfl
 ·refine ⟨?_,.mk ?_ (by simp [ak])⟩
  ·all_goals exact wk
  ·all_goals exact wk
 rintro ⟨i,o⟩ ⟨hi,hc,ho⟩ _
 dsimp only at hi hc ho
 (try dsimp only[aj]);conv=>whnf
 refine And.intro (fun g=>?_) (fun g=>?_)
 ·have hlt : i < args.length:=by simpa using g
  have ha:=h _ (List.getElem_mem hlt)
  have hs:=List.take_succ_eq_append_getElem hlt
  (try dsimp only[aj]);conv=>whnf
  refine iq hlt ?_
  generalize args[i] = a at *
  (try dsimp only[aj]);conv=>whnf
  refine .rel _ (UA o a ho ha) fun R H' hq _=>?_
  obtain ⟨rfl,-,rfl | ⟨m,rfl,hm⟩⟩:=hq
  ·(try dsimp only[aj]);conv=>whnf
   refine ⟨_,_,⟨rfl,rfl,.inl rfl⟩,?_⟩
   refine ⟨⟨_,_,.refl _ _,?_⟩⟩
   conv=>whnf
   refine ⟨?_,rfl,by simp [nextId],.mk ?_ (by simp [ak])⟩
   ·all_goals exact wk
   ·all_goals exact wk
  ·(try dsimp only[aj]);conv=>whnf
   refine zA ?_;conv=>whnf
   refine ⟨(i + 1,m),⟨hlt,by rw [hs]; exact hc.snoc hm,Bg hm ho ha⟩,?_,(by omega : args.length - (i + 1) < args.length - i)⟩
   refine ⟨?_,.mk ?_ (by simp [ak])⟩
   ·all_goals exact wk
   ·all_goals exact wk
 ·have hk : i = args.length:=by have : ¬ i < args.length:=by simpa using g
                                omega
  subst hk
  rw [List.take_length] at hc
  (try dsimp only[aj]);conv=>whnf
  refine ⟨_,_,⟨rfl,rfl,.inr ⟨o,rfl,hc,ho⟩⟩,?_⟩
  refine ⟨⟨_,_,.refl _ _,?_⟩⟩
  conv=>whnf
  refine ⟨?_,rfl,by simp [nextId],.mk ?_ (by simp [ak])⟩
  ·all_goals exact wk
  ·all_goals exact wk

structure X7 (V : List (List Int)) (a : List Int) (j : Nat) (W : List (List Int)) : Prop where
 len : W.length = V.length
 old : ∀ k,k <= j -> W.getD k [] = V.getD k []
 new : ∀ k,j < k -> k < V.length -> ∃ p,qC (V.getD (k - 1) []) a p /\ yK (V.getD k []) p (W.getD k [])

inductive Eo : List (List Int) -> List (List Int) -> List (List Int) -> Prop
 | nil (V : List (List Int)) : Eo V [] V
 | snoc {V W X : List (List Int)} {l : List (List Int)} {a : List Int} (h : Eo V l W) (g : X7 W a 0 X) : Eo V (l ++ [a]) X

def pW (m : Nat) : List (List Int):=[0] :: List.replicate m []

structure VotR (args : List (List Int)) (m : Nat) (r : List Int) : Prop where
 ex : ∃ V,Eo (pW m) args V /\ r = V.getD m []
 ok : bQ r

theorem FX : ∀ n,gq (List.replicate n AV.aV) (List.map iA (List.replicate n []))
 | 0=>trivial
 | n + 1=>⟨rfl,FX n⟩

theorem Xc (args : List (List Int)) (h : ∀ a,a ∈ args -> bQ a) (hn : args.length <= 16) (m : Nat) (hm : m <= 16) : dO Tryz.prog 85 [lA args,.int .i64 m] [] (PQ (Lu (VotR args m))):=by
 refine dO.intro lay mixed Tryz.func85 (by kernel_rfl) rfl (by kernel_rfl) rfl fun hok=>?_
 (try dsimp only[aP,aC]);(try dsimp only[aj]);conv=>whnf
 refine zA ?_;conv=>whnf
 rw [show (m : Int) + 1 = ((m + 1 : Nat) : Int) by omega]
 refine ⟨⟨by omega,Int.le_refl _,by show ((m + 1 : Nat) : Int) * ((24 : Nat) : Int) <= 281474976710656; omega,by omega⟩,.wr ?_⟩
 rw [Int.toNat_natCast]
 (try dsimp only[aj]);conv=>whnf
 refine ⟨⟨by omega,by omega⟩,?_⟩
 (try dsimp only[aj]);conv=>whnf
 refine ⟨by simp,rfl,?_⟩
 (try dsimp only[aj]);conv=>whnf
 refine aN.of <| (aA.inv (.refl _ _) (fun x : Nat × List (List Int)=>x.1 <= args.length /\ Eo (pW m) (args.take x.1) x.2 /\ x.2.length = m + 1 /\ ∀ l,l ∈ x.2 -> bQ l) (fun x=>[(20,.int .i64 (x.1 : Int))]) (fun x=>[(0,.arr 1 (m + 1) (x.2.map iA))]) (fun x=>args.length - x.1) (0,pW m) ⟨Nat.zero_le _,.nil _,by simp [pW],?_⟩ ?_ ?_ ?_)
 ·intro l hl
  rcases List.mem_cons.1 hl with rfl | hl
  ·exact o8 (by omega)
  ·rw [List.eq_of_mem_replicate hl]; exact xW
 ·exact fun _=>rfl
 ·refine ⟨?_,.mk ?_ (by simp [ak])⟩
  ·all_goals exact wk
  ·repeat' first|exact rfl|exact trivial|exact wR|exact lR _|apply aI
   all_goals exact FX m
 rintro ⟨i,V⟩ ⟨hi,hV,hVl,hVo⟩ _
 dsimp only at hi hV hVl hVo
 (try dsimp only[aj]);conv=>whnf
 refine And.intro (fun g=>?_) (fun g=>?_)
 ·have hlt : i < args.length:=by simpa using g
  have ha:=h _ (List.getElem_mem hlt)
  have hs:=List.take_succ_eq_append_getElem hlt
  (try dsimp only[aj]);conv=>whnf
  refine iq hlt ?_
  generalize args[i] = a at *
  (try dsimp only[aj]);conv=>whnf
  refine aN.of <| (aA.inv (.refl _ _) (fun x : Nat × List (List Int)=>x.1 <= m /\ X7 V a x.1 x.2 /\ ∀ l,l ∈ x.2 -> bQ l) (fun x=>[(9,.int .i64 (x.1 : Int))]) (fun x=>[(0,.arr 1 (m + 1) (x.2.map iA))]) (fun x=>x.1) (m,V) ⟨Nat.le_refl _,⟨rfl,fun _ _=>rfl,fun k h1 h2=>by omega⟩,hVo⟩ ?_ ?_ ?_)
  ·exact fun _=>rfl
  ·refine ⟨?_,.mk ?_ (by simp [ak])⟩
   ·all_goals exact wk
   ·all_goals exact wk
  rintro ⟨j,W⟩ ⟨hj,hW,hWo⟩ _
  dsimp only at hj hW hWo
  have hWl:=hW.len
  (try dsimp only[aj]);conv=>whnf
  refine And.intro (fun g1=>?_) (fun g1=>?_)
  ·(try dsimp only[aj]);conv=>whnf
   refine ⟨eU (by omega) (by omega),?_⟩
   (try dsimp only[aj]);conv=>whnf
   obtain ⟨j,rfl⟩ : ∃ i,j = i + 1:=⟨j - 1,by omega⟩
   rw [show ((j + 1 : Nat) : Int) - 1 = (j : Int) by omega]
   have dmem : ∀ k,k < W.length -> bQ (W.getD k []):=fun k hk=>by
    rw [List.getD_eq_getElem?_getD,List.getElem?_eq_getElem hk]
    exact hWo _ (List.getElem_mem hk)
   refine ⟨by omega,?_⟩
   (try dsimp only[aj]);conv=>whnf
   refine aX (i:=j) rfl (by omega) ⟨rfl,?_⟩
   (try dsimp only[aj]);conv=>whnf
   have e1 : W.getD j default = V.getD j []:=hW.old j (by omega)
   have o1 : bQ (V.getD j []):=by rw [<- hW.old j (by omega)]; exact dmem j (by omega)
   rw [e1]
   refine .oJ _ _ ?_ rfl (Gv (V.getD j []) a o1 ha) fun R hq _=>?_
   ·exact au _
   obtain rfl | ⟨p,rfl,hp⟩:=hq
   ·(try dsimp only[aj]);conv=>whnf
    refine ⟨_,_,⟨rfl,rfl,.inl rfl⟩,?_⟩
    refine ⟨⟨_,_,.refl _ _,?_⟩⟩
    conv=>whnf
    refine ⟨?_,rfl,by simp [nextId],.mk ?_ (by simp [ak])⟩
    ·all_goals exact wk
    ·all_goals exact wk
   (try dsimp only[aj]);conv=>whnf
   refine ⟨by omega,?_⟩
   (try dsimp only[aj]);conv=>whnf
   refine aX (i:=j + 1) rfl (by omega) ⟨rfl,?_⟩
   (try dsimp only[aj]);conv=>whnf
   have e2 : W.getD (j + 1) default = V.getD (j + 1) []:=hW.old (j + 1) (by omega)
   have o2 : bQ (V.getD (j + 1) []):=by rw [<- hW.old (j + 1) (by omega)]; exact dmem (j + 1) (by omega)
   rw [e2]
   refine .oJ _ _ ?_ rfl (UA (V.getD (j + 1) []) p o2 (uD hp o1 ha)) fun R hq _=>?_
   ·exact au _
   obtain rfl | ⟨q,rfl,hq⟩:=hq
   ·(try dsimp only[aj]);conv=>whnf
    refine ⟨by omega,?_⟩
    (try dsimp only[aj]);conv=>whnf
    refine ⟨by simp; omega,rfl,?_⟩
    (try dsimp only[aj]);conv=>whnf
    refine ⟨_,_,⟨rfl,rfl,.inl rfl⟩,?_⟩
    refine ⟨⟨_,_,.refl _ _,?_⟩⟩
    conv=>whnf
    refine ⟨?_,rfl,by simp [nextId],.mk ?_ (by simp [ak])⟩
    ·all_goals exact wk
    ·all_goals exact wk
   (try dsimp only[aj]);conv=>whnf
   refine ⟨by omega,?_⟩
   (try dsimp only[aj]);conv=>whnf
   refine ⟨by simp; omega,rfl,?_⟩
   (try dsimp only[aj]);conv=>whnf
   refine ⟨eU (by omega) (by omega),?_⟩
   (try dsimp only[aj]);conv=>whnf
   refine ⟨(j,W.set (j + 1) q),⟨by dsimp only; omega,⟨by simpa using hWl,fun k hk=>?_,fun k h1 h2=>?_⟩,fun l hl=>?_⟩,?_,Nat.lt_succ_self j⟩
   ·rw [List.getD_eq_getElem?_getD,List.getElem?_set_ne (by dsimp only at hk; omega),<- List.getD_eq_getElem?_getD]
    exact hW.old k (by dsimp only at hk; omega)
   ·dsimp only at h1
    by_cases e : k = j + 1
    ·subst e
     refine ⟨p,hp,?_⟩
     rw [List.getD_eq_getElem?_getD (l:=W.set (j + 1) q),List.getElem?_set_self (by omega)]
     exact hq
    ·rw [List.getD_eq_getElem?_getD (l:=W.set (j + 1) q),List.getElem?_set_ne (by omega),<- List.getD_eq_getElem?_getD]
     exact hW.new k (by omega) h2
   ·rcases List.mem_or_eq_of_mem_set hl with hl | rfl
    ·exact hWo l hl
    ·exact Bg hq o2 (uD hp o1 ha)
   ·refine ⟨?_,.mk ?_ (by simp [ak])⟩
    ·repeat' first|exact rfl|exact trivial|exact wR|exact lR _|apply aI
     all_goals (dsimp only; omega)
    ·repeat' first|exact rfl|exact trivial|exact wR|exact lR _|apply aI
     all_goals (refine bM ?_; simp [List.map_set]; rfl)
  ·obtain rfl : j = 0:=by omega
   (try dsimp only[aj]);conv=>whnf
   refine zA ?_;conv=>whnf
   refine ⟨(i + 1,W),⟨hlt,by rw [hs]; exact hV.snoc hW,hWl.trans hVl,hWo⟩,?_,(by omega : args.length - (i + 1) < args.length - i)⟩
   refine ⟨?_,.mk ?_ (by simp [ak])⟩
   ·all_goals exact wk
   ·all_goals exact wk
 ·have hk : i = args.length:=by have : ¬ i < args.length:=by simpa using g
                                omega
  subst hk
  rw [List.take_length] at hV
  (try dsimp only[aj]);conv=>whnf
  refine ⟨by omega,?_⟩
  (try dsimp only[aj]);conv=>whnf
  refine aX (i:=m) rfl (by omega) ⟨rfl,?_⟩
  (try dsimp only[aj]);conv=>whnf
  refine ⟨_,_,⟨rfl,rfl,.inr ⟨V.getD m [],rfl,⟨V,hV,rfl⟩,?_⟩⟩,?_⟩
  ·rw [List.getD_eq_getElem?_getD,List.getElem?_eq_getElem (by omega)]
   exact hVo _ (List.getElem_mem (by omega))
  refine ⟨⟨_,_,.refl _ _,?_⟩⟩
  conv=>whnf
  refine ⟨?_,rfl,by simp [nextId],.mk ?_ (by simp [ak])⟩
  ·all_goals exact wk
  ·all_goals exact wk

theorem Gw (l : List Int) (hN : l.length <= 1000000000) : aQ Tryz.prog 61 [iA l] [] (iA l) []:=by
 refine aQ.intro lay mixed Tryz.func61 (by kernel_rfl) rfl (by kernel_rfl) rfl fun hok=>?_
 (try dsimp only[aP,aC]);(try dsimp only[aj]);conv=>whnf
 intro b hb
 (try dsimp only[aj]);conv=>whnf
 refine And.intro (fun h=>?_) (fun h=>?_)
 ·have hl : l = []:=by simpa using hb h
  subst hl
  (try dsimp only[aj]);conv=>whnf
  refine fM ?_;(conv=>whnf);refine ⟨?_,rfl⟩;conv=>whnf
  all_goals exact wk
 ·(try dsimp only[aj]);conv=>whnf
  refine .pure (by simp [maxL]; omega) (by simp; omega) ?_
  (try dsimp only[aj]);conv=>whnf
  refine fM ?_;(conv=>whnf);refine ⟨?_,rfl⟩;conv=>whnf
  all_goals exact wk

structure PL (x : Nd) (args : List (List Int)) (r : List Int) : Prop where
 c : x.kind = 0 -> r = if x.k = 0 then [0] else []
 o : x.kind = 3 -> OrR args r
 a : x.kind = 2 -> AndR args r
 v : x.kind = 4 -> VotR args (args.length - x.k.toNat + 1) r
 ok : bQ r

theorem Xd (x : Nd) (args : List (List Int)) (h : ∀ a,a ∈ args -> bQ a) (hn : args.length <= 16) (hx : x.kind = 0 \/ x.kind = 2 \/ x.kind = 3 \/ x.kind = 4) (hk : x.kind = 4 -> 1 <= x.k /\ x.k <= args.length) :
  dO Tryz.prog 68 [x.av,lA args] [] (PQ (Lu (PL x args))):=by
 refine dO.intro lay mixed Tryz.func68 (by kernel_rfl) rfl (by kernel_rfl) rfl fun hok=>?_
 (try dsimp only[aP,aC]);(try dsimp only[aj]);conv=>whnf
 refine And.intro (fun e0=>?_) (fun e0=>?_)
 ·(try dsimp only[aj]);conv=>whnf
  refine And.intro (fun ek=>?_) (fun ek=>?_)
  ·(try dsimp only[aj]);conv=>whnf
   refine ⟨_,_,⟨rfl,rfl,.inr ⟨[0],rfl,⟨fun _=>(if_pos ek).symm,fun e=>by omega,fun e=>by omega,fun e=>by omega,o8 (by omega)⟩⟩⟩,?_⟩
   refine ⟨⟨_,_,.refl _ _,?_⟩⟩
   conv=>whnf
   refine ⟨?_,rfl,by simp [nextId],.mk ?_ (by simp [ak])⟩
   ·all_goals exact wk
   ·all_goals exact wk
  ·(try dsimp only[aj]);conv=>whnf
   refine ⟨_,_,⟨rfl,rfl,.inr ⟨[],rfl,⟨fun _=>(if_neg ek).symm,fun e=>by omega,fun e=>by omega,fun e=>by omega,xW⟩⟩⟩,?_⟩
   refine ⟨⟨_,_,.refl _ _,?_⟩⟩
   conv=>whnf
   refine ⟨?_,rfl,by simp [nextId],.mk ?_ (by simp [ak])⟩
   ·all_goals exact wk
   ·all_goals exact wk
 (try dsimp only[aj]);conv=>whnf
 refine And.intro (fun e3=>?_) (fun e3=>?_)
 ·(try dsimp only[aj]);conv=>whnf
  refine .oJ _ _ ?_ rfl (c_pOr args h hn) fun R hq _=>?_
  ·exact au _
  obtain rfl | ⟨r,rfl,hr⟩:=hq
  ·(try dsimp only[aj]);conv=>whnf
   refine ⟨_,_,⟨rfl,rfl,.inl rfl⟩,?_⟩
   refine ⟨⟨_,_,.refl _ _,?_⟩⟩
   conv=>whnf
   refine ⟨?_,rfl,by simp [nextId],.mk ?_ (by simp [ak])⟩
   ·all_goals exact wk
   ·all_goals exact wk
  ·(try dsimp only[aj]);conv=>whnf
   refine ⟨_,_,⟨rfl,rfl,.inr ⟨r,rfl,⟨fun e=>by omega,fun _=>hr,fun e=>by omega,fun e=>by omega,hr.ok⟩⟩⟩,?_⟩
   refine ⟨⟨_,_,.refl _ _,?_⟩⟩
   conv=>whnf
   refine ⟨?_,rfl,by simp [nextId],.mk ?_ (by simp [ak])⟩
   ·all_goals exact wk
   ·all_goals exact wk
 (try dsimp only[aj]);conv=>whnf
 refine And.intro (fun e2=>?_) (fun e2=>?_)
 ·(try dsimp only[aj]);conv=>whnf
  refine .oJ _ _ ?_ rfl (YS args h hn) fun R hq _=>?_
  ·exact au _
  obtain rfl | ⟨r,rfl,hr⟩:=hq
  ·(try dsimp only[aj]);conv=>whnf
   refine ⟨_,_,⟨rfl,rfl,.inl rfl⟩,?_⟩
   refine ⟨⟨_,_,.refl _ _,?_⟩⟩
   conv=>whnf
   refine ⟨?_,rfl,by simp [nextId],.mk ?_ (by simp [ak])⟩
   ·all_goals exact wk
   ·all_goals exact wk
  ·(try dsimp only[aj]);conv=>whnf
   refine ⟨_,_,⟨rfl,rfl,.inr ⟨r,rfl,⟨fun e=>by omega,fun e=>by omega,fun _=>hr,fun e=>by omega,hr.ok⟩⟩⟩,?_⟩
   refine ⟨⟨_,_,.refl _ _,?_⟩⟩
   conv=>whnf
   refine ⟨?_,rfl,by simp [nextId],.mk ?_ (by simp [ak])⟩
   ·all_goals exact wk
   ·all_goals exact wk
 have e4 : x.kind = 4:=by omega
 have hk4:=hk e4
 (try dsimp only[aj]);conv=>whnf
 refine ⟨eU (by simp only [List.length_map]; omega) (by simp only [List.length_map]; omega),?_⟩
 (try dsimp only[aj]);conv=>whnf
 refine ⟨eU (by simp only [List.length_map]; omega) (by simp only [List.length_map]; omega),?_⟩
 (try dsimp only[aj]);conv=>whnf
 rw [show ((args.map iA).length : Int) - x.k + 1 = ((args.length - x.k.toNat + 1 : Nat) : Int) by simp only [List.length_map]; omega]
 refine .oJ _ _ ?_ rfl (Xc args h hn (args.length - x.k.toNat + 1) (by omega)) fun R hq _=>?_
 ·exact au _
 obtain rfl | ⟨r,rfl,hr⟩:=hq
 ·(try dsimp only[aj]);conv=>whnf
  refine ⟨_,_,⟨rfl,rfl,.inl rfl⟩,?_⟩
  refine ⟨⟨_,_,.refl _ _,?_⟩⟩
  conv=>whnf
  refine ⟨?_,rfl,by simp [nextId],.mk ?_ (by simp [ak])⟩
  ·all_goals exact wk
  ·all_goals exact wk
 ·(try dsimp only[aj]);conv=>whnf
  refine ⟨_,_,⟨rfl,rfl,.inr ⟨r,rfl,⟨fun e=>by omega,fun e=>by omega,fun e=>by omega,fun _=>hr,hr.ok⟩⟩⟩,?_⟩
  refine ⟨⟨_,_,.refl _ _,?_⟩⟩
  conv=>whnf
  refine ⟨?_,rfl,by simp [nextId],.mk ?_ (by simp [ak])⟩
  ·all_goals exact wk
  ·all_goals exact wk

theorem KP (f : Fo) (h : su f) (hc : qY f = true) : aQ Tryz.prog 67 [f.av] [] .bH []:=by
 have cs:=Gx f h
 rw [hc] at cs
 refine aQ.intro lay mixed Tryz.func67 (by kernel_rfl) rfl (by kernel_rfl) rfl fun hok=>?_
 (try dsimp only[aP,aC]);(try dsimp only[aj]);conv=>whnf
 refine .pure _ _ ?_ ⟨rfl,rfl⟩ cs fun _=>?_
 ·exact au _
 (try dsimp only[aj]);conv=>whnf
 refine And.intro (fun e=>by cases e) (fun _=>?_)
 (try dsimp only[aj]);conv=>whnf
 refine fM ?_;(conv=>whnf);refine ⟨?_,rfl⟩;conv=>whnf
 all_goals exact wk

theorem FY {l : List (List Int)} {r : List Int} {n m : Nat} {X : AV} (hn : n = l.length) (hm : l.length <= m) (hX : pK X (iA r)) : gq ((l.map iA).take n ++ [X] ++ (l.map iA).drop m) ((l ++ [r]).map iA):=by
 rw [List.take_of_length_le (by simp; omega),List.drop_eq_nil_of_le (by simp; omega),List.append_nil,List.map_append]
 generalize l.map iA = u
 induction u with
 | nil=>exact ⟨hX,trivial⟩
 | cons x u ih=>exact ⟨nV x,ih⟩

structure rG (t : Fo) (k : Nat) (l : List (List Int)) : Prop where
 len : l.length = t.vars.toNat + k
 ev : ∀ i,i < t.vars.toNat -> l.getD i [] = [((2 ^ i : Nat) : Int)]
 nd : ∀ (i : Nat) (h : i < t.nodes.length),i < k -> PL t.nodes[i] (t.nodes[i].args.map fun a=>l.getD a.toNat []) (l.getD (t.vars.toNat + i) [])
 ok : ∀ x,x ∈ l -> bQ x

theorem rG.snoc {t : Fo} {i : Nat} {l : List (List Int)} {r : List Int} (h : rG t i l) (hv : 0 <= t.vars) (k3 : ∀ (i : Nat) (h : i < t.nodes.length),IX t.vars i t.nodes[i]) (hi : i < t.nodes.length)
  (hr : PL t.nodes[i] (t.nodes[i].args.map fun a=>l.getD a.toNat []) r) : rG t (i + 1) (l ++ [r]):=by
 have hl:=h.len
 have g : ∀ j,j < t.vars.toNat + i -> (l ++ [r]).getD j [] = l.getD j []:=fun j hj=>by
  rw [List.getD_eq_getElem?_getD,List.getElem?_append_left (by omega),<- List.getD_eq_getElem?_getD]
 have gm : ∀ (j : Nat) (hj : j < t.nodes.length),j <= i -> (t.nodes[j].args.map fun a=>(l ++ [r]).getD a.toNat []) = t.nodes[j].args.map fun a=>l.getD a.toNat []:=fun j hj hji=>by
  refine List.map_congr_left fun a ha=>g _ ?_
  have:=(k3 j hj).args a ha
  omega
 refine ⟨by simp; omega,fun j hj=>by rw [g j (by omega)]; exact h.ev j hj,fun j hj hji=>?_,fun x hx=>?_⟩
 ·rw [gm j hj (by omega)]
  rcases Nat.lt_or_ge j i with h1 | h1
  ·rw [g _ (by omega)]; exact h.nd j hj h1
  ·obtain rfl : j = i:=by omega
   rw [List.getD_eq_getElem?_getD (l:=l ++ [r]),List.getElem?_append_right (by omega),show t.vars.toNat + j - l.length = 0 by omega]
   exact hr
 ·rcases List.mem_append.1 hx with hx | hx
  ·exact h.ok x hx
  ·rw [List.mem_singleton.1 hx]; exact hr.ok

structure wQ (f : Fo) (m : List Int) : Prop where
 ex : ∃ l,rG (trimF f) (trimF f).nodes.length l /\ m = l.getD (trimF f).top.toNat []
 ok : bQ m

theorem Xm (f : Fo) (h : su f) (hc : qY f = true) : dO Tryz.prog 46 [f.av] [] (PQ (Lu (wQ f))):=by
 have cc:=KP f h hc
 have ct:=Pm f h
 obtain ⟨k1,k2,k3,k4⟩:=(Bf f h).1
 have hkind : ∀ (i : Nat) (hi : i < (trimF f).nodes.length),kZ (trimF f).nodes[i] = false:=fun i hi=>by
  unfold qY at hc
  rw [Bool.not_eq_true',List.any_eq_false] at hc
  have:=hc _ (List.getElem_mem hi)
  simpa using this
 have hF : ∀ m,(∃ l,rG (trimF f) (trimF f).nodes.length l /\ m = l.getD (trimF f).top.toNat []) -> bQ m -> wQ f m:=fun m a b=>⟨a,b⟩
 generalize trimF f = t at *
 refine dO.intro lay mixed Tryz.func46 (by kernel_rfl) rfl (by kernel_rfl) rfl fun hok=>?_
 (try dsimp only[aP,aC]);(try dsimp only[aj]);conv=>whnf
 refine .pure _ _ ?_ ⟨rfl,rfl⟩ cc fun _=>?_
 ·exact au _
 (try dsimp only[aj]);conv=>whnf
 refine .pure _ _ ?_ ⟨rfl,rfl⟩ ct fun _=>?_
 ·exact au _
 (try dsimp only[aj]);conv=>whnf
 refine ⟨eU (by simp only [List.length_map]; omega) (by simp only [List.length_map]; omega),?_⟩
 (try dsimp only[aj]);conv=>whnf
 rw [show t.vars + ((t.nodes.map Nd.av).length : Int) = ((t.vars.toNat + t.nodes.length : Nat) : Int) by simp only [List.length_map]; omega]
 refine ⟨⟨by omega,by omega,by show ((t.vars.toNat + t.nodes.length : Nat) : Int) * ((24 : Nat) : Int) <= 281474976710656; omega,by omega⟩,.wr ?_⟩
 rw [Int.toNat_natCast]
 (try dsimp only[aj]);conv=>whnf
 refine aN.of <| (aA.inv (.refl _ _) (fun k : Nat=>k <= t.vars.toNat) (fun k=>[(38,.int .i64 (k : Int)),(7,.ms 2 0 k (t.vars.toNat + t.nodes.length) 1)]) (fun k=>[(2,.arr 1 (t.vars.toNat + t.nodes.length) (((List.range k).map fun i=>[((2 ^ i : Nat) : Int)]).map iA)),(1,.box t.av),(0,.box f.av)]) (fun k=>t.vars.toNat - k) 0 (Nat.zero_le _) ?_ ?_ ?_)
 ·exact fun _=>rfl
 ·refine ⟨?_,.mk ?_ (by simp [ak])⟩
  ·all_goals exact wk
  ·all_goals exact wk
 intro k hk _
 (try dsimp only[aj]);conv=>whnf
 refine And.intro (fun g=>?_) (fun g=>?_)
 ·have hlt : k < t.vars.toNat:=by omega
  (try dsimp only[aj]);conv=>whnf
  refine ⟨by omega,?_⟩
  rw [jH (i:=k) (by omega)]
  (try dsimp only[aj]);conv=>whnf
  refine ⟨⟨by simp,by simp; omega,by simp; omega⟩,?_⟩
  (try dsimp only[aj]);conv=>whnf
  refine zA ?_;conv=>whnf
  refine ⟨k + 1,?_,?_,?_⟩
  ·exact hlt
  ·refine ⟨?_,.mk ?_ (by simp [ak])⟩
   ·all_goals exact wk
   ·repeat' first|exact rfl|exact trivial|exact wR|exact lR _|apply aI
    all_goals first | (rw [List.range_succ,List.map_append]; exact FY (by simp) (by simp) (nV _)) | skip
  ·omega
 have hk : k = t.vars.toNat:=by omega
 subst hk
 (try dsimp only[aj]);conv=>whnf
 refine aN.of <| (aA.inv (.refl _ _) (fun x : Nat × List (List Int)=>x.1 <= t.nodes.length /\ rG t x.1 x.2) (fun x=>[(51,.int .i64 (x.1 : Int)),(7,.ms 2 0 (t.vars.toNat + x.1) (t.vars.toNat + t.nodes.length) 1)]) (fun x=>[(2,.arr 1 (t.vars.toNat + t.nodes.length) (x.2.map iA)),(1,.box t.av),(0,.box f.av)]) (fun x=>t.nodes.length - x.1) (0,(List.range t.vars.toNat).map fun i=>[((2 ^ i : Nat) : Int)]) ⟨Nat.zero_le _,⟨by simp,fun i hi=>?_,fun i h1 h2=>absurd h2 (Nat.not_lt_zero _),fun x hx=>?_⟩⟩ ?_ ?_ ?_)
 ·rw [List.getD_eq_getElem?_getD,List.getElem?_map,List.getElem?_range hi]; rfl
 ·obtain ⟨i,hi,rfl⟩:=List.mem_map.1 hx
  have hi:=List.mem_range.1 hi
  have : 2 ^ i <= 2 ^ 23:=Nat.pow_le_pow_right (by decide) (by omega)
  generalize 2 ^ i = z at *
  exact o8 (by omega)
 ·exact fun _=>rfl
 ·refine ⟨?_,.mk ?_ (by simp [ak])⟩
  ·all_goals exact wk
  ·all_goals exact wk
 rintro ⟨i,l⟩ ⟨hi,hl⟩ _
 dsimp only at hi hl
 have hll:=hl.len
 (try dsimp only[aj]);conv=>whnf
 refine And.intro (fun g=>?_) (fun g=>?_)
 ·have hlt : i < t.nodes.length:=by simpa using g
  have nk:=k3 i hlt
  have hkd:=hkind i hlt
  have hN : ∀ r,PL t.nodes[i] (t.nodes[i].args.map fun a=>l.getD a.toNat []) r -> rG t (i + 1) (l ++ [r]):=fun r hr=>hl.snoc k1.1 k3 hlt hr
  (try dsimp only[aj]);conv=>whnf
  refine iq hlt ?_
  generalize t.nodes[i] = x at *
  (try dsimp only[aj]);conv=>whnf
  have Zz:=nk.num
  have nka:=nk.args
  have hal : x.args.length <= 16:=by split at Zz <;> (try split at Zz) <;> omega
  refine aN.of <| (aA.inv (.grow 11 1 [] .aV rfl (.inl ⟨rfl,rfl⟩) (.refl _ _)) (fun j : Nat=>j <= x.args.length) (fun j=>[(58,.int .i64 (j : Int)),(11,.sl 1 (((x.args.take j).map fun a=>l.getD a.toNat []).map iA) (.own 4))]) (fun j=>[(4,.tok 1 j),(3,.box x.av),(2,.arr 1 (t.vars.toNat + t.nodes.length) (l.map iA)),(1,.box t.av),(0,.box f.av)]) (fun j=>x.args.length - j) 0 (Nat.zero_le _) ?_ ?_ ?_)
  ·exact fun _=>rfl
  ·refine ⟨?_,.mk ?_ (by simp [ak])⟩
   ·all_goals exact wk
   ·all_goals exact wk
  intro j hj _
  (try dsimp only[aj]);conv=>whnf
  refine And.intro (fun g1=>?_) (fun g1=>?_)
  ·have hlj : j < x.args.length:=by simpa using g1
   have hs:=List.take_succ_eq_append_getElem hlj
   have haj:=nka _ (List.getElem_mem hlj)
   (try dsimp only[aj]);conv=>whnf
   refine iq hlj ?_
   generalize x.args[j] = a at *
   (try dsimp only[aj]);conv=>whnf
   refine ⟨⟨by omega,by omega⟩,?_⟩
   (try dsimp only[aj]);conv=>whnf
   refine aX (i:=a.toNat) (by omega) (by omega) ⟨rfl,?_⟩
   (try dsimp only[aj]);conv=>whnf
   refine ⟨by simp; omega,.mk (by simp [maxL]; omega) (by simp; omega) ?_⟩
   (try dsimp only[aj]);conv=>whnf
   refine zA ?_;conv=>whnf
   refine ⟨j + 1,?_,?_,?_⟩
   ·exact hlj
   ·rw [hs,List.map_append,List.map_append]
    refine ⟨?_,.mk ?_ (by simp [ak])⟩
    ·repeat' first|exact rfl|exact trivial|exact wR|exact lR _|apply aI
     all_goals first | exact bM rfl | (simp; done) | skip
    ·repeat' first|exact rfl|exact trivial|exact wR|exact lR _|apply aI
     all_goals first | (simp; done) | (simp; omega) | skip
   ·omega
  have hj' : j = x.args.length:=by have : ¬ j < x.args.length:=by simpa using g1
                                   omega
  subst hj'
  rw [List.take_length]
  (try dsimp only[aj]);conv=>whnf
  have hargs : ∀ a,a ∈ (x.args.map fun a=>l.getD a.toNat []) -> bQ a:=fun a ha=>by
   obtain ⟨y,hy,rfl⟩:=List.mem_map.1 ha
   have hyb:=nka y hy
   rw [List.getD_eq_getElem?_getD,List.getElem?_eq_getElem (by omega)]
   exact hl.ok _ (List.getElem_mem (by omega))
  have hxk : x.kind = 0 \/ x.kind = 2 \/ x.kind = 3 \/ x.kind = 4:=by
   have:=nk.kind
   unfold kZ at hkd
   simp at hkd
   omega
  have hk4 : x.kind = 4 -> 1 <= x.k /\ x.k <= ((x.args.map fun a=>l.getD a.toNat []).length : Int):=fun e=>by
   have:=nk.k
   rw [if_neg (by omega),if_pos e] at this
   rw [List.length_map]; exact this
  refine .oJ _ _ ?_ rfl (Xd x (x.args.map fun a=>l.getD a.toNat []) hargs (by rw [List.length_map]; exact hal) hxk hk4) fun R hq _=>?_
  ·all_goals exact wk
  obtain rfl | ⟨r,rfl,hr⟩:=hq
  ·(try dsimp only[aj]);conv=>whnf
   refine ⟨_,_,⟨rfl,rfl,.inl rfl⟩,?_⟩
   refine ⟨⟨_,_,.refl _ _,?_⟩⟩
   conv=>whnf
   refine ⟨?_,rfl,by simp [nextId],.mk ?_ (by simp [ak])⟩
   ·all_goals exact wk
   ·all_goals exact wk
  have hr':=hN r hr
  (try dsimp only[aj]);conv=>whnf
  refine ⟨⟨by simp; omega,by simp; omega,by simp; omega⟩,?_⟩
  (try dsimp only[aj]);conv=>whnf
  refine zA ?_;conv=>whnf
  refine ⟨(i + 1,l ++ [r]),⟨hlt,hr'⟩,?_,(by omega : t.nodes.length - (i + 1) < t.nodes.length - i)⟩
  refine ⟨?_,.mk ?_ (by simp [ak])⟩
  ·all_goals exact wk
  ·repeat' first|exact rfl|exact trivial|exact wR|exact lR _|apply aI
   all_goals exact FY (by omega) (by simp; omega) (nV _)
 ·have hk : i = t.nodes.length:=by have : ¬ i < t.nodes.length:=by simpa using g
                                   omega
  subst hk
  (try dsimp only[aj]);conv=>whnf
  refine ⟨⟨by omega,by omega⟩,?_⟩
  (try dsimp only[aj]);conv=>whnf
  refine aX (i:=t.top.toNat) (by omega) (by omega) ⟨rfl,?_⟩
  (try dsimp only[aj]);conv=>whnf
  have hm : bQ (l.getD t.top.toNat []):=by
   rw [List.getD_eq_getElem?_getD,List.getElem?_eq_getElem (by omega)]
   exact hl.ok _ (List.getElem_mem (by omega))
  have hP:=hF _ ⟨l,hl,rfl⟩ hm
  rw [show l.getD t.top.toNat default = l.getD t.top.toNat [] from rfl]
  have hml:=hm.len
  generalize l.getD t.top.toNat [] = m at *
  refine .pure _ _ ?_ ⟨rfl,rfl⟩ (Gw m (by omega)) fun _=>?_
  ·exact au _
  (try dsimp only[aj]);conv=>whnf
  refine ⟨_,_,⟨rfl,rfl,.inr ⟨m,rfl,hP⟩⟩,?_⟩
  refine ⟨⟨_,_,.refl _ _,?_⟩⟩
  conv=>whnf
  refine ⟨?_,rfl,by simp [nextId],.mk ?_ (by simp [ak])⟩
  ·all_goals exact wk
  ·all_goals exact wk

structure Rw where
 e : Nat
 b : Nat
 deriving DecidableEq

instance : Inhabited Rw:=⟨⟨0,0⟩⟩





theorem MP {a : Nat} (h : a < 2 ^ 63) : aJ a a = 0:=by
 apply Nat.eq_of_testBit_eq
 intro i
 rw [jg (by omega)]
 cases a.testBit i <;> simp



end S
