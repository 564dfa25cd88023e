/-
  Contracts of functions of the program, over the logic of the texts before. Nothing is assumed.
-/
import Derived.Test.YtjbhbpieccloeaaT4

namespace Go.AL

inductive Mk where
 | n | s (x y : Mk) | j (x y : Mk) | f (js : List Nat) (x : Mk) | c (x y : Mk) | b (x : Mk) | t (x : Mk)

def Mk.r : Nat -> Mk -> Mk
 | 0,m=>m
 | k + 1,m=>.s .n (Mk.r k m)

structure Yi (gU : AV -> Prop) (H : Heap) (A : (AX -> Env -> Heap -> Prop) -> Prop) (B : Env -> Heap -> Prop) (Q : AX -> Env -> Heap -> Prop) : Prop where
 ex : ∃ (ι : Type) (E : ι -> Env) (HS : ι -> Heap),A (fun x e' H'=>match x with
   | .normal=>∃ i,nextId H <= nextId (HS i) /\ LP e' (nextId (HS i)) (E i) /\ HWk H' (HS i)
   | x=>Q x e' H') /\ ∀ i,(∀ t A,(t,A) ∈ E i -> gU A) -> B (E i) (HS i)

inductive VK (e : Env) (H : Heap) (K : Env -> Heap -> Prop) : Prop where
 | skip (h : K e H)
 | go (t j sz : Nat) (l : List AV) (h : dL e t = some (.gs j l.length)) (ho : hget H j = some (.gV sz l)) (ne : l ≠ [])
   (next : ∀ cp,l.length <= cp -> cp <= maxL -> K ((t,.ms (nextId H) 0 l.length cp sz) :: e) ((nextId H,.arr sz cp l) :: hset H j .gone))

section
variable (F : FT) (gU : AV -> Prop) (L : Lay)

def mX : Mk -> Code -> (AX -> Env -> Heap -> Prop) -> Env -> Heap -> Prop
 | .n,c,Q,e,H=>aj F gU L c Q e H
 | .s x y,.seq a b,Q,e,H=>mX x a (fun z e' H'=>match z with | .normal=>mX y b Q e' H' | z=>Q z e' H') e H
 | .j x y,.seq a b,Q,e,H=>Yi gU H (fun K=>mX x a K e H) (mX y b Q) Q
 | .f js m,c,Q,e,H=>OI js e H fun e' H'=>mX m c Q e' H'
 | .t m,c,Q,e,H=>VK e H fun e' H'=>mX m c Q e' H'
 | .c x y,.cond o a b,Q,e,H=>bI e o fun A=>br A (mX x a Q e H) (mX y b Q e H)
 | .b m,.block i b,Q,e,H=>mX m b (fun x e' H'=>match x with
   | .exit j=>(match Nat.beq j i with | true=>Q .normal e' H' | false=>Q (.exit j) e' H')
   | x=>Q x e' H') e H
 | .b m,.loop b,Q,e,H=>aJ gU (writes b) (mX m b) Q e H
 | _,_,_,_,_=>False
end

section
variable {P : Program} {L : Lay} {F : FT}

theorem fZ (hL : bW P L) (hm : P.follows .mixedOrders = true) (hFn : FS P F) {n : Nat} :
  ∀ (m : Mk) (code : Code) (Q : AX -> Env -> Heap -> Prop) (e : Env) (H : Heap) (c : Cx) (a : Act),jD n code = true -> HR c H -> oI n c e a -> mX F Ok L m code Q e H ->
    code.wp P (Post n (writes code) c H a Q) a c.w
 | .n,code,Q,e,H,c,a,hc,hr,ha,h=>iW hL hm hFn code Q e H c a hc hr ha (by simpa only [mX] using h)
 | .s m1 m2,.seq x y,Q,e,H,c,a,hc,hr,ha,h=>by
   simp only [jD,Bool.and_eq_true] at hc
   simp only [mX] at h
   refine wp_seq (wp_mono (fZ hL hm hFn m1 x _ e H c a hc.1 hr ha h) ?_)
   rintro ex a' w' ⟨x',e',H',c',rfl,hq,rfl,htr,ha',hf⟩
   cases x' with
   | normal =>
     refine wp_mono (fZ hL hm hFn m2 y _ e' H' c' a' hc.2 htr.hr ha' hq) ?_
     rintro ex a'' w'' ⟨x',e'',H7,c'',rfl,hq,rfl,iI,oC,hf'⟩
     exact ⟨x',e'',H7,c'',rfl,hq,rfl,htr.trans iI,oC,hf.trans hf'⟩
   | exit i=>exact ⟨.exit i,e',H',c',rfl,hq,rfl,htr,ha',hf.mono fun t ht=>List.mem_append_left _ ht⟩
   | ret=>exact ⟨.ret,e',H',c',rfl,hq,rfl,htr,ha',hf.mono fun t ht=>List.mem_append_left _ ht⟩
 | .j m1 m2,.seq x y,Q,e,H,c,a,hc,hr,ha,h=>by
   simp only [jD,Bool.and_eq_true] at hc
   simp only [mX] at h
   obtain ⟨ι,E,HS,hA,hB⟩:=h.ex
   refine wp_seq (wp_mono (fZ hL hm hFn m1 x _ e H c a hc.1 hr ha hA) ?_)
   rintro ex a' w' ⟨x',e',H',c',rfl,hq,rfl,htr,ha',hf⟩
   cases x' with
   | normal =>
     obtain ⟨i,hn,hwE,QN⟩:=hq
     have QN:=QN.YC htr.hr
     have hall:=NC ha'.env htr.hr QN hwE
     have iI:=htr.cut QN (by rw [hr.nx]; exact hn)
     have ha1 : oI n (c'.cut (HS i)) (E i) a':=⟨fun t A hA=>hall t A (BG hA),ha'.defers,ha'.size⟩
     refine wp_mono (fZ hL hm hFn m2 y _ (E i) (HS i) (c'.cut (HS i)) a' hc.2 iI.hr ha1 (hB i fun t A hm=>xw (hall t A hm))) ?_
     rintro ex a'' w'' ⟨x',e'',H7,c'',rfl,hq,rfl,XH,oC,hf'⟩
     exact ⟨x',e'',H7,c'',rfl,hq,rfl,iI.trans XH,oC,hf.trans hf'⟩
   | exit i=>exact ⟨.exit i,e',H',c',rfl,hq,rfl,htr,ha',hf.mono fun t ht=>List.mem_append_left _ ht⟩
   | ret=>exact ⟨.ret,e',H',c',rfl,hq,rfl,htr,ha',hf.mono fun t ht=>List.mem_append_left _ ht⟩
 | .f js m,code,Q,e,H,c,a,hc,hr,ha,h=>by
   have h : OI js e H fun e' H'=>mX F Ok L m code Q e' H':=by simpa only [mX] using h
   obtain ⟨e1,H1,d,hw,htr,ha1,h1⟩:=uP hr ha h
   rw [<- hw]
   refine wp_mono (fZ hL hm hFn m code Q e1 H1 d a hc htr.hr ha1 h1) ?_
   rintro ex a' w' ⟨x',e',H',c',rfl,hq,rfl,iI,ha',hf'⟩
   exact ⟨x',e',H',c',rfl,hq,rfl,htr.trans iI,ha',hf'⟩
 | .t m,code,Q,e,H,c,a,hc,hr,ha,h=>by
   have h : VK e H fun e' H'=>mX F Ok L m code Q e' H':=by simpa only [mX] using h
   cases h with
   | skip h=>exact fZ hL hm hFn m code Q e H c a hc hr ha h
   | go t j sz l he ho ne next =>
     have hv:=ha.env t _ he
     obtain ⟨cp,h1,h2,d,hw,htr,hV⟩:=Tr.thaw hr ho ne hv
     have h:=next cp h1 h2
     have ha':=ha.mono htr.le
     have:=fZ hL hm hFn m code Q _ _ d a hc htr.hr ⟨fun t' B hB=>by
      simp only [dL] at hB
      cases hb : Nat.beq t t' with
      | true =>
        rw [hb] at hB
        obtain rfl:=Nat.eq_of_beq_eq_true hb
        obtain rfl:=Option.some.inj hB
        exact aS hV
      | false=>rw [hb] at hB; exact ha'.env _ _ hB,ha.defers,ha.size⟩ h
     rw [hw] at this
     refine wp_mono this ?_
     rintro ex a'' w'' ⟨x'',e'',H7,c'',rfl,hq,rfl,iI,oC,hf'⟩
     exact ⟨x'',e'',H7,c'',rfl,hq,rfl,htr.trans iI,oC,hf'⟩
 | .c m1 m2,.cond o x y,Q,e,H,c,a,hc,hr,ha,h=>by
   simp only [jD,Bool.and_eq_true] at hc
   simp only [mX] at h
   obtain ⟨A,hA,h⟩:=aG ha.env hc.1.1 h
   obtain ⟨b,hb,h1,h2⟩:=Jr hA h
   refine wp_cond_split hb (fun hb=>?_) (fun hb=>?_)
   ·refine wp_mono (fZ hL hm hFn m1 x Q e H c a hc.1.2 hr ha (h1 hb)) ?_
    rintro ex a' w' ⟨x',e',H',c',g1,g2,g3,g4,g5,g6⟩
    exact ⟨x',e',H',c',g1,g2,g3,g4,g5,g6.mono fun t ht=>List.mem_append_left _ ht⟩
   ·refine wp_mono (fZ hL hm hFn m2 y Q e H c a hc.2 hr ha (h2 hb)) ?_
    rintro ex a' w' ⟨x',e',H',c',g1,g2,g3,g4,g5,g6⟩
    exact ⟨x',e',H',c',g1,g2,g3,g4,g5,g6.mono fun t ht=>List.mem_append_right _ ht⟩
 | .b m,.block i b,Q,e,H,c,a,hc,hr,ha,h=>by
   simp only [mX] at h
   refine wp_block (wp_mono (fZ hL hm hFn m b _ e H c a hc hr ha h) ?_)
   rintro ex a' w' ⟨x',e',H',c',rfl,hq,g3,g4,g5,g6⟩
   cases x' with
   | normal=>exact ⟨.normal,e',H',c',rfl,hq,g3,g4,g5,g6⟩
   | exit j =>
     simp only [AX.Xm,Exit.inBlock]
     cases hb : Nat.beq j i with
     | true =>
       have hq : (match Nat.beq j i with | true=>Q .normal e' H' | false=>Q (.exit j) e' H'):=hq
       rw [hb] at hq
       rw [if_pos (Nat.eq_of_beq_eq_true hb)]
       exact ⟨.normal,e',H',c',rfl,hq,g3,g4,g5,g6⟩
     | false =>
       have hq : (match Nat.beq j i with | true=>Q .normal e' H' | false=>Q (.exit j) e' H'):=hq
       rw [hb] at hq
       rw [if_neg (eG hb)]
       exact ⟨.exit j,e',H',c',rfl,hq,g3,g4,g5,g6⟩
   | ret=>exact ⟨.ret,e',H',c',rfl,hq,g3,g4,g5,g6⟩
 | .b m,.loop b,Q,e,H,c,a,hc,hr,ha,h=>Bc (fun Q e H c a=>fZ hL hm hFn m b Q e H c a hc) hr ha (by simpa only [mX] using h)

theorem dK.mQ (m : Mk) (hL : bW P L) (hm : P.follows .mixedOrders = true) {f : Nat} {fn : Func} {code : Code} (hf : P.funcs[f]? = some fn) (hn : (fn.name == "runtime.NumGoroutine") = false) (hb : fn.body = some code)
  (hc : jD fn.ntmps code = true) {args : List AV} {H : Heap} {Q : AV -> Heap -> Prop} (ha : Nat.ble args.length fn.ntmps = true)
  (h : vg args -> aU 0 args fun e=>mX (FP P) Ok L m code (Vp L fn.results.toList H Q) e H) : dK P f args H Q :=
 dK.Gm (B:=mX (FP P) Ok L m code) (fun Q' e H' c a hr ha h=>fZ hL hm (TL P) m code Q' e H' c a hc hr ha h) hL hf hn hb (fun _ _ _ h=>h) ha h
end
end Go.AL

open Go Go.AL Go.Proofs
namespace S
set_option maxRecDepth 100000

theorem RU {cf : Int -> Int -> Int} {g : Nat} (hcf : yE cf g) (n cp a b pv : Nat) (hN : n <= 1152921504606846976) (hab : a < b) (hb : b <= n) (hpv : a <= pv /\ pv < b) (l : List Int) (hl : l.length = n) :
  dK Try.prog 70 [.ms 0 0 n cp 1,.int .i64 a,.int .i64 b,.int .i64 pv,.fn g []] (jZ cp l) (fun R H'=>∃ i : Nat,(a < i /\ i <= b) /\ R = .int .i64 i /\ ∃ l',List.Perm l' l /\ H' = jZ cp l'):=by
 have hp0 : List.Perm (swp l a pv) l:=dX (by omega) (by omega)
 refine dK.mQ (.r 3 (.s (.b (.b (.b (.j .n (.j .n .n))))) .n)) lay mixed Try.func70 (by kernel_rfl) rfl (by kernel_rfl) rfl fun hok=>?_
 (try dsimp only[aU,aH]);(try dsimp only[aj]);conv=>whnf
 refine bg.auto (by kernel_rfl) ?_;conv=>whnf
 refine ⟨by omega,?_⟩
 conv=>whnf
 refine aO (i:=pv) (by omega) (by omega) ⟨rfl,?_⟩
 conv=>whnf
 refine ⟨by omega,?_⟩
 conv=>whnf
 refine aO (i:=a) (by omega) (by omega) ⟨rfl,?_⟩
 conv=>whnf
 refine ⟨by omega,?_⟩
 conv=>whnf
 refine ⟨by simp; omega,rfl,?_⟩
 conv=>whnf
 refine ⟨by omega,?_⟩
 conv=>whnf
 refine ⟨by simp; omega,rfl,?_⟩
 conv=>whnf
 try dsimp only [strip]
 rw [fH (f:=AV.int .i64) (l:=l) (i:=a) (j:=pv) (y:=(a : Int)) (z:=(pv : Int)) (by omega) (by omega)]
 generalize swp l a pv = m0 at *
 (try dsimp only[aj]);conv=>whnf
 refine zA ?_;conv=>whnf
 refine zA ?_;conv=>whnf
 rw [show (a : Int) + 1 = ((a + 1 : Nat) : Int) by omega,show (b : Int) - 1 = ((b - 1 : Nat) : Int) by omega]
 refine aJ.of <| (aA.inv (.refl _ _) (fun x : Nat × Nat × List Int=>((a < x.1 /\ x.1 <= b) /\ a <= x.2.1 /\ x.2.1 < b) /\ List.Perm x.2.2 l) (fun x=>[(11,.int .i64 (x.1 : Int)),(12,.int .i64 (x.2.1 : Int))]) (fun x=>jZ cp x.2.2) (fun x=>b - x.1) (a + 1,b - 1,m0) ?_ ?_ ?_ ?_)
 ·exact ⟨by dsimp only; omega,hp0⟩
 ·exact fun _=>rfl
 ·refine ⟨?_,.mk ?_ (by simp [ak])⟩
  ·all_goals exact wk
  ·all_goals exact wk
 rintro ⟨i0,j0,m⟩ ⟨⟨hi0,hj0⟩,hp⟩ _
 dsimp only at hi0 hj0 hp ⊢
 have hml : m.length = n:=by rw [hp.length_eq,hl]
 (try dsimp only[aj]);conv=>whnf
 refine ⟨⟨{x : Nat // i0 <= x /\ x <= b},fun x=>[(11,.int .i64 (x.1 : Int)),(12,.int .i64 ((j0 : Int))),(0,.ms 0 0 n cp 1),(1,.int .i64 a),(4,.fn g [])],fun _=>jZ cp m,?_,?_⟩⟩
 ·(try dsimp only[aj]);conv=>whnf
  refine aJ.of <| (aA.inv (.refl _ _) (fun i : Nat=>i0 <= i /\ i <= b) (fun i=>[(11,.int .i64 (i : Int))]) (fun _=>jZ cp m) (fun i=>b - i) (i0) ?_ ?_ ?_ ?_)
  ·exact ⟨Nat.le_refl _,by omega⟩
  ·exact fun _=>rfl
  ·refine ⟨?_,.mk ?_ (by simp [ak])⟩
   ·all_goals exact wk
   ·all_goals exact wk
  intro i hi _
  (try dsimp only[aj]);conv=>whnf
  refine bg.auto (by kernel_rfl) ?_;conv=>whnf
  refine And.intro (fun p=>?_) (fun p=>?_)
  ·conv=>whnf
   refine ⟨by omega,?_⟩
   conv=>whnf
   refine aO (i:=a) (by omega) (by omega) ⟨rfl,?_⟩
   conv=>whnf
   refine ⟨by omega,?_⟩
   conv=>whnf
   refine aO (i:=i) (by omega) (by omega) ⟨rfl,?_⟩
   conv=>whnf
   refine eu.pure _ _ ?_ ⟨rfl,rfl⟩ (hcf (m.getD (a) default) (m.getD (i) default)) ?_
   ·exact au _
   (try dsimp only[aj]);conv=>whnf
   refine And.intro (fun p2=>?_) (fun p2=>?_)
   ·(try dsimp only[aj]);conv=>whnf
    refine zA ?_;conv=>whnf
    refine ⟨i + 1,?_,?_,?_⟩
    ·omega
    ·refine ⟨?_,.mk ?_ (by simp [ak])⟩
     ·all_goals exact wk
     ·all_goals exact wk
    ·omega
   ·(try dsimp only[aj]);conv=>whnf
    refine ⟨⟨i,by omega⟩,by simp [nextId],?_,.mk ?_ (by simp [ak])⟩
    ·all_goals exact wk
    ·all_goals exact wk
  ·(try dsimp only[aj]);conv=>whnf
   refine ⟨⟨i,by omega⟩,by simp [nextId],?_,.mk ?_ (by simp [ak])⟩
   ·all_goals exact wk
   ·all_goals exact wk
 rintro ⟨i,hi⟩ _
 try dsimp only
 (try dsimp only[aj]);conv=>whnf
 refine ⟨⟨{x : Nat // a <= x /\ x <= j0},fun x=>[(12,.int .i64 (x.1 : Int)),(11,.int .i64 ((i : Int))),(0,.ms 0 0 n cp 1),(1,.int .i64 a),(4,.fn g [])],fun _=>jZ cp m,?_,?_⟩⟩
 ·(try dsimp only[aj]);conv=>whnf
  refine aJ.of <| (aA.inv (.refl _ _) (fun j : Nat=>a <= j /\ j <= j0) (fun j=>[(12,.int .i64 (j : Int))]) (fun _=>jZ cp m) (fun j=>j) (j0) ?_ ?_ ?_ ?_)
  ·exact ⟨by omega,Nat.le_refl _⟩
  ·exact fun _=>rfl
  ·refine ⟨?_,.mk ?_ (by simp [ak])⟩
   ·all_goals exact wk
   ·all_goals exact wk
  intro j hj _
  (try dsimp only[aj]);conv=>whnf
  refine bg.auto (by kernel_rfl) ?_;conv=>whnf
  refine And.intro (fun q=>?_) (fun q=>?_)
  ·conv=>whnf
   refine ⟨by omega,?_⟩
   conv=>whnf
   refine aO (i:=a) (by omega) (by omega) ⟨rfl,?_⟩
   conv=>whnf
   refine ⟨by omega,?_⟩
   conv=>whnf
   refine aO (i:=j) (by omega) (by omega) ⟨rfl,?_⟩
   conv=>whnf
   refine eu.pure _ _ ?_ ⟨rfl,rfl⟩ (hcf (m.getD (a) default) (m.getD (j) default)) ?_
   ·exact au _
   (try dsimp only[aj]);conv=>whnf
   refine And.intro (fun q2=>?_) (fun q2=>?_)
   ·(try dsimp only[aj]);conv=>whnf
    refine zA ?_;conv=>whnf
    refine ⟨j - 1,?_,?_,?_⟩
    ·omega
    ·refine ⟨?_,.mk ?_ (by simp [ak])⟩
     ·repeat' first|exact rfl|exact trivial|exact wR|exact lR _|apply aI
      all_goals first | omega | skip
     ·all_goals exact wk
    ·omega
   ·(try dsimp only[aj]);conv=>whnf
    refine ⟨⟨j,by omega⟩,by simp [nextId],?_,.mk ?_ (by simp [ak])⟩
    ·all_goals exact wk
    ·all_goals exact wk
  ·(try dsimp only[aj]);conv=>whnf
   refine ⟨⟨j,by omega⟩,by simp [nextId],?_,.mk ?_ (by simp [ak])⟩
   ·all_goals exact wk
   ·all_goals exact wk
 rintro ⟨j,hj⟩ _
 try dsimp only
 (try dsimp only[aj]);conv=>whnf
 refine And.intro (fun z=>?_) (fun z=>?_)
 ·(try dsimp only[aj]);conv=>whnf
  refine ⟨_,_,⟨i,by omega,rfl,m,hp,rfl⟩,?_⟩
  refine ⟨⟨_,_,.refl _ _,?_⟩⟩
  conv=>whnf
  refine ⟨?_,rfl,by simp [nextId],.mk ?_ (by simp [ak])⟩
  ·all_goals exact wk
  ·all_goals exact wk
 ·(try dsimp only[aj]);conv=>whnf
  refine bg.auto (by kernel_rfl) ?_;conv=>whnf
  refine ⟨by omega,?_⟩
  conv=>whnf
  refine aO (i:=j) (by omega) (by omega) ⟨rfl,?_⟩
  conv=>whnf
  refine ⟨by omega,?_⟩
  conv=>whnf
  refine aO (i:=i) (by omega) (by omega) ⟨rfl,?_⟩
  conv=>whnf
  refine ⟨by omega,?_⟩
  conv=>whnf
  refine ⟨by simp; omega,rfl,?_⟩
  conv=>whnf
  refine ⟨by omega,?_⟩
  conv=>whnf
  refine ⟨by simp; omega,rfl,?_⟩
  conv=>whnf
  refine zA ?_;conv=>whnf
  refine zA ?_;conv=>whnf
  refine ⟨(i + 1,j - 1,swp m i j),⟨by dsimp only; omega,(dX (by omega) (by omega)).trans hp⟩,?_,?_⟩
  ·refine ⟨?_,.mk ?_ (by simp [ak])⟩
   ·repeat' first|exact rfl|exact trivial|exact wR|exact lR _|apply aI
    all_goals first | omega | (dsimp only; omega) | skip
   ·repeat' first|exact rfl|exact trivial|exact wR|exact lR _|apply aI
    all_goals (refine bF ?_; exact fH (by omega) (by omega))
  ·exact (by omega : b - (i + 1) < b - i0)

theorem RV {cf : Int -> Int -> Int} {g : Nat} (hcf : yE cf g) (n cp a b pv : Nat) (hN : n <= 1152921504606846976) (hab : a < b) (hb : b <= n) (hpv : a <= pv /\ pv < b) (l : List Int) (hl : l.length = n) :
  dK Try.prog 71 [.ms 0 0 n cp 1,.int .i64 a,.int .i64 b,.int .i64 pv,.fn g []] (jZ cp l) (fun R H'=>∃ (j : Nat) (B : AV),((a <= j /\ j < b) /\ (B = .tt \/ B = .ff)) /\ R = .dS [.int .i64 j,B] /\ ∃ l',List.Perm l' l /\ H' = jZ cp l'):=by
 have hp : List.Perm (swp l a pv) l:=dX (by omega) (by omega)
 refine dK.mQ (.r 3 (.j .n (.j .n (.r 4 (.s (.b (.b (.b (.j .n (.j .n .n))))) .n))))) lay mixed Try.func71 (by kernel_rfl) rfl (by kernel_rfl) rfl fun hok=>?_
 (try dsimp only[aU,aH]);(try dsimp only[aj]);conv=>whnf
 refine bg.auto (by kernel_rfl) ?_;conv=>whnf
 refine ⟨by omega,?_⟩
 conv=>whnf
 refine aO (i:=pv) (by omega) (by omega) ⟨rfl,?_⟩
 conv=>whnf
 refine ⟨by omega,?_⟩
 conv=>whnf
 refine aO (i:=a) (by omega) (by omega) ⟨rfl,?_⟩
 conv=>whnf
 refine ⟨by omega,?_⟩
 conv=>whnf
 refine ⟨by simp; omega,rfl,?_⟩
 conv=>whnf
 refine ⟨by omega,?_⟩
 conv=>whnf
 refine ⟨by simp; omega,rfl,?_⟩
 conv=>whnf
 try dsimp only [strip]
 rw [fH (f:=AV.int .i64) (l:=l) (i:=a) (j:=pv) (y:=(a : Int)) (z:=(pv : Int)) (by omega) (by omega)]
 generalize swp l a pv = m at *
 (try dsimp only[aj]);conv=>whnf
 refine zA ?_;conv=>whnf
 refine zA ?_;conv=>whnf
 rw [show (a : Int) + 1 = ((a + 1 : Nat) : Int) by omega,show (b : Int) - 1 = ((b - 1 : Nat) : Int) by omega]
 have hml : m.length = n:=by rw [hp.length_eq,hl]
 (try dsimp only[aj]);conv=>whnf
 refine ⟨⟨{x : Nat // a + 1 <= x /\ x <= b},fun x=>[(12,.int .i64 (x.1 : Int)),(13,.int .i64 (((b - 1 : Nat) : Int))),(0,.ms 0 0 n cp 1),(1,.int .i64 a),(4,.fn g [])],fun _=>jZ cp m,?_,?_⟩⟩
 ·(try dsimp only[aj]);conv=>whnf
  refine aJ.of <| (aA.inv (.refl _ _) (fun i : Nat=>a + 1 <= i /\ i <= b) (fun i=>[(12,.int .i64 (i : Int))]) (fun _=>jZ cp m) (fun i=>b - i) (a + 1) ?_ ?_ ?_ ?_)
  ·exact ⟨Nat.le_refl _,by omega⟩
  ·exact fun _=>rfl
  ·refine ⟨?_,.mk ?_ (by simp [ak])⟩
   ·all_goals exact wk
   ·all_goals exact wk
  intro i hi _
  (try dsimp only[aj]);conv=>whnf
  refine bg.auto (by kernel_rfl) ?_;conv=>whnf
  refine And.intro (fun p=>?_) (fun p=>?_)
  ·conv=>whnf
   refine ⟨by omega,?_⟩
   conv=>whnf
   refine aO (i:=i) (by omega) (by omega) ⟨rfl,?_⟩
   conv=>whnf
   refine ⟨by omega,?_⟩
   conv=>whnf
   refine aO (i:=a) (by omega) (by omega) ⟨rfl,?_⟩
   conv=>whnf
   refine eu.pure _ _ ?_ ⟨rfl,rfl⟩ (hcf (m.getD (i) default) (m.getD (a) default)) ?_
   ·exact au _
   (try dsimp only[aj]);conv=>whnf
   refine And.intro (fun p2=>?_) (fun p2=>?_)
   ·(try dsimp only[aj]);conv=>whnf
    refine zA ?_;conv=>whnf
    refine ⟨i + 1,?_,?_,?_⟩
    ·omega
    ·refine ⟨?_,.mk ?_ (by simp [ak])⟩
     ·all_goals exact wk
     ·all_goals exact wk
    ·omega
   ·(try dsimp only[aj]);conv=>whnf
    refine ⟨⟨i,by omega⟩,by simp [nextId],?_,.mk ?_ (by simp [ak])⟩
    ·all_goals exact wk
    ·all_goals exact wk
  ·(try dsimp only[aj]);conv=>whnf
   refine ⟨⟨i,by omega⟩,by simp [nextId],?_,.mk ?_ (by simp [ak])⟩
   ·all_goals exact wk
   ·all_goals exact wk
 rintro ⟨i,hi⟩ _
 try dsimp only
 (try dsimp only[aj]);conv=>whnf
 refine ⟨⟨{x : Nat // a <= x /\ x <= b - 1},fun x=>[(13,.int .i64 (x.1 : Int)),(12,.int .i64 ((i : Int))),(0,.ms 0 0 n cp 1),(1,.int .i64 a),(4,.fn g [])],fun _=>jZ cp m,?_,?_⟩⟩
 ·(try dsimp only[aj]);conv=>whnf
  refine aJ.of <| (aA.inv (.refl _ _) (fun j : Nat=>a <= j /\ j <= b - 1) (fun j=>[(13,.int .i64 (j : Int))]) (fun _=>jZ cp m) (fun j=>j) (b - 1) ?_ ?_ ?_ ?_)
  ·exact ⟨by omega,Nat.le_refl _⟩
  ·exact fun _=>rfl
  ·refine ⟨?_,.mk ?_ (by simp [ak])⟩
   ·all_goals exact wk
   ·all_goals exact wk
  intro j hj _
  (try dsimp only[aj]);conv=>whnf
  refine bg.auto (by kernel_rfl) ?_;conv=>whnf
  refine And.intro (fun q=>?_) (fun q=>?_)
  ·conv=>whnf
   refine ⟨by omega,?_⟩
   conv=>whnf
   refine aO (i:=j) (by omega) (by omega) ⟨rfl,?_⟩
   conv=>whnf
   refine ⟨by omega,?_⟩
   conv=>whnf
   refine aO (i:=a) (by omega) (by omega) ⟨rfl,?_⟩
   conv=>whnf
   refine eu.pure _ _ ?_ ⟨rfl,rfl⟩ (hcf (m.getD (j) default) (m.getD (a) default)) ?_
   ·exact au _
   (try dsimp only[aj]);conv=>whnf
   refine And.intro (fun q2=>?_) (fun q2=>?_)
   ·(try dsimp only[aj]);conv=>whnf
    refine zA ?_;conv=>whnf
    refine ⟨j - 1,?_,?_,?_⟩
    ·omega
    ·refine ⟨?_,.mk ?_ (by simp [ak])⟩
     ·repeat' first|exact rfl|exact trivial|exact wR|exact lR _|apply aI
      all_goals first | omega | skip
     ·all_goals exact wk
    ·omega
   ·(try dsimp only[aj]);conv=>whnf
    refine ⟨⟨j,by omega⟩,by simp [nextId],?_,.mk ?_ (by simp [ak])⟩
    ·all_goals exact wk
    ·all_goals exact wk
  ·(try dsimp only[aj]);conv=>whnf
   refine ⟨⟨j,by omega⟩,by simp [nextId],?_,.mk ?_ (by simp [ak])⟩
   ·all_goals exact wk
   ·all_goals exact wk
 rintro ⟨j,hj⟩ _
 try dsimp only
 (try dsimp only[aj]);conv=>whnf
 refine And.intro (fun z=>?_) (fun z=>?_)
 ·(try dsimp only[aj]);conv=>whnf
  refine bg.auto (by kernel_rfl) ?_;conv=>whnf
  refine ⟨by omega,?_⟩
  conv=>whnf
  refine aO (i:=a) (by omega) (by omega) ⟨rfl,?_⟩
  conv=>whnf
  refine ⟨by omega,?_⟩
  conv=>whnf
  refine aO (i:=j) (by omega) (by omega) ⟨rfl,?_⟩
  conv=>whnf
  refine ⟨by omega,?_⟩
  conv=>whnf
  refine ⟨by simp; omega,rfl,?_⟩
  conv=>whnf
  refine ⟨by omega,?_⟩
  conv=>whnf
  refine ⟨by simp; omega,rfl,?_⟩
  conv=>whnf
  (try dsimp only[aj]);conv=>whnf
  refine ⟨_,_,⟨j,.tt,⟨by omega,.inl rfl⟩,rfl,swp m (j) a,(dX (by omega) (by omega)).trans hp,rfl⟩,?_⟩
  refine ⟨⟨_,_,.refl _ _,?_⟩⟩
  conv=>whnf
  refine ⟨?_,rfl,by simp [nextId],.mk ?_ (by simp [ak])⟩
  ·all_goals exact wk
  ·repeat' first|exact rfl|exact trivial|exact wR|exact lR _|apply aI
   all_goals (refine bF ?_; exact fH (by omega) (by omega))
 (try dsimp only[aj]);conv=>whnf
 refine bg.auto (by kernel_rfl) ?_;conv=>whnf
 refine ⟨by omega,?_⟩
 conv=>whnf
 refine aO (i:=j) (by omega) (by omega) ⟨rfl,?_⟩
 conv=>whnf
 refine ⟨by omega,?_⟩
 conv=>whnf
 refine aO (i:=i) (by omega) (by omega) ⟨rfl,?_⟩
 conv=>whnf
 refine ⟨by omega,?_⟩
 conv=>whnf
 refine ⟨by simp; omega,rfl,?_⟩
 conv=>whnf
 refine ⟨by omega,?_⟩
 conv=>whnf
 refine ⟨by simp; omega,rfl,?_⟩
 conv=>whnf
 try dsimp only [strip]
 rw [fH (f:=AV.int .i64) (l:=m) (i:=i) (j:=j) (y:=(i : Int)) (z:=(j : Int)) (by omega) (by omega)]
 have hp1:=(dX (l:=m) (i:=i) (j:=j) (by omega) (by omega)).trans hp
 generalize swp m i j = m1 at *
 (try dsimp only[aj]);conv=>whnf
 refine zA ?_;conv=>whnf
 refine zA ?_;conv=>whnf
 rw [show (i : Int) + 1 = ((i + 1 : Nat) : Int) by omega,show (j : Int) - 1 = ((j - 1 : Nat) : Int) by omega]
 refine aJ.of <| (aA.inv (.refl _ _) (fun x : Nat × Nat × List Int=>((a < x.1 /\ x.1 <= b) /\ a <= x.2.1 /\ x.2.1 < b) /\ List.Perm x.2.2 l) (fun x=>[(12,.int .i64 (x.1 : Int)),(13,.int .i64 (x.2.1 : Int))]) (fun x=>jZ cp x.2.2) (fun x=>b - x.1) (i + 1,j - 1,m1) ?_ ?_ ?_ ?_)
 ·exact ⟨by dsimp only; omega,hp1⟩
 ·exact fun _=>rfl
 ·refine ⟨?_,.mk ?_ (by simp [ak])⟩
  ·all_goals exact wk
  ·all_goals exact wk
 rintro ⟨i0,j0,m⟩ ⟨⟨hi0,hj0⟩,hp⟩ _
 dsimp only at hi0 hj0 hp ⊢
 have hml : m.length = n:=by rw [hp.length_eq,hl]
 (try dsimp only[aj]);conv=>whnf
 refine ⟨⟨{x : Nat // i0 <= x /\ x <= b},fun x=>[(12,.int .i64 (x.1 : Int)),(13,.int .i64 ((j0 : Int))),(0,.ms 0 0 n cp 1),(1,.int .i64 a),(4,.fn g [])],fun _=>jZ cp m,?_,?_⟩⟩
 ·(try dsimp only[aj]);conv=>whnf
  refine aJ.of <| (aA.inv (.refl _ _) (fun i : Nat=>i0 <= i /\ i <= b) (fun i=>[(12,.int .i64 (i : Int))]) (fun _=>jZ cp m) (fun i=>b - i) (i0) ?_ ?_ ?_ ?_)
  ·exact ⟨Nat.le_refl _,by omega⟩
  ·exact fun _=>rfl
  ·refine ⟨?_,.mk ?_ (by simp [ak])⟩
   ·all_goals exact wk
   ·all_goals exact wk
  intro i hi _
  (try dsimp only[aj]);conv=>whnf
  refine bg.auto (by kernel_rfl) ?_;conv=>whnf
  refine And.intro (fun p=>?_) (fun p=>?_)
  ·conv=>whnf
   refine ⟨by omega,?_⟩
   conv=>whnf
   refine aO (i:=i) (by omega) (by omega) ⟨rfl,?_⟩
   conv=>whnf
   refine ⟨by omega,?_⟩
   conv=>whnf
   refine aO (i:=a) (by omega) (by omega) ⟨rfl,?_⟩
   conv=>whnf
   refine eu.pure _ _ ?_ ⟨rfl,rfl⟩ (hcf (m.getD (i) default) (m.getD (a) default)) ?_
   ·exact au _
   (try dsimp only[aj]);conv=>whnf
   refine And.intro (fun p2=>?_) (fun p2=>?_)
   ·(try dsimp only[aj]);conv=>whnf
    refine zA ?_;conv=>whnf
    refine ⟨i + 1,?_,?_,?_⟩
    ·omega
    ·refine ⟨?_,.mk ?_ (by simp [ak])⟩
     ·all_goals exact wk
     ·all_goals exact wk
    ·omega
   ·(try dsimp only[aj]);conv=>whnf
    refine ⟨⟨i,by omega⟩,by simp [nextId],?_,.mk ?_ (by simp [ak])⟩
    ·all_goals exact wk
    ·all_goals exact wk
  ·(try dsimp only[aj]);conv=>whnf
   refine ⟨⟨i,by omega⟩,by simp [nextId],?_,.mk ?_ (by simp [ak])⟩
   ·all_goals exact wk
   ·all_goals exact wk
 rintro ⟨i,hi⟩ _
 try dsimp only
 (try dsimp only[aj]);conv=>whnf
 refine ⟨⟨{x : Nat // a <= x /\ x <= j0},fun x=>[(13,.int .i64 (x.1 : Int)),(12,.int .i64 ((i : Int))),(0,.ms 0 0 n cp 1),(1,.int .i64 a),(4,.fn g [])],fun _=>jZ cp m,?_,?_⟩⟩
 ·(try dsimp only[aj]);conv=>whnf
  refine aJ.of <| (aA.inv (.refl _ _) (fun j : Nat=>a <= j /\ j <= j0) (fun j=>[(13,.int .i64 (j : Int))]) (fun _=>jZ cp m) (fun j=>j) (j0) ?_ ?_ ?_ ?_)
  ·exact ⟨by omega,Nat.le_refl _⟩
  ·exact fun _=>rfl
  ·refine ⟨?_,.mk ?_ (by simp [ak])⟩
   ·all_goals exact wk
   ·all_goals exact wk
  intro j hj _
  (try dsimp only[aj]);conv=>whnf
  refine bg.auto (by kernel_rfl) ?_;conv=>whnf
  refine And.intro (fun q=>?_) (fun q=>?_)
  ·conv=>whnf
   refine ⟨by omega,?_⟩
   conv=>whnf
   refine aO (i:=j) (by omega) (by omega) ⟨rfl,?_⟩
   conv=>whnf
   refine ⟨by omega,?_⟩
   conv=>whnf
   refine aO (i:=a) (by omega) (by omega) ⟨rfl,?_⟩
   conv=>whnf
   refine eu.pure _ _ ?_ ⟨rfl,rfl⟩ (hcf (m.getD (j) default) (m.getD (a) default)) ?_
   ·exact au _
   (try dsimp only[aj]);conv=>whnf
   refine And.intro (fun q2=>?_) (fun q2=>?_)
   ·(try dsimp only[aj]);conv=>whnf
    refine zA ?_;conv=>whnf
    refine ⟨j - 1,?_,?_,?_⟩
    ·omega
    ·refine ⟨?_,.mk ?_ (by simp [ak])⟩
     ·repeat' first|exact rfl|exact trivial|exact wR|exact lR _|apply aI
      all_goals first | omega | skip
     ·all_goals exact wk
    ·omega
   ·(try dsimp only[aj]);conv=>whnf
    refine ⟨⟨j,by omega⟩,by simp [nextId],?_,.mk ?_ (by simp [ak])⟩
    ·all_goals exact wk
    ·all_goals exact wk
  ·(try dsimp only[aj]);conv=>whnf
   refine ⟨⟨j,by omega⟩,by simp [nextId],?_,.mk ?_ (by simp [ak])⟩
   ·all_goals exact wk
   ·all_goals exact wk
 rintro ⟨j,hj⟩ _
 try dsimp only
 (try dsimp only[aj]);conv=>whnf
 refine And.intro (fun z=>?_) (fun z=>?_)
 ·(try dsimp only[aj]);conv=>whnf
  refine bg.auto (by kernel_rfl) ?_;conv=>whnf
  refine ⟨by omega,?_⟩
  conv=>whnf
  refine aO (i:=a) (by omega) (by omega) ⟨rfl,?_⟩
  conv=>whnf
  refine ⟨by omega,?_⟩
  conv=>whnf
  refine aO (i:=j) (by omega) (by omega) ⟨rfl,?_⟩
  conv=>whnf
  refine ⟨by omega,?_⟩
  conv=>whnf
  refine ⟨by simp; omega,rfl,?_⟩
  conv=>whnf
  refine ⟨by omega,?_⟩
  conv=>whnf
  refine ⟨by simp; omega,rfl,?_⟩
  conv=>whnf
  (try dsimp only[aj]);conv=>whnf
  refine ⟨_,_,⟨j,.ff,⟨by omega,.inr rfl⟩,rfl,swp m (j) a,(dX (by omega) (by omega)).trans hp,rfl⟩,?_⟩
  refine ⟨⟨_,_,.refl _ _,?_⟩⟩
  conv=>whnf
  refine ⟨?_,rfl,by simp [nextId],.mk ?_ (by simp [ak])⟩
  ·all_goals exact wk
  ·repeat' first|exact rfl|exact trivial|exact wR|exact lR _|apply aI
   all_goals (refine bF ?_; exact fH (by omega) (by omega))
 ·(try dsimp only[aj]);conv=>whnf
  refine bg.auto (by kernel_rfl) ?_;conv=>whnf
  refine ⟨by omega,?_⟩
  conv=>whnf
  refine aO (i:=j) (by omega) (by omega) ⟨rfl,?_⟩
  conv=>whnf
  refine ⟨by omega,?_⟩
  conv=>whnf
  refine aO (i:=i) (by omega) (by omega) ⟨rfl,?_⟩
  conv=>whnf
  refine ⟨by omega,?_⟩
  conv=>whnf
  refine ⟨by simp; omega,rfl,?_⟩
  conv=>whnf
  refine ⟨by omega,?_⟩
  conv=>whnf
  refine ⟨by simp; omega,rfl,?_⟩
  conv=>whnf
  refine zA ?_;conv=>whnf
  refine zA ?_;conv=>whnf
  refine ⟨(i + 1,j - 1,swp m i j),⟨by dsimp only; omega,(dX (by omega) (by omega)).trans hp⟩,?_,?_⟩
  ·refine ⟨?_,.mk ?_ (by simp [ak])⟩
   ·repeat' first|exact rfl|exact trivial|exact wR|exact lR _|apply aI
    all_goals first | omega | (dsimp only; omega) | skip
   ·repeat' first|exact rfl|exact trivial|exact wR|exact lR _|apply aI
    all_goals (refine bF ?_; exact fH (by omega) (by omega))
  ·exact (by omega : b - (i + 1) < b - i0)

theorem Pj {cf : Int -> Int -> Int} {g : Nat} (hcf : yE cf g) (n cp a b : Nat) (hN : n <= 1152921504606846976) (hab : a < b) (hb : b <= n) (l : List Int) (hl : l.length = n) :
  dK Try.prog 69 [.ms 0 0 n cp 1,.int .i64 a,.int .i64 b,.fn g []] (jZ cp l) (fun R H'=>∃ B : AV,(B = .tt \/ B = .ff) /\ R = B /\ ∃ l',List.Perm l' l /\ H' = jZ cp l'):=by
 refine dK.mQ (.r 2 (.s (.s .n (.b (.b (.r 1 (.j (.b (.j .n (.r 3 (.j .n .n)))) .n))))) .n)) lay mixed Try.func69 (by kernel_rfl) rfl (by kernel_rfl) rfl fun hok=>?_
 (try dsimp only[aU,aH]);(try dsimp only[aj]);conv=>whnf
 refine zA ?_;conv=>whnf
 rw [show (a : Int) + 1 = ((a + 1 : Nat) : Int) by omega]
 refine aJ.of <| (aA.inv (.refl _ _) (fun x : Nat × Nat × List Int=>((a < x.1 /\ x.1 <= b) /\ x.2.1 <= 5) /\ List.Perm x.2.2 l) (fun x=>[(9,.int .i64 (x.1 : Int)),(10,.int .i64 (x.2.1 : Int))]) (fun x=>jZ cp x.2.2) (fun x=>5 - x.2.1) (a + 1,0,l) ?_ ?_ ?_ ?_)
 ·exact ⟨by dsimp only; omega,.refl _⟩
 ·exact fun _=>rfl
 ·refine ⟨?_,.mk ?_ (by simp [ak])⟩
  ·all_goals exact wk
  ·all_goals exact wk
 rintro ⟨i0,c,m⟩ ⟨⟨hi0,hc⟩,hp⟩ _
 dsimp only at hi0 hc hp ⊢
 have hml : m.length = n:=by rw [hp.length_eq,hl]
 (try dsimp only[aj]);conv=>whnf
 refine And.intro (fun pc=>?_) (fun pc=>?_)
 ·have hc5 : c < 5:=by omega
  (try dsimp only[aj]);conv=>whnf
  refine ⟨⟨{x : Nat × List Int // (a < x.1 /\ x.1 <= b) /\ List.Perm x.2 l},fun x=>[(9,.int .i64 (x.1.1 : Int)),(10,.int .i64 (c : Int)),(0,.ms 0 0 n cp 1),(1,.int .i64 a),(2,.int .i64 b),(3,.fn g [])],fun x=>jZ cp x.1.2,?_,?_⟩⟩
  ·(try dsimp only[aj]);conv=>whnf
   refine ⟨⟨{i : Nat // a < i /\ i <= b},fun x=>[(9,.int .i64 (x.1 : Int)),(10,.int .i64 (c : Int)),(0,.ms 0 0 n cp 1),(1,.int .i64 a),(2,.int .i64 b),(3,.fn g [])],fun _=>jZ cp m,?_,?_⟩⟩
   ·(try dsimp only[aj]);conv=>whnf
    refine aJ.of <| (aA.inv (.refl _ _) (fun i : Nat=>a < i /\ i <= b) (fun i=>[(9,.int .i64 (i : Int))]) (fun _=>jZ cp m) (fun i=>b - i) i0 ?_ ?_ ?_ ?_)
    ·exact hi0
    ·exact fun _=>rfl
    ·refine ⟨?_,.mk ?_ (by simp [ak])⟩
     ·all_goals exact wk
     ·all_goals exact wk
    intro i hi _
    (try dsimp only[aj]);conv=>whnf
    refine bg.auto (by kernel_rfl) ?_;conv=>whnf
    refine And.intro (fun p=>?_) (fun p=>?_)
    ·conv=>whnf
     refine ⟨by omega,?_⟩
     conv=>whnf
     refine aO (i:=i) (by omega) (by omega) ⟨rfl,?_⟩
     conv=>whnf
     refine zA ?_;conv=>whnf
     refine ⟨by omega,?_⟩
     conv=>whnf
     refine aO (i:=i - 1) (by omega) (by omega) ⟨rfl,?_⟩
     conv=>whnf
     refine eu.pure _ _ ?_ ⟨rfl,rfl⟩ (hcf (m.getD (i) default) (m.getD (i - 1) default)) ?_
     ·exact au _
     (try dsimp only[aj]);conv=>whnf
     refine And.intro (fun p2=>?_) (fun p2=>?_)
     ·(try dsimp only[aj]);conv=>whnf
      refine zA ?_;conv=>whnf
      refine ⟨i + 1,?_,?_,?_⟩
      ·omega
      ·refine ⟨?_,.mk ?_ (by simp [ak])⟩
       ·all_goals exact wk
       ·all_goals exact wk
      ·omega
     ·(try dsimp only[aj]);conv=>whnf
      refine ⟨⟨i,hi⟩,by simp [nextId],?_,.mk ?_ (by simp [ak])⟩
      ·all_goals exact wk
      ·all_goals exact wk
    ·(try dsimp only[aj]);conv=>whnf
     refine ⟨⟨i,hi⟩,by simp [nextId],?_,.mk ?_ (by simp [ak])⟩
     ·all_goals exact wk
     ·all_goals exact wk
   rintro ⟨i,hi⟩ _
   try dsimp only
   (try dsimp only[aj]);conv=>whnf
   refine And.intro (fun q1=>?_) (fun q1=>?_)
   ·(try dsimp only[aj]);conv=>whnf
    refine ⟨_,_,⟨.tt,.inl rfl,rfl,m,hp,rfl⟩,?_⟩
    refine ⟨⟨_,_,.refl _ _,?_⟩⟩
    conv=>whnf
    refine ⟨?_,rfl,by simp [nextId],.mk ?_ (by simp [ak])⟩
    ·all_goals exact wk
    ·all_goals exact wk
   have hib : i < b:=by omega
   (try dsimp only[aj]);conv=>whnf
   refine zA ?_;conv=>whnf
   refine And.intro (fun q2=>?_) (fun q2=>?_)
   ·(try dsimp only[aj]);conv=>whnf
    refine ⟨_,_,⟨.ff,.inr rfl,rfl,m,hp,rfl⟩,?_⟩
    refine ⟨⟨_,_,.refl _ _,?_⟩⟩
    conv=>whnf
    refine ⟨?_,rfl,by simp [nextId],.mk ?_ (by simp [ak])⟩
    ·all_goals exact wk
    ·all_goals exact wk
   (try dsimp only[aj]);conv=>whnf
   refine bg.auto (by kernel_rfl) ?_;conv=>whnf
   refine zA ?_;conv=>whnf
   refine zA ?_;conv=>whnf
   refine ⟨by omega,?_⟩
   conv=>whnf
   refine aO (i:=i - 1) (by omega) (by omega) ⟨rfl,?_⟩
   conv=>whnf
   refine ⟨by omega,?_⟩
   conv=>whnf
   refine aO (i:=i) (by omega) (by omega) ⟨rfl,?_⟩
   conv=>whnf
   refine ⟨by omega,?_⟩
   conv=>whnf
   refine ⟨by simp; omega,rfl,?_⟩
   conv=>whnf
   refine ⟨by omega,?_⟩
   conv=>whnf
   refine ⟨by simp; omega,rfl,?_⟩
   conv=>whnf
   dsimp only [strip]
   rw [fH (f:=AV.int .i64) (l:=m) (i:=i) (j:=i - 1) (y:=(i : Int)) (z:=(i : Int) - 1) (by omega) (by omega)]
   have hp1:=(dX (l:=m) (i:=i) (j:=i - 1) (by omega) (by omega)).trans hp
   generalize swp m i (i - 1) = m1 at *
   (try dsimp only[aj]);conv=>whnf
   refine ⟨⟨{x : List Int // List.Perm x l},fun _=>[(9,.int .i64 (i : Int)),(10,.int .i64 (c : Int)),(0,.ms 0 0 n cp 1),(1,.int .i64 a),(2,.int .i64 b),(3,.fn g [])],fun x=>jZ cp x.1,?_,?_⟩⟩
   ·(try dsimp only[aj]);conv=>whnf
    refine zA ?_;conv=>whnf
    refine And.intro (fun r1=>?_) (fun r1=>?_)
    ·(try dsimp only[aj]);conv=>whnf
     refine zA ?_;conv=>whnf
     rw [show (i : Int) - 1 = ((i - 1 : Nat) : Int) by omega]
     refine aJ.of <| (aA.inv (.refl _ _) (fun x : Nat × List Int=>x.1 <= i - 1 /\ List.Perm x.2 l) (fun x=>[(11,.int .i64 (x.1 : Int))]) (fun x=>jZ cp x.2) (fun x=>x.1) (i - 1,m1) ?_ ?_ ?_ ?_)
     ·exact ⟨Nat.le_refl _,hp1⟩
     ·exact fun _=>rfl
     ·refine ⟨?_,.mk ?_ (by simp [ak])⟩
      ·all_goals exact wk
      ·all_goals exact wk
     rintro ⟨j,m⟩ ⟨hj,hp⟩ _
     dsimp only at hj hp ⊢
     have hml : m.length = n:=by rw [hp.length_eq,hl]
     (try dsimp only[aj]);conv=>whnf
     refine And.intro (fun s1=>?_) (fun s1=>?_)
     ·(try dsimp only[aj]);conv=>whnf
      refine bg.auto (by kernel_rfl) ?_;conv=>whnf
      refine ⟨by omega,?_⟩
      conv=>whnf
      refine aO (i:=j) (by omega) (by omega) ⟨rfl,?_⟩
      conv=>whnf
      refine zA ?_;conv=>whnf
      refine ⟨by omega,?_⟩
      conv=>whnf
      refine aO (i:=j - 1) (by omega) (by omega) ⟨rfl,?_⟩
      conv=>whnf
      refine eu.pure _ _ ?_ ⟨rfl,rfl⟩ (hcf (m.getD (j) default) (m.getD (j - 1) default)) ?_
      ·exact au _
      (try dsimp only[aj]);conv=>whnf
      refine And.intro (fun s2=>?_) (fun s2=>?_)
      ·(try dsimp only[aj]);conv=>whnf
       refine ⟨⟨m,hp⟩,by simp [nextId],?_,.mk ?_ (by simp [ak])⟩
       ·all_goals exact wk
       ·all_goals exact wk
      ·(try dsimp only[aj]);conv=>whnf
       refine bg.auto (by kernel_rfl) ?_;conv=>whnf
       refine zA ?_;conv=>whnf
       refine zA ?_;conv=>whnf
       refine ⟨by omega,?_⟩
       conv=>whnf
       refine aO (i:=j - 1) (by omega) (by omega) ⟨rfl,?_⟩
       conv=>whnf
       refine ⟨by omega,?_⟩
       conv=>whnf
       refine aO (i:=j) (by omega) (by omega) ⟨rfl,?_⟩
       conv=>whnf
       refine ⟨by omega,?_⟩
       conv=>whnf
       refine ⟨by simp; omega,rfl,?_⟩
       conv=>whnf
       refine ⟨by omega,?_⟩
       conv=>whnf
       refine ⟨by simp; omega,rfl,?_⟩
       conv=>whnf
       refine zA ?_;conv=>whnf
       refine ⟨(j - 1,swp m (j) (j - 1)),⟨by omega,(dX (by omega) (by omega)).trans hp⟩,?_,?_⟩
       ·refine ⟨?_,.mk ?_ (by simp [ak])⟩
        ·repeat' first|exact rfl|exact trivial|exact wR|exact lR _|apply aI
         all_goals first | omega | skip
        ·repeat' first|exact rfl|exact trivial|exact wR|exact lR _|apply aI
         all_goals (refine bF ?_; exact fH (by omega) (by omega))
       exact (by omega : j - 1 < j)
     ·(try dsimp only[aj]);conv=>whnf
      refine ⟨⟨m,hp⟩,by simp [nextId],?_,.mk ?_ (by simp [ak])⟩
      ·all_goals exact wk
      ·all_goals exact wk
    ·(try dsimp only[aj]);conv=>whnf
     refine ⟨⟨m1,hp1⟩,by simp [nextId],?_,.mk ?_ (by simp [ak])⟩
     ·all_goals exact wk
     ·all_goals exact wk
   rintro ⟨m2,hp2⟩ _
   try dsimp only
   have XM : m2.length = n:=by rw [hp2.length_eq,hl]
   (try dsimp only[aj]);conv=>whnf
   refine zA ?_;conv=>whnf
   refine And.intro (fun r1=>?_) (fun r1=>?_)
   ·(try dsimp only[aj]);conv=>whnf
    refine zA ?_;conv=>whnf
    rw [show (i : Int) + 1 = ((i + 1 : Nat) : Int) by omega]
    refine aJ.of <| (aA.inv (.refl _ _) (fun x : Nat × List Int=>(i < x.1 /\ x.1 <= b) /\ List.Perm x.2 l) (fun x=>[(12,.int .i64 (x.1 : Int))]) (fun x=>jZ cp x.2) (fun x=>b - x.1) (i + 1,m2) ?_ ?_ ?_ ?_)
    ·exact ⟨by dsimp only; omega,hp2⟩
    ·exact fun _=>rfl
    ·refine ⟨?_,.mk ?_ (by simp [ak])⟩
     ·all_goals exact wk
     ·all_goals exact wk
    rintro ⟨j,m⟩ ⟨hj,hp⟩ _
    dsimp only at hj hp ⊢
    have hml : m.length = n:=by rw [hp.length_eq,hl]
    (try dsimp only[aj]);conv=>whnf
    refine And.intro (fun s1=>?_) (fun s1=>?_)
    ·(try dsimp only[aj]);conv=>whnf
     refine bg.auto (by kernel_rfl) ?_;conv=>whnf
     refine ⟨by omega,?_⟩
     conv=>whnf
     refine aO (i:=j) (by omega) (by omega) ⟨rfl,?_⟩
     conv=>whnf
     refine zA ?_;conv=>whnf
     refine ⟨by omega,?_⟩
     conv=>whnf
     refine aO (i:=j - 1) (by omega) (by omega) ⟨rfl,?_⟩
     conv=>whnf
     refine eu.pure _ _ ?_ ⟨rfl,rfl⟩ (hcf (m.getD (j) default) (m.getD (j - 1) default)) ?_
     ·exact au _
     (try dsimp only[aj]);conv=>whnf
     refine And.intro (fun s2=>?_) (fun s2=>?_)
     ·(try dsimp only[aj]);conv=>whnf
      refine ⟨⟨(i,m),hi,hp⟩,by simp [nextId],?_,.mk ?_ (by simp [ak])⟩
      ·all_goals exact wk
      ·all_goals exact wk
     ·(try dsimp only[aj]);conv=>whnf
      refine bg.auto (by kernel_rfl) ?_;conv=>whnf
      refine zA ?_;conv=>whnf
      refine zA ?_;conv=>whnf
      refine ⟨by omega,?_⟩
      conv=>whnf
      refine aO (i:=j - 1) (by omega) (by omega) ⟨rfl,?_⟩
      conv=>whnf
      refine ⟨by omega,?_⟩
      conv=>whnf
      refine aO (i:=j) (by omega) (by omega) ⟨rfl,?_⟩
      conv=>whnf
      refine ⟨by omega,?_⟩
      conv=>whnf
      refine ⟨by simp; omega,rfl,?_⟩
      conv=>whnf
      refine ⟨by omega,?_⟩
      conv=>whnf
      refine ⟨by simp; omega,rfl,?_⟩
      conv=>whnf
      refine zA ?_;conv=>whnf
      refine ⟨(j + 1,swp m (j) (j - 1)),⟨by omega,(dX (by omega) (by omega)).trans hp⟩,?_,?_⟩
      ·refine ⟨?_,.mk ?_ (by simp [ak])⟩
       ·repeat' first|exact rfl|exact trivial|exact wR|exact lR _|apply aI
        all_goals first | omega | skip
       ·repeat' first|exact rfl|exact trivial|exact wR|exact lR _|apply aI
        all_goals (refine bF ?_; exact fH (by omega) (by omega))
      exact (by omega : b - (j + 1) < b - j)
    ·(try dsimp only[aj]);conv=>whnf
     refine ⟨⟨(i,m),hi,hp⟩,by simp [nextId],?_,.mk ?_ (by simp [ak])⟩
     ·all_goals exact wk
     ·all_goals exact wk
   ·(try dsimp only[aj]);conv=>whnf
    refine ⟨⟨(i,m2),hi,hp2⟩,by simp [nextId],?_,.mk ?_ (by simp [ak])⟩
    ·all_goals exact wk
    ·all_goals exact wk
  rintro ⟨⟨i,m2⟩,hi,hp2⟩ _
  dsimp only at hi hp2 ⊢
  (try dsimp only[aj]);conv=>whnf
  refine zA ?_;conv=>whnf
  refine ⟨(i,c + 1,m2),⟨by dsimp only; omega,hp2⟩,?_,?_⟩
  ·refine ⟨?_,.mk ?_ (by simp [ak])⟩
   ·all_goals exact wk
   ·all_goals exact wk
  ·exact (by omega : 5 - (c + 1) < 5 - c)
 ·(try dsimp only[aj]);conv=>whnf
  refine ⟨_,_,⟨.ff,.inr rfl,rfl,m,hp,rfl⟩,?_⟩
  refine ⟨⟨_,_,.refl _ _,?_⟩⟩
  conv=>whnf
  refine ⟨?_,rfl,by simp [nextId],.mk ?_ (by simp [ak])⟩
  ·all_goals exact wk
  ·all_goals exact wk

theorem dK.Zi {P : Program} {f : Nat} {args : List AV} {H : Heap} {R : AV} {G : Heap} (h : dK P f args H fun R' G'=>R' = R /\ G' = G) : bJ P f args H R G:=by
 refine ⟨h.1,fun c vs hr hv=>(h.2 c vs hr hv).mono ?_⟩
 rintro _ _ ⟨v,d,_,_,⟨rfl,rfl⟩,h3⟩
 exact ⟨v,d,h3⟩

theorem Nu (x : Nat) (hx : x < 18446744073709551616) : bJ Try.prog 54 [.int .u64 x] [] (.int .i64 (gy x)) []:=by
 refine dK.Zi ?_
 refine dK.mQ (.r 1 (.j .n (.j .n (.j .n .n)))) lay mixed Try.func54 (by kernel_rfl) rfl (by kernel_rfl) rfl fun hok=>?_
 (try dsimp only[aU,aH]);(try dsimp only[aj]);conv=>whnf
 (try dsimp only[aj]);conv=>whnf
 refine ⟨⟨{y : Nat × Nat // y.1 < 4294967296 /\ y.2 <= 32 /\ gy x = gy y.1 + y.2},fun y=>[(0,.int .u64 (y.1.1 : Int)),(2,.int .i64 (y.1.2 : Int))],fun _=>[],?_,?_⟩⟩
 ·(try dsimp only[aj]);conv=>whnf
  refine And.intro (fun n1=>?_) (fun n1=>?_)
  ·have k1:=CO (x:=x) (k:=32) (by omega)
   (try dsimp only[aj]);conv=>whnf
   refine ⟨by decide,?_⟩
   rw [show qK .u64 (x : Int) 32 = ((x / 2 ^ 32 : Nat) : Int) from vH (n:=32) (by omega)]
   have hy : x / 2 ^ 32 < 4294967296:=by omega
   (try dsimp only[aj]);conv=>whnf
   refine ⟨⟨(x / 2 ^ 32,32),⟨hy,Nat.le_refl _,k1⟩⟩,by simp [nextId],?_,.mk ?_ (by simp [ak])⟩
   ·repeat' first|exact rfl|exact trivial|exact wR|exact lR _|apply aI
    all_goals first | omega | skip
   ·all_goals exact wk
  ·(try dsimp only[aj]);conv=>whnf
   refine ⟨⟨(x,0),by dsimp only; omega,Nat.zero_le _,rfl⟩,by simp [nextId],?_,.mk ?_ (by simp [ak])⟩
   ·repeat' first|exact rfl|exact trivial|exact wR|exact lR _|apply aI
    all_goals first | omega | skip
   ·all_goals exact wk
 rintro ⟨⟨y,k⟩,h1,h2,h3⟩ _
 dsimp only at h1 h2 h3 ⊢
 (try dsimp only[aj]);conv=>whnf
 refine ⟨⟨{y : Nat × Nat // y.1 < 65536 /\ y.2 <= 48 /\ gy x = gy y.1 + y.2},fun y=>[(0,.int .u64 (y.1.1 : Int)),(2,.int .i64 (y.1.2 : Int))],fun _=>[],?_,?_⟩⟩
 ·(try dsimp only[aj]);conv=>whnf
  refine And.intro (fun n1=>?_) (fun n1=>?_)
  ·have k1:=CO (x:=y) (k:=16) (by omega)
   (try dsimp only[aj]);conv=>whnf
   refine ⟨by decide,?_⟩
   rw [show qK .u64 (y : Int) 16 = ((y / 2 ^ 16 : Nat) : Int) from vH (n:=16) (by omega)]
   have hy : y / 2 ^ 16 < 2 ^ 16:=by omega
   (try dsimp only[aj]);conv=>whnf
   try (refine zA ?_;(conv=>whnf))
   refine ⟨⟨(y / 2 ^ 16,k + 16),by dsimp only; omega,by dsimp only; omega,by dsimp only; omega⟩,by simp [nextId],?_,.mk ?_ (by simp [ak])⟩
   ·repeat' first|exact rfl|exact trivial|exact wR|exact lR _|apply aI
    all_goals first | omega | skip
   ·all_goals exact wk
  ·(try dsimp only[aj]);conv=>whnf
   refine ⟨⟨(y,k),by dsimp only; omega,by dsimp only; omega,h3⟩,by simp [nextId],?_,.mk ?_ (by simp [ak])⟩
   ·repeat' first|exact rfl|exact trivial|exact wR|exact lR _|apply aI
    all_goals first | omega | skip
   ·all_goals exact wk
 rintro ⟨⟨y,k⟩,h1,h2,h3⟩ _
 dsimp only at h1 h2 h3 ⊢
 (try dsimp only[aj]);conv=>whnf
 refine ⟨⟨{y : Nat × Nat // y.1 < 256 /\ y.2 <= 56 /\ gy x = gy y.1 + y.2},fun y=>[(0,.int .u64 (y.1.1 : Int)),(2,.int .i64 (y.1.2 : Int))],fun _=>[],?_,?_⟩⟩
 ·(try dsimp only[aj]);conv=>whnf
  refine And.intro (fun n1=>?_) (fun n1=>?_)
  ·have k1:=CO (x:=y) (k:=8) (by omega)
   (try dsimp only[aj]);conv=>whnf
   refine ⟨by decide,?_⟩
   rw [show qK .u64 (y : Int) 8 = ((y / 2 ^ 8 : Nat) : Int) from vH (n:=8) (by omega)]
   have hy : y / 2 ^ 8 < 2 ^ 8:=by omega
   (try dsimp only[aj]);conv=>whnf
   try (refine zA ?_;(conv=>whnf))
   refine ⟨⟨(y / 2 ^ 8,k + 8),by dsimp only; omega,by dsimp only; omega,by dsimp only; omega⟩,by simp [nextId],?_,.mk ?_ (by simp [ak])⟩
   ·repeat' first|exact rfl|exact trivial|exact wR|exact lR _|apply aI
    all_goals first | omega | skip
   ·all_goals exact wk
  ·(try dsimp only[aj]);conv=>whnf
   refine ⟨⟨(y,k),by dsimp only; omega,by dsimp only; omega,h3⟩,by simp [nextId],?_,.mk ?_ (by simp [ak])⟩
   ·repeat' first|exact rfl|exact trivial|exact wR|exact lR _|apply aI
    all_goals first | omega | skip
   ·all_goals exact wk
 rintro ⟨⟨y,k⟩,h1,h2,h3⟩ _
 dsimp only at h1 h2 h3 ⊢
 (try dsimp only[aj]);conv=>whnf
 refine Yb (x:=y) (by decide +kernel) ?_ h1 ?_
 ·simp [IntKind.wrap,IntKind.bits,IntKind.signed]; omega
 have hb8:=qo (x:=y) (n:=8) (by omega)
 rw [show ((UInt8.ofNat (gy y)).toNat : Int) = (gy y : Int) by rw [UInt8.toNat_ofNat']; omega]
 conv=>whnf
 rw [wrap64 (n:=(gy y : Int)) (by omega) (by omega)]
 refine zA ?_;conv=>whnf
 refine ⟨_,_,⟨rfl,rfl⟩,?_⟩
 rw [show (k : Int) + (gy y : Int) = (gy x : Int) by omega]
 refine ⟨⟨_,_,.refl _ _,?_⟩⟩
 conv=>whnf
 refine ⟨?_,rfl,by simp [nextId],.mk ?_ (by simp [ak])⟩
 ·all_goals exact wk
 ·all_goals exact wk

theorem SC (x : Nat) (hx : x < 18446744073709551616) : bJ Try.prog 43 [.int .u64 x] [] (.int .i64 (gy x)) []:=by
 have c:=Nu x hx
 refine bJ.intro lay mixed Try.func43 (by kernel_rfl) rfl (by kernel_rfl) rfl fun hok=>?_
 (try dsimp only[aU,aH]);(try dsimp only[aj]);conv=>whnf
 refine .pure _ _ ?_ ⟨rfl,rfl⟩ c fun _=>?_
 ·exact au _
 (try dsimp only[aj]);conv=>whnf
 refine fM ?_;(conv=>whnf);refine ⟨?_,rfl⟩;conv=>whnf
 all_goals exact wk

theorem Eb {x : Nat} (hx : x < 18446744073709551616) : IntKind.u64.wrap (x : Int) = x:=by
 simp [IntKind.wrap,IntKind.bits,IntKind.signed]; omega

theorem Va (x : Nat) (hx : x < 1152921504606846976) : bJ Try.prog 82 [.int .i64 x] [] (.int .u64 ((2 ^ gy x : Nat) : Int)) []:=by
 have c:=SC x (by omega)
 have hb:=qo (x:=x) (n:=60) (by omega)
 have hp : 2 ^ gy x <= 2 ^ 60:=Nat.pow_le_pow_right (by decide) hb
 have hs : zh .u64 1 (gy x : Int) = ((2 ^ gy x : Nat) : Int):=by
  unfold zh
  rw [show min ((gy x : Int)).toNat (IntKind.bits .u64) = gy x by show min (gy x) 64 = _; omega,Int.one_mul]
  rw [show (2 : Int) ^ gy x = ((2 ^ gy x : Nat) : Int) by push_cast; rfl]
  exact Eb (by omega)
 generalize 2 ^ gy x = M at *
 generalize gy x = B at *
 refine bJ.intro lay mixed Try.func82 (by kernel_rfl) rfl (by kernel_rfl) rfl fun hok=>?_
 (try dsimp only[aU,aH]);(try dsimp only[aj]);conv=>whnf
 rw [Eb (by omega)]
 refine .pure _ _ ?_ ⟨rfl,rfl⟩ c fun _=>?_
 ·exact au _
 (try dsimp only[aj]);conv=>whnf
 refine ⟨by omega,?_⟩
 rw [hs]
 (try dsimp only[aj]);conv=>whnf
 refine fM ?_;(conv=>whnf);refine ⟨?_,rfl⟩;conv=>whnf
 all_goals exact wk

abbrev Yr (cp : Nat) (l : List Int) (r : Int) : Heap:=[(1,.box (.int .u64 r)),(0,.arr 1 cp (l.map (.int .i64)))]

def YB (r : Int) : Int:=dF .xor .u64 r (zh .u64 r 13)
def YA (r : Int) : Int:=dF .xor .u64 r (qK .u64 r 7)
def Yz (r : Int) : Int:=dF .xor .u64 r (zh .u64 r 17)

theorem X4 (cp : Nat) (l : List Int) (r : Int) : dK Try.prog 83 [.ptr 1 [] 0] (Yr cp l r) (fun R H'=>∃ s : Int,R = .int .u64 s /\ H' = Yr cp l s):=by
 refine dK.intro lay mixed Try.func83 (by kernel_rfl) rfl (by kernel_rfl) rfl fun hok=>?_
 (try dsimp only[aU,aH]);(try dsimp only[aj]);conv=>whnf
 refine bg.auto (by kernel_rfl) ?_;conv=>whnf
 refine ⟨by decide,?_⟩
 (try dsimp only[aj]);conv=>whnf
 refine bg.auto (by kernel_rfl) ?_;conv=>whnf
 refine ⟨by decide,?_⟩
 (try dsimp only[aj]);conv=>whnf
 refine bg.auto (by kernel_rfl) ?_;conv=>whnf
 refine ⟨by decide,?_⟩
 (try dsimp only[aj]);conv=>whnf
 refine ⟨_,_,⟨Yz (YA (YB r)),rfl,rfl⟩,?_⟩
 refine ⟨⟨_,_,.refl _ _,?_⟩⟩
 conv=>whnf
 refine ⟨?_,rfl,by simp [nextId],.mk ?_ (by simp [ak])⟩
 ·all_goals exact wk
 ·all_goals exact wk

theorem Pz (x : Int) {n : Nat} (hn : n <= 60) : ∃ s : Nat,s < 2 ^ n /\ dF .and .u64 x ((2 ^ n : Nat) - 1 : Int) = (s : Int):=by
 have hp : 1 <= 2 ^ n:=Nat.one_le_two_pow
 have hp2 : 2 ^ n <= 2 ^ 60:=Nat.pow_le_pow_right (by decide) hn
 refine ⟨(BitVec.ofInt 64 x &&& BitVec.ofInt 64 ((2 ^ n : Nat) - 1 : Int)).toNat,?_,?_⟩
 ·rw [BitVec.toNat_and]
  have e : (BitVec.ofInt 64 ((2 ^ n : Nat) - 1 : Int)).toNat = 2 ^ n - 1:=by
   rw [BitVec.toNat_ofInt]; omega
  rw [e]
  exact Nat.lt_of_le_of_lt Nat.and_le_right (by omega)
 ·simp only [dF]
  exact Eb (BitVec.isLt _)

theorem Vd {g : Nat} (n cp a b : Nat) (hN : n < 1152921504606846976) (hab : a <= b) (hb : b <= n) (l : List Int) (hl : l.length = n) :
  dK Try.prog 66 [.ms 0 0 n cp 1,.int .i64 a,.int .i64 b,.fn g []] (jZ cp l) (JO cp l):=by
 obtain ⟨h,rfl⟩ : ∃ h,b = a + h:=⟨b - a,by omega⟩
 have e1 : ((a + h : Nat) : Int) - (a : Int) = (h : Int):=by omega
 have e2 : (h : Int).tdiv 4 = ((h / 4 : Nat) : Int):=rfl
 have c2:=Va h (by omega)
 obtain ⟨w,hw1,hw2⟩ : ∃ w,gy h = w /\ (8 <= h -> 2 ^ w <= 2 * h):=⟨_,rfl,fun h8=>by
  obtain ⟨k,k1,k2,k3⟩:=mD (x:=h) (by omega)
  rw [k1,Nat.pow_succ]; omega⟩
 have hw3 : w <= 60:=by rw [<- hw1]; exact qo (by omega)
 rw [hw1] at c2
 have hmask:=fun x=>Pz x hw3
 have hp0 : 1 <= 2 ^ w:=Nat.one_le_two_pow
 have ZY : 2 ^ w <= 2 ^ 60:=Nat.pow_le_pow_right (by decide) hw3
 refine dK.mQ (.r 1 (.s .n (.c (.r 2 (.s .n (.b (.b (.r 1 (.s (.b (.r 1 (.j .n .n))) .n)))))) .n))) lay mixed Try.func66 (by kernel_rfl) rfl (by kernel_rfl) rfl fun hok=>?_
 (try dsimp only[aU,aH]);(try dsimp only[aj]);conv=>whnf
 rw [e1]
 refine zA ?_;conv=>whnf
 refine And.intro (fun p8=>?_) (fun p8=>?_)
 ·have p8 : 8 <= h:=by omega
  have hw2:=hw2 p8
  (try dsimp only[aj]);conv=>whnf
  refine .pure _ _ ?_ ⟨rfl,rfl⟩ c2 fun _=>?_
  ·exact au _
  (try dsimp only[aj]);conv=>whnf
  refine ⟨by decide,?_⟩
  conv=>whnf
  refine ⟨bP (by omega) (by omega),?_⟩
  rw [e2]
  conv=>whnf
  refine zA ?_;conv=>whnf
  refine zA ?_;conv=>whnf
  refine zA ?_;conv=>whnf
  generalize hu : IntKind.u64.wrap (h : Int) = u0 at *
  obtain ⟨z,hz⟩ : ∃ z,a + h / 4 * 2 - 1 = z:=⟨_,rfl⟩
  rw [show (a : Int) + ((h / 4 : Nat) : Int) * 2 - 1 = ((z : Nat) : Int) by omega]
  refine aJ.of <| (aA.inv (.refl _ _) (fun x : Nat × Int × List Int=>(z <= x.1 /\ x.1 <= z + 3) /\ List.Perm x.2.2 l) (fun x=>[(11,.int .i64 (x.1 : Int))]) (fun x=>Yr cp x.2.2 x.2.1) (fun x=>z + 3 - x.1) (z,u0,l) ?_ ?_ ?_ ?_)
  ·exact ⟨by dsimp only; omega,.refl _⟩
  ·exact fun _=>rfl
  ·refine ⟨?_,.mk ?_ (by simp [ak])⟩
   ·all_goals exact wk
   ·all_goals exact wk
  rintro ⟨k,u,m⟩ ⟨hk,hp⟩ _
  dsimp only at hk hp ⊢
  have hml : m.length = n:=by rw [hp.length_eq,hl]
  (try dsimp only[aj]);conv=>whnf
  refine ⟨by decide,?_⟩
  conv=>whnf
  refine ⟨bP (by omega) (by omega),?_⟩
  rw [e2]
  conv=>whnf
  refine zA ?_;conv=>whnf
  refine zA ?_;conv=>whnf
  refine zA ?_;conv=>whnf
  refine And.intro (fun q=>?_) (fun q=>?_)
  ·(try dsimp only[aj]);conv=>whnf
   refine .rel _ (X4 cp m u) fun R H' hq _=>?_
   obtain ⟨s,rfl,rfl⟩:=hq
   obtain ⟨o,ho,ho2⟩:=hmask s
   have e3 : IntKind.i64.wrap (dF .and .u64 s (IntKind.u64.wrap (((2 ^ w : Nat) : Int) - 1))) = (o : Int):=by
    rw [show (((2 ^ w : Nat) : Int) - 1) = ((2 ^ w - 1 : Nat) : Int) by omega,Eb (by omega),show ((2 ^ w - 1 : Nat) : Int) = ((2 ^ w : Nat) : Int) - 1 by omega,ho2]
    exact wrap64 (by omega) (by omega)
   (try dsimp only[aj]);conv=>whnf
   rw [e3]
   refine ⟨⟨{o : Nat // o < h},fun x=>[(12,.int .i64 (x.1 : Int)),(11,.int .i64 (k : Int)),(10,.int .u64 ((2 ^ w : Nat) : Int)),(8,.int .i64 (h : Int)),(9,.ptr 1 [] 0),(0,.ms 0 0 n cp 1),(1,.int .i64 (a : Int))],fun _=>Yr cp m s,?_,?_⟩⟩
   ·(try dsimp only[aj]);conv=>whnf
    refine And.intro (fun q2=>?_) (fun q2=>?_)
    ·(try dsimp only[aj]);conv=>whnf
     refine zA ?_;conv=>whnf
     rw [show (o : Int) - (h : Int) = ((o - h : Nat) : Int) by omega]
     (try dsimp only[aj]);conv=>whnf
     refine ⟨⟨o - h,by omega⟩,by simp [nextId],?_,.mk ?_ (by simp [ak])⟩
     ·all_goals exact wk
     ·all_goals exact wk
    ·(try dsimp only[aj]);conv=>whnf
     refine ⟨⟨o,by omega⟩,by simp [nextId],?_,.mk ?_ (by simp [ak])⟩
     ·all_goals exact wk
     ·all_goals exact wk
   clear ho ho2 e3
   rintro ⟨o,ho⟩ _
   dsimp only
   (try dsimp only[aj]);conv=>whnf
   refine bg.auto (by kernel_rfl) ?_;conv=>whnf
   refine zA ?_;conv=>whnf
   refine zA ?_;conv=>whnf
   refine ⟨by omega,?_⟩
   conv=>whnf
   refine aO (i:=a + o) (by omega) (by omega) ⟨rfl,?_⟩
   conv=>whnf
   refine ⟨by omega,?_⟩
   conv=>whnf
   refine aO (i:=k) (by omega) (by omega) ⟨rfl,?_⟩
   conv=>whnf
   refine ⟨by omega,?_⟩
   conv=>whnf
   refine ⟨by simp; omega,rfl,?_⟩
   conv=>whnf
   refine ⟨by omega,?_⟩
   conv=>whnf
   refine ⟨by simp; omega,rfl,?_⟩
   conv=>whnf
   refine zA ?_;conv=>whnf
   refine ⟨(k + 1,s,swp m k (a + o)),⟨by dsimp only; omega,(dX (by omega) (by omega)).trans hp⟩,?_,?_⟩
   ·refine ⟨?_,.mk ?_ (by simp [ak])⟩
    ·all_goals exact wk
    ·repeat' first|exact rfl|exact trivial|exact wR|exact lR _|apply aI
     all_goals (refine bF ?_; exact fH (by omega) (by omega))
   ·exact (by omega : z + 3 - (k + 1) < z + 3 - k)
  ·(try dsimp only[aj]);conv=>whnf
   refine ⟨_,_,⟨rfl,m,hp,rfl⟩,?_⟩
   refine ⟨⟨_,_,.refl _ _,?_⟩⟩
   conv=>whnf
   refine ⟨?_,rfl,by simp [nextId],.mk ?_ (by simp [ak])⟩
   ·all_goals exact wk
   ·all_goals exact wk
 ·(try dsimp only[aj]);conv=>whnf
  refine ⟨_,_,⟨rfl,l,.refl _,rfl⟩,?_⟩
  refine ⟨⟨_,_,.refl _ _,?_⟩⟩
  conv=>whnf
  refine ⟨?_,rfl,by simp [nextId],.mk ?_ (by simp [ak])⟩
  ·all_goals exact wk
  ·all_goals exact wk

theorem X7 {cf : Int -> Int -> Int} {g : Nat} (hcf : yE cf g) (n cp : Nat) (hN : n < 1152921504606846976) : ∀ (S a0 b0 Us : Nat) (l : List Int),l.length = n -> a0 <= b0 -> b0 <= n -> Us <= 100 -> b0 - a0 = S ->
  dK Try.prog 42 [.ms 0 0 n cp 1,.int .i64 a0,.int .i64 b0,.int .i64 Us,.fn g []] (jZ cp l) (JO cp l):=by
 intro S
 induction S using Nat.strongRecOn with
 | _ S ih =>
 intro a0 b0 Us l hl hab0 hb0 Zm hS
 refine dK.mQ (.r 2 (.b (.b (.b (.r 3 (.j .n (.r 1 (.j .n (.j .n .n))))))))) lay mixed Try.func42 (by kernel_rfl) rfl (by kernel_rfl) rfl fun hok=>?_
 (try dsimp only[aU,aH]);(try dsimp only[aj]);conv=>whnf
 refine aJ.of <| (aA.inv (.refl _ _) (fun x : Nat × Nat × Nat × Bool × Bool × List Int=>(x.1 <= x.2.1 /\ x.2.1 <= n /\ x.2.1 - x.1 <= S /\ x.2.2.1 <= 100) /\ List.Perm x.2.2.2.2.2 l) (fun x=>[(1,.int .i64 (x.1 : Int)),(2,.int .i64 (x.2.1 : Int)),(3,.int .i64 (x.2.2.1 : Int)),(10,.bool x.2.2.2.1),(11,.bool x.2.2.2.2.1)]) (fun x=>jZ cp x.2.2.2.2.2) (fun x=>x.2.1 - x.1) (a0,b0,Us,true,true,l) ?_ ?_ ?_ ?_)
 ·exact ⟨by dsimp only; omega,.refl _⟩
 ·exact fun _=>rfl
 ·refine ⟨?_,.mk ?_ (by simp [ak])⟩
  ·all_goals exact wk
  ·all_goals exact wk
 rintro ⟨a,b,lim,wb,wp,m⟩ ⟨⟨hab,hb,hs,hlim⟩,hp⟩ _
 dsimp only at hab hb hs hlim hp ⊢
 have hml : m.length = n:=by rw [hp.length_eq,hl]
 obtain ⟨h,rfl⟩ : ∃ h,b = a + h:=⟨b - a,by omega⟩
 have e1 : ((a + h : Nat) : Int) - (a : Int) = (h : Int):=by omega
 (try dsimp only[aj]);conv=>whnf
 rw [e1]
 refine zA ?_;conv=>whnf
 refine And.intro (fun p12=>?_) (fun p12=>?_)
 ·(try dsimp only[aj]);conv=>whnf
  refine .gen _ _ (VG hcf n cp a (a + h) (by omega) (by omega) (by omega) m hml) fun _=>?_
  (try dsimp only[aj]);conv=>whnf
  refine ⟨_,_,⟨rfl,_,(oO cf (a:=a) (b:=a + h) (l:=m) (by omega)).trans hp,rfl⟩,?_⟩
  refine ⟨⟨_,_,.refl _ _,?_⟩⟩
  conv=>whnf
  refine ⟨?_,rfl,by simp [nextId],.mk ?_ (by simp [ak])⟩
  ·all_goals exact wk
  ·all_goals exact wk
 have p12 : 12 < h:=by omega
 (try dsimp only[aj]);conv=>whnf
 refine And.intro (fun pl=>?_) (fun pl=>?_)
 ·(try dsimp only[aj]);conv=>whnf
  refine .rel _ (WY hcf n cp a (a + h) (by omega) (by omega) (by omega) m hml) fun R H' hq _=>?_
  obtain ⟨rfl,l',hp',rfl⟩:=hq
  (try dsimp only[aj]);conv=>whnf
  refine ⟨_,_,⟨rfl,_,hp'.trans hp,rfl⟩,?_⟩
  refine ⟨⟨_,_,.refl _ _,?_⟩⟩
  conv=>whnf
  refine ⟨?_,rfl,by simp [nextId],.mk ?_ (by simp [ak])⟩
  ·all_goals exact wk
  ·all_goals exact wk
 have pl : 0 < lim:=by omega
 (try dsimp only[aj]);conv=>whnf
 refine ⟨⟨{x : Nat × List Int // x.1 <= 100 /\ List.Perm x.2 l},fun x=>[(0,.ms 0 0 n cp 1),(1,.int .i64 (a : Int)),(2,.int .i64 ((a + h : Nat) : Int)),(3,.int .i64 (x.1.1 : Int)),(4,.fn g []),(10,.bool wb),(11,.bool wp),(12,.int .i64 (h : Int))],fun x=>jZ cp x.1.2,?_,?_⟩⟩
 ·(try dsimp only[aj]);conv=>whnf
  refine And.intro (fun q=>?_) (fun q=>?_)
  ·(try dsimp only[aj]);conv=>whnf
   refine .rel _ (Vd n cp a (a + h) hN (by omega) (by omega) m hml) fun R H' hq _=>?_
   obtain ⟨rfl,l',hp',rfl⟩:=hq
   (try dsimp only[aj]);conv=>whnf
   refine zA ?_;conv=>whnf
   rw [show (lim : Int) - 1 = ((lim - 1 : Nat) : Int) by omega]
   (try dsimp only[aj]);conv=>whnf
   refine ⟨⟨(lim - 1,l'),by dsimp only; omega,hp'.trans hp⟩,by simp [nextId],?_,.mk ?_ (by simp [ak])⟩
   ·all_goals exact wk
   ·all_goals exact wk
  ·(try dsimp only[aj]);conv=>whnf
   refine ⟨⟨(lim,m),hlim,hp⟩,by simp [nextId],?_,.mk ?_ (by simp [ak])⟩
   ·all_goals exact wk
   ·all_goals exact wk
 rintro ⟨⟨lim,m1⟩,hlim,hp1⟩ _
 dsimp only at hlim hp1 ⊢
 have Uw : m1.length = n:=by rw [hp1.length_eq,hl]
 (try dsimp only[aj]);conv=>whnf
 refine .rel _ (U7 hcf n cp a (a + h) (by omega) m1 Uw (by omega) (by omega)) fun R H' hq _=>?_
 obtain ⟨pv,hint,rfl,hpv,Zn,rfl⟩:=hq
 (try dsimp only[aj]);conv=>whnf
 refine ⟨⟨{x : Nat × Nat × List Int // (a <= x.1 /\ x.1 < a + h) /\ List.Perm x.2.2 l},fun x=>[(0,.ms 0 0 n cp 1),(1,.int .i64 (a : Int)),(2,.int .i64 ((a + h : Nat) : Int)),(3,.int .i64 (lim : Int)),(4,.fn g []),(10,.bool wb),(11,.bool wp),(12,.int .i64 (h : Int)),(13,.int .i64 (x.1.1 : Int)),(14,.int .i64 (x.1.2.1 : Int))],fun x=>jZ cp x.1.2.2,?_,?_⟩⟩
 ·(try dsimp only[aj]);conv=>whnf
  refine And.intro (fun q=>?_) (fun q=>?_)
  ·(try dsimp only[aj]);conv=>whnf
   refine .rel _ (X6 n cp a (a + h) (by omega) (by omega) (by omega) m1 Uw) fun R H' hq _=>?_
   obtain ⟨rfl,l',hp',rfl⟩:=hq
   (try dsimp only[aj]);conv=>whnf
   refine zA ?_;conv=>whnf
   refine zA ?_;conv=>whnf
   refine zA ?_;conv=>whnf
   rw [show ((a + h : Nat) : Int) - 1 - ((pv : Int) - (a : Int)) = ((a + h - 1 - (pv - a) : Nat) : Int) by omega]
   (try dsimp only[aj]);conv=>whnf
   refine ⟨⟨(a + h - 1 - (pv - a),1,l'),by dsimp only; omega,hp'.trans hp1⟩,by simp [nextId],?_,.mk ?_ (by simp [ak])⟩
   ·all_goals exact wk
   ·all_goals exact wk
  ·(try dsimp only[aj]);conv=>whnf
   refine ⟨⟨(pv,hint,m1),hpv,hp1⟩,by simp [nextId],?_,.mk ?_ (by simp [ak])⟩
   ·all_goals exact wk
   ·all_goals exact wk
 rintro ⟨⟨pv,hint,m2⟩,hpv,hp2⟩ _
 dsimp only at hpv hp2 ⊢
 have XM : m2.length = n:=by rw [hp2.length_eq,hl]
 (try dsimp only[aj]);conv=>whnf
 refine ⟨⟨{x : List Int // List.Perm x l},fun x=>[(0,.ms 0 0 n cp 1),(1,.int .i64 (a : Int)),(2,.int .i64 ((a + h : Nat) : Int)),(3,.int .i64 (lim : Int)),(4,.fn g []),(10,.bool wb),(11,.bool wp),(12,.int .i64 (h : Int)),(13,.int .i64 (pv : Int))],fun x=>jZ cp x.1,?_,?_⟩⟩
 ·(try dsimp only[aj]);conv=>whnf
  refine And.intro (fun q1=>?_) (fun q1=>?_)
  ·(try dsimp only[aj]);conv=>whnf
   refine And.intro (fun q2=>?_) (fun q2=>?_)
   ·(try dsimp only[aj]);conv=>whnf
    refine And.intro (fun q3=>?_) (fun q3=>?_)
    ·(try dsimp only[aj]);conv=>whnf
     refine .rel _ (Pj hcf n cp a (a + h) (by omega) (by omega) (by omega) m2 XM) fun R H' hq _=>?_
     obtain ⟨B,hB,rfl,l',hp',rfl⟩:=hq
     rcases hB with rfl | rfl
     ·(try dsimp only[aj]);conv=>whnf
      refine ⟨_,_,⟨rfl,l',hp'.trans hp2,rfl⟩,?_⟩
      refine ⟨⟨_,_,.refl _ _,?_⟩⟩
      conv=>whnf
      refine ⟨?_,rfl,by simp [nextId],.mk ?_ (by simp [ak])⟩
      ·all_goals exact wk
      ·all_goals exact wk
     ·(try dsimp only[aj]);conv=>whnf
      refine ⟨⟨l',hp'.trans hp2⟩,by simp [nextId],?_,.mk ?_ (by simp [ak])⟩
      ·all_goals exact wk
      ·all_goals exact wk
    ·(try dsimp only[aj]);conv=>whnf
     refine ⟨⟨m2,hp2⟩,by simp [nextId],?_,.mk ?_ (by simp [ak])⟩
     ·all_goals exact wk
     ·all_goals exact wk
   ·(try dsimp only[aj]);conv=>whnf
    refine ⟨⟨m2,hp2⟩,by simp [nextId],?_,.mk ?_ (by simp [ak])⟩
    ·all_goals exact wk
    ·all_goals exact wk
  ·(try dsimp only[aj]);conv=>whnf
   refine ⟨⟨m2,hp2⟩,by simp [nextId],?_,.mk ?_ (by simp [ak])⟩
   ·all_goals exact wk
   ·all_goals exact wk
 rintro ⟨m3,hp3⟩ _
 dsimp only at hp3 ⊢
 have WC : m3.length = n:=by rw [hp3.length_eq,hl]
 (try dsimp only[aj]);conv=>whnf
 refine bg.auto (by kernel_rfl) ?_;conv=>whnf
 refine And.intro (fun q1=>?_) (fun q1=>?_)
 ·have q1 : 0 < a:=by omega
  conv=>whnf
  refine zA ?_;conv=>whnf
  refine ⟨by omega,?_⟩
  conv=>whnf
  refine aO (i:=a - 1) (by omega) (by omega) ⟨rfl,?_⟩
  conv=>whnf
  refine ⟨by omega,?_⟩
  conv=>whnf
  refine aO (i:=pv) (by omega) (by omega) ⟨rfl,?_⟩
  conv=>whnf
  refine eu.pure _ _ ?_ ⟨rfl,rfl⟩ (hcf (m3.getD (a - 1) default) (m3.getD pv default)) ?_
  ·exact au _
  (try dsimp only[aj]);conv=>whnf
  refine And.intro (fun q2=>?_) (fun q2=>?_)
  ·(try dsimp only[aj]);conv=>whnf
   refine .rel _ (RU hcf n cp a (a + h) pv (by omega) (by omega) (by omega) hpv m3 WC) fun R H' hq _=>?_
   obtain ⟨i,hi,rfl,l',hp',rfl⟩:=hq
   (try dsimp only[aj]);conv=>whnf
   refine ⟨(i,a + h,lim,wb,wp,l'),⟨by dsimp only; omega,hp'.trans hp3⟩,?_,?_⟩
   ·refine ⟨?_,.mk ?_ (by simp [ak])⟩
    ·all_goals exact wk
    ·all_goals exact wk
   ·exact (by omega : a + h - i < a + h - a)
  ·(try dsimp only[aj]);conv=>whnf
   refine .rel _ (RV hcf n cp a (a + h) pv (by omega) (by omega) (by omega) hpv m3 WC) fun R H' hq _=>?_
   obtain ⟨j,B,⟨hj,hB⟩,rfl,l4,QT,rfl⟩:=hq
   obtain ⟨bb,hB⟩ : ∃ bb,le0 B (.bool bb):=by
    rcases hB with rfl | rfl
    ·exact ⟨true,rfl⟩
    ·exact ⟨false,rfl⟩
   have QT:=QT.trans hp3
   have QV : l4.length = n:=by rw [QT.length_eq,hl]
   (try dsimp only[aj]);conv=>whnf
   refine zA ?_;conv=>whnf
   refine zA ?_;conv=>whnf
   refine ⟨by decide,?_⟩
   conv=>whnf
   have e8 : 0 <= (h : Int).tdiv 8 /\ (h : Int).tdiv 8 <= h:=by
    rw [show (h : Int).tdiv 8 = ((h / 8 : Nat) : Int) from rfl]; omega
   refine ⟨bP (by omega) (by omega),?_⟩
   (try dsimp only[aj]);conv=>whnf
   refine And.intro (fun z=>?_) (fun z=>?_)
   ·(try dsimp only[aj]);conv=>whnf
    refine .rel _ (ih (j - a) (by omega) a j lim l4 QV (by omega) (by omega) hlim rfl) fun R H' hq _=>?_
    obtain ⟨rfl,l5,WB,rfl⟩:=hq
    (try dsimp only[aj]);conv=>whnf
    refine zA ?_;conv=>whnf
    refine ⟨(j + 1,a + h,lim,decide ((j : Int) - a ≥ (h : Int).tdiv 8),bb,l5),⟨by dsimp only; omega,WB.trans QT⟩,?_,?_⟩
    ·refine ⟨?_,.mk ?_ (by simp [ak])⟩
     ·repeat' first|exact rfl|exact trivial|exact wR|exact lR _|apply aI
      all_goals first | omega | (dsimp only; omega) | (show _ ↔ decide _ = true; rw [decide_eq_true_iff]; done) | exact hB | skip
     ·all_goals exact wk
    ·exact (by omega : (a + h) - (j + 1) < a + h - a)
   ·(try dsimp only[aj]);conv=>whnf
    refine zA ?_;conv=>whnf
    rw [show (j : Int) + 1 = ((j + 1 : Nat) : Int) by omega]
    refine .rel _ (ih (a + h - (j + 1)) (by omega) (j + 1) (a + h) lim l4 QV (by omega) (by omega) hlim rfl) fun R H' hq _=>?_
    obtain ⟨rfl,l5,WB,rfl⟩:=hq
    (try dsimp only[aj]);conv=>whnf
    refine ⟨(a,j,lim,decide (((a + h : Nat) : Int) - j ≥ (h : Int).tdiv 8),bb,l5),⟨by dsimp only; omega,WB.trans QT⟩,?_,?_⟩
    ·refine ⟨?_,.mk ?_ (by simp [ak])⟩
     ·repeat' first|exact rfl|exact trivial|exact wR|exact lR _|apply aI
      all_goals first | omega | (dsimp only; omega) | (show _ ↔ decide _ = true; rw [decide_eq_true_iff]; done) | exact hB | skip
     ·all_goals exact wk
    ·exact (by omega : (j) - (a) < a + h - a)
 ·(try dsimp only[aj]);conv=>whnf
  refine .rel _ (RV hcf n cp a (a + h) pv (by omega) (by omega) (by omega) hpv m3 WC) fun R H' hq _=>?_
  obtain ⟨j,B,⟨hj,hB⟩,rfl,l4,QT,rfl⟩:=hq
  obtain ⟨bb,hB⟩ : ∃ bb,le0 B (.bool bb):=by
   rcases hB with rfl | rfl
   ·exact ⟨true,rfl⟩
   ·exact ⟨false,rfl⟩
  have QT:=QT.trans hp3
  have QV : l4.length = n:=by rw [QT.length_eq,hl]
  (try dsimp only[aj]);conv=>whnf
  refine zA ?_;conv=>whnf
  refine zA ?_;conv=>whnf
  refine ⟨by decide,?_⟩
  conv=>whnf
  have e8 : 0 <= (h : Int).tdiv 8 /\ (h : Int).tdiv 8 <= h:=by
   rw [show (h : Int).tdiv 8 = ((h / 8 : Nat) : Int) from rfl]; omega
  refine ⟨bP (by omega) (by omega),?_⟩
  (try dsimp only[aj]);conv=>whnf
  refine And.intro (fun z=>?_) (fun z=>?_)
  ·(try dsimp only[aj]);conv=>whnf
   refine .rel _ (ih (j - a) (by omega) a j lim l4 QV (by omega) (by omega) hlim rfl) fun R H' hq _=>?_
   obtain ⟨rfl,l5,WB,rfl⟩:=hq
   (try dsimp only[aj]);conv=>whnf
   refine zA ?_;conv=>whnf
   refine ⟨(j + 1,a + h,lim,decide ((j : Int) - a ≥ (h : Int).tdiv 8),bb,l5),⟨by dsimp only; omega,WB.trans QT⟩,?_,?_⟩
   ·refine ⟨?_,.mk ?_ (by simp [ak])⟩
    ·repeat' first|exact rfl|exact trivial|exact wR|exact lR _|apply aI
     all_goals first | omega | (dsimp only; omega) | (show _ ↔ decide _ = true; rw [decide_eq_true_iff]; done) | exact hB | skip
    ·all_goals exact wk
   ·exact (by omega : (a + h) - (j + 1) < a + h - a)
  ·(try dsimp only[aj]);conv=>whnf
   refine zA ?_;conv=>whnf
   rw [show (j : Int) + 1 = ((j + 1 : Nat) : Int) by omega]
   refine .rel _ (ih (a + h - (j + 1)) (by omega) (j + 1) (a + h) lim l4 QV (by omega) (by omega) hlim rfl) fun R H' hq _=>?_
   obtain ⟨rfl,l5,WB,rfl⟩:=hq
   (try dsimp only[aj]);conv=>whnf
   refine ⟨(a,j,lim,decide (((a + h : Nat) : Int) - j ≥ (h : Int).tdiv 8),bb,l5),⟨by dsimp only; omega,WB.trans QT⟩,?_,?_⟩
   ·refine ⟨?_,.mk ?_ (by simp [ak])⟩
    ·repeat' first|exact rfl|exact trivial|exact wR|exact lR _|apply aI
     all_goals first | omega | (dsimp only; omega) | (show _ ↔ decide _ = true; rw [decide_eq_true_iff]; done) | exact hB | skip
    ·all_goals exact wk
   ·exact (by omega : (j) - (a) < a + h - a)

def I5 (l : List Int) : Nat -> List Int
 | 0=>[]
 | 1=>l.take 1
 | i + 2=>if l.getD (i + 1) default = l.getD i default then I5 l (i + 1) else I5 l (i + 1) ++ [l.getD (i + 1) default]

theorem I4 (l : List Int) {i : Nat} (h : 1 <= i) : I5 l (i + 1) = if l.getD i default = l.getD (i - 1) default then I5 l i else I5 l i ++ [l.getD i default]:=by
 obtain ⟨j,rfl⟩ : ∃ j,i = j + 1:=⟨i - 1,by omega⟩
 rfl

theorem wP {l : List Int} : ∀ {k : Nat},(∀ i,i + 1 < k -> l.getD (i + 1) default ≠ l.getD i default) -> k <= l.length -> I5 l k = l.take k
 | 0,_,_=>rfl
 | 1,_,_=>rfl
 | k + 2,h,hk=>by
   rw [I5,if_neg (h k (by omega)),wP (fun i hi=>h i (by omega)) (by omega)]
   rw [List.take_succ_eq_append_getElem (show k + 1 < l.length by omega)]
   rw [List.getD_eq_getElem?_getD,List.getElem?_eq_getElem (by omega)]
   rfl

theorem SS {α : Type} [Inhabited α] {f : α -> AV} {l : List α} {i o : Nat} {z : Int} {k : AV -> Prop} (hz : ((o + z.toNat : Nat) : Int) = (i : Int)) (h : i < l.length) (hk : k (f (l.getD i default))) : iY (l.map f) ((o + z.toNat : Nat) : Int) k:=by
 rw [hz]
 refine ⟨⟨f (l.getD i default),⟨by omega,?_⟩,hk⟩⟩
 simp [List.getD_eq_getElem?_getD,h]

theorem Pq (n cp : Nat) (hN : n < 1152921504606846976) (hcp : n <= cp) (l : List Int) (hl : l.length = n) :
  dK Try.prog 97 [.ms 0 0 n cp 1] (jZ cp l) (fun R H'=>∃ (k : Nat) (l' : List Int),R = .ms 0 0 k cp 1 /\ H' = jZ cp l' /\ k <= n /\ l'.length = n /\ l'.take k = I5 l n):=by
 refine dK.intro lay mixed Try.func97 (by kernel_rfl) rfl (by kernel_rfl) rfl fun hok=>?_
 (try dsimp only[aU,aH]);(try dsimp only[aj]);conv=>whnf
 refine And.intro (fun p=>?_) (fun p=>?_)
 ·(try dsimp only[aj]);conv=>whnf
  refine ⟨_,_,⟨n,l,rfl,rfl,Nat.le_refl _,hl,(wP (fun i hi=>by omega) (by omega)).symm⟩,?_⟩
  refine ⟨⟨_,_,.refl _ _,?_⟩⟩
  conv=>whnf
  refine ⟨?_,rfl,by simp [nextId],.mk ?_ (by simp [ak])⟩
  ·all_goals exact wk
  ·all_goals exact wk
 have p : 2 <= n:=by omega
 (try dsimp only[aj]);conv=>whnf
 refine aJ.of <| (aA.inv (.refl _ _) (fun k : Nat=>(1 <= k /\ k <= n) /\ ∀ i,i + 1 < k -> l.getD (i + 1) default ≠ l.getD i default) (fun k=>[(3,.int .i64 (k : Int))]) (fun _=>jZ cp l) (fun k=>n - k) 1 ?_ ?_ ?_ ?_)
 ·exact ⟨by omega,fun i hi=>by omega⟩
 ·exact fun _=>rfl
 ·refine ⟨?_,.mk ?_ (by simp [ak])⟩
  ·all_goals exact wk
  ·all_goals exact wk
 rintro k ⟨hk,hne⟩ _
 (try dsimp only[aj]);conv=>whnf
 refine And.intro (fun q=>?_) (fun q=>?_)
 ·have q : k < n:=by omega
  (try dsimp only[aj]);conv=>whnf
  refine bg.auto (by kernel_rfl) ?_;conv=>whnf
  refine ⟨by omega,?_⟩
  conv=>whnf
  refine aO (i:=k) rfl (by omega) ⟨rfl,?_⟩
  conv=>whnf
  refine zA ?_;conv=>whnf
  refine ⟨by omega,?_⟩
  conv=>whnf
  refine aO (i:=k - 1) (by omega) (by omega) ⟨rfl,?_⟩
  conv=>whnf
  refine And.intro (fun r=>?_) (fun r=>?_)
  ·(try dsimp only[aj]);conv=>whnf
   refine ⟨⟨by omega,by omega,Int.le_refl _⟩,by omega,?_⟩
   (try dsimp only[aj]);conv=>whnf
   obtain ⟨z,rfl⟩ : ∃ z,n = k + z:=⟨n - k,by omega⟩
   refine aJ.of <| (aA.inv (.refl _ _) (fun x : Nat × Nat × List Int=>(1 <= x.2.1 /\ x.2.1 <= z /\ k <= x.1 /\ x.1 < k + x.2.1) /\ x.2.2.length = k + z /\ x.2.2.take x.1 = I5 l (k + x.2.1) /\ ∀ i,k + x.2.1 <= i + 1 -> x.2.2.getD i default = l.getD i default) (fun x=>[(3,.int .i64 (x.1 : Int)),(5,.int .i64 (x.2.1 : Int)),(4,.ms 0 k z (cp - k) 1)]) (fun x=>jZ cp x.2.2) (fun x=>z - x.2.1) (k,1,l) ?_ ?_ ?_ ?_)
   ·refine ⟨by dsimp only; omega,hl,?_,fun i _=>rfl⟩
    show l.take k = I5 l (k + 1)
    rw [I4 l hk.1,if_pos r,wP hne (by omega)]
   ·exact fun _=>rfl
   ·refine ⟨?_,.mk ?_ (by simp [ak])⟩
    ·repeat' first|exact rfl|exact trivial|exact wR|exact lR _|apply aI
     all_goals (rw [show 0 + ((k : Nat) : Int).toNat = k by omega,show ((k + z : Nat) : Int).toNat - ((k : Nat) : Int).toNat = z by omega,show cp - ((k : Nat) : Int).toNat = cp - k by omega]; exact rfl)
    ·all_goals exact wk
   rintro ⟨k1,k2,m⟩ ⟨⟨hk1,hk2,hk3,hk4⟩,hml,htk,hdr⟩ _
   dsimp only at hk1 hk2 hk3 hk4 hml htk hdr ⊢
   (try dsimp only[aj]);conv=>whnf
   refine And.intro (fun u=>?_) (fun u=>?_)
   ·have hn1:=I4 l (i:=k + k2) (by omega)
    have d1:=hdr (k + k2) (by omega)
    have d2:=hdr (k + k2 - 1) (by omega)
    (try dsimp only[aj]);conv=>whnf
    refine bg.auto (by kernel_rfl) ?_;conv=>whnf
    refine ⟨by omega,?_⟩
    conv=>whnf
    refine SS (i:=k + k2) (by omega) (by omega) ⟨rfl,?_⟩
    conv=>whnf
    refine zA ?_;conv=>whnf
    refine ⟨by omega,?_⟩
    conv=>whnf
    refine SS (i:=k + k2 - 1) (by omega) (by omega) ⟨rfl,?_⟩
    conv=>whnf
    rw [d1,d2]
    refine And.intro (fun v=>?_) (fun v=>?_)
    ·(try dsimp only[aj]);conv=>whnf
     refine ⟨by omega,?_⟩
     conv=>whnf
     refine SS (i:=k + k2) (by omega) (by omega) ⟨rfl,?_⟩
     conv=>whnf
     refine ⟨by omega,?_⟩
     conv=>whnf
     refine ⟨by simp; omega,rfl,?_⟩
     (try dsimp only[aj]);conv=>whnf
     refine zA ?_;conv=>whnf
     refine zA ?_;conv=>whnf
     rw [d1]
     rw [if_neg v] at hn1
     refine ⟨(k1 + 1,k2 + 1,m.set k1 (l.getD (k + k2) default)),⟨by dsimp only; omega,by simpa using hml,?_,fun i hi=>?_⟩,?_,?_⟩
     ·show (m.set k1 (l.getD (k + k2) default)).take (k1 + 1) = I5 l (k + k2 + 1)
      rw [hn1,<- htk,List.take_succ_eq_append_getElem (by simp; omega),List.take_set_of_le (by omega),List.getElem_set_self]
     ·dsimp only at hi ⊢
      rw [<- hdr i (by omega),List.getD_eq_getElem?_getD,List.getElem?_set_ne (by omega),<- List.getD_eq_getElem?_getD]
     ·refine ⟨?_,.mk ?_ (by simp [ak])⟩
      ·all_goals exact wk
      ·repeat' first|exact rfl|exact trivial|exact wR|exact lR _|apply aI
       all_goals (refine bF ?_; simp only [List.map_set,Nat.zero_add,Int.toNat_natCast]; rfl)
     ·exact (by omega : z - (k2 + 1) < z - k2)
    ·have v : l.getD (k + k2) default = l.getD (k + k2 - 1) default:=by simpa using v
     rw [if_pos v] at hn1
     (try dsimp only[aj]);conv=>whnf
     refine zA ?_;conv=>whnf
     refine ⟨(k1,k2 + 1,m),⟨by dsimp only; omega,hml,?_,fun i hi=>?_⟩,?_,?_⟩
     ·show m.take k1 = I5 l (k + k2 + 1)
      rw [hn1]; exact htk
     ·dsimp only at hi ⊢
      exact hdr i (by omega)
     ·refine ⟨?_,.mk ?_ (by simp [ak])⟩
      ·all_goals exact wk
      ·all_goals exact wk
     ·exact (by omega : z - (k2 + 1) < z - k2)
   ·obtain rfl : k2 = z:=by omega
    (try dsimp only[aj]);conv=>whnf
    refine ⟨⟨by omega,by omega,Int.le_refl _⟩,by omega,?_⟩
    conv=>whnf
    refine ⟨⟨by omega,by simp; omega⟩,?_⟩
    (try dsimp only[aj]);conv=>whnf
    refine ⟨⟨by omega,by omega,by omega⟩,by omega,?_⟩
    (try dsimp only[aj]);conv=>whnf
    refine ⟨_,_,⟨k1,m.take k1 ++ List.replicate (k + k2 - k1) 0 ++ m.drop (k1 + (k + k2 - k1)),rfl,rfl,by omega,by simp; omega,?_⟩,?_⟩
    ·rw [List.append_assoc,List.take_append_of_le_length (by simp; omega),List.take_take,Nat.min_self]; exact htk
    ·refine ⟨⟨_,_,.refl _ _,?_⟩⟩
     conv=>whnf
     refine ⟨?_,rfl,by simp [nextId],.mk ?_ (by simp [ak])⟩
     ·all_goals exact wk
     ·repeat' first|exact rfl|exact trivial|exact wR|exact lR _|apply aI
      all_goals (refine bF ?_; simp [List.map_take,List.map_drop]; rw [show ((k : Int) + (k2 : Int)).toNat = k + k2 by omega])
  ·(try dsimp only[aj]);conv=>whnf
   refine zA ?_;conv=>whnf
   refine ⟨k + 1,?_,?_,?_⟩
   ·refine ⟨by omega,fun i hi=>?_⟩
    by_cases e : i + 1 = k
    ·obtain rfl : i = k - 1:=by omega
     rw [show k - 1 + 1 = k by omega]; exact r
    ·exact hne i (by omega)
   ·refine ⟨?_,.mk ?_ (by simp [ak])⟩
    ·all_goals exact wk
    ·all_goals exact wk
   ·omega
 ·have hkn : k = n:=by omega
  subst hkn
  (try dsimp only[aj]);conv=>whnf
  refine ⟨_,_,⟨k,l,rfl,rfl,Nat.le_refl _,hl,(wP hne (by omega)).symm⟩,?_⟩
  refine ⟨⟨_,_,.refl _ _,?_⟩⟩
  conv=>whnf
  refine ⟨?_,rfl,by simp [nextId],.mk ?_ (by simp [ak])⟩
  ·all_goals exact wk
  ·all_goals exact wk

theorem bJ.toQ {P : Program} {f : Nat} {args : List AV} {H : Heap} {R : AV} {G : Heap} (h : bJ P f args H R G) {Q : AV -> Heap -> Prop} (hQ : Q R G) : dK P f args H Q :=
 ⟨h.1,fun c vs hr hv=>(h.2 c vs hr hv).mono fun _ _ ⟨v,d,h3⟩=>⟨v,d,R,G,hQ,h3⟩⟩

theorem WQ {cf : Int -> Int -> Int} {g : Nat} (hcf : yE cf g) (n cp lim : Nat) (hn : n <= 12) (l : List Int) (hl : l.length = n) :
  bJ Try.prog 42 [.ms 0 0 n cp 1,.int .i64 0,.int .i64 n,.int .i64 lim,.fn g []] (jZ cp l) (.dS []) (jZ cp (qZ cf 0 n l)):=by
 have ci:=VG hcf n cp 0 n (by omega) (by omega) (Nat.le_refl _) l hl
 refine bJ.intro lay mixed Try.func42 (by kernel_rfl) rfl (by kernel_rfl) rfl fun hok=>?_
 (try dsimp only[aU,aH]);(try dsimp only[aj]);conv=>whnf
 refine aJ.of <| (aA.inv (.refl _ _) (fun _ : Unit=>True) (fun _=>[(1,.int .i64 0),(2,.int .i64 n)]) (fun _=>jZ cp l) (fun _=>0) () trivial ?_ ?_ ?_)
 ·exact fun _=>rfl
 ·refine ⟨?_,.mk ?_ (by simp [ak])⟩
  ·all_goals exact wk
  ·all_goals exact wk
 intro _ _ _
 (try dsimp only[aj]);conv=>whnf
 refine zA ?_;conv=>whnf
 refine bY (by omega) ?_
 (try dsimp only[aj]);conv=>whnf
 refine .gen _ _ ci fun _=>?_
 (try dsimp only[aj]);conv=>whnf
 refine ⟨⟨_,_,.refl _ _,?_⟩⟩
 conv=>whnf
 refine ⟨?_,rfl,by simp [nextId],.mk ?_ (by simp [ak])⟩
 ·all_goals exact wk
 ·all_goals exact wk

def VN (cf : Int -> Int -> Int) (cp : Nat) (l : List Int) : AV -> Heap -> Prop:=fun R H'=>R = .dS [] /\ ∃ l',List.Perm l' l /\ (l.length <= 12 -> l' = qZ cf 0 l.length l) /\ H' = jZ cp l'

theorem Np {cf : Int -> Int -> Int} {g : Nat} (hcf : yE cf g) (n cp : Nat) (hN : n < 1152921504606846976) (l : List Int) (hl : l.length = n) :
  dK Try.prog 20 [.ms 0 0 n cp 1,.fn g []] (jZ cp l) (VN cf cp l):=by
 have cL:=SC n (by omega)
 have hb:=qo (x:=n) (n:=60) (by omega)
 have cP : dK Try.prog 42 [.ms 0 0 n cp 1,.int .i64 0,.int .i64 n,.int .i64 (gy n),.fn g []] (jZ cp l) (VN cf cp l):=by
  by_cases h12 : n <= 12
  ·refine bJ.toQ (WQ hcf n cp (gy n) h12 l hl) ⟨rfl,_,oO cf (by omega),fun _=>by rw [hl],rfl⟩
  ·have:=X7 hcf n cp hN (n - 0) 0 n (gy n) l hl (by omega) (Nat.le_refl _) (by omega) rfl
   refine ⟨this.1,fun c vs hr hv=>(this.2 c vs hr hv).mono ?_⟩
   rintro _ _ ⟨v,d,R,G,⟨h1,l',h2,h3⟩,h4⟩
   exact ⟨v,d,R,G,⟨h1,l',h2,fun h=>absurd h (by omega),h3⟩,h4⟩
 generalize gy n = B at *
 refine dK.intro lay mixed Try.func20 (by kernel_rfl) rfl (by kernel_rfl) rfl fun hok=>?_
 (try dsimp only[aU,aH]);(try dsimp only[aj]);conv=>whnf
 rw [Eb (by omega)]
 refine .pure _ _ ?_ ⟨rfl,rfl⟩ cL fun _=>?_
 ·exact au _
 (try dsimp only[aj]);conv=>whnf
 refine .rel _ cP fun R H' hq _=>?_
 obtain ⟨rfl,l',h1,h2,rfl⟩:=hq
 (try dsimp only[aj]);conv=>whnf
 refine ⟨_,_,⟨rfl,l',h1,h2,rfl⟩,?_⟩
 refine ⟨⟨_,_,.refl _ _,?_⟩⟩
 conv=>whnf
 refine ⟨?_,rfl,by simp [nextId],.mk ?_ (by simp [ak])⟩
 ·all_goals exact wk
 ·all_goals exact wk

theorem WX {g : Nat} : bJ Try.prog 64 [.sl 1 [] .no,.int .i64 0,.int .i64 0,.fn g []] [] (.dS []) []:=by
 refine bJ.intro lay mixed Try.func64 (by kernel_rfl) rfl (by kernel_rfl) rfl fun hok=>?_
 (try dsimp only[aU,aH]);(try dsimp only[aj]);conv=>whnf
 refine zA ?_;conv=>whnf
 refine aJ.of <| (aA.inv (.refl _ _) (fun _ : Unit=>True) (fun _=>[(8,.int .i64 1)]) (fun _=>[]) (fun _=>0) () trivial ?_ ?_ ?_)
 ·exact fun _=>rfl
 ·refine ⟨?_,.mk ?_ (by simp [ak])⟩
  ·all_goals exact wk
  ·all_goals exact wk
 intro _ _ _
 (try dsimp only[aj]);conv=>whnf
 refine bN (by omega) ?_
 (try dsimp only[aj]);conv=>whnf
 refine ⟨⟨_,_,.refl _ _,?_⟩⟩
 conv=>whnf
 refine ⟨?_,rfl,by simp [nextId],.mk ?_ (by simp [ak])⟩
 ·all_goals exact wk
 ·all_goals exact wk

theorem WR {g : Nat} (lim : Nat) : bJ Try.prog 42 [.sl 1 [] .no,.int .i64 0,.int .i64 0,.int .i64 lim,.fn g []] [] (.dS []) []:=by
 refine bJ.intro lay mixed Try.func42 (by kernel_rfl) rfl (by kernel_rfl) rfl fun hok=>?_
 (try dsimp only[aU,aH]);(try dsimp only[aj]);conv=>whnf
 refine aJ.of <| (aA.inv (.refl _ _) (fun _ : Unit=>True) (fun _=>[(1,.int .i64 0),(2,.int .i64 0)]) (fun _=>[]) (fun _=>0) () trivial ?_ ?_ ?_)
 ·exact fun _=>rfl
 ·refine ⟨?_,.mk ?_ (by simp [ak])⟩
  ·all_goals exact wk
  ·all_goals exact wk
 intro _ _ _
 (try dsimp only[aj]);conv=>whnf
 refine zA ?_;conv=>whnf
 refine bY (by omega) ?_
 (try dsimp only[aj]);conv=>whnf
 refine .pure _ _ ?_ ⟨rfl,rfl⟩ (WX (g:=g)) fun _=>?_
 ·exact au _
 (try dsimp only[aj]);conv=>whnf
 refine ⟨⟨_,_,.refl _ _,?_⟩⟩
 conv=>whnf
 refine ⟨?_,rfl,by simp [nextId],.mk ?_ (by simp [ak])⟩
 ·all_goals exact wk
 ·all_goals exact wk

theorem Jj {g : Nat} : bJ Try.prog 20 [.sl 1 [] .no,.fn g []] [] (.dS []) []:=by
 have cL:=SC 0 (by omega)
 refine bJ.intro lay mixed Try.func20 (by kernel_rfl) rfl (by kernel_rfl) rfl fun hok=>?_
 (try dsimp only[aU,aH]);(try dsimp only[aj]);conv=>whnf
 refine .pure _ _ ?_ ⟨rfl,rfl⟩ cL fun _=>?_
 ·exact au _
 (try dsimp only[aj]);conv=>whnf
 refine .pure _ _ ?_ ⟨rfl,rfl⟩ (WR (g:=g) (gy 0)) fun _=>?_
 ·exact au _
 (try dsimp only[aj]);conv=>whnf
 refine ⟨⟨_,_,.refl _ _,?_⟩⟩
 conv=>whnf
 refine ⟨?_,rfl,by simp [nextId],.mk ?_ (by simp [ak])⟩
 ·all_goals exact wk
 ·all_goals exact wk

theorem Lu : bJ Try.prog 97 [.sl 1 [] .no] [] (.sl 1 [] .no) []:=by
 refine bJ.intro lay mixed Try.func97 (by kernel_rfl) rfl (by kernel_rfl) rfl fun hok=>?_
 (try dsimp only[aU,aH]);(try dsimp only[aj]);conv=>whnf
 refine bY (by decide) ?_
 (try dsimp only[aj]);conv=>whnf
 refine ⟨⟨_,_,.refl _ _,?_⟩⟩
 conv=>whnf
 refine ⟨?_,rfl,by simp [nextId],.mk ?_ (by simp [ak])⟩
 ·all_goals exact wk
 ·all_goals exact wk

theorem SA (l : List Int) (hN : l.length <= 1000000000) : dK Try.prog 25 [.sl 1 (l.map (.int .i64)) .no] [] (fun R H'=>(l = [] /\ R = .sl 1 [] .no /\ H' = []) \/ ∃ cp,l.length <= cp /\ cp <= maxL /\ R = .ms 0 0 l.length cp 1 /\ H' = jZ cp l):=by
 refine dK.intro lay mixed Try.func25 (by kernel_rfl) rfl (by kernel_rfl) rfl fun hok=>?_
 (try dsimp only[aU,aH]);(try dsimp only[aj]);conv=>whnf
 intro b hb
 (try dsimp only[aj]);conv=>whnf
 refine And.intro (fun h=>?_) (fun h=>?_)
 ·have hl : l = []:=by simpa using hb h
  (try dsimp only[aj]);conv=>whnf
  refine ⟨_,_,.inl ⟨hl,rfl,rfl⟩,?_⟩
  refine ⟨⟨_,_,.refl _ _,?_⟩⟩
  conv=>whnf
  refine ⟨?_,rfl,by simp [nextId],.mk ?_ (by simp [ak])⟩
  ·all_goals exact wk
  ·all_goals exact wk
 ·(try dsimp only[aj]);conv=>whnf
  by_cases hl : l = []
  ·subst hl
   refine .pure (by simp [maxL]) (by simp) ?_
   (try dsimp only[aj]);conv=>whnf
   refine ⟨_,_,.inl ⟨rfl,rfl,rfl⟩,?_⟩
   refine ⟨⟨_,_,.refl _ _,?_⟩⟩
   conv=>whnf
   refine ⟨?_,rfl,by simp [nextId],.mk ?_ (by simp [ak])⟩
   ·all_goals exact wk
   ·all_goals exact wk
  ·refine .wr (by simpa using hl) (by simp [maxL]; omega) (by simp; omega) ?_
   intro cp h1 h2
   rw [List.length_map,List.length_nil,Nat.zero_add] at h1 ⊢
   (try dsimp only[aj]);conv=>whnf
   refine ⟨_,_,.inr ⟨cp,h1,h2,rfl,rfl⟩,?_⟩
   refine ⟨⟨_,_,.refl _ _,?_⟩⟩
   conv=>whnf
   refine ⟨?_,rfl,by simp [nextId],.mk ?_ (by simp [ak])⟩
   ·all_goals exact wk
   ·all_goals exact wk

def VZ (l : List Int) : List Int:=I5 (qZ Ld 0 l.length l) l.length

theorem Nj (l : List Int) : ∀ (i : Nat),i <= l.length -> ∀ x,x ∈ I5 l i ↔ x ∈ l.take i
 | 0,_,x=>by simp [I5]
 | 1,_,x=>by simp [I5]
 | i + 2,h,x=>by
   have ih:=Nj l (i + 1) (by omega)
   have e1 : l.getD (i + 1) default = l[i + 1]'(by omega):=by rw [List.getD_eq_getElem?_getD,List.getElem?_eq_getElem (by omega)]; rfl
   have e2 : l.getD i default = l[i]'(by omega):=by rw [List.getD_eq_getElem?_getD,List.getElem?_eq_getElem (by omega)]; rfl
   rw [List.take_succ_eq_append_getElem (show i + 1 < l.length by omega),List.mem_append,List.mem_singleton]
   unfold I5
   split
   ·rename_i e
    rw [ih x]
    refine ⟨.inl,?_⟩
    rintro (h1 | h1)
    ·exact h1
    ·rw [h1,<- e1,e,e2]
     exact List.mem_take_iff_getElem.2 ⟨i,by omega,rfl⟩
   ·rw [List.mem_append,List.mem_singleton,ih x,e1]

def Za (l : List Int) : AV -> Heap -> Prop:=fun R H'=>H' = [] /\ dB 0 R = true /\ ∃ m : List Int,R = .sl 1 (m.map (.int .i64)) .no /\ m.length <= l.length /\ (∀ x,x ∈ m ↔ x ∈ l) /\ (l.length <= 12 -> m = VZ l)

theorem RJ (l : List Int) (hN : l.length <= 1000000000) : dK Try.prog 93 [.sl 1 (l.map (.int .i64)) .no] [] (Za l):=by
 have cc:=LC
 refine dK.intro lay mixed Try.func93 (by kernel_rfl) rfl (by kernel_rfl) rfl fun hok=>?_
 (try dsimp only[aU,aH]);(try dsimp only[aj]);conv=>whnf
 refine .rel _ (SA l hN) fun R H' hq _=>?_
 rcases hq with ⟨rfl,rfl,rfl⟩ | ⟨cp,h1,h2,rfl,rfl⟩
 ·(try dsimp only[aj]);conv=>whnf
  refine .pure _ _ ?_ ⟨rfl,rfl⟩ (Jj (g:=21)) fun _=>?_
  ·exact au _
  (try dsimp only[aj]);conv=>whnf
  refine .pure _ _ ?_ ⟨rfl,rfl⟩ Lu fun _=>?_
  ·exact au _
  (try dsimp only[aj]);conv=>whnf
  refine ⟨_,_,⟨rfl,rfl,[],rfl,by simp,by simp,fun _=>rfl⟩,?_⟩
  refine ⟨⟨_,_,.refl _ _,?_⟩⟩
  conv=>whnf
  refine ⟨?_,rfl,by simp [nextId],.mk ?_ (by simp [ak])⟩
  ·all_goals exact wk
  ·all_goals exact wk
 ·(try dsimp only[aj]);conv=>whnf
  refine .rel _ (Np (cf:=Ld) LC l.length cp (by omega) l rfl) fun R H' hq _=>?_
  obtain ⟨rfl,l2,p2,e2,rfl⟩:=hq
  have hl2:=p2.length_eq
  (try dsimp only[aj]);conv=>whnf
  refine .rel _ (Pq l.length cp (by omega) h1 l2 hl2) fun R H' hq _=>?_
  obtain ⟨k,l3,rfl,rfl,hk,hl3,htk⟩:=hq
  have hm : ∀ x,x ∈ l3.take k ↔ x ∈ l:=fun x=>by rw [htk,Nj l2 l.length (by omega),List.take_of_length_le (by omega)]; exact p2.mem_iff
  have hb : ∀ m : List Int,dB 0 (.sl 1 (m.map (AV.int .i64)) .no) = true:=fun m=>by
   induction m <;> simp_all [dB]
  (try dsimp only[aj]);conv=>whnf
  refine ⟨.sl 1 ((l3.take k).map (.int .i64)) .no,[],⟨rfl,hb _,l3.take k,rfl,by simp; omega,hm,fun h=>?_⟩,?_⟩
  ·rw [htk,e2 h]; rfl

  refine ⟨⟨_,_,.freeze 2 0 _ _ _ _ _ _ rfl rfl ?_ (.refl _ _),?_⟩⟩
  ·simp; omega
  conv=>whnf
  refine ⟨?_,rfl,by simp [nextId],.mk ?_ (by simp [ak])⟩
  ·repeat' first|exact rfl|exact trivial|exact wR|exact lR _|apply aI
   all_goals (refine bF ?_; simp [List.map_take])
  ·all_goals exact wk

def kF (a b : Int) : Bool:=decide (dF .andNot .i64 (kX a) b = 0)

theorem RI (a b : Int) : bJ Try.prog 31 [.int .i64 a,.int .i64 b] [] (.bool (kF a b)) []:=by
 have c1:=Nv a
 have e : kF a b = decide (dF .andNot .i64 (kX a) b = 0):=rfl
 rw [e]
 generalize kX a = x at *
 refine bJ.intro lay mixed Try.func31 (by kernel_rfl) rfl (by kernel_rfl) rfl fun hok=>?_
 (try dsimp only[aU,aH]);(try dsimp only[aj]);conv=>whnf
 refine .pure _ _ ?_ ⟨rfl,rfl⟩ c1 fun _=>?_
 ·exact au _
 (try dsimp only[aj]);conv=>whnf
 refine fM ?_;(conv=>whnf);refine ⟨?_,rfl⟩;conv=>whnf
 simp

theorem RG {s : Int} (h0 : 0 <= s) (h1 : s <= 16777215) : bJ Try.prog 28 [.int .i64 s] [] .tt []:=by
 refine bJ.intro lay mixed Try.func28 (by kernel_rfl) rfl (by kernel_rfl) rfl fun hok=>?_
 (try dsimp only[aU,aH]);(try dsimp only[aj]);conv=>whnf
 refine And.intro (fun _=>?_) (fun p=>absurd h0 p)
 (try dsimp only[aj]);conv=>whnf
 refine fM ?_;(conv=>whnf);refine ⟨?_,rfl⟩;conv=>whnf
 exact h1

theorem nU (l : List Int) (g : Nat) (cap : List AV) (p : Int -> Bool) (H : Heap) (hg : ∀ x ∈ l,bJ Try.prog g (.int .i64 x :: cap) H (.bool (p x)) H) :
  bJ Try.prog 29 [.sl 1 (l.map (.int .i64)) .no,.fn g cap] H (.bool (l.any p)) H:=by
 refine bJ.intro lay mixed Try.func29 (by kernel_rfl) rfl (by kernel_rfl) rfl fun hok=>?_
 conv=>whnf
 refine .gen _ _ (Ci l g cap p H hg) fun _=>?_
 conv=>whnf
 (refine iO.same ?_;(conv=>whnf);refine ⟨?_,rfl⟩;(conv=>whnf))
 exact yN _ l

theorem WU (s t : Int) : bJ Try.prog 94 [.int .i64 t,.cp (.int .i64 s)] [] (.bool (kF t s)) []:=by
 have c1:=RI t s
 generalize kF t s = b at *
 refine bJ.intro lay mixed Try.func94 (by kernel_rfl) rfl (by kernel_rfl) rfl fun hok=>?_
 (try dsimp only[aU,aH]);(try dsimp only[aj]);conv=>whnf
 refine .pure _ _ ?_ ⟨rfl,rfl⟩ c1 fun _=>?_
 ·exact au _
 (try dsimp only[aj]);conv=>whnf
 refine fM ?_;(conv=>whnf);refine ⟨?_,rfl⟩;conv=>whnf
 all_goals exact wk

def eF (out : List Int) (s : Int) : List Int:=if out.any (fun t=>kF t s) then out else out ++ [s]
def minS (l : List Int) : List Int:=(VZ l).foldl eF []

structure JQ (l m : List Int) : Prop where
 len : m.length <= l.length
 sub : ∀ x,x ∈ m -> x ∈ l
 Y2 : ∀ x,x ∈ l -> ∃ y,y ∈ m /\ kF y x = true
 ex : l.length <= 12 -> m = minS l

theorem Xd (x : Int) {n : Nat} (hn : n <= 24) : BitVec.ofInt 64 (dF .and .i64 x ((2 ^ n : Nat) - 1 : Int)) = BitVec.ofInt 64 x &&& BitVec.ofInt 64 ((2 ^ n : Nat) - 1 : Int):=by
 have hp : 1 <= 2 ^ n:=Nat.one_le_two_pow
 have hp2 : 2 ^ n <= 2 ^ 24:=Nat.pow_le_pow_right (by decide) hn
 have hlt : (BitVec.ofInt 64 x &&& BitVec.ofInt 64 ((2 ^ n : Nat) - 1 : Int)).toNat <= 2 ^ n - 1:=by
  rw [show (((2 ^ n : Nat) : Int) - 1) = ((2 ^ n - 1 : Nat) : Int) by omega,fD,BitVec.toNat_and,BitVec.toNat_ofNat,Nat.mod_eq_of_lt (by omega)]
  exact Nat.and_le_right
 simp only [dF]
 show BitVec.ofInt 64 (IntKind.wrap .i64 ((BitVec.ofInt 64 x &&& BitVec.ofInt 64 ((2 ^ n : Nat) - 1 : Int)).toNat : Int)) = _
 generalize BitVec.ofInt 64 x &&& BitVec.ofInt 64 ((2 ^ n : Nat) - 1 : Int) = w at *
 rw [wrap64 (by omega) (by omega)]
 simp

theorem WI (x : Int) : BitVec.ofInt 64 (kX x) = BitVec.ofInt 64 x &&& BitVec.ofInt 64 16777215:=Xd x (n:=24) (by omega)

theorem Oi {x : Int} : kF x x = true:=by
 unfold kF
 simp only [decide_eq_true_eq]
 have h3 : (BitVec.ofInt 64 (kX x)) &&& ~~~(BitVec.ofInt 64 x) = 0#64:=by
  rw [WI]
  ext i
  simp
  intro a b
  simp [a]
 simp only [dF]
 show IntKind.wrap .i64 ((BitVec.ofInt 64 (kX x) &&& ~~~ (BitVec.ofInt 64 x)).toNat : Int) = _
 rw [h3]
 decide

theorem mG {a b : Nat} (ha : a < 16777216) : kF a b = true ↔ ∀ i,i < 24 -> a.testBit i = true -> b.testBit i = true:=by
 unfold kF
 rw [UY (by omega) (by omega),CX (by omega)]
 simp only [decide_eq_true_eq]
 refine ⟨fun h i hi hb=>?_,fun h=>?_⟩
 ·have h0 : (iC a b).testBit i = false:=by rw [show iC a b = 0 by omega]; simp
  rw [iV (by omega),hb] at h0
  simpa using h0
 ·have : iC a b = 0:=by
   apply Nat.eq_of_testBit_eq
   intro i
   rw [iV (by omega),Nat.zero_testBit]
   by_cases hi : i < 24
   ·cases hb : a.testBit i
    ·rfl
    ·rw [h i hi hb]; rfl
   ·have : a.testBit i = false:=Nat.testBit_lt_two_pow (Nat.lt_of_lt_of_le (show a < 2 ^ 24 from ha) (Nat.pow_le_pow_right (by omega) (by omega)))
    rw [this]; rfl
  omega

theorem Wi {m : List Int} : ∀ (k : List Int) (o : List Int),(∀ x,x ∈ k.foldl eF o -> x ∈ o \/ x ∈ k) /\ (∀ x,x ∈ o -> x ∈ k.foldl eF o) /\ (∀ x,x ∈ k -> ∃ y,y ∈ k.foldl eF o /\ kF y x = true) /\ (k.foldl eF o).length <= o.length + k.length
 | [],o=>by simp
 | s :: k,o=>by
   obtain ⟨h1,h2,h3,h4⟩:=Wi (m:=m) k (eF o s)
   have hs : ∃ y,y ∈ eF o s /\ kF y s = true:=by
    unfold eF; split
    ·rename_i h; obtain ⟨y,hy,h⟩:=List.any_eq_true.1 h; exact ⟨y,hy,h⟩
    ·exact ⟨s,by simp,Oi⟩
   have ho : ∀ x,x ∈ o -> x ∈ eF o s:=by intro x hx; unfold eF; split <;> simp [hx]
   have hm : ∀ x,x ∈ eF o s -> x ∈ o \/ x = s:=by intro x hx; unfold eF at hx; split at hx <;> simp_all
   have hl : (eF o s).length <= o.length + 1:=by unfold eF; split <;> simp
   refine ⟨fun x hx=>?_,fun x hx=>h2 x (ho x hx),fun x hx=>?_,?_⟩
   ·rcases h1 x hx with h | h
    ·rcases hm x h with h | rfl
     ·exact .inl h
     ·exact .inr (by simp)
    ·exact .inr (by simp [h])
   ·rcases List.mem_cons.1 hx with rfl | hx
    ·obtain ⟨y,hy,h⟩:=hs; exact ⟨y,h2 y hy,h⟩
    ·exact h3 x hx
   ·simp only [List.foldl_cons,List.length_cons]; omega

theorem Um {l k : List Int} (h1 : k.length <= l.length) (h2 : ∀ x,x ∈ k ↔ x ∈ l) (h3 : l.length <= 12 -> k = VZ l) : JQ l (k.foldl eF []):=by
 obtain ⟨a1,a2,a3,a4⟩:=Wi (m:=[]) k []
 refine ⟨by simp at a4; omega,fun x hx=>?_,fun x hx=>a3 x ((h2 x).2 hx),fun h=>by rw [h3 h]; rfl⟩
 rcases a1 x hx with h | h
 ·cases h
 ·exact (h2 x).1 h

theorem Pm (l : List Int) (hN : l.length <= 1000000000) : dK Try.prog 87 [.sl 1 (l.map (.int .i64)) .no] [] (fun R H'=>H' = [] /\ ∃ m,R = .sl 1 (m.map (.int .i64)) .no /\ JQ l m):=by
 have cs:=RJ l hN
 refine dK.mQ (.r 2 (.s (.s .n (.b (.b (.r 2 (.s (.b (.r 1 (.f [1] .n))) .n))))) .n)) lay mixed Try.func87 (by kernel_rfl) rfl (by kernel_rfl) rfl fun hok=>?_
 (try dsimp only[aU,aH]);(try dsimp only[aj]);conv=>whnf
 refine .rel _ cs fun R H' hq _=>?_
 obtain ⟨rfl,-,k,rfl,hk1,hk2,hk3⟩:=hq
 have hM:=Um hk1 hk2 hk3
 (try dsimp only[aj]);conv=>whnf
 refine aJ.of <| (aA.inv (.grow 3 1 [] .bH rfl (.inl ⟨rfl,rfl⟩) (.refl _ _)) (fun i : Nat=>i <= k.length) (fun i=>[(9,.int .i64 (i : Int)),(3,.sl 1 (((k.take i).foldl eF []).map (.int .i64)) (.own 0))]) (fun i=>[(0,.tok 1 ((k.take i).foldl eF []).length)]) (fun i=>k.length - i) 0 (Nat.zero_le _) ?_ ?_ ?_)
 ·exact fun _=>rfl
 ·refine ⟨?_,.mk ?_ (by simp [ak])⟩
  ·all_goals exact wk
  ·all_goals exact wk
 intro i hi _
 (try dsimp only[aj]);conv=>whnf
 refine And.intro (fun g=>?_) (fun g=>?_)
 ·have hlt : i < k.length:=by simpa using g
  have hst : (k.take (i + 1)).foldl eF [] = eF ((k.take i).foldl eF []) k[i]:=jh hlt
  have hlen:=(Wi (m:=[]) (k.take i) []).2.2.2
  rw [List.length_take] at hlen
  simp only [List.length_nil,Nat.zero_add] at hlen
  (try dsimp only[aj]);conv=>whnf
  refine iH hlt ?_
  generalize k[i] = x at *
  generalize (k.take i).foldl eF [] = o at *
  have hc:=nU o 94 [.cp (.int .i64 x)] (fun t=>kF t x) [] (fun t _=>WU x t)
  (try dsimp only[aj]);conv=>whnf
  refine ⟨⟨rfl,rfl⟩,?_⟩
  (try dsimp only[aj]);conv=>whnf
  refine .pure _ _ ?_ ⟨rfl,rfl⟩ hc fun _=>?_
  ·all_goals exact wk
  (try dsimp only[aj]);conv=>whnf
  generalize hab : (o.any fun t=>kF t x) = b
  refine And.intro (fun ha=>?_) (fun ha=>?_)
  ·have hf : b = false:=by simpa using ha
   subst hf
   rw [show eF o x = o ++ [x] from if_neg (by rw [hab]; exact Bool.false_ne_true)] at hst
   (try dsimp only[aj]);conv=>whnf
   refine ⟨by rw [List.length_map],.mk (by simp [maxL]; omega) (by simp; omega) ?_⟩
   (try dsimp only[aj]);conv=>whnf
   refine zA ?_;conv=>whnf
   refine ⟨i + 1,?_,?_,?_⟩
   ·exact hlt
   ·rw [hst]
    refine ⟨?_,.mk ?_ (by simp [ak])⟩
    ·repeat' first|exact rfl|exact trivial|exact wR|exact lR _|apply aI
     all_goals first | (refine bF ?_; rw [List.map_append]; rfl) | (simp; done) | skip
    ·repeat' first|exact rfl|exact trivial|exact wR|exact lR _|apply aI
     all_goals first | (refine bF ?_; rw [List.map_append]; rfl) | (simp; done) | skip
   ·omega
  ·have hf : b = true:=by simpa using ha
   subst hf
   rw [show eF o x = o from if_pos hab] at hst
   (try dsimp only[aj]);conv=>whnf
   refine zA ?_;conv=>whnf
   refine ⟨i + 1,?_,?_,?_⟩
   ·exact hlt
   ·rw [hst]
    refine ⟨?_,.mk ?_ (by simp [ak])⟩
    ·all_goals exact wk
    ·all_goals exact wk
   ·omega
 ·have hk : i = k.length:=by have : ¬ i < k.length:=by simpa using g
                             omega
  subst hk
  rw [List.take_length]
  (try dsimp only[aj]);conv=>whnf
  refine ⟨_,_,⟨rfl,_,rfl,hM⟩,?_⟩
  refine ⟨⟨_,_,.refl _ _,?_⟩⟩
  conv=>whnf
  refine ⟨?_,rfl,by simp [nextId],.mk ?_ (by simp [ak])⟩
  ·all_goals exact wk
  ·all_goals exact wk

abbrev iA (l : List Int) : AV:=.sl 1 (l.map (.int .i64)) .no
abbrev lA (l : List (List Int)) : AV:=.sl 1 (l.map iA) .no

structure bT (l : List Int) : Prop where
 len : l.length <= 1024
 val : ∀ s,s ∈ l -> 0 <= s /\ s <= 16777215

theorem GK (ls : List (List Int)) (h : ∀ l,l ∈ ls -> bT l) (hn : ls.length <= 1000) : bJ Try.prog 27 [lA ls] [] .dU []:=by
 refine bJ.intro lay mixed Try.func27 (by kernel_rfl) rfl (by kernel_rfl) rfl fun hok=>?_
 (try dsimp only[aU,aH]);(try dsimp only[aj]);conv=>whnf
 refine aJ.of <| (aA.inv (.refl _ _) (fun i : Nat=>i <= ls.length) (fun i=>[(9,.int .i64 (i : Int))]) (fun _=>[]) (fun i=>ls.length - i) 0 (Nat.zero_le _) ?_ ?_ ?_)
 ·exact fun _=>rfl
 ·refine ⟨?_,.mk ?_ (by simp [ak])⟩
  ·all_goals exact wk
  ·all_goals exact wk
 intro i hi _
 (try dsimp only[aj]);conv=>whnf
 refine And.intro (fun g=>?_) (fun g=>?_)
 ·have hlt : i < ls.length:=by simpa using g
  have ho:=h _ (List.getElem_mem hlt)
  have hl:=ho.len
  (try dsimp only[aj]);conv=>whnf
  refine iH hlt ?_
  generalize ls[i] = l at *
  (try dsimp only[aj]);conv=>whnf
  refine bN (by simp; omega) ?_
  (try dsimp only[aj]);conv=>whnf
  refine aJ.of <| (aA.inv (.refl _ _) (fun j : Nat=>j <= l.length) (fun j=>[(19,.int .i64 (j : Int)),(9,.int .i64 (i : Int))]) (fun _=>[]) (fun j=>l.length - j) 0 (Nat.zero_le _) ?_ ?_ ?_)
  ·exact fun _=>rfl
  ·refine ⟨?_,.mk ?_ (by simp [ak])⟩
   ·all_goals exact wk
   ·all_goals exact wk
  intro j hj _
  (try dsimp only[aj]);conv=>whnf
  refine And.intro (fun g1=>?_) (fun g1=>?_)
  ·have hlj : j < l.length:=by simpa using g1
   have hv:=ho.val _ (List.getElem_mem hlj)
   (try dsimp only[aj]);conv=>whnf
   refine iH hlj ?_
   generalize l[j] = x at *
   (try dsimp only[aj]);conv=>whnf
   refine .pure _ _ ?_ ⟨rfl,rfl⟩ (RG hv.1 hv.2) fun _=>?_
   ·exact au _
   (try dsimp only[aj]);conv=>whnf
   refine zA ?_;conv=>whnf
   refine ⟨j + 1,?_,?_,?_⟩
   ·exact hlj
   ·refine ⟨?_,.mk ?_ (by simp [ak])⟩
    ·all_goals exact wk
    ·all_goals exact wk
   ·omega
  ·(try dsimp only[aj]);conv=>whnf
   refine zA ?_;conv=>whnf
   refine ⟨i + 1,?_,?_,?_⟩
   ·exact hlt
   ·refine ⟨?_,.mk ?_ (by simp [ak])⟩
    ·all_goals exact wk
    ·all_goals exact wk
   ·omega
 ·(try dsimp only[aj]);conv=>whnf
  refine fM ?_;(conv=>whnf);refine ⟨?_,rfl⟩;conv=>whnf
  all_goals exact wk

theorem zS (l : List Int) (hN : l.length <= 1000000000) (R : AV) (hR : R = if l.length <= 1024 then .dS [iA l,.dU] else .dS [.bH,.jB 63 (.int .i64 4)]) : bJ Try.prog 88 [iA l] [] R []:=by
 refine bJ.intro lay mixed Try.func88 (by kernel_rfl) rfl (by kernel_rfl) rfl fun hok=>?_
 (try dsimp only[aU,aH]);(try dsimp only[aj]);conv=>whnf
 refine And.intro (fun g=>?_) (fun g=>?_)
 ·have : ¬ l.length <= 1024:=by simp at g; omega
  rw [if_neg this] at hR
  subst hR
  (try dsimp only[aj]);conv=>whnf
  refine fM ?_;(conv=>whnf);refine ⟨?_,rfl⟩;conv=>whnf
  all_goals exact wk
 ·have : l.length <= 1024:=by simp at g; omega
  rw [if_pos this] at hR
  subst hR
  (try dsimp only[aj]);conv=>whnf
  refine fM ?_;(conv=>whnf);refine ⟨?_,rfl⟩;conv=>whnf
  all_goals exact wk

theorem WZ (n : Nat) (hn : n <= 4096) : dK Try.prog 95 [.bH,.int .i64 n] [] (fun R H'=>(n = 0 /\ R = .bH /\ H' = []) \/ ∃ cp,n <= cp /\ cp <= maxL /\ R = .ms 0 0 0 cp 1 /\ H' = [(0,.arr 1 cp (List.replicate n (.int .i64 0)))]):=by
 refine dK.intro lay mixed Try.func95 (by kernel_rfl) rfl (by kernel_rfl) rfl fun hok=>?_
 (try dsimp only[aU,aH]);(try dsimp only[aj]);conv=>whnf
 refine bN (by omega) ?_
 (try dsimp only[aj]);conv=>whnf
 refine ⟨bP (by omega) (by omega),?_⟩
 (try dsimp only[aj]);conv=>whnf
 refine ⟨bP (by omega) (by omega),?_⟩
 (try dsimp only[aj]);conv=>whnf
 refine And.intro (fun g=>?_) (fun g=>?_)
 ·have g : 0 < n:=by omega
  (try dsimp only[aj]);conv=>whnf
  refine ⟨⟨rfl,rfl⟩,?_⟩
  (try dsimp only[aj]);conv=>whnf
  refine ⟨⟨by omega,by omega,by dsimp only; omega⟩,?_⟩
  intro cp h1 h2
  have e : ((n : Int) - (0 - 0)).toNat = n:=by omega
  rw [e] at h1 ⊢
  (try dsimp only[aj]);conv=>whnf
  refine ⟨⟨by omega,by omega,by omega⟩,by omega,?_⟩
  (try dsimp only[aj]);conv=>whnf
  refine ⟨_,_,.inr ⟨cp,h1,h2,rfl,rfl⟩,?_⟩
  refine ⟨⟨_,_,.refl _ _,?_⟩⟩
  conv=>whnf
  refine ⟨?_,rfl,by simp [nextId],.mk ?_ (by simp [ak])⟩
  ·all_goals exact wk
  ·all_goals exact wk
 ·(try dsimp only[aj]);conv=>whnf
  refine ⟨_,_,.inl ⟨by omega,rfl,rfl⟩,?_⟩
  refine ⟨⟨_,_,.refl _ _,?_⟩⟩
  conv=>whnf
  refine ⟨?_,rfl,by simp [nextId],.mk ?_ (by simp [ak])⟩
  ·all_goals exact wk
  ·all_goals exact wk

theorem Sr (a b : List Int) (ha : a.length <= 1024) (hb : b.length <= 1024) : bJ Try.prog 89 [lA [a,b]] [] (iA (a ++ b)) []:=by
 have cg:=WZ (a.length + b.length) (by omega)
 refine bJ.intro lay mixed Try.func89 (by kernel_rfl) rfl (by kernel_rfl) rfl fun hok=>?_
 (try dsimp only[aU,aH]);(try dsimp only[aj]);conv=>whnf
 refine aJ.step 3 ?_
 (try dsimp only[aj]);conv=>whnf
 refine bY (by simp) ?_
 (try dsimp only[aj]);conv=>whnf
 refine iY.mk ⟨_,⟨by decide,rfl⟩,?_⟩
 (try dsimp only[aj]);conv=>whnf
 refine ⟨bP (by simp only [List.length_map]; omega) (by simp only [List.length_map]; omega),?_⟩
 (try dsimp only[aj]);conv=>whnf
 refine bN (by simp only [List.length_map]; omega) ?_
 (try dsimp only[aj]);conv=>whnf
 refine zA ?_;conv=>whnf
 refine bY (by simp) ?_
 (try dsimp only[aj]);conv=>whnf
 refine iY.mk ⟨_,⟨by decide,rfl⟩,?_⟩
 (try dsimp only[aj]);conv=>whnf
 refine ⟨bP (by simp only [List.length_map]; omega) (by simp only [List.length_map]; omega),?_⟩
 (try dsimp only[aj]);conv=>whnf
 refine bN (by simp only [List.length_map]; omega) ?_
 (try dsimp only[aj]);conv=>whnf
 refine zA ?_;conv=>whnf
 refine bN (by simp) ?_
 (try dsimp only[aj]);conv=>whnf
 rw [show (0 : Int) + ((a.map (AV.int .i64)).length : Int) + ((b.map (AV.int .i64)).length : Int) = ((a.length + b.length : Nat) : Int) by simp only [List.length_map]; omega]
 refine .rel _ cg fun R H' hq _=>?_
 rcases hq with ⟨hz,rfl,rfl⟩ | ⟨cp,h1,h2,rfl,rfl⟩
 ·obtain rfl : a = []:=List.eq_nil_of_length_eq_zero (by omega)
  obtain rfl : b = []:=List.eq_nil_of_length_eq_zero (by omega)
  (try dsimp only[aj]);conv=>whnf
  refine aJ.step 3 ?_
  (try dsimp only[aj]);conv=>whnf
  refine bY (by simp) ?_
  (try dsimp only[aj]);conv=>whnf
  refine iY.mk ⟨_,⟨by decide,rfl⟩,?_⟩
  (try dsimp only[aj]);conv=>whnf
  refine .tok (by simp [maxL]) (by simp) ?_
  (try dsimp only[aj]);conv=>whnf
  refine zA ?_;conv=>whnf
  refine bY (by simp) ?_
  (try dsimp only[aj]);conv=>whnf
  refine iY.mk ⟨_,⟨by decide,rfl⟩,?_⟩
  (try dsimp only[aj]);conv=>whnf
  refine ⟨rfl,.mk (by simp [maxL]) (by simp) ?_⟩
  (try dsimp only[aj]);conv=>whnf
  refine zA ?_;conv=>whnf
  refine bN (by simp) ?_
  (try dsimp only[aj]);conv=>whnf
  refine fM ?_;(conv=>whnf);refine ⟨?_,rfl⟩;conv=>whnf
  all_goals exact wk
 ·(try dsimp only[aj]);conv=>whnf
  refine aJ.step 3 ?_
  (try dsimp only[aj]);conv=>whnf
  refine bY (by simp) ?_
  (try dsimp only[aj]);conv=>whnf
  refine iY.mk ⟨_,⟨by decide,rfl⟩,?_⟩
  (try dsimp only[aj]);conv=>whnf
  refine ⟨⟨by simp,by simp; omega,by simp; omega⟩,?_⟩
  (try dsimp only[aj]);conv=>whnf
  refine zA ?_;conv=>whnf
  refine bY (by simp) ?_
  (try dsimp only[aj]);conv=>whnf
  refine iY.mk ⟨_,⟨by decide,rfl⟩,?_⟩
  (try dsimp only[aj]);conv=>whnf
  refine ⟨⟨by simp,by simp; omega,by simp; omega⟩,?_⟩
  (try dsimp only[aj]);conv=>whnf
  refine zA ?_;conv=>whnf
  refine bN (by simp) ?_
  (try dsimp only[aj]);conv=>whnf
  refine ⟨⟨_,_,.freeze 2 0 _ _ _ _ _ _ rfl rfl ?_ (.refl _ _),?_⟩⟩
  ·simp
  conv=>whnf
  refine ⟨?_,rfl,by simp [nextId],.mk ?_ (by simp [ak])⟩
  ·repeat' first|exact rfl|exact trivial|exact wR|exact lR _|apply aI
   all_goals (refine bF ?_; simp; rw [<- List.append_assoc,List.take_append_of_le_length (by simp),List.take_of_length_le (by simp)])
  ·all_goals exact wk

theorem dK.mono {P : Program} {f : Nat} {args : List AV} {H : Heap} {Q Q' : AV -> Heap -> Prop} (h : dK P f args H Q) (hQ : ∀ R G,Q R G -> Q' R G) : dK P f args H Q' :=
 ⟨h.1,fun c vs hr hv=>(h.2 c vs hr hv).mono fun _ _ ⟨v,d,R,G,h2,h3⟩=>⟨v,d,R,G,hQ R G h2,h3⟩⟩

abbrev PQ (Q : AV -> Prop) : AV -> Heap -> Prop:=fun R H'=>H' = [] /\ dB 0 R = true /\ Q R

abbrev eL : AV:=.jB 63 (.int .i64 4)

def JG (X : List Int -> Prop) (R : AV) : Prop:=R = .dS [.bH,eL] \/ ∃ m,R = .dS [iA m,.dU] /\ X m
def RelB (N : Prop) (X : List Int -> Prop) (R : AV) : Prop:=(R = .dS [.bH,eL] /\ N) \/ ∃ m,R = .dS [iA m,.dU] /\ X m
theorem dK.Xm {P : Program} {f : Nat} {args : List AV} {H : Heap} {N : Prop} {X : List Int -> Prop} (h : dK P f args H (PQ (RelB N X))) : dK P f args H (PQ (JG X)) :=
 dK.mono h fun _ _ ⟨h1,h2,h3⟩=>⟨h1,h2,h3.imp And.left fun h=>h⟩

theorem GI (l : List Int) (hN : l.length <= 1000000000) : dK Try.prog 87 [iA l] [] (PQ fun R=>∃ m,R = iA m /\ JQ l m) :=
 dK.mono (Pm l hN) fun _ _ ⟨h1,m,h2,h3⟩=>⟨h1,by rw [h2]; rfl,m,h2,h3⟩

structure y7 (a b m : List Int) : Prop where
 min : JQ (a ++ b) m
 len : m.length <= 1024

theorem Nq (a b : List Int) (ha : bT a) (hb : bT b) : dK Try.prog 76 [iA a,iA b] [] (PQ (RelB (1024 < a.length + b.length) (y7 a b))):=by
 have cl:=GK [a,b] (by intro l hl; simp at hl; rcases hl with rfl | rfl <;> assumption) (by simp)
 have cc:=Sr a b ha.len hb.len
 have h1:=ha.len
 have h2:=hb.len
 refine dK.intro lay mixed Try.func76 (by kernel_rfl) rfl (by kernel_rfl) rfl fun hok=>?_
 (try dsimp only[aU,aH]);(try dsimp only[aj]);conv=>whnf
 refine .pure _ _ ?_ ⟨rfl,rfl⟩ cl fun _=>?_
 ·exact ⟨⟨rfl,aP _⟩,trivial⟩
 (try dsimp only[aj]);conv=>whnf
 refine .pure _ _ ?_ ⟨rfl,rfl⟩ cc fun _=>?_
 ·exact ⟨⟨rfl,aP _⟩,trivial⟩
 (try dsimp only[aj]);conv=>whnf
 refine .rel _ (GI (a ++ b) (by simp; omega)) fun R H' hq _=>?_
 obtain ⟨rfl,-,m,rfl,hm⟩:=hq
 have hml:=hm.len
 simp only [List.length_append] at hml
 (try dsimp only[aj]);conv=>whnf
 by_cases h3 : m.length <= 1024
 ·refine .pure _ _ ?_ ⟨rfl,rfl⟩ (zS m (by omega) _ (if_pos h3).symm) fun _=>?_
  ·exact au _
  (try dsimp only[aj]);conv=>whnf
  refine ⟨_,_,⟨rfl,rfl,.inr ⟨m,rfl,hm,h3⟩⟩,?_⟩
  refine ⟨⟨_,_,.refl _ _,?_⟩⟩
  conv=>whnf
  refine ⟨?_,rfl,by simp [nextId],.mk ?_ (by simp [ak])⟩
  ·all_goals exact wk
  ·all_goals exact wk
 ·refine .pure _ _ ?_ ⟨rfl,rfl⟩ (zS m (by omega) _ (if_neg h3).symm) fun _=>?_
  ·exact au _
  (try dsimp only[aj]);conv=>whnf
  refine ⟨_,_,⟨rfl,rfl,.inl ⟨rfl,by omega⟩⟩,?_⟩
  refine ⟨⟨_,_,.refl _ _,?_⟩⟩
  conv=>whnf
  refine ⟨?_,rfl,by simp [nextId],.mk ?_ (by simp [ak])⟩
  ·all_goals exact wk
  ·all_goals exact wk
theorem RS (a b : List Int) (ha : bT a) (hb : bT b) : dK Try.prog 76 [iA a,iA b] [] (PQ (JG (y7 a b))):=dK.Xm (Nq a b ha hb)

theorem Po (s t : Int) : bJ Try.prog 30 [.int .i64 t,.cp (.int .i64 s)] [] (.bool (kF t s)) []:=by
 have c1:=RI t s
 generalize kF t s = b at *
 refine bJ.intro lay mixed Try.func30 (by kernel_rfl) rfl (by kernel_rfl) rfl fun hok=>?_
 (try dsimp only[aU,aH]);(try dsimp only[aj]);conv=>whnf
 refine .pure _ _ ?_ ⟨rfl,rfl⟩ c1 fun _=>?_
 ·exact au _
 (try dsimp only[aj]);conv=>whnf
 refine fM ?_;(conv=>whnf);refine ⟨?_,rfl⟩;conv=>whnf
 all_goals exact wk

def O7 (l : List Int) (s : Int) : Bool:=l.any fun t=>kF t s

theorem Jo (l : List Int) (s : Int) (hl : bT l) (h0 : 0 <= s) (h1 : s <= 16777215) : dK Try.prog 11 [iA l,.int .i64 s] [] (PQ fun R=>R = .dS [.bool (O7 l s),.dU]):=by
 have cl:=GK [l] (by intro x hx; simp at hx; rw [hx]; exact hl) (by simp)
 have cv:=RG h0 h1
 have cc:=nU l 30 [.cp (.int .i64 s)] (fun t=>kF t s) [] (fun t _=>Po s t)
 rw [show (l.any fun t=>kF t s) = O7 l s from rfl] at cc
 refine dK.mQ (.r 1 (.f [0] .n)) lay mixed Try.func11 (by kernel_rfl) rfl (by kernel_rfl) rfl fun hok=>?_
 (try dsimp only[aU,aH]);(try dsimp only[aj]);conv=>whnf
 refine ⟨⟨rfl,rfl⟩,?_⟩
 (try dsimp only[aj]);conv=>whnf
 refine .pure _ _ ?_ ⟨rfl,rfl⟩ cl fun _=>?_
 ·exact ⟨⟨rfl,aP _⟩,trivial⟩
 (try dsimp only[aj]);conv=>whnf
 refine .pure _ _ ?_ ⟨rfl,rfl⟩ cv fun _=>?_
 ·exact au _
 (try dsimp only[aj]);conv=>whnf
 refine .pure _ _ ?_ ⟨rfl,rfl⟩ cc fun _=>?_
 ·exact au _
 (try dsimp only[aj]);conv=>whnf
 refine ⟨_,_,⟨rfl,rfl,rfl⟩,?_⟩
 refine ⟨⟨_,_,.refl _ _,?_⟩⟩
 conv=>whnf
 refine ⟨?_,rfl,by simp [nextId],.mk ?_ (by simp [ak])⟩
 ·all_goals exact wk
 ·all_goals exact wk

def Ky (x y : Int) : Int:=dF .or .i64 x y
def tY (us : List Int) (u : Int) : List Int:=if us.contains u then us else us ++ [u]
def uRow (x : Int) (us b : List Int) : List Int:=b.foldl (fun us y=>tY us (Ky x y)) us
def pG (a b : List Int) : List Int:=a.foldl (fun us x=>uRow x us b) []

theorem Oc {us : List Int} {u v : Int} : v ∈ tY us u ↔ v ∈ us \/ v = u:=by
 unfold tY; split
 ·rename_i h
  refine ⟨.inl,?_⟩
  rintro (h1 | rfl)
  ·exact h1
  ·simpa using h
 ·simp

theorem Oe (us : List Int) (u : Int) : (tY us u).length <= us.length + 1:=by unfold tY; split <;> simp

theorem Ic {x : Int} : ∀ {b us : List Int} {v : Int},v ∈ uRow x us b ↔ v ∈ us \/ ∃ y,y ∈ b /\ v = Ky x y
 | [],us,v=>by simp [uRow]
 | y :: b,us,v=>by
   have:=Ic (x:=x) (b:=b) (us:=tY us (Ky x y)) (v:=v)
   unfold uRow at this ⊢
   rw [List.foldl_cons,this,Oc]
   simp only [List.mem_cons]
   constructor
   ·rintro ((h | h) | ⟨z,hz,h⟩)
    ·exact .inl h
    ·exact .inr ⟨y,.inl rfl,h⟩
    ·exact .inr ⟨z,.inr hz,h⟩
   ·rintro (h | ⟨z,rfl | hz,h⟩)
    ·exact .inl (.inl h)
    ·exact .inl (.inr h)
    ·exact .inr ⟨z,hz,h⟩

theorem Ap (x : Int) : ∀ (b us : List Int),(uRow x us b).length <= us.length + b.length
 | [],us=>by simp [uRow]
 | y :: b,us=>by
   have:=Ap x b (tY us (Ky x y))
   have h2:=Oe us (Ky x y)
   unfold uRow at this ⊢
   rw [List.foldl_cons,List.length_cons]; omega

theorem yI {b : List Int} : ∀ {a us : List Int} {v : Int},v ∈ a.foldl (fun us x=>uRow x us b) us ↔ v ∈ us \/ ∃ x,x ∈ a /\ ∃ y,y ∈ b /\ v = Ky x y
 | [],us,v=>by simp
 | x :: a,us,v=>by
   rw [List.foldl_cons,yI,Ic]
   simp only [List.mem_cons]
   constructor
   ·rintro ((h | h) | ⟨z,hz,h⟩)
    ·exact .inl h
    ·exact .inr ⟨x,.inl rfl,h⟩
    ·exact .inr ⟨z,.inr hz,h⟩
   ·rintro (h | ⟨z,rfl | hz,h⟩)
    ·exact .inl (.inl h)
    ·exact .inl (.inr h)
    ·exact .inr ⟨z,hz,h⟩

theorem nG {a b : List Int} {v : Int} : v ∈ pG a b ↔ ∃ x,x ∈ a /\ ∃ y,y ∈ b /\ v = Ky x y:=by
 unfold pG; rw [yI]; simp

theorem kS (b : List Int) : ∀ (a us : List Int),(a.foldl (fun us x=>uRow x us b) us).length <= us.length + a.length * b.length
 | [],us=>by simp
 | x :: a,us=>by
   have:=kS b a (uRow x us b)
   have h2:=Ap x b us
   rw [List.foldl_cons,List.length_cons,Nat.add_mul]; omega

abbrev Gt (l : List Int) : List (AV × AV):=l.map fun u=>(.int .i64 u,.tt)

theorem PE {l : List Int} {x : Int} {k : AV -> Prop} (hl : x ∈ l) (h : k .tt) : Fv (Gt l) (.int .i64 x) fun r=>Bd false .ff r k :=
 ⟨some .tt,⟨(.int .i64 x,.tt),List.mem_map.2 ⟨x,hl,rfl⟩,rfl,rfl⟩,h⟩

theorem LH {l : List Int} {x : Int} {k : AV -> Prop} (hl : ¬ x ∈ l) (h : k .ff) : Fv (Gt l) (.int .i64 x) fun r=>Bd false .ff r k:=by
 refine ⟨none,fun z hz=>?_,h⟩
 obtain ⟨u,hu,rfl⟩:=List.mem_map.1 hz
 intro e
 have e : u = x:=by simpa [Hz] using e
 exact hl (e ▸ hu)

theorem Ya {l : List Int} {x : Int} {k : List (AV × AV) -> Prop} (hl : ¬ x ∈ l) (h : k (Gt (l ++ [x]))) : Xk (Gt l) (.int .i64 x) .tt k:=by
 refine ⟨_,.inl ⟨fun z hz=>?_,rfl⟩,by simpa [Gt] using h⟩
 obtain ⟨u,hu,rfl⟩:=List.mem_map.1 hz
 intro e
 have e : u = x:=by simpa [Hz] using e
 exact hl (e ▸ hu)

theorem rF (n : Nat) : ∀ l : List Int,uT n (Gt l) = true
 | []=>rfl
 | e :: es=>by
   show (match true,true with | true,true=>uT n (Gt es) | _,_=>false) = true
   exact rF n es

structure y5 (a b m : List Int) : Prop where
 ex : ∃ a' b',JQ a a' /\ JQ b b' /\ JQ (pG a' b') m
 len : m.length <= 1024

theorem Cb (a b : List Int) (ha : bT a) (hb : bT b) : dK Try.prog 75 [iA a,iA b] [] (PQ (RelB (1024 < a.length * b.length) (y5 a b))):=by
 have cl:=GK [a,b] (by intro l hl; simp at hl; rcases hl with rfl | rfl <;> assumption) (by simp)
 have h1:=ha.len
 have h2:=hb.len
 refine dK.intro lay mixed Try.func75 (by kernel_rfl) rfl (by kernel_rfl) rfl fun hok=>?_
 (try dsimp only[aU,aH]);(try dsimp only[aj]);conv=>whnf
 refine .pure _ _ ?_ ⟨rfl,rfl⟩ cl fun _=>?_
 ·exact ⟨⟨rfl,aP _⟩,trivial⟩
 (try dsimp only[aj]);conv=>whnf
 refine .rel _ (GI a (by omega)) fun R H' hq _=>?_
 obtain ⟨rfl,-,a',rfl,hma⟩:=hq
 (try dsimp only[aj]);conv=>whnf
 refine .rel _ (GI b (by omega)) fun R H' hq _=>?_
 obtain ⟨rfl,-,b',rfl,hmb⟩:=hq
 have hal:=hma.len
 have hbl:=hmb.len
 have Zl:=kS b' a' []
 have YO:=kS b' a' []
 (try dsimp only[aj]);conv=>whnf
 refine aJ.of <| (aA.inv (.grow 8 1 [] .bH rfl (.inl ⟨rfl,rfl⟩) (.refl _ _)) (fun i : Nat=>i <= a'.length) (fun i=>[(28,.int .i64 (i : Int)),(8,.sl 1 (((a'.take i).foldl (fun us x=>uRow x us b') []).map (.int .i64)) (.own 1))]) (fun i=>[(1,.tok 1 ((a'.take i).foldl (fun us x=>uRow x us b') []).length),(0,.iD (.int .i64 0) (Gt ((a'.take i).foldl (fun us x=>uRow x us b') [])))]) (fun i=>a'.length - i) 0 (Nat.zero_le _) ?_ ?_ ?_)
 ·exact fun _=>rfl
 ·refine ⟨?_,.mk ?_ (by simp [ak])⟩
  ·all_goals exact wk
  ·all_goals exact wk
 intro i hi _
 (try dsimp only[aj]);conv=>whnf
 refine And.intro (fun g=>?_) (fun g=>?_)
 ·have hlt : i < a'.length:=by simpa using g
  have hst : (a'.take (i + 1)).foldl (fun us x=>uRow x us b') [] = uRow a'[i] ((a'.take i).foldl (fun us x=>uRow x us b') []) b':=jh hlt
  have hlen:=kS b' (a'.take i) []
  rw [List.length_take] at hlen
  have hlen : ((a'.take i).foldl (fun us x=>uRow x us b') []).length <= 1048576:=by
   have : min i a'.length * b'.length <= 1024 * 1024:=Nat.mul_le_mul (by omega) (by omega)
   simp at hlen; omega
  (try dsimp only[aj]);conv=>whnf
  refine iH hlt ?_
  generalize a'[i] = x at *
  generalize (a'.take i).foldl (fun us x=>uRow x us b') [] = VX at *
  (try dsimp only[aj]);conv=>whnf
  refine aJ.of <| (aA.inv (.refl _ _) (fun j : Nat=>j <= b'.length) (fun j=>[(34,.int .i64 (j : Int)),(8,.sl 1 ((uRow x VX (b'.take j)).map (.int .i64)) (.own 1))]) (fun j=>[(1,.tok 1 (uRow x VX (b'.take j)).length),(0,.iD (.int .i64 0) (Gt (uRow x VX (b'.take j))))]) (fun j=>b'.length - j) 0 (Nat.zero_le _) ?_ ?_ ?_)
  ·exact fun _=>rfl
  ·refine ⟨?_,.mk ?_ (by simp [ak])⟩
   ·all_goals exact wk
   ·repeat' first|exact rfl|exact trivial|exact wR|exact lR _|apply aI
    all_goals first | exact rF _ _ | exact oN _
  intro j hj _
  (try dsimp only[aj]);conv=>whnf
  refine And.intro (fun g1=>?_) (fun g1=>?_)
  ·have hlj : j < b'.length:=by simpa using g1
   have hst2 : uRow x VX (b'.take (j + 1)) = tY (uRow x VX (b'.take j)) (Ky x b'[j]):=jh hlj
   have hlen2:=Ap x (b'.take j) VX
   rw [List.length_take] at hlen2
   (try dsimp only[aj]);conv=>whnf
   refine iH hlj ?_
   generalize b'[j] = y at *
   generalize uRow x VX (b'.take j) = us at *
   (try dsimp only[aj]);conv=>whnf
   have hor : dF .or .i64 x y = Ky x y:=rfl
   rw [hor]
   generalize Ky x y = u at *
   by_cases hin : u ∈ us
   ·rw [show tY us u = us from if_pos (by simpa using hin)] at hst2
    refine PE hin ?_
    (try dsimp only[aj]);conv=>whnf
    refine zA ?_;conv=>whnf
    refine ⟨j + 1,?_,?_,?_⟩
    ·exact hlj
    ·rw [hst2]
     refine ⟨?_,.mk ?_ (by simp [ak])⟩
     ·all_goals exact wk
     ·repeat' first|exact rfl|exact trivial|exact wR|exact lR _|apply aI
      all_goals first | exact rF _ _ | exact oN _
    ·omega
   ·rw [show tY us u = us ++ [u] from if_neg (by simpa using hin)] at hst2
    refine LH hin ?_
    (try dsimp only[aj]);conv=>whnf
    refine Ya hin ?_
    (try dsimp only[aj]);conv=>whnf
    refine ⟨by rw [List.length_map],.mk (by simp [maxL]; omega) (by simp; omega) ?_⟩
    (try dsimp only[aj]);conv=>whnf
    refine zA ?_;conv=>whnf
    refine ⟨j + 1,?_,?_,?_⟩
    ·exact hlj
    ·rw [hst2]
     refine ⟨?_,.mk ?_ (by simp [ak])⟩
     ·repeat' first|exact rfl|exact trivial|exact wR|exact lR _|apply aI
      all_goals first | (refine bF ?_; rw [List.map_append]; rfl) | (simp; done) | skip
     ·repeat' first|exact rfl|exact trivial|exact wR|exact lR _|apply aI
      all_goals first | exact rF _ _ | exact oN _ | (refine bF ?_; rw [List.map_append]; rfl) | (simp; done) | skip
    ·omega
  ·have hk : j = b'.length:=by have : ¬ j < b'.length:=by simpa using g1
                               omega
   subst hk
   rw [List.take_length]
   (try dsimp only[aj]);conv=>whnf
   refine zA ?_;conv=>whnf
   refine ⟨i + 1,?_,?_,?_⟩
   ·exact hlt
   ·rw [hst]
    refine ⟨?_,.mk ?_ (by simp [ak])⟩
    ·all_goals exact wk
    ·repeat' first|exact rfl|exact trivial|exact wR|exact lR _|apply aI
     all_goals first | exact rF _ _ | exact oN _
   ·omega
 ·have hk : i = a'.length:=by have : ¬ i < a'.length:=by simpa using g
                              omega
  subst hk
  rw [List.take_length]
  have Zl : (a'.foldl (fun us x=>uRow x us b') []).length <= 1048576:=by
   have : a'.length * b'.length <= 1024 * 1024:=Nat.mul_le_mul (by omega) (by omega)
   simp at Zl; omega
  have hun : pG a' b' = a'.foldl (fun us x=>uRow x us b') []:=rfl
  generalize a'.foldl (fun us x=>uRow x us b') [] = U at *
  (try dsimp only[aj]);conv=>whnf
  refine .jf _ _ ?_ rfl (GI U (by omega)) fun R hq _=>?_
  ·all_goals exact wk
  obtain ⟨m,rfl,hm⟩:=hq
  have hml:=hm.len
  rw [<- hun] at hm
  (try dsimp only[aj]);conv=>whnf
  by_cases h3 : m.length <= 1024
  ·refine .pure _ _ ?_ ⟨rfl,rfl⟩ (zS m (by omega) _ (if_pos h3).symm) fun _=>?_
   ·exact au _
   (try dsimp only[aj]);conv=>whnf
   refine ⟨_,_,⟨rfl,rfl,.inr ⟨m,rfl,⟨a',b',hma,hmb,hm⟩,h3⟩⟩,?_⟩
   refine ⟨⟨_,_,.refl _ _,?_⟩⟩
   conv=>whnf
   refine ⟨?_,rfl,by simp [nextId],.mk ?_ (by simp [ak])⟩
   ·all_goals exact wk
   ·all_goals exact wk
  ·refine .pure _ _ ?_ ⟨rfl,rfl⟩ (zS m (by omega) _ (if_neg h3).symm) fun _=>?_
   ·exact au _
   (try dsimp only[aj]);conv=>whnf
   refine ⟨_,_,⟨rfl,rfl,.inl ⟨rfl,?_⟩⟩,?_⟩
   ·have h4 : a'.length * b'.length <= a.length * b.length:=Nat.mul_le_mul hal hbl
    have h5:=hm.len
    rw [hun] at h5
    simp only [List.length_nil,Nat.zero_add] at YO
    omega
   refine ⟨⟨_,_,.refl _ _,?_⟩⟩
   conv=>whnf
   refine ⟨?_,rfl,by simp [nextId],.mk ?_ (by simp [ak])⟩
   ·all_goals exact wk
   ·all_goals exact wk

theorem EU (a b : List Int) (ha : bT a) (hb : bT b) : dK Try.prog 75 [iA a,iA b] [] (PQ (JG (y5 a b))):=dK.Xm (Cb a b ha hb)

theorem Lp (f : Fo) (h : yC f) : bJ Try.prog 16 [f.av] [] (.sl 1 ((belF f.vars.toNat f.nodes f.top.toNat).map .bool) .no) []:=by
 have hw:=h.args
 obtain ⟨h1,h2,h3,h4⟩:=h
 have htn : f.top.toNat < f.vars.toNat + f.nodes.length:=by omega
 refine bJ.intro lay mixed Try.func16 (by kernel_rfl) rfl (by kernel_rfl) rfl fun hok=>?_
 (try dsimp only[aU,aH]);(try dsimp only[aj]);conv=>whnf
 refine ⟨bP (by simp; omega) (by simp; omega),?_⟩
 (try dsimp only[aj]);conv=>whnf
 refine ⟨by refine ⟨by omega,by omega,by simp; omega,by simp; omega⟩,?_⟩
 refine .wr ?_
 (try dsimp only[aj]);conv=>whnf
 refine ⟨⟨by omega,by simp; omega⟩,?_⟩
 (try dsimp only[aj]);conv=>whnf
 refine ⟨by simp; omega,rfl,?_⟩
 (try dsimp only[aj]);conv=>whnf
 refine ⟨bP (by simp; omega) (by simp; omega),?_⟩
 (try dsimp only[aj]);conv=>whnf
 refine aJ.of <| aA.inv (.refl _ _) (fun k : Nat=>k <= f.nodes.length) (fun k=>[(4,.int .i64 ((f.nodes.length : Int) - 1 - k))]) (fun k=>[(1,.arr 1 (f.vars + ((f.nodes.map Nd.av).length : Int)).toNat ((kY f.vars.toNat f.nodes f.top.toNat k).map .bool)),(0,.box f.av)]) (fun k=>f.nodes.length - k) 0 ?_ (fun _=>rfl) ?_ ?_
 ·exact Nat.zero_le _
 ·refine ⟨?_,.mk ?_ ?_⟩
  ·repeat' first|exact rfl|exact trivial|exact wR|exact lR _|apply aI
   all_goals (simp; done)
  ·repeat' first|exact rfl|exact trivial|exact wR|exact lR _|apply aI
   all_goals (rw [Nat.zero_add,show (f.vars + ((f.nodes.map Nd.av).length : Int)).toNat = f.vars.toNat + f.nodes.length by simp; omega]; refine xO ?_ _ _; first | exact rfl | (show _ ↔ _; simp))
  ·exact ⟨by simp,by simp,trivial⟩
 intro k hk _
 have hbl:=jl f.vars.toNat f.nodes f.top.toNat k
 (try dsimp only[aj]);conv=>whnf
 refine And.intro (fun g1=>?_) (fun g1=>?_)
 ·have hlt : k < f.nodes.length:=by omega
  have hb1 : kY f.vars.toNat f.nodes f.top.toNat (k + 1) = if (kY f.vars.toNat f.nodes f.top.toNat k).getD (f.vars.toNat + (f.nodes.length - 1 - k)) false = true then oM (kY f.vars.toNat f.nodes f.top.toNat k) (argsAt f.nodes (f.nodes.length - 1 - k)) else kY f.vars.toNat f.nodes f.top.toNat k:=rfl
  have hai:=hw (f.nodes.length - 1 - k) (by omega)
  have hia : f.nodes.length - 1 - k < f.nodes.length:=by omega
  have hae : argsAt f.nodes (f.nodes.length - 1 - k) = (f.nodes[f.nodes.length - 1 - k]).args:=by unfold argsAt; rw [List.getD_eq_getElem?_getD,List.getElem?_eq_getElem hia]; rfl
  rw [hae] at hb1 hai
  have hnl : (f.nodes[f.nodes.length - 1 - k]).args.length <= 16:=by
   have hal:=(h3 _ hia).num
   split at hal
   ·omega
   ·split at hal <;> omega
  generalize kY f.vars.toNat f.nodes f.top.toNat k = d at *
  rw [show (f.nodes.length : Int) - 1 - k = ((f.nodes.length - 1 - k : Nat) : Int) by omega]
  (try dsimp only[aj]);conv=>whnf
  refine ⟨bP (by omega) (by omega),?_⟩
  (try dsimp only[aj]);conv=>whnf
  refine ⟨⟨by omega,by simp; omega⟩,?_⟩
  (try dsimp only[aj]);conv=>whnf
  rw [show 0 + (f.vars + ((f.nodes.length - 1 - k : Nat) : Int)).toNat = f.vars.toNat + (f.nodes.length - 1 - k) by omega]
  refine yX false (by simp; omega) ?_
  (try dsimp only[aj]);conv=>whnf
  refine ⟨rfl,?_⟩
  (try dsimp only[aj]);conv=>whnf
  refine And.intro (fun g2=>?_) (fun g2=>?_)
  ·rw [Int.toNat_natCast] at g2
   simp only [Bool.not_eq_true'] at g2
   rw [if_neg (by rw [g2]; simp)] at hb1
   rw [<- hb1]
   (try dsimp only[aj]);conv=>whnf
   refine ⟨bP (by omega) (by omega),?_⟩
   (try dsimp only[aj]);conv=>whnf
   refine ⟨k + 1,?_,?_,?_⟩
   ·exact hlt
   ·refine ⟨?_,.mk ?_ ?_⟩
    ·repeat' first|exact rfl|exact trivial|exact wR|exact lR _|apply aI
     all_goals (push_cast; omega)
    ·all_goals exact wk
    ·exact ⟨by simp,by simp,trivial⟩
   ·omega
  ·rw [Int.toNat_natCast] at g2
   simp only [Bool.not_eq_false'] at g2
   rw [if_pos g2] at hb1
   (try dsimp only[aj]);conv=>whnf
   refine iH hia ?_
   generalize f.nodes[f.nodes.length - 1 - k] = x at *
   (try dsimp only[aj]);conv=>whnf
   refine aJ.of <| aA.inv (.refl _ _) (fun j : Nat=>j <= x.args.length) (fun j=>[(41,.int .i64 j)]) (fun j=>[(1,.arr 1 (f.vars + ((f.nodes.map Nd.av).length : Int)).toNat ((oM d (x.args.take j)).map .bool)),(0,.box f.av)]) (fun j=>x.args.length - j) 0 ?_ (fun _=>rfl) ?_ ?_
   ·exact Nat.zero_le _
   ·refine ⟨?_,.mk ?_ ?_⟩
    ·all_goals exact wk
    ·all_goals exact wk
    ·exact ⟨by simp,by simp,trivial⟩
   intro j hj _
   have hml:=sO (x.args.take j) d
   (try dsimp only[aj]);conv=>whnf
   refine And.intro (fun g3=>?_) (fun g3=>?_)
   ·have hjl : j < x.args.length:=by simpa using g3
    have hmt:=A8 (d:=d) hjl
    have ha:=hai _ (List.getElem_mem hjl)
    (try dsimp only[aj]);conv=>whnf
    refine iH hjl ?_
    generalize x.args[j] = a at *
    (try dsimp only[aj]);conv=>whnf
    refine ⟨⟨by omega,by simp; omega⟩,?_⟩
    (try dsimp only[aj]);conv=>whnf
    refine ⟨by simp; omega,rfl,?_⟩
    (try dsimp only[aj]);conv=>whnf
    refine zA ?_;conv=>whnf
    refine ⟨j + 1,?_,?_,?_⟩
    ·exact hjl
    ·rw [hmt]
     refine ⟨?_,.mk ?_ ?_⟩
     ·all_goals exact wk
     ·repeat' first|exact rfl|exact trivial|exact wR|exact lR _|apply aI
      all_goals (rw [Nat.zero_add]; refine xM ?_ _ _; first | exact rfl | (show _ ↔ _; simp))
     ·exact ⟨by simp,by simp,trivial⟩
    ·omega
   have hjl : j = x.args.length:=by (have : ¬ j < x.args.length:=by simpa using g3); omega
   subst hjl
   clear g3
   rw [List.take_length,<- hb1]
   (try dsimp only[aj]);conv=>whnf
   refine ⟨bP (by omega) (by omega),?_⟩
   (try dsimp only[aj]);conv=>whnf
   refine ⟨k + 1,?_,?_,?_⟩
   ·exact hlt
   ·refine ⟨?_,.mk ?_ ?_⟩
    ·repeat' first|exact rfl|exact trivial|exact wR|exact lR _|apply aI
     all_goals (push_cast; omega)
    ·all_goals exact wk
    ·exact ⟨by simp,by simp,trivial⟩
   ·omega
 have hkl : k = f.nodes.length:=by omega
 subst hkl
 (try dsimp only[aj]);conv=>whnf
 refine ⟨⟨_,_,.keep 2 1 _ _ _ _ rfl rfl ?_ (.refl _ _),?_⟩⟩
 ·have:=jl f.vars.toNat f.nodes f.top.toNat f.nodes.length
  simp [this]; omega
 conv=>whnf
 refine ⟨?_,rfl,by simp [nextId],.mk ?_ (by simp [ak])⟩
 ·repeat' first|exact rfl|exact trivial|exact wR|exact lR _|apply aI
  all_goals (refine bF ?_; rw [List.take_of_length_le (by rw [List.length_map,jl]; simp; omega)]; rfl)
 ·all_goals exact wk

def kZ (x : Nd) : Bool:=decide (x.kind = 1) || decide (x.kind = 5)
def tX (f : Fo) : Bool:=!(trimF f).nodes.any kZ

theorem EX (f : Fo) (h : yC f) : bJ Try.prog 35 [f.av] [] (.dS [.bool (tX f),.dU]) []:=by
 have ct:=GU f h
 obtain ⟨k1,k2,k3,k4⟩:=(FM f h).1
 have hco : tX f = !(trimF f).nodes.any kZ:=rfl
 generalize trimF f = t at *
 refine bJ.intro lay mixed Try.func35 (by kernel_rfl) rfl (by kernel_rfl) rfl fun hok=>?_
 (try dsimp only[aU,aH]);(try dsimp only[aj]);conv=>whnf
 refine .pure _ _ ?_ ⟨rfl,rfl⟩ ct fun _=>?_
 ·exact au _
 (try dsimp only[aj]);conv=>whnf
 refine aJ.of <| (aA.inv (.refl _ _) (fun i : Nat=>i <= t.nodes.length /\ ∀ (j : Nat) (hj : j < t.nodes.length),j < i -> kZ t.nodes[j] = false) (fun i=>[(19,.int .i64 (i : Int))]) (fun _=>[(1,.box t.av),(0,.box f.av)]) (fun i=>t.nodes.length - i) 0 ⟨Nat.zero_le _,by omega⟩ ?_ ?_ ?_)
 ·exact fun _=>rfl
 ·refine ⟨?_,.mk ?_ (by simp [ak])⟩
  ·all_goals exact wk
  ·all_goals exact wk
 rintro i ⟨hi,hn⟩ _
 (try dsimp only[aj]);conv=>whnf
 refine And.intro (fun g=>?_) (fun g=>?_)
 ·have hlt : i < t.nodes.length:=by simpa using g
  have hbt : kZ t.nodes[i] = true -> tX f = false:=fun hb=>by
   rw [hco,Bool.not_eq_false',List.any_eq_true]
   exact ⟨_,List.getElem_mem hlt,hb⟩
  have hbf : kZ t.nodes[i] = false -> ∀ (j : Nat) (hj : j < t.nodes.length),j < i + 1 -> kZ t.nodes[j] = false:=fun hb j hj hji=>by
   rcases Nat.lt_or_ge j i with h' | h'
   ·exact hn j hj h'
   ·obtain rfl : j = i:=by omega
    exact hb
  (try dsimp only[aj]);conv=>whnf
  refine iH hlt ?_
  generalize t.nodes[i] = x at *
  (try dsimp only[aj]);conv=>whnf
  refine And.intro (fun e1=>?_) (fun e1=>?_)
  ·rw [hbt (by simp [kZ,e1])]
   (try dsimp only[aj]);conv=>whnf
   refine fM ?_;(conv=>whnf);refine ⟨?_,rfl⟩;conv=>whnf
   all_goals exact wk
  ·(try dsimp only[aj]);conv=>whnf
   refine And.intro (fun e5=>?_) (fun e5=>?_)
   ·rw [hbt (by simp [kZ,e5])]
    (try dsimp only[aj]);conv=>whnf
    refine fM ?_;(conv=>whnf);refine ⟨?_,rfl⟩;conv=>whnf
    all_goals exact wk
   ·have hb : kZ x = false:=by simp [kZ,e1,e5]
    (try dsimp only[aj]);conv=>whnf
    refine zA ?_;conv=>whnf
    refine ⟨i + 1,?_,?_,?_⟩
    ·exact ⟨hlt,hbf hb⟩
    ·refine ⟨?_,.mk ?_ (by simp [ak])⟩
     ·all_goals exact wk
     ·all_goals exact wk
    ·omega
 ·have hk : i = t.nodes.length:=by have : ¬ i < t.nodes.length:=by simpa using g
                                   omega
  subst hk
  have : tX f = true:=by
   rw [hco,Bool.not_eq_true',List.any_eq_false]
   intro x hx
   obtain ⟨j,hj,rfl⟩:=List.getElem_of_mem hx
   rw [hn j hj hj]; exact Bool.false_ne_true
  rw [this]
  (try dsimp only[aj]);conv=>whnf
  refine fM ?_;(conv=>whnf);refine ⟨?_,rfl⟩;conv=>whnf
  all_goals exact wk

def Ih (f : Fo) : Prop:=∀ (i : Nat) (h : i < f.nodes.length),(zy f).getD (f.vars.toNat + i) false = true -> kZ f.nodes[i] = false

theorem Aq {v : Nat} {l : List Nd} {d : List Bool} : ∀ k,k <= l.length -> ∀ x ∈ (Hy v l d k).2,∃ (i : Nat) (h : i < l.length),d.getD (v + i) false = true /\ x.kind = l[i].kind
 | 0,_,x,hx=>by simp [Hy] at hx
 | k + 1,hk,x,hx=>by
   unfold Hy at hx
   split at hx
   ·rename_i hd
    rcases List.mem_append.1 hx with hx | hx
    ·exact Aq k (by omega) x hx
    ·have hx : x = Ig (Hy v l d k).1 (l.getD k default):=by simpa using hx
     refine ⟨k,hk,hd,?_⟩
     rw [hx,List.getD_eq_getElem?_getD,List.getElem?_eq_getElem (show k < l.length from hk)]
     rfl
   ·exact Aq k (by omega) x hx

theorem WJ (f : Fo) (h : Ih f) : tX f = true:=by
 unfold tX
 rw [Bool.not_eq_true',List.any_eq_false]
 intro x hx
 obtain ⟨i,hi,h1,h2⟩:=Aq _ (Nat.le_refl _) x hx
 have:=h i hi h1
 unfold kZ at this ⊢
 rw [h2,this]; exact Bool.false_ne_true

theorem Nl (f : Fo) (h : yC f) (R : AV) (hR : (R = .tt /\ Ih f) \/ (R = .ff /\ ¬ Ih f)) : bJ Try.prog 6 [f.av] [] R []:=by
 have cb:=Lp f h
 have hbl : (zy f).length = f.vars.toNat + f.nodes.length:=jl _ _ _ _
 have h1:=h.vars
 have h2:=h.len
 rw [show belF f.vars.toNat f.nodes f.top.toNat = zy f from rfl] at cb
 unfold Ih at hR
 generalize zy f = d at *
 refine bJ.intro lay mixed Try.func6 (by kernel_rfl) rfl (by kernel_rfl) rfl fun hok=>?_
 (try dsimp only[aU,aH]);(try dsimp only[aj]);conv=>whnf
 refine .pure _ _ ?_ ⟨rfl,rfl⟩ cb fun _=>?_
 ·exact au _
 (try dsimp only[aj]);conv=>whnf
 refine aJ.of <| (aA.inv (.refl _ _) (fun i : Nat=>i <= f.nodes.length /\ ∀ (j : Nat) (hj : j < f.nodes.length),j < i -> d.getD (f.vars.toNat + j) false = true -> kZ f.nodes[j] = false) (fun i=>[(11,.int .i64 (i : Int))]) (fun _=>[(0,.box f.av)]) (fun i=>f.nodes.length - i) 0 ⟨Nat.zero_le _,by omega⟩ ?_ ?_ ?_)
 ·exact fun _=>rfl
 ·refine ⟨?_,.mk ?_ (by simp [ak])⟩
  ·all_goals exact wk
  ·all_goals exact wk
 rintro i ⟨hi,hn⟩ _
 (try dsimp only[aj]);conv=>whnf
 refine And.intro (fun g=>?_) (fun g=>?_)
 ·have hlt : i < f.nodes.length:=by simpa using g
  have hbt : d.getD (f.vars.toNat + i) false = true -> kZ f.nodes[i] = true -> R = .ff:=fun hd hb=>by
   rcases hR with ⟨_,hs⟩ | ⟨hr,_⟩
   ·rw [hs i hlt hd] at hb; cases hb
   ·exact hr
  have hbf : (d.getD (f.vars.toNat + i) false = true -> kZ f.nodes[i] = false) -> ∀ (j : Nat) (hj : j < f.nodes.length),j < i + 1 -> d.getD (f.vars.toNat + j) false = true -> kZ f.nodes[j] = false:=fun hb j hj hji=>by
   rcases Nat.lt_or_ge j i with h' | h'
   ·exact hn j hj h'
   ·obtain rfl : j = i:=by omega
    exact hb
  (try dsimp only[aj]);conv=>whnf
  refine iH hlt ?_
  generalize f.nodes[i] = x at *
  (try dsimp only[aj]);conv=>whnf
  refine ⟨bP (by omega) (by omega),?_⟩
  (try dsimp only[aj]);conv=>whnf
  rw [show f.vars + (i : Int) = ((f.vars.toNat + i : Nat) : Int) by omega]
  refine yX false (by omega) ?_
  (try dsimp only[aj]);conv=>whnf
  refine And.intro (fun m=>?_) (fun m=>?_)
  ·(try dsimp only[aj]);conv=>whnf
   refine And.intro (fun e1=>?_) (fun e1=>?_)
   ·obtain rfl:=hbt m (by simp [kZ,e1])
    (try dsimp only[aj]);conv=>whnf
    refine fM ?_;(conv=>whnf);refine ⟨?_,rfl⟩;conv=>whnf
    all_goals exact wk
   ·(try dsimp only[aj]);conv=>whnf
    refine And.intro (fun e5=>?_) (fun e5=>?_)
    ·obtain rfl:=hbt m (by simp [kZ,e5])
     (try dsimp only[aj]);conv=>whnf
     refine fM ?_;(conv=>whnf);refine ⟨?_,rfl⟩;conv=>whnf
     all_goals exact wk
    ·have hb : kZ x = false:=by simp [kZ,e1,e5]
     (try dsimp only[aj]);conv=>whnf
     refine zA ?_;conv=>whnf
     refine ⟨i + 1,?_,?_,?_⟩
     ·exact ⟨hlt,hbf fun _=>hb⟩
     ·refine ⟨?_,.mk ?_ (by simp [ak])⟩
      ·all_goals exact wk
      ·all_goals exact wk
     ·omega
  ·(try dsimp only[aj]);conv=>whnf
   refine zA ?_;conv=>whnf
   refine ⟨i + 1,?_,?_,?_⟩
   ·exact ⟨hlt,hbf fun hm=>by rw [Int.toNat_natCast,hm] at m; cases m⟩
   ·refine ⟨?_,.mk ?_ (by simp [ak])⟩
    ·all_goals exact wk
    ·all_goals exact wk
   ·omega
 ·have hk : i = f.nodes.length:=by have : ¬ i < f.nodes.length:=by simpa using g
                                   omega
  subst hk
  have : R = .tt:=by
   rcases hR with ⟨hr,_⟩ | ⟨_,hs⟩
   ·exact hr
   ·exact absurd (fun j hj=>hn j hj hj) hs
  subst this
  (try dsimp only[aj]);conv=>whnf
  refine fM ?_;(conv=>whnf);refine ⟨?_,rfl⟩;conv=>whnf
  all_goals exact wk

theorem RZ (f : Fo) : dK Try.prog 14 [f.av] [] (PQ fun R=>R = .tt \/ (R = .ff /\ f.vars <= 8 /\ f.nodes.length <= 16)):=by
 refine dK.Wv lay mixed Try.func14 (by kernel_rfl) rfl (by kernel_rfl) rfl fun hok=>?_
 have hl : f.nodes.length <= 9223372036854775807:=by
  simp [vg,Ok,maxL] at hok
  omega
 (try dsimp only[aU,aH]);(try dsimp only[aj]);conv=>whnf
 refine aJ.of <| (aA.inv (.refl _ _) (fun x : Nat × Int=>x.1 <= f.nodes.length) (fun x=>[(9,.int .i64 (x.1 : Int)),(3,.int .i64 x.2)]) (fun _=>[(0,.box f.av)]) (fun x=>f.nodes.length - x.1) (0,0) (Nat.zero_le _) ?_ ?_ ?_)
 ·exact fun _=>rfl
 ·refine ⟨?_,.mk ?_ (by simp [ak])⟩
  ·all_goals exact wk
  ·all_goals exact wk
 rintro ⟨i,w⟩ hi _
 dsimp only at hi
 (try dsimp only[aj]);conv=>whnf
 refine And.intro (fun g=>?_) (fun g=>?_)
 ·have hlt : i < f.nodes.length:=by simpa using g
  (try dsimp only[aj]);conv=>whnf
  refine iH hlt ?_
  generalize f.nodes[i] = x at *
  (try dsimp only[aj]);conv=>whnf
  refine ⟨(i + 1,IntKind.i64.wrap (w + ((x.args.map (AV.int .i64)).length : Int))),hlt,?_,(by omega : f.nodes.length - (i + 1) < f.nodes.length - i)⟩
  refine ⟨?_,.mk ?_ (by simp [ak])⟩
  ·repeat' first|exact rfl|exact trivial|exact wR|exact lR _|apply aI
   all_goals (rw [wrap64 (by omega) (by omega)]; rfl)
  ·all_goals exact wk
 ·(try dsimp only[aj]);conv=>whnf
  refine And.intro (fun h1=>?_) (fun h1=>?_)
  ·(try dsimp only[aj]);conv=>whnf
   refine ⟨_,_,⟨rfl,rfl,.inl rfl⟩,?_⟩
   refine ⟨⟨_,_,.refl _ _,?_⟩⟩
   conv=>whnf
   refine ⟨?_,rfl,by simp [nextId],.mk ?_ (by simp [ak])⟩
   ·all_goals exact wk
   ·all_goals exact wk
  ·(try dsimp only[aj]);conv=>whnf
   refine And.intro (fun h2=>?_) (fun h2=>?_)
   ·(try dsimp only[aj]);conv=>whnf
    refine ⟨_,_,⟨rfl,rfl,.inl rfl⟩,?_⟩
    refine ⟨⟨_,_,.refl _ _,?_⟩⟩
    conv=>whnf
    refine ⟨?_,rfl,by simp [nextId],.mk ?_ (by simp [ak])⟩
    ·all_goals exact wk
    ·all_goals exact wk
   ·(try dsimp only[aj]);conv=>whnf
    by_cases h3 : 60 < w
    ·refine ⟨.tt,_,⟨rfl,rfl,.inl rfl⟩,?_⟩
     refine ⟨⟨_,_,.refl _ _,?_⟩⟩
     conv=>whnf
     refine ⟨?_,rfl,by simp [nextId],.mk ?_ (by simp [ak])⟩
     ·repeat' first|exact rfl|exact trivial|exact wR|exact lR _|apply aI
      all_goals exact h3
     ·all_goals exact wk
    ·refine ⟨.ff,_,⟨rfl,rfl,.inr ⟨rfl,by omega,by simp at h2; omega⟩⟩,?_⟩
     refine ⟨⟨_,_,.refl _ _,?_⟩⟩
     conv=>whnf
     refine ⟨?_,rfl,by simp [nextId],.mk ?_ (by simp [ak])⟩
     ·repeat' first|exact rfl|exact trivial|exact wR|exact lR _|apply aI
      all_goals exact h3
     ·all_goals exact wk

structure Zc (f : Fo) : Prop where
 ok : yC f
 vars : f.vars <= 8
 len : f.nodes.length <= 16

theorem RQ (f : Fo) : dK Try.prog 5 [f.av] [] (PQ fun R=>R = .ff \/ (R = .tt /\ Zc f)):=by
 have ch:=RZ f
 have cc:=Lm f
 refine dK.intro lay mixed Try.func5 (by kernel_rfl) rfl (by kernel_rfl) rfl fun hok=>?_
 (try dsimp only[aU,aH]);(try dsimp only[aj]);conv=>whnf
 refine .jf _ _ ?_ rfl ch fun R hq _=>?_
 ·exact au _
 obtain rfl | ⟨rfl,h8,h16⟩:=hq
 ·(try dsimp only[aj]);conv=>whnf
  refine ⟨_,_,⟨rfl,rfl,.inl rfl⟩,?_⟩
  refine ⟨⟨_,_,.refl _ _,?_⟩⟩
  conv=>whnf
  refine ⟨?_,rfl,by simp [nextId],.mk ?_ (by simp [ak])⟩
  ·all_goals exact wk
  ·all_goals exact wk
 ·(try dsimp only[aj]);conv=>whnf
  refine .pure _ _ ?_ ⟨rfl,rfl⟩ cc fun _=>?_
  ·exact au _
  (try dsimp only[aj]);conv=>whnf
  by_cases h0 : nS f = 0
  ·refine ⟨.tt,_,⟨rfl,rfl,.inr ⟨rfl,Q5 h0,h8,h16⟩⟩,?_⟩
   refine ⟨⟨_,_,.refl _ _,?_⟩⟩
   conv=>whnf
   refine ⟨?_,rfl,by simp [nextId],.mk ?_ (by simp [ak])⟩
   ·repeat' first|exact rfl|exact trivial|exact wR|exact lR _|apply aI
    all_goals (show nS f = 0; exact h0)
   ·all_goals exact wk
  ·refine ⟨.ff,_,⟨rfl,rfl,.inl rfl⟩,?_⟩
   refine ⟨⟨_,_,.refl _ _,?_⟩⟩
   conv=>whnf
   refine ⟨?_,rfl,by simp [nextId],.mk ?_ (by simp [ak])⟩
   ·repeat' first|exact rfl|exact trivial|exact wR|exact lR _|apply aI
    all_goals (show ¬ nS f = 0; exact h0)
   ·all_goals exact wk

def oH (R : List Int -> List Int -> List Int -> Prop) : List Int -> List (List Int) -> List Int -> Prop
 | o,[],m=>m = o
 | o,a :: l,m=>∃ o',R o a o' /\ oH R o' l m

theorem oH.snoc {R : List Int -> List Int -> List Int -> Prop} {a m' : List Int} : ∀ {l : List (List Int)} {o m : List Int},oH R o l m -> R m a m' -> oH R o (l ++ [a]) m'
 | [],_,_,h,g=>by obtain rfl:=h; exact ⟨m',g,rfl⟩
 | b :: l,o,m,⟨o',h1,h2⟩,g=>⟨o',h1,h2.snoc g⟩

theorem MI {a b : Nat} (ha : a < 16777216) (hb : b < 16777216) : Ky (a : Int) (b : Int) = ((a ||| b : Nat) : Int):=Kw (by omega) (by omega)

theorem MH {x y : Int} (hx : 0 <= x /\ x <= 16777215) (hy : 0 <= y /\ y <= 16777215) : 0 <= Ky x y /\ Ky x y <= 16777215:=by
 obtain ⟨a,rfl⟩ : ∃ n : Nat,x = n:=⟨x.toNat,by omega⟩
 obtain ⟨b,rfl⟩ : ∃ n : Nat,y = n:=⟨y.toNat,by omega⟩
 rw [MI (by omega) (by omega)]
 have:=Nat.or_lt_two_pow (x:=a) (y:=b) (n:=24) (by omega) (by omega)
 omega

theorem zK {a b m : List Int} (h : y7 a b m) (ha : bT a) (hb : bT b) : bT m :=
 ⟨h.len,fun s hs=>(List.mem_append.1 (h.min.sub s hs)).elim (ha.val s) (hb.val s)⟩

theorem vT {a b m : List Int} (h : y5 a b m) (ha : bT a) (hb : bT b) : bT m:=by
 obtain ⟨a',b',h1,h2,h3⟩:=h.ex
 refine ⟨h.len,fun s hs=>?_⟩
 obtain ⟨x,hx,y,hy,rfl⟩:=nG.1 (h3.sub s hs)
 exact MH (ha.val x (h1.sub x hx)) (hb.val y (h2.sub y hy))

theorem sZ {x : Int} (h : 0 <= x /\ x <= 16777215) : bT [x]:=⟨by simp,by simpa using h⟩
theorem wE : bT []:=⟨by simp,by simp⟩

structure ZF (args : List (List Int)) (m : List Int) : Prop where
 chain : oH y5 [0] args m
 ok : bT m

structure Ym (args : List (List Int)) (m : List Int) : Prop where
 chain : oH y7 [] args m
 ok : bT m

theorem X8 (args : List (List Int)) (h : ∀ a,a ∈ args -> bT a) (hn : args.length <= 16) : dK Try.prog 48 [lA args] [] (PQ (JG (ZF args))):=by
 refine dK.intro lay mixed Try.func48 (by kernel_rfl) rfl (by kernel_rfl) rfl fun hok=>?_
 (try dsimp only[aU,aH]);(try dsimp only[aj]);conv=>whnf
 refine aJ.of <| (aA.inv (.refl _ _) (fun x : Nat × List Int=>x.1 <= args.length /\ oH y5 [0] (args.take x.1) x.2 /\ bT x.2) (fun x=>[(11,.int .i64 (x.1 : Int)),(4,iA x.2),(5,.und)]) (fun _=>[]) (fun x=>args.length - x.1) (0,[0]) ⟨Nat.zero_le _,rfl,sZ (by omega)⟩ ?_ ?_ ?_)
 ·exact fun _=>rfl
 ·refine ⟨?_,.mk ?_ (by simp [ak])⟩
  ·all_goals exact wk
  ·all_goals exact wk
 rintro ⟨i,o⟩ ⟨hi,hc,ho⟩ _
 dsimp only at hi hc ho
 (try dsimp only[aj]);conv=>whnf
 refine And.intro (fun g=>?_) (fun g=>?_)
 ·have hlt : i < args.length:=by simpa using g
  have ha:=h _ (List.getElem_mem hlt)
  have hs:=List.take_succ_eq_append_getElem hlt
  (try dsimp only[aj]);conv=>whnf
  refine iH hlt ?_
  generalize args[i] = a at *
  (try dsimp only[aj]);conv=>whnf
  refine .rel _ (EU o a ho ha) fun R H' hq _=>?_
  obtain ⟨rfl,-,rfl | ⟨m,rfl,hm⟩⟩:=hq
  ·(try dsimp only[aj]);conv=>whnf
   refine ⟨_,_,⟨rfl,rfl,.inl rfl⟩,?_⟩
   refine ⟨⟨_,_,.refl _ _,?_⟩⟩
   conv=>whnf
   refine ⟨?_,rfl,by simp [nextId],.mk ?_ (by simp [ak])⟩
   ·all_goals exact wk
   ·all_goals exact wk
  ·(try dsimp only[aj]);conv=>whnf
   refine zA ?_;conv=>whnf
   refine ⟨(i + 1,m),⟨hlt,by rw [hs]; exact hc.snoc hm,vT hm ho ha⟩,?_,(by omega : args.length - (i + 1) < args.length - i)⟩
   refine ⟨?_,.mk ?_ (by simp [ak])⟩
   ·all_goals exact wk
   ·all_goals exact wk
 ·have hk : i = args.length:=by have : ¬ i < args.length:=by simpa using g
                                omega
  subst hk
  rw [List.take_length] at hc
  (try dsimp only[aj]);conv=>whnf
  refine ⟨_,_,⟨rfl,rfl,.inr ⟨o,rfl,hc,ho⟩⟩,?_⟩
  refine ⟨⟨_,_,.refl _ _,?_⟩⟩
  conv=>whnf
  refine ⟨?_,rfl,by simp [nextId],.mk ?_ (by simp [ak])⟩
  ·all_goals exact wk
  ·all_goals exact wk

theorem WT (args : List (List Int)) (h : ∀ a,a ∈ args -> bT a) (hn : args.length <= 16) : dK Try.prog 49 [lA args] [] (PQ (JG (Ym args))):=by
 refine dK.intro lay mixed Try.func49 (by kernel_rfl) rfl (by kernel_rfl) rfl fun hok=>?_
 (try dsimp only[aU,aH]);(try dsimp only[aj]);conv=>whnf
 refine aJ.of <| (aA.inv (.refl _ _) (fun x : Nat × List Int=>x.1 <= args.length /\ oH y7 [] (args.take x.1) x.2 /\ bT x.2) (fun x=>[(10,.int .i64 (x.1 : Int)),(4,iA x.2),(5,.und)]) (fun _=>[]) (fun x=>args.length - x.1) (0,[]) ⟨Nat.zero_le _,rfl,wE⟩ ?_ ?_ ?_)
 ·exact fun _=>rfl
 ·refine ⟨?_,.mk ?_ (by simp [ak])⟩
  ·all_goals exact wk
  ·all_goals exact wk
 rintro ⟨i,o⟩ ⟨hi,hc,ho⟩ _
 dsimp only at hi hc ho
 (try dsimp only[aj]);conv=>whnf
 refine And.intro (fun g=>?_) (fun g=>?_)
 ·have hlt : i < args.length:=by simpa using g
  have ha:=h _ (List.getElem_mem hlt)
  have hs:=List.take_succ_eq_append_getElem hlt
  (try dsimp only[aj]);conv=>whnf
  refine iH hlt ?_
  generalize args[i] = a at *
  (try dsimp only[aj]);conv=>whnf
  refine .rel _ (RS o a ho ha) fun R H' hq _=>?_
  obtain ⟨rfl,-,rfl | ⟨m,rfl,hm⟩⟩:=hq
  ·(try dsimp only[aj]);conv=>whnf
   refine ⟨_,_,⟨rfl,rfl,.inl rfl⟩,?_⟩
   refine ⟨⟨_,_,.refl _ _,?_⟩⟩
   conv=>whnf
   refine ⟨?_,rfl,by simp [nextId],.mk ?_ (by simp [ak])⟩
   ·all_goals exact wk
   ·all_goals exact wk
  ·(try dsimp only[aj]);conv=>whnf
   refine zA ?_;conv=>whnf
   refine ⟨(i + 1,m),⟨hlt,by rw [hs]; exact hc.snoc hm,zK hm ho ha⟩,?_,(by omega : args.length - (i + 1) < args.length - i)⟩
   refine ⟨?_,.mk ?_ (by simp [ak])⟩
   ·all_goals exact wk
   ·all_goals exact wk
 ·have hk : i = args.length:=by have : ¬ i < args.length:=by simpa using g
                                omega
  subst hk
  rw [List.take_length] at hc
  (try dsimp only[aj]);conv=>whnf
  refine ⟨_,_,⟨rfl,rfl,.inr ⟨o,rfl,hc,ho⟩⟩,?_⟩
  refine ⟨⟨_,_,.refl _ _,?_⟩⟩
  conv=>whnf
  refine ⟨?_,rfl,by simp [nextId],.mk ?_ (by simp [ak])⟩
  ·all_goals exact wk
  ·all_goals exact wk

structure VO (V : List (List Int)) (a : List Int) (j : Nat) (W : List (List Int)) : Prop where
 len : W.length = V.length
 old : ∀ k,k <= j -> W.getD k [] = V.getD k []
 new : ∀ k,j < k -> k < V.length -> ∃ p,y5 (V.getD (k - 1) []) a p /\ y7 (V.getD k []) p (W.getD k [])

inductive E8 : List (List Int) -> List (List Int) -> List (List Int) -> Prop
 | nil (V : List (List Int)) : E8 V [] V
 | snoc {V W X : List (List Int)} {l : List (List Int)} {a : List Int} (h : E8 V l W) (g : VO W a 0 X) : E8 V (l ++ [a]) X

def vG (m : Nat) : List (List Int):=[0] :: List.replicate m []

structure Yd (args : List (List Int)) (m : Nat) (r : List Int) : Prop where
 ex : ∃ V,E8 (vG m) args V /\ r = V.getD m []
 ok : bT r

theorem ED : ∀ n,dR (List.replicate n AV.bH) (List.map iA (List.replicate n []))
 | 0=>trivial
 | n + 1=>⟨rfl,ED n⟩

theorem U8 (args : List (List Int)) (h : ∀ a,a ∈ args -> bT a) (hn : args.length <= 16) (m : Nat) (hm : m <= 16) : dK Try.prog 50 [lA args,.int .i64 m] [] (PQ (JG (Yd args m))):=by
 refine dK.intro lay mixed Try.func50 (by kernel_rfl) rfl (by kernel_rfl) rfl fun hok=>?_
 (try dsimp only[aU,aH]);(try dsimp only[aj]);conv=>whnf
 refine zA ?_;conv=>whnf
 rw [show (m : Int) + 1 = ((m + 1 : Nat) : Int) by omega]
 refine ⟨⟨by omega,Int.le_refl _,by show ((m + 1 : Nat) : Int) * ((24 : Nat) : Int) <= 281474976710656; omega,by omega⟩,.wr ?_⟩
 rw [Int.toNat_natCast]
 (try dsimp only[aj]);conv=>whnf
 refine ⟨⟨by omega,by omega⟩,?_⟩
 (try dsimp only[aj]);conv=>whnf
 refine ⟨by simp,rfl,?_⟩
 (try dsimp only[aj]);conv=>whnf
 refine aJ.of <| (aA.inv (.refl _ _) (fun x : Nat × List (List Int)=>x.1 <= args.length /\ E8 (vG m) (args.take x.1) x.2 /\ x.2.length = m + 1 /\ ∀ l,l ∈ x.2 -> bT l) (fun x=>[(20,.int .i64 (x.1 : Int))]) (fun x=>[(0,.arr 1 (m + 1) (x.2.map iA))]) (fun x=>args.length - x.1) (0,vG m) ⟨Nat.zero_le _,.nil _,by simp [vG],?_⟩ ?_ ?_ ?_)
 ·intro l hl
  rcases List.mem_cons.1 hl with rfl | hl
  ·exact sZ (by omega)
  ·rw [List.eq_of_mem_replicate hl]; exact wE
 ·exact fun _=>rfl
 ·refine ⟨?_,.mk ?_ (by simp [ak])⟩
  ·all_goals exact wk
  ·repeat' first|exact rfl|exact trivial|exact wR|exact lR _|apply aI
   all_goals exact ED m
 rintro ⟨i,V⟩ ⟨hi,hV,Zu,YZ⟩ _
 dsimp only at hi hV Zu YZ
 (try dsimp only[aj]);conv=>whnf
 refine And.intro (fun g=>?_) (fun g=>?_)
 ·have hlt : i < args.length:=by simpa using g
  have ha:=h _ (List.getElem_mem hlt)
  have hs:=List.take_succ_eq_append_getElem hlt
  (try dsimp only[aj]);conv=>whnf
  refine iH hlt ?_
  generalize args[i] = a at *
  (try dsimp only[aj]);conv=>whnf
  refine aJ.of <| (aA.inv (.refl _ _) (fun x : Nat × List (List Int)=>x.1 <= m /\ VO V a x.1 x.2 /\ ∀ l,l ∈ x.2 -> bT l) (fun x=>[(9,.int .i64 (x.1 : Int))]) (fun x=>[(0,.arr 1 (m + 1) (x.2.map iA))]) (fun x=>x.1) (m,V) ⟨Nat.le_refl _,⟨rfl,fun _ _=>rfl,fun k h1 h2=>by omega⟩,YZ⟩ ?_ ?_ ?_)
  ·exact fun _=>rfl
  ·refine ⟨?_,.mk ?_ (by simp [ak])⟩
   ·all_goals exact wk
   ·all_goals exact wk
  rintro ⟨j,W⟩ ⟨hj,hW,Yu⟩ _
  dsimp only at hj hW Yu
  have Zt:=hW.len
  (try dsimp only[aj]);conv=>whnf
  refine And.intro (fun g1=>?_) (fun g1=>?_)
  ·(try dsimp only[aj]);conv=>whnf
   refine ⟨bP (by omega) (by omega),?_⟩
   (try dsimp only[aj]);conv=>whnf
   obtain ⟨j,rfl⟩ : ∃ i,j = i + 1:=⟨j - 1,by omega⟩
   rw [show ((j + 1 : Nat) : Int) - 1 = (j : Int) by omega]
   have X0 : ∀ k,k < W.length -> bT (W.getD k []):=fun k hk=>by
    rw [List.getD_eq_getElem?_getD,List.getElem?_eq_getElem hk]
    exact Yu _ (List.getElem_mem hk)
   refine ⟨by omega,?_⟩
   (try dsimp only[aj]);conv=>whnf
   refine aO (i:=j) rfl (by omega) ⟨rfl,?_⟩
   (try dsimp only[aj]);conv=>whnf
   have e1 : W.getD j default = V.getD j []:=hW.old j (by omega)
   have o1 : bT (V.getD j []):=by rw [<- hW.old j (by omega)]; exact X0 j (by omega)
   rw [e1]
   refine .jf _ _ ?_ rfl (EU (V.getD j []) a o1 ha) fun R hq _=>?_
   ·exact au _
   obtain rfl | ⟨p,rfl,hp⟩:=hq
   ·(try dsimp only[aj]);conv=>whnf
    refine ⟨_,_,⟨rfl,rfl,.inl rfl⟩,?_⟩
    refine ⟨⟨_,_,.refl _ _,?_⟩⟩
    conv=>whnf
    refine ⟨?_,rfl,by simp [nextId],.mk ?_ (by simp [ak])⟩
    ·all_goals exact wk
    ·all_goals exact wk
   (try dsimp only[aj]);conv=>whnf
   refine ⟨by omega,?_⟩
   (try dsimp only[aj]);conv=>whnf
   refine aO (i:=j + 1) rfl (by omega) ⟨rfl,?_⟩
   (try dsimp only[aj]);conv=>whnf
   have e2 : W.getD (j + 1) default = V.getD (j + 1) []:=hW.old (j + 1) (by omega)
   have o2 : bT (V.getD (j + 1) []):=by rw [<- hW.old (j + 1) (by omega)]; exact X0 (j + 1) (by omega)
   rw [e2]
   refine .jf _ _ ?_ rfl (RS (V.getD (j + 1) []) p o2 (vT hp o1 ha)) fun R hq _=>?_
   ·exact au _
   obtain rfl | ⟨q,rfl,hq⟩:=hq
   ·(try dsimp only[aj]);conv=>whnf
    refine ⟨by omega,?_⟩
    (try dsimp only[aj]);conv=>whnf
    refine ⟨by simp; omega,rfl,?_⟩
    (try dsimp only[aj]);conv=>whnf
    refine ⟨_,_,⟨rfl,rfl,.inl rfl⟩,?_⟩
    refine ⟨⟨_,_,.refl _ _,?_⟩⟩
    conv=>whnf
    refine ⟨?_,rfl,by simp [nextId],.mk ?_ (by simp [ak])⟩
    ·all_goals exact wk
    ·all_goals exact wk
   (try dsimp only[aj]);conv=>whnf
   refine ⟨by omega,?_⟩
   (try dsimp only[aj]);conv=>whnf
   refine ⟨by simp; omega,rfl,?_⟩
   (try dsimp only[aj]);conv=>whnf
   refine ⟨bP (by omega) (by omega),?_⟩
   (try dsimp only[aj]);conv=>whnf
   refine ⟨(j,W.set (j + 1) q),⟨by dsimp only; omega,⟨by simpa using Zt,fun k hk=>?_,fun k h1 h2=>?_⟩,fun l hl=>?_⟩,?_,Nat.lt_succ_self j⟩
   ·rw [List.getD_eq_getElem?_getD,List.getElem?_set_ne (by dsimp only at hk; omega),<- List.getD_eq_getElem?_getD]
    exact hW.old k (by dsimp only at hk; omega)
   ·dsimp only at h1
    by_cases e : k = j + 1
    ·subst e
     refine ⟨p,hp,?_⟩
     rw [List.getD_eq_getElem?_getD (l:=W.set (j + 1) q),List.getElem?_set_self (by omega)]
     exact hq
    ·rw [List.getD_eq_getElem?_getD (l:=W.set (j + 1) q),List.getElem?_set_ne (by omega),<- List.getD_eq_getElem?_getD]
     exact hW.new k (by omega) h2
   ·rcases List.mem_or_eq_of_mem_set hl with hl | rfl
    ·exact Yu l hl
    ·exact zK hq o2 (vT hp o1 ha)
   ·refine ⟨?_,.mk ?_ (by simp [ak])⟩
    ·repeat' first|exact rfl|exact trivial|exact wR|exact lR _|apply aI
     all_goals (dsimp only; omega)
    ·repeat' first|exact rfl|exact trivial|exact wR|exact lR _|apply aI
     all_goals (refine bF ?_; simp [List.map_set]; rfl)
  ·obtain rfl : j = 0:=by omega
   (try dsimp only[aj]);conv=>whnf
   refine zA ?_;conv=>whnf
   refine ⟨(i + 1,W),⟨hlt,by rw [hs]; exact hV.snoc hW,Zt.trans Zu,Yu⟩,?_,(by omega : args.length - (i + 1) < args.length - i)⟩
   refine ⟨?_,.mk ?_ (by simp [ak])⟩
   ·all_goals exact wk
   ·all_goals exact wk
 ·have hk : i = args.length:=by have : ¬ i < args.length:=by simpa using g
                                omega
  subst hk
  rw [List.take_length] at hV
  (try dsimp only[aj]);conv=>whnf
  refine ⟨by omega,?_⟩
  (try dsimp only[aj]);conv=>whnf
  refine aO (i:=m) rfl (by omega) ⟨rfl,?_⟩
  (try dsimp only[aj]);conv=>whnf
  refine ⟨_,_,⟨rfl,rfl,.inr ⟨V.getD m [],rfl,⟨V,hV,rfl⟩,?_⟩⟩,?_⟩
  ·rw [List.getD_eq_getElem?_getD,List.getElem?_eq_getElem (by omega)]
   exact YZ _ (List.getElem_mem (by omega))
  refine ⟨⟨_,_,.refl _ _,?_⟩⟩
  conv=>whnf
  refine ⟨?_,rfl,by simp [nextId],.mk ?_ (by simp [ak])⟩
  ·all_goals exact wk
  ·all_goals exact wk
end S
