/-
  Contracts of functions of the program, over the logic of the texts before. Nothing is assumed.
-/
import Derived.Test.YtjbhbpieccloeaaGreatDoorT6
import Derived.Shelf.Spec.TrailingZeros
import Derived.Lib.LaidTab

open Go Go.AL Go.Proofs
namespace S
set_option maxRecDepth 100000

theorem Jo {x w : Nat} (hx : x < 16777216) (h : lq (x : Int) (w : Int) = true) : iR x w:=by
 rw [jy (by omega)] at h
 intro i hi
 refine h i ?_ hi
 refine Classical.byContradiction fun hn=>?_
 rw [gI (show x < 2 ^ 24 by omega) (by omega)] at hi; cases hi

theorem U4 {x w : Nat} (hx : x < 16777216) (h : iR x w) : lq (x : Int) (w : Int) = true:=by
 rw [jy (by omega)]
 exact fun i _ hi=>h i hi

theorem kH {a b : Nat} (ha : a < 2 ^ 63) (h : iR a b) : aJ a b = 0:=by
 apply Nat.eq_of_testBit_eq
 intro i
 rw [lV ha,Nat.zero_testBit]
 cases hi : a.testBit i
 ·rfl
 ·rw [h i hi]; rfl

theorem Zu {v : Nat} {s : Int} (hs : s.toNat < 2 ^ v) : pV v (Sr s):=by
 intro x hx
 unfold Sr Oy at hx
 obtain ⟨i,hi,rfl⟩:=List.mem_map.1 hx
 have hb:=(List.mem_filter.1 hi).2
 refine ⟨Int.natCast_nonneg _,?_⟩
 rw [Int.toNat_natCast]
 refine Nat.pow_lt_pow_right (by decide) ?_
 refine Classical.byContradiction fun hn=>?_
 have hb : s.toNat.testBit i = true:=hb
 rw [gI hs (by omega)] at hb; cases hb

structure zO (f : Fo) (x : RC) (l : List Int) : Prop where
 len : l.length <= 1024
 rng : ∀ s,s ∈ l -> 0 <= s /\ s.toNat < 2 ^ f.vars.toNat
 cut : ∀ s,s ∈ l -> dR f s.toNat = true /\ iR s.toNat x.st
 cov : ∀ T,T < 2 ^ f.vars.toNat -> iR T x.st -> dR f T = true -> ∃ s,s ∈ l /\ iR s.toNat T

theorem OW {f : Fo} {x : RC} (h : nI f x) {p o : List Int} (hp : wQ f p) (ho : Xz p o) {T : Nat} (hT : T < 2 ^ f.vars.toNat) : jU o T ↔ dR f T = true:=by
 obtain ⟨m,hm,hc⟩:=ho.ex
 have hb:=Ht h.ok (wF f h.syn) hp
 rw [Qr h.ok (wF f h.syn) hp hT,DN hc (o8 (by omega)) fun a ha=>by obtain ⟨s,_,rfl⟩:=List.mem_map.1 ha; exact Sm s]
 have hv:=h.vars
 have XL : 2 ^ f.vars.toNat <= 2 ^ 7:=Nat.pow_le_pow_right (by decide) (by omega)
 constructor
 ·rintro ⟨_,h1⟩ y hy
  obtain ⟨z,hz,hzy⟩:=hm.cov y hy
  obtain ⟨i,_,h2,h3⟩:=Ou.1 (h1 _ (List.mem_map.2 ⟨z,hz,rfl⟩))
  obtain ⟨z0,z1⟩:=hb z (hm.sub z hz)
  obtain ⟨y0,y1⟩:=hb y hy
  rw [show z = ((z.toNat : Nat) : Int) by omega,show y = ((y.toNat : Nat) : Int) by omega] at hzy
  exact ⟨i,Jo (by omega) hzy i h2,h3⟩
 ·intro h1
  refine ⟨yu,fun a ha=>?_⟩
  obtain ⟨s,hs,rfl⟩:=List.mem_map.1 ha
  obtain ⟨i,h2,h3⟩:=h1 s (hm.sub s hs)
  obtain ⟨s0,s1⟩:=hb s (hm.sub s hs)
  refine Ou.2 ⟨i,?_,h2,h3⟩
  refine Classical.byContradiction fun hn=>?_
  rw [gI s1 (by omega)] at h2; cases h2

theorem BN {f : Fo} {x : RC} (h : nI f x) {l : List Int} (hl : Vd f x l) : zO f x l:=by
 obtain ⟨p,o,hp,ho,rfl⟩:=hl.ex
 obtain ⟨m,hm,hc⟩:=ho.ex
 have hb:=Ht h.ok (wF f h.syn) hp
 have hv:=h.vars
 have XL : 2 ^ f.vars.toNat <= 2 ^ 7:=Nat.pow_le_pow_right (by decide) (by omega)
 have hob : pV f.vars.toNat o:=Bq (fun _ _ _ h1=>MB (by omega) h1) hc (IE _) fun a ha=>by
  obtain ⟨s,hs,rfl⟩:=List.mem_map.1 ha
  exact Zu (hb s (hm.sub s hs)).2
 refine ⟨Nat.le_trans (List.length_filter_le _ _) ho.ok.len,fun s hs=>hob s (List.mem_filter.1 hs).1,fun s hs=>?_,fun T hT hTs ht=>?_⟩
 ·obtain ⟨h1,h2⟩:=List.mem_filter.1 hs
  obtain ⟨s0,s1⟩:=hob s h1
  refine ⟨(OW h hp ho s1).1 ⟨s,h1,?_⟩,fun k hk=>?_⟩
  ·rw [show s = ((s.toNat : Nat) : Int) by omega,Int.toNat_natCast]
   exact U4 (by omega) (iR.refl _)
  ·unfold AU at h2
   simp at h2
   exact y5 (by omega) h2 hk
 ·obtain ⟨s,h1,h2⟩:=(OW h hp ho hT).2 ht
  obtain ⟨s0,s1⟩:=hob s h1
  rw [show s = ((s.toNat : Nat) : Int) by omega] at h2
  have h3:=Jo (by omega) h2
  refine ⟨s,List.mem_filter.2 ⟨h1,?_⟩,h3⟩
  unfold AU
  rw [kH (by omega) (h3.trans hTs)]
  rfl

theorem zO.fam {f : Fo} {x : RC} (h : nI f x) {l : List Int} (hl : zO f x l) : bQ l:=by
 have hv:=h.vars
 have XL : 2 ^ f.vars.toNat <= 2 ^ 7:=Nat.pow_le_pow_right (by decide) (by omega)
 exact ⟨hl.len,fun s hs=>by have:=hl.rng s hs; omega⟩

theorem SI : ∀ (m : List Int) (z : List Int × Nat) (s : Int),s ∈ (m.foldl iy z).1 -> s ∈ z.1 \/ s ∈ m
 | [],_,_,h=>.inl h
 | t :: m,z,s,h=>by
   rw [List.foldl_cons] at h
   rcases SI m (iy z t) s h with h1 | h1
   ·unfold iy at h1
    split at h1
    ·rcases List.mem_append.1 h1 with h2 | h2
     ·exact .inl h2
     ·exact .inr (by simp [List.mem_singleton.1 h2])
    ·exact .inl h1
   ·exact .inr (by simp [h1])

def LowQ (f : Fo) (x : RC) (R : AV) : Prop:=R = .dA [.int .i64 0,eL] \/ ∃ n : Int,R = .dA [.int .i64 n,.bH] /\ ∀ s',iR s' x.st -> dR f (aJ x.st s') = false -> n <= iF x.cost s'

theorem Xn (f : Fo) (x : RC) (h : nI f x) (h0 : dR f 0 = false) : dO Tryz.prog 11 [f.av,x.av] [] (PQ (LowQ f x)):=by
 have cc:=wH f x h
 have cp:=DU f h.ok .bH (.inr ⟨rfl,h0⟩)
 have cw:=KJ f x h
 have hv:=h.vars
 have XL : 2 ^ f.vars.toNat <= 2 ^ 7:=Nat.pow_le_pow_right (by decide) (by omega)
 have hlen:=h.len
 refine dO.intro lay mixed Tryz.func11 (by kernel_rfl) rfl (by kernel_rfl) rfl fun hok=>?_
 (try dsimp only[aP,aC]);(try dsimp only[aj]);conv=>whnf
 refine .pure _ _ ?_ ⟨rfl,rfl⟩ cc fun _=>?_
 ·exact au _
 (try dsimp only[aj]);conv=>whnf
 refine .oJ _ _ ?_ rfl cw fun R hq _=>?_
 ·exact au _
 obtain rfl | ⟨l,rfl,hl⟩:=hq
 ·(try dsimp only[aj]);conv=>whnf
  refine ⟨_,_,⟨rfl,rfl,.inl rfl⟩,?_⟩
  refine ⟨⟨_,_,.refl _ _,?_⟩⟩
  conv=>whnf
  refine ⟨?_,rfl,by simp [nextId],.mk ?_ (by simp [ak])⟩
  ·all_goals exact wk
  ·all_goals exact wk
 have hC:=BN h hl
 have hF:=hC.fam h
 (try dsimp only[aj]);conv=>whnf
 refine .pure _ _ ?_ ⟨rfl,rfl⟩ cp fun _=>?_
 ·exact au _
 (try dsimp only[aj]);conv=>whnf
 refine .oJ _ _ ?_ rfl (Q8 l hF) fun R hq _=>?_
 ·exact au _
 obtain ⟨m,hm,rfl⟩:=hq
 have hbound : ∀ s',iR s' x.st -> dR f (aJ x.st s') = false -> y7 x.cost (V4 m).1 <= iF x.cost s':=fun s' h1 h2=>by
  refine Qu h.rng fun s hs=>?_
  have hsl:=hm.sub s hs
  obtain ⟨c1,c2⟩:=hC.cut s hsl
  exact Cm h h2 (hC.rng s hsl).2 c1 c2
 have hpm : ∀ s,s ∈ (V4 m).1 -> 0 <= s /\ s <= 16777215:=fun s hs=>by
  rcases SI m ([],0) s hs with h1 | h1
  ·cases h1
  ·exact hF.val s (hm.sub s h1)
 have hpl : (V4 m).1.length <= 1024:=by
  have h1:=(MC m ([],0) (fun s hs=>hF.val s (hm.sub s hs)) (by decide)).2
  have h2:=hm.len
  have h3:=hF.len
  unfold V4
  simp only [List.length_nil,Nat.zero_add] at h1
  omega
 generalize (V4 m).1 = o at *
 have hsum : ∀ i,-1024 <= y7 x.cost (o.take i) /\ y7 x.cost (o.take i) <= 1048576 * 1024:=fun i=>by
  have key : ∀ (u : List Int) (a : Int),a - u.length <= u.foldl (fun a s=>a + qP x.cost s.toNat) a /\ u.foldl (fun a s=>a + qP x.cost s.toNat) a <= a + 1048576 * (u.length : Int):=by
   intro u
   induction u with
   | nil=>intro a; simp
   | cons s u ih =>
     intro a
     have h1:=ih (a + qP x.cost s.toNat)
     have h2:=CY h.rng s.toNat x.cost.length
     rw [show ni x.cost s.toNat x.cost.length = qP x.cost s.toNat from rfl] at h2
     rw [List.foldl_cons,List.length_cons]
     omega
  have h1:=key (o.take i) 0
  have h2 : (o.take i).length <= 1024:=by rw [List.length_take]; omega
  unfold y7
  omega
 (try dsimp only[aj]);conv=>whnf
 refine aN.of <| (aA.inv (.refl _ _) (fun i : Nat=>i <= o.length) (fun i=>[(44,.int .i64 (i : Int)),(11,.int .i64 (y7 x.cost (o.take i)))]) (fun _=>[(1,.box x.av),(0,.box f.av)]) (fun i=>o.length - i) 0 (Nat.zero_le _) ?_ ?_ ?_)
 ·exact fun _=>rfl
 ·refine ⟨?_,.mk ?_ (by simp [ak])⟩
  ·all_goals exact wk
  ·all_goals exact wk
 intro i hi _
 (try dsimp only[aj]);conv=>whnf
 refine And.intro (fun g=>?_) (fun g=>?_)
 ·have hlt : i < o.length:=by simp at g; omega
  have hst : y7 x.cost (o.take (i + 1)) = y7 x.cost (o.take i) + qP x.cost (o[i]).toNat:=iY hlt
  have hsv:=hpm _ (List.getElem_mem hlt)
  have hs1:=hsum i
  have hs2:=hsum (i + 1)
  (try dsimp only[aj]);conv=>whnf
  refine iq hlt ?_
  generalize o[i] = s at *
  have cl:=KQ x (by omega) h.rng s.toNat (by omega)
  rw [show ((s.toNat : Nat) : Int) = s by omega] at cl
  generalize qP x.cost s.toNat = z at *
  generalize y7 x.cost (o.take i) = w at *
  (try dsimp only[aj]);conv=>whnf
  refine .pure _ _ ?_ ⟨rfl,rfl⟩ cl fun _=>?_
  ·exact au _
  (try dsimp only[aj]);conv=>whnf
  refine zA ?_;conv=>whnf
  refine zA ?_;conv=>whnf
  refine ⟨i + 1,?_,?_,?_⟩
  ·exact hlt
  ·rw [hst]
   refine ⟨?_,.mk ?_ (by simp [ak])⟩
   ·all_goals exact wk
   ·all_goals exact wk
  ·omega
 ·have hk : i = o.length:=by simp at g; omega
  subst hk
  rw [List.take_length]
  (try dsimp only[aj]);conv=>whnf
  refine ⟨_,_,⟨rfl,rfl,.inr ⟨_,rfl,hbound⟩⟩,?_⟩
  refine ⟨⟨_,_,.refl _ _,?_⟩⟩
  conv=>whnf
  refine ⟨?_,rfl,by simp [nextId],.mk ?_ (by simp [ak])⟩
  ·all_goals exact wk
  ·all_goals exact wk

theorem LY {vars path : Nat} {t : Sp} (h : yJ vars path t) : ∀ n,(fG vars t path n).2 = 0 -> ∀ y m,(oW t y m).length + n <= (fG vars t path n).1:=by
 induction h with
 | leaf path r =>
   intro n h0 y m
   rw [lQ] at h0 ⊢
   by_cases h1 : 4096 < n + 1
   ·rw [if_pos h1] at h0; cases h0
   ·rw [if_neg h1,if_neg (by simp),if_pos (show ([] : List Sp).length = 0 from rfl)]
    simp [oW]; omega
 | node path v a b hv hp _ _ iha ihb =>
   intro n h0 y m
   rw [lQ] at h0 ⊢
   by_cases h1 : 4096 < n + 1
   ·rw [if_pos h1] at h0; cases h0
   rw [if_neg h1,if_neg (by simp),if_neg (by simp),if_neg (by omega),if_neg (by rw [Int.toNat_natCast,hp]; simp),if_neg (by simp),Int.toNat_natCast,jv] at h0 ⊢
   by_cases h2 : (fG vars a (path ||| 2 ^ v) (n + 1)).2 ≠ 0
   ·rw [if_pos h2] at h0; exact absurd h0 h2
   have h2 : (fG vars a (path ||| 2 ^ v) (n + 1)).2 = 0:=by simpa using h2
   rw [if_neg (by rw [h2]; simp),jv] at h0 ⊢
   have ia:=iha (n + 1) h2 y (m ||| 2 ^ v)
   generalize (fG vars a (path ||| 2 ^ v) (n + 1)).1 = n1 at *
   by_cases h3 : (fG vars b (path ||| 2 ^ v) n1).2 ≠ 0
   ·rw [if_pos h3] at h0; exact absurd h0 h3
   have h3 : (fG vars b (path ||| 2 ^ v) n1).2 = 0:=by simpa using h3
   rw [if_neg (by rw [h3]; simp),uo] at h0 ⊢
   have ib:=ihb n1 h3 (y ||| 2 ^ v) m
   rw [oW,Int.toNat_natCast,List.length_append]
   dsimp only
   omega

theorem Qb {v : Nat} {t : Sp} (hv : v <= 24) (h : oN v t = 0) : yJ v 0 t /\ (oW t 0 0).length <= 4096:=by
 unfold oN at h
 rw [if_neg (by omega),Int.toNat_natCast] at h
 have h1:=wV v t 0 0 h
 have h2:=LY h1 0 h 0 0
 have h3:=(wW v t 0 0 (by omega)).2 h
 exact ⟨h1,by omega⟩

theorem Rl (vars : Int) (t : Sp) (h : oN vars t ≠ 0) : aQ Tryz.prog 33 [t.av,.int .i64 vars] [] (.dA [.aV,rW (oN vars t)]) []:=by
 have cc:=Gu vars t _ rfl
 rw [fV h] at cc ⊢
 generalize oN vars t = E at *
 obtain ⟨v,ks,r⟩:=t
 rw [Sp.eu] at cc ⊢
 refine aQ.intro lay mixed Tryz.func33 (by kernel_rfl) rfl (by kernel_rfl) rfl fun hok=>?_
 (try dsimp only[aP,aC]);(try dsimp only[aj]);conv=>whnf
 refine .pure _ _ ?_ ⟨rfl,rfl⟩ cc fun _=>?_
 ·all_goals exact wk
 (try dsimp only[aj]);conv=>whnf
 refine fM ?_;(conv=>whnf);refine ⟨?_,rfl⟩;conv=>whnf
 all_goals exact wk

theorem Oz {a : Int} {st : Nat} (ha : -9223372036854775808 <= a /\ a <= 9223372036854775807) (hst : st < 2 ^ 63) (h : dI .andNot .i64 a (st : Int) = 0) : ∃ n : Nat,a = n /\ iR n st:=by
 simp only [dI] at h
 have h : IntKind.wrap .i64 ((BitVec.ofInt 64 a &&& ~~~ (BitVec.ofInt 64 (st : Int))).toNat : Int) = 0:=h
 have hz : (BitVec.ofInt 64 a &&& ~~~ (BitVec.ofInt 64 (st : Int))).toNat = 0:=by
  generalize BitVec.ofInt 64 a &&& ~~~ (BitVec.ofInt 64 (st : Int)) = w at *
  have hw:=w.isLt
  simp [IntKind.wrap,IntKind.signed,IntKind.bits] at h
  omega
 have hb : BitVec.ofInt 64 a &&& ~~~ (BitVec.ofInt 64 (st : Int)) = 0#64:=by
  apply BitVec.eq_of_toNat_eq; rw [hz]; rfl
 have hsub : iR (BitVec.ofInt 64 a).toNat st:=by
  intro k hk
  by_cases ZV : k < 64
  ·have h1 : (BitVec.ofInt 64 a &&& ~~~ (BitVec.ofInt 64 (st : Int))).getLsbD k = false:=by rw [hb]; simp
   have h2 : (BitVec.ofInt 64 a).getLsbD k = true:=hk
   rw [kG] at h1
   simp [ZV,h2] at h1
   have h3 : (BitVec.ofNat 64 st).getLsbD k = true:=by rw [BitVec.getLsbD_eq_getElem ZV]; exact h1
   rw [BitVec.getLsbD_ofNat,Bool.and_eq_true] at h3
   exact h3.2
  ·have:=(BitVec.ofInt 64 a).isLt
   rw [gI this (by omega)] at hk; cases hk
 have hlt : (BitVec.ofInt 64 a).toNat < 2 ^ 63:=hsub.lt hst
 refine ⟨(BitVec.ofInt 64 a).toNat,?_,hsub⟩
 rw [BitVec.toNat_ofInt] at hlt ⊢
 omega

structure OkR (f : Fo) (x : RC) (r : Rp) : Prop where
 ex : ∃ (set : Nat) (cs : List Nat),r.set = set /\ r.cuts = cs.map (fun n : Nat=>(n : Int)) /\ cs.length <= 1024 /\ oN (f.vars.toNat : Int) r.tree = 0 /\ Y3 f x set r.total cs r.tree

def VerQ (f : Fo) (x : RC) (r : Rp) (R : AV) : Prop:=((R = .dA [.ff,.bH] \/ ∃ e,R = .dA [.ff,rW e]) /\ ¬ OkR f x r) \/ (R = .dA [.tt,.bH] /\ OkR f x r)

def SB (v : Nat) (s : Int) : Bool:=decide (s < 0) || decide (((2 ^ v : Nat) : Int) <= s)

theorem QW (f : Fo) (h : su f) (s : Int) : aQ Tryz.prog 32 [.int .i64 s,.cp f.av] [] (.bool (SB f.vars.toNat s)) []:=by
 have hv:=h.vars
 have JO:=BZ h
 unfold SB
 refine aQ.intro lay mixed Tryz.func32 (by kernel_rfl) rfl (by kernel_rfl) rfl fun hok=>?_
 (try dsimp only[aP,aC]);(try dsimp only[aj]);conv=>whnf
 refine And.intro (fun h1=>?_) (fun h1=>?_)
 ·rw [show decide (s < 0) = true from decide_eq_true h1,Bool.true_or]
  (try dsimp only[aj]);conv=>whnf
  refine ⟨⟨_,_,.refl _ _,?_⟩⟩
  conv=>whnf
  refine ⟨?_,rfl,by simp [nextId],.mk ?_ (by simp [ak])⟩
  ·all_goals exact wk
  ·all_goals exact wk
 ·rw [show decide (s < 0) = false from decide_eq_false h1,Bool.false_or]
  (try dsimp only[aj]);conv=>whnf
  refine ⟨by omega,?_⟩
  rw [JO]
  (try dsimp only[aj]);conv=>whnf
  refine ⟨⟨_,_,.refl _ _,?_⟩⟩
  conv=>whnf
  refine ⟨?_,rfl,by simp [nextId],.mk ?_ (by simp [ak])⟩
  ·exact decide_eq_true_iff.symm
  ·all_goals exact wk

theorem D6 (f : Fo) (x : RC) (h : nI f x) (r : Rp) : dO Tryz.prog 14 [f.av,x.av,r.av] [] (PQ (VerQ f x r)):=by
 have cc:=wH f x h
 have hv:=h.ok.vars
 have h7:=h.vars
 have XL : 2 ^ f.vars.toNat <= 2 ^ 7:=Nat.pow_le_pow_right (by decide) (by omega)
 have JM:=h.st
 obtain ⟨Qe,total,cuts,tree⟩:=r
 have cF:=jq cuts 32 [.cp f.av] (SB f.vars.toNat) [] fun s _=>QW f h.ok s
 obtain ⟨tv,tk,tr⟩:=tree
 rw [show Rp.av ⟨Qe,total,cuts,.mk tv tk tr⟩ = Yo Qe total (iA cuts) (Sp.mk tv tk tr).av from rfl,Sp.eu]
 refine dO.lD (.r 3 (.f [0] .n)) lay mixed Tryz.func14 (by kernel_rfl) rfl (by kernel_rfl) rfl fun hok=>?_
 have hir : -9223372036854775808 <= Qe /\ Qe <= 9223372036854775807:=hok.2.2.1.1
 (try dsimp only[aP,aC]);(try dsimp only[aj]);conv=>whnf
 refine .pure _ _ ?_ ⟨rfl,rfl⟩ cc fun _=>?_
 ·exact au _
 (try dsimp only[aj]);conv=>whnf
 refine And.intro (fun g=>?_) (fun g=>?_)
 ·(try dsimp only[aj]);conv=>whnf
  refine ⟨_,_,⟨rfl,rfl,.inl ⟨.inr ⟨4,rfl⟩,?_⟩⟩,?_⟩
  ·rintro ⟨set,cs,_,e2,e3,_,_⟩
   dsimp only at e2
   rw [e2] at g
   simp at g
   omega
  refine ⟨⟨_,_,.refl _ _,?_⟩⟩
  conv=>whnf
  refine ⟨?_,rfl,by simp [nextId],.mk ?_ (by simp [ak])⟩
  ·all_goals exact wk
  ·all_goals exact wk
 (try dsimp only[aj]);conv=>whnf
 refine ⟨⟨rfl,rfl⟩,?_⟩
 (try dsimp only[aj]);conv=>whnf
 refine .pure _ _ ?_ ⟨rfl,rfl⟩ cF fun _=>?_
 ·all_goals exact wk
 (try dsimp only[aj]);conv=>whnf
 refine And.intro (fun g1=>?_) (fun g1=>?_)
 ·(try dsimp only[aj]);conv=>whnf
  refine ⟨_,_,⟨rfl,rfl,.inl ⟨.inr ⟨3,rfl⟩,?_⟩⟩,?_⟩
  ·rintro ⟨set,cs,_,e2,_,_,hvp⟩
   dsimp only at e2
   obtain ⟨s,hs,hb⟩:=List.any_eq_true.1 g1
   rw [e2] at hs
   obtain ⟨k,hk,rfl⟩:=List.mem_map.1 hs
   have:=(hvp.cut k hk).1
   unfold SB at hb
   rw [Bool.or_eq_true,decide_eq_true_eq,decide_eq_true_eq] at hb
   omega
  refine ⟨⟨_,_,.refl _ _,?_⟩⟩
  conv=>whnf
  refine ⟨?_,rfl,by simp [nextId],.mk ?_ (by simp [ak])⟩
  ·all_goals exact wk
  ·all_goals exact wk
 have hcr : ∀ s,s ∈ cuts -> 0 <= s /\ s < ((2 ^ f.vars.toNat : Nat) : Int):=fun s hs=>by
  have:=List.any_eq_false.1 g1 s hs
  unfold SB at this
  rw [Bool.or_eq_true,decide_eq_true_eq,decide_eq_true_eq] at this
  omega
 obtain ⟨cs,hcs⟩ : ∃ cs : List Nat,cuts = cs.map (fun n : Nat=>(n : Int)):=⟨cuts.map Int.toNat,by
  rw [List.map_map]
  exact (List.map_id' cuts).symm.trans (List.map_congr_left fun s hs=>by have:=hcr s hs; show s = ((s.toNat : Nat) : Int); omega)⟩
 have hcl : cs.length <= 1024:=by rw [hcs] at g; simp at g; omega
 have hcv : ∀ s,s ∈ cs -> s < 2 ^ f.vars.toNat:=fun s hs=>by
  have:=(hcr (s : Int) (by rw [hcs]; exact List.mem_map.2 ⟨s,hs,rfl⟩)).2
  omega
 have YC : ∀ cs' : List Nat,cuts = cs'.map (fun n : Nat=>(n : Int)) -> cs' = cs:=fun cs' h'=>by
  have h2 : cs'.map (fun n : Nat=>(n : Int)) = cs.map (fun n : Nat=>(n : Int)):=h'.symm.trans hcs
  exact (List.map_inj_right (fun a b hab=>by have h3 : (a : Int) = (b : Int):=hab; omega)).1 h2
 have hvv : f.vars = ((f.vars.toNat : Nat) : Int):=by omega
 by_cases hsp : oN (f.vars.toNat : Int) (.mk tv tk tr) = 0
 case neg =>
  have cl:=Rl (f.vars.toNat : Int) (.mk tv tk tr) hsp
  have hno : ¬ OkR f x ⟨Qe,total,cuts,.mk tv tk tr⟩:=fun ⟨_,_,_,_,_,h5,_⟩=>hsp h5
  generalize oN (f.vars.toNat : Int) (.mk tv tk tr) = E at *
  rw [<- hvv,Sp.eu,fV hsp] at cl
  refine .pure _ _ ?_ ⟨rfl,rfl⟩ cl fun _=>?_
  ·all_goals exact wk
  (try dsimp only[aj]);conv=>whnf
  refine ⟨.dA [.ff,.jh 43 (.int .i64 E)],[],⟨rfl,rfl,.inl ⟨.inr ⟨E,?_⟩,hno⟩⟩,?_⟩
  ·rw [fV hsp]
  refine ⟨⟨_,_,.refl _ _,?_⟩⟩
  conv=>whnf
  refine ⟨?_,rfl,by simp [nextId],.mk ?_ (by simp [ak])⟩
  ·all_goals exact wk
  ·all_goals exact wk
 obtain ⟨ZK,hsl⟩:=Qb (by omega) hsp
 have cl:=UZ f.vars.toNat (by omega) (.mk tv tk tr) hsp (by omega)
 have hcu : ∀ z,z ∈ oW (.mk tv tk tr) 0 0 -> ∃ p,PX f.vars.toNat p z.1 z.2.1:=fun z hz=>Yw ZK (PX.zero _) z hz
 rw [<- hvv,Sp.eu] at cl
 refine .pure _ _ ?_ ⟨rfl,rfl⟩ cl fun _=>?_
 ·all_goals exact wk
 (try dsimp only[aj]);conv=>whnf
 refine aY.auto (by kernel_rfl) ?_;conv=>whnf
 refine And.intro (fun k1=>?_) (fun k1=>?_)
 ·(try dsimp only[aj]);conv=>whnf
  refine ⟨_,_,⟨rfl,rfl,.inl ⟨.inl rfl,?_⟩⟩,?_⟩
  ·rintro ⟨set,cs',e1,_,_,_,hvp⟩
   dsimp only at e1
   refine k1 ?_
   rw [e1,aU (by have:=hvp.sub.lt JM; omega),kH (by have:=hvp.sub.lt JM; omega) hvp.sub]
   rfl
  refine ⟨⟨_,_,.refl _ _,?_⟩⟩
  conv=>whnf
  refine ⟨?_,rfl,by simp [nextId],.mk ?_ (by simp [ak])⟩
  ·all_goals exact wk
  ·all_goals exact wk
 have k1 : dI .andNot .i64 Qe (x.st : Int) = 0:=Classical.byContradiction k1
 obtain ⟨set,rfl,hss⟩:=Oz hir (by omega) k1
 have hsl2:=hss.lt JM
 have cp:=Ph x (by rw [h.len]; omega) h.rng set (by omega)
 (try dsimp only[aj]);conv=>whnf
 refine dV.pure _ _ ?_ ⟨rfl,rfl⟩ cp ?_
 ·exact au _
 (try dsimp only[aj]);conv=>whnf
 refine And.intro (fun k2=>?_) (fun k2=>?_)
 ·(try dsimp only[aj]);conv=>whnf
  refine ⟨_,_,⟨rfl,rfl,.inl ⟨.inl rfl,?_⟩⟩,?_⟩
  ·rintro ⟨set',cs',e1,_,_,_,hvp⟩
   dsimp only at e1
   obtain rfl : set = set':=by omega
   exact k2 hvp.pri
  refine ⟨⟨_,_,.refl _ _,?_⟩⟩
  conv=>whnf
  refine ⟨?_,rfl,by simp [nextId],.mk ?_ (by simp [ak])⟩
  ·all_goals exact wk
  ·all_goals exact wk
 have k2 : iF x.cost set = total:=Classical.byContradiction k2
 have cv:=kT f h.ok (aJ x.st set) (Bh JM (by omega))
 rw [show (valsF f.vars.toNat (aJ x.st set) f.nodes).getD f.top.toNat false = dR f (aJ x.st set) from rfl] at cv
 (try dsimp only[aj]);conv=>whnf
 rw [aU (by omega)]
 refine .pure _ _ ?_ ⟨rfl,rfl⟩ cv fun _=>?_
 ·exact au _
 cases hto : dR f (aJ x.st set) with
 | true =>
   (try dsimp only[aj]);conv=>whnf
   refine And.intro (fun _=>?_) (fun e=>by cases e)
   (try dsimp only[aj]);conv=>whnf
   refine ⟨_,_,⟨rfl,rfl,.inl ⟨.inl rfl,?_⟩⟩,?_⟩
   ·rintro ⟨set',cs',e1,_,_,_,hvp⟩
    dsimp only at e1
    obtain rfl : set = set':=by omega
    rw [hvp.ok] at hto; cases hto
   refine ⟨⟨_,_,.refl _ _,?_⟩⟩
   conv=>whnf
   refine ⟨?_,rfl,by simp [nextId],.mk ?_ (by simp [ak])⟩
   ·all_goals exact wk
   ·all_goals exact wk
 | false =>
 (try dsimp only[aj]);conv=>whnf
 refine And.intro (fun e=>by cases e) (fun _=>?_)
 (try dsimp only[aj]);conv=>whnf
 have ecut : iA cuts = cA cs:=by rw [hcs]; show AV.sl 1 _ _ = AV.sl 1 _ _; rw [List.map_map]; rfl
 have elen : ((cuts.map (AV.int .i64)).length : Int) = ((cs.map fun n : Nat=>AV.int .i64 (n : Int)).length : Int):=by rw [hcs]; simp
 rw [ecut]
 have hcl2 : cuts.length = cs.length:=by rw [hcs]; simp
 refine aN.of <| (aA.inv (.refl _ _) (fun i : Nat=>i <= cs.length /\ ∀ s,s ∈ cs.take i -> dR f s = true /\ iR s x.st) (fun i=>[(79,.int .i64 (i : Int))]) (fun _=>[(2,.box (Yo (set : Int) total (cA cs) (.ag [.int .i64 tv,.sl 3 (tk.map Sp.av) .no,.int .i64 tr]))),(1,.box x.av),(0,.gone)]) (fun i=>cs.length - i) 0 ⟨Nat.zero_le _,by simp⟩ ?_ ?_ ?_)
 ·exact fun _=>rfl
 ·refine ⟨?_,.mk ?_ (by simp [ak])⟩
  ·all_goals exact wk
  ·all_goals exact wk
 rintro i ⟨hi,hcut⟩ _
 (try dsimp only[aj]);conv=>whnf
 refine And.intro (fun q=>?_) (fun q=>?_)
 ·have hlt : i < cs.length:=by simp at q; omega
  have hsv:=hcv _ (List.getElem_mem hlt)
  have hts:=List.take_succ_eq_append_getElem hlt
  have hmem:=List.getElem_mem hlt
  have ci:=Xf f h.ok (wF f h.syn) cs[i] hsv
  (try dsimp only[aj]);conv=>whnf
  refine iq hlt ?_
  generalize cs[i] = s at *
  (try dsimp only[aj]);conv=>whnf
  refine .pure _ _ ?_ ⟨rfl,rfl⟩ ci fun _=>?_
  ·all_goals exact wk
  cases ZH : dR f s with
  | false =>
    (try dsimp only[aj]);conv=>whnf
    refine And.intro (fun _=>?_) (fun e=>by cases e)
    (try dsimp only[aj]);conv=>whnf
    refine ⟨_,_,⟨rfl,rfl,.inl ⟨.inl rfl,?_⟩⟩,?_⟩
    ·rintro ⟨set',cs',e1,e2,_,_,hvp⟩
     have ecs:=YC cs' e2
     rw [<- ecs] at hmem
     have:=(hvp.cut s hmem).2.1
     rw [ZH] at this; cases this
    refine ⟨⟨_,_,.refl _ _,?_⟩⟩
    conv=>whnf
    refine ⟨?_,rfl,by simp [nextId],.mk ?_ (by simp [ak])⟩
    ·all_goals exact wk
    ·all_goals exact wk
  | true =>
    (try dsimp only[aj]);conv=>whnf
    refine And.intro (fun e=>by cases e) (fun _=>?_)
    (try dsimp only[aj]);conv=>whnf
    refine And.intro (fun k3=>?_) (fun k3=>?_)
    ·(try dsimp only[aj]);conv=>whnf
     refine ⟨_,_,⟨rfl,rfl,.inl ⟨.inl rfl,?_⟩⟩,?_⟩
     ·rintro ⟨set',cs',e1,e2,_,_,hvp⟩
      have ecs:=YC cs' e2
      rw [<- ecs] at hmem
      have hsb:=(hvp.cut s hmem).2.2
      refine k3 ?_
      rw [aU (by omega),kH (by omega) hsb]
      rfl
     refine ⟨⟨_,_,.refl _ _,?_⟩⟩
     conv=>whnf
     refine ⟨?_,rfl,by simp [nextId],.mk ?_ (by simp [ak])⟩
     ·all_goals exact wk
     ·all_goals exact wk
    have k3 : dI .andNot .i64 (s : Int) (x.st : Int) = 0:=Classical.byContradiction k3
    have hsb : iR s x.st:=by
     obtain ⟨s2,e2,h2⟩:=Oz (a:=(s : Int)) (by omega) (by omega) k3
     obtain rfl : s = s2:=by omega
     exact h2
    (try dsimp only[aj]);conv=>whnf
    refine zA ?_;conv=>whnf
    refine ⟨i + 1,?_,?_,?_⟩
    ·refine ⟨hlt,fun s' hs'=>?_⟩
     rw [hts] at hs'
     rcases List.mem_append.1 hs' with h' | h'
     ·exact hcut s' h'
     ·rw [List.mem_singleton.1 h']; exact ⟨ZH,hsb⟩
    ·refine ⟨?_,.mk ?_ (by simp [ak])⟩
     ·all_goals exact wk
     ·all_goals exact wk
    ·omega
 have hie : i = cs.length:=by simp at q; omega
 subst hie
 rw [List.take_length] at hcut
 (try dsimp only[aj]);conv=>whnf
 refine aN.of <| (aA.inv (.refl _ _) (fun i : Nat=>i <= (oW (.mk tv tk tr) 0 0).length /\ ∀ z,z ∈ (oW (.mk tv tk tr) 0 0).take i -> EU x cs total z.1 z.2.1 z.2.2 = true) (fun i=>[(106,.int .i64 (i : Int))]) (fun _=>[(2,.box (Yo (set : Int) total (cA cs) (.ag [.int .i64 tv,.sl 3 (tk.map Sp.av) .no,.int .i64 tr]))),(1,.box x.av),(0,.gone)]) (fun i=>(oW (.mk tv tk tr) 0 0).length - i) 0 ⟨Nat.zero_le _,by simp⟩ ?_ ?_ ?_)
 ·exact fun _=>rfl
 ·refine ⟨?_,.mk ?_ (by simp [ak])⟩
  ·all_goals exact wk
  ·all_goals exact wk
 rintro i ⟨hi,hlf⟩ _
 (try dsimp only[aj]);conv=>whnf
 refine And.intro (fun q=>?_) (fun q=>?_)
 ·have hlt : i < (oW (.mk tv tk tr) 0 0).length:=by simp at q; omega
  have hts:=List.take_succ_eq_append_getElem hlt
  have hmem:=List.getElem_mem hlt
  (try dsimp only[aj]);conv=>whnf
  refine iq hlt ?_
  generalize (oW (.mk tv tk tr) 0 0)[i] = z at *
  obtain ⟨y,n,reason⟩:=z
  obtain ⟨Zv,hcp⟩:=hcu _ hmem
  have hy:=hcp.yl
  have hn:=hcp.nl
  dsimp only at hy hn
  have cr:=QY x (by rw [h.len]; omega) h.rng (by omega) cs hcl (fun s hs=>by have:=hcv s hs; omega) (set : Int) total (.mk tv tk tr) y n (by omega) (by omega) reason
  rw [Sp.eu] at cr
  (try dsimp only[aj]);conv=>whnf
  refine .pure _ _ ?_ ⟨rfl,rfl⟩ cr fun _=>?_
  ·all_goals exact wk
  cases hrf : EU x cs total y n reason with
  | false =>
    (try dsimp only[aj]);conv=>whnf
    refine And.intro (fun _=>?_) (fun e=>by cases e)
    (try dsimp only[aj]);conv=>whnf
    refine ⟨_,_,⟨rfl,rfl,.inl ⟨.inl rfl,?_⟩⟩,?_⟩
    ·rintro ⟨set',cs',e1,e2,_,_,hvp⟩
     have ecs:=YC cs' e2
     rw [<- ecs] at hrf
     obtain rfl : set = set':=by have e1 : (set : Int) = (set' : Int):=e1; omega
     have:=hvp.leaf _ hmem
     rw [show EU x cs' total y n reason = true from this] at hrf; cases hrf
    refine ⟨⟨_,_,.refl _ _,?_⟩⟩
    conv=>whnf
    refine ⟨?_,rfl,by simp [nextId],.mk ?_ (by simp [ak])⟩
    ·all_goals exact wk
    ·all_goals exact wk
  | true =>
    (try dsimp only[aj]);conv=>whnf
    refine And.intro (fun e=>by cases e) (fun _=>?_)
    (try dsimp only[aj]);conv=>whnf
    refine zA ?_;conv=>whnf
    refine ⟨i + 1,?_,?_,?_⟩
    ·refine ⟨hlt,fun s' hs'=>?_⟩
     rw [hts] at hs'
     rcases List.mem_append.1 hs' with h' | h'
     ·exact hlf s' h'
     ·rw [List.mem_singleton.1 h']; exact hrf
    ·refine ⟨?_,.mk ?_ (by simp [ak])⟩
     ·all_goals exact wk
     ·all_goals exact wk
    ·omega
 have hie : i = (oW (.mk tv tk tr) 0 0).length:=by simp at q; omega
 subst hie
 rw [List.take_length] at hlf
 (try dsimp only[aj]);conv=>whnf
 refine ⟨_,_,⟨rfl,rfl,.inr ⟨rfl,set,cs,rfl,hcs,hcl,hsp,hss,k2,hto,fun s hs=>⟨hcv s hs,hcut s hs⟩,ZK,hlf⟩⟩,?_⟩
 refine ⟨⟨_,_,.refl _ _,?_⟩⟩
 conv=>whnf
 refine ⟨?_,rfl,by simp [nextId],.mk ?_ (by simp [ak])⟩
 ·all_goals exact wk
 ·all_goals exact wk

def rnT : Go.Shelf.Ren:=⟨fun _=>92,fun k=>match k with | 22=>125 | 25=>114 | 54=>132 | k=>k,fun _=>1⟩

theorem XH : Go.Proofs.Lays7.n29 Tryz.prog rnT where
 mixed:=mixed
 f29:=by kernel_rfl
 t0:=by kernel_rfl
 a0:=fun w=>by rfl
 z0:=fun w=>by rfl
 v0:=fun w=>by rfl
 i0:=by kernel_rfl
 t3:=by kernel_rfl
 a3:=fun w=>by rfl
 z3:=fun w=>by rfl
 v3:=fun w=>by rfl
 i3:=by kernel_rfl
 t4:=by kernel_rfl
 a4:=fun w=>by rfl
 z4:=fun w=>by rfl
 v4:=fun w=>by rfl
 i4:=by kernel_rfl
 t5:=by kernel_rfl
 a5:=fun w=>by rfl
 z5:=fun w=>by rfl
 v5:=fun w=>by rfl
 i5:=by kernel_rfl
 t22:=by kernel_rfl
 a22:=fun w=>by rfl
 z22:=fun w=>by rfl
 v22:=fun w=>by rfl
 i22:=by kernel_rfl
 t25:=by kernel_rfl
 a25:=fun w=>by rfl
 z25:=fun w=>by rfl
 v25:=fun w=>by rfl
 i25:=by kernel_rfl
 t54:=by kernel_rfl
 a54:=fun w=>by rfl
 z54:=fun w=>by rfl
 g1:=by kernel_rfl

def mG : List Value:=Go.Lib.deBruijn64tab.map fun n : Nat=>Value.int .u8 (n : Int)

theorem YO (x : Nat) (hx : x < 18446744073709551616) : aQ Tryz.prog 92 [.int .u64 (x : Int)] [(0,.glob 1 mG)] (.int .i64 (Go.Lib.ctz 64 x : Nat)) [(0,.glob 1 mG)]:=by
 refine ⟨⟨_,XH.f29,by kernel_rfl,by kernel_rfl⟩,fun c vs hr hv=>?_⟩
 obtain ⟨v,rfl,hw⟩ : ∃ v,vs = [v] /\ EV c (.int .u64 (x : Int)) v:=by
  obtain ⟨v,r,rfl,h1,rfl⟩:=hv
  exact ⟨v,rfl,h1⟩
 have hw : v = .int .u64 (x : Int):=(iT hw).1
 subst hw
 have hg:=hr.ok (0,.glob 1 mG) (by simp)
 refine (Any7.bits_TrailingZeros64 XH x hx c.w fun _ j hj=>?_).mono ?_
 ·have:=hg j (.int .u8 ((Go.Lib.deBruijn64tab.getD j 0 : Nat) : Int)) (by
   show (Go.Lib.deBruijn64tab.map _)[j]? = _
   rw [List.getElem?_map,List.getElem?_eq_getElem hj,List.getD_eq_getElem?_getD,List.getElem?_eq_getElem hj]; rfl)
  exact this.2
 ·rintro e w' ⟨rfl,rfl⟩
  refine ⟨_,c,rfl,rfl,.refl hr,?_⟩
  have h64 : Go.Lib.ctz 64 x <= 64:=by
   by_cases h0 : x = 0
   ·subst h0; exact Nat.le_refl _
   ·exact Nat.le_of_lt (Go.Lib.lowest_bit 64 x h0 hx).2
  exact bT ⟨by show (-9223372036854775808 : Int) <= _; omega,by show _ <= (9223372036854775807 : Int); omega⟩

theorem c_tz (x : Nat) (hx : x < 18446744073709551616) : aQ Tryz.prog 73 [.int .u64 (x : Int)] [(0,.glob 1 mG)] (.int .i64 (Go.Lib.ctz 64 x : Nat)) [(0,.glob 1 mG)]:=by
 have ct:=YO x hx
 generalize mG = G at *
 generalize Go.Lib.ctz 64 x = R at *
 refine aQ.intro lay mixed Tryz.func73 (by kernel_rfl) rfl (by kernel_rfl) rfl fun hok=>?_
 (try dsimp only[aP,aC]);(try dsimp only[aj]);conv=>whnf
 refine .gen _ _ ct fun _=>?_
 (try dsimp only[aj]);conv=>whnf
 refine ⟨⟨_,_,.refl _ _,?_⟩⟩
 conv=>whnf
 refine ⟨?_,rfl,by simp [nextId],.mk ?_ (by simp [ak])⟩
 ·all_goals exact wk
 ·all_goals exact wk

def y9 (x : Nat) : Int:=if x = 0 then -1 else (Go.Lib.ctz 64 x : Nat)

theorem Uz (x : Nat) (hx : x < 16777216) : aQ Tryz.prog 55 [.int .i64 (x : Int)] [(0,.glob 1 mG)] (.int .i64 (y9 x)) [(0,.glob 1 mG)]:=by
 have hc : oh (x : Int) = x:=O8 (by omega) (by omega)
 have ct:=c_tz x (by omega)
 have cc:=KU (x : Int)
 rw [hc] at cc
 unfold y9
 generalize mG = G at *
 generalize Go.Lib.ctz 64 x = R at *
 refine aQ.intro lay mixed Tryz.func55 (by kernel_rfl) rfl (by kernel_rfl) rfl fun hok=>?_
 (try dsimp only[aP,aC]);(try dsimp only[aj]);conv=>whnf
 refine .pure _ _ ?_ ⟨rfl,rfl⟩ cc fun _=>?_
 ·exact au _
 (try dsimp only[aj]);conv=>whnf
 refine And.intro (fun h=>?_) (fun h=>?_)
 ·rw [if_pos (by omega)]
  (try dsimp only[aj]);conv=>whnf
  refine ⟨⟨_,_,.refl _ _,?_⟩⟩
  conv=>whnf
  refine ⟨?_,rfl,by simp [nextId],.mk ?_ (by simp [ak])⟩
  ·all_goals exact wk
  ·all_goals exact wk
 ·rw [if_neg (by omega)]
  (try dsimp only[aj]);conv=>whnf
  refine .pure _ _ ?_ ⟨rfl,rfl⟩ cc fun _=>?_
  ·exact au _
  (try dsimp only[aj]);conv=>whnf
  rw [show IntKind.u64.wrap (x : Int) = x by rw [IntKind.wrap_u64]; omega]
  refine .gen _ _ ct fun _=>?_
  (try dsimp only[aj]);conv=>whnf
  refine ⟨⟨_,_,.refl _ _,?_⟩⟩
  conv=>whnf
  refine ⟨?_,rfl,by simp [nextId],.mk ?_ (by simp [ak])⟩
  ·all_goals exact wk
  ·all_goals exact wk

def VH : Sp:=.mk 0 [] 0

def OV (cs : List Nat) (y : Nat) : Int:=vZ (fun c : Nat=>decide (aJ c y = 0)) cs
def Ro (cs : List Nat) (n : Nat) : Int:=vZ (fun c : Nat=>decide (c &&& n = 0)) cs

def jl (x : RC) (cs : List Nat) (total : Int) : Nat -> Nat -> Nat -> Nat -> Int × Sp × Nat
 | 0,_,_,k=>(4,VH,k + 1)
 | f + 1,y,n,k =>
   if 4096 < k + 1 then (4,VH,k + 1)
   else if 0 <= OV cs y then (0,.mk 0 [] (OV cs y),k + 1)
   else if Dp x cs y n total = true then (0,.mk 0 [] (-1),k + 1)
   else if Ro cs n < 0 then (15,VH,k + 1)
   else
    let v:=y9 (aJ (cs.getD (Ro cs n).toNat 0) y)
    let a:=jl x cs total f y (n ||| 2 ^ v.toNat) (k + 1)
    if a.1 = 0 then
     let b:=jl x cs total f (y ||| 2 ^ v.toNat) n a.2.2
     (b.1,.mk v [a.2.1,b.2.1] 0,b.2.2)
    else (a.1,VH,a.2.2)

theorem JL {α β : Type} (g : α -> β) (p : β -> Bool) (l : List α) : vZ p (l.map g) = vZ (fun a=>p (g a)) l:=by
 induction l with
 | nil=>rfl
 | cons a l ih=>show (if p (g a) then 0 else (match vZ p (l.map g) with | -1=>-1 | n=>n + 1)) = _; rw [ih]; rfl

theorem Xi (y n : Nat) (c : Nat) (hc : c < 16777216) : aQ Tryz.prog 52 [.int .i64 (c : Int),(Ur y n).cp] [] (.bool (decide (aJ c y = 0))) []:=by
 have e:=aU (a:=c) (b:=y) (by omega)
 refine aQ.intro lay mixed Tryz.func52 (by kernel_rfl) rfl (by kernel_rfl) rfl fun hok=>?_
 (try dsimp only[aP,aC]);(try dsimp only[aj]);conv=>whnf
 rw [e]
 refine ⟨⟨_,_,.refl _ _,?_⟩⟩
 conv=>whnf
 refine ⟨?_,rfl,by simp [nextId],.mk ?_ (by simp [ak])⟩
 ·exact (show (((aJ c y : Nat) : Int) = 0 ↔ decide (aJ c y = 0) = true) by rw [decide_eq_true_iff]; omega)
 ·all_goals exact wk

theorem Xh (y n : Nat) (hn : n < 16777216) (c : Nat) (hc : c < 16777216) : aQ Tryz.prog 54 [.int .i64 (c : Int),(Ur y n).cp] [] (.bool (decide (c &&& n = 0))) []:=by
 have e : dI .and .i64 (c : Int) (n : Int) = ((c &&& n : Nat) : Int):=rC (by omega) (by omega)
 refine aQ.intro lay mixed Tryz.func54 (by kernel_rfl) rfl (by kernel_rfl) rfl fun hok=>?_
 (try dsimp only[aP,aC]);(try dsimp only[aj]);conv=>whnf
 rw [e]
 refine ⟨⟨_,_,.refl _ _,?_⟩⟩
 conv=>whnf
 refine ⟨?_,rfl,by simp [nextId],.mk ?_ (by simp [ak])⟩
 ·exact (show (((c &&& n : Nat) : Int) = 0 ↔ decide (c &&& n = 0) = true) by rw [decide_eq_true_iff]; omega)
 ·all_goals exact wk

abbrev grA (x : RC) (set total : Int) (cs : List Nat) (t : AV) (k : Nat) : AV:=.ag [x.av,Yo set total (cA cs) t,.int .i64 (k : Int)]

theorem c_inI (cs : List Nat) (hcs : ∀ s,s ∈ cs -> s < 16777216) (y n : Nat) : aQ Tryz.prog 51 [cA cs,.fn 52 [(Ur y n).cp]] [] (.int .i64 (OV cs y)) []:=by
 have h:=kS (cs.map fun n : Nat=>(n : Int)) 52 [(Ur y n).cp] (fun c=>decide (aJ c.toNat y = 0)) [] fun c hc=>by
  obtain ⟨k,hk,rfl⟩:=List.mem_map.1 hc
  exact Xi y n k (hcs k hk)
 rw [JL] at h
 have e : iL (cs.map fun n : Nat=>(n : Int)) = cA cs:=by show AV.sl 1 _ _ = AV.sl 1 _ _; rw [List.map_map]; rfl
 rw [e] at h
 exact h

theorem c_apI (cs : List Nat) (hcs : ∀ s,s ∈ cs -> s < 16777216) (y n : Nat) (hn : n < 16777216) : aQ Tryz.prog 51 [cA cs,.fn 54 [(Ur y n).cp]] [] (.int .i64 (Ro cs n)) []:=by
 have h:=kS (cs.map fun n : Nat=>(n : Int)) 54 [(Ur y n).cp] (fun c=>decide (c.toNat &&& n = 0)) [] fun c hc=>by
  obtain ⟨k,hk,rfl⟩:=List.mem_map.1 hc
  exact Xh y n hn k (hcs k hk)
 rw [JL] at h
 have e : iL (cs.map fun n : Nat=>(n : Int)) = cA cs:=by show AV.sl 1 _ _ = AV.sl 1 _ _; rw [List.map_map]; rfl
 rw [e] at h
 exact h

theorem Wv (x : RC) (cs : List Nat) (total : Int) : ∀ (f y n k : Nat),k < (jl x cs total f y n k).2.2 /\ ((jl x cs total f y n k).1 = 0 -> (jl x cs total f y n k).2.2 <= 4096):=by
 intro f
 induction f with
 | zero=>intro y n k; exact ⟨Nat.lt_succ_self _,fun e=>absurd e (show ¬ (4 : Int) = 0 by decide)⟩
 | succ f ih =>
   intro y n k
   rw [jl]
   by_cases h1 : 4096 < k + 1
   ·rw [if_pos h1]; exact ⟨Nat.lt_succ_self _,fun e=>absurd e (show ¬ (4 : Int) = 0 by decide)⟩
   rw [if_neg h1]
   have h1' : k + 1 <= 4096:=by omega
   split
   ·exact ⟨Nat.lt_succ_self _,fun _=>h1'⟩
   split
   ·exact ⟨Nat.lt_succ_self _,fun _=>h1'⟩
   split
   ·exact ⟨Nat.lt_succ_self _,fun _=>h1'⟩
   dsimp only
   generalize (y9 (aJ (cs.getD (Ro cs n).toNat 0) y)).toNat = j
   have a:=ih y (n ||| 2 ^ j) (k + 1)
   generalize jl x cs total f y (n ||| 2 ^ j) (k + 1) = A at *
   split
   ·rename_i h5
    have b:=ih (y ||| 2 ^ j) n A.2.2
    exact ⟨by dsimp only; omega,fun e=>b.2 e⟩
   ·rename_i h5
    exact ⟨by dsimp only; omega,fun e=>absurd e h5⟩

theorem FW {w v : Nat} (h0 : w ≠ 0) (h : w < 2 ^ v) (hv : v <= 63) : ∃ i : Nat,y9 w = (i : Int) /\ i < v /\ w.testBit i = true:=by
 have h64 : w < 2 ^ 64:=Nat.lt_of_lt_of_le h (Nat.pow_le_pow_right (by decide) (by omega))
 obtain ⟨h1,_⟩:=Go.Lib.lowest_bit 64 w h0 h64
 have hb : w.testBit (Go.Lib.ctz 64 w) = true:=by
  have h2 : (w &&& (2 ^ 64 - w)).testBit (Go.Lib.ctz 64 w) = true:=by rw [h1,Nat.testBit_two_pow_self]
  rw [Nat.testBit_and,Bool.and_eq_true] at h2
  exact h2.1
 refine ⟨_,if_neg h0,?_,hb⟩
 refine Classical.byContradiction fun hc=>?_
 rw [gI h (by omega)] at hb; cases hb

theorem Xg (x : RC) (hl : x.cost.length <= 60) (h : ∀ c,c ∈ x.cost -> 0 <= c /\ c <= 1048576) (hst : x.st < 16777216) (cs : List Nat) (hcl : cs.length <= 1024) (hcs : ∀ s,s ∈ cs -> s < 16777216) (set total : Int) :
  ∀ (f y n k : Nat),4097 <= f + k -> k <= 4096 -> y < 16777216 -> n < 16777216 ->
  dO Tryz.prog 30 [.ptr 1 [] 0,Ur y n] [(1,.box (grA x set total cs (Sp.av VH) k)),(0,.glob 1 mG)] (fun R H'=>R = .dA [(jl x cs total f y n k).2.1.av,rW (jl x cs total f y n k).1] /\ H' = [(1,.box (grA x set total cs (Sp.av VH) (jl x cs total f y n k).2.2)),(0,.glob 1 mG)]):=by
 intro f
 induction f with
 | zero=>intro y n k h1 h2; omega
 | succ f ih =>
 intro y n k h1 h2 hy hn
 have eG : jl x cs total (f + 1) y n k = if 4096 < k + 1 then (4,VH,k + 1)
  else if 0 <= OV cs y then (0,.mk 0 [] (OV cs y),k + 1)
  else if Dp x cs y n total = true then (0,.mk 0 [] (-1),k + 1)
  else if Ro cs n < 0 then (15,VH,k + 1)
  else
   let v:=y9 (aJ (cs.getD (Ro cs n).toNat 0) y)
   let a:=jl x cs total f y (n ||| 2 ^ v.toNat) (k + 1)
   if a.1 = 0 then
    let b:=jl x cs total f (y ||| 2 ^ v.toNat) n a.2.2
    (b.1,.mk v [a.2.1,b.2.1] 0,b.2.2)
   else (a.1,VH,a.2.2):=rfl
 generalize jl x cs total (f + 1) y n k = G at eG ⊢
 refine dO.lD (.r 2 (.f [2] .n)) lay mixed Tryz.func30 (by kernel_rfl) rfl (by kernel_rfl) rfl fun hok=>?_
 (try dsimp only[aP,aC]);(try dsimp only[aj]);conv=>whnf
 refine ⟨⟨by show (-9223372036854775808 : Int) <= _; omega,by show _ <= (9223372036854775807 : Int); omega⟩,?_⟩
 (try dsimp only[aj]);conv=>whnf
 refine And.intro (fun g=>?_) (fun g=>?_)
 ·rw [if_pos (by omega)] at eG
  subst eG
  (try dsimp only[aj]);conv=>whnf
  refine ⟨_,_,⟨rfl,rfl⟩,?_⟩
  refine ⟨⟨_,_,.refl _ _,?_⟩⟩
  conv=>whnf
  refine ⟨?_,rfl,by simp [nextId],.mk ?_ (by simp [ak])⟩
  ·all_goals exact wk
  ·all_goals exact wk
 rw [if_neg (by omega)] at eG
 (try dsimp only[aj]);conv=>whnf
 refine ⟨⟨rfl,rfl⟩,?_⟩
 (try dsimp only[aj]);conv=>whnf
 refine .pure _ _ ?_ ⟨rfl,rfl⟩ (c_inI cs hcs y n) fun _=>?_
 ·all_goals exact wk
 (try dsimp only[aj]);conv=>whnf
 refine And.intro (fun g2=>?_) (fun g2=>?_)
 ·rw [if_pos g2] at eG
  subst eG
  (try dsimp only[aj]);conv=>whnf
  refine ⟨_,_,⟨rfl,rfl⟩,?_⟩
  refine ⟨⟨_,_,.refl _ _,?_⟩⟩
  conv=>whnf
  refine ⟨?_,rfl,by simp [nextId],.mk ?_ (by simp [ak])⟩
  ·all_goals exact wk
  ·all_goals exact wk
 rw [if_neg g2] at eG
 have ce:=KT x hl h hst cs hcl hcs y n hy hn total
 (try dsimp only[aj]);conv=>whnf
 refine aY.auto (by kernel_rfl) ?_;conv=>whnf
 refine .pure _ _ ?_ ⟨rfl,rfl⟩ ce ?_
 ·all_goals exact wk
 (try dsimp only[aj]);conv=>whnf
 refine And.intro (fun g3=>?_) (fun g3=>?_)
 ·rw [if_pos g3] at eG
  subst eG
  (try dsimp only[aj]);conv=>whnf
  refine ⟨_,_,⟨rfl,rfl⟩,?_⟩
  refine ⟨⟨_,_,.refl _ _,?_⟩⟩
  conv=>whnf
  refine ⟨?_,rfl,by simp [nextId],.mk ?_ (by simp [ak])⟩
  ·all_goals exact wk
  ·all_goals exact wk
 rw [if_neg (by rw [g3]; decide)] at eG
 (try dsimp only[aj]);conv=>whnf
 refine .pure _ _ ?_ ⟨rfl,rfl⟩ (c_apI cs hcs y n hn) fun _=>?_
 ·all_goals exact wk
 (try dsimp only[aj]);conv=>whnf
 refine And.intro (fun g4=>?_) (fun g4=>?_)
 ·rw [if_pos g4] at eG
  subst eG
  (try dsimp only[aj]);conv=>whnf
  refine ⟨_,_,⟨rfl,rfl⟩,?_⟩
  refine ⟨⟨_,_,.refl _ _,?_⟩⟩
  conv=>whnf
  refine ⟨?_,rfl,by simp [nextId],.mk ?_ (by simp [ak])⟩
  ·all_goals exact wk
  ·all_goals exact wk
 rw [if_neg g4] at eG
 obtain ⟨i,hi,ei,hap⟩ : ∃ i,i < cs.length /\ Ro cs n = (i : Nat) /\ cs.getD i 0 &&& n = 0:=by
  rcases gK (fun c : Nat=>decide (c &&& n = 0)) cs with ⟨h5,_⟩ | ⟨i,hi,h5,h6,_⟩
  ·exact absurd h5 (by unfold Ro at g4; omega)
  ·exact ⟨i,hi,h5,by rw [List.getD_eq_getElem?_getD,List.getElem?_eq_getElem hi]; exact of_decide_eq_true h6⟩
 have hcy : ∀ c,c ∈ cs -> aJ c y ≠ 0:=fun c hc=>by
  rcases gK (fun c : Nat=>decide (aJ c y = 0)) cs with ⟨_,h5⟩ | ⟨i,hi,h5,h6,_⟩
  ·exact of_decide_eq_false (h5 c hc)
  ·exact absurd (show 0 <= OV cs y by unfold OV; omega) g2
 rw [ei] at eG ⊢
 rw [Int.toNat_natCast] at eG
 have hgd : cs.getD i 0 = cs[i]:=by rw [List.getD_eq_getElem?_getD,List.getElem?_eq_getElem hi]; rfl
 rw [hgd] at eG hap
 have hcm:=List.getElem_mem hi
 refine aY.mk ⟨[true,true,true,true,false,true,true,true,true,true,true,false,true],by kernel_rfl,?_⟩
 (try dsimp only[aj]);conv=>whnf
 refine iq hi ?_
 generalize cs[i] = c at *
 have hc24:=hcs c hcm
 have hle:=Nat.lt_of_le_of_lt (kP (b:=y) (show c < 2 ^ 63 by omega)) hc24
 obtain ⟨j,ej,hj,hb⟩:=FW (hcy c hcm) (show aJ c y < 2 ^ 24 from hle) (by decide)
 have cl:=Uz (aJ c y) hle
 rw [ej] at cl eG
 dsimp only at eG
 rw [Int.toNat_natCast] at eG
 (try dsimp only[aj]);conv=>whnf
 rw [aU (by omega)]
 refine .gen _ _ (aQ.frame [0] cl ⟨rfl,rfl,rfl,rfl⟩ ?_ ?_) fun _=>?_
 ·all_goals exact wk
 ·all_goals exact wk
 (try dsimp only[aj]);conv=>whnf
 have Z5 : 2 ^ j < 2 ^ 24:=Nat.pow_lt_pow_right (by decide) hj
 have hgk:=Wv x cs total f y (n ||| 2 ^ j) (k + 1)
 have ia:=ih y (n ||| 2 ^ j) (k + 1) (by omega) (by omega) hy (Nat.or_lt_two_pow (show n < 2 ^ 24 from hn) Z5)
 generalize jl x cs total f y (n ||| 2 ^ j) (k + 1) = A at *
 obtain ⟨a1,⟨va,ka,ra⟩,k1⟩:=A
 dsimp only at ia hgk eG
 rw [Sp.eu] at ia
 by_cases h5 : a1 = 0
 ·subst h5
  rw [if_pos rfl] at eG
  replace ia:=dO.XF ia
  rw [show rW 0 = .bH from rfl] at ia
  refine aY.mk ⟨[true,true,true,true,true,true,true,true,true,false,true,true,true,false,false,true],by kernel_rfl,?_⟩
  (try dsimp only[aj]);conv=>whnf
  refine ⟨by omega,?_⟩
  rw [jH (i:=j) (by omega)]
  (try dsimp only[aj]);conv=>whnf
  rw [mM (by omega) (by omega)]
  (try dsimp only[aj]);conv=>whnf
  refine .gen _ _ (aQ.frame [0,1] ia ⟨rfl,rfl,rfl,rfl⟩ ?_ ?_) fun _=>?_
  ·all_goals exact wk
  ·all_goals exact wk
  (try dsimp only[aj]);conv=>whnf
  have hy2 : y ||| 2 ^ j < 16777216:=Nat.or_lt_two_pow (n:=24) hy Z5
  have ib:=ih (y ||| 2 ^ j) n k1 (by omega) (hgk.2 rfl) hy2 hn
  generalize jl x cs total f (y ||| 2 ^ j) n k1 = B at *
  obtain ⟨b1,⟨vb,kb,rb⟩,k2⟩:=B
  dsimp only at ib eG
  rw [Sp.eu] at ib
  replace ib:=dO.XF ib
  subst eG
  rcases (show rW b1 = .bH \/ ∃ c : Int,rW b1 = .jh 43 (.int .i64 c) from if h : b1 = 0 then .inl (by rw [h]; rfl) else .inr ⟨b1,fV h⟩) with hb1 | ⟨ec,hb1⟩ <;> rw [hb1] at ib ⊢ <;> clear hb1
  ·refine aY.mk ⟨[true,true,true,true,true,true,true,true,true,false,true,true,true,false,false,true],by kernel_rfl,?_⟩
   (try dsimp only[aj]);conv=>whnf
   refine ⟨by omega,?_⟩
   rw [jH (i:=j) (by omega)]
   (try dsimp only[aj]);conv=>whnf
   rw [mM (by omega) (by omega)]
   (try dsimp only[aj]);conv=>whnf
   refine .gen _ _ (aQ.frame [0,1] ib ⟨rfl,rfl,rfl,rfl⟩ ?_ ?_) fun _=>?_
   ·all_goals exact wk
   ·all_goals exact wk
   (try dsimp only[aj]);conv=>whnf
   rw [Sp.eu,show [Sp.mk va ka ra,Sp.mk vb kb rb].map Sp.av = [(Sp.mk va ka ra).av,(Sp.mk vb kb rb).av] from rfl,Sp.eu,Sp.eu]
   refine ⟨_,_,⟨rfl,rfl⟩,?_⟩
   refine ⟨⟨_,_,.refl _ _,?_⟩⟩
   conv=>whnf
   refine ⟨?_,rfl,by simp [nextId],.mk ?_ (by simp [ak])⟩
   ·all_goals exact wk
   ·all_goals exact wk
  ·refine aY.mk ⟨[true,true,true,true,true,true,true,true,true,false,true,true,true,false,false,true],by kernel_rfl,?_⟩
   (try dsimp only[aj]);conv=>whnf
   refine ⟨by omega,?_⟩
   rw [jH (i:=j) (by omega)]
   (try dsimp only[aj]);conv=>whnf
   rw [mM (by omega) (by omega)]
   (try dsimp only[aj]);conv=>whnf
   refine .gen _ _ (aQ.frame [0,1] ib ⟨rfl,rfl,rfl,rfl⟩ ?_ ?_) fun _=>?_
   ·all_goals exact wk
   ·all_goals exact wk
   (try dsimp only[aj]);conv=>whnf
   rw [Sp.eu,show [Sp.mk va ka ra,Sp.mk vb kb rb].map Sp.av = [(Sp.mk va ka ra).av,(Sp.mk vb kb rb).av] from rfl,Sp.eu,Sp.eu]
   refine ⟨_,_,⟨rfl,rfl⟩,?_⟩
   refine ⟨⟨_,_,.refl _ _,?_⟩⟩
   conv=>whnf
   refine ⟨?_,rfl,by simp [nextId],.mk ?_ (by simp [ak])⟩
   ·all_goals exact wk
   ·all_goals exact wk
 ·rw [if_neg h5] at eG
  replace ia:=dO.XF ia
  rw [fV h5] at ia
  subst eG
  rw [fV h5]
  refine aY.mk ⟨[true,true,true,true,true,true,true,true,true,false,true,true,true,false,false,true],by kernel_rfl,?_⟩
  (try dsimp only[aj]);conv=>whnf
  refine ⟨by omega,?_⟩
  rw [jH (i:=j) (by omega)]
  (try dsimp only[aj]);conv=>whnf
  rw [mM (by omega) (by omega)]
  (try dsimp only[aj]);conv=>whnf
  refine .gen _ _ (aQ.frame [0,1] ia ⟨rfl,rfl,rfl,rfl⟩ ?_ ?_) fun _=>?_
  ·all_goals exact wk
  ·all_goals exact wk
  (try dsimp only[aj]);conv=>whnf
  refine ⟨_,_,⟨rfl,rfl⟩,?_⟩
  refine ⟨⟨_,_,.refl _ _,?_⟩⟩
  conv=>whnf
  refine ⟨?_,rfl,by simp [nextId],.mk ?_ (by simp [ak])⟩
  ·all_goals exact wk
  ·all_goals exact wk

theorem Zy {f : Fo} {x : RC} {cs : List Nat} {set : Nat} {total : Int} (h : nI f x) (hc : zO f x (cs.map fun n : Nat=>(n : Int))) (hs : G5 f x set total) (y n : Nat) (ha : Ro cs n < 0) : Dp x cs y n total = true:=by
 have hx : x.st < 2 ^ 63:=Nat.lt_of_lt_of_le h.st (Nat.pow_le_pow_right (by decide) (by have:=h.vars; omega))
 have hn : ∀ s,s ∈ cs -> s &&& n ≠ 0:=fun s hs=>by
  rcases gK (fun c : Nat=>decide (c &&& n = 0)) cs with ⟨_,h5⟩ | ⟨i,hi,h5,_⟩
  ·exact of_decide_eq_false (h5 s hs)
  ·exact absurd ha (by unfold Ro; omega)
 have e : ∀ (l : List Nat) (sum : Int) (tk : Nat),(∀ s,s ∈ l -> s &&& n ≠ 0) -> wC x.cost y n total l sum tk = decide (total <= sum):=by
  intro l
  induction l with
  | nil=>intro sum tk _; rfl
  | cons s l ih =>
    intro sum tk h1
    rw [wC,if_pos (.inl (h1 s (by simp)))]
    exact ih _ _ fun s hs=>h1 s (by simp [hs])
 rw [Dp,e cs _ _ hn,decide_eq_true_eq]
 refine hs.min (x.st &&& n) (fun k hk=>(kV.1 hk).1) ?_
 cases ht : dR f (aJ x.st (x.st &&& n)) with
 | false=>rfl
 | true =>
   obtain ⟨s,hs1,hs2⟩:=hc.cov (aJ x.st (x.st &&& n)) (Nat.lt_of_le_of_lt (kP hx) h.st) (fun k hk=>by rw [lV hx,Bool.and_eq_true] at hk; exact hk.1) ht
   obtain ⟨c,hcm,rfl⟩:=List.mem_map.1 hs1
   refine absurd ?_ (hn c hcm)
   apply Nat.eq_of_testBit_eq
   intro k
   rw [Nat.zero_testBit,Nat.testBit_and]
   cases hk : c.testBit k with
   | false=>rfl
   | true =>
     have h1:=hs2 k (by rw [Int.toNat_natCast]; exact hk)
     rw [lV hx,Bool.and_eq_true,Nat.testBit_and] at h1
     obtain ⟨h1,h2⟩:=h1
     rw [h1] at h2
     cases hb : n.testBit k with
     | false=>rfl
     | true=>rw [hb] at h2; cases h2

structure Ya (f : Fo) (x : RC) (cs : List Nat) (total : Int) (y n k : Nat) (a : Int × Sp × Nat) : Prop where
 err : a.1 = 0 \/ a.1 = 4
 walk : a.1 = 0 -> fG f.vars.toNat a.2.1 (y ||| n) k = (a.2.2,0)
 leaf : a.1 = 0 -> ∀ z,z ∈ oW a.2.1 y n -> EU x cs total z.1 z.2.1 z.2.2 = true

theorem XV {f : Fo} {x : RC} {cs : List Nat} {total : Int} {y n k : Nat} {t : Sp} {k' : Nat} : Ya f x cs total y n k (4,t,k'):=⟨.inr rfl,fun e=>absurd e (show ¬ (4 : Int) = 0 by decide),fun e=>absurd e (show ¬ (4 : Int) = 0 by decide)⟩

theorem JY {f : Fo} {x : RC} {cs : List Nat} {set : Nat} {total : Int} (h : nI f x) (hc : zO f x (cs.map fun n : Nat=>(n : Int))) (hs : G5 f x set total) :
  ∀ (fuel y n k : Nat),y < 2 ^ f.vars.toNat -> n < 2 ^ f.vars.toNat -> Ya f x cs total y n k (jl x cs total fuel y n k):=by
 intro fuel
 have hv:=h.vars
 induction fuel with
 | zero=>intro y n k _ _; exact XV
 | succ fuel ih =>
   intro y n k hy hn
   rw [jl]
   by_cases h1 : 4096 < k + 1
   ·rw [if_pos h1]; exact XV
   rw [if_neg h1]
   by_cases h2 : 0 <= OV cs y
   ·rw [if_pos h2]
    refine ⟨.inl rfl,fun _=>?_,fun _ z hz=>?_⟩
    ·rw [lQ,if_neg h1,if_neg (by simp),if_pos (show ([] : List Sp).length = 0 from rfl)]; rfl
    ·dsimp only at hz
     rw [show oW (.mk 0 [] (OV cs y)) y n = [(y,n,OV cs y)] from rfl] at hz
     obtain rfl:=List.mem_singleton.1 hz
     unfold EU
     rw [if_pos h2,Bool.and_eq_true,decide_eq_true_eq,decide_eq_true_eq]
     rcases gK (fun c : Nat=>decide (aJ c y = 0)) cs with ⟨h5,_⟩ | ⟨i,hi,h5,h6,_⟩
     ·unfold OV at h2; omega
     ·have e : OV cs y = i:=h5
      dsimp only
      rw [e,Int.toNat_natCast,List.getD_eq_getElem?_getD,List.getElem?_eq_getElem hi]
      exact ⟨by omega,of_decide_eq_true h6⟩
   rw [if_neg h2]
   by_cases h3 : Dp x cs y n total = true
   ·rw [if_pos h3]
    refine ⟨.inl rfl,fun _=>?_,fun _ z hz=>?_⟩
    ·rw [lQ,if_neg h1,if_neg (by simp),if_pos (show ([] : List Sp).length = 0 from rfl)]; rfl
    ·dsimp only at hz
     rw [show oW (.mk 0 [] (-1)) y n = [(y,n,-1)] from rfl] at hz
     obtain rfl:=List.mem_singleton.1 hz
     unfold EU
     dsimp only
     rw [if_neg (by decide),Bool.and_eq_true]
     exact ⟨decide_eq_true rfl,h3⟩
   rw [if_neg h3]
   by_cases h4 : Ro cs n < 0
   ·exact absurd (Zy h hc hs y n h4) h3
   rw [if_neg h4]
   obtain ⟨i,hi,ei,hap⟩ : ∃ i,i < cs.length /\ Ro cs n = (i : Nat) /\ cs.getD i 0 &&& n = 0:=by
    rcases gK (fun c : Nat=>decide (c &&& n = 0)) cs with ⟨h5,_⟩ | ⟨i,hi,h5,h6,_⟩
    ·exact absurd h5 (by unfold Ro at h4; omega)
    ·exact ⟨i,hi,h5,by rw [List.getD_eq_getElem?_getD,List.getElem?_eq_getElem hi]; exact of_decide_eq_true h6⟩
   have hcy : ∀ c,c ∈ cs -> aJ c y ≠ 0:=fun c hc=>by
    rcases gK (fun c : Nat=>decide (aJ c y = 0)) cs with ⟨_,h5⟩ | ⟨i,hi,h5,h6,_⟩
    ·exact of_decide_eq_false (h5 c hc)
    ·exact absurd (show 0 <= OV cs y by unfold OV; omega) h2
   have hgd : cs.getD i 0 = cs[i]:=by rw [List.getD_eq_getElem?_getD,List.getElem?_eq_getElem hi]; rfl
   rw [ei,Int.toNat_natCast]
   rw [hgd] at hap ⊢
   have hcm:=List.getElem_mem hi
   have hlt : cs[i] < 2 ^ f.vars.toNat:=by
    have:=(hc.rng _ (List.mem_map.2 ⟨_,hcm,rfl⟩)).2
    rwa [Int.toNat_natCast] at this
   have hw0:=hcy _ hcm
   generalize cs[i] = c at *
   have hc63 : c < 2 ^ 63:=Nat.lt_of_lt_of_le hlt (Nat.pow_le_pow_right (by decide) (by omega))
   obtain ⟨j,ej,hj,hb⟩:=FW hw0 (Nat.lt_of_le_of_lt (kP hc63) hlt) (by omega)
   rw [lV hc63,Bool.and_eq_true] at hb
   rw [ej]
   dsimp only
   rw [Int.toNat_natCast]
   have hjn : n.testBit j = false:=by
    cases hh : n.testBit j with
    | false=>rfl
    | true=>exact absurd ⟨hb.1,hh⟩ (and_zero hap j)
   have hp : (y ||| n).testBit j = false:=by
    rw [Nat.testBit_or,hjn]
    have:=hb.2
    cases hh : y.testBit j with
    | false=>rfl
    | true=>rw [hh] at this; cases this
   have Z5 : 2 ^ j < 2 ^ f.vars.toNat:=Nat.pow_lt_pow_right (by decide) hj
   have p1:=ih y (n ||| 2 ^ j) (k + 1) hy (Nat.or_lt_two_pow hn Z5)
   generalize jl x cs total fuel y (n ||| 2 ^ j) (k + 1) = A at *
   by_cases h5 : A.1 = 0
   ·rw [if_pos h5]
    have p2:=ih (y ||| 2 ^ j) n A.2.2 (Nat.or_lt_two_pow hy Z5) hn
    generalize jl x cs total fuel (y ||| 2 ^ j) n A.2.2 = B at *
    have e1:=p1.walk h5
    rw [show y ||| (n ||| 2 ^ j) = y ||| n ||| 2 ^ j from (Nat.or_assoc ..).symm] at e1
    refine ⟨p2.err,fun e=>?_,fun e z hz=>?_⟩
    ·dsimp only at e ⊢
     have e2:=p2.walk e
     rw [show y ||| 2 ^ j ||| n = y ||| n ||| 2 ^ j by rw [Nat.or_assoc,Nat.or_comm (2 ^ j) n,<- Nat.or_assoc]] at e2
     rw [lQ,if_neg h1,if_neg (by simp),if_neg (by simp),if_neg (by omega),if_neg (by rw [Int.toNat_natCast,hp]; simp),if_neg (by simp),Int.toNat_natCast,jv,e1,if_neg (by simp),jv,e2,if_neg (by simp),uo]
    ·dsimp only at e hz
     rw [show oW (.mk (j : Int) [A.2.1,B.2.1] 0) y n = oW A.2.1 y (n ||| 2 ^ j) ++ oW B.2.1 (y ||| 2 ^ j) n by rw [oW,Int.toNat_natCast]] at hz
     rcases List.mem_append.1 hz with hz | hz
     ·exact p1.leaf h5 z hz
     ·exact p2.leaf e z hz
   ·rw [if_neg h5]
    exact ⟨p1.err,fun e=>absurd e h5,fun e=>absurd e h5⟩

theorem Tn {f : Fo} {x : RC} {cs : List Nat} {set : Nat} {total : Int} (h : nI f x) (hc : zO f x (cs.map fun n : Nat=>(n : Int))) (hs : G5 f x set total) (he : (jl x cs total 4097 0 0 0).1 = 0) :
  OkR f x ⟨set,total,cs.map fun n : Nat=>(n : Int),(jl x cs total 4097 0 0 0).2.1⟩:=by
 have hv:=h.vars
 have hp:=Nat.two_pow_pos f.vars.toNat
 have g:=JY h hc hs 4097 0 0 0 hp hp
 generalize jl x cs total 4097 0 0 0 = G at *
 have hw : fG f.vars.toNat G.2.1 0 0 = (G.2.2,0):=g.walk he
 refine ⟨set,cs,rfl,rfl,by have:=hc.len; rwa [List.length_map] at this,?_,hs.sub,hs.pri.symm,hs.ok,fun s hs=>?_,wV _ _ _ 0 (congrArg Prod.snd hw),g.leaf he⟩
 ·unfold oN
  rw [if_neg (by omega),Int.toNat_natCast]
  exact congrArg Prod.snd hw
 ·have hm : (s : Int) ∈ cs.map fun n : Nat=>(n : Int):=List.mem_map.2 ⟨s,hs,rfl⟩
  have h1:=(hc.rng _ hm).2
  have h2:=hc.cut _ hm
  rw [Int.toNat_natCast] at h1 h2
  exact ⟨h1,h2.1,h2.2⟩

def rpZ : AV:=Yo 0 0 .aV VH.av

def MakQ (f : Fo) (x : RC) (R : AV) : Prop:=R = .dA [rpZ,eL] \/ ∃ r : Rp,R = .dA [r.av,.bH] /\ OkR f x r

theorem YZ (f : Fo) (x : RC) (h : nI f x) (h0 : dR f 0 = false) : dO Tryz.prog 13 [f.av,x.av] [(0,.glob 1 mG)] (fun R H'=>H' = [(0,.glob 1 mG)] /\ MakQ f x R):=by
 have cc:=ru f x h _ (.inr ⟨rfl,h0⟩)
 have cw:=KJ f x h
 have hv:=h.vars
 have XL : 2 ^ f.vars.toNat <= 2 ^ 7:=Nat.pow_le_pow_right (by decide) (by omega)
 have hlen:=h.len
 have hch:=Gq h h0
 generalize (oq f x).best = set at *
 generalize (oq f x).total = total at *
 refine dO.intro lay mixed Tryz.func13 (by kernel_rfl) rfl (by kernel_rfl) rfl fun hok=>?_
 (try dsimp only[aP,aC]);(try dsimp only[aj]);conv=>whnf
 refine .pure _ _ ?_ ⟨rfl,rfl⟩ cc fun _=>?_
 ·exact au _
 (try dsimp only[aj]);conv=>whnf
 refine .oJ _ _ ?_ rfl cw fun R hq _=>?_
 ·exact au _
 obtain rfl | ⟨l,rfl,hl⟩:=hq
 ·(try dsimp only[aj]);conv=>whnf
  refine ⟨_,_,⟨rfl,.inl rfl⟩,?_⟩
  refine ⟨⟨_,_,.refl _ _,?_⟩⟩
  conv=>whnf
  refine ⟨?_,rfl,by simp [nextId],.mk ?_ (by simp [ak])⟩
  ·all_goals exact wk
  ·all_goals exact wk
 replace hl:=BN h hl
 obtain ⟨cs,rfl⟩ : ∃ cs : List Nat,l = cs.map (fun n : Nat=>(n : Int)):=⟨l.map Int.toNat,by
  rw [List.map_map]
  exact (List.map_id' l).symm.trans (List.map_congr_left fun s hs=>by have:=hl.rng s hs; show s = ((s.toNat : Nat) : Int); omega)⟩
 have hcl : cs.length <= 1024:=by have:=hl.len; rwa [List.length_map] at this
 have hcs : ∀ s,s ∈ cs -> s < 16777216:=fun s hs=>by
  have:=(hl.rng (s : Int) (List.mem_map.2 ⟨s,hs,rfl⟩)).2
  omega
 have cg:=Xg x (by omega) h.rng (by have:=h.st; omega) cs hcl hcs set total 4097 0 0 0 (by omega) (by omega) (by omega) (by omega)
 have JQ:=JY h hl hch 4097 0 0 0 (Nat.two_pow_pos _) (Nat.two_pow_pos _)
 have hok:=Tn h hl hch
 generalize jl x cs total 4097 0 0 0 = G at *
 obtain ⟨g1,⟨v,ks,r⟩,k⟩:=G
 dsimp only at cg JQ hok
 replace JQ:=JQ.err
 dsimp only at JQ
 rw [Sp.eu] at cg
 replace cg:=dO.XF cg
 have e : cA cs = iA (cs.map fun n : Nat=>(n : Int)):=by show AV.sl 1 _ _ = AV.sl 1 _ _; rw [List.map_map]; rfl
 unfold grA at cg
 rw [e] at cg
 rcases JQ with rfl | rfl
 ·rw [show rW 0 = .bH from rfl] at cg
  replace hok:=hok rfl
  (try dsimp only[aj]);conv=>whnf
  refine .gen _ _ (aQ.frame [0,4] cg ⟨rfl,rfl,rfl,rfl⟩ ?_ ?_) fun _=>?_
  ·all_goals exact wk
  ·all_goals exact wk
  (try dsimp only[aj]);conv=>whnf
  refine ⟨_,_,⟨rfl,.inr ⟨_,rfl,hok⟩⟩,?_⟩
  rw [Rp.av,Sp.eu]
  refine ⟨⟨_,_,.refl _ _,?_⟩⟩
  conv=>whnf
  refine ⟨?_,rfl,by simp [nextId],.mk ?_ (by simp [ak])⟩
  ·all_goals exact wk
  ·all_goals exact wk
 ·rw [fV (by decide)] at cg
  (try dsimp only[aj]);conv=>whnf
  refine .gen _ _ (aQ.frame [0,4] cg ⟨rfl,rfl,rfl,rfl⟩ ?_ ?_) fun _=>?_
  ·all_goals exact wk
  ·all_goals exact wk
  (try dsimp only[aj]);conv=>whnf
  refine ⟨_,_,⟨rfl,.inl rfl⟩,?_⟩
  refine ⟨⟨_,_,.refl _ _,?_⟩⟩
  conv=>whnf
  refine ⟨?_,rfl,by simp [nextId],.mk ?_ (by simp [ak])⟩
  ·all_goals exact wk
  ·all_goals exact wk

def XJ (w : Int) (x : Nd) : Int:=IntKind.i64.wrap (w + (x.args.length : Int))
def zn (f : Fo) : Prop:=8 < f.vars \/ 16 < f.nodes.length \/ 60 < f.nodes.foldl XJ 0

theorem KR (f : Fo) (b : Bool) (hb : b = true ↔ zn f) : aQ Tryz.prog 19 [f.av] [] (.bool b) []:=by
 refine dO.XF ?_
 refine dO.YA lay mixed Tryz.func19 (by kernel_rfl) rfl (by kernel_rfl) rfl fun hok=>?_
 have hl : f.nodes.length <= 9223372036854775807:=by
  simp [yL,Ok,maxL] at hok
  omega
 (try dsimp only[aP,aC]);(try dsimp only[aj]);conv=>whnf
 refine aN.of <| (aA.inv (.refl _ _) (fun i : Nat=>i <= f.nodes.length) (fun i=>[(9,.int .i64 (i : Int)),(3,.int .i64 ((f.nodes.take i).foldl XJ 0))]) (fun _=>[(0,.box f.av)]) (fun i=>f.nodes.length - i) 0 (by simp) ?_ ?_ ?_)
 ·exact fun _=>rfl
 ·refine ⟨?_,.mk ?_ (by simp [ak])⟩
  ·all_goals exact wk
  ·all_goals exact wk
 rintro i hi _
 (try dsimp only[aj]);conv=>whnf
 refine And.intro (fun g=>?_) (fun g=>?_)
 ·have hlt : i < f.nodes.length:=by simpa using g
  have hst : (f.nodes.take (i + 1)).foldl XJ 0 = XJ ((f.nodes.take i).foldl XJ 0) f.nodes[i]:=iY hlt
  (try dsimp only[aj]);conv=>whnf
  refine iq hlt ?_
  generalize f.nodes[i] = x at *
  generalize (f.nodes.take i).foldl XJ 0 = w at *
  (try dsimp only[aj]);conv=>whnf
  refine ⟨i + 1,hlt,?_,(by omega : f.nodes.length - (i + 1) < f.nodes.length - i)⟩
  rw [hst]
  refine ⟨?_,.mk ?_ (by simp [ak])⟩
  ·repeat' first|exact rfl|exact trivial|exact wR|exact lR _|apply aI
   all_goals first | (rw [wrap64 (by omega) (by omega)]; rfl) | (unfold XJ; rw [List.length_map])
  ·all_goals exact wk
 ·have hk : i = f.nodes.length:=by have : ¬ i < f.nodes.length:=by simpa using g
                                   omega
  subst hk
  rw [List.take_length]
  unfold zn at hb
  generalize f.nodes.foldl XJ 0 = w at *
  (try dsimp only[aj]);conv=>whnf
  refine And.intro (fun h1=>?_) (fun h1=>?_)
  ·(try dsimp only[aj]);conv=>whnf
   refine ⟨_,_,⟨rfl,rfl⟩,?_⟩
   obtain rfl : b = true:=hb.2 (.inl h1)
   refine ⟨⟨_,_,.refl _ _,?_⟩⟩
   conv=>whnf
   refine ⟨?_,rfl,by simp [nextId],.mk ?_ (by simp [ak])⟩
   ·all_goals exact wk
   ·all_goals exact wk
  ·(try dsimp only[aj]);conv=>whnf
   refine And.intro (fun h2=>?_) (fun h2=>?_)
   ·(try dsimp only[aj]);conv=>whnf
    refine ⟨_,_,⟨rfl,rfl⟩,?_⟩
    obtain rfl : b = true:=hb.2 (.inr (.inl (by simp at h2; omega)))
    refine ⟨⟨_,_,.refl _ _,?_⟩⟩
    conv=>whnf
    refine ⟨?_,rfl,by simp [nextId],.mk ?_ (by simp [ak])⟩
    ·all_goals exact wk
    ·all_goals exact wk
   ·(try dsimp only[aj]);conv=>whnf
    refine ⟨_,_,⟨rfl,rfl⟩,?_⟩
    have hb3 : (60 < w) ↔ b = true:=⟨fun h=>hb.2 (.inr (.inr h)),fun h=>(hb.1 h).elim (fun h=>absurd h h1) fun h=>h.elim (fun h=>absurd h (by simp at h2; omega)) id⟩
    refine ⟨⟨_,_,.refl _ _,?_⟩⟩
    conv=>whnf
    refine ⟨?_,rfl,by simp [nextId],.mk ?_ (by simp [ak])⟩
    ·repeat' first|exact rfl|exact trivial|exact wR|exact lR _|apply aI
     all_goals exact hb3
    ·all_goals exact wk

structure Vo (f : Fo) : Prop where
 light : ¬ zn f
 ok : nZ f = 0

theorem Vo.rdy {f : Fo} (h : Vo f) : RdyF f:=⟨Uc h.ok,by have:=h.light; unfold zn at this; omega,by have:=h.light; unfold zn at this; omega⟩

theorem DT (f : Fo) (R : AV) (hR : (R = .tt /\ Vo f) \/ (R = .ff /\ ¬ Vo f)) : aQ Tryz.prog 5 [f.av] [] R []:=by
 have cc:=Ny f
 by_cases hh : zn f
 ·have ch:=(KR f true (iff_of_true rfl hh)).weak (R':=.tt) (by show true = true; rfl)
  obtain rfl : R = .ff:=hR.elim (fun h=>absurd hh h.2.light) fun h=>h.1
  refine aQ.intro lay mixed Tryz.func5 (by kernel_rfl) rfl (by kernel_rfl) rfl fun hok=>?_
  (try dsimp only[aP,aC]);(try dsimp only[aj]);conv=>whnf
  refine .pure _ _ ?_ ⟨rfl,rfl⟩ ch fun _=>?_
  ·exact au _
  (try dsimp only[aj]);conv=>whnf
  refine ⟨⟨_,_,.refl _ _,?_⟩⟩
  conv=>whnf
  refine ⟨?_,rfl,by simp [nextId],.mk ?_ (by simp [ak])⟩
  ·all_goals exact wk
  ·all_goals exact wk
 ·have ch:=(KR f false (iff_of_false Bool.false_ne_true hh)).weak (R':=.ff) (by show false = false; rfl)
  refine aQ.intro lay mixed Tryz.func5 (by kernel_rfl) rfl (by kernel_rfl) rfl fun hok=>?_
  (try dsimp only[aP,aC]);(try dsimp only[aj]);conv=>whnf
  refine .pure _ _ ?_ ⟨rfl,rfl⟩ ch fun _=>?_
  ·exact au _
  (try dsimp only[aj]);conv=>whnf
  refine .pure _ _ ?_ ⟨rfl,rfl⟩ cc fun _=>?_
  ·exact au _
  (try dsimp only[aj]);conv=>whnf
  by_cases h0 : nZ f = 0
  ·obtain rfl : R = .tt:=hR.elim (fun h=>h.1) fun h=>absurd ⟨hh,h0⟩ h.2
   refine ⟨⟨_,_,.refl _ _,?_⟩⟩
   conv=>whnf
   refine ⟨?_,rfl,by simp [nextId],.mk ?_ (by simp [ak])⟩
   ·repeat' first|exact rfl|exact trivial|exact wR|exact lR _|apply aI
    all_goals (show nZ f = 0; exact h0)
   ·all_goals exact wk
  ·obtain rfl : R = .ff:=hR.elim (fun h=>absurd h.2.ok h0) fun h=>h.1
   refine ⟨⟨_,_,.refl _ _,?_⟩⟩
   conv=>whnf
   refine ⟨?_,rfl,by simp [nextId],.mk ?_ (by simp [ak])⟩
   ·repeat' first|exact rfl|exact trivial|exact wR|exact lR _|apply aI
    all_goals (show ¬ nZ f = 0; exact h0)
   ·all_goals exact wk

mutual
def RI : Sp -> Int -> Bool
 | .mk _ ks _,d=>if d < 0 then false else if 3 < ks.length then false else Zd ks (d - 1)
def Zd : List Sp -> Int -> Bool
 | [],_=>true
 | t :: l,d=>RI t d && Zd l d
end

theorem Sl (v : Int) (ks : List Sp) (r d : Int) : RI (.mk v ks r) d = if d < 0 then false else if 3 < ks.length then false else Zd ks (d - 1):=by simp only [RI]

theorem Ot : ∀ (l : List Sp) (d : Int),Zd l d = l.all fun t=>RI t d
 | [],d=>by simp only [Zd,List.all_nil]
 | t :: l,d=>by simp only [Zd,List.all_cons]; rw [Ot l d]

theorem QX : ∀ (n : Nat) (t : Sp) (d : Int),d + 1 = n -> n <= 9 -> aQ Tryz.prog 7 [t.av,.int .i64 d] [] (.bool (RI t d)) []:=by
 intro n
 induction n with
 | zero =>
   rintro ⟨v,ks,r⟩ d hd hn
   rw [Sl,if_pos (by omega),Sp.eu]
   refine aQ.intro lay mixed Tryz.func7 (by kernel_rfl) rfl (by kernel_rfl) rfl fun hok=>?_
   (try dsimp only[aP,aC]);(try dsimp only[aj]);conv=>whnf
   refine bY (by omega) ?_
   (try dsimp only[aj]);conv=>whnf
   refine ⟨⟨_,_,.refl _ _,?_⟩⟩
   conv=>whnf
   refine ⟨?_,rfl,by simp [nextId],.mk ?_ (by simp [ak])⟩
   ·all_goals exact wk
   ·all_goals exact wk
 | succ n ih =>
   rintro ⟨v,ks,r⟩ d hd hn
   rw [Sl,if_neg (by omega),Ot,Sp.eu]
   generalize hB : (if 3 < ks.length then false else ks.all fun t=>RI t (d - 1)) = B
   refine aQ.intro lay mixed Tryz.func7 (by kernel_rfl) rfl (by kernel_rfl) rfl fun hok=>?_
   (try dsimp only[aP,aC]);(try dsimp only[aj]);conv=>whnf
   refine bN (by omega) ?_
   (try dsimp only[aj]);conv=>whnf
   refine And.intro (fun g=>?_) (fun g=>?_)
   ·rw [if_pos (by simp at g; omega)] at hB
    subst hB
    (try dsimp only[aj]);conv=>whnf
    refine ⟨⟨_,_,.refl _ _,?_⟩⟩
    conv=>whnf
    refine ⟨?_,rfl,by simp [nextId],.mk ?_ (by simp [ak])⟩
    ·all_goals exact wk
    ·all_goals exact wk
   have hk3 : ks.length <= 3:=by simp at g; omega
   rw [if_neg (by omega)] at hB
   (try dsimp only[aj]);conv=>whnf
   refine aN.of <| (aA.inv (.refl _ _) (fun i : Nat=>i <= ks.length /\ (ks.take i).all (fun t=>RI t (d - 1)) = true) (fun i=>[(18,.int .i64 (i : Int))]) (fun _=>[(0,.box (.ag [.int .i64 v,.sl 3 (ks.map Sp.av) .no,.int .i64 r]))]) (fun i=>ks.length - i) 0 ⟨Nat.zero_le _,by simp⟩ ?_ ?_ ?_)
   ·exact fun _=>rfl
   ·refine ⟨?_,.mk ?_ (by simp [ak])⟩
    ·all_goals exact wk
    ·all_goals exact wk
   rintro i ⟨hi,hall⟩ _
   (try dsimp only[aj]);conv=>whnf
   refine And.intro (fun g1=>?_) (fun g1=>?_)
   ·have hlt : i < ks.length:=by simpa using g1
    have hst : (ks.take (i + 1)).all (fun t=>RI t (d - 1)) = RI ks[i] (d - 1):=by
     rw [List.take_add_one,List.getElem?_eq_getElem hlt,List.all_append,hall]; simp
    have hin : RI ks[i] (d - 1) = false -> B = false:=fun h=>by
     rw [<- hB,List.all_eq_false]
     exact ⟨ks[i],List.getElem_mem hlt,by rw [h]; exact Bool.false_ne_true⟩
    have ci:=ih ks[i] (d - 1) (by omega) (by omega)
    (try dsimp only[aj]);conv=>whnf
    refine iq hlt ?_
    generalize ks[i] = t at *
    obtain ⟨v2,k2,r2⟩:=t
    rw [Sp.eu] at ci ⊢
    generalize RI (.mk v2 k2 r2) (d - 1) = b at *
    (try dsimp only[aj]);conv=>whnf
    refine zA ?_;conv=>whnf
    refine .pure _ _ ?_ ⟨rfl,rfl⟩ ci fun _=>?_
    ·all_goals exact wk
    (try dsimp only[aj]);conv=>whnf
    refine And.intro (fun hb=>?_) (fun hb=>?_)
    ·obtain rfl : B = false:=hin (by simpa using hb)
     (try dsimp only[aj]);conv=>whnf
     refine ⟨⟨_,_,.refl _ _,?_⟩⟩
     conv=>whnf
     refine ⟨?_,rfl,by simp [nextId],.mk ?_ (by simp [ak])⟩
     ·all_goals exact wk
     ·all_goals exact wk
    ·(try dsimp only[aj]);conv=>whnf
     refine zA ?_;conv=>whnf
     refine ⟨i + 1,?_,?_,?_⟩
     ·exact ⟨hlt,by rw [hst]; simpa using hb⟩
     ·refine ⟨?_,.mk ?_ (by simp [ak])⟩
      ·all_goals exact wk
      ·all_goals exact wk
     ·omega
   ·have hk : i = ks.length:=by simp at g1; omega
    subst hk
    rw [List.take_length] at hall
    obtain rfl : B = true:=hB.symm.trans hall
    (try dsimp only[aj]);conv=>whnf
    refine ⟨⟨_,_,.refl _ _,?_⟩⟩
    conv=>whnf
    refine ⟨?_,rfl,by simp [nextId],.mk ?_ (by simp [ak])⟩
    ·all_goals exact wk
    ·all_goals exact wk

def oD (f : Fo) (x : RC) (s : Nat) : Prop:=aJ s x.st = 0 /\ dR f (aJ x.st s) = false

def wS (f : Fo) (x : RC) (k : Nat) (m : Int) : Prop:=(m = -1 /\ ∀ s,s < k -> ¬ oD f x s) \/ (0 <= m /\ (∃ s,s < k /\ oD f x s /\ m = iF x.cost s) /\ ∀ s,s < k -> oD f x s -> m <= iF x.cost s)

theorem wS.zero {f : Fo} {x : RC} : wS f x 0 (-1):=.inl ⟨rfl,fun _ h=>absurd h (Nat.not_lt_zero _)⟩

theorem wS.skip {f : Fo} {x : RC} {k : Nat} {m : Int} (h : wS f x k m) (hv : ¬ oD f x k) : wS f x (k + 1) m:=by
 rcases h with ⟨h1,h2⟩ | ⟨h1,h2,h3⟩
 ·refine .inl ⟨h1,fun s hs=>?_⟩
  rcases Nat.lt_or_ge s k with g | g
  ·exact h2 s g
  ·obtain rfl : s = k:=by omega
   exact hv
 ·obtain ⟨s0,g0,g1,g2⟩:=h2
  refine .inr ⟨h1,⟨s0,Nat.lt_succ_of_lt g0,g1,g2⟩,fun s hs=>?_⟩
  rcases Nat.lt_or_ge s k with g | g
  ·exact h3 s g
  ·obtain rfl : s = k:=by omega
   exact fun h=>absurd h hv

theorem wS.keep {f : Fo} {x : RC} {k : Nat} {m : Int} (h : wS f x k m) (h0 : ¬ m < 0) (hk : ¬ iF x.cost k < m) : wS f x (k + 1) m:=by
 rcases h with ⟨h1,h2⟩ | ⟨h1,h2,h3⟩
 ·omega
 ·obtain ⟨s0,g0,g1,g2⟩:=h2
  refine .inr ⟨h1,⟨s0,Nat.lt_succ_of_lt g0,g1,g2⟩,fun s hs=>?_⟩
  rcases Nat.lt_or_ge s k with g | g
  ·exact h3 s g
  ·obtain rfl : s = k:=by omega
   exact fun _=>by omega

theorem wS.less {f : Fo} {x : RC} (hx : ∀ c,c ∈ x.cost -> 0 <= c /\ c <= 1048576) {k : Nat} {m : Int} (h : wS f x k m) (hv : oD f x k) (hk : m < 0 \/ iF x.cost k < m) : wS f x (k + 1) (iF x.cost k):=by
 refine .inr ⟨(kN hx k _).1,⟨k,Nat.lt_succ_self k,hv,rfl⟩,fun s hs hvs=>?_⟩
 rcases Nat.lt_or_ge s k with g | g
 ·rcases h with ⟨h1,h2⟩ | ⟨h1,h2,h3⟩
  ·exact absurd hvs (h2 s g)
  ·have:=h3 s g hvs; omega
 ·obtain rfl : s = k:=by omega
  exact Int.le_refl _

theorem oD.sub {f : Fo} {x : RC} {s : Nat} (hs : s < 2 ^ 63) (h : oD f x s) : iR s x.st:=fun _ hi=>y5 hs h.1 hi

theorem Tq {f : Fo} {x : RC} (h : nI f x) (h0 : dR f 0 = true) {m : Int} (hm : wS f x (2 ^ f.vars.toNat) m) : m = -1:=by
 rcases hm with ⟨h1,_⟩ | ⟨_,⟨s,_,h2,_⟩,_⟩
 ·exact h1
 ·have:=Qo h h0 s
  rw [h2.2] at this; cases this

theorem FV {f : Fo} {x : RC} (h : nI f x) {m : Int} (hm : wS f x (2 ^ f.vars.toNat) m) {set : Nat} {total : Int} (hc : G5 f x set total) : total = m /\ 0 <= m:=by
 have hst : x.st < 2 ^ 63:=Nat.lt_of_lt_of_le h.st (Nat.pow_le_pow_right (by decide) (by have:=h.vars; omega))
 have hlt : set < 2 ^ f.vars.toNat:=hc.sub.lt h.st
 have ZT : set < 2 ^ 63:=hc.sub.lt hst
 have hv : oD f x set:=⟨kH ZT hc.sub,hc.ok⟩
 rcases hm with ⟨_,h2⟩ | ⟨h1,⟨s,hs,h2,h3⟩,h4⟩
 ·exact absurd hv (h2 _ hlt)
 ·refine ⟨?_,h1⟩
  have g1:=h4 _ hlt hv
  have hp:=hc.pri
  have g2:=hc.min s (h2.sub (Nat.lt_of_lt_of_le hs (Nat.pow_le_pow_right (by decide) (by have:=h.vars; omega)))) h2.2
  omega

theorem DZ (f : Fo) (xs : Int) (cost : List Int) (r : Rp) : dO Tryz.prog 3 [f.av,.ag [.int .i64 xs,iA cost],r.av] [(0,.glob 1 mG)] (fun R H'=>R = .tt /\ H' = [(0,.glob 1 mG)]):=by
 have cl:=fun b h=>DT f b h
 obtain ⟨set,total,cuts,⟨v,ks,rr⟩⟩:=r
 rw [Rp.av,Sp.eu]
 refine dO.lD (.r 1 (.f [1,2,3] .n)) lay mixed Tryz.func3 (by kernel_rfl) rfl (by kernel_rfl) rfl fun hok=>?_
 (try dsimp only[aP,aC]);(try dsimp only[aj]);conv=>whnf
 refine ⟨⟨rfl,rfl⟩,?_⟩
 (try dsimp only[aj]);conv=>whnf
 refine ⟨⟨rfl,rfl⟩,?_⟩
 (try dsimp only[aj]);conv=>whnf
 refine ⟨⟨rfl,rfl⟩,?_⟩
 (try dsimp only[aj]);conv=>whnf
 refine aY.auto (by kernel_rfl) ?_;conv=>whnf
 refine dV.pure _ _ ?_ ⟨rfl,rfl⟩ kU ?_
 ·exact au _
 (try dsimp only[aj]);conv=>whnf
 by_cases hr : Vo f
 case neg =>
  have cr:=DT f .ff (.inr ⟨rfl,hr⟩)
  refine dV.pure _ _ ?_ ⟨rfl,rfl⟩ cr ?_
  ·exact au _
  (try dsimp only[aj]);conv=>whnf
  refine .pure _ _ ?_ ⟨rfl,rfl⟩ kU fun _=>?_
  ·exact au _
  (try dsimp only[aj]);conv=>whnf
  refine ⟨_,_,⟨rfl,rfl⟩,?_⟩
  refine ⟨⟨_,_,.refl _ _,?_⟩⟩
  conv=>whnf
  refine ⟨?_,rfl,by simp [nextId],.mk ?_ (by simp [ak])⟩
  ·all_goals exact wk
  ·all_goals exact wk
 refine dV.pure _ _ ?_ ⟨rfl,rfl⟩ (DT f .tt (.inl ⟨rfl,hr⟩)) ?_
 ·exact au _
 have hF:=hr.rdy
 (try dsimp only[aj]);conv=>whnf
 refine And.intro (fun g=>?_) (fun g=>?_)
 ·(try dsimp only[aj]);conv=>whnf
  refine .pure _ _ ?_ ⟨rfl,rfl⟩ kU fun _=>?_
  ·exact au _
  (try dsimp only[aj]);conv=>whnf
  refine ⟨_,_,⟨rfl,rfl⟩,?_⟩
  refine ⟨⟨_,_,.refl _ _,?_⟩⟩
  conv=>whnf
  refine ⟨?_,rfl,by simp [nextId],.mk ?_ (by simp [ak])⟩
  ·all_goals exact wk
  ·all_goals exact wk
 (try dsimp only[aj]);conv=>whnf
 by_cases hs : zZ f
 case neg =>
  refine dV.pure _ _ ?_ ⟨rfl,rfl⟩ (Pg f hF.ok .ff (.inr ⟨rfl,hs⟩)) ?_
  ·exact au _
  (try dsimp only[aj]);conv=>whnf
  refine .pure _ _ ?_ ⟨rfl,rfl⟩ kU fun _=>?_
  ·exact au _
  (try dsimp only[aj]);conv=>whnf
  refine ⟨_,_,⟨rfl,rfl⟩,?_⟩
  refine ⟨⟨_,_,.refl _ _,?_⟩⟩
  conv=>whnf
  refine ⟨?_,rfl,by simp [nextId],.mk ?_ (by simp [ak])⟩
  ·all_goals exact wk
  ·all_goals exact wk
 refine dV.pure _ _ ?_ ⟨rfl,rfl⟩ (Pg f hF.ok .tt (.inl ⟨rfl,hs⟩)) ?_
 ·exact au _
 have hvars:=hF.ok.vars
 have JO:=BZ hF.ok
 have hp1 : 1 <= 2 ^ f.vars.toNat:=Nat.one_le_two_pow
 have XL : 2 ^ f.vars.toNat <= 2 ^ 7:=Nat.pow_le_pow_right (by decide) (by omega)
 (try dsimp only[aj]);conv=>whnf
 refine And.intro (fun g1=>?_) (fun g1=>?_)
 ·(try dsimp only[aj]);conv=>whnf
  refine .pure _ _ ?_ ⟨rfl,rfl⟩ kU fun _=>?_
  ·exact au _
  (try dsimp only[aj]);conv=>whnf
  refine ⟨_,_,⟨rfl,rfl⟩,?_⟩
  refine ⟨⟨_,_,.refl _ _,?_⟩⟩
  conv=>whnf
  refine ⟨?_,rfl,by simp [nextId],.mk ?_ (by simp [ak])⟩
  ·all_goals exact wk
  ·all_goals exact wk
 (try dsimp only[aj]);conv=>whnf
 refine And.intro (fun g2=>?_) (fun g2=>?_)
 ·(try dsimp only[aj]);conv=>whnf
  refine .pure _ _ ?_ ⟨rfl,rfl⟩ kU fun _=>?_
  ·exact au _
  (try dsimp only[aj]);conv=>whnf
  refine ⟨_,_,⟨rfl,rfl⟩,?_⟩
  refine ⟨⟨_,_,.refl _ _,?_⟩⟩
  conv=>whnf
  refine ⟨?_,rfl,by simp [nextId],.mk ?_ (by simp [ak])⟩
  ·all_goals exact wk
  ·all_goals exact wk
 (try dsimp only[aj]);conv=>whnf
 refine ⟨by omega,?_⟩
 rw [JO]
 (try dsimp only[aj]);conv=>whnf
 refine And.intro (fun g3=>?_) (fun g3=>?_)
 ·(try dsimp only[aj]);conv=>whnf
  refine .pure _ _ ?_ ⟨rfl,rfl⟩ kU fun _=>?_
  ·exact au _
  (try dsimp only[aj]);conv=>whnf
  refine ⟨_,_,⟨rfl,rfl⟩,?_⟩
  refine ⟨⟨_,_,.refl _ _,?_⟩⟩
  conv=>whnf
  refine ⟨?_,rfl,by simp [nextId],.mk ?_ (by simp [ak])⟩
  ·all_goals exact wk
  ·all_goals exact wk
 (try dsimp only[aj]);conv=>whnf
 refine And.intro (fun g4=>?_) (fun g4=>?_)
 ·(try dsimp only[aj]);conv=>whnf
  refine .pure _ _ ?_ ⟨rfl,rfl⟩ kU fun _=>?_
  ·exact au _
  (try dsimp only[aj]);conv=>whnf
  refine ⟨_,_,⟨rfl,rfl⟩,?_⟩
  refine ⟨⟨_,_,.refl _ _,?_⟩⟩
  conv=>whnf
  refine ⟨?_,rfl,by simp [nextId],.mk ?_ (by simp [ak])⟩
  ·all_goals exact wk
  ·all_goals exact wk
 have csh:=QX 9 (.mk v ks rr) 8 (by decide) (by decide)
 rw [Sp.eu] at csh
 generalize RI (.mk v ks rr) 8 = b at csh
 (try dsimp only[aj]);conv=>whnf
 refine dV.pure _ _ ?_ ⟨rfl,rfl⟩ csh ?_
 ·exact au _
 (try dsimp only[aj]);conv=>whnf
 refine And.intro (fun g5=>?_) (fun g5=>?_)
 ·(try dsimp only[aj]);conv=>whnf
  refine .pure _ _ ?_ ⟨rfl,rfl⟩ kU fun _=>?_
  ·exact au _
  (try dsimp only[aj]);conv=>whnf
  refine ⟨_,_,⟨rfl,rfl⟩,?_⟩
  refine ⟨⟨_,_,.refl _ _,?_⟩⟩
  conv=>whnf
  refine ⟨?_,rfl,by simp [nextId],.mk ?_ (by simp [ak])⟩
  ·all_goals exact wk
  ·all_goals exact wk
 obtain ⟨st,rfl⟩ : ∃ st : Nat,xs = st:=⟨xs.toNat,by omega⟩
 have hstl : st < 2 ^ f.vars.toNat:=by omega
 have hcl : cost.length = f.vars.toNat:=by simp at g1; omega
 (try dsimp only[aj]);conv=>whnf
 refine aN.of <| (aA.inv (.refl _ _) (fun i : Nat=>i <= cost.length /\ ∀ c,c ∈ cost.take i -> 0 <= c /\ c <= 1048576) (fun i=>[(83,.int .i64 (i : Int))]) (fun _=>[(3,.gone),(2,.gone),(1,.gone),(0,.glob 1 mG)]) (fun i=>cost.length - i) 0 ⟨Nat.zero_le _,by simp⟩ ?_ ?_ ?_)
 ·exact fun _=>rfl
 ·refine ⟨?_,.mk ?_ (by simp [ak])⟩
  ·all_goals exact wk
  ·all_goals exact wk
 rintro i ⟨hi,hall⟩ _
 (try dsimp only[aj]);conv=>whnf
 refine And.intro (fun k1=>?_) (fun k1=>?_)
 ·have hlt : i < cost.length:=by simp at k1; omega
  have htk : cost.take (i + 1) = cost.take i ++ [cost[i]]:=by rw [List.take_add_one,List.getElem?_eq_getElem hlt]; rfl
  (try dsimp only[aj]);conv=>whnf
  refine iq hlt ?_
  generalize cost[i] = c at *
  (try dsimp only[aj]);conv=>whnf
  refine And.intro (fun k2=>?_) (fun k2=>?_)
  ·(try dsimp only[aj]);conv=>whnf
   refine ⟨_,_,⟨rfl,rfl⟩,?_⟩
   refine ⟨⟨_,_,.refl _ _,?_⟩⟩
   conv=>whnf
   refine ⟨?_,rfl,by simp [nextId],.mk ?_ (by simp [ak])⟩
   ·all_goals exact wk
   ·all_goals exact wk
  (try dsimp only[aj]);conv=>whnf
  refine And.intro (fun k3=>?_) (fun k3=>?_)
  ·(try dsimp only[aj]);conv=>whnf
   refine ⟨_,_,⟨rfl,rfl⟩,?_⟩
   refine ⟨⟨_,_,.refl _ _,?_⟩⟩
   conv=>whnf
   refine ⟨?_,rfl,by simp [nextId],.mk ?_ (by simp [ak])⟩
   ·all_goals exact wk
   ·all_goals exact wk
  (try dsimp only[aj]);conv=>whnf
  refine zA ?_;conv=>whnf
  refine ⟨i + 1,?_,?_,?_⟩
  ·refine ⟨hlt,fun c' hc=>?_⟩
   rw [htk] at hc
   rcases List.mem_append.1 hc with hc | hc
   ·exact hall c' hc
   ·rw [List.mem_singleton.1 hc]; omega
  ·refine ⟨?_,.mk ?_ (by simp [ak])⟩
   ·all_goals exact wk
   ·all_goals exact wk
  ·omega
 have hk : i = cost.length:=by simp at k1; omega
 subst hk
 rw [List.take_length] at hall
 clear hi k1
 obtain ⟨X,hX⟩ : ∃ X : RC,X = ⟨st,cost⟩:=⟨_,rfl⟩
 have JX : nI f X:=by subst hX; exact ⟨hF.ok,by omega,hF.len,hs,hstl,hcl,hall⟩
 have XT : X.st = st:=by rw [hX]
 have hXc : X.cost = cost:=by rw [hX]
 (try dsimp only[aj]);conv=>whnf
 refine ⟨by omega,?_⟩
 rw [JO]
 (try dsimp only[aj]);conv=>whnf
 refine aN.of <| (aA.inv (.refl _ _) (fun z : Nat × Int=>z.1 <= 2 ^ f.vars.toNat /\ wS f X z.1 z.2) (fun z=>[(97,.int .i64 (z.1 : Int)),(9,.int .i64 z.2)]) (fun _=>[(3,.gone),(2,.gone),(1,.gone),(0,.glob 1 mG)]) (fun z=>2 ^ f.vars.toNat - z.1) (0,-1) ⟨Nat.zero_le _,wS.zero⟩ ?_ ?_ ?_)
 ·exact fun _=>rfl
 ·refine ⟨?_,.mk ?_ (by simp [ak])⟩
  ·all_goals exact wk
  ·all_goals exact wk
 rintro ⟨s,m⟩ ⟨hi,hm⟩ _
 dsimp only at hi hm
 (try dsimp only[aj]);conv=>whnf
 refine And.intro (fun k1=>?_) (fun k1=>?_)
 ·have hlt : s < 2 ^ f.vars.toNat:=by omega
  have hp:=kN hall s cost.length
  have hmr : -1 <= m /\ m <= 1048576 * 8:=by
   rcases hm with ⟨h1,_⟩ | ⟨h1,⟨s0,_,_,h2⟩,_⟩
   ·omega
   ·have:=kN JX.rng s0 X.cost.length
    unfold iF at h2; rw [hXc] at h2 this; omega
  (try dsimp only[aj]);conv=>whnf
  rw [aU (by omega)]
  (try dsimp only[aj]);conv=>whnf
  refine And.intro (fun k2=>?_) (fun k2=>?_)
  ·have ZO : ¬ oD f X s:=fun hv=>by have:=hv.1; rw [XT] at this; omega
   (try dsimp only[aj]);conv=>whnf
   refine zA ?_;conv=>whnf
   refine ⟨(s + 1,m),?_,?_,?_⟩
   ·exact ⟨hlt,hm.skip ZO⟩
   ·refine ⟨?_,.mk ?_ (by simp [ak])⟩
    ·all_goals exact wk
    ·all_goals exact wk
   ·dsimp only; omega
  have hn0 : aJ s st = 0:=by omega
  have hle : aJ st s <= st:=kP (by omega)
  have cv:=kT f hF.ok (aJ st s) (by omega)
  rw [show (valsF f.vars.toNat (aJ st s) f.nodes).getD f.top.toNat false = dR f (aJ st s) from rfl] at cv
  have hval : oD f X s ↔ dR f (aJ st s) = false:=⟨fun h=>by have:=h.2; rwa [XT] at this,fun h=>⟨by rw [XT]; exact hn0,by rw [XT]; exact h⟩⟩
  generalize dR f (aJ st s) = tb at *
  (try dsimp only[aj]);conv=>whnf
  rw [aU (by omega)]
  refine .pure _ _ ?_ ⟨rfl,rfl⟩ cv fun _=>?_
  ·exact au _
  (try dsimp only[aj]);conv=>whnf
  refine aN.of <| (aA.inv (.refl _ _) (fun j : Nat=>j <= f.vars.toNat) (fun j=>[(118,.int .i64 (j : Int)),(13,.int .i64 (mJ cost s j))]) (fun _=>[(3,.gone),(2,.gone),(1,.gone),(0,.glob 1 mG)]) (fun j=>f.vars.toNat - j) 0 (Nat.zero_le _) ?_ ?_ ?_)
  ·exact fun _=>rfl
  ·refine ⟨?_,.mk ?_ (by simp [ak])⟩
   ·all_goals exact wk
   ·all_goals exact wk
  intro j hj _
  (try dsimp only[aj]);conv=>whnf
  refine And.intro (fun q1=>?_) (fun q1=>?_)
  ·have hjl : j < cost.length:=by omega
   have hst2:=iI cost s j
   have hpj:=kN hall s j
   rw [show cost.getD j 0 = cost[j] by rw [List.getD_eq_getElem?_getD,List.getElem?_eq_getElem hjl]; rfl] at hst2
   have hcj:=hall _ (List.getElem_mem hjl)
   have hbt:=ou (a:=s) (i:=j) (by omega) (by omega)
   (try dsimp only[aj]);conv=>whnf
   refine aY.auto (by kernel_rfl) ?_;conv=>whnf
   refine iq hjl ?_
   generalize cost[j] = c at *
   generalize mJ cost s j = p at *
   (try dsimp only[aj]);conv=>whnf
   refine ⟨by omega,?_⟩
   (try dsimp only[aj]);conv=>whnf
   rw [hbt]
   by_cases hb : s.testBit j = true
   ·rw [if_pos hb] at hst2 ⊢
    (try dsimp only[aj]);conv=>whnf
    rw [Int.mul_one]
    refine zA ?_;conv=>whnf
    refine zA ?_;conv=>whnf
    (try dsimp only[aj]);conv=>whnf
    refine zA ?_;conv=>whnf
    refine ⟨j + 1,?_,?_,?_⟩
    ·omega
    ·rw [hst2]
     refine ⟨?_,.mk ?_ (by simp [ak])⟩
     ·all_goals exact wk
     ·all_goals exact wk
    ·omega
   ·rw [if_neg hb] at hst2 ⊢
    (try dsimp only[aj]);conv=>whnf
    rw [Int.mul_zero]
    refine zA ?_;conv=>whnf
    refine zA ?_;conv=>whnf
    (try dsimp only[aj]);conv=>whnf
    refine zA ?_;conv=>whnf
    refine ⟨j + 1,?_,?_,?_⟩
    ·omega
    ·rw [hst2]
     refine ⟨?_,.mk ?_ (by simp [ak])⟩
     ·repeat' first|exact rfl|exact trivial|exact wR|exact lR _|apply aI
      all_goals exact Int.add_zero _
     ·all_goals exact wk
    ·omega
  ·have hk : j = f.vars.toNat:=by omega
   subst hk
   have hpe : iF X.cost s = mJ cost s f.vars.toNat:=by unfold iF; rw [hXc,hcl]
   (try dsimp only[aj]);conv=>whnf
   refine And.intro (fun t1=>?_) (fun t1=>?_)
   ·have hv : oD f X s:=hval.2 (by simpa using t1)
    (try dsimp only[aj]);conv=>whnf
    refine And.intro (fun t2=>?_) (fun t2=>?_)
    ·(try dsimp only[aj]);conv=>whnf
     refine zA ?_;conv=>whnf
     refine ⟨(s + 1,iF X.cost s),?_,?_,?_⟩
     ·exact ⟨hlt,hm.less JX.rng hv (.inl t2)⟩
     ·rw [hpe]
      refine ⟨?_,.mk ?_ (by simp [ak])⟩
      ·all_goals exact wk
      ·all_goals exact wk
     ·dsimp only; omega
    (try dsimp only[aj]);conv=>whnf
    refine And.intro (fun t3=>?_) (fun t3=>?_)
    ·(try dsimp only[aj]);conv=>whnf
     refine zA ?_;conv=>whnf
     refine ⟨(s + 1,iF X.cost s),?_,?_,?_⟩
     ·exact ⟨hlt,hm.less JX.rng hv (.inr (by rw [hpe]; exact t3))⟩
     ·rw [hpe]
      refine ⟨?_,.mk ?_ (by simp [ak])⟩
      ·all_goals exact wk
      ·all_goals exact wk
     ·dsimp only; omega
    ·(try dsimp only[aj]);conv=>whnf
     refine zA ?_;conv=>whnf
     refine ⟨(s + 1,m),?_,?_,?_⟩
     ·exact ⟨hlt,hm.keep t2 (by rw [hpe]; exact t3)⟩
     ·refine ⟨?_,.mk ?_ (by simp [ak])⟩
      ·all_goals exact wk
      ·all_goals exact wk
     ·dsimp only; omega
   ·(try dsimp only[aj]);conv=>whnf
    refine zA ?_;conv=>whnf
    refine ⟨(s + 1,m),?_,?_,?_⟩
    ·exact ⟨hlt,hm.skip fun hv=>by have:=hval.1 hv; rw [this] at t1; cases t1⟩
    ·refine ⟨?_,.mk ?_ (by simp [ak])⟩
     ·all_goals exact wk
     ·all_goals exact wk
    ·dsimp only; omega
 have hk : s = 2 ^ f.vars.toNat:=by omega
 subst hk
 clear hi k1
 cases h0 : dR f 0 with
 | true =>
   obtain rfl:=Tq JX h0 hm
   have cc:=ru f X JX _ (.inl ⟨rfl,h0⟩)
   have ci : aQ Tryz.prog 10 [YJ,.int .i64 17] [] .tt []:=by
    have:=(c_Is 17 17).weak (R':=.tt) (by show decide _ = true; decide)
    rwa [fV (by decide)] at this
   subst hX
   (try dsimp only[aj]);conv=>whnf
   refine .pure _ _ ?_ ⟨rfl,rfl⟩ cc fun _=>?_
   ·exact au _
   (try dsimp only[aj]);conv=>whnf
   refine bY (by decide) ?_
   (try dsimp only[aj]);conv=>whnf
   refine .pure _ _ ?_ ⟨rfl,rfl⟩ ci fun _=>?_
   ·exact au _
   (try dsimp only[aj]);conv=>whnf
   refine ⟨_,_,⟨rfl,rfl⟩,?_⟩
   refine ⟨⟨_,_,.refl _ _,?_⟩⟩
   conv=>whnf
   refine ⟨?_,rfl,by simp [nextId],.mk ?_ (by simp [ak])⟩
   ·all_goals exact wk
   ·all_goals exact wk
 | false =>
   have cc:=ru f X JX _ (.inr ⟨rfl,h0⟩)
   have hch:=Gq JX h0
   generalize (oq f X).best = best at *
   generalize (oq f X).total = tot at *
   obtain ⟨rfl,hm0⟩:=FV JX hm hch
   have hbs : best < 2 ^ f.vars.toNat:=hch.sub.lt JX.st
   have hn0 : aJ best st = 0:=kH (by omega) (by rw [<- XT]; exact hch.sub)
   have hle : aJ st best <= st:=kP (by omega)
   have cv:=kT f hF.ok (aJ st best) (by omega)
   rw [show (valsF f.vars.toNat (aJ st best) f.nodes).getD f.top.toNat false = dR f (aJ st best) from rfl,show dR f (aJ st best) = false by rw [<- XT]; exact hch.ok] at cv
   replace cv:=cv.weak (R':=.dA [.ff,.bH]) (by (repeat' first|exact rfl|exact trivial|exact wR|exact lR _|apply aI))
   have cL:=Xn f X JX h0
   have cM:=YZ f X JX h0
   have hlo:=hch.min best hch.sub hch.ok
   have hpr:=hch.pri
   have hacc : ∀ (s1 : Nat) (t1 : Int) (c1 : List Nat) (w : Sp),Y3 f X s1 t1 c1 w -> t1 = tot /\ s1 < 2 ^ f.vars.toNat /\ aJ s1 st = 0 /\ aQ Tryz.prog 8 [f.av,.int .i64 (aJ st s1 : Int)] [] (.dA [.ff,.bH]) []:=fun s1 t1 c1 w hvp=>by
    have hc1:=VL JX hvp
    have hs1 : s1 < 2 ^ f.vars.toNat:=hc1.sub.lt JX.st
    have hle1 : aJ st s1 <= st:=kP (by omega)
    refine ⟨(FV JX hm hc1).1,hs1,kH (by omega) (by rw [<- XT]; exact hc1.sub),?_⟩
    have cv1:=kT f hF.ok (aJ st s1) (by omega)
    rw [show (valsF f.vars.toNat (aJ st s1) f.nodes).getD f.top.toNat false = dR f (aJ st s1) from rfl,show dR f (aJ st s1) = false by rw [<- XT]; exact hc1.ok] at cv1
    exact cv1.weak (R':=.dA [.ff,.bH]) (by (repeat' first|exact rfl|exact trivial|exact wR|exact lR _|apply aI))
   have cVr:=D6 f X JX ⟨set,total,cuts,.mk v ks rr⟩
   rw [Rp.av,Sp.eu] at cVr
   subst hX
   (try dsimp only[aj]);conv=>whnf
   refine .pure _ _ ?_ ⟨rfl,rfl⟩ cc fun _=>?_
   ·exact au _
   (try dsimp only[aj]);conv=>whnf
   refine bN (by omega) ?_
   (try dsimp only[aj]);conv=>whnf
   rw [aU (by omega)]
   refine .pure _ _ ?_ ⟨rfl,rfl⟩ cv fun _=>?_
   ·exact au _
   (try dsimp only[aj]);conv=>whnf
   refine .oJ _ _ ?_ rfl cL fun R hq _=>?_
   ·exact au _
   rcases hq with rfl | ⟨n,rfl,hnl⟩
   ·(try dsimp only[aj]);conv=>whnf
    refine bN (by simp) ?_
    (try dsimp only[aj]);conv=>whnf
    rw [aU (by omega)]
    (try dsimp only[aj]);conv=>whnf
    refine bN (by omega) ?_
    (try dsimp only[aj]);conv=>whnf
    refine .pure _ _ ?_ ⟨rfl,rfl⟩ DX fun _=>?_
    ·exact au _
    (try dsimp only[aj]);conv=>whnf
    refine .rel _ (dO.frame [0] cM ⟨rfl,rfl,rfl,rfl⟩ ?_ ?_) fun R H' hq _=>?_
    ·all_goals exact wk
    ·all_goals exact wk
    obtain ⟨_,_,⟨rfl,hq⟩,rfl,rfl⟩:=hq
    rcases hq with rfl | ⟨⟨s0,t0,c0,⟨v0,k0,q0⟩⟩,rfl,hok0⟩
    ·(try dsimp only[aj]);conv=>whnf
     refine .pure _ _ ?_ ⟨rfl,rfl⟩ DX fun _=>?_
     ·all_goals exact wk
     (try dsimp only[aj]);conv=>whnf
     refine aN.step 5 ?_
     (try dsimp only[aj]);conv=>whnf
     refine bY (show (0 : Int) < 2 by decide) ?_
     (try dsimp only[aj]);conv=>whnf
     refine kE.mk ⟨_,⟨show (0 : Int) <= 0 by decide,rfl⟩,?_⟩
     (try dsimp only[aj]);conv=>whnf
     refine bY (show (0 : Int) = 0 from rfl) ?_
     (try dsimp only[aj]);conv=>whnf
     refine zA ?_;conv=>whnf
     refine bY (show (1 : Int) < 2 by decide) ?_
     (try dsimp only[aj]);conv=>whnf
     refine kE.mk ⟨_,⟨show (0 : Int) <= 1 by decide,rfl⟩,?_⟩
     (try dsimp only[aj]);conv=>whnf
     refine bN (show ¬ (1 : Int) = 0 by decide) ?_
     (try dsimp only[aj]);conv=>whnf
     refine .oJ _ _ ?_ rfl cVr fun R hq _=>?_
     ·all_goals exact wk
     rcases hq with ⟨hq,_⟩ | ⟨rfl,hok1⟩
     ·have hq2 : R = .dA [.ff,.bH] \/ ∃ c : Int,R = .dA [.ff,.jh 43 (.int .i64 c)]:=by
       rcases hq with h | ⟨e,h⟩
       ·exact .inl h
       ·by_cases he : e = 0
        ·subst he; exact .inl h
        ·rw [fV he] at h; exact .inr ⟨e,h⟩
      rcases hq2 with rfl | ⟨c,rfl⟩
      ·(try dsimp only[aj]);conv=>whnf
       refine bN (show ¬ (1 : Int) = 0 by decide) ?_
       (try dsimp only[aj]);conv=>whnf
       refine zA ?_;conv=>whnf
       refine bN (show ¬ (2 : Int) < 2 by decide) ?_
       (try dsimp only[aj]);conv=>whnf
       refine ⟨_,_,⟨rfl,rfl⟩,?_⟩
       refine ⟨⟨_,_,.refl _ _,?_⟩⟩
       conv=>whnf
       refine ⟨?_,rfl,by simp [nextId],.mk ?_ (by simp [ak])⟩
       ·all_goals exact wk
       ·all_goals exact wk
      ·(try dsimp only[aj]);conv=>whnf
       refine bN (show ¬ (1 : Int) = 0 by decide) ?_
       (try dsimp only[aj]);conv=>whnf
       refine zA ?_;conv=>whnf
       refine bN (show ¬ (2 : Int) < 2 by decide) ?_
       (try dsimp only[aj]);conv=>whnf
       refine ⟨_,_,⟨rfl,rfl⟩,?_⟩
       refine ⟨⟨_,_,.refl _ _,?_⟩⟩
       conv=>whnf
       refine ⟨?_,rfl,by simp [nextId],.mk ?_ (by simp [ak])⟩
       ·all_goals exact wk
       ·all_goals exact wk
     ·obtain ⟨set1,cs1,rfl,_,_,_,hvp⟩:=hok1
      dsimp only at hvp
      (try dsimp only[aj]);conv=>whnf
      refine bN (show ¬ (1 : Int) = 0 by decide) ?_
      have hac:=hacc _ _ _ _ hvp
      obtain ⟨rfl,a1,a2,a3⟩:=hac
      (try dsimp only[aj]);conv=>whnf
      rw [aU (by omega)]
      refine .pure _ _ ?_ ⟨rfl,rfl⟩ a3 fun _=>?_
      ·exact au _
      (try dsimp only[aj]);conv=>whnf
      refine bN (by simp) ?_
      (try dsimp only[aj]);conv=>whnf
      rw [aU (by omega)]
      (try dsimp only[aj]);conv=>whnf
      refine bN (by omega) ?_
      (try dsimp only[aj]);conv=>whnf
      refine zA ?_;conv=>whnf
      refine bN (show ¬ (2 : Int) < 2 by decide) ?_
      (try dsimp only[aj]);conv=>whnf
      refine ⟨_,_,⟨rfl,rfl⟩,?_⟩
      refine ⟨⟨_,_,.refl _ _,?_⟩⟩
      conv=>whnf
      refine ⟨?_,rfl,by simp [nextId],.mk ?_ (by simp [ak])⟩
      ·all_goals exact wk
      ·all_goals exact wk
    ·have cV0:=D6 f _ JX ⟨s0,t0,c0,.mk v0 k0 q0⟩
     rw [Rp.av,Sp.eu] at cV0
     rw [Rp.av,Sp.eu]
     (try dsimp only[aj]);conv=>whnf
     refine aN.step 5 ?_
     (try dsimp only[aj]);conv=>whnf
     refine bY (show (0 : Int) < 2 by decide) ?_
     (try dsimp only[aj]);conv=>whnf
     refine kE.mk ⟨_,⟨show (0 : Int) <= 0 by decide,rfl⟩,?_⟩
     (try dsimp only[aj]);conv=>whnf
     refine bY (show (0 : Int) = 0 from rfl) ?_
     (try dsimp only[aj]);conv=>whnf
     refine .oJ _ _ ?_ rfl cV0 fun R hq _=>?_
     ·all_goals exact wk
     rcases hq with ⟨_,hq⟩ | ⟨rfl,_⟩
     ·exact absurd hok0 hq
     obtain ⟨set0,cs0,rfl,_,_,_,TN⟩:=hok0
     dsimp only at TN
     (try dsimp only[aj]);conv=>whnf
     refine bY (show (0 : Int) = 0 from rfl) ?_
     have hac:=hacc _ _ _ _ TN
     obtain ⟨rfl,a1,a2,a3⟩:=hac
     (try dsimp only[aj]);conv=>whnf
     rw [aU (by omega)]
     refine .pure _ _ ?_ ⟨rfl,rfl⟩ a3 fun _=>?_
     ·exact au _
     (try dsimp only[aj]);conv=>whnf
     refine bN (by simp) ?_
     (try dsimp only[aj]);conv=>whnf
     rw [aU (by omega)]
     (try dsimp only[aj]);conv=>whnf
     refine bN (by omega) ?_
     (try dsimp only[aj]);conv=>whnf
     refine zA ?_;conv=>whnf
     refine bY (show (1 : Int) < 2 by decide) ?_
     (try dsimp only[aj]);conv=>whnf
     refine kE.mk ⟨_,⟨show (0 : Int) <= 1 by decide,rfl⟩,?_⟩
     (try dsimp only[aj]);conv=>whnf
     refine bN (show ¬ (1 : Int) = 0 by decide) ?_
     (try dsimp only[aj]);conv=>whnf
     refine .oJ _ _ ?_ rfl cVr fun R hq _=>?_
     ·all_goals exact wk
     rcases hq with ⟨hq,_⟩ | ⟨rfl,hok1⟩
     ·have hq2 : R = .dA [.ff,.bH] \/ ∃ c : Int,R = .dA [.ff,.jh 43 (.int .i64 c)]:=by
       rcases hq with h | ⟨e,h⟩
       ·exact .inl h
       ·by_cases he : e = 0
        ·subst he; exact .inl h
        ·rw [fV he] at h; exact .inr ⟨e,h⟩
      rcases hq2 with rfl | ⟨c,rfl⟩
      ·(try dsimp only[aj]);conv=>whnf
       refine bN (show ¬ (1 : Int) = 0 by decide) ?_
       (try dsimp only[aj]);conv=>whnf
       refine zA ?_;conv=>whnf
       refine bN (show ¬ (2 : Int) < 2 by decide) ?_
       (try dsimp only[aj]);conv=>whnf
       refine ⟨_,_,⟨rfl,rfl⟩,?_⟩
       refine ⟨⟨_,_,.refl _ _,?_⟩⟩
       conv=>whnf
       refine ⟨?_,rfl,by simp [nextId],.mk ?_ (by simp [ak])⟩
       ·all_goals exact wk
       ·all_goals exact wk
      ·(try dsimp only[aj]);conv=>whnf
       refine bN (show ¬ (1 : Int) = 0 by decide) ?_
       (try dsimp only[aj]);conv=>whnf
       refine zA ?_;conv=>whnf
       refine bN (show ¬ (2 : Int) < 2 by decide) ?_
       (try dsimp only[aj]);conv=>whnf
       refine ⟨_,_,⟨rfl,rfl⟩,?_⟩
       refine ⟨⟨_,_,.refl _ _,?_⟩⟩
       conv=>whnf
       refine ⟨?_,rfl,by simp [nextId],.mk ?_ (by simp [ak])⟩
       ·all_goals exact wk
       ·all_goals exact wk
     ·obtain ⟨set1,cs1,rfl,_,_,_,hvp⟩:=hok1
      dsimp only at hvp
      (try dsimp only[aj]);conv=>whnf
      refine bN (show ¬ (1 : Int) = 0 by decide) ?_
      have hac:=hacc _ _ _ _ hvp
      obtain ⟨rfl,a1,a2,a3⟩:=hac
      (try dsimp only[aj]);conv=>whnf
      rw [aU (by omega)]
      refine .pure _ _ ?_ ⟨rfl,rfl⟩ a3 fun _=>?_
      ·exact au _
      (try dsimp only[aj]);conv=>whnf
      refine bN (by simp) ?_
      (try dsimp only[aj]);conv=>whnf
      rw [aU (by omega)]
      (try dsimp only[aj]);conv=>whnf
      refine bN (by omega) ?_
      (try dsimp only[aj]);conv=>whnf
      refine zA ?_;conv=>whnf
      refine bN (show ¬ (2 : Int) < 2 by decide) ?_
      (try dsimp only[aj]);conv=>whnf
      refine ⟨_,_,⟨rfl,rfl⟩,?_⟩
      refine ⟨⟨_,_,.refl _ _,?_⟩⟩
      conv=>whnf
      refine ⟨?_,rfl,by simp [nextId],.mk ?_ (by simp [ak])⟩
      ·all_goals exact wk
      ·all_goals exact wk
   ·have hnm:=hnl _ hch.sub hch.ok
    (try dsimp only[aj]);conv=>whnf
    refine bN (by simp) ?_
    (try dsimp only[aj]);conv=>whnf
    rw [aU (by omega)]
    (try dsimp only[aj]);conv=>whnf
    refine bN (by omega) ?_
    (try dsimp only[aj]);conv=>whnf
    refine bN (by omega) ?_
    (try dsimp only[aj]);conv=>whnf
    refine .rel _ (dO.frame [0] cM ⟨rfl,rfl,rfl,rfl⟩ ?_ ?_) fun R H' hq _=>?_
    ·all_goals exact wk
    ·all_goals exact wk
    obtain ⟨_,_,⟨rfl,hq⟩,rfl,rfl⟩:=hq
    rcases hq with rfl | ⟨⟨s0,t0,c0,⟨v0,k0,q0⟩⟩,rfl,hok0⟩
    ·(try dsimp only[aj]);conv=>whnf
     refine .pure _ _ ?_ ⟨rfl,rfl⟩ DX fun _=>?_
     ·all_goals exact wk
     (try dsimp only[aj]);conv=>whnf
     refine aN.step 5 ?_
     (try dsimp only[aj]);conv=>whnf
     refine bY (show (0 : Int) < 2 by decide) ?_
     (try dsimp only[aj]);conv=>whnf
     refine kE.mk ⟨_,⟨show (0 : Int) <= 0 by decide,rfl⟩,?_⟩
     (try dsimp only[aj]);conv=>whnf
     refine bY (show (0 : Int) = 0 from rfl) ?_
     (try dsimp only[aj]);conv=>whnf
     refine zA ?_;conv=>whnf
     refine bY (show (1 : Int) < 2 by decide) ?_
     (try dsimp only[aj]);conv=>whnf
     refine kE.mk ⟨_,⟨show (0 : Int) <= 1 by decide,rfl⟩,?_⟩
     (try dsimp only[aj]);conv=>whnf
     refine bN (show ¬ (1 : Int) = 0 by decide) ?_
     (try dsimp only[aj]);conv=>whnf
     refine .oJ _ _ ?_ rfl cVr fun R hq _=>?_
     ·all_goals exact wk
     rcases hq with ⟨hq,_⟩ | ⟨rfl,hok1⟩
     ·have hq2 : R = .dA [.ff,.bH] \/ ∃ c : Int,R = .dA [.ff,.jh 43 (.int .i64 c)]:=by
       rcases hq with h | ⟨e,h⟩
       ·exact .inl h
       ·by_cases he : e = 0
        ·subst he; exact .inl h
        ·rw [fV he] at h; exact .inr ⟨e,h⟩
      rcases hq2 with rfl | ⟨c,rfl⟩
      ·(try dsimp only[aj]);conv=>whnf
       refine bN (show ¬ (1 : Int) = 0 by decide) ?_
       (try dsimp only[aj]);conv=>whnf
       refine zA ?_;conv=>whnf
       refine bN (show ¬ (2 : Int) < 2 by decide) ?_
       (try dsimp only[aj]);conv=>whnf
       refine ⟨_,_,⟨rfl,rfl⟩,?_⟩
       refine ⟨⟨_,_,.refl _ _,?_⟩⟩
       conv=>whnf
       refine ⟨?_,rfl,by simp [nextId],.mk ?_ (by simp [ak])⟩
       ·all_goals exact wk
       ·all_goals exact wk
      ·(try dsimp only[aj]);conv=>whnf
       refine bN (show ¬ (1 : Int) = 0 by decide) ?_
       (try dsimp only[aj]);conv=>whnf
       refine zA ?_;conv=>whnf
       refine bN (show ¬ (2 : Int) < 2 by decide) ?_
       (try dsimp only[aj]);conv=>whnf
       refine ⟨_,_,⟨rfl,rfl⟩,?_⟩
       refine ⟨⟨_,_,.refl _ _,?_⟩⟩
       conv=>whnf
       refine ⟨?_,rfl,by simp [nextId],.mk ?_ (by simp [ak])⟩
       ·all_goals exact wk
       ·all_goals exact wk
     ·obtain ⟨set1,cs1,rfl,_,_,_,hvp⟩:=hok1
      dsimp only at hvp
      (try dsimp only[aj]);conv=>whnf
      refine bN (show ¬ (1 : Int) = 0 by decide) ?_
      have hac:=hacc _ _ _ _ hvp
      obtain ⟨rfl,a1,a2,a3⟩:=hac
      (try dsimp only[aj]);conv=>whnf
      rw [aU (by omega)]
      refine .pure _ _ ?_ ⟨rfl,rfl⟩ a3 fun _=>?_
      ·exact au _
      (try dsimp only[aj]);conv=>whnf
      refine bN (by simp) ?_
      (try dsimp only[aj]);conv=>whnf
      rw [aU (by omega)]
      (try dsimp only[aj]);conv=>whnf
      refine bN (by omega) ?_
      (try dsimp only[aj]);conv=>whnf
      refine zA ?_;conv=>whnf
      refine bN (show ¬ (2 : Int) < 2 by decide) ?_
      (try dsimp only[aj]);conv=>whnf
      refine ⟨_,_,⟨rfl,rfl⟩,?_⟩
      refine ⟨⟨_,_,.refl _ _,?_⟩⟩
      conv=>whnf
      refine ⟨?_,rfl,by simp [nextId],.mk ?_ (by simp [ak])⟩
      ·all_goals exact wk
      ·all_goals exact wk
    ·have cV0:=D6 f _ JX ⟨s0,t0,c0,.mk v0 k0 q0⟩
     rw [Rp.av,Sp.eu] at cV0
     rw [Rp.av,Sp.eu]
     (try dsimp only[aj]);conv=>whnf
     refine aN.step 5 ?_
     (try dsimp only[aj]);conv=>whnf
     refine bY (show (0 : Int) < 2 by decide) ?_
     (try dsimp only[aj]);conv=>whnf
     refine kE.mk ⟨_,⟨show (0 : Int) <= 0 by decide,rfl⟩,?_⟩
     (try dsimp only[aj]);conv=>whnf
     refine bY (show (0 : Int) = 0 from rfl) ?_
     (try dsimp only[aj]);conv=>whnf
     refine .oJ _ _ ?_ rfl cV0 fun R hq _=>?_
     ·all_goals exact wk
     rcases hq with ⟨_,hq⟩ | ⟨rfl,_⟩
     ·exact absurd hok0 hq
     obtain ⟨set0,cs0,rfl,_,_,_,TN⟩:=hok0
     dsimp only at TN
     (try dsimp only[aj]);conv=>whnf
     refine bY (show (0 : Int) = 0 from rfl) ?_
     have hac:=hacc _ _ _ _ TN
     obtain ⟨rfl,a1,a2,a3⟩:=hac
     (try dsimp only[aj]);conv=>whnf
     rw [aU (by omega)]
     refine .pure _ _ ?_ ⟨rfl,rfl⟩ a3 fun _=>?_
     ·exact au _
     (try dsimp only[aj]);conv=>whnf
     refine bN (by simp) ?_
     (try dsimp only[aj]);conv=>whnf
     rw [aU (by omega)]
     (try dsimp only[aj]);conv=>whnf
     refine bN (by omega) ?_
     (try dsimp only[aj]);conv=>whnf
     refine zA ?_;conv=>whnf
     refine bY (show (1 : Int) < 2 by decide) ?_
     (try dsimp only[aj]);conv=>whnf
     refine kE.mk ⟨_,⟨show (0 : Int) <= 1 by decide,rfl⟩,?_⟩
     (try dsimp only[aj]);conv=>whnf
     refine bN (show ¬ (1 : Int) = 0 by decide) ?_
     (try dsimp only[aj]);conv=>whnf
     refine .oJ _ _ ?_ rfl cVr fun R hq _=>?_
     ·all_goals exact wk
     rcases hq with ⟨hq,_⟩ | ⟨rfl,hok1⟩
     ·have hq2 : R = .dA [.ff,.bH] \/ ∃ c : Int,R = .dA [.ff,.jh 43 (.int .i64 c)]:=by
       rcases hq with h | ⟨e,h⟩
       ·exact .inl h
       ·by_cases he : e = 0
        ·subst he; exact .inl h
        ·rw [fV he] at h; exact .inr ⟨e,h⟩
      rcases hq2 with rfl | ⟨c,rfl⟩
      ·(try dsimp only[aj]);conv=>whnf
       refine bN (show ¬ (1 : Int) = 0 by decide) ?_
       (try dsimp only[aj]);conv=>whnf
       refine zA ?_;conv=>whnf
       refine bN (show ¬ (2 : Int) < 2 by decide) ?_
       (try dsimp only[aj]);conv=>whnf
       refine ⟨_,_,⟨rfl,rfl⟩,?_⟩
       refine ⟨⟨_,_,.refl _ _,?_⟩⟩
       conv=>whnf
       refine ⟨?_,rfl,by simp [nextId],.mk ?_ (by simp [ak])⟩
       ·all_goals exact wk
       ·all_goals exact wk
      ·(try dsimp only[aj]);conv=>whnf
       refine bN (show ¬ (1 : Int) = 0 by decide) ?_
       (try dsimp only[aj]);conv=>whnf
       refine zA ?_;conv=>whnf
       refine bN (show ¬ (2 : Int) < 2 by decide) ?_
       (try dsimp only[aj]);conv=>whnf
       refine ⟨_,_,⟨rfl,rfl⟩,?_⟩
       refine ⟨⟨_,_,.refl _ _,?_⟩⟩
       conv=>whnf
       refine ⟨?_,rfl,by simp [nextId],.mk ?_ (by simp [ak])⟩
       ·all_goals exact wk
       ·all_goals exact wk
     ·obtain ⟨set1,cs1,rfl,_,_,_,hvp⟩:=hok1
      dsimp only at hvp
      (try dsimp only[aj]);conv=>whnf
      refine bN (show ¬ (1 : Int) = 0 by decide) ?_
      have hac:=hacc _ _ _ _ hvp
      obtain ⟨rfl,a1,a2,a3⟩:=hac
      (try dsimp only[aj]);conv=>whnf
      rw [aU (by omega)]
      refine .pure _ _ ?_ ⟨rfl,rfl⟩ a3 fun _=>?_
      ·exact au _
      (try dsimp only[aj]);conv=>whnf
      refine bN (by simp) ?_
      (try dsimp only[aj]);conv=>whnf
      rw [aU (by omega)]
      (try dsimp only[aj]);conv=>whnf
      refine bN (by omega) ?_
      (try dsimp only[aj]);conv=>whnf
      refine zA ?_;conv=>whnf
      refine bN (show ¬ (2 : Int) < 2 by decide) ?_
      (try dsimp only[aj]);conv=>whnf
      refine ⟨_,_,⟨rfl,rfl⟩,?_⟩
      refine ⟨⟨_,_,.refl _ _,?_⟩⟩
      conv=>whnf
      refine ⟨?_,rfl,by simp [nextId],.mk ?_ (by simp [ak])⟩
      ·all_goals exact wk
      ·all_goals exact wk

theorem H9 {α : Type} {f : α -> AV} : ∀ {l : List AV},(∀ x ∈ l,∃ y,x = f y) -> ∃ m : List α,l = m.map f
 | [],_=>⟨[],rfl⟩
 | x :: l,h=>by
   obtain ⟨y,rfl⟩:=h x (by simp)
   obtain ⟨m,rfl⟩:=H9 (l:=l) fun z hz=>h z (by simp [hz])
   exact ⟨y :: m,rfl⟩

theorem Ii {sz : Nat} {k : IntKind} {A : AV} (h : (Sh.sl sz (.int k)).In A) : ∃ l : List Int,A = .sl sz (l.map (.int k)) .no:=by
 simp only [Sh.In] at h
 obtain ⟨l,rfl,hl⟩:=h
 obtain ⟨m,rfl⟩:=H9 hl
 exact ⟨m,rfl⟩

theorem vY {k : IntKind} {A : AV} (h : (Sh.int k).In A) : ∃ n : Int,A = .int k n:=by
 simpa only [Sh.In] using h


theorem Zn {α : Type} {f : α -> AV} {sh : Sh} {sz : Nat} {A : AV} (hf : ∀ x,sh.In x -> ∃ y,x = f y) (h : (Sh.sl sz sh).In A) : ∃ l : List α,A = .sl sz (l.map f) .no:=by
 unfold Sh.In at h
 obtain ⟨l,rfl,hl⟩:=h
 obtain ⟨m,rfl⟩:=H9 fun x hx=>hf x (hl x hx)
 exact ⟨m,rfl⟩


abbrev Zr : Sh:=.st [.int .i64,.int .i64,.sl 1 (.int .i64)]
abbrev Zt : Sh:=.st [.int .i64,.sl 3 Zr,.int .i64]

theorem Nd.of {A : AV} (h : Zr.In A) : ∃ x : Nd,A = x.av:=by
 unfold Sh.In at h
 simp only [Y5] at h
 obtain ⟨_,rfl,_,_,rfl,h0,_,_,rfl,h1,_,_,rfl,h2,rfl⟩:=h
 obtain ⟨a,rfl⟩:=vY h0
 obtain ⟨b,rfl⟩:=vY h1
 obtain ⟨c,rfl⟩:=Ii h2
 exact ⟨⟨a,b,c⟩,rfl⟩

theorem Fo.of {A : AV} (h : Zt.In A) : ∃ x : Fo,A = x.av:=by
 unfold Sh.In at h
 simp only [Y5] at h
 obtain ⟨_,rfl,_,_,rfl,h0,_,_,rfl,h1,_,_,rfl,h2,rfl⟩:=h
 obtain ⟨a,rfl⟩:=vY h0
 obtain ⟨b,rfl⟩:=Zn (f:=Nd.av) (fun _ hx=>Nd.of hx) h1
 obtain ⟨c,rfl⟩:=vY h2
 exact ⟨⟨a,b,c⟩,rfl⟩

theorem D5 (f : Fo) (p : Int × List Int) (r : Rp) : aQ Tryz.prog 3 [f.av,.ag [.int .i64 p.1,iA p.2],r.av] [(0,.glob 1 mG)] (.bool true) [(0,.glob 1 mG)]:=by
 have h : aQ Tryz.prog 3 [f.av,.ag [.int .i64 p.1,iA p.2],r.av] [(0,.glob 1 mG)] .tt [(0,.glob 1 mG)]:=dO.XF (DZ f p.1 p.2 r)
 exact h.weak (by show true = true; rfl)

def cxG (w : World) (g : Nat) (cs : List Value) : Cx:={ w:=w,Im:=fun b _=>b < w.heap.size,ρ:=fun _=>0,nx:=1,tk:=fun _=>(none,0),tp:=dw [(0,.glob g cs)] }

theorem QU {w : World} {a : Addr} {v : Value} (h : w.cell? a = some v) : a.block < w.heap.size:=by
 apply Classical.byContradiction
 intro hn
 have : w.heap[a.block]? = none:=Array.getElem?_eq_none (by simpa using hn)
 simp [World.cell?,this] at h

theorem Y6 {w : World} {g : Nat} {cs : List Value} (h : ∀ (j : Nat) (v : Value),cs[j]? = some v -> w.cell? ⟨g,j,none⟩ = some v) : HR (cxG w g cs) [(0,.glob g cs)]:=by
 refine ⟨rfl,rfl,⟨by simp,trivial⟩,fun _ _ h=>h,fun x hx=>?_,by simp⟩
 obtain rfl:=List.mem_singleton.1 hx
 exact fun j v hj=>⟨QU (h j v hj),h j v hj⟩

theorem Nq {w : World} {g : Nat} {cs : List Value} : (cx0 w).Le (cxG w g cs):=⟨fun _ _ h=>⟨h,rfl⟩,Nat.zero_le _,fun k hk=>absurd hk (Nat.not_lt_zero k),fun k n hk=>absurd hk (Nat.not_lt_zero k)⟩

theorem aQ.lawG {P : Program} {f : Nat} {args : List AV} {g : Nat} {cs : List Value} (h : aQ P f args [(0,.glob g cs)] (.bool true) [(0,.glob g cs)]) {w : World} {vs : List Value}
  (hg : ∀ (j : Nat) (v : Value),cs[j]? = some v -> w.cell? ⟨g,j,none⟩ = some v) (hv : uV (cxG w g cs) args vs) :
  Calls P f vs.toArray w fun e w'=>e = .returned (.bool true) /\ RowKit.Below w.heap.size w w':=by
 refine (h.2 (cxG w g cs) vs (Y6 hg) hv).mono ?_
 rintro e w' ⟨v,d,rfl,rfl,htr,hV⟩
 refine ⟨by rw [fO hV],⟨htr.os,htr.tape,htr.output,htr.size,fun k hk=>htr.fr k hk (by simp [aB])⟩⟩

theorem Mc {P : Program} {W : World} {x0 : String × DataW Unit} {name : String} {k : IntKind} {zs : List Int} {rest : List (String × DataW Unit)} {g : Nat} {t e : TypeId} {n : Nat}
  (hg : P.globalNamed name = some g) (hty : (P.globals[g]?).map (·.type) = some t) (ht : P.underlying t = some (.array n e)) (he : P.underlying e = some (.int k)) (hce : P.cellsOf e = 1) (hct : P.cellsOf t = n)
  (h : laidMet P (x0 :: (name,Go.Lib.tabData k zs) :: rest) W) : Go.Lib.TabIs P W name k zs:=by
 obtain ⟨ps,⟨_,_,_,_,_,_,_,_,_,_,⟨g',t',cs,fuel,p,q,hg',ht',hvar,hd,_,_⟩,_⟩,_⟩:=h
 obtain rfl:=Option.some.inj (hg.symm.trans hg')
 obtain rfl:=Option.some.inj (hty.symm.trans ht')
 unfold Go.Lib.TabIs
 rw [hvar,<- Go.Lib.cells_of_tab ht he hce hct hd]

def RX : List Int:=Go.Lib.deBruijn64tab.map fun n : Nat=>(n : Int)

theorem P9 {P : Program} {W : World} {name : String} {g : Nat} (h : Go.Lib.TabIs P W name .u8 RX) (hg : P.globalNamed name = some g) (j : Nat) (v : Value) (hj : mG[j]? = some v) : W.cell? ⟨g,j,none⟩ = some v:=by
 have hl : j < Go.Lib.deBruijn64tab.length:=by
  have:=(List.getElem?_eq_some_iff.1 hj).1
  unfold mG at this
  rwa [List.length_map] at this
 rw [h.cell hg j (by unfold RX; rwa [List.length_map])]
 unfold mG at hj
 unfold RX
 rw [List.getElem?_map,List.getElem?_eq_getElem hl] at hj
 rw [List.getD_eq_getElem?_getD,List.getElem?_map,List.getElem?_eq_getElem hl]
 exact hj

theorem Sp.Zx : ∀ {ks : List AV},(∀ k ∈ ks,∃ s : Sp,k = s.av) -> ∃ l : List Sp,ks = l.map Sp.av
 | [],_=>⟨[],rfl⟩
 | k :: ks,h=>by
   obtain ⟨s,hs⟩:=h k (by simp)
   obtain ⟨l,hl⟩:=Sp.Zx (fun u hu=>h u (List.mem_cons_of_mem _ hu))
   exact ⟨s :: l,by rw [hs,hl]; rfl⟩

theorem Sp.ofX {A : AV} (h : NY A) : ∃ s : Sp,A = s.av:=by
 induction h with
 | mk v r ks _ ih =>
   obtain ⟨l,rfl⟩:=Sp.Zx ih
   exact ⟨.mk v l r,(Sp.eu v l r).symm⟩

abbrev Zq : Sh:=.st [.int .i64,.sl 1 (.int .i64)]
abbrev Zp : Sh:=.st [.int .i64,.int .i64,.sl 1 (.int .i64),.spl]

theorem Rc.of {A : AV} (h : Zq.In A) : ∃ p : Int × List Int,A = .ag [.int .i64 p.1,iA p.2]:=by
 unfold Sh.In at h
 simp only [Y5] at h
 obtain ⟨_,rfl,_,_,rfl,h0,_,_,rfl,h1,rfl⟩:=h
 obtain ⟨a,rfl⟩:=vY h0
 obtain ⟨b,rfl⟩:=Ii h1
 exact ⟨⟨a,b⟩,rfl⟩

theorem Rp.of {A : AV} (h : Zp.In A) : ∃ r : Rp,A = r.av:=by
 unfold Sh.In at h
 simp only [Y5] at h
 obtain ⟨_,rfl,_,_,rfl,h0,_,_,rfl,h1,_,_,rfl,h2,_,_,rfl,h3,rfl⟩:=h
 obtain ⟨a,rfl⟩:=vY h0
 obtain ⟨b,rfl⟩:=vY h1
 obtain ⟨c,rfl⟩:=Ii h2
 obtain ⟨d,rfl⟩:=Sp.ofX h3
 exact ⟨⟨a,b,c,d⟩,rfl⟩
end S
