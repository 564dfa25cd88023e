/-
  Contracts of functions of the program, over the logic of the texts before. Nothing is assumed.
-/
import Derived.Test.YtkbjecdpgbnkdaaGreatT7

open Go Go.AL Go.Proofs
namespace S
set_option maxRecDepth 100000

theorem tY (y n : Bool) : aC Tryz.prog 252 [.bool y,.bool n] [] (.int .i64 (lvl y n)) []:=by
 refine aC.intro lay mixed Tryz.func252 (by kernel_rfl) rfl (by kernel_rfl) rfl fun hok=>?_
 (try dsimp only[aZ,aO]);(try dsimp only[aj]);conv=>whnf
 refine And.intro (fun g=>?_) (fun g=>?_)
 ·rw [show lvl y n = 1 from if_pos g]
  (try dsimp only[aj]);conv=>whnf
  refine fM ?_;(conv=>whnf);refine ⟨?_,rfl⟩;conv=>whnf
  all_goals exact wk
 rw [show lvl y n = if n = true then 0 else 2 from if_neg (by rw [g]; simp)]
 (try dsimp only[aj]);conv=>whnf
 refine And.intro (fun g2=>?_) (fun g2=>?_)
 ·rw [if_pos g2]
  (try dsimp only[aj]);conv=>whnf
  refine fM ?_;(conv=>whnf);refine ⟨?_,rfl⟩;conv=>whnf
  all_goals exact wk
 ·rw [if_neg (by rw [g2]; simp)]
  (try dsimp only[aj]);conv=>whnf
  refine fM ?_;(conv=>whnf);refine ⟨?_,rfl⟩;conv=>whnf
  all_goals exact wk

theorem c_tnode (x : Nd) (a b c : Nat) (_ : 0 <= x.kind /\ x.kind <= 5) (ha : a <= 16) (hb : b <= 16) (hc : c <= 16) : aC Tryz.prog 253 [x.av,.ag [.int .i64 a,.int .i64 b,.int .i64 c]] [] (.int .i64 (JX x a b c)) []:=by
 refine aC.intro lay mixed Tryz.func253 (by kernel_rfl) rfl (by kernel_rfl) rfl fun hok=>?_
 (try dsimp only[aZ,aO]);(try dsimp only[aj]);conv=>whnf
 refine And.intro (fun k0=>?_) (fun k0=>?_)
 ·rw [show JX x a b c = x.k from if_pos k0]
  (try dsimp only[aj]);conv=>whnf
  refine fM ?_;(conv=>whnf);refine ⟨?_,rfl⟩;conv=>whnf
  all_goals exact wk
 rw [show JX x a b c = _ from if_neg k0]
 (try dsimp only[aj]);conv=>whnf
 refine And.intro (fun k1=>?_) (fun k1=>?_)
 ·rw [if_pos k1]
  (try dsimp only[aj]);conv=>whnf
  refine ⟨⟨by omega,by omega⟩,?_⟩
  (try dsimp only[aj]);conv=>whnf
  refine ⟨⟨by omega,by omega⟩,?_⟩
  (try dsimp only[aj]);conv=>whnf
  have cl:=tY (decide (a = 1)) (decide (b = 1))
  refine .pure _ _ ?_ ⟨rfl,rfl⟩ cl fun _=>?_
  ·refine ⟨?_,?_,trivial⟩
   ·show _ ↔ _
    rw [decide_eq_true_iff]; try omega
   ·show _ ↔ _
    rw [decide_eq_true_iff]; try omega
  (try dsimp only[aj]);conv=>whnf
  refine fM ?_;(conv=>whnf);refine ⟨?_,rfl⟩;conv=>whnf
  all_goals exact wk
 rw [if_neg k1]
 (try dsimp only[aj]);conv=>whnf
 refine And.intro (fun k2=>?_) (fun k2=>?_)
 ·rw [if_pos k2]
  (try dsimp only[aj]);conv=>whnf
  refine ⟨⟨by omega,by omega⟩,?_⟩
  (try dsimp only[aj]);conv=>whnf
  refine ⟨⟨by omega,by omega⟩,?_⟩
  (try dsimp only[aj]);conv=>whnf
  rw [List.length_map]
  have cl:=tY (decide (b = x.args.length)) (decide (0 < a))
  refine .pure _ _ ?_ ⟨rfl,rfl⟩ cl fun _=>?_
  ·refine ⟨?_,?_,trivial⟩
   ·show _ ↔ _
    rw [decide_eq_true_iff]; try omega
   ·show _ ↔ _
    rw [decide_eq_true_iff]; try omega
  (try dsimp only[aj]);conv=>whnf
  refine fM ?_;(conv=>whnf);refine ⟨?_,rfl⟩;conv=>whnf
  all_goals exact wk
 rw [if_neg k2]
 (try dsimp only[aj]);conv=>whnf
 refine And.intro (fun k3=>?_) (fun k3=>?_)
 ·rw [if_pos k3]
  (try dsimp only[aj]);conv=>whnf
  refine ⟨⟨by omega,by omega⟩,?_⟩
  (try dsimp only[aj]);conv=>whnf
  refine ⟨⟨by omega,by omega⟩,?_⟩
  (try dsimp only[aj]);conv=>whnf
  rw [List.length_map]
  have cl:=tY (decide (0 < b)) (decide (a = x.args.length))
  refine .pure _ _ ?_ ⟨rfl,rfl⟩ cl fun _=>?_
  ·refine ⟨?_,?_,trivial⟩
   ·show _ ↔ _
    rw [decide_eq_true_iff]; try omega
   ·show _ ↔ _
    rw [decide_eq_true_iff]; try omega
  (try dsimp only[aj]);conv=>whnf
  refine fM ?_;(conv=>whnf);refine ⟨?_,rfl⟩;conv=>whnf
  all_goals exact wk
 rw [if_neg k3]
 (try dsimp only[aj]);conv=>whnf
 refine And.intro (fun k4=>?_) (fun k4=>?_)
 ·rw [if_pos k4]
  (try dsimp only[aj]);conv=>whnf
  refine ⟨⟨by omega,by omega⟩,?_⟩
  (try dsimp only[aj]);conv=>whnf
  refine ⟨⟨by omega,by omega⟩,?_⟩
  (try dsimp only[aj]);conv=>whnf
  refine ⟨⟨by omega,by omega⟩,?_⟩
  (try dsimp only[aj]);conv=>whnf
  refine zA ?_;conv=>whnf
  have cl:=tY (decide (x.k <= b)) (decide ((b : Int) + c < x.k))
  refine .pure _ _ ?_ ⟨rfl,rfl⟩ cl fun _=>?_
  ·refine ⟨?_,?_,trivial⟩
   ·show _ ↔ _
    rw [decide_eq_true_iff]; try omega
   ·show _ ↔ _
    rw [decide_eq_true_iff]; try omega
  (try dsimp only[aj]);conv=>whnf
  refine fM ?_;(conv=>whnf);refine ⟨?_,rfl⟩;conv=>whnf
  all_goals exact wk
 rw [if_neg k4]
 (try dsimp only[aj]);conv=>whnf
 refine ⟨⟨by omega,by omega⟩,?_⟩
 (try dsimp only[aj]);conv=>whnf
 refine And.intro (fun g=>?_) (fun g=>?_)
 ·have g : c = 0:=by omega
  (try dsimp only[aj]);conv=>whnf
  refine ⟨⟨by omega,by omega⟩,?_⟩
  (try dsimp only[aj]);conv=>whnf
  refine ⟨by decide,?_⟩
  (try dsimp only[aj]);conv=>whnf
  refine ⟨⟨by omega,by omega⟩,?_⟩
  (try dsimp only[aj]);conv=>whnf
  refine And.intro (fun _=>?_) (fun g2=>by exfalso; omega)
  (try dsimp only[aj]);conv=>whnf
  refine ⟨⟨by omega,by omega⟩,?_⟩
  (try dsimp only[aj]);conv=>whnf
  refine ⟨by decide,?_⟩
  (try dsimp only[aj]);conv=>whnf
  have cl:=tY (decide (c = 0 /\ b % 2 = 1)) (decide (c = 0 /\ b % 2 = 0))
  refine .pure _ _ ?_ ⟨rfl,rfl⟩ cl fun _=>?_
  ·refine ⟨?_,?_,trivial⟩
   ·show _ ↔ _
    rw [decide_eq_true_iff,show (2 : Int) = ((2 : Nat) : Int) from rfl,jJ]; omega
   ·show _ ↔ _
    rw [decide_eq_true_iff,show (2 : Int) = ((2 : Nat) : Int) from rfl,jJ]; omega
  (try dsimp only[aj]);conv=>whnf
  refine fM ?_;(conv=>whnf);refine ⟨?_,rfl⟩;conv=>whnf
  all_goals exact wk
 ·(try dsimp only[aj]);conv=>whnf
  refine ⟨⟨by omega,by omega⟩,?_⟩
  (try dsimp only[aj]);conv=>whnf
  refine And.intro (fun g2=>by exfalso; omega) (fun _=>?_)
  (try dsimp only[aj]);conv=>whnf
  have cl:=tY (decide (c = 0 /\ b % 2 = 1)) (decide (c = 0 /\ b % 2 = 0))
  refine .pure _ _ ?_ ⟨rfl,rfl⟩ cl fun _=>?_
  ·refine ⟨?_,?_,trivial⟩
   ·show _ = false
    exact decide_eq_false (by omega)
   ·show _ = false
    exact decide_eq_false (by omega)
  (try dsimp only[aj]);conv=>whnf
  refine fM ?_;(conv=>whnf);refine ⟨?_,rfl⟩;conv=>whnf
  all_goals exact wk

theorem UM (f : Fo) (h : qj f) (y n : Nat) (hy : y < 2 ^ 24) (hn : n < 2 ^ 24) : aC Tryz.prog 194 [f.av,O5 y n] [] (.sl 1 ((kG f.vars.toNat y n f.nodes).map (.int .i64)) .no) []:=by
 have hNk:=h.BD
 have hV3:=fun k hk=>uS f.vars.toNat y n h.BD k hk
 obtain ⟨h1,h2,h3,h4⟩:=h
 refine aC.intro lay mixed Tryz.func194 (by kernel_rfl) rfl (by kernel_rfl) rfl fun hok=>?_
 (try dsimp only[aZ,aO]);(try dsimp only[aj]);conv=>whnf
 refine ⟨bf (by simp; omega) (by simp; omega),?_⟩
 (try dsimp only[aj]);conv=>whnf
 refine ⟨by refine ⟨by omega,by simp; omega,by simp; omega,by simp; omega⟩,?_⟩
 refine .wr ?_
 (try dsimp only[aj]);conv=>whnf
 refine aK.of <| aB.inv (.keep 5 2 0 _ 1 _ rfl rfl (by simp) (.refl _ _)) (fun i : Nat=>i <= f.vars.toNat) (fun i=>[(21,.int .i64 i),(5,.sl 1 ((RU i y n).map (.int .i64)) (.own 3))]) (fun i=>[(3,.tok 1 i),(2,.gone),(1,.box (O5 y n)),(0,.box f.av)]) (fun i=>f.vars.toNat - i) 0 ?_ (fun _=>rfl) ?_ ?_
 ·exact Nat.zero_le _
 ·refine ⟨?_,.mk ?_ (by simp [au])⟩
  ·all_goals exact wk
  ·all_goals exact wk
 intro i hi _
 (try dsimp only[aj]);conv=>whnf
 refine And.intro (fun g1=>?_) (fun g1=>?_)
 ·have hlt : i < f.vars.toNat:=by omega
  have hb1:=kK (a:=y) (i:=i) (by omega) (by omega)
  have hb2:=kK (a:=n) (i:=i) (by omega) (by omega)
  have cl:=tY (y.testBit i) (n.testBit i)
  (try dsimp only[aj]);conv=>whnf
  refine aN.auto (by kernel_rfl) ?_;conv=>whnf
  refine ⟨by omega,?_⟩
  conv=>whnf
  refine ⟨by omega,?_⟩
  conv=>whnf
  refine bP.pure _ _ ?_ ⟨rfl,rfl⟩ cl ?_
  ·refine ⟨?_,?_,trivial⟩
   ·show _ ↔ _
    rw [hb1]; cases y.testBit i <;> simp
   ·show _ ↔ _
    rw [hb2]; cases n.testBit i <;> simp
  conv=>whnf
  refine ⟨by simp [RU],.mk (by simp [maxL,RU]; omega) (by simp [RU]; omega) ?_⟩
  (try dsimp only[aj]);conv=>whnf
  refine zA ?_;conv=>whnf
  refine ⟨i + 1,?_,?_,?_⟩
  ·exact hlt
  ·refine ⟨?_,.mk ?_ (by simp [au])⟩
   ·repeat' first|exact rfl|exact trivial|exact wR|exact lR _|apply aI
    all_goals (show dH _ (List.map _ (List.map _ (List.range (i + 1)))); rw [List.range_succ,List.map_append,List.map_append]; exact aA _)
   ·repeat' first|exact rfl|exact trivial|exact wR|exact lR _|apply aI
    all_goals (simp [RU]; done)
  ·omega
 have hil : i = f.vars.toNat:=by omega
 subst hil
 (try dsimp only[aj]);conv=>whnf
 refine aK.of <| aB.inv (.refl _ _) (fun i : Nat=>i <= f.nodes.length) (fun i=>[(44,.int .i64 i),(5,.sl 1 ((kG f.vars.toNat y n (f.nodes.take i)).map (.int .i64)) (.own 3))]) (fun i=>[(3,.tok 1 (f.vars.toNat + i)),(2,.gone),(1,.box (O5 y n)),(0,.box f.av)]) (fun i=>f.nodes.length - i) 0 ?_ (fun _=>rfl) ?_ ?_
 ·exact Nat.zero_le _
 ·refine ⟨?_,.mk ?_ (by simp [au])⟩
  ·all_goals exact wk
  ·all_goals exact wk
 intro i hi _
 (try dsimp only[aj]);conv=>whnf
 refine And.intro (fun g2=>?_) (fun g2=>?_)
 ·have hlt : i < f.nodes.length:=by simpa using g2
  have hx:=h3 i hlt
  have hvl:=oI f.vars.toNat y n (f.nodes.take i)
  rw [List.length_take,Nat.min_eq_left hi] at hvl
  have h3V:=hV3 i hi
  have hvs:=sG (v:=f.vars.toNat) (y:=y) (n:=n) hlt
  have hal16 : f.nodes[i].args.length <= 16:=by
   have hal:=hx.num
   split at hal
   ·omega
   ·split at hal <;> omega
  (try dsimp only[aj]);conv=>whnf
  refine gY hlt ?_
  generalize f.nodes[i] = x at *
  generalize kG f.vars.toNat y n (f.nodes.take i) = V at *
  (try dsimp only[aj]);conv=>whnf
  refine aK.of <| aB.inv (.refl _ _) (fun j : Nat=>j <= x.args.length) (fun j=>[(51,.int .i64 j)]) (fun j=>[(5,.box (.ag [.int .i64 (c3 V 0 (x.args.take j)),.int .i64 (c3 V 1 (x.args.take j)),.int .i64 (c3 V 2 (x.args.take j))])),(4,.box x.av),(3,.tok 1 (f.vars.toNat + i)),(2,.gone),(1,.box (O5 y n)),(0,.box f.av)]) (fun j=>x.args.length - j) 0 ?_ (fun _=>rfl) ?_ ?_
  ·exact Nat.zero_le _
  ·refine ⟨?_,.mk ?_ (by simp [au])⟩
   ·all_goals exact wk
   ·all_goals exact wk
  intro j hj _
  (try dsimp only[aj]);conv=>whnf
  refine And.intro (fun g3=>?_) (fun g3=>?_)
  ·have hjl : j < x.args.length:=by simpa using g3
   have ha:=hx.args _ (List.getElem_mem hjl)
   have q0:=xC (V:=V) (k:=0) hjl
   have q1:=xC (V:=V) (k:=1) hjl
   have q2:=xC (V:=V) (k:=2) hjl
   have l0:=uM V 0 (x.args.take j)
   have l1:=uM V 1 (x.args.take j)
   have l2:=uM V 2 (x.args.take j)
   rw [List.length_take] at l0 l1 l2
   have hz:=h3V.get (x.args[j]).toNat
   (try dsimp only[aj]);conv=>whnf
   refine gY hjl ?_
   generalize x.args[j] = a at *
   (try dsimp only[aj]);conv=>whnf
   refine dA 0 (by rw [hvl]; omega) ?_
   generalize V.getD a.toNat 0 = z at *
   generalize c3 V 0 (x.args.take j) = m0 at *
   generalize c3 V 1 (x.args.take j) = m1 at *
   generalize c3 V 2 (x.args.take j) = m2 at *
   have hz3 : z = 0 \/ z = 1 \/ z = 2:=by omega
   rcases hz3 with rfl | rfl | rfl
   ·(try dsimp only[aj]);conv=>whnf
    refine ⟨⟨by omega,by omega⟩,?_⟩
    (try dsimp only[aj]);conv=>whnf
    refine zA ?_;conv=>whnf
    refine ⟨⟨by omega,by omega⟩,?_⟩
    (try dsimp only[aj]);conv=>whnf
    refine zA ?_;conv=>whnf
    refine ⟨j + 1,?_,?_,?_⟩
    ·exact hjl
    ·rw [q0,q1,q2]
     refine ⟨?_,.mk ?_ (by simp [au])⟩
     ·all_goals exact wk
     ·all_goals exact wk
    ·omega
   ·(try dsimp only[aj]);conv=>whnf
    refine ⟨⟨by omega,by omega⟩,?_⟩
    (try dsimp only[aj]);conv=>whnf
    refine zA ?_;conv=>whnf
    refine ⟨⟨by omega,by omega⟩,?_⟩
    (try dsimp only[aj]);conv=>whnf
    refine zA ?_;conv=>whnf
    refine ⟨j + 1,?_,?_,?_⟩
    ·exact hjl
    ·rw [q0,q1,q2]
     refine ⟨?_,.mk ?_ (by simp [au])⟩
     ·all_goals exact wk
     ·all_goals exact wk
    ·omega
   ·(try dsimp only[aj]);conv=>whnf
    refine ⟨⟨by omega,by omega⟩,?_⟩
    (try dsimp only[aj]);conv=>whnf
    refine zA ?_;conv=>whnf
    refine ⟨⟨by omega,by omega⟩,?_⟩
    (try dsimp only[aj]);conv=>whnf
    refine zA ?_;conv=>whnf
    refine ⟨j + 1,?_,?_,?_⟩
    ·exact hjl
    ·rw [q0,q1,q2]
     refine ⟨?_,.mk ?_ (by simp [au])⟩
     ·all_goals exact wk
     ·all_goals exact wk
    ·omega
  have hjl : j = x.args.length:=by (have : ¬ j < x.args.length:=by simpa using g3); omega
  subst hjl
  rw [List.take_length]
  have l0:=uM V 0 x.args
  have l1:=uM V 1 x.args
  have l2:=uM V 2 x.args
  have cn:=c_tnode x (c3 V 0 x.args) (c3 V 1 x.args) (c3 V 2 x.args) hx.kind (by omega) (by omega) (by omega)
  rw [show JX x (c3 V 0 x.args) (c3 V 1 x.args) (c3 V 2 x.args) = Dv V x from rfl] at cn
  unfold JR at hvs
  generalize Dv V x = z at *
  generalize c3 V 0 x.args = m0 at *
  generalize c3 V 1 x.args = m1 at *
  generalize c3 V 2 x.args = m2 at *
  (try dsimp only[aj]);conv=>whnf
  refine .pure _ _ ?_ ⟨rfl,rfl⟩ cn fun _=>?_
  ·exact ak _
  (try dsimp only[aj]);conv=>whnf
  refine ⟨by rw [List.length_map,hvl],.mk (by simp [maxL]; omega) (by simp; omega) ?_⟩
  (try dsimp only[aj]);conv=>whnf
  refine zA ?_;conv=>whnf
  refine ⟨i + 1,?_,?_,?_⟩
  ·exact hlt
  ·rw [hvs]
   refine ⟨?_,.mk ?_ (by simp [au])⟩
   ·repeat' first|exact rfl|exact trivial|exact wR|exact lR _|apply aI
    all_goals (show dH _ (List.map _ (_ ++ [_])); rw [List.map_append]; exact aA _)
   ·repeat' first|exact rfl|exact trivial|exact wR|exact lR _|apply aI
    all_goals first | (simp [hvl]; done) | (simp [hvl]; omega)
  ·omega
 have hil : i = f.nodes.length:=by (have : ¬ i < f.nodes.length:=by simpa using g2); omega
 subst hil
 rw [List.take_length]
 (try dsimp only[aj]);conv=>whnf
 refine ⟨⟨_,_,.refl _ _,?_⟩⟩
 conv=>whnf
 refine ⟨?_,rfl,by simp [nextId],.mk ?_ (by simp [au])⟩
 ·all_goals exact wk
 ·all_goals exact wk

theorem and_dis {y n : Nat} (h : ∀ i,¬ (y.testBit i = true /\ n.testBit i = true)) : y &&& n = 0:=by
 apply Nat.eq_of_testBit_eq
 intro i
 rw [Nat.testBit_and,Nat.zero_testBit]
 cases h1 : y.testBit i <;> cases h2 : n.testBit i <;> simp
 exact h i ⟨h1,h2⟩

theorem XY (f : Fo) (h : qj f) {p y n : Nat} (hc : Vt f.vars.toNat p y n) : aC Tryz.prog 193 [f.av,O5 y n] [] .eX []:=by
 have cc:=vO f h
 have h1:=h.vars
 have hyl:=hc.yl
 have hnl:=hc.nl
 have hp24 : 2 ^ f.vars.toNat <= 2 ^ 24:=Nat.pow_le_pow_right (by decide) (by omega)
 have hsh:=wG (i:=f.vars.toNat) (by omega)
 rw [show ((f.vars.toNat : Nat) : Int) = f.vars by omega] at hsh
 have han:=SI (a:=y) (b:=n) (by omega) (by omega)
 rw [and_dis hc.dis] at han
 generalize 2 ^ f.vars.toNat = N at *
 refine aC.intro lay mixed Tryz.func193 (by kernel_rfl) rfl (by kernel_rfl) rfl fun hok=>?_
 (try dsimp only[aZ,aO]);(try dsimp only[aj]);conv=>whnf
 refine .pure _ _ ?_ ⟨rfl,rfl⟩ cc fun _=>?_
 ·exact ak _
 (try dsimp only[aj]);conv=>whnf
 refine aN.auto (by kernel_rfl) ?_;conv=>whnf
 refine bN (by omega) ?_
 conv=>whnf
 refine ⟨by omega,?_⟩
 rw [hsh]
 conv=>whnf
 refine bN (by omega) ?_
 conv=>whnf
 refine bN (by omega) ?_
 conv=>whnf
 refine ⟨by omega,?_⟩
 rw [hsh]
 conv=>whnf
 refine bN (by omega) ?_
 (try dsimp only[aj]);conv=>whnf
 rw [han]
 refine bN (by simp) ?_
 (try dsimp only[aj]);conv=>whnf
 refine fM ?_;(conv=>whnf);refine ⟨?_,rfl⟩;conv=>whnf
 all_goals exact wk

theorem Ar (f : Fo) (h : qj f) {p y n : Nat} (hc : Vt f.vars.toNat p y n) : aC Tryz.prog 104 [f.av,O5 y n] [] (.eU [.int .i64 (tri f y n),.eX]) []:=by
 have cc:=XY f h hc
 have h1:=h.vars
 have h4:=h.top
 have hyl:=hc.yl
 have hnl:=hc.nl
 have hp24 : 2 ^ f.vars.toNat <= 2 ^ 24:=Nat.pow_le_pow_right (by decide) (by omega)
 have cv:=UM f h y n (by omega) (by omega)
 have hl:=oI f.vars.toNat y n f.nodes
 unfold tri
 generalize kG f.vars.toNat y n f.nodes = V at *
 refine aC.intro lay mixed Tryz.func104 (by kernel_rfl) rfl (by kernel_rfl) rfl fun hok=>?_
 (try dsimp only[aZ,aO]);(try dsimp only[aj]);conv=>whnf
 refine .pure _ _ ?_ ⟨rfl,rfl⟩ cc fun _=>?_
 ·exact ak _
 (try dsimp only[aj]);conv=>whnf
 refine aN.auto (by kernel_rfl) ?_;conv=>whnf
 refine bP.pure _ _ ?_ ⟨rfl,rfl⟩ cv ?_
 ·exact ak _
 conv=>whnf
 refine dA 0 (by rw [hl]; omega) ?_
 conv=>whnf
 refine fM ?_;(conv=>whnf);refine ⟨?_,rfl⟩;conv=>whnf
 all_goals exact wk

theorem xA (y n : Bool) : aC Tryz.prog 254 [.bool y,.bool n] [] (.int .i64 (lvl y n)) []:=by
 refine aC.intro lay mixed Tryz.func254 (by kernel_rfl) rfl (by kernel_rfl) rfl fun hok=>?_
 (try dsimp only[aZ,aO]);(try dsimp only[aj]);conv=>whnf
 refine And.intro (fun g=>?_) (fun g=>?_)
 ·rw [show lvl y n = 1 from if_pos g]
  (try dsimp only[aj]);conv=>whnf
  refine fM ?_;(conv=>whnf);refine ⟨?_,rfl⟩;conv=>whnf
  all_goals exact wk
 rw [show lvl y n = if n = true then 0 else 2 from if_neg (by rw [g]; simp)]
 (try dsimp only[aj]);conv=>whnf
 refine And.intro (fun g2=>?_) (fun g2=>?_)
 ·rw [if_pos g2]
  (try dsimp only[aj]);conv=>whnf
  refine fM ?_;(conv=>whnf);refine ⟨?_,rfl⟩;conv=>whnf
  all_goals exact wk
 ·rw [if_neg (by rw [g2]; simp)]
  (try dsimp only[aj]);conv=>whnf
  refine fM ?_;(conv=>whnf);refine ⟨?_,rfl⟩;conv=>whnf
  all_goals exact wk

def ofT (v y n : Nat) (w : List Int) (a : Nat) : Int:=if a < v then lvl (y.testBit a) (n.testBit a) else w.getD (a - v) 0

theorem Ya (f : Fo) (hv : 0 <= f.vars /\ f.vars <= 24) (w : List Int) (y n a : Nat) (hy : y < 2 ^ 24) (hn : n < 2 ^ 24) (ha : a < f.vars.toNat + w.length) (hw : w.length <= 128) :
  aC Tryz.prog 196 [f.av,.ms 0 0 w.length w.length 1,O5 y n,.int .i64 a] [(0,.arr 1 w.length (w.map (.int .i64)))] (.int .i64 (ofT f.vars.toNat y n w a)) [(0,.arr 1 w.length (w.map (.int .i64)))]:=by
 refine aC.intro lay mixed Tryz.func196 (by kernel_rfl) rfl (by kernel_rfl) rfl fun hok=>?_
 (try dsimp only[aZ,aO]);(try dsimp only[aj]);conv=>whnf
 refine And.intro (fun g=>?_) (fun g=>?_)
 ·rw [show ofT f.vars.toNat y n w a = w.getD (a - f.vars.toNat) 0 from if_neg (by omega)]
  (try dsimp only[aj]);conv=>whnf
  refine ⟨bf (by omega) (by omega),?_⟩
  (try dsimp only[aj]);conv=>whnf
  refine ⟨⟨by omega,by omega⟩,?_⟩
  (try dsimp only[aj]);conv=>whnf
  rw [Nat.zero_add]
  refine dA 0 ⟨by omega,by omega⟩ ?_
  rw [Int.toNat_natCast,show ((a : Int) - f.vars).toNat = a - f.vars.toNat by omega]
  (try dsimp only[aj]);conv=>whnf
  refine ⟨rfl,?_⟩
  (try dsimp only[aj]);conv=>whnf
  refine ⟨⟨_,_,.refl _ _,?_⟩⟩
  conv=>whnf
  refine ⟨?_,rfl,by simp [nextId],.mk ?_ (by simp [au])⟩
  ·all_goals exact wk
  ·all_goals exact wk
 ·rw [show ofT f.vars.toNat y n w a = lvl (y.testBit a) (n.testBit a) from if_pos (by omega)]
  have t1:=kK (a:=y) (i:=a) (by omega) (by omega)
  have t2:=kK (a:=n) (i:=a) (by omega) (by omega)
  by_cases hb : y.testBit a = true
  ·rw [show lvl (y.testBit a) (n.testBit a) = 1 from if_pos hb]
   rw [if_pos hb] at t1
   (try dsimp only[aj]);conv=>whnf
   refine ⟨by omega,?_⟩
   (try dsimp only[aj]);conv=>whnf
   rw [t1]
   refine bY rfl ?_
   (try dsimp only[aj]);conv=>whnf
   refine ⟨⟨_,_,.refl _ _,?_⟩⟩
   conv=>whnf
   refine ⟨?_,rfl,by simp [nextId],.mk ?_ (by simp [au])⟩
   ·all_goals exact wk
   ·all_goals exact wk
  rw [show lvl (y.testBit a) (n.testBit a) = if n.testBit a = true then 0 else 2 from if_neg hb]
  rw [if_neg hb] at t1
  (try dsimp only[aj]);conv=>whnf
  refine ⟨by omega,?_⟩
  (try dsimp only[aj]);conv=>whnf
  rw [t1]
  refine bN (by decide) ?_
  (try dsimp only[aj]);conv=>whnf
  refine ⟨by omega,?_⟩
  (try dsimp only[aj]);conv=>whnf
  rw [t2]
  by_cases hb2 : n.testBit a = true
  ·rw [if_pos hb2,if_pos hb2]
   refine bY rfl ?_
   (try dsimp only[aj]);conv=>whnf
   refine ⟨⟨_,_,.refl _ _,?_⟩⟩
   conv=>whnf
   refine ⟨?_,rfl,by simp [nextId],.mk ?_ (by simp [au])⟩
   ·all_goals exact wk
   ·all_goals exact wk
  rw [if_neg hb2,if_neg hb2]
  refine bN (by decide) ?_
  (try dsimp only[aj]);conv=>whnf
  refine ⟨⟨_,_,.refl _ _,?_⟩⟩
  conv=>whnf
  refine ⟨?_,rfl,by simp [nextId],.mk ?_ (by simp [au])⟩
  ·all_goals exact wk
  ·all_goals exact wk

theorem c_r09Of (f : Fo) (hv : 0 <= f.vars /\ f.vars <= 24) (w : List Int) (y n a : Nat) (hy : y < 2 ^ 24) (hn : n < 2 ^ 24) (ha : a < f.vars.toNat + w.length) (hw : w.length <= 128) :
  aC Tryz.prog 196 [f.av,.sl 1 (w.map (.int .i64)) .no,O5 y n,.int .i64 a] [] (.int .i64 (ofT f.vars.toNat y n w a)) []:=by
 refine aC.intro lay mixed Tryz.func196 (by kernel_rfl) rfl (by kernel_rfl) rfl fun hok=>?_
 (try dsimp only[aZ,aO]);(try dsimp only[aj]);conv=>whnf
 refine And.intro (fun g=>?_) (fun g=>?_)
 ·rw [show ofT f.vars.toNat y n w a = w.getD (a - f.vars.toNat) 0 from if_neg (by omega)]
  (try dsimp only[aj]);conv=>whnf
  refine ⟨bf (by omega) (by omega),?_⟩
  (try dsimp only[aj]);conv=>whnf
  refine dA 0 ⟨by omega,by omega⟩ ?_
  rw [show ((a : Int) - f.vars).toNat = a - f.vars.toNat by omega]
  (try dsimp only[aj]);conv=>whnf
  refine ⟨⟨_,_,.refl _ _,?_⟩⟩
  conv=>whnf
  refine ⟨?_,rfl,by simp [nextId],.mk ?_ (by simp [au])⟩
  ·all_goals exact wk
  ·all_goals exact wk
 ·rw [show ofT f.vars.toNat y n w a = lvl (y.testBit a) (n.testBit a) from if_pos (by omega)]
  have t1:=kK (a:=y) (i:=a) (by omega) (by omega)
  have t2:=kK (a:=n) (i:=a) (by omega) (by omega)
  by_cases hb : y.testBit a = true
  ·rw [show lvl (y.testBit a) (n.testBit a) = 1 from if_pos hb]
   rw [if_pos hb] at t1
   (try dsimp only[aj]);conv=>whnf
   refine ⟨by omega,?_⟩
   (try dsimp only[aj]);conv=>whnf
   rw [t1]
   refine bY rfl ?_
   (try dsimp only[aj]);conv=>whnf
   refine ⟨⟨_,_,.refl _ _,?_⟩⟩
   conv=>whnf
   refine ⟨?_,rfl,by simp [nextId],.mk ?_ (by simp [au])⟩
   ·all_goals exact wk
   ·all_goals exact wk
  rw [show lvl (y.testBit a) (n.testBit a) = if n.testBit a = true then 0 else 2 from if_neg hb]
  rw [if_neg hb] at t1
  (try dsimp only[aj]);conv=>whnf
  refine ⟨by omega,?_⟩
  (try dsimp only[aj]);conv=>whnf
  rw [t1]
  refine bN (by decide) ?_
  (try dsimp only[aj]);conv=>whnf
  refine ⟨by omega,?_⟩
  (try dsimp only[aj]);conv=>whnf
  rw [t2]
  by_cases hb2 : n.testBit a = true
  ·rw [if_pos hb2,if_pos hb2]
   refine bY rfl ?_
   (try dsimp only[aj]);conv=>whnf
   refine ⟨⟨_,_,.refl _ _,?_⟩⟩
   conv=>whnf
   refine ⟨?_,rfl,by simp [nextId],.mk ?_ (by simp [au])⟩
   ·all_goals exact wk
   ·all_goals exact wk
  rw [if_neg hb2,if_neg hb2]
  refine bN (by decide) ?_
  (try dsimp only[aj]);conv=>whnf
  refine ⟨⟨_,_,.refl _ _,?_⟩⟩
  conv=>whnf
  refine ⟨?_,rfl,by simp [nextId],.mk ?_ (by simp [au])⟩
  ·all_goals exact wk
  ·all_goals exact wk

def wT (f : Fo) (y n i : Nat) : List Int:=(kG f.vars.toNat y n (f.nodes.take i)).drop f.vars.toNat ++ List.replicate (f.nodes.length - i) 0

theorem TB (V : List Int) (l : List Nd) : ∃ t,l.foldl JR V = V ++ t:=by
 induction l generalizing V with
 | nil=>exact ⟨[],by simp⟩
 | cons x l ih =>
   obtain ⟨t,ht⟩:=ih (JR V x)
   exact ⟨[Dv V x] ++ t,by rw [List.foldl_cons,ht]; unfold JR; rw [List.append_assoc]⟩

theorem evT_lt {v y n a : Nat} (h : a < v) : a < (RU v y n).length:=by simp [RU]; exact h

theorem ofT_w (f : Fo) (y n i a : Nat) (hi : i <= f.nodes.length) (ha : a < f.vars.toNat + i) : ofT f.vars.toNat y n (wT f y n i) a = (kG f.vars.toNat y n (f.nodes.take i)).getD a 0:=by
 have hl:=oI f.vars.toNat y n (f.nodes.take i)
 rw [List.length_take,Nat.min_eq_left hi] at hl
 unfold ofT
 split
 ·rename_i h
  obtain ⟨t,ht⟩:=TB (RU f.vars.toNat y n) (f.nodes.take i)
  unfold kG
  rw [ht,List.getD_eq_getElem?_getD,List.getElem?_append_left (evT_lt h),<- List.getD_eq_getElem?_getD]
  exact (ZQ h).symm
 ·unfold wT
  rw [List.getD_eq_getElem?_getD,List.getElem?_append_left (by rw [List.length_drop]; omega),List.getElem?_drop,show f.vars.toNat + (a - f.vars.toNat) = a by omega,<- List.getD_eq_getElem?_getD]

theorem VB (f : Fo) (y n i : Nat) (hi : i <= f.nodes.length) : (wT f y n i).length = f.nodes.length:=by
 have hl:=oI f.vars.toNat y n (f.nodes.take i)
 rw [List.length_take,Nat.min_eq_left hi] at hl
 unfold wT
 rw [List.length_append,List.length_drop,List.length_replicate]; omega

theorem Y4 (f : Fo) (y n i : Nat) (hi : i < f.nodes.length) {b : Int} (hb : kG f.vars.toNat y n (f.nodes.take (i + 1)) = kG f.vars.toNat y n (f.nodes.take i) ++ [b]) : (wT f y n i).set i b = wT f y n (i + 1):=by
 have hl:=oI f.vars.toNat y n (f.nodes.take i)
 rw [List.length_take,Nat.min_eq_left (by omega)] at hl
 unfold wT
 rw [hb]
 generalize kG f.vars.toNat y n (f.nodes.take i) = V at *
 obtain ⟨m,hm⟩ : ∃ m,f.nodes.length - i = m + 1:=⟨f.nodes.length - i - 1,by omega⟩
 rw [hm,show f.nodes.length - (i + 1) = m by omega,List.set_append_right _ _ (by rw [List.length_drop]; omega),List.length_drop,hl,List.drop_append_of_le_length (by omega),List.append_assoc]
 rw [show i - (f.vars.toNat + i - f.vars.toNat) = 0 by omega]
 rfl

theorem Ov (f : Fo) (h : qj f) (y n : Nat) (hy : y < 2 ^ 24) (hn : n < 2 ^ 24) : aC Tryz.prog 197 [f.av,O5 y n] [] (.sl 1 ((wT f y n f.nodes.length).map (.int .i64)) .no) []:=by
 have hV3:=fun k hk=>uS f.vars.toNat y n h.BD k hk
 obtain ⟨h1,h2,h3,h4⟩:=h
 have hwl:=VB f y n
 refine aC.intro lay mixed Tryz.func197 (by kernel_rfl) rfl (by kernel_rfl) rfl fun hok=>?_
 (try dsimp only[aZ,aO]);(try dsimp only[aj]);conv=>whnf
 rw [List.length_map]
 refine ⟨⟨by omega,Int.le_refl _,by show (f.nodes.length : Int) * ((8 : Nat) : Int) <= 281474976710656; omega,by omega⟩,.wr ?_⟩
 rw [Int.toNat_natCast]
 (try dsimp only[aj]);conv=>whnf
 refine aK.of <| (aB.inv (.refl _ _) (fun i : Nat=>i <= f.nodes.length) (fun i=>[(19,.int .i64 i)]) (fun i=>[(2,.arr 1 f.nodes.length ((wT f y n i).map (.int .i64))),(1,.box (O5 y n)),(0,.box f.av)]) (fun i=>f.nodes.length - i) 0 (Nat.zero_le _) ?_ ?_ ?_)
 ·exact fun _=>rfl
 ·refine ⟨?_,.mk ?_ (by simp [au])⟩
  ·all_goals exact wk
  ·repeat' first|exact rfl|exact trivial|exact wR|exact lR _|apply aI
   all_goals first | (refine aY ?_; have e0 : wT f y n 0 = List.replicate f.nodes.length 0:=by unfold wT; rw [List.take_zero,List.drop_of_length_le (by rw [oI]; simp),List.nil_append,Nat.sub_zero]
                      rw [e0,List.map_replicate]) | skip
 intro i hi _
 have hwi:=hwl i hi
 (try dsimp only[aj]);conv=>whnf
 refine And.intro (fun g1=>?_) (fun g1=>?_)
 ·have hlt : i < f.nodes.length:=by simpa using g1
  have hx:=h3 i hlt
  have h3V:=hV3 i hi
  have hvs:=sG (v:=f.vars.toNat) (y:=y) (n:=n) hlt
  have how:=fun a=>ofT_w f y n i a hi
  have hsu:=fun b=>Y4 f y n i hlt (b:=b)
  (try dsimp only[aj]);conv=>whnf
  refine gY hlt ?_
  generalize f.nodes[i] = x at *
  generalize kG f.vars.toNat y n (f.nodes.take i) = V at *
  generalize wT f y n i = w at *
  have hal16 : x.args.length <= 16:=by
   have hal:=hx.num
   split at hal
   ·omega
   ·split at hal <;> omega
  (try dsimp only[aj]);conv=>whnf
  refine aK.of <| (aB.inv (.refl _ _) (fun j : Nat=>j <= x.args.length) (fun j=>[(28,.int .i64 j)]) (fun j=>[(4,.box (.ag [.int .i64 (c3 V 0 (x.args.take j)),.int .i64 (c3 V 1 (x.args.take j)),.int .i64 (c3 V 2 (x.args.take j))])),(3,.box x.av),(2,.arr 1 f.nodes.length (w.map (.int .i64))),(1,.box (O5 y n)),(0,.box f.av)]) (fun j=>x.args.length - j) 0 (Nat.zero_le _) ?_ ?_ ?_)
  ·exact fun _=>rfl
  ·refine ⟨?_,.mk ?_ (by simp [au])⟩
   ·all_goals exact wk
   ·all_goals exact wk
  intro j hj _
  (try dsimp only[aj]);conv=>whnf
  refine And.intro (fun g2=>?_) (fun g2=>?_)
  ·have hjl : j < x.args.length:=by simpa using g2
   have ha:=hx.args _ (List.getElem_mem hjl)
   have q0:=xC (V:=V) (k:=0) hjl
   have q1:=xC (V:=V) (k:=1) hjl
   have q2:=xC (V:=V) (k:=2) hjl
   have l0:=uM V 0 (x.args.take j)
   have l1:=uM V 1 (x.args.take j)
   have l2:=uM V 2 (x.args.take j)
   rw [List.length_take] at l0 l1 l2
   have hz:=h3V.get (x.args[j]).toNat
   have co:=Ya f h1 w y n (x.args[j]).toNat hy hn (by omega) (by omega)
   rw [how _ (by omega),hwi,show (((x.args[j]).toNat : Nat) : Int) = x.args[j] by omega] at co
   (try dsimp only[aj]);conv=>whnf
   refine gY hjl ?_
   generalize x.args[j] = a at *
   generalize V.getD a.toNat 0 = z at *
   generalize c3 V 0 (x.args.take j) = m0 at *
   generalize c3 V 1 (x.args.take j) = m1 at *
   generalize c3 V 2 (x.args.take j) = m2 at *
   have hz3 : z = 0 \/ z = 1 \/ z = 2:=by omega
   rcases hz3 with rfl | rfl | rfl
   ·(try dsimp only[aj]);conv=>whnf
    refine .gen _ _ (aC.frame [2] co ⟨rfl,rfl,rfl,rfl⟩ ?_ ?_) fun _=>?_
    ·all_goals exact wk
    ·all_goals exact wk
    (try dsimp only[aj]);conv=>whnf
    refine ⟨⟨by omega,by omega⟩,?_⟩
    (try dsimp only[aj]);conv=>whnf
    refine zA ?_;conv=>whnf
    refine ⟨⟨by omega,by omega⟩,?_⟩
    (try dsimp only[aj]);conv=>whnf
    refine zA ?_;conv=>whnf
    refine ⟨j + 1,?_,?_,?_⟩
    ·exact hjl
    ·rw [q0,q1,q2]
     refine ⟨?_,.mk ?_ (by simp [au])⟩
     ·all_goals exact wk
     ·all_goals exact wk
    ·omega
   ·(try dsimp only[aj]);conv=>whnf
    refine .gen _ _ (aC.frame [2] co ⟨rfl,rfl,rfl,rfl⟩ ?_ ?_) fun _=>?_
    ·all_goals exact wk
    ·all_goals exact wk
    (try dsimp only[aj]);conv=>whnf
    refine ⟨⟨by omega,by omega⟩,?_⟩
    (try dsimp only[aj]);conv=>whnf
    refine zA ?_;conv=>whnf
    refine ⟨⟨by omega,by omega⟩,?_⟩
    (try dsimp only[aj]);conv=>whnf
    refine zA ?_;conv=>whnf
    refine ⟨j + 1,?_,?_,?_⟩
    ·exact hjl
    ·rw [q0,q1,q2]
     refine ⟨?_,.mk ?_ (by simp [au])⟩
     ·all_goals exact wk
     ·all_goals exact wk
    ·omega
   ·(try dsimp only[aj]);conv=>whnf
    refine .gen _ _ (aC.frame [2] co ⟨rfl,rfl,rfl,rfl⟩ ?_ ?_) fun _=>?_
    ·all_goals exact wk
    ·all_goals exact wk
    (try dsimp only[aj]);conv=>whnf
    refine ⟨⟨by omega,by omega⟩,?_⟩
    (try dsimp only[aj]);conv=>whnf
    refine zA ?_;conv=>whnf
    refine ⟨⟨by omega,by omega⟩,?_⟩
    (try dsimp only[aj]);conv=>whnf
    refine zA ?_;conv=>whnf
    refine ⟨j + 1,?_,?_,?_⟩
    ·exact hjl
    ·rw [q0,q1,q2]
     refine ⟨?_,.mk ?_ (by simp [au])⟩
     ·all_goals exact wk
     ·all_goals exact wk
    ·omega
  have hjl : j = x.args.length:=by (have : ¬ j < x.args.length:=by simpa using g2); omega
  subst hjl
  clear g2
  rw [List.take_length]
  have hk:=hx.kind
  have hkk:=hx.k
  have l0:=uM V 0 x.args
  have l1:=uM V 1 x.args
  have l2:=uM V 2 x.args
  have hsum:=Yl h3V x.args
  have hsu : ∀ z : Int,Dv V x = z -> w.set i z = wT f y n (i + 1):=fun z hz=>hsu z (by rw [hvs,JR,hz])
  have Nr : Dv V x = JX x (c3 V 0 x.args) (c3 V 1 x.args) (c3 V 2 x.args):=rfl
  clear hvs how
  generalize Dv V x = tv at *
  generalize c3 V 0 x.args = a at *
  generalize c3 V 1 x.args = b at *
  generalize c3 V 2 x.args = c at *
  unfold JX at Nr
  (try dsimp only[aj]);conv=>whnf
  refine And.intro (fun k0=>?_) (fun k0=>?_)
  ·rw [if_pos k0] at Nr hkk
   have hz : tv = lvl (decide (x.k = 1)) true:=by
    rw [Nr]; unfold lvl
    rcases hkk with e | e <;> simp [e]
   (try dsimp only[aj]);conv=>whnf
   have ct:=xA (decide (x.k = 1)) true
   refine .pure _ _ ?_ ⟨rfl,rfl⟩ ct fun _=>?_
   ·refine ⟨?_,?_,trivial⟩
    ·show _ ↔ _
     rw [decide_eq_true_iff]
    ·rfl
   (try dsimp only[aj]);conv=>whnf
   refine ⟨⟨by omega,by omega⟩,?_⟩
   (try dsimp only[aj]);conv=>whnf
   refine ⟨by rw [List.length_map]; omega,rfl,?_⟩
   (try dsimp only[aj]);conv=>whnf
   refine zA ?_;conv=>whnf
   refine ⟨i + 1,?_,?_,?_⟩
   ·exact hlt
   ·rw [<- hsu _ hz,List.map_set]
    refine ⟨?_,.mk ?_ (by simp [au])⟩
    ·all_goals exact wk
    ·repeat' first|exact rfl|exact trivial|exact wR|exact lR _|apply aI
     all_goals first | (rw [Nat.zero_add,Int.toNat_natCast]; exact aA _) | skip
   ·omega
  rw [if_neg k0] at Nr
  (try dsimp only[aj]);conv=>whnf
  refine And.intro (fun k1=>?_) (fun k1=>?_)
  ·rw [if_pos k1] at Nr
   have hz:=Nr
   (try dsimp only[aj]);conv=>whnf
   refine ⟨⟨by omega,by omega⟩,?_⟩
   (try dsimp only[aj]);conv=>whnf
   refine ⟨⟨by omega,by omega⟩,?_⟩
   (try dsimp only[aj]);conv=>whnf
   have ct:=xA (decide (a = 1)) (decide (b = 1))
   refine .pure _ _ ?_ ⟨rfl,rfl⟩ ct fun _=>?_
   ·refine ⟨?_,?_,trivial⟩
    ·show _ ↔ _
     rw [decide_eq_true_iff]; try omega
    ·show _ ↔ _
     rw [decide_eq_true_iff]; try omega
   (try dsimp only[aj]);conv=>whnf
   refine ⟨⟨by omega,by omega⟩,?_⟩
   (try dsimp only[aj]);conv=>whnf
   refine ⟨by rw [List.length_map]; omega,rfl,?_⟩
   (try dsimp only[aj]);conv=>whnf
   refine zA ?_;conv=>whnf
   refine ⟨i + 1,?_,?_,?_⟩
   ·exact hlt
   ·rw [<- hsu _ hz,List.map_set]
    refine ⟨?_,.mk ?_ (by simp [au])⟩
    ·all_goals exact wk
    ·repeat' first|exact rfl|exact trivial|exact wR|exact lR _|apply aI
     all_goals first | (rw [Nat.zero_add,Int.toNat_natCast]; exact aA _) | skip
   ·omega
  rw [if_neg k1] at Nr
  (try dsimp only[aj]);conv=>whnf
  refine And.intro (fun k2=>?_) (fun k2=>?_)
  ·rw [if_pos k2] at Nr
   have hz:=Nr
   (try dsimp only[aj]);conv=>whnf
   refine ⟨⟨by omega,by omega⟩,?_⟩
   (try dsimp only[aj]);conv=>whnf
   refine ⟨⟨by omega,by omega⟩,?_⟩
   (try dsimp only[aj]);conv=>whnf
   rw [List.length_map]
   have ct:=xA (decide (b = x.args.length)) (decide (0 < a))
   refine .pure _ _ ?_ ⟨rfl,rfl⟩ ct fun _=>?_
   ·refine ⟨?_,?_,trivial⟩
    ·show _ ↔ _
     rw [decide_eq_true_iff]; try omega
    ·show _ ↔ _
     rw [decide_eq_true_iff]; try omega
   (try dsimp only[aj]);conv=>whnf
   refine ⟨⟨by omega,by omega⟩,?_⟩
   (try dsimp only[aj]);conv=>whnf
   refine ⟨by rw [List.length_map]; omega,rfl,?_⟩
   (try dsimp only[aj]);conv=>whnf
   refine zA ?_;conv=>whnf
   refine ⟨i + 1,?_,?_,?_⟩
   ·exact hlt
   ·rw [<- hsu _ hz,List.map_set]
    refine ⟨?_,.mk ?_ (by simp [au])⟩
    ·all_goals exact wk
    ·repeat' first|exact rfl|exact trivial|exact wR|exact lR _|apply aI
     all_goals first | (rw [Nat.zero_add,Int.toNat_natCast]; exact aA _) | skip
   ·omega
  rw [if_neg k2] at Nr
  (try dsimp only[aj]);conv=>whnf
  refine And.intro (fun k3=>?_) (fun k3=>?_)
  ·rw [if_pos k3] at Nr
   have hz:=Nr
   (try dsimp only[aj]);conv=>whnf
   refine ⟨⟨by omega,by omega⟩,?_⟩
   (try dsimp only[aj]);conv=>whnf
   refine ⟨⟨by omega,by omega⟩,?_⟩
   (try dsimp only[aj]);conv=>whnf
   rw [List.length_map]
   have ct:=xA (decide (0 < b)) (decide (a = x.args.length))
   refine .pure _ _ ?_ ⟨rfl,rfl⟩ ct fun _=>?_
   ·refine ⟨?_,?_,trivial⟩
    ·show _ ↔ _
     rw [decide_eq_true_iff]; try omega
    ·show _ ↔ _
     rw [decide_eq_true_iff]; try omega
   (try dsimp only[aj]);conv=>whnf
   refine ⟨⟨by omega,by omega⟩,?_⟩
   (try dsimp only[aj]);conv=>whnf
   refine ⟨by rw [List.length_map]; omega,rfl,?_⟩
   (try dsimp only[aj]);conv=>whnf
   refine zA ?_;conv=>whnf
   refine ⟨i + 1,?_,?_,?_⟩
   ·exact hlt
   ·rw [<- hsu _ hz,List.map_set]
    refine ⟨?_,.mk ?_ (by simp [au])⟩
    ·all_goals exact wk
    ·repeat' first|exact rfl|exact trivial|exact wR|exact lR _|apply aI
     all_goals first | (rw [Nat.zero_add,Int.toNat_natCast]; exact aA _) | skip
   ·omega
  rw [if_neg k3] at Nr
  (try dsimp only[aj]);conv=>whnf
  refine And.intro (fun k4=>?_) (fun k4=>?_)
  ·rw [if_pos k4] at Nr
   have hz:=Nr
   (try dsimp only[aj]);conv=>whnf
   refine ⟨⟨by omega,by omega⟩,?_⟩
   (try dsimp only[aj]);conv=>whnf
   refine ⟨⟨by omega,by omega⟩,?_⟩
   (try dsimp only[aj]);conv=>whnf
   rw [List.length_map]
   refine zA ?_;conv=>whnf
   have ct:=xA (decide (x.k <= b)) (decide ((b : Int) + c < x.k))
   refine .pure _ _ ?_ ⟨rfl,rfl⟩ ct fun _=>?_
   ·refine ⟨?_,?_,trivial⟩
    ·show _ ↔ _
     rw [decide_eq_true_iff]; try omega
    ·show _ ↔ _
     rw [decide_eq_true_iff]; try omega
   (try dsimp only[aj]);conv=>whnf
   refine ⟨⟨by omega,by omega⟩,?_⟩
   (try dsimp only[aj]);conv=>whnf
   refine ⟨by rw [List.length_map]; omega,rfl,?_⟩
   (try dsimp only[aj]);conv=>whnf
   refine zA ?_;conv=>whnf
   refine ⟨i + 1,?_,?_,?_⟩
   ·exact hlt
   ·rw [<- hsu _ hz,List.map_set]
    refine ⟨?_,.mk ?_ (by simp [au])⟩
    ·all_goals exact wk
    ·repeat' first|exact rfl|exact trivial|exact wR|exact lR _|apply aI
     all_goals first | (rw [Nat.zero_add,Int.toNat_natCast]; exact aA _) | skip
   ·omega
  rw [if_neg k4] at Nr
  have hz : tv = lvl (decide (c = 0 /\ b % 2 = 1)) (decide (c = 0)):=by
   rw [Nr]; unfold lvl
   by_cases e1 : c = 0 <;> by_cases e2 : b % 2 = 1 <;> simp [e1,e2]
  have ct:=xA (decide (c = 0 /\ b % 2 = 1)) (decide (c = 0))
  (try dsimp only[aj]);conv=>whnf
  refine ⟨⟨by omega,by omega⟩,?_⟩
  (try dsimp only[aj]);conv=>whnf
  refine And.intro (fun g=>?_) (fun g=>?_)
  ·(try dsimp only[aj]);conv=>whnf
   refine ⟨⟨by omega,by omega⟩,?_⟩
   (try dsimp only[aj]);conv=>whnf
   refine ⟨by decide,?_⟩
   (try dsimp only[aj]);conv=>whnf
   refine ⟨⟨by omega,by omega⟩,?_⟩
   (try dsimp only[aj]);conv=>whnf
   refine .pure _ _ ?_ ⟨rfl,rfl⟩ ct fun _=>?_
   ·refine ⟨?_,?_,trivial⟩
    ·show _ ↔ _
     rw [decide_eq_true_iff,show (2 : Int) = ((2 : Nat) : Int) from rfl,jJ]; omega
    ·show _ ↔ _
     rw [decide_eq_true_iff]; omega
   (try dsimp only[aj]);conv=>whnf
   refine ⟨⟨by omega,by omega⟩,?_⟩
   (try dsimp only[aj]);conv=>whnf
   refine ⟨by rw [List.length_map]; omega,rfl,?_⟩
   (try dsimp only[aj]);conv=>whnf
   refine zA ?_;conv=>whnf
   refine ⟨i + 1,?_,?_,?_⟩
   ·exact hlt
   ·rw [<- hsu _ hz,List.map_set]
    refine ⟨?_,.mk ?_ (by simp [au])⟩
    ·all_goals exact wk
    ·repeat' first|exact rfl|exact trivial|exact wR|exact lR _|apply aI
     all_goals first | (rw [Nat.zero_add,Int.toNat_natCast]; exact aA _) | skip
   ·omega
  ·(try dsimp only[aj]);conv=>whnf
   refine ⟨⟨by omega,by omega⟩,?_⟩
   (try dsimp only[aj]);conv=>whnf
   refine .pure _ _ ?_ ⟨rfl,rfl⟩ ct fun _=>?_
   ·refine ⟨?_,?_,trivial⟩
    ·show _ = false
     exact decide_eq_false (by omega)
    ·show _ ↔ _
     rw [decide_eq_true_iff]; omega
   (try dsimp only[aj]);conv=>whnf
   refine ⟨⟨by omega,by omega⟩,?_⟩
   (try dsimp only[aj]);conv=>whnf
   refine ⟨by rw [List.length_map]; omega,rfl,?_⟩
   (try dsimp only[aj]);conv=>whnf
   refine zA ?_;conv=>whnf
   refine ⟨i + 1,?_,?_,?_⟩
   ·exact hlt
   ·rw [<- hsu _ hz,List.map_set]
    refine ⟨?_,.mk ?_ (by simp [au])⟩
    ·all_goals exact wk
    ·repeat' first|exact rfl|exact trivial|exact wR|exact lR _|apply aI
     all_goals first | (rw [Nat.zero_add,Int.toNat_natCast]; exact aA _) | skip
   ·omega
 have hil : i = f.nodes.length:=by (have : ¬ i < f.nodes.length:=by simpa using g1); omega
 subst hil
 (try dsimp only[aj]);conv=>whnf
 refine ⟨⟨_,_,.freeze 4 2 _ _ _ _ _ _ rfl rfl ?_ (.refl _ _),?_⟩⟩
 ·rw [List.length_map]; omega
 conv=>whnf
 refine ⟨?_,rfl,by simp [nextId],.mk ?_ (by simp [au])⟩
 ·repeat' first|exact rfl|exact trivial|exact wR|exact lR _|apply aI
  all_goals first | (refine aY ?_; rw [List.drop_zero,List.take_of_length_le (by rw [List.length_map]; omega)]) | skip
 ·all_goals exact wk

theorem tX (f : Fo) (h : qj f) (y n : Nat) (hy : y < 2 ^ 24) (hn : n < 2 ^ 24) : aC Tryz.prog 107 [f.av,O5 y n] [] (.int .i64 (tri f y n)) []:=by
 have cv:=Ov f h y n hy hn
 have hwl:=VB f y n f.nodes.length (Nat.le_refl _)
 have h1:=h.vars
 have h2:=h.len
 have h4:=h.top
 have co:=c_r09Of f h1 (wT f y n f.nodes.length) y n f.top.toNat hy hn (by omega) (by omega)
 rw [ofT_w f y n f.nodes.length f.top.toNat (Nat.le_refl _) (by omega),List.take_length,show ((f.top.toNat : Nat) : Int) = f.top by omega] at co
 unfold tri
 refine aC.intro lay mixed Tryz.func107 (by kernel_rfl) rfl (by kernel_rfl) rfl fun hok=>?_
 (try dsimp only[aZ,aO]);(try dsimp only[aj]);conv=>whnf
 (refine aN.RQ [0,1] (by kernel_rfl) ?_; (conv=>whnf); (repeat (refine And.intro ⟨rfl,rfl⟩ ?_; (conv=>whnf))))
 refine bP.pure _ _ ?_ ⟨rfl,rfl⟩ cv ?_
 ·exact ak _
 conv=>whnf
 refine bP.pure _ _ ?_ ⟨rfl,rfl⟩ co ?_
 ·exact ak _
 conv=>whnf
 refine fM ?_;(conv=>whnf);refine ⟨?_,rfl⟩;conv=>whnf
 all_goals exact wk



theorem J6 {r : Rat} (w1 : Ws r.num) (w2 : Ws r.den) (l1 : r.num.length <= 100000) (l2 : r.den.length <= 100000) : (wd (aT r).2.1).length <= 100000 /\ (wd (aT r).2.2).length <= 100000:=by
 by_cases h : valid r = true /\ r.num ≠ []
 ·have hp : aT r = (r.neg,val r.num,val r.den):=if_pos h
  obtain ⟨h1,h2⟩:=h
  unfold valid at h1
  rw [if_neg (fun h=>h2 h.1)] at h1
  simp only [Bool.and_eq_true] at h1
  obtain ⟨e1,_⟩:=qY h1.1.1 w1
  obtain ⟨e2,n2⟩:=qY h1.1.2 w2
  rw [hp,show wd (r.neg,val r.num,val r.den).2.1 = r.num from e1,show wd (r.neg,val r.num,val r.den).2.2 = r.den from e2]
  exact ⟨l1,l2⟩
 ·have hp : aT r = (false,0,1):=if_neg h
  have e1 : wd 1 = [1]:=oP (by omega) (by omega)
  rw [hp,show wd ((false,0,1) : Bool × Nat × Nat).2.1 = [] from iy,show wd ((false,0,1) : Bool × Nat × Nat).2.2 = [1] from e1]
  simp

theorem Sr (a b : List Int) : aC Tryz.prog 64 [wL a,wL b] [] (.bool (decide (a = b))) []:=by
 refine aC.intro lay mixed Tryz.func64 (by kernel_rfl) rfl (by kernel_rfl) rfl fun hok=>?_
 have ha : a.length <= 9223372036854775807:=by simpa [yV,Ok,maxL] using hok.1.1
 (try dsimp only[aZ,aO]);(try dsimp only[aj]);conv=>whnf
 refine And.intro (fun h=>?_) (fun h=>?_)
 ·have h : a ≠ b:=by intro e; apply h; rw [e]
  conv=>whnf
  refine fM ?_;(conv=>whnf);refine ⟨?_,rfl⟩;conv=>whnf
  simpa using h
 have h : a.length = b.length:=by simp only [List.length_map] at h; omega
 (try dsimp only[aj]);conv=>whnf
 refine aK.of <| aB.inv (.refl _ _) (fun (i : Nat)=>i <= a.length /\ (a = b ↔ a.drop i = b.drop i)) (fun (i : Nat)=>[(13,.int .i64 i)]) (fun _=>_) (fun (i : Nat)=>a.length - i) 0 ?_ (fun _=>rfl) ?_ ?_
 ·exact ⟨Nat.zero_le _,by simp⟩
 ·all_goals exact wk
 rintro i ⟨hi,hx⟩ _
 (try dsimp only[aj]);conv=>whnf
 refine And.intro (fun h1=>?_) (fun h1=>?_)
 ·have hlt : i < a.length:=by simpa using h1
  have hlt2 : i < b.length:=by omega
  rw [List.drop_eq_getElem_cons hlt,List.drop_eq_getElem_cons hlt2] at hx
  (try dsimp only[aj]);conv=>whnf
  refine aN.auto (by kernel_rfl) ?_;conv=>whnf
  refine gY hlt ?_
  (try dsimp only[aj]);conv=>whnf
  refine gY hlt2 ?_
  (try dsimp only[aj]);conv=>whnf
  refine And.intro (fun h2=>?_) (fun h2=>?_)
  ·(try dsimp only[aj]);conv=>whnf
   refine fM ?_;(conv=>whnf);refine ⟨?_,rfl⟩;conv=>whnf
   have : ¬ a = b:=fun e=>h2 (by simpa using (List.cons.inj (hx.1 e)).1)
   simpa using this
  ·have h2 : a[i] = b[i]:=by simpa using h2
   (try dsimp only[aj]);conv=>whnf
   refine zA ?_;conv=>whnf
   refine ⟨i + 1,?_,?_,?_⟩
   ·refine ⟨hlt,?_⟩
    rw [hx,h2]
    exact ⟨fun e=>(List.cons.inj e).2,fun e=>by rw [e]⟩
   ·all_goals exact wk
   ·omega
 ·have hil : i = a.length:=by have : ¬ i < a.length:=by simpa using h1
                              omega
  (try dsimp only[aj]);conv=>whnf
  refine fM ?_;(conv=>whnf);refine ⟨?_,rfl⟩;conv=>whnf
  have : a = b:=hx.2 (by rw [hil,List.drop_length,h,List.drop_length])
  simpa using this

theorem c_ratEq (a b : Rat) : aC Tryz.prog 20 [a.av,b.av] [] (.bool (decide (a = b))) []:=by
 have c1:=Sr a.num b.num
 have c2:=Sr a.den b.den
 have e : a = b ↔ a.neg = b.neg /\ a.num = b.num /\ a.den = b.den:=by cases a; cases b; simp
 refine aC.intro lay mixed Tryz.func20 (by kernel_rfl) rfl (by kernel_rfl) rfl fun hok=>?_
 (try dsimp only[aZ,aO]);(try dsimp only[aj]);conv=>whnf
 refine And.intro (fun h1=>?_) (fun h1=>?_)
 ·(try dsimp only[aj]);conv=>whnf
  refine .pure _ _ ?_ ⟨rfl,rfl⟩ c1 fun _=>?_
  ·exact ak _
  (try dsimp only[aj]);conv=>whnf
  refine And.intro (fun h2=>?_) (fun h2=>?_)
  ·have h2 : a.num = b.num:=by simpa using h2
   (try dsimp only[aj]);conv=>whnf
   refine .pure _ _ ?_ ⟨rfl,rfl⟩ c2 fun _=>?_
   ·exact ak _
   (try dsimp only[aj]);conv=>whnf
   refine fM ?_;(conv=>whnf);refine ⟨?_,rfl⟩;conv=>whnf
   simp [e,h1,h2]
  ·have h2 : ¬ a.num = b.num:=by simpa using h2
   (try dsimp only[aj]);conv=>whnf
   refine fM ?_;(conv=>whnf);refine ⟨?_,rfl⟩;conv=>whnf
   simp [e,h2]
 ·(try dsimp only[aj]);conv=>whnf
  refine fM ?_;(conv=>whnf);refine ⟨?_,rfl⟩;conv=>whnf
  simp [e,h1]


theorem c_Num (e : Int) : aC Tryz.prog 16 [xW e] [] (.int .i64 e) []:=by
 by_cases h0 : e = 0
 ·subst h0
  rw [gX]
  refine aC.intro lay mixed Tryz.func16 (by kernel_rfl) rfl (by kernel_rfl) rfl fun hok=>?_
  (try dsimp only[aZ,aO]);(try dsimp only[aj]);conv=>whnf
  refine fM ?_;(conv=>whnf);refine ⟨?_,rfl⟩;conv=>whnf
  all_goals exact wk
 ·rw [jB h0]
  refine aC.intro lay mixed Tryz.func16 (by kernel_rfl) rfl (by kernel_rfl) rfl fun hok=>?_
  (try dsimp only[aZ,aO]);(try dsimp only[aj]);conv=>whnf
  refine fM ?_;(conv=>whnf);refine ⟨?_,rfl⟩;conv=>whnf
  all_goals exact wk


theorem Py {p x y c s va vb D : Nat} (hD : x + y + c = D) (h : s + p * c = va + vb) : s + p * (D % 4294967296) + p * 4294967296 * (D / 4294967296) = va + p * x + (vb + p * y):=by
 have e : D = D % 4294967296 + 4294967296 * (D / 4294967296):=(Nat.mod_add_div _ _).symm
 have e2 : p * D = p * (D % 4294967296) + p * (4294967296 * (D / 4294967296)):=by rw [<- Nat.mul_add,<- e]
 have e3 : p * D = p * x + p * y + p * c:=by rw [<- hD,Nat.mul_add,Nat.mul_add]
 rw [<- Nat.mul_assoc] at e2
 omega

theorem Wj {B m la lb a b s c : Nat} (hB : 2 <= B) (ha : a < B ^ la) (hb : b < B ^ lb) (hla : la < m) (hlb : lb < m) (h : s + B ^ m * c = a + b) : s = a + b:=by
 have h1 : B ^ la <= B ^ (m - 1):=Nat.pow_le_pow_right (by omega) (by omega)
 have h2 : B ^ lb <= B ^ (m - 1):=Nat.pow_le_pow_right (by omega) (by omega)
 have h3 : B ^ m = B ^ (m - 1) * B:=by rw [<- Nat.pow_succ]; congr 1; omega
 have h4 : B ^ (m - 1) * 2 <= B ^ (m - 1) * B:=Nat.mul_le_mul_left _ hB
 cases c with
 | zero=>simpa using h
 | succ c =>
   exfalso
   have h5 : B ^ m * 1 <= B ^ m * (c + 1):=Nat.mul_le_mul_left _ (by omega)
   rw [h3] at h5 h
   omega

def negR (a : Rat) : Rat:=nV (!(aT a).1) (aT a).2.1 (aT a).2.2

def VT (s t : Bool) (x y d : Nat) : Rat:=if s = t then nV s (x + y) d else if x < y then nV t (y - x) d else nV s (x - y) d

def Yx (a b : Rat) : Rat:=VT (aT a).1 (aT b).1 ((aT a).2.1 * (aT b).2.2) ((aT b).2.1 * (aT a).2.2) ((aT a).2.2 * (aT b).2.2)


theorem En {x y k : Nat} (hx : (wd x).length <= k) (hy : (wd y).length <= k) : (wd (x + y)).length <= k + 1:=by
 refine lV ?_
 have h1:=fF (mQ x)
 have h2:=fF (mQ y)
 rw [bD] at h1 h2
 have h3 : 4294967296 ^ (wd x).length <= 4294967296 ^ k:=Nat.pow_le_pow_right (by omega) hx
 have h4 : 4294967296 ^ (wd y).length <= 4294967296 ^ k:=Nat.pow_le_pow_right (by omega) hy
 rw [Nat.pow_succ]
 generalize 4294967296 ^ k = p at *
 generalize 4294967296 ^ (wd x).length = q at *
 generalize 4294967296 ^ (wd y).length = r at *
 omega


theorem KZ (a b : Fo) (ha : qj a) (hb : qj b) (hab : a.vars = b.vars) (h7 : a.vars <= 7) : aC Tryz.prog 17 [a.av,b.av] [] (pG a b).av []:=by
 have h1:=ha.vars
 have hp : 2 ^ a.vars.toNat <= 2 ^ 7:=Nat.pow_le_pow_right (by decide) (by omega)
 have ca:=Au a ha (by omega)
 have cb:=Au b hb (by omega)
 rw [<- hab] at cb
 unfold pG
 have hdk : ∀ k,su (lT a) (lT b) (k + 1) = if lT a k = lT b k then su (lT a) (lT b) k else ⟨false,if (su (lT a) (lT b) k).eq = true then k else (su (lT a) (lT b) k).st,(su (lT a) (lT b) k).cnt + 1,if lT b k = true then (su (lT a) (lT b) k).ga + 1 else (su (lT a) (lT b) k).ga,if lT b k = true then (su (lT a) (lT b) k).lo else (su (lT a) (lT b) k).lo + 1⟩:=fun k=>rfl
 have hdb : ∀ k,(su (lT a) (lT b) k).cnt <= k /\ (su (lT a) (lT b) k).ga <= k /\ (su (lT a) (lT b) k).lo <= k:=fun k=>by
  obtain ⟨_,_,_,q4,q5,q6⟩:=F7 (lT a) (lT b) k
  rw [q4,q5,q6]
  have:=fun p=>List.countP_le_length (p:=p) (l:=List.range k)
  simp only [List.length_range] at this
  exact ⟨this _,this _,this _⟩
 have hd0 : su (lT a) (lT b) 0 = ⟨true,0,0,0,0⟩:=rfl
 generalize su (lT a) (lT b) = D at *
 generalize lT a = va at *
 generalize lT b = vb at *
 generalize 2 ^ a.vars.toNat = n at *
 refine aC.intro lay mixed Tryz.func17 (by kernel_rfl) rfl (by kernel_rfl) rfl fun hok=>?_
 (try dsimp only[aZ,aO]);(try dsimp only[aj]);conv=>whnf
 refine aN.auto (by kernel_rfl) ?_;conv=>whnf
 refine bP.pure _ _ ?_ ⟨rfl,rfl⟩ ca ?_
 ·exact ak _
 conv=>whnf
 refine bP.pure _ _ ?_ ⟨rfl,rfl⟩ cb ?_
 ·exact ak _
 (try dsimp only[aj]);conv=>whnf
 refine aK.of <| (aB.inv (.refl _ _) (fun k : Nat=>k <= n) (fun k=>[(8,.int .i64 k)]) (fun k=>[(3,.box (D k).av),(2,.box zDf),(1,.box b.av),(0,.box a.av)]) (fun k=>n - k) 0 (Nat.zero_le _) ?_ ?_ ?_)
 ·exact fun _=>rfl
 ·rw [hd0]
  refine ⟨?_,.mk ?_ (by simp [au])⟩
  ·all_goals exact wk
  ·all_goals exact wk
 intro k hk _
 have hd1:=hdk k
 obtain ⟨b1,b2,b3⟩:=hdb k
 generalize hDk : D k = d at *
 (try dsimp only[aj]);conv=>whnf
 rw [List.length_map,List.length_map,List.length_range]
 refine And.intro (fun g=>?_) (fun g=>?_)
 ·have hlt : k < n:=by omega
  (try dsimp only[aj]);conv=>whnf
  refine aN.auto (by kernel_rfl) ?_;conv=>whnf
  refine dA false ⟨by omega,by simp; omega⟩ ?_
  rw [show ((List.range n).map va).getD ((k : Nat) : Int).toNat false = va k by rw [Int.toNat_natCast,List.getD_eq_getElem?_getD,List.getElem?_map,List.getElem?_range hlt]; rfl]
  conv=>whnf
  refine dA false ⟨by omega,by simp; omega⟩ ?_
  rw [show ((List.range n).map vb).getD ((k : Nat) : Int).toNat false = vb k by rw [Int.toNat_natCast,List.getD_eq_getElem?_getD,List.getElem?_map,List.getElem?_range hlt]; rfl]
  conv=>whnf
  refine And.intro (fun g1=>?_) (fun g1=>?_)
  ·rw [if_pos g1] at hd1
   (try dsimp only[aj]);conv=>whnf
   refine zA ?_;conv=>whnf
   refine ⟨k + 1,?_,?_,?_⟩
   ·exact hlt
   ·rw [hd1]
    refine ⟨?_,.mk ?_ (by simp [au])⟩
    ·all_goals exact wk
    ·all_goals exact wk
   ·omega
  rw [if_neg g1] at hd1
  (try dsimp only[aj]);conv=>whnf
  refine And.intro (fun g2=>?_) (fun g2=>?_)
  ·rw [if_pos g2] at hd1
   (try dsimp only[aj]);conv=>whnf
   refine ⟨bf (by omega) (by omega),?_⟩
   (try dsimp only[aj]);conv=>whnf
   refine dA false ⟨by omega,by simp; omega⟩ ?_
   rw [show ((List.range n).map vb).getD ((k : Nat) : Int).toNat false = vb k by rw [Int.toNat_natCast,List.getD_eq_getElem?_getD,List.getElem?_map,List.getElem?_range hlt]; rfl]
   (try dsimp only[aj]);conv=>whnf
   refine And.intro (fun g3=>?_) (fun g3=>?_)
   ·rw [if_pos g3,if_pos g3] at hd1
    (try dsimp only[aj]);conv=>whnf
    refine ⟨bf (by omega) (by omega),?_⟩
    (try dsimp only[aj]);conv=>whnf
    refine zA ?_;conv=>whnf
    refine ⟨k + 1,?_,?_,?_⟩
    ·exact hlt
    ·rw [hd1]
     refine ⟨?_,.mk ?_ (by simp [au])⟩
     ·all_goals exact wk
     ·all_goals exact wk
    ·omega
   ·rw [if_neg (by rw [g3]; simp),if_neg (by rw [g3]; simp)] at hd1
    (try dsimp only[aj]);conv=>whnf
    refine ⟨bf (by omega) (by omega),?_⟩
    (try dsimp only[aj]);conv=>whnf
    refine zA ?_;conv=>whnf
    refine ⟨k + 1,?_,?_,?_⟩
    ·exact hlt
    ·rw [hd1]
     refine ⟨?_,.mk ?_ (by simp [au])⟩
     ·all_goals exact wk
     ·all_goals exact wk
    ·omega
  ·rw [if_neg (by rw [g2]; simp)] at hd1
   (try dsimp only[aj]);conv=>whnf
   refine ⟨bf (by omega) (by omega),?_⟩
   (try dsimp only[aj]);conv=>whnf
   refine dA false ⟨by omega,by simp; omega⟩ ?_
   rw [show ((List.range n).map vb).getD ((k : Nat) : Int).toNat false = vb k by rw [Int.toNat_natCast,List.getD_eq_getElem?_getD,List.getElem?_map,List.getElem?_range hlt]; rfl]
   (try dsimp only[aj]);conv=>whnf
   refine And.intro (fun g3=>?_) (fun g3=>?_)
   ·rw [if_pos g3,if_pos g3] at hd1
    (try dsimp only[aj]);conv=>whnf
    refine ⟨bf (by omega) (by omega),?_⟩
    (try dsimp only[aj]);conv=>whnf
    refine zA ?_;conv=>whnf
    refine ⟨k + 1,?_,?_,?_⟩
    ·exact hlt
    ·rw [hd1]
     refine ⟨?_,.mk ?_ (by simp [au])⟩
     ·all_goals exact wk
     ·all_goals exact wk
    ·omega
   ·rw [if_neg (by rw [g3]; simp),if_neg (by rw [g3]; simp)] at hd1
    (try dsimp only[aj]);conv=>whnf
    refine ⟨bf (by omega) (by omega),?_⟩
    (try dsimp only[aj]);conv=>whnf
    refine zA ?_;conv=>whnf
    refine ⟨k + 1,?_,?_,?_⟩
    ·exact hlt
    ·rw [hd1]
     refine ⟨?_,.mk ?_ (by simp [au])⟩
     ·all_goals exact wk
     ·all_goals exact wk
    ·omega
 ·have hk : k = n:=by omega
  subst hk
  rw [hDk]
  (try dsimp only[aj]);conv=>whnf
  refine fM ?_;(conv=>whnf);refine ⟨?_,rfl⟩;conv=>whnf
  all_goals exact wk

abbrev QQ:=_root_.Rat

def Dx (s : Bool) (n : Nat) : Int:=if s = true then -(n : Int) else n

def fP (q : QQ) : Rat:=if q.num = 0 then ⟨false,[],[]⟩ else ⟨decide (q.num < 0),wd q.num.natAbs,wd q.den⟩

theorem Rk (s : Bool) (n : Nat) : (Dx s n).natAbs = n:=by cases s <;> simp [Dx]
theorem zh (z : Int) : Dx (decide (z < 0)) z.natAbs = z:=by
 unfold Dx
 by_cases h : z < 0
 ·rw [if_pos (by simpa using h)]; omega
 ·rw [if_neg (by simpa using h)]; omega

theorem mY (s : Bool) (n d : Nat) (hd : d ≠ 0) : nV s n d = fP (mkRat (Dx s n) d):=by
 have e1:=Rat.num_mkRat (Dx s n) d
 have e2:=Rat.den_mkRat (Dx s n) d
 rw [if_neg hd,Rk] at e1 e2
 unfold fP nV
 rw [e1,e2]
 have hgd : d.gcd n ∣ n:=Nat.gcd_dvd_right d n
 have hgp : 0 < d.gcd n:=Nat.gcd_pos_of_pos_left n (by omega)
 have hge : n.gcd d = d.gcd n:=Nat.gcd_comm n d
 rw [hge]
 generalize d.gcd n = g at *
 have ediv : (Dx s n) / (g : Int) = Dx s (n / g):=by
  cases s
  ·show (n : Int) / (g : Int) = ((n / g : Nat) : Int)
   exact (Int.natCast_ediv n g).symm
  ·show -(n : Int) / (g : Int) = -((n / g : Nat) : Int)
   rw [Int.natCast_ediv]
   exact Int.neg_ediv_of_dvd (by obtain ⟨c,rfl⟩:=hgd; exact ⟨(c : Int),by simp⟩)
 rw [ediv,Rk]
 by_cases hz : n = 0
 ·subst hz
  rw [if_pos rfl,if_pos (by cases s <;> simp [Dx])]
 ·have hq : 0 < n / g:=Nat.div_pos (Nat.le_of_dvd (by omega) hgd) hgp
  rw [if_neg hz,if_neg (by cases s <;> simp [Dx] <;> omega)]
  congr 1
  generalize n / g = m at *
  cases s
  ·symm; simp [Dx];
  ·symm; simp [Dx]; omega

theorem MW {n : Nat} (h : n ≠ 0) : lJ (wd n) = true:=by
 induction n using Nat.strongRecOn with
 | _ n ih =>
   rw [kQ h]
   by_cases h2 : n / 4294967296 = 0
   ·rw [h2,iy]
    simp [lJ]
    omega
   ·have:=ih _ (Nat.div_lt_self (by omega) (by omega)) h2
    generalize wd (n / 4294967296) = l at *
    simp only [lJ,Bool.and_eq_true,decide_eq_true_eq] at this ⊢
    refine ⟨by simp,?_⟩
    cases l with
    | nil=>exact absurd rfl this.1
    | cons x l=>simpa [List.getLastD] using this.2

theorem qZ (q : QQ) : aT (fP q) = (decide (q.num < 0),q.num.natAbs,q.den):=by
 by_cases h : q.num = 0
 ·have e : fP q = ⟨false,[],[]⟩:=if_pos h
  have hd : q.den = 1:=by
   have:=q.reduced
   rw [h] at this
   simpa using this
  rw [e,h,hd]; rfl
 ·have e : fP q = ⟨decide (q.num < 0),wd q.num.natAbs,wd q.den⟩:=if_neg h
  have hn : q.num.natAbs ≠ 0:=by omega
  have hne : wd q.num.natAbs ≠ []:=by rw [kQ hn]; simp
  rw [e]
  unfold aT
  have hv : valid ⟨decide (q.num < 0),wd q.num.natAbs,wd q.den⟩ = true:=by
   unfold valid
   rw [if_neg (fun h=>hne h.1)]
   dsimp only
   rw [MW hn,MW q.den_nz,bD,bD]
   simpa using q.reduced
  rw [if_pos ⟨hv,hne⟩]
  dsimp only
  rw [bD,bD]

theorem Zx (p q : QQ) : mulR (fP p) (fP q) = fP (p * q):=by
 unfold mulR
 rw [qZ,qZ]
 dsimp only
 rw [mY _ _ _ (Nat.mul_ne_zero p.den_nz q.den_nz)]
 congr 1
 rw [<- Rat.mkRat_self p,<- Rat.mkRat_self q,Rat.mkRat_mul_mkRat,Rat.mkRat_self,Rat.mkRat_self]
 congr 1
 rw [<- Int.natAbs_mul]
 have h1:=zh p.num
 have h2:=zh q.num
 conv=>rhs; rw [<- h1,<- h2]
 rw [Int.natAbs_mul]
 generalize decide (p.num < 0) = s
 generalize decide (q.num < 0) = t
 cases s <;> cases t <;> simp [Dx] <;> grind

theorem Za (s t : Bool) (x y d : Nat) (hd : d ≠ 0) : VT s t x y d = fP (mkRat (Dx s x + Dx t y) d):=by
 unfold VT
 split
 ·rename_i h
  subst h
  rw [mY _ _ _ hd]
  congr 2
  cases s <;> simp [Dx]; omega
 ·rename_i h
  split
  ·rename_i hl
   rw [mY _ _ _ hd]
   congr 2
   cases s <;> cases t <;> simp [Dx] at h ⊢ <;> omega
  ·rename_i hl
   rw [mY _ _ _ hd]
   congr 2
   cases s <;> cases t <;> simp [Dx] at h ⊢ <;> omega

theorem add_can (p q : QQ) : Yx (fP p) (fP q) = fP (p + q):=by
 unfold Yx
 rw [qZ,qZ]
 dsimp only
 rw [Za _ _ _ _ _ (Nat.mul_ne_zero p.den_nz q.den_nz)]
 congr 1
 conv=>rhs; rw [<- Rat.mkRat_self p,<- Rat.mkRat_self q]
 rw [Rat.mkRat_add_mkRat _ _ p.den_nz q.den_nz]
 congr 1
 have h1:=zh p.num
 have h2:=zh q.num
 conv=>rhs; rw [<- h1,<- h2]
 generalize decide (p.num < 0) = s
 generalize decide (q.num < 0) = t
 generalize p.num.natAbs = a
 generalize q.num.natAbs = b
 cases s <;> cases t <;> simp [Dx] <;> grind

theorem Zv (p : QQ) : negR (fP p) = fP (-p):=by
 unfold negR
 rw [qZ]
 dsimp only
 rw [mY _ _ _ p.den_nz]
 congr 1
 conv=>rhs; rw [<- Rat.mkRat_self p,Rat.neg_mkRat]
 congr 1
 have h1:=zh p.num
 conv=>rhs; rw [<- h1]
 generalize decide (p.num < 0) = s
 cases s <;> simp [Dx]

def qv (r : Rat) : QQ:=mkRat (Dx r.neg (val r.num)) (val r.den)

theorem TG {r : Rat} (h : valid r = true) (w1 : Ws r.num) (w2 : Ws r.den) : r = fP (qv r):=by
 obtain ⟨neg,num,den⟩:=r
 dsimp only at w1 w2
 unfold valid at h
 split at h
 ·rename_i e
  dsimp only at e h
  obtain ⟨rfl,rfl⟩:=e
  have : neg = false:=by simpa using h
  subst this
  rfl
 ·simp only [Bool.and_eq_true,decide_eq_true_eq] at h
  obtain ⟨⟨h1,h2⟩,h3⟩:=h
  obtain ⟨e1,n1⟩:=qY h1 w1
  obtain ⟨e2,n2⟩:=qY h2 w2
  dsimp only at *
  have:=mY neg (val num) (val den) n2
  unfold qv
  rw [<- this]
  unfold nV
  rw [if_neg n1,h3,Nat.div_one,Nat.div_one,e1,e2]

def Sz (q : QQ) (k : Nat) : Prop:=(wd q.num.natAbs).length <= k /\ (wd q.den).length <= k

theorem Sz.mono {q : QQ} {k l : Nat} (h : Sz q k) (hl : k <= l) : Sz q l:=⟨by have:=h.1; omega,by have:=h.2; omega⟩
theorem Sz.neg {q : QQ} {k : Nat} (h : Sz q k) : Sz (-q) k:=by
 unfold Sz
 rw [Rat.neg_num,Rat.neg_den,Int.natAbs_neg]; exact h

theorem Sz_mk {z : Int} {d k : Nat} (hd : d ≠ 0) (h1 : (wd z.natAbs).length <= k) (h2 : (wd d).length <= k) : Sz (mkRat z d) k:=by
 unfold Sz
 rw [Rat.num_mkRat,Rat.den_mkRat,if_neg hd,if_neg hd]
 have hg : 0 < d.gcd z.natAbs:=Nat.gcd_pos_of_pos_left _ (by omega)
 generalize d.gcd z.natAbs = g at *
 refine ⟨Nat.le_trans (dZ ?_) h1,Nat.le_trans (dZ (Nat.div_le_self d g)) h2⟩
 have:=Int.natAbs_ediv_le_natAbs z (g : Int)
 exact this

theorem Sz.mul {p q : QQ} {k l : Nat} (hp : Sz p k) (hq : Sz q l) : Sz (p * q) (k + l):=by
 rw [<- Rat.mkRat_self p,<- Rat.mkRat_self q,Rat.mkRat_mul_mkRat]
 refine Sz_mk (Nat.mul_ne_zero p.den_nz q.den_nz) ?_ (jf hp.2 hq.2)
 rw [Int.natAbs_mul]
 exact jf hp.1 hq.1

theorem Sz.add {p q : QQ} {k l : Nat} (hp : Sz p k) (hq : Sz q l) : Sz (p + q) (k + l + 1):=by
 rw [<- Rat.mkRat_self p,<- Rat.mkRat_self q,Rat.mkRat_add_mkRat _ _ p.den_nz q.den_nz]
 have h1:=jf hp.1 hq.2
 have h2:=jf hq.1 hp.2
 refine Sz_mk (Nat.mul_ne_zero p.den_nz q.den_nz) ?_ (by have:=jf hp.2 hq.2; omega)
 refine Nat.le_trans (dZ (y:=p.num.natAbs * q.den + q.num.natAbs * p.den) ?_) (En h1 (by omega))
 refine Nat.le_trans (Int.natAbs_add_le _ _) ?_
 rw [Int.natAbs_mul,Int.natAbs_mul]
 simp

theorem HY {q : QQ} {k : Nat} (h : Sz q k) : (fP q).num.length <= k /\ (fP q).den.length <= k:=by
 unfold fP
 split
 ·exact ⟨Nat.zero_le _,Nat.zero_le _⟩
 ·exact h

theorem IZ {s : List Int} {i m : Nat} {d : Int} (h : s.length = i) (hi : i < m) : (s ++ List.replicate (m - i) 0).set i d = (s ++ [d]) ++ List.replicate (m - (i + 1)) 0:=by
 obtain ⟨k,hk⟩ : ∃ k,m - i = k + 1:=⟨m - i - 1,by omega⟩
 rw [hk,show m - (i + 1) = k by omega,List.set_append_right _ _ (by omega),h,Nat.sub_self,List.append_assoc]
 rfl

theorem c_nAdd (a b : List Int) (ha : a.length <= 900000) (hb : b.length <= 900000) : aC Tryz.prog 240 [wL a,wL b] [] (wL (wd (val a + val b))) []:=by
 refine aC.intro lay mixed Tryz.func240 (by kernel_rfl) rfl (by kernel_rfl) rfl fun hok=>?_
 have wa : Ws a:=Ws.ok hok.1.2
 have wb : Ws b:=Ws.ok hok.2.1.2
 (try dsimp only[aZ,aO]);(try dsimp only[aj]);conv=>whnf
 obtain ⟨m,hm⟩ : ∃ m,max a.length b.length + 1 = m:=⟨_,rfl⟩
 have em : max (((a.map (AV.int .u32)).length : Nat) : Int) (((b.map (AV.int .u32)).length : Nat) : Int) + 1 = (m : Int):=by simp only [List.length_map]; omega
 refine And.intro (by rw [em]; exact bf (by omega) (by omega)) ?_
 rw [em]
 conv=>whnf
 refine ⟨⟨by omega,by omega,by simp; omega,by omega⟩,.wr ?_⟩
 conv=>whnf
 refine aK.of <| aB.inv (.refl _ _) (fun x : Nat × Nat × List Int=>x.1 <= m /\ x.2.1 <= 1 /\ Ws x.2.2 /\ x.2.2.length = x.1 /\ val x.2.2 + 4294967296 ^ x.1 * x.2.1 = val (a.take x.1) + val (b.take x.1))
  (fun | (i,c,s)=>[(17,.int .i64 i),(6,.int .u64 c)]) (fun | (i,_,s)=>[(0,.arr 1 m ((s ++ List.replicate (m - i) 0).map (.int .u32)))])
  (fun x=>m - x.1) (0,0,[]) ?_ (fun _=>rfl) ?_ ?_
 ·exact ⟨Nat.zero_le _,by simp,Ws.nil,rfl,by simp [val]⟩
 ·refine ⟨?_,.mk ?_ ⟨by simp,trivial⟩⟩
  ·all_goals exact wk
  ·repeat' first|exact rfl|exact trivial|exact wR|exact lR _|apply aI
   all_goals first | (show dH (List.replicate _ _) (List.map _ ([] ++ List.replicate _ 0)); rw [List.nil_append,List.map_replicate]; exact aA _) | skip
 rintro ⟨i,c,s⟩ ⟨hi,hc,hws,hsl,hv⟩ _
 simp only at hi hc hws hsl hv
 (try dsimp only[aj]);conv=>whnf
 refine And.intro (fun h=>?_) (fun h=>?_)
 ·have hlt : i < m:=by omega
  have ca:=vN a i
  have cb:=vN b i
  have hva:=bQ (l:=a) (i:=i)
  have hvb:=bQ (l:=b) (i:=i)
  have hxa:=wa.getD (i:=i)
  have hxb:=wb.getD (i:=i)
  generalize a.getD i 0 = x0 at *
  generalize b.getD i 0 = y0 at *
  obtain ⟨x,rfl⟩ : ∃ x : Nat,x0 = x:=⟨x0.toNat,by omega⟩
  obtain ⟨w,rfl⟩ : ∃ x : Nat,y0 = x:=⟨y0.toNat,by omega⟩
  rw [Int.toNat_natCast] at hva hvb
  (try dsimp only[aj]);conv=>whnf
  refine .gen _ _ (aC.fC ca (ak _) ⟨rfl,rfl⟩) fun _=>?_
  (try dsimp only[aj]);conv=>whnf
  refine .gen _ _ (aC.fC cb (ak _) ⟨rfl,rfl⟩) fun _=>?_
  conv=>whnf
  rw [show ((x : Int) + (w : Int)) = ((x + w : Nat) : Int) from (Int.natCast_add x w).symm,wrap_u64 (n:=((x + w : Nat) : Int)) (by omega) (by omega)]
  rw [show ((c : Int) + ((x + w : Nat) : Int)) = ((x + w + c : Nat) : Int) by omega,wrap_u64 (n:=((x + w + c : Nat) : Int)) (by omega) (by omega)]
  obtain ⟨D,hD⟩ : ∃ D,x + w + c = D:=⟨_,rfl⟩
  rw [hD]
  conv=>whnf
  rw [dY (a:=D)]
  refine ⟨⟨by omega,by omega⟩,?_⟩
  conv=>whnf
  refine ⟨by rw [List.length_map,List.length_append,List.length_replicate]; omega,rfl,?_⟩
  conv=>whnf
  refine ⟨by decide,?_⟩
  rw [mV rfl]
  conv=>whnf
  refine zA ?_;conv=>whnf
  refine ⟨(i + 1,D / 4294967296,s ++ [((D % 4294967296 : Nat) : Int)]),?_,?_,?_⟩
  ·refine ⟨hlt,(by omega : D / 4294967296 <= 1),hws.append (Ws.cons (by omega) Ws.nil),by simp [hsl],?_⟩
   show val (s ++ [((D % 4294967296 : Nat) : Int)]) + 4294967296 ^ (i + 1) * (D / 4294967296) = val (a.take (i + 1)) + val (b.take (i + 1))
   have e1 : val (s ++ [((D % 4294967296 : Nat) : Int)]) = val s + 4294967296 ^ i * (D % 4294967296):=by
    rw [val_append,hsl]
    show _ + _ * ((((D % 4294967296 : Nat) : Int)).toNat + 4294967296 * 0) = _
    rw [Int.toNat_natCast]; rfl
   rw [hva,hvb,e1,Nat.pow_succ]
   exact Py hD hv
  ·refine ⟨?_,.mk ?_ ⟨by simp,trivial⟩⟩
   ·all_goals exact wk
   ·repeat' first|exact rfl|exact trivial|exact wR|exact lR _|apply aI
    all_goals (refine aY ?_; rw [<- IZ hsl hlt,List.map_set,Nat.zero_add,Int.toNat_natCast]; rfl)
  ·show m - (i + 1) < m - i
   omega
 ·have hil : i = m:=by omega
  subst hil
  rw [List.take_of_length_le (by omega),List.take_of_length_le (by omega)] at hv
  have hfin : val s = val a + val b:=Wj (by omega) (fF wa) (fF wb) (by omega) (by omega) hv
  have ct:=kX s (by omega)
  rw [hfin] at ct
  (try dsimp only[aj]);conv=>whnf
  refine .gen _ _ (aC.P9 0 rfl rfl (by simp; omega) (aC.fC ct ?_ ⟨rfl,rfl⟩)) fun _=>?_
  ·repeat' first|exact rfl|exact trivial|exact wR|exact lR _|apply aI
   all_goals (refine aY ?_; rw [Nat.sub_self,List.replicate_zero,List.append_nil,List.drop_zero,List.take_of_length_le (by simp; omega)])
  (try dsimp only[aj]);conv=>whnf
  refine fM ?_;(conv=>whnf);refine ⟨?_,rfl⟩;conv=>whnf
  all_goals exact wk

theorem Yh (a b : List Int) (ha : a.length <= 1000000) (hb : b.length <= 1000000) (hge : val b <= val a) : aC Tryz.prog 241 [wL a,wL b] [] (.eU [wL (wd (val a - val b)),.eX]) []:=by
 refine aC.intro lay mixed Tryz.func241 (by kernel_rfl) rfl (by kernel_rfl) rfl fun hok=>?_
 have wa : Ws a:=Ws.ok hok.1.2
 have wb : Ws b:=Ws.ok hok.2.1.2
 (try dsimp only[aZ,aO]);(try dsimp only[aj]);conv=>whnf
 refine .pure _ _ ?_ ⟨rfl,rfl⟩ (JC a b (by omega) (by omega)) fun _=>?_
 ·exact ak _
 conv=>whnf
 refine And.intro (fun h=>?_) (fun h=>?_)
 ·exfalso
  unfold oz at h
  rw [if_neg (by omega)] at h
  split at h <;> omega
 conv=>whnf
 rw [List.length_map]
 refine ⟨⟨by omega,by omega,by simp; omega,by omega⟩,.wr ?_⟩
 conv=>whnf
 refine aK.of <| aB.inv (.refl _ _) (fun x : Nat × Nat × List Int=>x.1 <= a.length /\ x.2.1 <= 1 /\ Ws x.2.2 /\ x.2.2.length = x.1 /\ val (a.take x.1) + 4294967296 ^ x.1 * x.2.1 = val x.2.2 + val (b.take x.1))
  (fun | (i,b,s)=>[(20,.int .i64 i),(7,.int .u64 b)]) (fun | (i,_,s)=>[(0,.arr 1 a.length ((s ++ List.replicate (a.length - i) 0).map (.int .u32)))])
  (fun x=>a.length - x.1) (0,0,[]) ?_ (fun _=>rfl) ?_ ?_
 ·exact ⟨Nat.zero_le _,by simp,Ws.nil,rfl,by simp [val]⟩
 ·refine ⟨?_,.mk ?_ ⟨by simp,trivial⟩⟩
  ·all_goals exact wk
  ·repeat' first|exact rfl|exact trivial|exact wR|exact lR _|apply aI
   all_goals first | (show dH (List.replicate _ _) (List.map _ ([] ++ List.replicate _ 0)); rw [List.nil_append,List.map_replicate]; exact aA _) | skip
 rintro ⟨i,bo,s⟩ ⟨hi,hbo,hws,hsl,hv⟩ _
 simp only at hi hbo hws hsl hv
 (try dsimp only[aj]);conv=>whnf
 refine And.intro (fun h=>?_) (fun h=>?_)
 ·have hlt : i < a.length:=by omega
  have ca:=vN a i
  have cb:=vN b i
  have hva:=bQ (l:=a) (i:=i)
  have hvb:=bQ (l:=b) (i:=i)
  have hxa:=wa.getD (i:=i)
  have hxb:=wb.getD (i:=i)
  generalize a.getD i 0 = x0 at *
  generalize b.getD i 0 = y0 at *
  obtain ⟨x,rfl⟩ : ∃ x : Nat,x0 = x:=⟨x0.toNat,by omega⟩
  obtain ⟨w,rfl⟩ : ∃ x : Nat,y0 = x:=⟨y0.toNat,by omega⟩
  rw [Int.toNat_natCast] at hva hvb
  (try dsimp only[aj]);conv=>whnf
  refine .gen _ _ (aC.fC ca (ak _) ⟨rfl,rfl⟩) fun _=>?_
  (try dsimp only[aj]);conv=>whnf
  refine .gen _ _ (aC.fC cb (ak _) ⟨rfl,rfl⟩) fun _=>?_
  conv=>whnf
  obtain ⟨D,hD,hD1,hD2,hD3⟩:=EG (x:=x) (low:=w) (b:=bo) (by omega) (by omega) hbo
  rw [hD]
  conv=>whnf
  rw [dY (a:=D)]
  have hy : D % 4294967296 < 4294967296:=Nat.mod_lt _ (by decide)
  generalize D % 4294967296 = y at *
  refine ⟨⟨by omega,by omega⟩,?_⟩
  conv=>whnf
  refine ⟨by rw [List.length_map,List.length_append,List.length_replicate]; omega,rfl,?_⟩
  conv=>whnf
  refine ⟨by decide,?_⟩
  rw [Pq]
  conv=>whnf
  refine zA ?_;conv=>whnf
  refine ⟨(i + 1,D / 9223372036854775808,s ++ [(y : Int)]),?_,?_,?_⟩
  ·refine ⟨hlt,hD2,hws.append (Ws.cons (by omega) Ws.nil),by simp [hsl],?_⟩
   show val (a.take (i + 1)) + 4294967296 ^ (i + 1) * (D / 9223372036854775808) = val (s ++ [(y : Int)]) + val (b.take (i + 1))
   have e1 : val (s ++ [(y : Int)]) = val s + 4294967296 ^ i * y:=by rw [val_append,hsl]; simp [val]
   rw [hva,hvb,e1,Nat.pow_succ]
   exact EN hD3 hv
  ·refine ⟨?_,.mk ?_ ⟨by simp,trivial⟩⟩
   ·all_goals exact wk
   ·repeat' first|exact rfl|exact trivial|exact wR|exact lR _|apply aI
    all_goals (refine aY ?_; rw [<- IZ hsl hlt,List.map_set,Nat.zero_add,Int.toNat_natCast]; rfl)
  ·show a.length - (i + 1) < a.length - i
   omega
 ·have hil : i = a.length:=by omega
  subst hil
  rw [List.take_length] at hv
  have hva:=fF wa
  rw [CG (by omega)] at hv
  have hvs:=fF hws
  rw [hsl] at hvs
  have hfin : val s = val a - val b:=by
   have hb2 : bo = 0 \/ bo = 1:=by omega
   rcases hb2 with rfl | rfl
   ·omega
   ·omega
  have ct:=kX s (by omega)
  rw [hfin] at ct
  (try dsimp only[aj]);conv=>whnf
  refine .gen _ _ (aC.P9 0 rfl rfl (by simp; omega) (aC.fC ct ?_ ⟨rfl,rfl⟩)) fun _=>?_
  ·repeat' first|exact rfl|exact trivial|exact wR|exact lR _|apply aI
   all_goals (refine aY ?_; rw [Nat.sub_self,List.replicate_zero,List.append_nil,List.drop_zero,List.take_of_length_le (by simp; omega)])
  (try dsimp only[aj]);conv=>whnf
  refine fM ?_;(conv=>whnf);refine ⟨?_,rfl⟩;conv=>whnf
  all_goals exact wk

theorem c_pNeg (a : Rat) (a1 : a.num.length <= 100000) (a2 : a.den.length <= 100000) : aC Tryz.prog 147 [a.av] [] (negR a).av []:=by
 have ca:=xB a (Bq a (by omega) (by omega)).v
 refine aC.intro lay mixed Tryz.func147 (by kernel_rfl) rfl (by kernel_rfl) rfl fun hok=>?_
 have pa:=zy (nT hok).1 (nT hok).2 (by omega) (by omega)
 have qa:=J6 (nT hok).1 (nT hok).2 a1 a2
 rw [pa.eq] at ca
 have cf:=BQ (!(aT a).1) (aT a).2.1 (aT a).2.2 (by omega) (by omega) pa.den
 have hm : negR a = nV (!(aT a).1) (aT a).2.1 (aT a).2.2:=rfl
 rw [<- hm] at cf
 generalize negR a = R at *
 (try dsimp only[aZ,aO]);(try dsimp only[aj]);conv=>whnf
 refine .pure _ _ ?_ ⟨rfl,rfl⟩ ca fun _=>?_
 ·exact ak _
 (try dsimp only[aj]);conv=>whnf
 refine .pure _ _ ?_ ⟨rfl,rfl⟩ cf fun _=>?_
 ·all_goals exact wk
 (try dsimp only[aj]);conv=>whnf
 refine fM ?_;(conv=>whnf);refine ⟨?_,rfl⟩;conv=>whnf
 all_goals exact wk

theorem c_pAdd (a b : Rat) (a1 : a.num.length <= 100000) (a2 : a.den.length <= 100000) (b1 : b.num.length <= 100000) (b2 : b.den.length <= 100000) : aC Tryz.prog 146 [a.av,b.av] [] (Yx a b).av []:=by
 have ca:=xB a (Bq a (by omega) (by omega)).v
 have cb:=xB b (Bq b (by omega) (by omega)).v
 refine aC.intro lay mixed Tryz.func146 (by kernel_rfl) rfl (by kernel_rfl) rfl fun hok=>?_
 have pa:=zy (nT hok).1 (nT hok).2 (by omega) (by omega)
 have pb:=zy (nT hok.2).1 (nT hok.2).2 (by omega) (by omega)
 have qa:=J6 (nT hok).1 (nT hok).2 a1 a2
 have qb:=J6 (nT hok.2).1 (nT hok.2).2 b1 b2
 rw [pa.eq] at ca
 rw [pb.eq] at cb
 have hR : Yx a b = VT (aT a).1 (aT b).1 ((aT a).2.1 * (aT b).2.2) ((aT b).2.1 * (aT a).2.2) ((aT a).2.2 * (aT b).2.2):=rfl
 have m1:=Gy (wd (aT a).2.1) (wd (aT b).2.2) pa.ln pb.ld
 have m2:=Gy (wd (aT b).2.1) (wd (aT a).2.2) pb.ln pa.ld
 have m3:=Gy (wd (aT a).2.2) (wd (aT b).2.2) pa.ld pb.ld
 rw [bD,bD] at m1 m2 m3
 have l1:=jf qa.1 qb.2
 have l2:=jf qb.1 qa.2
 have l3:=jf qa.2 qb.2
 have hne : (aT a).2.2 * (aT b).2.2 ≠ 0:=Nat.mul_ne_zero pa.den pb.den
 generalize Yx a b = R at *
 generalize (aT a).2.1 * (aT b).2.2 = x at *
 generalize (aT b).2.1 * (aT a).2.2 = y at *
 generalize (aT a).2.2 * (aT b).2.2 = d at *
 have l4:=En l1 l2
 have l5:=dZ (Nat.sub_le x y)
 have l6:=dZ (Nat.sub_le y x)
 have cA:=c_nAdd (wd x) (wd y) (by omega) (by omega)
 have cC:=JC (wd x) (wd y) (by omega) (by omega)
 have cS:=fun h=>Yh (wd x) (wd y) (by omega) (by omega) h
 have cS2:=fun h=>Yh (wd y) (wd x) (by omega) (by omega) h
 simp only [bD] at cA cC cS cS2
 have cf1:=BQ (aT a).1 (x + y) d (by omega) (by omega) hne
 have cf2:=BQ (aT a).1 (x - y) d (by omega) (by omega) hne
 have cf3:=BQ (aT b).1 (y - x) d (by omega) (by omega) hne
 unfold VT at hR
 generalize (aT a).1 = s at *
 generalize (aT b).1 = t at *
 (try dsimp only[aZ,aO]);(try dsimp only[aj]);conv=>whnf
 refine .pure _ _ ?_ ⟨rfl,rfl⟩ ca fun _=>?_
 ·exact ak _
 (try dsimp only[aj]);conv=>whnf
 refine .pure _ _ ?_ ⟨rfl,rfl⟩ cb fun _=>?_
 ·exact ak _
 (try dsimp only[aj]);conv=>whnf
 refine .pure _ _ ?_ ⟨rfl,rfl⟩ m1 fun _=>?_
 ·exact ak _
 (try dsimp only[aj]);conv=>whnf
 refine .pure _ _ ?_ ⟨rfl,rfl⟩ m2 fun _=>?_
 ·exact ak _
 (try dsimp only[aj]);conv=>whnf
 refine .pure _ _ ?_ ⟨rfl,rfl⟩ m3 fun _=>?_
 ·exact ak _
 (try dsimp only[aj]);conv=>whnf
 refine And.intro (fun hst=>?_) (fun hst=>?_)
 ·have hst : s = t:=by simpa using hst
  rw [if_pos hst] at hR
  subst hR
  (try dsimp only[aj]);conv=>whnf
  refine .pure _ _ ?_ ⟨rfl,rfl⟩ cA fun _=>?_
  ·exact ak _
  (try dsimp only[aj]);conv=>whnf
  refine .pure _ _ ?_ ⟨rfl,rfl⟩ cf1 fun _=>?_
  ·exact ak _
  (try dsimp only[aj]);conv=>whnf
  refine fM ?_;(conv=>whnf);refine ⟨?_,rfl⟩;conv=>whnf
  all_goals exact wk
 have hst : ¬ s = t:=by simpa using hst
 rw [if_neg hst] at hR
 (try dsimp only[aj]);conv=>whnf
 refine .pure _ _ ?_ ⟨rfl,rfl⟩ cC fun _=>?_
 ·exact ak _
 (try dsimp only[aj]);conv=>whnf
 refine And.intro (fun hxy=>?_) (fun hxy=>?_)
 ·have hlt : ¬ x < y:=by
   intro hlt
   unfold oz at hxy
   rw [if_pos hlt] at hxy
   omega
  rw [if_neg hlt] at hR
  subst hR
  (try dsimp only[aj]);conv=>whnf
  refine .pure _ _ ?_ ⟨rfl,rfl⟩ (cS (by omega)) fun _=>?_
  ·exact ak _
  (try dsimp only[aj]);conv=>whnf
  refine .pure _ _ ?_ ⟨rfl,rfl⟩ cf2 fun _=>?_
  ·exact ak _
  (try dsimp only[aj]);conv=>whnf
  refine fM ?_;(conv=>whnf);refine ⟨?_,rfl⟩;conv=>whnf
  all_goals exact wk
 ·have hlt : x < y:=by
   unfold oz at hxy
   split at hxy
   ·assumption
   ·split at hxy <;> omega
  rw [if_pos hlt] at hR
  subst hR
  (try dsimp only[aj]);conv=>whnf
  refine .pure _ _ ?_ ⟨rfl,rfl⟩ (cS2 (by omega)) fun _=>?_
  ·exact ak _
  (try dsimp only[aj]);conv=>whnf
  refine .pure _ _ ?_ ⟨rfl,rfl⟩ cf3 fun _=>?_
  ·exact ak _
  (try dsimp only[aj]);conv=>whnf
  refine fM ?_;(conv=>whnf);refine ⟨?_,rfl⟩;conv=>whnf
  all_goals exact wk

theorem c_pOf (n : Nat) (hn : n < 2 ^ 31) : aC Tryz.prog 236 [.int .i64 n] [] (fP (n : QQ)).av []:=by
 have cn:=SC n (by omega)
 have e1 : wd 1 = [1]:=oP (by omega) (by omega)
 have cf:=BQ false n 1 (by
  have:=lV (x:=n) (n:=1) (by omega)
  omega) (by rw [e1]; simp) (by omega)
 rw [mY _ _ _ (by omega),e1,show mkRat (Dx false n) 1 = (n : QQ) from by rw [show Dx false n = (n : Int) from rfl,Rat.mkRat_one]; rfl] at cf
 have cs : aC Tryz.prog 271 [.int .i64 n] [] (wL (wd n)) []:=by
  refine aC.intro lay mixed Tryz.func271 (by kernel_rfl) rfl (by kernel_rfl) rfl fun hok=>?_
  (try dsimp only[aZ,aO]);(try dsimp only[aj]);conv=>whnf
  refine And.intro (fun h=>by exfalso; omega) (fun _=>?_)
  (try dsimp only[aj]);conv=>whnf
  refine ⟨bf (by omega) (by omega),?_⟩
  (try dsimp only[aj]);conv=>whnf
  rw [show max (n : Int) (0 - (n : Int)) = (n : Int) by omega]
  refine .pure _ _ ?_ ⟨rfl,rfl⟩ cn fun _=>?_
  ·exact ak _
  (try dsimp only[aj]);conv=>whnf
  refine fM ?_;(conv=>whnf);refine ⟨?_,rfl⟩;conv=>whnf
  all_goals exact wk
 generalize fP (n : QQ) = R at *
 refine aC.intro lay mixed Tryz.func236 (by kernel_rfl) rfl (by kernel_rfl) rfl fun hok=>?_
 (try dsimp only[aZ,aO]);(try dsimp only[aj]);conv=>whnf
 refine .pure _ _ ?_ ⟨rfl,rfl⟩ cs fun _=>?_
 ·exact ak _
 (try dsimp only[aj]);conv=>whnf
 refine .pure _ _ ?_ ⟨rfl,rfl⟩ SB fun _=>?_
 ·exact ak _
 (try dsimp only[aj]);conv=>whnf
 refine .pure _ _ ?_ ⟨rfl,rfl⟩ cf fun _=>?_
 ·refine ⟨?_,fG _,fG _,trivial⟩
  show _ ↔ _
  simp
 (try dsimp only[aj]);conv=>whnf
 refine fM ?_;(conv=>whnf);refine ⟨?_,rfl⟩;conv=>whnf
 all_goals exact wk

theorem c_qNeg {p : QQ} {k : Nat} (hp : Sz p k) (hk : k <= 100000) : aC Tryz.prog 147 [(fP p).av] [] (fP (-p)).av []:=by
 have l:=HY hp
 rw [<- Zv]
 exact c_pNeg _ (by omega) (by omega)

theorem Ye {p q : QQ} {k l : Nat} (hp : Sz p k) (hq : Sz q l) (hk : k <= 100000) (hl : l <= 100000) : aC Tryz.prog 146 [(fP p).av,(fP q).av] [] (fP (p + q)).av []:=by
 have l1:=HY hp
 have l2:=HY hq
 rw [<- add_can]
 exact c_pAdd _ _ (by omega) (by omega) (by omega) (by omega)

theorem Yd {p q : QQ} {k l : Nat} (hp : Sz p k) (hq : Sz q l) (hk : k <= 100000) (hl : l <= 100000) : aC Tryz.prog 272 [(fP p).av,(fP q).av] [] (fP (p * q)).av []:=by
 have l1:=HY hp
 have l2:=HY hq
 rw [<- Zx]
 exact Yi _ _ (by omega) (by omega) (by omega) (by omega)

theorem Yc {p q : QQ} {k l : Nat} (hp : Sz p k) (hq : Sz q l) (hk : k <= 100000) (hl : l <= 100000) : aC Tryz.prog 62 [(fP p).av,(fP q).av] [] (fP (p - q)).av []:=by
 have c1:=c_qNeg hq hl
 have c2:=Ye hp hq.neg hk hl
 rw [<- Rat.sub_eq_add_neg] at c2
 generalize fP (p - q) = R at *
 generalize fP (-q) = N at *
 refine aC.intro lay mixed Tryz.func62 (by kernel_rfl) rfl (by kernel_rfl) rfl fun hok=>?_
 (try dsimp only[aZ,aO]);(try dsimp only[aj]);conv=>whnf
 refine aN.auto (by kernel_rfl) ?_;conv=>whnf
 refine bP.pure _ _ ?_ ⟨rfl,rfl⟩ c1 ?_
 ·exact ak _
 (try dsimp only[aj]);conv=>whnf
 refine bP.pure _ _ ?_ ⟨rfl,rfl⟩ c2 ?_
 ·exact ak _
 (try dsimp only[aj]);conv=>whnf
 refine fM ?_;(conv=>whnf);refine ⟨?_,rfl⟩;conv=>whnf
 all_goals exact wk

def LV (p : List QQ) (f : (Int -> Bool) -> Bool) : Nat -> (Int -> Bool) -> QQ
 | 0,s=>if f s = true then 1 else 0
 | k + 1,s=>(1 - p.getD k 0) * LV p f k (dL s k false) + p.getD k 0 * LV p f k (dL s k true)

theorem iZ {p : List QQ} {f g : (Int -> Bool) -> Bool} (h : ∀ s,f s = g s) : ∀ (k : Nat) (s : Int -> Bool),LV p f k s = LV p g k s
 | 0,s=>by simp [LV,h]
 | k + 1,s=>by simp only [LV]; rw [iZ h k,iZ h k]

theorem qJ {p : List QQ} {f : (Int -> Bool) -> Bool} {v : Int} {b : Bool} : ∀ (k : Nat) (s : Int -> Bool),(k : Int) <= v -> LV p f k (dL s v b) = LV p (fun t=>f (dL t v b)) k s
 | 0,s,_=>rfl
 | k + 1,s,hk=>by
   simp only [LV]
   rw [wH (s:=s) (i:=v) (j:=(k : Int)) (a:=b) (b:=false) (by omega),wH (s:=s) (i:=v) (j:=(k : Int)) (a:=b) (b:=true) (by omega),qJ k (dL s k false) (by omega),qJ k (dL s k true) (by omega)]

theorem FY {p : List QQ} {f l h : (Int -> Bool) -> Bool} {v : Nat} (hf : ∀ s,f s = if s v then h s else l s) (hl : ∀ s b,l (dL s v b) = l s) (hh : ∀ s b,h (dL s v b) = h s) :
  ∀ (k : Nat) (s : Int -> Bool),v < k -> LV p f k s = (1 - p.getD v 0) * LV p l k s + p.getD v 0 * LV p h k s
 | 0,_,hk=>by omega
 | k + 1,s,hk=>by
   by_cases hv : v = k
   ·subst hv
    simp only [LV]
    have e1 : ∀ t,(fun t=>f (dL t v false)) t = l t:=fun t=>by
     show f (dL t v false) = l t
     rw [hf,show dL t (v : Int) false v = false from if_pos rfl,hl]; simp
    have e2 : ∀ t,(fun t=>f (dL t v true)) t = h t:=fun t=>by
     show f (dL t v true) = h t
     rw [hf,show dL t (v : Int) true v = true from if_pos rfl,hh]; simp
    rw [qJ v s (Int.le_refl _),qJ v s (Int.le_refl _),iZ e1,iZ e2]
    rw [qJ (f:=l) v s (Int.le_refl _),qJ (f:=l) v s (Int.le_refl _),qJ (f:=h) v s (Int.le_refl _),qJ (f:=h) v s (Int.le_refl _)]
    rw [iZ (f:=fun t=>l (dL t v false)) (g:=l) (fun t=>hl t false),iZ (f:=fun t=>l (dL t v true)) (g:=l) (fun t=>hl t true),iZ (f:=fun t=>h (dL t v false)) (g:=h) (fun t=>hh t false),iZ (f:=fun t=>h (dL t v true)) (g:=h) (fun t=>hh t true)]
    grind
   ·simp only [LV]
    have h1:=FY (p:=p) hf hl hh k (dL s k false) (by omega)
    have h2:=FY (p:=p) hf hl hh k (dL s k true) (by omega)
    rw [h1,h2]
    grind

theorem xg {p : List QQ} {b : Bool} : ∀ (k : Nat) (s : Int -> Bool),LV p (fun _=>b) k s = if b = true then 1 else 0
 | 0,s=>rfl
 | k + 1,s=>by simp only [LV]; rw [xg k,xg k]; grind

def EY (v : List QQ) (r : Int) : QQ:=if r < 2 then ((r.toNat : Nat) : QQ) else v.getD (r - 2).toNat 0
def Ud (p v : List QQ) (x : Node) : QQ:=(1 - p.getD x.1.toNat 0) * EY v x.2.1 + p.getD x.1.toNat 0 * EY v x.2.2
def zx (p : List QQ) (ns : List Node) : List QQ:=ns.foldl (fun v x=>v ++ [Ud p v x]) []

theorem ET (p : List QQ) (l : List Node) (x : Node) : zx p (l ++ [x]) = zx p l ++ [Ud p (zx p l) x]:=by
 unfold zx; rw [List.foldl_append]; rfl
theorem DR (p : List QQ) (l : List Node) : (zx p l).length = l.length:=by
 have key : ∀ (l : List Node) (v : List QQ),(l.foldl (fun v x=>v ++ [Ud p v x]) v).length = v.length + l.length:=by
  intro l
  induction l with
  | nil=>intro v; simp
  | cons x l ih=>intro v; rw [List.foldl_cons,ih]; simp; omega
 have:=key l []
 unfold zx
 simpa using this

theorem UK {T : Tb} {ns : List Node} (hns : ∀ (k : Nat) (h : k < ns.length),lG T ns k ns[k]) (d : Nat) : ∀ (r : Int),0 <= r -> r < 2 + (ns.length : Int) -> r <= d -> ∀ (s s' : Int -> Bool),(∀ j,0 <= j -> j < T.n -> lX T ns r <= T.pl j -> s j = s' j) -> ev ns s r = ev ns s' r:=by
 induction d with
 | zero =>
   intro r h0 h1 h2 s s' _
   obtain rfl : r = 0:=by omega
   rfl
 | succ d ih =>
   intro r h0 h1 h2 s s' hs
   by_cases hr2 : r < 2
   ·rcases (by omega : r = 0 \/ r = 1) with rfl | rfl <;> rfl
   obtain ⟨k,rfl⟩ : ∃ k : Nat,r = 2 + (k : Int):=⟨(r - 2).toNat,by omega⟩
   have hk : k < ns.length:=by omega
   have g:=hns k hk
   have e1:=fun s=>tu ns s hk g.lo.2 g.hi.2
   rw [e1,e1]
   have hl : lX T ns (2 + (k : Int)) = T.pl (ns[k]).1:=by
    unfold lX
    rw [if_neg (by omega),show (2 + (k : Int) - 2).toNat = k by omega,List.getD_eq_getElem?_getD,List.getElem?_eq_getElem hk]; rfl
   rw [hl] at hs
   have gl:=g.ZB
   have gh:=g.ZC
   rw [hs _ g.v.1 g.v.2 (Int.le_refl _)]
   rw [ih _ g.lo.1 (by have:=g.lo.2; omega) (by have:=g.lo.2; omega) s s' (fun j q1 q2 q3=>hs j q1 q2 (by omega)),
    ih _ g.hi.1 (by have:=g.hi.2; omega) (by have:=g.hi.2; omega) s s' (fun j q1 q2 q3=>hs j q1 q2 (by omega))]

theorem Si {T : Tb} {ns : List Node} (hns : ∀ (k : Nat) (h : k < ns.length),lG T ns k ns[k]) {r i : Int} (h0 : 0 <= r) (h1 : r < 2 + (ns.length : Int)) (hl : T.pl i < lX T ns r) (s : Int -> Bool) (b : Bool) : ev ns (dL s i b) r = ev ns s r:=by
 refine UK hns r.toNat r h0 h1 (by omega) _ _ fun j q1 q2 q3=>?_
 unfold dL
 rw [if_neg (fun e=>by subst e; omega)]

theorem pr_ex {T : Tb} {ns : List Node} (hns : ∀ (k : Nat) (h : k < ns.length),lG T ns k ns[k]) (p : List QQ) {n : Nat} (hn : T.n = n) : ∀ (k : Nat),k <= ns.length -> ∀ (r : Int),0 <= r -> r < 2 + (k : Int) -> EY (zx p (ns.take k)) r = LV p (fun s=>ev ns s r) n zE
 | 0,_,r,h0,h1=>by
   rcases (by omega : r = 0 \/ r = 1) with rfl | rfl
   ·rw [iZ (p:=p) (f:=fun s=>ev ns s 0) (g:=fun _=>false) (fun s=>rfl),xg]; rfl
   ·rw [iZ (p:=p) (f:=fun s=>ev ns s 1) (g:=fun _=>true) (fun s=>rfl),xg]; rfl
 | k + 1,hk,r,h0,h1=>by
   have ih:=pr_ex hns p hn k (by omega)
   have hlt : k < ns.length:=by omega
   have hl:=DR p (ns.take k)
   rw [List.length_take,Nat.min_eq_left (by omega)] at hl
   rw [List.take_succ_eq_append_getElem hlt,ET]
   by_cases hr : r < 2 + (k : Int)
   ·rw [<- ih r h0 hr]
    unfold EY
    split
    ·rfl
    ·rw [List.getD_eq_getElem?_getD,List.getElem?_append_left (by omega),<- List.getD_eq_getElem?_getD]
   ·obtain rfl : r = 2 + (k : Int):=by omega
    have g:=hns k hlt
    have e0 : EY (zx p (ns.take k) ++ [Ud p (zx p (ns.take k)) ns[k]]) (2 + (k : Int)) = Ud p (zx p (ns.take k)) ns[k]:=by
     unfold EY
     rw [if_neg (by omega),show (2 + (k : Int) - 2).toNat = k by omega,List.getD_eq_getElem?_getD,List.getElem?_append_right (by omega),hl,Nat.sub_self]; rfl
    rw [e0]
    unfold Ud
    rw [ih _ g.lo.1 g.lo.2,ih _ g.hi.1 g.hi.2]
    have e1:=fun s=>tu ns s hlt g.lo.2 g.hi.2
    have gl:=g.ZB
    have gh:=g.ZC
    have hlo:=Si hns (i:=(ns[k]).1) g.lo.1 (by have:=g.lo.2; omega) gl
    have hhi:=Si hns (i:=(ns[k]).1) g.hi.1 (by have:=g.hi.2; omega) gh
    have hv:=g.v
    generalize ns[k] = x at *
    obtain ⟨v,hvv⟩ : ∃ v : Nat,x.1 = v:=⟨x.1.toNat,by omega⟩
    rw [hvv] at hlo hhi hv
    rw [iZ (f:=fun s=>ev ns s (2 + (k : Int))) (g:=fun s=>if s v then ev ns s x.2.2 else ev ns s x.2.1) (fun s=>by rw [e1,hvv])]
    rw [FY (v:=v) (fun s=>rfl) (fun s b=>hlo s b) (fun s b=>hhi s b) n zE (by omega),hvv,Int.toNat_natCast]

def szB (K : Nat) : Nat -> Nat
 | 0=>1
 | d + 1=>2 * szB K d + 2 * K + 10

theorem y8 (K : Nat) : ∀ {a b : Nat},a <= b -> szB K a <= szB K b:=by
 intro a b h
 induction b with
 | zero=>obtain rfl : a = 0:=by omega
         exact Nat.le_refl _
 | succ b ih =>
   by_cases e : a = b + 1
   ·rw [e]; exact Nat.le_refl _
   ·have:=ih (by omega)
    show _ <= 2 * szB K b + 2 * K + 10
    omega

theorem Sz_zero : Sz 0 1:=⟨by show (wd 0).length <= 1; rw [iy]; simp,by show (wd 1).length <= 1; rw [oP (by omega) (by omega)]; simp⟩
theorem Hz : Sz 1 1:=⟨by show (wd 1).length <= 1; rw [oP (by omega) (by omega)]; simp,by show (wd 1).length <= 1; rw [oP (by omega) (by omega)]; simp⟩

theorem Sz.sub {p q : QQ} {k l : Nat} (hp : Sz p k) (hq : Sz q l) : Sz (p - q) (k + l + 1):=by
 rw [Rat.sub_eq_add_neg]; exact hp.add hq.neg

theorem ndQ_sz {q a b : QQ} {K k : Nat} (hq : Sz q K) (ha : Sz a k) (hb : Sz b k) : Sz ((1 - q) * a + q * b) (2 * k + 2 * K + 10) :=
 (((Hz.sub hq).mul ha).add (hq.mul hb)).mono (by omega)

theorem pr_sz {T : Tb} {ns : List Node} (hns : ∀ (k : Nat) (h : k < ns.length),lG T ns k ns[k]) (hpl : ∀ i : Int,0 <= i -> i < T.n -> 0 <= T.pl i /\ T.pl i < T.n) {p : List QQ} {K : Nat} (hp : ∀ q ∈ p,Sz q K) (hpn : T.n = p.length) :
  ∀ (k : Nat),k <= ns.length -> ∀ (r : Int),0 <= r -> r < 2 + (k : Int) -> Sz (EY (zx p (ns.take k)) r) (szB K (T.n - lX T ns r).toNat)
 | 0,_,r,h0,h1=>by
   have : ∀ d,1 <= szB K d:=fun d=>y8 K (Nat.zero_le d)
   rcases (by omega : r = 0 \/ r = 1) with rfl | rfl
   ·exact Sz_zero.mono (this _)
   ·exact Hz.mono (this _)
 | k + 1,hk,r,h0,h1=>by
   have ih:=pr_sz hns hpl hp hpn k (by omega)
   have hlt : k < ns.length:=by omega
   have hl:=DR p (ns.take k)
   rw [List.length_take,Nat.min_eq_left (by omega)] at hl
   rw [List.take_succ_eq_append_getElem hlt,ET]
   by_cases hr : r < 2 + (k : Int)
   ·have:=ih r h0 hr
    have e : EY (zx p (ns.take k) ++ [Ud p (zx p (ns.take k)) ns[k]]) r = EY (zx p (ns.take k)) r:=by
     unfold EY
     split
     ·rfl
     ·rw [List.getD_eq_getElem?_getD,List.getElem?_append_left (by omega),<- List.getD_eq_getElem?_getD]
    rw [e]; exact this
   ·obtain rfl : r = 2 + (k : Int):=by omega
    have g:=hns k hlt
    have e0 : EY (zx p (ns.take k) ++ [Ud p (zx p (ns.take k)) ns[k]]) (2 + (k : Int)) = Ud p (zx p (ns.take k)) ns[k]:=by
     unfold EY
     rw [if_neg (by omega),show (2 + (k : Int) - 2).toNat = k by omega,List.getD_eq_getElem?_getD,List.getElem?_append_right (by omega),hl,Nat.sub_self]; rfl
    rw [e0]
    have hl : lX T ns (2 + (k : Int)) = T.pl (ns[k]).1:=by
     unfold lX
     rw [if_neg (by omega),show (2 + (k : Int) - 2).toNat = k by omega,List.getD_eq_getElem?_getD,List.getElem?_eq_getElem hlt]; rfl
    have gl:=g.ZB
    have gh:=g.ZC
    have hv:=g.v
    have s1:=ih _ g.lo.1 g.lo.2
    have s2:=ih _ g.hi.1 g.hi.2
    have hp0:=hpl _ hv.1 hv.2
    rw [hl]
    obtain ⟨d,hd⟩ : ∃ d,(T.n - T.pl (ns[k]).1).toNat = d + 1:=⟨(T.n - T.pl (ns[k]).1).toNat - 1,by omega⟩
    rw [hd]
    have q : Sz (p.getD (ns[k]).1.toNat 0) K:=by
     have hj : (ns[k]).1.toNat < p.length:=by omega
     rw [List.getD_eq_getElem?_getD,List.getElem?_eq_getElem hj]
     exact hp _ (List.getElem_mem hj)
    exact ndQ_sz q (s1.mono (y8 K (by omega))) (s2.mono (y8 K (by omega)))

abbrev qL (v : List QQ) : AV:=.sl 3 (v.map fun q=>(fP q).av) .no

theorem X4 (v : List QQ) (r : Int) (h0 : 0 <= r) (h1 : r < 2 + (v.length : Int)) : aC Tryz.prog 144 [qL v,.int .i64 r] [] (fP (EY v r)).av []:=by
 by_cases hr : r < 2
 ·have c:=c_pOf r.toNat (by omega)
  rw [show ((r.toNat : Nat) : Int) = r by omega] at c
  have e : EY v r = ((r.toNat : Nat) : QQ):=if_pos hr
  rw [<- e] at c
  generalize EY v r = R at *
  refine aC.intro lay mixed Tryz.func144 (by kernel_rfl) rfl (by kernel_rfl) rfl fun hok=>?_
  (try dsimp only[aZ,aO]);(try dsimp only[aj]);conv=>whnf
  refine And.intro (fun _=>?_) (fun h=>absurd hr h)
  (try dsimp only[aj]);conv=>whnf
  refine .pure _ _ ?_ ⟨rfl,rfl⟩ c fun _=>?_
  ·exact ak _
  (try dsimp only[aj]);conv=>whnf
  refine fM ?_;(conv=>whnf);refine ⟨?_,rfl⟩;conv=>whnf
  all_goals exact wk
 ·have e : EY v r = v.getD (r - 2).toNat 0:=if_neg hr
  rw [e]
  refine aC.intro lay mixed Tryz.func144 (by kernel_rfl) rfl (by kernel_rfl) rfl fun hok=>?_
  have hvl : v.length <= 9223372036854775807:=by have:=hok.1.1; simpa [maxL] using this
  (try dsimp only[aZ,aO]);(try dsimp only[aj]);conv=>whnf
  refine And.intro (fun h=>absurd h hr) (fun _=>?_)
  (try dsimp only[aj]);conv=>whnf
  refine ⟨bf (by omega) (by omega),?_⟩
  (try dsimp only[aj]);conv=>whnf
  refine dA (0 : QQ) ⟨by omega,by omega⟩ ?_
  generalize v.getD (r - 2).toNat 0 = R at *
  (try dsimp only[aj]);conv=>whnf
  refine fM ?_;(conv=>whnf);refine ⟨?_,rfl⟩;conv=>whnf
  all_goals exact wk

theorem c_snode (p v : List QQ) (x : Node) (hx : 0 <= x.1 /\ x.1 < (p.length : Int)) (hl : 0 <= x.2.1 /\ x.2.1 < 2 + (v.length : Int)) (hh : 0 <= x.2.2 /\ x.2.2 < 2 + (v.length : Int)) {K k : Nat} (hK : K <= 30000) (hk : k <= 30000)
  (hp : ∀ q ∈ p,Sz q K) (s1 : Sz (EY v x.2.1) k) (s2 : Sz (EY v x.2.2) k) : aC Tryz.prog 237 [Rw x,qL p,qL v] [] (fP (Ud p v x)).av []:=by
 have c1:=X4 v x.2.1 hl.1 hl.2
 have c2:=X4 v x.2.2 hh.1 hh.2
 have cO:=c_pOf 1 (by omega)
 have hj : x.1.toNat < p.length:=by omega
 have hq : Sz (p.getD x.1.toNat 0) K:=by
  rw [List.getD_eq_getElem?_getD,List.getElem?_eq_getElem hj]
  exact hp _ (List.getElem_mem hj)
 unfold Ud
 obtain ⟨xv,xl,xh⟩:=x
 dsimp only at *
 generalize EY v xl = a at *
 generalize EY v xh = b at *
 have e1 : ((1 : Nat) : QQ) = 1:=rfl
 rw [e1] at cO
 generalize hqq : p.getD xv.toNat 0 = q at *
 have m1:=Yc (p:=1) Hz hq (by omega) (by omega)
 have m2:=Yd (Hz.sub hq) s1 (by omega) (by omega)
 have m3:=Yd hq s2 (by omega) (by omega)
 have m4:=Ye ((Hz.sub hq).mul s1) (hq.mul s2) (by omega) (by omega)
 generalize fP ((1 - q) * a + q * b) = R at *
 generalize fP (q * b) = R1 at *
 generalize fP ((1 - q) * a) = R2 at *
 generalize fP (1 - q) = R3 at *
 generalize fP 1 = R4 at *
 refine aC.intro lay mixed Tryz.func237 (by kernel_rfl) rfl (by kernel_rfl) rfl fun hok=>?_
 (try dsimp only[aZ,aO]);(try dsimp only[aj]);conv=>whnf
 refine dA (0 : QQ) ⟨by omega,by omega⟩ ?_
 rw [hqq]
 generalize fP q = Q at *
 generalize fP a = A at *
 generalize fP b = B at *
 (try dsimp only[aj]);conv=>whnf
 refine aN.auto (by kernel_rfl) ?_;conv=>whnf
 refine bP.pure _ _ ?_ ⟨rfl,rfl⟩ cO ?_
 ·exact ak _
 conv=>whnf
 refine bP.pure _ _ ?_ ⟨rfl,rfl⟩ m1 ?_
 ·exact ak _
 conv=>whnf
 refine bP.pure _ _ ?_ ⟨rfl,rfl⟩ c1 ?_
 ·exact ak _
 conv=>whnf
 refine bP.pure _ _ ?_ ⟨rfl,rfl⟩ m2 ?_
 ·exact ak _
 conv=>whnf
 refine bP.pure _ _ ?_ ⟨rfl,rfl⟩ c2 ?_
 ·exact ak _
 conv=>whnf
 refine bP.pure _ _ ?_ ⟨rfl,rfl⟩ m3 ?_
 ·exact ak _
 conv=>whnf
 refine bP.pure _ _ ?_ ⟨rfl,rfl⟩ m4 ?_
 ·exact ak _
 conv=>whnf
 refine fM ?_;(conv=>whnf);refine ⟨?_,rfl⟩;conv=>whnf
 all_goals exact wk

theorem UR (o : List Int) (ns : List Node) (root : Int) (p : List QQ) {K B : Nat} (hK : K <= 30000) (hB : B <= 30000) (hp : ∀ q ∈ p,Sz q K) (hn : ns.length <= 5000)
  (hns : ∀ (k : Nat) (h : k < ns.length),0 <= (ns[k]).1 /\ (ns[k]).1 < (p.length : Int) /\ 0 <= (ns[k]).2.1 /\ (ns[k]).2.1 < 2 + (k : Int) /\ 0 <= (ns[k]).2.2 /\ (ns[k]).2.2 < 2 + (k : Int))
  (hs : ∀ (k : Nat),k <= ns.length -> ∀ r : Int,0 <= r -> r < 2 + (k : Int) -> Sz (EY (zx p (ns.take k)) r) B) :
  aC Tryz.prog 145 [xY o ns root,qL p] [] (qL (zx p ns)) []:=by
 refine aC.intro lay mixed Tryz.func145 (by kernel_rfl) rfl (by kernel_rfl) rfl fun hok=>?_
 (try dsimp only[aZ,aO]);(try dsimp only[aj]);conv=>whnf
 rw [List.length_map]
 refine ⟨⟨by omega,by omega,by show (ns.length : Int) * ((56 : Nat) : Int) <= 281474976710656; omega,by omega⟩,.wr ?_⟩
 rw [Int.toNat_natCast]
 (try dsimp only[aj]);conv=>whnf
 refine aK.of <| (aB.inv (.keep 5 1 0 ns.length 3 [] rfl rfl (Nat.le_refl _) (.refl _ _)) (fun k : Nat=>k <= ns.length) (fun k=>[(15,.int .i64 k),(5,.sl 3 ((zx p (ns.take k)).map fun q=>(fP q).av) (.own 2))]) (fun k=>[(2,.tok 3 k),(1,.gone),(0,.box (xY o ns root))]) (fun k=>ns.length - k) 0 (Nat.zero_le _) ?_ ?_ ?_)
 ·exact fun _=>rfl
 ·refine ⟨?_,.mk ?_ (by simp [au])⟩
  ·all_goals exact wk
  ·all_goals exact wk
 intro k hk _
 have hl:=DR p (ns.take k)
 rw [List.length_take,Nat.min_eq_left hk] at hl
 (try dsimp only[aj]);conv=>whnf
 refine And.intro (fun g=>?_) (fun g=>?_)
 ·have hlt : k < ns.length:=by simpa using g
  obtain ⟨q1,q2,q3,q4,q5,q6⟩:=hns k hlt
  have c:=c_snode p (zx p (ns.take k)) ns[k] ⟨q1,q2⟩ ⟨q3,by omega⟩ ⟨q5,by omega⟩ hK hB hp (hs k hk _ q3 q4) (hs k hk _ q5 q6)
  have hsn : zx p (ns.take (k + 1)) = zx p (ns.take k) ++ [Ud p (zx p (ns.take k)) ns[k]]:=by rw [List.take_succ_eq_append_getElem hlt,ET]
  generalize zx p (ns.take k) = v at *
  (try dsimp only[aj]);conv=>whnf
  refine gY hlt ?_
  generalize ns[k] = x at *
  generalize Ud p v x = y at *
  (try dsimp only[aj]);conv=>whnf
  refine .pure _ _ ?_ ⟨rfl,rfl⟩ c fun _=>?_
  ·all_goals exact wk
  (try dsimp only[aj]);conv=>whnf
  refine ⟨by rw [List.length_map,hl],.mk (by simp [maxL]; omega) (by simp; omega) ?_⟩
  (try dsimp only[aj]);conv=>whnf
  refine zA ?_;conv=>whnf
  refine ⟨k + 1,?_,?_,?_⟩
  ·exact hlt
  ·rw [hsn]
   refine ⟨?_,.mk ?_ (by simp [au])⟩
   ·repeat' first|exact rfl|exact trivial|exact wR|exact lR _|apply aI
    all_goals first | (show dH _ (List.map _ (_ ++ [_])); rw [List.map_append]; exact aA _) | skip
   ·repeat' first|exact rfl|exact trivial|exact wR|exact lR _|apply aI
    all_goals first | (simp [hl]; done) | skip
  ·omega
 have hk : k = ns.length:=by (have : ¬ k < ns.length:=by simpa using g); omega
 subst hk
 rw [List.take_length]
 (try dsimp only[aj]);conv=>whnf
 refine fM ?_;(conv=>whnf);refine ⟨?_,rfl⟩;conv=>whnf
 all_goals exact wk

def Gt (p : List Rat) (v : Int) : Int:=if (p.length : Int) ≠ v then 11 else if p.any (fun x=>!xI x) = true then 3 else 0

def Lens (p : List Rat) : Prop:=∀ x ∈ p,x.num.length <= 90000 /\ x.den.length <= 90000

theorem Qq (x : Rat) (hx : AY x) : aC Tryz.prog 142 [x.av] [] (.bool (!xI x)) []:=by
 refine aC.intro lay mixed Tryz.func142 (by kernel_rfl) rfl (by kernel_rfl) rfl fun hok=>?_
 (try dsimp only[aZ,aO]);(try dsimp only[aj]);conv=>whnf
 refine .pure _ _ ?_ ⟨rfl,rfl⟩ hx.p fun _=>?_
 ·exact ak _
 (try dsimp only[aj]);conv=>whnf
 refine fM ?_;(conv=>whnf);refine ⟨?_,rfl⟩;conv=>whnf
 all_goals exact wk

theorem Ou (p : List Rat) (v : Int) (hl : Lens p) (R : AV) (hR : R = xW (Gt p v)) : aC Tryz.prog 60 [.sl 3 (p.map Rat.av) .no,.int .i64 v] [] R []:=by
 have cc:=IC p 142 [] (fun x=>!xI x) [] fun x hx=>Qq x (Bq x (by have:=hl x hx; omega) (by have:=hl x hx; omega))
 refine aC.intro lay mixed Tryz.func60 (by kernel_rfl) rfl (by kernel_rfl) rfl fun hok=>?_
 (try dsimp only[aZ,aO]);(try dsimp only[aj]);conv=>whnf
 rw [List.length_map]
 refine And.intro (fun g=>?_) (fun g=>?_)
 ·obtain rfl : R = .jm 111 (.int .i64 11):=by rw [hR,show Gt p v = 11 from if_pos g]; rfl
  (try dsimp only[aj]);conv=>whnf
  refine fM ?_;(conv=>whnf);refine ⟨?_,rfl⟩;conv=>whnf
  all_goals exact wk
 have e : Gt p v = if p.any (fun x=>!xI x) = true then 3 else 0:=if_neg g
 (try dsimp only[aj]);conv=>whnf
 refine .gen _ _ cc fun _=>?_
 (try dsimp only[aj]);conv=>whnf
 refine And.intro (fun g2=>?_) (fun g2=>?_)
 ·obtain rfl : R = .jm 111 (.int .i64 3):=by rw [hR,e,if_pos g2]; rfl
  (try dsimp only[aj]);conv=>whnf
  refine fM ?_;(conv=>whnf);refine ⟨?_,rfl⟩;conv=>whnf
  all_goals exact wk
 ·obtain rfl : R = .eX:=by rw [hR,e,if_neg (by rw [g2]; simp)]; rfl
  (try dsimp only[aj]);conv=>whnf
  refine fM ?_;(conv=>whnf);refine ⟨?_,rfl⟩;conv=>whnf
  all_goals exact wk

def Dw (f : Fo) (p : List QQ) : QQ:=LV p (fun t=>(jg (l0 f.vars.toNat t) f.nodes).getD f.top.toNat false) f.vars.toNat zE

theorem chkP_ok {p : List Rat} {v : Int} (h : Gt p v = 0) (hw : ∀ x ∈ p,Ws x.num /\ Ws x.den) : (p.length : Int) = v /\ p.map Rat.av = (p.map qv).map fun q=>(fP q).av:=by
 unfold Gt at h
 split at h
 ·cases h
 rename_i h1
 split at h
 ·cases h
 rename_i h2
 refine ⟨by simpa using h1,?_⟩
 rw [List.map_map]
 refine List.map_congr_left fun x hx=>?_
 have : xI x = true:=by
  cases hp : xI x with
  | true=>rfl
  | false=>exact absurd (List.any_eq_true.2 ⟨x,hx,by simp [hp]⟩) h2
 unfold xI at this
 simp only [Bool.and_eq_true] at this
 have hv:=TG this.1.1 (hw x hx).1 (hw x hx).2
 show x.av = (fP (qv x)).av
 rw [<- hv]

theorem X5 (f : Fo) (h : qj f) (h7 : f.vars <= 7) (p : List Rat) (hl : Lens p) (hc : Gt p f.vars = 0) (hw : ∀ x ∈ p,Ws x.num /\ Ws x.den) {K : Nat} (hK : K <= 100) (hs : ∀ x ∈ p,Sz (qv x) K) :
  aC Tryz.prog 61 [f.av,.sl 3 (p.map Rat.av) .no] [] (.eU [(fP (Dw f (p.map qv))).av,.eX]) [] /\ Sz (Dw f (p.map qv)) 30000:=by
 have hvs:=h.vars
 have cc:=vO f h
 have cs:=Ou p f.vars hl _ rfl
 rw [hc,gX] at cs
 obtain ⟨hpl,hpe⟩:=chkP_ok hc hw
 rw [hpe] at cs ⊢
 have cd:=Gz f h
 have hp:=xq f h
 generalize pq f = o at *
 obtain ⟨ns,x,cb,g,x0,x1,hv,hn⟩:=GH (N:=7) (by omega) f h (by omega) hp
 have hT0 : bJ (Tb.new o):=Fa hp (by omega)
 have hn0 : (Tb.new o).n = (f.vars.toNat : Nat):=by show (o.length : Int) = _; rw [hp.len]
 have hql : (p.map qv).length = p.length:=List.length_map ..
 have hsz : ∀ q ∈ p.map qv,Sz q K:=fun q hq=>by
  obtain ⟨y,hy,rfl⟩:=List.mem_map.1 hq
  exact hs y hy
 generalize p.map qv = P at *
 have sz:=pr_sz g (fun i h0 h1=>by have:=hT0.YZ i h0 h1; exact ⟨this.1,this.2.1⟩) hsz (by omega)
 have hB : szB K 7 <= 30000:=by simp only [szB]; omega
 have sz2 : ∀ (k : Nat),k <= ns.length -> ∀ r : Int,0 <= r -> r < 2 + (k : Int) -> Sz (EY (zx P (ns.take k)) r) (szB K 7):=(fun k hk r r0 r1=>(sz k hk r r0 r1).mono (y8 K (by
   have hlv : 0 <= lX (Tb.new o) ns r:=by
    unfold lX
    split
    ·omega
    ·rename_i h2
     have hj : (r - 2).toNat < ns.length:=by omega
     have gj:=g _ hj
     have : ns.getD (r - 2).toNat default = ns[(r - 2).toNat]:=by rw [List.getD_eq_getElem?_getD,List.getElem?_eq_getElem hj]; rfl
     rw [this]
     exact (hT0.YZ _ gj.v.1 gj.v.2).1
   omega)))
 have cv:=UR o ns x P (K:=K) (B:=szB K 7) (by omega) hB hsz (by omega) (fun k hk=>by
  have gk:=g k hk
  have:=gk.v
  exact ⟨gk.v.1,by omega,gk.lo.1,gk.lo.2,gk.hi.1,gk.hi.2⟩) sz2
 have hpv:=DR P ns
 have co:=X4 (zx P ns) x x0 (by omega)
 have hex:=pr_ex g P hn0 ns.length (Nat.le_refl _) x x0 x1
 rw [List.take_length] at hex
 have ht : EY (zx P ns) x = Dw f P:=by
  rw [hex]
  exact iZ (fun s=>hv s) _ _
 rw [ht] at co
 have hsT:=sz2 ns.length (Nat.le_refl _) x x0 x1
 rw [List.take_length,ht] at hsT
 refine ⟨?_,hsT.mono hB⟩
 generalize fP (Dw f P) = R at *
 generalize zx P ns = V at *
 refine aC.intro lay mixed Tryz.func61 (by kernel_rfl) rfl (by kernel_rfl) rfl fun hok=>?_
 (try dsimp only[aZ,aO]);(try dsimp only[aj]);conv=>whnf
 refine .pure _ _ ?_ ⟨rfl,rfl⟩ cc fun _=>?_
 ·exact ak _
 (try dsimp only[aj]);conv=>whnf
 refine .pure _ _ ?_ ⟨rfl,rfl⟩ cs fun _=>?_
 ·exact ak _
 (try dsimp only[aj]);conv=>whnf
 refine .pure _ _ ?_ ⟨rfl,rfl⟩ cd fun _=>?_
 ·exact ak _
 (try dsimp only[aj]);conv=>whnf
 refine .pure _ _ ?_ ⟨rfl,rfl⟩ cb fun _=>?_
 ·exact ak _
 (try dsimp only[aj]);conv=>whnf
 refine aN.auto (by kernel_rfl) ?_;conv=>whnf
 refine bP.pure _ _ ?_ ⟨rfl,rfl⟩ cv ?_
 ·exact ak _
 conv=>whnf
 refine bP.pure _ _ ?_ ⟨rfl,rfl⟩ co ?_
 ·exact ak _
 conv=>whnf
 refine fM ?_;(conv=>whnf);refine ⟨?_,rfl⟩;conv=>whnf
 all_goals exact wk

def MJ (a b : Fo) (p : List Rat) : Int:=if dW a b ≠ 0 then dW a b else Gt p a.vars
def shR (a b : Fo) (p : List Rat) : Rat:=if MJ a b p ≠ 0 then ⟨false,[],[]⟩ else fP (Dw b (p.map qv) - Dw a (p.map qv))

structure PsOk (p : List Rat) (K : Nat) : Prop where
 lens : Lens p
 ws : ∀ x ∈ p,Ws x.num /\ Ws x.den
 sz : ∀ x ∈ p,Sz (qv x) K

theorem c_Shift (a b : Fo) (p : List Rat) {K : Nat} (hK : K <= 100) (hp : PsOk p K) (h7 : dW a b = 0 -> a.vars <= 7) (R : AV) (hR : R = .eU [(shR a b p).av,xW (MJ a b p)]) :
  aC Tryz.prog 18 [a.av,b.av,.sl 3 (p.map Rat.av) .no] [] R []:=by
 have cc:=yK a b _ rfl
 have cs:=Ou p a.vars hp.lens _ rfl
 by_cases h1 : dW a b ≠ 0
 ·have e1 : MJ a b p = dW a b:=if_pos h1
  have e2 : shR a b p = ⟨false,[],[]⟩:=if_pos (by rw [e1]; exact h1)
  rw [e1,e2] at hR
  rw [jB h1] at hR cc
  generalize dW a b = E at *
  subst hR
  refine aC.intro lay mixed Tryz.func18 (by kernel_rfl) rfl (by kernel_rfl) rfl fun hok=>?_
  (try dsimp only[aZ,aO]);(try dsimp only[aj]);conv=>whnf
  refine .pure _ _ ?_ ⟨rfl,rfl⟩ cc fun _=>?_
  ·exact ak _
  (try dsimp only[aj]);conv=>whnf
  refine fM ?_;(conv=>whnf);refine ⟨?_,rfl⟩;conv=>whnf
  all_goals exact wk
 have h0 : dW a b = 0:=by simpa using h1
 have e1 : MJ a b p = Gt p a.vars:=if_neg h1
 rw [h0,gX] at cc
 by_cases h2 : Gt p a.vars ≠ 0
 ·have e2 : shR a b p = ⟨false,[],[]⟩:=if_pos (by rw [e1]; exact h2)
  rw [e1,e2] at hR
  rw [jB h2] at hR cs
  generalize Gt p a.vars = E at *
  subst hR
  refine aC.intro lay mixed Tryz.func18 (by kernel_rfl) rfl (by kernel_rfl) rfl fun hok=>?_
  (try dsimp only[aZ,aO]);(try dsimp only[aj]);conv=>whnf
  refine .pure _ _ ?_ ⟨rfl,rfl⟩ cc fun _=>?_
  ·exact ak _
  (try dsimp only[aj]);conv=>whnf
  refine .pure _ _ ?_ ⟨rfl,rfl⟩ cs fun _=>?_
  ·exact ak _
  (try dsimp only[aj]);conv=>whnf
  refine fM ?_;(conv=>whnf);refine ⟨?_,rfl⟩;conv=>whnf
  all_goals exact wk
 have h20 : Gt p a.vars = 0:=by simpa using h2
 have e2 : shR a b p = fP (Dw b (p.map qv) - Dw a (p.map qv)):=if_neg (by rw [e1]; exact h2)
 rw [e1,e2,h20,gX] at hR
 rw [h20,gX] at cs
 obtain ⟨ha,hb,hab⟩:=xu h0
 obtain ⟨ta,sa⟩:=X5 a ha (h7 h0) p hp.lens h20 hp.ws hK hp.sz
 obtain ⟨tb,sb⟩:=X5 b hb (by have:=h7 h0; omega) p hp.lens (by rw [<- hab]; exact h20) hp.ws hK hp.sz
 have cS:=Yc sb sa (by omega) (by omega)
 generalize fP (Dw b (p.map qv) - Dw a (p.map qv)) = X at *
 generalize fP (Dw b (p.map qv)) = Y at *
 generalize fP (Dw a (p.map qv)) = Z at *
 subst hR
 refine aC.intro lay mixed Tryz.func18 (by kernel_rfl) rfl (by kernel_rfl) rfl fun hok=>?_
 (try dsimp only[aZ,aO]);(try dsimp only[aj]);conv=>whnf
 refine .pure _ _ ?_ ⟨rfl,rfl⟩ cc fun _=>?_
 ·exact ak _
 (try dsimp only[aj]);conv=>whnf
 refine .pure _ _ ?_ ⟨rfl,rfl⟩ cs fun _=>?_
 ·exact ak _
 (try dsimp only[aj]);conv=>whnf
 refine .pure _ _ ?_ ⟨rfl,rfl⟩ ta fun _=>?_
 ·exact ak _
 (try dsimp only[aj]);conv=>whnf
 refine .pure _ _ ?_ ⟨rfl,rfl⟩ tb fun _=>?_
 ·exact ak _
 (try dsimp only[aj]);conv=>whnf
 refine .pure _ _ ?_ ⟨rfl,rfl⟩ cS fun _=>?_
 ·exact ak _
 (try dsimp only[aj]);conv=>whnf
 refine fM ?_;(conv=>whnf);refine ⟨?_,rfl⟩;conv=>whnf
 all_goals exact wk

def XU (a b : Fo) : AV:=if dW a b ≠ 0 then zDf else (pG a b).av

theorem GK (a b : Fo) (h7 : dW a b = 0 -> a.vars <= 7) (R : AV) (hR : R = .eU [XU a b,xW (dW a b)]) : aC Tryz.prog 14 [a.av,b.av] [] R []:=by
 by_cases h1 : dW a b ≠ 0
 ·have cc:=yK a b _ rfl
  rw [show XU a b = zDf from if_pos h1] at hR
  rw [jB h1] at hR cc
  generalize dW a b = E at *
  subst hR
  refine aC.intro lay mixed Tryz.func14 (by kernel_rfl) rfl (by kernel_rfl) rfl fun hok=>?_
  (try dsimp only[aZ,aO]);(try dsimp only[aj]);conv=>whnf
  refine .pure _ _ ?_ ⟨rfl,rfl⟩ cc fun _=>?_
  ·exact ak _
  (try dsimp only[aj]);conv=>whnf
  refine fM ?_;(conv=>whnf);refine ⟨?_,rfl⟩;conv=>whnf
  all_goals exact wk
 ·have h0 : dW a b = 0:=by simpa using h1
  rw [show XU a b = (pG a b).av from if_neg h1,h0,gX] at hR
  subst hR
  exact JB a b h0 (h7 h0)

















theorem Zf (a : Rat) : aC Tryz.prog 20 [a.av,a.av] [] .tt []:=(c_ratEq a a).weak (R':=.tt) (by show decide _ = true; simp)

theorem X8 (neg : Bool) (x y : List Int) (wx : Ws x) (_ : Ws y) (hn : x.length <= 300000) (hd : y.length <= 300000) (h0 : val y ≠ 0) : aC Tryz.prog 70 [.bool neg,wL x,wL y] [] (.eU [(nV neg (val x) (val y)).av,.int .i64 0]) []:=by
 have hgx:=iW wx
 have cb:=Sv x (by omega)
 have cd:=Sv y (by omega)
 obtain ⟨n,hvn⟩ : ∃ n,val x = n:=⟨_,rfl⟩
 obtain ⟨d,hvd⟩ : ∃ d,val y = d:=⟨_,rfl⟩
 rw [hvn] at cb hgx ⊢
 rw [hvd] at cd h0 ⊢
 have hbd : jy d ≠ 0:=fun h=>h0 (rM.1 h)
 by_cases hz : n = 0
 ·have hb : jy n = 0:=rM.2 hz
  rw [hb] at cb
  rw [show nV neg n d = ⟨false,[],[]⟩ from if_pos hz]
  refine aC.intro lay mixed Tryz.func70 (by kernel_rfl) rfl (by kernel_rfl) rfl fun hok=>?_
  (try dsimp only[aZ,aO]);(try dsimp only[aj]);conv=>whnf
  refine .pure _ _ ?_ ⟨rfl,rfl⟩ cd fun _=>?_
  ·exact ak _
  (try dsimp only[aj]);conv=>whnf
  refine And.intro (fun h=>by exfalso; omega) (fun _=>?_)
  (try dsimp only[aj]);conv=>whnf
  refine .pure _ _ ?_ ⟨rfl,rfl⟩ cb fun _=>?_
  ·exact ak _
  (try dsimp only[aj]);conv=>whnf
  refine And.intro (fun _=>?_) (fun h=>absurd rfl h)
  (try dsimp only[aj]);conv=>whnf
  refine fM ?_;(conv=>whnf);refine ⟨?_,rfl⟩;conv=>whnf
  all_goals exact wk
 have hb : jy n ≠ 0:=fun h=>hz (rM.1 h)
 have hg0 : Nat.gcd n d ≠ 0:=by
  have:=Nat.gcd_pos_of_pos_left d (show 0 < n by omega)
  omega
 have hgn : Nat.gcd n d <= n:=Nat.gcd_le_left d (by omega)
 have hgl:=dZ hgn
 have cg:=c_rGcd x y (by omega) (by omega)
 rw [hvn,hvd] at cg
 have d1:=Qr x (wd (Nat.gcd n d)) (by omega) (by omega) (by rw [bD]; exact hg0)
 have d2:=Qr y (wd (Nat.gcd n d)) (by omega) (by omega) (by rw [bD]; exact hg0)
 rw [hvn,bD] at d1
 rw [hvd,bD] at d2
 rw [show nV neg n d = ⟨neg,wd (n / Nat.gcd n d),wd (d / Nat.gcd n d)⟩ from if_neg hz]
 generalize Nat.gcd n d = g at *
 refine aC.intro lay mixed Tryz.func70 (by kernel_rfl) rfl (by kernel_rfl) rfl fun hok=>?_
 (try dsimp only[aZ,aO]);(try dsimp only[aj]);conv=>whnf
 refine .pure _ _ ?_ ⟨rfl,rfl⟩ cd fun _=>?_
 ·exact ak _
 (try dsimp only[aj]);conv=>whnf
 refine And.intro (fun h=>by exfalso; omega) (fun _=>?_)
 (try dsimp only[aj]);conv=>whnf
 refine .pure _ _ ?_ ⟨rfl,rfl⟩ cb fun _=>?_
 ·exact ak _
 (try dsimp only[aj]);conv=>whnf
 refine And.intro (fun h=>by exfalso; omega) (fun _=>?_)
 (try dsimp only[aj]);conv=>whnf
 refine .pure _ _ ?_ ⟨rfl,rfl⟩ cg fun _=>?_
 ·exact ak _
 (try dsimp only[aj]);conv=>whnf
 refine .pure _ _ ?_ ⟨rfl,rfl⟩ d1 fun _=>?_
 ·exact ak _
 (try dsimp only[aj]);conv=>whnf
 refine .pure _ _ ?_ ⟨rfl,rfl⟩ d2 fun _=>?_
 ·exact ak _
 (try dsimp only[aj]);conv=>whnf
 refine fM ?_;(conv=>whnf);refine ⟨?_,rfl⟩;conv=>whnf
 all_goals exact wk

theorem Zi : aC Tryz.prog 124 [.int .i64 2] [] (wL [2,0]) []:=by
 refine aC.intro lay mixed Tryz.func124 (by kernel_rfl) rfl (by kernel_rfl) rfl fun hok=>?_
 conv=>whnf
 (repeat' ((first|refine aK.step 300 ?_|refine zY ?_|refine zN ?_|refine zI ?_|refine zD ?_|refine dM.mk ⟨_,⟨by decide +kernel,rfl⟩,?_⟩|refine zC ?_|refine zT ?_|refine zU ?_|refine fE.mk (by decide +kernel) (by decide +kernel) ?_|refine bV.wr ?_|refine aN.auto (by kernel_rfl) ?_);(conv=>whnf)))
 refine fM ?_;(conv=>whnf);refine ⟨?_,rfl⟩;conv=>whnf
 exact ⟨rfl,⟨rfl,by decide +kernel⟩,⟨rfl,by decide +kernel⟩,trivial⟩

theorem r_half : aC Tryz.prog 46 [.int .i64 1,.int .i64 2] [] (.eU [(fP (mkRat 1 2)).av,.int .i64 0]) []:=by
 have cf:=X8 false [1,0] [2,0] (by intro x hx; simp at hx; rcases hx with rfl | rfl <;> omega) (by intro x hx; simp at hx; rcases hx with rfl | rfl <;> omega) (by simp) (by simp) (by decide)
 rw [mY _ _ _ (by decide),show mkRat (Dx false (val [1,0])) (val [2,0]) = mkRat 1 2 from rfl] at cf
 generalize fP (mkRat 1 2) = R at *
 refine aC.intro lay mixed Tryz.func46 (by kernel_rfl) rfl (by kernel_rfl) rfl fun hok=>?_
 (try dsimp only[aZ,aO]);(try dsimp only[aj]);conv=>whnf
 refine .pure _ _ ?_ ⟨rfl,rfl⟩ Pz fun _=>?_
 ·exact ak _
 (try dsimp only[aj]);conv=>whnf
 refine .pure _ _ ?_ ⟨rfl,rfl⟩ Zi fun _=>?_
 ·exact ak _
 (try dsimp only[aj]);conv=>whnf
 refine .pure _ _ ?_ ⟨rfl,rfl⟩ cf fun _=>?_
 ·refine ⟨?_,fG _,fG _,trivial⟩
  first | (show _ ↔ _; decide) | rfl
 (try dsimp only[aj]);conv=>whnf
 refine fM ?_;(conv=>whnf);refine ⟨?_,rfl⟩;conv=>whnf
 all_goals exact wk

abbrev NC (k : Int) : Fo:=⟨2,[⟨k,0,[0,1]⟩],2⟩

theorem Aw (k : Int) : aC Tryz.prog 47 [.int .i64 k] [] (NC k).av []:=by
 refine aC.intro lay mixed Tryz.func47 (by kernel_rfl) rfl (by kernel_rfl) rfl fun hok=>?_
 (try dsimp only[aZ,aO]);(try dsimp only[aj]);conv=>whnf
 refine fM ?_;(conv=>whnf);refine ⟨?_,rfl⟩;conv=>whnf
 all_goals exact wk

theorem XC : dW (NC 2) (NC 3) = 0:=by decide +kernel
theorem ex_df : pG (NC 2) (NC 3) = ⟨false,1,2,2,0⟩:=by decide +kernel

abbrev qI : Rat:=⟨false,[1],[2]⟩
theorem Xp : fP (mkRat 1 2) = qI:=by decide +kernel
theorem ex_chk : MJ (NC 2) (NC 3) [qI,qI] = 0:=by decide +kernel
theorem ex_sh : shR (NC 2) (NC 3) [qI,qI] = qI:=by decide +kernel
theorem ex_ps : PsOk [qI,qI] 4:=by
 have h : ∀ x ∈ [qI,qI],x = qI:=by intro x hx; simpa using hx
 refine ⟨fun x hx=>?_,fun x hx=>?_,fun x hx=>?_⟩
 ·rw [h x hx]; simp
 ·rw [h x hx]
  refine ⟨?_,?_⟩ <;> (intro y hy; simp at hy; omega)
 ·rw [h x hx]; unfold Sz; decide +kernel

theorem rJ : aC Tryz.prog 12 [] [] .tt []:=by
 have cm:=r_half
 rw [Xp] at cm
 have cc:=GK (NC 2) (NC 3) (fun _=>by decide) _ rfl
 rw [XC,gX,show XU (NC 2) (NC 3) = (pG (NC 2) (NC 3)).av from if_neg (by rw [XC]; simp),ex_df] at cc
 have cs:=c_Shift (NC 2) (NC 3) [qI,qI] (K:=4) (by omega) ex_ps (fun _=>by decide) _ rfl
 rw [ex_chk,ex_sh,gX] at cs
 refine aC.intro lay mixed Tryz.func12 (by kernel_rfl) rfl (by kernel_rfl) rfl fun hok=>?_
 (try dsimp only[aZ,aO]);(try dsimp only[aj]);conv=>whnf
 refine .pure _ _ ?_ ⟨rfl,rfl⟩ cm fun _=>?_
 ·exact ak _
 (try dsimp only[aj]);conv=>whnf
 refine .pure _ _ ?_ ⟨rfl,rfl⟩ (Aw 2) fun _=>?_
 ·exact ak _
 (try dsimp only[aj]);conv=>whnf
 refine .pure _ _ ?_ ⟨rfl,rfl⟩ (Aw 3) fun _=>?_
 ·exact ak _
 (try dsimp only[aj]);conv=>whnf
 refine .pure _ _ ?_ ⟨rfl,rfl⟩ cc fun _=>?_
 ·exact ak _
 (try dsimp only[aj]);conv=>whnf
 refine aN.auto (by kernel_rfl) ?_;conv=>whnf
 refine bP.pure _ _ ?_ ⟨rfl,rfl⟩ (Aw 2) ?_
 ·exact ak _
 conv=>whnf
 refine bP.pure _ _ ?_ ⟨rfl,rfl⟩ (Aw 3) ?_
 ·exact ak _
 conv=>whnf
 refine bP.pure _ _ ?_ ⟨rfl,rfl⟩ cs ?_
 ·all_goals exact wk
 conv=>whnf
 refine And.intro (fun _=>?_) (fun h=>absurd (by simp [NT,eqP,ZG]) h)
 (try dsimp only[aj]);conv=>whnf
 refine .pure _ _ ?_ ⟨rfl,rfl⟩ (Zf qI) fun _=>?_
 ·exact ak _
 (try dsimp only[aj]);conv=>whnf
 refine fM ?_;(conv=>whnf);refine ⟨?_,rfl⟩;conv=>whnf
 all_goals exact wk

def hvB (a b : Fo) : Bool:=decide (7 < a.vars /\ dW a b = 0)

theorem U0 (a b : Fo) : aC Tryz.prog 13 [a.av,b.av] [] (.bool (hvB a b)) []:=by
 have cc:=Gw a b
 refine aC.intro lay mixed Tryz.func13 (by kernel_rfl) rfl (by kernel_rfl) rfl fun hok=>?_
 (try dsimp only[aZ,aO]);(try dsimp only[aj]);conv=>whnf
 refine And.intro (fun g=>?_) (fun g=>?_)
 ·(try dsimp only[aj]);conv=>whnf
  refine .pure _ _ ?_ ⟨rfl,rfl⟩ cc fun _=>?_
  ·exact ak _
  (try dsimp only[aj]);conv=>whnf
  refine fM ?_;(conv=>whnf);refine ⟨?_,rfl⟩;conv=>whnf
  show _ ↔ _
  unfold hvB
  rw [decide_eq_true_iff]
  exact ⟨fun h=>⟨g,h⟩,fun h=>h.2⟩
 ·(try dsimp only[aj]);conv=>whnf
  refine fM ?_;(conv=>whnf);refine ⟨?_,rfl⟩;conv=>whnf
  show hvB a b = false
  exact decide_eq_false (fun h=>g h.1)



def Wx (n : Int) : List Int -> Int -> Int
 | [],_=>-1
 | x :: l,i=>if x = n then i else Wx n l (i + 1)

theorem J5 (n : Int) : ∀ (l : List Int) (i : Int),0 <= i -> (0 <= Wx n l i ↔ n ∈ l)
 | [],i,_=>by simp [Wx]
 | x :: l,i,h=>by
   unfold Wx
   split
   ·rename_i e; simp [e,h]
   ·rename_i e
    rw [J5 n l (i + 1) (by omega)]
    simp [Ne.symm e]

theorem SG (l : List Int) (n : Int) : aC Tryz.prog 190 [iL l,.int .i64 n] [] (.int .i64 (Wx n l 0)) []:=by
 refine aC.intro lay mixed Tryz.func190 (by kernel_rfl) rfl (by kernel_rfl) rfl fun hok=>?_
 have hll : l.length <= 9223372036854775807:=by have:=hok.1.1; simpa [maxL] using this
 (try dsimp only[aZ,aO]);(try dsimp only[aj]);conv=>whnf
 refine aK.of <| aB.inv (.refl _ _) (fun (k : Nat)=>k <= l.length /\ Wx n (l.drop k) k = Wx n l 0) (fun (k : Nat)=>[(5,.int .i64 k)]) (fun _=>_) (fun (k : Nat)=>l.length - k) 0 ?_ (fun _=>rfl) ?_ ?_
 ·exact ⟨Nat.zero_le _,rfl⟩
 ·all_goals exact wk
 rintro k ⟨hk,hp⟩ _
 (try dsimp only[aj]);conv=>whnf
 rw [List.length_map]
 refine And.intro (fun g=>?_) (fun g=>?_)
 ·have hlt : k < l.length:=by omega
  rw [List.drop_eq_getElem_cons hlt,Wx] at hp
  (try dsimp only[aj]);conv=>whnf
  refine gY hlt ?_
  generalize l[k] = x at *
  (try dsimp only[aj]);conv=>whnf
  refine And.intro (fun g1=>?_) (fun g1=>?_)
  ·rw [if_pos g1] at hp
   rw [<- hp]
   (try dsimp only[aj]);conv=>whnf
   refine fM ?_;(conv=>whnf);refine ⟨?_,rfl⟩;conv=>whnf
   all_goals exact wk
  ·rw [if_neg g1] at hp
   (try dsimp only[aj]);conv=>whnf
   refine zA ?_;conv=>whnf
   refine ⟨k + 1,?_,?_,?_⟩
   ·exact ⟨hlt,by push_cast; exact hp⟩
   ·all_goals exact wk
   ·omega
 ·have hk : k = l.length:=by omega
  subst hk
  rw [List.drop_length] at hp
  rw [<- hp]
  (try dsimp only[aj]);conv=>whnf
  refine fM ?_;(conv=>whnf);refine ⟨?_,rfl⟩;conv=>whnf
  all_goals exact wk

def yY (v : Nat) (l : List Nd) : Nat -> Int -> List Int -> List Int
 | 0,_,s=>s
 | n + 1,a,s=>if a ∈ s then s else if a < (v : Int) then s ++ [a] else (argsAt l (a.toNat - v)).foldl (fun s b=>yY v l n b s) (s ++ [a])

structure YB (v m : Nat) (s : List Int) (d : List Bool × List Int) : Prop where
 inv : Vr v m d
 rng : ∀ x ∈ s,0 <= x /\ x < ((v + m : Nat) : Int)
 nd : s.Nodup
 bit : ∀ i,i < v + m -> (d.1.getD i false = true ↔ (i : Int) ∈ s)
 ev : d.2 = s.filter (fun x=>decide (x < (v : Int)))

theorem YB.short {v m : Nat} {s : List Int} {d : List Bool × List Int} (h : YB v m s d) : s.length <= v + m:=by
 have:=oK (l:=s) (u:=(List.range (v + m)).map (fun k : Nat=>(k : Int))) h.nd (fun x hx=>by
  have:=h.rng x hx
  exact List.mem_map.2 ⟨x.toNat,List.mem_range.2 (by omega),by omega⟩)
 simpa using this

theorem YB.step {v m : Nat} {s : List Int} {d : List Bool × List Int} (h : YB v m s d) {a : Int} (h0 : 0 <= a) (h1 : a < ((v + m : Nat) : Int)) (hm : a ∉ s) :
  YB v m (s ++ [a]) (d.1.set a.toNat true,if a < (v : Int) then d.2 ++ [a] else d.2):=by
 have hd : ¬ d.1.getD a.toNat false = true:=fun hh=>hm (by
  have:=(h.bit a.toNat (by omega)).1 hh
  rwa [show ((a.toNat : Nat) : Int) = a by omega] at this)
 refine ⟨h.inv.mark h0 h1 hd,fun x hx=>?_,?_,fun i hi=>?_,?_⟩
 ·rcases List.mem_append.1 hx with hx | hx
  ·exact h.rng x hx
  ·obtain rfl:=List.mem_singleton.1 hx; exact ⟨h0,h1⟩
 ·refine List.nodup_append.2 ⟨h.nd,by simp,fun x hx y hy e=>?_⟩
  obtain rfl:=List.mem_singleton.1 hy
  exact hm (e ▸ hx)
 ·dsimp only
  rw [lZ,h.bit i hi,List.mem_append,List.mem_singleton]
  have hl:=h.inv.len
  constructor
  ·rintro (e | ⟨_,e⟩)
   ·exact .inl e
   ·exact .inr (by omega)
  ·rintro (e | e)
   ·exact .inl e
   ·exact .inr ⟨by omega,by omega⟩
 ·dsimp only
  rw [List.filter_append,h.ev]
  split
  ·rename_i e; simp [e]
  ·rename_i e; simp [e]

theorem Ep {v : Nat} {l : List Nd} (hw : ∀ i < l.length,∀ a ∈ argsAt l i,0 <= a /\ a < (v : Int) + i) : ∀ (n : Nat) (a : Int) (s : List Int) (d : List Bool × List Int),YB v l.length s d -> 0 <= a -> a < ((v + l.length : Nat) : Int) ->
  YB v l.length (yY v l n a s) (yZ v l n a d)
 | 0,_,_,_,h,_,_=>h
 | n + 1,a,s,d,h,h0,h1=>by
   unfold yY yZ
   have hiff:=h.bit a.toNat (by omega)
   rw [show ((a.toNat : Nat) : Int) = a by omega] at hiff
   by_cases hm : a ∈ s
   ·rw [if_pos hm,if_pos (hiff.2 hm)]; exact h
   rw [if_neg hm,if_neg (fun hh=>hm (hiff.1 hh))]
   have hk:=h.step h0 h1 hm
   by_cases hv : a < (v : Int)
   ·rw [if_pos hv] at hk
    rw [if_pos hv,if_pos hv]; exact hk
   ·rw [if_neg hv] at hk
    rw [if_neg hv,if_neg hv]
    have Xj:=hw (a.toNat - v) (by omega)
    generalize argsAt l (a.toNat - v) = args at *
    generalize s ++ [a] = s' at *
    generalize (d.1.set a.toNat true,d.2) = d' at *
    induction args generalizing s' d' with
    | nil=>exact hk
    | cons b args ih =>
      have hb:=Xj b (by simp)
      exact ih (fun x hx=>Xj x (by simp [hx])) _ _ (Ep hw n b s' d' hk hb.1 (by omega))

def VE (f : Fo) : List Int:=yY f.vars.toNat f.nodes (f.top.toNat + 1) f.top []

theorem VD (f : Fo) (h : qj f) : YB f.vars.toNat f.nodes.length (VE f) (Gm f):=by
 have h1:=h.vars
 have h4:=h.top
 refine Ep h.args _ _ _ _ ⟨⟨by simp,fun e he=>(by cases he),List.nodup_nil,fun i hi hs=>?_⟩,fun x hx=>(by cases hx),List.nodup_nil,fun i hi=>?_,rfl⟩ h4.1 (by omega)
 ·rw [List.getD_eq_getElem?_getD,List.getElem?_replicate] at hs
  split at hs <;> cases hs
 ·dsimp only
  rw [List.getD_eq_getElem?_getD,List.getElem?_replicate]
  split <;> simp

theorem Qh {v m : Nat} {s : List Int} {d : List Bool × List Int} (h : YB v m s d) (k : Nat) (hk : k < v) : (Wx (k : Int) (kE v d k) 0 < 0) ↔ d.1.getD k false = false:=by
 have hi:=J5 (k : Int) (kE v d k) 0 (by omega)
 have hmem : (k : Int) ∈ kE v d k ↔ d.1.getD k false = true:=by
  unfold kE
  rw [List.mem_append]
  constructor
  ·rintro (e | e)
   ·exact (h.inv.ev _ e).2.2
   ·obtain ⟨i,hi,e⟩:=List.mem_map.1 e
    have:=List.mem_range.1 (List.mem_filter.1 hi).1
    omega
  ·intro e
   exact .inl (h.inv.all k hk e)
 rw [hmem] at hi
 cases hd : d.1.getD k false with
 | false=>rw [hd] at hi; simp at hi ⊢; omega
 | true=>rw [hd] at hi; simp at hi ⊢; omega

abbrev hpR (s : List Int) : Heap:=[(0,.tok 1 s.length)]

theorem UU (f : Fo) (h : qj f) : ∀ (n : Nat) (a : Int) (s : List Int) (d : List Bool × List Int),YB f.vars.toNat f.nodes.length s d -> 0 <= a -> a < ((f.vars.toNat + f.nodes.length : Nat) : Int) -> a < (n : Int) ->
  aC Tryz.prog 189 [f.av,.int .i64 a,.sl 1 (s.map (.int .i64)) (.own 0)] (hpR s) (.sl 1 ((yY f.vars.toNat f.nodes n a s).map (.int .i64)) (.own 0)) (hpR (yY f.vars.toNat f.nodes n a s)):=by
 intro n
 induction n with
 | zero=>intro a s d _ h0 _ h1; omega
 | succ n ih =>
   intro a s d hs h0 h1 han
   have hsl:=hs.short
   have hl128:=h.len
   have hw:=h.args
   have hpl:=J5 a s 0 (by omega)
   have cp:=SG s a
   have hal : ∀ i,i < f.nodes.length -> (argsAt f.nodes i).length <= 16:=fun i hi=>by
    have hal:=(h.nodes i hi).num
    have e : argsAt f.nodes i = f.nodes[i].args:=by unfold argsAt; rw [List.getD_eq_getElem?_getD,List.getElem?_eq_getElem hi]; rfl
    rw [e]
    split at hal
    ·omega
    ·split at hal <;> omega
   obtain ⟨g1,g2,g3,g4⟩:=h
   generalize Wx a s 0 = pz at *
   refine aC.intro lay mixed Tryz.func189 (by kernel_rfl) rfl (by kernel_rfl) rfl fun hok=>?_
   (try dsimp only[aZ,aO]);(try dsimp only[aj]);conv=>whnf
   refine .pure _ _ ?_ ⟨rfl,rfl⟩ cp fun _=>?_
   ·all_goals exact wk
   (try dsimp only[aj]);conv=>whnf
   refine And.intro (fun g=>?_) (fun g=>?_)
   ·rw [show yY f.vars.toNat f.nodes (n + 1) a s = s from if_pos (hpl.1 g)]
    (try dsimp only[aj]);conv=>whnf
    refine ⟨⟨_,_,.refl _ _,?_⟩⟩
    conv=>whnf
    refine ⟨?_,rfl,by simp [nextId],.mk ?_ (by simp [au])⟩
    ·all_goals exact wk
    ·all_goals exact wk
   have hm : a ∉ s:=fun hh=>absurd (hpl.2 hh) (by omega)
   have hst:=hs.step h0 h1 hm
   (try dsimp only[aj]);conv=>whnf
   refine ⟨by rw [List.length_map],.mk (by simp [maxL]; omega) (by simp; omega) ?_⟩
   (try dsimp only[aj]);conv=>whnf
   refine And.intro (fun g5=>?_) (fun g5=>?_)
   ·have ZL : a < (f.vars.toNat : Int):=by omega
    rw [show yY f.vars.toNat f.nodes (n + 1) a s = s ++ [a] from (if_neg hm).trans (if_pos ZL)]
    (try dsimp only[aj]);conv=>whnf
    refine ⟨⟨_,_,.refl _ _,?_⟩⟩
    conv=>whnf
    refine ⟨?_,rfl,by simp [nextId],.mk ?_ (by simp [au])⟩
    ·repeat' first|exact rfl|exact trivial|exact wR|exact lR _|apply aI
     all_goals (show dH _ (List.map _ (_ ++ [_])); rw [List.map_append]; exact aA _)
    ·repeat' first|exact rfl|exact trivial|exact wR|exact lR _|apply aI
     all_goals (simp; done)
   have ZL : ¬ a < (f.vars.toNat : Int):=by omega
   rw [if_neg ZL] at hst
   have Xj:=hw (a.toNat - f.vars.toNat) (by omega)
   have han':=hal (a.toNat - f.vars.toNat) (by omega)
   rw [show yY f.vars.toNat f.nodes (n + 1) a s = (argsAt f.nodes (a.toNat - f.vars.toNat)).foldl (fun s b=>yY f.vars.toNat f.nodes n b s) (s ++ [a]) from (if_neg hm).trans (if_neg ZL)]
   have hinv : ∀ j,j <= (argsAt f.nodes (a.toNat - f.vars.toNat)).length -> ∃ d',YB f.vars.toNat f.nodes.length (((argsAt f.nodes (a.toNat - f.vars.toNat)).take j).foldl (fun s b=>yY f.vars.toNat f.nodes n b s) (s ++ [a])) d':=by
    intro j
    induction j with
    | zero=>intro _; exact ⟨_,hst⟩
    | succ j ihj =>
      intro hj
      rw [wZ _ _ (show j < (argsAt f.nodes (a.toNat - f.vars.toNat)).length by omega)]
      have:=Xj _ (List.getElem_mem (show j < (argsAt f.nodes (a.toNat - f.vars.toNat)).length by omega))
      obtain ⟨d',hd'⟩:=ihj (by omega)
      exact ⟨_,Ep hw n _ _ _ hd' this.1 (by omega)⟩
   (try dsimp only[aj]);conv=>whnf
   refine ⟨bf (by omega) (by omega),?_⟩
   (try dsimp only[aj]);conv=>whnf
   refine dA default ⟨by omega,by omega⟩ ?_
   rw [show (a - f.vars).toNat = a.toNat - f.vars.toNat by omega]
   (try dsimp only[aj]);conv=>whnf
   rw [show argsAt f.nodes (a.toNat - f.vars.toNat) = (f.nodes.getD (a.toNat - f.vars.toNat) default).args from rfl] at *
   generalize f.nodes.getD (a.toNat - f.vars.toNat) default = x at *
   refine aK.of <| (aB.inv (.refl _ _) (fun k : Nat=>k <= x.args.length) (fun k=>[(8,.int .i64 k),(2,.sl 1 (((x.args.take k).foldl (fun s b=>yY f.vars.toNat f.nodes n b s) (s ++ [a])).map (.int .i64)) (.own 0))]) (fun k=>[(2,.box x.av),(1,.box f.av),(0,.tok 1 ((x.args.take k).foldl (fun s b=>yY f.vars.toNat f.nodes n b s) (s ++ [a])).length)]) (fun k=>x.args.length - k) 0 (Nat.zero_le _) ?_ ?_ ?_)
   ·exact fun _=>rfl
   ·refine ⟨?_,.mk ?_ (by simp [au])⟩
    ·repeat' first|exact rfl|exact trivial|exact wR|exact lR _|apply aI
     all_goals (show dH _ (List.map _ (_ ++ [_])); rw [List.map_append]; exact aA _)
    ·repeat' first|exact rfl|exact trivial|exact wR|exact lR _|apply aI
     all_goals (simp; done)
   intro k hk _
   obtain ⟨d',hik⟩:=hinv k hk
   (try dsimp only[aj]);conv=>whnf
   rw [List.length_map]
   refine And.intro (fun g6=>?_) (fun g6=>?_)
   ·have hlt : k < x.args.length:=by omega
    have hb:=Xj _ (List.getElem_mem hlt)
    have q:=ih (x.args[k]) _ _ hik hb.1 (by omega) (by omega)
    rw [<- wZ (fun s b=>yY f.vars.toNat f.nodes n b s) _ hlt] at q
    (try dsimp only[aj]);conv=>whnf
    refine aN.mk ⟨[false,true,false,true,true,true,true,false,true],by kernel_rfl,?_⟩
    conv=>whnf
    refine gY hlt ?_
    conv=>whnf
    refine .gen _ _ (aC.frame [0] q ⟨rfl,rfl,rfl,rfl⟩ ?_ ?_) fun _=>?_
    ·all_goals exact wk
    ·all_goals exact wk
    (try dsimp only[aj]);conv=>whnf
    refine zA ?_;conv=>whnf
    refine ⟨k + 1,?_,?_,?_⟩
    ·exact hlt
    ·refine ⟨?_,.mk ?_ (by simp [au])⟩
     ·all_goals exact wk
     ·all_goals exact wk
    ·omega
   ·have hk : k = x.args.length:=by omega
    subst hk
    rw [List.take_length]
    (try dsimp only[aj]);conv=>whnf
    refine ⟨⟨_,_,.refl _ _,?_⟩⟩
    conv=>whnf
    refine ⟨?_,rfl,by simp [nextId],.mk ?_ (by simp [au])⟩
    ·all_goals exact wk
    ·all_goals exact wk

theorem Qs (f : Fo) (h : qj f) : aC Tryz.prog 102 [f.av] [] (iL (pq f)) []:=by
 have hs:=VD f h
 have h1:=h.vars
 have h2:=h.len
 have h4:=h.top
 have hshort:=hs.short
 have cw : aC Tryz.prog 189 [f.av,.int .i64 f.top,.sl 1 (([] : List Int).map (.int .i64)) (.own 0)] (hpR []) (.sl 1 ((VE f).map (.int .i64)) (.own 0)) (hpR (VE f)) :=
  UU f h (f.top.toNat + 1) f.top [] (List.replicate (f.vars.toNat + f.nodes.length) false,[]) ⟨⟨by simp,fun e he=>(by cases he),List.nodup_nil,fun i hi hs=>by
   rw [List.getD_eq_getElem?_getD,List.getElem?_replicate] at hs
   split at hs <;> cases hs⟩,fun x hx=>(by cases hx),List.nodup_nil,fun i hi=>by
   dsimp only
   rw [List.getD_eq_getElem?_getD,List.getElem?_replicate]
   split <;> simp,rfl⟩ h4.1 (by omega) (by omega)
 have hdp:=Qh hs
 have hds:=Ju f.vars.toNat (Gm f)
 have hd0 : kE f.vars.toNat (Gm f) 0 = (VE f).filter (fun x=>decide (x < (f.vars.toNat : Int))):=by
  unfold kE; rw [hs.ev]; simp
 have hdl : ∀ k,k <= f.vars.toNat -> (kE f.vars.toNat (Gm f) k).length <= 48:=fun k hk=>by
  have hsh:=hs.inv.short
  unfold kE
  rw [List.length_append,List.length_map]
  have:=List.length_filter_le (fun i=>!(Gm f).1.getD i false) (List.range k)
  rw [List.length_range] at this
  omega
 unfold pq
 generalize Gm f = d at *
 generalize VE f = s at *
 refine aC.intro lay mixed Tryz.func102 (by kernel_rfl) rfl (by kernel_rfl) rfl fun hok=>?_
 (try dsimp only[aZ,aO]);(try dsimp only[aj]);conv=>whnf
 refine .gen _ _ (aC.growD 2 1 rfl (.inl ⟨rfl,rfl⟩) (aC.frame [1] cw ⟨rfl,rfl,rfl,rfl⟩ ?_ ?_)) fun _=>?_
 ·all_goals exact wk
 ·all_goals exact wk
 (try dsimp only[aj]);conv=>whnf
 refine aK.of <| (aB.inv (.grow 4 1 [] _ rfl (.inl ⟨rfl,rfl⟩) (.refl _ _)) (fun k : Nat=>k <= s.length) (fun k=>[(5,.int .i64 k),(4,.sl 1 (((s.take k).filter (fun x=>decide (x < (f.vars.toNat : Int)))).map (.int .i64)) (.own 2))]) (fun k=>[(2,.tok 1 ((s.take k).filter (fun x=>decide (x < (f.vars.toNat : Int)))).length),(1,.tok 1 s.length),(0,.box f.av)]) (fun k=>s.length - k) 0 (Nat.zero_le _) ?_ ?_ ?_)
 ·exact fun _=>rfl
 ·refine ⟨?_,.mk ?_ (by simp [au])⟩
  ·all_goals exact wk
  ·all_goals exact wk
 intro k hk _
 (try dsimp only[aj]);conv=>whnf
 rw [List.length_map]
 refine And.intro (fun g=>?_) (fun g=>?_)
 ·have hlt : k < s.length:=by omega
  have hft : (s.take (k + 1)).filter (fun x=>decide (x < (f.vars.toNat : Int))) = (s.take k).filter (fun x=>decide (x < (f.vars.toNat : Int))) ++ if s[k] < (f.vars.toNat : Int) then [s[k]] else []:=by
   rw [List.take_succ_eq_append_getElem hlt,List.filter_append]
   congr 1
   by_cases e : s[k] < (f.vars.toNat : Int)
   ·rw [if_pos e]
    exact List.filter_cons_of_pos (p:=fun x=>decide (x < (f.vars.toNat : Int))) (decide_eq_true e)
   ·rw [if_neg e]
    exact List.filter_cons_of_neg (p:=fun x=>decide (x < (f.vars.toNat : Int))) (fun h=>e (of_decide_eq_true h))
  have hfl:=List.length_filter_le (fun x=>decide (x < (f.vars.toNat : Int))) (s.take k)
  rw [List.length_take] at hfl
  (try dsimp only[aj]);conv=>whnf
  refine aN.auto (by kernel_rfl) ?_;conv=>whnf
  refine gY hlt ?_
  conv=>whnf
  refine And.intro (fun g1=>?_) (fun g1=>?_)
  ·rw [if_pos (by omega)] at hft
   (try dsimp only[aj]);conv=>whnf
   refine gY hlt ?_
   generalize (s.take k).filter (fun x=>decide (x < (f.vars.toNat : Int))) = w at *
   generalize s[k] = x at *
   (try dsimp only[aj]);conv=>whnf
   refine ⟨by rw [List.length_map],.mk (by simp [maxL]; omega) (by simp; omega) ?_⟩
   (try dsimp only[aj]);conv=>whnf
   refine zA ?_;conv=>whnf
   refine ⟨k + 1,?_,?_,?_⟩
   ·exact hlt
   ·rw [hft]
    refine ⟨?_,.mk ?_ (by simp [au])⟩
    ·repeat' first|exact rfl|exact trivial|exact wR|exact lR _|apply aI
     all_goals (show dH _ (List.map _ (_ ++ [_])); rw [List.map_append]; exact aA _)
    ·repeat' first|exact rfl|exact trivial|exact wR|exact lR _|apply aI
     all_goals (simp; done)
   ·omega
  ·rw [if_neg (by omega),List.append_nil] at hft
   (try dsimp only[aj]);conv=>whnf
   refine zA ?_;conv=>whnf
   refine ⟨k + 1,?_,?_,?_⟩
   ·exact hlt
   ·rw [hft]
    refine ⟨?_,.mk ?_ (by simp [au])⟩
    ·all_goals exact wk
    ·all_goals exact wk
   ·omega
 have hk : k = s.length:=by omega
 subst hk
 rw [List.take_length,<- hd0]
 (try dsimp only[aj]);conv=>whnf
 refine aK.of <| (aB.inv (.refl _ _) (fun k : Nat=>k <= f.vars.toNat) (fun k=>[(6,.int .i64 k),(4,.sl 1 ((kE f.vars.toNat d k).map (.int .i64)) (.own 2))]) (fun k=>[(2,.tok 1 (kE f.vars.toNat d k).length),(1,.tok 1 s.length),(0,.box f.av)]) (fun k=>f.vars.toNat - k) 0 (Nat.zero_le _) ?_ ?_ ?_)
 ·exact fun _=>rfl
 ·refine ⟨?_,.mk ?_ (by simp [au])⟩
  ·all_goals exact wk
  ·all_goals exact wk
 intro k hk _
 have hds:=hds k
 have hdk:=hdl k hk
 (try dsimp only[aj]);conv=>whnf
 refine And.intro (fun g2=>?_) (fun g2=>?_)
 ·have hlt : k < f.vars.toNat:=by omega
  have hdp:=hdp k hlt
  have cp:=SG (kE f.vars.toNat d k) (k : Int)
  generalize Wx (k : Int) (kE f.vars.toNat d k) 0 = pz at *
  generalize hw : kE f.vars.toNat d k = w at *
  (try dsimp only[aj]);conv=>whnf
  refine .pure _ _ ?_ ⟨rfl,rfl⟩ cp fun _=>?_
  ·all_goals exact wk
  (try dsimp only[aj]);conv=>whnf
  refine And.intro (fun g3=>?_) (fun g3=>?_)
  ·rw [if_neg (by rw [hdp.1 g3]; simp)] at hds
   (try dsimp only[aj]);conv=>whnf
   refine ⟨by rw [List.length_map],.mk (by simp [maxL]; omega) (by simp; omega) ?_⟩
   (try dsimp only[aj]);conv=>whnf
   refine zA ?_;conv=>whnf
   refine ⟨k + 1,?_,?_,?_⟩
   ·exact hlt
   ·rw [hds]
    refine ⟨?_,.mk ?_ (by simp [au])⟩
    ·repeat' first|exact rfl|exact trivial|exact wR|exact lR _|apply aI
     all_goals (show dH _ (List.map _ (_ ++ [_])); rw [List.map_append]; exact aA _)
    ·repeat' first|exact rfl|exact trivial|exact wR|exact lR _|apply aI
     all_goals (simp; done)
   ·omega
  ·rw [if_pos (by
    cases h : d.1.getD k false with
    | true=>rfl
    | false=>exact absurd (hdp.2 h) g3)] at hds
   (try dsimp only[aj]);conv=>whnf
   refine zA ?_;conv=>whnf
   refine ⟨k + 1,?_,?_,?_⟩
   ·exact hlt
   ·rw [hds]
    refine ⟨?_,.mk ?_ (by simp [au])⟩
    ·repeat' first|exact rfl|exact trivial|exact wR|exact lR _|apply aI
     all_goals (rw [hw]; exact aA _)
    ·repeat' first|exact rfl|exact trivial|exact wR|exact lR _|apply aI
     all_goals (rw [hw])
   ·omega
 have hk : k = f.vars.toNat:=by omega
 subst hk
 (try dsimp only[aj]);conv=>whnf
 refine ⟨⟨_,_,.refl _ _,?_⟩⟩
 conv=>whnf
 refine ⟨?_,rfl,by simp [nextId],.mk ?_ (by simp [au])⟩
 ·all_goals exact wk
 ·all_goals exact wk

theorem Rn {o : List Int} {v : Nat} (h : rX o v) : YL o v:=⟨h.len,h.rng,h.nd,fun i hi=>h.mem (by omega) (by omega)⟩

abbrev mkH (a b : Fo) (o : List Int) (N : Nat) : Heap:=[(0,.box (.ag [a.av,b.av,iL o,.int .i64 N]))]

theorem c_mAt (a b : Fo) (ha : qj a) (hb : qj b) (hab : a.vars = b.vars) (o : List Int) (ho : YL o a.vars.toNat) : ∀ (k d y n N : Nat),d + k = a.vars.toNat -> xK o a.vars.toNat d y n -> N + NI a b o k d y n <= 4096 ->
  aC Tryz.prog 100 [.ptr 0 [] 0,O5 y n,.int .i64 d] (mkH a b o N) (.eU [(NG a b o k d y n).av,.eX]) (mkH a b o (N + NI a b o k d y n)):=by
 have hav:=ha.vars
 have hp24 : 2 ^ a.vars.toNat <= 2 ^ 24:=Nat.pow_le_pow_right (by decide) (by omega)
 intro k
 induction k with
 | zero =>
   intro d y n N hk h hN
   have hg1:=FU a b o 0 d y n
   have hf : ∀ i < a.vars.toNat,y.testBit i = true \/ n.testBit i = true:=by
    have : d = a.vars.toNat:=by omega
    subst this
    exact h.full ho
   have ht : tri a y n ≠ 2 /\ tri b y n ≠ 2:=⟨y7 ha hf,y7 hb (by rw [<- hab]; exact hf)⟩
   have va:=Ar a ha h.cu
   have vb:=Ar b hb (by rw [<- hab]; exact h.cu)
   rw [zW ht,FT ht] at *
   have r1:=qB ha y n
   rw [Sp.jT]
   generalize tri a y n = x at *
   generalize tri b y n = z at *
   refine aC.intro lay mixed Tryz.func100 (by kernel_rfl) rfl (by kernel_rfl) rfl fun hok=>?_
   (try dsimp only[aZ,aO]);(try dsimp only[aj]);conv=>whnf
   refine zA ?_;conv=>whnf
   refine bN (by omega) ?_
   (try dsimp only[aj]);conv=>whnf
   refine aN.auto (by kernel_rfl) ?_;conv=>whnf
   refine bP.pure _ _ ?_ ⟨rfl,rfl⟩ va ?_
   ·exact ak _
   (try dsimp only[aj]);conv=>whnf
   refine aN.auto (by kernel_rfl) ?_;conv=>whnf
   refine bP.pure _ _ ?_ ⟨rfl,rfl⟩ vb ?_
   ·exact ak _
   (try dsimp only[aj]);conv=>whnf
   refine bY ht.1 ?_
   (try dsimp only[aj]);conv=>whnf
   refine bY ht.2 ?_
   (try dsimp only[aj]);conv=>whnf
   have hx : x = 0 \/ x = 1:=by omega
   rcases hx with rfl | rfl
   ·refine bN (by decide) ?_
    (try dsimp only[aj]);conv=>whnf
    refine ⟨⟨_,_,.refl _ _,?_⟩⟩
    conv=>whnf
    refine ⟨?_,rfl,by simp [nextId],.mk ?_ (by simp [au])⟩
    ·all_goals exact wk
    ·all_goals exact wk
   ·refine bY (by decide) ?_
    (try dsimp only[aj]);conv=>whnf
    refine ⟨⟨_,_,.refl _ _,?_⟩⟩
    conv=>whnf
    refine ⟨?_,rfl,by simp [nextId],.mk ?_ (by simp [au])⟩
    ·all_goals exact wk
    ·all_goals exact wk
 | succ k ih =>
   intro d y n N hk h hN
   have hg1:=FU a b o (k + 1) d y n
   have va:=Ar a ha h.cu
   have vb:=Ar b hb (by rw [<- hab]; exact h.cu)
   by_cases ht : tri a y n ≠ 2 /\ tri b y n ≠ 2
   ·rw [zW ht,FT ht] at *
    have r1:=qB ha y n
    rw [Sp.jT]
    generalize tri a y n = x at *
    generalize tri b y n = z at *
    refine aC.intro lay mixed Tryz.func100 (by kernel_rfl) rfl (by kernel_rfl) rfl fun hok=>?_
    (try dsimp only[aZ,aO]);(try dsimp only[aj]);conv=>whnf
    refine zA ?_;conv=>whnf
    refine bN (by omega) ?_
    (try dsimp only[aj]);conv=>whnf
    refine aN.auto (by kernel_rfl) ?_;conv=>whnf
    refine bP.pure _ _ ?_ ⟨rfl,rfl⟩ va ?_
    ·exact ak _
    (try dsimp only[aj]);conv=>whnf
    refine aN.auto (by kernel_rfl) ?_;conv=>whnf
    refine bP.pure _ _ ?_ ⟨rfl,rfl⟩ vb ?_
    ·exact ak _
    (try dsimp only[aj]);conv=>whnf
    refine bY ht.1 ?_
    (try dsimp only[aj]);conv=>whnf
    refine bY ht.2 ?_
    (try dsimp only[aj]);conv=>whnf
    have hx : x = 0 \/ x = 1:=by omega
    rcases hx with rfl | rfl
    ·refine bN (by decide) ?_
     (try dsimp only[aj]);conv=>whnf
     refine ⟨⟨_,_,.refl _ _,?_⟩⟩
     conv=>whnf
     refine ⟨?_,rfl,by simp [nextId],.mk ?_ (by simp [au])⟩
     ·all_goals exact wk
     ·all_goals exact wk
    ·refine bY (by decide) ?_
     (try dsimp only[aj]);conv=>whnf
     refine ⟨⟨_,_,.refl _ _,?_⟩⟩
     conv=>whnf
     refine ⟨?_,rfl,by simp [nextId],.mk ?_ (by simp [au])⟩
     ·all_goals exact wk
     ·all_goals exact wk
   obtain ⟨e,e1,e2,e3,e4⟩:=h.get ho (by omega)
   have hdl : d < o.length:=by have:=ho.len; omega
   have e5 : o[d] = (e : Int):=by rw [List.getElem?_eq_getElem hdl] at e1; exact Option.some.inj e1
   have hyl:=h.cu.yl
   have hnl:=h.cu.nl
   rw [NH ht,e2,Int.toNat_natCast] at hN ⊢
   rw [ND ht,e2,Int.toNat_natCast]
   have ca:=ih (d + 1) y (n ||| 2 ^ e) (N + 1) (by omega) (h.no (by omega) e1 e3 e4) (by omega)
   have cb:=ih (d + 1) (y ||| 2 ^ e) n (N + 1 + NI a b o k (d + 1) y (n ||| 2 ^ e)) (by omega) (h.yes (by omega) e1 e3 e4) (by omega)
   have hsh:=wG (i:=e) (by omega)
   have h2e:=pow24 (show e < 24 by omega)
   have Xm:=Bv (a:=n) (b:=2 ^ e) (by omega) (by omega)
   have hor2:=Bv (a:=y) (b:=2 ^ e) (by omega) (by omega)
   generalize NG a b o k (d + 1) y (n ||| 2 ^ e) = ta at *
   generalize NG a b o k (d + 1) (y ||| 2 ^ e) n = tb at *
   generalize NI a b o k (d + 1) y (n ||| 2 ^ e) = ca1 at *
   generalize NI a b o k (d + 1) (y ||| 2 ^ e) n = cb1 at *
   have eN : N + (ca1 + cb1 + 1) = N + 1 + ca1 + cb1:=by omega
   rw [eN]
   rw [Sp.jT,List.map_cons,List.map_cons,List.map_nil]
   obtain ⟨v1,k1,r1⟩:=ta
   obtain ⟨v2,k2,r2⟩:=tb
   rw [Sp.jT] at ca cb
   rw [Sp.jT,Sp.jT]
   generalize tri a y n = x at *
   generalize tri b y n = z at *
   refine aC.intro lay mixed Tryz.func100 (by kernel_rfl) rfl (by kernel_rfl) rfl fun hok=>?_
   (try dsimp only[aZ,aO]);(try dsimp only[aj]);conv=>whnf
   refine zA ?_;conv=>whnf
   refine bN (by omega) ?_
   (try dsimp only[aj]);conv=>whnf
   refine aN.auto (by kernel_rfl) ?_;conv=>whnf
   refine bP.pure _ _ ?_ ⟨rfl,rfl⟩ va ?_
   ·exact ak _
   (try dsimp only[aj]);conv=>whnf
   refine aN.auto (by kernel_rfl) ?_;conv=>whnf
   refine bP.pure _ _ ?_ ⟨rfl,rfl⟩ vb ?_
   ·exact ak _
   (try dsimp only[aj]);conv=>whnf
   have hN1 : N + 1 + ca1 + cb1 <= 4096:=by omega
   by_cases hx : x ≠ 2
   ·refine bY hx ?_
    (try dsimp only[aj]);conv=>whnf
    refine bN (fun hz=>ht ⟨hx,hz⟩) ?_
    (try dsimp only[aj]);conv=>whnf
    refine gY hdl ?_
    rw [e5]
    (try dsimp only[aj]);conv=>whnf
    refine aN.mk ⟨[true,true,false,true,false,true,true,true,true,true,true,false,true,true,true,false,false,true],by kernel_rfl,?_⟩
    conv=>whnf
    refine ⟨by omega,?_⟩
    rw [hsh]
    conv=>whnf
    rw [Xm]
    refine zA ?_;conv=>whnf
    refine .gen _ _ (aC.frame [0] ca ⟨rfl,rfl,rfl,rfl⟩ ?_ ?_) fun _=>?_
    ·all_goals exact wk
    ·all_goals exact wk
    (try dsimp only[aj]);conv=>whnf
    refine aN.mk ⟨[true,true,false,true,true,true,true,false,true,true,true,false,true,true,true,false,false,true],by kernel_rfl,?_⟩
    conv=>whnf
    refine ⟨by omega,?_⟩
    rw [hsh]
    conv=>whnf
    rw [hor2]
    refine zA ?_;conv=>whnf
    refine .gen _ _ (aC.frame [0] cb ⟨rfl,rfl,rfl,rfl⟩ ?_ ?_) fun _=>?_
    ·all_goals exact wk
    ·all_goals exact wk
    (try dsimp only[aj]);conv=>whnf
    refine ⟨⟨_,_,.refl _ _,?_⟩⟩
    conv=>whnf
    refine ⟨?_,rfl,by simp [nextId],.mk ?_ (by simp [au])⟩
    ·all_goals exact wk
    ·all_goals exact wk
   ·refine bN hx ?_
    (try dsimp only[aj]);conv=>whnf
    refine gY hdl ?_
    rw [e5]
    (try dsimp only[aj]);conv=>whnf
    refine aN.mk ⟨[true,true,false,true,false,true,true,true,true,true,true,false,true,true,true,false,false,true],by kernel_rfl,?_⟩
    conv=>whnf
    refine ⟨by omega,?_⟩
    rw [hsh]
    conv=>whnf
    rw [Xm]
    refine zA ?_;conv=>whnf
    refine .gen _ _ (aC.frame [0] ca ⟨rfl,rfl,rfl,rfl⟩ ?_ ?_) fun _=>?_
    ·all_goals exact wk
    ·all_goals exact wk
    (try dsimp only[aj]);conv=>whnf
    refine aN.mk ⟨[true,true,false,true,true,true,true,false,true,true,true,false,true,true,true,false,false,true],by kernel_rfl,?_⟩
    conv=>whnf
    refine ⟨by omega,?_⟩
    rw [hsh]
    conv=>whnf
    rw [hor2]
    refine zA ?_;conv=>whnf
    refine .gen _ _ (aC.frame [0] cb ⟨rfl,rfl,rfl,rfl⟩ ?_ ?_) fun _=>?_
    ·all_goals exact wk
    ·all_goals exact wk
    (try dsimp only[aj]);conv=>whnf
    refine ⟨⟨_,_,.refl _ _,?_⟩⟩
    conv=>whnf
    refine ⟨?_,rfl,by simp [nextId],.mk ?_ (by simp [au])⟩
    ·all_goals exact wk
    ·all_goals exact wk

theorem c_rGrow (a b : Fo) (ha : qj a) (hb : qj b) (hab : a.vars = b.vars) (o : List Int) (ho : YL o a.vars.toNat) : ∀ (k d y n : Nat),d + k = a.vars.toNat -> xK o a.vars.toNat d y n ->
  aC Tryz.prog 101 [a.av,b.av,iL o,O5 y n] [] (NG a b o k d y n).av []:=by
 have hav:=ha.vars
 have hp24 : 2 ^ a.vars.toNat <= 2 ^ 24:=Nat.pow_le_pow_right (by decide) (by omega)
 intro k
 induction k with
 | zero =>
   intro d y n hk h
   have hf : ∀ i < a.vars.toNat,y.testBit i = true \/ n.testBit i = true:=by
    have : d = a.vars.toNat:=by omega
    subst this
    exact h.full ho
   have ht : tri a y n ≠ 2 /\ tri b y n ≠ 2:=⟨y7 ha hf,y7 hb (by rw [<- hab]; exact hf)⟩
   have hyl:=h.cu.yl
   have hnl:=h.cu.nl
   have va:=tX a ha y n (by omega) (by omega)
   have vb:=tX b hb y n (by omega) (by omega)
   rw [zW ht] at *
   have r1:=qB ha y n
   have r2:=qB hb y n
   rw [Sp.jT]
   generalize tri a y n = x at *
   generalize tri b y n = z at *
   refine aC.intro lay mixed Tryz.func101 (by kernel_rfl) rfl (by kernel_rfl) rfl fun hok=>?_
   (try dsimp only[aZ,aO]);(try dsimp only[aj]);conv=>whnf
   refine aN.auto (by kernel_rfl) ?_;conv=>whnf
   refine bP.pure _ _ ?_ ⟨rfl,rfl⟩ va ?_
   ·exact ak _
   conv=>whnf
   refine bP.pure _ _ ?_ ⟨rfl,rfl⟩ vb ?_
   ·exact ak _
   (try dsimp only[aj]);conv=>whnf
   refine bY (by omega) ?_
   (try dsimp only[aj]);conv=>whnf
   refine bY (by omega) ?_
   (try dsimp only[aj]);conv=>whnf
   refine fM ?_;(conv=>whnf);refine ⟨?_,rfl⟩;conv=>whnf
   all_goals exact wk
 | succ k ih =>
   intro d y n hk h
   have hyl:=h.cu.yl
   have hnl:=h.cu.nl
   have va:=tX a ha y n (by omega) (by omega)
   have vb:=tX b hb y n (by omega) (by omega)
   by_cases ht : tri a y n ≠ 2 /\ tri b y n ≠ 2
   ·rw [zW ht] at *
    have r1:=qB ha y n
    have r2:=qB hb y n
    rw [Sp.jT]
    generalize tri a y n = x at *
    generalize tri b y n = z at *
    refine aC.intro lay mixed Tryz.func101 (by kernel_rfl) rfl (by kernel_rfl) rfl fun hok=>?_
    (try dsimp only[aZ,aO]);(try dsimp only[aj]);conv=>whnf
    refine aN.auto (by kernel_rfl) ?_;conv=>whnf
    refine bP.pure _ _ ?_ ⟨rfl,rfl⟩ va ?_
    ·exact ak _
    conv=>whnf
    refine bP.pure _ _ ?_ ⟨rfl,rfl⟩ vb ?_
    ·exact ak _
    (try dsimp only[aj]);conv=>whnf
    refine bY (by omega) ?_
    (try dsimp only[aj]);conv=>whnf
    refine bY (by omega) ?_
    (try dsimp only[aj]);conv=>whnf
    refine fM ?_;(conv=>whnf);refine ⟨?_,rfl⟩;conv=>whnf
    all_goals exact wk
   obtain ⟨e,e1,e2,e3,e4⟩:=h.get ho (by omega)
   have hdl : d < o.length:=by have:=ho.len; omega
   have e5 : o[d] = (e : Int):=by rw [List.getElem?_eq_getElem hdl] at e1; exact Option.some.inj e1
   rw [ND ht,e2,Int.toNat_natCast]
   have ca:=ih (d + 1) y (n ||| 2 ^ e) (by omega) (h.no (by omega) e1 e3 e4)
   have cb:=ih (d + 1) (y ||| 2 ^ e) n (by omega) (h.yes (by omega) e1 e3 e4)
   have hsh:=wG (i:=e) (by omega)
   have h2e:=pow24 (show e < 24 by omega)
   have hor0:=Bv (a:=y) (b:=n) (by omega) (by omega)
   have Xm:=Bv (a:=n) (b:=2 ^ e) (by omega) (by omega)
   have hor2:=Bv (a:=y) (b:=2 ^ e) (by omega) (by omega)
   have hyn : y ||| n < 2 ^ 24:=Nat.or_lt_two_pow (by omega) (by omega)
   generalize NG a b o k (d + 1) y (n ||| 2 ^ e) = ta at *
   generalize NG a b o k (d + 1) (y ||| 2 ^ e) n = tb at *
   rw [Sp.jT,List.map_cons,List.map_cons,List.map_nil]
   obtain ⟨v1,k1,r1⟩:=ta
   obtain ⟨v2,k2,r2⟩:=tb
   rw [Sp.jT] at ca cb
   rw [Sp.jT,Sp.jT]
   have q1:=qB ha y n
   have q2:=qB hb y n
   have hfst:=h.fst
   have hat : ∀ i,(hi : i <= d) -> ∃ w : Nat,o[i]'(by omega) = (w : Int) /\ w < 24 /\ (y ||| n).testBit w = decide (i < d):=fun i hi=>by
    have hr:=ho.rng _ (List.getElem_mem (show i < o.length by omega))
    refine ⟨(o[i]'(by omega)).toNat,by omega,by omega,?_⟩
    by_cases hid : i < d
    ·rw [decide_eq_true hid,Nat.testBit_or,Bool.or_eq_true]
     refine (hfst _).2 ⟨i,hid,?_⟩
     rw [List.getElem?_eq_getElem (by omega)]
     congr 1; omega
    ·obtain rfl : i = d:=by omega
     rw [decide_eq_false hid,e5,Int.toNat_natCast]; exact e4
   generalize tri a y n = x at *
   generalize tri b y n = z at *
   refine aC.intro lay mixed Tryz.func101 (by kernel_rfl) rfl (by kernel_rfl) rfl fun hok=>?_
   (try dsimp only[aZ,aO]);(try dsimp only[aj]);conv=>whnf
   refine aN.auto (by kernel_rfl) ?_;conv=>whnf
   refine bP.pure _ _ ?_ ⟨rfl,rfl⟩ va ?_
   ·exact ak _
   conv=>whnf
   refine bP.pure _ _ ?_ ⟨rfl,rfl⟩ vb ?_
   ·exact ak _
   (try dsimp only[aj]);conv=>whnf
   by_cases hx : x < 2
   ·refine bY hx ?_
    (try dsimp only[aj]);conv=>whnf
    refine bN (fun hz=>ht ⟨by omega,by omega⟩) ?_
    (try dsimp only[aj]);conv=>whnf
    refine aK.of <| (aB.inv (.refl _ _) (fun i : Nat=>i <= d) (fun i=>[(11,.int .i64 i)]) (fun _=>[(3,.box (.ag [.int .i64 0,.aG,.int .i64 0])),(2,.box (O5 y n)),(1,.box b.av),(0,.box a.av)]) (fun i=>d - i) 0 (Nat.zero_le _) ?_ ?_ ?_)
    ·exact fun _=>rfl
    ·refine ⟨?_,.mk ?_ (by simp [au])⟩
     ·all_goals exact wk
     ·all_goals exact wk
    intro i hi _
    have hio : i < o.length:=by omega
    obtain ⟨w,hw,hw24,hwb⟩:=hat i hi
    (try dsimp only[aj]);conv=>whnf
    refine aN.auto (by kernel_rfl) ?_;conv=>whnf
    rw [hor0]
    refine gY hio ?_
    rw [hw]
    conv=>whnf
    refine ⟨by omega,?_⟩
    conv=>whnf
    rw [kK (by omega) (by omega),hwb]
    by_cases hid : i < d
    ·rw [if_pos (by simpa using hid)]
     refine bY rfl ?_
     (try dsimp only[aj]);conv=>whnf
     refine zA ?_;conv=>whnf
     refine ⟨i + 1,?_,?_,?_⟩
     ·exact hid
     ·refine ⟨?_,.mk ?_ (by simp [au])⟩
      ·all_goals exact wk
      ·all_goals exact wk
     ·omega
    ·obtain rfl : i = d:=by omega
     rw [if_neg (by simp)]
     refine bN (by decide) ?_
     (try dsimp only[aj]);conv=>whnf
     refine gY hio ?_
     rw [e5]
     (try dsimp only[aj]);conv=>whnf
     refine ⟨by omega,?_⟩
     rw [hsh]
     (try dsimp only[aj]);conv=>whnf
     rw [Xm]
     refine .gen _ _ (aC.frame [] ca ⟨rfl,rfl,rfl,rfl⟩ ?_ ?_) fun _=>?_
     ·all_goals exact wk
     ·all_goals exact wk
     (try dsimp only[aj]);conv=>whnf
     rw [hor2]
     refine .gen _ _ (aC.frame [] cb ⟨rfl,rfl,rfl,rfl⟩ ?_ ?_) fun _=>?_
     ·all_goals exact wk
     ·all_goals exact wk
     (try dsimp only[aj]);conv=>whnf
     refine aN.auto (by kernel_rfl) ?_;conv=>whnf
     refine gY hio ?_
     rw [e5]
     conv=>whnf
     refine ⟨⟨_,_,.refl _ _,?_⟩⟩
     conv=>whnf
     refine ⟨?_,rfl,by simp [nextId],.mk ?_ (by simp [au])⟩
     ·all_goals exact wk
     ·all_goals exact wk
   ·refine bN hx ?_
    (try dsimp only[aj]);conv=>whnf
    refine aK.of <| (aB.inv (.refl _ _) (fun i : Nat=>i <= d) (fun i=>[(11,.int .i64 i)]) (fun _=>[(3,.box (.ag [.int .i64 0,.aG,.int .i64 0])),(2,.box (O5 y n)),(1,.box b.av),(0,.box a.av)]) (fun i=>d - i) 0 (Nat.zero_le _) ?_ ?_ ?_)
    ·exact fun _=>rfl
    ·refine ⟨?_,.mk ?_ (by simp [au])⟩
     ·all_goals exact wk
     ·all_goals exact wk
    intro i hi _
    have hio : i < o.length:=by omega
    obtain ⟨w,hw,hw24,hwb⟩:=hat i hi
    (try dsimp only[aj]);conv=>whnf
    refine aN.auto (by kernel_rfl) ?_;conv=>whnf
    rw [hor0]
    refine gY hio ?_
    rw [hw]
    conv=>whnf
    refine ⟨by omega,?_⟩
    conv=>whnf
    rw [kK (by omega) (by omega),hwb]
    by_cases hid : i < d
    ·rw [if_pos (by simpa using hid)]
     refine bY rfl ?_
     (try dsimp only[aj]);conv=>whnf
     refine zA ?_;conv=>whnf
     refine ⟨i + 1,?_,?_,?_⟩
     ·exact hid
     ·refine ⟨?_,.mk ?_ (by simp [au])⟩
      ·all_goals exact wk
      ·all_goals exact wk
     ·omega
    ·obtain rfl : i = d:=by omega
     rw [if_neg (by simp)]
     refine bN (by decide) ?_
     (try dsimp only[aj]);conv=>whnf
     refine gY hio ?_
     rw [e5]
     (try dsimp only[aj]);conv=>whnf
     refine ⟨by omega,?_⟩
     rw [hsh]
     (try dsimp only[aj]);conv=>whnf
     rw [Xm]
     refine .gen _ _ (aC.frame [] ca ⟨rfl,rfl,rfl,rfl⟩ ?_ ?_) fun _=>?_
     ·all_goals exact wk
     ·all_goals exact wk
     (try dsimp only[aj]);conv=>whnf
     rw [hor2]
     refine .gen _ _ (aC.frame [] cb ⟨rfl,rfl,rfl,rfl⟩ ?_ ?_) fun _=>?_
     ·all_goals exact wk
     ·all_goals exact wk
     (try dsimp only[aj]);conv=>whnf
     refine aN.auto (by kernel_rfl) ?_;conv=>whnf
     refine gY hio ?_
     rw [e5]
     conv=>whnf
     refine ⟨⟨_,_,.refl _ _,?_⟩⟩
     conv=>whnf
     refine ⟨?_,rfl,by simp [nextId],.mk ?_ (by simp [au])⟩
     ·all_goals exact wk
     ·all_goals exact wk

theorem UW (a b : Fo) (ha : qj a) (hb : qj b) (hab : a.vars = b.vars) : aC Tryz.prog 37 [a.av,b.av] [] (mkT a b (pq a)).av []:=by
 have hp:=xq a ha
 have cg:=c_rGrow a b ha hb hab (pq a) (Rn hp) a.vars.toNat 0 0 0 (by omega) (xK.zero _ _)
 have cd:=Qs a ha
 rw [show NG a b (pq a) a.vars.toNat 0 0 0 = mkT a b (pq a) from rfl] at cg
 generalize mkT a b (pq a) = T at *
 generalize pq a = o at *
 obtain ⟨v,k,r⟩:=T
 rw [Sp.jT] at *
 refine aC.intro lay mixed Tryz.func37 (by kernel_rfl) rfl (by kernel_rfl) rfl fun hok=>?_
 (try dsimp only[aZ,aO]);(try dsimp only[aj]);conv=>whnf
 refine aN.auto (by kernel_rfl) ?_;conv=>whnf
 refine bP.pure _ _ ?_ ⟨rfl,rfl⟩ cd ?_
 ·exact ak _
 conv=>whnf
 refine bP.pure _ _ ?_ ⟨rfl,rfl⟩ cg ?_
 ·all_goals exact wk
 (try dsimp only[aj]);conv=>whnf
 refine fM ?_;(conv=>whnf);refine ⟨?_,rfl⟩;conv=>whnf
 all_goals exact wk

def mkSp (a b : Fo) : Sp:=if (pG a b).eq = true then mkT a b (pq a) else .mk 0 [] 0

theorem c_MakeO (a b : Fo) (h0 : dW a b = 0) (h7 : a.vars <= 7) : aC Tryz.prog 35 [a.av,b.av] [] (.eU [(mkSp a b).av,.bool (pG a b).eq,.eX]) []:=by
 obtain ⟨ha,hb,hab⟩:=xu h0
 have hp:=xq a ha
 have cc:=JB a b h0 h7
 have cd:=Gz a ha
 have hav:=ha.vars
 have hg:=FU a b (pq a) a.vars.toNat 0 0 0
 have hpw : 2 ^ (a.vars.toNat + 1) <= 2 ^ 8:=Nat.pow_le_pow_right (by decide) (by omega)
 have cg:=c_mAt a b ha hb hab (pq a) (Rn hp) a.vars.toNat 0 0 0 0 (by omega) (xK.zero _ _) (by omega)
 rw [show NG a b (pq a) a.vars.toNat 0 0 0 = mkT a b (pq a) from rfl] at cg
 unfold mkSp
 generalize mkT a b (pq a) = T at *
 generalize pq a = o at *
 generalize NI a b o a.vars.toNat 0 0 0 = G at *
 generalize pG a b = D at *
 obtain ⟨v,k,r⟩:=T
 obtain ⟨eq,st,cnt,ga,lo⟩:=D
 simp only [Df.av] at cc
 cases eq with
 | false =>
   rw [if_neg (by simp),Sp.jT]
   refine aC.intro lay mixed Tryz.func35 (by kernel_rfl) rfl (by kernel_rfl) rfl fun hok=>?_
   (try dsimp only[aZ,aO]);(try dsimp only[aj]);conv=>whnf
   refine .pure _ _ ?_ ⟨rfl,rfl⟩ cc fun _=>?_
   ·exact ak _
   (try dsimp only[aj]);conv=>whnf
   refine And.intro (fun _=>?_) (fun h=>absurd h (by simp))
   (try dsimp only[aj]);conv=>whnf
   refine fM ?_;(conv=>whnf);refine ⟨?_,rfl⟩;conv=>whnf
   all_goals exact wk
 | true =>
   rw [if_pos rfl,Sp.jT]
   rw [Sp.jT] at cg
   refine aC.intro lay mixed Tryz.func35 (by kernel_rfl) rfl (by kernel_rfl) rfl fun hok=>?_
   (try dsimp only[aZ,aO]);(try dsimp only[aj]);conv=>whnf
   refine .pure _ _ ?_ ⟨rfl,rfl⟩ cc fun _=>?_
   ·exact ak _
   (try dsimp only[aj]);conv=>whnf
   refine And.intro (fun h=>absurd h (by simp)) (fun _=>?_)
   (try dsimp only[aj]);conv=>whnf
   refine .pure _ _ ?_ ⟨rfl,rfl⟩ cd fun _=>?_
   ·exact ak _
   (try dsimp only[aj]);conv=>whnf
   refine .gen _ _ (aC.frame [4] cg ⟨rfl,rfl,rfl,rfl⟩ ?_ ?_) fun _=>?_
   ·all_goals exact wk
   ·all_goals exact wk
   (try dsimp only[aj]);conv=>whnf
   refine ⟨⟨_,_,.refl _ _,?_⟩⟩
   conv=>whnf
   refine ⟨?_,rfl,by simp [nextId],.mk ?_ (by simp [au])⟩
   ·all_goals exact wk
   ·all_goals exact wk

theorem c_MakeE (a b : Fo) (he : dW a b ≠ 0) : aC Tryz.prog 35 [a.av,b.av] [] (.eU [.ag [.int .i64 0,.aG,.int .i64 0],.ff,xW (dW a b)]) []:=by
 have cc:=GK a b (fun h=>absurd h he) _ rfl
 rw [show XU a b = zDf from if_pos he] at cc
 rw [jB he] at cc ⊢
 generalize dW a b = E at *
 refine aC.intro lay mixed Tryz.func35 (by kernel_rfl) rfl (by kernel_rfl) rfl fun hok=>?_
 (try dsimp only[aZ,aO]);(try dsimp only[aj]);conv=>whnf
 refine .pure _ _ ?_ ⟨rfl,rfl⟩ cc fun _=>?_
 ·exact ak _
 (try dsimp only[aj]);conv=>whnf
 refine fM ?_;(conv=>whnf);refine ⟨?_,rfl⟩;conv=>whnf
 all_goals exact wk

theorem GI (a b : Fo) : aC Tryz.prog 8 [a.av,b.av] [] (.bool true) []:=by
 have ch:=U0 a b
 have cK:=Gw a b
 have cZ:=Jy (.mk 0 [] 0)
 rw [Sp.jT] at cZ
 cases hh : hvB a b with
 | true =>
   rw [hh] at ch
   refine aC.intro lay mixed Tryz.func8 (by kernel_rfl) rfl (by kernel_rfl) rfl fun hok=>?_
   (try dsimp only[aZ,aO]);(try dsimp only[aj]);conv=>whnf
   refine .pure _ _ ?_ ⟨rfl,rfl⟩ rJ fun _=>?_
   ·exact ak _
   (try dsimp only[aj]);conv=>whnf
   refine .pure _ _ ?_ ⟨rfl,rfl⟩ ch fun _=>?_
   ·exact ak _
   (try dsimp only[aj]);conv=>whnf
   refine And.intro (fun _=>?_) (fun h=>absurd h (by simp))
   (try dsimp only[aj]);conv=>whnf
   refine .pure _ _ ?_ ⟨rfl,rfl⟩ rJ fun _=>?_
   ·exact ak _
   (try dsimp only[aj]);conv=>whnf
   refine fM ?_;(conv=>whnf);refine ⟨?_,rfl⟩;conv=>whnf
   all_goals exact wk
 | false =>
 rw [hh] at ch
 have h7 : dW a b = 0 -> a.vars <= 7:=fun h0=>by
  have:=of_decide_eq_false hh
  omega
 by_cases h1 : dW a b ≠ 0
 ·have cE:=c_MakeE a b h1
  have cN:=c_Num (dW a b)
  rw [jB h1] at cE cN
  generalize dW a b = E at *
  refine aC.intro lay mixed Tryz.func8 (by kernel_rfl) rfl (by kernel_rfl) rfl fun hok=>?_
  (try dsimp only[aZ,aO]);(try dsimp only[aj]);conv=>whnf
  refine .pure _ _ ?_ ⟨rfl,rfl⟩ rJ fun _=>?_
  ·exact ak _
  (try dsimp only[aj]);conv=>whnf
  refine .pure _ _ ?_ ⟨rfl,rfl⟩ ch fun _=>?_
  ·exact ak _
  (try dsimp only[aj]);conv=>whnf
  refine And.intro (fun h=>absurd h (by simp)) (fun _=>?_)
  (try dsimp only[aj]);conv=>whnf
  refine .pure _ _ ?_ ⟨rfl,rfl⟩ cE fun _=>?_
  ·exact ak _
  (try dsimp only[aj]);conv=>whnf
  refine .pure _ _ ?_ ⟨rfl,rfl⟩ cK fun _=>?_
  ·exact ak _
  (try dsimp only[aj]);conv=>whnf
  refine And.intro (fun _=>?_) (fun h=>absurd h1 h)
  (try dsimp only[aj]);conv=>whnf
  refine .pure _ _ ?_ ⟨rfl,rfl⟩ cZ fun _=>?_
  ·all_goals exact wk
  (try dsimp only[aj]);conv=>whnf
  refine .pure _ _ ?_ ⟨rfl,rfl⟩ cN fun _=>?_
  ·exact ak _
  (try dsimp only[aj]);conv=>whnf
  refine fM ?_;(conv=>whnf);refine ⟨?_,rfl⟩;conv=>whnf
  show E = E ↔ true = true
  simp
 have h0 : dW a b = 0:=by simpa using h1
 obtain ⟨ha,hb,hab⟩:=xu h0
 have cM:=c_MakeO a b h0 (h7 h0)
 have cR:=KZ a b ha hb hab (h7 h0)
 have cT:=UW a b ha hb hab
 rw [h0] at cK
 unfold mkSp at cM
 have cS:=Jy (mkT a b (pq a))
 generalize mkT a b (pq a) = T at *
 generalize pG a b = D at *
 obtain ⟨v,k,r⟩:=T
 obtain ⟨eq,st,cnt,ga,lo⟩:=D
 rw [Sp.jT] at cT cS
 simp only [Df.av] at cR
 cases eq with
 | false =>
   rw [if_neg (by simp),Sp.jT] at cM
   refine aC.intro lay mixed Tryz.func8 (by kernel_rfl) rfl (by kernel_rfl) rfl fun hok=>?_
   (try dsimp only[aZ,aO]);(try dsimp only[aj]);conv=>whnf
   refine .pure _ _ ?_ ⟨rfl,rfl⟩ rJ fun _=>?_
   ·exact ak _
   (try dsimp only[aj]);conv=>whnf
   refine .pure _ _ ?_ ⟨rfl,rfl⟩ ch fun _=>?_
   ·exact ak _
   (try dsimp only[aj]);conv=>whnf
   refine And.intro (fun h=>absurd h (by simp)) (fun _=>?_)
   (try dsimp only[aj]);conv=>whnf
   refine .pure _ _ ?_ ⟨rfl,rfl⟩ cM fun _=>?_
   ·exact ak _
   (try dsimp only[aj]);conv=>whnf
   refine .pure _ _ ?_ ⟨rfl,rfl⟩ cK fun _=>?_
   ·exact ak _
   (try dsimp only[aj]);conv=>whnf
   refine And.intro (fun h=>absurd rfl h) (fun _=>?_)
   (try dsimp only[aj]);conv=>whnf
   refine .pure _ _ ?_ ⟨rfl,rfl⟩ cR fun _=>?_
   ·exact ak _
   (try dsimp only[aj]);conv=>whnf
   refine And.intro (fun _=>?_) (fun h=>absurd h (by simp))
   (try dsimp only[aj]);conv=>whnf
   refine And.intro (fun _=>?_) (fun h=>absurd h (by simp))
   (try dsimp only[aj]);conv=>whnf
   refine .pure _ _ ?_ ⟨rfl,rfl⟩ cZ fun _=>?_
   ·all_goals exact wk
   (try dsimp only[aj]);conv=>whnf
   refine fM ?_;(conv=>whnf);refine ⟨?_,rfl⟩;conv=>whnf
   all_goals exact wk
 | true =>
   rw [if_pos rfl,Sp.jT] at cM
   refine aC.intro lay mixed Tryz.func8 (by kernel_rfl) rfl (by kernel_rfl) rfl fun hok=>?_
   (try dsimp only[aZ,aO]);(try dsimp only[aj]);conv=>whnf
   refine .pure _ _ ?_ ⟨rfl,rfl⟩ rJ fun _=>?_
   ·exact ak _
   (try dsimp only[aj]);conv=>whnf
   refine .pure _ _ ?_ ⟨rfl,rfl⟩ ch fun _=>?_
   ·exact ak _
   (try dsimp only[aj]);conv=>whnf
   refine And.intro (fun h=>absurd h (by simp)) (fun _=>?_)
   (try dsimp only[aj]);conv=>whnf
   refine .pure _ _ ?_ ⟨rfl,rfl⟩ cM fun _=>?_
   ·exact ak _
   (try dsimp only[aj]);conv=>whnf
   refine .pure _ _ ?_ ⟨rfl,rfl⟩ cK fun _=>?_
   ·exact ak _
   (try dsimp only[aj]);conv=>whnf
   refine And.intro (fun h=>absurd rfl h) (fun _=>?_)
   (try dsimp only[aj]);conv=>whnf
   refine .pure _ _ ?_ ⟨rfl,rfl⟩ cR fun _=>?_
   ·exact ak _
   (try dsimp only[aj]);conv=>whnf
   refine And.intro (fun h=>absurd h (by simp)) (fun _=>?_)
   (try dsimp only[aj]);conv=>whnf
   refine aN.auto (by kernel_rfl) ?_;conv=>whnf
   refine And.intro (fun _=>?_) (fun h=>absurd h (by simp))
   conv=>whnf
   refine bP.pure _ _ ?_ ⟨rfl,rfl⟩ cT ?_
   ·exact ak _
   conv=>whnf
   refine bP.pure _ _ ?_ ⟨rfl,rfl⟩ cS ?_
   ·all_goals exact wk
   conv=>whnf
   refine fM ?_;(conv=>whnf);refine ⟨?_,rfl⟩;conv=>whnf
   all_goals exact wk
theorem one : OneC:=r_of

theorem Kz {α : Type} {f : α -> AV} : ∀ {l : List AV},(∀ x ∈ l,∃ y,x = f y) -> ∃ m : List α,l = m.map f
 | [],_=>⟨[],rfl⟩
 | x :: l,h=>by
   obtain ⟨y,rfl⟩:=h x (by simp)
   obtain ⟨m,rfl⟩:=Kz (l:=l) fun z hz=>h z (by simp [hz])
   exact ⟨y :: m,rfl⟩

theorem ZH {sz : Nat} {k : IntKind} {A : AV} (h : (Sh.sl sz (.int k)).In A) : ∃ l : List Int,A = .sl sz (l.map (.int k)) .no:=by
 simp only [Sh.In] at h
 obtain ⟨l,rfl,hl⟩:=h
 obtain ⟨m,rfl⟩:=Kz hl
 exact ⟨m,rfl⟩

theorem KJ {k : IntKind} {A : AV} (h : (Sh.int k).In A) : ∃ n : Int,A = .int k n:=by
 simpa only [Sh.In] using h


theorem sl_of {α : Type} {f : α -> AV} {sh : Sh} {sz : Nat} {A : AV} (hf : ∀ x,sh.In x -> ∃ y,x = f y) (h : (Sh.sl sz sh).In A) : ∃ l : List α,A = .sl sz (l.map f) .no:=by
 unfold Sh.In at h
 obtain ⟨l,rfl,hl⟩:=h
 obtain ⟨m,rfl⟩:=Kz fun x hx=>hf x (hl x hx)
 exact ⟨m,rfl⟩

structure Ak where
 page : Int
 inp : Str
 old : Str
 new : Str


abbrev shNd : Sh:=.st [.int .i64,.int .i64,.sl 1 (.int .i64)]
abbrev shFo : Sh:=.st [.int .i64,.sl 3 shNd,.int .i64]

theorem Nd.of {A : AV} (h : shNd.In A) : ∃ x : Nd,A = x.av:=by
 unfold Sh.In at h
 simp only [InL] at h
 obtain ⟨_,rfl,_,_,rfl,h0,_,_,rfl,h1,_,_,rfl,h2,rfl⟩:=h
 obtain ⟨a,rfl⟩:=KJ h0
 obtain ⟨b,rfl⟩:=KJ h1
 obtain ⟨c,rfl⟩:=ZH h2
 exact ⟨⟨a,b,c⟩,rfl⟩

theorem Fo.of {A : AV} (h : shFo.In A) : ∃ x : Fo,A = x.av:=by
 unfold Sh.In at h
 simp only [InL] at h
 obtain ⟨_,rfl,_,_,rfl,h0,_,_,rfl,h1,_,_,rfl,h2,rfl⟩:=h
 obtain ⟨a,rfl⟩:=KJ h0
 obtain ⟨b,rfl⟩:=sl_of (f:=Nd.av) (fun _ hx=>Nd.of hx) h1
 obtain ⟨c,rfl⟩:=KJ h2
 exact ⟨⟨a,b,c⟩,rfl⟩
end S
