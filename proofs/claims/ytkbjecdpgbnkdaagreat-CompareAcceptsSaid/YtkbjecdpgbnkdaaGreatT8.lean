/-
  Contracts of functions of the program, over the logic of the texts before. Nothing is assumed.
-/
import Derived.Test.YtkbjecdpgbnkdaaGreatT7

open Go Go.AL Go.Proofs
namespace S
set_option maxRecDepth 100000

abbrev P6 (y n : Nat) : AV:=.ag [.int .i64 y,.int .i64 n]
abbrev lfA (x : Nat × Nat × Int) : AV:=.ag [P6 x.1 x.2.1,.int .i64 x.2.2]

theorem pow24 {v : Nat} (h : v < 24) : 2 ^ v < 2 ^ 24:=Nat.pow_lt_pow_right (by decide) h

theorem X5 {vars : Nat} (hv : vars <= 24) {path : Nat} {t : Sp} (h : Ar vars path t) : ∀ {y n : Nat},Ik vars path y n -> ∀ (l : List (Nat × Nat × Int)),l.length + (rC t y n).length <= 1000000 ->
  aA Tryz.prog 192 [.sl 3 (l.map lfA) (.own 0),t.av,P6 y n] [(0,.tok 3 l.length)] (.sl 3 ((l ++ rC t y n).map lfA) (.own 0)) [(0,.tok 3 (l ++ rC t y n).length)]:=by
 have Zp : 2 ^ vars <= 2 ^ 24:=Nat.pow_le_pow_right (by decide) hv
 induction h with
 | leaf path r =>
   intro y n hc l hl
   rw [show rC (.mk 0 [] r) y n = [(y,n,r)] from rfl] at hl ⊢
   simp only [List.length_singleton] at hl
   rw [Sp.iy]
   refine aA.intro lay mixed Tryz.func192 (by kernel_rfl) rfl (by kernel_rfl) rfl fun hok=>?_
   (try dsimp only[aZ,aN]);(try dsimp only[aj]);conv=>whnf
   refine bY (by simp) ?_
   (try dsimp only[aj]);conv=>whnf
   refine ⟨by rw [List.length_map],.mk (by simp [maxL]; omega) (by simp; omega) ?_⟩
   (try dsimp only[aj]);conv=>whnf
   refine ⟨⟨_,_,.refl _ _,?_⟩⟩
   conv=>whnf
   refine ⟨?_,rfl,by simp [nextId],.mk ?_ (by simp [ay])⟩
   ·repeat' first|exact rfl|exact trivial|exact wR|exact lR _|apply aI
    all_goals (show dK _ (List.map _ (_ ++ [_])); rw [List.map_append]; exact aB _)
   ·repeat' first|exact rfl|exact trivial|exact wR|exact lR _|apply aI
    all_goals (simp; done)
 | node path v a b hvv hpv _ _ iha ihb =>
   intro y n hc l hl
   rw [show rC (.mk v [a,b] 0) y n = rC a y (n ||| 2 ^ v) ++ rC b (y ||| 2 ^ v) n by rw [rC,Int.toNat_natCast]] at hl ⊢
   rw [List.length_append] at hl
   have ca:=iha (hc.no hvv hpv) l (by omega)
   have cb:=ihb (hc.yes hvv hpv) (l ++ rC a y (n ||| 2 ^ v)) (by rw [List.length_append]; omega)
   rw [List.append_assoc] at cb
   have hsh:=sK (i:=v) (by omega)
   have h2v:=pow24 (show v < 24 by omega)
   have hyl:=hc.yl
   have hnl:=hc.nl
   have hor1:=yt (a:=n) (b:=2 ^ v) (by omega) (by omega)
   have hor2:=yt (a:=y) (b:=2 ^ v) (by omega) (by omega)
   generalize rC a y (n ||| 2 ^ v) = la at *
   generalize rC b (y ||| 2 ^ v) n = lb at *
   obtain ⟨va,ka,ra⟩:=a
   obtain ⟨vb,kb,rb⟩:=b
   rw [Sp.iy] at ca cb ⊢
   refine aA.intro lay mixed Tryz.func192 (by kernel_rfl) rfl (by kernel_rfl) rfl fun hok=>?_
   (try dsimp only[aZ,aN]);(try dsimp only[aj]);conv=>whnf
   refine bN (by simp) ?_
   (try dsimp only[aj]);conv=>whnf
   refine aS.mk ⟨[true,true,false,true,false,true,false,true,false,true,false,true,true,true,false,true],by kernel_rfl,?_⟩
   conv=>whnf
   refine bZ.mk ⟨_,⟨by decide,rfl⟩,?_⟩
   rw [Sp.iy]
   conv=>whnf
   refine ⟨by omega,?_⟩
   rw [hsh]
   conv=>whnf
   rw [hor1]
   refine .gen _ _ (aA.frame [0] ca ⟨rfl,rfl,rfl,rfl⟩ ?_ ?_) fun _=>?_
   ·all_goals exact wk
   ·all_goals exact wk
   (try dsimp only[aj]);conv=>whnf
   refine aS.mk ⟨[true,true,false,true,false,true,false,true,false,true,true,true,false,true,false,true],by kernel_rfl,?_⟩
   conv=>whnf
   refine bZ.mk ⟨_,⟨by decide,rfl⟩,?_⟩
   rw [Sp.iy]
   conv=>whnf
   refine ⟨by omega,?_⟩
   rw [hsh]
   conv=>whnf
   rw [hor2]
   refine .gen _ _ (aA.frame [0] cb ⟨rfl,rfl,rfl,rfl⟩ ?_ ?_) fun _=>?_
   ·all_goals exact wk
   ·all_goals exact wk
   (try dsimp only[aj]);conv=>whnf
   refine ⟨⟨_,_,.refl _ _,?_⟩⟩
   conv=>whnf
   refine ⟨?_,rfl,by simp [nextId],.mk ?_ (by simp [ay])⟩
   ·all_goals exact wk
   ·all_goals exact wk

theorem X7 (vars : Nat) (hv : vars <= 24) (t : Sp) (h : kD vars t = 0) (hl : (rC t 0 0).length <= 1000000) : aA Tryz.prog 103 [t.av,.int .i64 vars] [] (.eG [.sl 3 ((rC t 0 0).map lfA) .no,.eP]) []:=by
 have cc:=Jl vars t _ rfl
 rw [h,eU] at cc
 have hok : Ar vars 0 t:=by
  unfold kD at h
  rw [if_neg (by omega),Int.toNat_natCast] at h
  exact yT vars t 0 0 h
 have cl:=X5 hv hok (Ik.zero vars) [] (by simpa using hl)
 rw [List.nil_append] at cl
 generalize rC t 0 0 = l at *
 obtain ⟨v,ks,r⟩:=t
 rw [Sp.iy] at cc cl ⊢
 refine aA.intro lay mixed Tryz.func103 (by kernel_rfl) rfl (by kernel_rfl) rfl fun hok=>?_
 (try dsimp only[aZ,aN]);(try dsimp only[aj]);conv=>whnf
 refine .pure _ _ ?_ ⟨rfl,rfl⟩ cc fun _=>?_
 ·all_goals exact wk
 (try dsimp only[aj]);conv=>whnf
 refine .gen _ _ (aA.growD 0 3 rfl (.inl ⟨rfl,rfl⟩) (aA.frame [1] cl ⟨rfl,rfl,rfl,rfl⟩ ?_ ?_)) fun _=>?_
 ·all_goals exact wk
 ·all_goals exact wk
 (try dsimp only[aj]);conv=>whnf
 refine ⟨⟨_,_,.refl _ _,?_⟩⟩
 conv=>whnf
 refine ⟨?_,rfl,by simp [nextId],.mk ?_ (by simp [ay])⟩
 ·all_goals exact wk
 ·all_goals exact wk

theorem UR {vars : Nat} (hv : vars <= 24) {path : Nat} {t : Sp} (h : Ar vars path t) : ∀ {y n : Nat},Ik vars path y n -> (rC t y n).length <= 1000000 ->
  aA Tryz.prog 195 [t.av,P6 y n] [] (.sl 3 ((rC t y n).map lfA) (.own 0)) [(0,.tok 3 (rC t y n).length)]:=by
 have Zp : 2 ^ vars <= 2 ^ 24:=Nat.pow_le_pow_right (by decide) hv
 induction h with
 | leaf path r =>
   intro y n hc hl
   rw [show rC (.mk 0 [] r) y n = [(y,n,r)] from rfl] at hl ⊢
   rw [Sp.iy]
   refine aA.ren1 (k:=2) ?_
   refine aA.intro lay mixed Tryz.func195 (by kernel_rfl) rfl (by kernel_rfl) rfl fun hok=>?_
   (try dsimp only[aZ,aN]);(try dsimp only[aj]);conv=>whnf
   refine bY (by simp) ?_
   (try dsimp only[aj]);conv=>whnf
   refine ⟨⟨_,_,.grow 4 3 _ _ rfl (.inr rfl) (.refl _ _),?_⟩⟩
   conv=>whnf
   refine ⟨?_,rfl,by simp [nextId],.mk ?_ (by simp [ay])⟩
   ·all_goals exact wk
   ·all_goals exact wk
 | node path v a b hvv hpv _ _ iha ihb =>
   intro y n hc hl
   rw [show rC (.mk v [a,b] 0) y n = rC a y (n ||| 2 ^ v) ++ rC b (y ||| 2 ^ v) n by rw [rC,Int.toNat_natCast]] at hl ⊢
   rw [List.length_append] at hl
   have ca:=iha (hc.no hvv hpv) (by omega)
   have cb:=ihb (hc.yes hvv hpv) (by omega)
   have hsh:=sK (i:=v) (by omega)
   have h2v:=pow24 (show v < 24 by omega)
   have hyl:=hc.yl
   have hnl:=hc.nl
   have hor1:=yt (a:=n) (b:=2 ^ v) (by omega) (by omega)
   have hor2:=yt (a:=y) (b:=2 ^ v) (by omega) (by omega)
   generalize rC a y (n ||| 2 ^ v) = la at *
   generalize rC b (y ||| 2 ^ v) n = lb at *
   obtain ⟨va,ka,ra⟩:=a
   obtain ⟨vb,kb,rb⟩:=b
   rw [Sp.iy] at ca cb ⊢
   refine aA.ren1 (k:=2) ?_
   refine aA.intro lay mixed Tryz.func195 (by kernel_rfl) rfl (by kernel_rfl) rfl fun hok=>?_
   (try dsimp only[aZ,aN]);(try dsimp only[aj]);conv=>whnf
   refine bN (by simp) ?_
   (try dsimp only[aj]);conv=>whnf
   refine aS.mk ⟨[true,false,true,false,true,false,true,false,true,false,true,true,true,false,true],by kernel_rfl,?_⟩
   conv=>whnf
   refine bZ.mk ⟨_,⟨by decide,rfl⟩,?_⟩
   rw [Sp.iy]
   conv=>whnf
   refine ⟨by omega,?_⟩
   rw [hsh]
   conv=>whnf
   rw [hor1]
   refine .gen _ _ (aA.frame [] ca ⟨rfl,rfl,rfl,rfl⟩ ?_ ?_) fun _=>?_
   ·all_goals exact wk
   ·all_goals exact wk
   (try dsimp only[aj]);conv=>whnf
   refine aS.mk ⟨[true,false,true,false,true,false,true,false,true,true,true,false,true,false,true],by kernel_rfl,?_⟩
   conv=>whnf
   refine bZ.mk ⟨_,⟨by decide,rfl⟩,?_⟩
   rw [Sp.iy]
   conv=>whnf
   refine ⟨by omega,?_⟩
   rw [hsh]
   conv=>whnf
   rw [hor2]
   refine .gen _ _ (aA.frame [] cb ⟨rfl,rfl,rfl,rfl⟩ ?_ ?_) fun _=>?_
   ·all_goals exact wk
   ·all_goals exact wk
   (try dsimp only[aj]);conv=>whnf
   refine ⟨by rw [List.length_map],.mk (by simp [maxL]; omega) (by simp; omega) ?_⟩
   (try dsimp only[aj]);conv=>whnf
   refine ⟨⟨_,_,.refl _ _,?_⟩⟩
   conv=>whnf
   refine ⟨?_,rfl,by simp [nextId],.mk ?_ (by simp [ay])⟩
   ·repeat' first|exact rfl|exact trivial|exact wR|exact lR _|apply aI
    all_goals (show dK _ (List.map _ (_ ++ _)); rw [List.map_append]; exact aB _)
   ·repeat' first|exact rfl|exact trivial|exact wR|exact lR _|apply aI
    all_goals (simp; done)

theorem Oc (vars : Nat) (hv : vars <= 24) (t : Sp) (h : kD vars t = 0) (hl : (rC t 0 0).length <= 1000000) : aA Tryz.prog 106 [t.av,.int .i64 vars] [] (.eG [.sl 3 ((rC t 0 0).map lfA) .no,.int .i64 0]) []:=by
 have cc:=F8 vars t
 rw [h] at cc
 have hok : Ar vars 0 t:=by
  unfold kD at h
  rw [if_neg (by omega),Int.toNat_natCast] at h
  exact yT vars t 0 0 h
 have cl:=UR hv hok (Ik.zero vars) hl
 generalize rC t 0 0 = l at *
 obtain ⟨v,ks,r⟩:=t
 rw [Sp.iy] at cc cl ⊢
 refine aA.intro lay mixed Tryz.func106 (by kernel_rfl) rfl (by kernel_rfl) rfl fun hok=>?_
 (try dsimp only[aZ,aN]);(try dsimp only[aj]);conv=>whnf
 refine .pure _ _ ?_ ⟨rfl,rfl⟩ cc fun _=>?_
 ·all_goals exact wk
 (try dsimp only[aj]);conv=>whnf
 refine bN (by simp) ?_
 (try dsimp only[aj]);conv=>whnf
 refine .gen _ _ (aA.frame [] cl ⟨rfl,rfl,rfl,rfl⟩ ?_ ?_) fun _=>?_
 ·all_goals exact wk
 ·all_goals exact wk
 (try dsimp only[aj]);conv=>whnf
 refine ⟨⟨_,_,.refl _ _,?_⟩⟩
 conv=>whnf
 refine ⟨?_,rfl,by simp [nextId],.mk ?_ (by simp [ay])⟩
 ·all_goals exact wk
 ·all_goals exact wk


theorem tN (y n : Bool) : aA Tryz.prog 252 [.bool y,.bool n] [] (.int .i64 (lvl y n)) []:=by
 refine aA.intro lay mixed Tryz.func252 (by kernel_rfl) rfl (by kernel_rfl) rfl fun hok=>?_
 (try dsimp only[aZ,aN]);(try dsimp only[aj]);conv=>whnf
 refine And.intro (fun g=>?_) (fun g=>?_)
 ·rw [show lvl y n = 1 from if_pos g]
  (try dsimp only[aj]);conv=>whnf
  refine fM ?_;(conv=>whnf);refine ⟨?_,rfl⟩;conv=>whnf
  all_goals exact wk
 rw [show lvl y n = if n = true then 0 else 2 from if_neg (by rw [g]; simp)]
 (try dsimp only[aj]);conv=>whnf
 refine And.intro (fun g2=>?_) (fun g2=>?_)
 ·rw [if_pos g2]
  (try dsimp only[aj]);conv=>whnf
  refine fM ?_;(conv=>whnf);refine ⟨?_,rfl⟩;conv=>whnf
  all_goals exact wk
 ·rw [if_neg (by rw [g2]; simp)]
  (try dsimp only[aj]);conv=>whnf
  refine fM ?_;(conv=>whnf);refine ⟨?_,rfl⟩;conv=>whnf
  all_goals exact wk

theorem ZO (x : Nd) (a b c : Nat) (_ : 0 <= x.kind /\ x.kind <= 5) (ha : a <= 16) (hb : b <= 16) (hc : c <= 16) : aA Tryz.prog 253 [x.av,.ag [.int .i64 a,.int .i64 b,.int .i64 c]] [] (.int .i64 (LW x a b c)) []:=by
 refine aA.intro lay mixed Tryz.func253 (by kernel_rfl) rfl (by kernel_rfl) rfl fun hok=>?_
 (try dsimp only[aZ,aN]);(try dsimp only[aj]);conv=>whnf
 refine And.intro (fun k0=>?_) (fun k0=>?_)
 ·rw [show LW x a b c = x.k from if_pos k0]
  (try dsimp only[aj]);conv=>whnf
  refine fM ?_;(conv=>whnf);refine ⟨?_,rfl⟩;conv=>whnf
  all_goals exact wk
 rw [show LW x a b c = _ from if_neg k0]
 (try dsimp only[aj]);conv=>whnf
 refine And.intro (fun k1=>?_) (fun k1=>?_)
 ·rw [if_pos k1]
  (try dsimp only[aj]);conv=>whnf
  refine ⟨⟨by omega,by omega⟩,?_⟩
  (try dsimp only[aj]);conv=>whnf
  refine ⟨⟨by omega,by omega⟩,?_⟩
  (try dsimp only[aj]);conv=>whnf
  have cl:=tN (decide (a = 1)) (decide (b = 1))
  refine .pure _ _ ?_ ⟨rfl,rfl⟩ cl fun _=>?_
  ·refine ⟨?_,?_,trivial⟩
   ·show _ ↔ _
    rw [decide_eq_true_iff]; try omega
   ·show _ ↔ _
    rw [decide_eq_true_iff]; try omega
  (try dsimp only[aj]);conv=>whnf
  refine fM ?_;(conv=>whnf);refine ⟨?_,rfl⟩;conv=>whnf
  all_goals exact wk
 rw [if_neg k1]
 (try dsimp only[aj]);conv=>whnf
 refine And.intro (fun k2=>?_) (fun k2=>?_)
 ·rw [if_pos k2]
  (try dsimp only[aj]);conv=>whnf
  refine ⟨⟨by omega,by omega⟩,?_⟩
  (try dsimp only[aj]);conv=>whnf
  refine ⟨⟨by omega,by omega⟩,?_⟩
  (try dsimp only[aj]);conv=>whnf
  rw [List.length_map]
  have cl:=tN (decide (b = x.args.length)) (decide (0 < a))
  refine .pure _ _ ?_ ⟨rfl,rfl⟩ cl fun _=>?_
  ·refine ⟨?_,?_,trivial⟩
   ·show _ ↔ _
    rw [decide_eq_true_iff]; try omega
   ·show _ ↔ _
    rw [decide_eq_true_iff]; try omega
  (try dsimp only[aj]);conv=>whnf
  refine fM ?_;(conv=>whnf);refine ⟨?_,rfl⟩;conv=>whnf
  all_goals exact wk
 rw [if_neg k2]
 (try dsimp only[aj]);conv=>whnf
 refine And.intro (fun k3=>?_) (fun k3=>?_)
 ·rw [if_pos k3]
  (try dsimp only[aj]);conv=>whnf
  refine ⟨⟨by omega,by omega⟩,?_⟩
  (try dsimp only[aj]);conv=>whnf
  refine ⟨⟨by omega,by omega⟩,?_⟩
  (try dsimp only[aj]);conv=>whnf
  rw [List.length_map]
  have cl:=tN (decide (0 < b)) (decide (a = x.args.length))
  refine .pure _ _ ?_ ⟨rfl,rfl⟩ cl fun _=>?_
  ·refine ⟨?_,?_,trivial⟩
   ·show _ ↔ _
    rw [decide_eq_true_iff]; try omega
   ·show _ ↔ _
    rw [decide_eq_true_iff]; try omega
  (try dsimp only[aj]);conv=>whnf
  refine fM ?_;(conv=>whnf);refine ⟨?_,rfl⟩;conv=>whnf
  all_goals exact wk
 rw [if_neg k3]
 (try dsimp only[aj]);conv=>whnf
 refine And.intro (fun k4=>?_) (fun k4=>?_)
 ·rw [if_pos k4]
  (try dsimp only[aj]);conv=>whnf
  refine ⟨⟨by omega,by omega⟩,?_⟩
  (try dsimp only[aj]);conv=>whnf
  refine ⟨⟨by omega,by omega⟩,?_⟩
  (try dsimp only[aj]);conv=>whnf
  refine ⟨⟨by omega,by omega⟩,?_⟩
  (try dsimp only[aj]);conv=>whnf
  refine zA ?_;conv=>whnf
  have cl:=tN (decide (x.k <= b)) (decide ((b : Int) + c < x.k))
  refine .pure _ _ ?_ ⟨rfl,rfl⟩ cl fun _=>?_
  ·refine ⟨?_,?_,trivial⟩
   ·show _ ↔ _
    rw [decide_eq_true_iff]; try omega
   ·show _ ↔ _
    rw [decide_eq_true_iff]; try omega
  (try dsimp only[aj]);conv=>whnf
  refine fM ?_;(conv=>whnf);refine ⟨?_,rfl⟩;conv=>whnf
  all_goals exact wk
 rw [if_neg k4]
 (try dsimp only[aj]);conv=>whnf
 refine ⟨⟨by omega,by omega⟩,?_⟩
 (try dsimp only[aj]);conv=>whnf
 refine And.intro (fun g=>?_) (fun g=>?_)
 ·have g : c = 0:=by omega
  (try dsimp only[aj]);conv=>whnf
  refine ⟨⟨by omega,by omega⟩,?_⟩
  (try dsimp only[aj]);conv=>whnf
  refine ⟨by decide,?_⟩
  (try dsimp only[aj]);conv=>whnf
  refine ⟨⟨by omega,by omega⟩,?_⟩
  (try dsimp only[aj]);conv=>whnf
  refine And.intro (fun _=>?_) (fun g2=>by exfalso; omega)
  (try dsimp only[aj]);conv=>whnf
  refine ⟨⟨by omega,by omega⟩,?_⟩
  (try dsimp only[aj]);conv=>whnf
  refine ⟨by decide,?_⟩
  (try dsimp only[aj]);conv=>whnf
  have cl:=tN (decide (c = 0 /\ b % 2 = 1)) (decide (c = 0 /\ b % 2 = 0))
  refine .pure _ _ ?_ ⟨rfl,rfl⟩ cl fun _=>?_
  ·refine ⟨?_,?_,trivial⟩
   ·show _ ↔ _
    rw [decide_eq_true_iff,show (2 : Int) = ((2 : Nat) : Int) from rfl,uQ]; omega
   ·show _ ↔ _
    rw [decide_eq_true_iff,show (2 : Int) = ((2 : Nat) : Int) from rfl,uQ]; omega
  (try dsimp only[aj]);conv=>whnf
  refine fM ?_;(conv=>whnf);refine ⟨?_,rfl⟩;conv=>whnf
  all_goals exact wk
 ·(try dsimp only[aj]);conv=>whnf
  refine ⟨⟨by omega,by omega⟩,?_⟩
  (try dsimp only[aj]);conv=>whnf
  refine And.intro (fun g2=>by exfalso; omega) (fun _=>?_)
  (try dsimp only[aj]);conv=>whnf
  have cl:=tN (decide (c = 0 /\ b % 2 = 1)) (decide (c = 0 /\ b % 2 = 0))
  refine .pure _ _ ?_ ⟨rfl,rfl⟩ cl fun _=>?_
  ·refine ⟨?_,?_,trivial⟩
   ·show _ = false
    exact decide_eq_false (by omega)
   ·show _ = false
    exact decide_eq_false (by omega)
  (try dsimp only[aj]);conv=>whnf
  refine fM ?_;(conv=>whnf);refine ⟨?_,rfl⟩;conv=>whnf
  all_goals exact wk

theorem UC (f : Fo) (h : xY f) (y n : Nat) (hy : y < 2 ^ 24) (hn : n < 2 ^ 24) : aA Tryz.prog 194 [f.av,P6 y n] [] (.sl 1 ((lF f.vars.toNat y n f.nodes).map (.int .i64)) .no) []:=by
 have hNk:=h.JW
 have hV3:=fun k hk=>yU f.vars.toNat y n h.JW k hk
 obtain ⟨h1,h2,h3,h4⟩:=h
 refine aA.intro lay mixed Tryz.func194 (by kernel_rfl) rfl (by kernel_rfl) rfl fun hok=>?_
 (try dsimp only[aZ,aN]);(try dsimp only[aj]);conv=>whnf
 refine ⟨bC (by simp; omega) (by simp; omega),?_⟩
 (try dsimp only[aj]);conv=>whnf
 refine ⟨by refine ⟨by omega,by simp; omega,by simp; omega,by simp; omega⟩,?_⟩
 refine .wr ?_
 (try dsimp only[aj]);conv=>whnf
 refine aK.of <| aC.inv (.keep 5 2 0 _ 1 _ rfl rfl (by simp) (.refl _ _)) (fun i : Nat=>i <= f.vars.toNat) (fun i=>[(21,.int .i64 i),(5,.sl 1 ((Uh i y n).map (.int .i64)) (.own 3))]) (fun i=>[(3,.tok 1 i),(2,.gone),(1,.box (P6 y n)),(0,.box f.av)]) (fun i=>f.vars.toNat - i) 0 ?_ (fun _=>rfl) ?_ ?_
 ·exact Nat.zero_le _
 ·refine ⟨?_,.mk ?_ (by simp [ay])⟩
  ·all_goals exact wk
  ·all_goals exact wk
 intro i hi _
 (try dsimp only[aj]);conv=>whnf
 refine And.intro (fun g1=>?_) (fun g1=>?_)
 ·have hlt : i < f.vars.toNat:=by omega
  have hb1:=mZ (a:=y) (i:=i) (by omega) (by omega)
  have hb2:=mZ (a:=n) (i:=i) (by omega) (by omega)
  have cl:=tN (y.testBit i) (n.testBit i)
  (try dsimp only[aj]);conv=>whnf
  refine aS.auto (by kernel_rfl) ?_;conv=>whnf
  refine ⟨by omega,?_⟩
  conv=>whnf
  refine ⟨by omega,?_⟩
  conv=>whnf
  refine fO.pure _ _ ?_ ⟨rfl,rfl⟩ cl ?_
  ·refine ⟨?_,?_,trivial⟩
   ·show _ ↔ _
    rw [hb1]; cases y.testBit i <;> simp
   ·show _ ↔ _
    rw [hb2]; cases n.testBit i <;> simp
  conv=>whnf
  refine ⟨by simp [Uh],.mk (by simp [maxL,Uh]; omega) (by simp [Uh]; omega) ?_⟩
  (try dsimp only[aj]);conv=>whnf
  refine zA ?_;conv=>whnf
  refine ⟨i + 1,?_,?_,?_⟩
  ·exact hlt
  ·refine ⟨?_,.mk ?_ (by simp [ay])⟩
   ·repeat' first|exact rfl|exact trivial|exact wR|exact lR _|apply aI
    all_goals (show dK _ (List.map _ (List.map _ (List.range (i + 1)))); rw [List.range_succ,List.map_append,List.map_append]; exact aB _)
   ·repeat' first|exact rfl|exact trivial|exact wR|exact lR _|apply aI
    all_goals (simp [Uh]; done)
  ·omega
 have hil : i = f.vars.toNat:=by omega
 subst hil
 (try dsimp only[aj]);conv=>whnf
 refine aK.of <| aC.inv (.refl _ _) (fun i : Nat=>i <= f.nodes.length) (fun i=>[(44,.int .i64 i),(5,.sl 1 ((lF f.vars.toNat y n (f.nodes.take i)).map (.int .i64)) (.own 3))]) (fun i=>[(3,.tok 1 (f.vars.toNat + i)),(2,.gone),(1,.box (P6 y n)),(0,.box f.av)]) (fun i=>f.nodes.length - i) 0 ?_ (fun _=>rfl) ?_ ?_
 ·exact Nat.zero_le _
 ·refine ⟨?_,.mk ?_ (by simp [ay])⟩
  ·all_goals exact wk
  ·all_goals exact wk
 intro i hi _
 (try dsimp only[aj]);conv=>whnf
 refine And.intro (fun g2=>?_) (fun g2=>?_)
 ·have hlt : i < f.nodes.length:=by simpa using g2
  have hx:=h3 i hlt
  have hvl:=oD f.vars.toNat y n (f.nodes.take i)
  rw [List.length_take,Nat.min_eq_left hi] at hvl
  have h3V:=hV3 i hi
  have hvs:=x9 (v:=f.vars.toNat) (y:=y) (n:=n) hlt
  have hal16 : f.nodes[i].args.length <= 16:=by
   have hal:=hx.num
   split at hal
   ·omega
   ·split at hal <;> omega
  (try dsimp only[aj]);conv=>whnf
  refine jq hlt ?_
  generalize f.nodes[i] = x at *
  generalize lF f.vars.toNat y n (f.nodes.take i) = V at *
  (try dsimp only[aj]);conv=>whnf
  refine aK.of <| aC.inv (.refl _ _) (fun j : Nat=>j <= x.args.length) (fun j=>[(51,.int .i64 j)]) (fun j=>[(5,.box (.ag [.int .i64 (c3 V 0 (x.args.take j)),.int .i64 (c3 V 1 (x.args.take j)),.int .i64 (c3 V 2 (x.args.take j))])),(4,.box x.av),(3,.tok 1 (f.vars.toNat + i)),(2,.gone),(1,.box (P6 y n)),(0,.box f.av)]) (fun j=>x.args.length - j) 0 ?_ (fun _=>rfl) ?_ ?_
  ·exact Nat.zero_le _
  ·refine ⟨?_,.mk ?_ (by simp [ay])⟩
   ·all_goals exact wk
   ·all_goals exact wk
  intro j hj _
  (try dsimp only[aj]);conv=>whnf
  refine And.intro (fun g3=>?_) (fun g3=>?_)
  ·have hjl : j < x.args.length:=by simpa using g3
   have ha:=hx.args _ (List.getElem_mem hjl)
   have q0:=xu (V:=V) (k:=0) hjl
   have q1:=xu (V:=V) (k:=1) hjl
   have q2:=xu (V:=V) (k:=2) hjl
   have l0:=uH V 0 (x.args.take j)
   have l1:=uH V 1 (x.args.take j)
   have l2:=uH V 2 (x.args.take j)
   rw [List.length_take] at l0 l1 l2
   have hz:=h3V.get (x.args[j]).toNat
   (try dsimp only[aj]);conv=>whnf
   refine jq hjl ?_
   generalize x.args[j] = a at *
   (try dsimp only[aj]);conv=>whnf
   refine dQ 0 (by rw [hvl]; omega) ?_
   generalize V.getD a.toNat 0 = z at *
   generalize c3 V 0 (x.args.take j) = m0 at *
   generalize c3 V 1 (x.args.take j) = m1 at *
   generalize c3 V 2 (x.args.take j) = m2 at *
   have hz3 : z = 0 \/ z = 1 \/ z = 2:=by omega
   rcases hz3 with rfl | rfl | rfl
   ·(try dsimp only[aj]);conv=>whnf
    refine ⟨⟨by omega,by omega⟩,?_⟩
    (try dsimp only[aj]);conv=>whnf
    refine zA ?_;conv=>whnf
    refine ⟨⟨by omega,by omega⟩,?_⟩
    (try dsimp only[aj]);conv=>whnf
    refine zA ?_;conv=>whnf
    refine ⟨j + 1,?_,?_,?_⟩
    ·exact hjl
    ·rw [q0,q1,q2]
     refine ⟨?_,.mk ?_ (by simp [ay])⟩
     ·all_goals exact wk
     ·all_goals exact wk
    ·omega
   ·(try dsimp only[aj]);conv=>whnf
    refine ⟨⟨by omega,by omega⟩,?_⟩
    (try dsimp only[aj]);conv=>whnf
    refine zA ?_;conv=>whnf
    refine ⟨⟨by omega,by omega⟩,?_⟩
    (try dsimp only[aj]);conv=>whnf
    refine zA ?_;conv=>whnf
    refine ⟨j + 1,?_,?_,?_⟩
    ·exact hjl
    ·rw [q0,q1,q2]
     refine ⟨?_,.mk ?_ (by simp [ay])⟩
     ·all_goals exact wk
     ·all_goals exact wk
    ·omega
   ·(try dsimp only[aj]);conv=>whnf
    refine ⟨⟨by omega,by omega⟩,?_⟩
    (try dsimp only[aj]);conv=>whnf
    refine zA ?_;conv=>whnf
    refine ⟨⟨by omega,by omega⟩,?_⟩
    (try dsimp only[aj]);conv=>whnf
    refine zA ?_;conv=>whnf
    refine ⟨j + 1,?_,?_,?_⟩
    ·exact hjl
    ·rw [q0,q1,q2]
     refine ⟨?_,.mk ?_ (by simp [ay])⟩
     ·all_goals exact wk
     ·all_goals exact wk
    ·omega
  have hjl : j = x.args.length:=by (have : ¬ j < x.args.length:=by simpa using g3); omega
  subst hjl
  rw [List.take_length]
  have l0:=uH V 0 x.args
  have l1:=uH V 1 x.args
  have l2:=uH V 2 x.args
  have cn:=ZO x (c3 V 0 x.args) (c3 V 1 x.args) (c3 V 2 x.args) hx.kind (by omega) (by omega) (by omega)
  rw [show LW x (c3 V 0 x.args) (c3 V 1 x.args) (c3 V 2 x.args) = Hy V x from rfl] at cn
  unfold JD at hvs
  generalize Hy V x = z at *
  generalize c3 V 0 x.args = m0 at *
  generalize c3 V 1 x.args = m1 at *
  generalize c3 V 2 x.args = m2 at *
  (try dsimp only[aj]);conv=>whnf
  refine .pure _ _ ?_ ⟨rfl,rfl⟩ cn fun _=>?_
  ·exact ak _
  (try dsimp only[aj]);conv=>whnf
  refine ⟨by rw [List.length_map,hvl],.mk (by simp [maxL]; omega) (by simp; omega) ?_⟩
  (try dsimp only[aj]);conv=>whnf
  refine zA ?_;conv=>whnf
  refine ⟨i + 1,?_,?_,?_⟩
  ·exact hlt
  ·rw [hvs]
   refine ⟨?_,.mk ?_ (by simp [ay])⟩
   ·repeat' first|exact rfl|exact trivial|exact wR|exact lR _|apply aI
    all_goals (show dK _ (List.map _ (_ ++ [_])); rw [List.map_append]; exact aB _)
   ·repeat' first|exact rfl|exact trivial|exact wR|exact lR _|apply aI
    all_goals first | (simp [hvl]; done) | (simp [hvl]; omega)
  ·omega
 have hil : i = f.nodes.length:=by (have : ¬ i < f.nodes.length:=by simpa using g2); omega
 subst hil
 rw [List.take_length]
 (try dsimp only[aj]);conv=>whnf
 refine ⟨⟨_,_,.refl _ _,?_⟩⟩
 conv=>whnf
 refine ⟨?_,rfl,by simp [nextId],.mk ?_ (by simp [ay])⟩
 ·all_goals exact wk
 ·all_goals exact wk

theorem and_dis {y n : Nat} (h : ∀ i,¬ (y.testBit i = true /\ n.testBit i = true)) : y &&& n = 0:=by
 apply Nat.eq_of_testBit_eq
 intro i
 rw [Nat.testBit_and,Nat.zero_testBit]
 cases h1 : y.testBit i <;> cases h2 : n.testBit i <;> simp
 exact h i ⟨h1,h2⟩

theorem XF (f : Fo) (h : xY f) {p y n : Nat} (hc : Ik f.vars.toNat p y n) : aA Tryz.prog 193 [f.av,P6 y n] [] .eP []:=by
 have cc:=vM f h
 have h1:=h.vars
 have hyl:=hc.yl
 have hnl:=hc.nl
 have Zp : 2 ^ f.vars.toNat <= 2 ^ 24:=Nat.pow_le_pow_right (by decide) (by omega)
 have hsh:=sK (i:=f.vars.toNat) (by omega)
 rw [show ((f.vars.toNat : Nat) : Int) = f.vars by omega] at hsh
 have han:=Si (a:=y) (b:=n) (by omega) (by omega)
 rw [and_dis hc.dis] at han
 generalize 2 ^ f.vars.toNat = N at *
 refine aA.intro lay mixed Tryz.func193 (by kernel_rfl) rfl (by kernel_rfl) rfl fun hok=>?_
 (try dsimp only[aZ,aN]);(try dsimp only[aj]);conv=>whnf
 refine .pure _ _ ?_ ⟨rfl,rfl⟩ cc fun _=>?_
 ·exact ak _
 (try dsimp only[aj]);conv=>whnf
 refine aS.auto (by kernel_rfl) ?_;conv=>whnf
 refine bN (by omega) ?_
 conv=>whnf
 refine ⟨by omega,?_⟩
 rw [hsh]
 conv=>whnf
 refine bN (by omega) ?_
 conv=>whnf
 refine bN (by omega) ?_
 conv=>whnf
 refine ⟨by omega,?_⟩
 rw [hsh]
 conv=>whnf
 refine bN (by omega) ?_
 (try dsimp only[aj]);conv=>whnf
 rw [han]
 refine bN (by simp) ?_
 (try dsimp only[aj]);conv=>whnf
 refine fM ?_;(conv=>whnf);refine ⟨?_,rfl⟩;conv=>whnf
 all_goals exact wk

theorem NW (f : Fo) (h : xY f) {p y n : Nat} (hc : Ik f.vars.toNat p y n) : aA Tryz.prog 104 [f.av,P6 y n] [] (.eG [.int .i64 (tri f y n),.eP]) []:=by
 have cc:=XF f h hc
 have h1:=h.vars
 have h4:=h.top
 have hyl:=hc.yl
 have hnl:=hc.nl
 have Zp : 2 ^ f.vars.toNat <= 2 ^ 24:=Nat.pow_le_pow_right (by decide) (by omega)
 have cv:=UC f h y n (by omega) (by omega)
 have hl:=oD f.vars.toNat y n f.nodes
 unfold tri
 generalize lF f.vars.toNat y n f.nodes = V at *
 refine aA.intro lay mixed Tryz.func104 (by kernel_rfl) rfl (by kernel_rfl) rfl fun hok=>?_
 (try dsimp only[aZ,aN]);(try dsimp only[aj]);conv=>whnf
 refine .pure _ _ ?_ ⟨rfl,rfl⟩ cc fun _=>?_
 ·exact ak _
 (try dsimp only[aj]);conv=>whnf
 refine aS.auto (by kernel_rfl) ?_;conv=>whnf
 refine fO.pure _ _ ?_ ⟨rfl,rfl⟩ cv ?_
 ·exact ak _
 conv=>whnf
 refine dQ 0 (by rw [hl]; omega) ?_
 conv=>whnf
 refine fM ?_;(conv=>whnf);refine ⟨?_,rfl⟩;conv=>whnf
 all_goals exact wk

theorem xg (y n : Bool) : aA Tryz.prog 254 [.bool y,.bool n] [] (.int .i64 (lvl y n)) []:=by
 refine aA.intro lay mixed Tryz.func254 (by kernel_rfl) rfl (by kernel_rfl) rfl fun hok=>?_
 (try dsimp only[aZ,aN]);(try dsimp only[aj]);conv=>whnf
 refine And.intro (fun g=>?_) (fun g=>?_)
 ·rw [show lvl y n = 1 from if_pos g]
  (try dsimp only[aj]);conv=>whnf
  refine fM ?_;(conv=>whnf);refine ⟨?_,rfl⟩;conv=>whnf
  all_goals exact wk
 rw [show lvl y n = if n = true then 0 else 2 from if_neg (by rw [g]; simp)]
 (try dsimp only[aj]);conv=>whnf
 refine And.intro (fun g2=>?_) (fun g2=>?_)
 ·rw [if_pos g2]
  (try dsimp only[aj]);conv=>whnf
  refine fM ?_;(conv=>whnf);refine ⟨?_,rfl⟩;conv=>whnf
  all_goals exact wk
 ·rw [if_neg (by rw [g2]; simp)]
  (try dsimp only[aj]);conv=>whnf
  refine fM ?_;(conv=>whnf);refine ⟨?_,rfl⟩;conv=>whnf
  all_goals exact wk

def ofT (v y n : Nat) (w : List Int) (a : Nat) : Int:=if a < v then lvl (y.testBit a) (n.testBit a) else w.getD (a - v) 0

theorem XT (f : Fo) (hv : 0 <= f.vars /\ f.vars <= 24) (w : List Int) (y n a : Nat) (hy : y < 2 ^ 24) (hn : n < 2 ^ 24) (ha : a < f.vars.toNat + w.length) (hw : w.length <= 128) :
  aA Tryz.prog 196 [f.av,.ms 0 0 w.length w.length 1,P6 y n,.int .i64 a] [(0,.arr 1 w.length (w.map (.int .i64)))] (.int .i64 (ofT f.vars.toNat y n w a)) [(0,.arr 1 w.length (w.map (.int .i64)))]:=by
 refine aA.intro lay mixed Tryz.func196 (by kernel_rfl) rfl (by kernel_rfl) rfl fun hok=>?_
 (try dsimp only[aZ,aN]);(try dsimp only[aj]);conv=>whnf
 refine And.intro (fun g=>?_) (fun g=>?_)
 ·rw [show ofT f.vars.toNat y n w a = w.getD (a - f.vars.toNat) 0 from if_neg (by omega)]
  (try dsimp only[aj]);conv=>whnf
  refine ⟨bC (by omega) (by omega),?_⟩
  (try dsimp only[aj]);conv=>whnf
  refine ⟨⟨by omega,by omega⟩,?_⟩
  (try dsimp only[aj]);conv=>whnf
  rw [Nat.zero_add]
  refine dQ 0 ⟨by omega,by omega⟩ ?_
  rw [Int.toNat_natCast,show ((a : Int) - f.vars).toNat = a - f.vars.toNat by omega]
  (try dsimp only[aj]);conv=>whnf
  refine ⟨rfl,?_⟩
  (try dsimp only[aj]);conv=>whnf
  refine ⟨⟨_,_,.refl _ _,?_⟩⟩
  conv=>whnf
  refine ⟨?_,rfl,by simp [nextId],.mk ?_ (by simp [ay])⟩
  ·all_goals exact wk
  ·all_goals exact wk
 ·rw [show ofT f.vars.toNat y n w a = lvl (y.testBit a) (n.testBit a) from if_pos (by omega)]
  have t1:=mZ (a:=y) (i:=a) (by omega) (by omega)
  have t2:=mZ (a:=n) (i:=a) (by omega) (by omega)
  by_cases hb : y.testBit a = true
  ·rw [show lvl (y.testBit a) (n.testBit a) = 1 from if_pos hb]
   rw [if_pos hb] at t1
   (try dsimp only[aj]);conv=>whnf
   refine ⟨by omega,?_⟩
   (try dsimp only[aj]);conv=>whnf
   rw [t1]
   refine bY rfl ?_
   (try dsimp only[aj]);conv=>whnf
   refine ⟨⟨_,_,.refl _ _,?_⟩⟩
   conv=>whnf
   refine ⟨?_,rfl,by simp [nextId],.mk ?_ (by simp [ay])⟩
   ·all_goals exact wk
   ·all_goals exact wk
  rw [show lvl (y.testBit a) (n.testBit a) = if n.testBit a = true then 0 else 2 from if_neg hb]
  rw [if_neg hb] at t1
  (try dsimp only[aj]);conv=>whnf
  refine ⟨by omega,?_⟩
  (try dsimp only[aj]);conv=>whnf
  rw [t1]
  refine bN (by decide) ?_
  (try dsimp only[aj]);conv=>whnf
  refine ⟨by omega,?_⟩
  (try dsimp only[aj]);conv=>whnf
  rw [t2]
  by_cases hb2 : n.testBit a = true
  ·rw [if_pos hb2,if_pos hb2]
   refine bY rfl ?_
   (try dsimp only[aj]);conv=>whnf
   refine ⟨⟨_,_,.refl _ _,?_⟩⟩
   conv=>whnf
   refine ⟨?_,rfl,by simp [nextId],.mk ?_ (by simp [ay])⟩
   ·all_goals exact wk
   ·all_goals exact wk
  rw [if_neg hb2,if_neg hb2]
  refine bN (by decide) ?_
  (try dsimp only[aj]);conv=>whnf
  refine ⟨⟨_,_,.refl _ _,?_⟩⟩
  conv=>whnf
  refine ⟨?_,rfl,by simp [nextId],.mk ?_ (by simp [ay])⟩
  ·all_goals exact wk
  ·all_goals exact wk

theorem ZX (f : Fo) (hv : 0 <= f.vars /\ f.vars <= 24) (w : List Int) (y n a : Nat) (hy : y < 2 ^ 24) (hn : n < 2 ^ 24) (ha : a < f.vars.toNat + w.length) (hw : w.length <= 128) :
  aA Tryz.prog 196 [f.av,.sl 1 (w.map (.int .i64)) .no,P6 y n,.int .i64 a] [] (.int .i64 (ofT f.vars.toNat y n w a)) []:=by
 refine aA.intro lay mixed Tryz.func196 (by kernel_rfl) rfl (by kernel_rfl) rfl fun hok=>?_
 (try dsimp only[aZ,aN]);(try dsimp only[aj]);conv=>whnf
 refine And.intro (fun g=>?_) (fun g=>?_)
 ·rw [show ofT f.vars.toNat y n w a = w.getD (a - f.vars.toNat) 0 from if_neg (by omega)]
  (try dsimp only[aj]);conv=>whnf
  refine ⟨bC (by omega) (by omega),?_⟩
  (try dsimp only[aj]);conv=>whnf
  refine dQ 0 ⟨by omega,by omega⟩ ?_
  rw [show ((a : Int) - f.vars).toNat = a - f.vars.toNat by omega]
  (try dsimp only[aj]);conv=>whnf
  refine ⟨⟨_,_,.refl _ _,?_⟩⟩
  conv=>whnf
  refine ⟨?_,rfl,by simp [nextId],.mk ?_ (by simp [ay])⟩
  ·all_goals exact wk
  ·all_goals exact wk
 ·rw [show ofT f.vars.toNat y n w a = lvl (y.testBit a) (n.testBit a) from if_pos (by omega)]
  have t1:=mZ (a:=y) (i:=a) (by omega) (by omega)
  have t2:=mZ (a:=n) (i:=a) (by omega) (by omega)
  by_cases hb : y.testBit a = true
  ·rw [show lvl (y.testBit a) (n.testBit a) = 1 from if_pos hb]
   rw [if_pos hb] at t1
   (try dsimp only[aj]);conv=>whnf
   refine ⟨by omega,?_⟩
   (try dsimp only[aj]);conv=>whnf
   rw [t1]
   refine bY rfl ?_
   (try dsimp only[aj]);conv=>whnf
   refine ⟨⟨_,_,.refl _ _,?_⟩⟩
   conv=>whnf
   refine ⟨?_,rfl,by simp [nextId],.mk ?_ (by simp [ay])⟩
   ·all_goals exact wk
   ·all_goals exact wk
  rw [show lvl (y.testBit a) (n.testBit a) = if n.testBit a = true then 0 else 2 from if_neg hb]
  rw [if_neg hb] at t1
  (try dsimp only[aj]);conv=>whnf
  refine ⟨by omega,?_⟩
  (try dsimp only[aj]);conv=>whnf
  rw [t1]
  refine bN (by decide) ?_
  (try dsimp only[aj]);conv=>whnf
  refine ⟨by omega,?_⟩
  (try dsimp only[aj]);conv=>whnf
  rw [t2]
  by_cases hb2 : n.testBit a = true
  ·rw [if_pos hb2,if_pos hb2]
   refine bY rfl ?_
   (try dsimp only[aj]);conv=>whnf
   refine ⟨⟨_,_,.refl _ _,?_⟩⟩
   conv=>whnf
   refine ⟨?_,rfl,by simp [nextId],.mk ?_ (by simp [ay])⟩
   ·all_goals exact wk
   ·all_goals exact wk
  rw [if_neg hb2,if_neg hb2]
  refine bN (by decide) ?_
  (try dsimp only[aj]);conv=>whnf
  refine ⟨⟨_,_,.refl _ _,?_⟩⟩
  conv=>whnf
  refine ⟨?_,rfl,by simp [nextId],.mk ?_ (by simp [ay])⟩
  ·all_goals exact wk
  ·all_goals exact wk

def wT (f : Fo) (y n i : Nat) : List Int:=(lF f.vars.toNat y n (f.nodes.take i)).drop f.vars.toNat ++ List.replicate (f.nodes.length - i) 0

theorem Tc (V : List Int) (l : List Nd) : ∃ t,l.foldl JD V = V ++ t:=by
 induction l generalizing V with
 | nil=>exact ⟨[],by simp⟩
 | cons x l ih =>
   obtain ⟨t,ht⟩:=ih (JD V x)
   exact ⟨[Hy V x] ++ t,by rw [List.foldl_cons,ht]; unfold JD; rw [List.append_assoc]⟩

theorem evT_lt {v y n a : Nat} (h : a < v) : a < (Uh v y n).length:=by simp [Uh]; exact h

theorem ofT_w (f : Fo) (y n i a : Nat) (hi : i <= f.nodes.length) (ha : a < f.vars.toNat + i) : ofT f.vars.toNat y n (wT f y n i) a = (lF f.vars.toNat y n (f.nodes.take i)).getD a 0:=by
 have hl:=oD f.vars.toNat y n (f.nodes.take i)
 rw [List.length_take,Nat.min_eq_left hi] at hl
 unfold ofT
 split
 ·rename_i h
  obtain ⟨t,ht⟩:=Tc (Uh f.vars.toNat y n) (f.nodes.take i)
  unfold lF
  rw [ht,List.getD_eq_getElem?_getD,List.getElem?_append_left (evT_lt h),<- List.getD_eq_getElem?_getD]
  exact (Zw h).symm
 ·unfold wT
  rw [List.getD_eq_getElem?_getD,List.getElem?_append_left (by rw [List.length_drop]; omega),List.getElem?_drop,show f.vars.toNat + (a - f.vars.toNat) = a by omega,<- List.getD_eq_getElem?_getD]

theorem Vo (f : Fo) (y n i : Nat) (hi : i <= f.nodes.length) : (wT f y n i).length = f.nodes.length:=by
 have hl:=oD f.vars.toNat y n (f.nodes.take i)
 rw [List.length_take,Nat.min_eq_left hi] at hl
 unfold wT
 rw [List.length_append,List.length_drop,List.length_replicate]; omega

theorem YO (f : Fo) (y n i : Nat) (hi : i < f.nodes.length) {b : Int} (hb : lF f.vars.toNat y n (f.nodes.take (i + 1)) = lF f.vars.toNat y n (f.nodes.take i) ++ [b]) : (wT f y n i).set i b = wT f y n (i + 1):=by
 have hl:=oD f.vars.toNat y n (f.nodes.take i)
 rw [List.length_take,Nat.min_eq_left (by omega)] at hl
 unfold wT
 rw [hb]
 generalize lF f.vars.toNat y n (f.nodes.take i) = V at *
 obtain ⟨m,hm⟩ : ∃ m,f.nodes.length - i = m + 1:=⟨f.nodes.length - i - 1,by omega⟩
 rw [hm,show f.nodes.length - (i + 1) = m by omega,List.set_append_right _ _ (by rw [List.length_drop]; omega),List.length_drop,hl,List.drop_append_of_le_length (by omega),List.append_assoc]
 rw [show i - (f.vars.toNat + i - f.vars.toNat) = 0 by omega]
 rfl

theorem Oe (f : Fo) (h : xY f) (y n : Nat) (hy : y < 2 ^ 24) (hn : n < 2 ^ 24) : aA Tryz.prog 197 [f.av,P6 y n] [] (.sl 1 ((wT f y n f.nodes.length).map (.int .i64)) .no) []:=by
 have hV3:=fun k hk=>yU f.vars.toNat y n h.JW k hk
 obtain ⟨h1,h2,h3,h4⟩:=h
 have hwl:=Vo f y n
 refine aA.intro lay mixed Tryz.func197 (by kernel_rfl) rfl (by kernel_rfl) rfl fun hok=>?_
 (try dsimp only[aZ,aN]);(try dsimp only[aj]);conv=>whnf
 rw [List.length_map]
 refine ⟨⟨by omega,Int.le_refl _,by show (f.nodes.length : Int) * ((8 : Nat) : Int) <= 281474976710656; omega,by omega⟩,.wr ?_⟩
 rw [Int.toNat_natCast]
 (try dsimp only[aj]);conv=>whnf
 refine aK.of <| (aC.inv (.refl _ _) (fun i : Nat=>i <= f.nodes.length) (fun i=>[(19,.int .i64 i)]) (fun i=>[(2,.arr 1 f.nodes.length ((wT f y n i).map (.int .i64))),(1,.box (P6 y n)),(0,.box f.av)]) (fun i=>f.nodes.length - i) 0 (Nat.zero_le _) ?_ ?_ ?_)
 ·exact fun _=>rfl
 ·refine ⟨?_,.mk ?_ (by simp [ay])⟩
  ·all_goals exact wk
  ·repeat' first|exact rfl|exact trivial|exact wR|exact lR _|apply aI
   all_goals first | (refine aY ?_; have e0 : wT f y n 0 = List.replicate f.nodes.length 0:=by unfold wT; rw [List.take_zero,List.drop_of_length_le (by rw [oD]; simp),List.nil_append,Nat.sub_zero]
                      rw [e0,List.map_replicate]) | skip
 intro i hi _
 have hwi:=hwl i hi
 (try dsimp only[aj]);conv=>whnf
 refine And.intro (fun g1=>?_) (fun g1=>?_)
 ·have hlt : i < f.nodes.length:=by simpa using g1
  have hx:=h3 i hlt
  have h3V:=hV3 i hi
  have hvs:=x9 (v:=f.vars.toNat) (y:=y) (n:=n) hlt
  have how:=fun a=>ofT_w f y n i a hi
  have hsu:=fun b=>YO f y n i hlt (b:=b)
  (try dsimp only[aj]);conv=>whnf
  refine jq hlt ?_
  generalize f.nodes[i] = x at *
  generalize lF f.vars.toNat y n (f.nodes.take i) = V at *
  generalize wT f y n i = w at *
  have hal16 : x.args.length <= 16:=by
   have hal:=hx.num
   split at hal
   ·omega
   ·split at hal <;> omega
  (try dsimp only[aj]);conv=>whnf
  refine aK.of <| (aC.inv (.refl _ _) (fun j : Nat=>j <= x.args.length) (fun j=>[(28,.int .i64 j)]) (fun j=>[(4,.box (.ag [.int .i64 (c3 V 0 (x.args.take j)),.int .i64 (c3 V 1 (x.args.take j)),.int .i64 (c3 V 2 (x.args.take j))])),(3,.box x.av),(2,.arr 1 f.nodes.length (w.map (.int .i64))),(1,.box (P6 y n)),(0,.box f.av)]) (fun j=>x.args.length - j) 0 (Nat.zero_le _) ?_ ?_ ?_)
  ·exact fun _=>rfl
  ·refine ⟨?_,.mk ?_ (by simp [ay])⟩
   ·all_goals exact wk
   ·all_goals exact wk
  intro j hj _
  (try dsimp only[aj]);conv=>whnf
  refine And.intro (fun g2=>?_) (fun g2=>?_)
  ·have hjl : j < x.args.length:=by simpa using g2
   have ha:=hx.args _ (List.getElem_mem hjl)
   have q0:=xu (V:=V) (k:=0) hjl
   have q1:=xu (V:=V) (k:=1) hjl
   have q2:=xu (V:=V) (k:=2) hjl
   have l0:=uH V 0 (x.args.take j)
   have l1:=uH V 1 (x.args.take j)
   have l2:=uH V 2 (x.args.take j)
   rw [List.length_take] at l0 l1 l2
   have hz:=h3V.get (x.args[j]).toNat
   have co:=XT f h1 w y n (x.args[j]).toNat hy hn (by omega) (by omega)
   rw [how _ (by omega),hwi,show (((x.args[j]).toNat : Nat) : Int) = x.args[j] by omega] at co
   (try dsimp only[aj]);conv=>whnf
   refine jq hjl ?_
   generalize x.args[j] = a at *
   generalize V.getD a.toNat 0 = z at *
   generalize c3 V 0 (x.args.take j) = m0 at *
   generalize c3 V 1 (x.args.take j) = m1 at *
   generalize c3 V 2 (x.args.take j) = m2 at *
   have hz3 : z = 0 \/ z = 1 \/ z = 2:=by omega
   rcases hz3 with rfl | rfl | rfl
   ·(try dsimp only[aj]);conv=>whnf
    refine .gen _ _ (aA.frame [2] co ⟨rfl,rfl,rfl,rfl⟩ ?_ ?_) fun _=>?_
    ·all_goals exact wk
    ·all_goals exact wk
    (try dsimp only[aj]);conv=>whnf
    refine ⟨⟨by omega,by omega⟩,?_⟩
    (try dsimp only[aj]);conv=>whnf
    refine zA ?_;conv=>whnf
    refine ⟨⟨by omega,by omega⟩,?_⟩
    (try dsimp only[aj]);conv=>whnf
    refine zA ?_;conv=>whnf
    refine ⟨j + 1,?_,?_,?_⟩
    ·exact hjl
    ·rw [q0,q1,q2]
     refine ⟨?_,.mk ?_ (by simp [ay])⟩
     ·all_goals exact wk
     ·all_goals exact wk
    ·omega
   ·(try dsimp only[aj]);conv=>whnf
    refine .gen _ _ (aA.frame [2] co ⟨rfl,rfl,rfl,rfl⟩ ?_ ?_) fun _=>?_
    ·all_goals exact wk
    ·all_goals exact wk
    (try dsimp only[aj]);conv=>whnf
    refine ⟨⟨by omega,by omega⟩,?_⟩
    (try dsimp only[aj]);conv=>whnf
    refine zA ?_;conv=>whnf
    refine ⟨⟨by omega,by omega⟩,?_⟩
    (try dsimp only[aj]);conv=>whnf
    refine zA ?_;conv=>whnf
    refine ⟨j + 1,?_,?_,?_⟩
    ·exact hjl
    ·rw [q0,q1,q2]
     refine ⟨?_,.mk ?_ (by simp [ay])⟩
     ·all_goals exact wk
     ·all_goals exact wk
    ·omega
   ·(try dsimp only[aj]);conv=>whnf
    refine .gen _ _ (aA.frame [2] co ⟨rfl,rfl,rfl,rfl⟩ ?_ ?_) fun _=>?_
    ·all_goals exact wk
    ·all_goals exact wk
    (try dsimp only[aj]);conv=>whnf
    refine ⟨⟨by omega,by omega⟩,?_⟩
    (try dsimp only[aj]);conv=>whnf
    refine zA ?_;conv=>whnf
    refine ⟨⟨by omega,by omega⟩,?_⟩
    (try dsimp only[aj]);conv=>whnf
    refine zA ?_;conv=>whnf
    refine ⟨j + 1,?_,?_,?_⟩
    ·exact hjl
    ·rw [q0,q1,q2]
     refine ⟨?_,.mk ?_ (by simp [ay])⟩
     ·all_goals exact wk
     ·all_goals exact wk
    ·omega
  have hjl : j = x.args.length:=by (have : ¬ j < x.args.length:=by simpa using g2); omega
  subst hjl
  clear g2
  rw [List.take_length]
  have hk:=hx.kind
  have hkk:=hx.k
  have l0:=uH V 0 x.args
  have l1:=uH V 1 x.args
  have l2:=uH V 2 x.args
  have hsum:=c3_sum h3V x.args
  have hsu : ∀ z : Int,Hy V x = z -> w.set i z = wT f y n (i + 1):=fun z hz=>hsu z (by rw [hvs,JD,hz])
  have MZ : Hy V x = LW x (c3 V 0 x.args) (c3 V 1 x.args) (c3 V 2 x.args):=rfl
  clear hvs how
  generalize Hy V x = tv at *
  generalize c3 V 0 x.args = a at *
  generalize c3 V 1 x.args = b at *
  generalize c3 V 2 x.args = c at *
  unfold LW at MZ
  (try dsimp only[aj]);conv=>whnf
  refine And.intro (fun k0=>?_) (fun k0=>?_)
  ·rw [if_pos k0] at MZ hkk
   have hz : tv = lvl (decide (x.k = 1)) true:=by
    rw [MZ]; unfold lvl
    rcases hkk with e | e <;> simp [e]
   (try dsimp only[aj]);conv=>whnf
   have ct:=xg (decide (x.k = 1)) true
   refine .pure _ _ ?_ ⟨rfl,rfl⟩ ct fun _=>?_
   ·refine ⟨?_,?_,trivial⟩
    ·show _ ↔ _
     rw [decide_eq_true_iff]
    ·rfl
   (try dsimp only[aj]);conv=>whnf
   refine ⟨⟨by omega,by omega⟩,?_⟩
   (try dsimp only[aj]);conv=>whnf
   refine ⟨by rw [List.length_map]; omega,rfl,?_⟩
   (try dsimp only[aj]);conv=>whnf
   refine zA ?_;conv=>whnf
   refine ⟨i + 1,?_,?_,?_⟩
   ·exact hlt
   ·rw [<- hsu _ hz,List.map_set]
    refine ⟨?_,.mk ?_ (by simp [ay])⟩
    ·all_goals exact wk
    ·repeat' first|exact rfl|exact trivial|exact wR|exact lR _|apply aI
     all_goals first | (rw [Nat.zero_add,Int.toNat_natCast]; exact aB _) | skip
   ·omega
  rw [if_neg k0] at MZ
  (try dsimp only[aj]);conv=>whnf
  refine And.intro (fun k1=>?_) (fun k1=>?_)
  ·rw [if_pos k1] at MZ
   have hz:=MZ
   (try dsimp only[aj]);conv=>whnf
   refine ⟨⟨by omega,by omega⟩,?_⟩
   (try dsimp only[aj]);conv=>whnf
   refine ⟨⟨by omega,by omega⟩,?_⟩
   (try dsimp only[aj]);conv=>whnf
   have ct:=xg (decide (a = 1)) (decide (b = 1))
   refine .pure _ _ ?_ ⟨rfl,rfl⟩ ct fun _=>?_
   ·refine ⟨?_,?_,trivial⟩
    ·show _ ↔ _
     rw [decide_eq_true_iff]; try omega
    ·show _ ↔ _
     rw [decide_eq_true_iff]; try omega
   (try dsimp only[aj]);conv=>whnf
   refine ⟨⟨by omega,by omega⟩,?_⟩
   (try dsimp only[aj]);conv=>whnf
   refine ⟨by rw [List.length_map]; omega,rfl,?_⟩
   (try dsimp only[aj]);conv=>whnf
   refine zA ?_;conv=>whnf
   refine ⟨i + 1,?_,?_,?_⟩
   ·exact hlt
   ·rw [<- hsu _ hz,List.map_set]
    refine ⟨?_,.mk ?_ (by simp [ay])⟩
    ·all_goals exact wk
    ·repeat' first|exact rfl|exact trivial|exact wR|exact lR _|apply aI
     all_goals first | (rw [Nat.zero_add,Int.toNat_natCast]; exact aB _) | skip
   ·omega
  rw [if_neg k1] at MZ
  (try dsimp only[aj]);conv=>whnf
  refine And.intro (fun k2=>?_) (fun k2=>?_)
  ·rw [if_pos k2] at MZ
   have hz:=MZ
   (try dsimp only[aj]);conv=>whnf
   refine ⟨⟨by omega,by omega⟩,?_⟩
   (try dsimp only[aj]);conv=>whnf
   refine ⟨⟨by omega,by omega⟩,?_⟩
   (try dsimp only[aj]);conv=>whnf
   rw [List.length_map]
   have ct:=xg (decide (b = x.args.length)) (decide (0 < a))
   refine .pure _ _ ?_ ⟨rfl,rfl⟩ ct fun _=>?_
   ·refine ⟨?_,?_,trivial⟩
    ·show _ ↔ _
     rw [decide_eq_true_iff]; try omega
    ·show _ ↔ _
     rw [decide_eq_true_iff]; try omega
   (try dsimp only[aj]);conv=>whnf
   refine ⟨⟨by omega,by omega⟩,?_⟩
   (try dsimp only[aj]);conv=>whnf
   refine ⟨by rw [List.length_map]; omega,rfl,?_⟩
   (try dsimp only[aj]);conv=>whnf
   refine zA ?_;conv=>whnf
   refine ⟨i + 1,?_,?_,?_⟩
   ·exact hlt
   ·rw [<- hsu _ hz,List.map_set]
    refine ⟨?_,.mk ?_ (by simp [ay])⟩
    ·all_goals exact wk
    ·repeat' first|exact rfl|exact trivial|exact wR|exact lR _|apply aI
     all_goals first | (rw [Nat.zero_add,Int.toNat_natCast]; exact aB _) | skip
   ·omega
  rw [if_neg k2] at MZ
  (try dsimp only[aj]);conv=>whnf
  refine And.intro (fun k3=>?_) (fun k3=>?_)
  ·rw [if_pos k3] at MZ
   have hz:=MZ
   (try dsimp only[aj]);conv=>whnf
   refine ⟨⟨by omega,by omega⟩,?_⟩
   (try dsimp only[aj]);conv=>whnf
   refine ⟨⟨by omega,by omega⟩,?_⟩
   (try dsimp only[aj]);conv=>whnf
   rw [List.length_map]
   have ct:=xg (decide (0 < b)) (decide (a = x.args.length))
   refine .pure _ _ ?_ ⟨rfl,rfl⟩ ct fun _=>?_
   ·refine ⟨?_,?_,trivial⟩
    ·show _ ↔ _
     rw [decide_eq_true_iff]; try omega
    ·show _ ↔ _
     rw [decide_eq_true_iff]; try omega
   (try dsimp only[aj]);conv=>whnf
   refine ⟨⟨by omega,by omega⟩,?_⟩
   (try dsimp only[aj]);conv=>whnf
   refine ⟨by rw [List.length_map]; omega,rfl,?_⟩
   (try dsimp only[aj]);conv=>whnf
   refine zA ?_;conv=>whnf
   refine ⟨i + 1,?_,?_,?_⟩
   ·exact hlt
   ·rw [<- hsu _ hz,List.map_set]
    refine ⟨?_,.mk ?_ (by simp [ay])⟩
    ·all_goals exact wk
    ·repeat' first|exact rfl|exact trivial|exact wR|exact lR _|apply aI
     all_goals first | (rw [Nat.zero_add,Int.toNat_natCast]; exact aB _) | skip
   ·omega
  rw [if_neg k3] at MZ
  (try dsimp only[aj]);conv=>whnf
  refine And.intro (fun k4=>?_) (fun k4=>?_)
  ·rw [if_pos k4] at MZ
   have hz:=MZ
   (try dsimp only[aj]);conv=>whnf
   refine ⟨⟨by omega,by omega⟩,?_⟩
   (try dsimp only[aj]);conv=>whnf
   refine ⟨⟨by omega,by omega⟩,?_⟩
   (try dsimp only[aj]);conv=>whnf
   rw [List.length_map]
   refine zA ?_;conv=>whnf
   have ct:=xg (decide (x.k <= b)) (decide ((b : Int) + c < x.k))
   refine .pure _ _ ?_ ⟨rfl,rfl⟩ ct fun _=>?_
   ·refine ⟨?_,?_,trivial⟩
    ·show _ ↔ _
     rw [decide_eq_true_iff]; try omega
    ·show _ ↔ _
     rw [decide_eq_true_iff]; try omega
   (try dsimp only[aj]);conv=>whnf
   refine ⟨⟨by omega,by omega⟩,?_⟩
   (try dsimp only[aj]);conv=>whnf
   refine ⟨by rw [List.length_map]; omega,rfl,?_⟩
   (try dsimp only[aj]);conv=>whnf
   refine zA ?_;conv=>whnf
   refine ⟨i + 1,?_,?_,?_⟩
   ·exact hlt
   ·rw [<- hsu _ hz,List.map_set]
    refine ⟨?_,.mk ?_ (by simp [ay])⟩
    ·all_goals exact wk
    ·repeat' first|exact rfl|exact trivial|exact wR|exact lR _|apply aI
     all_goals first | (rw [Nat.zero_add,Int.toNat_natCast]; exact aB _) | skip
   ·omega
  rw [if_neg k4] at MZ
  have hz : tv = lvl (decide (c = 0 /\ b % 2 = 1)) (decide (c = 0)):=by
   rw [MZ]; unfold lvl
   by_cases e1 : c = 0 <;> by_cases e2 : b % 2 = 1 <;> simp [e1,e2]
  have ct:=xg (decide (c = 0 /\ b % 2 = 1)) (decide (c = 0))
  (try dsimp only[aj]);conv=>whnf
  refine ⟨⟨by omega,by omega⟩,?_⟩
  (try dsimp only[aj]);conv=>whnf
  refine And.intro (fun g=>?_) (fun g=>?_)
  ·(try dsimp only[aj]);conv=>whnf
   refine ⟨⟨by omega,by omega⟩,?_⟩
   (try dsimp only[aj]);conv=>whnf
   refine ⟨by decide,?_⟩
   (try dsimp only[aj]);conv=>whnf
   refine ⟨⟨by omega,by omega⟩,?_⟩
   (try dsimp only[aj]);conv=>whnf
   refine .pure _ _ ?_ ⟨rfl,rfl⟩ ct fun _=>?_
   ·refine ⟨?_,?_,trivial⟩
    ·show _ ↔ _
     rw [decide_eq_true_iff,show (2 : Int) = ((2 : Nat) : Int) from rfl,uQ]; omega
    ·show _ ↔ _
     rw [decide_eq_true_iff]; omega
   (try dsimp only[aj]);conv=>whnf
   refine ⟨⟨by omega,by omega⟩,?_⟩
   (try dsimp only[aj]);conv=>whnf
   refine ⟨by rw [List.length_map]; omega,rfl,?_⟩
   (try dsimp only[aj]);conv=>whnf
   refine zA ?_;conv=>whnf
   refine ⟨i + 1,?_,?_,?_⟩
   ·exact hlt
   ·rw [<- hsu _ hz,List.map_set]
    refine ⟨?_,.mk ?_ (by simp [ay])⟩
    ·all_goals exact wk
    ·repeat' first|exact rfl|exact trivial|exact wR|exact lR _|apply aI
     all_goals first | (rw [Nat.zero_add,Int.toNat_natCast]; exact aB _) | skip
   ·omega
  ·(try dsimp only[aj]);conv=>whnf
   refine ⟨⟨by omega,by omega⟩,?_⟩
   (try dsimp only[aj]);conv=>whnf
   refine .pure _ _ ?_ ⟨rfl,rfl⟩ ct fun _=>?_
   ·refine ⟨?_,?_,trivial⟩
    ·show _ = false
     exact decide_eq_false (by omega)
    ·show _ ↔ _
     rw [decide_eq_true_iff]; omega
   (try dsimp only[aj]);conv=>whnf
   refine ⟨⟨by omega,by omega⟩,?_⟩
   (try dsimp only[aj]);conv=>whnf
   refine ⟨by rw [List.length_map]; omega,rfl,?_⟩
   (try dsimp only[aj]);conv=>whnf
   refine zA ?_;conv=>whnf
   refine ⟨i + 1,?_,?_,?_⟩
   ·exact hlt
   ·rw [<- hsu _ hz,List.map_set]
    refine ⟨?_,.mk ?_ (by simp [ay])⟩
    ·all_goals exact wk
    ·repeat' first|exact rfl|exact trivial|exact wR|exact lR _|apply aI
     all_goals first | (rw [Nat.zero_add,Int.toNat_natCast]; exact aB _) | skip
   ·omega
 have hil : i = f.nodes.length:=by (have : ¬ i < f.nodes.length:=by simpa using g1); omega
 subst hil
 (try dsimp only[aj]);conv=>whnf
 refine ⟨⟨_,_,.freeze 4 2 _ _ _ _ _ _ rfl rfl ?_ (.refl _ _),?_⟩⟩
 ·rw [List.length_map]; omega
 conv=>whnf
 refine ⟨?_,rfl,by simp [nextId],.mk ?_ (by simp [ay])⟩
 ·repeat' first|exact rfl|exact trivial|exact wR|exact lR _|apply aI
  all_goals first | (refine aY ?_; rw [List.drop_zero,List.take_of_length_le (by rw [List.length_map]; omega)]) | skip
 ·all_goals exact wk

theorem Gf (f : Fo) (h : xY f) (y n : Nat) (hy : y < 2 ^ 24) (hn : n < 2 ^ 24) : aA Tryz.prog 107 [f.av,P6 y n] [] (.int .i64 (tri f y n)) []:=by
 have cv:=Oe f h y n hy hn
 have hwl:=Vo f y n f.nodes.length (Nat.le_refl _)
 have h1:=h.vars
 have h2:=h.len
 have h4:=h.top
 have co:=ZX f h1 (wT f y n f.nodes.length) y n f.top.toNat hy hn (by omega) (by omega)
 rw [ofT_w f y n f.nodes.length f.top.toNat (Nat.le_refl _) (by omega),List.take_length,show ((f.top.toNat : Nat) : Int) = f.top by omega] at co
 unfold tri
 refine aA.intro lay mixed Tryz.func107 (by kernel_rfl) rfl (by kernel_rfl) rfl fun hok=>?_
 (try dsimp only[aZ,aN]);(try dsimp only[aj]);conv=>whnf
 (refine aS.Zr [0,1] (by kernel_rfl) ?_; (conv=>whnf); (repeat (refine And.intro ⟨rfl,rfl⟩ ?_; (conv=>whnf))))
 refine fO.pure _ _ ?_ ⟨rfl,rfl⟩ cv ?_
 ·exact ak _
 conv=>whnf
 refine fO.pure _ _ ?_ ⟨rfl,rfl⟩ co ?_
 ·exact ak _
 conv=>whnf
 refine fM ?_;(conv=>whnf);refine ⟨?_,rfl⟩;conv=>whnf
 all_goals exact wk



theorem JL {r : Rat} (w1 : Ws r.num) (w2 : Ws r.den) (l1 : r.num.length <= 100000) (l2 : r.den.length <= 100000) : (wd (aT r).2.1).length <= 100000 /\ (wd (aT r).2.2).length <= 100000:=by
 by_cases h : valid r = true /\ r.num ≠ []
 ·have hp : aT r = (r.neg,val r.num,val r.den):=if_pos h
  obtain ⟨h1,h2⟩:=h
  unfold valid at h1
  rw [if_neg (fun h=>h2 h.1)] at h1
  simp only [Bool.and_eq_true] at h1
  obtain ⟨e1,_⟩:=qW h1.1.1 w1
  obtain ⟨e2,n2⟩:=qW h1.1.2 w2
  rw [hp,show wd (r.neg,val r.num,val r.den).2.1 = r.num from e1,show wd (r.neg,val r.num,val r.den).2.2 = r.den from e2]
  exact ⟨l1,l2⟩
 ·have hp : aT r = (false,0,1):=if_neg h
  have e1 : wd 1 = [1]:=oM (by omega) (by omega)
  rw [hp,show wd ((false,0,1) : Bool × Nat × Nat).2.1 = [] from iC,show wd ((false,0,1) : Bool × Nat × Nat).2.2 = [1] from e1]
  simp

theorem RQ (a b : List Int) : aA Tryz.prog 64 [wL a,wL b] [] (.bool (decide (a = b))) []:=by
 refine aA.intro lay mixed Tryz.func64 (by kernel_rfl) rfl (by kernel_rfl) rfl fun hok=>?_
 have ha : a.length <= 9223372036854775807:=by simpa [yR,Ok,maxL] using hok.1.1
 (try dsimp only[aZ,aN]);(try dsimp only[aj]);conv=>whnf
 refine And.intro (fun h=>?_) (fun h=>?_)
 ·have h : a ≠ b:=by intro e; apply h; rw [e]
  conv=>whnf
  refine fM ?_;(conv=>whnf);refine ⟨?_,rfl⟩;conv=>whnf
  simpa using h
 have h : a.length = b.length:=by simp only [List.length_map] at h; omega
 (try dsimp only[aj]);conv=>whnf
 refine aK.of <| aC.inv (.refl _ _) (fun (i : Nat)=>i <= a.length /\ (a = b ↔ a.drop i = b.drop i)) (fun (i : Nat)=>[(13,.int .i64 i)]) (fun _=>_) (fun (i : Nat)=>a.length - i) 0 ?_ (fun _=>rfl) ?_ ?_
 ·exact ⟨Nat.zero_le _,by simp⟩
 ·all_goals exact wk
 rintro i ⟨hi,hx⟩ _
 (try dsimp only[aj]);conv=>whnf
 refine And.intro (fun h1=>?_) (fun h1=>?_)
 ·have hlt : i < a.length:=by simpa using h1
  have hlt2 : i < b.length:=by omega
  rw [List.drop_eq_getElem_cons hlt,List.drop_eq_getElem_cons hlt2] at hx
  (try dsimp only[aj]);conv=>whnf
  refine aS.auto (by kernel_rfl) ?_;conv=>whnf
  refine jq hlt ?_
  (try dsimp only[aj]);conv=>whnf
  refine jq hlt2 ?_
  (try dsimp only[aj]);conv=>whnf
  refine And.intro (fun h2=>?_) (fun h2=>?_)
  ·(try dsimp only[aj]);conv=>whnf
   refine fM ?_;(conv=>whnf);refine ⟨?_,rfl⟩;conv=>whnf
   have : ¬ a = b:=fun e=>h2 (by simpa using (List.cons.inj (hx.1 e)).1)
   simpa using this
  ·have h2 : a[i] = b[i]:=by simpa using h2
   (try dsimp only[aj]);conv=>whnf
   refine zA ?_;conv=>whnf
   refine ⟨i + 1,?_,?_,?_⟩
   ·refine ⟨hlt,?_⟩
    rw [hx,h2]
    exact ⟨fun e=>(List.cons.inj e).2,fun e=>by rw [e]⟩
   ·all_goals exact wk
   ·omega
 ·have hil : i = a.length:=by have : ¬ i < a.length:=by simpa using h1
                              omega
  (try dsimp only[aj]);conv=>whnf
  refine fM ?_;(conv=>whnf);refine ⟨?_,rfl⟩;conv=>whnf
  have : a = b:=hx.2 (by rw [hil,List.drop_length,h,List.drop_length])
  simpa using this

theorem ZV (a b : Rat) : aA Tryz.prog 20 [a.av,b.av] [] (.bool (decide (a = b))) []:=by
 have c1:=RQ a.num b.num
 have c2:=RQ a.den b.den
 have e : a = b ↔ a.neg = b.neg /\ a.num = b.num /\ a.den = b.den:=by cases a; cases b; simp
 refine aA.intro lay mixed Tryz.func20 (by kernel_rfl) rfl (by kernel_rfl) rfl fun hok=>?_
 (try dsimp only[aZ,aN]);(try dsimp only[aj]);conv=>whnf
 refine And.intro (fun h1=>?_) (fun h1=>?_)
 ·(try dsimp only[aj]);conv=>whnf
  refine .pure _ _ ?_ ⟨rfl,rfl⟩ c1 fun _=>?_
  ·exact ak _
  (try dsimp only[aj]);conv=>whnf
  refine And.intro (fun h2=>?_) (fun h2=>?_)
  ·have h2 : a.num = b.num:=by simpa using h2
   (try dsimp only[aj]);conv=>whnf
   refine .pure _ _ ?_ ⟨rfl,rfl⟩ c2 fun _=>?_
   ·exact ak _
   (try dsimp only[aj]);conv=>whnf
   refine fM ?_;(conv=>whnf);refine ⟨?_,rfl⟩;conv=>whnf
   simp [e,h1,h2]
  ·have h2 : ¬ a.num = b.num:=by simpa using h2
   (try dsimp only[aj]);conv=>whnf
   refine fM ?_;(conv=>whnf);refine ⟨?_,rfl⟩;conv=>whnf
   simp [e,h2]
 ·(try dsimp only[aj]);conv=>whnf
  refine fM ?_;(conv=>whnf);refine ⟨?_,rfl⟩;conv=>whnf
  simp [e,h1]


theorem c_Num (e : Int) : aA Tryz.prog 16 [rF e] [] (.int .i64 e) []:=by
 by_cases h0 : e = 0
 ·subst h0
  rw [eU]
  refine aA.intro lay mixed Tryz.func16 (by kernel_rfl) rfl (by kernel_rfl) rfl fun hok=>?_
  (try dsimp only[aZ,aN]);(try dsimp only[aj]);conv=>whnf
  refine fM ?_;(conv=>whnf);refine ⟨?_,rfl⟩;conv=>whnf
  all_goals exact wk
 ·rw [gq h0]
  refine aA.intro lay mixed Tryz.func16 (by kernel_rfl) rfl (by kernel_rfl) rfl fun hok=>?_
  (try dsimp only[aZ,aN]);(try dsimp only[aj]);conv=>whnf
  refine fM ?_;(conv=>whnf);refine ⟨?_,rfl⟩;conv=>whnf
  all_goals exact wk


theorem O6 {p x y c s va vb D : Nat} (hD : x + y + c = D) (h : s + p * c = va + vb) : s + p * (D % 4294967296) + p * 4294967296 * (D / 4294967296) = va + p * x + (vb + p * y):=by
 have e : D = D % 4294967296 + 4294967296 * (D / 4294967296):=(Nat.mod_add_div _ _).symm
 have e2 : p * D = p * (D % 4294967296) + p * (4294967296 * (D / 4294967296)):=by rw [<- Nat.mul_add,<- e]
 have e3 : p * D = p * x + p * y + p * c:=by rw [<- hD,Nat.mul_add,Nat.mul_add]
 rw [<- Nat.mul_assoc] at e2
 omega

theorem VN {B m la lb a b s c : Nat} (hB : 2 <= B) (ha : a < B ^ la) (hb : b < B ^ lb) (hla : la < m) (hlb : lb < m) (h : s + B ^ m * c = a + b) : s = a + b:=by
 have h1 : B ^ la <= B ^ (m - 1):=Nat.pow_le_pow_right (by omega) (by omega)
 have h2 : B ^ lb <= B ^ (m - 1):=Nat.pow_le_pow_right (by omega) (by omega)
 have h3 : B ^ m = B ^ (m - 1) * B:=by rw [<- Nat.pow_succ]; congr 1; omega
 have h4 : B ^ (m - 1) * 2 <= B ^ (m - 1) * B:=Nat.mul_le_mul_left _ hB
 cases c with
 | zero=>simpa using h
 | succ c =>
   exfalso
   have h5 : B ^ m * 1 <= B ^ m * (c + 1):=Nat.mul_le_mul_left _ (by omega)
   rw [h3] at h5 h
   omega

def negR (a : Rat) : Rat:=nS (!(aT a).1) (aT a).2.1 (aT a).2.2

def VD (s t : Bool) (x y d : Nat) : Rat:=if s = t then nS s (x + y) d else if x < y then nS t (y - x) d else nS s (x - y) d

def Yi (a b : Rat) : Rat:=VD (aT a).1 (aT b).1 ((aT a).2.1 * (aT b).2.2) ((aT b).2.1 * (aT a).2.2) ((aT a).2.2 * (aT b).2.2)


theorem Ea {x y k : Nat} (hx : (wd x).length <= k) (hy : (wd y).length <= k) : (wd (x + y)).length <= k + 1:=by
 refine lT ?_
 have h1:=fF (mJ x)
 have h2:=fF (mJ y)
 rw [bD] at h1 h2
 have h3 : 4294967296 ^ (wd x).length <= 4294967296 ^ k:=Nat.pow_le_pow_right (by omega) hx
 have h4 : 4294967296 ^ (wd y).length <= 4294967296 ^ k:=Nat.pow_le_pow_right (by omega) hy
 rw [Nat.pow_succ]
 generalize 4294967296 ^ k = p at *
 generalize 4294967296 ^ (wd x).length = q at *
 generalize 4294967296 ^ (wd y).length = r at *
 omega



abbrev QQ:=_root_.Rat

def Dk (s : Bool) (n : Nat) : Int:=if s = true then -(n : Int) else n

def fQ (q : QQ) : Rat:=if q.num = 0 then ⟨false,[],[]⟩ else ⟨decide (q.num < 0),wd q.num.natAbs,wd q.den⟩

theorem Q5 (s : Bool) (n : Nat) : (Dk s n).natAbs = n:=by cases s <;> simp [Dk]
theorem yZ (z : Int) : Dk (decide (z < 0)) z.natAbs = z:=by
 unfold Dk
 by_cases h : z < 0
 ·rw [if_pos (by simpa using h)]; omega
 ·rw [if_neg (by simpa using h)]; omega

theorem mQ (s : Bool) (n d : Nat) (hd : d ≠ 0) : nS s n d = fQ (mkRat (Dk s n) d):=by
 have e1:=Rat.num_mkRat (Dk s n) d
 have e2:=Rat.den_mkRat (Dk s n) d
 rw [if_neg hd,Q5] at e1 e2
 unfold fQ nS
 rw [e1,e2]
 have hgd : d.gcd n ∣ n:=Nat.gcd_dvd_right d n
 have hgp : 0 < d.gcd n:=Nat.gcd_pos_of_pos_left n (by omega)
 have hge : n.gcd d = d.gcd n:=Nat.gcd_comm n d
 rw [hge]
 generalize d.gcd n = g at *
 have ediv : (Dk s n) / (g : Int) = Dk s (n / g):=by
  cases s
  ·show (n : Int) / (g : Int) = ((n / g : Nat) : Int)
   exact (Int.natCast_ediv n g).symm
  ·show -(n : Int) / (g : Int) = -((n / g : Nat) : Int)
   rw [Int.natCast_ediv]
   exact Int.neg_ediv_of_dvd (by obtain ⟨c,rfl⟩:=hgd; exact ⟨(c : Int),by simp⟩)
 rw [ediv,Q5]
 by_cases hz : n = 0
 ·subst hz
  rw [if_pos rfl,if_pos (by cases s <;> simp [Dk])]
 ·have hq : 0 < n / g:=Nat.div_pos (Nat.le_of_dvd (by omega) hgd) hgp
  rw [if_neg hz,if_neg (by cases s <;> simp [Dk] <;> omega)]
  congr 1
  generalize n / g = m at *
  cases s
  ·symm; simp [Dk];
  ·symm; simp [Dk]; omega

theorem MJ {n : Nat} (h : n ≠ 0) : lI (wd n) = true:=by
 induction n using Nat.strongRecOn with
 | _ n ih =>
   rw [kM h]
   by_cases h2 : n / 4294967296 = 0
   ·rw [h2,iC]
    simp [lI]
    omega
   ·have:=ih _ (Nat.div_lt_self (by omega) (by omega)) h2
    generalize wd (n / 4294967296) = l at *
    simp only [lI,Bool.and_eq_true,decide_eq_true_eq] at this ⊢
    refine ⟨by simp,?_⟩
    cases l with
    | nil=>exact absurd rfl this.1
    | cons x l=>simpa [List.getLastD] using this.2

theorem qX (q : QQ) : aT (fQ q) = (decide (q.num < 0),q.num.natAbs,q.den):=by
 by_cases h : q.num = 0
 ·have e : fQ q = ⟨false,[],[]⟩:=if_pos h
  have hd : q.den = 1:=by
   have:=q.reduced
   rw [h] at this
   simpa using this
  rw [e,h,hd]; rfl
 ·have e : fQ q = ⟨decide (q.num < 0),wd q.num.natAbs,wd q.den⟩:=if_neg h
  have hn : q.num.natAbs ≠ 0:=by omega
  have hne : wd q.num.natAbs ≠ []:=by rw [kM hn]; simp
  rw [e]
  unfold aT
  have hv : valid ⟨decide (q.num < 0),wd q.num.natAbs,wd q.den⟩ = true:=by
   unfold valid
   rw [if_neg (fun h=>hne h.1)]
   dsimp only
   rw [MJ hn,MJ q.den_nz,bD,bD]
   simpa using q.reduced
  rw [if_pos ⟨hv,hne⟩]
  dsimp only
  rw [bD,bD]

theorem Ze (p q : QQ) : mulR (fQ p) (fQ q) = fQ (p * q):=by
 unfold mulR
 rw [qX,qX]
 dsimp only
 rw [mQ _ _ _ (Nat.mul_ne_zero p.den_nz q.den_nz)]
 congr 1
 rw [<- Rat.mkRat_self p,<- Rat.mkRat_self q,Rat.mkRat_mul_mkRat,Rat.mkRat_self,Rat.mkRat_self]
 congr 1
 rw [<- Int.natAbs_mul]
 have h1:=yZ p.num
 have h2:=yZ q.num
 conv=>rhs; rw [<- h1,<- h2]
 rw [Int.natAbs_mul]
 generalize decide (p.num < 0) = s
 generalize decide (q.num < 0) = t
 cases s <;> cases t <;> simp [Dk] <;> grind

theorem YR (s t : Bool) (x y d : Nat) (hd : d ≠ 0) : VD s t x y d = fQ (mkRat (Dk s x + Dk t y) d):=by
 unfold VD
 split
 ·rename_i h
  subst h
  rw [mQ _ _ _ hd]
  congr 2
  cases s <;> simp [Dk]; omega
 ·rename_i h
  split
  ·rename_i hl
   rw [mQ _ _ _ hd]
   congr 2
   cases s <;> cases t <;> simp [Dk] at h ⊢ <;> omega
  ·rename_i hl
   rw [mQ _ _ _ hd]
   congr 2
   cases s <;> cases t <;> simp [Dk] at h ⊢ <;> omega

theorem add_can (p q : QQ) : Yi (fQ p) (fQ q) = fQ (p + q):=by
 unfold Yi
 rw [qX,qX]
 dsimp only
 rw [YR _ _ _ _ _ (Nat.mul_ne_zero p.den_nz q.den_nz)]
 congr 1
 conv=>rhs; rw [<- Rat.mkRat_self p,<- Rat.mkRat_self q]
 rw [Rat.mkRat_add_mkRat _ _ p.den_nz q.den_nz]
 congr 1
 have h1:=yZ p.num
 have h2:=yZ q.num
 conv=>rhs; rw [<- h1,<- h2]
 generalize decide (p.num < 0) = s
 generalize decide (q.num < 0) = t
 generalize p.num.natAbs = a
 generalize q.num.natAbs = b
 cases s <;> cases t <;> simp [Dk] <;> grind

theorem Zc (p : QQ) : negR (fQ p) = fQ (-p):=by
 unfold negR
 rw [qX]
 dsimp only
 rw [mQ _ _ _ p.den_nz]
 congr 1
 conv=>rhs; rw [<- Rat.mkRat_self p,Rat.neg_mkRat]
 congr 1
 have h1:=yZ p.num
 conv=>rhs; rw [<- h1]
 generalize decide (p.num < 0) = s
 cases s <;> simp [Dk]

def qv (r : Rat) : QQ:=mkRat (Dk r.neg (val r.num)) (val r.den)

theorem Tf {r : Rat} (h : valid r = true) (w1 : Ws r.num) (w2 : Ws r.den) : r = fQ (qv r):=by
 obtain ⟨neg,num,den⟩:=r
 dsimp only at w1 w2
 unfold valid at h
 split at h
 ·rename_i e
  dsimp only at e h
  obtain ⟨rfl,rfl⟩:=e
  have : neg = false:=by simpa using h
  subst this
  rfl
 ·simp only [Bool.and_eq_true,decide_eq_true_eq] at h
  obtain ⟨⟨h1,h2⟩,h3⟩:=h
  obtain ⟨e1,n1⟩:=qW h1 w1
  obtain ⟨e2,n2⟩:=qW h2 w2
  dsimp only at *
  have:=mQ neg (val num) (val den) n2
  unfold qv
  rw [<- this]
  unfold nS
  rw [if_neg n1,h3,Nat.div_one,Nat.div_one,e1,e2]

def Sz (q : QQ) (k : Nat) : Prop:=(wd q.num.natAbs).length <= k /\ (wd q.den).length <= k

theorem Sz.mono {q : QQ} {k l : Nat} (h : Sz q k) (hl : k <= l) : Sz q l:=⟨by have:=h.1; omega,by have:=h.2; omega⟩
theorem Sz.neg {q : QQ} {k : Nat} (h : Sz q k) : Sz (-q) k:=by
 unfold Sz
 rw [Rat.neg_num,Rat.neg_den,Int.natAbs_neg]; exact h

theorem Sz_mk {z : Int} {d k : Nat} (hd : d ≠ 0) (h1 : (wd z.natAbs).length <= k) (h2 : (wd d).length <= k) : Sz (mkRat z d) k:=by
 unfold Sz
 rw [Rat.num_mkRat,Rat.den_mkRat,if_neg hd,if_neg hd]
 have hg : 0 < d.gcd z.natAbs:=Nat.gcd_pos_of_pos_left _ (by omega)
 generalize d.gcd z.natAbs = g at *
 refine ⟨Nat.le_trans (dX ?_) h1,Nat.le_trans (dX (Nat.div_le_self d g)) h2⟩
 have:=Int.natAbs_ediv_le_natAbs z (g : Int)
 exact this

theorem Sz.mul {p q : QQ} {k l : Nat} (hp : Sz p k) (hq : Sz q l) : Sz (p * q) (k + l):=by
 rw [<- Rat.mkRat_self p,<- Rat.mkRat_self q,Rat.mkRat_mul_mkRat]
 refine Sz_mk (Nat.mul_ne_zero p.den_nz q.den_nz) ?_ (jg hp.2 hq.2)
 rw [Int.natAbs_mul]
 exact jg hp.1 hq.1

theorem Sz.add {p q : QQ} {k l : Nat} (hp : Sz p k) (hq : Sz q l) : Sz (p + q) (k + l + 1):=by
 rw [<- Rat.mkRat_self p,<- Rat.mkRat_self q,Rat.mkRat_add_mkRat _ _ p.den_nz q.den_nz]
 have h1:=jg hp.1 hq.2
 have h2:=jg hq.1 hp.2
 refine Sz_mk (Nat.mul_ne_zero p.den_nz q.den_nz) ?_ (by have:=jg hp.2 hq.2; omega)
 refine Nat.le_trans (dX (y:=p.num.natAbs * q.den + q.num.natAbs * p.den) ?_) (Ea h1 (by omega))
 refine Nat.le_trans (Int.natAbs_add_le _ _) ?_
 rw [Int.natAbs_mul,Int.natAbs_mul]
 simp

theorem G6 {q : QQ} {k : Nat} (h : Sz q k) : (fQ q).num.length <= k /\ (fQ q).den.length <= k:=by
 unfold fQ
 split
 ·exact ⟨Nat.zero_le _,Nat.zero_le _⟩
 ·exact h

theorem IG {s : List Int} {i m : Nat} {d : Int} (h : s.length = i) (hi : i < m) : (s ++ List.replicate (m - i) 0).set i d = (s ++ [d]) ++ List.replicate (m - (i + 1)) 0:=by
 obtain ⟨k,hk⟩ : ∃ k,m - i = k + 1:=⟨m - i - 1,by omega⟩
 rw [hk,show m - (i + 1) = k by omega,List.set_append_right _ _ (by omega),h,Nat.sub_self,List.append_assoc]
 rfl

theorem c_nAdd (a b : List Int) (ha : a.length <= 900000) (hb : b.length <= 900000) : aA Tryz.prog 240 [wL a,wL b] [] (wL (wd (val a + val b))) []:=by
 refine aA.intro lay mixed Tryz.func240 (by kernel_rfl) rfl (by kernel_rfl) rfl fun hok=>?_
 have wa : Ws a:=Ws.ok hok.1.2
 have wb : Ws b:=Ws.ok hok.2.1.2
 (try dsimp only[aZ,aN]);(try dsimp only[aj]);conv=>whnf
 obtain ⟨m,hm⟩ : ∃ m,max a.length b.length + 1 = m:=⟨_,rfl⟩
 have em : max (((a.map (AV.int .u32)).length : Nat) : Int) (((b.map (AV.int .u32)).length : Nat) : Int) + 1 = (m : Int):=by simp only [List.length_map]; omega
 refine And.intro (by rw [em]; exact bC (by omega) (by omega)) ?_
 rw [em]
 conv=>whnf
 refine ⟨⟨by omega,by omega,by simp; omega,by omega⟩,.wr ?_⟩
 conv=>whnf
 refine aK.of <| aC.inv (.refl _ _) (fun x : Nat × Nat × List Int=>x.1 <= m /\ x.2.1 <= 1 /\ Ws x.2.2 /\ x.2.2.length = x.1 /\ val x.2.2 + 4294967296 ^ x.1 * x.2.1 = val (a.take x.1) + val (b.take x.1))
  (fun | (i,c,s)=>[(17,.int .i64 i),(6,.int .u64 c)]) (fun | (i,_,s)=>[(0,.arr 1 m ((s ++ List.replicate (m - i) 0).map (.int .u32)))])
  (fun x=>m - x.1) (0,0,[]) ?_ (fun _=>rfl) ?_ ?_
 ·exact ⟨Nat.zero_le _,by simp,Ws.nil,rfl,by simp [val]⟩
 ·refine ⟨?_,.mk ?_ ⟨by simp,trivial⟩⟩
  ·all_goals exact wk
  ·repeat' first|exact rfl|exact trivial|exact wR|exact lR _|apply aI
   all_goals first | (show dK (List.replicate _ _) (List.map _ ([] ++ List.replicate _ 0)); rw [List.nil_append,List.map_replicate]; exact aB _) | skip
 rintro ⟨i,c,s⟩ ⟨hi,hc,hws,hsl,hv⟩ _
 simp only at hi hc hws hsl hv
 (try dsimp only[aj]);conv=>whnf
 refine And.intro (fun h=>?_) (fun h=>?_)
 ·have hlt : i < m:=by omega
  have ca:=vK a i
  have cb:=vK b i
  have hva:=bP (l:=a) (i:=i)
  have hvb:=bP (l:=b) (i:=i)
  have hxa:=wa.getD (i:=i)
  have hxb:=wb.getD (i:=i)
  generalize a.getD i 0 = x0 at *
  generalize b.getD i 0 = y0 at *
  obtain ⟨x,rfl⟩ : ∃ x : Nat,x0 = x:=⟨x0.toNat,by omega⟩
  obtain ⟨w,rfl⟩ : ∃ x : Nat,y0 = x:=⟨y0.toNat,by omega⟩
  rw [Int.toNat_natCast] at hva hvb
  (try dsimp only[aj]);conv=>whnf
  refine .gen _ _ (aA.fB ca (ak _) ⟨rfl,rfl⟩) fun _=>?_
  (try dsimp only[aj]);conv=>whnf
  refine .gen _ _ (aA.fB cb (ak _) ⟨rfl,rfl⟩) fun _=>?_
  conv=>whnf
  rw [show ((x : Int) + (w : Int)) = ((x + w : Nat) : Int) from (Int.natCast_add x w).symm,wrap_u64 (n:=((x + w : Nat) : Int)) (by omega) (by omega)]
  rw [show ((c : Int) + ((x + w : Nat) : Int)) = ((x + w + c : Nat) : Int) by omega,wrap_u64 (n:=((x + w + c : Nat) : Int)) (by omega) (by omega)]
  obtain ⟨D,hD⟩ : ∃ D,x + w + c = D:=⟨_,rfl⟩
  rw [hD]
  conv=>whnf
  rw [dW (a:=D)]
  refine ⟨⟨by omega,by omega⟩,?_⟩
  conv=>whnf
  refine ⟨by rw [List.length_map,List.length_append,List.length_replicate]; omega,rfl,?_⟩
  conv=>whnf
  refine ⟨by decide,?_⟩
  rw [mM rfl]
  conv=>whnf
  refine zA ?_;conv=>whnf
  refine ⟨(i + 1,D / 4294967296,s ++ [((D % 4294967296 : Nat) : Int)]),?_,?_,?_⟩
  ·refine ⟨hlt,(by omega : D / 4294967296 <= 1),hws.append (Ws.cons (by omega) Ws.nil),by simp [hsl],?_⟩
   show val (s ++ [((D % 4294967296 : Nat) : Int)]) + 4294967296 ^ (i + 1) * (D / 4294967296) = val (a.take (i + 1)) + val (b.take (i + 1))
   have e1 : val (s ++ [((D % 4294967296 : Nat) : Int)]) = val s + 4294967296 ^ i * (D % 4294967296):=by
    rw [val_append,hsl]
    show _ + _ * ((((D % 4294967296 : Nat) : Int)).toNat + 4294967296 * 0) = _
    rw [Int.toNat_natCast]; rfl
   rw [hva,hvb,e1,Nat.pow_succ]
   exact O6 hD hv
  ·refine ⟨?_,.mk ?_ ⟨by simp,trivial⟩⟩
   ·all_goals exact wk
   ·repeat' first|exact rfl|exact trivial|exact wR|exact lR _|apply aI
    all_goals (refine aY ?_; rw [<- IG hsl hlt,List.map_set,Nat.zero_add,Int.toNat_natCast]; rfl)
  ·show m - (i + 1) < m - i
   omega
 ·have hil : i = m:=by omega
  subst hil
  rw [List.take_of_length_le (by omega),List.take_of_length_le (by omega)] at hv
  have hfin : val s = val a + val b:=VN (by omega) (fF wa) (fF wb) (by omega) (by omega) hv
  have ct:=kU s (by omega)
  rw [hfin] at ct
  (try dsimp only[aj]);conv=>whnf
  refine .gen _ _ (aA.PU 0 rfl rfl (by simp; omega) (aA.fB ct ?_ ⟨rfl,rfl⟩)) fun _=>?_
  ·repeat' first|exact rfl|exact trivial|exact wR|exact lR _|apply aI
   all_goals (refine aY ?_; rw [Nat.sub_self,List.replicate_zero,List.append_nil,List.drop_zero,List.take_of_length_le (by simp; omega)])
  (try dsimp only[aj]);conv=>whnf
  refine fM ?_;(conv=>whnf);refine ⟨?_,rfl⟩;conv=>whnf
  all_goals exact wk

theorem X0 (a b : List Int) (ha : a.length <= 1000000) (hb : b.length <= 1000000) (hge : val b <= val a) : aA Tryz.prog 241 [wL a,wL b] [] (.eG [wL (wd (val a - val b)),.eP]) []:=by
 refine aA.intro lay mixed Tryz.func241 (by kernel_rfl) rfl (by kernel_rfl) rfl fun hok=>?_
 have wa : Ws a:=Ws.ok hok.1.2
 have wb : Ws b:=Ws.ok hok.2.1.2
 (try dsimp only[aZ,aN]);(try dsimp only[aj]);conv=>whnf
 refine .pure _ _ ?_ ⟨rfl,rfl⟩ (Jp a b (by omega) (by omega)) fun _=>?_
 ·exact ak _
 conv=>whnf
 refine And.intro (fun h=>?_) (fun h=>?_)
 ·exfalso
  unfold oh at h
  rw [if_neg (by omega)] at h
  split at h <;> omega
 conv=>whnf
 rw [List.length_map]
 refine ⟨⟨by omega,by omega,by simp; omega,by omega⟩,.wr ?_⟩
 conv=>whnf
 refine aK.of <| aC.inv (.refl _ _) (fun x : Nat × Nat × List Int=>x.1 <= a.length /\ x.2.1 <= 1 /\ Ws x.2.2 /\ x.2.2.length = x.1 /\ val (a.take x.1) + 4294967296 ^ x.1 * x.2.1 = val x.2.2 + val (b.take x.1))
  (fun | (i,b,s)=>[(20,.int .i64 i),(7,.int .u64 b)]) (fun | (i,_,s)=>[(0,.arr 1 a.length ((s ++ List.replicate (a.length - i) 0).map (.int .u32)))])
  (fun x=>a.length - x.1) (0,0,[]) ?_ (fun _=>rfl) ?_ ?_
 ·exact ⟨Nat.zero_le _,by simp,Ws.nil,rfl,by simp [val]⟩
 ·refine ⟨?_,.mk ?_ ⟨by simp,trivial⟩⟩
  ·all_goals exact wk
  ·repeat' first|exact rfl|exact trivial|exact wR|exact lR _|apply aI
   all_goals first | (show dK (List.replicate _ _) (List.map _ ([] ++ List.replicate _ 0)); rw [List.nil_append,List.map_replicate]; exact aB _) | skip
 rintro ⟨i,bo,s⟩ ⟨hi,hbo,hws,hsl,hv⟩ _
 simp only at hi hbo hws hsl hv
 (try dsimp only[aj]);conv=>whnf
 refine And.intro (fun h=>?_) (fun h=>?_)
 ·have hlt : i < a.length:=by omega
  have ca:=vK a i
  have cb:=vK b i
  have hva:=bP (l:=a) (i:=i)
  have hvb:=bP (l:=b) (i:=i)
  have hxa:=wa.getD (i:=i)
  have hxb:=wb.getD (i:=i)
  generalize a.getD i 0 = x0 at *
  generalize b.getD i 0 = y0 at *
  obtain ⟨x,rfl⟩ : ∃ x : Nat,x0 = x:=⟨x0.toNat,by omega⟩
  obtain ⟨w,rfl⟩ : ∃ x : Nat,y0 = x:=⟨y0.toNat,by omega⟩
  rw [Int.toNat_natCast] at hva hvb
  (try dsimp only[aj]);conv=>whnf
  refine .gen _ _ (aA.fB ca (ak _) ⟨rfl,rfl⟩) fun _=>?_
  (try dsimp only[aj]);conv=>whnf
  refine .gen _ _ (aA.fB cb (ak _) ⟨rfl,rfl⟩) fun _=>?_
  conv=>whnf
  obtain ⟨D,hD,hD1,hD2,hD3⟩:=En (x:=x) (low:=w) (b:=bo) (by omega) (by omega) hbo
  rw [hD]
  conv=>whnf
  rw [dW (a:=D)]
  have hy : D % 4294967296 < 4294967296:=Nat.mod_lt _ (by decide)
  generalize D % 4294967296 = y at *
  refine ⟨⟨by omega,by omega⟩,?_⟩
  conv=>whnf
  refine ⟨by rw [List.length_map,List.length_append,List.length_replicate]; omega,rfl,?_⟩
  conv=>whnf
  refine ⟨by decide,?_⟩
  rw [O4]
  conv=>whnf
  refine zA ?_;conv=>whnf
  refine ⟨(i + 1,D / 9223372036854775808,s ++ [(y : Int)]),?_,?_,?_⟩
  ·refine ⟨hlt,hD2,hws.append (Ws.cons (by omega) Ws.nil),by simp [hsl],?_⟩
   show val (a.take (i + 1)) + 4294967296 ^ (i + 1) * (D / 9223372036854775808) = val (s ++ [(y : Int)]) + val (b.take (i + 1))
   have e1 : val (s ++ [(y : Int)]) = val s + 4294967296 ^ i * y:=by rw [val_append,hsl]; simp [val]
   rw [hva,hvb,e1,Nat.pow_succ]
   exact Ey hD3 hv
  ·refine ⟨?_,.mk ?_ ⟨by simp,trivial⟩⟩
   ·all_goals exact wk
   ·repeat' first|exact rfl|exact trivial|exact wR|exact lR _|apply aI
    all_goals (refine aY ?_; rw [<- IG hsl hlt,List.map_set,Nat.zero_add,Int.toNat_natCast]; rfl)
  ·show a.length - (i + 1) < a.length - i
   omega
 ·have hil : i = a.length:=by omega
  subst hil
  rw [List.take_length] at hv
  have hva:=fF wa
  rw [BX (by omega)] at hv
  have hvs:=fF hws
  rw [hsl] at hvs
  have hfin : val s = val a - val b:=by
   have hb2 : bo = 0 \/ bo = 1:=by omega
   rcases hb2 with rfl | rfl
   ·omega
   ·omega
  have ct:=kU s (by omega)
  rw [hfin] at ct
  (try dsimp only[aj]);conv=>whnf
  refine .gen _ _ (aA.PU 0 rfl rfl (by simp; omega) (aA.fB ct ?_ ⟨rfl,rfl⟩)) fun _=>?_
  ·repeat' first|exact rfl|exact trivial|exact wR|exact lR _|apply aI
   all_goals (refine aY ?_; rw [Nat.sub_self,List.replicate_zero,List.append_nil,List.drop_zero,List.take_of_length_le (by simp; omega)])
  (try dsimp only[aj]);conv=>whnf
  refine fM ?_;(conv=>whnf);refine ⟨?_,rfl⟩;conv=>whnf
  all_goals exact wk

theorem c_pNeg (a : Rat) (a1 : a.num.length <= 100000) (a2 : a.den.length <= 100000) : aA Tryz.prog 147 [a.av] [] (negR a).av []:=by
 have ca:=xk a (Ba a (by omega) (by omega)).v
 refine aA.intro lay mixed Tryz.func147 (by kernel_rfl) rfl (by kernel_rfl) rfl fun hok=>?_
 have pa:=zl (nP hok).1 (nP hok).2 (by omega) (by omega)
 have qa:=JL (nP hok).1 (nP hok).2 a1 a2
 rw [pa.eq] at ca
 have cf:=BF (!(aT a).1) (aT a).2.1 (aT a).2.2 (by omega) (by omega) pa.den
 have hm : negR a = nS (!(aT a).1) (aT a).2.1 (aT a).2.2:=rfl
 rw [<- hm] at cf
 generalize negR a = R at *
 (try dsimp only[aZ,aN]);(try dsimp only[aj]);conv=>whnf
 refine .pure _ _ ?_ ⟨rfl,rfl⟩ ca fun _=>?_
 ·exact ak _
 (try dsimp only[aj]);conv=>whnf
 refine .pure _ _ ?_ ⟨rfl,rfl⟩ cf fun _=>?_
 ·all_goals exact wk
 (try dsimp only[aj]);conv=>whnf
 refine fM ?_;(conv=>whnf);refine ⟨?_,rfl⟩;conv=>whnf
 all_goals exact wk

theorem c_pAdd (a b : Rat) (a1 : a.num.length <= 100000) (a2 : a.den.length <= 100000) (b1 : b.num.length <= 100000) (b2 : b.den.length <= 100000) : aA Tryz.prog 146 [a.av,b.av] [] (Yi a b).av []:=by
 have ca:=xk a (Ba a (by omega) (by omega)).v
 have cb:=xk b (Ba b (by omega) (by omega)).v
 refine aA.intro lay mixed Tryz.func146 (by kernel_rfl) rfl (by kernel_rfl) rfl fun hok=>?_
 have pa:=zl (nP hok).1 (nP hok).2 (by omega) (by omega)
 have pb:=zl (nP hok.2).1 (nP hok.2).2 (by omega) (by omega)
 have qa:=JL (nP hok).1 (nP hok).2 a1 a2
 have qb:=JL (nP hok.2).1 (nP hok.2).2 b1 b2
 rw [pa.eq] at ca
 rw [pb.eq] at cb
 have hR : Yi a b = VD (aT a).1 (aT b).1 ((aT a).2.1 * (aT b).2.2) ((aT b).2.1 * (aT a).2.2) ((aT a).2.2 * (aT b).2.2):=rfl
 have m1:=Gh (wd (aT a).2.1) (wd (aT b).2.2) pa.ln pb.ld
 have m2:=Gh (wd (aT b).2.1) (wd (aT a).2.2) pb.ln pa.ld
 have m3:=Gh (wd (aT a).2.2) (wd (aT b).2.2) pa.ld pb.ld
 rw [bD,bD] at m1 m2 m3
 have l1:=jg qa.1 qb.2
 have l2:=jg qb.1 qa.2
 have l3:=jg qa.2 qb.2
 have hne : (aT a).2.2 * (aT b).2.2 ≠ 0:=Nat.mul_ne_zero pa.den pb.den
 generalize Yi a b = R at *
 generalize (aT a).2.1 * (aT b).2.2 = x at *
 generalize (aT b).2.1 * (aT a).2.2 = y at *
 generalize (aT a).2.2 * (aT b).2.2 = d at *
 have l4:=Ea l1 l2
 have l5:=dX (Nat.sub_le x y)
 have l6:=dX (Nat.sub_le y x)
 have cA:=c_nAdd (wd x) (wd y) (by omega) (by omega)
 have cC:=Jp (wd x) (wd y) (by omega) (by omega)
 have cS:=fun h=>X0 (wd x) (wd y) (by omega) (by omega) h
 have cS2:=fun h=>X0 (wd y) (wd x) (by omega) (by omega) h
 simp only [bD] at cA cC cS cS2
 have cf1:=BF (aT a).1 (x + y) d (by omega) (by omega) hne
 have cf2:=BF (aT a).1 (x - y) d (by omega) (by omega) hne
 have cf3:=BF (aT b).1 (y - x) d (by omega) (by omega) hne
 unfold VD at hR
 generalize (aT a).1 = s at *
 generalize (aT b).1 = t at *
 (try dsimp only[aZ,aN]);(try dsimp only[aj]);conv=>whnf
 refine .pure _ _ ?_ ⟨rfl,rfl⟩ ca fun _=>?_
 ·exact ak _
 (try dsimp only[aj]);conv=>whnf
 refine .pure _ _ ?_ ⟨rfl,rfl⟩ cb fun _=>?_
 ·exact ak _
 (try dsimp only[aj]);conv=>whnf
 refine .pure _ _ ?_ ⟨rfl,rfl⟩ m1 fun _=>?_
 ·exact ak _
 (try dsimp only[aj]);conv=>whnf
 refine .pure _ _ ?_ ⟨rfl,rfl⟩ m2 fun _=>?_
 ·exact ak _
 (try dsimp only[aj]);conv=>whnf
 refine .pure _ _ ?_ ⟨rfl,rfl⟩ m3 fun _=>?_
 ·exact ak _
 (try dsimp only[aj]);conv=>whnf
 refine And.intro (fun hst=>?_) (fun hst=>?_)
 ·have hst : s = t:=by simpa using hst
  rw [if_pos hst] at hR
  subst hR
  (try dsimp only[aj]);conv=>whnf
  refine .pure _ _ ?_ ⟨rfl,rfl⟩ cA fun _=>?_
  ·exact ak _
  (try dsimp only[aj]);conv=>whnf
  refine .pure _ _ ?_ ⟨rfl,rfl⟩ cf1 fun _=>?_
  ·exact ak _
  (try dsimp only[aj]);conv=>whnf
  refine fM ?_;(conv=>whnf);refine ⟨?_,rfl⟩;conv=>whnf
  all_goals exact wk
 have hst : ¬ s = t:=by simpa using hst
 rw [if_neg hst] at hR
 (try dsimp only[aj]);conv=>whnf
 refine .pure _ _ ?_ ⟨rfl,rfl⟩ cC fun _=>?_
 ·exact ak _
 (try dsimp only[aj]);conv=>whnf
 refine And.intro (fun hxy=>?_) (fun hxy=>?_)
 ·have hlt : ¬ x < y:=by
   intro hlt
   unfold oh at hxy
   rw [if_pos hlt] at hxy
   omega
  rw [if_neg hlt] at hR
  subst hR
  (try dsimp only[aj]);conv=>whnf
  refine .pure _ _ ?_ ⟨rfl,rfl⟩ (cS (by omega)) fun _=>?_
  ·exact ak _
  (try dsimp only[aj]);conv=>whnf
  refine .pure _ _ ?_ ⟨rfl,rfl⟩ cf2 fun _=>?_
  ·exact ak _
  (try dsimp only[aj]);conv=>whnf
  refine fM ?_;(conv=>whnf);refine ⟨?_,rfl⟩;conv=>whnf
  all_goals exact wk
 ·have hlt : x < y:=by
   unfold oh at hxy
   split at hxy
   ·assumption
   ·split at hxy <;> omega
  rw [if_pos hlt] at hR
  subst hR
  (try dsimp only[aj]);conv=>whnf
  refine .pure _ _ ?_ ⟨rfl,rfl⟩ (cS2 (by omega)) fun _=>?_
  ·exact ak _
  (try dsimp only[aj]);conv=>whnf
  refine .pure _ _ ?_ ⟨rfl,rfl⟩ cf3 fun _=>?_
  ·exact ak _
  (try dsimp only[aj]);conv=>whnf
  refine fM ?_;(conv=>whnf);refine ⟨?_,rfl⟩;conv=>whnf
  all_goals exact wk

theorem c_pOf (n : Nat) (hn : n < 2 ^ 31) : aA Tryz.prog 236 [.int .i64 n] [] (fQ (n : QQ)).av []:=by
 have cn:=RX n (by omega)
 have e1 : wd 1 = [1]:=oM (by omega) (by omega)
 have cf:=BF false n 1 (by
  have:=lT (x:=n) (n:=1) (by omega)
  omega) (by rw [e1]; simp) (by omega)
 rw [mQ _ _ _ (by omega),e1,show mkRat (Dk false n) 1 = (n : QQ) from by rw [show Dk false n = (n : Int) from rfl,Rat.mkRat_one]; rfl] at cf
 have cs : aA Tryz.prog 271 [.int .i64 n] [] (wL (wd n)) []:=by
  refine aA.intro lay mixed Tryz.func271 (by kernel_rfl) rfl (by kernel_rfl) rfl fun hok=>?_
  (try dsimp only[aZ,aN]);(try dsimp only[aj]);conv=>whnf
  refine And.intro (fun h=>by exfalso; omega) (fun _=>?_)
  (try dsimp only[aj]);conv=>whnf
  refine ⟨bC (by omega) (by omega),?_⟩
  (try dsimp only[aj]);conv=>whnf
  rw [show max (n : Int) (0 - (n : Int)) = (n : Int) by omega]
  refine .pure _ _ ?_ ⟨rfl,rfl⟩ cn fun _=>?_
  ·exact ak _
  (try dsimp only[aj]);conv=>whnf
  refine fM ?_;(conv=>whnf);refine ⟨?_,rfl⟩;conv=>whnf
  all_goals exact wk
 generalize fQ (n : QQ) = R at *
 refine aA.intro lay mixed Tryz.func236 (by kernel_rfl) rfl (by kernel_rfl) rfl fun hok=>?_
 (try dsimp only[aZ,aN]);(try dsimp only[aj]);conv=>whnf
 refine .pure _ _ ?_ ⟨rfl,rfl⟩ cs fun _=>?_
 ·exact ak _
 (try dsimp only[aj]);conv=>whnf
 refine .pure _ _ ?_ ⟨rfl,rfl⟩ RV fun _=>?_
 ·exact ak _
 (try dsimp only[aj]);conv=>whnf
 refine .pure _ _ ?_ ⟨rfl,rfl⟩ cf fun _=>?_
 ·refine ⟨?_,fG _,fG _,trivial⟩
  show _ ↔ _
  simp
 (try dsimp only[aj]);conv=>whnf
 refine fM ?_;(conv=>whnf);refine ⟨?_,rfl⟩;conv=>whnf
 all_goals exact wk

theorem c_qNeg {p : QQ} {k : Nat} (hp : Sz p k) (hk : k <= 100000) : aA Tryz.prog 147 [(fQ p).av] [] (fQ (-p)).av []:=by
 have l:=G6 hp
 rw [<- Zc]
 exact c_pNeg _ (by omega) (by omega)

theorem XW {p q : QQ} {k l : Nat} (hp : Sz p k) (hq : Sz q l) (hk : k <= 100000) (hl : l <= 100000) : aA Tryz.prog 146 [(fQ p).av,(fQ q).av] [] (fQ (p + q)).av []:=by
 have l1:=G6 hp
 have l2:=G6 hq
 rw [<- add_can]
 exact c_pAdd _ _ (by omega) (by omega) (by omega) (by omega)

theorem XV {p q : QQ} {k l : Nat} (hp : Sz p k) (hq : Sz q l) (hk : k <= 100000) (hl : l <= 100000) : aA Tryz.prog 272 [(fQ p).av,(fQ q).av] [] (fQ (p * q)).av []:=by
 have l1:=G6 hp
 have l2:=G6 hq
 rw [<- Ze]
 exact X3 _ _ (by omega) (by omega) (by omega) (by omega)

theorem XU {p q : QQ} {k l : Nat} (hp : Sz p k) (hq : Sz q l) (hk : k <= 100000) (hl : l <= 100000) : aA Tryz.prog 62 [(fQ p).av,(fQ q).av] [] (fQ (p - q)).av []:=by
 have c1:=c_qNeg hq hl
 have c2:=XW hp hq.neg hk hl
 rw [<- Rat.sub_eq_add_neg] at c2
 generalize fQ (p - q) = R at *
 generalize fQ (-q) = N at *
 refine aA.intro lay mixed Tryz.func62 (by kernel_rfl) rfl (by kernel_rfl) rfl fun hok=>?_
 (try dsimp only[aZ,aN]);(try dsimp only[aj]);conv=>whnf
 refine aS.auto (by kernel_rfl) ?_;conv=>whnf
 refine fO.pure _ _ ?_ ⟨rfl,rfl⟩ c1 ?_
 ·exact ak _
 (try dsimp only[aj]);conv=>whnf
 refine fO.pure _ _ ?_ ⟨rfl,rfl⟩ c2 ?_
 ·exact ak _
 (try dsimp only[aj]);conv=>whnf
 refine fM ?_;(conv=>whnf);refine ⟨?_,rfl⟩;conv=>whnf
 all_goals exact wk

def Ls (p : List QQ) (f : (Int -> Bool) -> Bool) : Nat -> (Int -> Bool) -> QQ
 | 0,s=>if f s = true then 1 else 0
 | k + 1,s=>(1 - p.getD k 0) * Ls p f k (dJ s k false) + p.getD k 0 * Ls p f k (dJ s k true)

theorem jc {p : List QQ} {f g : (Int -> Bool) -> Bool} (h : ∀ s,f s = g s) : ∀ (k : Nat) (s : Int -> Bool),Ls p f k s = Ls p g k s
 | 0,s=>by simp [Ls,h]
 | k + 1,s=>by simp only [Ls]; rw [jc h k,jc h k]

theorem qF {p : List QQ} {f : (Int -> Bool) -> Bool} {v : Int} {b : Bool} : ∀ (k : Nat) (s : Int -> Bool),(k : Int) <= v -> Ls p f k (dJ s v b) = Ls p (fun t=>f (dJ t v b)) k s
 | 0,s,_=>rfl
 | k + 1,s,hk=>by
   simp only [Ls]
   rw [wF (s:=s) (i:=v) (j:=(k : Int)) (a:=b) (b:=false) (by omega),wF (s:=s) (i:=v) (j:=(k : Int)) (a:=b) (b:=true) (by omega),qF k (dJ s k false) (by omega),qF k (dJ s k true) (by omega)]

theorem FD {p : List QQ} {f l h : (Int -> Bool) -> Bool} {v : Nat} (hf : ∀ s,f s = if s v then h s else l s) (hl : ∀ s b,l (dJ s v b) = l s) (hh : ∀ s b,h (dJ s v b) = h s) :
  ∀ (k : Nat) (s : Int -> Bool),v < k -> Ls p f k s = (1 - p.getD v 0) * Ls p l k s + p.getD v 0 * Ls p h k s
 | 0,_,hk=>by omega
 | k + 1,s,hk=>by
   by_cases hv : v = k
   ·subst hv
    simp only [Ls]
    have e1 : ∀ t,(fun t=>f (dJ t v false)) t = l t:=fun t=>by
     show f (dJ t v false) = l t
     rw [hf,show dJ t (v : Int) false v = false from if_pos rfl,hl]; simp
    have e2 : ∀ t,(fun t=>f (dJ t v true)) t = h t:=fun t=>by
     show f (dJ t v true) = h t
     rw [hf,show dJ t (v : Int) true v = true from if_pos rfl,hh]; simp
    rw [qF v s (Int.le_refl _),qF v s (Int.le_refl _),jc e1,jc e2]
    rw [qF (f:=l) v s (Int.le_refl _),qF (f:=l) v s (Int.le_refl _),qF (f:=h) v s (Int.le_refl _),qF (f:=h) v s (Int.le_refl _)]
    rw [jc (f:=fun t=>l (dJ t v false)) (g:=l) (fun t=>hl t false),jc (f:=fun t=>l (dJ t v true)) (g:=l) (fun t=>hl t true),jc (f:=fun t=>h (dJ t v false)) (g:=h) (fun t=>hh t false),jc (f:=fun t=>h (dJ t v true)) (g:=h) (fun t=>hh t true)]
    grind
   ·simp only [Ls]
    have h1:=FD (p:=p) hf hl hh k (dJ s k false) (by omega)
    have h2:=FD (p:=p) hf hl hh k (dJ s k true) (by omega)
    rw [h1,h2]
    grind

theorem wW {p : List QQ} {b : Bool} : ∀ (k : Nat) (s : Int -> Bool),Ls p (fun _=>b) k s = if b = true then 1 else 0
 | 0,s=>rfl
 | k + 1,s=>by simp only [Ls]; rw [wW k,wW k]; grind

def EK (v : List QQ) (r : Int) : QQ:=if r < 2 then ((r.toNat : Nat) : QQ) else v.getD (r - 2).toNat 0
def TP (p v : List QQ) (x : Node) : QQ:=(1 - p.getD x.1.toNat 0) * EK v x.2.1 + p.getD x.1.toNat 0 * EK v x.2.2
def zk (p : List QQ) (ns : List Node) : List QQ:=ns.foldl (fun v x=>v ++ [TP p v x]) []

theorem EG (p : List QQ) (l : List Node) (x : Node) : zk p (l ++ [x]) = zk p l ++ [TP p (zk p l) x]:=by
 unfold zk; rw [List.foldl_append]; rfl
theorem Dy (p : List QQ) (l : List Node) : (zk p l).length = l.length:=by
 have key : ∀ (l : List Node) (v : List QQ),(l.foldl (fun v x=>v ++ [TP p v x]) v).length = v.length + l.length:=by
  intro l
  induction l with
  | nil=>intro v; simp
  | cons x l ih=>intro v; rw [List.foldl_cons,ih]; simp; omega
 have:=key l []
 unfold zk
 simpa using this

theorem UA {T : Tb} {ns : List Node} (hns : ∀ (k : Nat) (h : k < ns.length),lD T ns k ns[k]) (d : Nat) : ∀ (r : Int),0 <= r -> r < 2 + (ns.length : Int) -> r <= d -> ∀ (s s' : Int -> Bool),(∀ j,0 <= j -> j < T.n -> lV T ns r <= T.pl j -> s j = s' j) -> ev ns s r = ev ns s' r:=by
 induction d with
 | zero =>
   intro r h0 h1 h2 s s' _
   obtain rfl : r = 0:=by omega
   rfl
 | succ d ih =>
   intro r h0 h1 h2 s s' hs
   by_cases hr2 : r < 2
   ·rcases (by omega : r = 0 \/ r = 1) with rfl | rfl <;> rfl
   obtain ⟨k,rfl⟩ : ∃ k : Nat,r = 2 + (k : Int):=⟨(r - 2).toNat,by omega⟩
   have hk : k < ns.length:=by omega
   have g:=hns k hk
   have e1:=fun s=>tq ns s hk g.lo.2 g.hi.2
   rw [e1,e1]
   have hl : lV T ns (2 + (k : Int)) = T.pl (ns[k]).1:=by
    unfold lV
    rw [if_neg (by omega),show (2 + (k : Int) - 2).toNat = k by omega,List.getD_eq_getElem?_getD,List.getElem?_eq_getElem hk]; rfl
   rw [hl] at hs
   have gl:=g.Zi
   have gh:=g.Zj
   rw [hs _ g.v.1 g.v.2 (Int.le_refl _)]
   rw [ih _ g.lo.1 (by have:=g.lo.2; omega) (by have:=g.lo.2; omega) s s' (fun j q1 q2 q3=>hs j q1 q2 (by omega)),
    ih _ g.hi.1 (by have:=g.hi.2; omega) (by have:=g.hi.2; omega) s s' (fun j q1 q2 q3=>hs j q1 q2 (by omega))]

theorem RJ {T : Tb} {ns : List Node} (hns : ∀ (k : Nat) (h : k < ns.length),lD T ns k ns[k]) {r i : Int} (h0 : 0 <= r) (h1 : r < 2 + (ns.length : Int)) (hl : T.pl i < lV T ns r) (s : Int -> Bool) (b : Bool) : ev ns (dJ s i b) r = ev ns s r:=by
 refine UA hns r.toNat r h0 h1 (by omega) _ _ fun j q1 q2 q3=>?_
 unfold dJ
 rw [if_neg (fun e=>by subst e; omega)]

theorem pr_ex {T : Tb} {ns : List Node} (hns : ∀ (k : Nat) (h : k < ns.length),lD T ns k ns[k]) (p : List QQ) {n : Nat} (hn : T.n = n) : ∀ (k : Nat),k <= ns.length -> ∀ (r : Int),0 <= r -> r < 2 + (k : Int) -> EK (zk p (ns.take k)) r = Ls p (fun s=>ev ns s r) n zE
 | 0,_,r,h0,h1=>by
   rcases (by omega : r = 0 \/ r = 1) with rfl | rfl
   ·rw [jc (p:=p) (f:=fun s=>ev ns s 0) (g:=fun _=>false) (fun s=>rfl),wW]; rfl
   ·rw [jc (p:=p) (f:=fun s=>ev ns s 1) (g:=fun _=>true) (fun s=>rfl),wW]; rfl
 | k + 1,hk,r,h0,h1=>by
   have ih:=pr_ex hns p hn k (by omega)
   have hlt : k < ns.length:=by omega
   have hl:=Dy p (ns.take k)
   rw [List.length_take,Nat.min_eq_left (by omega)] at hl
   rw [List.take_succ_eq_append_getElem hlt,EG]
   by_cases hr : r < 2 + (k : Int)
   ·rw [<- ih r h0 hr]
    unfold EK
    split
    ·rfl
    ·rw [List.getD_eq_getElem?_getD,List.getElem?_append_left (by omega),<- List.getD_eq_getElem?_getD]
   ·obtain rfl : r = 2 + (k : Int):=by omega
    have g:=hns k hlt
    have e0 : EK (zk p (ns.take k) ++ [TP p (zk p (ns.take k)) ns[k]]) (2 + (k : Int)) = TP p (zk p (ns.take k)) ns[k]:=by
     unfold EK
     rw [if_neg (by omega),show (2 + (k : Int) - 2).toNat = k by omega,List.getD_eq_getElem?_getD,List.getElem?_append_right (by omega),hl,Nat.sub_self]; rfl
    rw [e0]
    unfold TP
    rw [ih _ g.lo.1 g.lo.2,ih _ g.hi.1 g.hi.2]
    have e1:=fun s=>tq ns s hlt g.lo.2 g.hi.2
    have gl:=g.Zi
    have gh:=g.Zj
    have hlo:=RJ hns (i:=(ns[k]).1) g.lo.1 (by have:=g.lo.2; omega) gl
    have hhi:=RJ hns (i:=(ns[k]).1) g.hi.1 (by have:=g.hi.2; omega) gh
    have hv:=g.v
    generalize ns[k] = x at *
    obtain ⟨v,hvv⟩ : ∃ v : Nat,x.1 = v:=⟨x.1.toNat,by omega⟩
    rw [hvv] at hlo hhi hv
    rw [jc (f:=fun s=>ev ns s (2 + (k : Int))) (g:=fun s=>if s v then ev ns s x.2.2 else ev ns s x.2.1) (fun s=>by rw [e1,hvv])]
    rw [FD (v:=v) (fun s=>rfl) (fun s b=>hlo s b) (fun s b=>hhi s b) n zE (by omega),hvv,Int.toNat_natCast]

def szB (K : Nat) : Nat -> Nat
 | 0=>1
 | d + 1=>2 * szB K d + 2 * K + 10

theorem yV (K : Nat) : ∀ {a b : Nat},a <= b -> szB K a <= szB K b:=by
 intro a b h
 induction b with
 | zero=>obtain rfl : a = 0:=by omega
         exact Nat.le_refl _
 | succ b ih =>
   by_cases e : a = b + 1
   ·rw [e]; exact Nat.le_refl _
   ·have:=ih (by omega)
    show _ <= 2 * szB K b + 2 * K + 10
    omega

theorem Sz_zero : Sz 0 1:=⟨by show (wd 0).length <= 1; rw [iC]; simp,by show (wd 1).length <= 1; rw [oM (by omega) (by omega)]; simp⟩
theorem G5 : Sz 1 1:=⟨by show (wd 1).length <= 1; rw [oM (by omega) (by omega)]; simp,by show (wd 1).length <= 1; rw [oM (by omega) (by omega)]; simp⟩

theorem Sz.sub {p q : QQ} {k l : Nat} (hp : Sz p k) (hq : Sz q l) : Sz (p - q) (k + l + 1):=by
 rw [Rat.sub_eq_add_neg]; exact hp.add hq.neg

theorem ndQ_sz {q a b : QQ} {K k : Nat} (hq : Sz q K) (ha : Sz a k) (hb : Sz b k) : Sz ((1 - q) * a + q * b) (2 * k + 2 * K + 10) :=
 (((G5.sub hq).mul ha).add (hq.mul hb)).mono (by omega)

theorem pr_sz {T : Tb} {ns : List Node} (hns : ∀ (k : Nat) (h : k < ns.length),lD T ns k ns[k]) (hpl : ∀ i : Int,0 <= i -> i < T.n -> 0 <= T.pl i /\ T.pl i < T.n) {p : List QQ} {K : Nat} (hp : ∀ q ∈ p,Sz q K) (hpn : T.n = p.length) :
  ∀ (k : Nat),k <= ns.length -> ∀ (r : Int),0 <= r -> r < 2 + (k : Int) -> Sz (EK (zk p (ns.take k)) r) (szB K (T.n - lV T ns r).toNat)
 | 0,_,r,h0,h1=>by
   have : ∀ d,1 <= szB K d:=fun d=>yV K (Nat.zero_le d)
   rcases (by omega : r = 0 \/ r = 1) with rfl | rfl
   ·exact Sz_zero.mono (this _)
   ·exact G5.mono (this _)
 | k + 1,hk,r,h0,h1=>by
   have ih:=pr_sz hns hpl hp hpn k (by omega)
   have hlt : k < ns.length:=by omega
   have hl:=Dy p (ns.take k)
   rw [List.length_take,Nat.min_eq_left (by omega)] at hl
   rw [List.take_succ_eq_append_getElem hlt,EG]
   by_cases hr : r < 2 + (k : Int)
   ·have:=ih r h0 hr
    have e : EK (zk p (ns.take k) ++ [TP p (zk p (ns.take k)) ns[k]]) r = EK (zk p (ns.take k)) r:=by
     unfold EK
     split
     ·rfl
     ·rw [List.getD_eq_getElem?_getD,List.getElem?_append_left (by omega),<- List.getD_eq_getElem?_getD]
    rw [e]; exact this
   ·obtain rfl : r = 2 + (k : Int):=by omega
    have g:=hns k hlt
    have e0 : EK (zk p (ns.take k) ++ [TP p (zk p (ns.take k)) ns[k]]) (2 + (k : Int)) = TP p (zk p (ns.take k)) ns[k]:=by
     unfold EK
     rw [if_neg (by omega),show (2 + (k : Int) - 2).toNat = k by omega,List.getD_eq_getElem?_getD,List.getElem?_append_right (by omega),hl,Nat.sub_self]; rfl
    rw [e0]
    have hl : lV T ns (2 + (k : Int)) = T.pl (ns[k]).1:=by
     unfold lV
     rw [if_neg (by omega),show (2 + (k : Int) - 2).toNat = k by omega,List.getD_eq_getElem?_getD,List.getElem?_eq_getElem hlt]; rfl
    have gl:=g.Zi
    have gh:=g.Zj
    have hv:=g.v
    have s1:=ih _ g.lo.1 g.lo.2
    have s2:=ih _ g.hi.1 g.hi.2
    have hp0:=hpl _ hv.1 hv.2
    rw [hl]
    obtain ⟨d,hd⟩ : ∃ d,(T.n - T.pl (ns[k]).1).toNat = d + 1:=⟨(T.n - T.pl (ns[k]).1).toNat - 1,by omega⟩
    rw [hd]
    have q : Sz (p.getD (ns[k]).1.toNat 0) K:=by
     have hj : (ns[k]).1.toNat < p.length:=by omega
     rw [List.getD_eq_getElem?_getD,List.getElem?_eq_getElem hj]
     exact hp _ (List.getElem_mem hj)
    exact ndQ_sz q (s1.mono (yV K (by omega))) (s2.mono (yV K (by omega)))

abbrev qL (v : List QQ) : AV:=.sl 3 (v.map fun q=>(fQ q).av) .no

theorem XK (v : List QQ) (r : Int) (h0 : 0 <= r) (h1 : r < 2 + (v.length : Int)) : aA Tryz.prog 144 [qL v,.int .i64 r] [] (fQ (EK v r)).av []:=by
 by_cases hr : r < 2
 ·have c:=c_pOf r.toNat (by omega)
  rw [show ((r.toNat : Nat) : Int) = r by omega] at c
  have e : EK v r = ((r.toNat : Nat) : QQ):=if_pos hr
  rw [<- e] at c
  generalize EK v r = R at *
  refine aA.intro lay mixed Tryz.func144 (by kernel_rfl) rfl (by kernel_rfl) rfl fun hok=>?_
  (try dsimp only[aZ,aN]);(try dsimp only[aj]);conv=>whnf
  refine And.intro (fun _=>?_) (fun h=>absurd hr h)
  (try dsimp only[aj]);conv=>whnf
  refine .pure _ _ ?_ ⟨rfl,rfl⟩ c fun _=>?_
  ·exact ak _
  (try dsimp only[aj]);conv=>whnf
  refine fM ?_;(conv=>whnf);refine ⟨?_,rfl⟩;conv=>whnf
  all_goals exact wk
 ·have e : EK v r = v.getD (r - 2).toNat 0:=if_neg hr
  rw [e]
  refine aA.intro lay mixed Tryz.func144 (by kernel_rfl) rfl (by kernel_rfl) rfl fun hok=>?_
  have hvl : v.length <= 9223372036854775807:=by have:=hok.1.1; simpa [maxL] using this
  (try dsimp only[aZ,aN]);(try dsimp only[aj]);conv=>whnf
  refine And.intro (fun h=>absurd h hr) (fun _=>?_)
  (try dsimp only[aj]);conv=>whnf
  refine ⟨bC (by omega) (by omega),?_⟩
  (try dsimp only[aj]);conv=>whnf
  refine dQ (0 : QQ) ⟨by omega,by omega⟩ ?_
  generalize v.getD (r - 2).toNat 0 = R at *
  (try dsimp only[aj]);conv=>whnf
  refine fM ?_;(conv=>whnf);refine ⟨?_,rfl⟩;conv=>whnf
  all_goals exact wk

theorem ZR (p v : List QQ) (x : Node) (hx : 0 <= x.1 /\ x.1 < (p.length : Int)) (hl : 0 <= x.2.1 /\ x.2.1 < 2 + (v.length : Int)) (hh : 0 <= x.2.2 /\ x.2.2 < 2 + (v.length : Int)) {K k : Nat} (hK : K <= 30000) (hk : k <= 30000)
  (hp : ∀ q ∈ p,Sz q K) (s1 : Sz (EK v x.2.1) k) (s2 : Sz (EK v x.2.2) k) : aA Tryz.prog 237 [Rj x,qL p,qL v] [] (fQ (TP p v x)).av []:=by
 have c1:=XK v x.2.1 hl.1 hl.2
 have c2:=XK v x.2.2 hh.1 hh.2
 have cO:=c_pOf 1 (by omega)
 have hj : x.1.toNat < p.length:=by omega
 have hq : Sz (p.getD x.1.toNat 0) K:=by
  rw [List.getD_eq_getElem?_getD,List.getElem?_eq_getElem hj]
  exact hp _ (List.getElem_mem hj)
 unfold TP
 obtain ⟨xv,xl,xh⟩:=x
 dsimp only at *
 generalize EK v xl = a at *
 generalize EK v xh = b at *
 have e1 : ((1 : Nat) : QQ) = 1:=rfl
 rw [e1] at cO
 generalize hqq : p.getD xv.toNat 0 = q at *
 have m1:=XU (p:=1) G5 hq (by omega) (by omega)
 have m2:=XV (G5.sub hq) s1 (by omega) (by omega)
 have m3:=XV hq s2 (by omega) (by omega)
 have m4:=XW ((G5.sub hq).mul s1) (hq.mul s2) (by omega) (by omega)
 generalize fQ ((1 - q) * a + q * b) = R at *
 generalize fQ (q * b) = R1 at *
 generalize fQ ((1 - q) * a) = R2 at *
 generalize fQ (1 - q) = R3 at *
 generalize fQ 1 = R4 at *
 refine aA.intro lay mixed Tryz.func237 (by kernel_rfl) rfl (by kernel_rfl) rfl fun hok=>?_
 (try dsimp only[aZ,aN]);(try dsimp only[aj]);conv=>whnf
 refine dQ (0 : QQ) ⟨by omega,by omega⟩ ?_
 rw [hqq]
 generalize fQ q = Q at *
 generalize fQ a = A at *
 generalize fQ b = B at *
 (try dsimp only[aj]);conv=>whnf
 refine aS.auto (by kernel_rfl) ?_;conv=>whnf
 refine fO.pure _ _ ?_ ⟨rfl,rfl⟩ cO ?_
 ·exact ak _
 conv=>whnf
 refine fO.pure _ _ ?_ ⟨rfl,rfl⟩ m1 ?_
 ·exact ak _
 conv=>whnf
 refine fO.pure _ _ ?_ ⟨rfl,rfl⟩ c1 ?_
 ·exact ak _
 conv=>whnf
 refine fO.pure _ _ ?_ ⟨rfl,rfl⟩ m2 ?_
 ·exact ak _
 conv=>whnf
 refine fO.pure _ _ ?_ ⟨rfl,rfl⟩ c2 ?_
 ·exact ak _
 conv=>whnf
 refine fO.pure _ _ ?_ ⟨rfl,rfl⟩ m3 ?_
 ·exact ak _
 conv=>whnf
 refine fO.pure _ _ ?_ ⟨rfl,rfl⟩ m4 ?_
 ·exact ak _
 conv=>whnf
 refine fM ?_;(conv=>whnf);refine ⟨?_,rfl⟩;conv=>whnf
 all_goals exact wk

theorem UG (o : List Int) (ns : List Node) (root : Int) (p : List QQ) {K B : Nat} (hK : K <= 30000) (hB : B <= 30000) (hp : ∀ q ∈ p,Sz q K) (hn : ns.length <= 5000)
  (hns : ∀ (k : Nat) (h : k < ns.length),0 <= (ns[k]).1 /\ (ns[k]).1 < (p.length : Int) /\ 0 <= (ns[k]).2.1 /\ (ns[k]).2.1 < 2 + (k : Int) /\ 0 <= (ns[k]).2.2 /\ (ns[k]).2.2 < 2 + (k : Int))
  (hs : ∀ (k : Nat),k <= ns.length -> ∀ r : Int,0 <= r -> r < 2 + (k : Int) -> Sz (EK (zk p (ns.take k)) r) B) :
  aA Tryz.prog 145 [xP o ns root,qL p] [] (qL (zk p ns)) []:=by
 refine aA.intro lay mixed Tryz.func145 (by kernel_rfl) rfl (by kernel_rfl) rfl fun hok=>?_
 (try dsimp only[aZ,aN]);(try dsimp only[aj]);conv=>whnf
 rw [List.length_map]
 refine ⟨⟨by omega,by omega,by show (ns.length : Int) * ((56 : Nat) : Int) <= 281474976710656; omega,by omega⟩,.wr ?_⟩
 rw [Int.toNat_natCast]
 (try dsimp only[aj]);conv=>whnf
 refine aK.of <| (aC.inv (.keep 5 1 0 ns.length 3 [] rfl rfl (Nat.le_refl _) (.refl _ _)) (fun k : Nat=>k <= ns.length) (fun k=>[(15,.int .i64 k),(5,.sl 3 ((zk p (ns.take k)).map fun q=>(fQ q).av) (.own 2))]) (fun k=>[(2,.tok 3 k),(1,.gone),(0,.box (xP o ns root))]) (fun k=>ns.length - k) 0 (Nat.zero_le _) ?_ ?_ ?_)
 ·exact fun _=>rfl
 ·refine ⟨?_,.mk ?_ (by simp [ay])⟩
  ·all_goals exact wk
  ·all_goals exact wk
 intro k hk _
 have hl:=Dy p (ns.take k)
 rw [List.length_take,Nat.min_eq_left hk] at hl
 (try dsimp only[aj]);conv=>whnf
 refine And.intro (fun g=>?_) (fun g=>?_)
 ·have hlt : k < ns.length:=by simpa using g
  obtain ⟨q1,q2,q3,q4,q5,q6⟩:=hns k hlt
  have c:=ZR p (zk p (ns.take k)) ns[k] ⟨q1,q2⟩ ⟨q3,by omega⟩ ⟨q5,by omega⟩ hK hB hp (hs k hk _ q3 q4) (hs k hk _ q5 q6)
  have hsn : zk p (ns.take (k + 1)) = zk p (ns.take k) ++ [TP p (zk p (ns.take k)) ns[k]]:=by rw [List.take_succ_eq_append_getElem hlt,EG]
  generalize zk p (ns.take k) = v at *
  (try dsimp only[aj]);conv=>whnf
  refine jq hlt ?_
  generalize ns[k] = x at *
  generalize TP p v x = y at *
  (try dsimp only[aj]);conv=>whnf
  refine .pure _ _ ?_ ⟨rfl,rfl⟩ c fun _=>?_
  ·all_goals exact wk
  (try dsimp only[aj]);conv=>whnf
  refine ⟨by rw [List.length_map,hl],.mk (by simp [maxL]; omega) (by simp; omega) ?_⟩
  (try dsimp only[aj]);conv=>whnf
  refine zA ?_;conv=>whnf
  refine ⟨k + 1,?_,?_,?_⟩
  ·exact hlt
  ·rw [hsn]
   refine ⟨?_,.mk ?_ (by simp [ay])⟩
   ·repeat' first|exact rfl|exact trivial|exact wR|exact lR _|apply aI
    all_goals first | (show dK _ (List.map _ (_ ++ [_])); rw [List.map_append]; exact aB _) | skip
   ·repeat' first|exact rfl|exact trivial|exact wR|exact lR _|apply aI
    all_goals first | (simp [hl]; done) | skip
  ·omega
 have hk : k = ns.length:=by (have : ¬ k < ns.length:=by simpa using g); omega
 subst hk
 rw [List.take_length]
 (try dsimp only[aj]);conv=>whnf
 refine fM ?_;(conv=>whnf);refine ⟨?_,rfl⟩;conv=>whnf
 all_goals exact wk

def FZ (p : List Rat) (v : Int) : Int:=if (p.length : Int) ≠ v then 11 else if p.any (fun x=>!xC x) = true then 3 else 0

def Lens (p : List Rat) : Prop:=∀ x ∈ p,x.num.length <= 90000 /\ x.den.length <= 90000

theorem Qg (x : Rat) (hx : Au x) : aA Tryz.prog 142 [x.av] [] (.bool (!xC x)) []:=by
 refine aA.intro lay mixed Tryz.func142 (by kernel_rfl) rfl (by kernel_rfl) rfl fun hok=>?_
 (try dsimp only[aZ,aN]);(try dsimp only[aj]);conv=>whnf
 refine .pure _ _ ?_ ⟨rfl,rfl⟩ hx.p fun _=>?_
 ·exact ak _
 (try dsimp only[aj]);conv=>whnf
 refine fM ?_;(conv=>whnf);refine ⟨?_,rfl⟩;conv=>whnf
 all_goals exact wk

theorem Ob (p : List Rat) (v : Int) (hl : Lens p) (R : AV) (hR : R = rF (FZ p v)) : aA Tryz.prog 60 [.sl 3 (p.map Rat.av) .no,.int .i64 v] [] R []:=by
 have cc:=Ij p 142 [] (fun x=>!xC x) [] fun x hx=>Qg x (Ba x (by have:=hl x hx; omega) (by have:=hl x hx; omega))
 refine aA.intro lay mixed Tryz.func60 (by kernel_rfl) rfl (by kernel_rfl) rfl fun hok=>?_
 (try dsimp only[aZ,aN]);(try dsimp only[aj]);conv=>whnf
 rw [List.length_map]
 refine And.intro (fun g=>?_) (fun g=>?_)
 ·obtain rfl : R = .jm 111 (.int .i64 11):=by rw [hR,show FZ p v = 11 from if_pos g]; rfl
  (try dsimp only[aj]);conv=>whnf
  refine fM ?_;(conv=>whnf);refine ⟨?_,rfl⟩;conv=>whnf
  all_goals exact wk
 have e : FZ p v = if p.any (fun x=>!xC x) = true then 3 else 0:=if_neg g
 (try dsimp only[aj]);conv=>whnf
 refine .gen _ _ cc fun _=>?_
 (try dsimp only[aj]);conv=>whnf
 refine And.intro (fun g2=>?_) (fun g2=>?_)
 ·obtain rfl : R = .jm 111 (.int .i64 3):=by rw [hR,e,if_pos g2]; rfl
  (try dsimp only[aj]);conv=>whnf
  refine fM ?_;(conv=>whnf);refine ⟨?_,rfl⟩;conv=>whnf
  all_goals exact wk
 ·obtain rfl : R = .eP:=by rw [hR,e,if_neg (by rw [g2]; simp)]; rfl
  (try dsimp only[aj]);conv=>whnf
  refine fM ?_;(conv=>whnf);refine ⟨?_,rfl⟩;conv=>whnf
  all_goals exact wk

def Dj (f : Fo) (p : List QQ) : QQ:=Ls p (fun t=>(jh (l0 f.vars.toNat t) f.nodes).getD f.top.toNat false) f.vars.toNat zE

theorem ZM {p : List Rat} {v : Int} (h : FZ p v = 0) (hw : ∀ x ∈ p,Ws x.num /\ Ws x.den) : (p.length : Int) = v /\ p.map Rat.av = (p.map qv).map fun q=>(fQ q).av:=by
 unfold FZ at h
 split at h
 ·cases h
 rename_i h1
 split at h
 ·cases h
 rename_i h2
 refine ⟨by simpa using h1,?_⟩
 rw [List.map_map]
 refine List.map_congr_left fun x hx=>?_
 have : xC x = true:=by
  cases hp : xC x with
  | true=>rfl
  | false=>exact absurd (List.any_eq_true.2 ⟨x,hx,by simp [hp]⟩) h2
 unfold xC at this
 simp only [Bool.and_eq_true] at this
 have hv:=Tf this.1.1 (hw x hx).1 (hw x hx).2
 show x.av = (fQ (qv x)).av
 rw [<- hv]

theorem XM (f : Fo) (h : xY f) (h7 : f.vars <= 7) (p : List Rat) (hl : Lens p) (hc : FZ p f.vars = 0) (hw : ∀ x ∈ p,Ws x.num /\ Ws x.den) {K : Nat} (hK : K <= 100) (hs : ∀ x ∈ p,Sz (qv x) K) :
  aA Tryz.prog 61 [f.av,.sl 3 (p.map Rat.av) .no] [] (.eG [(fQ (Dj f (p.map qv))).av,.eP]) [] /\ Sz (Dj f (p.map qv)) 30000:=by
 have hvs:=h.vars
 have cc:=vM f h
 have cs:=Ob p f.vars hl _ rfl
 rw [hc,eU] at cs
 obtain ⟨hpl,hpe⟩:=ZM hc hw
 rw [hpe] at cs ⊢
 have cd:=Og f h
 have hp:=Ji f h
 generalize Ux f = o at *
 obtain ⟨ns,x,cb,g,x0,x1,hv,hn⟩:=Gi (N:=7) (by omega) f h (by omega) hp
 have hT0 : bJ (Tb.new o):=EM hp (by omega)
 have hn0 : (Tb.new o).n = (f.vars.toNat : Nat):=by show (o.length : Int) = _; rw [hp.len]
 have hql : (p.map qv).length = p.length:=List.length_map ..
 have hsz : ∀ q ∈ p.map qv,Sz q K:=fun q hq=>by
  obtain ⟨y,hy,rfl⟩:=List.mem_map.1 hq
  exact hs y hy
 generalize p.map qv = P at *
 have sz:=pr_sz g (fun i h0 h1=>by have:=hT0.YJ i h0 h1; exact ⟨this.1,this.2.1⟩) hsz (by omega)
 have hB : szB K 7 <= 30000:=by simp only [szB]; omega
 have sz2 : ∀ (k : Nat),k <= ns.length -> ∀ r : Int,0 <= r -> r < 2 + (k : Int) -> Sz (EK (zk P (ns.take k)) r) (szB K 7):=(fun k hk r r0 r1=>(sz k hk r r0 r1).mono (yV K (by
   have hlv : 0 <= lV (Tb.new o) ns r:=by
    unfold lV
    split
    ·omega
    ·rename_i h2
     have hj : (r - 2).toNat < ns.length:=by omega
     have gj:=g _ hj
     have : ns.getD (r - 2).toNat default = ns[(r - 2).toNat]:=by rw [List.getD_eq_getElem?_getD,List.getElem?_eq_getElem hj]; rfl
     rw [this]
     exact (hT0.YJ _ gj.v.1 gj.v.2).1
   omega)))
 have cv:=UG o ns x P (K:=K) (B:=szB K 7) (by omega) hB hsz (by omega) (fun k hk=>by
  have gk:=g k hk
  have:=gk.v
  exact ⟨gk.v.1,by omega,gk.lo.1,gk.lo.2,gk.hi.1,gk.hi.2⟩) sz2
 have hpv:=Dy P ns
 have co:=XK (zk P ns) x x0 (by omega)
 have hex:=pr_ex g P hn0 ns.length (Nat.le_refl _) x x0 x1
 rw [List.take_length] at hex
 have ht : EK (zk P ns) x = Dj f P:=by
  rw [hex]
  exact jc (fun s=>hv s) _ _
 rw [ht] at co
 have hsT:=sz2 ns.length (Nat.le_refl _) x x0 x1
 rw [List.take_length,ht] at hsT
 refine ⟨?_,hsT.mono hB⟩
 generalize fQ (Dj f P) = R at *
 generalize zk P ns = V at *
 refine aA.intro lay mixed Tryz.func61 (by kernel_rfl) rfl (by kernel_rfl) rfl fun hok=>?_
 (try dsimp only[aZ,aN]);(try dsimp only[aj]);conv=>whnf
 refine .pure _ _ ?_ ⟨rfl,rfl⟩ cc fun _=>?_
 ·exact ak _
 (try dsimp only[aj]);conv=>whnf
 refine .pure _ _ ?_ ⟨rfl,rfl⟩ cs fun _=>?_
 ·exact ak _
 (try dsimp only[aj]);conv=>whnf
 refine .pure _ _ ?_ ⟨rfl,rfl⟩ cd fun _=>?_
 ·exact ak _
 (try dsimp only[aj]);conv=>whnf
 refine .pure _ _ ?_ ⟨rfl,rfl⟩ cb fun _=>?_
 ·exact ak _
 (try dsimp only[aj]);conv=>whnf
 refine aS.auto (by kernel_rfl) ?_;conv=>whnf
 refine fO.pure _ _ ?_ ⟨rfl,rfl⟩ cv ?_
 ·exact ak _
 conv=>whnf
 refine fO.pure _ _ ?_ ⟨rfl,rfl⟩ co ?_
 ·exact ak _
 conv=>whnf
 refine fM ?_;(conv=>whnf);refine ⟨?_,rfl⟩;conv=>whnf
 all_goals exact wk

def L6 (a b : Fo) (p : List Rat) : Int:=if dF a b ≠ 0 then dF a b else FZ p a.vars
def shR (a b : Fo) (p : List Rat) : Rat:=if L6 a b p ≠ 0 then ⟨false,[],[]⟩ else fQ (Dj b (p.map qv) - Dj a (p.map qv))

structure PsOk (p : List Rat) (K : Nat) : Prop where
 lens : Lens p
 ws : ∀ x ∈ p,Ws x.num /\ Ws x.den
 sz : ∀ x ∈ p,Sz (qv x) K

theorem c_Shift (a b : Fo) (p : List Rat) {K : Nat} (hK : K <= 100) (hp : PsOk p K) (h7 : dF a b = 0 -> a.vars <= 7) (R : AV) (hR : R = .eG [(shR a b p).av,rF (L6 a b p)]) :
  aA Tryz.prog 18 [a.av,b.av,.sl 3 (p.map Rat.av) .no] [] R []:=by
 have cc:=pq a b _ rfl
 have cs:=Ob p a.vars hp.lens _ rfl
 by_cases h1 : dF a b ≠ 0
 ·have e1 : L6 a b p = dF a b:=if_pos h1
  have e2 : shR a b p = ⟨false,[],[]⟩:=if_pos (by rw [e1]; exact h1)
  rw [e1,e2] at hR
  rw [gq h1] at hR cc
  generalize dF a b = E at *
  subst hR
  refine aA.intro lay mixed Tryz.func18 (by kernel_rfl) rfl (by kernel_rfl) rfl fun hok=>?_
  (try dsimp only[aZ,aN]);(try dsimp only[aj]);conv=>whnf
  refine .pure _ _ ?_ ⟨rfl,rfl⟩ cc fun _=>?_
  ·exact ak _
  (try dsimp only[aj]);conv=>whnf
  refine fM ?_;(conv=>whnf);refine ⟨?_,rfl⟩;conv=>whnf
  all_goals exact wk
 have h0 : dF a b = 0:=by simpa using h1
 have e1 : L6 a b p = FZ p a.vars:=if_neg h1
 rw [h0,eU] at cc
 by_cases h2 : FZ p a.vars ≠ 0
 ·have e2 : shR a b p = ⟨false,[],[]⟩:=if_pos (by rw [e1]; exact h2)
  rw [e1,e2] at hR
  rw [gq h2] at hR cs
  generalize FZ p a.vars = E at *
  subst hR
  refine aA.intro lay mixed Tryz.func18 (by kernel_rfl) rfl (by kernel_rfl) rfl fun hok=>?_
  (try dsimp only[aZ,aN]);(try dsimp only[aj]);conv=>whnf
  refine .pure _ _ ?_ ⟨rfl,rfl⟩ cc fun _=>?_
  ·exact ak _
  (try dsimp only[aj]);conv=>whnf
  refine .pure _ _ ?_ ⟨rfl,rfl⟩ cs fun _=>?_
  ·exact ak _
  (try dsimp only[aj]);conv=>whnf
  refine fM ?_;(conv=>whnf);refine ⟨?_,rfl⟩;conv=>whnf
  all_goals exact wk
 have h20 : FZ p a.vars = 0:=by simpa using h2
 have e2 : shR a b p = fQ (Dj b (p.map qv) - Dj a (p.map qv)):=if_neg (by rw [e1]; exact h2)
 rw [e1,e2,h20,eU] at hR
 rw [h20,eU] at cs
 obtain ⟨ha,hb,hab⟩:=wY h0
 obtain ⟨ta,sa⟩:=XM a ha (h7 h0) p hp.lens h20 hp.ws hK hp.sz
 obtain ⟨tb,sb⟩:=XM b hb (by have:=h7 h0; omega) p hp.lens (by rw [<- hab]; exact h20) hp.ws hK hp.sz
 have cS:=XU sb sa (by omega) (by omega)
 generalize fQ (Dj b (p.map qv) - Dj a (p.map qv)) = X at *
 generalize fQ (Dj b (p.map qv)) = Y at *
 generalize fQ (Dj a (p.map qv)) = Z at *
 subst hR
 refine aA.intro lay mixed Tryz.func18 (by kernel_rfl) rfl (by kernel_rfl) rfl fun hok=>?_
 (try dsimp only[aZ,aN]);(try dsimp only[aj]);conv=>whnf
 refine .pure _ _ ?_ ⟨rfl,rfl⟩ cc fun _=>?_
 ·exact ak _
 (try dsimp only[aj]);conv=>whnf
 refine .pure _ _ ?_ ⟨rfl,rfl⟩ cs fun _=>?_
 ·exact ak _
 (try dsimp only[aj]);conv=>whnf
 refine .pure _ _ ?_ ⟨rfl,rfl⟩ ta fun _=>?_
 ·exact ak _
 (try dsimp only[aj]);conv=>whnf
 refine .pure _ _ ?_ ⟨rfl,rfl⟩ tb fun _=>?_
 ·exact ak _
 (try dsimp only[aj]);conv=>whnf
 refine .pure _ _ ?_ ⟨rfl,rfl⟩ cS fun _=>?_
 ·exact ak _
 (try dsimp only[aj]);conv=>whnf
 refine fM ?_;(conv=>whnf);refine ⟨?_,rfl⟩;conv=>whnf
 all_goals exact wk

def ZL (a b : Fo) : AV:=if dF a b ≠ 0 then zDf else (vI a b).av

theorem Ql (a b : Fo) (h7 : dF a b = 0 -> a.vars <= 7) (R : AV) (hR : R = .eG [ZL a b,rF (dF a b)]) : aA Tryz.prog 14 [a.av,b.av] [] R []:=by
 by_cases h1 : dF a b ≠ 0
 ·have cc:=pq a b _ rfl
  rw [show ZL a b = zDf from if_pos h1] at hR
  rw [gq h1] at hR cc
  generalize dF a b = E at *
  subst hR
  refine aA.intro lay mixed Tryz.func14 (by kernel_rfl) rfl (by kernel_rfl) rfl fun hok=>?_
  (try dsimp only[aZ,aN]);(try dsimp only[aj]);conv=>whnf
  refine .pure _ _ ?_ ⟨rfl,rfl⟩ cc fun _=>?_
  ·exact ak _
  (try dsimp only[aj]);conv=>whnf
  refine fM ?_;(conv=>whnf);refine ⟨?_,rfl⟩;conv=>whnf
  all_goals exact wk
 ·have h0 : dF a b = 0:=by simpa using h1
  rw [show ZL a b = (vI a b).av from if_neg h1,h0,eU] at hR
  subst hR
  exact UW a b h0 (h7 h0)

















theorem YW (a : Rat) : aA Tryz.prog 20 [a.av,a.av] [] .tt []:=(ZV a a).weak (R':=.tt) (by show decide _ = true; simp)

theorem XQ (neg : Bool) (x y : List Int) (wx : Ws x) (_ : Ws y) (hn : x.length <= 300000) (hd : y.length <= 300000) (h0 : val y ≠ 0) : aA Tryz.prog 70 [.bool neg,wL x,wL y] [] (.eG [(nS neg (val x) (val y)).av,.int .i64 0]) []:=by
 have hgx:=iY wx
 have cb:=RS x (by omega)
 have cd:=RS y (by omega)
 obtain ⟨n,hvn⟩ : ∃ n,val x = n:=⟨_,rfl⟩
 obtain ⟨d,hvd⟩ : ∃ d,val y = d:=⟨_,rfl⟩
 rw [hvn] at cb hgx ⊢
 rw [hvd] at cd h0 ⊢
 have hbd : jy d ≠ 0:=fun h=>h0 (rM.1 h)
 by_cases hz : n = 0
 ·have hb : jy n = 0:=rM.2 hz
  rw [hb] at cb
  rw [show nS neg n d = ⟨false,[],[]⟩ from if_pos hz]
  refine aA.intro lay mixed Tryz.func70 (by kernel_rfl) rfl (by kernel_rfl) rfl fun hok=>?_
  (try dsimp only[aZ,aN]);(try dsimp only[aj]);conv=>whnf
  refine .pure _ _ ?_ ⟨rfl,rfl⟩ cd fun _=>?_
  ·exact ak _
  (try dsimp only[aj]);conv=>whnf
  refine And.intro (fun h=>by exfalso; omega) (fun _=>?_)
  (try dsimp only[aj]);conv=>whnf
  refine .pure _ _ ?_ ⟨rfl,rfl⟩ cb fun _=>?_
  ·exact ak _
  (try dsimp only[aj]);conv=>whnf
  refine And.intro (fun _=>?_) (fun h=>absurd rfl h)
  (try dsimp only[aj]);conv=>whnf
  refine fM ?_;(conv=>whnf);refine ⟨?_,rfl⟩;conv=>whnf
  all_goals exact wk
 have hb : jy n ≠ 0:=fun h=>hz (rM.1 h)
 have hg0 : Nat.gcd n d ≠ 0:=by
  have:=Nat.gcd_pos_of_pos_left d (show 0 < n by omega)
  omega
 have hgn : Nat.gcd n d <= n:=Nat.gcd_le_left d (by omega)
 have hgl:=dX hgn
 have cg:=c_rGcd x y (by omega) (by omega)
 rw [hvn,hvd] at cg
 have d1:=Qh x (wd (Nat.gcd n d)) (by omega) (by omega) (by rw [bD]; exact hg0)
 have d2:=Qh y (wd (Nat.gcd n d)) (by omega) (by omega) (by rw [bD]; exact hg0)
 rw [hvn,bD] at d1
 rw [hvd,bD] at d2
 rw [show nS neg n d = ⟨neg,wd (n / Nat.gcd n d),wd (d / Nat.gcd n d)⟩ from if_neg hz]
 generalize Nat.gcd n d = g at *
 refine aA.intro lay mixed Tryz.func70 (by kernel_rfl) rfl (by kernel_rfl) rfl fun hok=>?_
 (try dsimp only[aZ,aN]);(try dsimp only[aj]);conv=>whnf
 refine .pure _ _ ?_ ⟨rfl,rfl⟩ cd fun _=>?_
 ·exact ak _
 (try dsimp only[aj]);conv=>whnf
 refine And.intro (fun h=>by exfalso; omega) (fun _=>?_)
 (try dsimp only[aj]);conv=>whnf
 refine .pure _ _ ?_ ⟨rfl,rfl⟩ cb fun _=>?_
 ·exact ak _
 (try dsimp only[aj]);conv=>whnf
 refine And.intro (fun h=>by exfalso; omega) (fun _=>?_)
 (try dsimp only[aj]);conv=>whnf
 refine .pure _ _ ?_ ⟨rfl,rfl⟩ cg fun _=>?_
 ·exact ak _
 (try dsimp only[aj]);conv=>whnf
 refine .pure _ _ ?_ ⟨rfl,rfl⟩ d1 fun _=>?_
 ·exact ak _
 (try dsimp only[aj]);conv=>whnf
 refine .pure _ _ ?_ ⟨rfl,rfl⟩ d2 fun _=>?_
 ·exact ak _
 (try dsimp only[aj]);conv=>whnf
 refine fM ?_;(conv=>whnf);refine ⟨?_,rfl⟩;conv=>whnf
 all_goals exact wk

theorem Y0 : aA Tryz.prog 124 [.int .i64 2] [] (wL [2,0]) []:=by
 refine aA.intro lay mixed Tryz.func124 (by kernel_rfl) rfl (by kernel_rfl) rfl fun hok=>?_
 conv=>whnf
 (repeat' ((first|refine aK.step 300 ?_|refine zY ?_|refine zN ?_|refine zI ?_|refine zD ?_|refine bZ.mk ⟨_,⟨by decide +kernel,rfl⟩,?_⟩|refine zC ?_|refine zT ?_|refine zU ?_|refine fE.mk (by decide +kernel) (by decide +kernel) ?_|refine bU.wr ?_|refine aS.auto (by kernel_rfl) ?_);(conv=>whnf)))
 refine fM ?_;(conv=>whnf);refine ⟨?_,rfl⟩;conv=>whnf
 exact ⟨rfl,⟨rfl,by decide +kernel⟩,⟨rfl,by decide +kernel⟩,trivial⟩

theorem r_half : aA Tryz.prog 46 [.int .i64 1,.int .i64 2] [] (.eG [(fQ (mkRat 1 2)).av,.int .i64 0]) []:=by
 have cf:=XQ false [1,0] [2,0] (by intro x hx; simp at hx; rcases hx with rfl | rfl <;> omega) (by intro x hx; simp at hx; rcases hx with rfl | rfl <;> omega) (by simp) (by simp) (by decide)
 rw [mQ _ _ _ (by decide),show mkRat (Dk false (val [1,0])) (val [2,0]) = mkRat 1 2 from rfl] at cf
 generalize fQ (mkRat 1 2) = R at *
 refine aA.intro lay mixed Tryz.func46 (by kernel_rfl) rfl (by kernel_rfl) rfl fun hok=>?_
 (try dsimp only[aZ,aN]);(try dsimp only[aj]);conv=>whnf
 refine .pure _ _ ?_ ⟨rfl,rfl⟩ O7 fun _=>?_
 ·exact ak _
 (try dsimp only[aj]);conv=>whnf
 refine .pure _ _ ?_ ⟨rfl,rfl⟩ Y0 fun _=>?_
 ·exact ak _
 (try dsimp only[aj]);conv=>whnf
 refine .pure _ _ ?_ ⟨rfl,rfl⟩ cf fun _=>?_
 ·refine ⟨?_,fG _,fG _,trivial⟩
  first | (show _ ↔ _; decide) | rfl
 (try dsimp only[aj]);conv=>whnf
 refine fM ?_;(conv=>whnf);refine ⟨?_,rfl⟩;conv=>whnf
 all_goals exact wk

abbrev Nl (k : Int) : Fo:=⟨2,[⟨k,0,[0,1]⟩],2⟩

theorem Af (k : Int) : aA Tryz.prog 47 [.int .i64 k] [] (Nl k).av []:=by
 refine aA.intro lay mixed Tryz.func47 (by kernel_rfl) rfl (by kernel_rfl) rfl fun hok=>?_
 (try dsimp only[aZ,aN]);(try dsimp only[aj]);conv=>whnf
 refine fM ?_;(conv=>whnf);refine ⟨?_,rfl⟩;conv=>whnf
 all_goals exact wk

theorem Xl : dF (Nl 2) (Nl 3) = 0:=by decide +kernel
theorem ex_df : vI (Nl 2) (Nl 3) = ⟨false,1,2,2,0⟩:=by decide +kernel

abbrev qE : Rat:=⟨false,[1],[2]⟩
theorem Xa : fQ (mkRat 1 2) = qE:=by decide +kernel
theorem ex_chk : L6 (Nl 2) (Nl 3) [qE,qE] = 0:=by decide +kernel
theorem ex_sh : shR (Nl 2) (Nl 3) [qE,qE] = qE:=by decide +kernel
theorem ex_ps : PsOk [qE,qE] 4:=by
 have h : ∀ x ∈ [qE,qE],x = qE:=by intro x hx; simpa using hx
 refine ⟨fun x hx=>?_,fun x hx=>?_,fun x hx=>?_⟩
 ·rw [h x hx]; simp
 ·rw [h x hx]
  refine ⟨?_,?_⟩ <;> (intro y hy; simp at hy; omega)
 ·rw [h x hx]; unfold Sz; decide +kernel

theorem xq : aA Tryz.prog 12 [] [] .tt []:=by
 have cm:=r_half
 rw [Xa] at cm
 have cc:=Ql (Nl 2) (Nl 3) (fun _=>by decide) _ rfl
 rw [Xl,eU,show ZL (Nl 2) (Nl 3) = (vI (Nl 2) (Nl 3)).av from if_neg (by rw [Xl]; simp),ex_df] at cc
 have cs:=c_Shift (Nl 2) (Nl 3) [qE,qE] (K:=4) (by omega) ex_ps (fun _=>by decide) _ rfl
 rw [ex_chk,ex_sh,eU] at cs
 refine aA.intro lay mixed Tryz.func12 (by kernel_rfl) rfl (by kernel_rfl) rfl fun hok=>?_
 (try dsimp only[aZ,aN]);(try dsimp only[aj]);conv=>whnf
 refine .pure _ _ ?_ ⟨rfl,rfl⟩ cm fun _=>?_
 ·exact ak _
 (try dsimp only[aj]);conv=>whnf
 refine .pure _ _ ?_ ⟨rfl,rfl⟩ (Af 2) fun _=>?_
 ·exact ak _
 (try dsimp only[aj]);conv=>whnf
 refine .pure _ _ ?_ ⟨rfl,rfl⟩ (Af 3) fun _=>?_
 ·exact ak _
 (try dsimp only[aj]);conv=>whnf
 refine .pure _ _ ?_ ⟨rfl,rfl⟩ cc fun _=>?_
 ·exact ak _
 (try dsimp only[aj]);conv=>whnf
 refine aS.auto (by kernel_rfl) ?_;conv=>whnf
 refine fO.pure _ _ ?_ ⟨rfl,rfl⟩ (Af 2) ?_
 ·exact ak _
 conv=>whnf
 refine fO.pure _ _ ?_ ⟨rfl,rfl⟩ (Af 3) ?_
 ·exact ak _
 conv=>whnf
 refine fO.pure _ _ ?_ ⟨rfl,rfl⟩ cs ?_
 ·all_goals exact wk
 conv=>whnf
 refine And.intro (fun _=>?_) (fun h=>absurd (by simp [Ny,eqP,Zm]) h)
 (try dsimp only[aj]);conv=>whnf
 refine .pure _ _ ?_ ⟨rfl,rfl⟩ (YW qE) fun _=>?_
 ·exact ak _
 (try dsimp only[aj]);conv=>whnf
 refine fM ?_;(conv=>whnf);refine ⟨?_,rfl⟩;conv=>whnf
 all_goals exact wk

def hvB (a b : Fo) : Bool:=decide (7 < a.vars /\ dF a b = 0)

theorem UL (a b : Fo) : aA Tryz.prog 13 [a.av,b.av] [] (.bool (hvB a b)) []:=by
 have cc:=F9 a b
 refine aA.intro lay mixed Tryz.func13 (by kernel_rfl) rfl (by kernel_rfl) rfl fun hok=>?_
 (try dsimp only[aZ,aN]);(try dsimp only[aj]);conv=>whnf
 refine And.intro (fun g=>?_) (fun g=>?_)
 ·(try dsimp only[aj]);conv=>whnf
  refine .pure _ _ ?_ ⟨rfl,rfl⟩ cc fun _=>?_
  ·exact ak _
  (try dsimp only[aj]);conv=>whnf
  refine fM ?_;(conv=>whnf);refine ⟨?_,rfl⟩;conv=>whnf
  show _ ↔ _
  unfold hvB
  rw [decide_eq_true_iff]
  exact ⟨fun h=>⟨g,h⟩,fun h=>h.2⟩
 ·(try dsimp only[aj]);conv=>whnf
  refine fM ?_;(conv=>whnf);refine ⟨?_,rfl⟩;conv=>whnf
  show hvB a b = false
  exact decide_eq_false (fun h=>g h.1)


theorem S9 {vars path : Nat} {t : Sp} (h : Ar vars path t) : ∀ n,(fD vars t path n).2 = 0 -> ∀ y m,(rC t y m).length + n <= (fD vars t path n).1:=by
 induction h with
 | leaf path r =>
   intro n h0 y m
   rw [qR] at h0 ⊢
   by_cases h1 : 4096 < n + 1
   ·rw [if_pos h1] at h0; cases h0
   ·rw [if_neg h1,if_neg (by simp),if_pos (show ([] : List Sp).length = 0 from rfl)]
    simp [rC]; omega
 | node path v a b hv hp _ _ iha ihb =>
   intro n h0 y m
   rw [qR] at h0 ⊢
   by_cases h1 : 4096 < n + 1
   ·rw [if_pos h1] at h0; cases h0
   rw [if_neg h1,if_neg (by simp),if_neg (by simp),if_neg (by omega),if_neg (by rw [Int.toNat_natCast,hp]; simp),if_neg (by simp),Int.toNat_natCast,jI] at h0 ⊢
   by_cases h2 : (fD vars a (path ||| 2 ^ v) (n + 1)).2 ≠ 0
   ·rw [if_pos h2] at h0; exact absurd h0 h2
   have h2 : (fD vars a (path ||| 2 ^ v) (n + 1)).2 = 0:=by simpa using h2
   rw [if_neg (by rw [h2]; simp),jI] at h0 ⊢
   have ia:=iha (n + 1) h2 y (m ||| 2 ^ v)
   generalize (fD vars a (path ||| 2 ^ v) (n + 1)).1 = n1 at *
   by_cases h3 : (fD vars b (path ||| 2 ^ v) n1).2 ≠ 0
   ·rw [if_pos h3] at h0; exact absurd h0 h3
   have h3 : (fD vars b (path ||| 2 ^ v) n1).2 = 0:=by simpa using h3
   rw [if_neg (by rw [h3]; simp),wB] at h0 ⊢
   have ib:=ihb n1 h3 (y ||| 2 ^ v) m
   rw [rC,Int.toNat_natCast,List.length_append]
   dsimp only
   omega

theorem LZ {v : Nat} {t : Sp} (hv : v <= 24) (h : kD v t = 0) : Ar v 0 t /\ (rC t 0 0).length <= 4096:=by
 unfold kD at h
 rw [if_neg (by omega),Int.toNat_natCast] at h
 have h1:=yT v t 0 0 h
 have h2:=S9 h1 0 h 0 0
 have h3:=(qQ v t 0 0 (by omega)).2 h
 exact ⟨h1,by omega⟩

theorem UU (vars : Int) (t : Sp) (h : kD vars t ≠ 0) : aA Tryz.prog 103 [t.av,.int .i64 vars] [] (.eG [.aG,rF (kD vars t)]) []:=by
 have cc:=Jl vars t _ rfl
 rw [gq h] at cc ⊢
 generalize kD vars t = E at *
 obtain ⟨v,ks,r⟩:=t
 rw [Sp.iy] at cc ⊢
 refine aA.intro lay mixed Tryz.func103 (by kernel_rfl) rfl (by kernel_rfl) rfl fun hok=>?_
 (try dsimp only[aZ,aN]);(try dsimp only[aj]);conv=>whnf
 refine .pure _ _ ?_ ⟨rfl,rfl⟩ cc fun _=>?_
 ·all_goals exact wk
 (try dsimp only[aj]);conv=>whnf
 refine fM ?_;(conv=>whnf);refine ⟨?_,rfl⟩;conv=>whnf
 all_goals exact wk

def U7 (a b : Fo) (t : Sp) : Int:=if dF a b ≠ 0 then dF a b else kD a.vars t

theorem kZ {a b : Fo} {x : Nat × Nat × Int} : oW a b x = true ↔ tri a x.1 x.2.1 = x.2.2 /\ tri b x.1 x.2.1 = x.2.2 /\ (x.2.2 = 0 \/ x.2.2 = 1):=by
 unfold oW
 simp only [Bool.and_eq_true,decide_eq_true_iff,and_assoc]

theorem BJ {a b : Fo} {l : List (Nat × Nat × Int)} {k : Nat} (h : k < l.length) (hn : ¬ oW a b l[k] = true) : l.all (oW a b) = false:=by
 cases e : l.all (oW a b) with
 | false=>rfl
 | true=>exact absurd (List.all_eq_true.1 e _ (List.getElem_mem h)) hn

theorem Gy {a b : Fo} {l : List (Nat × Nat × Int)} {k : Nat} (h : k < l.length) (h1 : (l.take k).all (oW a b) = true) (h2 : oW a b l[k] = true) : (l.take (k + 1)).all (oW a b) = true:=by
 rw [List.take_succ_eq_append_getElem h,List.all_append,h1]
 simp [h2]

theorem Qm (a b : Fo) (t : Sp) (h0 : dF a b = 0) (hs : kD a.vars t = 0) : aA Tryz.prog 39 [a.av,b.av,t.av] [] (.eG [.bool (Yk a b t),.eP]) []:=by
 have cc:=pq a b _ rfl
 rw [h0,eU] at cc
 obtain ⟨ha,hb,hab⟩:=wY h0
 have hav:=ha.vars
 rw [show a.vars = ((a.vars.toNat : Nat) : Int) by omega] at hs
 obtain ⟨hok,hlen⟩:=LZ (by omega) hs
 have cl:=X7 a.vars.toNat (by omega) t hs (by omega)
 rw [show ((a.vars.toNat : Nat) : Int) = a.vars by omega] at cl
 have hcu : ∀ x ∈ rC t 0 0,∃ p,Ik a.vars.toNat p x.1 x.2.1:=fun x hx=>WC hok (Ik.zero _) x hx
 unfold Yk
 generalize rC t 0 0 = l at *
 obtain ⟨tv,tk,tr⟩:=t
 rw [Sp.iy] at cl ⊢
 refine aA.intro lay mixed Tryz.func39 (by kernel_rfl) rfl (by kernel_rfl) rfl fun hok=>?_
 (try dsimp only[aZ,aN]);(try dsimp only[aj]);conv=>whnf
 refine .pure _ _ ?_ ⟨rfl,rfl⟩ cc fun _=>?_
 ·exact ak _
 (try dsimp only[aj]);conv=>whnf
 refine .pure _ _ ?_ ⟨rfl,rfl⟩ cl fun _=>?_
 ·all_goals exact wk
 (try dsimp only[aj]);conv=>whnf
 refine aK.of <| aC.inv (.refl _ _) (fun (k : Nat)=>k <= l.length /\ (l.take k).all (oW a b) = true) (fun (k : Nat)=>[(36,.int .i64 k)]) (fun _=>_) (fun (k : Nat)=>l.length - k) 0 ?_ (fun _=>rfl) ?_ ?_
 ·exact ⟨Nat.zero_le _,by simp⟩
 ·all_goals exact wk
 rintro k ⟨hk,hall⟩ _
 (try dsimp only[aj]);conv=>whnf
 refine And.intro (fun g=>?_) (fun g=>?_)
 ·have hlt : k < l.length:=by simpa using g
  obtain ⟨p,hc⟩:=hcu _ (List.getElem_mem hlt)
  (try dsimp only[aj]);conv=>whnf
  refine jq hlt ?_
  generalize hx : l[k] = x at *
  obtain ⟨y,n,r⟩:=x
  dsimp only at hc
  have va:=NW a ha hc
  have vb:=NW b hb (by rw [<- hab]; exact hc)
  have r1:=Dv ha y n
  have r2:=Dv hb y n
  (try dsimp only[aj]);conv=>whnf
  refine And.intro (fun g1=>?_) (fun g1=>?_)
  ·obtain rfl : r = 0:=g1
   (try dsimp only[aj]);conv=>whnf
   refine aK.step 3 ?_
   (try dsimp only[aj]);conv=>whnf
   refine bY (by simp) ?_
   (try dsimp only[aj]);conv=>whnf
   refine bZ.mk ⟨_,⟨by decide,rfl⟩,?_⟩
   (try dsimp only[aj]);conv=>whnf
   refine .pure _ _ ?_ ⟨rfl,rfl⟩ va fun _=>?_
   ·exact ak _
   (try dsimp only[aj]);conv=>whnf
   refine And.intro (fun g2=>?_) (fun g2=>?_)
   ·rw [BJ hlt (by rw [hx,kZ]; dsimp only; omega)]
    (try dsimp only[aj]);conv=>whnf
    refine fM ?_;(conv=>whnf);refine ⟨?_,rfl⟩;conv=>whnf
    all_goals exact wk
   have g2 : tri a y n = 0:=by omega
   (try dsimp only[aj]);conv=>whnf
   refine zA ?_;conv=>whnf
   refine bY (by simp) ?_
   (try dsimp only[aj]);conv=>whnf
   refine bZ.mk ⟨_,⟨by decide,rfl⟩,?_⟩
   (try dsimp only[aj]);conv=>whnf
   refine .pure _ _ ?_ ⟨rfl,rfl⟩ vb fun _=>?_
   ·exact ak _
   (try dsimp only[aj]);conv=>whnf
   refine And.intro (fun g3=>?_) (fun g3=>?_)
   ·rw [BJ hlt (by rw [hx,kZ]; dsimp only; omega)]
    (try dsimp only[aj]);conv=>whnf
    refine fM ?_;(conv=>whnf);refine ⟨?_,rfl⟩;conv=>whnf
    all_goals exact wk
   have g3 : tri b y n = 0:=by omega
   (try dsimp only[aj]);conv=>whnf
   refine zA ?_;conv=>whnf
   refine bN (by simp) ?_
   (try dsimp only[aj]);conv=>whnf
   refine zA ?_;conv=>whnf
   refine ⟨k + 1,?_,?_,?_⟩
   ·exact ⟨hlt,Gy hlt hall (by rw [hx,kZ]; dsimp only; omega)⟩
   ·refine ⟨?_,.mk ?_ (by simp [ay])⟩
    ·all_goals exact wk
    ·all_goals exact wk
   ·omega
  (try dsimp only[aj]);conv=>whnf
  refine And.intro (fun g1'=>?_) (fun g1'=>?_)
  ·obtain rfl : r = 1:=g1'
   (try dsimp only[aj]);conv=>whnf
   refine aK.step 3 ?_
   (try dsimp only[aj]);conv=>whnf
   refine bY (by simp) ?_
   (try dsimp only[aj]);conv=>whnf
   refine bZ.mk ⟨_,⟨by decide,rfl⟩,?_⟩
   (try dsimp only[aj]);conv=>whnf
   refine .pure _ _ ?_ ⟨rfl,rfl⟩ va fun _=>?_
   ·exact ak _
   (try dsimp only[aj]);conv=>whnf
   refine And.intro (fun g2=>?_) (fun g2=>?_)
   ·rw [BJ hlt (by rw [hx,kZ]; dsimp only; omega)]
    (try dsimp only[aj]);conv=>whnf
    refine fM ?_;(conv=>whnf);refine ⟨?_,rfl⟩;conv=>whnf
    all_goals exact wk
   have g2 : tri a y n = 1:=by omega
   (try dsimp only[aj]);conv=>whnf
   refine zA ?_;conv=>whnf
   refine bY (by simp) ?_
   (try dsimp only[aj]);conv=>whnf
   refine bZ.mk ⟨_,⟨by decide,rfl⟩,?_⟩
   (try dsimp only[aj]);conv=>whnf
   refine .pure _ _ ?_ ⟨rfl,rfl⟩ vb fun _=>?_
   ·exact ak _
   (try dsimp only[aj]);conv=>whnf
   refine And.intro (fun g3=>?_) (fun g3=>?_)
   ·rw [BJ hlt (by rw [hx,kZ]; dsimp only; omega)]
    (try dsimp only[aj]);conv=>whnf
    refine fM ?_;(conv=>whnf);refine ⟨?_,rfl⟩;conv=>whnf
    all_goals exact wk
   have g3 : tri b y n = 1:=by omega
   (try dsimp only[aj]);conv=>whnf
   refine zA ?_;conv=>whnf
   refine bN (by simp) ?_
   (try dsimp only[aj]);conv=>whnf
   refine zA ?_;conv=>whnf
   refine ⟨k + 1,?_,?_,?_⟩
   ·exact ⟨hlt,Gy hlt hall (by rw [hx,kZ]; dsimp only; omega)⟩
   ·refine ⟨?_,.mk ?_ (by simp [ay])⟩
    ·all_goals exact wk
    ·all_goals exact wk
   ·omega
  ·have g1 : ¬ r = 0:=g1
   have g1' : ¬ r = 1:=g1'
   rw [BJ hlt (by rw [hx,kZ]; dsimp only; omega)]
   (try dsimp only[aj]);conv=>whnf
   refine fM ?_;(conv=>whnf);refine ⟨?_,rfl⟩;conv=>whnf
   all_goals exact wk
 have hk : k = l.length:=by (have : ¬ k < l.length:=by simpa using g); omega
 subst hk
 rw [List.take_length] at hall
 rw [hall]
 (try dsimp only[aj]);conv=>whnf
 refine fM ?_;(conv=>whnf);refine ⟨?_,rfl⟩;conv=>whnf
 all_goals exact wk

theorem Qn (a b : Fo) (t : Sp) (he : U7 a b t ≠ 0) : aA Tryz.prog 39 [a.av,b.av,t.av] [] (.eG [.ff,rF (U7 a b t)]) []:=by
 have cc:=pq a b _ rfl
 by_cases h1 : dF a b ≠ 0
 ·rw [show U7 a b t = dF a b from if_pos h1]
  rw [gq h1] at cc ⊢
  generalize dF a b = E at *
  obtain ⟨tv,tk,tr⟩:=t
  rw [Sp.iy]
  refine aA.intro lay mixed Tryz.func39 (by kernel_rfl) rfl (by kernel_rfl) rfl fun hok=>?_
  (try dsimp only[aZ,aN]);(try dsimp only[aj]);conv=>whnf
  refine .pure _ _ ?_ ⟨rfl,rfl⟩ cc fun _=>?_
  ·exact ak _
  (try dsimp only[aj]);conv=>whnf
  refine fM ?_;(conv=>whnf);refine ⟨?_,rfl⟩;conv=>whnf
  all_goals exact wk
 ·have e1 : U7 a b t = kD a.vars t:=if_neg h1
  have h1 : dF a b = 0:=by simpa using h1
  rw [h1,eU] at cc
  rw [e1] at he ⊢
  have cl:=UU a.vars t he
  rw [gq he] at cl ⊢
  generalize kD a.vars t = E at *
  obtain ⟨tv,tk,tr⟩:=t
  rw [Sp.iy] at cl ⊢
  refine aA.intro lay mixed Tryz.func39 (by kernel_rfl) rfl (by kernel_rfl) rfl fun hok=>?_
  (try dsimp only[aZ,aN]);(try dsimp only[aj]);conv=>whnf
  refine .pure _ _ ?_ ⟨rfl,rfl⟩ cc fun _=>?_
  ·exact ak _
  (try dsimp only[aj]);conv=>whnf
  refine .pure _ _ ?_ ⟨rfl,rfl⟩ cl fun _=>?_
  ·all_goals exact wk
  (try dsimp only[aj]);conv=>whnf
  refine fM ?_;(conv=>whnf);refine ⟨?_,rfl⟩;conv=>whnf
  all_goals exact wk

theorem KJ (a b : Fo) (t : Sp) (h0 : dF a b = 0) (hs : kD a.vars t = 0) : aA Tryz.prog 41 [a.av,b.av,t.av] [] (.bool (Yk a b t)) []:=by
 obtain ⟨ha,hb,hab⟩:=wY h0
 have hav:=ha.vars
 have Zp : 2 ^ a.vars.toNat <= 2 ^ 24:=Nat.pow_le_pow_right (by decide) (by omega)
 rw [show a.vars = ((a.vars.toNat : Nat) : Int) by omega] at hs
 obtain ⟨hok,hlen⟩:=LZ (by omega) hs
 have cl:=Oc a.vars.toNat (by omega) t hs (by omega)
 rw [show ((a.vars.toNat : Nat) : Int) = a.vars by omega] at cl
 have hcu : ∀ x ∈ rC t 0 0,∃ p,Ik a.vars.toNat p x.1 x.2.1:=fun x hx=>WC hok (Ik.zero _) x hx
 unfold Yk
 generalize rC t 0 0 = l at *
 obtain ⟨tv,tk,tr⟩:=t
 rw [Sp.iy] at cl ⊢
 refine aA.intro lay mixed Tryz.func41 (by kernel_rfl) rfl (by kernel_rfl) rfl fun hok=>?_
 (try dsimp only[aZ,aN]);(try dsimp only[aj]);conv=>whnf
 refine .pure _ _ ?_ ⟨rfl,rfl⟩ cl fun _=>?_
 ·all_goals exact wk
 (try dsimp only[aj]);conv=>whnf
 refine aK.of <| aC.inv (.refl _ _) (fun (k : Nat)=>k <= l.length /\ (l.take k).all (oW a b) = true) (fun (k : Nat)=>[(9,.int .i64 k)]) (fun _=>_) (fun (k : Nat)=>l.length - k) 0 ?_ (fun _=>rfl) ?_ ?_
 ·exact ⟨Nat.zero_le _,by simp⟩
 ·all_goals exact wk
 rintro k ⟨hk,hall⟩ _
 (try dsimp only[aj]);conv=>whnf
 rw [List.length_map]
 refine And.intro (fun g=>?_) (fun g=>?_)
 ·have hlt : k < l.length:=by omega
  obtain ⟨p,hc⟩:=hcu _ (List.getElem_mem hlt)
  have hyl:=hc.yl
  have hnl:=hc.nl
  have va:=Gf a ha (l[k]).1 (l[k]).2.1 (by omega) (by omega)
  have vb:=Gf b hb (l[k]).1 (l[k]).2.1 (by omega) (by omega)
  have r1:=Dv ha (l[k]).1 (l[k]).2.1
  have r2:=Dv hb (l[k]).1 (l[k]).2.1
  have hno : ∀ _ : ¬ oW a b l[k] = true,l.all (oW a b) = false:=fun h=>BJ hlt h
  have hyes : oW a b l[k] = true -> (l.take (k + 1)).all (oW a b) = true:=fun h=>Gy hlt hall h
  rw [kZ] at hno hyes
  (try dsimp only[aj]);conv=>whnf
  refine aS.auto (by kernel_rfl) ?_;conv=>whnf
  refine jq hlt ?_
  conv=>whnf
  refine fO.pure _ _ ?_ ⟨rfl,rfl⟩ va ?_
  ·exact ak _
  conv=>whnf
  refine jq hlt ?_
  conv=>whnf
  refine fO.pure _ _ ?_ ⟨rfl,rfl⟩ vb ?_
  ·exact ak _
  (try dsimp only[aj]);conv=>whnf
  refine And.intro (fun g1=>?_) (fun g1=>?_)
  ·rw [hno (by omega)]
   (try dsimp only[aj]);conv=>whnf
   refine fM ?_;(conv=>whnf);refine ⟨?_,rfl⟩;conv=>whnf
   all_goals exact wk
  (try dsimp only[aj]);conv=>whnf
  refine And.intro (fun g2=>?_) (fun g2=>?_)
  ·rw [hno (by omega)]
   (try dsimp only[aj]);conv=>whnf
   refine fM ?_;(conv=>whnf);refine ⟨?_,rfl⟩;conv=>whnf
   all_goals exact wk
  (try dsimp only[aj]);conv=>whnf
  refine jq hlt ?_
  (try dsimp only[aj]);conv=>whnf
  refine And.intro (fun g3=>?_) (fun g3=>?_)
  ·rw [hno (by omega)]
   (try dsimp only[aj]);conv=>whnf
   refine fM ?_;(conv=>whnf);refine ⟨?_,rfl⟩;conv=>whnf
   all_goals exact wk
  (try dsimp only[aj]);conv=>whnf
  refine zA ?_;conv=>whnf
  refine ⟨k + 1,?_,?_,?_⟩
  ·exact ⟨hlt,hyes (by omega)⟩
  ·all_goals exact wk
  ·omega
 have hk : k = l.length:=by omega
 subst hk
 rw [List.take_length] at hall
 rw [hall]
 (try dsimp only[aj]);conv=>whnf
 refine fM ?_;(conv=>whnf);refine ⟨?_,rfl⟩;conv=>whnf
 all_goals exact wk

theorem BH (a b : Fo) (t : Sp) : aA Tryz.prog 9 [a.av,b.av,t.av] [] (.bool true) []:=by
 have ch:=UL a b
 have cz:=XL t 0 (by omega)
 have cK:=F9 a b
 have cQ:=F8 a.vars t
 have cE:=fun he=>Qn a b t he
 have cO:=fun h0 hs=>Qm a b t h0 hs
 have cR:=fun h0 hs=>KJ a b t h0 hs
 have eE : U7 a b t = if dF a b ≠ 0 then dF a b else kD a.vars t:=rfl
 generalize Yk a b t = B at *
 generalize U7 a b t = E at *
 generalize kD a.vars t = S1 at *
 generalize YH t 0 = sz at *
 obtain ⟨tv,tk,tr⟩:=t
 rw [Sp.iy] at *
 cases hh : hvB a b with
 | true =>
   rw [hh] at ch
   refine aA.intro lay mixed Tryz.func9 (by kernel_rfl) rfl (by kernel_rfl) rfl fun hok=>?_
   (try dsimp only[aZ,aN]);(try dsimp only[aj]);conv=>whnf
   refine .pure _ _ ?_ ⟨rfl,rfl⟩ xq fun _=>?_
   ·exact ak _
   (try dsimp only[aj]);conv=>whnf
   refine .pure _ _ ?_ ⟨rfl,rfl⟩ ch fun _=>?_
   ·exact ak _
   (try dsimp only[aj]);conv=>whnf
   refine And.intro (fun _=>?_) (fun h=>absurd h (by simp))
   (try dsimp only[aj]);conv=>whnf
   refine .pure _ _ ?_ ⟨rfl,rfl⟩ xq fun _=>?_
   ·exact ak _
   (try dsimp only[aj]);conv=>whnf
   refine fM ?_;(conv=>whnf);refine ⟨?_,rfl⟩;conv=>whnf
   all_goals exact wk
 | false =>
 rw [hh] at ch
 refine aA.intro lay mixed Tryz.func9 (by kernel_rfl) rfl (by kernel_rfl) rfl fun hok=>?_
 (try dsimp only[aZ,aN]);(try dsimp only[aj]);conv=>whnf
 refine .pure _ _ ?_ ⟨rfl,rfl⟩ xq fun _=>?_
 ·exact ak _
 (try dsimp only[aj]);conv=>whnf
 refine .pure _ _ ?_ ⟨rfl,rfl⟩ ch fun _=>?_
 ·exact ak _
 (try dsimp only[aj]);conv=>whnf
 refine And.intro (fun h=>absurd h (by simp)) (fun _=>?_)
 (try dsimp only[aj]);conv=>whnf
 refine .pure _ _ ?_ ⟨rfl,rfl⟩ cz fun _=>?_
 ·all_goals exact wk
 (try dsimp only[aj]);conv=>whnf
 refine And.intro (fun _=>?_) (fun _=>?_)
 ·(try dsimp only[aj]);conv=>whnf
  refine .pure _ _ ?_ ⟨rfl,rfl⟩ xq fun _=>?_
  ·exact ak _
  (try dsimp only[aj]);conv=>whnf
  refine fM ?_;(conv=>whnf);refine ⟨?_,rfl⟩;conv=>whnf
  all_goals exact wk
 by_cases h1 : dF a b ≠ 0
 ·rw [if_pos h1] at eE
  subst eE
  have cE:=cE h1
  have cN:=c_Num (dF a b)
  rw [gq h1] at cE cN
  generalize dF a b = E at *
  (try dsimp only[aj]);conv=>whnf
  refine .pure _ _ ?_ ⟨rfl,rfl⟩ cE fun _=>?_
  ·all_goals exact wk
  (try dsimp only[aj]);conv=>whnf
  refine .pure _ _ ?_ ⟨rfl,rfl⟩ cK fun _=>?_
  ·exact ak _
  (try dsimp only[aj]);conv=>whnf
  refine bN h1 ?_
  (try dsimp only[aj]);conv=>whnf
  refine bY h1 ?_
  (try dsimp only[aj]);conv=>whnf
  refine .pure _ _ ?_ ⟨rfl,rfl⟩ cN fun _=>?_
  ·exact ak _
  (try dsimp only[aj]);conv=>whnf
  refine fM ?_;(conv=>whnf);refine ⟨?_,rfl⟩;conv=>whnf
  show E = E ↔ true = true
  simp
 have h1 : dF a b = 0:=by simpa using h1
 rw [if_neg (by rw [h1]; simp)] at eE
 subst eE
 rw [h1] at cK
 by_cases h2 : E ≠ 0
 ·have cE:=cE h2
  have cN:=c_Num E
  rw [gq h2] at cE cN
  (try dsimp only[aj]);conv=>whnf
  refine .pure _ _ ?_ ⟨rfl,rfl⟩ cE fun _=>?_
  ·all_goals exact wk
  (try dsimp only[aj]);conv=>whnf
  refine .pure _ _ ?_ ⟨rfl,rfl⟩ cK fun _=>?_
  ·exact ak _
  (try dsimp only[aj]);conv=>whnf
  refine bY rfl ?_
  (try dsimp only[aj]);conv=>whnf
  refine .pure _ _ ?_ ⟨rfl,rfl⟩ cQ fun _=>?_
  ·all_goals exact wk
  (try dsimp only[aj]);conv=>whnf
  refine bY h2 ?_
  (try dsimp only[aj]);conv=>whnf
  refine .pure _ _ ?_ ⟨rfl,rfl⟩ cN fun _=>?_
  ·exact ak _
  (try dsimp only[aj]);conv=>whnf
  refine fM ?_;(conv=>whnf);refine ⟨?_,rfl⟩;conv=>whnf
  show E = E ↔ true = true
  simp
 obtain rfl : E = 0:=by simpa using h2
 have cO:=cO h1 rfl
 have cR:=cR h1 rfl
 (try dsimp only[aj]);conv=>whnf
 refine .pure _ _ ?_ ⟨rfl,rfl⟩ cO fun _=>?_
 ·all_goals exact wk
 (try dsimp only[aj]);conv=>whnf
 refine .pure _ _ ?_ ⟨rfl,rfl⟩ cK fun _=>?_
 ·exact ak _
 (try dsimp only[aj]);conv=>whnf
 refine bY rfl ?_
 (try dsimp only[aj]);conv=>whnf
 refine .pure _ _ ?_ ⟨rfl,rfl⟩ cQ fun _=>?_
 ·all_goals exact wk
 (try dsimp only[aj]);conv=>whnf
 refine bN (by simp) ?_
 (try dsimp only[aj]);conv=>whnf
 refine .pure _ _ ?_ ⟨rfl,rfl⟩ cR fun _=>?_
 ·all_goals exact wk
 (try dsimp only[aj]);conv=>whnf
 refine fM ?_;(conv=>whnf);refine ⟨?_,rfl⟩;conv=>whnf
 show _ ↔ true = true
 simp

theorem J5 {α : Type} {f : α -> AV} : ∀ {l : List AV},(∀ x ∈ l,∃ y,x = f y) -> ∃ m : List α,l = m.map f
 | [],_=>⟨[],rfl⟩
 | x :: l,h=>by
   obtain ⟨y,rfl⟩:=h x (by simp)
   obtain ⟨m,rfl⟩:=J5 (l:=l) fun z hz=>h z (by simp [hz])
   exact ⟨y :: m,rfl⟩

theorem Zn {sz : Nat} {k : IntKind} {A : AV} (h : (Sh.sl sz (.int k)).In A) : ∃ l : List Int,A = .sl sz (l.map (.int k)) .no:=by
 simp only [Sh.In] at h
 obtain ⟨l,rfl,hl⟩:=h
 obtain ⟨m,rfl⟩:=J5 hl
 exact ⟨m,rfl⟩

theorem Kv {k : IntKind} {A : AV} (h : (Sh.int k).In A) : ∃ n : Int,A = .int k n:=by
 simpa only [Sh.In] using h


theorem sl_of {α : Type} {f : α -> AV} {sh : Sh} {sz : Nat} {A : AV} (hf : ∀ x,sh.In x -> ∃ y,x = f y) (h : (Sh.sl sz sh).In A) : ∃ l : List α,A = .sl sz (l.map f) .no:=by
 unfold Sh.In at h
 obtain ⟨l,rfl,hl⟩:=h
 obtain ⟨m,rfl⟩:=J5 fun x hx=>hf x (hl x hx)
 exact ⟨m,rfl⟩

structure Ak where
 page : Int
 inp : Str
 old : Str
 new : Str


abbrev shNd : Sh:=.st [.int .i64,.int .i64,.sl 1 (.int .i64)]
abbrev shFo : Sh:=.st [.int .i64,.sl 3 shNd,.int .i64]

theorem Nd.of {A : AV} (h : shNd.In A) : ∃ x : Nd,A = x.av:=by
 unfold Sh.In at h
 simp only [InL] at h
 obtain ⟨_,rfl,_,_,rfl,h0,_,_,rfl,h1,_,_,rfl,h2,rfl⟩:=h
 obtain ⟨a,rfl⟩:=Kv h0
 obtain ⟨b,rfl⟩:=Kv h1
 obtain ⟨c,rfl⟩:=Zn h2
 exact ⟨⟨a,b,c⟩,rfl⟩

theorem Fo.of {A : AV} (h : shFo.In A) : ∃ x : Fo,A = x.av:=by
 unfold Sh.In at h
 simp only [InL] at h
 obtain ⟨_,rfl,_,_,rfl,h0,_,_,rfl,h1,_,_,rfl,h2,rfl⟩:=h
 obtain ⟨a,rfl⟩:=Kv h0
 obtain ⟨b,rfl⟩:=sl_of (f:=Nd.av) (fun _ hx=>Nd.of hx) h1
 obtain ⟨c,rfl⟩:=Kv h2
 exact ⟨⟨a,b,c⟩,rfl⟩

theorem Sp.ofL : ∀ {ks : List AV},(∀ k ∈ ks,∃ s : Sp,k = s.av) -> ∃ l : List Sp,ks = l.map Sp.av
 | [],_=>⟨[],rfl⟩
 | k :: ks,h=>by
   obtain ⟨s,hs⟩:=h k (by simp)
   obtain ⟨l,hl⟩:=Sp.ofL (fun u hu=>h u (List.mem_cons_of_mem _ hu))
   exact ⟨s :: l,by rw [hs,hl]; rfl⟩

theorem Sp.of {A : AV} (h : QB A) : ∃ s : Sp,A = s.av:=by
 induction h with
 | mk v r ks _ ih =>
   obtain ⟨l,rfl⟩:=Sp.ofL ih
   exact ⟨.mk v l r,(Sp.iy v l r).symm⟩
theorem one : OneC:=r_of
end S
