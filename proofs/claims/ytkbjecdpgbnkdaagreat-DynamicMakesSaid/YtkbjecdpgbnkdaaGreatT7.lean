/-
  Contracts of functions of the program, over the logic of the texts before. Nothing is assumed.
-/
import Derived.Test.YtkbjecdpgbnkdaaGreatT6

open Go Go.AL Go.Proofs
namespace S
set_option maxRecDepth 100000

theorem c_rGates (m : Md) (a : Int) (h : a = -1 ∨ (0 ≤ a ∧ a < (m.pages.length : Int))) : FnH Tryz.prog 87 [m.av,.int .i64 a] [] (gL (gatesM m a)) []:=by
 refine FnH.intro lay mixed Tryz.func87 (by kernel_rfl) rfl (by kernel_rfl) rfl fun hok=>?_
 (try dsimp only[argC,succC]);(try dsimp only[awp]);conv=>whnf
 refine And.intro (fun h1=>?_) (fun h1=>?_)
 ·rw [show gatesM m a = m.gates from if_pos (by omega)]
  (try dsimp only[awp]);conv=>whnf
  refine fM ?_;(conv=>whnf);refine ⟨?_,rfl⟩;conv=>whnf
  all_goals exact wk
 ·rw [show gatesM m a = (m.pages.getD a.toNat default).gates from if_neg (by omega)]
  (try dsimp only[awp]);conv=>whnf
  refine aidxD default (by omega) ?_
  (try dsimp only[awp]);conv=>whnf
  refine fM ?_;(conv=>whnf);refine ⟨?_,rfl⟩;conv=>whnf
  all_goals exact wk

theorem c_shape (h1 : OneC) (m : Md) (a : Int) (i : Nat) (ha : a = -1 ∨ (0 ≤ a ∧ a < (m.pages.length : Int))) (hi : i < (gatesM m a).length) (hX : shortX (gatesM m a)[i].dorm) (R : AV) (hR : R = .int .i64 (gateErrM m a i (gatesM m a)[i])) :
  FnH Tryz.prog 88 [m.av,.int .i64 a,.int .i64 i] [] R []:=by
 have ce:=fun s=>c_revent m s
 have ch:=fun s=>c_rhouse m s
 have cg:=fun s=>c_rgate (gatesM m a) s
 have cG:=c_rGates m a ha
 refine FnH.intro lay mixed Tryz.func88 (by kernel_rfl) rfl (by kernel_rfl) rfl fun hok=>?_
 (try dsimp only[argC,succC]);(try dsimp only[awp]);conv=>whnf
 refine .pure _ _ ?_ ⟨rfl,rfl⟩ cG fun hokl=>?_
 ·exact leL_refl _
 have hal : (gatesM m a)[i].ins.length ≤ 9223372036854775807:=by
  have h2:=OkL_map hokl.2 _ (List.getElem_mem hi)
  simp only [Ok,OkL] at h2
  simpa [maxL] using h2.2.2.2.1.1
 (try dsimp only[awp]);conv=>whnf
 refine aidx hi ?_
 generalize (gatesM m a)[i] = x at *
 have cb:=c_bounds22 x.kind _ rfl
 have cp:=c_rProbX h1 _ hX
 have cz:=c_rzero x.dorm
 have bz:=bounds_zero x.kind
 have ba:=bounds_args (k:=x.kind) (n:=x.ins.length)
 generalize boundsR x.kind = bd at *
 obtain ⟨b1,b2⟩:=bd
 (try dsimp only[awp]);conv=>whnf
 refine .pure _ _ ?_ ⟨rfl,rfl⟩ cb fun _=>?_
 ·exact leL_refl _
 (try dsimp only[awp]);conv=>whnf
 refine .pure _ _ ?_ ⟨rfl,rfl⟩ (c_Name21 x.name) fun _=>?_
 ·exact leL_refl _
 (try dsimp only[awp]);conv=>whnf
 refine And.intro (fun g1=>?_) (fun g1=>?_)
 ·have g1 : nameR x.name = false:=by simpa using g1
  obtain rfl : R = .int .i64 5:=by rw [hR,show gateErrM m a i x = 5 from by unfold gateErrM; rw [if_pos g1]]
  (try dsimp only[awp]);conv=>whnf
  refine fM ?_;(conv=>whnf);refine ⟨?_,rfl⟩;conv=>whnf
  all_goals exact wk
 have g1 : ¬ nameR x.name = false:=by simpa using g1
 (try dsimp only[awp]);conv=>whnf
 refine .pure _ _ ?_ ⟨rfl,rfl⟩ (ce x.name) fun _=>?_
 ·exact leL_refl _
 (try dsimp only[awp]);conv=>whnf
 refine And.intro (fun g2=>?_) (fun g2=>?_)
 ·(try dsimp only[awp]);conv=>whnf
  refine And.intro (fun _=>?_) (fun h=>absurd g2 h)
  obtain rfl : R = .int .i64 6:=by rw [hR,show gateErrM m a i x = 6 from by unfold gateErrM; rw [if_neg g1,if_pos g2]]
  (try dsimp only[awp]);conv=>whnf
  refine fM ?_;(conv=>whnf);refine ⟨?_,rfl⟩;conv=>whnf
  all_goals exact wk
 (try dsimp only[awp]);conv=>whnf
 refine .pure _ _ ?_ ⟨rfl,rfl⟩ (ch x.name) fun _=>?_
 ·exact leL_refl _
 (try dsimp only[awp]);conv=>whnf
 refine And.intro (fun g3=>?_) (fun g3=>?_)
 ·(try dsimp only[awp]);conv=>whnf
  refine And.intro (fun _=>?_) (fun h=>absurd g3 h)
  obtain rfl : R = .int .i64 6:=by rw [hR,show gateErrM m a i x = 6 from by unfold gateErrM; rw [if_neg g1,if_neg g2,if_pos g3]]
  (try dsimp only[awp]);conv=>whnf
  refine fM ?_;(conv=>whnf);refine ⟨?_,rfl⟩;conv=>whnf
  all_goals exact wk
 (try dsimp only[awp]);conv=>whnf
 refine ADraw.auto (by kernel_rfl) ?_;conv=>whnf
 refine ACallP.pure _ _ ?_ ⟨rfl,rfl⟩ cG ?_
 ·exact leL_refl _
 (try dsimp only[awp]);conv=>whnf
 refine ACallP.pure _ _ ?_ ⟨rfl,rfl⟩ (cg x.name) ?_
 ·exact leL_refl _
 (try dsimp only[awp]);conv=>whnf
 refine And.intro (fun g4=>?_) (fun g4=>?_)
 ·obtain rfl : R = .int .i64 6:=by rw [hR,show gateErrM m a i x = 6 from by unfold gateErrM; rw [if_neg g1,if_neg g2,if_neg g3,if_pos g4]]
  (try dsimp only[awp]);conv=>whnf
  refine fM ?_;(conv=>whnf);refine ⟨?_,rfl⟩;conv=>whnf
  all_goals exact wk
 have hge : ∀ e,mgErr x = e → gateErrM m a i x = e:=fun e h=>by unfold gateErrM; rw [if_neg g1,if_neg g2,if_neg g3,if_neg g4,h]
 (try dsimp only[awp]);conv=>whnf
 refine And.intro (fun n0=>?_) (fun n0=>?_)
 ·have n1:=bz.1 n0
  have hm : mgErr x = 7:=by
   unfold mgErr
   by_cases n2 : x.kind < 0
   ·rw [if_pos n2]
   ·rw [if_neg n2,if_pos (by omega)]
  obtain rfl : R = .int .i64 7:=by rw [hR,hge 7 hm]
  (try dsimp only[awp]);conv=>whnf
  refine fM ?_;(conv=>whnf);refine ⟨?_,rfl⟩;conv=>whnf
  all_goals exact wk
 have n1 : ¬ x.kind < 0:=fun h=>n0 (bz.2 (.inl h))
 have n2 : ¬ 8 < x.kind:=fun h=>n0 (bz.2 (.inr h))
 have ba:=ba n0
 dsimp only at ba
 (try dsimp only[awp]);conv=>whnf
 refine And.intro (fun m1=>?_) (fun m1=>?_)
 ·have n3 : argsR x.kind x.ins.length = false:=by rw [ba]; simp at m1 ⊢; omega
  (try dsimp only[awp]);conv=>whnf
  refine And.intro (fun _=>?_) (fun h=>absurd m1 h)
  obtain rfl : R = .int .i64 11:=by rw [hR,hge 11 (by unfold mgErr; rw [if_neg n1,if_neg n2,if_pos n3])]
  (try dsimp only[awp]);conv=>whnf
  refine fM ?_;(conv=>whnf);refine ⟨?_,rfl⟩;conv=>whnf
  all_goals exact wk
 (try dsimp only[awp]);conv=>whnf
 refine And.intro (fun m2=>?_) (fun m2=>?_)
 ·have n3 : argsR x.kind x.ins.length = false:=by rw [ba]; simp at m2 ⊢; omega
  obtain rfl : R = .int .i64 11:=by rw [hR,hge 11 (by unfold mgErr; rw [if_neg n1,if_neg n2,if_pos n3])]
  (try dsimp only[awp]);conv=>whnf
  refine fM ?_;(conv=>whnf);refine ⟨?_,rfl⟩;conv=>whnf
  all_goals exact wk
 have n3 : ¬ argsR x.kind x.ins.length = false:=by rw [ba]; simp at m1 m2 ⊢; omega
 clear m1 m2 ba bz n0
 (try dsimp only[awp]);conv=>whnf
 refine And.intro (fun k2=>?_) (fun k2=>?_)
 ·have n5 : ¬ (x.kind ≠ 2 ∧ x.k ≠ 0):=fun h=>h.1 k2
  (try dsimp only[awp]);conv=>whnf
  refine And.intro (fun kk=>?_) (fun kk=>?_)
  ·obtain rfl : R = .int .i64 3:=by rw [hR,hge 3 (by unfold mgErr; rw [if_neg n1,if_neg n2,if_neg n3,if_pos ⟨k2,.inl kk⟩])]
   (try dsimp only[awp]);conv=>whnf
   refine fM ?_;(conv=>whnf);refine ⟨?_,rfl⟩;conv=>whnf
   all_goals exact wk
  (try dsimp only[awp]);conv=>whnf
  refine And.intro (fun kl=>?_) (fun kl=>?_)
  ·have kl : (x.ins.length : Int) < x.k:=by simpa using kl
   obtain rfl : R = .int .i64 3:=by rw [hR,hge 3 (by unfold mgErr; rw [if_neg n1,if_neg n2,if_neg n3,if_pos ⟨k2,.inr kl⟩])]
   (try dsimp only[awp]);conv=>whnf
   refine fM ?_;(conv=>whnf);refine ⟨?_,rfl⟩;conv=>whnf
   all_goals exact wk
  have kl : ¬ (x.ins.length : Int) < x.k:=by simpa using kl
  have n4 : ¬ (x.kind = 2 ∧ (x.k < 1 ∨ (x.ins.length : Int) < x.k)):=by omega
  (try dsimp only[awp]);conv=>whnf
  refine And.intro (fun h=>absurd k2 h) (fun _=>?_)
  (try dsimp only[awp]);conv=>whnf
  refine And.intro (fun k7=>?_) (fun k7=>?_)
  ·(try dsimp only[awp]);conv=>whnf
   refine .pure _ _ ?_ ⟨rfl,rfl⟩ cp fun _=>?_
   ·exact leL_refl _
   (try dsimp only[awp]);conv=>whnf
   refine And.intro (fun kp=>?_) (fun kp=>?_)
   ·have kp : prob x.dorm = false:=by simpa using kp
    obtain rfl : R = .int .i64 3:=by rw [hR,hge 3 (by unfold mgErr; rw [if_neg n1,if_neg n2,if_neg n3,if_neg n4,if_neg n5,if_pos ⟨k7,kp⟩])]
    (try dsimp only[awp]);conv=>whnf
    refine fM ?_;(conv=>whnf);refine ⟨?_,rfl⟩;conv=>whnf
    all_goals exact wk
   have kp : prob x.dorm = true:=by simpa using kp
   (try dsimp only[awp]);conv=>whnf
   refine And.intro (fun h=>absurd k7 h) (fun _=>?_)
   obtain rfl : R = .int .i64 0:=by rw [hR,hge 0 (by unfold mgErr; rw [if_neg n1,if_neg n2,if_neg n3,if_neg n4,if_neg n5,if_neg (fun h=>by rw [kp] at h; cases h.2),if_neg (fun h=>h.1 k7)])]
   (try dsimp only[awp]);conv=>whnf
   refine fM ?_;(conv=>whnf);refine ⟨?_,rfl⟩;conv=>whnf
   all_goals exact wk
  ·(try dsimp only[awp]);conv=>whnf
   refine And.intro (fun _=>?_) (fun h=>absurd k7 h)
   (try dsimp only[awp]);conv=>whnf
   refine .pure _ _ ?_ ⟨rfl,rfl⟩ cz fun _=>?_
   ·exact leL_refl _
   (try dsimp only[awp]);conv=>whnf
   refine And.intro (fun kz=>?_) (fun kz=>?_)
   ·have kz : zeroR x.dorm = false:=by simpa using kz
    obtain rfl : R = .int .i64 2:=by rw [hR,hge 2 (by unfold mgErr; rw [if_neg n1,if_neg n2,if_neg n3,if_neg n4,if_neg n5,if_neg (fun h=>k7 h.1),if_pos ⟨k7,kz⟩])]
    (try dsimp only[awp]);conv=>whnf
    refine fM ?_;(conv=>whnf);refine ⟨?_,rfl⟩;conv=>whnf
    all_goals exact wk
   have kz : zeroR x.dorm = true:=by simpa using kz
   obtain rfl : R = .int .i64 0:=by rw [hR,hge 0 (by unfold mgErr; rw [if_neg n1,if_neg n2,if_neg n3,if_neg n4,if_neg n5,if_neg (fun h=>k7 h.1),if_neg (fun h=>by rw [kz] at h; cases h.2)])]
   (try dsimp only[awp]);conv=>whnf
   refine fM ?_;(conv=>whnf);refine ⟨?_,rfl⟩;conv=>whnf
   all_goals exact wk
 ·have n4 : ¬ (x.kind = 2 ∧ (x.k < 1 ∨ (x.ins.length : Int) < x.k)):=by omega
  (try dsimp only[awp]);conv=>whnf
  refine And.intro (fun _=>?_) (fun h=>absurd k2 h)
  (try dsimp only[awp]);conv=>whnf
  refine And.intro (fun kk=>?_) (fun kk=>?_)
  ·obtain rfl : R = .int .i64 2:=by rw [hR,hge 2 (by unfold mgErr; rw [if_neg n1,if_neg n2,if_neg n3,if_neg n4,if_pos ⟨k2,kk⟩])]
   (try dsimp only[awp]);conv=>whnf
   refine fM ?_;(conv=>whnf);refine ⟨?_,rfl⟩;conv=>whnf
   all_goals exact wk
  have n5 : ¬ (x.kind ≠ 2 ∧ x.k ≠ 0):=fun h=>kk h.2
  (try dsimp only[awp]);conv=>whnf
  refine And.intro (fun k7=>?_) (fun k7=>?_)
  ·(try dsimp only[awp]);conv=>whnf
   refine .pure _ _ ?_ ⟨rfl,rfl⟩ cp fun _=>?_
   ·exact leL_refl _
   (try dsimp only[awp]);conv=>whnf
   refine And.intro (fun kp=>?_) (fun kp=>?_)
   ·have kp : prob x.dorm = false:=by simpa using kp
    obtain rfl : R = .int .i64 3:=by rw [hR,hge 3 (by unfold mgErr; rw [if_neg n1,if_neg n2,if_neg n3,if_neg n4,if_neg n5,if_pos ⟨k7,kp⟩])]
    (try dsimp only[awp]);conv=>whnf
    refine fM ?_;(conv=>whnf);refine ⟨?_,rfl⟩;conv=>whnf
    all_goals exact wk
   have kp : prob x.dorm = true:=by simpa using kp
   (try dsimp only[awp]);conv=>whnf
   refine And.intro (fun h=>absurd k7 h) (fun _=>?_)
   obtain rfl : R = .int .i64 0:=by rw [hR,hge 0 (by unfold mgErr; rw [if_neg n1,if_neg n2,if_neg n3,if_neg n4,if_neg n5,if_neg (fun h=>by rw [kp] at h; cases h.2),if_neg (fun h=>h.1 k7)])]
   (try dsimp only[awp]);conv=>whnf
   refine fM ?_;(conv=>whnf);refine ⟨?_,rfl⟩;conv=>whnf
   all_goals exact wk
  ·(try dsimp only[awp]);conv=>whnf
   refine And.intro (fun _=>?_) (fun h=>absurd k7 h)
   (try dsimp only[awp]);conv=>whnf
   refine .pure _ _ ?_ ⟨rfl,rfl⟩ cz fun _=>?_
   ·exact leL_refl _
   (try dsimp only[awp]);conv=>whnf
   refine And.intro (fun kz=>?_) (fun kz=>?_)
   ·have kz : zeroR x.dorm = false:=by simpa using kz
    obtain rfl : R = .int .i64 2:=by rw [hR,hge 2 (by unfold mgErr; rw [if_neg n1,if_neg n2,if_neg n3,if_neg n4,if_neg n5,if_neg (fun h=>k7 h.1),if_pos ⟨k7,kz⟩])]
    (try dsimp only[awp]);conv=>whnf
    refine fM ?_;(conv=>whnf);refine ⟨?_,rfl⟩;conv=>whnf
    all_goals exact wk
   have kz : zeroR x.dorm = true:=by simpa using kz
   obtain rfl : R = .int .i64 0:=by rw [hR,hge 0 (by unfold mgErr; rw [if_neg n1,if_neg n2,if_neg n3,if_neg n4,if_neg n5,if_neg (fun h=>k7 h.1),if_neg (fun h=>by rw [kz] at h; cases h.2)])]
   (try dsimp only[awp]);conv=>whnf
   refine fM ?_;(conv=>whnf);refine ⟨?_,rfl⟩;conv=>whnf
   all_goals exact wk

abbrev tAV (x : Node) : AV:=.tup [.int .i64 x.1,.int .i64 x.2.1,.int .i64 x.2.2]

def findR (m : Md) (a : Int) (s : Str) : Node :=
 if 0 ≤ i_event m.evs s then (0,0,i_event m.evs s) else if 0 ≤ i_house m.hs s then (1,0,i_house m.hs s) else if 0 ≤ i_gate (gatesM m a) s then (2,a,i_gate (gatesM m a) s) else (-1,0,0)

def findX (m : Md) (a : Int) (s : Str) : Node :=
 if atS s = true then (if i_page m.pages (s.drop 1) < 0 then (-1,0,0) else findR m (i_page m.pages (s.drop 1)) (pageTop m (i_page m.pages (s.drop 1)))) else findR m a s

theorem c_Find1 (m : Md) (a : Int) (s : Str) (ha : a = -1 ∨ (0 ≤ a ∧ a < (m.pages.length : Int))) (e : atS s = false) : FnH Tryz.prog 176 [m.av,.int .i64 a,.str s] [] (tAV (findX m a s)) []:=by
 refine FnH.intro lay mixed Tryz.func176 (by kernel_rfl) rfl (by kernel_rfl) rfl fun hok=>?_
 (try dsimp only[argC,succC]);(try dsimp only[awp]);conv=>whnf
 refine And.intro (fun h1=>?_) (fun h1=>?_)
 ·have h1 : 0 < s.length:=by omega
  (try dsimp only[awp]);conv=>whnf
  refine sidx0 h1 ?_
  (try dsimp only[awp]);conv=>whnf
  refine And.intro (fun h2=>?_) (fun h2=>?_)
  ·exfalso
   rw [show atS s = true from by simp only [atS,h1,h2,decide_true,Bool.true_and]] at e
   cases e
  ·rw [show findX m a s = findR m a s from if_neg (by rw [e]; simp)]
   (try dsimp only[awp]);conv=>whnf
   refine .pure _ _ ?_ ⟨rfl,rfl⟩ (c_revent m s) fun _=>?_
   ·exact leL_refl _
   (try dsimp only[awp]);conv=>whnf
   refine And.intro (fun h3=>?_) (fun h3=>?_)
   ·rw [show findR m a s = (0,0,i_event m.evs s) from if_pos h3]
    (try dsimp only[awp]);conv=>whnf
    refine fM ?_;(conv=>whnf);refine ⟨?_,rfl⟩;conv=>whnf
    all_goals exact wk
   (try dsimp only[awp]);conv=>whnf
   refine .pure _ _ ?_ ⟨rfl,rfl⟩ (c_rhouse m s) fun _=>?_
   ·exact leL_refl _
   (try dsimp only[awp]);conv=>whnf
   refine And.intro (fun h4=>?_) (fun h4=>?_)
   ·rw [show findR m a s = (1,0,i_house m.hs s) from (if_neg h3).trans (if_pos h4)]
    (try dsimp only[awp]);conv=>whnf
    refine fM ?_;(conv=>whnf);refine ⟨?_,rfl⟩;conv=>whnf
    all_goals exact wk
   (try dsimp only[awp]);conv=>whnf
   refine .pure _ _ ?_ ⟨rfl,rfl⟩ (c_rGates m a ha) fun _=>?_
   ·exact leL_refl _
   (try dsimp only[awp]);conv=>whnf
   refine .pure _ _ ?_ ⟨rfl,rfl⟩ (c_rgate (gatesM m a) s) fun _=>?_
   ·exact leL_refl _
   (try dsimp only[awp]);conv=>whnf
   refine And.intro (fun h5=>?_) (fun h5=>?_)
   ·rw [show findR m a s = (2,a,i_gate (gatesM m a) s) from (if_neg h3).trans ((if_neg h4).trans (if_pos h5))]
    (try dsimp only[awp]);conv=>whnf
    refine fM ?_;(conv=>whnf);refine ⟨?_,rfl⟩;conv=>whnf
    all_goals exact wk
   rw [show findR m a s = (-1,0,0) from (if_neg h3).trans ((if_neg h4).trans (if_neg h5))]
   (try dsimp only[awp]);conv=>whnf
   refine fM ?_;(conv=>whnf);refine ⟨?_,rfl⟩;conv=>whnf
   all_goals exact wk
 ·rw [show findX m a s = findR m a s from if_neg (by rw [e]; simp)]
  (try dsimp only[awp]);conv=>whnf
  refine .pure _ _ ?_ ⟨rfl,rfl⟩ (c_revent m s) fun _=>?_
  ·exact leL_refl _
  (try dsimp only[awp]);conv=>whnf
  refine And.intro (fun h3=>?_) (fun h3=>?_)
  ·rw [show findR m a s = (0,0,i_event m.evs s) from if_pos h3]
   (try dsimp only[awp]);conv=>whnf
   refine fM ?_;(conv=>whnf);refine ⟨?_,rfl⟩;conv=>whnf
   all_goals exact wk
  (try dsimp only[awp]);conv=>whnf
  refine .pure _ _ ?_ ⟨rfl,rfl⟩ (c_rhouse m s) fun _=>?_
  ·exact leL_refl _
  (try dsimp only[awp]);conv=>whnf
  refine And.intro (fun h4=>?_) (fun h4=>?_)
  ·rw [show findR m a s = (1,0,i_house m.hs s) from (if_neg h3).trans (if_pos h4)]
   (try dsimp only[awp]);conv=>whnf
   refine fM ?_;(conv=>whnf);refine ⟨?_,rfl⟩;conv=>whnf
   all_goals exact wk
  (try dsimp only[awp]);conv=>whnf
  refine .pure _ _ ?_ ⟨rfl,rfl⟩ (c_rGates m a ha) fun _=>?_
  ·exact leL_refl _
  (try dsimp only[awp]);conv=>whnf
  refine .pure _ _ ?_ ⟨rfl,rfl⟩ (c_rgate (gatesM m a) s) fun _=>?_
  ·exact leL_refl _
  (try dsimp only[awp]);conv=>whnf
  refine And.intro (fun h5=>?_) (fun h5=>?_)
  ·rw [show findR m a s = (2,a,i_gate (gatesM m a) s) from (if_neg h3).trans ((if_neg h4).trans (if_pos h5))]
   (try dsimp only[awp]);conv=>whnf
   refine fM ?_;(conv=>whnf);refine ⟨?_,rfl⟩;conv=>whnf
   all_goals exact wk
  rw [show findR m a s = (-1,0,0) from (if_neg h3).trans ((if_neg h4).trans (if_neg h5))]
  (try dsimp only[awp]);conv=>whnf
  refine fM ?_;(conv=>whnf);refine ⟨?_,rfl⟩;conv=>whnf
  all_goals exact wk

theorem c_Find (m : Md) (a : Int) (s : Str) (ha : a = -1 ∨ (0 ≤ a ∧ a < (m.pages.length : Int))) (ht : ∀ p : Int,0 ≤ p → p < (m.pages.length : Int) → atS (pageTop m p) = false) : FnH Tryz.prog 176 [m.av,.int .i64 a,.str s] [] (tAV (findX m a s)) []:=by
 cases e : atS s
 ·exact c_Find1 m a s ha e
 have cp:=c_rpage m (s.drop 1)
 have hpl : i_page m.pages (s.drop 1) < (m.pages.length : Int):=idxP_lt _ _
 refine FnH.intro lay mixed Tryz.func176 (by kernel_rfl) rfl (by kernel_rfl) rfl fun hok=>?_
 (try dsimp only[argC,succC]);(try dsimp only[awp]);conv=>whnf
 simp only [atS,Bool.and_eq_true,decide_eq_true_eq] at e
 refine And.intro (fun h1=>?_) (fun h1=>by exfalso; omega)
 have h1 : 0 < s.length:=by omega
 (try dsimp only[awp]);conv=>whnf
 refine sidx0 h1 ?_
 (try dsimp only[awp]);conv=>whnf
 refine And.intro (fun h2=>?_) (fun h2=>absurd e.2 h2)
 have e : atS s = true:=by simp only [atS,h1,h2,decide_true,Bool.true_and]
 rw [show findX m a s = if i_page m.pages (s.drop 1) < 0 then (-1,0,0) else findR m (i_page m.pages (s.drop 1)) (pageTop m (i_page m.pages (s.drop 1))) from if_pos e]
 (try dsimp only[awp]);conv=>whnf
 refine ADraw.auto (by kernel_rfl) ?_;conv=>whnf
 refine ⟨⟨by omega,by omega,by omega⟩,?_⟩
 rw [cut1]
 (try dsimp only[awp]);conv=>whnf
 refine ACallP.pure _ _ ?_ ⟨rfl,rfl⟩ cp ?_
 ·exact leL_refl _
 generalize i_page m.pages (s.drop 1) = p at *
 (try dsimp only[awp]);conv=>whnf
 refine And.intro (fun h3=>?_) (fun h3=>?_)
 ·rw [if_pos h3]
  (try dsimp only[awp]);conv=>whnf
  refine fM ?_;(conv=>whnf);refine ⟨?_,rfl⟩;conv=>whnf
  all_goals exact wk
 have h3 : 0 ≤ p:=by omega
 rw [if_neg (by omega)]
 have hf : findX m p (pageTop m p) = findR m p (pageTop m p):=if_neg (by rw [ht p h3 hpl]; simp)
 have cF:=c_Find1 m p (pageTop m p) (.inr ⟨h3,hpl⟩) (ht p h3 hpl)
 rw [hf] at cF
 have hpt : (m.pages.getD p.toNat default).top = pageTop m p:=rfl
 (try dsimp only[awp]);conv=>whnf
 refine ADraw.auto (by kernel_rfl) ?_;conv=>whnf
 refine aidxD default ⟨h3,hpl⟩ ?_
 (try dsimp only[awp]);conv=>whnf
 rw [hpt]
 refine ACallP.pure _ _ ?_ ⟨rfl,rfl⟩ cF ?_
 ·exact leL_refl _
 (try dsimp only[awp]);conv=>whnf
 refine fM ?_;(conv=>whnf);refine ⟨?_,rfl⟩;conv=>whnf
 all_goals exact wk

theorem find_in {m : Md} {a : Int} {s : Str} (e : atS s = false) : isInR m a s = decide (0 ≤ (findX m a s).1):=by
 unfold isInR findX
 rw [if_neg (by rw [e]; simp),if_neg (by rw [e]; simp)]
 unfold findR
 by_cases h1 : 0 ≤ i_event m.evs s
 ·simp [h1]
 by_cases h2 : 0 ≤ i_house m.hs s
 ·simp [h1,h2]
 by_cases h3 : 0 ≤ i_gate (gatesM m a) s
 ·simp [h1,h2,h3]
 ·simp [h1,h2,h3]

theorem c_names (m : Md) (a : Int) (s : Str) (ha : a = -1 ∨ (0 ≤ a ∧ a < (m.pages.length : Int))) : FnH Tryz.prog 174 [m.av,.int .i64 a,.str s] [] (.bool (isInR m a s)) []:=by
 have cp:=c_rpage m (s.drop 1)
 refine FnH.intro lay mixed Tryz.func174 (by kernel_rfl) rfl (by kernel_rfl) rfl fun hok=>?_
 (try dsimp only[argC,succC]);(try dsimp only[awp]);conv=>whnf
 refine And.intro (fun h1=>?_) (fun h1=>?_)
 ·have h1 : 0 < s.length:=by omega
  (try dsimp only[awp]);conv=>whnf
  refine sidx0 h1 ?_
  (try dsimp only[awp]);conv=>whnf
  refine And.intro (fun h2=>?_) (fun h2=>?_)
  ·have e : isInR m a s = decide (0 ≤ i_page m.pages (s.drop 1)):=if_pos (by simp only [atS,h1,h2,decide_true,Bool.true_and])
   rw [e]
   (try dsimp only[awp]);conv=>whnf
   refine ADraw.auto (by kernel_rfl) ?_;conv=>whnf
   refine ⟨⟨by omega,by omega,by omega⟩,?_⟩
   rw [cut1]
   (try dsimp only[awp]);conv=>whnf
   refine ACallP.pure _ _ ?_ ⟨rfl,rfl⟩ cp ?_
   ·exact leL_refl _
   (try dsimp only[awp]);conv=>whnf
   refine fM ?_;(conv=>whnf);refine ⟨?_,rfl⟩;conv=>whnf
   show _ ↔ _
   simp
  ·have e : atS s = false:=by simp only [atS,decide_eq_false h2,Bool.and_false]
   have fi:=find_in (m:=m) (a:=a) e
   have cF:=c_Find1 m a s ha e
   generalize findX m a s = x at *
   obtain ⟨x1,x2,x3⟩:=x
   (try dsimp only[awp]);conv=>whnf
   refine .pure _ _ ?_ ⟨rfl,rfl⟩ cF fun _=>?_
   ·exact leL_refl _
   (try dsimp only[awp]);conv=>whnf
   refine fM ?_;(conv=>whnf);refine ⟨?_,rfl⟩;conv=>whnf
   rw [fi]
   show _ ↔ _
   simp
 ·have e : atS s = false:=by simp only [atS]; rw [decide_eq_false (by omega)]; rfl
  have fi:=find_in (m:=m) (a:=a) e
  have cF:=c_Find1 m a s ha e
  generalize findX m a s = x at *
  obtain ⟨x1,x2,x3⟩:=x
  (try dsimp only[awp]);conv=>whnf
  refine .pure _ _ ?_ ⟨rfl,rfl⟩ cF fun _=>?_
  ·exact leL_refl _
  (try dsimp only[awp]);conv=>whnf
  refine fM ?_;(conv=>whnf);refine ⟨?_,rfl⟩;conv=>whnf
  rw [fi]
  show _ ↔ _
  simp

def inputsR (m : Md) : Int:=if insAll m (atsM m) [] ≠ 0 then insAll m (atsM m) [] else if isInR m (-1) m.top = false then 5 else 0

theorem any_eq_take {l : List Str} {x : Str} (h : ∀ (j : Nat) (hj : j < l.length),j < l.length → l[j] ≠ x) : (l.any fun y=>decide (x = y)) = false:=by
 rw [List.any_eq_false]
 intro y hy
 obtain ⟨j,hj,rfl⟩:=List.getElem_of_mem hy
 simpa using fun e : x = l[j]=>h j hj hj e.symm

theorem any_eq_mem {l : List Str} {x : Str} {j : Nat} (hj : j < l.length) (h : l[j] = x) : (l.any fun y=>decide (x = y)) = true:=by
 rw [List.any_eq_true]
 exact ⟨l[j],List.getElem_mem hj,by simpa using h.symm⟩

theorem c_inputs (m : Md) (hB : MdB m) (R : AV) (hR : R = .int .i64 (inputsR m)) : FnH Tryz.prog 89 [m.av] [] R []:=by
 have ce:=fun s=>c_revent m s
 have hpl:=hB.pages
 refine FnH.intro lay mixed Tryz.func89 (by kernel_rfl) rfl (by kernel_rfl) rfl fun hok=>?_
 (try dsimp only[argC,succC]);(try dsimp only[awp]);conv=>whnf
 refine LoopE.of <| LoopSpec.inv (.grow 3 1 [] _ rfl (.inl ⟨rfl,rfl⟩) (.refl _ _)) (fun (q : Nat × List Str)=>q.1 ≤ m.pages.length + 1 ∧ insAll m (atsM m) [] = insAll m ((atsM m).drop q.1) q.2 ∧ q.2.length ≤ 4000 * q.1)
  (fun q=>[(4,.int .i64 ((q.1 : Int) - 1)),(3,.sl 1 (q.2.map .str) (.own 1))]) (fun q=>[(1,.tok 1 q.2.length),(0,.box m.av)]) (fun q=>m.pages.length + 1 - q.1) (0,[]) ?_ (fun _=>rfl) ?_ ?_
 ·exact ⟨Nat.zero_le _,rfl,by simp⟩
 ·refine ⟨?_,.mk ?_ ⟨by simp,by simp,trivial⟩⟩
  ·all_goals exact wk
  ·all_goals exact wk
 rintro ⟨k,sp⟩ ⟨hk,hn,hsp⟩ _
 dsimp only at hk hn hsp
 (try dsimp only[awp]);conv=>whnf
 refine And.intro (fun h=>?_) (fun h=>?_)
 ·have hkl : k < m.pages.length + 1:=by simp only [List.length_map] at h; omega
  have ha : (k : Int) - 1 = -1 ∨ (0 ≤ (k : Int) - 1 ∧ (k : Int) - 1 < (m.pages.length : Int)):=by omega
  have hak : (k : Int) - 1 + 1 = ((k + 1 : Nat) : Int) - 1:=by omega
  rw [drop_of_get? (ats_get hkl)] at hn
  simp only [insAll] at hn
  have ofI : ∀ e : Int,e ≠ 0 → (pageIns m ((k : Int) - 1) sp).1 = e → inputsR m = e:=by
   intro e he h
   rw [h,if_pos he] at hn
   unfold inputsR
   rw [hn,if_pos he]
  clear h
  generalize hage : (k : Int) - 1 = a at *
  have cG:=c_rGates m a ha
  have cg:=fun s=>c_rgate (gatesM m a) s
  have ci:=fun s=>c_names m a s ha
  have hBa:=hB.gatesM ha
  have hpi : pageIns m a sp = if (gatesIns m a (gatesM m a) sp).1 ≠ 0 then gatesIns m a (gatesM m a) sp
   else if a ≠ -1 ∧ i_gate (gatesM m a) (pageTop m a) < 0 ∧ i_event m.evs (pageTop m a) < 0 then (5,[]) else gatesIns m a (gatesM m a) sp:=rfl
  have hgl : a ≠ -1 → gatesM m a = (m.pages.getD a.toNat default).gates:=fun h=>if_neg h
  (try dsimp only[awp]);conv=>whnf
  refine .pure _ _ ?_ ⟨rfl,rfl⟩ cG fun hokl=>?_
  ·exact leL_refl _
  generalize hgs : gatesM m a = gs at *
  (try dsimp only[awp]);conv=>whnf
  refine LoopE.of <| LoopSpec.inv (.refl _ _) (fun (s : Nat × List Str)=>s.1 ≤ gs.length ∧ gatesIns m a gs sp = gatesIns m a (gs.drop s.1) s.2 ∧ s.2.length ≤ sp.length + 40 * s.1)
   (fun s=>[(23,.int .i64 s.1),(3,.sl 1 (s.2.map .str) (.own 1))]) (fun s=>[(1,.tok 1 s.2.length),(0,.box m.av)]) (fun s=>gs.length - s.1) (0,sp) ?_ (fun _=>rfl) ?_ ?_
  ·exact ⟨Nat.zero_le _,rfl,by simp⟩
  ·refine ⟨?_,.mk ?_ ⟨by simp,by simp,trivial⟩⟩
   ·all_goals exact wk
   ·all_goals exact wk
  rintro ⟨i,s1⟩ ⟨hi,hni,hs1⟩ _
  dsimp only at hi hni hs1
  (try dsimp only[awp]);conv=>whnf
  refine And.intro (fun h=>?_) (fun h=>?_)
  ·have hlt : i < gs.length:=by simpa using h
   have hxi:=hBa.2 _ (List.getElem_mem hlt)
   rw [List.drop_eq_getElem_cons hlt] at hni
   simp only [gatesIns] at hni
   have bad : ∀ e : Int,e ≠ 0 → (insErr m a gs[i] 0 (gs[i]).ins s1).1 = e → inputsR m = e:=by
    intro e he h
    rw [h,if_pos he] at hni
    exact ofI e he (by rw [hpi,hni,h,if_pos he,h])
   (try dsimp only[awp]);conv=>whnf
   refine aidx hlt ?_
   generalize gs[i] = g at *
   (try dsimp only[awp]);conv=>whnf
   refine LoopE.of <| LoopSpec.inv (.refl _ _) (fun (s : Nat × List Str)=>s.1 ≤ g.ins.length ∧ insErr m a g 0 g.ins s1 = insErr m a g s.1 (g.ins.drop s.1) s.2 ∧ s.2.length ≤ s1.length + s.1)
    (fun s=>[(30,.int .i64 s.1),(3,.sl 1 (s.2.map .str) (.own 1))]) (fun s=>[(2,.box g.av),(1,.tok 1 s.2.length),(0,.box m.av)]) (fun s=>g.ins.length - s.1) (0,s1) ?_ (fun _=>rfl) ?_ ?_
   ·exact ⟨Nat.zero_le _,rfl,by simp⟩
   ·refine ⟨?_,.mk ?_ ⟨by simp,by simp,by simp,trivial⟩⟩
    ·all_goals exact wk
    ·all_goals exact wk
   rintro ⟨j,s2⟩ ⟨hj,hnj,hs2⟩ _
   dsimp only at hj hnj hs2
   (try dsimp only[awp]);conv=>whnf
   refine And.intro (fun hh=>?_) (fun hh=>?_)
   ·have hjl : j < g.ins.length:=by simpa using hh
    rw [List.drop_eq_getElem_cons hjl] at hnj
    simp only [insErr] at hnj
    (try dsimp only[awp]);conv=>whnf
    refine aidx hjl ?_
    generalize g.ins[j] = x at *
    (try dsimp only[awp]);conv=>whnf
    refine .pure _ _ ?_ ⟨rfl,rfl⟩ (ci x) fun _=>?_
    ·exact leL_refl _
    (try dsimp only[awp]);conv=>whnf
    refine And.intro (fun g1=>?_) (fun g1=>?_)
    ·have g1 : isInR m a x = false:=by simpa using g1
     obtain rfl : R = .int .i64 5:=by rw [hR,bad 5 (by decide) (by rw [hnj]; rw [if_pos g1])]
     (try dsimp only[awp]);conv=>whnf
     refine fM ?_;(conv=>whnf);refine ⟨?_,rfl⟩;conv=>whnf
     all_goals exact wk
    have g1 : ¬ isInR m a x = false:=by simpa using g1
    (try dsimp only[awp]);conv=>whnf
    refine And.intro (fun k7=>?_) (fun k7=>?_)
    ·have hmu : mustEv g j = true:=by simp [mustEv,k7]
     (try dsimp only[awp]);conv=>whnf
     refine .pure _ _ ?_ ⟨rfl,rfl⟩ (ce x) fun _=>?_
     ·exact leL_refl _
     (try dsimp only[awp]);conv=>whnf
     refine And.intro (fun g4=>?_) (fun g4=>?_)
     ·obtain rfl : R = .int .i64 7:=by rw [hR,bad 7 (by decide) (by rw [hnj]; rw [if_neg g1,if_pos ⟨hmu,g4⟩])]
      (try dsimp only[awp]);conv=>whnf
      refine fM ?_;(conv=>whnf);refine ⟨?_,rfl⟩;conv=>whnf
      all_goals exact wk
     (try dsimp only[awp]);conv=>whnf
     refine And.intro (fun h=>absurd k7 h) (fun _=>?_)
     (try dsimp only[awp]);conv=>whnf
     refine LoopE.of <| LoopSpec.inv (.refl _ _) (fun (q : Nat)=>q ≤ s2.length ∧ ∀ (y : Nat) (hy : y < s2.length),y < q → s2[y] ≠ x) (fun (q : Nat)=>[(64,.int .i64 q)]) (fun _=>_) (fun (q : Nat)=>s2.length - q) 0 ?_ (fun _=>rfl) ?_ ?_
     ·exact ⟨Nat.zero_le _,by omega⟩
     ·all_goals exact wk
     rintro q ⟨hq,hnq⟩ _
     (try dsimp only[awp]);conv=>whnf
     refine And.intro (fun hz=>?_) (fun hz=>?_)
     ·have hql : q < s2.length:=by simpa using hz
      (try dsimp only[awp]);conv=>whnf
      refine aidx hql ?_
      (try dsimp only[awp]);conv=>whnf
      refine And.intro (fun he=>?_) (fun he=>?_)
      ·obtain rfl : R = .int .i64 6:=by rw [hR,bad 6 (by decide) (by rw [hnj]; rw [if_neg g1,if_neg (fun h=>g4 h.2),if_pos k7,if_pos (any_eq_mem hql he)])]
       (try dsimp only[awp]);conv=>whnf
       refine fM ?_;(conv=>whnf);refine ⟨?_,rfl⟩;conv=>whnf
       all_goals exact wk
      (try dsimp only[awp]);conv=>whnf
      refine zA ?_;conv=>whnf
      refine ⟨q + 1,?_,?_,?_⟩
      ·refine ⟨hql,fun y hy hyq=>?_⟩
       by_cases hyq' : y = q
       ·subst hyq'; exact he
       ·exact hnq y hy (by omega)
      ·refine ⟨?_,.mk ?_ ⟨by simp,by simp,by simp,trivial⟩⟩
       ·all_goals exact wk
       ·all_goals exact wk
      ·omega
     have hql : q = s2.length:=by have : ¬ q < s2.length:=by simpa using hz
                                  omega
     subst hql
     have g3 : ¬ (s2.any fun y=>decide (x = y)) = true:=by rw [any_eq_take fun y hy _=>hnq y hy hy]; simp
     (try dsimp only[awp]);conv=>whnf
     refine ⟨by rw [List.length_map],.mk (by simp [maxL]; omega) (by simp; omega) ?_⟩
     (try dsimp only[awp]);conv=>whnf
     refine zA ?_;conv=>whnf
     refine ⟨(j + 1,s2 ++ [x]),?_,?_,?_⟩
     ·exact ⟨hjl,by rw [hnj]; rw [if_neg g1,if_neg (fun h=>g4 h.2),if_pos k7,if_neg g3],by first | (show s2.length ≤ s1.length + (j + 1); omega) | (show (s2 ++ [x]).length ≤ s1.length + (j + 1); simp; omega)⟩
     ·refine ⟨?_,.mk ?_ ⟨by simp,by simp,by simp,trivial⟩⟩
      ·repeat' first|exact rfl|exact trivial|exact wR|exact lR _|apply aI
       all_goals first | (refine leRL_of ?_; simp [strip]; done) | (simp; done) | (simp; omega)
      ·repeat' first|exact rfl|exact trivial|exact wR|exact lR _|apply aI
       all_goals first | (refine leRL_of ?_; simp [strip]; done) | (simp; done) | (simp; omega)
     ·show g.ins.length - (j + 1) < g.ins.length - j
      omega
    ·(try dsimp only[awp]);conv=>whnf
     refine And.intro (fun k8=>?_) (fun k8=>?_)
     ·(try dsimp only[awp]);conv=>whnf
      refine And.intro (fun kj=>?_) (fun kj=>?_)
      ·have hmu : mustEv g j = true:=by unfold mustEv; rw [decide_eq_true k8,decide_eq_true kj]; simp
       (try dsimp only[awp]);conv=>whnf
       refine .pure _ _ ?_ ⟨rfl,rfl⟩ (ce x) fun _=>?_
       ·exact leL_refl _
       (try dsimp only[awp]);conv=>whnf
       refine And.intro (fun g4=>?_) (fun g4=>?_)
       ·obtain rfl : R = .int .i64 7:=by rw [hR,bad 7 (by decide) (by rw [hnj]; rw [if_neg g1,if_pos ⟨hmu,g4⟩])]
        (try dsimp only[awp]);conv=>whnf
        refine fM ?_;(conv=>whnf);refine ⟨?_,rfl⟩;conv=>whnf
        all_goals exact wk
       (try dsimp only[awp]);conv=>whnf
       refine And.intro (fun _=>?_) (fun h=>absurd k7 h)
       (try dsimp only[awp]);conv=>whnf
       refine zA ?_;conv=>whnf
       refine ⟨(j + 1,s2),?_,?_,?_⟩
       ·exact ⟨hjl,by rw [hnj]; rw [if_neg g1,if_neg (fun h=>g4 h.2),if_neg k7],by first | (show s2.length ≤ s1.length + (j + 1); omega) | (show (s2 ++ [x]).length ≤ s1.length + (j + 1); simp; omega)⟩
       ·refine ⟨?_,.mk ?_ ⟨by simp,by simp,by simp,trivial⟩⟩
        ·repeat' first|exact rfl|exact trivial|exact wR|exact lR _|apply aI
         all_goals first | (refine leRL_of ?_; simp [strip]; done) | (simp; done) | (simp; omega)
        ·repeat' first|exact rfl|exact trivial|exact wR|exact lR _|apply aI
         all_goals first | (refine leRL_of ?_; simp [strip]; done) | (simp; done) | (simp; omega)
       ·show g.ins.length - (j + 1) < g.ins.length - j
        omega
      ·have hmu : mustEv g j = false:=by unfold mustEv; rw [decide_eq_false k7,decide_eq_false kj]; simp
       (try dsimp only[awp]);conv=>whnf
       refine And.intro (fun _=>?_) (fun h=>absurd k7 h)
       (try dsimp only[awp]);conv=>whnf
       refine zA ?_;conv=>whnf
       refine ⟨(j + 1,s2),?_,?_,?_⟩
       ·exact ⟨hjl,by rw [hnj]; rw [if_neg g1,if_neg (fun h=>by rw [hmu] at h; cases h.1),if_neg k7],by first | (show s2.length ≤ s1.length + (j + 1); omega) | (show (s2 ++ [x]).length ≤ s1.length + (j + 1); simp; omega)⟩
       ·refine ⟨?_,.mk ?_ ⟨by simp,by simp,by simp,trivial⟩⟩
        ·repeat' first|exact rfl|exact trivial|exact wR|exact lR _|apply aI
         all_goals first | (refine leRL_of ?_; simp [strip]; done) | (simp; done) | (simp; omega)
        ·repeat' first|exact rfl|exact trivial|exact wR|exact lR _|apply aI
         all_goals first | (refine leRL_of ?_; simp [strip]; done) | (simp; done) | (simp; omega)
       ·show g.ins.length - (j + 1) < g.ins.length - j
        omega
     ·have hmu : mustEv g j = false:=by unfold mustEv; rw [decide_eq_false k7,decide_eq_false k8]; simp
      (try dsimp only[awp]);conv=>whnf
      refine And.intro (fun _=>?_) (fun h=>absurd k7 h)
      (try dsimp only[awp]);conv=>whnf
      refine zA ?_;conv=>whnf
      refine ⟨(j + 1,s2),?_,?_,?_⟩
      ·exact ⟨hjl,by rw [hnj]; rw [if_neg g1,if_neg (fun h=>by rw [hmu] at h; cases h.1),if_neg k7],by first | (show s2.length ≤ s1.length + (j + 1); omega) | (show (s2 ++ [x]).length ≤ s1.length + (j + 1); simp; omega)⟩
      ·refine ⟨?_,.mk ?_ ⟨by simp,by simp,by simp,trivial⟩⟩
       ·repeat' first|exact rfl|exact trivial|exact wR|exact lR _|apply aI
        all_goals first | (refine leRL_of ?_; simp [strip]; done) | (simp; done) | (simp; omega)
       ·repeat' first|exact rfl|exact trivial|exact wR|exact lR _|apply aI
        all_goals first | (refine leRL_of ?_; simp [strip]; done) | (simp; done) | (simp; omega)
      ·show g.ins.length - (j + 1) < g.ins.length - j
       omega
   ·have hjl : j = g.ins.length:=by have : ¬ j < g.ins.length:=by simpa using hh
                                    omega
    subst hjl
    rw [List.drop_length] at hnj
    simp only [insErr] at hnj
    rw [hnj] at hni
    (try dsimp only[awp]);conv=>whnf
    refine zA ?_;conv=>whnf
    refine ⟨(i + 1,s2),?_,?_,?_⟩
    ·exact ⟨hlt,hni,by show s2.length ≤ sp.length + 40 * (i + 1); omega⟩
    ·refine ⟨?_,.mk ?_ ⟨by simp,by simp,trivial⟩⟩
     ·all_goals exact wk
     ·all_goals exact wk
    ·show gs.length - (i + 1) < gs.length - i
     omega
  have hil : i = gs.length:=by have : ¬ i < gs.length:=by simpa using h
                               omega
  rw [List.drop_eq_nil_of_le (by omega)] at hni
  simp only [gatesIns] at hni
  clear h
  rw [hni] at hpi
  rw [if_neg (by simp)] at hpi
  (try dsimp only[awp]);conv=>whnf
  have nx : ∀ h : ¬ (a ≠ -1 ∧ i_gate gs (pageTop m a) < 0 ∧ i_event m.evs (pageTop m a) < 0),insAll m (atsM m) [] = insAll m ((atsM m).drop (k + 1)) s1:=by
   intro h
   rw [if_neg h] at hpi
   rw [hn,hpi,if_neg (by simp)]
  have hs1' : s1.length ≤ 4000 * (k + 1):=by omega
  refine ADraw.auto (by kernel_rfl) ?_;conv=>whnf
  refine And.intro (fun a1=>?_) (fun a1=>?_)
  ·have hb : 0 ≤ a ∧ a < (m.pages.length : Int):=⟨a1,by omega⟩
   have hgl:=hgl (by omega)
   have hpt : (m.pages.getD a.toNat default).top = pageTop m a:=rfl
   generalize hpg : m.pages.getD a.toNat default = pg at *
   (try dsimp only[awp]);conv=>whnf
   refine aidxD default hb ?_
   rw [hpg]
   (try dsimp only[awp]);conv=>whnf
   refine aidxD default hb ?_
   rw [hpg]
   (try dsimp only[awp]);conv=>whnf
   rw [← hgl,hpt]
   refine ACallP.pure _ _ ?_ ⟨rfl,rfl⟩ (cg (pageTop m a)) ?_
   ·exact leL_refl _
   (try dsimp only[awp]);conv=>whnf
   refine And.intro (fun g1=>?_) (fun g1=>?_)
   ·(try dsimp only[awp]);conv=>whnf
    refine aidxD default hb ?_
    rw [hpg]
    (try dsimp only[awp]);conv=>whnf
    rw [hpt]
    refine ACallP.pure _ _ ?_ ⟨rfl,rfl⟩ (ce (pageTop m a)) ?_
    ·exact leL_refl _
    (try dsimp only[awp]);conv=>whnf
    refine And.intro (fun g2=>?_) (fun g2=>?_)
    ·obtain rfl : R = .int .i64 5:=by rw [hR,ofI 5 (by decide) (by rw [hpi,if_pos ⟨by omega,g1,g2⟩])]
     (try dsimp only[awp]);conv=>whnf
     refine fM ?_;(conv=>whnf);refine ⟨?_,rfl⟩;conv=>whnf
     all_goals exact wk
    ·have nx:=nx (fun h=>g2 h.2.2)
     (try dsimp only[awp]);conv=>whnf
     refine zA ?_;conv=>whnf
     refine ⟨(k + 1,s1),?_,?_,?_⟩
     ·exact ⟨hkl,nx,hs1'⟩
     ·refine ⟨?_,.mk ?_ ⟨by simp,by simp,trivial⟩⟩
      ·repeat' first|exact rfl|exact trivial|exact wR|exact lR _|apply aI
       all_goals (show _ = _; congr 1 <;> omega)
      ·all_goals exact wk
     ·show m.pages.length + 1 - (k + 1) < m.pages.length + 1 - k
      omega
   ·have nx:=nx (fun h=>g1 h.2.1)
    (try dsimp only[awp]);conv=>whnf
    refine zA ?_;conv=>whnf
    refine ⟨(k + 1,s1),?_,?_,?_⟩
    ·exact ⟨hkl,nx,hs1'⟩
    ·refine ⟨?_,.mk ?_ ⟨by simp,by simp,trivial⟩⟩
     ·repeat' first|exact rfl|exact trivial|exact wR|exact lR _|apply aI
      all_goals (show _ = _; congr 1 <;> omega)
     ·all_goals exact wk
    ·show m.pages.length + 1 - (k + 1) < m.pages.length + 1 - k
     omega
  ·have nx:=nx (fun h=>a1 (by omega))
   (try dsimp only[awp]);conv=>whnf
   refine zA ?_;conv=>whnf
   refine ⟨(k + 1,s1),?_,?_,?_⟩
   ·exact ⟨hkl,nx,hs1'⟩
   ·refine ⟨?_,.mk ?_ ⟨by simp,by simp,trivial⟩⟩
    ·repeat' first|exact rfl|exact trivial|exact wR|exact lR _|apply aI
     all_goals (show _ = _; congr 1 <;> omega)
    ·all_goals exact wk
   ·show m.pages.length + 1 - (k + 1) < m.pages.length + 1 - k
    omega
 have hkl : m.pages.length + 1 ≤ k:=by simp only [List.length_map] at h; omega
 rw [List.drop_eq_nil_of_le (by rw [ats_len]; omega)] at hn
 simp only [insAll] at hn
 have hir : inputsR m = if isInR m (-1) m.top = false then 5 else 0:=by unfold inputsR; rw [hn,if_neg (by simp)]
 clear h
 (try dsimp only[awp]);conv=>whnf
 refine .pure _ _ ?_ ⟨rfl,rfl⟩ (c_names m (-1) m.top (.inl rfl)) fun _=>?_
 ·exact leL_refl _
 (try dsimp only[awp]);conv=>whnf
 refine And.intro (fun g1=>?_) (fun g1=>?_)
 ·have g1 : isInR m (-1) m.top = false:=by simpa using g1
  obtain rfl : R = .int .i64 5:=by rw [hR,hir,if_pos g1]
  (try dsimp only[awp]);conv=>whnf
  refine fM ?_;(conv=>whnf);refine ⟨?_,rfl⟩;conv=>whnf
  all_goals exact wk
 ·obtain rfl : R = .int .i64 0:=by rw [hR,hir,if_neg (by simpa using g1)]
  (try dsimp only[awp]);conv=>whnf
  refine fM ?_;(conv=>whnf);refine ⟨?_,rfl⟩;conv=>whnf
  all_goals exact wk

theorem cut0 {α : Type} {f : α → AV} {l : List α} {i : Nat} : (((l.map f).drop (0 : Int).toNat).take ((i : Int).toNat - (0 : Int).toNat)) = (l.take i).map f:=by
 rw [List.map_take]; rfl

theorem c_phases (h1c : OneC) (m : Md) (hX : MdX m) (hB : MdB m) (R : AV) (hR : R = .int .i64 (phasesErr m)) : FnH Tryz.prog 91 [m.av] [] R []:=by
 have ce:=fun s=>c_revent m s
 have ci:=fun s=>c_names m (-1) s (.inl rfl)
 have hpl:=hB.phs
 refine FnH.intro lay mixed Tryz.func91 (by kernel_rfl) rfl (by kernel_rfl) rfl fun hok=>?_
 (try dsimp only[argC,succC]);(try dsimp only[awp]);conv=>whnf
 refine And.intro (fun h1=>?_) (fun h1=>?_)
 ·have h1 : 6 < m.phs.length:=by simp only [List.length_map] at h1; omega
  obtain rfl : R = .int .i64 4:=by rw [hR,show phasesErr m = 4 from if_pos h1]
  (try dsimp only[awp]);conv=>whnf
  refine fM ?_;(conv=>whnf);refine ⟨?_,rfl⟩;conv=>whnf
  all_goals exact wk
 have h1 : ¬ 6 < m.phs.length:=by simp only [List.length_map] at h1; omega
 have hge : phasesErr m = errL (phErr m) 0 m.phs:=if_neg h1
 (try dsimp only[awp]);conv=>whnf
 refine LoopE.of <| LoopSpec.inv (.refl _ _) (fun (i : Nat)=>i ≤ m.phs.length ∧ errL (phErr m) 0 m.phs = errL (phErr m) i (m.phs.drop i)) (fun (i : Nat)=>[(18,.int .i64 i)]) (fun _=>_) (fun (i : Nat)=>m.phs.length - i) 0 ?_ (fun _=>rfl) ?_ ?_
 ·exact ⟨Nat.zero_le _,rfl⟩
 ·all_goals exact wk
 rintro i ⟨hi,hn⟩ _
 (try dsimp only[awp]);conv=>whnf
 refine And.intro (fun h=>?_) (fun h=>?_)
 ·have hlt : i < m.phs.length:=by simpa using h
  have hvl:=hB.vals _ (List.getElem_mem hlt)
  have hfc:=hX.phs _ (List.getElem_mem hlt)
  rw [errL_step hlt] at hn
  have bad : ∀ e : Int,e ≠ 0 → phErr m i m.phs[i] = e → phasesErr m = e:=by
   intro e he h
   rw [h,if_pos he] at hn
   rw [hge,hn]
  (try dsimp only[awp]);conv=>whnf
  refine aidx hlt ?_
  generalize hx0 : m.phs[i] = x at *
  (try dsimp only[awp]);conv=>whnf
  refine .pure _ _ ?_ ⟨rfl,rfl⟩ (c_Name21 x.name) fun _=>?_
  ·exact leL_refl _
  (try dsimp only[awp]);conv=>whnf
  refine And.intro (fun g1=>?_) (fun g1=>?_)
  ·have g1 : nameR x.name = false:=by simpa using g1
   obtain rfl : R = .int .i64 5:=by rw [hR,bad 5 (by decide) (by unfold phErr; rw [if_pos g1])]
   (try dsimp only[awp]);conv=>whnf
   refine fM ?_;(conv=>whnf);refine ⟨?_,rfl⟩;conv=>whnf
   all_goals exact wk
  have g1 : ¬ nameR x.name = false:=by simpa using g1
  (try dsimp only[awp]);conv=>whnf
  refine ⟨⟨by simp,by simp,by simp; omega⟩,?_⟩
  rw [cut0]
  (try dsimp only[awp]);conv=>whnf
  refine LoopE.of <| LoopSpec.inv (.refl _ _) (fun (q : Nat)=>q ≤ i ∧ ∀ (y : Nat) (hy : y < m.phs.length),y < q → m.phs[y].name ≠ x.name) (fun (q : Nat)=>[(32,.int .i64 q)]) (fun _=>_) (fun (q : Nat)=>i - q) 0 ?_ (fun _=>rfl) ?_ ?_
  ·exact ⟨Nat.zero_le _,by omega⟩
  ·all_goals exact wk
  rintro q ⟨hq,hnq⟩ _
  (try dsimp only[awp]);conv=>whnf
  refine And.intro (fun hz=>?_) (fun hz=>?_)
  ·have hql : q < (m.phs.take i).length:=by simpa using hz
   have hqi : q < i:=by rw [List.length_take] at hql; omega
   have hqe : (m.phs.take i)[q] = m.phs[q]'(by omega):=List.getElem_take
   (try dsimp only[awp]);conv=>whnf
   refine aidx hql ?_
   rw [hqe]
   (try dsimp only[awp]);conv=>whnf
   refine And.intro (fun he=>?_) (fun he=>?_)
   ·have g2 : idxP (fun y=>decide (y.name = x.name)) m.phs < i:=by
     have:=(idxP_le (p:=fun y=>decide (y.name = x.name)) (l:=m.phs) (k:=q) (by omega) (by simpa using he)).2
     omega
    obtain rfl : R = .int .i64 6:=by rw [hR,bad 6 (by decide) (by unfold phErr; rw [if_neg g1,if_pos g2])]
    (try dsimp only[awp]);conv=>whnf
    refine fM ?_;(conv=>whnf);refine ⟨?_,rfl⟩;conv=>whnf
    all_goals exact wk
   (try dsimp only[awp]);conv=>whnf
   refine zA ?_;conv=>whnf
   refine ⟨q + 1,?_,?_,?_⟩
   ·refine ⟨hqi,fun y hy hyq=>?_⟩
    by_cases hyq' : y = q
    ·subst hyq'; exact he
    ·exact hnq y hy (by omega)
   ·refine ⟨?_,.mk ?_ ⟨by simp,by simp,trivial⟩⟩
    ·all_goals exact wk
    ·all_goals exact wk
   ·omega
  have hql : q = i:=by have : ¬ q < (m.phs.take i).length:=by simpa using hz
                       rw [List.length_take] at this
                       omega
  subst hql
  have g2 : ¬ idxP (fun y=>decide (y.name = x.name)) m.phs < q:=by
   rw [idxP_some (p:=fun y=>decide (y.name = x.name)) hlt (by simp [hx0]) fun y hy=>by simpa using hnq y (by omega) hy]
   omega
  clear hz
  (try dsimp only[awp]);conv=>whnf
  refine .pure _ _ ?_ ⟨rfl,rfl⟩ (ci x.top) fun _=>?_
  ·exact leL_refl _
  (try dsimp only[awp]);conv=>whnf
  refine And.intro (fun g3=>?_) (fun g3=>?_)
  ·have g3 : isInR m (-1) x.top = false:=by simpa using g3
   obtain rfl : R = .int .i64 5:=by rw [hR,bad 5 (by decide) (by unfold phErr; rw [if_neg g1,if_neg g2,if_pos g3])]
   (try dsimp only[awp]);conv=>whnf
   refine fM ?_;(conv=>whnf);refine ⟨?_,rfl⟩;conv=>whnf
   all_goals exact wk
  have g3 : ¬ isInR m (-1) x.top = false:=by simpa using g3
  have hph : phErr m q x = errL (pvErr m x) 0 x.vals:=by unfold phErr; rw [if_neg g1,if_neg g2,if_neg g3]
  rw [hph] at bad hn
  (try dsimp only[awp]);conv=>whnf
  refine LoopE.of <| LoopSpec.inv (.refl _ _) (fun (j : Nat)=>j ≤ x.vals.length ∧ errL (pvErr m x) 0 x.vals = errL (pvErr m x) j (x.vals.drop j)) (fun (j : Nat)=>[(50,.int .i64 j)]) (fun _=>_) (fun (j : Nat)=>x.vals.length - j) 0 ?_ (fun _=>rfl) ?_ ?_
  ·exact ⟨Nat.zero_le _,rfl⟩
  ·all_goals exact wk
  rintro j ⟨hj,hnj⟩ _
  (try dsimp only[awp]);conv=>whnf
  refine And.intro (fun hh=>?_) (fun hh=>?_)
  ·have hjl : j < x.vals.length:=by simpa using hh
   have hp:=c_rProbX h1c _ (hfc _ (List.getElem_mem hjl))
   rw [errL_step hjl] at hnj
   have bad : ∀ e : Int,e ≠ 0 → pvErr m x j x.vals[j] = e → phasesErr m = e:=by
    intro e he h
    rw [h,if_pos he] at hnj
    exact bad e he hnj
   (try dsimp only[awp]);conv=>whnf
   refine aidx hjl ?_
   generalize hv0 : x.vals[j] = v at *
   (try dsimp only[awp]);conv=>whnf
   refine .pure _ _ ?_ ⟨rfl,rfl⟩ (ce v.ev) fun _=>?_
   ·exact leL_refl _
   (try dsimp only[awp]);conv=>whnf
   refine And.intro (fun q1=>?_) (fun q1=>?_)
   ·obtain rfl : R = .int .i64 5:=by rw [hR,bad 5 (by decide) (by unfold pvErr; rw [if_pos q1])]
    (try dsimp only[awp]);conv=>whnf
    refine fM ?_;(conv=>whnf);refine ⟨?_,rfl⟩;conv=>whnf
    all_goals exact wk
   (try dsimp only[awp]);conv=>whnf
   refine ⟨⟨by simp,by simp,by simp; omega⟩,?_⟩
   rw [cut0]
   (try dsimp only[awp]);conv=>whnf
   refine LoopE.of <| LoopSpec.inv (.refl _ _) (fun (z : Nat)=>z ≤ j ∧ ∀ (y : Nat) (hy : y < x.vals.length),y < z → x.vals[y].ev ≠ v.ev) (fun (z : Nat)=>[(65,.int .i64 z)]) (fun _=>_) (fun (z : Nat)=>j - z) 0 ?_ (fun _=>rfl) ?_ ?_
   ·exact ⟨Nat.zero_le _,by omega⟩
   ·all_goals exact wk
   rintro z ⟨hz,hnz⟩ _
   (try dsimp only[awp]);conv=>whnf
   refine And.intro (fun hzz=>?_) (fun hzz=>?_)
   ·have hzl : z < (x.vals.take j).length:=by simpa using hzz
    have hzi : z < j:=by rw [List.length_take] at hzl; omega
    have hze : (x.vals.take j)[z] = x.vals[z]'(by omega):=List.getElem_take
    (try dsimp only[awp]);conv=>whnf
    refine aidx hzl ?_
    rw [hze]
    (try dsimp only[awp]);conv=>whnf
    refine And.intro (fun he=>?_) (fun he=>?_)
    ·have g2 : idxP (fun y=>decide (y.ev = v.ev)) x.vals < j:=by
      have:=(idxP_le (p:=fun y=>decide (y.ev = v.ev)) (l:=x.vals) (k:=z) (by omega) (by simpa using he)).2
      omega
     obtain rfl : R = .int .i64 6:=by rw [hR,bad 6 (by decide) (by unfold pvErr; rw [if_neg q1,if_pos g2])]
     (try dsimp only[awp]);conv=>whnf
     refine fM ?_;(conv=>whnf);refine ⟨?_,rfl⟩;conv=>whnf
     all_goals exact wk
    (try dsimp only[awp]);conv=>whnf
    refine zA ?_;conv=>whnf
    refine ⟨z + 1,?_,?_,?_⟩
    ·refine ⟨hzi,fun y hy hyq=>?_⟩
     by_cases hyq' : y = z
     ·subst hyq'; exact he
     ·exact hnz y hy (by omega)
    ·refine ⟨?_,.mk ?_ ⟨by simp,by simp,by simp,trivial⟩⟩
     ·all_goals exact wk
     ·all_goals exact wk
    ·omega
   have hzl : z = j:=by have : ¬ z < (x.vals.take j).length:=by simpa using hzz
                        rw [List.length_take] at this
                        omega
   subst hzl
   have q2 : ¬ idxP (fun y=>decide (y.ev = v.ev)) x.vals < z:=by
    rw [idxP_some (p:=fun y=>decide (y.ev = v.ev)) hjl (by simp [hv0]) fun y hy=>by simpa using hnz y (by omega) hy]
    omega
   clear hzz
   (try dsimp only[awp]);conv=>whnf
   refine .pure _ _ ?_ ⟨rfl,rfl⟩ hp fun _=>?_
   ·exact leL_refl _
   (try dsimp only[awp]);conv=>whnf
   refine And.intro (fun q3=>?_) (fun q3=>?_)
   ·have q3 : prob v.p = false:=by simpa using q3
    obtain rfl : R = .int .i64 3:=by rw [hR,bad 3 (by decide) (by unfold pvErr; rw [if_neg q1,if_neg q2,if_pos q3])]
    (try dsimp only[awp]);conv=>whnf
    refine fM ?_;(conv=>whnf);refine ⟨?_,rfl⟩;conv=>whnf
    all_goals exact wk
   have q3 : ¬ prob v.p = false:=by simpa using q3
   have hz0 : pvErr m x z v = 0:=by unfold pvErr; rw [if_neg q1,if_neg q2,if_neg q3]
   (try dsimp only[awp]);conv=>whnf
   refine zA ?_;conv=>whnf
   refine ⟨z + 1,?_,?_,?_⟩
   ·exact ⟨hjl,by rw [hnj,hz0,if_neg (by simp)]⟩
   ·refine ⟨?_,.mk ?_ ⟨by simp,by simp,trivial⟩⟩
    ·all_goals exact wk
    ·all_goals exact wk
   ·omega
  have hjl : j = x.vals.length:=by have : ¬ j < x.vals.length:=by simpa using hh
                                   omega
  rw [errL_end (by omega)] at hnj
  rw [hnj,if_neg (by simp)] at hn
  clear hh
  (try dsimp only[awp]);conv=>whnf
  refine zA ?_;conv=>whnf
  refine ⟨q + 1,?_,?_,?_⟩
  ·exact ⟨hlt,hn⟩
  ·refine ⟨?_,.mk ?_ ⟨by simp,trivial⟩⟩
   ·all_goals exact wk
   ·all_goals exact wk
  ·omega
 ·have hil : i = m.phs.length:=by have : ¬ i < m.phs.length:=by simpa using h
                                  omega
  rw [errL_end (by omega)] at hn
  rw [hge,hn] at hR
  subst hR
  (try dsimp only[awp]);conv=>whnf
  refine fM ?_;(conv=>whnf);refine ⟨?_,rfl⟩;conv=>whnf
  all_goals exact wk

theorem c_groups (h1c : OneC) (m : Md) (hX : MdX m) (hB : MdB m) (R : AV) (hR : R = .int .i64 (groupsErr m)) : FnH Tryz.prog 90 [m.av] [] R []:=by
 have ce:=fun s=>c_revent m s
 have hgl:=hB.grs
 refine FnH.intro lay mixed Tryz.func90 (by kernel_rfl) rfl (by kernel_rfl) rfl fun hok=>?_
 (try dsimp only[argC,succC]);(try dsimp only[awp]);conv=>whnf
 refine And.intro (fun h1=>?_) (fun h1=>?_)
 ·have h1 : 8 < m.grs.length:=by simp only [List.length_map] at h1; omega
  obtain rfl : R = .int .i64 4:=by rw [hR,show groupsErr m = 4 from if_pos h1]
  (try dsimp only[awp]);conv=>whnf
  refine fM ?_;(conv=>whnf);refine ⟨?_,rfl⟩;conv=>whnf
  all_goals exact wk
 have h1 : ¬ 8 < m.grs.length:=by simp only [List.length_map] at h1; omega
 have hge : groupsErr m = grsErr m 0 m.grs []:=if_neg h1
 (try dsimp only[awp]);conv=>whnf
 refine LoopE.of <| LoopSpec.inv (.grow 3 1 [] _ rfl (.inl ⟨rfl,rfl⟩) (.refl _ _)) (fun (s : Nat × List Str)=>s.1 ≤ m.grs.length ∧ grsErr m 0 m.grs [] = grsErr m s.1 (m.grs.drop s.1) s.2 ∧ s.2.length ≤ 60 * s.1)
  (fun s=>[(23,.int .i64 s.1),(3,.sl 1 (s.2.map .str) (.own 1))]) (fun s=>[(1,.tok 1 s.2.length),(0,.box m.av)]) (fun s=>m.grs.length - s.1) (0,[]) ?_ (fun _=>rfl) ?_ ?_
 ·exact ⟨Nat.zero_le _,rfl,by simp⟩
 ·refine ⟨?_,.mk ?_ ⟨by simp,by simp,trivial⟩⟩
  ·all_goals exact wk
  ·all_goals exact wk
 rintro ⟨i,sp⟩ ⟨hi,hn,hs1⟩ _
 dsimp only at hi hn hs1
 (try dsimp only[awp]);conv=>whnf
 refine And.intro (fun h=>?_) (fun h=>?_)
 ·have hlt : i < m.grs.length:=by simpa using h
  have hml:=hB.mem _ (List.getElem_mem hlt)
  have hfc:=hX.grs _ (List.getElem_mem hlt)
  rw [List.drop_eq_getElem_cons hlt] at hn
  simp only [grsErr] at hn
  have bad : ∀ e : Int,e ≠ 0 → (grErr m i m.grs[i] sp).1 = e → groupsErr m = e:=by
   intro e he h
   rw [h,if_pos he] at hn
   rw [hge,hn]
  (try dsimp only[awp]);conv=>whnf
  refine aidx hlt ?_
  generalize hx0 : m.grs[i] = x at *
  (try dsimp only[awp]);conv=>whnf
  refine .pure _ _ ?_ ⟨rfl,rfl⟩ (c_Name21 x.name) fun _=>?_
  ·exact leL_refl _
  (try dsimp only[awp]);conv=>whnf
  refine And.intro (fun g1=>?_) (fun g1=>?_)
  ·have g1 : nameR x.name = false:=by simpa using g1
   obtain rfl : R = .int .i64 5:=by rw [hR,bad 5 (by decide) (by unfold grErr; rw [if_pos g1])]
   (try dsimp only[awp]);conv=>whnf
   refine fM ?_;(conv=>whnf);refine ⟨?_,rfl⟩;conv=>whnf
   all_goals exact wk
  have g1 : ¬ nameR x.name = false:=by simpa using g1
  (try dsimp only[awp]);conv=>whnf
  refine ⟨⟨by simp,by simp,by simp; omega⟩,?_⟩
  rw [cut0]
  (try dsimp only[awp]);conv=>whnf
  refine LoopE.of <| LoopSpec.inv (.refl _ _) (fun (q : Nat)=>q ≤ i ∧ ∀ (y : Nat) (hy : y < m.grs.length),y < q → m.grs[y].name ≠ x.name) (fun (q : Nat)=>[(37,.int .i64 q)]) (fun _=>_) (fun (q : Nat)=>i - q) 0 ?_ (fun _=>rfl) ?_ ?_
  ·exact ⟨Nat.zero_le _,by omega⟩
  ·all_goals exact wk
  rintro q ⟨hq,hnq⟩ _
  (try dsimp only[awp]);conv=>whnf
  refine And.intro (fun hz=>?_) (fun hz=>?_)
  ·have hql : q < (m.grs.take i).length:=by simpa using hz
   have hqi : q < i:=by rw [List.length_take] at hql; omega
   have hqe : (m.grs.take i)[q] = m.grs[q]'(by omega):=List.getElem_take
   (try dsimp only[awp]);conv=>whnf
   refine aidx hql ?_
   rw [hqe]
   (try dsimp only[awp]);conv=>whnf
   refine And.intro (fun he=>?_) (fun he=>?_)
   ·have g2 : idxP (fun y=>decide (y.name = x.name)) m.grs < i:=by
     have:=(idxP_le (p:=fun y=>decide (y.name = x.name)) (l:=m.grs) (k:=q) (by omega) (by simpa using he)).2
     omega
    obtain rfl : R = .int .i64 6:=by rw [hR,bad 6 (by decide) (by unfold grErr; rw [if_neg g1,if_pos g2])]
    (try dsimp only[awp]);conv=>whnf
    refine fM ?_;(conv=>whnf);refine ⟨?_,rfl⟩;conv=>whnf
    all_goals exact wk
   (try dsimp only[awp]);conv=>whnf
   refine zA ?_;conv=>whnf
   refine ⟨q + 1,?_,?_,?_⟩
   ·refine ⟨hqi,fun y hy hyq=>?_⟩
    by_cases hyq' : y = q
    ·subst hyq'; exact he
    ·exact hnq y hy (by omega)
   ·refine ⟨?_,.mk ?_ ⟨by simp,by simp,by simp,trivial⟩⟩
    ·all_goals exact wk
    ·all_goals exact wk
   ·omega
  have hql : q = i:=by have : ¬ q < (m.grs.take i).length:=by simpa using hz
                       rw [List.length_take] at this
                       omega
  have g2 : ¬ idxP (fun y=>decide (y.name = x.name)) m.grs < i:=by
   rw [idxP_some (p:=fun y=>decide (y.name = x.name)) hlt (by simp [hx0]) fun y hy=>by simpa using hnq y (by omega) (by omega)]
   omega
  clear hz hql hnq hq
  (try dsimp only[awp]);conv=>whnf
  refine And.intro (fun k0=>?_) (fun k0=>?_)
  ·(try dsimp only[awp]);conv=>whnf
   refine And.intro (fun k1=>?_) (fun k1=>?_)
   ·obtain rfl : R = .int .i64 7:=by rw [hR,bad 7 (by decide) (by unfold grErr; rw [if_neg g1,if_neg g2,if_pos ⟨k0,k1⟩])]
    (try dsimp only[awp]);conv=>whnf
    refine fM ?_;(conv=>whnf);refine ⟨?_,rfl⟩;conv=>whnf
    all_goals exact wk
   have k1 : x.kind = 1:=by omega
   have g3 : ¬ (x.kind ≠ 0 ∧ x.kind ≠ 1):=fun h=>h.2 k1
   (try dsimp only[awp]);conv=>whnf
   refine And.intro (fun _=>?_) (fun h=>absurd k1 h)
   (try dsimp only[awp]);conv=>whnf
   refine ADraw.auto (by kernel_rfl) ?_;conv=>whnf
   refine ⟨inr64 (by simp; omega) (by simp; omega),?_⟩
   rw [show ((x.mem.map AV.str).length : Int) = (x.mem.length : Int) by simp]
   have e1 : (if x.kind = 1 then (4 : Int) else 24) = 4:=if_pos k1
   have e2 : (if x.kind = 1 then (x.mem.length : Int) - 1 else 1) = (x.mem.length : Int) - 1:=if_pos k1
   (try dsimp only[awp]);conv=>whnf
   refine And.intro (fun g4=>?_) (fun g4=>?_)
   ·have g4 : x.mem.length < 2:=by simp only [List.length_map] at g4; omega
    obtain rfl : R = .int .i64 11:=by rw [hR,bad 11 (by decide) (by unfold grErr; rw [if_neg g1,if_neg g2,if_neg g3,if_pos g4])]
    (try dsimp only[awp]);conv=>whnf
    refine fM ?_;(conv=>whnf);refine ⟨?_,rfl⟩;conv=>whnf
    all_goals exact wk
   have g4 : ¬ x.mem.length < 2:=by simp only [List.length_map] at g4; omega
   (try dsimp only[awp]);conv=>whnf
   refine And.intro (fun g5=>?_) (fun g5=>?_)
   ·rw [show ((x.mem.map AV.str).length : Int) = (x.mem.length : Int) by simp,← e1] at g5
    obtain rfl : R = .int .i64 11:=by rw [hR,bad 11 (by decide) (by unfold grErr; rw [if_neg g1,if_neg g2,if_neg g3,if_neg g4,if_pos g5])]
    (try dsimp only[awp]);conv=>whnf
    refine fM ?_;(conv=>whnf);refine ⟨?_,rfl⟩;conv=>whnf
    all_goals exact wk
   rw [show ((x.mem.map AV.str).length : Int) = (x.mem.length : Int) by simp,← e1] at g5
   (try dsimp only[awp]);conv=>whnf
   refine And.intro (fun g6=>?_) (fun g6=>?_)
   ·rw [show ((x.fac.map Rat.av).length : Int) = (x.fac.length : Int) by simp,← e2] at g6
    obtain rfl : R = .int .i64 11:=by rw [hR,bad 11 (by decide) (by unfold grErr; rw [if_neg g1,if_neg g2,if_neg g3,if_neg g4,if_neg g5,if_pos g6])]
    (try dsimp only[awp]);conv=>whnf
    refine fM ?_;(conv=>whnf);refine ⟨?_,rfl⟩;conv=>whnf
    all_goals exact wk
   rw [show ((x.fac.map Rat.av).length : Int) = (x.fac.length : Int) by simp,← e2] at g6
   have hgr : grErr m i x sp = if (memErr m x.mem sp).1 ≠ 0 then memErr m x.mem sp else if (x.fac.any fun f=>!prob f) = true then (3,[]) else memErr m x.mem sp:=by
    unfold grErr; rw [if_neg g1,if_neg g2,if_neg g3,if_neg g4,if_neg g5,if_neg g6]
   (try dsimp only[awp]);conv=>whnf
   refine LoopE.of <| LoopSpec.inv (.refl _ _) (fun (s : Nat × List Str)=>s.1 ≤ x.mem.length ∧ memErr m x.mem sp = memErr m (x.mem.drop s.1) s.2 ∧ s.2.length ≤ sp.length + s.1)
    (fun s=>[(83,.int .i64 s.1),(3,.sl 1 (s.2.map .str) (.own 1))]) (fun s=>[(2,.box x.av),(1,.tok 1 s.2.length),(0,.box m.av)]) (fun s=>x.mem.length - s.1) (0,sp) ?_ (fun _=>rfl) ?_ ?_
   ·exact ⟨Nat.zero_le _,rfl,by simp⟩
   ·refine ⟨?_,.mk ?_ ⟨by simp,by simp,by simp,trivial⟩⟩
    ·all_goals exact wk
    ·all_goals exact wk
   rintro ⟨j,s2⟩ ⟨hj,hnj,hs2⟩ _
   dsimp only at hj hnj hs2
   (try dsimp only[awp]);conv=>whnf
   refine And.intro (fun hh=>?_) (fun hh=>?_)
   ·have hjl : j < x.mem.length:=by simpa using hh
    rw [List.drop_eq_getElem_cons hjl] at hnj
    simp only [memErr] at hnj
    (try dsimp only[awp]);conv=>whnf
    refine aidx hjl ?_
    generalize x.mem[j] = y at *
    (try dsimp only[awp]);conv=>whnf
    refine .pure _ _ ?_ ⟨rfl,rfl⟩ (ce y) fun _=>?_
    ·exact leL_refl _
    (try dsimp only[awp]);conv=>whnf
    refine And.intro (fun q1=>?_) (fun q1=>?_)
    ·rw [if_pos q1] at hnj
     obtain rfl : R = .int .i64 5:=by rw [hR,bad 5 (by decide) (by rw [hgr,hnj]; rfl)]
     (try dsimp only[awp]);conv=>whnf
     refine fM ?_;(conv=>whnf);refine ⟨?_,rfl⟩;conv=>whnf
     all_goals exact wk
    rw [if_neg q1] at hnj
    (try dsimp only[awp]);conv=>whnf
    refine LoopE.of <| LoopSpec.inv (.refl _ _) (fun (q : Nat)=>q ≤ s2.length ∧ ∀ (z : Nat) (hz : z < s2.length),z < q → s2[z] ≠ y) (fun (q : Nat)=>[(93,.int .i64 q)]) (fun _=>_) (fun (q : Nat)=>s2.length - q) 0 ?_ (fun _=>rfl) ?_ ?_
    ·exact ⟨Nat.zero_le _,by omega⟩
    ·all_goals exact wk
    rintro q ⟨hq,hnq⟩ _
    (try dsimp only[awp]);conv=>whnf
    refine And.intro (fun hz=>?_) (fun hz=>?_)
    ·have hql : q < s2.length:=by simpa using hz
     (try dsimp only[awp]);conv=>whnf
     refine aidx hql ?_
     (try dsimp only[awp]);conv=>whnf
     refine And.intro (fun he=>?_) (fun he=>?_)
     ·rw [if_pos (any_eq_mem hql he)] at hnj
      obtain rfl : R = .int .i64 6:=by rw [hR,bad 6 (by decide) (by rw [hgr,hnj]; rfl)]
      (try dsimp only[awp]);conv=>whnf
      refine fM ?_;(conv=>whnf);refine ⟨?_,rfl⟩;conv=>whnf
      all_goals exact wk
     (try dsimp only[awp]);conv=>whnf
     refine zA ?_;conv=>whnf
     refine ⟨q + 1,?_,?_,?_⟩
     ·refine ⟨hql,fun z hz hzq=>?_⟩
      by_cases hzq' : z = q
      ·subst hzq'; exact he
      ·exact hnq z hz (by omega)
     ·refine ⟨?_,.mk ?_ ⟨by simp,by simp,by simp,trivial⟩⟩
      ·all_goals exact wk
      ·all_goals exact wk
     ·omega
    have hql : q = s2.length:=by have : ¬ q < s2.length:=by simpa using hz
                                 omega
    subst hql
    rw [if_neg (by rw [any_eq_take fun z hz _=>hnq z hz hz]; simp)] at hnj
    clear hz
    (try dsimp only[awp]);conv=>whnf
    refine ⟨by rw [List.length_map],.mk (by simp [maxL]; omega) (by simp; omega) ?_⟩
    (try dsimp only[awp]);conv=>whnf
    refine zA ?_;conv=>whnf
    refine ⟨(j + 1,s2 ++ [y]),?_,?_,?_⟩
    ·exact ⟨hjl,hnj,by show (s2 ++ [y]).length ≤ sp.length + (j + 1); simp; omega⟩
    ·refine ⟨?_,.mk ?_ ⟨by simp,by simp,by simp,trivial⟩⟩
     ·repeat' first|exact rfl|exact trivial|exact wR|exact lR _|apply aI
      all_goals first | (refine leRL_of ?_; simp [strip]; done) | (simp; done) | (simp; omega)
     ·repeat' first|exact rfl|exact trivial|exact wR|exact lR _|apply aI
      all_goals first | (refine leRL_of ?_; simp [strip]; done) | (simp; done) | (simp; omega)
    ·show x.mem.length - (j + 1) < x.mem.length - j
     omega
   have hjl : j = x.mem.length:=by have : ¬ j < x.mem.length:=by simpa using hh
                                   omega
   rw [List.drop_eq_nil_of_le (by omega)] at hnj
   simp only [memErr] at hnj
   rw [hnj,if_neg (by simp)] at hgr
   clear hh
   (try dsimp only[awp]);conv=>whnf
   refine LoopE.of <| LoopSpec.inv (.refl _ _) (fun (q : Nat)=>q ≤ x.fac.length ∧ ∀ (z : Nat) (hz : z < x.fac.length),z < q → prob x.fac[z] = true) (fun (q : Nat)=>[(109,.int .i64 q)]) (fun _=>_) (fun (q : Nat)=>x.fac.length - q) 0 ?_ (fun _=>rfl) ?_ ?_
   ·exact ⟨Nat.zero_le _,by omega⟩
   ·all_goals exact wk
   rintro q ⟨hq,hnq⟩ _
   (try dsimp only[awp]);conv=>whnf
   refine And.intro (fun hz=>?_) (fun hz=>?_)
   ·have hql : q < x.fac.length:=by simpa using hz
    have hp:=c_rProbX h1c _ (hfc _ (List.getElem_mem hql))
    (try dsimp only[awp]);conv=>whnf
    refine aidx hql ?_
    (try dsimp only[awp]);conv=>whnf
    refine .pure _ _ ?_ ⟨rfl,rfl⟩ hp fun _=>?_
    ·exact leL_refl _
    (try dsimp only[awp]);conv=>whnf
    refine And.intro (fun q3=>?_) (fun q3=>?_)
    ·rw [if_pos (List.any_eq_true.2 ⟨_,List.getElem_mem hql,by simpa using q3⟩)] at hgr
     obtain rfl : R = .int .i64 3:=by rw [hR,bad 3 (by decide) (by rw [hgr])]
     (try dsimp only[awp]);conv=>whnf
     refine fM ?_;(conv=>whnf);refine ⟨?_,rfl⟩;conv=>whnf
     all_goals exact wk
    (try dsimp only[awp]);conv=>whnf
    refine zA ?_;conv=>whnf
    refine ⟨q + 1,?_,?_,?_⟩
    ·refine ⟨hql,fun z hz hzq=>?_⟩
     by_cases hzq' : z = q
     ·subst hzq'; simpa using q3
     ·exact hnq z hz (by omega)
    ·refine ⟨?_,.mk ?_ ⟨by simp,by simp,by simp,trivial⟩⟩
     ·all_goals exact wk
     ·all_goals exact wk
    ·omega
   have hql : q = x.fac.length:=by have : ¬ q < x.fac.length:=by simpa using hz
                                   omega
   subst hql
   rw [if_neg (by
    rw [Bool.not_eq_true,List.any_eq_false]
    intro f hf
    obtain ⟨z,hz,rfl⟩:=List.getElem_of_mem hf
    simp [hnq z hz hz])] at hgr
   rw [hgr,if_neg (by simp)] at hn
   (try dsimp only[awp]);conv=>whnf
   refine zA ?_;conv=>whnf
   refine ⟨(i + 1,s2),?_,?_,?_⟩
   ·exact ⟨hlt,hn,by show s2.length ≤ 60 * (i + 1); omega⟩
   ·refine ⟨?_,.mk ?_ ⟨by simp,by simp,trivial⟩⟩
    ·all_goals exact wk
    ·all_goals exact wk
   ·show m.grs.length - (i + 1) < m.grs.length - i
    omega
  ·have k0 : x.kind = 0:=by omega
   have g3 : ¬ (x.kind ≠ 0 ∧ x.kind ≠ 1):=fun h=>h.1 k0
   (try dsimp only[awp]);conv=>whnf
   refine And.intro (fun h=>by exfalso; omega) (fun h1=>?_)
   have e1 : (if x.kind = 1 then (4 : Int) else 24) = 24:=if_neg h1
   have e2 : (if x.kind = 1 then (x.mem.length : Int) - 1 else 1) = 1:=if_neg h1
   (try dsimp only[awp]);conv=>whnf
   refine And.intro (fun g4=>?_) (fun g4=>?_)
   ·have g4 : x.mem.length < 2:=by simp only [List.length_map] at g4; omega
    obtain rfl : R = .int .i64 11:=by rw [hR,bad 11 (by decide) (by unfold grErr; rw [if_neg g1,if_neg g2,if_neg g3,if_pos g4])]
    (try dsimp only[awp]);conv=>whnf
    refine fM ?_;(conv=>whnf);refine ⟨?_,rfl⟩;conv=>whnf
    all_goals exact wk
   have g4 : ¬ x.mem.length < 2:=by simp only [List.length_map] at g4; omega
   (try dsimp only[awp]);conv=>whnf
   refine And.intro (fun g5=>?_) (fun g5=>?_)
   ·rw [show ((x.mem.map AV.str).length : Int) = (x.mem.length : Int) by simp,← e1] at g5
    obtain rfl : R = .int .i64 11:=by rw [hR,bad 11 (by decide) (by unfold grErr; rw [if_neg g1,if_neg g2,if_neg g3,if_neg g4,if_pos g5])]
    (try dsimp only[awp]);conv=>whnf
    refine fM ?_;(conv=>whnf);refine ⟨?_,rfl⟩;conv=>whnf
    all_goals exact wk
   rw [show ((x.mem.map AV.str).length : Int) = (x.mem.length : Int) by simp,← e1] at g5
   (try dsimp only[awp]);conv=>whnf
   refine And.intro (fun g6=>?_) (fun g6=>?_)
   ·rw [show ((x.fac.map Rat.av).length : Int) = (x.fac.length : Int) by simp,← e2] at g6
    obtain rfl : R = .int .i64 11:=by rw [hR,bad 11 (by decide) (by unfold grErr; rw [if_neg g1,if_neg g2,if_neg g3,if_neg g4,if_neg g5,if_pos g6])]
    (try dsimp only[awp]);conv=>whnf
    refine fM ?_;(conv=>whnf);refine ⟨?_,rfl⟩;conv=>whnf
    all_goals exact wk
   rw [show ((x.fac.map Rat.av).length : Int) = (x.fac.length : Int) by simp,← e2] at g6
   have hgr : grErr m i x sp = if (memErr m x.mem sp).1 ≠ 0 then memErr m x.mem sp else if (x.fac.any fun f=>!prob f) = true then (3,[]) else memErr m x.mem sp:=by
    unfold grErr; rw [if_neg g1,if_neg g2,if_neg g3,if_neg g4,if_neg g5,if_neg g6]
   (try dsimp only[awp]);conv=>whnf
   refine LoopE.of <| LoopSpec.inv (.refl _ _) (fun (s : Nat × List Str)=>s.1 ≤ x.mem.length ∧ memErr m x.mem sp = memErr m (x.mem.drop s.1) s.2 ∧ s.2.length ≤ sp.length + s.1)
    (fun s=>[(83,.int .i64 s.1),(3,.sl 1 (s.2.map .str) (.own 1))]) (fun s=>[(2,.box x.av),(1,.tok 1 s.2.length),(0,.box m.av)]) (fun s=>x.mem.length - s.1) (0,sp) ?_ (fun _=>rfl) ?_ ?_
   ·exact ⟨Nat.zero_le _,rfl,by simp⟩
   ·refine ⟨?_,.mk ?_ ⟨by simp,by simp,by simp,trivial⟩⟩
    ·all_goals exact wk
    ·all_goals exact wk
   rintro ⟨j,s2⟩ ⟨hj,hnj,hs2⟩ _
   dsimp only at hj hnj hs2
   (try dsimp only[awp]);conv=>whnf
   refine And.intro (fun hh=>?_) (fun hh=>?_)
   ·have hjl : j < x.mem.length:=by simpa using hh
    rw [List.drop_eq_getElem_cons hjl] at hnj
    simp only [memErr] at hnj
    (try dsimp only[awp]);conv=>whnf
    refine aidx hjl ?_
    generalize x.mem[j] = y at *
    (try dsimp only[awp]);conv=>whnf
    refine .pure _ _ ?_ ⟨rfl,rfl⟩ (ce y) fun _=>?_
    ·exact leL_refl _
    (try dsimp only[awp]);conv=>whnf
    refine And.intro (fun q1=>?_) (fun q1=>?_)
    ·rw [if_pos q1] at hnj
     obtain rfl : R = .int .i64 5:=by rw [hR,bad 5 (by decide) (by rw [hgr,hnj]; rfl)]
     (try dsimp only[awp]);conv=>whnf
     refine fM ?_;(conv=>whnf);refine ⟨?_,rfl⟩;conv=>whnf
     all_goals exact wk
    rw [if_neg q1] at hnj
    (try dsimp only[awp]);conv=>whnf
    refine LoopE.of <| LoopSpec.inv (.refl _ _) (fun (q : Nat)=>q ≤ s2.length ∧ ∀ (z : Nat) (hz : z < s2.length),z < q → s2[z] ≠ y) (fun (q : Nat)=>[(93,.int .i64 q)]) (fun _=>_) (fun (q : Nat)=>s2.length - q) 0 ?_ (fun _=>rfl) ?_ ?_
    ·exact ⟨Nat.zero_le _,by omega⟩
    ·all_goals exact wk
    rintro q ⟨hq,hnq⟩ _
    (try dsimp only[awp]);conv=>whnf
    refine And.intro (fun hz=>?_) (fun hz=>?_)
    ·have hql : q < s2.length:=by simpa using hz
     (try dsimp only[awp]);conv=>whnf
     refine aidx hql ?_
     (try dsimp only[awp]);conv=>whnf
     refine And.intro (fun he=>?_) (fun he=>?_)
     ·rw [if_pos (any_eq_mem hql he)] at hnj
      obtain rfl : R = .int .i64 6:=by rw [hR,bad 6 (by decide) (by rw [hgr,hnj]; rfl)]
      (try dsimp only[awp]);conv=>whnf
      refine fM ?_;(conv=>whnf);refine ⟨?_,rfl⟩;conv=>whnf
      all_goals exact wk
     (try dsimp only[awp]);conv=>whnf
     refine zA ?_;conv=>whnf
     refine ⟨q + 1,?_,?_,?_⟩
     ·refine ⟨hql,fun z hz hzq=>?_⟩
      by_cases hzq' : z = q
      ·subst hzq'; exact he
      ·exact hnq z hz (by omega)
     ·refine ⟨?_,.mk ?_ ⟨by simp,by simp,by simp,trivial⟩⟩
      ·all_goals exact wk
      ·all_goals exact wk
     ·omega
    have hql : q = s2.length:=by have : ¬ q < s2.length:=by simpa using hz
                                 omega
    subst hql
    rw [if_neg (by rw [any_eq_take fun z hz _=>hnq z hz hz]; simp)] at hnj
    clear hz
    (try dsimp only[awp]);conv=>whnf
    refine ⟨by rw [List.length_map],.mk (by simp [maxL]; omega) (by simp; omega) ?_⟩
    (try dsimp only[awp]);conv=>whnf
    refine zA ?_;conv=>whnf
    refine ⟨(j + 1,s2 ++ [y]),?_,?_,?_⟩
    ·exact ⟨hjl,hnj,by show (s2 ++ [y]).length ≤ sp.length + (j + 1); simp; omega⟩
    ·refine ⟨?_,.mk ?_ ⟨by simp,by simp,by simp,trivial⟩⟩
     ·repeat' first|exact rfl|exact trivial|exact wR|exact lR _|apply aI
      all_goals first | (refine leRL_of ?_; simp [strip]; done) | (simp; done) | (simp; omega)
     ·repeat' first|exact rfl|exact trivial|exact wR|exact lR _|apply aI
      all_goals first | (refine leRL_of ?_; simp [strip]; done) | (simp; done) | (simp; omega)
    ·show x.mem.length - (j + 1) < x.mem.length - j
     omega
   have hjl : j = x.mem.length:=by have : ¬ j < x.mem.length:=by simpa using hh
                                   omega
   rw [List.drop_eq_nil_of_le (by omega)] at hnj
   simp only [memErr] at hnj
   rw [hnj,if_neg (by simp)] at hgr
   clear hh
   (try dsimp only[awp]);conv=>whnf
   refine LoopE.of <| LoopSpec.inv (.refl _ _) (fun (q : Nat)=>q ≤ x.fac.length ∧ ∀ (z : Nat) (hz : z < x.fac.length),z < q → prob x.fac[z] = true) (fun (q : Nat)=>[(109,.int .i64 q)]) (fun _=>_) (fun (q : Nat)=>x.fac.length - q) 0 ?_ (fun _=>rfl) ?_ ?_
   ·exact ⟨Nat.zero_le _,by omega⟩
   ·all_goals exact wk
   rintro q ⟨hq,hnq⟩ _
   (try dsimp only[awp]);conv=>whnf
   refine And.intro (fun hz=>?_) (fun hz=>?_)
   ·have hql : q < x.fac.length:=by simpa using hz
    have hp:=c_rProbX h1c _ (hfc _ (List.getElem_mem hql))
    (try dsimp only[awp]);conv=>whnf
    refine aidx hql ?_
    (try dsimp only[awp]);conv=>whnf
    refine .pure _ _ ?_ ⟨rfl,rfl⟩ hp fun _=>?_
    ·exact leL_refl _
    (try dsimp only[awp]);conv=>whnf
    refine And.intro (fun q3=>?_) (fun q3=>?_)
    ·rw [if_pos (List.any_eq_true.2 ⟨_,List.getElem_mem hql,by simpa using q3⟩)] at hgr
     obtain rfl : R = .int .i64 3:=by rw [hR,bad 3 (by decide) (by rw [hgr])]
     (try dsimp only[awp]);conv=>whnf
     refine fM ?_;(conv=>whnf);refine ⟨?_,rfl⟩;conv=>whnf
     all_goals exact wk
    (try dsimp only[awp]);conv=>whnf
    refine zA ?_;conv=>whnf
    refine ⟨q + 1,?_,?_,?_⟩
    ·refine ⟨hql,fun z hz hzq=>?_⟩
     by_cases hzq' : z = q
     ·subst hzq'; simpa using q3
     ·exact hnq z hz (by omega)
    ·refine ⟨?_,.mk ?_ ⟨by simp,by simp,by simp,trivial⟩⟩
     ·all_goals exact wk
     ·all_goals exact wk
    ·omega
   have hql : q = x.fac.length:=by have : ¬ q < x.fac.length:=by simpa using hz
                                   omega
   subst hql
   rw [if_neg (by
    rw [Bool.not_eq_true,List.any_eq_false]
    intro f hf
    obtain ⟨z,hz,rfl⟩:=List.getElem_of_mem hf
    simp [hnq z hz hz])] at hgr
   rw [hgr,if_neg (by simp)] at hn
   (try dsimp only[awp]);conv=>whnf
   refine zA ?_;conv=>whnf
   refine ⟨(i + 1,s2),?_,?_,?_⟩
   ·exact ⟨hlt,hn,by show s2.length ≤ 60 * (i + 1); omega⟩
   ·refine ⟨?_,.mk ?_ ⟨by simp,by simp,trivial⟩⟩
    ·all_goals exact wk
    ·all_goals exact wk
   ·show m.grs.length - (i + 1) < m.grs.length - i
    omega
 ·have hil : i = m.grs.length:=by have : ¬ i < m.grs.length:=by simpa using h
                                  omega
  rw [List.drop_eq_nil_of_le (by omega)] at hn
  simp only [grsErr] at hn
  rw [hge,hn] at hR
  subst hR
  (try dsimp only[awp]);conv=>whnf
  refine fM ?_;(conv=>whnf);refine ⟨?_,rfl⟩;conv=>whnf
  all_goals exact wk

def offR (m : Md) : Nat → Nat
 | 0=>0
 | k + 1=>offR m k + (gatesM m ((k : Int) - 1)).length

def numR (m : Md) (x : Node) : Int:=x.2.2 + offR m (x.2.1 + 1).toNat

theorem offR_le {m : Md} (hB : MdB m) : ∀ {k : Nat},k ≤ m.pages.length + 1 → offR m k ≤ 100 * k
 | 0,_=>by simp [offR]
 | k + 1,h=>by
   have:=offR_le hB (k:=k) (by omega)
   have h2:=(hB.gatesM (a:=(k : Int) - 1) (by omega)).1
   simp only [offR]
   omega

theorem c_number (m : Md) (hB : MdB m) (x : Node) (ha : x.2.1 = -1 ∨ (0 ≤ x.2.1 ∧ x.2.1 < (m.pages.length : Int))) (hi : 0 ≤ x.2.2 ∧ x.2.2 < 1000000) : FnH Tryz.prog 246 [m.av,.int .i64 x.2.1,.int .i64 x.2.2] [] (.int .i64 (numR m x)) []:=by
 obtain ⟨xk,a,i⟩:=x
 dsimp only at ha hi ⊢
 have hpl:=hB.pages
 obtain ⟨K,hK⟩ : ∃ K : Nat,(K : Int) = a + 1:=⟨(a + 1).toNat,by omega⟩
 have hnum : numR m (xk,a,i) = i + (offR m K : Nat):=by unfold numR; dsimp only; rw [show (a + 1).toNat = K from by omega]
 rw [hnum]
 have haK : a = (K : Int) - 1:=by omega
 subst haK
 refine FnH.intro lay mixed Tryz.func246 (by kernel_rfl) rfl (by kernel_rfl) rfl fun hok=>?_
 (try dsimp only[argC,succC]);(try dsimp only[awp]);conv=>whnf
 refine LoopE.of <| LoopSpec.inv (.refl _ _) (fun (k : Nat)=>k ≤ K) (fun (k : Nat)=>[(8,.int .i64 ((k : Int) - 1)),(7,.int .i64 (i + (offR m k : Nat)))]) (fun _=>_) (fun (k : Nat)=>K - k) 0 ?_ (fun _=>rfl) ?_ ?_
 ·exact Nat.zero_le _
 ·repeat' first|exact rfl|exact trivial|exact wR|exact lR _|apply aI
  all_goals first | (simp [offR]; done) | skip
 rintro k hk _
 (try dsimp only[awp]);conv=>whnf
 refine And.intro (fun h=>?_) (fun h=>?_)
 ·have hkl : k < K:=by omega
  have hak : (k : Int) - 1 = -1 ∨ (0 ≤ (k : Int) - 1 ∧ (k : Int) - 1 < (m.pages.length : Int)):=by omega
  have ho:=offR_le hB (k:=k + 1) (by omega)
  have hs : offR m (k + 1) = offR m k + (gatesM m ((k : Int) - 1)).length:=rfl
  (try dsimp only[awp]);conv=>whnf
  refine .pure _ _ ?_ ⟨rfl,rfl⟩ (c_rGates m _ hak) fun _=>?_
  ·exact leL_refl _
  (try dsimp only[awp]);conv=>whnf
  refine ⟨inr64 (by simp; omega) (by simp; omega),?_⟩
  (try dsimp only[awp]);conv=>whnf
  refine zA ?_;conv=>whnf
  refine ⟨k + 1,?_,?_,?_⟩
  ·exact hkl
  ·rw [hs]
   refine ⟨?_,.mk ?_ ⟨by simp,trivial⟩⟩
   ·repeat' first|exact rfl|exact trivial|exact wR|exact lR _|apply aI
    all_goals (show (_ : Int) = _; first | omega | (rw [List.length_map]; omega))
   ·all_goals exact wk
  ·omega
 have hkl : k = K:=by omega
 subst hkl
 (try dsimp only[awp]);conv=>whnf
 refine fM ?_;(conv=>whnf);refine ⟨?_,rfl⟩;conv=>whnf
 all_goals exact wk

def usesL (m : Md) (a : Int) (l : List Str) : List Int:=((l.map (findX m a)).filter fun x=>decide (x.1 = 2)).map (numR m)
def usesAt (m : Md) (x : Node) : List Int:=usesL m x.2.1 (gateAt m x).ins
def usesM (m : Md) : List (List Int):=(allNodes m).map (usesAt m)

theorem usesL_cons {m : Md} {a : Int} {s : Str} {l : List Str} : usesL m a (s :: l) = if (findX m a s).1 = 2 then numR m (findX m a s) :: usesL m a l else usesL m a l:=by
 unfold usesL
 rw [List.map_cons,List.filter_cons]
 by_cases h : (findX m a s).1 = 2
 ·rw [if_pos h,if_pos (by simpa using h),List.map_cons]
 ·rw [if_neg h,if_neg (by simpa using h)]

abbrev zL (l : List Int) : AV:=.sl 1 (l.map (AV.int .i64)) .no
abbrev uL (l : List (List Int)) : AV:=.sl 1 (l.map zL) .no

theorem findX_gate {m : Md} {a : Int} {s : Str} (ha : a = -1 ∨ (0 ≤ a ∧ a < (m.pages.length : Int))) (h : (findX m a s).1 = 2) : findX m a s ∈ allNodes m:=by
 have key : ∀ b t,(b = -1 ∨ (0 ≤ b ∧ b < (m.pages.length : Int))) → (findR m b t).1 = 2 → findR m b t ∈ allNodes m:=by
  intro b t hb h
  unfold findR at h ⊢
  by_cases h1 : 0 ≤ i_event m.evs t
  ·rw [if_pos h1] at h; cases h
  rw [if_neg h1] at h ⊢
  by_cases h2 : 0 ≤ i_house m.hs t
  ·rw [if_pos h2] at h; cases h
  rw [if_neg h2] at h ⊢
  by_cases h3 : 0 ≤ i_gate (gatesM m b) t
  ·rw [if_pos h3]
   exact mem_all.2 ⟨rfl,hb,h3,idxP_lt _ _⟩
  ·rw [if_neg h3] at h; cases h
 unfold findX at h ⊢
 by_cases h1 : atS s = true
 ·rw [if_pos h1] at h ⊢
  by_cases h2 : i_page m.pages (s.drop 1) < 0
  ·rw [if_pos h2] at h; cases h
  rw [if_neg h2] at h ⊢
  exact key _ _ (.inr ⟨by omega,idxP_lt _ _⟩) h
 ·rw [if_neg h1] at h ⊢
  exact key _ _ ha h

theorem c_uses (m : Md) (hB : MdB m) (ht : ∀ p : Int,0 ≤ p → p < (m.pages.length : Int) → atS (pageTop m p) = false) (R : AV) (hR : R = uL (usesM m)) : FnH Tryz.prog 175 [m.av] [] R []:=by
 have hpl:=hB.pages
 refine FnH.intro lay mixed Tryz.func175 (by kernel_rfl) rfl (by kernel_rfl) rfl fun hok=>?_
 (try dsimp only[argC,succC]);(try dsimp only[awp]);conv=>whnf
 refine LoopE.of <| LoopSpec.inv (.grow 3 1 [] _ rfl (.inl ⟨rfl,rfl⟩) (.refl _ _)) (fun (q : Nat × List (List Int))=>q.1 ≤ m.pages.length + 1 ∧ q.2 ++ (nodesFrom m q.1).map (usesAt m) = usesM m ∧ q.2.length ≤ 100 * q.1)
  (fun q=>[(4,.int .i64 ((q.1 : Int) - 1)),(3,.sl 1 (q.2.map zL) (.own 1))]) (fun q=>[(1,.tok 1 q.2.length),(0,.box m.av)]) (fun q=>m.pages.length + 1 - q.1) (0,[]) ?_ (fun _=>rfl) ?_ ?_
 ·exact ⟨Nat.zero_le _,rfl,by simp⟩
 ·refine ⟨?_,.mk ?_ ⟨by simp,by simp,trivial⟩⟩
  ·all_goals exact wk
  ·all_goals exact wk
 rintro ⟨k,us⟩ ⟨hk,hn,hu⟩ _
 dsimp only at hk hn hu
 (try dsimp only[awp]);conv=>whnf
 refine And.intro (fun h=>?_) (fun h=>?_)
 ·have hkl : k < m.pages.length + 1:=by simp only [List.length_map] at h; omega
  have ha : (k : Int) - 1 = -1 ∨ (0 ≤ (k : Int) - 1 ∧ (k : Int) - 1 < (m.pages.length : Int)):=by omega
  have hBa:=hB.gatesM ha
  have cG:=c_rGates m _ ha
  have cF:=fun s=>c_Find m _ s ha ht
  have hfg:=fun s=>findX_gate (m:=m) (s:=s) ha
  have hNl:=fun i (h : i < (gatesM m ((k : Int) - 1)).length)=>drop_of_get? (nodesAt_get (m:=m) (a:=(k : Int) - 1) h)
  have hga : ∀ (i : Nat) (h : i < (gatesM m ((k : Int) - 1)).length),usesAt m (2,(k : Int) - 1,(i : Int)) = usesL m ((k : Int) - 1) (gatesM m ((k : Int) - 1))[i].ins:=by
   intro i h
   unfold usesAt gateAt
   dsimp only
   rw [Int.toNat_natCast,List.getD_eq_getElem?_getD,List.getElem?_eq_getElem h]; rfl
  rw [nodesFrom_step hkl] at hn
  clear h
  generalize hrest : nodesFrom m (k + 1) = rest at *
  have hle:=nodesAt_len m ((k : Int) - 1)
  generalize hage : (k : Int) - 1 = a at *
  generalize hnod : nodesAt m a = nod at *
  generalize hgs : gatesM m a = gs at *
  (try dsimp only[awp]);conv=>whnf
  refine .pure _ _ ?_ ⟨rfl,rfl⟩ cG fun hokl=>?_
  ·exact leL_refl _
  (try dsimp only[awp]);conv=>whnf
  refine LoopE.of <| LoopSpec.inv (.refl _ _) (fun (q : Nat × List (List Int))=>q.1 ≤ gs.length ∧ q.2 ++ (nod.drop q.1 ++ rest).map (usesAt m) = usesM m ∧ q.2.length ≤ us.length + q.1)
   (fun q=>[(24,.int .i64 q.1),(3,.sl 1 (q.2.map zL) (.own 1))]) (fun q=>[(1,.tok 1 q.2.length),(0,.box m.av)]) (fun q=>gs.length - q.1) (0,us) ?_ (fun _=>rfl) ?_ ?_
  ·exact ⟨Nat.zero_le _,hn,by simp⟩
  ·refine ⟨?_,.mk ?_ ⟨by simp,by simp,trivial⟩⟩
   ·all_goals exact wk
   ·all_goals exact wk
  rintro ⟨i,u1⟩ ⟨hi,hni,hu1⟩ _
  dsimp only at hi hni hu1
  (try dsimp only[awp]);conv=>whnf
  refine And.intro (fun h=>?_) (fun h=>?_)
  ·have hlt : i < gs.length:=by simpa using h
   have hxi:=hBa.2 _ (List.getElem_mem hlt)
   rw [hNl i hlt,List.cons_append,List.map_cons,hga i hlt] at hni
   (try dsimp only[awp]);conv=>whnf
   refine aidx hlt ?_
   generalize gs[i] = g at *
   (try dsimp only[awp]);conv=>whnf
   refine LoopE.of <| LoopSpec.inv (.grow 7 1 [] _ rfl (.inl ⟨rfl,rfl⟩) (.refl _ _)) (fun (q : Nat × List Int)=>q.1 ≤ g.ins.length ∧ q.2 ++ usesL m a (g.ins.drop q.1) = usesL m a g.ins ∧ q.2.length ≤ q.1)
    (fun q=>[(31,.int .i64 q.1),(7,.sl 1 (q.2.map (AV.int .i64)) (.own 3))]) (fun q=>[(3,.tok 1 q.2.length),(2,.box g.av),(1,.tok 1 u1.length),(0,.box m.av)]) (fun q=>g.ins.length - q.1) (0,[]) ?_ (fun _=>rfl) ?_ ?_
   ·exact ⟨Nat.zero_le _,rfl,by simp⟩
   ·refine ⟨?_,.mk ?_ ⟨by simp,by simp,by simp,by simp,trivial⟩⟩
    ·all_goals exact wk
    ·all_goals exact wk
   rintro ⟨j,l⟩ ⟨hj,hnj,hl⟩ _
   dsimp only at hj hnj hl
   (try dsimp only[awp]);conv=>whnf
   refine And.intro (fun hh=>?_) (fun hh=>?_)
   ·have hjl : j < g.ins.length:=by simpa using hh
    rw [List.drop_eq_getElem_cons hjl,usesL_cons] at hnj
    (try dsimp only[awp]);conv=>whnf
    refine aidx hjl ?_
    generalize g.ins[j] = x at *
    have hfg:=hfg x
    have cF:=cF x
    generalize findX m a x = y at *
    obtain ⟨y1,y2,y3⟩:=y
    (try dsimp only[awp]);conv=>whnf
    refine .pure _ _ ?_ ⟨rfl,rfl⟩ cF fun _=>?_
    ·exact leL_refl _
    (try dsimp only[awp]);conv=>whnf
    refine And.intro (fun g1=>?_) (fun g1=>?_)
    ·obtain ⟨_,hy2,hy3,hy4⟩:=mem_all.1 (hfg g1)
     have hb4:=(hB.gatesM hy2).1
     have cN:=c_number m hB (y1,y2,y3) hy2 ⟨hy3,by show y3 < 1000000; have : y3 < ((gatesM m y2).length : Int):=hy4; have : (gatesM m y2).length ≤ 100:=hb4; omega⟩
     rw [if_pos g1] at hnj
     generalize numR m (y1,y2,y3) = z at *
     (try dsimp only[awp]);conv=>whnf
     refine .pure _ _ ?_ ⟨rfl,rfl⟩ cN fun _=>?_
     ·exact leL_refl _
     (try dsimp only[awp]);conv=>whnf
     refine ⟨by rw [List.length_map],.mk (by simp [maxL]; omega) (by simp; omega) ?_⟩
     (try dsimp only[awp]);conv=>whnf
     refine zA ?_;conv=>whnf
     refine ⟨(j + 1,l ++ [z]),?_,?_,?_⟩
     ·exact ⟨hjl,by rw [← hnj]; simp,by show (l ++ [z]).length ≤ j + 1; simp; omega⟩
     ·refine ⟨?_,.mk ?_ ⟨by simp,by simp,by simp,by simp,trivial⟩⟩
      ·repeat' first|exact rfl|exact trivial|exact wR|exact lR _|apply aI
       all_goals first | (refine leRL_of ?_; simp [strip]; done) | (simp; done) | (simp; omega)
      ·repeat' first|exact rfl|exact trivial|exact wR|exact lR _|apply aI
       all_goals first | (refine leRL_of ?_; simp [strip]; done) | (simp; done) | (simp; omega)
     ·show g.ins.length - (j + 1) < g.ins.length - j
      omega
    ·rw [if_neg g1] at hnj
     (try dsimp only[awp]);conv=>whnf
     refine zA ?_;conv=>whnf
     refine ⟨(j + 1,l),?_,?_,?_⟩
     ·exact ⟨hjl,hnj,by show l.length ≤ j + 1; omega⟩
     ·refine ⟨?_,.mk ?_ ⟨by simp,by simp,by simp,by simp,trivial⟩⟩
      ·all_goals exact wk
      ·all_goals exact wk
     ·show g.ins.length - (j + 1) < g.ins.length - j
      omega
   have hjl : j = g.ins.length:=by have : ¬ j < g.ins.length:=by simpa using hh
                                   omega
   subst hjl
   rw [List.drop_length,show usesL m a [] = [] from rfl,List.append_nil] at hnj
   subst hnj
   generalize usesL m a g.ins = l at *
   (try dsimp only[awp]);conv=>whnf
   refine ⟨by rw [List.length_map],.mk (by simp [maxL]; omega) (by simp; omega) ?_⟩
   (try dsimp only[awp]);conv=>whnf
   refine zA ?_;conv=>whnf
   refine ⟨(i + 1,u1 ++ [l]),?_,?_,?_⟩
   ·exact ⟨hlt,by rw [← hni]; simp,by show (u1 ++ [l]).length ≤ us.length + (i + 1); simp; omega⟩
   ·refine ⟨?_,.mk ?_ ⟨by simp,by simp,trivial⟩⟩
    ·repeat' first|exact rfl|exact trivial|exact wR|exact lR _|apply aI
     all_goals first | (refine leRL_of ?_; simp [strip]; done) | (simp; done) | (simp; omega)
    ·repeat' first|exact rfl|exact trivial|exact wR|exact lR _|apply aI
     all_goals first | (refine leRL_of ?_; simp [strip]; done) | (simp; done) | (simp; omega)
   ·show gs.length - (i + 1) < gs.length - i
    omega
  have hil : i = gs.length:=by have : ¬ i < gs.length:=by simpa using h
                               omega
  rw [List.drop_eq_nil_of_le (by omega),List.nil_append] at hni
  (try dsimp only[awp]);conv=>whnf
  refine zA ?_;conv=>whnf
  refine ⟨(k + 1,u1),?_,?_,?_⟩
  ·exact ⟨hkl,by show u1 ++ (nodesFrom m (k + 1)).map (usesAt m) = _; rw [hrest]; exact hni,by show u1.length ≤ 100 * (k + 1); have:=hBa.1; omega⟩
  ·refine ⟨?_,.mk ?_ ⟨by simp,by simp,trivial⟩⟩
   ·repeat' first|exact rfl|exact trivial|exact wR|exact lR _|apply aI
    all_goals (show _ = _; congr 1 <;> omega)
   ·all_goals exact wk
  ·show m.pages.length + 1 - (k + 1) < m.pages.length + 1 - k
   omega
 have hkl : m.pages.length + 1 ≤ k:=by simp only [List.length_map] at h; omega
 rw [nodesFrom_end hkl,List.map_nil,List.append_nil] at hn
 subst hn
 subst hR
 (try dsimp only[awp]);conv=>whnf
 refine fM ?_;(conv=>whnf);refine ⟨?_,rfl⟩;conv=>whnf
 all_goals exact wk

def rdyD (d : List Bool) (l : List Int) : Bool:=l.all fun k=>d.getD k.toNat false
def stepD (d : List Bool) (i : Nat) (l : List Int) : List Bool:=d.set i (d.getD i false || rdyD d l)
def passD : Nat → List (List Int) → List Bool → List Bool
 | _,[],d=>d
 | i,l :: us,d=>passD (i + 1) us (stepD d i l)
def roundsD (us : List (List Int)) : Nat → List Bool → List Bool
 | 0,d=>d
 | r + 1,d=>roundsD us r (passD 0 us d)
def doneD (us : List (List Int)) : List Bool:=roundsD us us.length (List.replicate us.length false)
def cycU (us : List (List Int)) : Bool:=(doneD us).any fun b=>!b

theorem stepD_len {d : List Bool} {i : Nat} {l : List Int} : (stepD d i l).length = d.length:=by simp [stepD]

theorem rdyD_take {d : List Bool} {l : List Int} {i : Nat} (h : i < l.length) : rdyD d (l.take (i + 1)) = (rdyD d (l.take i) && d.getD (l[i]).toNat false):=by
 unfold rdyD
 rw [List.take_add_one,List.getElem?_eq_getElem h,List.all_append]; simp

theorem drop_off {m : Md} : ∀ {k : Nat},k ≤ m.pages.length + 1 → (allNodes m).drop (offR m k) = nodesFrom m k
 | 0,_=>rfl
 | k + 1,h=>by
   simp only [offR]
   rw [← List.drop_drop,drop_off (by omega : k ≤ _),nodesFrom_step (by omega),← nodesAt_len,List.drop_left]

theorem num_get {m : Md} {x : Node} (hx : x ∈ allNodes m) : 0 ≤ numR m x ∧ (allNodes m)[(numR m x).toNat]? = some x:=by
 obtain ⟨h1,h2,h3,h4⟩:=mem_all.1 hx
 obtain ⟨xk,a,i⟩:=x
 dsimp only at h1 h2 h3 h4
 subst h1
 have hb : (a + 1).toNat < m.pages.length + 1:=by omega
 have e:=drop_off (m:=m) (k:=(a + 1).toNat) (by omega)
 have ha : (((a + 1).toNat : Nat) : Int) - 1 = a:=by omega
 rw [nodesFrom_step hb,ha] at e
 have hi : i.toNat < (gatesM m a).length:=by omega
 have g : ((allNodes m).drop (offR m (a + 1).toNat))[i.toNat]? = some (2,a,i):=by
  rw [e,List.getElem?_append_left (by rw [nodesAt_len]; exact hi),nodesAt_get hi,Int.toNat_of_nonneg h3]
 rw [List.getElem?_drop] at g
 have hn : numR m (2,a,i) = i + offR m (a + 1).toNat:=rfl
 refine ⟨by rw [hn]; omega,?_⟩
 rw [hn,show (i + (offR m (a + 1).toNat : Int)).toNat = offR m (a + 1).toNat + i.toNat by omega]
 exact g

theorem uses_lt {m : Md} : ∀ l ∈ usesM m,∀ k ∈ l,0 ≤ k ∧ k < ((usesM m).length : Int):=by
 intro l hl k hk
 unfold usesM at hl
 obtain ⟨x,hx,rfl⟩:=List.mem_map.1 hl
 unfold usesAt usesL at hk
 obtain ⟨y,hy,rfl⟩:=List.mem_map.1 hk
 obtain ⟨hy,h2⟩:=List.mem_filter.1 hy
 obtain ⟨s,_,rfl⟩:=List.mem_map.1 hy
 obtain ⟨g1,g2⟩:=num_get (findX_gate (mem_all.1 hx).2.1 (of_decide_eq_true h2))
 have:=(List.getElem?_eq_some_iff.1 g2).1
 refine ⟨g1,?_⟩
 simp only [usesM,List.length_map]
 omega

theorem leRL_false : ∀ (n : Nat),leRL (List.replicate n AV.ff) ((List.replicate n false).map AV.bool)
 | 0=>trivial
 | n + 1=>⟨rfl,leRL_false n⟩

theorem leRL_set {A : AV} {b : Bool} (h : leR A (.bool b)) : ∀ (d : List Bool) (i : Nat),leRL ((d.map AV.bool).set i A) ((d.set i b).map AV.bool)
 | [],_=>trivial
 | _ :: _,0=>⟨h,leRL_refl _⟩
 | x :: d,i + 1=>⟨leR_refl _,leRL_set h d i⟩

theorem c_cycle (m : Md) (hB : MdB m) (ht : ∀ p : Int,0 ≤ p → p < (m.pages.length : Int) → atS (pageTop m p) = false) (hn : (usesM m).length ≤ 100000) : FnH Tryz.prog 92 [m.av] [] (.bool (cycU (usesM m))) []:=by
 have cu:=c_uses m hB ht _ rfl
 have hlt:=uses_lt (m:=m)
 refine FnH.intro lay mixed Tryz.func92 (by kernel_rfl) rfl (by kernel_rfl) rfl fun hok=>?_
 (try dsimp only[argC,succC]);(try dsimp only[awp]);conv=>whnf
 refine .pure _ _ ?_ ⟨rfl,rfl⟩ cu fun hoku=>?_
 ·exact leL_refl _
 generalize usesM m = us at *
 (try dsimp only[awp]);conv=>whnf
 rw [show (((us.map zL).length : Nat) : Int) = (us.length : Int) by simp]
 refine ⟨⟨by omega,by omega,by simp; omega,by omega⟩,.wr ?_⟩
 (try dsimp only[awp]);conv=>whnf
 refine LoopE.of <| LoopSpec.inv (.refl _ _) (fun (q : Nat × List Bool)=>q.1 ≤ us.length ∧ q.2.length = us.length ∧ roundsD us (us.length - q.1) q.2 = doneD us)
  (fun q=>[(19,.int .i64 q.1)]) (fun q=>[(1,.arr 1 us.length (q.2.map .bool)),(0,.box m.av)]) (fun q=>us.length - q.1) (0,List.replicate us.length false) ?_ (fun _=>rfl) ?_ ?_
 ·exact ⟨Nat.zero_le _,by simp,rfl⟩
 ·refine ⟨?_,.mk ?_ ⟨by simp,by simp,trivial⟩⟩
  ·all_goals exact wk
  ·repeat' first|exact rfl|exact trivial|exact wR|exact lR _|apply aI
   all_goals first | (simp; done) | exact leRL_false _
 rintro ⟨r,d⟩ ⟨hr,hd,hF⟩ _
 dsimp only at hr hd hF
 (try dsimp only[awp]);conv=>whnf
 refine And.intro (fun h=>?_) (fun h=>?_)
 ·have hrl : r < us.length:=by simpa using h
  rw [show us.length - r = (us.length - (r + 1)) + 1 by omega] at hF
  simp only [roundsD] at hF
  clear h
  (try dsimp only[awp]);conv=>whnf
  refine LoopE.of <| LoopSpec.inv (.refl _ _) (fun (q : Nat × List Bool)=>q.1 ≤ us.length ∧ q.2.length = us.length ∧ passD 0 us d = passD q.1 (us.drop q.1) q.2)
   (fun q=>[(23,.int .i64 q.1)]) (fun q=>[(1,.arr 1 us.length (q.2.map .bool)),(0,.box m.av)]) (fun q=>us.length - q.1) (0,d) ?_ (fun _=>rfl) ?_ ?_
  ·exact ⟨Nat.zero_le _,hd,rfl⟩
  ·refine ⟨?_,.mk ?_ ⟨by simp,by simp,trivial⟩⟩
   ·all_goals exact wk
   ·all_goals exact wk
  rintro ⟨i,d1⟩ ⟨hi,hd1,hP⟩ _
  dsimp only at hi hd1 hP
  (try dsimp only[awp]);conv=>whnf
  refine And.intro (fun h=>?_) (fun h=>?_)
  ·have hil : i < us.length:=by simpa using h
   have hul:=hlt _ (List.getElem_mem hil)
   have hll : (us[i]).length ≤ 9223372036854775807:=by
    have:=OkL_map hoku.2 _ (List.getElem_mem hil)
    simp only [Ok] at this
    simpa [maxL] using this.1
   rw [List.drop_eq_getElem_cons hil] at hP
   simp only [passD] at hP
   (try dsimp only[awp]);conv=>whnf
   refine aidx hil ?_
   generalize us[i] = l at *
   (try dsimp only[awp]);conv=>whnf
   refine LoopE.of <| LoopSpec.inv (.refl _ _) (fun (q : Nat)=>q ≤ l.length)
    (fun q=>[(30,.int .i64 q),(7,.bool (rdyD d1 (l.take q)))]) (fun q=>[(1,.arr 1 us.length (d1.map .bool)),(0,.box m.av)]) (fun q=>l.length - q) 0 ?_ (fun _=>rfl) ?_ ?_
   ·exact Nat.zero_le _
   ·refine ⟨?_,.mk ?_ ⟨by simp,by simp,trivial⟩⟩
    ·all_goals exact wk
    ·all_goals exact wk
   rintro q hq _
   (try dsimp only[awp]);conv=>whnf
   refine And.intro (fun hh=>?_) (fun hh=>?_)
   ·have hql : q < l.length:=by simpa using hh
    have hrt:=rdyD_take (d:=d1) hql
    have hk:=hul _ (List.getElem_mem hql)
    (try dsimp only[awp]);conv=>whnf
    refine aidx hql ?_
    generalize l[q] = k at *
    (try dsimp only[awp]);conv=>whnf
    refine And.intro (fun hy=>?_) (fun hy=>?_)
    ·(try dsimp only[awp]);conv=>whnf
     refine ⟨by simp; omega,?_⟩
     (try dsimp only[awp]);conv=>whnf
     refine aidxN' false (i:=k.toNat) (by simp) (by omega) ?_
     refine ⟨rfl,?_⟩
     (try dsimp only[awp]);conv=>whnf
     refine zA ?_;conv=>whnf
     refine ⟨q + 1,?_,?_,?_⟩
     ·exact hql
     ·rw [hrt,hy,Bool.true_and]
      refine ⟨?_,.mk ?_ ⟨by simp,by simp,trivial⟩⟩
      ·all_goals exact wk
      ·all_goals exact wk
     ·omega
    ·(try dsimp only[awp]);conv=>whnf
     refine zA ?_;conv=>whnf
     refine ⟨q + 1,?_,?_,?_⟩
     ·exact hql
     ·rw [hrt,hy,Bool.false_and]
      refine ⟨?_,.mk ?_ ⟨by simp,by simp,trivial⟩⟩
      ·all_goals exact wk
      ·all_goals exact wk
     ·omega
   ·have hql : q = l.length:=by have : ¬ q < l.length:=by simpa using hh
                                omega
    subst hql
    rw [List.take_length]
    (try dsimp only[awp]);conv=>whnf
    refine ⟨by simp; omega,?_⟩
    (try dsimp only[awp]);conv=>whnf
    refine aidxN' false (i:=i) (by simp) (by omega) ?_
    refine ⟨rfl,?_⟩
    (try dsimp only[awp]);conv=>whnf
    refine And.intro (fun hy=>?_) (fun hy=>?_)
    ·(try dsimp only[awp]);conv=>whnf
     refine ⟨by omega,?_⟩
     (try dsimp only[awp]);conv=>whnf
     refine ⟨by simp; omega,rfl,?_⟩
     have hsd : stepD d1 i l = d1.set i true:=by unfold stepD; rw [hy]; rfl
     (try dsimp only[awp]);conv=>whnf
     refine zA ?_;conv=>whnf
     refine ⟨(i + 1,stepD d1 i l),?_,?_,?_⟩
     ·exact ⟨hil,by show (stepD d1 i l).length = _; rw [stepD_len]; exact hd1,hP⟩
     ·rw [hsd]
      refine ⟨?_,.mk ?_ ⟨by simp,by simp,trivial⟩⟩
      ·all_goals exact wk
      ·repeat' first|exact rfl|exact trivial|exact wR|exact lR _|apply aI
       all_goals first | (simp; done) | (rw [show 0 + ((i : Nat) : Int).toNat = i by simp]; exact leRL_set (A:=.tt) (b:=true) rfl d1 i)
     ·show us.length - (i + 1) < us.length - i
      omega
    ·(try dsimp only[awp]);conv=>whnf
     refine ⟨by omega,?_⟩
     (try dsimp only[awp]);conv=>whnf
     refine ⟨by simp; omega,rfl,?_⟩
     have hsd : stepD d1 i l = d1.set i (rdyD d1 l):=by unfold stepD; rw [hy]; rw [Bool.false_or]
     (try dsimp only[awp]);conv=>whnf
     refine zA ?_;conv=>whnf
     refine ⟨(i + 1,stepD d1 i l),?_,?_,?_⟩
     ·exact ⟨hil,by show (stepD d1 i l).length = _; rw [stepD_len]; exact hd1,hP⟩
     ·rw [hsd]
      refine ⟨?_,.mk ?_ ⟨by simp,by simp,trivial⟩⟩
      ·all_goals exact wk
      ·repeat' first|exact rfl|exact trivial|exact wR|exact lR _|apply aI
       all_goals first | (simp; done) | (rw [show 0 + ((i : Nat) : Int).toNat = i by simp]; exact leRL_set (A:=.bool (rdyD d1 l)) (b:=(rdyD d1 l)) rfl d1 i)
     ·show us.length - (i + 1) < us.length - i
      omega
  have hil : i = us.length:=by have : ¬ i < us.length:=by simpa using h
                               omega
  rw [List.drop_eq_nil_of_le (by omega)] at hP
  simp only [passD] at hP
  rw [hP] at hF
  (try dsimp only[awp]);conv=>whnf
  refine zA ?_;conv=>whnf
  refine ⟨(r + 1,d1),?_,?_,?_⟩
  ·exact ⟨hrl,hd1,hF⟩
  ·refine ⟨?_,.mk ?_ ⟨by simp,by simp,trivial⟩⟩
   ·all_goals exact wk
   ·all_goals exact wk
  ·show us.length - (r + 1) < us.length - r
   omega
 have hrl : r = us.length:=by have : ¬ r < us.length:=by simpa using h
                              omega
 rw [hrl,Nat.sub_self] at hF
 simp only [roundsD] at hF
 have hcy : cycU us = d.any fun b=>!b:=by unfold cycU; rw [hF]
 rw [hcy]
 clear h
 (try dsimp only[awp]);conv=>whnf
 refine LoopE.of <| LoopSpec.inv (.refl _ _) (fun (q : Nat)=>q ≤ us.length ∧ ∀ (z : Nat) (hz : z < d.length),z < q → d[z] = true)
  (fun q=>[(56,.int .i64 q)]) (fun q=>[(1,.arr 1 us.length (d.map .bool)),(0,.box m.av)]) (fun q=>us.length - q) 0 ?_ (fun _=>rfl) ?_ ?_
 ·exact ⟨Nat.zero_le _,by omega⟩
 ·refine ⟨?_,.mk ?_ ⟨by simp,by simp,trivial⟩⟩
  ·all_goals exact wk
  ·all_goals exact wk
 rintro q ⟨hq,hz⟩ _
 (try dsimp only[awp]);conv=>whnf
 refine And.intro (fun hh=>?_) (fun hh=>?_)
 ·have hql : q < us.length:=by simpa using hh
  have hqd : q < d.length:=by omega
  (try dsimp only[awp]);conv=>whnf
  refine ⟨by omega,?_⟩
  (try dsimp only[awp]);conv=>whnf
  refine aidxN' false (i:=q) (by simp) hqd ?_
  refine ⟨rfl,?_⟩
  rw [getD_lt' hqd]
  (try dsimp only[awp]);conv=>whnf
  refine And.intro (fun hy=>?_) (fun hy=>?_)
  ·rw [show (d.any fun b=>!b) = true from List.any_eq_true.2 ⟨d[q],List.getElem_mem hqd,by simpa using hy⟩]
   (try dsimp only[awp]);conv=>whnf
   refine fM ?_;(conv=>whnf);refine ⟨?_,rfl⟩;conv=>whnf
   all_goals exact wk
  ·(try dsimp only[awp]);conv=>whnf
   refine zA ?_;conv=>whnf
   refine ⟨q + 1,?_,?_,?_⟩
   ·refine ⟨hql,fun z hz1 hzq=>?_⟩
    by_cases e : z = q
    ·subst e; simpa using hy
    ·exact hz z hz1 (by omega)
   ·refine ⟨?_,.mk ?_ ⟨by simp,by simp,trivial⟩⟩
    ·all_goals exact wk
    ·all_goals exact wk
   ·omega
 have hql : q = us.length:=by have : ¬ q < us.length:=by simpa using hh
                              omega
 rw [show (d.any fun b=>!b) = false from List.any_eq_false.2 fun b hb=>by
  obtain ⟨z,hz1,rfl⟩:=List.getElem_of_mem hb
  simp [hz z hz1 (by omega)]]
 (try dsimp only[awp]);conv=>whnf
 refine fM ?_;(conv=>whnf);refine ⟨?_,rfl⟩;conv=>whnf
 all_goals exact wk

theorem findR_res {m : Md} {a : Int} {s : Str} (h : okN m (resOn m a s)) : findR m a s = resOn m a s:=by
 unfold findR
 by_cases h1 : 0 ≤ i_event m.evs s
 ·rw [if_pos h1]; unfold resOn; rw [if_pos h1]
 by_cases h2 : 0 ≤ i_house m.hs s
 ·rw [if_neg h1,if_pos h2]; unfold resOn; rw [if_neg h1,if_pos h2]
 have e : resOn m a s = (2,a,i_gate (gatesM m a) s):=by unfold resOn; rw [if_neg h1,if_neg h2]
 rw [e] at h ⊢
 have h3 : 0 ≤ i_gate (gatesM m a) s:=by
  rcases h with h | h | h
  ·exact absurd (show (2 : Int) = 0 from h.1) (by decide)
  ·exact absurd (show (2 : Int) = 1 from h.1) (by decide)
  ·exact (mem_all.1 h).2.2.1
 rw [if_neg h1,if_neg h2,if_pos h3]

theorem find_res {m : Md} {a : Int} {s : Str} (h : okN m (resR m a s)) (hp : atS s = true → 0 ≤ i_page m.pages (s.drop 1)) : findX m a s = resR m a s:=by
 unfold findX
 by_cases e : atS s = true
 ·have hr : resR m a s = resOn m (i_page m.pages (s.drop 1)) (pageTop m (i_page m.pages (s.drop 1))):=if_pos e
  have:=hp e
  rw [hr] at h ⊢
  rw [if_pos e,if_neg (by omega),findR_res h]
 ·have hr : resR m a s = resOn m a s:=if_neg e
  rw [hr] at h ⊢
  rw [if_neg e,findR_res h]

theorem uses_kids {m : Md} (hc : ClosedM m) {x : Node} (hx : x ∈ allNodes m) : usesAt m x = ((kidsM m x).filter fun y=>decide (y.1 = 2)).map (numR m):=by
 unfold usesAt usesL kidsM
 have : (gateAt m x).ins.map (findX m x.2.1) = (gateAt m x).ins.map (resR m x.2.1):=List.map_congr_left fun s hs=>find_res (hc x hx s hs).2.2 (hc x hx s hs).2.1
 rw [this]

def LeD (d e : List Bool) : Prop:=∀ i : Nat,d.getD i false = true → e.getD i false = true

theorem LeD.refl (d : List Bool) : LeD d d:=fun _ h=>h
theorem LeD.trans {a b c : List Bool} (h : LeD a b) (g : LeD b c) : LeD a c:=fun i e=>g i (h i e)

theorem getD_set {d : List Bool} {i j : Nat} {b : Bool} : (d.set i b).getD j false = if i = j ∧ j < d.length then b else d.getD j false:=by
 rw [List.getD_eq_getElem?_getD,List.getElem?_set,List.getD_eq_getElem?_getD]
 by_cases e : i = j
 ·subst e
  by_cases h : i < d.length
  ·simp [h]
  ·simp [h]
 ·simp [e]

theorem rdyD_le {d e : List Bool} (h : LeD d e) {l : List Int} (hr : rdyD d l = true) : rdyD e l = true:=by
 unfold rdyD at hr ⊢
 exact List.all_eq_true.2 fun k hk=>h _ (List.all_eq_true.1 hr k hk)

theorem stepD_le {d : List Bool} {i : Nat} {l : List Int} : LeD d (stepD d i l):=by
 intro j h
 unfold stepD
 rw [getD_set]
 split
 ·rename_i e; rw [e.1,h,Bool.true_or]
 ·exact h

theorem passD_le : ∀ (us : List (List Int)) (i : Nat) (d : List Bool),LeD d (passD i us d)
 | [],_,d=>.refl d
 | l :: us,i,d=>stepD_le.trans (passD_le us (i + 1) _)

theorem passD_len : ∀ (us : List (List Int)) (i : Nat) (d : List Bool),(passD i us d).length = d.length
 | [],_,_=>rfl
 | l :: us,i,d=>by simp only [passD]; rw [passD_len us,stepD_len]

theorem pass_ready : ∀ (us : List (List Int)) (j : Nat) (d : List Bool) (k : Nat) (h : k < us.length),j + k < d.length → rdyD d us[k] = true → (passD j us d).getD (j + k) false = true
 | [],_,_,_,h,_,_=>absurd h (by simp)
 | l :: us,j,d,0,_,hd,hr=>by
   simp only [passD]
   refine passD_le us (j + 1) _ _ ?_
   unfold stepD
   rw [getD_set,if_pos ⟨rfl,hd⟩]
   have hr : rdyD d l = true:=hr
   rw [hr,Bool.or_true]
 | l :: us,j,d,k + 1,h,hd,hr=>by
   simp only [passD]
   have:=pass_ready us (j + 1) (stepD d j l) k (by simpa using h) (by rw [stepD_len]; omega) (rdyD_le stepD_le hr)
   rw [show j + (k + 1) = j + 1 + k by omega]
   exact this

theorem cnt_lt : ∀ (d e : List Bool),d.length = e.length → LeD d e → e.count false ≤ d.count false ∧ ((∃ i : Nat,i < d.length ∧ d.getD i false = false ∧ e.getD i false = true) → e.count false < d.count false)
 | [],[],_,_=>⟨Nat.le_refl _,by rintro ⟨i,h,_⟩; simp at h⟩
 | [],_ :: _,h,_=>by simp at h
 | _ :: _,[],h,_=>by simp at h
 | x :: d,y :: e,h,hl=>by
   obtain ⟨h1,h2⟩:=cnt_lt d e (by simpa using h) fun i hi=>by simpa using hl (i + 1) (by simpa using hi)
   have h0 : x = true → y = true:=fun hx=>by simpa using hl 0 (by simpa using hx)
   simp only [List.count_cons]
   refine ⟨?_,?_⟩
   ·cases x <;> cases y <;> simp_all <;> omega
   ·rintro ⟨i,hi,hd,he⟩
    cases i with
    | zero =>
      have hd : x = false:=by simpa using hd
      have he : y = true:=by simpa using he
      subst hd; subst he
      simp; omega
    | succ i =>
      have h3:=h2 ⟨i,by simpa using hi,by simpa using hd,by simpa using he⟩
      cases x <;> cases y <;> simp_all <;> omega

theorem ready_min {us : List (List Int)} {d : List Bool} {rk : Nat → Nat} (hrk : ∀ (i : Nat) (h : i < us.length),∀ k ∈ us[i],k.toNat < us.length ∧ rk k.toNat < rk i) :
  ∀ (R i : Nat),i < us.length → rk i ≤ R → d.getD i false = false → ∃ (j : Nat) (h : j < us.length),d.getD j false = false ∧ rdyD d us[j] = true
 | R,i,hi,hR,hd=>by
   by_cases hr : rdyD d us[i] = true
   ·exact ⟨i,hi,hd,hr⟩
   have : ∃ k ∈ us[i],d.getD k.toNat false = false:=by
    unfold rdyD at hr
    rw [Bool.not_eq_true,List.all_eq_false] at hr
    obtain ⟨k,hk,h⟩:=hr
    exact ⟨k,hk,by simpa using h⟩
   obtain ⟨k,hk,hkd⟩:=this
   obtain ⟨h1,h2⟩:=hrk i hi k hk
   match R,hR with
   | 0,hR=>omega
   | R + 1,hR=>exact ready_min hrk R k.toNat h1 (by omega) hkd

theorem count_pos {d : List Bool} (h : d.count false ≠ 0) : ∃ i : Nat,i < d.length ∧ d.getD i false = false:=by
 have : false ∈ d:=List.count_pos_iff.1 (by omega)
 obtain ⟨i,hi,e⟩:=List.getElem_of_mem this
 exact ⟨i,hi,by rw [getD_lt' hi]; exact e⟩

theorem rounds_cnt {us : List (List Int)} {rk : Nat → Nat} (hrk : ∀ (i : Nat) (h : i < us.length),∀ k ∈ us[i],k.toNat < us.length ∧ rk k.toNat < rk i) :
  ∀ (r : Nat) (d : List Bool),d.length = us.length → d.count false ≤ r → (roundsD us r d).count false = 0
 | 0,d,_,h=>by simp only [roundsD]; omega
 | r + 1,d,hd,h=>by
   simp only [roundsD]
   refine rounds_cnt hrk r _ (by rw [passD_len]; exact hd) ?_
   obtain ⟨h1,h2⟩:=cnt_lt d (passD 0 us d) (passD_len us 0 d).symm (passD_le us 0 d)
   by_cases h0 : d.count false = 0
   ·omega
   obtain ⟨i,hi,hid⟩:=count_pos h0
   obtain ⟨j,hj,hjd,hjr⟩:=ready_min hrk (rk i) i (by omega) (Nat.le_refl _) hid
   have:=h2 ⟨j,by omega,hjd,by have:=pass_ready us 0 d j hj (by omega) hjr; rwa [Nat.zero_add] at this⟩
   omega

theorem cycU_false {us : List (List Int)} {rk : Nat → Nat} (hrk : ∀ (i : Nat) (h : i < us.length),∀ k ∈ us[i],k.toNat < us.length ∧ rk k.toNat < rk i) : cycU us = false:=by
 have:=rounds_cnt hrk us.length (List.replicate us.length false) (by simp) (by rw [List.count_replicate_self]; exact Nat.le_refl _)
 unfold cycU doneD
 rw [List.any_eq_false]
 intro b hb
 have h0:=List.count_eq_zero.1 this
 cases b
 ·exact absurd hb h0
 ·simp

def InvD (us : List (List Int)) (d : List Bool) : Prop:=∃ rk : Nat → Nat,∀ i,d.getD i false = true → ∀ k ∈ us.getD i [],d.getD k.toNat false = true ∧ rk k.toNat < rk i

theorem sumI_ge {rk : Nat → Nat} : ∀ {l : List Int} {k : Int},k ∈ l → rk k.toNat ≤ (l.map fun k=>rk k.toNat).sum
 | [],_,h=>by simp at h
 | x :: l,k,h=>by
   simp only [List.map_cons,List.sum_cons]
   rcases List.mem_cons.1 h with rfl | h
   ·omega
   ·have:=sumI_ge (rk:=rk) h; omega

theorem InvD.step {us : List (List Int)} {d : List Bool} (h : InvD us d) {i : Nat} {l : List Int} (hl : us.getD i [] = l) : InvD us (stepD d i l):=by
 obtain ⟨rk,hr⟩:=h
 by_cases h0 : d.getD i false = false ∧ rdyD d l = true
 ·obtain ⟨h1,h2⟩:=h0
  have hne : ∀ j,d.getD j false = true → j ≠ i:=fun j hj e=>by rw [e,h1] at hj; cases hj
  refine ⟨fun j=>if j = i then 1 + (l.map fun k=>rk k.toNat).sum else rk j,fun j hj k hk=>?_⟩
  by_cases e : j = i
  ·subst e
   rw [hl] at hk
   have hkd:=List.all_eq_true.1 h2 k hk
   refine ⟨stepD_le _ hkd,?_⟩
   dsimp only
   rw [if_neg (hne _ hkd),if_pos rfl]
   have:=sumI_ge (rk:=rk) hk
   omega
  ·have hj : d.getD j false = true:=by
    unfold stepD at hj
    rw [getD_set,if_neg (fun h=>e h.1.symm)] at hj
    exact hj
   obtain ⟨g1,g2⟩:=hr j hj k hk
   refine ⟨stepD_le _ g1,?_⟩
   dsimp only
   rw [if_neg (hne _ g1),if_neg e]
   exact g2
 ·have heq : ∀ j,(stepD d i l).getD j false = d.getD j false:=by
   intro j
   unfold stepD
   rw [getD_set]
   split
   ·rename_i e
    obtain ⟨rfl,_⟩:=e
    cases h1 : d.getD i false
    ·cases h2 : rdyD d l
     ·rfl
     ·exact absurd ⟨h1,h2⟩ h0
    ·rfl
   ·rfl
  refine ⟨rk,fun j hj k hk=>?_⟩
  rw [heq] at hj
  rw [heq]
  exact hr j hj k hk

theorem InvD.pass {us : List (List Int)} : ∀ (l : List (List Int)) (i : Nat) (d : List Bool),us.drop i = l → InvD us d → InvD us (passD i l d)
 | [],_,_,_,h=>h
 | x :: l,i,d,hl,h=>by
   simp only [passD]
   have h1 : us[i]? = some x:=by rw [← List.head?_drop,hl]; rfl
   have h2 : us.drop (i + 1) = l:=by rw [← List.tail_drop,hl]; rfl
   exact InvD.pass l (i + 1) _ h2 (h.step (by rw [List.getD_eq_getElem?_getD,h1]; rfl))

theorem InvD.rounds {us : List (List Int)} : ∀ (r : Nat) (d : List Bool),InvD us d → InvD us (roundsD us r d)
 | 0,_,h=>h
 | r + 1,d,h=>by simp only [roundsD]; exact InvD.rounds r _ (InvD.pass us 0 d rfl h)

theorem roundsD_len {us : List (List Int)} : ∀ (r : Nat) (d : List Bool),(roundsD us r d).length = d.length
 | 0,_=>rfl
 | r + 1,d=>by simp only [roundsD]; rw [roundsD_len r,passD_len]

theorem cycU_rank {us : List (List Int)} (h : cycU us = false) : ∃ rk : Nat → Nat,∀ i,i < us.length → ∀ k ∈ us.getD i [],rk k.toNat < rk i:=by
 obtain ⟨rk,hr⟩:=InvD.rounds us.length (List.replicate us.length false) (us:=us) ⟨fun _=>0,fun i hi=>by
  exfalso
  rw [List.getD_eq_getElem?_getD,List.getElem?_replicate] at hi
  split at hi <;> simp at hi⟩
 refine ⟨rk,fun i hi k hk=>(hr i ?_ k hk).2⟩
 unfold cycU doneD at h
 have hlen : (roundsD us us.length (List.replicate us.length false)).length = us.length:=by rw [roundsD_len]; simp
 rw [List.any_eq_false] at h
 rw [getD_lt' (by omega)]
 simpa using h _ (List.getElem_mem (by omega))

theorem cyc_of_rank {m : Md} (hc : ClosedM m) {rank : Node → Nat} (hr : RankM m rank) : cycR m = false:=by
 unfold cycR
 have key : ∀ (l : List Node) (s : WS Unit),(∀ y ∈ l,okN m y) → (∀ z,look s.es z ≠ 1) → (kidsF (walk0 m) l s).1 = false:=by
  intro l
  induction l with
  | nil=>intro s _ _; rfl
  | cons y l ih =>
    intro s hl hs
    obtain ⟨w1,w2⟩:=walk_false (step:=fun (_ : Unit) _=>()) (okN m) (fun x hx h2=>(okN_kids hc hx h2).2) rank hr (fuelM m) y s (hl y (by simp)) (fun _ z hz=>absurd hz (hs z))
    simp only [kidsF]
    rw [if_neg (by show ¬ (walkF (kidsM m) (fun _ _=>()) (fuelM m) y s).1 = true; rw [w1]; simp)]
    exact ih _ (fun z hz=>hl z (by simp [hz])) fun z hz=>hs z (w2 z hz)
 exact key _ _ (fun y hy=>.inr (.inr hy)) fun z=>by simp [look]

theorem uses_get {m : Md} {x : Node} (hx : x ∈ allNodes m) : (usesM m).getD (numR m x).toNat [] = usesAt m x:=by
 obtain ⟨_,h⟩:=num_get hx
 unfold usesM
 rw [List.getD_eq_getElem?_getD,List.getElem?_map,h]; rfl

theorem cyc_eq {m : Md} (hc : ClosedM m) : cycU (usesM m) = cycR m:=by
 cases h : cycR m
 ·obtain ⟨rank,hr⟩:=cyc_rank hc h
  refine cycU_false (rk:=fun i=>rank ((allNodes m).getD i default)) fun i hi k hk=>?_
  have hiN : i < (allNodes m).length:=by simpa [usesM] using hi
  have hx:=List.getElem_mem hiN
  have hui : (usesM m)[i] = usesAt m (allNodes m)[i]:=by simp [usesM]
  rw [hui,uses_kids hc hx] at hk
  obtain ⟨y,hy,rfl⟩:=List.mem_map.1 hk
  obtain ⟨hy,h2⟩:=List.mem_filter.1 hy
  have h2 : y.1 = 2:=of_decide_eq_true h2
  have hyo:=(okN_kids hc (.inr (.inr hx)) (mem_all.1 hx).1).2 y hy
  obtain ⟨g1,g2⟩:=num_get (okN_kids hc hyo h2).1
  have g3:=(List.getElem?_eq_some_iff.1 g2).1
  refine ⟨by simpa [usesM] using g3,?_⟩
  rw [getD_lt' hiN,List.getD_eq_getElem?_getD,g2]
  exact hr _ (.inr (.inr hx)) (mem_all.1 hx).1 y hy h2
 ·cases h2 : cycU (usesM m)
  ·exfalso
   obtain ⟨rk,hr⟩:=cycU_rank h2
   have : cycR m = false:=cyc_of_rank hc (rank:=fun x=>rk (numR m x).toNat) fun x hx hx2 y hy hy2=>by
    have hxm:=(okN_kids hc hx hx2).1
    obtain ⟨_,g2⟩:=num_get hxm
    have g3:=(List.getElem?_eq_some_iff.1 g2).1
    refine hr (numR m x).toNat (by simpa [usesM] using g3) (numR m y) ?_
    rw [uses_get hxm,uses_kids hc hxm]
    exact List.mem_map.2 ⟨y,List.mem_filter.2 ⟨hy,by simpa using hy2⟩,rfl⟩
   rw [this] at h; cases h
  ·rfl

theorem MdX.gatesM {m : Md} (hX : MdX m) {a : Int} (ha : a = -1 ∨ (0 ≤ a ∧ a < (m.pages.length : Int))) : ∀ x ∈ gatesM m a,shortX x.dorm:=by
 unfold S.gatesM
 split
 ·exact hX.gates
 ·exact hX.pages _ (getD_mem (by omega))

theorem top_noAt {m : Md} (h1 : eventsErr m = 0) (h2 : gatesErrAll m = 0) (h3 : insAll m (atsM m) [] = 0) : ∀ p : Int,0 ≤ p → p < (m.pages.length : Int) → atS (pageTop m p) = false:=by
 intro p hp0 hp1
 have hp : p = -1 ∨ (0 ≤ p ∧ p < (m.pages.length : Int)):=.inr ⟨hp0,hp1⟩
 obtain ⟨sp,hs⟩:=insAll_in h3 p (ats_mem.2 hp)
 rcases (pageIns_in hs).2 (by omega) with h | h
 ·obtain ⟨i,hi,_,e⟩:=idx_name h
  have:=gatesErrAll_zero h2 hp i hi
  unfold gateErrM at this
  split at this
  ·cases this
  rename_i g
  rw [← e]
  exact name_noAt (by simpa using g)
 ·obtain ⟨i,hi,_,e⟩:=idx_name h
  have:=(eventsErr_zero h1).2.2.1 i hi
  unfold evErr at this
  split at this
  ·cases this
  rename_i g
  rw [← e]
  exact name_noAt (by simpa using g)

theorem uses_short {m : Md} (hB : MdB m) : (usesM m).length ≤ 100000:=by
 have e:=drop_off (m:=m) (k:=m.pages.length + 1) (Nat.le_refl _)
 rw [nodesFrom_end (Nat.le_refl _)] at e
 have:=List.drop_eq_nil_iff.1 e
 have:=offR_le hB (k:=m.pages.length + 1) (Nat.le_refl _)
 have:=hB.pages
 simp only [usesM,List.length_map]
 omega

theorem checkM_first (m : Md) : checkM m = if firstR m ≠ 0 then firstR m else if gatesErrAll m ≠ 0 then gatesErrAll m else if inputsR m ≠ 0 then inputsR m
  else if groupsErr m ≠ 0 then groupsErr m else if phasesErr m ≠ 0 then phasesErr m else if cycR m = true then 14 else 0:=by
 unfold checkM firstR inputsR
 by_cases h1 : nameR m.name = false
 ·rw [if_pos h1,if_pos h1,if_pos (by decide)]
 rw [if_neg h1,if_neg h1]
 by_cases h2 : eventsErr m ≠ 0
 ·rw [if_pos h2,if_pos h2,if_pos h2]
 rw [if_neg h2,if_neg h2]
 by_cases h3 : pagesErr m ≠ 0
 ·rw [if_pos h3,if_pos h3]
 rw [if_neg h3,if_neg h3]
 by_cases h4 : gatesErrAll m ≠ 0
 ·rw [if_pos h4,if_pos h4]
 rw [if_neg h4,if_neg h4]
 by_cases h5 : insAll m (atsM m) [] ≠ 0
 ·rw [if_pos h5,if_pos h5,if_pos h5]
 rw [if_neg h5,if_neg h5]
 by_cases h6 : isInR m (-1) m.top = false
 ·rw [if_pos h6,if_pos h6,if_pos (by decide)]
 ·rw [if_neg h6,if_neg h6,if_neg (show ¬ (0 : Int) ≠ 0 by decide)]

theorem first_zero {m : Md} (h : firstR m = 0) : eventsErr m = 0:=by
 unfold firstR at h
 split at h
 ·cases h
 split at h
 ·rename_i h1; exact absurd h h1
 ·rename_i h1; simpa using h1

theorem c_refCheck (h1c : OneC) (m : Md) (hX : MdX m) (hB : MdB m) (R : AV) (hR : R = .int .i64 (checkM m)) : FnH Tryz.prog 30 [m.av] [] R []:=by
 have hpl:=hB.pages
 have cf:=c_first h1c m hX hB _ rfl
 have ci:=c_inputs m hB _ rfl
 have cg:=c_groups h1c m hX hB _ rfl
 have cp:=c_phases h1c m hX hB _ rfl
 refine FnH.intro lay mixed Tryz.func30 (by kernel_rfl) rfl (by kernel_rfl) rfl fun hok=>?_
 (try dsimp only[argC,succC]);(try dsimp only[awp]);conv=>whnf
 refine .pure _ _ ?_ ⟨rfl,rfl⟩ cf fun _=>?_
 ·exact leL_refl _
 (try dsimp only[awp]);conv=>whnf
 refine And.intro (fun g1=>?_) (fun g1=>?_)
 ·obtain rfl : R = .int .i64 (firstR m):=by rw [hR,checkM_first]; rw [if_pos g1]
  (try dsimp only[awp]);conv=>whnf
  refine fM ?_;(conv=>whnf);refine ⟨?_,rfl⟩;conv=>whnf
  all_goals exact wk
 have z1 : firstR m = 0:=by simpa using g1
 (try dsimp only[awp]);conv=>whnf
 refine LoopE.of <| LoopSpec.inv (.refl _ _) (fun (k : Nat)=>k ≤ m.pages.length + 1 ∧ gatesErrAll m = errL (fun _ a=>errL (gateErrM m a) 0 (gatesM m a)) k ((atsM m).drop k)) (fun (k : Nat)=>[(4,.int .i64 ((k : Int) - 1))]) (fun _=>_) (fun (k : Nat)=>m.pages.length + 1 - k) 0 ?_ (fun _=>rfl) ?_ ?_
 ·exact ⟨Nat.zero_le _,rfl⟩
 ·all_goals exact wk
 rintro k ⟨hk,hn⟩ _
 (try dsimp only[awp]);conv=>whnf
 refine And.intro (fun h=>?_) (fun h=>?_)
 ·have hkl : k < m.pages.length + 1:=by simp only [List.length_map] at h; omega
  have ha : (k : Int) - 1 = -1 ∨ (0 ≤ (k : Int) - 1 ∧ (k : Int) - 1 < (m.pages.length : Int)):=by omega
  rw [drop_of_get? (ats_get hkl)] at hn
  simp only [errL] at hn
  have cG:=c_rGates m _ ha
  have hXa:=hX.gatesM ha
  have cs:=fun i hi=>c_shape h1c m ((k : Int) - 1) i ha hi (hXa _ (List.getElem_mem hi)) _ rfl
  have hBa:=(hB.gatesM ha).1
  clear h
  generalize hage : (k : Int) - 1 = a at *
  (try dsimp only[awp]);conv=>whnf
  refine .pure _ _ ?_ ⟨rfl,rfl⟩ cG fun _=>?_
  ·exact leL_refl _
  (try dsimp only[awp]);conv=>whnf
  refine LoopE.of <| LoopSpec.inv (.refl _ _) (fun (i : Nat)=>i ≤ (gatesM m a).length ∧ errL (gateErrM m a) 0 (gatesM m a) = errL (gateErrM m a) i ((gatesM m a).drop i)) (fun (i : Nat)=>[(25,.int .i64 i)]) (fun _=>_) (fun (i : Nat)=>(gatesM m a).length - i) 0 ?_ (fun _=>rfl) ?_ ?_
  ·exact ⟨Nat.zero_le _,rfl⟩
  ·all_goals exact wk
  rintro i ⟨hi,hni⟩ _
  (try dsimp only[awp]);conv=>whnf
  refine And.intro (fun h=>?_) (fun h=>?_)
  ·have hil : i < (gatesM m a).length:=by simpa using h
   have cs:=cs i hil
   rw [errL_step hil] at hni
   clear h
   generalize gateErrM m a i (gatesM m a)[i] = e at *
   (try dsimp only[awp]);conv=>whnf
   refine .pure _ _ ?_ ⟨rfl,rfl⟩ cs fun _=>?_
   ·exact leL_refl _
   (try dsimp only[awp]);conv=>whnf
   refine And.intro (fun g2=>?_) (fun g2=>?_)
   ·rw [if_pos g2] at hni
    rw [hni,if_pos g2] at hn
    obtain rfl : R = .int .i64 (e):=by rw [hR,checkM_first]; rw [if_neg g1,hn,if_pos g2]
    (try dsimp only[awp]);conv=>whnf
    refine fM ?_;(conv=>whnf);refine ⟨?_,rfl⟩;conv=>whnf
    all_goals exact wk
   ·rw [if_neg g2] at hni
    (try dsimp only[awp]);conv=>whnf
    refine zA ?_;conv=>whnf
    refine ⟨i + 1,?_,?_,?_⟩
    ·exact ⟨hil,hni⟩
    ·all_goals exact wk
    ·omega
  have hil : i = (gatesM m a).length:=by have : ¬ i < (gatesM m a).length:=by simpa using h
                                         omega
  rw [errL_end (by omega)] at hni
  rw [hni,if_neg (by simp)] at hn
  (try dsimp only[awp]);conv=>whnf
  refine zA ?_;conv=>whnf
  refine ⟨k + 1,?_,?_,?_⟩
  ·exact ⟨hkl,hn⟩
  ·refine ⟨?_,.mk ?_ ⟨by simp,trivial⟩⟩
   ·repeat' first|exact rfl|exact trivial|exact wR|exact lR _|apply aI
    all_goals (show _ = _; congr 1 <;> omega)
   ·all_goals exact wk
  ·omega
 have hkl : m.pages.length + 1 ≤ k:=by simp only [List.length_map] at h; omega
 rw [List.drop_eq_nil_of_le (by rw [ats_len]; omega)] at hn
 simp only [errL] at hn
 have g2 : ¬ gatesErrAll m ≠ 0:=by rw [hn]; simp
 have z2:=hn
 clear h hn hk hkl
 have hck:=checkM_first m
 rw [if_neg g1,if_neg g2] at hck
 have hz : inputsR m = 0 → eventsErr m = 0 ∧ insAll m (atsM m) [] = 0:=by
  intro h
  refine ⟨first_zero z1,?_⟩
  unfold inputsR at h
  split at h
  ·rename_i h1; exact absurd h h1
  ·rename_i h1; simpa using h1
 generalize inputsR m = e1 at *
 generalize groupsErr m = e2 at *
 generalize phasesErr m = e3 at *
 (try dsimp only[awp]);conv=>whnf
 refine ADraw.auto (by kernel_rfl) ?_;conv=>whnf
 refine ACallP.pure _ _ ?_ ⟨rfl,rfl⟩ ci ?_
 ·exact leL_refl _
 (try dsimp only[awp]);conv=>whnf
 refine ACallP.pure _ _ ?_ ⟨rfl,rfl⟩ cg ?_
 ·exact leL_refl _
 (try dsimp only[awp]);conv=>whnf
 refine ACallP.pure _ _ ?_ ⟨rfl,rfl⟩ cp ?_
 ·exact leL_refl _
 (try dsimp only[awp]);conv=>whnf
 refine LoopE.step 4 ?_
 (try dsimp only[awp]);conv=>whnf
 refine And.intro (fun _=>?_) (fun h=>absurd (by simp) h)
 (try dsimp only[awp]);conv=>whnf
 refine AIdx.mk ⟨_,⟨by decide,rfl⟩,?_⟩
 (try dsimp only[awp]);conv=>whnf
 refine And.intro (fun g=>?_) (fun g=>?_)
 ·obtain rfl : R = .int .i64 e1:=by rw [hR]; rw [hck,if_pos g]
  (try dsimp only[awp]);conv=>whnf
  refine fM ?_;(conv=>whnf);refine ⟨?_,rfl⟩;conv=>whnf
  all_goals exact wk
 rw [if_neg g] at hck
 have z5 : e1 = 0:=by simpa using g
 clear g
 (try dsimp only[awp]);conv=>whnf
 refine zA ?_;conv=>whnf
 (try dsimp only[awp]);conv=>whnf
 refine And.intro (fun _=>?_) (fun h=>absurd (by simp) h)
 (try dsimp only[awp]);conv=>whnf
 refine AIdx.mk ⟨_,⟨by decide,rfl⟩,?_⟩
 (try dsimp only[awp]);conv=>whnf
 refine And.intro (fun g=>?_) (fun g=>?_)
 ·obtain rfl : R = .int .i64 e2:=by rw [hR]; rw [hck,if_pos g]
  (try dsimp only[awp]);conv=>whnf
  refine fM ?_;(conv=>whnf);refine ⟨?_,rfl⟩;conv=>whnf
  all_goals exact wk
 rw [if_neg g] at hck
 clear g
 (try dsimp only[awp]);conv=>whnf
 refine zA ?_;conv=>whnf
 (try dsimp only[awp]);conv=>whnf
 refine And.intro (fun _=>?_) (fun h=>absurd (by simp) h)
 (try dsimp only[awp]);conv=>whnf
 refine AIdx.mk ⟨_,⟨by decide,rfl⟩,?_⟩
 (try dsimp only[awp]);conv=>whnf
 refine And.intro (fun g=>?_) (fun g=>?_)
 ·obtain rfl : R = .int .i64 e3:=by rw [hR]; rw [hck,if_pos g]
  (try dsimp only[awp]);conv=>whnf
  refine fM ?_;(conv=>whnf);refine ⟨?_,rfl⟩;conv=>whnf
  all_goals exact wk
 rw [if_neg g] at hck
 clear g
 (try dsimp only[awp]);conv=>whnf
 refine zA ?_;conv=>whnf
 refine And.intro (fun h=>absurd h (by simp)) (fun _=>?_)
 obtain ⟨zE,zI⟩:=hz z5
 have hnA:=top_noAt zE z2 zI
 have cc:=c_cycle m hB hnA (uses_short hB)
 rw [cyc_eq (closed_of zE z2 zI)] at cc
 generalize cycR m = cy at *
 (try dsimp only[awp]);conv=>whnf
 refine .pure _ _ ?_ ⟨rfl,rfl⟩ cc fun _=>?_
 ·exact leL_refl _
 (try dsimp only[awp]);conv=>whnf
 refine And.intro (fun g=>?_) (fun g=>?_)
 ·obtain rfl : R = .int .i64 14:=by rw [hR,hck,if_pos g]
  (try dsimp only[awp]);conv=>whnf
  refine fM ?_;(conv=>whnf);refine ⟨?_,rfl⟩;conv=>whnf
  all_goals exact wk
 ·obtain rfl : R = .int .i64 0:=by rw [hR,hck,if_neg (by simpa using g)]
  (try dsimp only[awp]);conv=>whnf
  refine fM ?_;(conv=>whnf);refine ⟨?_,rfl⟩;conv=>whnf
  all_goals exact wk

theorem MOk.noAt {m : Md} (h : MOk m) : ∀ p : Int,0 ≤ p → p < (m.pages.length : Int) → atS (pageTop m p) = false:=top_noAt h.evs h.gates h.ins

theorem okN_nonneg {m : Md} {x : Node} (h : okN m x) : 0 ≤ x.1:=by
 rcases h with h | h | h
 ·omega
 ·omega
 ·have:=(mem_all.1 h).1; omega

theorem findX_in {m : Md} (hM : MOk m) {a : Int} (ha : a = -1 ∨ (0 ≤ a ∧ a < (m.pages.length : Int))) {s : Str} (hs : isInR m a s = true) : findX m a s = resR m a s ∧ 0 ≤ (findX m a s).1:=by
 have hi:=hM.inOk ha hs
 have e:=find_res hi.ok hi.pg
 rw [e]
 exact ⟨rfl,okN_nonneg hi.ok⟩


abbrev bAVD (m : Md) (ve : Int) (st : DS) : AV:=.ag [.ag [.int .i64 ve,.sl 6 (st.gates.map Gate.av) (.own 2),.int .i64 0,rtL (m.evs.map Ev.fail),rtL (m.evs.map Ev.repair)],.sl 3 (st.es.map fun e=>nAV e.1) (.own 1),.sl 1 (st.es.map fun e=>.int .i64 e.2) (.own 0)]
abbrev hpRD (st : DS) : Heap:=[(2,.tok 6 st.gates.length),(1,.tok 3 st.es.length),(0,.tok 1 st.es.length)]
abbrev zBD : AV:=.ag [.ag [.int .i64 0,.nils,.int .i64 0,.nils,.nils],.nils,.nils]

theorem DInv.shortE {m : Md} (hB : MdB m) {s : DS} (h : DInv m s) : s.es.length ≤ 20000:=by
 have:=nodup_sub h.nd (u:=univ m) fun x hx=>by
  obtain ⟨e,he,rfl⟩:=List.mem_map.1 hx
  exact univ_mem (h.ok e he).1 (h.ok e he).2
 rw [List.length_map] at this
 have h1:=all_len hB
 have h2:=hB.hs
 have h3 : (univ m).length = m.hs.length + (allNodes m).length:=by simp [univ]
 omega

theorem lookO_atD {x : Node} : ∀ {es : Marks} {i : Nat} (h : i < es.length),es[i].1 = x → (∀ (j : Nat) (hj : j < es.length),j < i → es[j].1 ≠ x) → lookO es x = some es[i].2
 | [],_,h,_,_=>by simp at h
 | (y,u) :: es,0,_,h1,_=>by simp only [List.getElem_cons_zero] at h1; exact if_pos h1
 | (y,u) :: es,i + 1,h,h1,h2=>by
   have:=h2 0 (by simp) (by omega)
   simp only [List.getElem_cons_zero] at this
   simp only [lookO,if_neg this,List.getElem_cons_succ]
   exact lookO_atD (by simpa using h) (by simpa using h1) fun j hj hji=>by
    have:=h2 (j + 1) (by simpa using hj) (by omega)
    simpa using this

theorem lookO_noD {x : Node} : ∀ {es : Marks},(∀ (j : Nat) (hj : j < es.length),es[j].1 ≠ x) → lookO es x = none
 | [],_=>rfl
 | (y,u) :: es,h=>by
   have:=h 0 (by simp)
   simp only [List.getElem_cons_zero] at this
   simp only [lookO,if_neg this]
   exact lookO_noD fun j hj=>by have:=h (j + 1) (by simpa using hj); simpa using this

theorem c_radd48 (m : Md) (ve : Int) (hv : 0 ≤ ve ∧ ve ≤ 100) (st : DS) (g : Gate) (hs : st.gates.length ≤ 100000) :
  FnH Tryz.prog 177 [bAVD m ve st,g.av] (hpRD st) (.tup [bAVD m ve ⟨st.gates ++ [g],st.es⟩,.int .i64 (ve + st.gates.length)]) (hpRD ⟨st.gates ++ [g],st.es⟩):=by
 refine FnH.intro lay mixed Tryz.func177 (by kernel_rfl) rfl (by kernel_rfl) rfl fun hok=>?_
 (try dsimp only[argC,succC]);(try dsimp only[awp]);conv=>whnf
 refine ⟨by rw [List.length_map],.mk (by simp [maxL] <;> omega) (by simp <;> omega) ?_⟩
 (try dsimp only[awp]);conv=>whnf
 refine ADraw.late [3,6] ⟨[false,true,true,false,true,true,false,true,true,true,false,true],by kernel_rfl,?_⟩
 conv=>whnf
 refine ⟨inr64 (by simp <;> omega) (by simp <;> omega),?_⟩
 conv=>whnf
 refine ⟨inr64 (by simp <;> omega) (by simp <;> omega),?_⟩
 conv=>whnf
 (refine aI (by (conv=>whnf)<;>exact rfl) ?_;(conv=>whnf))
 (refine aI (by (conv=>whnf)<;>exact rfl) ?_;(conv=>whnf))
 refine ⟨⟨_,_,.refl _ _,?_⟩⟩
 conv=>whnf
 refine ⟨?_,rfl,by simp [nextId],.mk ?_ (by simp [idsOk])⟩
 ·repeat' first|exact rfl|exact trivial|exact wR|exact lR _|apply aI
  all_goals first | (show (_ : Int) = _; simp [houseG]; omega) | (show (_ : Int) = _; simp [houseG]; done) | (show leRL _ (List.map _ (_ ++ [_])); rw [List.map_append]; refine leRL_snoc ?_ (lR _); (repeat' first|exact rfl|exact trivial|exact lR _|apply aI); done) | (refine leRL_of ?_; simp [houseG]; done) | skip
 ·repeat' first|exact rfl|exact trivial|exact wR|exact lR _|apply aI
  all_goals first | (simp; done) | (simp; omega) | (simp [houseG]; done) | (simp [houseG]; omega)

theorem c_rcompile48 (m : Md) (hM : MOk m) (hB : MdB m) (rank : Node → Nat) (hr : RankM m rank) : ∀ (n : Nat) (a : Int) (s : Str) (st : DS),(a = -1 ∨ (0 ≤ a ∧ a < (m.pages.length : Int))) → isInR m a s = true → lvlD rank (resR m a s) < n → DInv m st →
  FnH Tryz.prog 94 [bAVD m m.evs.length st,m.av,.int .i64 a,.str s] (hpRD st) (.tup [bAVD m m.evs.length (compD m m.evs.length n (resR m a s) st).2,.int .i64 (compD m m.evs.length n (resR m a s) st).1]) (hpRD (compD m m.evs.length n (resR m a s) st).2):=by
 intro n
 induction n with
 | zero=>intro a s st _ _ h; omega
 | succ n ih =>
   intro a s st ha hs hn hI
   have hin:=hM.inOk ha hs
   have hev:=hM.lens.1
   have cF:=c_Find m a s ha hM.noAt
   rw [(findX_in hM ha hs).1] at cF
   have hxo:=hin.ok
   have hshort:=hI.short hB
   have hshortE:=hI.shortE hB
   have hcl:=hM.closed
   have hkk:=fun h2=>okN_kids hcl hxo h2
   have hrk:=hr _ hxo
   have hInv:=compD_inv hcl hr m.evs.length n
   generalize resR m a s = x at *
   generalize hve : (m.evs.length : Int) = ve at *
   obtain ⟨x1,x2,x3⟩:=x
   refine FnH.intro lay mixed Tryz.func94 (by kernel_rfl) rfl (by kernel_rfl) rfl fun hok=>?_
   (try dsimp only[argC,succC]);(try dsimp only[awp]);conv=>whnf
   refine .pure _ _ ?_ ⟨rfl,rfl⟩ cF fun _=>?_
   ·exact leL_refl _
   (try dsimp only[awp]);conv=>whnf
   refine And.intro (fun h0=>?_) (fun h0=>?_)
   ·rw [show compD m ve (n + 1) (x1,x2,x3) st = (x3,st) from if_pos h0]
    (try dsimp only[awp]);conv=>whnf
    refine ⟨⟨_,_,.refl _ _,?_⟩⟩
    conv=>whnf
    refine ⟨?_,rfl,by simp [nextId],.mk ?_ (by simp [idsOk])⟩
    ·repeat' first|exact rfl|exact trivial|exact wR|exact lR _|apply aI
     all_goals first | (show (_ : Int) = _; simp [houseG]; omega) | (show (_ : Int) = _; simp [houseG]; done) | (show leRL _ (List.map _ (_ ++ [_])); rw [List.map_append]; refine leRL_snoc ?_ (lR _); (repeat' first|exact rfl|exact trivial|exact lR _|apply aI); done) | (refine leRL_of ?_; simp [houseG]; done) | skip
    ·repeat' first|exact rfl|exact trivial|exact wR|exact lR _|apply aI
     all_goals first | (simp; done) | (simp; omega) | (simp [houseG]; done) | (simp [houseG]; omega)
   (try dsimp only[awp]);conv=>whnf
   refine LoopE.of <| LoopSpec.inv (.refl _ _) (fun (i : Nat)=>i ≤ st.es.length ∧ ∀ (j : Nat) (hj : j < st.es.length),j < i → st.es[j].1 ≠ (x1,x2,x3))
    (fun i=>[(43,.int .i64 i)]) (fun _=>(6,.box (nAV (x1,x2,x3))) :: (5,.box zBD) :: (4,.box m.av) :: (3,.box (bAVD m ve st)) :: hpRD st) (fun i=>st.es.length - i) 0 ?_ (fun _=>rfl) ?_ ?_
   ·exact ⟨Nat.zero_le _,by omega⟩
   ·refine ⟨?_,.mk ?_ (by simp [idsOk])⟩
    ·all_goals exact wk
    ·all_goals exact wk
   rintro i ⟨hi,hno⟩ _
   (try dsimp only[awp]);conv=>whnf
   refine And.intro (fun hh=>?_) (fun hh=>?_)
   ·have hil : i < st.es.length:=by simpa using hh
    (try dsimp only[awp]);conv=>whnf
    refine aidx (f:=fun e : Node × Int=>nAV e.1) hil ?_
    (try dsimp only[awp]);conv=>whnf
    refine And.intro (fun h3=>?_) (fun h3=>?_)
    ·have hx : st.es[i].1 = (x1,x2,x3):=by
      generalize st.es[i].1 = y at *
      obtain ⟨y1,y2,y3⟩:=y
      simpa [eqPL,eqP] using h3
     have hlo:=lookO_atD hil hx hno
     have hR : compD m ve (n + 1) (x1,x2,x3) st = (st.es[i].2,st):=by unfold compD; rw [if_neg h0,hlo]
     rw [hR]
     (try dsimp only[awp]);conv=>whnf
     refine ADraw.late [2] ⟨[false,true,false,true,true,true,false,true],by kernel_rfl,?_⟩
     conv=>whnf
     refine aidx (f:=fun e : Node × Int=>.int .i64 e.2) hil ?_
     conv=>whnf
     (refine aI (by (conv=>whnf)<;>exact rfl) ?_;(conv=>whnf))
     refine ⟨⟨_,_,.refl _ _,?_⟩⟩
     conv=>whnf
     refine ⟨?_,rfl,by simp [nextId],.mk ?_ (by simp [idsOk])⟩
     ·repeat' first|exact rfl|exact trivial|exact wR|exact lR _|apply aI
      all_goals first | (show (_ : Int) = _; simp [houseG]; omega) | (show (_ : Int) = _; simp [houseG]; done) | (show leRL _ (List.map _ (_ ++ [_])); rw [List.map_append]; refine leRL_snoc ?_ (lR _); (repeat' first|exact rfl|exact trivial|exact lR _|apply aI); done) | (refine leRL_of ?_; simp [houseG]; done) | skip
     ·repeat' first|exact rfl|exact trivial|exact wR|exact lR _|apply aI
      all_goals first | (simp; done) | (simp; omega) | (simp [houseG]; done) | (simp [houseG]; omega)
    ·(try dsimp only[awp]);conv=>whnf
     refine zA ?_;conv=>whnf
     refine ⟨i + 1,?_,?_,?_⟩
     ·refine ⟨hil,fun j hj hji e=>?_⟩
      by_cases hji2 : j = i
      ·subst hji2
       apply h3
       rw [e]
       simp [eqPL,eqP]
      ·exact hno j hj (by omega) e
     ·refine ⟨?_,.mk ?_ (by simp [idsOk])⟩
      ·all_goals exact wk
      ·all_goals exact wk
     ·omega
   have hil : i = st.es.length:=by (have : ¬ i < st.es.length:=by simpa using hh); omega
   subst hil
   clear hh
   have hlo:=lookO_noD fun j hj=>hno j hj hj
   (try dsimp only[awp]);conv=>whnf
   refine And.intro (fun h1=>?_) (fun h1=>?_)
   ·have hh : 0 ≤ x3 ∧ x3 < (m.hs.length : Int):=by
     rcases hxo with h | h | h
     ·exact absurd h.1 h0
     ·exact ⟨h.2.2.1,h.2.2.2⟩
     ·have:=(mem_all.1 h).1; dsimp only at this; omega
    have hR : compD m ve (n + 1) (x1,x2,x3) st = (ve + st.gates.length + 1,⟨st.gates ++ houseG (houseAt m (x1,x2,x3)).on (ve + st.gates.length),mark st.es (x1,x2,x3) (ve + st.gates.length + 1)⟩):=by unfold compD; rw [if_neg h0,hlo]; exact if_pos h1
    rw [hR]
    have hmk:=(mark_new (v:=ve + st.gates.length + 1) hlo).1
    rw [hmk]
    have a1:=c_radd48 m ve (by omega) st ⟨3,0,[0],zq⟩ (by omega)
    have a2:=fun on : Bool=>c_radd48 m ve (by omega) ⟨st.gates ++ [⟨3,0,[0],zq⟩],st.es⟩ ⟨if on = true then 1 else 0,0,[0,ve + st.gates.length],zq⟩ (by simp; omega)
    (try dsimp only[awp]);conv=>whnf
    refine .gen _ _ (FnH.frame [0,1,2] a1 ⟨rfl,rfl,rfl,rfl⟩ ?_ ?_) fun _=>?_
    ·all_goals exact wk
    ·all_goals exact wk
    (try dsimp only[awp]);conv=>whnf
    refine aidxD default hh ?_
    rw [show m.hs.getD x3.toNat default = houseAt m (x1,x2,x3) from rfl]
    generalize houseAt m (x1,x2,x3) = hs at *
    have a2:=a2 hs.on
    have e2 : (ve + ((((⟨st.gates ++ [(⟨3,0,[0],zq⟩ : Gate)],st.es⟩ : DS).gates).length : Nat) : Int)) = ve + st.gates.length + 1:=by simp; omega
    rw [e2] at a2
    (try dsimp only[awp]);conv=>whnf
    refine And.intro (fun g=>?_) (fun g=>?_)
    all_goals
     rw [g] at a2 ⊢
     (try dsimp only[awp]);conv=>whnf
     refine .gen _ _ (FnH.frame [0,1,2] a2 ⟨rfl,rfl,rfl,rfl⟩ ?_ ?_) fun _=>?_
     ·all_goals exact wk
     ·repeat' first|exact rfl|exact trivial|exact wR|exact lR _|apply aI
      all_goals first | (simp; done) | skip
     (try dsimp only[awp]);conv=>whnf
     refine ADraw.auto (by kernel_rfl) ?_;conv=>whnf
     refine ⟨by rw [List.length_map],.mk (by simp [maxL] <;> omega) (by simp <;> omega) ?_⟩
     (try dsimp only[awp]);conv=>whnf
     refine ⟨by rw [List.length_map],.mk (by simp [maxL] <;> omega) (by simp <;> omega) ?_⟩
     (try dsimp only[awp]);conv=>whnf
     refine ⟨⟨_,_,.refl _ _,?_⟩⟩
     conv=>whnf
     refine ⟨?_,rfl,by simp [nextId],.mk ?_ (by simp [idsOk])⟩
     ·repeat' first|exact rfl|exact trivial|exact wR|exact lR _|apply aI
      all_goals first | (show (_ : Int) = _; simp [houseG]; omega) | (show (_ : Int) = _; simp [houseG]; done) | (show leRL _ (List.map _ (_ ++ [_])); rw [List.map_append]; refine leRL_snoc ?_ (lR _); (repeat' first|exact rfl|exact trivial|exact lR _|apply aI); done) | (refine leRL_of ?_; simp [houseG]; done) | skip
     ·repeat' first|exact rfl|exact trivial|exact wR|exact lR _|apply aI
      all_goals first | (simp; done) | (simp; omega) | (simp [houseG]; done) | (simp [houseG]; omega)
   have h2 : x1 = 2:=by
    rcases hxo with h | h | h
    ·exact absurd h.1 h0
    ·exact absurd h.1 h1
    ·exact (mem_all.1 h).1
   subst h2
   obtain ⟨hxa,hkk⟩:=hkk rfl
   obtain ⟨_,hpg,hix⟩:=mem_all.1 hxa
   have hrk:=hrk rfl
   have hlv : rank (2,x2,x3) < n:=by unfold lvlD at hn; rw [if_pos rfl] at hn; omega
   have hgm : gateAt m (2,x2,x3) ∈ gatesM m x2:=by
    unfold gateAt
    rw [List.getD_eq_getElem?_getD,List.getElem?_eq_getElem (by dsimp only at hix ⊢; omega)]
    exact List.getElem_mem _
   have hil : (gateAt m (2,x2,x3)).ins.length ≤ 40:=by
    have:=hgm
    unfold gatesM at this
    split at this
    ·exact hB.gates.2 _ this
    ·rw [List.getD_eq_getElem?_getD] at this
     cases hp : m.pages[x2.toNat]? with
     | none=>rw [hp] at this; exact absurd this (by show ¬ gateAt m (2,x2,x3) ∈ ([] : List Mg); simp)
     | some p=>rw [hp] at this; exact (hB.pgates p (List.mem_of_getElem? hp)).2 _ this
   have hins : ∀ (j : Nat) (h : j < (gateAt m (2,x2,x3)).ins.length),isInR m x2 (gateAt m (2,x2,x3)).ins[j] = true ∧ (kidsM m (2,x2,x3))[j]? = some (resR m x2 (gateAt m (2,x2,x3)).ins[j]):=fun j h =>
    ⟨hM.ins_in hpg hgm (List.getElem_mem h),by simp [kidsM,h]⟩
   have hlen : (kidsM m (2,x2,x3)).length = (gateAt m (2,x2,x3)).ins.length:=by simp [kidsM]
   have hmem : ∀ y ∈ kidsM m (2,x2,x3),lvlD rank y < n:=fun y hy=>by
    unfold lvlD
    split
    ·rename_i e; have:=hrk y hy e; omega
    ·omega
   have hR : compD m ve (n + 1) (2,x2,x3) st = (ve + (compDL (compD m ve n) (kidsM m (2,x2,x3)) st []).2.gates.length,
     ⟨(compDL (compD m ve n) (kidsM m (2,x2,x3)) st []).2.gates ++ [⟨(gateAt m (2,x2,x3)).kind,(gateAt m (2,x2,x3)).k,(compDL (compD m ve n) (kidsM m (2,x2,x3)) st []).1,(gateAt m (2,x2,x3)).dorm⟩],
      mark (compDL (compD m ve n) (kidsM m (2,x2,x3)) st []).2.es (2,x2,x3) (ve + (compDL (compD m ve n) (kidsM m (2,x2,x3)) st []).2.gates.length)⟩):=by
    conv=>lhs; unfold compD
    rw [if_neg h0,hlo]
    exact if_neg h1
   have cG:=c_rGates m x2 hpg
   (try dsimp only[awp]);conv=>whnf
   refine .pure _ _ ?_ ⟨rfl,rfl⟩ cG fun _=>?_
   ·exact leL_refl _
   (try dsimp only[awp]);conv=>whnf
   refine aidxD default hix ?_
   have hga : (gatesM m x2).getD x3.toNat default = gateAt m (2,x2,x3):=rfl
   rw [hga]
   generalize gateAt m (2,x2,x3) = g at *
   generalize kidsM m (2,x2,x3) = K at *
   (try dsimp only[awp]);conv=>whnf
   generalize hW : compD m ve n = W at *
   generalize hS : compDL W K st [] = Rz at *
   refine LoopE.of <| LoopSpec.inv (.growF 8 [2] 1 [] (.ag [.int .i64 g.kind,.int .i64 g.k,.nils,g.dorm.av]) .nils _ rfl rfl (.inl ⟨rfl,rfl⟩) rfl (.refl _ _))
    (fun (q : Nat × DS × List Int)=>q.1 ≤ g.ins.length ∧ compDL W (K.drop q.1) q.2.1 q.2.2 = Rz ∧ q.2.2.length = q.1 ∧ DInv m q.2.1 ∧ (∀ z : Node,z.1 = 2 → rank (2,x2,x3) ≤ rank z → lookO st.es z = none → lookO q.2.1.es z = none))
    (fun q=>[(98,.int .i64 q.1)]) (fun q=>(9,.tok 1 q.1) :: (8,.box (.ag [.int .i64 g.kind,.int .i64 g.k,.sl 1 (q.2.2.map (.int .i64)) (.own 9),g.dorm.av])) :: (7,.gone) :: (6,.box (nAV (2,x2,x3))) :: (5,.box zBD) :: (4,.box m.av) :: (3,.box (bAVD m ve q.2.1)) :: hpRD q.2.1) (fun q=>g.ins.length - q.1) (0,st,[]) ?_ (fun _=>rfl) ?_ ?_
   ·exact ⟨Nat.zero_le _,hS,rfl,hI,fun _ _ _ h=>h⟩
   ·refine ⟨?_,.mk ?_ (by simp [idsOk])⟩
    ·all_goals exact wk
    ·all_goals exact wk
   rintro ⟨j,sj,acc⟩ ⟨hj,hnj,hacc,hIj,hzj⟩ _
   dsimp only at hj hnj hacc hIj hzj
   (try dsimp only[awp]);conv=>whnf
   refine And.intro (fun hh=>?_) (fun hh=>?_)
   ·have hjl : j < g.ins.length:=by simpa using hh
    obtain ⟨hij,hKj⟩:=hins j hjl
    rw [drop_of_get? hKj] at hnj
    unfold compDL at hnj
    have hyK:=List.mem_of_getElem? hKj
    have hlj:=hmem _ hyK
    have cw:=ih x2 g.ins[j] sj hpg hij hlj hIj
    have hIr:=hInv (resR m x2 g.ins[j]) sj (hM.inOk hpg hij).ok hIj
    have hyr:=hrk _ hyK
    (try dsimp only[awp]);conv=>whnf
    refine aidx hjl ?_
    generalize g.ins[j] = s2 at *
    generalize resR m x2 s2 = y at *
    generalize hr0 : W y sj = r at *
    obtain ⟨ra,rs⟩:=r
    dsimp only at hnj hIr cw
    (try dsimp only[awp]);conv=>whnf
    refine .gen _ _ (FnH.frame [0,1,2] cw ⟨rfl,rfl,rfl,rfl⟩ ?_ ?_) fun _=>?_
    ·all_goals exact wk
    ·all_goals exact wk
    (try dsimp only[awp]);conv=>whnf
    refine ⟨by rw [List.length_map,hacc],.mk (by simp [maxL]; omega) (by simp; omega) ?_⟩
    (try dsimp only[awp]);conv=>whnf
    refine zA ?_;conv=>whnf
    refine ⟨(j + 1,rs,acc ++ [ra]),?_,?_,?_⟩
    ·exact ⟨hjl,hnj,by simp [hacc],hIr.1,fun z hz hxz hs=>hIr.2 z hz (fun e=>by have:=hyr e; omega) (hzj z hz hxz hs)⟩
    ·refine ⟨?_,.mk ?_ (by simp [idsOk])⟩
     ·all_goals exact wk
     ·repeat' first|exact rfl|exact trivial|exact wR|exact lR _|apply aI
      all_goals first | (show leRL _ (List.map _ (_ ++ [_])); rw [List.map_append]; exact lR _) | (simp [hacc]; done) | (simp; omega)
    ·show g.ins.length - (j + 1) < g.ins.length - j
     omega
   have hjl : K.length ≤ j:=by (have : ¬ j < g.ins.length:=by simpa using hh); omega
   rw [List.drop_eq_nil_of_le hjl] at hnj
   unfold compDL at hnj
   rw [← hnj] at hR
   rw [hR]
   have hsj:=hIj.short hB
   have hsjE:=hIj.shortE hB
   have hlo2:=hzj _ rfl (Nat.le_refl _) hlo
   rw [(mark_new hlo2).1]
   have cN:=c_radd48 m ve (by omega) sj ⟨g.kind,g.k,acc,g.dorm⟩ (by omega)
   (try dsimp only[awp]);conv=>whnf
   refine .gen _ _ (FnH.frame [0,1,2] cN ⟨rfl,rfl,rfl,rfl⟩ ?_ ?_) fun _=>?_
   ·all_goals exact wk
   ·all_goals exact wk
   (try dsimp only[awp]);conv=>whnf
   refine ADraw.auto (by kernel_rfl) ?_;conv=>whnf
   refine ⟨by rw [List.length_map],.mk (by simp [maxL] <;> omega) (by simp <;> omega) ?_⟩
   (try dsimp only[awp]);conv=>whnf
   refine ⟨by rw [List.length_map],.mk (by simp [maxL] <;> omega) (by simp <;> omega) ?_⟩
   (try dsimp only[awp]);conv=>whnf
   refine ⟨⟨_,_,.refl _ _,?_⟩⟩
   conv=>whnf
   refine ⟨?_,rfl,by simp [nextId],.mk ?_ (by simp [idsOk])⟩
   ·repeat' first|exact rfl|exact trivial|exact wR|exact lR _|apply aI
    all_goals first | (show (_ : Int) = _; simp [houseG]; omega) | (show (_ : Int) = _; simp [houseG]; done) | (show leRL _ (List.map _ (_ ++ [_])); rw [List.map_append]; refine leRL_snoc ?_ (lR _); (repeat' first|exact rfl|exact trivial|exact lR _|apply aI); done) | (refine leRL_of ?_; simp [houseG]; done) | skip
   ·repeat' first|exact rfl|exact trivial|exact wR|exact lR _|apply aI
    all_goals first | (simp; done) | (simp; omega) | (simp [houseG]; done) | (simp [houseG]; omega)

theorem gate_inP {m : Md} (hM : MOk m) {a : Int} (ha : a = -1 ∨ (0 ≤ a ∧ a < (m.pages.length : Int))) {i : Nat} (hi : i < (gatesM m a).length) : isInR m a (gatesM m a)[i].name = true ∧ resR m a (gatesM m a)[i].name = (2,a,(i : Int)):=by
 have hg:=hM.gate ha hi
 have hx:=hM.gate_idx ha hi
 have hat:=name_noAt hg.name
 have h1:=hg.noEv
 have h2:=hg.noHs
 refine ⟨?_,?_⟩
 ·unfold isInR
  rw [if_neg (by rw [hat]; simp)]
  simp only [Bool.or_eq_true,decide_eq_true_eq]
  right
  omega
 ·unfold resR
  rw [if_neg (by rw [hat]; simp)]
  unfold resOn
  rw [if_neg (by omega),if_neg (by omega),hx]

def rmakeAV (m : Md) : AV:=.tup [if makeE m = 0 then (treeD m).av else zDyn,.int .i64 (makeE m)]
abbrev bAV6 (m : Md) (ve : Int) (st : DS) : AV:=.ag [.ag [.int .i64 ve,.sl 6 (st.gates.map Gate.av) (.own 5),.int .i64 0,rtL (m.evs.map Ev.fail),rtL (m.evs.map Ev.repair)],.sl 3 (st.es.map fun e=>nAV e.1) (.own 4),.sl 1 (st.es.map fun e=>.int .i64 e.2) (.own 3)]
abbrev hp6 (m : Md) (ve : Int) (st : DS) : Heap:=[(7,.gone),(6,.gone),(5,.tok 6 st.gates.length),(4,.tok 3 st.es.length),(3,.tok 1 st.es.length),(2,.box (bAV6 m ve st)),(1,.box zDyn),(0,.box m.av)]

set_option maxHeartbeats 2000000 in
theorem c_rMake48 (m : Md) (h0 : checkM m = 0) (hB : MdB m) (R : AV) (hR : R = rmakeAV m) : FnH Tryz.prog 32 [m.av] [] R []:=by
 have hE0 : ¬ checkM m ≠ 0:=by simpa using h0
 have hM:=checkM_ok h0
 unfold rmakeAV at hR
 by_cases h1 : m.evs.length = 0
 ·rw [show makeE m = 11 from (if_neg hE0).trans (if_pos h1),if_neg (show ¬ ((11 : Int) = 0) by decide)] at hR
  subst hR
  refine FnH.intro lay mixed Tryz.func32 (by kernel_rfl) rfl (by kernel_rfl) rfl fun hok=>?_
  (try dsimp only[argC,succC]);(try dsimp only[awp]);conv=>whnf
  refine And.intro (fun _=>?_) (fun h=>absurd (by simp [List.eq_nil_of_length_eq_zero h1]) h)
  (try dsimp only[awp]);conv=>whnf
  refine fM ?_;(conv=>whnf);refine ⟨?_,rfl⟩;conv=>whnf
  all_goals exact wk
 have hE : makeE m = if 64 < (treeD m).gates.length then 4 else 0:=(if_neg hE0).trans (if_neg h1)
 rw [hE] at hR
 have hev:=hM.lens.1
 have hpl:=hB.pages
 obtain ⟨rank,hr,hlv⟩:=rank_bdD hM
 refine FnH.intro lay mixed Tryz.func32 (by kernel_rfl) rfl (by kernel_rfl) rfl fun hok=>?_
 (try dsimp only[argC,succC]);(try dsimp only[awp]);conv=>whnf
 refine And.intro (fun h=>by exfalso; simp at h; exact h1 (by rw [h]; rfl)) (fun _=>?_)
 (try dsimp only[awp]);conv=>whnf
 rw [show (((m.evs.map Ev.av).length : Nat) : Int) = (m.evs.length : Int) by simp]
 generalize hve : (m.evs.length : Int) = ve at *
 refine LoopE.of <| LoopSpec.inv (.growF 2 [2] 1 [] _ .nils _ rfl rfl (.inl ⟨rfl,rfl⟩) rfl (.growF 2 [1] 3 [] _ .nils _ rfl rfl (.inl ⟨rfl,rfl⟩) rfl (.growF 2 [0,1] 6 [] _ .nils _ rfl rfl (.inl ⟨rfl,rfl⟩) rfl (.growF 2 [0,3] 3 [] _ .nils _ rfl rfl (.inl ⟨rfl,rfl⟩) rfl (.growF 2 [0,4] 3 [] _ .nils _ rfl rfl (.inl ⟨rfl,rfl⟩) rfl (.refl _ _))))))
  (fun (k : Nat)=>k ≤ m.evs.length) (fun k=>[(24,.int .i64 k)])
  (fun k=>[(7,.tok 3 k),(6,.tok 3 k),(5,.tok 6 0),(4,.tok 3 0),(3,.tok 1 0),(2,.box (.ag [.ag [.int .i64 ve,.sl 6 [] (.own 5),.int .i64 0,.sl 3 (((m.evs.take k).map Ev.fail).map Rat.av) (.own 6),.sl 3 (((m.evs.take k).map Ev.repair).map Rat.av) (.own 7)],.sl 3 [] (.own 4),.sl 1 [] (.own 3)])),(1,.box zDyn),(0,.box m.av)]) (fun k=>m.evs.length - k) 0 ?_ (fun _=>rfl) ?_ ?_
 ·exact Nat.zero_le _
 ·refine ⟨?_,.mk ?_ (by simp [idsOk])⟩
  ·all_goals exact wk
  ·repeat' first|exact rfl|exact trivial|exact wR|exact lR _|apply aI
   all_goals first | (simp [KSh]; done) | trivial | skip
 intro k hk _
 (try dsimp only[awp]);conv=>whnf
 refine And.intro (fun h=>?_) (fun h=>?_)
 ·have hkl : k < m.evs.length:=by omega
  have ht1:=take_map25 (f:=Ev.fail) hkl
  have ht2:=take_map25 (f:=Ev.repair) hkl
  have hl1:=take_len25 (f:=Ev.fail) hk
  have hl2:=take_len25 (f:=Ev.repair) hk
  (try dsimp only[awp]);conv=>whnf
  refine aidx hkl ?_
  generalize m.evs[k] = x at *
  generalize (m.evs.take k).map Ev.fail = L1 at *
  generalize (m.evs.take k).map Ev.repair = L2 at *
  (try dsimp only[awp]);conv=>whnf
  have e1 : (ve : Int) ≤ 100:=by omega
  refine ADraw.auto (by kernel_rfl) ?_;conv=>whnf
  refine ⟨by rw [List.length_map,hl1],.mk (by simp [maxL] <;> omega) (by simp <;> omega) ?_⟩
  (try dsimp only[awp]);conv=>whnf
  refine ⟨by rw [List.length_map,hl2],.mk (by simp [maxL] <;> omega) (by simp <;> omega) ?_⟩
  (try dsimp only[awp]);conv=>whnf
  refine zA ?_;conv=>whnf
  refine ⟨k + 1,?_,?_,?_⟩
  ·exact hkl
  ·refine ⟨?_,.mk ?_ (by simp [idsOk])⟩
   ·all_goals exact wk
   ·rw [ht1,ht2]
    repeat' first|exact rfl|exact trivial|exact wR|exact lR _|apply aI
    all_goals first | (show leRL _ (List.map _ (_ ++ [_])); rw [List.map_append]; exact lR _) | (simp [hl1]; done) | (simp [hl2]; done)
  ·omega
 have hkl : k = m.evs.length:=by omega
 subst hkl
 rw [List.take_length]
 have hin:=hM.inOk (.inl rfl) hM.top
 have hI0 : DInv m ⟨[],[]⟩:=⟨by simp,by simp,by simp⟩
 have cw:=c_rcompile48 m hM hB rank hr (fuelD m) (-1) m.top ⟨[],[]⟩ (.inl rfl) hM.top (hlv _) hI0
 rw [hve] at cw
 have hIr:=(compD_inv hM.closed hr ve (fuelD m) (resR m (-1) m.top) ⟨[],[]⟩ hin.ok hI0).1
 have htr : rootD m = compD m ve (fuelD m) (resR m (-1) m.top) ⟨[],[]⟩:=by unfold rootD; rw [hve]
 rw [← htr] at cw hIr
 generalize hrd : rootD m = rd at *
 obtain ⟨ra,rs⟩:=rd
 dsimp only at hIr cw
 (try dsimp only[awp]);conv=>whnf
 refine .gen _ _ (FnH.frame [3,4,5] cw ⟨rfl,rfl,rfl,rfl⟩ ?_ ?_) fun _=>?_
 ·all_goals exact wk
 ·all_goals exact wk
 (try dsimp only[awp]);conv=>whnf
 refine LoopE.of <| LoopSpec.inv (.refl _ _)
  (fun (q : Nat × DS)=>q.1 ≤ m.pages.length + 1 ∧ dynL m (nodesFrom m q.1) q.2 = dynL m (allNodes m) rs ∧ DInv m q.2) (fun q=>[(8,.int .i64 ((q.1 : Int) - 1))])
  (fun q=>hp6 m ve q.2) (fun q=>m.pages.length + 1 - q.1) (0,rs) ?_ (fun _=>rfl) ?_ ?_
 ·exact ⟨Nat.zero_le _,rfl,hIr⟩
 ·refine ⟨?_,.mk ?_ (by simp [idsOk])⟩
  ·all_goals exact wk
  ·all_goals exact wk
 rintro ⟨k,sk⟩ ⟨hk2,hnk,hIk⟩ _
 dsimp only at hk2 hnk hIk
 (try dsimp only[awp]);conv=>whnf
 refine And.intro (fun hp=>?_) (fun hp=>?_)
 ·have hkp : k < m.pages.length + 1:=by simp at hp; omega
  have ha : (k : Int) - 1 = -1 ∨ (0 ≤ (k : Int) - 1 ∧ (k : Int) - 1 < (m.pages.length : Int)):=by omega
  rw [nodesFrom_step hkp] at hnk
  have hgl:=(hB.gatesM ha).1
  have hnx : ((k + 1 : Nat) : Int) - 1 = (k : Int) - 1 + 1:=by omega
  generalize hav : (k : Int) - 1 = a at *
  (try dsimp only[awp]);conv=>whnf
  refine .pure _ _ ?_ ⟨rfl,rfl⟩ (c_rGates m a ha) fun _=>?_
  ·exact leL_refl _
  (try dsimp only[awp]);conv=>whnf
  refine LoopE.of <| LoopSpec.inv (.refl _ _)
   (fun (q : Nat × DS)=>q.1 ≤ (gatesM m a).length ∧ dynL m ((nodesAt m a).drop q.1 ++ nodesFrom m (k + 1)) q.2 = dynL m (allNodes m) rs ∧ DInv m q.2) (fun q=>[(66,.int .i64 (q.1 : Int))])
   (fun q=>hp6 m ve q.2) (fun q=>(gatesM m a).length - q.1) (0,sk) ?_ (fun _=>rfl) ?_ ?_
  ·exact ⟨Nat.zero_le _,hnk,hIk⟩
  ·refine ⟨?_,.mk ?_ (by simp [idsOk])⟩
   ·all_goals exact wk
   ·all_goals exact wk
  rintro ⟨i,si⟩ ⟨hi,hni,hIi⟩ _
  dsimp only at hi hni hIi
  (try dsimp only[awp]);conv=>whnf
  refine And.intro (fun hh=>?_) (fun hh=>?_)
  ·have hil : i < (gatesM m a).length:=by simpa using hh
   rw [drop_of_get? (nodesAt_get hil),List.cons_append] at hni
   rw [dynL_cons] at hni
   have hgt : gateAt m (2,a,(i : Int)) = (gatesM m a)[i]:=getD_lt hil
   have hxa : (2,a,(i : Int)) ∈ allNodes m:=mem_all.2 ⟨rfl,ha,by simp,by simpa using hil⟩
   obtain ⟨hg1,hg2⟩:=gate_inP hM ha hil
   have cw:=c_rcompile48 m hM hB rank hr (fuelD m) a (gatesM m a)[i].name si ha hg1 (hlv _) hIi
   rw [hg2] at cw
   have hIr:=(compD_inv hM.closed hr ve (fuelD m) (2,a,(i : Int)) si (.inr (.inr hxa)) hIi).1
   rw [hve] at cw hni
   (try dsimp only[awp]);conv=>whnf
   refine aidx hil ?_
   rw [← hgt] at cw ⊢
   have hdy : isDynG m (2,a,(i : Int)) = (decide ((gateAt m (2,a,(i : Int))).kind = 8) || decide ((gateAt m (2,a,(i : Int))).kind = 7)):=rfl
   generalize gateAt m (2,a,(i : Int)) = g at *
   generalize hcd : compD m ve (fuelD m) (2,a,(i : Int)) si = rj at *
   obtain ⟨rja,rjs⟩:=rj
   dsimp only at hni hIr cw
   (try dsimp only[awp]);conv=>whnf
   refine And.intro (fun g1=>?_) (fun g1=>?_)
   ·rw [if_pos (by rw [hdy]; simp [g1])] at hni
    (try dsimp only[awp]);conv=>whnf
    refine .gen _ _ (FnH.frame [3,4,5] cw ⟨rfl,rfl,rfl,rfl⟩ ?_ ?_) fun _=>?_
    ·all_goals exact wk
    ·all_goals exact wk
    (try dsimp only[awp]);conv=>whnf
    refine zA ?_;conv=>whnf
    refine ⟨(i + 1,rjs),?_,?_,?_⟩
    ·exact ⟨hil,hni,hIr⟩
    ·refine ⟨?_,.mk ?_ (by simp [idsOk])⟩
     ·all_goals exact wk
     ·all_goals exact wk
    ·show (gatesM m a).length - (i + 1) < (gatesM m a).length - i
     omega
   ·(try dsimp only[awp]);conv=>whnf
    refine And.intro (fun g2=>?_) (fun g2=>?_)
    ·rw [if_pos (by rw [hdy]; simp [g2])] at hni
     (try dsimp only[awp]);conv=>whnf
     refine .gen _ _ (FnH.frame [3,4,5] cw ⟨rfl,rfl,rfl,rfl⟩ ?_ ?_) fun _=>?_
     ·all_goals exact wk
     ·all_goals exact wk
     (try dsimp only[awp]);conv=>whnf
     refine zA ?_;conv=>whnf
     refine ⟨(i + 1,rjs),?_,?_,?_⟩
     ·exact ⟨hil,hni,hIr⟩
     ·refine ⟨?_,.mk ?_ (by simp [idsOk])⟩
      ·all_goals exact wk
      ·all_goals exact wk
     ·show (gatesM m a).length - (i + 1) < (gatesM m a).length - i
      omega
    ·rw [if_neg (by rw [hdy]; simp [g1,g2])] at hni
     (try dsimp only[awp]);conv=>whnf
     refine zA ?_;conv=>whnf
     refine ⟨(i + 1,si),?_,?_,?_⟩
     ·exact ⟨hil,hni,hIi⟩
     ·refine ⟨?_,.mk ?_ (by simp [idsOk])⟩
      ·all_goals exact wk
      ·all_goals exact wk
     ·show (gatesM m a).length - (i + 1) < (gatesM m a).length - i
      omega
  have hil : (nodesAt m a).length ≤ i:=by rw [nodesAt_len]; simpa using hh
  rw [List.drop_eq_nil_of_le hil,List.nil_append] at hni
  (try dsimp only[awp]);conv=>whnf
  refine zA ?_;conv=>whnf
  refine ⟨(k + 1,si),?_,?_,?_⟩
  ·exact ⟨hkp,hni,hIi⟩
  ·refine ⟨?_,.mk ?_ (by simp [idsOk])⟩
   ·repeat' first|exact rfl|exact trivial|exact wR|exact lR _|apply aI
    exact hnx.symm
   ·all_goals exact wk
  ·show m.pages.length + 1 - (k + 1) < m.pages.length + 1 - k
   omega
 have hkp : m.pages.length + 1 ≤ k:=by simp at hp; omega
 rw [nodesFrom_end hkp] at hnk
 rw [dynL_nil] at hnk
 have hgs : (treeD m).gates = sk.gates:=by unfold treeD; rw [hrd,hnk]
 have htop : treeD m = ⟨ve,sk.gates,ra,m.evs.map Ev.fail,m.evs.map Ev.repair⟩:=by unfold treeD; rw [hrd,hnk,hve]
 rw [hgs] at hR
 have hsh:=hIk.short hB
 (try dsimp only[awp]);conv=>whnf
 refine And.intro (fun g=>?_) (fun g=>?_)
 ·have g' : 64 < sk.gates.length:=by simp at g; omega
  rw [if_pos g',if_neg (by decide)] at hR
  subst hR
  (try dsimp only[awp]);conv=>whnf
  refine fM ?_;(conv=>whnf);refine ⟨?_,rfl⟩;conv=>whnf
  all_goals exact wk
 ·have g' : ¬ 64 < sk.gates.length:=by simp at g; omega
  rw [if_neg g',if_pos rfl,htop] at hR
  subst hR
  (try dsimp only[awp]);conv=>whnf
  refine fM ?_;(conv=>whnf);refine ⟨?_,rfl⟩;conv=>whnf
  all_goals exact wk

def spS (g : Mg) : List Str:=if g.kind = 7 then g.ins else []

theorem insErr_spD {m : Md} {a : Int} {g : Mg} : ∀ {l : List Str} {k : Nat} {sp : List Str},(insErr m a g k l sp).1 = 0 →
  (insErr m a g k l sp).2 = sp ++ (if g.kind = 7 then l else []) ∧ (sp.Nodup → (sp ++ (if g.kind = 7 then l else [])).Nodup) ∧ ∀ (j : Nat) (hj : j < l.length),mustEv g (k + j : Nat) = true → 0 ≤ i_event m.evs l[j]
 | [],_,_,_=>⟨by unfold insErr; split <;> simp,fun h=>by split <;> simpa using h,fun j hj _=>by simp at hj⟩
 | s :: l,k,sp,h=>by
   have e : insErr m a g k (s :: l) sp = insErr m a g k (s :: l) sp:=rfl
   conv at e=>rhs; unfold insErr
   rw [e] at h ⊢
   split at h
   ·cases h
   rename_i h1
   rw [if_neg h1] at e ⊢
   split at h
   ·cases h
   rename_i h2
   rw [if_neg h2] at e ⊢
   have up : (∀ (j : Nat) (hj : j < l.length),mustEv g (k + 1 + j : Nat) = true → 0 ≤ i_event m.evs l[j]) → ∀ (j : Nat) (hj : j < (s :: l).length),mustEv g (k + j : Nat) = true → 0 ≤ i_event m.evs (s :: l)[j]:=by
    intro h3 j hj hmu
    cases j with
    | zero =>
      rcases Int.lt_or_le (i_event m.evs s) 0 with e | e
      ·exact absurd ⟨by simpa using hmu,e⟩ h2
      ·exact e
    | succ j=>exact h3 j (by simpa using hj) (by rw [show k + 1 + j = k + (j + 1) by omega]; exact hmu)
   split at h
   ·rename_i h7
    split at h
    ·cases h
    ·rename_i h8
     obtain ⟨i1,i2,i3⟩:=insErr_spD h
     rw [if_pos h7,if_neg h8]
     rw [if_pos h7] at i1 i2 ⊢
     refine ⟨by rw [i1]; simp,fun hn=>?_,up i3⟩
     have : (sp ++ [s]).Nodup:=by
      rw [List.nodup_append]
      refine ⟨hn,by simp,fun x hx y hy=>?_⟩
      simp at hy
      subst hy
      rintro rfl
      exact h8 (List.any_eq_true.2 ⟨x,hx,by simp⟩)
     have:=i2 this
     simpa using this
   ·rename_i h7
    obtain ⟨i1,i2,i3⟩:=insErr_spD h
    rw [if_neg h7]
    rw [if_neg h7] at i1 i2 ⊢
    exact ⟨i1,i2,up i3⟩

theorem gatesIns_spD {m : Md} {a : Int} : ∀ {l : List Mg} {sp : List Str},(gatesIns m a l sp).1 = 0 →
  (gatesIns m a l sp).2 = sp ++ l.flatMap spS ∧ (sp.Nodup → (sp ++ l.flatMap spS).Nodup) ∧ ∀ g ∈ l,∀ (j : Nat) (hj : j < g.ins.length),mustEv g (j : Nat) = true → 0 ≤ i_event m.evs g.ins[j]
 | [],_,_=>⟨by simp [gatesIns],fun h=>by simpa using h,fun g hg=>by simp at hg⟩
 | g :: l,sp,h=>by
   have e : gatesIns m a (g :: l) sp = gatesIns m a (g :: l) sp:=rfl
   conv at e=>rhs; unfold gatesIns
   rw [e] at h ⊢
   split at h
   ·rename_i h1; exact absurd h h1
   rename_i h1
   rw [if_neg h1]
   obtain ⟨i1,i2,i3⟩:=insErr_spD (by simpa using h1)
   obtain ⟨k1,k2,k3⟩:=gatesIns_spD h
   rw [show (if g.kind = 7 then g.ins else []) = spS g from rfl] at i1 i2
   rw [i1] at k1 k2
   refine ⟨by rw [i1,k1]; simp,fun hn=>by have:=k2 (i2 hn); simpa using this,fun x hx=>?_⟩
   rcases List.mem_cons.1 hx with rfl | hx
   ·intro j hj hmu
    exact i3 j hj (by rw [Nat.zero_add]; exact hmu)
   ·exact k3 x hx

theorem insAll_spD {m : Md} : ∀ {l : List Int} {sp : List Str},insAll m l sp = 0 →
  (sp.Nodup → (sp ++ l.flatMap fun a=>(gatesM m a).flatMap spS).Nodup) ∧ ∀ a ∈ l,∀ g ∈ gatesM m a,∀ (j : Nat) (hj : j < g.ins.length),mustEv g (j : Nat) = true → 0 ≤ i_event m.evs g.ins[j]
 | [],_,_=>⟨fun h=>by simpa using h,fun a ha=>by simp at ha⟩
 | a :: l,sp,h=>by
   unfold insAll at h
   split at h
   ·rename_i h1; exact absurd h h1
   rename_i h1
   have h1 : (pageIns m a sp).1 = 0:=by simpa using h1
   have hp : (gatesIns m a (gatesM m a) sp).1 = 0 ∧ pageIns m a sp = gatesIns m a (gatesM m a) sp:=by
    unfold pageIns at h1 ⊢
    split at h1
    ·rename_i h5; exact absurd h1 h5
    rename_i h5
    split at h1
    ·cases h1
    rename_i h6
    exact ⟨by simpa using h5,by rw [if_neg h5,if_neg h6]⟩
   obtain ⟨i1,i2,i3⟩:=gatesIns_spD hp.1
   rw [hp.2,i1] at h
   obtain ⟨k1,k2⟩:=insAll_spD h
   refine ⟨fun hn=>by have:=k1 (i2 hn); simpa using this,fun x hx=>?_⟩
   rcases List.mem_cons.1 hx with rfl | hx
   ·exact i3
   ·exact k2 x hx

theorem range_flat {α β : Type} (d : α) (f : α → List β) (l : List α) : (List.range l.length).flatMap (fun i=>f (l.getD i d)) = l.flatMap f:=by
 have : (List.range l.length).map (fun i=>l.getD i d) = l:=by
  apply List.ext_getElem
  ·simp
  ·intro i h1 h2
   simp at h1
   simp [h1]
 conv=>rhs; rw [← this]
 rw [List.flatMap_map]

theorem nodes_flat (m : Md) : ((allNodes m).flatMap fun x=>spS (gateAt m x)) = (atsM m).flatMap fun a=>(gatesM m a).flatMap spS:=by
 unfold allNodes
 rw [List.flatMap_assoc]
 congr 1
 funext a
 unfold nodesAt
 rw [List.flatMap_map]
 exact range_flat default spS (gatesM m a)

theorem pairwise_sym {α : Type} {R : α → α → Prop} (hs : ∀ a b,R a b → R b a) : ∀ {l : List α},l.Pairwise R → ∀ x ∈ l,∀ y ∈ l,x ≠ y → R x y
 | [],_,x,hx,_,_,_=>by simp at hx
 | z :: l,h,x,hx,y,hy,hn=>by
   rw [List.pairwise_cons] at h
   rcases List.mem_cons.1 hx with hx1 | hx1
   ·rcases List.mem_cons.1 hy with hy1 | hy1
    ·exact absurd (hx1.trans hy1.symm) hn
    ·rw [hx1]; exact h.1 y hy1
   ·rcases List.mem_cons.1 hy with hy1 | hy1
    ·rw [hy1]; exact hs _ _ (h.1 x hx1)
    ·exact pairwise_sym hs h.2 x hx1 y hy1 hn

theorem spares_dis {m : Md} (hM : MOk m) : (∀ x ∈ allNodes m,(spS (gateAt m x)).Nodup) ∧ ∀ x ∈ allNodes m,∀ y ∈ allNodes m,x ≠ y → ∀ s ∈ spS (gateAt m x),∀ t ∈ spS (gateAt m y),s ≠ t:=by
 have h:=(insAll_spD hM.ins).1 (by simp)
 rw [List.nil_append,← nodes_flat] at h
 unfold List.Nodup at h
 rw [List.pairwise_flatMap] at h
 refine ⟨h.1,pairwise_sym (fun a b h s hs t ht e=>h t ht s hs e.symm) h.2⟩

theorem must_evD {m : Md} (hM : MOk m) {a : Int} (ha : a = -1 ∨ (0 ≤ a ∧ a < (m.pages.length : Int))) {g : Mg} (hg : g ∈ gatesM m a) {j : Nat} (hj : j < g.ins.length) (hmu : mustEv g (j : Nat) = true) : 0 ≤ i_event m.evs g.ins[j] :=
 (insAll_spD hM.ins).2 a (ats_mem.2 ha) g hg j hj hmu

theorem ev_okD {m : Md} (h : eventsErr m = 0) {s : Str} (hs : 0 ≤ i_event m.evs s) : nameR s = true:=by
 obtain ⟨i,hi,_,h2⟩:=idx_name hs
 have:=(eventsErr_zero h).2.2.1 i hi
 unfold evErr at this
 split at this
 ·cases this
 rename_i h3
 rw [← h2]
 simpa using h3

theorem ev_resD {m : Md} (hM : MOk m) {a : Int} {s : Str} (hs : 0 ≤ i_event m.evs s) : resR m a s = (0,0,i_event m.evs s):=by
 unfold resR
 rw [if_neg (by rw [name_noAt (ev_okD hM.evs hs)]; simp)]
 unfold resOn
 exact if_pos hs

theorem ev_inj {m : Md} {s t : Str} (hs : 0 ≤ i_event m.evs s) (he : i_event m.evs s = i_event m.evs t) : s = t:=by
 have h1 : (m.evs.getD (i_event m.evs s).toNat default).name = s:=idx_getD (f:=Ev.name) hs
 have h2 : (m.evs.getD (i_event m.evs t).toNat default).name = t:=idx_getD (f:=Ev.name) (show 0 ≤ i_event m.evs t by rw [← he]; exact hs)
 rw [← h1,← h2,he]

theorem twice_no : ∀ {l sp : List Int},l.Nodup → (∀ a ∈ l,a ∉ sp) → twice sp l = false
 | [],_,_,_=>rfl
 | a :: l,sp,h,hd=>by
   rw [List.nodup_cons] at h
   unfold twice
   rw [twice_no h.2 (sp:=sp ++ [a]) (fun b hb=>?_),Bool.or_false]
   ·rw [List.any_eq_false]
    intro y hy
    have:=hd a (by simp)
    simp only [decide_eq_true_eq]
    rintro rfl
    exact this hy
   ·simp only [List.mem_append,List.mem_singleton,not_or]
    exact ⟨hd b (by simp [hb]),fun e=>h.1 (e ▸ hb)⟩

def dv (v : Int) : Dyn:=⟨v,[],0,[],[]⟩
def spAllG (l : List Gate) (sp : List Int) : List Int:=l.foldl (fun sp g=>spAfter g sp) sp

theorem gatesErr_dv (d : Dyn) : ∀ (l : List Gate) (i : Nat) (sp : List Int),gatesErr d l i sp = gatesErr (dv d.vars) l i sp
 | [],_,_=>rfl
 | g :: l,i,sp=>by
   unfold gatesErr
   rw [show gateErr d i g sp = gateErr (dv d.vars) i g sp from rfl,gatesErr_dv d l]

theorem gatesErr_snoc {d : Dyn} {g : Gate} : ∀ {l : List Gate} {i : Nat} {sp : List Int},gatesErr d l i sp = 0 → gateErr d (i + l.length) g (spAllG l sp) = 0 → gatesErr d (l ++ [g]) i sp = 0
 | [],i,sp,_,h=>by
   simp only [List.length_nil,Nat.add_zero] at h
   show (if gateErr d i g sp = 0 then gatesErr d [] (i + 1) (spAfter g sp) else gateErr d i g sp) = 0
   exact (if_pos h).trans rfl
 | x :: l,i,sp,h1,h2=>by
   unfold gatesErr at h1
   split at h1
   ·rename_i h3
    show (if gateErr d i x sp = 0 then gatesErr d (l ++ [g]) (i + 1) (spAfter x sp) else gateErr d i x sp) = 0
    rw [if_pos h3]
    refine gatesErr_snoc h1 ?_
    rw [List.length_cons] at h2
    rw [show i + 1 + l.length = i + (l.length + 1) by omega]
    exact h2
   ·rename_i h3; exact absurd h1 h3

theorem lookO_memD {x : Node} {v : Int} : ∀ {es : Marks},lookO es x = some v → (x,v) ∈ es
 | [],h=>by cases h
 | (y,u) :: es,h=>by
   simp only [lookO] at h
   split at h
   ·rename_i e; obtain rfl:=Option.some.inj h; simp [e]
   ·simp [lookO_memD h]

structure TInv (m : Md) (ve : Int) (s : DS) : Prop where
 ok : gatesErr (dv ve) s.gates 0 [] = 0
 val : ∀ e ∈ s.es,0 ≤ e.2 ∧ e.2 < ve + s.gates.length
 sp : ∀ a ∈ spAllG s.gates [],∃ y ∈ allNodes m,lookO s.es y ≠ none ∧ ∃ t ∈ spS (gateAt m y),a = i_event m.evs t
 dorm : ∀ g ∈ s.gates,g.dorm = zq ∨ ∃ y ∈ allNodes m,g.dorm = (gateAt m y).dorm

theorem spAllG_snoc (l : List Gate) (g : Gate) (sp : List Int) : spAllG (l ++ [g]) sp = spAfter g (spAllG l sp):=by
 unfold spAllG; rw [List.foldl_append]; rfl

theorem TInv.pushG {m : Md} {ve : Int} {s : DS} (h : TInv m ve s) {g : Gate} (hg : gateErr (dv ve) s.gates.length g (spAllG s.gates []) = 0) (h7 : g.kind ≠ 7) (hd : g.dorm = zq ∨ ∃ y ∈ allNodes m,g.dorm = (gateAt m y).dorm) : TInv m ve ⟨s.gates ++ [g],s.es⟩:=by
 refine ⟨gatesErr_snoc h.ok (by rw [Nat.zero_add]; exact hg),fun e he=>?_,?_,fun x hx=>?_⟩
 ·have:=h.val e he
  dsimp only
  rw [List.length_append,List.length_singleton]
  omega
 ·dsimp only
  rw [spAllG_snoc,spAfter,if_neg h7]
  exact h.sp
 ·rcases List.mem_append.1 hx with hx | hx
  ·exact h.dorm x hx
  ·simp at hx; subst hx; exact hd

theorem TInv.pushM {m : Md} {ve : Int} {s : DS} (h : TInv m ve s) (hv : 0 ≤ ve) {g : Gate} {x : Node} (hx : lookO s.es x = none) (hg : gateErr (dv ve) s.gates.length g (spAllG s.gates []) = 0)
  (h7 : g.kind = 7 → x ∈ allNodes m ∧ ∀ a ∈ g.args,∃ t ∈ spS (gateAt m x),a = i_event m.evs t) (hd : g.dorm = zq ∨ ∃ y ∈ allNodes m,g.dorm = (gateAt m y).dorm) : TInv m ve ⟨s.gates ++ [g],mark s.es x (ve + s.gates.length)⟩:=by
 refine ⟨gatesErr_snoc h.ok (by rw [Nat.zero_add]; exact hg),fun e he=>?_,?_,fun x hx=>?_⟩
 ·dsimp only at he ⊢
  rw [(mark_new hx).1] at he
  rw [List.length_append,List.length_singleton]
  rcases List.mem_append.1 he with he | he
  ·have:=h.val e he; omega
  ·simp at he; subst he; dsimp only; omega
 ·have up : ∀ a,(∃ y ∈ allNodes m,lookO s.es y ≠ none ∧ ∃ t ∈ spS (gateAt m y),a = i_event m.evs t) → ∃ y ∈ allNodes m,lookO (mark s.es x (ve + s.gates.length)) y ≠ none ∧ ∃ t ∈ spS (gateAt m y),a = i_event m.evs t:=by
   rintro a ⟨y,h1,h2,h3⟩
   refine ⟨y,h1,?_,h3⟩
   rw [lookO_mark]
   split
   ·simp
   ·exact h2
  dsimp only
  rw [spAllG_snoc,spAfter]
  intro a ha
  split at ha
  ·rename_i h0
   rcases List.mem_append.1 ha with ha | ha
   ·exact up a (h.sp a ha)
   ·obtain ⟨h1,h2⟩:=h7 h0
    refine ⟨x,h1,?_,h2 a ha⟩
    rw [lookO_mark,if_pos rfl]; simp
  ·exact up a (h.sp a ha)
 ·rcases List.mem_append.1 hx with hx | hx
  ·exact h.dorm x hx
  ·simp at hx; subst hx; exact hd

theorem gate_good {m : Md} (hM : MOk m) {s : DS} {x : Node} (hx : x ∈ allNodes m) (hn : lookO s.es x = none) (hT : TInv m m.evs.length s) {bs : List Int} (hl : bs.length = (kidsM m x).length)
  (h0 : ∀ (j : Nat) (h : j < (kidsM m x).length),(kidsM m x)[j].1 = 0 → bs[j]? = some (kidsM m x)[j].2.2) (hb : ∀ b ∈ bs,0 ≤ b ∧ b < (m.evs.length : Int) + s.gates.length) :
  gateErr (dv m.evs.length) s.gates.length ⟨(gateAt m x).kind,(gateAt m x).k,bs,(gateAt m x).dorm⟩ (spAllG s.gates []) = 0 ∧ ((gateAt m x).kind = 7 → ∀ a ∈ bs,∃ t ∈ spS (gateAt m x),a = i_event m.evs t):=by
 obtain ⟨_,hpg,hix⟩:=mem_all.1 hx
 have hil : x.2.2.toNat < (gatesM m x.2.1).length:=by omega
 have hge : gateAt m x = (gatesM m x.2.1)[x.2.2.toNat]:=getD_lt hil
 have hgm : gateAt m x ∈ gatesM m x.2.1:=by rw [hge]; exact List.getElem_mem hil
 have hown : mgErr (gateAt m x) = 0:=by rw [hge]; exact (hM.gate hpg hil).own
 have hkl : (kidsM m x).length = (gateAt m x).ins.length:=by simp [kidsM]
 have hev : ∀ (j : Nat) (hj : j < (gateAt m x).ins.length),mustEv (gateAt m x) (j : Nat) = true → 0 ≤ i_event m.evs (gateAt m x).ins[j] ∧ bs[j]? = some (i_event m.evs (gateAt m x).ins[j]):=by
  intro j hj hmu
  have h1:=must_evD hM hpg hgm hj hmu
  have h2 : (kidsM m x)[j]'(by omega) = (0,0,i_event m.evs (gateAt m x).ins[j]):=by
   have : (kidsM m x)[j]'(by omega) = resR m x.2.1 (gateAt m x).ins[j]:=by simp [kidsM]
   rw [this,ev_resD hM h1]
  refine ⟨h1,?_⟩
  have:=h0 j (by omega) (by rw [h2])
  rw [this,h2]
 have hall7 : (gateAt m x).kind = 7 → bs = (gateAt m x).ins.map (i_event m.evs) ∧ ∀ s ∈ (gateAt m x).ins,0 ≤ i_event m.evs s:=by
  intro h7
  have hm7 : ∀ j : Nat,mustEv (gateAt m x) (j : Nat) = true:=fun j=>by simp [mustEv,h7]
  constructor
  ·apply List.ext_getElem?
   intro j
   by_cases hj : j < (gateAt m x).ins.length
   ·rw [(hev j hj (hm7 j)).2,List.getElem?_map,List.getElem?_eq_getElem hj]; rfl
   ·rw [List.getElem?_eq_none (by omega),List.getElem?_eq_none (by simp; omega)]
  ·intro s hs
   obtain ⟨j,hj,rfl⟩:=List.getElem_of_mem hs
   exact (hev j hj (hm7 j)).1
 have hevl : ∀ s : Str,i_event m.evs s < (m.evs.length : Int):=fun s=>idxP_lt _ _
 obtain ⟨hd1,hd2⟩:=spares_dis hM
 have hspS : (gateAt m x).kind = 7 → spS (gateAt m x) = (gateAt m x).ins:=fun h=>if_pos h
 have hsub : (gateAt m x).kind = 7 → ∀ a ∈ bs,∃ t ∈ spS (gateAt m x),a = i_event m.evs t:=by
  intro h7 a ha
  rw [(hall7 h7).1] at ha
  obtain ⟨t,ht,rfl⟩:=List.mem_map.1 ha
  exact ⟨t,by rw [hspS h7]; exact ht,rfl⟩
 refine ⟨?_,hsub⟩
 generalize hgx : gateAt m x = g at *
 unfold mgErr at hown
 split at hown
 ·cases hown
 rename_i n1
 split at hown
 ·cases hown
 rename_i n2
 split at hown
 ·cases hown
 rename_i n3
 split at hown
 ·cases hown
 rename_i n4
 split at hown
 ·cases hown
 rename_i n5
 split at hown
 ·cases hown
 rename_i n6
 split at hown
 ·cases hown
 rename_i n7
 have hbl : bs.length = g.ins.length:=by omega
 have fin : ∀ (a1 : ¬ (bs.any fun a=>decide (a < 0) || decide ((m.evs.length : Int) + s.gates.length ≤ a)) = true)
   (a2 : ¬ ((g.kind = 7 ∧ (bs.any fun a=>decide ((m.evs.length : Int) ≤ a)) = true) ∨ (g.kind = 8 ∧ ((bs.drop 1).any fun a=>decide ((m.evs.length : Int) ≤ a)) = true)))
   (a3 : ¬ (g.kind = 7 ∧ twice (spAllG s.gates []) bs = true)),gateErr (dv m.evs.length) s.gates.length ⟨g.kind,g.k,bs,g.dorm⟩ (spAllG s.gates []) = 0:=by
  intro a1 a2 a3
  exact (if_neg n1).trans ((if_neg n2).trans ((if_neg (by show ¬ argsR g.kind bs.length = false; rw [hbl]; exact n3)).trans ((if_neg a1).trans ((if_neg a2).trans ((if_neg a3).trans
   ((if_neg (by show ¬ (g.kind = 2 ∧ (g.k < 1 ∨ (bs.length : Int) < g.k)); rw [hbl]; exact n4)).trans ((if_neg n5).trans ((if_neg n6).trans (if_neg n7)))))))))
 refine fin ?_ ?_ ?_
 rotate_left 2
 ·rintro ⟨h7,ht⟩
  obtain ⟨hbs,hpos⟩:=hall7 h7
  rw [twice_no] at ht
  ·cases ht
  ·rw [hbs]
   have hnd:=hd1 x hx
   rw [hgx,hspS h7] at hnd
   unfold List.Nodup at hnd ⊢
   rw [List.pairwise_map]
   refine hnd.imp_of_mem fun {a b} ha hb hab e=>hab (ev_inj (hpos a ha) e)
  ·intro a ha hsp
   obtain ⟨y,hy,hyn,t,ht2,hat⟩:=hT.sp a hsp
   obtain ⟨s2,hs2,has⟩:=hsub h7 a ha
   have hxy : y ≠ x:=by rintro rfl; exact hyn hn
   have:=hd2 y hy x hx hxy t ht2 s2 (by rw [hgx]; exact hs2)
   rw [hspS h7] at hs2
   exact this ((ev_inj (hpos s2 hs2) (has.symm.trans hat)).symm)
 ·rw [Bool.not_eq_true,List.any_eq_false]
  intro a ha
  have:=hb a ha
  simp; omega
 ·rintro (⟨h7,h⟩ | ⟨h8,h⟩)
  ·obtain ⟨b,hb1,hb2⟩:=List.any_eq_true.1 h
   rw [(hall7 h7).1] at hb1
   obtain ⟨t,ht,rfl⟩:=List.mem_map.1 hb1
   have:=hevl t
   simp at hb2; omega
  ·obtain ⟨b,hb1,hb2⟩:=List.any_eq_true.1 h
   obtain ⟨j,hj,rfl⟩:=List.getElem_of_mem hb1
   simp only [List.length_drop] at hj
   have hj2 : 1 + j < g.ins.length:=by omega
   obtain ⟨h1,h2⟩:=hev (1 + j) hj2 (by simp [mustEv,h8]; omega)
   rw [List.getElem?_eq_getElem (by omega)] at h2
   have h2:=Option.some.inj h2
   have:=hevl g.ins[1 + j]
   simp only [List.getElem_drop,h2] at hb2
   simp at hb2; omega
end S
